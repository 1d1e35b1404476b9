/- A part of the claim: the evaluator and the contracts. Conditions: none here. -/
import Derived.Test.YtofbhlhamfkljaaGreatDoorPc
set_option linter.unusedVariables false
set_option linter.unusedSimpArgs false
set_option linter.defProp false
set_option maxHeartbeats 0
set_option maxRecDepth 1000000
namespace Go.Proofs.YtofbhlhamfkljaaGreatDoor.Ve
open Go Go.RowKit
open Go.Proofs.Tryz (prog)
def E8(s:StD)(x:Q):StD:=if s.paths.any (fun y=>M6 y x) then s else⟨s.paths++[x],s.progs++[B9 x],s.base++[A0 s.progs],s.main⟩
def C0(q:Q):StD:=(inQ false q).foldl E8 ⟨[],[],[],B9 q⟩
theorem U6(l:List PrD)(p:PrD):A0 (l++[p])=A0 l+p.st:=by simp [A0]
theorem yJ(K:Nat)(H:N7)(lo b0 E:Nat)(h8:lo<=b0)(m1:b0=H.next)(r2:b0+2<=E)(Rt:LV->Q->Prop)(l1:∀k' el x,k'<=K->QR H lo k' true el x->Rt el x) (lv:Value) (l:List Q) (hl:l.length<=100000) (m6:∀x∈l,OkD false x/\nQ x<=100000) (ms:LV) (z:Blk) (H1:N7) (e7:i6 b0 H H1) (hz:H1.get (b0+1)=some z) (d4:StD):
  ∀kk e H2,(∃(i:Nat)(s:StD)(w1 w2 w3:Value)(G:Nat->Prop),kk=l.length-i/\i<=l.length/\s.progs.length<=i/\s.paths.length=s.progs.length/\s.base.length=s.progs.length/\0<=A0 s.progs/\A0 s.progs<=200000*i/\
    e.get 2=pT (b0+1)/\e.get 3=pT E/\e.get 4=lv/\e.get 5=iV (A0 s.progs)/\e.get 6=iV i/\
    H2.get E=cE (w1::w2::w3::ms) 1/\PrF H2 G Rt ms s.main/\SlF H2 G 3 (QR H lo K false) lv l/\u6 H2 (E+1) 3 (QR H lo K false) w1 s.paths/\u6 H2 (E+1) 5 (PrF H2 G Rt) w2 s.progs/\u6 H2 (E+1) 1 (w9 inE) w3 s.base/\
    (∀j,G j->b0+2<=j/\j<H2.next/\j≠E/\¬l7 w1 j/\¬l7 w2 j/\¬l7 w3 j)/\(∀j,l7 w1 j->¬l7 w2 j/\¬l7 w3 j)/\(∀j,l7 w2 j->¬l7 w3 j)/\i6 (b0+2) H1 H2/\(l.drop i).foldl E8 s=d4)->
  w7 (LE prog t6 (.loop Ns) e H2) (fun o e H2=>o= .exit 0/\e.get 2=pT (b0+1)/\e.get 3=pT E/\∃(w1 w2 w3:Value)(G:Nat->Prop),H2.get E=cE (w1::w2::w3::ms) 1/\PrF H2 G Rt ms d4.main/\u6 H2 (E+1) 3 (QR H lo K false) w1 d4.paths/\u6 H2 (E+1) 5 (PrF H2 G Rt) w2 d4.progs/\u6 H2 (E+1) 1 (w9 inE) w3 d4.base/\(∀j,G j->b0+2<=j/\j<H2.next/\j≠E)/\i6 (b0+2) H1 H2):=by
 subst m1;refine i8 _ _ ?_;rintro kk e H2 ⟨i,s,w1,w2,w3,G,p9,hi,r3,i2,h3,m3,p8,f2,f3,f4,f5,f6,g3,c6,d9,W,S,J,hG,d1,d2,hS,fu⟩;have r1:=hS.next;have p7:=e7.next;have r4:=u7 hz;have i1:=u7 g3;obtain⟨la,lc,h9⟩:=d9.slice;subst h9;rcases b:decide ((i:Int)<l.length)with _|_
 .have m0:=dF b;have:l.drop i=[]:=dN oM;rw[this,List.foldl_nil]at fu;refine J3 f4 f6 b ?_;exact i9 ⟨rfl,f2,f3,w1,w2,w3,G,g3,by rw[<-fu];exact c6,by rw[<-fu];exact W,by rw[<-fu];exact S,by rw[<-fu];exact J,fun j D=>⟨(hG j D).1,(hG j D).2.1,(hG j D).2.2.1⟩,hS⟩
 have m0:=dT b;obtain⟨x,nb,o,o9,own,el,hx,hd,rfl,g7,e9,q7,e5,hc,hR⟩:=d9.row (i:=i) oM;have nt:(i:Int).toNat=i:=tN i;obtain⟨i0,m5⟩:=m6 x (mG hx);have o6:=dR x;rw[hd,List.foldl_cons]at fu;have d5:∀cs a,QR H lo K false cs a->QR H2 lo K false cs a:=fun _ _ h=>h.mono (fun j D=>by rw[hS.get j oM,e7.get j oM]) lR;obtain⟨pa,pc,e1⟩:=W.slice;obtain⟨ga,gc,e2⟩:=S.slice;obtain⟨ba,bc,e3⟩:=J.slice;obtain⟨ea,ec,ta,tc,k2,q8,q9⟩:=D5 c6;have m7:StF H2 (fun j=>G j\/l7 w1 j\/l7 w2 j\/l7 w3 j) (QR H2 lo K false) Rt (w1::w2::w3::ms) s:=⟨w1,w2,w3,ms,rfl,(W.frz fun b U=> .inr (.inl U)).mono (fun _ _=>rfl) (fun _ h=>h) d5,(S.frz fun b U=> .inr (.inr (.inl U))).mono (fun _ _=>rfl) (fun _ h=>h) (fun _ _ h=>h.sub fun j D=> .inl D),J.frz fun b U=> .inr (.inr (.inr U)),c6.sub fun j D=> .inl D⟩
 have i3:∀j,(G j\/l7 w1 j\/l7 w2 j\/l7 w3 j)->j<H2.next:=by
  rintro j (q|q|q|q)
  .exact(hG j q).2.1
  .exact(W.lt q).2
  .exact(S.lt q).2
  .exact(J.lt q).2
 have b1:=io K H2 _ lo Rt (w1::w2::w3::ms) el s x oM i3 m7 (d5 _ _ hR) oM;have b3:ldC (some true) (some 8) 0 (w1::w2::w3::ms)=some (.agg (w1::w2::w3::ms).toArray):=by rw[e1,e2,e3,k2];rfl
 obtain⟨R8,d0⟩:=eY (w1::w2::w3::ms);rw[<-d0]at g3 b1 b3;have f0:=Tq c6;have l8:R8.length=8:=by rw[d0];simp [f0]
 have n2:R8[0]?=some w1:=by rw[d0];rfl
 have c0:decide (0<=jl s.paths x)=s.paths.any (fun y=>M6 y x):=gN _ _;rcases b2:s.paths.any (fun y=>M6 y x)with _|_
 .rw[b2]at c0;have b4:E8 s x=⟨s.paths++[x],s.progs++[B9 x],s.base++[A0 s.progs],s.main⟩:=by rw[E8,b2];rfl
  rw[b4]at fu;obtain⟨v3,p0,H3,m2,h4,O,rfl,a1,d8⟩:=kZ K K oM H2 lo Rt el x oM (d5 _ _ hR) (fun k' el x m4 h=>l1 k' el x m4 (h.mono (fun j D=>by rw[hS.get j oM,e7.get j oM]) lR)) i0 m5;have n3:=d8.next;have a3:=gU a1;have l3:=Tq a1;obtain⟨H4,k9,n4,k3,e4⟩:=pushP H3 (bC z5 1) (bC O 1);have o5:splice z5 0 O=O:=x9 _ _ (by rw[l3];rfl);have k4:∀j,j<H2.next->H4.get j=H2.get j:=fun j D=>by rw[e4.get j oM,d8.get j D]
  have g1:H4.get E=cE R8 1:=(k4 _ i1).trans g3;have g2:=(k4 nb (hG nb g7).2.1).trans e9;have g8:u6 H4 (E+1) 3 (QR H lo K false) w1 s.paths:=W.same fun b U=>k4 b (W.lt U).2;have j0:el.all oC=true:=by
   cases K with
   |zero=>exact hR.elim
   |succ k=>obtain⟨_,_,_,_,rfl,_⟩:=hR.path;rfl
  have j2:∀Hx:N7,bsA prog (some 25) Hx 1 [(0,.agg el.toArray)]=some (sL Hx.next 1 1,Hx.push (bC el 3)):=fun Hx=>by
   cases K with
   |zero=>exact hR.elim
   |succ k=>obtain⟨_,_,_,_,rfl,_⟩:=hR.path;simp only[C7,aq,C8];rfl
  obtain⟨u1,p4,H5,l4,h5,b7,a2⟩:=g8.push1F (P:=prog) (t:=22) (cs:=el) (a:=x) (by exact lP.2.2.2.2.2.2) aq.1 aq.2.1 aq.2.2.1 oM oM hR.len hR oM oM;have n5:=a2.next;have f1:∀j,j<=E->¬l7 w1 j/\¬l7 w2 j/\¬l7 w3 j:=fun j D=>⟨fun q=>by have:=W.lt q;omega,fun q=>by have:=S.lt q;omega,fun q=>by have:=J.lt q;omega⟩
  have k5:H5.get E=cE R8 1:=(a2.but E oM (f1 E lR).1).trans g1;have k8:(H4.push (bC el 3)).get nb=_:=(i7 (oN (hG nb g7))).trans g2;obtain⟨a7,b8⟩:=eY (u1::w2::w3::ms);obtain⟨ua,uc,f7⟩:=b7.slice;have m9:Value.oneCell' u1=true:=by rw[f7];rfl
  have j4:u1.cells.toList=[u1]:=by rw[f7];rfl
  have o2:splice R8 0 [u1]=a7:=by rw[d0,b8];rfl
  have la:a7.length=8:=by rw[b8];simp [f0]
  have o0:a7[1]?=some w2:=by rw[b8];rfl
  obtain⟨H6,c4⟩:=eY (H5.put E (bC a7 1));have n6:H6.next=H5.next:=by rw[c4,t5]
  have g4:H6.get E=cE a7 1:=by rw[c4];exact j5 oM
  have c8:∀j,j<H4.next->¬l7 w1 j->j≠E->H6.get j=H4.get j:=fun j D h1 h2=>by rw[c4,j6 (fun q=>h2 q.symm)];exact a2.but j D h1
  have g5:H6.get H3.next=cE O 1:=(c8 _ oM (fun q=>by have:=W.lt q;omega) oM).trans k3;have m8:ldC (some true) (some 5) 0 O=some (.agg O.toArray):=by obtain⟨_,_,_,_,rfl,_⟩:=D5 a1;rfl
  obtain⟨G2,c3⟩:=eY (fun j=>G j\/(H2.next<=j/\j<H3.next):Nat->Prop);have b6:∀j,G2 j->H6.get j=H3.get j/\j≠E/\j<H3.next/\¬l7 w1 j/\¬l7 w2 j/\¬l7 w3 j:=fun j D=>by
   rw[c3]at D;rcases D with D|D
   .have:=hG j D;exact⟨by rw[c8 j oM this.2.2.2.1 this.2.2.1,e4.get j oM],this.2.2.1,oM,this.2.2.2⟩
   .have e:¬l7 w1 j/\¬l7 w2 j/\¬l7 w3 j:=⟨fun q=>by have:=W.lt q;omega,fun q=>by have:=S.lt q;omega,fun q=>by have:=J.lt q;omega⟩
    exact⟨by rw[c8 j oM e.1 oM,e4.get j oM],oM,oM,e⟩
  have e8:PrF H6 G2 Rt O (B9 x):=a1.mono (fun j D=>(b6 j (by rw[c3];exact .inr D)).1) (fun j D=>by rw[c3];exact .inr D) iF;have d3:∀j,G j->H6.get j=H2.get j:=fun j D=>by rw[(b6 j (by rw[c3];exact .inl D)).1,d8.get j (hG j D).2.1]
  have a6:∀j,G j->G2 j:=fun j D=>by rw[c3];exact .inl D
  have g9:u6 H6 (E+1) 5 (PrF H6 G2 Rt) w2 s.progs:=(S.same (H':=H6) fun b U=>by have:=S.lt U;rw[c8 b oM (fun q=>(d1 b q).1 U) oM,k4 b this.2]).imp fun cs p h=>h.mono d3 a6 iF;obtain⟨u2,p5,H7,l5,h6,a5,a4⟩:=g9.push1F (P:=prog) (t:=28) (cs:=O) (a:=B9 x) (by exact MD.2.2.2.2.2.2) pL.1 pL.2.1 pL.2.2.1 oM oM l3 e8 oM oM;have n7:=a4.next;have j1:∀Hx:N7,bsA prog (some 32) Hx 1 [(0,.agg O.toArray)]=some (sL Hx.next 1 1,Hx.push (bC O 5)):=fun Hx=>by
   obtain⟨_,_,_,_,rfl,_⟩:=D5 a1;simp only[C7,pL,C8];rfl
  have k6:H7.get E=cE a7 1:=(a4.but E oM (f1 E lR).2.1).trans g4;obtain⟨a8,b9⟩:=eY (u1::u2::w3::ms);obtain⟨ub,r7,f8⟩:=a5.slice;have n0:Value.oneCell' u2=true:=by rw[f8];rfl
  have k0:u2.cells.toList=[u2]:=by rw[f8];rfl
  have o3:splice a7 1 [u2]=a8:=by rw[b8,b9];rfl
  have lb:a8.length=8:=by rw[b9];simp [f0]
  have o1:a8[2]?=some w3:=by rw[b9];rfl
  obtain⟨H8,c5⟩:=eY (H7.put E (bC a8 1));have n8:H8.next=H7.next:=by rw[c5,t5]
  have g6:H8.get E=cE a8 1:=by rw[c5];exact j5 oM
  have d6:∀j,j<H6.next->¬l7 w2 j->j≠E->H8.get j=H6.get j:=fun j D h1 h2=>by rw[c5,j6 (fun q=>h2 q.symm)];exact a4.but j D h1
  have h0:u6 H8 (E+1) 1 (w9 inE) w3 s.base:=J.same (H':=H8) fun b U=>by
   have:=J.lt U;rw[d6 b oM (fun q=>d2 b q U) oM,c8 b oM (fun q=>(d1 b q).2 U) oM,k4 b this.2]
  obtain⟨u3,p6,H9,l6,h7,c9,a9⟩:=h0.push1F (P:=prog) (t:=29) (cs:=inE (A0 s.progs)) (a:=A0 s.progs) (by exact CE.2.2.2.2.2.2) ty3.1 ty3.2.1 ty3.2.2.1 oM oM rfl rfl oM oM;have n9:=a9.next;have k7:H9.get E=cE a8 1:=(a9.but E oM (f1 E lR).2.2).trans g6;obtain⟨r6,o8,f9⟩:=c9.slice;have n1:Value.oneCell' u3=true:=by rw[f9];rfl
  have k1:u3.cells.toList=[u3]:=by rw[f9];rfl
  have o4:splice a8 2 [u3]=u1::u2::u3::ms:=by rw[b9];rfl
  obtain⟨c7,X⟩:=eY (H9.put E (bC (u1::u2::u3::ms) 1));have r5:c7.next=H9.next:=by rw[X,t5]
  have b5:∀j,j<H8.next->¬l7 w3 j->j≠E->c7.get j=H8.get j:=fun j D h1 h2=>by rw[X,j6 (fun q=>h2 q.symm)];exact a9.but j D h1
  have g0:c7.get H3.next=cE O 1:=by
   rw[b5 _ oM (fun q=>by have:=J.lt q;omega) oM,d6 _ oM (fun q=>by have:=S.lt q;omega) oM];exact g5
  have j3:O[0]?=some (.int .i64 (B9 x).st):=by obtain⟨_,_,_,_,rfl,_⟩:=D5 a1;rfl
  refine J30 f3 f4 f5 (aI f6 b) (aI g3 b3) (aI e9 nt) (aI e5 b1) (aI c0 m2) (aI h4 a3) (aI l3 o5) (aI k9.symm g1) (aI n2 g2) (aI k8 j2) (aI l4 h5) (aI k5 l8) (aI m9 j4) (aI o2 c4.symm) (aI g4 o0) (aI g5 m8) (aI j1 l5) (aI h6 k6) (aI la n0) (aI k0 o3) (aI c5.symm g6) (aI o1 l6) (aI h7 k7) (aI lb n1) (aI k1 o4) (aI X.symm g0) (aI j3 @wrap_small) ?_;have e6:∀j,G2 j->c7.get j=H6.get j:=fun j D=>by
   obtain⟨q1,q2,q3,q4,q5,q6⟩:=b6 j D;rw[b5 j oM q6 q2,d6 j oM q5 q2]
  have o7:∀{w u:Value}{Ha Hb:N7}{lo:Nat},ak lo w Ha u Hb->∀b,l7 u b->l7 w b\/Ha.next<=b:=fun h=>h.new;refine i4 (kk-1) oM ⟨i+1,⟨s.paths++[x],s.progs++[B9 x],s.base++[A0 s.progs],s.main⟩,u1,u2,u3,G2,oM,oM,by simp;omega,by simp [i2],by simp [h3],by show 0<=A0 (s.progs++[B9 x]);rw[U6];omega,by show A0 (s.progs++[B9 x])<=_;rw[U6];omega,f2,f3,f4,by show Env.get _ 5=iV (A0 (s.progs++[B9 x]));rw[U6];rfl,rfl,by rw[X];exact j5 oM,?_,?_,?_,?_,?_,?_,?_,?_,?_,fu⟩
  .exact c6.mono (fun j D=>by rw[e6 j (a6 j D),d3 j D]) a6 iF
  .exact d9.mono (fun j D=>by rw[e6 j (a6 j D),d3 j D]) a6 iF
  .refine b7.same fun b U=>?_;have h1:=b7.lt U;have h2:¬l7 w2 b/\¬l7 w3 b:=by
    rcases a2.new b U with q|q
    .exact d1 b q
    .exact⟨fun q=>by have:=S.lt q;omega,fun q=>by have:=J.lt q;omega⟩
   rw[b5 b oM h2.2 oM,d6 b oM h2.1 oM,c4,j6 oM]
  .refine(a5.same (H':=c7) fun b U=>?_).imp fun cs p h=>h.mono e6 (fun _ h=>h) iF;have h1:=a5.lt U;have h2:¬l7 w3 b:=by
    rcases a4.new b U with q|q
    .exact d2 b q
    .exact fun q=>oN (J.lt q)
   rw[b5 b oM h2 oM,c5,j6 oM]
  .refine c9.same fun b U=>?_;have h1:=c9.lt U;rw[X,j6 oM]
  .intro j D;obtain⟨q1,q2,q3,q4,q5,q6⟩:=b6 j D;have h8:H.next+2<=j:=by
    rw[c3]at D;rcases D with D|D
    .exact(hG j D).1
    .omega
   refine⟨h8,oM,q2,fun q=>?_,fun q=>?_,fun q=>?_⟩
   .rcases a2.new j q with q|q
    .exact q4 q
    .omega
   .rcases a4.new j q with q|q
    .exact q5 q
    .omega
   .rcases a9.new j q with q|q
    .exact q6 q
    .omega
  .intro j D;have h1:=b7.lt D;refine⟨fun q=>?_,fun q=>?_⟩
   .have h2:=a5.lt q;rcases a4.new j q with q|q
    .have:=S.lt q;rcases a2.new j D with r|r
     .exact(d1 j r).1 q
     .omega
    .omega
   .rcases a9.new j q with q|q
    .have:=J.lt q;rcases a2.new j D with r|r
     .exact(d1 j r).2 q
     .omega
    .omega
  .intro j D q;have h1:=a5.lt D;rcases a9.new j q with q|q
   .have:=J.lt q;rcases a4.new j D with r|r
    .exact d2 j r q
    .omega
   .omega
  .refine((((((hS.trans (d8.weaken oM)).trans (e4.weaken oM)).trans (a2.stay.weaken oM)).trans ?_).trans (a4.stay.weaken oM)).trans ?_).trans ((a9.stay.weaken oM).trans ?_)
   .rw[c4];exact i6.put oM
   .rw[c5];exact i6.put oM
   .rw[X];exact i6.put oM
 .rw[b2]at c0;have b4:E8 s x=s:=by rw[E8,b2];rfl
  rw[b4]at fu;refine J12 f3 f4 f6 b g3 b3 e9 nt e5 b1 c0 @wrap_small ?_;exact i4 (kk-1) oM ⟨i+1,s,w1,w2,w3,G,oM,oM,oM,i2,h3,m3,oM,f2,f3,f4,f5,rfl,by rw[<-d0];exact g3,c6,d9,W,S,J,hG,d1,d2,hS,fu⟩
theorem jx:∀(l:List Q)(F:Q->List Q),(∀x∈l,(F x).length+1<=nQ x)->(l.flatMap F).length+l.length<=nL l
 |[],F,_=>by simp [nL]
 |x::l,F,h=>by
  have z:=h x sM;have D:=jx l F fun y u=>h y (by simp [u]);rw[nL,List.flatMap_cons,List.length_append,List.length_cons];omega
theorem kq:∀(l:List Q)(x:Q),x∈l->nQ x<=nL l
 |y::l,x,h=>by
  rw[nL];rcases List.mem_cons.1 h with rfl|h
  .omega
  .have:=kq l x h;omega
theorem bS:∀(n:Nat)(f:Bool)(q:Q),nQ q<=n->OkD f q->(inQ f q).length+1<=nQ q/\∀x∈inQ f q,OkD false x/\nQ x<=nQ q:=by
 intro n;induction n with
 |zero=>intro f q h;have:=fq q;omega
 |succ n S=>
  intro f q h ho;have hq:=fq q;obtain⟨J,D,_⟩:=ho.parts;have ia:∀g,(∀x∈q.a,OkD g x)->(inL g q.a).length+q.a.length<=nL q.a/\∀x∈inL g q.a,OkD false x/\nQ x<=nL q.a:=by
   intro g E;have e:∀x∈q.a,nQ x<=n:=fun x u=>oN (kq _ _ u);rw[eU];refine⟨jx _ _ fun x u=>(S g x (e x u) (E x u)).1,fun x u=>?_⟩;obtain⟨y,z,u⟩:=List.mem_flatMap.1 u;have:=(S g y (e y z) (E y z)).2 x u;have X:=kq _ _ z;exact⟨this.1,oM⟩
  have W:∀g,(∀x∈q.b,OkD g x)->(inL g q.b).length+q.b.length<=nL q.b/\∀x∈inL g q.b,OkD false x/\nQ x<=nL q.b:=by
   intro g E;have e:∀x∈q.b,nQ x<=n:=fun x u=>oN (kq _ _ u);rw[eU];refine⟨jx _ _ fun x u=>(S g x (e x u) (E x u)).1,fun x u=>?_⟩;obtain⟨y,z,u⟩:=List.mem_flatMap.1 u;have:=(S g y (e y z) (E y z)).2 x u;have X:=kq _ _ z;exact⟨this.1,oM⟩
  cases f
  .rw[nz];have O:=ia false J;have U:=W true D;refine⟨by rw[List.length_append];omega,fun x u=>?_⟩;rcases List.mem_append.1 u with u|u
   .have:=O.2 x u;exact⟨this.1,oM⟩
   .have:=U.2 x u;exact⟨this.1,oM⟩
  .rw[iB];have O:=ia true J;have U:=W false D;split
   .refine⟨by simp only[List.length_append];omega,fun x u=>?_⟩;rcases List.mem_append.1 u with u|u
    .have:=O.2 x u;exact⟨this.1,oM⟩
    .rcases List.mem_append.1 u with u|u
     .have:=U.2 x u;exact⟨this.1,oM⟩
     .have:=kq _ _ u;exact⟨D x u,oM⟩
   .rw[List.append_nil];refine⟨oM,fun x u=>?_⟩;have:=O.2 x u;exact⟨this.1,oM⟩
def vZ(H:N7)(Rp Rt:LV->Q->Prop)(s:StD)(w:Value)(H1:N7):Prop:=∃cs',w= .agg cs'.toArray/\StF H1 (fun j=>H.next<=j/\j<H1.next) Rp Rt cs' s/\i6 H.next H H1
theorem qQ{H H':N7}{O S:LV->Q->Prop}{cs':LV}{s:StD}(hp:StF H' (fun j=>H.next<=j/\j<H'.next) O S cs' s) (hS:i6 H.next H H') (hl:H.next<=H'.low) {c:Bool} (E:c=true->cs'.all na0=true):
  Ret (some (br c (.agg cs'.toArray,none) (.agg cs'.toArray,some ⟨H'.bs,min H.low H'.low⟩))) H (vZ H O S s):=by
 obtain⟨v1,J,v3,ms,rfl,U,z,W,ve,vt,rfl,X,h5⟩:=hp;refine dI (fun u=>?_) ⟨_,rfl,⟨v1,J,v3,_,rfl,U,z,W,ve,vt,rfl,X,h5⟩,hS.ret hl⟩;have u:=E u;simp only[List.cons_append,List.nil_append,List.all_cons,Bool.and_eq_true]at u;have n2:s.progs=[]:=by
  rcases z with⟨_,h⟩|⟨b,o,c,D,_⟩
  .exact h
  .rw[D]at u;simp [na0]at u
 have e2:J=nS:=by
  rcases z with⟨h,_⟩|⟨b,o,c,D,_⟩
  .exact h
  .rw[D]at u;simp [na0]at u
 exact⟨_,rfl,⟨v1,J,v3,_,rfl,dG U u.1,.inl ⟨e2,n2⟩,dG W u.2.2.1,ve,vt,rfl,dG X u.2.2.2.2.2.2.1,dG h5 u.2.2.2.2.2.2.2.1⟩,i6.refl _ _⟩
abbrev z8:LV:=[nS,nS,nS,iV 0,iV 0,iV 0,nS,nS]
theorem Cm(K:Nat)(H:N7)(lo:Nat)(Rt:LV->Q->Prop)(cs:LV)(q:Q)(d9:lo<=H.next)(hr:QR H lo K false cs q)(b7:∀k' el x,k'<=K->QR H lo k' true el x->Rt el x) (b3:OkD false q) (f4:nQ q<=1000):
  Ret (CL prog t6 36 [.agg cs.toArray] H) H (vZ H (QR H lo K false) Rt (C0 q)):=by
 have a0:cs.all oC=true:=by
  cases K with
  |zero=>exact hr.elim
  |succ k=>obtain⟨_,_,_,_,rfl,_⟩:=hr.path;rfl
 have e6:ldC (some true) (some 3) 0 cs=some (.agg cs.toArray):=by
  cases K with
  |zero=>exact hr.elim
  |succ k=>obtain⟨_,_,_,_,rfl,_⟩:=hr.path;rfl
 obtain⟨X,S⟩:=eY ((N7.push ⟨H.bs,H.next⟩ (bC cs 1)).push (bC z8 1));have n0:(N7.push ⟨H.bs,H.next⟩ (bC cs 1)).next=H.next+1:=by rw[i5];rfl
 have hS:i6 H.next H X:=by rw[S];exact(i6.first H _).trans (i6.push oM)
 have g1:X.get H.next=cE cs 1:=by rw[S,i7 oM];exact j9
 have g2:X.get (H.next+1)=cE z8 1:=by rw[S];exact y7 oM
 have c0:H.next<=X.low:=by rw[S,l9,l9];exact lR
 have n1:X.next=H.next+2:=by rw[S,i5,n0]
 obtain⟨v3,f6,H3,d3,b8,ms,rfl,b0,a7⟩:=kZ K K oM X lo Rt cs q oM (hr.mono (fun j D=>hS.get j oM) lR) (fun k' el x d5 h=>b7 k' el x d5 (h.mono (fun j D=>(hS.get j oM).symm) lR)) b3 oM;have n3:=a7.next;have a3:=gU b0;have l3:=Tq b0;obtain⟨ea,ec,ta,tc,c4,he,ht⟩:=D5 b0;obtain⟨J,O⟩:=eY (nS::nS::nS::ms:LV);have e8:splice z8 3 ms=J:=by rw[O,c4];rfl
 have b1:J.length=8:=by rw[O];simp [l3]
 have b4:J.all oC=true:=by rw[O];simp only[List.all_cons,a3];rfl
 obtain⟨H4,d2,n4,c7,s4⟩:=pushP H3 (bC z8 1) (bC J 1);have c8:H4.get H.next=cE cs 1:=by rw[s4.get _ oM,a7.get _ oM];exact g1
 have f0:splice z8 0 J=J:=x9 _ _ (by rw[b1];rfl);have k4:∀j,j<H.next->H4.get j=H.get j:=fun j D=>by rw[s4.get j oM,a7.get j oM,hS.get j D]
 obtain⟨f8,c3⟩:=bS _ false q lR b3;obtain⟨v5,f7,H5,d4,b9,b6,a8⟩:=(LA K).1 H4 lo cs q oM (hr.mono (fun j D=>k4 j oM) lR) oM b3;have n5:=a8.next;rw[j7 Pl rfl _ sM];refine J16 a0 S.symm g1 e6 d3 b8 l3 a3 e8 b1 b4 f0 d2.symm c8 d4 b9 ?_;have c5:i6 X.next X H5:=(a7.trans (s4.weaken oM)).trans (a8.weaken oM);have f5:H5.get (H.next+1)=cE z8 1:=(c5.get _ oM).trans g2;have c9:H5.get H3.next=cE J 1:=(a8.get _ oM).trans c7;have f1:∀cs a,QR H4 lo K false cs a->QR H lo K false cs a:=fun _ _ h=>h.mono (fun j D=>(k4 j oM).symm) lR;obtain⟨G,hG⟩:=eY (fun j=>(X.next<=j/\j<H3.next)\/(H4.next<=j/\j<H5.next):Nat->Prop);have d6:SlF H5 G 3 (QR H lo K false) v5 (inQ false q):=(b6.frz fun b W=>by rw[hG];exact .inr (b6.lt W)).mono (fun _ _=>rfl) (fun _ h=>h) f1;have e4:PrF H5 G Rt ms (B9 q):=b0.mono (fun j D=>by rw[a8.get j oM,s4.get j oM]) (fun j D=>by rw[hG];exact .inl D) iF;have b2:=yJ K H lo H.next H3.next d9 rfl oM Rt b7 v5 (inQ false q) oM (fun x hx=>by have:=c3 x hx;exact⟨this.1,oM⟩) ms (bC z8 1) X hS g2 (C0 q) (inQ false q).length;refine j8 (F:=fun z=>Ret (u5 _ _ _ (u9 (inBlock 0 z) _)) _ _) (b2 _ _ ⟨0,⟨[],[],[],B9 q⟩,nS,nS,nS,G,rfl,oM,by simp,rfl,rfl,by simp [A0],by simp [A0],rfl,rfl,rfl,rfl,rfl,by rw[<-O];exact c9,e4,d6,u6.nil,u6.nil,u6.nil,fun j D=>?_,fun j D=>(B8 j D).elim,fun j D=>(B8 j D).elim,c5.weaken oM,rfl⟩) ?_
 .rw[hG]at D;refine⟨oM,oM,oM,B8 j,B8 j,B8 j⟩
 rintro o e' H6 ⟨ho,f2,f3,w1,w2,w3,G',b5,e5,a2,a4,a5,a1,a9⟩;have n6:=a9.next;have d0:H6.get (H.next+1)=cE z8 1:=(a9.get _ oM).trans g2;obtain⟨ra,rc,e1⟩:=a2.slice;obtain⟨rb,rd,e2⟩:=a4.slice;obtain⟨re,rf,e3⟩:=a5.slice;obtain⟨u,E⟩:=eY (w1::w2::w3::ms:LV);rw[<-E]at b5;have e7:ldC (some true) (some 8) 0 u=some (.agg u.toArray):=by rw[E,e1,e2,e3,c4];rfl
 have a6:u.all oC=true:=by rw[E,e1,e2,e3];simp only[List.all_cons,a3];rfl
 have l6:u.length=8:=by rw[E];simp [l3]
 have e9:splice z8 0 u=u:=x9 _ _ (by rw[l6];rfl);obtain⟨H7,U⟩:=eY (H6.put (H.next+1) (bC u 1));have n7:H7.next=H6.next:=by rw[U,t5]
 have d1:H7.get (H.next+1)=cE u 1:=by rw[U];exact j5 oM
 have s7:i6 H.next H H7:=by rw[U];exact(hS.trans (a9.weaken oM)).trans (i6.put oM)
 have d8:H.next<=H7.low:=by rw[U];exact((a9.weaken oM).trans (i6.put oM)).low c0
 have k7:∀j,H.next+2<=j->H7.get j=H6.get j:=fun j D=>by rw[U,j6 oM]
 have c6:StF H7 (fun j=>H.next<=j/\j<H7.next) (QR H lo K false) Rt u (C0 q):=by
  refine⟨w1,w2,w3,ms,E,?_,?_,?_,?_⟩
  .exact(a2.same fun b W=>k7 b (oN (a2.lt W))).frz fun b W=>oN (a2.lt W)
  .exact(((a4.same fun b W=>k7 b (oN (a4.lt W))).imp fun cs p h=>h.mono (fun j D=>k7 j (a1 j D).1) (fun j D=>by have:=a1 j D;omega) iF)).frz fun b W=>oN (a4.lt W)
  .exact(a5.same fun b W=>k7 b (oN (a5.lt W))).frz fun b W=>oN (a5.lt W)
  .exact e5.mono (fun j D=>k7 j (a1 j D).1) (fun j D=>by have:=a1 j D;omega) iF
 refine J11 ho f2 f3 b5 e7 d0 a6 l6 e9 U.symm d1 ?_;exact qQ c6 s7 d8 (fun h=>h)
end Go.Proofs.YtofbhlhamfkljaaGreatDoor.Ve
namespace Go.Proofs.YtofbhlhamfkljaaGreatDoor.Ve
open Go Go.RowKit
theorem ak.refl(lo:Nat)(w:Value)(H:N7):ak lo w H w H:=⟨i6.refl _ _,fun _ _ _=>rfl,fun _ h=> .inl h⟩
theorem ak.trans{lo:Nat}{w w1 w2:Value}{H u H2:N7}(h:ak lo w H w1 u)(k:ak lo w1 u w2 H2):ak lo w H w2 H2:=by
 have O:=h.next;refine⟨h.stay.trans k.stay,fun j J z=>?_,fun b D=>?_⟩
 .rw[k.but j oM (fun q=>by rcases h.new j q with r|r;exact z r;omega),h.but j J z]
 .rcases k.new b D with r|r
  .exact h.new b r
  .exact .inr oM
theorem ak.of{lo:Nat}(w:Value){H z:N7}(h:i6 H.next H z)(u:lo<=H.next):ak lo w H w z:=⟨h.weaken u,fun j D _=>h.get j D,fun _ h=> .inl h⟩
theorem ak.weaken{lo u:Nat}{w v:Value}{H z:N7}(h:ak lo w H v z)(k:u<=lo):ak u w H v z:=⟨h.stay.weaken k,h.but,h.new⟩
def pO{α:Type}(E:N7->(Nat->Prop)->LV->α->Prop):Prop:=∀(H H':N7)(G G':Nat->Prop)(cs:LV)(a:α),E H G cs a->(∀j,G j->H'.get j=H.get j)->(∀j,G j->G' j)->E H' G' cs a
abbrev pls(G:Nat->Prop)(H H3:N7)(j:Nat):Prop:=G j\/(H.next<=j/\j<H3.next)
structure Buf{α:Type}(sz:Nat)(E:N7->(Nat->Prop)->LV->α->Prop)(lo:Nat)(G0:Nat->Prop)(H0:N7)(w0:Value)(G:Nat->Prop)(H:N7)(w:Value)(l:List α):Prop where
 own:u6 H lo sz (E H G) w l
 up:∀j,G0 j->G j
 new:∀j,G j->G0 j\/H0.next<=j
 lt:∀j,G j->j<H.next/\¬l7 w j
 gr:ak lo w0 H0 w H
section
variable{α:Type}{sz:Nat}{E:N7->(Nat->Prop)->List Value->α->Prop}{lo:Nat}{G0 G:Nat->Prop}{H0 H H3:N7}{w0 w:Value}{l l2:List α}
theorem Buf.next(B:Buf sz E lo G0 H0 w0 G H w l):H0.next<=H.next:=B.gr.next
theorem Buf.get(B:Buf sz E lo G0 H0 w0 G H w l)(u:∀j,G0 j->j<H0.next/\¬l7 w0 j) (j:Nat) (z:G0 j):H.get j=H0.get j:=B.gr.but j (u j z).1 (u j z).2
theorem Buf.stay(J:pO E)(B:Buf sz E lo G0 H0 w0 G H w l)(z:i6 H.next H H3)(D:lo<=H.next):Buf sz E lo G0 H0 w0 (pls G H H3) H3 w l:=by
 have S:=z.next;have O:=B.next;refine⟨(B.own.keep z).imp fun cs a h=>J _ _ _ _ _ _ h (fun j u=>z.get j (B.lt j u).1) (fun j u=> .inl u),fun j u=> .inl (B.up j u),fun j u=>?_,fun j u=>?_,B.gr.trans (ak.of w z D)⟩
 .rcases u with u|u
  .exact B.new j u
  .exact .inr oM
 .rcases u with u|u
  .have:=B.lt j u;exact⟨oM,this.2⟩
  .exact⟨u.2,fun q=>by have:=B.own.lt q;omega⟩
theorem Buf.grown(O:pO E){D:Value}{H':N7}{J:List α}(B:Buf sz E lo G0 H0 w0 G H w l)(S:u6 H' lo sz (E H G) D J)(z:ak lo w H D H'):Buf sz E lo G0 H0 w0 G H' D J:=by
 have U:=z.next;refine⟨S.imp fun cs a h=>O _ _ _ _ _ _ h (fun j u=>z.but j (B.lt j u).1 (B.lt j u).2) (fun j u=>u),B.up,B.new,fun j u=>⟨by have:=B.lt j u;omega,fun q=>?_⟩,B.gr.trans z⟩;rcases z.new j q with r|r
 .exact(B.lt j u).2 r
 .have:=B.lt j u;omega
theorem Buf.push{P:Program}{t e:TypeId}{bytes:Nat}{z cs:LV}{a:α}(U:pO E)(ht:P.underlying t=some (.slice e))(hs:D8 P e=some sz)(X:V0 P e=some bytes)(hz:O9 P e=some z)(O:0<sz)(S:0<bytes)
  (B:Buf sz E lo G0 H0 w0 G H w l) (u:cs.length=sz) (W:E H G cs a) (hr:(l.length+1)*bytes<=140737488355328) (D:lo<=H.next):
  Ret (C2 P (H.push (.cells cs true sz)) [t,t] w (.slice (some ⟨H.next,0,none⟩) 1 1)) (H.push (.cells cs true sz)) fun v' H'=>Buf sz E lo G0 H0 w0 G H' v' (l++[a]):=by
 obtain⟨v',J,H',r1,r2,r3,r4⟩:=B.own.push1F ht hs X hz O S u W hr D;exact⟨v',J,H',r1,r2,B.grown U r3 r4⟩
theorem Buf.append{P:Program}{t e:TypeId}{bytes:Nat}{z:LV}{x:Value}(S:pO E)(ht:P.underlying t=some (.slice e))(hs:D8 P e=some sz)(U:V0 P e=some bytes)(hz:O9 P e=some z)(J:0<sz)(O:0<bytes)
  (B:Buf sz E lo G0 H0 w0 G H w l) (hx:SlF H G sz (E H G) x l2) (X:(l.length+l2.length)*bytes<=140737488355328) (u:lo<=H.next):
  Ret (C2 P H [t,t] w x) H fun v' H'=>Buf sz E lo G0 H0 w0 G H' v' (l++l2):=by
 obtain⟨v',D,H',r1,r2,r3,r4⟩:=B.own.appendF ht hs U hz J O (hx.sl fun j W=>(B.lt j W).1) X u;exact⟨v',D,H',r1,r2,B.grown S r3 r4⟩
theorem Buf.frz(u:pO E)(B:Buf sz E lo G0 H0 w0 G H w l):SlF H (fun j=>G j\/l7 w j) sz (E H (fun j=>G j\/l7 w j)) w l:=
 (B.own.imp fun cs a h=>u _ _ _ _ _ _ h (fun _ _=>rfl) fun j D=> .inl D).frz fun b z=> .inr z
theorem Buf.start(u:∀j,G0 j->j<H0.next/\¬l7 w0 j) (z:u6 H0 lo sz (E H0 G0) w0 l):Buf sz E lo G0 H0 w0 G0 H0 w0 l:=⟨z,fun _ h=>h,fun _ h=> .inl h,u,ak.refl _ _ _⟩
theorem Buf.trans{G1:Nat->Prop}{z:N7}{w1:Value}{D:List α}(B:Buf sz E lo G0 H0 w0 G H w l)(C:Buf sz E lo G H w G1 z w1 D):Buf sz E lo G0 H0 w0 G1 z w1 D:=by
 have J:=B.next;refine⟨C.own,fun j u=>C.up j (B.up j u),fun j u=>?_,C.lt,B.gr.trans C.gr⟩;rcases C.new j u with r|r
 .exact B.new j r
 .exact .inr oM
end
end Go.Proofs.YtofbhlhamfkljaaGreatDoor.Ve
namespace Go.Proofs.YtofbhlhamfkljaaGreatDoor.Ve
open Go Go.RowKit
open Go.Proofs.Tryz (prog)
abbrev NmQ:Type:=ByteArray×ByteArray
def atE(a:AtD):LV:=[.string a.space,.string a.loc,.string a.val]
def EvF(H:N7)(F:Nat->Prop)(cs:LV)(e:EvD):Prop:=∃v,cs=[iV e.kind,.string e.space,.string e.loc,v,.string e.text]/\SlF H F 3 (w9 atE) v e.attrs
theorem y9:pO EvF:=fun H H' G G' cs a h z u=>by obtain⟨v,h1,h2⟩:=h;exact⟨v,h1,h2.mono z u iF⟩
def atV(n:NmQ)(e:EvD)(v:ByteArray):EvD:={e with attrs:=e.attrs++[⟨n.1,n.2,v⟩]}
def uW(n:NmQ)(vs:List ByteArray)(e:EvD):List EvD:=e::vs.map (atV n e)
def bM(n:NmQ)(vs:List ByteArray)(l:List EvD):List EvD:=l.flatMap (uW n vs)
def Q4(vs:List ByteArray):List ByteArray:=vs++[if T7 vs eB then dg (T8 vs) else eB]
def eH:List (NmQ×List ByteArray)->List EvD->Option (List EvD)
 |[],l=>some l
 |x::r,l=>if(bM x.1 (Q4 x.2) l).length>24 then none else eH r (bM x.1 (Q4 x.2) l)
def X5(n:NmQ):EvD:=⟨1,n.1,n.2,[],eB⟩
def dp(s:ByteArray):EvD:=⟨2,eB,eB,[],s⟩
def fb(s:SpD):List NmQ->List EvD->Option (List EvD)
 |[],acc=>some acc
 |n::r,acc=>match eH (s.attrs.zip s.vals) [X5 n]with
  |none=>none
  |some l=>fb s r (acc++l)
def V4(s:SpD):Option (List EvD):=match fb s (s.names++[zNm (Q6 s.names)]) []with
 |none=>none
 |some l=>if(l++(s.texts++[dg (T8 s.texts)]).map dp).length>24 then none else some (l++(s.texts++[dg (T8 s.texts)]).map dp)
theorem Rh(S:Nat->Prop)(H0:N7)(lo b4:Nat)(w0:Value)(m2:lo<=H0.next)(X:∀j,S j->j<H0.next/\¬l7 w0 j) (v1 v3 v4:Value) (aa:Option Addr) (O:List NmQ) (ac:Nat) (b3:H0.get b4=cE [v1,.slice aa O.length ac,v3,v4] 1) (gG:S b4) (g6:SlF H0 S 2 (w9 nmE) (.slice aa O.length ac) O) (k:Nat) (hk:k<O.length) (n:NmQ) (hn:O[k]?=some n) (k9:O.length<=100000)
  (va:Option Addr) (vc:Nat) (vs:List ByteArray) (g7:SlF H0 S 1 (w9 stE) (.slice va vs.length vc) vs) (m3:vs.length<=100000) (la:Option Addr) (l:List EvD) (lc:Nat) (hl:SlF H0 S 5 (EvF H0 S) (.slice la l.length lc) l) (j:Nat) (e0:EvD) (J:l[j]?=some e0) (m1:l.length<=100000) (l6:e0.attrs.length<=100000) (p5 p6 p7:Value) (c3:List EvD) (k0:c3.length<=10000000):
  ∀kk e H2,(∃(i:Nat)(w:Value)(G:Nat->Prop)(es:List EvD),kk=vs.length-i/\i<=vs.length/\e.get 4=pT b4/\e.get 5=p5/\e.get 6=p6/\e.get 7=p7/\e.get 8= .slice la l.length lc/\e.get 9=iV k/\e.get 10= .slice va vs.length vc/\e.get 11=w/\e.get 12=iV j/\e.get 13=iV i/\Buf 5 EvF lo S H0 w0 G H2 w es/\es++(vs.drop i).map (atV n e0)=c3)->
  w7 (LE prog t6 (.loop Nn) e H2) (fun o e H2=>o= .exit 6/\e.get 4=pT b4/\e.get 5=p5/\e.get 6=p6/\e.get 7=p7/\e.get 8= .slice la l.length lc/\e.get 9=iV k/\e.get 10= .slice va vs.length vc/\e.get 12=iV j/\∃(w:Value)(G:Nat->Prop),e.get 11=w/\Buf 5 EvF lo S H0 w0 G H2 w c3):=by
 refine i8 _ _ ?_;rintro kk e H2 ⟨i,w,G,es,l8,hi,f4,f5,f6,f7,f8,f9,a6,d1,b2,d2,B,fu⟩;rcases b:decide ((i:Int)<vs.length)with _|_
 .have g3:=dF b;have:vs.drop i=[]:=dN oM;rw[this,List.map_nil,List.append_nil]at fu;subst fu;refine J3 a6 d2 b ?_;exact i9 ⟨rfl,f4,f5,f6,f7,f8,f9,a6,b2,w,G,d1,B⟩
 have g3:=dT b;have g5:j<l.length:=(gS J).1;have B0:=fun j J=>B.get X j J;have nx:=B.next;have e1:lo<=H2.next:=oM;obtain⟨v,nb,o,cs,own,k8,hx,hd,rfl,hF,hg,m0,k1,hc,rfl⟩:=g7.row (i:=i) oM;obtain⟨e',m4,ol,k5,k3,k7,g9,l5,rfl,f1,g4,j4,a3,l3,g0⟩:=hl.row (i:=j) g5;obtain rfl:e0=e':=Option.some.inj (J.symm.trans g9);obtain⟨n',c0,oa,k4,k2,k6,g8,l4,rfl,b5,b8,j3,b9,l1,rfl⟩:=g6.row (i:=k) hk;obtain rfl:n=n':=Option.some.inj (hn.symm.trans g8);have h3:(i:Int).toNat=i:=tN i;have h4:(j:Int).toNat=j:=tN j;have h5:(k:Int).toNat=k:=tN k;rw[hd,List.map_cons,List.append_cons]at fu;obtain⟨av,rfl,d6⟩:=g0;obtain⟨c5,c6,rfl⟩:=d6.slice;obtain⟨z,E⟩:=eY ([iV e0.kind,.string e0.space,.string e0.loc,.slice c5 e0.attrs.length c6,.string e0.text]:LV);rw[<-E]at a3;have e9:=(B0 _ f1).trans g4;have e8:z[3]?=some (.slice c5 e0.attrs.length c6):=by rw[E];rfl
 have e5:z.all oC=true:=by rw[E];rfl
 have e2:z.length=5:=by rw[E];rfl
 obtain⟨K0,f2,n0,a8,s0⟩:=pushP H2 (bC [iV 0,.string eB,.string eB,nS,.string eB] 1) (bC z 1);have c4:splice [iV 0,.string eB,.string eB,nS,.string eB] 0 z=z:=x9 _ _ (by rw[e2];rfl);obtain⟨K1,d3,n1,-,s1⟩:=pushE K0 (bC [] 3);have a4:∀j,S j->K0.get j=H0.get j:=fun j J=>by rw[s0.get j (oN (X j J)),B0 j J]
 have U:∀j,S j->K1.get j=H0.get j:=fun j J=>by rw[s1.get j (oN (X j J)),a4 j J]
 have f3:u6 K1 K0.next 3 (w9 atE) (sL K0.next 0 0) []:=by rw[d3];exact u6.fresh rfl lR D2.nil
 obtain⟨w1,h1,K2,g1,d8,d4,s2⟩:=f3.append (P:=prog) (t:=49) (n:=K1.next) (by exact CF.2.2.2.2.2.2) jQ.1 jQ.2.1 jQ.2.2.1 oM oM (d6.mono (F':=(· <K1.next)) U (fun j J=>by have:=X j J;omega) iF) (by simp;omega) oM;have n2:=s2.next;have b1:∀j,S j->K2.get j=H0.get j:=fun j J=>by rw[s2.get j (oN (X j J)),U j J]
 obtain⟨w2,h2,K4,d5,b0,a7,b6⟩:=d4.push1F (P:=prog) (t:=49) (cs:=[.string n.1,.string n.2,.string v]) (a:=⟨n.1,n.2,v⟩) (by exact CF.2.2.2.2.2.2) jQ.1 jQ.2.1 jQ.2.2.1 oM oM rfl rfl (by simp;omega) oM;have n4:=b6.next;obtain⟨K3,b7⟩:=eY (K2.push (bC [.string n.1,.string n.2,.string v] 3));rw[<-b7]at d5 b0;have a9:K1.get H2.next=cE z 1:=(s1.get _ oM).trans a8;have W:K2.get H2.next=cE z 1:=(s2.get _ oM).trans a9;have c8:K3.get H2.next=cE z 1:=by rw[b7,i7 oM];exact W
 have c9:K4.get H2.next=cE z 1:=(b6.but _ oM (fun q=>by have:=d4.lt q;omega)).trans W;have i1:=(a4 b4 gG).trans b3;have i2:=(U b4 gG).trans b3;have i3:=(b1 b4 gG).trans b3;have h8:=(a4 c0 b5).trans b8;have h9:=(U c0 b5).trans b8;have i0:=(b1 c0 b5).trans b8;have j0:=(a4 nb hF).trans hg;have j1:=(U nb hF).trans hg;have j2:=(b1 nb hF).trans hg;have c7:=hc 0 oM;rw[Nat.add_zero]at c7;obtain⟨a2,c2,a5⟩:=a7.slice;have e7:w2.cells.toList=[w2]:=by rw[a5];rfl
 have h7:Value.oneCell' w2=true:=by rw[a5];rfl
 obtain⟨u,D⟩:=eY ([iV e0.kind,.string e0.space,.string e0.loc,w2,.string e0.text]:LV);have e4:splice z 3 [w2]=u:=by rw[E,D];rfl
 have e3:u.length=5:=by rw[D];rfl
 have h0:ldC (some true) (some 5) 0 u=some (.agg u.toArray):=by rw[D,a5];rfl
 obtain⟨K5,a1⟩:=eY (K4.put H2.next (bC u 1));have n5:K5.next=K4.next:=by rw[a1,t5]
 have d0:K5.get H2.next=cE u 1:=by rw[a1];exact j5 oM
 have s5:i6 H2.next H2 K5:=((s0.trans (s1.weaken oM)).trans (s2.weaken oM)).trans ((b6.stay.weaken oM).trans (by rw[a1];exact i6.put oM));have B5:=B.stay y9 s5 e1;have f0:EvF K5 (pls G H2 K5) u (atV n e0 v):=⟨w2,D,((a7.same (H':=K5) fun b hb=>by have:=a7.lt hb;rw[a1,j6 oM]).frz fun b hb=>by have:=a7.lt hb;exact .inr oM)⟩
 obtain⟨w6,h6,H6,g2,d9,B6⟩:=B5.push (P:=prog) (t:=35) y9 (by exact lQ.2.2.2.2.2.2) S9.1 S9.2.1 S9.2.2.1 oM oM e3 f0 (by have:=congrArg List.length fu;simp at this;omega) oM;have n6:=B6.next;have e6:∀Hx:N7,bsA prog (some 51) Hx 1 [(0,.agg u.toArray)]=some (sL Hx.next 1 1,Hx.push (bC u 5)):=fun Hx=>by
  rw[D,a5];simp only[C7,S9,C8];rfl
 refine J30 f4 f8 f9 a6 d1 b2 d2 b e9 h3 (aI h4 h5) (aI a3 e5) (aI e2 c4) (aI f2.symm d3.symm) (aI a8 a9) (aI W c8) (aI c9 e8) (aI g1 d8) (aI i1 i2) (aI i3 h8) (aI h9 i0) (aI j0 j1) (aI j2 b9) (aI c7 b7.symm) (aI d5 b0) (aI e7 h7) (aI e4 a1.symm) (aI d0 h0) (aI e6 g2) (aI d9 @wrap_small) ?_;exact i4 (kk-1) oM ⟨i+1,w6,_,es++[atV n e0 v],oM,oM,f4,f5,f6,f7,f8,f9,a6,rfl,b2,rfl,B6,fu⟩
theorem Ri(J:Nat->Prop)(H0:N7)(lo X:Nat)(w0:Value)(d2:lo<=H0.next)(a2:∀j,J j->j<H0.next/\¬l7 w0 j) (v1 v3 v4:Value) (aa:Option Addr) (u:List NmQ) (ac:Nat) (b2:H0.get X=cE [v1,.slice aa u.length ac,v3,v4] 1) (gG:J X) (c0:SlF H0 J 2 (w9 nmE) (.slice aa u.length ac) u) (k:Nat) (hk:k<u.length) (n:NmQ) (hn:u[k]?=some n) (b6:u.length<=100000)
  (va:Option Addr) (vc:Nat) (O:List ByteArray) (c4:SlF H0 J 1 (w9 stE) (.slice va O.length vc) O) (c3:O.length<=100000) (la:Option Addr) (l:List EvD) (lc:Nat) (hl:SlF H0 J 5 (EvF H0 J) (.slice la l.length lc) l) (b9:l.length<=100000) (b8:∀x∈l,x.attrs.length<=100000) (p5 p6 p7:Value) (W:List EvD) (c7:W.length<=10000000):
  ∀kk e H2,(∃(j:Nat)(w:Value)(G:Nat->Prop)(es:List EvD),kk=l.length-j/\j<=l.length/\e.get 4=pT X/\e.get 5=p5/\e.get 6=p6/\e.get 7=p7/\e.get 8= .slice la l.length lc/\e.get 9=iV k/\e.get 10= .slice va O.length vc/\e.get 11=w/\e.get 12=iV j/\Buf 5 EvF lo J H0 w0 G H2 w es/\es++bM n O (l.drop j)=W)->
  w7 (LE prog t6 (.loop No) e H2) (fun o e H2=>o= .exit 4/\e.get 4=pT X/\e.get 5=p5/\e.get 6=p6/\e.get 7=p7/\e.get 9=iV k/\∃(w:Value)(G:Nat->Prop),e.get 11=w/\Buf 5 EvF lo J H0 w0 G H2 w W):=by
 refine i8 _ _ ?_;rintro kk e H2 ⟨j,w,G,es,d0,hi,f4,f5,f6,f7,f8,f9,a8,a1,S,B,fu⟩;rcases b:decide ((j:Int)<l.length)with _|_
 .have b7:=dF b;have:l.drop j=[]:=dN oM;rw[this,bM,List.flatMap_nil,List.append_nil]at fu;subst fu;refine J3 f8 S b ?_;exact i9 ⟨rfl,f4,f5,f6,f7,f9,w,G,a1,B⟩
 have b7:=dT b;have B0:=fun j hj=>B.get a2 j hj;have nx:=B.next;obtain⟨e0,nb,o,cs,own,D,hx,hd,rfl,hF,hg,d1,a5,hc,hR⟩:=hl.row (i:=j) oM;have c6:(j:Int).toNat=j:=tN j;rw[hd,bM,List.flatMap_cons,uW,List.cons_append,List.append_cons]at fu;have g2:=(B0 _ hF).trans hg;have b3:EvF H2 G D e0:=y9 _ _ _ _ _ _ hR B0 B.up;obtain⟨av,U,a3⟩:=b3;obtain⟨c8,c9,a7⟩:=a3.slice;have c5:D.length=5:=by rw[U];rfl
 obtain⟨w1,h1,H3,b5,a4,B1⟩:=B.push (P:=prog) (t:=35) y9 (by exact lQ.2.2.2.2.2.2) S9.1 S9.2.1 S9.2.2.1 oM oM c5 ⟨av,U,a3⟩ (by have:=congrArg List.length fu;simp at this;omega) oM;have a6:∀Hx:N7,bsA prog (some 51) Hx 1 [(0,.agg D.toArray)]=some (sL Hx.next 1 1,Hx.push (bC D 5)):=fun Hx=>by
  rw[U,a7];simp only[C7,S9,C8];rfl
 have n1:=B1.gr.next;have G1:∀j,G j->j<H3.next/\¬l7 w1 j:=B1.lt;have E:=fun j(hj:J j)=>(B1.get a2 j hj)
 refine J10 f8 a1 S b g2 c6 a5 a6 b5 a4 ?_;refine j8 (F:=fun z=>w7 (u9 (inBlock 5 (inBlock 6 z)) _) _) (Rh G H3 lo X w1 oM G1 v1 v3 v4 aa u ac ((E X gG).trans b2) (B.up _ gG) (c0.mono E B.up iF) k hk n hn b6 va vc O (c4.mono E B.up iF) c3 _ l lc (hl.mono E B.up (fun _ _ h=>y9 _ _ _ _ _ _ h E B.up)) j e0 hx b9 (b8 e0 (mG hx)) p5 p6 p7 (es++[e0]++O.map (atV n e0)) (by have:=congrArg List.length fu;simp at this ⊢;omega) O.length _ _ ⟨0,w1,G,es++[e0],rfl,oM,f4,f5,f6,f7,f8,f9,a8,rfl,S,rfl,Buf.start G1 B1.own,rfl⟩) ?_;rintro o' e' H4 ⟨ho,g4,g5,g6,g7,g8,g9,a9,b1,w4,G4,b0,B4⟩;refine J3 ho b1 @wrap_small ?_;exact i4 (kk-1) oM ⟨j+1,w4,G4,_,oM,oM,g4,g5,g6,g7,g8,g9,a9,b0,rfl,B1.trans B4,by rw[<-fu,bM];simp⟩
theorem ko(n:NmQ)(u:List ByteArray):∀l:List EvD,(bM n u l).length=l.length*(u.length+1)
 |[]=>by simp [bM]
 |x::l=>by
  have:=ko n u l;rw[bM]at this ⊢;rw[List.flatMap_cons,List.length_append,this,uW,List.length_cons,List.length_map,List.length_cons,Nat.succ_mul];omega
theorem EX(n:NmQ)(D:List ByteArray)(k:Nat)(l:List EvD)(h:∀x∈l,x.attrs.length<=k):∀x∈bM n D l,x.attrs.length<=k+1:=by
 intro x u;rw[bM]at u;obtain⟨y,z,u⟩:=List.mem_flatMap.1 u;have:=h y z;rw[uW,List.mem_cons]at u;rcases u with rfl|u
 .omega
 .obtain⟨v,_,rfl⟩:=List.mem_map.1 u;simp [atV];omega
theorem gJ{α β:Type}:∀(a:List α)(b:List β)(k:Nat),(a.zip b).drop k=(a.drop k).zip (b.drop k)
 |a,b,0=>rfl
 |[],b,k+1=>by simp
 |x::a,[],k+1=>by simp
 |x::a,y::b,k+1=>by simpa using gJ a b k
theorem Rj(O:Nat->Prop)(H0:N7)(b4:Nat)(J:∀j,O j->j<H0.next) (v1 v4:Value) (aa:Option Addr) (D:List NmQ) (ac:Nat) (ba:Option Addr) (vals:List (List ByteArray)) (bc:Nat) (h0:vals.length=D.length) (a5:H0.get b4=cE [v1,.slice aa D.length ac,.slice ba vals.length bc,v4] 1) (gG:O b4) (c8:SlF H0 O 2 (w9 nmE) (.slice aa D.length ac) D) (e8:SlF H0 O 1 (VlF H0 O) (.slice ba vals.length bc) vals) (i2:D.length<=1000) (e7:∀x∈vals,x.length<=10000)
  (p5 p6 p7:Value) (a7:Option (List EvD)):
  ∀kk e H2,(∃(k:Nat)(l:List EvD)(w8:Value)(G:Nat->Prop),kk=D.length-k/\k<=D.length/\e.get 4=pT b4/\e.get 5=p5/\e.get 6=p6/\e.get 7=p7/\e.get 8=w8/\e.get 9=iV k/\i6 H0.next H0 H2/\(∀j,O j->G j)/\(∀j,G j->O j\/H0.next<=j)/\(∀j,G j->j<H2.next)/\SlF H2 G 5 (EvF H2 G) w8 l/\l.length<=24/\(∀x∈l,x.attrs.length<=k)/\eH ((D.zip vals).drop k) l=a7)->
  w7 (LE prog t6 (.loop Np) e H2) (fun o e H2=>i6 H0.next H0 H2/\((o= .exit 2/\e.get 4=pT b4/\e.get 5=p5/\e.get 6=p6/\e.get 7=p7/\∃(l:List EvD)(w8:Value)(G:Nat->Prop),a7=some l/\l.length<=24/\e.get 8=w8/\(∀j,O j->G j)/\(∀j,G j->O j\/H0.next<=j)/\(∀j,G j->j<H2.next)/\SlF H2 G 5 (EvF H2 G) w8 l)\/(o= .ret/\a7=none/\e.get 2=nS/\e.get 3=iV 13))):=by
 refine i8 _ _ ?_;rintro kk e H2 ⟨k,l,w8,G,j1,hi,f4,f5,f6,f7,f8,f9,hS,b7,b8,a6,hl,c6,c5,fu⟩;have b6:=(hS.get b4 (J _ gG)).trans a5;rcases b:decide ((k:Int)<D.length)with _|_
 .have d6:=dF b;have:(D.zip vals).drop k=[]:=dN (by rw[List.length_zip];omega);rw[this,eH]at fu;refine J4 f4 f9 b6 b ?_;exact i9 ⟨hS,.inl ⟨rfl,f4,f5,f6,f7,l,w8,G,fu.symm,c6,f8,b7,b8,a6,hl⟩⟩
 have d6:=dT b;have j2:=hS.next;obtain⟨n,j4,oa,h7,h5,h9,e9,e1,rfl,i1,j0,g8,e5,i3,rfl⟩:=c8.row (i:=k) oM;obtain⟨E,f3,ov,h8,h6,i0,f0,e2,rfl,d2,e4,h3,e6,d9,⟨vv,rfl,c9⟩⟩:=e8.row (i:=k) oM;have g0:(k:Int).toNat=k:=tN k;have h4:=e7 E (mG f0);have e3:(D.zip vals).drop k=(n,E)::(D.zip vals).drop (k+1):=by
  rw[gJ,e1,e2,List.zip_cons_cons,gJ]
 rw[e3,eH]at fu
 dsimp only at fu
 have b0:=d9 0 oM;rw[Nat.add_zero]at b0;obtain⟨k0,k1,rfl⟩:=c9.slice;obtain⟨la,lc,rfl⟩:=hl.slice;obtain⟨K1,c0,n1,-,s1⟩:=pushE H2 (bC [] 1);have a3:∀j,O j->K1.get j=H0.get j:=fun j u=>by rw[s1.get j (oN (J j u)),hS.get j (J j u)]
 have d3:u6 K1 H2.next 1 (w9 stE) (sL H2.next 0 0) []:=by rw[c0];exact u6.fresh rfl lR D2.nil
 obtain⟨w1,h1,K2,d4,c3,X,s2⟩:=d3.append (P:=prog) (t:=97) (n:=K1.next) (by exact bU.2.2.2.2.2.2) ty9.1 ty9.2.1 ty9.2.2.1 oM oM (c9.mono (F':=(· <K1.next)) a3 (fun j u=>by have:=J j u;omega) iF) (by simp;omega) oM;have n2:=s2.next;rw[List.nil_append]at X;have S:=wY K2 K2.next w1 E eB lR X.sl oM;have c7:=jH K2 K2.next w1 E lR X.sl oM;rw[show(E.any fun y=>cj y eB)=T7 E eB from rfl]at S;obtain⟨x,hx⟩:∃x,x=if T7 E eB then dg (T8 E) else eB:=eX;obtain⟨w2,h2,U,d5,c4,a1,b9⟩:=X.push1F (P:=prog) (t:=97) (cs:=[.string x]) (a:=x) (by exact bU.2.2.2.2.2.2) ty9.1 ty9.2.1 ty9.2.2.1 oM oM rfl rfl oM oM;rw[show E++[x]=Q4 E by rw[hx];rfl]at a1;have n4:=b9.next;have s4:i6 H2.next H2 U:=(s1.trans s2).trans b9.stay;have f2:(Q4 E).length=E.length+1:=by simp [Q4]
 have d1:=(a3 b4 gG).trans a5;have g3:=(a3 f3 d2).trans e4;have j3:H2.next<=U.next:=oM;obtain⟨g1,g2,b1⟩:=a1.slice;have lm:=ko n (Q4 E) l;have f1:(bM n (Q4 E) l).length<=10000000:=by
  rw[lm,f2];have:=Nat.mul_le_mul c6 (show E.length+1+1<=10002 from oM);omega
 have a9:∀j,O j->U.get j=H0.get j:=fun j u=>by rw[s4.get j (oN (J j u)),hS.get j (J j u)]
 have a2:∀j,pls G H2 U j->j<U.next/\¬l7 (nS) j:=fun j u=>⟨by
  rcases u with u|u
  .have:=a6 j u;omega
  .exact u.2,B8 j⟩
 have a8:∀j,O j->pls G H2 U j:=fun j u=> .inl (b7 j u);have d0:∀j,G j->U.get j=H2.get j:=fun j u=>s4.get j (a6 j u);rcases b2:T7 E eB with _|_
 all_goals
  rw[b2]at S;simp only[b2,if_true,bF]at hx;subst hx;refine J15 f4 f9 b6 b c0.symm d1 g3 g0 b0 d4 c3 S c7 d5 c4 ?_;refine j8 (F:=fun z=>w7 (u9 (inBlock 3 (u9 (inBlock 4 z) _)) _) _) (Ri (pls G H2 U) U U.next b4 (nS) lR a2 v1 _ v4 _ D ac ((a9 b4 gG).trans a5) (a8 _ gG) (c8.mono a9 a8 iF) k oM n e9 oM g1 g2 (Q4 E) (by rw[<-b1];exact a1.frz fun b hb=>by have:=a1.lt hb;exact .inr oM) oM la l lc (hl.mono d0 (fun j u=> .inl u) (fun _ _ h=>y9 _ _ _ _ _ _ h d0 (fun j u=> .inl u))) oM (fun x hx=>by have:=c5 x hx;omega) p5 p6 p7 (bM n (Q4 E) l) f1 l.length _ _ ⟨0,nS,_,[],rfl,oM,f4,f5,f6,f7,f8,f9,b1,rfl,rfl,Buf.start a2 u6.nil,rfl⟩) ?_;rintro o' e' H5 ⟨ho,g4,g5,g6,g7,g9,w5,G5,a4,W⟩;obtain⟨wa,wc,b5⟩:=W.own.slice;have n5:=W.next;have s5:i6 H0.next H0 H5:=(hS.trans (s4.weaken oM)).trans (W.gr.stay.weaken oM);rw[b5]at a4;rcases b3:decide ((24:Int)<((bM n (Q4 E) l).length:Nat))with _|_
  .have d8:=dF b3;rw[if_neg oM]at fu;refine J5 ho g9 a4 b3 @wrap_small ?_;refine i4 (kk-1) oM ⟨k+1,_,w5,_,oM,oM,g4,g5,g6,g7,b5.symm,rfl,s5,fun j u=> .inl (W.up j (a8 j u)),fun j u=>?_,fun j u=>?_,W.frz y9,oM,EX n _ k l c5,fu⟩
   .rcases u with u|u
    .rcases W.new j u with r|r
     .rcases r with r|r
      .exact b8 j r
      .exact .inr oM
     .exact .inr oM
    .have:=W.own.lt u;exact .inr oM
   .rcases u with u|u
    .exact(W.lt j u).1
    .exact(W.own.lt u).2
  .have d8:=dT b3;rw[if_pos oM]at fu;refine J3 ho a4 b3 ?_;exact z9 ⟨s5,.inr ⟨rfl,fu.symm,rfl,rfl⟩⟩
theorem Rk(O:Nat->Prop)(H0:N7)(b4:Nat)(a5:∀j,O j->j<H0.next) (s:SpD) (v1 v4:Value) (aa:Option Addr) (ac:Nat) (ba:Option Addr) (bc:Nat) (b1:s.vals.length=s.attrs.length) (b7:H0.get b4=cE [v1,.slice aa s.attrs.length ac,.slice ba s.vals.length bc,v4] 1) (gG:O b4) (c6:SlF H0 O 2 (w9 nmE) (.slice aa s.attrs.length ac) s.attrs) (c8:SlF H0 O 1 (VlF H0 O) (.slice ba s.vals.length bc) s.vals) (b9:s.attrs.length<=1000) (c7:∀x∈s.vals,x.length<=10000)
  (na:Option Addr) (nc:Nat) (U:List NmQ) (c5:SlF H0 O 2 (w9 nmE) (.slice na U.length nc) U) (d9:U.length<=10000) (a4:Option (List EvD)):
  ∀kk e H2,(∃(i:Nat)(w:Value)(D:List EvD)(G:Nat->Prop),kk=U.length-i/\i<=U.length/\e.get 4=pT b4/\e.get 5=w/\e.get 6= .slice na U.length nc/\e.get 7=iV i/\Buf 5 EvF H0.next O H0 (nS) G H2 w D/\D.length<=24*i/\fb s (U.drop i) D=a4)->
  w7 (LE prog t6 (.loop Nq) e H2) (fun o e H2=>(o= .exit 0/\e.get 4=pT b4/\∃(w:Value)(D:List EvD)(G:Nat->Prop),a4=some D/\D.length<=24*U.length/\e.get 5=w/\Buf 5 EvF H0.next O H0 (nS) G H2 w D)\/(i6 H0.next H0 H2/\o= .ret/\a4=none/\e.get 2=nS/\e.get 3=iV 13)):=by
 refine i8 _ _ ?_;rintro kk e H2 ⟨i,w,D,G,d6,hi,f4,f5,f6,f7,B,d2,W⟩;have a6:∀j,O j->j<H0.next/\¬l7 (nS) j:=fun j E=>⟨a5 j E,B8 j⟩
 have B0:=fun j E=>B.get a6 j E;have nx:=B.next;rcases b:decide ((i:Int)<U.length)with _|_
 .have c0:=dF b;have:U.drop i=[]:=dN oM;rw[this,fb]at W;refine J3 f6 f7 b ?_;exact i9 (.inl ⟨rfl,f4,w,D,G,W.symm,oM,f5,B⟩)
 have c0:=dT b;obtain⟨n,nb,o,cs,own,el,hx,hd,rfl,hF,hg,d8,b2,hc,rfl⟩:=c5.row (i:=i) oM;have c9:(i:Int).toNat=i:=tN i;have g2:=(B0 _ hF).trans hg;rw[hd,fb]at W;obtain⟨X,u⟩:=eY ([iV 1,.string n.1,.string n.2,nS,.string eB]:LV);obtain⟨J,a7,n3,-,s3⟩:=pushE H2 (bC X 5);have d4:splice [iV 1,Value.string eB,Value.string eB,nS,Value.string eB] 1 (nmE n)=X:=by rw[u];rfl
 have b3:X.length=5:=by rw[u];rfl
 have d1:X.all oC=true:=by rw[u];rfl
 have d5:(nmE n).all oC=true:=rfl;have a8:J=H2.push (bC [iV 1,.string n.1,.string n.2,nS,.string eB] 5):=by rw[a7,u]
 have B3:=fun j(E:O j)=>(s3.get j (oN (a5 j E))).trans (B0 j E);have a1:∀j,O j->pls G H2 J j:=fun j E=> .inl (B.up j E);have a2:∀j,pls G H2 J j->j<J.next:=fun j E=>by
  rcases E with E|E
  .have:=B.lt j E;omega
  .exact E.2
 have a9:u6 J H2.next 5 (EvF J (pls G H2 J)) (sL H2.next 1 1) [X5 n]:=by
  rw[a7];exact u6.fresh rfl lR (D2.one b3 ⟨nS,u,.inl ⟨rfl,rfl⟩⟩)
 have c3:SlF J (pls G H2 J) 5 (EvF J (pls G H2 J)) (sL H2.next 1 1) [X5 n]:=a9.frz fun b hb=>by have:=a9.lt hb;exact .inr this
 refine J7 f6 f7 b g2 c9 b2 a8.symm ?_;refine j8 (F:=fun z=>w7 (u9 (inBlock 1 (u9 (inBlock 2 z) _)) _) _) (Rj (pls G H2 J) J b4 a2 v1 v4 aa s.attrs ac ba s.vals bc b1 ((B3 b4 gG).trans b7) (a1 _ gG) (c6.mono B3 a1 iF) (c8.mono B3 a1 (fun _ _ h=>h.mono B3 a1)) b9 c7 w _ _ (eH (s.attrs.zip s.vals) [X5 n]) s.attrs.length _ _ ⟨0,[X5 n],_,_,rfl,oM,f4,f5,f6,f7,rfl,rfl,i6.refl _ _,fun _ h=>h,fun _ h=> .inl h,a2,c3,by simp,by simp [X5],rfl⟩) ?_;rintro o' e' H5 ⟨s5,⟨ho,g4,g5,g6,g7,l,w8,G5,S,d3,g8,h1,h2,h3,c4⟩|⟨ho,S,b5,b6⟩⟩
 .rw[S]at W
  dsimp only at W
  have n5:=s5.next;have d0:i6 H2.next H2 H5:=s3.trans (s5.weaken oM);have B5:=B.stay y9 d0 nx;have a3:∀j,G5 j->pls G H2 H5 j:=fun j E=>by
   have:=h3 j E;rcases h2 j E with r|r
   .rcases r with r|r
    .exact .inl r
    .exact .inr ⟨r.1,this⟩
   .exact .inr ⟨oM,this⟩
  obtain⟨w6,h6,H6,b8,b0,B6⟩:=B5.append (P:=prog) (t:=35) y9 (by exact lQ.2.2.2.2.2.2) S9.1 S9.2.1 S9.2.2.1 oM oM (c4.mono (fun _ _=>rfl) a3 (fun _ _ h=>y9 _ _ _ _ _ _ h (fun _ _=>rfl) a3)) oM oM;refine J7 ho g5 g7 g8 b8 b0 @wrap_small ?_;exact i4 (kk-1) oM ⟨i+1,w6,D++l,_,oM,oM,g4,rfl,g6,rfl,B6,by rw[List.length_append];omega,W⟩
 .rw[S]at W
  dsimp only at W
  refine J1 ho ?_;have n5:=s5.next;exact z9 (.inr ⟨((B.gr.stay).trans (s3.weaken nx)).trans (s5.weaken oM),rfl,W.symm,b5,b6⟩)
theorem Rl(U:Nat->Prop)(H0:N7)(w0:Value)(lo:Nat)(a8:lo<=H0.next)(W:∀j,U j->j<H0.next/\¬l7 w0 j) (ta:Option Addr) (tc:Nat) (ts:List ByteArray) (a2:SlF H0 U 1 (w9 stE) (.slice ta ts.length tc) ts) (a9:ts.length<=100000) (D:List EvD) (a4:D.length<=10000000):
  ∀kk e H2,(∃(i:Nat)(w:Value)(u:List EvD)(G:Nat->Prop),kk=ts.length-i/\i<=ts.length/\e.get 5=w/\e.get 15= .slice ta ts.length tc/\e.get 16=iV i/\Buf 5 EvF lo U H0 w0 G H2 w u/\u++(ts.drop i).map dp=D)->
  w7 (LE prog t6 (.loop Nr) e H2) (fun o e H2=>o= .exit 8/\∃(w:Value)(G:Nat->Prop),e.get 5=w/\Buf 5 EvF lo U H0 w0 G H2 w D):=by
 refine i8 _ _ ?_;rintro kk e H2 ⟨i,w,u,G,a6,hi,f5,z,J,B,O⟩;have B0:=fun j hj=>B.get W j hj;have nx:=B.next;rcases b:decide ((i:Int)<ts.length)with _|_
 .have a1:=dF b;have:ts.drop i=[]:=dN oM;rw[this,List.map_nil,List.append_nil]at O;subst O;refine J3 z J b ?_;exact i9 ⟨rfl,w,G,f5,B⟩
 have a1:=dT b;obtain⟨v,nb,o,cs,own,el,hx,hd,rfl,hF,hg,a7,a5,hc,rfl⟩:=a2.row (i:=i) oM;have a3:(i:Int).toNat=i:=tN i;have g2:=(B0 _ hF).trans hg;rw[hd,List.map_cons,List.append_cons]at O;have E:=hc 0 oM;rw[Nat.add_zero]at E;obtain⟨w6,h6,H6,X,S,B6⟩:=B.push (P:=prog) (t:=35) y9 (by exact lQ.2.2.2.2.2.2) S9.1 S9.2.1 S9.2.2.1 oM oM (cs:=[iV 2,.string eB,.string eB,nS,.string v]) (a:=dp v) rfl ⟨nS,rfl,.inl ⟨rfl,rfl⟩⟩ (by have:=congrArg List.length O;simp at this;omega) oM;refine J10 f5 z J b g2 a3 E X S @wrap_small ?_;exact i4 (kk-1) oM ⟨i+1,w6,u++[dp v],G,oM,oM,rfl,z,rfl,B6,O⟩
mutual
theorem jN:∀(f:Bool)(q:Q),(fsQ f q).length<=nQ q
 |f,.mk o s c v a b=>by
  have h1:=jp f a;have h2:=jp (!f) b;rw[fsQ,nQ,List.length_append,List.length_append];split<;>simp<;>omega
theorem jp:∀(f:Bool)(l:List Q),(fsL f l).length<=nL l
 |_,[]=>by simp [fsL]
 |f,x::l=>by
  have h1:=jN f x;have h2:=jp f l;rw[fsL,nL,List.length_append];omega
end
theorem jM(q:Q):(spQ q).names.length<=nQ q/\(spQ q).attrs.length<=nQ q/\(spQ q).vals.length=(spQ q).attrs.length/\(∀x∈(spQ q).vals,x.length<=nQ q)/\(spQ q).texts.length<=nQ q:=by
 have h:=jN false q;refine⟨?_,?_,by simp [spQ],?_,?_⟩
 .have:=dW (aQ 4 4) qNm L3 (fsQ false q) [];simp [spQ,V5]at this ⊢;omega
 .have:=dW (aQ 5 6) qNm L3 (fsQ false q) [];simp [spQ,V5]at this ⊢;omega
 .intro x u;simp only[spQ,List.mem_map]at u;obtain⟨n,_,rfl⟩:=u;have:=dW (dt 6 n) Q.vl cj (fsQ false q) [];simp [R9]at this ⊢;omega
 .have:=dW (dt 7 (eB,eB)) Q.vl cj (fsQ false q) [];simp [spQ,R9]at this ⊢;omega
def MP(H:N7)(s:SpD)(w:Value)(H1:N7):Prop:=∃v er,w= .tuple #[v,iV er]/\((V4 s=none/\v=nS/\er=13)\/∃l,V4 s=some l/\er=0/\SlF H1 (· <H1.next) 5 (EvF H1 (· <H1.next)) v l)/\i6 H.next H H1
theorem yj(H:N7)(lo k:Nat)(cs:LV)(q:Q)(h3:lo<=H.next)(hr:QR H lo k false cs q)(e8:OkD false q)(g0:nQ q<=1000):
  Ret (CL prog t6 35 [.agg cs.toArray] H) H (MP H (spQ q)):=by
 obtain⟨f1,f0,d2,U,f2⟩:=jM q;obtain⟨s,hs⟩:=eY (spQ q);rw[<-hs]at f1 f0 d2 U f2 ⊢;have a0:cs.all oC=true:=by
  cases k with
  |zero=>exact hr.elim
  |succ k=>obtain⟨_,_,_,_,rfl,_⟩:=hr.path;rfl
 have f3:ldC (some true) (some 3) 0 cs=some (.agg cs.toArray):=by
  cases k with
  |zero=>exact hr.elim
  |succ k=>obtain⟨_,_,_,_,rfl,_⟩:=hr.path;rfl
 obtain⟨H1,b7,-,hg,hS⟩:=pushF H (bC cs 1);have c9:H.next<=H1.low:=by rw[b7,l9];exact lR
 have n1:=hS.next;have h7:=u7 hg;obtain⟨v2,h2,H2,e5,c4,g1,rfl,c3,s2⟩:=Cl H1 lo k cs q oM (hr.mono (fun j u=>hS.get j oM) lR) e8 (oN (jN false q));have n2:=s2.next;rw[<-hs]at c3;obtain⟨v1,va,vb,v4,rfl,a6,d3,d4,a7⟩:=c3;obtain⟨aa,ac,rfl⟩:=d3.slice;obtain⟨ba,bc,rfl⟩:=d4.slice;obtain⟨na,nc,rfl⟩:=a6.slice;obtain⟨ta,tc,rfl⟩:=a7.slice;obtain⟨K0,d5,m0,b0,t0⟩:=pushP H2 (bC [nS,nS,nS,nS] 1) (bC [.slice na s.names.length nc,.slice aa s.attrs.length ac,.slice ba s.vals.length bc,.slice ta s.texts.length tc] 1);obtain⟨K1,b8,m1,-,t1⟩:=pushE K0 (bC [] 2);have q1:∀j,j<H2.next->K1.get j=H2.get j:=fun j u=>by rw[t1.get j oM,t0.get j u]
 have b1:=(t1.get _ oM).trans b0;have d6:u6 K1 K0.next 2 (w9 nmE) (sL K0.next 0 0) []:=by rw[b8];exact u6.fresh rfl lR D2.nil
 obtain⟨w2,g7,K2,d9,a5,a1,t2⟩:=d6.append (P:=prog) (t:=95) (n:=H2.next) (by exact sV.2.2.2.2.2.2) dP.1 dP.2.1 dP.2.2.1 oM oM (a6.mono q1 lR iF) (by simp;omega) oM;rw[List.nil_append]at a1;have m2:=t2.next;have b2:=(t2.get _ oM).trans b1;have q2:∀j,j<H2.next->K2.get j=H2.get j:=fun j u=>by rw[t2.get j oM,q1 j u]
 have e7:=Cj K2 H2.next (.slice na s.names.length nc) s.names oM (a6.mono q2 lR iF) oM;obtain⟨w4,h4,E,e1,c5,a2,X⟩:=a1.push1F (P:=prog) (t:=95) (cs:=nmE (zNm (Q6 s.names))) (a:=zNm (Q6 s.names)) (by exact sV.2.2.2.2.2.2) dP.1 dP.2.1 dP.2.2.1 oM oM rfl rfl oM oM;have m4:=X.next;have t4:i6 H2.next H2 E:=(t0.trans (t1.weaken oM)).trans ((t2.weaken oM).trans (X.stay.weaken oM));have b4:E.get H2.next=_:=(X.but _ oM (fun q=>by have:=a1.lt q;omega)).trans b2;have q4:∀j,j<H2.next->E.get j=H2.get j:=fun j u=>t4.get j u;rw[j7 Bk rfl _ sM];refine J16 a0 b7.symm hg f3 e5 c4 d5.symm b0 b8.symm b1 d9 a5 b2 e7 e1 c5 ?_;obtain⟨f4,f5,a8⟩:=a2.slice;have h5:(s.names++[zNm (Q6 s.names)]).length=s.names.length+1:=sM;have e9:i6 H.next H E:=(hS.trans (s2.weaken oM)).trans (t4.weaken oM);have c8:H.next<=E.low:=((s2.weaken oM).trans (t4.weaken oM)).low c9;have f8:∀x∈s.vals,x.length<=10000:=fun x hx=>oN (U x hx);refine j8 (F:=fun z=>Ret (u5 _ _ _ (u9 (inBlock 0 z) _)) _ _) (Rk (· <E.next) E H2.next (fun _ h=>h) s _ _ aa ac ba bc d2 b4 (by show _<_;omega) (d3.mono q4 (show H2.next<=E.next from oM) iF) (SlI.slF (d4.mono q4 (show H2.next<=E.next from oM) (fun _ _ h=>h.mono q4 (fun j u=>oM)))) oM f8 f4 f5 _ (by rw[<-a8];exact a2.frz fun b hb=>(a2.lt hb).2) oM (fb s (s.names++[zNm (Q6 s.names)]) []) (s.names++[zNm (Q6 s.names)]).length _ _ ⟨0,_,[],_,rfl,oM,rfl,rfl,a8,rfl,Buf.start (fun j u=>⟨u,B8 j⟩) u6.nil,by simp,rfl⟩) ?_;rintro o' e' S (⟨ho,g4,w,J,G,O,f9,g5,B⟩|⟨s5,ho,O,g2,g3⟩)
 .have n5:=B.next;have s5:i6 E.next E S:=B.gr.stay;have b5:=(s5.get _ oM).trans b4;have q5:∀j,j<H2.next->S.get j=H2.get j:=fun j u=>by rw[s5.get j oM,q4 j u]
  obtain⟨L1,b9,l1,-,u1⟩:=pushE S (bC [] 1);have c1:=(u1.get _ oM).trans b5;have r1:∀j,j<H2.next->L1.get j=H2.get j:=fun j u=>by rw[u1.get j oM,q5 j u]
  have d8:u6 L1 S.next 1 (w9 stE) (sL S.next 0 0) []:=by rw[b9];exact u6.fresh rfl lR D2.nil
  obtain⟨x2,g8,L2,e2,c6,c0,u2⟩:=d8.append (P:=prog) (t:=97) (n:=H2.next) (by exact bU.2.2.2.2.2.2) ty9.1 ty9.2.1 ty9.2.2.1 oM oM (a7.mono r1 lR iF) (by simp;omega) oM;rw[List.nil_append]at c0;have l2:=u2.next;have c2:=(u2.get _ oM).trans c1;have r2:∀j,j<H2.next->L2.get j=H2.get j:=fun j u=>by rw[u2.get j oM,r1 j u]
  have d0:=jH L2 H2.next (.slice ta s.texts.length tc) s.texts oM (a7.mono r2 lR iF) oM;obtain⟨x4,g9,L4,e3,c7,a3,b6⟩:=c0.push1F (P:=prog) (t:=97) (cs:=[.string (dg (T8 s.texts))]) (a:=dg (T8 s.texts)) (by exact bU.2.2.2.2.2.2) ty9.1 ty9.2.1 ty9.2.2.1 oM oM rfl rfl oM oM;have l4:=b6.next;have u4:i6 S.next S L4:=(u1.trans u2).trans b6.stay;have B4:=B.stay y9 u4 n5;obtain⟨f6,f7,a9⟩:=a3.slice;have h6:(s.texts++[dg (T8 s.texts)]).length=s.texts.length+1:=sM;refine J11 ho g4 b5 b9.symm c1 e2 c6 c2 d0 e3 c7 ?_;refine j8 (F:=fun z=>Ret (u5 _ _ _ (u9 (inBlock 8 z) _)) _ _) (Rl (pls G S L4) L4 w E.next oM B4.lt f6 f7 (s.texts++[dg (T8 s.texts)]) (by rw[<-a9];exact a3.frz fun b hb=> .inr (a3.lt hb)) oM (J++(s.texts++[dg (T8 s.texts)]).map dp) (by rw[List.length_append,List.length_map];omega) (s.texts++[dg (T8 s.texts)]).length _ _ ⟨0,w,J,_,rfl,oM,g5,a9,rfl,Buf.start B4.lt B4.own,rfl⟩) ?_;rintro h8 g6 H6 ⟨d1,w6,G6,k5,W⟩;have B7:=B4.trans W;have n6:=B7.next;have s6:i6 H.next H H6:=e9.trans (B7.gr.stay.weaken oM);have e6:H.next<=H6.low:=(B7.gr.stay.weaken oM).low c8;obtain⟨wa,wc,ew⟩:=W.own.slice;have a4:=W.frz y9;rw[ew]at k5 a4;have D:V4 s=if(J++(s.texts++[dg (T8 s.texts)]).map dp).length>24 then none else some (J++(s.texts++[dg (T8 s.texts)]).map dp):=by rw[V4,O]
  rcases b3:decide ((24:Int)<((J++(s.texts++[dg (T8 s.texts)]).map dp).length:Nat))with _|_
  .have e4:=dF b3;rw[if_neg oM]at D;refine J3 d1 k5 b3 ?_;refine dI (fun hc=>?_) ⟨_,_,rfl,.inr ⟨_,D,rfl,SlF.mono a4 (fun _ _=>rfl) (fun j u=>?_) (fun _ _ h=>y9 _ _ _ _ _ _ h (fun _ _=>rfl) fun j u=>?_)⟩,s6.ret e6⟩
   .rcases a4 with⟨h1,h2⟩|⟨b,o,c,h,_⟩
    .exact⟨_,_,rfl,.inr ⟨_,D,rfl,.inl ⟨h1,h2⟩⟩,i6.refl _ _⟩
    .rw[h]at hc;cases hc
   .rcases u with u|u
    .exact(W.lt j u).1
    .rw[<-ew]at u;exact(W.own.lt u).2
   .rcases u with u|u
    .exact(W.lt j u).1
    .rw[<-ew]at u;exact(W.own.lt u).2
  .have e4:=dT b3;rw[if_pos oM]at D;refine J3 d1 k5 b3 ?_;exact⟨_,none,H,rfl,rfl,_,_,rfl,.inl ⟨D,rfl,rfl⟩,i6.refl _ _⟩
 .have D:V4 s=none:=by rw[V4,O]
  have h0:=(s5.weaken (show H.next<=E.next from oM)).low c8;refine J3 ho g2 g3 ?_;exact⟨_,none,H,rfl,rfl,_,_,rfl,.inl ⟨D,rfl,rfl⟩,i6.refl _ _⟩
def lZ(q:Q):Bool:=decide (A0 (C0 q).progs<=24)&&decide ((B9 q).st<=24)&&(match V4 (spQ q)with|none=>true|some l=>decide (l.length<=14))
theorem vH(q:Q):(C0 q).main=B9 q:=by
 have:∀(l:List Q)(s:StD),(l.foldl E8 s).main=s.main:=by
  intro l;induction l with
  |nil=>intro s;rfl
  |cons x l u=>
   intro s;rw[List.foldl_cons,u,E8];split<;>rfl
 rw[C0,this]
theorem jO(q:Q)(O:OkD false q):(C0 q).progs.length=(C0 q).paths.length/\(C0 q).base.length=(C0 q).paths.length/\(C0 q).paths.length<=nQ q/\∀p∈(C0 q).progs,0<=p.st/\p.st<=2*nQ q:=by
 obtain⟨D,u⟩:=bS _ false q lR O;have:∀(l:List Q)(s:StD),(∀x∈l,nQ x<=nQ q)->s.progs.length=s.paths.length->s.base.length=s.paths.length->(∀p∈s.progs,0<=p.st/\p.st<=2*nQ q)->(l.foldl E8 s).progs.length=(l.foldl E8 s).paths.length/\(l.foldl E8 s).base.length=(l.foldl E8 s).paths.length/\(l.foldl E8 s).paths.length<=s.paths.length+l.length/\∀p∈(l.foldl E8 s).progs,0<=p.st/\p.st<=2*nQ q:=by
  intro l;induction l with
  |nil=>intro s D u E J;exact⟨u,E,by simp,J⟩
  |cons x l W=>
   intro s D u E J;have X:=dR x;have S:=D x sM;rw[List.foldl_cons];have key:(E8 s x).progs.length=(E8 s x).paths.length/\(E8 s x).base.length=(E8 s x).paths.length/\(E8 s x).paths.length<=s.paths.length+1/\∀p∈(E8 s x).progs,0<=p.st/\p.st<=2*nQ q:=by
    rw[E8];split
    .exact⟨u,E,oM,J⟩
    .refine⟨by simp [u],by simp [E],by simp,fun p z=>?_⟩;rcases List.mem_append.1 z with z|z
     .exact J p z
     .have:p=B9 x:=by simpa using z
      subst this;omega
   have:=W (E8 s x) (fun y U=>D y (by simp [U])) key.1 key.2.1 key.2.2.2;rw[List.length_cons];exact⟨this.1,this.2.1,oM,this.2.2.2⟩
 have:=this (inQ false q) ⟨[],[],[],B9 q⟩ (fun x S=>(u x S).2) rfl rfl sM;rw[<-C0]at this;exact⟨this.1,this.2.1,by have:=this.2.2.1;simp at this;omega,this.2.2.2⟩
theorem yk(H:N7)(lo k:Nat)(cs:LV)(q:Q)(b5:lo<=H.next)(hr:QR H lo k false cs q)(a6:OkD false q)(a5:nQ q<=1000):
  CL prog t6 30 [.agg cs.toArray] H=some (.bool (lZ q),none):=by
 have a0:cs.all oC=true:=by
  cases k with
  |zero=>exact hr.elim
  |succ k=>obtain⟨_,_,_,_,rfl,_⟩:=hr.path;rfl
 have X:ldC (some true) (some 3) 0 cs=some (.agg cs.toArray):=by
  cases k with
  |zero=>exact hr.elim
  |succ k=>obtain⟨_,_,_,_,rfl,_⟩:=hr.path;rfl
 obtain⟨H1,E,-,hg,hS⟩:=pushF H (bC cs 1);have b0:H.next<=H1.low:=by rw[E,l9];exact lR
 have n1:=hS.next;have b6:=u7 hg;obtain⟨v2,h2,H2,S,z,u,rfl,a7,s2⟩:=Cm k H1 lo (fun _ _=>True) cs q oM (hr.mono (fun j hj=>hS.get j oM) lR) (fun _ _ _ _ _=>trivial) a6 a5;have n2:=s2.next;obtain⟨pa,pc,ga,gc,ba,bc,ea,ec,ta,tc,a4,_⟩:=F1 a7;have l8:u.length=8:=by rw[a4];rfl
 have a8:u.all oC=true:=by rw[a4];rfl
 have a1:ldC (some true) (some 8) 0 u=some (.agg u.toArray):=by rw[a4];rfl
 have a3:u[3]?=some (.int .i64 (C0 q).main.st):=by rw[a4];rfl
 rw[vH]at a3;obtain⟨H3,O,n3,g3,s3⟩:=pushP H2 (bC z8 1) (bC u 1);have a2:splice z8 0 u=u:=x9 _ _ (by rw[l8];rfl);have J:H3.get H.next=cE cs 1:=by rw[s3.get _ oM,s2.get _ oM];exact hg
 obtain⟨v4,h4,H4,U,D,lv,er,rfl,a9,s4⟩:=yj H3 lo k cs q oM (hr.mono (fun j hj=>by rw[s3.get j oM,s2.get j oM,hS.get j oM]) lR) a6 a5;have n4:=s4.next;have g4:H4.get H2.next=cE u 1:=(s4.get _ oM).trans g3;obtain⟨p1,p2,p3,p4⟩:=jO q a6;have W:=qH H4 (fun j=>H1.next<=j/\j<H2.next) (QR H1 lo k false) (fun _ _=>True) u (C0 q) (fun j hj=>oM) (a7.mono (fun j hj=>by rw[s4.get j oM,s3.get j oM]) (fun _ h=>h) iF iF) oM (fun p hp=>by have:=p4 p hp;omega);have b4:H.next<=H4.low:=((s2.weaken (show H.next<=H1.next from oM)).trans ((s3.weaken oM).trans (s4.weaken oM))).low b0;rw[j7 QI rfl _ sM,lZ];rcases a9 with⟨h1,rfl,rfl⟩|⟨l,h1,rfl,hl⟩
 .rw[h1];rcases b1:decide (A0 (C0 q).progs<=24)with _|_
  .exact J17 a0 E.symm hg X S z a8 l8 a2 O.symm J U D g4 a1 W b1 trivial
  rcases b2:decide ((B9 q).st<=24)with _|_
  .exact J19 a0 E.symm hg X S z a8 l8 a2 O.symm J U D g4 a1 W a3 b1 b2 trivial
  .exact J19 a0 E.symm hg X S z a8 l8 a2 O.symm J U D g4 a1 W a3 b1 b2 trivial
 .rw[h1];obtain⟨la,lc,rfl⟩:=hl.slice;have b3:decide ((l.length:Int)<=14)=decide (l.length<=14):=decide_eq_decide.2 oM;rcases b1:decide (A0 (C0 q).progs<=24)with _|_
  .exact J17 a0 E.symm hg X S z a8 l8 a2 O.symm J U D g4 a1 W b1 trivial
  rcases b2:decide ((B9 q).st<=24)with _|_
  .exact J19 a0 E.symm hg X S z a8 l8 a2 O.symm J U D g4 a1 W a3 b1 b2 trivial
  .exact J20 a0 E.symm hg X S z a8 l8 a2 O.symm J U D g4 a1 W a3 b1 b2 b3 trivial
theorem mC{P:Program}(t:TypeId)(a:Option Addr)(n c:Nat)(h:(I5 P t).isSome=true):F6 P .eql t (.slice a n c) (nS)=some (.bool a.isNone):=by
 cases a<;>simp [F6,eqA,h]
theorem zk{α:Type}(R:LV->α->Prop)(H:N7)(n:Nat)(v:Value)(l:List α)(hn:n<=H.next)(W:SlI H n 3 R v l)(hl:l.length<=1000000):L8 (CL prog t6 37 [v] H) H 3 R l:=by
 obtain⟨va,ca,rfl⟩:=W.slice;have e1:=fun a n c=>mC (P:=prog) 49 a n c (by rw[CF.2.2.2.2.2.1];rfl);rw[j7 QK rfl _ sM];rcases b:va.isNone with _|_
 .obtain⟨E,u⟩:=eY (N7.push ⟨H.bs,H.next⟩ (bC [] 3));have hS:i6 H.next H E:=by rw[u];exact i6.first H _
  have n1:E.next=H.next+1:=by rw[u,i5];rfl
  have D:H.next<=E.low:=by rw[u,l9];exact lR
  have J:u6 E H.next 3 R (sL H.next 0 0) []:=by rw[u];exact u6.fresh rfl lR D2.nil
  obtain⟨w1,h1,K2,S,z,O,s2⟩:=J.append (P:=prog) (t:=49) (n:=n) (by exact CF.2.2.2.2.2.2) jQ.1 jQ.2.1 jQ.2.2.1 oM oM (W.mono (fun j hj=>hS.get j oM) lR iF) (by simp;omega) oM;refine J5 e1 b u.symm S z ?_;exact F0 O (hS.trans s2) (s2.low D)
 .have X:va=none:=by simpa using b
  subst X;have U:l=[]:=by
   rcases W with⟨_,h⟩|⟨b,o,c,h,_⟩
   .exact h
   .cases h
  subst U;refine J2 e1 b ?_;exact⟨_,none,H,rfl,rfl,u6.nil,i6.refl _ _⟩
theorem GN{α:Type}(R:LV->α->Prop)(H:N7)(n:Nat)(v:Value)(l:List α)(hn:n<=H.next)(W:SlI H n 1 R v l)(hl:l.length<=1000000):L8 (CL prog t6 55 [v] H) H 1 R l:=by
 obtain⟨va,ca,rfl⟩:=W.slice;have e1:=fun a n c=>mC (P:=prog) 97 a n c (by rw[bU.2.2.2.2.2.1];rfl);rw[j7 QO rfl _ sM];rcases b:va.isNone with _|_
 .obtain⟨E,u⟩:=eY (N7.push ⟨H.bs,H.next⟩ (bC [] 1));have hS:i6 H.next H E:=by rw[u];exact i6.first H _
  have n1:E.next=H.next+1:=by rw[u,i5];rfl
  have D:H.next<=E.low:=by rw[u,l9];exact lR
  have J:u6 E H.next 1 R (sL H.next 0 0) []:=by rw[u];exact u6.fresh rfl lR D2.nil
  obtain⟨w1,h1,K2,S,z,O,s2⟩:=J.append (P:=prog) (t:=97) (n:=n) (by exact bU.2.2.2.2.2.2) ty9.1 ty9.2.1 ty9.2.2.1 oM oM (W.mono (fun j hj=>hS.get j oM) lR iF) (by simp;omega) oM;refine J5 e1 b u.symm S z ?_;exact F0 O (hS.trans s2) (s2.low D)
 .have X:va=none:=by simpa using b
  subst X;have U:l=[]:=by
   rcases W with⟨_,h⟩|⟨b,o,c,h,_⟩
   .exact h
   .cases h
  subst U;refine J2 e1 b ?_;exact⟨_,none,H,rfl,rfl,u6.nil,i6.refl _ _⟩
theorem Lx{α:Type}(H0:N7)(F:Nat->Prop)(R:LV->α->Prop)(fv:Value)(p:α->Bool)(va:Option Addr)(ca:Nat)(l:List α)(hv:SlF H0 F 3 R (.slice va l.length ca) l)(hn:l.length<=1048576)(hf:∀(i:Nat)(x:α)(el:LV),l[i]?=some x->R el x->fC (CL prog t6) fv [.agg el.toArray] H0=some (.bool (p x),none)) (r:Int):
  ∀X e H2,(∃i:Nat,X=l.length-i/\i<=l.length/\e.get 0= .slice va l.length ca/\e.get 1=fv/\e.get 7=iV l.length/\e.get 8=iV i/\H2=H0/\ixG p (l.drop i) i=r)->
  w7 (LE prog t6 (.loop KC) e H2) (fun o e H2=>H2=H0/\((o= .exit 0/\r= -1)\/(o= .ret/\e.get 4=iV r))):=by
 refine i8 _ _ ?_;rintro X e H2 ⟨i,hk,hi,O,S,J,U,hH,D⟩;subst hH;rcases b:decide ((i:Int)<l.length)with _|_
 .have W:=dF b;have:l.drop i=[]:=dN oM;rw[this,ixG]at D;refine J3 J U b ?_;exact i9 ⟨rfl,.inl ⟨rfl,D.symm⟩⟩
 have W:=dT b;obtain⟨x,nb,o,cs,own,el,hx,hd,rfl,hF,hg,a1,z,hc,hR⟩:=hv.row (i:=i) oM;have nt:(i:Int).toNat=i:=tN i;have u:=hf i x el hx hR;rw[hd,ixG]at D;rcases E:p x with _|_
 .simp only[E,bF]at D;rw[E]at u;refine J10 O S J U b hg nt z u @wrap_small ?_;exact i4 (X-1) oM ⟨i+1,oM,oM,O,S,J,rfl,rfl,D⟩
 .simp only[E,if_true]at D;rw[E]at u;refine J9 O S J U b hg nt z u ?_;exact z9 ⟨rfl,.inr ⟨rfl,by rw[<-D];rfl⟩⟩
theorem nr{α:Type}(H:N7)(F:Nat->Prop)(R:LV->α->Prop)(u:Value)(p:α->Bool)(v:Value)(l:List α)(J:SlF H F 3 R v l)(U:l.length<=1048576)(S:∀(i:Nat)(x:α)(el:LV),l[i]?=some x->R el x->fC (CL prog t6) u [.agg el.toArray] ⟨H.bs,H.next⟩=some (.bool (p x),none)):
  CL prog t6 130 [v,u] H=some (.int .i64 (ixG p l 0),none):=by
 obtain⟨X,ca,rfl⟩:=J.slice;have hl:(⟨H.bs,H.next⟩:N7).low=H.next:=rfl;rw[j7 Jn rfl _ sM];refine J1 lP ?_;refine j8 (F:=fun z=>u5 _ _ _ (u9 (inBlock 0 z) _)=_) (Lx ⟨H.bs,H.next⟩ F R u p X ca l (J.mono (fun _ _=>rfl) (fun _ h=>h) iF) U S (ixG p l 0) l.length _ _ ⟨0,rfl,oM,rfl,rfl,rfl,rfl,rfl,rfl⟩) ?_;rintro o e' H' ⟨E,⟨D,W⟩|⟨D,O⟩⟩
 .exact J3 D E W trivial
 .exact J3 D E O trivial
theorem nj{α:Type}(H:N7)(F:Nat->Prop)(R:LV->α->Prop)(u:Value)(p:α->Bool)(v:Value)(l:List α)(J:SlF H F 3 R v l)(E:l.length<=1048576)(D:∀(i:Nat)(x:α)(el:LV),l[i]?=some x->R el x->fC (CL prog t6) u [.agg el.toArray] ⟨H.bs,H.next⟩=some (.bool (p x),none)):
  CL prog t6 104 [v,u] H=some (.bool (l.any p),none):=by
 have z:=nr ⟨H.bs,H.next⟩ F R u p v l (J.mono (fun _ _=>rfl) (fun _ h=>h) iF) E D;rw[j7 OF rfl _ sM,<-gN];exact J1 z trivial
theorem Ly{α:Type}(H0:N7)(F:Nat->Prop)(R:LV->α->Prop)(fv:Value)(p:α->Bool)(va:Option Addr)(ca:Nat)(l:List α)(hv:SlF H0 F 6 R (.slice va l.length ca) l)(hn:l.length<=1048576)(hf:∀(i:Nat)(x:α)(el:LV),l[i]?=some x->R el x->fC (CL prog t6) fv [.agg el.toArray] H0=some (.bool (p x),none)) (r:Int):
  ∀X e H2,(∃i:Nat,X=l.length-i/\i<=l.length/\e.get 0= .slice va l.length ca/\e.get 1=fv/\e.get 7=iV l.length/\e.get 8=iV i/\H2=H0/\ixG p (l.drop i) i=r)->
  w7 (LE prog t6 (.loop KN) e H2) (fun o e H2=>H2=H0/\((o= .exit 0/\r= -1)\/(o= .ret/\e.get 4=iV r))):=by
 refine i8 _ _ ?_;rintro X e H2 ⟨i,hk,hi,O,S,J,U,hH,D⟩;subst hH;rcases b:decide ((i:Int)<l.length)with _|_
 .have W:=dF b;have:l.drop i=[]:=dN oM;rw[this,ixG]at D;refine J3 J U b ?_;exact i9 ⟨rfl,.inl ⟨rfl,D.symm⟩⟩
 have W:=dT b;obtain⟨x,nb,o,cs,own,el,hx,hd,rfl,hF,hg,a1,z,hc,hR⟩:=hv.row (i:=i) oM;have nt:(i:Int).toNat=i:=tN i;have u:=hf i x el hx hR;rw[hd,ixG]at D;rcases E:p x with _|_
 .simp only[E,bF]at D;rw[E]at u;refine J10 O S J U b hg nt z u @wrap_small ?_;exact i4 (X-1) oM ⟨i+1,oM,oM,O,S,J,rfl,rfl,D⟩
 .simp only[E,if_true]at D;rw[E]at u;refine J9 O S J U b hg nt z u ?_;exact z9 ⟨rfl,.inr ⟨rfl,by rw[<-D];rfl⟩⟩
theorem xz{α:Type}(H:N7)(F:Nat->Prop)(R:LV->α->Prop)(u:Value)(p:α->Bool)(v:Value)(l:List α)(J:SlF H F 6 R v l)(U:l.length<=1048576)(S:∀(i:Nat)(x:α)(el:LV),l[i]?=some x->R el x->fC (CL prog t6) u [.agg el.toArray] ⟨H.bs,H.next⟩=some (.bool (p x),none)):
  CL prog t6 153 [v,u] H=some (.int .i64 (ixG p l 0),none):=by
 obtain⟨X,ca,rfl⟩:=J.slice;have hl:(⟨H.bs,H.next⟩:N7).low=H.next:=rfl;rw[j7 Jt rfl _ sM];refine J1 sU ?_;refine j8 (F:=fun z=>u5 _ _ _ (u9 (inBlock 0 z) _)=_) (Ly ⟨H.bs,H.next⟩ F R u p X ca l (J.mono (fun _ _=>rfl) (fun _ h=>h) iF) U S (ixG p l 0) l.length _ _ ⟨0,rfl,oM,rfl,rfl,rfl,rfl,rfl,rfl⟩) ?_;rintro o e' H' ⟨E,⟨D,W⟩|⟨D,O⟩⟩
 .exact J3 D E W trivial
 .exact J3 D E O trivial
theorem nu{α:Type}(H:N7)(F:Nat->Prop)(R:LV->α->Prop)(u:Value)(p:α->Bool)(v:Value)(l:List α)(J:SlF H F 6 R v l)(E:l.length<=1048576)(D:∀(i:Nat)(x:α)(el:LV),l[i]?=some x->R el x->fC (CL prog t6) u [.agg el.toArray] ⟨H.bs,H.next⟩=some (.bool (p x),none)):
  CL prog t6 136 [v,u] H=some (.bool (l.any p),none):=by
 have z:=xz ⟨H.bs,H.next⟩ F R u p v l (J.mono (fun _ _=>rfl) (fun _ h=>h) iF) E D;rw[j7 OZ rfl _ sM,<-gN];exact J1 z trivial
theorem F7{H:N7}{lo k:Nat}{f:Bool}{cs:LV}{q:Q}(h:QR H lo k f cs q):cs.all oC=true:=by
 cases k with
 |zero=>exact h.elim
 |succ k=>
  cases f
  .obtain⟨_,_,_,_,rfl,_⟩:=h.path;rfl
  .obtain⟨_,_,_,_,rfl,_⟩:=h.filter;rfl
theorem N5{H:N7}{lo k:Nat}{f:Bool}{cs:LV}{q:Q}(h:QR H lo k f cs q):ldC (some true) (some cs.length) 0 cs=some (.agg cs.toArray):=by
 cases k with
 |zero=>exact h.elim
 |succ k=>
  cases f
  .obtain⟨_,_,_,_,rfl,_⟩:=h.path;rfl
  .obtain⟨_,_,_,_,rfl,_⟩:=h.filter;rfl
def pN(fn g:Nat)(f:Bool)(k:Nat):Prop:=∀(H:N7)(lo:Nat)(va vb:Value)(l m:List Q),lo<=H.next->QsR H lo k f va l->QsR H lo k f vb m->l.length<=1048576->m.length<=1048576->CL prog t6 fn [va,vb,.func (.func g) #[] #[]] H=some (.bool (decide (l.length=m.length)&&N1 l m),none)
theorem uh(k:Nat)(ih:P4 106 false k)(H0:N7)(lo:Nat)(va vb:Option Addr)(ca cb:Nat)(l m:List Q)(c0:l.length=m.length)(c3:lo<=H0.next)(hv:QsR H0 lo k false (.slice va l.length ca) l)(hw:QsR H0 lo k false (.slice vb m.length cb) m)(hn:l.length<=1048576)(r:Bool):
  ∀kk e H2,(∃i:Nat,kk=l.length-i/\i<=l.length/\e.get 1= .slice vb m.length cb/\e.get 2= .func (.func 106) #[] #[]/\e.get 15= .slice va l.length ca/\e.get 16=iV l.length/\e.get 17=iV i/\i6 H0.next H0 H2/\N1 (l.drop i) (m.drop i)=r)->
  w7 (LE prog t6 (.loop KD) e H2) (fun o e H2=>i6 H0.next H0 H2/\((o= .exit 0/\r=true)\/(o= .ret/\e.get 6= .bool false/\r=false))):=by
 refine i8 _ _ ?_;rintro kk e H2 ⟨i,hk,hi,f1,f2,S,E,U,hS,W⟩;rcases b:decide ((i:Int)<l.length)with _|_
 .have b3:=dF b;have:l.drop i=[]:=dN oM;rw[this,N1]at W;refine J3 E U b ?_;exact i9 ⟨hS,.inl ⟨rfl,W.symm⟩⟩
 have b3:=dT b;have c5:=hS.next;obtain⟨x,nb,o,cs,own,el,hx,hd,rfl,c4,hg,b5,D,hr⟩:=hv.row (i:=i) oM;obtain⟨y,b6,o',cs',b9,u,c6,b4,rfl,b7,a7,a8,z,O⟩:=hw.row (i:=i) oM;have nt:(i:Int).toNat=i:=tN i;have b8:(i:Int)<m.length:=oM;rw[hd,b4,Y8]at W;simp only[qSz,if_true,bF]at D hg z a7 b5 a8;have e1:=hr.len;have e2:=O.len;simp only[qSz,if_true,bF]at e1 e2;have a1:el.all oC=true:=F7 hr;have a2:u.all oC=true:=F7 O;obtain⟨H3,a5,n3,g3,s3⟩:=pushP H2 (bC [iV 0,nS,nS] 1) (bC el 1);have b0:splice [iV 0,nS,nS] 0 el=el:=x9 _ _ (by rw[e1];rfl);have b1:splice [iV 0,nS,nS] 0 u=u:=x9 _ _ (by rw[e2];rfl);obtain⟨H4,a6,n4,g4,s4⟩:=pushP H3 (bC [iV 0,nS,nS] 1) (bC u 1);have a4:H4.get H2.next=cE el 1:=(s4.get _ oM).trans g3;have gx:H2.get nb=_:=(hS.get _ oM).trans hg;have gy:H3.get b6=_:=(s3.get _ oM).trans ((hS.get _ oM).trans a7);have X:ldC (some true) (some el.length) 0 el=some (.agg el.toArray):=N5 hr;have a3:ldC (some true) (some u.length) 0 u=some (.agg u.toArray):=N5 O;rw[e1]at X;rw[e2]at a3;have k4:∀j,j<lo->H4.get j=H0.get j:=fun j hj=>by rw[s4.get _ oM,s3.get _ oM,hS.get _ oM]
 have J:=ih H4 lo el u x y oM (hr.mono k4 lR) (O.mono k4 lR);have a9:i6 H0.next H0 H4:=(hS.trans (s3.weaken oM)).trans (s4.weaken oM);rcases b2:M6 x y with _|_
 .rw[b2]at J W;refine J24 f1 f2 S E U b gx nt D a1 e1 b0 a5.symm gy z a2 e2 b1 a6.symm a4 g4 X a3 J ?_;exact z9 ⟨a9,.inr ⟨rfl,rfl,by rw[<-W];rfl⟩⟩
 .rw[b2]at J W;refine J25 f1 f2 S E U b gx nt D a1 e1 b0 a5.symm gy z a2 e2 b1 a6.symm a4 g4 X a3 J @wrap_small ?_;exact i4 (kk-1) oM ⟨i+1,oM,oM,f1,f2,S,E,rfl,a9,W⟩
theorem DQ(k:Nat)(ih:P4 106 false k):pN 131 106 false k:=by
 intro H lo va vb l m E U W hn hm;obtain⟨X,ac,rfl⟩:=U.slice;obtain⟨ba,bc,rfl⟩:=W.slice;have el:decide ((l.length:Int)=m.length)=decide (l.length=m.length):=decide_eq_decide.2 oM;rw[j7 Jo rfl _ sM];rcases b:decide (l.length=m.length)with _|_
 .exact J2 el b trivial
 .refine J2 el b ?_;refine j8 (F:=fun z=>u5 _ _ _ (u9 (inBlock 0 z) _)=_) (uh k ih ⟨H.bs,H.next⟩ lo X ba ac bc l m (dT b) E (U.mono (fun _ _=>rfl) lR) (W.mono (fun _ _=>rfl) lR) hn (N1 l m) l.length _ _ ⟨0,rfl,oM,rfl,rfl,rfl,rfl,rfl,i6.refl _ _,rfl⟩) ?_;rintro o e' H' ⟨S,⟨J,O⟩|⟨J,h4,O⟩⟩
  .have u:=S.low lR;have D:H.next<=H'.low:=u;exact J2 J O trivial
  .have u:=S.low lR;have D:H.next<=H'.low:=u;exact J3 J h4 O trivial
theorem ui(k:Nat)(ih:P4 133 true k)(H0:N7)(lo:Nat)(va vb:Option Addr)(ca cb:Nat)(l m:List Q)(c0:l.length=m.length)(c3:lo<=H0.next)(hv:QsR H0 lo k true (.slice va l.length ca) l)(hw:QsR H0 lo k true (.slice vb m.length cb) m)(hn:l.length<=1048576)(r:Bool):
  ∀kk e H2,(∃i:Nat,kk=l.length-i/\i<=l.length/\e.get 1= .slice vb m.length cb/\e.get 2= .func (.func 133) #[] #[]/\e.get 15= .slice va l.length ca/\e.get 16=iV l.length/\e.get 17=iV i/\i6 H0.next H0 H2/\N1 (l.drop i) (m.drop i)=r)->
  w7 (LE prog t6 (.loop KE) e H2) (fun o e H2=>i6 H0.next H0 H2/\((o= .exit 0/\r=true)\/(o= .ret/\e.get 6= .bool false/\r=false))):=by
 refine i8 _ _ ?_;rintro kk e H2 ⟨i,hk,hi,f1,f2,S,E,U,hS,W⟩;rcases b:decide ((i:Int)<l.length)with _|_
 .have b3:=dF b;have:l.drop i=[]:=dN oM;rw[this,N1]at W;refine J3 E U b ?_;exact i9 ⟨hS,.inl ⟨rfl,W.symm⟩⟩
 have b3:=dT b;have c5:=hS.next;obtain⟨x,nb,o,cs,own,el,hx,hd,rfl,c4,hg,b5,D,hr⟩:=hv.row (i:=i) oM;obtain⟨y,b6,o',cs',b9,u,c6,b4,rfl,b7,a7,a8,z,O⟩:=hw.row (i:=i) oM;have nt:(i:Int).toNat=i:=tN i;have b8:(i:Int)<m.length:=oM;rw[hd,b4,Y8]at W;simp only[qSz,if_true,bF]at D hg z a7 b5 a8;have e1:=hr.len;have e2:=O.len;simp only[qSz,if_true,bF]at e1 e2;have a1:el.all oC=true:=F7 hr;have a2:u.all oC=true:=F7 O;obtain⟨H3,a5,n3,g3,s3⟩:=pushP H2 (bC [iV 0,.string eB,.string eB,.string eB,nS,nS] 1) (bC el 1);have b0:splice [iV 0,.string eB,.string eB,.string eB,nS,nS] 0 el=el:=x9 _ _ (by rw[e1];rfl);have b1:splice [iV 0,.string eB,.string eB,.string eB,nS,nS] 0 u=u:=x9 _ _ (by rw[e2];rfl);obtain⟨H4,a6,n4,g4,s4⟩:=pushP H3 (bC [iV 0,.string eB,.string eB,.string eB,nS,nS] 1) (bC u 1);have a4:H4.get H2.next=cE el 1:=(s4.get _ oM).trans g3;have gx:H2.get nb=_:=(hS.get _ oM).trans hg;have gy:H3.get b6=_:=(s3.get _ oM).trans ((hS.get _ oM).trans a7);have X:ldC (some true) (some el.length) 0 el=some (.agg el.toArray):=N5 hr;have a3:ldC (some true) (some u.length) 0 u=some (.agg u.toArray):=N5 O;rw[e1]at X;rw[e2]at a3;have k4:∀j,j<lo->H4.get j=H0.get j:=fun j hj=>by rw[s4.get _ oM,s3.get _ oM,hS.get _ oM]
 have J:=ih H4 lo el u x y oM (hr.mono k4 lR) (O.mono k4 lR);have a9:i6 H0.next H0 H4:=(hS.trans (s3.weaken oM)).trans (s4.weaken oM);rcases b2:M6 x y with _|_
 .rw[b2]at J W;refine J24 f1 f2 S E U b gx nt D a1 e1 b0 a5.symm gy z a2 e2 b1 a6.symm a4 g4 X a3 J ?_;exact z9 ⟨a9,.inr ⟨rfl,rfl,by rw[<-W];rfl⟩⟩
 .rw[b2]at J W;refine J25 f1 f2 S E U b gx nt D a1 e1 b0 a5.symm gy z a2 e2 b1 a6.symm a4 g4 X a3 J @wrap_small ?_;exact i4 (kk-1) oM ⟨i+1,oM,oM,f1,f2,S,E,rfl,a9,W⟩
theorem DR(k:Nat)(ih:P4 133 true k):pN 132 133 true k:=by
 intro H lo va vb l m E U W hn hm;obtain⟨X,ac,rfl⟩:=U.slice;obtain⟨ba,bc,rfl⟩:=W.slice;have el:decide ((l.length:Int)=m.length)=decide (l.length=m.length):=decide_eq_decide.2 oM;rw[j7 Jp rfl _ sM];rcases b:decide (l.length=m.length)with _|_
 .exact J2 el b trivial
 .refine J2 el b ?_;refine j8 (F:=fun z=>u5 _ _ _ (u9 (inBlock 0 z) _)=_) (ui k ih ⟨H.bs,H.next⟩ lo X ba ac bc l m (dT b) E (U.mono (fun _ _=>rfl) lR) (W.mono (fun _ _=>rfl) lR) hn (N1 l m) l.length _ _ ⟨0,rfl,oM,rfl,rfl,rfl,rfl,rfl,i6.refl _ _,rfl⟩) ?_;rintro o e' H' ⟨S,⟨J,O⟩|⟨J,h4,O⟩⟩
  .have u:=S.low lR;have D:H.next<=H'.low:=u;exact J2 J O trivial
  .have u:=S.low lR;have D:H.next<=H'.low:=u;exact J3 J h4 O trivial
theorem II(k:Nat)(a1:pN 131 106 false k)(a2:pN 132 133 true k):P4 106 false (k+1):=by
 intro H lo c1 c2 x y a4 hx hy;obtain⟨s1,s2,s3⟩:=hx.plain rfl;obtain⟨u1,u2,u3⟩:=hy.plain rfl;obtain⟨va,ca,wa,J,rfl,h1,h2,h3,h4⟩:=hx.path;obtain⟨vb,cb,wb,O,rfl,k1,k2,k3,k4⟩:=hy.path;obtain⟨E,u⟩:=eY ((N7.push ⟨H.bs,H.next⟩ (bC [iV x.op,.slice va x.a.length ca,.slice wa x.b.length J] 1)).push (bC [iV y.op,.slice vb y.a.length cb,.slice wb y.b.length O] 1));have hS:i6 H.next H E:=by rw[u];exact(i6.first H _).trans (i6.push (by rw[i5];show H.next<=H.next+1;omega))
 have z:E.get H.next=cE [iV x.op,.slice va x.a.length ca,.slice wa x.b.length J] 1:=by rw[u,i7 (by rw[i5];show H.next<H.next+1;omega)];exact j9
 have D:E.get (H.next+1)=cE [iV y.op,.slice vb y.a.length cb,.slice wb y.b.length O] 1:=by rw[u];exact y7 (by rw[i5];show H.next+1<=H.next+1/\H.next+1<=H.next+1;omega)
 have a3:H.next<=E.low:=by rw[u,l9,l9];exact lR
 have hn:=hS.next;have W:∀j,j<lo->E.get j=H.get j:=fun j hj=>hS.get j oM;have S:=a1 E lo (.slice va x.a.length ca) (.slice vb y.a.length cb) x.a y.a oM (h1.mono W lR) (k1.mono W lR) h3 k3;have e2:=a2 E lo (.slice wa x.b.length J) (.slice wb y.b.length O) x.b y.b oM (h2.mono W lR) (k2.mono W lR) h4 k4;rw[j7 OH rfl _ sM,gB];have p1:(decide (x.sp=y.sp)&&decide (x.lc=y.lc))=true:=by rw[s1,s2,u1,u2];rfl
 have p2:decide (x.vl=y.vl)=true:=by rw[s3,u3];rfl
 rw[p1,p2];rcases U:decide (x.op=y.op)with _|_
 .exact J4 u.symm z D U trivial
 rcases X:decide (x.a.length=y.a.length)with _|_
 .rw[X]at S;exact J5 u.symm z D U S trivial
 rcases b5:N1 x.a y.a with _|_
 .rw[X,b5]at S;exact J5 u.symm z D U S trivial
 rw[X,b5]at S;exact J6 u.symm z D U S e2 trivial
theorem IK(k:Nat)(a1:pN 132 133 true k)(a2:pN 131 106 false k):P4 133 true (k+1):=by
 intro H lo c1 c2 x y a4 hx hy;obtain⟨va,ca,wa,J,rfl,h1,h2,h3,h4,_⟩:=hx.filter;obtain⟨vb,cb,wb,O,rfl,k1,k2,k3,k4,_⟩:=hy.filter;obtain⟨E,u⟩:=eY ((N7.push ⟨H.bs,H.next⟩ (bC [iV x.op,.string x.sp,.string x.lc,.string x.vl,.slice va x.a.length ca,.slice wa x.b.length J] 1)).push (bC [iV y.op,.string y.sp,.string y.lc,.string y.vl,.slice vb y.a.length cb,.slice wb y.b.length O] 1));have hS:i6 H.next H E:=by rw[u];exact(i6.first H _).trans (i6.push (by rw[i5];show H.next<=H.next+1;omega))
 have z:E.get H.next=cE [iV x.op,.string x.sp,.string x.lc,.string x.vl,.slice va x.a.length ca,.slice wa x.b.length J] 1:=by rw[u,i7 (by rw[i5];show H.next<H.next+1;omega)];exact j9
 have D:E.get (H.next+1)=cE [iV y.op,.string y.sp,.string y.lc,.string y.vl,.slice vb y.a.length cb,.slice wb y.b.length O] 1:=by rw[u];exact y7 (by rw[i5];show H.next+1<=H.next+1/\H.next+1<=H.next+1;omega)
 have a3:H.next<=E.low:=by rw[u,l9,l9];exact lR
 have hn:=hS.next;have W:∀j,j<lo->E.get j=H.get j:=fun j hj=>hS.get j oM;have U:=a1 E lo (.slice va x.a.length ca) (.slice vb y.a.length cb) x.a y.a oM (h1.mono W lR) (k1.mono W lR) h3 k3;have e2:=a2 E lo (.slice wa x.b.length J) (.slice wb y.b.length O) x.b y.b oM (h2.mono W lR) (k2.mono W lR) h4 k4;rw[j7 OX rfl _ sM,gB];rcases S:decide (x.op=y.op)with _|_
 .exact J4 u.symm z D S trivial
 rcases p1:(decide (x.sp=y.sp)&&decide (x.lc=y.lc))with _|_
 .exact J5 u.symm z D S p1 trivial
 rcases p2:decide (x.vl=y.vl)with _|_
 .exact J6 u.symm z D S p1 p2 trivial
 rcases X:decide (x.a.length=y.a.length)with _|_
 .rw[X]at U;exact J7 u.symm z D S p1 p2 U trivial
 rcases b5:N1 x.a y.a with _|_
 .rw[X,b5]at U;exact J7 u.symm z D S p1 p2 U trivial
 rw[X,b5]at U;exact J8 u.symm z D S p1 p2 U e2 trivial
theorem im:∀k,P4 106 false k/\P4 133 true k:=by
 intro k;induction k with
 |zero=>exact⟨fun H lo c1 c2 x y z D E=>D.elim,fun H lo c1 c2 x y z D E=>D.elim⟩
 |succ k u=>exact⟨II k (DQ k u.1) (DR k u.2),IK k (DR k u.2) (DQ k u.1)⟩
def Pu:=nfF 60 Tryz.f60 []
abbrev NN:t7:=ptA Pu [1,1,1,0,1,0,0]
def La:=nfF 82 Tryz.f82 [0]
abbrev Og:t7:=ptA La [1,0,1,0,0]
abbrev Oh:t7:=ptA La [1,1,1,0,0]
def Pf:=nfF 149 Tryz.f149 []
end Go.Proofs.YtofbhlhamfkljaaGreatDoor.Ve
namespace Go.Proofs.YtofbhlhamfkljaaGreatDoor.Ve
open Go Go.RowKit
theorem ng(H:N7)(b:Nat)(B:Blk)(j:Nat):(H.put b B).get j=if j=b then(if j<H.next then some B else none) else H.get j:=by
 by_cases h:j=b
 .subst h;rw[if_pos rfl];by_cases u:j<H.next
  .rw[if_pos u,j5 u]
  .rw[if_neg u];have:(H.put j B).next<=j:=by rw[t5];omega
   exact List.getElem?_eq_none this
 .rw[if_neg h,j6 (fun q=>h q.symm)]
theorem kO(H:N7)(B:Blk)(j:Nat):(H.push B).get j=if j=H.next then some B else H.get j:=by
 by_cases h:j=H.next
 .subst h;rw[if_pos rfl];exact j9
 .rw[if_neg h];by_cases E:j<H.next
  .exact i7 E
  .have u:(H.push B).next<=j:=by rw[i5];omega
   have z:H.next<=j:=oM;have D:(H.push B).get j=none:=List.getElem?_eq_none u;have J:H.get j=none:=List.getElem?_eq_none z;rw[D,J]
theorem uB{H K:N7}(u:H.low=K.low)(z:∀j,H.get j=K.get j):H=K:=by
 obtain⟨a,b⟩:=H;obtain⟨c,d⟩:=K;simp only at u;subst u
 congr 1
 exact List.ext_getElem? z
def aU(w:Value)(H:N7):N7:=
 match w with
 | .slice (some a) n c=>if c=n then H else H.put a.block .dead
 |_=>H
theorem Y6(w:Value)(H:N7):(aU w H).next=H.next:=by
 unfold aU;split
 .split
  .rfl
  .rw[t5]
 .rfl
theorem mz{P:Program}{t e:TypeId}{bytes lo sz n k:Nat}{z cs el:LV}{H:N7}{w:Value}{a:Option Addr}(ht:P.underlying t=some (.slice e))(U:D8 P e=some sz)(O:V0 P e=some bytes)(W:O9 P e=some z)(h0:0<sz)(h1:0<bytes)
  (h:cg H lo sz w n cs) (hx:A5 H sz (.slice a 1 k)=some el) (S:(n+1)*bytes<=140737488355328):
  C2 P H [t,t] w (.slice a 1 k)=some (.slice (some ⟨H.next,0,none⟩) (n+1) (n+1+1),some ((aU w H).push (.cells (cs++el) true sz))):=by
 have E:I5 P t=some e:=by simp [I5,ht]
 have u:aY P H sz (some t) (.slice a 1 k)=some (1,el):=by
  simp only[aY,Option.bind_some,ht,hx,Option.map_some]
 have D:¬(sz=0\/bytes=0):=oM;rcases h with⟨rfl,rfl,rfl⟩|⟨b,c,rfl,hg,a2,a1⟩
 .simp only[C2,List.head?_cons,Option.bind_some,E,U,O,W,List.getElem?_cons_succ,List.getElem?_cons_zero,if_neg D,u,aU];rw[if_neg oM,if_pos (by simpa using S)];simp
 .have J:((cs.drop 0).take (n*sz))=cs:=by rw[List.drop_zero,List.take_of_length_le oM]
  by_cases X:c=n
  .simp only[C2,List.head?_cons,Option.bind_some,E,U,O,W,List.getElem?_cons_succ,List.getElem?_cons_zero,if_neg D,u,hg,J,aU,if_pos X];rw[if_neg oM,if_pos S,if_pos (by simp;omega)]
  .simp only[C2,List.head?_cons,Option.bind_some,E,U,O,W,List.getElem?_cons_succ,List.getElem?_cons_zero,if_neg D,u,hg,J,aU,if_neg X];rw[if_neg oM,if_pos S,if_pos (by simp;omega),if_pos trivial]
theorem AJ(H:N7)(w:Value)(u:Nat)(z c1 c2 J O B1 S N:Blk)(X:u<H.next)(hw:∀b,l7 w b->b<H.next/\b≠u) (hs:∀a n c,w= .slice (some a) n c->l7 w a.block):
  N4 H.next (((aU w ((((H.push z).put H.next c1).put H.next c2).push J)).push B1).put u N)=N4 H.next ((((aU w ((((H.push z).put H.next c2).put H.next c1).push O)).push S).put u N).put (H.next+2) B1):=by
 have key:(aU w=fun H=>H)\/∃b,b<H.next/\b≠u/\aU w=fun H=>H.put b .dead:=by
  cases w with
  |slice a n c=>
   cases a with
   |none=>left;rfl
   |some a=>
    by_cases E:c=n
    .left;funext H;simp [aU,E]
    .right
     have:=hw _ (hs a n c rfl);exact⟨a.block,this.1,this.2,by funext H;simp [aU,E]⟩
  |_=>left;rfl
 rcases key with D|⟨b,U,W,D⟩
 .rw[D];refine uB ?_ fun j=>?_
  .simp only[N4,A4,l9];omega
  .simp only[N4,ng,kO,t5,i5]
   repeat' split
   all_goals first|rfl|omega
 .rw[D];refine uB ?_ fun j=>?_
  .simp only[N4,A4,l9];omega
  .simp only[N4,ng,kO,t5,i5]
   repeat' split
   all_goals first|rfl|omega
end Go.Proofs.YtofbhlhamfkljaaGreatDoor.Ve
namespace Go.Proofs.YtofbhlhamfkljaaGreatDoor.Ve
open Go Go.RowKit
open Go.Proofs.Tryz (prog)
theorem QR.upTo{H:N7}{lo k:Nat}{f:Bool}{cs:LV}{q:Q}(h:QR H lo k f cs q):∀{K:Nat},k<=K->QR H lo K f cs q:=by
 intro K;induction K with
 |zero=>
  intro D;have u:k=0:=oM;subst u;exact h
 |succ K J=>
  intro D;by_cases E:k<=K
  .exact(J E).up
  .have z:k=K+1:=oM;subst z;exact h
def bR(acc:List Q)(x:Q):List Q:=if acc.any (fun y=>M6 x y) then acc else acc++[x]
theorem Qb(k:Nat)(H:N7)(lo px:Nat)(u el:LV)(x y:Q)(a2:lo<=H.next)(hg:H.get px=cE u 1)(X:QR H lo k false u x)(O:QR H lo k false el y):
  CL prog t6 105 [.agg el.toArray,pT px] H=some (.bool (M6 x y),none):=by
 have a0:el.all oC=true:=F7 O;have z:=N5 X;have D:=N5 O;rw[X.len]at z;rw[O.len]at D;simp only[qSz,bF]at z D;obtain⟨S,E,-,g1,J⟩:=pushF H (bC el 1);have n1:=J.next;have W:=u7 hg;have gx:S.get px=cE u 1:=(J.get _ W).trans hg;have a1:H.next<=S.low:=by rw[E,l9];exact lR
 have U:=(im k).1 S lo u el x y oM (X.mono (fun j hj=>J.get j oM) lR) (O.mono (fun j hj=>J.get j oM) lR);rw[j7 OG rfl _ sM];exact J7 a0 E.symm g1 gx z D U trivial
structure gZ(lo K pm:Nat)(w0:Value)(acc0:List Q)(H0 H:N7)(acc:List Q):Prop where
 ex:∃w,H.get pm=cE [w] 1/\u6 H (pm+1) 3 (QR H0 lo K false) w acc/\((acc=acc0/\w=w0)\/H.low<=pm)/\(∀j,j<H0.next->j≠pm->¬l7 w0 j->H.get j=H0.get j)/\(∀b,l7 w b->l7 w0 b\/H0.next<=b)
 stay:i6 pm H0 H
def fk(fn:Nat)(f:Bool)(k:Nat):Prop:=∀(H:N7)(lo pm K:Nat)(w:Value)(acc:List Q)(cs:LV)(q:Q),k<=K->lo<=pm->H.get pm=cE [w] 1->u6 H (pm+1) 3 (QR H lo K false) w acc->QR H lo k f cs q->OkD f q->acc.length+nQ q<=100000->
 Ret (CL prog t6 fn [pT pm,.agg cs.toArray] H) H fun v H1=>v=undef/\gZ lo K pm w acc H H1 ((inQ f q).foldl bR acc)/\H1.low<=H.low
theorem cV(l:List Q):∀u:List Q,(l.foldl bR u).length<=u.length+l.length:=by
 induction l with
 |nil=>intro u;simp
 |cons x l z=>
  intro u;have:=z (bR u x);rw[List.foldl_cons,List.length_cons];have D:(bR u x).length<=u.length+1:=by unfold bR;split<;>simp
  omega
theorem ny(f:Bool)(l:List Q)(i:Nat)(x:Q)(h:l.drop i=x::l.drop (i+1)):inL f (l.drop i)=inQ f x++inL f (l.drop (i+1)):=by rw[h,inL]
theorem LN(k:Nat)(ih:fk 58 false k)(H0:N7)(lo O K:Nat)(hk:k<=K)(b8:lo<=O)(w0:Value)(z:List Q)(va:Option Addr)(ca:Nat)(l:List Q)(hv:QsR H0 lo k false (.slice va l.length ca) l)(hn:l.length<=1048576)(hw:∀x∈l,OkD false x) (p3:Value) (a9:List Q):
  ∀kk e H2,(∃(i:Nat)(u:List Q),kk=l.length-i/\i<=l.length/\e.get 0=pT O/\e.get 3=p3/\e.get 9= .slice va l.length ca/\e.get 10=iV l.length/\e.get 11=iV i/\gZ lo K O w0 z H0 H2 u/\u.length+nL (l.drop i)<=100000/\(inL false (l.drop i)).foldl bR u=a9)->
  w7 (LE prog t6 (.loop NL) e H2) (fun o e H2=>o= .exit 0/\e.get 0=pT O/\e.get 3=p3/\gZ lo K O w0 z H0 H2 a9):=by
 refine i8 _ _ ?_;rintro kk e H2 ⟨i,u,c5,hi,f0,f3,fL,fM,fJ,hM,D,fu⟩;rcases b:decide ((i:Int)<l.length)with _|_
 .have b3:=dF b;have:l.drop i=[]:=dN oM;rw[this,inL,List.foldl_nil]at fu;refine J3 fM fJ b ?_;exact i9 ⟨rfl,f0,f3,by rw[<-fu];exact hM⟩
 have b3:=dT b;obtain⟨⟨w,a4,hO,b9,a3,E⟩,hS⟩:=hM;have c8:=hS.next;have c9:=u7 a4;obtain⟨x,nb,o,cs,own,el,hx,hd,rfl,c7,hg,b7,J,hr⟩:=hv.row (i:=i) oM;have a6:=mG hx;have nt:(i:Int).toNat=i:=tN i;simp only[qSz,if_true,bF]at J hg b7;rw[ny _ _ _ _ hd,List.foldl_append]at fu;have b5:u.length+(nQ x+nL (l.drop (i+1)))<=100000:=by rw[hd,nL]at D;exact D
 have a1:el.all oC=true:=F7 hr;have e1:=hr.len;simp only[qSz,if_true,bF]at e1;have a7:=N5 hr;rw[e1]at a7;have gx:=(hS.get nb oM).trans hg;obtain⟨H3,a2,n3,g3,s3⟩:=pushP H2 (bC [iV 0,nS,nS] 1) (bC el 1);have l3:H3.low<=H2.low:=by rw[a2,A4,l9];omega
 have c0:splice [iV 0,nS,nS] 0 el=el:=x9 _ _ (by rw[e1];rfl);have S:∀j,j<lo->H3.get j=H0.get j:=fun j hj=>by rw[s3.get j oM,hS.get j oM]
 have c3:∀{cs:LV}{q:Q},QR H3 lo K false cs q->QR H0 lo K false cs q:=fun h=>h.mono (fun j hj=>(S j hj).symm) lR;obtain⟨v4,h4,H4,b4,b6,rfl,⟨⟨w4,b0,b1,a5,U,W⟩,b2⟩,c6⟩:=ih H3 lo O K w u el x hk b8 ((s3.get O oM).trans a4) ((hO.keep s3).imp fun cs q h=>h.mono S lR) (hr.mono S lR) (hw x a6) oM;have X:∀j,j<H0.next->j≠O->¬l7 w0 j->H4.get j=H0.get j:=fun j hj h1 h2=>by
  rw[U j oM h1 (fun q=>by rcases E j q with r|r;exact h2 r;omega),s3.get j oM,a3 j hj h1 h2]
 have a8:∀b,l7 w4 b->l7 w0 b\/H0.next<=b:=fun b hb=>by
  rcases W b hb with r|r
  .exact E b r
  .exact .inr oM
 have hl:=cV (inQ false x) u;have c4:=(bS _ false x lR (hw x a6)).1;refine J17 f0 fL fM fJ b gx nt J a1 e1 c0 a2.symm g3 a7 b4 b6 @wrap_small ?_;refine i4 (kk-1) oM ⟨i+1,_,oM,oM,f0,f3,fL,fM,rfl,⟨⟨w4,b0,b1.imp fun cs q h=>c3 h,?_,X,a8⟩,(hS.trans (s3.weaken oM)).trans b2⟩,oM,fu⟩;rcases a5 with⟨q1,q2⟩|q
 .rcases b9 with⟨q3,q4⟩|q
  .exact .inl ⟨by rw[q1,q3],by rw[q2,q4]⟩
  .exact .inr oM
 .exact .inr q
theorem LO(k:Nat)(ih:fk 82 true k)(H0:N7)(lo O K:Nat)(hk:k<=K)(b8:lo<=O)(w0:Value)(z:List Q)(va:Option Addr)(ca:Nat)(l:List Q)(hv:QsR H0 lo k true (.slice va l.length ca) l)(hn:l.length<=1048576)(hw:∀x∈l,OkD true x) (p3:Value) (a9:List Q):
  ∀kk e H2,(∃(i:Nat)(u:List Q),kk=l.length-i/\i<=l.length/\e.get 0=pT O/\e.get 3=p3/\e.get 20= .slice va l.length ca/\e.get 21=iV l.length/\e.get 22=iV i/\gZ lo K O w0 z H0 H2 u/\u.length+nL (l.drop i)<=100000/\(inL true (l.drop i)).foldl bR u=a9)->
  w7 (LE prog t6 (.loop NM) e H2) (fun o e H2=>o= .exit 2/\e.get 0=pT O/\e.get 3=p3/\gZ lo K O w0 z H0 H2 a9):=by
 refine i8 _ _ ?_;rintro kk e H2 ⟨i,u,c5,hi,f0,f3,fL,fM,fJ,hM,D,fu⟩;rcases b:decide ((i:Int)<l.length)with _|_
 .have b3:=dF b;have:l.drop i=[]:=dN oM;rw[this,inL,List.foldl_nil]at fu;refine J3 fM fJ b ?_;exact i9 ⟨rfl,f0,f3,by rw[<-fu];exact hM⟩
 have b3:=dT b;obtain⟨⟨w,a4,hO,b9,a3,E⟩,hS⟩:=hM;have c8:=hS.next;have c9:=u7 a4;obtain⟨x,nb,o,cs,own,el,hx,hd,rfl,c7,hg,b7,J,hr⟩:=hv.row (i:=i) oM;have a6:=mG hx;have nt:(i:Int).toNat=i:=tN i;simp only[qSz,if_true,bF]at J hg b7;rw[ny _ _ _ _ hd,List.foldl_append]at fu;have b5:u.length+(nQ x+nL (l.drop (i+1)))<=100000:=by rw[hd,nL]at D;exact D
 have a1:el.all oC=true:=F7 hr;have e1:=hr.len;simp only[qSz,if_true,bF]at e1;have a7:=N5 hr;rw[e1]at a7;have gx:=(hS.get nb oM).trans hg;obtain⟨H3,a2,n3,g3,s3⟩:=pushP H2 (bC [iV 0,.string eB,.string eB,.string eB,nS,nS] 1) (bC el 1);have l3:H3.low<=H2.low:=by rw[a2,A4,l9];omega
 have c0:splice [iV 0,.string eB,.string eB,.string eB,nS,nS] 0 el=el:=x9 _ _ (by rw[e1];rfl);have S:∀j,j<lo->H3.get j=H0.get j:=fun j hj=>by rw[s3.get j oM,hS.get j oM]
 have c3:∀{cs:LV}{q:Q},QR H3 lo K false cs q->QR H0 lo K false cs q:=fun h=>h.mono (fun j hj=>(S j hj).symm) lR;obtain⟨v4,h4,H4,b4,b6,rfl,⟨⟨w4,b0,b1,a5,U,W⟩,b2⟩,c6⟩:=ih H3 lo O K w u el x hk b8 ((s3.get O oM).trans a4) ((hO.keep s3).imp fun cs q h=>h.mono S lR) (hr.mono S lR) (hw x a6) oM;have X:∀j,j<H0.next->j≠O->¬l7 w0 j->H4.get j=H0.get j:=fun j hj h1 h2=>by
  rw[U j oM h1 (fun q=>by rcases E j q with r|r;exact h2 r;omega),s3.get j oM,a3 j hj h1 h2]
 have a8:∀b,l7 w4 b->l7 w0 b\/H0.next<=b:=fun b hb=>by
  rcases W b hb with r|r
  .exact E b r
  .exact .inr oM
 have hl:=cV (inQ true x) u;have c4:=(bS _ true x lR (hw x a6)).1;refine J17 f0 fL fM fJ b gx nt J a1 e1 c0 a2.symm g3 a7 b4 b6 @wrap_small ?_;refine i4 (kk-1) oM ⟨i+1,_,oM,oM,f0,f3,fL,fM,rfl,⟨⟨w4,b0,b1.imp fun cs q h=>c3 h,?_,X,a8⟩,(hS.trans (s3.weaken oM)).trans b2⟩,oM,fu⟩;rcases a5 with⟨q1,q2⟩|q
 .rcases b9 with⟨q3,q4⟩|q
  .exact .inl ⟨by rw[q1,q3],by rw[q2,q4]⟩
  .exact .inr oM
 .exact .inr q
theorem LP(k:Nat)(ih:fk 82 true k)(H0:N7)(lo O K:Nat)(hk:k<=K)(b8:lo<=O)(w0:Value)(z:List Q)(va:Option Addr)(ca:Nat)(l:List Q)(hv:QsR H0 lo k true (.slice va l.length ca) l)(hn:l.length<=1048576)(hw:∀x∈l,OkD true x) (p3:Value) (a9:List Q):
  ∀kk e H2,(∃(i:Nat)(u:List Q),kk=l.length-i/\i<=l.length/\e.get 0=pT O/\e.get 3=p3/\e.get 9= .slice va l.length ca/\e.get 10=iV l.length/\e.get 11=iV i/\gZ lo K O w0 z H0 H2 u/\u.length+nL (l.drop i)<=100000/\(inL true (l.drop i)).foldl bR u=a9)->
  w7 (LE prog t6 (.loop Og) e H2) (fun o e H2=>o= .exit 0/\e.get 0=pT O/\e.get 3=p3/\gZ lo K O w0 z H0 H2 a9):=by
 refine i8 _ _ ?_;rintro kk e H2 ⟨i,u,c5,hi,f0,f3,fL,fM,fJ,hM,D,fu⟩;rcases b:decide ((i:Int)<l.length)with _|_
 .have b3:=dF b;have:l.drop i=[]:=dN oM;rw[this,inL,List.foldl_nil]at fu;refine J3 fM fJ b ?_;exact i9 ⟨rfl,f0,f3,by rw[<-fu];exact hM⟩
 have b3:=dT b;obtain⟨⟨w,a4,hO,b9,a3,E⟩,hS⟩:=hM;have c8:=hS.next;have c9:=u7 a4;obtain⟨x,nb,o,cs,own,el,hx,hd,rfl,c7,hg,b7,J,hr⟩:=hv.row (i:=i) oM;have a6:=mG hx;have nt:(i:Int).toNat=i:=tN i;simp only[qSz,if_true,bF]at J hg b7;rw[ny _ _ _ _ hd,List.foldl_append]at fu;have b5:u.length+(nQ x+nL (l.drop (i+1)))<=100000:=by rw[hd,nL]at D;exact D
 have a1:el.all oC=true:=F7 hr;have e1:=hr.len;simp only[qSz,if_true,bF]at e1;have a7:=N5 hr;rw[e1]at a7;have gx:=(hS.get nb oM).trans hg;obtain⟨H3,a2,n3,g3,s3⟩:=pushP H2 (bC [iV 0,.string eB,.string eB,.string eB,nS,nS] 1) (bC el 1);have l3:H3.low<=H2.low:=by rw[a2,A4,l9];omega
 have c0:splice [iV 0,.string eB,.string eB,.string eB,nS,nS] 0 el=el:=x9 _ _ (by rw[e1];rfl);have S:∀j,j<lo->H3.get j=H0.get j:=fun j hj=>by rw[s3.get j oM,hS.get j oM]
 have c3:∀{cs:LV}{q:Q},QR H3 lo K false cs q->QR H0 lo K false cs q:=fun h=>h.mono (fun j hj=>(S j hj).symm) lR;obtain⟨v4,h4,H4,b4,b6,rfl,⟨⟨w4,b0,b1,a5,U,W⟩,b2⟩,c6⟩:=ih H3 lo O K w u el x hk b8 ((s3.get O oM).trans a4) ((hO.keep s3).imp fun cs q h=>h.mono S lR) (hr.mono S lR) (hw x a6) oM;have X:∀j,j<H0.next->j≠O->¬l7 w0 j->H4.get j=H0.get j:=fun j hj h1 h2=>by
  rw[U j oM h1 (fun q=>by rcases E j q with r|r;exact h2 r;omega),s3.get j oM,a3 j hj h1 h2]
 have a8:∀b,l7 w4 b->l7 w0 b\/H0.next<=b:=fun b hb=>by
  rcases W b hb with r|r
  .exact E b r
  .exact .inr oM
 have hl:=cV (inQ true x) u;have c4:=(bS _ true x lR (hw x a6)).1;refine J17 f0 fL fM fJ b gx nt J a1 e1 c0 a2.symm g3 a7 b4 b6 @wrap_small ?_;refine i4 (kk-1) oM ⟨i+1,_,oM,oM,f0,f3,fL,fM,rfl,⟨⟨w4,b0,b1.imp fun cs q h=>c3 h,?_,X,a8⟩,(hS.trans (s3.weaken oM)).trans b2⟩,oM,fu⟩;rcases a5 with⟨q1,q2⟩|q
 .rcases b9 with⟨q3,q4⟩|q
  .exact .inl ⟨by rw[q1,q3],by rw[q2,q4]⟩
  .exact .inr oM
 .exact .inr q
def inB(l:List Q):List Q:=l.flatMap fun x=>inQ false x++[x]
theorem vB(cs:LV)(x y z a b c:Value):splice (cs++[x,y,z]) cs.length [a,b,c]=cs++[a,b,c]:=by
 simp only[splice];rw[List.set_append_right _ _ oM,List.set_append_right _ _ oM,List.set_append_right _ _ oM];rw[show cs.length-cs.length=0 from oM,show cs.length+1-cs.length=1 from oM,show cs.length+1+1-cs.length=2 from oM];rfl
theorem LQ(k:Nat)(ih:fk 58 false k)(H0:N7)(lo D K:Nat)(hk:k<=K)(k6:lo<=D)(w0:Value)(a6:List Q)(va:Option Addr)(ca:Nat)(l:List Q)(hv:QsR H0 lo k false (.slice va l.length ca) l)(hn:l.length<=1048576)(hw:∀x∈l,OkD false x) (i0:List Q):
  ∀kk e H2,(∃(i:Nat)(W:List Q),kk=l.length-i/\i<=l.length/\e.get 0=pT D/\e.get 20= .slice va l.length ca/\e.get 21=iV l.length/\e.get 22=iV i/\gZ lo K D w0 a6 H0 H2 W/\W.length+nL (l.drop i)<=100000/\(inB (l.drop i)).foldl bR W=i0)->
  w7 (LE prog t6 (.loop Oh) e H2) (fun o e H2=>o= .exit 2/\gZ lo K D w0 a6 H0 H2 i0):=by
 refine i8 _ _ ?_;rintro kk e H2 ⟨i,W,m8,hi,f0,fL,fM,fJ,hM,c7,fu⟩;rcases b:decide ((i:Int)<l.length)with _|_
 .have k1:=dF b;have:l.drop i=[]:=dN oM;rw[this,inB,List.flatMap_nil,List.foldl_nil]at fu;refine J3 fM fJ b ?_;exact i9 ⟨rfl,by rw[<-fu];exact hM⟩
 have k1:=dT b;obtain⟨⟨w,g8,hO,k7,g5,c8⟩,hS⟩:=hM;have n1:=hS.next;have n2:=u7 g8;obtain⟨x,nb,o,cs,own,el,hx,hd,rfl,n0,hg,k4,b7,hr⟩:=hv.row (i:=i) oM;have h6:=mG hx;have nt:(i:Int).toNat=i:=tN i;simp only[qSz,if_true,bF]at b7 hg k4;rw[hd,inB,List.flatMap_cons,List.foldl_append,List.foldl_append,List.foldl_cons,List.foldl_nil]at fu;have k2:W.length+(nQ x+nL (l.drop (i+1)))<=100000:=by rw[hd,nL]at c7;exact c7
 have a1:el.all oC=true:=F7 hr;have e1:=hr.len;simp only[qSz,if_true,bF]at e1;have e2:=N5 hr;rw[e1]at e2;have gx:=(hS.get nb oM).trans hg;obtain⟨H3,d4,n3,g3,s3⟩:=pushP H2 (bC [iV 0,nS,nS] 1) (bC el 1);have l3:H3.low<=H2.low:=by rw[d4,A4,l9];omega
 have i1:splice [iV 0,nS,nS] 0 el=el:=x9 _ _ (by rw[e1];rfl);have b8:∀j,j<lo->H3.get j=H0.get j:=fun j U=>by rw[s3.get j oM,hS.get j oM]
 have m2:∀{cs:LV}{q:Q},QR H3 lo K false cs q->QR H0 lo K false cs q:=fun h=>h.mono (fun j U=>(b8 j U).symm) lR;obtain⟨v4,h4,z,g6,g7,rfl,⟨⟨w4,S,g0,c9,b5,b6⟩,d5⟩,m9⟩:=ih H3 lo D K w W el x hk k6 ((s3.get D oM).trans g8) ((hO.keep s3).imp fun cs q h=>h.mono b8 lR) (hr.mono b8 lR) (hw x h6) oM;have c5:∀j,j<H0.next->j≠D->¬l7 w0 j->z.get j=H0.get j:=fun j U h1 h2=>by
  rw[b5 j oM h1 (fun q=>by rcases c8 j q with r|r;exact h2 r;omega),s3.get j oM,g5 j U h1 h2]
 have d0:∀b,l7 w4 b->l7 w0 b\/H0.next<=b:=fun b hb=>by
  rcases b6 b hb with r|r
  .exact c8 b r
  .exact .inr oM
 have hl:=cV (inQ false x) W;have m7:=(bS _ false x lR (hw x h6)).1;obtain⟨u,d6⟩:=eY ((inQ false x).foldl bR W);rw[<-d6]at fu g0 c9 hl;have n4:=d5.next;have g4:z.get H2.next=cE el 1:=(b5 _ oM oM (fun q=>by have:=hO.lt q;omega)).trans g3;have e8:∀j,j<lo->z.get j=H0.get j:=fun j U=>by rw[d5.get j oM,b8 j U]
 have E:u6 z (D+1) 3 (QR H0 lo K false) w4 u:=g0.imp fun cs q h=>m2 h;have h0:(u=a6/\w4=w0)\/z.low<=D:=by
  rcases c9 with⟨q1,q2⟩|q
  .rcases k7 with⟨q3,q4⟩|q
   .exact .inl ⟨by rw[q1,q3],by rw[q2,q4]⟩
   .exact .inr oM
  .exact .inr q
 have c6:=(hS.trans (s3.weaken oM)).trans d5;obtain⟨a4,c4,e9⟩:=E.slice;have a2:=nj (α:=Q) z (· <z.next) (QR z lo K false) (.func (.func 105) #[] #[pT H2.next]) (fun y=>M6 x y) w4 u ((E.frz fun b hb=>(E.lt hb).2).mono (fun _ _=>rfl) (fun _ h=>h) (fun _ _ h=>h.mono e8 lR)) oM (fun i y i2 hy k8=>Qb K _ lo H2.next el i2 x y (show lo<=z.next from oM) g4 ((hr.upTo hk).mono (H':=⟨z.bs,z.next⟩) (fun j U=>e8 j U) lR) (k8.mono (H:=z) (H':=⟨z.bs,z.next⟩) (fun _ _=>rfl) lR));rcases b2:u.any (fun y=>M6 x y)with _|_
 .rw[b2]at a2;have b4:bR u x=u++[x]:=by rw[bR,b2];rfl
  rw[b4]at fu;have g1:=E;obtain⟨O,d3,g2⟩:=g1;obtain⟨K0,b1⟩:=eY (((z.push (bC [.bool false] 1)).put z.next (bC [.bool true] 1)).put z.next (bC [.bool false] 1));obtain⟨J0,a7⟩:=eY (((z.push (bC [.bool false] 1)).put z.next (bC [.bool false] 1)).put z.next (bC [.bool true] 1));have l4:K0.next=z.next+1:=by rw[b1,t5,t5,i5]
  have k9:J0.next=z.next+1:=by rw[a7,t5,t5,i5]
  have e6:i6 z.next z K0:=by rw[b1];exact((i6.push lR).trans (i6.put lR)).trans (i6.put lR)
  have e5:i6 z.next z J0:=by rw[a7];exact((i6.push lR).trans (i6.put lR)).trans (i6.put lR)
  have j0:K0.get z.next=cE [.bool false] 1:=by rw[b1];exact j5 (by rw[t5,i5];omega)
  have i3:J0.get z.next=cE [.bool true] 1:=by rw[a7];exact j5 (by rw[t5,i5];omega)
  have J:=u7 S;have f3:=(e6.get D J).trans S;have f1:=(e5.get D J).trans S;have f8:=(e6.get H2.next oM).trans g4;have m4:=(e5.get H2.next oM).trans g4;obtain⟨K1,b3⟩:=eY (K0.push (bC el 3));obtain⟨J1,a8⟩:=eY (J0.push (bC [iV 0,nS,nS] 3));have e4:K1.next=z.next+2:=by rw[b3,i5,l4]
  have e3:J1.next=z.next+2:=by rw[a8,i5,k9]
  have c3:i6 z.next z K1:=by rw[b3];exact e6.trans (i6.push oM)
  have c0:i6 z.next z J1:=by rw[a8];exact e5.trans (i6.push oM)
  have f4:=(c3.get D J).trans S;have m3:=(c0.get D J).trans S;have m5:=(c0.get H2.next oM).trans g4;have m0:A5 K1 3 (sL K0.next 1 1)=some el:=by
   have:K1.get K0.next=cE el 3:=by rw[b3];exact j9
   simp only[A5,this,e1];simp [List.take_of_length_le (by omega:el.length<=3)]
  have l8:A5 J1 3 (sL J0.next 1 1)=some [iV 0,nS,nS]:=by
   have:J1.get J0.next=cE [iV 0,nS,nS] 3:=by rw[a8];exact j9
   simp only[A5,this];simp
  have d2:=mz (P:=prog) (t:=22) (by exact lP.2.2.2.2.2.2) aq.1 aq.2.1 aq.2.2.1 oM oM (d3.mono (H':=K1) lR (fun j U=>c3.get j U)) m0 oM;have d1:=mz (P:=prog) (t:=22) (by exact lP.2.2.2.2.2.2) aq.1 aq.2.1 aq.2.2.1 oM oM (d3.mono (H':=J1) lR (fun j U=>c0.get j U)) l8 oM;obtain⟨K2,a5⟩:=eY ((aU w4 K1).push (bC (O++el) 3));obtain⟨J2,a9⟩:=eY ((aU w4 J1).push (bC (O++[iV 0,nS,nS]) 3));rw[<-a5,e4]at d2;rw[<-a9,e3]at d1;have a3:O.length=u.length*3:=g2.1;have h5:∀b,l7 w4 b->b<z.next/\b≠D:=fun b hb=>oN (E.lt hb);have d9:∀a n c,w4= .slice (some a) n c->l7 w4 a.block:=fun a n c h=>by
   rcases d3 with⟨q,_⟩|⟨b,c',q,_⟩
   .rw[q]at h;cases h
   .rw[q]at h ⊢;cases h;exact⟨_,_,rfl⟩
  have kW:∀(H:N7) j,j<H.next->¬l7 w4 j->(aU w4 H).get j=H.get j:=fun H j U hb=>by
   unfold aU;split
   .rename_i a n c;split
    .rfl
    .rw[j6 (fun q=>hb (by rw[<-q];exact d9 a n c rfl))]
   .rfl
  have l5:K2.next=z.next+3:=by rw[a5,i5,Y6,e4]
  have l1:J2.next=z.next+3:=by rw[a9,i5,Y6,e3]
  have h9:∀j,j<z.next->¬l7 w4 j->K2.get j=z.get j:=fun j U hb=>by rw[a5,i7 (by rw[Y6];omega),kW K1 j oM hb,c3.get j U]
  have h8:∀j,j<z.next->¬l7 w4 j->J2.get j=z.get j:=fun j U hb=>by rw[a9,i7 (by rw[Y6];omega),kW J1 j oM hb,c0.get j U]
  have h7:¬l7 w4 D:=fun q=>(h5 D q).2 rfl;have l6:¬l7 w4 H2.next:=fun q=>by
   rcases b6 _ q with r|r
   .have:=hO.lt r;omega
   .omega
  have f5:=(h9 D J h7).trans S;have f2:=(h8 D J h7).trans S;obtain⟨w5,d8⟩:=eY (Value.slice (sP (z.next+2)) (u.length+1) (u.length+1+1));obtain⟨K3,X⟩:=eY (K2.put D (bC [sL (z.next+2) (u.length+1) (u.length+1+1)] 1));obtain⟨J3,b0⟩:=eY (J2.put D (bC [sL (z.next+2) (u.length+1) (u.length+1+1)] 1));have n7:K3.next=z.next+3:=by rw[X,t5,l5]
  have n6:J3.next=z.next+3:=by rw[b0,t5,l1]
  have f7:J3.get H2.next=cE el 1:=by rw[b0,j6 oM,h8 _ oM l6];exact g4
  have f6:J3.get (z.next+2)=cE (O++[iV 0,nS,nS]) 3:=by
   rw[b0,j6 oM,a9,y7 (by rw[Y6,e3];omega)]
  have m1:splice (O++[iV 0,nS,nS]) (u.length*3) el=O++el:=by
   rw[<-a3]
   match el,e1 with
   |[a,b,c],_=>exact vB _ _ _ _ _ _ _
  obtain⟨J4,f9⟩:=eY (J3.put (z.next+2) (bC (O++el) 3));have k3:N4 z.next K3=N4 z.next J4:=by
   rw[X,a5,b3,b1,f9,b0,a9,a8,a7];exact AJ z w4 D _ _ _ _ _ _ _ _ J h5 d9
  have g9:=eq_true k3;have nl:(u.length:Int).toNat=u.length:=Int.toNat_natCast _;have lz:(O++[iV 0,nS,nS]).length=u.length*3+3:=by simp [a3]
  have m6:decide ((u.length:Int)<((u.length+1:Nat):Int))=true:=decide_eq_true oM;have n5:(0:Int)<=u.length:=oM;have e7:bsA prog (some 25) K0 1 [(0,.agg el.toArray)]=some (sL K0.next 1 1,K1):=by
   rw[b3];cases k with
   |zero=>exact hr.elim
   |succ k=>obtain⟨_,_,_,_,rfl,_⟩:=hr.path;simp only[C7,aq,C8];rfl
  rw[e9]at a2 d2 d1;refine J30 f0 fL fM fJ b gx nt b7 a1 e1 i1 d4.symm g3 e2 g6 g7 S (aI a2 b1.symm) (aI a7.symm j0) (aI i3 f3) (aI f1 f8) (aI a8.symm e7) (aI f4 e9) (aI d2 d1) (aI f5 f2) (aI X.symm b0.symm) (aI f7 f6) (aI nl lz) (aI m1 f9.symm) (aI g9 @wrap_small) ?_;obtain⟨Kf,b9⟩:=eY (N4 z.next K3);rw[<-b9];have gf:∀j,j≠z.next->j≠z.next+1->Kf.get j=K3.get j:=fun j h1 h2=>by rw[b9,N4,j6 (fun q=>h2 q.symm),j6 (fun q=>h1 q.symm)]
  have j1:∀j,j<z.next->j≠D->¬l7 w4 j->Kf.get j=z.get j:=fun j U h1 h2=>by rw[gf j oM oM,X,j6 (fun q=>h1 q.symm),h9 j U h2]
  have j3:Kf.get D=cE [w5] 1:=by rw[gf D oM oM,X,d8];exact j5 oM
  have j2:Kf.get (z.next+2)=cE (O++el) 3:=by
   rw[gf _ oM oM,X,j6 oM,a5,y7 (by rw[Y6,e4];omega)]
  have h3:i6 D K1 (aU w4 K1):=by
   unfold aU;split
   .rename_i a n c;split
    .exact i6.refl _ _
    .exact i6.put (oN (E.lt (d9 a n c rfl)))
   .exact i6.refl _ _
  have k0:i6 D z Kf:=by
   rw[b9,N4,X,a5];exact(((((c3.weaken oM).trans h3).trans (i6.push (by rw[Y6];omega))).trans (i6.put lR)).trans (i6.put oM)).trans (i6.put oM)
  have k5:Kf.low<=D:=by rw[b9,N4,A4,A4,X,A4];omega
  have j4:u6 Kf (D+1) 3 (QR H0 lo K false) w5 (u++[x]):=⟨O++el,.inr ⟨z.next+2,u.length+1+1,by rw[d8];simp,j2,oM,by simp [a3,e1];omega⟩,g2.append (D2.one e1 (hr.upTo hk))⟩
  refine i4 (kk-1) oM ⟨i+1,u++[x],oM,oM,f0,fL,fM,rfl,⟨⟨w5,j3,j4,.inr k5,fun j U h1 h2=>?_,fun b hb=>?_⟩,c6.trans k0⟩,by rw[List.length_append,List.length_singleton];omega,fu⟩
  .rw[j1 j oM h1 (fun q=>by rcases d0 j q with r|r;exact h2 r;omega),c5 j U h1 h2]
  .rw[d8,E6]at hb;exact .inr oM
 .rw[b2]at a2;have b4:bR u x=u:=by rw[bR,b2];rfl
  rw[b4]at fu;refine J19 f0 fL fM fJ b gx nt b7 a1 e1 i1 d4.symm g3 e2 g6 g7 S a2 @wrap_small ?_;exact i4 (kk-1) oM ⟨i+1,u,oM,oM,f0,fL,fM,rfl,⟨⟨w4,S,E,h0,c5,d0⟩,c6⟩,oM,fu⟩
theorem gZ.low{lo K E:Nat}{w0:Value}{u z:List Q}{H0 H:N7}(h:gZ lo K E w0 u H0 H z)(n:Nat)(hn:n<=H.low)(X:∀k,k<=E->k<=H0.low->k<=n):gZ lo K E w0 u H0 ⟨H.bs,n⟩ z:=by
 obtain⟨⟨w,O,S,D,U,W⟩,J⟩:=h;refine⟨⟨w,O,S.low n,?_,U,W⟩,J.next,X,J.get⟩;rcases D with D|D
 .exact .inl D
 .exact .inr (Nat.le_trans hn D)
theorem zD{lo K J:Nat}{w:Value}{E z:List Q}{H D H':N7}(u:i6 H.next H D)(X:H.next<=D.low)(a2:lo<=J)(a3:J<H.next)(hg:H.get J=cE [w] 1)(hO:u6 H (J+1) 3 (QR H lo K false) w E)(h:gZ lo K J w E D H' z):
  Ret (some (D6 undef H H')) H fun v D=>v=undef/\gZ lo K J w E H D z/\D.low<=H.low:=by
 have n1:=u.next;obtain⟨⟨w',h1,h2,O,h4,h5⟩,U⟩:=h;have a1:∀cs q,QR D lo K false cs q->QR H lo K false cs q:=fun _ _ h=>h.mono (fun j S=>(u.get j oM).symm) lR;refine E1 (fun _ hl=>⟨rfl,?_,lR⟩) ⟨rfl,?_,by show min H.low H'.low<=H.low;omega⟩
 .rcases O with⟨q1,q2⟩|q
  .rw[q1];exact⟨⟨w,hg,hO,.inl ⟨rfl,rfl⟩,fun _ _ _ _=>rfl,fun b W=> .inl W⟩,i6.refl _ _⟩
  .omega
 .have hn:=U.next;refine⟨⟨w',h1,(h2.imp a1).low _,?_,fun j S q1 q2=>?_,fun b W=>?_⟩,by show H.next<=H'.next;omega,fun k hk q=>?_,fun j S=>?_⟩
  .rcases O with O|O
   .exact .inl O
   .exact .inr (by show min H.low H'.low<=J;omega)
  .show H'.get j=H.get j;rw[h4 j oM q1 q2,u.get j S]
  .rcases h5 b W with r|r
   .exact .inl r
   .exact .inr oM
  .have:=U.lowAll k hk oM;show k<=min H.low H'.low;omega
  .show H'.get j=H.get j;rw[U.get j S,u.get j oM]
theorem HH{l:List Q}(h:l.length<=1):inL false l++l=inB l:=by
 match l,h with
 |[],_=>rfl
 |[x],_=>simp [inB,inL]
theorem PU(k:Nat)(a6:fk 58 false k)(a7:fk 82 true k):fk 58 false (k+1):=by
 intro H lo pm K w u cs q hk J E hO hr a5 b0;obtain⟨a1,a8,_⟩:=a5.parts;have b5:=fq q;have X:=u7 E;obtain⟨va,ca,wa,D,rfl,h1,h2,h3,h4⟩:=hr.path;obtain⟨O,S,-,hg,U⟩:=pushF H (bC [iV q.op,.slice va q.a.length ca,.slice wa q.b.length D] 1);have W:H.next<=O.low:=by rw[S,l9];exact lR
 have hn:=U.next;have b4:=u7 hg;have hm:∀j,j<lo->O.get j=H.get j:=fun j hj=>U.get j oM;have a9:gZ lo K pm w u O O u:=⟨⟨w,(U.get pm X).trans E,(hO.keep U).imp fun _ _ h=>h.mono hm lR,.inl ⟨rfl,rfl⟩,fun _ _ _ _=>rfl,fun _ h=> .inl h⟩,i6.refl _ _⟩
 rw[j7 KV rfl _ sM,nz];refine J2 S.symm hg ?_;refine j8 (F:=fun z=>Ret (u5 _ _ _ (u9 (inBlock 0 z) _)) _ _) (LN k a6 O lo pm K oM J w u va ca q.a (h1.mono hm lR) h3 a1 (pT H.next) ((inL false q.a).foldl bR u) q.a.length _ _ ⟨0,u,rfl,oM,rfl,rfl,rfl,rfl,rfl,a9,by rw[List.drop_zero];omega,rfl⟩) ?_;rintro o e' H2 ⟨ho,g0,g3,hM⟩;have a3:=hM.stay;have b3:=a3.next;have a4:H2.get H.next=cE [iV q.op,.slice va q.a.length ca,.slice wa q.b.length D] 1:=by
  obtain⟨w',_,_,_,hb,_⟩:=hM.ex;exact(hb H.next oM oM (fun q=>by have:=hO.lt q;omega)).trans hg
 have b2:=cV (inL false q.a) u;have b1:(inL false q.a).length<=nL q.a:=by
  have:=jx q.a (inQ false) fun x hx=>(bS _ false x lR (a1 x hx)).1;rw[eU];omega
 refine J3 ho g3 a4 ?_;refine j8 (F:=fun z=>Ret (u5 _ _ _ (inBlock 2 z)) _ _) (LO k a7 O lo pm K oM J w u wa D q.b (h2.mono hm lR) h4 a8 (pT H.next) ((inL false q.a++inL true q.b).foldl bR u) q.b.length _ _ ⟨0,_,rfl,oM,g0,g3,rfl,rfl,rfl,hM,by rw[List.drop_zero];omega,by rw[List.drop_zero,List.foldl_append]⟩) ?_;rintro o e' H3 ⟨ho,g0,g3,a2⟩;refine J1 ho ?_;exact zD U W J X E hO a2
theorem Lz(q:Q)(h:OkD true q):inQ true q=inL true q.a++inB q.b:=by
 obtain⟨_,_,_,_,D⟩:=h.parts;have u:=(Tt D).2.2;simp only[if_true]at u;rw[iB];by_cases z:q.op=11
 .rw[if_pos z,HH u.2]
 .rw[if_neg z];have:q.b=[]:=by
   have E:=u.2;have J:¬q.b.length=1:=fun r=>z (u.1.2 r);exact List.length_eq_zero_iff.1 oM
  rw[this];rfl
theorem PV(k:Nat)(a8:fk 82 true k)(a9:fk 58 false k):fk 82 true (k+1):=by
 intro H lo pm K w u cs q hk S O hO hr a2 b2;rw[Lz q a2];obtain⟨a4,b0,_⟩:=a2.parts;have b7:=fq q;have a3:=u7 O;obtain⟨va,ca,wa,J,rfl,h1,h2,h3,h4,_⟩:=hr.filter;obtain⟨E,D⟩:=eY ([iV q.op,.string q.sp,.string q.lc,.string q.vl,.slice va q.a.length ca,.slice wa q.b.length J]:LV);obtain⟨U,W,-,hg,X⟩:=pushF H (bC E 1);have a1:H.next<=U.low:=by rw[W,l9];exact lR
 have hn:=X.next;have b6:=u7 hg;have r4:E[4]?=some (.slice va q.a.length ca):=by rw[D];rfl
 have r5:E[5]?=some (.slice wa q.b.length J):=by rw[D];rfl
 have ar:E.all oC=true:=by rw[D];rfl
 have lr:E.length=6:=by rw[D];rfl
 rw[<-D];have hm:∀j,j<lo->U.get j=H.get j:=fun j hj=>X.get j oM;have b1:gZ lo K pm w u U U u:=⟨⟨w,(X.get pm a3).trans O,(hO.keep X).imp fun _ _ h=>h.mono hm lR,.inl ⟨rfl,rfl⟩,fun _ _ _ _=>rfl,fun _ h=> .inl h⟩,i6.refl _ _⟩
 rw[j7 La rfl _ sM];refine J4 ar W.symm hg r4 ?_;refine j8 (F:=fun z=>Ret (u5 _ _ _ (u9 (inBlock 0 z) _)) _ _) (LP k a8 U lo pm K oM S w u va ca q.a (h1.mono hm lR) h3 a4 (pT H.next) ((inL true q.a).foldl bR u) q.a.length _ _ ⟨0,u,rfl,oM,rfl,rfl,rfl,rfl,rfl,b1,by rw[List.drop_zero];omega,rfl⟩) ?_;rintro o e' H2 ⟨ho,g0,g3,hM⟩;have a6:=hM.stay;have b5:=a6.next;have a7:H2.get H.next=cE E 1:=by
  obtain⟨w',_,_,_,hb,_⟩:=hM.ex;exact(hb H.next oM oM (fun q=>by have:=hO.lt q;omega)).trans hg
 have b4:=cV (inL true q.a) u;have b3:(inL true q.a).length<=nL q.a:=by
  have:=jx q.a (inQ true) fun x hx=>(bS _ true x lR (a4 x hx)).1;rw[eU];omega
 refine J4 ho g3 a7 r5 ?_;refine j8 (F:=fun z=>Ret (u5 _ _ _ (inBlock 2 z)) _ _) (LQ k a9 U lo pm K oM S w u wa J q.b (h2.mono hm lR) h4 b0 ((inL true q.a++inB q.b).foldl bR u) q.b.length _ _ ⟨0,_,rfl,oM,g0,rfl,rfl,rfl,hM,by rw[List.drop_zero];omega,by rw[List.drop_zero,List.foldl_append]⟩) ?_;rintro o e' H3 ⟨ho,a5⟩;refine J1 ho ?_;exact zD X a1 S a3 O hO a5
theorem HU:∀k,fk 58 false k/\fk 82 true k:=by
 intro k;induction k with
 |zero=>exact⟨fun H lo E K w z cs q _ _ _ _ D=>D.elim,fun H lo E K w z cs q _ _ _ _ D=>D.elim⟩
 |succ k u=>exact⟨PU k u.1 u.2,PV k u.2 u.1⟩
theorem Hh(v:Value)(H H':N7)(h:H'.low<H.next):D6 v H H'=(v,some ⟨H'.bs,min H.low H'.low⟩):=by
 unfold D6;rw[if_neg];have:¬H.bs.length<=H'.low:=by have:H.next=H.bs.length:=rfl;omega
 simp [this]
theorem Ms(H:N7)(pm:Nat)(st:Int)(r:LV)(O:H.get pm=cE (.int .i64 st::r) 1)(W:r.length=4)(h0:0<=st)(h1:st<=10000000):
  CL prog t6 110 [pT pm] H=some (.int .i64 st,some (H.put pm (.cells (.int .i64 (st+1)::r) true 1))):=by
 have J:=u7 O;have E:(⟨H.bs,H.next⟩:N7).get pm=cE (.int .i64 st::r) 1:=O;obtain⟨z,u⟩:=eY (N7.put ⟨H.bs,H.next⟩ pm (.cells (.int .i64 (st+1)::r) true 1));have U:z.get pm=some (.cells (.int .i64 (st+1)::r) true 1):=by rw[u];exact j5 J
 have X:z.low=pm:=by rw[u,A4];show min H.next pm=pm;omega
 have a1:z.low<H.next:=oM;have D:(⟨z.bs,min H.low z.low⟩:N7)=H.put pm (.cells (.int .i64 (st+1)::r) true 1):=by rw[X,u];rfl
 have S:st+1-1=st:=oM;rw[j7 OK rfl _ sM];exact J8 E W @wrap_small u.symm U S @Hh D trivial
structure PgS(Rt:LV->Q->Prop)(pm:Nat)(H0:N7)(we0 wt0:Value)(H:N7)(p:PrD):Prop where
 ex:∃we wt,H.get pm=cE [iV p.st,iV p.sa,iV p.en,we,wt] 1/\u6 H (pm+1) 4 (w9 edE) we p.ed/\u6 H (pm+1) 6 Rt wt p.ts/\(∀b,l7 we b->¬l7 wt b)/\
  (∀j,j<H0.next->j≠pm->¬l7 we0 j->¬l7 wt0 j->H.get j=H0.get j)/\(∀b,l7 we b->l7 we0 b\/H0.next<=b)/\(∀b,l7 wt b->l7 wt0 b\/H0.next<=b)
 stay:i6 pm H0 H
section
variable{Rt:List Value->Q->Prop}{pm:Nat}{H0 H H':N7}{we0 wt0 we wt:Value}{p:PrD}
theorem PgS.lt(h:PgS Rt pm H0 we0 wt0 H p):pm<H.next:=by obtain⟨⟨_,_,u,_⟩,_⟩:=h;exact u7 u
theorem PgS.work(h:PgS Rt pm H0 we0 wt0 H p)(u:i6 H.next H H'):PgS Rt pm H0 we0 wt0 H' p:=by
 have hp:=h.lt;obtain⟨⟨we,wt,D,E,J,O,S,U,W⟩,z⟩:=h;have hn:=z.next;exact⟨⟨we,wt,(u.get pm hp).trans D,E.keep u,J.keep u,O,fun j X q1 q2 q3=>by rw[u.get j oM,S j X q1 q2 q3],U,W⟩,z.trans (u.weaken oM)⟩
theorem PgS.start(E:H.get pm=cE [iV p.st,iV p.sa,iV p.en,we,wt] 1)(u:u6 H (pm+1) 4 (w9 edE) we p.ed)(z:u6 H (pm+1) 6 Rt wt p.ts)(D:∀b,l7 we b->¬l7 wt b):PgS Rt pm H we wt H p:=
 ⟨⟨we,wt,E,u,z,D,fun _ _ _ _ _=>rfl,fun _ h=> .inl h,fun _ h=> .inl h⟩,i6.refl _ _⟩
theorem PgS.trans{E:N7}{p1:PrD}(h:PgS Rt pm H0 we0 wt0 H p)(k:∀we wt,(H.get pm=cE [iV p.st,iV p.sa,iV p.en,we,wt] 1)->PgS Rt pm H we wt E p1):PgS Rt pm H0 we0 wt0 E p1:=by
 obtain⟨⟨we,wt,h1,h2,h3,h4,h5,J,O⟩,S⟩:=h;obtain⟨⟨z,D,k1,k2,k3,k4,k5,k6,k7⟩,ks⟩:=k we wt h1;have hn:=S.next;refine⟨⟨z,D,k1,k2,k3,k4,fun j hj U W X=>?_,fun b u=>?_,fun b u=>?_⟩,S.trans ks⟩
 .rw[k5 j oM U (fun q=>?_) (fun q=>?_),h5 j hj U W X]
  .rcases J j q with r|r
   .exact W r
   .omega
  .rcases O j q with r|r
   .exact X r
   .omega
 .rcases k6 b u with r|r
  .exact J b r
  .exact .inr oM
 .rcases k7 b u with r|r
  .exact O b r
  .exact .inr oM
end
theorem eg{Rt:LV->Q->Prop}{pm:Nat}{H0 H:N7}{we0 wt0:Value}{p:PrD}(h:PgS Rt pm H0 we0 wt0 H p)(X:0<=p.st)(h1:p.st<=10000000):
  ∃H',CL prog t6 110 [pT pm] H=some (.int .i64 p.st,some H')/\PgS Rt pm H0 we0 wt0 H' {p with st:=p.st+1}/\H'.low<=pm/\H'.low<=H.low/\H'.next=H.next:=by
 have hp:=h.lt;obtain⟨⟨we,wt,J,z,D,O,S,U,W⟩,hs⟩:=h;refine⟨_,Ms H pm p.st _ J rfl X h1,⟨⟨we,wt,j5 hp,z.same fun b u=>j6 (oN (z.lt u)),D.same fun b u=>j6 (oN (D.lt u)),O,fun j hj E q2 q3=>?_,U,W⟩,hs.trans (i6.put lR)⟩,?_,?_,?_⟩
 .rw[j6 (fun q=>E q.symm),S j hj E q2 q3]
 .rw[A4];omega
 .rw[A4];omega
 .rw[t5]
theorem Ft{Rt:LV->Q->Prop}{pm:Nat}{H0 H:N7}{we0 wt0:Value}{p:PrD}(h:PgS Rt pm H0 we0 wt0 H p)(lv:Value)(l:List (Int×Int×Int×Int))(hl:SlI H H.next 4 (w9 edE) lv l)(hn:p.ed.length+l.length<=1000000)(a6:l≠ []):
  Ret (CL prog t6 134 [pT pm,lv] H) H fun v H'=>v=undef/\PgS Rt pm H0 we0 wt0 H' {p with ed:=p.ed++l}/\H'.low<=pm/\H'.low<=H.low:=by
 have hp:=h.lt;obtain⟨⟨we,wt,g1,g2,W,g4,g5,g6,g7⟩,hs⟩:=h;have a7:=hs.next;obtain⟨O,D⟩:=eY (⟨H.bs,H.next⟩:N7);have sb:i6 H.next H O:=by rw[D];exact i6.start H
 have nb:O.next=H.next:=by rw[D];rfl
 have S:∀j,O.get j=H.get j:=fun j=>by rw[D];rfl
 obtain⟨z,h1,U,ha,a4,hO,E⟩:=(g2.keep sb).appendF (P:=prog) (t:=30) (n:=H.next) (l2:=l) (x:=lv) (by exact IZ.2.2.2.2.2.2) pM.1 pM.2.1 pM.2.2.1 oM oM (hl.mono (fun j _=>S j) lR iF) oM oM;have n1:=E.next;obtain⟨a9,b0,rfl⟩:=hl.slice;have a5:¬l7 we pm:=fun q=>oN (g2.lt q);have X:U.get pm=cE [iV p.st,iV p.sa,iV p.en,we,wt] 1:=by rw[E.but pm oM a5,S];exact g1
 obtain⟨a1,c1,e1⟩:=hO.slice;have cw:z.cells.toList=[z]:=by rw[e1];rfl
 have ow:Value.oneCell' z=true:=by rw[e1];rfl
 obtain⟨H2,u⟩:=eY (U.put pm (bC [iV p.st,iV p.sa,iV p.en,z,wt] 1));have l2:H2.low<=pm:=by rw[u,A4];omega
 have a8:H2.low<H.next:=oM;have a2:O.get pm=cE [iV p.st,iV p.sa,iV p.en,we,wt] 1:=by rw[S];exact g1
 rw[j7 OY rfl _ sM];rw[show(⟨H.bs,H.next⟩:N7)=O from D.symm];refine J7 a2 ha a4 X cw ow u.symm ?_;refine E1 (fun _ hl=>oM) ⟨rfl,?_,?_,?_⟩
 rotate_left
 .show min H.low H2.low<=pm;omega
 .show min H.low H2.low<=H.low;omega
 have kp:∀j,j≠pm->H2.get j=U.get j:=fun j hj=>by rw[u,j6 (fun q=>hj q.symm)]
 have a3:H2.get pm=cE [iV p.st,iV p.sa,iV p.en,z,wt] 1:=by rw[u];exact j5 oM
 have sg:i6 pm H H2:=by rw[u];exact((sb.weaken oM).trans (E.stay.weaken oM)).trans (i6.put lR)
 refine⟨⟨z,wt,a3,(hO.same (H':=⟨H2.bs,min H.low H2.low⟩) fun b J=>?_),(W.same (H':=⟨H2.bs,min H.low H2.low⟩) fun b J=>?_),fun b J=>?_,fun j hj q1 q2 q3=>?_,fun b J=>?_,g7⟩,hs.trans ⟨sg.next,fun k hk q=>?_,sg.get⟩⟩
 .exact kp b (oN (hO.lt J))
 .have:=W.lt J;show H2.get b=_;rw[kp b oM,E.but b oM (fun q=>g4 b q J),S]
 .rcases E.new b J with r|r
  .exact g4 b r
  .exact fun q=>oN (W.lt q)
 .show H2.get j=_;rw[kp j q1,E.but j oM (fun q=>?_),S,g5 j hj q1 q2 q3];rcases g6 j q with r|r
  .exact q2 r
  .omega
 .rcases E.new b J with r|r
  .exact g6 b r
  .exact .inr oM
 .have:k<=H2.low:=by
   rw[u,A4];have:=E.stay.lowAll k oM (by rw[D];show k<=H.next;omega);omega
  show k<=min H.low H2.low;omega
def PgC(Rt:LV->Q->Prop)(pm:Nat)(x:Option (Value×Option N7))(H:N7)(p p':PrD)(v:Value):Prop:=∀(H0:N7)(we0 wt0:Value),PgS Rt pm H0 we0 wt0 H p->Ret x H fun w H'=>w=v/\PgS Rt pm H0 we0 wt0 H' p'/\H'.low<=pm/\H'.low<=H.low
theorem jE{Rt:LV->Q->Prop}{pm:Nat}{x:Option (Value×Option N7)}{H:N7}{p J:PrD}{v:Value}(h:∀we wt,pm<H.next->PgS Rt pm ⟨H.bs,H.next⟩ we wt ⟨H.bs,H.next⟩ p->∃H',x=some (D6 v H H')/\PgS Rt pm ⟨H.bs,H.next⟩ we wt H' J/\H'.low<=pm):PgC Rt pm x H p J v:=by
 intro H0 we0 wt0 D;have hp:=D.lt;obtain⟨⟨we,wt,U,W,X,g4,g5,g6,g7⟩,hs⟩:=id D;obtain⟨H',hx,⟨⟨O,S,k1,k2,k3,k4,k5,k6,k7⟩,u⟩,hl⟩:=h we wt hp ⟨⟨we,wt,U,W.low _,X.low _,g4,fun _ _ _ _ _=>rfl,fun _ h=> .inl h,fun _ h=> .inl h⟩,i6.refl _ _⟩;have nb:(⟨H.bs,H.next⟩:N7).next=H.next:=rfl;have lb:(⟨H.bs,H.next⟩:N7).low=H.next:=rfl;have hn:=u.next;have z:PgS Rt pm H we wt ⟨H'.bs,min H.low H'.low⟩ J:=⟨⟨O,S,k1,k2.low _,k3.low _,k4,k5,k6,k7⟩,u.next,fun k q1 q2=>(by have:=u.lowAll k q1 oM;show k<=min H.low H'.low;omega),u.get⟩
 rw[hx];refine E1 (fun _ q=>oM) ⟨rfl,D.trans fun a1 a2 E=>?_,?_,?_⟩
 .have:=U.symm.trans E;simp only[Option.some.injEq,Blk.cells.injEq,List.cons.injEq,and_true,true_and]at this;obtain⟨rfl,rfl⟩:=this;exact z
 .show min H.low H'.low<=pm;omega
 .show min H.low H'.low<=H.low;omega
theorem jF(Rt:LV->Q->Prop)(pm:Nat)(H:N7)(p:PrD)(f t:Int)(X:p.ed.length+1<=1000000):
  PgC Rt pm (CL prog t6 111 [pT pm,iV f,iV t] H) H p (p.edge f t 0 0) undef:=by
 refine jE fun we wt hp h=>?_;obtain⟨E,u,n1,-⟩:=pushF H (.cells (edE (f,t,0,0)) true 4);have S:i6 H.next ⟨H.bs,H.next⟩ E:=by rw[u];exact i6.push lR
 have J:u6 E H.next 4 (w9 edE) (sL H.next 1 1) [(f,t,0,0)]:=by rw[u];exact u6.fresh rfl lR (D2.one rfl rfl)
 obtain⟨v,h2,H2,U,z,rfl,O,D,W⟩:=Ft (h.work S) _ [(f,t,0,0)] J.sl (by simpa using X) sM;rw[j7 OL rfl _ sM];refine J3 u.symm U z ?_;exact⟨H2,rfl,O,D⟩
theorem mg(Rt:LV->Q->Prop)(pm:Nat)(H:N7)(p:PrD)(k x:Int)(hn:p.ed.length+1<=1000000)(X:0<=p.st)(h1:p.st<=1000000):
  PgC Rt pm (CL prog t6 107 [pT pm,iV k,iV x] H) H p (({p with st:=p.st+2}:PrD).edge p.st (p.st+1) k x) (.tuple #[iV p.st,iV (p.st+1)]):=by
 refine jE fun we wt hp h=>?_;obtain⟨Ha,E,pa,a2,a3,na⟩:=eg h X oM;obtain⟨z,D,pb,a4,a5,nb⟩:=eg pa (by show 0<=p.st+1;omega) (by show p.st+1<=_;omega);have n0:(⟨H.bs,H.next⟩:N7).next=H.next:=rfl;obtain⟨S,u⟩:=eY (N7.push z (.cells (edE (p.st,p.st+1,k,x)) true 4));have hS:i6 z.next z S:=by rw[u];exact i6.push lR
 have hO:u6 S z.next 4 (w9 edE) (sL z.next 1 1) [(p.st,p.st+1,k,x)]:=by rw[u];exact u6.fresh rfl lR (D2.one rfl rfl)
 obtain⟨v,h2,H2,hc,J,rfl,U,O,a1⟩:=Ft (pb.work hS) _ [(p.st,p.st+1,k,x)] hO.sl (by simpa using hn) sM;have W:p.st+1+1=p.st+2:=oM;simp only[W]at U D;have ll:H2.low<H.next:=oM;rw[j7 OI rfl _ sM];refine J5 E D u.symm hc J ?_;exact⟨H2,rfl,U,O⟩
theorem PgS.trans'{E:LV->Q->Prop}{D:Nat}{H0 H O:N7}{u z S U:Value}{p p1:PrD}(h:PgS E D H0 u z H p)(k:PgS E D H S U O p1)(W:H.get D=cE [iV p.st,iV p.sa,iV p.en,S,U] 1):PgS E D H0 u z O p1:=
 h.trans fun X a1 J=>by
  have:=W.symm.trans J;simp only[Option.some.injEq,Blk.cells.injEq,List.cons.injEq,and_true,true_and]at this;obtain⟨rfl,rfl⟩:=this;exact k
theorem SlI.tail{P:Program}{H:N7}{lo sz:Nat}{α:Type}{R:LV->α->Prop}{S:Option Addr}{ca:Nat}{l:List α}{t e:TypeId}(h:SlI H lo sz R (.slice S l.length ca) l)(D:0<l.length)(ht:P.underlying t=some (.slice e))(hs:D8 P e=some sz)(h0:0<sz):
  ∃E u,(∀H',(∀j,j<lo->H'.get j=H.get j)->aH P H' t (.slice S l.length ca) (some (.int .i64 1)) none none=some (.slice E (l.drop 1).length u))/\SlI H lo sz R (.slice E (l.drop 1).length u) (l.drop 1):=by
 rcases h with⟨_,h⟩|⟨b,o,c,hv,h⟩
 .rw[h]at D;simp at D
 .rcases h with h|⟨cs,own,W,X,h3,h4⟩
  .rw[h]at D;simp at D
  .obtain⟨rfl,rfl⟩:S=some ⟨b,o,none⟩/\ca=c:=by simpa using hv
   have z:(l.drop 1).length=l.length-1:=sM;have a1:(l.length-1)*sz+sz=l.length*sz:=by
    rw[<-Nat.succ_mul];congr 1;omega
   refine⟨some ⟨b,o+sz,none⟩,if ca=l.length then l.length-1 else l.length-1+1,fun H' J=>?_,.inr ⟨b,o+sz,_,rfl,.inr ⟨cs,own,W,X,by rw[z];omega,fun i a hi=>?_⟩⟩⟩
   .have hg:H'.get b=some (.cells cs own sz):=by rw[J b W];exact X
    have O:CA H' b=some sz:=by simp only[CA,hg]
    simp only[aH,ht,hs,bnd,O,z];have U:(if(0:Int)<=1 then some (1:Int).toNat else none)=some 1:=rfl;have p1:¬sz=0:=oM;have p2:1<=l.length/\l.length<=l.length:=⟨D,lR⟩
    have p3:¬l.length=0:=oM;by_cases hc:ca=l.length
    .simp only[U,if_neg p1,if_pos p2,if_neg p3,ne_eq,not_true_eq_false,if_false,if_pos hc,if_true,Nat.one_mul]
    .simp only[U,if_neg p1,if_pos p2,if_neg p3,ne_eq,not_true_eq_false,if_false,if_neg hc,if_true,Nat.one_mul]
   .rw[List.getElem?_drop]at hi;have:=h4 (1+i) a hi;rw[show o+sz+i*sz=o+(1+i)*sz by rw[Nat.add_mul];omega];exact this
def vX(Hs:N7)(lo K k:Nat):Prop:=∀(H:N7)(pm:Nat)(cs:LV)(q:Q)(p:PrD),lo<=pm->(∀j,j<lo->H.get j=Hs.get j)->QR Hs lo k false cs q->OkD false q->jT (nQ q) p->
 PgC (QR Hs lo K true) pm (CL prog t6 83 [pT pm,.agg cs.toArray] H) H p (C6 q p).1 (.tuple #[iV (C6 q p).2.1,iV (C6 q p).2.2])
theorem xK(E:N7)(lo K k:Nat)(ih:vX E lo K k)(S:N7)(D:Nat)(b6:lo<=D)(b1:∀j,j<lo->S.get j=E.get j) (we wt:Value) (va:Option Addr) (ca:Nat) (l:List Q) (hv:QsR E lo k false (.slice va l.length ca) l) (hn:l.length<=1048576) (hw:∀x∈l,OkD false x) (s:Int) (r:PrD×Int×Int):
  ∀kk e H2,(∃(i:Nat)(y:PrD×Int×Int),kk=l.length-i/\i<=l.length/\e.get 0=pT D/\e.get 6=iV s/\e.get 7=iV y.2.2/\e.get 21= .slice va l.length ca/\e.get 22=iV l.length/\e.get 23=iV i/\PgS (QR E lo K true) D S we wt H2 y.1/\H2.low<=D/\jT (nL (l.drop i)) y.1/\y.2.1=s/\bO (l.drop i) y=r)->
  w7 (LE prog t6 (.loop Kq) e H2) (fun o e H2=>o= .exit 0/\e.get 6=iV r.2.1/\e.get 7=iV r.2.2/\PgS (QR E lo K true) D S we wt H2 r.1/\H2.low<=D):=by
 refine i8 _ _ ?_;rintro kk e H2 ⟨i,y,c3,hi,f0,f6,f7,W,J,X,hP,hl,a4,hs,O⟩;rcases b:decide ((i:Int)<l.length)with _|_
 .have a9:=dF b;have:l.drop i=[]:=dN oM;rw[this,bO]at O;refine J3 J X b ?_;exact i9 ⟨rfl,by rw[<-O,hs];exact f6,by rw[<-O];exact f7,by rw[<-O];exact hP,hl⟩
 have a9:=dT b;have hS:=hP.stay;have c5:=hS.next;have c6:=hP.lt;obtain⟨x,nb,o,cs,own,el,hx,hd,rfl,b7,hg,b5,u,hr⟩:=hv.row (i:=i) oM;have b9:=mG hx;have nt:(i:Int).toNat=i:=tN i;simp only[qSz,bF]at u hg b5;have U:∀j,j<lo->H2.get j=E.get j:=fun j hj=>by rw[hS.get j oM,b1 j hj]
 have a1:el.all oC=true:=F7 hr;have e1:=hr.len;simp only[qSz,bF]at e1;have a6:=N5 hr;rw[e1]at a6;have gx:=(U nb b7).trans hg;obtain⟨H3,a7,n3,g3,s3⟩:=pushP H2 (bC [iV 0,nS,nS] 1) (bC el 1);have c0:splice [iV 0,nS,nS] 0 el=el:=x9 _ _ (by rw[e1];rfl);have b8:nL (l.drop i)=nQ x+nL (l.drop (i+1)):=by rw[hd,nL]
 obtain⟨t0,t1,t2,t3⟩:=a4;rw[b8]at t1 t2 t3;have a5:=F8 x y.1;obtain⟨v4,h4,H4,a3,b3,rfl,a2,c4,_⟩:=ih H3 D el x y.1 b6 (fun j hj=>by rw[s3.get j oM,U j hj]) hr (hw x b9) ⟨t0,oM,oM,oM⟩ S we wt (hP.work s3);rw[hd,bO]at O;obtain⟨z,hz⟩:=eY (C6 x y.1);rw[<-hz]at a3 a2 O a5;obtain⟨u0,u1,u2,u3⟩:=a5;obtain⟨v5,h5,H5,b0,b2,rfl,a8,b4,_⟩:=jF (QR E lo K true) D H4 z.1 y.2.2 z.2.1 oM S we wt a2;refine J20 f0 f7 W J X b gx nt u a1 e1 c0 a7.symm g3 a6 a3 b3 b0 b2 @wrap_small ?_;exact i4 (kk-1) oM ⟨i+1,(z.1.edge y.2.2 z.2.1 0 0,y.2.1,z.2.2),oM,oM,f0,f6,rfl,W,J,rfl,a8,b4,⟨by simp only[X9];omega,by simp only[X9];omega,by rw[P5];omega,by simp only[dx];omega⟩,hs,O⟩
theorem Qc(D:N7)(lo K k:Nat)(ih:vX D lo K k)(H:N7)(S:Nat)(a1:lo<=S)(a8:∀j,j<lo->H.get j=D.get j) (v:Value) (l:List Q) (hv:QsR D lo k false v l) (hn:l.length<=1048576) (a3:0<l.length) (hw:∀x∈l,OkD false x) (p:PrD) (W:jT (nL l) p):
  PgC (QR D lo K true) S (CL prog t6 108 [pT S,v] H) H p (eu l p).1 (.tuple #[iV (eu l p).2.1,iV (eu l p).2.2]):=by
 refine jE fun we wt hp h=>?_;obtain⟨va,ca,rfl⟩:=hv.slice;obtain⟨b7,a4,b5,b6⟩:=SlI.tail (P:=prog) (t:=22) (e:=25) hv a3 (by exact lP.2.2.2.2.2.2) aq.1 (by decide);obtain⟨x,nb,o,cs,own,el,hx,hd,rfl,b3,hg,b2,E,hr⟩:=hv.row (i:=0) a3;simp only[qSz,bF,Nat.zero_mul,Nat.add_zero]at E hg b2;have a2:l=x::l.drop 1:=by simpa using hd
 have b9:nL l=nQ x+nL (l.drop 1):=by conv=>lhs;rw[a2,nL]
 have J:eu l p=bO (l.drop 1) (C6 x p):=by conv=>lhs;rw[a2,eu]
 obtain⟨t0,t1,t2,t3⟩:=W;have X:=F8 x p;have u:∀j,j<lo->(⟨H.bs,H.next⟩:N7).get j=D.get j:=a8;have gx:(⟨H.bs,H.next⟩:N7).get nb=_:=(u nb b3).trans hg;obtain⟨v4,h4,H4,U,a9,rfl,O,b0,_⟩:=ih ⟨H.bs,H.next⟩ S el x p a1 u hr (hw x (mG hx)) ⟨t0,oM,oM,oM⟩ _ we wt h;have a7:=O.stay;have a5:∀j,j<lo->H4.get j=D.get j:=fun j hj=>by rw[a7.get j oM,u j hj]
 have b4:=b5 H4 a5;have b8:(0:Int)<l.length:=oM;obtain⟨y,hy⟩:=eY (C6 x p);rw[<-hy]at U O X J;obtain⟨u0,u1,u2,u3⟩:=X;rw[j7 Jk rfl _ sM];refine J5 gx E U a9 b4 ?_;refine j8 (F:=fun z=>∃H',u5 _ _ _ (u9 (inBlock 0 z) _)=some (D6 _ H H')/\PgS (QR D lo K true) S _ we wt H' (eu l p).1/\H'.low<=S) (xK D lo K k ih ⟨H.bs,H.next⟩ S a1 u we wt b7 a4 (l.drop 1) b6 (by simp;omega) (fun z hz=>hw z (List.mem_of_mem_drop hz)) y.2.1 (bO (l.drop 1) y) (l.drop 1).length _ _ ⟨0,y,rfl,oM,rfl,rfl,rfl,rfl,rfl,rfl,O,b0,⟨oM,by rw[List.drop_zero];omega,by rw[List.drop_zero];omega,by rw[List.drop_zero];omega⟩,rfl,rfl⟩) ?_;rintro o' e' H5 ⟨ho,g6,g7,a6,b1⟩;rw[J];have ll:H5.low<H.next:=oM;refine J3 ho g6 g7 ?_;exact⟨H5,rfl,a6,b1⟩
structure PgW(Rt:LV->Q->Prop)(pm:Nat)(H:N7)(we wt:Value)(p:PrD):Prop where
 row:H.get pm=cE [iV p.st,iV p.sa,iV p.en,we,wt] 1
 e:u6 H (pm+1) 4 (w9 edE) we p.ed
 t:u6 H (pm+1) 6 Rt wt p.ts
 d:∀b,l7 we b->¬l7 wt b
theorem PgW.start{u:LV->Q->Prop}{z:Nat}{H:N7}{D E:Value}{p:PrD}(h:PgW u z H D E p):PgS u z H D E H p:=PgS.start h.row h.e h.t h.d
theorem PgS.w{O:LV->Q->Prop}{J:Nat}{H0 H:N7}{u z:Value}{p:PrD}(h:PgS O J H0 u z H p):∃D E,PgW O J H D E p/\(∀j,j<H0.next->j≠J->¬l7 u j->¬l7 z j->H.get j=H0.get j)/\(∀b,l7 D b->l7 u b\/H0.next<=b)/\(∀b,l7 E b->l7 z b\/H0.next<=b):=by
 obtain⟨⟨D,E,S,U,W,X,h5,h6,h7⟩,_⟩:=h;exact⟨D,E,⟨S,U,W,X⟩,h5,h6,h7⟩
theorem xM(O:N7)(lo K k:Nat)(ih:vX O lo K k)(U:N7)(J:Nat)(e3:lo<=J)(c3:J<U.next)(d6:∀j,j<lo->U.get j=O.get j) (we wt:Value) (va:Option Addr) (ca:Nat) (l:List Q) (hv:QsR O lo k false (.slice va l.length ca) l) (hn:l.length<=1048576) (hw:∀x∈l,OkD false x) (s:Int) (r:PrD×List Int) (g1:r.2.length<=1000000):
  ∀kk e H2,(∃(i:Nat)(p:PrD)(es:List Int)(w D E:Value),kk=l.length-i/\i<=l.length/\e.get 0=pT J/\e.get 6=iV s/\e.get 7=w/\e.get 17= .slice va l.length ca/\e.get 18=iV l.length/\e.get 19=iV i/\PgS (QR O lo K true) J U we wt H2 p/\PgW (QR O lo K true) J H2 D E p/\u6 H2 U.next 1 (w9 inE) w es/\(∀b,l7 w b->¬l7 D b/\¬l7 E b)/\jT (nL (l.drop i)) p/\I9 (l.drop i) s p es=r)->
  w7 (LE prog t6 (.loop Kr) e H2) (fun o e H2=>o= .exit 0/\e.get 0=pT J/\e.get 6=iV s/\∃(w D E:Value),e.get 7=w/\PgS (QR O lo K true) J U we wt H2 r.1/\PgW (QR O lo K true) J H2 D E r.1/\u6 H2 U.next 1 (w9 inE) w r.2/\(∀b,l7 w b->¬l7 D b/\¬l7 E b)):=by
 refine i8 _ _ ?_;rintro kk e H2 ⟨i,p,es,w,D,E,f3,hi,f0,f6,f7,b3,a9,b4,hP,hW,hO,S,b8,fu⟩;rcases b:decide ((i:Int)<l.length)with _|_
 .have d2:=dF b;have:l.drop i=[]:=dN oM;rw[this,I9]at fu;subst fu;refine J3 a9 b4 b ?_;exact i9 ⟨rfl,f0,f6,w,D,E,f7,hP,hW,hO,S⟩
 have d2:=dT b;have hS:=hP.stay;have f8:=hS.next;have g0:=hP.lt;have f9:J<U.next:=c3;obtain⟨x,nb,o,cs,own,el,hx,hd,rfl,e4,hg,e2,a8,hr⟩:=hv.row (i:=i) oM;have e6:=mG hx;have nt:(i:Int).toNat=i:=tN i;simp only[qSz,bF]at a8 hg e2;have b2:∀j,j<lo->H2.get j=O.get j:=fun j hj=>by rw[hS.get j oM,d6 j hj]
 have a1:el.all oC=true:=F7 hr;have e1:=hr.len;simp only[qSz,bF]at e1;have c5:=N5 hr;rw[e1]at c5;have gx:=(b2 nb e4).trans hg;obtain⟨H3,c8,n3,g3,s3⟩:=pushP H2 (bC [iV 0,nS,nS] 1) (bC el 1);have f2:splice [iV 0,nS,nS] 0 el=el:=x9 _ _ (by rw[e1];rfl);have e5:nL (l.drop i)=nQ x+nL (l.drop (i+1)):=by rw[hd,nL]
 obtain⟨t0,t1,t2,t3⟩:=b8;rw[e5]at t1 t2 t3;have c0:=F8 x p;have W3:PgW (QR O lo K true) J H3 D E p:=⟨(s3.get J oM).trans hW.row,hW.e.keep s3,hW.t.keep s3,hW.d⟩
 obtain⟨v4,h4,H4,b7,d9,rfl,a2,f4,_⟩:=ih H3 J el x p e3 (fun j hj=>by rw[s3.get j oM,b2 j hj]) hr (hw x e6) ⟨t0,oM,oM,oM⟩ H3 D E W3.start;have a7:=(hP.work s3).trans' a2 W3.row;rw[hd,I9]at fu;obtain⟨z,hz⟩:=eY (C6 x p);rw[<-hz]at b7 a2 a7 fu c0;obtain⟨u0,u1,u2,u3⟩:=c0;obtain⟨c6,c7,W4,b0,e7,e9⟩:=a2.w;have n4:=a2.stay.next;obtain⟨v5,h5,H5,d3,d8,rfl,a3,f5,_⟩:=jF (QR O lo K true) J H4 z.1 s z.2.1 oM H4 c6 c7 W4.start;have b5:=a7.trans' a3 W4.row;obtain⟨a5,a6,W,b1,e8,f1⟩:=a3.w;have n5:=a3.stay.next;have d4:∀b,l7 w b->¬l7 c6 b/\¬l7 c7 b:=fun b u=>⟨fun q=>by rcases e7 b q with r|r;exact(S b u).1 r;have:=hO.lt u;omega,fun q=>by rcases e9 b q with r|r;exact(S b u).2 r;have:=hO.lt u;omega⟩
 have d5:∀b,l7 w b->¬l7 a5 b/\¬l7 a6 b:=fun b u=>⟨fun q=>by rcases e8 b q with r|r;exact(d4 b u).1 r;have:=hO.lt u;omega,fun q=>by rcases f1 b q with r|r;exact(d4 b u).2 r;have:=hO.lt u;omega⟩
 have c9:u6 H5 U.next 1 (w9 inE) w es:=hO.same fun b u=>by
  have h1:=hO.lt u;rw[b1 b oM oM (d4 b u).1 (d4 b u).2,b0 b oM oM (S b u).1 (S b u).2,s3.get b oM]
 obtain⟨w6,h6,H6,d1,b9,d0,X⟩:=c9.push1F (P:=prog) (t:=29) (cs:=inE z.2.2) (a:=z.2.2) (by exact CE.2.2.2.2.2.2) ty3.1 ty3.2.1 ty3.2.2.1 oM oM rfl rfl (by have h2:=(cZ (l.drop (i+1)) s (z.1.edge s z.2.1 0 0) (es++[z.2.2])).2;rw[fu]at h2;simp at h2;omega) oM;have n6:=X.next;have c4:=a3.lt;have a4:∀{b:Nat},b<H5.next->¬l7 w b->H6.get b=H5.get b:=fun u hw=>X.but _ u hw;have W6:PgW (QR O lo K true) J H6 a5 a6 (z.1.edge s z.2.1 0 0):=⟨(a4 c4 (fun q=>by have:=hO.lt q;omega)).trans W.row,W.e.same fun b u=>a4 (W.e.lt u).2 (fun q=>(d5 b q).1 u),W.t.same fun b u=>a4 (W.t.lt u).2 (fun q=>(d5 b q).2 u),W.d⟩
 have b6:PgS (QR O lo K true) J U we wt H6 (z.1.edge s z.2.1 0 0):=by
  obtain⟨⟨g2,g4,k1,k2,k3,k4,k5,k6,k7⟩,ks⟩:=b5;have:=W.row.symm.trans k1;simp only[Option.some.injEq,Blk.cells.injEq,List.cons.injEq,and_true,true_and]at this;obtain⟨rfl,rfl⟩:=this;exact⟨⟨a5,a6,W6.row,W6.e,W6.t,W6.d,fun j hj q1 q2 q3=>by rw[a4 oM (fun q=>by have:=hO.lt q;omega)];exact k5 j hj q1 q2 q3,k6,k7⟩,ks.trans (X.stay.weaken oM)⟩
 refine J23 f0 f6 f7 b3 a9 b4 b gx nt a8 a1 e1 f2 c8.symm g3 c5 b7 d9 d3 d8 d1 b9 @wrap_small ?_;refine i4 (kk-1) oM ⟨i+1,z.1.edge s z.2.1 0 0,es++[z.2.2],w6,a5,a6,oM,oM,f0,f6,rfl,b3,a9,rfl,b6,W6,d0,fun b u=>?_,⟨by simp only[X9];omega,by simp only[X9];omega,by rw[P5];omega,by simp only[dx];omega⟩,fu⟩;rcases X.new b u with r|r
 .exact d5 b r
 .exact⟨fun q=>by have:=W.e.lt q;omega,fun q=>by have:=W.t.lt q;omega⟩
theorem xL(Rt:LV->Q->Prop)(W:N7)(O:Nat)(c4:O<W.next)(we wt:Value)(wa:Option Addr)(wc:Nat)(u:List Int)(hn:u.length<=1000000)(s t:Int)(r:PrD):
  ∀kk e H2,(∃(i:Nat)(p:PrD)(D E:Value),kk=u.length-i/\i<=u.length/\e.get 0=pT O/\e.get 6=iV s/\e.get 12=iV t/\e.get 40= .slice wa u.length wc/\e.get 41=iV u.length/\e.get 42=iV i/\PgS Rt O W we wt H2 p/\PgW Rt O H2 D E p/\u6 H2 W.next 1 (w9 inE) (.slice wa u.length wc) u/\(∀b,l7 (.slice wa u.length wc) b->¬l7 D b/\¬l7 E b)/\H2.low<=O/\p.ed.length+(u.length-i)<=1000000/\(u.drop i).foldl (fun m x=>m.edge x t 0 0) p=r)->
  w7 (LE prog t6 (.loop Kt) e H2) (fun o e H2=>o= .exit 2/\e.get 6=iV s/\e.get 12=iV t/\PgS Rt O W we wt H2 r/\H2.low<=O):=by
 refine i8 _ _ ?_;rintro kk e H2 ⟨i,p,D,E,b8,hi,f0,f6,S,a1,U,a2,hP,hW,hO,z,hl,b6,fu⟩;rcases b:decide ((i:Int)<u.length)with _|_
 .have a8:=dF b;have:u.drop i=[]:=dN oM;rw[this,List.foldl_nil]at fu;refine J3 U a2 b ?_;exact i9 ⟨rfl,f6,S,by rw[<-fu];exact hP,hl⟩
 have a8:=dT b;obtain⟨x,nb,o,cs,own,el,hx,hd,b3,c3,hg,b9,b7,hc,hR⟩:=hO.sl.row (i:=i) oM;subst b3;have nt:(i:Int).toNat=i:=tN i;have b0:el=inE x:=hR;subst b0;have c0:=hc 0 oM;rw[Nat.add_zero]at c0;rw[hd,List.foldl_cons]at fu;obtain⟨v5,h5,H5,a9,b1,rfl,a3,b2,_⟩:=jF Rt O H2 p x t oM H2 D E hW.start;have a4:=hP.trans' a3 hW.row;obtain⟨a5,a6,W5,X,b4,b5⟩:=a3.w;have d5:∀b,l7 (.slice (some ⟨nb,o,none⟩) u.length wc) b->¬l7 a5 b/\¬l7 a6 b:=fun b J=>⟨fun q=>by rcases b4 b q with r|r;exact(z b J).1 r;have:=hO.lt J;omega,fun q=>by rcases b5 b q with r|r;exact(z b J).2 r;have:=hO.lt J;omega⟩
 have a7:u6 H5 W.next 1 (w9 inE) (.slice (some ⟨nb,o,none⟩) u.length wc) u:=hO.same fun b J=>by
  have h1:=hO.lt J;rw[X b oM oM (z b J).1 (z b J).2]
 refine J12 f0 S a1 U a2 b hg nt c0 a9 b1 @wrap_small ?_;exact i4 (kk-1) oM ⟨i+1,p.edge x t 0 0,a5,a6,oM,oM,f0,f6,S,a1,U,rfl,a4,W5,a7,d5,b2,by rw[P5];omega,fu⟩
theorem Qd(D:N7)(lo K k:Nat)(ih:vX D lo K k)(H:N7)(O:Nat)(b3:lo<=O)(b0:∀j,j<lo->H.get j=D.get j) (v:Value) (l:List Q) (hv:QsR D lo k false v l) (hn:l.length<=1048576) (hw:∀x∈l,OkD false x) (p:PrD) (a2:jT (1+nL l) p) (r:PrD×List Int) (hr:r=I9 l p.st {p with st:=p.st+1} []):
  PgC (QR D lo K true) O (CL prog t6 109 [pT O,v] H) H p (r.2.foldl (fun m x=>m.edge x r.1.st 0 0) {r.1 with st:=r.1.st+1}) (.tuple #[iV p.st,iV r.1.st]):=by
 refine jE fun we wt hp h=>?_;obtain⟨va,ca,rfl⟩:=hv.slice;obtain⟨t0,t1,t2,t3⟩:=a2;have c4:=sw l;obtain⟨⟨u0,u1,u2,u3⟩,u4⟩:=cZ l p.st {p with st:=p.st+1} [];rw[<-hr]at u0 u1 u2 u3 u4;simp only[List.length_nil]at u0 u1 u2 u3 u4;have a5:∀j,j<lo->(⟨H.bs,H.next⟩:N7).get j=D.get j:=b0;obtain⟨H1,a8,W,c3,_,n1⟩:=eg h t0 oM;obtain⟨b7,b8,W1,b9,c5,c6⟩:=W.w;rw[j7 Ec rfl _ sM];refine J1 a8 ?_;refine j8 (F:=fun z=>∃H',u5 _ _ _ (u9 (inBlock 0 z) _)=some (D6 _ H H')/\PgS (QR D lo K true) O _ we wt H' _/\H'.low<=O) (xM D lo K k ih ⟨H.bs,H.next⟩ O b3 hp a5 we wt va ca l hv hn hw p.st r oM l.length _ _ ⟨0,{p with st:=p.st+1},[],nS,b7,b8,rfl,oM,rfl,rfl,rfl,rfl,rfl,rfl,W,W1,u6.nil,fun b u=>(B8 b u).elim,⟨by show 0<=p.st+1;omega,by rw[List.drop_zero];show p.st+1+_<=_;omega,by rw[List.drop_zero];show p.ed.length+_<=_;omega,by rw[List.drop_zero];show p.ts.length+_<=_;omega⟩,by rw[List.drop_zero];exact hr.symm⟩) ?_;rintro o' e' H2 ⟨ho,g0,g6,w,c8,c9,g7,a6,W2,E,J⟩;obtain⟨H3,a9,X,b1,_,n3⟩:=eg W2.start oM oM;have a1:=a6.trans' X W2.row;obtain⟨a3,a4,W3,U,b5,b6⟩:=X.w;have d3:∀b,l7 w b->¬l7 a3 b/\¬l7 a4 b:=fun b u=>⟨fun q=>by rcases b5 b q with r|r;exact(J b u).1 r;have:=E.lt u;omega,fun q=>by rcases b6 b q with r|r;exact(J b u).2 r;have:=E.lt u;omega⟩
 have n0:(⟨H.bs,H.next⟩:N7).next=H.next:=rfl;have S:u6 H3 (N7.next ⟨H.bs,H.next⟩) 1 (w9 inE) w r.2:=E.same fun b u=>by
  have h1:=E.lt u;rw[U b oM oM (J b u).1 (J b u).2]
 obtain⟨wa,wc,ew⟩:=S.slice;rw[ew]at g7 S d3;refine J4 ho g0 g7 a9 ?_;refine j8 (F:=fun z=>∃H',u5 _ _ _ (u9 (inBlock 2 z) _)=some (D6 _ H H')/\PgS (QR D lo K true) O _ we wt H' _/\H'.low<=O) (xL (QR D lo K true) ⟨H.bs,H.next⟩ O hp we wt wa wc r.2 oM p.st r.1.st _ r.2.length _ _ ⟨0,{r.1 with st:=r.1.st+1},a3,a4,rfl,oM,g0,g6,rfl,rfl,rfl,rfl,a1,W3,S,d3,b1,by show r.1.ed.length+_<=_;omega,rfl⟩) ?_;rintro c7 c0 H4 ⟨ho,k6,b4,a7,b2⟩;have ll:H4.low<H.next:=oM;refine J3 ho k6 b4 ?_;exact⟨H4,rfl,a7,b2⟩
theorem Rn(Hs:N7)(lo K k:Nat)(hk:k<=K)(ih:vX Hs lo K k):vX Hs lo K (k+1):=by
 intro H S cs q p c4 e8 hr g9 e9;refine jE fun we wt hp h=>?_;obtain⟨t0,t1,t2,t3⟩:=e9;have j4:=fq q;obtain⟨c6,_,o1,_,h8⟩:=g9.parts;obtain⟨l1,l2,o7,_⟩:=Tt h8;simp only[bF]at o7;obtain⟨va,ca,wa,c9,a4,h1,h2,h3,i2⟩:=hr.path;have ac:cs.all oC=true:=by rw[a4];rfl
 have lc:cs.length=3:=by rw[a4];rfl
 have q0:cs[0]?=some (.int .i64 q.op):=by rw[a4];rfl
 have q1:cs[1]?=some (.slice va q.a.length ca):=by rw[a4];rfl
 have q2:cs[2]?=some (.slice wa q.b.length c9):=by rw[a4];rfl
 obtain⟨H1,W,n1,g1,-⟩:=pushF H (bC cs 1);have hS:i6 H.next ⟨H.bs,H.next⟩ H1:=by rw[W];exact i6.push lR
 have b0:∀j,j<lo->H1.get j=Hs.get j:=fun j hj=>by rw[hS.get j oM];exact e8 j hj
 have X:=h.work hS;have n0:(⟨H.bs,H.next⟩:N7).next=H.next:=rfl;obtain⟨a2,a8,W0,_⟩:=h.w;have W1:PgW (QR Hs lo K true) S H1 a2 a8 p:=⟨(hS.get S hp).trans W0.row,W0.e.keep hS,W0.t.keep hS,W0.d⟩
 rw[j7 QY rfl _ sM];by_cases e2:q.op=2
 .rw[dQ q p oM oM oM,if_neg oM,if_pos e2,if_neg oM];obtain⟨v5,h5,E,J,O,rfl,D,u,_⟩:=mg (QR Hs lo K true) S H1 p 1 0 oM t0 oM _ we wt X;have ll:E.low<H.next:=oM;refine J7 ac W.symm g1 q0 e2 J O ?_;exact⟨E,rfl,D,u⟩
 by_cases e3:q.op=3
 .rw[dQ q p oM oM oM,if_neg oM,if_neg e2,if_pos e3,if_neg oM];obtain⟨v5,h5,E,J,O,rfl,D,u,_⟩:=mg (QR Hs lo K true) S H1 p 2 0 oM t0 oM _ we wt X;have ll:E.low<H.next:=oM;refine J7 ac W.symm g1 q0 e3 J O ?_;exact⟨E,rfl,D,u⟩
 have b2:decide (q.op=2)=false:=decide_eq_false e2;have b3:decide (q.op=3)=false:=decide_eq_false e3;by_cases e4:q.op=4
 .rw[sZ q p e4];have e1:lst false q.op=2:=by rw[e4];decide
  rw[e1]at l1;obtain⟨v5,h5,E,J,O,rfl,D,u,_⟩:=Qc Hs lo K k ih H1 S c4 b0 (.slice va q.a.length ca) q.a h1 h3 oM c6 p ⟨t0,oM,oM,oM⟩ _ we wt X;have ll:E.low<H.next:=oM;refine J8 ac W.symm g1 q0 q1 e4 J O ?_;exact⟨E,rfl,D,u⟩
 by_cases e5:q.op=5
 .rw[sY q p e5];obtain⟨v5,h5,E,J,O,rfl,D,u,_⟩:=Qd Hs lo K k ih H1 S c4 b0 (.slice va q.a.length ca) q.a h1 h3 c6 p ⟨t0,oM,oM,oM⟩ _ rfl _ we wt X;have ll:E.low<H.next:=oM;refine J8 ac W.symm g1 q0 q1 e5 J O ?_;exact⟨E,rfl,D,u⟩
 by_cases e6:q.op=6
 .have e1:lst false q.op=1/\mst false q.op=1:=by rw[e6];decide
  rw[e1.1]at l1;rw[e1.2]at l2;obtain⟨x,nb,o,h9,own,el,hx,hd,rfl,g8,f4,g7,a9,hR⟩:=h1.row (i:=0) oM;simp only[qSz,bF,Nat.zero_mul,Nat.add_zero]at a9 f4 g7;have c3:q.a=[x]:=by
   obtain⟨y,hy⟩:=List.length_eq_one_iff.1 (show q.a.length=1 from oM);rw[hy]at hx ⊢;simpa using hx
  have j3:nL q.a=nQ x:=by rw[c3,nL,nL];omega
  rw[pR q p e6 c3];obtain⟨H2,d6,d3,j0,_,n2⟩:=eg X t0 oM;have d1:∀j,j<S->H2.get j=(⟨H.bs,H.next⟩:N7).get j:=d3.stay.get;have d0:∀j,j<lo->H2.get j=Hs.get j:=fun j hj=>by rw[d1 j oM];exact e8 j hj
  have f7:=(d0 nb g8).trans f4;have g2:H2.get H.next=cE cs 1:=by
   obtain⟨f5,d8,d4,_⟩:=eg W1.start t0 oM;have:f5=H2:=by
    have:=d8.symm.trans d6
    simpa using this
   subst this;obtain⟨_,_,_,c8,_⟩:=d4.w;rw[c8 H.next oM oM (fun q=>by have:=W0.e.lt q;omega) (fun q=>by have:=W0.t.lt q;omega)];exact g1
  obtain⟨v3,i1,H3,d9,f0,rfl,d5,j1,_⟩:=ih H2 S el x {p with st:=p.st+1} c4 d0 hR (c6 x (by rw[c3];simp)) ⟨by show 0<=p.st+1;omega,by show p.st+1+_<=_;omega,by show p.ed.length+_<=_;omega,by show p.ts.length+_<=_;omega⟩ _ we wt d3;have f3:=F8 x {p with st:=p.st+1};obtain⟨z,hz⟩:∃z,z=C6 x {p with st:=p.st+1}:=eX;rw[<-hz]at d9 d5 f3 ⊢;obtain⟨u0,u1,u2,u3⟩:=f3;simp only at u0 u1 u2 u3;obtain⟨v4,h4,H4,g3,f1,rfl,f8,j2,_⟩:=jF (QR Hs lo K true) S H3 z.1 p.st z.2.1 oM _ we wt d5;obtain⟨v5,h5,E,g4,a6,rfl,D,u,_⟩:=jF (QR Hs lo K true) S H4 (z.1.edge p.st z.2.1 0 0) z.2.2 p.st (by rw[P5];omega) _ we wt f8;have ll:E.low<H.next:=oM;have i3:(0:Int)<q.a.length:=oM;refine J16 ac W.symm g1 q0 q1 e6 d6 g2 f7 a9 d9 f0 g3 f1 g4 a6 ?_;exact⟨E,rfl,D,u⟩
 have b4:decide (q.op=4)=false:=decide_eq_false e4;have b5:decide (q.op=5)=false:=decide_eq_false e5;have b6:decide (q.op=6)=false:=decide_eq_false e6;by_cases e7:q.op=7
 .rw[dQ q p e4 e5 e6,if_pos e7,if_neg e2,if_neg e3,if_pos e7,if_pos e7];have h0:=o7.1 e7;obtain⟨a3,h5,E,b9,a6,b8,U⟩:=W1.t.appendF (P:=prog) (t:=23) (n:=lo) (l2:=q.b) (x:= .slice wa q.b.length c9) (by exact sU.2.2.2.2.2.2) cr.1 cr.2.1 cr.2.2.1 oM oM (SlI.mono h2 (fun j hj=>b0 j hj) lR (fun _ _ h=>h.upTo hk)) oM oM;have n5:=U.next;have h6:¬l7 a8 S:=fun q=>oN (W1.t.lt q);have d2:E.get S=cE [iV p.st,iV p.sa,iV p.en,a2,a8] 1:=(U.but S oM h6).trans W1.row;obtain⟨a5,c5,a7⟩:=b8.slice;have cw:a3.cells.toList=[a3]:=by rw[a7];rfl
  have ow:Value.oneCell' a3=true:=by rw[a7];rfl
  obtain⟨a0,c0,f6⟩:=W1.t.slice;obtain⟨H6,a1⟩:=eY (E.put S (bC [iV p.st,iV p.sa,iV p.en,a2,a3] 1));have n6:H6.next=E.next:=by rw[a1,t5]
  have b1:H6.get S=cE [iV p.st,iV p.sa,iV p.en,a2,a3] 1:=by rw[a1];exact j5 oM
  have k6:∀j,j≠S->H6.get j=E.get j:=fun j hj=>by rw[a1,j6 (fun q=>hj q.symm)]
  have P6:PgS (QR Hs lo K true) S H1 a2 a8 H6 {p with ts:=p.ts++q.b}:=by
   refine⟨⟨a2,a3,b1,W1.e.same fun b hb=>?_,b8.same fun b hb=>k6 b (oN (b8.lt hb)),fun b hb q=>?_,fun j hj q1 q2 q3=>by rw[k6 j q1,U.but j hj q3],fun _ h=> .inl h,U.new⟩,?_⟩
   .have:=W1.e.lt hb;rw[k6 b oM,U.but b this.2 (W1.d b hb)]
   .have:=W1.e.lt hb;rcases U.new b q with r|r
    .exact W1.d b hb r
    .omega
   .rw[a1];exact(U.stay.weaken oM).trans (i6.put lR)
  have f9:=X.trans' P6 W1.row;have u:(p.ts++q.b).length=p.ts.length+1:=by rw[List.length_append,h0]
  have ei:(((p.ts++q.b).length:Nat):Int)-1=(p.ts.length:Int):=by rw[u];omega
  obtain⟨v7,h7,H7,g5,f2,rfl,g0,g6,_⟩:=mg (QR Hs lo K true) S H6 {p with ts:=p.ts++q.b} 3 p.ts.length (by show p.ed.length+1<=_;omega) t0 (by show p.st<=_;omega) _ we wt f9;have ll:H7.low<H.next:=oM;have i0:H6.get H.next=cE cs 1:=by rw[k6 _ oM,U.but _ oM (fun q=>by have:=W0.t.lt q;omega)];exact g1
  rw[a7]at cw ow b1 a1;have c7:=W1.row;rw[f6]at c7 d2 b9;rw[a7]at b9;refine J16 ac W.symm g1 q0 q2 e7 c7 b9 a6 d2 a1.symm b1 ei g5 f2 @wrap_small ?_;exact⟨H7,rfl,g0,g6⟩
 .have b7:decide (q.op=7)=false:=decide_eq_false e7;rw[dQ q p e4 e5 e6,if_neg e7,if_neg e2,if_neg e3,if_neg e7,if_neg e7];obtain⟨v5,h5,E,J,O,rfl,D,u,_⟩:=mg (QR Hs lo K true) S H1 p 0 0 oM t0 oM _ we wt X;have ll:E.low<H.next:=oM;refine J12 ac W.symm g1 q0 b2 b3 b4 b5 b6 b7 J O ?_;exact⟨E,rfl,D,u⟩
theorem LS(u:N7)(lo K:Nat):∀k,k<=K+1->vX u lo K k:=by
 intro k;induction k with
 |zero=>intro _ H J cs q p _ _ z;exact z.elim
 |succ k D=>intro E;exact Rn u lo K k oM (D oM)
theorem zm(K:Nat)(H:N7)(lo:Nat)(cs:LV)(q:Q)(c0:lo<=H.next)(hr:QR H lo K false cs q)(b1:OkD false q)(b6:nQ q<=100000):
  Ret (CL prog t6 59 [.agg cs.toArray] H) H (CO H (QR H lo K true) (B9 q)):=by
 have a0:=F7 hr;have l0:=hr.len;have U:=N5 hr;rw[l0]at U;simp only[qSz,bF]at U l0;obtain⟨O,D⟩:=eY (((N7.push ⟨H.bs,H.next⟩ (bC cs 1)).push (bC z5 1)).push (bC z5 1));have n0:(N7.push ⟨H.bs,H.next⟩ (bC cs 1)).next=H.next+1:=by rw[i5];rfl
 have b4:((N7.push ⟨H.bs,H.next⟩ (bC cs 1)).push (bC z5 1)).next=H.next+2:=by rw[i5,n0]
 have n1:O.next=H.next+3:=by rw[D,i5,b4]
 have hS:i6 H.next H O:=by rw[D];exact((i6.first H _).trans (i6.push oM)).trans (i6.push oM)
 have g1:O.get H.next=cE cs 1:=by rw[D,i7 oM,i7 oM];exact j9
 have g2:O.get (H.next+1)=cE z5 1:=by rw[D,i7 oM];exact y7 oM
 have g3:O.get (H.next+2)=cE z5 1:=by rw[D];exact y7 oM
 have a3:H.next<=O.low:=by rw[D,l9,l9,l9];exact lR
 have X:PgS (QR H lo K true) (H.next+2) O (nS) (nS) O ⟨0,0,0,[],[]⟩:=PgS.start g3 u6.nil u6.nil (fun b S=>(B8 b S).elim);obtain⟨v3,b9,H2,a1,a2,rfl,hP,hl,_⟩:=LS H lo K K oM O (H.next+2) cs q ⟨0,0,0,[],[]⟩ oM (fun j hj=>hS.get j oM) hr b1 ⟨by decide,by show(0:Int)+_<=_;omega,by simp;omega,by simp;omega⟩ _ _ _ X;obtain⟨y,hy⟩:=eY (C6 q ⟨0,0,0,[],[]⟩);rw[B9,<-hy];rw[<-hy]at a1 hP;obtain⟨we,wt,W,a4,ne,nt⟩:=hP.w;have n2:=hP.stay.next;obtain⟨ea,ec,e1⟩:=W.e.slice;obtain⟨ta,tc,e2⟩:=W.t.slice;have row0:=W.row;have a7:H2.get (H.next+1)=cE z5 1:=(a4 _ oM oM (B8 _) (B8 _)).trans g2;obtain⟨b7,b2⟩:=eY ([iV y.1.st,iV y.2.1,iV y.1.en,we,wt]:LV);obtain⟨u,z⟩:=eY ([iV y.1.st,iV y.2.1,iV y.2.2,we,wt]:LV);obtain⟨H3,E⟩:=eY ((H2.put (H.next+2) (bC [iV y.1.st,iV y.2.1,iV y.1.en,we,wt] 1)).put (H.next+2) (bC u 1));have n3:H3.next=H2.next:=by rw[E,t5,t5]
 have a9:H3.get (H.next+2)=cE u 1:=by rw[E];exact j5 (by rw[t5];omega)
 have a8:H3.get (H.next+1)=cE z5 1:=by rw[E,j6 oM,j6 oM];exact a7
 have a6:u.all oC=true:=by rw[z,e1,e2];rfl
 have l6:u.length=5:=by rw[z];rfl
 have b3:ldC (some true) (some 5) 0 u=some (.agg u.toArray):=by rw[z];rfl
 have b5:splice z5 0 u=u:=x9 _ _ (by rw[l6];rfl);obtain⟨H4,J⟩:=eY (H3.put (H.next+1) (bC u 1));have n4:H4.next=H3.next:=by rw[J,t5]
 have g4:H4.get (H.next+1)=cE u 1:=by rw[J];exact j5 oM
 have s4:i6 H.next O H4:=(hP.stay.weaken oM).trans (by rw[J,E];exact((i6.put oM).trans (i6.put oM)).trans (i6.put oM));have b0:=s4.low a3;have k4:∀j,H.next+2<j->H4.get j=H2.get j:=fun j hj=>by rw[J,j6 oM,E,j6 oM,j6 oM]
 have a5:PrF H4 (fun j=>H.next<=j/\j<H4.next) (QR H lo K true) u {y.1 with sa:=y.2.1,en:=y.2.2}:=⟨we,wt,z,(W.e.same fun b S=>k4 b (oN (W.e.lt S))).frz fun b S=>by have:=W.e.lt S;omega,(W.t.same fun b S=>k4 b (oN (W.t.lt S))).frz fun b S=>by have:=W.t.lt S;omega⟩
 have b8:(some (Blk.cells [iV y.1.st,iV y.1.sa,iV y.1.en,we,wt] true 1))=cE [iV y.1.st,iV y.1.sa,iV y.1.en,we,wt] 1:=rfl;rw[j7 QP rfl _ sM];rw[z]at E;refine J16 a0 D.symm g1 U a1 a2 @row0 E.symm a9 b3 a8 a6 l6 b5 J.symm g4 ?_;exact tV a5 (hS.trans s4) b0 (fun h=>h)
def dw:List Q->Int->List Int
 |[],_=>[]
 |x::l,n=>n::dw l (n+(B9 x).st)
def gF(L:List Q)(m:PrD):StD:=⟨L,L.map B9,dw L 0,m⟩
theorem qu(l:List PrD):∀n:Int,l.foldl (fun n p=>n+p.st) n=n+A0 l:=by
 induction l with
 |nil=>intro n;simp [A0]
 |cons p l u=>
  intro n;rw[List.foldl_cons,u];show _=n+(p::l).foldl (fun n p=>n+p.st) 0;rw[List.foldl_cons,u (0+p.st)];omega
theorem sh(l l2:List PrD):A0 (l++l2)=A0 l+A0 l2:=by
 show(l++l2).foldl (fun n p=>n+p.st) 0=_;rw[List.foldl_append,qu];rfl
theorem uJ(p:PrD)(l:List PrD):A0 (p::l)=p.st+A0 l:=by
 show(p::l).foldl (fun n p=>n+p.st) 0=_;rw[List.foldl_cons,qu];omega
theorem mB(l:List Q)(x:Q):∀n,dw (l++[x]) n=dw l n++[n+A0 (l.map B9)]:=by
 induction l with
 |nil=>intro n;simp [dw,A0]
 |cons y l u=>
  intro n;rw[List.cons_append,dw,u,dw,List.map_cons,uJ,List.cons_append]
  congr 3;omega
theorem yx(x y:Q):M6 x y=M6 y x:=by
 rw[Bool.eq_iff_iff,ky,ky];exact eq_comm
theorem vG(L:List Q)(m:PrD)(x:Q):E8 (gF L m) x=gF (bR L x) m:=by
 have:(gF L m).paths.any (fun y=>M6 y x)=L.any (fun y=>M6 x y):=by
  show L.any _=_
  congr 1;funext y;exact yx y x
 rw[E8,this,bR];split
 .rfl
 .simp only[gF,List.map_append,mB,Int.zero_add];rfl
theorem Cy(q:Q):C0 q=gF ((inQ false q).foldl bR []) (B9 q):=by
 have:∀(l L:List Q)(m:PrD),l.foldl E8 (gF L m)=gF (l.foldl bR L) m:=by
  intro l;induction l with
  |nil=>intro L m;rfl
  |cons x l u=>intro L m;rw[List.foldl_cons,vG,u,List.foldl_cons]
 exact this (inQ false q) [] (B9 q)
theorem CX(l:List Q)(P:Q->Prop)(z:∀x∈l,P x):∀L:List Q,(∀x∈L,P x)->∀x∈l.foldl bR L,P x:=by
 induction l with
 |nil=>intro L h;exact h
 |cons y l D=>
  intro L h;rw[List.foldl_cons];refine D (fun x u=>z x (by simp [u])) _ fun x u=>?_;unfold bR at u;split at u
  .exact h x u
  .rcases List.mem_append.1 u with u|u
   .exact h x u
   .have:x=y:=by simpa using u
    rw[this];exact z y sM
theorem BF(K:Nat)(Hs:N7)(lo n0 z:Nat)(m3:lo<=n0)(m6:n0<=z)(lv:Value)(l:List Q)(hl:l.length<=100000)(j1:∀x∈l,OkD false x/\nQ x<=1000) (ms:LV) (m:PrD) (H1:N7) (i2:∀j,j<lo->H1.get j=Hs.get j) (t2:Value):
  ∀kk e H2,(∃(i:Nat)(w2 w3:Value)(G:Nat->Prop),kk=l.length-i/\i<=l.length/\e.get 2=t2/\e.get 4=pT z/\e.get 5=iV (A0 ((l.take i).map B9))/\e.get 17=lv/\e.get 18=iV l.length/\e.get 19=iV i/\0<=A0 ((l.take i).map B9)/\A0 ((l.take i).map B9)<=2000*i/\
    H2.get z=cE (lv::w2::w3::ms) 1/\PrF H2 G (QR Hs lo K true) ms m/\SlF H2 G 3 (QR Hs lo K false) lv l/\u6 H2 (z+1) 5 (PrF H2 G (QR Hs lo K true)) w2 ((l.take i).map B9)/\u6 H2 (z+1) 1 (w9 inE) w3 (dw (l.take i) 0)/\
    (∀j,G j->n0<=j/\j<H2.next/\j≠z/\¬l7 w2 j/\¬l7 w3 j)/\(∀j,l7 w2 j->¬l7 w3 j)/\i6 n0 H1 H2)->
  w7 (LE prog t6 (.loop Nj) e H2) (fun o e H2=>o= .exit 0/\e.get 2=t2/\e.get 4=pT z/\∃(w2 w3:Value)(G:Nat->Prop),H2.get z=cE (lv::w2::w3::ms) 1/\PrF H2 G (QR Hs lo K true) ms m/\SlF H2 G 3 (QR Hs lo K false) lv l/\u6 H2 (z+1) 5 (PrF H2 G (QR Hs lo K true)) w2 (l.map B9)/\u6 H2 (z+1) 1 (w9 inE) w3 (dw l 0)/\(∀j,G j->n0<=j/\j<H2.next/\j≠z)/\i6 n0 H1 H2):=by
 refine i8 _ _ ?_;rintro kk e H2 ⟨i,w2,w3,G,m1,hi,f2,f4,f5,d9,c4,e2,l6,m0,g4,d3,b5,a3,E,hG,d2,hS⟩;have m4:=hS.next;have f9:=u7 g4;rcases b:decide ((i:Int)<l.length)with _|_
 .have i0:=dF b;have:l.take i=l:=List.take_of_length_le oM;rw[this]at a3 E;refine J3 c4 e2 b ?_;exact i9 ⟨rfl,f2,f4,w2,w3,G,g4,d3,b5,a3,E,fun j u=>⟨(hG j u).1,(hG j u).2.1,(hG j u).2.2.1⟩,hS⟩
 have i0:=dT b;have f7:=b5.slice;obtain⟨la,lc,c3⟩:=f7;have b9:=b5;rw[c3]at b9;obtain⟨x,nb,o,k8,own,el,hx,hd,j0,l4,i3,m2,g1,hc,hR⟩:=b9.row (i:=i) oM;subst j0;have nt:(i:Int).toNat=i:=tN i;obtain⟨f8,m5⟩:=j1 x (mG hx);have k6:=dR x;have d4:l.take (i+1)=l.take i++[x]:=by rw[List.take_add_one,hx];rfl
 have a1:=F7 hR;have e1:=hR.len;simp only[qSz,bF]at e1;have g2:=N5 hR;rw[e1]at g2;have h5:∀j,j<lo->H2.get j=Hs.get j:=fun j u=>by rw[hS.get j oM,i2 j u]
 obtain⟨H3,h8,n3,g3,s3⟩:=pushP H2 (bC [iV 0,nS,nS] 1) (bC el 1);have k2:splice [iV 0,nS,nS] 0 el=el:=x9 _ _ (by rw[e1];rfl);have d5:∀j,j<lo->H3.get j=Hs.get j:=fun j u=>by rw[s3.get j oM,h5 j u]
 obtain⟨v3,k9,H4,i1,f6,D,rfl,a4,s4⟩:=zm K H3 lo el x oM (hR.mono d5 lR) f8 oM;have n4:=s4.next;have a5:=gU a4;have l5:=Tq a4;have g0:PrF H4 (fun j=>H3.next<=j/\j<H4.next) (QR Hs lo K true) D (B9 x):=a4.mono (fun _ _=>rfl) (fun _ h=>h) (fun _ _ h=>h.mono (fun j u=>(d5 j u).symm) lR);obtain⟨H5,h9,n5,g5,s5⟩:=pushP H4 (bC z5 1) (bC D 1);have k5:splice z5 0 D=D:=x9 _ _ (by rw[l5];rfl);have b2:i6 H2.next H2 H5:=(s3.trans (s4.weaken oM)).trans (s5.weaken oM);have b3:H5.get z=cE (lv::w2::w3::ms) 1:=(b2.get z f9).trans g4;have g6:=Tq d3;obtain⟨G2,c7⟩:=eY (fun j=>G j\/(H3.next<=j/\j<H4.next):Nat->Prop);have W:∀j,G j->G2 j:=fun j u=>by rw[c7];exact .inl u
 have b6:∀j,G2 j->n0<=j/\j<H4.next/\j≠z/\¬l7 w2 j/\¬l7 w3 j:=fun j u=>by
  rw[c7]at u;rcases u with u|u
  .have:=hG j u;exact⟨this.1,oM,this.2.2⟩
  .exact⟨oM,u.2,oM,fun q=>by have:=a3.lt q;omega,fun q=>by have:=E.lt q;omega⟩
 have b1:∀j,G j->H5.get j=H2.get j:=fun j u=>b2.get j (hG j u).2.1;have g7:∀j,(H3.next<=j/\j<H4.next)->H5.get j=H4.get j:=fun j u=>s5.get j u.2;have d1:PrF H5 G2 (QR Hs lo K true) D (B9 x):=g0.mono g7 (fun j u=>by rw[c7];exact .inr u) iF;have e9:u6 H5 (z+1) 5 (PrF H5 G2 (QR Hs lo K true)) w2 ((l.take i).map B9):=(a3.keep b2).imp fun cs p h=>h.mono b1 W iF;obtain⟨u2,l1,H7,f1,b7,a2,O⟩:=e9.push1F (P:=prog) (t:=28) (cs:=D) (a:=B9 x) (by exact MD.2.2.2.2.2.2) pL.1 pL.2.1 pL.2.2.1 oM oM l5 d1 (by simp;omega) oM;have n7:=O.next;obtain⟨H6,c9,n6,-⟩:=pushE H5 (bC D 5);rw[<-c9]at f1 b7;have e6:H6.get z=cE (lv::w2::w3::ms) 1:=by rw[c9,i7 oM];exact b3
 have b4:H7.get z=cE (lv::w2::w3::ms) 1:=(O.but z oM (fun q=>by have:=a3.lt q;omega)).trans b3;have f0:u6 H7 (z+1) 1 (w9 inE) w3 (dw (l.take i) 0):=(E.keep b2).same fun b hb=>O.but b (oN (E.lt hb)) (fun q=>d2 b q hb);obtain⟨u3,l3,H9,f3,b8,a8,X⟩:=f0.push1F (P:=prog) (t:=29) (cs:=inE (A0 ((l.take i).map B9))) (a:=A0 ((l.take i).map B9)) (by exact CE.2.2.2.2.2.2) ty3.1 ty3.2.1 ty3.2.2.1 oM oM rfl rfl (by
  have:∀(l:List Q) n,(dw l n).length=l.length:=by
   intro l;induction l with
   |nil=>intro n;rfl
   |cons y l ih=>intro n;rw[dw,List.length_cons,ih,List.length_cons]
  rw[this];simp;omega) oM
 have n9:=X.next;obtain⟨H8,d0,n8,-⟩:=pushE H7 (.cells (inE (A0 ((l.take i).map B9))) true 1);rw[<-d0]at f3 b8;have e7:H8.get z=cE (lv::w2::w3::ms) 1:=by rw[d0,i7 oM];exact b4
 have e8:H9.get z=cE (lv::w2::w3::ms) 1:=(X.but z oM (fun q=>by have:=E.lt q;omega)).trans b4;obtain⟨ub,n1,d6⟩:=a2.slice;have j3:Value.oneCell' u2=true:=by rw[d6];rfl
 have h0:u2.cells.toList=[u2]:=by rw[d6];rfl
 obtain⟨m9,k7,d8⟩:=a8.slice;have j4:Value.oneCell' u3=true:=by rw[d8];rfl
 have h4:u3.cells.toList=[u3]:=by rw[d8];rfl
 obtain⟨R8,a9⟩:=eY (lv::w2::w3::ms);rw[<-a9]at b3 e6 b4 e7 e8;have l8:R8.length=8:=by rw[a9];simp [g6]
 have k0:R8[1]?=some w2:=by rw[a9];rfl
 have k1:R8[2]?=some w3:=by rw[a9];rfl
 obtain⟨a7,b0⟩:=eY (lv::u2::w3::ms);have k3:splice R8 1 [u2]=a7:=by rw[a9,b0];rfl
 have lb:a7.length=8:=by rw[b0];simp [g6]
 have k4:splice a7 2 [u3]=lv::u2::u3::ms:=by rw[b0];rfl
 obtain⟨a6,S⟩:=eY (H9.put z (bC a7 1));have m7:a6.next=H9.next:=by rw[S,t5]
 have e4:a6.get z=cE a7 1:=by rw[S];exact j5 oM
 obtain⟨J,U⟩:=eY (a6.put z (bC (lv::u2::u3::ms) 1));have m8:J.next=a6.next:=by rw[U,t5]
 have h6:J.get z=cE (lv::u2::u3::ms) 1:=by rw[U];exact j5 oM
 have c5:∀j,j≠z->J.get j=H9.get j:=fun j u=>by rw[U,j6 (fun q=>u q.symm),S,j6 (fun q=>u q.symm)]
 have e3:∀j,j<H5.next->j≠z->¬l7 w2 j->¬l7 w3 j->J.get j=H5.get j:=fun j u h1 h2 h3=>by rw[c5 j h1,X.but j oM h3,O.but j u h2]
 have e5:J.get H4.next=cE D 1:=(e3 _ oM oM (fun q=>by have:=a3.lt q;omega) (fun q=>by have:=E.lt q;omega)).trans g5;have j2:ldC (some true) (some 5) 0 D=some (.agg D.toArray):=by obtain⟨_,_,_,_,rfl,_⟩:=D5 a4;rfl
 have g9:D[0]?=some (.int .i64 (B9 x).st):=by obtain⟨_,_,_,_,rfl,_⟩:=D5 a4;rfl
 have g8:bsA prog (some 32) H5 1 [(0,.agg D.toArray)]=some (sL H5.next 1 1,H6):=by
  rw[c9];obtain⟨_,_,_,_,rfl,_⟩:=D5 a4;simp only[C7,pL,C8];rfl
 have h7:=i3;have c8:J=a6.put z (.cells (.slice (some ⟨nb,o,none⟩) l.length lc::u2::u3::ms) true 1):=by rw[U,c3]
 refine J30 f4 f5 d9 c4 e2 c3 b h7 nt (aI g1 a1) (aI e1 k2) (aI h8.symm g3) (aI g2 i1) (aI f6 a5) (aI l5 k5) (aI h9.symm g5) (aI b3 e6) (aI b4 e7) (aI e8 k0) (aI k1 j2) (aI g8 f1) (aI b7 d0.symm) (aI f3 b8) (aI l8 j3) (aI h0 k3) (aI S.symm e4) (aI lb j4) (aI h4 k4) (aI c8.symm e5) (aI g9 @wrap_small) ?_;have c6:∀j,G2 j->J.get j=H5.get j:=fun j u=>by
  obtain⟨q1,q2,q3,q4,q5⟩:=b6 j u;exact e3 j oM q3 q4 q5
 have c0:A0 ((l.take (i+1)).map B9)=A0 ((l.take i).map B9)+(B9 x).st:=by rw[d4,List.map_append,sh,List.map_singleton];simp [A0]
 have eb:dw (l.take (i+1)) 0=dw (l.take i) 0++[A0 ((l.take i).map B9)]:=by rw[d4,mB,Int.zero_add]
 have em:(l.take (i+1)).map B9=(l.take i).map B9++[B9 x]:=by rw[d4,List.map_append];rfl
 refine i4 (kk-1) oM ⟨i+1,u2,u3,G2,oM,oM,f2,f4,by rw[c0];rfl,d9,c4,rfl,by rw[c0];omega,by rw[c0];omega,h6,?_,?_,?_,?_,?_,?_,?_⟩
 .exact d3.mono (fun j u=>by rw[c6 j (W j u),b1 j u]) W iF
 .exact b5.mono (fun j u=>by rw[c6 j (W j u),b1 j u]) W iF
 .rw[em];refine(a2.same (H':=J) fun b hb=>?_).imp fun cs p h=>h.mono c6 (fun _ h=>h) iF;have h1:=a2.lt hb;have h2:¬l7 w3 b:=by
   rcases O.new b hb with q|q
   .exact d2 b q
   .exact fun q=>oN (E.lt q)
  rw[c5 b oM,X.but b oM h2]
 .rw[eb];exact a8.same fun b hb=>c5 b (oN (a8.lt hb))
 .intro j u;obtain⟨q1,q2,q3,q4,q5⟩:=b6 j u;refine⟨q1,oM,q3,fun q=>?_,fun q=>?_⟩
  .rcases O.new j q with q|q
   .exact q4 q
   .omega
  .rcases X.new j q with q|q
   .exact q5 q
   .omega
 .intro j u q;have h1:=a2.lt u;rcases X.new j q with q|q
  .have:=E.lt q;rcases O.new j u with r|r
   .exact d2 j r q
   .omega
  .omega
 .exact(((hS.trans (b2.weaken oM)).trans (O.stay.weaken oM)).trans (X.stay.weaken oM)).trans (by rw[U,S];exact(i6.put oM).trans (i6.put oM))
theorem yK(K:Nat)(H:N7)(lo:Nat)(cs:LV)(q:Q)(g9:lo<=H.next)(hr:QR H lo K false cs q)(b3:OkD false q)(g6:nQ q<=1000):
  Ret (CL prog t6 32 [.agg cs.toArray] H) H (vZ H (QR H lo K false) (QR H lo K true) (C0 q)):=by
 have a0:=F7 hr;have l0:=hr.len;have b4:=N5 hr;rw[l0]at b4;simp only[qSz,bF]at b4 l0;obtain⟨H1,S⟩:=eY (((N7.push ⟨H.bs,H.next⟩ (bC cs 1)).push (bC z8 1)).push (bC [nS] 1));have n0:(N7.push ⟨H.bs,H.next⟩ (bC cs 1)).next=H.next+1:=by rw[i5];rfl
 have f7:((N7.push ⟨H.bs,H.next⟩ (bC cs 1)).push (bC z8 1)).next=H.next+2:=by rw[i5,n0]
 have n1:H1.next=H.next+3:=by rw[S,i5,f7]
 have hS:i6 H.next H H1:=by rw[S];exact((i6.first H _).trans (i6.push oM)).trans (i6.push oM)
 have g1:H1.get H.next=cE cs 1:=by rw[S,i7 oM,i7 oM];exact j9
 have g2:H1.get (H.next+1)=cE z8 1:=by rw[S,i7 oM];exact y7 oM
 have g3:H1.get (H.next+2)=cE [nS] 1:=by rw[S];exact y7 oM
 have c4:H.next<=H1.low:=by rw[S,l9,l9,l9];exact lR
 have f5:QR H1 lo K false cs q:=hr.mono (fun j D=>hS.get j oM) lR;obtain⟨v2,h2,H2,e9,b9,rfl,⟨⟨w,gm,hO,_,b6,h0⟩,s2⟩,_⟩:=(HU K).1 H1 lo (H.next+2) K (nS) [] cs q lR oM g3 u6.nil f5 b3 (by simp;omega);have n2:=s2.next;have d6:H2.get H.next=cE cs 1:=(b6 _ oM oM (B8 _)).trans g1;have d8:H2.get (H.next+1)=cE z8 1:=(b6 _ oM oM (B8 _)).trans g2;obtain⟨g8,c6⟩:=bS _ false q lR b3;obtain⟨L,hL⟩:=eY ((inQ false q).foldl bR []);have g7:L.length<=1000:=by have:=cV (inQ false q) [];rw[<-hL]at this;simp at this;omega
 have e8:∀x∈L,OkD false x/\nQ x<=1000:=by
  rw[hL];exact CX _ _ (fun x hx=>by have:=c6 x hx;exact⟨this.1,oM⟩) [] sM
 rw[<-hL]at hO;rw[Cy,<-hL];obtain⟨wa,wc,ew⟩:=hO.slice;have a9:∀j,j<lo->H2.get j=H.get j:=fun j D=>by rw[s2.get j oM,hS.get j oM]
 obtain⟨v3,h3,H3,f0,c0,J,rfl,a4,s3⟩:=zm K H2 lo cs q oM (hr.mono a9 lR) b3 oM;have n3:=s3.next;have a5:=gU a4;have l5:=Tq a4;have d0:PrF H3 (fun j=>H2.next<=j/\j<H3.next) (QR H lo K true) J (B9 q):=a4.mono (fun _ _=>rfl) (fun _ h=>h) (fun _ _ h=>h.mono (fun j D=>(a9 j D).symm) lR);obtain⟨ea,ec,ta,tc,c7,he,ht⟩:=D5 a4;have b0:H3.get (H.next+2)=cE [w] 1:=(s3.get _ oM).trans gm;obtain⟨H4,b1,n4,d9,-⟩:=pushE H3 (bC z8 1);have e6:H4.get (H.next+2)=cE [w] 1:=by rw[b1,i7 oM];exact b0
 obtain⟨O,U⟩:=eY (w::nS::nS::J:LV);have a8:O.length=8:=by rw[U];simp [l5]
 have ow:Value.oneCell' w=true:=by rw[ew];rfl
 have cw:w.cells.toList=[w]:=by rw[ew];rfl
 have b5:O.all oC=true:=by rw[U];simp only[List.all_cons,a5,ow];rfl
 have g0:splice (splice z8 0 [w]) 3 J=O:=by rw[U,c7];rfl
 have d2:splice [w,nS,nS,iV 0,iV 0,iV 0,nS,nS] 3 J=O:=g0;have g4:splice z8 0 O=O:=x9 _ _ (by rw[a8];rfl);obtain⟨W,a1⟩:=eY (H4.put H3.next (bC O 1));have n5:W.next=H4.next:=by rw[a1,t5]
 have s5:i6 H3.next H3 W:=by rw[a1,b1];exact(i6.push lR).trans (i6.put lR)
 have g5:W.get H3.next=cE O 1:=by rw[a1];exact j5 oM
 have e7:W.get (H.next+2)=cE [w] 1:=(s5.get _ oM).trans b0;have a7:i6 H2.next H2 W:=s3.trans (s5.weaken oM);have e1:W.get (H.next+1)=cE z8 1:=(a7.get _ oM).trans d8;have d3:∀j,j<lo->W.get j=H.get j:=fun j D=>by rw[a7.get j oM,a9 j D]
 obtain⟨G,hG⟩:=eY (fun j=>l7 w j\/(H2.next<=j/\j<H3.next):Nat->Prop);have f3:SlF W G 3 (QR H lo K false) w L:=((hO.keep a7).frz fun b hb=>by rw[hG];exact .inl hb).mono (fun _ _=>rfl) (fun _ h=>h) (fun _ _ h=>h.mono (fun j D=>(hS.get j oM).symm) lR);have c8:PrF W G (QR H lo K true) J (B9 q):=d0.mono (fun j D=>s5.get j D.2) (fun j D=>by rw[hG];exact .inr D) iF;have f8:i6 H.next H1 W:=(s2.weaken oM).trans (a7.weaken oM);have d4:w= .slice wa L.length wc:=ew;have c3:∀Hx:N7,D7 prog .len [22] [w] Hx=some (.int .i64 L.length,none):=fun Hx=>by
  rw[d4];exact J1 lP trivial
 rw[j7 Pk rfl _ sM];refine J25 a0 S.symm g1 b4 e9 b9 gm d6 f0 c0 b0 b1.symm e6 ow cw l5 a5 d2 a8 b5 g4 d9 a1.symm e7 c3 ?_;refine j8 (F:=fun z=>Ret (u5 _ _ _ (u9 (inBlock 0 z) _)) _ _) (BF K H lo (H.next+3) H3.next oM oM w L oM e8 J (B9 q) W d3 (pT (H.next+1)) L.length _ _ ⟨0,nS,nS,G,rfl,oM,rfl,rfl,rfl,rfl,rfl,rfl,by simp [A0],by simp [A0],by rw[<-U];exact g5,c8,f3,u6.nil,u6.nil,fun j D=>?_,fun j D=>(B8 j D).elim,i6.refl _ _⟩) ?_
 .rw[hG]at D;rcases D with D|D
  .have:=hO.lt D;exact⟨oM,oM,oM,B8 j,B8 j⟩
  .exact⟨oM,oM,oM,B8 j,B8 j⟩
 rintro o e' H6 ⟨ho,f2,f4,w2,w3,G',b7,c9,c5,a2,a3,b8,b2⟩;have n6:=b2.next;have e4:H6.get (H.next+1)=cE z8 1:=(b2.get _ oM).trans e1;obtain⟨rb,rd,e2⟩:=a2.slice;obtain⟨re,rf,e3⟩:=a3.slice;obtain⟨u,E⟩:=eY (w::w2::w3::J:LV);rw[<-E]at b7;have f6:ldC (some true) (some 8) 0 u=some (.agg u.toArray):=by rw[E,e2,e3,c7];rfl
 have a6:u.all oC=true:=by rw[E,e2,e3];simp only[List.all_cons,a5,ow];rfl
 have l6:u.length=8:=by rw[E];simp [l5]
 have f9:splice z8 0 u=u:=x9 _ _ (by rw[l6];rfl);obtain⟨H7,X⟩:=eY (H6.put (H.next+1) (bC u 1));have n7:H7.next=H6.next:=by rw[X,t5]
 have e5:H7.get (H.next+1)=cE u 1:=by rw[X];exact j5 oM
 have d1:i6 H.next H1 H7:=by rw[X];exact(f8.trans (b2.weaken oM)).trans (i6.put oM)
 have s7:i6 H.next H H7:=hS.trans d1;have f1:H.next<=H7.low:=d1.low c4;have k7:∀j,H.next+2<=j->H7.get j=H6.get j:=fun j D=>by rw[X,j6 oM]
 have d5:StF H7 (fun j=>H.next<=j/\j<H7.next) (QR H lo K false) (QR H lo K true) u (gF L (B9 q)):=by
  have gg:∀j,G' j->H7.get j=H6.get j:=fun j D=>k7 j (oN (b8 j D));have gs:∀j,G' j->H.next<=j/\j<H7.next:=fun j D=>oN (b8 j D);refine⟨w,w2,w3,J,E,?_,?_,?_,?_⟩
  .exact c5.mono gg gs iF
  .exact((a2.same fun b hb=>k7 b (oN (a2.lt hb))).imp fun cs p h=>h.mono gg gs iF).frz fun b hb=>oN (a2.lt hb)
  .exact(a3.same fun b hb=>k7 b (oN (a3.lt hb))).frz fun b hb=>oN (a3.lt hb)
  .exact c9.mono gg gs iF
 refine J11 ho f2 f4 b7 f6 e4 a6 l6 f9 X.symm e5 ?_;exact qQ d5 s7 f1 (fun h=>h)
def an(b:Bool):Value:= .int .u8 (if b then 1 else 0)
def rn(b:Bool):LV:=[an b]
structure PWf(p:PrD):Prop where
 st:0<=p.st/\p.st<=1000000
 sa:0<=p.sa/\p.sa<p.st
 en:0<=p.en/\p.en<p.st
 ed:∀x∈p.ed,0<=x.1/\x.1<p.st/\0<=x.2.1/\x.2.1<p.st/\(x.2.2.1=3->0<=x.2.2.2/\x.2.2.2<p.ts.length)
structure WfS(s:StD)(n:Nat):Prop where
 l1:s.progs.length=s.paths.length
 l2:s.base.length=s.paths.length
 l0:s.paths.length<=100000
 nle:n<=1000000
 at_:∀(i:Nat) p b,s.progs[i]?=some p->s.base[i]?=some b->0<=b/\b+p.st<=n/\PWf p
def A7(k:Int)(nm:NmQ):List AtD->ByteArray×Bool
 |[]=>(eB,false)
 |a::l=>if L3 (a.space,a.loc) nm then(a.val,decide (k=1)) else A7 k nm l
def ax(bs:List Bool)(n:Int):Bool:=bs.getD n.toNat false
def dJ(s:StD)(bs:List Bool)(p:Q):Bool:=decide (0<=jl s.paths p)&&ax bs (s.base.getD (jl s.paths p).toNat 0+(s.progs.getD (jl s.paths p).toNat ⟨0,0,0,[],[]⟩).sa)
mutual
def D4(s:StD)(e:EvD)(bs:List Bool):Q->Bool
 | .mk o sp lc vl a b=>if o=1 then true else if o=2 then decide (e.kind=1) else if o=3 then !decide (e.kind=1) else if o=4 then decide (e.kind=1)&&L3 (e.space,e.loc) (sp,lc) else
  if o=5 then(A7 e.kind (sp,lc) e.attrs).2 else if o=6 then(A7 e.kind (sp,lc) e.attrs).2&&decide ((A7 e.kind (sp,lc) e.attrs).1=vl) else if o=7 then !decide (e.kind=1)&&decide (e.text=vl) else
  if o=8\/o=9 then(anyF s e bs a==decide (o=8)) else if o=10 then anyH s e bs a else b.any (dJ s bs)
def anyH(s:StD)(e:EvD)(bs:List Bool):List Q->Bool
 |[]=>false
 |x::l=>D4 s e bs x||anyH s e bs l
def anyF(s:StD)(e:EvD)(bs:List Bool):List Q->Bool
 |[]=>false
 |x::l=> !D4 s e bs x||anyF s e bs l
end
theorem zf(s:StD)(e:EvD)(bs:List Bool):∀l,anyH s e bs l=l.any (D4 s e bs)
 |[]=>by rw[anyH];rfl
 |x::l=>by rw[anyH,zf s e bs l,List.any_cons]
theorem ze(s:StD)(e:EvD)(bs:List Bool):∀l,anyF s e bs l=l.any (fun x=> !D4 s e bs x)
 |[]=>by rw[anyF];rfl
 |x::l=>by rw[anyF,ze s e bs l,List.any_cons]
theorem qt(s:StD)(e:EvD)(bs:List Bool)(q:Q):D4 s e bs q=if q.op=1 then true else if q.op=2 then decide (e.kind=1) else if q.op=3 then !decide (e.kind=1) else if q.op=4 then decide (e.kind=1)&&L3 (e.space,e.loc) (q.sp,q.lc) else
  if q.op=5 then(A7 e.kind (q.sp,q.lc) e.attrs).2 else if q.op=6 then(A7 e.kind (q.sp,q.lc) e.attrs).2&&decide ((A7 e.kind (q.sp,q.lc) e.attrs).1=q.vl) else if q.op=7 then !decide (e.kind=1)&&decide (e.text=q.vl) else
  if q.op=8\/q.op=9 then(q.a.any (fun x=> !D4 s e bs x)==decide (q.op=8)) else if q.op=10 then q.a.any (D4 s e bs) else q.b.any (dJ s bs):=by
 cases q;rw[D4,zf,ze];rfl
theorem Mx(k:Nat)(H:N7)(lo px:Nat)(u el:LV)(x y:Q)(a2:lo<=H.next)(hg:H.get px=cE u 1)(X:QR H lo k false u x)(O:QR H lo k false el y):
  CL prog t6 165 [.agg el.toArray,pT px] H=some (.bool (M6 y x),none):=by
 have a0:el.all oC=true:=F7 O;have z:=N5 X;have D:=N5 O;rw[X.len]at z;rw[O.len]at D;simp only[qSz,bF]at z D;obtain⟨S,E,-,g1,J⟩:=pushF H (bC el 1);have n1:=J.next;have W:=u7 hg;have gx:S.get px=cE u 1:=(J.get _ W).trans hg;have a1:H.next<=S.low:=by rw[E,l9];exact lR
 have U:=(im k).1 S lo el u y x oM (O.mono (fun j hj=>J.get j oM) lR) (X.mono (fun j hj=>J.get j oM) lR);rw[j7 Pi rfl _ sM];exact J7 a0 E.symm g1 gx z D U trivial
theorem yI(K:Nat)(H J:N7)(F:Nat->Prop)(lo:Nat)(Rt:LV->Q->Prop)(cs el:LV)(s:StD)(x:Q)(a5:lo<=H.next)(hF:∀j,F j->j<H.next) (X:∀j,j<lo->H.get j=J.get j) (hs:StF H F (QR J lo K false) Rt cs s) (hx:QR J lo K false el x) (hn:s.paths.length<=100000):
  CL prog t6 154 [.agg cs.toArray,.agg el.toArray] H=some (.int .i64 (jl s.paths x),none):=by
 obtain⟨pa,pc,ga,gc,ba,bc,ea,ec,ta,tc,E,h1,h2,h3,h4,h5⟩:=F1 hs;have a0:cs.all oC=true:=by rw[E];rfl
 have r1:cs[0]?=some (.slice pa s.paths.length pc):=by rw[E];rfl
 have a1:=F7 hx;obtain⟨u,z⟩:=eY ((N7.push ⟨H.bs,H.next⟩ (bC cs 1)).push (bC el 1));have n0:(N7.push ⟨H.bs,H.next⟩ (bC cs 1)).next=H.next+1:=by rw[i5];rfl
 have U:i6 H.next H u:=by rw[z];exact(i6.first H _).trans (i6.push oM)
 have g1:u.get H.next=cE cs 1:=by rw[z,i7 oM];exact j9
 have g2:u.get (H.next+1)=cE el 1:=by rw[z];exact y7 oM
 have a4:H.next<=u.low:=by rw[z,l9,l9];exact lR
 have a6:=U.next;have D:∀j,j<lo->u.get j=J.get j:=fun j hj=>by rw[U.get j oM,X j hj]
 have S:SlF u F 3 (QR u lo K false) (.slice pa s.paths.length pc) s.paths:=h1.mono (fun j hj=>U.get j (hF j hj)) (fun _ h=>h) (fun _ _ h=>h.mono D lR);have a2:QR u lo K false el x:=hx.mono D lR;have W:=nr (α:=Q) u F (QR u lo K false) (.func (.func 165) #[] #[pT (H.next+1)]) (fun y=>M6 y x) (.slice pa s.paths.length pc) s.paths S oM (fun i y O hy a3=>Mx K _ lo (H.next+1) el O x y (show lo<=u.next from oM) g2 (a2.mono (H:=u) (H':=⟨u.bs,u.next⟩) (fun _ _=>rfl) lR) (a3.mono (H:=u) (H':=⟨u.bs,u.next⟩) (fun _ _=>rfl) lR));rw[j7 Ph rfl _ sM];refine J6 a0 a1 z.symm g1 r1 W ?_;rfl
structure fB(Hs:N7)(lo K pn:Nat)(s:StD)(e:EvD)(bs:List Bool)(F:Nat->Prop)(H:N7):Prop where
 ex:∃rs re ba bc,H.get pn=some (.cells (rs++(re++[.slice ba bs.length bc])) true 1)/\StF H F (QR Hs lo K false) (QR Hs lo K true) rs s/\EvF H F re e/\SlF H F 1 (w9 rn) (.slice ba bs.length bc) bs
 lt:∀j,F j->j<H.next
 eq:∀j,j<lo->H.get j=Hs.get j
 lo:lo<=H.next
theorem fB.work{J:N7}{lo K E:Nat}{s:StD}{e:EvD}{bs:List Bool}{F:Nat->Prop}{H H':N7}(h:fB J lo K E s e bs F H)(z:i6 H.next H H'):fB J lo K E s e bs F H':=by
 obtain⟨⟨rs,re,U,W,O,X,h3,h4⟩,S,h6,h7⟩:=h;have hn:=z.next;have D:∀j,F j->H'.get j=H.get j:=fun j u=>z.get j (S j u);exact⟨⟨rs,re,U,W,(z.get E (u7 O)).trans O,X.mono D (fun _ h=>h) iF iF,y9 _ _ _ _ _ _ h3 D (fun _ h=>h),h4.mono D (fun _ h=>h) iF⟩,fun j u=>by have:=S j u;omega,fun j u=>by rw[z.get j oM];exact h6 j u,oM⟩
theorem fB.low{u:N7}{lo K z:Nat}{s:StD}{e:EvD}{bs:List Bool}{F:Nat->Prop}{H:N7}(h:fB u lo K z s e bs F H)(n:Nat):fB u lo K z s e bs F ⟨H.bs,n⟩:=by
 obtain⟨⟨rs,re,D,E,J,O,S,U⟩,W,X,h7⟩:=h;exact⟨⟨rs,re,D,E,J,O.mono (fun _ _=>rfl) (fun _ h=>h) iF iF,y9 _ _ _ _ _ _ S (fun _ _=>rfl) (fun _ h=>h),U.mono (fun _ _=>rfl) (fun _ h=>h) iF⟩,W,X,h7⟩
theorem Ar(z:N7)(F:Nat->Prop)(hF:∀j,F j->j<z.next) (pn px:Nat) (a2:LV) (g:z.get pn=cE a2 1) (kd:Int) (r8:a2[8]?=some (.int .i64 kd)) (nm:NmQ) (gx:z.get px=cE (nmE nm) 1) (va:Option Addr) (ca:Nat) (l:List AtD) (hv:SlF z F 3 (w9 atE) (.slice va l.length ca) l) (hn:l.length<=1000000) (r:ByteArray×Bool):
  ∀kk e H2,(∃i:Nat,kk=l.length-i/\i<=l.length/\e.get 0=pT pn/\e.get 3=pT px/\e.get 12= .slice va l.length ca/\e.get 13=iV l.length/\e.get 14=iV i/\i6 z.next z H2/\A7 kd nm (l.drop i)=r)->
  w7 (LE prog t6 (.loop KF) e H2) (fun o e H2=>i6 z.next z H2/\((o= .exit 0/\r=(eB,false))\/(o= .ret/\e.get 4= .string r.1/\e.get 5= .bool r.2))):=by
 refine i8 _ _ ?_;rintro kk e H2 ⟨i,hk,hi,f0,f3,O,D,S,U,E⟩;rcases b:decide ((i:Int)<l.length)with _|_
 .have a6:=dF b;have:l.drop i=[]:=dN oM;rw[this,A7]at E;refine J3 D S b ?_;exact i9 ⟨U,.inl ⟨rfl,E.symm⟩⟩
 have a6:=dT b;have b0:=U.next;have a7:=u7 g;have a8:=u7 gx;obtain⟨a,nb,o,cs,own,el,hx,hd,rfl,a5,hg,a9,a1,hc,rfl⟩:=hv.row (i:=i) oM;have nt:(i:Int).toNat=i:=tN i;have g2:=(U.get nb (hF _ a5)).trans hg;obtain⟨H3,X,n3,g3,s3⟩:=pushP H2 (bC [.string eB,.string eB,.string eB] 1) (bC [.string a.space,.string a.loc,.string a.val] 1);have a4:=(s3.get pn oM).trans ((U.get pn a7).trans g);have W:=(s3.get px oM).trans ((U.get px a8).trans gx);have u:ldC (some true) (some 3) (o+i*3) cs=some (.agg #[.string a.space,.string a.loc,.string a.val]):=a1;have a3:i6 z.next z H3:=U.trans (s3.weaken oM);rw[hd,A7]at E;rcases b2:L3 (a.space,a.loc) nm with _|_
 .simp only[b2,bF]at E;have J:(decide (a.space=nm.1)&&decide (a.loc=nm.2))=false:=b2;refine J13 f3 O D S b g2 nt u X.symm g3 W J @wrap_small ?_;exact i4 (kk-1) oM ⟨i+1,oM,oM,f0,f3,O,D,rfl,a3,E⟩
 .simp only[b2,if_true]at E;have J:(decide (a.space=nm.1)&&decide (a.loc=nm.2))=true:=b2;refine J15 f0 f3 O D S b g2 nt u X.symm g3 W J a4 r8 ?_;exact z9 ⟨a3,.inr ⟨rfl,by rw[<-E];rfl,by rw[<-E];rfl⟩⟩
theorem Mt(Hs:N7)(lo K pn:Nat)(s:StD)(e:EvD)(bs:List Bool)(F:Nat->Prop)(H:N7)(hN:fB Hs lo K pn s e bs F H)(nm:NmQ)(hl:e.attrs.length<=1000000):
  CL prog t6 135 [pT pn,.agg (nmE nm).toArray] H=some (.tuple #[.string (A7 e.kind nm e.attrs).1,.bool (A7 e.kind nm e.attrs).2],none):=by
 obtain⟨H1,S,-,gx,hS⟩:=pushF H (bC (nmE nm) 1);have D:H.next<=H1.low:=by rw[S,l9];exact lR
 have X:=hS.next;obtain⟨⟨rs,re,ba,bc,g,hs,⟨av,a1,W⟩,hb⟩,hF,_,_⟩:=hN.work hS;obtain⟨pa,pc,ga,gc,xa,xc,ea,ec,ta,tc,a2,_⟩:=F1 hs;obtain⟨J,O,rfl⟩:=W.slice;obtain⟨E,u⟩:=eY (rs++(re++[.slice ba bs.length bc]));rw[<-u]at g;have r8:E[8]?=some (.int .i64 e.kind):=by rw[u,a2,a1];rfl
 have a4:E[11]?=some (.slice J e.attrs.length O):=by rw[u,a2,a1];rfl
 rw[j7 Jq rfl _ sM];refine J3 S.symm g a4 ?_;refine j8 (F:=fun z=>u5 _ _ _ (u9 (inBlock 0 z) _)=_) (Ar H1 F hF pn H.next E g e.kind r8 nm gx J O e.attrs W hl (A7 e.kind nm e.attrs) e.attrs.length _ _ ⟨0,rfl,oM,rfl,rfl,rfl,rfl,rfl,i6.refl _ _,rfl⟩) ?_;rintro o e' H' ⟨U,⟨ho,hr⟩|⟨ho,h4,h5⟩⟩
 .have a3:=(U.weaken X).low D;exact J2 ho hr trivial
 .have a3:=(U.weaken X).low D;exact J3 ho h4 h5 trivial
theorem Mv(Hs:N7)(lo K pn:Nat)(s:StD)(e:EvD)(bs:List Bool)(F:Nat->Prop)(H:N7)(hN:fB Hs lo K pn s e bs F H)(hw:WfS s bs.length)(el:LV)(x:Q)(hx:QR Hs lo K false el x):
  CL prog t6 138 [pT pn,.agg el.toArray] H=some (.bool (dJ s bs x),none):=by
 have a1:=F7 hx;have S:=N5 hx;rw[hx.len]at S;simp only[qSz,bF]at S;obtain⟨H1,a2,-,gx,hS⟩:=pushF H (bC el 1);have d8:H.next<=H1.low:=by rw[a2,l9];exact lR
 have f1:=hS.next;obtain⟨⟨rs,re,ba,bc,g,hs,c4,hb⟩,hF,c3,c8⟩:=hN.work hS;have D:=yI K H1 Hs F lo _ rs el s x c8 hF c3 hs hx hw.l0;obtain⟨pa,pc,ga,gc,xa,xc,ea,ec,ta,tc,J,h1,h2,h3,_⟩:=F1 hs;obtain⟨av,O,e7⟩:=c4;obtain⟨U,u⟩:=eY (rs++(re++[.slice ba bs.length bc]));rw[<-u]at g;have f5:rs.length=8:=by rw[J];rfl
 have X:ldC (some true) (some 8) 0 U=some (.agg rs.toArray):=by rw[u,J,O];rfl
 have r1:U[1]?=some (.slice ga s.progs.length gc):=by rw[u,J,O];rfl
 have r2:U[2]?=some (.slice xa s.base.length xc):=by rw[u,J,O];rfl
 have d3:U[13]?=some (.slice ba bs.length bc):=by rw[u,J,O];rfl
 rw[j7 Pb rfl _ sM,dJ];have E:=dS (fun y=>M6 y x) s.paths 0;obtain⟨z,hz⟩:=eY (jl s.paths x);rw[<-hz]at D ⊢;rw[show ixG (fun y=>M6 y x) s.paths 0=z from hz.symm]at E;rcases b:decide (0<=z)with _|_
 .exact J8 a1 a2.symm gx g S X D b trivial
 have e8:=dT b;have b0:z.toNat<s.paths.length:=by rcases E with q|q<;>omega
 obtain⟨xb,nb,o,cs,own,b3,a8,_,rfl,e4,c5,d4,c9,b8,b5⟩:=h3.row (i:=z.toNat) (by rw[hw.l2];exact b0);obtain⟨xp,np,op,cp,d9,e3,a9,_,rfl,e5,c6,d5,d0,b9,b6⟩:=h2.row (i:=z.toNat) (by rw[hw.l1];exact b0);have a5:b3=inE xb:=b5;subst a5;obtain⟨_,_,_,_,a6,_⟩:=D5 b6;have a3:=b8 0 oM;have a4:=b9 1 oM;rw[a6]at a4;rw[Nat.add_zero]at a3;obtain⟨w1,w2,w3⟩:=hw.at_ z.toNat xp xb a9 a8;have f3:=w3.sa;have f4:=w3.st;have f2:=hw.nle;have eb:s.base.getD z.toNat 0=xb:=by rw[List.getD_eq_getElem?_getD,a8];rfl
 have ep:(s.progs.getD z.toNat ⟨0,0,0,[],[]⟩).sa=xp.sa:=by rw[List.getD_eq_getElem?_getD,a9];rfl
 rw[eb,ep,ax];obtain⟨W,nv,ov,cv,e2,b4,d2,_,rfl,e6,c7,d6,d1,c0,b7⟩:=hb.row (i:=(xb+xp.sa).toNat) oM;have a7:b4=rn W:=b7;subst a7;have b1:cv[ov+(xb+xp.sa).toNat*1]?=some (.int .u8 (if W=true then 1 else 0)):=by have:=c0 0 oM;rw[Nat.add_zero]at this;exact this
 have b2:bs.getD (xb+xp.sa).toNat false=W:=by rw[List.getD_eq_getElem?_getD,d2];rfl
 rw[b2];have e9:=hw.l1;have f0:=hw.l2;have e1:(if W=true then(1:Int) else 0)=if W then 1 else 0:=rfl;have db:decide ((if W=true then(1:Int) else 0)=1)=W:=by cases W<;>rfl
 exact J19 a1 a2.symm gx g S X D b r1 r2 d3 c5 a3 c6 a4 c7 b1 db @wrap_small trivial
theorem Mu(O:N7)(lo K U:Nat)(s:StD)(e:EvD)(bs:List Bool)(F:Nat->Prop)(k:Nat)(el:LV)(x:Q)(E:QR O lo k true el x)(H:N7)(a3:lo<=H.next)(a2:∀j,j<lo->H.get j=O.get j) (r:Bool) (D:∀H',i6 H.next H H'->CL prog t6 116 [pT U,.agg el.toArray] H'=some (.bool r,none)):
  CL prog t6 137 [pT U,.agg el.toArray] H=some (.bool (!r),none):=by
 have W:=F7 E;have u:=N5 E;rw[E.len]at u;simp only[qSz,if_true]at u;obtain⟨J,z,-,X,hS⟩:=pushF H (bC el 1);have S:H.next<=J.low:=by rw[z,l9];exact lR
 have h1:=D J hS;rw[j7 Pa rfl _ sM];exact J5 W z.symm X u h1 trivial
def qZ(Hs:N7)(lo K k:Nat):Prop:=∀(H:N7)(pn:Nat)(s:StD)(e:EvD)(bs:List Bool)(F:Nat->Prop)(cs:LV)(q:Q),fB Hs lo K pn s e bs F H->WfS s bs.length->e.attrs.length<=1000000->QR Hs lo k true cs q->
 CL prog t6 116 [pT pn,.agg cs.toArray] H=some (.bool (D4 s e bs q),none)
theorem xu(Hs:N7)(lo K k:Nat)(hk:k<=K)(ih:qZ Hs lo K k):qZ Hs lo K (k+1):=by
 intro H pn s e bs F cs q hN hw a7 hr;have D:=F7 hr;have l6:=hr.len;simp only[qSz,if_true]at l6;obtain⟨va,ca,wa,c9,W,h1,h2,h3,h4,_⟩:=hr.filter;have E:cs[0]?=some (.int .i64 q.op):=by rw[W];rfl
 have c3:cs[3]?=some (.string q.vl):=by rw[W];rfl
 have c4:cs[4]?=some (.slice va q.a.length ca):=by rw[W];rfl
 have c5:cs[5]?=some (.slice wa q.b.length c9):=by rw[W];rfl
 have a2:ldC (some true) (some 2) 1 cs=some (.agg (nmE (q.sp,q.lc)).toArray):=by rw[W];rfl
 have c8:ldC (some true) (some 2) 1 cs=some (.agg #[.string q.sp,.string q.lc]):=a2;obtain⟨X,u,-,J,hS⟩:=pushF H (bC cs 1);have d5:H.next<=X.low:=by rw[u,l9];exact lR
 have d8:=hS.next;have U:=hN.work hS;obtain⟨⟨rs,re,ba,bc,g,hs,⟨av,a8,d6⟩,hb⟩,hF,a4,d2⟩:=id U;obtain⟨pa,pc,ga,gc,xa,xc,ea,ec,ta,tc,a9,_⟩:=F1 hs;obtain⟨b0,O⟩:=eY (rs++(re++[.slice ba bs.length bc]));rw[<-O]at g;have S:b0[8]?=some (.int .i64 e.kind):=by rw[O,a9,a8];rfl
 have d3:b0[12]?=some (.string e.text):=by rw[O,a9,a8];rfl
 have d4:ldC (some true) (some 2) 9 b0=some (.agg #[.string e.space,.string e.loc]):=by rw[O,a9,a8];rfl
 have z:=Mt Hs lo K pn s e bs F X U (q.sp,q.lc) a7;have a6:=fun a b=>rm (P:=prog) 4 a b ty4.2.2.2.2.2.2.1;have a5:=nu (α:=Q) X (· <lo) (QR Hs lo k true) (.func (.func 137) #[pT pn] #[]) (fun x=> !D4 s e bs x) (.slice va q.a.length ca) q.a (SlF.mono (SlI.slF h1) (fun j hj=>a4 j hj) (fun _ h=>h) iF) h3 (fun i x el hx hR=>Mu Hs lo K pn s e bs F k el x hR ⟨X.bs,X.next⟩ d2 (fun j hj=>a4 j hj) _ (fun H' d1=>ih H' pn s e bs F el x ((U.low X.next).work d1) hw a7 hR));have c6:=nu (α:=Q) X (· <lo) (QR Hs lo k true) (.func (.func 116) #[pT pn] #[]) (D4 s e bs) (.slice va q.a.length ca) q.a (SlF.mono (SlI.slF h1) (fun j hj=>a4 j hj) (fun _ h=>h) iF) h3 (fun i x el hx hR=>ih _ pn s e bs F el x (U.low X.next) hw a7 hR);have c7:=nj (α:=Q) X (· <lo) (QR Hs lo k false) (.func (.func 138) #[pT pn] #[]) (dJ s bs) (.slice wa q.b.length c9) q.b (SlF.mono (SlI.slF h2) (fun j hj=>a4 j hj) (fun _ h=>h) iF) h4 (fun i x el hx hR=>Mv Hs lo K pn s e bs F _ (U.low X.next) hw el x (hR.upTo hk));rw[j7 ON rfl _ sM,qt];by_cases e1:q.op=1
 .rw[if_pos e1];exact J7 D u.symm J g S E e1 trivial
 rw[if_neg e1];have b1:decide (q.op=1)=false:=decide_eq_false e1;by_cases e2:q.op=2
 .rw[if_pos e2];exact J7 D u.symm J g S E e2 trivial
 rw[if_neg e2];have b2:decide (q.op=2)=false:=decide_eq_false e2;by_cases e3:q.op=3
 .rw[if_pos e3];exact J7 D u.symm J g S E e3 trivial
 rw[if_neg e3];have b3:decide (q.op=3)=false:=decide_eq_false e3;by_cases e4:q.op=4
 .rw[if_pos e4];rcases d:decide (e.kind=1)with _|_
  .exact J8 D u.symm J g S E e4 d trivial
  .exact J10 D u.symm J g S E e4 d d4 c8 trivial
 rw[if_neg e4];have b4:decide (q.op=4)=false:=decide_eq_false e4;by_cases e5:q.op=5
 .rw[if_pos e5];exact J9 D u.symm J g S E e5 a2 z trivial
 rw[if_neg e5];have b5:decide (q.op=5)=false:=decide_eq_false e5;by_cases e6:q.op=6
 .rw[if_pos e6];rcases d:(A7 e.kind (q.sp,q.lc) e.attrs).2 with _|_
  .rw[d]at z;exact J9 D u.symm J g S E e6 a2 z trivial
  .rw[d]at z;exact J10 D u.symm J g S E e6 a2 z c3 trivial
 rw[if_neg e6];have b6:decide (q.op=6)=false:=decide_eq_false e6;by_cases e7:q.op=7
 .rw[if_pos e7];rcases d:decide (e.kind=1)with _|_
  .exact J10 D u.symm J g S E e7 d d3 c3 trivial
  .exact J8 D u.symm J g S E e7 d trivial
 rw[if_neg e7];have b7:decide (q.op=7)=false:=decide_eq_false e7;by_cases e8:q.op=8
 .rw[if_pos (.inl e8)];exact J10 D u.symm J g S E e8 c4 a5 a6 trivial
 have b8:decide (q.op=8)=false:=decide_eq_false e8;by_cases e9:q.op=9
 .rw[if_pos (.inr e9)];exact J10 D u.symm J g S E e9 c4 a5 a6 trivial
 rw[if_neg (fun q=>q.elim e8 e9)];have b9:decide (q.op=9)=false:=decide_eq_false e9;by_cases a3:q.op=10
 .rw[if_pos a3];exact J9 D u.symm J g S E a3 c4 c6 trivial
 rw[if_neg a3];have d0:decide (q.op=10)=false:=decide_eq_false a3;exact J18 D u.symm J g S E b1 b2 b3 b4 b5 b6 b7 b8 b9 d0 c5 c7 trivial
theorem Bp(u:N7)(lo K:Nat):∀k,k<=K+1->qZ u lo K k:=by
 intro k;induction k with
 |zero=>intro _ H J s e bs F cs q _ _ _ z;exact z.elim
 |succ k D=>intro E;exact xu u lo K k oM (D oM)
theorem yO(Hs:N7)(lo K pn:Nat)(s:StD)(z:EvD)(bs:List Bool)(F:Nat->Prop)(u:N7)(hN:fB Hs lo K pn s z bs F u)(hw:WfS s bs.length)(a7:z.attrs.length<=1000000)(va:Option Addr)(ca:Nat)(l:List Q)(hv:SlF u F 6 (QR Hs lo K true) (.slice va l.length ca) l)(hn:l.length<=1000000):
  ∀kk e H2,(∃(i:Nat)(w:Value),kk=l.length-i/\i<=l.length/\e.get 9=pT pn/\e.get 10=w/\e.get 19= .slice va l.length ca/\e.get 20=iV l.length/\e.get 21=iV i/\i6 u.next u H2/\u6 H2 u.next 1 (w9 boE) w ((l.take i).map (D4 s z bs)))->
  w7 (LE prog t6 (.loop Ow) e H2) (fun o e H2=>o= .exit 0/\i6 u.next u H2/\∃w,e.get 10=w/\u6 H2 u.next 1 (w9 boE) w (l.map (D4 s z bs))):=by
 refine i8 _ _ ?_;rintro kk e H2 ⟨i,w,hk,hi,f9,E,J,D,O,hS,hO⟩;rcases b:decide ((i:Int)<l.length)with _|_
 .have a8:=dF b;have:l.take i=l:=List.take_of_length_le oM;rw[this]at hO;refine J3 D O b ?_;exact i9 ⟨rfl,hS,w,E,hO⟩
 have a8:=dT b;have b3:=hS.next;obtain⟨x,nb,o,cs,own,el,hx,hd,rfl,a2,hg,b2,U,hc,hR⟩:=hv.row (i:=i) oM;have nt:(i:Int).toNat=i:=tN i;have g2:=(hS.get nb (hN.lt _ a2)).trans hg;have a1:=F7 hR;have e1:=hR.len;simp only[qSz,if_true]at e1;have W:=N5 hR;rw[e1]at W;obtain⟨H3,a4,n3,g3,s3⟩:=pushP H2 (bC [iV 0,.string eB,.string eB,.string eB,nS,nS] 1) (bC el 1);have b1:splice [iV 0,.string eB,.string eB,.string eB,nS,nS] 0 el=el:=x9 _ _ (by rw[e1];rfl);have X:i6 u.next u H3:=hS.trans (s3.weaken oM);have a9:=Bp Hs lo K K oM H3 pn s z bs F el x (hN.work X) hw a7 hR;have b0:(l.take (i+1)).map (D4 s z bs)=(l.take i).map (D4 s z bs)++[D4 s z bs x]:=by rw[List.take_add_one,hx,List.map_append];rfl
 obtain⟨w4,h4,H4,a6,S,a5,a3⟩:=(hO.keep s3).push1F (P:=prog) (t:=83) (cs:=boE (D4 s z bs x)) (a:=D4 s z bs x) (by exact Ja.2.2.2.2.2.2) ty4.1 ty4.2.1 ty4.2.2.1 oM oM rfl rfl (by simp;omega) oM;refine J19 f9 E J D O b g2 nt U a1 e1 b1 a4.symm g3 W a9 a6 S @wrap_small ?_;exact i4 (kk-1) oM ⟨i+1,w4,oM,oM,f9,rfl,J,D,rfl,X.trans a3.stay,by rw[b0];exact a5⟩
theorem Ql(Hs:N7)(lo K:Nat)(s:StD)(p:PrD)(ev:EvD)(bs:List Bool)(F:Nat->Prop)(H:N7)(D rp O:LV)(ba:Option Addr)(bc:Nat)(hs:StF H F (QR Hs lo K false) (QR Hs lo K true) D s)(hp:PrF H F (QR Hs lo K true) rp p)(he:EvF H F O ev)(hb:SlF H F 1 (w9 rn) (.slice ba bs.length bc) bs)
  (hF:∀j,F j->j<H.next) (b8:∀j,j<lo->H.get j=Hs.get j) (d0:lo<=H.next) (hw:WfS s bs.length) (b6:ev.attrs.length<=1000000) (hn:p.ts.length<=1000000):
  L8 (CL prog t6 93 [.agg D.toArray,.agg rp.toArray,.agg O.toArray,.slice ba bs.length bc] H) H 1 (w9 boE) (p.ts.map (D4 s ev bs)):=by
 obtain⟨pa,pc,ga,gc,xa,xc,ea,ec,ta,tc,X,_⟩:=F1 hs;obtain⟨c8,c9,a5,a6,b2,d1,c0⟩:=D5 hp;obtain⟨av,W,b7⟩:=id he;obtain⟨c6,c7,rfl⟩:=b7.slice;have a8:D.all oC=true:=by rw[X];rfl
 have ap:rp.all oC=true:=by rw[b2];rfl
 have ae:O.all oC=true:=by rw[W];rfl
 have ls:D.length=8:=by rw[X];rfl
 have le:O.length=5:=by rw[W];rfl
 have c4:ldC (some true) (some 8) 0 D=some (.agg D.toArray):=by rw[X];rfl
 have c3:ldC (some true) (some 5) 0 O=some (.agg O.toArray):=by rw[W];rfl
 have p4:rp[4]?=some (.slice a5 p.ts.length a6):=by rw[b2];rfl
 obtain⟨U,u⟩:=eY (((N7.push ⟨H.bs,H.next⟩ (bC D 1)).push (bC rp 1)).push (bC O 1));have n0:(N7.push ⟨H.bs,H.next⟩ (bC D 1)).next=H.next+1:=by rw[i5];rfl
 have c5:((N7.push ⟨H.bs,H.next⟩ (bC D 1)).push (bC rp 1)).next=H.next+2:=by rw[i5,n0]
 have na:U.next=H.next+3:=by rw[u,i5,c5]
 have sa:i6 H.next H U:=by rw[u];exact((i6.first H _).trans (i6.push oM)).trans (i6.push oM)
 have g1:U.get H.next=cE D 1:=by rw[u,i7 oM,i7 oM];exact j9
 have g2:U.get (H.next+1)=cE rp 1:=by rw[u,i7 oM];exact y7 oM
 have g3:U.get (H.next+2)=cE O 1:=by rw[u];exact y7 oM
 have b0:H.next<=U.low:=by rw[u,l9,l9,l9];exact lR
 obtain⟨a4,J⟩:=eY (D++(O++[.slice ba bs.length bc]));have a7:a4.all oC=true:=by rw[J,List.all_append,List.all_append,a8,ae];rfl
 obtain⟨S,E,-,b5,-⟩:=pushE U (bC a4 1);have n1:S.next=H.next+4:=by rw[E,i5,na]
 have s1:i6 H.next H S:=by rw[E];exact sa.trans (i6.push oM)
 have a3:H.next<=S.low:=by rw[E,l9];exact b0
 have b4:S.get (H.next+1)=cE rp 1:=by rw[E,i7 oM];exact g2
 have hg:∀j,F j->S.get j=H.get j:=fun j hj=>s1.get j (hF j hj);have hN:fB Hs lo K U.next s ev bs F S:=⟨⟨D,O,ba,bc,by rw[<-J];exact b5,hs.mono hg (fun _ h=>h) iF iF,y9 _ _ _ _ _ _ he hg (fun _ h=>h),hb.mono hg (fun _ h=>h) iF⟩,fun j hj=>by have:=hF j hj;omega,fun j hj=>by rw[s1.get j oM];exact b8 j hj,oM⟩
 obtain⟨a1,hA⟩:=eY (splice [nS,nS,nS,iV 0,iV 0,iV 0,nS,nS,iV 0,.string eB,.string eB,nS,.string eB,nS] 0 D);obtain⟨a2,hB⟩:=eY (splice a1 8 O);have lA:a1.length=14:=by rw[hA,E3];rfl
 have lB:a2.length=14:=by rw[hB,E3];exact lA
 have eC:a2.set 13 (.slice ba bs.length bc)=a4:=by rw[hB,hA,J,X,W];rfl
 rw[j7 Ld rfl _ sM];refine J19 a8 ap ae u.symm g1 g3 c4 c3 ls le hA.symm lA hB.symm lB eC a7 E.symm b4 p4 ?_;have b1:SlF S F 6 (QR Hs lo K true) (.slice a5 p.ts.length a6) p.ts:=c0.mono hg (fun _ h=>h) iF;refine j8 (F:=fun z=>L8 (u5 _ _ _ (u9 (inBlock 0 z) _)) _ _ _ _) (yO Hs lo K U.next s ev bs F S hN hw b6 a5 a6 p.ts b1 hn p.ts.length _ _ ⟨0,nS,rfl,oM,rfl,rfl,rfl,rfl,rfl,i6.refl _ _,u6.nil⟩) ?_;rintro o e' H2 ⟨ho,a9,w,b3,hO⟩;refine J2 ho b3 ?_;have b9:=(a9.weaken (show H.next<=S.next from oM)).low a3;exact F0 (hO.weaken oM) (s1.trans (a9.weaken oM)) b9
theorem sf(u:N7)(F:Nat->Prop)(hF:∀j,F j->j<u.next) (Rt:LV->Q->Prop) (va:Option Addr) (ca:Nat) (l:List PrD) (hv:SlF u F 5 (PrF u F Rt) (.slice va l.length ca) l) (hn:l.length<=100000) (hb:∀p∈l,0<=p.st/\p.st<=1000000) (r:Int):
  ∀X e H2,(∃(i:Nat)(n:Int),X=l.length-i/\i<=l.length/\0<=n/\n<=1000000*i/\e.get 3=iV n/\e.get 7= .slice va l.length ca/\e.get 8=iV l.length/\e.get 9=iV i/\i6 u.next u H2/\(l.drop i).foldl (fun n p=>n+p.st) n=r)->
  w7 (LE prog t6 (.loop NX) e H2) (fun o e H2=>i6 u.next u H2/\o= .exit 0/\e.get 3=iV r):=by
 refine i8 _ _ ?_;rintro X e H2 ⟨i,n,hk,hi,a5,a6,f3,f7,J,f9,E,D⟩;rcases b:decide ((i:Int)<l.length)with _|_
 .have W:=dF b;have:l.drop i=[]:=dN oM;rw[this,List.foldl_nil]at D;refine J3 J f9 b ?_;exact i9 ⟨E,rfl,by rw[<-D];exact f3⟩
 have W:=dT b;have a7:=E.next;obtain⟨x,nb,o,cs,own,el,hx,hd,rfl,O,hg,a4,z,hc,U⟩:=hv.row (i:=i) oM;have nt:(i:Int).toNat=i:=tN i;have a3:=hb x (mG hx);have g2:=(E.get nb (hF _ O)).trans hg;have a1:=gU U;have l1:=Tq U;have e0:el[0]?=some (.int .i64 x.st):=by obtain⟨_,_,_,_,rfl,_⟩:=D5 U;rfl
 obtain⟨H3,S,n3,g3,s3⟩:=pushP H2 (bC z5 1) (bC el 1);have a2:splice z5 0 el=el:=x9 _ _ (by rw[l1];rfl);rw[hd,List.foldl_cons]at D;refine J15 f3 f7 J f9 b g2 nt z a1 l1 a2 S.symm g3 e0 @wrap_small ?_;exact i4 (X-1) oM ⟨i+1,n+x.st,oM,oM,oM,oM,rfl,f7,J,rfl,E.trans (s3.weaken oM),D⟩
theorem Qi(H:N7)(F:Nat->Prop)(Rp S:LV->Q->Prop)(cs:LV)(s:StD)(hF:∀j,F j->j<H.next) (hs:StF H F Rp S cs s) (hn:s.progs.length<=100000) (hb:∀p∈s.progs,0<=p.st/\p.st<=1000000):CL prog t6 71 [.agg cs.toArray] H=some (.int .i64 (A0 s.progs),none):=by
 obtain⟨pa,pc,U,W,ba,bc,ea,ec,ta,tc,D,h1,h2,h3,h4,h5⟩:=F1 hs;have a0:cs.all oC=true:=by rw[D];rfl
 have r1:cs[1]?=some (.slice U s.progs.length W):=by rw[D];rfl
 obtain⟨O,u,-,hg,hS⟩:=pushF H (bC cs 1);have J:H.next<=O.low:=by rw[u,l9];exact lR
 have a2:=hS.next;have X:SlF O F 5 (PrF O F S) (.slice U s.progs.length W) s.progs:=h2.mono (fun j E=>hS.get j (hF j E)) (fun _ h=>h) (fun _ _ h=>h.mono (fun j E=>hS.get j (hF j E)) (fun _ h=>h) iF);rw[j7 Pz rfl _ sM];refine J4 a0 u.symm hg r1 ?_;refine j8 (F:=fun z=>u5 _ _ _ (u9 (inBlock 0 z) _)=_) (sf O F (fun j E=>by have:=hF j E;omega) S U W s.progs X hn hb (A0 s.progs) s.progs.length _ _ ⟨0,0,rfl,oM,oM,oM,rfl,rfl,rfl,rfl,i6.refl _ _,rfl⟩) ?_;rintro o e' H' ⟨a1,ho,h3⟩;have a3:=(a1.weaken a2).low J;exact J2 ho h3 trivial
abbrev SoD:Type:=Bool×Bool×ByteArray
def ii(x:SoD)(n:Int):Bool:=x.1&&decide (A3 x.2.2 n.toNat=1)
def bJ(x:SoD)(n:Nat):Prop:=x.1=true->x.2.2.size=n
theorem FD(H:N7)(x:SoD)(n:Int)(m:Nat)(O:bJ x m)(S:0<=n)(U:n<m):CL prog t6 117 [.agg (soE x).toArray,iV n] H=some (.bool (ii x n),none):=by
 obtain⟨h,t,b⟩:=x;obtain⟨E,u,-,z,-⟩:=pushF H (bC [.bool h,.bool t,.string b] 1);have D:H.next<=E.low:=by rw[u,l9];exact lR
 rw[j7 OO rfl _ sM,ii];cases h with
 |false=>simp(maxSteps:=20000000) -dsimp (disch:=first|omega|(simp only[rH]<;>omega)|fail) only[↓ig,rQ,N3,sevalprocAttr,tyA,<-u,z]
 |true=>
  have J:b.size=m:=O rfl;exact J2 u.symm z trivial
abbrev EdD:Type:=Int×Int×Int×Int
def kj(fi ne:SoD)(hs bs:List Bool)(b:Int)(x:EdD):Bool:=if x.2.2.1=1 then ii fi (b+x.2.1) else if x.2.2.1=2 then ii ne (b+x.2.1) else if x.2.2.1=3 then hs.getD x.2.2.2.toNat false&&ax bs (b+x.2.1) else ax bs (b+x.2.1)
def T5(fi ne:SoD)(hs:List Bool)(b:Int):List EdD->List Bool×Bool->List Bool×Bool
 |[],z=>z
 |x::l,z=>T5 fi ne hs b l (if !ax z.1 (b+x.1)&&kj fi ne hs z.1 b x then(z.1.set (b+x.1).toNat true,true) else z)
def itE(fi ne:SoD)(hs:List Bool)(b:Int)(l:List EdD):Nat->List Bool->List Bool
 |0,bs=>bs
 |n+1,bs=>if(T5 fi ne hs b l (bs,false)).2 then itE fi ne hs b l n (T5 fi ne hs b l (bs,false)).1 else(T5 fi ne hs b l (bs,false)).1
def ay(bs:List Bool):Nat:=(bs.filter (fun b=> !b)).length
theorem mJ:∀(bs:List Bool)(i:Nat),i<bs.length->bs.getD i false=false->ay (bs.set i true)+1=ay bs
 |[],i,h,_=>by simp at h
 |b::bs,0,_,h=>by
  have:b=false:=by simpa using h
  subst this;simp [ay]
 |b::bs,i+1,h,h2=>by
  have:=mJ bs i (by simpa using h) (by simpa using h2);cases b<;>simp [ay]at this ⊢ <;>omega
theorem ef(fi ne:SoD)(u:List Bool)(b:Int):∀(l:List EdD)(z:List Bool×Bool),(T5 fi ne u b l z).1.length=z.1.length
 |[],z=>rfl
 |x::l,z=>by
  rw[T5,ef fi ne u b l];split
  .simp
  .rfl
theorem dZ(fi ne:SoD)(u:List Bool)(b:Int):∀(l:List EdD)(z:List Bool×Bool),(∀x∈l,0<=b+x.1/\b+x.1<z.1.length)->ay (T5 fi ne u b l z).1<=ay z.1/\((T5 fi ne u b l z).2=true->z.2=true\/ay (T5 fi ne u b l z).1<ay z.1)
 |[],z,_=>⟨lR,fun h=> .inl h⟩
 |x::l,z,h=>by
  rw[T5];have O:=h x sM;rcases E:(!ax z.1 (b+x.1)&&kj fi ne u z.1 b x)with _|_
  .simp only[bF];exact dZ fi ne u b l z fun y D=>h y (by simp [D])
  .simp only[if_true];simp only[Bool.and_eq_true,Bool.not_eq_true']at E;have J:=mJ z.1 (b+x.1).toNat oM E.1;have:=dZ fi ne u b l (z.1.set (b+x.1).toNat true,true) fun y D=>by have:=h y (by simp [D]);simp;omega
   refine⟨by have:=this.1;simp only at this;omega,fun _=> .inr (by have:=this.1;simp only at this;omega)⟩
theorem rZ(fi ne:SoD)(u:List Bool)(b:Int)(l:List EdD):∀(n:Nat)(bs:List Bool),(itE fi ne u b l n bs).length=bs.length
 |0,bs=>rfl
 |n+1,bs=>by
  rw[itE];split
  .rw[rZ fi ne u b l n,ef]
  .rw[ef]
def aV(s:StD)(e:EvD)(fi ne:SoD)(p:PrD)(b:Int)(bs:List Bool):List Bool:=
 itE fi ne (p.ts.map (D4 s e bs)) b p.ed (ay (bs.set (b+p.en).toNat true)+1) (bs.set (b+p.en).toNat true)
def W9(s:StD)(e:EvD)(fi ne:SoD):List (PrD×Int)->List Bool->List Bool
 |[],bs=>bs
 |x::l,bs=>W9 s e fi ne l (aV s e fi ne x.1 x.2 bs)
def kz(bs:List Bool):ByteArray:=⟨(bs.map fun b=>if b then(1:UInt8) else 0).toArray⟩
def I4(s:StD)(e:EvD)(fi ne:SoD):SoD:=(true,decide (e.kind=2),kz (W9 s e fi ne (s.progs.zip s.base) (List.replicate (A0 s.progs).toNat false)))
structure P3(Hs:N7)(lo K pm pb:Nat)(s:StD)(e:EvD)(fi ne:SoD)(bs:List Bool)(F:Nat->Prop)(H:N7):Prop where
 ex:∃rs re bc,H.get pm=some (.cells (rs++(re++(soE fi++(soE ne++[.slice (some ⟨pb,0,none⟩) bs.length bc])))) true 1)/\StF H F (QR Hs lo K false) (QR Hs lo K true) rs s/\EvF H F re e
 bits:H.get pb=cE (bs.map an) 1
 lt:∀j,F j->j<H.next/\j≠pb
 eq:∀j,j<lo->H.get j=Hs.get j
 lo:lo<=pb
 ne:pm≠pb
section
variable{Hs:N7}{lo K pm pb:Nat}{s:StD}{e:EvD}{fi ne:SoD}{bs:List Bool}{F:Nat->Prop}{H H':N7}
theorem P3.pbl(h:P3 Hs lo K pm pb s e fi ne bs F H):pb<H.next:=u7 h.bits
theorem P3.work(h:P3 Hs lo K pm pb s e fi ne bs F H)(u:i6 H.next H H'):P3 Hs lo K pm pb s e fi ne bs F H':=by
 have D:=h.pbl;obtain⟨⟨rs,re,S,E,U,W⟩,X,J,h6,h7,h8⟩:=h;have hn:=u.next;have O:∀j,F j->H'.get j=H.get j:=fun j z=>u.get j (J j z).1;exact⟨⟨rs,re,S,(u.get pm (u7 E)).trans E,U.mono O (fun _ h=>h) iF iF,y9 _ _ _ _ _ _ W O (fun _ h=>h)⟩,(u.get pb D).trans X,fun j z=>by have:=J j z;omega,fun j z=>by rw[u.get j oM];exact h6 j z,h7,h8⟩
theorem P3.set(h:P3 Hs lo K pm pb s e fi ne bs F H)(i:Nat):P3 Hs lo K pm pb s e fi ne (bs.set i true) F (H.put pb (.cells ((bs.map an).set i (an true)) true 1)):=by
 have D:=h.pbl;obtain⟨⟨rs,re,O,S,U,W⟩,h4,z,X,h7,E⟩:=h;have J:∀j,F j->(H.put pb (.cells ((bs.map an).set i (an true)) true 1)).get j=H.get j:=fun j u=>j6 (fun q=>(z j u).2 q.symm);refine⟨⟨rs,re,O,by rw[j6 (fun q=>E q.symm),List.length_set];exact S,U.mono J (fun _ h=>h) iF iF,y9 _ _ _ _ _ _ W J (fun _ h=>h)⟩,by rw[j5 D,List.map_set],fun j u=>⟨by rw[t5];exact(z j u).1,(z j u).2⟩,fun j u=>by rw[j6 oM];exact X j u,h7,E⟩
theorem P3.row(h:P3 Hs lo K pm pb s e fi ne bs F H):∃E J O u,H.get pm=cE u 1/\u=E++(J++(soE fi++(soE ne++[sL pb bs.length O])))/\u.length=20/\StF H F (QR Hs lo K false) (QR Hs lo K true) E s/\EvF H F J e/\
  ldC (some true) (some 8) 0 u=some (.agg E.toArray)/\ldC (some true) (some 5) 8 u=some (.agg J.toArray)/\ldC (some true) (some 3) 13 u=some (.agg (soE fi).toArray)/\ldC (some true) (some 3) 16 u=some (.agg (soE ne).toArray)/\u[19]?=some (sL pb bs.length O)/\
  (∀k,k<8->u[k]?=E[k]?)/\u[8]?=some (.int .i64 e.kind):=by
 obtain⟨⟨E,J,O,W,S,U⟩,_⟩:=h;obtain⟨pa,pc,ga,gc,xa,xc,ea,ec,ta,tc,z,_⟩:=F1 S;obtain⟨av,D,_⟩:=id U;have X:E.length=8:=by rw[z];rfl
 refine⟨E,J,O,_,W,rfl,by rw[z,D];rfl,S,U,by rw[z,D];rfl,by rw[z,D];rfl,by rw[z,D];rfl,by rw[z,D];rfl,by rw[z,D];rfl,fun k hk=>List.getElem?_append_left oM,by rw[z,D];rfl⟩
theorem zi{i:Nat}(u:i<bs.length):(bs.map an)[i*1]?=some (.int .u8 (if bs.getD i false=true then 1 else 0)):=by
 rw[Nat.mul_one,List.getElem?_map,List.getElem?_eq_getElem u,List.getD_eq_getElem?_getD,List.getElem?_eq_getElem u];rfl
end
theorem MU(b:Bool):decide ((if b=true then(1:Int) else 0)=1)=b:=by cases b<;>rfl
theorem Qm(Hs:N7)(lo K pm pb:Nat)(s:StD)(e:EvD)(fi ne:SoD)(bs:List Bool)(F:Nat->Prop)(H:N7)(hK:P3 Hs lo K pm pb s e fi ne bs F H)(h1:bJ fi bs.length)(h2:bJ ne bs.length)(c3:bs.length<=1000000)(b:Int)(x:EdD)(ha:Option Addr)(hc:Nat)(J:List Bool)(F2:Nat->Prop)(a5:∀j,F2 j->j<H.next) (hh:SlF H F2 1 (w9 boE) (.slice ha J.length hc) J)
  (hb:0<=b/\b<=1000000) (hx:0<=x.2.1/\b+x.2.1<bs.length) (h3:x.2.2.1=3->0<=x.2.2.2/\x.2.2.2<J.length):
  CL prog t6 94 [pT pm,iV b,.agg (edE x).toArray,.slice ha J.length hc] H=some (.bool (kj fi ne J bs b x),none):=by
 obtain⟨x0,x1,O,x3⟩:=x;simp only at hx h3;obtain⟨X,E⟩:=eY (edE (x0,x1,O,x3));rw[<-E];have U:X.all oC=true:=by rw[E];rfl
 have z:X[1]?=some (.int .i64 x1):=by rw[E];rfl
 have D:X[2]?=some (.int .i64 O):=by rw[E];rfl
 have a1:X[3]?=some (.int .i64 x3):=by rw[E];rfl
 obtain⟨H1,u,-,hg,hS⟩:=pushF H (bC X 1);have b7:H.next<=H1.low:=by rw[u,l9];exact lR
 have a2:=hK.work hS;obtain⟨rs,re,bc,c6,g,b8,b9,c5,_,_,_,b5,b6,a4,_,_⟩:=a2.row;have gb:=a2.bits;have bg:=zi (bs:=bs) (i:=(b+x1).toNat) oM;have g1:=FD H1 fi (b+x1) bs.length h1 oM oM;have g2:=FD H1 ne (b+x1) bs.length h2 oM oM;have bl:(bs.map an).length=bs.length:=sM;rw[j7 Rb rfl _ sM,kj];simp only;by_cases e1:O=1
 .rw[if_pos e1];exact J10 U z D u.symm hg e1 g b5 g1 @wrap_small trivial
 rw[if_neg e1];have b1:decide (O=1)=false:=decide_eq_false e1;by_cases e2:O=2
 .rw[if_pos e2];exact J10 U z D u.symm hg e2 g b6 g2 @wrap_small trivial
 rw[if_neg e2];have b2:decide (O=2)=false:=decide_eq_false e2;by_cases S:O=3
 .rw[if_pos S];obtain⟨t1,t2⟩:=h3 S;have a9:SlF H1 F2 1 (w9 boE) (.slice ha J.length hc) J:=hh.mono (fun j hj=>hS.get j (a5 j hj)) (fun _ h=>h) iF;obtain⟨v,nb,o,cs,own,el,b4,_,rfl,c0,a3,c4,b0,a7,a6⟩:=a9.row (i:=x3.toNat) oM;have a8:el=boE v:=a6;subst a8;have W:cs[o+x3.toNat*1]?=some (.bool v):=by have:=a7 0 oM;rw[Nat.add_zero]at this;exact this
  have ev:J.getD x3.toNat false=v:=by rw[List.getD_eq_getElem?_getD,b4];rfl
  rw[ev,ax];cases v with
  |false=>simp(maxSteps:=20000000) -dsimp (disch:=first|omega|(simp only[rH]<;>omega)|fail) only[↓ig,rQ,N3,sevalprocAttr,tyA,U,z,D,a1,<-u,hg,S,a3,W,wrap_small]
  |true=>
   exact J15 U z D a1 u.symm hg S a3 W g a4 gb bg @MU @wrap_small trivial
 rw[if_neg S];have b3:decide (O=3)=false:=decide_eq_false S;rw[ax];exact J14 U z D u.symm hg b1 b2 b3 g a4 gb bg @MU @wrap_small trivial
theorem dD(x:Operand):isCall (.nilCheck x)=false:=rT
theorem ED(u D:SoD)(z:List Bool)(b:Int)(l:List EdD):∀(n m:Nat)(bs:List Bool),(∀x∈l,0<=b+x.1/\b+x.1<bs.length)->ay bs+1<=n->n<=m->itE u D z b l m bs=itE u D z b l n bs:=by
 intro n;induction n with
 |zero=>intro m bs _ h;omega
 |succ n X=>
  intro m bs J h1 h2;obtain⟨E,rfl⟩:∃E,m=E+1:=⟨m-1,oM⟩
  have S:=dZ u D z b l (bs,false) J;rw[itE,itE];rcases U:(T5 u D z b l (bs,false)).2 with _|_
  .rfl
  .simp only[if_true];have O:=S.2 U;simp only[Bool.false_eq_true,false_or]at O;exact X E _ (fun x W=>by rw[ef];exact J x W) oM oM
structure Fr1(pb:Nat)(H H':N7):Prop where
 stay:i6 pb H H'
 but:∀j,j<H.next->j≠pb->H'.get j=H.get j
 low:H'.low<=H.low
theorem Fr1.refl(u:Nat)(H:N7):Fr1 u H H:=⟨i6.refl _ _,fun _ _ _=>rfl,lR⟩
theorem Fr1.trans{u:Nat}{A B C:N7}(h:Fr1 u A B)(k:Fr1 u B C):Fr1 u A C:=⟨h.stay.trans k.stay,fun j D z=>by rw[k.but j (oN (h.stay.next)) z,h.but j D z],Nat.le_trans k.low h.low⟩
theorem Fr1.of{u:Nat}{H H':N7}(h:i6 H.next H H')(E:u<=H.next)(D:H'.low<=H.low):Fr1 u H H':=⟨h.weaken E,fun j z _=>h.get j z,D⟩
theorem Fr1.put{u:Nat}{H:N7}{B:Blk}:Fr1 u H (H.put u B):=⟨i6.put lR,fun j _ z=>j6 (fun q=>z q.symm),by rw[A4];omega⟩
theorem Cd(Hs:N7)(lo K pm J:Nat)(s:StD)(ev:EvD)(fi ne:SoD)(F:Nat->Prop)(W:N7)(n:Nat)(hn:n<=1000000)(b7:bJ fi n)(c0:bJ ne n)(b:Int)(hb:0<=b/\b<=1000000)(c4:J<W.next)(pc:Nat)(rp:LV)(c7:W.get pc=cE rp 1)(d2:pc≠J)
  (ha:Option Addr) (hc:Nat) (X:List Bool) (F2:Nat->Prop) (a7:∀j,F2 j->j<W.next/\j≠J) (hh:SlF W F2 1 (w9 boE) (.slice ha X.length hc) X)
  (va:Option Addr) (ca:Nat) (l:List EdD) (hv:SlF W F 4 (w9 edE) (.slice va l.length ca) l) (hF:∀j,F j->j<W.next/\j≠J) (hl:l.length<=1000000) (hw:∀x∈l,0<=x.1/\b+x.1<n/\0<=x.2.1/\b+x.2.1<n/\(x.2.2.1=3->0<=x.2.2.2/\x.2.2.2<X.length)) (r:List Bool×Bool):
  ∀kk e H2,(∃(j:Nat)(bs:List Bool)(m:Bool),kk=l.length-j/\j<=l.length/\e.get 0=pT pm/\e.get 4=pT pc/\e.get 5=iV b/\e.get 6= .slice ha X.length hc/\e.get 7= .bool m/\e.get 51= .slice va l.length ca/\e.get 52=iV l.length/\e.get 53=iV j/\bs.length=n/\P3 Hs lo K pm J s ev fi ne bs F H2/\Fr1 J W H2/\T5 fi ne X b (l.drop j) (bs,m)=r)->
  w7 (LE prog t6 (.loop NY) e H2) (fun o e H2=>o= .exit 2/\e.get 0=pT pm/\e.get 4=pT pc/\e.get 5=iV b/\e.get 6= .slice ha X.length hc/\e.get 7= .bool r.2/\r.1.length=n/\P3 Hs lo K pm J s ev fi ne r.1 F H2/\Fr1 J W H2):=by
 refine i8 _ _ ?_;rintro kk e H2 ⟨j,bs,m,hk,hj,f0,f4,f5,f6,f7,D,u,a4,E,hK,a5,O⟩;rcases bb:decide ((j:Int)<l.length)with _|_
 .have b6:=dF bb;have:l.drop j=[]:=dN oM;rw[this,T5]at O;refine J3 u a4 bb ?_;exact i9 ⟨rfl,f0,f4,f5,f6,by rw[<-O];exact f7,by rw[<-O];exact E,by rw[<-O];exact hK,a5⟩
 have b6:=dT bb;have d1:=a5.stay.next;have c5:=hK.pbl;obtain⟨x,nb,o,cs,own,el,hx,hd,rfl,b3,hg,c9,U,c8,z⟩:=hv.row (i:=j) oM;have z:el=edE x:=z;obtain⟨w1,w2,w3,w4,w5⟩:=hw x (mG hx);have nt:(j:Int).toNat=j:=tN j;have gx:=(a5.but nb (hF _ b3).1 (hF _ b3).2).trans hg;have a1:el.all oC=true:=by rw[z];rfl
 have l1:el.length=4:=by rw[z];rfl
 have e0:el[0]?=some (.int .i64 x.1):=by rw[z];rfl
 have b4:ldC (some true) (some 4) 0 el=some (.agg el.toArray):=by rw[z];rfl
 obtain⟨H3,a6,n3,g3,s3⟩:=pushP H2 (bC [iV 0,iV 0,iV 0,iV 0] 1) (bC el 1);have b2:splice [iV 0,iV 0,iV 0,iV 0] 0 el=el:=x9 _ _ (by rw[l1];rfl);have K3:=hK.work s3;have a2:Fr1 J W H3:=a5.trans (Fr1.of s3 oM (by rw[a6,A4,l9];omega));obtain⟨rs,re,bc,d6,gp,c3,c6,d3,_,_,_,d4,d5,a9,_,_⟩:=K3.row;have gb:=K3.bits;have bg:=zi (bs:=bs) (i:=(b+x.1).toNat) oM;have bl:(bs.map an).length=bs.length:=sM;have b8:SlF H3 F2 1 (w9 boE) (.slice ha X.length hc) X:=hh.mono (fun j hj=>a2.but j (a7 j hj).1 (a7 j hj).2) (fun _ h=>h) iF;have S:=Qm Hs lo K pm J s ev fi ne bs F H3 K3 (by rw[E];exact b7) (by rw[E];exact c0) oM b x ha hc X F2 (fun j hj=>by have:=a7 j hj;omega) b8 hb ⟨w3,oM⟩ w5;rw[<-z]at S;rw[hd,T5]at O;have h0:0<=b+x.1:=oM;have d0:b+x.1<bs.length:=oM;rcases b0:bs.getD (b+x.1).toNat false with _|_
 .have a3:ax bs (b+x.1)=false:=b0;rw[b0]at bg;rcases b1:kj fi ne X bs b x with _|_
  .rw[b1]at S;simp only[a3,b1,Bool.not_false,Bool.true_and,bF]at O;refine J23 f0 f5 f6 D u a4 bb gx nt U a1 l1 b2 a6.symm g3 e0 gp a9 gb bg b4 S @wrap_small ?_;exact i4 (kk-1) oM ⟨j+1,bs,m,oM,oM,f0,f4,f5,f6,f7,D,u,rfl,E,K3,a2,O⟩
  .rw[b1]at S;simp only[a3,b1,Bool.not_false,Bool.and_self,if_true]at O;obtain⟨H4,a8⟩:=eY (H3.put J (.cells ((bs.map an).set ((b+x.1).toNat*1) (.int .u8 1)) true 1));have K4:P3 Hs lo K pm J s ev fi ne (bs.set (b+x.1).toNat true) F H4:=by rw[a8,Nat.mul_one];exact K3.set (b+x.1).toNat
   have b9:(b+x.1).toNat*1+1<=bs.length:=oM;have b5:Fr1 J W H4:=a2.trans (by rw[a8];exact Fr1.put);refine J27 f0 f5 f6 D u a4 bb gx nt U a1 l1 b2 a6.symm g3 e0 gp a9 gb bg bl b4 S b9 a8.symm @dD @wrap_small ?_;exact i4 (kk-1) oM ⟨j+1,bs.set (b+x.1).toNat true,true,oM,oM,f0,f4,f5,f6,rfl,D,u,rfl,by simp [E],K4,b5,O⟩
 .have a3:ax bs (b+x.1)=true:=b0;rw[b0]at bg;simp only[a3,Bool.not_true,Bool.false_and,bF]at O;refine J20 f0 f5 D u a4 bb gx nt U a1 l1 b2 a6.symm g3 e0 gp a9 gb bg @wrap_small ?_;exact i4 (kk-1) oM ⟨j+1,bs,m,oM,oM,f0,f4,f5,f6,f7,D,u,rfl,E,K3,a2,O⟩
theorem BK(Hs:N7)(lo K pm W:Nat)(s:StD)(ev:EvD)(O U:SoD)(F:Nat->Prop)(X:N7)(n:Nat)(hn:n<=1000000)(a9:bJ O n)(b0:bJ U n)(b:Int)(hb:0<=b/\b<=1000000)(b2:W<X.next)(pc:Nat)(rp:LV)(a4:X.get pc=cE rp 1)(a6:pc≠W)
  (ha:Option Addr) (hc:Nat) (J:List Bool) (F2:Nat->Prop) (a2:∀j,F2 j->j<X.next/\j≠W) (hh:SlF X F2 1 (w9 boE) (.slice ha J.length hc) J)
  (va:Option Addr) (ca:Nat) (l:List EdD) (b1:rp[3]?=some (.slice va l.length ca)) (hv:SlF X F 4 (w9 edE) (.slice va l.length ca) l) (hF:∀j,F j->j<X.next/\j≠W) (hl:l.length<=1000000) (hw:∀x∈l,0<=x.1/\b+x.1<n/\0<=x.2.1/\b+x.2.1<n/\(x.2.2.1=3->0<=x.2.2.2/\x.2.2.2<J.length)) (r:List Bool):
  ∀kk e H2,(∃(bs:List Bool)(m:Bool),kk=(if m then ay bs+1 else 0)/\e.get 0=pT pm/\e.get 4=pT pc/\e.get 5=iV b/\e.get 6= .slice ha J.length hc/\e.get 7= .bool m/\bs.length=n/\P3 Hs lo K pm W s ev O U bs F H2/\Fr1 W X H2/\(if m then itE O U J b l (ay bs+1) bs else bs)=r)->
  w7 (LE prog t6 (.loop Ji) e H2) (fun o e H2=>o= .exit 0/\r.length=n/\P3 Hs lo K pm W s ev O U r F H2/\Fr1 W X H2):=by
 refine i8 _ _ ?_;rintro kk e H2 ⟨bs,m,hk,f0,f4,f5,f6,f7,a5,hK,u,E⟩;cases m with
 |false=>
  simp only[bF]at E;refine J1 f7 ?_;exact i9 ⟨rfl,by rw[<-E];exact a5,by rw[<-E];exact hK,u⟩
 |true=>
  simp only[if_true]at E hk;have b3:=u.stay.next;have a7:=u7 a4;have g2:=(u.but pc a7 a6).trans a4;refine J4 f4 f7 g2 b1 ?_;refine j8 (F:=fun z=>w7 (inBlock 1 (inBlock 2 z)) _) (Cd Hs lo K pm W s ev O U F H2 n hn a9 b0 b hb oM pc rp g2 a6 ha hc J F2 (fun j S=>by have:=a2 j S;exact⟨oM,this.2⟩) (hh.mono (fun j S=>u.but j (a2 j S).1 (a2 j S).2) (fun _ h=>h) iF) va ca l (hv.mono (fun j S=>u.but j (hF j S).1 (hF j S).2) (fun _ h=>h) iF) (fun j S=>by have:=hF j S;exact⟨oM,this.2⟩) hl hw (T5 O U J b l (bs,false)) l.length _ _ ⟨0,bs,false,rfl,oM,f0,f4,f5,f6,rfl,rfl,rfl,rfl,a5,hK,Fr1.refl _ _,rfl⟩) ?_;rintro o e' H3 ⟨ho,g0,g4,g5,g6,g7,a3,K3,F3⟩;have a1:∀x∈l,0<=b+x.1/\b+x.1<bs.length:=fun x hx=>oN (hw x hx);have D:=dZ O U J b l (bs,false) a1;rw[itE]at E;obtain⟨z,hz⟩:=eY (T5 O U J b l (bs,false));have a8:z.1.length=bs.length:=by rw[hz,ef]
  rw[<-hz]at g7 a3 K3 E D;simp only[Bool.false_eq_true,false_or]at D;refine J1 ho ?_;obtain⟨z1,z2⟩:=z;simp only at g7 a3 K3 E D a8;refine i4 (if z2 then ay z1+1 else 0) ?_ ⟨z1,z2,rfl,g0,g4,g5,g6,g7,a3,K3,u.trans F3,?_⟩
  .cases z2 with
   |false=>simp only[bF];omega
   |true=>have:=D.2 rfl;simp only[if_true];omega
  .cases z2 with
   |false=>simpa using E
   |true=>
    simp only[if_true]at E ⊢;rw[<-E];have:=D.2 rfl;exact(ED O U J b l (ay z1+1) (ay bs) z1 (fun x hx=>by rw[a8];exact a1 x hx) lR oM).symm
theorem P3.low{u:N7}{lo K J E:Nat}{s:StD}{e:EvD}{z D:SoD}{bs:List Bool}{F:Nat->Prop}{H:N7}(h:P3 u lo K J E s e z D bs F H)(n:Nat):P3 u lo K J E s e z D bs F ⟨H.bs,n⟩:=by
 obtain⟨⟨rs,re,O,S,U,W⟩,X,h5,h6,h7,h8⟩:=h;exact⟨⟨rs,re,O,S,U.mono (fun _ _=>rfl) (fun _ h=>h) iF iF,y9 _ _ _ _ _ _ W (fun _ _=>rfl) (fun _ h=>h)⟩,X,h5,h6,h7,h8⟩
theorem JJ{P:Program}{X:Lib}{f:FuncId}{l:t7}{z:Nat}{O:List ResultVar}(E:fnL P f=some (l,z,O))(D:X f=none)(args:LV)(J:args.length<=z)(H:N7){v:Value}{H':N7}(h:CL P X f args H=some (v,some H')):H'.low<=H.low:=by
 rw[j7 E D args J]at h;unfold u5 at h;split at h
 .cases h
 .obtain⟨S,_,u⟩:=Option.map_eq_some_iff.1 h;unfold D6 at u;split at u
  .simp at u
  .simp only[Prod.mk.injEq,Option.some.injEq]at u;rw[<-u.2];show min H.low _<=H.low;omega
 .cases h
theorem Qj(Hs:N7)(lo K pm D:Nat)(s:StD)(X:EvD)(fi ne:SoD)(bs:List Bool)(F:Nat->Prop)(H:N7)(hK:P3 Hs lo K pm D s X fi ne bs F H)(k3:lo<=H.next)(hw:WfS s bs.length)(f9:bJ fi bs.length)(g8:bJ ne bs.length)(f4:X.attrs.length<=1000000)(i:Nat)(p:PrD)(b:Int)(hp:s.progs[i]?=some p)(hb:s.base[i]?=some b)(h5:p.ts.length<=1000000)(f8:p.ed.length<=1000000):
  Ret (CL prog t6 72 [pT pm,iV i] H) H fun v H'=>v=undef/\P3 Hs lo K pm D s X fi ne (aV s X fi ne p b bs) F H'/\Fr1 D H H':=by
 have k8:(⟨H.bs,H.next⟩:N7).next=H.next:=rfl;have Kb:P3 Hs lo K pm D s X fi ne bs F ⟨H.bs,H.next⟩:=hK.work (i6.start H);obtain⟨w1,w2,w3⟩:=hw.at_ i p b hp hb;have k7:=w3.st;have j4:=w3.en;have g9:=hw.nle;obtain⟨K1,a1,n1,-⟩:=pushF H (bC z5 1);have s1:i6 H.next ⟨H.bs,H.next⟩ K1:=by rw[a1];exact i6.push lR
 obtain⟨rs,re,bc,c3,g,i3,j0,e4,f7,b0,a9,_,_,e7,rk,_⟩:=Kb.row;obtain⟨pa,k9,ga,gc,xa,xc,ea,ec,ta,tc,e2,h1,h2,h3,_⟩:=F1 e4;have e1:=u7 g;have k4:=Kb.pbl;have r1:c3[1]?=some (.slice ga s.progs.length gc):=by rw[rk 1 oM,e2];rfl
 have r2:c3[2]?=some (.slice xa s.base.length xc):=by rw[rk 2 oM,e2];rfl
 have g5:i<s.progs.length:=(gS hp).1;have g4:i<s.base.length:=(gS hb).1;obtain⟨p',np,op,cp,j1,O,h8,_,rfl,f2,b8,i1,a4,j3,a6⟩:=h2.row (i:=i) g5;obtain rfl:p=p':=Option.some.inj (hp.symm.trans h8);obtain⟨b',nx,ox,cx,j2,f0,h7,_,rfl,d6,a7,i2,h4,f6,f3⟩:=h3.row (i:=i) g4;obtain rfl:b=b':=Option.some.inj (hb.symm.trans h7);have d8:f0=inE b:=f3;subst d8;have c7:cx[ox+i*1]?=some (.int .i64 b):=by have:=f6 0 oM;rw[Nat.add_zero]at this;exact this
 have ap:=gU a6;have lp:=Tq a6;obtain⟨b2,b3,l1,l3,c0,h0,k5⟩:=D5 a6;have e8:O[2]?=some (.int .i64 p.en):=by rw[c0];rfl
 have h9:O[3]?=some (.slice b2 p.ed.length b3):=by rw[c0];rfl
 have e6:ldC (some true) (some 5) 0 O=some (.agg O.toArray):=by rw[c0];rfl
 obtain⟨K2,U⟩:=eY (K1.put H.next (bC O 1));have n2:K2.next=H.next+1:=by rw[U,t5,n1]
 have s2:i6 H.next ⟨H.bs,H.next⟩ K2:=by rw[U];exact s1.trans (i6.put lR)
 have g1:=(s1.get pm e1).trans g;have g2:=(s2.get pm e1).trans g;have d1:=(s1.get np (Kb.lt _ f2).1).trans b8;have d2:=(s1.get nx (Kb.lt _ d6).1).trans a7;have d3:=(s2.get nx (Kb.lt _ d6).1).trans a7;have d4:K1.get H.next=cE z5 1:=by rw[a1];exact j9
 have b5:K2.get H.next=cE O 1:=by rw[U];exact j5 oM
 have e9:splice z5 0 O=O:=x9 _ _ (by rw[lp];rfl);have nt:(i:Int).toNat=i:=tN i;have k2:(i:Int)<s.progs.length:=oM;have i0:(i:Int)<s.base.length:=oM;have b1:=Kb.work s2;obtain⟨F',b6⟩:=eY (fun j=>F j\/j=D:Nat->Prop);have c4:∀j,F j->F' j:=fun j u=>by rw[b6];exact .inl u
 have b7:∀j,F j->K2.get j=(⟨H.bs,H.next⟩:N7).get j:=fun j u=>s2.get j (Kb.lt j u).1;have f5:SlF K2 F' 1 (w9 rn) (sL D bs.length bc) bs:=by
  refine .inr ⟨D,0,bc,rfl,.inr ⟨_,true,by rw[b6];exact .inr rfl,b1.bits,by simp,fun j v u=>?_⟩⟩;show((bs.map an).drop (0+j*1)).take 1=rn v;have g7:=(gS u).1;rw[Nat.zero_add,Nat.mul_one,List.drop_eq_getElem_cons (by simpa using g7)];have:=(gS u).2;simp [rn,this]
 obtain⟨wv,d5,H3,a2,J,W,s3⟩:=Ql Hs lo K s p X bs F' K2 rs O re (sP D) bc (e4.mono b7 c4 iF iF) (a6.mono b7 c4 iF) (y9 _ _ _ _ _ _ f7 b7 c4) f5 (fun j u=>by
  rw[b6]at u;rcases u with u|u
  .have:=Kb.lt j u;omega
  .omega) b1.eq oM hw f4 h5
 have n3:=s3.next;have g6:H3.low<=K2.low:=by
  rcases d5 with _|Hx
  .have e3:K2=H3:=J;rw[e3];exact lR
  .have e3:Hx=H3:=J;rw[<-e3];exact JJ Ld rfl _ sM _ a2
 have c6:=b1.work s3;obtain⟨wa,wc,ew⟩:=W.slice;rw[ew]at a2 W;have g3:H3.get pm=cE c3 1:=(s3.get pm oM).trans g2;have d0:H3.get H.next=cE O 1:=(s3.get _ oM).trans b5;have k0:0<=b+p.en:=oM;have k1:b+p.en<bs.length:=oM;have bl:(bs.map an).length=bs.length:=sM;have d9:(b+p.en).toNat*1+1<=bs.length:=oM;obtain⟨H4,S⟩:=eY (H3.put D (.cells ((bs.map an).set ((b+p.en).toNat*1) (.int .u8 1)) true 1));have K4:P3 Hs lo K pm D s X fi ne (bs.set (b+p.en).toNat true) F H4:=by rw[S,Nat.mul_one];exact c6.set (b+p.en).toNat
 have n4:H4.next=H3.next:=by rw[S,t5]
 have c9:=c6.bits;have b4:Fr1 D H3 H4:=by rw[S];exact Fr1.put
 have c8:Fr1 D ⟨H.bs,H.next⟩ H4:=((Fr1.of s2 oM (by rw[U,A4,a1,l9];omega)).trans (Fr1.of s3 oM g6)).trans b4;have f1:H4.get H.next=cE O 1:=(b4.but _ oM oM).trans d0;have l4:H4.low<=D:=by rw[S,A4];omega
 obtain⟨E,b9⟩:=eY (p.ts.map (D4 s X bs));have lhs:E.length=p.ts.length:=by rw[b9,List.length_map]
 rw[<-b9]at a2 W;have g0:SlF H4 (fun j=>l7 (.slice wa E.length wc) j) 1 (w9 boE) (.slice wa E.length wc) E:=(W.same fun j u=>by have:=W.lt u;exact b4.but j this.2 oM).frz fun _ h=>h;have h6:SlF H4 F 4 (w9 edE) (.slice b2 p.ed.length b3) p.ed:=h0.mono (fun j u=>c8.but j (Kb.lt j u).1 (Kb.lt j u).2) (fun _ h=>h) iF;rw[j7 KX rfl _ sM];have a8:∀(e5:Env),e5.get 0=pT pm->e5.get 4=pT H.next->e5.get 5=iV b->e5.get 6= .slice wa E.length wc->e5.get 7= .bool true->
   Ret (u5 prog [] H (inBlock 0 (LE prog t6 Ji.loop e5 H4))) H fun v H'=>v=undef/\P3 Hs lo K pm D s X fi ne (aV s X fi ne p b bs) F H'/\Fr1 D H H':=by
  intro e5 q0 q4 q5 q6 q7;refine j8 (F:=fun z=>Ret (u5 _ _ _ (inBlock 0 z)) _ _) (BK Hs lo K pm D s X fi ne F H4 bs.length g9 f9 g8 b oM oM H.next O f1 oM wa wc E _ (fun j u=>by have:=W.lt u;omega) g0 b2 b3 p.ed h9 h6 (fun j u=>by have:=Kb.lt j u;omega) f8 (fun x hx=>by have:=w3.ed x hx;rw[lhs];omega) (aV s X fi ne p b bs) _ _ _ ⟨bs.set (b+p.en).toNat true,true,rfl,q0,q4,q5,q6,q7,by simp,K4,Fr1.refl _ _,by rw[aV,<-b9];rfl⟩) ?_;rintro o e' H5 ⟨ho,k6,K5,c5⟩;have a5:=c8.trans c5;have l5:H5.low<=D:=Nat.le_trans c5.low l4;refine J1 ho ?_;refine E1 (fun _ hl=>oM) ⟨rfl,?_,?_⟩
  .exact K5.low _
  .exact⟨⟨a5.stay.next,fun k q1 q2=>(by have:=a5.stay.lowAll k q1 (show k<=H.next from oM);show k<=min H.low H5.low;omega),a5.stay.get⟩,a5.but,by show min H.low H5.low<=H.low;omega⟩
 rcases d5 with _|Hx
 .have e3:K2=H3:=J;subst e3;have a3:CL prog t6 93 [.agg rs.toArray,.agg O.toArray,.agg re.toArray,sL D bs.length bc] K2=some (.slice wa E.length wc,none):=a2;refine J30 g r1 r2 nt b8 a4 a7 c7 a1.symm g1 g2 d1 d2 d4 ap lp e9 U.symm d3 b0 b5 e6 a9 e7 a3 @dD e8 c9 (aI bl d9) (aI S.symm @wrap_small) ?_;exact a8 _ rfl rfl rfl rfl rfl
 .have e3:Hx=H3:=J;subst e3;have a3:CL prog t6 93 [.agg rs.toArray,.agg O.toArray,.agg re.toArray,sL D bs.length bc] K2=some (.slice wa E.length wc,some Hx):=a2;refine J30 g r1 r2 nt b8 a4 a7 c7 a1.symm g1 g2 d1 d2 d4 ap lp e9 U.symm d3 b0 b5 e6 a9 e7 a3 @dD (aI g3 d0) (aI e8 c9) (aI bl d9) (aI S.symm @wrap_small) ?_;exact a8 _ rfl rfl rfl rfl rfl
theorem qh(H:N7)(z:Nat)(bs:List Bool)(c:Nat)(D:H.get z=cE (bs.map an) 1):Z4 prog H 81 9 (sL z bs.length c)=some (.string (kz bs),none):=by
 have key:∀l:List Bool,(l.map an).mapM dd=some (l.map fun b=>if b then(1:UInt8) else 0):=by
  intro l;induction l with
  |nil=>rfl
  |cons b l J=>
   rw[List.map_cons,List.mapM_cons,J];cases b<;>rfl
 have E:A5 H 1 (sL z bs.length c)=some (bs.map an):=by
  simp only[A5];by_cases u:bs.length=0
  .rw[if_pos u];have:bs=[]:=List.length_eq_zero_iff.1 u;rw[this];rfl
  .rw[if_neg u,D];simp;exact List.take_of_length_le sM
 simp only[Z4,yR.2.2.2.2.2.2,ty9.2.2.2.2.2.2,ty5.2.2.2.2.2.2,E,Option.bind_some,key];rfl
theorem Cu(Hs:N7)(lo K X W:Nat)(s:StD)(z:EvD)(E O:SoD)(F:Nat->Prop)(H1:N7)(n:Nat)(hw:WfS s n)(b3:lo<=H1.next)(a6:bJ E n)(a9:bJ O n)(a1:z.attrs.length<=1000000)(b0:∀p∈s.progs,p.ts.length<=1000000/\p.ed.length<=1000000) (r:List Bool) (p5 p8:Value):
  ∀kk e H2,(∃(i:Nat)(bs:List Bool),kk=s.progs.length-i/\i<=s.progs.length/\e.get 5=p5/\e.get 8=p8/\e.get 9=pT X/\e.get 22=iV s.progs.length/\e.get 23=iV i/\bs.length=n/\P3 Hs lo K X W s z E O bs F H2/\Fr1 W H1 H2/\W9 s z E O ((s.progs.zip s.base).drop i) bs=r)->
  w7 (LE prog t6 (.loop Nv) e H2) (fun o e H2=>o= .exit 0/\e.get 5=p5/\e.get 8=p8/\e.get 9=pT X/\r.length=n/\P3 Hs lo K X W s z E O r F H2/\Fr1 W H1 H2):=by
 refine i8 _ _ ?_;rintro kk e H2 ⟨i,bs,hk,hi,f5,f8,f9,D,S,u,hK,J,U⟩;rcases b:decide ((i:Int)<s.progs.length)with _|_
 .have a2:=dF b;have:(s.progs.zip s.base).drop i=[]:=dN (by rw[List.length_zip];omega);rw[this,W9]at U;refine J3 D S b ?_;exact i9 ⟨rfl,f5,f8,f9,by rw[<-U];exact u,by rw[<-U];exact hK,J⟩
 have a2:=dT b;have b1:=hw.l1;have b2:=hw.l2;obtain⟨p,hp,a5⟩:=Q1 (l:=s.progs) (i:=i) oM;obtain⟨bb,a3,a4⟩:=Q1 (l:=s.base) (i:=i) oM;have hz:(s.progs.zip s.base).drop i=(p,bb)::(s.progs.zip s.base).drop (i+1):=by
  rw[gJ,a5,a4,List.zip_cons_cons,gJ]
 rw[hz,W9]at U;have b4:=J.stay.next;obtain⟨z1,z2⟩:=b0 p (mG hp);obtain⟨v,h3,H3,hc,a7,rfl,K3,F3⟩:=Qj Hs lo K X W s z E O bs F H2 hK oM (by rw[u];exact hw) (by rw[u];exact a6) (by rw[u];exact a9) a1 i p bb hp a3 z1 z2;have a8:(aV s z E O p bb bs).length=n:=by rw[aV,rZ];simp [u]
 have b5:=hw.l0;refine J7 f9 D S b hc a7 @wrap_small ?_;exact i4 (kk-1) oM ⟨i+1,aV s z E O p bb bs,oM,oM,f5,f8,f9,D,rfl,a8,K3,J.trans F3,U⟩
abbrev z20:LV:=[nS,nS,nS,iV 0,iV 0,iV 0,nS,nS,iV 0,.string eB,.string eB,nS,.string eB,.bool false,.bool false,.string eB,.bool false,.bool false,.string eB,nS]
theorem qw(Hs:N7)(lo K:Nat)(s:StD)(W:EvD)(fi ne:SoD)(F:Nat->Prop)(H:N7)(E U:LV)(hs:StF H F (QR Hs lo K false) (QR Hs lo K true) E s)(he:EvF H F U W)(hF:∀j,F j->j<H.next) (e3:∀j,j<lo->H.get j=Hs.get j) (h3:lo<=H.next) (n:Nat) (hn:(n:Int)=A0 s.progs) (hw:WfS s n) (e4:bJ fi n) (e6:bJ ne n)
  (d6:W.attrs.length<=1000000) (b0:∀p∈s.progs,p.ts.length<=1000000/\p.ed.length<=1000000/\0<=p.st/\p.st<=1000000):
  CL prog t6 41 [.agg E.toArray,.agg U.toArray,.agg (soE fi).toArray,.agg (soE ne).toArray] H=some (.agg (soE (I4 s W fi ne)).toArray,none):=by
 obtain⟨pa,pc,ga,gc,xa,xc,ea,ec,ta,tc,a3,_⟩:=F1 hs;obtain⟨av,a1,d8⟩:=id he;obtain⟨g8,g9,rfl⟩:=d8.slice;have b7:E.all oC=true:=by rw[a3];rfl
 have ae:U.all oC=true:=by rw[a1];rfl
 have ls:E.length=8:=by rw[a3];rfl
 have le:U.length=5:=by rw[a1];rfl
 have f6:ldC (some true) (some 8) 0 E=some (.agg E.toArray):=by rw[a3];rfl
 have f0:ldC (some true) (some 5) 0 U=some (.agg U.toArray):=by rw[a1];rfl
 have f9:U[0]?=some (.int .i64 W.kind):=by rw[a1];rfl
 have g0:E[1]?=some (.slice ga s.progs.length gc):=by rw[a3];rfl
 have h4:=hw.nle;have h0:=hw.l0;have h1:=hw.l1;obtain⟨f1,f2,f3⟩:=fi;obtain⟨g1,g2,g3⟩:=ne;obtain⟨fe,J⟩:=eY (soE (f1,f2,f3));obtain⟨ge,O⟩:=eY (soE (g1,g2,g3));rw[<-J,<-O];have af:fe.all oC=true:=by rw[J];rfl
 have ag:ge.all oC=true:=by rw[O];rfl
 have lf:fe.length=3:=by rw[J];rfl
 have lg:ge.length=3:=by rw[O];rfl
 have f4:ldC (some true) (some 3) 0 fe=some (.agg fe.toArray):=by rw[J];rfl
 have f5:ldC (some true) (some 3) 0 ge=some (.agg ge.toArray):=by rw[O];rfl
 obtain⟨z3,b4⟩:=eY ([.bool false,.bool false,.string eB]:LV);obtain⟨u,D⟩:=eY (((((N7.push ⟨H.bs,H.next⟩ (bC E 1)).push (bC U 1)).push (bC fe 1)).push (bC ge 1)).push (bC z3 1));have S:(N7.push ⟨H.bs,H.next⟩ (bC E 1)).next=H.next+1:=by rw[i5];rfl
 have n1:u.next=H.next+5:=by rw[D,i5,i5,i5,i5,S]
 have s1:i6 H.next H u:=by rw[D];exact((((i6.first H _).trans (i6.push oM)).trans (i6.push (by rw[i5];omega))).trans (i6.push (by rw[i5,i5];omega))).trans (i6.push (by rw[i5,i5,i5];omega))
 have a7:u.get H.next=cE E 1:=by
  rw[D,i7 (by simp only[i5,S];omega),i7 (by simp only[i5,S];omega),i7 (by simp only[i5,S];omega),i7 oM];exact j9
 have a8:u.get (H.next+1)=cE U 1:=by
  rw[D,i7 (by simp only[i5,S];omega),i7 (by simp only[i5,S];omega),i7 (by simp only[i5,S];omega)];exact y7 oM
 have b1:u.get (H.next+2)=cE fe 1:=by
  rw[D,i7 (by simp only[i5,S];omega),i7 (by simp only[i5,S];omega)];exact y7 (by simp only[i5,S];omega)
 have b2:u.get (H.next+3)=cE ge 1:=by
  rw[D,i7 (by simp only[i5,S];omega)];exact y7 (by simp only[i5,S];omega)
 have b8:u.get (H.next+4)=cE z3 1:=by
  rw[D];exact y7 (by simp only[i5,S];omega)
 have c7:H.next<=u.low:=by rw[D];simp only[l9];exact lR
 have e5:∀j,F j->u.get j=H.get j:=fun j hj=>s1.get j (hF j hj);have c5:=Qi u F _ _ E s (fun j hj=>by have:=hF j hj;omega) (hs.mono e5 (fun _ h=>h) iF iF) oM (fun p hp=>⟨(b0 p hp).2.2.1,(b0 p hp).2.2.2⟩);rw[<-hn]at c5;obtain⟨H2,a9,-,-,a4⟩:=pushE u (.cells ((List.replicate n false).map an) true 1);have n2:H2.next=H.next+6:=by rw[a9,i5,n1]
 have c8:N0 prog u 81 (.int .i64 n) (.int .i64 n)=some (sL u.next n (n+1),H2):=by
  have e1:(List.replicate n [Value.int .u8 0]).flatten=(List.replicate n false).map an:=by
   rw[List.flatten_replicate_singleton,List.map_replicate];rfl
  simp only[N0,yR.2.2.2.2.2.1,ty5.2.2.1,ty5.2.1,Int.toNat_natCast,e1];rw[if_pos ⟨by decide,oM,Int.le_refl _,oM,oM⟩,a9];rfl
 have b9:=(a4.get _ oM).trans a7;have c0:=(a4.get _ oM).trans a8;have c3:=(a4.get _ oM).trans b1;have c4:=(a4.get _ oM).trans b2;obtain⟨b5,a2⟩:=eY (E++(U++(fe++(ge++[sL u.next n (n+1)]))));obtain⟨rA,hA⟩:=eY (splice z20 0 E);obtain⟨rB,hB⟩:=eY (splice rA 8 U);obtain⟨rC,hC⟩:=eY (splice rB 13 fe);obtain⟨rD,hD⟩:=eY (splice rC 16 ge);have lA:rA.length=20:=by rw[hA,E3];rfl
 have lB:rB.length=20:=by rw[hB,E3];exact lA
 have lC:rC.length=20:=by rw[hC,E3];exact lB
 have lD:rD.length=20:=by rw[hD,E3];exact lC
 have eE:rD.set 19 (sL u.next n (n+1))=b5:=by rw[hD,hC,hB,hA,a2,a3,a1,J,O];rfl
 have b6:b5.all oC=true:=by rw[a2];simp only[List.all_append,b7,ae,af,ag];rfl
 obtain⟨H3,X,-,d5,-⟩:=pushE H2 (bC b5 1);have n3:H3.next=H.next+7:=by rw[X,i5,n2]
 have a5:i6 u.next u H3:=by rw[X];exact a4.trans (i6.push oM)
 have d0:i6 H.next H H3:=s1.trans (a5.weaken oM);have gb:H3.get u.next=some (.cells ((List.replicate n false).map an) true 1):=by rw[X,i7 oM,a9];exact j9
 have c6:∀j,F j->H3.get j=H.get j:=fun j hj=>d0.get j (hF j hj);have K3:P3 Hs lo K H2.next u.next s W (f1,f2,f3) (g1,g2,g3) (List.replicate n false) F H3:=⟨⟨E,U,n+1,by rw[<-J,<-O,List.length_replicate,<-a2];exact d5,hs.mono c6 (fun _ h=>h) iF iF,y9 _ _ _ _ _ _ he c6 (fun _ h=>h)⟩,gb,fun j hj=>by have:=hF j hj;omega,fun j hj=>by rw[d0.get j oM];exact e3 j hj,oM,oM⟩
 have d2:=(a5.get _ oM).trans a7;have e7:(A0 s.progs).toNat=n:=oM;rw[j7 Po rfl _ sM,I4,e7];refine J30 b7 ae af ag ls le lf lg b4.symm D.symm a7 a8 b1 b2 f6 f0 f4 f5 c5 c8 b9 c0 c3 (aI c4 hA.symm) (aI lA hB.symm) (aI lB hC.symm) (aI lC hD.symm) (aI lD eE) (aI b6 X.symm) (aI d2 g0) ?_;refine j8 (F:=fun z=>u5 _ _ _ (u9 (inBlock 0 z) _)=_) (Cu Hs lo K H2.next u.next s W (f1,f2,f3) (g1,g2,g3) F H3 n hw oM e4 e6 d6 (fun p hp=>⟨(b0 p hp).1,(b0 p hp).2.1⟩) (W9 s W (f1,f2,f3) (g1,g2,g3) (s.progs.zip s.base) (List.replicate n false)) (pT (H.next+1)) (pT (H.next+4)) s.progs.length _ _ ⟨0,List.replicate n false,rfl,oM,rfl,rfl,rfl,rfl,rfl,List.length_replicate ..,K3,Fr1.refl _ _,rfl⟩) ?_;rintro o e' H4 ⟨ho,k5,k8,k9,e8,K4,a6⟩;obtain⟨bz,d9⟩:=eY (W9 s W (f1,f2,f3) (g1,g2,g3) (s.progs.zip s.base) (List.replicate n false));rw[<-d9]at e8 K4 ⊢;have n4:=a6.stay.next;obtain⟨h6,h5,d1,g7,g4,e9,f7,_,_,_,_,_,_,c9,_,_⟩:=K4.row;have e2:=qh H4 u.next bz d1 K4.bits;have d3:H4.get (H.next+1)=cE U 1:=(a6.but _ oM oM).trans ((a5.get _ oM).trans a8);have d4:H4.get (H.next+4)=cE z3 1:=(a6.but _ oM oM).trans ((a5.get _ oM).trans b8);have g6:splice z3 0 [.bool true,.bool (decide (W.kind=2)),.string (kz bz)]=[.bool true,.bool (decide (W.kind=2)),.string (kz bz)]:=by rw[b4];rfl
 have f8:z3.length=3:=by rw[b4];rfl
 obtain⟨H5,b3⟩:=eY (H4.put (H.next+4) (bC [.bool true,.bool (decide (W.kind=2)),.string (kz bz)] 1));have g5:H5.get (H.next+4)=cE [.bool true,.bool (decide (W.kind=2)),.string (kz bz)] 1:=by rw[b3];exact j5 oM
 have h2:H.next<=H5.low:=by
  rw[b3,A4];have a:=(a5.weaken (show H.next<=u.next from oM)).low c7;have b:=(a6.stay.weaken (show H.next<=u.next from oM)).low a;omega
 clear a7 a8 b1 b2 b8 b9 c0 c3 c4 hA hB hC hD lA lB lC lD eE c8 D a9 X;exact J15 ho k5 k8 k9 d3 f9 g4 c9 e2 d4 f8 g6 b3.symm g5 @dD trivial
abbrev IV:ByteArray:=⟨#[48,49,50,51,52,53,54,55,56,57,97,98,99,100,101,102,103,104,105,106,107,108,109,110,111,112,113,114,115,116,117,118,119,120,121,122]⟩
abbrev IW:ByteArray:=⟨#[48,48,48,49,48,50,48,51,48,52,48,53,48,54,48,55,48,56,48,57,49,48,49,49,49,50,49,51,49,52,49,53,49,54,49,55,49,56,49,57,50,48,50,49,50,50,50,51,50,52,50,53,50,54,50,55,50,56,50,57,51,48,51,49,51,50,51,51,51,52,51,53,51,54,51,55,51,56,51,57,52,48,52,49,52,50,52,51,52,52,52,53,52,54,52,55,52,56,52,57,53,48,53,49,53,50,53,51,53,52,53,53,53,54,53,55,53,56,53,57,54,48,54,49,54,50,54,51,54,52,54,53,54,54,54,55,54,56,54,57,55,48,55,49,55,50,55,51,55,52,55,53,55,54,55,55,55,56,55,57,56,48,56,49,56,50,56,51,56,52,56,53,56,54,56,55,56,56,56,57,57,48,57,49,57,50,57,51,57,52,57,53,57,54,57,55,57,56,57,57]⟩
theorem zW:((List.range 10).all fun n=>decide ((IV.extract n (n+1)).data.toList=(dg1 n).data.toList))=true/\((List.range 100).all fun n=>decide ((IW.extract (n*2) (n*2+2)).data.toList=(dg1 (n / 10)).data.toList++(dg1 (n % 10)).data.toList))=true:=⟨kR,kR⟩
theorem rl{a b:ByteArray}(h:a.data.toList=b.data.toList):a=b:=by
 obtain⟨a⟩:=a;obtain⟨b⟩:=b
 congr 1
 exact Array.toList_inj.1 h
theorem IX(n:Nat)(h:n<10):IV.extract n (n+1)=dg n:=by
 have:=List.all_eq_true.1 zW.1 n (List.mem_range.2 h);rw[dg,dif_pos h];exact rl (dT this)
theorem IY(n:Nat)(u:10<=n)(h:n<100):IW.extract (n*2) (n*2+2)=dg n:=by
 have:=List.all_eq_true.1 zW.2 n (List.mem_range.2 h);rw[dg,dif_neg oM,dg,dif_pos oM,dg,dif_pos oM];refine rl ((dT this).trans ?_);rw[ct]
theorem Mw(n:Nat)(h:n<100)(H:N7):CL prog t6 149 [iV n] H=some (.string (dg n),none):=by
 have S:n<10->∀H,aH prog H 9 (.string IV) (some (.int .i64 n)) (some (.int .i64 ((n:Int)+1))) none=some (.string (dg n)):=fun u H=>by
  have p1:(0:Int)<=n:=oM;have p2:(0:Int)<=(n:Int)+1:=oM;have E:((n:Int)+1).toNat=n+1:=oM;have O:n<=n+1/\n+1<=IV.size:=⟨oM,by show n+1<=36;omega⟩
  simp only[aH,ty9.2.2.2.2.2.2,bnd,if_pos p1,if_pos p2,Int.toNat_natCast,E,if_pos O,IX n u]
 have U:10<=n->∀H,aH prog H 9 (.string IW) (some (.int .i64 ((n:Int)*2))) (some (.int .i64 ((n:Int)*2+2))) none=some (.string (dg n)):=fun u H=>by
  have p1:(0:Int)<=(n:Int)*2:=oM;have p2:(0:Int)<=(n:Int)*2+2:=oM;have E:((n:Int)*2).toNat=n*2:=oM;have J:((n:Int)*2+2).toNat=n*2+2:=oM;have O:n*2<=n*2+2/\n*2+2<=IW.size:=⟨oM,by show n*2+2<=200;omega⟩
  simp only[aH,ty9.2.2.2.2.2.2,bnd,if_pos p1,if_pos p2,E,J,if_pos O,IY n u h]
 rw[j7 Pf rfl _ sM];rcases b:decide ((n:Int)<10)with _|_
 .have W:=dF b;have D:=U oM;exact J3 b D @wrap_small trivial
 .have W:=dT b;have z:=S oM;exact J3 b z @wrap_small trivial
theorem Qk(n:Nat)(h:n<100)(H:N7):CL prog t6 81 [iV n] H=some (.string (dg n),none):=by
 have D:=fun H=>Mw n h H;have z:∀H,CL prog t6 129 [iV n,iV 10] H=some (.string (dg n),none):=fun H=>by
  have E:decide ((0:Int)<=n)=true:=decide_eq_true oM;have J:decide ((n:Int)<100)=true:=decide_eq_true oM;rw[j7 OW rfl _ sM];exact J3 E J D trivial
 have u:∀H,CL prog t6 103 [iV n] H=some (.string (dg n),none):=fun H=>by
  rw[j7 OE rfl _ sM];exact J1 z trivial
 rw[j7 QX rfl _ sM];exact J1 u trivial
theorem qs(l:List ByteArray)(s:ByteArray):(l.any fun y=>cj s y)=T7 l s:=by
 unfold T7;congr 1;funext y;exact decide_eq_decide.2 ⟨Eq.symm,Eq.symm⟩
def frN(l:List ByteArray)(stem:ByteArray):Nat:=di (fun n=>T7 l (stem++dg n)) (l.length+1) 0
theorem Em(l:List ByteArray)(u:ByteArray):T7 l (u++dg (frN l u))=false/\frN l u<l.length+1:=by
 obtain⟨m,D,z⟩:=rO (fun n=>u++dg n) (fun i j h=>rJ (ri h)) l (fun n=>T7 l (u++dg n)) (fun i h=>ni h);have:=dy (fun n=>T7 l (u++dg n)) (l.length+1) 0 ⟨m,oM,oM,z⟩;exact⟨this.1,by have:=this.2;rw[frN];omega⟩
def frS(l:List ByteArray)(stem:ByteArray)(ah:List ByteArray):ByteArray:=match ah.find? (fun s=> !T7 l s)with|some s=>s|none=>stem++dg (frN l stem)
theorem uy(H0:N7)(lo:Nat)(a2:lo<=H0.next)(v v1:Value)(l:List ByteArray)(hv:SlI H0 lo 1 (w9 stE) v l)(hn:l.length<=1000)(va:Option Addr)(ca:Nat)(u:List ByteArray)(hw:SlI H0 H0.next 1 (w9 stE) (.slice va u.length ca) u)(a6:u.length<=1000):
  ∀kk e H2,(∃i:Nat,kk=u.length-i/\i<=u.length/\e.get 0=v/\e.get 1=v1/\e.get 11= .slice va u.length ca/\e.get 12=iV u.length/\e.get 13=iV i/\H2=H0/\(u.drop i).find? (fun s=> !T7 l s)=u.find? (fun s=> !T7 l s))->
  w7 (LE prog t6 (.loop NI) e H2) (fun o e H2=>H2=H0/\e.get 0=v/\e.get 1=v1/\((o= .exit 0/\u.find? (fun s=> !T7 l s)=none)\/(o= .ret/\∃s,u.find? (fun s=> !T7 l s)=some s/\e.get 6= .string s))):=by
 refine i8 _ _ ?_;rintro kk e H2 ⟨i,hk,hi,O,X,D,z,E,hH,J⟩;subst hH;rcases b:decide ((i:Int)<u.length)with _|_
 .have a1:=dF b;have:u.drop i=[]:=dN oM;rw[this,List.find?_nil]at J;refine J3 z E b ?_;exact i9 ⟨rfl,O,X,.inl ⟨rfl,J.symm⟩⟩
 have a1:=dT b;obtain⟨y,nb,o,cs,own,el,hx,hd,rfl,a5,hg,a4,a3,hc,rfl⟩:=hw.row (i:=i) oM;have nt:(i:Int).toNat=i:=tN i;have W:=hc 0 oM;rw[Nat.add_zero]at W;have S:=Ew H2 lo v l y a2 hv oM;rw[qs]at S;rw[hd,List.find?_cons]at J;rcases U:T7 l y with _|_
 .simp only[U,Bool.not_false]at J;rw[U]at S;refine J9 O D z E b hg nt W S ?_;exact z9 ⟨rfl,O,X,.inr ⟨rfl,y,J.symm,rfl⟩⟩
 .simp only[U,Bool.not_true]at J;rw[U]at S;refine J10 O D z E b hg nt W S @wrap_small ?_;exact i4 (kk-1) oM ⟨i+1,oM,oM,O,X,D,z,rfl,rfl,J⟩
theorem xk(H0:N7)(lo:Nat)(U:lo<=H0.next)(v:Value)(l:List ByteArray)(u:ByteArray)(hv:SlI H0 lo 1 (w9 stE) v l)(hn:l.length<99)(hs:u.size<=1000):
  ∀W e H2,(∃n:Nat,W=frN l u+1-n/\n<=frN l u/\e.get 0=v/\e.get 1= .string u/\e.get 9=iV n/\H2=H0)->
  w7 (LE prog t6 (.loop NJ) e H2) (fun o e H2=>H2=H0/\o= .ret/\e.get 6= .string (u++dg (frN l u))):=by
 refine i8 _ _ ?_;rintro W e H2 ⟨n,hk,hi,J,O,X,hH⟩;subst hH;obtain⟨hf,a2⟩:=Em l u;have S:=(cD (fun n=>T7 l (u++dg n)) (l.length+1) 0).2;have hd:=fun H=>Qk n oM H;have a1:=lU n;have D:=Z3 (P:=prog) 9 u (dg n) oM;have z:=Ew H2 lo v l (u++dg n) U hv oM;rw[qs]at z;by_cases E:n=frN l u
 .rw[E,hf,<-E]at z;refine J6 J O X hd D z ?_;exact z9 ⟨rfl,rfl,by rw[<-E];rfl⟩
 .have hq:T7 l (u++dg n)=true:=S n oM (by rw[frN]at E hi;omega);rw[hq]at z;refine J7 J O X hd D z @wrap_small ?_;exact i4 (W-1) oM ⟨n+1,oM,oM,J,O,rfl,rfl⟩
theorem fresh(H:N7)(lo:Nat)(v w:Value)(l:List ByteArray)(u:ByteArray)(D:List ByteArray)(E:lo<=H.next)(X:SlI H lo 1 (w9 stE) v l)(hw:SlI H H.next 1 (w9 stE) w D)(hn:l.length<99)(hs:u.size<=1000)(O:D.length<=1000):
  CL prog t6 56 [v,.string u,w] H=some (.string (frS l u D),none):=by
 obtain⟨va,ca,rfl⟩:=hw.slice;rw[j7 KU rfl _ sM];refine J1 bU ?_;refine j8 (F:=fun z=>u5 _ _ _ (u9 (inBlock 0 z) _)=_) (uy ⟨H.bs,H.next⟩ lo E v (.string u) l (X.mono (fun _ _=>rfl) lR iF) oM va ca D (hw.mono (fun _ _=>rfl) lR iF) O D.length _ _ ⟨0,rfl,oM,rfl,rfl,rfl,rfl,rfl,rfl,rfl⟩) ?_;rintro o e' H' ⟨rfl,g0,g1,⟨S,W⟩|⟨S,s,W,J⟩⟩
 .refine J1 S ?_;refine j8 (F:=fun z=>u5 _ _ _ (inBlock 2 z)=_) (xk ⟨H.bs,H.next⟩ lo E v l u (X.mono (fun _ _=>rfl) lR iF) hn hs (frN l u+1) _ _ ⟨0,rfl,oM,g0,g1,rfl,rfl⟩) ?_;rintro o e2 H2 ⟨rfl,U,J⟩;simp(maxSteps:=20000000) -dsimp (disch:=first|omega|(simp only[rH]<;>omega)|fail) only[↓ig,rQ,N3,sevalprocAttr,tyA,U,J,frS,W]
 .simp(maxSteps:=20000000) -dsimp (disch:=first|omega|(simp only[rH]<;>omega)|fail) only[↓ig,rQ,N3,sevalprocAttr,tyA,S,J,frS,W]
def cn(l:List (ByteArray×ByteArray)):List ByteArray:=(l.filter fun n=>decide (n.1=eB)).map (·.2)
abbrev z0S:ByteArray:=⟨#[122,48]⟩
theorem aA{l:List ByteArray}{s:ByteArray}:T7 l s=true↔s∈l:=⟨ni,fun h=>List.any_eq_true.2 ⟨s,h,decide_eq_true rfl⟩⟩
theorem P9{l:List (ByteArray×ByteArray)}{x:ByteArray×ByteArray}:P8 l x=true↔x∈l:=⟨qr,fun h=>List.any_eq_true.2 ⟨x,h,E9.2 rfl⟩⟩
theorem uQ(l:List (ByteArray×ByteArray))(s:ByteArray):s∈cn l↔(eB,s)∈l:=by
 unfold cn;rw[List.mem_map]
 constructor
 .rintro⟨⟨a,b⟩,h,rfl⟩;obtain⟨u,z⟩:=List.mem_filter.1 h;have:a=eB:=dT z;subst this;exact u
 .intro h;exact⟨_,List.mem_filter.2 ⟨h,decide_eq_true rfl⟩,rfl⟩
theorem JG:zS++dg 0=z0S:=by rw[dg,dif_pos oM];decide
theorem BZ(l:List (ByteArray×ByteArray)):frS (cn l++[z0S]) zS [zS]=zN (Q6 l):=by
 obtain⟨J,_⟩:=sF l;have u:=(cD (fun n=>P8 l (zNm n)) (l.length+1) 0).2;have e0:P8 l (zNm 0)=T7 (cn l++[z0S]) zS:=by
  rw[Bool.eq_iff_iff,P9,aA,List.mem_append,uQ];exact⟨.inl,fun h=>h.resolve_right fun q=>by have:=List.mem_singleton.1 q;revert this;decide⟩
 have en:∀n,0<n->P8 l (zNm n)=T7 (cn l++[z0S]) (zS++dg n):=fun n z=>by
  have S:zNm n=(eB,zS++dg n):=by rw[zNm,zN,if_neg oM]
  rw[Bool.eq_iff_iff,P9,aA,List.mem_append,uQ,S];refine⟨.inl,fun h=>h.resolve_right fun q=>?_⟩;have U:=List.mem_singleton.1 q;have W:zS++dg n=zS++dg 0:=U.trans JG.symm;have:=rJ (ri W);omega
 rcases b:T7 (cn l++[z0S]) zS with _|_
 .have z:Q6 l=0:=by
   rcases Nat.eq_zero_or_pos (Q6 l)with h|h
   .exact h
   .have:=u 0 oM (by rw[Q6]at h;exact h);rw[e0,b]at this;cases this
  rw[frS,List.find?_cons,b,z];rfl
 .have z:0<Q6 l:=by
   rcases Nat.eq_zero_or_pos (Q6 l)with h|h
   .rw[h,e0,b]at J;cases J
   .exact h
  obtain⟨D,_⟩:=Em (cn l++[z0S]) zS;have E:=(cD (fun n=>T7 (cn l++[z0S]) (zS++dg n)) ((cn l++[z0S]).length+1) 0).2;have O:0<frN (cn l++[z0S]) zS:=by
   rcases Nat.eq_zero_or_pos (frN (cn l++[z0S]) zS)with h|h
   .rw[h]at D;have:T7 (cn l++[z0S]) (zS++dg 0)=true:=aA.2 (List.mem_append.2 (.inr (List.mem_singleton.2 JG)));rw[this]at D;cases D
   .exact h
  have:frN (cn l++[z0S]) zS=Q6 l:=by
   rcases Nat.lt_trichotomy (frN (cn l++[z0S]) zS) (Q6 l)with h|h|h
   .have:=u _ oM (by rw[Q6]at h;exact h);rw[en _ O,D]at this;cases this
   .exact h
   .have:=E _ oM (by rw[frN]at h;exact h);rw[<-en _ z,J]at this;cases this
  rw[frS,List.find?_cons,b];simp only[Bool.not_true,List.find?_nil,this];rw[zN,if_neg oM]
theorem BD(x:ByteArray×ByteArray)(l:List (ByteArray×ByteArray)):cn (x::l)=if decide (x.1=eB)=true then x.2::cn l else cn l:=by
 unfold cn;rw[List.filter_cons];split<;>rfl
theorem EO(l:List (ByteArray×ByteArray)):(cn l).length<=l.length:=by
 unfold cn;rw[List.length_map];exact List.length_filter_le _ _
theorem Fn(H1:N7)(lo p2:Nat)(b3:lo<=p2)(b7:p2<H1.next)(va:Option Addr)(ca:Nat)(l:List (ByteArray×ByteArray))(hv:SlI H1 lo 2 (w9 nmE) (.slice va l.length ca) l)(hn:l.length<=1000)(v2:Value)(r:List ByteArray):
  ∀kk e H2,(∃(i:Nat)(u:List ByteArray)(w:Value),kk=l.length-i/\i<=l.length/\u.length<=i/\e.get 2=v2/\e.get 3=w/\e.get 6= .slice va l.length ca/\e.get 7=iV l.length/\e.get 8=iV i/\u6 H2 (p2+1) 1 (w9 stE) w u/\i6 (p2+1) H1 H2/\u++cn (l.drop i)=r)->
  w7 (LE prog t6 (.loop NK) e H2) (fun o e H2=>o= .exit 0/\e.get 2=v2/\∃w,e.get 3=w/\u6 H2 (p2+1) 1 (w9 stE) w r/\i6 (p2+1) H1 H2):=by
 refine i8 _ _ ?_;rintro kk e H2 ⟨i,u,w,hk,hi,b0,f2,f3,f6,W,f8,hO,X,S⟩;have b5:=X.next;rcases U:decide ((i:Int)<l.length)with _|_
 .have a6:=dF U;have:l.drop i=[]:=dN oM;rw[this]at S;refine J3 W f8 U ?_;exact i9 ⟨rfl,f2,w,f3,by rw[<-S];simpa [cn] using hO,X⟩
 have a6:=dT U;obtain⟨x,nb,o,cs,own,el,hx,hd,rfl,b4,hg,b2,O,hc,rfl⟩:=hv.row (i:=i) oM;have nt:(i:Int).toNat=i:=tN i;have J:=(X.get nb oM).trans hg;obtain⟨Ha,E,a7,a2,-⟩:=pushE H2 (bC [.string eB,.string eB] 1);obtain⟨H3,z⟩:=eY (Ha.put H2.next (bC (nmE x) 1));have b6:H3.next=H2.next+1:=by rw[z,t5,a7]
 have D:i6 H2.next H2 H3:=by rw[z,E];exact(i6.push lR).trans (i6.put lR)
 have a1:H3.get H2.next=cE (nmE x) 1:=by rw[z];exact j5 oM
 have a8:H3.get nb=some (.cells cs own 2):=(D.get nb oM).trans J;have a9:Ha.get nb=some (.cells cs own 2):=by rw[E,i7 oM];exact J
 rw[hd,BD]at S;rcases b1:decide (x.1=eB)with _|_
 .rw[b1,if_neg (by decide)]at S;refine J13 f6 W f8 U E.symm a2 J nt O z.symm a1 b1 @wrap_small ?_;exact i4 (kk-1) oM ⟨i+1,u,w,oM,oM,oM,f2,f3,f6,W,rfl,hO.keep D,X.trans (D.weaken oM),S⟩
 .rw[b1,if_pos rfl]at S;obtain⟨v',h',H4,ha,a3,a4,a5⟩:=(hO.keep D).push1 (P:=prog) (t:=97) (by exact bU.2.2.2.2.2.2) ty9.1 ty9.2.1 ty9.2.2.1 oM oM (cs:=[.string x.2]) (a:=x.2) rfl rfl oM oM;refine J16 f3 f6 W f8 U E.symm a2 J nt O z.symm a1 b1 ha a3 @wrap_small ?_;exact i4 (kk-1) oM ⟨i+1,u++[x.2],v',oM,oM,by simp;omega,f2,rfl,f6,W,rfl,a4,(X.trans (D.weaken oM)).trans a5,by rw[<-S];simp⟩
theorem It(H:N7)(lo:Nat)(v:Value)(l:List (ByteArray×ByteArray))(a5:lo<=H.next)(hv:SlI H lo 2 (w9 nmE) v l)(hn:l.length<=90):CL prog t6 57 [v] H=some (.agg (nmE (zNm (Q6 l))).toArray,none):=by
 obtain⟨va,ca,rfl⟩:=hv.slice;obtain⟨H1,S,-,hg,hS⟩:=pushF H (bC [.string eB,.string eB] 1);have X:H.next<=H1.low:=by rw[S,l9];exact lR
 rw[j7 Pt rfl _ sM];refine J1 S.symm ?_;refine j8 (F:=fun z=>u5 _ _ _ (u9 (inBlock 0 z) _)=_) (Fn H1 lo H.next a5 (u7 hg) va ca l (hv.mono (fun j hj=>hS.get j oM) lR iF) oM _ (cn l) l.length _ _ ⟨0,[],_,rfl,oM,by simp,rfl,rfl,rfl,rfl,rfl,u6.nil,i6.refl _ _,rfl⟩) ?_;rintro o e' H2 ⟨ho,h2,w,h3,hO,D⟩;have a9:=D.next;have a6:=u7 hg;have a7:=EO l;have a3:=(D.get H.next oM).trans hg;obtain⟨v',h',J,ha,W,a1,E⟩:=hO.push1 (P:=prog) (t:=97) (by exact bU.2.2.2.2.2.2) ty9.1 ty9.2.1 ty9.2.2.1 oM oM (cs:=[.string z0S]) (a:=z0S) rfl rfl oM oM;have b0:=E.next;obtain⟨O,U,-,-,u⟩:=pushE J (bC [.string zS] 1);have b1:=u.next;have a2:u6 O J.next 1 (w9 stE) (sL J.next 1 1) [zS]:=by rw[U];exact u6.fresh rfl lR (D2.one rfl rfl)
 have hf:=fresh O J.next v' (sL J.next 1 1) (cn l++[z0S]) zS [zS] oM (a1.sl.mono (fun j hj=>u.get j hj) lR iF) a2.sl (by simp;omega) (by decide) (by decide);rw[BZ]at hf;have a4:O.get H.next=_:=(u.get H.next oM).trans ((E.get H.next oM).trans a3);have hz:(⟨#[122]⟩:ByteArray)=zS:=rfl;have b2:ldC (some true) (some 2) 0 (nmE (zNm (Q6 l)))=some (.agg (nmE (zNm (Q6 l))).toArray):=rfl;have a8:H.next<=O.low:=((((D.weaken oM).trans (E.weaken oM)).trans (u.weaken oM)):i6 H.next H1 O).low X;refine J9 ho h2 h3 ha W hz U.symm hf a4 ?_;rfl
def rF:List (List ByteArray)->Int->Int
 |[],n=>n
 |v::l,n=>rF l (min (n*(v.length+2)) 25)
def mK(s:SpD):Int:=rF s.vals (s.names.length+1)+s.texts.length+1
theorem HV(a b:Int):(if b<a then b else a)=min a b:=by split<;>omega
theorem Dz(z:N7)(l:List (List ByteArray))(va:Option Addr)(ca:Nat)(hv:SlI z z.next 1 (VlF z (· <z.next)) (.slice va l.length ca) l)(hn:l.length<=100000)(hl:∀x∈l,x.length<=100000) (v1:Value) (r:Int):
  ∀X e H2,(∃(i:Nat)(n:Int),X=l.length-i/\i<=l.length/\0<=n/\n<=1000001/\e.get 1=v1/\e.get 3=iV n/\e.get 11= .slice va l.length ca/\e.get 12=iV l.length/\e.get 13=iV i/\H2=z/\rF (l.drop i) n=r)->
  w7 (LE prog t6 (.loop NG) e H2) (fun o e H2=>o= .exit 0/\e.get 1=v1/\e.get 3=iV r/\H2=z/\0<=r/\r<=1000001):=by
 refine i8 _ _ ?_;rintro X e H2 ⟨i,n,hk,hi,O,S,f1,f3,E,u,J,rfl,D⟩;rcases U:decide ((i:Int)<l.length)with _|_
 .have W:=dF U;have:l.drop i=[]:=dN oM;rw[this]at D;refine J3 u J U ?_;exact i9 ⟨rfl,f1,by rw[<-D];exact f3,rfl,by rw[<-D];exact O,by rw[<-D];exact S⟩
 have W:=dT U;obtain⟨x,nb,o,cs,own,el,hx,hd,rfl,a3,hg,a2,a1,hc,w,rfl,hw⟩:=hv.row (i:=i) oM;have nt:(i:Int).toNat=i:=tN i;have c0:=hc 0 oM;rw[Nat.add_zero]at c0;obtain⟨wa,wc,rfl⟩:=hw.slice;have a4:=hl x (mG hx);rw[hd,rF]at D;have p0:0<=n*((x.length:Int)+2):=Int.mul_nonneg O oM;have p1:n*((x.length:Int)+2)<=1000001*((x.length:Int)+2):=Int.mul_le_mul_of_nonneg_right S oM;have hm:∀Hx,D7 prog .min [3,3] [iV (n*((x.length:Int)+2)),iV 25] Hx=some (.int .i64 (min (n*((x.length:Int)+2)) 25),none):=fun Hx=>by
  rw[<-HV];simp [D7,iE]
 refine J10 f3 E u J U hg nt c0 hm @wrap_small ?_;exact i4 (X-1) oM ⟨i+1,min (n*((x.length:Int)+2)) 25,oM,oM,oM,oM,f1,rfl,E,u,rfl,rfl,D⟩
theorem GR(H:N7)(lo:Nat)(cs:LV)(s:SpD)(a5:lo<=H.next)(hs:SpR H lo cs s)(h1:s.names.length<=100000)(h2:s.vals.length<=100000)(h3:∀x∈s.vals,x.length<=100000) (h4:s.texts.length<=100000):CL prog t6 53 [.agg cs.toArray] H=some (.int .i64 (mK s),none):=by
 obtain⟨w1,w2,w3,w4,rfl,q1,q2,X,q4⟩:=hs;obtain⟨a1,b1,rfl⟩:=q1.slice;obtain⟨a2,b2,rfl⟩:=q2.slice;obtain⟨E,J,rfl⟩:=X.slice;obtain⟨a4,b4,rfl⟩:=q4.slice;obtain⟨D,u,-,U,S⟩:=pushF H (bC [.slice a1 s.names.length b1,.slice a2 s.attrs.length b2,.slice E s.vals.length J,.slice a4 s.texts.length b4] 1);have W:H.next<=D.low:=by rw[u,l9];exact lR
 have a6:=S.next;have O:∀j,j<lo->D.get j=H.get j:=fun j hj=>S.get j oM;rw[j7 Ps rfl _ sM];refine J3 u.symm U @wrap_small ?_;refine j8 (F:=fun z=>u5 _ _ _ (u9 (inBlock 0 z) _)=_) (Dz D s.vals E J (X.mono O oM fun _ _ h=>h.mono O (fun _ hj=>oM)) h2 h3 _ (rF s.vals (s.names.length+1)) s.vals.length _ _ ⟨0,s.names.length+1,rfl,oM,oM,oM,rfl,rfl,rfl,rfl,rfl,rfl,rfl⟩) ?_;rintro o e' H2 ⟨ho,g1,g3,rfl,r0,r1⟩;simp(maxSteps:=20000000) -dsimp (disch:=first|omega|(simp only[rH]<;>omega)|fail) only[↓ig,rQ,N3,sevalprocAttr,tyA,ho,g1,g3,U,wrap_small,mK]
theorem oP{α:Type}{P:List α->Prop}(u:P [])(z:∀l x,P l->P (l++[x])) (l:List α):P l:=by
 have:∀l:List α,P l.reverse:=by
  intro l;induction l with
  |nil=>exact u
  |cons x l D=>rw[List.reverse_cons];exact z _ _ D
 have h:=this l.reverse
 rwa [List.reverse_reverse]at h
def Z2(l:List (ByteArray×ByteArray))(x:ByteArray×ByteArray):List (ByteArray×ByteArray):=if P8 l x then l else l++[x]
def cU(l:List ByteArray)(x:ByteArray):List ByteArray:=if T7 l x then l else l++[x]
def I0(s:SpD)(n:ByteArray×ByteArray):SpD:=if P8 s.attrs n then s else{s with attrs:=s.attrs++[n],vals:=s.vals++[[]]}
def ixN(l:List (ByteArray×ByteArray))(n:ByteArray×ByteArray):Nat:=(ixG (fun y=>L3 n y) l 0).toNat
def L7(s:SpD)(q:Q):SpD:=
 if q.op=4 then{s with names:=Z2 s.names (qNm q)}
 else if q.op=5 then I0 s (qNm q)
 else if q.op=6 then{I0 s (qNm q)with vals:=(I0 s (qNm q)).vals.set (ixN (I0 s (qNm q)).attrs (qNm q)) (cU ((I0 s (qNm q)).vals.getD (ixN (I0 s (qNm q)).attrs (qNm q)) []) q.vl)}
 else if q.op=7 then{s with texts:=cU s.texts q.vl} else s
def spL(l:List Q):SpD:=⟨V5 4 4 l,V5 5 6 l,(V5 5 6 l).map fun n=>R9 6 n l,R9 7 (eB,eB) l⟩
theorem Z6(a b:Int)(l:List Q)(x:Q):V5 a b (l++[x])=if aQ a b x then Z2 (V5 a b l) (qNm x) else V5 a b l:=by
 unfold V5 lM;rw[List.foldl_append,List.foldl_cons,List.foldl_nil];unfold Z2 P8;cases aQ a b x with
 |false=>rfl
 |true=>
  simp only[Bool.true_and,if_true];generalize List.foldl _ _ l=acc;cases acc.any fun y=>L3 y (qNm x)<;>rfl
theorem cP(a:Int)(n:ByteArray×ByteArray)(l:List Q)(x:Q):R9 a n (l++[x])=if dt a n x then cU (R9 a n l) x.vl else R9 a n l:=by
 unfold R9 lM;rw[List.foldl_append,List.foldl_cons,List.foldl_nil];unfold cU T7;cases dt a n x with
 |false=>rfl
 |true=>
  simp only[Bool.true_and,if_true];generalize List.foldl _ _ l=acc;cases acc.any fun y=>cj y x.vl<;>rfl
theorem xR(a b:Int):∀l,(V5 a b l).Nodup:=by
 refine oP List.nodup_nil fun l x u=>?_;rw[Z6];split
 .unfold Z2;split
  .exact u
  .rename_i h;rw[List.nodup_append];refine⟨u,by simp,fun y D z E q=>?_⟩;rw[List.mem_singleton.1 E]at q;exact h (P9.2 (q▸D))
 .exact u
theorem CK(n:ByteArray×ByteArray):∀l,n∉V5 5 6 l->R9 6 n l=[]:=by
 refine oP (fun _=>rfl) fun l x O h=>?_;have u:n∈V5 5 6 l->n∈V5 5 6 (l++[x]):=fun h=>by
  rw[Z6];split
  .unfold Z2;split
   .exact h
   .exact List.mem_append.2 (.inl h)
  .exact h
 rw[cP,O (fun q=>h (u q))];split
 .rename_i z
  exfalso;apply h
  simp only[dt,Bool.and_eq_true,decide_eq_true_eq]at z;have E:qNm x=n:=Prod.ext_iff.2 z.2;have D:aQ 5 6 x=true:=by simp [aQ,z.1]
  rw[Z6,D,if_pos rfl];unfold Z2;split
  .rename_i J;rw[<-E];exact P9.1 J
  .rw[E];exact List.mem_append.2 (.inr (List.mem_singleton.2 rfl))
 .rfl
theorem zy:∀(l:List (ByteArray×ByteArray))(n:ByteArray×ByteArray)(k:Nat),n∈l->∃i:Nat,ixG (fun y=>L3 n y) l k=((k+i:Nat):Int)/\l[i]?=some n/\i<l.length
 |[],n,k,h=>by cases h
 |y::l,n,k,h=>by
  rw[ixG];by_cases e:n=y
  .rw[if_pos (E9.2 e)];exact⟨0,by simp,by rw[e];rfl,by simp⟩
  .rw[if_neg (fun q=>e (E9.1 q))];obtain⟨i,u,z,D⟩:=zy l n (k+1) (by simpa [e] using h);exact⟨i+1,by rw[u];omega,by simpa using z,by simp;omega⟩
theorem xF(l:List (ByteArray×ByteArray))(n:ByteArray×ByteArray)(h:n∈l):l[ixN l n]?=some n/\ixN l n<l.length/\ixG (fun y=>L3 n y) l 0=((ixN l n:Nat):Int):=by
 obtain⟨i,u,z,D⟩:=zy l n 0 h;have:ixN l n=i:=by unfold ixN;rw[u];omega
 rw[this];exact⟨z,D,by rw[u];omega⟩
theorem IP{α β:Type}[DecidableEq α](f g:α->β)(l:List α)(n:α)(i:Nat)(u:l[i]?=some n)(U:l.Nodup)(h:∀m,m≠n->g m=f m):(l.map f).set i (g n)=l.map g:=by
 apply List.ext_getElem?;intro j;rw[List.getElem?_set];by_cases z:i=j
 .subst z;have D:i<l.length:=(gS u).1;rw[if_pos rfl,List.getElem?_map,u,if_pos (by simpa using D)];rfl
 .rw[if_neg z,List.getElem?_map,List.getElem?_map];cases W:l[j]? with
  |none=>rfl
  |some m=>
   have:m≠n:=fun q=>by
    subst q;obtain⟨O,E⟩:=gS u;obtain⟨S,J⟩:=gS W;rcases Nat.lt_trichotomy i j with h|h|h
    .exact List.pairwise_iff_getElem.1 U i j O S h (E.trans J.symm)
    .exact z h
    .exact List.pairwise_iff_getElem.1 U j i S O h (J.trans E.symm)
   simp only[Option.map_some,h m this]
theorem pY(l:List Q)(n:ByteArray×ByteArray):I0 (spL l) n={spL l with attrs:=Z2 (V5 5 6 l) n,vals:=(Z2 (V5 5 6 l) n).map fun n=>R9 6 n l}:=by
 unfold I0 Z2;by_cases h:P8 (V5 5 6 l) n=true
 .rw[if_pos h,if_pos (show P8 (spL l).attrs n=true from h)];rfl
 .rw[if_neg h,if_neg (show¬P8 (spL l).attrs n=true from h)];have:R9 6 n l=[]:=CK n l (fun q=>h (P9.2 q));simp only[spL,List.map_append,List.map_cons,List.map_nil,this]
theorem FP(l:List Q)(x:Q)(hx:x.op=7->qNm x=(eB,eB)):spL (l++[x])=L7 (spL l) x:=by
 have U:∀n,x.op≠6->R9 6 n (l++[x])=R9 6 n l:=fun n h=>by rw[cP,if_neg (by simp [dt,h])]
 have W:x.op≠7->R9 7 (eB,eB) (l++[x])=R9 7 (eB,eB) l:=fun h=>by rw[cP,if_neg (by simp [dt,h])]
 have S:x.op≠4->V5 4 4 (l++[x])=V5 4 4 l:=fun h=>by rw[Z6,if_neg (by simp [aQ];omega)]
 have n5:x.op≠5->x.op≠6->V5 5 6 (l++[x])=V5 5 6 l:=fun h h2=>by rw[Z6,if_neg (by simp [aQ];omega)]
 unfold L7;by_cases z:x.op=4
 .have D:aQ 4 4 x=true:=by simp [aQ,z]
  rw[if_pos z];simp only[spL,U _ oM,W oM,n5 oM oM,Z6 4 4,D,if_true]
 rw[if_neg z];by_cases E:x.op=5
 .have D:aQ 5 6 x=true:=by simp [aQ,E]
  rw[if_pos E,pY];simp only[spL,U _ oM,W oM,S z,Z6 5 6,D,if_true]
 rw[if_neg E];by_cases u:x.op=6
 .have D:aQ 5 6 x=true:=by simp [aQ,u]
  rw[if_pos u,pY];obtain⟨A,X⟩:=eY (Z2 (V5 5 6 l) (qNm x));have O:V5 5 6 (l++[x])=A:=by rw[X,Z6,D];rfl
  have a1:A.Nodup:=by rw[<-O];exact xR 5 6 _
  have hm:qNm x∈A:=by
   rw[X];unfold Z2;split
   .rename_i h;exact P9.1 h
   .exact List.mem_append.2 (.inr (List.mem_singleton.2 rfl))
  obtain⟨q1,q2,_⟩:=xF A (qNm x) hm;rw[<-X];simp only;have hg:(A.map fun n=>R9 6 n l).getD (ixN A (qNm x)) []=R9 6 (qNm x) l:=by
   rw[List.getD_eq_getElem?_getD,List.getElem?_map,q1];rfl
  have a2:cU (R9 6 (qNm x) l) x.vl=(fun n=>R9 6 n (l++[x])) (qNm x):=by
   simp only;rw[cP,if_pos (by simp [dt,u])]
  rw[hg,a2,IP (fun n=>R9 6 n l) (fun n=>R9 6 n (l++[x])) A (qNm x) _ q1 a1 (fun m hm=>by
   rw[cP,if_neg];simp only[dt,Bool.and_eq_true,decide_eq_true_eq];exact fun q=>hm (Prod.ext_iff.2 q.2).symm)]
  simp only[spL,W oM,S z,O]
 rw[if_neg u];by_cases J:x.op=7
 .rw[if_pos J];have D:dt 7 (eB,eB) x=true:=by rw[dt,hx J];simp [J]
  simp only[spL,U _ u,S z,n5 E u,cP 7,D,if_true]
 .rw[if_neg J];simp only[spL,U _ u,W J,S z,n5 E u]
theorem FO(l:List Q)(u:∀x∈l,x.op=7->qNm x=(eB,eB)):l.foldl L7 ⟨[],[],[],[]⟩=spL l:=by
 have:∀l:List Q,(∀x∈l,x.op=7->qNm x=(eB,eB))->l.foldl L7 ⟨[],[],[],[]⟩=spL l:=by
  refine oP (fun _=>rfl) fun l x D h=>?_;rw[List.foldl_append,D (fun y z=>h y (by simp [z])),List.foldl_cons,List.foldl_nil,FP _ _ (h x sM)]
 exact this l u
theorem Ep:∀(n:Nat)(f:Bool)(q:Q),nQ q<=n->OkD f q->∀x∈fsQ f q,OkD true x:=by
 intro n;induction n with
 |zero=>intro f q J;cases q;rw[nQ]at J;omega
 |succ n O=>
  intro f q J h x D;obtain⟨p1,p2,_⟩:=h.parts;have S:nQ q=1+nL q.a+nL q.b:=by cases q;rw[nQ];rfl
  have mem:∀(l:List Q)(y:Q),y∈l->nQ y<=nL l:=by
   intro l;induction l with
   |nil=>intro y u;cases u
   |cons z l E=>
    intro y u;rw[nL];rcases List.mem_cons.1 u with rfl|u
    .omega
    .have:=E y u;omega
  rw[kg,List.mem_append,List.mem_append,eR,eR,List.mem_flatMap,List.mem_flatMap]at D;rcases D with D|⟨y,u,D⟩|⟨y,u,D⟩
  .cases f with
   |false=>cases D
   |true=>rw[if_pos rfl]at D;rw[List.mem_singleton.1 D];exact h
  .exact O f y (oN (mem _ _ u)) (p1 y u) x D
  .exact O (!f) y (oN (mem _ _ u)) (p2 y u) x D
theorem yD(q:Q)(h:OkD false q):(fsQ false q).foldl L7 ⟨[],[],[],[]⟩=spQ q:=by
 rw[FO _ fun x J D=>?_];rfl;obtain⟨_,_,_,z,_⟩:=(Ep _ false q lR h x J).parts;simp only[iG,if_true,Bool.and_eq_true]at z;have:=z.1.2;simp only[iH,Bool.and_eq_true,xn,D]at this;have u:=this.1;have:(decide (x.sp=eB)&&decide (x.lc=eB))=true:=by
  cases E:(decide (x.sp=eB)&&decide (x.lc=eB))with
  |true=>rfl
  |false=>rw[E]at u;revert u;decide
 simp only[Bool.and_eq_true,decide_eq_true_eq]at this;exact Prod.ext_iff.2 this
def bV(L:LV):Prop:=∀(i j:Nat)(a b:Value),L[i]?=some a->L[j]?=some b->i≠j->∀x,l7 a x->¬l7 b x
theorem bV.set{L:LV}{k n:Nat}{w v:Value}(h:bV L)(W:L[k]?=some w)(X:∀b,l7 v b->l7 w b\/n<=b) (J:∀x∈L,∀b,l7 x b->b<n):bV (L.set k v):=by
 intro i j a b z u D x S U;rw[List.getElem?_set]at z u;by_cases O:k=i
 .have E:k≠j:=fun q=>D (O.symm.trans q);rw[if_pos O]at z;rw[if_neg E]at u;split at z
  .cases z;rcases X x S with q|q
   .exact h k j w b W u E x q U
   .have:=J b (mG u) x U;omega
  .cases z
 .rw[if_neg O]at z;by_cases E:k=j
  .rw[if_pos E]at u;split at u
   .cases u;rcases X x U with q|q
    .exact h i k a w z W (fun q=>O q.symm) x S q
    .have:=J a (mG z) x S;omega
   .cases u
  .rw[if_neg E]at u;exact h i j a b z u D x S U
theorem bV.nil{L:LV}(h:bV L):bV (L++[nS]):=by
 intro i j a b u O D x z J;have key:∀(i:Nat)(a:Value),(L++[nS])[i]?=some a->l7 a x->L[i]?=some a:=fun i a u z=>by
  rw[List.getElem?_append]at u;split at u
  .exact u
  .cases E:i-L.length with
   |zero=>rw[E]at u;simp at u;rw[<-u]at z;exact absurd z (B8 x)
   |succ n=>rw[E]at u;simp at u
 exact h i j a b (key i a u z) (key j b O J) D x z J
theorem JC{cs us:LV}(h:D2 1 (w9 fun u=>[u]) cs us):cs=us:=by
 apply List.ext_getElem?;intro i;by_cases z:i<us.length
 .have D:=h.2 i us[i] (List.getElem?_eq_getElem z);have E:(cs.drop (i*1)).take 1=[us[i]]:=D;have:=congrArg (fun l=>l[0]?) E
  simpa [List.getElem?_take,List.getElem?_drop,List.getElem?_eq_getElem z] using this
 .have:=h.1;rw[List.getElem?_eq_none oM,List.getElem?_eq_none oM]
theorem FB(us:LV):D2 1 (w9 fun u=>[u]) us us:=by
 have:=FC (enc:=fun u:Value=>[u]) (sz:=1) (fun _=>rfl) us;have e:us.flatMap (fun u=>[u])=us:=sM;rw[e]at this;exact this
structure cd(H:N7)(gb:Nat)(O:Nat->Prop)(s:SpD)(w1 w2 w3 w4:Value)(us:LV):Prop where
 g:H.get gb=cE [w1,w2,w3,w4] 1
 n:u6 H (gb+1) 2 (w9 nmE) w1 s.names
 a:u6 H (gb+1) 2 (w9 nmE) w2 s.attrs
 v:u6 H (gb+1) 1 (w9 fun u=>[u]) w3 us
 len:us.length=s.vals.length
 al:s.attrs.length=s.vals.length
 u:∀(i:Nat)(u:Value)(l:List ByteArray),us[i]?=some u->s.vals[i]?=some l->u6 H (gb+1) 1 (w9 stE) u l
 t:u6 H (gb+1) 1 (w9 stE) w4 s.texts
 ap:bV (w1::w2::w3::w4::us)
 o:∀w∈w1::w2::w3::w4::us,∀b,l7 w b->O b
 lt:∀b,O b->gb<b/\b<H.next
theorem cd.keep{H H':N7}{E:Nat}{O J:Nat->Prop}{s:SpD}{w1 w2 w3 w4:Value}{us:LV}(h:cd H E O s w1 w2 w3 w4 us)(D:∀j,j=E\/O j->H'.get j=H.get j) (W:∀b,O b->J b) (S:∀b,J b->E<b/\b<H'.next):cd H' E J s w1 w2 w3 w4 us:=
 ⟨(D E (.inl rfl)).trans h.g,h.n.same fun b z=>D b (.inr (h.o _ sM b z)),h.a.same fun b z=>D b (.inr (h.o _ sM b z)),h.v.same fun b z=>D b (.inr (h.o _ sM b z)),h.len,h.al,
  fun i u l U X=>(h.u i u l U X).same fun b z=>D b (.inr (h.o _ (by simp [mG U]) b z)),h.t.same fun b z=>D b (.inr (h.o _ sM b z)),h.ap,fun w hw b z=>W b (h.o w hw b z),S⟩
structure lu(gb:Nat)(O0:Nat->Prop)(s0:SpD)(H0:N7)(O:Nat->Prop)(H:N7)(s:SpD):Prop where
 sub:∀b,O b->O0 b\/H0.next<=b
 chg:(s=s0/\∀b,O b->O0 b)\/∃b,(b=gb\/O0 b)/\H.low<=b
 but:∀j,j<H0.next->j≠gb->¬O0 j->H.get j=H0.get j
 stay:i6 gb H0 H
 low:H.low<=H0.low
def fx(gb:Nat)(O0:Nat->Prop)(s0:SpD)(H0 H:N7)(s:SpD):Prop:=∃O w1 w2 w3 w4 us,cd H gb O s w1 w2 w3 w4 us/\lu gb O0 s0 H0 O H s
theorem lu.refl(u:Nat)(O:Nat->Prop)(s:SpD)(H:N7):lu u O s H O H s:=⟨fun _ h=> .inl h,.inl ⟨rfl,fun _ h=>h⟩,fun _ _ _ _=>rfl,i6.refl _ _,lR⟩
theorem lu.trans{D:Nat}{O0 O1 O2:Nat->Prop}{s0 s1 s2:SpD}{H0 z u H2:N7}(h:lu D O0 s0 H0 O1 z s1)(E:i6 z.next z u)(hl:u.low<=z.low)(O:D<=z.next)(k:lu D O1 s1 u O2 H2 s2):lu D O0 s0 H0 O2 H2 s2:=by
 have n1:=h.stay.next;have n2:=E.next;have l2:=k.low;refine⟨fun b J=>?_,?_,fun j hj h1 h2=>?_,(h.stay.trans (E.weaken O)).trans k.stay,by have:=h.low;omega⟩
 .rcases k.sub b J with q|q
  .exact h.sub b q
  .exact .inr oM
 .rcases h.chg with⟨S,U⟩|⟨b,S,U⟩
  .rcases k.chg with⟨W,X⟩|⟨b,W,X⟩
   .exact .inl ⟨W.trans S,fun b J=>U b (X b J)⟩
   .exact .inr ⟨b,W.imp id (U b),X⟩
  .exact .inr ⟨b,S,oM⟩
 .rw[k.but j oM h1 (fun q=>by rcases h.sub j q with r|r;exact h2 r;omega),E.get j oM,h.but j hj h1 h2]
theorem lY{E:Nat}{O:Nat->Prop}{s s':SpD}{H D H':N7}{w1 w2 w3 w4 v:Value}{us:LV}(z:i6 H.next H D)(U:H.next<=D.low)(J:cd H E O s w1 w2 w3 w4 us)(hQ:fx E O s D H' s'):
  Ret (some (D6 v H H')) H fun v1 H2=>v1=v/\fx E O s H H2 s':=by
 have n1:=z.next;have a1:=u7 J.g;obtain⟨O',x1,x2,x3,x4,W,R,T⟩:=hQ;refine E1 (fun _ hl=>⟨rfl,?_⟩) ⟨rfl,?_⟩
 .rcases T.chg with⟨u,X⟩|⟨b,u,X⟩
  .rw[u];exact⟨O,w1,w2,w3,w4,us,J,lu.refl _ _ _ _⟩
  .have:b<H.next:=by
    rcases u with u|u
    .omega
    .exact(J.lt b u).2
   omega
 .refine⟨O',x1,x2,x3,x4,W,R.keep (fun _ _=>rfl) (fun _ h=>h) R.lt,fun b hb=>?_,?_,fun j S h1 h2=>?_,⟨?_,fun k hk q=>?_,fun j S=>?_⟩,Nat.min_le_left _ _⟩
  .rcases T.sub b hb with q|q
   .exact .inl q
   .exact .inr oM
  .rcases T.chg with q|⟨b,u,X⟩
   .exact .inl q
   .exact .inr ⟨b,u,by show min H.low H'.low<=b;omega⟩
  .show H'.get j=H.get j;rw[T.but j oM h1 h2,z.get j S]
  .show H.next<=H'.next;have:=T.stay.next;omega
  .have:=T.stay.lowAll k hk oM;show k<=min H.low H'.low;omega
  .show H'.get j=H.get j;rw[T.stay.get j S,z.get j oM]
theorem dC{α:Type}{R:LV->α->Prop}{H H':N7}{lo sz:Nat}{v v':Value}{l:List α}(E:u6 H' lo sz R v' l)(u:ak lo v H v' H'):Ret (some (D6 v' H H')) H fun J z=>u6 z lo sz R J l/\ak lo v H J z/\z.low<=H.low:=by
 refine E1 (fun D U=>⟨E.na D _ _,⟨i6.refl _ _,fun _ _ _=>rfl,fun b O=>?_⟩,lR⟩) ⟨E.low _,⟨⟨u.stay.next,fun k S q=>?_,u.stay.get⟩,u.but,u.new⟩,Nat.min_le_left _ _⟩
 .obtain⟨n,c,e⟩:=O;rw[e]at D;cases D
 .have:=u.stay.lowAll k S q;show k<=min H.low H'.low;omega
theorem JQ(H:N7)(lo:Nat)(v:Value)(l:List (ByteArray×ByteArray))(x:ByteArray×ByteArray)(W:lo<=H.next)(hO:u6 H lo 2 (w9 nmE) v l)(hl:l.length<=1000000):
  Ret (CL prog t6 126 [v,.agg (nmE x).toArray] H) H fun v' H'=>u6 H' lo 2 (w9 nmE) v' (Z2 l x)/\ak lo v H v' H'/\H'.low<=H.low:=by
 obtain⟨O,u⟩:=eY (N7.push ⟨H.bs,H.next⟩ (bC (nmE x) 1):N7);have S:i6 H.next H O:=by rw[u];first|exact i6.first H _|exact i6.start H
 have a5:=S.next;have a4:H.next<=O.low:=by rw[u];exact lR
 have D:=hO.keep S;have U:=Lt O O.next v l x lR D.sl oM;have X:ldC (some true) (some 2) 0 (nmE x)=some (.agg (nmE x).toArray):=rfl;have a3:(l.any fun y=>L3 x y)=P8 l x:=by unfold P8;congr 1;funext y;first|exact decide_eq_decide.2 ⟨Eq.symm,Eq.symm⟩|(rw[Bool.eq_iff_iff,E9,E9];exact eq_comm)
 rw[a3]at U;rw[j7 OT rfl _ sM];rcases b:P8 l x with _|_
 .rw[b]at U;have E:Z2 l x=l++[x]:=by rw[Z2,b];rfl
  obtain⟨v',h',H4,ha,a2,a1,z⟩:=D.push1F (P:=prog) (t:=95) (cs:=nmE x) (a:=x) (by exact sV.2.2.2.2.2.2) dP.1 dP.2.1 dP.2.2.1 oM oM rfl rfl oM oM;have J:O.get H.next=cE (nmE x) 1:=by rw[u];exact j9
  refine J6 u.symm J U X ha a2 ?_;rw[E];exact dC a1 ⟨(S.weaken W).trans z.stay,fun j hj h=>by rw[z.but j oM h,S.get j hj],fun b hb=>(z.new b hb).imp id fun q=>oM⟩
 .rw[b]at U;have E:Z2 l x=l:=by rw[Z2,b];rfl
  have J:O.get H.next=cE (nmE x) 1:=by rw[u];exact j9
  refine J4 u.symm J U X ?_;rw[E];exact dC D (ak.of v S W)
theorem CV(H:N7)(lo:Nat)(v:Value)(l:List (ByteArray))(x:ByteArray)(S:lo<=H.next)(hO:u6 H lo 1 (w9 stE) v l)(hl:l.length<=1000000):
  Ret (CL prog t6 128 [v,.string x] H) H fun v' H'=>u6 H' lo 1 (w9 stE) v' (cU l x)/\ak lo v H v' H'/\H'.low<=H.low:=by
 obtain⟨W,u⟩:=eY (⟨H.bs,H.next⟩:N7);have J:i6 H.next H W:=by rw[u];first|exact i6.first H _|exact i6.start H
 have U:=J.next;have a3:H.next<=W.low:=by rw[u];exact lR
 have D:=hO.keep J;have O:=Ew W W.next v l x lR D.sl oM;have a4:ldC (some true) (some 1) 0 (stE x)=some (.agg (stE x).toArray):=rfl;have a2:(l.any fun y=>cj x y)=T7 l x:=by unfold T7;congr 1;funext y;first|exact decide_eq_decide.2 ⟨Eq.symm,Eq.symm⟩|(rw[Bool.eq_iff_iff,E9,E9];exact eq_comm)
 rw[a2]at O;rw[j7 OV rfl _ sM];rcases b:T7 l x with _|_
 .rw[b]at O;have E:cU l x=l++[x]:=by rw[cU,b];rfl
  obtain⟨v',h',H4,ha,a1,X,z⟩:=D.push1F (P:=prog) (t:=97) (cs:=stE x) (a:=x) (by exact bU.2.2.2.2.2.2) ty9.1 ty9.2.1 ty9.2.2.1 oM oM rfl rfl oM oM;have _:=U;refine J4 u.symm O ha a1 ?_;rw[E];exact dC X ⟨(J.weaken S).trans z.stay,fun j hj h=>by rw[z.but j oM h,J.get j hj],fun b hb=>(z.new b hb).imp id fun q=>oM⟩
 .rw[b]at O;have E:cU l x=l:=by rw[cU,b];rfl
  have _:=U;refine J2 u.symm O ?_;rw[E];exact dC D (ak.of v J S)
theorem nh(l:List (ByteArray×ByteArray))(n:ByteArray×ByteArray):(l.any fun y=>L3 n y)=P8 l n:=by
 unfold P8;congr 1;funext y;rw[Bool.eq_iff_iff,E9,E9];exact eq_comm
theorem HJ(l:List (ByteArray×ByteArray))(n:ByteArray×ByteArray)(h:P8 l n=false):ixN (l++[n]) n=l.length:=by
 have:∀(l:List (ByteArray×ByteArray))(k:Nat),(l.any fun y=>L3 n y)=false->ixG (fun y=>L3 n y) (l++[n]) k=((k+l.length:Nat):Int):=by
  intro l;induction l with
  |nil=>intro k _;rw[List.nil_append,ixG,if_pos (E9.2 rfl)];simp
  |cons y l z=>
   intro k u;rw[List.any_cons,Bool.or_eq_false_iff]at u;rw[List.cons_append,ixG,if_neg (by rw[u.1];decide),z (k+1) u.2,List.length_cons];congr 1;omega
 unfold ixN;rw[this l 0 (by rw[nh];exact h)];omega
theorem cd.inl{H:N7}{u:Nat}{O:Nat->Prop}{s:SpD}{w1 w2 w3 w4:Value}{us:LV}(h:cd H u O s w1 w2 w3 w4 us){w:Value}(D:w∈w1::w2::w3::w4::us){b:Nat}(z:l7 w b):u<b/\b<H.next:=h.lt b (h.o w D b z)
theorem zh(H:N7)(E:Nat)(O:Nat->Prop)(s:SpD)(w1 w2 w3 w4:Value)(us:LV)(n:ByteArray×ByteArray)(hR:cd H E O s w1 w2 w3 w4 us)(hl:s.attrs.length<=100000):
  Ret (CL prog t6 127 [pT E,.agg (nmE n).toArray] H) H fun v J=>v=iV (ixN (I0 s n).attrs n)/\fx E O s H J (I0 s n):=by
 obtain⟨J,a1⟩:=eY (N7.push ⟨H.bs,H.next⟩ (bC (nmE n) 1):N7);have hS:i6 H.next H J:=by rw[a1];exact i6.first H _
 have e5:J.next=H.next+1:=by rw[a1,i5];rfl
 have a6:H.next<=J.low:=by rw[a1];exact lR
 have d5:=u7 hR.g;have g1:J.get H.next=cE (nmE n) 1:=by rw[a1];exact j9
 have z:cd J E O s w1 w2 w3 w4 us:=hR.keep (fun j hj=>hS.get j (by rcases hj with rfl|hj;exact d5;exact(hR.lt j hj).2)) (fun _ h=>h) (fun b D=>by have:=hR.lt b D;omega);have a8:=z.g;have c8:ldC (some true) (some 2) 0 (nmE n)=some (.agg (nmE n).toArray):=rfl;have hh:=zr J J.next w2 s.attrs n lR z.a.sl oM;have r0:[w1,w2,w3,w4][1]?=some w2:=rfl;rw[j7 OU rfl _ sM];rcases b:P8 s.attrs n with _|_
 .have b3:ixG (fun y=>L3 n y) s.attrs 0= -1:=by
   rcases dS (fun y=>L3 n y) s.attrs 0 with q|q
   .exact q.2
   .have:=q.1;rw[nh,b]at this;cases this
  rw[b3]at hh;have b2:I0 s n={s with attrs:=s.attrs++[n],vals:=s.vals++[[]]}:=by rw[I0,b];rfl
  rw[b2];simp only;rw[HJ _ _ b];obtain⟨X,h2,K2,c0,b0,a5,S⟩:=z.a.push1F (P:=prog) (t:=95) (cs:=nmE n) (a:=n) (by exact sV.2.2.2.2.2.2) dP.1 dP.2.1 dP.2.2.1 oM oM rfl rfl oM oM;obtain⟨K1,b8,-,-,s1⟩:=pushE J (bC (nmE n) 2);rw[<-b8]at c0 b0;have c9:∀w∈w1::w2::w3::w4::us,∀b,l7 w b->b≠E:=fun w hw b D=>oN (z.inl hw D);have n2:=S.next;have g2:K2.get E=cE [w1,w2,w3,w4] 1:=(S.but E oM (fun q=>c9 w2 sM E q rfl)).trans a8;have d3:K1.get E=cE [w1,w2,w3,w4] 1:=(s1.get E oM).trans a8;have b6:∀b,l7 w3 b->¬l7 w2 b:=fun b h3 h2=>z.ap 1 2 w2 w3 rfl rfl oM b h2 h3;have d4:u6 K2 (E+1) 1 (w9 fun u=>[u]) w3 us:=z.v.same fun b D=>S.but b (z.inl sM D).2 (b6 b D);obtain⟨v3,h3,K4,c4,b1,a9,U⟩:=d4.push1F (P:=prog) (t:=96) (cs:=[nS]) (a:=nS) (by exact MF.2.2.2.2.2.2) bU.1 bU.2.1 bU.2.2.1 oM oM rfl rfl (by have:=z.len;have:=z.al;omega) oM;obtain⟨K3,b9,-,-,s3⟩:=pushE K2 (bC [nS] 1);rw[<-b9]at c4 b1;have n4:=U.next;have g3:K3.get E=cE [w1,w2,w3,w4] 1:=(s3.get E oM).trans g2;have g4:K4.get E=cE [w1,w2,w3,w4] 1:=(U.but E oM (fun q=>c9 w3 sM E q rfl)).trans g2;obtain⟨a2,c2,e2⟩:=a5.slice;obtain⟨a3,c3,e3⟩:=a9.slice;have d1:X.cells.toList=[X]:=by rw[e2];rfl
  have e1:Value.oneCell' X=true:=by rw[e2];rfl
  have d2:v3.cells.toList=[v3]:=by rw[e3];rfl
  have e4:Value.oneCell' v3=true:=by rw[e3];rfl
  obtain⟨K5,a4⟩:=eY (K4.put E (bC [w1,X,w3,w4] 1));have g5:K5.get E=cE [w1,X,w3,w4] 1:=by rw[a4];exact j5 oM
  obtain⟨K6,W⟩:=eY (K5.put E (bC [w1,X,v3,w4] 1));have n6:K6.next=K4.next:=by rw[W,t5,a4,t5]
  have g6:K6.get E=cE [w1,X,v3,w4] 1:=by rw[W];exact j5 (by rw[a4,t5];omega)
  have c5:bsA prog (some 48) J 1 [(0,.agg (nmE n).toArray)]=some (sL J.next 1 1,K1):=by
   rw[b8];simp only[C7,dP,C8];rfl
  have c6:bsA prog (some 97) K2 1 [(0,nS)]=some (sL K2.next 1 1,K3):=by
   rw[b9];simp only[C7,bU,C8];rfl
  have b5:∀Hx:N7,D7 prog .len [95] [X] Hx=some (.int .i64 ((s.attrs.length:Int)+1),none):=fun Hx=>by
   rw[e2,List.length_append];refine J1 sV ?_;simp
  have e6:∀j,j≠E->K6.get j=K4.get j:=fun j hj=>by rw[W,j6 (fun q=>hj q.symm),a4,j6 (fun q=>hj q.symm)]
  refine J25 a1.symm g1 a8 c8 hh c5 d3 c0 b0 g2 c6 g3 c4 b1 g4 d1 e1 a4.symm g5 d2 e4 W.symm g6 b5 @wrap_small ?_;have ew:(s.attrs.length:Int)+1-1=s.attrs.length:=oM;rw[ew];have b4:∀j,j<J.next->¬l7 w2 j->¬l7 w3 j->K4.get j=J.get j:=fun j hj h2 h3=>by rw[U.but j oM h3,S.but j hj h2]
  refine lY (w1:=w1) (w2:=w2) (w3:=w3) (w4:=w4) (us:=us) hS a6 hR ⟨R6 O J K6,w1,X,v3,w4,us++[nS],⟨g6,?_,?_,?_,?_,?_,?_,?_,?_,?_,?_⟩,?_,?_,?_,?_,?_⟩
  .exact z.n.same fun b D=>by
    have:=z.inl (w:=w1) sM D;rw[e6 b oM,b4 b this.2 (fun q=>z.ap 0 1 w1 w2 rfl rfl oM b D q) (fun q=>z.ap 0 2 w1 w3 rfl rfl oM b D q)]
  .exact a5.same fun b D=>by
    have d8:=a5.lt D;rw[e6 b oM,U.but b d8.2 fun q=>?_];rcases S.new b D with r|r
    .exact b6 b q r
    .have:=z.inl (w:=w3) sM q;omega
  .exact a9.same fun b D=>e6 b (oN (a9.lt D))
  .rw[List.length_append,List.length_append,z.len];rfl
  .rw[List.length_append,List.length_append,z.al];rfl
  .intro i u l hu hl;have c7:=z.len;by_cases hi:i<us.length
   .rw[List.getElem?_append_left hi]at hu;rw[List.getElem?_append_left oM]at hl;exact(z.u i u l hu hl).same fun b D=>by
     have:=z.inl (w:=u) (by simp [mG hu]) D;rw[e6 b oM,b4 b this.2 (fun q=>z.ap (i+4) 1 u w2 hu rfl oM b D q) (fun q=>z.ap (i+4) 2 u w3 hu rfl oM b D q)]
   .rw[List.getElem?_append_right oM]at hu hl;cases hm:i-us.length with
    |zero=>
     rw[hm]at hu;rw[<-c7,hm]at hl;simp at hu hl
     first|rw[<-hu,<-hl]|rw[<-hu,hl]
     exact u6.nil
    |succ m=>rw[hm]at hu;simp at hu
  .exact z.t.same fun b D=>by
    have:=z.inl (w:=w4) sM D;rw[e6 b oM,b4 b this.2 (fun q=>z.ap 3 1 w4 w2 rfl rfl oM b D q) (fun q=>z.ap 3 2 w4 w3 rfl rfl oM b D q)]
  .have p1:bV (w1::X::w3::w4::us):=z.ap.set (k:=1) (v:=X) (n:=J.next) rfl S.new (fun x hx b D=>(z.inl hx D).2);have p2:bV (w1::X::v3::w4::us):=p1.set (k:=2) (v:=v3) (n:=K2.next) rfl U.new (fun x hx b D=>by
    rcases List.mem_cons.1 hx with rfl|hx
    .have:=z.inl (w:=x) sM D;omega
    rcases List.mem_cons.1 hx with rfl|hx
    .exact(a5.lt D).2
    .have:=z.inl (w:=x) (List.mem_cons_of_mem _ (List.mem_cons_of_mem _ hx)) D;omega)
   exact p2.nil
  .intro w hw b D;have a7:∀w∈w1::w2::w3::w4::us,l7 w b->R6 O J K6 b:=fun w hw D=> .inl (z.o w hw b D);have d9:w=w1\/w=X\/w=v3\/w=w4\/w∈us\/w=nS:=by
    have:w∈w1::X::v3::w4::(us++[nS]):=hw;simp only[List.mem_cons,List.mem_append,List.mem_singleton,List.not_mem_nil,or_false]at this;exact this
   rcases d9 with h|h|h|h|h|h
   .exact a7 w1 sM (h▸D)
   .rw[h]at D;rcases S.new b D with r|r
    .exact a7 w2 sM r
    .exact .inr ⟨r,by have:=a5.lt D;omega⟩
   .rw[h]at D;rcases U.new b D with r|r
    .exact a7 w3 sM r
    .exact .inr ⟨oM,by have:=a9.lt D;omega⟩
   .exact a7 w4 sM (h▸D)
   .exact a7 w (by simp [h]) D
   .rw[h]at D;exact absurd D (B8 b)
  .intro b D;rcases D with D|D
   .have:=z.lt b D;omega
   .omega
  .intro b D;exact D.imp id fun h=>h.1
  .exact .inr ⟨E,.inl rfl,by rw[W,A4];omega⟩
  .intro j hj h1 h2;rw[e6 j h1,b4 j hj (fun q=>h2 (z.o w2 sM j q)) (fun q=>h2 (z.o w3 sM j q))]
  .rw[W,a4];exact(((S.stay.weaken oM).trans (U.stay.weaken oM)).trans (i6.put lR)).trans (i6.put lR)
  .have:K6.low<=E:=by rw[W,A4];omega
   omega
 .have d6:=P9.1 b;obtain⟨_,_,b3⟩:=xF s.attrs n d6;rw[b3]at hh;have b2:I0 s n=s:=by rw[I0,b];rfl
  have d0:decide ((0:Int)<=(ixN s.attrs n:Nat))=true:=decide_eq_true oM;rw[b2];refine J6 a1.symm g1 a8 c8 hh d0 ?_;have b7:=lY (v:=iV (ixN s.attrs n)) hS a6 hR ⟨O,w1,w2,w3,w4,us,z,lu.refl _ _ _ _⟩;rw[mX _ _ _ _ a6]at b7;exact b7
theorem Bn{H H':N7}{E:Nat}{O:Nat->Prop}{s:SpD}{w1 w2 w3 w4 v':Value}{us:LV}{l':List (ByteArray×ByteArray)}(D:cd H E O s w1 w2 w3 w4 us)(hO:u6 H' (E+1) 2 (w9 nmE) v' l')(U:ak (E+1) w1 H v' H')(hl:H'.low<=H.low):
  fx E O s H (H'.put E (bC [v',w2,w3,w4] 1)) {s with names:=l'}:=by
 have hn:=U.next;have a1:=u7 D.g;obtain⟨K,J⟩:=eY (H'.put E (bC [v',w2,w3,w4] 1));have nK:K.next=H'.next:=by rw[J,t5]
 have gK:K.get E=cE [v',w2,w3,w4] 1:=by rw[J];exact j5 oM
 have eK:∀j,j≠E->K.get j=H'.get j:=fun j hj=>by rw[J,j6 (fun q=>hj q.symm)]
 have sm:∀(i:Nat)(w:Value),(w1::w2::w3::w4::us)[i]?=some w->i≠0->∀b,l7 w b->K.get b=H.get b:=fun i w W hi b z=>by
  have:=D.inl (mG W) z;rw[eK b oM,U.but b this.2 (fun q=>D.ap i 0 w w1 W rfl hi b z q)]
 have hs:u6 K (E+1) 2 (w9 nmE) v' l':=hO.same fun b z=>eK b (oN (hO.lt z));have X:∀(w:Value)(i:Nat){α:Type}{sz:Nat}{R:LV->α->Prop}{l:List α},(w1::w2::w3::w4::us)[i]?=some w->i≠0->u6 H (E+1) sz R w l->u6 K (E+1) sz R w l:=fun w i _ _ _ _ W hi h=>h.same (sm i w W hi);rw[<-J];refine⟨R6 O H K,v',w2,w3,w4,us,⟨gK,?_,?_,X w3 2 rfl oM D.v,D.len,D.al,fun i u l hu hl=>X u (i+4) hu oM (D.u i u l hu hl),?_,D.ap.set (k:=0) (v:=v') (n:=H.next) rfl U.new (fun x hx b z=>(D.inl hx z).2),fun w W b z=>?_,fun b z=>?_⟩,fun b z=>z.imp id fun h=>h.1,.inr ⟨E,.inl rfl,by rw[J,A4];omega⟩,fun j hj h1 h2=>by rw[eK j h1,U.but j hj (fun q=>h2 (D.o w1 sM j q))],by rw[J];exact(U.stay.weaken oM).trans (i6.put lR),by rw[J,A4];omega⟩
 .first|exact hs|exact X w1 0 rfl oM D.n
 .exact X w2 1 rfl oM D.a
 .first|exact hs|exact X w4 3 rfl oM D.t
 .by_cases h:w∈w1::w2::w3::w4::us
  .exact .inl (D.o w h b z)
  .have:w=v':=by
    apply Classical.byContradiction;intro hv;have S:w∈v'::w2::w3::w4::us:=W;apply h;simp only[List.mem_cons,hv,false_or]at S ⊢
    first|exact .inr S|(rcases S with q|q|q|q;exact .inl q;exact .inr (.inl q);exact .inr (.inr (.inl q));exact .inr (.inr (.inr (.inr q))))
   rw[this]at z;rcases U.new b z with r|r
   .exact .inl (D.o w1 sM b r)
   .exact .inr ⟨r,by have:=hO.lt z;omega⟩
 .rcases z with z|z
  .have:=D.lt b z;omega
  .omega
theorem Bo{H H':N7}{E:Nat}{O:Nat->Prop}{s:SpD}{w1 w2 w3 w4 v':Value}{us:LV}{l':List (ByteArray)}(D:cd H E O s w1 w2 w3 w4 us)(hO:u6 H' (E+1) 1 (w9 stE) v' l')(U:ak (E+1) w4 H v' H')(hl:H'.low<=H.low):
  fx E O s H (H'.put E (bC [w1,w2,w3,v'] 1)) {s with texts:=l'}:=by
 have hn:=U.next;have a1:=u7 D.g;obtain⟨K,J⟩:=eY (H'.put E (bC [w1,w2,w3,v'] 1));have nK:K.next=H'.next:=by rw[J,t5]
 have gK:K.get E=cE [w1,w2,w3,v'] 1:=by rw[J];exact j5 oM
 have eK:∀j,j≠E->K.get j=H'.get j:=fun j hj=>by rw[J,j6 (fun q=>hj q.symm)]
 have sm:∀(i:Nat)(w:Value),(w1::w2::w3::w4::us)[i]?=some w->i≠3->∀b,l7 w b->K.get b=H.get b:=fun i w W hi b z=>by
  have:=D.inl (mG W) z;rw[eK b oM,U.but b this.2 (fun q=>D.ap i 3 w w4 W rfl hi b z q)]
 have hs:u6 K (E+1) 1 (w9 stE) v' l':=hO.same fun b z=>eK b (oN (hO.lt z));have X:∀(w:Value)(i:Nat){α:Type}{sz:Nat}{R:LV->α->Prop}{l:List α},(w1::w2::w3::w4::us)[i]?=some w->i≠3->u6 H (E+1) sz R w l->u6 K (E+1) sz R w l:=fun w i _ _ _ _ W hi h=>h.same (sm i w W hi);rw[<-J];refine⟨R6 O H K,w1,w2,w3,v',us,⟨gK,?_,?_,X w3 2 rfl oM D.v,D.len,D.al,fun i u l hu hl=>X u (i+4) hu oM (D.u i u l hu hl),?_,D.ap.set (k:=3) (v:=v') (n:=H.next) rfl U.new (fun x hx b z=>(D.inl hx z).2),fun w W b z=>?_,fun b z=>?_⟩,fun b z=>z.imp id fun h=>h.1,.inr ⟨E,.inl rfl,by rw[J,A4];omega⟩,fun j hj h1 h2=>by rw[eK j h1,U.but j hj (fun q=>h2 (D.o w4 sM j q))],by rw[J];exact(U.stay.weaken oM).trans (i6.put lR),by rw[J,A4];omega⟩
 .first|exact hs|exact X w1 0 rfl oM D.n
 .exact X w2 1 rfl oM D.a
 .first|exact hs|exact X w4 3 rfl oM D.t
 .by_cases h:w∈w1::w2::w3::w4::us
  .exact .inl (D.o w h b z)
  .have:w=v':=by
    apply Classical.byContradiction;intro hv;have S:w∈w1::w2::w3::v'::us:=W;apply h;simp only[List.mem_cons,hv,false_or]at S ⊢
    first|exact .inr S|(rcases S with q|q|q|q;exact .inl q;exact .inr (.inl q);exact .inr (.inr (.inl q));exact .inr (.inr (.inr (.inr q))))
   rw[this]at z;rcases U.new b z with r|r
   .exact .inl (D.o w4 sM b r)
   .exact .inr ⟨r,by have:=hO.lt z;omega⟩
 .rcases z with z|z
  .have:=D.lt b z;omega
  .omega
theorem Ht{H H':N7}{U:Nat}{O:Nat->Prop}{s:SpD}{w1 w2 w4 u J:Value}{us:LV}{D n c i:Nat}{l':List ByteArray}(z:cd H U O s w1 w2 (sL D n c) w4 us)(hu:us[i]?=some u)(hO:u6 H' (U+1) 1 (w9 stE) J l')(X:ak (U+1) u H J H')(hl:H'.low<=H.low):
  fx U O s H (H'.put D (bC (us.set i J) 1)) {s with vals:=s.vals.set i l'}:=by
 have hn:=X.next;have a9:=u7 z.g;have S:l7 (sL D n c) D:=⟨_,_,rfl⟩
 have l3:=z.inl (w:=sL D n c) sM S;have a1:(w1::w2::sL D n c::w4::us)[i+4]?=some u:=hu;obtain⟨K,hK⟩:=eY (H'.put D (bC (us.set i J) 1));have nK:K.next=H'.next:=by rw[hK,t5]
 have gK:K.get D=cE (us.set i J) 1:=by rw[hK];exact j5 oM
 have eK:∀j,j≠D->K.get j=H'.get j:=fun j hj=>by rw[hK,j6 (fun q=>hj q.symm)]
 have sm:∀(j:Nat)(w:Value),(w1::w2::sL D n c::w4::us)[j]?=some w->j≠i+4->j≠2->∀b,l7 w b->K.get b=H.get b:=fun j w hw hj a3 b E=>by
  have:=z.inl (mG hw) E;rw[eK b (fun q=>z.ap j 2 w _ hw rfl a3 b E (q▸S)),X.but b this.2 (fun q=>z.ap j (i+4) w u hw a1 hj b E q)]
 have ho:∀(w:Value)(j:Nat){α:Type}{sz:Nat}{R:LV->α->Prop}{l:List α},(w1::w2::sL D n c::w4::us)[j]?=some w->j≠i+4->j≠2->u6 H (U+1) sz R w l->u6 K (U+1) sz R w l:=fun w j _ _ _ _ hw hi h2 h=>h.same (sm j w hw hi h2);have a8:∀b,l7 J b->b≠D:=fun b E q=>by
  rcases X.new b E with r|r
  .exact z.ap (i+4) 2 u _ a1 rfl oM b r (q▸S)
  .omega
 have a4:n=us.length:=by obtain⟨_,_,q⟩:=z.v.slice;cases q;rfl
 have a2:bV (w1::w2::sL D n c::w4::us.set i J):=z.ap.set (k:=i+4) (v:=J) (n:=H.next) a1 X.new (fun x W b E=>(z.inl W E).2);have a6:u6 K (U+1) 1 (w9 fun u=>[u]) (sL D n c) (us.set i J):=⟨us.set i J,.inr ⟨D,c,by rw[a4,List.length_set],gK,oM,by simp⟩,FB _⟩
 have a5:u6 K (U+1) 1 (w9 stE) J l':=hO.same fun b E=>eK b (a8 b E);rw[<-hK];refine⟨R6 O H K,w1,w2,sL D n c,w4,us.set i J,⟨?_,ho w1 0 rfl oM oM z.n,ho w2 1 rfl oM oM z.a,a6,by rw[List.length_set,List.length_set];exact z.len,by rw[List.length_set];exact z.al,fun j x m W hm=>?_,ho w4 3 rfl oM oM z.t,a2,fun w hw b E=>?_,fun b E=>?_⟩,fun b E=>E.imp id fun h=>h.1,.inr ⟨D,.inr (z.o _ sM D S),by rw[hK,A4];omega⟩,fun j hj h1 h2=>by rw[eK j (fun q=>h2 (q▸z.o _ sM D S)),X.but j hj (fun q=>h2 (z.o u (by simp [mG hu]) j q))],by rw[hK];exact(X.stay.weaken oM).trans (i6.put oM),by rw[hK,A4];omega⟩
 .rw[eK U oM,X.but U oM (fun q=>by have:=z.inl (w:=u) (by simp [mG hu]) q;omega)];exact z.g
 .simp only at hm;rw[List.getElem?_set]at W hm;by_cases hj:i=j
  .rw[if_pos hj]at W hm;split at W
   .split at hm
    .cases W;cases hm;exact a5
    .cases hm
   .cases W
  .rw[if_neg hj]at W hm;exact ho x (j+4) W oM oM (z.u j x m W hm)
 .by_cases h:w∈w1::w2::sL D n c::w4::us
  .exact .inl (z.o w h b E)
  .have:w=J:=by
    apply Classical.byContradiction;intro hv;apply h;have a7:w=w1\/w=w2\/w=sL D n c\/w=w4\/w∈us.set i J:=by simpa only[List.mem_cons] using hw
    rcases a7 with q|q|q|q|q
    .simp [q]
    .simp [q]
    .simp [q]
    .simp [q]
    .rcases List.mem_or_eq_of_mem_set q with q|q
     .simp [q]
     .exact absurd q hv
   rw[this]at E;rcases X.new b E with r|r
   .exact .inl (z.o u (by simp [mG hu]) b r)
   .exact .inr ⟨r,by have:=hO.lt E;omega⟩
 .rcases E with E|E
  .have:=z.lt b E;omega
  .omega
end Go.Proofs.YtofbhlhamfkljaaGreatDoor.Ve
