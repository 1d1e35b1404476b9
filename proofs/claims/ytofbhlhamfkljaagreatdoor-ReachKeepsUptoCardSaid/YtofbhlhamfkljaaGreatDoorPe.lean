/- A part of the claim: the evaluator and the contracts. Conditions: none here. -/
import Derived.Test.YtofbhlhamfkljaaGreatDoorPd
import Derived.Test.YtofbhlhamfkljaaGreatDoorProg
import Derived.KernelRfl
import Derived.OrdersIn
import Derived.CallsIn
import Derived.RegionIn
import Derived.RangeFuncNested
import Derived.RangeFuncBound
import Derived.RangeFuncCalls
import Derived.RangeFuncLeaves
import Derived.Shelf.Abstract
import Derived.Shelf.RegionOpen
import Derived.WalkKit
import Derived.OwnWalkIn
import Derived.TacticsInMore
import Derived.LoopNIn
import Derived.LoopIn
namespace Go.Proofs.YtofbhlhamfkljaaGreatDoor.Ve
open Go Go.RowKit
open Go.Proofs.Tryz (prog)
set_option linter.unusedVariables false
set_option linter.unusedSimpArgs false
set_option maxRecDepth 1000000
set_option maxHeartbeats 0
theorem bW(x:Operand):isCall (.nilCheck x)=false:=rT
theorem Bb(u z:SoD)(y:List Bool)(b:Int)(l:List EdD):∀(n m:Nat)(bs:List Bool),(∀x∈l,0≤b+x.1∧b+x.1<bs.length)→fD bs+1≤n→n≤m→itE u z y b l m bs=itE u z y b l n bs:=by
 intro n;induction n with
 |zero=>intro m bs _ h;omega
 |succ n U=>
  intro m bs E W X;obtain⟨D,rfl⟩:∃D,m=D+1:=⟨m-1,oM⟩
  have J:=fc u z y b l (bs,false) E;rw[itE,itE];rcases O:(aL u z y b l (bs,false)).2 with _|_
  ·rfl
  ·simp only[if_true];have I:=J.2 O;simp only[Bool.false_eq_true,false_or]at I;exact U D _ (fun x S=>by rw[cI];exact E x S) oM oM
structure Fr1(pb:Nat)(H H':d9):Prop where
 stay:i4 pb H H'
 but:∀j,j<H.next→j≠pb→H'.get j=H.get j
 low:H'.low≤H.low
theorem Fr1.refl(h:Nat)(H:d9):Fr1 h H H:=⟨i4.refl _ _,fun _ _ _=>rfl,lR⟩
theorem Fr1.trans{u:Nat}{A B C:d9}(h:Fr1 u A B)(k:Fr1 u B C):Fr1 u A C:=⟨h.stay.trans k.stay,fun j z y=>by rw[k.but j (by have:=h.stay.next;omega) y,h.but j z y],Nat.le_trans k.low h.low⟩
theorem Fr1.of{u:Nat}{H H':d9}(h:i4 H.next H H')(D:u≤H.next)(z:H'.low≤H.low):Fr1 u H H':=⟨h.weaken D,fun j y _=>h.get j y,z⟩
theorem Fr1.put{h:Nat}{H:d9}{B:Blk}:Fr1 h H (H.put h B):=⟨i4.put lR,fun j _ u=>i9 (fun q=>u q.symm),by rw[A4];omega⟩
theorem yi(Hs:d9)(lo K pm D:Nat)(s:StD)(ev:EvD)(fi ne:SoD)(F:Nat→Prop)(O:d9)(n:Nat)(hn:n≤1000000)(b3:fm fi n)(b6:fm ne n)(b:Int)(hb:0≤b∧b≤1000000)(b8:D<O.next)(pc:Nat)(rp:LV)(c3:O.get pc=cE rp 1)(c8:pc≠D)
  (ha:Option Addr) (hc:Nat) (S:List Bool) (F2:Nat→Prop) (a3:∀j,F2 j→j<O.next∧j≠D) (hh:SlF O F2 1 (v8 boE) (.slice ha S.length hc) S)
  (va:Option Addr) (ca:Nat) (l:List EdD) (hv:SlF O F 4 (v8 edE) (.slice va l.length ca) l) (hF:∀j,F j→j<O.next∧j≠D) (hl:l.length≤1000000) (hw:∀x∈l,0≤x.1∧b+x.1<n∧0≤x.2.1∧b+x.2.1<n∧(x.2.2.1=3→0≤x.2.2.2∧x.2.2.2<S.length)) (r:List Bool×Bool):
  ∀kk e H2,(∃(j:Nat)(bs:List Bool)(m:Bool),kk=l.length-j∧j≤l.length∧e.get 0=pT pm∧e.get 4=pT pc∧e.get 5=iV b∧e.get 6= .slice ha S.length hc∧e.get 7= .bool m∧e.get 51= .slice va l.length ca∧e.get 52=iV l.length∧e.get 53=iV j∧bs.length=n∧N6 Hs lo K pm D s ev fi ne bs F H2∧Fr1 D O H2∧aL fi ne S b (l.drop j) (bs,m)=r)→
  u9 (LE prog t6 (.loop Gd) e H2) (fun o e H2=>o= .exit 2∧e.get 0=pT pm∧e.get 4=pT pc∧e.get 5=iV b∧e.get 6= .slice ha S.length hc∧e.get 7= .bool r.2∧r.1.length=n∧N6 Hs lo K pm D s ev fi ne r.1 F H2∧Fr1 D O H2):=by
 refine j7 _ _ ?_;rintro kk e H2 ⟨j,bs,m,hk,hj,f0,f4,f5,f6,f7,f51,f52,f53,z,hK,a2,E⟩;rcases bb:decide ((j:Int)<l.length)with _|_
 ·have b2:=dF bb;have:l.drop j=[]:=dN oM;rw[this,aL]at E;refine J3 f52 f53 bb ?_;exact l7 ⟨rfl,f0,f4,f5,f6,by rw[←E];exact f7,by rw[←E];exact z,by rw[←E];exact hK,a2⟩
 have b2:=dT bb;have c7:=a2.stay.next;have b9:=hK.pbl;obtain⟨x,nb,o,cs,own,el,hx,hd,rfl,a7,hg,c5,J,c4,y⟩:=hv.row (i:=j) oM;have y:el=edE x:=y;obtain⟨w1,w2,w3,w4,w5⟩:=hw x (List.mem_of_getElem? hx);have nt:(j:Int).toNat=j:=tN j;have gx:=(a2.but nb (hF _ a7).1 (hF _ a7).2).trans hg;have a1:el.all Value.oneCell'=true:=by rw[y];rfl
 have l1:el.length=4:=by rw[y];rfl
 have e0:el[0]?=some (.int .i64 x.1):=by rw[y];rfl
 have a8:ldC (some true) (some 4) 0 el=some (.agg el.toArray):=by rw[y];rfl
 obtain⟨W,u⟩:∃W,W=(H2.push (.cells [iV 0,iV 0,iV 0,iV 0] true 1)).put H2.next (.cells el true 1):=⟨_,rfl⟩
 have n3:W.next=H2.next+1:=by rw[u,j5,i5]
 have s3:i4 H2.next H2 W:=by rw[u];exact(i4.push lR).trans (i4.put lR)
 have g3:W.get H2.next=cE el 1:=by rw[u];exact i8 (by rw[i5];omega)
 have a6:splice [iV 0,iV 0,iV 0,iV 0] 0 el=el:=w7 _ _ (by rw[l1];rfl);have K3:=hK.work s3;have U:Fr1 D O W:=a2.trans (Fr1.of s3 oM (by rw[u,A4,t5];omega));obtain⟨rs,re,bc,d2,gp,b7,c0,c9,_,_,_,d0,d1,a5,_,_⟩:=K3.row;have gb:=K3.bits;have bg:=vk (bs:=bs) (i:=(b+x.1).toNat) oM;have bl:(bs.map cX).length=bs.length:=by simp
 have b4:SlF W F2 1 (v8 boE) (.slice ha S.length hc) S:=hh.mono (fun j hj=>U.but j (a3 j hj).1 (a3 j hj).2) (fun _ h=>h) iF;have I:=XN Hs lo K pm D s ev fi ne bs F W K3 (by rw[z];exact b3) (by rw[z];exact b6) oM b x ha hc S F2 (fun j hj=>by have:=a3 j hj;omega) b4 hb ⟨w3,oM⟩ w5;rw[←y]at I;rw[hd,aL]at E;have h0:0≤b+x.1:=oM;have c6:b+x.1<bs.length:=oM;rcases b0:bs.getD (b+x.1).toNat false with _|_
 ·have X:iY bs (b+x.1)=false:=b0;rw[b0]at bg;rcases b1:Bh fi ne S bs b x with _|_
  ·rw[b1]at I;simp only[X,b1,Bool.not_false,Bool.true_and,Bool.false_eq_true,if_false]at E;refine J23 f0 f5 f6 f51 f52 f53 bb gx nt J a1 l1 a6 u.symm g3 e0 gp a5 gb bg a8 I @wrap_small ?_;exact i6 (kk-1) oM ⟨j+1,bs,m,oM,oM,f0,f4,f5,f6,f7,f51,f52,rfl,z,K3,U,E⟩
  ·rw[b1]at I;simp only[X,b1,Bool.not_false,Bool.and_self,if_true]at E;obtain⟨H4,a4⟩:∃H4,H4=W.put D (.cells ((bs.map cX).set ((b+x.1).toNat*1) (.int .u8 1)) true 1):=⟨_,rfl⟩
   have K4:N6 Hs lo K pm D s ev fi ne (bs.set (b+x.1).toNat true) F H4:=by rw[a4,Nat.mul_one];exact K3.set (b+x.1).toNat
   have b5:(b+x.1).toNat*1+1≤bs.length:=oM;have a9:Fr1 D O H4:=U.trans (by rw[a4];exact Fr1.put);refine J27 f0 f5 f6 f51 f52 f53 bb gx nt J a1 l1 a6 u.symm g3 e0 gp a5 gb bg bl a8 I b5 a4.symm @bW @wrap_small ?_;exact i6 (kk-1) oM ⟨j+1,bs.set (b+x.1).toNat true,true,oM,oM,f0,f4,f5,f6,rfl,f51,f52,rfl,by simp [z],K4,a9,E⟩
 ·have X:iY bs (b+x.1)=true:=b0;rw[b0]at bg;simp only[X,Bool.not_true,Bool.false_and,Bool.false_eq_true,if_false]at E;refine J20 f0 f5 f51 f52 f53 bb gx nt J a1 l1 a6 u.symm g3 e0 gp a5 gb bg @wrap_small ?_;exact i6 (kk-1) oM ⟨j+1,bs,m,oM,oM,f0,f4,f5,f6,f7,f51,f52,rfl,z,K3,U,E⟩
theorem xP(Hs:d9)(lo K pm S:Nat)(s:StD)(ev:EvD)(I O:SoD)(F:Nat→Prop)(U:d9)(n:Nat)(hn:n≤1000000)(a7:fm I n)(a8:fm O n)(b:Int)(hb:0≤b∧b≤1000000)(b0:S<U.next)(pc:Nat)(rp:LV)(a2:U.get pc=cE rp 1)(a4:pc≠S)
  (ha:Option Addr) (hc:Nat) (E:List Bool) (F2:Nat→Prop) (X:∀j,F2 j→j<U.next∧j≠S) (hh:SlF U F2 1 (v8 boE) (.slice ha E.length hc) E)
  (va:Option Addr) (ca:Nat) (l:List EdD) (a9:rp[3]?=some (.slice va l.length ca)) (hv:SlF U F 4 (v8 edE) (.slice va l.length ca) l) (hF:∀j,F j→j<U.next∧j≠S) (hl:l.length≤1000000) (hw:∀x∈l,0≤x.1∧b+x.1<n∧0≤x.2.1∧b+x.2.1<n∧(x.2.2.1=3→0≤x.2.2.2∧x.2.2.2<E.length)) (r:List Bool):
  ∀kk e H2,(∃(bs:List Bool)(m:Bool),kk=(if m then fD bs+1 else 0)∧e.get 0=pT pm∧e.get 4=pT pc∧e.get 5=iV b∧e.get 6= .slice ha E.length hc∧e.get 7= .bool m∧bs.length=n∧N6 Hs lo K pm S s ev I O bs F H2∧Fr1 S U H2∧(if m then itE I O E b l (fD bs+1) bs else bs)=r)→
  u9 (LE prog t6 (.loop AG) e H2) (fun o e H2=>o= .exit 0∧r.length=n∧N6 Hs lo K pm S s ev I O r F H2∧Fr1 S U H2):=by
 refine j7 _ _ ?_;rintro kk e H2 ⟨bs,m,hk,f0,f4,f5,f6,f7,a3,hK,u,D⟩;cases m with
 |false=>
  simp only[Bool.false_eq_true,if_false]at D;refine J1 f7 ?_;exact l7 ⟨rfl,by rw[←D];exact a3,by rw[←D];exact hK,u⟩
 |true=>
  simp only[if_true]at D hk;have b1:=u.stay.next;have a5:=u6 a2;have g2:=(u.but pc a5 a4).trans a2;refine J4 f4 f7 g2 a9 ?_;refine l9 (F:=fun z=>u9 (inBlock 1 (inBlock 2 z)) _) (yi Hs lo K pm S s ev I O F H2 n hn a7 a8 b hb oM pc rp g2 a4 ha hc E F2 (fun j J=>by have:=X j J;exact⟨oM,this.2⟩) (hh.mono (fun j J=>u.but j (X j J).1 (X j J).2) (fun _ h=>h) iF) va ca l (hv.mono (fun j J=>u.but j (hF j J).1 (hF j J).2) (fun _ h=>h) iF) (fun j J=>by have:=hF j J;exact⟨oM,this.2⟩) hl hw (aL I O E b l (bs,false)) l.length _ _ ⟨0,bs,false,rfl,oM,f0,f4,f5,f6,rfl,rfl,rfl,rfl,a3,hK,Fr1.refl _ _,rfl⟩) ?_;rintro o e' H3 ⟨ho,g0,g4,g5,g6,g7,a1,K3,F3⟩;have W:∀x∈l,0≤b+x.1∧b+x.1<bs.length:=fun x hx=>by have:=hw x hx;omega
  have y:=fc I O E b l (bs,false) W;rw[itE]at D;obtain⟨z,hz⟩:∃z,z=aL I O E b l (bs,false):=⟨_,rfl⟩
  have a6:z.1.length=bs.length:=by rw[hz,cI]
  rw[←hz]at g7 a1 K3 D y;simp only[Bool.false_eq_true,false_or]at y;refine J1 ho ?_;obtain⟨z1,z2⟩:=z;simp only at g7 a1 K3 D y a6;refine i6 (if z2 then fD z1+1 else 0) ?_ ⟨z1,z2,rfl,g0,g4,g5,g6,g7,a1,K3,u.trans F3,?_⟩
  ·cases z2 with
   |false=>simp only[Bool.false_eq_true,if_false];omega
   |true=>have:=y.2 rfl;simp only[if_true];omega
  ·cases z2 with
   |false=>simpa using D
   |true=>
    simp only[if_true]at D ⊢;rw[←D];have:=y.2 rfl;exact(Bb I O E b l (fD z1+1) (fD bs) z1 (fun x hx=>by rw[a6];exact W x hx) lR oM).symm
theorem N6.low{u:d9}{lo K E D:Nat}{s:StD}{e:EvD}{y z:SoD}{bs:List Bool}{F:Nat→Prop}{H:d9}(h:N6 u lo K E D s e y z bs F H)(n:Nat):N6 u lo K E D s e y z bs F ⟨H.bs,n⟩:=by
 obtain⟨⟨rs,re,I,J,O,S⟩,U,W,X,h7,h8⟩:=h;exact⟨⟨rs,re,I,J,O.mono (fun _ _=>rfl) (fun _ h=>h) iF iF,w9 _ _ _ _ _ _ S (fun _ _=>rfl) (fun _ h=>h)⟩,U,W,X,h7,h8⟩
theorem GP{P:Program}{X:Lib}{f:FuncId}{l:E4}{y:Nat}{I:List ResultVar}(D:fnL P f=some (l,y,I))(z:X f=none)(args:LV)(E:args.length≤y)(H:d9){v:Value}{H':d9}(h:CL P X f args H=some (v,some H')):H'.low≤H.low:=by
 rw[j8 D z args E]at h;unfold u5 at h;split at h
 ·cases h
 ·obtain⟨J,_,u⟩:=Option.map_eq_some_iff.1 h;unfold D4 at u;split at u
  ·simp at u
  ·simp only[Prod.mk.injEq,Option.some.injEq]at u;rw[←u.2];show min H.low _≤H.low;omega
 ·cases h
theorem XK(Hs:d9)(lo K X y:Nat)(s:StD)(W:EvD)(fi ne:SoD)(bs:List Bool)(F:Nat→Prop)(H:d9)(hK:N6 Hs lo K X y s W fi ne bs F H)(l6:lo≤H.next)(hw:WfS s bs.length)(h4:fm fi bs.length)(i0:fm ne bs.length)(g6:W.attrs.length≤1000000)(i:Nat)(p:PrD)(b:Int)(hp:s.progs[i]?=some p)(hb:s.base[i]?=some b)(j0:p.ts.length≤1000000)(h0:p.ed.length≤1000000):
  Ret (CL prog t6 72 [pT X,iV i] H) H fun v H'=>v=undef∧N6 Hs lo K X y s W fi ne (gV s W fi ne p b bs) F H'∧Fr1 y H H':=by
 have m3:(⟨H.bs,H.next⟩:d9).next=H.next:=rfl;have Kb:N6 Hs lo K X y s W fi ne bs F ⟨H.bs,H.next⟩:=hK.work (i4.start H);obtain⟨w1,w2,w3⟩:=hw.at_ i p b hp hb;have m2:=w3.st;have k8:=w3.en;have i1:=hw.nle;obtain⟨K1,a1,n1,-⟩:=pushF H (.cells z5 true 1);have s1:i4 H.next ⟨H.bs,H.next⟩ K1:=by rw[a1];exact i4.push lR
 obtain⟨rs,re,bc,c3,g,k3,k4,e7,g9,b0,a9,_,_,e9,rk,_⟩:=Kb.row;obtain⟨pa,m4,ga,gc,xa,xc,ea,ec,ta,tc,e6,h1,h2,h3,_⟩:=N3 e7;have e4:=u6 g;have l8:=Kb.pbl;have r1:c3[1]?=some (.slice ga s.progs.length gc):=by rw[rk 1 oM,e6];rfl
 have r2:c3[2]?=some (.slice xa s.base.length xc):=by rw[rk 2 oM,e6];rfl
 have h7:i<s.progs.length:=(List.getElem?_eq_some_iff.1 hp).1;have h6:i<s.base.length:=(List.getElem?_eq_some_iff.1 hb).1;obtain⟨p',np,op,cp,k5,I,j3,_,rfl,g4,b8,k1,a4,k7,a6⟩:=h2.row (i:=i) h7;obtain rfl:p=p':=Option.some.inj (hp.symm.trans j3);obtain⟨b',nx,ox,cx,k6,f2,j2,_,rfl,d6,a7,k2,i3,g8,g5⟩:=h3.row (i:=i) h6;obtain rfl:b=b':=Option.some.inj (hb.symm.trans j2);have e1:f2=inE b:=g5;subst e1;have c7:cx[ox+i*1]?=some (.int .i64 b):=by have:=g8 0 oM;rw[Nat.add_zero]at this;exact this
 have ap:=fd a6;have lp:=aV a6;obtain⟨b2,b3,m5,m6,c0,i2,m0⟩:=E1 a6;have f0:I[2]?=some (.int .i64 p.en):=by rw[c0];rfl
 have j4:I[3]?=some (.slice b2 p.ed.length b3):=by rw[c0];rfl
 have e8:ldC (some true) (some 5) 0 I=some (.agg I.toArray):=by rw[c0];rfl
 obtain⟨K2,O⟩:∃K,K=K1.put H.next (.cells I true 1):=⟨_,rfl⟩
 have n2:K2.next=H.next+1:=by rw[O,j5,n1]
 have s2:i4 H.next ⟨H.bs,H.next⟩ K2:=by rw[O];exact s1.trans (i4.put lR)
 have g1:=(s1.get X e4).trans g;have g2:=(s2.get X e4).trans g;have d1:=(s1.get np (Kb.lt _ g4).1).trans b8;have d2:=(s1.get nx (Kb.lt _ d6).1).trans a7;have d3:=(s2.get nx (Kb.lt _ d6).1).trans a7;have d4:K1.get H.next=cE z5 1:=by rw[a1];exact i7
 have b5:K2.get H.next=cE I 1:=by rw[O];exact i8 oM
 have f1:splice z5 0 I=I:=w7 _ _ (by rw[lp];rfl);have nt:(i:Int).toNat=i:=tN i;have l3:(i:Int)<s.progs.length:=oM;have k0:(i:Int)<s.base.length:=oM;have b1:=Kb.work s2;obtain⟨F',b6⟩:∃F':Nat→Prop,F'=fun j=>F j∨j=y:=⟨_,rfl⟩
 have c4:∀j,F j→F' j:=fun j u=>by rw[b6];exact .inl u
 have b7:∀j,F j→K2.get j=(⟨H.bs,H.next⟩:d9).get j:=fun j u=>s2.get j (Kb.lt j u).1;have g7:SlF K2 F' 1 (v8 wB) (.slice (some ⟨y,0,none⟩) bs.length bc) bs:=by
  refine .inr ⟨y,0,bc,rfl,.inr ⟨_,true,by rw[b6];exact .inr rfl,b1.bits,by simp,fun j v u=>?_⟩⟩;show((bs.map cX).drop (0+j*1)).take 1=wB v;have h9:=(List.getElem?_eq_some_iff.1 u).1;rw[Nat.zero_add,Nat.mul_one,List.drop_eq_getElem_cons (by simpa using h9)];have:=(List.getElem?_eq_some_iff.1 u).2;simp [wB,this]
 obtain⟨wv,d5,H3,a2,E,S,s3⟩:=XM Hs lo K s p W bs F' K2 rs I re (some ⟨y,0,none⟩) bc (e7.mono b7 c4 iF iF) (a6.mono b7 c4 iF) (w9 _ _ _ _ _ _ g9 b7 c4) g7 (fun j u=>by
  rw[b6]at u;rcases u with u|u
  ·have:=Kb.lt j u;omega
  ·omega) b1.eq oM hw g6 j0
 have n3:=s3.next;have h8:H3.low≤K2.low:=by
  rcases d5 with _|Hx
  ·have e3:K2=H3:=E;rw[e3];exact lR
  ·have e3:Hx=H3:=E;rw[←e3];exact GP Xo rfl _ (by simp) _ a2
 have c6:=b1.work s3;obtain⟨wa,wc,ew⟩:=S.slice;rw[ew]at a2 S;have g3:H3.get X=cE c3 1:=(s3.get X oM).trans g2;have d0:H3.get H.next=cE I 1:=(s3.get _ oM).trans b5;have k9:0≤b+p.en:=oM;have l1:b+p.en<bs.length:=oM;have bl:(bs.map cX).length=bs.length:=by simp
 have e2:(b+p.en).toNat*1+1≤bs.length:=oM;obtain⟨U,J⟩:∃U,U=H3.put y (.cells ((bs.map cX).set ((b+p.en).toNat*1) (.int .u8 1)) true 1):=⟨_,rfl⟩
 have K4:N6 Hs lo K X y s W fi ne (bs.set (b+p.en).toNat true) F U:=by rw[J,Nat.mul_one];exact c6.set (b+p.en).toNat
 have n4:U.next=H3.next:=by rw[J,j5]
 have c9:=c6.bits;have b4:Fr1 y H3 U:=by rw[J];exact Fr1.put
 have c8:Fr1 y ⟨H.bs,H.next⟩ U:=((Fr1.of s2 oM (by rw[O,A4,a1,t5];omega)).trans (Fr1.of s3 oM h8)).trans b4;have g0:U.get H.next=cE I 1:=(b4.but _ oM oM).trans d0;have l4:U.low≤y:=by rw[J,A4];omega
 obtain⟨D,b9⟩:∃l,l=p.ts.map (R7 s W bs):=⟨_,rfl⟩
 have lhs:D.length=p.ts.length:=by rw[b9,List.length_map]
 rw[←b9]at a2 S;have h5:SlF U (fun j=>j9 (.slice wa D.length wc) j) 1 (v8 boE) (.slice wa D.length wc) D:=(S.same fun j u=>by have:=S.lt u;exact b4.but j this.2 oM).frz fun _ h=>h;have j1:SlF U F 4 (v8 edE) (.slice b2 p.ed.length b3) p.ed:=i2.mono (fun j u=>c8.but j (Kb.lt j u).1 (Kb.lt j u).2) (fun _ h=>h) iF;rw[j8 ae0 rfl _ (by simp)];have a8:∀(e5:Env),e5.get 0=pT X→e5.get 4=pT H.next→e5.get 5=iV b→e5.get 6= .slice wa D.length wc→e5.get 7= .bool true→
   Ret (u5 prog [] H (inBlock 0 (LE prog t6 AG.loop e5 U))) H fun v H'=>v=undef∧N6 Hs lo K X y s W fi ne (gV s W fi ne p b bs) F H'∧Fr1 y H H':=by
  intro e5 q0 q4 q5 q6 q7;refine l9 (F:=fun z=>Ret (u5 _ _ _ (inBlock 0 z)) _ _) (xP Hs lo K X y s W fi ne F U bs.length i1 h4 i0 b oM oM H.next I g0 oM wa wc D _ (fun j u=>by have:=S.lt u;omega) h5 b2 b3 p.ed j4 j1 (fun j u=>by have:=Kb.lt j u;omega) h0 (fun x hx=>by have:=w3.ed x hx;rw[lhs];omega) (gV s W fi ne p b bs) _ _ _ ⟨bs.set (b+p.en).toNat true,true,rfl,q0,q4,q5,q6,q7,by simp,K4,Fr1.refl _ _,by rw[gV,←b9];rfl⟩) ?_;rintro o e' H5 ⟨ho,m1,K5,c5⟩;have a5:=c8.trans c5;have l5:H5.low≤y:=Nat.le_trans c5.low l4;refine J1 ho ?_;refine D7 (fun _ hl=>oM) ⟨rfl,?_,?_⟩
  ·exact K5.low _
  ·exact⟨⟨a5.stay.next,fun k q1 q2=>(by have:=a5.stay.lowAll k q1 (show k≤H.next from oM);show k≤min H.low H5.low;omega),a5.stay.get⟩,a5.but,by show min H.low H5.low≤H.low;omega⟩
 rcases d5 with _|Hx
 ·have e3:K2=H3:=E;subst e3;have a3:CL prog t6 93 [.agg rs.toArray,.agg I.toArray,.agg re.toArray,.slice (some ⟨y,0,none⟩) bs.length bc] K2=some (.slice wa D.length wc,none):=a2;refine J30 g r1 r2 nt b8 a4 a7 c7 a1.symm g1 g2 d1 d2 d4 ap lp f1 O.symm d3 b0 b5 e8 a9 e9 a3 @bW f0 c9 (And.intro bl e2) (And.intro J.symm @wrap_small) ?_;exact a8 _ rfl rfl rfl rfl rfl
 ·have e3:Hx=H3:=E;subst e3;have a3:CL prog t6 93 [.agg rs.toArray,.agg I.toArray,.agg re.toArray,.slice (some ⟨y,0,none⟩) bs.length bc] K2=some (.slice wa D.length wc,some Hx):=a2;refine J30 g r1 r2 nt b8 a4 a7 c7 a1.symm g1 g2 d1 d2 d4 ap lp f1 O.symm d3 b0 b5 e8 a9 e9 a3 @bW (And.intro g3 d0) (And.intro f0 c9) (And.intro bl e2) (And.intro J.symm @wrap_small) ?_;exact a8 _ rfl rfl rfl rfl rfl
theorem wS(H:d9)(u:Nat)(bs:List Bool)(c:Nat)(y:H.get u=cE (bs.map cX) 1):W8 prog H 81 9 (.slice (some ⟨u,0,none⟩) bs.length c)=some (.string (rU bs),none):=by
 have key:∀l:List Bool,(l.map cX).mapM bB=some (l.map fun b=>if b then(1:UInt8) else 0):=by
  intro l;induction l with
  |nil=>rfl
  |cons b l D=>
   rw[List.map_cons,List.mapM_cons,D];cases b<;>rfl
 have z:A3 H 1 (.slice (some ⟨u,0,none⟩) bs.length c)=some (bs.map cX):=by
  simp only[A3];by_cases h:bs.length=0
  ·rw[if_pos h];have:bs=[]:=List.length_eq_zero_iff.1 h;rw[this];rfl
  ·rw[if_neg h,y];simp;exact List.take_of_length_le (by simp)
 simp only[W8,yP.2.2.2.2.2.2,ty9.2.2.2.2.2.2,ty5.2.2.2.2.2.2,z,Option.bind_some,key];rfl
theorem yB(W:d9)(lo K J I:Nat)(s:StD)(u:EvD)(y D:SoD)(F:Nat→Prop)(U:d9)(n:Nat)(S:WfS s n)(b2:lo≤U.next)(a5:fm y n)(a8:fm D n)(X:u.attrs.length≤1000000)(a9:∀p∈s.progs,p.ts.length≤1000000∧p.ed.length≤1000000) (r:List Bool) (p5 p8:Value):
  ∀kk e H2,(∃(i:Nat)(bs:List Bool),kk=s.progs.length-i∧i≤s.progs.length∧e.get 5=p5∧e.get 8=p8∧e.get 9=pT J∧e.get 22=iV s.progs.length∧e.get 23=iV i∧bs.length=n∧N6 W lo K J I s u y D bs F H2∧Fr1 I U H2∧cn s u y D ((s.progs.zip s.base).drop i) bs=r)→
  u9 (LE prog t6 (.loop FH) e H2) (fun o e H2=>o= .exit 0∧e.get 5=p5∧e.get 8=p8∧e.get 9=pT J∧r.length=n∧N6 W lo K J I s u y D r F H2∧Fr1 I U H2):=by
 refine j7 _ _ ?_;rintro kk e H2 ⟨i,bs,hk,hi,f5,f8,f9,f22,f23,h,hK,z,E⟩;rcases b:decide ((i:Int)<s.progs.length)with _|_
 ·have a1:=dF b;have:(s.progs.zip s.base).drop i=[]:=dN (by rw[List.length_zip];omega);rw[this,cn]at E;refine J3 f22 f23 b ?_;exact l7 ⟨rfl,f5,f8,f9,by rw[←E];exact h,by rw[←E];exact hK,z⟩
 have a1:=dT b;have b0:=S.l1;have b1:=S.l2;obtain⟨p,hp,a4⟩:=S4 (l:=s.progs) (i:=i) oM;obtain⟨O,a2,a3⟩:=S4 (l:=s.base) (i:=i) oM;have hz:(s.progs.zip s.base).drop i=(p,O)::(s.progs.zip s.base).drop (i+1):=by
  rw[eO,a4,a3,List.zip_cons_cons,eO]
 rw[hz,cn]at E;have b3:=z.stay.next;obtain⟨z1,z2⟩:=a9 p (List.mem_of_getElem? hp);obtain⟨v,h3,H3,hc,a6,rfl,K3,F3⟩:=XK W lo K J I s u y D bs F H2 hK oM (by rw[h];exact S) (by rw[h];exact a5) (by rw[h];exact a8) X i p O hp a2 z1 z2;have a7:(gV s u y D p O bs).length=n:=by rw[gV,ph];simp [h]
 have b4:=S.l0;refine J7 f9 f22 f23 b hc a6 @wrap_small ?_;exact i6 (kk-1) oM ⟨i+1,gV s u y D p O bs,oM,oM,f5,f8,f9,f22,rfl,a7,K3,z.trans F3,E⟩
abbrev z20:LV:=[nS,nS,nS,iV 0,iV 0,iV 0,nS,nS,iV 0,.string eB,.string eB,nS,.string eB,.bool false,.bool false,.string eB,.bool false,.bool false,.string eB,nS]
theorem nu(Hs:d9)(lo K:Nat)(s:StD)(U:EvD)(fi ne:SoD)(F:Nat→Prop)(H:d9)(D S:LV)(hs:StF H F (QR Hs lo K false) (QR Hs lo K true) D s)(he:EvF H F S U)(hF:∀j,F j→j<H.next) (e3:∀j,j<lo→H.get j=Hs.get j) (h9:lo≤H.next) (n:Nat) (hn:(n:Int)=y9 s.progs) (hw:WfS s n) (e4:fm fi n) (e6:fm ne n)
  (d4:U.attrs.length≤1000000) (a8:∀p∈s.progs,p.ts.length≤1000000∧p.ed.length≤1000000∧0≤p.st∧p.st≤1000000):
  CL prog t6 41 [.agg D.toArray,.agg S.toArray,.agg (soE fi).toArray,.agg (soE ne).toArray] H=some (.agg (soE (Y8 s U fi ne)).toArray,none):=by
 obtain⟨pa,pc,ga,gc,xa,xc,ea,ec,ta,tc,a2,_⟩:=N3 hs;obtain⟨av,X,d5⟩:=id he;obtain⟨h4,h5,rfl⟩:=d5.slice;have b5:D.all Value.oneCell'=true:=by rw[a2];rfl
 have ae:S.all Value.oneCell'=true:=by rw[X];rfl
 have ls:D.length=8:=by rw[a2];rfl
 have le:S.length=5:=by rw[X];rfl
 have g7:ldC (some true) (some 8) 0 D=some (.agg D.toArray):=by rw[a2];rfl
 have f0:ldC (some true) (some 5) 0 S=some (.agg S.toArray):=by rw[X];rfl
 have h0:S[0]?=some (.int .i64 U.kind):=by rw[X];rfl
 have h1:D[1]?=some (.slice ga s.progs.length gc):=by rw[a2];rfl
 have i0:=hw.nle;have h6:=hw.l0;have h7:=hw.l1;obtain⟨f1,f2,f3⟩:=fi;obtain⟨g1,g2,g3⟩:=ne;obtain⟨fe,I⟩:∃r,r=soE (f1,f2,f3):=⟨_,rfl⟩
 obtain⟨ge,J⟩:∃r,r=soE (g1,g2,g3):=⟨_,rfl⟩
 rw[←I,←J];have af:fe.all Value.oneCell'=true:=by rw[I];rfl
 have ag:ge.all Value.oneCell'=true:=by rw[J];rfl
 have lf:fe.length=3:=by rw[I];rfl
 have lg:ge.length=3:=by rw[J];rfl
 have g0:ldC (some true) (some 3) 0 fe=some (.agg fe.toArray):=by rw[I];rfl
 have g6:ldC (some true) (some 3) 0 ge=some (.agg ge.toArray):=by rw[J];rfl
 obtain⟨z3,b3⟩:∃z:LV,z=[.bool false,.bool false,.string eB]:=⟨_,rfl⟩
 obtain⟨u,y⟩:∃K,K=((((d9.push ⟨H.bs,H.next⟩ (.cells D true 1)).push (.cells S true 1)).push (.cells fe true 1)).push (.cells ge true 1)).push (.cells z3 true 1):=⟨_,rfl⟩
 have O:(d9.push ⟨H.bs,H.next⟩ (.cells D true 1)).next=H.next+1:=by rw[i5];rfl
 have n1:u.next=H.next+5:=by rw[y,i5,i5,i5,i5,O]
 have s1:i4 H.next H u:=by rw[y];exact((((i4.first H _).trans (i4.push oM)).trans (i4.push (by rw[i5];omega))).trans (i4.push (by rw[i5,i5];omega))).trans (i4.push (by rw[i5,i5,i5];omega))
 have a6:u.get H.next=cE D 1:=by
  rw[y,j6 (by simp only[i5,O];omega),j6 (by simp only[i5,O];omega),j6 (by simp only[i5,O];omega),j6 oM];exact i7
 have a7:u.get (H.next+1)=cE S 1:=by
  rw[y,j6 (by simp only[i5,O];omega),j6 (by simp only[i5,O];omega),j6 (by simp only[i5,O];omega)];exact y7 oM
 have b0:u.get (H.next+2)=cE fe 1:=by
  rw[y,j6 (by simp only[i5,O];omega),j6 (by simp only[i5,O];omega)];exact y7 (by simp only[i5,O];omega)
 have b1:u.get (H.next+3)=cE ge 1:=by
  rw[y,j6 (by simp only[i5,O];omega)];exact y7 (by simp only[i5,O];omega)
 have b6:u.get (H.next+4)=cE z3 1:=by
  rw[y];exact y7 (by simp only[i5,O];omega)
 have c5:H.next≤u.low:=by rw[y];simp only[t5];exact lR
 have e5:∀j,F j→u.get j=H.get j:=fun j hj=>s1.get j (hF j hj);have c3:=XJ u F _ _ D s (fun j hj=>by have:=hF j hj;omega) (hs.mono e5 (fun _ h=>h) iF iF) oM (fun p hp=>⟨(a8 p hp).2.2.1,(a8 p hp).2.2.2⟩);rw[←hn]at c3;obtain⟨H2,W⟩:∃K,K=u.push (.cells ((List.replicate n false).map cX) true 1):=⟨_,rfl⟩
 have n2:H2.next=H.next+6:=by rw[W,i5,n1]
 have a3:i4 u.next u H2:=by rw[W];exact i4.push lR
 have c6:V3 prog u 81 (.int .i64 n) (.int .i64 n)=some (.slice (some ⟨u.next,0,none⟩) n (n+1),H2):=by
  have e1:(List.replicate n [Value.int .u8 0]).flatten=(List.replicate n false).map cX:=by
   rw[List.flatten_replicate_singleton,List.map_replicate];rfl
  simp only[V3,yP.2.2.2.2.2.1,ty5.2.2.1,ty5.2.1,Int.toNat_natCast,e1];rw[if_pos ⟨by decide,oM,Int.le_refl _,oM,oM⟩,W];rfl
 have b7:=(a3.get _ oM).trans a6;have b8:=(a3.get _ oM).trans a7;have b9:=(a3.get _ oM).trans b0;have c0:=(a3.get _ oM).trans b1;obtain⟨a9,a1⟩:∃r,r=D++(S++(fe++(ge++[.slice (some ⟨u.next,0,none⟩) n (n+1)]))):=⟨_,rfl⟩
 obtain⟨rA,hA⟩:∃r,r=splice z20 0 D:=⟨_,rfl⟩
 obtain⟨rB,hB⟩:∃r,r=splice rA 8 S:=⟨_,rfl⟩
 obtain⟨rC,hC⟩:∃r,r=splice rB 13 fe:=⟨_,rfl⟩
 obtain⟨rD,hD⟩:∃r,r=splice rC 16 ge:=⟨_,rfl⟩
 have lA:rA.length=20:=by rw[hA,D9];rfl
 have lB:rB.length=20:=by rw[hB,D9];exact lA
 have lC:rC.length=20:=by rw[hC,D9];exact lB
 have lD:rD.length=20:=by rw[hD,D9];exact lC
 have eE:rD.set 19 (.slice (some ⟨u.next,0,none⟩) n (n+1))=a9:=by rw[hD,hC,hB,hA,a1,a2,X,I,J];rfl
 have b4:a9.all Value.oneCell'=true:=by rw[a1];simp only[List.all_append,b5,ae,af,ag];rfl
 obtain⟨H3,E⟩:∃K,K=H2.push (.cells a9 true 1):=⟨_,rfl⟩
 have n3:H3.next=H.next+7:=by rw[E,i5,n2]
 have a4:i4 u.next u H3:=by rw[E];exact a3.trans (i4.push oM)
 have c8:i4 H.next H H3:=s1.trans (a4.weaken oM);have d3:H3.get H2.next=cE a9 1:=by rw[E];exact i7
 have gb:H3.get u.next=some (.cells ((List.replicate n false).map cX) true 1):=by rw[E,j6 oM,W];exact i7
 have c4:∀j,F j→H3.get j=H.get j:=fun j hj=>c8.get j (hF j hj);have K3:N6 Hs lo K H2.next u.next s U (f1,f2,f3) (g1,g2,g3) (List.replicate n false) F H3:=⟨⟨D,S,n+1,by rw[←I,←J,List.length_replicate,←a1];exact d3,hs.mono c4 (fun _ h=>h) iF iF,w9 _ _ _ _ _ _ he c4 (fun _ h=>h)⟩,gb,fun j hj=>by have:=hF j hj;omega,fun j hj=>by rw[c8.get j oM];exact e3 j hj,oM,oM⟩
 have d0:=(a4.get _ oM).trans a6;have e7:(y9 s.progs).toNat=n:=oM;rw[j8 ab8 rfl _ (by simp),Y8,e7];refine J30 b5 ae af ag ls le lf lg b3.symm y.symm a6 a7 b0 b1 g7 f0 g0 g6 c3 c6 b7 b8 b9 (And.intro c0 hA.symm) (And.intro lA hB.symm) (And.intro lB hC.symm) (And.intro lC hD.symm) (And.intro lD eE) (And.intro b4 E.symm) (And.intro d0 h1) ?_;refine l9 (F:=fun z=>u5 _ _ _ (u7 (inBlock 0 z) _)=_) (yB Hs lo K H2.next u.next s U (f1,f2,f3) (g1,g2,g3) F H3 n hw oM e4 e6 d4 (fun p hp=>⟨(a8 p hp).1,(a8 p hp).2.1⟩) (cn s U (f1,f2,f3) (g1,g2,g3) (s.progs.zip s.base) (List.replicate n false)) (.pointer (some ⟨H.next+1,0,none⟩)) (.pointer (some ⟨H.next+4,0,none⟩)) s.progs.length _ _ ⟨0,List.replicate n false,rfl,oM,rfl,rfl,rfl,rfl,rfl,List.length_replicate ..,K3,Fr1.refl _ _,rfl⟩) ?_;rintro o e' H4 ⟨ho,k5,k8,k9,e8,K4,a5⟩;obtain⟨bz,d6⟩:∃b,b=cn s U (f1,f2,f3) (g1,g2,g3) (s.progs.zip s.base) (List.replicate n false):=⟨_,rfl⟩
 rw[←d6]at e8 K4 ⊢;have n4:=a5.stay.next;obtain⟨i2,i1,c9,h3,g4,e9,g8,_,_,_,_,_,_,c7,_,_⟩:=K4.row;have e2:=wS H4 u.next bz c9 K4.bits;have d1:H4.get (H.next+1)=cE S 1:=(a5.but _ oM oM).trans ((a4.get _ oM).trans a7);have d2:H4.get (H.next+4)=cE z3 1:=(a5.but _ oM oM).trans ((a4.get _ oM).trans b6);have h2:splice z3 0 [.bool true,.bool (decide (U.kind=2)),.string (rU bz)]=[.bool true,.bool (decide (U.kind=2)),.string (rU bz)]:=by rw[b3];rfl
 have g9:z3.length=3:=by rw[b3];rfl
 obtain⟨H5,b2⟩:∃K,K=H4.put (H.next+4) (.cells [.bool true,.bool (decide (U.kind=2)),.string (rU bz)] true 1):=⟨_,rfl⟩
 have g5:H5.get (H.next+4)=cE [.bool true,.bool (decide (U.kind=2)),.string (rU bz)] 1:=by rw[b2];exact i8 oM
 have h8:H.next≤H5.low:=by
  rw[b2,A4];have a:=(a4.weaken (show H.next≤u.next from oM)).low c5;have b:=(a5.stay.weaken (show H.next≤u.next from oM)).low a;omega
 clear a6 a7 b0 b1 b6 b7 b8 b9 c0 hA hB hC hD lA lB lC lD eE c6 y W E;exact J15 ho k5 k8 k9 d1 h0 g4 c7 e2 d2 g9 h2 b2.symm g5 @bW trivial
abbrev Fk:ByteArray:=⟨#[48,49,50,51,52,53,54,55,56,57,97,98,99,100,101,102,103,104,105,106,107,108,109,110,111,112,113,114,115,116,117,118,119,120,121,122]⟩
abbrev Fl:ByteArray:=⟨#[48,48,48,49,48,50,48,51,48,52,48,53,48,54,48,55,48,56,48,57,49,48,49,49,49,50,49,51,49,52,49,53,49,54,49,55,49,56,49,57,50,48,50,49,50,50,50,51,50,52,50,53,50,54,50,55,50,56,50,57,51,48,51,49,51,50,51,51,51,52,51,53,51,54,51,55,51,56,51,57,52,48,52,49,52,50,52,51,52,52,52,53,52,54,52,55,52,56,52,57,53,48,53,49,53,50,53,51,53,52,53,53,53,54,53,55,53,56,53,57,54,48,54,49,54,50,54,51,54,52,54,53,54,54,54,55,54,56,54,57,55,48,55,49,55,50,55,51,55,52,55,53,55,54,55,55,55,56,55,57,56,48,56,49,56,50,56,51,56,52,56,53,56,54,56,55,56,56,56,57,57,48,57,49,57,50,57,51,57,52,57,53,57,54,57,55,57,56,57,57]⟩
theorem vU:((List.range 10).all fun n=>decide ((Fk.extract n (n+1)).data.toList=(dg1 n).data.toList))=true∧((List.range 100).all fun n=>decide ((Fl.extract (n*2) (n*2+2)).data.toList=(dg1 (n / 10)).data.toList++(dg1 (n % 10)).data.toList))=true:=⟨kR,kR⟩
theorem oF{a b:ByteArray}(h:a.data.toList=b.data.toList):a=b:=by
 obtain⟨a⟩:=a;obtain⟨b⟩:=b
 congr 1
 exact Array.toList_inj.1 h
theorem Fm(n:Nat)(h:n<10):Fk.extract n (n+1)=dg n:=by
 have:=List.all_eq_true.1 vU.1 n (List.mem_range.2 h);rw[dg,dif_pos h];exact oF (dT this)
theorem Fo(n:Nat)(u:10≤n)(h:n<100):Fl.extract (n*2) (n*2+2)=dg n:=by
 have:=List.all_eq_true.1 vU.2 n (List.mem_range.2 h);rw[dg,dif_neg oM,dg,dif_pos oM,dg,dif_pos oM];refine oF ((dT this).trans ?_);rw[aX]
theorem NI(n:Nat)(h:n<100)(H:d9):CL prog t6 149 [iV n] H=some (.string (dg n),none):=by
 have J:n<10→∀H,Y7 prog H 9 (.string Fk) (some (.int .i64 n)) (some (.int .i64 ((n:Int)+1))) none=some (.string (dg n)):=fun u H=>by
  have p1:(0:Int)≤n:=oM;have p2:(0:Int)≤(n:Int)+1:=oM;have D:((n:Int)+1).toNat=n+1:=oM;have I:n≤n+1∧n+1≤Fk.size:=⟨oM,by show n+1≤36;omega⟩
  simp only[Y7,ty9.2.2.2.2.2.2,bnd,if_pos p1,if_pos p2,Int.toNat_natCast,D,if_pos I,Fm n u]
 have O:10≤n→∀H,Y7 prog H 9 (.string Fl) (some (.int .i64 ((n:Int)*2))) (some (.int .i64 ((n:Int)*2+2))) none=some (.string (dg n)):=fun u H=>by
  have p1:(0:Int)≤(n:Int)*2:=oM;have p2:(0:Int)≤(n:Int)*2+2:=oM;have D:((n:Int)*2).toNat=n*2:=oM;have E:((n:Int)*2+2).toNat=n*2+2:=oM;have I:n*2≤n*2+2∧n*2+2≤Fl.size:=⟨oM,by show n*2+2≤200;omega⟩
  simp only[Y7,ty9.2.2.2.2.2.2,bnd,if_pos p1,if_pos p2,D,E,if_pos I,Fo n u h]
 rw[j8 Xh rfl _ (by simp)];rcases b:decide ((n:Int)<10)with _|_
 ·have S:=dF b;have z:=O oM;exact J3 b z @wrap_small trivial
 ·have S:=dT b;have y:=J oM;exact J3 b y @wrap_small trivial
theorem XL(n:Nat)(h:n<100)(H:d9):CL prog t6 81 [iV n] H=some (.string (dg n),none):=by
 have z:=fun H=>NI n h H;have y:∀H,CL prog t6 129 [iV n,iV 10] H=some (.string (dg n),none):=fun H=>by
  have D:decide ((0:Int)≤n)=true:=decide_eq_true oM;have E:decide ((n:Int)<100)=true:=decide_eq_true oM;rw[j8 WQ rfl _ (by simp)];exact J3 D E z trivial
 have u:∀H,CL prog t6 103 [iV n] H=some (.string (dg n),none):=fun H=>by
  rw[j8 Wt rfl _ (by simp)];exact J1 y trivial
 rw[j8 ae5 rfl _ (by simp)];exact J1 u trivial
theorem no(l:List ByteArray)(s:ByteArray):(l.any fun y=>ci s y)=V0 l s:=by
 unfold V0;congr 1;funext y;exact decide_eq_decide.2 ⟨Eq.symm,Eq.symm⟩
def frN(l:List ByteArray)(stem:ByteArray):Nat:=bF (fun n=>V0 l (stem++dg n)) (l.length+1) 0
theorem AM(l:List ByteArray)(u:ByteArray):V0 l (u++dg (frN l u))=false∧frN l u<l.length+1:=by
 obtain⟨m,z,y⟩:=oW (fun n=>u++dg n) (fun i j h=>oS (oE h)) l (fun n=>V0 l (u++dg n)) (fun i h=>kI h);have:=bT (fun n=>V0 l (u++dg n)) (l.length+1) 0 ⟨m,oM,oM,y⟩;exact⟨this.1,by have:=this.2;rw[frN];omega⟩
def frS(l:List ByteArray)(stem:ByteArray)(ah:List ByteArray):ByteArray:=match ah.find? (fun s=> !V0 l s)with|some s=>s|none=>stem++dg (frN l stem)
theorem qJ(H0:d9)(lo:Nat)(S:lo≤H0.next)(v v1:Value)(l:List ByteArray)(hv:SlI H0 lo 1 (v8 stE) v l)(hn:l.length≤1000)(va:Option Addr)(W:Nat)(h:List ByteArray)(hw:SlI H0 H0.next 1 (v8 stE) (.slice va h.length W) h)(a4:h.length≤1000):
  ∀U e H2,(∃i:Nat,U=h.length-i∧i≤h.length∧e.get 0=v∧e.get 1=v1∧e.get 11= .slice va h.length W∧e.get 12=iV h.length∧e.get 13=iV i∧H2=H0∧(h.drop i).find? (fun s=> !V0 l s)=h.find? (fun s=> !V0 l s))→
  u9 (LE prog t6 (.loop FN) e H2) (fun o e H2=>H2=H0∧e.get 0=v∧e.get 1=v1∧((o= .exit 0∧h.find? (fun s=> !V0 l s)=none)∨(o= .ret∧∃s,h.find? (fun s=> !V0 l s)=some s∧e.get 6= .string s))):=by
 refine j7 _ _ ?_;rintro U e H2 ⟨i,hk,hi,z,J,f11,f12,f13,hH,u⟩;subst hH;rcases b:decide ((i:Int)<h.length)with _|_
 ·have O:=dF b;have:h.drop i=[]:=dN oM;rw[this,List.find?_nil]at u;refine J3 f12 f13 b ?_;exact l7 ⟨rfl,z,J,.inl ⟨rfl,u.symm⟩⟩
 have O:=dT b;obtain⟨y,nb,o,cs,own,el,hx,hd,rfl,a3,X,a2,a1,hc,rfl⟩:=hw.row (i:=i) oM;have nt:(i:Int).toNat=i:=tN i;have I:=hc 0 oM;rw[Nat.add_zero]at I;have D:=AV H2 lo v l y S hv oM;rw[no]at D;rw[hd,List.find?_cons]at u;rcases E:V0 l y with _|_
 ·simp only[E,Bool.not_false]at u;rw[E]at D;refine J9 z f11 f12 f13 b X nt I D ?_;exact A6 ⟨rfl,z,J,.inr ⟨rfl,y,u.symm,rfl⟩⟩
 ·simp only[E,Bool.not_true]at u;rw[E]at D;refine J10 z f11 f12 f13 b X nt I D @wrap_small ?_;exact i6 (U-1) oM ⟨i+1,oM,oM,z,J,f11,f12,rfl,rfl,u⟩
theorem tD(H0:d9)(lo:Nat)(J:lo≤H0.next)(v:Value)(l:List ByteArray)(h:ByteArray)(hv:SlI H0 lo 1 (v8 stE) v l)(hn:l.length<99)(hs:h.size≤1000):
  ∀O e H2,(∃n:Nat,O=frN l h+1-n∧n≤frN l h∧e.get 0=v∧e.get 1= .string h∧e.get 9=iV n∧H2=H0)→
  u9 (LE prog t6 (.loop FO) e H2) (fun o e H2=>H2=H0∧o= .ret∧e.get 6= .string (h++dg (frN l h))):=by
 refine j7 _ _ ?_;rintro O e H2 ⟨n,hk,hi,D,E,f9,U⟩;subst U;obtain⟨X,a1⟩:=AM l h;have I:=(aY (fun n=>V0 l (h++dg n)) (l.length+1) 0).2;have S:=fun H=>XL n oM H;have W:=jN n;have y:=W7 (P:=prog) 9 h (dg n) oM;have u:=AV H2 lo v l (h++dg n) J hv oM;rw[no]at u;by_cases z:n=frN l h
 ·rw[z,X,←z]at u;refine J6 D E f9 S y u ?_;exact A6 ⟨rfl,rfl,by rw[←z];rfl⟩
 ·have hq:V0 l (h++dg n)=true:=I n oM (by rw[frN]at z hi;omega);rw[hq]at u;refine J7 D E f9 S y u @wrap_small ?_;exact i6 (O-1) oM ⟨n+1,oM,oM,D,E,rfl,rfl⟩
theorem fresh(H:d9)(lo:Nat)(v w:Value)(l:List ByteArray)(h:ByteArray)(u:List ByteArray)(y:lo≤H.next)(S:SlI H lo 1 (v8 stE) v l)(U:SlI H H.next 1 (v8 stE) w u)(hn:l.length<99)(hs:h.size≤1000)(E:u.length≤1000):
  CL prog t6 56 [v,.string h,w] H=some (.string (frS l h u),none):=by
 obtain⟨va,W,rfl⟩:=U.slice;rw[j8 ac4 rfl _ (by simp)];refine J1 aH ?_;refine l9 (F:=fun z=>u5 _ _ _ (u7 (inBlock 0 z) _)=_) (qJ ⟨H.bs,H.next⟩ lo y v (.string h) l (S.mono (fun _ _=>rfl) lR iF) oM va W u (U.mono (fun _ _=>rfl) lR iF) E u.length _ _ ⟨0,rfl,oM,rfl,rfl,rfl,rfl,rfl,rfl,rfl⟩) ?_;rintro o e' H' ⟨rfl,X,g1,⟨I,O⟩|⟨I,s,O,D⟩⟩
 ·refine J1 I ?_;refine l9 (F:=fun z=>u5 _ _ _ (inBlock 2 z)=_) (tD ⟨H.bs,H.next⟩ lo y v l h (S.mono (fun _ _=>rfl) lR iF) hn hs (frN l h+1) _ _ ⟨0,rfl,oM,X,g1,rfl,rfl⟩) ?_;rintro o e2 H2 ⟨rfl,J,D⟩;simp(maxSteps:=20000000) -dsimp (disch:=first|omega|(simp only[rH]<;>omega)|fail) only[↓ai3,rQ,D8,sevalprocAttr,tyA,J,D,frS,O]
 ·simp(maxSteps:=20000000) -dsimp (disch:=first|omega|(simp only[rH]<;>omega)|fail) only[↓ai3,rQ,D8,sevalprocAttr,tyA,I,D,frS,O]
def aU(l:List (ByteArray×ByteArray)):List ByteArray:=(l.filter fun n=>decide (n.1=eB)).map (·.2)
abbrev z0S:ByteArray:=⟨#[122,48]⟩
theorem kH{l:List ByteArray}{s:ByteArray}:V0 l s=true↔s∈l:=⟨kI,fun h=>List.any_eq_true.2 ⟨s,h,decide_eq_true rfl⟩⟩
theorem W9{l:List (ByteArray×ByteArray)}{x:ByteArray×ByteArray}:P0 l x=true↔x∈l:=⟨nj,fun h=>List.any_eq_true.2 ⟨x,h,ck.2 rfl⟩⟩
theorem qY(l:List (ByteArray×ByteArray))(s:ByteArray):s∈aU l↔(eB,s)∈l:=by
 unfold aU;rw[List.mem_map]
 constructor
 ·rintro⟨⟨a,b⟩,h,rfl⟩;obtain⟨u,y⟩:=List.mem_filter.1 h;have:a=eB:=dT y;subst this;exact u
 ·intro h;exact⟨_,List.mem_filter.2 ⟨h,decide_eq_true rfl⟩,rfl⟩
theorem GM:zS++dg 0=z0S:=by rw[dg,dif_pos oM];decide
theorem ye(l:List (ByteArray×ByteArray)):frS (aU l++[z0S]) zS [zS]=zN (Q4 l):=by
 obtain⟨E,_⟩:=vN l;have u:=(aY (fun n=>P0 l (zNm n)) (l.length+1) 0).2;have e0:P0 l (zNm 0)=V0 (aU l++[z0S]) zS:=by
  rw[Bool.eq_iff_iff,W9,kH,List.mem_append,qY];exact⟨.inl,fun h=>h.resolve_right fun q=>by have:=List.mem_singleton.1 q;revert this;decide⟩
 have en:∀n,0<n→P0 l (zNm n)=V0 (aU l++[z0S]) (zS++dg n):=fun n y=>by
  have J:zNm n=(eB,zS++dg n):=by rw[zNm,zN,if_neg oM]
  rw[Bool.eq_iff_iff,W9,kH,List.mem_append,qY,J];refine⟨.inl,fun h=>h.resolve_right fun q=>?_⟩;have O:=List.mem_singleton.1 q;have S:zS++dg n=zS++dg 0:=O.trans GM.symm;have:=oS (oE S);omega
 rcases b:V0 (aU l++[z0S]) zS with _|_
 ·have y:Q4 l=0:=by
   rcases Nat.eq_zero_or_pos (Q4 l)with h|h
   ·exact h
   ·have:=u 0 oM (by rw[Q4]at h;exact h);rw[e0,b]at this;cases this
  rw[frS,List.find?_cons,b,y];rfl
 ·have y:0<Q4 l:=by
   rcases Nat.eq_zero_or_pos (Q4 l)with h|h
   ·rw[h,e0,b]at E;cases E
   ·exact h
  obtain⟨z,_⟩:=AM (aU l++[z0S]) zS;have D:=(aY (fun n=>V0 (aU l++[z0S]) (zS++dg n)) ((aU l++[z0S]).length+1) 0).2;have I:0<frN (aU l++[z0S]) zS:=by
   rcases Nat.eq_zero_or_pos (frN (aU l++[z0S]) zS)with h|h
   ·rw[h]at z;have:V0 (aU l++[z0S]) (zS++dg 0)=true:=kH.2 (List.mem_append.2 (.inr (List.mem_singleton.2 GM)));rw[this]at z;cases z
   ·exact h
  have:frN (aU l++[z0S]) zS=Q4 l:=by
   rcases Nat.lt_trichotomy (frN (aU l++[z0S]) zS) (Q4 l)with h|h|h
   ·have:=u _ oM (by rw[Q4]at h;exact h);rw[en _ I,z]at this;cases this
   ·exact h
   ·have:=D _ oM (by rw[frN]at h;exact h);rw[←en _ y,E]at this;cases this
  rw[frS,List.find?_cons,b];simp only[Bool.not_true,List.find?_nil,this];rw[zN,if_neg oM]
theorem xL(x:ByteArray×ByteArray)(l:List (ByteArray×ByteArray)):aU (x::l)=if decide (x.1=eB)=true then x.2::aU l else aU l:=by
 unfold aU;rw[List.filter_cons];split<;>rfl
theorem Bl(l:List (ByteArray×ByteArray)):(aU l).length≤l.length:=by
 unfold aU;rw[List.length_map];exact List.length_filter_le _ _
theorem BG(X:d9)(lo p2:Nat)(a9:lo≤p2)(b4:p2<X.next)(va:Option Addr)(ca:Nat)(l:List (ByteArray×ByteArray))(hv:SlI X lo 2 (v8 nmE) (.slice va l.length ca) l)(hn:l.length≤1000)(v2:Value)(r:List ByteArray):
  ∀kk e H2,(∃(i:Nat)(h:List ByteArray)(w:Value),kk=l.length-i∧i≤l.length∧h.length≤i∧e.get 2=v2∧e.get 3=w∧e.get 6= .slice va l.length ca∧e.get 7=iV l.length∧e.get 8=iV i∧t7 H2 (p2+1) 1 (v8 stE) w h∧i4 (p2+1) X H2∧h++aU (l.drop i)=r)→
  u9 (LE prog t6 (.loop FP) e H2) (fun o e H2=>o= .exit 0∧e.get 2=v2∧∃w,e.get 3=w∧t7 H2 (p2+1) 1 (v8 stE) w r∧i4 (p2+1) X H2):=by
 refine j7 _ _ ?_;rintro kk e H2 ⟨i,h,w,hk,hi,a7,f2,f3,f6,f7,f8,hO,O,I⟩;have b2:=O.next;rcases J:decide ((i:Int)<l.length)with _|_
 ·have a3:=dF J;have:l.drop i=[]:=dN oM;rw[this]at I;refine J3 f7 f8 J ?_;exact l7 ⟨rfl,f2,w,f3,by rw[←I];simpa [aU] using hO,O⟩
 have a3:=dT J;obtain⟨x,nb,o,cs,own,el,hx,hd,rfl,b0,hg,a8,E,hc,rfl⟩:=hv.row (i:=i) oM;have nt:(i:Int).toNat=i:=tN i;have D:=(O.get nb oM).trans hg;obtain⟨Ha,y,-,U⟩:=pushE H2 (.cells [.string eB,.string eB] true 1);obtain⟨H3,u⟩:∃K,K=Ha.put H2.next (.cells (nmE x) true 1):=⟨_,rfl⟩
 have a4:Ha.next=H2.next+1:=by rw[y,i5]
 have b3:H3.next=H2.next+1:=by rw[u,j5,a4]
 have z:i4 H2.next H2 H3:=by rw[u,y];exact(i4.push lR).trans (i4.put lR)
 have S:H3.get H2.next=cE (nmE x) 1:=by rw[u];exact i8 oM
 have a5:H3.get nb=some (.cells cs own 2):=(z.get nb oM).trans D;have a6:Ha.get nb=some (.cells cs own 2):=by rw[y,j6 oM];exact D
 rw[hd,xL]at I;rcases b1:decide (x.1=eB)with _|_
 ·rw[b1,if_neg (by decide)]at I;refine J13 f6 f7 f8 J y.symm U D nt E u.symm S b1 @wrap_small ?_;exact i6 (kk-1) oM ⟨i+1,h,w,oM,oM,oM,f2,f3,f6,f7,rfl,hO.keep z,O.trans (z.weaken oM),I⟩
 ·rw[b1,if_pos rfl]at I;obtain⟨v',h',H4,ha,W,a1,a2⟩:=(hO.keep z).push1 (P:=prog) (t:=97) (by exact aH.2.2.2.2.2.2) ty9.1 ty9.2.1 ty9.2.2.1 oM oM (cs:=[.string x.2]) (a:=x.2) rfl rfl oM oM;refine J16 f3 f6 f7 f8 J y.symm U D nt E u.symm S b1 ha W @wrap_small ?_;exact i6 (kk-1) oM ⟨i+1,h++[x.2],v',oM,oM,by simp;omega,f2,rfl,f6,f7,rfl,a1,(O.trans (z.weaken oM)).trans a2,by rw[←I];simp⟩
theorem EN(H:d9)(lo:Nat)(v:Value)(l:List (ByteArray×ByteArray))(a3:lo≤H.next)(hv:SlI H lo 2 (v8 nmE) v l)(hn:l.length≤90):CL prog t6 57 [v] H=some (.agg (nmE (zNm (Q4 l))).toArray,none):=by
 obtain⟨va,ca,rfl⟩:=hv.slice;obtain⟨y,h⟩:∃y,y=d9.push ⟨H.bs,H.next⟩ (.cells [.string eB,.string eB] true 1):=⟨_,rfl⟩
 have hS:i4 H.next H y:=by rw[h];exact i4.first H _
 have hg:y.get H.next=cE [.string eB,.string eB] 1:=by rw[h];exact i7
 have U:H.next≤y.low:=by rw[h,t5];exact lR
 rw[j8 ac5 rfl _ (by simp)];refine J1 h.symm ?_;refine l9 (F:=fun z=>u5 _ _ _ (u7 (inBlock 0 z) _)=_) (BG y lo H.next a3 (u6 hg) va ca l (hv.mono (fun j hj=>hS.get j oM) lR iF) oM _ (aU l) l.length _ _ ⟨0,[],_,rfl,oM,by simp,rfl,rfl,rfl,rfl,rfl,t7.nil,i4.refl _ _,rfl⟩) ?_;rintro o e' H2 ⟨ho,h2,w,h3,hO,I⟩;have a7:=I.next;have a4:=u6 hg;have a5:=Bl l;have a1:=(I.get H.next oM).trans hg;obtain⟨v',h',D,ha,S,W,J⟩:=hO.push1 (P:=prog) (t:=97) (by exact aH.2.2.2.2.2.2) ty9.1 ty9.2.1 ty9.2.2.1 oM oM (cs:=[.string z0S]) (a:=z0S) rfl rfl oM oM;have a8:=J.next;obtain⟨O,E⟩:∃K,K=D.push (.cells [.string zS] true 1):=⟨_,rfl⟩
 have u:i4 D.next D O:=by rw[E];exact i4.push lR
 have a9:=u.next;have X:t7 O D.next 1 (v8 stE) (.slice (some ⟨D.next,0,none⟩) 1 1) [zS]:=by rw[E];exact t7.fresh rfl lR (D2.one rfl rfl)
 have hf:=fresh O D.next v' (.slice (some ⟨D.next,0,none⟩) 1 1) (aU l++[z0S]) zS [zS] oM (W.sl.mono (fun j hj=>u.get j hj) lR iF) X.sl (by simp;omega) (by decide) (by decide);rw[ye]at hf;have a2:O.get H.next=_:=(u.get H.next oM).trans ((J.get H.next oM).trans a1);have hz:(⟨#[122]⟩:ByteArray)=zS:=rfl;have b0:ldC (some true) (some 2) 0 (nmE (zNm (Q4 l)))=some (.agg (nmE (zNm (Q4 l))).toArray):=rfl;have a6:H.next≤O.low:=((((I.weaken oM).trans (J.weaken oM)).trans (u.weaken oM)):i4 H.next y O).low U;refine J9 ho h2 h3 ha S hz E.symm hf a2 ?_;rfl
def oO:List (List ByteArray)→Int→Int
 |[],n=>n
 |v::l,n=>oO l (min (n*(v.length+2)) 25)
def kn(s:SpD):Int:=oO s.vals (s.names.length+1)+s.texts.length+1
theorem Eu(a b:Int):(if b<a then b else a)=min a b:=by split<;>omega
theorem zJ(h:d9)(l:List (List ByteArray))(X:Option Addr)(O:Nat)(hv:SlI h h.next 1 (VlF h (· <h.next)) (.slice X l.length O) l)(hn:l.length≤100000)(hl:∀x∈l,x.length≤100000) (W:Value) (r:Int):
  ∀I e H2,(∃(i:Nat)(n:Int),I=l.length-i∧i≤l.length∧0≤n∧n≤1000001∧e.get 1=W∧e.get 3=iV n∧e.get 11= .slice X l.length O∧e.get 12=iV l.length∧e.get 13=iV i∧H2=h∧oO (l.drop i) n=r)→
  u9 (LE prog t6 (.loop FL) e H2) (fun o e H2=>o= .exit 0∧e.get 1=W∧e.get 3=iV r∧H2=h∧0≤r∧r≤1000001):=by
 refine j7 _ _ ?_;rintro I e H2 ⟨i,n,hk,hi,y,z,S,f3,f11,f12,f13,rfl,u⟩;rcases D:decide ((i:Int)<l.length)with _|_
 ·have E:=dF D;have:l.drop i=[]:=dN oM;rw[this]at u;refine J3 f12 f13 D ?_;exact l7 ⟨rfl,S,by rw[←u];exact f3,rfl,by rw[←u];exact y,by rw[←u];exact z⟩
 have E:=dT D;obtain⟨x,nb,o,cs,own,el,hx,hd,rfl,a2,hg,a1,U,hc,w,rfl,hw⟩:=hv.row (i:=i) oM;have nt:(i:Int).toNat=i:=tN i;have J:=hc 0 oM;rw[Nat.add_zero]at J;obtain⟨wa,wc,rfl⟩:=hw.slice;have a3:=hl x (List.mem_of_getElem? hx);rw[hd,oO]at u;have p0:0≤n*((x.length:Int)+2):=Int.mul_nonneg y oM;have p1:n*((x.length:Int)+2)≤1000001*((x.length:Int)+2):=Int.mul_le_mul_of_nonneg_right z oM;have hm:∀Hx,D3 prog .min [3,3] [iV (n*((x.length:Int)+2)),iV 25] Hx=some (.int .i64 (min (n*((x.length:Int)+2)) 25),none):=fun Hx=>by
  rw[←Eu];simp [D3,fN]
 refine J10 f3 f11 f12 f13 D hg nt J hm @wrap_small ?_;exact i6 (I-1) oM ⟨i+1,min (n*((x.length:Int)+2)) 25,oM,oM,oM,oM,S,rfl,f11,f12,rfl,rfl,u⟩
theorem Da(H:d9)(lo:Nat)(cs:LV)(s:SpD)(a6:lo≤H.next)(hs:SpR H lo cs s)(h1:s.names.length≤100000)(h2:s.vals.length≤100000)(h3:∀x∈s.vals,x.length≤100000) (h4:s.texts.length≤100000):CL prog t6 53 [.agg cs.toArray] H=some (.int .i64 (kn s),none):=by
 obtain⟨w1,w2,w3,w4,rfl,q1,q2,q3,q4⟩:=hs;obtain⟨I,S,rfl⟩:=q1.slice;obtain⟨J,U,rfl⟩:=q2.slice;obtain⟨D,E,rfl⟩:=q3.slice;obtain⟨O,W,rfl⟩:=q4.slice;obtain⟨y,u⟩:∃y,y=d9.push ⟨H.bs,H.next⟩ (.cells [.slice I s.names.length S,.slice J s.attrs.length U,.slice D s.vals.length E,.slice O s.texts.length W] true 1):=⟨_,rfl⟩
 have hS:i4 H.next H y:=by rw[u];exact i4.first H _
 have hg:y.get H.next=cE [.slice I s.names.length S,.slice J s.attrs.length U,.slice D s.vals.length E,.slice O s.texts.length W] 1:=by rw[u];exact i7
 have a5:H.next≤y.low:=by rw[u,t5];exact lR
 have a7:=hS.next;have X:∀j,j<lo→y.get j=H.get j:=fun j hj=>hS.get j oM;rw[j8 ac2 rfl _ (by simp)];refine J3 u.symm hg @wrap_small ?_;refine l9 (F:=fun z=>u5 _ _ _ (u7 (inBlock 0 z) _)=_) (zJ y s.vals D E (q3.mono X oM fun _ _ h=>h.mono X (fun _ hj=>oM)) h2 h3 _ (oO s.vals (s.names.length+1)) s.vals.length _ _ ⟨0,s.names.length+1,rfl,oM,oM,oM,rfl,rfl,rfl,rfl,rfl,rfl,rfl⟩) ?_;rintro o e' H2 ⟨ho,g1,g3,rfl,r0,r1⟩;simp(maxSteps:=20000000) -dsimp (disch:=first|omega|(simp only[rH]<;>omega)|fail) only[↓ai3,rQ,D8,sevalprocAttr,tyA,ho,g1,g3,hg,wrap_small,kn]
theorem lV{α:Type}{P:List α→Prop}(u:P [])(y:∀l x,P l→P (l++[x])) (l:List α):P l:=by
 have:∀l:List α,P l.reverse:=by
  intro l;induction l with
  |nil=>exact u
  |cons x l z=>rw[List.reverse_cons];exact y _ _ z
 have h:=this l.reverse
 rwa [List.reverse_reverse]at h
def V9(l:List (ByteArray×ByteArray))(x:ByteArray×ByteArray):List (ByteArray×ByteArray):=if P0 l x then l else l++[x]
def bu(l:List ByteArray)(x:ByteArray):List ByteArray:=if V0 l x then l else l++[x]
def F6(s:SpD)(n:ByteArray×ByteArray):SpD:=if P0 s.attrs n then s else{s with attrs:=s.attrs++[n],vals:=s.vals++[[]]}
def ixN(l:List (ByteArray×ByteArray))(n:ByteArray×ByteArray):Nat:=(ixG (fun y=>Q3 n y) l 0).toNat
def I9(s:SpD)(q:Q):SpD:=
 if q.op=4 then{s with names:=V9 s.names (qNm q)}
 else if q.op=5 then F6 s (qNm q)
 else if q.op=6 then{F6 s (qNm q)with vals:=(F6 s (qNm q)).vals.set (ixN (F6 s (qNm q)).attrs (qNm q)) (bu ((F6 s (qNm q)).vals.getD (ixN (F6 s (qNm q)).attrs (qNm q)) []) q.vl)}
 else if q.op=7 then{s with texts:=bu s.texts q.vl} else s
def spL(l:List Q):SpD:=⟨S9 4 4 l,S9 5 6 l,(S9 5 6 l).map fun n=>S7 6 n l,S7 7 (eB,eB) l⟩
theorem X2(a b:Int)(l:List Q)(x:Q):S9 a b (l++[x])=if bI a b x then V9 (S9 a b l) (qNm x) else S9 a b l:=by
 unfold S9 py;rw[List.foldl_append,List.foldl_cons,List.foldl_nil];unfold V9 P0;cases bI a b x with
 |false=>rfl
 |true=>
  simp only[Bool.true_and,if_true];generalize List.foldl _ _ l=acc;cases acc.any fun y=>Q3 y (qNm x)<;>rfl
theorem bq(a:Int)(n:ByteArray×ByteArray)(l:List Q)(x:Q):S7 a n (l++[x])=if dv a n x then bu (S7 a n l) x.vl else S7 a n l:=by
 unfold S7 py;rw[List.foldl_append,List.foldl_cons,List.foldl_nil];unfold bu V0;cases dv a n x with
 |false=>rfl
 |true=>
  simp only[Bool.true_and,if_true];generalize List.foldl _ _ l=acc;cases acc.any fun y=>ci y x.vl<;>rfl
theorem ue(a b:Int):∀l,(S9 a b l).Nodup:=by
 refine lV List.nodup_nil fun l x u=>?_;rw[X2];split
 ·unfold V9;split
  ·exact u
  ·rename_i h;rw[List.nodup_append];refine⟨u,by simp,fun y D z E q=>?_⟩;rw[List.mem_singleton.1 E]at q;exact h (W9.2 (q▸D))
 ·exact u
theorem yS(n:ByteArray×ByteArray):∀l,n∉S9 5 6 l→S7 6 n l=[]:=by
 refine lV (fun _=>rfl) fun l x I h=>?_;have u:n∈S9 5 6 l→n∈S9 5 6 (l++[x]):=fun h=>by
  rw[X2];split
  ·unfold V9;split
   ·exact h
   ·exact List.mem_append.2 (.inl h)
  ·exact h
 rw[bq,I (fun q=>h (u q))];split
 ·rename_i y
  exfalso;apply h
  simp only[dv,Bool.and_eq_true,decide_eq_true_eq]at y;have D:qNm x=n:=Prod.ext_iff.2 y.2;have z:bI 5 6 x=true:=by simp [bI,y.1]
  rw[X2,z,if_pos rfl];unfold V9;split
  ·rename_i E;rw[←D];exact W9.1 E
  ·rw[D];exact List.mem_append.2 (.inr (List.mem_singleton.2 rfl))
 ·rfl
theorem vB:∀(l:List (ByteArray×ByteArray))(n:ByteArray×ByteArray)(k:Nat),n∈l→∃i:Nat,ixG (fun y=>Q3 n y) l k=((k+i:Nat):Int)∧l[i]?=some n∧i<l.length
 |[],n,k,h=>by cases h
 |y::l,n,k,h=>by
  rw[ixG];by_cases e:n=y
  ·rw[if_pos (ck.2 e)];exact⟨0,by simp,by rw[e];rfl,by simp⟩
  ·rw[if_neg (fun q=>e (ck.1 q))];obtain⟨i,u,z,D⟩:=vB l n (k+1) (by simpa [e] using h);exact⟨i+1,by rw[u];omega,by simpa using z,by simp;omega⟩
theorem tQ(l:List (ByteArray×ByteArray))(n:ByteArray×ByteArray)(h:n∈l):l[ixN l n]?=some n∧ixN l n<l.length∧ixG (fun y=>Q3 n y) l 0=((ixN l n:Nat):Int):=by
 obtain⟨i,u,z,D⟩:=vB l n 0 h;have:ixN l n=i:=by unfold ixN;rw[u];omega
 rw[this];exact⟨z,D,by rw[u];omega⟩
theorem Fe{α β:Type}[DecidableEq α](f g:α→β)(l:List α)(n:α)(i:Nat)(u:l[i]?=some n)(O:l.Nodup)(h:∀m,m≠n→g m=f m):(l.map f).set i (g n)=l.map g:=by
 apply List.ext_getElem?;intro j;rw[List.getElem?_set];by_cases y:i=j
 ·subst y;have z:i<l.length:=(List.getElem?_eq_some_iff.1 u).1;rw[if_pos rfl,List.getElem?_map,u,if_pos (by simpa using z)];rfl
 ·rw[if_neg y,List.getElem?_map,List.getElem?_map];cases S:l[j]? with
  |none=>rfl
  |some m=>
   have:m≠n:=fun q=>by
    subst q;obtain⟨I,D⟩:=List.getElem?_eq_some_iff.1 u;obtain⟨J,E⟩:=List.getElem?_eq_some_iff.1 S;rcases Nat.lt_trichotomy i j with h|h|h
    ·exact List.pairwise_iff_getElem.1 O i j I J h (D.trans E.symm)
    ·exact y h
    ·exact List.pairwise_iff_getElem.1 O j i J I h (E.trans D.symm)
   simp only[Option.map_some,h m this]
theorem mT(l:List Q)(n:ByteArray×ByteArray):F6 (spL l) n={spL l with attrs:=V9 (S9 5 6 l) n,vals:=(V9 (S9 5 6 l) n).map fun n=>S7 6 n l}:=by
 unfold F6 V9;by_cases h:P0 (S9 5 6 l) n=true
 ·rw[if_pos h,if_pos (show P0 (spL l).attrs n=true from h)];rfl
 ·rw[if_neg h,if_neg (show¬P0 (spL l).attrs n=true from h)];have:S7 6 n l=[]:=yS n l (fun q=>h (W9.2 q));simp only[spL,List.map_append,List.map_cons,List.map_nil,this]
theorem Ch(l:List Q)(x:Q)(hx:x.op=7→qNm x=(eB,eB)):spL (l++[x])=I9 (spL l) x:=by
 have O:∀n,x.op≠6→S7 6 n (l++[x])=S7 6 n l:=fun n h=>by rw[bq,if_neg (by simp [dv,h])]
 have S:x.op≠7→S7 7 (eB,eB) (l++[x])=S7 7 (eB,eB) l:=fun h=>by rw[bq,if_neg (by simp [dv,h])]
 have J:x.op≠4→S9 4 4 (l++[x])=S9 4 4 l:=fun h=>by rw[X2,if_neg (by simp [bI];omega)]
 have n5:x.op≠5→x.op≠6→S9 5 6 (l++[x])=S9 5 6 l:=fun h h2=>by rw[X2,if_neg (by simp [bI];omega)]
 unfold I9;by_cases y:x.op=4
 ·have z:bI 4 4 x=true:=by simp [bI,y]
  rw[if_pos y];simp only[spL,O _ oM,S oM,n5 oM oM,X2 4 4,z,if_true]
 rw[if_neg y];by_cases D:x.op=5
 ·have z:bI 5 6 x=true:=by simp [bI,D]
  rw[if_pos D,mT];simp only[spL,O _ oM,S oM,J y,X2 5 6,z,if_true]
 rw[if_neg D];by_cases u:x.op=6
 ·have z:bI 5 6 x=true:=by simp [bI,u]
  rw[if_pos u,mT];obtain⟨A,U⟩:∃A,A=V9 (S9 5 6 l) (qNm x):=⟨_,rfl⟩
  have I:S9 5 6 (l++[x])=A:=by rw[U,X2,z];rfl
  have W:A.Nodup:=by rw[←I];exact ue 5 6 _
  have hm:qNm x∈A:=by
   rw[U];unfold V9;split
   ·rename_i h;exact W9.1 h
   ·exact List.mem_append.2 (.inr (List.mem_singleton.2 rfl))
  obtain⟨q1,q2,_⟩:=tQ A (qNm x) hm;rw[←U];simp only;have hg:(A.map fun n=>S7 6 n l).getD (ixN A (qNm x)) []=S7 6 (qNm x) l:=by
   rw[List.getD_eq_getElem?_getD,List.getElem?_map,q1];rfl
  have X:bu (S7 6 (qNm x) l) x.vl=(fun n=>S7 6 n (l++[x])) (qNm x):=by
   simp only;rw[bq,if_pos (by simp [dv,u])]
  rw[hg,X,Fe (fun n=>S7 6 n l) (fun n=>S7 6 n (l++[x])) A (qNm x) _ q1 W (fun m hm=>by
   rw[bq,if_neg];simp only[dv,Bool.and_eq_true,decide_eq_true_eq];exact fun q=>hm (Prod.ext_iff.2 q.2).symm)]
  simp only[spL,S oM,J y,I]
 rw[if_neg u];by_cases E:x.op=7
 ·rw[if_pos E];have z:dv 7 (eB,eB) x=true:=by rw[dv,hx E];simp [E]
  simp only[spL,O _ u,J y,n5 D u,bq 7,z,if_true]
 ·rw[if_neg E];simp only[spL,O _ u,S E,J y,n5 D u]
theorem Cg(l:List Q)(u:∀x∈l,x.op=7→qNm x=(eB,eB)):l.foldl I9 ⟨[],[],[],[]⟩=spL l:=by
 have:∀l:List Q,(∀x∈l,x.op=7→qNm x=(eB,eB))→l.foldl I9 ⟨[],[],[],[]⟩=spL l:=by
  refine lV (fun _=>rfl) fun l x D h=>?_;rw[List.foldl_append,D (fun y z=>h y (by simp [z])),List.foldl_cons,List.foldl_nil,Ch _ _ (h x (by simp))]
 exact this l u
theorem Mx:∀(n:Nat)(f:Bool)(q:Q),nQ q≤n→OkD f q→∀x∈fsQ f q,OkD true x:=by
 intro n;induction n with
 |zero=>intro f q I;cases q;rw[nQ]at I;omega
 |succ n J=>
  intro f q I h x D;obtain⟨p1,p2,_⟩:=h.parts;have O:nQ q=1+nL q.a+nL q.b:=by cases q;rw[nQ];rfl
  have mem:∀(l:List Q)(y:Q),y∈l→nQ y≤nL l:=by
   intro l;induction l with
   |nil=>intro y u;cases u
   |cons z l E=>
    intro y u;rw[nL];rcases List.mem_cons.1 u with rfl|u
    ·omega
    ·have:=E y u;omega
  rw[kE,List.mem_append,List.mem_append,fH,fH,List.mem_flatMap,List.mem_flatMap]at D;rcases D with D|⟨y,u,D⟩|⟨y,u,D⟩
  ·cases f with
   |false=>cases D
   |true=>rw[if_pos rfl]at D;rw[List.mem_singleton.1 D];exact h
  ·exact J f y (by have:=mem _ _ u;omega) (p1 y u) x D
  ·exact J (!f) y (by have:=mem _ _ u;omega) (p2 y u) x D
theorem uK(q:Q)(h:OkD false q):(fsQ false q).foldl I9 ⟨[],[],[],[]⟩=spQ q:=by
 rw[Cg _ fun x E z=>?_];rfl;obtain⟨_,_,_,y,_⟩:=(Mx _ false q lR h x E).parts;simp only[lE,if_true,Bool.and_eq_true]at y;have:=y.1.2;simp only[iM,Bool.and_eq_true,xy,z]at this;have u:=this.1;have:(decide (x.sp=eB)&&decide (x.lc=eB))=true:=by
  cases D:(decide (x.sp=eB)&&decide (x.lc=eB))with
  |true=>rfl
  |false=>rw[D]at u;revert u;decide
 simp only[Bool.and_eq_true,decide_eq_true_eq]at this;exact Prod.ext_iff.2 this
def aJ(L:LV):Prop:=∀(i j:Nat)(a b:Value),L[i]?=some a→L[j]?=some b→i≠j→∀x,j9 a x→¬j9 b x
theorem aJ.set{L:LV}{k n:Nat}{w v:Value}(h:aJ L)(S:L[k]?=some w)(U:∀b,j9 v b→j9 w b∨n≤b) (E:∀x∈L,∀b,j9 x b→b<n):aJ (L.set k v):=by
 intro i j a b y u z x J O;rw[List.getElem?_set]at y u;by_cases I:k=i
 ·have D:k≠j:=fun q=>z (I.symm.trans q);rw[if_pos I]at y;rw[if_neg D]at u;split at y
  ·cases y;rcases U x J with q|q
   ·exact h k j w b S u D x q O
   ·have:=E b (List.mem_of_getElem? u) x O;omega
  ·cases y
 ·rw[if_neg I]at y;by_cases D:k=j
  ·rw[if_pos D]at u;split at u
   ·cases u;rcases U x O with q|q
    ·exact h i k a w y S (fun q=>I q.symm) x J q
    ·have:=E a (List.mem_of_getElem? y) x J;omega
   ·cases u
  ·rw[if_neg D]at u;exact h i j a b y u z x J O
theorem aJ.nil{L:LV}(h:aJ L):aJ (L++[nS]):=by
 intro i j a b u I z x y E;have key:∀(i:Nat)(a:Value),(L++[nS])[i]?=some a→j9 a x→L[i]?=some a:=fun i a u y=>by
  rw[List.getElem?_append]at u;split at u
  ·exact u
  ·cases D:i-L.length with
   |zero=>rw[D]at u;simp at u;rw[←u]at y;exact absurd y (A9 x)
   |succ n=>rw[D]at u;simp at u
 exact h i j a b (key i a u y) (key j b I E) z x y E
theorem GJ{cs us:LV}(h:D2 1 (v8 fun u=>[u]) cs us):cs=us:=by
 apply List.ext_getElem?;intro i;by_cases y:i<us.length
 ·have z:=h.2 i us[i] (List.getElem?_eq_getElem y);have D:(cs.drop (i*1)).take 1=[us[i]]:=z;have:=congrArg (fun l=>l[0]?) D
  simpa [List.getElem?_take,List.getElem?_drop,List.getElem?_eq_getElem y] using this
 ·have:=h.1;rw[List.getElem?_eq_none oM,List.getElem?_eq_none oM]
theorem BT(us:LV):D2 1 (v8 fun u=>[u]) us us:=by
 have:=BU (enc:=fun u:Value=>[u]) (sz:=1) (fun _=>rfl) us;have e:us.flatMap (fun u=>[u])=us:=by simp
 rw[e]at this;exact this
structure aO(H:d9)(gb:Nat)(O:Nat→Prop)(s:SpD)(w1 w2 w3 w4:Value)(us:LV):Prop where
 g:H.get gb=cE [w1,w2,w3,w4] 1
 n:t7 H (gb+1) 2 (v8 nmE) w1 s.names
 a:t7 H (gb+1) 2 (v8 nmE) w2 s.attrs
 v:t7 H (gb+1) 1 (v8 fun u=>[u]) w3 us
 len:us.length=s.vals.length
 al:s.attrs.length=s.vals.length
 u:∀(i:Nat)(u:Value)(l:List ByteArray),us[i]?=some u→s.vals[i]?=some l→t7 H (gb+1) 1 (v8 stE) u l
 t:t7 H (gb+1) 1 (v8 stE) w4 s.texts
 ap:aJ (w1::w2::w3::w4::us)
 o:∀w∈w1::w2::w3::w4::us,∀b,j9 w b→O b
 lt:∀b,O b→gb<b∧b<H.next
theorem aO.keep{H H':d9}{D:Nat}{O E:Nat→Prop}{s:SpD}{w1 w2 w3 w4:Value}{us:LV}(h:aO H D O s w1 w2 w3 w4 us)(z:∀j,j=D∨O j→H'.get j=H.get j) (S:∀b,O b→E b) (I:∀b,E b→D<b∧b<H'.next):aO H' D E s w1 w2 w3 w4 us:=
 ⟨(z D (.inl rfl)).trans h.g,h.n.same fun b y=>z b (.inr (h.o _ (by simp) b y)),h.a.same fun b y=>z b (.inr (h.o _ (by simp) b y)),h.v.same fun b y=>z b (.inr (h.o _ (by simp) b y)),h.len,h.al,
  fun i u l J U=>(h.u i u l J U).same fun b y=>z b (.inr (h.o _ (by simp [List.mem_of_getElem? J]) b y)),h.t.same fun b y=>z b (.inr (h.o _ (by simp) b y)),h.ap,fun w W b y=>S b (h.o w W b y),I⟩
structure jA(gb:Nat)(O0:Nat→Prop)(s0:SpD)(H0:d9)(O:Nat→Prop)(H:d9)(s:SpD):Prop where
 sub:∀b,O b→O0 b∨H0.next≤b
 chg:(s=s0∧∀b,O b→O0 b)∨∃b,(b=gb∨O0 b)∧H.low≤b
 but:∀j,j<H0.next→j≠gb→¬O0 j→H.get j=H0.get j
 stay:i4 gb H0 H
 low:H.low≤H0.low
def dH(gb:Nat)(O0:Nat→Prop)(s0:SpD)(H0 H:d9)(s:SpD):Prop:=∃O w1 w2 w3 w4 us,aO H gb O s w1 w2 w3 w4 us∧jA gb O0 s0 H0 O H s
theorem jA.refl(u:Nat)(O:Nat→Prop)(s:SpD)(H:d9):jA u O s H O H s:=⟨fun _ h=> .inl h,.inl ⟨rfl,fun _ h=>h⟩,fun _ _ _ _=>rfl,i4.refl _ _,lR⟩
theorem jA.trans{z:Nat}{W X O2:Nat→Prop}{s0 s1 s2:SpD}{H0 y u H2:d9}(h:jA z W s0 H0 X y s1)(D:i4 y.next y u)(hl:u.low≤y.low)(I:z≤y.next)(k:jA z X s1 u O2 H2 s2):jA z W s0 H0 O2 H2 s2:=by
 have n1:=h.stay.next;have n2:=D.next;have l2:=k.low;refine⟨fun b E=>?_,?_,fun j hj h1 h2=>?_,(h.stay.trans (D.weaken I)).trans k.stay,by have:=h.low;omega⟩
 ·rcases k.sub b E with q|q
  ·exact h.sub b q
  ·exact .inr oM
 ·rcases h.chg with⟨J,O⟩|⟨b,J,O⟩
  ·rcases k.chg with⟨S,U⟩|⟨b,S,U⟩
   ·exact .inl ⟨S.trans J,fun b E=>O b (U b E)⟩
   ·exact .inr ⟨b,S.imp id (O b),U⟩
  ·exact .inr ⟨b,J,oM⟩
 ·rw[k.but j oM h1 (fun q=>by rcases h.sub j q with r|r;exact h2 r;omega),D.get j oM,h.but j hj h1 h2]
theorem jP{D:Nat}{O:Nat→Prop}{s W:SpD}{H z H':d9}{w1 w2 w3 w4 v:Value}{us:LV}(y:i4 H.next H z)(J:H.next≤z.low)(E:aO H D O s w1 w2 w3 w4 us)(hQ:dH D O s z H' W):
  Ret (some (D4 v H H')) H fun v1 H2=>v1=v∧dH D O s H H2 W:=by
 have n1:=y.next;have a1:=u6 E.g;obtain⟨X,x1,x2,x3,x4,S,R,T⟩:=hQ;refine D7 (fun _ hl=>⟨rfl,?_⟩) ⟨rfl,?_⟩
 ·rcases T.chg with⟨u,U⟩|⟨b,u,U⟩
  ·rw[u];exact⟨O,w1,w2,w3,w4,us,E,jA.refl _ _ _ _⟩
  ·have:b<H.next:=by
    rcases u with u|u
    ·omega
    ·exact(E.lt b u).2
   omega
 ·refine⟨X,x1,x2,x3,x4,S,R.keep (fun _ _=>rfl) (fun _ h=>h) R.lt,fun b hb=>?_,?_,fun j I h1 h2=>?_,⟨?_,fun k hk q=>?_,fun j I=>?_⟩,Nat.min_le_left _ _⟩
  ·rcases T.sub b hb with q|q
   ·exact .inl q
   ·exact .inr oM
  ·rcases T.chg with q|⟨b,u,U⟩
   ·exact .inl q
   ·exact .inr ⟨b,u,by show min H.low H'.low≤b;omega⟩
  ·show H'.get j=H.get j;rw[T.but j oM h1 h2,y.get j I]
  ·show H.next≤H'.next;have:=T.stay.next;omega
  ·have:=T.stay.lowAll k hk oM;show k≤min H.low H'.low;omega
  ·show H'.get j=H.get j;rw[T.stay.get j I,y.get j oM]
theorem bV{α:Type}{R:LV→α→Prop}{H H':d9}{lo sz:Nat}{v v':Value}{l:List α}(z:t7 H' lo sz R v' l)(h:X7 lo v H v' H'):Ret (some (D4 v' H H')) H fun D u=>t7 u lo sz R D l∧X7 lo v H D u∧u.low≤H.low:=by
 refine D7 (fun y J=>⟨z.na y _ _,⟨i4.refl _ _,fun _ _ _=>rfl,fun b E=>?_⟩,lR⟩) ⟨z.low _,⟨⟨h.stay.next,fun k I q=>?_,h.stay.get⟩,h.but,h.new⟩,Nat.min_le_left _ _⟩
 ·obtain⟨n,c,e⟩:=E;rw[e]at y;cases y
 ·have:=h.stay.lowAll k I q;show k≤min H.low H'.low;omega
theorem GT(H:d9)(lo:Nat)(v:Value)(l:List (ByteArray×ByteArray))(x:ByteArray×ByteArray)(U:lo≤H.next)(hO:t7 H lo 2 (v8 nmE) v l)(hl:l.length≤1000000):
  Ret (CL prog t6 126 [v,.agg (nmE x).toArray] H) H fun v' H'=>t7 H' lo 2 (v8 nmE) v' (V9 l x)∧X7 lo v H v' H'∧H'.low≤H.low:=by
 obtain⟨z,u⟩:∃z:d9,z=d9.push ⟨H.bs,H.next⟩ (.cells (nmE x) true 1):=⟨_,rfl⟩
 have O:i4 H.next H z:=by rw[u];first|exact i4.first H _|exact i4.start H
 have a4:=O.next;have a3:H.next≤z.low:=by rw[u];exact lR
 have E:=hO.keep O;have S:=MK z z.next v l x lR E.sl oM;have W:ldC (some true) (some 2) 0 (nmE x)=some (.agg (nmE x).toArray):=rfl;have a2:(l.any fun y=>Q3 x y)=P0 l x:=by unfold P0;congr 1;funext y;first|exact decide_eq_decide.2 ⟨Eq.symm,Eq.symm⟩|(rw[Bool.eq_iff_iff,ck,ck];exact eq_comm)
 rw[a2]at S;rw[j8 WN rfl _ (by simp)];rcases b:P0 l x with _|_
 ·rw[b]at S;have I:V9 l x=l++[x]:=by rw[V9,b];rfl
  obtain⟨v',h',H4,ha,a1,X,D⟩:=E.push1F (P:=prog) (t:=95) (cs:=nmE x) (a:=x) (by exact pJ.2.2.2.2.2.2) cr.1 cr.2.1 cr.2.2.1 oM oM rfl rfl oM oM;have J:z.get H.next=cE (nmE x) 1:=by rw[u];exact i7
  refine J6 u.symm J S W ha a1 ?_;rw[I];exact bV X ⟨(O.weaken U).trans D.stay,fun j hj h=>by rw[D.but j oM h,O.get j hj],fun b hb=>(D.new b hb).imp id fun q=>oM⟩
 ·rw[b]at S;have I:V9 l x=l:=by rw[V9,b];rfl
  have J:z.get H.next=cE (nmE x) 1:=by rw[u];exact i7
  refine J4 u.symm J S W ?_;rw[I];exact bV E (X7.of v O U)
theorem yZ(H:d9)(lo:Nat)(v:Value)(l:List (ByteArray))(x:ByteArray)(S:lo≤H.next)(hO:t7 H lo 1 (v8 stE) v l)(hl:l.length≤1000000):
  Ret (CL prog t6 128 [v,.string x] H) H fun v' H'=>t7 H' lo 1 (v8 stE) v' (bu l x)∧X7 lo v H v' H'∧H'.low≤H.low:=by
 obtain⟨I,u⟩:∃I:d9,I=⟨H.bs,H.next⟩:=⟨_,rfl⟩
 have J:i4 H.next H I:=by rw[u];first|exact i4.first H _|exact i4.start H
 have U:=J.next;have a2:H.next≤I.low:=by rw[u];exact lR
 have D:=hO.keep J;have O:=AV I I.next v l x lR D.sl oM;have a3:ldC (some true) (some 1) 0 (stE x)=some (.agg (stE x).toArray):=rfl;have a1:(l.any fun y=>ci x y)=V0 l x:=by unfold V0;congr 1;funext y;first|exact decide_eq_decide.2 ⟨Eq.symm,Eq.symm⟩|(rw[Bool.eq_iff_iff,ck,ck];exact eq_comm)
 rw[a1]at O;rw[j8 WP rfl _ (by simp)];rcases b:V0 l x with _|_
 ·rw[b]at O;have E:bu l x=l++[x]:=by rw[bu,b];rfl
  obtain⟨v',h',H4,ha,X,W,z⟩:=D.push1F (P:=prog) (t:=97) (cs:=stE x) (a:=x) (by exact aH.2.2.2.2.2.2) ty9.1 ty9.2.1 ty9.2.2.1 oM oM rfl rfl oM oM;have _:=U;refine J4 u.symm O ha X ?_;rw[E];exact bV W ⟨(J.weaken S).trans z.stay,fun j hj h=>by rw[z.but j oM h,J.get j hj],fun b hb=>(z.new b hb).imp id fun q=>oM⟩
 ·rw[b]at O;have E:bu l x=l:=by rw[bu,b];rfl
  have _:=U;refine J2 u.symm O ?_;rw[E];exact bV D (X7.of v J S)
theorem kG(l:List (ByteArray×ByteArray))(n:ByteArray×ByteArray):(l.any fun y=>Q3 n y)=P0 l n:=by
 unfold P0;congr 1;funext y;rw[Bool.eq_iff_iff,ck,ck];exact eq_comm
theorem Ef(l:List (ByteArray×ByteArray))(n:ByteArray×ByteArray)(h:P0 l n=false):ixN (l++[n]) n=l.length:=by
 have:∀(l:List (ByteArray×ByteArray))(k:Nat),(l.any fun y=>Q3 n y)=false→ixG (fun y=>Q3 n y) (l++[n]) k=((k+l.length:Nat):Int):=by
  intro l;induction l with
  |nil=>intro k _;rw[List.nil_append,ixG,if_pos (ck.2 rfl)];simp
  |cons y l z=>
   intro k u;rw[List.any_cons,Bool.or_eq_false_iff]at u;rw[List.cons_append,ixG,if_neg (by rw[u.1];decide),z (k+1) u.2,List.length_cons];congr 1;omega
 unfold ixN;rw[this l 0 (by rw[kG];exact h)];omega
theorem aO.inl{H:d9}{u:Nat}{O:Nat→Prop}{s:SpD}{w1 w2 w3 w4:Value}{us:LV}(h:aO H u O s w1 w2 w3 w4 us){w:Value}(z:w∈w1::w2::w3::w4::us){b:Nat}(y:j9 w b):u<b∧b<H.next:=h.lt b (h.o w z b y)
theorem vj(H:d9)(E:Nat)(O:Nat→Prop)(s:SpD)(w1 w2 w3 w4:Value)(us:LV)(n:ByteArray×ByteArray)(hR:aO H E O s w1 w2 w3 w4 us)(hl:s.attrs.length≤100000):
  Ret (CL prog t6 127 [pT E,.agg (nmE n).toArray] H) H fun v I=>v=iV (ixN (F6 s n).attrs n)∧dH E O s H I (F6 s n):=by
 obtain⟨I,X⟩:∃I:d9,I=d9.push ⟨H.bs,H.next⟩ (.cells (nmE n) true 1):=⟨_,rfl⟩
 have hS:i4 H.next H I:=by rw[X];exact i4.first H _
 have e7:I.next=H.next+1:=by rw[X,i5];rfl
 have a5:H.next≤I.low:=by rw[X];exact lR
 have d4:=u6 hR.g;have g1:I.get H.next=cE (nmE n) 1:=by rw[X];exact i7
 have z:aO I E O s w1 w2 w3 w4 us:=hR.keep (fun j hj=>hS.get j (by rcases hj with rfl|hj;exact d4;exact(hR.lt j hj).2)) (fun _ h=>h) (fun b D=>by have:=hR.lt b D;omega);have a7:=z.g;have c7:ldC (some true) (some 2) 0 (nmE n)=some (.agg (nmE n).toArray):=rfl;have hh:=vy I I.next w2 s.attrs n lR z.a.sl oM;have r0:[w1,w2,w3,w4][1]?=some w2:=rfl;rw[j8 WO rfl _ (by simp)];rcases b:P0 s.attrs n with _|_
 ·have b5:ixG (fun y=>Q3 n y) s.attrs 0= -1:=by
   rcases eW (fun y=>Q3 n y) s.attrs 0 with q|q
   ·exact q.2
   ·have:=q.1;rw[kG,b]at this;cases this
  rw[b5]at hh;have b3:F6 s n={s with attrs:=s.attrs++[n],vals:=s.vals++[[]]}:=by rw[F6,b];rfl
  rw[b3];simp only;rw[Ef _ _ b];obtain⟨W,h2,K2,b9,a9,a4,J⟩:=z.a.push1F (P:=prog) (t:=95) (cs:=nmE n) (a:=n) (by exact pJ.2.2.2.2.2.2) cr.1 cr.2.1 cr.2.2.1 oM oM rfl rfl oM oM;obtain⟨K1,b1⟩:∃K,K=I.push (.cells (nmE n) true 2):=⟨_,rfl⟩
  rw[←b1]at b9 a9;have s1:i4 I.next I K1:=by rw[b1];exact i4.push lR
  have c8:∀w∈w1::w2::w3::w4::us,∀b,j9 w b→b≠E:=fun w hw b D=>by have:=z.inl hw D;omega
  have n2:=J.next;have g2:K2.get E=cE [w1,w2,w3,w4] 1:=(J.but E oM (fun q=>c8 w2 (by simp) E q rfl)).trans a7;have d2:K1.get E=cE [w1,w2,w3,w4] 1:=(s1.get E oM).trans a7;have b7:∀b,j9 w3 b→¬j9 w2 b:=fun b h3 h2=>z.ap 1 2 w2 w3 rfl rfl oM b h2 h3;have d3:t7 K2 (E+1) 1 (v8 fun u=>[u]) w3 us:=z.v.same fun b D=>J.but b (z.inl (by simp) D).2 (b7 b D);obtain⟨v3,h3,K4,c0,b0,a8,S⟩:=d3.push1F (P:=prog) (t:=96) (cs:=[nS]) (a:=nS) (by exact NR.2.2.2.2.2.2) aH.1 aH.2.1 aH.2.2.1 oM oM rfl rfl (by have:=z.len;have:=z.al;omega) oM;obtain⟨K3,b2⟩:∃K,K=K2.push (.cells [nS] true 1):=⟨_,rfl⟩
  rw[←b2]at c0 b0;have s3:i4 K2.next K2 K3:=by rw[b2];exact i4.push lR
  have n4:=S.next;have g3:K3.get E=cE [w1,w2,w3,w4] 1:=(s3.get E oM).trans g2;have g4:K4.get E=cE [w1,w2,w3,w4] 1:=(S.but E oM (fun q=>c8 w3 (by simp) E q rfl)).trans g2;obtain⟨a2,c2,e2⟩:=a4.slice;obtain⟨a3,c3,e3⟩:=a8.slice;have d0:W.cells.toList=[W]:=by rw[e2];rfl
  have e4:Value.oneCell' W=true:=by rw[e2];rfl
  have d1:v3.cells.toList=[v3]:=by rw[e3];rfl
  have e5:Value.oneCell' v3=true:=by rw[e3];rfl
  obtain⟨K5,a1⟩:∃K,K=K4.put E (.cells [w1,W,w3,w4] true 1):=⟨_,rfl⟩
  have g5:K5.get E=cE [w1,W,w3,w4] 1:=by rw[a1];exact i8 oM
  obtain⟨K6,U⟩:∃K,K=K5.put E (.cells [w1,W,v3,w4] true 1):=⟨_,rfl⟩
  have n6:K6.next=K4.next:=by rw[U,j5,a1,j5]
  have g6:K6.get E=cE [w1,W,v3,w4] 1:=by rw[U];exact i8 (by rw[a1,j5];omega)
  have c4:bsA prog (some 48) I 1 [(0,.agg (nmE n).toArray)]=some (.slice (some ⟨I.next,0,none⟩) 1 1,K1):=by
   rw[b1];simp only[C7,cr,C8];rfl
  have c5:bsA prog (some 97) K2 1 [(0,nS)]=some (.slice (some ⟨K2.next,0,none⟩) 1 1,K3):=by
   rw[b2];simp only[C7,aH,C8];rfl
  have b6:∀Hx:d9,D3 prog .len [95] [W] Hx=some (.int .i64 ((s.attrs.length:Int)+1),none):=fun Hx=>by
   rw[e2,List.length_append];refine J1 pJ ?_;simp
  have e6:∀j,j≠E→K6.get j=K4.get j:=fun j hj=>by rw[U,i9 (fun q=>hj q.symm),a1,i9 (fun q=>hj q.symm)]
  refine J25 X.symm g1 a7 c7 hh c4 d2 b9 a9 g2 c5 g3 c0 b0 g4 d0 e4 a1.symm g5 d1 e5 U.symm g6 b6 @wrap_small ?_;have ew:(s.attrs.length:Int)+1-1=s.attrs.length:=oM;rw[ew];have b4:∀j,j<I.next→¬j9 w2 j→¬j9 w3 j→K4.get j=I.get j:=fun j hj h2 h3=>by rw[S.but j oM h3,J.but j hj h2]
  refine jP (w1:=w1) (w2:=w2) (w3:=w3) (w4:=w4) (us:=us) hS a5 hR ⟨P5 O I K6,w1,W,v3,w4,us++[nS],⟨g6,?_,?_,?_,?_,?_,?_,?_,?_,?_,?_⟩,?_,?_,?_,?_,?_⟩
  ·exact z.n.same fun b D=>by
    have:=z.inl (w:=w1) (by simp) D;rw[e6 b oM,b4 b this.2 (fun q=>z.ap 0 1 w1 w2 rfl rfl oM b D q) (fun q=>z.ap 0 2 w1 w3 rfl rfl oM b D q)]
  ·exact a4.same fun b D=>by
    have d6:=a4.lt D;rw[e6 b oM,S.but b d6.2 fun q=>?_];rcases J.new b D with r|r
    ·exact b7 b q r
    ·have:=z.inl (w:=w3) (by simp) q;omega
  ·exact a8.same fun b D=>e6 b (by have:=a8.lt D;omega)
  ·rw[List.length_append,List.length_append,z.len];rfl
  ·rw[List.length_append,List.length_append,z.al];rfl
  ·intro i u l hu hl;have c6:=z.len;by_cases hi:i<us.length
   ·rw[List.getElem?_append_left hi]at hu;rw[List.getElem?_append_left oM]at hl;exact(z.u i u l hu hl).same fun b D=>by
     have:=z.inl (w:=u) (by simp [List.mem_of_getElem? hu]) D;rw[e6 b oM,b4 b this.2 (fun q=>z.ap (i+4) 1 u w2 hu rfl oM b D q) (fun q=>z.ap (i+4) 2 u w3 hu rfl oM b D q)]
   ·rw[List.getElem?_append_right oM]at hu hl;cases hm:i-us.length with
    |zero=>
     rw[hm]at hu;rw[←c6,hm]at hl;simp at hu hl
     first|rw[←hu,←hl]|rw[←hu,hl]
     exact t7.nil
    |succ m=>rw[hm]at hu;simp at hu
  ·exact z.t.same fun b D=>by
    have:=z.inl (w:=w4) (by simp) D;rw[e6 b oM,b4 b this.2 (fun q=>z.ap 3 1 w4 w2 rfl rfl oM b D q) (fun q=>z.ap 3 2 w4 w3 rfl rfl oM b D q)]
  ·have p1:aJ (w1::W::w3::w4::us):=z.ap.set (k:=1) (v:=W) (n:=I.next) rfl J.new (fun x hx b D=>(z.inl hx D).2);have p2:aJ (w1::W::v3::w4::us):=p1.set (k:=2) (v:=v3) (n:=K2.next) rfl S.new (fun x hx b D=>by
    rcases List.mem_cons.1 hx with rfl|hx
    ·have:=z.inl (w:=x) (by simp) D;omega
    rcases List.mem_cons.1 hx with rfl|hx
    ·exact(a4.lt D).2
    ·have:=z.inl (w:=x) (List.mem_cons_of_mem _ (List.mem_cons_of_mem _ hx)) D;omega)
   exact p2.nil
  ·intro w hw b D;have a6:∀w∈w1::w2::w3::w4::us,j9 w b→P5 O I K6 b:=fun w hw D=> .inl (z.o w hw b D);have e1:w=w1∨w=W∨w=v3∨w=w4∨w∈us∨w=nS:=by
    have:w∈w1::W::v3::w4::(us++[nS]):=hw;simp only[List.mem_cons,List.mem_append,List.mem_singleton,List.not_mem_nil,or_false]at this;exact this
   rcases e1 with h|h|h|h|h|h
   ·exact a6 w1 (by simp) (h▸D)
   ·rw[h]at D;rcases J.new b D with r|r
    ·exact a6 w2 (by simp) r
    ·exact .inr ⟨r,by have:=a4.lt D;omega⟩
   ·rw[h]at D;rcases S.new b D with r|r
    ·exact a6 w3 (by simp) r
    ·exact .inr ⟨oM,by have:=a8.lt D;omega⟩
   ·exact a6 w4 (by simp) (h▸D)
   ·exact a6 w (by simp [h]) D
   ·rw[h]at D;exact absurd D (A9 b)
  ·intro b D;rcases D with D|D
   ·have:=z.lt b D;omega
   ·omega
  ·intro b D;exact D.imp id fun h=>h.1
  ·exact .inr ⟨E,.inl rfl,by rw[U,A4];omega⟩
  ·intro j hj h1 h2;rw[e6 j h1,b4 j hj (fun q=>h2 (z.o w2 (by simp) j q)) (fun q=>h2 (z.o w3 (by simp) j q))]
  ·rw[U,a1];exact(((J.stay.weaken oM).trans (S.stay.weaken oM)).trans (i4.put lR)).trans (i4.put lR)
  ·have:K6.low≤E:=by rw[U,A4];omega
   omega
 ·have d5:=W9.1 b;obtain⟨_,_,b5⟩:=tQ s.attrs n d5;rw[b5]at hh;have b3:F6 s n=s:=by rw[F6,b];rfl
  have c9:decide ((0:Int)≤(ixN s.attrs n:Nat))=true:=decide_eq_true oM;rw[b3];refine J6 X.symm g1 a7 c7 hh c9 ?_;have b8:=jP (v:=iV (ixN s.attrs n)) hS a5 hR ⟨O,w1,w2,w3,w4,us,z,jA.refl _ _ _ _⟩;rw[kA _ _ _ _ a5]at b8;exact b8
theorem xw{H H':d9}{D:Nat}{O:Nat→Prop}{s:SpD}{w1 w2 w3 w4 v':Value}{us:LV}{l':List (ByteArray×ByteArray)}(z:aO H D O s w1 w2 w3 w4 us)(X:t7 H' (D+1) 2 (v8 nmE) v' l')(J:X7 (D+1) w1 H v' H')(hl:H'.low≤H.low):
  dH D O s H (H'.put D (.cells [v',w2,w3,w4] true 1)) {s with names:=l'}:=by
 have hn:=J.next;have a1:=u6 z.g;obtain⟨K,E⟩:∃K,K=H'.put D (.cells [v',w2,w3,w4] true 1):=⟨_,rfl⟩
 have nK:K.next=H'.next:=by rw[E,j5]
 have gK:K.get D=cE [v',w2,w3,w4] 1:=by rw[E];exact i8 oM
 have W:∀j,j≠D→K.get j=H'.get j:=fun j hj=>by rw[E,i9 (fun q=>hj q.symm)]
 have sm:∀(i:Nat)(w:Value),(w1::w2::w3::w4::us)[i]?=some w→i≠0→∀b,j9 w b→K.get b=H.get b:=fun i w S hi b y=>by
  have:=z.inl (List.mem_of_getElem? S) y;rw[W b oM,J.but b this.2 (fun q=>z.ap i 0 w w1 S rfl hi b y q)]
 have hs:t7 K (D+1) 2 (v8 nmE) v' l':=X.same fun b y=>W b (by have:=X.lt y;omega);have U:∀(w:Value)(i:Nat){α:Type}{sz:Nat}{R:LV→α→Prop}{l:List α},(w1::w2::w3::w4::us)[i]?=some w→i≠0→t7 H (D+1) sz R w l→t7 K (D+1) sz R w l:=fun w i _ _ _ _ S hi h=>h.same (sm i w S hi);rw[←E];refine⟨P5 O H K,v',w2,w3,w4,us,⟨gK,?_,?_,U w3 2 rfl oM z.v,z.len,z.al,fun i u l hu hl=>U u (i+4) hu oM (z.u i u l hu hl),?_,z.ap.set (k:=0) (v:=v') (n:=H.next) rfl J.new (fun x hx b y=>(z.inl hx y).2),fun w S b y=>?_,fun b y=>?_⟩,fun b y=>y.imp id fun h=>h.1,.inr ⟨D,.inl rfl,by rw[E,A4];omega⟩,fun j hj h1 h2=>by rw[W j h1,J.but j hj (fun q=>h2 (z.o w1 (by simp) j q))],by rw[E];exact(J.stay.weaken oM).trans (i4.put lR),by rw[E,A4];omega⟩
 ·first|exact hs|exact U w1 0 rfl oM z.n
 ·exact U w2 1 rfl oM z.a
 ·first|exact hs|exact U w4 3 rfl oM z.t
 ·by_cases h:w∈w1::w2::w3::w4::us
  ·exact .inl (z.o w h b y)
  ·have:w=v':=by
    apply Classical.byContradiction;intro hv;have I:w∈v'::w2::w3::w4::us:=S;apply h;simp only[List.mem_cons,hv,false_or]at I ⊢
    first|exact .inr I|(rcases I with q|q|q|q;exact .inl q;exact .inr (.inl q);exact .inr (.inr (.inl q));exact .inr (.inr (.inr (.inr q))))
   rw[this]at y;rcases J.new b y with r|r
   ·exact .inl (z.o w1 (by simp) b r)
   ·exact .inr ⟨r,by have:=X.lt y;omega⟩
 ·rcases y with y|y
  ·have:=z.lt b y;omega
  ·omega
theorem xx{H H':d9}{D:Nat}{O:Nat→Prop}{s:SpD}{w1 w2 w3 w4 v':Value}{us:LV}{l':List (ByteArray)}(z:aO H D O s w1 w2 w3 w4 us)(X:t7 H' (D+1) 1 (v8 stE) v' l')(J:X7 (D+1) w4 H v' H')(hl:H'.low≤H.low):
  dH D O s H (H'.put D (.cells [w1,w2,w3,v'] true 1)) {s with texts:=l'}:=by
 have hn:=J.next;have a1:=u6 z.g;obtain⟨K,E⟩:∃K,K=H'.put D (.cells [w1,w2,w3,v'] true 1):=⟨_,rfl⟩
 have nK:K.next=H'.next:=by rw[E,j5]
 have gK:K.get D=cE [w1,w2,w3,v'] 1:=by rw[E];exact i8 oM
 have W:∀j,j≠D→K.get j=H'.get j:=fun j hj=>by rw[E,i9 (fun q=>hj q.symm)]
 have sm:∀(i:Nat)(w:Value),(w1::w2::w3::w4::us)[i]?=some w→i≠3→∀b,j9 w b→K.get b=H.get b:=fun i w S hi b y=>by
  have:=z.inl (List.mem_of_getElem? S) y;rw[W b oM,J.but b this.2 (fun q=>z.ap i 3 w w4 S rfl hi b y q)]
 have hs:t7 K (D+1) 1 (v8 stE) v' l':=X.same fun b y=>W b (by have:=X.lt y;omega);have U:∀(w:Value)(i:Nat){α:Type}{sz:Nat}{R:LV→α→Prop}{l:List α},(w1::w2::w3::w4::us)[i]?=some w→i≠3→t7 H (D+1) sz R w l→t7 K (D+1) sz R w l:=fun w i _ _ _ _ S hi h=>h.same (sm i w S hi);rw[←E];refine⟨P5 O H K,w1,w2,w3,v',us,⟨gK,?_,?_,U w3 2 rfl oM z.v,z.len,z.al,fun i u l hu hl=>U u (i+4) hu oM (z.u i u l hu hl),?_,z.ap.set (k:=3) (v:=v') (n:=H.next) rfl J.new (fun x hx b y=>(z.inl hx y).2),fun w S b y=>?_,fun b y=>?_⟩,fun b y=>y.imp id fun h=>h.1,.inr ⟨D,.inl rfl,by rw[E,A4];omega⟩,fun j hj h1 h2=>by rw[W j h1,J.but j hj (fun q=>h2 (z.o w4 (by simp) j q))],by rw[E];exact(J.stay.weaken oM).trans (i4.put lR),by rw[E,A4];omega⟩
 ·first|exact hs|exact U w1 0 rfl oM z.n
 ·exact U w2 1 rfl oM z.a
 ·first|exact hs|exact U w4 3 rfl oM z.t
 ·by_cases h:w∈w1::w2::w3::w4::us
  ·exact .inl (z.o w h b y)
  ·have:w=v':=by
    apply Classical.byContradiction;intro hv;have I:w∈w1::w2::w3::v'::us:=S;apply h;simp only[List.mem_cons,hv,false_or]at I ⊢
    first|exact .inr I|(rcases I with q|q|q|q;exact .inl q;exact .inr (.inl q);exact .inr (.inr (.inl q));exact .inr (.inr (.inr (.inr q))))
   rw[this]at y;rcases J.new b y with r|r
   ·exact .inl (z.o w4 (by simp) b r)
   ·exact .inr ⟨r,by have:=X.lt y;omega⟩
 ·rcases y with y|y
  ·have:=z.lt b y;omega
  ·omega
theorem DU{H H':d9}{J:Nat}{O:Nat→Prop}{s:SpD}{w1 w2 w4 u E:Value}{us:LV}{z n c i:Nat}{l':List ByteArray}(y:aO H J O s w1 w2 (.slice (some ⟨z,0,none⟩) n c) w4 us)(hu:us[i]?=some u)(hO:t7 H' (J+1) 1 (v8 stE) E l')(U:X7 (J+1) u H E H')(hl:H'.low≤H.low):
  dH J O s H (H'.put z (.cells (us.set i E) true 1)) {s with vals:=s.vals.set i l'}:=by
 have hn:=U.next;have a9:=u6 y.g;have I:j9 (.slice (some ⟨z,0,none⟩) n c) z:=⟨_,_,rfl⟩
 have l3:=y.inl (w:= .slice (some ⟨z,0,none⟩) n c) (by simp) I;have a1:(w1::w2:: .slice (some ⟨z,0,none⟩) n c::w4::us)[i+4]?=some u:=hu;obtain⟨K,hK⟩:∃K,K=H'.put z (.cells (us.set i E) true 1):=⟨_,rfl⟩
 have nK:K.next=H'.next:=by rw[hK,j5]
 have gK:K.get z=cE (us.set i E) 1:=by rw[hK];exact i8 oM
 have eK:∀j,j≠z→K.get j=H'.get j:=fun j W=>by rw[hK,i9 (fun q=>W q.symm)]
 have sm:∀(j:Nat)(w:Value),(w1::w2:: .slice (some ⟨z,0,none⟩) n c::w4::us)[j]?=some w→j≠i+4→j≠2→∀b,j9 w b→K.get b=H.get b:=fun j w hw W a3 b D=>by
  have:=y.inl (List.mem_of_getElem? hw) D;rw[eK b (fun q=>y.ap j 2 w _ hw rfl a3 b D (q▸I)),U.but b this.2 (fun q=>y.ap j (i+4) w u hw a1 W b D q)]
 have ho:∀(w:Value)(j:Nat){α:Type}{sz:Nat}{R:LV→α→Prop}{l:List α},(w1::w2:: .slice (some ⟨z,0,none⟩) n c::w4::us)[j]?=some w→j≠i+4→j≠2→t7 H (J+1) sz R w l→t7 K (J+1) sz R w l:=fun w j _ _ _ _ hw hi h2 h=>h.same (sm j w hw hi h2);have a8:∀b,j9 E b→b≠z:=fun b D q=>by
  rcases U.new b D with r|r
  ·exact y.ap (i+4) 2 u _ a1 rfl oM b r (q▸I)
  ·omega
 have a4:n=us.length:=by obtain⟨_,_,q⟩:=y.v.slice;cases q;rfl
 have a2:aJ (w1::w2:: .slice (some ⟨z,0,none⟩) n c::w4::us.set i E):=y.ap.set (k:=i+4) (v:=E) (n:=H.next) a1 U.new (fun x S b D=>(y.inl S D).2);have a6:t7 K (J+1) 1 (v8 fun u=>[u]) (.slice (some ⟨z,0,none⟩) n c) (us.set i E):=⟨us.set i E,.inr ⟨z,c,by rw[a4,List.length_set],gK,oM,by simp⟩,BT _⟩
 have a5:t7 K (J+1) 1 (v8 stE) E l':=hO.same fun b D=>eK b (a8 b D);rw[←hK];refine⟨P5 O H K,w1,w2,.slice (some ⟨z,0,none⟩) n c,w4,us.set i E,⟨?_,ho w1 0 rfl oM oM y.n,ho w2 1 rfl oM oM y.a,a6,by rw[List.length_set,List.length_set];exact y.len,by rw[List.length_set];exact y.al,fun j x m S X=>?_,ho w4 3 rfl oM oM y.t,a2,fun w hw b D=>?_,fun b D=>?_⟩,fun b D=>D.imp id fun h=>h.1,.inr ⟨z,.inr (y.o _ (by simp) z I),by rw[hK,A4];omega⟩,fun j W h1 h2=>by rw[eK j (fun q=>h2 (q▸y.o _ (by simp) z I)),U.but j W (fun q=>h2 (y.o u (by simp [List.mem_of_getElem? hu]) j q))],by rw[hK];exact(U.stay.weaken oM).trans (i4.put oM),by rw[hK,A4];omega⟩
 ·rw[eK J oM,U.but J oM (fun q=>by have:=y.inl (w:=u) (by simp [List.mem_of_getElem? hu]) q;omega)];exact y.g
 ·simp only at X;rw[List.getElem?_set]at S X;by_cases W:i=j
  ·rw[if_pos W]at S X;split at S
   ·split at X
    ·cases S;cases X;exact a5
    ·cases X
   ·cases S
  ·rw[if_neg W]at S X;exact ho x (j+4) S oM oM (y.u j x m S X)
 ·by_cases h:w∈w1::w2:: .slice (some ⟨z,0,none⟩) n c::w4::us
  ·exact .inl (y.o w h b D)
  ·have:w=E:=by
    apply Classical.byContradiction;intro hv;apply h;have a7:w=w1∨w=w2∨w= .slice (some ⟨z,0,none⟩) n c∨w=w4∨w∈us.set i E:=by simpa only[List.mem_cons] using hw
    rcases a7 with q|q|q|q|q
    ·simp [q]
    ·simp [q]
    ·simp [q]
    ·simp [q]
    ·rcases List.mem_or_eq_of_mem_set q with q|q
     ·simp [q]
     ·exact absurd q hv
   rw[this]at D;rcases U.new b D with r|r
   ·exact .inl (y.o u (by simp [List.mem_of_getElem? hu]) b r)
   ·exact .inr ⟨r,by have:=hO.lt D;omega⟩
 ·rcases D with D|D
  ·have:=y.lt b D;omega
  ·omega
def Sm(s:SpD)(m:Nat):Prop:=s.names.length≤m∧s.attrs.length≤m∧(∀l∈s.vals,l.length≤m)∧s.texts.length≤m
theorem vY(l:List (ByteArray×ByteArray))(x:ByteArray×ByteArray):(V9 l x).length≤l.length+1:=by unfold V9;split<;>simp
theorem mQ(l:List ByteArray)(x:ByteArray):(bu l x).length≤l.length+1:=by unfold bu;split<;>simp
theorem zr{s:SpD}{m:Nat}(h:Sm s m)(n:ByteArray×ByteArray):Sm (F6 s n) (m+1):=by
 obtain⟨z,D,y,E⟩:=h;unfold F6;split
 ·exact⟨oM,oM,fun l u=>by have:=y l u;omega,oM⟩
 ·refine⟨by show s.names.length≤_;omega,by simp;omega,fun l u=>?_,by show s.texts.length≤_;omega⟩;rcases List.mem_append.1 u with u|u
  ·have:=y l u;omega
  ·rw[List.mem_singleton.1 u];simp
theorem mS{s:SpD}{m:Nat}(h:Sm s m)(n:ByteArray×ByteArray):(∀l∈(F6 s n).vals,l.length≤m)∧(F6 s n).names.length≤m∧(F6 s n).texts.length≤m∧(F6 s n).attrs.length≤m+1:=by
 obtain⟨y,E,z,D⟩:=h;unfold F6;split
 ·exact⟨z,y,D,oM⟩
 ·refine⟨fun l u=>?_,y,D,by simp;omega⟩;rcases List.mem_append.1 u with u|u
  ·exact z l u
  ·rw[List.mem_singleton.1 u];simp
theorem rS{s:SpD}{m:Nat}(h:Sm s m)(q:Q):Sm (I9 s q) (m+1):=by
 have z:=h;obtain⟨O,S,E,U⟩:=h;have y:Sm s (m+1):=⟨oM,oM,fun l u=>by have:=E l u;omega,oM⟩
 unfold I9;split
 ·exact⟨by have:=vY s.names (qNm q);show(V9 s.names (qNm q)).length≤_;omega,y.2⟩
 split
 ·exact zr z _
 split
 ·obtain⟨D,W,X,J⟩:=mS z (qNm q);refine⟨by show(F6 s (qNm q)).names.length≤_;omega,J,fun l u=>?_,by show(F6 s (qNm q)).texts.length≤_;omega⟩;rcases List.mem_or_eq_of_mem_set u with u|u
  ·have:=D l u;omega
  ·rw[u];have:=mQ ((F6 s (qNm q)).vals.getD (ixN (F6 s (qNm q)).attrs (qNm q)) []) q.vl;have:((F6 s (qNm q)).vals.getD (ixN (F6 s (qNm q)).attrs (qNm q)) []).length≤m:=by
    rw[List.getD_eq_getElem?_getD];cases I:(F6 s (qNm q)).vals[ixN (F6 s (qNm q)).attrs (qNm q)]? with
    |none=>simp
    |some l=>exact D l (List.mem_of_getElem? I)
   omega
 split
 ·exact⟨y.1,y.2.1,y.2.2.1,by have:=mQ s.texts q.vl;show(bu s.texts q.vl).length≤_;omega⟩
 ·exact y
theorem bG(l:List Q):∀{s:SpD}{m:Nat},Sm s m→Sm (l.foldl I9 s) (m+l.length):=by
 induction l with
 |nil=>intro s m h;exact h
 |cons x l u=>intro s m h;rw[List.foldl_cons,List.length_cons,show m+(l.length+1)=m+1+l.length from oM];exact u (rS h x)
theorem ww(s:SpD)(n:ByteArray×ByteArray):n∈(F6 s n).attrs:=by
 unfold F6;split
 ·rename_i h;exact W9.1 h
 ·exact List.mem_append.2 (.inr (List.mem_singleton.2 rfl))
theorem tE(H1:d9)(I p3:Nat)(O:Nat→Prop)(s:SpD)(w1 w2 w3 w4:Value)(us:LV)(q:Q)(va wa:Option Addr)(ca c5:Nat)(U:aO H1 I O s w1 w2 w3 w4 us)(hs:Sm s 100000)(hp:p3≠I)(d3:¬O p3)(W:LV)(a4:W=[iV q.op,.string q.sp,.string q.lc,.string q.vl,.slice va q.a.length ca,.slice wa q.b.length c5])(S:H1.get p3=cE W 1)
  (e:Env) (f0:e.get 0=pT I) (f3:e.get 3=pT p3) (f10:e.get 10=iV q.op):
  u9 (LE prog t6 to e H1) (fun o e H2=>o= .normal∧e.get 0=pT I∧e.get 3=pT p3∧dH I O s H1 H2 (I9 s q)):=by
 unfold to;obtain⟨s1,s2,s3,s4⟩:=hs;have e5:=u6 U.g;have d2:=u6 S;have gg:=U.g;have a6:ldC (some true) (some 2) 1 W=some (.agg (nmE (qNm q)).toArray):=by rw[a4];rfl
 have r3:W[3]?=some (.string q.vl):=by rw[a4];rfl
 rcases X:decide (q.op=4)with _|_;rcases b5:decide (q.op=5)with _|_;rcases b6:decide (q.op=6)with _|_;rcases b7:decide (q.op=7)with _|_
 ·have h:I9 s q=s:=by
   unfold I9;rw[if_neg (dF X),if_neg (dF b5),if_neg (dF b6),if_neg (dF b7)]
  refine J7 f0 f3 f10 X b5 b6 b7 ?_;rw[h];exact⟨O,w1,w2,w3,w4,us,U,jA.refl _ _ _ _⟩
 ·have h:I9 s q={s with texts:=bu s.texts q.vl}:=by
   unfold I9;rw[if_neg (dF X),if_neg (dF b5),if_neg (dF b6),if_pos (dT b7)]
  obtain⟨v',h',H2,z,J,hO,hG,hl⟩:=yZ H1 (I+1) w4 s.texts q.vl oM U.t oM;have n2:=hG.next;have g2:H2.get I=cE [w1,w2,w3,w4] 1:=(hG.but I oM (fun q=>by have:=U.inl (w:=w4) (by simp) q;omega)).trans gg;obtain⟨a',c',e'⟩:=hO.slice;have cu:v'.cells.toList=[v']:=by rw[e'];rfl
  have ou:Value.oneCell' v'=true:=by rw[e'];rfl
  refine J15 f0 f3 f10 X b5 b6 b7 gg S r3 z J g2 cu ou ?_;rw[h];exact xx U hO hG hl
 ·have h:I9 s q={F6 s (qNm q)with vals:=(F6 s (qNm q)).vals.set (ixN (F6 s (qNm q)).attrs (qNm q)) (bu ((F6 s (qNm q)).vals.getD (ixN (F6 s (qNm q)).attrs (qNm q)) []) q.vl)}:=by
   unfold I9;rw[if_neg (dF X),if_neg (dF b5),if_pos (dT b6)]
  obtain⟨_,h',H2,z,J,rfl,O2,x1,x2,x3,x4,ys,y,a2⟩:=vj H1 I O s w1 w2 w3 w4 us (qNm q) U oM;have b2:=ww s (qNm q);obtain⟨c4,_⟩:=mS (m:=100000) ⟨s1,s2,s3,s4⟩ (qNm q);obtain⟨sA,d5⟩:∃sA,sA=F6 s (qNm q):=⟨_,rfl⟩
  rw[←d5]at z y a2 h b2 c4;obtain⟨D,b8⟩:∃D,D=ixN sA.attrs (qNm q):=⟨_,rfl⟩
  have a3:D<sA.vals.length:=by rw[b8,←y.al];exact(tQ _ _ b2).2.1
  rw[←b8]at z h;have e6:=a2.stay.next;have a8:=y.g;have c7:H2.get p3=cE W 1:=(a2.but p3 d2 hp d3).trans S;have b9:sA.vals[D]?=some (sA.vals.getD D []):=by rw[List.getD_eq_getElem?_getD,List.getElem?_eq_getElem a3];rfl
  have e1:=c4 _ (List.mem_of_getElem? b9);obtain⟨u,hu⟩:∃u,ys[D]?=some u:=⟨_,List.getElem?_eq_getElem (by rw[y.len];exact a3)⟩
  have c9:=y.u D u _ hu b9;obtain⟨v',e2,H3,b0,b1,a9,a1,d0⟩:=yZ H2 (I+1) u (sA.vals.getD D []) q.vl oM c9 oM;have hv:=y.v;obtain⟨E,c8,d4⟩:=hv;have e3:=GJ d4;subst e3;have d1:=y.len;rcases c8 with⟨_,q0,_⟩|⟨b3,c3,rfl,a5,e4,_⟩
  ·omega
  have h3:j9 (.slice (some ⟨b3,0,none⟩) E.length c3) b3:=⟨_,_,rfl⟩
  have e7:=a1.next;have g3:H3.get I=cE [x1,x2,.slice (some ⟨b3,0,none⟩) E.length c3,x4] 1:=(a1.but I oM (fun q=>by have:=y.inl (w:=u) (by simp [List.mem_of_getElem? hu]) q;omega)).trans a8;have a7:H3.get b3=cE E 1:=(a1.but b3 (u6 a5) (fun q=>y.ap (D+4) 2 u _ hu rfl oM b3 q h3)).trans a5;obtain⟨a',c',e'⟩:=a9.slice;have cu:v'.cells.toList=[v']:=by rw[e'];rfl
  have ou:Value.oneCell' v'=true:=by rw[e'];rfl
  have nt:(D:Int).toNat=D:=tN D;have c0:D<E.length:=oM;have i0:(0:Int)≤D:=oM;have i1:(D:Int)<E.length:=oM;have c6:D+1≤E.length:=c0;have d6:splice E D [v']=E.set D v':=rfl;refine J25 f0 f3 f10 X b5 b6 a8 c7 a6 r3 S z J a5 nt hu b0 b1 g3 a7 cu ou c6 @Nat.mul_one d6 ?_;rw[h];obtain⟨O3,y1,y2,y3,y4,zs,R3,T3⟩:=DU y hu a9 a1 d0;exact⟨O3,y1,y2,y3,y4,zs,R3,a2.trans (i4.refl _ _) lR oM T3⟩
 ·have h:I9 s q=F6 s (qNm q):=by
   unfold I9;rw[if_neg (dF X),if_pos (dT b5)]
  obtain⟨_,h',H2,z,J,rfl,hQ⟩:=vj H1 I O s w1 w2 w3 w4 us (qNm q) U oM;refine J9 f0 f3 f10 X b5 S a6 z J ?_;rw[h];exact hQ
 ·have h:I9 s q={s with names:=V9 s.names (qNm q)}:=by
   unfold I9;rw[if_pos (dT X)]
  obtain⟨v',h',H2,z,J,hO,hG,hl⟩:=GT H1 (I+1) w1 s.names (qNm q) oM U.n oM;have n2:=hG.next;have g2:H2.get I=cE [w1,w2,w3,w4] 1:=(hG.but I oM (fun q=>by have:=U.inl (w:=w1) (by simp) q;omega)).trans gg;obtain⟨a',c',e'⟩:=hO.slice;have cu:v'.cells.toList=[v']:=by rw[e'];rfl
  have ou:Value.oneCell' v'=true:=by rw[e'];rfl
  refine J12 f0 f3 f10 X gg S a6 z J g2 cu ou ?_;rw[h];exact xw U hO hG hl
def dx(fn:Nat)(f:Bool)(k:Nat):Prop:=∀(H:d9)(lo gb:Nat)(O:Nat→Prop)(s:SpD)(w1 w2 w3 w4:Value)(us cs:LV)(q:Q)(m:Nat),lo≤gb→aO H gb O s w1 w2 w3 w4 us→QR H lo k f cs q→Sm s m→m+nQ q≤100000→
 Ret (CL prog t6 fn [pT gb,.agg cs.toArray] H) H fun v H1=>v=undef∧dH gb O s H H1 ((fsQ f q).foldl I9 s)
theorem eg(f:Bool)(l:List Q)(i:Nat)(x:Q)(h:l.drop i=x::l.drop (i+1)):fsL f (l.drop i)=fsQ f x++fsL f (l.drop (i+1)):=by rw[h,fsL]
theorem MI(k:Nat)(ih:dx 79 false k)(H0:d9)(lo z:Nat)(b2:lo≤z)(b4:z<H0.next)(O0:Nat→Prop)(s0:SpD)(va:Option Addr)(ca:Nat)(l:List Q)(hv:QsR H0 lo k false (.slice va l.length ca) l)(hn:l.length≤1048576)(p3:Value)(S:SpD):
  ∀kk e H2,(∃(i:Nat)(s:SpD)(m:Nat),kk=l.length-i∧i≤l.length∧e.get 0=pT z∧e.get 3=p3∧e.get 9= .slice va l.length ca∧e.get 10=iV l.length∧e.get 11=iV i∧dH z O0 s0 H0 H2 s∧Sm s m∧m+nL (l.drop i)≤100000∧(fsL false (l.drop i)).foldl I9 s=S)→
  u9 (LE prog t6 (.loop Gi) e H2) (fun o e H2=>o= .exit 0∧e.get 0=pT z∧e.get 3=p3∧dH z O0 s0 H0 H2 S):=by
 refine j7 _ _ ?_;rintro kk e H2 ⟨i,s,m,b6,hi,f0,f3,fL,fM,fJ,hQ,I,D,W⟩;rcases b:decide ((i:Int)<l.length)with _|_
 ·have a6:=dF b;have:l.drop i=[]:=dN oM;rw[this,fsL,List.foldl_nil]at W;refine J3 fM fJ b ?_;exact l7 ⟨rfl,f0,f3,by rw[←W];exact hQ⟩
 have a6:=dT b;obtain⟨O,w1,w2,w3,w4,us,X,hT⟩:=hQ;have hS:=hT.stay;have b8:=hS.next;have a9:=u6 X.g;obtain⟨x,nb,o,cs,own,el,hx,hd,rfl,b7,hg,b1,E,hr⟩:=hv.row (i:=i) oM;have b9:=List.mem_of_getElem? hx;have nt:(i:Int).toNat=i:=tN i;simp only[qSz,if_true,Bool.false_eq_true,if_false]at E hg b1;rw[eg _ _ _ _ hd,List.foldl_append]at W;have a8:m+(nQ x+nL (l.drop (i+1)))≤100000:=by rw[hd,nL]at D;exact D
 have a1:el.all Value.oneCell'=true:=F0 hr;have U:=hr.len;simp only[qSz,if_true,Bool.false_eq_true,if_false]at U;have J:=M8 hr;rw[U]at J;have gx:=(hS.get nb oM).trans hg;obtain⟨y,u⟩:∃y,y=(H2.push (.cells [iV 0,nS,nS] true 1)).put H2.next (.cells el true 1):=⟨_,rfl⟩
 have n3:y.next=H2.next+1:=by rw[u,j5,i5]
 have s3:i4 H2.next H2 y:=by rw[u];exact(i4.push lR).trans (i4.put lR)
 have l3:y.low≤H2.low:=by rw[u,A4,t5];omega
 have g3:y.get H2.next=cE el 1:=by rw[u];exact i8 (by rw[i5];omega)
 have b3:splice [iV 0,nS,nS] 0 el=el:=w7 _ _ (by rw[U];rfl);have a2:∀j,j<lo→y.get j=H0.get j:=fun j hj=>by rw[s3.get j oM,hS.get j oM]
 have a3:aO y z O s w1 w2 w3 w4 us:=X.keep (fun j hj=>s3.get j (by rcases hj with rfl|hj;exact a9;exact(X.lt j hj).2)) (fun _ h=>h) (fun b hb=>by have:=X.lt b hb;omega);obtain⟨v4,h4,H4,a7,b0,rfl,O4,x1,x2,x3,x4,ys,a4,a5⟩:=ih y lo z O s w1 w2 w3 w4 us el x m b2 a3 (hr.mono a2 lR) I oM;refine J17 f0 fL fM fJ b gx nt E a1 U b3 u.symm g3 J a7 b0 @wrap_small ?_;have b5:=bU false x;exact i6 (kk-1) oM ⟨i+1,_,m+(fsQ false x).length,oM,oM,f0,f3,fL,fM,rfl,⟨O4,x1,x2,x3,x4,ys,a4,hT.trans s3 l3 oM a5⟩,bG _ I,oM,W⟩
theorem MJ(k:Nat)(ih:dx 101 true k)(H0:d9)(lo z:Nat)(b2:lo≤z)(b4:z<H0.next)(O0:Nat→Prop)(s0:SpD)(va:Option Addr)(ca:Nat)(l:List Q)(hv:QsR H0 lo k true (.slice va l.length ca) l)(hn:l.length≤1048576)(p3:Value)(S:SpD):
  ∀kk e H2,(∃(i:Nat)(s:SpD)(m:Nat),kk=l.length-i∧i≤l.length∧e.get 0=pT z∧e.get 3=p3∧e.get 20= .slice va l.length ca∧e.get 21=iV l.length∧e.get 22=iV i∧dH z O0 s0 H0 H2 s∧Sm s m∧m+nL (l.drop i)≤100000∧(fsL true (l.drop i)).foldl I9 s=S)→
  u9 (LE prog t6 (.loop Gj) e H2) (fun o e H2=>o= .exit 2∧e.get 0=pT z∧e.get 3=p3∧dH z O0 s0 H0 H2 S):=by
 refine j7 _ _ ?_;rintro kk e H2 ⟨i,s,m,b6,hi,f0,f3,fL,fM,fJ,hQ,I,D,W⟩;rcases b:decide ((i:Int)<l.length)with _|_
 ·have a6:=dF b;have:l.drop i=[]:=dN oM;rw[this,fsL,List.foldl_nil]at W;refine J3 fM fJ b ?_;exact l7 ⟨rfl,f0,f3,by rw[←W];exact hQ⟩
 have a6:=dT b;obtain⟨O,w1,w2,w3,w4,us,X,hT⟩:=hQ;have hS:=hT.stay;have b8:=hS.next;have a9:=u6 X.g;obtain⟨x,nb,o,cs,own,el,hx,hd,rfl,b7,hg,b1,E,hr⟩:=hv.row (i:=i) oM;have b9:=List.mem_of_getElem? hx;have nt:(i:Int).toNat=i:=tN i;simp only[qSz,if_true,Bool.false_eq_true,if_false]at E hg b1;rw[eg _ _ _ _ hd,List.foldl_append]at W;have a8:m+(nQ x+nL (l.drop (i+1)))≤100000:=by rw[hd,nL]at D;exact D
 have a1:el.all Value.oneCell'=true:=F0 hr;have U:=hr.len;simp only[qSz,if_true,Bool.false_eq_true,if_false]at U;have J:=M8 hr;rw[U]at J;have gx:=(hS.get nb oM).trans hg;obtain⟨y,u⟩:∃y,y=(H2.push (.cells [iV 0,.string eB,.string eB,.string eB,nS,nS] true 1)).put H2.next (.cells el true 1):=⟨_,rfl⟩
 have n3:y.next=H2.next+1:=by rw[u,j5,i5]
 have s3:i4 H2.next H2 y:=by rw[u];exact(i4.push lR).trans (i4.put lR)
 have l3:y.low≤H2.low:=by rw[u,A4,t5];omega
 have g3:y.get H2.next=cE el 1:=by rw[u];exact i8 (by rw[i5];omega)
 have b3:splice [iV 0,.string eB,.string eB,.string eB,nS,nS] 0 el=el:=w7 _ _ (by rw[U];rfl);have a2:∀j,j<lo→y.get j=H0.get j:=fun j hj=>by rw[s3.get j oM,hS.get j oM]
 have a3:aO y z O s w1 w2 w3 w4 us:=X.keep (fun j hj=>s3.get j (by rcases hj with rfl|hj;exact a9;exact(X.lt j hj).2)) (fun _ h=>h) (fun b hb=>by have:=X.lt b hb;omega);obtain⟨v4,h4,H4,a7,b0,rfl,O4,x1,x2,x3,x4,ys,a4,a5⟩:=ih y lo z O s w1 w2 w3 w4 us el x m b2 a3 (hr.mono a2 lR) I oM;refine J17 f0 fL fM fJ b gx nt E a1 U b3 u.symm g3 J a7 b0 @wrap_small ?_;have b5:=bU true x;exact i6 (kk-1) oM ⟨i+1,_,m+(fsQ true x).length,oM,oM,f0,f3,fL,fM,rfl,⟨O4,x1,x2,x3,x4,ys,a4,hT.trans s3 l3 oM a5⟩,bG _ I,oM,W⟩
theorem DV(k:Nat)(ih:dx 101 true k)(H0:d9)(lo z:Nat)(b2:lo≤z)(b4:z<H0.next)(O0:Nat→Prop)(s0:SpD)(va:Option Addr)(ca:Nat)(l:List Q)(hv:QsR H0 lo k true (.slice va l.length ca) l)(hn:l.length≤1048576)(p3:Value)(S:SpD):
  ∀kk e H2,(∃(i:Nat)(s:SpD)(m:Nat),kk=l.length-i∧i≤l.length∧e.get 0=pT z∧e.get 3=p3∧e.get 70= .slice va l.length ca∧e.get 71=iV l.length∧e.get 72=iV i∧dH z O0 s0 H0 H2 s∧Sm s m∧m+nL (l.drop i)≤100000∧(fsL true (l.drop i)).foldl I9 s=S)→
  u9 (LE prog t6 (.loop Ad) e H2) (fun o e H2=>o= .exit 1∧e.get 0=pT z∧e.get 3=p3∧dH z O0 s0 H0 H2 S):=by
 refine j7 _ _ ?_;rintro kk e H2 ⟨i,s,m,b6,hi,f0,f3,fL,fM,fJ,hQ,I,D,W⟩;rcases b:decide ((i:Int)<l.length)with _|_
 ·have a6:=dF b;have:l.drop i=[]:=dN oM;rw[this,fsL,List.foldl_nil]at W;refine J3 fM fJ b ?_;exact l7 ⟨rfl,f0,f3,by rw[←W];exact hQ⟩
 have a6:=dT b;obtain⟨O,w1,w2,w3,w4,us,X,hT⟩:=hQ;have hS:=hT.stay;have b8:=hS.next;have a9:=u6 X.g;obtain⟨x,nb,o,cs,own,el,hx,hd,rfl,b7,hg,b1,E,hr⟩:=hv.row (i:=i) oM;have b9:=List.mem_of_getElem? hx;have nt:(i:Int).toNat=i:=tN i;simp only[qSz,if_true,Bool.false_eq_true,if_false]at E hg b1;rw[eg _ _ _ _ hd,List.foldl_append]at W;have a8:m+(nQ x+nL (l.drop (i+1)))≤100000:=by rw[hd,nL]at D;exact D
 have a1:el.all Value.oneCell'=true:=F0 hr;have U:=hr.len;simp only[qSz,if_true,Bool.false_eq_true,if_false]at U;have J:=M8 hr;rw[U]at J;have gx:=(hS.get nb oM).trans hg;obtain⟨y,u⟩:∃y,y=(H2.push (.cells [iV 0,.string eB,.string eB,.string eB,nS,nS] true 1)).put H2.next (.cells el true 1):=⟨_,rfl⟩
 have n3:y.next=H2.next+1:=by rw[u,j5,i5]
 have s3:i4 H2.next H2 y:=by rw[u];exact(i4.push lR).trans (i4.put lR)
 have l3:y.low≤H2.low:=by rw[u,A4,t5];omega
 have g3:y.get H2.next=cE el 1:=by rw[u];exact i8 (by rw[i5];omega)
 have b3:splice [iV 0,.string eB,.string eB,.string eB,nS,nS] 0 el=el:=w7 _ _ (by rw[U];rfl);have a2:∀j,j<lo→y.get j=H0.get j:=fun j hj=>by rw[s3.get j oM,hS.get j oM]
 have a3:aO y z O s w1 w2 w3 w4 us:=X.keep (fun j hj=>s3.get j (by rcases hj with rfl|hj;exact a9;exact(X.lt j hj).2)) (fun _ h=>h) (fun b hb=>by have:=X.lt b hb;omega);obtain⟨v4,h4,H4,a7,b0,rfl,O4,x1,x2,x3,x4,ys,a4,a5⟩:=ih y lo z O s w1 w2 w3 w4 us el x m b2 a3 (hr.mono a2 lR) I oM;refine J17 f0 fL fM fJ b gx nt E a1 U b3 u.symm g3 J a7 b0 @wrap_small ?_;have b5:=bU true x;exact i6 (kk-1) oM ⟨i+1,_,m+(fsQ true x).length,oM,oM,f0,f3,fL,fM,rfl,⟨O4,x1,x2,x3,x4,ys,a4,hT.trans s3 l3 oM a5⟩,bG _ I,oM,W⟩
theorem DW(k:Nat)(ih:dx 79 false k)(H0:d9)(lo z:Nat)(b2:lo≤z)(b4:z<H0.next)(O0:Nat→Prop)(s0:SpD)(va:Option Addr)(ca:Nat)(l:List Q)(hv:QsR H0 lo k false (.slice va l.length ca) l)(hn:l.length≤1048576)(p3:Value)(S:SpD):
  ∀kk e H2,(∃(i:Nat)(s:SpD)(m:Nat),kk=l.length-i∧i≤l.length∧e.get 0=pT z∧e.get 3=p3∧e.get 81= .slice va l.length ca∧e.get 82=iV l.length∧e.get 83=iV i∧dH z O0 s0 H0 H2 s∧Sm s m∧m+nL (l.drop i)≤100000∧(fsL false (l.drop i)).foldl I9 s=S)→
  u9 (LE prog t6 (.loop Ae) e H2) (fun o e H2=>o= .exit 3∧e.get 0=pT z∧e.get 3=p3∧dH z O0 s0 H0 H2 S):=by
 refine j7 _ _ ?_;rintro kk e H2 ⟨i,s,m,b6,hi,f0,f3,fL,fM,fJ,hQ,I,D,W⟩;rcases b:decide ((i:Int)<l.length)with _|_
 ·have a6:=dF b;have:l.drop i=[]:=dN oM;rw[this,fsL,List.foldl_nil]at W;refine J3 fM fJ b ?_;exact l7 ⟨rfl,f0,f3,by rw[←W];exact hQ⟩
 have a6:=dT b;obtain⟨O,w1,w2,w3,w4,us,X,hT⟩:=hQ;have hS:=hT.stay;have b8:=hS.next;have a9:=u6 X.g;obtain⟨x,nb,o,cs,own,el,hx,hd,rfl,b7,hg,b1,E,hr⟩:=hv.row (i:=i) oM;have b9:=List.mem_of_getElem? hx;have nt:(i:Int).toNat=i:=tN i;simp only[qSz,if_true,Bool.false_eq_true,if_false]at E hg b1;rw[eg _ _ _ _ hd,List.foldl_append]at W;have a8:m+(nQ x+nL (l.drop (i+1)))≤100000:=by rw[hd,nL]at D;exact D
 have a1:el.all Value.oneCell'=true:=F0 hr;have U:=hr.len;simp only[qSz,if_true,Bool.false_eq_true,if_false]at U;have J:=M8 hr;rw[U]at J;have gx:=(hS.get nb oM).trans hg;obtain⟨y,u⟩:∃y,y=(H2.push (.cells [iV 0,nS,nS] true 1)).put H2.next (.cells el true 1):=⟨_,rfl⟩
 have n3:y.next=H2.next+1:=by rw[u,j5,i5]
 have s3:i4 H2.next H2 y:=by rw[u];exact(i4.push lR).trans (i4.put lR)
 have l3:y.low≤H2.low:=by rw[u,A4,t5];omega
 have g3:y.get H2.next=cE el 1:=by rw[u];exact i8 (by rw[i5];omega)
 have b3:splice [iV 0,nS,nS] 0 el=el:=w7 _ _ (by rw[U];rfl);have a2:∀j,j<lo→y.get j=H0.get j:=fun j hj=>by rw[s3.get j oM,hS.get j oM]
 have a3:aO y z O s w1 w2 w3 w4 us:=X.keep (fun j hj=>s3.get j (by rcases hj with rfl|hj;exact a9;exact(X.lt j hj).2)) (fun _ h=>h) (fun b hb=>by have:=X.lt b hb;omega);obtain⟨v4,h4,H4,a7,b0,rfl,O4,x1,x2,x3,x4,ys,a4,a5⟩:=ih y lo z O s w1 w2 w3 w4 us el x m b2 a3 (hr.mono a2 lR) I oM;refine J17 f0 fL fM fJ b gx nt E a1 U b3 u.symm g3 J a7 b0 @wrap_small ?_;have b5:=bU false x;exact i6 (kk-1) oM ⟨i+1,_,m+(fsQ false x).length,oM,oM,f0,f3,fL,fM,rfl,⟨O4,x1,x2,x3,x4,ys,a4,hT.trans s3 l3 oM a5⟩,bG _ I,oM,W⟩
theorem Xt(k:Nat)(a6:dx 79 false k)(a7:dx 101 true k):dx 79 false (k+1):=by
 intro H lo gb O s w1 w2 w3 w4 us cs q m I E hr S a8;have b2:=dE q;have a5:=u6 E.g;obtain⟨va,U,wa,y,rfl,h1,h2,h3,h4⟩:=hr.path;obtain⟨u,D⟩:∃u,u=d9.push ⟨H.bs,H.next⟩ (.cells [iV q.op,.slice va q.a.length U,.slice wa q.b.length y] true 1):=⟨_,rfl⟩
 have W:i4 H.next H u:=by rw[D];exact i4.first H _
 have hg:u.get H.next=cE [iV q.op,.slice va q.a.length U,.slice wa q.b.length y] 1:=by rw[D];exact i7
 have J:H.next≤u.low:=by rw[D,t5];exact lR
 have hn:=W.next;have b1:=u6 hg;have hm:∀j,j<lo→u.get j=H.get j:=fun j X=>W.get j oM;have a3:aO u gb O s w1 w2 w3 w4 us:=E.keep (fun j X=>W.get j (by rcases X with rfl|X;exact a5;exact(E.lt j X).2)) (fun _ h=>h) (fun b hb=>by have:=E.lt b hb;omega);rw[j8 ae3 rfl _ (by simp),kE,if_neg (by decide),List.nil_append];refine J2 D.symm hg ?_;refine l9 (F:=fun z=>Ret (u5 _ _ _ (u7 (inBlock 0 z) _)) _ _) (MI k a6 u lo gb I oM O s va U q.a (h1.mono hm lR) h3 (pT H.next) ((fsL false q.a).foldl I9 s) q.a.length _ _ ⟨0,s,m,rfl,oM,rfl,rfl,rfl,rfl,rfl,⟨O,w1,w2,w3,w4,us,a3,jA.refl _ _ _ _⟩,S,by rw[List.drop_zero];omega,rfl⟩) ?_;rintro o e' H2 ⟨ho,g0,g3,hQ⟩;have a1:=hQ;obtain⟨_,_,_,_,_,_,_,T⟩:=a1;have b0:=T.stay.next;have a4:H2.get H.next=cE [iV q.op,.slice va q.a.length U,.slice wa q.b.length y] 1:=(T.but H.next oM oM (fun q=>by have:=E.lt _ q;omega)).trans hg;have a9:=gD false q.a;refine J3 ho g3 a4 ?_;refine l9 (F:=fun z=>Ret (u5 _ _ _ (inBlock 2 z)) _ _) (MJ k a7 u lo gb I oM O s wa y q.b (h2.mono hm lR) h4 (pT H.next) ((fsL false q.a++fsL true q.b).foldl I9 s) q.b.length _ _ ⟨0,_,m+(fsL false q.a).length,rfl,oM,g0,g3,rfl,rfl,rfl,hQ,bG _ S,by rw[List.drop_zero];omega,by rw[List.drop_zero,List.foldl_append]⟩) ?_;rintro o e' H3 ⟨ho,g0,g3,a2⟩;refine J1 ho ?_;exact jP W J E a2
theorem MH(k:Nat)(a9:dx 101 true k)(b0:dx 79 false k):dx 101 true (k+1):=by
 intro H lo gb O s w1 w2 w3 w4 us cs q m a1 I hr y b1;have b5:=dE q;have a6:=u6 I.g;obtain⟨va,ca,wa,S,u,h1,h2,h3,h4,_⟩:=hr.filter;obtain⟨D,E⟩:∃D,D=d9.push ⟨H.bs,H.next⟩ (.cells cs true 1):=⟨_,rfl⟩
 have hS:i4 H.next H D:=by rw[E];exact i4.first H _
 have hg:D.get H.next=cE cs 1:=by rw[E];exact i7
 have a2:H.next≤D.low:=by rw[E,t5];exact lR
 have hn:=hS.next;have b4:=u6 hg;have hm:∀j,j<lo→D.get j=H.get j:=fun j hj=>hS.get j oM;have a4:aO D gb O s w1 w2 w3 w4 us:=I.keep (fun j hj=>hS.get j (by rcases hj with rfl|hj;exact a6;exact(I.lt j hj).2)) (fun _ h=>h) (fun b hb=>by have:=I.lt b hb;omega);have al:cs.all Value.oneCell'=true:=by rw[u];rfl
 have r0:cs[0]?=some (.int .i64 q.op):=by rw[u];rfl
 have r4:cs[4]?=some (.slice va q.a.length ca):=by rw[u];rfl
 have r5:cs[5]?=some (.slice wa q.b.length S):=by rw[u];rfl
 have a8:Sm s 100000:=⟨by have:=y.1;omega,by have:=y.2.1;omega,fun l hl=>by have:=y.2.2.1 l hl;omega,by have:=y.2.2.2;omega⟩
 rw[j8 Wr rfl _ (by simp),kE,if_pos rfl,List.singleton_append,List.foldl_cons,Bool.not_true];refine J4 al E.symm hg r0 ?_;refine l9 (F:=fun z=>Ret (u5 _ _ _ (u7 z _)) _ _) (tE D gb H.next O s w1 w2 w3 w4 us q va wa ca S a4 a8 oM (fun h=>by have:=I.lt _ h;omega) cs u hg _ rfl rfl rfl) ?_;rintro o e1 Hs ⟨rfl,g0,W,X⟩;have J:=rS y q;have U:=X;obtain⟨_,_,_,_,_,_,_,T0⟩:=U;have b6:=T0.stay.next;have a7:Hs.get H.next=cE cs 1:=(T0.but H.next oM oM (fun q=>by have:=I.lt _ q;omega)).trans hg;refine J3 W a7 r4 ?_;refine l9 (F:=fun z=>Ret (u5 _ _ _ (u7 (inBlock 1 z) _)) _ _) (DV k a9 D lo gb a1 oM O s va ca q.a (h1.mono hm lR) h3 (pT H.next) ((fsL true q.a).foldl I9 (I9 s q)) q.a.length _ _ ⟨0,I9 s q,m+1,rfl,oM,g0,W,rfl,rfl,rfl,X,J,by rw[List.drop_zero];omega,rfl⟩) ?_;rintro o e' H2 ⟨ho,g0,W,hQ⟩;have U:=hQ;obtain⟨_,_,_,_,_,_,_,T⟩:=U;have b3:=T.stay.next;have a5:H2.get H.next=cE cs 1:=(T.but H.next oM oM (fun q=>by have:=I.lt _ q;omega)).trans hg;have b2:=gD true q.a;refine J4 ho W a5 r5 ?_;refine l9 (F:=fun z=>Ret (u5 _ _ _ (inBlock 3 z)) _ _) (DW k b0 D lo gb a1 oM O s wa S q.b (h2.mono hm lR) h4 (pT H.next) ((fsL true q.a++fsL false q.b).foldl I9 (I9 s q)) q.b.length _ _ ⟨0,_,m+1+(fsL true q.a).length,rfl,oM,g0,W,rfl,rfl,rfl,hQ,bG _ J,by rw[List.drop_zero];omega,by rw[List.drop_zero,List.foldl_append]⟩) ?_;rintro o e' H3 ⟨ho,g0,W,a3⟩;refine J1 ho ?_;exact jP hS a2 I a3
theorem DX:∀k,dx 79 false k∧dx 101 true k:=by
 intro k;induction k with
 |zero=>exact⟨fun H lo y O s w1 w2 w3 w4 us cs q m _ _ u=>u.elim,fun H lo y O s w1 w2 w3 w4 us cs q m _ _ u=>u.elim⟩
 |succ k h=>exact⟨Xt k h.1 h.2,MH k h.2 h.1⟩
structure SpO(H:d9)(lo:Nat)(O:Nat→Prop)(s:SpD)(w1 w2 w3 w4:Value)(us:LV):Prop where
 n:t7 H lo 2 (v8 nmE) w1 s.names
 a:t7 H lo 2 (v8 nmE) w2 s.attrs
 v:t7 H lo 1 (v8 fun u=>[u]) w3 us
 len:us.length=s.vals.length
 u:∀(i:Nat)(u:Value)(l:List ByteArray),us[i]?=some u→s.vals[i]?=some l→t7 H lo 1 (v8 stE) u l
 t:t7 H lo 1 (v8 stE) w4 s.texts
 ap:aJ (w1::w2::w3::w4::us)
 o:∀w∈w1::w2::w3::w4::us,∀b,j9 w b→O b
 lt:∀b,O b→lo≤b∧b<H.next
theorem SpO.keep{H H':d9}{lo z:Nat}{O I:Nat→Prop}{s:SpD}{w1 w2 w3 w4:Value}{us:LV}(h:SpO H lo O s w1 w2 w3 w4 us)(D:∀j,O j→H'.get j=H.get j) (W:∀b,O b→I b) (S:∀b,I b→z≤b∧b<H'.next) (E:z≤lo):SpO H' z I s w1 w2 w3 w4 us:=
 ⟨(h.n.same fun b y=>D b (h.o _ (by simp) b y)).weaken E,(h.a.same fun b y=>D b (h.o _ (by simp) b y)).weaken E,(h.v.same fun b y=>D b (h.o _ (by simp) b y)).weaken E,h.len,
  fun i u l U J=>((h.u i u l U J).same fun b y=>D b (h.o _ (by simp [List.mem_of_getElem? U]) b y)).weaken E,(h.t.same fun b y=>D b (h.o _ (by simp) b y)).weaken E,h.ap,fun w X b y=>W b (h.o w X b y),S⟩
theorem aO.spo{H:d9}{y:Nat}{O:Nat→Prop}{s:SpD}{w1 w2 w3 w4:Value}{us:LV}(h:aO H y O s w1 w2 w3 w4 us):SpO H (y+1) O s w1 w2 w3 w4 us:=⟨h.n,h.a,h.v,h.len,h.u,h.t,h.ap,h.o,fun b z=>h.lt b z⟩
theorem rO(k:Nat)(H0:d9)(lo z:Nat)(b2:lo≤z)(b4:z<H0.next)(O0:Nat→Prop)(s0:SpD)(va:Option Addr)(ca:Nat)(l:List Q)(hv:QsR H0 lo k false (.slice va l.length ca) l)(hn:l.length≤1048576)(p2:Value)(S:SpD):
  ∀kk e H2,(∃(i:Nat)(s:SpD)(m:Nat),kk=l.length-i∧i≤l.length∧e.get 3=pT z∧e.get 2=p2∧e.get 6= .slice va l.length ca∧e.get 7=iV l.length∧e.get 8=iV i∧dH z O0 s0 H0 H2 s∧Sm s m∧m+nL (l.drop i)≤100000∧(fsL false (l.drop i)).foldl I9 s=S)→
  u9 (LE prog t6 (.loop FK) e H2) (fun o e H2=>o= .exit 0∧e.get 3=pT z∧e.get 2=p2∧dH z O0 s0 H0 H2 S):=by
 refine j7 _ _ ?_;rintro kk e H2 ⟨i,s,m,b6,hi,f0,f3,fL,fM,fJ,hQ,I,D,W⟩;rcases b:decide ((i:Int)<l.length)with _|_
 ·have a6:=dF b;have:l.drop i=[]:=dN oM;rw[this,fsL,List.foldl_nil]at W;refine J3 fM fJ b ?_;exact l7 ⟨rfl,f0,f3,by rw[←W];exact hQ⟩
 have a6:=dT b;obtain⟨O,w1,w2,w3,w4,us,X,hT⟩:=hQ;have hS:=hT.stay;have b8:=hS.next;have a9:=u6 X.g;obtain⟨x,nb,o,cs,own,el,hx,hd,rfl,b7,hg,b1,E,hr⟩:=hv.row (i:=i) oM;have nt:(i:Int).toNat=i:=tN i;simp only[qSz,Bool.false_eq_true,if_false]at E hg b1;rw[eg _ _ _ _ hd,List.foldl_append]at W;have a8:m+(nQ x+nL (l.drop (i+1)))≤100000:=by rw[hd,nL]at D;exact D
 have a1:el.all Value.oneCell'=true:=F0 hr;have U:=hr.len;simp only[qSz,Bool.false_eq_true,if_false]at U;have J:=M8 hr;rw[U]at J;have gx:=(hS.get nb oM).trans hg;obtain⟨y,u⟩:∃y,y=(H2.push (.cells [iV 0,nS,nS] true 1)).put H2.next (.cells el true 1):=⟨_,rfl⟩
 have n3:y.next=H2.next+1:=by rw[u,j5,i5]
 have s3:i4 H2.next H2 y:=by rw[u];exact(i4.push lR).trans (i4.put lR)
 have l3:y.low≤H2.low:=by rw[u,A4,t5];omega
 have g3:y.get H2.next=cE el 1:=by rw[u];exact i8 (by rw[i5];omega)
 have b3:splice [iV 0,nS,nS] 0 el=el:=w7 _ _ (by rw[U];rfl);have a2:∀j,j<lo→y.get j=H0.get j:=fun j hj=>by rw[s3.get j oM,hS.get j oM]
 have a3:aO y z O s w1 w2 w3 w4 us:=X.keep (fun j hj=>s3.get j (by rcases hj with rfl|hj;exact a9;exact(X.lt j hj).2)) (fun _ h=>h) (fun b hb=>by have:=X.lt b hb;omega);obtain⟨v4,h4,H4,a7,b0,rfl,O4,x1,x2,x3,x4,ys,a4,a5⟩:=(DX k).1 y lo z O s w1 w2 w3 w4 us el x m b2 a3 (hr.mono a2 lR) I oM;refine J17 f0 fL fM fJ b gx nt E a1 U b3 u.symm g3 J a7 b0 @wrap_small ?_;have b5:=bU false x;exact i6 (kk-1) oM ⟨i+1,_,m+(fsQ false x).length,oM,oM,f0,f3,fL,fM,rfl,⟨O4,x1,x2,x3,x4,ys,a4,hT.trans s3 l3 oM a5⟩,bG _ I,oM,W⟩
theorem NN(H:d9)(lo k:Nat)(v:Value)(l:List Q)(b8:lo≤H.next)(hv:QsR H lo k false v l)(b6:nL l≤100000)(hn:l.length≤1048576):
  Ret (CL prog t6 52 [v] H) H fun w E=>∃w1 w2 w3 w4 us O,w= .agg #[w1,w2,w3,w4]∧SpO E H.next O ((fsL false l).foldl I9 ⟨[],[],[],[]⟩) w1 w2 w3 w4 us∧i4 H.next H E:=by
 obtain⟨va,ca,rfl⟩:=SlI.slice hv;obtain⟨U,X⟩:∃z:LV,z=[nS,nS,nS,nS]:=⟨_,rfl⟩
 obtain⟨E,J⟩:∃E,E=(d9.push ⟨H.bs,H.next⟩ (.cells U true 1)).push (.cells U true 1):=⟨_,rfl⟩
 have n0:(d9.push ⟨H.bs,H.next⟩ (.cells U true 1)).next=H.next+1:=by rw[i5];rfl
 have n1:E.next=H.next+2:=by rw[J,i5,n0]
 have hS:i4 H.next H E:=by rw[J];exact(i4.first H _).trans (i4.push oM)
 have g1:E.get H.next=cE U 1:=by rw[J,j6 oM];exact i7
 have g2:E.get (H.next+1)=cE U 1:=by rw[J];exact y7 oM
 have a6:H.next≤E.low:=by rw[J,t5,t5];exact lR
 have hm:∀j,j<lo→E.get j=H.get j:=fun j hj=>hS.get j oM;have a5:aJ ([nS,nS,nS,nS]:LV):=fun i j a b ha S b7 x hx hy=>by
  have:a=nS:=by
   have:=List.mem_of_getElem? ha
   simpa using this
  rw[this]at hx;exact A9 x hx
 have a8:∀w∈([nS,nS,nS,nS]:LV),∀b,j9 w b→False:=fun w hw b S=>by
  have:w=nS:=by simpa using hw
  rw[this]at S;exact A9 b S
 have b2:aO E (H.next+1) (fun _=>False) ⟨[],[],[],[]⟩ (nS) (nS) (nS) (nS) []:=⟨by rw[g2,X],t7.nil,t7.nil,t7.nil,rfl,rfl,fun i u l hu=>(by cases hu),t7.nil,a5,a8,fun b S=>S.elim⟩
 rw[j8 ac1 rfl _ (by simp)];refine J2 X.symm J.symm ?_;refine l9 (F:=fun z=>Ret (u5 _ _ _ (u7 (inBlock 0 z) _)) _ _) (rO k E lo (H.next+1) oM oM (fun _=>False) ⟨[],[],[],[]⟩ va ca l (SlI.mono hv hm lR fun _ _ h=>h.mono hm lR) hn (pT H.next) _ l.length _ _ ⟨0,⟨[],[],[],[]⟩,0,rfl,oM,rfl,rfl,rfl,rfl,rfl,⟨_,_,_,_,_,_,b2,jA.refl _ _ _ _⟩,⟨lR,lR,fun l hl=>(by cases hl),lR⟩,by rw[List.drop_zero];omega,rfl⟩) ?_;rintro o e' H2 ⟨ho,q3,q2,O,w1,w2,w3,w4,us,I,hT⟩;rw[List.drop_zero]at I hT;have n2:=hT.stay.next;have gg:=I.g;have b1:H2.get H.next=cE U 1:=(hT.stay.get _ oM).trans g1;obtain⟨a1,c1,e1⟩:=I.n.slice;obtain⟨a2,c2,e2⟩:=I.a.slice;obtain⟨a3,c3,e3⟩:=I.v.slice;obtain⟨a4,c4,e4⟩:=I.t.slice;obtain⟨D,y⟩:∃r,r=[w1,w2,w3,w4]:=⟨_,rfl⟩
 rw[←y]at gg;have b4:ldC (some true) (some 4) 0 D=some (.agg D.toArray):=by rw[y];rfl
 have b0:D.all Value.oneCell'=true:=by rw[y,e1,e2,e3,e4];rfl
 have l4:D.length=4:=by rw[y];rfl
 have lz:U.length=4:=by rw[X];rfl
 have b5:splice U 0 D=D:=w7 _ _ (by rw[l4,lz]);obtain⟨H3,W⟩:∃H3,H3=H2.put H.next (.cells D true 1):=⟨_,rfl⟩
 have n3:H3.next=H2.next:=by rw[W,j5]
 have g3:H3.get H.next=cE D 1:=by rw[W];exact i8 oM
 have a9:i4 H.next E H3:=by rw[W];exact(hT.stay.weaken oM).trans (i4.put lR)
 have b3:=a9.low a6;refine J12 ho q3 q2 gg b4 b1 l4 lz b0 b5 W.symm g3 ?_;have a7:SpO H3 H.next O _ w1 w2 w3 w4 us:=I.spo.keep (fun j hj=>by rw[W,i9 (by have:=I.lt j hj;omega)]) (fun _ h=>h) (fun b S=>by have:=I.lt b S;omega) oM;refine ce (fun hc=>?_) ?_
 ·rw[y]at hc;simp only[List.all_cons,List.all_nil,Bool.and_true,Bool.and_eq_true]at hc;obtain⟨z1,y1⟩:=au I.n hc.1;obtain⟨z2,y2⟩:=au I.a hc.2.1;obtain⟨z3,y3⟩:=au I.v hc.2.2.1;obtain⟨U,y4⟩:=au I.t hc.2.2.2;have y5:=I.len;rw[y3]at y5;have y6:=List.length_eq_zero_iff.1 y5.symm;refine⟨w1,w2,w3,w4,[],fun _=>False,by rw[y],⟨?_,?_,?_,(by rw[y6];rfl),fun i u l hu=>(by cases hu),?_,(by rw[z1,z2,z3,U];exact a5),fun w hw b S=>?_,fun b S=>S.elim⟩,i4.refl _ _⟩
  ·rw[y1,z1];exact t7.nil
  ·rw[y2,z2];exact t7.nil
  ·rw[z3];exact t7.nil
  ·rw[y4,U];exact t7.nil
  ·rw[z1,z2,z3,U]at hw;have:w=nS:=by simpa using hw
   rw[this]at S;exact A9 b S
 ·exact⟨w1,w2,w3,w4,us,O,by rw[y],a7.keep (fun _ _=>rfl) (fun _ h=>h) a7.lt lR,(hS.trans a9).ret b3⟩
def R4:List (NmQ×List ByteArray)→EvD→List EvD
 |[],e=>[e]
 |x::r,e=>R4 r e++(Q8 x.2).flatMap fun v=>R4 r (atV x.1 e v)
theorem AN(l:List ByteArray):Q8 l=l++[frS l eB [eB]]:=by
 have u:∀n,eB++dg n=dg n:=fun n=>by
  have y:=aX eB (dg n);exact oF (by rw[y];rfl)
 have z:frN l eB=T7 l:=by unfold frN T7;simp only[u]
 rw[Q8,frS,List.find?_cons];cases h:V0 l eB with
 |true=>simp [z,u]
 |false=>simp
structure su(H:d9)(G:Nat→Prop)(pw pf:Nat)(fv:Value)(s:SpD)(w1 w2 w3 w4:Value):Prop where
 gw:H.get pw=cE [w1,w2,w3,w4] 1
 gf:H.get pf=cE [fv] 1
 iw:G pw
 jf:G pf
 a:SlF H G 2 (v8 nmE) w2 s.attrs
 v:SlF H G 1 (VlF H G) w3 s.vals
 len:s.vals.length=s.attrs.length
 al:s.attrs.length≤1000
 vl:∀x∈s.vals,x.length≤90
theorem su.mono{H H':d9}{G G':Nat→Prop}{D z:Nat}{E:Value}{s:SpD}{w1 w2 w3 w4:Value}(h:su H G D z E s w1 w2 w3 w4)(y:∀j,G j→H'.get j=H.get j) (u:∀j,G j→G' j):su H' G' D z E s w1 w2 w3 w4:=
 ⟨(y D h.iw).trans h.gw,(y z h.jf).trans h.gf,u _ h.iw,u _ h.jf,h.a.mono y u iF,h.v.mono y u (fun _ _ h=>h.mono y u),h.len,h.al,h.vl⟩
structure dI(H:d9)(po:Nat)(G:Nat→Prop)(w:Value)(l:List EvD):Prop where
 g:H.get po=cE [w] 1
 own:t7 H (po+1) 5 (EvF H G) w l
 ap:∀j,G j→j<H.next∧j≠po∧¬j9 w j
structure cd(po:Nat)(G0:Nat→Prop)(w0:Value)(H0:d9)(G:Nat→Prop)(w:Value)(H:d9):Prop where
 sub:∀j,G0 j→G j
 new:∀j,G j→G0 j∨H0.next≤j
 but:∀j,j<H0.next→j≠po→¬j9 w0 j→H.get j=H0.get j
 neww:∀b,j9 w b→j9 w0 b∨H0.next≤b
 stay:i4 po H0 H
theorem cd.refl(po:Nat)(G:Nat→Prop)(w:Value)(H:d9):cd po G w H G w H:=⟨fun _ h=>h,fun _ h=> .inl h,fun _ _ _ _=>rfl,fun _ h=> .inl h,i4.refl _ _⟩
theorem cd.trans{po:Nat}{y G1 G2:Nat→Prop}{w0 w1 w2:Value}{H0 z H2:d9}(h:cd po y w0 H0 G1 w1 z)(k:cd po G1 w1 z G2 w2 H2):cd po y w0 H0 G2 w2 H2:=by
 have J:=h.stay.next;refine⟨fun j u=>k.sub j (h.sub j u),fun j u=>?_,fun j u D E=>?_,fun b I=>?_,h.stay.trans k.stay⟩
 ·rcases k.new j u with q|q
  ·exact h.new j q
  ·exact .inr oM
 ·rw[k.but j oM D (fun q=>by rcases h.neww j q with r|r;exact E r;omega),h.but j u D E]
 ·rcases k.neww b I with q|q
  ·exact h.neww b q
  ·exact .inr oM
theorem dI.push{H z:d9}{po:Nat}{G G1:Nat→Prop}{w:Value}{l:List EvD}(h:dI H po G w l)(y:i4 H.next H z)(E:∀j,G j→G1 j) (I:∀j,G1 j→G j∨(H.next≤j∧j<z.next)):dI z po G1 w l∧cd po G w H G1 w z:=by
 have O:=y.next;have D:=u6 h.g;refine⟨⟨(y.get po D).trans h.g,(h.own.keep y).imp fun cs a q=>w9 _ _ _ _ _ _ q (fun j u=>y.get j (h.ap j u).1) E,fun j u=>?_⟩,E,fun j u=>(I j u).imp id fun q=>q.1,fun j u _ _=>y.get j u,fun b J=> .inl J,y.weaken oM⟩;rcases I j u with q|q
 ·have:=h.ap j q;exact⟨oM,this.2⟩
 ·exact⟨q.2,oM,fun r=>by have:=h.own.lt r;omega⟩
theorem dI.add{H:d9}{po:Nat}{G:Nat→Prop}{w:Value}{l:List EvD}(h:dI H po G w l){u:LV}{e:EvD}(U:EvF H G u e)(hl:l.length≤1000000):
  ∃v' E H',C3 prog (H.push (.cells u true 5)) [35,35] w (.slice (some ⟨H.next,0,none⟩) 1 1)=dr v' E∧E.getD (H.push (.cells u true 5))=H'∧H'.get po=cE [w] 1∧(∃a c,v'= .slice a (l++[e]).length c)∧
   dI (H'.put po (.cells [v'] true 1)) po G v' (l++[e])∧cd po G w H G v' (H'.put po (.cells [v'] true 1)):=by
 have J:=u6 h.g;have D:u.length=5:=by obtain⟨v,rfl,_⟩:=U;rfl
 obtain⟨v',E,H',r1,r2,I,y⟩:=h.own.push1F (P:=prog) (t:=35) (cs:=u) (a:=e) (by exact uT.2.2.2.2.2.2) aG.1 aG.2.1 aG.2.2.1 oM oM D U oM oM;have hn:=y.next;have nb:¬j9 w po:=fun q=>by have:=h.own.lt q;omega
 have W:=(y.but po J nb).trans h.g;have nv:¬j9 v' po:=fun q=>by have:=I.lt q;omega
 have O:∀j,j<H.next→j≠po→¬j9 w j→(H'.put po (.cells [v'] true 1)).get j=H.get j:=fun j z X h2=>by rw[i9 (fun q=>X q.symm),y.but j z h2]
 refine⟨v',E,H',r1,r2,W,I.slice,⟨i8 oM,(I.same fun b S=>i9 (fun q=>by rw[←q]at S;exact nv S)).imp fun cs a q=>w9 _ _ _ _ _ _ q (fun j z=>by have:=h.ap j z;exact O j this.1 this.2.1 this.2.2) (fun _ h=>h),fun j z=>?_⟩,fun _ h=>h,fun _ h=> .inl h,O,y.new,(y.stay.weaken oM).trans (i4.put lR)⟩;have:=h.ap j z;refine⟨by rw[j5];omega,this.2.1,fun q=>?_⟩;rcases y.new j q with r|r
 ·exact this.2.2 r
 ·omega
abbrev xu(pw po pf:Nat):Value:= .func (.func 54) #[] #[pT pw,pT po,pT pf]
def jZ(rest:List (NmQ×List ByteArray)):Prop:=∀(H:d9)(pw po pf i:Nat)(G:Nat→Prop)(s:SpD)(w1 w2 w3 w4 w:Value)(l:List EvD)(row:LV)(e:EvD),
 su H G pw pf (xu pw po pf) s w1 w2 w3 w4→dI H po G w l→EvF H G row e→(s.attrs.zip s.vals).drop i=rest→i+rest.length=s.attrs.length→l.length+(R4 rest e).length≤1000000→e.attrs.length+rest.length≤1000→
 Ret (CL prog t6 54 [.agg row.toArray,iV i,pT pw,pT po,pT pf] H) H fun v H1=>v=undef∧∃G' w',dI H1 po G' w' (l++R4 rest e)∧cd po G w H G' w' H1∧H1.low≤po
theorem qa{H y H':d9}{po:Nat}{G G1:Nat→Prop}{w z:Value}{l:List EvD}(W:po<H.next)(hw:∀b,j9 w b→po+1≤b∧b<H.next) (O:i4 H.next H y) (E:cd po G w H G1 w y) {G':Nat→Prop} (D:dI H' po G' z l) (S:cd po G1 w y G' z H') (J:H'.low≤po) (I:H.next≤y.low):
  Ret (some (D4 undef H H')) H fun v y=>v=undef∧∃G' z,dI y po G' z l∧cd po G w H G' z y∧y.low≤po:=by
 refine D7 (fun _ X=>oM) ⟨rfl,G',z,⟨D.g,D.own.low _ |>.imp fun cs a q=>w9 _ _ _ _ _ _ q (fun _ _=>rfl) (fun _ h=>h),D.ap⟩,?_,by show min H.low H'.low≤po;omega⟩;have u:=E.trans S;refine⟨u.sub,u.new,u.but,u.neww,⟨u.stay.next,fun k U q=>?_,u.stay.get⟩⟩;have:=u.stay.lowAll k U q;show k≤min H.low H'.low;omega
theorem Od:jZ []:=by
 intro H pw po pf i G s w1 w2 w3 w4 w l u e hC J he hd hi hl b4;have b0:=u6 J.g;have a8:=he;obtain⟨av,y,a6⟩:=a8;obtain⟨b2,b3,rfl⟩:=a6.slice;obtain⟨aa,ac,rfl⟩:=hC.a.slice;have ar:u.all Value.oneCell'=true:=by rw[y];rfl
 have lr:u.length=5:=by rw[y];rfl
 have b1:ldC (some true) (some 5) 0 u=some (.agg u.toArray):=by rw[y];rfl
 obtain⟨D,z⟩:∃D,D=d9.push ⟨H.bs,H.next⟩ (.cells u true 1):=⟨_,rfl⟩
 have X:i4 H.next H D:=by rw[z];exact i4.first H _
 have n1:D.next=H.next+1:=by rw[z,i5];rfl
 have W:H.next≤D.low:=by rw[z];exact lR
 have g1:D.get H.next=cE u 1:=by rw[z];exact i7
 obtain⟨O,a5⟩:=J.push (G1:=G) X (fun _ h=>h) (fun _ h=> .inl h);have a4:=hC.mono (H':=D) (fun j hj=>X.get j (J.ap j hj).1) (fun _ h=>h);have a7:=w9 _ _ _ _ _ _ he (fun j hj=>X.get j (J.ap j hj).1) (fun _ h=>h);obtain⟨v',h',H3,r1,r2,g3,⟨a',c',e'⟩,S,U⟩:=O.add a7 (by rw[R4]at hl;simp at hl;omega);obtain⟨H2,I⟩:∃K,K=D.push (.cells u true 5):=⟨_,rfl⟩
 rw[←I]at r1 r2;have a1:bsA prog (some 51) D 1 [(0,.agg u.toArray)]=some (.slice (some ⟨D.next,0,none⟩) 1 1,H2):=by
  rw[I];simp only[C7,aG,C8];rw[y];rfl
 obtain⟨H4,E⟩:∃K,K=H3.put po (.cells [v'] true 1):=⟨_,rfl⟩
 rw[←E]at S U;have cu:v'.cells.toList=[v']:=by rw[e'];rfl
 have ou:Value.oneCell' v'=true:=by rw[e'];rfl
 have a9:H4.low≤po:=by rw[E,A4];omega
 have bi:decide ((i:Int)=s.attrs.length)=true:=decide_eq_true (by simp at hi;omega);have a3:=a4.gw;have a2:=O.g;have q1:∀a b c d:Value,[a,b,c,d][1]?=some b:=fun _ _ _ _=>rfl;rw[j8 Xm rfl _ (by simp)];refine J15 ar z.symm a3 q1 bi g1 b1 a2 a1 r1 r2 g3 cu ou E.symm ?_;exact qa b0 (fun b hb=>J.own.lt hb) X a5 S U a9 W
theorem Bg(n:NmQ)(m0:List ByteArray)(rest:List (NmQ×List ByteArray))(ih:jZ rest)(H0:d9)(pw po pf pe i:Nat)(E:Nat→Prop)(s:SpD)(w1 w2 w3 w4 w0:Value)(u:LV)(e0:EvD)(va:Option Addr)(ca:Nat)(I:List ByteArray)
  (D:su H0 E pw pf (xu pw po pf) s w1 w2 w3 w4) (c5:∀j,E j→j<H0.next∧j≠po∧¬j9 w0 j) (l5:po<H0.next) (he:EvF H0 E u e0) (d3:E pe) (h0:H0.get pe=cE u 1) (hv:SlF H0 E 1 (v8 stE) (.slice va I.length ca) I) (l8:I.length≤1000) (l6:1≤I.length)
  (hd:(s.attrs.zip s.vals).drop (i+1)=rest) (hi:i+1+rest.length=s.attrs.length) (hn:s.attrs[i]?=some n) (k5:e0.attrs.length+1+rest.length≤1000) (a4:List EvD):
  ∀kk e H2,(∃(j:Nat)(G:Nat→Prop)(w:Value)(l:List EvD),kk=I.length-j∧j≤I.length∧e.get 1=iV i∧e.get 2=pT pw∧e.get 4=pT pf∧e.get 5=pT pe∧e.get 40= .slice va I.length ca∧e.get 41=iV I.length∧e.get 42=iV j∧
    dI H2 po G w l∧cd po E w0 H0 G w H2∧(j=0∨H2.low≤po)∧l++((I.drop j).flatMap fun v=>R4 rest (atV n e0 v))=a4∧a4.length≤1000000)→
  u9 (LE prog t6 (.loop FM) e H2) (fun o e H2=>o= .exit 0∧∃(G:Nat→Prop)(w:Value),dI H2 po G w a4∧cd po E w0 H0 G w H2∧H2.low≤po):=by
 refine j7 _ _ ?_;rintro kk e H2 ⟨j,G,w,l,l1,z,f1,f2,f4,f5,f40,f41,f42,hO,hT,l4,fu,d4⟩;rcases b:decide ((j:Int)<I.length)with _|_
 ·have g5:=dF b;have:I.drop j=[]:=dN oM;rw[this,List.flatMap_nil,List.append_nil]at fu;refine J3 f41 f42 b ?_;exact l7 ⟨rfl,G,w,by rw[←fu];exact hO,hT,oM⟩
 have g5:=dT b;have fr:∀j,E j→H2.get j=H0.get j:=fun j z=>by have:=c5 j z;exact hT.but j this.1 this.2.1 this.2.2
 have nx:=hT.stay.next;obtain⟨v,nb,o,cs,own,k1,hx,g6,rfl,hF,hg,l3,j2,hc,rfl⟩:=hv.row (i:=j) oM;have c0:=hc 0 oM;rw[Nat.add_zero]at c0;have h7:(j:Int).toNat=j:=tN j;rw[g6,List.flatMap_cons,←List.append_assoc]at fu;have gv:=(fr nb hF).trans hg;have k3:=D.mono fr hT.sub;obtain⟨av,U,c7⟩:=w9 _ _ _ _ _ _ he fr hT.sub;obtain⟨b2,b3,rfl⟩:=c7.slice;have j1:po<H2.next:=oM;have ar:u.all Value.oneCell'=true:=by rw[U];rfl
 have lr:u.length=5:=by rw[U];rfl
 have h4:ldC (some true) (some 5) 0 u=some (.agg u.toArray):=by rw[U];rfl
 have r3:u[3]?=some (.slice b2 e0.attrs.length b3):=by rw[U];rfl
 have b7:=(fr pe d3).trans h0;obtain⟨Ha,a8,-,g9⟩:=pushE H2 (.cells [iV 0,.string eB,.string eB,nS,.string eB] true 1);obtain⟨X,a2⟩:∃K,K=Ha.put H2.next (.cells u true 1):=⟨_,rfl⟩
 have na:Ha.next=H2.next+1:=by rw[a8,i5]
 have n3:X.next=H2.next+1:=by rw[a2,j5,na]
 have s3:i4 H2.next H2 X:=by rw[a2,a8];exact(i4.push lR).trans (i4.put lR)
 have g3:X.get H2.next=cE u 1:=by rw[a2];exact i8 oM
 have h9:splice [iV 0,.string eB,.string eB,nS,.string eB] 0 u=u:=w7 _ _ (by rw[lr];rfl);have b0:∀j,E j→j<H2.next:=fun j z=>by have:=c5 j z;omega
 have a1:∀j,E j→X.get j=H2.get j:=fun j z=>s3.get j (b0 j z);have e3:=(a1 pe d3).trans b7;have b9:=(a1 pw D.iw).trans ((fr pw D.iw).trans D.gw);have k2:=(a1 pf D.jf).trans ((fr pf D.jf).trans D.gf);obtain⟨cv,k7,H4,c8,d0,f0,s4⟩:=vn (α:=AtD) (v8 atE) X X.next (.slice b2 e0.attrs.length b3) e0.attrs lR ((c7.mono (H':=X) (F':=(· <X.next)) (fun j z=>by have:=hO.ap j z;exact s3.get j this.1) (fun j z=>by have:=hO.ap j z;omega) iF).sl fun _ h=>h) oM;have n4:=s4.next;have b5:∀j,E j→H4.get j=X.get j:=fun j z=>s4.get j (by have:=b0 j z;omega);obtain⟨aa,ac,e2⟩:=D.a.slice;obtain⟨nn,b1,oa,j4,j3,k0,h3,k8,e1,a7,d1,i3,a9,k6,rfl⟩:=(e2▸D.a).row (i:=i) (by have:=(List.getElem?_eq_some_iff.1 hn).1;exact this);obtain rfl:n=nn:=Option.some.inj (hn.symm.trans h3);have b8:=(a1 b1 a7).trans ((fr b1 a7).trans d1);have e5:=(b5 b1 a7).trans b8;have e7:=(b5 pw D.iw).trans b9;have h5:(i:Int).toNat=i:=tN i;have k9:(i:Int)<s.attrs.length:=by have:=(List.getElem?_eq_some_iff.1 hn).1;omega
 obtain⟨H5,c3⟩:∃K,K=H4.push (.cells [.string n.1,.string n.2,.string v] true 3):=⟨_,rfl⟩
 obtain⟨W,h6,H6,c4,a5,a3,s6⟩:=f0.push1 (P:=prog) (t:=49) (by exact yM.2.2.2.2.2.2) ik.1 ik.2.1 ik.2.2.1 oM oM (cs:=[.string n.1,.string n.2,.string v]) (a:=(⟨n.1,n.2,v⟩:AtD)) rfl rfl oM oM;rw[←c3]at c4 a5;have n6:=s6.next;obtain⟨a6,c6,e6⟩:=a3.slice;have cu:W.cells.toList=[W]:=by rw[e6];rfl
 have ou:Value.oneCell' W=true:=by rw[e6];rfl
 have e8:H6.get H2.next=cE u 1:=by rw[s6.get _ oM,s4.get _ oM];exact g3
 obtain⟨y,S⟩:∃r,r=u.set 3 W:=⟨_,rfl⟩
 have J:y=[iV e0.kind,.string e0.space,.string e0.loc,W,.string e0.text]:=by rw[S,U];rfl
 have i1:splice u 3 [W]=y:=by rw[S];rfl
 obtain⟨H7,O⟩:∃K,K=H6.put H2.next (.cells y true 1):=⟨_,rfl⟩
 have n7:H7.next=H6.next:=by rw[O,j5]
 have g7:H7.get H2.next=cE y 1:=by rw[O];exact i8 oM
 have d5:ldC (some true) (some 5) 0 y=some (.agg y.toArray):=by rw[J];rfl
 have d6:i4 H2.next H2 H7:=by rw[O];exact((s3.trans (s4.weaken oM)).trans (s6.weaken oM)).trans (i4.put lR)
 obtain⟨g0,g2⟩:=hO.push (G1:=fun j=>G j∨j9 W j) d6 (fun _ h=> .inl h) (fun j z=>z.imp id fun q=>by have:=a3.lt q;omega);have g8:EvF H7 (fun j=>G j∨j9 W j) y (atV n e0 v):=⟨W,J,(a3.same (H':=H7) fun b hb=>by rw[O];exact i9 (fun q=>by have:=a3.lt hb;omega)).frz fun b hb=> .inr hb⟩
 have b6:∀j,E j→H7.get j=H2.get j:=fun j z=>d6.get j (b0 j z);have e9:=D.mono (H':=H7) (G':=fun j=>G j∨j9 W j) (fun j z=>(b6 j z).trans (fr j z)) (fun j z=> .inl (hT.sub j z));have e4:=(b6 pf D.jf).trans ((fr pf D.jf).trans D.gf);have i2:(atV n e0 v).attrs.length=e0.attrs.length+1:=by simp [atV]
 have j0:l.length+(R4 rest (atV n e0 v)).length+((I.drop (j+1)).flatMap fun v=>R4 rest (atV n e0 v)).length=a4.length:=by rw[←fu,List.length_append,List.length_append]
 obtain⟨vv,h8,H8,c9,d2,rfl,G8,w8,g1,g4,h2⟩:=ih H7 pw po pf (i+1) _ s w1 w2 w3 w4 w l y (atV n e0 v) e9 g0 g8 hd hi oM oM;have h1:((i:Int)+1)=((i+1:Nat):Int):=oM;have q1:∀a b c d:Value,[a,b,c,d][1]?=some b:=fun _ _ _ _=>rfl;have i0:(0:Int)≤i:=oM;have b4:bsA prog (some 53) H4 1 [(0,.agg #[.string n.1,.string n.2,.string v])]=some (.slice (some ⟨H4.next,0,none⟩) 1 1,H5):=by
  rw[c3];simp only[C7,ik,C8];rfl
 have k4:=D.al;subst e1;refine J30 f1 f2 f4 f5 f40 f41 f42 b gv h7 c0 b7 h4 a8.symm (And.intro g9 lr) (And.intro ar h9) (And.intro a2.symm r3) (And.intro e3 b9) (And.intro c8 d0) (And.intro e7 q1) (And.intro e2 h5) (And.intro b8 e5) (And.intro a9 b4) (And.intro c4 a5) (And.intro e8 cu) (And.intro ou i1) (And.intro O.symm g7) (And.intro d5 e4) (And.intro h1 c9) (And.intro d2 @wrap_small) ?_;exact i6 (kk-1) oM ⟨j+1,G8,w8,_,oM,oM,f1,f2,f4,f5,f40,f41,rfl,g1,(hT.trans g2).trans g4,.inr h2,fu,d4⟩
theorem NX{α β:Type}:∀(a:List α)(b:List β)(i:Nat)(x:α×β)(r:List (α×β)),(a.zip b).drop i=x::r→a[i]?=some x.1∧b[i]?=some x.2∧(a.zip b).drop (i+1)=r:=by
 intro a b i x r h;have u:i<(a.zip b).length:=by
  apply Classical.byContradiction;intro q;rw[dN oM]at h;cases h
 rw[List.drop_eq_getElem_cons u]at h
 injection h with h1 h2
 rw[List.length_zip]at u;rw[List.getElem_zip]at h1;refine⟨?_,?_,h2⟩
 ·rw[List.getElem?_eq_getElem oM,←h1]
 ·rw[List.getElem?_eq_getElem oM,←h1]
theorem Oe(x:NmQ×List ByteArray)(r:List (NmQ×List ByteArray))(ih:jZ r):jZ (x::r):=by
 intro H pw po pf i G s w1 w2 w3 w4 w l D e hC hO he hd hi hl e5;obtain⟨hn,c5,b4⟩:=NX _ _ _ _ _ hd;rw[List.length_cons]at hi e5;have h8:=hC.al;have j0:=hC.len;have j2:=hC.vl _ (List.mem_of_getElem? c5);have g8:=u6 hO.g;have g0:=he;obtain⟨av,U,e6⟩:=g0;obtain⟨h4,h5,rfl⟩:=e6.slice;obtain⟨aa,ac,ea⟩:=hC.a.slice;have ar:D.all Value.oneCell'=true:=by rw[U];rfl
 have lr:D.length=5:=by rw[U];rfl
 have g9:ldC (some true) (some 5) 0 D=some (.agg D.toArray):=by rw[U];rfl
 obtain⟨W,S⟩:∃W,W=d9.push ⟨H.bs,H.next⟩ (.cells D true 1):=⟨_,rfl⟩
 have hS:i4 H.next H W:=by rw[S];exact i4.first H _
 have n1:W.next=H.next+1:=by rw[S,i5];rfl
 have c4:H.next≤W.low:=by rw[S];exact lR
 have g1:W.get H.next=cE D 1:=by rw[S];exact i7
 obtain⟨b2,d6⟩:=hO.push (G1:=fun j=>G j∨j=H.next) hS (fun _ h=> .inl h) (fun j h=>h.imp id fun q=>oM);have a9:∀j,G j→W.get j=H.get j:=fun j I=>hS.get j (hO.ap j I).1;have X:=hC.mono (H':=W) (G':=fun j=>G j∨j=H.next) a9 (fun _ h=> .inl h);have b5:=w9 _ _ _ _ _ _ he a9 (fun j I=>(.inl I:G j∨j=H.next));have h1:(R4 (x::r) e).length=(R4 r e).length+((Q8 x.2).flatMap fun v=>R4 r (atV x.1 e v)).length:=by rw[R4,List.length_append]
 obtain⟨_,h2,H2,e9,g4,rfl,G2,u2,O,E,i2⟩:=ih W pw po pf (i+1) _ s w1 w2 w3 w4 w l D e X b2 b5 b4 oM oM oM;have n2:=E.stay.next;have a5:∀j,(G j∨j=H.next)→H2.get j=W.get j:=fun j I=>by have:=b2.ap j I;exact E.but j this.1 this.2.1 this.2.2
 have J:=X.mono (H':=H2) (G':=G2) a5 E.sub;have f1:=w9 _ _ _ _ _ _ b5 a5 E.sub;have g2:=(a5 H.next (.inr rfl)).trans g1;obtain⟨a3,c3,e3⟩:=J.v.slice;obtain⟨y,nb,o,cs,own,h6,hx,i1,c8,hF,hg,i3,j1,f0,u,rfl,hu⟩:=(e3▸J.v).row (i:=i) oM;obtain rfl:x.2=y:=Option.some.inj (c5.symm.trans hx);have c0:=f0 0 oM;rw[Nat.add_zero]at c0;have uF:SlI H2 H2.next 1 (v8 stE) u x.2:=hu.sl fun j I=>(O.ap j I).1;obtain⟨cv,h9,H3,b3,b8,d3,s3⟩:=CX (α:=ByteArray) (v8 stE) H2 H2.next u x.2 lR uF oM;have n3:=s3.next;obtain⟨H4,a1⟩:∃K,K=H3.push (.cells [.string eB] true 1):=⟨_,rfl⟩
 have s4:i4 H3.next H3 H4:=by rw[a1];exact i4.push lR
 have n4:H4.next=H3.next+1:=by rw[a1,i5]
 have d4:t7 H4 H3.next 1 (v8 stE) (.slice (some ⟨H3.next,0,none⟩) 1 1) [eB]:=by rw[a1];exact t7.fresh rfl lR (D2.one rfl rfl)
 obtain⟨fs,b6⟩:∃fs,fs=frS x.2 eB [eB]:=⟨_,rfl⟩
 have hf:=fresh H4 H2.next u (.slice (some ⟨H3.next,0,none⟩) 1 1) x.2 eB [eB] oM (uF.mono (fun j I=>by rw[s4.get j oM,s3.get j I]) lR iF) d4.sl oM (by decide) (by decide);rw[←b6]at hf;obtain⟨v7,h7,H6,e4,b9,a2,s6⟩:=(d3.keep s4).push1 (P:=prog) (t:=97) (by exact aH.2.2.2.2.2.2) ty9.1 ty9.2.1 ty9.2.2.1 oM oM (cs:=[.string fs]) (a:=fs) rfl rfl oM oM;have n6:=s6.next;rw[show x.2++[fs]=Q8 x.2 by rw[AN,b6]]at a2;have c6:i4 H2.next H2 H6:=(s3.trans (s4.weaken n3)).trans (s6.weaken oM);obtain⟨a4,e1⟩:=O.push (G1:=fun j=>G2 j∨j9 v7 j) c6 (fun _ h=> .inl h) (fun j I=>I.imp id fun q=>by have:=a2.lt q;omega);have a6:∀j,G2 j→H6.get j=H2.get j:=fun j I=>c6.get j (O.ap j I).1;have d2:=J.mono (H':=H6) (G':=fun j=>G2 j∨j9 v7 j) a6 (fun _ h=> .inl h);have f2:=w9 _ _ _ _ _ _ f1 a6 (fun j I=>(.inl I:G2 j∨j9 v7 j));have g6:=(a6 H.next (E.sub _ (.inr rfl))).trans g2;obtain⟨a7,c7,e7⟩:=a2.slice;have h3:(Q8 x.2).length=x.2.length+1:=by rw[Q8];simp
 have d0:=X.gw;have c9:=X.gf;have b0:=J.gw;have b1:H3.get pw=cE [w1,w2,w3,w4] 1:=(s3.get pw (O.ap pw J.iw).1).trans b0;have d1:H4.get pw=cE [w1,w2,w3,w4] 1:=(s4.get pw (by have:=(O.ap pw J.iw).1;omega)).trans b1;have e8:=(O.ap nb hF).1;have b7:=(s3.get nb e8).trans hg;have g3:=(s4.get nb oM).trans b7;have q1:∀a b c d:Value,[a,b,c,d][1]?=some b:=fun _ _ _ _=>rfl;have q2:∀a b c d:Value,[a,b,c,d][2]?=some c:=fun _ _ _ _=>rfl;have i0:(0:Int)≤i:=oM;have il:(i:Int)<s.vals.length:=oM;have h0:(i:Int).toNat=i:=tN i;have bi:decide ((i:Int)=s.attrs.length)=false:=decide_eq_false oM;have g5:((i:Int)+1)=((i+1:Nat):Int):=oM;have a8:∀Hx:d9,D3 prog .len [97] [v7] Hx=some (.int .i64 ((Q8 x.2).length:Int),none):=fun Hx=>by
  rw[e7];exact J1 aH trivial
 subst c8;rw[j8 Xm rfl _ (by simp)];refine J30 ar S.symm d0 q1 q2 ea e3 bi g1 g9 c9 g5 e9 g4 b0 h0 hg c0 b3 b8 b1 b7 a1.symm d1 g3 hf e4 b9 a8 @wrap_small ?_;refine l9 (F:=fun z=>Ret (u5 _ _ _ (inBlock 0 z)) _ _) (Bg x.1 x.2 r ih H6 pw po pf H.next i (fun j=>G2 j∨j9 v7 j) s w1 w2 w3 w4 u2 D e a7 c7 (Q8 x.2) d2 a4.ap oM f2 (.inl (E.sub _ (.inr rfl))) g6 (by rw[←e7];exact a2.frz fun b hb=> .inr hb) oM oM b4 oM hn oM (l++R4 (x::r) e) (Q8 x.2).length _ _ ⟨0,_,u2,l++R4 r e,rfl,oM,rfl,rfl,rfl,rfl,e7,rfl,rfl,a4,cd.refl _ _ _ _,(.inl rfl),by rw[List.drop_zero,R4,List.append_assoc],by rw[List.length_append];omega⟩) ?_;rintro o e' H8 ⟨ho,G8,w8,d5,e2,g7⟩;refine J1 ho ?_;exact qa g8 (fun b hb=>hO.own.lt hb) hS d6 d5 ((E.trans e1).trans e2) g7 c4
theorem pZ:∀r,jZ r
 |[]=>Od
 |x::r=>Oe x r (pZ r)
def P2:List (List ByteArray)→Nat
 |[]=>1
 |v::r=>(v.length+2)*P2 r
theorem be:∀r,1≤P2 r
 |[]=>Nat.le_refl 1
 |v::r=>Nat.mul_pos oM (be r)
theorem dY{α β:Type}(f:α→List β)(k:Nat)(l:List α)(h:∀x∈l,(f x).length=k):(l.flatMap f).length=l.length*k:=by
 induction l with
 |nil=>simp
 |cons x l z=>rw[List.flatMap_cons,List.length_append,h x (by simp),z (fun y u=>h y (by simp [u])),List.length_cons,Nat.add_mul];omega
theorem oq(v:List ByteArray):(Q8 v).length=v.length+1:=by rw[Q8];simp
theorem gl:∀(r:List (NmQ×List ByteArray))(e:EvD),(R4 r e).length=P2 (r.map (·.2))
 |[],e=>rfl
 |x::r,e=>by
  rw[R4,List.length_append,gl r e,dY _ _ _ (fun v _=>gl r (atV x.1 e v)),oq,List.map_cons,P2];rw[Nat.add_mul,Nat.add_mul,Nat.one_mul];omega
theorem xj(x:NmQ×List ByteArray)(r:List (NmQ×List ByteArray))(l:List EvD):(az x.1 (Q8 x.2) l).flatMap (R4 r)=l.flatMap (R4 (x::r)):=by
 induction l with
 |nil=>rfl
 |cons e l h=>
  rw[az]at h ⊢;rw[List.flatMap_cons,List.flatMap_append,h,List.flatMap_cons]
  congr 1
  rw[rl,List.flatMap_cons,R4,List.flatMap_map]
theorem mU:∀(r:List (NmQ×List ByteArray))(l:List EvD),l.length≤24→cU r l=if l.length*P2 (r.map (·.2))>24 then none else some (l.flatMap (R4 r))
 |[],l,h=>by
  rw[cU,List.map_nil,P2,Nat.mul_one,if_neg oM]
  congr 1
  have:(R4 []:EvD→List EvD)=fun e=>[e]:=by funext e;rfl
  rw[this];simp
 |x::r,l,h=>by
  rw[cU,List.map_cons,P2,←Nat.mul_assoc];have u:(az x.1 (Q8 x.2) l).length=l.length*(x.2.length+2):=by rw[iJ,oq]
  have y:=be (r.map (·.2));by_cases z:l.length*(x.2.length+2)>24
  ·rw[if_pos oM,if_pos (by have:=Nat.mul_le_mul_left (l.length*(x.2.length+2)) y;omega)]
  ·rw[if_neg oM,mU r _ oM,u,xj]
def jp(s:SpD):List EvD:=(s.names++[zNm (Q4 s.names)]).flatMap (fun n=>R4 (s.attrs.zip s.vals) (Y4 n))++(s.texts++[dg (T7 s.texts)]).map bZ
theorem nM(s:SpD)(P:Nat)(z:P2 ((s.attrs.zip s.vals).map (·.2))=P):∀(y:List NmQ)(u:List EvD),dm s y u=if P>24 then(if y=[] then some u else none) else some (u++y.flatMap fun n=>R4 (s.attrs.zip s.vals) (Y4 n))
 |[],u=>by rw[dm,if_pos rfl,List.flatMap_nil,List.append_nil];split<;>rfl
 |n::r,u=>by
  rw[dm,mU _ _ (by simp),z];simp only[List.length_singleton,Nat.one_mul];by_cases h:P>24
  ·rw[if_pos h,if_pos h,if_neg (by simp)]
  ·rw[if_neg h,if_neg h];simp only;rw[nM s P z r,if_neg h];simp
theorem jM:∀(u:List (List ByteArray))(n:Nat),(n*P2 u≤24→oO u n=(n*P2 u:Nat))∧(24<n*P2 u→24<oO u n)
 |[],n=>by rw[P2,Nat.mul_one,oO];exact⟨fun _=>rfl,fun h=>oM⟩
 |v::u,n=>by
  rw[P2,oO,←Nat.mul_assoc];have y:=be u;have e:(n:Int)*((v.length:Int)+2)=((n*(v.length+2):Nat):Int):=by simp
  rw[e];have E:=Nat.mul_le_mul_left (n*(v.length+2)) y;obtain⟨z,D⟩:=jM u (n*(v.length+2));by_cases I:n*(v.length+2)≤25
  ·have:min ((n*(v.length+2):Nat):Int) 25=((n*(v.length+2):Nat):Int):=oM;rw[this];exact⟨z,D⟩
  ·have:min ((n*(v.length+2):Nat):Int) 25=((25:Nat):Int):=oM;rw[this];exact⟨fun q=>oM,fun _=>(jM u 25).2 oM⟩
theorem kS(s:SpD)(W:s.vals.length=s.attrs.length):S8 s=if 24<kn s then none else some (jp s):=by
 have E:(s.attrs.zip s.vals).map (·.2)=s.vals:=List.map_snd_zip oM;obtain⟨P,u⟩:∃P,P=P2 s.vals:=⟨_,rfl⟩
 have y:=nM s P (by rw[E,u]) (s.names++[zNm (Q4 s.names)]) [];obtain⟨c1,c2⟩:=jM s.vals (s.names.length+1);rw[←u]at c1 c2;have I:((s.names.length+1:Nat):Int)=(s.names.length:Int)+1:=oM;rw[I]at c1 c2;have U:=be s.vals;rw[←u]at U;have S:P≤(s.names.length+1)*P:=by rw[Nat.add_mul];omega
 rw[S8,y];by_cases z:P>24
 ·rw[if_pos z,if_neg (by simp)];have:=c2 oM;rw[if_pos (by unfold kn;omega)]
 ·rw[if_neg z];have h:((s.names++[zNm (Q4 s.names)]).flatMap (fun n=>R4 (s.attrs.zip s.vals) (Y4 n))).length=(s.names.length+1)*P:=by
   rw[dY _ P _ (fun n _=>by rw[gl,E,u])];simp
  simp only[List.nil_append,List.length_append,List.length_map,List.length_singleton,h];by_cases O:(s.names.length+1)*P≤24
  ·have:=c1 O;have J:kn s=(((s.names.length+1)*P+(s.texts.length+1):Nat):Int):=by unfold kn;rw[this];omega
   rw[J];by_cases D:(s.names.length+1)*P+(s.texts.length+1)>24
   ·rw[if_pos D,if_pos oM]
   ·rw[if_neg D,if_neg oM];rfl
  ·have:=c2 oM;rw[if_pos oM,if_pos (by unfold kn;omega)]
theorem SpO.vals{H:d9}{lo:Nat}{O:Nat→Prop}{s:SpD}{w1 w2 w3 w4:Value}{us:LV}(h:SpO H lo O s w1 w2 w3 w4 us){G:Nat→Prop}(y:∀w∈w3::us,∀b,j9 w b→G b):SlF H G 1 (VlF H G) w3 s.vals:=by
 obtain⟨cs,S,X⟩:=h.v;have e:=GJ X;subst e;have E:=h.len;rcases S with⟨J,h2,_⟩|⟨b,c,rfl,W,_,_⟩
 ·exact .inl ⟨J,List.length_eq_zero_iff.1 oM⟩
 ·refine .inr ⟨b,0,c,by rw[E],.inr ⟨cs,true,y (.slice (some ⟨b,0,none⟩) cs.length c) (List.mem_cons_self ..) b ⟨_,_,rfl⟩,W,oM,fun i a z=>?_⟩⟩;have D:i<cs.length:=by rw[E];exact(List.getElem?_eq_some_iff.1 z).1
  have I:cs[i]?=some cs[i]:=List.getElem?_eq_getElem D;refine⟨cs[i],?_,(h.u i _ a I z).frz fun b U=>y _ (by simp [List.mem_of_getElem? I]) b U⟩;rw[Nat.zero_add,Nat.mul_one,List.drop_eq_getElem_cons D];rfl
theorem SpO.spr{H:d9}{lo:Nat}{O:Nat→Prop}{s:SpD}{w1 w2 w3 w4:Value}{us:LV}(h:SpO H lo O s w1 w2 w3 w4 us):SpR H H.next [w1,w2,w3,w4] s:=
 ⟨w1,w2,w3,w4,rfl,h.n.sl,h.a.sl,h.vals fun w u b y=>(h.lt b (h.o w (by simp only[List.mem_cons]at u ⊢;rcases u with q|q;exact .inr (.inr (.inl q));exact .inr (.inr (.inr (.inr q)))) b y)).2,h.t.sl⟩
theorem MT(H0:d9)(pw po pf:Nat)(E:Nat→Prop)(s:SpD)(w1 w2 w3 w4 w0:Value)(va:Option Addr)(ca:Nat)(u:List NmQ)(hC:su H0 E pw pf (xu pw po pf) s w1 w2 w3 w4)(X:∀j,E j→j<H0.next∧j≠po∧¬j9 w0 j) (c6:po<H0.next) (hv:SlF H0 E 2 (v8 nmE) (.slice va u.length ca) u) (c5:u.length≤1000) (z:List EvD):
  ∀kk e H2,(∃(j:Nat)(G:Nat→Prop)(w:Value)(l:List EvD),kk=u.length-j∧j≤u.length∧e.get 4=pT pw∧e.get 5=pT po∧e.get 6=pT pf∧e.get 24= .slice va u.length ca∧e.get 25=iV u.length∧e.get 26=iV j∧
    dI H2 po G w l∧cd po E w0 H0 G w H2∧l++((u.drop j).flatMap fun n=>R4 (s.attrs.zip s.vals) (Y4 n))=z∧z.length≤1000000)→
  u9 (LE prog t6 (.loop Fw) e H2) (fun o e H2=>o= .exit 0∧e.get 4=pT pw∧e.get 5=pT po∧∃(G:Nat→Prop)(w:Value),dI H2 po G w z∧cd po E w0 H0 G w H2):=by
 refine j7 _ _ ?_;rintro kk e H2 ⟨j,G,w,l,b9,J,f4,f5,f6,f24,f25,f26,hO,W,S,a2⟩;rcases b:decide ((j:Int)<u.length)with _|_
 ·have a9:=dF b;have:u.drop j=[]:=dN oM;rw[this,List.flatMap_nil,List.append_nil]at S;refine J3 f25 f26 b ?_;exact l7 ⟨rfl,f4,f5,G,w,by rw[←S];exact hO,W⟩
 have a9:=dT b;have fr:∀j,E j→H2.get j=H0.get j:=fun j J=>by have:=X j J;exact W.but j this.1 this.2.1 this.2.2
 have nx:=W.stay.next;have b4:∀j,E j→j<H2.next:=fun j J=>by have:=X j J;omega
 obtain⟨n,nb,o,cs,own,b7,hx,b0,rfl,hF,hg,c3,a3,hc,rfl⟩:=hv.row (i:=j) oM;have b5:(j:Int).toNat=j:=tN j;rw[b0,List.flatMap_cons,←List.append_assoc]at S;have gv:=(fr nb hF).trans hg;obtain⟨Ha,I,-,b2⟩:=pushE H2 (.cells [.string eB,.string eB] true 1);obtain⟨O,y⟩:∃K,K=Ha.put H2.next (.cells (nmE n) true 1):=⟨_,rfl⟩
 have na:Ha.next=H2.next+1:=by rw[I,i5]
 have n3:O.next=H2.next+1:=by rw[y,j5,na]
 have s3:i4 H2.next H2 O:=by rw[y,I];exact(i4.push lR).trans (i4.put lR)
 have g3:O.get H2.next=cE (nmE n) 1:=by rw[y];exact i8 oM
 obtain⟨a5,a7⟩:=hO.push (G1:=G) s3 (fun _ h=>h) (fun j h=> .inl h);have U:=hC.mono (H':=O) (G':=G) (fun j J=>(s3.get j (b4 j J)).trans (fr j J)) W.sub;have a4:=U.gf;have b1:EvF O G [iV 1,.string n.1,.string n.2,nS,.string eB] (Y4 n):=⟨_,rfl,.inl ⟨rfl,rfl⟩⟩
 have c4:=hC.len;have b8:=hC.al;have b6:l.length+(R4 (s.attrs.zip s.vals) (Y4 n)).length+((u.drop (j+1)).flatMap fun n=>R4 (s.attrs.zip s.vals) (Y4 n)).length=z.length:=by rw[←S,List.length_append,List.length_append]
 obtain⟨_,h8,H8,D,a1,rfl,G8,w8,a6,a8,c0⟩:=pZ (s.attrs.zip s.vals) O pw po pf 0 G s w1 w2 w3 w4 w l _ (Y4 n) U a5 b1 rfl (by rw[List.length_zip];omega) oM (by show 0+_≤_;rw[List.length_zip];omega);have b3:ldC (some true) (some 2) 0 (nmE n)=some (.agg (nmE n).toArray):=rfl;have e0:((0:Nat):Int)=0:=rfl;rw[e0]at D;refine J17 f6 f24 f25 f26 b gv b5 a3 I.symm b2 y.symm g3 b3 a4 D a1 @wrap_small ?_;exact i6 (kk-1) oM ⟨j+1,G8,w8,_,oM,oM,f4,f5,f6,f24,f25,rfl,a6,(W.trans a7).trans a8,S,a2⟩
theorem MU(H0:d9)(po:Nat)(y:Nat→Prop)(w0:Value)(va:Option Addr)(ca:Nat)(ts:List ByteArray)(a2:∀j,y j→j<H0.next∧j≠po∧¬j9 w0 j) (b3:po<H0.next) (hv:SlF H0 y 1 (v8 stE) (.slice va ts.length ca) ts) (b2:ts.length≤1000) (u:List EvD):
  ∀kk e H2,(∃(j:Nat)(G:Nat→Prop)(w:Value)(l:List EvD),kk=ts.length-j∧j≤ts.length∧e.get 5=pT po∧e.get 41= .slice va ts.length ca∧e.get 42=iV ts.length∧e.get 43=iV j∧
    dI H2 po G w l∧cd po y w0 H0 G w H2∧l++(ts.drop j).map bZ=u∧u.length≤1000000)→
  u9 (LE prog t6 (.loop Fx) e H2) (fun o e H2=>o= .exit 2∧e.get 5=pT po∧∃(G:Nat→Prop)(w:Value),dI H2 po G w u∧cd po y w0 H0 G w H2):=by
 refine j7 _ _ ?_;rintro kk e H2 ⟨j,G,w,l,b0,hj,f5,f41,f42,f43,W,O,D,E⟩;rcases b:decide ((j:Int)<ts.length)with _|_
 ·have a3:=dF b;have:ts.drop j=[]:=dN oM;rw[this,List.map_nil,List.append_nil]at D;refine J3 f42 f43 b ?_;exact l7 ⟨rfl,f5,G,w,by rw[←D];exact W,O⟩
 have a3:=dT b;have fr:∀j,y j→H2.get j=H0.get j:=fun j hj=>by have:=a2 j hj;exact O.but j this.1 this.2.1 this.2.2
 have nx:=O.stay.next;obtain⟨x,nb,o,cs,own,a8,hx,a4,rfl,hF,hg,b1,a7,hc,rfl⟩:=hv.row (i:=j) oM;have c0:=hc 0 oM;rw[Nat.add_zero]at c0;have a5:(j:Int).toNat=j:=tN j;rw[a4,List.map_cons,List.append_cons]at D;have gv:=(fr nb hF).trans hg;have U:=W.g;obtain⟨J,I⟩:∃r:LV,r=[iV 2,.string eB,.string eB,nS,.string x]:=⟨_,rfl⟩
 have he:EvF H2 G J (bZ x):=⟨_,I,.inl ⟨rfl,rfl⟩⟩
 have a6:l.length+1+(ts.drop (j+1)).length=u.length:=by rw[←D];simp;omega
 obtain⟨v',h',H3,r1,r2,g3,⟨a',c',e'⟩,X,a1⟩:=W.add he oM;obtain⟨z,h⟩:∃K,K=H2.push (.cells J true 5):=⟨_,rfl⟩
 rw[←h]at r1 r2;have a9:z.get po=cE [w] 1:=by rw[h,j6 (u6 U)];exact U
 have cu:v'.cells.toList=[v']:=by rw[e'];rfl
 have ou:Value.oneCell' v'=true:=by rw[e'];rfl
 have S:bsA prog (some 51) H2 1 [(0,.agg #[iV 2,.string eB,.string eB,nS,.string x])]=some (.slice (some ⟨H2.next,0,none⟩) 1 1,z):=by
  rw[h,I];simp only[C7,aG,C8];rfl
 refine J16 f5 f41 f42 f43 b gv a5 c0 U S r1 r2 g3 cu ou @wrap_small ?_;exact i6 (kk-1) oM ⟨j+1,G,v',_,oM,oM,f5,f41,f42,rfl,X,O.trans a1,D,E⟩
theorem ko{s:SpD}(h:¬24<kn s)(hl:s.vals.length=s.attrs.length):s.names.length≤24∧s.texts.length≤24∧s.attrs.length≤24∧(∀x∈s.vals,x.length≤24)∧(jp s).length≤24:=by
 obtain⟨c1,c2⟩:=jM s.vals (s.names.length+1);have I:((s.names.length+1:Nat):Int)=(s.names.length:Int)+1:=oM;rw[I]at c1 c2;have S:(s.attrs.zip s.vals).map (·.2)=s.vals:=List.map_snd_zip oM;have D:=be s.vals;have z:∀u:List (List ByteArray),u.length≤P2 u∧∀x∈u,x.length≤P2 u:=by
  intro u;induction u with
  |nil=>exact⟨Nat.zero_le _,fun x y=>by cases y⟩
  |cons v u E=>
   have D:=be u;rw[P2,List.length_cons];have W:v.length+2≤(v.length+2)*P2 u:=Nat.le_mul_of_pos_right _ D;have X:2*P2 u≤(v.length+2)*P2 u:=Nat.mul_le_mul_right _ oM;refine⟨by have:=E.1;omega,fun x y=>?_⟩;rcases List.mem_cons.1 y with rfl|y
   ·omega
   ·have:=E.2 x y;omega
 obtain⟨U,J⟩:=z s.vals;have O:(s.names.length+1)*P2 s.vals≤24:=by
  apply Classical.byContradiction;intro q;have:=c2 oM;apply h;unfold kn;omega
 have h3:P2 s.vals≤(s.names.length+1)*P2 s.vals:=by rw[Nat.add_mul];omega
 have h4:s.names.length+1≤(s.names.length+1)*P2 s.vals:=Nat.le_mul_of_pos_right _ D;have h5:=c1 O;have h6:(s.names.length+1)*P2 s.vals+s.texts.length+1≤24:=by unfold kn at h;omega
 refine⟨oM,oM,oM,fun x y=>by have:=J x y;omega,?_⟩;rw[jp,List.length_append,dY _ (P2 s.vals) _ (fun n _=>by rw[gl,S])];simp only[List.length_append,List.length_map,List.length_singleton];omega
theorem xr(l:List ByteArray):frS l eB []=dg (T7 l):=by
 have h:∀n,eB++dg n=dg n:=fun n=>by
  have u:=aX eB (dg n);exact oF (by rw[u];rfl)
 have y:frN l eB=T7 l:=by unfold frN T7;simp only[h]
 rw[frS,List.find?_nil];simp only[y,h]
theorem Be(H:d9)(lo k:Nat)(cs:LV)(q:Q)(q1:lo≤H.next)(hr:QR H lo k false cs q)(o8:OkD false q)(p9:nQ q≤1000):
  Ret (CL prog t6 31 [.agg cs.toArray] H) H (Oa H (spQ q)):=by
 obtain⟨s,hs⟩:∃s,s=spQ q:=⟨_,rfl⟩
 have X:=kS s (by rw[hs];exact(jX q).2.2.1);obtain⟨z1,z2,z3,z4,z5⟩:=jX q;rw[←hs]at z1 z2 z3 z4 z5;rw[←hs];have ac:cs.all Value.oneCell'=true:=F0 hr;have ldc:=M8 hr;have lc:=hr.len;rw[lc]at ldc;simp only[qSz,Bool.false_eq_true,if_false]at ldc lc;obtain⟨H1,a8⟩:∃H1,H1=d9.push ⟨H.bs,H.next⟩ (.cells cs true 1):=⟨_,rfl⟩
 have s1:i4 H.next H H1:=by rw[a8];exact i4.first H _
 have n1:H1.next=H.next+1:=by rw[a8,i5];rfl
 have l3:H.next≤H1.low:=by rw[a8];exact lR
 have g1:H1.get H.next=cE cs 1:=by rw[a8];exact i7
 obtain⟨H2,b0⟩:∃K,K=H1.push (.cells cs true 3):=⟨_,rfl⟩
 have n2:H2.next=H.next+2:=by rw[b0,i5,n1]
 have s2:i4 H.next H H2:=by rw[b0];exact s1.trans (i4.push oM)
 have o3:H.next≤H2.low:=by rw[b0];exact l3
 have d2:bsA prog (some 25) H1 1 [(0,.agg cs.toArray)]=some (.slice (some ⟨H1.next,0,none⟩) 1 1,H2):=by
  rw[b0];cases k with
  |zero=>exact hr.elim
  |succ k=>obtain⟨_,_,_,_,rfl,_⟩:=hr.path;simp only[C7,X8,C8];rfl
 have p0:QsR H2 H2.next k false (.slice (some ⟨H1.next,0,none⟩) 1 1) [q]:=by
  have hO:t7 H2 H1.next 3 (QR H2 H2.next k false) (.slice (some ⟨H1.next,0,none⟩) 1 1) [q]:=by
   rw[b0];exact t7.fresh rfl lR (D2.one lc (by rw[←b0];exact hr.mono (fun j u=>s2.get j oM) oM))
  exact hO.sl
 obtain⟨wv,h3,I,c4,d5,w1,w2,w3,w4,us,O,rfl,D,i0⟩:=NN H2 H2.next k _ [q] lR p0 (by rw[nL,nL];omega) (by simp);have m3:(fsL false [q]).foldl I9 ⟨[],[],[],[]⟩=s:=by rw[fsL,fsL,List.append_nil,uK q o8,hs]
 rw[m3]at D;have n3:=i0.next;obtain⟨a1,b1,e1⟩:=D.n.slice;obtain⟨a2,b2,e2⟩:=D.a.slice;obtain⟨a3,b3,e3⟩:=D.v.slice;obtain⟨a4,b4,e4⟩:=D.t.slice;obtain⟨E,J⟩:∃r,r=[w1,w2,w3,w4]:=⟨_,rfl⟩
 have ar:E.all Value.oneCell'=true:=by rw[J,e1,e2,e3,e4];rfl
 have lr:E.length=4:=by rw[J];rfl
 have l6:ldC (some true) (some 4) 0 E=some (.agg E.toArray):=by rw[J];rfl
 have q0:E[0]?=some w1:=by rw[J];rfl
 have q3:E[3]?=some w4:=by rw[J];rfl
 have j2:(#[w1,w2,w3,w4]:Array Value)=E.toArray:=by rw[J]
 rw[j2]at c4;obtain⟨zz,h6⟩:∃z:LV,z=[nS,nS,nS,nS]:=⟨_,rfl⟩
 have lz:zz.length=4:=by rw[h6];rfl
 have m0:splice zz 0 E=E:=w7 _ _ (by rw[lr,lz]);obtain⟨K3,c0,-,k2⟩:=pushE I (.cells zz true 1);obtain⟨S,b7⟩:∃K,K=K3.put I.next (.cells E true 1):=⟨_,rfl⟩
 have n4:S.next=I.next+1:=by rw[b7,j5,c0,i5]
 have d0:i4 I.next I S:=by rw[b7,c0];exact(i4.push lR).trans (i4.put lR)
 have g4:S.get I.next=cE E 1:=by rw[b7];exact i8 (by rw[c0,i5];omega)
 have e7:=(D.spr).mono (H':=S) (fun j u=>d0.get j u) lR;rw[←J]at e7;have k8:=Da S I.next E s oM e7 oM oM (fun x hx=>by have:=z4 x hx;omega) oM;have p6:i4 H.next H S:=(s2.trans (i0.weaken oM)).trans (d0.weaken oM);have o4:H.next≤S.low:=((i0.weaken (show H.next≤H2.next from oM)).trans (d0.weaken oM)).low o3;rw[j8 ab0 rfl _ (by simp)];rcases b:decide ((24:Int)<kn s)with _|_
 ·have y:=dF b;rw[if_neg y]at X;obtain⟨y1,y4,y2,y3,y5⟩:=ko y z3;obtain⟨H5,c8⟩:∃K,K=S.push (.cells [nS] true 1):=⟨_,rfl⟩
  have n5:H5.next=I.next+2:=by rw[c8,i5,n4]
  obtain⟨H6,b8⟩:∃K,K=H5.push (.cells [.nilFunc] true 1):=⟨_,rfl⟩
  have n6:H6.next=I.next+3:=by rw[b8,i5,n5]
  have m4:H6.get H5.next=cE [.nilFunc] 1:=by rw[b8];exact i7
  obtain⟨W,b9⟩:∃K,K=H6.put H5.next (.cells [xu I.next S.next H5.next] true 1):=⟨_,rfl⟩
  have n7:W.next=I.next+3:=by rw[b9,j5,n6]
  have d1:i4 S.next S W:=by rw[b9,b8,c8];exact((i4.push lR).trans (i4.push (by rw[i5];omega))).trans (i4.put (by rw[i5];omega))
  have f1:=(d1.get I.next oM).trans g4;have m5:W.get H5.next=cE [xu I.next S.next H5.next] 1:=by rw[b9];exact i8 oM
  have m6:W.get S.next=cE [nS] 1:=by
   rw[b9,i9 oM,b8,j6 oM,c8];exact i7
  have p7:i4 I.next I W:=d0.trans (d1.weaken oM);have c5:SpO W H2.next O s w1 w2 w3 w4 us:=D.keep (fun j u=>p7.get j (D.lt j u).2) (fun _ h=>h) (fun b y=>by have:=D.lt b y;omega) lR;have inl:∀w∈w1::w2::w3::w4::us,∀b,j9 w b→H2.next≤b∧b<I.next:=fun w U b y=>D.lt b (D.o w U b y);have e6:=EN W W.next w1 s.names lR c5.n.sl oM;obtain⟨nm,h5⟩:∃nm,nm=zNm (Q4 s.names):=⟨_,rfl⟩
  rw[←h5]at e6;obtain⟨v9,h9,H9,k6,d6,g2,a6⟩:=c5.n.push1F (P:=prog) (t:=95) (cs:=nmE nm) (a:=nm) (by exact pJ.2.2.2.2.2.2) cr.1 cr.2.1 cr.2.2.1 oM oM rfl rfl oM oM;obtain⟨H8,f2⟩:∃K,K=W.push (.cells (nmE nm) true 2):=⟨_,rfl⟩
  rw[←f2]at k6 d6;have m7:H8.get I.next=cE E 1:=by rw[f2,j6 oM];exact f1
  have n9:=a6.next;have j0:bsA prog (some 48) W 1 [(0,.agg (nmE nm).toArray)]=some (.slice (some ⟨W.next,0,none⟩) 1 1,H8):=by
   rw[f2];simp only[C7,cr,C8];rfl
  obtain⟨a9,c9,e9⟩:=g2.slice;have g8:∀Hx:d9,D3 prog .len [95] [v9] Hx=some (.int .i64 ((s.names++[nm]).length:Int),none):=fun Hx=>by
   rw[e9];exact J1 pJ trivial
  have h8:∀j,¬(H2.next≤j∧j<I.next)→¬j9 w1 j:=fun j u q=>u (inl w1 (by simp) j q);have c7:∀j,j<W.next→¬j9 w1 j→H9.get j=W.get j:=a6.but;have j4:H9.get I.next=cE E 1:=(c7 _ oM (h8 _ oM)).trans f1;have m8:=(c7 H5.next oM (h8 _ oM)).trans m5;have m9:=(c7 S.next oM (h8 _ oM)).trans m6;have m1:∀(i:Nat)(w:Value),(w1::w2::w3::w4::us)[i]?=some w→i≠0→∀j,j9 w j→¬j9 w1 j:=fun i w U hi j u q=>D.ap i 0 w w1 U rfl hi j u q;have p5:∀w∈w1::w2::w3::w4::us,∀b,j9 w b→b<W.next:=fun w U b y=>by have:=inl w U b y;omega
  obtain⟨G0,a5⟩:∃G:Nat→Prop,G=fun j=>(∃w∈w2::w3::us,j9 w j)∨j=I.next∨j=H5.next∨j9 v9 j:=⟨_,rfl⟩
  have e8:∀b,j9 v9 b→b<H9.next∧b≠S.next∧¬(I.next≤b∧b<W.next):=fun b y=>by
   have h1:=g2.lt y;rcases a6.new b y with r|r
   ·have:=inl w1 (by simp) b r;omega
   ·omega
  have i3:∀w∈w2::w3::us,w∈w1::w2::w3::w4::us:=fun w U=>by
   simp only[List.mem_cons]at U ⊢;rcases U with h|h|h
   ·exact .inr (.inl h)
   ·exact .inr (.inr (.inl h))
   ·exact .inr (.inr (.inr (.inr h)))
  have d4:∀j,G0 j→j<H9.next∧j≠S.next∧¬j9 (nS) j:=fun j u=>by
   rw[a5]at u;refine⟨?_,?_,A9 j⟩
   ·rcases u with⟨w,U,u⟩|u|u|u
    ·have:=inl w (i3 w U) j u;omega
    ·omega
    ·omega
    ·exact(e8 j u).1
   ·rcases u with⟨w,U,u⟩|u|u|u
    ·have:=inl w (i3 w U) j u;omega
    ·omega
    ·omega
    ·exact(e8 j u).2.1
  have i1:∀w∈w2::w3::w4::us,∀b,j9 w b→H9.get b=W.get b:=fun w U b y=>by
   have hm:w∈w1::w2::w3::w4::us:=List.mem_cons_of_mem _ U;obtain⟨i,hi⟩:=List.mem_iff_getElem?.1 U;exact c7 b (p5 w hm b y) (m1 (i+1) w hi oM b y)
  have o9:SlF H9 G0 2 (v8 nmE) w2 s.attrs:=(c5.a.same (i1 w2 (by simp))).frz fun b y=>by rw[a5];exact .inl ⟨w2,by simp,y⟩
  have p3:SlF H9 G0 1 (VlF H9 G0) w3 s.vals:=by
   have h0:=c5.vals (G:=fun j=>∃w∈w3::us,j9 w j) (fun w U b y=>⟨w,U,y⟩);have up:∀j,(∃w∈w3::us,j9 w j)→G0 j:=fun j⟨w,U,u⟩=>by rw[a5];exact .inl ⟨w,List.mem_cons_of_mem _ U,u⟩
   have sm:∀j,(∃w∈w3::us,j9 w j)→H9.get j=W.get j:=fun j⟨w,U,u⟩=>i1 w (by
    rcases List.mem_cons.1 U with h|h
    ·simp [h]
    ·simp [h]) j u
   exact h0.mono sm up fun _ _ h=>h.mono sm up
  have o0:su H9 G0 I.next H5.next (xu I.next S.next H5.next) s w1 w2 w3 w4:=⟨by rw[j4,J],m8,by rw[a5];exact .inr (.inl rfl),by rw[a5];exact .inr (.inr (.inl rfl)),o9,p3,z3,oM,fun x hx=>by have:=y3 x hx;omega⟩
  have o1:dI H9 S.next G0 (nS) []:=⟨m9,t7.nil,d4⟩
  have o6:((s.names++[nm]).flatMap fun n=>R4 (s.attrs.zip s.vals) (Y4 n)).length≤24:=by
   rw[h5];have:=z5;have:=y5;rw[jp,List.length_append]at this;omega
  refine J30 ac a8.symm g1 ldc d2 c4 d5 h6.symm c0.symm k2 lr lz ar m0 b7.symm g4 l6 k8 b c8.symm b8.symm m4 b9.symm f1 q0 e6 j0 m7 k6 (And.intro d6 g8) ?_;refine l9 (F:=fun z=>Ret (u5 _ _ _ (u7 (inBlock 0 z) _)) _ _) (MT H9 I.next S.next H5.next G0 s w1 w2 w3 w4 (nS) a9 c9 (s.names++[nm]) o0 d4 oM (by rw[←e9];exact g2.frz fun b y=>by rw[a5];exact .inr (.inr (.inr y))) (by simp;omega) ((s.names++[nm]).flatMap fun n=>R4 (s.attrs.zip s.vals) (Y4 n)) (s.names++[nm]).length _ _ ⟨0,G0,nS,[],rfl,oM,rfl,rfl,rfl,e9,rfl,rfl,o1,cd.refl _ _ _ _,rfl,oM⟩) ?_;rintro o e' HA ⟨ho,k4,k5,GA,wA,c3,b6⟩;have nA:=b6.stay.next;have j3:∀j,j<H9.next→j≠S.next→HA.get j=H9.get j:=fun j u h=>b6.but j u h (A9 j);have k1:HA.get I.next=cE E 1:=(j3 _ oM oM).trans j4;have k0:=c3.g;have l4:∀b,j9 w4 b→H2.next≤b∧b<I.next:=fun b y=>inl w4 (by simp) b y;have k3:t7 HA H2.next 1 (v8 stE) w4 s.texts:=(c5.t.same (i1 w4 (by simp))).same fun b y=>j3 b (by have:=l4 b y;omega) (by have:=l4 b y;omega);have g6:=fresh HA HA.next w4 (nS) s.texts eB [] lR k3.sl (ig ..) oM (by decide) (by decide);rw[xr]at g6;obtain⟨fs,k9⟩:∃fs,fs=dg (T7 s.texts):=⟨_,rfl⟩
  rw[←k9]at g6;obtain⟨vC,hc,HC,k7,e5,g3,a7⟩:=k3.push1F (P:=prog) (t:=97) (cs:=[.string fs]) (a:=fs) (by exact aH.2.2.2.2.2.2) ty9.1 ty9.2.1 ty9.2.2.1 oM oM rfl rfl oM oM;obtain⟨HB,g0⟩:∃K,K=HA.push (.cells [.string fs] true 1):=⟨_,rfl⟩
  rw[←g0]at k7 e5;have n0:HB.get I.next=cE E 1:=by rw[g0,j6 oM];exact k1
  have nC:=a7.next;have l5:=u6 k0;have h7:∀j,GA j→¬j9 w4 j:=fun j u q=>by
   have h4:=l4 j q;rcases b6.new j u with r|r
   ·rw[a5]at r;rcases r with⟨w,U,r⟩|r|r|r
    ·obtain⟨i,hi⟩:=List.mem_iff_getElem?.1 (i3 w U);by_cases l1:i=3
     ·subst l1;have:w=w4:=(Option.some.inj hi).symm;subst this;obtain⟨i2,g7⟩:=List.mem_iff_getElem?.1 U;rcases i2 with _|_|i2
      ·exact D.ap 1 3 w2 w rfl rfl oM j (by rw[show w2=w from Option.some.inj g7];exact r) q
      ·exact D.ap 2 3 w3 w rfl rfl oM j (by rw[show w3=w from Option.some.inj g7];exact r) q
      ·exact D.ap (i2+4) 3 w w g7 rfl oM j r q
     ·exact D.ap i 3 w w4 hi rfl l1 j r q
    ·omega
    ·omega
    ·rcases a6.new j r with r|r
     ·exact D.ap 0 3 w1 w4 rfl rfl oM j r q
     ·omega
   ·omega
  have f0:∀j,j<HA.next→¬j9 w4 j→HC.get j=HA.get j:=a7.but;have c6:∀b,j9 wA b→H9.next≤b∧b<HA.next:=fun b y=>by
   have h1:=c3.own.lt y;rcases b6.neww b y with r|r
   ·exact(A9 b r).elim
   ·omega
  have p8:∀b,j9 vC b→b<HC.next∧b≠S.next∧¬j9 wA b:=fun b y=>by
   have h1:=g3.lt y;refine⟨h1.2,?_,fun q=>?_⟩
   ·rcases a7.new b y with r|r
    ·have:=l4 b r;omega
    ·omega
   ·have h2:=c6 b q;rcases a7.new b y with r|r
    ·have:=l4 b r;omega
    ·omega
  have d3:dI HC S.next (fun j=>GA j∨j9 vC j) wA ((s.names++[nm]).flatMap fun n=>R4 (s.attrs.zip s.vals) (Y4 n)):=by
   refine⟨(f0 _ l5 (fun q=>by have:=l4 _ q;omega)).trans k0,(c3.own.same fun b y=>f0 b (c6 b y).2 (fun q=>by have:=l4 b q;have:=c6 b y;omega)).imp fun cs a h=>w9 _ _ _ _ _ _ h (fun j u=>f0 j (c3.ap j u).1 (h7 j u)) (fun _ h=> .inl h),fun j u=>?_⟩;rcases u with u|u
   ·have:=c3.ap j u;exact⟨oM,this.2⟩
   ·exact p8 j u
  obtain⟨aC,cC,eC⟩:=g3.slice;have g9:∀Hx:d9,D3 prog .len [97] [vC] Hx=some (.int .i64 ((s.texts++[fs]).length:Int),none):=fun Hx=>by
   rw[eC];exact J1 aH trivial
  have j1:bsA prog (some 9) HA 1 [(0,.string fs)]=some (.slice (some ⟨HA.next,0,none⟩) 1 1,HB):=by
   rw[g0];simp only[C7,ty9,C8];rfl
  have m2:((s.names++[nm]).flatMap fun n=>R4 (s.attrs.zip s.vals) (Y4 n))++(s.texts++[fs]).map bZ=jp s:=by rw[jp,h5,k9]
  refine J10 ho k4 k1 q3 g6 j1 n0 k7 e5 g9 ?_;refine l9 (F:=fun z=>Ret (u5 _ _ _ (u7 (inBlock 2 z) _)) _ _) (MU HC S.next (fun j=>GA j∨j9 vC j) wA aC cC (s.texts++[fs]) d3.ap oM (by rw[←eC];exact g3.frz fun b y=> .inr y) (by simp;omega) (jp s) (s.texts++[fs]).length _ _ ⟨0,_,wA,_,rfl,oM,k5,eC,rfl,rfl,d3,cd.refl _ _ _ _,m2,oM⟩) ?_;rintro o2 e2 HD ⟨o7,p4,GD,wD,b5,g5⟩;have n8:=b5.g;have nD:=g5.stay.next;have l8:i4 H.next H HD:=((((p6.trans (d1.weaken oM)).trans (a6.stay.weaken oM)).trans (b6.stay.weaken oM)).trans (a7.stay.weaken oM)).trans (g5.stay.weaken oM);have o5:H.next≤HD.low:=(((((d1.weaken (show H.next≤S.next from oM)).trans (a6.stay.weaken oM)).trans (b6.stay.weaken oM)).trans (a7.stay.weaken oM)).trans (g5.stay.weaken oM)).low o4;refine J3 o7 p4 n8 ?_;refine ce (fun hc=>?_) ⟨_,_,rfl,.inr ⟨_,X,rfl,SlF.mono (b5.own.frz fun b y=>(b5.own.lt y).2) (fun _ _=>rfl) (fun j u=>u) (fun _ _ h=>w9 _ _ _ _ _ _ h (fun _ _=>rfl) fun j u=>(b5.ap j u).1)⟩,l8.ret o5⟩;obtain⟨da,dc,ed⟩:=b5.own.slice;obtain⟨u1,u2⟩:=au b5.own (by rw[ed]at hc ⊢;exact hc);exact⟨_,_,rfl,.inr ⟨_,X,rfl,by rw[u1,u2];exact .inl ⟨rfl,rfl⟩⟩,i4.refl _ _⟩
 ·have y:=dT b;rw[if_pos y]at X;refine J19 ac a8.symm g1 ldc d2 c4 d5 h6.symm c0.symm k2 lr lz ar m0 b7.symm g4 l6 k8 b ?_;exact⟨_,none,H,rfl,rfl,_,_,rfl,.inl ⟨X,rfl,rfl⟩,i4.refl _ _⟩
structure ReD where
 strat:StD
 labels:List EvD
 sorts:List SoD
 size:List Int
 how:List (Int×Int×Int)
def knB(n:Nat)(k:Int):Bool:=decide (0≤k)&&decide (k<n)
def iH(so:List SoD)(kind f n:Int):Bool:=knB so.length f&&knB so.length n&&(!decide (kind=2)||(decide (f=0)&& !((so.getD n.toNat (false,false,eB)).2.1)))
theorem vD(H:d9)(y:Nat)(h:LV)(own:Bool)(sz:Nat)(D:H.get y=some (.cells h own sz))(sa:Option Addr)(n c:Nat)(z:h[9]?=some (.slice sa n c))(k:Int):CL prog t6 70 [pT y,iV k] H=some (.bool (knB n k),none):=by
 have u:d9.get ⟨H.bs,H.next⟩ y=some (.cells h own sz):=D;rw[j8 ad8 rfl _ (by simp),knB];rcases b:decide ((0:Int)≤k)with _|_
 ·exact J1 b trivial
 ·exact J3 b u z trivial
theorem GG(H:d9)(rb:Nat)(I:LV)(own:Bool)(sz:Nat)(hg:H.get rb=some (.cells I own sz))(z:List SoD)(v:Value)(hv:SlI H H.next 3 (v8 soE) v z)(h9:I[9]?=some v)(el:LV)(e:EvD)(hl:el.length=5)(U:el.all Value.oneCell'=true)(S:el[0]?=some (.int .i64 e.kind))(f n:Int):
  CL prog t6 40 [pT rb,.agg el.toArray,iV f,iV n] H=some (.bool (iH z e.kind f n),none):=by
 obtain⟨sa,c,rfl⟩:=hv.slice;obtain⟨J,h⟩:∃J,J=d9.push ⟨H.bs,H.next⟩ (.cells el true 1):=⟨_,rfl⟩
 have hS:i4 H.next H J:=by rw[h];exact i4.first H _
 have O:J.get H.next=cE el 1:=by rw[h];exact i7
 have a3:H.next≤J.low:=by rw[h];exact lR
 have W:=(hS.get rb (u6 hg)).trans hg;have u:=vD J rb I own sz W sa z.length c h9 f;have E:=vD J rb I own sz W sa z.length c h9 n;rw[j8 ab7 rfl _ (by simp),iH];rcases b:decide (e.kind=2)with _|_
 ·rcases b1:knB z.length f with _|_
  ·rw[b1]at u;exact J6 U h.symm O S b u trivial
  ·rw[b1]at u;rcases X:knB z.length n with _|_
   ·rw[X]at E;exact J7 U h.symm O S b u E trivial
   ·rw[X]at E;exact J7 U h.symm O S b u E trivial
 ·rcases b1:knB z.length f with _|_
  ·rw[b1]at u;exact J6 U h.symm O S b u trivial
  ·rw[b1]at u;rcases X:knB z.length n with _|_
   ·rw[X]at E;exact J7 U h.symm O S b u E trivial
   ·have D:=X;simp only[knB,Bool.and_eq_true,decide_eq_true_eq]at D;rw[X]at E;rcases b3:decide (f=0)with _|_
    ·exact J8 U h.symm O S b u E b3 trivial
    ·have hn:(n.toNat:Int)=n:=Int.toNat_of_nonneg D.1;have a2:n.toNat<z.length:=oM;obtain⟨y,nb,o,cs,ow,a5,hx,hd,e0,hF,a1,a6,a4,hc,rfl⟩:=hv.row (i:=n.toNat) a2;subst e0;have c1:=hc 1 oM;have gn:=(hS.get nb hF).trans a1;have hy:(z.getD n.toNat (false,false,eB)).2.1=y.2.1:=by rw[List.getD_eq_getElem?_getD,hx];rfl
     have y1:(soE y)[1]?=some (.bool y.2.1):=rfl;rw[y1]at c1;have p0:(0:Int)≤n:=D.1;have p1:n<z.length:=D.2;exact J13 U h.symm O S b u E b3 W h9 gn c1 hy trivial
def mx2(a b:Int):Int:=if a<b then b else a
def mxL:List Int→Int
 |[]=>0
 |x::l=>l.foldl mx2 x
theorem Bn(H0:d9)(O:Option Addr)(I:Nat)(l:List Int)(hv:SlI H0 H0.next 1 (v8 inE) (.slice O l.length I) l)(hn:l.length≤100000)(r:Int):
  ∀D e H2,(∃(i:Nat)(m:Int),D=l.length-i∧1≤i∧i≤l.length∧e.get 0= .slice O l.length I∧e.get 3=iV m∧e.get 4=iV i∧H2=H0∧(l.drop i).foldl mx2 m=r)→
  u9 (LE prog t6 (.loop FS) e H2) (fun o e H2=>H2=H0∧o= .exit 0∧e.get 3=iV r):=by
 refine j7 _ _ ?_;rintro D e H2 ⟨i,m,hk,X,hi,u,f3,f4,rfl,h⟩;rcases b:decide ((i:Int)<l.length)with _|_
 ·have z:=dF b;have:l.drop i=[]:=dN oM;rw[this,List.foldl_nil]at h;refine J3 u f4 b ?_;exact l7 ⟨rfl,rfl,by rw[←h];exact f3⟩
 have z:=dT b;obtain⟨y,nb,o,cs,own,el,hx,U,rfl,a2,W,a1,J,S,rfl⟩:=hv.row (i:=i) oM;have nt:(i:Int).toNat=i:=tN i;have E:=S 0 oM;rw[Nat.add_zero]at E;rw[U,List.foldl_cons]at h;have hm:∀Hx,D3 prog .max [3,3] [iV m,iV y] Hx=some (.int .i64 (mx2 m y),none):=fun Hx=>by
  simp [D3,fN,mx2]
 refine J9 u f3 f4 b W nt E hm @wrap_small ?_;exact i6 (D-1) oM ⟨i+1,mx2 m y,oM,oM,oM,u,rfl,rfl,rfl,h⟩
theorem XC(H:d9)(v:Value)(l:List Int)(u:SlI H H.next 1 (v8 inE) v l)(E:1≤l.length)(hn:l.length≤100000):CL prog t6 60 [v] H=some (.int .i64 (mxL l),none):=by
 obtain⟨va,S,rfl⟩:=u.slice;obtain⟨y,O,o,cs,own,el,J,hd,rfl,a2,hg,a1,I,hc,rfl⟩:=u.row (i:=0) oM;have D:=hc 0 oM;simp only[Nat.zero_mul,Nat.add_zero]at D;have b:decide ((l.length:Int)<1)=false:=decide_eq_false oM;have h:d9.get ⟨H.bs,H.next⟩ O=some (.cells cs own 1):=hg;have U:mxL l=(l.drop 1).foldl mx2 y:=by
  cases l with
  |nil=>simp at E
  |cons x l=>simp at J;rw[←J];rfl
 rw[j8 ac8 rfl _ (by simp)];refine J3 b h D ?_;refine l9 (F:=fun z=>u5 _ _ _ (u7 (inBlock 0 z) _)=_) (Bn ⟨H.bs,H.next⟩ (some ⟨O,o,none⟩) S l (u.mono (fun _ _=>rfl) lR iF) hn (mxL l) (l.length-1) _ _ ⟨1,y,rfl,lR,E,rfl,rfl,rfl,rfl,U.symm⟩) ?_;rintro o' e' H' ⟨X,ho,W⟩;exact J3 ho X W trivial
theorem Nr(H:d9)(z:Nat)(h:LV)(own:Bool)(sz:Nat)(J:H.get z=some (.cells h own sz))(v:Value)(l:List Int)(U:SlI H H.next 1 (v8 inE) v l)(u:h[10]?=some v)(D:1≤l.length)(S:l.length≤100000)(size:Int)(E:0≤mxL l)(I:mxL l≤1000):
  CL prog t6 33 [pT z,iV size] H=some (.bool (decide (size≤2*mxL l+1)),none):=by
 have O:=XC ⟨H.bs,H.next⟩ v l (U.mono (fun _ _=>rfl) lR iF) D S;have y:d9.get ⟨H.bs,H.next⟩ z=some (.cells h own sz):=J;rw[j8 ab2 rfl _ (by simp)];exact J4 y u O @wrap_small trivial
theorem tv(H:d9)(h:LV)(D:List SoD)(v:Value)(hv:SlI H H.next 3 (v8 soE) v D)(hl:h.length=12)(X:h.all Value.oneCell'=true)(W:h[9]?=some v)(hn:D.length≤1000)(x:SoD):
  CL prog t6 17 [.agg h.toArray,.agg (soE x).toArray] H=some (.int .i64 (ixG (fun y=>fo x y) D 0),none):=by
 obtain⟨O,z,J,-⟩:=pushF H (.cells h true 1);obtain⟨H2,u⟩:∃K,K=O.push (.cells (soE x) true 1):=⟨_,rfl⟩
 have E:i4 H.next H H2:=by rw[u,z];exact(i4.first H _).trans (i4.push (by rw[i5];exact Nat.le_succ _))
 have S:H2.get H.next=cE h 1:=by rw[u,j6 oM,z];exact i7
 have U:H2.get (H.next+1)=cE (soE x) 1:=by rw[u,←J];exact i7
 have I:H.next≤H2.low:=by rw[u,z];exact lR
 have hr:ldC (some true) (some 3) 0 (soE x)=some (.agg (soE x).toArray):=rfl;have hf:=AL H2 H.next v D x (by have:=E.next;omega) (hv.mono (fun j hj=>E.get j hj) lR iF) oM;rw[j8 aa6 rfl _ (by simp)];exact J9 X z.symm J u.symm S U W hr hf trivial
structure R0(Rp Rt:LV→Q→Prop)(H:d9)(rb lw:Nat)(G:Nat→Prop)(r:ReD)(rs:LV)(vl w1 w2 w3:Value):Prop where
 g:H.get rb=cE (rs++[vl,w1,w2,w3]) 1
 st:StF H G Rp Rt rs r.strat
 lb:SlF H G 5 (EvF H G) vl r.labels
 so:t7 H lw 3 (v8 soE) w1 r.sorts
 sz:t7 H lw 1 (v8 inE) w2 r.size
 ho:t7 H lw 3 (v8 hoE) w3 r.how
 ap:aJ [w1,w2,w3]
 fr:∀j,G j→j<H.next∧j≠rb∧∀w∈ [w1,w2,w3],¬j9 w j
 nb:lw≤rb∧∀w∈ [w1,w2,w3],¬j9 w rb
structure Z1(rb lw:Nat)(W0:LV)(H0:d9)(W:LV)(H:d9):Prop where
 but:∀j,j<H0.next→j≠rb→(∀w∈W0,¬j9 w j)→H.get j=H0.get j
 new:∀b,(∃w∈W,j9 w b)→(∃w∈W0,j9 w b)∨H0.next≤b
 stay:i4 lw H0 H
theorem Z1.refl(rb lw:Nat)(W:LV)(H:d9):Z1 rb lw W H W H:=⟨fun _ _ _ _=>rfl,fun _ h=> .inl h,i4.refl _ _⟩
theorem Z1.trans{rb lw:Nat}{y z D:LV}{H0 H1 H2:d9}(h:Z1 rb lw y H0 z H1)(k:Z1 rb lw z H1 D H2):Z1 rb lw y H0 D H2:=by
 have W:=h.stay.next;refine⟨fun j O E I=>?_,fun b J=>?_,h.stay.trans k.stay⟩
 ·rw[k.but j oM E (fun w S q=>by
   rcases h.new j ⟨w,S,q⟩with⟨U,u,r⟩|r
   ·exact I U u r
   ·omega),h.but j O E I]
 ·rcases k.new b J with q|q
  ·exact h.new b q
  ·exact .inr oM
theorem Z1.of{rb lw:Nat}{W:LV}{H H1:d9}(u:i4 H.next H H1)(h:lw≤H.next):Z1 rb lw W H W H1:=⟨fun j y _ _=>u.get j y,fun _ h=> .inl h,u.weaken h⟩
section
variable{Rp Rt:List Value→Q→Prop}{H H1:d9}{rb lw:Nat}{G:Nat→Prop}{r:ReD}{rs:List Value}{vl w1 w2 w3:Value}
theorem R0.inl(h:R0 Rp Rt H rb lw G r rs vl w1 w2 w3){w:Value}(z:w∈ [w1,w2,w3]){b:Nat}(u:j9 w b):lw≤b∧b≠rb∧b<H.next:=by
 have y:b≠rb:=fun q=>h.nb.2 w z (q▸u);simp only[List.mem_cons,List.not_mem_nil,or_false]at z;rcases z with rfl|rfl|rfl
 ·exact⟨(h.so.lt u).1,y,(h.so.lt u).2⟩
 ·exact⟨(h.sz.lt u).1,y,(h.sz.lt u).2⟩
 ·exact⟨(h.ho.lt u).1,y,(h.ho.lt u).2⟩
theorem R0.rsl(h:R0 Rp Rt H rb lw G r rs vl w1 w2 w3):rs.length=8:=by
 obtain⟨z,D,E,y,rfl,_,_,_,u⟩:=h.st;have:=aV u;simp [this]
theorem R0.at_(h:R0 Rp Rt H rb lw G r rs vl w1 w2 w3):(rs++[vl,w1,w2,w3])[8]?=some vl∧(rs++[vl,w1,w2,w3])[9]?=some w1∧(rs++[vl,w1,w2,w3])[10]?=some w2∧(rs++[vl,w1,w2,w3])[11]?=some w3:=by
 have:=h.rsl;refine⟨?_,?_,?_,?_⟩<;>rw[List.getElem?_append_right oM,this]<;>rfl
theorem R0.keep(h:R0 Rp Rt H rb lw G r rs vl w1 w2 w3)(u:i4 H.next H H1):R0 Rp Rt H1 rb lw G r rs vl w1 w2 w3:=by
 have z:=u6 h.g;have E:=u.next;have D:∀j,G j→H1.get j=H.get j:=fun j y=>u.get j (h.fr j y).1;exact⟨(u.get rb z).trans h.g,h.st.mono D (fun _ h=>h) iF iF,h.lb.mono D (fun _ h=>h) (fun _ _ q=>w9 _ _ _ _ _ _ q D (fun _ h=>h)),h.so.keep u,h.sz.keep u,h.ho.keep u,h.ap,fun j y=>by have:=h.fr j y;exact⟨oM,this.2⟩,h.nb⟩
end
def aQ(r:ReD)(x:SoD)(size:Int)(how:Int×Int×Int):ReD×Bool:=
 if(r.sorts.any fun y=>fo x y) then(r,true) else if(decide (24<(r.sorts.length:Int))||decide (200<size)) then(r,false) else({r with sorts:=r.sorts++[x],size:=r.size++[size],how:=r.how++[how]},true)
def GN(Rp Rt:LV→Q→Prop)(rb lw:Nat)(G:Nat→Prop)(rs:LV)(vl w1 w2 w3:Value)(H:d9)(r':ReD)(b:Bool):Value→d9→Prop:=fun v H'=>v= .bool b∧∃x1 x2 x3,R0 Rp Rt H' rb lw G r' rs vl x1 x2 x3∧Z1 rb lw [w1,w2,w3] H [x1,x2,x3] H'
theorem Oc(Rp Rt:LV→Q→Prop)(H:d9)(rb lw:Nat)(G:Nat→Prop)(r:ReD)(rs:LV)(vl w1 w2 w3:Value)(hR:R0 Rp Rt H rb lw G r rs vl w1 w2 w3)(x:SoD)(size:Int)(how:Int×Int×Int)(l4:r.sorts.length≤1000)(l5:r.size.length≤1000)(l6:r.how.length≤1000):
  Ret (CL prog t6 62 [pT rb,.agg (soE x).toArray,iV size,.agg (hoE how).toArray] H) H (GN Rp Rt rb lw G rs vl w1 w2 w3 H (aQ r x size how).1 (aQ r x size how).2):=by
 obtain⟨H0,a5,n0,-⟩:=pushF H (.cells (soE x) true 1);obtain⟨H1,U⟩:∃K,K=H0.push (.cells (hoE how) true 1):=⟨_,rfl⟩
 have n1:H1.next=H.next+2:=by rw[U,i5,n0]
 have hS:i4 H.next H H1:=by rw[U,a5];exact(i4.first H _).trans (i4.push (by rw[i5];exact Nat.le_succ _))
 have g1:H1.get H.next=cE (soE x) 1:=by rw[U,j6 oM,a5];exact i7
 have g2:H1.get (H.next+1)=cE (hoE how) 1:=by rw[U,←n0];exact i7
 have k0:H.next≤H1.low:=by rw[U,a5];exact lR
 have m0:=u6 hR.g;have u:=hR.keep hS;have a4:=u.g;have b6:=u.nb.1;obtain⟨q8,q9,g6,g7⟩:=u.at_;have a8:=hR.rsl;obtain⟨X,b4⟩:∃r,r=rs++[vl,w1,w2,w3]:=⟨_,rfl⟩
 rw[←b4]at a4 q8 q9 g6 g7;have b7:ldC (some true) (some 3) 0 (soE x)=some (.agg (soE x).toArray):=rfl;have f0:ldC (some true) (some 3) 0 (hoE how)=some (.agg (hoE how).toArray):=rfl;have hh:=Xu H1 H1.next w1 r.sorts x lR u.so.sl oM;rw[j8 ad0 rfl _ (by simp)];rcases b:(r.sorts.any fun y=>fo x y)with _|_
 ·rw[b]at hh;rcases b2:decide (24<(r.sorts.length:Int))with _|_
  ·rcases b3:decide (200<size)with _|_
   ·have ha:aQ r x size how=({r with sorts:=r.sorts++[x],size:=r.size++[size],how:=r.how++[how]},true):=by rw[aQ,b,b2,b3];rfl
    rw[ha];obtain⟨v1,i1,K2,e5,b8,b1,D⟩:=u.so.push1F (P:=prog) (t:=36) (cs:=soE x) (a:=x) (by exact NQ.2.2.2.2.2.2) yO.1 yO.2.1 yO.2.2.1 oM oM rfl rfl oM oM;obtain⟨K1,c4⟩:∃K,K=H1.push (.cells (soE x) true 3):=⟨_,rfl⟩
    rw[←c4]at e5 b8;have s1:i4 H1.next H1 K1:=by rw[c4];exact i4.push lR
    have m2:=D.next;have d2:∀j,j9 w1 j→¬j9 w2 j:=u.ap 0 1 w1 w2 rfl rfl oM;have d3:∀j,j9 w1 j→¬j9 w3 j:=u.ap 0 2 w1 w3 rfl rfl oM;have d4:∀j,j9 w2 j→¬j9 w3 j:=u.ap 1 2 w2 w3 rfl rfl oM;have l1:∀j,j9 w1 j→lw≤j∧j≠rb∧j<H1.next:=fun j W=>u.inl (by simp) W;have l2:∀j,j9 w2 j→lw≤j∧j≠rb∧j<H1.next:=fun j W=>u.inl (by simp) W;have l3:∀j,j9 w3 j→lw≤j∧j≠rb∧j<H1.next:=fun j W=>u.inl (by simp) W;have g3:t7 K2 lw 1 (v8 inE) w2 r.size:=u.sz.same fun b z=>D.but b (l2 b z).2.2 (fun q=>d2 b q z);obtain⟨v2,i2,K4,e6,b9,b5,E⟩:=g3.push1F (P:=prog) (t:=29) (cs:=inE size) (a:=size) (by exact yL.2.2.2.2.2.2) ty3.1 ty3.2.1 ty3.2.2.1 oM oM rfl rfl oM oM;obtain⟨K3,c5⟩:∃K,K=K2.push (.cells (inE size) true 1):=⟨_,rfl⟩
    rw[←c5]at e6 b9;have s3:i4 K2.next K2 K3:=by rw[c5];exact i4.push lR
    have m4:=E.next;have e8:t7 K4 lw 3 (v8 hoE) w3 r.how:=(u.ho.same (H':=K2) fun b z=>D.but b (l3 b z).2.2 (fun q=>d3 b q z)).same fun b z=>E.but b (by have:=l3 b z;omega) (fun q=>d4 b q z);obtain⟨v3,i3,K6,e7,c0,d6,S⟩:=e8.push1F (P:=prog) (t:=37) (cs:=hoE how) (a:=how) (by exact XW.2.2.2.2.2.2) yN.1 yN.2.1 yN.2.2.1 oM oM rfl rfl oM oM;obtain⟨K5,c6⟩:∃K,K=K4.push (.cells (hoE how) true 3):=⟨_,rfl⟩
    rw[←c6]at e7 c0;have s5:i4 K4.next K4 K5:=by rw[c6];exact i4.push lR
    have m6:=S.next;have k1:K1.get rb=cE X 1:=(s1.get rb oM).trans a4;have k2:K2.get rb=cE X 1:=(D.but rb oM (fun q=>by have:=l1 rb q;omega)).trans a4;have k3:K3.get rb=cE X 1:=(s3.get rb oM).trans k2;have k4:K4.get rb=cE X 1:=(E.but rb oM (fun q=>by have:=l2 rb q;omega)).trans k2;have k5:K5.get rb=cE X 1:=(s5.get rb oM).trans k4;have k6:K6.get rb=cE X 1:=(S.but rb oM (fun q=>by have:=l3 rb q;omega)).trans k4;have nH:∀w∈ [w1,w2,w3],¬j9 w (H.next+1):=fun w hw q=>by have:=hR.inl hw q;omega
    have p1:=(s1.get (H.next+1) oM).trans g2;have p2:=(D.but (H.next+1) oM (nH w1 (by simp))).trans g2;have p3:=(s3.get (H.next+1) oM).trans p2;have p4:=(E.but (H.next+1) oM (nH w2 (by simp))).trans p2;obtain⟨a1,c1,e1⟩:=b1.slice;obtain⟨a2,c2,e2⟩:=b5.slice;obtain⟨a3,c3,e3⟩:=d6.slice;have h4:v1.cells.toList=[v1]:=by rw[e1];rfl
    have i0:Value.oneCell' v1=true:=by rw[e1];rfl
    have h5:v2.cells.toList=[v2]:=by rw[e2];rfl
    have j0:Value.oneCell' v2=true:=by rw[e2];rfl
    have h6:v3.cells.toList=[v3]:=by rw[e3];rfl
    have j1:Value.oneCell' v3=true:=by rw[e3];rfl
    have g4:X.length=12:=by rw[b4];simp [a8]
    obtain⟨I,c9⟩:∃r,r=rs++[vl,v1,w2,w3]:=⟨_,rfl⟩
    obtain⟨J,d0⟩:∃r,r=rs++[vl,v1,v2,w3]:=⟨_,rfl⟩
    obtain⟨a6,g0⟩:∃r,r=rs++[vl,v1,v2,v3]:=⟨_,rfl⟩
    have h7:I.length=12:=by rw[c9];simp [a8]
    have h8:J.length=12:=by rw[d0];simp [a8]
    have j2:splice X 9 [v1]=I:=by show X.set 9 v1=I;rw[b4,c9,List.set_append_right _ _ oM,a8];rfl
    have j3:splice I 10 [v2]=J:=by show I.set 10 v2=J;rw[c9,d0,List.set_append_right _ _ oM,a8];rfl
    have j4:splice J 11 [v3]=a6:=by show J.set 11 v3=a6;rw[d0,g0,List.set_append_right _ _ oM,a8];rfl
    obtain⟨K7,a9⟩:∃K,K=K6.put rb (.cells I true 1):=⟨_,rfl⟩
    have k7:K7.get rb=cE I 1:=by rw[a9];exact i8 oM
    have m7:K7.next=K6.next:=by rw[a9,j5]
    obtain⟨K8,b0⟩:∃K,K=K7.put rb (.cells J true 1):=⟨_,rfl⟩
    have k8:K8.get rb=cE J 1:=by rw[b0];exact i8 oM
    have m8:K8.next=K6.next:=by rw[b0,j5,m7]
    obtain⟨K9,a7⟩:∃K,K=K8.put rb (.cells a6 true 1):=⟨_,rfl⟩
    have k9:K9.get rb=cE a6 1:=by rw[a7];exact i8 oM
    have m9:K9.next=K6.next:=by rw[a7,j5,m8]
    have h0:bsA prog (some 59) H1 1 [(0,.agg (soE x).toArray)]=some (.slice (some ⟨H1.next,0,none⟩) 1 1,K1):=by
     rw[c4];simp only[C7,yO,C8];rfl
    have g9:bsA prog (some 3) K2 1 [(0,iV size)]=some (.slice (some ⟨K2.next,0,none⟩) 1 1,K3):=by
     rw[c5];simp only[C7,ty3,C8];rfl
    have h3:bsA prog (some 56) K4 1 [(0,.agg (hoE how).toArray)]=some (.slice (some ⟨K4.next,0,none⟩) 1 1,K5):=by
     rw[c6];simp only[C7,yN,C8];rfl
    have c7:∀Hx:d9,D3 prog .len [36] [w1] Hx=some (.int .i64 (r.sorts.length:Int),none):=fun Hx=>by
     obtain⟨aa,cc,ee⟩:=u.so.slice;rw[ee];exact J1 NQ trivial
    have e9:∀j,j≠rb→K9.get j=K6.get j:=fun j W=>by rw[a7,i9 (fun q=>W q.symm),b0,i9 (fun q=>W q.symm),a9,i9 (fun q=>W q.symm)]
    have d5:∀j,j<H1.next→j≠rb→(∀w∈ [w1,w2,w3],¬j9 w j)→K9.get j=H1.get j:=fun j W h1 h2=>by
     rw[e9 j h1,S.but j oM (h2 w3 (by simp)),E.but j oM (h2 w2 (by simp)),D.but j W (h2 w1 (by simp))]
    have g5:∀b,j9 v1 b→¬j9 w2 b∧¬j9 w3 b:=fun b z=>by
     rcases D.new b z with q|q
     ·exact⟨d2 b q,d3 b q⟩
     ·exact⟨fun r=>by have:=l2 b r;omega,fun r=>by have:=l3 b r;omega⟩
    have h9:∀b,j9 v2 b→¬j9 w3 b:=fun b z=>by
     rcases E.new b z with q|q
     ·exact d4 b q
     ·exact fun r=>by have:=l3 b r;omega
    have e4:i4 lw H1 K9:=by
     rw[a7,b0,a9];exact(((((D.stay.weaken oM).trans (E.stay.weaken oM)).trans (S.stay.weaken oM)).trans (i4.put b6)).trans (i4.put b6)).trans (i4.put b6)
    have f1:t7 K9 lw 3 (v8 soE) v1 (r.sorts++[x]):=b1.same fun b z=>by
     have:=b1.lt z;have c8:b≠rb:=by
      rcases D.new b z with q|q
      ·exact(l1 b q).2.1
      ·omega
     rw[e9 b c8,S.but b oM (g5 b z).2,E.but b oM (g5 b z).1]
    have f2:t7 K9 lw 1 (v8 inE) v2 (r.size++[size]):=b5.same fun b z=>by
     have:=b5.lt z;have c8:b≠rb:=by
      rcases E.new b z with q|q
      ·exact(l2 b q).2.1
      ·omega
     rw[e9 b c8,S.but b oM (h9 b z)]
    have f3:t7 K9 lw 3 (v8 hoE) v3 (r.how++[how]):=d6.same fun b z=>e9 b (by
      rcases S.new b z with q|q
      ·exact(l3 b q).2.1
      ·omega)
    have nw:∀b,(∃w∈ [v1,v2,v3],j9 w b)→(∃w∈ [w1,w2,w3],j9 w b)∨H1.next≤b:=fun b⟨w,hw,z⟩=>by
     simp only[List.mem_cons,List.not_mem_nil,or_false]at hw;rcases hw with rfl|rfl|rfl
     ·exact(D.new b z).imp (fun q=>⟨w1,by simp,q⟩) id
     ·exact(E.new b z).imp (fun q=>⟨w2,by simp,q⟩) (fun q=>oM)
     ·exact(S.new b z).imp (fun q=>⟨w3,by simp,q⟩) (fun q=>oM)
    have g8:aJ [v1,v2,v3]:=by
     have t1:aJ [v1,w2,w3]:=u.ap.set (k:=0) (v:=v1) (n:=H1.next) rfl D.new fun y hy b z=>(u.inl hy z).2.2;have t2:aJ [v1,v2,w3]:=t1.set (k:=1) (v:=v2) (n:=K2.next) rfl E.new fun y hy b z=>by
      simp only[List.mem_cons,List.not_mem_nil,or_false]at hy;rcases hy with rfl|rfl|rfl
      ·exact(b1.lt z).2
      ·have:=l2 b z;omega
      ·have:=l3 b z;omega
     exact t2.set (k:=2) (v:=v3) (n:=K4.next) rfl S.new fun y hy b z=>by
      simp only[List.mem_cons,List.not_mem_nil,or_false]at hy;rcases hy with rfl|rfl|rfl
      ·have:=b1.lt z;omega
      ·exact(b5.lt z).2
      ·have:=l3 b z;omega
    have sG:∀j,G j→K9.get j=H1.get j:=fun j W=>by have:=u.fr j W;exact d5 j this.1 this.2.1 this.2.2
    have O:R0 Rp Rt K9 rb lw G {r with sorts:=r.sorts++[x],size:=r.size++[size],how:=r.how++[how]} rs vl v1 v2 v3:=
     ⟨by rw[k9,g0],u.st.mono sG (fun _ h=>h) iF iF,u.lb.mono sG (fun _ h=>h) (fun _ _ q=>w9 _ _ _ _ _ _ q sG (fun _ h=>h)),f1,f2,f3,g8,fun j W=>by
      have h:=u.fr j W;refine⟨oM,h.2.1,fun w hw q=>?_⟩;rcases nw j ⟨w,hw,q⟩with⟨w',d1,r⟩|r
      ·exact h.2.2 w' d1 r
      ·omega,b6,fun w hw q=>by
      rcases nw rb ⟨w,hw,q⟩with⟨w',d1,r⟩|r
      ·exact u.nb.2 w' d1 r
      ·omega⟩
    refine J30 a5.symm n0 U.symm g1 g2 a4 q9 g6 g7 (And.intro b7 f0) (And.intro hh c7) (And.intro b2 b3) (And.intro h0 k1) (And.intro e5 b8) (And.intro k2 g9) (And.intro k3 p1) (And.intro p2 p3) (And.intro p4 e6) (And.intro b9 k4) (And.intro h3 k5) (And.intro e7 c0) (And.intro k6 h4) (And.intro i0 h5) (And.intro j0 h6) (And.intro j1 g4) (And.intro h7 h8) (And.intro j2 a9.symm) (And.intro k7 j3) (And.intro b0.symm k8) (And.intro j4 a7.symm) ?_;have l8:K9.low≤rb:=by rw[a7,A4];omega
    refine D7 (fun _ hl=>oM) ⟨rfl,v1,v2,v3,⟨O.g,O.st.mono (fun _ _=>rfl) (fun _ h=>h) iF iF,O.lb.mono (fun _ _=>rfl) (fun _ h=>h) (fun _ _ q=>w9 _ _ _ _ _ _ q (fun _ _=>rfl) (fun _ h=>h)),O.so.low _,O.sz.low _,O.ho.low _,O.ap,O.fr,O.nb⟩,fun j W h1 h2=>?_,fun b z=>(nw b z).imp id fun q=>oM,⟨?_,fun k hk q=>?_,fun j W=>?_⟩⟩
    ·show K9.get j=H.get j;rw[d5 j oM h1 h2,hS.get j W]
    ·show H.next≤K9.next;omega
    ·have:=e4.lowAll k hk oM;show k≤min H.low K9.low;omega
    ·show K9.get j=H.get j;rw[e4.get j W,hS.get j oM]
   ·have ha:aQ r x size how=(r,false):=by rw[aQ,b,b2,b3];rfl
    rw[ha];obtain⟨a1,c1,e1⟩:=u.so.slice;rw[e1]at hh q9;refine J10 a5.symm n0 U.symm g1 a4 q9 b7 hh b2 b3 ?_;exact⟨_,none,H,rfl,rfl,rfl,w1,w2,w3,hR,Z1.refl _ _ _ _⟩
  ·have ha:aQ r x size how=(r,false):=by rw[aQ,b,b2];rfl
   rw[ha];obtain⟨a1,c1,e1⟩:=u.so.slice;rw[e1]at hh q9;refine J9 a5.symm n0 U.symm g1 a4 q9 b7 hh b2 ?_;exact⟨_,none,H,rfl,rfl,rfl,w1,w2,w3,hR,Z1.refl _ _ _ _⟩
 ·rw[b]at hh;have ha:aQ r x size how=(r,true):=by rw[aQ,b];rfl
  rw[ha];refine J8 a5.symm n0 U.symm g1 a4 q9 b7 hh ?_;exact⟨_,none,H,rfl,rfl,rfl,w1,w2,w3,hR,Z1.refl _ _ _ _⟩
end Go.Proofs.YtofbhlhamfkljaaGreatDoor.Ve
namespace Go.Proofs.YtofbhlhamfkljaaGreatDoor.Ve
open Go Ve.Ab
open Go.Proofs.Tryz (prog)
set_option linter.unusedVariables false
set_option linter.unusedSimpArgs false
set_option maxRecDepth 1000000
set_option maxHeartbeats 0
noncomputable def p34:Code×Code×Code×Code×Code:=match Tryz.f34.body with
 |some (.seq a (.seq (.seq b (.block _ (.rangeFunc _ _ A B))) c))=>(a,b,A,B,c)
 |_=>(.skip,.skip,.skip,.skip,.skip)
theorem GY:Tryz.f34.body=some (.seq p34.1 (.seq (.seq p34.2.1 (.block 0 (.rangeFunc (.tmp 11) #[12,13] p34.2.2.1 p34.2.2.2.1))) p34.2.2.2.2)):=kR
abbrev vw:=cO [N 2 (bx 75 0),N 3 (bx 3 1),N 4 (.alloc 4)]
theorem ag0:d7 p34.1=some vw:=kR
abbrev vx:=cO [L 9 75 2,L 10 3 3,N 11 (c2 61 9 10 75 3)]
theorem ag1:d7 p34.2.1=some vx:=kR
abbrev kx:=cS (cO [A 5 12]) (cO [A 6 13])
theorem Xw:d7 p34.2.2.1=some kx:=kR
abbrev QE:=cS (.mix [⟨L 30 75 2,false,true,0,1⟩,m1 (L 31 75 2),m0 (N 32 (nc 31)),m0 (F 33 39 32 0),m1 (L 34 34 33),m1 (L 35 51 8),m1 (L 36 75 2),m0 (N 37 (nc 36)),m0 (F 38 39 37 2),m1 (L 39 36 38),m0 (M 40 5),m0 (N 41 (ia 36 39 40)),m1 (L 42 59 41),m1 (L 43 75 2),m0 (N 44 (nc 43)),m0 (F 45 39 44 2),m1 (L 46 36 45),m0 (M 47 6),m0 (N 48 (ia 36 46 47)),m1 (L 49 59 48),m3 (N 50 (cf 41 #[T 34,T 35,T 42,T 49] #[34,51,59,59])) 0 1,⟨L 51 3 3,false,true,0,1⟩,m2 (M 52 7) 0 1,m2 (M 53 5) 0 1,m2 (M 54 6) 0 1,m2 (N 55 (.build 56 #[(0,T 52),(1,T 53),(2,T 54)])) 0 1,m3 (N 56 (cf 62 #[T 30,T 50,T 51,T 55] #[75,59,3,56])) 1 2,m2 (N 57 (nt' 4 56)) 2 2]) (cC (T 57) (cS (cO [V (.store 4 (T 4) B0)]) .ret) .skip)
abbrev QF:=cS (cS (cO [L 24 75 2,L 25 51 8,M 26 5,M 27 6,N 28 (cf 40 #[T 24,T 25,T 26,T 27] #[75,51,3,3]),N 29 (nt' 4 28)]) (cC (T 29) (.exit 3) .skip)) QE
abbrev QH:=cS (cB 3 (cS (cO [M 21 19,N 22 (ia 35 17 19),L 23 51 22,N 8 (.alloc 51),A 7 21,V (st' 51 8 23)]) QF)) (cO [N 58 (bk .add 3 19 1 3),M 19 58])
abbrev Fz:=cS (cO [N 20 (bo .lss 3 19 18 3)]) (cS (cC (T 20) .skip (.exit 2)) QH)
abbrev ky:=cB 1 (cS (cO [L 14 75 2,N 15 (nc 14),F 16 39 15 1,L 17 35 16,N 18 (ln 17 35),N 19 (.move (K 0))]) (cW 2 Fz))
theorem Xx:d7 p34.2.2.2.1=some ky:=kR
abbrev nh:=cS (cO [V (.store 4 (T 4) B1)]) .ret
theorem ag2:d7 p34.2.2.2.2=some nh:=kR
theorem Mz:prog.funcs[34]?=some Tryz.f34:=kR
theorem ah2:(F8 Tryz.f34.ntmps p34.1&&F8 Tryz.f34.ntmps p34.2.1&&F8 Tryz.f34.ntmps p34.2.2.1&&F8 Tryz.f34.ntmps p34.2.2.2.1&&F8 Tryz.f34.ntmps p34.2.2.2.2&&E5 p34.2.2.1&&E5 p34.2.2.2.1&&decide (12<Tryz.f34.ntmps)&&decide (13<Tryz.f34.ntmps))=true:=kR
theorem Xp:fnA prog 34=none:=kR
theorem ah1:Tryz.f34.ntmps=59:=kR
theorem ah6:Tryz.f34.results.toList=[.cell 4 4]:=kR
end Go.Proofs.YtofbhlhamfkljaaGreatDoor.Ve
namespace Go.Proofs.YtofbhlhamfkljaaGreatDoor.Ve
open Go Go.RowKit
open Go.Proofs.Tryz (prog)
set_option linter.unusedVariables false
set_option linter.unusedSimpArgs false
set_option maxRecDepth 1000000
set_option maxHeartbeats 0
theorem lH(s:StD)(e:EvD)(h u:SoD):∀(l:List (PrD×Int))(bs:List Bool),(cn s e h u l bs).length=bs.length
 |[],bs=>rfl
 |x::l,bs=>by
  rw[cn,lH s e h u l,gV,ph];simp
theorem Cj(s:StD)(e:EvD)(h u:SoD){n:Nat}(z:(n:Int)=y9 s.progs):fm (Y8 s e h u) n:=fun _=>by
 show(rU (cn s e h u (s.progs.zip s.base) (List.replicate (y9 s.progs).toNat false))).size=n;have y:∀l:List Bool,(rU l).size=l.length:=fun l=>by
  show((l.map fun b=>if b then(1:UInt8) else 0).toArray).size=_;simp
 rw[y,lH,List.length_replicate];omega
structure WfR(r:ReD)(n:Nat):Prop where
 n0:(n:Int)=y9 r.strat.progs
 st:WfS r.strat n
 so:∀x∈r.sorts,fm x n
 at_:∀e∈r.labels,e.attrs.length≤1000000
 sz:∀p∈r.strat.progs,p.ts.length≤1000000∧p.ed.length≤1000000∧0≤p.st∧p.st≤1000000
 l1:r.sorts.length≤25
 l2:r.size.length=r.sorts.length
 l3:r.how.length=r.sorts.length
 ll:r.labels.length≤1000
 l0:1≤r.sorts.length
 sb:∀x∈r.size,0≤x∧x≤200
theorem fy(r:ReD)(x:SoD)(size:Int)(how:Int×Int×Int):(aQ r x size how).1.strat=r.strat∧(aQ r x size how).1.labels=r.labels∧r.size<+:(aQ r x size how).1.size∧r.sorts<+:(aQ r x size how).1.sorts:=by
 unfold aQ;split
 ·exact⟨rfl,rfl,List.prefix_rfl,List.prefix_rfl⟩
 ·split
  ·exact⟨rfl,rfl,List.prefix_rfl,List.prefix_rfl⟩
  ·exact⟨rfl,rfl,List.prefix_append _ _,List.prefix_append _ _⟩
theorem WfR.add{r:ReD}{n:Nat}(h:WfR r n){x:SoD}(D:fm x n){size:Int}(E:0≤size)(how:Int×Int×Int):WfR (aQ r x size how).1 n:=by
 unfold aQ;split
 ·exact h
 ·split
  ·exact h
  ·rename_i z;simp only[Bool.or_eq_true,decide_eq_true_eq,not_or]at z;refine⟨h.n0,h.st,fun y u=>?_,h.at_,h.sz,?_,?_,?_,h.ll,?_,fun y u=>?_⟩
   ·rcases List.mem_append.1 u with q|q
    ·exact h.so y q
    ·rw[List.mem_singleton.1 q];exact D
   ·simp only[List.length_append,List.length_singleton];omega
   ·simp only[List.length_append,List.length_singleton];rw[h.l2]
   ·simp only[List.length_append,List.length_singleton];rw[h.l3]
   ·simp only[List.length_append,List.length_singleton];omega
   ·rcases List.mem_append.1 u with q|q
    ·exact h.sb y q
    ·rw[List.mem_singleton.1 q];omega
def soZ:SoD:=(false,false,eB)
def Q0(size a b:Int):List EvD→Nat→ReD→ReD×Bool
 |[],_,r=>(r,true)
 |e::l,i,r=>
  if iH r.sorts e.kind a b then
   if(aQ r (Y8 r.strat e (r.sorts.getD a.toNat soZ) (r.sorts.getD b.toNat soZ)) size (i,a,b)).2 then Q0 size a b l (i+1) (aQ r (Y8 r.strat e (r.sorts.getD a.toNat soZ) (r.sorts.getD b.toNat soZ)) size (i,a,b)).1
   else((aQ r (Y8 r.strat e (r.sorts.getD a.toNat soZ) (r.sorts.getD b.toNat soZ)) size (i,a,b)).1,false)
  else Q0 size a b l (i+1) r
structure yU(Hb:d9)(rb lw:Nat)(W0:LV)(b2 b3 b4:Nat)(size:Int):Prop where
 g2:Hb.get b2=cE [pT rb] 1
 g3:Hb.get b3=cE [iV size] 1
 g4:∃v,Hb.get b4=cE [v] 1
 ne:∀j,(j=b2∨j=b3∨j=b4)→lw≤j∧j≠rb∧∀w∈W0,¬j9 w j
theorem yU.at_{u:d9}{E O:Nat}{I:LV}{y z D:Nat}{size:Int}(h:yU u E O I y z D size){W:LV}{H:d9}(S:Z1 E O I u W H):H.get y=cE [pT E] 1∧H.get z=cE [iV size] 1∧∃v,H.get D=cE [v] 1:=by
 obtain⟨v,J⟩:=h.g4;have k:∀j,(j=y∨j=z∨j=D)→j<u.next→H.get j=u.get j:=fun j U X=>by
  have:=h.ne j U;exact S.but j X this.2.1 this.2.2
 exact⟨(k y (.inl rfl) (u6 h.g2)).trans h.g2,(k z (.inr (.inl rfl)) (u6 h.g3)).trans h.g3,v,(k D (.inr (.inr rfl)) (u6 J)).trans J⟩
theorem qU(Hs:d9)(lo K:Nat)(rb lw:Nat)(G:Nat→Prop)(rs:LV)(vl:Value)(W0:LV)(Hb:d9)(b2 b3 b4:Nat)(size a b:Int)(h0:0≤size)(n:Nat)(a5:yU Hb rb lw W0 b2 b3 b4 size)(m5:lo≤lw)(g8:∀j,j<lo→Hb.get j=Hs.get j) (va:Option Addr) (vc:Nat) (I:List EvD) (e5:vl= .slice va I.length vc) (O:ReD×Bool):
  ∀kk e H,(∃(i:Nat)(r:ReD)(U W X:Value),kk=I.length-i∧i≤I.length∧e.get 2=pT b2∧e.get 3=pT b3∧e.get 4=pT b4∧e.get 5=iV a∧e.get 6=iV b∧e.get 17=vl∧e.get 18=iV I.length∧e.get 19=iV i∧
    r.labels=I∧R0 (QR Hs lo K false) (QR Hs lo K true) H rb lw G r rs vl U W X∧Z1 rb lw W0 Hb [U,W,X] H∧WfR r n∧Q0 size a b (I.drop i) i r=O)→
  u9 (LE prog t6 (.loop Fz) e H) (fun o e H=>(o= .exit 2∧O.2=true∧∃U W X,R0 (QR Hs lo K false) (QR Hs lo K true) H rb lw G O.1 rs vl U W X∧Z1 rb lw W0 Hb [U,W,X] H∧WfR O.1 n)∨(o= .ret∧O.2=false∧H.get b4=cE [.bool false] 1∧i4 lw Hb H)):=by
 refine j7 _ _ ?_;rintro kk e H ⟨i,r,U,W,X,hk,hi,f2,f3,f4,f5,f6,f17,f18,f19,a6,hR,hT,u,y⟩;obtain⟨g2,g3,w4,g4⟩:=a5.at_ hT;have h3:=u.ll;rw[a6]at h3;rcases bd:decide ((i:Int)<I.length)with _|_
 ·have g7:=dF bd;have:I.drop i=[]:=dN oM;rw[this,Q0]at y;refine J3 f19 f18 bd ?_;exact l7 (.inl ⟨rfl,by rw[←y],U,W,X,by rw[←y];exact hR,hT,by rw[←y];exact u⟩)
 have g7:=dT bd;have h2:i<I.length:=oM;have b9:=hR.lb;rw[a6,e5]at b9;obtain⟨ev,nb,o,cs,own,el,hx,hd,rfl,l5,hg,m4,a7,hc,d1⟩:=b9.row (i:=i) h2;rw[hd,Q0]at y;have nt:(i:Int).toNat=i:=tN i;have g9:ev∈r.labels:=by rw[a6];exact List.mem_of_getElem? hx
 obtain⟨av,b5,g6⟩:=id d1;obtain⟨aa,ac,rfl⟩:=g6.slice;have b7:el.length=5:=by rw[b5];rfl
 have b1:el.all Value.oneCell'=true:=by rw[b5];rfl
 have f0:el[0]?=some (.int .i64 ev.kind):=by rw[b5];rfl
 have S:=f17;rw[e5]at S;obtain⟨H1,a3,n1,-⟩:=pushE H (.cells [iV 0,.string eB,.string eB,nS,.string eB] true 1);have c8:el.take 5=el:=List.take_of_length_le oM;have g1:H1.get H.next=cE [iV 0,.string eB,.string eB,nS,.string eB] 1:=by rw[a3];exact i7
 obtain⟨H2,a1⟩:∃K,K=H1.put H.next (.cells el true 1):=⟨_,rfl⟩
 have n2:H2.next=H.next+1:=by rw[a1,j5,n1]
 have sp:splice [iV 0,.string eB,.string eB,nS,.string eB] 0 el=el:=by rw[b5];rfl
 have hS:i4 H.next H H2:=by rw[a1,a3];exact(i4.push lR).trans (i4.put lR)
 have ge:H2.get H.next=cE el 1:=by rw[a1];exact i8 oM
 have D:=hR.keep hS;have a2:=D.g;have m8:=u6 hR.g;have m6:=hR.nb.1;have l2:b2<H.next:=u6 g2;have l3:b3<H.next:=u6 g3;have l4:b4<H.next:=u6 g4;have c4:=(hS.get b2 l2).trans g2;have d0:=(hS.get b3 l3).trans g3;have k7:=(hS.get b4 l4).trans g4;obtain⟨q8,q9,i3,j0⟩:=D.at_;have h6:=hR.rsl;have c6:Z1 rb lw W0 Hb [U,W,X] H2:=hT.trans (Z1.of hS oM);have b0:=GG H2 rb _ true 1 a2 r.sorts U D.so.sl q9 el ev b7 b1 f0 a b;have c3:∀(e':Env)(H':d9)(r':ReD)(y1 y2 y3:Value),e'.get 2=pT b2→e'.get 3=pT b3→e'.get 4=pT b4→e'.get 5=iV a→e'.get 6=iV b→e'.get 17=vl→e'.get 18=iV I.length→e'.get 19=iV (i+1:Nat)→
   r'.labels=I→R0 (QR Hs lo K false) (QR Hs lo K true) H' rb lw G r' rs vl y1 y2 y3→Z1 rb lw W0 Hb [y1,y2,y3] H'→WfR r' n→Q0 size a b (I.drop (i+1)) (i+1) r'=O→
   ∃(i:Nat)(r:ReD)(U W X:Value),kk-1=I.length-i∧i≤I.length∧e'.get 2=pT b2∧e'.get 3=pT b3∧e'.get 4=pT b4∧e'.get 5=iV a∧e'.get 6=iV b∧e'.get 17=vl∧e'.get 18=iV I.length∧e'.get 19=iV i∧
    r.labels=I∧R0 (QR Hs lo K false) (QR Hs lo K true) H' rb lw G r rs vl U W X∧Z1 rb lw W0 Hb [U,W,X] H'∧WfR r n∧Q0 size a b (I.drop i) i r=O:=
  fun e' H' r' y1 y2 y3 p1 p2 p3 p4 p5 p6 p7 p8 p9 h8 h9 i0 i1=>⟨i+1,r',y1,y2,y3,oM,oM,p1,p2,p3,p4,p5,p6,p7,p8,p9,h8,h9,i0,i1⟩
 have nx:((i:Int)+1)=((i+1:Nat):Int):=oM;obtain⟨j1,J⟩:∃r,r=rs++[vl,U,W,X]:=⟨_,rfl⟩
 have e8:ldC (some true) (some 8) 0 j1=some (.agg rs.toArray):=by
  rw[eX _ _ _ (by rw[J];simp [h6]),J,List.drop_zero,List.take_append_of_le_length oM,List.take_of_length_le oM]
 rw[←J]at a2 q8 q9 i3 j0;rcases bm:iH r.sorts ev.kind a b with _|_
 ·rw[bm]at b0 y;simp only[Bool.false_eq_true,if_false]at y;refine J21 f2 f5 f6 S f18 f19 bd hg nt a7 a3.symm g1 b7 b1 c8 sp a1.symm ge c4 b0 @wrap_small ?_;exact i6 (kk-1) oM (c3 _ _ r U W X f2 f3 f4 f5 f6 f17 f18 (by rw[←nx];rfl) a6 D c6 u y)
 ·rw[bm]at b0 y;simp only[if_true]at y;have c9:=bm;simp only[iH,knB,Bool.and_eq_true,decide_eq_true_eq]at c9;obtain⟨⟨⟨l6,l8⟩,m0,m1⟩,_⟩:=c9;have b6:=D.so.sl;have j4:=b6;obtain⟨sa,sc,rfl⟩:=b6.slice;obtain⟨fi,h7,oa,k5,k0,f1,e6,_,e1,k8,c7,j2,a8,m2,h1⟩:=b6.row (i:=a.toNat) oM;obtain⟨ne,m9,ob,k6,k1,g0,e7,_,e2,k9,d5,j3,a9,m3,e4⟩:=b6.row (i:=b.toNat) oM;obtain rfl:f1=soE fi:=h1;obtain rfl:g0=soE ne:=e4;subst e1;cases e2;rw[c7]at d5;cases d5;have d4:r.sorts.getD a.toNat soZ=fi:=by rw[List.getD_eq_getElem?_getD,e6];rfl
  have d6:r.sorts.getD b.toNat soZ=ne:=by rw[List.getD_eq_getElem?_getD,e7];rfl
  rw[d4,d6]at y;have e3:=nu Hs lo K r.strat ev fi ne G H2 rs el D.st (w9 _ _ _ _ _ _ d1 (fun j hj=>hS.get j (hR.fr j hj).1) (fun _ h=>h)) (fun j hj=>(D.fr j hj).1) (fun j hj=>by rw[c6.stay.get j oM];exact g8 j hj) (by have:=u6 a2;omega) n u.n0 u.st (u.so fi (List.mem_of_getElem? e6)) (u.so ne (List.mem_of_getElem? e7)) (u.at_ ev g9) u.sz;have d3:=Oc (QR Hs lo K false) (QR Hs lo K true) H2 rb lw G r rs vl (.slice (some ⟨h7,oa,none⟩) r.sorts.length sc) W X D (Y8 r.strat ev fi ne) size (i,a,b) (by have:=u.l1;omega) (by have:=u.l1;have:=u.l2;omega) (by have:=u.l1;have:=u.l3;omega);obtain⟨n3,m7,H3,E,b8,h4,y1,y2,y3,d2,g5⟩:=d3;subst h4;have a4:=c6.trans g5;have c0:=u.add (Cj r.strat ev fi ne u.n0) h0 (i,a,b);obtain⟨i2,e9,_,_⟩:=fy r (Y8 r.strat ev fi ne) size (i,a,b);obtain⟨z,hz⟩:∃z,z=aQ r (Y8 r.strat ev fi ne) size (i,a,b):=⟨_,rfl⟩
  rw[←hz]at E d2 c0 i2 e9 y;obtain⟨k2,k3,w5,k4⟩:=a5.at_ a4;rcases bz:z.2 with _|_
  ·rw[bz]at E y;simp only[Bool.false_eq_true,if_false]at y;have h5:b4<H3.next:=u6 k4;obtain⟨H4,c5⟩:∃K,K=H3.put b4 (.cells [.bool false] true 1):=⟨_,rfl⟩
   have e4:=(a5.ne b4 (.inr (.inr rfl))).1;refine J30 f2 f3 f4 f5 f6 S f18 f19 e8 bd hg nt a7 a3.symm g1 b7 b1 c8 sp a1.symm ge c4 d0 b0 a2 q9 (And.intro c7 a8) (And.intro a9 e3) (And.intro E b8) (And.intro k4 c5.symm) ?_;refine A6 (.inr ⟨rfl,by rw[←y],by rw[c5];exact i8 h5,?_⟩);rw[c5];exact a4.stay.trans (i4.put oM)
  ·rw[bz]at E y;simp only[if_true]at y;refine J30 f2 f3 f5 f6 S f18 f19 e8 bd hg nt a7 a3.symm g1 b7 b1 c8 sp a1.symm ge c4 d0 b0 a2 q9 c7 a8 a9 (And.intro e3 E) (And.intro b8 @wrap_small) ?_;exact i6 (kk-1) oM (c3 _ _ z.1 y1 y2 y3 f2 f3 f4 f5 f6 f17 f18 (by rw[←nx];rfl) (by rw[e9,a6]) d2 a4 c0 y)
end Go.Proofs.YtofbhlhamfkljaaGreatDoor.Ve
namespace Go.Proofs.YtofbhlhamfkljaaGreatDoor.Ve
open Go
set_option linter.unusedVariables false
set_option linter.unusedSimpArgs false
set_option maxHeartbeats 0
theorem kr{i:Nat}{p q:Nat→Bool}:∀m,i<m→(∀j,j<m→j≠i→p j=q j)→p i=true→q i=false→(List.range m).countP p=(List.range m).countP q+1:=by
 intro m;induction m with
 |zero=>intro h;omega
 |succ m I=>
  intro J h z D;rw[List.range_succ,List.countP_append,List.countP_append,List.countP_singleton,List.countP_singleton];by_cases y:i=m
  ·subst y;have:(List.range i).countP p=(List.range i).countP q:=List.countP_congr fun x E=>by rw[h x (by have:=List.mem_range.1 E;omega) (by have:=List.mem_range.1 E;omega)]
   rw[this,z,D];rfl
  ·rw[I oM (fun j O u=>h j oM u) z D,h m oM (fun q=>y q.symm)];omega
def unl(m:Nat)(L:Array Bool):Nat:=(List.range m).countP fun i=> !L.getD i true
def X6(md:Region.Mode)(ops:Array Oper)(i:Nat):List Nat:=((ops[i]?).map fun o=>(o.after.toList.filter fun e=>Region.binds md e).map (·.on)).getD []
theorem X4{md:Region.Mode}{ops:Array Oper}{L:Array Bool}{i:Nat}:i∈Region.ready md ops L↔i<ops.size∧L.getD i true=false∧∀d∈X6 md ops i,L.getD d false=true:=by
 unfold Region.ready X6;rw[List.mem_filter,List.mem_range]
 constructor
 ·rintro⟨h,u⟩;simp only[Bool.and_eq_true,Bool.not_eq_true']at u;refine⟨h,u.1,fun d z=>?_⟩;have E:ops[i]?=some ops[i]:=Array.getElem?_eq_getElem h;rw[E]at u z;simp only[Option.map_some,Option.getD_some,List.mem_map,List.mem_filter]at u z;obtain⟨e,⟨D,y⟩,rfl⟩:=z;have:=Array.all_eq_true'.1 u.2 e (by simpa using D);simp only[y,Bool.not_true,Bool.false_or]at this;exact this
 ·rintro⟨h,I,u⟩;refine⟨h,?_⟩;have E:ops[i]?=some ops[i]:=Array.getElem?_eq_getElem h;rw[E]at u ⊢;simp only[Option.map_some,Option.getD_some,Bool.and_eq_true,Bool.not_eq_true']at u ⊢;refine⟨I,Array.all_eq_true'.2 fun e D=>?_⟩;by_cases y:Region.binds md e=true
  ·rw[u e.on (List.mem_map.2 ⟨e,List.mem_filter.2 ⟨by simpa using D,y⟩,rfl⟩)];simp
  ·simp [y]
theorem R5(L:Array Bool)(i j:Nat)(d:Bool):(L.setIfInBounds i true).getD j d=if i=j then(if j<L.size then true else d) else L.getD j d:=by
 rw[Array.getD_eq_getD_getElem?,Array.getElem?_setIfInBounds,Array.getD_eq_getD_getElem?];by_cases h:i=j
 ·subst h;by_cases u:i<L.size
  ·simp [u]
  ·simp [u]
 ·simp [h]
theorem aq{L:Array Bool}{i:Nat}(h:i<L.size)(a b:Bool):L.getD i a=L.getD i b:=by
 rw[Array.getD_eq_getD_getElem?,Array.getD_eq_getD_getElem?,Array.getElem?_eq_getElem h];rfl
structure kc(md:Region.Mode)(ops pre:Array Oper):Prop where
 le:pre.size≤ops.size
 pos:0<pre.size
 same:∀i:Nat,i<pre.size→ops[i]?=pre[i]?
 plain:∀(i:Nat)(o:Oper),pre[i]?=some o→o.guard=none
 back:∀i,i<pre.size→∀d∈X6 md ops i,d<i
 used:∀i,i+1<pre.size→∃j,i<j∧j<pre.size∧i∈X6 md ops j
 later:∀i,pre.size≤i→i<ops.size→∃d,d∈X6 md ops i∧pre.size≤d+1
structure vX(ops pre:Array Oper)(md:Region.Mode)(L L':Array Bool):Prop where
 s1:L.size=ops.size
 s2:L'.size=pre.size
 eq:∀i,i<pre.size→L.getD i true=L'.getD i true
 off:∀i,pre.size≤i→i<ops.size→L.getD i true=false
 cl:∀i,i<pre.size→L'.getD i true=true→∀d∈X6 md ops i,L'.getD d true=true
section
variable{F:Fence}{n:Nat}{P:Program}{ops pre:Array Oper}{md:Region.Mode}{Q Q':Exit→Act→World→Prop}
theorem mY(h:kc md ops pre){L I:Array Bool}(r:vX ops pre md L I)(W:I.getD (pre.size-1) true=false){i:Nat}:i∈Region.ready md ops L↔i∈Region.ready md pre I:=by
 have hp:=h.pos;have X:=h.le;have w:∀i,i<pre.size→X6 md ops i=X6 md pre i:=fun i y=>by unfold X6;rw[h.same i y]
 rw[X4,X4]
 constructor
 ·rintro⟨z,J,E⟩;by_cases y:i<pre.size
  ·refine⟨y,(r.eq i y)▸J,fun d u=>?_⟩;rw[←w i y]at u;have O:=h.back i y d u;have:=E d u;rw[aq (by rw[r.s1];omega) false true,r.eq d oM]at this;rw[aq (by rw[r.s2];omega) false true];exact this
  ·obtain⟨d,u,U⟩:=h.later i oM z;have:=E d u
   exfalso
   by_cases S:d<pre.size
   ·have e:d=pre.size-1:=oM;rw[aq (by rw[r.s1];omega) false true,r.eq d S,e,W]at this;cases this
   ·by_cases D:d<ops.size
    ·rw[aq (by rw[r.s1];exact D) false true,r.off d oM D]at this;cases this
    ·rw[Array.getD_eq_getD_getElem?,Array.getElem?_eq_none (by rw[r.s1];omega)]at this;cases this
 ·rintro⟨z,J,E⟩;refine⟨oM,(r.eq i z).symm▸J,fun d u=>?_⟩;have O:=h.back i z d u;rw[w i z]at u;have:=E d u;rw[aq (by rw[r.s2];omega) false true]at this;rw[aq (by rw[r.s1];omega) false true,r.eq d oM];exact this
theorem vq(h:kc md ops pre){L u:Array Bool}(r:vX ops pre md L u)(E:u.getD (pre.size-1) true=true):∀i,i<pre.size→u.getD i true=true:=by
 have:∀k i,i+k+1=pre.size→u.getD i true=true:=by
  intro k;induction k using Nat.strongRecOn with
  |ind k I=>
   intro i D;by_cases O:i+1=pre.size
   ·have:i=pre.size-1:=oM;rw[this];exact E
   ·obtain⟨j,J,y,z⟩:=h.used i oM;exact r.cl j y (I (pre.size-1-j) oM j oM) i z
 exact fun i D=>this (pre.size-1-i) i oM
theorem mX(h:kc md ops pre){L y:Array Bool}(r:vX ops pre md L y)(S:y.getD (pre.size-1) true=false):∃i,i∈Region.ready md pre y:=by
 have hp:=h.pos;have:∀k i,i≤k→i<pre.size→y.getD i true=false→∃j,j∈Region.ready md pre y:=by
  intro k;induction k with
  |zero=>
   intro i O u E;refine⟨i,X4.2 ⟨u,E,fun d z=>?_⟩⟩;have:=h.back i u d (by unfold X6 at z ⊢;rw[h.same i u];exact z);omega
  |succ k W=>
   intro i O u E;by_cases I:∃j,j<i∧y.getD j true=false
   ·obtain⟨j,X,J⟩:=I;exact W j oM oM J
   ·refine⟨i,X4.2 ⟨u,E,fun d z=>?_⟩⟩;have D:=h.back i u d (by unfold X6 at z ⊢;rw[h.same i u];exact z);rw[aq (by rw[r.s2];omega) false true];cases U:y.getD d true with
    |true=>rfl
    |false=>exact absurd ⟨d,D,U⟩ I
 exact this (pre.size-1) (pre.size-1) lR oM S
theorem Hp(h:kc md ops pre)(k:Nat)(Lm:Array Bool)(a4:∀L z,vX ops pre md L z→(∀i,i<pre.size→z.getD i true=true)→L=Lm)
  (I:∀c a w,Q' (.panic c) a w→Q (.panic c) a w) (a3:∀a w,Q' .normal a w→wpAnyIn F n P md ops Q k Lm a w) (W:LetsOut Q'→LetsOut Q):
  ∀u L z a w,vX ops pre md L z→unl pre.size z=u→wpAnyIn F n P md pre Q' u z a w→wpAnyIn F n P md ops Q (u+k) L a w:=by
 have hp:=h.pos;intro u;induction u with
 |zero=>
  intro L z a w r hu hw;have hl:z.getD (pre.size-1) true=true:=by
   cases X:z.getD (pre.size-1) true with
   |true=>rfl
   |false=>
    obtain⟨i,hi⟩:=mX h r X;rw[hw.1]at hi;cases hi
  rw[Nat.zero_add,a4 L z r (vq h r hl)];exact a3 a w hw.2
 |succ u ih=>
  intro L z a w r hu hw;have hl:z.getD (pre.size-1) true=false:=by
   cases X:z.getD (pre.size-1) true with
   |false=>rfl
   |true=>
    have:unl pre.size z=0:=by
     unfold unl;rw[List.countP_eq_zero];intro i hi;rw[vq h r X i (List.mem_range.1 hi)];decide
    omega
  obtain⟨i0,a6⟩:=mX h r hl;rw[show u+1+k=(u+k)+1 from oM];refine⟨fun q=>?_,fun i hi=>?_⟩
  ·have:=(mY h r hl).2 a6;rw[q]at this;cases this
  ·have a1:=(mY h r hl).1 hi;obtain⟨O,a7,a8⟩:=X4.1 a1;have y:=hw.2 i a1;have ho:pre[i]?=some pre[i]:=Array.getElem?_eq_getElem O;have b1:ops[i]?=some pre[i]:=(h.same i O).trans ho;have hg:=h.plain i _ ho;have r2:vX ops pre md (L.setIfInBounds i true) (z.setIfInBounds i true):=by
    refine⟨by simp [r.s1],by simp [r.s2],fun j S=>?_,fun j S a9=>?_,fun j S X d hd=>?_⟩
    ·rw[R5,R5,r.s1,r.s2,if_pos (show j<ops.size by have:=h.le;omega),if_pos S,r.eq j S]
    ·rw[R5,if_neg oM];exact r.off j S a9
    ·have b4:=h.back j S d hd;rw[R5]at X ⊢;by_cases a2:i=j
     ·subst a2;have a5:d∈X6 md pre i:=by unfold X6 at hd ⊢;rw[←h.same i S];exact hd
      have:=a8 d a5;rw[aq (by rw[r.s2];omega) false true]at this;by_cases E:i=d
      ·rw[if_pos E,if_pos (by rw[r.s2];omega)]
      ·rw[if_neg E];exact this
     ·rw[if_neg a2]at X;have:=r.cl j S X d hd;by_cases E:i=d
      ·rw[if_pos E,if_pos (by rw[r.s2];omega)]
      ·rw[if_neg E];exact this
   have U:unl pre.size (z.setIfInBounds i true)=u:=by
    have:=kr (i:=i) (p:=fun j=> !z.getD j true) (q:=fun j=> !(z.setIfInBounds i true).getD j true) pre.size O (fun j S b0=>by
     simp only[R5];rw[if_neg (fun q=>b0 q.symm)]) (by show(!z.getD i true)=true;rw[a7];rfl) (by show(!(z.setIfInBounds i true).getD i true)=false;rw[R5,if_pos rfl,if_pos (by rw[r.s2];exact O)];rfl)
    unfold unl at hu ⊢;omega
   unfold wpOpIn at y ⊢;simp only[ho,b1]at y ⊢;have b2:∀v,Region.wanted pre[i] v=true:=fun v=>by unfold Region.wanted;rw[hg]
   simp only[b2,if_true]at y ⊢;refine⟨y.1,?_⟩;have D:=y.2;generalize (pre[i].semAt F.round a.eval).run P w=res at D ⊢;cases res with
   |ok x w'=>
    cases x<;>simp only[Oper.uponIn]at D ⊢ <;>
     first
      |exact ih _ _ _ _ r2 U D
      |exact⟨D.1,CallsIn.mono D.2 (fun e b3 J=>by cases e<;>first|exact ih _ _ _ _ r2 U J|exact I _ _ _ J|exact W J)⟩
      |exact⟨D.1,RowsIn.mono D.2 (fun _ _ J=>ih _ _ _ _ r2 U J)⟩
      |exact⟨D.1,RoundIn.mono D.2 (fun e b3 J=>by cases e<;>first|exact ih _ _ _ _ r2 U J|exact I _ _ _ J|exact W J)⟩
   |halt x w'=>cases x<;>simp only[Oper.uponIn]at D ⊢ <;>first|exact I _ _ _ D|exact D
end
structure uX(md:Region.Mode)(pre:Array Oper):Prop where
 plain:∀(i:Nat)(o:Oper),pre[i]?=some o→o.guard=none∧o.dst.isSome=true∧(∀cs b,o.op≠ .select cs b)∧(∀c,o.op≠ .defer c)
 apart:∀(i j:Nat)(oi oj:Oper),pre[i]?=some oi→pre[j]?=some oj→i≠j→oi.dst≠oj.dst
 reads:∀(i j:Nat)(oi oj:Oper)(t:Tmp),pre[i]?=some oi→pre[j]?=some oj→Operand.tmp t∈oi.op.operands→oj.dst=some t→j∈X6 md pre i
structure yX(pre:Array Oper)(a0 af:Act)(L:Array Bool)(a:Act):Prop where
 sz:L.size=pre.size
 ts:a.tmps.size=a0.tmps.size
 df:a.defers=a0.defers
 on:∀(j:Nat)(o:Oper)(t:Tmp),pre[j]?=some o→o.dst=some t→L.getD j true=true→a.tmps.getD t undef=af.tmps.getD t undef
 off:∀t,(∀(j:Nat)(o:Oper),pre[j]?=some o→o.dst=some t→L.getD j true=false)→a.tmps.getD t undef=a0.tmps.getD t undef
theorem uZ{a b:Act}(h:a.tmps.size=b.tmps.size)(u:a.defers=b.defers)(y:∀t,a.tmps.getD t undef=b.tmps.getD t undef):a=b:=by
 obtain⟨z,I⟩:=a;obtain⟨O,J⟩:=b;simp only at h u y;subst u
 congr 1
 apply Array.ext h;intro i D E;have:=y i;rw[Array.getD_eq_getD_getElem?,Array.getD_eq_getD_getElem?,Array.getElem?_eq_getElem D,Array.getElem?_eq_getElem E]at this;exact this
theorem Ck{n:Nat}{P:Program}{pre:Array Oper}{md:Region.Mode}{Q:Exit→Act→World→Prop}(h:uX md pre){a0 af:Act}{w:World}(hs:af.tmps.size=a0.tmps.size)(hd:af.defers=a0.defers)
  (U:∀t,(∀(j:Nat)(o:Oper),pre[j]?=some o→o.dst≠some t)→af.tmps.getD t undef=a0.tmps.getD t undef) (a7:∀(j:Nat)(o:Oper)(t:Tmp),pre[j]?=some o→o.dst=some t→t<a0.tmps.size)
  (a1:∀(i:Nat)(o:Oper)(t:Tmp),pre[i]?=some o→o.dst=some t→(execOp af.eval o).run P w= .ok (.value (af.tmps.getD t undef)) w) (hQ:Q .normal af w)
  (X:∀L:Array Bool,L.size=pre.size→Region.ready md pre L=[]→∀i,i<pre.size→L.getD i true=true):
  ∀z L a,yX pre a0 af L a→unl pre.size L≤z→wpAnyIn Fence.wide n P md pre Q z L a w:=by
 have done:∀L a,yX pre a0 af L a→(∀i,i<pre.size→L.getD i true=true)→a=af:=fun L a r S=>by
  refine uZ (r.ts.trans hs.symm) (r.df.trans hd.symm) fun t=>?_;by_cases E:∃(j:Nat)(o:Oper),pre[j]?=some o∧o.dst=some t
  ·obtain⟨j,o,y,D⟩:=E;exact r.on j o t y D (S j (Array.getElem?_eq_some_iff.1 y).1)
  ·rw[U t (fun j o y D=>E ⟨j,o,y,D⟩)];exact r.off t fun j o y D=>absurd ⟨j,o,y,D⟩ E
 intro z;induction z with
 |zero=>
  intro L a r hu;have S:∀i,i<pre.size→L.getD i true=true:=fun i hi=>by
   have h0:unl pre.size L=0:=oM;unfold unl at h0;rw[List.countP_eq_zero]at h0;have:=h0 i (List.mem_range.2 hi)
   simpa using this
  refine⟨?_,(done L a r S)▸hQ⟩;cases hr:Region.ready md pre L with
  |nil=>rfl
  |cons i is=>
   have:=(X4.1 (show i∈Region.ready md pre L by rw[hr];simp))
   rw[S i this.1]at this;cases this.2.1
 |succ z ih=>
  intro L a r hu;refine⟨fun q=>(done L a r (X L r.sz q))▸hQ,fun i hi=>?_⟩;obtain⟨O,a6,a8⟩:=X4.1 hi;have W:pre[i]?=some pre[i]:=Array.getElem?_eq_getElem O;obtain⟨hg,a4,a2,b3⟩:=h.plain i _ W;obtain⟨t,ht⟩:=Option.isSome_iff_exists.1 a4;have b1:=a7 i _ t W ht;unfold wpOpIn;simp only[W];have b2:∀v,Region.wanted pre[i] v=true:=fun v=>by unfold Region.wanted;rw[hg]
  simp only[b2,if_true];have a5:∀x∈pre[i].op.operands,a.eval x=af.eval x:=fun x hx=>by
   cases x with
   |tmp u=>
    show a.tmps.getD u undef=af.tmps.getD u undef;by_cases E:∃(j:Nat)(o:Oper),pre[j]?=some o∧o.dst=some u
    ·obtain⟨j,o,y,D⟩:=E;have a9:=(Array.getElem?_eq_some_iff.1 y).1;have hw:=a8 j (h.reads i j _ o u W y hx D);rw[aq (by rw[r.sz];exact a9) false true]at hw;exact r.on j o u y D hw
    ·rw[U u (fun j o y D=>E ⟨j,o,y,D⟩)];exact r.off u fun j o y D=>absurd ⟨j,o,y,D⟩ E
   |_=>rfl
  refine⟨fun _ _=>trivial,?_⟩;have e1:pre[i].semAt Fence.wide.round a.eval=execOp af.eval pre[i]:=(Oper.semAt_none _ _).trans (execOp_congr _ a2 a5);rw[e1,a1 i _ t W ht,Oper.uponIn_value,ht];refine ih _ _ ⟨by simp [r.sz],?_,?_,fun j o u y D S=>?_,fun u a3=>?_⟩ ?_
  ·show(a.tmps.setIfInBounds t _).size=_;rw[Array.size_setIfInBounds];exact r.ts
  ·exact r.df
  ·show(a.tmps.setIfInBounds t _).getD u undef=_;rw[Array.getD_eq_getD_getElem?,Array.getElem?_setIfInBounds];by_cases I:t=u
   ·rw[if_pos I,if_pos (by rw[r.ts];exact I▸b1),I];rfl
   ·rw[if_neg I,←Array.getD_eq_getD_getElem?];rw[R5]at S;by_cases J:i=j
    ·subst J;rw[W]at y;cases y;exact absurd (Option.some.inj (ht.symm.trans D)) I
    ·rw[if_neg J]at S;exact r.on j o u y D S
  ·show(a.tmps.setIfInBounds t _).getD u undef=_;have I:t≠u:=fun q=>by
    have:=a3 i _ W (q▸ht);rw[R5,if_pos rfl,if_pos (by rw[r.sz];exact O)]at this;cases this
   rw[Array.getD_eq_getD_getElem?,Array.getElem?_setIfInBounds,if_neg I,←Array.getD_eq_getD_getElem?];refine r.off u fun j o y D=>?_;have:=a3 j o y D;rw[R5]at this;by_cases J:i=j
   ·rw[if_pos J]at this;split at this
    ·cases this
    ·cases this
   ·rw[if_neg J]at this;exact this
  ·have:=kr (i:=i) (p:=fun j=> !L.getD j true) (q:=fun j=> !(L.setIfInBounds i true).getD j true) pre.size O (fun j hj b0=>by
    simp only[R5];rw[if_neg (fun q=>b0 q.symm)]) (by show(!L.getD i true)=true;rw[a6];rfl) (by show(!(L.setIfInBounds i true).getD i true)=false;rw[R5,if_pos rfl,if_pos (by rw[r.sz];exact O)];rfl)
   unfold unl at hu ⊢;omega
theorem kc.least{md:Region.Mode}{pre:Array Oper}(u:∀i,i<pre.size→∀d∈X6 md pre i,d<i) {L:Array Bool} (D:L.size=pre.size) (z:Region.ready md pre L=[]):∀i,i<pre.size→L.getD i true=true:=by
 intro i;induction i using Nat.strongRecOn with
 |ind i I=>
  intro h;cases E:L.getD i true with
  |true=>rfl
  |false=>
   have:i∈Region.ready md pre L:=X4.2 ⟨h,E,fun d y=>by
    have:=u i h d y;rw[aq (by rw[D];omega) false true];exact I d this oM⟩
   rw[z]at this;cases this
def Ba(t:Tmp)(x:Operand):Bool:=match x with| .tmp u=>u==t|_=>false
def ul(o:Oper):Bool:=o.guard.isNone&&o.dst.isSome&&(match o.op with| .select .. =>false| .defer .. =>false|_=>true)
def Hi(l:List Oper)(m:Nat):Bool:=
 let ops:=l.toArray
 let pre:=(l.take m).toArray
 decide (0<m)&&decide (m≤l.length)&&(List.range m).all (fun i=>(X6 .any ops i).all fun d=>decide (d<i))&&(List.range m).all (fun i=>decide (m≤i+1)||(List.range m).any fun j=>decide (i<j)&&(X6 .any ops j).contains i)&&
 (List.range l.length).all (fun i=>decide (i<m)||(X6 .any ops i).any fun d=>decide (m≤d+1))&&(l.take m).all ul&&
 (List.range m).all (fun i=>(List.range m).all fun j=>match pre[i]?,pre[j]? with
  |some oi,some oj=>(decide (i=j)||decide (oi.dst≠oj.dst))&&(match oj.dst with|some t=> !(oi.op.operands.toList.any (Ba t))||(X6 .any pre i).contains j|none=>true)
  |_,_=>false)
theorem wY{l:List Oper}{m:Nat}(h:Hi l m=true):kc .any l.toArray (l.take m).toArray∧uX .any (l.take m).toArray∧m≤l.length:=by
 simp only[Hi,Bool.and_eq_true,decide_eq_true_eq,List.all_eq_true,List.mem_range]at h;obtain⟨⟨⟨⟨⟨⟨h0,X⟩,h2⟩,h3⟩,h4⟩,h5⟩,h6⟩:=h;have D:(l.take m).toArray.size=m:=by simp;omega
 have I:∀i:Nat,i<m→l.toArray[i]?=(l.take m).toArray[i]?:=fun i u=>by simp [u]
 refine⟨⟨by rw[D];simpa using X,by rw[D];exact h0,fun i u=>I i (by rw[D]at u;exact u),fun i o S=>?_,fun i u d hd=>?_,fun i u=>?_,fun i u J=>?_⟩,⟨fun i o S=>?_,fun i j oi oj u E O=>?_,fun i j oi oj t u E hx ht=>?_⟩,X⟩
 ·have:=h5 o (by simpa using Array.mem_of_getElem? S);simp only[ul,Bool.and_eq_true]at this
  simpa using this.1.1
 ·rw[D]at u;exact h2 i u d hd
 ·rw[D]at u ⊢;have:=h3 i oM;simp only[Bool.or_eq_true,decide_eq_true_eq,List.any_eq_true,List.mem_range,Bool.and_eq_true,List.contains_iff_mem]at this;rcases this with q|⟨j,U,W,q3⟩
  ·omega
  ·exact⟨j,W,U,q3⟩
 ·rw[D]at u ⊢;have:=h4 i (by simpa using J);simp only[Bool.or_eq_true,decide_eq_true_eq,List.any_eq_true]at this;rcases this with q|⟨d,U,W⟩
  ·omega
  ·exact⟨d,U,W⟩
 ·have:=h5 o (by simpa using Array.mem_of_getElem? S);simp only[ul,Bool.and_eq_true]at this;refine⟨by simpa using this.1.1,this.1.2,fun cs b e=>?_,fun c e=>?_⟩
  ·rw[e]at this;cases this.2
  ·rw[e]at this;cases this.2
 ·have y:=(Array.getElem?_eq_some_iff.1 u).1;have z:=(Array.getElem?_eq_some_iff.1 E).1;rw[D]at y z;have:=h6 i y j z;rw[u,E]at this;simp only[Bool.and_eq_true,Bool.or_eq_true,decide_eq_true_eq]at this;exact this.1.resolve_left O
 ·have y:=(Array.getElem?_eq_some_iff.1 u).1;have z:=(Array.getElem?_eq_some_iff.1 E).1;rw[D]at y z;have:=h6 i y j z;rw[u,E]at this;simp only[Bool.and_eq_true,ht,Bool.or_eq_true,Bool.not_eq_true',List.contains_iff_mem]at this;rcases this.2 with q|q
  ·have h7:oi.op.operands.toList.any (Ba t)=true:=List.any_eq_true.2 ⟨_,by simpa using hx,by simp [Ba]⟩;rw[h7]at q;cases q
  ·exact q
def S5(a:Act):List (Nat×Value)→Act
 |[]=>a
 |(d,v)::r=>S5 (a.put (some d) v) r
theorem bJ:∀(h:List (Nat×Value))(a:Act),(S5 a h).tmps.size=a.tmps.size∧(S5 a h).defers=a.defers
 |[],a=>⟨rfl,rfl⟩
 |(d,v)::r,a=>by
  have:=bJ r (a.put (some d) v);exact⟨this.1.trans (by simp [Act.put]),this.2⟩
theorem nO:∀(u:List (Nat×Value))(a:Act)(t:Nat),(∀p∈u,p.1≠t)→(S5 a u).tmps.getD t undef=a.tmps.getD t undef
 |[],a,t,h=>rfl
 |(d,v)::r,a,t,h=>by
  rw[S5,nO r _ t (fun p y=>h p (by simp [y]))];show(a.tmps.setIfInBounds d v).getD t undef=_;rw[Array.getD_eq_getD_getElem?,Array.getElem?_setIfInBounds,if_neg (h (d,v) (by simp)),←Array.getD_eq_getD_getElem?]
def lX(P:Program)(af:Act)(w:World):List Oper→Prop
 |[]=>True
 |o::r=>(match o.dst with|some t=>(execOp af.eval o).run P w= .ok (.value (af.tmps.getD t undef)) w|none=>False)∧lX P af w r
theorem nY{P:Program}{af:Act}{w:World}:∀{l:List Oper}{i:Nat}{o:Oper}{t:Tmp},lX P af w l→l[i]?=some o→o.dst=some t→(execOp af.eval o).run P w= .ok (.value (af.tmps.getD t undef)) w
 |[],i,o,t,h,hi,ht=>by cases hi
 |x::l,0,o,t,h,hi,ht=>by
  cases hi;have:=h.1;rw[ht]at this;exact this
 |x::l,i+1,o,t,h,hi,ht=>nY (l:=l) (i:=i) h.2 hi ht
def zT(m k:Nat):Array Bool:=(List.replicate m true++List.replicate k false).toArray
theorem lO{n id:Nat}{P:Program}(hm:P.follows .mixedOrders=true){l:List Oper}(m k:Nat)(hl:l.length=m+k)(hB:Hi l m=true){a0:Act}{w:World}(I:List (Nat×Value))(hv:(l.take m).map (·.dst)=I.map fun p=>some p.1) (a5:∀p∈I,p.1<a0.tmps.size)
  {Q:Exit→Act→World→Prop} (X:lX P (S5 a0 I) w.drew (l.take m)) (a2:wpAnyIn Fence.wide n P .any l.toArray Q k (zT m k) (S5 a0 I) w.drew):(Code.region id l.toArray true).wpIn Fence.wide n P Q a0 w:=by
 obtain⟨hc,a6,a7⟩:=wY hB;have y:(l.take m).toArray.size=m:=by simp;omega
 refine wpIn_region_any hm ?_;have u:l.toArray.size=m+k:=by simpa using hl
 obtain⟨p1,p2⟩:=bJ I a0;have S:∀(j:Nat)(o:Oper)(t:Tmp),(l.take m).toArray[j]?=some o→o.dst=some t→∃p∈I,p.1=t:=fun j o t D O=>by
  have J:some t∈(l.take m).map (·.dst):=List.mem_map.2 ⟨o,by simpa using Array.mem_of_getElem? D,O⟩;rw[hv,List.mem_map]at J;obtain⟨p,W,e⟩:=J;exact⟨p,W,Option.some.inj e⟩
 have E:wpAnyIn Fence.wide n P .any (l.take m).toArray (fun e a w'=>e= .normal∧a=S5 a0 I∧w'=w.drew) m (Array.replicate m false) a0 w.drew:=by
  refine Ck a6 (af:=S5 a0 I) (a0:=a0) p1 p2 (fun t O=>nO I a0 t fun p W e=>?_) (fun j o t D O=>?_) (fun i o t D O=>nY X (by simpa using D) O) ⟨rfl,rfl,rfl⟩ (fun L hL hr=>kc.least (fun i h d hd=>hc.back i h d (by unfold X6 at hd ⊢;rw[hc.same i h];exact hd)) hL hr) m _ _ ⟨by rw[y];simp,rfl,rfl,fun j o t D O U=>?_,fun _ _=>rfl⟩ ?_
  ·have:some p.1∈(l.take m).map (·.dst):=by rw[hv];exact List.mem_map.2 ⟨p,W,rfl⟩
   obtain⟨o,D,e2⟩:=List.mem_map.1 this;obtain⟨j,hj⟩:=List.mem_iff_getElem?.1 D;exact O j o (by simpa using hj) (by rw[e2,e])
  ·obtain⟨p,W,e⟩:=S j o t D O;rw[←e];exact a5 p W
  ·have hj:=(Array.getElem?_eq_some_iff.1 D).1;rw[y]at hj;rw[Array.getD_eq_getD_getElem?,Array.getElem?_replicate,if_pos hj]at U;cases U
  ·exact Nat.le_trans List.countP_le_length (by rw[List.length_range,y];exact lR)
 have key:=Hp (F:=Fence.wide) (n:=n) (P:=P) (Q:=Q) hc k (zT m k) (fun L L' r a4=>?_) (fun c a w' q=>by cases q.1) (fun a w' q=>by obtain⟨_,rfl,rfl⟩:=q;exact a2) (fun q=>by obtain⟨a,w',hq⟩:=q;cases hq.1) m (Array.replicate l.toArray.size false) (Array.replicate m false) a0 w.drew ⟨by simp,by rw[y];simp,fun i h=>?_,fun i h a3=>?_,fun i h a1=>?_⟩ ?_ E
 ·rw[u]at key ⊢;exact key
 ·apply Array.ext
  ·rw[r.s1,u];simp [zT]
  ·intro i h1 h2;have h:i<m+k:=by rw[r.s1,u]at h1;exact h1
   have e1:L.getD i true=L[i]:=by rw[Array.getD_eq_getD_getElem?,Array.getElem?_eq_getElem h1];rfl
   rw[←e1];by_cases z:i<m
   ·rw[r.eq i (by rw[y];exact z),a4 i (by rw[y];exact z)];simp only[zT,List.getElem_toArray];rw[List.getElem_append_left (by simpa using z),List.getElem_replicate]
   ·rw[r.off i (by rw[y];omega) (by rw[u];exact h)];simp only[zT,List.getElem_toArray];rw[List.getElem_append_right (by simpa using Nat.le_of_not_lt z),List.getElem_replicate]
 ·rw[y]at h;rw[Array.getD_eq_getD_getElem?,Array.getElem?_replicate,if_pos (by rw[u];omega),Array.getD_eq_getD_getElem?,Array.getElem?_replicate,if_pos h]
 ·rw[Array.getD_eq_getD_getElem?,Array.getElem?_replicate,if_pos a3];rfl
 ·rw[y]at h;rw[Array.getD_eq_getD_getElem?,Array.getElem?_replicate,if_pos h]at a1;cases a1
 ·unfold unl;rw[y,List.countP_eq_length.2 (fun i h=>by
   rw[Array.getD_eq_getD_getElem?,Array.getElem?_replicate,if_pos (List.mem_range.1 h)];rfl),List.length_range]
end Go.Proofs.YtofbhlhamfkljaaGreatDoor.Ve
namespace Go.Proofs.YtofbhlhamfkljaaGreatDoor
open Go Go.RowKit Go.Shelf Ve
open Go.Proofs.Tryz (prog)
set_option linter.unusedVariables false
set_option linter.unusedSimpArgs false
set_option maxRecDepth 1000000
set_option maxHeartbeats 0
theorem AO:prog.funcs[84]?=some Tryz.f84:=kR
theorem EE:Tryz.f84.ntmps=47:=kR
def gX(ss:Nat→Int)(size:Int)(a k:Nat):List (Nat×Nat):=((List.range k).filter fun b=>decide (ss a+ss b+1=size)).map fun b=>(a,b)
def ch(ss:Nat→Int)(size:Int)(m a:Nat):List (Nat×Nat):=(List.range a).flatMap fun a=>gX ss size a m
theorem cM(u:Nat→Int)(size:Int)(a k:Nat):gX u size a (k+1)=gX u size a k++(if u a+u k+1=size then [(a,k)] else []):=by
 unfold gX;rw[List.range_succ,List.filter_append,List.map_append,List.filter_cons,List.filter_nil];by_cases h:u a+u k+1=size
 ·rw[if_pos (decide_eq_true h),if_pos h];rfl
 ·rw[if_neg (by simpa using h),if_neg h];rfl
theorem ir(h:Nat→Int)(size:Int)(m a:Nat):ch h size m (a+1)=ch h size m a++gX h size a m:=by
 unfold ch;rw[List.range_succ,List.flatMap_append];simp
structure Rd(p75 i75 p3 i3 rb ro m:Nat)(ss:Nat→Int)(size:Int)(w:World):Prop where
 c75:w.cell? ⟨p75,i75,none⟩=some (.pointer (some ⟨rb,ro,none⟩))
 c3:w.cell? ⟨p3,i3,none⟩=some (.int .i64 size)
 row:∃b o len cap,m≤len∧w.cell? ⟨rb,ro+10,none⟩=some (.slice (some ⟨b,o,none⟩) len cap)∧∀i,i<m→w.cell? ⟨b,o+i,none⟩=some (.int .i64 (ss i))
theorem vV{n:Int}(h: -9223372036854775808≤n)(u:n≤9223372036854775807):IntKind.wrap .i64 n=n:=by
 simp [IntKind.wrap,IntKind.min,IntKind.max,IntKind.signed,IntKind.bits];omega
theorem bn{n:Nat}{P:Program}{ops:Array Oper}{Q:Exit→Act→World→Prop}{u:Nat}{L:Array Bool}{a:Act}{w:World}(i d:Nat){o:Oper}(v:Value)(J:Region.noSelect ops=true)
  (y:(Region.free .any ops L i&&(Region.ready .any ops L).contains i)=true) (I:ops[i]?=some o) (E:o.dst=some d) (z:∀c a w,Q (.panic c) (a.put (some d) v) w→Q (.panic c) a w) (D:∀w,o.about P w a.eval=none) (O:Yields P ops o v a) (h:wpAnyIn Fence.wide n P .any ops Q u (L.setIfInBounds i true) (a.put (some d) v) w):wpAnyIn Fence.wide n P .any ops Q (u+1) L a w:=by
 simp only[Bool.and_eq_true]at y;rw[←E]at h z;exact wpAnyIn_take rfl I J y.1 y.2 z ⟨O,D⟩ h
theorem mc{n:Nat}{P:Program}{ops:Array Oper}{Q:Exit→Act→World→Prop}{u:Nat}{L:Array Bool}{a:Act}{w:World}{i:Nat}{o:Oper}(D:Region.ready .any ops L=[i])(E:ops[i]?=some o)
  (h:if Region.wanted o (yielded ops a.tmps) then o.uponIn Fence.wide n P a (wpAnyIn Fence.wide n P .any ops Q u (L.setIfInBounds i true)) Q ((execOp a.eval o).run P w) else wpAnyIn Fence.wide n P .any ops Q u (L.setIfInBounds i true) (a.put o.dst undef) w):wpAnyIn Fence.wide n P .any ops Q (u+1) L a w:=by
 refine⟨fun q=>(by rw[D]at q;cases q),fun j z=>?_⟩;rw[D,List.mem_singleton]at z;subst z;unfold wpOpIn;simp only[E];split
 ·rename_i y;rw[if_pos y]at h;exact⟨fun _ _=>trivial,h⟩
 ·rename_i y;rw[if_neg y]at h;exact⟨fun _ _=>trivial,h⟩
theorem me{n:Nat}{P:Program}{ops:Array Oper}{Q:Exit→Act→World→Prop}{u:Nat}{L:Array Bool}{a:Act}{w:World}(i d:Nat){o:Oper}(v:Value)(E:Region.ready .any ops L=[i])(D:ops[i]?=some o)(z:o.dst=some d)(I:Region.wanted o (yielded ops a.tmps)=true)
  (y:(execOp a.eval o).run P w= .ok (.value v) w) (h:wpAnyIn Fence.wide n P .any ops Q u (L.setIfInBounds i true) (a.put (some d) v) w):wpAnyIn Fence.wide n P .any ops Q (u+1) L a w:=
 mc E D (by rw[if_pos I,y,Oper.uponIn_value,z];exact h)
theorem og{n:Nat}{P:Program}{ops:Array Oper}{Q:Exit→Act→World→Prop}{u:Nat}{L:Array Bool}{a:Act}{w:World}(i d:Nat){o:Oper}(D:Region.ready .any ops L=[i])(z:ops[i]?=some o)(y:o.dst=some d)(E:Region.wanted o (yielded ops a.tmps)=false)
  (h:wpAnyIn Fence.wide n P .any ops Q u (L.setIfInBounds i true) (a.put (some d) undef) w):wpAnyIn Fence.wide n P .any ops Q (u+1) L a w:=
 mc D z (by rw[E,y];exact h)
theorem oh{n:Nat}{P:Program}{ops:Array Oper}{Q:Exit→Act→World→Prop}{L:Array Bool}{a:Act}{w:World}(u:Region.ready .any ops L=[])(h:Q .normal a w):wpAnyIn Fence.wide n P .any ops Q 0 L a w:=⟨u,h⟩
theorem uR{n:Nat}{P:Program}{ops:Array Oper}{Q:Exit→Act→World→Prop}{u:Nat}{L:Array Bool}{a:Act}{w:World}(i d:Nat){o:Oper}{l:Nat}{D:FuncId}{tmps:Array Value}{assign body:Code}{R:Ending→World→Prop}(U:Region.ready .any ops L=[i])(S:ops[i]?=some o)(J:o.dst=some d)(W:Region.wanted o (yielded ops a.tmps)=true)
  (y:(execOp a.eval o).run P w= .ok (.round l D tmps assign body) w) (I:RoundIn Fence.wide (n-1) P l D tmps assign body w R) (h:∀e z,R e z→∃v,e= .returned v∧wpAnyIn Fence.wide n P .any ops Q u (L.setIfInBounds i true) (a.put (some d) v) z):wpAnyIn Fence.wide n P .any ops Q (u+1) L a w:=
 mc U S (by
  rw[if_pos W,y,Oper.uponIn_round];refine⟨fun q=>(by cases q),I.mono fun e z O=>?_⟩;obtain⟨v,rfl,E⟩:=h e z O;rw[J];exact E)
def lkV:List (Nat×Value)→Nat→Option Value
 |[],_=>none
 |(d,v)::r,t=>if d=t then some v else lkV r t
theorem bf:∀(u:List (Nat×Value))(a:Act)(t:Nat),(u.map (·.1)).Nodup→(∀p∈u,p.1<a.tmps.size)→(S5 a u).tmps[t]?.getD undef=(lkV u t).getD (a.tmps[t]?.getD undef)
 |[],a,t,_,_=>rfl
 |(d,v)::r,a,t,h,hl=>by
  rw[List.map_cons,List.nodup_cons]at h;have z:∀p∈r,p.1<(a.put (some d) v).tmps.size:=fun p D=>by
   show p.1<(a.tmps.setIfInBounds d v).size;rw[Array.size_setIfInBounds];exact hl p (by simp [D])
  have I:=bf r (a.put (some d) v) t h.2 z;rw[S5,I,lkV];have D:(a.put (some d) v).tmps[t]?=(a.tmps.setIfInBounds d v)[t]?:=rfl;rw[D,Array.getElem?_setIfInBounds];by_cases y:d=t
  ·subst y;have J:lkV r d=none:=by
    have:∀r:List (Nat×Value),d∉r.map (·.1)→lkV r d=none:=by
     intro r;induction r with
     |nil=>intro _;rfl
     |cons x r I=>
      intro E;simp only[List.map_cons,List.mem_cons,not_or]at E;rw[lkV,if_neg (fun q=>E.1 q.symm)];exact I E.2
    exact this r h.1
   rw[J,if_pos rfl,if_pos rfl,if_pos (hl (d,v) (by simp))];rfl
  ·rw[if_neg y,if_neg y]
def co(id:Nat):Code→List Oper
 | .region k ops _=>if k=id then ops.toList else []
 | .seq a b=>co id a++co id b
 | .cond _ a b=>co id a++co id b
 | .block _ a| .loop a| .scope a=>co id a
 |_=>[]
noncomputable def c84:Code:=Tryz.f84.body.getD .skip
set_option maxRecDepth 100000 in
set_option maxHeartbeats 2000000 in
theorem EU(n:Nat)(a0:Act)(hsz:a0.tmps.size=47)(w:World)(Q:Exit→Act→World→Prop)(hQ:∀c a(d:Nat) v w,Q (.panic c) (a.put (some d) v) w→Q (.panic c) a w) (yl:Nat) (p75 i75 p3 i3 rb ro b o len cap k q:Nat) (x y size:Int) (hx:0≤x∧x≤1000000) (hy:0≤y∧y≤1000000) (hk:k<len) (hq:q<len)
  (e0:a0.tmps[0]?.getD undef= .func (.yield yl) #[] #[]) (e1:a0.tmps[1]?.getD undef= .pointer (some ⟨p75,i75,none⟩)) (e2:a0.tmps[2]?.getD undef= .pointer (some ⟨p3,i3,none⟩)) (e5:a0.tmps[5]?.getD undef=iV k) (e6:a0.tmps[6]?.getD undef=iV q)
  (c75:w.cell? ⟨p75,i75,none⟩=some (.pointer (some ⟨rb,ro,none⟩))) (c3:w.cell? ⟨p3,i3,none⟩=some (.int .i64 size)) (c10:w.cell? ⟨rb,ro+10,none⟩=some (.slice (some ⟨b,o,none⟩) len cap)) (ca:w.cell? ⟨b,o+k,none⟩=some (.int .i64 x)) (cb:w.cell? ⟨b,o+q,none⟩=some (.int .i64 y))
  (hno:x+y+1≠size→∀a',a'.tmps.size=47→a'.defers=a0.defers→(∀t,(t<20∨45≤t)→a'.tmps.getD t undef=a0.tmps.getD t undef)→a'.tmps.getD 44 undef= .bool false→Q .normal a' w.drew)
  (hyes:x+y+1=size→YieldAt Fence.wide (n-1) prog yl #[iV k,iV q] w.drew fun e W'=>∃g:Bool,e= .returned (.bool g)∧∀a',a'.tmps.size=47→a'.defers=a0.defers→(∀t,(t<20∨45≤t)→a'.tmps.getD t undef=a0.tmps.getD t undef)→a'.tmps.getD 44 undef= .bool (!g)→Q .normal a' W')
  :(Code.region 7 (co 7 c84).toArray true).wpIn Fence.wide n prog Q a0 w:=by
 have hmix:prog.follows .mixedOrders=true:=kR;have v1:IntKind.i64.wrap (x+y)=x+y:=vV oM oM;have v2:IntKind.i64.wrap (x+y+1)=x+y+1:=vV oM oM;have v3:x+y+1=size→IntKind.i64.wrap size=size:=fun q=>by rw[q]at v2;exact v2
 have nk:¬len≤k:=oM;have nq:¬len≤q:=oM;by_cases hsum:x+y+1=size
 ·refine lO hmix 19 6 kR kR [(20,.pointer (some ⟨rb,ro,none⟩)),(21,.pointer (some ⟨rb,ro,none⟩)),(22,.pointer (some ⟨rb,ro+10,none⟩)),(23,.slice (some ⟨b,o,none⟩) len cap),(24,iV k),(25,.pointer (some ⟨b,o+k,none⟩)),(26,iV x),(27,.pointer (some ⟨rb,ro,none⟩)),(28,.pointer (some ⟨rb,ro,none⟩)),(29,.pointer (some ⟨rb,ro+10,none⟩)),(30,.slice (some ⟨b,o,none⟩) len cap),(31,iV q),(32,.pointer (some ⟨b,o+q,none⟩)),(33,iV y),(34,iV (x+y)),(35,iV (x+y+1)),(36,iV size),(37,.bool true),(38,.bool true)] kR (by simp [hsz]) ?_ ?_
  ·simp only[co,c84,Tryz.f84,Option.getD_some,if_true,Nat.reduceEqDiff,if_false,List.nil_append,List.append_nil,lX,List.take_succ_cons,List.take_zero];refine⟨?_,?_,?_,?_,?_,?_,?_,?_,?_,?_,?_,?_,?_,?_,?_,?_,?_,?_,?_,trivial⟩
   all_goals generalize hvs:([(20,_),_,_,_,_,_,_,_,_,_,_,_,_,_,_,_,_,_,_]:List (Nat×Value))=vs
   all_goals
    have hget:∀t,(S5 a0 vs).tmps[t]?.getD undef=(lkV vs t).getD (a0.tmps[t]?.getD undef):=fun t=>bf vs a0 t (by subst hvs;simp) (by subst hvs;simp [hsz]);generalize S5 a0 vs=af at hget ⊢;subst hvs;simp [go_sem,hget,lkV,e1,e2,e5,e6,c75,c3,c10,ca,cb,v1,v2,hsum,nk,nq,v3]
  ·generalize hvs:([(20,_),_,_,_,_,_,_,_,_,_,_,_,_,_,_,_,_,_,_]:List (Nat×Value))=vs;have hget:∀t,(S5 a0 vs).tmps[t]?.getD undef=(lkV vs t).getD (a0.tmps[t]?.getD undef):=fun t=>bf vs a0 t (by subst hvs;simp) (by subst hvs;simp [hsz]);have hsf:=bJ vs a0;generalize S5 a0 vs=af at hget hsf ⊢;rw[hsz]at hsf;have h38:af.tmps[38]?=some (.bool true):=by
    have:=hget 38;rw[Array.getElem?_eq_getElem oM]at this ⊢;subst hvs
    simpa [lkV] using this
   have h38b:af.tmps[38]'oM= .bool true:=by rw[Array.getElem?_eq_getElem oM]at h38;exact Option.some.inj h38
   have hlow:∀t,t<20→af.tmps[t]?.getD undef=a0.tmps[t]?.getD undef:=fun t ht=>by
    have h2:=hget t;have h3:lkV vs t=none:=by
     subst hvs;simp only[lkV]
     repeat rw[if_neg oM]
    rw[h3]at h2;exact h2
   have g0:=(hlow 0 oM).trans e0;have g5:=(hlow 5 oM).trans e5;have g6:=(hlow 6 oM).trans e6;obtain⟨fn,tmps,assign,body,hyr,hR⟩:=hyes hsum;simp only[co,c84,Tryz.f84,Option.getD_some,if_true,Nat.reduceEqDiff,if_false,List.nil_append,List.append_nil];refine bn 19 39 (.func (.yield yl) #[] #[]) kR kR rfl rfl (fun _ _ _ h=>hQ _ _ _ _ _ h) (fun _=>rfl) (.inl ⟨by simp [Region.wanted,yielded,h38],fun w=>by simp [go_sem,g0]⟩) ?_;refine bn 20 40 (.int .i64 k) kR kR rfl rfl (fun _ _ _ h=>hQ _ _ _ _ _ h) (fun _=>rfl) (.inl ⟨by simp [Region.wanted,yielded,h38,Act.put],fun w=>by simp [go_sem,g5,Act.put,Array.getElem?_setIfInBounds]⟩) ?_;refine bn 21 41 (.int .i64 q) kR kR rfl rfl (fun _ _ _ h=>hQ _ _ _ _ _ h) (fun _=>rfl) (.inl ⟨by simp [Region.wanted,yielded,h38,Act.put],fun w=>by simp [go_sem,g6,Act.put,Array.getElem?_setIfInBounds]⟩) ?_;refine uR 22 42 kR rfl rfl (by simp [Region.wanted,yielded,h38,Act.put]) ?_ hR ?_
   ·simp [go_sem,Act.put,hsf.1,hyr]
   ·rintro e W' ⟨g,rfl,hg⟩;refine⟨_,rfl,?_⟩;refine me 23 43 (.bool (!g)) kR rfl rfl (by simp [Region.wanted,yielded,h38,Act.put]) ?_ ?_
    ·simp [go_sem,Act.put,hsf.1]
    ·refine me 24 44 (.bool (!g)) kR rfl rfl (by simp [Region.wanted]) ?_ ?_
     ·simp [go_sem,Act.put,h38,h38b,hsf.1]
     ·refine oh kR ?_;refine hg _ ?_ ?_ (fun t ht=>?_) ?_
      ·simp [Act.put,hsf.1]
      ·simp [Act.put,hsf.2]
      ·have h2:=hget t;have h3:lkV vs t=none:=by
        subst hvs;simp only[lkV]
        repeat rw[if_neg oM]
       rw[h3]at h2;simp only[Act.put,Array.getD_eq_getD_getElem?,Array.getElem?_setIfInBounds];rw[if_neg (show¬44=t from oM),if_neg (show¬43=t from oM),if_neg (show¬42=t from oM),if_neg (show¬41=t from oM),if_neg (show¬40=t from oM),if_neg (show¬39=t from oM)];exact h2
      ·simp [Act.put,hsf.1,Array.getD_eq_getD_getElem?]
 ·refine lO hmix 19 6 kR kR [(20,.pointer (some ⟨rb,ro,none⟩)),(21,.pointer (some ⟨rb,ro,none⟩)),(22,.pointer (some ⟨rb,ro+10,none⟩)),(23,.slice (some ⟨b,o,none⟩) len cap),(24,iV k),(25,.pointer (some ⟨b,o+k,none⟩)),(26,iV x),(27,.pointer (some ⟨rb,ro,none⟩)),(28,.pointer (some ⟨rb,ro,none⟩)),(29,.pointer (some ⟨rb,ro+10,none⟩)),(30,.slice (some ⟨b,o,none⟩) len cap),(31,iV q),(32,.pointer (some ⟨b,o+q,none⟩)),(33,iV y),(34,iV (x+y)),(35,iV (x+y+1)),(36,iV size),(37,.bool false),(38,.bool false)] kR (by simp [hsz]) ?_ ?_
  ·simp only[co,c84,Tryz.f84,Option.getD_some,if_true,Nat.reduceEqDiff,if_false,List.nil_append,List.append_nil,lX,List.take_succ_cons,List.take_zero];refine⟨?_,?_,?_,?_,?_,?_,?_,?_,?_,?_,?_,?_,?_,?_,?_,?_,?_,?_,?_,trivial⟩
   all_goals generalize hvs:([(20,_),_,_,_,_,_,_,_,_,_,_,_,_,_,_,_,_,_,_]:List (Nat×Value))=vs
   all_goals
    have hget:∀t,(S5 a0 vs).tmps[t]?.getD undef=(lkV vs t).getD (a0.tmps[t]?.getD undef):=fun t=>bf vs a0 t (by subst hvs;simp) (by subst hvs;simp [hsz]);generalize S5 a0 vs=af at hget ⊢;subst hvs;simp [go_sem,hget,lkV,e1,e2,e5,e6,c75,c3,c10,ca,cb,v1,v2,hsum,nk,nq]
  ·generalize hvs:([(20,_),_,_,_,_,_,_,_,_,_,_,_,_,_,_,_,_,_,_]:List (Nat×Value))=vs;have hget:∀t,(S5 a0 vs).tmps[t]?.getD undef=(lkV vs t).getD (a0.tmps[t]?.getD undef):=fun t=>bf vs a0 t (by subst hvs;simp) (by subst hvs;simp [hsz]);have hsf:=bJ vs a0;generalize S5 a0 vs=af at hget hsf ⊢;rw[hsz]at hsf;have h38:af.tmps[38]?=some (.bool false):=by
    have:=hget 38;rw[Array.getElem?_eq_getElem oM]at this ⊢;subst hvs
    simpa [lkV] using this
   have h38b:af.tmps[38]'oM= .bool false:=by rw[Array.getElem?_eq_getElem oM]at h38;exact Option.some.inj h38
   simp only[co,c84,Tryz.f84,Option.getD_some,if_true,Nat.reduceEqDiff,if_false,List.nil_append,List.append_nil];refine bn 19 39 undef kR kR rfl rfl (fun _ _ _ h=>hQ _ _ _ _ _ h) (fun _=>rfl) (.inr ⟨by simp [Region.wanted,yielded,h38],rfl⟩) ?_;refine bn 20 40 undef kR kR rfl rfl (fun _ _ _ h=>hQ _ _ _ _ _ h) (fun _=>rfl) (.inr ⟨by simp [Region.wanted,yielded,h38,Act.put],rfl⟩) ?_;refine bn 21 41 undef kR kR rfl rfl (fun _ _ _ h=>hQ _ _ _ _ _ h) (fun _=>rfl) (.inr ⟨by simp [Region.wanted,yielded,h38,Act.put],rfl⟩) ?_;refine og 22 42 kR rfl rfl (by simp [Region.wanted,yielded,h38,Act.put]) ?_;refine og 23 43 kR rfl rfl (by simp [Region.wanted,yielded,h38,Act.put]) ?_;refine me 24 44 (.bool false) kR rfl rfl (by simp [Region.wanted]) ?_ ?_
   ·simp [go_sem,Act.put,h38,h38b,hsf.1]
   ·refine oh kR ?_;refine hno hsum _ ?_ ?_ (fun t ht=>?_) ?_
    ·simp [Act.put,hsf.1]
    ·simp [Act.put,hsf.2]
    ·have h2:=hget t;have h3:lkV vs t=none:=by
      subst hvs;simp only[lkV]
      repeat rw[if_neg oM]
     rw[h3]at h2;simp only[Act.put,Array.getD_eq_getD_getElem?,Array.getElem?_setIfInBounds];rw[if_neg (show¬44=t from oM),if_neg (show¬43=t from oM),if_neg (show¬42=t from oM),if_neg (show¬41=t from oM),if_neg (show¬40=t from oM),if_neg (show¬39=t from oM)];exact h2
    ·simp [Act.put,hsf.1,Array.getD_eq_getD_getElem?]
theorem BS(u:Nat→Int)(size:Int)(a k m:Nat)(h:k≤m):gX u size a k<+:gX u size a m:=by
 induction m with
 |zero=>
  have:k=0:=oM;rw[this];exact List.prefix_rfl
 |succ m z=>
  by_cases y:k=m+1
  ·rw[y];exact List.prefix_rfl
  ·rw[cM];exact(z oM).trans (List.prefix_append _ _)
theorem pP(u:Nat→Int)(size:Int)(m a k:Nat)(h:a<m)(z:k≤m):ch u size m a++gX u size a k<+:ch u size m m:=by
 have:∀d,a+1+d≤m→ch u size m (a+1)<+:ch u size m (a+1+d):=by
  intro d;induction d with
  |zero=>intro _;exact List.prefix_rfl
  |succ d D=>
   intro E;rw[show a+1+(d+1)=(a+1+d)+1 from oM,ir u size m (a+1+d)];exact(D oM).trans (List.prefix_append _ _)
 have y:=this (m-(a+1)) oM;rw[show a+1+(m-(a+1))=m from oM]at y;refine List.IsPrefix.trans ?_ y;rw[ir];exact(List.prefix_append_right_inj _).2 (BS u size a k m z)
theorem Rd.drew{y u I E J O m:Nat}{S:Nat→Int}{size:Int}{w:World}(h:Rd y u I E J O m S size w):Rd y u I E J O m S size w.drew:=by
 obtain⟨U,W,b,o,D,z,X,h4,h5⟩:=h;exact⟨U,W,b,o,D,z,X,h4,h5⟩
theorem ke(a0 a':Act)(b:Value)(h0:a0.tmps.size=47)(s1:a'.tmps.size=47)(s2:a'.defers=a0.defers)(s3:∀t,(t<20∨45≤t)→a'.tmps.getD t undef=a0.tmps.getD t undef) (s4:a'.tmps.getD 44 undef=b):
  ∃h u y z D E I J O S U W X a1 a2 a3 a4 a5 a6 a7 a8 a9 b0 b1:Value,a'=S5 a0 [(20,h),(21,u),(22,y),(23,z),(24,D),(25,E),(26,I),(27,J),(28,O),(29,S),(30,U),(31,W),(32,X),(33,a1),(34,a2),(35,a3),(36,a4),(37,a5),(38,a6),(39,a7),(40,a8),(41,a9),(42,b0),(43,b1),(44,b)]:=by
 refine⟨a'.tmps.getD 20 undef,a'.tmps.getD 21 undef,a'.tmps.getD 22 undef,a'.tmps.getD 23 undef,a'.tmps.getD 24 undef,a'.tmps.getD 25 undef,a'.tmps.getD 26 undef,a'.tmps.getD 27 undef,a'.tmps.getD 28 undef,a'.tmps.getD 29 undef,a'.tmps.getD 30 undef,a'.tmps.getD 31 undef,a'.tmps.getD 32 undef,a'.tmps.getD 33 undef,a'.tmps.getD 34 undef,a'.tmps.getD 35 undef,a'.tmps.getD 36 undef,a'.tmps.getD 37 undef,a'.tmps.getD 38 undef,a'.tmps.getD 39 undef,a'.tmps.getD 40 undef,a'.tmps.getD 41 undef,a'.tmps.getD 42 undef,a'.tmps.getD 43 undef,?_⟩;obtain⟨p1,p2⟩:=bJ [(20,a'.tmps.getD 20 undef),(21,a'.tmps.getD 21 undef),(22,a'.tmps.getD 22 undef),(23,a'.tmps.getD 23 undef),(24,a'.tmps.getD 24 undef),(25,a'.tmps.getD 25 undef),(26,a'.tmps.getD 26 undef),(27,a'.tmps.getD 27 undef),(28,a'.tmps.getD 28 undef),(29,a'.tmps.getD 29 undef),(30,a'.tmps.getD 30 undef),(31,a'.tmps.getD 31 undef),(32,a'.tmps.getD 32 undef),(33,a'.tmps.getD 33 undef),(34,a'.tmps.getD 34 undef),(35,a'.tmps.getD 35 undef),(36,a'.tmps.getD 36 undef),(37,a'.tmps.getD 37 undef),(38,a'.tmps.getD 38 undef),(39,a'.tmps.getD 39 undef),(40,a'.tmps.getD 40 undef),(41,a'.tmps.getD 41 undef),(42,a'.tmps.getD 42 undef),(43,a'.tmps.getD 43 undef),(44,b)] a0;refine uZ (by rw[p1,s1,h0]) (by rw[p2,s2]) fun t=>?_;have hg:=bf [(20,a'.tmps.getD 20 undef),(21,a'.tmps.getD 21 undef),(22,a'.tmps.getD 22 undef),(23,a'.tmps.getD 23 undef),(24,a'.tmps.getD 24 undef),(25,a'.tmps.getD 25 undef),(26,a'.tmps.getD 26 undef),(27,a'.tmps.getD 27 undef),(28,a'.tmps.getD 28 undef),(29,a'.tmps.getD 29 undef),(30,a'.tmps.getD 30 undef),(31,a'.tmps.getD 31 undef),(32,a'.tmps.getD 32 undef),(33,a'.tmps.getD 33 undef),(34,a'.tmps.getD 34 undef),(35,a'.tmps.getD 35 undef),(36,a'.tmps.getD 36 undef),(37,a'.tmps.getD 37 undef),(38,a'.tmps.getD 38 undef),(39,a'.tmps.getD 39 undef),(40,a'.tmps.getD 40 undef),(41,a'.tmps.getD 41 undef),(42,a'.tmps.getD 42 undef),(43,a'.tmps.getD 43 undef),(44,b)] a0 t (by simp) (by simp [h0]);rw[Array.getD_eq_getD_getElem?,Array.getD_eq_getD_getElem?,hg,←Array.getD_eq_getD_getElem?,←Array.getD_eq_getD_getElem?];by_cases ht:t<20∨45≤t
 ·rw[s3 t ht];have:lkV [(20,a'.tmps.getD 20 undef),(21,a'.tmps.getD 21 undef),(22,a'.tmps.getD 22 undef),(23,a'.tmps.getD 23 undef),(24,a'.tmps.getD 24 undef),(25,a'.tmps.getD 25 undef),(26,a'.tmps.getD 26 undef),(27,a'.tmps.getD 27 undef),(28,a'.tmps.getD 28 undef),(29,a'.tmps.getD 29 undef),(30,a'.tmps.getD 30 undef),(31,a'.tmps.getD 31 undef),(32,a'.tmps.getD 32 undef),(33,a'.tmps.getD 33 undef),(34,a'.tmps.getD 34 undef),(35,a'.tmps.getD 35 undef),(36,a'.tmps.getD 36 undef),(37,a'.tmps.getD 37 undef),(38,a'.tmps.getD 38 undef),(39,a'.tmps.getD 39 undef),(40,a'.tmps.getD 40 undef),(41,a'.tmps.getD 41 undef),(42,a'.tmps.getD 42 undef),(43,a'.tmps.getD 43 undef),(44,b)] t=none:=by
   simp only[lkV]
   repeat rw[if_neg oM]
  rw[this];rfl
 ·have b2:20≤t:=oM;have b3:t≤44:=oM;have:t=20∨t=21∨t=22∨t=23∨t=24∨t=25∨t=26∨t=27∨t=28∨t=29∨t=30∨t=31∨t=32∨t=33∨t=34∨t=35∨t=36∨t=37∨t=38∨t=39∨t=40∨t=41∨t=42∨t=43∨t=44:=oM;rcases this with rfl|rfl|rfl|rfl|rfl|rfl|rfl|rfl|rfl|rfl|rfl|rfl|rfl|rfl|rfl|rfl|rfl|rfl|rfl|rfl|rfl|rfl|rfl|rfl|rfl<;>first|rfl|exact s4
set_option maxRecDepth 100000 in
set_option maxHeartbeats 4000000 in
theorem yf(n:Nat)(l:Nat)(p75 i75 p3 i3:Nat)(rb ro:Nat)(m:Nat)(ss:Nat→Int)(size:Int)(J Jx:List (Nat×Nat)→World→Prop)(hm:m≤1000)(hss:∀i,0≤ss i∧ss i≤1000000)
  (hJd:∀pre w,J pre w→J pre w.drew)
  (hY:∀pre(x:Nat×Nat) W,(pre++[x])<+:ch ss size m m→J pre W→YieldAt Fence.wide (n-1) prog l #[iV (x.1:Int),iV (x.2:Int)] W fun e W'=>
   (e= .returned (.bool true)∧J (pre++[x]) W'∧(Rd p75 i75 p3 i3 rb ro m ss size W→Rd p75 i75 p3 i3 rb ro m ss size W'))∨(e= .returned (.bool false)∧Jx (pre++[x]) W'))
  (W:World) (hR:Rd p75 i75 p3 i3 rb ro m ss size W) (sa:Option Addr) (sc:Nat) (hs:W.cell? ⟨rb,ro+9,none⟩=some (.slice sa m sc)) (h0:J [] W):
  CallsIn Fence.wide n prog 84 #[.func (.yield l) #[] #[],.pointer (some ⟨p75,i75,none⟩),.pointer (some ⟨p3,i3,none⟩)] W fun e W'=>(∃v,e= .returned v)∧(J (ch ss size m m) W'∨∃pre,pre<+:ch ss size m m∧Jx pre W'):=by
 have hB:=hR.c75;refine callsIn_of_wp AO rfl trivial ?_ rfl;simp only[EE,List.size_toArray,List.length_cons,List.length_nil,Nat.reduceAdd,Nat.reduceSub,Array.replicate_succ,Array.replicate_zero,List.push_toArray,List.append_toArray,List.nil_append,List.cons_append]
 gi_wp2
 gi_loopw [13] (fun i wr=>∃k:Nat,k≤m∧i=iV k∧J (ch ss size m k) wr∧Rd p75 i75 p3 i3 rb ro m ss size wr)
  (fun i _=>m-(intOf i).toNat)
 case atStart=>exact⟨0,Nat.zero_le _,rfl,h0,hR⟩
 case round=>
  obtain⟨k,hk,rfl,hJ1,hR1⟩:=hrel;by_cases hlt:k<m
  ·gi_wp2
   gi_loopw [17] (fun i wr=>∃q:Nat,q≤m∧i=iV q∧J (ch ss size m k++gX ss size k q) wr∧Rd p75 i75 p3 i3 rb ro m ss size wr)
    (fun i _=>m-(intOf i).toNat)
   case atStart=>exact⟨0,Nat.zero_le _,rfl,by simpa [gX] using hJ1,hR1⟩
   case round=>
    obtain⟨q,hq,rfl,hJ2,hR2⟩:=hrel;by_cases hlt2:q<m
    ·have hR3:=hR2.drew;obtain⟨c75,c3,b,o,len,cap,hml,c10,cz⟩:=hR2;have ca:=cz k hlt;have cb:=cz q hlt2;have h1:=hss k;have h2:=hss q
     gi_wp2
     refine EU n _ rfl _ _ (fun _ _ _ _ _ h=>h) l p75 i75 p3 i3 rb ro b o len cap k q (ss k) (ss q) size h1 h2 oM oM rfl rfl rfl rfl rfl c75 c3 c10 ca cb ?_ ?_
     ·intro hne a' s1 s2 s3 s4;obtain⟨y20,y21,y22,y23,y24,y25,y26,y27,y28,y29,y30,y31,y32,y33,y34,y35,y36,y37,y38,y39,y40,y41,y42,y43,rfl⟩:=ke _ a' _ rfl s1 s2 s3 s4;simp only[S5,Act.put,List.setIfInBounds_toArray,List.set_cons_succ,List.set_cons_zero]
      gi_wp2
      refine⟨⟨q+1,oM,by simp,?_,hR3⟩,by simp [intOf];omega⟩;rw[cM,if_neg hne,List.append_nil];exact hJd _ _ hJ2
     ·intro hsum;obtain⟨fn,tmps,assign,body,hy,hRr⟩:=hY _ (k,q) wr.drew (by
       have:=pP ss size m k (q+1) hlt hlt2
       rwa [cM,if_pos hsum,←List.append_assoc]at this) (hJd _ _ hJ2)
      refine⟨fn,tmps,assign,body,hy,hRr.mono ?_⟩;rintro e W3 (⟨rfl,hJ3,hK3⟩|⟨rfl,hJx3⟩)
      ·have hR4:=hK3 hR3;refine⟨true,rfl,fun a' s1 s2 s3 s4=>?_⟩;obtain⟨y20,y21,y22,y23,y24,y25,y26,y27,y28,y29,y30,y31,y32,y33,y34,y35,y36,y37,y38,y39,y40,y41,y42,y43,rfl⟩:=ke _ a' _ rfl s1 s2 s3 s4;simp only[S5,Act.put,List.setIfInBounds_toArray,List.set_cons_succ,List.set_cons_zero,Bool.not_true]
       gi_wp2
       refine⟨⟨q+1,oM,by simp,?_,hR4⟩,by simp [intOf];omega⟩;rw[cM,if_pos hsum,←List.append_assoc];exact hJ3
      ·refine⟨false,rfl,fun a' s1 s2 s3 s4=>?_⟩;obtain⟨y20,y21,y22,y23,y24,y25,y26,y27,y28,y29,y30,y31,y32,y33,y34,y35,y36,y37,y38,y39,y40,y41,y42,y43,rfl⟩:=ke _ a' _ rfl s1 s2 s3 s4;simp only[S5,Act.put,List.setIfInBounds_toArray,List.set_cons_succ,List.set_cons_zero,Bool.not_false]
       gi_wp2
       refine bodyPost_ret (results_none rfl _ _ _) rfl ?_;refine⟨⟨_,rfl⟩,.inr ⟨_,?_,hJx3⟩⟩;have:=pP ss size m k (q+1) hlt hlt2
       rwa [cM,if_pos hsum,←List.append_assoc]at this
    ·have hqm:q=m:=oM
     gi_wp2
     refine⟨⟨k+1,oM,by simp,?_,hR2⟩,by simp [intOf];omega⟩;rw[ir,←hqm];rw[←hqm]at hJ2;exact hJ2
  ·have hkm:k=m:=oM
   gi_wp2
   go_end0
   exact⟨⟨_,rfl⟩,.inl (by rw[hkm]at hJ1;exact hJ1)⟩
end Go.Proofs.YtofbhlhamfkljaaGreatDoor
namespace Go.Proofs.YtofbhlhamfkljaaGreatDoor.Ve
open Go Go.RowKit
open Go.Proofs.Tryz (prog)
set_option linter.unusedVariables false
set_option linter.unusedSimpArgs false
set_option maxRecDepth 1000000
set_option maxHeartbeats 0
def ldc(H:d9)(v:Value)(i:Nat):Option Value:=
 match v with
 | .pointer (some ⟨b,o,none⟩)=>match H.get b with
  |some (.cells c _ _)=>c[o+i]?
  |_=>none
 |_=>none
theorem vE{H:d9}{v:Value}{i:Nat}{x:Value}(h:ldc H v i=some x):∃b o c own sz,v= .pointer (some ⟨b,o,none⟩)∧H.get b=some (.cells c own sz)∧c[o+i]?=some x:=by
 unfold ldc at h;split at h
 ·rename_i b o;split at h
  ·rename_i c own sz u;exact⟨b,o,c,own,sz,rfl,u,h⟩
  ·cases h
 ·cases h
section
variable{base:Bs}{w0:World}{φ:List Loc}{w:World}
theorem X1{H:d9}(z:WR base w0 φ H.bs w){v v':Value}(J:VR φ v v'){i:Nat}{x:Value}(h:ldc H v i=some x):∃p q y,v'= .pointer (some ⟨p,q,none⟩)∧w.cell? ⟨p,q+i,none⟩=some y∧VR φ x y:=by
 obtain⟨b,o,c,own,sz,rfl,E,O⟩:=vE h;cases J with
 |ptr I=>
  rename_i l;obtain⟨_,_,D,_⟩:=z.blk b _ l E I;obtain⟨y,S,u⟩:=D _ _ O;exact⟨_,_,y,rfl,by rw[Nat.add_assoc];exact S,u⟩
theorem NU{z:List Loc}(J:Ext φ z){H:d9}{v v' u:Value}{i:Nat}{x:Value}(h:ldc H v i=some x)(D:VR φ v v')(E:VR z v u):u=v':=by
 obtain⟨b,o,c,own,sz,rfl,O,_⟩:=vE h;cases D with
 |ptr I=>
  cases E with
  |ptr y=>
   have:=J _ _ I;rw[y]at this;cases this;rfl
end
def iL:Option Value→Int
 |some (.int .i64 n)=>n
 |_=>0
def lnA:Option Value→Nat
 |some (.slice _ n _)=>n
 |_=>0
def gj(n:Int):Int:=if 0≤n∧n≤1000000 then n else 0
theorem CW(n:Int):0≤gj n∧gj n≤1000000:=by unfold gj;split<;>omega
def atA(H:d9)(s:Option Value)(i:Nat):Option Value:=
 match s with
 |some (.slice (some a) _ _)=>ldc H (.pointer (some a)) i
 |_=>none
def okP(v75 v3 q:Value)(m:Nat)(ss:Nat→Int)(size:Int)(H:d9):Prop:=
 ldc H v75 0=some q∧ldc H v3 0=some (.int .i64 size)∧∃a len cap,ldc H q 10=some (.slice (some a) len cap)∧m≤len∧∀i,i<m→ldc H (.pointer (some a)) i=some (.int .i64 (ss i))
open Classical in
noncomputable def pg(e:Env)(H:d9):Option (List (Nat×Nat)×(d9→Prop)):=
 match e.get 11 with
 | .func (.func 84) fs cs=>
  let v75:=cs.getD 0 undef
  let v3:=cs.getD 1 undef
  let q:=(ldc H v75 0).getD undef
  let m:=lnA (ldc H q 9)
  let ss:=fun i=>gj (iL (atA H (ldc H q 10) i))
  let size:=iL (ldc H v3 0)
  if fs.size=0∧cs.size=2∧1≤m∧m≤1000∧(∃a c,ldc H q 9=some (.slice a m c))∧okP v75 v3 q m ss size H then some (ch ss size m m,okP v75 v3 q m ss size) else none
 |_=>none
theorem Ol:bP prog 84:=⟨Tryz.f84,AO,kR,kR⟩
theorem Nn:(Tryz.f34.name== "runtime.NumGoroutine")=false:=kR
theorem nX{φ:List Loc}{a:Option Addr}{m c:Nat}{v:Value}(y:1≤m)(h:VR φ (.slice a m c) v):∃a' u,v= .slice a' m u:=by
 cases h with
 |nilslice=>omega
 |slice0=>omega
 |exact=>exact⟨_,_,rfl⟩
 |slice=>exact⟨_,_,rfl⟩
theorem Cf{φ:List Loc}{a:Addr}{m c:Nat}{v:Value}(z:1≤m)(h:VR φ (.slice (some a) m c) v):∃a' y,v= .slice (some a') m y∧VR φ (.pointer (some a)) (.pointer (some a')):=by
 cases h with
 |slice0=>omega
 |exact u=>exact⟨_,_,rfl,.ptr u⟩
 |slice u _ _=>exact⟨_,_,rfl,.ptr u⟩
theorem nJ{base:Bs}{w0:World}{φ φ':List Loc}{w:World}{H H':d9}{J v3 q u I q':Value}{m:Nat}{ss:Nat→Int}{size:Int}(S:Ext φ φ')(hm:1≤m)(O:WR base w0 φ' H'.bs w)(h:okP J v3 q m ss size H')(h1:VR φ J u)(h2:VR φ v3 I)(X:VR φ q q'){x:Value}(hq:ldc H q 9=some x){D z p3 i3 rb ro:Nat}
  (e1:u= .pointer (some ⟨D,z,none⟩)) (e2:I= .pointer (some ⟨p3,i3,none⟩)) (e3:q'= .pointer (some ⟨rb,ro,none⟩)):Rd D z p3 i3 rb ro m ss size w:=by
 subst e1 e2 e3;obtain⟨k1,k2,a,W,a1,k3,k4,k5⟩:=h;obtain⟨p,i,y,E,r2,r3⟩:=X1 O (h1.mono S) k1;cases E;have:=NU S hq X r3;subst this;obtain⟨p,i,y,E,r4,r5⟩:=X1 O (h2.mono S) k2;cases E;have:=r5.eq_na (by rfl);subst this;obtain⟨p,i,y,E,r6,r7⟩:=X1 O (X.mono S) k3;cases E;obtain⟨⟨ab,ao,ap⟩,c',rfl,r8⟩:=Cf oM r7;have U:ap=none:=by cases r8;rfl
 subst U;refine⟨r2,r4,ab,ao,W,c',k4,r6,fun i hi=>?_⟩;obtain⟨p,j,y,t1,t2,t3⟩:=X1 O r8 (k5 i hi);cases t1;have:=t3.eq_na (by rfl);subst this;exact t2
theorem Xv{base:Bs}{w0:World}{φ:List Loc}{w:World}{a:Act}{e:Env}{H:d9}{L:List (Nat×Nat)}{ok:d9→Prop}(h:pg e H=some (L,ok))(hE:ER φ Tryz.f34.ntmps e a)(hW:WR base w0 φ H.bs w):
  ∃lb Rd,a.eval (.tmp 11)= .func (.func 84) #[] lb∧(∀φ' H' W',Ext φ φ'→WR base w0 φ' H'.bs W'→ok H'→Rd W')∧∀X,WR base w0 φ H.bs X→sr prog 84 lb Rd L X:=by
 have hv:=hE.op (x:= .tmp 11) rfl;have h0:opv e (.tmp 11)=e.get 11:=rfl;rw[h0]at hv;unfold pg at h;split at h
 rotate_left
 ·cases h
 rename_i fs cs a4;rw[a4]at hv;simp only at h;split at h
 rotate_left
 ·cases h
 rename_i hc;cases h;obtain⟨c1,c2,c3,c4,⟨sa,sc,c5⟩,c6⟩:=hc;generalize hz:a.eval (.tmp 11)=z at hv;cases hv with
 |func g h1 h2 h3 h4=>
  rename_i D cs';have a5:D= #[]:=by
   apply Array.eq_empty_of_size_eq_zero;have:fs.toList.length=fs.size:=rfl;have:D.toList.length=D.size:=rfl;omega
  subst a5;have g0:cs.toList[0]?=some (cs.getD 0 undef):=by
   have:0<cs.size:=oM;simp [Array.getD_eq_getD_getElem?,this]
  have g1:cs.toList[1]?=some (cs.getD 1 undef):=by
   have:1<cs.size:=oM;simp [Array.getD_eq_getD_getElem?,this]
  obtain⟨u,m0,y0⟩:=VRs.get ⟨h3,h4⟩ g0;obtain⟨U,m1,y1⟩:=VRs.get ⟨h3,h4⟩ g1;have a3:cs'= #[u,U]:=by
   apply Array.toList_inj.1;have hl:cs'.toList.length=2:=by rw[←h3];exact c2
   match hq:cs'.toList,hl with
   |[x,y],_=>
    rw[hq]at m0 m1;simp only[List.getElem?_cons_zero,List.getElem?_cons_succ,Option.some.injEq]at m0 m1;rw[m0,m1]
  subst a3;obtain⟨k1,k2,k3⟩:=c6;obtain⟨O,I,q',e1,r2,r3⟩:=X1 hW y0 k1;obtain⟨p3,i3,_,e2,_,_⟩:=X1 hW y1 k2;obtain⟨rb,ro,s9,e3,r9,a8⟩:=X1 hW r3 c5;obtain⟨b5,b6,rfl⟩:=nX c3 a8;refine⟨#[u,U],Rd O I p3 i3 rb ro _ _ _,rfl,fun φ' H' W' hx a2 a6=>nJ hx c3 a2 a6 y0 y1 r3 c5 e1 e2 e3,fun X E=>?_⟩;intro l J Jx a1 hY hJ;have hR:=nJ (Ext.refl φ) c3 E ⟨k1,k2,k3⟩ y0 y1 r3 c5 e1 e2 e3;obtain⟨b2,b3,b4,f3,a9,S⟩:=X1 E r3 c5;rw[e3]at f3;cases f3;obtain⟨b0,b1,rfl⟩:=nX c3 S;rw[e1,e2];exact yf 2 l O I p3 i3 rb ro _ _ _ J Jx c4 (fun i=>CW _) a1 (fun a7 x W hp hj=>hY a7 x W hp hj) X hR b0 b1 a9 hJ
noncomputable def AR:LV→d9→Option (Value×Option d9):=jV prog t6 vw vx kx ky nh 12 13 59 [.cell 4 4] pg
noncomputable def fK:Lib:=fun f=>if f=34 then some AR else none
theorem vF:mO prog t6:=fun g f h=>by cases h
theorem GH:prog.follows .mixedOrders=true:=kR
theorem En:mO prog fK:=by
 intro g f h;unfold fK at h;split at h
 rotate_left
 ·cases h
 rename_i z;cases h;subst z;have:=BN (f:=34) GH vF Mz GY Nn ag0 ag1 Xw Xx ag2 ah2 Ol (it:=pg) (g:= .tmp 11) fun h u y=>Xv h u y;rw[ah1,ah6]at this;exact this
theorem fx{f:FuncId}{args:LV}{H:d9}{r:Value×Option d9}(h:CL prog t6 f args H=some r):CL prog fK f args H=some r:=by
 refine Cw (fun f=>?_) _ _ _ _ h;unfold fK;by_cases u:f=34
 ·subst u;exact .inr ⟨rfl,Xp⟩
 ·rw[if_neg u];exact .inl rfl
theorem Ya(args:LV)(H:d9):CL prog fK 34 args H=AR args H:=GO (by unfold fK;rw[if_pos rfl]) args H
theorem ej(size a b:Int):∀(l:List EvD)(i:Nat)(r:ReD),(Q0 size a b l i r).1.strat=r.strat∧(Q0 size a b l i r).1.labels=r.labels∧r.size<+:(Q0 size a b l i r).1.size
 |[],i,r=>⟨rfl,rfl,List.prefix_rfl⟩
 |e::l,i,r=>by
  rw[Q0];obtain⟨p1,p2,h,_⟩:=fy r (Y8 r.strat e (r.sorts.getD a.toNat soZ) (r.sorts.getD b.toNat soZ)) size (i,a,b);split
  ·split
   ·obtain⟨u,y,z⟩:=ej size a b l (i+1) (aQ r (Y8 r.strat e (r.sorts.getD a.toNat soZ) (r.sorts.getD b.toNat soZ)) size (i,a,b)).1;exact⟨u.trans p1,y.trans p2,h.trans z⟩
   ·exact⟨p1,p2,h⟩
  ·exact ej size a b l (i+1) r
def cD(size:Int):List (Nat×Nat)→ReD→ReD×Bool
 |[],r=>(r,true)
 |x::l,r=>if(Q0 size x.1 x.2 r.labels 0 r).2 then cD size l (Q0 size x.1 x.2 r.labels 0 r).1 else((Q0 size x.1 x.2 r.labels 0 r).1,false)
def jm(r:ReD)(size:Int):ReD×Bool:=cD size (ch (fun i=>r.size.getD i 0) size r.sorts.length r.sorts.length) r
theorem sD{f g:Nat→Int}{size:Int}{m:Nat}(h:∀i,i<m→f i=g i):∀a,a≤m→ch f size m a=ch g size m a:=by
 intro a D;unfold ch;have:∀x∈List.range a,gX f size x m=gX g size x m:=fun x u=>by
  unfold gX
  congr 1
  refine List.filter_congr fun y z=>?_;rw[h x (by have:=List.mem_range.1 u;omega),h y (List.mem_range.1 z)]
 rw[List.flatMap_def,List.flatMap_def,List.map_congr_left this]
section
variable(Hs:d9)(lo K:Nat)(rb lw:Nat)(G:Nat→Prop)(rs:List Value)(vl:Value)(W0:List Value)(Hb:d9)(b2 b3 b4:Nat)(size:Int)(h0:0≤size)(n:Nat)(hbox:yU Hb rb lw W0 b2 b3 b4 size)(hlo:lo≤lw)(heq:∀j,j<lo→Hb.get j=Hs.get j)
include h0 hbox hlo heq
theorem EY(a b:Int)(e:Env)(H:d9)(r:ReD)(u y D:Value)(X:e.get 2=pT b2)(f3:e.get 3=pT b3)(f4:e.get 4=pT b4)(f5:e.get 5=iV a)(f6:e.get 6=iV b)
  (I:R0 (QR Hs lo K false) (QR Hs lo K true) H rb lw G r rs vl u y D) (hT:Z1 rb lw W0 Hb [u,y,D] H) (U:WfR r n):
  u9 (LE prog t6 ky e H) (fun o e H=>(o= .normal∧(Q0 size a b r.labels 0 r).2=true∧∃u y D,R0 (QR Hs lo K false) (QR Hs lo K true) H rb lw G (Q0 size a b r.labels 0 r).1 rs vl u y D∧Z1 rb lw W0 Hb [u,y,D] H∧WfR (Q0 size a b r.labels 0 r).1 n)∨(o= .ret∧(Q0 size a b r.labels 0 r).2=false∧H.get b4=cE [.bool false] 1∧i4 lw Hb H)):=by
 obtain⟨g2,g3,w4,g4⟩:=hbox.at_ hT;have gr:=I.g;obtain⟨W,q9,a1,a2⟩:=I.at_;obtain⟨a3,E⟩:∃q,q=rs++[vl,u,y,D]:=⟨_,rfl⟩
 rw[←E]at gr W;obtain⟨va,vc,h⟩:=I.lb.slice;rw[h]at W;refine J4 X g2 gr W ?_;refine l9 (F:=fun z=>u9 (inBlock 1 (inBlock 2 z)) _) (qU Hs lo K rb lw G rs vl W0 Hb b2 b3 b4 size a b h0 n hbox hlo heq va vc r.labels h (Q0 size a b r.labels 0 r) (r.labels.length-0) _ _ ⟨0,r,u,y,D,rfl,Nat.zero_le _,X,f3,f4,f5,f6,h.symm,rfl,rfl,rfl,I,hT,U,by rw[List.drop_zero]⟩) ?_;rintro o' e' H' (⟨S,J,O⟩|⟨S,J,O⟩)
 ·have:inBlock 1 (inBlock 2 (some (o',e',H')))=some (.normal,e',H'):=by rw[S];rfl
  rw[this,cQ];exact .inl ⟨rfl,J,O⟩
 ·have:inBlock 1 (inBlock 2 (some (o',e',H')))=some (.ret,e',H'):=by rw[S];rfl
  rw[this,cQ];exact .inr ⟨rfl,J,O⟩
theorem rG(e:Env)(U:e.get 2=pT b2)(f3:e.get 3=pT b3)(f4:e.get 4=pT b4)(ok:d9→Prop)(s0:List Int)(E:∀H r h u y,R0 (QR Hs lo K false) (QR Hs lo K true) H rb lw G r rs vl h u y→Z1 rb lw W0 Hb [h,u,y] H→s0<+:r.size→ok H):
  ∀(L:List (Nat×Nat))(H:d9)(r:ReD)(h u y:Value),R0 (QR Hs lo K false) (QR Hs lo K true) H rb lw G r rs vl h u y→Z1 rb lw W0 Hb [h,u,y] H→WfR r n→s0<+:r.size→
   ∃o H',aw prog t6 kx ky 12 13 e ok L H=some (o,H')∧((o= .normal∧(cD size L r).2=true∧∃h u y,R0 (QR Hs lo K false) (QR Hs lo K true) H' rb lw G (cD size L r).1 rs vl h u y∧Z1 rb lw W0 Hb [h,u,y] H'∧WfR (cD size L r).1 n)∨(o= .ret∧(cD size L r).2=false∧H'.get b4=cE [.bool false] 1∧i4 lw Hb H'))
 |[],H,r,h,u,y,hR,hT,hwf,hs=>⟨.normal,H,rfl,.inl ⟨rfl,rfl,h,u,y,hR,hT,hwf⟩⟩
 |x::L,H,r,h,u,y,hR,hT,hwf,hs=>by
  have W:LE prog t6 kx ((13,iV (x.2:Int))::(12,iV (x.1:Int))::e) H=some (.normal,(6,iV (x.2:Int))::(5,iV (x.1:Int))::(13,iV (x.2:Int))::(12,iV (x.1:Int))::e,H):=by
   simp(maxSteps:=20000000) -dsimp (disch:=first|omega|(simp only[rH]<;>omega)|fail) only[↓ai3,rQ,D8,sevalprocAttr,tyA,]
  obtain⟨o,e2,H2,X,I⟩:=EY Hs lo K rb lw G rs vl W0 Hb b2 b3 b4 size h0 n hbox hlo heq x.1 x.2 ((6,iV (x.2:Int))::(5,iV (x.1:Int))::(13,iV (x.2:Int))::(12,iV (x.1:Int))::e) H r h u y U f3 f4 rfl rfl hR hT hwf;rcases I with⟨rfl,S,y1,y2,y3,z,D,O⟩|⟨rfl,S,h2,h3⟩
  ·have J:s0<+:(Q0 size x.1 x.2 r.labels 0 r).1.size:=hs.trans (ej size x.1 x.2 r.labels 0 r).2.2;obtain⟨o',H',k1,k2⟩:=rG e U f3 f4 ok s0 E L H2 _ y1 y2 y3 z D O J;refine⟨o',H',?_,?_⟩
   ·simp only[aw,W,X,if_pos (E H2 _ y1 y2 y3 z D J)];exact k1
   ·rw[cD,if_pos S];exact k2
  ·refine⟨.ret,H2,?_,.inr ⟨rfl,?_,h2,h3⟩⟩
   ·simp only[aw,W,X]
   ·rw[cD,S];rfl
end
theorem Ee{e:Env}{H:d9}{h y q:Value}{size:Int}{sa:Option Addr}{m c u z:Nat}{a:Addr}(S:e.get 11= .func (.func 84) #[] #[h,y])(U:ldc H h 0=some q)(W:ldc H y 0=some (.int .i64 size))(X:ldc H q 9=some (.slice sa m c))(hm:1≤m∧m≤1000)(D:ldc H q 10=some (.slice (some a) u z))(I:m≤u)(O:Nat→Int)(J:∀i,i<m→ldc H (.pointer (some a)) i=some (.int .i64 (O i))) (hb:∀i,i<m→0≤O i∧O i≤1000000):
  pg e H=some (ch O size m m,okP h y q m (fun i=>gj (iL (atA H (ldc H q 10) i))) size):=by
 have hc:∀i,i<m→gj (iL (atA H (ldc H q 10) i))=O i:=fun i E=>by
  rw[D];show gj (iL (ldc H (.pointer (some a)) i))=_;rw[J i E,iL,gj,if_pos (hb i E)]
 have e9:lnA (ldc H q 9)=m:=by rw[X];rfl
 have e3:iL (ldc H y 0)=size:=by rw[W];rfl
 have e0:(#[h,y]:Array Value).getD 0 undef=h:=rfl;have e1:(#[h,y]:Array Value).getD 1 undef=y:=rfl;have eq:(ldc H h 0).getD undef=q:=by rw[U];rfl
 unfold pg;simp only[S];rw[e0,e1,eq,e9,e3];rw[if_pos ⟨rfl,rfl,hm.1,hm.2,⟨sa,c,X⟩,U,W,a,u,z,D,I,fun i E=>by show ldc H (.pointer (some a)) i=some (.int .i64 (gj (iL (atA H (ldc H q 10) i))));rw[hc i E];exact J i E⟩];rw[sD hc m (Nat.le_refl m)]
theorem GL{H:d9}{lo:Nat}{w:Value}{l:List Int}(I:t7 H lo 1 (v8 inE) w l)(h:1≤l.length):∃a c,w= .slice (some a) l.length c∧∀i,i<l.length→ldc H (.pointer (some a)) i=some (.int .i64 (l.getD i 0)):=by
 have u:=I.sl;obtain⟨sa,c,rfl⟩:=u.slice;obtain⟨_,nb,o,_,_,_,_,_,rfl,_,_,_,_,_,_⟩:=u.row (i:=0) oM;refine⟨_,c,rfl,fun i S=>?_⟩;obtain⟨y,a1,o',cs,own,el,X,hd,E,W,O,U,D,J,rfl⟩:=u.row (i:=i) S;cases E;have z:=J 0 oM;rw[Nat.add_zero,Nat.mul_one]at z;unfold ldc;simp only[O,z];rw[List.getD_eq_getElem?_getD,X];rfl
theorem R0.back{z D:LV→Q→Prop}{H H':d9}{rb lw:Nat}{G:Nat→Prop}{r r0:ReD}{rs:LV}{vl O S U w1 w2 w3:Value}(h:R0 z D H' rb lw G r rs vl O S U)(y:R0 z D H rb lw G r0 rs vl w1 w2 w3)(u:∀j,j<H.next→H'.get j=H.get j):O=w1∧S=w2∧U=w3∧R0 z D H rb lw G r rs vl w1 w2 w3:=by
 have E:=h.g;rw[u rb (u6 y.g),y.g]at E;simp only[Option.some.injEq,Blk.cells.injEq,List.append_cancel_left_eq,List.cons.injEq,and_true,true_and]at E;obtain⟨rfl,rfl,rfl⟩:=E;have I:∀j,G j→H.get j=H'.get j:=fun j X=>(u j (y.fr j X).1).symm;have J:∀w∈ [w1,w2,w3],∀b,j9 w b→H.get b=H'.get b:=fun w hw b W=>(u b (y.inl hw W).2.2).symm;exact⟨rfl,rfl,rfl,y.g,h.st.mono I (fun _ h=>h) iF iF,h.lb.mono I (fun _ h=>h) (fun _ _ q=>w9 _ _ _ _ _ _ q I (fun _ h=>h)),h.so.same (J w1 (by simp)),h.sz.same (J w2 (by simp)),h.ho.same (J w3 (by simp)),h.ap,y.fr,y.nb⟩
theorem R0.side{I J:LV→Q→Prop}{H H':d9}{rb lw:Nat}{G:Nat→Prop}{r:ReD}{rs:LV}{vl w1 w2 w3:Value}(h:R0 I J H rb lw G r rs vl w1 w2 w3){b:Nat}(z:b≠rb∧¬G b∧∀w∈ [w1,w2,w3],¬j9 w b) (S:H.next≤H'.next) (u:∀j,j≠b→H'.get j=H.get j):R0 I J H' rb lw G r rs vl w1 w2 w3:=by
 have D:∀j,G j→H'.get j=H.get j:=fun j y=>u j fun q=>z.2.1 (q▸y);have E:∀w∈ [w1,w2,w3],∀j,j9 w j→H'.get j=H.get j:=fun w O j y=>u j fun q=>z.2.2 w O (q▸y);exact⟨(u rb fun q=>z.1 q.symm).trans h.g,h.st.mono D (fun _ h=>h) iF iF,h.lb.mono D (fun _ h=>h) (fun _ _ q=>w9 _ _ _ _ _ _ q D (fun _ h=>h)),h.so.same (E w1 (by simp)),h.sz.same (E w2 (by simp)),h.ho.same (E w3 (by simp)),h.ap,fun j y=>by have:=h.fr j y;exact⟨oM,this.2⟩,h.nb⟩
theorem XI(H:d9)(rb:Nat)(size:Int):CL prog t6 61 [pT rb,iV size] H=some (.func (.func 84) #[] #[pT H.next,.pointer (some ⟨H.next+1,0,none⟩)],some ⟨H.bs++[.cells [pT rb] true 1]++[.cells [iV size] true 1],min H.low H.next⟩):=by
 rw[j8 ac9 rfl _ (by simp)];refine J1 XX ?_;rfl
def Cx(Hs:d9)(lo K:Nat)(rb lw:Nat)(G:Nat→Prop)(rs:LV)(vl w1 w2 w3:Value)(n:Nat)(H:d9)(z:ReD×Bool):Value→d9→Prop:=fun v H'=>
 v= .bool z.2∧i4 lw H H'∧(z.2=true→∃x1 x2 x3,R0 (QR Hs lo K false) (QR Hs lo K true) H' rb lw G z.1 rs vl x1 x2 x3∧Z1 rb lw [w1,w2,w3] H [x1,x2,x3] H'∧WfR z.1 n)
theorem MG(Hs:d9)(lo K:Nat)(H:d9)(rb lw:Nat)(G:Nat→Prop)(rs:LV)(vl w1 w2 w3:Value)(size:Int)(h0:0≤size)(n:Nat)(hlo:lo≤lw)(heq:∀j,j<lo→H.get j=Hs.get j) (r:ReD) (hR:R0 (QR Hs lo K false) (QR Hs lo K true) H rb lw G r rs vl w1 w2 w3) (W:WfR r n):
  Ret (CL prog fK 34 [pT rb,iV size] H) H (Cx Hs lo K rb lw G rs vl w1 w2 w3 n H (jm r size)):=by
 obtain⟨H1,a1,n1,-⟩:=pushF H (.cells [pT rb] true 1);obtain⟨H2,I⟩:∃K,K=H1.push (.cells [iV size] true 1):=⟨_,rfl⟩
 have n2:H2.next=H.next+2:=by rw[I,i5,n1]
 obtain⟨u,D⟩:∃K,K=H2.push (.cells [.bool false] true 1):=⟨_,rfl⟩
 have n3:u.next=H.next+3:=by rw[D,i5,n2]
 have g2:u.get H.next=cE [pT rb] 1:=by rw[D,j6 oM,I,j6 oM,a1];exact i7
 have g3:u.get (H.next+1)=cE [iV size] 1:=by rw[D,j6 oM,I,←n1];exact i7
 have g4:u.get (H.next+2)=cE [.bool false] 1:=by rw[D,←n2];exact i7
 have a8:=XI u rb size;obtain⟨h,a6⟩:∃K:d9,K=⟨u.bs++[.cells [pT rb] true 1]++[.cells [iV size] true 1],min u.low u.next⟩:=⟨_,rfl⟩
 rw[←a6]at a8;rw[Ya];unfold AR jV;rw[if_pos (by simp)];have hE:∃y,pC prog t6 vw vx kx ky nh 12 13 pg (D8 0 [pT rb,iV size]) ⟨H.bs,H.next⟩=(match pg y h with
   |some (L,ok)=>match aw prog t6 kx ky 12 13 y ok L h with
    |some (.normal,u)=>LE prog t6 nh y u
    |some (.ret,u)=>some (.ret,y,u)
    |_=>none
   |none=>none)∧y.get 2=pT H.next∧y.get 3= .pointer (some ⟨H.next+1,0,none⟩)∧y.get 4= .pointer (some ⟨H.next+2,0,none⟩)∧y.get 11= .func (.func 84) #[] #[.pointer (some ⟨H.next+3,0,none⟩),.pointer (some ⟨H.next+4,0,none⟩)]:=by
  have ha:∃X,LE prog t6 vw (D8 0 [pT rb,iV size]) ⟨H.bs,H.next⟩=some (.normal,X,u)∧X.get 2=pT H.next∧X.get 3= .pointer (some ⟨H.next+1,0,none⟩)∧X.get 4= .pointer (some ⟨H.next+2,0,none⟩):=by
   refine J5 a1.symm n1 I.symm n2 D.symm ?_;exact⟨_,rfl,rfl,rfl,rfl⟩
  obtain⟨X,ha,p2,p3,p4⟩:=ha;have hb:∃y,LE prog t6 vx X u=some (.normal,y,h)∧y.get 2=pT H.next∧y.get 3= .pointer (some ⟨H.next+1,0,none⟩)∧y.get 4= .pointer (some ⟨H.next+2,0,none⟩)∧y.get 11= .func (.func 84) #[] #[.pointer (some ⟨H.next+3,0,none⟩),.pointer (some ⟨H.next+4,0,none⟩)]:=by
   rw[n3]at a8;refine J5 p2 p3 g2 g3 a8 ?_;exact⟨_,rfl,p2,p3,p4,rfl⟩
  obtain⟨y,hb,p⟩:=hb;refine⟨y,?_,p⟩;unfold pC;simp only[ha,hb];rfl
 obtain⟨y,hE,p2,p3,p4,d2⟩:=hE;rw[hE];have b5:h.bs=((u.push (.cells [pT rb] true 1)).push (.cells [iV size] true 1)).bs:=by rw[a6];rfl
 have d5:u.low=H.next:=by rw[D,I,a1];rfl
 have e3:h.low=H.next:=by rw[a6];show min u.low u.next=_;omega
 have n5:h.next=H.next+5:=by
  show h.bs.length=_;rw[b5];simp only[d9.push,List.length_append,List.length_singleton];have:u.bs.length=H.next+3:=n3;omega
 have g5:∀j,h.get j=((u.push (.cells [pT rb] true 1)).push (.cells [iV size] true 1)).get j:=fun j=>by show h.bs[j]?=_;rw[b5];rfl
 have o5:∀j,j<u.next→h.get j=u.get j:=fun j z=>by rw[g5,j6 (by rw[i5];omega),j6 z]
 have a3:h.get (H.next+3)=cE [pT rb] 1:=by rw[g5,j6 (by rw[i5];omega),←n3];exact i7
 have a4:h.get (H.next+4)=cE [iV size] 1:=by
  have e4:H.next+4=(u.push (.cells [pT rb] true 1)).next:=by rw[i5];omega
  rw[g5,e4];exact i7
 have old:∀j,j<H.next→h.get j=H.get j:=fun j z=>by rw[o5 j oM,D,j6 oM,I,j6 oM,a1,j6 (by exact z)];rfl
 have hS:i4 H.next H h:=⟨oM,fun k hk _=>oM,old⟩
 have J:=hR.keep hS;have e9:=u6 hR.g;have e8:=hR.nb.1;obtain⟨q8,q9,d3,f0⟩:=J.at_;obtain⟨s1,c1,X⟩:=J.so.slice;have d0:=W.l0;have e6:=W.l1;have e7:=W.l2;obtain⟨s2,c2,c7,z2⟩:=GL J.sz oM;have k1:ldc h (.pointer (some ⟨H.next+3,0,none⟩)) 0=some (pT rb):=by unfold ldc;simp only[a3];rfl
 have k3:ldc h (.pointer (some ⟨H.next+4,0,none⟩)) 0=some (.int .i64 size):=by unfold ldc;simp only[a4];rfl
 have k9:ldc h (pT rb) 9=some (.slice s1 r.sorts.length c1):=by unfold ldc;simp only[J.g,Nat.zero_add];rw[q9,X]
 have c4:ldc h (pT rb) 10=some (.slice (some s2) r.size.length c2):=by unfold ldc;simp only[J.g,Nat.zero_add];rw[d3,c7]
 have b8:∀i,i<r.sorts.length→0≤r.size.getD i 0∧r.size.getD i 0≤1000000:=fun i hi=>by
  have b1:i<r.size.length:=oM;have b7:r.size.getD i 0∈r.size:=by rw[List.getD_eq_getElem?_getD,List.getElem?_eq_getElem b1];exact List.getElem_mem b1
  have:=W.sb _ b7;omega
 have b6:=Ee d2 k1 k3 k9 ⟨d0,oM⟩ c4 oM (fun i=>r.size.getD i 0) (fun i hi=>z2 i oM) b8;obtain⟨ok,b9⟩:∃ok,ok=okP (.pointer (some ⟨H.next+3,0,none⟩)) (.pointer (some ⟨H.next+4,0,none⟩)) (pT rb) r.sorts.length (fun i=>gj (iL (atA h (ldc h (pT rb) 10) i))) size:=⟨_,rfl⟩
 rw[←b9]at b6;have b0:∀i,i<r.sorts.length→gj (iL (atA h (ldc h (pT rb) 10) i))=r.size.getD i 0:=fun i hi=>by
  rw[c4];show gj (iL (ldc h (.pointer (some s2)) i))=_;rw[z2 i oM,iL,gj,if_pos (b8 i hi)]
 have nW:∀j,H.next≤j→∀w∈ [w1,w2,w3],¬j9 w j:=fun j z w hw q=>by have:=(hR.inl hw q).2.2;omega
 have c0:∀H' r' x1 x2 x3,R0 (QR Hs lo K false) (QR Hs lo K true) H' rb lw G r' rs vl x1 x2 x3→Z1 rb lw [w1,w2,w3] h [x1,x2,x3] H'→r.size<+:r'.size→ok H':=by
  intro H' r' x1 x2 x3 S h2 h3;have hl:=h3.length_le;obtain⟨t8,t9,d4,f1⟩:=S.at_;obtain⟨s,c,es,zs⟩:=GL S.sz oM;rw[b9];have b3:H'.get (H.next+3)=h.get (H.next+3):=h2.but _ oM oM (nW _ oM);have b4:H'.get (H.next+4)=h.get (H.next+4):=h2.but _ oM oM (nW _ oM);refine⟨by unfold ldc;simp only[b3,a3];rfl,by unfold ldc;simp only[b4,a4];rfl,s,r'.size.length,c,by unfold ldc;simp only[S.g,Nat.zero_add];rw[d4,es],oM,fun i hi=>?_⟩;rw[zs i oM];show _=some (iV (gj (iL (atA h (ldc h (pT rb) 10) i))));rw[b0 i hi];obtain⟨t,ht⟩:=h3;rw[←ht,List.getD_eq_getElem?_getD,List.getD_eq_getElem?_getD,List.getElem?_append_left oM]
 have hbox:yU h rb lw [w1,w2,w3] H.next (H.next+1) (H.next+2) size:=⟨by rw[o5 _ oM];exact g2,by rw[o5 _ oM];exact g3,⟨_,by rw[o5 _ oM];exact g4⟩,fun j z=>⟨oM,oM,nW j oM⟩⟩
 obtain⟨o,H',hr,a2⟩:=rG Hs lo K rb lw G rs vl [w1,w2,w3] h H.next (H.next+1) (H.next+2) size h0 n hbox hlo (fun j z=>by rw[old j oM];exact heq j z) y p2 p3 p4 ok r.size c0 (ch (fun i=>r.size.getD i 0) size r.sorts.length r.sorts.length) h r w1 w2 w3 J (Z1.refl _ _ _ _) W List.prefix_rfl;obtain⟨kk,c8⟩:=dt Xw Xx _ _ hr;have c9:=bh (sj GH vF (Bs.lt 0) default) _ _ c8;have hz:cD size (ch (fun i=>r.size.getD i 0) size r.sorts.length r.sorts.length) r=jm r size:=rfl;rw[hz]at a2;have e0:(match pg y h with
   |some (L,ok)=>match aw prog t6 kx ky 12 13 y ok L h with
    |some (.normal,u)=>LE prog t6 nh y u
    |some (.ret,u)=>some (.ret,y,u)
    |_=>none
   |none=>none)=(match(some (o,H'):Option (Out×d9))with
    |some (.normal,u)=>LE prog t6 nh y u
    |some (.ret,u)=>some (.ret,y,u)
    |_=>none):=by rw[b6];simp only[hr]
 rw[e0];rcases a2 with⟨rfl,S,x1,x2,x3,a9,E,a5⟩|⟨rfl,S,h2,h3⟩
 ·have b4:H'.get (H.next+2)=cE [.bool false] 1:=by rw[E.but _ oM oM (nW _ oM),o5 _ oM];exact g4
  obtain⟨O,U⟩:∃K,K=H'.put (H.next+2) (.cells [.bool true] true 1):=⟨_,rfl⟩
  have nn:=E.stay.next;have c6:O.get (H.next+2)=cE [.bool true] 1:=by rw[U];exact i8 oM
  have d6:∀j,j≠H.next+2→O.get j=H'.get j:=fun j z=>by rw[U];exact i9 (fun q=>z q.symm)
  have n6:O.next=H'.next:=by rw[U,j5]
  have l6:O.low=min H'.low (H.next+2):=by rw[U,A4]
  simp only;refine J4 p4 b4 U.symm c6 ?_;refine D7 (fun _ hl=>?_) ?_
  ·have e5:H.next≤H'.low:=oM;have c5:∀j,j<H.next→H'.get j=H.get j:=fun j z=>by
    have:=c9.same j oM (by show j<h.next;omega);exact this.trans (old j z)
   obtain⟨_,_,_,a7⟩:=a9.back hR c5;exact⟨by rw[S],i4.refl _ _,fun _=>⟨w1,w2,w3,a7,Z1.refl _ _ _ _,a5⟩⟩
  ·have c3:i4 lw H ⟨O.bs,min H.low O.low⟩:=by
    refine⟨by show H.next≤O.next;omega,fun k hk q=>?_,fun j z=>?_⟩
    ·have:=E.stay.lowAll k hk oM;show k≤min H.low O.low;omega
    ·show O.get j=H.get j;rw[d6 j oM,E.stay.get j z,old j oM]
   refine⟨by rw[S],c3,fun _=>⟨x1,x2,x3,?_,⟨fun j z X y=>?_,fun b hb=>?_,c3⟩,a5⟩⟩
   ·refine a9.side (b:=H.next+2) ⟨oM,fun q=>by have:=(hR.fr _ q).1;omega,fun w hw q=>?_⟩ (by show H'.next≤O.next;omega) d6;rcases E.new _ ⟨w,hw,q⟩with⟨w',d1,q'⟩|q'
    ·exact nW _ oM w' d1 q'
    ·omega
   ·show O.get j=H.get j;rw[d6 j oM,E.but j oM X y,old j z]
   ·rcases E.new b hb with q|q
    ·exact .inl q
    ·exact .inr oM
 ·simp only;refine J2 p4 h2 ?_;refine D7 (fun _ hl=>⟨by rw[S],i4.refl _ _,fun q=>by rw[S]at q;cases q⟩) ⟨by rw[S],⟨?_,fun k hk q=>?_,fun j z=>?_⟩,fun q=>by rw[S]at q;cases q⟩
  ·have:=h3.next;show H.next≤H'.next;omega
  ·have:=h3.lowAll k hk oM;show k≤min H.low H'.low;omega
  ·show H'.get j=H.get j;rw[h3.get j z,old j oM]
def PE(p:PrD):Prop:=0≤p.st∧∀x∈p.ed,0≤x.1∧x.1<p.st∧0≤x.2.1∧x.2.1<p.st∧(x.2.2.1=3→0≤x.2.2.2∧x.2.2.2<p.ts.length)
theorem PE.edge{p:PrD}(h:PE p){f t:Int}(u:0≤f∧f<p.st)(y:0≤t∧t<p.st):PE (p.edge f t 0 0):=by
 refine⟨h.1,fun x z=>?_⟩;rcases List.mem_append.1 z with q|q
 ·exact h.2 x q
 ·rw[List.mem_singleton.1 q];exact⟨u.1,u.2,y.1,y.2,fun q=>by cases q⟩
theorem PE.more{p:PrD}(h:PE p)(d:Int)(J:0≤d):PE {p with st:=p.st+d}:=by
 refine⟨by show 0≤p.st+d;have:=h.1;omega,fun x D=>?_⟩;obtain⟨u,E,y,I,z⟩:=h.2 x D;exact⟨u,by show x.1<p.st+d;omega,y,by show x.2.1<p.st+d;omega,z⟩
theorem PE.fold{t:Int}:∀(l:List Int){p:PrD},PE p→(0≤t∧t<p.st)→(∀x∈l,0≤x∧x<p.st)→PE (l.foldl (fun m x=>m.edge x t 0 0) p)
 |[],p,h,_,_=>h
 |x::l,p,h,ht,hl=>by
  rw[List.foldl_cons];exact PE.fold l (h.edge (hl x (by simp)) ht) ht fun y u=>hl y (by simp [u])
def PW(p:PrD)(r:PrD×Int×Int):Prop:=PE r.1∧p.st≤r.1.st∧p.ts.length≤r.1.ts.length∧0≤r.2.1∧r.2.1<r.1.st∧0≤r.2.2∧r.2.2<r.1.st
mutual
theorem gh:∀(q:Q)(p:PrD),OkD false q→PE p→PW p (C5 q p)
 | .mk o s c v a b,p,hok,hp=>by
  obtain⟨ha,hb,h1,h2,h3⟩:=hok.parts;obtain⟨n1,n2,n3,n4⟩:=dk h3;have l4:o=4→1≤a.length:=by
   rintro rfl;have:(2:Int)≤a.length:=n1;omega
  have l6:o=6→1≤a.length:=by
   rintro rfl;have:(1:Int)≤a.length:=n1;omega
  simp only[Q.op,Q.a,Q.b,Bool.false_eq_true,if_false]at ha hb h1 n3 n4;have hp0:=hp.1;rw[C5];split
  ·rename_i ho;exact Fd a p (l4 ho) ha hp
  ·rename_i ho4;split
   ·rename_i ho;obtain⟨k1,k2,k3,k4⟩:=vg a p.st {p with st:=p.st+1} [] ha (hp.more 1 oM) ⟨hp.1,by show p.st<p.st+1;omega⟩ (fun e he=>by cases he);obtain⟨f1,f2,_⟩:=iB (L5 a p.st {p with st:=p.st+1} []).1.st (L5 a p.st {p with st:=p.st+1} []).2 {(L5 a p.st {p with st:=p.st+1} []).1 with st:=(L5 a p.st {p with st:=p.st+1} []).1.st+1};have k2':p.st+1≤(L5 a p.st {p with st:=p.st+1} []).1.st:=k2;unfold PW;rw[f1,f2];refine⟨?_,by show p.st≤(L5 a p.st {p with st:=p.st+1} []).1.st+1;omega,k3,hp.1,by show p.st<(L5 a p.st {p with st:=p.st+1} []).1.st+1;omega,k1.1,by show(L5 a p.st {p with st:=p.st+1} []).1.st<(L5 a p.st {p with st:=p.st+1} []).1.st+1;omega⟩;refine PE.fold _ (k1.more 1 oM) ⟨k1.1,by show(L5 a p.st {p with st:=p.st+1} []).1.st<(L5 a p.st {p with st:=p.st+1} []).1.st+1;omega⟩ fun x hx=>?_;have:=k4 x hx;exact⟨this.1,by show x<(L5 a p.st {p with st:=p.st+1} []).1.st+1;omega⟩
   ·rename_i ho5;split
    ·rename_i ho;obtain⟨k1,k2,k3,k4,k5,k6,k7⟩:=EF a {p with st:=p.st+1} (l6 ho) ha (hp.more 1 oM);have k2':p.st+1≤(gS a {p with st:=p.st+1}).1.st:=k2;exact⟨(k1.edge ⟨hp.1,oM⟩ ⟨k4,k5⟩).edge ⟨k6,k7⟩ ⟨hp.1,by show p.st<(gS a {p with st:=p.st+1}).1.st;omega⟩,by show p.st≤(gS a {p with st:=p.st+1}).1.st;omega,k3,hp.1,by show p.st<(gS a {p with st:=p.st+1}).1.st;omega,hp.1,by show p.st<(gS a {p with st:=p.st+1}).1.st;omega⟩
    ·rename_i ho6;have hts:p.ts.length≤(if o=7 then p.ts++b else p.ts).length:=by
      split
      ·rw[List.length_append];omega
      ·exact lR
     refine⟨⟨by show 0≤p.st+2;omega,fun x hx=>?_⟩,by show p.st≤p.st+2;omega,hts,hp.1,by show p.st<p.st+2;omega,by show 0≤p.st+1;omega,by show p.st+1<p.st+2;omega⟩;rcases List.mem_append.1 hx with q|q
     ·obtain⟨e1,e2,e3,e4,e5⟩:=hp.2 x q;refine⟨e1,by show x.1<p.st+2;omega,e3,by show x.2.1<p.st+2;omega,fun h=>?_⟩;have:=e5 h;exact⟨this.1,by show x.2.2.2<((if o=7 then p.ts++b else p.ts).length:Int);omega⟩
     ·rw[List.mem_singleton.1 q];refine⟨hp.1,by show p.st<p.st+2;omega,by show 0≤p.st+1;omega,by show p.st+1<p.st+2;omega,fun h=>?_⟩;have h7:o=7:=by
       by_cases h7:o=7
       ·exact h7
       ·exfalso
        simp only[if_neg h7]at h;split at h
        ·cases h
        ·split at h<;>cases h
      show 0≤(if o=7 then(p.ts.length:Int) else 0)∧(if o=7 then(p.ts.length:Int) else 0)<((if o=7 then p.ts++b else p.ts).length:Int);rw[if_pos h7,if_pos h7,List.length_append];have:=n3.1 h7;omega
theorem Fd:∀(l:List Q)(p:PrD),1≤l.length→(∀x∈l,OkD false x)→PE p→PW p (hU l p)
 |[],p,h,_,_=>by simp at h
 |x::l,p,_,h,hp=>by
  rw[hU];exact vP l (C5 x p) p (fun y hy=>h y (by simp [hy])) (gh x p (h x (by simp)) hp)
theorem vP:∀(l:List Q)(x:PrD×Int×Int)(p:PrD),(∀y∈l,OkD false y)→PW p x→PW p (cP l x)
 |[],x,p,_,h=>by rw[cP];exact h
 |q::l,x,p,h,hx=>by
  rw[cP];obtain⟨k1,k2,k3,k4,k5,k6,k7⟩:=hx;obtain⟨m1,m2,m3,m4,m5,m6,m7⟩:=gh q x.1 (h q (by simp)) k1;refine vP l _ p (fun y hy=>h y (by simp [hy])) ⟨m1.edge ⟨k6,oM⟩ ⟨m4,m5⟩,by show p.st≤(C5 q x.1).1.st;omega,by show p.ts.length≤(C5 q x.1).1.ts.length;omega,k4,by show x.2.1<(C5 q x.1).1.st;omega,m6,m7⟩
theorem vg:∀(l:List Q)(n:Int)(p:PrD)(es:List Int),(∀y∈l,OkD false y)→PE p→(0≤n∧n<p.st)→(∀e∈es,0≤e∧e<p.st)→
  PE (L5 l n p es).1∧p.st≤(L5 l n p es).1.st∧p.ts.length≤(L5 l n p es).1.ts.length∧∀e∈(L5 l n p es).2,0≤e∧e<(L5 l n p es).1.st
 |[],n,p,es,_,hp,_,he=>by rw[L5];exact⟨hp,Int.le_refl _,lR,he⟩
 |x::l,n,p,es,h,hp,hn,he=>by
  rw[L5];obtain⟨m1,m2,m3,m4,m5,m6,m7⟩:=gh x p (h x (by simp)) hp;obtain⟨r1,r2,r3,r4⟩:=vg l n ((C5 x p).1.edge n (C5 x p).2.1 0 0) (es++[(C5 x p).2.2]) (fun y hy=>h y (by simp [hy])) (m1.edge ⟨hn.1,oM⟩ ⟨m4,m5⟩) ⟨hn.1,by show n<(C5 x p).1.st;omega⟩ (fun e hm=>by
   rcases List.mem_append.1 hm with q|q
   ·have:=he e q;exact⟨this.1,by show e<(C5 x p).1.st;omega⟩
   ·rw[List.mem_singleton.1 q];exact⟨m6,m7⟩)
  have r2':(C5 x p).1.st≤(L5 l n ((C5 x p).1.edge n (C5 x p).2.1 0 0) (es++[(C5 x p).2.2])).1.st:=r2;have r3':(C5 x p).1.ts.length≤(L5 l n ((C5 x p).1.edge n (C5 x p).2.1 0 0) (es++[(C5 x p).2.2])).1.ts.length:=r3;exact⟨r1,oM,oM,r4⟩
theorem EF:∀(l:List Q)(p:PrD),1≤l.length→(∀x∈l,OkD false x)→PE p→PW p (gS l p)
 |[],p,h,_,_=>by simp at h
 |x::l,p,_,h,hp=>by
  rw[gS];exact gh x p (h x (by simp)) hp
end
theorem zK(q:Q)(h:OkD false q)(U:nQ q≤100000):PWf (C0 q):=by
 obtain⟨u,O,S,y,z,D,E⟩:=gh q ⟨0,0,0,[],[]⟩ h ⟨Int.le_refl _,fun x J=>by cases J⟩;have I:=cy q;exact⟨⟨I.1,oM⟩,⟨y,z⟩,⟨D,E⟩,u.2⟩
theorem nZ(q:Q)(O:OkD false q)(hn:nQ q≤1000):0≤y9 (D0 q).progs∧y9 (D0 q).progs≤2000*((D0 q).progs.length:Int)∧∀(i:Nat) p b,(D0 q).progs[i]?=some p→(D0 q).base[i]?=some b→0≤b∧b+p.st≤y9 (D0 q).progs∧PWf p:=by
 obtain⟨h1,h2⟩:=bH _ false q lR O;have key:∀(l:List Q)(s:StD),(∀x∈l,OkD false x∧nQ x≤nQ q)→s.base.length=s.progs.length→0≤y9 s.progs→y9 s.progs≤2000*(s.progs.length:Int)→(∀(i:Nat) p b,s.progs[i]?=some p→s.base[i]?=some b→0≤b∧b+p.st≤y9 s.progs∧PWf p)→
   0≤y9 (l.foldl F4 s).progs∧y9 (l.foldl F4 s).progs≤2000*((l.foldl F4 s).progs.length:Int)∧∀(i:Nat) p b,(l.foldl F4 s).progs[i]?=some p→(l.foldl F4 s).base[i]?=some b→0≤b∧b+p.st≤y9 (l.foldl F4 s).progs∧PWf p:=by
  intro l;induction l with
  |nil=>intro s _ _ D I E;exact⟨D,I,E⟩
  |cons x l ih=>
   intro s U J D I E;rw[List.foldl_cons];have S:=U x (by simp);have hc:=cy x;refine ih (F4 s x) (fun y hy=>U y (by simp [hy])) ?_ ?_ ?_ ?_
   ·rw[F4];split
    ·exact J
    ·simp [J]
   ·rw[F4];split
    ·exact D
    ·rw[X0];omega
   ·rw[F4];split
    ·exact I
    ·rw[X0,List.length_append,List.length_singleton];omega
   ·rw[F4];split
    ·exact E
    ·intro i p b u h;rw[X0];by_cases hi:i<s.progs.length
     ·rw[List.getElem?_append_left hi]at u;rw[List.getElem?_append_left oM]at h;obtain⟨W,a2,X⟩:=E i p b u h;exact⟨W,oM,X⟩
     ·have z:i=s.progs.length:=by
       have:=(List.getElem?_eq_some_iff.1 u).1;simp at this;omega
      rw[List.getElem?_append_right oM,z,Nat.sub_self]at u;rw[List.getElem?_append_right oM,z,J,Nat.sub_self]at h;simp at u h;subst u h;exact⟨D,Int.le_refl _,zK x S.1 oM⟩
 exact key (inQ false q) ⟨[],[],[],C0 q⟩ h2 rfl (Int.le_refl _) (by simp [y9]) (fun i p b u=>by simp at u)
theorem yG(q:Q)(h:OkD false q)(W:nQ q≤400):WfS (D0 q) (y9 (D0 q).progs).toNat:=by
 obtain⟨z,D,S,U⟩:=ii q h;obtain⟨X,k2,J⟩:=nZ q h oM;refine⟨z,D,oM,oM,fun i p b I E=>?_⟩;obtain⟨u,O,y⟩:=J i p b I E;exact⟨u,oM,y⟩
theorem Ret.one{f:FuncId}{args:LV}{H H':d9}{Q:Value→d9→Prop}(h:Ret (CL prog t6 f args H) H' Q):Ret (CL prog fK f args H) H' Q:=by
 obtain⟨v,y,u,z,D,E⟩:=h;exact⟨v,y,u,fx z,D,E⟩
theorem Nj{a b:Int}(h:0≤a∧a≤200)(u:0≤b∧b≤200):0≤mx2 a b∧mx2 a b≤200:=by unfold mx2;split<;>assumption
theorem Nk:∀l:List Int,(∀x∈l,0≤x∧x≤200)→0≤mxL l∧mxL l≤200
 |[],_=>by simp [mxL]
 |x::l,h=>by
  have:∀(l:List Int)(m:Int),(∀x∈l,0≤x∧x≤200)→0≤m∧m≤200→0≤l.foldl mx2 m∧l.foldl mx2 m≤200:=by
   intro l;induction l with
   |nil=>intro m _ h;exact h
   |cons y l J=>intro m u D;rw[List.foldl_cons];exact J _ (fun z I=>u z (by simp [I])) (Nj D (u y (by simp)))
  exact this l x (fun y E=>h y (by simp [E])) (h x (by simp))
def mD:Nat→ReD→Int→Option ReD
 |0,r,_=>some r
 |k+1,r,size=>if decide (size≤2*mxL r.size+1) then(if(jm r size).2 then mD k (jm r size).1 (size+1) else none) else some r
def z12:LV:=[nS,nS,nS,iV 0,iV 0,iV 0,nS,nS,nS,nS,nS,nS]
theorem uv(S:d9)(lo K:Nat)(W J:Nat)(G:Nat→Prop)(rs:LV)(vl:Value)(Hb:d9)(z:Nat)(n:Nat)(a8:lo≤J)(a7:∀j,j<lo→Hb.get j=S.get j) (a2:z<J) (g2:Hb.get z=cE z12 1) (D:Option ReD):
  ∀U e H,(∃(size:Int)(r:ReD)(X O x3:Value),U=(402-size).toNat∧0≤size∧size≤402∧e.get 2=pT z∧e.get 6=pT W∧e.get 7=iV size∧
    R0 (QR S lo K false) (QR S lo K true) H W J G r rs vl X O x3∧i4 J Hb H∧WfR r n∧mD U r size=D)→
  u9 (LE prog fK (.loop Fv) e H) (fun o e H=>e.get 2=pT z∧((o= .exit 0∧e.get 6=pT W∧i4 J Hb H∧∃r X O x3,D=some r∧R0 (QR S lo K false) (QR S lo K true) H W J G r rs vl X O x3∧WfR r n)∨(o= .ret∧D=none∧e.get 3=iV 13∧H.get z=cE z12 1∧i4 z Hb H))):=by
 refine j7 _ _ ?_;rintro U e H ⟨size,r,X,O,x3,hk,b1,b8,f2,f6,f7,hR,hS,u,y⟩;obtain⟨q8,q9,b3,c0⟩:=hR.at_;have a9:=Nk r.size u.sb;have b5:=u.l0;have b6:=u.l1;have b7:=u.l2;have ho:=fx (Nr H W _ true 1 hR.g O r.size hR.sz.sl b3 oM oM size a9.1 oM);rcases bo:decide (size≤2*mxL r.size+1)with _|_
 ·rw[bo]at ho;have a3:D=some r:=by
   cases U with
   |zero=>rw[mD]at y;exact y.symm
   |succ k=>rw[mD,bo]at y;exact y.symm
  refine J3 f6 f7 ho ?_;exact l7 ⟨f2,.inl ⟨rfl,f6,hS,r,X,O,x3,a3,hR,u⟩⟩
 ·have b4:=dT bo;rw[bo]at ho;obtain⟨k,rfl⟩:∃k,U=k+1:=⟨U-1,oM⟩
  rw[mD,bo]at y;simp only[if_true]at y;obtain⟨v,hp,H1,h,E,hv,I,b0⟩:=MG S lo K H W J G rs vl X O x3 size b1 n a8 (fun j hj=>by rw[hS.get j oM];exact a7 j hj) r hR u;subst hv;have a1:H1.get z=cE z12 1:=by rw[I.get z a2,hS.get z a2];exact g2
  have a5:=u6 a1;rcases bz:(jm r size).2 with _|_
  ·rw[bz]at h y;simp only[Bool.false_eq_true,if_false]at y;simp(maxSteps:=20000000) -dsimp (disch:=first|omega|(simp only[rH]<;>omega)|fail) only[↓ai3,rQ,D8,sevalprocAttr,tyA,f2,f6,f7,ho,h,E,a1,z12];exact A6 ⟨f2,.inr ⟨rfl,y.symm,rfl,i8 a5,((hS.trans I).weaken oM).trans (i4.put lR)⟩⟩
  ·obtain⟨y1,y2,y3,a6,_,a4⟩:=b0 bz;rw[bz]at h y;simp only[if_true]at y;have b9:2*mxL r.size+1≤401:=oM;refine J6 f6 f7 ho h E @wrap_small ?_;exact i6 k oM ⟨size+1,_,y1,y2,y3,oM,oM,oM,f2,f6,rfl,a6,hS.trans I,a4,y⟩
theorem dq(P:Program)(e:Env)(H:d9)(a:Nat)(t:TypeId)(u:Nat):[ResultVar.cell a t,.tmp u].mapM (L3 P e H)=(ld P t H (e.get a)).map fun v=>[v,e.get u]:=by
 simp only[List.mapM_cons,List.mapM_nil,L3];cases ld P t H (e.get a)<;>rfl
theorem yF(q:Q)(D:OkD false q):∀p∈(D0 q).progs,∃x,nQ x≤nQ q∧p=C0 x:=by
 obtain⟨O,E⟩:=bH _ false q lR D;have key:∀(l:List Q)(s:StD),(∀x∈l,nQ x≤nQ q)→(∀p∈s.progs,∃x,nQ x≤nQ q∧p=C0 x)→∀p∈(l.foldl F4 s).progs,∃x,nQ x≤nQ q∧p=C0 x:=by
  intro l;induction l with
  |nil=>intro s _ h;exact h
  |cons x l J=>
   intro s z h;rw[List.foldl_cons];refine J (F4 s x) (fun y I=>z y (by simp [I])) ?_;rw[F4];split
   ·exact h
   ·intro p u;rcases List.mem_append.1 u with u|u
    ·exact h p u
    ·exact⟨x,z x (by simp),by simpa using u⟩
 exact key (inQ false q) ⟨[],[],[],C0 q⟩ (fun x z=>(E x z).2) (by simp)
theorem wQ(q:Q):(C0 q).ed.length≤4*nQ q∧(C0 q).ts.length≤nQ q:=by
 have:=E8 q ⟨0,0,0,[],[]⟩;unfold X9 at this;simp only[C0];simp only[List.length_nil]at this;omega
theorem SlF.off{H:d9}{F:Nat→Prop}{sz:Nat}{α:Type}{R z:LV→α→Prop}{v:Value}{l:List α}{b:Nat}{c:LV}{own:Bool}(h:SlF H F sz R v l)(W:H.get b=some (.cells c own 1))(y:sz≠1)(S:∀cs a,R cs a→z cs a):SlF H (fun j=>F j∧j≠b) sz z v l:=by
 rcases h with h|⟨D,o,E,X,h⟩
 ·exact .inl h
 ·refine .inr ⟨D,o,E,X,h.imp id fun⟨cs,ow,I,u,J,O⟩=>⟨cs,ow,⟨I,fun q=>?_⟩,u,J,fun i a U=>S _ _ (O i a U)⟩⟩;subst q;rw[W]at u;cases u;exact y rfl
def aD(H:d9)(F:Nat→Prop)(Rp Rt:LV→Q→Prop)(row:LV)(r:ReD):Prop:=∃rs vl w1 w2 w3,row=rs++[vl,w1,w2,w3]∧StF H F Rp Rt rs r.strat∧SlF H F 5 (EvF H F) vl r.labels∧SlF H F 3 (v8 soE) w1 r.sorts∧SlF H F 1 (v8 inE) w2 r.size∧SlF H F 3 (v8 hoE) w3 r.how
def Ob(H:d9)(lo K:Nat)(n:Nat)(res:Option ReD)(v:Value)(H':d9):Prop:=∃row er,v= .tuple #[.agg row.toArray,iV er]∧i4 H.next H H'∧((res=none∧row=z12∧er=13)∨∃r,res=some r∧er=0∧WfR r n∧aD H' (· <H'.next) (QR H lo K false) (QR H lo K true) row r)
def rg(q:Q):Option ReD:=match S8 (spQ q)with
 |none=>none
 |some l=>mD 401 ⟨D0 q,l,[soZ],[0],[(0,0,0)]⟩ 1
theorem gF(q:Q){l:List EvD}(h:S8 (spQ q)=some l):l.length≤24∧∀e∈l,e.attrs.length≤1000000:=by
 obtain⟨W,X,D,z4,z5⟩:=jX q;have y:=kS (spQ q) D;rw[y]at h;split at h
 ·cases h
 ·rename_i I;cases h;obtain⟨c1,c2,S,U,E⟩:=ko I D;refine⟨E,fun e u=>?_⟩;have key:∀(l:List (NmQ×List ByteArray))(e0 e:EvD),e∈R4 l e0→e.attrs.length≤e0.attrs.length+l.length:=by
   intro l;induction l with
   |nil=>intro e0 e u;rw[R4,List.mem_singleton]at u;subst u;simp
   |cons x l z=>
    intro e0 e u;rw[R4,List.mem_append]at u;rcases u with u|u
    ·have:=z e0 e u;rw[List.length_cons];omega
    ·obtain⟨v,_,O⟩:=List.mem_flatMap.1 u;have:=z _ e O;simp only[atV,List.length_append,List.length_singleton]at this;rw[List.length_cons];omega
  rw[jp,List.mem_append]at u;rcases u with u|u
  ·obtain⟨n,_,J⟩:=List.mem_flatMap.1 u;have:=key _ _ _ J;rw[List.length_zip]at this;simp only[Y4,List.length_nil]at this;omega
  ·obtain⟨t,_,rfl⟩:=List.mem_map.1 u;simp [bZ]
theorem Bm(K:Nat)(H:d9)(lo:Nat)(cs:LV)(q:Q)(n5:lo≤H.next)(hr:QR H lo K false cs q)(b8:OkD false q)(g7:nQ q≤400):
  Ret (CL prog fK 11 [.agg cs.toArray] H) H (Ob H lo K (y9 (D0 q).progs).toNat (rg q)):=by
 have ac:=F0 hr;have ldc:=M8 hr;have l0:=hr.len;simp only[qSz,Bool.false_eq_true,if_false]at l0;rw[l0]at ldc;obtain⟨H0,b0,n0,-⟩:=pushF H (.cells cs true 1);obtain⟨H1,a5⟩:∃K,K=H0.push (.cells z12 true 1):=⟨_,rfl⟩
 have n1:H1.next=H.next+2:=by rw[a5,i5,n0]
 have b6:i4 H.next H H1:=by rw[a5,b0];exact(i4.first H _).trans (i4.push (by rw[i5];exact Nat.le_succ _))
 have g1:H1.get H.next=cE cs 1:=by rw[a5,j6 oM,b0];exact i7
 have g2:H1.get (H.next+1)=cE z12 1:=by rw[a5,←n0];exact i7
 obtain⟨vl,n8,Hl,c0,b7,v,er,rfl,g8,U⟩:=(Be H1 lo K cs q oM (hr.mono (fun j E=>b6.get j oM) lR) b8 oM).one;have nl:=U.next;have i3:=(U.get H.next oM).trans g1;have c5:=(U.get (H.next+1) oM).trans g2;have b3:=a5;have c9:=c5;simp only[z12]at b3 c9;rw[j8 aa4 rfl _ (by simp)];unfold rg;rcases g8 with⟨hn,rfl,rfl⟩|⟨l,hl,rfl,hv⟩
 ·rw[hn];obtain⟨H2,c7⟩:∃K,K=Hl.put (H.next+1) (.cells z12 true 1):=⟨_,rfl⟩
  have c2:H2.get (H.next+1)=cE z12 1:=by rw[c7];exact i8 oM
  have m0:H2.low=min Hl.low (H.next+1):=by rw[c7,A4]
  have k1:i4 H.next H H2:=by rw[c7];exact(b6.trans (U.weaken oM)).trans (i4.put oM)
  have d0:=c7;simp only[z12]at d0 c2;refine J12 ac b0.symm n0 b3.symm g1 ldc c0 b7 c9 d0.symm c2 @dq ?_;refine D7 (fun _ _=>?_) ?_
  ·exact⟨z12,13,rfl,i4.refl _ _,.inl ⟨rfl,rfl,rfl⟩⟩
  ·exact⟨z12,13,rfl,k1.ret (by have:=U.lowAll H.next oM (by rw[a5,b0];exact lR);omega),.inl ⟨rfl,rfl,rfl⟩⟩
 ·rw[hl];obtain⟨n4,k2⟩:=gF q hl;obtain⟨vs,n9,u,f1,e6,rs,rfl,d2,b2⟩:=(uO K Hl lo cs q oM (hr.mono (fun j E=>by rw[U.get j oM,b6.get j oM]) lR) b8 oM).one;have nm:=b2.next;have j0:=(b2.get (H.next+1) oM).trans c5;obtain⟨sa,sc,rfl⟩:=hv.slice;obtain⟨pa,pc,ga,gc,xa,xc,ea,ec,ta,tc,I,_⟩:=N3 d2;have a8:rs.length=8:=by rw[I];rfl
  have h9:rs.all Value.oneCell'=true:=by rw[I];rfl
  obtain⟨M1,b4,m1,-⟩:=pushE u (.cells (soE soZ) true 3);obtain⟨M2,a6⟩:∃K,K=M1.push (.cells (inE 0) true 1):=⟨_,rfl⟩
  have m2:M2.next=u.next+2:=by rw[a6,i5,m1]
  obtain⟨M3,X⟩:∃K,K=M2.push (.cells (hoE (0,0,0)) true 3):=⟨_,rfl⟩
  have m3:M3.next=u.next+3:=by rw[X,i5,m2]
  obtain⟨M4,O⟩:∃K,K=M3.push (.cells z12 true 1):=⟨_,rfl⟩
  have m4:M4.next=u.next+4:=by rw[O,i5,m3]
  have gz:M4.get (u.next+3)=cE z12 1:=by rw[O,←m3];exact i7
  have m8:∀Hx:d9,bsA prog (some 59) Hx 1 [(0,.agg (soE soZ).toArray)]=some (.slice (some ⟨Hx.next,0,none⟩) 1 1,Hx.push (.cells (soE soZ) true 3)):=fun Hx=>by simp only[C7,yO,C8];rfl
  have i0:∀Hx:d9,bsA prog (some 3) Hx 1 [(0,iV 0)]=some (.slice (some ⟨Hx.next,0,none⟩) 1 1,Hx.push (.cells (inE 0) true 1)):=fun Hx=>by simp only[C7,ty3,C8];rfl
  have i2:∀Hx:d9,bsA prog (some 56) Hx 1 [(0,.agg (hoE (0,0,0)).toArray)]=some (.slice (some ⟨Hx.next,0,none⟩) 1 1,Hx.push (.cells (hoE (0,0,0)) true 3)):=fun Hx=>by simp only[C7,yN,C8];rfl
  obtain⟨J,a4⟩:∃J,J=rs++[.slice sa l.length sc,.slice (some ⟨u.next,0,none⟩) 1 1,.slice (some ⟨u.next+1,0,none⟩) 1 1,.slice (some ⟨u.next+2,0,none⟩) 1 1]:=⟨_,rfl⟩
  obtain⟨r0,e7⟩:∃r:LV,r=rs++[nS,nS,nS,nS]:=⟨_,rfl⟩
  obtain⟨r1,e8⟩:∃r:LV,r=rs++[.slice sa l.length sc,nS,nS,nS]:=⟨_,rfl⟩
  obtain⟨r2,e9⟩:∃r:LV,r=rs++[.slice sa l.length sc,.slice (some ⟨u.next,0,none⟩) 1 1,nS,nS]:=⟨_,rfl⟩
  obtain⟨r3,f0⟩:∃r:LV,r=rs++[.slice sa l.length sc,.slice (some ⟨u.next,0,none⟩) 1 1,.slice (some ⟨u.next+1,0,none⟩) 1 1,nS]:=⟨_,rfl⟩
  have k8:splice [nS,nS,nS,iV 0,iV 0,iV 0,nS,nS,nS,nS,nS,nS] 0 rs=r0:=by rw[e7,I];rfl
  have k9:splice r0 8 [.slice sa l.length sc]=r1:=by rw[e7,e8,I];rfl
  have l1:splice r1 9 [.slice (some ⟨u.next,0,none⟩) 1 1]=r2:=by rw[e8,e9,I];rfl
  have l3:splice r2 10 [.slice (some ⟨u.next+1,0,none⟩) 1 1]=r3:=by rw[e9,f0,I];rfl
  have l4:splice r3 11 [.slice (some ⟨u.next+2,0,none⟩) 1 1]=J:=by rw[f0,a4,I];rfl
  have k4:r0.length=12:=by rw[e7];simp [a8]
  have k5:r1.length=12:=by rw[e8];simp [a8]
  have k6:r2.length=12:=by rw[e9];simp [a8]
  have k7:r3.length=12:=by rw[f0];simp [a8]
  have h7:J.length=12:=by rw[a4];simp [a8]
  have g3:J.all Value.oneCell'=true:=by rw[a4,I];rfl
  have l5:splice [nS,nS,nS,iV 0,iV 0,iV 0,nS,nS,nS,nS,nS,nS] 0 J=J:=by rw[a4,I];rfl
  obtain⟨M5,S⟩:∃K,K=M4.put (u.next+3) (.cells J true 1):=⟨_,rfl⟩
  have m5:M5.next=u.next+4:=by rw[S,j5,m4]
  have g6:M1=u.push (.cells [.bool false,.bool false,.string eB] true 3):=b4;have h6:H.next≤Hl.low:=U.lowAll H.next oM (by rw[a5,b0];exact lR);have m6:H.next≤u.low:=b2.lowAll H.next oM h6;have d3:H.next≤M5.low:=by
   have e4:M4.low=u.low:=by rw[O,X,a6,b4];rfl
   rw[S,A4,e4];omega
  have d1:=O;have g5:=gz;simp only[z12]at d1 g5;refine J30 ac b0.symm n0 b3.symm g1 i3 ldc c0 b7 f1 e6 i0 i2 g6.symm m1 a6.symm m2 X.symm m3 d1.symm g5 a8 h9 k8 (And.intro k9 l1) (And.intro l3 l4) (And.intro k4 k5) (And.intro k6 k7) (And.intro h7 g3) (And.intro l5 S.symm) ?_;have sG:∀j,j<u.next→M5.get j=u.get j:=fun j E=>by rw[S,i9 oM,O,j6 oM,X,j6 oM,a6,j6 oM,b4,j6 oM]
  have j1:M5.get u.next=cE (soE soZ) 3:=by rw[S,i9 oM,O,j6 oM,X,j6 oM,a6,j6 oM,b4];exact i7
  have j2:M5.get (u.next+1)=cE (inE 0) 1:=by rw[S,i9 oM,O,j6 oM,X,j6 oM,a6,←m1];exact i7
  have j3:M5.get (u.next+2)=some (.cells (hoE (0,0,0)) true 3):=by rw[S,i9 oM,O,j6 oM,X,←m2];exact i7
  have j4:M5.get (u.next+3)=cE J 1:=by rw[S];exact i8 oM
  have h8:∀j,j<lo→Hl.get j=H.get j:=fun j E=>by rw[U.get j oM,b6.get j oM]
  obtain⟨c8,b9⟩:∃r:ReD,r=⟨D0 q,l,[soZ],[0],[(0,0,0)]⟩:=⟨_,rfl⟩
  have k3:SlF Hl (fun j=>j<Hl.next∧j≠H.next+1) 5 (EvF Hl (fun j=>j<Hl.next∧j≠H.next+1)) (.slice sa l.length sc) l:=hv.off c5 oM fun cs e⟨w,h1,h2⟩=>⟨w,h1,h2.off c5 oM fun _ _ h=>h⟩
  have k0:R0 (QR H lo K false) (QR H lo K true) M5 (u.next+3) u.next (fun j=>j<u.next∧j≠H.next+1) c8 rs (.slice sa l.length sc) (.slice (some ⟨u.next,0,none⟩) 1 1) (.slice (some ⟨u.next+1,0,none⟩) 1 1) (.slice (some ⟨u.next+2,0,none⟩) 1 1):=by
   rw[b9];refine⟨by rw[j4,a4],d2.mono (fun j E=>sG j E.2) (fun j E=>⟨E.2,oM⟩) (fun _ _ h=>h.mono (fun j E=>(h8 j E).symm) lR) (fun _ _ h=>h.mono (fun j E=>(h8 j E).symm) lR),
    k3.mono (fun j E=>by rw[sG j oM];exact b2.get j E.1) (fun j E=>⟨oM,E.2⟩) (fun _ _ h=>w9 _ _ _ _ _ _ h (fun j E=>by rw[sG j oM];exact b2.get j E.1) (fun j E=>⟨oM,E.2⟩)),
    ⟨_,.inr ⟨u.next,1,rfl,j1,lR,rfl⟩,D2.one rfl rfl⟩,⟨_,.inr ⟨u.next+1,1,rfl,j2,oM,rfl⟩,D2.one rfl rfl⟩,⟨_,.inr ⟨u.next+2,1,rfl,j3,oM,rfl⟩,D2.one rfl rfl⟩,?_,fun j E=>⟨oM,oM,?_⟩,oM,?_⟩
   ·intro i j a b ha hb n2 x hx hy;have hi:i<3:=by have:=(List.getElem?_eq_some_iff.1 ha).1;simpa using this
    have E:j<3:=by have:=(List.getElem?_eq_some_iff.1 hb).1;simpa using this
    have:i=0∨i=1∨i=2:=oM;have:j=0∨j=1∨j=2:=oM;rcases ‹i=0∨i=1∨i=2› with rfl|rfl|rfl<;>rcases ‹j=0∨j=1∨j=2› with rfl|rfl|rfl<;>simp at ha hb<;>subst ha hb<;>rw[I6]at hx hy<;>omega
   ·intro w hw;simp only[List.mem_cons,List.not_mem_nil,or_false]at hw;rcases hw with rfl|rfl|rfl<;>rw[I6]<;>omega
   ·intro w hw;simp only[List.mem_cons,List.not_mem_nil,or_false]at hw;rcases hw with rfl|rfl|rfl<;>rw[I6]<;>omega
  have h4:WfR c8 (y9 (D0 q).progs).toNat:=by
   rw[b9];have h1:=nZ q b8 oM;refine⟨by show(((y9 (D0 q).progs).toNat:Nat):Int)=y9 (D0 q).progs;omega,yG q b8 g7,fun x hx=>?_,k2,fun p hp=>?_,by simp,rfl,rfl,by show l.length≤1000;omega,by simp,fun x hx=>?_⟩
   ·have:x=soZ:=by simpa using hx
    subst this;intro h;cases h
   ·obtain⟨x,hx,rfl⟩:=yF q b8 p hp;have h2:=cy x;have h3:=wQ x;omega
   ·have:x=0:=by simpa using hx
    subst this;omega
  have d5:i4 H.next H M5:=by
   rw[S,O,X,a6,b4];exact(b6.trans ((U.weaken oM).trans (b2.weaken oM))).trans (((((i4.push oM).trans (i4.push (by rw[i5];omega))).trans (i4.push (by rw[i5,i5];omega))).trans (i4.push (by rw[i5,i5,i5];omega))).trans (i4.put oM))
  have g4:M5.get (H.next+1)=cE z12 1:=(sG _ oM).trans j0;rw[←b9];refine l9 (F:=fun z=>Ret (u5 prog [.cell 2 39,.tmp 3] H (u7 (inBlock 0 z) _)) H _) (uv H lo K (u.next+3) u.next (fun j=>j<u.next∧j≠H.next+1) rs (.slice sa l.length sc) M5 (H.next+1) (y9 (D0 q).progs).toNat oM (fun j E=>d5.get j oM) oM g4 (mD 401 c8 1) 401 _ _ ⟨1,c8,_,_,_,rfl,oM,oM,rfl,rfl,rfl,k0,i4.refl _ _,h4,rfl⟩) ?_;rintro o' e' H' ⟨f2,(⟨ho,f6,a7,r,x1,x2,x3,a9,hR,h0⟩|⟨ho,a9,f3,c4,a7⟩)⟩
  ·obtain⟨y,D⟩:∃J,J=rs++[.slice sa l.length sc,x1,x2,x3]:=⟨_,rfl⟩
   have gr:=hR.g;rw[←D]at gr;obtain⟨a1,c1,e1⟩:=hR.so.slice;obtain⟨a2,c2,e2⟩:=hR.sz.slice;obtain⟨a3,c3,e3⟩:=hR.ho.slice;have g0:y.length=12:=by rw[D];simp [a8]
   have d4:y.all Value.oneCell'=true:=by rw[D,I,e1,e2,e3];rfl
   have h5:ldC (some true) (some 12) 0 y=some (.agg y.toArray):=by rw[eX _ _ _ oM,List.drop_zero,List.take_of_length_le oM]
   have l8:splice [nS,nS,nS,iV 0,iV 0,iV 0,nS,nS,nS,nS,nS,nS] 0 y=y:=by rw[D,I];rfl
   have c4:H'.get (H.next+1)=cE z12 1:=(a7.get _ oM).trans g4;have i1:=u6 c4;obtain⟨H6,b1⟩:∃K,K=H'.put (H.next+1) (.cells y true 1):=⟨_,rfl⟩
   have c6:H6.get (H.next+1)=cE y 1:=by rw[b1];exact i8 i1
   have d6:∀j,j≠H.next+1→H6.get j=H'.get j:=fun j E=>by rw[b1];exact i9 (fun q=>E q.symm)
   have n6:H6.next=H'.next:=by rw[b1,j5]
   have l6:H6.low=min H'.low (H.next+1):=by rw[b1,A4]
   have n7:=a7.next;have W:=c4;simp only[z12]at W;refine J12 ho f2 f6 gr W @dq g0 d4 h5 l8 b1.symm c6 ?_;have e5:i4 H.next H H6:=by rw[b1];exact(d5.trans (a7.weaken oM)).trans (i4.put oM)
   have b5:R0 (QR H lo K false) (QR H lo K true) H6 (u.next+3) u.next (fun j=>j<u.next∧j≠H.next+1) r rs (.slice sa l.length sc) x1 x2 x3:=by
    exact hR.side (b:=H.next+1) ⟨oM,fun q=>q.2 rfl,fun w hw q=>by have:=(hR.inl hw q).1;omega⟩ oM d6
   refine D7 (fun g9 _=>?_) ?_
   ·exfalso
    have n3:=h0.l0;obtain⟨m7,m9,rfl⟩:∃a c,x1= .slice (some a) r.sorts.length c:=by
     obtain⟨_,nb,o,_,_,_,_,_,q,_⟩:=(e1▸hR.so.sl:SlI H' H'.next 3 (v8 soE) (.slice a1 r.sorts.length c1) r.sorts).row (i:=0) oM;exact⟨_,_,by rw[e1,q]⟩
    simp only[L0,D,List.all_cons,na1,List.all_append,Bool.and_eq_true]at g9;simp [na0]at g9
   ·refine⟨y,0,rfl,e5.ret (by have:=a7.lowAll H.next oM d3;omega),.inr ⟨r,a9,rfl,h0,rs,_,x1,x2,x3,D,?_⟩⟩;have hx:∀j,(j<u.next∧j≠H.next+1)→j<H6.next:=fun j E=>oM;refine⟨b5.st.mono (fun _ _=>rfl) hx iF iF,b5.lb.mono (fun _ _=>rfl) hx (fun _ _ h=>w9 _ _ _ _ _ _ h (fun _ _=>rfl) hx),b5.so.sl,b5.sz.sl,b5.ho.sl⟩
  ·have W:=c4;simp only[z12]at W;refine J5 ho f2 f3 W @dq ?_;have e5:i4 H.next H H':=d5.trans (a7.weaken oM);refine D7 (fun _ _=>?_) ?_
   ·exact⟨z12,13,rfl,i4.refl _ _,.inl ⟨a9,rfl,rfl⟩⟩
   ·exact⟨z12,13,rfl,e5.ret (a7.lowAll H.next oM d3),.inl ⟨a9,rfl,rfl⟩⟩
end Go.Proofs.YtofbhlhamfkljaaGreatDoor.Ve
