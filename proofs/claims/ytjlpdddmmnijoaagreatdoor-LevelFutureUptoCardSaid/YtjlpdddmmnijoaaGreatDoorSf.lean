/- The law of the level returns true for every input whose readings are of bulk at most 1048576. Conditions: what comes in is of bulk at most 1048576. -/
import Derived.Test.YtjlpdddmmnijoaaGreatDoorSe
import Derived.Laws.RangeString
set_option linter.unusedVariables false
set_option linter.unusedSimpArgs false
set_option linter.defProp false
set_option maxHeartbeats 0
set_option maxRecDepth 1000000
namespace Go.Proofs.YtjlpdddmmnijoaaGreatDoor
open Go Go.RowKit
def ZI:=@Tryz.underlying5
def ZO:=@trodAll_cons_mk
end Go.Proofs.YtjlpdddmmnijoaaGreatDoor
namespace Go.Proofs.YtjlpdddmmnijoaaGreatDoor.Ve
open Go Go.RowKit
open Go.Proofs.Tryz (prog)
def nm(a:AtD):aa2×aa2:=(a.space,a.loc)
def MC(x:aa2×aa2)(l:List AtD):kg x (l.map nm)=l.any fun a=>decide (x=nm a):=by
 rw[kg,List.any_map];rfl
def LK(a b:AtD):(decide (a.space=b.space)&&decide (a.loc=b.loc))=decide (nm a=nm b):=by
 rw[<-Bool.decide_and];exact wG.2 (by rw[nm,nm,lE])
def Er(H0:d7)(lo:Nat)(p:Option Addr)(c pb:Nat)(a2:LV)(l:List AtD)(hn:l.length<=1048576)(hv:SlI H0 lo 3 AtR (.slice p l.length c) l)(g1:H0.g pb=cE a2 1)(k1:a2[3]?=some (.slice p l.length c))(i:Nat)(x:AtD)(hx:l[i]?=some x)(r:Bool):
  ∀k e H2,(∃j:Nat,k=i-j/\j<=i/\e.g 1=pT pb/\e.g 4=iV i/\e.g 5=iV j/\H2=H0/\((l.take i).drop j).any (fun a=>decide (nm x=nm a))=r)->
  u7 (LE prog l7 (.loop UQ) e H2) (fun o e H2=>H2=H0/\((o= .exit 2/\r=false/\e.g 1=pT pb/\e.g 4=iV i)\/(o= .ret/\e.g 2= .bool false/\r=true))):=by
 have hi:i<l.length:=(gS hx).1;refine i5 _ _ ?_;rintro k e H2 ⟨j,hk,hj,f1,J,f5,hH,I⟩;subst hH;rcases b:decide ((j:Int)<i)with _|_
 .have a7:=dF b;have:(l.take i).drop j=[]:=dN (by rw[Ib];omega);rw[this,XN]at I;refine J3 J f5 b ?_;exact i6 ⟨rfl,.inl ⟨rfl,I.symm,f1,J⟩⟩
 .have a7:=dT b;obtain⟨y,hy,a8⟩:=B8 (l:=l.take i) (i:=j) (by rw[Ib];omega);have W:l[j]?=some y:=by rw[xd,bJ oM]at hy;exact hy
  rw[a8,Ic]at I;obtain⟨b1,E,q1,u,w1,e1,_,z,b3⟩:=JB (hv.mono (fun _ _=>rfl) lR (fun _ _ h=>h.1)) hx;obtain⟨b2,o2,q2,a4,w2,e2,_,O,b4⟩:=JB (hv.mono (fun _ _=>rfl) lR (fun _ _ h=>h.1)) W;obtain⟨rfl,rfl⟩:p=some ⟨b1,E,none⟩/\c=q1:=by simpa using e1
  obtain⟨⟨rfl,rfl⟩,rfl⟩:(b1=b2/\E=o2)/\c=q2:=by simpa using e2
  rw[z]at O;obtain⟨rfl,rfl⟩:u=a4/\w1=w2:=by simpa using O
  obtain⟨bx,ox,cx,a5,wx,ex,_,S,b5,a9,_⟩:=hv.at_ hx;obtain⟨a3,oy,cy,a6,wy,ey,_,U,b6,b0,_⟩:=hv.at_ W;obtain⟨⟨rfl,rfl⟩,rfl⟩:(b1=bx/\E=ox)/\c=cx:=by simpa using ex
  obtain⟨⟨rfl,rfl⟩,rfl⟩:(b1=a3/\E=oy)/\c=cy:=by simpa using ey
  rw[z]at S U;obtain⟨rfl,rfl⟩:u=a5/\w1=wx:=by simpa using S
  obtain⟨rfl,rfl⟩:u=a6/\w1=wy:=by simpa using U
  have X:ldC (some true) (some 2) (E+i*3) u=some (.agg #[.string x.space,.string x.loc]):=by
   refine aE oM ?_;have:((u.drop (E+i*3)).take 3).take 2=[.string x.space,.string x.loc]:=by rw[a9];rfl
   rw[WJ]at this;exact this
  have a1:ldC (some true) (some 2) (E+j*3) u=some (.agg #[.string y.space,.string y.loc]):=by
   refine aE oM ?_;have:((u.drop (E+j*3)).take 3).take 2=[.string y.space,.string y.loc]:=by rw[b0];rfl
   rw[WJ]at this;exact this
  have nt:(i:Int).toNat=i:=tN i;have b7:(j:Int).toNat=j:=tN j;have D:decide (nm y=nm x)=decide (nm x=nm y):=wG.2 ⟨Eq.symm,Eq.symm⟩;rcases hq:decide (nm x=nm y)with _|_
  .rw[hq]at I;refine J13 f1 J f5 g1 k1 b z X a1 @LK D hq @wrap_small ?_;exact d8 (k-1) oM ⟨j+1,oM,oM,f1,J,rfl,rfl,by rw[<-I];rfl⟩
  .rw[hq]at I;refine J12 f1 J f5 g1 k1 b z X a1 @LK D hq ?_;exact y9 ⟨rfl,.inr ⟨rfl,rfl,by rw[<-I];rfl⟩⟩
def DI(H0:d7)(lo:Nat)(a5:lo<=H0.n)(p:Option Addr)(c pb:Nat)(O:LV)(l:List AtD)(hn:l.length<=1048576)(hv:SlI H0 lo 3 AtR (.slice p l.length c) l)(W:H0.g pb=cE O 1)(k1:O[3]?=some (.slice p l.length c))(r:Bool):
  ∀k e H2,(∃i:Nat,k=l.length-i/\i<=l.length/\e.g 1=pT pb/\e.g 4=iV i/\H2=H0/\aGo ((l.take i).map nm) (l.drop i)=r)->
  u7 (LE prog l7 (.loop PY) e H2) (fun o e H2=>H2=H0/\((o= .exit 0/\r=true)\/(o= .ret/\e.g 2= .bool false/\r=false))):=by
 refine i5 _ _ ?_;rintro k e H2 ⟨i,hk,hi,S,U,hH,u⟩;subst hH;rcases b:decide ((i:Int)<l.length)with _|_
 .have a4:=dF b;have:l.drop i=[]:=dN oM;rw[this,aGo]at u;refine J5 S U W k1 b ?_;exact i6 ⟨rfl,.inl ⟨rfl,u.symm⟩⟩
 .have a4:=dT b;obtain⟨x,hx,hd⟩:=B8 (l:=l) (i:=i) oM;rw[hd,aGo]at u;have I:=MC (nm x) (l.take i);have h:kg (x.space,x.loc) ((l.take i).map nm)=(l.take i).any fun a=>decide (nm x=nm a):=I;rw[h]at u;obtain⟨bx,ox,cx,D,wx,ex,_,E,a6,a1,z1,z2,z3⟩:=hv.at_ hx;obtain⟨rfl,rfl⟩:p=some ⟨bx,ox,none⟩/\c=cx:=by simpa using ex
  have J:ldC (some true) (some 2) (ox+i*3) D=some (.agg #[.string x.space,.string x.loc]):=by
   refine aE oM ?_;have:((D.drop (ox+i*3)).take 3).take 2=[.string x.space,.string x.loc]:=by rw[a1];rfl
   rw[WJ]at this;exact this
  have a2:D[ox+i*3+2]?=some (.string x.val):=by rw[E7 (k:=2) oM a1];rfl
  have nt:(i:Int).toNat=i:=tN i;rcases X:dw x.space x.loc with _|_
  .refine J9 S U W k1 b E J @T7 X ?_;exact y9 ⟨rfl,.inr ⟨rfl,rfl,by rw[<-u,X];simp⟩⟩
  rcases h2:Y9 x.val with _|_
  .refine J12 S U W k1 b E J a2 @T7 @L7 X h2 ?_;exact y9 ⟨rfl,.inr ⟨rfl,rfl,by rw[<-u,h2];simp⟩⟩
  refine J12 S U W k1 b E J a2 @T7 @L7 X h2 ?_;refine fP (F:=fun z=>t7 (inBlock 1 (inBlock 2 z)) _) (Er H2 lo _ c pb O l hn hv W k1 i x hx ((l.take i).any fun a=>decide (nm x=nm a)) i _ _ ⟨0,rfl,oM,?_,?_,rfl,rfl,rfl⟩) ?_
  .exact S
  .exact U
  rintro o e' H' ⟨hH,⟨ho,hr,a3,g4⟩|⟨ho,g2,hr⟩⟩
  .refine J4 ho hH g4 @wrap_small ?_;refine d8 (k-1) oM ⟨i+1,oM,oM,a3,rfl,rfl,?_⟩;rw[<-u,hr,X,h2];have:(l.take (i+1)).map nm=(l.take i).map nm++[(x.space,x.loc)]:=by
    rw[Hq,hx];simp [nm]
   rw[this];simp
  .refine J2 ho hH ?_;exact y9 ⟨rfl,.inr ⟨rfl,g2,by rw[<-u,hr];simp⟩⟩
def Ix(H:d7)(lo:Nat)(cs:LV)(e:EvD)(a6:lo<=H.n)(hv:EvR H lo cs e):CL prog l7 39 [.agg cs.toArray] H=some (.bool (aN e),none):=by
 obtain⟨v,rfl,hv,a7,a8,a9,a4⟩:=hv;obtain⟨a,c,rfl⟩:=hv.slice;have W:decide (((e.attrs.length:Nat):Int)=0)=decide (e.attrs.length=0):=wG.2 oM;have a1:decide ((32:Int)<((e.attrs.length:Nat):Int))= !decide (e.attrs.length<=32):=by
  rw[<-decide_not];exact wG.2 oM
 have a2:∀(e':Env)(H0:d7),H0=d7.push ⟨H.bs,H.n⟩ (bC [iV e.kind,.string e.space,.string e.loc,.slice a e.attrs.length c,.string e.text] 1)->(e'.g 1=pT H.n/\e'.g 4=iV 0)->
   t6 prog [ResultVar.tmp 2] H (t7 (inBlock 0 (LE prog l7 (.loop PY) e' H0)) (LE prog l7 (.seq (.ops [⟨some 2,.assign (.const (.bool true)),none⟩]) .ret)))=some (.bool (aGo [] e.attrs),none):=by
  intro e' H0 a3 hg;have hS:d9 H.n H H0:=by rw[a3];exact d9.first H _
  have a5:H.n<=H0.low:=by rw[a3];exact lR
  refine i8 (F:=fun z=>t6 _ _ _ (t7 (inBlock 0 z) _)=_) (DI H0 lo (oN (hS.n)) a c H.n _ e.attrs a4 (hv.mono (fun j hj=>hS.g j oM) lR iF) (by rw[a3];exact j6) rfl (aGo [] e.attrs) e.attrs.length e' H0 ⟨0,rfl,oM,hg.1,hg.2,rfl,rfl⟩) ?_;rintro o e2 H' ⟨hH,⟨ho,hr⟩|⟨ho,h2,hr⟩⟩
  .exact J3 ho hr hH trivial
  .exact J4 ho h2 hr hH trivial
 rw[i7 Se rfl _ sM,aN];rcases D:(decide (e.space=eB)&&decide (e.loc=eB))with _|_
 .skip
  rcases u:decide (e.kind=2)with _|_
  .have E:=dF u;rcases I:decide (e.kind=3)with _|_
   .have S:=dF I;rcases O:decide (e.kind=1)with _|_
    .have h:=dF O;rw[bt h,bt E,bt S];exact J4 D O u I trivial
    .have h:=dT O;rw[bJ h];rcases J:decide (e.text=eB)with _|_
     .exact J5 D O u I J trivial
     rcases X:dw e.space e.loc with _|_
     .exact J7 D O u I J X @T7 trivial
     rcases t3:decide (e.attrs.length<=32)with _|_
     .rw[jk,t3,Mq,Mq];exact J9 D O u I J X t3 a1 @T7 trivial
     rw[jk,t3,tT,tT,zb];refine J9 D O u I J X t3 a1 @T7 ?_;exact a2 _ _ rfl ⟨rfl,rfl⟩
   .have S:=dT I;have h:¬e.kind=1:=oM;rw[bt h,bt E,bJ S];rcases J:decide (e.text=eB)with _|_
    .exact J3 D u I trivial
    .exact J3 D u I trivial
  .have E:=dT u;have h:¬e.kind=1:=oM;rw[bt h,bJ E];rcases J:decide (e.text=eB)with _|_
   .rcases X:Y9 e.text with _|_
    .exact J2 D u trivial
    .exact J2 D u trivial
   .exact J2 D u trivial
 rcases U:decide (e.attrs.length=0)with _|_
 .skip
  rcases u:decide (e.kind=2)with _|_
  .have E:=dF u;rcases I:decide (e.kind=3)with _|_
   .have S:=dF I;rcases O:decide (e.kind=1)with _|_
    .have h:=dF O;rw[bt h,bt E,bt S];exact J6 D W U O u I trivial
    .have h:=dT O;rw[bJ h];rcases J:decide (e.text=eB)with _|_
     .exact J7 D W U O u I J trivial
     rcases X:dw e.space e.loc with _|_
     .exact J9 D W U O u I J X @T7 trivial
     rcases t3:decide (e.attrs.length<=32)with _|_
     .rw[jk,t3,Mq,Mq];exact J11 D W U O u I J X t3 a1 @T7 trivial
     rw[jk,t3,tT,tT,zb];refine J11 D W U O u I J X t3 a1 @T7 ?_;exact a2 _ _ rfl ⟨rfl,rfl⟩
   .have S:=dT I;have h:¬e.kind=1:=oM;rw[bt h,bt E,bJ S];rcases J:decide (e.text=eB)with _|_
    .exact J5 D W U u I trivial
    .exact J5 D W U u I trivial
  .have E:=dT u;have h:¬e.kind=1:=oM;rw[bt h,bJ E];rcases J:decide (e.text=eB)with _|_
   .rcases X:Y9 e.text with _|_
    .exact J4 D W U u trivial
    .exact J4 D W U u trivial
   .exact J4 D W U u trivial
 .skip
  rcases u:decide (e.kind=2)with _|_
  .have E:=dF u;rcases I:decide (e.kind=3)with _|_
   .have S:=dF I;rcases O:decide (e.kind=1)with _|_
    .have h:=dF O;rw[bt h,bt E,bt S];exact J6 D W U O u I trivial
    .have h:=dT O;rw[bJ h];rcases J:decide (e.text=eB)with _|_
     .exact J7 D W U O u I J trivial
     rcases X:dw e.space e.loc with _|_
     .exact J9 D W U O u I J X @T7 trivial
     rcases t3:decide (e.attrs.length<=32)with _|_
     .rw[jk,t3,Mq,Mq];exact J11 D W U O u I J X t3 a1 @T7 trivial
     rw[jk,t3,tT,tT,zb];refine J11 D W U O u I J X t3 a1 @T7 ?_;exact a2 _ _ rfl ⟨rfl,rfl⟩
   .have S:=dT I;have h:¬e.kind=1:=oM;rw[bt h,bt E,bJ S];rcases J:decide (e.text=eB)with _|_
    .exact J6 D W U u I J trivial
    .exact J6 D W U u I J trivial
  .have E:=dT u;have h:¬e.kind=1:=oM;rw[bt h,bJ E];rcases J:decide (e.text=eB)with _|_
   .rcases X:Y9 e.text with _|_
    .exact J7 D W U u J X @L7 trivial
    .exact J7 D W U u J X @L7 trivial
   .exact J5 D W U u J trivial
def Cs(p:Option Int)(d:Int)(l:List EvD):Int:=if bGo p d l then dep d l else -1
def Cu(H0:d7)(lo:Nat)(c7:lo<=H0.n)(v:aa3)(l:List EvD)(hv:N8 H0 lo v l)(hn:l.length<=2000000)(r:Int):
  ∀k e H2,(∃(i:Nat)(d:Int),k=l.length-i/\i<=l.length/\(i=0->d=0)/\ -(i:Int)<=d/\d<=64/\e.g 0=v/\e.g 3=iV d/\e.g 4=iV i/\H2=H0/\Cs (eJ l i) d (l.drop i)=r)->
  u7 (LE prog l7 (.loop Uz) e H2) (fun o e H2=>H2=H0/\((o= .exit 0/\e.g 3=iV r)\/(o= .ret/\e.g 2=iV (-1)/\r= -1))):=by
 refine i5 _ _ ?_;rintro k e H2 ⟨i,d,hk,hi,c5,d6,e1,f0,f3,f4,hH,fu⟩;subst hH;obtain⟨va,vc,d3⟩:=hv.slice;have a8:=f0;rw[d3]at a8;rcases b:decide ((i:Int)<l.length)with _|_
 .have c4:=dF b;have:l.drop i=[]:=dN oM;rw[this,Cs,bGo]at fu;refine J3 a8 f4 b ?_;refine i6 ⟨rfl,.inl ⟨rfl,?_⟩⟩;rw[<-fu];exact f3
 have c4:=dT b;obtain⟨ev,ha,hd⟩:=B8 (l:=l) (i:=i) oM;obtain⟨nb,o,c,cs,own,a6,d4,W,c6,hr⟩:=hv.at_ ha;have E:=Ix H2 lo _ ev c7 hr;obtain⟨av,d2,_⟩:=id hr;have D:=aE c6 rfl;have c0:cs[o+i*5]?=some (.int .i64 ev.kind):=by have:=E7 (k:=0) oM d2;simpa using this
 have nt:(i:Int).toNat=i:=tN i;have I:=f0;rw[a6]at I;rw[hd,Cs,bGo]at fu;have c9:eJ l (i+1)=some ev.kind:=by rw[eJ,bt oM,Nat.add_sub_cancel,ha];rfl
 have O:∀x y:Bool,L3 prog .neq 4 (.bool x) (.bool y)=some (.bool (!(x==y))):=fun x y=>eU 4 x y ty4.2.2.2.2.2.2.1;have tt:(true==true)=true:=rfl;have tf:(true==false)=false:=rfl;have ft:(false==true)=false:=rfl;have ff:(false==false)=true:=rfl;have a3:∀(e':Env),e'.g 2=iV (-1)->(!aN ev||(decide (eJ l i=none)&& !decide (ev.kind=1))||(!decide (eJ l i=none)&&decide (d=0))||(decide (ev.kind=2)&&decide (eJ l i=some 2)))=true->
   ci k (fun k e z=>∃(i:Nat)(d:Int),k=l.length-i/\i<=l.length/\(i=0->d=0)/\ -(i:Int)<=d/\d<=64/\e.g 0=v/\e.g 3=iV d/\e.g 4=iV i/\z=H2/\Cs (eJ l i) d (l.drop i)=r) (fun o e z=>z=H2/\((o= .exit 0/\e.g 3=iV r)\/(o= .ret/\e.g 2=iV (-1)/\r= -1))) .ret e' H2:=fun e' h h2=>
  y9 ⟨rfl,.inr ⟨rfl,h,by rw[<-fu,h2];rfl⟩⟩
 have a2:∀(e':Env),e'.g 0=v->e'.g 3=iV d->e'.g 4=iV i->(!aN ev||(decide (eJ l i=none)&& !decide (ev.kind=1))||(!decide (eJ l i=none)&&decide (d=0))||(decide (ev.kind=2)&&decide (eJ l i=some 2)))=false->
   u7 (t7 (inBlock 1 (LE prog l7 RY e' H2)) (LE prog l7 UA)) (ci k (fun k e z=>∃(i:Nat)(d:Int),k=l.length-i/\i<=l.length/\(i=0->d=0)/\ -(i:Int)<=d/\d<=64/\e.g 0=v/\e.g 3=iV d/\e.g 4=iV i/\z=H2/\Cs (eJ l i) d (l.drop i)=r) (fun o e z=>z=H2/\((o= .exit 0/\e.g 3=iV r)\/(o= .ret/\e.g 2=iV (-1)/\r= -1)))):=by
  intro e' g0 g3 g4 c8;rw[c8]at fu;have a1:=g0;rw[a6]at a1;have a5:∀(e2:Env)(d':Int),A7 d ev.kind=d'->d'<=64-> -((i+1:Nat):Int)<=d'->e2.g 0=v->e2.g 3=iV d'->e2.g 4=iV ((i:Int)+1)->ci k (fun k e z=>∃(i:Nat)(d:Int),k=l.length-i/\i<=l.length/\(i=0->d=0)/\ -(i:Int)<=d/\d<=64/\e.g 0=v/\e.g 3=iV d/\e.g 4=iV i/\z=H2/\Cs (eJ l i) d (l.drop i)=r) (fun o e z=>z=H2/\((o= .exit 0/\e.g 3=iV r)\/(o= .ret/\e.g 2=iV (-1)/\r= -1))) .normal e2 H2:=by
   intro e2 d' a9 q1 q2 k0 k3 k4;refine d8 (k-1) oM ⟨i+1,d',oM,oM,oM,q2,q1,k0,k3,k4,rfl,?_⟩;rw[<-fu,c9,Cs,a9];simp only[bF];rw[bt (show¬64<d' from oM)];simp only[dep,sd,a9]
  rw[RY];rcases k1:decide (ev.kind=1)with _|_
  .have a4:=dF k1;rcases k3:decide (ev.kind=3)with _|_
   .have a7:=dF k3;have S:A7 d ev.kind=d:=by rw[A7,bt a4,bt a7]
    have u:decide (64<d)=false:=dt oM;refine J9 a1 g3 g4 W c0 k1 k3 u @wrap_small ?_;exact a5 _ d S oM oM g0 g3 rfl
   .have a7:=dT k3;have S:A7 d ev.kind=d-1:=by rw[A7,bt a4,bJ a7]
    have u:decide (64<d-1)=false:=dt oM;refine J9 a1 g3 g4 W c0 k1 k3 u @wrap_small ?_;exact a5 _ (d-1) S oM oM g0 rfl rfl
  .have a4:=dT k1;have k3:decide (ev.kind=3)=false:=dt oM;have S:A7 d ev.kind=d+1:=by rw[A7,bJ a4]
   rcases u:decide (64<d+1)with _|_
   .have:=dF u;refine J9 a1 g3 g4 W c0 k1 k3 u @wrap_small ?_;exact a5 _ (d+1) S oM oM g0 rfl rfl
   .have c3:=dT u;refine J9 a1 g3 g4 W c0 k1 k3 u @wrap_small ?_;refine y9 ⟨rfl,.inr ⟨rfl,rfl,?_⟩⟩;rw[<-fu,S];simp only[bF];rw[bJ c3];rfl
 rcases h1:aN ev with _|_
 .rw[h1]at E;refine J6 I f4 b W D E ?_;exact a3 _ rfl (by simp [h1])
 rw[h1]at E;rcases b2:decide ((i:Int)=0)with _|_
 .have h2:i≠0:=oN (dF b2);obtain⟨pe,b6⟩:∃a,l[i-1]?=some a:=⟨l[i-1]'oM,gI oM⟩
  have J:eJ l i=some pe.kind:=by rw[eJ,bt h2,b6];rfl
  obtain⟨b',o',c',cs',b9,b7,_,b0,d5,d1⟩:=hv.at_ b6;rw[a6]at b7;obtain⟨⟨rfl,rfl⟩,rfl⟩:(nb=b'/\o=o')/\c=c':=by simpa using b7
  rw[W]at b0;obtain⟨rfl,rfl⟩:cs=cs'/\own=b9:=by simpa using b0
  obtain⟨pv,d0,_⟩:=d1;have b1:cs[o+(i-1)*5]?=some (.int .i64 pe.kind):=by have:=E7 (k:=0) oM d0;simpa using this
  have b8:((i:Int)-1).toNat=i-1:=oM;rcases X:decide (d=0)with _|_
  .rcases U:decide (ev.kind=2)with _|_
   .refine J13 I f3 f4 b W D E O b2 X U ff c0 ?_;exact a2 _ f0 f3 f4 (by simp [h1,J,X,U])
   .rcases b5:decide (pe.kind=2)with _|_
    .refine J17 I f3 f4 b W D E O b2 X U b5 ff c0 @wrap_small b8 b1 ?_;exact a2 _ f0 f3 f4 (by simp [h1,J,X,U,dF b5])
    .refine J17 I f3 f4 b W D E O b2 X U b5 ff c0 @wrap_small b8 b1 ?_;exact a3 _ rfl (by simp [h1,J,X,U,dT b5])
  .refine J11 I f3 f4 b W D E O b2 X tf ?_;exact a3 _ rfl (by simp [h1,J,X])
 .have h2:i=0:=oN (dT b2);have X:decide (d=0)=true:=ib (c5 h2);have J:eJ l i=none:=by rw[eJ,bJ h2]
  rcases U:decide (ev.kind=1)with _|_
  .refine J13 I f3 f4 b W D E O b2 X U tt c0 ?_;exact a3 _ rfl (by simp [h1,J,U])
  .have b5:decide (ev.kind=2)=false:=dt (oN (dT U));refine J14 I f3 f4 b W D E O b2 X U b5 tt c0 ?_;exact a2 _ f0 f3 f4 (by simp [h1,J,U,b5])
def kQ(H:d7)(lo:Nat)(v:aa3)(l:List EvD)(h:lo<=H.n)(S:N8 H lo v l)(J:l.length<=2000000):CL prog l7 23 [v] H=some (.int .i64 (if C1 l then dep 0 l else -1),none):=by
 rw[i7 Sb rfl _ sM];refine J1 @if_true.{1} ?_;refine i8 (F:=fun z=>t6 _ _ _ (t7 (inBlock 0 z) _)=_) (Cu ⟨H.bs,H.n⟩ lo h v l (S.mono (fun _ _=>rfl) lR) J (if C1 l then dep 0 l else -1) l.length _ _ ⟨0,0,rfl,oM,fun _=>rfl,oM,oM,rfl,rfl,rfl,rfl,rfl⟩) ?_;rintro o e' H' ⟨D,⟨u,I⟩|⟨u,E,O⟩⟩
 .exact J3 u I D trivial
 .exact J4 u E O D trivial
def GN(H0:d7)(lo:Nat)(v:aa3)(l:List EvD)(hv:N8 H0 lo v l)(hn:l.length<=2000000)(i:Nat)(ev:EvD)(ha:l[i]?=some ev)(n3:Int):
  ∀k e H2,(∃j:Nat,k=1048576-j/\j<=ev.attrs.length/\e.g 0=v/\e.g 3=iV n3/\e.g 4=iV i/\e.g 5=iV j/\H2=H0)->
  u7 (LE prog l7 (.loop UE) e H2) (fun o e H2=>H2=H0/\((o= .exit 2/\e.g 0=v/\e.g 3=iV n3/\e.g 4=iV i)\/(o= .ret/\e.g 2= .bool false))):=by
 refine i5 _ _ ?_;rintro k e H2 ⟨j,hk,hj,f0,f3,D,O,hH⟩;subst hH;have hi:i<l.length:=(gS ha).1;obtain⟨b,o,c,cs,own,aa,ac,a7,a9,hg,b9,a6,a5,c0,c4,c5,c6⟩:=iM hv ha;have X:cs[o+i*5+3]?=some (.slice aa ev.attrs.length ac):=by rw[E7 (k:=3) oM a6];rfl
 have nt:(i:Int).toNat=i:=tN i;have u:=f0;rw[a7]at u;refine J5 u D O hg X ?_;rcases b1:decide ((j:Int)<ev.attrs.length)with _|_
 .refine J4 u D O b1 ?_;exact i6 ⟨rfl,.inl ⟨rfl,f0,f3,D⟩⟩
 have b8:=dT b1;rcases W:decide ((j:Int)<100)with _|_
 .refine J2 O W ?_;exact i6 ⟨rfl,.inl ⟨rfl,f0,f3,D⟩⟩
 obtain⟨z,a4⟩:∃a,ev.attrs[j]?=some a:=⟨ev.attrs[j]'oM,gI oM⟩
 obtain⟨a3,o2,c2,J,b6,a8,b7,E,b0,S,_⟩:=a5.at_ a4;obtain⟨rfl,rfl⟩:aa=some ⟨a3,o2,none⟩/\ac=c2:=by simpa using a8
 have a0:J[o2+j*3]?=some (.string z.space):=by have:=E7 (k:=0) oM S;simpa using this
 have a1:J[o2+j*3+1]?=some (.string z.loc):=by rw[E7 (k:=1) oM S];rfl
 have a2:J[o2+j*3+2]?=some (.string z.val):=by rw[E7 (k:=2) oM S];rfl
 have U:∀e',e'.g 2= .bool false->ci k (fun k e I=>∃j:Nat,k=1048576-j/\j<=ev.attrs.length/\e.g 0=v/\e.g 3=iV n3/\e.g 4=iV i/\e.g 5=iV j/\I=H2) (fun o e I=>I=H2/\((o= .exit 2/\e.g 0=v/\e.g 3=iV n3/\e.g 4=iV i)\/(o= .ret/\e.g 2= .bool false))) .ret e' H2:=fun e' h=>y9 ⟨rfl,.inr ⟨rfl,h⟩⟩;rcases b3:decide ((300:Int)<z.val.size)with _|_
 .rcases b4:decide ((100:Int)<z.loc.size)with _|_
  .rcases b5:decide ((100:Int)<z.space.size)with _|_
   .refine J14 u D O hg X W E a0 a1 a2 b3 b4 b5 @wrap_small ?_;exact d8 (k-1) oM ⟨j+1,oM,oM,f0,f3,D,rfl,rfl⟩
   .refine J13 u D O hg X W E a0 a1 a2 b3 b4 b5 ?_;exact U _ rfl
  .refine J11 u D O hg X W E a1 a2 b3 b4 ?_;exact U _ rfl
 .refine J9 u D O hg X W E a2 b3 ?_;exact U _ rfl
def GO(H0:d7)(lo:Nat)(v:aa3)(l:List EvD)(hv:N8 H0 lo v l)(hn:l.length<=2000000):
  ∀k e H2,(∃(i:Nat)(u:Int),k=l.length-i/\i<=l.length/\0<=u/\u<=2000000/\e.g 0=v/\e.g 3=iV u/\e.g 4=iV i/\H2=H0)->
  u7 (LE prog l7 (.loop UF) e H2) (fun o e H2=>H2=H0/\((o= .exit 0/\∃u,e.g 3=iV u)\/(o= .ret/\e.g 2= .bool false))):=by
 refine i5 _ _ ?_;rintro k e H2 ⟨i,u,hk,hi,a8,a9,f0,U,W,hH⟩;subst hH;obtain⟨va,vc,a3⟩:=hv.slice;have S:=f0;rw[a3]at S;rcases O:decide ((i:Int)<l.length)with _|_
 .refine J3 S W O ?_;exact i6 ⟨rfl,.inl ⟨rfl,u,U⟩⟩
 have a6:=dT O;rcases X:decide (u<=400)with _|_
 .refine J5 S U W O X ?_;exact i6 ⟨rfl,.inl ⟨rfl,u,U⟩⟩
 have a1:=dT X;obtain⟨ev,ha⟩:∃a,l[i]?=some a:=⟨l[i]'oM,gI oM⟩
 obtain⟨b,o,c,cs,own,aa,ac,a2,a4,hg,a7,E,a5,b0,b6,b7,b8⟩:=iM hv ha;have c1:cs[o+i*5+1]?=some (.string ev.space):=by rw[E7 (k:=1) oM E];rfl
 have c2:cs[o+i*5+1+1]?=some (.string ev.loc):=by rw[A1 _ 1 1,E7 (k:=2) oM E];rfl
 have c3:cs[o+i*5+3]?=some (.slice aa ev.attrs.length ac):=by rw[E7 (k:=3) oM E];rfl
 have c4:cs[o+i*5+4]?=some (.string ev.text):=by rw[E7 (k:=4) oM E];rfl
 have nt:(i:Int).toNat=i:=tN i;have D:=f0;rw[a2]at D;have I:∀e',e'.g 2= .bool false->ci k (fun k e J=>∃(i:Nat)(u:Int),k=l.length-i/\i<=l.length/\0<=u/\u<=2000000/\e.g 0=v/\e.g 3=iV u/\e.g 4=iV i/\J=H2) (fun o e J=>J=H2/\((o= .exit 0/\∃u,e.g 3=iV u)\/(o= .ret/\e.g 2= .bool false))) .ret e' H2:=fun e' h=>y9 ⟨rfl,.inr ⟨rfl,h⟩⟩;rcases b3:decide ((300:Int)<ev.text.size)with _|_
 .rcases b4:decide ((100:Int)<ev.loc.size)with _|_
  .rcases b5:decide ((100:Int)<ev.space.size)with _|_
   .refine J14 D U W hg c1 c2 c3 c4 O X b3 b4 b5 @wrap_small ?_;refine fP (F:=fun z=>t7 (inBlock 1 (inBlock 2 z)) _) (GN H2 lo v l hv hn i ev ha (u+ev.attrs.length) 1048576 _ _ ⟨0,rfl,oM,?_,?_,?_,rfl,rfl⟩) ?_
    .exact f0
    .rfl
    .exact W
    rintro o' e' H' ⟨hH,⟨ho,g0,g3,g4⟩|⟨ho,g2⟩⟩
    .refine J4 ho g4 @wrap_small hH ?_;exact d8 (k-1) oM ⟨i+1,u+ev.attrs.length,oM,oM,oM,oM,g0,g3,rfl,rfl⟩
    .refine J2 ho hH ?_;exact I _ g2
   .refine J14 D U W hg c1 c2 c3 c4 O X b3 b4 b5 @wrap_small ?_;exact I _ rfl
  .refine J12 D U W hg c2 c3 c4 O X b3 b4 @wrap_small ?_;exact I _ rfl
 .refine J10 D U W hg c3 c4 O X b3 @wrap_small ?_;exact I _ rfl
def Pr(H:d7)(lo:Nat)(v:aa3)(l:List EvD)(S:lo<=H.n)(I:N8 H lo v l)(U:l.length<=2000000):∃t:Bool,CL prog l7 28 [v] H=some (.bool t,none):=by
 obtain⟨a,c,h⟩:=I.slice;have D:N8 ⟨H.bs,H.n⟩ lo (.slice a l.length c) l:=by rw[<-h];exact I.mono (fun _ _=>rfl) lR
 rw[i7 Sc rfl _ sM,h];refine J1 gV ?_;refine i8 (F:=fun z=>∃t:Bool,t6 _ _ _ (t7 (inBlock 0 z) _)=some (.bool t,none)) (GO ⟨H.bs,H.n⟩ lo _ l D U l.length _ _ ⟨0,l.length,rfl,oM,oM,oM,rfl,rfl,rfl,rfl⟩) ?_;rintro o e' H' ⟨E,⟨u,W,O⟩|⟨u,J⟩⟩
 .refine J3 u O E ?_;exact⟨_,rfl⟩
 .refine J3 u J E ?_;exact⟨_,rfl⟩
def AV{q:Q}(W:OkD false q){r:ReD}(hm:fY q=some r){m:Int}(D:E0 r m){l:List EvD}(h:C1 l=true)(h0:dep 0 l=0){i:Nat}{e:EvD}(I:l[i]?=some e)(z:e.kind≠3):
  ∃a b k:Nat,r.sorts[a]?=some (if e.kind=1 then stA r.strat l (i+1) else soZ)/\r.sorts[b]?=some (stA r.strat l (A6 l i))/\r.sorts[k]?=some (stA r.strat l i)/\1<=k/\M0 r e a b=k:=by
 have hz:soZ∈r.sorts:=mG D.s0;have E:∀j,stA r.strat l j∈r.sorts:=fun j=>by
  by_cases hj:j<=l.length
  .have:=kA W hm D h h0 (l.length-j) j oM;rw[stA];cases X:(whF r.strat (l.drop j)).1 with
   |nil=>exact hz
   |cons y t=>rw[X]at this;exact this y sM
  .rw[kU _ _ oM];exact hz
 obtain⟨s1,_,s3,s4,s5,s6⟩:=kJ r.strat h h0 I z;obtain⟨k0,kr,_⟩:=Q0 h I;have hf:(if e.kind=1 then stA r.strat l (i+1) else soZ)∈r.sorts:=by
  split
  .exact E _
  .exact hz
 obtain⟨a,ha,qa,pa⟩:=mc hf;obtain⟨b,hb,qb,pb⟩:=mc (E (A6 l i));obtain⟨k,hk,O,pk⟩:=mc (E i);refine⟨a,b,k,qa,qb,O,?_,?_⟩
 .by_cases S:k=0
  .subst S;rw[D.s0]at O;have:=(uf r.strat I z).1;rw[<-oU O]at this;cases this
  .omega
 .have J:bG r.sorts e.kind a b=true:=yi ha hb pb fun U=>by
   rw[bt oM]at qa;refine⟨by have h1:=D2 D qa;have h2:=D2 D D.s0;omega,?_⟩;by_cases X:A6 l i<l.length
   .obtain⟨e',u,_⟩:=B8 X;have hE:A6 l i=i+1:=by
     obtain⟨hl,he⟩:=gS I;have hd:l.drop i=e::l.drop (i+1):=by rw[qQ hl,he]
     have hs:A7 0 e.kind=0:=by rw[A7,bt oM,bt z]
     rw[A6,hd,P4,hs,bJ rfl]
    by_cases q3:e'.kind=3
    .rw[iA _ u q3];rfl
    .rw[(uf r.strat u q3).2];exact dt (pJ h I (hE▸u) U)
   .rw[kU _ _ oM];rfl
  rw[M0,bJ J,xA,xA,pa,pb,<-s1];exact D2 D O
def BH(s:StD)(T:List EvD):∀(w:List EvD)(k:Nat),1<=k->(∀i,i<=w.length->1<=dep k (w.take i))->(whF s (w++T)).1.drop k=(whF s T).1.drop (dep k w).toNat
 |[],k,h1,h=>by simp [dep]
 |e::w,k,h1,h=>by
  have J:1<=A7 k e.kind:=h 1 sM;have E:∀i,i<=w.length->1<=dep (A7 k e.kind) (w.take i):=fun i I=>h (i+1) (by simp;omega);have D:=BH s T w (A7 k e.kind).toNat oM (by rw[DR oM];exact E);rw[DR oM]at D;rw[show dep k (e::w)=dep (A7 k e.kind) w from rfl,<-D,vG,whF];by_cases z:e.kind=3
  .have hs:(A7 k e.kind).toNat=k-1:=by rw[A7,bt oM,bJ z];omega
   obtain⟨j,rfl⟩:∃j,k=j+1:=⟨k-1,oM⟩
   rw[bJ z,hs];rfl
  .rw[bt z];obtain⟨j,rfl⟩:∃j,k=j+1:=⟨k-1,oM⟩
   by_cases u:e.kind=1
   .have hs:(A7 ((j+1:Nat):Int) e.kind).toNat=j+2:=by rw[A7,bJ u];omega
    rw[bJ u,hs,Hk,<-UM,<-UM,EE,EE]
    congr 1;omega
   .have hs:(A7 ((j+1:Nat):Int) e.kind).toNat=j+1:=by rw[A7,bt u,bt z];omega
    rw[bt u,hs,Hk,<-UM,EE]
    congr 1;omega
def zU:∀(w T:List EvD)(n:Int),w≠ []->(P4 w n<w.length\/dep n w=0)->P4 (w++T) n=P4 w n
 |[],T,n,h,_=>absurd rfl h
 |e::w,T,n,_,h=>by
  rw[vG,P4,P4];by_cases z:A7 n e.kind=0
  .rw[bJ z,bJ z]
  .rw[bt z,bt z];rw[P4,bt z,kO]at h;have u:P4 w (A7 n e.kind)<w.length\/dep (A7 n e.kind) w=0:=by
    rcases h with h|h
    .exact .inl oM
    .exact .inr h
   by_cases D:w=[]
   .subst D;rcases u with u|u
    .exact absurd u (Nat.not_lt_zero _)
    .exact absurd u z
   .rw[zU w T _ D u]
def mP{l T:List EvD}(h:C1 l=true){a:Nat}{D:EvD}(E:l[a]?=some D)(z:D.kind=1\/D.kind=2)(hc:F8 l a=true):A6 (l++T) a=A6 l a:=by
 have X:a<l.length:=(gS E).1;have O:l.drop a≠ []:=fun q=>by have:=congrArg List.length q;rw[Ad,yd]at this;omega
 rw[A6,A6,Mk oM]
 congr 1
 refine zU _ _ _ O ?_;rcases z with z|z
 .rcases nG h E z with⟨W,_,_,_⟩|⟨_,U,⟨t,ht⟩,_⟩
  .by_cases S:P4 (l.drop a) 0<(l.drop a).length
   .exact .inl S
   .refine .inr ?_;have J:=mQ (l.drop a) 0;rw[show A6 l a-a=P4 (l.drop a) 0 by rw[A6];omega,kC oM]at W;exact W
  .have:=(F6 h E (.inl z)).1;rw[hc,ht]at this;simp at this
 .have U:=oO E z;by_cases S:P4 (l.drop a) 0<(l.drop a).length
  .exact .inl S
  .refine .inr ?_;have J:=mQ (l.drop a) 0;have h1:P4 (l.drop a) 0=1:=by rw[A6]at U;omega
   obtain⟨I,he⟩:=gS E;have hd:l.drop a=D::l.drop (a+1):=by rw[qQ I,he]
   have u:(l.drop a).length=1:=oM;rw[hd]at u ⊢;rw[kO]at u;have:l.drop (a+1)=[]:=pF.1 oM;rw[this];show A7 0 D.kind=0;rw[A7,bt oM,bt oM]
def HO{l:List OpD}{x o:OpD}:o∈eI l x->o∈l\/o=x:=by
 intro h;rw[eI]at h;split at h
 .exact .inl h
 .rcases gd.1 h with h|h
  .exact .inl h
  .exact .inr (mj.1 h)
def Hu{l:List OpD}{x:OpD}:∃o∈eI l x,o.1=x.1:=by
 rw[eI];split
 next h=>obtain⟨y,z,u⟩:=AH.1 h;exact⟨y,z,dT u⟩
 .exact⟨x,by simp,rfl⟩
def Hv{l:List OpD}{x o:OpD}(h:o∈l):o∈eI l x:=by
 rw[eI];split
 .exact h
 .exact List.mem_append_left _ h
def Mf{r:ReD}{e:EvD}{u:List OpD}{f b o:OpD}(h:o∈u):o∈gh r e u f b:=by
 rw[gh];split
 .exact h
 .exact Hv h
def wI{r:ReD}{e:EvD}{f o:OpD}:∀(bs u:List OpD),o∈gM r e f bs u->o∈u\/∃b∈bs,0<=M0 r e f.1 b.1/\o=(M0 r e f.1 b.1,f.2++b.2)
 |[],u,h=> .inl h
 |b::bs,u,h=>by
  rcases wI bs (gh r e u f b) h with h|⟨z,D,q⟩
  .rw[gh]at h;split at h
   .exact .inl h
   .rcases HO h with h|h
    .exact .inl h
    .exact .inr ⟨b,by simp,oM,h⟩
  .exact .inr ⟨z,by simp [D],q⟩
def fx{r:ReD}{e:EvD}{bs:List OpD}{o:OpD}:∀(z u:List OpD),o∈jt r e z bs u->o∈u\/∃f∈z,∃b∈bs,0<=M0 r e f.1 b.1/\o=(M0 r e f.1 b.1,f.2++b.2)
 |[],u,h=> .inl h
 |f::z,u,h=>by
  rcases fx z (gM r e f bs u) h with h|⟨D,I,q⟩
  .rcases wI bs u h with h|⟨b,E,q⟩
   .exact .inl h
   .exact .inr ⟨f,by simp,b,E,q⟩
  .exact .inr ⟨D,by simp [I],q⟩
def py{r:ReD}{e:EvD}{f o:OpD}:∀(bs u:List OpD),o∈u->o∈gM r e f bs u
 |[],u,h=>h
 |b::bs,u,h=>py bs _ (Mf h)
def ww{r:ReD}{e:EvD}{bs:List OpD}{o:OpD}:∀(z u:List OpD),o∈u->o∈jt r e z bs u
 |[],u,h=>h
 |f::z,u,h=>ww z _ (py bs u h)
def wH{r:ReD}{e:EvD}{f b:OpD}:∀(bs u:List OpD),b∈bs->0<=M0 r e f.1 b.1->∃o∈gM r e f bs u,o.1=M0 r e f.1 b.1
 |b'::bs,u,h,h0=>by
  rcases nd.1 h with rfl|h
  .have:∃o∈gh r e u f b,o.1=M0 r e f.1 b.1:=by
    rw[gh,bt oM];exact Hu
   obtain⟨o,z,q⟩:=this;exact⟨o,py bs _ z,q⟩
  .exact wH bs _ h h0
def wu{r:ReD}{e:EvD}{bs:List OpD}{f b:OpD}(E:b∈bs)(D:0<=M0 r e f.1 b.1):∀(z u:List OpD),f∈z->∃o∈jt r e z bs u,o.1=M0 r e f.1 b.1
 |f'::z,u,h=>by
  rcases nd.1 h with rfl|h
  .obtain⟨o,I,q⟩:=wH bs u E D;exact⟨o,ww z _ I,q⟩
  .exact wu E D z _ h
def cY{l T:List EvD}(h:C1 (l++T)=true):C1 l=true:=by
 rw[C1,R9,cA]at h;exact h.1
def vP{α:Type}(l:List α)(d:α):l.getD 0 d=l.headD d:=by cases l<;>rfl
def Hg{α:Type}(l:List α)(d:α)(k:Nat):(l.drop k).headD d=l.getD k d:=by
 rw[<-vP,dE,vu,dE];rfl
def rsO(r:ReD)(l T:List EvD)(a c:Nat):SoD:=(whF r.strat ((l++T).drop a)).1.getD ((w9 l a).length-c) soZ
def dI{r:ReD}{l T:List EvD}{a c:Nat}(h:c=(w9 l a).length):rsO r l T a c=stA r.strat (l++T) a:=by
 subst h;rw[rsO,Uw,vP];rfl
def nP{r:ReD}{l T:List EvD}(h:C1 (l++T)=true)(h0:dep 0 (l++T)=0){a:Nat}{e:EvD}(E:l[a]?=some e)(S:e.kind=1)(hc:F8 l a=false):stA r.strat (l++T) (A6 (l++T) a)=rsO r l T l.length (w9 l a).length:=by
 have U:=cY h;have W:=fS U;have O:a<l.length:=(gS E).1;have J:(l++T)[a]?=some e:=by rw[gk O];exact E
 obtain⟨_,s2,_⟩:=kJ r.strat h h0 J oM;obtain⟨hE,_,z⟩:=(F6 U E (.inl S)).2.2 hc;rw[bJ S,Mk oM]at s2;have s1:w9 l (a+1)=w9 l a++[a]:=by rw[w9,E];simp only;rw[bJ S]
 have D:∀i,i<=(l.drop (a+1)).length->dep ((1:Nat):Int) ((l.drop (a+1)).take i)=(w9 l (a+1+i)).length-(w9 l a).length:=fun i I=>by
  rw[Ad]at I;have q1:=U1 W (a+1) oM;have q2:=U1 W (a+1+i) oM;have q3:=kX l (a+1) (a+1+i) oM;rw[show a+1+i-(a+1)=i from oM]at q3;have q4:=gZ ((l.drop (a+1)).take i) 1 0;rw[aaF]at q4;rw[s1,dx,vV]at q1;show dep 1 _=_;omega
 have u:=BH r.strat T (l.drop (a+1)) 1 lR (fun i I=>by
  rw[D i I];rw[Ad]at I;have:=z (a+1+i) oM oM;omega)
 have X:=D (l.drop (a+1)).length lR;rw[XK,Ad,show a+1+(l.length-(a+1))=l.length from oM]at X;have a1:=z l.length oM lR;rw[X,s2]at u;rw[stA,u,Hg,rsO,aaa]
 congr 1;omega
def kF{q:Q}(I:OkD false q){r:ReD}(hm:fY q=some r){m:Int}(z:E0 r m){l T:List EvD}(h:C1 (l++T)=true)(U:dep 0 (l++T)=0):∀(n a:Nat)(p:Int)(u:Bool)(c:Nat),a<=l.length->l.length<a+n->c<=(w9 l a).length->(u=false->c=(w9 l a).length)->(u=true->a=l.length)->
  ∃o∈V8 r l n a p u,∃k:Nat,o.1=k/\r.sorts[k]?=some (rsO r l T a c)
 |0,a,p,u,c,X,h2,_,_,_=>oM
 |n+1,a,p,u,c,X,h2,h3,h4,h5=>by
  have hl:=cY h;have hz:soZ∈r.sorts:=mG z.s0;rw[V8];by_cases D:(u||decide (l.length<=a))=true
  .rw[bJ D];have a7:a=l.length:=by
    rcases Bool.or_eq_true_iff.1 D with D|D
    .exact h5 D
    .have:=dT D;omega
   have a1:rsO r l T a c∈r.sorts:=by
    rw[rsO,dE];cases hq:(whF r.strat ((l++T).drop a)).1[(w9 l a).length-c]? with
    |none=>exact hz
    |some y=>exact kA I hm z h U ((l++T).length-a) a (by rw[dx];omega) y (mG hq)
   obtain⟨k,hk,qk,_⟩:=mc a1;exact⟨((k:Int),[(p,(k:Int))]),wC.2 ⟨k,vK.2 hk,rfl⟩,k,rfl,qk⟩
  .rw[bt D];simp only[xj,eT,aaz,Nat.not_le,ZG]at D;have a3:=h4 D.1;obtain⟨e,W,_⟩:=B8 D.2;have O:(l++T)[a]?=some e:=by rw[gk D.2];exact W
   rw[W,dI a3];simp only;by_cases e3:e.kind=3
   .rw[bJ e3,iA _ O e3];exact⟨(0,[]),by simp [zO],0,rfl,z.s0⟩
   .rw[bt e3];have J:e.kind=1\/e.kind=2:=by rcases aq (Q0 h O).2.1 with q|q|q<;>omega
    obtain⟨A,B,K,qA,qB,qK,_,a2⟩:=AV I hm z h U O e3;have a8:=aY D.2;have a6:=T2 l (Oj D.2);have hf:∃f∈(if e.kind=2 then zO else V8 r l n (a+1) a false),f.1=A:=by
     rcases J with e1|e2
     .rw[bt oM];obtain⟨o,S,k,hk,hs⟩:=kF I hm z h U n (a+1) a false _ oM oM lR (fun _=>rfl) (fun q=>by cases q);rw[dI rfl]at hs;rw[bJ e1]at qA;have X:=D2 z hs;have h2:=D2 z qA;exact⟨o,S,oM⟩
     .rw[bJ e2];rw[bt oM]at qA;have X:=D2 z z.s0;have h2:=D2 z qA;exact⟨(0,[]),by simp [zO],by show(0:Int)=A;omega⟩
    have hb:∃b∈V8 r l n (A6 l a) p (!F8 l a),b.1=B:=by
     obtain⟨_,a4,a5⟩:=F6 hl W J;rcases E:F8 l a with _|_
     .obtain⟨hE,⟨t,ht⟩,a9⟩:=a5 E;have e1:e.kind=1:=by
       rcases J with q|q
       .exact q
       .rw[F8,W]at E;simp [q]at E
      obtain⟨o,S,k,hk,hs⟩:=kF I hm z h U n (A6 l a) p true (w9 l a).length oM oM (by rw[hE,ht];simp) (fun q=>by cases q) (fun _=>hE);rw[hE,<-nP h U W e1 E]at hs;have X:=D2 z hs;have h2:=D2 z qB;exact⟨o,S,oM⟩
     .have hS:=(a4 E).1;obtain⟨o,S,k,hk,hs⟩:=kF I hm z h U n (A6 l a) p false _ oM oM lR (fun _=>rfl) (fun q=>by cases q);rw[dI rfl,<-mP (T:=T) hl W J E]at hs;have X:=D2 z hs;have h2:=D2 z qB;exact⟨o,S,oM⟩
    obtain⟨f,hf,qf⟩:=hf;obtain⟨b,hb,qb⟩:=hb;rw[<-qf,<-qb]at a2;obtain⟨o,S,qo⟩:=wu (r:=r) (e:=e) hb oM _ [] hf;exact⟨o,S,K,by rw[qo,a2],qK⟩
def smB(b:Nat):Bool:=(decide (48<=b)&&decide (b<=57))||decide (b=122)||decide (b=114)||decide (b=111)||decide (b=116)
def smT(s:aa2):Prop:=∀b∈s.data.toList,smB b.toNat=true
def kT{b:Nat}(h:smB b=true):b=48\/b=49\/b=50\/b=51\/b=52\/b=53\/b=54\/b=55\/b=56\/b=57\/b=122\/b=114\/b=111\/b=116:=by
 simp only[smB,xj,cA,eT]at h;omega
def smT.at_{s:aa2}(h:smT s){i:Nat}(u:i<s.size):A8 s i=((s[i]'(u)).toNat:Int)/\smB (s[i]'(u)).toNat=true:=by
 have z:i<s.data.toList.length:=by simpa using u
 have e:s.data.toList[i]=s[i]'(u):=by simp;rfl
 refine⟨?_,?_⟩
 .rw[A8,dE,gI z,e];rfl
 .rw[<-e];exact h _ (aaw _)
def smT.rune{s:aa2}(h:smT s){i:Nat}(u:i<s.size):dZ s i=(((s[i]'(u)).toNat:Int),1,0):=by
 obtain⟨z,D⟩:=h.at_ u;have key:∀b:Nat,smB b=true->Go.bits .and .u8 (b:Int) (Y8 0).1=(Y8 0).2.1/\IntKind.wrap .i32 (Go.bits .andNot .u8 (b:Int) (Y8 0).1)=b/\¬((lO (b:Int) ((0:Nat)+1-(1:Nat))).2<(Y8 0).2.2\/1114111<(lO (b:Int) ((0:Nat)+1-(1:Nat))).1\/(55296<=(lO (b:Int) ((0:Nat)+1-(1:Nat))).1/\(lO (b:Int) ((0:Nat)+1-(1:Nat))).2<=57343)):=by
  intro b E;rcases kT E with rfl|rfl|rfl|rfl|rfl|rfl|rfl|rfl|rfl|rfl|rfl|rfl|rfl|rfl<;>decide
 obtain⟨I,J,O⟩:=key _ D;rw[dZ,bJ u,ay,z,bJ I,J,bU,uZ,bt O,bJ rfl];rfl
def smT.err{s:aa2}(h:smT s):∀n i,n=s.size-i->yW s i=0
 |0,i,hn=>by rw[yW,Yv oM]
 |n+1,i,hn=>by
  have u:i<s.size:=oM;rw[yW,Ky u,Ky (by rw[h.rune u]),h.rune u];exact smT.err h n _ (by show n=s.size-(i+1);omega)
def smT.dec{s:aa2}(h:smT s){i:Nat}(u:i<s.size):Utf8.decode s i=((s[i]'(u)).toNat,1):=by
 obtain⟨D,z⟩:=h.at_ u;have:=kT z;rw[decode_ascii s i u oM]
def smT.all{s:aa2}(h:smT s):∀n i,n=s.size-i->zG mJ s i=true
 |0,i,hn=>by rw[zG,Yv oM]
 |n+1,i,hn=>by
  have u:i<s.size:=oM;obtain⟨D,z⟩:=h.at_ u;rw[zG,Ky u,h.dec u,bJ]
  .exact smT.all h n _ oM
  .generalize (s[i]'(u)).toNat=b at z;rcases kT z with rfl|rfl|rfl|rfl|rfl|rfl|rfl|rfl|rfl|rfl|rfl|rfl|rfl|rfl<;>rfl
def smT.text{s:aa2}(h:smT s):Y9 s=true:=by rw[Y9,h.err _ 0 rfl,h.all _ 0 rfl];rfl
def smT.part{s:aa2}(h:smT s):∀n i,n=s.size-i->(i=0->iI (A8 s 0)=true)->jT s i=true
 |0,i,hn,h0=>by rw[jT,Yv oM]
 |n+1,i,hn,h0=>by
  have u:i<s.size:=oM;obtain⟨E,z⟩:=h.at_ u;have c1:lk ((s[i]'(u)).toNat:Int)=true:=by
   generalize (s[i]'(u)).toNat=b at z;rcases kT z with rfl|rfl|rfl|rfl|rfl|rfl|rfl|rfl|rfl|rfl|rfl|rfl|rfl|rfl<;>rfl
  have c2:(decide (i=0)&& !iI ((s[i]'(u)).toNat:Int))=false:=by
   by_cases D:i=0
   .subst D;rw[<-E,h0 rfl];rfl
   .simp [D]
  rw[jT,Ky u,h.dec u];simp only[c1,c2];exact smT.part h n _ oM oM
def ET:∀n,smT (dg n)/\(dg n).size<=n+1:=by
 intro n;induction n using Nat.strongRecOn with
 |ind n J=>
  have z:∀m:Fin 10,(∀b∈(dg1 m.1).data.toList,smB b.toNat=true)/\(dg1 m.1).size=1:=by decide
  rw[dg];split
  next h=>obtain⟨a,b⟩:=z ⟨n,h⟩;exact⟨a,by simp only at b;omega⟩
  .rename_i h;obtain⟨I,O⟩:=J (n / 10) oM;have e:dg (n % 10)=dg1 (n % 10):=by rw[dg,Ky oM]
   obtain⟨D,E⟩:=z ⟨n % 10,oM⟩;simp only at D E;rw[e];refine⟨fun b u=>?_,by rw[Dr,E];omega⟩;rw[aA,gd]at u;rcases u with u|u
   .exact I b u
   .exact D b u
def qr:Y9 eB=true:=smT.text (s:=eB) (fun b h=>by cases h)
def Up(n:Nat):dg n≠eB:=fun h=>by have:=Kg n;rw[h]at this;simp at this
def Ng(n:Nat):dw eB (zN n)=true/\(zN n).size<=n+2:=by
 have E:smT (zN n):=by
  intro b u;rw[zN]at u;split at u
  .have:b=122:=by simpa [zS] using u
   rw[this];rfl
  .rw[aA,gd]at u;rcases u with u|u
   .have:b=122:=by simpa [zS] using u
    rw[this];rfl
   .exact(ET n).1 b u
 have z:A8 (zN n) 0=122:=by
  rw[zN];split
  .rfl
  .rw[A8,aA];rfl
 have D:zN n≠eB:=fun h=>by rw[h]at z;cases z
 refine⟨?_,?_⟩
 .rw[dw,ku,E.part _ 0 rfl (fun _=>by rw[z];rfl),E.text,qr];have:decide (eB=uw)=false:=by decide
  simp [D,this]
 .rw[zN];have:=(ET n).2;have I:zS.size=1:=rfl;split
  .omega
  .rw[Dr];omega
def Dt:∀(d:Nat)(f:Bool)(q:Q),okQ d f q=true->∀x∈fsQ f q,eF true x=true
 |0,f,q,h,x,u=>by cases h
 |d+1,f,q,h,x,u=>by
  rw[okQ]at h;simp only[cA,tA]at h;obtain⟨⟨⟨⟨J,D⟩,O⟩,E⟩,I⟩:=h;rw[jM,gd,gd,ez,ez,xB,xB]at u;rcases u with u|⟨y,z,u⟩|⟨y,z,u⟩
  .cases f with
   |true=>
    have:x=q:=by simpa using u
    rw[this];exact D
   |false=>cases u
  .exact Dt d f y (E y z) x u
  .exact Dt d (!f) y (I y z) x u
def MJ(x:Q):Prop:=x.sp.size<=1048576/\x.lc.size<=1048576/\x.vl.size<=1048576
def AY{H:d7}{lo:Nat}:∀(k:Nat)(f:Bool)(cs:LV)(q:Q),QR H lo k f cs q->∀x∈fsQ f q,MJ x
 |0,f,cs,q,h,x,u=>by exact h.elim
 |k+1,f,cs,q,h,x,u=>by
  have z:∀(g:Bool)(v:aa3)(l:List Q),QsR H lo k g v l->∀x∈fsL g l,MJ x:=by
   intro g v l X x u;rw[ez,xB]at u;obtain⟨y,hy,u⟩:=u;obtain⟨i,W⟩:=Qy.1 hy;obtain⟨b,o,c,cs,own,hv,hb,hg,a1,hr⟩:=SlI.at_ X W;exact AY k g _ y hr x u
  rw[jM,gd,gd]at u;cases f with
  |true=>
   obtain⟨va,J,wa,D,_,E,I,_,_,O,S,U⟩:=h.filter;rcases u with u|u|u
   .have:x=q:=by simpa using u
    rw[this];exact⟨O,S,U⟩
   .exact z true _ _ E x u
   .exact z false _ _ I x u
  |false=>
   obtain⟨va,J,wa,D,_,E,I,_,_⟩:=h.path;rcases u with u|u|u
   .cases u
   .exact z false _ _ E x u
   .exact z true _ _ I x u
def qT{α:Type}(p:Q->Bool)(g:Q->α)(D:α->α->Bool):∀(l:List Q)(u:List α),∀z∈nF p g D u l,z∈u\/∃y∈l,p y=true/\g y=z
 |[],u,z,hz=> .inl hz
 |x::l,u,z,hz=>by
  rw[ik]at hz;rcases qT p g D l _ z hz with h|⟨y,O,I,J⟩
  .split at h
   .rename_i E;simp only[cA]at E;rcases gd.1 h with h|h
    .exact .inl h
    .exact .inr ⟨x,by simp,E.1,by simpa using (mj.1 h).symm⟩
   .exact .inl h
  .exact .inr ⟨y,by simp [O],I,J⟩
def nmA(a:AtD):aa2×aa2:=(a.space,a.loc)
def yY(a:AtD):∀(l:List AtD)(u:List (aa2×aa2)),aGo u (l++[a])=(aGo u l&& !(kg (nmA a) (u++l.map nmA)|| !dw a.space a.loc|| !Y9 a.val))
 |[],u=>by
  rw[sB,aGo,aGo,aGo,XV,su];split
  next h=>rw[show kg (nmA a) u=kg (a.space,a.loc) u from rfl,h];rfl
  next h=>rw[show kg (nmA a) u=kg (a.space,a.loc) u from rfl,Bool.eq_false_iff.2 h];rfl
 |x::l,u=>by
  rw[vG,aGo,aGo];split
  .rfl
  .rw[yY a l,xC,yo];rfl
structure OpR(e:EvD)(m:Nat):Prop where
 kind:e.kind=1
 text:e.text=eB
 named:dw e.space e.loc=true
 sp:e.space.size<=1048576
 lc:e.loc.size<=1048576
 go:aGo [] e.attrs=true
 len:e.attrs.length<=m
 at_:∀a∈e.attrs,a.space.size<=1048576/\a.loc.size<=1048576/\a.val.size<=1048576
def Tn(n:NmQ):Prop:=dw n.1 n.2=true/\n.1.size<=1048576/\n.2.size<=1048576
def IJ{k:aa2×aa2}{l:List (aa2×aa2)}(h:k∉l):kg k l=false:=by
 rw[kg,List.any_eq_false];intro x u q;exact h (dT q▸u)
def lV:∀(r:List (NmQ×List aa2))(e:EvD)(m:Nat),OpR e m->(r.map (·.1)).Nodup->(∀n∈r.map (·.1),n∉e.attrs.map nmA)->(∀x∈r,Tn x.1/\∀v∈T6 x.2,Y9 v=true/\v.size<=1048576)->∀y∈U9 r e,OpR y (m+r.length)
 |[],e,m,h,_,_,_,y,u=>by
  rw[U9]at u;rw[mj.1 u];exact h
 |x::r,e,m,h,hd,hn,hr,y,u=>by
  rw[xC,Yx]at hd;rw[U9,gd,xB]at u;rw[kO,XI r.length 1,<-A1];rcases u with u|⟨v,S,u⟩
  .have:=lV r e m h hd.2 (fun n D=>hn n (by simp [wC]at D ⊢;exact .inr D)) (fun z O=>hr z (by simp [O])) y u;exact⟨this.kind,this.text,this.named,this.sp,this.lc,this.go,by have:=this.len;omega,this.at_⟩
  .obtain⟨⟨W,X,n3⟩,J⟩:=hr x sM;obtain⟨v1,v2⟩:=J v S;have U:x.1∉e.attrs.map nmA:=hn x.1 sM;refine lV r (atV x.1 e v) (m+1) ⟨h.kind,h.text,h.named,h.sp,h.lc,?_,?_,?_⟩ hd.2 ?_ (fun z O=>hr z (by simp [O])) y u
   .show aGo [] (e.attrs++[⟨x.1.1,x.1.2,v⟩])=true;rw[yY,h.go,sB,show nmA ⟨x.1.1,x.1.2,v⟩=x.1 from rfl,IJ U,W,v1];rfl
   .show(e.attrs++[_]).length<=m+1;have:=h.len;simp;omega
   .intro a I;rcases gd.1 I with I|I
    .exact h.at_ a I
    .rw[mj.1 I];exact⟨X,n3,v2⟩
   .intro n D q;have E:n∈(e.attrs++[(⟨x.1.1,x.1.2,v⟩:AtD)]).map nmA:=q;rw[GT,gd]at E;rcases E with E|E
    .exact hn n (by simp [wC]at D ⊢;exact .inr D) E
    .have:n=x.1:=by simpa [nmA] using E
     exact hd.1 (this▸D)
def wz:∀r,r.length+1<=P7 r
 |[]=>R2 1
 |v::r=>by
  have h:=wz r;have:2*P7 r<=(v.length+2)*P7 r:=yG _ oM;rw[P7,kO];omega
def SmE(e:EvD):Prop:=aN e=true/\e.space.size<=1048576/\e.loc.size<=1048576/\e.text.size<=1048576/\e.attrs.length<=1048576/\∀a∈e.attrs,a.space.size<=1048576/\a.loc.size<=1048576/\a.val.size<=1048576
def mZ{H:d7}{lo k:Nat}{cs:LV}{q:Q}(hr:QR H lo k false cs q)(hq:jX q=true){l:List EvD}(hl:Y4 (spQ q)=some l):∀e∈l,SmE e/\(e.kind=1\/e.kind=2):=by
 have a7:=(mg hq).2;have b0:=eZ false q;have J:∀x∈fsQ false q,eF true x=true:=Dt 16 false q (by simp only[jX,cA]at hq;exact hq.2);have O:=AY k false cs q hr;have a6:(spQ q).vals.length=(spQ q).attrs.length:=by rw[spQ];simp
 rw[iU (spQ q) a6]at hl;split at hl
 .cases hl
 .rename_i hc;cases hl;have a9:uK (spQ q).vals ((spQ q).names.length+1)<=24:=by unfold qx at hc;omega
  obtain⟨c1,c2⟩:=mM (spQ q).vals ((spQ q).names.length+1);have e1:(((spQ q).names.length+1:Nat):Int)=((spQ q).names.length:Int)+1:=oM;rw[e1]at c1 c2;have hp:((spQ q).names.length+1)*P7 (spQ q).vals<=24:=by
   by_cases h:((spQ q).names.length+1)*P7 (spQ q).vals<=24
   .exact h
   .have:=c2 oM;omega
  have b2:=wz (spQ q).vals;have b1:P7 (spQ q).vals<=24:=by
   have:1*P7 (spQ q).vals<=((spQ q).names.length+1)*P7 (spQ q).vals:=yG _ oM;omega
  have a1:∀(a b:Int),4<=a->b<=6->∀n∈X3 a b (fsQ false q),Tn n:=by
   intro a b ha hb n E;rcases qT _ _ _ _ _ n E with h|⟨y,D,X,h2⟩
   .cases h
   .simp only[bH,cA,eT]at X;have u:=J y D;have hN:xR y.op=true:=by simp only[xR,cA,eT];omega
    simp only[eF,jd,cA,jU,hN,G3,za,qNamed]at u;obtain⟨z1,z2,_⟩:=O y D;rw[<-h2];refine⟨?_,z1,z2⟩;show dw y.sp y.lc=true;have h3:=u.1.2.2;simp only[dw,cA];exact⟨⟨⟨h3.1.1.1.1.2,h3.1.1.1.2⟩,h3.1.1.2⟩,h3.1.1.1.1.1⟩
  have z:∀(p:Q->Bool)(g:Q->aa2),(nF p g dP [] (fsQ false q)).length<=64:=by
   intro p g;have:=dU p g dP (fsQ false q) [];simp at this;omega
  have W:∀n,∀v∈T6 (T4 6 n (fsQ false q)),Y9 v=true/\v.size<=1048576:=by
   intro n v U;rw[T6,gd]at U;rcases U with U|U
   .rcases qT _ _ _ _ _ v U with h|⟨y,D,X,h2⟩
    .cases h
    .have u:=J y D;simp only[eF,jd,cA,tp]at u;rw[<-h2];exact⟨u.2.2,(O y D).2.2⟩
   .rw[mj]at U;rw[U];split
    .obtain⟨d1,d2⟩:=ET (X5 (T4 6 n (fsQ false q)));have:=(kL (T4 6 n (fsQ false q))).2;have:=z (eG 6 n) Q.vl;exact⟨d1.text,by rw[T4]at*;omega⟩
    .exact⟨qr,by decide⟩
  intro e he;rw[lH,gd,xB,wC]at he;rcases he with⟨n,E,he⟩|⟨t,ht,rfl⟩
  .have I:Tn n:=by
    rcases gd.1 E with E|E
    .exact a1 4 4 oM oM n E
    .rw[mj.1 E];obtain⟨z1,z2⟩:=Ng (V6 (spQ q).names);have:=(qU (spQ q).names).2;have a2:(spQ q).names.length<=64:=by
      have h:=dU (bH 4 4) qNm P0 (fsQ false q) [];show(X3 4 4 (fsQ false q)).length<=64;rw[X3];simp at h;omega
     exact⟨z1,wi _,by show(zN _).size<=_;omega⟩
   have a5:(spQ q).attrs.Nodup:=by
    show(X3 5 6 (fsQ false q)).Nodup;exact(fZ (bH 5 6) qNm P0 (fun x y=>I2) (fsQ false q) []).2.2 WZ
   have hz:(spQ q).attrs.zip (spQ q).vals=(spQ q).attrs.map fun n=>(n,T4 6 n (fsQ false q)):=uy _ _;rw[hz]at he;have h0:OpR (am n) 0:=⟨rfl,rfl,I.1,I.2.1,I.2.2,rfl,lR,fun a ha=>by cases ha⟩
   have:=lV _ (am n) 0 h0 (by rw[ZV,show((fun x:NmQ×List aa2=>x.1) ∘ fun n=>(n,T4 6 n (fsQ false q)))=id from rfl,List.map_id];exact a5) (fun n _ q=>by cases q) (fun x hx=>by
    obtain⟨n',a4,rfl⟩:=wC.1 hx;exact⟨a1 5 6 oM oM n' a4,W n'⟩) e he
   have a3:=this.len;rw[ED]at a3;have a8:(spQ q).attrs.length<=23:=oM;refine⟨⟨?_,this.sp,this.lc,by rw[this.text];decide,oM,this.at_⟩,.inl this.kind⟩;rw[aN,bJ this.kind,this.text,this.named,jk,this.go];simp;omega
  .have S:Y9 t=true/\t≠eB/\t.size<=1048576:=by
    rcases gd.1 ht with ht|ht
    .rcases qT _ _ _ _ _ t (show t∈T4 7 (eB,eB) (fsQ false q) from ht)with h|⟨y,D,X,h2⟩
     .cases h
     .simp only[eG,cA,eT]at X;have u:=J y D;simp only[eF,jd,cA,tp,Hw,aaL,Ms]at u;rw[<-h2];refine⟨u.2.2,?_,(O y D).2.2⟩;rcases u.2.1.2 with h|h
      .exact absurd X.1 h
      .exact h
    .rw[mj.1 ht];obtain⟨d1,d2⟩:=ET (X5 (spQ q).texts);have:=(kL (spQ q).texts).2;have a2:(spQ q).texts.length<=64:=z _ _;exact⟨d1.text,Up _,oM⟩
   refine⟨⟨?_,wi _,wi _,S.2.2,wi _,fun a ha=>by cases ha⟩,.inr rfl⟩;rw[aN,bt (by show¬(2:Int)=1;omega),bJ (show(dY t).kind=2 from rfl)];simp [dY,S.1,S.2.1]
def kdX(r:ReD)(x:SoD):Int:=ixG (fun y=>bZ x y) r.sorts 0
def nI{l:List EvD}(h:C1 l=true){a:Nat}{e:EvD}(z:l[a]?=some e)(E:0<a):∃p:Nat,di l a 0=p/\(w9 l a)[(w9 l a).length-1]?=some p/\0<(w9 l a).length:=by
 have D:=fS h;have I:a<l.length:=(gS z).1;have O:=U1 D a oM;obtain⟨S,_,_,J,_⟩:=Q0 h z;have:=J E;have u:0<(w9 l a).length:=oM;rw[jV D a 0 oM,vX,List.getElem?_reverse u,ZU,gI oM];exact⟨_,rfl,rfl,u⟩
def jW(l:List EvD):di l 0 0= -1:=rfl
section
variable{q:Q}(hok:OkD false q){r:ReD}(hm:fY q=some r){m:Int}(hg:E0 r m)
include hok hm hg
def vO{l T:List EvD}(h:C1 (l++T)=true)(D:dep 0 (l++T)=0){a:Nat}{e:EvD}(z:l[a]?=some e)(O:e.kind=1):∃o∈eD r l a,o.1=kdX r (stA r.strat (l++T) (a+1)):=by
 have I:a<l.length:=(gS z).1;rw[eD,z];simp only;rw[bt oM];obtain⟨o,J,k,E,u⟩:=kF hok hm hg h D (l.length+1) (a+1) a false _ oM oM lR (fun _=>rfl) (fun q=>by cases q);rw[dI rfl]at u;exact⟨o,J,by rw[E,kdX,D2 hg u]⟩
def sq{l T:List EvD}(h:C1 (l++T)=true)(S:dep 0 (l++T)=0){a:Nat}{e:EvD}(z:l[a]?=some e)(W:e.kind=1\/e.kind=2)(J:0<a):∃o∈ak r l a,o.1=kdX r (stA r.strat (l++T) (A6 (l++T) a)):=by
 have X:=cY h;have I:a<l.length:=(gS z).1;obtain⟨p,hp,_⟩:=nI X z J;have a3:=aY I;have a4:=T2 l (Oj I);rw[ak,hp,bt oM];obtain⟨_,a2,a1⟩:=F6 X z W;rcases u:F8 l a with _|_
 .obtain⟨E,⟨t,ht⟩,_⟩:=a1 u;have e1:e.kind=1:=by
   rcases W with q|q
   .exact q
   .rw[F8,z]at u;simp [q]at u
  obtain⟨o,O,k,U,D⟩:=kF hok hm hg h S (l.length+1) (A6 l a) p true (w9 l a).length oM oM (by rw[E,ht];simp) (fun q=>by cases q) (fun _=>E);rw[E,<-nP h S z e1 u]at D;rw[E]at O;exact⟨o,by rw[E];exact O,by rw[U,kdX,D2 hg D]⟩
 .obtain⟨o,O,k,U,D⟩:=kF hok hm hg h S (l.length+1) (A6 l a) p false _ oM oM lR (fun _=>rfl) (fun q=>by cases q);rw[dI rfl,<-mP (T:=T) X z W u]at D;exact⟨o,O,by rw[U,kdX,D2 hg D]⟩
end
def AD{l:List OpD}{x:OpD}(h:(l.map (·.1)).Nodup):((eI l x).map (·.1)).Nodup:=by
 rw[eI];split
 .exact h
 .rename_i u;rw[GT,aap];refine⟨h,by simp,fun y E z I q=>?_⟩;obtain⟨w,D,rfl⟩:=wC.1 E;have:z=x.1:=by simpa using I
  exact u (AH.2 ⟨w,D,ib (by rw[q,this])⟩)
def DB{r:ReD}{e:EvD}{u:List OpD}{f b:OpD}(h:(u.map (·.1)).Nodup):((gh r e u f b).map (·.1)).Nodup:=by
 rw[gh];split
 .exact h
 .exact AD h
def qm{r:ReD}{e:EvD}{f:OpD}:∀(bs u:List OpD),(u.map (·.1)).Nodup->((gM r e f bs u).map (·.1)).Nodup
 |[],_,h=>h
 |b::bs,u,h=>qm bs _ (DB h)
def qg{r:ReD}{e:EvD}{bs:List OpD}:∀(z u:List OpD),(u.map (·.1)).Nodup->((jt r e z bs u).map (·.1)).Nodup
 |[],_,h=>h
 |f::z,u,h=>qg z _ (qm bs u h)
def to(r:ReD)(l:List EvD)(n a:Nat)(p:Int)(h:Bool):((V8 r l n a p h).map (·.1)).Nodup:=by
 cases n with
 |zero=>exact WZ
 |succ n=>
  rw[V8];split
  .rw[Nt,ZV];unfold List.Nodup;rw[List.pairwise_map];refine List.Pairwise.imp (fun{x y} u q=>u ?_) ZE;have:(x:Int)=y:=q;omega
  .split
   .exact WZ
   .split
    .simp [zO]
    .exact qg _ _ WZ
def vJ(x y:SoD):bZ x y=bZ y x:=by
 rw[Mu];exact⟨fun h=>by have:=xM h;subst this;exact h,fun h=>by have:=xM h;subst this;exact h⟩
structure KdC(q:Q)(r:ReD):Prop where
 ok:OkD false q
 nq:nQ q<=400
 mkq:fY q=some r
 wf:WfR r (A5 (C7 q).progs).toNat
 lab:∀e∈r.labels,SmE e/\(e.kind=1\/e.kind=2)
def KdC.gr{q:Q}{r:ReD}(h:KdC q r):∃m,E0 r m:=(dR h.mkq).1
def KdC.strat{q:Q}{r:ReD}(h:KdC q r):r.strat=C7 q:=(dR h.mkq).2.1
structure RcR(Hs:d7)(lo K:Nat)(r:ReD)(H:d7)(row:LV):Prop where
 hR:fH H (· <H.n) (QR Hs lo K false) (QR Hs lo K true) row r
 l12:row.length=12
 one:row.all Value.oneCell'=true
 low:lo<=H.n
 eq:∀j,j<lo->H.g j=Hs.g j
section
variable{Hs:d7}{lo K:Nat}{r:ReD}{H H':d7}{row:List Value}
def RcR.stay(h:RcR Hs lo K r H row)(z:d9 H.n H H'):RcR Hs lo K r H' row:=by
 have E:=z.n;have D:=h.low;exact⟨h.hR.mono (fun j u=>z.g j u) (fun j u=>oM),h.l12,h.one,oM,fun j u=>by rw[z.g j oM,h.eq j u]⟩
def RcR.form(h:RcR Hs lo K r H row):∃S la lc U c1 W c2 X c3,row[8]?=some (.slice la r.labels.length lc)/\row[9]?=some (.slice U r.sorts.length c1)/\row[10]?=some (.slice W r.size.length c2)/\row[11]?=some (.slice X r.how.length c3)/\
  ldC (some true) (some 8) 0 row=some (.agg S.toArray)/\row.take 12=row/\StF H (· <H.n) (QR Hs lo K false) (QR Hs lo K true) S r.strat/\SlI H H.n 5 (EvF H (· <H.n)) (.slice la r.labels.length lc) r.labels/\SlI H H.n 3 (y7 soE) (.slice U r.sorts.length c1) r.sorts/\SlI H H.n 1 (y7 inE) (.slice W r.size.length c2) r.size/\SlI H H.n 3 (y7 hoE) (.slice X r.how.length c3) r.how:=by
 obtain⟨S,vl,w1,w2,w3,u,J,E,I,O,D⟩:=h.hR;obtain⟨pa,pc,ga,gc,xa,xc,ea,ec,ta,tc,a4,_⟩:=I0 J;have z:S.length=8:=by rw[a4];rfl
 obtain⟨U,c1,rfl⟩:=I.slice;obtain⟨W,c2,rfl⟩:=O.slice;obtain⟨X,c3,rfl⟩:=D.slice;obtain⟨la,lc,rfl⟩:=E.slice;have a5:=h.l12;refine⟨S,la,lc,U,c1,W,c2,X,c3,?_,?_,?_,?_,?_,kC oM,J,E,I,O,D⟩
 .rw[u,ns oM,z];rfl
 .rw[u,ns oM,z];rfl
 .rw[u,ns oM,z];rfl
 .rw[u,ns oM,z];rfl
 .rw[iY _ _ _ oM,u,lP,A2 oM,kC oM]
end
def Tl{q:Q}{r:ReD}(D:KdC q r){Hs:d7}{lo K:Nat}{H:d7}{row:LV}(h:RcR Hs lo K r H row){el:LV}{e:EvD}(z:EvF H (· <H.n) el e)(u:e.attrs.length<=1000000)(f n:Int):
  CL prog l7 51 [.agg row.toArray,.agg el.toArray,iV f,iV n] H=some (.int .i64 (M0 r e f n),none):=
 Tk Hs lo K r _ D.wf H row h.hR h.low h.eq h.one el e z u f n
def LJ{r:ReD}{e:EvD}{f n:Int}(h:0<=M0 r e f n):M0 r e f n<r.sorts.length:=by
 rw[M0]at h ⊢;split
 .rename_i D;rcases fq (fun y=>bZ (I9 r.strat e (r.sorts.getD f.toNat soZ) (r.sorts.getD n.toNat soZ)) y) r.sorts 0 with⟨_,u⟩|⟨_,u,z⟩
  .rw[u];omega
  .omega
 .omega
def fG(r:ReD)(n:Nat)(o:OpD):Prop:=0<=o.1/\o.1<r.sorts.length/\o.2.length<=2 ^ n
def fG.up{r:ReD}{n m:Nat}{o:OpD}(h:fG r n o)(k:n<=m):fG r m o:=⟨h.1,h.2.1,HE h.2.2 (Nat.pow_le_pow_right oM k)⟩
def xh{r:ReD}{m:Int}(h:E0 r m)(n:Nat):∀o∈zO,fG r n o:=by
 have l0:0<r.sorts.length:=(gS h.s0).1;intro o u;have:o=(0,[]):=by simpa [zO] using u
 rw[this];exact⟨JE _,by show(0:Int)<_;omega,wi _⟩
def Me{r:ReD}{e:EvD}{E bs:List OpD}{n:Nat}(J:∀o∈E,fG r n o) (I:∀o∈bs,fG r n o):∀o∈jt r e E bs [],fG r (n+1) o:=by
 intro o D;rcases fx _ _ D with D|⟨f,z,b,u,h,rfl⟩
 .cases D
 .have O:=(J f z).2.2;have S:=(I b u).2.2;refine⟨h,LJ h,?_⟩;show(f.2++b.2).length<=_;rw[dx,Nat.pow_succ];omega
def fh{r:ReD}{m:Int}(z:E0 r m)(l:List EvD):∀(n a:Nat)(p:Int)(u:Bool),∀o∈V8 r l n a p u,fG r n o
 |0,a,p,u,o,h=>by cases h
 |n+1,a,p,u,o,h=>by
  rw[V8]at h;split at h
  .obtain⟨k,E,rfl⟩:=wC.1 h;have:=vK.1 E;have D:1<=2 ^ (n+1):=Nat.one_le_two_pow;exact⟨by show(0:Int)<=(k:Int);omega,by show(k:Int)<_;omega,by show 1<=_;exact D⟩
  .split at h
   .cases h
   .split at h
    .exact xh z _ o h
    .refine Me (fun o h=>?_) (fh z l n _ _ _) o h;split at h
     .exact xh z _ o h
     .exact fh z l n _ _ _ o h
def kK:∀{n:Nat}{l:List Int},l.Nodup->(∀x∈l,0<=x/\x<n)->l.length<=n
 |0,[],_,_=>lR
 |0,x::l,_,hb=>oN (hb x sM)
 |n+1,l,h,hb=>by
  by_cases z:(n:Int)∈l
  .have E:=List.length_erase_of_mem z;have I:=kK (n:=n) (l:=l.erase (n:Int)) (h.erase _) (fun x u=>by
    have D:=(List.Nodup.mem_erase_iff h).1 u;have:=hb x D.2;have:=D.1;omega)
   have:=List.length_pos_of_mem z;omega
  .have:=kK (n:=n) h (fun x u=>by
    have:=hb x u;have:x≠n:=fun q=>z (q▸u);omega)
   omega
def ij{r:ReD}{m:Int}(u:E0 r m)(l:List EvD)(n a:Nat)(p:Int)(h:Bool):(V8 r l n a p h).length<=r.sorts.length:=by
 have:=kK (to r l n a p h) (fun x z=>by obtain⟨o,ho,rfl⟩:=wC.1 z;have:=fh u l n a p h o ho;exact⟨this.1,this.2.1⟩)
 simpa using this
end Go.Proofs.YtjlpdddmmnijoaaGreatDoor.Ve
namespace Go.Proofs.YtjlpdddmmnijoaaGreatDoor.Ve
open Go Go.RowKit
def eO(v:aa3):Prop:=∀a n c,v= .slice a n c->n=0\/c=n+1
def eO.mk{a:Option Addr}{n:Nat}:eO (.slice a n (n+1)):=fun a' z u h=>by cases h;exact .inr rfl
def eO.nil{a:Option Addr}{c:Nat}:eO (.slice a 0 c):=fun a' z u h=>by cases h;exact .inl rfl
def gl{P:Program}{H:d7}{lo sz:Nat}{α:Type}{R:LV->α->Prop}{v:aa3}{l:List α}{t e:TypeId}(hv:SlI H lo sz R v l)(hc:eO v)(X:P.underlying t=some (.slice e))(hs:D5 P e=some sz)(h0:0<sz)
  {x y:Option aa3} {i j:Nat} (hx:bnd x 0=some i) (E:bnd y l.length=some j) (J:i<=j) (S:j<=l.length):
  ∃u,(∀H',(∀k,k<lo->H'.g k=H.g k)->L9 P H' t v x y none=some u)/\SlI H lo sz R u ((l.drop i).take (j-i))/\eO u:=by
 have D:((l.drop i).take (j-i)).length=j-i:=by rw[Ib,Ad];omega
 have z:¬sz=0:=oM;rcases hv with⟨rfl,rfl⟩|⟨b,o,c,rfl,h⟩
 .obtain rfl:j=0:=by simpa using S
  obtain rfl:i=0:=oM;refine⟨.slice none 0 0,fun H' _=>?_,.inl ⟨rfl,by simp⟩,eO.nil⟩;simp only[L9,X,hs,hx,bt z];rw[show bnd y 0=some 0 from E];simp [z]
 .by_cases W:l=[]
  .subst W;obtain rfl:j=0:=by simpa using S
   obtain rfl:i=0:=oM;refine⟨.slice (some ⟨b,o,none⟩) 0 c,fun H' _=>?_,.inr ⟨b,o,c,by simp,.inl sM⟩,eO.nil⟩;simp only[yd]at E;simp only[L9,X,hs,hx,bt z,yd,E];simp [z]
  .rcases h with h|⟨cs,own,h1,h2,h3,h4⟩
   .exact absurd h W
   have a1:=ZT.2 W;have I:c=l.length+1:=by
    rcases hc _ _ _ rfl with h|h
    .omega
    .exact h
   subst I;have hm:(l.length)*sz=j*sz+(l.length-j)*sz:=by rw[<-wS];congr 1;omega
   have a2:j*sz=i*sz+(j-i)*sz:=by rw[<-wS];congr 1;omega
   refine⟨.slice (some ⟨b,o+i*sz,none⟩) (j-i) (j-i+1),fun H' hH=>?_,.inr ⟨b,o+i*sz,j-i+1,by rw[D],.inr ⟨cs,own,h1,h2,by rw[D];omega,fun k a U=>?_⟩⟩,eO.mk⟩
   .have hz:oo H' b=some sz:=by simp only[oo,hH b h1,h2]
    simp only[L9,X,hs,hx,bt z,E,bJ (aI J S),bt (show¬l.length=0 from oM),hz,ne_eq,KA,MR,bt (show¬l.length+1=l.length from oM)]
   .have O:k<j-i:=by
     have:=(gS U).1;omega
    rw[xd,bJ O,vu]at U;have:=h4 (i+k) a U;rw[show o+i*sz+k*sz=o+(i+k)*sz by rw[wS];omega];exact this
def IK{P:Program}{H:d7}{lo sz:Nat}{α:Type}{R:LV->α->Prop}{v:aa3}{l:List α}{t e:TypeId}(hv:SlI H lo sz R v l)(S:P.underlying t=some (.slice e))(hs:D5 P e=some sz)(h0:0<sz)
  {x y:Option aa3} {i:Nat} (U:bnd x 0=some i) (E:bnd y l.length=some l.length) (O:i<=l.length):
  ∃u,(∀H',(∀k,k<lo->H'.g k=H.g k)->L9 P H' t v x y none=some u)/\SlI H lo sz R u (l.drop i):=by
 have z:¬sz=0:=oM;rcases hv with⟨rfl,rfl⟩|⟨b,o,c,rfl,h⟩
 .obtain rfl:i=0:=by simpa using O
  refine⟨.slice none 0 0,fun H' _=>?_,.inl ⟨rfl,by simp⟩⟩;simp only[L9,S,hs,U,bt z];rw[show bnd y 0=some 0 from E];simp [z]
 .by_cases X:l=[]
  .subst X;obtain rfl:i=0:=by simpa using O
   refine⟨.slice (some ⟨b,o,none⟩) 0 c,fun H' _=>?_,.inr ⟨b,o,c,by simp,.inl sM⟩⟩;simp only[yd]at E;simp only[L9,S,hs,U,bt z,yd,E];simp [z]
  .rcases h with h|⟨cs,own,I,J,h3,h4⟩
   .exact absurd h X
   have a1:=ZT.2 X;have D:(l.drop i).length=l.length-i:=Ad;have hm:l.length*sz=i*sz+(l.length-i)*sz:=by rw[<-wS];congr 1;omega
   have rd:∀(k:Nat) a,(l.drop i)[k]?=some a->R ((cs.drop (o+i*sz+k*sz)).take sz) a:=fun k a hk=>by
    rw[vu]at hk;have:=h4 (i+k) a hk;rw[show o+i*sz+k*sz=o+(i+k)*sz by rw[wS];omega];exact this
   by_cases hc:c=l.length
   .refine⟨.slice (some ⟨b,o+i*sz,none⟩) (l.length-i) (l.length-i),fun H' W=>?_,.inr ⟨b,o+i*sz,_,by rw[D],.inr ⟨cs,own,I,J,by rw[D];omega,rd⟩⟩⟩;have hz:oo H' b=some sz:=by simp only[oo,W b I,J]
    simp only[L9,S,hs,U,bt z,E,bJ (aI O lR),bt (show¬l.length=0 from oM),hz,ne_eq,KA,MR,bJ hc,jd]
   .refine⟨.slice (some ⟨b,o+i*sz,none⟩) (l.length-i) (l.length-i+1),fun H' W=>?_,.inr ⟨b,o+i*sz,_,by rw[D],.inr ⟨cs,own,I,J,by rw[D];omega,rd⟩⟩⟩;have hz:oo H' b=some sz:=by simp only[oo,W b I,J]
    simp only[L9,S,hs,U,bt z,E,bJ (aI O lR),bt (show¬l.length=0 from oM),hz,ne_eq,KA,MR,bt hc]
def mI(d:Nat):bnd none d=some d:=rfl
def gC(n d:Nat):bnd (some (.int .i64 (n:Int))) d=some n:=by
 simp only[bnd]
 first
  |simp
  |rfl
def fI{α:Type}(H:d7)(lo sz:Nat)(R:LV->α->Prop)(w:aa3)(l:List α):Prop:=
 (w= .slice none 0 0/\l=[])\/∃b cs,w= .slice (some ⟨b,0,none⟩) l.length (l.length+1)/\lo<=b/\H.g b=some (.cells cs true sz)/\l.length*sz<=cs.length/\∀(i:Nat) a,l[i]?=some a->R ((cs.drop (i*sz)).take sz) a
section
variable{α:Type}{R:List Value->α->Prop}{H H':d7}{lo sz:Nat}{w:Value}{l:List α}
def fI.nil:fI H lo sz R (.slice none 0 0) ([]:List α):= .inl ⟨rfl,rfl⟩
def fI.slice(h:fI H lo sz R w l):∃a c,w= .slice a l.length c:=by
 rcases h with⟨rfl,rfl⟩|⟨b,cs,h,_⟩
 .exact⟨none,0,rfl⟩
 .exact⟨_,_,h⟩
def fI.sl(h:fI H lo sz R w l):SlI H H.n sz R w l:=by
 rcases h with h|⟨b,cs,z,I,u,J,D⟩
 .exact .inl h
 .exact .inr ⟨b,0,_,z,.inr ⟨cs,true,u6 u,u,oM,fun i a E=>by rw[tV];exact D i a E⟩⟩
def fI.slf(h:fI H lo sz R w l):SlF H (fun j=>lo<=j/\j<H.n) sz R w l:=by
 rcases h with h|⟨b,cs,z,D,u,J,E⟩
 .exact .inl h
 .exact .inr ⟨b,0,_,z,.inr ⟨cs,true,⟨D,u6 u⟩,u,oM,fun i a I=>by rw[tV];exact E i a I⟩⟩
def fI.keep(h:fI H lo sz R w l)(I:d9 H.n H H'):fI H' lo sz R w l:=by
 rcases h with h|⟨b,cs,z,D,u,E⟩
 .exact .inl h
 .exact .inr ⟨b,cs,z,D,(I.g b (u6 u)).trans u,E⟩
def fI.na(h:fI H lo sz R w l)(u:Q4 w=true):w= .slice none 0 0/\l=[]:=by
 rcases h with h|⟨b,cs,rfl,_⟩
 .exact h
 .cases u
def fI.push{P:Program}{t e:TypeId}{bytes:Nat}{z cs:LV}{a:α}(ht:P.underlying t=some (.slice e))(hs:D5 P e=some sz)(hb:T1 P e=some bytes)(hz:P8 P e=some z)(h0:0<sz)(h1:0<bytes)
  (h:fI H lo sz R w l) (D:cs.length=sz) (hR:R cs a) (hr:(l.length+1)*bytes<=140737488355328) (S:lo<=H.n):
  Ret (C2 P (H.push (.cells cs true sz)) [t,t] w (.slice (some ⟨H.n,0,none⟩) 1 1)) (H.push (.cells cs true sz)) fun v' H'=>fI H' lo sz R v' (l++[a])/\d9 lo H H':=by
 have J:(H.push (.cells cs true sz)).n=H.n+1:=i4;have X:d9 H.n H (H.push (.cells cs true sz)):=d9.push lR;have W:I3 P t=some e:=by simp [I3,ht]
 have a3:B9 (H.push (.cells cs true sz)) sz (.slice (some ⟨H.n,0,none⟩) 1 1)=some cs:=by
  have:cs.take sz=cs:=kC oM;simp [B9,j6,D,this]
 have u:R7 P (H.push (.cells cs true sz)) sz z (some t) (.slice (some ⟨H.n,0,none⟩) 1 1)=some (1,cs):=by
  simp only[R7,pB,ht,a3,xg]
 have U:¬(sz=0\/bytes=0):=oM;rcases h with⟨rfl,rfl⟩|⟨b,O,rfl,k1,k2,k3,k4⟩
 .refine⟨.slice (some ⟨H.n+1,0,none⟩) 1 2,some ((H.push (.cells cs true sz)).push (.cells cs true sz)),_,?_,rfl,.inr ⟨H.n+1,cs,rfl,oM,by rw[<-J];exact j6,by simp [D],fun i x I=>?_⟩,(X.wk S).trans (d9.push oM)⟩
  .simp only[C2,yC,pB,W,hs,hb,hz,pt,pA,bt U,u];rw[bt oM,bJ (by simpa using hr),dk,J]
  .cases i with
   |zero=>
    have:a=x:=by simpa using I
    subst this;rw[Ck,lP,kC oM];exact hR
   |succ i=>simp at I
 .have a1:=u6 k2;have hg:(H.push (.cells cs true sz)).g b=some (.cells O true sz):=(X.g b a1).trans k2;have E:((O.drop 0).take (l.length*sz)).length=l.length*sz:=by rw[lP,Ib];omega
  refine⟨.slice (some ⟨H.n+1,0,none⟩) (l.length+1) (l.length+1+1),some (((H.push (.cells cs true sz)).put b .dead).push (.cells ((O.drop 0).take (l.length*sz)++cs) true sz)),_,?_,rfl,.inr ⟨H.n+1,(O.drop 0).take (l.length*sz)++cs,by simp,oM,A4 ⟨by rw[j9,J];exact lR,by rw[j9,J];exact lR⟩,by rw[@dx _ l _,dx,E,D,vV,wS];omega,fun i x I=>?_⟩,(X.wk S).trans ((d9.put k1).trans (d9.push (by rw[j9,J];omega)))⟩
  .simp only[C2,yC,pB,W,hs,hb,hz,pt,pA,bt U,u,hg];rw[bt oM,bJ hr,bJ ⟨oM,trivial⟩,bt oM,bJ trivial,dk,J]
  .by_cases hi:i<l.length
   .rw[gk hi]at I;have hm:i*sz+sz<=l.length*sz:=by rw[<-aay];exact yG _ hi
    rw[Mk oM,A2 (by rw[Ad,E];omega),lP,List.drop_take,WJ,ZM oM];exact k4 i x I
   .have a2:i=l.length:=by
     have:=(gS I).1;simp at this;omega
    subst a2;have:a=x:=by simpa using I
    subst this;have e1:((O.drop 0).take (l.length*sz)++cs).drop (l.length*sz)=cs:=List.drop_left' E;rw[e1,kC oM];exact hR
end
end Go.Proofs.YtjlpdddmmnijoaaGreatDoor.Ve
namespace Go.Proofs.YtjlpdddmmnijoaaGreatDoor.Ve
open Go Go.RowKit
open Go.Proofs.Tryz (prog)
abbrev ntE(n:Nat):LV:=[iV n]
structure DcR(lo:Nat)(l:List EvD)(H:d7)(v:aa3):Prop where
 ev:N8 H lo v l
 cap:eO v\/l.length<=1
 n30:l.length<=30
 beg:C1 l=true
 low:lo<=H.n
def DcR.stay{lo:Nat}{l:List EvD}{H H':d7}{v:aa3}(h:DcR lo l H v)(u:d9 H.n H H'):DcR lo l H' v:=by
 have E:=u.n;have D:=h.low;exact⟨h.ev.mono (fun j z=>u.g j oM) lR,h.cap,h.n30,h.beg,oM⟩
def CA{H:d7}{lo:Nat}{D:LV}{e:EvD}(h:EvR H lo D e)(F:Nat->Prop)(U:∀j,j<lo->F j):EvF H F D e/\e.attrs.length<=1048576:=by
 obtain⟨v,I,u,_,_,_,z⟩:=h;refine⟨⟨v,I,?_⟩,z⟩;rcases u with u|⟨b,o,c,X,u⟩
 .exact .inl u
 .exact .inr ⟨b,o,c,X,u.imp id fun⟨E,own,J,O,S,z⟩=>⟨E,own,U b J,O,S,fun i a W=>(z i a W).1⟩⟩
def DcR.row{lo:Nat}{l:List EvD}{H:d7}{v:aa3}(h:DcR lo l H v){i:Nat}{ev:EvD}(E:l[i]?=some ev):
  ∃b o c cs own el,v= .slice (some ⟨b,o,none⟩) l.length c/\b<lo/\H.g b=some (.cells cs own 5)/\ldC (some true) (some 5) (o+i*5) cs=some (.agg el.toArray)/\cs[o+i*5]?=some (.int .i64 ev.kind)/\EvF H (· <H.n) el ev/\ev.attrs.length<=1000000/\(ev.kind=1\/ev.kind=2\/ev.kind=3):=by
 obtain⟨b,o,c,cs,own,W,S,U,z,I⟩:=h.ev.at_ E;have hl:=h.low;have J:=(Q0 h.beg E).2.1;obtain⟨O,_⟩:=CA I (· <H.n) (fun j hj=>oM);obtain⟨X,u,_⟩:=id I;have D:=E7 (k:=0) oM u;rw[ly]at D;exact⟨b,o,c,cs,own,_,W,S,U,aE z rfl,D,O,qj J,aq J⟩
def DcR.pos{lo:Nat}{l:List EvD}{H:d7}{v:aa3}(h:DcR lo l H v):∀j,0<=dep 0 (l.take j):=fS h.beg
def pH(H:d7)(lo c:Nat)(h:lo<=H.n):L8 2 OpO lo (H.push (bC [iV 0,nS] 2)) (sL H.n 1 c) zO (fun _=>False):=
 L8.one u9 rfl ⟨_,rfl,.inl ⟨rfl,rfl⟩⟩ (fun j u=>u.elim) h
def tJ(r:ReD)(e:EvD)(h:List OpD)(f b:OpD):(gh r e h f b).length<=h.length+1:=by
 rw[gh];split
 .omega
 .rw[eI];split
  .omega
  .simp
def ml(r:ReD)(e:EvD)(f b:OpD)(bs h:List OpD):gM r e f (b::bs) h=gM r e f bs (gh r e h f b):=rfl
def tB(r:ReD)(e:EvD)(f:OpD)(u bs h:List OpD):jt r e (f::u) bs h=jt r e u bs (gM r e f bs h):=rfl
def pu(r:ReD)(e:EvD)(f:OpD):∀(bs h:List OpD),(gM r e f bs h).length<=h.length+bs.length
 |[],h=>lR
 |b::bs,h=>by
  have u:=pu r e f bs (gh r e h f b);have z:=tJ r e h f b;rw[ml,kO];omega
section
variable{q:Q}{r:ReD}(kc:KdC q r){Hs:d7}{lo K:Nat}
include kc
end
section
variable{q:Q}{r:ReD}(kc:KdC q r){Hs:d7}{lo K:Nat}
include kc
end
def Bl(H0:d7)(lo:Nat)(v:aa3)(l:List EvD)(hv:N8 H0 lo v l)(hn:l.length<=1000000)(r:Nat):
  ∀W e H2,(∃(i:Nat)(n:Int),W=l.length-i/\i<=l.length/\ -(i:Int)<=n/\n<=i/\e.g 0=v/\e.g 5=iV n/\e.g 6=iV i/\i+P4 (l.drop i) n=r/\H2=H0)->
  u7 (LE prog l7 (.loop Ut) e H2) (fun o e H2=>H2=H0/\((o= .exit 0/\e.g 0=v/\r=l.length)\/(o= .ret/\e.g 4=iV r))):=by
 refine i5 _ _ ?_;rintro W e H2 ⟨i,n,hk,hi,a9,b0,D,O,S,h,rfl⟩;obtain⟨va,vc,a4⟩:=hv.slice;subst a4;rcases b:decide ((i:Int)<l.length)with _|_
 .have a1:=dF b;rw[dN oM,P4]at h;refine J3 D S b ?_;exact i6 ⟨rfl,.inl ⟨rfl,D,oM⟩⟩
 .have a1:=dT b;obtain⟨ev,he,hd⟩:=B8 (l:=l) (i:=i) oM;rw[hd,P4]at h;obtain⟨be,oe,ce,a7,a6,aa,ac,a3,a5,u,a8,a2,_⟩:=iM hv he;cases a3;have U:=E7 (k:=0) oM a2;rw[ly]at U;rcases I:decide (ev.kind=1)with _|_
  .have X:=dF I;rcases J:decide (ev.kind=3)with _|_
   .have e3:=dF J;have E:A7 n ev.kind=n:=by rw[A7,bt X,bt e3]
    rw[E]at h;rcases z:decide (n=0)with _|_
    .rw[bt (dF z)]at h;refine J10 D O S b u U I J z @wrap_small ?_;exact d8 (W-1) oM ⟨i+1,n,oM,oM,oM,oM,D,O,rfl,oM,rfl⟩
    .rw[bJ (dT z)]at h;refine J10 D O S b u U I J z @wrap_small ?_;exact y9 ⟨rfl,.inr ⟨rfl,by rw[<-h];rfl⟩⟩
   .have e3:=dT J;have E:A7 n ev.kind=n-1:=by rw[A7,bt X,bJ e3]
    rw[E]at h;rcases z:decide (n-1=0)with _|_
    .rw[bt (dF z)]at h;refine J10 D O S b u U I J z @wrap_small ?_;exact d8 (W-1) oM ⟨i+1,n-1,oM,oM,oM,oM,D,rfl,rfl,oM,rfl⟩
    .rw[bJ (dT z)]at h;refine J10 D O S b u U I J z @wrap_small ?_;exact y9 ⟨rfl,.inr ⟨rfl,by rw[<-h];rfl⟩⟩
  .have X:=dT I;have J:decide (ev.kind=3)=false:=dt oM;have E:A7 n ev.kind=n+1:=by rw[A7,bJ X]
   rw[E]at h;rcases z:decide (n+1=0)with _|_
   .rw[bt (dF z)]at h;refine J9 D O S b u U I z @wrap_small ?_;exact d8 (W-1) oM ⟨i+1,n+1,oM,oM,oM,oM,D,rfl,rfl,oM,rfl⟩
   .rw[bJ (dT z)]at h;refine J9 D O S b u U I z @wrap_small ?_;exact y9 ⟨rfl,.inr ⟨rfl,by rw[<-h];rfl⟩⟩
def yH(H:d7)(lo:Nat)(v:aa3)(l:List EvD)(O:lo<=H.n)(D:N8 H lo v l)(S:l.length<=1000000)(i:Nat)(J:i<=l.length):CL prog l7 12 [v,iV i] H=some (.int .i64 ((i+P4 (l.drop i) 0:Nat):Int),none):=by
 rw[i7 Wl rfl _ sM];obtain⟨W,X,u⟩:=D.slice;subst u;refine J1 ty3 ?_;refine i8 (F:=fun z=>t6 _ _ _ (t7 (inBlock 0 z) _)=_) (Bl ⟨H.bs,H.n⟩ lo _ l (D.mono (fun _ _=>rfl) lR) S (i+P4 (l.drop i) 0) (l.length-i) _ _ ⟨i,0,rfl,J,oM,oM,rfl,rfl,rfl,rfl,rfl⟩) ?_;rintro o e' H' ⟨rfl,⟨h,E,U⟩|⟨h,I⟩⟩
 .refine J2 h E ?_;rw[U]
 .exact J2 h I trivial
def Bn(H0:d7)(lo:Nat)(v:aa3)(l:List EvD)(hv:N8 H0 lo v l)(hn:l.length<=1000000)(r:Int):
  ∀kk e H2,(∃(j d:Nat),kk=j/\j<=l.length/\d+j<=l.length/\e.g 0=v/\e.g 5=iV d/\e.g 6=iV ((j:Int)-1)/\di l j d=r/\H2=H0)->
  u7 (LE prog l7 (.loop Uv) e H2) (fun o e H2=>H2=H0/\((o= .exit 0/\r= -1)\/(o= .ret/\e.g 4=iV r))):=by
 refine i5 _ _ ?_;rintro kk e H2 ⟨j,d,hk,hj,hd,D,S,J,h,rfl⟩;rcases b:decide ((0:Int)<=(j:Int)-1)with _|_
 .have X:=dF b;obtain rfl:j=0:=oM;rw[di]at h;refine J1 J ?_;exact i6 ⟨rfl,.inl ⟨rfl,h.symm⟩⟩
 .have X:=dT b;obtain⟨i,rfl⟩:∃i,j=i+1:=⟨j-1,oM⟩
  have a1:((i+1:Nat):Int)-1=i:=oM;rw[a1]at J b;obtain⟨ev,he,a6⟩:=B8 (l:=l) (i:=i) oM;rw[di,he]at h;simp only at h;obtain⟨be,oe,ce,a5,a4,aa,ac,rfl,a3,u,a7,a2,_⟩:=iM hv he;have O:=E7 (k:=0) oM a2;rw[ly]at O;rcases I:decide (ev.kind=3)with _|_
  .have W:=dF I;rw[bt W]at h;rcases E:decide (ev.kind=1)with _|_
   .have U:=dF E;rw[bt U]at h;refine J8 D J b u O E I @wrap_small ?_;exact d8 i oM ⟨i,d,rfl,oM,oM,D,S,rfl,h,rfl⟩
   .have U:=dT E;rw[bJ U]at h;rcases z:decide ((d:Int)=0)with _|_
    .have hz:=dF z;rw[bt oM]at h;refine J10 D S J b u O E I z @wrap_small ?_;exact d8 i oM ⟨i,d-1,rfl,oM,oM,D,by show iV _=iV _;congr 1;omega,rfl,h,rfl⟩
    .have hz:=dT z;rw[bJ oM]at h;refine J9 D S J b u O E I z ?_;exact y9 ⟨rfl,.inr ⟨rfl,by rw[<-h];rfl⟩⟩
  .have W:=dT I;rw[bJ W]at h;have E:decide (ev.kind=1)=false:=dt oM;refine J8 D S J b u O I @wrap_small ?_;exact d8 i oM ⟨i,d+1,rfl,oM,oM,D,by show iV _=iV _;congr 1,rfl,h,rfl⟩
def DW(H:d7)(lo:Nat)(v:aa3)(l:List EvD)(E:lo<=H.n)(O:N8 H lo v l)(I:l.length<=1000000)(i:Nat)(D:i<=l.length):CL prog l7 14 [v,iV i] H=some (.int .i64 (di l i 0),none):=by
 rw[i7 Wx rfl _ sM];refine J1 @wrap_small ?_;refine i8 (F:=fun z=>t6 _ _ _ (t7 (inBlock 0 z) _)=_) (Bn ⟨H.bs,H.n⟩ lo _ l (O.mono (fun _ _=>rfl) lR) I (di l i 0) i _ _ ⟨i,0,rfl,D,oM,rfl,rfl,rfl,rfl,rfl⟩) ?_;rintro o e' H' ⟨rfl,⟨h,J⟩|⟨h,u⟩⟩
 .refine J1 h ?_;rw[J]
 .exact J2 h u trivial
def JD(H:d7)(lo:Nat)(v:aa3)(l:List EvD)(b2:lo<=H.n)(hv:N8 H lo v l)(hn:l.length<=2000000)(r:Int):
  ∀k e H2,(∃(i:Nat)(d:Int),k=l.length-i/\i<=l.length/\ -(i:Int)<=d/\d<=i/\e.g 6=v/\e.g 7=iV l.length/\e.g 8=iV i/\e.g 3=iV d/\d9 H.n H H2/\H.n<=H2.low/\dep d (l.drop i)=r)->
  u7 (LE prog l7 (.loop UG) e H2) (fun o e H2=>H.n<=H2.low/\o= .exit 0/\e.g 3=iV r):=by
 refine i5 _ _ ?_;rintro k e H2 ⟨i,d,hk,hi,b0,b1,X,u,h,W,hS,hl,fu⟩;refine J2 u h ?_;rcases hb:decide ((i:Int)<l.length)with _|_
 .have a3:=dF hb;have:l.drop i=[]:=dN oM;rw[this]at fu;refine J1 @if_true.{1} ?_;refine i6 ⟨hl,rfl,?_⟩;rw[<-fu];exact W
 .have a3:=dT hb;obtain⟨ev,ha,hd⟩:=B8 (l:=l) (i:=i) oM;rw[hd]at fu;obtain⟨b,o,c,cs,own,aa,ac,a6,a7,hg,a4,a5,a8,_⟩:=iM hv ha;have O:H2.g b=some (.cells cs own 5):=by rw[hS.g b oM];exact hg
  have a9:=u6 O;have J:=hS.n;have S:=aE a4 a5;have I:=X;rw[a6]at I;have hr:=gD d ev.kind;have D:∀(e':Env) B B',e'.g 6=v->e'.g 7=iV l.length->e'.g 8=iV ((i:Int)+1)->e'.g 3=iV (A7 d ev.kind)->
    ci k (fun k e H2=>∃(i:Nat)(d:Int),k=l.length-i/\i<=l.length/\ -(i:Int)<=d/\d<=i/\e.g 6=v/\e.g 7=iV l.length/\e.g 8=iV i/\e.g 3=iV d/\d9 H.n H H2/\H.n<=H2.low/\dep d (l.drop i)=r) (fun o e H2=>H.n<=H2.low/\o= .exit 0/\e.g 3=iV r) .normal e' ((H2.push B).put H2.n B'):=fun e' B B' g9 a1 a2 g3=>
   d8 (k-1) oM ⟨i+1,A7 d ev.kind,oM,oM,oM,oM,g9,a1,a2,g3,hS.trans ((d9.push J).trans (d9.put J)),by rw[A9,l9];omega,fu⟩
  refine J4 I h O S ?_;by_cases U:ev.kind=1
  .have z:decide (ev.kind=1)=true:=ib U;refine J4 h W z @wrap_small ?_;exact D _ _ _ X u rfl (by rw[A7,bJ U];rfl)
  have z:decide (ev.kind=1)=false:=dt U;by_cases k3:ev.kind=3
  .have E:decide (ev.kind=3)=true:=ib k3;refine J5 h W z E @wrap_small ?_;exact D _ _ _ X u rfl (by rw[A7,bt U,bJ k3];rfl)
  have E:decide (ev.kind=3)=false:=dt k3;refine J4 h z E @wrap_small ?_;exact D _ _ _ X u rfl (by rw[A7,bt U,bt k3];exact W)
def TR(H:d7)(lo:Nat)(v:aa3)(l:List EvD)(u:lo<=H.n)(E:N8 H lo v l)(J:l.length<=2000000):CL prog l7 29 [v] H=some (.int .i64 (dep 0 l),none):=by
 obtain⟨a,c,h⟩:=E.slice;have D:N8 H lo (.slice a l.length c) l:=by rw[<-h];exact E
 rw[i7 WN rfl _ sM,h];refine J1 gV ?_;refine i8 (F:=fun z=>t6 _ _ _ (t7 (inBlock 0 z) _)=_) (JD H lo _ l u D J (dep 0 l) l.length _ _ ⟨0,0,rfl,oM,oM,oM,rfl,rfl,rfl,rfl,d9.start H,lR,rfl⟩) ?_;rintro o e' H' ⟨S,O,I⟩;exact J2 O I trivial
def Mp(H:d7)(lo:Nat)(v:aa3)(l:List EvD)(W:lo<=H.n)(hv:N8 H lo v l)(hc:eO v\/l.length<=1)(hn:l.length<=1000000)(i:Nat)(hi:i<l.length):
  CL prog l7 10 [v,iV i] H=some (.bool (F8 l i),none):=by
 obtain⟨ev,he,hd⟩:=B8 (l:=l) (i:=i) hi;have E:N8 ⟨H.bs,H.n⟩ lo v l:=hv.mono (fun _ _=>rfl) lR;have h:=yH ⟨H.bs,H.n⟩ lo v l W E hn i oM;have hE:i+P4 (l.drop i) 0=A6 l i:=rfl;rw[hE]at h;have S:=T2 l (Oj hi);have b7:i<A6 l i:=by rw[A6,hd,P4];split<;>omega
 obtain⟨u,hu,D⟩:∃u,(∀H',(∀k,k<lo->H'.g k=H.g k)->L9 prog H' 22 v (some (.int .i64 (i:Int))) (some (.int .i64 (A6 l i:Nat))) none=some u)/\N8 ⟨H.bs,H.n⟩ lo u ((l.drop i).take (A6 l i-i)):=by
  rcases hc with hc|hc
  .obtain⟨u,hu,D,_⟩:=gl (P:=prog) (t:=22) (x:=some (.int .i64 (i:Int))) (y:=some (.int .i64 (A6 l i:Nat))) (j:=A6 l i) E hc (by exact gV.2.2.2.2.2.2) Q9.1 oM (gC i 0) (gC _ _) oM S;exact⟨u,hu,D⟩
  .have a3:A6 l i=l.length:=oM;obtain⟨u,hu,D⟩:=IK (P:=prog) (t:=22) (x:=some (.int .i64 (i:Int))) (y:=some (.int .i64 (A6 l i:Nat))) E (by exact gV.2.2.2.2.2.2) Q9.1 oM (gC i 0) (by rw[a3];exact gC _ _) oM;exact⟨u,hu,by rw[kC (by rw[Ad];omega)];exact D⟩
 have a1:=hu ⟨H.bs,H.n⟩ (fun _ _=>rfl);have J:=TR ⟨H.bs,H.n⟩ lo u _ W D (by rw[Ib,Ad];omega);obtain⟨el,U,_⟩:=B8 (l:=l) (i:=A6 l i-1) oM;obtain⟨be,oe,ce,b6,b1,aa,ac,a6,a9,z,b8,a5,_⟩:=iM E he;obtain⟨b4,b9,b5,a8,a7,b2,b3,a2,a4,O,b0,X,_⟩:=iM E U;subst a6;cases a2;rw[z]at O;cases O;have ke:=E7 (k:=0) oM a5;rw[ly]at ke;have I:=E7 (k:=0) oM X;rw[ly]at I;have k1:((A6 l i:Nat):Int)-1=((A6 l i-1:Nat):Int):=oM;have ntE:((A6 l i-1:Nat):Int).toNat=A6 l i-1:=xA _;rw[i7 Yr rfl _ sM,F8,he,U];simp only;rcases d2:decide (ev.kind=2)with _|_
 .rcases d3:decide (el.kind=3)with _|_
  .exact J9 z ke d2 h k1 ntE I d3 @wrap_small trivial
  .rcases d0:decide (dep 0 ((l.drop i).take (A6 l i-i))=0)with _|_
   .exact J12 z ke d2 h k1 ntE I d3 a1 J d0 @wrap_small trivial
   .exact J12 z ke d2 h k1 ntE I d3 a1 J d0 @wrap_small trivial
 .exact J3 z ke d2 trivial
def XS(H:d7)(n:Nat)(hn:n<=4294967296):Ret (CL prog l7 82 [nS,iV n] H) H (fun v H'=>d9 H.n H H'/\((n=0/\v=nS)\/(0<n/\∃cs,v=sL H.n 0 1/\H'.g H.n=cE cs 2))):=by
 have h:∀H,E6 prog .cap [54] [nS] H=some (.int .i64 0,none):=fun H=>by simp [E6,oz,goInt]
 have J:∀H,L9 prog H 54 (nS) none (some (.int .i64 0)) none=some (nS):=fun H=>by simp [L9,oz,du,bnd]
 rw[i7 YQ rfl _ sM];have W:decide ((n:Int)<0)=false:=dt oM;have e1:(n:Int)-(0-0)=n:=oM;by_cases E:n=0
 .subst E;refine J2 h @wrap_small ?_;exact⟨_,none,_,rfl,rfl,d9.refl _ _,.inl rfl⟩
 .have X:decide ((0:Int)<n)=true:=ib oM;have I:∀H,C2 prog H [54,3] (nS) (.int .i64 n)=some (sL H.n n (n+1),some (H.push (.cells (List.replicate n [iV (0),iV (0)]).flatten true 2))):=fun H=>by
   have z:R7 prog H 2 [iV (0),iV (0)] (some 3) (.int .i64 n)=some (n,(List.replicate n [iV (0),iV (0)]).flatten):=by
    simp only[R7,pB,ty3,bJ (show(0:Int)<=n from oM),xA]
   simp only[C2,yC,pB,oz,du,pt,pA,z];rw[bt oM,bt E,bJ oM]
  have O:∀(H:d7) b cs,H.g b=cE cs 2->L9 prog H 54 (sL b n (n+1)) none (some (.int .i64 0)) none=some (sL b 0 1):=fun H b cs hg=>by
   simp [L9,oz,du,bnd,oo,hg,E]
  obtain⟨U,u,-,S,s1⟩:=pushF H (.cells (List.replicate n [iV (0),iV (0)]).flatten true 2);have D:=O U H.n _ S;have e2:(0:Int)-0=0:=rfl;have e3:(n:Int)-0=n:=oM;refine J10 h @wrap_small W X e2 e3 J I u.symm D ?_;exact⟨_,some _,_,rfl,rfl,s1.ret (by rw[u];exact lR),.inr ⟨oM,_,rfl,S⟩⟩
def mF{α:Type}{P:Program}{t e:TypeId}{bytes lo sz n b:Nat}{z cs:LV}{R:LV->α->Prop}{H:d7}{x:aa3}{l:List α}(U:P.underlying t=some (.slice e))(hs:D5 P e=some sz)(O:T1 P e=some bytes)(W:P8 P e=some z)(h0:0<sz)(h1:0<bytes)
  (S:H.g b=some (.cells cs true sz)) (J:lo<=b) (hx:SlI H n sz R x l) (hr:l.length*bytes<=140737488355328):
  Ret (C2 P H [t,t] (sL b 0 1) x) H fun v' H'=>(l=[]/\v'=sL b 0 1/\H'=H)\/(l≠ []/\u5 H' lo sz R v' l/\d9 lo H H'):=by
 obtain⟨a,c,el,rfl,q1,X⟩:=hx.rows;have a1:=u6 S;have E:I3 P t=some e:=by simp [I3,U]
 have u:R7 P H sz z (some t) (.slice a l.length c)=some (l.length,el):=by
  simp only[R7,pB,U,q1,xg]
 have D:¬(sz=0\/bytes=0):=oM;by_cases I:l.length=0
 .refine⟨_,none,H,?_,rfl,.inl ⟨pF.1 I,rfl,rfl⟩⟩;simp only[C2,yC,pB,E,hs,O,W,pt,pA,bt D,u];rw[bJ I,dk]
 .refine⟨sL H.n (0+l.length) (0+l.length+1),some ((H.put b .dead).push (.cells ([]++el) true sz)),_,?_,rfl,.inr ⟨fun h=>I (by rw[h];rfl),⟨el,.inr ⟨H.n,_,by rw[tV],by show((H.put b .dead).push (.cells el true sz)).g H.n=some (.cells el true sz);exact A4 ⟨by rw[j9];exact lR,by rw[j9];exact lR⟩,oM,X.1⟩,X⟩,(d9.put J).trans (d9.push (by rw[j9];omega))⟩⟩;simp only[C2,yC,pB,E,hs,O,W,pt,pA,bt D,u,S];rw[bt I,bJ (by simpa using hr),bJ sM,bt oM,bJ trivial,dk];simp
def XM(H:d7)(b c:Nat)(v1 v2:aa3)(u l2:List (Int×Int))(hg:H.g b=cE [v1,v2] 1)(h1:SlI H H.n 2 (y7 pkE) v1 u)(h2:SlI H H.n 2 (y7 pkE) v2 l2)(hn:u.length+l2.length<=4294967296):
  Ret (CL prog l7 52 [sL b 2 c] H) H (fun v H'=>u5 H' H.n 2 (y7 pkE) v (u++l2)/\d9 H.n H H'):=by
 have a6:=u6 hg;have a8:d7.g ⟨H.bs,H.n⟩ b=cE [v1,v2] 1:=hg;obtain⟨U,c1,rfl⟩:=h1.slice;obtain⟨a2,c2,rfl⟩:=h2.slice;obtain⟨v8,k8,z,r8,c3,s8,a4⟩:=XS ⟨H.bs,H.n⟩ (u.length+l2.length) hn;have n8:=s8.n;have z8:d7.n ⟨H.bs,H.n⟩=H.n:=rfl;rw[z8]at s8 n8 a4;have es:(0:Int)+u.length+l2.length=((u.length+l2.length:Nat):Int):=oM;have d1:decide ((0:Int)+u.length<0)=false:=dt oM;have d2:decide (((u.length+l2.length:Nat):Int)<0)=false:=dt oM;have w1:IntKind.i64.wrap ((0:Int)+u.length)=0+u.length:=wrap_small oM oM;have w2:IntKind.i64.wrap (((u.length+l2.length:Nat):Int))=((u.length+l2.length:Nat):Int):=wrap_small oM oM;have W:SlI z H.n 2 (y7 pkE) (.slice U u.length c1) u:=h1.mono (fun j hj=>(s8.g j hj).trans rfl) lR iF;have g1:z.g b=cE [.slice U u.length c1,.slice a2 l2.length c2] 1:=(s8.g b a6).trans hg;obtain⟨v9,k9,H2,r9,c4,s9,b9⟩:∃v h H2,C2 prog z [54,54] v8 (.slice U u.length c1)=dk v h/\h.getD z=H2/\d9 H.n z H2/\((u=[]/\v=v8/\H2=z)\/(u≠ []/\u5 H2 H.n 2 (y7 pkE) v u)):=by
  rcases a4 with⟨hz,rfl⟩|⟨hp,b4,rfl,a3⟩
  .obtain⟨v,h,H2,E,I,D,S⟩:=(u5.nil (H:=z) (lo:=H.n) (sz:=2) (R:=y7 pkE)).append (P:=prog) (t:=54) (by exact oz.2.2.2.2.2.2) du.1 du.2.1 du.2.2.1 oM oM W (by simp;omega) n8;have b7:u=[]:=pF.1 oM;subst b7;obtain⟨v,h,H2,E,I,D⟩:∃v h H2,C2 prog z [54,54] (nS) (.slice U 0 c1)=dk v h/\h.getD z=H2/\(v=nS/\H2=z):=by
    refine⟨_,none,_,?_,rfl,rfl,rfl⟩;obtain⟨el,b6,c5⟩:=W.cells;have a5:R7 prog z 2 [iV (0),iV (0)] (some 54) (.slice U 0 c1)=some (0,el):=by
     simp only[R7,pB,oz];have a7:B9 z 2 (.slice U 0 c1)=some el:=b6;rw[a7];rfl
    simp only[C2,yC,pB,oz,du,pt,pA,a5];rw[bt oM,bJ trivial,dk]
   obtain⟨rfl,rfl⟩:=D;exact⟨_,_,_,E,I,d9.refl _ _,.inl ⟨rfl,rfl,rfl⟩⟩
  .obtain⟨v,h,H2,E,I,D⟩:=mF (P:=prog) (t:=54) (lo:=H.n) (by exact oz.2.2.2.2.2.2) du.1 du.2.1 du.2.2.1 oM oM a3 lR W oM;rcases D with⟨rfl,rfl,rfl⟩|⟨D,S,q5⟩
   .exact⟨_,_,_,E,I,d9.refl _ _,.inl ⟨rfl,rfl,rfl⟩⟩
   .exact⟨_,_,_,E,I,q5,.inr ⟨D,S⟩⟩
 have n9:=s9.n;have X:SlI H2 H.n 2 (y7 pkE) (.slice a2 l2.length c2) l2:=h2.mono (fun j hj=>by rw[s9.g j hj,s8.g j hj];rfl) lR iF;have g2:H2.g b=cE [.slice U u.length c1,.slice a2 l2.length c2] 1:=(s9.g b a6).trans g1;obtain⟨c8,c7,J,c0,b1,b2,O⟩:∃v h J,C2 prog H2 [54,54] v9 (.slice a2 l2.length c2)=dk v h/\h.getD H2=J/\d9 H.n H2 J/\u5 J H.n 2 (y7 pkE) v (u++l2):=by
  rcases b9 with⟨rfl,rfl,rfl⟩|⟨c6,b5⟩
  .rcases a4 with⟨hz,rfl⟩|⟨hp,b4,rfl,a3⟩
   .obtain⟨v,h,H2,E,I,D,S⟩:=(u5.nil (H:=H2) (lo:=H.n) (sz:=2) (R:=y7 pkE)).append (P:=prog) (t:=54) (by exact oz.2.2.2.2.2.2) du.1 du.2.1 du.2.2.1 oM oM X (by simp;omega) n8;exact⟨v,h,H2,E,I,S,D⟩
   .obtain⟨v,h,J,E,I,D⟩:=mF (P:=prog) (t:=54) (lo:=H.n) (by exact oz.2.2.2.2.2.2) du.1 du.2.1 du.2.2.1 oM oM a3 lR X oM;rcases D with⟨rfl,rfl,rfl⟩|⟨D,S,q5⟩
    .simp at hp
    .exact⟨_,_,_,E,I,q5,S⟩
  .obtain⟨v,h,J,E,I,D,S⟩:=b5.append (P:=prog) (t:=54) (by exact oz.2.2.2.2.2.2) du.1 du.2.1 du.2.2.1 oM oM X oM oM;exact⟨v,h,J,E,I,S,D⟩
 have a9:H.n<=z.low:=s8.lowAll _ lR lR;have b0:H.n<=J.low:=b2.lowAll _ lR (s9.lowAll _ lR a9);have b3:d9 H.n H J:=((d9.start H).trans s8).trans (s9.trans b2);rw[i7 YF rfl _ sM];have w3:IntKind.i64.wrap 1=1:=rfl;have w4:IntKind.i64.wrap 2=2:=rfl;refine J1 Ya ?_;rw[T8];refine J4 a8 d1 w1 w3 ?_;rw[T8];refine J5 a8 es w2 d2 w4 ?_;rw[T8];refine J2 r8 c3 ?_;rw[T8];refine J4 g1 r9 c4 w3 ?_;rw[T8];refine J4 g2 c0 b1 w4 ?_;rw[T8];refine J1 ty3 ?_;refine E1 (fun b8 _=>⟨O.na b8 _ _,d9.refl _ _⟩) ⟨O.low _,b3.ret b0⟩
end Go.Proofs.YtjlpdddmmnijoaaGreatDoor.Ve
namespace Go.Proofs.YtjlpdddmmnijoaaGreatDoor.Ve
open Go Go.RowKit
section
variable{P:Program}{K:Type}[DecidableEq K]
def Eu(P:Program)(kt:TypeId)(enc:K->aa3):Prop:=(∀x y,sR P kt (enc x) (enc y)=some (decide (x=y)))/\∀x,bA P kt (enc x)=true
def yK(enc:K->aa3)(l:List K):Blk:= .map (l.map fun x=>(enc x,.bool true))
def uP(k:K)(l:List K):Bool:=l.any fun x=>decide (k=x)
def ud{kt:TypeId}{enc:K->aa3}(h:Eu P kt enc)(k:K):∀(l:List K)(i:Nat),∃q,lq P kt (enc k) (l.map fun x=>(enc x,.bool true)) i=some q/\((uP k l=true/\∃j,q=some (j,.bool true))\/(uP k l=false/\q=none))
 |[],i=>⟨none,rfl,.inr ⟨rfl,rfl⟩⟩
 |x::l,i=>by
  rw[xC,lq,h.1];by_cases u:k=x
  .simp only[u,decide_true];exact⟨_,rfl,.inl ⟨by simp [uP],_,rfl⟩⟩
  .simp only[u,aa0];obtain⟨q,z,D⟩:=ud h k l (i+1);refine⟨q,z,?_⟩;have:uP k (x::l)=uP k l:=by simp [uP,u]
   rw[this];exact D
def ME{kt et:TypeId}{enc:K->aa3}(h:Eu P kt enc)(D:ko P et=some (.bool false))(l:List K)(k:K):Fj P (some (kt,et)) (some (yK enc l)) (enc k) false=some (.bool (uP k l)):=by
 obtain⟨q,z,u⟩:=ud h k l 0;simp only[Fj,yK,h.2,jd,z,D];rcases u with⟨u,j,rfl⟩|⟨u,rfl⟩<;>rw[u]<;>rfl
def PG{kt et:TypeId}{enc:K->aa3}(h:Eu P kt enc)(l:List K)(k:K)(H:d7)(b:Nat)(D:uP k l=false):PT P (some (kt,et)) (some (yK enc l)) H b (enc k) (.bool true)=some (H.put b (yK enc (l++[k]))):=by
 obtain⟨q,z,u⟩:=ud h k l 0;rcases u with⟨u,j,rfl⟩|⟨u,rfl⟩
 .rw[D]at u;cases u
 .simp only[PT,yK,h.2,jd,z,GT,xC,XV]
def OD{kt:TypeId}(u:yR P kt=some [.int])(h:dX P kt=some false):Eu P kt (fun n:Int=>Value.int .i64 n):=by
 refine⟨fun x y=>?_,fun x=>?_⟩
 .have e:(x==y)=decide (x=y):=rfl;simp [sR,u,h,Q8,e]
 .simp [bA,u,h,aj,oX]
end
end Go.Proofs.YtjlpdddmmnijoaaGreatDoor.Ve
namespace Go.Proofs.YtjlpdddmmnijoaaGreatDoor.Ve
open Go Go.RowKit
open Go.Proofs.Tryz (prog)
def L8.same{α:Type}{sz lo:Nat}{E:d7->(Nat->Prop)->LV->α->Prop}{H H':d7}{v:aa3}{l:List α}{G:Nat->Prop}(D:dK E)(h:L8 sz E lo H v l G)(J:H.n<=H'.n)(z:∀j,lo<=j->j<H.n->H'.g j=H.g j):L8 sz E lo H' v l G:=
 ⟨(h.own.imp fun cs e q=>D _ _ _ _ _ _ q (fun j u=>z j (h.fr j u).1 (h.fr j u).2.1) (fun _ h=>h)).same fun b I=>by have:=h.own.lt I;exact z b this.1 this.2,fun j u=>by have:=h.fr j u;exact⟨this.1,oM,this.2.2⟩⟩
structure Yi(mb:Nat)(Hb H:d7):Prop where
 n:Hb.n<=H.n
 g:∀j,j<Hb.n->j≠mb->H.g j=Hb.g j
abbrev kiE(n:Int):aa3:=iV n
structure ROI(H0 Hb:d7)(mb lw:Nat)(H:d7)(w:aa3)(L:List OpD)(G:Nat->Prop):Prop where
 out:L8 2 OpO Hb.n H w L G
 but:Yi mb Hb H
 st:d9 H0.n H0 H
 mp:H.g mb=some (yK kiE (L.map (·.1)))
 low:lw<=H.low
def vT(L:List OpD)(k:Int):uP k (L.map (·.1))=L.any (fun y=>decide (y.1=k)):=by
 rw[uP,List.any_map]
 congr 1
 funext y
 exact wG.2 ⟨fun h=>h.symm,fun h=>h.symm⟩
section
variable{q:Q}{r:ReD}(kc:KdC q r){Hs:d7}{lo K:Nat}
include kc
def Mc{H0 E:d7}{f6:LV}(rc:RcR Hs lo K r H0 f6){rb u:Nat}(gr:H0.g rb=cE f6 1)(m4:H0.n<=u)(k5:u<E.n)(lw:Nat)(m3:lw<=H0.n){l:List EvD}{v:aa3}(dc:DcR lo l H0 v)(a:Nat)(ev:EvD)(ha:l[a]?=some ev)
  (fs bs:List OpD) (fv bv:aa3) (e8:SlF E (fun j=>u<j/\j<E.n) 2 (OpO E (fun j=>u<j/\j<E.n)) bv bs) (lb:bs.length<=25) (n:Nat) (hn:n<=30) (kb:∀o∈bs,fG r n o)
  (i:Nat) (k3:i<=25) (f:OpD) (kf:fG r n f) (fp:aa3) (d5:SlO E (fun j=>u<j/\j<E.n) 2 (y7 pkE) fp f.2) (fb:Nat) (m0:E.n<=fb) (R:List OpD):
  ∀kk e H2,(∃(j:Nat)(w:aa3)(L:List OpD)(G:Nat->Prop),kk=bs.length-j/\j<=bs.length/\e.g 1=v/\e.g 2=iV a/\e.g 4=pT rb/\e.g 9=w/\e.g 10= .map (some u)/\e.g 11=bv/\e.g 13=pT fb/\e.g 42=fv/\e.g 43=iV fs.length/\e.g 44=iV i/\e.g 48=bv/\e.g 49=iV bs.length/\e.g 50=iV j/\
   ROI H0 E u lw H2 w L G/\H2.g fb=cE [iV f.1,fp] 1/\¬j8 w fb/\L.length<=i*25+j/\gM r ev f (bs.drop j) L=R)->
  u7 (LE prog l7 (.loop UK) e H2) (fun o e H2=>o= .exit 3/\∃(w:aa3)(G:Nat->Prop),e.g 1=v/\e.g 2=iV a/\e.g 4=pT rb/\e.g 9=w/\e.g 10= .map (some u)/\e.g 11=bv/\e.g 42=fv/\e.g 43=iV fs.length/\e.g 44=iV i/\ROI H0 E u lw H2 w R G):=by
 refine i5 _ _ ?_;rintro kk e H2 ⟨j,w,L,G,hk,D,f1,f2,f4,f9,a4,b7,a5,b8,b9,c0,z,J,c3,hI,e9,c6,hL,fu⟩;have nHS:=hI.st.n;have nB:=hI.but.n;have n0:=hI.st.n;rcases b0:decide ((j:Int)<bs.length)with _|_
 .have h0:=dF b0;rw[dN oM]at fu;have g6:L=R:=fu;refine J3 J c3 b0 ?_;exact i6 ⟨rfl,w,G,f1,f2,f4,f9,a4,b7,b8,b9,c0,by rw[<-g6];exact hI⟩
 .have h0:=dT b0;obtain⟨ba,bc,U⟩:=e8.slice;have c9:=e8;rw[U]at c9;obtain⟨b,i3,ob,l1,k6,l4,i1,h4,h3,e6,h8,k4,W,l8,bp,h5,d4⟩:=c9.row (i:=j) oM;subst h3 h5;have i2:=kb b (mG i1);have l6:=e6.1;have b3:=(hI.but.g i3 e6.2 oM).trans h8;have tj:((j:Nat):Int).toNat=j:=tN j;have ta:((a:Nat):Int).toNat=a:=tN a;have l5:=(gS ha).1;obtain⟨va,vc,m6⟩:=dc.ev.slice;have i0:=u6 gr;obtain⟨H3,c4,n3,x3,-⟩:=pushE H2 (bC [iV 0,nS] 1);have e2:bp.oneCell'=true:=by
   obtain⟨aa,ac,rfl⟩:=d4.slf.slice;rfl
  obtain⟨H4,a6⟩:=eY (H3.put H2.n (bC [iV b.1,bp] 1));have n4:H4.n=H2.n+1:=by rw[a6,j9,n3]
  have x4:H4.g H2.n=cE [iV b.1,bp] 1:=by rw[a6];exact i9 oM
  have a9:d9 H2.n H2 H4:=by rw[a6,c4];exact(d9.push lR).trans (d9.put lR)
  have h6:=u6 e9;have O:=(a9.g fb h6).trans e9;have b1:=hI.st.trans (a9.wk n0);have j4:=rc.stay b1;have g2:=dc.stay b1;have d2:=(b1.g rb i0).trans gr;obtain⟨eb,eo,ec,l3,k1,el,c8,k2,d6,b4,m2,g7,g9,_⟩:=g2.row ha;have d3:=Tl kc j4 g7 g9 f.1 b.1;have m7:=rc.l12;have k0:=rc.one;obtain⟨rs,la,lc,a1,k7,a2,k8,a3,k9,q8,q9,n2,n8,m9,e4,_⟩:=rc.form;have I:=f1;rw[c8]at I;have e1:=(a9.g u oM).trans hI.mp;have f5:=OD (P:=prog) (kt:=3) ty3.2.2.2.2.2.1 ty3.2.2.2.2.1;have b5:=ME (P:=prog) (kt:=3) (et:=4) f5 ty4.2.2.2.1 (L.map (·.1)) (M0 r ev f.1 b.1);rw[h4,ml]at fu;have f3:=tJ r ev L f b;have e3:splice [iV 0,nS] 0 [iV b.1,bp]=[iV b.1,bp]:=rfl;have S:ROI H0 E u lw H4 w L G:=⟨hI.out.keep u9 a9,⟨oM,fun j D hm=>by rw[a9.g j oM];exact hI.but.g j D hm⟩,b1,e1,a9.lowAll _ oM hI.low⟩
  rcases d0:decide (M0 r ev f.1 b.1<0)with _|_
  .have e5:=dF d0;rw[vT]at b5;rcases b2:(L.any fun y=>decide (y.1=M0 r ev f.1 b.1))with _|_
   .have hp:gh r ev L f b=L++[(M0 r ev f.1 b.1,f.2++b.2)]:=by rw[gh,bt e5,eI];simp only;rw[b2,bt sM]
    rw[hp]at fu f3;rw[b2]at b5;obtain⟨H5,a8⟩:=eY (H4.put u (yK kiE (L.map (·.1)++[M0 r ev f.1 b.1])));have d1:=PG (P:=prog) (kt:=3) (et:=4) f5 (L.map (·.1)) (M0 r ev f.1 b.1) H4 u (by rw[vT];exact b2);rw[<-a8]at d1;have n5:H5.n=H4.n:=by rw[a8,j9]
    have z5:∀j,j≠u->H5.g j=H4.g j:=fun j D=>by rw[a8,j7 (fun q=>D q.symm)]
    have m5:H5.g u=some (yK kiE (L.map (·.1)++[M0 r ev f.1 b.1])):=by rw[a8];exact i9 oM
    have g3:=(z5 fb oM).trans O;have x5:=(z5 H2.n oM).trans x4;obtain⟨X,c5,n6,x6,-⟩:=pushE H5 (bC [fp,bp] 1);have z6:∀j,j<H5.n->X.g j=H5.g j:=fun j D=>by rw[c5];exact j5 D
    have b6:∀j,u<j/\j<E.n->X.g j=E.g j:=fun j D=>by rw[z6 j oM,z5 j oM];exact S.but.g j D.2 oM
    have pw:2 ^ n<=2 ^ 30:=Nat.pow_le_pow_right oM hn;have pe:(2:Nat) ^ 30=1073741824:=by decide
    have n1:=kf.2.2;have m8:=i2.2.2;have g5:SlI X X.n 2 (y7 pkE) fp f.2:=((d5.mono b6 (fun _ h=>h)).slf.sl (lo:=X.n) (fun j D=>oM))
    have f7:SlI X X.n 2 (y7 pkE) bp b.2:=((d4.mono b6 (fun _ h=>h)).slf.sl (lo:=X.n) (fun j D=>oM))
    obtain⟨v7,h7,H7,r7,j2,O7,s7⟩:=XM X H5.n 2 fp bp f.2 b.2 x6 g5 f7 oM;have n7:=s7.n;have O5:L8 2 OpO E.n H7 w L G:=(S.out.same (H':=X) u9 oM (fun j D m1=>by rw[z6 j oM,z5 j oM])).keep u9 s7;obtain⟨v9,h9,H9,r9,j3,O9,G9⟩:=O5.push (P:=prog) (t:=51) (a:=(M0 r ev f.1 b.1,f.2++b.2)) (cs:=[iV (M0 r ev f.1 b.1),v7]) (G2:=fun j=>X.n<=j/\j<H7.n) u9 (by exact IV.2.2.2.2.2.2) pE.1 pE.2.1 pE.2.2.1 oM oM rfl ⟨v7,rfl,O7.slo⟩ (fun j D=>⟨oM,D.2,fun q=>by have:=(S.out.lt q).2;omega⟩) oM oM;have n9:=G9.n;obtain⟨a7,c7,e7⟩:=O7.slice;have g1:v7.cells.toList=[v7]:=by rw[e7];rfl
    have j1:v7.oneCell'=true:=by rw[e7];rfl
    have z9:∀j,j<H2.n->j≠u->¬j8 w j->H9.g j=H4.g j:=fun j D hm hw=>by rw[G9.but j oM hw,s7.g j oM,z6 j oM,z5 j hm]
    have mw:¬j8 w u:=fun q=>oN (hI.out.lt q);have g8:ROI H0 E u lw H9 v9 (L++[(M0 r ev f.1 b.1,f.2++b.2)]) (fun j=>G j\/X.n<=j/\j<H7.n):=by
     refine⟨O9,⟨oM,fun j D hm=>?_⟩,⟨oM,fun k hk hq=>?_,fun j D=>?_⟩,?_,?_⟩
     .rw[z9 j oM hm (fun q=>by have:=hI.out.lt q;omega)];exact S.but.g j D hm
     .have h1:=b1.lowAll k hk hq;have h2:k<=X.low:=by rw[c5,l9,a8,A9];omega
      exact G9.stay.lowAll k oM (s7.lowAll k oM h2)
     .rw[z9 j oM oM (fun q=>by have:=hI.out.lt q;omega)];exact b1.g j D
     .rw[G9.but u oM mw,s7.g u oM,z6 u oM,m5,GT];rfl
     .have h2:lw<=X.low:=by rw[c5,l9,a8,A9];have:=S.low;omega
      exact G9.stay.lowAll _ oM (s7.lowAll _ oM h2)
    have g4:H9.g fb=cE [iV f.1,fp] 1:=by rw[z9 fb oM oM c6];exact O
    have f0:¬j8 v9 fb:=fun q=>by
     rcases G9.new fb q with q|q
     .exact c6 q
     .omega
    have j0:fp.oneCell'=true:=by
     obtain⟨aa,ac,rfl⟩:=d5.slf.slice;rfl
    have g0:fp.cells.toList=[fp]:=by
     obtain⟨aa,ac,rfl⟩:=d5.slf.slice;rfl
    have f8:bp.cells.toList=[bp]:=by
     obtain⟨aa,ac,rfl⟩:=d4.slf.slice;rfl
    rw[U]at z;refine J30 I f2 f4 f9 a4 a5 z J c3 b0 tj ta b3 W e2 c4.symm x3 (aI e3 a6.symm) (aI x4 d2) (aI e4 d6) (aI b4 O) (aI d3 d0) (aI e1 b5) (aI d1 g3) (aI x5 c5.symm) (aI r7 j2) (aI j0 g0) (aI f8 g1) (aI j1 r9) (aI j3 @wrap_small) ?_;exact d8 (kk-1) oM ⟨j+1,v9,_,_,oM,oM,by rw[c8];exact I,f2,f4,rfl,a4,b7,a5,b8,b9,c0,by rw[U];exact z,J,rfl,g8,g4,f0,oM,fu⟩
   .have hp:gh r ev L f b=L:=by rw[gh,bt e5,eI];simp only;rw[b2,bJ rfl]
    rw[hp]at fu;rw[b2]at b5;rw[U]at z;refine J29 I f2 f4 a4 a5 z J c3 b0 tj ta b3 W e2 c4.symm x3 e3 a6.symm x4 d2 e4 d6 b4 O d3 d0 e1 b5 @wrap_small ?_;exact d8 (kk-1) oM ⟨j+1,w,L,G,oM,oM,by rw[c8];exact I,f2,f4,f9,a4,b7,a5,b8,b9,c0,by rw[U];exact z,J,rfl,S,O,c6,oM,fu⟩
  .have hp:gh r ev L f b=L:=by rw[gh,bJ (dT d0)]
   rw[hp]at fu;rw[U]at z;refine J26 I f2 f4 a5 z J c3 b0 tj ta b3 W e2 c4.symm x3 e3 a6.symm x4 d2 e4 d6 b4 O d3 d0 @wrap_small ?_;exact d8 (kk-1) oM ⟨j+1,w,L,G,oM,oM,by rw[c8];exact I,f2,f4,f9,a4,b7,a5,b8,b9,c0,by rw[U];exact z,J,rfl,S,O,c6,oM,fu⟩
end
section
variable{q:Q}{r:ReD}(kc:KdC q r){Hs:d7}{lo K:Nat}
section
include kc
def Ir{H0 h:d7}{b4:LV}(rc:RcR Hs lo K r H0 b4){rb u:Nat}(gr:H0.g rb=cE b4 1)(d3:H0.n<=u)(b3:u<h.n)(lw:Nat)(d2:lw<=H0.n){l:List EvD}{v:aa3}(dc:DcR lo l H0 v)(a:Nat)(ev:EvD)(ha:l[a]?=some ev)
  (I bs:List OpD) (fv bv:aa3) (a9:SlF h (fun j=>u<j/\j<h.n) 2 (OpO h (fun j=>u<j/\j<h.n)) fv I) (a6:SlF h (fun j=>u<j/\j<h.n) 2 (OpO h (fun j=>u<j/\j<h.n)) bv bs) (lf:I.length<=25) (lb:bs.length<=25) (n:Nat) (hn:n<=30) (kf:∀o∈I,fG r n o) (kb:∀o∈bs,fG r n o) (R:List OpD):
  ∀kk e H2,(∃(i:Nat)(w:aa3)(L:List OpD)(G:Nat->Prop),kk=I.length-i/\i<=I.length/\e.g 1=v/\e.g 2=iV a/\e.g 4=pT rb/\e.g 9=w/\e.g 10= .map (some u)/\e.g 11=bv/\e.g 42=fv/\e.g 43=iV I.length/\e.g 44=iV i/\ROI H0 h u lw H2 w L G/\L.length<=i*25/\jt r ev (I.drop i) bs L=R)->
  u7 (LE prog l7 (.loop UL) e H2) (fun o e H2=>o= .exit 1/\∃(w:aa3)(G:Nat->Prop),e.g 9=w/\ROI H0 h u lw H2 w R G):=by
 refine i5 _ _ ?_;rintro kk e H2 ⟨i,w,L,G,hk,hi,f1,f2,f4,f9,b5,a2,a3,W,X,E,hL,fu⟩;have n0:=E.st.n;have nB:=E.but.n;rcases b0:decide ((i:Int)<I.length)with _|_
 .have c6:=dF b0;rw[dN oM]at fu;have b6:L=R:=fu;refine J3 W X b0 ?_;exact i6 ⟨rfl,w,G,f9,by rw[<-b6];exact E⟩
 .have c6:=dT b0;obtain⟨fa,fc,b1⟩:=a9.slice;obtain⟨ba,bc,a7⟩:=a6.slice;have U:=a9;rw[b1]at U;obtain⟨f,d6,ob,e6,e5,e7,d4,c7,c9,a4,d1,e3,a1,e9,fp,c8,a8⟩:=U.row (i:=i) oM;subst c9 c8;have d5:=kf f (mG d4);have e8:=a4.1;have b2:=(E.but.g d6 a4.2 oM).trans d1;have ti:((i:Nat):Int).toNat=i:=tN i;obtain⟨H3,a5,n3,x3,-⟩:=pushE H2 (bC [iV 0,nS] 1);have e1:fp.oneCell'=true:=by
   obtain⟨aa,ac,rfl⟩:=a8.slf.slice;rfl
  obtain⟨H4,J⟩:=eY (H3.put H2.n (bC [iV f.1,fp] 1));have n4:H4.n=H2.n+1:=by rw[J,j9,n3]
  have x4:H4.g H2.n=cE [iV f.1,fp] 1:=by rw[J];exact i9 oM
  have D:d9 H2.n H2 H4:=by rw[J,a5];exact(d9.push lR).trans (d9.put lR)
  have e2:splice [iV 0,nS] 0 [iV f.1,fp]=[iV f.1,fp]:=rfl;have c5:ROI H0 h u lw H4 w L G:=⟨E.out.keep u9 D,⟨oM,fun j hj hm=>by rw[D.g j oM];exact E.but.g j hj hm⟩,E.st.trans (D.wk n0),(D.g u oM).trans E.mp,D.lowAll _ oM E.low⟩
  rw[c7,tB]at fu;have e4:=pu r ev f bs L;have d0:¬j8 w H2.n:=fun q=>oN (E.out.lt q);have S:=a3;rw[b1]at S;have O:=a2;rw[a7]at O;refine J13 O S W X b0 ti b2 a1 e1 a5.symm x3 e2 J.symm ?_;refine i8 (F:=fun z=>u7 (t7 (inBlock 2 (inBlock 3 z)) _) _) (Mc kc rc gr d3 b3 lw d2 dc a ev ha I bs fv bv a6 lb n hn kb i oM f d5 fp a8 H2.n nB (gM r ev f bs L) bs.length _ _ ⟨0,w,L,G,rfl,wi _,f1,f2,f4,f9,b5,a2,rfl,a3,W,X,a7.symm,rfl,rfl,c5,x4,d0,oM,rfl⟩) ?_;rintro o' e' H' ⟨ho,w',G',g1,g2,g4,g9,b7,b8,b9,c0,c3,c4⟩;refine J3 ho c3 @wrap_small ?_;exact d8 (kk-1) oM ⟨i+1,w',_,G',oM,oM,g1,g2,g4,g9,b7,b8,b9,c0,rfl,c4,oM,fu⟩
end
def rr(r:ReD)(Hs:d7)(lo K n:Nat):Prop:=∀(H:d7)(row:LV)(l:List EvD)(v:aa3),RcR Hs lo K r H row->DcR lo l H v->∀(a p:Nat),a<=l.length->l.length<a+n->n<=31->(a<l.length->di l a 0=p)->
 Ret (CL prog l7 35 [.agg row.toArray,v,iV a,iV p] H) H (cj 2 OpO H (V8 r l n a p false))
def QM(r:ReD)(Hs:d7)(lo K n:Nat):Prop:=∀(H:d7)(row:LV)(l:List EvD)(v:aa3),RcR Hs lo K r H row->DcR lo l H v->∀(a:Nat)(ev:EvD),l[a]?=some ev->ev.kind≠3->l.length<a+1+n->n<=31->
 Ret (CL prog l7 18 [.agg row.toArray,v,iV a] H) H (cj 2 OpO H (if ev.kind=2 then zO else V8 r l n (a+1) a false))
def QF(r:ReD)(Hs:d7)(lo K n:Nat):Prop:=∀(H:d7)(row:LV)(l:List EvD)(v:aa3),RcR Hs lo K r H row->DcR lo l H v->∀(a:Nat)(ev:EvD),l[a]?=some ev->ev.kind≠3->l.length<a+1+n->1<=n->n<=31->
 Ret (CL prog l7 20 [.agg row.toArray,v,iV a] H) H (cj 2 OpO H (if di l a 0<0 then zO else V8 r l n (A6 l a) (di l a 0) (!F8 l a)))
def Kz{n:Nat}(ih:rr r Hs lo K n):QM r Hs lo K n:=by
 intro H U l v rc dc a ev ha a6 hn I;have b7:=(gS ha).1;obtain⟨eb,eo,ec,b5,a8,el,J,a9,a4,b0,E,b6,b8,a5⟩:=dc.row ha;obtain⟨H1,z,n1,g1,W⟩:=pushF H (bC U 1);have b1:H1.low=H.n:=by rw[z];rfl
 have b9:=dc.low;have u:=(W.g eb oM).trans a4;have h:=rc.one;have c0:=rc.l12;obtain⟨rs,la,lc,a1,b2,a2,b3,a3,b4,q8,q9,c5,c6,c3,a7,_⟩:=rc.form;have ta:((a:Nat):Int).toNat=a:=tN a;have c4:=dc.n30;rw[i7 Yu rfl _ sM];rcases d2:decide (ev.kind=2)with _|_
 .have e2:=dF d2;rw[bt e2];obtain⟨v',h',H2,O,S,⟨G,O2⟩,X⟩:=ih H1 U l v (rc.stay W) (dc.stay W) (a+1) a oM oM I (fun _=>by rw[di,ha];simp only;rw[bt a6,bJ oM,bJ trivial]);subst J;have e1:((a+1:Nat):Int)=(a:Int)+1:=oM;rw[e1]at O;refine J11 h z.symm g1 u ta E d2 a7 O S @wrap_small ?_;exact S8 u9 (O2.wk oM) (W.trans (X.wk oM)) (X.lowAll _ oM oM)
 .rw[bJ (dT d2)];obtain⟨H2,D,-,-,X⟩:=pushE H1 (bC [iV 0,nS] 2);have hO:=pH H1 H.n 1 oM;rw[<-D]at hO;subst J;refine J7 h z.symm u ta E d2 D.symm ?_;exact kN u9 hO (W.trans (X.wk oM)) (X.lowAll _ oM oM)
include kc
def PX{n:Nat}(ih:rr r Hs lo K n):QF r Hs lo K n:=by
 intro H a5 l v rc dc a ev ha d1 hn d4 a8;have d3:=kc.wf.l1;have X:=(gS ha).1;obtain⟨eb,eo,ec,c7,b7,el,d6,b9,d0,c0,d2,c8,c9,b4⟩:=dc.row ha;have a7:ev.kind=1\/ev.kind=2:=oM;obtain⟨O,I,e3,g1,s1⟩:=pushF H (bC a5 1);have c3:O.low=H.n:=by rw[I];rfl
 have E:=rc.one;have e1:=rc.l12;have J:=rc.stay s1;have u:=dc.stay s1;have e4:=dc.n30;have hb:=dc.pos;obtain⟨rs,la,lc,a1,c4,a2,c5,a3,c6,q8,q9,e5,e6,e2,b1,_⟩:=rc.form;have D:=DW O lo v l u.low u.ev oM a oM;have z:=Mp O lo v l u.low u.ev u.cap oM a X;have U:=yH O lo v l u.low u.ev oM a oM;have hE:a+P4 (l.drop a) 0=A6 l a:=rfl;rw[hE]at U;have S:=T2 l (Oj X);have b8:=aY X;rw[i7 Yw rfl _ sM];rcases dp:decide (di l a 0<0)with _|_
 .have b2:=dF dp;rw[bt b2];obtain⟨p,hp⟩:=Int.eq_ofNat_of_zero_le (show 0<=di l a 0 from oM);rw[hp]at D dp ⊢;obtain⟨_,b3,d5⟩:=F6 dc.beg ha a7;rcases a4:F8 l a with _|_
  .obtain⟨m,rfl⟩:∃m,n=m+1:=⟨n-1,oM⟩
   rw[a4]at z;obtain⟨v',h',H2,b6,b0,⟨G,O2⟩,W⟩:=Qz _ _ r O a5 J.hR J.l12 J.one oM p;refine J9 E I.symm D dp z g1 b1 b6 b0 ?_;have hz:V8 r l (m+1) (A6 l a) p true=Nt r p:=by rw[V8,EF,bJ rfl]
   rw[hz];exact S8 u9 (O2.wk oM) (s1.trans (W.wk oM)) (W.lowAll _ oM oM)
  .rw[a4]at z;have hS:=(b3 a4).1;obtain⟨v',h',H2,b5,a9,⟨G,O2⟩,W⟩:=ih O a5 l v J u (A6 l a) p S oM a8 (fun h=>by rw[jV hb _ 0 S,hS,<-jV hb a 0 oM,hp]);refine J10 E I.symm D dp z g1 b1 U b5 a9 ?_;exact S8 u9 (O2.wk oM) (s1.trans (W.wk oM)) (W.lowAll _ oM oM)
 .rw[bJ (dT dp)];obtain⟨H2,a6,-,-,W⟩:=pushE O (bC [iV 0,nS] 2);have hO:=pH O H.n 1 oM;rw[<-a6]at hO;refine J5 E I.symm D dp a6.symm ?_;exact kN u9 hO (s1.trans (W.wk oM)) (W.lowAll _ oM oM)
def DQ{n:Nat}(ih:rr r Hs lo K n):rr r Hs lo K (n+1):=by
 intro H a4 l v rc dc a p ha hn e2 b5;obtain⟨m,hg⟩:=kc.gr;have f3:=kc.wf.l1;obtain⟨D,S,n1,g1,s1⟩:=pushF H (bC a4 1);have e4:D.low=H.n:=by rw[S];rfl
 have f4:=dc.low;have I:=rc.one;have f5:=rc.l12;have J:=rc.stay s1;have a7:=dc.stay s1;obtain⟨rs,la,lc,a1,e5,a2,e6,a3,e7,q8,q9,f8,f9,f6,c4,_⟩:=rc.form;have ta:((a:Nat):Int).toNat=a:=tN a;have f7:=dc.n30;obtain⟨va,vc,c7⟩:=dc.ev.slice;rw[i7 Sd rfl _ sM,V8];rw[za];by_cases hm:decide (l.length<=a)=true
 .rw[bJ hm];have U:a=l.length:=oN (dT hm);have d:decide ((a:Int)=l.length)=true:=ib oM;obtain⟨v',h',H2,d0,c0,⟨G,O2⟩,O⟩:=Qz _ _ r D a4 J.hR J.l12 J.one oM p;subst c7;refine J7 I S.symm d g1 c4 d0 c0 ?_;exact S8 u9 (O2.wk oM) (s1.trans (O.wk oM)) (O.lowAll _ oM oM)
 .rw[bt hm];have U:a<l.length:=by simpa using hm
  obtain⟨ev,he,hd⟩:=B8 U;obtain⟨eb,eo,ec,e8,d5,el,b6,d6,b3,e1,b4,f1,f2,c6⟩:=a7.row he;have dl:decide ((a:Int)=l.length)=false:=dt oM;rw[he];simp only;by_cases e3:ev.kind=3
  .rw[bJ e3];have d3:decide (ev.kind=3)=true:=ib e3;obtain⟨H2,u,-,-,O⟩:=pushE D (bC [iV 0,nS] 2);have hO:=pH D H.n 1 oM;rw[<-u]at hO;subst b6;refine J8 I S.symm dl b3 ta b4 d3 u.symm ?_;exact kN u9 hO (s1.trans (O.wk oM)) (O.lowAll _ oM oM)
  .rw[bt e3];have d3:decide (ev.kind=3)=false:=dt e3;have hp:=b5 U;obtain⟨H2,u,-,-,O⟩:=pushE D (.map []);have n2:H2.n=H.n+2:=by rw[u,i4,n1]
   have m2:H2.g D.n=some (yK kiE []):=by rw[u];exact j6
   have c3:=J.stay O;have b0:=a7.stay O;have hE:=aY U;cases n with
   |zero=>omega
   |succ n'=>
   obtain⟨d4,f0,H3,c9,b9,⟨Gb,Ob⟩,s3⟩:=PX kc ih H2 a4 l v c3 b0 a ev he e3 oM oM oM;rw[hp,bt oM]at Ob;have n3:=s3.n;have d1:=c3.stay s3;have c5:=b0.stay s3;obtain⟨d2,e9,E,c8,b8,⟨Gf,Of⟩,s4⟩:=Kz ih H3 a4 l v d1 c5 a ev he e3 oM oM;have n4:=s4.n;have g2:=(O.g H.n oM).trans g1;have g3:=(s3.g H.n oM).trans g2;have a9:d9 H2.n H2 E:=s3.trans (s4.wk oM);have m4:=(a9.g D.n oM).trans m2;have b7:H.n<=E.low:=a9.lowAll _ oM (O.lowAll _ oM oM);obtain⟨fs,X⟩:=eY ((if ev.kind=2 then zO else V8 r l (n'+1) (a+1) a false));obtain⟨bs,W⟩:=eY (V8 r l (n'+1) (A6 l a) p (!F8 l a));rw[<-X]at Of;rw[<-W]at Ob;rw[<-X,<-W];have lf:fs.length<=25:=by
    rw[X];split
    .decide
    .have:=ij hg l (n'+1) (a+1) a false;omega
   have lb:bs.length<=25:=by have:=ij hg l (n'+1) (A6 l a) p (!F8 l a);rw[W];omega
   have kf:∀o∈fs,fG r (n'+1) o:=by
    rw[X];split
    .exact xh hg _
    .exact fh hg l _ _ _ _
   have kb:∀o∈bs,fG r (n'+1) o:=by rw[W];exact fh hg l _ _ _ _
   have a6:∀{x:aa3}{os:List OpD}{F:Nat->Prop},SlF E F 2 (OpO E F) x os->(∀j,F j->H2.n<=j/\j<E.n)->SlF E (fun j=>D.n<j/\j<E.n) 2 (OpO E (fun j=>D.n<j/\j<E.n)) x os:=fun h hF=>h.mono (fun _ _=>rfl) (fun j hj=>by have:=hF j hj;omega) (fun cs o q=>u9 _ _ _ _ _ _ q (fun _ _=>rfl) (fun j hj=>by have:=hF j hj;omega));have a5:=a6 (Of.slf u9) (fun j hj=>oM);have b1:=a6 ((Ob.keep u9 s4).slf u9) (fun j hj=>oM);have hI:ROI D E D.n H.n E (nS) [] (fun _=>False):=⟨L8.nil,⟨lR,fun _ _ _=>rfl⟩,O.trans (a9.wk oM),m4,b7⟩
   obtain⟨fa,fc,b2⟩:=a5.slice;subst b6;refine J16 I S.symm dl b3 ta b4 d3 u.symm g2 g3 c4 c9 b9 c8 b8 b2 ?_;refine i8 (F:=fun z=>Ret (t6 _ _ _ (t7 (inBlock 1 z) _)) _ _) (Ir kc J g1 lR oM H.n oM a7 a ev he fs bs d2 d4 a5 b1 lf lb (n'+1) oM kf kb (jt r ev fs bs []) fs.length _ _ ⟨0,_,[],_,rfl,wi _,rfl,rfl,rfl,rfl,rfl,rfl,b2.symm,rfl,rfl,hI,wi _,rfl⟩) ?_;rintro o' e' H' ⟨ho,w,G,h9,a8⟩;refine J2 ho h9 ?_;exact S8 u9 (a8.out.wk oM) (s1.trans (a8.st.wk oM)) a8.low
def Ml:∀n,rr r Hs lo K n
 |0=>fun H h l v E u a p z D _ _=>oM
 |n+1=>DQ kc (Ml n)
def Fv{H:d7}{u:LV}{l:List EvD}{v:aa3}(J:RcR Hs lo K r H u)(D:DcR lo l H v){a:Nat}{ev:EvD}(E:l[a]?=some ev)(z:ev.kind≠3):
  Ret (CL prog l7 18 [.agg u.toArray,v,iV a] H) H (cj 2 OpO H (eD r l a)):=by
 have I:=D.n30;have h:=Kz (Ml kc (l.length+1)) H u l v J D a ev E z oM oM;rw[eD,E];exact h
def wJ{H:d7}{h:LV}{l:List EvD}{v:aa3}(I:RcR Hs lo K r H h)(z:DcR lo l H v){a:Nat}{ev:EvD}(D:l[a]?=some ev)(u:ev.kind≠3):
  Ret (CL prog l7 20 [.agg h.toArray,v,iV a] H) H (cj 2 OpO H (ak r l a)):=by
 have E:=z.n30;exact PX kc (Ml kc (l.length+1)) H h l v I z a ev D u oM oM oM
end
abbrev FI(H:d7)(v:aa3)(l:List OpD):Prop:=SlI H H.n 2 (OpO H (· <H.n)) v l
def Lc(H0:d7)(va:Option Addr)(S:Nat)(l:List OpD)(ha:FI H0 (.slice va l.length S) l)(hn:l.length<=1000000)(k:Int)(r:Bool):
  ∀O e H2,(∃i:Nat,O=l.length-i/\i<=l.length/\e.g 0= .slice va l.length S/\e.g 1=iV k/\e.g 5=iV i/\H2=H0/\(l.drop i).any (fun y=>decide (y.1=k))=r)->
  u7 (LE prog l7 (.loop UC) e H2) (fun o e H2=>H2=H0/\((o= .exit 0/\r=false)\/(o= .ret/\e.g 4= .bool true/\r=true))):=by
 refine i5 _ _ ?_;rintro O e H2 ⟨i,hk,hi,u,E,I,rfl,h⟩;rcases b:decide ((i:Int)<l.length)with _|_
 .have J:=dF b;rw[dN oM]at h;refine J3 u I b ?_;exact i6 ⟨rfl,.inl ⟨rfl,h.symm⟩⟩
 .have J:=dT b;obtain⟨x,nb,o,cs,own,el,hx,hd,rfl,hF,U,a1,W,hc,xp,rfl,a2⟩:=ha.row (i:=i) oM;have X:((i:Nat):Int).toNat=i:=tN i;have D:=hc 0 oM;have e0:∀z,([iV x.1,z]:LV)[0]?=some (.int .i64 x.1):=fun _=>rfl;rw[e0,ly]at D;rw[hd,Ic]at h;rcases d:decide (x.1=k)with _|_
  .rw[d,za]at h;refine J9 u E I b X U D d @wrap_small ?_;exact d8 (O-1) oM ⟨i+1,oM,oM,u,E,rfl,rfl,h⟩
  .rw[d,EF]at h;refine J8 u E I b X U D d ?_;exact y9 ⟨rfl,.inr ⟨rfl,rfl,h.symm⟩⟩
def Mv(H:d7)(I:aa3)(l:List OpD)(E:FI H I l)(U:l.length<=1000000)(k:Int):CL prog l7 26 [I,iV k] H=some (.bool (l.any fun y=>decide (y.1=k)),none):=by
 obtain⟨J,O,rfl⟩:=E.slice;rw[i7 WL rfl _ sM];refine J1 IV ?_;refine i8 (F:=fun z=>t6 _ _ _ (t7 (inBlock 0 z) _)=_) (Lc ⟨H.bs,H.n⟩ J O l (E.mono (fun _ _=>rfl) lR (fun _ _ h=>u9 _ _ _ _ _ _ h (fun _ _=>rfl) (fun _ h=>h))) U k (l.any fun y=>decide (y.1=k)) l.length _ _ ⟨0,rfl,wi _,rfl,rfl,rfl,rfl,rfl⟩) ?_;rintro W e' H' ⟨rfl,⟨u,D⟩|⟨u,S,D⟩⟩
 .rw[D];exact J1 u trivial
 .rw[D];exact J2 u S trivial
def CC(r:ReD):Bool:=r.size.all (fun x=>decide (x<=15))&&decide (r.sorts.length<=9)
def Kt(z:d7)(W:Nat)(E:LV)(O:z.g W=cE E 1)(va:Option Addr)(X:Nat)(l:List Int)(u:E[10]?=some (.slice va l.length X))(hv:SlI z z.n 1 (y7 inE) (.slice va l.length X) l)(hn:l.length<=1000000)(r:Bool):
  ∀U e H2,(∃i:Nat,U=l.length-i/\i<=l.length/\e.g 1=pT W/\e.g 3=iV i/\H2=z/\(l.drop i).all (fun x=>decide (x<=15))=r)->
  u7 (LE prog l7 (.loop UI) e H2) (fun o e H2=>H2=z/\((o= .exit 0/\e.g 1=pT W/\r=true)\/(o= .ret/\e.g 2= .bool false/\r=false))):=by
 refine i5 _ _ ?_;rintro U e H2 ⟨i,hk,hi,D,J,rfl,h⟩;rcases b:decide ((i:Int)<l.length)with _|_
 .have S:=dF b;rw[dN oM]at h;refine J5 D J O u b ?_;exact i6 ⟨rfl,.inl ⟨rfl,D,h.symm⟩⟩
 .have S:=dT b;obtain⟨x,nb,o,cs,own,el,hx,hd,rfl,hF,hg,a2,a1,hc,rfl⟩:=hv.row (i:=i) oM;have nt:((i:Nat):Int).toNat=i:=tN i;have I:=hc 0 oM;rw[ly,yD]at I;rw[hd,sS]at h;rcases d:decide (15<x)with _|_
  .have d':=dF d;rw[ib (show x<=15 from oM),tT]at h;refine J11 D J O u b nt hg I d @yD @wrap_small ?_;exact d8 (U-1) oM ⟨i+1,oM,oM,D,rfl,rfl,h⟩
  .have d':=dT d;rw[dt (show¬x<=15 from oM),Bi]at h;refine J10 D J O u b nt hg I d @yD ?_;exact y9 ⟨rfl,.inr ⟨rfl,rfl,h.symm⟩⟩
def XJ{Hs:d7}{lo K:Nat}{r:ReD}{H:d7}{h:LV}(rc:RcR Hs lo K r H h)(hn:r.sorts.length<=25)(a8:r.size.length<=25):CL prog l7 33 [.agg h.toArray] H=some (.bool (CC r),none):=by
 obtain⟨rs,la,lc,a1,a4,a2,I,a3,a5,q8,q9,S,b2,b1,b3,b0,a7,a9,O,a6⟩:=rc.form;obtain⟨U,D,n1,W,s1⟩:=pushF H (bC h 1);have X:H.n<=U.low:=by rw[D];exact lR
 have u:=rc.one;rw[i7 WP rfl _ sM,CC];refine J2 u D.symm ?_;refine i8 (F:=fun z=>t6 _ _ _ (t7 (inBlock 0 z) _)=_) (Kt U H.n h W a2 I r.size S (O.mono (fun j hj=>s1.g j hj) oM iF) oM _ r.size.length _ _ ⟨0,rfl,wi _,rfl,rfl,rfl,rfl⟩) ?_;rintro o' e' H' ⟨rfl,⟨J,f1,E⟩|⟨J,h2,E⟩⟩
 .rw[lP]at E;have e9:decide ((r.sorts.length:Int)<=9)=decide (r.sorts.length<=9):=wG.2 oM;exact J6 J f1 E W q9 e9 trivial
 .rw[lP]at E;exact J3 J h2 E trivial
def Mx(H:d7)(lo:Nat)(v:aa3)(l:List EvD)(I:lo<=H.n)(W:N8 H lo v l)(hn:l.length<=1048576):∃t:Bool,CL prog l7 9 [v] H=some (.bool t,none)/\(t=true->0<l.length/\l.length<=30/\C1 l=true):=by
 obtain⟨va,vc,S⟩:=W.slice;have J:N8 ⟨H.bs,H.n⟩ lo v l:=W.mono (fun _ _=>rfl) lR;obtain⟨t,D⟩:=Pr ⟨H.bs,H.n⟩ lo v l I J oM;have z:=kQ ⟨H.bs,H.n⟩ lo v l I J oM;subst S;rw[i7 fn9 rfl _ sM];rcases E:decide ((0:Int)<l.length)with _|_
 .refine⟨false,?_,fun h=>by cases h⟩;exact J1 E trivial
 rcases u:decide ((l.length:Int)<=30)with _|_
 .refine⟨false,?_,fun h=>by cases h⟩;exact J2 E u trivial
 cases t with
 |false=>
  refine⟨false,?_,fun h=>by cases h⟩;exact J3 E u D trivial
 |true=>
  rcases O:C1 l with _|_
  .rw[O,bt sM]at z;refine⟨false,?_,fun h=>by cases h⟩;have d:decide ((0:Int)<= -1)=false:=rfl;exact J4 E u D z trivial
  .rw[O,bJ rfl]at z;have d:decide ((0:Int)<=dep 0 l)=true:=ib (kq O).1;have X:=dT E;have U:=dT u;refine⟨true,?_,fun _=>⟨oM,oM,rfl⟩⟩;exact J5 E u D z d trivial
def RcR.lowH{z:d7}{lo K:Nat}{r:ReD}{H:d7}{u:LV}(h:RcR z lo K r H u)(n:Nat):RcR z lo K r ⟨H.bs,n⟩ u:=
 ⟨h.hR.mono (fun _ _=>rfl) (fun _ h=>h),h.l12,h.one,h.low,h.eq⟩
def Yk(H:d7)(lo K:Nat)(q:Q)(v:aa3)(H':d7):Prop:=∃row t,v= .tuple #[.agg row.toArray,.bool t]/\row.length=12/\row.all Value.oneCell'=true/\d9 H.n H H'/\(t=true->∃Hs r,KdC q r/\CC r=true/\RcR Hs lo K r H' row)
def yz{P:Program}(e:Env)(H:d7)(a:Nat)(t:TypeId)(b:Nat):[ResultVar.cell a t,ResultVar.tmp b].mapM (P2 P e H)=(ld P t H (e.g a)).map fun v=>[v,e.g b]:=by
 simp only[KW,aaX,P2];cases ld P t H (e.g a)<;>rfl
def qX(K:Nat)(H:d7)(lo:Nat)(cs:LV)(q:Q)(e3:lo<=H.n)(hr:QR H lo K false cs q):
  Ret (CL prog gR 16 [.agg cs.toArray] H) H (Yk H lo K q):=by
 have ac:=I6 hr;have ldc:=Q6 hr;have l0:=hr.len;simp only[qSz,bF]at l0;rw[l0]at ldc;obtain⟨H1,a4,n1,g1,s1⟩:=pushF H (bC cs 1);obtain⟨H2,z⟩:=eY (H1.push (bC z12 1));have n2:H2.n=H.n+2:=by rw[z,i4,n1]
 have s2:d9 H.n H H2:=s1.trans (by rw[z];exact d9.push oM);have g2:H2.g H.n=cE cs 1:=by rw[z,j5 oM];exact g1
 have x2:H2.g (H.n+1)=cE z12 1:=by rw[z,<-n1];exact j6
 have d6:H2.low=H.n:=by rw[z,l9,a4];rfl
 have b6:QR H2 lo K false cs q:=hr.mono (fun j J=>s2.g j oM) lR;have U:=I4 (DN H2 lo K cs q oM b6);have zz:z12.length=12:=rfl;have b1:splice z12 0 z12=z12:=rfl;have e1:z12.all oC=true:=rfl;have b0:ldC (some true) (some 12) 0 z12=some (.agg z12.toArray):=rfl;obtain⟨H3,O⟩:=eY (H2.put (H.n+1) (bC z12 1));have n3:H3.n=H.n+2:=by rw[O,j9,n2]
 have x3:H3.g (H.n+1)=cE z12 1:=by rw[O];exact i9 oM
 have s3:d9 H.n H H3:=s2.trans (by rw[O];exact d9.put oM);have b2:H.n<=H3.low:=by rw[O,A9];omega
 simp only[z12]at z x2 O x3 b1 b0;rw[i7 Yt rfl _ sM];rcases b:jX q with _|_
 .rw[b]at U;refine J13 ac a4.symm n1 z.symm g2 ldc U x2 b1 O.symm x3 b0 @yz ?_;exact cn (fun _=>⟨z12,false,rfl,rfl,rfl,d9.refl _ _,fun h=>by cases h⟩) ⟨z12,false,rfl,rfl,rfl,s3.ret b2,fun h=>by cases h⟩
 obtain⟨b5,hn⟩:=mg b;have X:=I4 (DL H2 lo K cs q oM b6 b5 oM);rw[b]at U;rcases bl:ye q with _|_
 .rw[bl]at X;refine J14 ac a4.symm n1 z.symm g2 ldc U X x2 b1 O.symm x3 b0 @yz ?_;exact cn (fun _=>⟨z12,false,rfl,rfl,rfl,d9.refl _ _,fun h=>by cases h⟩) ⟨z12,false,rfl,rfl,rfl,s3.ret b2,fun h=>by cases h⟩
 rw[bl]at X;obtain⟨v,h,S,b9,b4,u,er,rfl,s4,E⟩:=Fl K H2 lo cs q oM b6 b5 oM;have n4:=s4.n;obtain⟨H5,a5,n5,x5,-⟩:=pushE S (bC z12 1);obtain⟨H6,W⟩:=eY (H5.put S.n (bC u 1));have n6:H6.n=S.n+1:=by rw[W,j9,n5]
 have x6:H6.g S.n=cE u 1:=by rw[W];exact i9 oM
 have a7:d9 S.n S H6:=by rw[W,a5];exact(d9.push lR).trans (d9.put lR)
 have y6:H6.g (H.n+1)=cE z12 1:=by rw[a7.g _ oM,s4.g _ oM];exact x2
 obtain⟨H7,D⟩:=eY (H6.put (H.n+1) (bC u 1));have n7:H7.n=S.n+1:=by rw[D,j9,n6]
 have x7:H7.g (H.n+1)=cE u 1:=by rw[D];exact i9 oM
 have c8:d9 H.n H H7:=s2.trans ((s4.wk oM).trans ((a7.wk oM).trans (by rw[D];exact d9.put oM)));have b3:H.n<=H7.low:=by
  have:H.n<=H6.low:=a7.lowAll _ oM (s4.lowAll _ oM oM);rw[D,A9];omega
 rcases E with⟨E,rfl,rfl⟩|⟨r,E,rfl,c7,hR⟩
 .simp only[z12]at a5 x5 W x6 D x7 y6 b9;refine J20 ac a4.symm n1 z.symm g2 ldc U X b9 b4 a5.symm x5 b1 W.symm x6 b0 y6 D.symm x7 @yz ?_;exact cn (fun _=>⟨z12,false,rfl,rfl,rfl,d9.refl _ _,fun h=>by cases h⟩) ⟨z12,false,rfl,rfl,rfl,c8.ret b3,fun h=>by cases h⟩
 .have kc:KdC q r:=by
   obtain⟨_,_,l,hl,a8⟩:=dR E;exact⟨b5,oM,E,c7,by rw[a8];exact mZ hr b hl⟩
  have d1:∀j,jx H2 j->j≠H.n+1:=fun j J q=>by
   rcases J with J|J
   .omega
   .exact J _ _ (q▸x2)
  have c4:fH S (· <S.n) (QR H2 lo K false) (QR H2 lo K true) u r:=hR.mono (fun _ _=>rfl) (fun j J=>J.1);have a6:u.length=12/\u.all oC=true/\u.all na0=false:=by
   obtain⟨rs,vl,w1,w2,w3,I,b8,a8,b7,c6,c5⟩:=id c4;obtain⟨pa,pc,ga,gc,xa,xc,ea,ec,ta,tc,a9,_⟩:=I0 b8;obtain⟨a1,c1,rfl⟩:=b7.slice;obtain⟨a2,c2,rfl⟩:=c6.slice;obtain⟨a3,c3,rfl⟩:=c5.slice;obtain⟨la,lc,rfl⟩:=a8.slice;have e2:=c7.l0;obtain⟨_,nb,o,_,_,_,_,_,q,_⟩:=(show SlI S S.n 3 (y7 soE) (.slice a1 r.sorts.length c1) r.sorts from b7).row (i:=0) oM;subst q;refine⟨by rw[I,a9];rfl,by rw[I,a9];rfl,?_⟩;rw[I];simp [na0]
  have c0:RcR H2 lo K r S u:=⟨c4,a6.1,a6.2.1,oM,fun j J=>s4.g j oM⟩
  have d3:=c0.stay a7;have z7:∀j,j<S.n->j≠H.n+1->H7.g j=S.g j:=fun j J hm=>by rw[D,j7 (fun q=>hm q.symm),a7.g j J]
  have d4:RcR H2 lo K r H7 u:=⟨hR.mono (fun j J=>z7 j J.1 (d1 j J.2)) (fun j J=>by have:=J.1;omega),a6.1,a6.2.1,oM,fun j J=>by rw[z7 j oM oM];exact s4.g j oM⟩
  have d0:=I4 (XJ d3 kc.wf.l1 (by rw[kc.wf.l2];exact kc.wf.l1));have lr:=c0.l12;have ar:=c0.one;have c9:splice z12 0 u=u:=by
   obtain⟨rs,vl,w1,w2,w3,I,b8,a8,b7,c6,c5⟩:=id hR;obtain⟨pa,pc,ga,gc,xa,xc,ea,ec,ta,tc,a9,_⟩:=I0 b8;rw[I,a9];rfl
  have d5:u.take 12=u:=kC oM;simp only[z12]at a5 x5 c9 y6;refine J23 ac a4.symm n1 z.symm g2 ldc U X b9 b4 a5.symm x5 c9 lr ar d5 W.symm x6 d0 y6 D.symm x7 @yz ?_;refine cn (fun d2=>?_) ⟨u,CC r,rfl,lr,ar,c8.ret b3,fun hf=>⟨H2,r,kc,hf,d4.lowH _⟩⟩
  exfalso
  have h1:u.all na0=true:=d2;rw[a6.2.2]at h1;cases h1
def RcR.here{S:d7}{lo K:Nat}{r:ReD}{H:d7}{z:LV}(h:RcR S lo K r H z):RcR H H.n K r H z:=by
 obtain⟨X,vl,w1,w2,w3,u,J,E,I,O,D⟩:=h.hR;have U:∀f cs a,QR S lo K f cs a->QR H H.n K f cs a:=fun f cs a q=>q.mono (fun j W=>h.eq j W) h.low;exact⟨⟨X,vl,w1,w2,w3,u,J.mono (fun _ _=>rfl) (fun _ h=>h) (U false) (U true),E,I,O,D⟩,h.l12,h.one,lR,fun _ _=>rfl⟩
def RcR.of{D:d7}{lo K:Nat}{r:ReD}{H:d7}{z:LV}(X:fH H (· <H.n) (QR D lo K false) (QR D lo K true) z r)(a4:1<=r.sorts.length)(O:lo<=H.n)(E:∀j,j<lo->H.g j=D.g j):RcR D lo K r H z:=by
 obtain⟨rs,vl,w1,w2,w3,h,U,J,S,W,I⟩:=id X;obtain⟨pa,pc,ga,gc,xa,xc,ea,ec,ta,tc,u,_⟩:=I0 U;obtain⟨a1,c1,rfl⟩:=S.slice;obtain⟨a2,c2,rfl⟩:=W.slice;obtain⟨a3,c3,rfl⟩:=I.slice;obtain⟨la,lc,rfl⟩:=J.slice;exact⟨X,by rw[h,u];rfl,by rw[h,u];rfl,O,E⟩
def evA:EvD:=⟨1,eB,⟨#[97]⟩,[],eB⟩
def Yl:C1 [evA]=true:=kR
def Yq:eD r0 [evA] 0=[(0,[(0,0)]),(1,[(0,1)]),(2,[(0,2)])]:=kR
def Ym:ak r0 [evA] 0=[(0,[])]:=kR
def rz(H:d7):CL prog gR 8 [] H=some (.bool true,none):=by
 have hq:QR ⟨H.bs,H.n⟩ 0 1 false [iV 1,nS,nS] q0:=⟨_,_,rfl,.inl ⟨rfl,rfl⟩,.inl ⟨rfl,rfl⟩,by decide,by decide,by decide,by decide,by decide,fun _=>⟨rfl,rfl,rfl⟩⟩
 have b5:jX q0=true:=kR;obtain⟨b4,h7⟩:=mg b5;obtain⟨v,h,u,f0,c6,E,er,rfl,s1,S⟩:=Tb 1 ⟨H.bs,H.n⟩ 0 _ q0 (wi _) hq b4 (by decide);rw[Lx]at S;rcases S with⟨h0,_⟩|⟨r,h0,rfl,b6,hR⟩
 .cases h0
 cases h0;have f3:d9 H.n ⟨H.bs,H.n⟩ u:=s1;have nn:H.n<=u.n:=s1.n;have kc:KdC q0 r0:=by
  obtain⟨_,_,l,hl,b3⟩:=dR Lx;exact⟨b4,oM,Lx,b6,by rw[b3];exact mZ hq b5 hl⟩
 have f1:RcR ⟨H.bs,H.n⟩ 0 1 r0 u E:=RcR.of hR b6.l0 (wi _) (fun j hj=>oM);obtain⟨H2,W,n2,x2,-⟩:=pushE u (bC z12 1);obtain⟨O,I⟩:=eY (H2.put u.n (bC E 1));have n3:O.n=u.n+1:=by rw[I,j9,n2]
 have x3:O.g u.n=cE E 1:=by rw[I];exact i9 oM
 have c7:d9 u.n u O:=by rw[I,W];exact(d9.push lR).trans (d9.put lR)
 obtain⟨H4,X,-,-,a5⟩:=pushE O (.cells [iV 1,.string eB,.string ⟨#[97]⟩,nS,.string eB] true 5);have n4:H4.n=u.n+2:=by rw[X,i4,n3]
 have f4:d9 u.n u H4:=c7.trans (a5.wk oM);have D:=(f1.stay f4).here;have x4:=(a5.g u.n oM).trans x3;have d5:N8 H4 H4.n (sL O.n 1 1) [evA]:=by
  refine .inr ⟨O.n,0,1,rfl,.inr ⟨_,true,oM,by rw[X];exact j6,by decide,fun i a hi=>?_⟩⟩;cases i with
  |zero=>
   have:evA=a:=by simpa using hi
   subst this;exact⟨_,rfl,.inl ⟨rfl,rfl⟩,by decide,by decide,by decide,by decide⟩
  |succ i=>simp at hi
 have a7:DcR H4.n [evA] H4 (sL O.n 1 1):=⟨d5,.inr lR,by decide,Yl,lR⟩
 have z0:((0:Nat):Int)=0:=rfl;obtain⟨j2,g6,H5,b9,c3,⟨G5,O5⟩,s5⟩:=Ret.one (Fv kc D a7 (a:=0) (ev:=evA) rfl (by decide));rw[Yq]at O5;have n5:=s5.n;have f2:=D.stay s5;have a8:=a7.stay s5;obtain⟨j3,g7,H6,c4,c5,⟨G6,O6⟩,s6⟩:=Ret.one (wJ kc f2 a8 (a:=0) (ev:=evA) rfl (by decide));rw[Ym]at O6;have n6:=s6.n;have z:=a8.stay s6;rw[z0]at b9 c4;have a9:=I4 (Mp H6 _ _ _ z.low z.ev z.cap (by decide) 0 (by decide));have b1:=I4 (yH H6 _ _ _ z.low z.ev (by decide) 0 (by decide));have b2:=I4 (DW H6 _ _ _ z.low z.ev (by decide) 0 (by decide));have c9:F8 [evA] 0=false:=kR;have d0:((0+P4 ([evA].drop 0) 0:Nat):Int)=1:=kR;have d1:di [evA] 0 0= -1:=rfl;rw[c9,z0]at a9;rw[d0,z0]at b1;rw[d1,z0]at b2;have hf:=(O5.keep u9 s6).sl u9;obtain⟨fa,fc,rfl⟩:=O5.slice;obtain⟨x,nb,o,cs,own,el,hx,hd,rfl,hF,hg,h6,U,hc,xp,rfl,b7⟩:=hf.row (i:=2) (by decide);cases hx;have c0:=hc 0 oM;have c1:=hc 1 oM;have e0:([iV 2,xp]:LV)[0]?=some (.int .i64 2):=rfl;have e1:([iV 2,xp]:LV)[1]?=some xp:=rfl;rw[e0,ly]at c0;rw[e1]at c1;obtain⟨xa,xc,rfl⟩:=b7.slf.slice;obtain⟨y,i2,o2,d2,f9,g4,hy,h3,rfl,g8,d6,f6,a4,h2,rfl⟩:=b7.slf.row (i:=0) (by decide);cases hy;have e4:=O6.sl u9;obtain⟨ba,bc,rfl⟩:=O6.slice;obtain⟨y,i3,o3,d3,g0,g5,hy,h4,rfl,g9,e2,f7,e6,d4,yp,rfl,i0⟩:=e4.row (i:=0) (by decide);cases hy;have b0:=d4 0 oM;have e3:([iV 0,yp]:LV)[0]?=some (.int .i64 0):=rfl;rw[e3]at b0
 replace b0:d3[o3]?=some (.int .i64 0):=by simpa using b0
 have J:ldC (some true) (some 2) o2 d2=some (.agg #[iV 0,iV 2]):=by simpa using a4
 have e5:L3 prog .eql 65 (.agg #[iV 0,iV 2]) (.agg #[iV 0,iV 2])=some (.bool true):=kR;have b8:H.n<=O.low:=by
  have h1:H.n<=u.low:=f3.lowAll _ lR lR;exact c7.lowAll _ nn h1
 have f8:H.n<=H6.low:=s6.lowAll _ oM (s5.lowAll _ oM (a5.lowAll _ oM b8));obtain⟨rs,la,lc,a1,g1,a2,g2,a3,g3,q8,q9,j0,j1,i1,f5,_⟩:=D.form;have e9:=D.l12;have a6:=D.one;have c8:splice z12 0 E=E:=by
  obtain⟨rs,vl,w1,w2,w3,U,e8,b3,h8,h9,h5⟩:=D.hR;obtain⟨pa,pc,ga,gc,xa,xc,ea,ec,ta,tc,e7,_⟩:=I0 e8;rw[U,e7];rfl
 have l3:r0.sorts.length=3:=rfl;rw[l3]at q9;simp only[z12]at W x2 c8;have x5:=(s5.g u.n oM).trans x4;rw[i7 fn8 rfl _ sM];exact J29 f0 c6 e9 a6 c8 W.symm x2 I.symm x3 q9 X.symm x4 f5 b9 c3 x5 c4 c5 hg c0 c1 d6 J e5 e2 b0 a9 b1 b2 trivial
def gL(a n:Nat)(h:0<n):L3 prog .rem 3 (.int .i64 (a:Int)) (.int .i64 (n:Int))=some (.int .i64 ((a % n:Nat):Int)):=by
 simp only[L3,jd];rw[bt oM,<-Int.ofNat_tmod]
def uv{a:Nat}(h:a<=255):IntKind.i64.wrap (a:Int)=a:=wrap_small oM oM
def qS{r:ReD}{m:Int}(h:E0 r m)(l:List EvD)(a:Nat):(∀o∈eD r l a,fG r (l.length+1) o)/\(eD r l a).length<=25:=by
 have u:=h.l1;rw[eD];split
 .exact⟨fun o z=>(by cases z),by simp⟩
 .split
  .exact⟨xh h _,by decide⟩
  .exact⟨fh h l _ _ _ _,by have:=ij h l (l.length+1) (a+1) a false;omega⟩
def nz{r:ReD}{m:Int}(h:E0 r m)(l:List EvD)(a:Nat):(∀o∈ak r l a,fG r (l.length+1) o)/\(ak r l a).length<=25:=by
 have u:=h.l1;rw[ak];split
 .exact⟨xh h _,by decide⟩
 .exact⟨fh h l _ _ _ _,by have:=ij h l (l.length+1) (A6 l a) (di l a 0) (!F8 l a);omega⟩
structure SrR(Hs:d7)(lo K:Nat)(s:StD)(H:d7)(rs:LV):Prop where
 st:StF H (· <H.n) (QR Hs lo K false) (QR Hs lo K true) rs s
 low:lo<=H.n
 eq:∀j,j<lo->H.g j=Hs.g j
def SrR.stay{Hs:d7}{lo K:Nat}{s:StD}{H H':d7}{D:LV}(h:SrR Hs lo K s H D)(z:d9 H.n H H'):SrR Hs lo K s H' D:=by
 have I:=z.n;have E:=h.low;exact⟨h.st.mono (fun j u=>z.g j u) (fun j u=>oM) iF iF,oM,fun j u=>by rw[z.g j oM,h.eq j u]⟩
section
variable{q:Q}{r:ReD}(kc:KdC q r){Hs:d7}{lo K:Nat}
include kc
def MN{l:List EvD}(D:C1 l=true)(z:dep 0 l=0)(j:Nat):stA r.strat l j∈r.sorts:=by
 obtain⟨m,h⟩:=kc.gr;have u:soZ∈r.sorts:=mG h.s0;by_cases I:j<=l.length
 .have:=kA kc.ok kc.mkq h D z (l.length-j) j oM;rw[stA];cases E:(whF r.strat (l.drop j)).1 with
  |nil=>exact u
  |cons y t=>rw[E]at this;exact this y sM
 .rw[kU _ _ oM];exact u
def TV{l:List EvD}{v:aa3}{c3:Nat}(hb:C1 l=true)(h0:dep 0 l=0)(hn:l.length<=100000):∀(n a:Nat)(H:d7)(D:LV),l.length<=a+n->a<=100000->SrR Hs lo K r.strat H D->N8 H c3 v l->c3<=H.n->
  CL prog l7 41 [.agg D.toArray,v,iV a] H=some (.agg (soE (stA r.strat l a)).toArray,none):=by
 intro n;induction n with
 |zero=>
  intro a H D f0 ha hs hv c7;obtain⟨va,vc,rfl⟩:=hv.slice;obtain⟨pa,pc,ga,gc,xa,xc,ea,ec,ta,tc,b2,_⟩:=I0 hs.st;have E:D.all oC=true:=by rw[b2];rfl
  have d:decide ((l.length:Int)<=a)=true:=ib oM;rw[kU _ _ oM,i7 WU rfl _ sM];have hz:(soE soZ).toArray= #[.bool false,.bool false,.string eB]:=rfl;rw[hz];exact J2 E d trivial
 |succ n ih=>
  intro a H D f0 ha hs hv c7;obtain⟨pa,pc,ga,gc,xa,xc,ea,ec,ta,tc,b2,_⟩:=I0 hs.st;have E:D.all oC=true:=by rw[b2];rfl
  have g9:D.length=8:=by rw[b2];rfl
  have b7:D.take 8=D:=kC oM;have g8:=hs.low;have f9:=c7;obtain⟨va,vc,f2⟩:=hv.slice;obtain⟨H1,I,n1,-⟩:=pushF H (bC D 1);obtain⟨H2,u⟩:=eY (H1.push (bC [.bool false,.bool false,.string eB] 1));have n2:H2.n=H.n+2:=by rw[u,i4,n1]
  have s2:d9 H.n H H2:=by rw[u,I];exact(d9.first H _).trans (d9.push (by rw[i4];exact aaq _))
  have g2:H2.g H.n=cE D 1:=by rw[u,j5 oM,I];exact j6
  have x2:H2.g (H.n+1)=cE [.bool false,.bool false,.string eB] 1:=by rw[u,<-n1];exact j6
  have g0:H2.low=H.n:=by rw[u,I];rfl
  have a8:splice [Value.bool false,.bool false,.string eB] 0 [Value.bool false,.bool false,.string eB]=[.bool false,.bool false,.string eB]:=rfl;have hz:(soE soZ).toArray= #[.bool false,.bool false,.string eB]:=rfl;have g1:H.n<=(H2.put (H.n+1) (bC [.bool false,.bool false,.string eB] 1)).low:=by rw[A9];omega
  rw[i7 WU rfl _ sM];by_cases e4:l.length<=a
  .have d:decide ((l.length:Int)<=a)=true:=ib oM;rw[kU _ _ e4,hz];subst f2;exact J2 E d trivial
  have c5:a<l.length:=oM;have d:decide ((l.length:Int)<=a)=false:=dt oM;obtain⟨ev,he,hd⟩:=B8 c5;obtain⟨eb,eo,g6,a5,a1,c9,f8,b0,e9,hr⟩:=hv.at_ he;have hw:=(Q0 hb he).2.1;obtain⟨c4,_⟩:=CA hr (· <H.n) (fun j hj=>oM);obtain⟨av,e6,_⟩:=id hr;have c0:=E7 (k:=0) oM e6;rw[ly]at c0;have e0:([iV ev.kind,.string ev.space,.string ev.loc,av,.string ev.text]:LV)[0]?=some (.int .i64 ev.kind):=rfl;rw[e0]at c0;have S:=aE e9 rfl;obtain⟨el,e7⟩:=eY ((a5.drop (eo+a*5)).take 5);rw[<-e7]at S c4;have ta:((a:Nat):Int).toNat=a:=tN a;by_cases e3:ev.kind=3
  .have d3:decide (ev.kind=3)=true:=ib e3;rw[iA _ he e3,hz];subst c9;have z:H2.g eb=some (.cells a5 a1 5):=(s2.g eb oM).trans b0;exact J11 E I.symm n1 u.symm d z ta c0 d3 x2 a8 trivial
  have d3:decide (ev.kind=3)=false:=dt e3;have b8:ev.kind=1\/ev.kind=2:=by rcases aq hw with q|q|q<;>omega
  obtain⟨s1,_,f6,f7,g7,e1⟩:=kJ r.strat hb h0 he e3;obtain⟨fi,a9⟩:=eY ((if ev.kind=1 then stA r.strat l (a+1) else soZ));obtain⟨ne,b1⟩:=eY (stA r.strat l (A6 l a));obtain⟨m,hg⟩:=kc.gr;have c6:fi∈r.sorts:=by
   rw[a9];split
   .exact MN kc hb h0 _
   .exact mG hg.s0
  have c8:ne∈r.sorts:=by rw[b1];exact MN kc hb h0 _
  obtain⟨H3,J⟩:=eY (H2.push (bC [.bool false,.bool false,.string eB] 1));have n3:H3.n=H.n+3:=by rw[J,i4,n2]
  have x3:H3.g (H.n+2)=cE [.bool false,.bool false,.string eB] 1:=by rw[J,<-n2];exact j6
  obtain⟨H4,O⟩:=eY (H3.put (H.n+2) (bC [.bool false,.bool false,.string eB] 1));have n4:H4.n=H.n+3:=by rw[O,j9,n3]
  have x4:H4.g (H.n+2)=cE [.bool false,.bool false,.string eB] 1:=by rw[O];exact i9 oM
  have s4:d9 H2.n H2 H4:=by rw[O,J];exact(d9.push oM).trans (d9.put oM)
  have b4:=s2.trans (s4.wk oM);have g4:=(s4.g H.n oM).trans g2;have y4:=(s4.g (H.n+1) oM).trans x2;obtain⟨H5,f4,f5,n5,x5,z5,d5⟩:∃H5:d7,(ev.kind=1->H5=H4.put (H.n+2) (bC (soE fi) 1))/\(ev.kind=2->H5=H4)/\H5.n=H.n+3/\H5.g (H.n+2)=cE (soE fi) 1/\(∀j,j<H.n+2->H5.g j=H4.g j)/\H.n<=H5.low:=by
   have d4:H.n<=H4.low:=by rw[O,A9,J,l9];omega
   rcases b8 with k|k
   .refine⟨_,fun _=>rfl,fun h=>oM,by rw[j9,n4],i9 oM,fun j hj=>j7 oM,by rw[A9];omega⟩
   .refine⟨H4,fun h=>oM,fun _=>rfl,n4,?_,fun _ _=>rfl,d4⟩;rw[a9,bt oM];exact x4
  have a2:H4.g eb=some (.cells a5 a1 5):=(b4.g eb oM).trans b0;have s5:d9 H.n H H5:=⟨oM,fun k hk hq=>oM,fun j hj=>by rw[z5 j oM,b4.g j hj]⟩
  obtain⟨H6,W⟩:=eY (H5.push (bC [.bool false,.bool false,.string eB] 1));have n6:H6.n=H.n+4:=by rw[W,i4,n5]
  have x6:H6.g (H.n+3)=cE [.bool false,.bool false,.string eB] 1:=by rw[W,<-n5];exact j6
  obtain⟨H7,X⟩:=eY (H6.put (H.n+3) (bC [.bool false,.bool false,.string eB] 1));have n7:H7.n=H.n+4:=by rw[X,j9,n6]
  have x7:H7.g (H.n+3)=cE [.bool false,.bool false,.string eB] 1:=by rw[X];exact i9 oM
  have s7:d9 H5.n H5 H7:=by rw[X,W];exact(d9.push oM).trans (d9.put oM)
  have b5:=s5.trans (s7.wk oM);have d6:H.n<=H7.low:=s7.lowAll _ oM d5;obtain⟨U,d0,d2,n8,x8,z8,g3⟩:∃U:d7,(0<a->U=H7.put (H.n+3) (bC (soE ne) 1))/\(a=0->U=H7)/\U.n=H.n+4/\U.g (H.n+3)=cE (soE ne) 1/\(∀j,j<H.n+3->U.g j=H7.g j)/\H.n<=U.low:=by
   by_cases k:a=0
   .refine⟨H7,fun h=>oM,fun _=>rfl,n7,?_,fun _ _=>rfl,d6⟩;rw[b1,e1 k,kU _ _ lR];exact x7
   .refine⟨_,fun _=>rfl,fun h=>oM,by rw[j9,n7],i9 oM,fun j hj=>j7 oM,by rw[A9];omega⟩
  have s8:d9 H.n H U:=⟨oM,fun k hk hq=>oM,fun j hj=>by rw[z8 j oM,b5.g j hj]⟩
  have w5:H5.g H.n=cE D 1:=(z5 _ oM).trans g4;have w7:H7.g H.n=cE D 1:=(s7.g _ oM).trans w5;have w8:U.g H.n=cE D 1:=(z8 _ oM).trans w7;have y8:U.g (H.n+1)=cE [.bool false,.bool false,.string eB] 1:=by rw[z8 _ oM,s7.g _ oM,z5 _ oM];exact y4
  have u8:U.g (H.n+2)=cE (soE fi) 1:=by rw[z8 _ oM,s7.g _ oM];exact x5
  have a3:U.g eb=some (.cells a5 a1 5):=(s8.g eb oM).trans b0;have a6:=Qx Hs lo K r.strat ev fi ne (· <U.n) U D el (hs.stay s8).st (A3 _ _ _ _ _ _ c4 (fun j hj=>s8.g j hj) (fun j hj=>oM)) (fun j hj=>hj) (hs.stay s8).eq (hs.stay s8).low _ kc.wf.n0 kc.wf.st (kc.wf.so fi c6) (kc.wf.so ne c8) (qj hw) kc.wf.sz (by rw[kc.strat];exact om q kc.ok);have f1:wP r.strat ev fi ne=stA r.strat l a:=by
   rw[s1,<-a9,<-b1,kc.strat];exact wQ q kc.ok kc.nq ev fi ne
  rw[f1]at a6;obtain⟨H9,a4⟩:=eY (U.put (H.n+1) (.cells (soE (stA r.strat l a)) true 1));have x9:H9.g (H.n+1)=some (.cells (soE (stA r.strat l a)) true 1):=by rw[a4];exact i9 oM
  have g5:H.n<=H9.low:=by rw[a4,A9];omega
  have b6:∀x:SoD,splice [Value.bool false,.bool false,.string eB] 0 (soE x)=soE x:=fun x=>rfl;have lx:∀x:SoD,(soE x).length=3:=fun _=>rfl;have ax:∀x:SoD,(soE x).all oC=true:=fun _=>rfl;have b3:∀x:SoD,ldC (some true) (some 3) 0 (soE x)=some (.agg (soE x).toArray):=fun _=>rfl;have f3:ev.kind=1->CL prog l7 41 [.agg D.toArray,v,iV ((a:Int)+1)] H4=some (.agg (soE fi).toArray,none):=fun h=>by
   rw[a9,bJ h];exact ih (a+1) H4 D oM oM (hs.stay b4) (hv.mono (fun j hj=>b4.g j oM) lR) oM
  have a7:=Mw H7 c3 v l oM (hv.mono (fun j hj=>b5.g j oM) lR) oM a oM;have e2:a+P4 (l.drop a) 0=A6 l a:=rfl;rw[e2]at a7;have b9:=ih (A6 l a) H7 D oM oM (hs.stay b5) (hv.mono (fun j hj=>b5.g j oM) lR) oM;rw[<-b1]at b9;subst c9;have z:H2.g eb=some (.cells a5 a1 5):=(s2.g eb oM).trans b0;rcases b8 with k|k
  .have d1:decide (ev.kind=1)=true:=ib k;have e5:=f4 k;have r1:=f3 k;by_cases ka:a=0
   .have da:decide ((0:Int)<a)=false:=dt oM;have e8:=d2 ka;subst e8;exact J30 E I.symm n1 u.symm d z a2 a3 ta c0 d3 n2 J.symm x3 a8 O.symm d1 g4 b7 r1 (aI x4 b6) (aI lx ax) (aI e5.symm n5) (aI W.symm x6) (aI X.symm da) (aI w8 S) (aI u8 x8) (aI b3 a6) (aI y8 a4.symm) (aI x9 @wrap_small) trivial
   .have da:decide ((0:Int)<a)=true:=ib oM;have e8:=d0 oM;exact J30 E I.symm n1 u.symm d z a2 a3 ta c0 d3 n2 J.symm x3 a8 (aI O.symm d1) (aI g4 b7) (aI r1 x4) (aI b6 lx) (aI ax e5.symm) (aI n5 W.symm) (aI x6 X.symm) (aI da w7) (aI a7 b9) (aI x7 e8.symm) (aI w8 S) (aI u8 x8) (aI b3 a6) (aI y8 a4.symm) (aI x9 @wrap_small) trivial
  .have d1:decide (ev.kind=1)=false:=dt oM;have e5:=f5 k;subst e5;by_cases ka:a=0
   .have da:decide ((0:Int)<a)=false:=dt oM;have e8:=d2 ka;subst e8;exact J30 E I.symm n1 u.symm d z a2 a3 ta c0 d3 n2 J.symm x3 a8 O.symm d1 b7 b6 lx ax n5 W.symm x6 X.symm (aI da w8) (aI S u8) (aI x8 b3) (aI a6 y8) (aI a4.symm x9) trivial
   .have da:decide ((0:Int)<a)=true:=ib oM;have e8:=d0 oM;exact J30 E I.symm n1 u.symm d z a2 a3 ta c0 d3 n2 J.symm x3 a8 O.symm d1 b7 b6 lx (aI ax n5) (aI W.symm x6) (aI X.symm da) (aI w7 a7) (aI b9 x7) (aI e8.symm w8) (aI S u8) (aI x8 b3) (aI a6 y8) (aI a4.symm x9) trivial
def Fw{H:d7}{h:LV}(S:RcR Hs lo K r H h){l:List EvD}{v:aa3}{O:Nat}(hb:C1 l=true)(h0:dep 0 l=0)(hn:l.length<=100000)(hv:N8 H O v l)(a8:O<=H.n)(a:Nat)(ha:a<=100000):
  CL prog l7 24 [.agg h.toArray,v,iV a] H=some (.int .i64 (kdX r (stA r.strat l a)),none):=by
 obtain⟨rs,la,lc,a1,c1,a2,c2,a3,c3,q8,q9,b1,b2,a4,b3,X,a9,W,b0,a6⟩:=S.form;obtain⟨u,E,n1,g1,s1⟩:=pushF H (bC h 1);have a5:u.low=H.n:=by rw[E];rfl
 have z:=S.one;have a7:=kc.wf.l1;have hs:SrR Hs lo K r.strat H rs:=⟨X,S.low,S.eq⟩
 have U:=TV kc hb h0 hn l.length a u rs oM ha (hs.stay s1) (hv.mono (fun j hj=>s1.g j oM) lR) oM;have J:SlI u u.n 3 (y7 soE) (.slice a1 r.sorts.length c1) r.sorts:=W.mono (fun j hj=>s1.g j hj) oM iF;have D:=Kw u u.n _ r.sorts (stA r.strat l a) lR J oM;have I:(fun y=>bZ y (stA r.strat l a))=fun y=>bZ (stA r.strat l a) y:=by funext y;exact vJ _ _
 rw[I]at D;rw[i7 Yy rfl _ sM,kdX];exact J7 z E.symm g1 q9 a4 U D trivial
end
def mq:∀(z u:LV),z.length=u.length->splice z 0 u=u:=by
 intro z u h;refine Fd fun i=>?_;rw[Q5 _ _ _ _ oM];by_cases D:i<u.length
 .rw[bJ ⟨wi _,oM⟩,ZU]
 .rw[bt oM,yB oM,yB oM]
def zh{L:List OpD}{k:Int}(h:∃o∈L,o.1=k):(L.any fun y=>decide (y.1=k))=true:=by
 obtain⟨o,u,e⟩:=h;exact AH.2 ⟨o,u,ib e⟩
def Zj(K:Nat)(H:d7)(lo:Nat)(cs:LV)(q:Q)(v:aa3)(l:List EvD)(b8 b7:Nat)(m2:lo<=H.n)(hr:QR H lo K false cs q)(hv:N8 H lo v l)(hc:eO v)(hn:l.length<=1048576)(d4:b8<=255)(g5:b7<=255):
  CL prog gR 6 [.agg cs.toArray,v,.int .u8 b8,.int .u8 b7] H=some (.bool true,none):=by
 have ac:=I6 hr;have ldc:=Q6 hr;have l0:=hr.len;simp only[qSz,bF]at l0;rw[l0]at ldc;obtain⟨va,vc,f0⟩:=hv.slice;obtain⟨H1,O,n1,g1,s1⟩:=pushF H (bC cs 1);have k6:H1.low=H.n:=by rw[O];rfl
 have h2:QR H1 lo K false cs q:=hr.mono (fun j hj=>s1.g j oM) lR;have c0:N8 H1 lo v l:=hv.mono (fun j hj=>s1.g j oM) lR;have h8:=rz H1;obtain⟨t,h9,ht⟩:=Mx H1 lo v l oM c0 hn
 replace h9:=I4 h9
 rw[i7 fn6 rfl _ sM];cases t with
 |false=>simp(maxSteps:=20000000) -dsimp (disch:=first|omega|(simp only[rH]<;>omega)|fail) only[↓fk,rQ,N1,sevalprocAttr,tyA,ac,<-O,h8,h9]
 |true=>
  obtain⟨e8,l6,hB⟩:=ht rfl;have z:=I4 (kQ H1 lo v l oM c0 oM);rw[bJ hB]at z;by_cases b3:dep 0 l=0
  rotate_left
  .have dd:decide (dep 0 l=0)=false:=dt b3;exact J6 ac O.symm h8 h9 z dd trivial
  have dd:decide (dep 0 l=0)=true:=ib b3;obtain⟨vq,hq,H2,b0,I,a1,t,rfl,X,D,s2,hk⟩:=qX K H1 lo cs q oM h2;have n2:=s2.n;obtain⟨H3,W,n3,x3,-⟩:=pushE H2 (bC z12 1);obtain⟨H4,S⟩:=eY (H3.put H2.n (bC a1 1));have n4:H4.n=H2.n+1:=by rw[S,j9,n3]
  have x4:H4.g H2.n=cE a1 1:=by rw[S];exact i9 oM
  have c9:d9 H2.n H2 H4:=by rw[S,W];exact(d9.push lR).trans (d9.put lR)
  have f5:d9 H1.n H1 H4:=s2.trans (c9.wk oM);have a2:splice z12 0 a1=a1:=mq z12 a1 (by rw[X];rfl);have c5:a1.take 12=a1:=kC oM;have f1:H.n<=H4.low:=c9.lowAll _ oM (s2.lowAll _ oM oM);simp only[z12]at W x3 a2;cases t with
  |false=>
   rw[f0]at h9 z ⊢;exact J16 ac O.symm g1 ldc h8 h9 z dd b0 I X D W.symm x3 a2 S.symm trivial
  |true=>
  obtain⟨Hs,r,kc,j4,h7⟩:=hk rfl;obtain⟨m,hg⟩:=kc.gr;have f2:=h7.stay c9;obtain⟨k0,e2⟩:=eY (b8 % l.length);have k3:k0<l.length:=by rw[e2];exact aaZ _ e8
  have h:=gL b8 l.length e8;rw[<-e2]at h;have b6:=uv d4;have hw:=uv g5;have h5:N8 H4 lo v l:=c0.mono (fun j hj=>f5.g j oM) lR;have e1:(1:Int)+(k0:Int)=((k0+1:Nat):Int):=oM;obtain⟨u,hu,c8,h4⟩:=gl (P:=prog) (t:=22) (x:=none) (y:=some (.int .i64 ((k0+1:Nat):Int))) (i:=0) (j:=k0+1) h5 hc (by exact gV.2.2.2.2.2.2) Q9.1 oM (mI 0) (gC _ _) (wi _) oM;have a9:=hu H4 (fun _ _=>rfl);obtain⟨U,hU⟩:=eY (l.take (k0+1));obtain⟨T,hT⟩:=eY (l.drop (k0+1));have a7:U++T=l:=by rw[hU,hT];exact UO _ _
  rw[lP,ZU,<-hU]at c8;have m0:U.length=k0+1:=by rw[hU,Ib];omega
  have g2:C1 U=true:=cY (T:=T) (by rw[a7];exact hB);obtain⟨ua,uc,rfl⟩:=c8.slice;obtain⟨k,e6⟩:=eY (b7 % U.length);have e7:k<U.length:=by rw[e6];exact aaZ _ oM
  have E:=gL b7 U.length oM;rw[<-e6]at E;obtain⟨ev,he,hd⟩:=B8 e7;have g7:l[k]?=some ev:=by rw[<-a7,gk e7];exact he
  have c6:DcR lo U H4 (.slice ua U.length uc):=⟨c8,.inl h4,oM,g2,oM⟩
  obtain⟨eb,eo,ec,l1,j0,el,h6,j3,a8,k4,b4,l8,j2,h0⟩:=c6.row he;cases h6;have tk:((k:Nat):Int).toNat=k:=tN k;rcases d3:decide (ev.kind=3)with _|_
  rotate_left
  .rw[f0]at h9 z a9 ⊢;exact J27 ac O.symm g1 ldc h8 h9 z dd b0 I X D W.symm x3 a2 S.symm b6 h e1 a9 hw E a8 tk b4 d3 @wrap_small trivial
  have e3:=dF d3;have e4:ev.kind=1\/ev.kind=2:=oM;obtain⟨i1,l4,H5,c3,a4,⟨G5,O5⟩,s5⟩:=Ret.one (Fv kc f2 c6 he e3);have n5:=s5.n;have f3:=f2.stay s5;have f7:=c6.stay s5;obtain⟨i2,l5,H6,c4,a5,⟨G6,O6⟩,s6⟩:=Ret.one (wJ kc f3 f7 he e3);have n6:=s6.n;have f4:=f3.stay s6;have i0:d9 H1.n H1 H6:=f5.trans ((s5.wk oM).trans (s6.wk oM));have b5:N8 H6 lo v l:=c0.mono (fun j hj=>i0.g j oM) lR;have x5:=(s5.g H2.n oM).trans x4;have x6:=(s6.g H2.n oM).trans x5;have d6:=(s5.g eb oM).trans a8;have k2:=(s6.g eb oM).trans d6;have k7:H.n<=H6.low:=s6.lowAll _ oM (s5.lowAll _ oM f1);have m1:=b5;obtain⟨k8,l3,k9,i3,g0,e9,g8,a3,k5,h3⟩:=b5.at_ g7;obtain⟨f6,d1,_⟩:=id h3;have a6:=E7 (k:=0) oM d1;rw[ly]at a6;have f8:([iV ev.kind,.string ev.space,.string ev.loc,f6,.string ev.text]:LV)[0]?=some (.int .i64 ev.kind):=rfl;rw[f8]at a6;have h1:k<l.length:=oM;have d2:C1 (U++T)=true:=by rw[a7];exact hB
  have d5:dep 0 (U++T)=0:=by rw[a7];exact b3
  have b2:=I4 (Mw H6 lo v l oM b5 oM k oM);have g3:k+P4 (l.drop k) 0=A6 l k:=rfl;rw[g3]at b2;have j1:=T2 l (Oj h1);have c7:=I4 (Fw kc f4 hB b3 oM b5 oM (k+1) oM);have e5:=I4 (Fw kc f4 hB b3 oM b5 oM (A6 l k) oM);have f9:((k+1:Nat):Int)=(k:Int)+1:=oM;rw[f9]at c7;have g9:=(O5.keep u9 s6).sl u9;have g6:=O6.sl u9;have g4:=fun kd=>I4 (Mv H6 i1 (eD r U k) g9 (oN ((qS hg U k).2)) kd);have d0:=fun kd=>I4 (Mv H6 i2 (ak r U k) g6 (oN ((nz hg U k).2)) kd);have b9:(eD r U k).any (fun y=>decide (y.1=if ev.kind=1 then kdX r (stA r.strat l (k+1)) else 0))=true:=by
   refine zh ?_;by_cases k1:ev.kind=1
   .rw[bJ k1];have:=vO kc.ok kc.mkq hg d2 d5 he k1;rw[a7]at this;exact this
   .rw[bt k1,eD,he];simp only;rw[bJ oM];exact⟨(0,[]),by simp [zO],rfl⟩
  have b1:(ak r U k).any (fun y=>decide (y.1=if 0<k then kdX r (stA r.strat l (A6 l k)) else 0))=true:=by
   refine zh ?_;by_cases kz:0<k
   .rw[bJ kz];have:=sq kc.ok kc.mkq hg d2 d5 he e4 kz;rw[a7]at this;exact this
   .obtain rfl:k=0:=oM;rw[bt kz,ak,jW,bJ oM];exact⟨(0,[]),by simp [zO],rfl⟩
  have hA:=g4 (if ev.kind=1 then kdX r (stA r.strat l (k+1)) else 0);have J:=d0 (if 0<k then kdX r (stA r.strat l (A6 l k)) else 0);rw[b9]at hA;rw[b1]at J;subst e9;rcases k1:decide (ev.kind=1)with _|_
  .rw[bt (dF k1)]at hA;rcases kz:decide ((0:Int)<k)with _|_
   .rw[bt (oN (dF kz))]at J;exact J30 ac O.symm g1 ldc h8 h9 z dd b0 I X D W.symm x3 a2 S.symm b6 h e1 a9 (aI hw E) (aI a8 tk) (aI b4 d3) (aI x4 c5) (aI c3 a4) (aI x5 c4) (aI a5 a3) (aI a6 k1) (aI kz hA) (aI J @wrap_small) trivial
   .rw[bJ (oN (dT kz))]at J;exact J30 ac O.symm g1 ldc h8 h9 z dd b0 I X D W.symm x3 a2 S.symm b6 (aI h e1) (aI a9 hw) (aI E a8) (aI tk b4) (aI d3 x4) (aI c5 c3) (aI a4 x5) (aI c4 a5) (aI a3 a6) (aI k1 kz) (aI hA J) (aI x6 b2) (aI e5 @wrap_small) trivial
  .rw[bJ (dT k1)]at hA;rcases kz:decide ((0:Int)<k)with _|_
   .rw[bt (oN (dF kz))]at J;exact J30 ac O.symm g1 ldc h8 h9 z dd b0 I X D W.symm x3 a2 S.symm b6 h (aI e1 a9) (aI hw E) (aI a8 tk) (aI b4 d3) (aI x4 c5) (aI c3 a4) (aI x5 c4) (aI a5 a3) (aI a6 k1) (aI kz hA) (aI J x6) (aI c7 @wrap_small) trivial
   .rw[bJ (oN (dT kz))]at J;exact J30 ac O.symm g1 ldc h8 h9 z dd b0 I X D W.symm x3 a2 S.symm (aI b6 h) (aI e1 a9) (aI hw E) (aI a8 tk) (aI b4 d3) (aI x4 c5) (aI c3 a4) (aI x5 c4) (aI a5 a3) (aI a6 k1) (aI kz hA) (aI J x6) (aI c7 b2) (aI e5 @wrap_small) trivial
def Jj(k:Nat):Q7 prog (k+2) 88 (fun _ cs a=>AtR cs a):=by
 have h:=aO (P:=prog) (t:=88) Tryz.underlying88 kR (D9 (k:=2) rfl kR (rt k) (D9 (k:=1) rfl kR (mB (k+1)) (dM _)));refine h.map (fun x=>⟨x.1.1,x.1.2,x.2.1⟩) ?_ (fun _ _ _ _ _ h=>h);rintro S cs ⟨a,b,u⟩ ⟨c1,c2,rfl,⟨rfl,D,z⟩,I,J,rfl,⟨rfl,E⟩,rfl⟩;exact⟨rfl,D,z,E⟩
def FK(k:Nat):Q7 prog (k+3) 27 (fun S cs(l:List AtD)=>∃v,cs=[v]/\Sl S 3 AtR v l/\l.length<=1048576):=eS (P:=prog) (t:=27) (e:=88) (sz:=3) Tryz.underlying27 kR oM (Jj k)
def EvG(S:List Blk)(cs:LV)(e:EvD):Prop:=
 ∃v,cs=[iV e.kind,.string e.space,.string e.loc,v,.string e.text]/\Sl S 3 AtR v e.attrs/\e.space.size<=1048576/\e.loc.size<=1048576/\e.text.size<=1048576/\e.attrs.length<=1048576
def FL(k:Nat):Q7 prog (k+4) 29 (fun S cs e=>EvG S cs e):=by
 have h:=aO (P:=prog) (t:=29) Tryz.underlying29 kR (D9 (k:=1) rfl kR (xk (k+3)) (D9 (k:=2) rfl kR (rt (k+2)) (D9 (k:=1) rfl kR (FK k) (D9 (k:=1) rfl kR (mB (k+3)) (dM _)))));refine h.map (fun x=>⟨x.1,x.2.1.1,x.2.1.2,x.2.2.1,x.2.2.2.1⟩) ?_ ?_
 .rintro S cs ⟨k,nm,O,tx,u⟩ ⟨c1,c2,rfl,⟨rfl,J⟩,c3,c4,rfl,⟨rfl,z,D⟩,c5,c6,rfl,⟨v,rfl,E,I⟩,c7,c8,rfl,⟨rfl,U⟩,rfl⟩;exact⟨v,rfl,E,z,D,U,I⟩
 .rintro S X cs e W ⟨v,J,z,E⟩;exact⟨v,J,z.mono W iF,E⟩
def Ur{S:List Blk}{cs:LV}{e:EvD}(h:EvG S cs e):EvR ⟨S,S.length⟩ S.length cs e:=by
 obtain⟨v,u,z,D⟩:=h;exact⟨v,u,yL z iF,D⟩
def fK(k:Nat):Q7 prog (k+5) 22 (fun S cs(l:List EvD)=>∃v,cs=[v]/\Sl S 5 (EvG S) v l/\l.length<=1048576):=eS (P:=prog) (t:=22) (e:=29) (sz:=5) Tryz.underlying22 kR oM (FL k)
def rS{S:List Blk}{v:aa3}{l:List EvD}(h:Sl S 5 (EvG S) v l):N8 ⟨S,S.length⟩ S.length v l:=yL h (fun _ _ h=>Ur h)
def nY{S:List Blk}{sz:Nat}{α:Type}{R:LV->α->Prop}{v:aa3}{l:List α}(h:Sl S sz R v l):eO v:=by
 intro a n c u;rcases h with⟨h,_⟩|⟨b,o,h,_⟩
 .rw[u]at h;cases h;exact .inl rfl
 .rw[u]at h;cases h;exact .inr rfl
end Go.Proofs.YtjlpdddmmnijoaaGreatDoor.Ve
namespace Go.Proofs.YtjlpdddmmnijoaaGreatDoor
open Go.ChangeShapes Go.WideShapes Go.ChangeAt Go.RowKit
open Go.Proofs.Tryz (prog)
open Go Ve card
def O8{nm:String}{N:FuncId}{F:Func}(z:prog.funcNamed nm=some N)(D:prog.funcs[N]?=some F)(E:F.params.toList.all (fun t=> !prog.wantsStandIn t)=true) (I:prog.looks []=false) (f:FuncId) (u:Func) (J:prog.funcNamed nm=some f) (h:prog.funcs[f]?=some u):
  false=prog.looks []/\∀(j:Nat) t,u.params[j]?=some t->prog.wantsStandIn t=false:=by
 obtain rfl:=oU (z.symm.trans J);obtain rfl:=oU (D.symm.trans h);refine⟨I.symm,fun j t O=>?_⟩
 simpa using List.all_eq_true.1 E t (by simpa using Array.mem_of_getElem? O)
end Go.Proofs.YtjlpdddmmnijoaaGreatDoor
namespace Go.Proofs.YtjlpdddmmnijoaaGreatDoor.levelFuture
open Go.ChangeShapes Go.WideShapes Go.ChangeAt Go.RowKit
open Go.Proofs.Tryz (prog)
open Go Ve card
abbrev EG:Array aa3:= #[FZ,.slice none 0 0,.int .u8 0,.int .u8 0]
def HG(h:Os):laidMet prog AG ((M8 h).forCall (fun _ _=>0) ⟨#[],EG,[]⟩).memory:=
 laidMet_of_run' 8 kR kR
def TD(u:Os){H:Type}(enc:TypeId×aa3->H):∃h,DataW.whole enc prog ((M8 u).forCall (fun _ _=>0) ⟨#[],EG,[]⟩).memory [36,22,5,5] [] false EG.toList 8=some ([.agg [.lit (.int .i64 0),.nil,.nil],.nil,.lit (.int .u8 0),.lit (.int .u8 0)],[],h):=
 ⟨[],kR⟩
def cD(H:Type)(enc:TypeId×aa3->H)(W:World)(base:Nat)(args:Array aa3)(ds gs:List (DataW H))(O:List MemPlace)
  (u:∀(j:Nat) t v,Tryz.f6.params[j]?=some t->args[j]?=some v->Value.okWide prog W .any base t v)
  (hW:DataW.Whole enc prog Tryz.f6.params.toList Rows.levelFutureSpec.vars false W args.toList ds gs O) (hk:Rows.uptoSmall H (ds++gs)=true):
  Calls prog 6 args W fun e W'=>∃v,e= .returned v/\Rows.levelFutureSpec.post enc prog Tryz.f6 false true false false W args v W':=by
 have b3:=hW;obtain⟨p,q,a4,hV,rfl,d4,d5⟩:=hW;have hA:DataW.TrodAll enc prog W 0 (fun _=>true) true Tryz.f6.params.toList args.toList ds p:=a4;rw[Tryz.params6]at hA u;obtain⟨v0,d6,d0,c4,p0,q0,b4,rfl,rfl,h0,r0⟩:=trodAll_cons hA;obtain⟨v1,e1,d1,c5,p1,q1,rfl,rfl,rfl,h1,r1⟩:=trodAll_cons r0;obtain⟨v2,e2,d2,c6,p2,q2,rfl,rfl,rfl,h2,r2⟩:=trodAll_cons r1;obtain⟨v3,e3,d3,c7,p3,q3,rfl,rfl,rfl,h3,r3⟩:=trodAll_cons r2;obtain⟨rfl,rfl,rfl⟩:=trodAll_nil r3;obtain rfl:args= #[v0,v1,v2,v3]:=by cases args;simp_all
 obtain⟨rfl,rfl⟩:=trodVars_none hV;obtain⟨a0,rfl,_⟩:=okWide_struct Tryz.underlying36 (u 0 36 v0 rfl rfl);obtain⟨a1,J,D,rfl⟩:=okWide_slice Tryz.underlying22 (u 1 22 v1 rfl rfl);have k0:=h0;have c0:∀x∈p0,x.block<W.heap.size:=by obtain⟨m,hm⟩:=h0;exact DataW.trod_lt m _ _ _ hm
 have k1:=h1;have c3:∀x∈p1,x.block<W.heap.size:=by obtain⟨m,hm⟩:=h1;exact DataW.trod_lt m _ _ _ hm
 obtain⟨a2,rfl,rfl,rfl,w2⟩:=open_int ZI (u 2 5 v2 rfl rfl) h2;have b8:0<=a2/\a2<=255:=by simpa [Lit.wf,IntKind.min,IntKind.max,IntKind.signed,IntKind.bits] using w2
 obtain⟨a3,rfl,rfl,rfl,w3⟩:=open_int ZI (u 3 5 v3 rfl rfl) h3;have b9:0<=a3/\a3<=255:=by simpa [Lit.wf,IntKind.min,IntKind.max,IntKind.signed,IntKind.bits] using w3
 have hb:Rows.uptoBulk d0<=1048576/\Rows.uptoBulk d1<=1048576:=by
  have h:Rows.uptoBulkAll ([d0,d1,.lit (.int .u8 a2),.lit (.int .u8 a3)]++[])<=1048576:=dT hk;simp only[Rows.uptoBulkAll,vG,sB]at h;omega
 obtain⟨z,b5⟩:=h0;obtain⟨φ0,S0,x0,q,c8,c9,a6,U,_,b2⟩:=(cq (z+1)).1.2 enc W z oM _ d0 p0 b5 hb.1 [] [] (kl W);obtain⟨E,b6⟩:=h1;obtain⟨φ1,S1,x1,l,a5,b1,a7,b0,_,v,rfl,a9,a8⟩:=(fK E).2 enc W E oM _ d1 p1 b6 hb.2 φ0 S0 a6;have I:=Zj _ ⟨S1,S1.length⟩ S1.length x0 q v l a2.toNat a3.toNat lR (Pn ((cq (z+1)).1.1 _ _ _ _ b1 b2)) (rS a9) (nY a9) a8 oM oM;rw[DR b8.1]at I;rw[DR b9.1]at I;have b7:VR φ1 v (.slice a1 J D):=by have:=b0.2 0 v (.slice a1 J D) rfl (by simp [Value.cells]);exact this
 have S:VRs φ1 [.agg x0.toArray,v,.int .u8 a2,.int .u8 a3] [.agg a0,.slice a1 J D,.int .u8 a2,.int .u8 a3]:= .cons (.agg (by simpa [Value.cells] using (U.mono a5).1) (by simpa [Value.cells] using (U.mono a5).2)) (.cons b7 (.cons (.int _ _) (.cons (.int _ _) (.nil φ1))));clear a4;refine(ic kR ng a7 S I).mono fun e W'⟨he,X⟩=>?_;subst he;exact⟨_,rfl,_,_,_,[],_,[],b3,trodAll_mk1 (shut_bool Tryz.underlying4 _),(ZO (Below.trod fd kR (dT kR) k0 X c0) (ZO (Below.trod fd kR (dT kR) k1 X c3) (ZO (shut_int ZI w2) (ZO (shut_int ZI w3) trodAll_mk0)))),rfl,X.frame _,fun h=>by cases h⟩
def iZ(E:Os)(h:E.Started)(H:Type)(enc:TypeId×aa3->H)(F:Stop.Interp):
  ReturnsInHanded {} Tryz.checked E 6 .any ((Rows.OpenSpec.upto Rows.levelFutureSpec).preRow enc prog Tryz.f6 Rows.levelFutureUptoRow.domain false Rows.levelFutureUptoRow.laid) (((Rows.OpenSpec.upto Rows.levelFutureSpec).at F).post enc prog Tryz.f6 false true false false):=by
 obtain⟨I,U⟩:=TD E enc;refine returnsInHanded_of_row (C:=Tryz.checked) (s:=Rows.OpenSpec.upto Rows.levelFutureSpec) own h kR Tryz.func6
  (witness_row_at (enc:=enc) (C:=Tryz.checked) false (M8 E) EG rfl kR kR kR
   (OpenSpec.preRow_of_cond 8 U kR (fun k S=>by cases S;kernel_rfl) kR (HG E))) ?_
 intro W base args ds J u D O _ z _ X _ _;exact cD H enc W base args ds J u D O (z _ rfl)
def yJ:Rows.LevelFutureUptoSaid:=
 OpenClaim.holds_of_cond 6 Tryz.f6 rfl rfl rfl rfl rfl rfl rfl ⟨rfl,rfl,rfl,rfl,rfl⟩ rfl rfl rfl rfl rfl kR Tryz.func6 kR
  (dT kR) (by unfold Func.isWrapper;first|(rw[bJ (by decide+kernel)];kernel_rfl)|(rw[bt (by decide+kernel)];exact⟨rfl,rfl⟩))
  (fun u h H enc _ F=>by rw[OpenClaim.pre_eq_preRow];exact iZ u h H enc F)
def cardUpto:Rows.LevelFutureUptoCardSaid:=
 Claim7.holds_tied_plain_at .later [] _ _ _ _ yJ (fun _ h=>by cases h) kR (fun _ h=>by cases h) levelFutureUpto_row_tie rfl ⟨rfl,rfl⟩ kR rfl (O8 kR Tryz.func6 kR kR) kR
end Go.Proofs.YtjlpdddmmnijoaaGreatDoor.levelFuture
namespace Go.Proofs.YtjlpdddmmnijoaaGreatDoor
open Go Go.RowKit
open Go.Proofs.Tryz (prog)
theorem levelFuture_holds:Rows.LevelFutureUptoCardSaid:=levelFuture.cardUpto
end Go.Proofs.YtjlpdddmmnijoaaGreatDoor
