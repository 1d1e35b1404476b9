/- A part of the claim: the evaluator and the contracts. Conditions: none here. -/
import Derived.Test.YtjlpdddmmnijoaaGreatDoorSc
set_option linter.unusedVariables false
set_option linter.unusedSimpArgs false
set_option linter.defProp false
set_option maxHeartbeats 0
set_option maxRecDepth 1000000
namespace Go.Proofs.YtjlpdddmmnijoaaGreatDoor
open Go Go.RowKit
def vV:=@List.length_singleton
def zC:=@List.length_set
def Ln:=@List.set_append_right
def Qw:=@List.length_replicate
def Qy:=@List.mem_iff_getElem?
def Tm:=@List.flatten_replicate_singleton
def UN:=@List.singleton_append
def WZ:=@List.nodup_nil
def ZN:=@List.find?_cons
def aad:=@List.map_replicate
def aae:=@Nat.eq_zero_or_pos
def aah:=@List.pairwise_iff_getElem
def aap:=@List.nodup_append
def aaq:=@Nat.le_succ
def aav:=@Nat.le_mul_of_pos_right
def aaD:=@List.map_set
def aaN:=@List.length_filter_le
def aaT:=@Nat.one_mul
def aaU:=@false_or
def aaV:=@List.find?_nil
end Go.Proofs.YtjlpdddmmnijoaaGreatDoor
namespace Go.Proofs.YtjlpdddmmnijoaaGreatDoor.Ve
open Go Go.RowKit
open Go.Proofs.Tryz (prog)
def rF{P:Program}(t:TypeId)(a:Option Addr)(n c:Nat)(h:(I3 P t).isSome=true):L3 P .eql t (.slice a n c) (nS)=some (.bool a.isNone):=by
 cases a<;>simp [L3,eqA,h]
def NP{α:Type}(R:LV->α->Prop)(H:d7)(n:Nat)(v:aa3)(l:List α)(hn:n<=H.n)(U:SlI H n 3 R v l)(hl:l.length<=1000000):Q3 (CL prog l7 63 [v] H) H 3 R l:=by
 obtain⟨va,ca,rfl⟩:=U.slice;have X:=fun a n c=>rF (P:=prog) 27 a n c (by rw[IU.2.2.2.2.2.1];rfl);rw[i7 YJ rfl _ sM];rcases b:va.isNone with _|_
 .obtain⟨E,u⟩:=eY (d7.push ⟨H.bs,H.n⟩ (bC [] 3));have hS:d9 H.n H E:=by rw[u];exact d9.first H _
  have n1:E.n=H.n+1:=by rw[u,i4];rfl
  have D:H.n<=E.low:=by rw[u,l9];exact lR
  have I:u5 E H.n 3 R (sL H.n 0 0) []:=by rw[u];exact u5.fresh rfl lR F1.nil
  obtain⟨w1,h1,K2,O,z,J,s2⟩:=I.append (P:=prog) (t:=27) (n:=n) (by exact IU.2.2.2.2.2.2) oD.1 oD.2.1 oD.2.2.1 oM oM (U.mono (fun j hj=>hS.g j oM) lR iF) (by simp;omega) oM;refine J5 X b u.symm O z ?_;exact L5 J (hS.trans s2) (s2.low D)
 .have W:va=none:=by simpa using b
  subst W;have S:l=[]:=by
   rcases U with⟨_,h⟩|⟨b,o,c,h,_⟩
   .exact h
   .cases h
  subst S;refine J2 X b ?_;exact⟨_,none,H,rfl,rfl,u5.nil,d9.refl _ _⟩
def NQ{α:Type}(R:LV->α->Prop)(H:d7)(n:Nat)(v:aa3)(l:List α)(hn:n<=H.n)(U:SlI H n 1 R v l)(hl:l.length<=1000000):Q3 (CL prog l7 61 [v] H) H 1 R l:=by
 obtain⟨va,ca,rfl⟩:=U.slice;have X:=fun a n c=>rF (P:=prog) 103 a n c (by rw[X6.2.2.2.2.2.1];rfl);rw[i7 YI rfl _ sM];rcases b:va.isNone with _|_
 .obtain⟨E,u⟩:=eY (d7.push ⟨H.bs,H.n⟩ (bC [] 1));have hS:d9 H.n H E:=by rw[u];exact d9.first H _
  have n1:E.n=H.n+1:=by rw[u,i4];rfl
  have D:H.n<=E.low:=by rw[u,l9];exact lR
  have I:u5 E H.n 1 R (sL H.n 0 0) []:=by rw[u];exact u5.fresh rfl lR F1.nil
  obtain⟨w1,h1,K2,O,z,J,s2⟩:=I.append (P:=prog) (t:=103) (n:=n) (by exact X6.2.2.2.2.2.2) ty9.1 ty9.2.1 ty9.2.2.1 oM oM (U.mono (fun j hj=>hS.g j oM) lR iF) (by simp;omega) oM;refine J5 X b u.symm O z ?_;exact L5 J (hS.trans s2) (s2.low D)
 .have W:va=none:=by simpa using b
  subst W;have S:l=[]:=by
   rcases U with⟨_,h⟩|⟨b,o,c,h,_⟩
   .exact h
   .cases h
  subst S;refine J2 X b ?_;exact⟨_,none,H,rfl,rfl,u5.nil,d9.refl _ _⟩
def SJ{α:Type}(H0:d7)(F:Nat->Prop)(R:LV->α->Prop)(X:aa3)(p:α->Bool)(va:Option Addr)(W:Nat)(l:List α)(hv:SlF H0 F 3 R (.slice va l.length W) l)(hn:l.length<=1048576)(hf:∀(i:Nat)(x:α)(el:LV),l[i]?=some x->R el x->jz (CL prog l7) X [.agg el.toArray] H0=some (.bool (p x),none)) (r:Int):
  ∀U e H2,(∃i:Nat,U=l.length-i/\i<=l.length/\e.g 0= .slice va l.length W/\e.g 1=X/\e.g 7=iV l.length/\e.g 8=iV i/\H2=H0/\ixG p (l.drop i) i=r)->
  u7 (LE prog l7 (.loop RR) e H2) (fun o e H2=>H2=H0/\((o= .exit 0/\r= -1)\/(o= .ret/\e.g 4=iV r))):=by
 refine i5 _ _ ?_;rintro U e H2 ⟨i,hk,hi,I,J,E,O,hH,z⟩;subst hH;rcases b:decide ((i:Int)<l.length)with _|_
 .have S:=dF b;have:l.drop i=[]:=dN oM;rw[this,ixG]at z;refine J3 E O b ?_;exact i6 ⟨rfl,.inl ⟨rfl,z.symm⟩⟩
 have S:=dT b;obtain⟨x,nb,o,cs,own,el,hx,hd,rfl,hF,hg,a1,u,hc,hR⟩:=hv.row (i:=i) oM;have nt:(i:Int).toNat=i:=tN i;have h:=hf i x el hx hR;rw[hd,ixG]at z;rcases D:p x with _|_
 .simp only[D,bF]at z;rw[D]at h;refine J10 I J E O b hg nt u h @wrap_small ?_;exact d8 (U-1) oM ⟨i+1,oM,oM,I,J,E,rfl,rfl,z⟩
 .simp only[D,jd]at z;rw[D]at h;refine J9 I J E O b hg nt u h ?_;exact y9 ⟨rfl,.inr ⟨rfl,by rw[<-z];rfl⟩⟩
def sH{α:Type}(H:d7)(F:Nat->Prop)(R:LV->α->Prop)(u:aa3)(p:α->Bool)(v:aa3)(l:List α)(I:SlF H F 3 R v l)(U:l.length<=1048576)(S:∀(i:Nat)(x:α)(el:LV),l[i]?=some x->R el x->jz (CL prog l7) u [.agg el.toArray] ⟨H.bs,H.n⟩=some (.bool (p x),none)):
  CL prog l7 139 [v,u] H=some (.int .i64 (ixG p l 0),none):=by
 obtain⟨X,J,rfl⟩:=I.slice;have hl:(⟨H.bs,H.n⟩:d7).low=H.n:=rfl;rw[i7 Ql rfl _ sM];refine J1 qJ ?_;refine i8 (F:=fun z=>t6 _ _ _ (t7 (inBlock 0 z) _)=_) (SJ ⟨H.bs,H.n⟩ F R u p X J l (I.mono (fun _ _=>rfl) (fun _ h=>h) iF) U S (ixG p l 0) l.length _ _ ⟨0,rfl,oM,rfl,rfl,rfl,rfl,rfl,rfl⟩) ?_;rintro o e' H' ⟨E,⟨D,W⟩|⟨D,O⟩⟩
 .exact J3 D E W trivial
 .exact J3 D E O trivial
def sF{α:Type}(H:d7)(F:Nat->Prop)(R:LV->α->Prop)(u:aa3)(p:α->Bool)(v:aa3)(l:List α)(I:SlF H F 3 R v l)(E:l.length<=1048576)(D:∀(i:Nat)(x:α)(el:LV),l[i]?=some x->R el x->jz (CL prog l7) u [.agg el.toArray] ⟨H.bs,H.n⟩=some (.bool (p x),none)):
  CL prog l7 116 [v,u] H=some (.bool (l.any p),none):=by
 have z:=sH ⟨H.bs,H.n⟩ F R u p v l (I.mono (fun _ _=>rfl) (fun _ h=>h) iF) E D;rw[i7 Wh rfl _ sM,<-kG];exact J1 z trivial
def SK{α:Type}(H0:d7)(F:Nat->Prop)(R:LV->α->Prop)(X:aa3)(p:α->Bool)(va:Option Addr)(W:Nat)(l:List α)(hv:SlF H0 F 6 R (.slice va l.length W) l)(hn:l.length<=1048576)(hf:∀(i:Nat)(x:α)(el:LV),l[i]?=some x->R el x->jz (CL prog l7) X [.agg el.toArray] H0=some (.bool (p x),none)) (r:Int):
  ∀U e H2,(∃i:Nat,U=l.length-i/\i<=l.length/\e.g 0= .slice va l.length W/\e.g 1=X/\e.g 7=iV l.length/\e.g 8=iV i/\H2=H0/\ixG p (l.drop i) i=r)->
  u7 (LE prog l7 (.loop RX) e H2) (fun o e H2=>H2=H0/\((o= .exit 0/\r= -1)\/(o= .ret/\e.g 4=iV r))):=by
 refine i5 _ _ ?_;rintro U e H2 ⟨i,hk,hi,I,J,E,O,hH,z⟩;subst hH;rcases b:decide ((i:Int)<l.length)with _|_
 .have S:=dF b;have:l.drop i=[]:=dN oM;rw[this,ixG]at z;refine J3 E O b ?_;exact i6 ⟨rfl,.inl ⟨rfl,z.symm⟩⟩
 have S:=dT b;obtain⟨x,nb,o,cs,own,el,hx,hd,rfl,hF,hg,a1,u,hc,hR⟩:=hv.row (i:=i) oM;have nt:(i:Int).toNat=i:=tN i;have h:=hf i x el hx hR;rw[hd,ixG]at z;rcases D:p x with _|_
 .simp only[D,bF]at z;rw[D]at h;refine J10 I J E O b hg nt u h @wrap_small ?_;exact d8 (U-1) oM ⟨i+1,oM,oM,I,J,E,rfl,rfl,z⟩
 .simp only[D,jd]at z;rw[D]at h;refine J9 I J E O b hg nt u h ?_;exact y9 ⟨rfl,.inr ⟨rfl,by rw[<-z];rfl⟩⟩
def CX{α:Type}(H:d7)(F:Nat->Prop)(R:LV->α->Prop)(u:aa3)(p:α->Bool)(v:aa3)(l:List α)(I:SlF H F 6 R v l)(U:l.length<=1048576)(S:∀(i:Nat)(x:α)(el:LV),l[i]?=some x->R el x->jz (CL prog l7) u [.agg el.toArray] ⟨H.bs,H.n⟩=some (.bool (p x),none)):
  CL prog l7 161 [v,u] H=some (.int .i64 (ixG p l 0),none):=by
 obtain⟨X,J,rfl⟩:=I.slice;have hl:(⟨H.bs,H.n⟩:d7).low=H.n:=rfl;rw[i7 Qq rfl _ sM];refine J1 yV ?_;refine i8 (F:=fun z=>t6 _ _ _ (t7 (inBlock 0 z) _)=_) (SK ⟨H.bs,H.n⟩ F R u p X J l (I.mono (fun _ _=>rfl) (fun _ h=>h) iF) U S (ixG p l 0) l.length _ _ ⟨0,rfl,oM,rfl,rfl,rfl,rfl,rfl,rfl⟩) ?_;rintro o e' H' ⟨E,⟨D,W⟩|⟨D,O⟩⟩
 .exact J3 D E W trivial
 .exact J3 D E O trivial
def sI{α:Type}(H:d7)(F:Nat->Prop)(R:LV->α->Prop)(u:aa3)(p:α->Bool)(v:aa3)(l:List α)(I:SlF H F 6 R v l)(E:l.length<=1048576)(D:∀(i:Nat)(x:α)(el:LV),l[i]?=some x->R el x->jz (CL prog l7) u [.agg el.toArray] ⟨H.bs,H.n⟩=some (.bool (p x),none)):
  CL prog l7 153 [v,u] H=some (.bool (l.any p),none):=by
 have z:=CX ⟨H.bs,H.n⟩ F R u p v l (I.mono (fun _ _=>rfl) (fun _ h=>h) iF) E D;rw[i7 WE rfl _ sM,<-kG];exact J1 z trivial
def I6{H:d7}{lo k:Nat}{f:Bool}{cs:LV}{q:Q}(h:QR H lo k f cs q):cs.all oC=true:=by
 cases k with
 |zero=>exact h.elim
 |succ k=>
  cases f
  .obtain⟨_,_,_,_,rfl,_⟩:=h.path;rfl
  .obtain⟨_,_,_,_,rfl,_⟩:=h.filter;rfl
def Q6{H:d7}{lo k:Nat}{f:Bool}{cs:LV}{q:Q}(h:QR H lo k f cs q):ldC (some true) (some cs.length) 0 cs=some (.agg cs.toArray):=by
 cases k with
 |zero=>exact h.elim
 |succ k=>
  cases f
  .obtain⟨_,_,_,_,rfl,_⟩:=h.path;rfl
  .obtain⟨_,_,_,_,rfl,_⟩:=h.filter;rfl
def vd(fn g:Nat)(f:Bool)(k:Nat):Prop:=∀(H:d7)(lo:Nat)(va vb:aa3)(l m:List Q),lo<=H.n->QsR H lo k f va l->QsR H lo k f vb m->l.length<=1048576->m.length<=1048576->CL prog l7 fn [va,vb,.func (.func g) #[] #[]] H=some (.bool (decide (l.length=m.length)&&S9 l m),none)
def zZ(k:Nat)(ih:U7 118 false k)(H0:d7)(lo:Nat)(va vb:Option Addr)(ca cb:Nat)(l m:List Q)(b9:l.length=m.length)(c0:lo<=H0.n)(hv:QsR H0 lo k false (.slice va l.length ca) l)(hw:QsR H0 lo k false (.slice vb m.length cb) m)(hn:l.length<=1048576)(r:Bool):
  ∀kk e H2,(∃i:Nat,kk=l.length-i/\i<=l.length/\e.g 1= .slice vb m.length cb/\e.g 2= .func (.func 118) #[] #[]/\e.g 15= .slice va l.length ca/\e.g 16=iV l.length/\e.g 17=iV i/\d9 H0.n H0 H2/\S9 (l.drop i) (m.drop i)=r)->
  u7 (LE prog l7 (.loop RS) e H2) (fun o e H2=>d9 H0.n H0 H2/\((o= .exit 0/\r=true)\/(o= .ret/\e.g 6= .bool false/\r=false))):=by
 refine i5 _ _ ?_;rintro kk e H2 ⟨i,hk,hi,f1,f2,J,D,O,X,S⟩;rcases b:decide ((i:Int)<l.length)with _|_
 .have b1:=dF b;have:l.drop i=[]:=dN oM;rw[this,S9]at S;refine J3 D O b ?_;exact i6 ⟨X,.inl ⟨rfl,S.symm⟩⟩
 have b1:=dT b;have c4:=X.n;obtain⟨x,nb,o,cs,own,el,hx,hd,rfl,c3,hg,b4,z,hr⟩:=hv.row (i:=i) oM;obtain⟨y,b5,o',cs',b8,h,c5,b3,rfl,b6,a6,a7,u,I⟩:=hw.row (i:=i) oM;have nt:(i:Int).toNat=i:=tN i;have b7:(i:Int)<m.length:=oM;rw[hd,b3,bI]at S;simp only[qSz,jd,bF]at z hg u a6 b4 a7;have e1:=hr.len;have e2:=I.len;simp only[qSz,jd,bF]at e1 e2;have a1:el.all oC=true:=I6 hr;have a2:h.all oC=true:=I6 I;obtain⟨H3,a4,n3,g3,s3⟩:=pushP H2 (bC [iV 0,nS,nS] 1) (bC el 1);have a9:splice [iV 0,nS,nS] 0 el=el:=A0 _ _ (by rw[e1];rfl);have b0:splice [iV 0,nS,nS] 0 h=h:=A0 _ _ (by rw[e2];rfl);obtain⟨H4,a5,n4,g4,s4⟩:=pushP H3 (bC [iV 0,nS,nS] 1) (bC h 1);have a3:H4.g H2.n=cE el 1:=(s4.g _ oM).trans g3;have gx:H2.g nb=_:=(X.g _ oM).trans hg;have gy:H3.g b5=_:=(s3.g _ oM).trans ((X.g _ oM).trans a6);have U:ldC (some true) (some el.length) 0 el=some (.agg el.toArray):=Q6 hr;have W:ldC (some true) (some h.length) 0 h=some (.agg h.toArray):=Q6 I;rw[e1]at U;rw[e2]at W;have k4:∀j,j<lo->H4.g j=H0.g j:=fun j hj=>by rw[s4.g _ oM,s3.g _ oM,X.g _ oM]
 have E:=ih H4 lo el h x y oM (hr.mono k4 lR) (I.mono k4 lR);have a8:d9 H0.n H0 H4:=(X.trans (s3.wk oM)).trans (s4.wk oM);rcases b2:R1 x y with _|_
 .rw[b2]at E S;refine J24 f1 f2 J D O b gx nt z a1 e1 a9 a4.symm gy u a2 e2 b0 a5.symm a3 g4 U W E ?_;exact y9 ⟨a8,.inr ⟨rfl,rfl,by rw[<-S];rfl⟩⟩
 .rw[b2]at E S;refine J25 f1 f2 J D O b gx nt z a1 e1 a9 a4.symm gy u a2 e2 b0 a5.symm a3 g4 U W E @wrap_small ?_;exact d8 (kk-1) oM ⟨i+1,oM,oM,f1,f2,J,D,rfl,a8,S⟩
def Kl(k:Nat)(ih:U7 118 false k):vd 140 118 false k:=by
 intro H lo va vb l m D O S hn hm;obtain⟨U,W,rfl⟩:=O.slice;obtain⟨X,bc,rfl⟩:=S.slice;have el:decide ((l.length:Int)=m.length)=decide (l.length=m.length):=wG.2 oM;rw[i7 Qm rfl _ sM];rcases b:decide (l.length=m.length)with _|_
 .exact J2 el b trivial
 .refine J2 el b ?_;refine i8 (F:=fun z=>t6 _ _ _ (t7 (inBlock 0 z) _)=_) (zZ k ih ⟨H.bs,H.n⟩ lo U X W bc l m (dT b) D (O.mono (fun _ _=>rfl) lR) (S.mono (fun _ _=>rfl) lR) hn (S9 l m) l.length _ _ ⟨0,rfl,oM,rfl,rfl,rfl,rfl,rfl,d9.refl _ _,rfl⟩) ?_;rintro o e' H' ⟨J,⟨E,I⟩|⟨E,h4,I⟩⟩
  .have h:=J.low lR;have u:H.n<=H'.low:=h;exact J2 E I trivial
  .have h:=J.low lR;have u:H.n<=H'.low:=h;exact J3 E h4 I trivial
def Ac(k:Nat)(ih:U7 142 true k)(H0:d7)(lo:Nat)(va vb:Option Addr)(ca cb:Nat)(l m:List Q)(b9:l.length=m.length)(c0:lo<=H0.n)(hv:QsR H0 lo k true (.slice va l.length ca) l)(hw:QsR H0 lo k true (.slice vb m.length cb) m)(hn:l.length<=1048576)(r:Bool):
  ∀kk e H2,(∃i:Nat,kk=l.length-i/\i<=l.length/\e.g 1= .slice vb m.length cb/\e.g 2= .func (.func 142) #[] #[]/\e.g 15= .slice va l.length ca/\e.g 16=iV l.length/\e.g 17=iV i/\d9 H0.n H0 H2/\S9 (l.drop i) (m.drop i)=r)->
  u7 (LE prog l7 (.loop RT) e H2) (fun o e H2=>d9 H0.n H0 H2/\((o= .exit 0/\r=true)\/(o= .ret/\e.g 6= .bool false/\r=false))):=by
 refine i5 _ _ ?_;rintro kk e H2 ⟨i,hk,hi,f1,f2,J,D,O,X,S⟩;rcases b:decide ((i:Int)<l.length)with _|_
 .have b1:=dF b;have:l.drop i=[]:=dN oM;rw[this,S9]at S;refine J3 D O b ?_;exact i6 ⟨X,.inl ⟨rfl,S.symm⟩⟩
 have b1:=dT b;have c4:=X.n;obtain⟨x,nb,o,cs,own,el,hx,hd,rfl,c3,hg,b4,z,hr⟩:=hv.row (i:=i) oM;obtain⟨y,b5,o',cs',b8,h,c5,b3,rfl,b6,a6,a7,u,I⟩:=hw.row (i:=i) oM;have nt:(i:Int).toNat=i:=tN i;have b7:(i:Int)<m.length:=oM;rw[hd,b3,bI]at S;simp only[qSz,jd,bF]at z hg u a6 b4 a7;have e1:=hr.len;have e2:=I.len;simp only[qSz,jd,bF]at e1 e2;have a1:el.all oC=true:=I6 hr;have a2:h.all oC=true:=I6 I;obtain⟨H3,a4,n3,g3,s3⟩:=pushP H2 (bC [iV 0,.string eB,.string eB,.string eB,nS,nS] 1) (bC el 1);have a9:splice [iV 0,.string eB,.string eB,.string eB,nS,nS] 0 el=el:=A0 _ _ (by rw[e1];rfl);have b0:splice [iV 0,.string eB,.string eB,.string eB,nS,nS] 0 h=h:=A0 _ _ (by rw[e2];rfl);obtain⟨H4,a5,n4,g4,s4⟩:=pushP H3 (bC [iV 0,.string eB,.string eB,.string eB,nS,nS] 1) (bC h 1);have a3:H4.g H2.n=cE el 1:=(s4.g _ oM).trans g3;have gx:H2.g nb=_:=(X.g _ oM).trans hg;have gy:H3.g b5=_:=(s3.g _ oM).trans ((X.g _ oM).trans a6);have U:ldC (some true) (some el.length) 0 el=some (.agg el.toArray):=Q6 hr;have W:ldC (some true) (some h.length) 0 h=some (.agg h.toArray):=Q6 I;rw[e1]at U;rw[e2]at W;have k4:∀j,j<lo->H4.g j=H0.g j:=fun j hj=>by rw[s4.g _ oM,s3.g _ oM,X.g _ oM]
 have E:=ih H4 lo el h x y oM (hr.mono k4 lR) (I.mono k4 lR);have a8:d9 H0.n H0 H4:=(X.trans (s3.wk oM)).trans (s4.wk oM);rcases b2:R1 x y with _|_
 .rw[b2]at E S;refine J24 f1 f2 J D O b gx nt z a1 e1 a9 a4.symm gy u a2 e2 b0 a5.symm a3 g4 U W E ?_;exact y9 ⟨a8,.inr ⟨rfl,rfl,by rw[<-S];rfl⟩⟩
 .rw[b2]at E S;refine J25 f1 f2 J D O b gx nt z a1 e1 a9 a4.symm gy u a2 e2 b0 a5.symm a3 g4 U W E @wrap_small ?_;exact d8 (kk-1) oM ⟨i+1,oM,oM,f1,f2,J,D,rfl,a8,S⟩
def Km(k:Nat)(ih:U7 142 true k):vd 141 142 true k:=by
 intro H lo va vb l m D O S hn hm;obtain⟨U,W,rfl⟩:=O.slice;obtain⟨X,bc,rfl⟩:=S.slice;have el:decide ((l.length:Int)=m.length)=decide (l.length=m.length):=wG.2 oM;rw[i7 Qn rfl _ sM];rcases b:decide (l.length=m.length)with _|_
 .exact J2 el b trivial
 .refine J2 el b ?_;refine i8 (F:=fun z=>t6 _ _ _ (t7 (inBlock 0 z) _)=_) (Ac k ih ⟨H.bs,H.n⟩ lo U X W bc l m (dT b) D (O.mono (fun _ _=>rfl) lR) (S.mono (fun _ _=>rfl) lR) hn (S9 l m) l.length _ _ ⟨0,rfl,oM,rfl,rfl,rfl,rfl,rfl,d9.refl _ _,rfl⟩) ?_;rintro o e' H' ⟨J,⟨E,I⟩|⟨E,h4,I⟩⟩
  .have h:=J.low lR;have u:H.n<=H'.low:=h;exact J2 E I trivial
  .have h:=J.low lR;have u:H.n<=H'.low:=h;exact J3 E h4 I trivial
def Py(k:Nat)(a1:vd 140 118 false k)(a2:vd 141 142 true k):U7 118 false (k+1):=by
 intro H lo c1 c2 x y a4 hx hy;obtain⟨s1,s2,s3⟩:=hx.plain rfl;obtain⟨u1,u2,u3⟩:=hy.plain rfl;obtain⟨va,W,wa,E,rfl,h1,h2,h3,h4⟩:=hx.path;obtain⟨vb,X,wb,I,rfl,k1,k2,k3,k4⟩:=hy.path;obtain⟨D,h⟩:=eY ((d7.push ⟨H.bs,H.n⟩ (bC [iV x.op,.slice va x.a.length W,.slice wa x.b.length E] 1)).push (bC [iV y.op,.slice vb y.a.length X,.slice wb y.b.length I] 1));have hS:d9 H.n H D:=by rw[h];exact(d9.first H _).trans (d9.push (by rw[i4];show H.n<=H.n+1;omega))
 have u:D.g H.n=cE [iV x.op,.slice va x.a.length W,.slice wa x.b.length E] 1:=by rw[h,j5 (by rw[i4];show H.n<H.n+1;omega)];exact j6
 have z:D.g (H.n+1)=cE [iV y.op,.slice vb y.a.length X,.slice wb y.b.length I] 1:=by rw[h];exact A4 (by rw[i4];show H.n+1<=H.n+1/\H.n+1<=H.n+1;omega)
 have a3:H.n<=D.low:=by rw[h,l9,l9];exact lR
 have hn:=hS.n;have S:∀j,j<lo->D.g j=H.g j:=fun j hj=>hS.g j oM;have J:=a1 D lo (.slice va x.a.length W) (.slice vb y.a.length X) x.a y.a oM (h1.mono S lR) (k1.mono S lR) h3 k3;have e2:=a2 D lo (.slice wa x.b.length E) (.slice wb y.b.length I) x.b y.b oM (h2.mono S lR) (k2.mono S lR) h4 k4;rw[i7 Wj rfl _ sM,jZ];have p1:(decide (x.sp=y.sp)&&decide (x.lc=y.lc))=true:=by rw[s1,s2,u1,u2];rfl
 have p2:decide (x.vl=y.vl)=true:=by rw[s3,u3];rfl
 rw[p1,p2];rcases O:decide (x.op=y.op)with _|_
 .exact J4 h.symm u z O trivial
 rcases U:decide (x.a.length=y.a.length)with _|_
 .rw[U]at J;exact J5 h.symm u z O J trivial
 rcases b5:S9 x.a y.a with _|_
 .rw[U,b5]at J;exact J5 h.symm u z O J trivial
 rw[U,b5]at J;exact J6 h.symm u z O J e2 trivial
def PA(k:Nat)(a1:vd 141 142 true k)(a2:vd 140 118 false k):U7 142 true (k+1):=by
 intro H lo c1 c2 x y a4 hx hy;obtain⟨va,W,wa,E,rfl,h1,h2,h3,h4,_⟩:=hx.filter;obtain⟨vb,X,wb,I,rfl,k1,k2,k3,k4,_⟩:=hy.filter;obtain⟨D,h⟩:=eY ((d7.push ⟨H.bs,H.n⟩ (bC [iV x.op,.string x.sp,.string x.lc,.string x.vl,.slice va x.a.length W,.slice wa x.b.length E] 1)).push (bC [iV y.op,.string y.sp,.string y.lc,.string y.vl,.slice vb y.a.length X,.slice wb y.b.length I] 1));have hS:d9 H.n H D:=by rw[h];exact(d9.first H _).trans (d9.push (by rw[i4];show H.n<=H.n+1;omega))
 have u:D.g H.n=cE [iV x.op,.string x.sp,.string x.lc,.string x.vl,.slice va x.a.length W,.slice wa x.b.length E] 1:=by rw[h,j5 (by rw[i4];show H.n<H.n+1;omega)];exact j6
 have z:D.g (H.n+1)=cE [iV y.op,.string y.sp,.string y.lc,.string y.vl,.slice vb y.a.length X,.slice wb y.b.length I] 1:=by rw[h];exact A4 (by rw[i4];show H.n+1<=H.n+1/\H.n+1<=H.n+1;omega)
 have a3:H.n<=D.low:=by rw[h,l9,l9];exact lR
 have hn:=hS.n;have S:∀j,j<lo->D.g j=H.g j:=fun j hj=>hS.g j oM;have O:=a1 D lo (.slice va x.a.length W) (.slice vb y.a.length X) x.a y.a oM (h1.mono S lR) (k1.mono S lR) h3 k3;have e2:=a2 D lo (.slice wa x.b.length E) (.slice wb y.b.length I) x.b y.b oM (h2.mono S lR) (k2.mono S lR) h4 k4;rw[i7 Wy rfl _ sM,jZ];rcases J:decide (x.op=y.op)with _|_
 .exact J4 h.symm u z J trivial
 rcases p1:(decide (x.sp=y.sp)&&decide (x.lc=y.lc))with _|_
 .exact J5 h.symm u z J p1 trivial
 rcases p2:decide (x.vl=y.vl)with _|_
 .exact J6 h.symm u z J p1 p2 trivial
 rcases U:decide (x.a.length=y.a.length)with _|_
 .rw[U]at O;exact J7 h.symm u z J p1 p2 O trivial
 rcases b5:S9 x.a y.a with _|_
 .rw[U,b5]at O;exact J7 h.symm u z J p1 p2 O trivial
 rw[U,b5]at O;exact J8 h.symm u z J p1 p2 O e2 trivial
def lL:∀k,U7 118 false k/\U7 142 true k:=by
 intro k;induction k with
 |zero=>exact⟨fun H lo c1 c2 x y u z D=>z.elim,fun H lo c1 c2 x y u z D=>z.elim⟩
 |succ k h=>exact⟨Py k (Kl k h.1) (Km k h.2),PA k (Km k h.2) (Kl k h.1)⟩
def Xe:=nfF 67 Tryz.f67 []
abbrev Vv:t5:=ptA Xe [1,1,1,0,1,0,0]
def Sp:=nfF 92 Tryz.f92 [0]
abbrev VT:t5:=ptA Sp [1,0,1,0,0]
abbrev VU:t5:=ptA Sp [1,1,1,0,0]
def WD:=nfF 148 Tryz.f148 []
end Go.Proofs.YtjlpdddmmnijoaaGreatDoor.Ve
namespace Go.Proofs.YtjlpdddmmnijoaaGreatDoor.Ve
open Go Go.RowKit
def sr(H:d7)(b:Nat)(B:Blk)(j:Nat):(H.put b B).g j=if j=b then(if j<H.n then some B else none) else H.g j:=by
 by_cases h:j=b
 .subst h;rw[bJ rfl];by_cases u:j<H.n
  .rw[bJ u,i9 u]
  .rw[bt u];have:(H.put j B).n<=j:=by rw[j9];omega
   exact yB this
 .rw[bt h,j7 (fun q=>h q.symm)]
def pU(H:d7)(B:Blk)(j:Nat):(H.push B).g j=if j=H.n then some B else H.g j:=by
 by_cases h:j=H.n
 .subst h;rw[bJ rfl];exact j6
 .rw[bt h];by_cases E:j<H.n
  .exact j5 E
  .have u:(H.push B).n<=j:=by rw[i4];omega
   have z:H.n<=j:=oM;have D:(H.push B).g j=none:=yB u;have I:H.g j=none:=yB z;rw[D,I]
def Av{H K:d7}(h:H.low=K.low)(u:∀j,H.g j=K.g j):H=K:=by
 obtain⟨a,b⟩:=H;obtain⟨c,d⟩:=K;simp only at h;subst h
 congr 1
 exact Fd u
def cU(w:aa3)(H:d7):d7:=
 match w with
 | .slice (some a) n c=>if c=n then H else H.put a.block .dead
 |_=>H
def bB(w:aa3)(H:d7):(cU w H).n=H.n:=by
 unfold cU;split
 .split
  .rfl
  .rw[j9]
 .rfl
def rx{P:Program}{t e:TypeId}{bytes lo sz n k:Nat}{z cs el:LV}{H:d7}{w:aa3}{a:Option Addr}(ht:P.underlying t=some (.slice e))(hs:D5 P e=some sz)(J:T1 P e=some bytes)(S:P8 P e=some z)(h0:0<sz)(h1:0<bytes)
  (h:eR H lo sz w n cs) (hx:B9 H sz (.slice a 1 k)=some el) (O:(n+1)*bytes<=140737488355328):
  C2 P H [t,t] w (.slice a 1 k)=some (.slice (some ⟨H.n,0,none⟩) (n+1) (n+1+1),some ((cU w H).push (.cells (cs++el) true sz))):=by
 have E:I3 P t=some e:=by simp [I3,ht]
 have u:R7 P H sz z (some t) (.slice a 1 k)=some (1,el):=by
  simp only[R7,pB,ht,hx,xg]
 have D:¬(sz=0\/bytes=0):=oM;rcases h with⟨rfl,rfl,rfl⟩|⟨b,c,rfl,W,a1,X⟩
 .simp only[C2,yC,pB,E,hs,J,S,pt,pA,bt D,u,cU];rw[bt oM,bJ (by simpa using O)];simp
 .have I:((cs.drop 0).take (n*sz))=cs:=by rw[lP,kC oM]
  by_cases U:c=n
  .simp only[C2,yC,pB,E,hs,J,S,pt,pA,bt D,u,W,I,cU,bJ U];rw[bt oM,bJ O,bJ (by simp;omega)]
  .simp only[C2,yC,pB,E,hs,J,S,pt,pA,bt D,u,W,I,cU,bt U];rw[bt oM,bJ O,bJ (by simp;omega),bJ trivial]
def Gv(H:d7)(w:aa3)(h:Nat)(z c1 c2 E I B1 J N:Blk)(U:h<H.n)(W:∀b,j8 w b->b<H.n/\b≠h) (hs:∀a n c,w= .slice (some a) n c->j8 w a.block):
  T5 H.n (((cU w ((((H.push z).put H.n c1).put H.n c2).push E)).push B1).put h N)=T5 H.n ((((cU w ((((H.push z).put H.n c2).put H.n c1).push I)).push J).put h N).put (H.n+2) B1):=by
 have key:(cU w=fun H=>H)\/∃b,b<H.n/\b≠h/\cU w=fun H=>H.put b .dead:=by
  cases w with
  |slice a n c=>
   cases a with
   |none=>left;rfl
   |some a=>
    by_cases D:c=n
    .left;funext H;simp [cU,D]
    .right
     have:=W _ (hs a n c rfl);exact⟨a.block,this.1,this.2,by funext H;simp [cU,D]⟩
  |_=>left;rfl
 rcases key with u|⟨b,O,S,u⟩
 .rw[u];refine Av ?_ fun j=>?_
  .simp only[T5,A9,l9];omega
  .simp only[T5,sr,pU,j9,i4]
   repeat' split
   all_goals first|rfl|omega
 .rw[u];refine Av ?_ fun j=>?_
  .simp only[T5,A9,l9];omega
  .simp only[T5,sr,pU,j9,i4]
   repeat' split
   all_goals first|rfl|omega
end Go.Proofs.YtjlpdddmmnijoaaGreatDoor.Ve
namespace Go.Proofs.YtjlpdddmmnijoaaGreatDoor.Ve
open Go Go.RowKit
open Go.Proofs.Tryz (prog)
def QR.upTo{H:d7}{lo k:Nat}{f:Bool}{cs:LV}{q:Q}(h:QR H lo k f cs q):∀{K:Nat},k<=K->QR H lo K f cs q:=by
 intro K;induction K with
 |zero=>
  intro D;have u:k=0:=oM;subst u;exact h
 |succ K I=>
  intro D;by_cases E:k<=K
  .exact(I E).up
  .have z:k=K+1:=oM;subst z;exact h
def eu(acc:List Q)(x:Q):List Q:=if acc.any (fun y=>R1 x y) then acc else acc++[x]
def XD(k:Nat)(H:d7)(lo W:Nat)(h el:LV)(x y:Q)(a2:lo<=H.n)(X:H.g W=cE h 1)(U:QR H lo k false h x)(I:QR H lo k false el y):
  CL prog l7 117 [.agg el.toArray,pT W] H=some (.bool (R1 x y),none):=by
 have a0:el.all oC=true:=I6 I;have u:=Q6 U;have z:=Q6 I;rw[U.len]at u;rw[I.len]at z;simp only[qSz,bF]at u z;obtain⟨J,D,-,g1,E⟩:=pushF H (bC el 1);have n1:=E.n;have S:=u6 X;have gx:J.g W=cE h 1:=(E.g _ S).trans X;have a1:H.n<=J.low:=by rw[D,l9];exact lR
 have O:=(lL k).1 J lo h el x y oM (U.mono (fun j hj=>E.g j oM) lR) (I.mono (fun j hj=>E.g j oM) lR);rw[i7 Wi rfl _ sM];exact J7 a0 D.symm g1 gx u z O trivial
structure lh(lo K pm:Nat)(w0:aa3)(acc0:List Q)(H0 H:d7)(acc:List Q):Prop where
 ex:∃w,H.g pm=cE [w] 1/\u5 H (pm+1) 3 (QR H0 lo K false) w acc/\((acc=acc0/\w=w0)\/H.low<=pm)/\(∀j,j<H0.n->j≠pm->¬j8 w0 j->H.g j=H0.g j)/\(∀b,j8 w b->j8 w0 b\/H0.n<=b)
 stay:d9 pm H0 H
def jn(fn:Nat)(f:Bool)(k:Nat):Prop:=∀(H:d7)(lo pm K:Nat)(w:aa3)(acc:List Q)(cs:LV)(q:Q),k<=K->lo<=pm->H.g pm=cE [w] 1->u5 H (pm+1) 3 (QR H lo K false) w acc->QR H lo k f cs q->OkD f q->acc.length+nQ q<=100000->
 Ret (CL prog l7 fn [pT pm,.agg cs.toArray] H) H fun v H1=>v=undef/\lh lo K pm w acc H H1 ((inQ f q).foldl eu acc)/\H1.low<=H.low
def fO(l:List Q):∀h:List Q,(l.foldl eu h).length<=h.length+l.length:=by
 induction l with
 |nil=>intro h;simp
 |cons x l u=>
  intro h;have:=u (eu h x);rw[sd,kO];have z:(eu h x).length<=h.length+1:=by unfold eu;split<;>simp
  omega
def sJ(f:Bool)(l:List Q)(i:Nat)(x:Q)(h:l.drop i=x::l.drop (i+1)):inL f (l.drop i)=inQ f x++inL f (l.drop (i+1)):=by rw[h,inL]
def SX(k:Nat)(ih:jn 65 false k)(H0:d7)(lo J K:Nat)(hk:k<=K)(b7:lo<=J)(w0:aa3)(z:List Q)(va:Option Addr)(ca:Nat)(l:List Q)(hv:QsR H0 lo k false (.slice va l.length ca) l)(hn:l.length<=1048576)(hw:∀x∈l,OkD false x) (p3:aa3) (a8:List Q):
  ∀kk e H2,(∃(i:Nat)(u:List Q),kk=l.length-i/\i<=l.length/\e.g 0=pT J/\e.g 3=p3/\e.g 9= .slice va l.length ca/\e.g 10=iV l.length/\e.g 11=iV i/\lh lo K J w0 z H0 H2 u/\u.length+nL (l.drop i)<=100000/\(inL false (l.drop i)).foldl eu u=a8)->
  u7 (LE prog l7 (.loop Vt) e H2) (fun o e H2=>o= .exit 0/\e.g 0=pT J/\e.g 3=p3/\lh lo K J w0 z H0 H2 a8):=by
 refine i5 _ _ ?_;rintro kk e H2 ⟨i,u,c4,hi,f0,f3,fL,fM,fJ,hM,D,fu⟩;rcases b:decide ((i:Int)<l.length)with _|_
 .have b2:=dF b;have:l.drop i=[]:=dN oM;rw[this,inL,yA]at fu;refine J3 fM fJ b ?_;exact i6 ⟨rfl,f0,f3,by rw[<-fu];exact hM⟩
 have b2:=dT b;obtain⟨⟨w,a3,hO,b8,a2,E⟩,hS⟩:=hM;have c7:=hS.n;have c8:=u6 a3;obtain⟨x,nb,o,cs,own,el,hx,hd,rfl,c6,hg,b6,I,hr⟩:=hv.row (i:=i) oM;have a5:=mG hx;have nt:(i:Int).toNat=i:=tN i;simp only[qSz,jd,bF]at I hg b6;rw[sJ _ _ _ _ hd,xo]at fu;have b4:u.length+(nQ x+nL (l.drop (i+1)))<=100000:=by rw[hd,nL]at D;exact D
 have a1:el.all oC=true:=I6 hr;have e1:=hr.len;simp only[qSz,jd,bF]at e1;have a6:=Q6 hr;rw[e1]at a6;have gx:=(hS.g nb oM).trans hg;obtain⟨H3,X,n3,g3,s3⟩:=pushP H2 (bC [iV 0,nS,nS] 1) (bC el 1);have l3:H3.low<=H2.low:=by rw[X,A9,l9];omega
 have b9:splice [iV 0,nS,nS] 0 el=el:=A0 _ _ (by rw[e1];rfl);have O:∀j,j<lo->H3.g j=H0.g j:=fun j hj=>by rw[s3.g j oM,hS.g j oM]
 have c0:∀{cs:LV}{q:Q},QR H3 lo K false cs q->QR H0 lo K false cs q:=fun h=>h.mono (fun j hj=>(O j hj).symm) lR;obtain⟨v4,h4,H4,b3,b5,rfl,⟨⟨w4,a9,b0,a4,S,U⟩,b1⟩,c5⟩:=ih H3 lo J K w u el x hk b7 ((s3.g J oM).trans a3) ((hO.keep s3).imp fun cs q h=>h.mono O lR) (hr.mono O lR) (hw x a5) oM;have W:∀j,j<H0.n->j≠J->¬j8 w0 j->H4.g j=H0.g j:=fun j hj h1 h2=>by
  rw[S j oM h1 (fun q=>by rcases E j q with r|r;exact h2 r;omega),s3.g j oM,a2 j hj h1 h2]
 have a7:∀b,j8 w4 b->j8 w0 b\/H0.n<=b:=fun b hb=>by
  rcases U b hb with r|r
  .exact E b r
  .exact .inr oM
 have hl:=fO (inQ false x) u;have c3:=(eA _ false x lR (hw x a5)).1;refine J17 f0 fL fM fJ b gx nt I a1 e1 b9 X.symm g3 a6 b3 b5 @wrap_small ?_;refine d8 (kk-1) oM ⟨i+1,_,oM,oM,f0,f3,fL,fM,rfl,⟨⟨w4,a9,b0.imp fun cs q h=>c0 h,?_,W,a7⟩,(hS.trans (s3.wk oM)).trans b1⟩,oM,fu⟩;rcases a4 with⟨q1,q2⟩|q
 .rcases b8 with⟨q3,q4⟩|q
  .exact .inl ⟨by rw[q1,q3],by rw[q2,q4]⟩
  .exact .inr oM
 .exact .inr q
def SY(k:Nat)(ih:jn 92 true k)(H0:d7)(lo J K:Nat)(hk:k<=K)(b7:lo<=J)(w0:aa3)(z:List Q)(va:Option Addr)(ca:Nat)(l:List Q)(hv:QsR H0 lo k true (.slice va l.length ca) l)(hn:l.length<=1048576)(hw:∀x∈l,OkD true x) (p3:aa3) (a8:List Q):
  ∀kk e H2,(∃(i:Nat)(u:List Q),kk=l.length-i/\i<=l.length/\e.g 0=pT J/\e.g 3=p3/\e.g 20= .slice va l.length ca/\e.g 21=iV l.length/\e.g 22=iV i/\lh lo K J w0 z H0 H2 u/\u.length+nL (l.drop i)<=100000/\(inL true (l.drop i)).foldl eu u=a8)->
  u7 (LE prog l7 (.loop Vu) e H2) (fun o e H2=>o= .exit 2/\e.g 0=pT J/\e.g 3=p3/\lh lo K J w0 z H0 H2 a8):=by
 refine i5 _ _ ?_;rintro kk e H2 ⟨i,u,c4,hi,f0,f3,fL,fM,fJ,hM,D,fu⟩;rcases b:decide ((i:Int)<l.length)with _|_
 .have b2:=dF b;have:l.drop i=[]:=dN oM;rw[this,inL,yA]at fu;refine J3 fM fJ b ?_;exact i6 ⟨rfl,f0,f3,by rw[<-fu];exact hM⟩
 have b2:=dT b;obtain⟨⟨w,a3,hO,b8,a2,E⟩,hS⟩:=hM;have c7:=hS.n;have c8:=u6 a3;obtain⟨x,nb,o,cs,own,el,hx,hd,rfl,c6,hg,b6,I,hr⟩:=hv.row (i:=i) oM;have a5:=mG hx;have nt:(i:Int).toNat=i:=tN i;simp only[qSz,jd,bF]at I hg b6;rw[sJ _ _ _ _ hd,xo]at fu;have b4:u.length+(nQ x+nL (l.drop (i+1)))<=100000:=by rw[hd,nL]at D;exact D
 have a1:el.all oC=true:=I6 hr;have e1:=hr.len;simp only[qSz,jd,bF]at e1;have a6:=Q6 hr;rw[e1]at a6;have gx:=(hS.g nb oM).trans hg;obtain⟨H3,X,n3,g3,s3⟩:=pushP H2 (bC [iV 0,.string eB,.string eB,.string eB,nS,nS] 1) (bC el 1);have l3:H3.low<=H2.low:=by rw[X,A9,l9];omega
 have b9:splice [iV 0,.string eB,.string eB,.string eB,nS,nS] 0 el=el:=A0 _ _ (by rw[e1];rfl);have O:∀j,j<lo->H3.g j=H0.g j:=fun j hj=>by rw[s3.g j oM,hS.g j oM]
 have c0:∀{cs:LV}{q:Q},QR H3 lo K false cs q->QR H0 lo K false cs q:=fun h=>h.mono (fun j hj=>(O j hj).symm) lR;obtain⟨v4,h4,H4,b3,b5,rfl,⟨⟨w4,a9,b0,a4,S,U⟩,b1⟩,c5⟩:=ih H3 lo J K w u el x hk b7 ((s3.g J oM).trans a3) ((hO.keep s3).imp fun cs q h=>h.mono O lR) (hr.mono O lR) (hw x a5) oM;have W:∀j,j<H0.n->j≠J->¬j8 w0 j->H4.g j=H0.g j:=fun j hj h1 h2=>by
  rw[S j oM h1 (fun q=>by rcases E j q with r|r;exact h2 r;omega),s3.g j oM,a2 j hj h1 h2]
 have a7:∀b,j8 w4 b->j8 w0 b\/H0.n<=b:=fun b hb=>by
  rcases U b hb with r|r
  .exact E b r
  .exact .inr oM
 have hl:=fO (inQ true x) u;have c3:=(eA _ true x lR (hw x a5)).1;refine J17 f0 fL fM fJ b gx nt I a1 e1 b9 X.symm g3 a6 b3 b5 @wrap_small ?_;refine d8 (kk-1) oM ⟨i+1,_,oM,oM,f0,f3,fL,fM,rfl,⟨⟨w4,a9,b0.imp fun cs q h=>c0 h,?_,W,a7⟩,(hS.trans (s3.wk oM)).trans b1⟩,oM,fu⟩;rcases a4 with⟨q1,q2⟩|q
 .rcases b8 with⟨q3,q4⟩|q
  .exact .inl ⟨by rw[q1,q3],by rw[q2,q4]⟩
  .exact .inr oM
 .exact .inr q
def SZ(k:Nat)(ih:jn 92 true k)(H0:d7)(lo J K:Nat)(hk:k<=K)(b7:lo<=J)(w0:aa3)(z:List Q)(va:Option Addr)(ca:Nat)(l:List Q)(hv:QsR H0 lo k true (.slice va l.length ca) l)(hn:l.length<=1048576)(hw:∀x∈l,OkD true x) (p3:aa3) (a8:List Q):
  ∀kk e H2,(∃(i:Nat)(u:List Q),kk=l.length-i/\i<=l.length/\e.g 0=pT J/\e.g 3=p3/\e.g 9= .slice va l.length ca/\e.g 10=iV l.length/\e.g 11=iV i/\lh lo K J w0 z H0 H2 u/\u.length+nL (l.drop i)<=100000/\(inL true (l.drop i)).foldl eu u=a8)->
  u7 (LE prog l7 (.loop VT) e H2) (fun o e H2=>o= .exit 0/\e.g 0=pT J/\e.g 3=p3/\lh lo K J w0 z H0 H2 a8):=by
 refine i5 _ _ ?_;rintro kk e H2 ⟨i,u,c4,hi,f0,f3,fL,fM,fJ,hM,D,fu⟩;rcases b:decide ((i:Int)<l.length)with _|_
 .have b2:=dF b;have:l.drop i=[]:=dN oM;rw[this,inL,yA]at fu;refine J3 fM fJ b ?_;exact i6 ⟨rfl,f0,f3,by rw[<-fu];exact hM⟩
 have b2:=dT b;obtain⟨⟨w,a3,hO,b8,a2,E⟩,hS⟩:=hM;have c7:=hS.n;have c8:=u6 a3;obtain⟨x,nb,o,cs,own,el,hx,hd,rfl,c6,hg,b6,I,hr⟩:=hv.row (i:=i) oM;have a5:=mG hx;have nt:(i:Int).toNat=i:=tN i;simp only[qSz,jd,bF]at I hg b6;rw[sJ _ _ _ _ hd,xo]at fu;have b4:u.length+(nQ x+nL (l.drop (i+1)))<=100000:=by rw[hd,nL]at D;exact D
 have a1:el.all oC=true:=I6 hr;have e1:=hr.len;simp only[qSz,jd,bF]at e1;have a6:=Q6 hr;rw[e1]at a6;have gx:=(hS.g nb oM).trans hg;obtain⟨H3,X,n3,g3,s3⟩:=pushP H2 (bC [iV 0,.string eB,.string eB,.string eB,nS,nS] 1) (bC el 1);have l3:H3.low<=H2.low:=by rw[X,A9,l9];omega
 have b9:splice [iV 0,.string eB,.string eB,.string eB,nS,nS] 0 el=el:=A0 _ _ (by rw[e1];rfl);have O:∀j,j<lo->H3.g j=H0.g j:=fun j hj=>by rw[s3.g j oM,hS.g j oM]
 have c0:∀{cs:LV}{q:Q},QR H3 lo K false cs q->QR H0 lo K false cs q:=fun h=>h.mono (fun j hj=>(O j hj).symm) lR;obtain⟨v4,h4,H4,b3,b5,rfl,⟨⟨w4,a9,b0,a4,S,U⟩,b1⟩,c5⟩:=ih H3 lo J K w u el x hk b7 ((s3.g J oM).trans a3) ((hO.keep s3).imp fun cs q h=>h.mono O lR) (hr.mono O lR) (hw x a5) oM;have W:∀j,j<H0.n->j≠J->¬j8 w0 j->H4.g j=H0.g j:=fun j hj h1 h2=>by
  rw[S j oM h1 (fun q=>by rcases E j q with r|r;exact h2 r;omega),s3.g j oM,a2 j hj h1 h2]
 have a7:∀b,j8 w4 b->j8 w0 b\/H0.n<=b:=fun b hb=>by
  rcases U b hb with r|r
  .exact E b r
  .exact .inr oM
 have hl:=fO (inQ true x) u;have c3:=(eA _ true x lR (hw x a5)).1;refine J17 f0 fL fM fJ b gx nt I a1 e1 b9 X.symm g3 a6 b3 b5 @wrap_small ?_;refine d8 (kk-1) oM ⟨i+1,_,oM,oM,f0,f3,fL,fM,rfl,⟨⟨w4,a9,b0.imp fun cs q h=>c0 h,?_,W,a7⟩,(hS.trans (s3.wk oM)).trans b1⟩,oM,fu⟩;rcases a4 with⟨q1,q2⟩|q
 .rcases b8 with⟨q3,q4⟩|q
  .exact .inl ⟨by rw[q1,q3],by rw[q2,q4]⟩
  .exact .inr oM
 .exact .inr q
def inB(l:List Q):List Q:=l.flatMap fun x=>inQ false x++[x]
def Bu(cs:LV)(x y z a b c:aa3):splice (cs++[x,y,z]) cs.length [a,b,c]=cs++[a,b,c]:=by
 simp only[splice];rw[Ln _ _ oM,Ln _ _ oM,Ln _ _ oM];rw[show cs.length-cs.length=0 from oM,show cs.length+1-cs.length=1 from oM,show cs.length+1+1-cs.length=2 from oM];rfl
def Ta(k:Nat)(ih:jn 65 false k)(H0:d7)(lo D K:Nat)(hk:k<=K)(k7:lo<=D)(w0:aa3)(a5:List Q)(va:Option Addr)(ca:Nat)(l:List Q)(hv:QsR H0 lo k false (.slice va l.length ca) l)(hn:l.length<=1048576)(hw:∀x∈l,OkD false x) (i1:List Q):
  ∀kk e H2,(∃(i:Nat)(U:List Q),kk=l.length-i/\i<=l.length/\e.g 0=pT D/\e.g 20= .slice va l.length ca/\e.g 21=iV l.length/\e.g 22=iV i/\lh lo K D w0 a5 H0 H2 U/\U.length+nL (l.drop i)<=100000/\(inB (l.drop i)).foldl eu U=i1)->
  u7 (LE prog l7 (.loop VU) e H2) (fun o e H2=>o= .exit 2/\lh lo K D w0 a5 H0 H2 i1):=by
 refine i5 _ _ ?_;rintro kk e H2 ⟨i,U,m9,hi,f0,fL,fM,fJ,hM,c6,fu⟩;rcases b:decide ((i:Int)<l.length)with _|_
 .have k2:=dF b;have:l.drop i=[]:=dN oM;rw[this,inB,Fc,yA]at fu;refine J3 fM fJ b ?_;exact i6 ⟨rfl,by rw[<-fu];exact hM⟩
 have k2:=dT b;obtain⟨⟨w,g9,hO,k8,g6,c7⟩,hS⟩:=hM;have n2:=hS.n;have n5:=u6 g9;obtain⟨x,nb,o,cs,own,el,hx,hd,rfl,n1,hg,k5,b6,hr⟩:=hv.row (i:=i) oM;have h7:=mG hx;have nt:(i:Int).toNat=i:=tN i;simp only[qSz,jd,bF]at b6 hg k5;rw[hd,inB,vM,xo,xo,sd,yA]at fu;have k3:U.length+(nQ x+nL (l.drop (i+1)))<=100000:=by rw[hd,nL]at c6;exact c6
 have a1:el.all oC=true:=I6 hr;have e1:=hr.len;simp only[qSz,jd,bF]at e1;have e3:=Q6 hr;rw[e1]at e3;have gx:=(hS.g nb oM).trans hg;obtain⟨H3,d3,n3,g3,s3⟩:=pushP H2 (bC [iV 0,nS,nS] 1) (bC el 1);have l3:H3.low<=H2.low:=by rw[d3,A9,l9];omega
 have i2:splice [iV 0,nS,nS] 0 el=el:=A0 _ _ (by rw[e1];rfl);have b7:∀j,j<lo->H3.g j=H0.g j:=fun j S=>by rw[s3.g j oM,hS.g j oM]
 have m3:∀{cs:LV}{q:Q},QR H3 lo K false cs q->QR H0 lo K false cs q:=fun h=>h.mono (fun j S=>(b7 j S).symm) lR;obtain⟨v4,h4,z,g7,g8,rfl,⟨⟨w4,O,g1,c8,b4,b5⟩,d4⟩,n0⟩:=ih H3 lo D K w U el x hk k7 ((s3.g D oM).trans g9) ((hO.keep s3).imp fun cs q h=>h.mono b7 lR) (hr.mono b7 lR) (hw x h7) oM;have c3:∀j,j<H0.n->j≠D->¬j8 w0 j->z.g j=H0.g j:=fun j S h1 h2=>by
  rw[b4 j oM h1 (fun q=>by rcases c7 j q with r|r;exact h2 r;omega),s3.g j oM,g6 j S h1 h2]
 have c9:∀b,j8 w4 b->j8 w0 b\/H0.n<=b:=fun b hb=>by
  rcases b5 b hb with r|r
  .exact c7 b r
  .exact .inr oM
 have hl:=fO (inQ false x) U;have m8:=(eA _ false x lR (hw x h7)).1;obtain⟨u,d5⟩:=eY ((inQ false x).foldl eu U);rw[<-d5]at fu g1 c8 hl;have n4:=d4.n;have g4:z.g H2.n=cE el 1:=(b4 _ oM oM (fun q=>by have:=hO.lt q;omega)).trans g3;have e9:∀j,j<lo->z.g j=H0.g j:=fun j S=>by rw[d4.g j oM,b7 j S]
 have E:u5 z (D+1) 3 (QR H0 lo K false) w4 u:=g1.imp fun cs q h=>m3 h;have h3:(u=a5/\w4=w0)\/z.low<=D:=by
  rcases c8 with⟨q1,q2⟩|q
  .rcases k8 with⟨q3,q4⟩|q
   .exact .inl ⟨by rw[q1,q3],by rw[q2,q4]⟩
   .exact .inr oM
  .exact .inr q
 have c5:=(hS.trans (s3.wk oM)).trans d4;obtain⟨a4,c4,f1⟩:=E.slice;have X:=sF (α:=Q) z (· <z.n) (QR z lo K false) (.func (.func 117) #[] #[pT H2.n]) (fun y=>R1 x y) w4 u ((E.frz fun b hb=>(E.lt hb).2).mono (fun _ _=>rfl) (fun _ h=>h) (fun _ _ h=>h.mono e9 lR)) oM (fun i y i3 hy k9=>XD K _ lo H2.n el i3 x y (show lo<=z.n from oM) g4 ((hr.upTo hk).mono (H':=⟨z.bs,z.n⟩) (fun j S=>e9 j S) lR) (k9.mono (H:=z) (H':=⟨z.bs,z.n⟩) (fun _ _=>rfl) lR));rcases b2:u.any (fun y=>R1 x y)with _|_
 .rw[b2]at X;have b3:eu u x=u++[x]:=by rw[eu,b2];rfl
  rw[b3]at fu;have g2:=E;obtain⟨J,d2,g5⟩:=g2;obtain⟨K0,b0⟩:=eY (((z.push (bC [.bool false] 1)).put z.n (bC [.bool true] 1)).put z.n (bC [.bool false] 1));obtain⟨J0,a6⟩:=eY (((z.push (bC [.bool false] 1)).put z.n (bC [.bool false] 1)).put z.n (bC [.bool true] 1));have l5:K0.n=z.n+1:=by rw[b0,j9,j9,i4]
  have l1:J0.n=z.n+1:=by rw[a6,j9,j9,i4]
  have e7:d9 z.n z K0:=by rw[b0];exact((d9.push lR).trans (d9.put lR)).trans (d9.put lR)
  have e6:d9 z.n z J0:=by rw[a6];exact((d9.push lR).trans (d9.put lR)).trans (d9.put lR)
  have j1:K0.g z.n=cE [.bool false] 1:=by rw[b0];exact i9 (by rw[j9,i4];omega)
  have j0:J0.g z.n=cE [.bool true] 1:=by rw[a6];exact i9 (by rw[j9,i4];omega)
  have I:=u6 O;have f4:=(e7.g D I).trans O;have f2:=(e6.g D I).trans O;have f9:=(e7.g H2.n oM).trans g4;have m5:=(e6.g H2.n oM).trans g4;obtain⟨K1,b1⟩:=eY (K0.push (bC el 3));obtain⟨J1,a7⟩:=eY (J0.push (bC [iV 0,nS,nS] 3));have e5:K1.n=z.n+2:=by rw[b1,i4,l5]
  have e4:J1.n=z.n+2:=by rw[a7,i4,l1]
  have c0:d9 z.n z K1:=by rw[b1];exact e7.trans (d9.push oM)
  have b9:d9 z.n z J1:=by rw[a7];exact e6.trans (d9.push oM)
  have f5:=(c0.g D I).trans O;have m4:=(b9.g D I).trans O;have m6:=(b9.g H2.n oM).trans g4;have m1:B9 K1 3 (sL K0.n 1 1)=some el:=by
   have:K1.g K0.n=cE el 3:=by rw[b1];exact j6
   simp only[B9,this,e1];simp [kC (by omega:el.length<=3)]
  have m0:B9 J1 3 (sL J0.n 1 1)=some [iV 0,nS,nS]:=by
   have:J1.g J0.n=cE [iV 0,nS,nS] 3:=by rw[a7];exact j6
   simp only[B9,this];simp
  have d1:=rx (P:=prog) (t:=33) (by exact qJ.2.2.2.2.2.2) cd.1 cd.2.1 cd.2.2.1 oM oM (d2.mono (H':=K1) lR (fun j S=>c0.g j S)) m1 oM;have d0:=rx (P:=prog) (t:=33) (by exact qJ.2.2.2.2.2.2) cd.1 cd.2.1 cd.2.2.1 oM oM (d2.mono (H':=J1) lR (fun j S=>b9.g j S)) m0 oM;obtain⟨K2,a3⟩:=eY ((cU w4 K1).push (bC (J++el) 3));obtain⟨J2,a8⟩:=eY ((cU w4 J1).push (bC (J++[iV 0,nS,nS]) 3));rw[<-a3,e5]at d1;rw[<-a8,e4]at d0;have a2:J.length=u.length*3:=g5.1;have h6:∀b,j8 w4 b->b<z.n/\b≠D:=fun b hb=>oN (E.lt hb);have e2:∀a n c,w4= .slice (some a) n c->j8 w4 a.block:=fun a n c h=>by
   rcases d2 with⟨q,_⟩|⟨b,c',q,_⟩
   .rw[q]at h;cases h
   .rw[q]at h ⊢;cases h;exact⟨_,_,rfl⟩
  have kW:∀(H:d7) j,j<H.n->¬j8 w4 j->(cU w4 H).g j=H.g j:=fun H j S hb=>by
   unfold cU;split
   .rename_i a n c;split
    .rfl
    .rw[j7 (fun q=>hb (by rw[<-q];exact e2 a n c rfl))]
   .rfl
  have l6:K2.n=z.n+3:=by rw[a3,i4,bB,e5]
  have l4:J2.n=z.n+3:=by rw[a8,i4,bB,e4]
  have i0:∀j,j<z.n->¬j8 w4 j->K2.g j=z.g j:=fun j S hb=>by rw[a3,j5 (by rw[bB];omega),kW K1 j oM hb,c0.g j S]
  have h9:∀j,j<z.n->¬j8 w4 j->J2.g j=z.g j:=fun j S hb=>by rw[a8,j5 (by rw[bB];omega),kW J1 j oM hb,b9.g j S]
  have h8:¬j8 w4 D:=fun q=>(h6 D q).2 rfl;have l8:¬j8 w4 H2.n:=fun q=>by
   rcases b5 _ q with r|r
   .have:=hO.lt r;omega
   .omega
  have f6:=(i0 D I h8).trans O;have f3:=(h9 D I h8).trans O;obtain⟨w5,d6⟩:=eY (Value.slice (sP (z.n+2)) (u.length+1) (u.length+1+1));obtain⟨K3,W⟩:=eY (K2.put D (bC [sL (z.n+2) (u.length+1) (u.length+1+1)] 1));obtain⟨J3,a9⟩:=eY (J2.put D (bC [sL (z.n+2) (u.length+1) (u.length+1+1)] 1));have n8:K3.n=z.n+3:=by rw[W,j9,l6]
  have n7:J3.n=z.n+3:=by rw[a9,j9,l4]
  have f8:J3.g H2.n=cE el 1:=by rw[a9,j7 oM,h9 _ oM l8];exact g4
  have f7:J3.g (z.n+2)=cE (J++[iV 0,nS,nS]) 3:=by
   rw[a9,j7 oM,a8,A4 (by rw[bB,e4];omega)]
  have m2:splice (J++[iV 0,nS,nS]) (u.length*3) el=J++el:=by
   rw[<-a2]
   match el,e1 with
   |[a,b,c],_=>exact Bu _ _ _ _ _ _ _
  obtain⟨J4,g0⟩:=eY (J3.put (z.n+2) (bC (J++el) 3));have k4:T5 z.n K3=T5 z.n J4:=by
   rw[W,a3,b1,b0,g0,a9,a8,a7,a6];exact Gv z w4 D _ _ _ _ _ _ _ _ I h6 e2
  have h0:=eq_true k4;have nl:(u.length:Int).toNat=u.length:=xA _;have lz:(J++[iV 0,nS,nS]).length=u.length*3+3:=by simp [a2]
  have m7:decide ((u.length:Int)<((u.length+1:Nat):Int))=true:=ib oM;have n6:(0:Int)<=u.length:=oM;have e8:bsA prog (some 36) K0 1 [(0,.agg el.toArray)]=some (sL K0.n 1 1,K1):=by
   rw[b1];cases k with
   |zero=>exact hr.elim
   |succ k=>obtain⟨_,_,_,_,rfl,_⟩:=hr.path;simp only[E4,cd,E5];rfl
  rw[f1]at X d1 d0;refine J30 f0 fL fM fJ b gx nt b6 a1 e1 i2 d3.symm g3 e3 g7 g8 O (aI X b0.symm) (aI a6.symm j1) (aI j0 f4) (aI f2 f9) (aI a7.symm e8) (aI f5 f1) (aI d1 d0) (aI f6 f3) (aI W.symm a9.symm) (aI f8 f7) (aI nl lz) (aI m2 g0.symm) (aI h0 @wrap_small) ?_;obtain⟨Kf,b8⟩:=eY (T5 z.n K3);rw[<-b8];have gf:∀j,j≠z.n->j≠z.n+1->Kf.g j=K3.g j:=fun j h1 h2=>by rw[b8,T5,j7 (fun q=>h2 q.symm),j7 (fun q=>h1 q.symm)]
  have j2:∀j,j<z.n->j≠D->¬j8 w4 j->Kf.g j=z.g j:=fun j S h1 h2=>by rw[gf j oM oM,W,j7 (fun q=>h1 q.symm),i0 j S h2]
  have j4:Kf.g D=cE [w5] 1:=by rw[gf D oM oM,W,d6];exact i9 oM
  have j3:Kf.g (z.n+2)=cE (J++el) 3:=by
   rw[gf _ oM oM,W,j7 oM,a3,A4 (by rw[bB,e5];omega)]
  have h5:d9 D K1 (cU w4 K1):=by
   unfold cU;split
   .rename_i a n c;split
    .exact d9.refl _ _
    .exact d9.put (oN (E.lt (e2 a n c rfl)))
   .exact d9.refl _ _
  have k1:d9 D z Kf:=by
   rw[b8,T5,W,a3];exact(((((c0.wk oM).trans h5).trans (d9.push (by rw[bB];omega))).trans (d9.put lR)).trans (d9.put oM)).trans (d9.put oM)
  have k6:Kf.low<=D:=by rw[b8,T5,A9,A9,W,A9];omega
  have k0:u5 Kf (D+1) 3 (QR H0 lo K false) w5 (u++[x]):=⟨J++el,.inr ⟨z.n+2,u.length+1+1,by rw[d6];simp,j3,oM,by simp [a2,e1];omega⟩,g5.append (F1.one e1 (hr.upTo hk))⟩
  refine d8 (kk-1) oM ⟨i+1,u++[x],oM,oM,f0,fL,fM,rfl,⟨⟨w5,j4,k0,.inr k6,fun j S h1 h2=>?_,fun b hb=>?_⟩,c5.trans k1⟩,by rw[dx,vV];omega,fu⟩
  .rw[j2 j oM h1 (fun q=>by rcases c9 j q with r|r;exact h2 r;omega),c3 j S h1 h2]
  .rw[d6,P3]at hb;exact .inr oM
 .rw[b2]at X;have b3:eu u x=u:=by rw[eu,b2];rfl
  rw[b3]at fu;refine J19 f0 fL fM fJ b gx nt b6 a1 e1 i2 d3.symm g3 e3 g7 g8 O X @wrap_small ?_;exact d8 (kk-1) oM ⟨i+1,u,oM,oM,f0,fL,fM,rfl,⟨⟨w4,O,E,h3,c3,c9⟩,c5⟩,oM,fu⟩
def lh.low{lo K E:Nat}{w0:aa3}{u z:List Q}{H0 H:d7}(h:lh lo K E w0 u H0 H z)(n:Nat)(X:n<=H.low)(W:∀k,k<=E->k<=H0.low->k<=n):lh lo K E w0 u H0 ⟨H.bs,n⟩ z:=by
 obtain⟨⟨w,J,O,D,S,U⟩,I⟩:=h;refine⟨⟨w,J,O.low n,?_,S,U⟩,I.n,W,I.g⟩;rcases D with D|D
 .exact .inl D
 .exact .inr (HE X D)
def Fk{lo K I:Nat}{w:aa3}{E z:List Q}{H D H':d7}(u:d9 H.n H D)(W:H.n<=D.low)(a2:lo<=I)(a3:I<H.n)(hg:H.g I=cE [w] 1)(hO:u5 H (I+1) 3 (QR H lo K false) w E)(h:lh lo K I w E D H' z):
  Ret (some (F7 undef H H')) H fun v D=>v=undef/\lh lo K I w E H D z/\D.low<=H.low:=by
 have n1:=u.n;obtain⟨⟨w',h1,h2,J,h4,h5⟩,S⟩:=h;have a1:∀cs q,QR D lo K false cs q->QR H lo K false cs q:=fun _ _ h=>h.mono (fun j O=>(u.g j oM).symm) lR;refine E1 (fun _ hl=>⟨rfl,?_,lR⟩) ⟨rfl,?_,by show min H.low H'.low<=H.low;omega⟩
 .rcases J with⟨X,q2⟩|q
  .rw[X];exact⟨⟨w,hg,hO,.inl ⟨rfl,rfl⟩,fun _ _ _ _=>rfl,fun b U=> .inl U⟩,d9.refl _ _⟩
  .omega
 .have hn:=S.n;refine⟨⟨w',h1,(h2.imp a1).low _,?_,fun j O X q2=>?_,fun b U=>?_⟩,by show H.n<=H'.n;omega,fun k hk q=>?_,fun j O=>?_⟩
  .rcases J with J|J
   .exact .inl J
   .exact .inr (by show min H.low H'.low<=I;omega)
  .show H'.g j=H.g j;rw[h4 j oM X q2,u.g j O]
  .rcases h5 b U with r|r
   .exact .inl r
   .exact .inr oM
  .have:=S.lowAll k hk oM;show k<=min H.low H'.low;omega
  .show H'.g j=H.g j;rw[S.g j O,u.g j oM]
def OA{l:List Q}(h:l.length<=1):inL false l++l=inB l:=by
 match l,h with
 |[],_=>rfl
 |[x],_=>simp [inB,inL]
def Xy(k:Nat)(a5:jn 65 false k)(a6:jn 92 true k):jn 65 false (k+1):=by
 intro H lo pm K w u cs q hk I E hO hr a4 a9;obtain⟨X,a7,_⟩:=a4.parts;have b4:=jr q;have W:=u6 E;obtain⟨va,ca,wa,D,rfl,h1,h2,h3,h4⟩:=hr.path;obtain⟨J,O,-,hg,S⟩:=pushF H (bC [iV q.op,.slice va q.a.length ca,.slice wa q.b.length D] 1);have U:H.n<=J.low:=by rw[O,l9];exact lR
 have hn:=S.n;have b3:=u6 hg;have hm:∀j,j<lo->J.g j=H.g j:=fun j hj=>S.g j oM;have a8:lh lo K pm w u J J u:=⟨⟨w,(S.g pm W).trans E,(hO.keep S).imp fun _ _ h=>h.mono hm lR,.inl ⟨rfl,rfl⟩,fun _ _ _ _=>rfl,fun _ h=> .inl h⟩,d9.refl _ _⟩
 rw[i7 Si rfl _ sM,sK];refine J2 O.symm hg ?_;refine i8 (F:=fun z=>Ret (t6 _ _ _ (t7 (inBlock 0 z) _)) _ _) (SX k a5 J lo pm K oM I w u va ca q.a (h1.mono hm lR) h3 X (pT H.n) ((inL false q.a).foldl eu u) q.a.length _ _ ⟨0,u,rfl,oM,rfl,rfl,rfl,rfl,rfl,a8,by rw[lP];omega,rfl⟩) ?_;rintro o e' H2 ⟨ho,g0,g3,hM⟩;have a2:=hM.stay;have b2:=a2.n;have a3:H2.g H.n=cE [iV q.op,.slice va q.a.length ca,.slice wa q.b.length D] 1:=by
  obtain⟨w',_,_,_,hb,_⟩:=hM.ex;exact(hb H.n oM oM (fun q=>by have:=hO.lt q;omega)).trans hg
 have b1:=fO (inL false q.a) u;have b0:(inL false q.a).length<=nL q.a:=by
  have:=nj q.a (inQ false) fun x hx=>(eA _ false x lR (X x hx)).1;rw[iT];omega
 refine J3 ho g3 a3 ?_;refine i8 (F:=fun z=>Ret (t6 _ _ _ (inBlock 2 z)) _ _) (SY k a6 J lo pm K oM I w u wa D q.b (h2.mono hm lR) h4 a7 (pT H.n) ((inL false q.a++inL true q.b).foldl eu u) q.b.length _ _ ⟨0,_,rfl,oM,g0,g3,rfl,rfl,rfl,hM,by rw[lP];omega,by rw[lP,xo]⟩) ?_;rintro o e' H3 ⟨ho,g0,g3,a1⟩;refine J1 ho ?_;exact Fk S U I W E hO a1
def SL(q:Q)(h:OkD true q):inQ true q=inL true q.a++inB q.b:=by
 obtain⟨_,_,_,_,D⟩:=h.parts;have u:=(gJ D).2.2;simp only[jd]at u;rw[lZ];by_cases z:q.op=11
 .rw[bJ z,OA u.2]
 .rw[bt z];have:q.b=[]:=by
   have E:=u.2;have I:¬q.b.length=1:=fun r=>z (u.1.2 r);exact pF.1 oM
  rw[this];rfl
def Xz(k:Nat)(a7:jn 92 true k)(a8:jn 65 false k):jn 92 true (k+1):=by
 intro H lo pm K w u cs q hk O J hO hr a1 b1;rw[SL q a1];obtain⟨a3,a9,_⟩:=a1.parts;have b6:=jr q;have a2:=u6 J;obtain⟨va,ca,wa,I,rfl,h1,h2,h3,h4,_⟩:=hr.filter;obtain⟨E,D⟩:=eY ([iV q.op,.string q.sp,.string q.lc,.string q.vl,.slice va q.a.length ca,.slice wa q.b.length I]:LV);obtain⟨S,U,-,hg,W⟩:=pushF H (bC E 1);have X:H.n<=S.low:=by rw[U,l9];exact lR
 have hn:=W.n;have b5:=u6 hg;have r4:E[4]?=some (.slice va q.a.length ca):=by rw[D];rfl
 have r5:E[5]?=some (.slice wa q.b.length I):=by rw[D];rfl
 have ar:E.all oC=true:=by rw[D];rfl
 have lr:E.length=6:=by rw[D];rfl
 rw[<-D];have hm:∀j,j<lo->S.g j=H.g j:=fun j hj=>W.g j oM;have b0:lh lo K pm w u S S u:=⟨⟨w,(W.g pm a2).trans J,(hO.keep W).imp fun _ _ h=>h.mono hm lR,.inl ⟨rfl,rfl⟩,fun _ _ _ _=>rfl,fun _ h=> .inl h⟩,d9.refl _ _⟩
 rw[i7 Sp rfl _ sM];refine J4 ar U.symm hg r4 ?_;refine i8 (F:=fun z=>Ret (t6 _ _ _ (t7 (inBlock 0 z) _)) _ _) (SZ k a7 S lo pm K oM O w u va ca q.a (h1.mono hm lR) h3 a3 (pT H.n) ((inL true q.a).foldl eu u) q.a.length _ _ ⟨0,u,rfl,oM,rfl,rfl,rfl,rfl,rfl,b0,by rw[lP];omega,rfl⟩) ?_;rintro o e' H2 ⟨ho,g0,g3,hM⟩;have a5:=hM.stay;have b4:=a5.n;have a6:H2.g H.n=cE E 1:=by
  obtain⟨w',_,_,_,hb,_⟩:=hM.ex;exact(hb H.n oM oM (fun q=>by have:=hO.lt q;omega)).trans hg
 have b3:=fO (inL true q.a) u;have b2:(inL true q.a).length<=nL q.a:=by
  have:=nj q.a (inQ true) fun x hx=>(eA _ true x lR (a3 x hx)).1;rw[iT];omega
 refine J4 ho g3 a6 r5 ?_;refine i8 (F:=fun z=>Ret (t6 _ _ _ (inBlock 2 z)) _ _) (Ta k a8 S lo pm K oM O w u wa I q.b (h2.mono hm lR) h4 a9 ((inL true q.a++inB q.b).foldl eu u) q.b.length _ _ ⟨0,_,rfl,oM,g0,rfl,rfl,rfl,hM,by rw[lP];omega,by rw[lP,xo]⟩) ?_;rintro o e' H3 ⟨ho,a4⟩;refine J1 ho ?_;exact Fk W X O a2 J hO a4
def ON:∀k,jn 65 false k/\jn 92 true k:=by
 intro k;induction k with
 |zero=>exact⟨fun H lo D K w u cs q _ _ _ _ z=>z.elim,fun H lo D K w u cs q _ _ _ _ z=>z.elim⟩
 |succ k h=>exact⟨Xy k h.1 h.2,Xz k h.2 h.1⟩
def Og(v:aa3)(H H':d7)(h:H'.low<H.n):F7 v H H'=(v,some ⟨H'.bs,min H.low H'.low⟩):=by
 unfold F7;rw[bt];have:¬H.bs.length<=H'.low:=by have:H.n=H.bs.length:=rfl;omega
 simp [this]
def TL(H:d7)(pm:Nat)(st:Int)(r:LV)(I:H.g pm=cE (.int .i64 st::r) 1)(S:r.length=4)(X:0<=st)(h1:st<=10000000):
  CL prog l7 122 [pT pm] H=some (.int .i64 st,some (H.put pm (.cells (.int .i64 (st+1)::r) true 1))):=by
 have E:=u6 I;have D:(⟨H.bs,H.n⟩:d7).g pm=cE (.int .i64 st::r) 1:=I;obtain⟨u,h⟩:=eY (d7.put ⟨H.bs,H.n⟩ pm (.cells (.int .i64 (st+1)::r) true 1));have O:u.g pm=some (.cells (.int .i64 (st+1)::r) true 1):=by rw[h];exact i9 E
 have U:u.low=pm:=by rw[h,A9];show min H.n pm=pm;omega
 have W:u.low<H.n:=oM;have z:(⟨u.bs,min H.low u.low⟩:d7)=H.put pm (.cells (.int .i64 (st+1)::r) true 1):=by rw[U,h];rfl
 have J:st+1-1=st:=oM;rw[i7 Wm rfl _ sM];exact J8 D S @wrap_small h.symm O J @Og z trivial
structure PgS(Rt:LV->Q->Prop)(pm:Nat)(H0:d7)(we0 wt0:aa3)(H:d7)(p:PrD):Prop where
 ex:∃we wt,H.g pm=cE [iV p.st,iV p.sa,iV p.en,we,wt] 1/\u5 H (pm+1) 4 (y7 edE) we p.ed/\u5 H (pm+1) 6 Rt wt p.ts/\(∀b,j8 we b->¬j8 wt b)/\
  (∀j,j<H0.n->j≠pm->¬j8 we0 j->¬j8 wt0 j->H.g j=H0.g j)/\(∀b,j8 we b->j8 we0 b\/H0.n<=b)/\(∀b,j8 wt b->j8 wt0 b\/H0.n<=b)
 stay:d9 pm H0 H
section
variable{Rt:List Value->Q->Prop}{pm:Nat}{H0 H H':d7}{we0 wt0 we wt:Value}{p:PrD}
def PgS.lt(h:PgS Rt pm H0 we0 wt0 H p):pm<H.n:=by obtain⟨⟨_,_,u,_⟩,_⟩:=h;exact u6 u
def PgS.work(h:PgS Rt pm H0 we0 wt0 H p)(u:d9 H.n H H'):PgS Rt pm H0 we0 wt0 H' p:=by
 have W:=h.lt;obtain⟨⟨we,wt,z,D,E,I,J,O,S⟩,hs⟩:=h;have hn:=hs.n;exact⟨⟨we,wt,(u.g pm W).trans z,D.keep u,E.keep u,I,fun j U X q2 q3=>by rw[u.g j oM,J j U X q2 q3],O,S⟩,hs.trans (u.wk oM)⟩
def PgS.start(E:H.g pm=cE [iV p.st,iV p.sa,iV p.en,we,wt] 1)(u:u5 H (pm+1) 4 (y7 edE) we p.ed)(z:u5 H (pm+1) 6 Rt wt p.ts)(D:∀b,j8 we b->¬j8 wt b):PgS Rt pm H we wt H p:=
 ⟨⟨we,wt,E,u,z,D,fun _ _ _ _ _=>rfl,fun _ h=> .inl h,fun _ h=> .inl h⟩,d9.refl _ _⟩
def PgS.trans{E:d7}{p1:PrD}(h:PgS Rt pm H0 we0 wt0 H p)(k:∀we wt,(H.g pm=cE [iV p.st,iV p.sa,iV p.en,we,wt] 1)->PgS Rt pm H we wt E p1):PgS Rt pm H0 we0 wt0 E p1:=by
 obtain⟨⟨we,wt,W,h2,h3,h4,X,I,J⟩,hs⟩:=h;obtain⟨⟨z,D,k1,k2,k3,k4,k5,k6,k7⟩,ks⟩:=k we wt W;have hn:=hs.n;refine⟨⟨z,D,k1,k2,k3,k4,fun j hj O S U=>?_,fun b u=>?_,fun b u=>?_⟩,hs.trans ks⟩
 .rw[k5 j oM O (fun q=>?_) (fun q=>?_),X j hj O S U]
  .rcases I j q with r|r
   .exact S r
   .omega
  .rcases J j q with r|r
   .exact U r
   .omega
 .rcases k6 b u with r|r
  .exact I b r
  .exact .inr oM
 .rcases k7 b u with r|r
  .exact J b r
  .exact .inr oM
end
def iq{Rt:LV->Q->Prop}{pm:Nat}{H0 H:d7}{we0 wt0:aa3}{p:PrD}(h:PgS Rt pm H0 we0 wt0 H p)(W:0<=p.st)(X:p.st<=10000000):
  ∃H',CL prog l7 122 [pT pm] H=some (.int .i64 p.st,some H')/\PgS Rt pm H0 we0 wt0 H' {p with st:=p.st+1}/\H'.low<=pm/\H'.low<=H.low/\H'.n=H.n:=by
 have hp:=h.lt;obtain⟨⟨we,wt,I,z,D,J,O,S,U⟩,hs⟩:=h;refine⟨_,TL H pm p.st _ I rfl W X,⟨⟨we,wt,i9 hp,z.same fun b u=>j7 (oN (z.lt u)),D.same fun b u=>j7 (oN (D.lt u)),J,fun j hj E q2 q3=>?_,S,U⟩,hs.trans (d9.put lR)⟩,?_,?_,?_⟩
 .rw[j7 (fun q=>E q.symm),O j hj E q2 q3]
 .rw[A9];omega
 .rw[A9];omega
 .rw[j9]
def Ma{Rt:LV->Q->Prop}{pm:Nat}{H0 H:d7}{we0 wt0:aa3}{p:PrD}(h:PgS Rt pm H0 we0 wt0 H p)(lv:aa3)(l:List (Int×Int×Int×Int))(hl:SlI H H.n 4 (y7 edE) lv l)(hn:p.ed.length+l.length<=1000000)(a5:l≠ []):
  Ret (CL prog l7 143 [pT pm,lv] H) H fun v H'=>v=undef/\PgS Rt pm H0 we0 wt0 H' {p with ed:=p.ed++l}/\H'.low<=pm/\H'.low<=H.low:=by
 have hp:=h.lt;obtain⟨⟨we,wt,g1,g2,U,g4,g5,g6,g7⟩,hs⟩:=h;have a6:=hs.n;obtain⟨J,D⟩:=eY (⟨H.bs,H.n⟩:d7);have sb:d9 H.n H J:=by rw[D];exact d9.start H
 have nb:J.n=H.n:=by rw[D];rfl
 have O:∀j,J.g j=H.g j:=fun j=>by rw[D];rfl
 obtain⟨z,h1,S,ha,a3,hO,E⟩:=(g2.keep sb).appendF (P:=prog) (t:=39) (n:=H.n) (l2:=l) (x:=lv) (by exact PR.2.2.2.2.2.2) lN.1 lN.2.1 lN.2.2.1 oM oM (hl.mono (fun j _=>O j) lR iF) oM oM;have n1:=E.n;obtain⟨a8,a9,rfl⟩:=hl.slice;have a4:¬j8 we pm:=fun q=>oN (g2.lt q);have W:S.g pm=cE [iV p.st,iV p.sa,iV p.en,we,wt] 1:=by rw[E.but pm oM a4,O];exact g1
 obtain⟨a1,c1,e1⟩:=hO.slice;have cw:z.cells.toList=[z]:=by rw[e1];rfl
 have ow:Value.oneCell' z=true:=by rw[e1];rfl
 obtain⟨H2,u⟩:=eY (S.put pm (bC [iV p.st,iV p.sa,iV p.en,z,wt] 1));have l2:H2.low<=pm:=by rw[u,A9];omega
 have a7:H2.low<H.n:=oM;have X:J.g pm=cE [iV p.st,iV p.sa,iV p.en,we,wt] 1:=by rw[O];exact g1
 rw[i7 Wz rfl _ sM];rw[show(⟨H.bs,H.n⟩:d7)=J from D.symm];refine J7 X ha a3 W cw ow u.symm ?_;refine E1 (fun _ hl=>oM) ⟨rfl,?_,?_,?_⟩
 rotate_left
 .show min H.low H2.low<=pm;omega
 .show min H.low H2.low<=H.low;omega
 have kp:∀j,j≠pm->H2.g j=S.g j:=fun j hj=>by rw[u,j7 (fun q=>hj q.symm)]
 have a2:H2.g pm=cE [iV p.st,iV p.sa,iV p.en,z,wt] 1:=by rw[u];exact i9 oM
 have sg:d9 pm H H2:=by rw[u];exact((sb.wk oM).trans (E.stay.wk oM)).trans (d9.put lR)
 refine⟨⟨z,wt,a2,(hO.same (H':=⟨H2.bs,min H.low H2.low⟩) fun b I=>?_),(U.same (H':=⟨H2.bs,min H.low H2.low⟩) fun b I=>?_),fun b I=>?_,fun j hj q1 q2 q3=>?_,fun b I=>?_,g7⟩,hs.trans ⟨sg.n,fun k hk q=>?_,sg.g⟩⟩
 .exact kp b (oN (hO.lt I))
 .have:=U.lt I;show H2.g b=_;rw[kp b oM,E.but b oM (fun q=>g4 b q I),O]
 .rcases E.new b I with r|r
  .exact g4 b r
  .exact fun q=>oN (U.lt q)
 .show H2.g j=_;rw[kp j q1,E.but j oM (fun q=>?_),O,g5 j hj q1 q2 q3];rcases g6 j q with r|r
  .exact q2 r
  .omega
 .rcases E.new b I with r|r
  .exact g6 b r
  .exact .inr oM
 .have:k<=H2.low:=by
   rw[u,A9];have:=E.stay.lowAll k oM (by rw[D];show k<=H.n;omega);omega
  show k<=min H.low H2.low;omega
def PgC(Rt:LV->Q->Prop)(pm:Nat)(x:Option (aa3×Option d7))(H:d7)(p p':PrD)(v:aa3):Prop:=∀(H0:d7)(we0 wt0:aa3),PgS Rt pm H0 we0 wt0 H p->Ret x H fun w H'=>w=v/\PgS Rt pm H0 we0 wt0 H' p'/\H'.low<=pm/\H'.low<=H.low
def nJ{Rt:LV->Q->Prop}{pm:Nat}{x:Option (aa3×Option d7)}{H:d7}{p I:PrD}{v:aa3}(h:∀we wt,pm<H.n->PgS Rt pm ⟨H.bs,H.n⟩ we wt ⟨H.bs,H.n⟩ p->∃H',x=some (F7 v H H')/\PgS Rt pm ⟨H.bs,H.n⟩ we wt H' I/\H'.low<=pm):PgC Rt pm x H p I v:=by
 intro H0 we0 wt0 D;have hp:=D.lt;obtain⟨⟨we,wt,S,U,W,X,g5,g6,g7⟩,hs⟩:=id D;obtain⟨H',hx,⟨⟨J,O,k1,k2,k3,k4,k5,k6,k7⟩,u⟩,hl⟩:=h we wt hp ⟨⟨we,wt,S,U.low _,W.low _,X,fun _ _ _ _ _=>rfl,fun _ h=> .inl h,fun _ h=> .inl h⟩,d9.refl _ _⟩;have nb:(⟨H.bs,H.n⟩:d7).n=H.n:=rfl;have lb:(⟨H.bs,H.n⟩:d7).low=H.n:=rfl;have hn:=u.n;have z:PgS Rt pm H we wt ⟨H'.bs,min H.low H'.low⟩ I:=⟨⟨J,O,k1,k2.low _,k3.low _,k4,k5,k6,k7⟩,u.n,fun k q1 q2=>(by have:=u.lowAll k q1 oM;show k<=min H.low H'.low;omega),u.g⟩
 rw[hx];refine E1 (fun _ q=>oM) ⟨rfl,D.trans fun a1 a2 E=>?_,?_,?_⟩
 .have:=S.symm.trans E;simp only[ky,Blk.cells.injEq,UJ,aau,aaR]at this;obtain⟨rfl,rfl⟩:=this;exact z
 .show min H.low H'.low<=pm;omega
 .show min H.low H'.low<=H.low;omega
def nM(Rt:LV->Q->Prop)(pm:Nat)(H:d7)(p:PrD)(f t:Int)(W:p.ed.length+1<=1000000):
  PgC Rt pm (CL prog l7 123 [pT pm,iV f,iV t] H) H p (p.edge f t 0 0) undef:=by
 refine nJ fun we wt hp h=>?_;obtain⟨E,u,n1,-⟩:=pushF H (.cells (edE (f,t,0,0)) true 4);have O:d9 H.n ⟨H.bs,H.n⟩ E:=by rw[u];exact d9.push lR
 have I:u5 E H.n 4 (y7 edE) (sL H.n 1 1) [(f,t,0,0)]:=by rw[u];exact u5.fresh rfl lR (F1.one rfl rfl)
 obtain⟨v,X,H2,S,z,rfl,J,D,U⟩:=Ma (h.work O) _ [(f,t,0,0)] I.sl (by simpa using W) sM;rw[i7 Wn rfl _ sM];refine J3 u.symm S z ?_;exact⟨H2,rfl,J,D⟩
def qW(Rt:LV->Q->Prop)(pm:Nat)(H:d7)(p:PrD)(k x:Int)(hn:p.ed.length+1<=1000000)(W:0<=p.st)(h1:p.st<=1000000):
  PgC Rt pm (CL prog l7 119 [pT pm,iV k,iV x] H) H p (({p with st:=p.st+2}:PrD).edge p.st (p.st+1) k x) (.tuple #[iV p.st,iV (p.st+1)]):=by
 refine nJ fun we wt hp h=>?_;obtain⟨Ha,E,pa,a2,a3,na⟩:=iq h W oM;obtain⟨z,D,pb,a4,a5,nb⟩:=iq pa (by show 0<=p.st+1;omega) (by show p.st+1<=_;omega);have n0:(⟨H.bs,H.n⟩:d7).n=H.n:=rfl;obtain⟨O,u⟩:=eY (d7.push z (.cells (edE (p.st,p.st+1,k,x)) true 4));have hS:d9 z.n z O:=by rw[u];exact d9.push lR
 have X:u5 O z.n 4 (y7 edE) (sL z.n 1 1) [(p.st,p.st+1,k,x)]:=by rw[u];exact u5.fresh rfl lR (F1.one rfl rfl)
 obtain⟨v,h2,H2,hc,I,rfl,S,J,a1⟩:=Ma (pb.work hS) _ [(p.st,p.st+1,k,x)] X.sl (by simpa using hn) sM;have U:p.st+1+1=p.st+2:=oM;simp only[U]at S D;have ll:H2.low<H.n:=oM;rw[i7 Wk rfl _ sM];refine J5 E D u.symm hc I ?_;exact⟨H2,rfl,S,J⟩
def PgS.trans'{E:LV->Q->Prop}{D:Nat}{H0 H J:d7}{u z O S:aa3}{p p1:PrD}(h:PgS E D H0 u z H p)(k:PgS E D H O S J p1)(U:H.g D=cE [iV p.st,iV p.sa,iV p.en,O,S] 1):PgS E D H0 u z J p1:=
 h.trans fun W X I=>by
  have:=U.symm.trans I;simp only[ky,Blk.cells.injEq,UJ,aau,aaR]at this;obtain⟨rfl,rfl⟩:=this;exact k
def SlI.tail{P:Program}{H:d7}{lo sz:Nat}{α:Type}{R:LV->α->Prop}{S:Option Addr}{u:Nat}{l:List α}{t e:TypeId}(h:SlI H lo sz R (.slice S l.length u) l)(E:0<l.length)(ht:P.underlying t=some (.slice e))(hs:D5 P e=some sz)(h0:0<sz):
  ∃I z,(∀H',(∀j,j<lo->H'.g j=H.g j)->L9 P H' t (.slice S l.length u) (some (.int .i64 1)) none none=some (.slice I (l.drop 1).length z))/\SlI H lo sz R (.slice I (l.drop 1).length z) (l.drop 1):=by
 rcases h with⟨_,h⟩|⟨b,o,c,hv,h⟩
 .rw[h]at E;simp at E
 .rcases h with h|⟨cs,own,W,X,h3,h4⟩
  .rw[h]at E;simp at E
  .obtain⟨rfl,rfl⟩:S=some ⟨b,o,none⟩/\u=c:=by simpa using hv
   have D:(l.drop 1).length=l.length-1:=sM;have a1:(l.length-1)*sz+sz=l.length*sz:=by
    rw[<-aay];congr 1;omega
   refine⟨some ⟨b,o+sz,none⟩,if u=l.length then l.length-1 else l.length-1+1,fun H' J=>?_,.inr ⟨b,o+sz,_,rfl,.inr ⟨cs,own,W,X,by rw[D];omega,fun i a hi=>?_⟩⟩⟩
   .have hg:H'.g b=some (.cells cs own sz):=by rw[J b W];exact X
    have O:oo H' b=some sz:=by simp only[oo,hg]
    simp only[L9,ht,hs,bnd,O,D];have U:(if(0:Int)<=1 then some (1:Int).toNat else none)=some 1:=rfl;have p1:¬sz=0:=oM;have p2:1<=l.length/\l.length<=l.length:=⟨E,lR⟩
    have p3:¬l.length=0:=oM;by_cases hc:u=l.length
    .simp only[U,bt p1,bJ p2,bt p3,ne_eq,KA,MR,bJ hc,jd,aaT]
    .simp only[U,bt p1,bJ p2,bt p3,ne_eq,KA,MR,bt hc,jd,aaT]
   .rw[vu]at hi;have:=h4 (1+i) a hi;rw[show o+sz+i*sz=o+(1+i)*sz by rw[wS];omega];exact this
def BO(Hs:d7)(lo K k:Nat):Prop:=∀(H:d7)(pm:Nat)(cs:LV)(q:Q)(p:PrD),lo<=pm->(∀j,j<lo->H.g j=Hs.g j)->QR Hs lo k false cs q->OkD false q->oG (nQ q) p->
 PgC (QR Hs lo K true) pm (CL prog l7 93 [pT pm,.agg cs.toArray] H) H p (D4 q p).1 (.tuple #[iV (D4 q p).2.1,iV (D4 q p).2.2])
def Di(D:d7)(lo K k:Nat)(ih:BO D lo K k)(J:d7)(u:Nat)(b4:lo<=u)(a9:∀j,j<lo->J.g j=D.g j) (we wt:aa3) (va:Option Addr) (ca:Nat) (l:List Q) (hv:QsR D lo k false (.slice va l.length ca) l) (hn:l.length<=1048576) (hw:∀x∈l,OkD false x) (s:Int) (r:PrD×Int×Int):
  ∀kk e H2,(∃(i:Nat)(y:PrD×Int×Int),kk=l.length-i/\i<=l.length/\e.g 0=pT u/\e.g 6=iV s/\e.g 7=iV y.2.2/\e.g 21= .slice va l.length ca/\e.g 22=iV l.length/\e.g 23=iV i/\PgS (QR D lo K true) u J we wt H2 y.1/\H2.low<=u/\oG (nL (l.drop i)) y.1/\y.2.1=s/\dW (l.drop i) y=r)->
  u7 (LE prog l7 (.loop RC) e H2) (fun o e H2=>o= .exit 0/\e.g 6=iV r.2.1/\e.g 7=iV r.2.2/\PgS (QR D lo K true) u J we wt H2 r.1/\H2.low<=u):=by
 refine i5 _ _ ?_;rintro kk e H2 ⟨i,y,b9,hi,f0,f6,f7,S,E,U,hP,hl,a2,hs,I⟩;rcases b:decide ((i:Int)<l.length)with _|_
 .have a7:=dF b;have:l.drop i=[]:=dN oM;rw[this,dW]at I;refine J3 E U b ?_;exact i6 ⟨rfl,by rw[<-I,hs];exact f6,by rw[<-I];exact f7,by rw[<-I];exact hP,hl⟩
 have a7:=dT b;have hS:=hP.stay;have c3:=hS.n;have c4:=hP.lt;obtain⟨x,nb,o,cs,own,el,hx,hd,rfl,b5,hg,b3,h,hr⟩:=hv.row (i:=i) oM;have b7:=mG hx;have nt:(i:Int).toNat=i:=tN i;simp only[qSz,bF]at h hg b3;have O:∀j,j<lo->H2.g j=D.g j:=fun j hj=>by rw[hS.g j oM,a9 j hj]
 have a1:el.all oC=true:=I6 hr;have e1:=hr.len;simp only[qSz,bF]at e1;have a4:=Q6 hr;rw[e1]at a4;have gx:=(O nb b5).trans hg;obtain⟨H3,a5,n3,g3,s3⟩:=pushP H2 (bC [iV 0,nS,nS] 1) (bC el 1);have b8:splice [iV 0,nS,nS] 0 el=el:=A0 _ _ (by rw[e1];rfl);have b6:nL (l.drop i)=nQ x+nL (l.drop (i+1)):=by rw[hd,nL]
 obtain⟨t0,t1,t2,t3⟩:=a2;rw[b6]at t1 t2 t3;have a3:=M6 x y.1;obtain⟨v4,h4,H4,X,b1,rfl,W,c0,_⟩:=ih H3 u el x y.1 b4 (fun j hj=>by rw[s3.g j oM,O j hj]) hr (hw x b7) ⟨t0,oM,oM,oM⟩ J we wt (hP.work s3);rw[hd,dW]at I;obtain⟨z,hz⟩:=eY (D4 x y.1);rw[<-hz]at X W I a3;obtain⟨u0,u1,u2,u3⟩:=a3;obtain⟨v5,h5,H5,a8,b0,rfl,a6,b2,_⟩:=nM (QR D lo K true) u H4 z.1 y.2.2 z.2.1 oM J we wt W;refine J20 f0 f7 S E U b gx nt h a1 e1 b8 a5.symm g3 a4 X b1 a8 b0 @wrap_small ?_;exact d8 (kk-1) oM ⟨i+1,(z.1.edge y.2.2 z.2.1 0 0,y.2.1,z.2.2),oM,oM,f0,f6,rfl,S,E,rfl,a6,b2,⟨by simp only[aX];omega,by simp only[aX];omega,by rw[U8];omega,by simp only[gE];omega⟩,hs,I⟩
def XE(D:d7)(lo K k:Nat)(ih:BO D lo K k)(H:d7)(O:Nat)(X:lo<=O)(a7:∀j,j<lo->H.g j=D.g j) (v:aa3) (l:List Q) (hv:QsR D lo k false v l) (hn:l.length<=1048576) (a2:0<l.length) (hw:∀x∈l,OkD false x) (p:PrD) (U:oG (nL l) p):
  PgC (QR D lo K true) O (CL prog l7 120 [pT O,v] H) H p (iz l p).1 (.tuple #[iV (iz l p).2.1,iV (iz l p).2.2]):=by
 refine nJ fun we wt hp h=>?_;obtain⟨va,ca,rfl⟩:=hv.slice;obtain⟨b6,a3,b4,b5⟩:=SlI.tail (P:=prog) (t:=33) (e:=36) hv a2 (by exact qJ.2.2.2.2.2.2) cd.1 (by decide);obtain⟨x,nb,o,cs,own,el,hx,hd,rfl,b2,hg,b1,E,hr⟩:=hv.row (i:=0) a2;simp only[qSz,bF,Ck,ly]at E hg b1;have a1:l=x::l.drop 1:=by simpa using hd
 have b8:nL l=nQ x+nL (l.drop 1):=by conv=>lhs;rw[a1,nL]
 have I:iz l p=dW (l.drop 1) (D4 x p):=by conv=>lhs;rw[a1,iz]
 obtain⟨t0,t1,t2,t3⟩:=U;have W:=M6 x p;have u:∀j,j<lo->(⟨H.bs,H.n⟩:d7).g j=D.g j:=a7;have gx:(⟨H.bs,H.n⟩:d7).g nb=_:=(u nb b2).trans hg;obtain⟨v4,h4,H4,S,a8,rfl,J,a9,_⟩:=ih ⟨H.bs,H.n⟩ O el x p X u hr (hw x (mG hx)) ⟨t0,oM,oM,oM⟩ _ we wt h;have a6:=J.stay;have a4:∀j,j<lo->H4.g j=D.g j:=fun j hj=>by rw[a6.g j oM,u j hj]
 have b3:=b4 H4 a4;have b7:(0:Int)<l.length:=oM;obtain⟨y,hy⟩:=eY (D4 x p);rw[<-hy]at S J W I;obtain⟨u0,u1,u2,u3⟩:=W;rw[i7 Qh rfl _ sM];refine J5 gx E S a8 b3 ?_;refine i8 (F:=fun z=>∃H',t6 _ _ _ (t7 (inBlock 0 z) _)=some (F7 _ H H')/\PgS (QR D lo K true) O _ we wt H' (iz l p).1/\H'.low<=O) (Di D lo K k ih ⟨H.bs,H.n⟩ O X u we wt b6 a3 (l.drop 1) b5 (by simp;omega) (fun z hz=>hw z (S3 hz)) y.2.1 (dW (l.drop 1) y) (l.drop 1).length _ _ ⟨0,y,rfl,oM,rfl,rfl,rfl,rfl,rfl,rfl,J,a9,⟨oM,by rw[lP];omega,by rw[lP];omega,by rw[lP];omega⟩,rfl,rfl⟩) ?_;rintro o' e' H5 ⟨ho,g6,g7,a5,b0⟩;rw[I];have ll:H5.low<H.n:=oM;refine J3 ho g6 g7 ?_;exact⟨H5,rfl,a5,b0⟩
structure PgW(Rt:LV->Q->Prop)(pm:Nat)(H:d7)(we wt:aa3)(p:PrD):Prop where
 row:H.g pm=cE [iV p.st,iV p.sa,iV p.en,we,wt] 1
 e:u5 H (pm+1) 4 (y7 edE) we p.ed
 t:u5 H (pm+1) 6 Rt wt p.ts
 d:∀b,j8 we b->¬j8 wt b
def PgW.start{u:LV->Q->Prop}{z:Nat}{H:d7}{D E:aa3}{p:PrD}(h:PgW u z H D E p):PgS u z H D E H p:=PgS.start h.row h.e h.t h.d
def PgS.w{J:LV->Q->Prop}{I:Nat}{H0 H:d7}{u z:aa3}{p:PrD}(h:PgS J I H0 u z H p):∃D E,PgW J I H D E p/\(∀j,j<H0.n->j≠I->¬j8 u j->¬j8 z j->H.g j=H0.g j)/\(∀b,j8 D b->j8 u b\/H0.n<=b)/\(∀b,j8 E b->j8 z b\/H0.n<=b):=by
 obtain⟨⟨D,E,O,S,U,W,X,h6,h7⟩,_⟩:=h;exact⟨D,E,⟨O,S,U,W⟩,X,h6,h7⟩
def Dk(I:d7)(lo K k:Nat)(ih:BO I lo K k)(O:d7)(E:Nat)(e4:lo<=E)(c0:E<O.n)(d3:∀j,j<lo->O.g j=I.g j) (we wt:aa3) (va:Option Addr) (ca:Nat) (l:List Q) (hv:QsR I lo k false (.slice va l.length ca) l) (hn:l.length<=1048576) (hw:∀x∈l,OkD false x) (s:Int) (r:PrD×List Int) (g2:r.2.length<=1000000):
  ∀kk e H2,(∃(i:Nat)(p:PrD)(es:List Int)(w u D:aa3),kk=l.length-i/\i<=l.length/\e.g 0=pT E/\e.g 6=iV s/\e.g 7=w/\e.g 17= .slice va l.length ca/\e.g 18=iV l.length/\e.g 19=iV i/\PgS (QR I lo K true) E O we wt H2 p/\PgW (QR I lo K true) E H2 u D p/\u5 H2 O.n 1 (y7 inE) w es/\(∀b,j8 w b->¬j8 u b/\¬j8 D b)/\oG (nL (l.drop i)) p/\N9 (l.drop i) s p es=r)->
  u7 (LE prog l7 (.loop RD) e H2) (fun o e H2=>o= .exit 0/\e.g 0=pT E/\e.g 6=iV s/\∃(w u D:aa3),e.g 7=w/\PgS (QR I lo K true) E O we wt H2 r.1/\PgW (QR I lo K true) E H2 u D r.1/\u5 H2 O.n 1 (y7 inE) w r.2/\(∀b,j8 w b->¬j8 u b/\¬j8 D b)):=by
 refine i5 _ _ ?_;rintro kk e H2 ⟨i,p,es,w,u,D,f4,hi,f0,f6,f7,b2,a8,b3,hP,hW,W,J,b7,fu⟩;rcases b:decide ((i:Int)<l.length)with _|_
 .have d1:=dF b;have:l.drop i=[]:=dN oM;rw[this,N9]at fu;subst fu;refine J3 a8 b3 b ?_;exact i6 ⟨rfl,f0,f6,w,u,D,f7,hP,hW,W,J⟩
 have d1:=dT b;have hS:=hP.stay;have f9:=hS.n;have g1:=hP.lt;have g0:E<O.n:=c0;obtain⟨x,nb,o,cs,own,el,hx,hd,rfl,e5,hg,e3,a7,hr⟩:=hv.row (i:=i) oM;have e7:=mG hx;have nt:(i:Int).toNat=i:=tN i;simp only[qSz,bF]at a7 hg e3;have b1:∀j,j<lo->H2.g j=I.g j:=fun j hj=>by rw[hS.g j oM,d3 j hj]
 have a1:el.all oC=true:=I6 hr;have e1:=hr.len;simp only[qSz,bF]at e1;have c4:=Q6 hr;rw[e1]at c4;have gx:=(b1 nb e5).trans hg;obtain⟨H3,c7,n3,g3,s3⟩:=pushP H2 (bC [iV 0,nS,nS] 1) (bC el 1);have f3:splice [iV 0,nS,nS] 0 el=el:=A0 _ _ (by rw[e1];rfl);have e6:nL (l.drop i)=nQ x+nL (l.drop (i+1)):=by rw[hd,nL]
 obtain⟨t0,t1,t2,t3⟩:=b7;rw[e6]at t1 t2 t3;have b9:=M6 x p;have W3:PgW (QR I lo K true) E H3 u D p:=⟨(s3.g E oM).trans hW.row,hW.e.keep s3,hW.t.keep s3,hW.d⟩
 obtain⟨v4,h4,H4,b6,e2,rfl,X,f5,_⟩:=ih H3 E el x p e4 (fun j hj=>by rw[s3.g j oM,b1 j hj]) hr (hw x e7) ⟨t0,oM,oM,oM⟩ H3 u D W3.start;have a6:=(hP.work s3).trans' X W3.row;rw[hd,N9]at fu;obtain⟨z,hz⟩:=eY (D4 x p);rw[<-hz]at b6 X a6 fu b9;obtain⟨u0,u1,u2,u3⟩:=b9;obtain⟨c5,c6,W4,a9,e8,f1⟩:=X.w;have n4:=X.stay.n;obtain⟨v5,h5,H5,d2,d6,rfl,a2,f8,_⟩:=nM (QR I lo K true) E H4 z.1 s z.2.1 oM H4 c5 c6 W4.start;have b4:=a6.trans' a2 W4.row;obtain⟨a4,a5,S,b0,e9,f2⟩:=a2.w;have n5:=a2.stay.n;have d4:∀b,j8 w b->¬j8 c5 b/\¬j8 c6 b:=fun b h=>⟨fun q=>by rcases e8 b q with r|r;exact(J b h).1 r;have:=W.lt h;omega,fun q=>by rcases f1 b q with r|r;exact(J b h).2 r;have:=W.lt h;omega⟩
 have d5:∀b,j8 w b->¬j8 a4 b/\¬j8 a5 b:=fun b h=>⟨fun q=>by rcases e9 b q with r|r;exact(d4 b h).1 r;have:=W.lt h;omega,fun q=>by rcases f2 b q with r|r;exact(d4 b h).2 r;have:=W.lt h;omega⟩
 have c8:u5 H5 O.n 1 (y7 inE) w es:=W.same fun b h=>by
  have h1:=W.lt h;rw[b0 b oM oM (d4 b h).1 (d4 b h).2,a9 b oM oM (J b h).1 (J b h).2,s3.g b oM]
 obtain⟨w6,h6,H6,d0,b8,c9,U⟩:=c8.push1F (P:=prog) (t:=38) (cs:=inE z.2.2) (a:=z.2.2) (by exact BE.2.2.2.2.2.2) ty3.1 ty3.2.1 ty3.2.2.1 oM oM rfl rfl (by have h2:=(fQ (l.drop (i+1)) s (z.1.edge s z.2.1 0 0) (es++[z.2.2])).2;rw[fu]at h2;simp at h2;omega) oM;have n6:=U.n;have c3:=a2.lt;have a3:∀{b:Nat},b<H5.n->¬j8 w b->H6.g b=H5.g b:=fun h hw=>U.but _ h hw;have W6:PgW (QR I lo K true) E H6 a4 a5 (z.1.edge s z.2.1 0 0):=⟨(a3 c3 (fun q=>by have:=W.lt q;omega)).trans S.row,S.e.same fun b h=>a3 (S.e.lt h).2 (fun q=>(d5 b q).1 h),S.t.same fun b h=>a3 (S.t.lt h).2 (fun q=>(d5 b q).2 h),S.d⟩
 have b5:PgS (QR I lo K true) E O we wt H6 (z.1.edge s z.2.1 0 0):=by
  obtain⟨⟨g4,g5,k1,k2,k3,k4,k5,k6,k7⟩,ks⟩:=b4;have:=S.row.symm.trans k1;simp only[ky,Blk.cells.injEq,UJ,aau,aaR]at this;obtain⟨rfl,rfl⟩:=this;exact⟨⟨a4,a5,W6.row,W6.e,W6.t,W6.d,fun j hj q1 q2 q3=>by rw[a3 oM (fun q=>by have:=W.lt q;omega)];exact k5 j hj q1 q2 q3,k6,k7⟩,ks.trans (U.stay.wk oM)⟩
 refine J23 f0 f6 f7 b2 a8 b3 b gx nt a7 a1 e1 f3 c7.symm g3 c4 b6 e2 d2 d6 d0 b8 @wrap_small ?_;refine d8 (kk-1) oM ⟨i+1,z.1.edge s z.2.1 0 0,es++[z.2.2],w6,a4,a5,oM,oM,f0,f6,rfl,b2,a8,rfl,b5,W6,c9,fun b h=>?_,⟨by simp only[aX];omega,by simp only[aX];omega,by rw[U8];omega,by simp only[gE];omega⟩,fu⟩;rcases U.new b h with r|r
 .exact d5 b r
 .exact⟨fun q=>by have:=S.e.lt q;omega,fun q=>by have:=S.t.lt q;omega⟩
def Dj(Rt:LV->Q->Prop)(S:d7)(I:Nat)(b9:I<S.n)(we wt:aa3)(wa:Option Addr)(wc:Nat)(h:List Int)(hn:h.length<=1000000)(s t:Int)(r:PrD):
  ∀kk e H2,(∃(i:Nat)(p:PrD)(z D:aa3),kk=h.length-i/\i<=h.length/\e.g 0=pT I/\e.g 6=iV s/\e.g 12=iV t/\e.g 40= .slice wa h.length wc/\e.g 41=iV h.length/\e.g 42=iV i/\PgS Rt I S we wt H2 p/\PgW Rt I H2 z D p/\u5 H2 S.n 1 (y7 inE) (.slice wa h.length wc) h/\(∀b,j8 (.slice wa h.length wc) b->¬j8 z b/\¬j8 D b)/\H2.low<=I/\p.ed.length+(h.length-i)<=1000000/\(h.drop i).foldl (fun m x=>m.edge x t 0 0) p=r)->
  u7 (LE prog l7 (.loop RE) e H2) (fun o e H2=>o= .exit 2/\e.g 6=iV s/\e.g 12=iV t/\PgS Rt I S we wt H2 r/\H2.low<=I):=by
 refine i5 _ _ ?_;rintro kk e H2 ⟨i,p,z,D,b6,hi,f0,f6,J,W,O,X,hP,hW,hO,u,hl,b4,fu⟩;rcases b:decide ((i:Int)<h.length)with _|_
 .have a6:=dF b;have:h.drop i=[]:=dN oM;rw[this,yA]at fu;refine J3 O X b ?_;exact i6 ⟨rfl,f6,J,by rw[<-fu];exact hP,hl⟩
 have a6:=dT b;obtain⟨x,nb,o,cs,own,el,hx,hd,b1,b8,hg,b7,b5,hc,hR⟩:=hO.sl.row (i:=i) oM;subst b1;have nt:(i:Int).toNat=i:=tN i;have a8:el=inE x:=hR;subst a8;have c0:=hc 0 oM;rw[ly]at c0;rw[hd,sd]at fu;obtain⟨v5,h5,H5,a7,a9,rfl,a1,b0,_⟩:=nM Rt I H2 p x t oM H2 z D hW.start;have a2:=hP.trans' a1 hW.row;obtain⟨a3,a4,W5,U,b2,b3⟩:=a1.w;have d5:∀b,j8 (.slice (some ⟨nb,o,none⟩) h.length wc) b->¬j8 a3 b/\¬j8 a4 b:=fun b E=>⟨fun q=>by rcases b2 b q with r|r;exact(u b E).1 r;have:=hO.lt E;omega,fun q=>by rcases b3 b q with r|r;exact(u b E).2 r;have:=hO.lt E;omega⟩
 have a5:u5 H5 S.n 1 (y7 inE) (.slice (some ⟨nb,o,none⟩) h.length wc) h:=hO.same fun b E=>by
  have h1:=hO.lt E;rw[U b oM oM (u b E).1 (u b E).2]
 refine J12 f0 J W O X b hg nt c0 a7 a9 @wrap_small ?_;exact d8 (kk-1) oM ⟨i+1,p.edge x t 0 0,a3,a4,oM,oM,f0,f6,J,W,O,rfl,a2,W5,a5,d5,b0,by rw[U8];omega,fu⟩
def XF(D:d7)(lo K k:Nat)(ih:BO D lo K k)(H:d7)(J:Nat)(b2:lo<=J)(a9:∀j,j<lo->H.g j=D.g j) (v:aa3) (l:List Q) (hv:QsR D lo k false v l) (hn:l.length<=1048576) (hw:∀x∈l,OkD false x) (p:PrD) (a1:oG (1+nL l) p) (r:PrD×List Int) (hr:r=N9 l p.st {p with st:=p.st+1} []):
  PgC (QR D lo K true) J (CL prog l7 121 [pT J,v] H) H p (r.2.foldl (fun m x=>m.edge x r.1.st 0 0) {r.1 with st:=r.1.st+1}) (.tuple #[iV p.st,iV r.1.st]):=by
 refine nJ fun we wt hp h=>?_;obtain⟨va,ca,rfl⟩:=hv.slice;obtain⟨t0,t1,t2,t3⟩:=a1;have c3:=ym l;obtain⟨⟨u0,u1,u2,u3⟩,u4⟩:=fQ l p.st {p with st:=p.st+1} [];rw[<-hr]at u0 u1 u2 u3 u4;simp only[yd]at u0 u1 u2 u3 u4;have a4:∀j,j<lo->(⟨H.bs,H.n⟩:d7).g j=D.g j:=a9;obtain⟨H1,a7,U,c0,_,n1⟩:=iq h t0 oM;obtain⟨b6,b7,W1,b8,c4,c5⟩:=U.w;rw[i7 KE rfl _ sM];refine J1 a7 ?_;refine i8 (F:=fun z=>∃H',t6 _ _ _ (t7 (inBlock 0 z) _)=some (F7 _ H H')/\PgS (QR D lo K true) J _ we wt H' _/\H'.low<=J) (Dk D lo K k ih ⟨H.bs,H.n⟩ J b2 hp a4 we wt va ca l hv hn hw p.st r oM l.length _ _ ⟨0,{p with st:=p.st+1},[],nS,b6,b7,rfl,oM,rfl,rfl,rfl,rfl,rfl,rfl,U,W1,u5.nil,fun b u=>(C6 b u).elim,⟨by show 0<=p.st+1;omega,by rw[lP];show p.st+1+_<=_;omega,by rw[lP];show p.ed.length+_<=_;omega,by rw[lP];show p.ts.length+_<=_;omega⟩,by rw[lP];exact hr.symm⟩) ?_;rintro o' e' H2 ⟨ho,g0,g6,w,c7,c8,g7,a5,W2,E,I⟩;obtain⟨H3,a8,W,b0,_,n3⟩:=iq W2.start oM oM;have X:=a5.trans' W W2.row;obtain⟨a2,a3,W3,S,b4,b5⟩:=W.w;have d3:∀b,j8 w b->¬j8 a2 b/\¬j8 a3 b:=fun b u=>⟨fun q=>by rcases b4 b q with r|r;exact(I b u).1 r;have:=E.lt u;omega,fun q=>by rcases b5 b q with r|r;exact(I b u).2 r;have:=E.lt u;omega⟩
 have n0:(⟨H.bs,H.n⟩:d7).n=H.n:=rfl;have O:u5 H3 (d7.n ⟨H.bs,H.n⟩) 1 (y7 inE) w r.2:=E.same fun b u=>by
  have h1:=E.lt u;rw[S b oM oM (I b u).1 (I b u).2]
 obtain⟨wa,wc,ew⟩:=O.slice;rw[ew]at g7 O d3;refine J4 ho g0 g7 a8 ?_;refine i8 (F:=fun z=>∃H',t6 _ _ _ (t7 (inBlock 2 z) _)=some (F7 _ H H')/\PgS (QR D lo K true) J _ we wt H' _/\H'.low<=J) (Dj (QR D lo K true) ⟨H.bs,H.n⟩ J hp we wt wa wc r.2 oM p.st r.1.st _ r.2.length _ _ ⟨0,{r.1 with st:=r.1.st+1},a2,a3,rfl,oM,g0,g6,rfl,rfl,rfl,rfl,X,W3,O,d3,b0,by show r.1.ed.length+_<=_;omega,rfl⟩) ?_;rintro c6 b9 H4 ⟨ho,k6,b3,a6,b1⟩;have ll:H4.low<H.n:=oM;refine J3 ho k6 b3 ?_;exact⟨H4,rfl,a6,b1⟩
def Zm(X:d7)(lo K k:Nat)(hk:k<=K)(ih:BO X lo K k):BO X lo K (k+1):=by
 intro H O cs q p c4 f0 hr h6 f1;refine nJ fun we wt hp h=>?_;obtain⟨t0,t1,t2,t3⟩:=f1;have k1:=jr q;obtain⟨c6,_,o1,_,i0⟩:=h6.parts;obtain⟨l1,l2,o7,_⟩:=gJ i0;simp only[bF]at o7;obtain⟨va,ca,wa,c9,a4,h1,h2,h3,j0⟩:=hr.path;have ac:cs.all oC=true:=by rw[a4];rfl
 have lc:cs.length=3:=by rw[a4];rfl
 have q0:cs[0]?=some (.int .i64 q.op):=by rw[a4];rfl
 have q1:cs[1]?=some (.slice va q.a.length ca):=by rw[a4];rfl
 have q2:cs[2]?=some (.slice wa q.b.length c9):=by rw[a4];rfl
 obtain⟨H1,U,n1,g1,-⟩:=pushF H (bC cs 1);have hS:d9 H.n ⟨H.bs,H.n⟩ H1:=by rw[U];exact d9.push lR
 have b0:∀j,j<lo->H1.g j=X.g j:=fun j hj=>by rw[hS.g j oM];exact f0 j hj
 have W:=h.work hS;have n0:(⟨H.bs,H.n⟩:d7).n=H.n:=rfl;obtain⟨a2,a8,W0,_⟩:=h.w;have W1:PgW (QR X lo K true) O H1 a2 a8 p:=⟨(hS.g O hp).trans W0.row,W0.e.keep hS,W0.t.keep hS,W0.d⟩
 rw[i7 YV rfl _ sM];by_cases e2:q.op=2
 .rw[gX q p oM oM oM,bt oM,bJ e2,bt oM];obtain⟨v5,h5,E,I,J,rfl,D,u,_⟩:=qW (QR X lo K true) O H1 p 1 0 oM t0 oM _ we wt W;have ll:E.low<H.n:=oM;refine J7 ac U.symm g1 q0 e2 I J ?_;exact⟨E,rfl,D,u⟩
 by_cases e3:q.op=3
 .rw[gX q p oM oM oM,bt oM,bt e2,bJ e3,bt oM];obtain⟨v5,h5,E,I,J,rfl,D,u,_⟩:=qW (QR X lo K true) O H1 p 2 0 oM t0 oM _ we wt W;have ll:E.low<H.n:=oM;refine J7 ac U.symm g1 q0 e3 I J ?_;exact⟨E,rfl,D,u⟩
 have b2:decide (q.op=2)=false:=dt e2;have b3:decide (q.op=3)=false:=dt e3;by_cases e4:q.op=4
 .rw[zc q p e4];have e1:lst false q.op=2:=by rw[e4];decide
  rw[e1]at l1;obtain⟨v5,h5,E,I,J,rfl,D,u,_⟩:=XE X lo K k ih H1 O c4 b0 (.slice va q.a.length ca) q.a h1 h3 oM c6 p ⟨t0,oM,oM,oM⟩ _ we wt W;have ll:E.low<H.n:=oM;refine J8 ac U.symm g1 q0 q1 e4 I J ?_;exact⟨E,rfl,D,u⟩
 by_cases e5:q.op=5
 .rw[yZ q p e5];obtain⟨v5,h5,E,I,J,rfl,D,u,_⟩:=XF X lo K k ih H1 O c4 b0 (.slice va q.a.length ca) q.a h1 h3 c6 p ⟨t0,oM,oM,oM⟩ _ rfl _ we wt W;have ll:E.low<H.n:=oM;refine J8 ac U.symm g1 q0 q1 e5 I J ?_;exact⟨E,rfl,D,u⟩
 by_cases e6:q.op=6
 .have e1:lst false q.op=1/\mst false q.op=1:=by rw[e6];decide
  rw[e1.1]at l1;rw[e1.2]at l2;obtain⟨x,nb,o,i1,own,el,hx,hd,rfl,h0,f6,g9,a9,hR⟩:=h1.row (i:=0) oM;simp only[qSz,bF,Ck,ly]at a9 f6 g9;have c3:q.a=[x]:=by
   obtain⟨y,hy⟩:=Bj.1 (show q.a.length=1 from oM);rw[hy]at hx ⊢;simpa using hx
  have k0:nL q.a=nQ x:=by rw[c3,nL,nL];omega
  rw[vi q p e6 c3];obtain⟨H2,d6,d3,j2,_,n2⟩:=iq W t0 oM;have d1:∀j,j<O->H2.g j=(⟨H.bs,H.n⟩:d7).g j:=d3.stay.g;have d0:∀j,j<lo->H2.g j=X.g j:=fun j hj=>by rw[d1 j oM];exact f0 j hj
  have f9:=(d0 nb h0).trans f6;have g2:H2.g H.n=cE cs 1:=by
   obtain⟨f7,e8,d4,_⟩:=iq W1.start t0 oM;have:f7=H2:=by
    have:=e8.symm.trans d6
    simpa using this
   subst this;obtain⟨_,_,_,c8,_⟩:=d4.w;rw[c8 H.n oM oM (fun q=>by have:=W0.e.lt q;omega) (fun q=>by have:=W0.t.lt q;omega)];exact g1
  obtain⟨v3,i3,H3,e9,f2,rfl,d5,j3,_⟩:=ih H2 O el x {p with st:=p.st+1} c4 d0 hR (c6 x (by rw[c3];simp)) ⟨by show 0<=p.st+1;omega,by show p.st+1+_<=_;omega,by show p.ed.length+_<=_;omega,by show p.ts.length+_<=_;omega⟩ _ we wt d3;have f5:=M6 x {p with st:=p.st+1};obtain⟨z,hz⟩:∃z,z=D4 x {p with st:=p.st+1}:=eX;rw[<-hz]at e9 d5 f5 ⊢;obtain⟨u0,u1,u2,u3⟩:=f5;simp only at u0 u1 u2 u3;obtain⟨v4,h4,H4,g5,f3,rfl,g0,j4,_⟩:=nM (QR X lo K true) O H3 z.1 p.st z.2.1 oM _ we wt d5;obtain⟨v5,h5,E,g6,a6,rfl,D,u,_⟩:=nM (QR X lo K true) O H4 (z.1.edge p.st z.2.1 0 0) z.2.2 p.st (by rw[U8];omega) _ we wt g0;have ll:E.low<H.n:=oM;have j1:(0:Int)<q.a.length:=oM;refine J16 ac U.symm g1 q0 q1 e6 d6 g2 f9 a9 e9 f2 g5 f3 g6 a6 ?_;exact⟨E,rfl,D,u⟩
 have b4:decide (q.op=4)=false:=dt e4;have b5:decide (q.op=5)=false:=dt e5;have b6:decide (q.op=6)=false:=dt e6;by_cases e7:q.op=7
 .rw[gX q p e4 e5 e6,bJ e7,bt e2,bt e3,bJ e7,bJ e7];have h8:=o7.1 e7;obtain⟨a3,h5,E,b9,a6,b8,S⟩:=W1.t.appendF (P:=prog) (t:=34) (n:=lo) (l2:=q.b) (x:= .slice wa q.b.length c9) (by exact yV.2.2.2.2.2.2) Y7.1 Y7.2.1 Y7.2.2.1 oM oM (SlI.mono h2 (fun j hj=>b0 j hj) lR (fun _ _ h=>h.upTo hk)) oM oM;have n5:=S.n;have h9:¬j8 a8 O:=fun q=>oN (W1.t.lt q);have d2:E.g O=cE [iV p.st,iV p.sa,iV p.en,a2,a8] 1:=(S.but O oM h9).trans W1.row;obtain⟨a5,c5,a7⟩:=b8.slice;have cw:a3.cells.toList=[a3]:=by rw[a7];rfl
  have ow:Value.oneCell' a3=true:=by rw[a7];rfl
  obtain⟨a0,c0,f8⟩:=W1.t.slice;obtain⟨H6,a1⟩:=eY (E.put O (bC [iV p.st,iV p.sa,iV p.en,a2,a3] 1));have n6:H6.n=E.n:=by rw[a1,j9]
  have b1:H6.g O=cE [iV p.st,iV p.sa,iV p.en,a2,a3] 1:=by rw[a1];exact i9 oM
  have k6:∀j,j≠O->H6.g j=E.g j:=fun j hj=>by rw[a1,j7 (fun q=>hj q.symm)]
  have P6:PgS (QR X lo K true) O H1 a2 a8 H6 {p with ts:=p.ts++q.b}:=by
   refine⟨⟨a2,a3,b1,W1.e.same fun b hb=>?_,b8.same fun b hb=>k6 b (oN (b8.lt hb)),fun b hb q=>?_,fun j hj q1 q2 q3=>by rw[k6 j q1,S.but j hj q3],fun _ h=> .inl h,S.new⟩,?_⟩
   .have:=W1.e.lt hb;rw[k6 b oM,S.but b this.2 (W1.d b hb)]
   .have:=W1.e.lt hb;rcases S.new b q with r|r
    .exact W1.d b hb r
    .omega
   .rw[a1];exact(S.stay.wk oM).trans (d9.put lR)
  have g3:=W.trans' P6 W1.row;have u:(p.ts++q.b).length=p.ts.length+1:=by rw[dx,h8]
  have ei:(((p.ts++q.b).length:Nat):Int)-1=(p.ts.length:Int):=by rw[u];omega
  obtain⟨v7,h7,H7,g7,f4,rfl,g4,g8,_⟩:=qW (QR X lo K true) O H6 {p with ts:=p.ts++q.b} 3 p.ts.length (by show p.ed.length+1<=_;omega) t0 (by show p.st<=_;omega) _ we wt g3;have ll:H7.low<H.n:=oM;have i2:H6.g H.n=cE cs 1:=by rw[k6 _ oM,S.but _ oM (fun q=>by have:=W0.t.lt q;omega)];exact g1
  rw[a7]at cw ow b1 a1;have c7:=W1.row;rw[f8]at c7 d2 b9;rw[a7]at b9;refine J16 ac U.symm g1 q0 q2 e7 c7 b9 a6 d2 a1.symm b1 ei g7 f4 @wrap_small ?_;exact⟨H7,rfl,g4,g8⟩
 .have b7:decide (q.op=7)=false:=dt e7;rw[gX q p e4 e5 e6,bt e7,bt e2,bt e3,bt e7,bt e7];obtain⟨v5,h5,E,I,J,rfl,D,u,_⟩:=qW (QR X lo K true) O H1 p 0 0 oM t0 oM _ we wt W;have ll:E.low<H.n:=oM;refine J12 ac U.symm g1 q0 b2 b3 b4 b5 b6 b7 I J ?_;exact⟨E,rfl,D,u⟩
def Td(h:d7)(lo K:Nat):∀k,k<=K+1->BO h lo K k:=by
 intro k;induction k with
 |zero=>intro _ H E cs q p _ _ u;exact u.elim
 |succ k z=>intro D;exact Zm h lo K k oM (z oM)
def EO(K:Nat)(H:d7)(lo:Nat)(cs:LV)(q:Q)(c0:lo<=H.n)(hr:QR H lo K false cs q)(b1:OkD false q)(b6:nQ q<=100000):
  Ret (CL prog l7 66 [.agg cs.toArray] H) H (Jd H (QR H lo K true) (C9 q)):=by
 have a0:=I6 hr;have l0:=hr.len;have S:=Q6 hr;rw[l0]at S;simp only[qSz,bF]at S l0;obtain⟨J,D⟩:=eY (((d7.push ⟨H.bs,H.n⟩ (bC cs 1)).push (bC z5 1)).push (bC z5 1));have n0:(d7.push ⟨H.bs,H.n⟩ (bC cs 1)).n=H.n+1:=by rw[i4];rfl
 have b4:((d7.push ⟨H.bs,H.n⟩ (bC cs 1)).push (bC z5 1)).n=H.n+2:=by rw[i4,n0]
 have n1:J.n=H.n+3:=by rw[D,i4,b4]
 have hS:d9 H.n H J:=by rw[D];exact((d9.first H _).trans (d9.push oM)).trans (d9.push oM)
 have g1:J.g H.n=cE cs 1:=by rw[D,j5 oM,j5 oM];exact j6
 have g2:J.g (H.n+1)=cE z5 1:=by rw[D,j5 oM];exact A4 oM
 have g3:J.g (H.n+2)=cE z5 1:=by rw[D];exact A4 oM
 have a3:H.n<=J.low:=by rw[D,l9,l9,l9];exact lR
 have U:PgS (QR H lo K true) (H.n+2) J (nS) (nS) J ⟨0,0,0,[],[]⟩:=PgS.start g3 u5.nil u5.nil (fun b O=>(C6 b O).elim);obtain⟨v3,b9,H2,a1,a2,rfl,hP,hl,_⟩:=Td H lo K K oM J (H.n+2) cs q ⟨0,0,0,[],[]⟩ oM (fun j hj=>hS.g j oM) hr b1 ⟨by decide,by show(0:Int)+_<=_;omega,by simp;omega,by simp;omega⟩ _ _ _ U;obtain⟨y,hy⟩:=eY (D4 q ⟨0,0,0,[],[]⟩);rw[C9,<-hy];rw[<-hy]at a1 hP;obtain⟨we,wt,W,a4,ne,nt⟩:=hP.w;have n2:=hP.stay.n;obtain⟨ea,ec,e1⟩:=W.e.slice;obtain⟨ta,tc,e2⟩:=W.t.slice;have row0:=W.row;have a7:H2.g (H.n+1)=cE z5 1:=(a4 _ oM oM (C6 _) (C6 _)).trans g2;obtain⟨b7,b2⟩:=eY ([iV y.1.st,iV y.2.1,iV y.1.en,we,wt]:LV);obtain⟨u,z⟩:=eY ([iV y.1.st,iV y.2.1,iV y.2.2,we,wt]:LV);obtain⟨H3,E⟩:=eY ((H2.put (H.n+2) (bC [iV y.1.st,iV y.2.1,iV y.1.en,we,wt] 1)).put (H.n+2) (bC u 1));have n3:H3.n=H2.n:=by rw[E,j9,j9]
 have a9:H3.g (H.n+2)=cE u 1:=by rw[E];exact i9 (by rw[j9];omega)
 have a8:H3.g (H.n+1)=cE z5 1:=by rw[E,j7 oM,j7 oM];exact a7
 have a6:u.all oC=true:=by rw[z,e1,e2];rfl
 have l6:u.length=5:=by rw[z];rfl
 have b3:ldC (some true) (some 5) 0 u=some (.agg u.toArray):=by rw[z];rfl
 have b5:splice z5 0 u=u:=A0 _ _ (by rw[l6];rfl);obtain⟨X,I⟩:=eY (H3.put (H.n+1) (bC u 1));have n4:X.n=H3.n:=by rw[I,j9]
 have g4:X.g (H.n+1)=cE u 1:=by rw[I];exact i9 oM
 have s4:d9 H.n J X:=(hP.stay.wk oM).trans (by rw[I,E];exact((d9.put oM).trans (d9.put oM)).trans (d9.put oM));have b0:=s4.low a3;have k4:∀j,H.n+2<j->X.g j=H2.g j:=fun j hj=>by rw[I,j7 oM,E,j7 oM,j7 oM]
 have a5:PrF X (fun j=>H.n<=j/\j<X.n) (QR H lo K true) u {y.1 with sa:=y.2.1,en:=y.2.2}:=⟨we,wt,z,(W.e.same fun b O=>k4 b (oN (W.e.lt O))).frz fun b O=>by have:=W.e.lt O;omega,(W.t.same fun b O=>k4 b (oN (W.t.lt O))).frz fun b O=>by have:=W.t.lt O;omega⟩
 have b8:(some (Blk.cells [iV y.1.st,iV y.1.sa,iV y.1.en,we,wt] true 1))=cE [iV y.1.st,iV y.1.sa,iV y.1.en,we,wt] 1:=rfl;rw[i7 YK rfl _ sM];rw[z]at E;refine J16 a0 D.symm g1 S a1 a2 @row0 E.symm a9 b3 a8 a6 l6 b5 I.symm g4 ?_;exact zL a5 (hS.trans s4) b0 (fun h=>h)
def gB:List Q->Int->List Int
 |[],_=>[]
 |x::l,n=>n::gB l (n+(C9 x).st)
def km(L:List Q)(m:PrD):StD:=⟨L,L.map C9,gB L 0,m⟩
def vU(l:List PrD):∀n:Int,l.foldl (fun n p=>n+p.st) n=n+A5 l:=by
 induction l with
 |nil=>intro n;simp [A5]
 |cons p l h=>
  intro n;rw[sd,h];show _=n+(p::l).foldl (fun n p=>n+p.st) 0;rw[sd,h (0+p.st)];omega
def ya(l l2:List PrD):A5 (l++l2)=A5 l+A5 l2:=by
 show(l++l2).foldl (fun n p=>n+p.st) 0=_;rw[xo,vU];rfl
def AC(p:PrD)(l:List PrD):A5 (p::l)=p.st+A5 l:=by
 show(p::l).foldl (fun n p=>n+p.st) 0=_;rw[sd,vU];omega
def rE(l:List Q)(x:Q):∀n,gB (l++[x]) n=gB l n++[n+A5 (l.map C9)]:=by
 induction l with
 |nil=>intro n;simp [gB,A5]
 |cons y l h=>
  intro n;rw[vG,gB,h,gB,xC,AC,vG]
  congr 3;omega
def DY(x y:Q):R1 x y=R1 y x:=by
 rw[Mu,pz,pz];exact eq_comm
def Bz(L:List Q)(m:PrD)(x:Q):L0 (km L m) x=km (eu L x) m:=by
 have:(km L m).paths.any (fun y=>R1 y x)=L.any (fun y=>R1 x y):=by
  show L.any _=_
  congr 1;funext y;exact DY y x
 rw[L0,this,eu];split
 .rfl
 .simp only[km,GT,rE,Uy];rfl
def IP(q:Q):C7 q=km ((inQ false q).foldl eu []) (C9 q):=by
 have:∀(l L:List Q)(m:PrD),l.foldl L0 (km L m)=km (l.foldl eu L) m:=by
  intro l;induction l with
  |nil=>intro L m;rfl
  |cons x l h=>intro L m;rw[sd,Bz,h,sd]
 exact this (inQ false q) [] (C9 q)
def Jm(l:List Q)(P:Q->Prop)(z:∀x∈l,P x):∀L:List Q,(∀x∈L,P x)->∀x∈l.foldl eu L,P x:=by
 induction l with
 |nil=>intro L h;exact h
 |cons y l D=>
  intro L h;rw[sd];refine D (fun x u=>z x (by simp [u])) _ fun x u=>?_;unfold eu at u;split at u
  .exact h x u
  .rcases gd.1 u with u|u
   .exact h x u
   .have:x=y:=by simpa using u
    rw[this];exact z y sM
def HN(K:Nat)(Hs:d7)(lo n0 z:Nat)(m5:lo<=n0)(m8:n0<=z)(X:aa3)(l:List Q)(hl:l.length<=100000)(j3:∀x∈l,OkD false x/\nQ x<=1000) (ms:LV) (m:PrD) (H1:d7) (j0:∀j,j<lo->H1.g j=Hs.g j) (t2:aa3):
  ∀kk e H2,(∃(i:Nat)(w2 w3:aa3)(G:Nat->Prop),kk=l.length-i/\i<=l.length/\e.g 2=t2/\e.g 4=pT z/\e.g 5=iV (A5 ((l.take i).map C9))/\e.g 17=X/\e.g 18=iV l.length/\e.g 19=iV i/\0<=A5 ((l.take i).map C9)/\A5 ((l.take i).map C9)<=2000*i/\
    H2.g z=cE (X::w2::w3::ms) 1/\PrF H2 G (QR Hs lo K true) ms m/\SlF H2 G 3 (QR Hs lo K false) X l/\u5 H2 (z+1) 5 (PrF H2 G (QR Hs lo K true)) w2 ((l.take i).map C9)/\u5 H2 (z+1) 1 (y7 inE) w3 (gB (l.take i) 0)/\
    (∀j,G j->n0<=j/\j<H2.n/\j≠z/\¬j8 w2 j/\¬j8 w3 j)/\(∀j,j8 w2 j->¬j8 w3 j)/\d9 n0 H1 H2)->
  u7 (LE prog l7 (.loop UU) e H2) (fun o e H2=>o= .exit 0/\e.g 2=t2/\e.g 4=pT z/\∃(w2 w3:aa3)(G:Nat->Prop),H2.g z=cE (X::w2::w3::ms) 1/\PrF H2 G (QR Hs lo K true) ms m/\SlF H2 G 3 (QR Hs lo K false) X l/\u5 H2 (z+1) 5 (PrF H2 G (QR Hs lo K true)) w2 (l.map C9)/\u5 H2 (z+1) 1 (y7 inE) w3 (gB l 0)/\(∀j,G j->n0<=j/\j<H2.n/\j≠z)/\d9 n0 H1 H2):=by
 refine i5 _ _ ?_;rintro kk e H2 ⟨i,w2,w3,G,m3,hi,f2,f4,f5,e3,c4,e4,m1,m2,g4,d3,b5,a3,E,hG,d2,hS⟩;have m6:=hS.n;have g1:=u6 g4;rcases b:decide ((i:Int)<l.length)with _|_
 .have i2:=dF b;have:l.take i=l:=kC oM;rw[this]at a3 E;refine J3 c4 e4 b ?_;exact i6 ⟨rfl,f2,f4,w2,w3,G,g4,d3,b5,a3,E,fun j u=>⟨(hG j u).1,(hG j u).2.1,(hG j u).2.2.1⟩,hS⟩
 have i2:=dT b;have f9:=b5.slice;obtain⟨la,lc,c3⟩:=f9;have b9:=b5;rw[c3]at b9;obtain⟨x,nb,o,l1,own,el,hx,hd,j2,m0,j1,m4,g6,hc,hR⟩:=b9.row (i:=i) oM;subst j2;have nt:(i:Int).toNat=i:=tN i;obtain⟨g0,m7⟩:=j3 x (mG hx);have k8:=gY x;have d4:l.take (i+1)=l.take i++[x]:=by rw[Hq,hx];rfl
 have a1:=I6 hR;have e1:=hR.len;simp only[qSz,bF]at e1;have g7:=Q6 hR;rw[e1]at g7;have h7:∀j,j<lo->H2.g j=Hs.g j:=fun j u=>by rw[hS.g j oM,j0 j u]
 obtain⟨H3,i0,n3,g3,s3⟩:=pushP H2 (bC [iV 0,nS,nS] 1) (bC el 1);have k4:splice [iV 0,nS,nS] 0 el=el:=A0 _ _ (by rw[e1];rfl);have d5:∀j,j<lo->H3.g j=Hs.g j:=fun j u=>by rw[s3.g j oM,h7 j u]
 obtain⟨v3,l3,H4,i3,f8,D,rfl,a4,s4⟩:=EO K H3 lo el x oM (hR.mono d5 lR) g0 oM;have n4:=s4.n;have a5:=kP a4;have l5:=fj a4;have g2:PrF H4 (fun j=>H3.n<=j/\j<H4.n) (QR Hs lo K true) D (C9 x):=a4.mono (fun _ _=>rfl) (fun _ h=>h) (fun _ _ h=>h.mono (fun j u=>(d5 j u).symm) lR);obtain⟨H5,i1,n5,g5,s5⟩:=pushP H4 (bC z5 1) (bC D 1);have k7:splice z5 0 D=D:=A0 _ _ (by rw[l5];rfl);have b2:d9 H2.n H2 H5:=(s3.trans (s4.wk oM)).trans (s5.wk oM);have b3:H5.g z=cE (X::w2::w3::ms) 1:=(b2.g z g1).trans g4;have g8:=fj d3;obtain⟨G2,c7⟩:=eY (fun j=>G j\/(H3.n<=j/\j<H4.n):Nat->Prop);have U:∀j,G j->G2 j:=fun j u=>by rw[c7];exact .inl u
 have b6:∀j,G2 j->n0<=j/\j<H4.n/\j≠z/\¬j8 w2 j/\¬j8 w3 j:=fun j u=>by
  rw[c7]at u;rcases u with u|u
  .have:=hG j u;exact⟨this.1,oM,this.2.2⟩
  .exact⟨oM,u.2,oM,fun q=>by have:=a3.lt q;omega,fun q=>by have:=E.lt q;omega⟩
 have b1:∀j,G j->H5.g j=H2.g j:=fun j u=>b2.g j (hG j u).2.1;have g9:∀j,(H3.n<=j/\j<H4.n)->H5.g j=H4.g j:=fun j u=>s5.g j u.2;have d1:PrF H5 G2 (QR Hs lo K true) D (C9 x):=g2.mono g9 (fun j u=>by rw[c7];exact .inr u) iF;have f1:u5 H5 (z+1) 5 (PrF H5 G2 (QR Hs lo K true)) w2 ((l.take i).map C9):=(a3.keep b2).imp fun cs p h=>h.mono b1 U iF;obtain⟨u2,l4,H7,f6,b7,a2,J⟩:=f1.push1F (P:=prog) (t:=37) (cs:=D) (a:=C9 x) (by exact TY.2.2.2.2.2.2) uY.1 uY.2.1 uY.2.2.1 oM oM l5 d1 (by simp;omega) oM;have n7:=J.n;obtain⟨H6,c9,n6,-⟩:=pushE H5 (bC D 5);rw[<-c9]at f6 b7;have e8:H6.g z=cE (X::w2::w3::ms) 1:=by rw[c9,j5 oM];exact b3
 have b4:H7.g z=cE (X::w2::w3::ms) 1:=(J.but z oM (fun q=>by have:=a3.lt q;omega)).trans b3;have f3:u5 H7 (z+1) 1 (y7 inE) w3 (gB (l.take i) 0):=(E.keep b2).same fun b hb=>J.but b (oN (E.lt hb)) (fun q=>d2 b q hb);obtain⟨u3,l6,H9,f7,b8,a8,W⟩:=f3.push1F (P:=prog) (t:=38) (cs:=inE (A5 ((l.take i).map C9))) (a:=A5 ((l.take i).map C9)) (by exact BE.2.2.2.2.2.2) ty3.1 ty3.2.1 ty3.2.2.1 oM oM rfl rfl (by
  have:∀(l:List Q) n,(gB l n).length=l.length:=by
   intro l;induction l with
   |nil=>intro n;rfl
   |cons y l ih=>intro n;rw[gB,kO,ih,kO]
  rw[this];simp;omega) oM
 have n9:=W.n;obtain⟨H8,d0,n8,-⟩:=pushE H7 (.cells (inE (A5 ((l.take i).map C9))) true 1);rw[<-d0]at f7 b8;have e9:H8.g z=cE (X::w2::w3::ms) 1:=by rw[d0,j5 oM];exact b4
 have f0:H9.g z=cE (X::w2::w3::ms) 1:=(W.but z oM (fun q=>by have:=E.lt q;omega)).trans b4;obtain⟨ub,o0,d6⟩:=a2.slice;have k0:Value.oneCell' u2=true:=by rw[d6];rfl
 have h5:u2.cells.toList=[u2]:=by rw[d6];rfl
 obtain⟨n2,k9,e2⟩:=a8.slice;have k1:Value.oneCell' u3=true:=by rw[e2];rfl
 have h6:u3.cells.toList=[u3]:=by rw[e2];rfl
 obtain⟨R8,a9⟩:=eY (X::w2::w3::ms);rw[<-a9]at b3 e8 b4 e9 f0;have l8:R8.length=8:=by rw[a9];simp [g8]
 have k2:R8[1]?=some w2:=by rw[a9];rfl
 have k3:R8[2]?=some w3:=by rw[a9];rfl
 obtain⟨a7,b0⟩:=eY (X::u2::w3::ms);have k5:splice R8 1 [u2]=a7:=by rw[a9,b0];rfl
 have lb:a7.length=8:=by rw[b0];simp [g8]
 have k6:splice a7 2 [u3]=X::u2::u3::ms:=by rw[b0];rfl
 obtain⟨a6,O⟩:=eY (H9.put z (bC a7 1));have m9:a6.n=H9.n:=by rw[O,j9]
 have e6:a6.g z=cE a7 1:=by rw[O];exact i9 oM
 obtain⟨I,S⟩:=eY (a6.put z (bC (X::u2::u3::ms) 1));have n1:I.n=a6.n:=by rw[S,j9]
 have h8:I.g z=cE (X::u2::u3::ms) 1:=by rw[S];exact i9 oM
 have c5:∀j,j≠z->I.g j=H9.g j:=fun j u=>by rw[S,j7 (fun q=>u q.symm),O,j7 (fun q=>u q.symm)]
 have e5:∀j,j<H5.n->j≠z->¬j8 w2 j->¬j8 w3 j->I.g j=H5.g j:=fun j u h1 h2 h3=>by rw[c5 j h1,W.but j oM h3,J.but j u h2]
 have e7:I.g H4.n=cE D 1:=(e5 _ oM oM (fun q=>by have:=a3.lt q;omega) (fun q=>by have:=E.lt q;omega)).trans g5;have j4:ldC (some true) (some 5) 0 D=some (.agg D.toArray):=by obtain⟨_,_,_,_,rfl,_⟩:=F0 a4;rfl
 have h4:D[0]?=some (.int .i64 (C9 x).st):=by obtain⟨_,_,_,_,rfl,_⟩:=F0 a4;rfl
 have h0:bsA prog (some 41) H5 1 [(0,.agg D.toArray)]=some (sL H5.n 1 1,H6):=by
  rw[c9];obtain⟨_,_,_,_,rfl,_⟩:=F0 a4;simp only[E4,uY,E5];rfl
 have h9:=j1;have c8:I=a6.put z (.cells (.slice (some ⟨nb,o,none⟩) l.length lc::u2::u3::ms) true 1):=by rw[S,c3]
 refine J30 f4 f5 e3 c4 e4 c3 b h9 nt (aI g6 a1) (aI e1 k4) (aI i0.symm g3) (aI g7 i3) (aI f8 a5) (aI l5 k7) (aI i1.symm g5) (aI b3 e8) (aI b4 e9) (aI f0 k2) (aI k3 j4) (aI h0 f6) (aI b7 d0.symm) (aI f7 b8) (aI l8 k0) (aI h5 k5) (aI O.symm e6) (aI lb k1) (aI h6 k6) (aI c8.symm e7) (aI h4 @wrap_small) ?_;have c6:∀j,G2 j->I.g j=H5.g j:=fun j u=>by
  obtain⟨q1,q2,q3,q4,q5⟩:=b6 j u;exact e5 j oM q3 q4 q5
 have c0:A5 ((l.take (i+1)).map C9)=A5 ((l.take i).map C9)+(C9 x).st:=by rw[d4,GT,ya,List.map_singleton];simp [A5]
 have eb:gB (l.take (i+1)) 0=gB (l.take i) 0++[A5 ((l.take i).map C9)]:=by rw[d4,rE,Uy]
 have em:(l.take (i+1)).map C9=(l.take i).map C9++[C9 x]:=by rw[d4,GT];rfl
 refine d8 (kk-1) oM ⟨i+1,u2,u3,G2,oM,oM,f2,f4,by rw[c0];rfl,e3,c4,rfl,by rw[c0];omega,by rw[c0];omega,h8,?_,?_,?_,?_,?_,?_,?_⟩
 .exact d3.mono (fun j u=>by rw[c6 j (U j u),b1 j u]) U iF
 .exact b5.mono (fun j u=>by rw[c6 j (U j u),b1 j u]) U iF
 .rw[em];refine(a2.same (H':=I) fun b hb=>?_).imp fun cs p h=>h.mono c6 (fun _ h=>h) iF;have h1:=a2.lt hb;have h2:¬j8 w3 b:=by
   rcases J.new b hb with q|q
   .exact d2 b q
   .exact fun q=>oN (E.lt q)
  rw[c5 b oM,W.but b oM h2]
 .rw[eb];exact a8.same fun b hb=>c5 b (oN (a8.lt hb))
 .intro j u;obtain⟨q1,q2,q3,q4,q5⟩:=b6 j u;refine⟨q1,oM,q3,fun q=>?_,fun q=>?_⟩
  .rcases J.new j q with q|q
   .exact q4 q
   .omega
  .rcases W.new j q with q|q
   .exact q5 q
   .omega
 .intro j u q;have h1:=a2.lt u;rcases W.new j q with q|q
  .have:=E.lt q;rcases J.new j u with r|r
   .exact d2 j r q
   .omega
  .omega
 .exact(((hS.trans (b2.wk oM)).trans (J.stay.wk oM)).trans (W.stay.wk oM)).trans (by rw[S,O];exact(d9.put oM).trans (d9.put oM))
def Ek(K:Nat)(H:d7)(lo:Nat)(cs:LV)(q:Q)(h1:lo<=H.n)(hr:QR H lo K false cs q)(b3:OkD false q)(g8:nQ q<=1000):
  Ret (CL prog l7 43 [.agg cs.toArray] H) H (BP H (QR H lo K false) (QR H lo K true) (C7 q)):=by
 have a0:=I6 hr;have l0:=hr.len;have b4:=Q6 hr;rw[l0]at b4;simp only[qSz,bF]at b4 l0;obtain⟨X,O⟩:=eY (((d7.push ⟨H.bs,H.n⟩ (bC cs 1)).push (bC z8 1)).push (bC [nS] 1));have n0:(d7.push ⟨H.bs,H.n⟩ (bC cs 1)).n=H.n+1:=by rw[i4];rfl
 have f9:((d7.push ⟨H.bs,H.n⟩ (bC cs 1)).push (bC z8 1)).n=H.n+2:=by rw[i4,n0]
 have n1:X.n=H.n+3:=by rw[O,i4,f9]
 have hS:d9 H.n H X:=by rw[O];exact((d9.first H _).trans (d9.push oM)).trans (d9.push oM)
 have g1:X.g H.n=cE cs 1:=by rw[O,j5 oM,j5 oM];exact j6
 have g2:X.g (H.n+1)=cE z8 1:=by rw[O,j5 oM];exact A4 oM
 have g3:X.g (H.n+2)=cE [nS] 1:=by rw[O];exact A4 oM
 have c4:H.n<=X.low:=by rw[O,l9,l9,l9];exact lR
 have f7:QR X lo K false cs q:=hr.mono (fun j D=>hS.g j oM) lR;obtain⟨v2,h2,H2,f1,b9,rfl,⟨⟨w,gm,hO,_,b6,h4⟩,s2⟩,_⟩:=(ON K).1 X lo (H.n+2) K (nS) [] cs q lR oM g3 u5.nil f7 b3 (by simp;omega);have n2:=s2.n;have d6:H2.g H.n=cE cs 1:=(b6 _ oM oM (C6 _)).trans g1;have e1:H2.g (H.n+1)=cE z8 1:=(b6 _ oM oM (C6 _)).trans g2;obtain⟨h0,c6⟩:=eA _ false q lR b3;obtain⟨L,hL⟩:=eY ((inQ false q).foldl eu []);have g9:L.length<=1000:=by have:=fO (inQ false q) [];rw[<-hL]at this;simp at this;omega
 have f0:∀x∈L,OkD false x/\nQ x<=1000:=by
  rw[hL];exact Jm _ _ (fun x hx=>by have:=c6 x hx;exact⟨this.1,oM⟩) [] sM
 rw[<-hL]at hO;rw[IP,<-hL];obtain⟨wa,wc,ew⟩:=hO.slice;have a9:∀j,j<lo->H2.g j=H.g j:=fun j D=>by rw[s2.g j oM,hS.g j oM]
 obtain⟨v3,h3,H3,f3,c0,I,rfl,a4,s3⟩:=EO K H2 lo cs q oM (hr.mono a9 lR) b3 oM;have n3:=s3.n;have a5:=kP a4;have l5:=fj a4;have d0:PrF H3 (fun j=>H2.n<=j/\j<H3.n) (QR H lo K true) I (C9 q):=a4.mono (fun _ _=>rfl) (fun _ h=>h) (fun _ _ h=>h.mono (fun j D=>(a9 j D).symm) lR);obtain⟨ea,ec,ta,tc,c7,he,ht⟩:=F0 a4;have b0:H3.g (H.n+2)=cE [w] 1:=(s3.g _ oM).trans gm;obtain⟨H4,b1,n4,e4,-⟩:=pushE H3 (bC z8 1);have e8:H4.g (H.n+2)=cE [w] 1:=by rw[b1,j5 oM];exact b0
 obtain⟨J,S⟩:=eY (w::nS::nS::I:LV);have a8:J.length=8:=by rw[S];simp [l5]
 have ow:Value.oneCell' w=true:=by rw[ew];rfl
 have cw:w.cells.toList=[w]:=by rw[ew];rfl
 have b5:J.all oC=true:=by rw[S];simp only[sS,a5,ow];rfl
 have g6:splice (splice z8 0 [w]) 3 I=J:=by rw[S,c7];rfl
 have d2:splice [w,nS,nS,iV 0,iV 0,iV 0,nS,nS] 3 I=J:=g6;have g7:splice z8 0 J=J:=A0 _ _ (by rw[a8];rfl);obtain⟨U,a1⟩:=eY (H4.put H3.n (bC J 1));have n5:U.n=H4.n:=by rw[a1,j9]
 have s5:d9 H3.n H3 U:=by rw[a1,b1];exact(d9.push lR).trans (d9.put lR)
 have g5:U.g H3.n=cE J 1:=by rw[a1];exact i9 oM
 have e9:U.g (H.n+2)=cE [w] 1:=(s5.g _ oM).trans b0;have a7:d9 H2.n H2 U:=s3.trans (s5.wk oM);have e5:U.g (H.n+1)=cE z8 1:=(a7.g _ oM).trans e1;have d3:∀j,j<lo->U.g j=H.g j:=fun j D=>by rw[a7.g j oM,a9 j D]
 obtain⟨G,hG⟩:=eY (fun j=>j8 w j\/(H2.n<=j/\j<H3.n):Nat->Prop);have f6:SlF U G 3 (QR H lo K false) w L:=((hO.keep a7).frz fun b hb=>by rw[hG];exact .inl hb).mono (fun _ _=>rfl) (fun _ h=>h) (fun _ _ h=>h.mono (fun j D=>(hS.g j oM).symm) lR);have c8:PrF U G (QR H lo K true) I (C9 q):=d0.mono (fun j D=>s5.g j D.2) (fun j D=>by rw[hG];exact .inr D) iF;have g0:d9 H.n X U:=(s2.wk oM).trans (a7.wk oM);have d4:w= .slice wa L.length wc:=ew;have c3:∀Hx:d7,E6 prog .len [33] [w] Hx=some (.int .i64 L.length,none):=fun Hx=>by
  rw[d4];exact J1 qJ trivial
 rw[i7 WV rfl _ sM];refine J25 a0 O.symm g1 b4 f1 b9 gm d6 f3 c0 b0 b1.symm e8 ow cw l5 a5 d2 a8 b5 g7 e4 a1.symm e9 c3 ?_;refine i8 (F:=fun z=>Ret (t6 _ _ _ (t7 (inBlock 0 z) _)) _ _) (HN K H lo (H.n+3) H3.n oM oM w L oM f0 I (C9 q) U d3 (pT (H.n+1)) L.length _ _ ⟨0,nS,nS,G,rfl,oM,rfl,rfl,rfl,rfl,rfl,rfl,by simp [A5],by simp [A5],by rw[<-S];exact g5,c8,f6,u5.nil,u5.nil,fun j D=>?_,fun j D=>(C6 j D).elim,d9.refl _ _⟩) ?_
 .rw[hG]at D;rcases D with D|D
  .have:=hO.lt D;exact⟨oM,oM,oM,C6 j,C6 j⟩
  .exact⟨oM,oM,oM,C6 j,C6 j⟩
 rintro o e' H6 ⟨ho,f2,f4,w2,w3,G',b7,c9,c5,a2,a3,b8,b2⟩;have n6:=b2.n;have e6:H6.g (H.n+1)=cE z8 1:=(b2.g _ oM).trans e5;obtain⟨rb,rd,e2⟩:=a2.slice;obtain⟨re,rf,e3⟩:=a3.slice;obtain⟨u,E⟩:=eY (w::w2::w3::I:LV);rw[<-E]at b7;have f8:ldC (some true) (some 8) 0 u=some (.agg u.toArray):=by rw[E,e2,e3,c7];rfl
 have a6:u.all oC=true:=by rw[E,e2,e3];simp only[sS,a5,ow];rfl
 have l6:u.length=8:=by rw[E];simp [l5]
 have g4:splice z8 0 u=u:=A0 _ _ (by rw[l6];rfl);obtain⟨H7,W⟩:=eY (H6.put (H.n+1) (bC u 1));have n7:H7.n=H6.n:=by rw[W,j9]
 have e7:H7.g (H.n+1)=cE u 1:=by rw[W];exact i9 oM
 have d1:d9 H.n X H7:=by rw[W];exact(g0.trans (b2.wk oM)).trans (d9.put oM)
 have s7:d9 H.n H H7:=hS.trans d1;have f5:H.n<=H7.low:=d1.low c4;have k7:∀j,H.n+2<=j->H7.g j=H6.g j:=fun j D=>by rw[W,j7 oM]
 have d5:StF H7 (fun j=>H.n<=j/\j<H7.n) (QR H lo K false) (QR H lo K true) u (km L (C9 q)):=by
  have gg:∀j,G' j->H7.g j=H6.g j:=fun j D=>k7 j (oN (b8 j D));have gs:∀j,G' j->H.n<=j/\j<H7.n:=fun j D=>oN (b8 j D);refine⟨w,w2,w3,I,E,?_,?_,?_,?_⟩
  .exact c5.mono gg gs iF
  .exact((a2.same fun b hb=>k7 b (oN (a2.lt hb))).imp fun cs p h=>h.mono gg gs iF).frz fun b hb=>oN (a2.lt hb)
  .exact(a3.same fun b hb=>k7 b (oN (a3.lt hb))).frz fun b hb=>oN (a3.lt hb)
  .exact c9.mono gg gs iF
 refine J11 ho f2 f4 b7 f8 e6 a6 l6 g4 W.symm e7 ?_;exact wV d5 s7 f5 (fun h=>h)
def bX(b:Bool):aa3:= .int .u8 (if b then 1 else 0)
def xr(b:Bool):LV:=[bX b]
structure PWf(p:PrD):Prop where
 st:0<=p.st/\p.st<=1000000
 sa:0<=p.sa/\p.sa<p.st
 en:0<=p.en/\p.en<p.st
 ed:∀x∈p.ed,0<=x.1/\x.1<p.st/\0<=x.2.1/\x.2.1<p.st/\(x.2.2.1=3->0<=x.2.2.2/\x.2.2.2<p.ts.length)
structure WfS(s:StD)(n:Nat):Prop where
 l1:s.progs.length=s.paths.length
 l2:s.base.length=s.paths.length
 l0:s.paths.length<=100000
 nle:n<=1000000
 at_:∀(i:Nat) p b,s.progs[i]?=some p->s.base[i]?=some b->0<=b/\b+p.st<=n/\PWf p
def C3(k:Int)(nm:NmQ):List AtD->aa2×Bool
 |[]=>(eB,false)
 |a::l=>if P0 (a.space,a.loc) nm then(a.val,decide (k=1)) else C3 k nm l
def cr(bs:List Bool)(n:Int):Bool:=bs.getD n.toNat false
def gQ(s:StD)(bs:List Bool)(p:Q):Bool:=decide (0<=mT s.paths p)&&cr bs (s.base.getD (mT s.paths p).toNat 0+(s.progs.getD (mT s.paths p).toNat ⟨0,0,0,[],[]⟩).sa)
mutual
def E9(s:StD)(e:EvD)(bs:List Bool):Q->Bool
 | .mk o sp lc vl a b=>if o=1 then true else if o=2 then decide (e.kind=1) else if o=3 then !decide (e.kind=1) else if o=4 then decide (e.kind=1)&&P0 (e.space,e.loc) (sp,lc) else
  if o=5 then(C3 e.kind (sp,lc) e.attrs).2 else if o=6 then(C3 e.kind (sp,lc) e.attrs).2&&decide ((C3 e.kind (sp,lc) e.attrs).1=vl) else if o=7 then !decide (e.kind=1)&&decide (e.text=vl) else
  if o=8\/o=9 then(anyF s e bs a==decide (o=8)) else if o=10 then anyH s e bs a else b.any (gQ s bs)
def anyH(s:StD)(e:EvD)(bs:List Bool):List Q->Bool
 |[]=>false
 |x::l=>E9 s e bs x||anyH s e bs l
def anyF(s:StD)(e:EvD)(bs:List Bool):List Q->Bool
 |[]=>false
 |x::l=> !E9 s e bs x||anyF s e bs l
end
def EC(s:StD)(e:EvD)(bs:List Bool):∀l,anyH s e bs l=l.any (E9 s e bs)
 |[]=>by rw[anyH];rfl
 |x::l=>by rw[anyH,EC s e bs l,Ic]
def EB(s:StD)(e:EvD)(bs:List Bool):∀l,anyF s e bs l=l.any (fun x=> !E9 s e bs x)
 |[]=>by rw[anyF];rfl
 |x::l=>by rw[anyF,EB s e bs l,Ic]
def vS(s:StD)(e:EvD)(bs:List Bool)(q:Q):E9 s e bs q=if q.op=1 then true else if q.op=2 then decide (e.kind=1) else if q.op=3 then !decide (e.kind=1) else if q.op=4 then decide (e.kind=1)&&P0 (e.space,e.loc) (q.sp,q.lc) else
  if q.op=5 then(C3 e.kind (q.sp,q.lc) e.attrs).2 else if q.op=6 then(C3 e.kind (q.sp,q.lc) e.attrs).2&&decide ((C3 e.kind (q.sp,q.lc) e.attrs).1=q.vl) else if q.op=7 then !decide (e.kind=1)&&decide (e.text=q.vl) else
  if q.op=8\/q.op=9 then(q.a.any (fun x=> !E9 s e bs x)==decide (q.op=8)) else if q.op=10 then q.a.any (E9 s e bs) else q.b.any (gQ s bs):=by
 cases q;rw[E9,EC,EB];rfl
def TQ(k:Nat)(H:d7)(lo W:Nat)(h el:LV)(x y:Q)(a2:lo<=H.n)(X:H.g W=cE h 1)(U:QR H lo k false h x)(I:QR H lo k false el y):
  CL prog l7 165 [.agg el.toArray,pT W] H=some (.bool (R1 y x),none):=by
 have a0:el.all oC=true:=I6 I;have u:=Q6 U;have z:=Q6 I;rw[U.len]at u;rw[I.len]at z;simp only[qSz,bF]at u z;obtain⟨J,D,-,g1,E⟩:=pushF H (bC el 1);have n1:=E.n;have S:=u6 X;have gx:J.g W=cE h 1:=(E.g _ S).trans X;have a1:H.n<=J.low:=by rw[D,l9];exact lR
 have O:=(lL k).1 J lo el h y x oM (I.mono (fun j hj=>E.g j oM) lR) (U.mono (fun j hj=>E.g j oM) lR);rw[i7 WI rfl _ sM];exact J7 a0 D.symm g1 gx u z O trivial
def Eh(K:Nat)(H I:d7)(F:Nat->Prop)(lo:Nat)(Rt:LV->Q->Prop)(cs el:LV)(s:StD)(x:Q)(a5:lo<=H.n)(hF:∀j,F j->j<H.n) (W:∀j,j<lo->H.g j=I.g j) (hs:StF H F (QR I lo K false) Rt cs s) (hx:QR I lo K false el x) (hn:s.paths.length<=100000):
  CL prog l7 162 [.agg cs.toArray,.agg el.toArray] H=some (.int .i64 (mT s.paths x),none):=by
 obtain⟨pa,pc,ga,gc,ba,bc,ea,ec,ta,tc,E,h1,h2,h3,h4,h5⟩:=I0 hs;have a0:cs.all oC=true:=by rw[E];rfl
 have r1:cs[0]?=some (.slice pa s.paths.length pc):=by rw[E];rfl
 have a1:=I6 hx;obtain⟨u,z⟩:=eY ((d7.push ⟨H.bs,H.n⟩ (bC cs 1)).push (bC el 1));have n0:(d7.push ⟨H.bs,H.n⟩ (bC cs 1)).n=H.n+1:=by rw[i4];rfl
 have S:d9 H.n H u:=by rw[z];exact(d9.first H _).trans (d9.push oM)
 have g1:u.g H.n=cE cs 1:=by rw[z,j5 oM];exact j6
 have g2:u.g (H.n+1)=cE el 1:=by rw[z];exact A4 oM
 have a4:H.n<=u.low:=by rw[z,l9,l9];exact lR
 have a6:=S.n;have D:∀j,j<lo->u.g j=I.g j:=fun j X=>by rw[S.g j oM,W j X]
 have O:SlF u F 3 (QR u lo K false) (.slice pa s.paths.length pc) s.paths:=h1.mono (fun j X=>S.g j (hF j X)) (fun _ h=>h) (fun _ _ h=>h.mono D lR);have a2:QR u lo K false el x:=hx.mono D lR;have U:=sH (α:=Q) u F (QR u lo K false) (.func (.func 165) #[] #[pT (H.n+1)]) (fun y=>R1 y x) (.slice pa s.paths.length pc) s.paths O oM (fun i y J hy a3=>TQ K _ lo (H.n+1) el J x y (show lo<=u.n from oM) g2 (a2.mono (H:=u) (H':=⟨u.bs,u.n⟩) (fun _ _=>rfl) lR) (a3.mono (H:=u) (H':=⟨u.bs,u.n⟩) (fun _ _=>rfl) lR));rw[i7 WH rfl _ sM];refine J6 a0 a1 z.symm g1 r1 U ?_;rfl
structure jy(Hs:d7)(lo K pn:Nat)(s:StD)(e:EvD)(bs:List Bool)(F:Nat->Prop)(H:d7):Prop where
 ex:∃rs re ba bc,H.g pn=some (.cells (rs++(re++[.slice ba bs.length bc])) true 1)/\StF H F (QR Hs lo K false) (QR Hs lo K true) rs s/\EvF H F re e/\SlF H F 1 (y7 xr) (.slice ba bs.length bc) bs
 lt:∀j,F j->j<H.n
 eq:∀j,j<lo->H.g j=Hs.g j
 lo:lo<=H.n
def jy.work{I:d7}{lo K E:Nat}{s:StD}{e:EvD}{bs:List Bool}{F:Nat->Prop}{H H':d7}(h:jy I lo K E s e bs F H)(z:d9 H.n H H'):jy I lo K E s e bs F H':=by
 obtain⟨⟨rs,re,S,U,J,W,X,h4⟩,O,h6,h7⟩:=h;have hn:=z.n;have D:∀j,F j->H'.g j=H.g j:=fun j u=>z.g j (O j u);exact⟨⟨rs,re,S,U,(z.g E (u6 J)).trans J,W.mono D (fun _ h=>h) iF iF,A3 _ _ _ _ _ _ X D (fun _ h=>h),h4.mono D (fun _ h=>h) iF⟩,fun j u=>by have:=O j u;omega,fun j u=>by rw[z.g j oM];exact h6 j u,oM⟩
def jy.low{u:d7}{lo K z:Nat}{s:StD}{e:EvD}{bs:List Bool}{F:Nat->Prop}{H:d7}(h:jy u lo K z s e bs F H)(n:Nat):jy u lo K z s e bs F ⟨H.bs,n⟩:=by
 obtain⟨⟨rs,re,D,E,I,J,O,S⟩,U,W,X⟩:=h;exact⟨⟨rs,re,D,E,I,J.mono (fun _ _=>rfl) (fun _ h=>h) iF iF,A3 _ _ _ _ _ _ O (fun _ _=>rfl) (fun _ h=>h),S.mono (fun _ _=>rfl) (fun _ h=>h) iF⟩,U,W,X⟩
def Gc(u:d7)(F:Nat->Prop)(hF:∀j,F j->j<u.n) (pn px:Nat) (X:LV) (g:u.g pn=cE X 1) (kd:Int) (r8:X[8]?=some (.int .i64 kd)) (nm:NmQ) (gx:u.g px=cE (nmE nm) 1) (va:Option Addr) (ca:Nat) (l:List AtD) (hv:SlF u F 3 (y7 atE) (.slice va l.length ca) l) (hn:l.length<=1000000) (r:aa2×Bool):
  ∀kk e H2,(∃i:Nat,kk=l.length-i/\i<=l.length/\e.g 0=pT pn/\e.g 3=pT px/\e.g 12= .slice va l.length ca/\e.g 13=iV l.length/\e.g 14=iV i/\d9 u.n u H2/\C3 kd nm (l.drop i)=r)->
  u7 (LE prog l7 (.loop RV) e H2) (fun o e H2=>d9 u.n u H2/\((o= .exit 0/\r=(eB,false))\/(o= .ret/\e.g 4= .string r.1/\e.g 5= .bool r.2))):=by
 refine i5 _ _ ?_;rintro kk e H2 ⟨i,hk,hi,f0,f3,I,z,J,O,D⟩;rcases b:decide ((i:Int)<l.length)with _|_
 .have a4:=dF b;have:l.drop i=[]:=dN oM;rw[this,C3]at D;refine J3 z J b ?_;exact i6 ⟨O,.inl ⟨rfl,D.symm⟩⟩
 have a4:=dT b;have a8:=O.n;have a5:=u6 g;have a6:=u6 gx;obtain⟨a,nb,o,cs,own,el,hx,hd,rfl,a3,hg,a7,W,hc,rfl⟩:=hv.row (i:=i) oM;have nt:(i:Int).toNat=i:=tN i;have g2:=(O.g nb (hF _ a3)).trans hg;obtain⟨H3,U,n3,g3,s3⟩:=pushP H2 (bC [.string eB,.string eB,.string eB] 1) (bC [.string a.space,.string a.loc,.string a.val] 1);have a2:=(s3.g pn oM).trans ((O.g pn a5).trans g);have S:=(s3.g px oM).trans ((O.g px a6).trans gx);have h:ldC (some true) (some 3) (o+i*3) cs=some (.agg #[.string a.space,.string a.loc,.string a.val]):=W;have a1:d9 u.n u H3:=O.trans (s3.wk oM);rw[hd,C3]at D;rcases b2:P0 (a.space,a.loc) nm with _|_
 .simp only[b2,bF]at D;have E:(decide (a.space=nm.1)&&decide (a.loc=nm.2))=false:=b2;refine J13 f3 I z J b g2 nt h U.symm g3 S E @wrap_small ?_;exact d8 (kk-1) oM ⟨i+1,oM,oM,f0,f3,I,z,rfl,a1,D⟩
 .simp only[b2,jd]at D;have E:(decide (a.space=nm.1)&&decide (a.loc=nm.2))=true:=b2;refine J15 f0 f3 I z J b g2 nt h U.symm g3 S E a2 r8 ?_;exact y9 ⟨a1,.inr ⟨rfl,by rw[<-D];rfl,by rw[<-D];rfl⟩⟩
def TM(Hs:d7)(lo K pn:Nat)(s:StD)(e:EvD)(bs:List Bool)(F:Nat->Prop)(H:d7)(hN:jy Hs lo K pn s e bs F H)(nm:NmQ)(hl:e.attrs.length<=1000000):
  CL prog l7 152 [pT pn,.agg (nmE nm).toArray] H=some (.tuple #[.string (C3 e.kind nm e.attrs).1,.bool (C3 e.kind nm e.attrs).2],none):=by
 obtain⟨H1,J,-,gx,hS⟩:=pushF H (bC (nmE nm) 1);have u:H.n<=H1.low:=by rw[J,l9];exact lR
 have U:=hS.n;obtain⟨⟨rs,re,ba,bc,g,hs,⟨av,W,S⟩,hb⟩,hF,_,_⟩:=hN.work hS;obtain⟨pa,pc,ga,gc,xa,xc,ea,ec,ta,tc,X,_⟩:=I0 hs;obtain⟨E,I,rfl⟩:=S.slice;obtain⟨D,h⟩:=eY (rs++(re++[.slice ba bs.length bc]));rw[<-h]at g;have r8:D[8]?=some (.int .i64 e.kind):=by rw[h,X,W];rfl
 have a2:D[11]?=some (.slice E e.attrs.length I):=by rw[h,X,W];rfl
 rw[i7 Qp rfl _ sM];refine J3 J.symm g a2 ?_;refine i8 (F:=fun z=>t6 _ _ _ (t7 (inBlock 0 z) _)=_) (Gc H1 F hF pn H.n D g e.kind r8 nm gx E I e.attrs S hl (C3 e.kind nm e.attrs) e.attrs.length _ _ ⟨0,rfl,oM,rfl,rfl,rfl,rfl,rfl,d9.refl _ _,rfl⟩) ?_;rintro o e' H' ⟨O,⟨ho,hr⟩|⟨ho,h4,h5⟩⟩
 .have a1:=(O.wk U).low u;exact J2 ho hr trivial
 .have a1:=(O.wk U).low u;exact J3 ho h4 h5 trivial
def TO(Hs:d7)(lo K pn:Nat)(s:StD)(e:EvD)(bs:List Bool)(F:Nat->Prop)(H:d7)(hN:jy Hs lo K pn s e bs F H)(X:WfS s bs.length)(el:LV)(x:Q)(hx:QR Hs lo K false el x):
  CL prog l7 155 [pT pn,.agg el.toArray] H=some (.bool (gQ s bs x),none):=by
 have a1:=I6 hx;have J:=Q6 hx;rw[hx.len]at J;simp only[qSz,bF]at J;obtain⟨H1,W,-,gx,hS⟩:=pushF H (bC el 1);have d6:H.n<=H1.low:=by rw[W,l9];exact lR
 have f2:=hS.n;obtain⟨⟨rs,re,ba,bc,g,hs,c3,hb⟩,hF,c0,c7⟩:=hN.work hS;have u:=Eh K H1 Hs F lo _ rs el s x c7 hF c0 hs hx X.l0;obtain⟨pa,pc,ga,gc,xa,xc,ea,ec,ta,tc,E,h1,h2,h3,_⟩:=I0 hs;obtain⟨av,I,e8⟩:=c3;obtain⟨O,h⟩:=eY (rs++(re++[.slice ba bs.length bc]));rw[<-h]at g;have f6:rs.length=8:=by rw[E];rfl
 have U:ldC (some true) (some 8) 0 O=some (.agg rs.toArray):=by rw[h,E,I];rfl
 have r1:O[1]?=some (.slice ga s.progs.length gc):=by rw[h,E,I];rfl
 have r2:O[2]?=some (.slice xa s.base.length xc):=by rw[h,E,I];rfl
 have d2:O[13]?=some (.slice ba bs.length bc):=by rw[h,E,I];rfl
 rw[i7 WG rfl _ sM,gQ];have D:=fq (fun y=>R1 y x) s.paths 0;obtain⟨z,hz⟩:=eY (mT s.paths x);rw[<-hz]at u ⊢;rw[show ixG (fun y=>R1 y x) s.paths 0=z from hz.symm]at D;rcases b:decide (0<=z)with _|_
 .exact J8 a1 W.symm gx g J U u b trivial
 have e9:=dT b;have a9:z.toNat<s.paths.length:=by rcases D with q|q<;>omega
 obtain⟨xb,nb,o,cs,own,b2,a7,_,rfl,e5,c4,d3,c8,b7,b4⟩:=h3.row (i:=z.toNat) (by rw[X.l2];exact a9);obtain⟨xp,np,op,cp,e2,e4,a8,_,rfl,e6,c5,d4,c9,b8,b5⟩:=h2.row (i:=z.toNat) (by rw[X.l1];exact a9);have a4:b2=inE xb:=b4;subst a4;obtain⟨_,_,_,_,a5,_⟩:=F0 b5;have a2:=b7 0 oM;have a3:=b8 1 oM;rw[a5]at a3;rw[ly]at a2;obtain⟨w1,w2,w3⟩:=X.at_ z.toNat xp xb a8 a7;have f4:=w3.sa;have f5:=w3.st;have f3:=X.nle;have eb:s.base.getD z.toNat 0=xb:=by rw[dE,a7];rfl
 have ep:(s.progs.getD z.toNat ⟨0,0,0,[],[]⟩).sa=xp.sa:=by rw[dE,a8];rfl
 rw[eb,ep,cr];obtain⟨S,nv,ov,cv,e3,b3,d1,_,rfl,e7,c6,d5,d0,b9,b6⟩:=hb.row (i:=(xb+xp.sa).toNat) oM;have a6:b3=xr S:=b6;subst a6;have b0:cv[ov+(xb+xp.sa).toNat*1]?=some (.int .u8 (if S=true then 1 else 0)):=by have:=b9 0 oM;rw[ly]at this;exact this
 have b1:bs.getD (xb+xp.sa).toNat false=S:=by rw[dE,d1];rfl
 rw[b1];have f0:=X.l1;have f1:=X.l2;have e1:(if S=true then(1:Int) else 0)=if S then 1 else 0:=rfl;have db:decide ((if S=true then(1:Int) else 0)=1)=S:=by cases S<;>rfl
 exact J19 a1 W.symm gx g J U u b r1 r2 d2 c4 a2 c5 a3 c6 b0 db @wrap_small trivial
def TN(I:d7)(lo K O:Nat)(s:StD)(e:EvD)(bs:List Bool)(F:Nat->Prop)(k:Nat)(el:LV)(x:Q)(D:QR I lo k true el x)(H:d7)(a3:lo<=H.n)(a2:∀j,j<lo->H.g j=I.g j) (r:Bool) (z:∀H',d9 H.n H H'->CL prog l7 144 [pT O,.agg el.toArray] H'=some (.bool r,none)):
  CL prog l7 154 [pT O,.agg el.toArray] H=some (.bool (!r),none):=by
 have S:=I6 D;have h:=Q6 D;rw[D.len]at h;simp only[qSz,jd]at h;obtain⟨E,u,-,U,X⟩:=pushF H (bC el 1);have J:H.n<=E.low:=by rw[u,l9];exact lR
 have W:=z E X;rw[i7 WF rfl _ sM];exact J5 S u.symm U h W trivial
def xi(Hs:d7)(lo K k:Nat):Prop:=∀(H:d7)(pn:Nat)(s:StD)(e:EvD)(bs:List Bool)(F:Nat->Prop)(cs:LV)(q:Q),jy Hs lo K pn s e bs F H->WfS s bs.length->e.attrs.length<=1000000->QR Hs lo k true cs q->
 CL prog l7 144 [pT pn,.agg cs.toArray] H=some (.bool (E9 s e bs q),none)
def CT(Hs:d7)(lo K k:Nat)(hk:k<=K)(ih:xi Hs lo K k):xi Hs lo K (k+1):=by
 intro H pn s e bs F cs q hN hw a6 hr;have D:=I6 hr;have l6:=hr.len;simp only[qSz,jd]at l6;obtain⟨va,ca,wa,c8,U,h1,h2,h3,h4,_⟩:=hr.filter;have E:cs[0]?=some (.int .i64 q.op):=by rw[U];rfl
 have c3:cs[3]?=some (.string q.vl):=by rw[U];rfl
 have c4:cs[4]?=some (.slice va q.a.length ca):=by rw[U];rfl
 have c5:cs[5]?=some (.slice wa q.b.length c8):=by rw[U];rfl
 have X:ldC (some true) (some 2) 1 cs=some (.agg (nmE (q.sp,q.lc)).toArray):=by rw[U];rfl
 have c7:ldC (some true) (some 2) 1 cs=some (.agg #[.string q.sp,.string q.lc]):=X;obtain⟨W,u,-,I,hS⟩:=pushF H (bC cs 1);have d4:H.n<=W.low:=by rw[u,l9];exact lR
 have d6:=hS.n;have S:=hN.work hS;obtain⟨⟨rs,re,ba,bc,g,hs,⟨av,a7,d5⟩,hb⟩,hF,a3,d1⟩:=id S;obtain⟨pa,pc,ga,gc,xa,xc,ea,ec,ta,tc,a8,_⟩:=I0 hs;obtain⟨a9,J⟩:=eY (rs++(re++[.slice ba bs.length bc]));rw[<-J]at g;have O:a9[8]?=some (.int .i64 e.kind):=by rw[J,a8,a7];rfl
 have d2:a9[12]?=some (.string e.text):=by rw[J,a8,a7];rfl
 have d3:ldC (some true) (some 2) 9 a9=some (.agg #[.string e.space,.string e.loc]):=by rw[J,a8,a7];rfl
 have z:=TM Hs lo K pn s e bs F W S (q.sp,q.lc) a6;have a5:=fun a b=>xq (P:=prog) 4 a b ty4.2.2.2.2.2.2.1;have a4:=sI (α:=Q) W (· <lo) (QR Hs lo k true) (.func (.func 154) #[pT pn] #[]) (fun x=> !E9 s e bs x) (.slice va q.a.length ca) q.a (SlF.mono (SlI.slF h1) (fun j hj=>a3 j hj) (fun _ h=>h) iF) h3 (fun i x el hx hR=>TN Hs lo K pn s e bs F k el x hR ⟨W.bs,W.n⟩ d1 (fun j hj=>a3 j hj) _ (fun H' d0=>ih H' pn s e bs F el x ((S.low W.n).work d0) hw a6 hR));have b0:=sI (α:=Q) W (· <lo) (QR Hs lo k true) (.func (.func 144) #[pT pn] #[]) (E9 s e bs) (.slice va q.a.length ca) q.a (SlF.mono (SlI.slF h1) (fun j hj=>a3 j hj) (fun _ h=>h) iF) h3 (fun i x el hx hR=>ih _ pn s e bs F el x (S.low W.n) hw a6 hR);have c6:=sF (α:=Q) W (· <lo) (QR Hs lo k false) (.func (.func 155) #[pT pn] #[]) (gQ s bs) (.slice wa q.b.length c8) q.b (SlF.mono (SlI.slF h2) (fun j hj=>a3 j hj) (fun _ h=>h) iF) h4 (fun i x el hx hR=>TO Hs lo K pn s e bs F _ (S.low W.n) hw el x (hR.upTo hk));rw[i7 WA rfl _ sM,vS];by_cases e1:q.op=1
 .rw[bJ e1];exact J7 D u.symm I g O E e1 trivial
 rw[bt e1];have b1:decide (q.op=1)=false:=dt e1;by_cases e2:q.op=2
 .rw[bJ e2];exact J7 D u.symm I g O E e2 trivial
 rw[bt e2];have b2:decide (q.op=2)=false:=dt e2;by_cases e3:q.op=3
 .rw[bJ e3];exact J7 D u.symm I g O E e3 trivial
 rw[bt e3];have b3:decide (q.op=3)=false:=dt e3;by_cases e4:q.op=4
 .rw[bJ e4];rcases d:decide (e.kind=1)with _|_
  .exact J8 D u.symm I g O E e4 d trivial
  .exact J10 D u.symm I g O E e4 d d3 c7 trivial
 rw[bt e4];have b4:decide (q.op=4)=false:=dt e4;by_cases e5:q.op=5
 .rw[bJ e5];exact J9 D u.symm I g O E e5 X z trivial
 rw[bt e5];have b5:decide (q.op=5)=false:=dt e5;by_cases e6:q.op=6
 .rw[bJ e6];rcases d:(C3 e.kind (q.sp,q.lc) e.attrs).2 with _|_
  .rw[d]at z;exact J9 D u.symm I g O E e6 X z trivial
  .rw[d]at z;exact J10 D u.symm I g O E e6 X z c3 trivial
 rw[bt e6];have b6:decide (q.op=6)=false:=dt e6;by_cases e7:q.op=7
 .rw[bJ e7];rcases d:decide (e.kind=1)with _|_
  .exact J10 D u.symm I g O E e7 d d2 c3 trivial
  .exact J8 D u.symm I g O E e7 d trivial
 rw[bt e7];have b7:decide (q.op=7)=false:=dt e7;by_cases e8:q.op=8
 .rw[bJ (.inl e8)];exact J10 D u.symm I g O E e8 c4 a4 a5 trivial
 have b8:decide (q.op=8)=false:=dt e8;by_cases e9:q.op=9
 .rw[bJ (.inr e9)];exact J10 D u.symm I g O E e9 c4 a4 a5 trivial
 rw[bt (fun q=>q.elim e8 e9)];have b9:decide (q.op=9)=false:=dt e9;by_cases a2:q.op=10
 .rw[bJ a2];exact J9 D u.symm I g O E a2 c4 b0 trivial
 rw[bt a2];have c9:decide (q.op=10)=false:=dt a2;exact J18 D u.symm I g O E b1 b2 b3 b4 b5 b6 b7 b8 b9 c9 c5 c6 trivial
def Hi(h:d7)(lo K:Nat):∀k,k<=K+1->xi h lo K k:=by
 intro k;induction k with
 |zero=>intro _ H E s e bs F cs q _ _ _ u;exact u.elim
 |succ k z=>intro D;exact CT h lo K k oM (z oM)
def Eo(Hs:d7)(lo K pn:Nat)(s:StD)(ev:EvD)(bs:List Bool)(F:Nat->Prop)(h:d7)(hN:jy Hs lo K pn s ev bs F h)(hw:WfS s bs.length)(a7:ev.attrs.length<=1000000)(va:Option Addr)(ca:Nat)(l:List Q)(hv:SlF h F 6 (QR Hs lo K true) (.slice va l.length ca) l)(hn:l.length<=1000000):
  ∀kk e H2,(∃(i:Nat)(w:aa3),kk=l.length-i/\i<=l.length/\e.g 9=pT pn/\e.g 10=w/\e.g 19= .slice va l.length ca/\e.g 20=iV l.length/\e.g 21=iV i/\d9 h.n h H2/\u5 H2 h.n 1 (y7 boE) w ((l.take i).map (E9 s ev bs)))->
  u7 (LE prog l7 (.loop RF) e H2) (fun o e H2=>o= .exit 0/\d9 h.n h H2/\∃w,e.g 10=w/\u5 H2 h.n 1 (y7 boE) w (l.map (E9 s ev bs))):=by
 refine i5 _ _ ?_;rintro kk e H2 ⟨i,w,hk,hi,f9,z,D,u,E,X,hO⟩;rcases b:decide ((i:Int)<l.length)with _|_
 .have a8:=dF b;have:l.take i=l:=kC oM;rw[this]at hO;refine J3 u E b ?_;exact i6 ⟨rfl,X,w,z,hO⟩
 have a8:=dT b;have b3:=X.n;obtain⟨x,nb,o,cs,own,el,hx,hd,rfl,a2,hg,b2,J,hc,W⟩:=hv.row (i:=i) oM;have nt:(i:Int).toNat=i:=tN i;have g2:=(X.g nb (hN.lt _ a2)).trans hg;have a1:=I6 W;have U:=W.len;simp only[qSz,jd]at U;have O:=Q6 W;rw[U]at O;obtain⟨H3,a4,n3,g3,s3⟩:=pushP H2 (bC [iV 0,.string eB,.string eB,.string eB,nS,nS] 1) (bC el 1);have b1:splice [iV 0,.string eB,.string eB,.string eB,nS,nS] 0 el=el:=A0 _ _ (by rw[U];rfl);have S:d9 h.n h H3:=X.trans (s3.wk oM);have a9:=Hi Hs lo K K oM H3 pn s ev bs F el x (hN.work S) hw a7 W;have b0:(l.take (i+1)).map (E9 s ev bs)=(l.take i).map (E9 s ev bs)++[E9 s ev bs x]:=by rw[Hq,hx,GT];rfl
 obtain⟨w4,h4,H4,a6,I,a5,a3⟩:=(hO.keep s3).push1F (P:=prog) (t:=141) (cs:=boE (E9 s ev bs x)) (a:=E9 s ev bs x) (by exact FE.2.2.2.2.2.2) ty4.1 ty4.2.1 ty4.2.2.1 oM oM rfl rfl (by simp;omega) oM;refine J19 f9 z D u E b g2 nt J a1 U b1 a4.symm g3 O a9 a6 I @wrap_small ?_;exact d8 (kk-1) oM ⟨i+1,w4,oM,oM,f9,rfl,D,u,rfl,S.trans a3.stay,by rw[b0];exact a5⟩
def XT(Hs:d7)(lo K:Nat)(s:StD)(p:PrD)(ev:EvD)(bs:List Bool)(F:Nat->Prop)(H:d7)(D rp J:LV)(ba:Option Addr)(bc:Nat)(hs:StF H F (QR Hs lo K false) (QR Hs lo K true) D s)(hp:PrF H F (QR Hs lo K true) rp p)(he:EvF H F J ev)(hb:SlF H F 1 (y7 xr) (.slice ba bs.length bc) bs)
  (hF:∀j,F j->j<H.n) (b7:∀j,j<lo->H.g j=Hs.g j) (c9:lo<=H.n) (hw:WfS s bs.length) (b5:ev.attrs.length<=1000000) (hn:p.ts.length<=1000000):
  Q3 (CL prog l7 124 [.agg D.toArray,.agg rp.toArray,.agg J.toArray,.slice ba bs.length bc] H) H 1 (y7 boE) (p.ts.map (E9 s ev bs)):=by
 obtain⟨pa,pc,ga,gc,xa,xc,ea,ec,ta,tc,W,_⟩:=I0 hs;obtain⟨c7,c8,a4,a5,b1,d0,b9⟩:=F0 hp;obtain⟨av,U,b6⟩:=id he;obtain⟨c5,c6,rfl⟩:=b6.slice;have a7:D.all oC=true:=by rw[W];rfl
 have ap:rp.all oC=true:=by rw[b1];rfl
 have ae:J.all oC=true:=by rw[U];rfl
 have ls:D.length=8:=by rw[W];rfl
 have le:J.length=5:=by rw[U];rfl
 have c3:ldC (some true) (some 8) 0 D=some (.agg D.toArray):=by rw[W];rfl
 have c0:ldC (some true) (some 5) 0 J=some (.agg J.toArray):=by rw[U];rfl
 have p4:rp[4]?=some (.slice a4 p.ts.length a5):=by rw[b1];rfl
 obtain⟨S,u⟩:=eY (((d7.push ⟨H.bs,H.n⟩ (bC D 1)).push (bC rp 1)).push (bC J 1));have n0:(d7.push ⟨H.bs,H.n⟩ (bC D 1)).n=H.n+1:=by rw[i4];rfl
 have c4:((d7.push ⟨H.bs,H.n⟩ (bC D 1)).push (bC rp 1)).n=H.n+2:=by rw[i4,n0]
 have na:S.n=H.n+3:=by rw[u,i4,c4]
 have sa:d9 H.n H S:=by rw[u];exact((d9.first H _).trans (d9.push oM)).trans (d9.push oM)
 have g1:S.g H.n=cE D 1:=by rw[u,j5 oM,j5 oM];exact j6
 have g2:S.g (H.n+1)=cE rp 1:=by rw[u,j5 oM];exact A4 oM
 have g3:S.g (H.n+2)=cE J 1:=by rw[u];exact A4 oM
 have a9:H.n<=S.low:=by rw[u,l9,l9,l9];exact lR
 obtain⟨a3,I⟩:=eY (D++(J++[.slice ba bs.length bc]));have a6:a3.all oC=true:=by rw[I,Iq,Iq,a7,ae];rfl
 obtain⟨O,E,-,b4,-⟩:=pushE S (bC a3 1);have n1:O.n=H.n+4:=by rw[E,i4,na]
 have s1:d9 H.n H O:=by rw[E];exact sa.trans (d9.push oM)
 have a2:H.n<=O.low:=by rw[E,l9];exact a9
 have b3:O.g (H.n+1)=cE rp 1:=by rw[E,j5 oM];exact g2
 have hg:∀j,F j->O.g j=H.g j:=fun j hj=>s1.g j (hF j hj);have hN:jy Hs lo K S.n s ev bs F O:=⟨⟨D,J,ba,bc,by rw[<-I];exact b4,hs.mono hg (fun _ h=>h) iF iF,A3 _ _ _ _ _ _ he hg (fun _ h=>h),hb.mono hg (fun _ h=>h) iF⟩,fun j hj=>by have:=hF j hj;omega,fun j hj=>by rw[s1.g j oM];exact b7 j hj,oM⟩
 obtain⟨X,hA⟩:=eY (splice [nS,nS,nS,iV 0,iV 0,iV 0,nS,nS,iV 0,.string eB,.string eB,nS,.string eB,nS] 0 D);obtain⟨a1,hB⟩:=eY (splice X 8 J);have lA:X.length=14:=by rw[hA,D6];rfl
 have lB:a1.length=14:=by rw[hB,D6];exact lA
 have eC:a1.set 13 (.slice ba bs.length bc)=a3:=by rw[hB,hA,I,W,U];rfl
 rw[i7 KF rfl _ sM];refine J19 a7 ap ae u.symm g1 g3 c3 c0 ls le hA.symm lA hB.symm lB eC a6 E.symm b3 p4 ?_;have b0:SlF O F 6 (QR Hs lo K true) (.slice a4 p.ts.length a5) p.ts:=b9.mono hg (fun _ h=>h) iF;refine i8 (F:=fun z=>Q3 (t6 _ _ _ (t7 (inBlock 0 z) _)) _ _ _ _) (Eo Hs lo K S.n s ev bs F O hN hw b5 a4 a5 p.ts b0 hn p.ts.length _ _ ⟨0,nS,rfl,oM,rfl,rfl,rfl,rfl,rfl,d9.refl _ _,u5.nil⟩) ?_;rintro o e' H2 ⟨ho,a8,w,b2,hO⟩;refine J2 ho b2 ?_;have b8:=(a8.wk (show H.n<=O.n from oM)).low a2;exact L5 (hO.wk oM) (s1.trans (a8.wk oM)) b8
def xZ(h:d7)(F:Nat->Prop)(hF:∀j,F j->j<h.n) (Rt:LV->Q->Prop) (va:Option Addr) (X:Nat) (l:List PrD) (hv:SlF h F 5 (PrF h F Rt) (.slice va l.length X) l) (hn:l.length<=100000) (hb:∀p∈l,0<=p.st/\p.st<=1000000) (r:Int):
  ∀U e H2,(∃(i:Nat)(n:Int),U=l.length-i/\i<=l.length/\0<=n/\n<=1000000*i/\e.g 3=iV n/\e.g 7= .slice va l.length X/\e.g 8=iV l.length/\e.g 9=iV i/\d9 h.n h H2/\(l.drop i).foldl (fun n p=>n+p.st) n=r)->
  u7 (LE prog l7 (.loop VV) e H2) (fun o e H2=>d9 h.n h H2/\o= .exit 0/\e.g 3=iV r):=by
 refine i5 _ _ ?_;rintro U e H2 ⟨i,n,hk,hi,a4,a5,f3,f7,E,f9,D,z⟩;rcases b:decide ((i:Int)<l.length)with _|_
 .have S:=dF b;have:l.drop i=[]:=dN oM;rw[this,yA]at z;refine J3 E f9 b ?_;exact i6 ⟨D,rfl,by rw[<-z];exact f3⟩
 have S:=dT b;have a6:=D.n;obtain⟨x,nb,o,cs,own,el,hx,hd,rfl,I,hg,a3,u,hc,O⟩:=hv.row (i:=i) oM;have nt:(i:Int).toNat=i:=tN i;have a2:=hb x (mG hx);have g2:=(D.g nb (hF _ I)).trans hg;have a1:=kP O;have l1:=fj O;have e0:el[0]?=some (.int .i64 x.st):=by obtain⟨_,_,_,_,rfl,_⟩:=F0 O;rfl
 obtain⟨H3,J,n3,g3,s3⟩:=pushP H2 (bC z5 1) (bC el 1);have W:splice z5 0 el=el:=A0 _ _ (by rw[l1];rfl);rw[hd,sd]at z;refine J15 f3 f7 E f9 b g2 nt u a1 l1 W J.symm g3 e0 @wrap_small ?_;exact d8 (U-1) oM ⟨i+1,n+x.st,oM,oM,oM,oM,rfl,f7,E,rfl,D.trans (s3.wk oM),z⟩
def XP(H:d7)(F:Nat->Prop)(Rp O:LV->Q->Prop)(cs:LV)(s:StD)(X:∀j,F j->j<H.n) (hs:StF H F Rp O cs s) (hn:s.progs.length<=100000) (hb:∀p∈s.progs,0<=p.st/\p.st<=1000000):CL prog l7 97 [.agg cs.toArray] H=some (.int .i64 (A5 s.progs),none):=by
 obtain⟨pa,pc,S,U,ba,bc,ea,ec,ta,tc,D,h1,h2,h3,h4,h5⟩:=I0 hs;have a0:cs.all oC=true:=by rw[D];rfl
 have r1:cs[1]?=some (.slice S s.progs.length U):=by rw[D];rfl
 obtain⟨J,u,-,hg,hS⟩:=pushF H (bC cs 1);have I:H.n<=J.low:=by rw[u,l9];exact lR
 have a2:=hS.n;have W:SlF J F 5 (PrF J F O) (.slice S s.progs.length U) s.progs:=h2.mono (fun j E=>hS.g j (X j E)) (fun _ h=>h) (fun _ _ h=>h.mono (fun j E=>hS.g j (X j E)) (fun _ h=>h) iF);rw[i7 Xn rfl _ sM];refine J4 a0 u.symm hg r1 ?_;refine i8 (F:=fun z=>t6 _ _ _ (t7 (inBlock 0 z) _)=_) (xZ J F (fun j E=>by have:=X j E;omega) O S U s.progs W hn hb (A5 s.progs) s.progs.length _ _ ⟨0,0,rfl,oM,oM,oM,rfl,rfl,rfl,rfl,d9.refl _ _,rfl⟩) ?_;rintro o e' H' ⟨a1,ho,h3⟩;have a3:=(a1.wk a2).low I;exact J2 ho h3 trivial
abbrev SoD:Type:=Bool×Bool×aa2
def lG(x:SoD)(n:Int):Bool:=x.1&&decide (A8 x.2.2 n.toNat=1)
def ek(x:SoD)(n:Nat):Prop:=x.1=true->x.2.2.size=n
def Mr(H:d7)(x:SoD)(n:Int)(m:Nat)(J:ek x m)(O:0<=n)(S:n<m):CL prog l7 145 [.agg (soE x).toArray,iV n] H=some (.bool (lG x n),none):=by
 obtain⟨h,t,b⟩:=x;obtain⟨E,u,-,z,-⟩:=pushF H (bC [.bool h,.bool t,.string b] 1);have D:H.n<=E.low:=by rw[u,l9];exact lR
 rw[i7 WB rfl _ sM,lG];cases h with
 |false=>simp(maxSteps:=20000000) -dsimp (disch:=first|omega|(simp only[rH]<;>omega)|fail) only[↓fk,rQ,N1,sevalprocAttr,tyA,<-u,z]
 |true=>
  have I:b.size=m:=J rfl;exact J2 u.symm z trivial
abbrev EdD:Type:=Int×Int×Int×Int
def oY(fi ne:SoD)(hs bs:List Bool)(b:Int)(x:EdD):Bool:=if x.2.2.1=1 then lG fi (b+x.2.1) else if x.2.2.1=2 then lG ne (b+x.2.1) else if x.2.2.1=3 then hs.getD x.2.2.2.toNat false&&cr bs (b+x.2.1) else cr bs (b+x.2.1)
def Y5(fi ne:SoD)(hs:List Bool)(b:Int):List EdD->List Bool×Bool->List Bool×Bool
 |[],z=>z
 |x::l,z=>Y5 fi ne hs b l (if !cr z.1 (b+x.1)&&oY fi ne hs z.1 b x then(z.1.set (b+x.1).toNat true,true) else z)
def itE(fi ne:SoD)(hs:List Bool)(b:Int)(l:List EdD):Nat->List Bool->List Bool
 |0,bs=>bs
 |n+1,bs=>if(Y5 fi ne hs b l (bs,false)).2 then itE fi ne hs b l n (Y5 fi ne hs b l (bs,false)).1 else(Y5 fi ne hs b l (bs,false)).1
def ct(bs:List Bool):Nat:=(bs.filter (fun b=> !b)).length
def rM:∀(bs:List Bool)(i:Nat),i<bs.length->bs.getD i false=false->ct (bs.set i true)+1=ct bs
 |[],i,h,_=>by simp at h
 |b::bs,0,_,h=>by
  have:b=false:=by simpa using h
  subst this;simp [ct]
 |b::bs,i+1,h,h2=>by
  have:=rM bs i (by simpa using h) (by simpa using h2);cases b<;>simp [ct]at this ⊢ <;>omega
def ip(fi ne:SoD)(hs:List Bool)(b:Int):∀(l:List EdD)(z:List Bool×Bool),(Y5 fi ne hs b l z).1.length=z.1.length
 |[],z=>rfl
 |x::l,z=>by
  rw[Y5,ip fi ne hs b l];split
  .simp
  .rfl
def io(fi ne:SoD)(hs:List Bool)(b:Int):∀(l:List EdD)(z:List Bool×Bool),(∀x∈l,0<=b+x.1/\b+x.1<z.1.length)->ct (Y5 fi ne hs b l z).1<=ct z.1/\((Y5 fi ne hs b l z).2=true->z.2=true\/ct (Y5 fi ne hs b l z).1<ct z.1)
 |[],z,_=>⟨lR,fun h=> .inl h⟩
 |x::l,z,h=>by
  rw[Y5];have I:=h x sM;rcases D:(!cr z.1 (b+x.1)&&oY fi ne hs z.1 b x)with _|_
  .simp only[bF];exact io fi ne hs b l z fun y u=>h y (by simp [u])
  .simp only[jd];simp only[cA,Hw]at D;have E:=rM z.1 (b+x.1).toNat oM D.1;have:=io fi ne hs b l (z.1.set (b+x.1).toNat true,true) fun y u=>by have:=h y (by simp [u]);simp;omega
   refine⟨by have:=this.1;simp only at this;omega,fun _=> .inr (by have:=this.1;simp only at this;omega)⟩
def xY(fi ne:SoD)(hs:List Bool)(b:Int)(l:List EdD):∀(n:Nat)(bs:List Bool),(itE fi ne hs b l n bs).length=bs.length
 |0,bs=>rfl
 |n+1,bs=>by
  rw[itE];split
  .rw[xY fi ne hs b l n,ip]
  .rw[ip]
def cV(s:StD)(e:EvD)(fi ne:SoD)(p:PrD)(b:Int)(bs:List Bool):List Bool:=
 itE fi ne (p.ts.map (E9 s e bs)) b p.ed (ct (bs.set (b+p.en).toNat true)+1) (bs.set (b+p.en).toNat true)
def aJ(s:StD)(e:EvD)(fi ne:SoD):List (PrD×Int)->List Bool->List Bool
 |[],bs=>bs
 |x::l,bs=>aJ s e fi ne l (cV s e fi ne x.1 x.2 bs)
def pC(bs:List Bool):aa2:=⟨(bs.map fun b=>if b then(1:UInt8) else 0).toArray⟩
def I9(s:StD)(e:EvD)(fi ne:SoD):SoD:=(true,decide (e.kind=2),pC (aJ s e fi ne (s.progs.zip s.base) (List.replicate (A5 s.progs).toNat false)))
structure U6(Hs:d7)(lo K pm pb:Nat)(s:StD)(e:EvD)(fi ne:SoD)(bs:List Bool)(F:Nat->Prop)(H:d7):Prop where
 ex:∃rs re bc,H.g pm=some (.cells (rs++(re++(soE fi++(soE ne++[.slice (some ⟨pb,0,none⟩) bs.length bc])))) true 1)/\StF H F (QR Hs lo K false) (QR Hs lo K true) rs s/\EvF H F re e
 bits:H.g pb=cE (bs.map bX) 1
 lt:∀j,F j->j<H.n/\j≠pb
 eq:∀j,j<lo->H.g j=Hs.g j
 lo:lo<=pb
 ne:pm≠pb
section
variable{Hs:d7}{lo K pm pb:Nat}{s:StD}{e:EvD}{fi ne:SoD}{bs:List Bool}{F:Nat->Prop}{H H':d7}
def U6.pbl(h:U6 Hs lo K pm pb s e fi ne bs F H):pb<H.n:=u6 h.bits
def U6.work(h:U6 Hs lo K pm pb s e fi ne bs F H)(u:d9 H.n H H'):U6 Hs lo K pm pb s e fi ne bs F H':=by
 have D:=h.pbl;obtain⟨⟨rs,re,O,E,S,U⟩,W,I,X,h7,h8⟩:=h;have hn:=u.n;have J:∀j,F j->H'.g j=H.g j:=fun j z=>u.g j (I j z).1;exact⟨⟨rs,re,O,(u.g pm (u6 E)).trans E,S.mono J (fun _ h=>h) iF iF,A3 _ _ _ _ _ _ U J (fun _ h=>h)⟩,(u.g pb D).trans W,fun j z=>by have:=I j z;omega,fun j z=>by rw[u.g j oM];exact X j z,h7,h8⟩
def U6.set(h:U6 Hs lo K pm pb s e fi ne bs F H)(i:Nat):U6 Hs lo K pm pb s e fi ne (bs.set i true) F (H.put pb (.cells ((bs.map bX).set i (bX true)) true 1)):=by
 have D:=h.pbl;obtain⟨⟨rs,re,J,O,S,U⟩,h4,z,W,X,E⟩:=h;have I:∀j,F j->(H.put pb (.cells ((bs.map bX).set i (bX true)) true 1)).g j=H.g j:=fun j u=>j7 (fun q=>(z j u).2 q.symm);refine⟨⟨rs,re,J,by rw[j7 (fun q=>E q.symm),zC];exact O,S.mono I (fun _ h=>h) iF iF,A3 _ _ _ _ _ _ U I (fun _ h=>h)⟩,by rw[i9 D,aaD],fun j u=>⟨by rw[j9];exact(z j u).1,(z j u).2⟩,fun j u=>by rw[j7 oM];exact W j u,X,E⟩
def U6.row(h:U6 Hs lo K pm pb s e fi ne bs F H):∃E I J u,H.g pm=cE u 1/\u=E++(I++(soE fi++(soE ne++[sL pb bs.length J])))/\u.length=20/\StF H F (QR Hs lo K false) (QR Hs lo K true) E s/\EvF H F I e/\
  ldC (some true) (some 8) 0 u=some (.agg E.toArray)/\ldC (some true) (some 5) 8 u=some (.agg I.toArray)/\ldC (some true) (some 3) 13 u=some (.agg (soE fi).toArray)/\ldC (some true) (some 3) 16 u=some (.agg (soE ne).toArray)/\u[19]?=some (sL pb bs.length J)/\
  (∀k,k<8->u[k]?=E[k]?)/\u[8]?=some (.int .i64 e.kind):=by
 obtain⟨⟨E,I,J,U,O,S⟩,_⟩:=h;obtain⟨pa,pc,ga,gc,xa,xc,ea,ec,ta,tc,z,_⟩:=I0 O;obtain⟨X,D,_⟩:=id S;have W:E.length=8:=by rw[z];rfl
 refine⟨E,I,J,_,U,rfl,by rw[z,D];rfl,O,S,by rw[z,D];rfl,by rw[z,D];rfl,by rw[z,D];rfl,by rw[z,D];rfl,by rw[z,D];rfl,fun k hk=>gk oM,by rw[z,D];rfl⟩
def EK{i:Nat}(h:i<bs.length):(bs.map bX)[i*1]?=some (.int .u8 (if bs.getD i false=true then 1 else 0)):=by
 rw[yD,Aa,gI h,dE,gI h];rfl
end
def Uo(b:Bool):decide ((if b=true then(1:Int) else 0)=1)=b:=by cases b<;>rfl
def XU(Hs:d7)(lo K pm pb:Nat)(s:StD)(e:EvD)(fi ne:SoD)(bs:List Bool)(F:Nat->Prop)(H:d7)(hK:U6 Hs lo K pm pb s e fi ne bs F H)(h1:ek fi bs.length)(h2:ek ne bs.length)(b9:bs.length<=1000000)(b:Int)(x:EdD)(ha:Option Addr)(hc:Nat)(hs:List Bool)(F2:Nat->Prop)(a3:∀j,F2 j->j<H.n) (hh:SlF H F2 1 (y7 boE) (.slice ha hs.length hc) hs)
  (hb:0<=b/\b<=1000000) (hx:0<=x.2.1/\b+x.2.1<bs.length) (h3:x.2.2.1=3->0<=x.2.2.2/\x.2.2.2<hs.length):
  CL prog l7 125 [pT pm,iV b,.agg (edE x).toArray,.slice ha hs.length hc] H=some (.bool (oY fi ne hs bs b x),none):=by
 obtain⟨x0,x1,I,x3⟩:=x;simp only at hx h3;obtain⟨U,E⟩:=eY (edE (x0,x1,I,x3));rw[<-E];have O:U.all oC=true:=by rw[E];rfl
 have z:U[1]?=some (.int .i64 x1):=by rw[E];rfl
 have D:U[2]?=some (.int .i64 I):=by rw[E];rfl
 have W:U[3]?=some (.int .i64 x3):=by rw[E];rfl
 obtain⟨H1,u,-,hg,hS⟩:=pushF H (bC U 1);have b5:H.n<=H1.low:=by rw[u,l9];exact lR
 have X:=hK.work hS;obtain⟨rs,re,bc,c4,g,b6,b7,c3,_,_,_,b0,b4,a2,_,_⟩:=X.row;have gb:=X.bits;have bg:=EK (bs:=bs) (i:=(b+x1).toNat) oM;have g1:=Mr H1 fi (b+x1) bs.length h1 oM oM;have g2:=Mr H1 ne (b+x1) bs.length h2 oM oM;have bl:(bs.map bX).length=bs.length:=sM;rw[i7 Wo rfl _ sM,oY];simp only;by_cases e1:I=1
 .rw[bJ e1];exact J10 O z D u.symm hg e1 g b0 g1 @wrap_small trivial
 rw[bt e1];have b1:decide (I=1)=false:=dt e1;by_cases e2:I=2
 .rw[bJ e2];exact J10 O z D u.symm hg e2 g b4 g2 @wrap_small trivial
 rw[bt e2];have b2:decide (I=2)=false:=dt e2;by_cases J:I=3
 .rw[bJ J];obtain⟨t1,t2⟩:=h3 J;have a7:SlF H1 F2 1 (y7 boE) (.slice ha hs.length hc) hs:=hh.mono (fun j hj=>hS.g j (a3 j hj)) (fun _ h=>h) iF;obtain⟨v,nb,o,cs,own,el,a9,_,rfl,b8,a1,c0,a8,a5,a4⟩:=a7.row (i:=x3.toNat) oM;have a6:el=boE v:=a4;subst a6;have S:cs[o+x3.toNat*1]?=some (.bool v):=by have:=a5 0 oM;rw[ly]at this;exact this
  have ev:hs.getD x3.toNat false=v:=by rw[dE,a9];rfl
  rw[ev,cr];cases v with
  |false=>simp(maxSteps:=20000000) -dsimp (disch:=first|omega|(simp only[rH]<;>omega)|fail) only[↓fk,rQ,N1,sevalprocAttr,tyA,O,z,D,W,<-u,hg,J,a1,S,wrap_small]
  |true=>
   exact J15 O z D W u.symm hg J a1 S g a2 gb bg @Uo @wrap_small trivial
 rw[bt J];have b3:decide (I=3)=false:=dt J;rw[cr];exact J14 O z D u.symm hg b1 b2 b3 g a2 gb bg @Uo @wrap_small trivial
def R0(x:Operand):isCall (.nilCheck x)=false:=rT
def Lj(fi ne:SoD)(hs:List Bool)(b:Int)(l:List EdD):∀(n m:Nat)(bs:List Bool),(∀x∈l,0<=b+x.1/\b+x.1<bs.length)->ct bs+1<=n->n<=m->itE fi ne hs b l m bs=itE fi ne hs b l n bs:=by
 intro n;induction n with
 |zero=>intro m bs _ h;omega
 |succ n O=>
  intro m bs z S U;obtain⟨u,rfl⟩:∃u,m=u+1:=⟨m-1,oM⟩
  have E:=io fi ne hs b l (bs,false) z;rw[itE,itE];rcases I:(Y5 fi ne hs b l (bs,false)).2 with _|_
  .rfl
  .simp only[jd];have D:=E.2 I;simp only[IC,aaU]at D;exact O u _ (fun x J=>by rw[ip];exact z x J) oM oM
structure Fr1(pb:Nat)(H H':d7):Prop where
 stay:d9 pb H H'
 but:∀j,j<H.n->j≠pb->H'.g j=H.g j
 low:H'.low<=H.low
def Fr1.refl(h:Nat)(H:d7):Fr1 h H H:=⟨d9.refl _ _,fun _ _ _=>rfl,lR⟩
def Fr1.trans{u:Nat}{A B C:d7}(h:Fr1 u A B)(k:Fr1 u B C):Fr1 u A C:=⟨h.stay.trans k.stay,fun j D z=>by rw[k.but j (oN (h.stay.n)) z,h.but j D z],HE k.low h.low⟩
def Fr1.of{u:Nat}{H H':d7}(h:d9 H.n H H')(E:u<=H.n)(D:H'.low<=H.low):Fr1 u H H':=⟨h.wk E,fun j z _=>h.g j z,D⟩
def Fr1.put{h:Nat}{H:d7}{B:Blk}:Fr1 h H (H.put h B):=⟨d9.put lR,fun j _ u=>j7 (fun q=>u q.symm),by rw[A9];omega⟩
def Ip(Hs:d7)(lo K pm I:Nat)(s:StD)(ev:EvD)(fi ne:SoD)(F:Nat->Prop)(U:d7)(n:Nat)(hn:n<=1000000)(b5:ek fi n)(b8:ek ne n)(b:Int)(hb:0<=b/\b<=1000000)(c0:I<U.n)(pc:Nat)(rp:LV)(c5:U.g pc=cE rp 1)(d0:pc≠I)
  (ha:Option Addr) (hc:Nat) (hs:List Bool) (F2:Nat->Prop) (a5:∀j,F2 j->j<U.n/\j≠I) (hh:SlF U F2 1 (y7 boE) (.slice ha hs.length hc) hs)
  (va:Option Addr) (ca:Nat) (l:List EdD) (hv:SlF U F 4 (y7 edE) (.slice va l.length ca) l) (hF:∀j,F j->j<U.n/\j≠I) (hl:l.length<=1000000) (hw:∀x∈l,0<=x.1/\b+x.1<n/\0<=x.2.1/\b+x.2.1<n/\(x.2.2.1=3->0<=x.2.2.2/\x.2.2.2<hs.length)) (r:List Bool×Bool):
  ∀kk e H2,(∃(j:Nat)(bs:List Bool)(m:Bool),kk=l.length-j/\j<=l.length/\e.g 0=pT pm/\e.g 4=pT pc/\e.g 5=iV b/\e.g 6= .slice ha hs.length hc/\e.g 7= .bool m/\e.g 51= .slice va l.length ca/\e.g 52=iV l.length/\e.g 53=iV j/\bs.length=n/\U6 Hs lo K pm I s ev fi ne bs F H2/\Fr1 I U H2/\Y5 fi ne hs b (l.drop j) (bs,m)=r)->
  u7 (LE prog l7 (.loop VW) e H2) (fun o e H2=>o= .exit 2/\e.g 0=pT pm/\e.g 4=pT pc/\e.g 5=iV b/\e.g 6= .slice ha hs.length hc/\e.g 7= .bool r.2/\r.1.length=n/\U6 Hs lo K pm I s ev fi ne r.1 F H2/\Fr1 I U H2):=by
 refine i5 _ _ ?_;rintro kk e H2 ⟨j,bs,m,hk,hj,f0,f4,f5,f6,f7,D,u,a2,E,hK,a3,J⟩;rcases bb:decide ((j:Int)<l.length)with _|_
 .have b4:=dF bb;have:l.drop j=[]:=dN oM;rw[this,Y5]at J;refine J3 u a2 bb ?_;exact i6 ⟨rfl,f0,f4,f5,f6,by rw[<-J];exact f7,by rw[<-J];exact E,by rw[<-J];exact hK,a3⟩
 have b4:=dT bb;have c9:=a3.stay.n;have c3:=hK.pbl;obtain⟨x,nb,o,cs,own,el,hx,hd,rfl,a9,hg,c7,S,c6,z⟩:=hv.row (i:=j) oM;have z:el=edE x:=z;obtain⟨w1,w2,w3,w4,w5⟩:=hw x (mG hx);have nt:(j:Int).toNat=j:=tN j;have gx:=(a3.but nb (hF _ a9).1 (hF _ a9).2).trans hg;have a1:el.all oC=true:=by rw[z];rfl
 have l1:el.length=4:=by rw[z];rfl
 have e0:el[0]?=some (.int .i64 x.1):=by rw[z];rfl
 have b2:ldC (some true) (some 4) 0 el=some (.agg el.toArray):=by rw[z];rfl
 obtain⟨H3,a4,n3,g3,s3⟩:=pushP H2 (bC [iV 0,iV 0,iV 0,iV 0] 1) (bC el 1);have a8:splice [iV 0,iV 0,iV 0,iV 0] 0 el=el:=A0 _ _ (by rw[l1];rfl);have K3:=hK.work s3;have W:Fr1 I U H3:=a3.trans (Fr1.of s3 oM (by rw[a4,A9,l9];omega));obtain⟨rs,re,bc,d4,gp,b9,c4,d1,_,_,_,d2,d3,a7,_,_⟩:=K3.row;have gb:=K3.bits;have bg:=EK (bs:=bs) (i:=(b+x.1).toNat) oM;have bl:(bs.map bX).length=bs.length:=sM;have b6:SlF H3 F2 1 (y7 boE) (.slice ha hs.length hc) hs:=hh.mono (fun j hj=>W.but j (a5 j hj).1 (a5 j hj).2) (fun _ h=>h) iF;have O:=XU Hs lo K pm I s ev fi ne bs F H3 K3 (by rw[E];exact b5) (by rw[E];exact b8) oM b x ha hc hs F2 (fun j hj=>by have:=a5 j hj;omega) b6 hb ⟨w3,oM⟩ w5;rw[<-z]at O;rw[hd,Y5]at J;have h0:0<=b+x.1:=oM;have c8:b+x.1<bs.length:=oM;rcases b0:bs.getD (b+x.1).toNat false with _|_
 .have X:cr bs (b+x.1)=false:=b0;rw[b0]at bg;rcases b1:oY fi ne hs bs b x with _|_
  .rw[b1]at O;simp only[X,b1,Md,tT,bF]at J;refine J23 f0 f5 f6 D u a2 bb gx nt S a1 l1 a8 a4.symm g3 e0 gp a7 gb bg b2 O @wrap_small ?_;exact d8 (kk-1) oM ⟨j+1,bs,m,oM,oM,f0,f4,f5,f6,f7,D,u,rfl,E,K3,W,J⟩
  .rw[b1]at O;simp only[X,b1,Md,Yp,jd]at J;obtain⟨H4,a6⟩:=eY (H3.put I (.cells ((bs.map bX).set ((b+x.1).toNat*1) (.int .u8 1)) true 1));have K4:U6 Hs lo K pm I s ev fi ne (bs.set (b+x.1).toNat true) F H4:=by rw[a6,yD];exact K3.set (b+x.1).toNat
   have b7:(b+x.1).toNat*1+1<=bs.length:=oM;have b3:Fr1 I U H4:=W.trans (by rw[a6];exact Fr1.put);refine J27 f0 f5 f6 D u a2 bb gx nt S a1 l1 a8 a4.symm g3 e0 gp a7 gb bg bl b2 O b7 a6.symm @R0 @wrap_small ?_;exact d8 (kk-1) oM ⟨j+1,bs.set (b+x.1).toNat true,true,oM,oM,f0,f4,f5,f6,rfl,D,u,rfl,by simp [E],K4,b3,J⟩
 .have X:cr bs (b+x.1)=true:=b0;rw[b0]at bg;simp only[X,G3,Bi,bF]at J;refine J20 f0 f5 D u a2 bb gx nt S a1 l1 a8 a4.symm g3 e0 gp a7 gb bg @wrap_small ?_;exact d8 (kk-1) oM ⟨j+1,bs,m,oM,oM,f0,f4,f5,f6,f7,D,u,rfl,E,K3,W,J⟩
def HT(Hs:d7)(lo K pm J:Nat)(s:StD)(ev:EvD)(fi ne:SoD)(F:Nat->Prop)(O:d7)(n:Nat)(hn:n<=1000000)(a5:ek fi n)(a6:ek ne n)(b:Int)(hb:0<=b/\b<=1000000)(a8:J<O.n)(pc:Nat)(rp:LV)(X:O.g pc=cE rp 1)(a2:pc≠J)
  (ha:Option Addr) (hc:Nat) (hs:List Bool) (F2:Nat->Prop) (U:∀j,F2 j->j<O.n/\j≠J) (hh:SlF O F2 1 (y7 boE) (.slice ha hs.length hc) hs)
  (va:Option Addr) (ca:Nat) (l:List EdD) (a7:rp[3]?=some (.slice va l.length ca)) (hv:SlF O F 4 (y7 edE) (.slice va l.length ca) l) (hF:∀j,F j->j<O.n/\j≠J) (hl:l.length<=1000000) (hw:∀x∈l,0<=x.1/\b+x.1<n/\0<=x.2.1/\b+x.2.1<n/\(x.2.2.1=3->0<=x.2.2.2/\x.2.2.2<hs.length)) (r:List Bool):
  ∀kk e H2,(∃(bs:List Bool)(m:Bool),kk=(if m then ct bs+1 else 0)/\e.g 0=pT pm/\e.g 4=pT pc/\e.g 5=iV b/\e.g 6= .slice ha hs.length hc/\e.g 7= .bool m/\bs.length=n/\U6 Hs lo K pm J s ev fi ne bs F H2/\Fr1 J O H2/\(if m then itE fi ne hs b l (ct bs+1) bs else bs)=r)->
  u7 (LE prog l7 (.loop Qb) e H2) (fun o e H2=>o= .exit 0/\r.length=n/\U6 Hs lo K pm J s ev fi ne r F H2/\Fr1 J O H2):=by
 refine i5 _ _ ?_;rintro kk e H2 ⟨bs,m,hk,f0,f4,f5,f6,f7,a1,hK,u,E⟩;cases m with
 |false=>
  simp only[bF]at E;refine J1 f7 ?_;exact i6 ⟨rfl,by rw[<-E];exact a1,by rw[<-E];exact hK,u⟩
 |true=>
  simp only[jd]at E hk;have a9:=u.stay.n;have a3:=u6 X;have g2:=(u.but pc a3 a2).trans X;refine J4 f4 f7 g2 a7 ?_;refine i8 (F:=fun z=>u7 (inBlock 1 (inBlock 2 z)) _) (Ip Hs lo K pm J s ev fi ne F H2 n hn a5 a6 b hb oM pc rp g2 a2 ha hc hs F2 (fun j I=>by have:=U j I;exact⟨oM,this.2⟩) (hh.mono (fun j I=>u.but j (U j I).1 (U j I).2) (fun _ h=>h) iF) va ca l (hv.mono (fun j I=>u.but j (hF j I).1 (hF j I).2) (fun _ h=>h) iF) (fun j I=>by have:=hF j I;exact⟨oM,this.2⟩) hl hw (Y5 fi ne hs b l (bs,false)) l.length _ _ ⟨0,bs,false,rfl,oM,f0,f4,f5,f6,rfl,rfl,rfl,rfl,a1,hK,Fr1.refl _ _,rfl⟩) ?_;rintro o e' H3 ⟨ho,g0,g4,g5,g6,g7,W,K3,F3⟩;have S:∀x∈l,0<=b+x.1/\b+x.1<bs.length:=fun x hx=>oN (hw x hx);have D:=io fi ne hs b l (bs,false) S;rw[itE]at E;obtain⟨z,hz⟩:=eY (Y5 fi ne hs b l (bs,false));have a4:z.1.length=bs.length:=by rw[hz,ip]
  rw[<-hz]at g7 W K3 E D;simp only[IC,aaU]at D;refine J1 ho ?_;obtain⟨z1,z2⟩:=z;simp only at g7 W K3 E D a4;refine d8 (if z2 then ct z1+1 else 0) ?_ ⟨z1,z2,rfl,g0,g4,g5,g6,g7,W,K3,u.trans F3,?_⟩
  .cases z2 with
   |false=>simp only[bF];omega
   |true=>have:=D.2 rfl;simp only[jd];omega
  .cases z2 with
   |false=>simpa using E
   |true=>
    simp only[jd]at E ⊢;rw[<-E];have:=D.2 rfl;exact(Lj fi ne hs b l (ct z1+1) (ct bs) z1 (fun x hx=>by rw[a4];exact S x hx) lR oM).symm
def U6.low{u:d7}{lo K D z:Nat}{s:StD}{e:EvD}{fi ne:SoD}{bs:List Bool}{F:Nat->Prop}{H:d7}(h:U6 u lo K D z s e fi ne bs F H)(n:Nat):U6 u lo K D z s e fi ne bs F ⟨H.bs,n⟩:=by
 obtain⟨⟨rs,re,E,I,J,O⟩,S,U,W,X,h8⟩:=h;exact⟨⟨rs,re,E,I,J.mono (fun _ _=>rfl) (fun _ h=>h) iF iF,A3 _ _ _ _ _ _ O (fun _ _=>rfl) (fun _ h=>h)⟩,S,U,W,X,h8⟩
def QI{P:Program}{X:Lib}{f:FuncId}{l:t5}{z:Nat}{J:List ResultVar}(E:fnL P f=some (l,z,J))(D:X f=none)(args:LV)(I:args.length<=z)(H:d7){v:aa3}{H':d7}(h:CL P X f args H=some (v,some H')):H'.low<=H.low:=by
 rw[i7 E D args I]at h;unfold t6 at h;split at h
 .cases h
 .obtain⟨O,_,u⟩:=ji.1 h;unfold F7 at u;split at u
  .simp at u
  .simp only[lE,ky]at u;rw[<-u.2];show min H.low _<=H.low;omega
 .cases h
def XQ(Hs:d7)(lo K W D:Nat)(s:StD)(ev:EvD)(fi ne:SoD)(bs:List Bool)(F:Nat->Prop)(H:d7)(hK:U6 Hs lo K W D s ev fi ne bs F H)(k5:lo<=H.n)(hw:WfS s bs.length)(g4:ek fi bs.length)(h0:ek ne bs.length)(f6:ev.attrs.length<=1000000)(i:Nat)(p:PrD)(b:Int)(hp:s.progs[i]?=some p)(hb:s.base[i]?=some b)(h7:p.ts.length<=1000000)(g0:p.ed.length<=1000000):
  Ret (CL prog l7 98 [pT W,iV i] H) H fun v H'=>v=undef/\U6 Hs lo K W D s ev fi ne (cV s ev fi ne p b bs) F H'/\Fr1 D H H':=by
 have l1:(⟨H.bs,H.n⟩:d7).n=H.n:=rfl;have Kb:U6 Hs lo K W D s ev fi ne bs F ⟨H.bs,H.n⟩:=hK.work (d9.start H);obtain⟨w1,w2,w3⟩:=hw.at_ i p b hp hb;have k9:=w3.st;have k1:=w3.en;have h4:=hw.nle;obtain⟨K1,a1,n1,-⟩:=pushF H (bC z5 1);have s1:d9 H.n ⟨H.bs,H.n⟩ K1:=by rw[a1];exact d9.push lR
 obtain⟨rs,re,bc,c3,g,j1,j2,e7,f9,b0,a9,_,_,e9,rk,_⟩:=Kb.row;obtain⟨pa,l3,ga,gc,xa,xc,ea,ec,ta,tc,e6,h1,h2,h3,_⟩:=I0 e7;have e4:=u6 g;have k6:=Kb.pbl;have r1:c3[1]?=some (.slice ga s.progs.length gc):=by rw[rk 1 oM,e6];rfl
 have r2:c3[2]?=some (.slice xa s.base.length xc):=by rw[rk 2 oM,e6];rfl
 have g7:i<s.progs.length:=(gS hp).1;have g6:i<s.base.length:=(gS hb).1;obtain⟨p',np,op,cp,j3,J,i0,_,rfl,f4,b8,i3,a4,k0,a6⟩:=h2.row (i:=i) g7;obtain rfl:p=p':=oU (hp.symm.trans i0);obtain⟨b',nx,ox,cx,j4,f2,h9,_,rfl,d6,a7,j0,h6,f8,f5⟩:=h3.row (i:=i) g6;obtain rfl:b=b':=oU (hb.symm.trans h9);have e1:f2=inE b:=f5;subst e1;have c7:cx[ox+i*1]?=some (.int .i64 b):=by have:=f8 0 oM;rw[ly]at this;exact this
 have ap:=kP a6;have lp:=fj a6;obtain⟨b2,b3,l6,l8,c0,h5,k7⟩:=F0 a6;have f0:J[2]?=some (.int .i64 p.en):=by rw[c0];rfl
 have i1:J[3]?=some (.slice b2 p.ed.length b3):=by rw[c0];rfl
 have e8:ldC (some true) (some 5) 0 J=some (.agg J.toArray):=by rw[c0];rfl
 obtain⟨X,S⟩:=eY (K1.put H.n (bC J 1));have n2:X.n=H.n+1:=by rw[S,j9,n1]
 have s2:d9 H.n ⟨H.bs,H.n⟩ X:=by rw[S];exact s1.trans (d9.put lR)
 have g1:=(s1.g W e4).trans g;have g2:=(s2.g W e4).trans g;have d1:=(s1.g np (Kb.lt _ f4).1).trans b8;have d2:=(s1.g nx (Kb.lt _ d6).1).trans a7;have d3:=(s2.g nx (Kb.lt _ d6).1).trans a7;have d4:K1.g H.n=cE z5 1:=by rw[a1];exact j6
 have b5:X.g H.n=cE J 1:=by rw[S];exact i9 oM
 have f1:splice z5 0 J=J:=A0 _ _ (by rw[lp];rfl);have nt:(i:Int).toNat=i:=tN i;have k4:(i:Int)<s.progs.length:=oM;have i2:(i:Int)<s.base.length:=oM;have b1:=Kb.work s2;obtain⟨F',b6⟩:=eY (fun j=>F j\/j=D:Nat->Prop);have c4:∀j,F j->F' j:=fun j u=>by rw[b6];exact .inl u
 have b7:∀j,F j->X.g j=(⟨H.bs,H.n⟩:d7).g j:=fun j u=>s2.g j (Kb.lt j u).1;have f7:SlF X F' 1 (y7 xr) (sL D bs.length bc) bs:=by
  refine .inr ⟨D,0,bc,rfl,.inr ⟨_,true,by rw[b6];exact .inr rfl,b1.bits,by simp,fun j v u=>?_⟩⟩;show((bs.map bX).drop (0+j*1)).take 1=xr v;have g9:=(gS u).1;rw[tV,yD,qQ (by simpa using g9)];have:=(gS u).2;simp [xr,this]
 obtain⟨wv,d5,H3,a2,I,U,s3⟩:=XT Hs lo K s p ev bs F' X rs J re (sP D) bc (e7.mono b7 c4 iF iF) (a6.mono b7 c4 iF) (A3 _ _ _ _ _ _ f9 b7 c4) f7 (fun j u=>by
  rw[b6]at u;rcases u with u|u
  .have:=Kb.lt j u;omega
  .omega) b1.eq oM hw f6 h7
 have n3:=s3.n;have g8:H3.low<=X.low:=by
  rcases d5 with _|Hx
  .have e3:X=H3:=I;rw[e3];exact lR
  .have e3:Hx=H3:=I;rw[<-e3];exact QI KF rfl _ sM _ a2
 have c6:=b1.work s3;obtain⟨wa,wc,ew⟩:=U.slice;rw[ew]at a2 U;have g3:H3.g W=cE c3 1:=(s3.g W oM).trans g2;have d0:H3.g H.n=cE J 1:=(s3.g _ oM).trans b5;have k2:0<=b+p.en:=oM;have k3:b+p.en<bs.length:=oM;have bl:(bs.map bX).length=bs.length:=sM;have e2:(b+p.en).toNat*1+1<=bs.length:=oM;obtain⟨H4,O⟩:=eY (H3.put D (.cells ((bs.map bX).set ((b+p.en).toNat*1) (.int .u8 1)) true 1));have K4:U6 Hs lo K W D s ev fi ne (bs.set (b+p.en).toNat true) F H4:=by rw[O,yD];exact c6.set (b+p.en).toNat
 have n4:H4.n=H3.n:=by rw[O,j9]
 have c9:=c6.bits;have b4:Fr1 D H3 H4:=by rw[O];exact Fr1.put
 have c8:Fr1 D ⟨H.bs,H.n⟩ H4:=((Fr1.of s2 oM (by rw[S,A9,a1,l9];omega)).trans (Fr1.of s3 oM g8)).trans b4;have f3:H4.g H.n=cE J 1:=(b4.but _ oM oM).trans d0;have l4:H4.low<=D:=by rw[O,A9];omega
 obtain⟨E,b9⟩:=eY (p.ts.map (E9 s ev bs));have lhs:E.length=p.ts.length:=by rw[b9,ED]
 rw[<-b9]at a2 U;have g5:SlF H4 (fun j=>j8 (.slice wa E.length wc) j) 1 (y7 boE) (.slice wa E.length wc) E:=(U.same fun j u=>by have:=U.lt u;exact b4.but j this.2 oM).frz fun _ h=>h;have h8:SlF H4 F 4 (y7 edE) (.slice b2 p.ed.length b3) p.ed:=h5.mono (fun j u=>c8.but j (Kb.lt j u).1 (Kb.lt j u).2) (fun _ h=>h) iF;rw[i7 Sq rfl _ sM];have a8:∀(e5:Env),e5.g 0=pT W->e5.g 4=pT H.n->e5.g 5=iV b->e5.g 6= .slice wa E.length wc->e5.g 7= .bool true->
   Ret (t6 prog [] H (inBlock 0 (LE prog l7 Qb.loop e5 H4))) H fun v H'=>v=undef/\U6 Hs lo K W D s ev fi ne (cV s ev fi ne p b bs) F H'/\Fr1 D H H':=by
  intro e5 q0 q4 q5 q6 q7;refine i8 (F:=fun z=>Ret (t6 _ _ _ (inBlock 0 z)) _ _) (HT Hs lo K W D s ev fi ne F H4 bs.length h4 g4 h0 b oM oM H.n J f3 oM wa wc E _ (fun j u=>by have:=U.lt u;omega) g5 b2 b3 p.ed i1 h8 (fun j u=>by have:=Kb.lt j u;omega) g0 (fun x hx=>by have:=w3.ed x hx;rw[lhs];omega) (cV s ev fi ne p b bs) _ _ _ ⟨bs.set (b+p.en).toNat true,true,rfl,q0,q4,q5,q6,q7,by simp,K4,Fr1.refl _ _,by rw[cV,<-b9];rfl⟩) ?_;rintro o e' H5 ⟨ho,k8,K5,c5⟩;have a5:=c8.trans c5;have l5:H5.low<=D:=HE c5.low l4;refine J1 ho ?_;refine E1 (fun _ hl=>oM) ⟨rfl,?_,?_⟩
  .exact K5.low _
  .exact⟨⟨a5.stay.n,fun k q1 q2=>(by have:=a5.stay.lowAll k q1 (show k<=H.n from oM);show k<=min H.low H5.low;omega),a5.stay.g⟩,a5.but,by show min H.low H5.low<=H.low;omega⟩
 rcases d5 with _|Hx
 .have e3:X=H3:=I;subst e3;have a3:CL prog l7 124 [.agg rs.toArray,.agg J.toArray,.agg re.toArray,sL D bs.length bc] X=some (.slice wa E.length wc,none):=a2;refine J30 g r1 r2 nt b8 a4 a7 c7 a1.symm g1 g2 d1 d2 d4 ap lp f1 S.symm d3 b0 b5 e8 a9 e9 a3 @R0 f0 c9 (aI bl e2) (aI O.symm @wrap_small) ?_;exact a8 _ rfl rfl rfl rfl rfl
 .have e3:Hx=H3:=I;subst e3;have a3:CL prog l7 124 [.agg rs.toArray,.agg J.toArray,.agg re.toArray,sL D bs.length bc] X=some (.slice wa E.length wc,some Hx):=a2;refine J30 g r1 r2 nt b8 a4 a7 c7 a1.symm g1 g2 d1 d2 d4 ap lp f1 S.symm d3 b0 b5 e8 a9 e9 a3 @R0 (aI g3 d0) (aI f0 c9) (aI bl e2) (aI O.symm @wrap_small) ?_;exact a8 _ rfl rfl rfl rfl rfl
def vB(H:d7)(u:Nat)(bs:List Bool)(c:Nat)(z:H.g u=cE (bs.map bX) 1):bN prog H 140 9 (sL u bs.length c)=some (.string (pC bs),none):=by
 have key:∀l:List Bool,(l.map bX).mapM fT=some (l.map fun b=>if b then(1:UInt8) else 0):=by
  intro l;induction l with
  |nil=>rfl
  |cons b l D=>
   rw[xC,KW,D];cases b<;>rfl
 have hs:B9 H 1 (sL u bs.length c)=some (bs.map bX):=by
  simp only[B9];by_cases h:bs.length=0
  .rw[bJ h];have:bs=[]:=pF.1 h;rw[this];rfl
  .rw[bt h,z];simp;exact kC sM
 simp only[bN,uq.2.2.2.2.2.2,ty9.2.2.2.2.2.2,ty5.2.2.2.2.2.2,hs,pB,key];rfl
def IL(W:d7)(lo K J I:Nat)(s:StD)(ev:EvD)(fi ne:SoD)(F:Nat->Prop)(U:d7)(n:Nat)(S:WfS s n)(b3:lo<=U.n)(a6:ek fi n)(a9:ek ne n)(a1:ev.attrs.length<=1000000)(b0:∀p∈s.progs,p.ts.length<=1000000/\p.ed.length<=1000000) (r:List Bool) (p5 p8:aa3):
  ∀kk e H2,(∃(i:Nat)(bs:List Bool),kk=s.progs.length-i/\i<=s.progs.length/\e.g 5=p5/\e.g 8=p8/\e.g 9=pT J/\e.g 22=iV s.progs.length/\e.g 23=iV i/\bs.length=n/\U6 W lo K J I s ev fi ne bs F H2/\Fr1 I U H2/\aJ s ev fi ne ((s.progs.zip s.base).drop i) bs=r)->
  u7 (LE prog l7 (.loop Vw) e H2) (fun o e H2=>o= .exit 0/\e.g 5=p5/\e.g 8=p8/\e.g 9=pT J/\r.length=n/\U6 W lo K J I s ev fi ne r F H2/\Fr1 I U H2):=by
 refine i5 _ _ ?_;rintro kk e H2 ⟨i,bs,hk,hi,f5,f8,X,u,D,h,hK,z,E⟩;rcases b:decide ((i:Int)<s.progs.length)with _|_
 .have a2:=dF b;have:(s.progs.zip s.base).drop i=[]:=dN (by rw[MQ];omega);rw[this,aJ]at E;refine J3 u D b ?_;exact i6 ⟨rfl,f5,f8,X,by rw[<-E];exact h,by rw[<-E];exact hK,z⟩
 have a2:=dT b;have b1:=S.l1;have b2:=S.l2;obtain⟨p,hp,a5⟩:=P5 (l:=s.progs) (i:=i) oM;obtain⟨O,a3,a4⟩:=P5 (l:=s.base) (i:=i) oM;have hz:(s.progs.zip s.base).drop i=(p,O)::(s.progs.zip s.base).drop (i+1):=by
  rw[kw,a5,a4,YB,kw]
 rw[hz,aJ]at E;have b4:=z.stay.n;obtain⟨z1,z2⟩:=b0 p (mG hp);obtain⟨v,h3,H3,hc,a7,rfl,K3,F3⟩:=XQ W lo K J I s ev fi ne bs F H2 hK oM (by rw[h];exact S) (by rw[h];exact a6) (by rw[h];exact a9) a1 i p O hp a3 z1 z2;have a8:(cV s ev fi ne p O bs).length=n:=by rw[cV,xY];simp [h]
 have b5:=S.l0;refine J7 X u D b hc a7 @wrap_small ?_;exact d8 (kk-1) oM ⟨i+1,cV s ev fi ne p O bs,oM,oM,f5,f8,X,u,rfl,a8,K3,z.trans F3,E⟩
abbrev z20:LV:=[nS,nS,nS,iV 0,iV 0,iV 0,nS,nS,iV 0,.string eB,.string eB,nS,.string eB,.bool false,.bool false,.string eB,.bool false,.bool false,.string eB,nS]
def vW(Hs:d7)(lo K:Nat)(s:StD)(ev:EvD)(fi ne:SoD)(F:Nat->Prop)(H:d7)(E S:LV)(hs:StF H F (QR Hs lo K false) (QR Hs lo K true) E s)(he:EvF H F S ev)(hF:∀j,F j->j<H.n) (e3:∀j,j<lo->H.g j=Hs.g j) (h3:lo<=H.n) (n:Nat) (hn:(n:Int)=A5 s.progs) (hw:WfS s n) (e4:ek fi n) (e6:ek ne n)
  (d4:ev.attrs.length<=1000000) (a8:∀p∈s.progs,p.ts.length<=1000000/\p.ed.length<=1000000/\0<=p.st/\p.st<=1000000):
  CL prog l7 71 [.agg E.toArray,.agg S.toArray,.agg (soE fi).toArray,.agg (soE ne).toArray] H=some (.agg (soE (I9 s ev fi ne)).toArray,none):=by
 obtain⟨pa,pc,ga,gc,xa,xc,ea,ec,ta,tc,a1,_⟩:=I0 hs;obtain⟨av,W,d5⟩:=id he;obtain⟨g8,g9,rfl⟩:=d5.slice;have b5:E.all oC=true:=by rw[a1];rfl
 have ae:S.all oC=true:=by rw[W];rfl
 have ls:E.length=8:=by rw[a1];rfl
 have le:S.length=5:=by rw[W];rfl
 have f6:ldC (some true) (some 8) 0 E=some (.agg E.toArray):=by rw[a1];rfl
 have f0:ldC (some true) (some 5) 0 S=some (.agg S.toArray):=by rw[W];rfl
 have f9:S[0]?=some (.int .i64 ev.kind):=by rw[W];rfl
 have g0:E[1]?=some (.slice ga s.progs.length gc):=by rw[a1];rfl
 have h4:=hw.nle;have h0:=hw.l0;have h1:=hw.l1;obtain⟨f1,f2,f3⟩:=fi;obtain⟨g1,g2,g3⟩:=ne;obtain⟨fe,I⟩:=eY (soE (f1,f2,f3));obtain⟨ge,J⟩:=eY (soE (g1,g2,g3));rw[<-I,<-J];have af:fe.all oC=true:=by rw[I];rfl
 have ag:ge.all oC=true:=by rw[J];rfl
 have lf:fe.length=3:=by rw[I];rfl
 have lg:ge.length=3:=by rw[J];rfl
 have f4:ldC (some true) (some 3) 0 fe=some (.agg fe.toArray):=by rw[I];rfl
 have f5:ldC (some true) (some 3) 0 ge=some (.agg ge.toArray):=by rw[J];rfl
 obtain⟨z3,b2⟩:=eY ([.bool false,.bool false,.string eB]:LV);obtain⟨u,D⟩:=eY (((((d7.push ⟨H.bs,H.n⟩ (bC E 1)).push (bC S 1)).push (bC fe 1)).push (bC ge 1)).push (bC z3 1));have O:(d7.push ⟨H.bs,H.n⟩ (bC E 1)).n=H.n+1:=by rw[i4];rfl
 have n1:u.n=H.n+5:=by rw[D,i4,i4,i4,i4,O]
 have s1:d9 H.n H u:=by rw[D];exact((((d9.first H _).trans (d9.push oM)).trans (d9.push (by rw[i4];omega))).trans (d9.push (by rw[i4,i4];omega))).trans (d9.push (by rw[i4,i4,i4];omega))
 have a5:u.g H.n=cE E 1:=by
  rw[D,j5 (by simp only[i4,O];omega),j5 (by simp only[i4,O];omega),j5 (by simp only[i4,O];omega),j5 oM];exact j6
 have a6:u.g (H.n+1)=cE S 1:=by
  rw[D,j5 (by simp only[i4,O];omega),j5 (by simp only[i4,O];omega),j5 (by simp only[i4,O];omega)];exact A4 oM
 have a9:u.g (H.n+2)=cE fe 1:=by
  rw[D,j5 (by simp only[i4,O];omega),j5 (by simp only[i4,O];omega)];exact A4 (by simp only[i4,O];omega)
 have b0:u.g (H.n+3)=cE ge 1:=by
  rw[D,j5 (by simp only[i4,O];omega)];exact A4 (by simp only[i4,O];omega)
 have b6:u.g (H.n+4)=cE z3 1:=by
  rw[D];exact A4 (by simp only[i4,O];omega)
 have c5:H.n<=u.low:=by rw[D];simp only[l9];exact lR
 have e5:∀j,F j->u.g j=H.g j:=fun j hj=>s1.g j (hF j hj);have c3:=XP u F _ _ E s (fun j hj=>by have:=hF j hj;omega) (hs.mono e5 (fun _ h=>h) iF iF) oM (fun p hp=>⟨(a8 p hp).2.2.1,(a8 p hp).2.2.2⟩);rw[<-hn]at c3;obtain⟨H2,a7,-,-,a2⟩:=pushE u (.cells ((List.replicate n false).map bX) true 1);have n2:H2.n=H.n+6:=by rw[a7,i4,n1]
 have c6:S7 prog u 140 (.int .i64 n) (.int .i64 n)=some (sL u.n n (n+1),H2):=by
  have e1:(List.replicate n [Value.int .u8 0]).flatten=(List.replicate n false).map bX:=by
   rw[Tm,aad];rfl
  simp only[S7,uq.2.2.2.2.2.1,ty5.2.2.1,ty5.2.1,xA,e1];rw[bJ ⟨by decide,oM,JE _,oM,oM⟩,a7];rfl
 have b7:=(a2.g _ oM).trans a5;have b8:=(a2.g _ oM).trans a6;have b9:=(a2.g _ oM).trans a9;have c0:=(a2.g _ oM).trans b0;obtain⟨b3,X⟩:=eY (E++(S++(fe++(ge++[sL u.n n (n+1)]))));obtain⟨rA,hA⟩:=eY (splice z20 0 E);obtain⟨rB,hB⟩:=eY (splice rA 8 S);obtain⟨rC,hC⟩:=eY (splice rB 13 fe);obtain⟨rD,hD⟩:=eY (splice rC 16 ge);have lA:rA.length=20:=by rw[hA,D6];rfl
 have lB:rB.length=20:=by rw[hB,D6];exact lA
 have lC:rC.length=20:=by rw[hC,D6];exact lB
 have lD:rD.length=20:=by rw[hD,D6];exact lC
 have eE:rD.set 19 (sL u.n n (n+1))=b3:=by rw[hD,hC,hB,hA,X,a1,W,I,J];rfl
 have b4:b3.all oC=true:=by rw[X];simp only[Iq,b5,ae,af,ag];rfl
 obtain⟨H3,U,-,d3,-⟩:=pushE H2 (bC b3 1);have n3:H3.n=H.n+7:=by rw[U,i4,n2]
 have a3:d9 u.n u H3:=by rw[U];exact a2.trans (d9.push oM)
 have c8:d9 H.n H H3:=s1.trans (a3.wk oM);have gb:H3.g u.n=some (.cells ((List.replicate n false).map bX) true 1):=by rw[U,j5 oM,a7];exact j6
 have c4:∀j,F j->H3.g j=H.g j:=fun j hj=>c8.g j (hF j hj);have K3:U6 Hs lo K H2.n u.n s ev (f1,f2,f3) (g1,g2,g3) (List.replicate n false) F H3:=⟨⟨E,S,n+1,by rw[<-I,<-J,Qw,<-X];exact d3,hs.mono c4 (fun _ h=>h) iF iF,A3 _ _ _ _ _ _ he c4 (fun _ h=>h)⟩,gb,fun j hj=>by have:=hF j hj;omega,fun j hj=>by rw[c8.g j oM];exact e3 j hj,oM,oM⟩
 have d0:=(a3.g _ oM).trans a5;have e7:(A5 s.progs).toNat=n:=oM;rw[i7 Xf rfl _ sM,I9,e7];refine J30 b5 ae af ag ls le lf lg b2.symm D.symm a5 a6 a9 b0 f6 f0 f4 f5 c3 c6 b7 b8 b9 (aI c0 hA.symm) (aI lA hB.symm) (aI lB hC.symm) (aI lC hD.symm) (aI lD eE) (aI b4 U.symm) (aI d0 g0) ?_;refine i8 (F:=fun z=>t6 _ _ _ (t7 (inBlock 0 z) _)=_) (IL Hs lo K H2.n u.n s ev (f1,f2,f3) (g1,g2,g3) F H3 n hw oM e4 e6 d4 (fun p hp=>⟨(a8 p hp).1,(a8 p hp).2.1⟩) (aJ s ev (f1,f2,f3) (g1,g2,g3) (s.progs.zip s.base) (List.replicate n false)) (pT (H.n+1)) (pT (H.n+4)) s.progs.length _ _ ⟨0,List.replicate n false,rfl,oM,rfl,rfl,rfl,rfl,rfl,Qw ..,K3,Fr1.refl _ _,rfl⟩) ?_;rintro o e' H4 ⟨ho,k5,k8,k9,e8,K4,a4⟩;obtain⟨bz,d6⟩:=eY (aJ s ev (f1,f2,f3) (g1,g2,g3) (s.progs.zip s.base) (List.replicate n false));rw[<-d6]at e8 K4 ⊢;have n4:=a4.stay.n;obtain⟨h6,h5,c9,g7,g4,e9,f7,_,_,_,_,_,_,c7,_,_⟩:=K4.row;have e2:=vB H4 u.n bz c9 K4.bits;have d1:H4.g (H.n+1)=cE S 1:=(a4.but _ oM oM).trans ((a3.g _ oM).trans a6);have d2:H4.g (H.n+4)=cE z3 1:=(a4.but _ oM oM).trans ((a3.g _ oM).trans b6);have g6:splice z3 0 [.bool true,.bool (decide (ev.kind=2)),.string (pC bz)]=[.bool true,.bool (decide (ev.kind=2)),.string (pC bz)]:=by rw[b2];rfl
 have f8:z3.length=3:=by rw[b2];rfl
 obtain⟨H5,b1⟩:=eY (H4.put (H.n+4) (bC [.bool true,.bool (decide (ev.kind=2)),.string (pC bz)] 1));have g5:H5.g (H.n+4)=cE [.bool true,.bool (decide (ev.kind=2)),.string (pC bz)] 1:=by rw[b1];exact i9 oM
 have h2:H.n<=H5.low:=by
  rw[b1,A9];have a:=(a3.wk (show H.n<=u.n from oM)).low c5;have b:=(a4.stay.wk (show H.n<=u.n from oM)).low a;omega
 clear a5 a6 a9 b0 b6 b7 b8 b9 c0 hA hB hC hD lA lB lC lD eE c6 D a7 U;exact J15 ho k5 k8 k9 d1 f9 g4 c7 e2 d2 f8 g6 b1.symm g5 @R0 trivial
abbrev PN:aa2:=⟨#[48,49,50,51,52,53,54,55,56,57,97,98,99,100,101,102,103,104,105,106,107,108,109,110,111,112,113,114,115,116,117,118,119,120,121,122]⟩
abbrev PO:aa2:=⟨#[48,48,48,49,48,50,48,51,48,52,48,53,48,54,48,55,48,56,48,57,49,48,49,49,49,50,49,51,49,52,49,53,49,54,49,55,49,56,49,57,50,48,50,49,50,50,50,51,50,52,50,53,50,54,50,55,50,56,50,57,51,48,51,49,51,50,51,51,51,52,51,53,51,54,51,55,51,56,51,57,52,48,52,49,52,50,52,51,52,52,52,53,52,54,52,55,52,56,52,57,53,48,53,49,53,50,53,51,53,52,53,53,53,54,53,55,53,56,53,57,54,48,54,49,54,50,54,51,54,52,54,53,54,54,54,55,54,56,54,57,55,48,55,49,55,50,55,51,55,52,55,53,55,54,55,55,55,56,55,57,56,48,56,49,56,50,56,51,56,52,56,53,56,54,56,55,56,56,56,57,57,48,57,49,57,50,57,51,57,52,57,53,57,54,57,55,57,56,57,57]⟩
def FD:((List.range 10).all fun n=>decide ((PN.extract n (n+1)).data.toList=(dg1 n).data.toList))=true/\((List.range 100).all fun n=>decide ((PO.extract (n*2) (n*2+2)).data.toList=(dg1 (n / 10)).data.toList++(dg1 (n % 10)).data.toList))=true:=⟨kR,kR⟩
def xn{a b:aa2}(h:a.data.toList=b.data.toList):a=b:=by
 obtain⟨a⟩:=a;obtain⟨b⟩:=b
 congr 1
 exact sC.1 h
def PP(n:Nat)(h:n<10):PN.extract n (n+1)=dg n:=by
 have:=tA.1 FD.1 n (vK.2 h);rw[dg,Ky h];exact xn (dT this)
def PQ(n:Nat)(u:10<=n)(h:n<100):PO.extract (n*2) (n*2+2)=dg n:=by
 have:=tA.1 FD.2 n (vK.2 h);rw[dg,Yv oM,dg,Ky oM,dg,Ky oM];refine xn ((dT this).trans ?_);rw[aA]
def TP(n:Nat)(h:n<100)(H:d7):CL prog l7 148 [iV n] H=some (.string (dg n),none):=by
 have O:n<10->∀H,L9 prog H 9 (.string PN) (some (.int .i64 n)) (some (.int .i64 ((n:Int)+1))) none=some (.string (dg n)):=fun u H=>by
  have p1:(0:Int)<=n:=oM;have p2:(0:Int)<=(n:Int)+1:=oM;have E:((n:Int)+1).toNat=n+1:=oM;have J:n<=n+1/\n+1<=PN.size:=⟨oM,by show n+1<=36;omega⟩
  simp only[L9,ty9.2.2.2.2.2.2,bnd,bJ p1,bJ p2,xA,E,bJ J,PP n u]
 have S:10<=n->∀H,L9 prog H 9 (.string PO) (some (.int .i64 ((n:Int)*2))) (some (.int .i64 ((n:Int)*2+2))) none=some (.string (dg n)):=fun u H=>by
  have p1:(0:Int)<=(n:Int)*2:=oM;have p2:(0:Int)<=(n:Int)*2+2:=oM;have E:((n:Int)*2).toNat=n*2:=oM;have I:((n:Int)*2+2).toNat=n*2+2:=oM;have J:n*2<=n*2+2/\n*2+2<=PO.size:=⟨oM,by show n*2+2<=200;omega⟩
  simp only[L9,ty9.2.2.2.2.2.2,bnd,bJ p1,bJ p2,E,I,bJ J,PQ n u h]
 rw[i7 WD rfl _ sM];rcases b:decide ((n:Int)<10)with _|_
 .have U:=dF b;have D:=S oM;exact J3 b D @wrap_small trivial
 .have U:=dT b;have z:=O oM;exact J3 b z @wrap_small trivial
def XR(n:Nat)(h:n<100)(H:d7):CL prog l7 91 [iV n] H=some (.string (dg n),none):=by
 have D:=fun H=>TP n h H;have z:∀H,CL prog l7 138 [iV n,iV 10] H=some (.string (dg n),none):=fun H=>by
  have E:decide ((0:Int)<=n)=true:=ib oM;have I:decide ((n:Int)<100)=true:=ib oM;rw[i7 Ww rfl _ sM];exact J3 E I D trivial
 have u:∀H,CL prog l7 115 [iV n] H=some (.string (dg n),none):=fun H=>by
  rw[i7 Wg rfl _ sM];exact J1 z trivial
 rw[i7 YU rfl _ sM];exact J1 u trivial
def vR(l:List aa2)(s:aa2):(l.any fun y=>dP s y)=Z0 l s:=by
 unfold Z0;congr 1;funext y;exact wG.2 ⟨Eq.symm,Eq.symm⟩
def frN(l:List aa2)(stem:aa2):Nat:=fW (fun n=>Z0 l (stem++dg n)) (l.length+1) 0
def KP(l:List aa2)(u:aa2):Z0 l (u++dg (frN l u))=false/\frN l u<l.length+1:=by
 obtain⟨m,D,z⟩:=xP (fun n=>u++dg n) (fun i j h=>xJ (xm h)) l (fun n=>Z0 l (u++dg n)) (fun i h=>sD h);have:=gF (fun n=>Z0 l (u++dg n)) (l.length+1) 0 ⟨m,oM,oM,z⟩;exact⟨this.1,by have:=this.2;rw[frN];omega⟩
def frS(l:List aa2)(stem:aa2)(ah:List aa2):aa2:=match ah.find? (fun s=> !Z0 l s)with|some s=>s|none=>stem++dg (frN l stem)
def Ar(H0:d7)(lo:Nat)(X:lo<=H0.n)(v v1:aa3)(l:List aa2)(hv:SlI H0 lo 1 (y7 stE) v l)(hn:l.length<=1000)(va:Option Addr)(ca:Nat)(h:List aa2)(hw:SlI H0 H0.n 1 (y7 stE) (.slice va h.length ca) h)(a4:h.length<=1000):
  ∀kk e H2,(∃i:Nat,kk=h.length-i/\i<=h.length/\e.g 0=v/\e.g 1=v1/\e.g 11= .slice va h.length ca/\e.g 12=iV h.length/\e.g 13=iV i/\H2=H0/\(h.drop i).find? (fun s=> !Z0 l s)=h.find? (fun s=> !Z0 l s))->
  u7 (LE prog l7 (.loop Vq) e H2) (fun o e H2=>H2=H0/\e.g 0=v/\e.g 1=v1/\((o= .exit 0/\h.find? (fun s=> !Z0 l s)=none)\/(o= .ret/\∃s,h.find? (fun s=> !Z0 l s)=some s/\e.g 6= .string s))):=by
 refine i5 _ _ ?_;rintro kk e H2 ⟨i,hk,hi,I,U,z,u,D,hH,E⟩;subst hH;rcases b:decide ((i:Int)<h.length)with _|_
 .have W:=dF b;have:h.drop i=[]:=dN oM;rw[this,aaV]at E;refine J3 u D b ?_;exact i6 ⟨rfl,I,U,.inl ⟨rfl,E.symm⟩⟩
 have W:=dT b;obtain⟨y,nb,o,cs,own,el,hx,hd,rfl,a3,hg,a2,a1,hc,rfl⟩:=hw.row (i:=i) oM;have nt:(i:Int).toNat=i:=tN i;have S:=hc 0 oM;rw[ly]at S;have J:=La H2 lo v l y X hv oM;rw[vR]at J;rw[hd,ZN]at E;rcases O:Z0 l y with _|_
 .simp only[O,Md]at E;rw[O]at J;refine J9 I z u D b hg nt S J ?_;exact y9 ⟨rfl,I,U,.inr ⟨rfl,y,E.symm,rfl⟩⟩
 .simp only[O,G3]at E;rw[O]at J;refine J10 I z u D b hg nt S J @wrap_small ?_;exact d8 (kk-1) oM ⟨i+1,oM,oM,I,U,z,u,rfl,rfl,E⟩
def CN(H0:d7)(lo:Nat)(O:lo<=H0.n)(v:aa3)(l:List aa2)(h:aa2)(hv:SlI H0 lo 1 (y7 stE) v l)(hn:l.length<99)(hs:h.size<=1000):
  ∀S e H2,(∃n:Nat,S=frN l h+1-n/\n<=frN l h/\e.g 0=v/\e.g 1= .string h/\e.g 9=iV n/\H2=H0)->
  u7 (LE prog l7 (.loop Vr) e H2) (fun o e H2=>H2=H0/\o= .ret/\e.g 6= .string (h++dg (frN l h))):=by
 refine i5 _ _ ?_;rintro S e H2 ⟨n,hk,hi,E,I,U,X⟩;subst X;obtain⟨hf,a2⟩:=KP l h;have J:=(fo (fun n=>Z0 l (h++dg n)) (l.length+1) 0).2;have W:=fun H=>XR n oM H;have a1:=qL n;have z:=bM (P:=prog) 9 h (dg n) oM;have u:=La H2 lo v l (h++dg n) O hv oM;rw[vR]at u;by_cases D:n=frN l h
 .rw[D,hf,<-D]at u;refine J6 E I U W z u ?_;exact y9 ⟨rfl,rfl,by rw[<-D];rfl⟩
 .have hq:Z0 l (h++dg n)=true:=J n oM (by rw[frN]at D hi;omega);rw[hq]at u;refine J7 E I U W z u @wrap_small ?_;exact d8 (S-1) oM ⟨n+1,oM,oM,E,I,rfl,rfl⟩
def fresh(H:d7)(lo:Nat)(v w:aa3)(l:List aa2)(h:aa2)(u:List aa2)(D:lo<=H.n)(U:SlI H lo 1 (y7 stE) v l)(W:SlI H H.n 1 (y7 stE) w u)(hn:l.length<99)(hs:h.size<=1000)(I:u.length<=1000):
  CL prog l7 62 [v,.string h,w] H=some (.string (frS l h u),none):=by
 obtain⟨va,X,rfl⟩:=W.slice;rw[i7 Sh rfl _ sM];refine J1 X6 ?_;refine i8 (F:=fun z=>t6 _ _ _ (t7 (inBlock 0 z) _)=_) (Ar ⟨H.bs,H.n⟩ lo D v (.string h) l (U.mono (fun _ _=>rfl) lR iF) oM va X u (W.mono (fun _ _=>rfl) lR iF) I u.length _ _ ⟨0,rfl,oM,rfl,rfl,rfl,rfl,rfl,rfl,rfl⟩) ?_;rintro o e' H' ⟨rfl,g0,g1,⟨J,S⟩|⟨J,s,S,E⟩⟩
 .refine J1 J ?_;refine i8 (F:=fun z=>t6 _ _ _ (inBlock 2 z)=_) (CN ⟨H.bs,H.n⟩ lo D v l h (U.mono (fun _ _=>rfl) lR iF) hn hs (frN l h+1) _ _ ⟨0,rfl,oM,g0,g1,rfl,rfl⟩) ?_;rintro o e2 H2 ⟨rfl,O,E⟩;simp(maxSteps:=20000000) -dsimp (disch:=first|omega|(simp only[rH]<;>omega)|fail) only[↓fk,rQ,N1,sevalprocAttr,tyA,O,E,frS,S]
 .simp(maxSteps:=20000000) -dsimp (disch:=first|omega|(simp only[rH]<;>omega)|fail) only[↓fk,rQ,N1,sevalprocAttr,tyA,J,E,frS,S]
def fg(l:List (aa2×aa2)):List aa2:=(l.filter fun n=>decide (n.1=eB)).map (·.2)
abbrev z0S:aa2:=⟨#[122,48]⟩
def cI{l:List aa2}{s:aa2}:Z0 l s=true↔s∈l:=⟨sD,fun h=>AH.2 ⟨s,h,ib rfl⟩⟩
def V3{l:List (aa2×aa2)}{x:aa2×aa2}:V1 l x=true↔x∈l:=⟨vQ,fun h=>AH.2 ⟨x,h,I2.2 rfl⟩⟩
def AL(l:List (aa2×aa2))(s:aa2):s∈fg l↔(eB,s)∈l:=by
 unfold fg;rw[wC]
 constructor
 .rintro⟨⟨a,b⟩,h,rfl⟩;obtain⟨u,z⟩:=He.1 h;have:a=eB:=dT z;subst this;exact u
 .intro h;exact⟨_,He.2 ⟨h,ib rfl⟩,rfl⟩
def QD:zS++dg 0=z0S:=by rw[dg,Ky oM];decide
def Ik(l:List (aa2×aa2)):frS (fg l++[z0S]) zS [zS]=zN (V6 l):=by
 obtain⟨I,_⟩:=qU l;have u:=(fo (fun n=>V1 l (zNm n)) (l.length+1) 0).2;have e0:V1 l (zNm 0)=Z0 (fg l++[z0S]) zS:=by
  rw[Mu,V3,cI,gd,AL];exact⟨.inl,fun h=>h.resolve_right fun q=>by have:=mj.1 q;revert this;decide⟩
 have en:∀n,0<n->V1 l (zNm n)=Z0 (fg l++[z0S]) (zS++dg n):=fun n z=>by
  have O:zNm n=(eB,zS++dg n):=by rw[zNm,zN,bt oM]
  rw[Mu,V3,cI,gd,AL,O];refine⟨.inl,fun h=>h.resolve_right fun q=>?_⟩;have S:=mj.1 q;have U:zS++dg n=zS++dg 0:=S.trans QD.symm;have:=xJ (xm U);omega
 rcases b:Z0 (fg l++[z0S]) zS with _|_
 .have z:V6 l=0:=by
   rcases aae (V6 l)with h|h
   .exact h
   .have:=u 0 oM (by rw[V6]at h;exact h);rw[e0,b]at this;cases this
  rw[frS,ZN,b,z];rfl
 .have z:0<V6 l:=by
   rcases aae (V6 l)with h|h
   .rw[h,e0,b]at I;cases I
   .exact h
  obtain⟨D,_⟩:=KP (fg l++[z0S]) zS;have E:=(fo (fun n=>Z0 (fg l++[z0S]) (zS++dg n)) ((fg l++[z0S]).length+1) 0).2;have J:0<frN (fg l++[z0S]) zS:=by
   rcases aae (frN (fg l++[z0S]) zS)with h|h
   .rw[h]at D;have:Z0 (fg l++[z0S]) (zS++dg 0)=true:=cI.2 (gd.2 (.inr (mj.2 QD)));rw[this]at D;cases D
   .exact h
  have:frN (fg l++[z0S]) zS=V6 l:=by
   rcases aao (frN (fg l++[z0S]) zS) (V6 l)with h|h|h
   .have:=u _ oM (by rw[V6]at h;exact h);rw[en _ J,D]at this;cases this
   .exact h
   .have:=E _ oM (by rw[frN]at h;exact h);rw[<-en _ z,I]at this;cases this
  rw[frS,ZN,b];simp only[G3,aaV,this];rw[zN,bt oM]
def HL(x:aa2×aa2)(l:List (aa2×aa2)):fg (x::l)=if decide (x.1=eB)=true then x.2::fg l else fg l:=by
 unfold fg;rw[ZD];split<;>rfl
def Lw(l:List (aa2×aa2)):(fg l).length<=l.length:=by
 unfold fg;rw[ED];exact aaN _ _
def LU(H1:d7)(lo p2:Nat)(b0:lo<=p2)(b5:p2<H1.n)(va:Option Addr)(ca:Nat)(l:List (aa2×aa2))(hv:SlI H1 lo 2 (y7 nmE) (.slice va l.length ca) l)(hn:l.length<=1000)(v2:aa3)(r:List aa2):
  ∀kk e H2,(∃(i:Nat)(h:List aa2)(w:aa3),kk=l.length-i/\i<=l.length/\h.length<=i/\e.g 2=v2/\e.g 3=w/\e.g 6= .slice va l.length ca/\e.g 7=iV l.length/\e.g 8=iV i/\u5 H2 (p2+1) 1 (y7 stE) w h/\d9 (p2+1) H1 H2/\h++fg (l.drop i)=r)->
  u7 (LE prog l7 (.loop Vs) e H2) (fun o e H2=>o= .exit 0/\e.g 2=v2/\∃w,e.g 3=w/\u5 H2 (p2+1) 1 (y7 stE) w r/\d9 (p2+1) H1 H2):=by
 refine i5 _ _ ?_;rintro kk e H2 ⟨i,h,w,hk,hi,a8,f2,f3,f6,S,f8,hO,U,J⟩;have b3:=U.n;rcases O:decide ((i:Int)<l.length)with _|_
 .have a4:=dF O;have:l.drop i=[]:=dN oM;rw[this]at J;refine J3 S f8 O ?_;exact i6 ⟨rfl,f2,w,f3,by rw[<-J];simpa [fg] using hO,U⟩
 have a4:=dT O;obtain⟨x,nb,o,cs,own,el,hx,hd,rfl,b2,hg,a9,I,hc,rfl⟩:=hv.row (i:=i) oM;have nt:(i:Int).toNat=i:=tN i;have E:=(U.g nb oM).trans hg;obtain⟨Ha,D,a5,X,-⟩:=pushE H2 (bC [.string eB,.string eB] 1);obtain⟨H3,u⟩:=eY (Ha.put H2.n (bC (nmE x) 1));have b4:H3.n=H2.n+1:=by rw[u,j9,a5]
 have z:d9 H2.n H2 H3:=by rw[u,D];exact(d9.push lR).trans (d9.put lR)
 have W:H3.g H2.n=cE (nmE x) 1:=by rw[u];exact i9 oM
 have a6:H3.g nb=some (.cells cs own 2):=(z.g nb oM).trans E;have a7:Ha.g nb=some (.cells cs own 2):=by rw[D,j5 oM];exact E
 rw[hd,HL]at J;rcases b1:decide (x.1=eB)with _|_
 .rw[b1,bt (by decide)]at J;refine J13 f6 S f8 O D.symm X E nt I u.symm W b1 @wrap_small ?_;exact d8 (kk-1) oM ⟨i+1,h,w,oM,oM,oM,f2,f3,f6,S,rfl,hO.keep z,U.trans (z.wk oM),J⟩
 .rw[b1,bJ rfl]at J;obtain⟨v',h',H4,ha,a1,a2,a3⟩:=(hO.keep z).push1 (P:=prog) (t:=103) (by exact X6.2.2.2.2.2.2) ty9.1 ty9.2.1 ty9.2.2.1 oM oM (cs:=[.string x.2]) (a:=x.2) rfl rfl oM oM;refine J16 f3 f6 S f8 O D.symm X E nt I u.symm W b1 ha a1 @wrap_small ?_;exact d8 (kk-1) oM ⟨i+1,h++[x.2],v',oM,oM,by simp;omega,f2,rfl,f6,S,rfl,a2,(U.trans (z.wk oM)).trans a3,by rw[<-J];simp⟩
def Pl(H:d7)(lo:Nat)(v:aa3)(l:List (aa2×aa2))(a4:lo<=H.n)(hv:SlI H lo 2 (y7 nmE) v l)(hn:l.length<=90):CL prog l7 64 [v] H=some (.agg (nmE (zNm (V6 l))).toArray,none):=by
 obtain⟨va,ca,rfl⟩:=hv.slice;obtain⟨W,J,-,hg,hS⟩:=pushF H (bC [.string eB,.string eB] 1);have U:H.n<=W.low:=by rw[J,l9];exact lR
 rw[i7 Xd rfl _ sM];refine J1 J.symm ?_;refine i8 (F:=fun z=>t6 _ _ _ (t7 (inBlock 0 z) _)=_) (LU W lo H.n a4 (u6 hg) va ca l (hv.mono (fun j hj=>hS.g j oM) lR iF) oM _ (fg l) l.length _ _ ⟨0,[],_,rfl,oM,by simp,rfl,rfl,rfl,rfl,rfl,u5.nil,d9.refl _ _,rfl⟩) ?_;rintro o e' H2 ⟨ho,h2,w,h3,hO,u⟩;have a8:=u.n;have a5:=u6 hg;have a6:=Lw l;have a2:=(u.g H.n oM).trans hg;obtain⟨v',h',E,ha,S,X,D⟩:=hO.push1 (P:=prog) (t:=103) (by exact X6.2.2.2.2.2.2) ty9.1 ty9.2.1 ty9.2.2.1 oM oM (cs:=[.string z0S]) (a:=z0S) rfl rfl oM oM;have a9:=D.n;obtain⟨I,O,-,-,h⟩:=pushE E (bC [.string zS] 1);have b0:=h.n;have a1:u5 I E.n 1 (y7 stE) (sL E.n 1 1) [zS]:=by rw[O];exact u5.fresh rfl lR (F1.one rfl rfl)
 have hf:=fresh I E.n v' (sL E.n 1 1) (fg l++[z0S]) zS [zS] oM (X.sl.mono (fun j hj=>h.g j hj) lR iF) a1.sl (by simp;omega) (by decide) (by decide);rw[Ik]at hf;have a3:I.g H.n=_:=(h.g H.n oM).trans ((D.g H.n oM).trans a2);have hz:(⟨#[122]⟩:aa2)=zS:=rfl;have b1:ldC (some true) (some 2) 0 (nmE (zNm (V6 l)))=some (.agg (nmE (zNm (V6 l))).toArray):=rfl;have a7:H.n<=I.low:=((((u.wk oM).trans (D.wk oM)).trans (h.wk oM)):d9 H.n W I).low U;refine J9 ho h2 h3 ha S hz O.symm hf a3 ?_;rfl
def uK:List (List aa2)->Int->Int
 |[],n=>n
 |v::l,n=>uK l (min (n*(v.length+2)) 25)
def qx(s:SpD):Int:=uK s.vals (s.names.length+1)+s.texts.length+1
def OO(a b:Int):(if b<a then b else a)=min a b:=by split<;>omega
def JR(u:d7)(l:List (List aa2))(va:Option Addr)(X:Nat)(hv:SlI u u.n 1 (VlF u (· <u.n)) (.slice va l.length X) l)(hn:l.length<=100000)(hl:∀x∈l,x.length<=100000) (v1:aa3) (r:Int):
  ∀U e H2,(∃(i:Nat)(n:Int),U=l.length-i/\i<=l.length/\0<=n/\n<=1000001/\e.g 1=v1/\e.g 3=iV n/\e.g 11= .slice va l.length X/\e.g 12=iV l.length/\e.g 13=iV i/\H2=u/\uK (l.drop i) n=r)->
  u7 (LE prog l7 (.loop Vo) e H2) (fun o e H2=>o= .exit 0/\e.g 1=v1/\e.g 3=iV r/\H2=u/\0<=r/\r<=1000001):=by
 refine i5 _ _ ?_;rintro U e H2 ⟨i,n,hk,hi,I,J,f1,f3,D,h,E,rfl,z⟩;rcases O:decide ((i:Int)<l.length)with _|_
 .have S:=dF O;have:l.drop i=[]:=dN oM;rw[this]at z;refine J3 h E O ?_;exact i6 ⟨rfl,f1,by rw[<-z];exact f3,rfl,by rw[<-z];exact I,by rw[<-z];exact J⟩
 have S:=dT O;obtain⟨x,nb,o,cs,own,el,hx,hd,rfl,a3,hg,a2,a1,hc,w,rfl,hw⟩:=hv.row (i:=i) oM;have nt:(i:Int).toNat=i:=tN i;have W:=hc 0 oM;rw[ly]at W;obtain⟨wa,wc,rfl⟩:=hw.slice;have a4:=hl x (mG hx);rw[hd,uK]at z;have p0:0<=n*((x.length:Int)+2):=Int.mul_nonneg I oM;have p1:n*((x.length:Int)+2)<=1000001*((x.length:Int)+2):=Int.mul_le_mul_of_nonneg_right J oM;have hm:∀Hx,E6 prog .min [3,3] [iV (n*((x.length:Int)+2)),iV 25] Hx=some (.int .i64 (min (n*((x.length:Int)+2)) 25),none):=fun Hx=>by
  rw[<-OO];simp [E6,me]
 refine J10 f3 D h E O hg nt W hm @wrap_small ?_;exact d8 (U-1) oM ⟨i+1,min (n*((x.length:Int)+2)) 25,oM,oM,oM,oM,f1,rfl,D,h,rfl,rfl,z⟩
def NU(H:d7)(lo:Nat)(cs:LV)(s:SpD)(a5:lo<=H.n)(hs:SpR H lo cs s)(h1:s.names.length<=100000)(h2:s.vals.length<=100000)(h3:∀x∈s.vals,x.length<=100000) (h4:s.texts.length<=100000):CL prog l7 59 [.agg cs.toArray] H=some (.int .i64 (qx s),none):=by
 obtain⟨w1,w2,w3,w4,rfl,q1,q2,W,q4⟩:=hs;obtain⟨X,b1,rfl⟩:=q1.slice;obtain⟨a2,b2,rfl⟩:=q2.slice;obtain⟨E,I,rfl⟩:=W.slice;obtain⟨a4,b4,rfl⟩:=q4.slice;obtain⟨D,u,-,S,O⟩:=pushF H (bC [.slice X s.names.length b1,.slice a2 s.attrs.length b2,.slice E s.vals.length I,.slice a4 s.texts.length b4] 1);have U:H.n<=D.low:=by rw[u,l9];exact lR
 have a6:=O.n;have J:∀j,j<lo->D.g j=H.g j:=fun j hj=>O.g j oM;rw[i7 Xc rfl _ sM];refine J3 u.symm S @wrap_small ?_;refine i8 (F:=fun z=>t6 _ _ _ (t7 (inBlock 0 z) _)=_) (JR D s.vals E I (W.mono J oM fun _ _ h=>h.mono J (fun _ hj=>oM)) h2 h3 _ (uK s.vals (s.names.length+1)) s.vals.length _ _ ⟨0,s.names.length+1,rfl,oM,oM,oM,rfl,rfl,rfl,rfl,rfl,rfl,rfl⟩) ?_;rintro o e' H2 ⟨ho,g1,g3,rfl,r0,r1⟩;simp(maxSteps:=20000000) -dsimp (disch:=first|omega|(simp only[rH]<;>omega)|fail) only[↓fk,rQ,N1,sevalprocAttr,tyA,ho,g1,g3,S,wrap_small,qx]
def ue{α:Type}{P:List α->Prop}(u:P [])(hs:∀l x,P l->P (l++[x])) (l:List α):P l:=by
 have:∀l:List α,P l.reverse:=by
  intro l;induction l with
  |nil=>exact u
  |cons x l z=>rw[List.reverse_cons];exact hs _ _ z
 have h:=this l.reverse
 rwa [List.reverse_reverse]at h
def bL(l:List (aa2×aa2))(x:aa2×aa2):List (aa2×aa2):=if V1 l x then l else l++[x]
def fN(l:List aa2)(x:aa2):List aa2:=if Z0 l x then l else l++[x]
def N0(s:SpD)(n:aa2×aa2):SpD:=if V1 s.attrs n then s else{s with attrs:=s.attrs++[n],vals:=s.vals++[[]]}
def ixN(l:List (aa2×aa2))(n:aa2×aa2):Nat:=(ixG (fun y=>P0 n y) l 0).toNat
def Q2(s:SpD)(q:Q):SpD:=
 if q.op=4 then{s with names:=bL s.names (qNm q)}
 else if q.op=5 then N0 s (qNm q)
 else if q.op=6 then{N0 s (qNm q)with vals:=(N0 s (qNm q)).vals.set (ixN (N0 s (qNm q)).attrs (qNm q)) (fN ((N0 s (qNm q)).vals.getD (ixN (N0 s (qNm q)).attrs (qNm q)) []) q.vl)}
 else if q.op=7 then{s with texts:=fN s.texts q.vl} else s
def spL(l:List Q):SpD:=⟨X3 4 4 l,X3 5 6 l,(X3 5 6 l).map fun n=>T4 6 n l,T4 7 (eB,eB) l⟩
def bP(a b:Int)(l:List Q)(x:Q):X3 a b (l++[x])=if bH a b x then bL (X3 a b l) (qNm x) else X3 a b l:=by
 unfold X3 nF;rw[xo,sd,yA];unfold bL V1;cases bH a b x with
 |false=>rfl
 |true=>
  simp only[tT,jd];generalize List.foldl _ _ l=acc;cases acc.any fun y=>P0 y (qNm x)<;>rfl
def fF(a:Int)(n:aa2×aa2)(l:List Q)(x:Q):T4 a n (l++[x])=if eG a n x then fN (T4 a n l) x.vl else T4 a n l:=by
 unfold T4 nF;rw[xo,sd,yA];unfold fN Z0;cases eG a n x with
 |false=>rfl
 |true=>
  simp only[tT,jd];generalize List.foldl _ _ l=acc;cases acc.any fun y=>dP y x.vl<;>rfl
def Dq(a b:Int):∀l,(X3 a b l).Nodup:=by
 refine ue WZ fun l x u=>?_;rw[bP];split
 .unfold bL;split
  .exact u
  next h=>rw[aap];refine⟨u,by simp,fun y D z E q=>?_⟩;rw[mj.1 E]at q;exact h (V3.2 (q▸D))
 .exact u
def IZ(n:aa2×aa2):∀l,n∉X3 5 6 l->T4 6 n l=[]:=by
 refine ue (fun _=>rfl) fun l x J h=>?_;have u:n∈X3 5 6 l->n∈X3 5 6 (l++[x]):=fun h=>by
  rw[bP];split
  .unfold bL;split
   .exact h
   .exact gd.2 (.inl h)
  .exact h
 rw[fF,J (fun q=>h (u q))];split
 .rename_i z
  exfalso;apply h
  simp only[eG,cA,eT]at z;have E:qNm x=n:=aaC.2 z.2;have D:bH 5 6 x=true:=by simp [bH,z.1]
  rw[bP,D,bJ rfl];unfold bL;split
  next I=>rw[<-E];exact V3.1 I
  .rw[E];exact gd.2 (.inr (mj.2 rfl))
 .rfl
def Ff:∀(l:List (aa2×aa2))(n:aa2×aa2)(k:Nat),n∈l->∃i:Nat,ixG (fun y=>P0 n y) l k=((k+i:Nat):Int)/\l[i]?=some n/\i<l.length
 |[],n,k,h=>by cases h
 |y::l,n,k,h=>by
  rw[ixG];by_cases e:n=y
  .rw[bJ (I2.2 e)];exact⟨0,by simp,by rw[e];rfl,by simp⟩
  .rw[bt (fun q=>e (I2.1 q))];obtain⟨i,u,z,D⟩:=Ff l n (k+1) (by simpa [e] using h);exact⟨i+1,by rw[u];omega,by simpa using z,by simp;omega⟩
def Dd(l:List (aa2×aa2))(n:aa2×aa2)(h:n∈l):l[ixN l n]?=some n/\ixN l n<l.length/\ixG (fun y=>P0 n y) l 0=((ixN l n:Nat):Int):=by
 obtain⟨i,u,z,D⟩:=Ff l n 0 h;have:ixN l n=i:=by unfold ixN;rw[u];omega
 rw[this];exact⟨z,D,by rw[u];omega⟩
def PF{α β:Type}[DecidableEq α](f g:α->β)(l:List α)(n:α)(i:Nat)(u:l[i]?=some n)(S:l.Nodup)(h:∀m,m≠n->g m=f m):(l.map f).set i (g n)=l.map g:=by
 apply Fd;intro j;rw[zA];by_cases z:i=j
 .subst z;have D:i<l.length:=(gS u).1;rw[bJ rfl,Aa,u,bJ (by simpa using D)];rfl
 .rw[bt z,Aa,Aa];cases U:l[j]? with
  |none=>rfl
  |some m=>
   have:m≠n:=fun q=>by
    subst q;obtain⟨J,E⟩:=gS u;obtain⟨O,I⟩:=gS U;rcases aao i j with h|h|h
    .exact aah.1 S i j J O h (E.trans I.symm)
    .exact z h
    .exact aah.1 S j i O J h (I.trans E.symm)
   simp only[xg,h m this]
def vp(l:List Q)(n:aa2×aa2):N0 (spL l) n={spL l with attrs:=bL (X3 5 6 l) n,vals:=(bL (X3 5 6 l) n).map fun n=>T4 6 n l}:=by
 unfold N0 bL;by_cases h:V1 (X3 5 6 l) n=true
 .rw[bJ h,bJ (show V1 (spL l).attrs n=true from h)];rfl
 .rw[bt h,bt (show¬V1 (spL l).attrs n=true from h)];have:T4 6 n l=[]:=IZ n l (fun q=>h (V3.2 q));simp only[spL,GT,xC,XV,this]
def MM(l:List Q)(x:Q)(hx:x.op=7->qNm x=(eB,eB)):spL (l++[x])=Q2 (spL l) x:=by
 have S:∀n,x.op≠6->T4 6 n (l++[x])=T4 6 n l:=fun n h=>by rw[fF,bt (by simp [eG,h])]
 have U:x.op≠7->T4 7 (eB,eB) (l++[x])=T4 7 (eB,eB) l:=fun h=>by rw[fF,bt (by simp [eG,h])]
 have O:x.op≠4->X3 4 4 (l++[x])=X3 4 4 l:=fun h=>by rw[bP,bt (by simp [bH];omega)]
 have n5:x.op≠5->x.op≠6->X3 5 6 (l++[x])=X3 5 6 l:=fun h h2=>by rw[bP,bt (by simp [bH];omega)]
 unfold Q2;by_cases z:x.op=4
 .have D:bH 4 4 x=true:=by simp [bH,z]
  rw[bJ z];simp only[spL,S _ oM,U oM,n5 oM oM,bP 4 4,D,jd]
 rw[bt z];by_cases E:x.op=5
 .have D:bH 5 6 x=true:=by simp [bH,E]
  rw[bJ E,vp];simp only[spL,S _ oM,U oM,O z,bP 5 6,D,jd]
 rw[bt E];by_cases u:x.op=6
 .have D:bH 5 6 x=true:=by simp [bH,u]
  rw[bJ u,vp];obtain⟨A,W⟩:=eY (bL (X3 5 6 l) (qNm x));have J:X3 5 6 (l++[x])=A:=by rw[W,bP,D];rfl
  have X:A.Nodup:=by rw[<-J];exact Dq 5 6 _
  have hm:qNm x∈A:=by
   rw[W];unfold bL;split
   next h=>exact V3.1 h
   .exact gd.2 (.inr (mj.2 rfl))
  obtain⟨q1,q2,_⟩:=Dd A (qNm x) hm;rw[<-W];simp only;have hg:(A.map fun n=>T4 6 n l).getD (ixN A (qNm x)) []=T4 6 (qNm x) l:=by
   rw[dE,Aa,q1];rfl
  have a1:fN (T4 6 (qNm x) l) x.vl=(fun n=>T4 6 n (l++[x])) (qNm x):=by
   simp only;rw[fF,bJ (by simp [eG,u])]
  rw[hg,a1,PF (fun n=>T4 6 n l) (fun n=>T4 6 n (l++[x])) A (qNm x) _ q1 X (fun m hm=>by
   rw[fF,bt];simp only[eG,cA,eT];exact fun q=>hm (aaC.2 q.2).symm)]
  simp only[spL,U oM,O z,J]
 rw[bt u];by_cases I:x.op=7
 .rw[bJ I];have D:eG 7 (eB,eB) x=true:=by rw[eG,hx I];simp [I]
  simp only[spL,S _ u,O z,n5 E u,fF 7,D,jd]
 .rw[bt I];simp only[spL,S _ u,U I,O z,n5 E u]
def MK(l:List Q)(u:∀x∈l,x.op=7->qNm x=(eB,eB)):l.foldl Q2 ⟨[],[],[],[]⟩=spL l:=by
 have:∀l:List Q,(∀x∈l,x.op=7->qNm x=(eB,eB))->l.foldl Q2 ⟨[],[],[],[]⟩=spL l:=by
  refine ue (fun _=>rfl) fun l x D h=>?_;rw[xo,D (fun y z=>h y (by simp [z])),sd,yA,MM _ _ (h x sM)]
 exact this l u
def KS:∀(n:Nat)(f:Bool)(q:Q),nQ q<=n->OkD f q->∀x∈fsQ f q,OkD true x:=by
 intro n;induction n with
 |zero=>intro f q I;cases q;rw[nQ]at I;omega
 |succ n J=>
  intro f q I h x D;obtain⟨p1,p2,_⟩:=h.parts;have O:nQ q=1+nL q.a+nL q.b:=by cases q;rw[nQ];rfl
  have mem:∀(l:List Q)(y:Q),y∈l->nQ y<=nL l:=by
   intro l;induction l with
   |nil=>intro y u;cases u
   |cons z l E=>
    intro y u;rw[nL];rcases nd.1 u with rfl|u
    .omega
    .have:=E y u;omega
  rw[jM,gd,gd,ez,ez,xB,xB]at D;rcases D with D|⟨y,u,D⟩|⟨y,u,D⟩
  .cases f with
   |false=>cases D
   |true=>rw[bJ rfl]at D;rw[mj.1 D];exact h
  .exact J f y (oN (mem _ _ u)) (p1 y u) x D
  .exact J (!f) y (oN (mem _ _ u)) (p2 y u) x D
def Ec(q:Q)(h:OkD false q):(fsQ false q).foldl Q2 ⟨[],[],[],[]⟩=spQ q:=by
 rw[MK _ fun x I D=>?_];rfl;obtain⟨_,_,_,z,_⟩:=(KS _ false q lR h x I).parts;simp only[eF,jd,cA]at z;have:=z.1.2;simp only[jU,cA,xR,D]at this;have u:=this.1;have:(decide (x.sp=eB)&&decide (x.lc=eB))=true:=by
  cases E:(decide (x.sp=eB)&&decide (x.lc=eB))with
  |true=>rfl
  |false=>rw[E]at u;revert u;decide
 simp only[cA,eT]at this;exact aaC.2 this
def eH(L:LV):Prop:=∀(i j:Nat)(a b:aa3),L[i]?=some a->L[j]?=some b->i≠j->∀x,j8 a x->¬j8 b x
def eH.set{L:LV}{k n:Nat}{w v:aa3}(h:eH L)(U:L[k]?=some w)(W:∀b,j8 v b->j8 w b\/n<=b) (I:∀x∈L,∀b,j8 x b->b<n):eH (L.set k v):=by
 intro i j a b z u D x O S;rw[zA]at z u;by_cases J:k=i
 .have E:k≠j:=fun q=>D (J.symm.trans q);rw[bJ J]at z;rw[bt E]at u;split at z
  .cases z;rcases W x O with q|q
   .exact h k j w b U u E x q S
   .have:=I b (mG u) x S;omega
  .cases z
 .rw[bt J]at z;by_cases E:k=j
  .rw[bJ E]at u;split at u
   .cases u;rcases W x S with q|q
    .exact h i k a w z U (fun q=>J q.symm) x O q
    .have:=I a (mG z) x O;omega
   .cases u
  .rw[bt E]at u;exact h i j a b z u D x O S
def eH.nil{L:LV}(h:eH L):eH (L++[nS]):=by
 intro i j a b u J D x z I;have key:∀(i:Nat)(a:aa3),(L++[nS])[i]?=some a->j8 a x->L[i]?=some a:=fun i a u z=>by
  rw[List.getElem?_append]at u;split at u
  .exact u
  .cases E:i-L.length with
   |zero=>rw[E]at u;simp at u;rw[<-u]at z;exact absurd z (C6 x)
   |succ n=>rw[E]at u;simp at u
 exact h i j a b (key i a u z) (key j b J I) D x z I
def Qv{cs us:LV}(h:F1 1 (y7 fun u=>[u]) cs us):cs=us:=by
 apply Fd;intro i;by_cases z:i<us.length
 .have D:=h.2 i us[i] (gI z);have E:(cs.drop (i*1)).take 1=[us[i]]:=D;have:=congrArg (fun l=>l[0]?) E
  simpa [xd,vu,gI z] using this
 .have:=h.1;rw[yB oM,yB oM]
def Mn(us:LV):F1 1 (y7 fun u=>[u]) us us:=by
 have:=Mo (enc:=fun u:aa3=>[u]) (sz:=1) (fun _=>rfl) us;have e:us.flatMap (fun u=>[u])=us:=sM;rw[e]at this;exact this
structure eP(H:d7)(gb:Nat)(O:Nat->Prop)(s:SpD)(w1 w2 w3 w4:aa3)(us:LV):Prop where
 g:H.g gb=cE [w1,w2,w3,w4] 1
 n:u5 H (gb+1) 2 (y7 nmE) w1 s.names
 a:u5 H (gb+1) 2 (y7 nmE) w2 s.attrs
 v:u5 H (gb+1) 1 (y7 fun u=>[u]) w3 us
 len:us.length=s.vals.length
 al:s.attrs.length=s.vals.length
 u:∀(i:Nat)(u:aa3)(l:List aa2),us[i]?=some u->s.vals[i]?=some l->u5 H (gb+1) 1 (y7 stE) u l
 t:u5 H (gb+1) 1 (y7 stE) w4 s.texts
 ap:eH (w1::w2::w3::w4::us)
 o:∀w∈w1::w2::w3::w4::us,∀b,j8 w b->O b
 lt:∀b,O b->gb<b/\b<H.n
def eP.keep{H H':d7}{E:Nat}{O I:Nat->Prop}{s:SpD}{w1 w2 w3 w4:aa3}{us:LV}(h:eP H E O s w1 w2 w3 w4 us)(D:∀j,j=E\/O j->H'.g j=H.g j) (U:∀b,O b->I b) (J:∀b,I b->E<b/\b<H'.n):eP H' E I s w1 w2 w3 w4 us:=
 ⟨(D E (.inl rfl)).trans h.g,h.n.same fun b z=>D b (.inr (h.o _ sM b z)),h.a.same fun b z=>D b (.inr (h.o _ sM b z)),h.v.same fun b z=>D b (.inr (h.o _ sM b z)),h.len,h.al,
  fun i u l S W=>(h.u i u l S W).same fun b z=>D b (.inr (h.o _ (by simp [mG S]) b z)),h.t.same fun b z=>D b (.inr (h.o _ sM b z)),h.ap,fun w X b z=>U b (h.o w X b z),J⟩
structure qt(gb:Nat)(O0:Nat->Prop)(s0:SpD)(H0:d7)(O:Nat->Prop)(H:d7)(s:SpD):Prop where
 sub:∀b,O b->O0 b\/H0.n<=b
 chg:(s=s0/\∀b,O b->O0 b)\/∃b,(b=gb\/O0 b)/\H.low<=b
 but:∀j,j<H0.n->j≠gb->¬O0 j->H.g j=H0.g j
 stay:d9 gb H0 H
 low:H.low<=H0.low
def ju(gb:Nat)(O0:Nat->Prop)(s0:SpD)(H0 H:d7)(s:SpD):Prop:=∃O w1 w2 w3 w4 us,eP H gb O s w1 w2 w3 w4 us/\qt gb O0 s0 H0 O H s
def qt.refl(u:Nat)(O:Nat->Prop)(s:SpD)(H:d7):qt u O s H O H s:=⟨fun _ h=> .inl h,.inl ⟨rfl,fun _ h=>h⟩,fun _ _ _ _=>rfl,d9.refl _ _,lR⟩
def qt.trans{D:Nat}{X O1 O2:Nat->Prop}{s0 s1 s2:SpD}{H0 z u H2:d7}(h:qt D X s0 H0 O1 z s1)(E:d9 z.n z u)(hl:u.low<=z.low)(J:D<=z.n)(k:qt D O1 s1 u O2 H2 s2):qt D X s0 H0 O2 H2 s2:=by
 have n1:=h.stay.n;have n2:=E.n;have l2:=k.low;refine⟨fun b I=>?_,?_,fun j hj h1 h2=>?_,(h.stay.trans (E.wk J)).trans k.stay,by have:=h.low;omega⟩
 .rcases k.sub b I with q|q
  .exact h.sub b q
  .exact .inr oM
 .rcases h.chg with⟨O,S⟩|⟨b,O,S⟩
  .rcases k.chg with⟨U,W⟩|⟨b,U,W⟩
   .exact .inl ⟨U.trans O,fun b I=>S b (W b I)⟩
   .exact .inr ⟨b,U.imp id (S b),W⟩
  .exact .inr ⟨b,O,oM⟩
 .rw[k.but j oM h1 (fun q=>by rcases h.sub j q with r|r;exact h2 r;omega),E.g j oM,h.but j hj h1 h2]
def qP{E:Nat}{O:Nat->Prop}{s X:SpD}{H D H':d7}{w1 w2 w3 w4 v:aa3}{us:LV}(z:d9 H.n H D)(S:H.n<=D.low)(I:eP H E O s w1 w2 w3 w4 us)(hQ:ju E O s D H' X):
  Ret (some (F7 v H H')) H fun v1 H2=>v1=v/\ju E O s H H2 X:=by
 have n1:=z.n;have a1:=u6 I.g;obtain⟨O',x1,x2,x3,x4,U,R,T⟩:=hQ;refine E1 (fun _ hl=>⟨rfl,?_⟩) ⟨rfl,?_⟩
 .rcases T.chg with⟨u,W⟩|⟨b,u,W⟩
  .rw[u];exact⟨O,w1,w2,w3,w4,us,I,qt.refl _ _ _ _⟩
  .have:b<H.n:=by
    rcases u with u|u
    .omega
    .exact(I.lt b u).2
   omega
 .refine⟨O',x1,x2,x3,x4,U,R.keep (fun _ _=>rfl) (fun _ h=>h) R.lt,fun b hb=>?_,?_,fun j J h1 h2=>?_,⟨?_,fun k hk q=>?_,fun j J=>?_⟩,QT _ _⟩
  .rcases T.sub b hb with q|q
   .exact .inl q
   .exact .inr oM
  .rcases T.chg with q|⟨b,u,W⟩
   .exact .inl q
   .exact .inr ⟨b,u,by show min H.low H'.low<=b;omega⟩
  .show H'.g j=H.g j;rw[T.but j oM h1 h2,z.g j J]
  .show H.n<=H'.n;have:=T.stay.n;omega
  .have:=T.stay.lowAll k hk oM;show k<=min H.low H'.low;omega
  .show H'.g j=H.g j;rw[T.stay.g j J,z.g j oM]
def gH{α:Type}{R:LV->α->Prop}{H H':d7}{lo sz:Nat}{v v':aa3}{l:List α}(D:u5 H' lo sz R v' l)(h:Z2 lo v H v' H'):Ret (some (F7 v' H H')) H fun E u=>u5 u lo sz R E l/\Z2 lo v H E u/\u.low<=H.low:=by
 refine E1 (fun z O=>⟨D.na z _ _,⟨d9.refl _ _,fun _ _ _=>rfl,fun b I=>?_⟩,lR⟩) ⟨D.low _,⟨⟨h.stay.n,fun k J q=>?_,h.stay.g⟩,h.but,h.new⟩,QT _ _⟩
 .obtain⟨n,c,e⟩:=I;rw[e]at z;cases z
 .have:=h.stay.lowAll k J q;show k<=min H.low H'.low;omega
def QU(H:d7)(lo:Nat)(v:aa3)(l:List (aa2×aa2))(x:aa2×aa2)(U:lo<=H.n)(hO:u5 H lo 2 (y7 nmE) v l)(hl:l.length<=1000000):
  Ret (CL prog l7 135 [v,.agg (nmE x).toArray] H) H fun v' H'=>u5 H' lo 2 (y7 nmE) v' (bL l x)/\Z2 lo v H v' H'/\H'.low<=H.low:=by
 obtain⟨J,u⟩:=eY (d7.push ⟨H.bs,H.n⟩ (bC (nmE x) 1):d7);have O:d9 H.n H J:=by rw[u];first|exact d9.first H _|exact d9.start H
 have a4:=O.n;have a3:H.n<=J.low:=by rw[u];exact lR
 have D:=hO.keep O;have S:=SF J J.n v l x lR D.sl oM;have W:ldC (some true) (some 2) 0 (nmE x)=some (.agg (nmE x).toArray):=rfl;have a2:(l.any fun y=>P0 x y)=V1 l x:=by unfold V1;congr 1;funext y;first|exact wG.2 ⟨Eq.symm,Eq.symm⟩|(rw[Mu,I2,I2];exact eq_comm)
 rw[a2]at S;rw[i7 Wt rfl _ sM];rcases b:V1 l x with _|_
 .rw[b]at S;have E:bL l x=l++[x]:=by rw[bL,b];rfl
  obtain⟨v',h',H4,ha,a1,X,z⟩:=D.push1F (P:=prog) (t:=101) (cs:=nmE x) (a:=x) (by exact ot.2.2.2.2.2.2) gW.1 gW.2.1 gW.2.2.1 oM oM rfl rfl oM oM;have I:J.g H.n=cE (nmE x) 1:=by rw[u];exact j6
  refine J6 u.symm I S W ha a1 ?_;rw[E];exact gH X ⟨(O.wk U).trans z.stay,fun j hj h=>by rw[z.but j oM h,O.g j hj],fun b hb=>(z.new b hb).imp id fun q=>oM⟩
 .rw[b]at S;have E:bL l x=l:=by rw[bL,b];rfl
  have I:J.g H.n=cE (nmE x) 1:=by rw[u];exact j6
  refine J4 u.symm I S W ?_;rw[E];exact gH D (Z2.of v O U)
def Jk(H:d7)(lo:Nat)(v:aa3)(l:List (aa2))(x:aa2)(O:lo<=H.n)(hO:u5 H lo 1 (y7 stE) v l)(hl:l.length<=1000000):
  Ret (CL prog l7 137 [v,.string x] H) H fun v' H'=>u5 H' lo 1 (y7 stE) v' (fN l x)/\Z2 lo v H v' H'/\H'.low<=H.low:=by
 obtain⟨U,u⟩:=eY (⟨H.bs,H.n⟩:d7);have I:d9 H.n H U:=by rw[u];first|exact d9.first H _|exact d9.start H
 have S:=I.n;have a2:H.n<=U.low:=by rw[u];exact lR
 have D:=hO.keep I;have J:=La U U.n v l x lR D.sl oM;have a3:ldC (some true) (some 1) 0 (stE x)=some (.agg (stE x).toArray):=rfl;have a1:(l.any fun y=>dP x y)=Z0 l x:=by unfold Z0;congr 1;funext y;first|exact wG.2 ⟨Eq.symm,Eq.symm⟩|(rw[Mu,I2,I2];exact eq_comm)
 rw[a1]at J;rw[i7 Wv rfl _ sM];rcases b:Z0 l x with _|_
 .rw[b]at J;have E:fN l x=l++[x]:=by rw[fN,b];rfl
  obtain⟨v',h',H4,ha,X,W,z⟩:=D.push1F (P:=prog) (t:=103) (cs:=stE x) (a:=x) (by exact X6.2.2.2.2.2.2) ty9.1 ty9.2.1 ty9.2.2.1 oM oM rfl rfl oM oM;have _:=S;refine J4 u.symm J ha X ?_;rw[E];exact gH W ⟨(I.wk O).trans z.stay,fun j hj h=>by rw[z.but j oM h,I.g j hj],fun b hb=>(z.new b hb).imp id fun q=>oM⟩
 .rw[b]at J;have E:fN l x=l:=by rw[fN,b];rfl
  have _:=S;refine J2 u.symm J ?_;rw[E];exact gH D (Z2.of v I O)
def sw(l:List (aa2×aa2))(n:aa2×aa2):(l.any fun y=>P0 n y)=V1 l n:=by
 unfold V1;congr 1;funext y;rw[Mu,I2,I2];exact eq_comm
def OC(l:List (aa2×aa2))(n:aa2×aa2)(h:V1 l n=false):ixN (l++[n]) n=l.length:=by
 have:∀(l:List (aa2×aa2))(k:Nat),(l.any fun y=>P0 n y)=false->ixG (fun y=>P0 n y) (l++[n]) k=((k+l.length:Nat):Int):=by
  intro l;induction l with
  |nil=>intro k _;rw[sB,ixG,bJ (I2.2 rfl)];simp
  |cons y l z=>
   intro k u;rw[Ic,Bool.or_eq_false_iff]at u;rw[vG,ixG,bt (by rw[u.1];decide),z (k+1) u.2,kO];congr 1;omega
 unfold ixN;rw[this l 0 (by rw[sw];exact h)];omega
def eP.inl{H:d7}{u:Nat}{O:Nat->Prop}{s:SpD}{w1 w2 w3 w4:aa3}{us:LV}(h:eP H u O s w1 w2 w3 w4 us){w:aa3}(D:w∈w1::w2::w3::w4::us){b:Nat}(z:j8 w b):u<b/\b<H.n:=h.lt b (h.o w D b z)
def EI(H:d7)(E:Nat)(O:Nat->Prop)(s:SpD)(w1 w2 w3 w4:aa3)(us:LV)(n:aa2×aa2)(hR:eP H E O s w1 w2 w3 w4 us)(hl:s.attrs.length<=100000):
  Ret (CL prog l7 136 [pT E,.agg (nmE n).toArray] H) H fun v I=>v=iV (ixN (N0 s n).attrs n)/\ju E O s H I (N0 s n):=by
 obtain⟨I,X⟩:=eY (d7.push ⟨H.bs,H.n⟩ (bC (nmE n) 1):d7);have hS:d9 H.n H I:=by rw[X];exact d9.first H _
 have e7:I.n=H.n+1:=by rw[X,i4];rfl
 have a5:H.n<=I.low:=by rw[X];exact lR
 have d4:=u6 hR.g;have g1:I.g H.n=cE (nmE n) 1:=by rw[X];exact j6
 have z:eP I E O s w1 w2 w3 w4 us:=hR.keep (fun j hj=>hS.g j (by rcases hj with rfl|hj;exact d4;exact(hR.lt j hj).2)) (fun _ h=>h) (fun b D=>by have:=hR.lt b D;omega);have a7:=z.g;have c7:ldC (some true) (some 2) 0 (nmE n)=some (.agg (nmE n).toArray):=rfl;have hh:=EY I I.n w2 s.attrs n lR z.a.sl oM;have r0:[w1,w2,w3,w4][1]?=some w2:=rfl;rw[i7 Wu rfl _ sM];rcases b:V1 s.attrs n with _|_
 .have b2:ixG (fun y=>P0 n y) s.attrs 0= -1:=by
   rcases fq (fun y=>P0 n y) s.attrs 0 with q|q
   .exact q.2
   .have:=q.1;rw[sw,b]at this;cases this
  rw[b2]at hh;have b1:N0 s n={s with attrs:=s.attrs++[n],vals:=s.vals++[[]]}:=by rw[N0,b];rfl
  rw[b1];simp only;rw[OC _ _ b];obtain⟨W,h2,K2,b9,a9,a4,J⟩:=z.a.push1F (P:=prog) (t:=101) (cs:=nmE n) (a:=n) (by exact ot.2.2.2.2.2.2) gW.1 gW.2.1 gW.2.2.1 oM oM rfl rfl oM oM;obtain⟨K1,b7,-,-,s1⟩:=pushE I (bC (nmE n) 2);rw[<-b7]at b9 a9;have c8:∀w∈w1::w2::w3::w4::us,∀b,j8 w b->b≠E:=fun w hw b D=>oN (z.inl hw D);have n2:=J.n;have g2:K2.g E=cE [w1,w2,w3,w4] 1:=(J.but E oM (fun q=>c8 w2 sM E q rfl)).trans a7;have d2:K1.g E=cE [w1,w2,w3,w4] 1:=(s1.g E oM).trans a7;have b5:∀b,j8 w3 b->¬j8 w2 b:=fun b h3 h2=>z.ap 1 2 w2 w3 rfl rfl oM b h2 h3;have d3:u5 K2 (E+1) 1 (y7 fun u=>[u]) w3 us:=z.v.same fun b D=>J.but b (z.inl sM D).2 (b5 b D);obtain⟨v3,h3,K4,c0,b0,a8,S⟩:=d3.push1F (P:=prog) (t:=102) (cs:=[nS]) (a:=nS) (by exact MU.2.2.2.2.2.2) X6.1 X6.2.1 X6.2.2.1 oM oM rfl rfl (by have:=z.len;have:=z.al;omega) oM;obtain⟨K3,b8,-,-,s3⟩:=pushE K2 (bC [nS] 1);rw[<-b8]at c0 b0;have n4:=S.n;have g3:K3.g E=cE [w1,w2,w3,w4] 1:=(s3.g E oM).trans g2;have g4:K4.g E=cE [w1,w2,w3,w4] 1:=(S.but E oM (fun q=>c8 w3 sM E q rfl)).trans g2;obtain⟨a2,c2,e2⟩:=a4.slice;obtain⟨a3,c3,e3⟩:=a8.slice;have d0:W.cells.toList=[W]:=by rw[e2];rfl
  have e4:Value.oneCell' W=true:=by rw[e2];rfl
  have d1:v3.cells.toList=[v3]:=by rw[e3];rfl
  have e5:Value.oneCell' v3=true:=by rw[e3];rfl
  obtain⟨K5,a1⟩:=eY (K4.put E (bC [w1,W,w3,w4] 1));have g5:K5.g E=cE [w1,W,w3,w4] 1:=by rw[a1];exact i9 oM
  obtain⟨K6,U⟩:=eY (K5.put E (bC [w1,W,v3,w4] 1));have n6:K6.n=K4.n:=by rw[U,j9,a1,j9]
  have g6:K6.g E=cE [w1,W,v3,w4] 1:=by rw[U];exact i9 (by rw[a1,j9];omega)
  have c4:bsA prog (some 26) I 1 [(0,.agg (nmE n).toArray)]=some (sL I.n 1 1,K1):=by
   rw[b7];simp only[E4,gW,E5];rfl
  have c5:bsA prog (some 103) K2 1 [(0,nS)]=some (sL K2.n 1 1,K3):=by
   rw[b8];simp only[E4,X6,E5];rfl
  have b3:∀Hx:d7,E6 prog .len [101] [W] Hx=some (.int .i64 ((s.attrs.length:Int)+1),none):=fun Hx=>by
   rw[e2,dx];refine J1 ot ?_;simp
  have e6:∀j,j≠E->K6.g j=K4.g j:=fun j hj=>by rw[U,j7 (fun q=>hj q.symm),a1,j7 (fun q=>hj q.symm)]
  refine J25 X.symm g1 a7 c7 hh c4 d2 b9 a9 g2 c5 g3 c0 b0 g4 d0 e4 a1.symm g5 d1 e5 U.symm g6 b3 @wrap_small ?_;have ew:(s.attrs.length:Int)+1-1=s.attrs.length:=oM;rw[ew];have b4:∀j,j<I.n->¬j8 w2 j->¬j8 w3 j->K4.g j=I.g j:=fun j hj h2 h3=>by rw[S.but j oM h3,J.but j hj h2]
  refine qP (w1:=w1) (w2:=w2) (w3:=w3) (w4:=w4) (us:=us) hS a5 hR ⟨W9 O I K6,w1,W,v3,w4,us++[nS],⟨g6,?_,?_,?_,?_,?_,?_,?_,?_,?_,?_⟩,?_,?_,?_,?_,?_⟩
  .exact z.n.same fun b D=>by
    have:=z.inl (w:=w1) sM D;rw[e6 b oM,b4 b this.2 (fun q=>z.ap 0 1 w1 w2 rfl rfl oM b D q) (fun q=>z.ap 0 2 w1 w3 rfl rfl oM b D q)]
  .exact a4.same fun b D=>by
    have d6:=a4.lt D;rw[e6 b oM,S.but b d6.2 fun q=>?_];rcases J.new b D with r|r
    .exact b5 b q r
    .have:=z.inl (w:=w3) sM q;omega
  .exact a8.same fun b D=>e6 b (oN (a8.lt D))
  .rw[dx,dx,z.len];rfl
  .rw[dx,dx,z.al];rfl
  .intro i u l hu hl;have c6:=z.len;by_cases hi:i<us.length
   .rw[gk hi]at hu;rw[gk oM]at hl;exact(z.u i u l hu hl).same fun b D=>by
     have:=z.inl (w:=u) (by simp [mG hu]) D;rw[e6 b oM,b4 b this.2 (fun q=>z.ap (i+4) 1 u w2 hu rfl oM b D q) (fun q=>z.ap (i+4) 2 u w3 hu rfl oM b D q)]
   .rw[ns oM]at hu hl;cases hm:i-us.length with
    |zero=>
     rw[hm]at hu;rw[<-c6,hm]at hl;simp at hu hl
     first|rw[<-hu,<-hl]|rw[<-hu,hl]
     exact u5.nil
    |succ m=>rw[hm]at hu;simp at hu
  .exact z.t.same fun b D=>by
    have:=z.inl (w:=w4) sM D;rw[e6 b oM,b4 b this.2 (fun q=>z.ap 3 1 w4 w2 rfl rfl oM b D q) (fun q=>z.ap 3 2 w4 w3 rfl rfl oM b D q)]
  .have p1:eH (w1::W::w3::w4::us):=z.ap.set (k:=1) (v:=W) (n:=I.n) rfl J.new (fun x hx b D=>(z.inl hx D).2);have p2:eH (w1::W::v3::w4::us):=p1.set (k:=2) (v:=v3) (n:=K2.n) rfl S.new (fun x hx b D=>by
    rcases nd.1 hx with rfl|hx
    .have:=z.inl (w:=x) sM D;omega
    rcases nd.1 hx with rfl|hx
    .exact(a4.lt D).2
    .have:=z.inl (w:=x) (Ge _ (Ge _ hx)) D;omega)
   exact p2.nil
  .intro w hw b D;have a6:∀w∈w1::w2::w3::w4::us,j8 w b->W9 O I K6 b:=fun w hw D=> .inl (z.o w hw b D);have e1:w=w1\/w=W\/w=v3\/w=w4\/w∈us\/w=nS:=by
    have:w∈w1::W::v3::w4::(us++[nS]):=hw;simp only[nd,gd,mj,Cy,Sa]at this;exact this
   rcases e1 with h|h|h|h|h|h
   .exact a6 w1 sM (h▸D)
   .rw[h]at D;rcases J.new b D with r|r
    .exact a6 w2 sM r
    .exact .inr ⟨r,by have:=a4.lt D;omega⟩
   .rw[h]at D;rcases S.new b D with r|r
    .exact a6 w3 sM r
    .exact .inr ⟨oM,by have:=a8.lt D;omega⟩
   .exact a6 w4 sM (h▸D)
   .exact a6 w (by simp [h]) D
   .rw[h]at D;exact absurd D (C6 b)
  .intro b D;rcases D with D|D
   .have:=z.lt b D;omega
   .omega
  .intro b D;exact D.imp id fun h=>h.1
  .exact .inr ⟨E,.inl rfl,by rw[U,A9];omega⟩
  .intro j hj h1 h2;rw[e6 j h1,b4 j hj (fun q=>h2 (z.o w2 sM j q)) (fun q=>h2 (z.o w3 sM j q))]
  .rw[U,a1];exact(((J.stay.wk oM).trans (S.stay.wk oM)).trans (d9.put lR)).trans (d9.put lR)
  .have:K6.low<=E:=by rw[U,A9];omega
   omega
 .have d5:=V3.1 b;obtain⟨_,_,b2⟩:=Dd s.attrs n d5;rw[b2]at hh;have b1:N0 s n=s:=by rw[N0,b];rfl
  have c9:decide ((0:Int)<=(ixN s.attrs n:Nat))=true:=ib oM;rw[b1];refine J6 X.symm g1 a7 c7 hh c9 ?_;have b6:=qP (v:=iV (ixN s.attrs n)) hS a5 hR ⟨O,w1,w2,w3,w4,us,z,qt.refl _ _ _ _⟩;rw[sh _ _ _ _ a5]at b6;exact b6
def GY{H H':d7}{E:Nat}{O:Nat->Prop}{s:SpD}{w1 w2 w3 w4 v':aa3}{us:LV}{l':List (aa2×aa2)}(D:eP H E O s w1 w2 w3 w4 us)(hO:u5 H' (E+1) 2 (y7 nmE) v' l')(S:Z2 (E+1) w1 H v' H')(hl:H'.low<=H.low):
  ju E O s H (H'.put E (bC [v',w2,w3,w4] 1)) {s with names:=l'}:=by
 have hn:=S.n;have a1:=u6 D.g;obtain⟨K,I⟩:=eY (H'.put E (bC [v',w2,w3,w4] 1));have nK:K.n=H'.n:=by rw[I,j9]
 have gK:K.g E=cE [v',w2,w3,w4] 1:=by rw[I];exact i9 oM
 have X:∀j,j≠E->K.g j=H'.g j:=fun j hj=>by rw[I,j7 (fun q=>hj q.symm)]
 have sm:∀(i:Nat)(w:aa3),(w1::w2::w3::w4::us)[i]?=some w->i≠0->∀b,j8 w b->K.g b=H.g b:=fun i w U hi b z=>by
  have:=D.inl (mG U) z;rw[X b oM,S.but b this.2 (fun q=>D.ap i 0 w w1 U rfl hi b z q)]
 have hs:u5 K (E+1) 2 (y7 nmE) v' l':=hO.same fun b z=>X b (oN (hO.lt z));have W:∀(w:aa3)(i:Nat){α:Type}{sz:Nat}{R:LV->α->Prop}{l:List α},(w1::w2::w3::w4::us)[i]?=some w->i≠0->u5 H (E+1) sz R w l->u5 K (E+1) sz R w l:=fun w i _ _ _ _ U hi h=>h.same (sm i w U hi);rw[<-I];refine⟨W9 O H K,v',w2,w3,w4,us,⟨gK,?_,?_,W w3 2 rfl oM D.v,D.len,D.al,fun i u l hu hl=>W u (i+4) hu oM (D.u i u l hu hl),?_,D.ap.set (k:=0) (v:=v') (n:=H.n) rfl S.new (fun x hx b z=>(D.inl hx z).2),fun w U b z=>?_,fun b z=>?_⟩,fun b z=>z.imp id fun h=>h.1,.inr ⟨E,.inl rfl,by rw[I,A9];omega⟩,fun j hj h1 h2=>by rw[X j h1,S.but j hj (fun q=>h2 (D.o w1 sM j q))],by rw[I];exact(S.stay.wk oM).trans (d9.put lR),by rw[I,A9];omega⟩
 .first|exact hs|exact W w1 0 rfl oM D.n
 .exact W w2 1 rfl oM D.a
 .first|exact hs|exact W w4 3 rfl oM D.t
 .by_cases h:w∈w1::w2::w3::w4::us
  .exact .inl (D.o w h b z)
  .have:w=v':=by
    apply wh;intro hv;have J:w∈v'::w2::w3::w4::us:=U;apply h;simp only[nd,hv,aaU]at J ⊢
    first|exact .inr J|(rcases J with q|q|q|q;exact .inl q;exact .inr (.inl q);exact .inr (.inr (.inl q));exact .inr (.inr (.inr (.inr q))))
   rw[this]at z;rcases S.new b z with r|r
   .exact .inl (D.o w1 sM b r)
   .exact .inr ⟨r,by have:=hO.lt z;omega⟩
 .rcases z with z|z
  .have:=D.lt b z;omega
  .omega
def GZ{H H':d7}{E:Nat}{O:Nat->Prop}{s:SpD}{w1 w2 w3 w4 v':aa3}{us:LV}{l':List (aa2)}(D:eP H E O s w1 w2 w3 w4 us)(hO:u5 H' (E+1) 1 (y7 stE) v' l')(S:Z2 (E+1) w4 H v' H')(hl:H'.low<=H.low):
  ju E O s H (H'.put E (bC [w1,w2,w3,v'] 1)) {s with texts:=l'}:=by
 have hn:=S.n;have a1:=u6 D.g;obtain⟨K,I⟩:=eY (H'.put E (bC [w1,w2,w3,v'] 1));have nK:K.n=H'.n:=by rw[I,j9]
 have gK:K.g E=cE [w1,w2,w3,v'] 1:=by rw[I];exact i9 oM
 have X:∀j,j≠E->K.g j=H'.g j:=fun j hj=>by rw[I,j7 (fun q=>hj q.symm)]
 have sm:∀(i:Nat)(w:aa3),(w1::w2::w3::w4::us)[i]?=some w->i≠3->∀b,j8 w b->K.g b=H.g b:=fun i w U hi b z=>by
  have:=D.inl (mG U) z;rw[X b oM,S.but b this.2 (fun q=>D.ap i 3 w w4 U rfl hi b z q)]
 have hs:u5 K (E+1) 1 (y7 stE) v' l':=hO.same fun b z=>X b (oN (hO.lt z));have W:∀(w:aa3)(i:Nat){α:Type}{sz:Nat}{R:LV->α->Prop}{l:List α},(w1::w2::w3::w4::us)[i]?=some w->i≠3->u5 H (E+1) sz R w l->u5 K (E+1) sz R w l:=fun w i _ _ _ _ U hi h=>h.same (sm i w U hi);rw[<-I];refine⟨W9 O H K,w1,w2,w3,v',us,⟨gK,?_,?_,W w3 2 rfl oM D.v,D.len,D.al,fun i u l hu hl=>W u (i+4) hu oM (D.u i u l hu hl),?_,D.ap.set (k:=3) (v:=v') (n:=H.n) rfl S.new (fun x hx b z=>(D.inl hx z).2),fun w U b z=>?_,fun b z=>?_⟩,fun b z=>z.imp id fun h=>h.1,.inr ⟨E,.inl rfl,by rw[I,A9];omega⟩,fun j hj h1 h2=>by rw[X j h1,S.but j hj (fun q=>h2 (D.o w4 sM j q))],by rw[I];exact(S.stay.wk oM).trans (d9.put lR),by rw[I,A9];omega⟩
 .first|exact hs|exact W w1 0 rfl oM D.n
 .exact W w2 1 rfl oM D.a
 .first|exact hs|exact W w4 3 rfl oM D.t
 .by_cases h:w∈w1::w2::w3::w4::us
  .exact .inl (D.o w h b z)
  .have:w=v':=by
    apply wh;intro hv;have J:w∈w1::w2::w3::v'::us:=U;apply h;simp only[nd,hv,aaU]at J ⊢
    first|exact .inr J|(rcases J with q|q|q|q;exact .inl q;exact .inr (.inl q);exact .inr (.inr (.inl q));exact .inr (.inr (.inr (.inr q))))
   rw[this]at z;rcases S.new b z with r|r
   .exact .inl (D.o w4 sM b r)
   .exact .inr ⟨r,by have:=hO.lt z;omega⟩
 .rcases z with z|z
  .have:=D.lt b z;omega
  .omega
def Oo{H H':d7}{S:Nat}{O:Nat->Prop}{s:SpD}{w1 w2 w4 u I:aa3}{us:LV}{D n c i:Nat}{l':List aa2}(z:eP H S O s w1 w2 (sL D n c) w4 us)(hu:us[i]?=some u)(hO:u5 H' (S+1) 1 (y7 stE) I l')(W:Z2 (S+1) u H I H')(hl:H'.low<=H.low):
  ju S O s H (H'.put D (bC (us.set i I) 1)) {s with vals:=s.vals.set i l'}:=by
 have hn:=W.n;have a9:=u6 z.g;have J:j8 (sL D n c) D:=⟨_,_,rfl⟩
 have l3:=z.inl (w:=sL D n c) sM J;have a1:(w1::w2::sL D n c::w4::us)[i+4]?=some u:=hu;obtain⟨K,hK⟩:=eY (H'.put D (bC (us.set i I) 1));have nK:K.n=H'.n:=by rw[hK,j9]
 have gK:K.g D=cE (us.set i I) 1:=by rw[hK];exact i9 oM
 have eK:∀j,j≠D->K.g j=H'.g j:=fun j X=>by rw[hK,j7 (fun q=>X q.symm)]
 have sm:∀(j:Nat)(w:aa3),(w1::w2::sL D n c::w4::us)[j]?=some w->j≠i+4->j≠2->∀b,j8 w b->K.g b=H.g b:=fun j w hw X a3 b E=>by
  have:=z.inl (mG hw) E;rw[eK b (fun q=>z.ap j 2 w _ hw rfl a3 b E (q▸J)),W.but b this.2 (fun q=>z.ap j (i+4) w u hw a1 X b E q)]
 have ho:∀(w:aa3)(j:Nat){α:Type}{sz:Nat}{R:LV->α->Prop}{l:List α},(w1::w2::sL D n c::w4::us)[j]?=some w->j≠i+4->j≠2->u5 H (S+1) sz R w l->u5 K (S+1) sz R w l:=fun w j _ _ _ _ hw hi h2 h=>h.same (sm j w hw hi h2);have a8:∀b,j8 I b->b≠D:=fun b E q=>by
  rcases W.new b E with r|r
  .exact z.ap (i+4) 2 u _ a1 rfl oM b r (q▸J)
  .omega
 have a4:n=us.length:=by obtain⟨_,_,q⟩:=z.v.slice;cases q;rfl
 have a2:eH (w1::w2::sL D n c::w4::us.set i I):=z.ap.set (k:=i+4) (v:=I) (n:=H.n) a1 W.new (fun x U b E=>(z.inl U E).2);have a6:u5 K (S+1) 1 (y7 fun u=>[u]) (sL D n c) (us.set i I):=⟨us.set i I,.inr ⟨D,c,by rw[a4,zC],gK,oM,by simp⟩,Mn _⟩
 have a5:u5 K (S+1) 1 (y7 stE) I l':=hO.same fun b E=>eK b (a8 b E);rw[<-hK];refine⟨W9 O H K,w1,w2,sL D n c,w4,us.set i I,⟨?_,ho w1 0 rfl oM oM z.n,ho w2 1 rfl oM oM z.a,a6,by rw[zC,zC];exact z.len,by rw[zC];exact z.al,fun j x m U hm=>?_,ho w4 3 rfl oM oM z.t,a2,fun w hw b E=>?_,fun b E=>?_⟩,fun b E=>E.imp id fun h=>h.1,.inr ⟨D,.inr (z.o _ sM D J),by rw[hK,A9];omega⟩,fun j X h1 h2=>by rw[eK j (fun q=>h2 (q▸z.o _ sM D J)),W.but j X (fun q=>h2 (z.o u (by simp [mG hu]) j q))],by rw[hK];exact(W.stay.wk oM).trans (d9.put oM),by rw[hK,A9];omega⟩
 .rw[eK S oM,W.but S oM (fun q=>by have:=z.inl (w:=u) (by simp [mG hu]) q;omega)];exact z.g
 .simp only at hm;rw[zA]at U hm;by_cases X:i=j
  .rw[bJ X]at U hm;split at U
   .split at hm
    .cases U;cases hm;exact a5
    .cases hm
   .cases U
  .rw[bt X]at U hm;exact ho x (j+4) U oM oM (z.u j x m U hm)
 .by_cases h:w∈w1::w2::sL D n c::w4::us
  .exact .inl (z.o w h b E)
  .have:w=I:=by
    apply wh;intro hv;apply h;have a7:w=w1\/w=w2\/w=sL D n c\/w=w4\/w∈us.set i I:=by simpa only[nd] using hw
    rcases a7 with q|q|q|q|q
    .simp [q]
    .simp [q]
    .simp [q]
    .simp [q]
    .rcases QN q with q|q
     .simp [q]
     .exact absurd q hv
   rw[this]at E;rcases W.new b E with r|r
   .exact .inl (z.o u (by simp [mG hu]) b r)
   .exact .inr ⟨r,by have:=hO.lt E;omega⟩
 .rcases E with E|E
  .have:=z.lt b E;omega
  .omega
def Sm(s:SpD)(m:Nat):Prop:=s.names.length<=m/\s.attrs.length<=m/\(∀l∈s.vals,l.length<=m)/\s.texts.length<=m
def FM(l:List (aa2×aa2))(x:aa2×aa2):(bL l x).length<=l.length+1:=by unfold bL;split<;>simp
def vj(l:List aa2)(x:aa2):(fN l x).length<=l.length+1:=by unfold fN;split<;>simp
def JC{s:SpD}{m:Nat}(h:Sm s m)(n:aa2×aa2):Sm (N0 s n) (m+1):=by
 obtain⟨D,E,z,I⟩:=h;unfold N0;split
 .exact⟨oM,oM,fun l u=>by have:=z l u;omega,oM⟩
 .refine⟨by show s.names.length<=_;omega,by simp;omega,fun l u=>?_,by show s.texts.length<=_;omega⟩;rcases gd.1 u with u|u
  .have:=z l u;omega
  .rw[mj.1 u];simp
def vo{s:SpD}{m:Nat}(h:Sm s m)(n:aa2×aa2):(∀l∈(N0 s n).vals,l.length<=m)/\(N0 s n).names.length<=m/\(N0 s n).texts.length<=m/\(N0 s n).attrs.length<=m+1:=by
 obtain⟨z,I,D,E⟩:=h;unfold N0;split
 .exact⟨D,z,E,oM⟩
 .refine⟨fun l u=>?_,z,E,by simp;omega⟩;rcases gd.1 u with u|u
  .exact D l u
  .rw[mj.1 u];simp
def Bw{s:SpD}{m:Nat}(h:Sm s m)(q:Q):Sm (Q2 s q) (m+1):=by
 have D:=h;obtain⟨S,U,I,W⟩:=h;have z:Sm s (m+1):=⟨oM,oM,fun l u=>by have:=I l u;omega,oM⟩
 unfold Q2;split
 .exact⟨by have:=FM s.names (qNm q);show(bL s.names (qNm q)).length<=_;omega,z.2⟩
 split
 .exact JC D _
 split
 .obtain⟨E,X,k4,O⟩:=vo D (qNm q);refine⟨by show(N0 s (qNm q)).names.length<=_;omega,O,fun l u=>?_,by show(N0 s (qNm q)).texts.length<=_;omega⟩;rcases QN u with u|u
  .have:=E l u;omega
  .rw[u];have:=vj ((N0 s (qNm q)).vals.getD (ixN (N0 s (qNm q)).attrs (qNm q)) []) q.vl;have:((N0 s (qNm q)).vals.getD (ixN (N0 s (qNm q)).attrs (qNm q)) []).length<=m:=by
    rw[dE];cases J:(N0 s (qNm q)).vals[ixN (N0 s (qNm q)).attrs (qNm q)]? with
    |none=>simp
    |some l=>exact E l (mG J)
   omega
 split
 .exact⟨z.1,z.2.1,z.2.2.1,by have:=vj s.texts q.vl;show(fN s.texts q.vl).length<=_;omega⟩
 .exact z
def fX(l:List Q):∀{s:SpD}{m:Nat},Sm s m->Sm (l.foldl Q2 s) (m+l.length):=by
 induction l with
 |nil=>intro s m h;exact h
 |cons x l u=>intro s m h;rw[sd,kO,show m+(l.length+1)=m+1+l.length from oM];exact u (Bw h x)
def Ga(s:SpD)(n:aa2×aa2):n∈(N0 s n).attrs:=by
 unfold N0;split
 next h=>exact V3.1 h
 .exact gd.2 (.inr (mj.2 rfl))
def CP(H1:d7)(I p3:Nat)(O:Nat->Prop)(s:SpD)(w1 w2 w3 w4:aa3)(us:LV)(q:Q)(va wa:Option Addr)(ca c6:Nat)(X:eP H1 I O s w1 w2 w3 w4 us)(hs:Sm s 100000)(hp:p3≠I)(d4:¬O p3)(a1:LV)(a5:a1=[iV q.op,.string q.sp,.string q.lc,.string q.vl,.slice va q.a.length ca,.slice wa q.b.length c6])(U:H1.g p3=cE a1 1)
  (e:Env) (f0:e.g 0=pT I) (f3:e.g 3=pT p3) (W:e.g 10=iV q.op):
  u7 (LE prog l7 CB e H1) (fun o e H2=>o= .normal/\e.g 0=pT I/\e.g 3=pT p3/\ju I O s H1 H2 (Q2 s q)):=by
 unfold CB;obtain⟨s1,s2,s3,s4⟩:=hs;have e6:=u6 X.g;have d3:=u6 U;have gg:=X.g;have a7:ldC (some true) (some 2) 1 a1=some (.agg (nmE (qNm q)).toArray):=by rw[a5];rfl
 have r3:a1[3]?=some (.string q.vl):=by rw[a5];rfl
 rcases b4:decide (q.op=4)with _|_;rcases b5:decide (q.op=5)with _|_;rcases b6:decide (q.op=6)with _|_;rcases b7:decide (q.op=7)with _|_
 .have h:Q2 s q=s:=by
   unfold Q2;rw[bt (dF b4),bt (dF b5),bt (dF b6),bt (dF b7)]
  refine J7 f0 f3 W b4 b5 b6 b7 ?_;rw[h];exact⟨O,w1,w2,w3,w4,us,X,qt.refl _ _ _ _⟩
 .have h:Q2 s q={s with texts:=fN s.texts q.vl}:=by
   unfold Q2;rw[bt (dF b4),bt (dF b5),bt (dF b6),bJ (dT b7)]
  obtain⟨v',h',H2,D,S,hO,hG,hl⟩:=Jk H1 (I+1) w4 s.texts q.vl oM X.t oM;have n2:=hG.n;have g2:H2.g I=cE [w1,w2,w3,w4] 1:=(hG.but I oM (fun q=>by have:=X.inl (w:=w4) sM q;omega)).trans gg;obtain⟨a',c',e'⟩:=hO.slice;have cu:v'.cells.toList=[v']:=by rw[e'];rfl
  have ou:Value.oneCell' v'=true:=by rw[e'];rfl
  refine J15 f0 f3 W b4 b5 b6 b7 gg U r3 D S g2 cu ou ?_;rw[h];exact GZ X hO hG hl
 .have h:Q2 s q={N0 s (qNm q)with vals:=(N0 s (qNm q)).vals.set (ixN (N0 s (qNm q)).attrs (qNm q)) (fN ((N0 s (qNm q)).vals.getD (ixN (N0 s (qNm q)).attrs (qNm q)) []) q.vl)}:=by
   unfold Q2;rw[bt (dF b4),bt (dF b5),bJ (dT b6)]
  obtain⟨_,h',H2,D,S,rfl,O2,x1,x2,x3,x4,ys,z,a3⟩:=EI H1 I O s w1 w2 w3 w4 us (qNm q) X oM;have b8:=Ga s (qNm q);obtain⟨c5,_⟩:=vo (m:=100000) ⟨s1,s2,s3,s4⟩ (qNm q);obtain⟨sA,d6⟩:=eY (N0 s (qNm q));rw[<-d6]at D z a3 h b8 c5;obtain⟨J,b9⟩:=eY (ixN sA.attrs (qNm q));have a4:J<sA.vals.length:=by rw[b9,<-z.al];exact(Dd _ _ b8).2.1
  rw[<-b9]at D h;have e7:=a3.stay.n;have a9:=z.g;have c8:H2.g p3=cE a1 1:=(a3.but p3 d3 hp d4).trans U;have c0:sA.vals[J]?=some (sA.vals.getD J []):=by rw[dE,gI a4];rfl
  have e2:=c5 _ (mG c0);obtain⟨u,hu⟩:∃u,ys[J]?=some u:=⟨_,gI (by rw[z.len];exact a4)⟩
  have d0:=z.u J u _ hu c0;obtain⟨v',e4,H3,b1,b2,b0,a2,d1⟩:=Jk H2 (I+1) u (sA.vals.getD J []) q.vl oM d0 oM;have hv:=z.v;obtain⟨E,c9,d5⟩:=hv;have e3:=Qv d5;subst e3;have d2:=z.len;rcases c9 with⟨_,q0,_⟩|⟨b3,c3,rfl,a6,e5,_⟩
  .omega
  have h3:j8 (sL b3 E.length c3) b3:=⟨_,_,rfl⟩
  have e8:=a2.n;have g3:H3.g I=cE [x1,x2,sL b3 E.length c3,x4] 1:=(a2.but I oM (fun q=>by have:=z.inl (w:=u) (by simp [mG hu]) q;omega)).trans a9;have a8:H3.g b3=cE E 1:=(a2.but b3 (u6 a6) (fun q=>z.ap (J+4) 2 u _ hu rfl oM b3 q h3)).trans a6;obtain⟨a',c',e'⟩:=b0.slice;have cu:v'.cells.toList=[v']:=by rw[e'];rfl
  have ou:Value.oneCell' v'=true:=by rw[e'];rfl
  have nt:(J:Int).toNat=J:=tN J;have c4:J<E.length:=oM;have i0:(0:Int)<=J:=oM;have i1:(J:Int)<E.length:=oM;have c7:J+1<=E.length:=c4;have e1:splice E J [v']=E.set J v':=rfl;refine J25 f0 f3 W b4 b5 b6 a9 c8 a7 r3 U D S a6 nt hu b1 b2 g3 a8 cu ou c7 @yD e1 ?_;rw[h];obtain⟨O3,y1,y2,y3,y4,zs,R3,T3⟩:=Oo z hu b0 a2 d1;exact⟨O3,y1,y2,y3,y4,zs,R3,a3.trans (d9.refl _ _) lR oM T3⟩
 .have h:Q2 s q=N0 s (qNm q):=by
   unfold Q2;rw[bt (dF b4),bJ (dT b5)]
  obtain⟨_,h',H2,D,S,rfl,hQ⟩:=EI H1 I O s w1 w2 w3 w4 us (qNm q) X oM;refine J9 f0 f3 W b4 b5 U a7 D S ?_;rw[h];exact hQ
 .have h:Q2 s q={s with names:=bL s.names (qNm q)}:=by
   unfold Q2;rw[bJ (dT b4)]
  obtain⟨v',h',H2,D,S,hO,hG,hl⟩:=QU H1 (I+1) w1 s.names (qNm q) oM X.n oM;have n2:=hG.n;have g2:H2.g I=cE [w1,w2,w3,w4] 1:=(hG.but I oM (fun q=>by have:=X.inl (w:=w1) sM q;omega)).trans gg;obtain⟨a',c',e'⟩:=hO.slice;have cu:v'.cells.toList=[v']:=by rw[e'];rfl
  have ou:Value.oneCell' v'=true:=by rw[e'];rfl
  refine J12 f0 f3 W b4 gg U a7 D S g2 cu ou ?_;rw[h];exact GY X hO hG hl
def jm(fn:Nat)(f:Bool)(k:Nat):Prop:=∀(H:d7)(lo gb:Nat)(O:Nat->Prop)(s:SpD)(w1 w2 w3 w4:aa3)(us cs:LV)(q:Q)(m:Nat),lo<=gb->eP H gb O s w1 w2 w3 w4 us->QR H lo k f cs q->Sm s m->m+nQ q<=100000->
 Ret (CL prog l7 fn [pT gb,.agg cs.toArray] H) H fun v H1=>v=undef/\ju gb O s H H1 ((fsQ f q).foldl Q2 s)
def jL(f:Bool)(l:List Q)(i:Nat)(x:Q)(h:l.drop i=x::l.drop (i+1)):fsL f (l.drop i)=fsQ f x++fsL f (l.drop (i+1)):=by rw[h,fsL]
def SD(k:Nat)(ih:jm 89 false k)(H0:d7)(lo u:Nat)(b2:lo<=u)(b4:u<H0.n)(O0:Nat->Prop)(s0:SpD)(va:Option Addr)(ca:Nat)(l:List Q)(hv:QsR H0 lo k false (.slice va l.length ca) l)(hn:l.length<=1048576)(p3:aa3)(S:SpD):
  ∀kk e H2,(∃(i:Nat)(s:SpD)(m:Nat),kk=l.length-i/\i<=l.length/\e.g 0=pT u/\e.g 3=p3/\e.g 9= .slice va l.length ca/\e.g 10=iV l.length/\e.g 11=iV i/\ju u O0 s0 H0 H2 s/\Sm s m/\m+nL (l.drop i)<=100000/\(fsL false (l.drop i)).foldl Q2 s=S)->
  u7 (LE prog l7 (.loop VQ) e H2) (fun o e H2=>o= .exit 0/\e.g 0=pT u/\e.g 3=p3/\ju u O0 s0 H0 H2 S):=by
 refine i5 _ _ ?_;rintro kk e H2 ⟨i,s,m,b6,hi,f0,f3,fL,fM,fJ,hQ,I,z,X⟩;rcases b:decide ((i:Int)<l.length)with _|_
 .have a6:=dF b;have:l.drop i=[]:=dN oM;rw[this,fsL,yA]at X;refine J3 fM fJ b ?_;exact i6 ⟨rfl,f0,f3,by rw[<-X];exact hQ⟩
 have a6:=dT b;obtain⟨O,w1,w2,w3,w4,us,hR,hT⟩:=hQ;have hS:=hT.stay;have b8:=hS.n;have a9:=u6 hR.g;obtain⟨x,nb,o,cs,own,el,hx,hd,rfl,b7,hg,b1,D,hr⟩:=hv.row (i:=i) oM;have b9:=mG hx;have nt:(i:Int).toNat=i:=tN i;simp only[qSz,jd,bF]at D hg b1;rw[jL _ _ _ _ hd,xo]at X;have a8:m+(nQ x+nL (l.drop (i+1)))<=100000:=by rw[hd,nL]at z;exact z
 have a1:el.all oC=true:=I6 hr;have W:=hr.len;simp only[qSz,jd,bF]at W;have J:=Q6 hr;rw[W]at J;have gx:=(hS.g nb oM).trans hg;obtain⟨U,E,n3,g3,s3⟩:=pushP H2 (bC [iV 0,nS,nS] 1) (bC el 1);have l3:U.low<=H2.low:=by rw[E,A9,l9];omega
 have b3:splice [iV 0,nS,nS] 0 el=el:=A0 _ _ (by rw[W];rfl);have a2:∀j,j<lo->U.g j=H0.g j:=fun j hj=>by rw[s3.g j oM,hS.g j oM]
 have a3:eP U u O s w1 w2 w3 w4 us:=hR.keep (fun j hj=>s3.g j (by rcases hj with rfl|hj;exact a9;exact(hR.lt j hj).2)) (fun _ h=>h) (fun b hb=>by have:=hR.lt b hb;omega);obtain⟨v4,h4,H4,a7,b0,rfl,O4,x1,x2,x3,x4,ys,a4,a5⟩:=ih U lo u O s w1 w2 w3 w4 us el x m b2 a3 (hr.mono a2 lR) I oM;refine J17 f0 fL fM fJ b gx nt D a1 W b3 E.symm g3 J a7 b0 @wrap_small ?_;have b5:=eZ false x;exact d8 (kk-1) oM ⟨i+1,_,m+(fsQ false x).length,oM,oM,f0,f3,fL,fM,rfl,⟨O4,x1,x2,x3,x4,ys,a4,hT.trans s3 l3 oM a5⟩,fX _ I,oM,X⟩
def SE(k:Nat)(ih:jm 113 true k)(H0:d7)(lo u:Nat)(b2:lo<=u)(b4:u<H0.n)(O0:Nat->Prop)(s0:SpD)(va:Option Addr)(ca:Nat)(l:List Q)(hv:QsR H0 lo k true (.slice va l.length ca) l)(hn:l.length<=1048576)(p3:aa3)(S:SpD):
  ∀kk e H2,(∃(i:Nat)(s:SpD)(m:Nat),kk=l.length-i/\i<=l.length/\e.g 0=pT u/\e.g 3=p3/\e.g 20= .slice va l.length ca/\e.g 21=iV l.length/\e.g 22=iV i/\ju u O0 s0 H0 H2 s/\Sm s m/\m+nL (l.drop i)<=100000/\(fsL true (l.drop i)).foldl Q2 s=S)->
  u7 (LE prog l7 (.loop VS) e H2) (fun o e H2=>o= .exit 2/\e.g 0=pT u/\e.g 3=p3/\ju u O0 s0 H0 H2 S):=by
 refine i5 _ _ ?_;rintro kk e H2 ⟨i,s,m,b6,hi,f0,f3,fL,fM,fJ,hQ,I,z,X⟩;rcases b:decide ((i:Int)<l.length)with _|_
 .have a6:=dF b;have:l.drop i=[]:=dN oM;rw[this,fsL,yA]at X;refine J3 fM fJ b ?_;exact i6 ⟨rfl,f0,f3,by rw[<-X];exact hQ⟩
 have a6:=dT b;obtain⟨O,w1,w2,w3,w4,us,hR,hT⟩:=hQ;have hS:=hT.stay;have b8:=hS.n;have a9:=u6 hR.g;obtain⟨x,nb,o,cs,own,el,hx,hd,rfl,b7,hg,b1,D,hr⟩:=hv.row (i:=i) oM;have b9:=mG hx;have nt:(i:Int).toNat=i:=tN i;simp only[qSz,jd,bF]at D hg b1;rw[jL _ _ _ _ hd,xo]at X;have a8:m+(nQ x+nL (l.drop (i+1)))<=100000:=by rw[hd,nL]at z;exact z
 have a1:el.all oC=true:=I6 hr;have W:=hr.len;simp only[qSz,jd,bF]at W;have J:=Q6 hr;rw[W]at J;have gx:=(hS.g nb oM).trans hg;obtain⟨U,E,n3,g3,s3⟩:=pushP H2 (bC [iV 0,.string eB,.string eB,.string eB,nS,nS] 1) (bC el 1);have l3:U.low<=H2.low:=by rw[E,A9,l9];omega
 have b3:splice [iV 0,.string eB,.string eB,.string eB,nS,nS] 0 el=el:=A0 _ _ (by rw[W];rfl);have a2:∀j,j<lo->U.g j=H0.g j:=fun j hj=>by rw[s3.g j oM,hS.g j oM]
 have a3:eP U u O s w1 w2 w3 w4 us:=hR.keep (fun j hj=>s3.g j (by rcases hj with rfl|hj;exact a9;exact(hR.lt j hj).2)) (fun _ h=>h) (fun b hb=>by have:=hR.lt b hb;omega);obtain⟨v4,h4,H4,a7,b0,rfl,O4,x1,x2,x3,x4,ys,a4,a5⟩:=ih U lo u O s w1 w2 w3 w4 us el x m b2 a3 (hr.mono a2 lR) I oM;refine J17 f0 fL fM fJ b gx nt D a1 W b3 E.symm g3 J a7 b0 @wrap_small ?_;have b5:=eZ true x;exact d8 (kk-1) oM ⟨i+1,_,m+(fsQ true x).length,oM,oM,f0,f3,fL,fM,rfl,⟨O4,x1,x2,x3,x4,ys,a4,hT.trans s3 l3 oM a5⟩,fX _ I,oM,X⟩
def Oq(k:Nat)(ih:jm 113 true k)(H0:d7)(lo u:Nat)(b2:lo<=u)(b4:u<H0.n)(O0:Nat->Prop)(s0:SpD)(va:Option Addr)(ca:Nat)(l:List Q)(hv:QsR H0 lo k true (.slice va l.length ca) l)(hn:l.length<=1048576)(p3:aa3)(S:SpD):
  ∀kk e H2,(∃(i:Nat)(s:SpD)(m:Nat),kk=l.length-i/\i<=l.length/\e.g 0=pT u/\e.g 3=p3/\e.g 70= .slice va l.length ca/\e.g 71=iV l.length/\e.g 72=iV i/\ju u O0 s0 H0 H2 s/\Sm s m/\m+nL (l.drop i)<=100000/\(fsL true (l.drop i)).foldl Q2 s=S)->
  u7 (LE prog l7 (.loop Rz) e H2) (fun o e H2=>o= .exit 1/\e.g 0=pT u/\e.g 3=p3/\ju u O0 s0 H0 H2 S):=by
 refine i5 _ _ ?_;rintro kk e H2 ⟨i,s,m,b6,hi,f0,f3,fL,fM,fJ,hQ,I,z,X⟩;rcases b:decide ((i:Int)<l.length)with _|_
 .have a6:=dF b;have:l.drop i=[]:=dN oM;rw[this,fsL,yA]at X;refine J3 fM fJ b ?_;exact i6 ⟨rfl,f0,f3,by rw[<-X];exact hQ⟩
 have a6:=dT b;obtain⟨O,w1,w2,w3,w4,us,hR,hT⟩:=hQ;have hS:=hT.stay;have b8:=hS.n;have a9:=u6 hR.g;obtain⟨x,nb,o,cs,own,el,hx,hd,rfl,b7,hg,b1,D,hr⟩:=hv.row (i:=i) oM;have b9:=mG hx;have nt:(i:Int).toNat=i:=tN i;simp only[qSz,jd,bF]at D hg b1;rw[jL _ _ _ _ hd,xo]at X;have a8:m+(nQ x+nL (l.drop (i+1)))<=100000:=by rw[hd,nL]at z;exact z
 have a1:el.all oC=true:=I6 hr;have W:=hr.len;simp only[qSz,jd,bF]at W;have J:=Q6 hr;rw[W]at J;have gx:=(hS.g nb oM).trans hg;obtain⟨U,E,n3,g3,s3⟩:=pushP H2 (bC [iV 0,.string eB,.string eB,.string eB,nS,nS] 1) (bC el 1);have l3:U.low<=H2.low:=by rw[E,A9,l9];omega
 have b3:splice [iV 0,.string eB,.string eB,.string eB,nS,nS] 0 el=el:=A0 _ _ (by rw[W];rfl);have a2:∀j,j<lo->U.g j=H0.g j:=fun j hj=>by rw[s3.g j oM,hS.g j oM]
 have a3:eP U u O s w1 w2 w3 w4 us:=hR.keep (fun j hj=>s3.g j (by rcases hj with rfl|hj;exact a9;exact(hR.lt j hj).2)) (fun _ h=>h) (fun b hb=>by have:=hR.lt b hb;omega);obtain⟨v4,h4,H4,a7,b0,rfl,O4,x1,x2,x3,x4,ys,a4,a5⟩:=ih U lo u O s w1 w2 w3 w4 us el x m b2 a3 (hr.mono a2 lR) I oM;refine J17 f0 fL fM fJ b gx nt D a1 W b3 E.symm g3 J a7 b0 @wrap_small ?_;have b5:=eZ true x;exact d8 (kk-1) oM ⟨i+1,_,m+(fsQ true x).length,oM,oM,f0,f3,fL,fM,rfl,⟨O4,x1,x2,x3,x4,ys,a4,hT.trans s3 l3 oM a5⟩,fX _ I,oM,X⟩
def Ot(k:Nat)(ih:jm 89 false k)(H0:d7)(lo u:Nat)(b2:lo<=u)(b4:u<H0.n)(O0:Nat->Prop)(s0:SpD)(va:Option Addr)(ca:Nat)(l:List Q)(hv:QsR H0 lo k false (.slice va l.length ca) l)(hn:l.length<=1048576)(p3:aa3)(S:SpD):
  ∀kk e H2,(∃(i:Nat)(s:SpD)(m:Nat),kk=l.length-i/\i<=l.length/\e.g 0=pT u/\e.g 3=p3/\e.g 81= .slice va l.length ca/\e.g 82=iV l.length/\e.g 83=iV i/\ju u O0 s0 H0 H2 s/\Sm s m/\m+nL (l.drop i)<=100000/\(fsL false (l.drop i)).foldl Q2 s=S)->
  u7 (LE prog l7 (.loop RA) e H2) (fun o e H2=>o= .exit 3/\e.g 0=pT u/\e.g 3=p3/\ju u O0 s0 H0 H2 S):=by
 refine i5 _ _ ?_;rintro kk e H2 ⟨i,s,m,b6,hi,f0,f3,fL,fM,fJ,hQ,I,z,X⟩;rcases b:decide ((i:Int)<l.length)with _|_
 .have a6:=dF b;have:l.drop i=[]:=dN oM;rw[this,fsL,yA]at X;refine J3 fM fJ b ?_;exact i6 ⟨rfl,f0,f3,by rw[<-X];exact hQ⟩
 have a6:=dT b;obtain⟨O,w1,w2,w3,w4,us,hR,hT⟩:=hQ;have hS:=hT.stay;have b8:=hS.n;have a9:=u6 hR.g;obtain⟨x,nb,o,cs,own,el,hx,hd,rfl,b7,hg,b1,D,hr⟩:=hv.row (i:=i) oM;have b9:=mG hx;have nt:(i:Int).toNat=i:=tN i;simp only[qSz,jd,bF]at D hg b1;rw[jL _ _ _ _ hd,xo]at X;have a8:m+(nQ x+nL (l.drop (i+1)))<=100000:=by rw[hd,nL]at z;exact z
 have a1:el.all oC=true:=I6 hr;have W:=hr.len;simp only[qSz,jd,bF]at W;have J:=Q6 hr;rw[W]at J;have gx:=(hS.g nb oM).trans hg;obtain⟨U,E,n3,g3,s3⟩:=pushP H2 (bC [iV 0,nS,nS] 1) (bC el 1);have l3:U.low<=H2.low:=by rw[E,A9,l9];omega
 have b3:splice [iV 0,nS,nS] 0 el=el:=A0 _ _ (by rw[W];rfl);have a2:∀j,j<lo->U.g j=H0.g j:=fun j hj=>by rw[s3.g j oM,hS.g j oM]
 have a3:eP U u O s w1 w2 w3 w4 us:=hR.keep (fun j hj=>s3.g j (by rcases hj with rfl|hj;exact a9;exact(hR.lt j hj).2)) (fun _ h=>h) (fun b hb=>by have:=hR.lt b hb;omega);obtain⟨v4,h4,H4,a7,b0,rfl,O4,x1,x2,x3,x4,ys,a4,a5⟩:=ih U lo u O s w1 w2 w3 w4 us el x m b2 a3 (hr.mono a2 lR) I oM;refine J17 f0 fL fM fJ b gx nt D a1 W b3 E.symm g3 J a7 b0 @wrap_small ?_;have b5:=eZ false x;exact d8 (kk-1) oM ⟨i+1,_,m+(fsQ false x).length,oM,oM,f0,f3,fL,fM,rfl,⟨O4,x1,x2,x3,x4,ys,a4,hT.trans s3 l3 oM a5⟩,fX _ I,oM,X⟩
def Xs(k:Nat)(a6:jm 89 false k)(a7:jm 113 true k):jm 89 false (k+1):=by
 intro H lo gb O s w1 w2 w3 w4 us cs q m J D hr U a8;have b2:=jr q;have a5:=u6 D.g;obtain⟨va,ca,wa,u,rfl,h1,h2,h3,h4⟩:=hr.path;obtain⟨E,I,-,hg,W⟩:=pushF H (bC [iV q.op,.slice va q.a.length ca,.slice wa q.b.length u] 1);have S:H.n<=E.low:=by rw[I,l9];exact lR
 have hn:=W.n;have b1:=u6 hg;have hm:∀j,j<lo->E.g j=H.g j:=fun j X=>W.g j oM;have a3:eP E gb O s w1 w2 w3 w4 us:=D.keep (fun j X=>W.g j (by rcases X with rfl|X;exact a5;exact(D.lt j X).2)) (fun _ h=>h) (fun b hb=>by have:=D.lt b hb;omega);rw[i7 So rfl _ sM,jM,bt (by decide),sB];refine J2 I.symm hg ?_;refine i8 (F:=fun z=>Ret (t6 _ _ _ (t7 (inBlock 0 z) _)) _ _) (SD k a6 E lo gb J oM O s va ca q.a (h1.mono hm lR) h3 (pT H.n) ((fsL false q.a).foldl Q2 s) q.a.length _ _ ⟨0,s,m,rfl,oM,rfl,rfl,rfl,rfl,rfl,⟨O,w1,w2,w3,w4,us,a3,qt.refl _ _ _ _⟩,U,by rw[lP];omega,rfl⟩) ?_;rintro o e' H2 ⟨ho,g0,g3,hQ⟩;have a1:=hQ;obtain⟨_,_,_,_,_,_,_,T⟩:=a1;have b0:=T.stay.n;have a4:H2.g H.n=cE [iV q.op,.slice va q.a.length ca,.slice wa q.b.length u] 1:=(T.but H.n oM oM (fun q=>by have:=D.lt _ q;omega)).trans hg;have a9:=mX false q.a;refine J3 ho g3 a4 ?_;refine i8 (F:=fun z=>Ret (t6 _ _ _ (inBlock 2 z)) _ _) (SE k a7 E lo gb J oM O s wa u q.b (h2.mono hm lR) h4 (pT H.n) ((fsL false q.a++fsL true q.b).foldl Q2 s) q.b.length _ _ ⟨0,_,m+(fsL false q.a).length,rfl,oM,g0,g3,rfl,rfl,rfl,hQ,fX _ U,by rw[lP];omega,by rw[lP,xo]⟩) ?_;rintro o e' H3 ⟨ho,g0,g3,a2⟩;refine J1 ho ?_;exact qP W S D a2
def SC(k:Nat)(b0:jm 113 true k)(b1:jm 89 false k):jm 113 true (k+1):=by
 intro H lo gb O s w1 w2 w3 w4 us cs q m a2 E hr D b2;have b6:=jr q;have a7:=u6 E.g;obtain⟨va,ca,wa,J,u,h1,h2,h3,h4,_⟩:=hr.filter;obtain⟨U,X,-,hg,hS⟩:=pushF H (bC cs 1);have a3:H.n<=U.low:=by rw[X,l9];exact lR
 have hn:=hS.n;have b5:=u6 hg;have hm:∀j,j<lo->U.g j=H.g j:=fun j hj=>hS.g j oM;have a5:eP U gb O s w1 w2 w3 w4 us:=E.keep (fun j hj=>hS.g j (by rcases hj with rfl|hj;exact a7;exact(E.lt j hj).2)) (fun _ h=>h) (fun b hb=>by have:=E.lt b hb;omega);have al:cs.all oC=true:=by rw[u];rfl
 have r0:cs[0]?=some (.int .i64 q.op):=by rw[u];rfl
 have r4:cs[4]?=some (.slice va q.a.length ca):=by rw[u];rfl
 have r5:cs[5]?=some (.slice wa q.b.length J):=by rw[u];rfl
 have a9:Sm s 100000:=⟨by have:=D.1;omega,by have:=D.2.1;omega,fun l hl=>by have:=D.2.2.1 l hl;omega,by have:=D.2.2.2;omega⟩
 rw[i7 Wf rfl _ sM,jM,bJ rfl,UN,sd,G3];refine J4 al X.symm hg r0 ?_;refine i8 (F:=fun z=>Ret (t6 _ _ _ (t7 z _)) _ _) (CP U gb H.n O s w1 w2 w3 w4 us q va wa ca J a5 a9 oM (fun h=>by have:=E.lt _ h;omega) cs u hg _ rfl rfl rfl) ?_;rintro o e1 Hs ⟨rfl,g0,W,a1⟩;have I:=Bw D q;have S:=a1;obtain⟨_,_,_,_,_,_,_,T0⟩:=S;have b7:=T0.stay.n;have a8:Hs.g H.n=cE cs 1:=(T0.but H.n oM oM (fun q=>by have:=E.lt _ q;omega)).trans hg;refine J3 W a8 r4 ?_;refine i8 (F:=fun z=>Ret (t6 _ _ _ (t7 (inBlock 1 z) _)) _ _) (Oq k b0 U lo gb a2 oM O s va ca q.a (h1.mono hm lR) h3 (pT H.n) ((fsL true q.a).foldl Q2 (Q2 s q)) q.a.length _ _ ⟨0,Q2 s q,m+1,rfl,oM,g0,W,rfl,rfl,rfl,a1,I,by rw[lP];omega,rfl⟩) ?_;rintro o e' H2 ⟨ho,g0,W,hQ⟩;have S:=hQ;obtain⟨_,_,_,_,_,_,_,T⟩:=S;have b4:=T.stay.n;have a6:H2.g H.n=cE cs 1:=(T.but H.n oM oM (fun q=>by have:=E.lt _ q;omega)).trans hg;have b3:=mX true q.a;refine J4 ho W a6 r5 ?_;refine i8 (F:=fun z=>Ret (t6 _ _ _ (inBlock 3 z)) _ _) (Ot k b1 U lo gb a2 oM O s wa J q.b (h2.mono hm lR) h4 (pT H.n) ((fsL true q.a++fsL false q.b).foldl Q2 (Q2 s q)) q.b.length _ _ ⟨0,_,m+1+(fsL true q.a).length,rfl,oM,g0,W,rfl,rfl,rfl,hQ,fX _ I,by rw[lP];omega,by rw[lP,xo]⟩) ?_;rintro o e' H3 ⟨ho,g0,W,a4⟩;refine J1 ho ?_;exact qP hS a3 E a4
def Ou:∀k,jm 89 false k/\jm 113 true k:=by
 intro k;induction k with
 |zero=>exact⟨fun H lo z O s w1 w2 w3 w4 us cs q m _ _ u=>u.elim,fun H lo z O s w1 w2 w3 w4 us cs q m _ _ u=>u.elim⟩
 |succ k h=>exact⟨Xs k h.1 h.2,SC k h.2 h.1⟩
structure SpO(H:d7)(lo:Nat)(O:Nat->Prop)(s:SpD)(w1 w2 w3 w4:aa3)(us:LV):Prop where
 n:u5 H lo 2 (y7 nmE) w1 s.names
 a:u5 H lo 2 (y7 nmE) w2 s.attrs
 v:u5 H lo 1 (y7 fun u=>[u]) w3 us
 len:us.length=s.vals.length
 u:∀(i:Nat)(u:aa3)(l:List aa2),us[i]?=some u->s.vals[i]?=some l->u5 H lo 1 (y7 stE) u l
 t:u5 H lo 1 (y7 stE) w4 s.texts
 ap:eH (w1::w2::w3::w4::us)
 o:∀w∈w1::w2::w3::w4::us,∀b,j8 w b->O b
 lt:∀b,O b->lo<=b/\b<H.n
def SpO.keep{H H':d7}{lo D:Nat}{O J:Nat->Prop}{s:SpD}{w1 w2 w3 w4:aa3}{us:LV}(h:SpO H lo O s w1 w2 w3 w4 us)(E:∀j,O j->H'.g j=H.g j) (X:∀b,O b->J b) (U:∀b,J b->D<=b/\b<H'.n) (I:D<=lo):SpO H' D J s w1 w2 w3 w4 us:=
 ⟨(h.n.same fun b z=>E b (h.o _ sM b z)).wk I,(h.a.same fun b z=>E b (h.o _ sM b z)).wk I,(h.v.same fun b z=>E b (h.o _ sM b z)).wk I,h.len,
  fun i u l W S=>((h.u i u l W S).same fun b z=>E b (h.o _ (by simp [mG W]) b z)).wk I,(h.t.same fun b z=>E b (h.o _ sM b z)).wk I,h.ap,fun w hw b z=>X b (h.o w hw b z),U⟩
def eP.spo{H:d7}{z:Nat}{O:Nat->Prop}{s:SpD}{w1 w2 w3 w4:aa3}{us:LV}(h:eP H z O s w1 w2 w3 w4 us):SpO H (z+1) O s w1 w2 w3 w4 us:=⟨h.n,h.a,h.v,h.len,h.u,h.t,h.ap,h.o,fun b D=>h.lt b D⟩
def Bt(k:Nat)(H0:d7)(lo u:Nat)(b2:lo<=u)(b4:u<H0.n)(O0:Nat->Prop)(s0:SpD)(va:Option Addr)(ca:Nat)(l:List Q)(hv:QsR H0 lo k false (.slice va l.length ca) l)(hn:l.length<=1048576)(p2:aa3)(S:SpD):
  ∀kk e H2,(∃(i:Nat)(s:SpD)(m:Nat),kk=l.length-i/\i<=l.length/\e.g 3=pT u/\e.g 2=p2/\e.g 6= .slice va l.length ca/\e.g 7=iV l.length/\e.g 8=iV i/\ju u O0 s0 H0 H2 s/\Sm s m/\m+nL (l.drop i)<=100000/\(fsL false (l.drop i)).foldl Q2 s=S)->
  u7 (LE prog l7 (.loop Vn) e H2) (fun o e H2=>o= .exit 0/\e.g 3=pT u/\e.g 2=p2/\ju u O0 s0 H0 H2 S):=by
 refine i5 _ _ ?_;rintro kk e H2 ⟨i,s,m,b6,hi,f0,f3,fL,fM,fJ,hQ,I,z,X⟩;rcases b:decide ((i:Int)<l.length)with _|_
 .have a6:=dF b;have:l.drop i=[]:=dN oM;rw[this,fsL,yA]at X;refine J3 fM fJ b ?_;exact i6 ⟨rfl,f0,f3,by rw[<-X];exact hQ⟩
 have a6:=dT b;obtain⟨O,w1,w2,w3,w4,us,hR,hT⟩:=hQ;have hS:=hT.stay;have b8:=hS.n;have a9:=u6 hR.g;obtain⟨x,nb,o,cs,own,el,hx,hd,rfl,b7,hg,b1,D,hr⟩:=hv.row (i:=i) oM;have nt:(i:Int).toNat=i:=tN i;simp only[qSz,bF]at D hg b1;rw[jL _ _ _ _ hd,xo]at X;have a8:m+(nQ x+nL (l.drop (i+1)))<=100000:=by rw[hd,nL]at z;exact z
 have a1:el.all oC=true:=I6 hr;have W:=hr.len;simp only[qSz,bF]at W;have J:=Q6 hr;rw[W]at J;have gx:=(hS.g nb oM).trans hg;obtain⟨U,E,n3,g3,s3⟩:=pushP H2 (bC [iV 0,nS,nS] 1) (bC el 1);have l3:U.low<=H2.low:=by rw[E,A9,l9];omega
 have b3:splice [iV 0,nS,nS] 0 el=el:=A0 _ _ (by rw[W];rfl);have a2:∀j,j<lo->U.g j=H0.g j:=fun j hj=>by rw[s3.g j oM,hS.g j oM]
 have a3:eP U u O s w1 w2 w3 w4 us:=hR.keep (fun j hj=>s3.g j (by rcases hj with rfl|hj;exact a9;exact(hR.lt j hj).2)) (fun _ h=>h) (fun b hb=>by have:=hR.lt b hb;omega);obtain⟨v4,h4,H4,a7,b0,rfl,O4,x1,x2,x3,x4,ys,a4,a5⟩:=(Ou k).1 U lo u O s w1 w2 w3 w4 us el x m b2 a3 (hr.mono a2 lR) I oM;refine J17 f0 fL fM fJ b gx nt D a1 W b3 E.symm g3 J a7 b0 @wrap_small ?_;have b5:=eZ false x;exact d8 (kk-1) oM ⟨i+1,_,m+(fsQ false x).length,oM,oM,f0,f3,fL,fM,rfl,⟨O4,x1,x2,x3,x4,ys,a4,hT.trans s3 l3 oM a5⟩,fX _ I,oM,X⟩
def TW(H:d7)(lo k:Nat)(v:aa3)(l:List Q)(b9:lo<=H.n)(hv:QsR H lo k false v l)(b7:nL l<=100000)(hn:l.length<=1048576):
  Ret (CL prog l7 58 [v] H) H fun w S=>∃w1 w2 w3 w4 us O,w= .agg #[w1,w2,w3,w4]/\SpO S H.n O ((fsL false l).foldl Q2 ⟨[],[],[],[]⟩) w1 w2 w3 w4 us/\d9 H.n H S:=by
 obtain⟨va,ca,rfl⟩:=SlI.slice hv;obtain⟨W,a5⟩:=eY ([nS,nS,nS,nS]:LV);obtain⟨S,J⟩:=eY ((d7.push ⟨H.bs,H.n⟩ (bC W 1)).push (bC W 1));have n0:(d7.push ⟨H.bs,H.n⟩ (bC W 1)).n=H.n+1:=by rw[i4];rfl
 have n1:S.n=H.n+2:=by rw[J,i4,n0]
 have hS:d9 H.n H S:=by rw[J];exact(d9.first H _).trans (d9.push oM)
 have g1:S.g H.n=cE W 1:=by rw[J,j5 oM];exact j6
 have g2:S.g (H.n+1)=cE W 1:=by rw[J];exact A4 oM
 have a7:H.n<=S.low:=by rw[J,l9,l9];exact lR
 have hm:∀j,j<lo->S.g j=H.g j:=fun j hj=>hS.g j oM;have a6:eH ([nS,nS,nS,nS]:LV):=fun i j a b ha U b8 x hx hy=>by
  have:a=nS:=by
   have:=mG ha
   simpa using this
  rw[this]at hx;exact C6 x hx
 have a9:∀w∈([nS,nS,nS,nS]:LV),∀b,j8 w b->False:=fun w hw b U=>by
  have:w=nS:=by simpa using hw
  rw[this]at U;exact C6 b U
 have b3:eP S (H.n+1) (fun _=>False) ⟨[],[],[],[]⟩ (nS) (nS) (nS) (nS) []:=⟨by rw[g2,a5],u5.nil,u5.nil,u5.nil,rfl,rfl,fun i u l hu=>(by cases hu),u5.nil,a6,a9,fun b U=>U.elim⟩
 rw[i7 Xb rfl _ sM];refine J2 a5.symm J.symm ?_;refine i8 (F:=fun z=>Ret (t6 _ _ _ (t7 (inBlock 0 z) _)) _ _) (Bt k S lo (H.n+1) oM oM (fun _=>False) ⟨[],[],[],[]⟩ va ca l (SlI.mono hv hm lR fun _ _ h=>h.mono hm lR) hn (pT H.n) _ l.length _ _ ⟨0,⟨[],[],[],[]⟩,0,rfl,oM,rfl,rfl,rfl,rfl,rfl,⟨_,_,_,_,_,_,b3,qt.refl _ _ _ _⟩,⟨lR,lR,fun l hl=>(by cases hl),lR⟩,by rw[lP];omega,rfl⟩) ?_;rintro o e' H2 ⟨ho,q3,q2,O,w1,w2,w3,w4,us,I,hT⟩;rw[lP]at I hT;have n2:=hT.stay.n;have gg:=I.g;have b2:H2.g H.n=cE W 1:=(hT.stay.g _ oM).trans g1;obtain⟨a1,c1,e1⟩:=I.n.slice;obtain⟨a2,c2,e2⟩:=I.a.slice;obtain⟨a3,c3,e3⟩:=I.v.slice;obtain⟨a4,c4,e4⟩:=I.t.slice;obtain⟨E,D⟩:∃r,r=[w1,w2,w3,w4]:=eX;rw[<-D]at gg;have b5:ldC (some true) (some 4) 0 E=some (.agg E.toArray):=by rw[D];rfl
 have b1:E.all oC=true:=by rw[D,e1,e2,e3,e4];rfl
 have l4:E.length=4:=by rw[D];rfl
 have lz:W.length=4:=by rw[a5];rfl
 have b6:splice W 0 E=E:=A0 _ _ (by rw[l4,lz]);obtain⟨H3,X⟩:=eY (H2.put H.n (bC E 1));have n3:H3.n=H2.n:=by rw[X,j9]
 have g3:H3.g H.n=cE E 1:=by rw[X];exact i9 oM
 have b0:d9 H.n S H3:=by rw[X];exact(hT.stay.wk oM).trans (d9.put lR)
 have b4:=b0.low a7;refine J12 ho q3 q2 gg b5 b2 l4 lz b1 b6 X.symm g3 ?_;have a8:SpO H3 H.n O _ w1 w2 w3 w4 us:=I.spo.keep (fun j hj=>by rw[X,j7 (oN (I.lt j hj))]) (fun _ h=>h) (fun b U=>by have:=I.lt b U;omega) oM;refine cn (fun hc=>?_) ?_
 .rw[D]at hc;simp only[sS,Hm,zb,cA]at hc;obtain⟨z1,y1⟩:=dG I.n hc.1;obtain⟨z2,y2⟩:=dG I.a hc.2.1;obtain⟨z3,y3⟩:=dG I.v hc.2.2.1;obtain⟨W,y4⟩:=dG I.t hc.2.2.2;have y5:=I.len;rw[y3]at y5;have y6:=pF.1 y5.symm;refine⟨w1,w2,w3,w4,[],fun _=>False,by rw[D],⟨?_,?_,?_,(by rw[y6];rfl),fun i u l hu=>(by cases hu),?_,(by rw[z1,z2,z3,W];exact a6),fun w hw b U=>?_,fun b U=>U.elim⟩,d9.refl _ _⟩
  .rw[y1,z1];exact u5.nil
  .rw[y2,z2];exact u5.nil
  .rw[z3];exact u5.nil
  .rw[y4,W];exact u5.nil
  .rw[z1,z2,z3,W]at hw;have:w=nS:=by simpa using hw
   rw[this]at U;exact C6 b U
 .exact⟨w1,w2,w3,w4,us,O,by rw[D],a8.keep (fun _ _=>rfl) (fun _ h=>h) a8.lt lR,(hS.trans b0).ret b4⟩
def U9:List (NmQ×List aa2)->EvD->List EvD
 |[],e=>[e]
 |x::r,e=>U9 r e++(T6 x.2).flatMap fun v=>U9 r (atV x.1 e v)
def KQ(l:List aa2):T6 l=l++[frS l eB [eB]]:=by
 have u:∀n,eB++dg n=dg n:=fun n=>by
  have z:=aA eB (dg n);exact xn (by rw[z];rfl)
 have D:frN l eB=X5 l:=by unfold frN X5;simp only[u]
 rw[T6,frS,ZN];cases h:Z0 l eB with
 |true=>simp [D,u]
 |false=>simp
structure BN(H:d7)(G:Nat->Prop)(pw pf:Nat)(fv:aa3)(s:SpD)(w1 w2 w3 w4:aa3):Prop where
 gw:H.g pw=cE [w1,w2,w3,w4] 1
 gf:H.g pf=cE [fv] 1
 iw:G pw
 jf:G pf
 a:SlF H G 2 (y7 nmE) w2 s.attrs
 v:SlF H G 1 (VlF H G) w3 s.vals
 len:s.vals.length=s.attrs.length
 al:s.attrs.length<=1000
 vl:∀x∈s.vals,x.length<=90
def BN.mono{H H':d7}{G G':Nat->Prop}{E D:Nat}{I:aa3}{s:SpD}{w1 w2 w3 w4:aa3}(h:BN H G E D I s w1 w2 w3 w4)(z:∀j,G j->H'.g j=H.g j) (u:∀j,G j->G' j):BN H' G' E D I s w1 w2 w3 w4:=
 ⟨(z E h.iw).trans h.gw,(z D h.jf).trans h.gf,u _ h.iw,u _ h.jf,h.a.mono z u iF,h.v.mono z u (fun _ _ h=>h.mono z u),h.len,h.al,h.vl⟩
structure jv(H:d7)(po:Nat)(G:Nat->Prop)(w:aa3)(l:List EvD):Prop where
 g:H.g po=cE [w] 1
 own:u5 H (po+1) 5 (EvF H G) w l
 ap:∀j,G j->j<H.n/\j≠po/\¬j8 w j
structure gO(po:Nat)(G0:Nat->Prop)(w0:aa3)(H0:d7)(G:Nat->Prop)(w:aa3)(H:d7):Prop where
 sub:∀j,G0 j->G j
 new:∀j,G j->G0 j\/H0.n<=j
 but:∀j,j<H0.n->j≠po->¬j8 w0 j->H.g j=H0.g j
 neww:∀b,j8 w b->j8 w0 b\/H0.n<=b
 stay:d9 po H0 H
def gO.refl(po:Nat)(G:Nat->Prop)(w:aa3)(H:d7):gO po G w H G w H:=⟨fun _ h=>h,fun _ h=> .inl h,fun _ _ _ _=>rfl,fun _ h=> .inl h,d9.refl _ _⟩
def gO.trans{po:Nat}{z G1 G2:Nat->Prop}{w0 w1 w2:aa3}{H0 D H2:d7}(h:gO po z w0 H0 G1 w1 D)(k:gO po G1 w1 D G2 w2 H2):gO po z w0 H0 G2 w2 H2:=by
 have O:=h.stay.n;refine⟨fun j u=>k.sub j (h.sub j u),fun j u=>?_,fun j u E I=>?_,fun b J=>?_,h.stay.trans k.stay⟩
 .rcases k.new j u with q|q
  .exact h.new j q
  .exact .inr oM
 .rw[k.but j oM E (fun q=>by rcases h.neww j q with r|r;exact I r;omega),h.but j u E I]
 .rcases k.neww b J with q|q
  .exact h.neww b q
  .exact .inr oM
def jv.push{H D:d7}{po:Nat}{G G1:Nat->Prop}{w:aa3}{l:List EvD}(h:jv H po G w l)(z:d9 H.n H D)(I:∀j,G j->G1 j) (J:∀j,G1 j->G j\/(H.n<=j/\j<D.n)):jv D po G1 w l/\gO po G w H G1 w D:=by
 have S:=z.n;have E:=u6 h.g;refine⟨⟨(z.g po E).trans h.g,(h.own.keep z).imp fun cs a q=>A3 _ _ _ _ _ _ q (fun j u=>z.g j (h.ap j u).1) I,fun j u=>?_⟩,I,fun j u=>(J j u).imp id fun q=>q.1,fun j u _ _=>z.g j u,fun b O=> .inl O,z.wk oM⟩;rcases J j u with q|q
 .have:=h.ap j q;exact⟨oM,this.2⟩
 .exact⟨q.2,oM,fun r=>by have:=h.own.lt r;omega⟩
def jv.add{H:d7}{po:Nat}{G:Nat->Prop}{w:aa3}{l:List EvD}(h:jv H po G w l){u:LV}{e:EvD}(W:EvF H G u e)(hl:l.length<=1000000):
  ∃v' I H',C2 prog (H.push (bC u 5)) [22,22] w (sL H.n 1 1)=dk v' I/\I.getD (H.push (bC u 5))=H'/\H'.g po=cE [w] 1/\(∃a c,v'= .slice a (l++[e]).length c)/\
   jv (H'.put po (bC [v'] 1)) po G v' (l++[e])/\gO po G w H G v' (H'.put po (bC [v'] 1)):=by
 have O:=u6 h.g;have E:u.length=5:=by obtain⟨v,rfl,_⟩:=W;rfl
 obtain⟨v',I,H',r1,r2,J,z⟩:=h.own.push1F (P:=prog) (t:=22) (cs:=u) (a:=e) (by exact gV.2.2.2.2.2.2) Q9.1 Q9.2.1 Q9.2.2.1 oM oM E W oM oM;have hn:=z.n;have nb:¬j8 w po:=fun q=>oN (h.own.lt q);have X:=(z.but po O nb).trans h.g;have nv:¬j8 v' po:=fun q=>oN (J.lt q);have S:∀j,j<H.n->j≠po->¬j8 w j->(H'.put po (bC [v'] 1)).g j=H.g j:=fun j D h1 h2=>by rw[j7 (fun q=>h1 q.symm),z.but j D h2]
 refine⟨v',I,H',r1,r2,X,J.slice,⟨i9 oM,(J.same fun b U=>j7 (fun q=>by rw[<-q]at U;exact nv U)).imp fun cs a q=>A3 _ _ _ _ _ _ q (fun j D=>by have:=h.ap j D;exact S j this.1 this.2.1 this.2.2) (fun _ h=>h),fun j D=>?_⟩,fun _ h=>h,fun _ h=> .inl h,S,z.new,(z.stay.wk oM).trans (d9.put lR)⟩;have:=h.ap j D;refine⟨by rw[j9];omega,this.2.1,fun q=>?_⟩;rcases z.new j q with r|r
 .exact this.2.2 r
 .omega
abbrev GX(pw po pf:Nat):aa3:= .func (.func 60) #[] #[pT pw,pT po,pT pf]
def rj(rest:List (NmQ×List aa2)):Prop:=∀(H:d7)(pw po pf i:Nat)(G:Nat->Prop)(s:SpD)(w1 w2 w3 w4 w:aa3)(l:List EvD)(row:LV)(e:EvD),
 BN H G pw pf (GX pw po pf) s w1 w2 w3 w4->jv H po G w l->EvF H G row e->(s.attrs.zip s.vals).drop i=rest->i+rest.length=s.attrs.length->l.length+(U9 rest e).length<=1000000->e.attrs.length+rest.length<=1000->
 Ret (CL prog l7 60 [.agg row.toArray,iV i,pT pw,pT po,pT pf] H) H fun v H1=>v=undef/\∃G' w',jv H1 po G' w' (l++U9 rest e)/\gO po G w H G' w' H1/\H1.low<=po
def zr{H z H':d7}{po:Nat}{G G1:Nat->Prop}{w D:aa3}{l:List EvD}(X:po<H.n)(hw:∀b,j8 w b->po+1<=b/\b<H.n) (S:d9 H.n H z) (I:gO po G w H G1 w z) {G':Nat->Prop} (E:jv H' po G' D l) (U:gO po G1 w z G' D H') (O:H'.low<=po) (J:H.n<=z.low):
  Ret (some (F7 undef H H')) H fun v z=>v=undef/\∃G' D,jv z po G' D l/\gO po G w H G' D z/\z.low<=po:=by
 refine E1 (fun _ hl=>oM) ⟨rfl,G',D,⟨E.g,E.own.low _ |>.imp fun cs a q=>A3 _ _ _ _ _ _ q (fun _ _=>rfl) (fun _ h=>h),E.ap⟩,?_,by show min H.low H'.low<=po;omega⟩;have u:=I.trans U;refine⟨u.sub,u.new,u.but,u.neww,⟨u.stay.n,fun k W q=>?_,u.stay.g⟩⟩;have:=u.stay.lowAll k W q;show k<=min H.low H'.low;omega
def Um:rj []:=by
 intro H pw po pf i G s w1 w2 w3 w4 w l u e hC O he hd hi hl b4;have b0:=u6 O.g;have a8:=he;obtain⟨av,z,a6⟩:=a8;obtain⟨b2,b3,rfl⟩:=a6.slice;obtain⟨aa,ac,rfl⟩:=hC.a.slice;have ar:u.all oC=true:=by rw[z];rfl
 have lr:u.length=5:=by rw[z];rfl
 have b1:ldC (some true) (some 5) 0 u=some (.agg u.toArray):=by rw[z];rfl
 obtain⟨E,I,n1,g1,hS⟩:=pushF H (bC u 1);have X:H.n<=E.low:=by rw[I];exact lR
 obtain⟨S,a5⟩:=O.push (G1:=G) hS (fun _ h=>h) (fun _ h=> .inl h);have a4:=hC.mono (H':=E) (fun j hj=>hS.g j (O.ap j hj).1) (fun _ h=>h);have a7:=A3 _ _ _ _ _ _ he (fun j hj=>hS.g j (O.ap j hj).1) (fun _ h=>h);obtain⟨v',h',H3,r1,r2,g3,⟨a',c',e'⟩,U,W⟩:=S.add a7 (by rw[U9]at hl;simp at hl;omega);obtain⟨H2,J⟩:=eY (E.push (bC u 5));rw[<-J]at r1 r2;have a1:bsA prog (some 29) E 1 [(0,.agg u.toArray)]=some (sL E.n 1 1,H2):=by
  rw[J];simp only[E4,Q9,E5];rw[z];rfl
 obtain⟨H4,D⟩:=eY (H3.put po (bC [v'] 1));rw[<-D]at U W;have cu:v'.cells.toList=[v']:=by rw[e'];rfl
 have ou:Value.oneCell' v'=true:=by rw[e'];rfl
 have a9:H4.low<=po:=by rw[D,A9];omega
 have bi:decide ((i:Int)=s.attrs.length)=true:=ib (by simp at hi;omega);have a3:=a4.gw;have a2:=S.g;have q1:∀a b c d:aa3,[a,b,c,d][1]?=some b:=fun _ _ _ _=>rfl;rw[i7 Sg rfl _ sM];refine J15 ar I.symm a3 q1 bi g1 b1 a2 a1 r1 r2 g3 cu ou D.symm ?_;exact zr b0 (fun b hb=>O.own.lt hb) hS a5 U W a9 X
def Lq(n:NmQ)(l6:List aa2)(rest:List (NmQ×List aa2))(ih:rj rest)(H0:d7)(pw po pf pe i:Nat)(I:Nat->Prop)(s:SpD)(w1 w2 w3 w4 w0:aa3)(u:LV)(e0:EvD)(va:Option Addr)(ca:Nat)(J:List aa2)
  (E:BN H0 I pw pf (GX pw po pf) s w1 w2 w3 w4) (c9:∀j,I j->j<H0.n/\j≠po/\¬j8 w0 j) (l3:po<H0.n) (he:EvF H0 I u e0) (d6:I pe) (g8:H0.g pe=cE u 1) (hv:SlF H0 I 1 (y7 stE) (.slice va J.length ca) J) (l5:J.length<=1000) (l4:1<=J.length)
  (hd:(s.attrs.zip s.vals).drop (i+1)=rest) (hi:i+1+rest.length=s.attrs.length) (hn:s.attrs[i]?=some n) (k3:e0.attrs.length+1+rest.length<=1000) (a4:List EvD):
  ∀kk e H2,(∃(j:Nat)(G:Nat->Prop)(w:aa3)(l:List EvD),kk=J.length-j/\j<=J.length/\e.g 1=iV i/\e.g 2=pT pw/\e.g 4=pT pf/\e.g 5=pT pe/\e.g 40= .slice va J.length ca/\e.g 41=iV J.length/\e.g 42=iV j/\
    jv H2 po G w l/\gO po I w0 H0 G w H2/\(j=0\/H2.low<=po)/\l++((J.drop j).flatMap fun v=>U9 rest (atV n e0 v))=a4/\a4.length<=1000000)->
  u7 (LE prog l7 (.loop Vp) e H2) (fun o e H2=>o= .exit 0/\∃(G:Nat->Prop)(w:aa3),jv H2 po G w a4/\gO po I w0 H0 G w H2/\H2.low<=po):=by
 refine i5 _ _ ?_;rintro kk e H2 ⟨j,G,w,l,k8,D,f1,f2,f4,f5,b5,a7,b6,hO,hT,l1,fu,e1⟩;rcases b:decide ((j:Int)<J.length)with _|_
 .have g2:=dF b;have:J.drop j=[]:=dN oM;rw[this,Fc,su]at fu;refine J3 a7 b6 b ?_;exact i6 ⟨rfl,G,w,by rw[<-fu];exact hO,hT,oM⟩
 have g2:=dT b;have fr:∀j,I j->H2.g j=H0.g j:=fun j D=>by have:=c9 j D;exact hT.but j this.1 this.2.1 this.2.2
 have nx:=hT.stay.n;obtain⟨v,nb,o,cs,own,j4,hx,g4,rfl,hF,hg,k9,j0,hc,rfl⟩:=hv.row (i:=j) oM;have c0:=hc 0 oM;rw[ly]at c0;have h4:(j:Int).toNat=j:=tN j;rw[g4,vM,<-yo]at fu;have gv:=(fr nb hF).trans hg;have k1:=E.mono fr hT.sub;obtain⟨av,W,d0⟩:=A3 _ _ _ _ _ _ he fr hT.sub;obtain⟨b2,b3,rfl⟩:=d0.slice;have i3:po<H2.n:=oM;have ar:u.all oC=true:=by rw[W];rfl
 have lr:u.length=5:=by rw[W];rfl
 have h2:ldC (some true) (some 5) 0 u=some (.agg u.toArray):=by rw[W];rfl
 have r3:u[3]?=some (.slice b2 e0.attrs.length b3):=by rw[W];rfl
 have b9:=(fr pe d6).trans g8;obtain⟨Ha,c7,na,g6,-⟩:=pushE H2 (bC [iV 0,.string eB,.string eB,nS,.string eB] 1);obtain⟨H3,a2⟩:=eY (Ha.put H2.n (bC u 1));have n3:H3.n=H2.n+1:=by rw[a2,j9,na]
 have s3:d9 H2.n H2 H3:=by rw[a2,c7];exact(d9.push lR).trans (d9.put lR)
 have g3:H3.g H2.n=cE u 1:=by rw[a2];exact i9 oM
 have h5:splice [iV 0,.string eB,.string eB,nS,.string eB] 0 u=u:=A0 _ _ (by rw[lr];rfl);have b0:∀j,I j->j<H2.n:=fun j D=>oN (c9 j D);have a1:∀j,I j->H3.g j=H2.g j:=fun j D=>s3.g j (b0 j D);have e7:=(a1 pe d6).trans b9;have c4:=(a1 pw E.iw).trans ((fr pw E.iw).trans E.gw);have k0:=(a1 pf E.jf).trans ((fr pf E.jf).trans E.gf);obtain⟨cv,k5,H4,d1,d3,f7,s4⟩:=NP (α:=AtD) (y7 atE) H3 H3.n (.slice b2 e0.attrs.length b3) e0.attrs lR ((d0.mono (H':=H3) (F':=(· <H3.n)) (fun j D=>by have:=hO.ap j D;exact s3.g j this.1) (fun j D=>by have:=hO.ap j D;omega) iF).sl fun _ h=>h) oM;have n4:=s4.n;have b7:∀j,I j->H4.g j=H3.g j:=fun j D=>s4.g j (oN (b0 j D));obtain⟨aa,ac,e2⟩:=E.a.slice;obtain⟨nn,b1,oa,j2,j1,j3,h1,k6,e5,a8,d4,i1,a9,k4,rfl⟩:=(e2▸E.a).row (i:=i) (by have:=(gS hn).1;exact this);obtain rfl:n=nn:=oU (hn.symm.trans h1);have c3:=(a1 b1 a8).trans ((fr b1 a8).trans d4);have e9:=(b7 b1 a8).trans c3;have f0:=(b7 pw E.iw).trans c4;have h3:(i:Int).toNat=i:=tN i;have k7:(i:Int)<s.attrs.length:=oN ((gS hn).1);obtain⟨H5,c5⟩:=eY (H4.push (bC [.string n.1,.string n.2,.string v] 3));obtain⟨X,h6,H6,c8,a5,a3,s6⟩:=f7.push1 (P:=prog) (t:=27) (by exact IU.2.2.2.2.2.2) oD.1 oD.2.1 oD.2.2.1 oM oM (cs:=[.string n.1,.string n.2,.string v]) (a:=(⟨n.1,n.2,v⟩:AtD)) rfl rfl oM oM;rw[<-c5]at c8 a5;have n6:=s6.n;obtain⟨a6,c6,e6⟩:=a3.slice;have cu:X.cells.toList=[X]:=by rw[e6];rfl
 have ou:Value.oneCell' X=true:=by rw[e6];rfl
 have f3:H6.g H2.n=cE u 1:=by rw[s6.g _ oM,s4.g _ oM];exact g3
 obtain⟨z,U⟩:=eY (u.set 3 X);have O:z=[iV e0.kind,.string e0.space,.string e0.loc,X,.string e0.text]:=by rw[U,W];rfl
 have h7:splice u 3 [X]=z:=by rw[U];rfl
 obtain⟨H7,S⟩:=eY (H6.put H2.n (bC z 1));have n7:H7.n=H6.n:=by rw[S,j9]
 have g7:H7.g H2.n=cE z 1:=by rw[S];exact i9 oM
 have e3:ldC (some true) (some 5) 0 z=some (.agg z.toArray):=by rw[O];rfl
 have e4:d9 H2.n H2 H7:=by rw[S];exact((s3.trans (s4.wk oM)).trans (s6.wk oM)).trans (d9.put lR)
 obtain⟨f8,g0⟩:=hO.push (G1:=fun j=>G j\/j8 X j) e4 (fun _ h=> .inl h) (fun j D=>D.imp id fun q=>by have:=a3.lt q;omega);have g5:EvF H7 (fun j=>G j\/j8 X j) z (atV n e0 v):=⟨X,O,(a3.same (H':=H7) fun b hb=>by rw[S];exact j7 (fun q=>by have:=a3.lt hb;omega)).frz fun b hb=> .inr hb⟩
 have b8:∀j,I j->H7.g j=H2.g j:=fun j D=>e4.g j (b0 j D);have f6:=E.mono (H':=H7) (G':=fun j=>G j\/j8 X j) (fun j D=>(b8 j D).trans (fr j D)) (fun j D=> .inl (hT.sub j D));have e8:=(b8 pf E.jf).trans ((fr pf E.jf).trans E.gf);have h9:(atV n e0 v).attrs.length=e0.attrs.length+1:=by simp [atV]
 have i2:l.length+(U9 rest (atV n e0 v)).length+((J.drop (j+1)).flatMap fun v=>U9 rest (atV n e0 v)).length=a4.length:=by rw[<-fu,dx,dx]
 obtain⟨vv,h8,H8,d2,d5,rfl,G8,w8,f9,g1,h0⟩:=ih H7 pw po pf (i+1) _ s w1 w2 w3 w4 w l z (atV n e0 v) f6 f8 g5 hd hi oM oM;have g9:((i:Int)+1)=((i+1:Nat):Int):=oM;have q1:∀a b c d:aa3,[a,b,c,d][1]?=some b:=fun _ _ _ _=>rfl;have i0:(0:Int)<=i:=oM;have b4:bsA prog (some 88) H4 1 [(0,.agg #[.string n.1,.string n.2,.string v])]=some (sL H4.n 1 1,H5):=by
  rw[c5];simp only[E4,oD,E5];rfl
 have k2:=E.al;subst e5;refine J30 f1 f2 f4 f5 b5 a7 b6 b gv h4 c0 b9 h2 c7.symm (aI g6 lr) (aI ar h5) (aI a2.symm r3) (aI e7 c4) (aI d1 d3) (aI f0 q1) (aI e2 h3) (aI c3 e9) (aI a9 b4) (aI c8 a5) (aI f3 cu) (aI ou h7) (aI S.symm g7) (aI e3 e8) (aI g9 d2) (aI d5 @wrap_small) ?_;exact d8 (kk-1) oM ⟨j+1,G8,w8,_,oM,oM,f1,f2,f4,f5,b5,a7,rfl,f9,(hT.trans g0).trans g1,.inr h0,fu,e1⟩
def Uf{α β:Type}:∀(a:List α)(b:List β)(i:Nat)(x:α×β)(r:List (α×β)),(a.zip b).drop i=x::r->a[i]?=some x.1/\b[i]?=some x.2/\(a.zip b).drop (i+1)=r:=by
 intro a b i x r h;have u:i<(a.zip b).length:=by
  apply wh;intro q;rw[dN oM]at h;cases h
 rw[qQ u]at h
 injection h with h1 h2
 rw[MQ]at u;rw[List.getElem_zip]at h1;refine⟨?_,?_,h2⟩
 .rw[gI oM,<-h1]
 .rw[gI oM,<-h1]
def Un(x:NmQ×List aa2)(r:List (NmQ×List aa2))(ih:rj r):rj (x::r):=by
 intro H pw po pf i G s w1 w2 w3 w4 w l I e hC hO he hd hi hl e4;obtain⟨hn,c4,b3⟩:=Uf _ _ _ _ _ hd;rw[kO]at hi e4;have g8:=hC.al;have h4:=hC.len;have h6:=hC.vl _ (mG c4);have f7:=u6 hO.g;have f2:=he;obtain⟨av,S,e5⟩:=f2;obtain⟨g4,g5,rfl⟩:=e5.slice;obtain⟨aa,ac,ea⟩:=hC.a.slice;have ar:I.all oC=true:=by rw[S];rfl
 have lr:I.length=5:=by rw[S];rfl
 have f8:ldC (some true) (some 5) 0 I=some (.agg I.toArray):=by rw[S];rfl
 obtain⟨H1,a9,n1,g1,hS⟩:=pushF H (bC I 1);have b9:H.n<=H1.low:=by rw[a9];exact lR
 obtain⟨b1,d5⟩:=hO.push (G1:=fun j=>G j\/j=H.n) hS (fun _ h=> .inl h) (fun j h=>h.imp id fun q=>oM);have a5:∀j,G j->H1.g j=H.g j:=fun j E=>hS.g j (hO.ap j E).1;have U:=hC.mono (H':=H1) (G':=fun j=>G j\/j=H.n) a5 (fun _ h=> .inl h);have b4:=A3 _ _ _ _ _ _ he a5 (fun j E=>(.inl E:G j\/j=H.n));have g0:(U9 (x::r) e).length=(U9 r e).length+((T6 x.2).flatMap fun v=>U9 r (atV x.1 e v)).length:=by rw[U9,dx]
 obtain⟨_,h2,H2,e8,f4,rfl,G2,u2,O,D,h1⟩:=ih H1 pw po pf (i+1) _ s w1 w2 w3 w4 w l I e U b1 b4 b3 oM oM oM;have n2:=D.stay.n;have a1:∀j,(G j\/j=H.n)->H2.g j=H1.g j:=fun j E=>by have:=b1.ap j E;exact D.but j this.1 this.2.1 this.2.2
 have J:=U.mono (H':=H2) (G':=G2) a1 D.sub;have f0:=A3 _ _ _ _ _ _ b4 a1 D.sub;have g2:=(a1 H.n (.inr rfl)).trans g1;obtain⟨a3,c3,e3⟩:=J.v.slice;obtain⟨y,nb,o,cs,own,g7,hx,h0,c6,hF,hg,h3,h5,e9,u,rfl,hu⟩:=(e3▸J.v).row (i:=i) oM;obtain rfl:x.2=y:=oU (c4.symm.trans hx);have c0:=e9 0 oM;rw[ly]at c0;have uF:SlI H2 H2.n 1 (y7 stE) u x.2:=hu.sl fun j E=>(O.ap j E).1;obtain⟨cv,g9,H3,b2,b7,d2,s3⟩:=NQ (α:=aa2) (y7 stE) H2 H2.n u x.2 lR uF oM;have n3:=s3.n;obtain⟨H4,b0,n4,-,s4⟩:=pushE H3 (bC [.string eB] 1);have d3:u5 H4 H3.n 1 (y7 stE) (sL H3.n 1 1) [eB]:=by rw[b0];exact u5.fresh rfl lR (F1.one rfl rfl)
 obtain⟨fs,b5⟩:=eY (frS x.2 eB [eB]);have hf:=fresh H4 H2.n u (sL H3.n 1 1) x.2 eB [eB] oM (uF.mono (fun j E=>by rw[s4.g j oM,s3.g j E]) lR iF) d3.sl oM (by decide) (by decide);rw[<-b5]at hf;obtain⟨v7,h7,H6,e2,b8,W,s6⟩:=(d2.keep s4).push1 (P:=prog) (t:=103) (by exact X6.2.2.2.2.2.2) ty9.1 ty9.2.1 ty9.2.2.1 oM oM (cs:=[.string fs]) (a:=fs) rfl rfl oM oM;have n6:=s6.n;rw[show x.2++[fs]=T6 x.2 by rw[KQ,b5]]at W;have c5:d9 H2.n H2 H6:=(s3.trans (s4.wk n3)).trans (s6.wk oM);obtain⟨X,d6⟩:=O.push (G1:=fun j=>G2 j\/j8 v7 j) c5 (fun _ h=> .inl h) (fun j E=>E.imp id fun q=>by have:=W.lt q;omega);have a2:∀j,G2 j->H6.g j=H2.g j:=fun j E=>c5.g j (O.ap j E).1;have d1:=J.mono (H':=H6) (G':=fun j=>G2 j\/j8 v7 j) a2 (fun _ h=> .inl h);have f1:=A3 _ _ _ _ _ _ f0 a2 (fun j E=>(.inl E:G2 j\/j8 v7 j));have g6:=(a2 H.n (D.sub _ (.inr rfl))).trans g2;obtain⟨a7,c7,e7⟩:=W.slice;have g3:(T6 x.2).length=x.2.length+1:=by rw[T6];simp
 have c9:=U.gw;have c8:=U.gf;have a6:=J.gw;have a8:H3.g pw=cE [w1,w2,w3,w4] 1:=(s3.g pw (O.ap pw J.iw).1).trans a6;have d0:H4.g pw=cE [w1,w2,w3,w4] 1:=(s4.g pw (oN ((O.ap pw J.iw).1))).trans a8;have e6:=(O.ap nb hF).1;have b6:=(s3.g nb e6).trans hg;have f3:=(s4.g nb oM).trans b6;have q1:∀a b c d:aa3,[a,b,c,d][1]?=some b:=fun _ _ _ _=>rfl;have q2:∀a b c d:aa3,[a,b,c,d][2]?=some c:=fun _ _ _ _=>rfl;have i0:(0:Int)<=i:=oM;have il:(i:Int)<s.vals.length:=oM;have f9:(i:Int).toNat=i:=tN i;have bi:decide ((i:Int)=s.attrs.length)=false:=dt oM;have f5:((i:Int)+1)=((i+1:Nat):Int):=oM;have a4:∀Hx:d7,E6 prog .len [103] [v7] Hx=some (.int .i64 ((T6 x.2).length:Int),none):=fun Hx=>by
  rw[e7];exact J1 X6 trivial
 subst c6;rw[i7 Sg rfl _ sM];refine J30 ar a9.symm c9 q1 q2 ea e3 bi g1 f8 c8 f5 e8 f4 a6 f9 hg c0 b2 b7 a8 b6 b0.symm d0 f3 hf e2 b8 a4 @wrap_small ?_;refine i8 (F:=fun z=>Ret (t6 _ _ _ (inBlock 0 z)) _ _) (Lq x.1 x.2 r ih H6 pw po pf H.n i (fun j=>G2 j\/j8 v7 j) s w1 w2 w3 w4 u2 I e a7 c7 (T6 x.2) d1 X.ap oM f1 (.inl (D.sub _ (.inr rfl))) g6 (by rw[<-e7];exact W.frz fun b hb=> .inr hb) oM oM b3 oM hn oM (l++U9 (x::r) e) (T6 x.2).length _ _ ⟨0,_,u2,l++U9 r e,rfl,oM,rfl,rfl,rfl,rfl,e7,rfl,rfl,X,gO.refl _ _ _ _,(.inl rfl),by rw[lP,U9,yo],by rw[dx];omega⟩) ?_;rintro o e' H8 ⟨ho,G8,w8,d4,e1,f6⟩;refine J1 ho ?_;exact zr f7 (fun b hb=>hO.own.lt hb) hS d5 d4 ((D.trans d6).trans e1) f6 b9
def zq:∀r,rj r
 |[]=>Um
 |x::r=>Un x r (zq r)
def P7:List (List aa2)->Nat
 |[]=>1
 |v::r=>(v.length+2)*P7 r
def fy:∀r,1<=P7 r
 |[]=>R2 1
 |v::r=>Nat.mul_pos oM (fy r)
def jI{α β:Type}(f:α->List β)(k:Nat)(l:List α)(h:∀x∈l,(f x).length=k):(l.flatMap f).length=l.length*k:=by
 induction l with
 |nil=>simp
 |cons x l z=>rw[vM,dx,h x sM,z (fun y u=>h y (by simp [u])),kO,wS];omega
def xe(v:List aa2):(T6 v).length=v.length+1:=by rw[T6];simp
def mR:∀(r:List (NmQ×List aa2))(e:EvD),(U9 r e).length=P7 (r.map (·.2))
 |[],e=>rfl
 |x::r,e=>by
  rw[U9,dx,mR r e,jI _ _ _ (fun v _=>mR r (atV x.1 e v)),xe,xC,P7];rw[wS,wS,aaT];omega
def GM(x:NmQ×List aa2)(r:List (NmQ×List aa2))(l:List EvD):(dS x.1 (T6 x.2) l).flatMap (U9 r)=l.flatMap (U9 (x::r)):=by
 induction l with
 |nil=>rfl
 |cons e l h=>
  rw[dS]at h ⊢;rw[vM,List.flatMap_append,h,vM]
  congr 1
  rw[AR,vM,U9,List.flatMap_map]
def vr:∀(r:List (NmQ×List aa2))(l:List EvD),l.length<=24->iH r l=if l.length*P7 (r.map (·.2))>24 then none else some (l.flatMap (U9 r))
 |[],l,h=>by
  rw[iH,XV,P7,yD,bt oM]
  congr 1
  have:(U9 []:EvD->List EvD)=fun e=>[e]:=by funext e;rfl
  rw[this];simp
 |x::r,l,h=>by
  rw[iH,xC,P7,<-Nat.mul_assoc];have u:(dS x.1 (T6 x.2) l).length=l.length*(x.2.length+2):=by rw[pg,xe]
  have z:=fy (r.map (·.2));by_cases D:l.length*(x.2.length+2)>24
  .rw[bJ oM,bJ (oN (TC (l.length*(x.2.length+2)) z))]
  .rw[bt oM,vr r _ oM,u,GM]
def lH(s:SpD):List EvD:=(s.names++[zNm (V6 s.names)]).flatMap (fun n=>U9 (s.attrs.zip s.vals) (am n))++(s.texts++[dg (X5 s.texts)]).map dY
def wo(s:SpD)(P:Nat)(D:P7 ((s.attrs.zip s.vals).map (·.2))=P):∀(z:List NmQ)(u:List EvD),jc s z u=if P>24 then(if z=[] then some u else none) else some (u++z.flatMap fun n=>U9 (s.attrs.zip s.vals) (am n))
 |[],u=>by rw[jc,bJ rfl,Fc,su];split<;>rfl
 |n::r,u=>by
  rw[jc,vr _ _ sM,D];simp only[vV,aaT];by_cases h:P>24
  .rw[bJ h,bJ h,bt sM]
  .rw[bt h,bt h];simp only;rw[wo s P D r,bt h];simp
def mM:∀(u:List (List aa2))(n:Nat),(n*P7 u<=24->uK u n=(n*P7 u:Nat))/\(24<n*P7 u->24<uK u n)
 |[],n=>by rw[P7,yD,uK];exact⟨fun _=>rfl,fun h=>oM⟩
 |v::u,n=>by
  rw[P7,uK,<-Nat.mul_assoc];have z:=fy u;have e:(n:Int)*((v.length:Int)+2)=((n*(v.length+2):Nat):Int):=sM;rw[e];have I:=TC (n*(v.length+2)) z;obtain⟨D,E⟩:=mM u (n*(v.length+2));by_cases J:n*(v.length+2)<=25
  .have:min ((n*(v.length+2):Nat):Int) 25=((n*(v.length+2):Nat):Int):=oM;rw[this];exact⟨D,E⟩
  .have:min ((n*(v.length+2):Nat):Int) 25=((25:Nat):Int):=oM;rw[this];exact⟨fun q=>oM,fun _=>(mM u 25).2 oM⟩
def iU(s:SpD)(X:s.vals.length=s.attrs.length):Y4 s=if 24<qx s then none else some (lH s):=by
 have I:(s.attrs.zip s.vals).map (·.2)=s.vals:=List.map_snd_zip oM;obtain⟨P,u⟩:=eY (P7 s.vals);have z:=wo s P (by rw[I,u]) (s.names++[zNm (V6 s.names)]) [];obtain⟨c1,c2⟩:=mM s.vals (s.names.length+1);rw[<-u]at c1 c2;have J:((s.names.length+1:Nat):Int)=(s.names.length:Int)+1:=oM;rw[J]at c1 c2;have W:=fy s.vals;rw[<-u]at W;have U:P<=(s.names.length+1)*P:=by rw[wS];omega
 rw[Y4,z];by_cases D:P>24
 .rw[bJ D,bt sM];have:=c2 oM;rw[bJ (by unfold qx;omega)]
 .rw[bt D];have h:((s.names++[zNm (V6 s.names)]).flatMap (fun n=>U9 (s.attrs.zip s.vals) (am n))).length=(s.names.length+1)*P:=by
   rw[jI _ P _ (fun n _=>by rw[mR,I,u])];simp
  simp only[sB,dx,ED,vV,h];by_cases S:(s.names.length+1)*P<=24
  .have:=c1 S;have O:qx s=(((s.names.length+1)*P+(s.texts.length+1):Nat):Int):=by unfold qx;rw[this];omega
   rw[O];by_cases E:(s.names.length+1)*P+(s.texts.length+1)>24
   .rw[bJ E,bJ oM]
   .rw[bt E,bt oM];rfl
  .have:=c2 oM;rw[bJ oM,bJ (by unfold qx;omega)]
def SpO.vals{H:d7}{lo:Nat}{O:Nat->Prop}{s:SpD}{w1 w2 w3 w4:aa3}{us:LV}(h:SpO H lo O s w1 w2 w3 w4 us){G:Nat->Prop}(z:∀w∈w3::us,∀b,j8 w b->G b):SlF H G 1 (VlF H G) w3 s.vals:=by
 obtain⟨cs,U,hr⟩:=h.v;have e:=Qv hr;subst e;have I:=h.len;rcases U with⟨S,h2,_⟩|⟨b,c,rfl,X,_,_⟩
 .exact .inl ⟨S,pF.1 oM⟩
 .refine .inr ⟨b,0,c,by rw[I],.inr ⟨cs,true,z (sL b cs.length c) (Zh ..) b ⟨_,_,rfl⟩,X,oM,fun i a D=>?_⟩⟩;have E:i<cs.length:=by rw[I];exact(gS D).1
  have J:cs[i]?=some cs[i]:=gI E;refine⟨cs[i],?_,(h.u i _ a J D).frz fun b W=>z _ (by simp [mG J]) b W⟩;rw[tV,yD,qQ E];rfl
def SpO.spr{H:d7}{lo:Nat}{O:Nat->Prop}{s:SpD}{w1 w2 w3 w4:aa3}{us:LV}(h:SpO H lo O s w1 w2 w3 w4 us):SpR H H.n [w1,w2,w3,w4] s:=
 ⟨w1,w2,w3,w4,rfl,h.n.sl,h.a.sl,h.vals fun w u b z=>(h.lt b (h.o w (by simp only[nd]at u ⊢;rcases u with q|q;exact .inr (.inr (.inl q));exact .inr (.inr (.inr (.inr q)))) b z)).2,h.t.sl⟩
def SN(H0:d7)(pw po pf:Nat)(I:Nat->Prop)(s:SpD)(w1 w2 w3 w4 w0:aa3)(va:Option Addr)(ca:Nat)(u:List NmQ)(hC:BN H0 I pw pf (GX pw po pf) s w1 w2 w3 w4)(a3:∀j,I j->j<H0.n/\j≠po/\¬j8 w0 j) (c9:po<H0.n) (hv:SlF H0 I 2 (y7 nmE) (.slice va u.length ca) u) (c8:u.length<=1000) (D:List EvD):
  ∀kk e H2,(∃(j:Nat)(G:Nat->Prop)(w:aa3)(l:List EvD),kk=u.length-j/\j<=u.length/\e.g 4=pT pw/\e.g 5=pT po/\e.g 6=pT pf/\e.g 24= .slice va u.length ca/\e.g 25=iV u.length/\e.g 26=iV j/\
    jv H2 po G w l/\gO po I w0 H0 G w H2/\l++((u.drop j).flatMap fun n=>U9 (s.attrs.zip s.vals) (am n))=D/\D.length<=1000000)->
  u7 (LE prog l7 (.loop US) e H2) (fun o e H2=>o= .exit 0/\e.g 4=pT pw/\e.g 5=pT po/\∃(G:Nat->Prop)(w:aa3),jv H2 po G w D/\gO po I w0 H0 G w H2):=by
 refine i5 _ _ ?_;rintro kk e H2 ⟨j,G,w,l,c4,O,f4,f5,f6,U,J,W,hO,hT,X,a5⟩;rcases b:decide ((j:Int)<u.length)with _|_
 .have b2:=dF b;have:u.drop j=[]:=dN oM;rw[this,Fc,su]at X;refine J3 J W b ?_;exact i6 ⟨rfl,f4,f5,G,w,by rw[<-X];exact hO,hT⟩
 have b2:=dT b;have fr:∀j,I j->H2.g j=H0.g j:=fun j O=>by have:=a3 j O;exact hT.but j this.1 this.2.1 this.2.2
 have nx:=hT.stay.n;have b7:∀j,I j->j<H2.n:=fun j O=>oN (a3 j O);obtain⟨n,nb,o,cs,own,c0,hx,b3,rfl,hF,hg,c6,a6,hc,rfl⟩:=hv.row (i:=j) oM;have b8:(j:Int).toNat=j:=tN j;rw[b3,vM,<-yo]at X;have gv:=(fr nb hF).trans hg;obtain⟨Ha,a2,na,b5,-⟩:=pushE H2 (bC [.string eB,.string eB] 1);obtain⟨S,z⟩:=eY (Ha.put H2.n (bC (nmE n) 1));have n3:S.n=H2.n+1:=by rw[z,j9,na]
 have s3:d9 H2.n H2 S:=by rw[z,a2];exact(d9.push lR).trans (d9.put lR)
 have g3:S.g H2.n=cE (nmE n) 1:=by rw[z];exact i9 oM
 obtain⟨a8,b0⟩:=hO.push (G1:=G) s3 (fun _ h=>h) (fun j h=> .inl h);have a1:=hC.mono (H':=S) (G':=G) (fun j O=>(s3.g j (b7 j O)).trans (fr j O)) hT.sub;have a7:=a1.gf;have b4:EvF S G [iV 1,.string n.1,.string n.2,nS,.string eB] (am n):=⟨_,rfl,.inl ⟨rfl,rfl⟩⟩
 have c7:=hC.len;have c3:=hC.al;have b9:l.length+(U9 (s.attrs.zip s.vals) (am n)).length+((u.drop (j+1)).flatMap fun n=>U9 (s.attrs.zip s.vals) (am n)).length=D.length:=by rw[<-X,dx,dx]
 obtain⟨_,h8,H8,E,a4,rfl,G8,w8,a9,b1,c5⟩:=zq (s.attrs.zip s.vals) S pw po pf 0 G s w1 w2 w3 w4 w l _ (am n) a1 a8 b4 rfl (by rw[MQ];omega) oM (by show 0+_<=_;rw[MQ];omega);have b6:ldC (some true) (some 2) 0 (nmE n)=some (.agg (nmE n).toArray):=rfl;have e0:((0:Nat):Int)=0:=rfl;rw[e0]at E;refine J17 f6 U J W b gv b8 a6 a2.symm b5 z.symm g3 b6 a7 E a4 @wrap_small ?_;exact d8 (kk-1) oM ⟨j+1,G8,w8,_,oM,oM,f4,f5,f6,U,J,rfl,a9,(hT.trans b0).trans b1,X,a5⟩
def SO(H0:d7)(po:Nat)(D:Nat->Prop)(w0:aa3)(va:Option Addr)(ca:Nat)(ts:List aa2)(a4:∀j,D j->j<H0.n/\j≠po/\¬j8 w0 j) (b5:po<H0.n) (hv:SlF H0 D 1 (y7 stE) (.slice va ts.length ca) ts) (b4:ts.length<=1000) (u:List EvD):
  ∀kk e H2,(∃(j:Nat)(G:Nat->Prop)(w:aa3)(l:List EvD),kk=ts.length-j/\j<=ts.length/\e.g 5=pT po/\e.g 41= .slice va ts.length ca/\e.g 42=iV ts.length/\e.g 43=iV j/\
    jv H2 po G w l/\gO po D w0 H0 G w H2/\l++(ts.drop j).map dY=u/\u.length<=1000000)->
  u7 (LE prog l7 (.loop UT) e H2) (fun o e H2=>o= .exit 2/\e.g 5=pT po/\∃(G:Nat->Prop)(w:aa3),jv H2 po G w u/\gO po D w0 H0 G w H2):=by
 refine i5 _ _ ?_;rintro kk e H2 ⟨j,G,w,l,b2,hj,f5,I,z,J,hO,X,O,S⟩;rcases b:decide ((j:Int)<ts.length)with _|_
 .have a5:=dF b;have:ts.drop j=[]:=dN oM;rw[this,XV,su]at O;refine J3 z J b ?_;exact i6 ⟨rfl,f5,G,w,by rw[<-O];exact hO,X⟩
 have a5:=dT b;have fr:∀j,D j->H2.g j=H0.g j:=fun j hj=>by have:=a4 j hj;exact X.but j this.1 this.2.1 this.2.2
 have nx:=X.stay.n;obtain⟨x,nb,o,cs,own,b0,hx,a6,rfl,hF,hg,b3,a9,hc,rfl⟩:=hv.row (i:=j) oM;have c0:=hc 0 oM;rw[ly]at c0;have a7:(j:Int).toNat=j:=tN j;rw[a6,xC,ZH]at O;have gv:=(fr nb hF).trans hg;have go:=hO.g;obtain⟨W,U⟩:=eY ([iV 2,.string eB,.string eB,nS,.string x]:LV);have he:EvF H2 G W (dY x):=⟨_,U,.inl ⟨rfl,rfl⟩⟩
 have a8:l.length+1+(ts.drop (j+1)).length=u.length:=by rw[<-O];simp;omega
 obtain⟨v',h',H3,r1,r2,g3,⟨a',c',e'⟩,a2,a3⟩:=hO.add he oM;obtain⟨E,h⟩:=eY (H2.push (bC W 5));rw[<-h]at r1 r2;have b1:E.g po=cE [w] 1:=by rw[h,j5 (u6 go)];exact go
 have cu:v'.cells.toList=[v']:=by rw[e'];rfl
 have ou:Value.oneCell' v'=true:=by rw[e'];rfl
 have a1:bsA prog (some 29) H2 1 [(0,.agg #[iV 2,.string eB,.string eB,nS,.string x])]=some (sL H2.n 1 1,E):=by
  rw[h,U];simp only[E4,Q9,E5];rfl
 refine J16 f5 I z J b gv a7 c0 go a1 r1 r2 g3 cu ou @wrap_small ?_;exact d8 (kk-1) oM ⟨j+1,G,v',_,oM,oM,f5,I,z,rfl,a2,X.trans a3,O,S⟩
def rN{s:SpD}(h:¬24<qx s)(hl:s.vals.length=s.attrs.length):s.names.length<=24/\s.texts.length<=24/\s.attrs.length<=24/\(∀x∈s.vals,x.length<=24)/\(lH s).length<=24:=by
 obtain⟨c1,c2⟩:=mM s.vals (s.names.length+1);have J:((s.names.length+1:Nat):Int)=(s.names.length:Int)+1:=oM;rw[J]at c1 c2;have U:(s.attrs.zip s.vals).map (·.2)=s.vals:=List.map_snd_zip oM;have E:=fy s.vals;have D:∀u:List (List aa2),u.length<=P7 u/\∀x∈u,x.length<=P7 u:=by
  intro u;induction u with
  |nil=>exact⟨wi _,fun x z=>by cases z⟩
  |cons v u I=>
   have E:=fy u;rw[P7,kO];have X:v.length+2<=(v.length+2)*P7 u:=aav _ E;have h2:2*P7 u<=(v.length+2)*P7 u:=yG _ oM;refine⟨by have:=I.1;omega,fun x z=>?_⟩;rcases nd.1 z with rfl|z
   .omega
   .have:=I.2 x z;omega
 obtain⟨W,O⟩:=D s.vals;have S:(s.names.length+1)*P7 s.vals<=24:=by
  apply wh;intro q;have:=c2 oM;apply h;unfold qx;omega
 have h3:P7 s.vals<=(s.names.length+1)*P7 s.vals:=by rw[wS];omega
 have h4:s.names.length+1<=(s.names.length+1)*P7 s.vals:=aav _ E;have h5:=c1 S;have h6:(s.names.length+1)*P7 s.vals+s.texts.length+1<=24:=by unfold qx at h;omega
 refine⟨oM,oM,oM,fun x z=>by have:=O x z;omega,?_⟩;rw[lH,dx,jI _ (P7 s.vals) _ (fun n _=>by rw[mR,U])];simp only[dx,ED,vV];omega
def GW(l:List aa2):frS l eB []=dg (X5 l):=by
 have h:∀n,eB++dg n=dg n:=fun n=>by
  have u:=aA eB (dg n);exact xn (by rw[u];rfl)
 have z:frN l eB=X5 l:=by unfold frN X5;simp only[h]
 rw[frS,aaV];simp only[z,h]
def Lp(H:d7)(lo k:Nat)(cs:LV)(q:Q)(p4:lo<=H.n)(hr:QR H lo k false cs q)(o1:OkD false q)(p3:nQ q<=1000):
  Ret (CL prog l7 42 [.agg cs.toArray] H) H (Ui H (spQ q)):=by
 obtain⟨s,hs⟩:=eY (spQ q);have a5:=iU s (by rw[hs];exact(nZ q).2.2.1);obtain⟨z1,z2,z3,z4,z5⟩:=nZ q;rw[<-hs]at z1 z2 z3 z4 z5;rw[<-hs];have ac:cs.all oC=true:=I6 hr;have ldc:=Q6 hr;have lc:=hr.len;rw[lc]at ldc;simp only[qSz,bF]at ldc lc;obtain⟨H1,f2,n1,g1,s1⟩:=pushF H (bC cs 1);have k3:H.n<=H1.low:=by rw[f2];exact lR
 obtain⟨H2,b0⟩:=eY (H1.push (bC cs 3));have n2:H2.n=H.n+2:=by rw[b0,i4,n1]
 have s2:d9 H.n H H2:=by rw[b0];exact s1.trans (d9.push oM)
 have m8:H.n<=H2.low:=by rw[b0];exact k3
 have d2:bsA prog (some 36) H1 1 [(0,.agg cs.toArray)]=some (sL H1.n 1 1,H2):=by
  rw[b0];cases k with
  |zero=>exact hr.elim
  |succ k=>obtain⟨_,_,_,_,rfl,_⟩:=hr.path;simp only[E4,cd,E5];rfl
 have o4:QsR H2 H2.n k false (sL H1.n 1 1) [q]:=by
  have hO:u5 H2 H1.n 3 (QR H2 H2.n k false) (sL H1.n 1 1) [q]:=by
   rw[b0];exact u5.fresh rfl lR (F1.one lc (by rw[<-b0];exact hr.mono (fun j u=>s2.g j oM) oM))
  exact hO.sl
 obtain⟨wv,h3,J,c3,d5,w1,w2,w3,w4,us,O,rfl,E,g8⟩:=TW H2 H2.n k _ [q] lR o4 (by rw[nL,nL];omega) sM;have l5:(fsL false [q]).foldl Q2 ⟨[],[],[],[]⟩=s:=by rw[fsL,fsL,su,Ec q o1,hs]
 rw[l5]at E;have n3:=g8.n;obtain⟨a1,b1,e1⟩:=E.n.slice;obtain⟨a2,b2,e2⟩:=E.a.slice;obtain⟨a3,b3,e3⟩:=E.v.slice;obtain⟨a4,b4,e4⟩:=E.t.slice;obtain⟨I,S⟩:∃r,r=[w1,w2,w3,w4]:=eX;have ar:I.all oC=true:=by rw[S,e1,e2,e3,e4];rfl
 have lr:I.length=4:=by rw[S];rfl
 have k7:ldC (some true) (some 4) 0 I=some (.agg I.toArray):=by rw[S];rfl
 have q0:I[0]?=some w1:=by rw[S];rfl
 have q3:I[3]?=some w4:=by rw[S];rfl
 have h8:(#[w1,w2,w3,w4]:Array aa3)=I.toArray:=by rw[S]
 rw[h8]at c3;obtain⟨zz,g5⟩:=eY ([nS,nS,nS,nS]:LV);have lz:zz.length=4:=by rw[g5];rfl
 have k9:splice zz 0 I=I:=A0 _ _ (by rw[lr,lz]);obtain⟨K3,b9,-,j1,-⟩:=pushE J (bC zz 1);obtain⟨U,b7⟩:=eY (K3.put J.n (bC I 1));have n4:U.n=J.n+1:=by rw[b7,j9,b9,i4]
 have d0:d9 J.n J U:=by rw[b7,b9];exact(d9.push lR).trans (d9.put lR)
 have g4:U.g J.n=cE I 1:=by rw[b7];exact i9 (by rw[b9,i4];omega)
 have e7:=(E.spr).mono (H':=U) (fun j u=>d0.g j u) lR;rw[<-S]at e7;have k0:=NU U J.n I s oM e7 oM oM (fun x hx=>by have:=z4 x hx;omega) oM;have o8:d9 H.n H U:=(s2.trans (g8.wk oM)).trans (d0.wk oM);have m9:H.n<=U.low:=((g8.wk (show H.n<=H2.n from oM)).trans (d0.wk oM)).low m8;rw[i7 Sf rfl _ sM];rcases b:decide ((24:Int)<qx s)with _|_
 .have D:=dF b;rw[bt D]at a5;obtain⟨y1,y4,y2,y3,y5⟩:=rN D z3;obtain⟨H5,c7⟩:=eY (U.push (bC [nS] 1));have n5:H5.n=J.n+2:=by rw[c7,i4,n4]
  obtain⟨H6,c8,-,l6,-⟩:=pushE H5 (bC [.nilFunc] 1);have n6:H6.n=J.n+3:=by rw[c8,i4,n5]
  obtain⟨X,b8⟩:=eY (H6.put H5.n (bC [GX J.n U.n H5.n] 1));have n7:X.n=J.n+3:=by rw[b8,j9,n6]
  have d1:d9 U.n U X:=by rw[b8,c8,c7];exact((d9.push lR).trans (d9.push (by rw[i4];omega))).trans (d9.put (by rw[i4];omega))
  have f1:=(d1.g J.n oM).trans g4;have l8:X.g H5.n=cE [GX J.n U.n H5.n] 1:=by rw[b8];exact i9 oM
  have m0:X.g U.n=cE [nS] 1:=by
   rw[b8,j7 oM,c8,j5 oM,c7];exact j6
  have o9:d9 J.n J X:=d0.trans (d1.wk oM);have c4:SpO X H2.n O s w1 w2 w3 w4 us:=E.keep (fun j u=>o9.g j (E.lt j u).2) (fun _ h=>h) (fun b D=>by have:=E.lt b D;omega) lR;have inl:∀w∈w1::w2::w3::w4::us,∀b,j8 w b->H2.n<=b/\b<J.n:=fun w W b D=>E.lt b (E.o w W b D);have e6:=Pl X X.n w1 s.names lR c4.n.sl oM;obtain⟨nm,g3⟩:=eY (zNm (V6 s.names));rw[<-g3]at e6;obtain⟨v9,h9,H9,j3,d6,f5,a7⟩:=c4.n.push1F (P:=prog) (t:=101) (cs:=nmE nm) (a:=nm) (by exact ot.2.2.2.2.2.2) gW.1 gW.2.1 gW.2.2.1 oM oM rfl rfl oM oM;obtain⟨H8,f3⟩:=eY (X.push (bC (nmE nm) 2));rw[<-f3]at j3 d6;have m1:H8.g J.n=cE I 1:=by rw[f3,j5 oM];exact f1
  have n9:=a7.n;have h6:bsA prog (some 26) X 1 [(0,.agg (nmE nm).toArray)]=some (sL X.n 1 1,H8):=by
   rw[f3];simp only[E4,gW,E5];rfl
  obtain⟨a9,c9,e9⟩:=f5.slice;have g0:∀Hx:d7,E6 prog .len [101] [v9] Hx=some (.int .i64 ((s.names++[nm]).length:Int),none):=fun Hx=>by
   rw[e9];exact J1 ot trivial
  have g7:∀j,¬(H2.n<=j/\j<J.n)->¬j8 w1 j:=fun j u q=>u (inl w1 sM j q);have c6:∀j,j<X.n->¬j8 w1 j->H9.g j=X.g j:=a7.but;have i1:H9.g J.n=cE I 1:=(c6 _ oM (g7 _ oM)).trans f1;have m2:=(c6 H5.n oM (g7 _ oM)).trans l8;have m3:=(c6 U.n oM (g7 _ oM)).trans m0;have l1:∀(i:Nat)(w:aa3),(w1::w2::w3::w4::us)[i]?=some w->i≠0->∀j,j8 w j->¬j8 w1 j:=fun i w W hi j u q=>E.ap i 0 w w1 W rfl hi j u q;have o7:∀w∈w1::w2::w3::w4::us,∀b,j8 w b->b<X.n:=fun w W b D=>oN (inl w W b D);obtain⟨G0,a6⟩:=eY (fun j=>(∃w∈w2::w3::us,j8 w j)\/j=J.n\/j=H5.n\/j8 v9 j:Nat->Prop);have e8:∀b,j8 v9 b->b<H9.n/\b≠U.n/\¬(J.n<=b/\b<X.n):=fun b D=>by
   have h1:=f5.lt D;rcases a7.new b D with r|r
   .have:=inl w1 sM b r;omega
   .omega
  have h5:∀w∈w2::w3::us,w∈w1::w2::w3::w4::us:=fun w W=>by
   simp only[nd]at W ⊢;rcases W with h|h|h
   .exact .inr (.inl h)
   .exact .inr (.inr (.inl h))
   .exact .inr (.inr (.inr (.inr h)))
  have d4:∀j,G0 j->j<H9.n/\j≠U.n/\¬j8 (nS) j:=fun j u=>by
   rw[a6]at u;refine⟨?_,?_,C6 j⟩
   .rcases u with⟨w,W,u⟩|u|u|u
    .have:=inl w (h5 w W) j u;omega
    .omega
    .omega
    .exact(e8 j u).1
   .rcases u with⟨w,W,u⟩|u|u|u
    .have:=inl w (h5 w W) j u;omega
    .omega
    .omega
    .exact(e8 j u).2.1
  have g9:∀w∈w2::w3::w4::us,∀b,j8 w b->H9.g b=X.g b:=fun w W b D=>by
   have hm:w∈w1::w2::w3::w4::us:=Ge _ W;obtain⟨i,hi⟩:=Qy.1 W;exact c6 b (o7 w hm b D) (l1 (i+1) w hi oM b D)
  have o3:SlF H9 G0 2 (y7 nmE) w2 s.attrs:=(c4.a.same (g9 w2 sM)).frz fun b D=>by rw[a6];exact .inl ⟨w2,by simp,D⟩
  have o5:SlF H9 G0 1 (VlF H9 G0) w3 s.vals:=by
   have h0:=c4.vals (G:=fun j=>∃w∈w3::us,j8 w j) (fun w W b D=>⟨w,W,D⟩);have up:∀j,(∃w∈w3::us,j8 w j)->G0 j:=fun j⟨w,W,u⟩=>by rw[a6];exact .inl ⟨w,Ge _ W,u⟩
   have sm:∀j,(∃w∈w3::us,j8 w j)->H9.g j=X.g j:=fun j⟨w,W,u⟩=>g9 w (by
    rcases nd.1 W with h|h
    .simp [h]
    .simp [h]) j u
   exact h0.mono sm up fun _ _ h=>h.mono sm up
  have m6:BN H9 G0 J.n H5.n (GX J.n U.n H5.n) s w1 w2 w3 w4:=⟨by rw[i1,S],m2,by rw[a6];exact .inr (.inl rfl),by rw[a6];exact .inr (.inr (.inl rfl)),o3,o5,z3,oM,fun x hx=>by have:=y3 x hx;omega⟩
  have m7:jv H9 U.n G0 (nS) []:=⟨m3,u5.nil,d4⟩
  have n8:((s.names++[nm]).flatMap fun n=>U9 (s.attrs.zip s.vals) (am n)).length<=24:=by
   rw[g3];have:=z5;have:=y5;rw[lH,dx]at this;omega
  refine J30 ac f2.symm g1 ldc d2 c3 d5 g5.symm b9.symm j1 lr lz ar k9 b7.symm g4 k7 k0 b c7.symm c8.symm l6 b8.symm f1 q0 e6 h6 m1 j3 (aI d6 g0) ?_;refine i8 (F:=fun z=>Ret (t6 _ _ _ (t7 (inBlock 0 z) _)) _ _) (SN H9 J.n U.n H5.n G0 s w1 w2 w3 w4 (nS) a9 c9 (s.names++[nm]) m6 d4 oM (by rw[<-e9];exact f5.frz fun b D=>by rw[a6];exact .inr (.inr (.inr D))) (by simp;omega) ((s.names++[nm]).flatMap fun n=>U9 (s.attrs.zip s.vals) (am n)) (s.names++[nm]).length _ _ ⟨0,G0,nS,[],rfl,oM,rfl,rfl,rfl,e9,rfl,rfl,m7,gO.refl _ _ _ _,rfl,oM⟩) ?_;rintro o e' HA ⟨ho,k4,k5,GA,wA,c0,b6⟩;have nA:=b6.stay.n;have i0:∀j,j<H9.n->j≠U.n->HA.g j=H9.g j:=fun j u h=>b6.but j u h (C6 j);have j0:HA.g J.n=cE I 1:=(i0 _ oM oM).trans i1;have i3:=c0.g;have l4:∀b,j8 w4 b->H2.n<=b/\b<J.n:=fun b D=>inl w4 sM b D;have j2:u5 HA H2.n 1 (y7 stE) w4 s.texts:=(c4.t.same (g9 w4 sM)).same fun b D=>i0 b (oN (l4 b D)) (oN (l4 b D));have f8:=fresh HA HA.n w4 (nS) s.texts eB [] lR j2.sl (nX ..) oM (by decide) (by decide);rw[GW]at f8;obtain⟨fs,k1⟩:=eY (dg (X5 s.texts));rw[<-k1]at f8;obtain⟨vC,hc,HC,j4,e5,f6,a8⟩:=j2.push1F (P:=prog) (t:=103) (cs:=[.string fs]) (a:=fs) (by exact X6.2.2.2.2.2.2) ty9.1 ty9.2.1 ty9.2.2.1 oM oM rfl rfl oM oM;obtain⟨HB,f4⟩:=eY (HA.push (bC [.string fs] 1));rw[<-f4]at j4 e5;have m4:HB.g J.n=cE I 1:=by rw[f4,j5 oM];exact j0
  have nC:=a8.n;have k6:=u6 i3;have g6:∀j,GA j->¬j8 w4 j:=fun j u q=>by
   have h4:=l4 j q;rcases b6.new j u with r|r
   .rw[a6]at r;rcases r with⟨w,W,r⟩|r|r|r
    .obtain⟨i,hi⟩:=Qy.1 (h5 w W);by_cases k2:i=3
     .subst k2;have:w=w4:=(oU hi).symm;subst this;obtain⟨i2,f9⟩:=Qy.1 W;rcases i2 with _|_|i2
      .exact E.ap 1 3 w2 w rfl rfl oM j (by rw[show w2=w from oU f9];exact r) q
      .exact E.ap 2 3 w3 w rfl rfl oM j (by rw[show w3=w from oU f9];exact r) q
      .exact E.ap (i2+4) 3 w w f9 rfl oM j r q
     .exact E.ap i 3 w w4 hi rfl k2 j r q
    .omega
    .omega
    .rcases a7.new j r with r|r
     .exact E.ap 0 3 w1 w4 rfl rfl oM j r q
     .omega
   .omega
  have f0:∀j,j<HA.n->¬j8 w4 j->HC.g j=HA.g j:=a8.but;have c5:∀b,j8 wA b->H9.n<=b/\b<HA.n:=fun b D=>by
   have h1:=c0.own.lt D;rcases b6.neww b D with r|r
   .exact(C6 b r).elim
   .omega
  have p0:∀b,j8 vC b->b<HC.n/\b≠U.n/\¬j8 wA b:=fun b D=>by
   have h1:=f6.lt D;refine⟨h1.2,?_,fun q=>?_⟩
   .rcases a8.new b D with r|r
    .have:=l4 b r;omega
    .omega
   .have h2:=c5 b q;rcases a8.new b D with r|r
    .have:=l4 b r;omega
    .omega
  have d3:jv HC U.n (fun j=>GA j\/j8 vC j) wA ((s.names++[nm]).flatMap fun n=>U9 (s.attrs.zip s.vals) (am n)):=by
   refine⟨(f0 _ k6 (fun q=>by have:=l4 _ q;omega)).trans i3,(c0.own.same fun b D=>f0 b (c5 b D).2 (fun q=>by have:=l4 b q;have:=c5 b D;omega)).imp fun cs a h=>A3 _ _ _ _ _ _ h (fun j u=>f0 j (c0.ap j u).1 (g6 j u)) (fun _ h=> .inl h),fun j u=>?_⟩;rcases u with u|u
   .have:=c0.ap j u;exact⟨oM,this.2⟩
   .exact p0 j u
  obtain⟨aC,cC,eC⟩:=f6.slice;have g2:∀Hx:d7,E6 prog .len [103] [vC] Hx=some (.int .i64 ((s.texts++[fs]).length:Int),none):=fun Hx=>by
   rw[eC];exact J1 X6 trivial
  have h7:bsA prog (some 9) HA 1 [(0,.string fs)]=some (sL HA.n 1 1,HB):=by
   rw[f4];simp only[E4,ty9,E5];rfl
  have l3:((s.names++[nm]).flatMap fun n=>U9 (s.attrs.zip s.vals) (am n))++(s.texts++[fs]).map dY=lH s:=by rw[lH,g3,k1]
  refine J10 ho k4 j0 q3 f8 h7 m4 j4 e5 g2 ?_;refine i8 (F:=fun z=>Ret (t6 _ _ _ (t7 (inBlock 2 z) _)) _ _) (SO HC U.n (fun j=>GA j\/j8 vC j) wA aC cC (s.texts++[fs]) d3.ap oM (by rw[<-eC];exact f6.frz fun b D=> .inr D) (by simp;omega) (lH s) (s.texts++[fs]).length _ _ ⟨0,_,wA,_,rfl,oM,k5,eC,rfl,rfl,d3,gO.refl _ _ _ _,l3,oM⟩) ?_;rintro o2 e2 HD ⟨o0,o6,GD,wD,b5,f7⟩;have m5:=b5.g;have nD:=f7.stay.n;have k8:d9 H.n H HD:=((((o8.trans (d1.wk oM)).trans (a7.stay.wk oM)).trans (b6.stay.wk oM)).trans (a8.stay.wk oM)).trans (f7.stay.wk oM);have n0:H.n<=HD.low:=(((((d1.wk (show H.n<=U.n from oM)).trans (a7.stay.wk oM)).trans (b6.stay.wk oM)).trans (a8.stay.wk oM)).trans (f7.stay.wk oM)).low m9;refine J3 o0 o6 m5 ?_;refine cn (fun hc=>?_) ⟨_,_,rfl,.inr ⟨_,a5,rfl,SlF.mono (b5.own.frz fun b D=>(b5.own.lt D).2) (fun _ _=>rfl) (fun j u=>u) (fun _ _ h=>A3 _ _ _ _ _ _ h (fun _ _=>rfl) fun j u=>(b5.ap j u).1)⟩,k8.ret n0⟩;obtain⟨da,dc,ed⟩:=b5.own.slice;obtain⟨u1,u2⟩:=dG b5.own (by rw[ed]at hc ⊢;exact hc);exact⟨_,_,rfl,.inr ⟨_,a5,rfl,by rw[u1,u2];exact .inl ⟨rfl,rfl⟩⟩,d9.refl _ _⟩
 .have D:=dT b;rw[bJ D]at a5;refine J19 ac f2.symm g1 ldc d2 c3 d5 g5.symm b9.symm j1 lr lz ar k9 b7.symm g4 k7 k0 b ?_;exact⟨_,none,H,rfl,rfl,_,_,rfl,.inl ⟨a5,rfl,rfl⟩,d9.refl _ _⟩
structure ReD where
 strat:StD
 labels:List EvD
 sorts:List SoD
 size:List Int
 how:List (Int×Int×Int)
def knB(n:Nat)(k:Int):Bool:=decide (0<=k)&&decide (k<n)
def bG(so:List SoD)(kind f n:Int):Bool:=knB so.length f&&knB so.length n&&(!decide (kind=2)||(decide (f=0)&& !((so.getD n.toNat (false,false,eB)).2.1)))
def Fg(H:d7)(z:Nat)(h:LV)(own:Bool)(sz:Nat)(E:H.g z=some (.cells h own sz))(sa:Option Addr)(n c:Nat)(D:h[9]?=some (.slice sa n c))(k:Int):CL prog l7 95 [pT z,iV k] H=some (.bool (knB n k),none):=by
 have u:d7.g ⟨H.bs,H.n⟩ z=some (.cells h own sz):=E;rw[i7 YW rfl _ sM,knB];rcases b:decide ((0:Int)<=k)with _|_
 .exact J1 b trivial
 .exact J3 b u D trivial
def Qs(H:d7)(rb:Nat)(I:LV)(own:Bool)(sz:Nat)(hg:H.g rb=some (.cells I own sz))(z:List SoD)(v:aa3)(hv:SlI H H.n 3 (y7 soE) v z)(h9:I[9]?=some v)(el:LV)(e:EvD)(hl:el.length=5)(S:el.all oC=true)(O:el[0]?=some (.int .i64 e.kind))(f n:Int):
  CL prog l7 69 [pT rb,.agg el.toArray,iV f,iV n] H=some (.bool (bG z e.kind f n),none):=by
 obtain⟨sa,c,rfl⟩:=hv.slice;obtain⟨H1,h,-,J,hS⟩:=pushF H (bC el 1);have a3:H.n<=H1.low:=by rw[h];exact lR
 have U:=(hS.g rb (u6 hg)).trans hg;have u:=Fg H1 rb I own sz U sa z.length c h9 f;have E:=Fg H1 rb I own sz U sa z.length c h9 n;rw[i7 YM rfl _ sM,bG];rcases b:decide (e.kind=2)with _|_
 .rcases X:knB z.length f with _|_
  .rw[X]at u;exact J6 S h.symm J O b u trivial
  .rw[X]at u;rcases W:knB z.length n with _|_
   .rw[W]at E;exact J7 S h.symm J O b u E trivial
   .rw[W]at E;exact J7 S h.symm J O b u E trivial
 .rcases X:knB z.length f with _|_
  .rw[X]at u;exact J6 S h.symm J O b u trivial
  .rw[X]at u;rcases W:knB z.length n with _|_
   .rw[W]at E;exact J7 S h.symm J O b u E trivial
   .have D:=W;simp only[knB,cA,eT]at D;rw[W]at E;rcases b3:decide (f=0)with _|_
    .exact J8 S h.symm J O b u E b3 trivial
    .have hn:(n.toNat:Int)=n:=DR D.1;have a2:n.toNat<z.length:=oM;obtain⟨y,nb,o,cs,ow,a5,hx,hd,e0,hF,a1,a6,a4,hc,rfl⟩:=hv.row (i:=n.toNat) a2;subst e0;have c1:=hc 1 oM;have gn:=(hS.g nb hF).trans a1;have hy:(z.getD n.toNat (false,false,eB)).2.1=y.2.1:=by rw[dE,hx];rfl
     have y1:(soE y)[1]?=some (.bool y.2.1):=rfl;rw[y1]at c1;have p0:(0:Int)<=n:=D.1;have p1:n<z.length:=D.2;exact J13 S h.symm J O b u E b3 U h9 gn c1 hy trivial
def mx2(a b:Int):Int:=if a<b then b else a
def mxL:List Int->Int
 |[]=>0
 |x::l=>l.foldl mx2 x
def Ly(H0:d7)(U:Option Addr)(I:Nat)(l:List Int)(hv:SlI H0 H0.n 1 (y7 inE) (.slice U l.length I) l)(hn:l.length<=100000)(r:Int):
  ∀D e H2,(∃(i:Nat)(m:Int),D=l.length-i/\1<=i/\i<=l.length/\e.g 0= .slice U l.length I/\e.g 3=iV m/\e.g 4=iV i/\H2=H0/\(l.drop i).foldl mx2 m=r)->
  u7 (LE prog l7 (.loop Vv) e H2) (fun o e H2=>H2=H0/\o= .exit 0/\e.g 3=iV r):=by
 refine i5 _ _ ?_;rintro D e H2 ⟨i,m,hk,a1,hi,u,J,O,rfl,h⟩;rcases b:decide ((i:Int)<l.length)with _|_
 .have z:=dF b;have:l.drop i=[]:=dN oM;rw[this,yA]at h;refine J3 u O b ?_;exact i6 ⟨rfl,rfl,by rw[<-h];exact J⟩
 have z:=dT b;obtain⟨y,nb,o,cs,own,el,hx,X,rfl,a3,hg,a2,S,W,rfl⟩:=hv.row (i:=i) oM;have nt:(i:Int).toNat=i:=tN i;have E:=W 0 oM;rw[ly]at E;rw[X,sd]at h;have hm:∀Hx,E6 prog .max [3,3] [iV m,iV y] Hx=some (.int .i64 (mx2 m y),none):=fun Hx=>by
  simp [E6,me,mx2]
 refine J9 u J O b hg nt E hm @wrap_small ?_;exact d8 (D-1) oM ⟨i+1,mx2 m y,oM,oM,oM,u,rfl,rfl,rfl,h⟩
def XA(H:d7)(v:aa3)(l:List Int)(u:SlI H H.n 1 (y7 inE) v l)(E:1<=l.length)(hn:l.length<=100000):CL prog l7 67 [v] H=some (.int .i64 (mxL l),none):=by
 obtain⟨va,S,rfl⟩:=u.slice;obtain⟨y,O,o,cs,own,el,J,hd,rfl,a2,hg,a1,I,hc,rfl⟩:=u.row (i:=0) oM;have D:=hc 0 oM;simp only[Ck,ly]at D;have b:decide ((l.length:Int)<1)=false:=dt oM;have h:d7.g ⟨H.bs,H.n⟩ O=some (.cells cs own 1):=hg;have U:mxL l=(l.drop 1).foldl mx2 y:=by
  cases l with
  |nil=>simp at E
  |cons x l=>simp at J;rw[<-J];rfl
 rw[i7 Xe rfl _ sM];refine J3 b h D ?_;refine i8 (F:=fun z=>t6 _ _ _ (t7 (inBlock 0 z) _)=_) (Ly ⟨H.bs,H.n⟩ (some ⟨O,o,none⟩) S l (u.mono (fun _ _=>rfl) lR iF) hn (mxL l) (l.length-1) _ _ ⟨1,y,rfl,lR,E,rfl,rfl,rfl,rfl,U.symm⟩) ?_;rintro o' e' H' ⟨X,ho,W⟩;exact J3 ho X W trivial
def Tq(H:d7)(D:Nat)(h:LV)(own:Bool)(sz:Nat)(O:H.g D=some (.cells h own sz))(v:aa3)(l:List Int)(W:SlI H H.n 1 (y7 inE) v l)(u:h[10]?=some v)(E:1<=l.length)(U:l.length<=100000)(size:Int)(I:0<=mxL l)(J:mxL l<=1000):
  CL prog l7 44 [pT D,iV size] H=some (.bool (decide (size<=2*mxL l+1)),none):=by
 have S:=XA ⟨H.bs,H.n⟩ v l (W.mono (fun _ _=>rfl) lR iF) E U;have z:d7.g ⟨H.bs,H.n⟩ D=some (.cells h own sz):=O;rw[i7 YC rfl _ sM];exact J4 z u S @wrap_small trivial
def RZ(H:d7)(h:LV)(D:List SoD)(v:aa3)(hv:SlI H H.n 3 (y7 soE) v D)(hl:h.length=12)(X:h.all oC=true)(W:h[9]?=some v)(hn:D.length<=1000)(x:SoD):
  CL prog l7 81 [.agg h.toArray,.agg (soE x).toArray] H=some (.int .i64 (ixG (fun y=>bZ x y) D 0),none):=by
 obtain⟨O,z,J,-⟩:=pushF H (bC h 1);obtain⟨H2,u⟩:=eY (O.push (bC (soE x) 1));have E:d9 H.n H H2:=by rw[u,z];exact(d9.first H _).trans (d9.push (by rw[i4];exact aaq _))
 have S:H2.g H.n=cE h 1:=by rw[u,j5 oM,z];exact j6
 have U:H2.g (H.n+1)=cE (soE x) 1:=by rw[u,<-J];exact j6
 have I:H.n<=H2.low:=by rw[u,z];exact lR
 have hr:ldC (some true) (some 3) 0 (soE x)=some (.agg (soE x).toArray):=rfl;have hf:=Kx H2 H.n v D x (oN (E.n)) (hv.mono (fun j hj=>E.g j hj) lR iF) oM;rw[i7 YP rfl _ sM];exact J9 X z.symm J u.symm S U W hr hf trivial
end Go.Proofs.YtjlpdddmmnijoaaGreatDoor.Ve
