/- A part of the claim: the evaluator and the contracts. Conditions: none here. -/
import Derived.Test.YtofbhlhamfkljaaGreatDoorPc
set_option linter.unusedVariables false
set_option linter.unusedSimpArgs false
set_option linter.defProp false
set_option maxHeartbeats 0
set_option maxRecDepth 1000000
namespace Go.Proofs.YtofbhlhamfkljaaGreatDoor.Ve
open Go Go.RowKit
open Go.Proofs.Tryz (prog)
theorem mC{P:Program}(t:TypeId)(a:Option Addr)(n c:Nat)(h:(I5 P t).isSome=true):F6 P .eql t (.slice a n c) (nS)=some (.bool a.isNone):=by
 cases a<;>simp [F6,eqA,h]
theorem zk{α:Type}(R:LV->α->Prop)(H:d8)(n:Nat)(v:Value)(l:List α)(hn:n<=H.next)(S:SlI H n 3 R v l)(hl:l.length<=1000000):L8 (CL prog t6 37 [v] H) H 3 R l:=by
 obtain⟨va,ca,rfl⟩:=S.slice;have W:=fun a n c=>mC (P:=prog) 49 a n c (by rw[CF.2.2.2.2.2.1];rfl);rw[j7 QK rfl _ sM];rcases b:va.isNone with _|_
 .obtain⟨D,u⟩:=eY (d8.push ⟨H.bs,H.next⟩ (bC [] 3));have X:i6 H.next H D:=by rw[u];exact i6.first H _
  have n1:D.next=H.next+1:=by rw[u,i5];rfl
  have z:H.next<=D.low:=by rw[u,l9];exact lR
  have E:u6 D H.next 3 R (sL H.next 0 0) []:=by rw[u];exact u6.fresh rfl lR D2.nil
  obtain⟨w1,h1,K2,J,y,I,s2⟩:=E.append (P:=prog) (t:=49) (n:=n) (by exact CF.2.2.2.2.2.2) jQ.1 jQ.2.1 jQ.2.2.1 oM oM (S.mono (fun j hj=>X.get j oM) lR iF) (by simp;omega) oM;refine J5 W b u.symm J y ?_;exact F0 I (X.trans s2) (s2.low z)
 .have U:va=none:=by simpa using b
  subst U;have O:l=[]:=by
   rcases S with⟨_,h⟩|⟨b,o,c,h,_⟩
   .exact h
   .cases h
  subst O;refine J2 W b ?_;exact⟨_,none,H,rfl,rfl,u6.nil,i6.refl _ _⟩
theorem GN{α:Type}(R:LV->α->Prop)(H:d8)(n:Nat)(v:Value)(l:List α)(hn:n<=H.next)(S:SlI H n 1 R v l)(hl:l.length<=1000000):L8 (CL prog t6 55 [v] H) H 1 R l:=by
 obtain⟨va,ca,rfl⟩:=S.slice;have W:=fun a n c=>mC (P:=prog) 97 a n c (by rw[bU.2.2.2.2.2.1];rfl);rw[j7 QO rfl _ sM];rcases b:va.isNone with _|_
 .obtain⟨D,u⟩:=eY (d8.push ⟨H.bs,H.next⟩ (bC [] 1));have X:i6 H.next H D:=by rw[u];exact i6.first H _
  have n1:D.next=H.next+1:=by rw[u,i5];rfl
  have z:H.next<=D.low:=by rw[u,l9];exact lR
  have E:u6 D H.next 1 R (sL H.next 0 0) []:=by rw[u];exact u6.fresh rfl lR D2.nil
  obtain⟨w1,h1,K2,J,y,I,s2⟩:=E.append (P:=prog) (t:=97) (n:=n) (by exact bU.2.2.2.2.2.2) ty9.1 ty9.2.1 ty9.2.2.1 oM oM (S.mono (fun j hj=>X.get j oM) lR iF) (by simp;omega) oM;refine J5 W b u.symm J y ?_;exact F0 I (X.trans s2) (s2.low z)
 .have U:va=none:=by simpa using b
  subst U;have O:l=[]:=by
   rcases S with⟨_,h⟩|⟨b,o,c,h,_⟩
   .exact h
   .cases h
  subst O;refine J2 W b ?_;exact⟨_,none,H,rfl,rfl,u6.nil,i6.refl _ _⟩
theorem Lx{α:Type}(H0:d8)(F:Nat->Prop)(R:LV->α->Prop)(W:Value)(p:α->Bool)(va:Option Addr)(U:Nat)(l:List α)(hv:SlF H0 F 3 R (.slice va l.length U) l)(hn:l.length<=1048576)(hf:∀(i:Nat)(x:α)(el:LV),l[i]?=some x->R el x->fC (CL prog t6) W [.agg el.toArray] H0=some (.bool (p x),none)) (r:Int):
  ∀S e H2,(∃i:Nat,S=l.length-i/\i<=l.length/\e.get 0= .slice va l.length U/\e.get 1=W/\e.get 7=iV l.length/\e.get 8=iV i/\H2=H0/\ixG p (l.drop i) i=r)->
  w7 (LE prog t6 (.loop KC) e H2) (fun o e H2=>H2=H0/\((o= .exit 0/\r= -1)\/(o= .ret/\e.get 4=iV r))):=by
 refine i8 _ _ ?_;rintro S e H2 ⟨i,hk,hi,E,I,D,J,hH,y⟩;subst hH;rcases b:decide ((i:Int)<l.length)with _|_
 .have O:=dF b;have:l.drop i=[]:=dN oM;rw[this,ixG]at y;refine J3 D J b ?_;exact i9 ⟨rfl,.inl ⟨rfl,y.symm⟩⟩
 have O:=dT b;obtain⟨x,nb,o,cs,own,el,hx,hd,rfl,hF,X,a1,u,hc,hR⟩:=hv.row (i:=i) oM;have nt:(i:Int).toNat=i:=tN i;have h:=hf i x el hx hR;rw[hd,ixG]at y;rcases z:p x with _|_
 .simp only[z,bF]at y;rw[z]at h;refine J10 E I D J b X nt u h @wrap_small ?_;exact i4 (S-1) oM ⟨i+1,oM,oM,E,I,D,rfl,rfl,y⟩
 .simp only[z,if_true]at y;rw[z]at h;refine J9 E I D J b X nt u h ?_;exact z9 ⟨rfl,.inr ⟨rfl,by rw[<-y];rfl⟩⟩
theorem nr{α:Type}(H:d8)(F:Nat->Prop)(R:LV->α->Prop)(u:Value)(p:α->Bool)(v:Value)(l:List α)(E:SlF H F 3 R v l)(S:l.length<=1048576)(O:∀(i:Nat)(x:α)(el:LV),l[i]?=some x->R el x->fC (CL prog t6) u [.agg el.toArray] ⟨H.bs,H.next⟩=some (.bool (p x),none)):
  CL prog t6 130 [v,u] H=some (.int .i64 (ixG p l 0),none):=by
 obtain⟨W,I,rfl⟩:=E.slice;have X:(⟨H.bs,H.next⟩:d8).low=H.next:=rfl;rw[j7 Jn rfl _ sM];refine J1 lP ?_;refine j8 (F:=fun z=>u5 _ _ _ (u9 (inBlock 0 z) _)=_) (Lx ⟨H.bs,H.next⟩ F R u p W I l (E.mono (fun _ _=>rfl) (fun _ h=>h) iF) S O (ixG p l 0) l.length _ _ ⟨0,rfl,oM,rfl,rfl,rfl,rfl,rfl,rfl⟩) ?_;rintro o e' H' ⟨D,⟨y,U⟩|⟨y,J⟩⟩
 .exact J3 y D U trivial
 .exact J3 y D J trivial
theorem nj{α:Type}(H:d8)(F:Nat->Prop)(R:LV->α->Prop)(u:Value)(p:α->Bool)(v:Value)(l:List α)(E:SlF H F 3 R v l)(D:l.length<=1048576)(z:∀(i:Nat)(x:α)(el:LV),l[i]?=some x->R el x->fC (CL prog t6) u [.agg el.toArray] ⟨H.bs,H.next⟩=some (.bool (p x),none)):
  CL prog t6 104 [v,u] H=some (.bool (l.any p),none):=by
 have y:=nr ⟨H.bs,H.next⟩ F R u p v l (E.mono (fun _ _=>rfl) (fun _ h=>h) iF) D z;rw[j7 OF rfl _ sM,<-gN];exact J1 y trivial
theorem Ly{α:Type}(H0:d8)(F:Nat->Prop)(R:LV->α->Prop)(W:Value)(p:α->Bool)(va:Option Addr)(U:Nat)(l:List α)(hv:SlF H0 F 6 R (.slice va l.length U) l)(hn:l.length<=1048576)(hf:∀(i:Nat)(x:α)(el:LV),l[i]?=some x->R el x->fC (CL prog t6) W [.agg el.toArray] H0=some (.bool (p x),none)) (r:Int):
  ∀S e H2,(∃i:Nat,S=l.length-i/\i<=l.length/\e.get 0= .slice va l.length U/\e.get 1=W/\e.get 7=iV l.length/\e.get 8=iV i/\H2=H0/\ixG p (l.drop i) i=r)->
  w7 (LE prog t6 (.loop KN) e H2) (fun o e H2=>H2=H0/\((o= .exit 0/\r= -1)\/(o= .ret/\e.get 4=iV r))):=by
 refine i8 _ _ ?_;rintro S e H2 ⟨i,hk,hi,E,I,D,J,hH,y⟩;subst hH;rcases b:decide ((i:Int)<l.length)with _|_
 .have O:=dF b;have:l.drop i=[]:=dN oM;rw[this,ixG]at y;refine J3 D J b ?_;exact i9 ⟨rfl,.inl ⟨rfl,y.symm⟩⟩
 have O:=dT b;obtain⟨x,nb,o,cs,own,el,hx,hd,rfl,hF,X,a1,u,hc,hR⟩:=hv.row (i:=i) oM;have nt:(i:Int).toNat=i:=tN i;have h:=hf i x el hx hR;rw[hd,ixG]at y;rcases z:p x with _|_
 .simp only[z,bF]at y;rw[z]at h;refine J10 E I D J b X nt u h @wrap_small ?_;exact i4 (S-1) oM ⟨i+1,oM,oM,E,I,D,rfl,rfl,y⟩
 .simp only[z,if_true]at y;rw[z]at h;refine J9 E I D J b X nt u h ?_;exact z9 ⟨rfl,.inr ⟨rfl,by rw[<-y];rfl⟩⟩
theorem xz{α:Type}(H:d8)(F:Nat->Prop)(R:LV->α->Prop)(u:Value)(p:α->Bool)(v:Value)(l:List α)(E:SlF H F 6 R v l)(S:l.length<=1048576)(O:∀(i:Nat)(x:α)(el:LV),l[i]?=some x->R el x->fC (CL prog t6) u [.agg el.toArray] ⟨H.bs,H.next⟩=some (.bool (p x),none)):
  CL prog t6 153 [v,u] H=some (.int .i64 (ixG p l 0),none):=by
 obtain⟨W,I,rfl⟩:=E.slice;have X:(⟨H.bs,H.next⟩:d8).low=H.next:=rfl;rw[j7 Jt rfl _ sM];refine J1 sU ?_;refine j8 (F:=fun z=>u5 _ _ _ (u9 (inBlock 0 z) _)=_) (Ly ⟨H.bs,H.next⟩ F R u p W I l (E.mono (fun _ _=>rfl) (fun _ h=>h) iF) S O (ixG p l 0) l.length _ _ ⟨0,rfl,oM,rfl,rfl,rfl,rfl,rfl,rfl⟩) ?_;rintro o e' H' ⟨D,⟨y,U⟩|⟨y,J⟩⟩
 .exact J3 y D U trivial
 .exact J3 y D J trivial
theorem nu{α:Type}(H:d8)(F:Nat->Prop)(R:LV->α->Prop)(u:Value)(p:α->Bool)(v:Value)(l:List α)(E:SlF H F 6 R v l)(D:l.length<=1048576)(z:∀(i:Nat)(x:α)(el:LV),l[i]?=some x->R el x->fC (CL prog t6) u [.agg el.toArray] ⟨H.bs,H.next⟩=some (.bool (p x),none)):
  CL prog t6 136 [v,u] H=some (.bool (l.any p),none):=by
 have y:=xz ⟨H.bs,H.next⟩ F R u p v l (E.mono (fun _ _=>rfl) (fun _ h=>h) iF) D z;rw[j7 OZ rfl _ sM,<-gN];exact J1 y trivial
theorem F7{H:d8}{lo k:Nat}{f:Bool}{cs:LV}{q:Q}(h:QR H lo k f cs q):cs.all oC=true:=by
 cases k with
 |zero=>exact h.elim
 |succ k=>
  cases f
  .obtain⟨_,_,_,_,rfl,_⟩:=h.path;rfl
  .obtain⟨_,_,_,_,rfl,_⟩:=h.filter;rfl
theorem N5{H:d8}{lo k:Nat}{f:Bool}{cs:LV}{q:Q}(h:QR H lo k f cs q):ldC (some true) (some cs.length) 0 cs=some (.agg cs.toArray):=by
 cases k with
 |zero=>exact h.elim
 |succ k=>
  cases f
  .obtain⟨_,_,_,_,rfl,_⟩:=h.path;rfl
  .obtain⟨_,_,_,_,rfl,_⟩:=h.filter;rfl
def pN(fn g:Nat)(f:Bool)(k:Nat):Prop:=∀(H:d8)(lo:Nat)(va vb:Value)(l m:List Q),lo<=H.next->QsR H lo k f va l->QsR H lo k f vb m->l.length<=1048576->m.length<=1048576->CL prog t6 fn [va,vb,.func (.func g) #[] #[]] H=some (.bool (decide (l.length=m.length)&&N1 l m),none)
theorem uh(k:Nat)(ih:P4 106 false k)(H0:d8)(lo:Nat)(va vb:Option Addr)(ca cb:Nat)(l m:List Q)(b9:l.length=m.length)(c0:lo<=H0.next)(hv:QsR H0 lo k false (.slice va l.length ca) l)(hw:QsR H0 lo k false (.slice vb m.length cb) m)(hn:l.length<=1048576)(r:Bool):
  ∀kk e H2,(∃i:Nat,kk=l.length-i/\i<=l.length/\e.get 1= .slice vb m.length cb/\e.get 2= .func (.func 106) #[] #[]/\e.get 15= .slice va l.length ca/\e.get 16=iV l.length/\e.get 17=iV i/\i6 H0.next H0 H2/\N1 (l.drop i) (m.drop i)=r)->
  w7 (LE prog t6 (.loop KD) e H2) (fun o e H2=>i6 H0.next H0 H2/\((o= .exit 0/\r=true)\/(o= .ret/\e.get 6= .bool false/\r=false))):=by
 refine i8 _ _ ?_;rintro kk e H2 ⟨i,hk,hi,f1,f2,J,D,O,X,S⟩;rcases b:decide ((i:Int)<l.length)with _|_
 .have b1:=dF b;have:l.drop i=[]:=dN oM;rw[this,N1]at S;refine J3 D O b ?_;exact i9 ⟨X,.inl ⟨rfl,S.symm⟩⟩
 have b1:=dT b;have c4:=X.next;obtain⟨x,nb,o,cs,own,el,hx,hd,rfl,c3,hg,b4,z,hr⟩:=hv.row (i:=i) oM;obtain⟨y,b5,o',cs',b8,h,c5,b3,rfl,b6,a6,a7,u,I⟩:=hw.row (i:=i) oM;have nt:(i:Int).toNat=i:=tN i;have b7:(i:Int)<m.length:=oM;rw[hd,b3,Y8]at S;simp only[qSz,if_true,bF]at z hg u a6 b4 a7;have e1:=hr.len;have e2:=I.len;simp only[qSz,if_true,bF]at e1 e2;have a1:el.all oC=true:=F7 hr;have a2:h.all oC=true:=F7 I;obtain⟨H3,a4,n3,g3,s3⟩:=pushP H2 (bC [iV 0,nS,nS] 1) (bC el 1);have a9:splice [iV 0,nS,nS] 0 el=el:=x9 _ _ (by rw[e1];rfl);have b0:splice [iV 0,nS,nS] 0 h=h:=x9 _ _ (by rw[e2];rfl);obtain⟨H4,a5,n4,g4,s4⟩:=pushP H3 (bC [iV 0,nS,nS] 1) (bC h 1);have a3:H4.get H2.next=cE el 1:=(s4.get _ oM).trans g3;have gx:H2.get nb=_:=(X.get _ oM).trans hg;have gy:H3.get b5=_:=(s3.get _ oM).trans ((X.get _ oM).trans a6);have U:ldC (some true) (some el.length) 0 el=some (.agg el.toArray):=N5 hr;have W:ldC (some true) (some h.length) 0 h=some (.agg h.toArray):=N5 I;rw[e1]at U;rw[e2]at W;have k4:∀j,j<lo->H4.get j=H0.get j:=fun j hj=>by rw[s4.get _ oM,s3.get _ oM,X.get _ oM]
 have E:=ih H4 lo el h x y oM (hr.mono k4 lR) (I.mono k4 lR);have a8:i6 H0.next H0 H4:=(X.trans (s3.weaken oM)).trans (s4.weaken oM);rcases b2:M6 x y with _|_
 .rw[b2]at E S;refine J24 f1 f2 J D O b gx nt z a1 e1 a9 a4.symm gy u a2 e2 b0 a5.symm a3 g4 U W E ?_;exact z9 ⟨a8,.inr ⟨rfl,rfl,by rw[<-S];rfl⟩⟩
 .rw[b2]at E S;refine J25 f1 f2 J D O b gx nt z a1 e1 a9 a4.symm gy u a2 e2 b0 a5.symm a3 g4 U W E @wrap_small ?_;exact i4 (kk-1) oM ⟨i+1,oM,oM,f1,f2,J,D,rfl,a8,S⟩
theorem DQ(k:Nat)(ih:P4 106 false k):pN 131 106 false k:=by
 intro H lo va vb l m y J O hn hm;obtain⟨S,U,rfl⟩:=J.slice;obtain⟨W,X,rfl⟩:=O.slice;have el:decide ((l.length:Int)=m.length)=decide (l.length=m.length):=decide_eq_decide.2 oM;rw[j7 Jo rfl _ sM];rcases b:decide (l.length=m.length)with _|_
 .exact J2 el b trivial
 .refine J2 el b ?_;refine j8 (F:=fun z=>u5 _ _ _ (u9 (inBlock 0 z) _)=_) (uh k ih ⟨H.bs,H.next⟩ lo S W U X l m (dT b) y (J.mono (fun _ _=>rfl) lR) (O.mono (fun _ _=>rfl) lR) hn (N1 l m) l.length _ _ ⟨0,rfl,oM,rfl,rfl,rfl,rfl,rfl,i6.refl _ _,rfl⟩) ?_;rintro o e' H' ⟨I,⟨D,E⟩|⟨D,h4,E⟩⟩
  .have h:=I.low lR;have u:H.next<=H'.low:=h;exact J2 D E trivial
  .have h:=I.low lR;have u:H.next<=H'.low:=h;exact J3 D h4 E trivial
theorem ui(k:Nat)(ih:P4 133 true k)(H0:d8)(lo:Nat)(va vb:Option Addr)(ca cb:Nat)(l m:List Q)(b9:l.length=m.length)(c0:lo<=H0.next)(hv:QsR H0 lo k true (.slice va l.length ca) l)(hw:QsR H0 lo k true (.slice vb m.length cb) m)(hn:l.length<=1048576)(r:Bool):
  ∀kk e H2,(∃i:Nat,kk=l.length-i/\i<=l.length/\e.get 1= .slice vb m.length cb/\e.get 2= .func (.func 133) #[] #[]/\e.get 15= .slice va l.length ca/\e.get 16=iV l.length/\e.get 17=iV i/\i6 H0.next H0 H2/\N1 (l.drop i) (m.drop i)=r)->
  w7 (LE prog t6 (.loop KE) e H2) (fun o e H2=>i6 H0.next H0 H2/\((o= .exit 0/\r=true)\/(o= .ret/\e.get 6= .bool false/\r=false))):=by
 refine i8 _ _ ?_;rintro kk e H2 ⟨i,hk,hi,f1,f2,J,D,O,X,S⟩;rcases b:decide ((i:Int)<l.length)with _|_
 .have b1:=dF b;have:l.drop i=[]:=dN oM;rw[this,N1]at S;refine J3 D O b ?_;exact i9 ⟨X,.inl ⟨rfl,S.symm⟩⟩
 have b1:=dT b;have c4:=X.next;obtain⟨x,nb,o,cs,own,el,hx,hd,rfl,c3,hg,b4,z,hr⟩:=hv.row (i:=i) oM;obtain⟨y,b5,o',cs',b8,h,c5,b3,rfl,b6,a6,a7,u,I⟩:=hw.row (i:=i) oM;have nt:(i:Int).toNat=i:=tN i;have b7:(i:Int)<m.length:=oM;rw[hd,b3,Y8]at S;simp only[qSz,if_true,bF]at z hg u a6 b4 a7;have e1:=hr.len;have e2:=I.len;simp only[qSz,if_true,bF]at e1 e2;have a1:el.all oC=true:=F7 hr;have a2:h.all oC=true:=F7 I;obtain⟨H3,a4,n3,g3,s3⟩:=pushP H2 (bC [iV 0,.string eB,.string eB,.string eB,nS,nS] 1) (bC el 1);have a9:splice [iV 0,.string eB,.string eB,.string eB,nS,nS] 0 el=el:=x9 _ _ (by rw[e1];rfl);have b0:splice [iV 0,.string eB,.string eB,.string eB,nS,nS] 0 h=h:=x9 _ _ (by rw[e2];rfl);obtain⟨H4,a5,n4,g4,s4⟩:=pushP H3 (bC [iV 0,.string eB,.string eB,.string eB,nS,nS] 1) (bC h 1);have a3:H4.get H2.next=cE el 1:=(s4.get _ oM).trans g3;have gx:H2.get nb=_:=(X.get _ oM).trans hg;have gy:H3.get b5=_:=(s3.get _ oM).trans ((X.get _ oM).trans a6);have U:ldC (some true) (some el.length) 0 el=some (.agg el.toArray):=N5 hr;have W:ldC (some true) (some h.length) 0 h=some (.agg h.toArray):=N5 I;rw[e1]at U;rw[e2]at W;have k4:∀j,j<lo->H4.get j=H0.get j:=fun j hj=>by rw[s4.get _ oM,s3.get _ oM,X.get _ oM]
 have E:=ih H4 lo el h x y oM (hr.mono k4 lR) (I.mono k4 lR);have a8:i6 H0.next H0 H4:=(X.trans (s3.weaken oM)).trans (s4.weaken oM);rcases b2:M6 x y with _|_
 .rw[b2]at E S;refine J24 f1 f2 J D O b gx nt z a1 e1 a9 a4.symm gy u a2 e2 b0 a5.symm a3 g4 U W E ?_;exact z9 ⟨a8,.inr ⟨rfl,rfl,by rw[<-S];rfl⟩⟩
 .rw[b2]at E S;refine J25 f1 f2 J D O b gx nt z a1 e1 a9 a4.symm gy u a2 e2 b0 a5.symm a3 g4 U W E @wrap_small ?_;exact i4 (kk-1) oM ⟨i+1,oM,oM,f1,f2,J,D,rfl,a8,S⟩
theorem DR(k:Nat)(ih:P4 133 true k):pN 132 133 true k:=by
 intro H lo va vb l m y J O hn hm;obtain⟨S,U,rfl⟩:=J.slice;obtain⟨W,X,rfl⟩:=O.slice;have el:decide ((l.length:Int)=m.length)=decide (l.length=m.length):=decide_eq_decide.2 oM;rw[j7 Jp rfl _ sM];rcases b:decide (l.length=m.length)with _|_
 .exact J2 el b trivial
 .refine J2 el b ?_;refine j8 (F:=fun z=>u5 _ _ _ (u9 (inBlock 0 z) _)=_) (ui k ih ⟨H.bs,H.next⟩ lo S W U X l m (dT b) y (J.mono (fun _ _=>rfl) lR) (O.mono (fun _ _=>rfl) lR) hn (N1 l m) l.length _ _ ⟨0,rfl,oM,rfl,rfl,rfl,rfl,rfl,i6.refl _ _,rfl⟩) ?_;rintro o e' H' ⟨I,⟨D,E⟩|⟨D,h4,E⟩⟩
  .have h:=I.low lR;have u:H.next<=H'.low:=h;exact J2 D E trivial
  .have h:=I.low lR;have u:H.next<=H'.low:=h;exact J3 D h4 E trivial
theorem II(k:Nat)(a1:pN 131 106 false k)(a2:pN 132 133 true k):P4 106 false (k+1):=by
 intro H lo c1 c2 x y a4 hx hy;obtain⟨s1,s2,s3⟩:=hx.plain rfl;obtain⟨u1,u2,u3⟩:=hy.plain rfl;obtain⟨va,W,wa,E,rfl,h1,h2,h3,h4⟩:=hx.path;obtain⟨vb,X,wb,I,rfl,k1,k2,k3,k4⟩:=hy.path;obtain⟨D,h⟩:=eY ((d8.push ⟨H.bs,H.next⟩ (bC [iV x.op,.slice va x.a.length W,.slice wa x.b.length E] 1)).push (bC [iV y.op,.slice vb y.a.length X,.slice wb y.b.length I] 1));have hS:i6 H.next H D:=by rw[h];exact(i6.first H _).trans (i6.push (by rw[i5];show H.next<=H.next+1;omega))
 have u:D.get H.next=cE [iV x.op,.slice va x.a.length W,.slice wa x.b.length E] 1:=by rw[h,i7 (by rw[i5];show H.next<H.next+1;omega)];exact j9
 have z:D.get (H.next+1)=cE [iV y.op,.slice vb y.a.length X,.slice wb y.b.length I] 1:=by rw[h];exact y7 (by rw[i5];show H.next+1<=H.next+1/\H.next+1<=H.next+1;omega)
 have a3:H.next<=D.low:=by rw[h,l9,l9];exact lR
 have hn:=hS.next;have S:∀j,j<lo->D.get j=H.get j:=fun j hj=>hS.get j oM;have J:=a1 D lo (.slice va x.a.length W) (.slice vb y.a.length X) x.a y.a oM (h1.mono S lR) (k1.mono S lR) h3 k3;have e2:=a2 D lo (.slice wa x.b.length E) (.slice wb y.b.length I) x.b y.b oM (h2.mono S lR) (k2.mono S lR) h4 k4;rw[j7 OH rfl _ sM,gB];have p1:(decide (x.sp=y.sp)&&decide (x.lc=y.lc))=true:=by rw[s1,s2,u1,u2];rfl
 have p2:decide (x.vl=y.vl)=true:=by rw[s3,u3];rfl
 rw[p1,p2];rcases O:decide (x.op=y.op)with _|_
 .exact J4 h.symm u z O trivial
 rcases U:decide (x.a.length=y.a.length)with _|_
 .rw[U]at J;exact J5 h.symm u z O J trivial
 rcases b5:N1 x.a y.a with _|_
 .rw[U,b5]at J;exact J5 h.symm u z O J trivial
 rw[U,b5]at J;exact J6 h.symm u z O J e2 trivial
theorem IK(k:Nat)(a1:pN 132 133 true k)(a2:pN 131 106 false k):P4 133 true (k+1):=by
 intro H lo c1 c2 x y a4 hx hy;obtain⟨va,W,wa,E,rfl,h1,h2,h3,h4,_⟩:=hx.filter;obtain⟨vb,X,wb,I,rfl,k1,k2,k3,k4,_⟩:=hy.filter;obtain⟨D,h⟩:=eY ((d8.push ⟨H.bs,H.next⟩ (bC [iV x.op,.string x.sp,.string x.lc,.string x.vl,.slice va x.a.length W,.slice wa x.b.length E] 1)).push (bC [iV y.op,.string y.sp,.string y.lc,.string y.vl,.slice vb y.a.length X,.slice wb y.b.length I] 1));have hS:i6 H.next H D:=by rw[h];exact(i6.first H _).trans (i6.push (by rw[i5];show H.next<=H.next+1;omega))
 have u:D.get H.next=cE [iV x.op,.string x.sp,.string x.lc,.string x.vl,.slice va x.a.length W,.slice wa x.b.length E] 1:=by rw[h,i7 (by rw[i5];show H.next<H.next+1;omega)];exact j9
 have z:D.get (H.next+1)=cE [iV y.op,.string y.sp,.string y.lc,.string y.vl,.slice vb y.a.length X,.slice wb y.b.length I] 1:=by rw[h];exact y7 (by rw[i5];show H.next+1<=H.next+1/\H.next+1<=H.next+1;omega)
 have a3:H.next<=D.low:=by rw[h,l9,l9];exact lR
 have hn:=hS.next;have S:∀j,j<lo->D.get j=H.get j:=fun j hj=>hS.get j oM;have O:=a1 D lo (.slice va x.a.length W) (.slice vb y.a.length X) x.a y.a oM (h1.mono S lR) (k1.mono S lR) h3 k3;have e2:=a2 D lo (.slice wa x.b.length E) (.slice wb y.b.length I) x.b y.b oM (h2.mono S lR) (k2.mono S lR) h4 k4;rw[j7 OX rfl _ sM,gB];rcases J:decide (x.op=y.op)with _|_
 .exact J4 h.symm u z J trivial
 rcases p1:(decide (x.sp=y.sp)&&decide (x.lc=y.lc))with _|_
 .exact J5 h.symm u z J p1 trivial
 rcases p2:decide (x.vl=y.vl)with _|_
 .exact J6 h.symm u z J p1 p2 trivial
 rcases U:decide (x.a.length=y.a.length)with _|_
 .rw[U]at O;exact J7 h.symm u z J p1 p2 O trivial
 rcases b5:N1 x.a y.a with _|_
 .rw[U,b5]at O;exact J7 h.symm u z J p1 p2 O trivial
 rw[U,b5]at O;exact J8 h.symm u z J p1 p2 O e2 trivial
theorem im:∀k,P4 106 false k/\P4 133 true k:=by
 intro k;induction k with
 |zero=>exact⟨fun H lo c1 c2 x y u z D=>z.elim,fun H lo c1 c2 x y u z D=>z.elim⟩
 |succ k h=>exact⟨II k (DQ k h.1) (DR k h.2),IK k (DR k h.2) (DQ k h.1)⟩
def Pu:=nfF 60 Tryz.f60 []
abbrev NN:t7:=ptA Pu [1,1,1,0,1,0,0]
def La:=nfF 82 Tryz.f82 [0]
abbrev Og:t7:=ptA La [1,0,1,0,0]
abbrev Oh:t7:=ptA La [1,1,1,0,0]
def Pf:=nfF 149 Tryz.f149 []
end Go.Proofs.YtofbhlhamfkljaaGreatDoor.Ve
namespace Go.Proofs.YtofbhlhamfkljaaGreatDoor.Ve
open Go Go.RowKit
theorem ng(H:d8)(b:Nat)(B:Blk)(j:Nat):(H.put b B).get j=if j=b then(if j<H.next then some B else none) else H.get j:=by
 by_cases h:j=b
 .subst h;rw[if_pos rfl];by_cases u:j<H.next
  .rw[if_pos u,j5 u]
  .rw[if_neg u];have:(H.put j B).next<=j:=by rw[t5];omega
   exact List.getElem?_eq_none this
 .rw[if_neg h,j6 (fun q=>h q.symm)]
theorem kO(H:d8)(B:Blk)(j:Nat):(H.push B).get j=if j=H.next then some B else H.get j:=by
 by_cases h:j=H.next
 .subst h;rw[if_pos rfl];exact j9
 .rw[if_neg h];by_cases D:j<H.next
  .exact i7 D
  .have u:(H.push B).next<=j:=by rw[i5];omega
   have y:H.next<=j:=oM;have z:(H.push B).get j=none:=List.getElem?_eq_none u;have E:H.get j=none:=List.getElem?_eq_none y;rw[z,E]
theorem uB{H K:d8}(h:H.low=K.low)(u:∀j,H.get j=K.get j):H=K:=by
 obtain⟨a,b⟩:=H;obtain⟨c,d⟩:=K;simp only at h;subst h
 congr 1
 exact List.ext_getElem? u
def aU(w:Value)(H:d8):d8:=
 match w with
 | .slice (some a) n c=>if c=n then H else H.put a.block .dead
 |_=>H
theorem Y6(w:Value)(H:d8):(aU w H).next=H.next:=by
 unfold aU;split
 .split
  .rfl
  .rw[t5]
 .rfl
theorem mz{P:Program}{t e:TypeId}{bytes lo sz n k:Nat}{z cs el:LV}{H:d8}{w:Value}{a:Option Addr}(X:P.underlying t=some (.slice e))(hs:D8 P e=some sz)(I:V0 P e=some bytes)(O:O9 P e=some z)(h0:0<sz)(h1:0<bytes)
  (h:cg H lo sz w n cs) (hx:A5 H sz (.slice a 1 k)=some el) (J:(n+1)*bytes<=140737488355328):
  C2 P H [t,t] w (.slice a 1 k)=some (.slice (some ⟨H.next,0,none⟩) (n+1) (n+1+1),some ((aU w H).push (.cells (cs++el) true sz))):=by
 have D:I5 P t=some e:=by simp [I5,X]
 have u:aY P H sz (some t) (.slice a 1 k)=some (1,el):=by
  simp only[aY,Option.bind_some,X,hx,Option.map_some]
 have y:¬(sz=0\/bytes=0):=oM;rcases h with⟨rfl,rfl,rfl⟩|⟨b,c,rfl,U,a1,W⟩
 .simp only[C2,List.head?_cons,Option.bind_some,D,hs,I,O,List.getElem?_cons_succ,List.getElem?_cons_zero,if_neg y,u,aU];rw[if_neg oM,if_pos (by simpa using J)];simp
 .have E:((cs.drop 0).take (n*sz))=cs:=by rw[List.drop_zero,List.take_of_length_le oM]
  by_cases S:c=n
  .simp only[C2,List.head?_cons,Option.bind_some,D,hs,I,O,List.getElem?_cons_succ,List.getElem?_cons_zero,if_neg y,u,U,E,aU,if_pos S];rw[if_neg oM,if_pos J,if_pos (by simp;omega)]
  .simp only[C2,List.head?_cons,Option.bind_some,D,hs,I,O,List.getElem?_cons_succ,List.getElem?_cons_zero,if_neg y,u,U,E,aU,if_neg S];rw[if_neg oM,if_pos J,if_pos (by simp;omega),if_pos trivial]
theorem AJ(H:d8)(w:Value)(h:Nat)(z c1 c2 D E B1 I N:Blk)(S:h<H.next)(U:∀b,l7 w b->b<H.next/\b≠h) (hs:∀a n c,w= .slice (some a) n c->l7 w a.block):
  N4 H.next (((aU w ((((H.push z).put H.next c1).put H.next c2).push D)).push B1).put h N)=N4 H.next ((((aU w ((((H.push z).put H.next c2).put H.next c1).push E)).push I).put h N).put (H.next+2) B1):=by
 have key:(aU w=fun H=>H)\/∃b,b<H.next/\b≠h/\aU w=fun H=>H.put b .dead:=by
  cases w with
  |slice a n c=>
   cases a with
   |none=>left;rfl
   |some a=>
    by_cases y:c=n
    .left;funext H;simp [aU,y]
    .right
     have:=U _ (hs a n c rfl);exact⟨a.block,this.1,this.2,by funext H;simp [aU,y]⟩
  |_=>left;rfl
 rcases key with u|⟨b,J,O,u⟩
 .rw[u];refine uB ?_ fun j=>?_
  .simp only[N4,A4,l9];omega
  .simp only[N4,ng,kO,t5,i5]
   repeat' split
   all_goals first|rfl|omega
 .rw[u];refine uB ?_ fun j=>?_
  .simp only[N4,A4,l9];omega
  .simp only[N4,ng,kO,t5,i5]
   repeat' split
   all_goals first|rfl|omega
end Go.Proofs.YtofbhlhamfkljaaGreatDoor.Ve
namespace Go.Proofs.YtofbhlhamfkljaaGreatDoor.Ve
open Go Go.RowKit
open Go.Proofs.Tryz (prog)
theorem QR.upTo{H:d8}{lo k:Nat}{f:Bool}{cs:LV}{q:Q}(h:QR H lo k f cs q):∀{K:Nat},k<=K->QR H lo K f cs q:=by
 intro K;induction K with
 |zero=>
  intro z;have u:k=0:=oM;subst u;exact h
 |succ K E=>
  intro z;by_cases D:k<=K
  .exact(E D).up
  .have y:k=K+1:=oM;subst y;exact h
def bR(acc:List Q)(x:Q):List Q:=if acc.any (fun y=>M6 x y) then acc else acc++[x]
theorem Qb(k:Nat)(H:d8)(lo W:Nat)(h el:LV)(x y:Q)(a2:lo<=H.next)(X:H.get W=cE h 1)(U:QR H lo k false h x)(I:QR H lo k false el y):
  CL prog t6 105 [.agg el.toArray,pT W] H=some (.bool (M6 x y),none):=by
 have a0:el.all oC=true:=F7 I;have u:=N5 U;have z:=N5 I;rw[U.len]at u;rw[I.len]at z;simp only[qSz,bF]at u z;obtain⟨J,D,-,g1,E⟩:=pushF H (bC el 1);have n1:=E.next;have S:=u7 X;have gx:J.get W=cE h 1:=(E.get _ S).trans X;have a1:H.next<=J.low:=by rw[D,l9];exact lR
 have O:=(im k).1 J lo h el x y oM (U.mono (fun j hj=>E.get j oM) lR) (I.mono (fun j hj=>E.get j oM) lR);rw[j7 OG rfl _ sM];exact J7 a0 D.symm g1 gx u z O trivial
structure gZ(lo K pm:Nat)(w0:Value)(acc0:List Q)(H0 H:d8)(acc:List Q):Prop where
 ex:∃w,H.get pm=cE [w] 1/\u6 H (pm+1) 3 (QR H0 lo K false) w acc/\((acc=acc0/\w=w0)\/H.low<=pm)/\(∀j,j<H0.next->j≠pm->¬l7 w0 j->H.get j=H0.get j)/\(∀b,l7 w b->l7 w0 b\/H0.next<=b)
 stay:i6 pm H0 H
def fk(fn:Nat)(f:Bool)(k:Nat):Prop:=∀(H:d8)(lo pm K:Nat)(w:Value)(acc:List Q)(cs:LV)(q:Q),k<=K->lo<=pm->H.get pm=cE [w] 1->u6 H (pm+1) 3 (QR H lo K false) w acc->QR H lo k f cs q->OkD f q->acc.length+nQ q<=100000->
 Ret (CL prog t6 fn [pT pm,.agg cs.toArray] H) H fun v H1=>v=undef/\gZ lo K pm w acc H H1 ((inQ f q).foldl bR acc)/\H1.low<=H.low
theorem cV(l:List Q):∀h:List Q,(l.foldl bR h).length<=h.length+l.length:=by
 induction l with
 |nil=>intro h;simp
 |cons x l u=>
  intro h;have:=u (bR h x);rw[List.foldl_cons,List.length_cons];have y:(bR h x).length<=h.length+1:=by unfold bR;split<;>simp
  omega
theorem ny(f:Bool)(l:List Q)(i:Nat)(x:Q)(h:l.drop i=x::l.drop (i+1)):inL f (l.drop i)=inQ f x++inL f (l.drop (i+1)):=by rw[h,inL]
theorem LN(k:Nat)(ih:fk 58 false k)(H0:d8)(lo I K:Nat)(hk:k<=K)(b6:lo<=I)(w0:Value)(y:List Q)(va:Option Addr)(ca:Nat)(l:List Q)(hv:QsR H0 lo k false (.slice va l.length ca) l)(hn:l.length<=1048576)(hw:∀x∈l,OkD false x) (p3:Value) (a7:List Q):
  ∀kk e H2,(∃(i:Nat)(u:List Q),kk=l.length-i/\i<=l.length/\e.get 0=pT I/\e.get 3=p3/\e.get 9= .slice va l.length ca/\e.get 10=iV l.length/\e.get 11=iV i/\gZ lo K I w0 y H0 H2 u/\u.length+nL (l.drop i)<=100000/\(inL false (l.drop i)).foldl bR u=a7)->
  w7 (LE prog t6 (.loop NL) e H2) (fun o e H2=>o= .exit 0/\e.get 0=pT I/\e.get 3=p3/\gZ lo K I w0 y H0 H2 a7):=by
 refine i8 _ _ ?_;rintro kk e H2 ⟨i,u,c3,hi,f0,f3,fL,fM,fJ,hM,z,fu⟩;rcases b:decide ((i:Int)<l.length)with _|_
 .have b1:=dF b;have:l.drop i=[]:=dN oM;rw[this,inL,List.foldl_nil]at fu;refine J3 fM fJ b ?_;exact i9 ⟨rfl,f0,f3,by rw[<-fu];exact hM⟩
 have b1:=dT b;obtain⟨⟨w,a2,hO,b7,X,D⟩,hS⟩:=hM;have c6:=hS.next;have c7:=u7 a2;obtain⟨x,nb,o,cs,own,el,hx,hd,rfl,c5,hg,b5,E,hr⟩:=hv.row (i:=i) oM;have a4:=mG hx;have nt:(i:Int).toNat=i:=tN i;simp only[qSz,if_true,bF]at E hg b5;rw[ny _ _ _ _ hd,List.foldl_append]at fu;have b3:u.length+(nQ x+nL (l.drop (i+1)))<=100000:=by rw[hd,nL]at z;exact z
 have a1:el.all oC=true:=F7 hr;have e1:=hr.len;simp only[qSz,if_true,bF]at e1;have a5:=N5 hr;rw[e1]at a5;have gx:=(hS.get nb oM).trans hg;obtain⟨H3,W,n3,g3,s3⟩:=pushP H2 (bC [iV 0,nS,nS] 1) (bC el 1);have l3:H3.low<=H2.low:=by rw[W,A4,l9];omega
 have b8:splice [iV 0,nS,nS] 0 el=el:=x9 _ _ (by rw[e1];rfl);have J:∀j,j<lo->H3.get j=H0.get j:=fun j hj=>by rw[s3.get j oM,hS.get j oM]
 have b9:∀{cs:LV}{q:Q},QR H3 lo K false cs q->QR H0 lo K false cs q:=fun h=>h.mono (fun j hj=>(J j hj).symm) lR;obtain⟨v4,h4,H4,b2,b4,rfl,⟨⟨w4,a8,a9,a3,O,S⟩,b0⟩,c4⟩:=ih H3 lo I K w u el x hk b6 ((s3.get I oM).trans a2) ((hO.keep s3).imp fun cs q h=>h.mono J lR) (hr.mono J lR) (hw x a4) oM;have U:∀j,j<H0.next->j≠I->¬l7 w0 j->H4.get j=H0.get j:=fun j hj h1 h2=>by
  rw[O j oM h1 (fun q=>by rcases D j q with r|r;exact h2 r;omega),s3.get j oM,X j hj h1 h2]
 have a6:∀b,l7 w4 b->l7 w0 b\/H0.next<=b:=fun b hb=>by
  rcases S b hb with r|r
  .exact D b r
  .exact .inr oM
 have hl:=cV (inQ false x) u;have c0:=(bS _ false x lR (hw x a4)).1;refine J17 f0 fL fM fJ b gx nt E a1 e1 b8 W.symm g3 a5 b2 b4 @wrap_small ?_;refine i4 (kk-1) oM ⟨i+1,_,oM,oM,f0,f3,fL,fM,rfl,⟨⟨w4,a8,a9.imp fun cs q h=>b9 h,?_,U,a6⟩,(hS.trans (s3.weaken oM)).trans b0⟩,oM,fu⟩;rcases a3 with⟨q1,q2⟩|q
 .rcases b7 with⟨q3,q4⟩|q
  .exact .inl ⟨by rw[q1,q3],by rw[q2,q4]⟩
  .exact .inr oM
 .exact .inr q
theorem LO(k:Nat)(ih:fk 82 true k)(H0:d8)(lo I K:Nat)(hk:k<=K)(b6:lo<=I)(w0:Value)(y:List Q)(va:Option Addr)(ca:Nat)(l:List Q)(hv:QsR H0 lo k true (.slice va l.length ca) l)(hn:l.length<=1048576)(hw:∀x∈l,OkD true x) (p3:Value) (a7:List Q):
  ∀kk e H2,(∃(i:Nat)(u:List Q),kk=l.length-i/\i<=l.length/\e.get 0=pT I/\e.get 3=p3/\e.get 20= .slice va l.length ca/\e.get 21=iV l.length/\e.get 22=iV i/\gZ lo K I w0 y H0 H2 u/\u.length+nL (l.drop i)<=100000/\(inL true (l.drop i)).foldl bR u=a7)->
  w7 (LE prog t6 (.loop NM) e H2) (fun o e H2=>o= .exit 2/\e.get 0=pT I/\e.get 3=p3/\gZ lo K I w0 y H0 H2 a7):=by
 refine i8 _ _ ?_;rintro kk e H2 ⟨i,u,c3,hi,f0,f3,fL,fM,fJ,hM,z,fu⟩;rcases b:decide ((i:Int)<l.length)with _|_
 .have b1:=dF b;have:l.drop i=[]:=dN oM;rw[this,inL,List.foldl_nil]at fu;refine J3 fM fJ b ?_;exact i9 ⟨rfl,f0,f3,by rw[<-fu];exact hM⟩
 have b1:=dT b;obtain⟨⟨w,a2,hO,b7,X,D⟩,hS⟩:=hM;have c6:=hS.next;have c7:=u7 a2;obtain⟨x,nb,o,cs,own,el,hx,hd,rfl,c5,hg,b5,E,hr⟩:=hv.row (i:=i) oM;have a4:=mG hx;have nt:(i:Int).toNat=i:=tN i;simp only[qSz,if_true,bF]at E hg b5;rw[ny _ _ _ _ hd,List.foldl_append]at fu;have b3:u.length+(nQ x+nL (l.drop (i+1)))<=100000:=by rw[hd,nL]at z;exact z
 have a1:el.all oC=true:=F7 hr;have e1:=hr.len;simp only[qSz,if_true,bF]at e1;have a5:=N5 hr;rw[e1]at a5;have gx:=(hS.get nb oM).trans hg;obtain⟨H3,W,n3,g3,s3⟩:=pushP H2 (bC [iV 0,.string eB,.string eB,.string eB,nS,nS] 1) (bC el 1);have l3:H3.low<=H2.low:=by rw[W,A4,l9];omega
 have b8:splice [iV 0,.string eB,.string eB,.string eB,nS,nS] 0 el=el:=x9 _ _ (by rw[e1];rfl);have J:∀j,j<lo->H3.get j=H0.get j:=fun j hj=>by rw[s3.get j oM,hS.get j oM]
 have b9:∀{cs:LV}{q:Q},QR H3 lo K false cs q->QR H0 lo K false cs q:=fun h=>h.mono (fun j hj=>(J j hj).symm) lR;obtain⟨v4,h4,H4,b2,b4,rfl,⟨⟨w4,a8,a9,a3,O,S⟩,b0⟩,c4⟩:=ih H3 lo I K w u el x hk b6 ((s3.get I oM).trans a2) ((hO.keep s3).imp fun cs q h=>h.mono J lR) (hr.mono J lR) (hw x a4) oM;have U:∀j,j<H0.next->j≠I->¬l7 w0 j->H4.get j=H0.get j:=fun j hj h1 h2=>by
  rw[O j oM h1 (fun q=>by rcases D j q with r|r;exact h2 r;omega),s3.get j oM,X j hj h1 h2]
 have a6:∀b,l7 w4 b->l7 w0 b\/H0.next<=b:=fun b hb=>by
  rcases S b hb with r|r
  .exact D b r
  .exact .inr oM
 have hl:=cV (inQ true x) u;have c0:=(bS _ true x lR (hw x a4)).1;refine J17 f0 fL fM fJ b gx nt E a1 e1 b8 W.symm g3 a5 b2 b4 @wrap_small ?_;refine i4 (kk-1) oM ⟨i+1,_,oM,oM,f0,f3,fL,fM,rfl,⟨⟨w4,a8,a9.imp fun cs q h=>b9 h,?_,U,a6⟩,(hS.trans (s3.weaken oM)).trans b0⟩,oM,fu⟩;rcases a3 with⟨q1,q2⟩|q
 .rcases b7 with⟨q3,q4⟩|q
  .exact .inl ⟨by rw[q1,q3],by rw[q2,q4]⟩
  .exact .inr oM
 .exact .inr q
theorem LP(k:Nat)(ih:fk 82 true k)(H0:d8)(lo I K:Nat)(hk:k<=K)(b6:lo<=I)(w0:Value)(y:List Q)(va:Option Addr)(ca:Nat)(l:List Q)(hv:QsR H0 lo k true (.slice va l.length ca) l)(hn:l.length<=1048576)(hw:∀x∈l,OkD true x) (p3:Value) (a7:List Q):
  ∀kk e H2,(∃(i:Nat)(u:List Q),kk=l.length-i/\i<=l.length/\e.get 0=pT I/\e.get 3=p3/\e.get 9= .slice va l.length ca/\e.get 10=iV l.length/\e.get 11=iV i/\gZ lo K I w0 y H0 H2 u/\u.length+nL (l.drop i)<=100000/\(inL true (l.drop i)).foldl bR u=a7)->
  w7 (LE prog t6 (.loop Og) e H2) (fun o e H2=>o= .exit 0/\e.get 0=pT I/\e.get 3=p3/\gZ lo K I w0 y H0 H2 a7):=by
 refine i8 _ _ ?_;rintro kk e H2 ⟨i,u,c3,hi,f0,f3,fL,fM,fJ,hM,z,fu⟩;rcases b:decide ((i:Int)<l.length)with _|_
 .have b1:=dF b;have:l.drop i=[]:=dN oM;rw[this,inL,List.foldl_nil]at fu;refine J3 fM fJ b ?_;exact i9 ⟨rfl,f0,f3,by rw[<-fu];exact hM⟩
 have b1:=dT b;obtain⟨⟨w,a2,hO,b7,X,D⟩,hS⟩:=hM;have c6:=hS.next;have c7:=u7 a2;obtain⟨x,nb,o,cs,own,el,hx,hd,rfl,c5,hg,b5,E,hr⟩:=hv.row (i:=i) oM;have a4:=mG hx;have nt:(i:Int).toNat=i:=tN i;simp only[qSz,if_true,bF]at E hg b5;rw[ny _ _ _ _ hd,List.foldl_append]at fu;have b3:u.length+(nQ x+nL (l.drop (i+1)))<=100000:=by rw[hd,nL]at z;exact z
 have a1:el.all oC=true:=F7 hr;have e1:=hr.len;simp only[qSz,if_true,bF]at e1;have a5:=N5 hr;rw[e1]at a5;have gx:=(hS.get nb oM).trans hg;obtain⟨H3,W,n3,g3,s3⟩:=pushP H2 (bC [iV 0,.string eB,.string eB,.string eB,nS,nS] 1) (bC el 1);have l3:H3.low<=H2.low:=by rw[W,A4,l9];omega
 have b8:splice [iV 0,.string eB,.string eB,.string eB,nS,nS] 0 el=el:=x9 _ _ (by rw[e1];rfl);have J:∀j,j<lo->H3.get j=H0.get j:=fun j hj=>by rw[s3.get j oM,hS.get j oM]
 have b9:∀{cs:LV}{q:Q},QR H3 lo K false cs q->QR H0 lo K false cs q:=fun h=>h.mono (fun j hj=>(J j hj).symm) lR;obtain⟨v4,h4,H4,b2,b4,rfl,⟨⟨w4,a8,a9,a3,O,S⟩,b0⟩,c4⟩:=ih H3 lo I K w u el x hk b6 ((s3.get I oM).trans a2) ((hO.keep s3).imp fun cs q h=>h.mono J lR) (hr.mono J lR) (hw x a4) oM;have U:∀j,j<H0.next->j≠I->¬l7 w0 j->H4.get j=H0.get j:=fun j hj h1 h2=>by
  rw[O j oM h1 (fun q=>by rcases D j q with r|r;exact h2 r;omega),s3.get j oM,X j hj h1 h2]
 have a6:∀b,l7 w4 b->l7 w0 b\/H0.next<=b:=fun b hb=>by
  rcases S b hb with r|r
  .exact D b r
  .exact .inr oM
 have hl:=cV (inQ true x) u;have c0:=(bS _ true x lR (hw x a4)).1;refine J17 f0 fL fM fJ b gx nt E a1 e1 b8 W.symm g3 a5 b2 b4 @wrap_small ?_;refine i4 (kk-1) oM ⟨i+1,_,oM,oM,f0,f3,fL,fM,rfl,⟨⟨w4,a8,a9.imp fun cs q h=>b9 h,?_,U,a6⟩,(hS.trans (s3.weaken oM)).trans b0⟩,oM,fu⟩;rcases a3 with⟨q1,q2⟩|q
 .rcases b7 with⟨q3,q4⟩|q
  .exact .inl ⟨by rw[q1,q3],by rw[q2,q4]⟩
  .exact .inr oM
 .exact .inr q
def inB(l:List Q):List Q:=l.flatMap fun x=>inQ false x++[x]
theorem vB(cs:LV)(x y z a b c:Value):splice (cs++[x,y,z]) cs.length [a,b,c]=cs++[a,b,c]:=by
 simp only[splice];rw[List.set_append_right _ _ oM,List.set_append_right _ _ oM,List.set_append_right _ _ oM];rw[show cs.length-cs.length=0 from oM,show cs.length+1-cs.length=1 from oM,show cs.length+1+1-cs.length=2 from oM];rfl
theorem LQ(k:Nat)(ih:fk 58 false k)(H0:d8)(lo D K:Nat)(hk:k<=K)(k5:lo<=D)(w0:Value)(a5:List Q)(va:Option Addr)(ca:Nat)(l:List Q)(hv:QsR H0 lo k false (.slice va l.length ca) l)(hn:l.length<=1048576)(hw:∀x∈l,OkD false x) (h9:List Q):
  ∀kk e H2,(∃(i:Nat)(U:List Q),kk=l.length-i/\i<=l.length/\e.get 0=pT D/\e.get 20= .slice va l.length ca/\e.get 21=iV l.length/\e.get 22=iV i/\gZ lo K D w0 a5 H0 H2 U/\U.length+nL (l.drop i)<=100000/\(inB (l.drop i)).foldl bR U=h9)->
  w7 (LE prog t6 (.loop Oh) e H2) (fun o e H2=>o= .exit 2/\gZ lo K D w0 a5 H0 H2 h9):=by
 refine i8 _ _ ?_;rintro kk e H2 ⟨i,U,m7,hi,f0,fL,fM,fJ,hM,c6,fu⟩;rcases b:decide ((i:Int)<l.length)with _|_
 .have k0:=dF b;have:l.drop i=[]:=dN oM;rw[this,inB,List.flatMap_nil,List.foldl_nil]at fu;refine J3 fM fJ b ?_;exact i9 ⟨rfl,by rw[<-fu];exact hM⟩
 have k0:=dT b;obtain⟨⟨w,g7,hO,k6,g2,c7⟩,hS⟩:=hM;have n0:=hS.next;have n1:=u7 g7;obtain⟨x,nb,o,cs,own,el,hx,hd,rfl,m9,hg,k3,b6,hr⟩:=hv.row (i:=i) oM;have h5:=mG hx;have nt:(i:Int).toNat=i:=tN i;simp only[qSz,if_true,bF]at b6 hg k3;rw[hd,inB,List.flatMap_cons,List.foldl_append,List.foldl_append,List.foldl_cons,List.foldl_nil]at fu;have k1:U.length+(nQ x+nL (l.drop (i+1)))<=100000:=by rw[hd,nL]at c6;exact c6
 have a1:el.all oC=true:=F7 hr;have e1:=hr.len;simp only[qSz,if_true,bF]at e1;have d9:=N5 hr;rw[e1]at d9;have gx:=(hS.get nb oM).trans hg;obtain⟨H3,d3,n3,g3,s3⟩:=pushP H2 (bC [iV 0,nS,nS] 1) (bC el 1);have l3:H3.low<=H2.low:=by rw[d3,A4,l9];omega
 have i0:splice [iV 0,nS,nS] 0 el=el:=x9 _ _ (by rw[e1];rfl);have b7:∀j,j<lo->H3.get j=H0.get j:=fun j S=>by rw[s3.get j oM,hS.get j oM]
 have m1:∀{cs:LV}{q:Q},QR H3 lo K false cs q->QR H0 lo K false cs q:=fun h=>h.mono (fun j S=>(b7 j S).symm) lR;obtain⟨v4,h4,z,g5,g6,rfl,⟨⟨w4,O,f9,c8,b4,b5⟩,d4⟩,m8⟩:=ih H3 lo D K w U el x hk k5 ((s3.get D oM).trans g7) ((hO.keep s3).imp fun cs q h=>h.mono b7 lR) (hr.mono b7 lR) (hw x h5) oM;have c3:∀j,j<H0.next->j≠D->¬l7 w0 j->z.get j=H0.get j:=fun j S h1 h2=>by
  rw[b4 j oM h1 (fun q=>by rcases c7 j q with r|r;exact h2 r;omega),s3.get j oM,g2 j S h1 h2]
 have c9:∀b,l7 w4 b->l7 w0 b\/H0.next<=b:=fun b hb=>by
  rcases b5 b hb with r|r
  .exact c7 b r
  .exact .inr oM
 have hl:=cV (inQ false x) U;have m6:=(bS _ false x lR (hw x h5)).1;obtain⟨u,d5⟩:=eY ((inQ false x).foldl bR U);rw[<-d5]at fu f9 c8 hl;have n4:=d4.next;have g4:z.get H2.next=cE el 1:=(b4 _ oM oM (fun q=>by have:=hO.lt q;omega)).trans g3;have e7:∀j,j<lo->z.get j=H0.get j:=fun j S=>by rw[d4.get j oM,b7 j S]
 have E:u6 z (D+1) 3 (QR H0 lo K false) w4 u:=f9.imp fun cs q h=>m1 h;have g9:(u=a5/\w4=w0)\/z.low<=D:=by
  rcases c8 with⟨q1,q2⟩|q
  .rcases k6 with⟨q3,q4⟩|q
   .exact .inl ⟨by rw[q1,q3],by rw[q2,q4]⟩
   .exact .inr oM
  .exact .inr q
 have c5:=(hS.trans (s3.weaken oM)).trans d4;obtain⟨a4,c4,e8⟩:=E.slice;have X:=nj (α:=Q) z (· <z.next) (QR z lo K false) (.func (.func 105) #[] #[pT H2.next]) (fun y=>M6 x y) w4 u ((E.frz fun b hb=>(E.lt hb).2).mono (fun _ _=>rfl) (fun _ h=>h) (fun _ _ h=>h.mono e7 lR)) oM (fun i y i1 hy k7=>Qb K _ lo H2.next el i1 x y (show lo<=z.next from oM) g4 ((hr.upTo hk).mono (H':=⟨z.bs,z.next⟩) (fun j S=>e7 j S) lR) (k7.mono (H:=z) (H':=⟨z.bs,z.next⟩) (fun _ _=>rfl) lR));rcases b2:u.any (fun y=>M6 x y)with _|_
 .rw[b2]at X;have b3:bR u x=u++[x]:=by rw[bR,b2];rfl
  rw[b3]at fu;have g0:=E;obtain⟨J,d2,g1⟩:=g0;obtain⟨K0,b0⟩:=eY (((z.push (bC [.bool false] 1)).put z.next (bC [.bool true] 1)).put z.next (bC [.bool false] 1));obtain⟨J0,a6⟩:=eY (((z.push (bC [.bool false] 1)).put z.next (bC [.bool false] 1)).put z.next (bC [.bool true] 1));have l1:K0.next=z.next+1:=by rw[b0,t5,t5,i5]
  have k8:J0.next=z.next+1:=by rw[a6,t5,t5,i5]
  have e5:i6 z.next z K0:=by rw[b0];exact((i6.push lR).trans (i6.put lR)).trans (i6.put lR)
  have e4:i6 z.next z J0:=by rw[a6];exact((i6.push lR).trans (i6.put lR)).trans (i6.put lR)
  have i3:K0.get z.next=cE [.bool false] 1:=by rw[b0];exact j5 (by rw[t5,i5];omega)
  have i2:J0.get z.next=cE [.bool true] 1:=by rw[a6];exact j5 (by rw[t5,i5];omega)
  have I:=u7 O;have f2:=(e5.get D I).trans O;have e9:=(e4.get D I).trans O;have f7:=(e5.get H2.next oM).trans g4;have m3:=(e4.get H2.next oM).trans g4;obtain⟨K1,b1⟩:=eY (K0.push (bC el 3));obtain⟨J1,a7⟩:=eY (J0.push (bC [iV 0,nS,nS] 3));have e3:K1.next=z.next+2:=by rw[b1,i5,l1]
  have e2:J1.next=z.next+2:=by rw[a7,i5,k8]
  have c0:i6 z.next z K1:=by rw[b1];exact e5.trans (i6.push oM)
  have b9:i6 z.next z J1:=by rw[a7];exact e4.trans (i6.push oM)
  have f3:=(c0.get D I).trans O;have m2:=(b9.get D I).trans O;have m4:=(b9.get H2.next oM).trans g4;have l8:A5 K1 3 (sL K0.next 1 1)=some el:=by
   have:K1.get K0.next=cE el 3:=by rw[b1];exact j9
   simp only[A5,this,e1];simp [List.take_of_length_le (by omega:el.length<=3)]
  have l6:A5 J1 3 (sL J0.next 1 1)=some [iV 0,nS,nS]:=by
   have:J1.get J0.next=cE [iV 0,nS,nS] 3:=by rw[a7];exact j9
   simp only[A5,this];simp
  have d1:=mz (P:=prog) (t:=22) (by exact lP.2.2.2.2.2.2) aq.1 aq.2.1 aq.2.2.1 oM oM (d2.mono (H':=K1) lR (fun j S=>c0.get j S)) l8 oM;have d0:=mz (P:=prog) (t:=22) (by exact lP.2.2.2.2.2.2) aq.1 aq.2.1 aq.2.2.1 oM oM (d2.mono (H':=J1) lR (fun j S=>b9.get j S)) l6 oM;obtain⟨K2,a3⟩:=eY ((aU w4 K1).push (bC (J++el) 3));obtain⟨J2,a8⟩:=eY ((aU w4 J1).push (bC (J++[iV 0,nS,nS]) 3));rw[<-a3,e3]at d1;rw[<-a8,e2]at d0;have a2:J.length=u.length*3:=g1.1;have h3:∀b,l7 w4 b->b<z.next/\b≠D:=fun b hb=>oN (E.lt hb);have d7:∀a n c,w4= .slice (some a) n c->l7 w4 a.block:=fun a n c h=>by
   rcases d2 with⟨q,_⟩|⟨b,c',q,_⟩
   .rw[q]at h;cases h
   .rw[q]at h ⊢;cases h;exact⟨_,_,rfl⟩
  have kW:∀(H:d8) j,j<H.next->¬l7 w4 j->(aU w4 H).get j=H.get j:=fun H j S hb=>by
   unfold aU;split
   .rename_i a n c;split
    .rfl
    .rw[j6 (fun q=>hb (by rw[<-q];exact d7 a n c rfl))]
   .rfl
  have l4:K2.next=z.next+3:=by rw[a3,i5,Y6,e3]
  have k9:J2.next=z.next+3:=by rw[a8,i5,Y6,e2]
  have h8:∀j,j<z.next->¬l7 w4 j->K2.get j=z.get j:=fun j S hb=>by rw[a3,i7 (by rw[Y6];omega),kW K1 j oM hb,c0.get j S]
  have h7:∀j,j<z.next->¬l7 w4 j->J2.get j=z.get j:=fun j S hb=>by rw[a8,i7 (by rw[Y6];omega),kW J1 j oM hb,b9.get j S]
  have h6:¬l7 w4 D:=fun q=>(h3 D q).2 rfl;have l5:¬l7 w4 H2.next:=fun q=>by
   rcases b5 _ q with r|r
   .have:=hO.lt r;omega
   .omega
  have f4:=(h8 D I h6).trans O;have f1:=(h7 D I h6).trans O;obtain⟨w5,d6⟩:=eY (Value.slice (sP (z.next+2)) (u.length+1) (u.length+1+1));obtain⟨K3,W⟩:=eY (K2.put D (bC [sL (z.next+2) (u.length+1) (u.length+1+1)] 1));obtain⟨J3,a9⟩:=eY (J2.put D (bC [sL (z.next+2) (u.length+1) (u.length+1+1)] 1));have n6:K3.next=z.next+3:=by rw[W,t5,l4]
  have n5:J3.next=z.next+3:=by rw[a9,t5,k9]
  have f6:J3.get H2.next=cE el 1:=by rw[a9,j6 oM,h7 _ oM l5];exact g4
  have f5:J3.get (z.next+2)=cE (J++[iV 0,nS,nS]) 3:=by
   rw[a9,j6 oM,a8,y7 (by rw[Y6,e2];omega)]
  have m0:splice (J++[iV 0,nS,nS]) (u.length*3) el=J++el:=by
   rw[<-a2]
   match el,e1 with
   |[a,b,c],_=>exact vB _ _ _ _ _ _ _
  obtain⟨J4,f8⟩:=eY (J3.put (z.next+2) (bC (J++el) 3));have k2:N4 z.next K3=N4 z.next J4:=by
   rw[W,a3,b1,b0,f8,a9,a8,a7,a6];exact AJ z w4 D _ _ _ _ _ _ _ _ I h3 d7
  have g8:=eq_true k2;have nl:(u.length:Int).toNat=u.length:=Int.toNat_natCast _;have lz:(J++[iV 0,nS,nS]).length=u.length*3+3:=by simp [a2]
  have m5:decide ((u.length:Int)<((u.length+1:Nat):Int))=true:=decide_eq_true oM;have n2:(0:Int)<=u.length:=oM;have e6:bsA prog (some 25) K0 1 [(0,.agg el.toArray)]=some (sL K0.next 1 1,K1):=by
   rw[b1];cases k with
   |zero=>exact hr.elim
   |succ k=>obtain⟨_,_,_,_,rfl,_⟩:=hr.path;simp only[C7,aq,C8];rfl
  rw[e8]at X d1 d0;refine J30 f0 fL fM fJ b gx nt b6 a1 e1 i0 d3.symm g3 d9 g5 g6 O (aI X b0.symm) (aI a6.symm i3) (aI i2 f2) (aI e9 f7) (aI a7.symm e6) (aI f3 e8) (aI d1 d0) (aI f4 f1) (aI W.symm a9.symm) (aI f6 f5) (aI nl lz) (aI m0 f8.symm) (aI g8 @wrap_small) ?_;obtain⟨Kf,b8⟩:=eY (N4 z.next K3);rw[<-b8];have gf:∀j,j≠z.next->j≠z.next+1->Kf.get j=K3.get j:=fun j h1 h2=>by rw[b8,N4,j6 (fun q=>h2 q.symm),j6 (fun q=>h1 q.symm)]
  have j0:∀j,j<z.next->j≠D->¬l7 w4 j->Kf.get j=z.get j:=fun j S h1 h2=>by rw[gf j oM oM,W,j6 (fun q=>h1 q.symm),h8 j S h2]
  have j2:Kf.get D=cE [w5] 1:=by rw[gf D oM oM,W,d6];exact j5 oM
  have j1:Kf.get (z.next+2)=cE (J++el) 3:=by
   rw[gf _ oM oM,W,j6 oM,a3,y7 (by rw[Y6,e3];omega)]
  have h0:i6 D K1 (aU w4 K1):=by
   unfold aU;split
   .rename_i a n c;split
    .exact i6.refl _ _
    .exact i6.put (oN (E.lt (d7 a n c rfl)))
   .exact i6.refl _ _
  have j4:i6 D z Kf:=by
   rw[b8,N4,W,a3];exact(((((c0.weaken oM).trans h0).trans (i6.push (by rw[Y6];omega))).trans (i6.put lR)).trans (i6.put oM)).trans (i6.put oM)
  have k4:Kf.low<=D:=by rw[b8,N4,A4,A4,W,A4];omega
  have j3:u6 Kf (D+1) 3 (QR H0 lo K false) w5 (u++[x]):=⟨J++el,.inr ⟨z.next+2,u.length+1+1,by rw[d6];simp,j1,oM,by simp [a2,e1];omega⟩,g1.append (D2.one e1 (hr.upTo hk))⟩
  refine i4 (kk-1) oM ⟨i+1,u++[x],oM,oM,f0,fL,fM,rfl,⟨⟨w5,j2,j3,.inr k4,fun j S h1 h2=>?_,fun b hb=>?_⟩,c5.trans j4⟩,by rw[List.length_append,List.length_singleton];omega,fu⟩
  .rw[j0 j oM h1 (fun q=>by rcases c9 j q with r|r;exact h2 r;omega),c3 j S h1 h2]
  .rw[d6,E6]at hb;exact .inr oM
 .rw[b2]at X;have b3:bR u x=u:=by rw[bR,b2];rfl
  rw[b3]at fu;refine J19 f0 fL fM fJ b gx nt b6 a1 e1 i0 d3.symm g3 d9 g5 g6 O X @wrap_small ?_;exact i4 (kk-1) oM ⟨i+1,u,oM,oM,f0,fL,fM,rfl,⟨⟨w4,O,E,g9,c3,c9⟩,c5⟩,oM,fu⟩
theorem gZ.low{lo K D:Nat}{w0:Value}{u y:List Q}{H0 H:d8}(h:gZ lo K D w0 u H0 H y)(n:Nat)(W:n<=H.low)(U:∀k,k<=D->k<=H0.low->k<=n):gZ lo K D w0 u H0 ⟨H.bs,n⟩ y:=by
 obtain⟨⟨w,I,J,z,O,S⟩,E⟩:=h;refine⟨⟨w,I,J.low n,?_,O,S⟩,E.next,U,E.get⟩;rcases z with z|z
 .exact .inl z
 .exact .inr (Nat.le_trans W z)
theorem zD{lo K E:Nat}{w:Value}{D y:List Q}{H z H':d8}(u:i6 H.next H z)(U:H.next<=z.low)(a1:lo<=E)(a2:E<H.next)(hg:H.get E=cE [w] 1)(hO:u6 H (E+1) 3 (QR H lo K false) w D)(h:gZ lo K E w D z H' y):
  Ret (some (D6 undef H H')) H fun v z=>v=undef/\gZ lo K E w D H z y/\z.low<=H.low:=by
 have n1:=u.next;obtain⟨⟨w',h1,h2,I,h4,h5⟩,O⟩:=h;have X:∀cs q,QR z lo K false cs q->QR H lo K false cs q:=fun _ _ h=>h.mono (fun j J=>(u.get j oM).symm) lR;refine E1 (fun _ hl=>⟨rfl,?_,lR⟩) ⟨rfl,?_,by show min H.low H'.low<=H.low;omega⟩
 .rcases I with⟨W,q2⟩|q
  .rw[W];exact⟨⟨w,hg,hO,.inl ⟨rfl,rfl⟩,fun _ _ _ _=>rfl,fun b S=> .inl S⟩,i6.refl _ _⟩
  .omega
 .have hn:=O.next;refine⟨⟨w',h1,(h2.imp X).low _,?_,fun j J W q2=>?_,fun b S=>?_⟩,by show H.next<=H'.next;omega,fun k hk q=>?_,fun j J=>?_⟩
  .rcases I with I|I
   .exact .inl I
   .exact .inr (by show min H.low H'.low<=E;omega)
  .show H'.get j=H.get j;rw[h4 j oM W q2,u.get j J]
  .rcases h5 b S with r|r
   .exact .inl r
   .exact .inr oM
  .have:=O.lowAll k hk oM;show k<=min H.low H'.low;omega
  .show H'.get j=H.get j;rw[O.get j J,u.get j oM]
theorem HH{l:List Q}(h:l.length<=1):inL false l++l=inB l:=by
 match l,h with
 |[],_=>rfl
 |[x],_=>simp [inB,inL]
theorem PU(k:Nat)(a5:fk 58 false k)(a6:fk 82 true k):fk 58 false (k+1):=by
 intro H lo X K w u cs q hk E D hO hr a4 a9;obtain⟨W,a7,_⟩:=a4.parts;have b4:=fq q;have U:=u7 D;obtain⟨va,ca,wa,y,rfl,h1,h2,h3,h4⟩:=hr.path;obtain⟨I,J,-,hg,O⟩:=pushF H (bC [iV q.op,.slice va q.a.length ca,.slice wa q.b.length y] 1);have S:H.next<=I.low:=by rw[J,l9];exact lR
 have hn:=O.next;have b3:=u7 hg;have hm:∀j,j<lo->I.get j=H.get j:=fun j hj=>O.get j oM;have a8:gZ lo K X w u I I u:=⟨⟨w,(O.get X U).trans D,(hO.keep O).imp fun _ _ h=>h.mono hm lR,.inl ⟨rfl,rfl⟩,fun _ _ _ _=>rfl,fun _ h=> .inl h⟩,i6.refl _ _⟩
 rw[j7 KV rfl _ sM,nz];refine J2 J.symm hg ?_;refine j8 (F:=fun z=>Ret (u5 _ _ _ (u9 (inBlock 0 z) _)) _ _) (LN k a5 I lo X K oM E w u va ca q.a (h1.mono hm lR) h3 W (pT H.next) ((inL false q.a).foldl bR u) q.a.length _ _ ⟨0,u,rfl,oM,rfl,rfl,rfl,rfl,rfl,a8,by rw[List.drop_zero];omega,rfl⟩) ?_;rintro o e' H2 ⟨ho,g0,g3,hM⟩;have a2:=hM.stay;have b2:=a2.next;have a3:H2.get H.next=cE [iV q.op,.slice va q.a.length ca,.slice wa q.b.length y] 1:=by
  obtain⟨w',_,_,_,hb,_⟩:=hM.ex;exact(hb H.next oM oM (fun q=>by have:=hO.lt q;omega)).trans hg
 have b1:=cV (inL false q.a) u;have b0:(inL false q.a).length<=nL q.a:=by
  have:=jx q.a (inQ false) fun x hx=>(bS _ false x lR (W x hx)).1;rw[eU];omega
 refine J3 ho g3 a3 ?_;refine j8 (F:=fun z=>Ret (u5 _ _ _ (inBlock 2 z)) _ _) (LO k a6 I lo X K oM E w u wa y q.b (h2.mono hm lR) h4 a7 (pT H.next) ((inL false q.a++inL true q.b).foldl bR u) q.b.length _ _ ⟨0,_,rfl,oM,g0,g3,rfl,rfl,rfl,hM,by rw[List.drop_zero];omega,by rw[List.drop_zero,List.foldl_append]⟩) ?_;rintro o e' H3 ⟨ho,g0,g3,a1⟩;refine J1 ho ?_;exact zD O S E U D hO a1
theorem Lz(q:Q)(h:OkD true q):inQ true q=inL true q.a++inB q.b:=by
 obtain⟨_,_,_,_,z⟩:=h.parts;have u:=(dE z).2.2;simp only[if_true]at u;rw[iB];by_cases y:q.op=11
 .rw[if_pos y,HH u.2]
 .rw[if_neg y];have:q.b=[]:=by
   have D:=u.2;have E:¬q.b.length=1:=fun r=>y (u.1.2 r);exact List.length_eq_zero_iff.1 oM
  rw[this];rfl
theorem PV(k:Nat)(a6:fk 82 true k)(a7:fk 58 false k):fk 82 true (k+1):=by
 intro H lo pm K w u cs q hk J I hO hr X b0;rw[Lz q X];obtain⟨a2,a8,_⟩:=X.parts;have b5:=fq q;have a1:=u7 I;obtain⟨va,ca,wa,E,rfl,h1,h2,h3,h4,_⟩:=hr.filter;obtain⟨D,y⟩:=eY ([iV q.op,.string q.sp,.string q.lc,.string q.vl,.slice va q.a.length ca,.slice wa q.b.length E]:LV);obtain⟨O,S,-,hg,U⟩:=pushF H (bC D 1);have W:H.next<=O.low:=by rw[S,l9];exact lR
 have hn:=U.next;have b4:=u7 hg;have r4:D[4]?=some (.slice va q.a.length ca):=by rw[y];rfl
 have r5:D[5]?=some (.slice wa q.b.length E):=by rw[y];rfl
 have ar:D.all oC=true:=by rw[y];rfl
 have lr:D.length=6:=by rw[y];rfl
 rw[<-y];have hm:∀j,j<lo->O.get j=H.get j:=fun j hj=>U.get j oM;have a9:gZ lo K pm w u O O u:=⟨⟨w,(U.get pm a1).trans I,(hO.keep U).imp fun _ _ h=>h.mono hm lR,.inl ⟨rfl,rfl⟩,fun _ _ _ _=>rfl,fun _ h=> .inl h⟩,i6.refl _ _⟩
 rw[j7 La rfl _ sM];refine J4 ar S.symm hg r4 ?_;refine j8 (F:=fun z=>Ret (u5 _ _ _ (u9 (inBlock 0 z) _)) _ _) (LP k a6 O lo pm K oM J w u va ca q.a (h1.mono hm lR) h3 a2 (pT H.next) ((inL true q.a).foldl bR u) q.a.length _ _ ⟨0,u,rfl,oM,rfl,rfl,rfl,rfl,rfl,a9,by rw[List.drop_zero];omega,rfl⟩) ?_;rintro o e' H2 ⟨ho,g0,g3,hM⟩;have a4:=hM.stay;have b3:=a4.next;have a5:H2.get H.next=cE D 1:=by
  obtain⟨w',_,_,_,hb,_⟩:=hM.ex;exact(hb H.next oM oM (fun q=>by have:=hO.lt q;omega)).trans hg
 have b2:=cV (inL true q.a) u;have b1:(inL true q.a).length<=nL q.a:=by
  have:=jx q.a (inQ true) fun x hx=>(bS _ true x lR (a2 x hx)).1;rw[eU];omega
 refine J4 ho g3 a5 r5 ?_;refine j8 (F:=fun z=>Ret (u5 _ _ _ (inBlock 2 z)) _ _) (LQ k a7 O lo pm K oM J w u wa E q.b (h2.mono hm lR) h4 a8 ((inL true q.a++inB q.b).foldl bR u) q.b.length _ _ ⟨0,_,rfl,oM,g0,rfl,rfl,rfl,hM,by rw[List.drop_zero];omega,by rw[List.drop_zero,List.foldl_append]⟩) ?_;rintro o e' H3 ⟨ho,a3⟩;refine J1 ho ?_;exact zD U W J a1 I hO a3
theorem HU:∀k,fk 58 false k/\fk 82 true k:=by
 intro k;induction k with
 |zero=>exact⟨fun H lo z K w u cs q _ _ _ _ y=>y.elim,fun H lo z K w u cs q _ _ _ _ y=>y.elim⟩
 |succ k h=>exact⟨PU k h.1 h.2,PV k h.2 h.1⟩
theorem Hh(v:Value)(H H':d8)(h:H'.low<H.next):D6 v H H'=(v,some ⟨H'.bs,min H.low H'.low⟩):=by
 unfold D6;rw[if_neg];have:¬H.bs.length<=H'.low:=by have:H.next=H.bs.length:=rfl;omega
 simp [this]
theorem Ms(H:d8)(pm:Nat)(st:Int)(r:LV)(E:H.get pm=cE (.int .i64 st::r) 1)(O:r.length=4)(W:0<=st)(X:st<=10000000):
  CL prog t6 110 [pT pm] H=some (.int .i64 st,some (H.put pm (.cells (.int .i64 (st+1)::r) true 1))):=by
 have D:=u7 E;have z:(⟨H.bs,H.next⟩:d8).get pm=cE (.int .i64 st::r) 1:=E;obtain⟨u,h⟩:=eY (d8.put ⟨H.bs,H.next⟩ pm (.cells (.int .i64 (st+1)::r) true 1));have J:u.get pm=some (.cells (.int .i64 (st+1)::r) true 1):=by rw[h];exact j5 D
 have S:u.low=pm:=by rw[h,A4];show min H.next pm=pm;omega
 have U:u.low<H.next:=oM;have y:(⟨u.bs,min H.low u.low⟩:d8)=H.put pm (.cells (.int .i64 (st+1)::r) true 1):=by rw[S,h];rfl
 have I:st+1-1=st:=oM;rw[j7 OK rfl _ sM];exact J8 z O @wrap_small h.symm J I @Hh y trivial
structure PgS(Rt:LV->Q->Prop)(pm:Nat)(H0:d8)(we0 wt0:Value)(H:d8)(p:PrD):Prop where
 ex:∃we wt,H.get pm=cE [iV p.st,iV p.sa,iV p.en,we,wt] 1/\u6 H (pm+1) 4 (w9 edE) we p.ed/\u6 H (pm+1) 6 Rt wt p.ts/\(∀b,l7 we b->¬l7 wt b)/\
  (∀j,j<H0.next->j≠pm->¬l7 we0 j->¬l7 wt0 j->H.get j=H0.get j)/\(∀b,l7 we b->l7 we0 b\/H0.next<=b)/\(∀b,l7 wt b->l7 wt0 b\/H0.next<=b)
 stay:i6 pm H0 H
section
variable{Rt:List Value->Q->Prop}{pm:Nat}{H0 H H':d8}{we0 wt0 we wt:Value}{p:PrD}
theorem PgS.lt(h:PgS Rt pm H0 we0 wt0 H p):pm<H.next:=by obtain⟨⟨_,_,u,_⟩,_⟩:=h;exact u7 u
theorem PgS.work(h:PgS Rt pm H0 we0 wt0 H p)(u:i6 H.next H H'):PgS Rt pm H0 we0 wt0 H' p:=by
 have U:=h.lt;obtain⟨⟨we,wt,y,z,D,E,I,J,O⟩,hs⟩:=h;have hn:=hs.next;exact⟨⟨we,wt,(u.get pm U).trans y,z.keep u,D.keep u,E,fun j S W X q3=>by rw[u.get j oM,I j S W X q3],J,O⟩,hs.trans (u.weaken oM)⟩
theorem PgS.start(D:H.get pm=cE [iV p.st,iV p.sa,iV p.en,we,wt] 1)(u:u6 H (pm+1) 4 (w9 edE) we p.ed)(y:u6 H (pm+1) 6 Rt wt p.ts)(z:∀b,l7 we b->¬l7 wt b):PgS Rt pm H we wt H p:=
 ⟨⟨we,wt,D,u,y,z,fun _ _ _ _ _=>rfl,fun _ h=> .inl h,fun _ h=> .inl h⟩,i6.refl _ _⟩
theorem PgS.trans{D:d8}{p1:PrD}(h:PgS Rt pm H0 we0 wt0 H p)(k:∀we wt,(H.get pm=cE [iV p.st,iV p.sa,iV p.en,we,wt] 1)->PgS Rt pm H we wt D p1):PgS Rt pm H0 we0 wt0 D p1:=by
 obtain⟨⟨we,wt,U,h2,h3,h4,W,E,I⟩,hs⟩:=h;obtain⟨⟨y,z,k1,k2,k3,k4,k5,k6,k7⟩,ks⟩:=k we wt U;have hn:=hs.next;refine⟨⟨y,z,k1,k2,k3,k4,fun j X J O S=>?_,fun b u=>?_,fun b u=>?_⟩,hs.trans ks⟩
 .rw[k5 j oM J (fun q=>?_) (fun q=>?_),W j X J O S]
  .rcases E j q with r|r
   .exact O r
   .omega
  .rcases I j q with r|r
   .exact S r
   .omega
 .rcases k6 b u with r|r
  .exact E b r
  .exact .inr oM
 .rcases k7 b u with r|r
  .exact I b r
  .exact .inr oM
end
theorem eg{Rt:LV->Q->Prop}{pm:Nat}{H0 H:d8}{we0 wt0:Value}{p:PrD}(h:PgS Rt pm H0 we0 wt0 H p)(U:0<=p.st)(W:p.st<=10000000):
  ∃H',CL prog t6 110 [pT pm] H=some (.int .i64 p.st,some H')/\PgS Rt pm H0 we0 wt0 H' {p with st:=p.st+1}/\H'.low<=pm/\H'.low<=H.low/\H'.next=H.next:=by
 have hp:=h.lt;obtain⟨⟨we,wt,E,y,z,I,J,O,S⟩,hs⟩:=h;refine⟨_,Ms H pm p.st _ E rfl U W,⟨⟨we,wt,j5 hp,y.same fun b u=>j6 (oN (y.lt u)),z.same fun b u=>j6 (oN (z.lt u)),I,fun j X D q2 q3=>?_,O,S⟩,hs.trans (i6.put lR)⟩,?_,?_,?_⟩
 .rw[j6 (fun q=>D q.symm),J j X D q2 q3]
 .rw[A4];omega
 .rw[A4];omega
 .rw[t5]
theorem Ft{Rt:LV->Q->Prop}{pm:Nat}{H0 H:d8}{we0 wt0:Value}{p:PrD}(h:PgS Rt pm H0 we0 wt0 H p)(lv:Value)(l:List (Int×Int×Int×Int))(hl:SlI H H.next 4 (w9 edE) lv l)(hn:p.ed.length+l.length<=1000000)(a4:l≠ []):
  Ret (CL prog t6 134 [pT pm,lv] H) H fun v H'=>v=undef/\PgS Rt pm H0 we0 wt0 H' {p with ed:=p.ed++l}/\H'.low<=pm/\H'.low<=H.low:=by
 have hp:=h.lt;obtain⟨⟨we,wt,g1,g2,S,g4,g5,g6,g7⟩,hs⟩:=h;have a5:=hs.next;obtain⟨I,z⟩:=eY (⟨H.bs,H.next⟩:d8);have sb:i6 H.next H I:=by rw[z];exact i6.start H
 have nb:I.next=H.next:=by rw[z];rfl
 have J:∀j,I.get j=H.get j:=fun j=>by rw[z];rfl
 obtain⟨y,h1,O,ha,a2,hO,D⟩:=(g2.keep sb).appendF (P:=prog) (t:=30) (n:=H.next) (l2:=l) (x:=lv) (by exact IZ.2.2.2.2.2.2) pM.1 pM.2.1 pM.2.2.1 oM oM (hl.mono (fun j _=>J j) lR iF) oM oM;have n1:=D.next;obtain⟨a7,a8,rfl⟩:=hl.slice;have a3:¬l7 we pm:=fun q=>oN (g2.lt q);have U:O.get pm=cE [iV p.st,iV p.sa,iV p.en,we,wt] 1:=by rw[D.but pm oM a3,J];exact g1
 obtain⟨a1,c1,e1⟩:=hO.slice;have cw:y.cells.toList=[y]:=by rw[e1];rfl
 have ow:Value.oneCell' y=true:=by rw[e1];rfl
 obtain⟨H2,u⟩:=eY (O.put pm (bC [iV p.st,iV p.sa,iV p.en,y,wt] 1));have l2:H2.low<=pm:=by rw[u,A4];omega
 have a6:H2.low<H.next:=oM;have W:I.get pm=cE [iV p.st,iV p.sa,iV p.en,we,wt] 1:=by rw[J];exact g1
 rw[j7 OY rfl _ sM];rw[show(⟨H.bs,H.next⟩:d8)=I from z.symm];refine J7 W ha a2 U cw ow u.symm ?_;refine E1 (fun _ hl=>oM) ⟨rfl,?_,?_,?_⟩
 rotate_left
 .show min H.low H2.low<=pm;omega
 .show min H.low H2.low<=H.low;omega
 have kp:∀j,j≠pm->H2.get j=O.get j:=fun j hj=>by rw[u,j6 (fun q=>hj q.symm)]
 have X:H2.get pm=cE [iV p.st,iV p.sa,iV p.en,y,wt] 1:=by rw[u];exact j5 oM
 have sg:i6 pm H H2:=by rw[u];exact((sb.weaken oM).trans (D.stay.weaken oM)).trans (i6.put lR)
 refine⟨⟨y,wt,X,(hO.same (H':=⟨H2.bs,min H.low H2.low⟩) fun b E=>?_),(S.same (H':=⟨H2.bs,min H.low H2.low⟩) fun b E=>?_),fun b E=>?_,fun j hj q1 q2 q3=>?_,fun b E=>?_,g7⟩,hs.trans ⟨sg.next,fun k hk q=>?_,sg.get⟩⟩
 .exact kp b (oN (hO.lt E))
 .have:=S.lt E;show H2.get b=_;rw[kp b oM,D.but b oM (fun q=>g4 b q E),J]
 .rcases D.new b E with r|r
  .exact g4 b r
  .exact fun q=>oN (S.lt q)
 .show H2.get j=_;rw[kp j q1,D.but j oM (fun q=>?_),J,g5 j hj q1 q2 q3];rcases g6 j q with r|r
  .exact q2 r
  .omega
 .rcases D.new b E with r|r
  .exact g6 b r
  .exact .inr oM
 .have:k<=H2.low:=by
   rw[u,A4];have:=D.stay.lowAll k oM (by rw[z];show k<=H.next;omega);omega
  show k<=min H.low H2.low;omega
def PgC(Rt:LV->Q->Prop)(pm:Nat)(x:Option (Value×Option d8))(H:d8)(p p':PrD)(v:Value):Prop:=∀(H0:d8)(we0 wt0:Value),PgS Rt pm H0 we0 wt0 H p->Ret x H fun w H'=>w=v/\PgS Rt pm H0 we0 wt0 H' p'/\H'.low<=pm/\H'.low<=H.low
theorem jE{Rt:LV->Q->Prop}{pm:Nat}{x:Option (Value×Option d8)}{H:d8}{p E:PrD}{v:Value}(h:∀we wt,pm<H.next->PgS Rt pm ⟨H.bs,H.next⟩ we wt ⟨H.bs,H.next⟩ p->∃H',x=some (D6 v H H')/\PgS Rt pm ⟨H.bs,H.next⟩ we wt H' E/\H'.low<=pm):PgC Rt pm x H p E v:=by
 intro H0 we0 wt0 z;have X:=z.lt;obtain⟨⟨we,wt,O,S,U,W,g5,g6,g7⟩,hs⟩:=id z;obtain⟨H',hx,⟨⟨I,J,k1,k2,k3,k4,k5,k6,k7⟩,u⟩,hl⟩:=h we wt X ⟨⟨we,wt,O,S.low _,U.low _,W,fun _ _ _ _ _=>rfl,fun _ h=> .inl h,fun _ h=> .inl h⟩,i6.refl _ _⟩;have nb:(⟨H.bs,H.next⟩:d8).next=H.next:=rfl;have lb:(⟨H.bs,H.next⟩:d8).low=H.next:=rfl;have hn:=u.next;have y:PgS Rt pm H we wt ⟨H'.bs,min H.low H'.low⟩ E:=⟨⟨I,J,k1,k2.low _,k3.low _,k4,k5,k6,k7⟩,u.next,fun k q1 q2=>(by have:=u.lowAll k q1 oM;show k<=min H.low H'.low;omega),u.get⟩
 rw[hx];refine E1 (fun _ q=>oM) ⟨rfl,z.trans fun a1 a2 D=>?_,?_,?_⟩
 .have:=O.symm.trans D;simp only[Option.some.injEq,Blk.cells.injEq,List.cons.injEq,and_true,true_and]at this;obtain⟨rfl,rfl⟩:=this;exact y
 .show min H.low H'.low<=pm;omega
 .show min H.low H'.low<=H.low;omega
theorem jF(Rt:LV->Q->Prop)(pm:Nat)(H:d8)(p:PrD)(f t:Int)(U:p.ed.length+1<=1000000):
  PgC Rt pm (CL prog t6 111 [pT pm,iV f,iV t] H) H p (p.edge f t 0 0) undef:=by
 refine jE fun we wt X h=>?_;obtain⟨D,u,n1,-⟩:=pushF H (.cells (edE (f,t,0,0)) true 4);have J:i6 H.next ⟨H.bs,H.next⟩ D:=by rw[u];exact i6.push lR
 have E:u6 D H.next 4 (w9 edE) (sL H.next 1 1) [(f,t,0,0)]:=by rw[u];exact u6.fresh rfl lR (D2.one rfl rfl)
 obtain⟨v,W,H2,O,y,rfl,I,z,S⟩:=Ft (h.work J) _ [(f,t,0,0)] E.sl (by simpa using U) sM;rw[j7 OL rfl _ sM];refine J3 u.symm O y ?_;exact⟨H2,rfl,I,z⟩
theorem mg(Rt:LV->Q->Prop)(pm:Nat)(H:d8)(p:PrD)(k x:Int)(hn:p.ed.length+1<=1000000)(U:0<=p.st)(h1:p.st<=1000000):
  PgC Rt pm (CL prog t6 107 [pT pm,iV k,iV x] H) H p (({p with st:=p.st+2}:PrD).edge p.st (p.st+1) k x) (.tuple #[iV p.st,iV (p.st+1)]):=by
 refine jE fun we wt hp h=>?_;obtain⟨Ha,D,pa,a2,a3,na⟩:=eg h U oM;obtain⟨y,z,pb,a4,a5,nb⟩:=eg pa (by show 0<=p.st+1;omega) (by show p.st+1<=_;omega);have n0:(⟨H.bs,H.next⟩:d8).next=H.next:=rfl;obtain⟨J,u⟩:=eY (d8.push y (.cells (edE (p.st,p.st+1,k,x)) true 4));have X:i6 y.next y J:=by rw[u];exact i6.push lR
 have W:u6 J y.next 4 (w9 edE) (sL y.next 1 1) [(p.st,p.st+1,k,x)]:=by rw[u];exact u6.fresh rfl lR (D2.one rfl rfl)
 obtain⟨v,h2,H2,hc,E,rfl,O,I,a1⟩:=Ft (pb.work X) _ [(p.st,p.st+1,k,x)] W.sl (by simpa using hn) sM;have S:p.st+1+1=p.st+2:=oM;simp only[S]at O z;have ll:H2.low<H.next:=oM;rw[j7 OI rfl _ sM];refine J5 D z u.symm hc E ?_;exact⟨H2,rfl,O,I⟩
theorem PgS.trans'{D:LV->Q->Prop}{z:Nat}{H0 H I:d8}{u y J O:Value}{p p1:PrD}(h:PgS D z H0 u y H p)(k:PgS D z H J O I p1)(S:H.get z=cE [iV p.st,iV p.sa,iV p.en,J,O] 1):PgS D z H0 u y I p1:=
 h.trans fun U W E=>by
  have:=S.symm.trans E;simp only[Option.some.injEq,Blk.cells.injEq,List.cons.injEq,and_true,true_and]at this;obtain⟨rfl,rfl⟩:=this;exact k
theorem SlI.tail{P:Program}{H:d8}{lo sz:Nat}{α:Type}{R:LV->α->Prop}{O:Option Addr}{u:Nat}{l:List α}{t e:TypeId}(h:SlI H lo sz R (.slice O l.length u) l)(D:0<l.length)(ht:P.underlying t=some (.slice e))(hs:D8 P e=some sz)(h0:0<sz):
  ∃E y,(∀H',(∀j,j<lo->H'.get j=H.get j)->aH P H' t (.slice O l.length u) (some (.int .i64 1)) none none=some (.slice E (l.drop 1).length y))/\SlI H lo sz R (.slice E (l.drop 1).length y) (l.drop 1):=by
 rcases h with⟨_,h⟩|⟨b,o,c,hv,h⟩
 .rw[h]at D;simp at D
 .rcases h with h|⟨cs,own,U,W,h3,h4⟩
  .rw[h]at D;simp at D
  .obtain⟨rfl,rfl⟩:O=some ⟨b,o,none⟩/\u=c:=by simpa using hv
   have z:(l.drop 1).length=l.length-1:=sM;have a1:(l.length-1)*sz+sz=l.length*sz:=by
    rw[<-Nat.succ_mul];congr 1;omega
   refine⟨some ⟨b,o+sz,none⟩,if u=l.length then l.length-1 else l.length-1+1,fun H' I=>?_,.inr ⟨b,o+sz,_,rfl,.inr ⟨cs,own,U,W,by rw[z];omega,fun i a hi=>?_⟩⟩⟩
   .have hg:H'.get b=some (.cells cs own sz):=by rw[I b U];exact W
    have J:CA H' b=some sz:=by simp only[CA,hg]
    simp only[aH,ht,hs,bnd,J,z];have S:(if(0:Int)<=1 then some (1:Int).toNat else none)=some 1:=rfl;have p1:¬sz=0:=oM;have p2:1<=l.length/\l.length<=l.length:=⟨D,lR⟩
    have p3:¬l.length=0:=oM;by_cases X:u=l.length
    .simp only[S,if_neg p1,if_pos p2,if_neg p3,ne_eq,not_true_eq_false,if_false,if_pos X,if_true,Nat.one_mul]
    .simp only[S,if_neg p1,if_pos p2,if_neg p3,ne_eq,not_true_eq_false,if_false,if_neg X,if_true,Nat.one_mul]
   .rw[List.getElem?_drop]at hi;have:=h4 (1+i) a hi;rw[show o+sz+i*sz=o+(1+i)*sz by rw[Nat.add_mul];omega];exact this
def vX(Hs:d8)(lo K k:Nat):Prop:=∀(H:d8)(pm:Nat)(cs:LV)(q:Q)(p:PrD),lo<=pm->(∀j,j<lo->H.get j=Hs.get j)->QR Hs lo k false cs q->OkD false q->jT (nQ q) p->
 PgC (QR Hs lo K true) pm (CL prog t6 83 [pT pm,.agg cs.toArray] H) H p (C6 q p).1 (.tuple #[iV (C6 q p).2.1,iV (C6 q p).2.2])
theorem xK(D:d8)(lo K k:Nat)(ih:vX D lo K k)(J:d8)(u:Nat)(b4:lo<=u)(a9:∀j,j<lo->J.get j=D.get j) (we wt:Value) (va:Option Addr) (ca:Nat) (l:List Q) (hv:QsR D lo k false (.slice va l.length ca) l) (hn:l.length<=1048576) (hw:∀x∈l,OkD false x) (s:Int) (r:PrD×Int×Int):
  ∀kk e H2,(∃(i:Nat)(y:PrD×Int×Int),kk=l.length-i/\i<=l.length/\e.get 0=pT u/\e.get 6=iV s/\e.get 7=iV y.2.2/\e.get 21= .slice va l.length ca/\e.get 22=iV l.length/\e.get 23=iV i/\PgS (QR D lo K true) u J we wt H2 y.1/\H2.low<=u/\jT (nL (l.drop i)) y.1/\y.2.1=s/\bO (l.drop i) y=r)->
  w7 (LE prog t6 (.loop Kq) e H2) (fun o e H2=>o= .exit 0/\e.get 6=iV r.2.1/\e.get 7=iV r.2.2/\PgS (QR D lo K true) u J we wt H2 r.1/\H2.low<=u):=by
 refine i8 _ _ ?_;rintro kk e H2 ⟨i,y,b9,hi,f0,f6,f7,S,E,U,hP,hl,a2,hs,I⟩;rcases b:decide ((i:Int)<l.length)with _|_
 .have a7:=dF b;have:l.drop i=[]:=dN oM;rw[this,bO]at I;refine J3 E U b ?_;exact i9 ⟨rfl,by rw[<-I,hs];exact f6,by rw[<-I];exact f7,by rw[<-I];exact hP,hl⟩
 have a7:=dT b;have hS:=hP.stay;have c3:=hS.next;have c4:=hP.lt;obtain⟨x,nb,o,cs,own,el,hx,hd,rfl,b5,hg,b3,h,hr⟩:=hv.row (i:=i) oM;have b7:=mG hx;have nt:(i:Int).toNat=i:=tN i;simp only[qSz,bF]at h hg b3;have O:∀j,j<lo->H2.get j=D.get j:=fun j hj=>by rw[hS.get j oM,a9 j hj]
 have a1:el.all oC=true:=F7 hr;have e1:=hr.len;simp only[qSz,bF]at e1;have a4:=N5 hr;rw[e1]at a4;have gx:=(O nb b5).trans hg;obtain⟨H3,a5,n3,g3,s3⟩:=pushP H2 (bC [iV 0,nS,nS] 1) (bC el 1);have b8:splice [iV 0,nS,nS] 0 el=el:=x9 _ _ (by rw[e1];rfl);have b6:nL (l.drop i)=nQ x+nL (l.drop (i+1)):=by rw[hd,nL]
 obtain⟨t0,t1,t2,t3⟩:=a2;rw[b6]at t1 t2 t3;have a3:=F8 x y.1;obtain⟨v4,h4,H4,X,b1,rfl,W,c0,_⟩:=ih H3 u el x y.1 b4 (fun j hj=>by rw[s3.get j oM,O j hj]) hr (hw x b7) ⟨t0,oM,oM,oM⟩ J we wt (hP.work s3);rw[hd,bO]at I;obtain⟨z,hz⟩:=eY (C6 x y.1);rw[<-hz]at X W I a3;obtain⟨u0,u1,u2,u3⟩:=a3;obtain⟨v5,h5,H5,a8,b0,rfl,a6,b2,_⟩:=jF (QR D lo K true) u H4 z.1 y.2.2 z.2.1 oM J we wt W;refine J20 f0 f7 S E U b gx nt h a1 e1 b8 a5.symm g3 a4 X b1 a8 b0 @wrap_small ?_;exact i4 (kk-1) oM ⟨i+1,(z.1.edge y.2.2 z.2.1 0 0,y.2.1,z.2.2),oM,oM,f0,f6,rfl,S,E,rfl,a6,b2,⟨by simp only[X9];omega,by simp only[X9];omega,by rw[P5];omega,by simp only[dx];omega⟩,hs,I⟩
theorem Qc(D:d8)(lo K k:Nat)(ih:vX D lo K k)(H:d8)(O:Nat)(X:lo<=O)(a7:∀j,j<lo->H.get j=D.get j) (v:Value) (l:List Q) (hv:QsR D lo k false v l) (hn:l.length<=1048576) (a2:0<l.length) (hw:∀x∈l,OkD false x) (p:PrD) (U:jT (nL l) p):
  PgC (QR D lo K true) O (CL prog t6 108 [pT O,v] H) H p (eu l p).1 (.tuple #[iV (eu l p).2.1,iV (eu l p).2.2]):=by
 refine jE fun we wt hp h=>?_;obtain⟨va,ca,rfl⟩:=hv.slice;obtain⟨b6,a3,b4,b5⟩:=SlI.tail (P:=prog) (t:=22) (e:=25) hv a2 (by exact lP.2.2.2.2.2.2) aq.1 (by decide);obtain⟨x,nb,o,cs,own,el,hx,hd,rfl,b2,hg,b1,E,hr⟩:=hv.row (i:=0) a2;simp only[qSz,bF,Nat.zero_mul,Nat.add_zero]at E hg b1;have a1:l=x::l.drop 1:=by simpa using hd
 have b8:nL l=nQ x+nL (l.drop 1):=by conv=>lhs;rw[a1,nL]
 have I:eu l p=bO (l.drop 1) (C6 x p):=by conv=>lhs;rw[a1,eu]
 obtain⟨t0,t1,t2,t3⟩:=U;have W:=F8 x p;have u:∀j,j<lo->(⟨H.bs,H.next⟩:d8).get j=D.get j:=a7;have gx:(⟨H.bs,H.next⟩:d8).get nb=_:=(u nb b2).trans hg;obtain⟨v4,h4,H4,S,a8,rfl,J,a9,_⟩:=ih ⟨H.bs,H.next⟩ O el x p X u hr (hw x (mG hx)) ⟨t0,oM,oM,oM⟩ _ we wt h;have a6:=J.stay;have a4:∀j,j<lo->H4.get j=D.get j:=fun j hj=>by rw[a6.get j oM,u j hj]
 have b3:=b4 H4 a4;have b7:(0:Int)<l.length:=oM;obtain⟨y,hy⟩:=eY (C6 x p);rw[<-hy]at S J W I;obtain⟨u0,u1,u2,u3⟩:=W;rw[j7 Jk rfl _ sM];refine J5 gx E S a8 b3 ?_;refine j8 (F:=fun z=>∃H',u5 _ _ _ (u9 (inBlock 0 z) _)=some (D6 _ H H')/\PgS (QR D lo K true) O _ we wt H' (eu l p).1/\H'.low<=O) (xK D lo K k ih ⟨H.bs,H.next⟩ O X u we wt b6 a3 (l.drop 1) b5 (by simp;omega) (fun z hz=>hw z (List.mem_of_mem_drop hz)) y.2.1 (bO (l.drop 1) y) (l.drop 1).length _ _ ⟨0,y,rfl,oM,rfl,rfl,rfl,rfl,rfl,rfl,J,a9,⟨oM,by rw[List.drop_zero];omega,by rw[List.drop_zero];omega,by rw[List.drop_zero];omega⟩,rfl,rfl⟩) ?_;rintro o' e' H5 ⟨ho,g6,g7,a5,b0⟩;rw[I];have ll:H5.low<H.next:=oM;refine J3 ho g6 g7 ?_;exact⟨H5,rfl,a5,b0⟩
structure PgW(Rt:LV->Q->Prop)(pm:Nat)(H:d8)(we wt:Value)(p:PrD):Prop where
 row:H.get pm=cE [iV p.st,iV p.sa,iV p.en,we,wt] 1
 e:u6 H (pm+1) 4 (w9 edE) we p.ed
 t:u6 H (pm+1) 6 Rt wt p.ts
 d:∀b,l7 we b->¬l7 wt b
theorem PgW.start{u:LV->Q->Prop}{y:Nat}{H:d8}{z D:Value}{p:PrD}(h:PgW u y H z D p):PgS u y H z D H p:=PgS.start h.row h.e h.t h.d
theorem PgS.w{I:LV->Q->Prop}{E:Nat}{H0 H:d8}{u y:Value}{p:PrD}(h:PgS I E H0 u y H p):∃z D,PgW I E H z D p/\(∀j,j<H0.next->j≠E->¬l7 u j->¬l7 y j->H.get j=H0.get j)/\(∀b,l7 z b->l7 u b\/H0.next<=b)/\(∀b,l7 D b->l7 y b\/H0.next<=b):=by
 obtain⟨⟨z,D,J,O,S,U,W,X,h7⟩,_⟩:=h;exact⟨z,D,⟨J,O,S,U⟩,W,X,h7⟩
theorem xM(E:d8)(lo K k:Nat)(ih:vX E lo K k)(J:d8)(D:Nat)(d9:lo<=D)(b9:D<J.next)(d2:∀j,j<lo->J.get j=E.get j) (we wt:Value) (va:Option Addr) (ca:Nat) (l:List Q) (hv:QsR E lo k false (.slice va l.length ca) l) (hn:l.length<=1048576) (hw:∀x∈l,OkD false x) (s:Int) (r:PrD×List Int) (f9:r.2.length<=1000000):
  ∀kk e H2,(∃(i:Nat)(p:PrD)(es:List Int)(w u y:Value),kk=l.length-i/\i<=l.length/\e.get 0=pT D/\e.get 6=iV s/\e.get 7=w/\e.get 17= .slice va l.length ca/\e.get 18=iV l.length/\e.get 19=iV i/\PgS (QR E lo K true) D J we wt H2 p/\PgW (QR E lo K true) D H2 u y p/\u6 H2 J.next 1 (w9 inE) w es/\(∀b,l7 w b->¬l7 u b/\¬l7 y b)/\jT (nL (l.drop i)) p/\I9 (l.drop i) s p es=r)->
  w7 (LE prog t6 (.loop Kr) e H2) (fun o e H2=>o= .exit 0/\e.get 0=pT D/\e.get 6=iV s/\∃(w u y:Value),e.get 7=w/\PgS (QR E lo K true) D J we wt H2 r.1/\PgW (QR E lo K true) D H2 u y r.1/\u6 H2 J.next 1 (w9 inE) w r.2/\(∀b,l7 w b->¬l7 u b/\¬l7 y b)):=by
 refine i8 _ _ ?_;rintro kk e H2 ⟨i,p,es,w,u,y,f1,hi,f0,f6,f7,b1,a7,b2,hP,hW,U,I,b6,fu⟩;rcases b:decide ((i:Int)<l.length)with _|_
 .have d0:=dF b;have:l.drop i=[]:=dN oM;rw[this,I9]at fu;subst fu;refine J3 a7 b2 b ?_;exact i9 ⟨rfl,f0,f6,w,u,y,f7,hP,hW,U,I⟩
 have d0:=dT b;have hS:=hP.stay;have f4:=hS.next;have f8:=hP.lt;have f5:D<J.next:=b9;obtain⟨x,nb,o,cs,own,el,hx,hd,rfl,e2,hg,d7,a6,hr⟩:=hv.row (i:=i) oM;have e4:=mG hx;have nt:(i:Int).toNat=i:=tN i;simp only[qSz,bF]at a6 hg d7;have b0:∀j,j<lo->H2.get j=E.get j:=fun j hj=>by rw[hS.get j oM,d2 j hj]
 have a1:el.all oC=true:=F7 hr;have e1:=hr.len;simp only[qSz,bF]at e1;have c3:=N5 hr;rw[e1]at c3;have gx:=(b0 nb e2).trans hg;obtain⟨H3,c6,n3,g3,s3⟩:=pushP H2 (bC [iV 0,nS,nS] 1) (bC el 1);have e9:splice [iV 0,nS,nS] 0 el=el:=x9 _ _ (by rw[e1];rfl);have e3:nL (l.drop i)=nQ x+nL (l.drop (i+1)):=by rw[hd,nL]
 obtain⟨t0,t1,t2,t3⟩:=b6;rw[e3]at t1 t2 t3;have b8:=F8 x p;have W3:PgW (QR E lo K true) D H3 u y p:=⟨(s3.get D oM).trans hW.row,hW.e.keep s3,hW.t.keep s3,hW.d⟩
 obtain⟨v4,h4,H4,b5,d6,rfl,W,f2,_⟩:=ih H3 D el x p d9 (fun j hj=>by rw[s3.get j oM,b0 j hj]) hr (hw x e4) ⟨t0,oM,oM,oM⟩ H3 u y W3.start;have a5:=(hP.work s3).trans' W W3.row;rw[hd,I9]at fu;obtain⟨z,hz⟩:=eY (C6 x p);rw[<-hz]at b5 W a5 fu b8;obtain⟨u0,u1,u2,u3⟩:=b8;obtain⟨c4,c5,W4,a8,e5,e7⟩:=W.w;have n4:=W.stay.next;obtain⟨v5,h5,H5,d1,d3,rfl,X,f3,_⟩:=jF (QR E lo K true) D H4 z.1 s z.2.1 oM H4 c4 c5 W4.start;have b3:=a5.trans' X W4.row;obtain⟨a3,a4,O,a9,e6,e8⟩:=X.w;have n5:=X.stay.next;have d4:∀b,l7 w b->¬l7 c4 b/\¬l7 c5 b:=fun b h=>⟨fun q=>by rcases e5 b q with r|r;exact(I b h).1 r;have:=U.lt h;omega,fun q=>by rcases e7 b q with r|r;exact(I b h).2 r;have:=U.lt h;omega⟩
 have d5:∀b,l7 w b->¬l7 a3 b/\¬l7 a4 b:=fun b h=>⟨fun q=>by rcases e6 b q with r|r;exact(d4 b h).1 r;have:=U.lt h;omega,fun q=>by rcases e8 b q with r|r;exact(d4 b h).2 r;have:=U.lt h;omega⟩
 have c7:u6 H5 J.next 1 (w9 inE) w es:=U.same fun b h=>by
  have h1:=U.lt h;rw[a9 b oM oM (d4 b h).1 (d4 b h).2,a8 b oM oM (I b h).1 (I b h).2,s3.get b oM]
 obtain⟨w6,h6,H6,c9,b7,c8,S⟩:=c7.push1F (P:=prog) (t:=29) (cs:=inE z.2.2) (a:=z.2.2) (by exact CE.2.2.2.2.2.2) ty3.1 ty3.2.1 ty3.2.2.1 oM oM rfl rfl (by have h2:=(cZ (l.drop (i+1)) s (z.1.edge s z.2.1 0 0) (es++[z.2.2])).2;rw[fu]at h2;simp at h2;omega) oM;have n6:=S.next;have c0:=X.lt;have a2:∀{b:Nat},b<H5.next->¬l7 w b->H6.get b=H5.get b:=fun h hw=>S.but _ h hw;have W6:PgW (QR E lo K true) D H6 a3 a4 (z.1.edge s z.2.1 0 0):=⟨(a2 c0 (fun q=>by have:=U.lt q;omega)).trans O.row,O.e.same fun b h=>a2 (O.e.lt h).2 (fun q=>(d5 b q).1 h),O.t.same fun b h=>a2 (O.t.lt h).2 (fun q=>(d5 b q).2 h),O.d⟩
 have b4:PgS (QR E lo K true) D J we wt H6 (z.1.edge s z.2.1 0 0):=by
  obtain⟨⟨g0,g1,k1,k2,k3,k4,k5,k6,k7⟩,ks⟩:=b3;have:=O.row.symm.trans k1;simp only[Option.some.injEq,Blk.cells.injEq,List.cons.injEq,and_true,true_and]at this;obtain⟨rfl,rfl⟩:=this;exact⟨⟨a3,a4,W6.row,W6.e,W6.t,W6.d,fun j hj q1 q2 q3=>by rw[a2 oM (fun q=>by have:=U.lt q;omega)];exact k5 j hj q1 q2 q3,k6,k7⟩,ks.trans (S.stay.weaken oM)⟩
 refine J23 f0 f6 f7 b1 a7 b2 b gx nt a6 a1 e1 e9 c6.symm g3 c3 b5 d6 d1 d3 c9 b7 @wrap_small ?_;refine i4 (kk-1) oM ⟨i+1,z.1.edge s z.2.1 0 0,es++[z.2.2],w6,a3,a4,oM,oM,f0,f6,rfl,b1,a7,rfl,b4,W6,c8,fun b h=>?_,⟨by simp only[X9];omega,by simp only[X9];omega,by rw[P5];omega,by simp only[dx];omega⟩,fu⟩;rcases S.new b h with r|r
 .exact d5 b r
 .exact⟨fun q=>by have:=O.e.lt q;omega,fun q=>by have:=O.t.lt q;omega⟩
theorem xL(Rt:LV->Q->Prop)(O:d8)(E:Nat)(b9:E<O.next)(we wt:Value)(wa:Option Addr)(wc:Nat)(h:List Int)(hn:h.length<=1000000)(s t:Int)(r:PrD):
  ∀kk e H2,(∃(i:Nat)(p:PrD)(y z:Value),kk=h.length-i/\i<=h.length/\e.get 0=pT E/\e.get 6=iV s/\e.get 12=iV t/\e.get 40= .slice wa h.length wc/\e.get 41=iV h.length/\e.get 42=iV i/\PgS Rt E O we wt H2 p/\PgW Rt E H2 y z p/\u6 H2 O.next 1 (w9 inE) (.slice wa h.length wc) h/\(∀b,l7 (.slice wa h.length wc) b->¬l7 y b/\¬l7 z b)/\H2.low<=E/\p.ed.length+(h.length-i)<=1000000/\(h.drop i).foldl (fun m x=>m.edge x t 0 0) p=r)->
  w7 (LE prog t6 (.loop Kt) e H2) (fun o e H2=>o= .exit 2/\e.get 6=iV s/\e.get 12=iV t/\PgS Rt E O we wt H2 r/\H2.low<=E):=by
 refine i8 _ _ ?_;rintro kk e H2 ⟨i,p,y,z,b6,hi,f0,f6,I,U,J,W,hP,hW,X,u,hl,b4,fu⟩;rcases b:decide ((i:Int)<h.length)with _|_
 .have a6:=dF b;have:h.drop i=[]:=dN oM;rw[this,List.foldl_nil]at fu;refine J3 J W b ?_;exact i9 ⟨rfl,f6,I,by rw[<-fu];exact hP,hl⟩
 have a6:=dT b;obtain⟨x,nb,o,cs,own,el,hx,hd,b1,b8,hg,b7,b5,hc,hR⟩:=X.sl.row (i:=i) oM;subst b1;have nt:(i:Int).toNat=i:=tN i;have a8:el=inE x:=hR;subst a8;have c0:=hc 0 oM;rw[Nat.add_zero]at c0;rw[hd,List.foldl_cons]at fu;obtain⟨v5,h5,H5,a7,a9,rfl,a1,b0,_⟩:=jF Rt E H2 p x t oM H2 y z hW.start;have a2:=hP.trans' a1 hW.row;obtain⟨a3,a4,W5,S,b2,b3⟩:=a1.w;have d5:∀b,l7 (.slice (some ⟨nb,o,none⟩) h.length wc) b->¬l7 a3 b/\¬l7 a4 b:=fun b D=>⟨fun q=>by rcases b2 b q with r|r;exact(u b D).1 r;have:=X.lt D;omega,fun q=>by rcases b3 b q with r|r;exact(u b D).2 r;have:=X.lt D;omega⟩
 have a5:u6 H5 O.next 1 (w9 inE) (.slice (some ⟨nb,o,none⟩) h.length wc) h:=X.same fun b D=>by
  have h1:=X.lt D;rw[S b oM oM (u b D).1 (u b D).2]
 refine J12 f0 I U J W b hg nt c0 a7 a9 @wrap_small ?_;exact i4 (kk-1) oM ⟨i+1,p.edge x t 0 0,a3,a4,oM,oM,f0,f6,I,U,J,rfl,a2,W5,a5,d5,b0,by rw[P5];omega,fu⟩
theorem Qd(y:d8)(lo K k:Nat)(ih:vX y lo K k)(H:d8)(I:Nat)(b1:lo<=I)(a8:∀j,j<lo->H.get j=y.get j) (v:Value) (l:List Q) (hv:QsR y lo k false v l) (hn:l.length<=1048576) (hw:∀x∈l,OkD false x) (p:PrD) (X:jT (1+nL l) p) (r:PrD×List Int) (hr:r=I9 l p.st {p with st:=p.st+1} []):
  PgC (QR y lo K true) I (CL prog t6 109 [pT I,v] H) H p (r.2.foldl (fun m x=>m.edge x r.1.st 0 0) {r.1 with st:=r.1.st+1}) (.tuple #[iV p.st,iV r.1.st]):=by
 refine jE fun we wt hp h=>?_;obtain⟨va,ca,rfl⟩:=hv.slice;obtain⟨t0,t1,t2,t3⟩:=X;have c0:=sw l;obtain⟨⟨u0,u1,u2,u3⟩,u4⟩:=cZ l p.st {p with st:=p.st+1} [];rw[<-hr]at u0 u1 u2 u3 u4;simp only[List.length_nil]at u0 u1 u2 u3 u4;have a3:∀j,j<lo->(⟨H.bs,H.next⟩:d8).get j=y.get j:=a8;obtain⟨H1,a6,S,b9,_,n1⟩:=eg h t0 oM;obtain⟨b5,b6,W1,b7,c3,c4⟩:=S.w;rw[j7 Ec rfl _ sM];refine J1 a6 ?_;refine j8 (F:=fun z=>∃H',u5 _ _ _ (u9 (inBlock 0 z) _)=some (D6 _ H H')/\PgS (QR y lo K true) I _ we wt H' _/\H'.low<=I) (xM y lo K k ih ⟨H.bs,H.next⟩ I b1 hp a3 we wt va ca l hv hn hw p.st r oM l.length _ _ ⟨0,{p with st:=p.st+1},[],nS,b5,b6,rfl,oM,rfl,rfl,rfl,rfl,rfl,rfl,S,W1,u6.nil,fun b u=>(B8 b u).elim,⟨by show 0<=p.st+1;omega,by rw[List.drop_zero];show p.st+1+_<=_;omega,by rw[List.drop_zero];show p.ed.length+_<=_;omega,by rw[List.drop_zero];show p.ts.length+_<=_;omega⟩,by rw[List.drop_zero];exact hr.symm⟩) ?_;rintro o' e' H2 ⟨ho,g0,g6,w,c6,c7,g7,a4,W2,D,E⟩;obtain⟨H3,a7,U,a9,_,n3⟩:=eg W2.start oM oM;have W:=a4.trans' U W2.row;obtain⟨a1,a2,W3,O,b3,b4⟩:=U.w;have d3:∀b,l7 w b->¬l7 a1 b/\¬l7 a2 b:=fun b u=>⟨fun q=>by rcases b3 b q with r|r;exact(E b u).1 r;have:=D.lt u;omega,fun q=>by rcases b4 b q with r|r;exact(E b u).2 r;have:=D.lt u;omega⟩
 have n0:(⟨H.bs,H.next⟩:d8).next=H.next:=rfl;have J:u6 H3 (d8.next ⟨H.bs,H.next⟩) 1 (w9 inE) w r.2:=D.same fun b u=>by
  have h1:=D.lt u;rw[O b oM oM (E b u).1 (E b u).2]
 obtain⟨wa,wc,ew⟩:=J.slice;rw[ew]at g7 J d3;refine J4 ho g0 g7 a7 ?_;refine j8 (F:=fun z=>∃H',u5 _ _ _ (u9 (inBlock 2 z) _)=some (D6 _ H H')/\PgS (QR y lo K true) I _ we wt H' _/\H'.low<=I) (xL (QR y lo K true) ⟨H.bs,H.next⟩ I hp we wt wa wc r.2 oM p.st r.1.st _ r.2.length _ _ ⟨0,{r.1 with st:=r.1.st+1},a1,a2,rfl,oM,g0,g6,rfl,rfl,rfl,rfl,W,W3,J,d3,a9,by show r.1.ed.length+_<=_;omega,rfl⟩) ?_;rintro c5 b8 H4 ⟨ho,k6,b2,a5,b0⟩;have ll:H4.low<H.next:=oM;refine J3 ho k6 b2 ?_;exact⟨H4,rfl,a5,b0⟩
theorem Rn(X:d8)(lo K k:Nat)(hk:k<=K)(ih:vX X lo K k):vX X lo K (k+1):=by
 intro H O cs q p c4 e8 hr g9 e9;refine jE fun we wt hp h=>?_;obtain⟨t0,t1,t2,t3⟩:=e9;have j4:=fq q;obtain⟨c6,_,o1,_,h8⟩:=g9.parts;obtain⟨l1,l2,o7,_⟩:=dE h8;simp only[bF]at o7;obtain⟨va,ca,wa,c9,a4,h1,h2,h3,i2⟩:=hr.path;have ac:cs.all oC=true:=by rw[a4];rfl
 have lc:cs.length=3:=by rw[a4];rfl
 have q0:cs[0]?=some (.int .i64 q.op):=by rw[a4];rfl
 have q1:cs[1]?=some (.slice va q.a.length ca):=by rw[a4];rfl
 have q2:cs[2]?=some (.slice wa q.b.length c9):=by rw[a4];rfl
 obtain⟨H1,U,n1,g1,-⟩:=pushF H (bC cs 1);have hS:i6 H.next ⟨H.bs,H.next⟩ H1:=by rw[U];exact i6.push lR
 have b0:∀j,j<lo->H1.get j=X.get j:=fun j hj=>by rw[hS.get j oM];exact e8 j hj
 have W:=h.work hS;have n0:(⟨H.bs,H.next⟩:d8).next=H.next:=rfl;obtain⟨a2,a8,W0,_⟩:=h.w;have W1:PgW (QR X lo K true) O H1 a2 a8 p:=⟨(hS.get O hp).trans W0.row,W0.e.keep hS,W0.t.keep hS,W0.d⟩
 rw[j7 QY rfl _ sM];by_cases e2:q.op=2
 .rw[dQ q p oM oM oM,if_neg oM,if_pos e2,if_neg oM];obtain⟨v5,h5,E,I,J,rfl,D,u,_⟩:=mg (QR X lo K true) O H1 p 1 0 oM t0 oM _ we wt W;have ll:E.low<H.next:=oM;refine J7 ac U.symm g1 q0 e2 I J ?_;exact⟨E,rfl,D,u⟩
 by_cases e3:q.op=3
 .rw[dQ q p oM oM oM,if_neg oM,if_neg e2,if_pos e3,if_neg oM];obtain⟨v5,h5,E,I,J,rfl,D,u,_⟩:=mg (QR X lo K true) O H1 p 2 0 oM t0 oM _ we wt W;have ll:E.low<H.next:=oM;refine J7 ac U.symm g1 q0 e3 I J ?_;exact⟨E,rfl,D,u⟩
 have b2:decide (q.op=2)=false:=decide_eq_false e2;have b3:decide (q.op=3)=false:=decide_eq_false e3;by_cases e4:q.op=4
 .rw[sZ q p e4];have e1:lst false q.op=2:=by rw[e4];decide
  rw[e1]at l1;obtain⟨v5,h5,E,I,J,rfl,D,u,_⟩:=Qc X lo K k ih H1 O c4 b0 (.slice va q.a.length ca) q.a h1 h3 oM c6 p ⟨t0,oM,oM,oM⟩ _ we wt W;have ll:E.low<H.next:=oM;refine J8 ac U.symm g1 q0 q1 e4 I J ?_;exact⟨E,rfl,D,u⟩
 by_cases e5:q.op=5
 .rw[sY q p e5];obtain⟨v5,h5,E,I,J,rfl,D,u,_⟩:=Qd X lo K k ih H1 O c4 b0 (.slice va q.a.length ca) q.a h1 h3 c6 p ⟨t0,oM,oM,oM⟩ _ rfl _ we wt W;have ll:E.low<H.next:=oM;refine J8 ac U.symm g1 q0 q1 e5 I J ?_;exact⟨E,rfl,D,u⟩
 by_cases e6:q.op=6
 .have e1:lst false q.op=1/\mst false q.op=1:=by rw[e6];decide
  rw[e1.1]at l1;rw[e1.2]at l2;obtain⟨x,nb,o,h9,own,el,hx,hd,rfl,g8,f4,g7,a9,hR⟩:=h1.row (i:=0) oM;simp only[qSz,bF,Nat.zero_mul,Nat.add_zero]at a9 f4 g7;have c3:q.a=[x]:=by
   obtain⟨y,hy⟩:=List.length_eq_one_iff.1 (show q.a.length=1 from oM);rw[hy]at hx ⊢;simpa using hx
  have j3:nL q.a=nQ x:=by rw[c3,nL,nL];omega
  rw[pR q p e6 c3];obtain⟨H2,d6,d3,j0,_,n2⟩:=eg W t0 oM;have d1:∀j,j<O->H2.get j=(⟨H.bs,H.next⟩:d8).get j:=d3.stay.get;have d0:∀j,j<lo->H2.get j=X.get j:=fun j hj=>by rw[d1 j oM];exact e8 j hj
  have f7:=(d0 nb g8).trans f4;have g2:H2.get H.next=cE cs 1:=by
   obtain⟨f5,d7,d4,_⟩:=eg W1.start t0 oM;have:f5=H2:=by
    have:=d7.symm.trans d6
    simpa using this
   subst this;obtain⟨_,_,_,c8,_⟩:=d4.w;rw[c8 H.next oM oM (fun q=>by have:=W0.e.lt q;omega) (fun q=>by have:=W0.t.lt q;omega)];exact g1
  obtain⟨v3,i1,H3,d9,f0,rfl,d5,j1,_⟩:=ih H2 O el x {p with st:=p.st+1} c4 d0 hR (c6 x (by rw[c3];simp)) ⟨by show 0<=p.st+1;omega,by show p.st+1+_<=_;omega,by show p.ed.length+_<=_;omega,by show p.ts.length+_<=_;omega⟩ _ we wt d3;have f3:=F8 x {p with st:=p.st+1};obtain⟨z,hz⟩:∃z,z=C6 x {p with st:=p.st+1}:=eX;rw[<-hz]at d9 d5 f3 ⊢;obtain⟨u0,u1,u2,u3⟩:=f3;simp only at u0 u1 u2 u3;obtain⟨v4,h4,H4,g3,f1,rfl,f8,j2,_⟩:=jF (QR X lo K true) O H3 z.1 p.st z.2.1 oM _ we wt d5;obtain⟨v5,h5,E,g4,a6,rfl,D,u,_⟩:=jF (QR X lo K true) O H4 (z.1.edge p.st z.2.1 0 0) z.2.2 p.st (by rw[P5];omega) _ we wt f8;have ll:E.low<H.next:=oM;have i3:(0:Int)<q.a.length:=oM;refine J16 ac U.symm g1 q0 q1 e6 d6 g2 f7 a9 d9 f0 g3 f1 g4 a6 ?_;exact⟨E,rfl,D,u⟩
 have b4:decide (q.op=4)=false:=decide_eq_false e4;have b5:decide (q.op=5)=false:=decide_eq_false e5;have b6:decide (q.op=6)=false:=decide_eq_false e6;by_cases e7:q.op=7
 .rw[dQ q p e4 e5 e6,if_pos e7,if_neg e2,if_neg e3,if_pos e7,if_pos e7];have h0:=o7.1 e7;obtain⟨a3,h5,E,b9,a6,b8,S⟩:=W1.t.appendF (P:=prog) (t:=23) (n:=lo) (l2:=q.b) (x:= .slice wa q.b.length c9) (by exact sU.2.2.2.2.2.2) cr.1 cr.2.1 cr.2.2.1 oM oM (SlI.mono h2 (fun j hj=>b0 j hj) lR (fun _ _ h=>h.upTo hk)) oM oM;have n5:=S.next;have h6:¬l7 a8 O:=fun q=>oN (W1.t.lt q);have d2:E.get O=cE [iV p.st,iV p.sa,iV p.en,a2,a8] 1:=(S.but O oM h6).trans W1.row;obtain⟨a5,c5,a7⟩:=b8.slice;have cw:a3.cells.toList=[a3]:=by rw[a7];rfl
  have ow:Value.oneCell' a3=true:=by rw[a7];rfl
  obtain⟨a0,c0,f6⟩:=W1.t.slice;obtain⟨H6,a1⟩:=eY (E.put O (bC [iV p.st,iV p.sa,iV p.en,a2,a3] 1));have n6:H6.next=E.next:=by rw[a1,t5]
  have b1:H6.get O=cE [iV p.st,iV p.sa,iV p.en,a2,a3] 1:=by rw[a1];exact j5 oM
  have k6:∀j,j≠O->H6.get j=E.get j:=fun j hj=>by rw[a1,j6 (fun q=>hj q.symm)]
  have P6:PgS (QR X lo K true) O H1 a2 a8 H6 {p with ts:=p.ts++q.b}:=by
   refine⟨⟨a2,a3,b1,W1.e.same fun b hb=>?_,b8.same fun b hb=>k6 b (oN (b8.lt hb)),fun b hb q=>?_,fun j hj q1 q2 q3=>by rw[k6 j q1,S.but j hj q3],fun _ h=> .inl h,S.new⟩,?_⟩
   .have:=W1.e.lt hb;rw[k6 b oM,S.but b this.2 (W1.d b hb)]
   .have:=W1.e.lt hb;rcases S.new b q with r|r
    .exact W1.d b hb r
    .omega
   .rw[a1];exact(S.stay.weaken oM).trans (i6.put lR)
  have f9:=W.trans' P6 W1.row;have u:(p.ts++q.b).length=p.ts.length+1:=by rw[List.length_append,h0]
  have ei:(((p.ts++q.b).length:Nat):Int)-1=(p.ts.length:Int):=by rw[u];omega
  obtain⟨v7,h7,H7,g5,f2,rfl,g0,g6,_⟩:=mg (QR X lo K true) O H6 {p with ts:=p.ts++q.b} 3 p.ts.length (by show p.ed.length+1<=_;omega) t0 (by show p.st<=_;omega) _ we wt f9;have ll:H7.low<H.next:=oM;have i0:H6.get H.next=cE cs 1:=by rw[k6 _ oM,S.but _ oM (fun q=>by have:=W0.t.lt q;omega)];exact g1
  rw[a7]at cw ow b1 a1;have c7:=W1.row;rw[f6]at c7 d2 b9;rw[a7]at b9;refine J16 ac U.symm g1 q0 q2 e7 c7 b9 a6 d2 a1.symm b1 ei g5 f2 @wrap_small ?_;exact⟨H7,rfl,g0,g6⟩
 .have b7:decide (q.op=7)=false:=decide_eq_false e7;rw[dQ q p e4 e5 e6,if_neg e7,if_neg e2,if_neg e3,if_neg e7,if_neg e7];obtain⟨v5,h5,E,I,J,rfl,D,u,_⟩:=mg (QR X lo K true) O H1 p 0 0 oM t0 oM _ we wt W;have ll:E.low<H.next:=oM;refine J12 ac U.symm g1 q0 b2 b3 b4 b5 b6 b7 I J ?_;exact⟨E,rfl,D,u⟩
theorem LS(h:d8)(lo K:Nat):∀k,k<=K+1->vX h lo K k:=by
 intro k;induction k with
 |zero=>intro _ H D cs q p _ _ u;exact u.elim
 |succ k y=>intro z;exact Rn h lo K k oM (y oM)
theorem zm(K:Nat)(H:d8)(lo:Nat)(cs:LV)(q:Q)(c0:lo<=H.next)(hr:QR H lo K false cs q)(b1:OkD false q)(b6:nQ q<=100000):
  Ret (CL prog t6 59 [.agg cs.toArray] H) H (CO H (QR H lo K true) (B9 q)):=by
 have a0:=F7 hr;have l0:=hr.len;have S:=N5 hr;rw[l0]at S;simp only[qSz,bF]at S l0;obtain⟨J,D⟩:=eY (((d8.push ⟨H.bs,H.next⟩ (bC cs 1)).push (bC z5 1)).push (bC z5 1));have n0:(d8.push ⟨H.bs,H.next⟩ (bC cs 1)).next=H.next+1:=by rw[i5];rfl
 have b4:((d8.push ⟨H.bs,H.next⟩ (bC cs 1)).push (bC z5 1)).next=H.next+2:=by rw[i5,n0]
 have n1:J.next=H.next+3:=by rw[D,i5,b4]
 have hS:i6 H.next H J:=by rw[D];exact((i6.first H _).trans (i6.push oM)).trans (i6.push oM)
 have g1:J.get H.next=cE cs 1:=by rw[D,i7 oM,i7 oM];exact j9
 have g2:J.get (H.next+1)=cE z5 1:=by rw[D,i7 oM];exact y7 oM
 have g3:J.get (H.next+2)=cE z5 1:=by rw[D];exact y7 oM
 have a3:H.next<=J.low:=by rw[D,l9,l9,l9];exact lR
 have U:PgS (QR H lo K true) (H.next+2) J (nS) (nS) J ⟨0,0,0,[],[]⟩:=PgS.start g3 u6.nil u6.nil (fun b O=>(B8 b O).elim);obtain⟨v3,b9,H2,a1,a2,rfl,hP,hl,_⟩:=LS H lo K K oM J (H.next+2) cs q ⟨0,0,0,[],[]⟩ oM (fun j hj=>hS.get j oM) hr b1 ⟨by decide,by show(0:Int)+_<=_;omega,by simp;omega,by simp;omega⟩ _ _ _ U;obtain⟨y,hy⟩:=eY (C6 q ⟨0,0,0,[],[]⟩);rw[B9,<-hy];rw[<-hy]at a1 hP;obtain⟨we,wt,W,a4,ne,nt⟩:=hP.w;have n2:=hP.stay.next;obtain⟨ea,ec,e1⟩:=W.e.slice;obtain⟨ta,tc,e2⟩:=W.t.slice;have row0:=W.row;have a7:H2.get (H.next+1)=cE z5 1:=(a4 _ oM oM (B8 _) (B8 _)).trans g2;obtain⟨b7,b2⟩:=eY ([iV y.1.st,iV y.2.1,iV y.1.en,we,wt]:LV);obtain⟨u,z⟩:=eY ([iV y.1.st,iV y.2.1,iV y.2.2,we,wt]:LV);obtain⟨H3,E⟩:=eY ((H2.put (H.next+2) (bC [iV y.1.st,iV y.2.1,iV y.1.en,we,wt] 1)).put (H.next+2) (bC u 1));have n3:H3.next=H2.next:=by rw[E,t5,t5]
 have a9:H3.get (H.next+2)=cE u 1:=by rw[E];exact j5 (by rw[t5];omega)
 have a8:H3.get (H.next+1)=cE z5 1:=by rw[E,j6 oM,j6 oM];exact a7
 have a6:u.all oC=true:=by rw[z,e1,e2];rfl
 have l6:u.length=5:=by rw[z];rfl
 have b3:ldC (some true) (some 5) 0 u=some (.agg u.toArray):=by rw[z];rfl
 have b5:splice z5 0 u=u:=x9 _ _ (by rw[l6];rfl);obtain⟨X,I⟩:=eY (H3.put (H.next+1) (bC u 1));have n4:X.next=H3.next:=by rw[I,t5]
 have g4:X.get (H.next+1)=cE u 1:=by rw[I];exact j5 oM
 have s4:i6 H.next J X:=(hP.stay.weaken oM).trans (by rw[I,E];exact((i6.put oM).trans (i6.put oM)).trans (i6.put oM));have b0:=s4.low a3;have k4:∀j,H.next+2<j->X.get j=H2.get j:=fun j hj=>by rw[I,j6 oM,E,j6 oM,j6 oM]
 have a5:PrF X (fun j=>H.next<=j/\j<X.next) (QR H lo K true) u {y.1 with sa:=y.2.1,en:=y.2.2}:=⟨we,wt,z,(W.e.same fun b O=>k4 b (oN (W.e.lt O))).frz fun b O=>by have:=W.e.lt O;omega,(W.t.same fun b O=>k4 b (oN (W.t.lt O))).frz fun b O=>by have:=W.t.lt O;omega⟩
 have b8:(some (Blk.cells [iV y.1.st,iV y.1.sa,iV y.1.en,we,wt] true 1))=cE [iV y.1.st,iV y.1.sa,iV y.1.en,we,wt] 1:=rfl;rw[j7 QP rfl _ sM];rw[z]at E;refine J16 a0 D.symm g1 S a1 a2 @row0 E.symm a9 b3 a8 a6 l6 b5 I.symm g4 ?_;exact tV a5 (hS.trans s4) b0 (fun h=>h)
def dw:List Q->Int->List Int
 |[],_=>[]
 |x::l,n=>n::dw l (n+(B9 x).st)
def gF(L:List Q)(m:PrD):StD:=⟨L,L.map B9,dw L 0,m⟩
theorem qu(l:List PrD):∀n:Int,l.foldl (fun n p=>n+p.st) n=n+A0 l:=by
 induction l with
 |nil=>intro n;simp [A0]
 |cons p l h=>
  intro n;rw[List.foldl_cons,h];show _=n+(p::l).foldl (fun n p=>n+p.st) 0;rw[List.foldl_cons,h (0+p.st)];omega
theorem sh(l l2:List PrD):A0 (l++l2)=A0 l+A0 l2:=by
 show(l++l2).foldl (fun n p=>n+p.st) 0=_;rw[List.foldl_append,qu];rfl
theorem uJ(p:PrD)(l:List PrD):A0 (p::l)=p.st+A0 l:=by
 show(p::l).foldl (fun n p=>n+p.st) 0=_;rw[List.foldl_cons,qu];omega
theorem mB(l:List Q)(x:Q):∀n,dw (l++[x]) n=dw l n++[n+A0 (l.map B9)]:=by
 induction l with
 |nil=>intro n;simp [dw,A0]
 |cons y l h=>
  intro n;rw[List.cons_append,dw,h,dw,List.map_cons,uJ,List.cons_append]
  congr 3;omega
theorem yx(x y:Q):M6 x y=M6 y x:=by
 rw[Bool.eq_iff_iff,ky,ky];exact eq_comm
theorem vG(L:List Q)(m:PrD)(x:Q):E8 (gF L m) x=gF (bR L x) m:=by
 have:(gF L m).paths.any (fun y=>M6 y x)=L.any (fun y=>M6 x y):=by
  show L.any _=_
  congr 1;funext y;exact yx y x
 rw[E8,this,bR];split
 .rfl
 .simp only[gF,List.map_append,mB,Int.zero_add];rfl
theorem Cy(q:Q):C0 q=gF ((inQ false q).foldl bR []) (B9 q):=by
 have:∀(l L:List Q)(m:PrD),l.foldl E8 (gF L m)=gF (l.foldl bR L) m:=by
  intro l;induction l with
  |nil=>intro L m;rfl
  |cons x l h=>intro L m;rw[List.foldl_cons,vG,h,List.foldl_cons]
 exact this (inQ false q) [] (B9 q)
theorem CX(l:List Q)(P:Q->Prop)(z:∀x∈l,P x):∀L:List Q,(∀x∈L,P x)->∀x∈l.foldl bR L,P x:=by
 induction l with
 |nil=>intro L h;exact h
 |cons y l D=>
  intro L h;rw[List.foldl_cons];refine D (fun x u=>z x (by simp [u])) _ fun x u=>?_;unfold bR at u;split at u
  .exact h x u
  .rcases List.mem_append.1 u with u|u
   .exact h x u
   .have:x=y:=by simpa using u
    rw[this];exact z y sM
theorem BF(K:Nat)(Hs:d8)(lo n0 z:Nat)(m3:lo<=n0)(m6:n0<=z)(X:Value)(l:List Q)(hl:l.length<=100000)(j1:∀x∈l,OkD false x/\nQ x<=1000) (ms:LV) (m:PrD) (H1:d8) (i2:∀j,j<lo->H1.get j=Hs.get j) (t2:Value):
  ∀kk e H2,(∃(i:Nat)(w2 w3:Value)(G:Nat->Prop),kk=l.length-i/\i<=l.length/\e.get 2=t2/\e.get 4=pT z/\e.get 5=iV (A0 ((l.take i).map B9))/\e.get 17=X/\e.get 18=iV l.length/\e.get 19=iV i/\0<=A0 ((l.take i).map B9)/\A0 ((l.take i).map B9)<=2000*i/\
    H2.get z=cE (X::w2::w3::ms) 1/\PrF H2 G (QR Hs lo K true) ms m/\SlF H2 G 3 (QR Hs lo K false) X l/\u6 H2 (z+1) 5 (PrF H2 G (QR Hs lo K true)) w2 ((l.take i).map B9)/\u6 H2 (z+1) 1 (w9 inE) w3 (dw (l.take i) 0)/\
    (∀j,G j->n0<=j/\j<H2.next/\j≠z/\¬l7 w2 j/\¬l7 w3 j)/\(∀j,l7 w2 j->¬l7 w3 j)/\i6 n0 H1 H2)->
  w7 (LE prog t6 (.loop Nj) e H2) (fun o e H2=>o= .exit 0/\e.get 2=t2/\e.get 4=pT z/\∃(w2 w3:Value)(G:Nat->Prop),H2.get z=cE (X::w2::w3::ms) 1/\PrF H2 G (QR Hs lo K true) ms m/\SlF H2 G 3 (QR Hs lo K false) X l/\u6 H2 (z+1) 5 (PrF H2 G (QR Hs lo K true)) w2 (l.map B9)/\u6 H2 (z+1) 1 (w9 inE) w3 (dw l 0)/\(∀j,G j->n0<=j/\j<H2.next/\j≠z)/\i6 n0 H1 H2):=by
 refine i8 _ _ ?_;rintro kk e H2 ⟨i,w2,w3,G,m1,hi,f2,f4,f5,d9,c4,e2,l6,m0,g4,d3,b5,a3,E,hG,d2,hS⟩;have m4:=hS.next;have f9:=u7 g4;rcases b:decide ((i:Int)<l.length)with _|_
 .have i0:=dF b;have:l.take i=l:=List.take_of_length_le oM;rw[this]at a3 E;refine J3 c4 e2 b ?_;exact i9 ⟨rfl,f2,f4,w2,w3,G,g4,d3,b5,a3,E,fun j u=>⟨(hG j u).1,(hG j u).2.1,(hG j u).2.2.1⟩,hS⟩
 have i0:=dT b;have f7:=b5.slice;obtain⟨la,lc,c3⟩:=f7;have b9:=b5;rw[c3]at b9;obtain⟨x,nb,o,k8,own,el,hx,hd,j0,l4,i3,m2,g1,hc,hR⟩:=b9.row (i:=i) oM;subst j0;have nt:(i:Int).toNat=i:=tN i;obtain⟨f8,m5⟩:=j1 x (mG hx);have k6:=dR x;have d4:l.take (i+1)=l.take i++[x]:=by rw[List.take_add_one,hx];rfl
 have a1:=F7 hR;have e1:=hR.len;simp only[qSz,bF]at e1;have g2:=N5 hR;rw[e1]at g2;have h5:∀j,j<lo->H2.get j=Hs.get j:=fun j u=>by rw[hS.get j oM,i2 j u]
 obtain⟨H3,h8,n3,g3,s3⟩:=pushP H2 (bC [iV 0,nS,nS] 1) (bC el 1);have k2:splice [iV 0,nS,nS] 0 el=el:=x9 _ _ (by rw[e1];rfl);have d5:∀j,j<lo->H3.get j=Hs.get j:=fun j u=>by rw[s3.get j oM,h5 j u]
 obtain⟨v3,k9,H4,i1,f6,D,rfl,a4,s4⟩:=zm K H3 lo el x oM (hR.mono d5 lR) f8 oM;have n4:=s4.next;have a5:=gU a4;have l5:=co a4;have g0:PrF H4 (fun j=>H3.next<=j/\j<H4.next) (QR Hs lo K true) D (B9 x):=a4.mono (fun _ _=>rfl) (fun _ h=>h) (fun _ _ h=>h.mono (fun j u=>(d5 j u).symm) lR);obtain⟨H5,h9,n5,g5,s5⟩:=pushP H4 (bC z5 1) (bC D 1);have k5:splice z5 0 D=D:=x9 _ _ (by rw[l5];rfl);have b2:i6 H2.next H2 H5:=(s3.trans (s4.weaken oM)).trans (s5.weaken oM);have b3:H5.get z=cE (X::w2::w3::ms) 1:=(b2.get z f9).trans g4;have g6:=co d3;obtain⟨G2,c7⟩:=eY (fun j=>G j\/(H3.next<=j/\j<H4.next):Nat->Prop);have U:∀j,G j->G2 j:=fun j u=>by rw[c7];exact .inl u
 have b6:∀j,G2 j->n0<=j/\j<H4.next/\j≠z/\¬l7 w2 j/\¬l7 w3 j:=fun j u=>by
  rw[c7]at u;rcases u with u|u
  .have:=hG j u;exact⟨this.1,oM,this.2.2⟩
  .exact⟨oM,u.2,oM,fun q=>by have:=a3.lt q;omega,fun q=>by have:=E.lt q;omega⟩
 have b1:∀j,G j->H5.get j=H2.get j:=fun j u=>b2.get j (hG j u).2.1;have g7:∀j,(H3.next<=j/\j<H4.next)->H5.get j=H4.get j:=fun j u=>s5.get j u.2;have d1:PrF H5 G2 (QR Hs lo K true) D (B9 x):=g0.mono g7 (fun j u=>by rw[c7];exact .inr u) iF;have e9:u6 H5 (z+1) 5 (PrF H5 G2 (QR Hs lo K true)) w2 ((l.take i).map B9):=(a3.keep b2).imp fun cs p h=>h.mono b1 U iF;obtain⟨u2,l1,H7,f1,b7,a2,J⟩:=e9.push1F (P:=prog) (t:=28) (cs:=D) (a:=B9 x) (by exact MD.2.2.2.2.2.2) pL.1 pL.2.1 pL.2.2.1 oM oM l5 d1 (by simp;omega) oM;have n7:=J.next;obtain⟨H6,c9,n6,-⟩:=pushE H5 (bC D 5);rw[<-c9]at f1 b7;have e6:H6.get z=cE (X::w2::w3::ms) 1:=by rw[c9,i7 oM];exact b3
 have b4:H7.get z=cE (X::w2::w3::ms) 1:=(J.but z oM (fun q=>by have:=a3.lt q;omega)).trans b3;have f0:u6 H7 (z+1) 1 (w9 inE) w3 (dw (l.take i) 0):=(E.keep b2).same fun b hb=>J.but b (oN (E.lt hb)) (fun q=>d2 b q hb);obtain⟨u3,l3,H9,f3,b8,a8,W⟩:=f0.push1F (P:=prog) (t:=29) (cs:=inE (A0 ((l.take i).map B9))) (a:=A0 ((l.take i).map B9)) (by exact CE.2.2.2.2.2.2) ty3.1 ty3.2.1 ty3.2.2.1 oM oM rfl rfl (by
  have:∀(l:List Q) n,(dw l n).length=l.length:=by
   intro l;induction l with
   |nil=>intro n;rfl
   |cons y l ih=>intro n;rw[dw,List.length_cons,ih,List.length_cons]
  rw[this];simp;omega) oM
 have n9:=W.next;obtain⟨H8,d0,n8,-⟩:=pushE H7 (.cells (inE (A0 ((l.take i).map B9))) true 1);rw[<-d0]at f3 b8;have e7:H8.get z=cE (X::w2::w3::ms) 1:=by rw[d0,i7 oM];exact b4
 have e8:H9.get z=cE (X::w2::w3::ms) 1:=(W.but z oM (fun q=>by have:=E.lt q;omega)).trans b4;obtain⟨ub,n1,d6⟩:=a2.slice;have j3:Value.oneCell' u2=true:=by rw[d6];rfl
 have h0:u2.cells.toList=[u2]:=by rw[d6];rfl
 obtain⟨m9,k7,d7⟩:=a8.slice;have j4:Value.oneCell' u3=true:=by rw[d7];rfl
 have h4:u3.cells.toList=[u3]:=by rw[d7];rfl
 obtain⟨R8,a9⟩:=eY (X::w2::w3::ms);rw[<-a9]at b3 e6 b4 e7 e8;have l8:R8.length=8:=by rw[a9];simp [g6]
 have k0:R8[1]?=some w2:=by rw[a9];rfl
 have k1:R8[2]?=some w3:=by rw[a9];rfl
 obtain⟨a7,b0⟩:=eY (X::u2::w3::ms);have k3:splice R8 1 [u2]=a7:=by rw[a9,b0];rfl
 have lb:a7.length=8:=by rw[b0];simp [g6]
 have k4:splice a7 2 [u3]=X::u2::u3::ms:=by rw[b0];rfl
 obtain⟨a6,O⟩:=eY (H9.put z (bC a7 1));have m7:a6.next=H9.next:=by rw[O,t5]
 have e4:a6.get z=cE a7 1:=by rw[O];exact j5 oM
 obtain⟨I,S⟩:=eY (a6.put z (bC (X::u2::u3::ms) 1));have m8:I.next=a6.next:=by rw[S,t5]
 have h6:I.get z=cE (X::u2::u3::ms) 1:=by rw[S];exact j5 oM
 have c5:∀j,j≠z->I.get j=H9.get j:=fun j u=>by rw[S,j6 (fun q=>u q.symm),O,j6 (fun q=>u q.symm)]
 have e3:∀j,j<H5.next->j≠z->¬l7 w2 j->¬l7 w3 j->I.get j=H5.get j:=fun j u h1 h2 h3=>by rw[c5 j h1,W.but j oM h3,J.but j u h2]
 have e5:I.get H4.next=cE D 1:=(e3 _ oM oM (fun q=>by have:=a3.lt q;omega) (fun q=>by have:=E.lt q;omega)).trans g5;have j2:ldC (some true) (some 5) 0 D=some (.agg D.toArray):=by obtain⟨_,_,_,_,rfl,_⟩:=D5 a4;rfl
 have g9:D[0]?=some (.int .i64 (B9 x).st):=by obtain⟨_,_,_,_,rfl,_⟩:=D5 a4;rfl
 have g8:bsA prog (some 32) H5 1 [(0,.agg D.toArray)]=some (sL H5.next 1 1,H6):=by
  rw[c9];obtain⟨_,_,_,_,rfl,_⟩:=D5 a4;simp only[C7,pL,C8];rfl
 have h7:=i3;have c8:I=a6.put z (.cells (.slice (some ⟨nb,o,none⟩) l.length lc::u2::u3::ms) true 1):=by rw[S,c3]
 refine J30 f4 f5 d9 c4 e2 c3 b h7 nt (aI g1 a1) (aI e1 k2) (aI h8.symm g3) (aI g2 i1) (aI f6 a5) (aI l5 k5) (aI h9.symm g5) (aI b3 e6) (aI b4 e7) (aI e8 k0) (aI k1 j2) (aI g8 f1) (aI b7 d0.symm) (aI f3 b8) (aI l8 j3) (aI h0 k3) (aI O.symm e4) (aI lb j4) (aI h4 k4) (aI c8.symm e5) (aI g9 @wrap_small) ?_;have c6:∀j,G2 j->I.get j=H5.get j:=fun j u=>by
  obtain⟨q1,q2,q3,q4,q5⟩:=b6 j u;exact e3 j oM q3 q4 q5
 have c0:A0 ((l.take (i+1)).map B9)=A0 ((l.take i).map B9)+(B9 x).st:=by rw[d4,List.map_append,sh,List.map_singleton];simp [A0]
 have eb:dw (l.take (i+1)) 0=dw (l.take i) 0++[A0 ((l.take i).map B9)]:=by rw[d4,mB,Int.zero_add]
 have em:(l.take (i+1)).map B9=(l.take i).map B9++[B9 x]:=by rw[d4,List.map_append];rfl
 refine i4 (kk-1) oM ⟨i+1,u2,u3,G2,oM,oM,f2,f4,by rw[c0];rfl,d9,c4,rfl,by rw[c0];omega,by rw[c0];omega,h6,?_,?_,?_,?_,?_,?_,?_⟩
 .exact d3.mono (fun j u=>by rw[c6 j (U j u),b1 j u]) U iF
 .exact b5.mono (fun j u=>by rw[c6 j (U j u),b1 j u]) U iF
 .rw[em];refine(a2.same (H':=I) fun b hb=>?_).imp fun cs p h=>h.mono c6 (fun _ h=>h) iF;have h1:=a2.lt hb;have h2:¬l7 w3 b:=by
   rcases J.new b hb with q|q
   .exact d2 b q
   .exact fun q=>oN (E.lt q)
  rw[c5 b oM,W.but b oM h2]
 .rw[eb];exact a8.same fun b hb=>c5 b (oN (a8.lt hb))
 .intro j u;obtain⟨q1,q2,q3,q4,q5⟩:=b6 j u;refine⟨q1,oM,q3,fun q=>?_,fun q=>?_⟩
  .rcases J.new j q with q|q
   .exact q4 q
   .omega
  .rcases W.new j q with q|q
   .exact q5 q
   .omega
 .intro j u q;have h1:=a2.lt u;rcases W.new j q with q|q
  .have:=E.lt q;rcases J.new j u with r|r
   .exact d2 j r q
   .omega
  .omega
 .exact(((hS.trans (b2.weaken oM)).trans (J.stay.weaken oM)).trans (W.stay.weaken oM)).trans (by rw[S,O];exact(i6.put oM).trans (i6.put oM))
theorem yK(K:Nat)(H:d8)(lo:Nat)(cs:LV)(q:Q)(g9:lo<=H.next)(hr:QR H lo K false cs q)(b3:OkD false q)(g6:nQ q<=1000):
  Ret (CL prog t6 32 [.agg cs.toArray] H) H (vZ H (QR H lo K false) (QR H lo K true) (C0 q)):=by
 have a0:=F7 hr;have l0:=hr.len;have b4:=N5 hr;rw[l0]at b4;simp only[qSz,bF]at b4 l0;obtain⟨W,J⟩:=eY (((d8.push ⟨H.bs,H.next⟩ (bC cs 1)).push (bC z8 1)).push (bC [nS] 1));have n0:(d8.push ⟨H.bs,H.next⟩ (bC cs 1)).next=H.next+1:=by rw[i5];rfl
 have f7:((d8.push ⟨H.bs,H.next⟩ (bC cs 1)).push (bC z8 1)).next=H.next+2:=by rw[i5,n0]
 have n1:W.next=H.next+3:=by rw[J,i5,f7]
 have hS:i6 H.next H W:=by rw[J];exact((i6.first H _).trans (i6.push oM)).trans (i6.push oM)
 have g1:W.get H.next=cE cs 1:=by rw[J,i7 oM,i7 oM];exact j9
 have g2:W.get (H.next+1)=cE z8 1:=by rw[J,i7 oM];exact y7 oM
 have g3:W.get (H.next+2)=cE [nS] 1:=by rw[J];exact y7 oM
 have c4:H.next<=W.low:=by rw[J,l9,l9,l9];exact lR
 have f5:QR W lo K false cs q:=hr.mono (fun j y=>hS.get j oM) lR;obtain⟨v2,h2,H2,e9,b9,rfl,⟨⟨w,gm,hO,_,b6,h0⟩,s2⟩,_⟩:=(HU K).1 W lo (H.next+2) K (nS) [] cs q lR oM g3 u6.nil f5 b3 (by simp;omega);have n2:=s2.next;have d6:H2.get H.next=cE cs 1:=(b6 _ oM oM (B8 _)).trans g1;have d7:H2.get (H.next+1)=cE z8 1:=(b6 _ oM oM (B8 _)).trans g2;obtain⟨g8,c6⟩:=bS _ false q lR b3;obtain⟨L,hL⟩:=eY ((inQ false q).foldl bR []);have g7:L.length<=1000:=by have:=cV (inQ false q) [];rw[<-hL]at this;simp at this;omega
 have e8:∀x∈L,OkD false x/\nQ x<=1000:=by
  rw[hL];exact CX _ _ (fun x hx=>by have:=c6 x hx;exact⟨this.1,oM⟩) [] sM
 rw[<-hL]at hO;rw[Cy,<-hL];obtain⟨wa,wc,ew⟩:=hO.slice;have a9:∀j,j<lo->H2.get j=H.get j:=fun j y=>by rw[s2.get j oM,hS.get j oM]
 obtain⟨v3,h3,X,f0,c0,E,rfl,a4,s3⟩:=zm K H2 lo cs q oM (hr.mono a9 lR) b3 oM;have n3:=s3.next;have a5:=gU a4;have l5:=co a4;have d0:PrF X (fun j=>H2.next<=j/\j<X.next) (QR H lo K true) E (B9 q):=a4.mono (fun _ _=>rfl) (fun _ h=>h) (fun _ _ h=>h.mono (fun j y=>(a9 j y).symm) lR);obtain⟨ea,ec,ta,tc,c7,he,ht⟩:=D5 a4;have b0:X.get (H.next+2)=cE [w] 1:=(s3.get _ oM).trans gm;obtain⟨H4,b1,n4,d9,-⟩:=pushE X (bC z8 1);have e6:H4.get (H.next+2)=cE [w] 1:=by rw[b1,i7 oM];exact b0
 obtain⟨I,O⟩:=eY (w::nS::nS::E:LV);have a8:I.length=8:=by rw[O];simp [l5]
 have ow:Value.oneCell' w=true:=by rw[ew];rfl
 have cw:w.cells.toList=[w]:=by rw[ew];rfl
 have b5:I.all oC=true:=by rw[O];simp only[List.all_cons,a5,ow];rfl
 have g0:splice (splice z8 0 [w]) 3 E=I:=by rw[O,c7];rfl
 have d2:splice [w,nS,nS,iV 0,iV 0,iV 0,nS,nS] 3 E=I:=g0;have g4:splice z8 0 I=I:=x9 _ _ (by rw[a8];rfl);obtain⟨S,a1⟩:=eY (H4.put X.next (bC I 1));have n5:S.next=H4.next:=by rw[a1,t5]
 have s5:i6 X.next X S:=by rw[a1,b1];exact(i6.push lR).trans (i6.put lR)
 have g5:S.get X.next=cE I 1:=by rw[a1];exact j5 oM
 have e7:S.get (H.next+2)=cE [w] 1:=(s5.get _ oM).trans b0;have a7:i6 H2.next H2 S:=s3.trans (s5.weaken oM);have e1:S.get (H.next+1)=cE z8 1:=(a7.get _ oM).trans d7;have d3:∀j,j<lo->S.get j=H.get j:=fun j y=>by rw[a7.get j oM,a9 j y]
 obtain⟨G,hG⟩:=eY (fun j=>l7 w j\/(H2.next<=j/\j<X.next):Nat->Prop);have f3:SlF S G 3 (QR H lo K false) w L:=((hO.keep a7).frz fun b hb=>by rw[hG];exact .inl hb).mono (fun _ _=>rfl) (fun _ h=>h) (fun _ _ h=>h.mono (fun j y=>(hS.get j oM).symm) lR);have c8:PrF S G (QR H lo K true) E (B9 q):=d0.mono (fun j y=>s5.get j y.2) (fun j y=>by rw[hG];exact .inr y) iF;have f8:i6 H.next W S:=(s2.weaken oM).trans (a7.weaken oM);have d4:w= .slice wa L.length wc:=ew;have c3:∀Hx:d8,D7 prog .len [22] [w] Hx=some (.int .i64 L.length,none):=fun Hx=>by
  rw[d4];exact J1 lP trivial
 rw[j7 Pk rfl _ sM];refine J25 a0 J.symm g1 b4 e9 b9 gm d6 f0 c0 b0 b1.symm e6 ow cw l5 a5 d2 a8 b5 g4 d9 a1.symm e7 c3 ?_;refine j8 (F:=fun z=>Ret (u5 _ _ _ (u9 (inBlock 0 z) _)) _ _) (BF K H lo (H.next+3) X.next oM oM w L oM e8 E (B9 q) S d3 (pT (H.next+1)) L.length _ _ ⟨0,nS,nS,G,rfl,oM,rfl,rfl,rfl,rfl,rfl,rfl,by simp [A0],by simp [A0],by rw[<-O];exact g5,c8,f3,u6.nil,u6.nil,fun j y=>?_,fun j y=>(B8 j y).elim,i6.refl _ _⟩) ?_
 .rw[hG]at y;rcases y with y|y
  .have:=hO.lt y;exact⟨oM,oM,oM,B8 j,B8 j⟩
  .exact⟨oM,oM,oM,B8 j,B8 j⟩
 rintro o e' H6 ⟨ho,f2,f4,w2,w3,G',b7,c9,c5,a2,a3,b8,b2⟩;have n6:=b2.next;have e4:H6.get (H.next+1)=cE z8 1:=(b2.get _ oM).trans e1;obtain⟨rb,rd,e2⟩:=a2.slice;obtain⟨re,rf,e3⟩:=a3.slice;obtain⟨u,D⟩:=eY (w::w2::w3::E:LV);rw[<-D]at b7;have f6:ldC (some true) (some 8) 0 u=some (.agg u.toArray):=by rw[D,e2,e3,c7];rfl
 have a6:u.all oC=true:=by rw[D,e2,e3];simp only[List.all_cons,a5,ow];rfl
 have l6:u.length=8:=by rw[D];simp [l5]
 have f9:splice z8 0 u=u:=x9 _ _ (by rw[l6];rfl);obtain⟨H7,U⟩:=eY (H6.put (H.next+1) (bC u 1));have n7:H7.next=H6.next:=by rw[U,t5]
 have e5:H7.get (H.next+1)=cE u 1:=by rw[U];exact j5 oM
 have d1:i6 H.next W H7:=by rw[U];exact(f8.trans (b2.weaken oM)).trans (i6.put oM)
 have s7:i6 H.next H H7:=hS.trans d1;have f1:H.next<=H7.low:=d1.low c4;have k7:∀j,H.next+2<=j->H7.get j=H6.get j:=fun j y=>by rw[U,j6 oM]
 have d5:StF H7 (fun j=>H.next<=j/\j<H7.next) (QR H lo K false) (QR H lo K true) u (gF L (B9 q)):=by
  have gg:∀j,G' j->H7.get j=H6.get j:=fun j y=>k7 j (oN (b8 j y));have gs:∀j,G' j->H.next<=j/\j<H7.next:=fun j y=>oN (b8 j y);refine⟨w,w2,w3,E,D,?_,?_,?_,?_⟩
  .exact c5.mono gg gs iF
  .exact((a2.same fun b hb=>k7 b (oN (a2.lt hb))).imp fun cs p h=>h.mono gg gs iF).frz fun b hb=>oN (a2.lt hb)
  .exact(a3.same fun b hb=>k7 b (oN (a3.lt hb))).frz fun b hb=>oN (a3.lt hb)
  .exact c9.mono gg gs iF
 refine J11 ho f2 f4 b7 f6 e4 a6 l6 f9 U.symm e5 ?_;exact qQ d5 s7 f1 (fun h=>h)
def an(b:Bool):Value:= .int .u8 (if b then 1 else 0)
def rn(b:Bool):LV:=[an b]
structure PWf(p:PrD):Prop where
 st:0<=p.st/\p.st<=1000000
 sa:0<=p.sa/\p.sa<p.st
 en:0<=p.en/\p.en<p.st
 ed:∀x∈p.ed,0<=x.1/\x.1<p.st/\0<=x.2.1/\x.2.1<p.st/\(x.2.2.1=3->0<=x.2.2.2/\x.2.2.2<p.ts.length)
structure WfS(s:StD)(n:Nat):Prop where
 l1:s.progs.length=s.paths.length
 l2:s.base.length=s.paths.length
 l0:s.paths.length<=100000
 nle:n<=1000000
 at_:∀(i:Nat) p b,s.progs[i]?=some p->s.base[i]?=some b->0<=b/\b+p.st<=n/\PWf p
def A7(k:Int)(nm:NmQ):List AtD->ByteArray×Bool
 |[]=>(eB,false)
 |a::l=>if L3 (a.space,a.loc) nm then(a.val,decide (k=1)) else A7 k nm l
def ax(bs:List Bool)(n:Int):Bool:=bs.getD n.toNat false
def dJ(s:StD)(bs:List Bool)(p:Q):Bool:=decide (0<=jl s.paths p)&&ax bs (s.base.getD (jl s.paths p).toNat 0+(s.progs.getD (jl s.paths p).toNat ⟨0,0,0,[],[]⟩).sa)
mutual
def D4(s:StD)(e:EvD)(bs:List Bool):Q->Bool
 | .mk o sp lc vl a b=>if o=1 then true else if o=2 then decide (e.kind=1) else if o=3 then !decide (e.kind=1) else if o=4 then decide (e.kind=1)&&L3 (e.space,e.loc) (sp,lc) else
  if o=5 then(A7 e.kind (sp,lc) e.attrs).2 else if o=6 then(A7 e.kind (sp,lc) e.attrs).2&&decide ((A7 e.kind (sp,lc) e.attrs).1=vl) else if o=7 then !decide (e.kind=1)&&decide (e.text=vl) else
  if o=8\/o=9 then(anyF s e bs a==decide (o=8)) else if o=10 then anyH s e bs a else b.any (dJ s bs)
def anyH(s:StD)(e:EvD)(bs:List Bool):List Q->Bool
 |[]=>false
 |x::l=>D4 s e bs x||anyH s e bs l
def anyF(s:StD)(e:EvD)(bs:List Bool):List Q->Bool
 |[]=>false
 |x::l=> !D4 s e bs x||anyF s e bs l
end
theorem zf(s:StD)(e:EvD)(bs:List Bool):∀l,anyH s e bs l=l.any (D4 s e bs)
 |[]=>by rw[anyH];rfl
 |x::l=>by rw[anyH,zf s e bs l,List.any_cons]
theorem ze(s:StD)(e:EvD)(bs:List Bool):∀l,anyF s e bs l=l.any (fun x=> !D4 s e bs x)
 |[]=>by rw[anyF];rfl
 |x::l=>by rw[anyF,ze s e bs l,List.any_cons]
theorem qt(s:StD)(e:EvD)(bs:List Bool)(q:Q):D4 s e bs q=if q.op=1 then true else if q.op=2 then decide (e.kind=1) else if q.op=3 then !decide (e.kind=1) else if q.op=4 then decide (e.kind=1)&&L3 (e.space,e.loc) (q.sp,q.lc) else
  if q.op=5 then(A7 e.kind (q.sp,q.lc) e.attrs).2 else if q.op=6 then(A7 e.kind (q.sp,q.lc) e.attrs).2&&decide ((A7 e.kind (q.sp,q.lc) e.attrs).1=q.vl) else if q.op=7 then !decide (e.kind=1)&&decide (e.text=q.vl) else
  if q.op=8\/q.op=9 then(q.a.any (fun x=> !D4 s e bs x)==decide (q.op=8)) else if q.op=10 then q.a.any (D4 s e bs) else q.b.any (dJ s bs):=by
 cases q;rw[D4,zf,ze];rfl
theorem Mx(k:Nat)(H:d8)(lo W:Nat)(h el:LV)(x y:Q)(a2:lo<=H.next)(X:H.get W=cE h 1)(U:QR H lo k false h x)(I:QR H lo k false el y):
  CL prog t6 165 [.agg el.toArray,pT W] H=some (.bool (M6 y x),none):=by
 have a0:el.all oC=true:=F7 I;have u:=N5 U;have z:=N5 I;rw[U.len]at u;rw[I.len]at z;simp only[qSz,bF]at u z;obtain⟨J,D,-,g1,E⟩:=pushF H (bC el 1);have n1:=E.next;have S:=u7 X;have gx:J.get W=cE h 1:=(E.get _ S).trans X;have a1:H.next<=J.low:=by rw[D,l9];exact lR
 have O:=(im k).1 J lo el h y x oM (I.mono (fun j hj=>E.get j oM) lR) (U.mono (fun j hj=>E.get j oM) lR);rw[j7 Pi rfl _ sM];exact J7 a0 D.symm g1 gx u z O trivial
theorem yI(K:Nat)(H I:d8)(F:Nat->Prop)(lo:Nat)(Rt:LV->Q->Prop)(cs el:LV)(s:StD)(x:Q)(a5:lo<=H.next)(hF:∀j,F j->j<H.next) (W:∀j,j<lo->H.get j=I.get j) (hs:StF H F (QR I lo K false) Rt cs s) (hx:QR I lo K false el x) (hn:s.paths.length<=100000):
  CL prog t6 154 [.agg cs.toArray,.agg el.toArray] H=some (.int .i64 (jl s.paths x),none):=by
 obtain⟨pa,pc,ga,gc,ba,bc,ea,ec,ta,tc,E,h1,h2,h3,h4,h5⟩:=F1 hs;have a0:cs.all oC=true:=by rw[E];rfl
 have r1:cs[0]?=some (.slice pa s.paths.length pc):=by rw[E];rfl
 have a1:=F7 hx;obtain⟨u,z⟩:=eY ((d8.push ⟨H.bs,H.next⟩ (bC cs 1)).push (bC el 1));have n0:(d8.push ⟨H.bs,H.next⟩ (bC cs 1)).next=H.next+1:=by rw[i5];rfl
 have S:i6 H.next H u:=by rw[z];exact(i6.first H _).trans (i6.push oM)
 have g1:u.get H.next=cE cs 1:=by rw[z,i7 oM];exact j9
 have g2:u.get (H.next+1)=cE el 1:=by rw[z];exact y7 oM
 have a4:H.next<=u.low:=by rw[z,l9,l9];exact lR
 have a6:=S.next;have D:∀j,j<lo->u.get j=I.get j:=fun j X=>by rw[S.get j oM,W j X]
 have O:SlF u F 3 (QR u lo K false) (.slice pa s.paths.length pc) s.paths:=h1.mono (fun j X=>S.get j (hF j X)) (fun _ h=>h) (fun _ _ h=>h.mono D lR);have a2:QR u lo K false el x:=hx.mono D lR;have U:=nr (α:=Q) u F (QR u lo K false) (.func (.func 165) #[] #[pT (H.next+1)]) (fun y=>M6 y x) (.slice pa s.paths.length pc) s.paths O oM (fun i y J hy a3=>Mx K _ lo (H.next+1) el J x y (show lo<=u.next from oM) g2 (a2.mono (H:=u) (H':=⟨u.bs,u.next⟩) (fun _ _=>rfl) lR) (a3.mono (H:=u) (H':=⟨u.bs,u.next⟩) (fun _ _=>rfl) lR));rw[j7 Ph rfl _ sM];refine J6 a0 a1 z.symm g1 r1 U ?_;rfl
structure fB(Hs:d8)(lo K pn:Nat)(s:StD)(e:EvD)(bs:List Bool)(F:Nat->Prop)(H:d8):Prop where
 ex:∃rs re ba bc,H.get pn=some (.cells (rs++(re++[.slice ba bs.length bc])) true 1)/\StF H F (QR Hs lo K false) (QR Hs lo K true) rs s/\EvF H F re e/\SlF H F 1 (w9 rn) (.slice ba bs.length bc) bs
 lt:∀j,F j->j<H.next
 eq:∀j,j<lo->H.get j=Hs.get j
 lo:lo<=H.next
theorem fB.work{E:d8}{lo K D:Nat}{s:StD}{e:EvD}{bs:List Bool}{F:Nat->Prop}{H H':d8}(h:fB E lo K D s e bs F H)(y:i6 H.next H H'):fB E lo K D s e bs F H':=by
 obtain⟨⟨rs,re,O,S,I,U,W,X⟩,J,h6,h7⟩:=h;have hn:=y.next;have z:∀j,F j->H'.get j=H.get j:=fun j u=>y.get j (J j u);exact⟨⟨rs,re,O,S,(y.get D (u7 I)).trans I,U.mono z (fun _ h=>h) iF iF,y9 _ _ _ _ _ _ W z (fun _ h=>h),X.mono z (fun _ h=>h) iF⟩,fun j u=>by have:=J j u;omega,fun j u=>by rw[y.get j oM];exact h6 j u,oM⟩
theorem fB.low{u:d8}{lo K y:Nat}{s:StD}{e:EvD}{bs:List Bool}{F:Nat->Prop}{H:d8}(h:fB u lo K y s e bs F H)(n:Nat):fB u lo K y s e bs F ⟨H.bs,n⟩:=by
 obtain⟨⟨rs,X,z,D,E,I,J,O⟩,S,U,W⟩:=h;exact⟨⟨rs,X,z,D,E,I.mono (fun _ _=>rfl) (fun _ h=>h) iF iF,y9 _ _ _ _ _ _ J (fun _ _=>rfl) (fun _ h=>h),O.mono (fun _ _=>rfl) (fun _ h=>h) iF⟩,S,U,W⟩
theorem Ar(u:d8)(F:Nat->Prop)(hF:∀j,F j->j<u.next) (pn px:Nat) (W:LV) (g:u.get pn=cE W 1) (kd:Int) (r8:W[8]?=some (.int .i64 kd)) (nm:NmQ) (gx:u.get px=cE (nmE nm) 1) (va:Option Addr) (ca:Nat) (l:List AtD) (hv:SlF u F 3 (w9 atE) (.slice va l.length ca) l) (hn:l.length<=1000000) (r:ByteArray×Bool):
  ∀kk e H2,(∃i:Nat,kk=l.length-i/\i<=l.length/\e.get 0=pT pn/\e.get 3=pT px/\e.get 12= .slice va l.length ca/\e.get 13=iV l.length/\e.get 14=iV i/\i6 u.next u H2/\A7 kd nm (l.drop i)=r)->
  w7 (LE prog t6 (.loop KF) e H2) (fun o e H2=>i6 u.next u H2/\((o= .exit 0/\r=(eB,false))\/(o= .ret/\e.get 4= .string r.1/\e.get 5= .bool r.2))):=by
 refine i8 _ _ ?_;rintro kk e H2 ⟨i,hk,hi,f0,f3,E,y,I,J,z⟩;rcases b:decide ((i:Int)<l.length)with _|_
 .have a3:=dF b;have:l.drop i=[]:=dN oM;rw[this,A7]at z;refine J3 y I b ?_;exact i9 ⟨J,.inl ⟨rfl,z.symm⟩⟩
 have a3:=dT b;have a7:=J.next;have a4:=u7 g;have a5:=u7 gx;obtain⟨a,nb,o,cs,own,el,hx,hd,rfl,a2,hg,a6,U,hc,rfl⟩:=hv.row (i:=i) oM;have nt:(i:Int).toNat=i:=tN i;have g2:=(J.get nb (hF _ a2)).trans hg;obtain⟨H3,S,n3,g3,s3⟩:=pushP H2 (bC [.string eB,.string eB,.string eB] 1) (bC [.string a.space,.string a.loc,.string a.val] 1);have a1:=(s3.get pn oM).trans ((J.get pn a4).trans g);have O:=(s3.get px oM).trans ((J.get px a5).trans gx);have h:ldC (some true) (some 3) (o+i*3) cs=some (.agg #[.string a.space,.string a.loc,.string a.val]):=U;have X:i6 u.next u H3:=J.trans (s3.weaken oM);rw[hd,A7]at z;rcases b2:L3 (a.space,a.loc) nm with _|_
 .simp only[b2,bF]at z;have D:(decide (a.space=nm.1)&&decide (a.loc=nm.2))=false:=b2;refine J13 f3 E y I b g2 nt h S.symm g3 O D @wrap_small ?_;exact i4 (kk-1) oM ⟨i+1,oM,oM,f0,f3,E,y,rfl,X,z⟩
 .simp only[b2,if_true]at z;have D:(decide (a.space=nm.1)&&decide (a.loc=nm.2))=true:=b2;refine J15 f0 f3 E y I b g2 nt h S.symm g3 O D a1 r8 ?_;exact z9 ⟨X,.inr ⟨rfl,by rw[<-z];rfl,by rw[<-z];rfl⟩⟩
theorem Mt(Hs:d8)(lo K pn:Nat)(s:StD)(e:EvD)(bs:List Bool)(F:Nat->Prop)(H:d8)(hN:fB Hs lo K pn s e bs F H)(nm:NmQ)(hl:e.attrs.length<=1000000):
  CL prog t6 135 [pT pn,.agg (nmE nm).toArray] H=some (.tuple #[.string (A7 e.kind nm e.attrs).1,.bool (A7 e.kind nm e.attrs).2],none):=by
 obtain⟨H1,I,-,gx,hS⟩:=pushF H (bC (nmE nm) 1);have u:H.next<=H1.low:=by rw[I,l9];exact lR
 have S:=hS.next;obtain⟨⟨rs,re,ba,bc,g,hs,⟨av,U,O⟩,hb⟩,hF,_,_⟩:=hN.work hS;obtain⟨pa,pc,ga,gc,xa,xc,ea,ec,ta,tc,W,_⟩:=F1 hs;obtain⟨D,E,rfl⟩:=O.slice;obtain⟨y,h⟩:=eY (rs++(re++[.slice ba bs.length bc]));rw[<-h]at g;have r8:y[8]?=some (.int .i64 e.kind):=by rw[h,W,U];rfl
 have a1:y[11]?=some (.slice D e.attrs.length E):=by rw[h,W,U];rfl
 rw[j7 Jq rfl _ sM];refine J3 I.symm g a1 ?_;refine j8 (F:=fun z=>u5 _ _ _ (u9 (inBlock 0 z) _)=_) (Ar H1 F hF pn H.next y g e.kind r8 nm gx D E e.attrs O hl (A7 e.kind nm e.attrs) e.attrs.length _ _ ⟨0,rfl,oM,rfl,rfl,rfl,rfl,rfl,i6.refl _ _,rfl⟩) ?_;rintro o e' H' ⟨J,⟨ho,hr⟩|⟨ho,h4,h5⟩⟩
 .have X:=(J.weaken S).low u;exact J2 ho hr trivial
 .have X:=(J.weaken S).low u;exact J3 ho h4 h5 trivial
theorem Mv(Hs:d8)(lo K pn:Nat)(s:StD)(e:EvD)(bs:List Bool)(F:Nat->Prop)(H:d8)(hN:fB Hs lo K pn s e bs F H)(X:WfS s bs.length)(el:LV)(x:Q)(hx:QR Hs lo K false el x):
  CL prog t6 138 [pT pn,.agg el.toArray] H=some (.bool (dJ s bs x),none):=by
 have a1:=F7 hx;have J:=N5 hx;rw[hx.len]at J;simp only[qSz,bF]at J;obtain⟨H1,W,-,gx,hS⟩:=pushF H (bC el 1);have d6:H.next<=H1.low:=by rw[W,l9];exact lR
 have f0:=hS.next;obtain⟨⟨rs,re,ba,bc,g,hs,c3,hb⟩,hF,c0,c7⟩:=hN.work hS;have u:=yI K H1 Hs F lo _ rs el s x c7 hF c0 hs hx X.l0;obtain⟨pa,pc,ga,gc,xa,xc,ea,ec,ta,tc,E,h1,h2,h3,_⟩:=F1 hs;obtain⟨av,I,e6⟩:=c3;obtain⟨O,h⟩:=eY (rs++(re++[.slice ba bs.length bc]));rw[<-h]at g;have f4:rs.length=8:=by rw[E];rfl
 have U:ldC (some true) (some 8) 0 O=some (.agg rs.toArray):=by rw[h,E,I];rfl
 have r1:O[1]?=some (.slice ga s.progs.length gc):=by rw[h,E,I];rfl
 have r2:O[2]?=some (.slice xa s.base.length xc):=by rw[h,E,I];rfl
 have d2:O[13]?=some (.slice ba bs.length bc):=by rw[h,E,I];rfl
 rw[j7 Pb rfl _ sM,dJ];have D:=dS (fun y=>M6 y x) s.paths 0;obtain⟨z,hz⟩:=eY (jl s.paths x);rw[<-hz]at u ⊢;rw[show ixG (fun y=>M6 y x) s.paths 0=z from hz.symm]at D;rcases b:decide (0<=z)with _|_
 .exact J8 a1 W.symm gx g J U u b trivial
 have e7:=dT b;have a9:z.toNat<s.paths.length:=by rcases D with q|q<;>omega
 obtain⟨xb,nb,o,cs,own,b2,a7,_,rfl,e3,c4,d3,c8,b7,b4⟩:=h3.row (i:=z.toNat) (by rw[X.l2];exact a9);obtain⟨xp,np,op,cp,d7,e2,a8,_,rfl,e4,c5,d4,c9,b8,b5⟩:=h2.row (i:=z.toNat) (by rw[X.l1];exact a9);have a4:b2=inE xb:=b4;subst a4;obtain⟨_,_,_,_,a5,_⟩:=D5 b5;have a2:=b7 0 oM;have a3:=b8 1 oM;rw[a5]at a3;rw[Nat.add_zero]at a2;obtain⟨w1,w2,w3⟩:=X.at_ z.toNat xp xb a8 a7;have f2:=w3.sa;have f3:=w3.st;have f1:=X.nle;have eb:s.base.getD z.toNat 0=xb:=by rw[List.getD_eq_getElem?_getD,a7];rfl
 have ep:(s.progs.getD z.toNat ⟨0,0,0,[],[]⟩).sa=xp.sa:=by rw[List.getD_eq_getElem?_getD,a8];rfl
 rw[eb,ep,ax];obtain⟨S,nv,ov,cv,d9,b3,d1,_,rfl,e5,c6,d5,d0,b9,b6⟩:=hb.row (i:=(xb+xp.sa).toNat) oM;have a6:b3=rn S:=b6;subst a6;have b0:cv[ov+(xb+xp.sa).toNat*1]?=some (.int .u8 (if S=true then 1 else 0)):=by have:=b9 0 oM;rw[Nat.add_zero]at this;exact this
 have b1:bs.getD (xb+xp.sa).toNat false=S:=by rw[List.getD_eq_getElem?_getD,d1];rfl
 rw[b1];have e8:=X.l1;have e9:=X.l2;have e1:(if S=true then(1:Int) else 0)=if S then 1 else 0:=rfl;have db:decide ((if S=true then(1:Int) else 0)=1)=S:=by cases S<;>rfl
 exact J19 a1 W.symm gx g J U u b r1 r2 d2 c4 a2 c5 a3 c6 b0 db @wrap_small trivial
theorem Mu(E:d8)(lo K J:Nat)(s:StD)(e:EvD)(bs:List Bool)(F:Nat->Prop)(k:Nat)(el:LV)(x:Q)(z:QR E lo k true el x)(H:d8)(a2:lo<=H.next)(X:∀j,j<lo->H.get j=E.get j) (r:Bool) (y:∀H',i6 H.next H H'->CL prog t6 116 [pT J,.agg el.toArray] H'=some (.bool r,none)):
  CL prog t6 137 [pT J,.agg el.toArray] H=some (.bool (!r),none):=by
 have O:=F7 z;have h:=N5 z;rw[z.len]at h;simp only[qSz,if_true]at h;obtain⟨D,u,-,S,W⟩:=pushF H (bC el 1);have I:H.next<=D.low:=by rw[u,l9];exact lR
 have U:=y D W;rw[j7 Pa rfl _ sM];exact J5 O u.symm S h U trivial
def qZ(Hs:d8)(lo K k:Nat):Prop:=∀(H:d8)(pn:Nat)(s:StD)(e:EvD)(bs:List Bool)(F:Nat->Prop)(cs:LV)(q:Q),fB Hs lo K pn s e bs F H->WfS s bs.length->e.attrs.length<=1000000->QR Hs lo k true cs q->
 CL prog t6 116 [pT pn,.agg cs.toArray] H=some (.bool (D4 s e bs q),none)
theorem xu(Hs:d8)(lo K k:Nat)(hk:k<=K)(ih:qZ Hs lo K k):qZ Hs lo K (k+1):=by
 intro H pn s e bs F cs q hN hw a5 hr;have z:=F7 hr;have l6:=hr.len;simp only[qSz,if_true]at l6;obtain⟨va,ca,wa,c7,S,h1,h2,h3,h4,_⟩:=hr.filter;have D:cs[0]?=some (.int .i64 q.op):=by rw[S];rfl
 have c3:cs[3]?=some (.string q.vl):=by rw[S];rfl
 have c4:cs[4]?=some (.slice va q.a.length ca):=by rw[S];rfl
 have c5:cs[5]?=some (.slice wa q.b.length c7):=by rw[S];rfl
 have W:ldC (some true) (some 2) 1 cs=some (.agg (nmE (q.sp,q.lc)).toArray):=by rw[S];rfl
 have c6:ldC (some true) (some 2) 1 cs=some (.agg #[.string q.sp,.string q.lc]):=W;obtain⟨U,u,-,E,hS⟩:=pushF H (bC cs 1);have d3:H.next<=U.low:=by rw[u,l9];exact lR
 have d5:=hS.next;have O:=hN.work hS;obtain⟨⟨rs,re,ba,bc,g,hs,⟨av,a6,d4⟩,hb⟩,hF,a2,d0⟩:=id O;obtain⟨pa,pc,ga,gc,xa,xc,ea,ec,ta,tc,a7,_⟩:=F1 hs;obtain⟨a8,I⟩:=eY (rs++(re++[.slice ba bs.length bc]));rw[<-I]at g;have J:a8[8]?=some (.int .i64 e.kind):=by rw[I,a7,a6];rfl
 have d1:a8[12]?=some (.string e.text):=by rw[I,a7,a6];rfl
 have d2:ldC (some true) (some 2) 9 a8=some (.agg #[.string e.space,.string e.loc]):=by rw[I,a7,a6];rfl
 have y:=Mt Hs lo K pn s e bs F U O (q.sp,q.lc) a5;have a4:=fun a b=>rm (P:=prog) 4 a b ty4.2.2.2.2.2.2.1;have a3:=nu (α:=Q) U (· <lo) (QR Hs lo k true) (.func (.func 137) #[pT pn] #[]) (fun x=> !D4 s e bs x) (.slice va q.a.length ca) q.a (SlF.mono (SlI.slF h1) (fun j hj=>a2 j hj) (fun _ h=>h) iF) h3 (fun i x el hx hR=>Mu Hs lo K pn s e bs F k el x hR ⟨U.bs,U.next⟩ d0 (fun j hj=>a2 j hj) _ (fun H' c9=>ih H' pn s e bs F el x ((O.low U.next).work c9) hw a5 hR));have a9:=nu (α:=Q) U (· <lo) (QR Hs lo k true) (.func (.func 116) #[pT pn] #[]) (D4 s e bs) (.slice va q.a.length ca) q.a (SlF.mono (SlI.slF h1) (fun j hj=>a2 j hj) (fun _ h=>h) iF) h3 (fun i x el hx hR=>ih _ pn s e bs F el x (O.low U.next) hw a5 hR);have b0:=nj (α:=Q) U (· <lo) (QR Hs lo k false) (.func (.func 138) #[pT pn] #[]) (dJ s bs) (.slice wa q.b.length c7) q.b (SlF.mono (SlI.slF h2) (fun j hj=>a2 j hj) (fun _ h=>h) iF) h4 (fun i x el hx hR=>Mv Hs lo K pn s e bs F _ (O.low U.next) hw el x (hR.upTo hk));rw[j7 ON rfl _ sM,qt];by_cases e1:q.op=1
 .rw[if_pos e1];exact J7 z u.symm E g J D e1 trivial
 rw[if_neg e1];have b1:decide (q.op=1)=false:=decide_eq_false e1;by_cases e2:q.op=2
 .rw[if_pos e2];exact J7 z u.symm E g J D e2 trivial
 rw[if_neg e2];have b2:decide (q.op=2)=false:=decide_eq_false e2;by_cases e3:q.op=3
 .rw[if_pos e3];exact J7 z u.symm E g J D e3 trivial
 rw[if_neg e3];have b3:decide (q.op=3)=false:=decide_eq_false e3;by_cases e4:q.op=4
 .rw[if_pos e4];rcases d:decide (e.kind=1)with _|_
  .exact J8 z u.symm E g J D e4 d trivial
  .exact J10 z u.symm E g J D e4 d d2 c6 trivial
 rw[if_neg e4];have b4:decide (q.op=4)=false:=decide_eq_false e4;by_cases e5:q.op=5
 .rw[if_pos e5];exact J9 z u.symm E g J D e5 W y trivial
 rw[if_neg e5];have b5:decide (q.op=5)=false:=decide_eq_false e5;by_cases e6:q.op=6
 .rw[if_pos e6];rcases d:(A7 e.kind (q.sp,q.lc) e.attrs).2 with _|_
  .rw[d]at y;exact J9 z u.symm E g J D e6 W y trivial
  .rw[d]at y;exact J10 z u.symm E g J D e6 W y c3 trivial
 rw[if_neg e6];have b6:decide (q.op=6)=false:=decide_eq_false e6;by_cases e7:q.op=7
 .rw[if_pos e7];rcases d:decide (e.kind=1)with _|_
  .exact J10 z u.symm E g J D e7 d d1 c3 trivial
  .exact J8 z u.symm E g J D e7 d trivial
 rw[if_neg e7];have b7:decide (q.op=7)=false:=decide_eq_false e7;by_cases e8:q.op=8
 .rw[if_pos (.inl e8)];exact J10 z u.symm E g J D e8 c4 a3 a4 trivial
 have b8:decide (q.op=8)=false:=decide_eq_false e8;by_cases e9:q.op=9
 .rw[if_pos (.inr e9)];exact J10 z u.symm E g J D e9 c4 a3 a4 trivial
 rw[if_neg (fun q=>q.elim e8 e9)];have b9:decide (q.op=9)=false:=decide_eq_false e9;by_cases X:q.op=10
 .rw[if_pos X];exact J9 z u.symm E g J D X c4 a9 trivial
 rw[if_neg X];have c8:decide (q.op=10)=false:=decide_eq_false X;exact J18 z u.symm E g J D b1 b2 b3 b4 b5 b6 b7 b8 b9 c8 c5 b0 trivial
theorem Bp(h:d8)(lo K:Nat):∀k,k<=K+1->qZ h lo K k:=by
 intro k;induction k with
 |zero=>intro _ H D s e bs F cs q _ _ _ u;exact u.elim
 |succ k y=>intro z;exact xu h lo K k oM (y oM)
theorem yO(Hs:d8)(lo K pn:Nat)(s:StD)(u:EvD)(bs:List Bool)(F:Nat->Prop)(h:d8)(hN:fB Hs lo K pn s u bs F h)(hw:WfS s bs.length)(a7:u.attrs.length<=1000000)(va:Option Addr)(ca:Nat)(l:List Q)(hv:SlF h F 6 (QR Hs lo K true) (.slice va l.length ca) l)(hn:l.length<=1000000):
  ∀kk e H2,(∃(i:Nat)(w:Value),kk=l.length-i/\i<=l.length/\e.get 9=pT pn/\e.get 10=w/\e.get 19= .slice va l.length ca/\e.get 20=iV l.length/\e.get 21=iV i/\i6 h.next h H2/\u6 H2 h.next 1 (w9 boE) w ((l.take i).map (D4 s u bs)))->
  w7 (LE prog t6 (.loop Ow) e H2) (fun o e H2=>o= .exit 0/\i6 h.next h H2/\∃w,e.get 10=w/\u6 H2 h.next 1 (w9 boE) w (l.map (D4 s u bs))):=by
 refine i8 _ _ ?_;rintro kk e H2 ⟨i,w,hk,hi,f9,z,D,y,E,X,hO⟩;rcases b:decide ((i:Int)<l.length)with _|_
 .have a8:=dF b;have:l.take i=l:=List.take_of_length_le oM;rw[this]at hO;refine J3 y E b ?_;exact i9 ⟨rfl,X,w,z,hO⟩
 have a8:=dT b;have b3:=X.next;obtain⟨x,nb,o,cs,own,el,hx,hd,rfl,a2,hg,b2,J,hc,W⟩:=hv.row (i:=i) oM;have nt:(i:Int).toNat=i:=tN i;have g2:=(X.get nb (hN.lt _ a2)).trans hg;have a1:=F7 W;have U:=W.len;simp only[qSz,if_true]at U;have O:=N5 W;rw[U]at O;obtain⟨H3,a4,n3,g3,s3⟩:=pushP H2 (bC [iV 0,.string eB,.string eB,.string eB,nS,nS] 1) (bC el 1);have b1:splice [iV 0,.string eB,.string eB,.string eB,nS,nS] 0 el=el:=x9 _ _ (by rw[U];rfl);have S:i6 h.next h H3:=X.trans (s3.weaken oM);have a9:=Bp Hs lo K K oM H3 pn s u bs F el x (hN.work S) hw a7 W;have b0:(l.take (i+1)).map (D4 s u bs)=(l.take i).map (D4 s u bs)++[D4 s u bs x]:=by rw[List.take_add_one,hx,List.map_append];rfl
 obtain⟨w4,h4,H4,a6,I,a5,a3⟩:=(hO.keep s3).push1F (P:=prog) (t:=83) (cs:=boE (D4 s u bs x)) (a:=D4 s u bs x) (by exact Ja.2.2.2.2.2.2) ty4.1 ty4.2.1 ty4.2.2.1 oM oM rfl rfl (by simp;omega) oM;refine J19 f9 z D y E b g2 nt J a1 U b1 a4.symm g3 O a9 a6 I @wrap_small ?_;exact i4 (kk-1) oM ⟨i+1,w4,oM,oM,f9,rfl,D,y,rfl,S.trans a3.stay,by rw[b0];exact a5⟩
theorem Ql(Hs:d8)(lo K:Nat)(s:StD)(p:PrD)(ev:EvD)(bs:List Bool)(F:Nat->Prop)(H:d8)(y rp I:LV)(ba:Option Addr)(bc:Nat)(hs:StF H F (QR Hs lo K false) (QR Hs lo K true) y s)(hp:PrF H F (QR Hs lo K true) rp p)(he:EvF H F I ev)(hb:SlF H F 1 (w9 rn) (.slice ba bs.length bc) bs)
  (hF:∀j,F j->j<H.next) (b6:∀j,j<lo->H.get j=Hs.get j) (c8:lo<=H.next) (hw:WfS s bs.length) (b4:ev.attrs.length<=1000000) (hn:p.ts.length<=1000000):
  L8 (CL prog t6 93 [.agg y.toArray,.agg rp.toArray,.agg I.toArray,.slice ba bs.length bc] H) H 1 (w9 boE) (p.ts.map (D4 s ev bs)):=by
 obtain⟨pa,pc,ga,gc,xa,xc,ea,ec,ta,tc,U,_⟩:=F1 hs;obtain⟨c6,c7,a3,a4,b0,c9,b8⟩:=D5 hp;obtain⟨av,S,b5⟩:=id he;obtain⟨c4,c5,rfl⟩:=b5.slice;have a6:y.all oC=true:=by rw[U];rfl
 have ap:rp.all oC=true:=by rw[b0];rfl
 have ae:I.all oC=true:=by rw[S];rfl
 have ls:y.length=8:=by rw[U];rfl
 have le:I.length=5:=by rw[S];rfl
 have c0:ldC (some true) (some 8) 0 y=some (.agg y.toArray):=by rw[U];rfl
 have b9:ldC (some true) (some 5) 0 I=some (.agg I.toArray):=by rw[S];rfl
 have p4:rp[4]?=some (.slice a3 p.ts.length a4):=by rw[b0];rfl
 obtain⟨O,u⟩:=eY (((d8.push ⟨H.bs,H.next⟩ (bC y 1)).push (bC rp 1)).push (bC I 1));have n0:(d8.push ⟨H.bs,H.next⟩ (bC y 1)).next=H.next+1:=by rw[i5];rfl
 have c3:((d8.push ⟨H.bs,H.next⟩ (bC y 1)).push (bC rp 1)).next=H.next+2:=by rw[i5,n0]
 have na:O.next=H.next+3:=by rw[u,i5,c3]
 have sa:i6 H.next H O:=by rw[u];exact((i6.first H _).trans (i6.push oM)).trans (i6.push oM)
 have g1:O.get H.next=cE y 1:=by rw[u,i7 oM,i7 oM];exact j9
 have g2:O.get (H.next+1)=cE rp 1:=by rw[u,i7 oM];exact y7 oM
 have g3:O.get (H.next+2)=cE I 1:=by rw[u];exact y7 oM
 have a8:H.next<=O.low:=by rw[u,l9,l9,l9];exact lR
 obtain⟨a2,E⟩:=eY (y++(I++[.slice ba bs.length bc]));have a5:a2.all oC=true:=by rw[E,List.all_append,List.all_append,a6,ae];rfl
 obtain⟨J,D,-,b3,-⟩:=pushE O (bC a2 1);have n1:J.next=H.next+4:=by rw[D,i5,na]
 have s1:i6 H.next H J:=by rw[D];exact sa.trans (i6.push oM)
 have a1:H.next<=J.low:=by rw[D,l9];exact a8
 have b2:J.get (H.next+1)=cE rp 1:=by rw[D,i7 oM];exact g2
 have hg:∀j,F j->J.get j=H.get j:=fun j hj=>s1.get j (hF j hj);have hN:fB Hs lo K O.next s ev bs F J:=⟨⟨y,I,ba,bc,by rw[<-E];exact b3,hs.mono hg (fun _ h=>h) iF iF,y9 _ _ _ _ _ _ he hg (fun _ h=>h),hb.mono hg (fun _ h=>h) iF⟩,fun j hj=>by have:=hF j hj;omega,fun j hj=>by rw[s1.get j oM];exact b6 j hj,oM⟩
 obtain⟨W,hA⟩:=eY (splice [nS,nS,nS,iV 0,iV 0,iV 0,nS,nS,iV 0,.string eB,.string eB,nS,.string eB,nS] 0 y);obtain⟨X,hB⟩:=eY (splice W 8 I);have lA:W.length=14:=by rw[hA,E3];rfl
 have lB:X.length=14:=by rw[hB,E3];exact lA
 have eC:X.set 13 (.slice ba bs.length bc)=a2:=by rw[hB,hA,E,U,S];rfl
 rw[j7 Ld rfl _ sM];refine J19 a6 ap ae u.symm g1 g3 c0 b9 ls le hA.symm lA hB.symm lB eC a5 D.symm b2 p4 ?_;have a9:SlF J F 6 (QR Hs lo K true) (.slice a3 p.ts.length a4) p.ts:=b8.mono hg (fun _ h=>h) iF;refine j8 (F:=fun z=>L8 (u5 _ _ _ (u9 (inBlock 0 z) _)) _ _ _ _) (yO Hs lo K O.next s ev bs F J hN hw b4 a3 a4 p.ts a9 hn p.ts.length _ _ ⟨0,nS,rfl,oM,rfl,rfl,rfl,rfl,rfl,i6.refl _ _,u6.nil⟩) ?_;rintro o e' H2 ⟨ho,a7,w,b1,hO⟩;refine J2 ho b1 ?_;have b7:=(a7.weaken (show H.next<=J.next from oM)).low a1;exact F0 (hO.weaken oM) (s1.trans (a7.weaken oM)) b7
theorem sf(h:d8)(F:Nat->Prop)(hF:∀j,F j->j<h.next) (Rt:LV->Q->Prop) (va:Option Addr) (W:Nat) (l:List PrD) (hv:SlF h F 5 (PrF h F Rt) (.slice va l.length W) l) (hn:l.length<=100000) (hb:∀p∈l,0<=p.st/\p.st<=1000000) (r:Int):
  ∀S e H2,(∃(i:Nat)(n:Int),S=l.length-i/\i<=l.length/\0<=n/\n<=1000000*i/\e.get 3=iV n/\e.get 7= .slice va l.length W/\e.get 8=iV l.length/\e.get 9=iV i/\i6 h.next h H2/\(l.drop i).foldl (fun n p=>n+p.st) n=r)->
  w7 (LE prog t6 (.loop NX) e H2) (fun o e H2=>i6 h.next h H2/\o= .exit 0/\e.get 3=iV r):=by
 refine i8 _ _ ?_;rintro S e H2 ⟨i,n,hk,hi,a4,a5,X,f7,D,f9,z,y⟩;rcases b:decide ((i:Int)<l.length)with _|_
 .have O:=dF b;have:l.drop i=[]:=dN oM;rw[this,List.foldl_nil]at y;refine J3 D f9 b ?_;exact i9 ⟨z,rfl,by rw[<-y];exact X⟩
 have O:=dT b;have a6:=z.next;obtain⟨x,nb,o,cs,own,el,hx,hd,rfl,E,hg,a3,u,hc,J⟩:=hv.row (i:=i) oM;have nt:(i:Int).toNat=i:=tN i;have a2:=hb x (mG hx);have g2:=(z.get nb (hF _ E)).trans hg;have a1:=gU J;have l1:=co J;have e0:el[0]?=some (.int .i64 x.st):=by obtain⟨_,_,_,_,rfl,_⟩:=D5 J;rfl
 obtain⟨H3,I,n3,g3,s3⟩:=pushP H2 (bC z5 1) (bC el 1);have U:splice z5 0 el=el:=x9 _ _ (by rw[l1];rfl);rw[hd,List.foldl_cons]at y;refine J15 X f7 D f9 b g2 nt u a1 l1 U I.symm g3 e0 @wrap_small ?_;exact i4 (S-1) oM ⟨i+1,n+x.st,oM,oM,oM,oM,rfl,f7,D,rfl,z.trans (s3.weaken oM),y⟩
theorem Qi(H:d8)(F:Nat->Prop)(Rp J:LV->Q->Prop)(cs:LV)(s:StD)(W:∀j,F j->j<H.next) (hs:StF H F Rp J cs s) (hn:s.progs.length<=100000) (hb:∀p∈s.progs,0<=p.st/\p.st<=1000000):CL prog t6 71 [.agg cs.toArray] H=some (.int .i64 (A0 s.progs),none):=by
 obtain⟨pa,pc,O,S,ba,bc,ea,ec,ta,tc,y,h1,h2,h3,h4,h5⟩:=F1 hs;have a0:cs.all oC=true:=by rw[y];rfl
 have r1:cs[1]?=some (.slice O s.progs.length S):=by rw[y];rfl
 obtain⟨I,u,-,hg,X⟩:=pushF H (bC cs 1);have E:H.next<=I.low:=by rw[u,l9];exact lR
 have a2:=X.next;have U:SlF I F 5 (PrF I F J) (.slice O s.progs.length S) s.progs:=h2.mono (fun j D=>X.get j (W j D)) (fun _ h=>h) (fun _ _ h=>h.mono (fun j D=>X.get j (W j D)) (fun _ h=>h) iF);rw[j7 Pz rfl _ sM];refine J4 a0 u.symm hg r1 ?_;refine j8 (F:=fun z=>u5 _ _ _ (u9 (inBlock 0 z) _)=_) (sf I F (fun j D=>by have:=W j D;omega) J O S s.progs U hn hb (A0 s.progs) s.progs.length _ _ ⟨0,0,rfl,oM,oM,oM,rfl,rfl,rfl,rfl,i6.refl _ _,rfl⟩) ?_;rintro o e' H' ⟨a1,ho,h3⟩;have a3:=(a1.weaken a2).low E;exact J2 ho h3 trivial
abbrev SoD:Type:=Bool×Bool×ByteArray
def ii(x:SoD)(n:Int):Bool:=x.1&&decide (A3 x.2.2 n.toNat=1)
def bJ(x:SoD)(n:Nat):Prop:=x.1=true->x.2.2.size=n
theorem FD(H:d8)(x:SoD)(n:Int)(m:Nat)(I:bJ x m)(J:0<=n)(O:n<m):CL prog t6 117 [.agg (soE x).toArray,iV n] H=some (.bool (ii x n),none):=by
 obtain⟨h,t,b⟩:=x;obtain⟨D,u,-,y,-⟩:=pushF H (bC [.bool h,.bool t,.string b] 1);have z:H.next<=D.low:=by rw[u,l9];exact lR
 rw[j7 OO rfl _ sM,ii];cases h with
 |false=>simp(maxSteps:=20000000) -dsimp (disch:=first|omega|(simp only[rH]<;>omega)|fail) only[↓ig,rQ,N3,sevalprocAttr,tyA,<-u,y]
 |true=>
  have E:b.size=m:=I rfl;exact J2 u.symm y trivial
abbrev EdD:Type:=Int×Int×Int×Int
def kj(fi ne:SoD)(hs bs:List Bool)(b:Int)(x:EdD):Bool:=if x.2.2.1=1 then ii fi (b+x.2.1) else if x.2.2.1=2 then ii ne (b+x.2.1) else if x.2.2.1=3 then hs.getD x.2.2.2.toNat false&&ax bs (b+x.2.1) else ax bs (b+x.2.1)
def T5(fi ne:SoD)(hs:List Bool)(b:Int):List EdD->List Bool×Bool->List Bool×Bool
 |[],z=>z
 |x::l,z=>T5 fi ne hs b l (if !ax z.1 (b+x.1)&&kj fi ne hs z.1 b x then(z.1.set (b+x.1).toNat true,true) else z)
def itE(fi ne:SoD)(hs:List Bool)(b:Int)(l:List EdD):Nat->List Bool->List Bool
 |0,bs=>bs
 |n+1,bs=>if(T5 fi ne hs b l (bs,false)).2 then itE fi ne hs b l n (T5 fi ne hs b l (bs,false)).1 else(T5 fi ne hs b l (bs,false)).1
def ay(bs:List Bool):Nat:=(bs.filter (fun b=> !b)).length
theorem mJ:∀(bs:List Bool)(i:Nat),i<bs.length->bs.getD i false=false->ay (bs.set i true)+1=ay bs
 |[],i,h,_=>by simp at h
 |b::bs,0,_,h=>by
  have:b=false:=by simpa using h
  subst this;simp [ay]
 |b::bs,i+1,h,h2=>by
  have:=mJ bs i (by simpa using h) (by simpa using h2);cases b<;>simp [ay]at this ⊢ <;>omega
theorem ef(fi ne:SoD)(hs:List Bool)(b:Int):∀(l:List EdD)(z:List Bool×Bool),(T5 fi ne hs b l z).1.length=z.1.length
 |[],z=>rfl
 |x::l,z=>by
  rw[T5,ef fi ne hs b l];split
  .simp
  .rfl
theorem dZ(fi ne:SoD)(hs:List Bool)(b:Int):∀(l:List EdD)(z:List Bool×Bool),(∀x∈l,0<=b+x.1/\b+x.1<z.1.length)->ay (T5 fi ne hs b l z).1<=ay z.1/\((T5 fi ne hs b l z).2=true->z.2=true\/ay (T5 fi ne hs b l z).1<ay z.1)
 |[],z,_=>⟨lR,fun h=> .inl h⟩
 |x::l,z,h=>by
  rw[T5];have I:=h x sM;rcases D:(!ax z.1 (b+x.1)&&kj fi ne hs z.1 b x)with _|_
  .simp only[bF];exact dZ fi ne hs b l z fun y u=>h y (by simp [u])
  .simp only[if_true];simp only[Bool.and_eq_true,Bool.not_eq_true']at D;have E:=mJ z.1 (b+x.1).toNat oM D.1;have:=dZ fi ne hs b l (z.1.set (b+x.1).toNat true,true) fun y u=>by have:=h y (by simp [u]);simp;omega
   refine⟨by have:=this.1;simp only at this;omega,fun _=> .inr (by have:=this.1;simp only at this;omega)⟩
theorem rZ(fi ne:SoD)(hs:List Bool)(b:Int)(l:List EdD):∀(n:Nat)(bs:List Bool),(itE fi ne hs b l n bs).length=bs.length
 |0,bs=>rfl
 |n+1,bs=>by
  rw[itE];split
  .rw[rZ fi ne hs b l n,ef]
  .rw[ef]
def aV(s:StD)(e:EvD)(fi ne:SoD)(p:PrD)(b:Int)(bs:List Bool):List Bool:=
 itE fi ne (p.ts.map (D4 s e bs)) b p.ed (ay (bs.set (b+p.en).toNat true)+1) (bs.set (b+p.en).toNat true)
def W9(s:StD)(e:EvD)(fi ne:SoD):List (PrD×Int)->List Bool->List Bool
 |[],bs=>bs
 |x::l,bs=>W9 s e fi ne l (aV s e fi ne x.1 x.2 bs)
def kz(bs:List Bool):ByteArray:=⟨(bs.map fun b=>if b then(1:UInt8) else 0).toArray⟩
def I4(s:StD)(e:EvD)(fi ne:SoD):SoD:=(true,decide (e.kind=2),kz (W9 s e fi ne (s.progs.zip s.base) (List.replicate (A0 s.progs).toNat false)))
structure P3(Hs:d8)(lo K pm pb:Nat)(s:StD)(e:EvD)(fi ne:SoD)(bs:List Bool)(F:Nat->Prop)(H:d8):Prop where
 ex:∃rs re bc,H.get pm=some (.cells (rs++(re++(soE fi++(soE ne++[.slice (some ⟨pb,0,none⟩) bs.length bc])))) true 1)/\StF H F (QR Hs lo K false) (QR Hs lo K true) rs s/\EvF H F re e
 bits:H.get pb=cE (bs.map an) 1
 lt:∀j,F j->j<H.next/\j≠pb
 eq:∀j,j<lo->H.get j=Hs.get j
 lo:lo<=pb
 ne:pm≠pb
section
variable{Hs:d8}{lo K pm pb:Nat}{s:StD}{e:EvD}{fi ne:SoD}{bs:List Bool}{F:Nat->Prop}{H H':d8}
theorem P3.pbl(h:P3 Hs lo K pm pb s e fi ne bs F H):pb<H.next:=u7 h.bits
theorem P3.work(h:P3 Hs lo K pm pb s e fi ne bs F H)(u:i6 H.next H H'):P3 Hs lo K pm pb s e fi ne bs F H':=by
 have z:=h.pbl;obtain⟨⟨rs,re,J,D,O,S⟩,U,E,W,X,h8⟩:=h;have hn:=u.next;have I:∀j,F j->H'.get j=H.get j:=fun j y=>u.get j (E j y).1;exact⟨⟨rs,re,J,(u.get pm (u7 D)).trans D,O.mono I (fun _ h=>h) iF iF,y9 _ _ _ _ _ _ S I (fun _ h=>h)⟩,(u.get pb z).trans U,fun j y=>by have:=E j y;omega,fun j y=>by rw[u.get j oM];exact W j y,X,h8⟩
theorem P3.set(h:P3 Hs lo K pm pb s e fi ne bs F H)(i:Nat):P3 Hs lo K pm pb s e fi ne (bs.set i true) F (H.put pb (.cells ((bs.map an).set i (an true)) true 1)):=by
 have z:=h.pbl;obtain⟨⟨rs,X,I,J,O,S⟩,h4,y,U,W,D⟩:=h;have E:∀j,F j->(H.put pb (.cells ((bs.map an).set i (an true)) true 1)).get j=H.get j:=fun j u=>j6 (fun q=>(y j u).2 q.symm);refine⟨⟨rs,X,I,by rw[j6 (fun q=>D q.symm),List.length_set];exact J,O.mono E (fun _ h=>h) iF iF,y9 _ _ _ _ _ _ S E (fun _ h=>h)⟩,by rw[j5 z,List.map_set],fun j u=>⟨by rw[t5];exact(y j u).1,(y j u).2⟩,fun j u=>by rw[j6 oM];exact U j u,W,D⟩
theorem P3.row(h:P3 Hs lo K pm pb s e fi ne bs F H):∃D E I u,H.get pm=cE u 1/\u=D++(E++(soE fi++(soE ne++[sL pb bs.length I])))/\u.length=20/\StF H F (QR Hs lo K false) (QR Hs lo K true) D s/\EvF H F E e/\
  ldC (some true) (some 8) 0 u=some (.agg D.toArray)/\ldC (some true) (some 5) 8 u=some (.agg E.toArray)/\ldC (some true) (some 3) 13 u=some (.agg (soE fi).toArray)/\ldC (some true) (some 3) 16 u=some (.agg (soE ne).toArray)/\u[19]?=some (sL pb bs.length I)/\
  (∀k,k<8->u[k]?=D[k]?)/\u[8]?=some (.int .i64 e.kind):=by
 obtain⟨⟨D,E,I,S,J,O⟩,_⟩:=h;obtain⟨pa,pc,ga,gc,xa,xc,X,ec,ta,tc,y,_⟩:=F1 J;obtain⟨W,z,_⟩:=id O;have U:D.length=8:=by rw[y];rfl
 refine⟨D,E,I,_,S,rfl,by rw[y,z];rfl,J,O,by rw[y,z];rfl,by rw[y,z];rfl,by rw[y,z];rfl,by rw[y,z];rfl,by rw[y,z];rfl,fun k hk=>List.getElem?_append_left oM,by rw[y,z];rfl⟩
theorem zi{i:Nat}(h:i<bs.length):(bs.map an)[i*1]?=some (.int .u8 (if bs.getD i false=true then 1 else 0)):=by
 rw[Nat.mul_one,List.getElem?_map,List.getElem?_eq_getElem h,List.getD_eq_getElem?_getD,List.getElem?_eq_getElem h];rfl
end
theorem MU(b:Bool):decide ((if b=true then(1:Int) else 0)=1)=b:=by cases b<;>rfl
theorem Qm(Hs:d8)(lo K pm pb:Nat)(s:StD)(e:EvD)(fi ne:SoD)(bs:List Bool)(F:Nat->Prop)(H:d8)(hK:P3 Hs lo K pm pb s e fi ne bs F H)(h1:bJ fi bs.length)(h2:bJ ne bs.length)(b9:bs.length<=1000000)(b:Int)(x:EdD)(ha:Option Addr)(hc:Nat)(hs:List Bool)(F2:Nat->Prop)(a3:∀j,F2 j->j<H.next) (hh:SlF H F2 1 (w9 boE) (.slice ha hs.length hc) hs)
  (hb:0<=b/\b<=1000000) (hx:0<=x.2.1/\b+x.2.1<bs.length) (h3:x.2.2.1=3->0<=x.2.2.2/\x.2.2.2<hs.length):
  CL prog t6 94 [pT pm,iV b,.agg (edE x).toArray,.slice ha hs.length hc] H=some (.bool (kj fi ne hs bs b x),none):=by
 obtain⟨x0,x1,E,x3⟩:=x;simp only at hx h3;obtain⟨S,D⟩:=eY (edE (x0,x1,E,x3));rw[<-D];have J:S.all oC=true:=by rw[D];rfl
 have y:S[1]?=some (.int .i64 x1):=by rw[D];rfl
 have z:S[2]?=some (.int .i64 E):=by rw[D];rfl
 have U:S[3]?=some (.int .i64 x3):=by rw[D];rfl
 obtain⟨H1,u,-,X,hS⟩:=pushF H (bC S 1);have b5:H.next<=H1.low:=by rw[u,l9];exact lR
 have W:=hK.work hS;obtain⟨rs,re,bc,c4,g,b6,b7,c3,_,_,_,b0,b4,a2,_,_⟩:=W.row;have gb:=W.bits;have bg:=zi (bs:=bs) (i:=(b+x1).toNat) oM;have g1:=FD H1 fi (b+x1) bs.length h1 oM oM;have g2:=FD H1 ne (b+x1) bs.length h2 oM oM;have bl:(bs.map an).length=bs.length:=sM;rw[j7 Rb rfl _ sM,kj];simp only;by_cases e1:E=1
 .rw[if_pos e1];exact J10 J y z u.symm X e1 g b0 g1 @wrap_small trivial
 rw[if_neg e1];have b1:decide (E=1)=false:=decide_eq_false e1;by_cases e2:E=2
 .rw[if_pos e2];exact J10 J y z u.symm X e2 g b4 g2 @wrap_small trivial
 rw[if_neg e2];have b2:decide (E=2)=false:=decide_eq_false e2;by_cases I:E=3
 .rw[if_pos I];obtain⟨t1,t2⟩:=h3 I;have a7:SlF H1 F2 1 (w9 boE) (.slice ha hs.length hc) hs:=hh.mono (fun j hj=>hS.get j (a3 j hj)) (fun _ h=>h) iF;obtain⟨v,nb,o,cs,own,el,a9,_,rfl,b8,a1,c0,a8,a5,a4⟩:=a7.row (i:=x3.toNat) oM;have a6:el=boE v:=a4;subst a6;have O:cs[o+x3.toNat*1]?=some (.bool v):=by have:=a5 0 oM;rw[Nat.add_zero]at this;exact this
  have ev:hs.getD x3.toNat false=v:=by rw[List.getD_eq_getElem?_getD,a9];rfl
  rw[ev,ax];cases v with
  |false=>simp(maxSteps:=20000000) -dsimp (disch:=first|omega|(simp only[rH]<;>omega)|fail) only[↓ig,rQ,N3,sevalprocAttr,tyA,J,y,z,U,<-u,X,I,a1,O,wrap_small]
  |true=>
   exact J15 J y z U u.symm X I a1 O g a2 gb bg @MU @wrap_small trivial
 rw[if_neg I];have b3:decide (E=3)=false:=decide_eq_false I;rw[ax];exact J14 J y z u.symm X b1 b2 b3 g a2 gb bg @MU @wrap_small trivial
theorem dD(x:Operand):isCall (.nilCheck x)=false:=rT
theorem ED(fi ne:SoD)(hs:List Bool)(b:Int)(l:List EdD):∀(n m:Nat)(bs:List Bool),(∀x∈l,0<=b+x.1/\b+x.1<bs.length)->ay bs+1<=n->n<=m->itE fi ne hs b l m bs=itE fi ne hs b l n bs:=by
 intro n;induction n with
 |zero=>intro m bs _ h;omega
 |succ n J=>
  intro m bs y O S;obtain⟨u,rfl⟩:∃u,m=u+1:=⟨m-1,oM⟩
  have D:=dZ fi ne hs b l (bs,false) y;rw[itE,itE];rcases E:(T5 fi ne hs b l (bs,false)).2 with _|_
  .rfl
  .simp only[if_true];have z:=D.2 E;simp only[Bool.false_eq_true,false_or]at z;exact J u _ (fun x I=>by rw[ef];exact y x I) oM oM
structure Fr1(pb:Nat)(H H':d8):Prop where
 stay:i6 pb H H'
 but:∀j,j<H.next->j≠pb->H'.get j=H.get j
 low:H'.low<=H.low
theorem Fr1.refl(h:Nat)(H:d8):Fr1 h H H:=⟨i6.refl _ _,fun _ _ _=>rfl,lR⟩
theorem Fr1.trans{u:Nat}{A B C:d8}(h:Fr1 u A B)(k:Fr1 u B C):Fr1 u A C:=⟨h.stay.trans k.stay,fun j z y=>by rw[k.but j (oN (h.stay.next)) y,h.but j z y],Nat.le_trans k.low h.low⟩
theorem Fr1.of{u:Nat}{H H':d8}(h:i6 H.next H H')(D:u<=H.next)(z:H'.low<=H.low):Fr1 u H H':=⟨h.weaken D,fun j y _=>h.get j y,z⟩
theorem Fr1.put{h:Nat}{H:d8}{B:Blk}:Fr1 h H (H.put h B):=⟨i6.put lR,fun j _ u=>j6 (fun q=>u q.symm),by rw[A4];omega⟩
theorem Cd(Hs:d8)(lo K pm E:Nat)(s:StD)(ev:EvD)(fi ne:SoD)(F:Nat->Prop)(S:d8)(n:Nat)(hn:n<=1000000)(b4:bJ fi n)(b7:bJ ne n)(b:Int)(hb:0<=b/\b<=1000000)(b9:E<S.next)(pc:Nat)(rp:LV)(c4:S.get pc=cE rp 1)(c9:pc≠E)
  (ha:Option Addr) (hc:Nat) (hs:List Bool) (F2:Nat->Prop) (a4:∀j,F2 j->j<S.next/\j≠E) (hh:SlF S F2 1 (w9 boE) (.slice ha hs.length hc) hs)
  (va:Option Addr) (ca:Nat) (l:List EdD) (hv:SlF S F 4 (w9 edE) (.slice va l.length ca) l) (hF:∀j,F j->j<S.next/\j≠E) (hl:l.length<=1000000) (hw:∀x∈l,0<=x.1/\b+x.1<n/\0<=x.2.1/\b+x.2.1<n/\(x.2.2.1=3->0<=x.2.2.2/\x.2.2.2<hs.length)) (r:List Bool×Bool):
  ∀kk e H2,(∃(j:Nat)(bs:List Bool)(m:Bool),kk=l.length-j/\j<=l.length/\e.get 0=pT pm/\e.get 4=pT pc/\e.get 5=iV b/\e.get 6= .slice ha hs.length hc/\e.get 7= .bool m/\e.get 51= .slice va l.length ca/\e.get 52=iV l.length/\e.get 53=iV j/\bs.length=n/\P3 Hs lo K pm E s ev fi ne bs F H2/\Fr1 E S H2/\T5 fi ne hs b (l.drop j) (bs,m)=r)->
  w7 (LE prog t6 (.loop NY) e H2) (fun o e H2=>o= .exit 2/\e.get 0=pT pm/\e.get 4=pT pc/\e.get 5=iV b/\e.get 6= .slice ha hs.length hc/\e.get 7= .bool r.2/\r.1.length=n/\P3 Hs lo K pm E s ev fi ne r.1 F H2/\Fr1 E S H2):=by
 refine i8 _ _ ?_;rintro kk e H2 ⟨j,bs,m,hk,hj,f0,f4,f5,f6,f7,z,u,X,D,hK,a2,I⟩;rcases bb:decide ((j:Int)<l.length)with _|_
 .have b3:=dF bb;have:l.drop j=[]:=dN oM;rw[this,T5]at I;refine J3 u X bb ?_;exact i9 ⟨rfl,f0,f4,f5,f6,by rw[<-I];exact f7,by rw[<-I];exact D,by rw[<-I];exact hK,a2⟩
 have b3:=dT bb;have c8:=a2.stay.next;have c0:=hK.pbl;obtain⟨x,nb,o,cs,own,el,hx,hd,rfl,a8,hg,c6,O,c5,y⟩:=hv.row (i:=j) oM;have y:el=edE x:=y;obtain⟨w1,w2,w3,w4,w5⟩:=hw x (mG hx);have nt:(j:Int).toNat=j:=tN j;have gx:=(a2.but nb (hF _ a8).1 (hF _ a8).2).trans hg;have a1:el.all oC=true:=by rw[y];rfl
 have l1:el.length=4:=by rw[y];rfl
 have e0:el[0]?=some (.int .i64 x.1):=by rw[y];rfl
 have a9:ldC (some true) (some 4) 0 el=some (.agg el.toArray):=by rw[y];rfl
 obtain⟨H3,a3,n3,g3,s3⟩:=pushP H2 (bC [iV 0,iV 0,iV 0,iV 0] 1) (bC el 1);have a7:splice [iV 0,iV 0,iV 0,iV 0] 0 el=el:=x9 _ _ (by rw[l1];rfl);have K3:=hK.work s3;have U:Fr1 E S H3:=a2.trans (Fr1.of s3 oM (by rw[a3,A4,l9];omega));obtain⟨rs,re,bc,d3,gp,b8,c3,d0,_,_,_,d1,d2,a6,_,_⟩:=K3.row;have gb:=K3.bits;have bg:=zi (bs:=bs) (i:=(b+x.1).toNat) oM;have bl:(bs.map an).length=bs.length:=sM;have b5:SlF H3 F2 1 (w9 boE) (.slice ha hs.length hc) hs:=hh.mono (fun j hj=>U.but j (a4 j hj).1 (a4 j hj).2) (fun _ h=>h) iF;have J:=Qm Hs lo K pm E s ev fi ne bs F H3 K3 (by rw[D];exact b4) (by rw[D];exact b7) oM b x ha hc hs F2 (fun j hj=>by have:=a4 j hj;omega) b5 hb ⟨w3,oM⟩ w5;rw[<-y]at J;rw[hd,T5]at I;have h0:0<=b+x.1:=oM;have c7:b+x.1<bs.length:=oM;rcases b0:bs.getD (b+x.1).toNat false with _|_
 .have W:ax bs (b+x.1)=false:=b0;rw[b0]at bg;rcases b1:kj fi ne hs bs b x with _|_
  .rw[b1]at J;simp only[W,b1,Bool.not_false,Bool.true_and,bF]at I;refine J23 f0 f5 f6 z u X bb gx nt O a1 l1 a7 a3.symm g3 e0 gp a6 gb bg a9 J @wrap_small ?_;exact i4 (kk-1) oM ⟨j+1,bs,m,oM,oM,f0,f4,f5,f6,f7,z,u,rfl,D,K3,U,I⟩
  .rw[b1]at J;simp only[W,b1,Bool.not_false,Bool.and_self,if_true]at I;obtain⟨H4,a5⟩:=eY (H3.put E (.cells ((bs.map an).set ((b+x.1).toNat*1) (.int .u8 1)) true 1));have K4:P3 Hs lo K pm E s ev fi ne (bs.set (b+x.1).toNat true) F H4:=by rw[a5,Nat.mul_one];exact K3.set (b+x.1).toNat
   have b6:(b+x.1).toNat*1+1<=bs.length:=oM;have b2:Fr1 E S H4:=U.trans (by rw[a5];exact Fr1.put);refine J27 f0 f5 f6 z u X bb gx nt O a1 l1 a7 a3.symm g3 e0 gp a6 gb bg bl a9 J b6 a5.symm @dD @wrap_small ?_;exact i4 (kk-1) oM ⟨j+1,bs.set (b+x.1).toNat true,true,oM,oM,f0,f4,f5,f6,rfl,z,u,rfl,by simp [D],K4,b2,I⟩
 .have W:ax bs (b+x.1)=true:=b0;rw[b0]at bg;simp only[W,Bool.not_true,Bool.false_and,bF]at I;refine J20 f0 f5 z u X bb gx nt O a1 l1 a7 a3.symm g3 e0 gp a6 gb bg @wrap_small ?_;exact i4 (kk-1) oM ⟨j+1,bs,m,oM,oM,f0,f4,f5,f6,f7,z,u,rfl,D,K3,U,I⟩
theorem BK(Hs:d8)(lo K pm I:Nat)(s:StD)(ev:EvD)(fi ne:SoD)(F:Nat->Prop)(J:d8)(n:Nat)(hn:n<=1000000)(a4:bJ fi n)(a5:bJ ne n)(b:Int)(hb:0<=b/\b<=1000000)(a7:I<J.next)(pc:Nat)(rp:LV)(W:J.get pc=cE rp 1)(a1:pc≠I)
  (ha:Option Addr) (hc:Nat) (hs:List Bool) (F2:Nat->Prop) (S:∀j,F2 j->j<J.next/\j≠I) (hh:SlF J F2 1 (w9 boE) (.slice ha hs.length hc) hs)
  (va:Option Addr) (ca:Nat) (l:List EdD) (a6:rp[3]?=some (.slice va l.length ca)) (hv:SlF J F 4 (w9 edE) (.slice va l.length ca) l) (hF:∀j,F j->j<J.next/\j≠I) (hl:l.length<=1000000) (hw:∀x∈l,0<=x.1/\b+x.1<n/\0<=x.2.1/\b+x.2.1<n/\(x.2.2.1=3->0<=x.2.2.2/\x.2.2.2<hs.length)) (r:List Bool):
  ∀kk e H2,(∃(bs:List Bool)(m:Bool),kk=(if m then ay bs+1 else 0)/\e.get 0=pT pm/\e.get 4=pT pc/\e.get 5=iV b/\e.get 6= .slice ha hs.length hc/\e.get 7= .bool m/\bs.length=n/\P3 Hs lo K pm I s ev fi ne bs F H2/\Fr1 I J H2/\(if m then itE fi ne hs b l (ay bs+1) bs else bs)=r)->
  w7 (LE prog t6 (.loop Ji) e H2) (fun o e H2=>o= .exit 0/\r.length=n/\P3 Hs lo K pm I s ev fi ne r F H2/\Fr1 I J H2):=by
 refine i8 _ _ ?_;rintro kk e H2 ⟨bs,m,hk,f0,f4,f5,f6,f7,X,hK,u,D⟩;cases m with
 |false=>
  simp only[bF]at D;refine J1 f7 ?_;exact i9 ⟨rfl,by rw[<-D];exact X,by rw[<-D];exact hK,u⟩
 |true=>
  simp only[if_true]at D hk;have a8:=u.stay.next;have a2:=u7 W;have g2:=(u.but pc a2 a1).trans W;refine J4 f4 f7 g2 a6 ?_;refine j8 (F:=fun z=>w7 (inBlock 1 (inBlock 2 z)) _) (Cd Hs lo K pm I s ev fi ne F H2 n hn a4 a5 b hb oM pc rp g2 a1 ha hc hs F2 (fun j E=>by have:=S j E;exact⟨oM,this.2⟩) (hh.mono (fun j E=>u.but j (S j E).1 (S j E).2) (fun _ h=>h) iF) va ca l (hv.mono (fun j E=>u.but j (hF j E).1 (hF j E).2) (fun _ h=>h) iF) (fun j E=>by have:=hF j E;exact⟨oM,this.2⟩) hl hw (T5 fi ne hs b l (bs,false)) l.length _ _ ⟨0,bs,false,rfl,oM,f0,f4,f5,f6,rfl,rfl,rfl,rfl,X,hK,Fr1.refl _ _,rfl⟩) ?_;rintro o e' H3 ⟨ho,g0,g4,g5,g6,g7,U,K3,F3⟩;have O:∀x∈l,0<=b+x.1/\b+x.1<bs.length:=fun x hx=>oN (hw x hx);have y:=dZ fi ne hs b l (bs,false) O;rw[itE]at D;obtain⟨z,hz⟩:=eY (T5 fi ne hs b l (bs,false));have a3:z.1.length=bs.length:=by rw[hz,ef]
  rw[<-hz]at g7 U K3 D y;simp only[Bool.false_eq_true,false_or]at y;refine J1 ho ?_;obtain⟨z1,z2⟩:=z;simp only at g7 U K3 D y a3;refine i4 (if z2 then ay z1+1 else 0) ?_ ⟨z1,z2,rfl,g0,g4,g5,g6,g7,U,K3,u.trans F3,?_⟩
  .cases z2 with
   |false=>simp only[bF];omega
   |true=>have:=y.2 rfl;simp only[if_true];omega
  .cases z2 with
   |false=>simpa using D
   |true=>
    simp only[if_true]at D ⊢;rw[<-D];have:=y.2 rfl;exact(ED fi ne hs b l (ay z1+1) (ay bs) z1 (fun x hx=>by rw[a3];exact O x hx) lR oM).symm
theorem P3.low{u:d8}{lo K z y:Nat}{s:StD}{e:EvD}{fi ne:SoD}{bs:List Bool}{F:Nat->Prop}{H:d8}(h:P3 u lo K z y s e fi ne bs F H)(n:Nat):P3 u lo K z y s e fi ne bs F ⟨H.bs,n⟩:=by
 obtain⟨⟨rs,re,D,E,I,J⟩,O,S,U,W,X⟩:=h;exact⟨⟨rs,re,D,E,I.mono (fun _ _=>rfl) (fun _ h=>h) iF iF,y9 _ _ _ _ _ _ J (fun _ _=>rfl) (fun _ h=>h)⟩,O,S,U,W,X⟩
theorem JJ{P:Program}{X:Lib}{f:FuncId}{l:t7}{y:Nat}{I:List ResultVar}(D:fnL P f=some (l,y,I))(z:X f=none)(args:LV)(E:args.length<=y)(H:d8){v:Value}{H':d8}(h:CL P X f args H=some (v,some H')):H'.low<=H.low:=by
 rw[j7 D z args E]at h;unfold u5 at h;split at h
 .cases h
 .obtain⟨J,_,u⟩:=Option.map_eq_some_iff.1 h;unfold D6 at u;split at u
  .simp at u
  .simp only[Prod.mk.injEq,Option.some.injEq]at u;rw[<-u.2];show min H.low _<=H.low;omega
 .cases h
theorem Qj(Hs:d8)(lo K W y:Nat)(s:StD)(U:EvD)(fi ne:SoD)(bs:List Bool)(F:Nat->Prop)(H:d8)(hK:P3 Hs lo K W y s U fi ne bs F H)(k3:lo<=H.next)(hw:WfS s bs.length)(f9:bJ fi bs.length)(g8:bJ ne bs.length)(f4:U.attrs.length<=1000000)(i:Nat)(p:PrD)(b:Int)(hp:s.progs[i]?=some p)(hb:s.base[i]?=some b)(h5:p.ts.length<=1000000)(f8:p.ed.length<=1000000):
  Ret (CL prog t6 72 [pT W,iV i] H) H fun v H'=>v=undef/\P3 Hs lo K W y s U fi ne (aV s U fi ne p b bs) F H'/\Fr1 y H H':=by
 have k8:(⟨H.bs,H.next⟩:d8).next=H.next:=rfl;have Kb:P3 Hs lo K W y s U fi ne bs F ⟨H.bs,H.next⟩:=hK.work (i6.start H);obtain⟨w1,w2,w3⟩:=hw.at_ i p b hp hb;have k7:=w3.st;have j4:=w3.en;have g9:=hw.nle;obtain⟨K1,a1,n1,-⟩:=pushF H (bC z5 1);have s1:i6 H.next ⟨H.bs,H.next⟩ K1:=by rw[a1];exact i6.push lR
 obtain⟨rs,re,bc,c3,g,i3,j0,e4,f7,b0,a9,_,_,e7,rk,_⟩:=Kb.row;obtain⟨pa,k9,ga,gc,xa,xc,ea,ec,ta,tc,e2,h1,h2,h3,_⟩:=F1 e4;have e1:=u7 g;have k4:=Kb.pbl;have r1:c3[1]?=some (.slice ga s.progs.length gc):=by rw[rk 1 oM,e2];rfl
 have r2:c3[2]?=some (.slice xa s.base.length xc):=by rw[rk 2 oM,e2];rfl
 have g5:i<s.progs.length:=(gS hp).1;have g4:i<s.base.length:=(gS hb).1;obtain⟨p',np,op,cp,j1,I,h8,_,rfl,f2,b8,i1,a4,j3,a6⟩:=h2.row (i:=i) g5;obtain rfl:p=p':=Option.some.inj (hp.symm.trans h8);obtain⟨b',nx,ox,cx,j2,f0,h7,_,rfl,d6,a7,i2,h4,f6,f3⟩:=h3.row (i:=i) g4;obtain rfl:b=b':=Option.some.inj (hb.symm.trans h7);have d7:f0=inE b:=f3;subst d7;have c7:cx[ox+i*1]?=some (.int .i64 b):=by have:=f6 0 oM;rw[Nat.add_zero]at this;exact this
 have ap:=gU a6;have lp:=co a6;obtain⟨b2,b3,l1,l3,c0,h0,k5⟩:=D5 a6;have e8:I[2]?=some (.int .i64 p.en):=by rw[c0];rfl
 have h9:I[3]?=some (.slice b2 p.ed.length b3):=by rw[c0];rfl
 have e6:ldC (some true) (some 5) 0 I=some (.agg I.toArray):=by rw[c0];rfl
 obtain⟨X,O⟩:=eY (K1.put H.next (bC I 1));have n2:X.next=H.next+1:=by rw[O,t5,n1]
 have s2:i6 H.next ⟨H.bs,H.next⟩ X:=by rw[O];exact s1.trans (i6.put lR)
 have g1:=(s1.get W e1).trans g;have g2:=(s2.get W e1).trans g;have d1:=(s1.get np (Kb.lt _ f2).1).trans b8;have d2:=(s1.get nx (Kb.lt _ d6).1).trans a7;have d3:=(s2.get nx (Kb.lt _ d6).1).trans a7;have d4:K1.get H.next=cE z5 1:=by rw[a1];exact j9
 have b5:X.get H.next=cE I 1:=by rw[O];exact j5 oM
 have e9:splice z5 0 I=I:=x9 _ _ (by rw[lp];rfl);have nt:(i:Int).toNat=i:=tN i;have k2:(i:Int)<s.progs.length:=oM;have i0:(i:Int)<s.base.length:=oM;have b1:=Kb.work s2;obtain⟨F',b6⟩:=eY (fun j=>F j\/j=y:Nat->Prop);have c4:∀j,F j->F' j:=fun j u=>by rw[b6];exact .inl u
 have b7:∀j,F j->X.get j=(⟨H.bs,H.next⟩:d8).get j:=fun j u=>s2.get j (Kb.lt j u).1;have f5:SlF X F' 1 (w9 rn) (sL y bs.length bc) bs:=by
  refine .inr ⟨y,0,bc,rfl,.inr ⟨_,true,by rw[b6];exact .inr rfl,b1.bits,by simp,fun j v u=>?_⟩⟩;show((bs.map an).drop (0+j*1)).take 1=rn v;have g7:=(gS u).1;rw[Nat.zero_add,Nat.mul_one,List.drop_eq_getElem_cons (by simpa using g7)];have:=(gS u).2;simp [rn,this]
 obtain⟨wv,d5,H3,a2,E,S,s3⟩:=Ql Hs lo K s p U bs F' X rs I re (sP y) bc (e4.mono b7 c4 iF iF) (a6.mono b7 c4 iF) (y9 _ _ _ _ _ _ f7 b7 c4) f5 (fun j u=>by
  rw[b6]at u;rcases u with u|u
  .have:=Kb.lt j u;omega
  .omega) b1.eq oM hw f4 h5
 have n3:=s3.next;have g6:H3.low<=X.low:=by
  rcases d5 with _|Hx
  .have e3:X=H3:=E;rw[e3];exact lR
  .have e3:Hx=H3:=E;rw[<-e3];exact JJ Ld rfl _ sM _ a2
 have c6:=b1.work s3;obtain⟨wa,wc,ew⟩:=S.slice;rw[ew]at a2 S;have g3:H3.get W=cE c3 1:=(s3.get W oM).trans g2;have d0:H3.get H.next=cE I 1:=(s3.get _ oM).trans b5;have k0:0<=b+p.en:=oM;have k1:b+p.en<bs.length:=oM;have bl:(bs.map an).length=bs.length:=sM;have d9:(b+p.en).toNat*1+1<=bs.length:=oM;obtain⟨H4,J⟩:=eY (H3.put y (.cells ((bs.map an).set ((b+p.en).toNat*1) (.int .u8 1)) true 1));have K4:P3 Hs lo K W y s U fi ne (bs.set (b+p.en).toNat true) F H4:=by rw[J,Nat.mul_one];exact c6.set (b+p.en).toNat
 have n4:H4.next=H3.next:=by rw[J,t5]
 have c9:=c6.bits;have b4:Fr1 y H3 H4:=by rw[J];exact Fr1.put
 have c8:Fr1 y ⟨H.bs,H.next⟩ H4:=((Fr1.of s2 oM (by rw[O,A4,a1,l9];omega)).trans (Fr1.of s3 oM g6)).trans b4;have f1:H4.get H.next=cE I 1:=(b4.but _ oM oM).trans d0;have l4:H4.low<=y:=by rw[J,A4];omega
 obtain⟨D,b9⟩:=eY (p.ts.map (D4 s U bs));have lhs:D.length=p.ts.length:=by rw[b9,List.length_map]
 rw[<-b9]at a2 S;have g0:SlF H4 (fun j=>l7 (.slice wa D.length wc) j) 1 (w9 boE) (.slice wa D.length wc) D:=(S.same fun j u=>by have:=S.lt u;exact b4.but j this.2 oM).frz fun _ h=>h;have h6:SlF H4 F 4 (w9 edE) (.slice b2 p.ed.length b3) p.ed:=h0.mono (fun j u=>c8.but j (Kb.lt j u).1 (Kb.lt j u).2) (fun _ h=>h) iF;rw[j7 KX rfl _ sM];have a8:∀(e5:Env),e5.get 0=pT W->e5.get 4=pT H.next->e5.get 5=iV b->e5.get 6= .slice wa D.length wc->e5.get 7= .bool true->
   Ret (u5 prog [] H (inBlock 0 (LE prog t6 Ji.loop e5 H4))) H fun v H'=>v=undef/\P3 Hs lo K W y s U fi ne (aV s U fi ne p b bs) F H'/\Fr1 y H H':=by
  intro e5 q0 q4 q5 q6 q7;refine j8 (F:=fun z=>Ret (u5 _ _ _ (inBlock 0 z)) _ _) (BK Hs lo K W y s U fi ne F H4 bs.length g9 f9 g8 b oM oM H.next I f1 oM wa wc D _ (fun j u=>by have:=S.lt u;omega) g0 b2 b3 p.ed h9 h6 (fun j u=>by have:=Kb.lt j u;omega) f8 (fun x hx=>by have:=w3.ed x hx;rw[lhs];omega) (aV s U fi ne p b bs) _ _ _ ⟨bs.set (b+p.en).toNat true,true,rfl,q0,q4,q5,q6,q7,by simp,K4,Fr1.refl _ _,by rw[aV,<-b9];rfl⟩) ?_;rintro o e' H5 ⟨ho,k6,K5,c5⟩;have a5:=c8.trans c5;have l5:H5.low<=y:=Nat.le_trans c5.low l4;refine J1 ho ?_;refine E1 (fun _ hl=>oM) ⟨rfl,?_,?_⟩
  .exact K5.low _
  .exact⟨⟨a5.stay.next,fun k q1 q2=>(by have:=a5.stay.lowAll k q1 (show k<=H.next from oM);show k<=min H.low H5.low;omega),a5.stay.get⟩,a5.but,by show min H.low H5.low<=H.low;omega⟩
 rcases d5 with _|Hx
 .have e3:X=H3:=E;subst e3;have a3:CL prog t6 93 [.agg rs.toArray,.agg I.toArray,.agg re.toArray,sL y bs.length bc] X=some (.slice wa D.length wc,none):=a2;refine J30 g r1 r2 nt b8 a4 a7 c7 a1.symm g1 g2 d1 d2 d4 ap lp e9 O.symm d3 b0 b5 e6 a9 e7 a3 @dD e8 c9 (aI bl d9) (aI J.symm @wrap_small) ?_;exact a8 _ rfl rfl rfl rfl rfl
 .have e3:Hx=H3:=E;subst e3;have a3:CL prog t6 93 [.agg rs.toArray,.agg I.toArray,.agg re.toArray,sL y bs.length bc] X=some (.slice wa D.length wc,some Hx):=a2;refine J30 g r1 r2 nt b8 a4 a7 c7 a1.symm g1 g2 d1 d2 d4 ap lp e9 O.symm d3 b0 b5 e6 a9 e7 a3 @dD (aI g3 d0) (aI e8 c9) (aI bl d9) (aI J.symm @wrap_small) ?_;exact a8 _ rfl rfl rfl rfl rfl
theorem qh(H:d8)(u:Nat)(bs:List Bool)(c:Nat)(y:H.get u=cE (bs.map an) 1):Z4 prog H 81 9 (sL u bs.length c)=some (.string (kz bs),none):=by
 have key:∀l:List Bool,(l.map an).mapM dd=some (l.map fun b=>if b then(1:UInt8) else 0):=by
  intro l;induction l with
  |nil=>rfl
  |cons b l z=>
   rw[List.map_cons,List.mapM_cons,z];cases b<;>rfl
 have hs:A5 H 1 (sL u bs.length c)=some (bs.map an):=by
  simp only[A5];by_cases h:bs.length=0
  .rw[if_pos h];have:bs=[]:=List.length_eq_zero_iff.1 h;rw[this];rfl
  .rw[if_neg h,y];simp;exact List.take_of_length_le sM
 simp only[Z4,yR.2.2.2.2.2.2,ty9.2.2.2.2.2.2,ty5.2.2.2.2.2.2,hs,Option.bind_some,key];rfl
theorem Cu(W:d8)(lo K J I:Nat)(s:StD)(u:EvD)(fi ne:SoD)(F:Nat->Prop)(U:d8)(n:Nat)(S:WfS s n)(b3:lo<=U.next)(a6:bJ fi n)(a9:bJ ne n)(a1:u.attrs.length<=1000000)(b0:∀p∈s.progs,p.ts.length<=1000000/\p.ed.length<=1000000) (r:List Bool) (p5 p8:Value):
  ∀kk e H2,(∃(i:Nat)(bs:List Bool),kk=s.progs.length-i/\i<=s.progs.length/\e.get 5=p5/\e.get 8=p8/\e.get 9=pT J/\e.get 22=iV s.progs.length/\e.get 23=iV i/\bs.length=n/\P3 W lo K J I s u fi ne bs F H2/\Fr1 I U H2/\W9 s u fi ne ((s.progs.zip s.base).drop i) bs=r)->
  w7 (LE prog t6 (.loop Nv) e H2) (fun o e H2=>o= .exit 0/\e.get 5=p5/\e.get 8=p8/\e.get 9=pT J/\r.length=n/\P3 W lo K J I s u fi ne r F H2/\Fr1 I U H2):=by
 refine i8 _ _ ?_;rintro kk e H2 ⟨i,bs,hk,hi,f5,f8,X,y,D,h,hK,z,E⟩;rcases b:decide ((i:Int)<s.progs.length)with _|_
 .have a2:=dF b;have:(s.progs.zip s.base).drop i=[]:=dN (by rw[List.length_zip];omega);rw[this,W9]at E;refine J3 y D b ?_;exact i9 ⟨rfl,f5,f8,X,by rw[<-E];exact h,by rw[<-E];exact hK,z⟩
 have a2:=dT b;have b1:=S.l1;have b2:=S.l2;obtain⟨p,hp,a5⟩:=Q1 (l:=s.progs) (i:=i) oM;obtain⟨O,a3,a4⟩:=Q1 (l:=s.base) (i:=i) oM;have hz:(s.progs.zip s.base).drop i=(p,O)::(s.progs.zip s.base).drop (i+1):=by
  rw[gJ,a5,a4,List.zip_cons_cons,gJ]
 rw[hz,W9]at E;have b4:=z.stay.next;obtain⟨z1,z2⟩:=b0 p (mG hp);obtain⟨v,h3,H3,hc,a7,rfl,K3,F3⟩:=Qj W lo K J I s u fi ne bs F H2 hK oM (by rw[h];exact S) (by rw[h];exact a6) (by rw[h];exact a9) a1 i p O hp a3 z1 z2;have a8:(aV s u fi ne p O bs).length=n:=by rw[aV,rZ];simp [h]
 have b5:=S.l0;refine J7 X y D b hc a7 @wrap_small ?_;exact i4 (kk-1) oM ⟨i+1,aV s u fi ne p O bs,oM,oM,f5,f8,X,y,rfl,a8,K3,z.trans F3,E⟩
abbrev z20:LV:=[nS,nS,nS,iV 0,iV 0,iV 0,nS,nS,iV 0,.string eB,.string eB,nS,.string eB,.bool false,.bool false,.string eB,.bool false,.bool false,.string eB,nS]
theorem qw(Hs:d8)(lo K:Nat)(s:StD)(S:EvD)(fi ne:SoD)(F:Nat->Prop)(H:d8)(D O:LV)(hs:StF H F (QR Hs lo K false) (QR Hs lo K true) D s)(he:EvF H F O S)(hF:∀j,F j->j<H.next) (d9:∀j,j<lo->H.get j=Hs.get j) (h1:lo<=H.next) (n:Nat) (hn:(n:Int)=A0 s.progs) (hw:WfS s n) (e2:bJ fi n) (e4:bJ ne n)
  (d4:S.attrs.length<=1000000) (a8:∀p∈s.progs,p.ts.length<=1000000/\p.ed.length<=1000000/\0<=p.st/\p.st<=1000000):
  CL prog t6 41 [.agg D.toArray,.agg O.toArray,.agg (soE fi).toArray,.agg (soE ne).toArray] H=some (.agg (soE (I4 s S fi ne)).toArray,none):=by
 obtain⟨pa,pc,ga,gc,xa,xc,ea,ec,ta,tc,a1,_⟩:=F1 hs;obtain⟨av,W,d5⟩:=id he;obtain⟨g6,g7,rfl⟩:=d5.slice;have b5:D.all oC=true:=by rw[a1];rfl
 have ae:O.all oC=true:=by rw[W];rfl
 have ls:D.length=8:=by rw[a1];rfl
 have le:O.length=5:=by rw[W];rfl
 have f4:ldC (some true) (some 8) 0 D=some (.agg D.toArray):=by rw[a1];rfl
 have e8:ldC (some true) (some 5) 0 O=some (.agg O.toArray):=by rw[W];rfl
 have f7:O[0]?=some (.int .i64 S.kind):=by rw[W];rfl
 have f8:D[1]?=some (.slice ga s.progs.length gc):=by rw[a1];rfl
 have h2:=hw.nle;have g8:=hw.l0;have g9:=hw.l1;obtain⟨f1,f2,f3⟩:=fi;obtain⟨g1,g2,g3⟩:=ne;obtain⟨fe,E⟩:=eY (soE (f1,f2,f3));obtain⟨ge,I⟩:=eY (soE (g1,g2,g3));rw[<-E,<-I];have af:fe.all oC=true:=by rw[E];rfl
 have ag:ge.all oC=true:=by rw[I];rfl
 have lf:fe.length=3:=by rw[E];rfl
 have lg:ge.length=3:=by rw[I];rfl
 have e9:ldC (some true) (some 3) 0 fe=some (.agg fe.toArray):=by rw[E];rfl
 have f0:ldC (some true) (some 3) 0 ge=some (.agg ge.toArray):=by rw[I];rfl
 obtain⟨z3,b2⟩:=eY ([.bool false,.bool false,.string eB]:LV);obtain⟨u,y⟩:=eY (((((d8.push ⟨H.bs,H.next⟩ (bC D 1)).push (bC O 1)).push (bC fe 1)).push (bC ge 1)).push (bC z3 1));have J:(d8.push ⟨H.bs,H.next⟩ (bC D 1)).next=H.next+1:=by rw[i5];rfl
 have n1:u.next=H.next+5:=by rw[y,i5,i5,i5,i5,J]
 have s1:i6 H.next H u:=by rw[y];exact((((i6.first H _).trans (i6.push oM)).trans (i6.push (by rw[i5];omega))).trans (i6.push (by rw[i5,i5];omega))).trans (i6.push (by rw[i5,i5,i5];omega))
 have a5:u.get H.next=cE D 1:=by
  rw[y,i7 (by simp only[i5,J];omega),i7 (by simp only[i5,J];omega),i7 (by simp only[i5,J];omega),i7 oM];exact j9
 have a6:u.get (H.next+1)=cE O 1:=by
  rw[y,i7 (by simp only[i5,J];omega),i7 (by simp only[i5,J];omega),i7 (by simp only[i5,J];omega)];exact y7 oM
 have a9:u.get (H.next+2)=cE fe 1:=by
  rw[y,i7 (by simp only[i5,J];omega),i7 (by simp only[i5,J];omega)];exact y7 (by simp only[i5,J];omega)
 have b0:u.get (H.next+3)=cE ge 1:=by
  rw[y,i7 (by simp only[i5,J];omega)];exact y7 (by simp only[i5,J];omega)
 have b6:u.get (H.next+4)=cE z3 1:=by
  rw[y];exact y7 (by simp only[i5,J];omega)
 have c5:H.next<=u.low:=by rw[y];simp only[l9];exact lR
 have e3:∀j,F j->u.get j=H.get j:=fun j hj=>s1.get j (hF j hj);have c3:=Qi u F _ _ D s (fun j hj=>by have:=hF j hj;omega) (hs.mono e3 (fun _ h=>h) iF iF) oM (fun p hp=>⟨(a8 p hp).2.2.1,(a8 p hp).2.2.2⟩);rw[<-hn]at c3;obtain⟨H2,a7,-,-,a2⟩:=pushE u (.cells ((List.replicate n false).map an) true 1);have n2:H2.next=H.next+6:=by rw[a7,i5,n1]
 have c6:N0 prog u 81 (.int .i64 n) (.int .i64 n)=some (sL u.next n (n+1),H2):=by
  have e1:(List.replicate n [Value.int .u8 0]).flatten=(List.replicate n false).map an:=by
   rw[List.flatten_replicate_singleton,List.map_replicate];rfl
  simp only[N0,yR.2.2.2.2.2.1,ty5.2.2.1,ty5.2.1,Int.toNat_natCast,e1];rw[if_pos ⟨by decide,oM,Int.le_refl _,oM,oM⟩,a7];rfl
 have b7:=(a2.get _ oM).trans a5;have b8:=(a2.get _ oM).trans a6;have b9:=(a2.get _ oM).trans a9;have c0:=(a2.get _ oM).trans b0;obtain⟨b3,X⟩:=eY (D++(O++(fe++(ge++[sL u.next n (n+1)]))));obtain⟨rA,hA⟩:=eY (splice z20 0 D);obtain⟨rB,hB⟩:=eY (splice rA 8 O);obtain⟨rC,hC⟩:=eY (splice rB 13 fe);obtain⟨rD,hD⟩:=eY (splice rC 16 ge);have lA:rA.length=20:=by rw[hA,E3];rfl
 have lB:rB.length=20:=by rw[hB,E3];exact lA
 have lC:rC.length=20:=by rw[hC,E3];exact lB
 have lD:rD.length=20:=by rw[hD,E3];exact lC
 have eE:rD.set 19 (sL u.next n (n+1))=b3:=by rw[hD,hC,hB,hA,X,a1,W,E,I];rfl
 have b4:b3.all oC=true:=by rw[X];simp only[List.all_append,b5,ae,af,ag];rfl
 obtain⟨H3,U,-,d3,-⟩:=pushE H2 (bC b3 1);have n3:H3.next=H.next+7:=by rw[U,i5,n2]
 have a3:i6 u.next u H3:=by rw[U];exact a2.trans (i6.push oM)
 have c8:i6 H.next H H3:=s1.trans (a3.weaken oM);have gb:H3.get u.next=some (.cells ((List.replicate n false).map an) true 1):=by rw[U,i7 oM,a7];exact j9
 have c4:∀j,F j->H3.get j=H.get j:=fun j hj=>c8.get j (hF j hj);have K3:P3 Hs lo K H2.next u.next s S (f1,f2,f3) (g1,g2,g3) (List.replicate n false) F H3:=⟨⟨D,O,n+1,by rw[<-E,<-I,List.length_replicate,<-X];exact d3,hs.mono c4 (fun _ h=>h) iF iF,y9 _ _ _ _ _ _ he c4 (fun _ h=>h)⟩,gb,fun j hj=>by have:=hF j hj;omega,fun j hj=>by rw[c8.get j oM];exact d9 j hj,oM,oM⟩
 have d0:=(a3.get _ oM).trans a5;have e5:(A0 s.progs).toNat=n:=oM;rw[j7 Po rfl _ sM,I4,e5];refine J30 b5 ae af ag ls le lf lg b2.symm y.symm a5 a6 a9 b0 f4 e8 e9 f0 c3 c6 b7 b8 b9 (aI c0 hA.symm) (aI lA hB.symm) (aI lB hC.symm) (aI lC hD.symm) (aI lD eE) (aI b4 U.symm) (aI d0 f8) ?_;refine j8 (F:=fun z=>u5 _ _ _ (u9 (inBlock 0 z) _)=_) (Cu Hs lo K H2.next u.next s S (f1,f2,f3) (g1,g2,g3) F H3 n hw oM e2 e4 d4 (fun p hp=>⟨(a8 p hp).1,(a8 p hp).2.1⟩) (W9 s S (f1,f2,f3) (g1,g2,g3) (s.progs.zip s.base) (List.replicate n false)) (pT (H.next+1)) (pT (H.next+4)) s.progs.length _ _ ⟨0,List.replicate n false,rfl,oM,rfl,rfl,rfl,rfl,rfl,List.length_replicate ..,K3,Fr1.refl _ _,rfl⟩) ?_;rintro o e' H4 ⟨ho,k5,k8,k9,e6,K4,a4⟩;obtain⟨bz,d6⟩:=eY (W9 s S (f1,f2,f3) (g1,g2,g3) (s.progs.zip s.base) (List.replicate n false));rw[<-d6]at e6 K4 ⊢;have n4:=a4.stay.next;obtain⟨h4,h3,c9,g0,g4,e7,f5,_,_,_,_,_,_,c7,_,_⟩:=K4.row;have d7:=qh H4 u.next bz c9 K4.bits;have d1:H4.get (H.next+1)=cE O 1:=(a4.but _ oM oM).trans ((a3.get _ oM).trans a6);have d2:H4.get (H.next+4)=cE z3 1:=(a4.but _ oM oM).trans ((a3.get _ oM).trans b6);have f9:splice z3 0 [.bool true,.bool (decide (S.kind=2)),.string (kz bz)]=[.bool true,.bool (decide (S.kind=2)),.string (kz bz)]:=by rw[b2];rfl
 have f6:z3.length=3:=by rw[b2];rfl
 obtain⟨H5,b1⟩:=eY (H4.put (H.next+4) (bC [.bool true,.bool (decide (S.kind=2)),.string (kz bz)] 1));have g5:H5.get (H.next+4)=cE [.bool true,.bool (decide (S.kind=2)),.string (kz bz)] 1:=by rw[b1];exact j5 oM
 have h0:H.next<=H5.low:=by
  rw[b1,A4];have a:=(a3.weaken (show H.next<=u.next from oM)).low c5;have b:=(a4.stay.weaken (show H.next<=u.next from oM)).low a;omega
 clear a5 a6 a9 b0 b6 b7 b8 b9 c0 hA hB hC hD lA lB lC lD eE c6 y a7 U;exact J15 ho k5 k8 k9 d1 f7 g4 c7 d7 d2 f6 f9 b1.symm g5 @dD trivial
abbrev IV:ByteArray:=⟨#[48,49,50,51,52,53,54,55,56,57,97,98,99,100,101,102,103,104,105,106,107,108,109,110,111,112,113,114,115,116,117,118,119,120,121,122]⟩
abbrev IW:ByteArray:=⟨#[48,48,48,49,48,50,48,51,48,52,48,53,48,54,48,55,48,56,48,57,49,48,49,49,49,50,49,51,49,52,49,53,49,54,49,55,49,56,49,57,50,48,50,49,50,50,50,51,50,52,50,53,50,54,50,55,50,56,50,57,51,48,51,49,51,50,51,51,51,52,51,53,51,54,51,55,51,56,51,57,52,48,52,49,52,50,52,51,52,52,52,53,52,54,52,55,52,56,52,57,53,48,53,49,53,50,53,51,53,52,53,53,53,54,53,55,53,56,53,57,54,48,54,49,54,50,54,51,54,52,54,53,54,54,54,55,54,56,54,57,55,48,55,49,55,50,55,51,55,52,55,53,55,54,55,55,55,56,55,57,56,48,56,49,56,50,56,51,56,52,56,53,56,54,56,55,56,56,56,57,57,48,57,49,57,50,57,51,57,52,57,53,57,54,57,55,57,56,57,57]⟩
theorem zW:((List.range 10).all fun n=>decide ((IV.extract n (n+1)).data.toList=(dg1 n).data.toList))=true/\((List.range 100).all fun n=>decide ((IW.extract (n*2) (n*2+2)).data.toList=(dg1 (n / 10)).data.toList++(dg1 (n % 10)).data.toList))=true:=⟨kR,kR⟩
theorem rl{a b:ByteArray}(h:a.data.toList=b.data.toList):a=b:=by
 obtain⟨a⟩:=a;obtain⟨b⟩:=b
 congr 1
 exact Array.toList_inj.1 h
theorem IX(n:Nat)(h:n<10):IV.extract n (n+1)=dg n:=by
 have:=List.all_eq_true.1 zW.1 n (List.mem_range.2 h);rw[dg,dif_pos h];exact rl (dT this)
theorem IY(n:Nat)(u:10<=n)(h:n<100):IW.extract (n*2) (n*2+2)=dg n:=by
 have:=List.all_eq_true.1 zW.2 n (List.mem_range.2 h);rw[dg,dif_neg oM,dg,dif_pos oM,dg,dif_pos oM];refine rl ((dT this).trans ?_);rw[ct]
theorem Mw(n:Nat)(h:n<100)(H:d8):CL prog t6 149 [iV n] H=some (.string (dg n),none):=by
 have J:n<10->∀H,aH prog H 9 (.string IV) (some (.int .i64 n)) (some (.int .i64 ((n:Int)+1))) none=some (.string (dg n)):=fun u H=>by
  have p1:(0:Int)<=n:=oM;have p2:(0:Int)<=(n:Int)+1:=oM;have D:((n:Int)+1).toNat=n+1:=oM;have I:n<=n+1/\n+1<=IV.size:=⟨oM,by show n+1<=36;omega⟩
  simp only[aH,ty9.2.2.2.2.2.2,bnd,if_pos p1,if_pos p2,Int.toNat_natCast,D,if_pos I,IX n u]
 have O:10<=n->∀H,aH prog H 9 (.string IW) (some (.int .i64 ((n:Int)*2))) (some (.int .i64 ((n:Int)*2+2))) none=some (.string (dg n)):=fun u H=>by
  have p1:(0:Int)<=(n:Int)*2:=oM;have p2:(0:Int)<=(n:Int)*2+2:=oM;have D:((n:Int)*2).toNat=n*2:=oM;have E:((n:Int)*2+2).toNat=n*2+2:=oM;have I:n*2<=n*2+2/\n*2+2<=IW.size:=⟨oM,by show n*2+2<=200;omega⟩
  simp only[aH,ty9.2.2.2.2.2.2,bnd,if_pos p1,if_pos p2,D,E,if_pos I,IY n u h]
 rw[j7 Pf rfl _ sM];rcases b:decide ((n:Int)<10)with _|_
 .have S:=dF b;have z:=O oM;exact J3 b z @wrap_small trivial
 .have S:=dT b;have y:=J oM;exact J3 b y @wrap_small trivial
theorem Qk(n:Nat)(h:n<100)(H:d8):CL prog t6 81 [iV n] H=some (.string (dg n),none):=by
 have z:=fun H=>Mw n h H;have y:∀H,CL prog t6 129 [iV n,iV 10] H=some (.string (dg n),none):=fun H=>by
  have D:decide ((0:Int)<=n)=true:=decide_eq_true oM;have E:decide ((n:Int)<100)=true:=decide_eq_true oM;rw[j7 OW rfl _ sM];exact J3 D E z trivial
 have u:∀H,CL prog t6 103 [iV n] H=some (.string (dg n),none):=fun H=>by
  rw[j7 OE rfl _ sM];exact J1 y trivial
 rw[j7 QX rfl _ sM];exact J1 u trivial
theorem qs(l:List ByteArray)(s:ByteArray):(l.any fun y=>cj s y)=T7 l s:=by
 unfold T7;congr 1;funext y;exact decide_eq_decide.2 ⟨Eq.symm,Eq.symm⟩
def frN(l:List ByteArray)(stem:ByteArray):Nat:=di (fun n=>T7 l (stem++dg n)) (l.length+1) 0
theorem Em(l:List ByteArray)(u:ByteArray):T7 l (u++dg (frN l u))=false/\frN l u<l.length+1:=by
 obtain⟨m,z,y⟩:=rO (fun n=>u++dg n) (fun i j h=>rJ (ri h)) l (fun n=>T7 l (u++dg n)) (fun i h=>ni h);have:=dy (fun n=>T7 l (u++dg n)) (l.length+1) 0 ⟨m,oM,oM,y⟩;exact⟨this.1,by have:=this.2;rw[frN];omega⟩
def frS(l:List ByteArray)(stem:ByteArray)(ah:List ByteArray):ByteArray:=match ah.find? (fun s=> !T7 l s)with|some s=>s|none=>stem++dg (frN l stem)
theorem uy(H0:d8)(lo:Nat)(X:lo<=H0.next)(v v1:Value)(l:List ByteArray)(hv:SlI H0 lo 1 (w9 stE) v l)(hn:l.length<=1000)(va:Option Addr)(ca:Nat)(h:List ByteArray)(hw:SlI H0 H0.next 1 (w9 stE) (.slice va h.length ca) h)(a4:h.length<=1000):
  ∀kk e H2,(∃i:Nat,kk=h.length-i/\i<=h.length/\e.get 0=v/\e.get 1=v1/\e.get 11= .slice va h.length ca/\e.get 12=iV h.length/\e.get 13=iV i/\H2=H0/\(h.drop i).find? (fun s=> !T7 l s)=h.find? (fun s=> !T7 l s))->
  w7 (LE prog t6 (.loop NI) e H2) (fun o e H2=>H2=H0/\e.get 0=v/\e.get 1=v1/\((o= .exit 0/\h.find? (fun s=> !T7 l s)=none)\/(o= .ret/\∃s,h.find? (fun s=> !T7 l s)=some s/\e.get 6= .string s))):=by
 refine i8 _ _ ?_;rintro kk e H2 ⟨i,hk,hi,I,U,z,u,D,hH,E⟩;subst hH;rcases b:decide ((i:Int)<h.length)with _|_
 .have W:=dF b;have:h.drop i=[]:=dN oM;rw[this,List.find?_nil]at E;refine J3 u D b ?_;exact i9 ⟨rfl,I,U,.inl ⟨rfl,E.symm⟩⟩
 have W:=dT b;obtain⟨y,nb,o,cs,own,el,hx,hd,rfl,a3,hg,a2,a1,hc,rfl⟩:=hw.row (i:=i) oM;have nt:(i:Int).toNat=i:=tN i;have S:=hc 0 oM;rw[Nat.add_zero]at S;have J:=Ew H2 lo v l y X hv oM;rw[qs]at J;rw[hd,List.find?_cons]at E;rcases O:T7 l y with _|_
 .simp only[O,Bool.not_false]at E;rw[O]at J;refine J9 I z u D b hg nt S J ?_;exact z9 ⟨rfl,I,U,.inr ⟨rfl,y,E.symm,rfl⟩⟩
 .simp only[O,Bool.not_true]at E;rw[O]at J;refine J10 I z u D b hg nt S J @wrap_small ?_;exact i4 (kk-1) oM ⟨i+1,oM,oM,I,U,z,u,rfl,rfl,E⟩
theorem xk(H0:d8)(lo:Nat)(J:lo<=H0.next)(v:Value)(l:List ByteArray)(h:ByteArray)(hv:SlI H0 lo 1 (w9 stE) v l)(hn:l.length<99)(hs:h.size<=1000):
  ∀O e H2,(∃n:Nat,O=frN l h+1-n/\n<=frN l h/\e.get 0=v/\e.get 1= .string h/\e.get 9=iV n/\H2=H0)->
  w7 (LE prog t6 (.loop NJ) e H2) (fun o e H2=>H2=H0/\o= .ret/\e.get 6= .string (h++dg (frN l h))):=by
 refine i8 _ _ ?_;rintro O e H2 ⟨n,hk,hi,D,E,S,W⟩;subst W;obtain⟨hf,a1⟩:=Em l h;have I:=(cD (fun n=>T7 l (h++dg n)) (l.length+1) 0).2;have U:=fun H=>Qk n oM H;have X:=lU n;have y:=Z3 (P:=prog) 9 h (dg n) oM;have u:=Ew H2 lo v l (h++dg n) J hv oM;rw[qs]at u;by_cases z:n=frN l h
 .rw[z,hf,<-z]at u;refine J6 D E S U y u ?_;exact z9 ⟨rfl,rfl,by rw[<-z];rfl⟩
 .have hq:T7 l (h++dg n)=true:=I n oM (by rw[frN]at z hi;omega);rw[hq]at u;refine J7 D E S U y u @wrap_small ?_;exact i4 (O-1) oM ⟨n+1,oM,oM,D,E,rfl,rfl⟩
theorem fresh(H:d8)(lo:Nat)(v w:Value)(l:List ByteArray)(h:ByteArray)(u:List ByteArray)(y:lo<=H.next)(S:SlI H lo 1 (w9 stE) v l)(U:SlI H H.next 1 (w9 stE) w u)(hn:l.length<99)(hs:h.size<=1000)(E:u.length<=1000):
  CL prog t6 56 [v,.string h,w] H=some (.string (frS l h u),none):=by
 obtain⟨va,W,rfl⟩:=U.slice;rw[j7 KU rfl _ sM];refine J1 bU ?_;refine j8 (F:=fun z=>u5 _ _ _ (u9 (inBlock 0 z) _)=_) (uy ⟨H.bs,H.next⟩ lo y v (.string h) l (S.mono (fun _ _=>rfl) lR iF) oM va W u (U.mono (fun _ _=>rfl) lR iF) E u.length _ _ ⟨0,rfl,oM,rfl,rfl,rfl,rfl,rfl,rfl,rfl⟩) ?_;rintro o e' H' ⟨rfl,X,g1,⟨I,O⟩|⟨I,s,O,D⟩⟩
 .refine J1 I ?_;refine j8 (F:=fun z=>u5 _ _ _ (inBlock 2 z)=_) (xk ⟨H.bs,H.next⟩ lo y v l h (S.mono (fun _ _=>rfl) lR iF) hn hs (frN l h+1) _ _ ⟨0,rfl,oM,X,g1,rfl,rfl⟩) ?_;rintro o e2 H2 ⟨rfl,J,D⟩;simp(maxSteps:=20000000) -dsimp (disch:=first|omega|(simp only[rH]<;>omega)|fail) only[↓ig,rQ,N3,sevalprocAttr,tyA,J,D,frS,O]
 .simp(maxSteps:=20000000) -dsimp (disch:=first|omega|(simp only[rH]<;>omega)|fail) only[↓ig,rQ,N3,sevalprocAttr,tyA,I,D,frS,O]
def cn(l:List (ByteArray×ByteArray)):List ByteArray:=(l.filter fun n=>decide (n.1=eB)).map (·.2)
abbrev z0S:ByteArray:=⟨#[122,48]⟩
theorem aA{l:List ByteArray}{s:ByteArray}:T7 l s=true↔s∈l:=⟨ni,fun h=>List.any_eq_true.2 ⟨s,h,decide_eq_true rfl⟩⟩
theorem P9{l:List (ByteArray×ByteArray)}{x:ByteArray×ByteArray}:P8 l x=true↔x∈l:=⟨qr,fun h=>List.any_eq_true.2 ⟨x,h,E9.2 rfl⟩⟩
theorem uQ(l:List (ByteArray×ByteArray))(s:ByteArray):s∈cn l↔(eB,s)∈l:=by
 unfold cn;rw[List.mem_map]
 constructor
 .rintro⟨⟨a,b⟩,h,rfl⟩;obtain⟨u,y⟩:=List.mem_filter.1 h;have:a=eB:=dT y;subst this;exact u
 .intro h;exact⟨_,List.mem_filter.2 ⟨h,decide_eq_true rfl⟩,rfl⟩
theorem JG:zS++dg 0=z0S:=by rw[dg,dif_pos oM];decide
theorem BZ(l:List (ByteArray×ByteArray)):frS (cn l++[z0S]) zS [zS]=zN (Q6 l):=by
 obtain⟨E,_⟩:=sF l;have u:=(cD (fun n=>P8 l (zNm n)) (l.length+1) 0).2;have e0:P8 l (zNm 0)=T7 (cn l++[z0S]) zS:=by
  rw[Bool.eq_iff_iff,P9,aA,List.mem_append,uQ];exact⟨.inl,fun h=>h.resolve_right fun q=>by have:=List.mem_singleton.1 q;revert this;decide⟩
 have en:∀n,0<n->P8 l (zNm n)=T7 (cn l++[z0S]) (zS++dg n):=fun n y=>by
  have J:zNm n=(eB,zS++dg n):=by rw[zNm,zN,if_neg oM]
  rw[Bool.eq_iff_iff,P9,aA,List.mem_append,uQ,J];refine⟨.inl,fun h=>h.resolve_right fun q=>?_⟩;have O:=List.mem_singleton.1 q;have S:zS++dg n=zS++dg 0:=O.trans JG.symm;have:=rJ (ri S);omega
 rcases b:T7 (cn l++[z0S]) zS with _|_
 .have y:Q6 l=0:=by
   rcases Nat.eq_zero_or_pos (Q6 l)with h|h
   .exact h
   .have:=u 0 oM (by rw[Q6]at h;exact h);rw[e0,b]at this;cases this
  rw[frS,List.find?_cons,b,y];rfl
 .have y:0<Q6 l:=by
   rcases Nat.eq_zero_or_pos (Q6 l)with h|h
   .rw[h,e0,b]at E;cases E
   .exact h
  obtain⟨z,_⟩:=Em (cn l++[z0S]) zS;have D:=(cD (fun n=>T7 (cn l++[z0S]) (zS++dg n)) ((cn l++[z0S]).length+1) 0).2;have I:0<frN (cn l++[z0S]) zS:=by
   rcases Nat.eq_zero_or_pos (frN (cn l++[z0S]) zS)with h|h
   .rw[h]at z;have:T7 (cn l++[z0S]) (zS++dg 0)=true:=aA.2 (List.mem_append.2 (.inr (List.mem_singleton.2 JG)));rw[this]at z;cases z
   .exact h
  have:frN (cn l++[z0S]) zS=Q6 l:=by
   rcases Nat.lt_trichotomy (frN (cn l++[z0S]) zS) (Q6 l)with h|h|h
   .have:=u _ oM (by rw[Q6]at h;exact h);rw[en _ I,z]at this;cases this
   .exact h
   .have:=D _ oM (by rw[frN]at h;exact h);rw[<-en _ y,E]at this;cases this
  rw[frS,List.find?_cons,b];simp only[Bool.not_true,List.find?_nil,this];rw[zN,if_neg oM]
theorem BD(x:ByteArray×ByteArray)(l:List (ByteArray×ByteArray)):cn (x::l)=if decide (x.1=eB)=true then x.2::cn l else cn l:=by
 unfold cn;rw[List.filter_cons];split<;>rfl
theorem EO(l:List (ByteArray×ByteArray)):(cn l).length<=l.length:=by
 unfold cn;rw[List.length_map];exact List.length_filter_le _ _
theorem Fn(H1:d8)(lo p2:Nat)(a9:lo<=p2)(b4:p2<H1.next)(va:Option Addr)(ca:Nat)(l:List (ByteArray×ByteArray))(hv:SlI H1 lo 2 (w9 nmE) (.slice va l.length ca) l)(hn:l.length<=1000)(v2:Value)(r:List ByteArray):
  ∀kk e H2,(∃(i:Nat)(h:List ByteArray)(w:Value),kk=l.length-i/\i<=l.length/\h.length<=i/\e.get 2=v2/\e.get 3=w/\e.get 6= .slice va l.length ca/\e.get 7=iV l.length/\e.get 8=iV i/\u6 H2 (p2+1) 1 (w9 stE) w h/\i6 (p2+1) H1 H2/\h++cn (l.drop i)=r)->
  w7 (LE prog t6 (.loop NK) e H2) (fun o e H2=>o= .exit 0/\e.get 2=v2/\∃w,e.get 3=w/\u6 H2 (p2+1) 1 (w9 stE) w r/\i6 (p2+1) H1 H2):=by
 refine i8 _ _ ?_;rintro kk e H2 ⟨i,h,w,hk,hi,a7,f2,f3,f6,O,f8,hO,S,I⟩;have b2:=S.next;rcases J:decide ((i:Int)<l.length)with _|_
 .have a3:=dF J;have:l.drop i=[]:=dN oM;rw[this]at I;refine J3 O f8 J ?_;exact i9 ⟨rfl,f2,w,f3,by rw[<-I];simpa [cn] using hO,S⟩
 have a3:=dT J;obtain⟨x,nb,o,cs,own,el,hx,hd,rfl,b0,hg,a8,E,hc,rfl⟩:=hv.row (i:=i) oM;have nt:(i:Int).toNat=i:=tN i;have D:=(S.get nb oM).trans hg;obtain⟨Ha,z,a4,W,-⟩:=pushE H2 (bC [.string eB,.string eB] 1);obtain⟨H3,u⟩:=eY (Ha.put H2.next (bC (nmE x) 1));have b3:H3.next=H2.next+1:=by rw[u,t5,a4]
 have y:i6 H2.next H2 H3:=by rw[u,z];exact(i6.push lR).trans (i6.put lR)
 have U:H3.get H2.next=cE (nmE x) 1:=by rw[u];exact j5 oM
 have a5:H3.get nb=some (.cells cs own 2):=(y.get nb oM).trans D;have a6:Ha.get nb=some (.cells cs own 2):=by rw[z,i7 oM];exact D
 rw[hd,BD]at I;rcases b1:decide (x.1=eB)with _|_
 .rw[b1,if_neg (by decide)]at I;refine J13 f6 O f8 J z.symm W D nt E u.symm U b1 @wrap_small ?_;exact i4 (kk-1) oM ⟨i+1,h,w,oM,oM,oM,f2,f3,f6,O,rfl,hO.keep y,S.trans (y.weaken oM),I⟩
 .rw[b1,if_pos rfl]at I;obtain⟨v',h',H4,ha,X,a1,a2⟩:=(hO.keep y).push1 (P:=prog) (t:=97) (by exact bU.2.2.2.2.2.2) ty9.1 ty9.2.1 ty9.2.2.1 oM oM (cs:=[.string x.2]) (a:=x.2) rfl rfl oM oM;refine J16 f3 f6 O f8 J z.symm W D nt E u.symm U b1 ha X @wrap_small ?_;exact i4 (kk-1) oM ⟨i+1,h++[x.2],v',oM,oM,by simp;omega,f2,rfl,f6,O,rfl,a1,(S.trans (y.weaken oM)).trans a2,by rw[<-I];simp⟩
theorem It(H:d8)(lo:Nat)(v:Value)(l:List (ByteArray×ByteArray))(a3:lo<=H.next)(hv:SlI H lo 2 (w9 nmE) v l)(hn:l.length<=90):CL prog t6 57 [v] H=some (.agg (nmE (zNm (Q6 l))).toArray,none):=by
 obtain⟨va,ca,rfl⟩:=hv.slice;obtain⟨U,I,-,hg,hS⟩:=pushF H (bC [.string eB,.string eB] 1);have S:H.next<=U.low:=by rw[I,l9];exact lR
 rw[j7 Pt rfl _ sM];refine J1 I.symm ?_;refine j8 (F:=fun z=>u5 _ _ _ (u9 (inBlock 0 z) _)=_) (Fn U lo H.next a3 (u7 hg) va ca l (hv.mono (fun j hj=>hS.get j oM) lR iF) oM _ (cn l) l.length _ _ ⟨0,[],_,rfl,oM,by simp,rfl,rfl,rfl,rfl,rfl,u6.nil,i6.refl _ _,rfl⟩) ?_;rintro o e' H2 ⟨ho,h2,w,h3,hO,u⟩;have a7:=u.next;have a4:=u7 hg;have a5:=EO l;have a1:=(u.get H.next oM).trans hg;obtain⟨v',h',D,ha,O,W,y⟩:=hO.push1 (P:=prog) (t:=97) (by exact bU.2.2.2.2.2.2) ty9.1 ty9.2.1 ty9.2.2.1 oM oM (cs:=[.string z0S]) (a:=z0S) rfl rfl oM oM;have a8:=y.next;obtain⟨E,J,-,-,h⟩:=pushE D (bC [.string zS] 1);have a9:=h.next;have X:u6 E D.next 1 (w9 stE) (sL D.next 1 1) [zS]:=by rw[J];exact u6.fresh rfl lR (D2.one rfl rfl)
 have hf:=fresh E D.next v' (sL D.next 1 1) (cn l++[z0S]) zS [zS] oM (W.sl.mono (fun j hj=>h.get j hj) lR iF) X.sl (by simp;omega) (by decide) (by decide);rw[BZ]at hf;have a2:E.get H.next=_:=(h.get H.next oM).trans ((y.get H.next oM).trans a1);have hz:(⟨#[122]⟩:ByteArray)=zS:=rfl;have b0:ldC (some true) (some 2) 0 (nmE (zNm (Q6 l)))=some (.agg (nmE (zNm (Q6 l))).toArray):=rfl;have a6:H.next<=E.low:=((((u.weaken oM).trans (y.weaken oM)).trans (h.weaken oM)):i6 H.next U E).low S;refine J9 ho h2 h3 ha O hz J.symm hf a2 ?_;rfl
def rF:List (List ByteArray)->Int->Int
 |[],n=>n
 |v::l,n=>rF l (min (n*(v.length+2)) 25)
def mK(s:SpD):Int:=rF s.vals (s.names.length+1)+s.texts.length+1
theorem HV(a b:Int):(if b<a then b else a)=min a b:=by split<;>omega
theorem Dz(u:d8)(l:List (List ByteArray))(va:Option Addr)(W:Nat)(hv:SlI u u.next 1 (VlF u (· <u.next)) (.slice va l.length W) l)(hn:l.length<=100000)(hl:∀x∈l,x.length<=100000) (v1:Value) (r:Int):
  ∀S e H2,(∃(i:Nat)(n:Int),S=l.length-i/\i<=l.length/\0<=n/\n<=1000001/\e.get 1=v1/\e.get 3=iV n/\e.get 11= .slice va l.length W/\e.get 12=iV l.length/\e.get 13=iV i/\H2=u/\rF (l.drop i) n=r)->
  w7 (LE prog t6 (.loop NG) e H2) (fun o e H2=>o= .exit 0/\e.get 1=v1/\e.get 3=iV r/\H2=u/\0<=r/\r<=1000001):=by
 refine i8 _ _ ?_;rintro S e H2 ⟨i,n,hk,hi,E,I,X,f3,z,h,D,rfl,y⟩;rcases J:decide ((i:Int)<l.length)with _|_
 .have O:=dF J;have:l.drop i=[]:=dN oM;rw[this]at y;refine J3 h D J ?_;exact i9 ⟨rfl,X,by rw[<-y];exact f3,rfl,by rw[<-y];exact E,by rw[<-y];exact I⟩
 have O:=dT J;obtain⟨x,nb,o,cs,own,el,hx,hd,rfl,a3,hg,a2,a1,hc,w,rfl,hw⟩:=hv.row (i:=i) oM;have nt:(i:Int).toNat=i:=tN i;have U:=hc 0 oM;rw[Nat.add_zero]at U;obtain⟨wa,wc,rfl⟩:=hw.slice;have a4:=hl x (mG hx);rw[hd,rF]at y;have p0:0<=n*((x.length:Int)+2):=Int.mul_nonneg E oM;have p1:n*((x.length:Int)+2)<=1000001*((x.length:Int)+2):=Int.mul_le_mul_of_nonneg_right I oM;have hm:∀Hx,D7 prog .min [3,3] [iV (n*((x.length:Int)+2)),iV 25] Hx=some (.int .i64 (min (n*((x.length:Int)+2)) 25),none):=fun Hx=>by
  rw[<-HV];simp [D7,iE]
 refine J10 f3 z h D J hg nt U hm @wrap_small ?_;exact i4 (S-1) oM ⟨i+1,min (n*((x.length:Int)+2)) 25,oM,oM,oM,oM,X,rfl,z,h,rfl,rfl,y⟩
theorem GR(H:d8)(lo:Nat)(cs:LV)(s:SpD)(a5:lo<=H.next)(hs:SpR H lo cs s)(h1:s.names.length<=100000)(h2:s.vals.length<=100000)(h3:∀x∈s.vals,x.length<=100000) (h4:s.texts.length<=100000):CL prog t6 53 [.agg cs.toArray] H=some (.int .i64 (mK s),none):=by
 obtain⟨w1,w2,w3,w4,rfl,q1,q2,U,q4⟩:=hs;obtain⟨W,b1,rfl⟩:=q1.slice;obtain⟨X,b2,rfl⟩:=q2.slice;obtain⟨D,E,rfl⟩:=U.slice;obtain⟨a4,b4,rfl⟩:=q4.slice;obtain⟨y,u,-,O,J⟩:=pushF H (bC [.slice W s.names.length b1,.slice X s.attrs.length b2,.slice D s.vals.length E,.slice a4 s.texts.length b4] 1);have S:H.next<=y.low:=by rw[u,l9];exact lR
 have a6:=J.next;have I:∀j,j<lo->y.get j=H.get j:=fun j hj=>J.get j oM;rw[j7 Ps rfl _ sM];refine J3 u.symm O @wrap_small ?_;refine j8 (F:=fun z=>u5 _ _ _ (u9 (inBlock 0 z) _)=_) (Dz y s.vals D E (U.mono I oM fun _ _ h=>h.mono I (fun _ hj=>oM)) h2 h3 _ (rF s.vals (s.names.length+1)) s.vals.length _ _ ⟨0,s.names.length+1,rfl,oM,oM,oM,rfl,rfl,rfl,rfl,rfl,rfl,rfl⟩) ?_;rintro o e' H2 ⟨ho,g1,g3,rfl,r0,r1⟩;simp(maxSteps:=20000000) -dsimp (disch:=first|omega|(simp only[rH]<;>omega)|fail) only[↓ig,rQ,N3,sevalprocAttr,tyA,ho,g1,g3,O,wrap_small,mK]
theorem oP{α:Type}{P:List α->Prop}(u:P [])(hs:∀l x,P l->P (l++[x])) (l:List α):P l:=by
 have:∀l:List α,P l.reverse:=by
  intro l;induction l with
  |nil=>exact u
  |cons x l y=>rw[List.reverse_cons];exact hs _ _ y
 have h:=this l.reverse
 rwa [List.reverse_reverse]at h
def Z2(l:List (ByteArray×ByteArray))(x:ByteArray×ByteArray):List (ByteArray×ByteArray):=if P8 l x then l else l++[x]
def cU(l:List ByteArray)(x:ByteArray):List ByteArray:=if T7 l x then l else l++[x]
def I0(s:SpD)(n:ByteArray×ByteArray):SpD:=if P8 s.attrs n then s else{s with attrs:=s.attrs++[n],vals:=s.vals++[[]]}
def ixN(l:List (ByteArray×ByteArray))(n:ByteArray×ByteArray):Nat:=(ixG (fun y=>L3 n y) l 0).toNat
def L7(s:SpD)(q:Q):SpD:=
 if q.op=4 then{s with names:=Z2 s.names (qNm q)}
 else if q.op=5 then I0 s (qNm q)
 else if q.op=6 then{I0 s (qNm q)with vals:=(I0 s (qNm q)).vals.set (ixN (I0 s (qNm q)).attrs (qNm q)) (cU ((I0 s (qNm q)).vals.getD (ixN (I0 s (qNm q)).attrs (qNm q)) []) q.vl)}
 else if q.op=7 then{s with texts:=cU s.texts q.vl} else s
def spL(l:List Q):SpD:=⟨V5 4 4 l,V5 5 6 l,(V5 5 6 l).map fun n=>R9 6 n l,R9 7 (eB,eB) l⟩
theorem Z6(a b:Int)(l:List Q)(x:Q):V5 a b (l++[x])=if aQ a b x then Z2 (V5 a b l) (qNm x) else V5 a b l:=by
 unfold V5 lM;rw[List.foldl_append,List.foldl_cons,List.foldl_nil];unfold Z2 P8;cases aQ a b x with
 |false=>rfl
 |true=>
  simp only[Bool.true_and,if_true];generalize List.foldl _ _ l=acc;cases acc.any fun y=>L3 y (qNm x)<;>rfl
theorem cP(a:Int)(n:ByteArray×ByteArray)(l:List Q)(x:Q):R9 a n (l++[x])=if dt a n x then cU (R9 a n l) x.vl else R9 a n l:=by
 unfold R9 lM;rw[List.foldl_append,List.foldl_cons,List.foldl_nil];unfold cU T7;cases dt a n x with
 |false=>rfl
 |true=>
  simp only[Bool.true_and,if_true];generalize List.foldl _ _ l=acc;cases acc.any fun y=>cj y x.vl<;>rfl
theorem xR(a b:Int):∀l,(V5 a b l).Nodup:=by
 refine oP List.nodup_nil fun l x u=>?_;rw[Z6];split
 .unfold Z2;split
  .exact u
  .rename_i h;rw[List.nodup_append];refine⟨u,by simp,fun y D z E q=>?_⟩;rw[List.mem_singleton.1 E]at q;exact h (P9.2 (q▸D))
 .exact u
theorem CK(n:ByteArray×ByteArray):∀l,n∉V5 5 6 l->R9 6 n l=[]:=by
 refine oP (fun _=>rfl) fun l x I h=>?_;have u:n∈V5 5 6 l->n∈V5 5 6 (l++[x]):=fun h=>by
  rw[Z6];split
  .unfold Z2;split
   .exact h
   .exact List.mem_append.2 (.inl h)
  .exact h
 rw[cP,I (fun q=>h (u q))];split
 .rename_i y
  exfalso;apply h
  simp only[dt,Bool.and_eq_true,decide_eq_true_eq]at y;have D:qNm x=n:=Prod.ext_iff.2 y.2;have z:aQ 5 6 x=true:=by simp [aQ,y.1]
  rw[Z6,z,if_pos rfl];unfold Z2;split
  .rename_i E;rw[<-D];exact P9.1 E
  .rw[D];exact List.mem_append.2 (.inr (List.mem_singleton.2 rfl))
 .rfl
theorem zy:∀(l:List (ByteArray×ByteArray))(n:ByteArray×ByteArray)(k:Nat),n∈l->∃i:Nat,ixG (fun y=>L3 n y) l k=((k+i:Nat):Int)/\l[i]?=some n/\i<l.length
 |[],n,k,h=>by cases h
 |y::l,n,k,h=>by
  rw[ixG];by_cases e:n=y
  .rw[if_pos (E9.2 e)];exact⟨0,by simp,by rw[e];rfl,by simp⟩
  .rw[if_neg (fun q=>e (E9.1 q))];obtain⟨i,u,z,D⟩:=zy l n (k+1) (by simpa [e] using h);exact⟨i+1,by rw[u];omega,by simpa using z,by simp;omega⟩
theorem xF(l:List (ByteArray×ByteArray))(n:ByteArray×ByteArray)(h:n∈l):l[ixN l n]?=some n/\ixN l n<l.length/\ixG (fun y=>L3 n y) l 0=((ixN l n:Nat):Int):=by
 obtain⟨i,u,z,D⟩:=zy l n 0 h;have:ixN l n=i:=by unfold ixN;rw[u];omega
 rw[this];exact⟨z,D,by rw[u];omega⟩
theorem IP{α β:Type}[DecidableEq α](f g:α->β)(l:List α)(n:α)(i:Nat)(u:l[i]?=some n)(O:l.Nodup)(h:∀m,m≠n->g m=f m):(l.map f).set i (g n)=l.map g:=by
 apply List.ext_getElem?;intro j;rw[List.getElem?_set];by_cases y:i=j
 .subst y;have z:i<l.length:=(gS u).1;rw[if_pos rfl,List.getElem?_map,u,if_pos (by simpa using z)];rfl
 .rw[if_neg y,List.getElem?_map,List.getElem?_map];cases S:l[j]? with
  |none=>rfl
  |some m=>
   have:m≠n:=fun q=>by
    subst q;obtain⟨I,D⟩:=gS u;obtain⟨J,E⟩:=gS S;rcases Nat.lt_trichotomy i j with h|h|h
    .exact List.pairwise_iff_getElem.1 O i j I J h (D.trans E.symm)
    .exact y h
    .exact List.pairwise_iff_getElem.1 O j i J I h (E.trans D.symm)
   simp only[Option.map_some,h m this]
theorem pY(l:List Q)(n:ByteArray×ByteArray):I0 (spL l) n={spL l with attrs:=Z2 (V5 5 6 l) n,vals:=(Z2 (V5 5 6 l) n).map fun n=>R9 6 n l}:=by
 unfold I0 Z2;by_cases h:P8 (V5 5 6 l) n=true
 .rw[if_pos h,if_pos (show P8 (spL l).attrs n=true from h)];rfl
 .rw[if_neg h,if_neg (show¬P8 (spL l).attrs n=true from h)];have:R9 6 n l=[]:=CK n l (fun q=>h (P9.2 q));simp only[spL,List.map_append,List.map_cons,List.map_nil,this]
theorem FP(l:List Q)(x:Q)(hx:x.op=7->qNm x=(eB,eB)):spL (l++[x])=L7 (spL l) x:=by
 have O:∀n,x.op≠6->R9 6 n (l++[x])=R9 6 n l:=fun n h=>by rw[cP,if_neg (by simp [dt,h])]
 have S:x.op≠7->R9 7 (eB,eB) (l++[x])=R9 7 (eB,eB) l:=fun h=>by rw[cP,if_neg (by simp [dt,h])]
 have J:x.op≠4->V5 4 4 (l++[x])=V5 4 4 l:=fun h=>by rw[Z6,if_neg (by simp [aQ];omega)]
 have n5:x.op≠5->x.op≠6->V5 5 6 (l++[x])=V5 5 6 l:=fun h h2=>by rw[Z6,if_neg (by simp [aQ];omega)]
 unfold L7;by_cases y:x.op=4
 .have z:aQ 4 4 x=true:=by simp [aQ,y]
  rw[if_pos y];simp only[spL,O _ oM,S oM,n5 oM oM,Z6 4 4,z,if_true]
 rw[if_neg y];by_cases D:x.op=5
 .have z:aQ 5 6 x=true:=by simp [aQ,D]
  rw[if_pos D,pY];simp only[spL,O _ oM,S oM,J y,Z6 5 6,z,if_true]
 rw[if_neg D];by_cases u:x.op=6
 .have z:aQ 5 6 x=true:=by simp [aQ,u]
  rw[if_pos u,pY];obtain⟨A,U⟩:=eY (Z2 (V5 5 6 l) (qNm x));have I:V5 5 6 (l++[x])=A:=by rw[U,Z6,z];rfl
  have W:A.Nodup:=by rw[<-I];exact xR 5 6 _
  have hm:qNm x∈A:=by
   rw[U];unfold Z2;split
   .rename_i h;exact P9.1 h
   .exact List.mem_append.2 (.inr (List.mem_singleton.2 rfl))
  obtain⟨q1,q2,_⟩:=xF A (qNm x) hm;rw[<-U];simp only;have hg:(A.map fun n=>R9 6 n l).getD (ixN A (qNm x)) []=R9 6 (qNm x) l:=by
   rw[List.getD_eq_getElem?_getD,List.getElem?_map,q1];rfl
  have X:cU (R9 6 (qNm x) l) x.vl=(fun n=>R9 6 n (l++[x])) (qNm x):=by
   simp only;rw[cP,if_pos (by simp [dt,u])]
  rw[hg,X,IP (fun n=>R9 6 n l) (fun n=>R9 6 n (l++[x])) A (qNm x) _ q1 W (fun m hm=>by
   rw[cP,if_neg];simp only[dt,Bool.and_eq_true,decide_eq_true_eq];exact fun q=>hm (Prod.ext_iff.2 q.2).symm)]
  simp only[spL,S oM,J y,I]
 rw[if_neg u];by_cases E:x.op=7
 .rw[if_pos E];have z:dt 7 (eB,eB) x=true:=by rw[dt,hx E];simp [E]
  simp only[spL,O _ u,J y,n5 D u,cP 7,z,if_true]
 .rw[if_neg E];simp only[spL,O _ u,S E,J y,n5 D u]
theorem FO(l:List Q)(u:∀x∈l,x.op=7->qNm x=(eB,eB)):l.foldl L7 ⟨[],[],[],[]⟩=spL l:=by
 have:∀l:List Q,(∀x∈l,x.op=7->qNm x=(eB,eB))->l.foldl L7 ⟨[],[],[],[]⟩=spL l:=by
  refine oP (fun _=>rfl) fun l x D h=>?_;rw[List.foldl_append,D (fun y z=>h y (by simp [z])),List.foldl_cons,List.foldl_nil,FP _ _ (h x sM)]
 exact this l u
theorem Ep:∀(n:Nat)(f:Bool)(q:Q),nQ q<=n->OkD f q->∀x∈fsQ f q,OkD true x:=by
 intro n;induction n with
 |zero=>intro f q I;cases q;rw[nQ]at I;omega
 |succ n J=>
  intro f q I h x D;obtain⟨p1,p2,_⟩:=h.parts;have O:nQ q=1+nL q.a+nL q.b:=by cases q;rw[nQ];rfl
  have mem:∀(l:List Q)(y:Q),y∈l->nQ y<=nL l:=by
   intro l;induction l with
   |nil=>intro y u;cases u
   |cons z l E=>
    intro y u;rw[nL];rcases List.mem_cons.1 u with rfl|u
    .omega
    .have:=E y u;omega
  rw[kg,List.mem_append,List.mem_append,eR,eR,List.mem_flatMap,List.mem_flatMap]at D;rcases D with D|⟨y,u,D⟩|⟨y,u,D⟩
  .cases f with
   |false=>cases D
   |true=>rw[if_pos rfl]at D;rw[List.mem_singleton.1 D];exact h
  .exact J f y (oN (mem _ _ u)) (p1 y u) x D
  .exact J (!f) y (oN (mem _ _ u)) (p2 y u) x D
theorem yD(q:Q)(h:OkD false q):(fsQ false q).foldl L7 ⟨[],[],[],[]⟩=spQ q:=by
 rw[FO _ fun x E z=>?_];rfl;obtain⟨_,_,_,y,_⟩:=(Ep _ false q lR h x E).parts;simp only[iG,if_true,Bool.and_eq_true]at y;have:=y.1.2;simp only[iH,Bool.and_eq_true,xn,z]at this;have u:=this.1;have:(decide (x.sp=eB)&&decide (x.lc=eB))=true:=by
  cases D:(decide (x.sp=eB)&&decide (x.lc=eB))with
  |true=>rfl
  |false=>rw[D]at u;revert u;decide
 simp only[Bool.and_eq_true,decide_eq_true_eq]at this;exact Prod.ext_iff.2 this
def bV(L:LV):Prop:=∀(i j:Nat)(a b:Value),L[i]?=some a->L[j]?=some b->i≠j->∀x,l7 a x->¬l7 b x
theorem bV.set{L:LV}{k n:Nat}{w v:Value}(h:bV L)(S:L[k]?=some w)(U:∀b,l7 v b->l7 w b\/n<=b) (E:∀x∈L,∀b,l7 x b->b<n):bV (L.set k v):=by
 intro i j a b y u z x J O;rw[List.getElem?_set]at y u;by_cases I:k=i
 .have D:k≠j:=fun q=>z (I.symm.trans q);rw[if_pos I]at y;rw[if_neg D]at u;split at y
  .cases y;rcases U x J with q|q
   .exact h k j w b S u D x q O
   .have:=E b (mG u) x O;omega
  .cases y
 .rw[if_neg I]at y;by_cases D:k=j
  .rw[if_pos D]at u;split at u
   .cases u;rcases U x O with q|q
    .exact h i k a w y S (fun q=>I q.symm) x J q
    .have:=E a (mG y) x J;omega
   .cases u
  .rw[if_neg D]at u;exact h i j a b y u z x J O
theorem bV.nil{L:LV}(h:bV L):bV (L++[nS]):=by
 intro i j a b u I z x y E;have key:∀(i:Nat)(a:Value),(L++[nS])[i]?=some a->l7 a x->L[i]?=some a:=fun i a u y=>by
  rw[List.getElem?_append]at u;split at u
  .exact u
  .cases D:i-L.length with
   |zero=>rw[D]at u;simp at u;rw[<-u]at y;exact absurd y (B8 x)
   |succ n=>rw[D]at u;simp at u
 exact h i j a b (key i a u y) (key j b I E) z x y E
theorem JC{cs us:LV}(h:D2 1 (w9 fun u=>[u]) cs us):cs=us:=by
 apply List.ext_getElem?;intro i;by_cases y:i<us.length
 .have z:=h.2 i us[i] (List.getElem?_eq_getElem y);have D:(cs.drop (i*1)).take 1=[us[i]]:=z;have:=congrArg (fun l=>l[0]?) D
  simpa [List.getElem?_take,List.getElem?_drop,List.getElem?_eq_getElem y] using this
 .have:=h.1;rw[List.getElem?_eq_none oM,List.getElem?_eq_none oM]
theorem FB(us:LV):D2 1 (w9 fun u=>[u]) us us:=by
 have:=FC (enc:=fun u:Value=>[u]) (sz:=1) (fun _=>rfl) us;have e:us.flatMap (fun u=>[u])=us:=sM;rw[e]at this;exact this
structure cd(H:d8)(gb:Nat)(O:Nat->Prop)(s:SpD)(w1 w2 w3 w4:Value)(us:LV):Prop where
 g:H.get gb=cE [w1,w2,w3,w4] 1
 n:u6 H (gb+1) 2 (w9 nmE) w1 s.names
 a:u6 H (gb+1) 2 (w9 nmE) w2 s.attrs
 v:u6 H (gb+1) 1 (w9 fun u=>[u]) w3 us
 len:us.length=s.vals.length
 al:s.attrs.length=s.vals.length
 u:∀(i:Nat)(u:Value)(l:List ByteArray),us[i]?=some u->s.vals[i]?=some l->u6 H (gb+1) 1 (w9 stE) u l
 t:u6 H (gb+1) 1 (w9 stE) w4 s.texts
 ap:bV (w1::w2::w3::w4::us)
 o:∀w∈w1::w2::w3::w4::us,∀b,l7 w b->O b
 lt:∀b,O b->gb<b/\b<H.next
theorem cd.keep{H H':d8}{D:Nat}{O E:Nat->Prop}{s:SpD}{w1 w2 w3 w4:Value}{us:LV}(h:cd H D O s w1 w2 w3 w4 us)(z:∀j,j=D\/O j->H'.get j=H.get j) (S:∀b,O b->E b) (I:∀b,E b->D<b/\b<H'.next):cd H' D E s w1 w2 w3 w4 us:=
 ⟨(z D (.inl rfl)).trans h.g,h.n.same fun b y=>z b (.inr (h.o _ sM b y)),h.a.same fun b y=>z b (.inr (h.o _ sM b y)),h.v.same fun b y=>z b (.inr (h.o _ sM b y)),h.len,h.al,
  fun i u l J U=>(h.u i u l J U).same fun b y=>z b (.inr (h.o _ (by simp [mG J]) b y)),h.t.same fun b y=>z b (.inr (h.o _ sM b y)),h.ap,fun w W b y=>S b (h.o w W b y),I⟩
structure lu(gb:Nat)(O0:Nat->Prop)(s0:SpD)(H0:d8)(O:Nat->Prop)(H:d8)(s:SpD):Prop where
 sub:∀b,O b->O0 b\/H0.next<=b
 chg:(s=s0/\∀b,O b->O0 b)\/∃b,(b=gb\/O0 b)/\H.low<=b
 but:∀j,j<H0.next->j≠gb->¬O0 j->H.get j=H0.get j
 stay:i6 gb H0 H
 low:H.low<=H0.low
def fx(gb:Nat)(O0:Nat->Prop)(s0:SpD)(H0 H:d8)(s:SpD):Prop:=∃O w1 w2 w3 w4 us,cd H gb O s w1 w2 w3 w4 us/\lu gb O0 s0 H0 O H s
theorem lu.refl(u:Nat)(O:Nat->Prop)(s:SpD)(H:d8):lu u O s H O H s:=⟨fun _ h=> .inl h,.inl ⟨rfl,fun _ h=>h⟩,fun _ _ _ _=>rfl,i6.refl _ _,lR⟩
theorem lu.trans{z:Nat}{W X O2:Nat->Prop}{s0 s1 s2:SpD}{H0 y u H2:d8}(h:lu z W s0 H0 X y s1)(D:i6 y.next y u)(hl:u.low<=y.low)(I:z<=y.next)(k:lu z X s1 u O2 H2 s2):lu z W s0 H0 O2 H2 s2:=by
 have n1:=h.stay.next;have n2:=D.next;have l2:=k.low;refine⟨fun b E=>?_,?_,fun j hj h1 h2=>?_,(h.stay.trans (D.weaken I)).trans k.stay,by have:=h.low;omega⟩
 .rcases k.sub b E with q|q
  .exact h.sub b q
  .exact .inr oM
 .rcases h.chg with⟨J,O⟩|⟨b,J,O⟩
  .rcases k.chg with⟨S,U⟩|⟨b,S,U⟩
   .exact .inl ⟨S.trans J,fun b E=>O b (U b E)⟩
   .exact .inr ⟨b,S.imp id (O b),U⟩
  .exact .inr ⟨b,J,oM⟩
 .rw[k.but j oM h1 (fun q=>by rcases h.sub j q with r|r;exact h2 r;omega),D.get j oM,h.but j hj h1 h2]
theorem lY{D:Nat}{O:Nat->Prop}{s W:SpD}{H z H':d8}{w1 w2 w3 w4 v:Value}{us:LV}(y:i6 H.next H z)(J:H.next<=z.low)(E:cd H D O s w1 w2 w3 w4 us)(hQ:fx D O s z H' W):
  Ret (some (D6 v H H')) H fun v1 H2=>v1=v/\fx D O s H H2 W:=by
 have n1:=y.next;have a1:=u7 E.g;obtain⟨X,x1,x2,x3,x4,S,R,T⟩:=hQ;refine E1 (fun _ hl=>⟨rfl,?_⟩) ⟨rfl,?_⟩
 .rcases T.chg with⟨u,U⟩|⟨b,u,U⟩
  .rw[u];exact⟨O,w1,w2,w3,w4,us,E,lu.refl _ _ _ _⟩
  .have:b<H.next:=by
    rcases u with u|u
    .omega
    .exact(E.lt b u).2
   omega
 .refine⟨X,x1,x2,x3,x4,S,R.keep (fun _ _=>rfl) (fun _ h=>h) R.lt,fun b hb=>?_,?_,fun j I h1 h2=>?_,⟨?_,fun k hk q=>?_,fun j I=>?_⟩,Nat.min_le_left _ _⟩
  .rcases T.sub b hb with q|q
   .exact .inl q
   .exact .inr oM
  .rcases T.chg with q|⟨b,u,U⟩
   .exact .inl q
   .exact .inr ⟨b,u,by show min H.low H'.low<=b;omega⟩
  .show H'.get j=H.get j;rw[T.but j oM h1 h2,y.get j I]
  .show H.next<=H'.next;have:=T.stay.next;omega
  .have:=T.stay.lowAll k hk oM;show k<=min H.low H'.low;omega
  .show H'.get j=H.get j;rw[T.stay.get j I,y.get j oM]
theorem dC{α:Type}{R:LV->α->Prop}{H H':d8}{lo sz:Nat}{v v':Value}{l:List α}(z:u6 H' lo sz R v' l)(h:ak lo v H v' H'):Ret (some (D6 v' H H')) H fun D u=>u6 u lo sz R D l/\ak lo v H D u/\u.low<=H.low:=by
 refine E1 (fun y J=>⟨z.na y _ _,⟨i6.refl _ _,fun _ _ _=>rfl,fun b E=>?_⟩,lR⟩) ⟨z.low _,⟨⟨h.stay.next,fun k I q=>?_,h.stay.get⟩,h.but,h.new⟩,Nat.min_le_left _ _⟩
 .obtain⟨n,c,e⟩:=E;rw[e]at y;cases y
 .have:=h.stay.lowAll k I q;show k<=min H.low H'.low;omega
theorem JQ(H:d8)(lo:Nat)(v:Value)(l:List (ByteArray×ByteArray))(x:ByteArray×ByteArray)(U:lo<=H.next)(hO:u6 H lo 2 (w9 nmE) v l)(hl:l.length<=1000000):
  Ret (CL prog t6 126 [v,.agg (nmE x).toArray] H) H fun v' H'=>u6 H' lo 2 (w9 nmE) v' (Z2 l x)/\ak lo v H v' H'/\H'.low<=H.low:=by
 obtain⟨J,u⟩:=eY (d8.push ⟨H.bs,H.next⟩ (bC (nmE x) 1):d8);have O:i6 H.next H J:=by rw[u];first|exact i6.first H _|exact i6.start H
 have a4:=O.next;have a3:H.next<=J.low:=by rw[u];exact lR
 have D:=hO.keep O;have S:=Lt J J.next v l x lR D.sl oM;have W:ldC (some true) (some 2) 0 (nmE x)=some (.agg (nmE x).toArray):=rfl;have a2:(l.any fun y=>L3 x y)=P8 l x:=by unfold P8;congr 1;funext y;first|exact decide_eq_decide.2 ⟨Eq.symm,Eq.symm⟩|(rw[Bool.eq_iff_iff,E9,E9];exact eq_comm)
 rw[a2]at S;rw[j7 OT rfl _ sM];rcases b:P8 l x with _|_
 .rw[b]at S;have E:Z2 l x=l++[x]:=by rw[Z2,b];rfl
  obtain⟨v',h',H4,ha,a1,X,z⟩:=D.push1F (P:=prog) (t:=95) (cs:=nmE x) (a:=x) (by exact sV.2.2.2.2.2.2) dP.1 dP.2.1 dP.2.2.1 oM oM rfl rfl oM oM;have I:J.get H.next=cE (nmE x) 1:=by rw[u];exact j9
  refine J6 u.symm I S W ha a1 ?_;rw[E];exact dC X ⟨(O.weaken U).trans z.stay,fun j hj h=>by rw[z.but j oM h,O.get j hj],fun b hb=>(z.new b hb).imp id fun q=>oM⟩
 .rw[b]at S;have E:Z2 l x=l:=by rw[Z2,b];rfl
  have I:J.get H.next=cE (nmE x) 1:=by rw[u];exact j9
  refine J4 u.symm I S W ?_;rw[E];exact dC D (ak.of v O U)
theorem CV(H:d8)(lo:Nat)(v:Value)(l:List (ByteArray))(x:ByteArray)(O:lo<=H.next)(hO:u6 H lo 1 (w9 stE) v l)(hl:l.length<=1000000):
  Ret (CL prog t6 128 [v,.string x] H) H fun v' H'=>u6 H' lo 1 (w9 stE) v' (cU l x)/\ak lo v H v' H'/\H'.low<=H.low:=by
 obtain⟨U,u⟩:=eY (⟨H.bs,H.next⟩:d8);have I:i6 H.next H U:=by rw[u];first|exact i6.first H _|exact i6.start H
 have S:=I.next;have a2:H.next<=U.low:=by rw[u];exact lR
 have D:=hO.keep I;have J:=Ew U U.next v l x lR D.sl oM;have a3:ldC (some true) (some 1) 0 (stE x)=some (.agg (stE x).toArray):=rfl;have a1:(l.any fun y=>cj x y)=T7 l x:=by unfold T7;congr 1;funext y;first|exact decide_eq_decide.2 ⟨Eq.symm,Eq.symm⟩|(rw[Bool.eq_iff_iff,E9,E9];exact eq_comm)
 rw[a1]at J;rw[j7 OV rfl _ sM];rcases b:T7 l x with _|_
 .rw[b]at J;have E:cU l x=l++[x]:=by rw[cU,b];rfl
  obtain⟨v',h',H4,ha,X,W,z⟩:=D.push1F (P:=prog) (t:=97) (cs:=stE x) (a:=x) (by exact bU.2.2.2.2.2.2) ty9.1 ty9.2.1 ty9.2.2.1 oM oM rfl rfl oM oM;have _:=S;refine J4 u.symm J ha X ?_;rw[E];exact dC W ⟨(I.weaken O).trans z.stay,fun j hj h=>by rw[z.but j oM h,I.get j hj],fun b hb=>(z.new b hb).imp id fun q=>oM⟩
 .rw[b]at J;have E:cU l x=l:=by rw[cU,b];rfl
  have _:=S;refine J2 u.symm J ?_;rw[E];exact dC D (ak.of v I O)
theorem nh(l:List (ByteArray×ByteArray))(n:ByteArray×ByteArray):(l.any fun y=>L3 n y)=P8 l n:=by
 unfold P8;congr 1;funext y;rw[Bool.eq_iff_iff,E9,E9];exact eq_comm
theorem HJ(l:List (ByteArray×ByteArray))(n:ByteArray×ByteArray)(h:P8 l n=false):ixN (l++[n]) n=l.length:=by
 have:∀(l:List (ByteArray×ByteArray))(k:Nat),(l.any fun y=>L3 n y)=false->ixG (fun y=>L3 n y) (l++[n]) k=((k+l.length:Nat):Int):=by
  intro l;induction l with
  |nil=>intro k _;rw[List.nil_append,ixG,if_pos (E9.2 rfl)];simp
  |cons y l z=>
   intro k u;rw[List.any_cons,Bool.or_eq_false_iff]at u;rw[List.cons_append,ixG,if_neg (by rw[u.1];decide),z (k+1) u.2,List.length_cons];congr 1;omega
 unfold ixN;rw[this l 0 (by rw[nh];exact h)];omega
theorem cd.inl{H:d8}{u:Nat}{O:Nat->Prop}{s:SpD}{w1 w2 w3 w4:Value}{us:LV}(h:cd H u O s w1 w2 w3 w4 us){w:Value}(z:w∈w1::w2::w3::w4::us){b:Nat}(y:l7 w b):u<b/\b<H.next:=h.lt b (h.o w z b y)
theorem zh(H:d8)(E:Nat)(O:Nat->Prop)(s:SpD)(w1 w2 w3 w4:Value)(us:LV)(n:ByteArray×ByteArray)(hR:cd H E O s w1 w2 w3 w4 us)(hl:s.attrs.length<=100000):
  Ret (CL prog t6 127 [pT E,.agg (nmE n).toArray] H) H fun v I=>v=iV (ixN (I0 s n).attrs n)/\fx E O s H I (I0 s n):=by
 obtain⟨I,X⟩:=eY (d8.push ⟨H.bs,H.next⟩ (bC (nmE n) 1):d8);have hS:i6 H.next H I:=by rw[X];exact i6.first H _
 have e4:I.next=H.next+1:=by rw[X,i5];rfl
 have a5:H.next<=I.low:=by rw[X];exact lR
 have d4:=u7 hR.g;have g1:I.get H.next=cE (nmE n) 1:=by rw[X];exact j9
 have z:cd I E O s w1 w2 w3 w4 us:=hR.keep (fun j hj=>hS.get j (by rcases hj with rfl|hj;exact d4;exact(hR.lt j hj).2)) (fun _ h=>h) (fun b D=>by have:=hR.lt b D;omega);have a7:=z.g;have c7:ldC (some true) (some 2) 0 (nmE n)=some (.agg (nmE n).toArray):=rfl;have hh:=zr I I.next w2 s.attrs n lR z.a.sl oM;have r0:[w1,w2,w3,w4][1]?=some w2:=rfl;rw[j7 OU rfl _ sM];rcases b:P8 s.attrs n with _|_
 .have b2:ixG (fun y=>L3 n y) s.attrs 0= -1:=by
   rcases dS (fun y=>L3 n y) s.attrs 0 with q|q
   .exact q.2
   .have:=q.1;rw[nh,b]at this;cases this
  rw[b2]at hh;have b1:I0 s n={s with attrs:=s.attrs++[n],vals:=s.vals++[[]]}:=by rw[I0,b];rfl
  rw[b1];simp only;rw[HJ _ _ b];obtain⟨W,h2,K2,b9,a9,a4,J⟩:=z.a.push1F (P:=prog) (t:=95) (cs:=nmE n) (a:=n) (by exact sV.2.2.2.2.2.2) dP.1 dP.2.1 dP.2.2.1 oM oM rfl rfl oM oM;obtain⟨K1,b7,-,-,s1⟩:=pushE I (bC (nmE n) 2);rw[<-b7]at b9 a9;have c8:∀w∈w1::w2::w3::w4::us,∀b,l7 w b->b≠E:=fun w hw b D=>oN (z.inl hw D);have n2:=J.next;have g2:K2.get E=cE [w1,w2,w3,w4] 1:=(J.but E oM (fun q=>c8 w2 sM E q rfl)).trans a7;have d2:K1.get E=cE [w1,w2,w3,w4] 1:=(s1.get E oM).trans a7;have b5:∀b,l7 w3 b->¬l7 w2 b:=fun b h3 h2=>z.ap 1 2 w2 w3 rfl rfl oM b h2 h3;have d3:u6 K2 (E+1) 1 (w9 fun u=>[u]) w3 us:=z.v.same fun b D=>J.but b (z.inl sM D).2 (b5 b D);obtain⟨v3,h3,K4,c0,b0,a8,S⟩:=d3.push1F (P:=prog) (t:=96) (cs:=[nS]) (a:=nS) (by exact MF.2.2.2.2.2.2) bU.1 bU.2.1 bU.2.2.1 oM oM rfl rfl (by have:=z.len;have:=z.al;omega) oM;obtain⟨K3,b8,-,-,s3⟩:=pushE K2 (bC [nS] 1);rw[<-b8]at c0 b0;have n4:=S.next;have g3:K3.get E=cE [w1,w2,w3,w4] 1:=(s3.get E oM).trans g2;have g4:K4.get E=cE [w1,w2,w3,w4] 1:=(S.but E oM (fun q=>c8 w3 sM E q rfl)).trans g2;obtain⟨a2,c2,e2⟩:=a4.slice;obtain⟨a3,c3,e3⟩:=a8.slice;have d0:W.cells.toList=[W]:=by rw[e2];rfl
  have d9:Value.oneCell' W=true:=by rw[e2];rfl
  have d1:v3.cells.toList=[v3]:=by rw[e3];rfl
  have e1:Value.oneCell' v3=true:=by rw[e3];rfl
  obtain⟨K5,a1⟩:=eY (K4.put E (bC [w1,W,w3,w4] 1));have g5:K5.get E=cE [w1,W,w3,w4] 1:=by rw[a1];exact j5 oM
  obtain⟨K6,U⟩:=eY (K5.put E (bC [w1,W,v3,w4] 1));have n6:K6.next=K4.next:=by rw[U,t5,a1,t5]
  have g6:K6.get E=cE [w1,W,v3,w4] 1:=by rw[U];exact j5 (by rw[a1,t5];omega)
  have c4:bsA prog (some 48) I 1 [(0,.agg (nmE n).toArray)]=some (sL I.next 1 1,K1):=by
   rw[b7];simp only[C7,dP,C8];rfl
  have c5:bsA prog (some 97) K2 1 [(0,nS)]=some (sL K2.next 1 1,K3):=by
   rw[b8];simp only[C7,bU,C8];rfl
  have b3:∀Hx:d8,D7 prog .len [95] [W] Hx=some (.int .i64 ((s.attrs.length:Int)+1),none):=fun Hx=>by
   rw[e2,List.length_append];refine J1 sV ?_;simp
  have e6:∀j,j≠E->K6.get j=K4.get j:=fun j hj=>by rw[U,j6 (fun q=>hj q.symm),a1,j6 (fun q=>hj q.symm)]
  refine J25 X.symm g1 a7 c7 hh c4 d2 b9 a9 g2 c5 g3 c0 b0 g4 d0 d9 a1.symm g5 d1 e1 U.symm g6 b3 @wrap_small ?_;have ew:(s.attrs.length:Int)+1-1=s.attrs.length:=oM;rw[ew];have b4:∀j,j<I.next->¬l7 w2 j->¬l7 w3 j->K4.get j=I.get j:=fun j hj h2 h3=>by rw[S.but j oM h3,J.but j hj h2]
  refine lY (w1:=w1) (w2:=w2) (w3:=w3) (w4:=w4) (us:=us) hS a5 hR ⟨R6 O I K6,w1,W,v3,w4,us++[nS],⟨g6,?_,?_,?_,?_,?_,?_,?_,?_,?_,?_⟩,?_,?_,?_,?_,?_⟩
  .exact z.n.same fun b D=>by
    have:=z.inl (w:=w1) sM D;rw[e6 b oM,b4 b this.2 (fun q=>z.ap 0 1 w1 w2 rfl rfl oM b D q) (fun q=>z.ap 0 2 w1 w3 rfl rfl oM b D q)]
  .exact a4.same fun b D=>by
    have d6:=a4.lt D;rw[e6 b oM,S.but b d6.2 fun q=>?_];rcases J.new b D with r|r
    .exact b5 b q r
    .have:=z.inl (w:=w3) sM q;omega
  .exact a8.same fun b D=>e6 b (oN (a8.lt D))
  .rw[List.length_append,List.length_append,z.len];rfl
  .rw[List.length_append,List.length_append,z.al];rfl
  .intro i u l hu hl;have c6:=z.len;by_cases hi:i<us.length
   .rw[List.getElem?_append_left hi]at hu;rw[List.getElem?_append_left oM]at hl;exact(z.u i u l hu hl).same fun b D=>by
     have:=z.inl (w:=u) (by simp [mG hu]) D;rw[e6 b oM,b4 b this.2 (fun q=>z.ap (i+4) 1 u w2 hu rfl oM b D q) (fun q=>z.ap (i+4) 2 u w3 hu rfl oM b D q)]
   .rw[List.getElem?_append_right oM]at hu hl;cases hm:i-us.length with
    |zero=>
     rw[hm]at hu;rw[<-c6,hm]at hl;simp at hu hl
     first|rw[<-hu,<-hl]|rw[<-hu,hl]
     exact u6.nil
    |succ m=>rw[hm]at hu;simp at hu
  .exact z.t.same fun b D=>by
    have:=z.inl (w:=w4) sM D;rw[e6 b oM,b4 b this.2 (fun q=>z.ap 3 1 w4 w2 rfl rfl oM b D q) (fun q=>z.ap 3 2 w4 w3 rfl rfl oM b D q)]
  .have p1:bV (w1::W::w3::w4::us):=z.ap.set (k:=1) (v:=W) (n:=I.next) rfl J.new (fun x hx b D=>(z.inl hx D).2);have p2:bV (w1::W::v3::w4::us):=p1.set (k:=2) (v:=v3) (n:=K2.next) rfl S.new (fun x hx b D=>by
    rcases List.mem_cons.1 hx with rfl|hx
    .have:=z.inl (w:=x) sM D;omega
    rcases List.mem_cons.1 hx with rfl|hx
    .exact(a4.lt D).2
    .have:=z.inl (w:=x) (List.mem_cons_of_mem _ (List.mem_cons_of_mem _ hx)) D;omega)
   exact p2.nil
  .intro w hw b D;have a6:∀w∈w1::w2::w3::w4::us,l7 w b->R6 O I K6 b:=fun w hw D=> .inl (z.o w hw b D);have d7:w=w1\/w=W\/w=v3\/w=w4\/w∈us\/w=nS:=by
    have:w∈w1::W::v3::w4::(us++[nS]):=hw;simp only[List.mem_cons,List.mem_append,List.mem_singleton,List.not_mem_nil,or_false]at this;exact this
   rcases d7 with h|h|h|h|h|h
   .exact a6 w1 sM (h▸D)
   .rw[h]at D;rcases J.new b D with r|r
    .exact a6 w2 sM r
    .exact .inr ⟨r,by have:=a4.lt D;omega⟩
   .rw[h]at D;rcases S.new b D with r|r
    .exact a6 w3 sM r
    .exact .inr ⟨oM,by have:=a8.lt D;omega⟩
   .exact a6 w4 sM (h▸D)
   .exact a6 w (by simp [h]) D
   .rw[h]at D;exact absurd D (B8 b)
  .intro b D;rcases D with D|D
   .have:=z.lt b D;omega
   .omega
  .intro b D;exact D.imp id fun h=>h.1
  .exact .inr ⟨E,.inl rfl,by rw[U,A4];omega⟩
  .intro j hj h1 h2;rw[e6 j h1,b4 j hj (fun q=>h2 (z.o w2 sM j q)) (fun q=>h2 (z.o w3 sM j q))]
  .rw[U,a1];exact(((J.stay.weaken oM).trans (S.stay.weaken oM)).trans (i6.put lR)).trans (i6.put lR)
  .have:K6.low<=E:=by rw[U,A4];omega
   omega
 .have d5:=P9.1 b;obtain⟨_,_,b2⟩:=xF s.attrs n d5;rw[b2]at hh;have b1:I0 s n=s:=by rw[I0,b];rfl
  have c9:decide ((0:Int)<=(ixN s.attrs n:Nat))=true:=decide_eq_true oM;rw[b1];refine J6 X.symm g1 a7 c7 hh c9 ?_;have b6:=lY (v:=iV (ixN s.attrs n)) hS a5 hR ⟨O,w1,w2,w3,w4,us,z,lu.refl _ _ _ _⟩;rw[mX _ _ _ _ a5]at b6;exact b6
theorem Bn{H H':d8}{D:Nat}{O:Nat->Prop}{s:SpD}{w1 w2 w3 w4 v':Value}{us:LV}{l':List (ByteArray×ByteArray)}(z:cd H D O s w1 w2 w3 w4 us)(X:u6 H' (D+1) 2 (w9 nmE) v' l')(J:ak (D+1) w1 H v' H')(hl:H'.low<=H.low):
  fx D O s H (H'.put D (bC [v',w2,w3,w4] 1)) {s with names:=l'}:=by
 have hn:=J.next;have a1:=u7 z.g;obtain⟨K,E⟩:=eY (H'.put D (bC [v',w2,w3,w4] 1));have nK:K.next=H'.next:=by rw[E,t5]
 have gK:K.get D=cE [v',w2,w3,w4] 1:=by rw[E];exact j5 oM
 have W:∀j,j≠D->K.get j=H'.get j:=fun j hj=>by rw[E,j6 (fun q=>hj q.symm)]
 have sm:∀(i:Nat)(w:Value),(w1::w2::w3::w4::us)[i]?=some w->i≠0->∀b,l7 w b->K.get b=H.get b:=fun i w S hi b y=>by
  have:=z.inl (mG S) y;rw[W b oM,J.but b this.2 (fun q=>z.ap i 0 w w1 S rfl hi b y q)]
 have hs:u6 K (D+1) 2 (w9 nmE) v' l':=X.same fun b y=>W b (oN (X.lt y));have U:∀(w:Value)(i:Nat){α:Type}{sz:Nat}{R:LV->α->Prop}{l:List α},(w1::w2::w3::w4::us)[i]?=some w->i≠0->u6 H (D+1) sz R w l->u6 K (D+1) sz R w l:=fun w i _ _ _ _ S hi h=>h.same (sm i w S hi);rw[<-E];refine⟨R6 O H K,v',w2,w3,w4,us,⟨gK,?_,?_,U w3 2 rfl oM z.v,z.len,z.al,fun i u l hu hl=>U u (i+4) hu oM (z.u i u l hu hl),?_,z.ap.set (k:=0) (v:=v') (n:=H.next) rfl J.new (fun x hx b y=>(z.inl hx y).2),fun w S b y=>?_,fun b y=>?_⟩,fun b y=>y.imp id fun h=>h.1,.inr ⟨D,.inl rfl,by rw[E,A4];omega⟩,fun j hj h1 h2=>by rw[W j h1,J.but j hj (fun q=>h2 (z.o w1 sM j q))],by rw[E];exact(J.stay.weaken oM).trans (i6.put lR),by rw[E,A4];omega⟩
 .first|exact hs|exact U w1 0 rfl oM z.n
 .exact U w2 1 rfl oM z.a
 .first|exact hs|exact U w4 3 rfl oM z.t
 .by_cases h:w∈w1::w2::w3::w4::us
  .exact .inl (z.o w h b y)
  .have:w=v':=by
    apply Classical.byContradiction;intro hv;have I:w∈v'::w2::w3::w4::us:=S;apply h;simp only[List.mem_cons,hv,false_or]at I ⊢
    first|exact .inr I|(rcases I with q|q|q|q;exact .inl q;exact .inr (.inl q);exact .inr (.inr (.inl q));exact .inr (.inr (.inr (.inr q))))
   rw[this]at y;rcases J.new b y with r|r
   .exact .inl (z.o w1 sM b r)
   .exact .inr ⟨r,by have:=X.lt y;omega⟩
 .rcases y with y|y
  .have:=z.lt b y;omega
  .omega
theorem Bo{H H':d8}{D:Nat}{O:Nat->Prop}{s:SpD}{w1 w2 w3 w4 v':Value}{us:LV}{l':List (ByteArray)}(z:cd H D O s w1 w2 w3 w4 us)(X:u6 H' (D+1) 1 (w9 stE) v' l')(J:ak (D+1) w4 H v' H')(hl:H'.low<=H.low):
  fx D O s H (H'.put D (bC [w1,w2,w3,v'] 1)) {s with texts:=l'}:=by
 have hn:=J.next;have a1:=u7 z.g;obtain⟨K,E⟩:=eY (H'.put D (bC [w1,w2,w3,v'] 1));have nK:K.next=H'.next:=by rw[E,t5]
 have gK:K.get D=cE [w1,w2,w3,v'] 1:=by rw[E];exact j5 oM
 have W:∀j,j≠D->K.get j=H'.get j:=fun j hj=>by rw[E,j6 (fun q=>hj q.symm)]
 have sm:∀(i:Nat)(w:Value),(w1::w2::w3::w4::us)[i]?=some w->i≠3->∀b,l7 w b->K.get b=H.get b:=fun i w S hi b y=>by
  have:=z.inl (mG S) y;rw[W b oM,J.but b this.2 (fun q=>z.ap i 3 w w4 S rfl hi b y q)]
 have hs:u6 K (D+1) 1 (w9 stE) v' l':=X.same fun b y=>W b (oN (X.lt y));have U:∀(w:Value)(i:Nat){α:Type}{sz:Nat}{R:LV->α->Prop}{l:List α},(w1::w2::w3::w4::us)[i]?=some w->i≠3->u6 H (D+1) sz R w l->u6 K (D+1) sz R w l:=fun w i _ _ _ _ S hi h=>h.same (sm i w S hi);rw[<-E];refine⟨R6 O H K,w1,w2,w3,v',us,⟨gK,?_,?_,U w3 2 rfl oM z.v,z.len,z.al,fun i u l hu hl=>U u (i+4) hu oM (z.u i u l hu hl),?_,z.ap.set (k:=3) (v:=v') (n:=H.next) rfl J.new (fun x hx b y=>(z.inl hx y).2),fun w S b y=>?_,fun b y=>?_⟩,fun b y=>y.imp id fun h=>h.1,.inr ⟨D,.inl rfl,by rw[E,A4];omega⟩,fun j hj h1 h2=>by rw[W j h1,J.but j hj (fun q=>h2 (z.o w4 sM j q))],by rw[E];exact(J.stay.weaken oM).trans (i6.put lR),by rw[E,A4];omega⟩
 .first|exact hs|exact U w1 0 rfl oM z.n
 .exact U w2 1 rfl oM z.a
 .first|exact hs|exact U w4 3 rfl oM z.t
 .by_cases h:w∈w1::w2::w3::w4::us
  .exact .inl (z.o w h b y)
  .have:w=v':=by
    apply Classical.byContradiction;intro hv;have I:w∈w1::w2::w3::v'::us:=S;apply h;simp only[List.mem_cons,hv,false_or]at I ⊢
    first|exact .inr I|(rcases I with q|q|q|q;exact .inl q;exact .inr (.inl q);exact .inr (.inr (.inl q));exact .inr (.inr (.inr (.inr q))))
   rw[this]at y;rcases J.new b y with r|r
   .exact .inl (z.o w4 sM b r)
   .exact .inr ⟨r,by have:=X.lt y;omega⟩
 .rcases y with y|y
  .have:=z.lt b y;omega
  .omega
theorem Ht{H H':d8}{J:Nat}{O:Nat->Prop}{s:SpD}{w1 w2 w4 u E:Value}{us:LV}{z n c i:Nat}{l':List ByteArray}(y:cd H J O s w1 w2 (sL z n c) w4 us)(hu:us[i]?=some u)(hO:u6 H' (J+1) 1 (w9 stE) E l')(U:ak (J+1) u H E H')(hl:H'.low<=H.low):
  fx J O s H (H'.put z (bC (us.set i E) 1)) {s with vals:=s.vals.set i l'}:=by
 have hn:=U.next;have a9:=u7 y.g;have I:l7 (sL z n c) z:=⟨_,_,rfl⟩
 have l3:=y.inl (w:=sL z n c) sM I;have a1:(w1::w2::sL z n c::w4::us)[i+4]?=some u:=hu;obtain⟨K,hK⟩:=eY (H'.put z (bC (us.set i E) 1));have nK:K.next=H'.next:=by rw[hK,t5]
 have gK:K.get z=cE (us.set i E) 1:=by rw[hK];exact j5 oM
 have eK:∀j,j≠z->K.get j=H'.get j:=fun j W=>by rw[hK,j6 (fun q=>W q.symm)]
 have sm:∀(j:Nat)(w:Value),(w1::w2::sL z n c::w4::us)[j]?=some w->j≠i+4->j≠2->∀b,l7 w b->K.get b=H.get b:=fun j w hw W a3 b D=>by
  have:=y.inl (mG hw) D;rw[eK b (fun q=>y.ap j 2 w _ hw rfl a3 b D (q▸I)),U.but b this.2 (fun q=>y.ap j (i+4) w u hw a1 W b D q)]
 have ho:∀(w:Value)(j:Nat){α:Type}{sz:Nat}{R:LV->α->Prop}{l:List α},(w1::w2::sL z n c::w4::us)[j]?=some w->j≠i+4->j≠2->u6 H (J+1) sz R w l->u6 K (J+1) sz R w l:=fun w j _ _ _ _ hw hi h2 h=>h.same (sm j w hw hi h2);have a8:∀b,l7 E b->b≠z:=fun b D q=>by
  rcases U.new b D with r|r
  .exact y.ap (i+4) 2 u _ a1 rfl oM b r (q▸I)
  .omega
 have a4:n=us.length:=by obtain⟨_,_,q⟩:=y.v.slice;cases q;rfl
 have a2:bV (w1::w2::sL z n c::w4::us.set i E):=y.ap.set (k:=i+4) (v:=E) (n:=H.next) a1 U.new (fun x S b D=>(y.inl S D).2);have a6:u6 K (J+1) 1 (w9 fun u=>[u]) (sL z n c) (us.set i E):=⟨us.set i E,.inr ⟨z,c,by rw[a4,List.length_set],gK,oM,by simp⟩,FB _⟩
 have a5:u6 K (J+1) 1 (w9 stE) E l':=hO.same fun b D=>eK b (a8 b D);rw[<-hK];refine⟨R6 O H K,w1,w2,sL z n c,w4,us.set i E,⟨?_,ho w1 0 rfl oM oM y.n,ho w2 1 rfl oM oM y.a,a6,by rw[List.length_set,List.length_set];exact y.len,by rw[List.length_set];exact y.al,fun j x m S X=>?_,ho w4 3 rfl oM oM y.t,a2,fun w hw b D=>?_,fun b D=>?_⟩,fun b D=>D.imp id fun h=>h.1,.inr ⟨z,.inr (y.o _ sM z I),by rw[hK,A4];omega⟩,fun j W h1 h2=>by rw[eK j (fun q=>h2 (q▸y.o _ sM z I)),U.but j W (fun q=>h2 (y.o u (by simp [mG hu]) j q))],by rw[hK];exact(U.stay.weaken oM).trans (i6.put oM),by rw[hK,A4];omega⟩
 .rw[eK J oM,U.but J oM (fun q=>by have:=y.inl (w:=u) (by simp [mG hu]) q;omega)];exact y.g
 .simp only at X;rw[List.getElem?_set]at S X;by_cases W:i=j
  .rw[if_pos W]at S X;split at S
   .split at X
    .cases S;cases X;exact a5
    .cases X
   .cases S
  .rw[if_neg W]at S X;exact ho x (j+4) S oM oM (y.u j x m S X)
 .by_cases h:w∈w1::w2::sL z n c::w4::us
  .exact .inl (y.o w h b D)
  .have:w=E:=by
    apply Classical.byContradiction;intro hv;apply h;have a7:w=w1\/w=w2\/w=sL z n c\/w=w4\/w∈us.set i E:=by simpa only[List.mem_cons] using hw
    rcases a7 with q|q|q|q|q
    .simp [q]
    .simp [q]
    .simp [q]
    .simp [q]
    .rcases List.mem_or_eq_of_mem_set q with q|q
     .simp [q]
     .exact absurd q hv
   rw[this]at D;rcases U.new b D with r|r
   .exact .inl (y.o u (by simp [mG hu]) b r)
   .exact .inr ⟨r,by have:=hO.lt D;omega⟩
 .rcases D with D|D
  .have:=y.lt b D;omega
  .omega
def Sm(s:SpD)(m:Nat):Prop:=s.names.length<=m/\s.attrs.length<=m/\(∀l∈s.vals,l.length<=m)/\s.texts.length<=m
theorem Ae(l:List (ByteArray×ByteArray))(x:ByteArray×ByteArray):(Z2 l x).length<=l.length+1:=by unfold Z2;split<;>simp
theorem pS(l:List ByteArray)(x:ByteArray):(cU l x).length<=l.length+1:=by unfold cU;split<;>simp
theorem Dl{s:SpD}{m:Nat}(h:Sm s m)(n:ByteArray×ByteArray):Sm (I0 s n) (m+1):=by
 obtain⟨z,D,y,E⟩:=h;unfold I0;split
 .exact⟨oM,oM,fun l u=>by have:=y l u;omega,oM⟩
 .refine⟨by show s.names.length<=_;omega,by simp;omega,fun l u=>?_,by show s.texts.length<=_;omega⟩;rcases List.mem_append.1 u with u|u
  .have:=y l u;omega
  .rw[List.mem_singleton.1 u];simp
theorem pX{s:SpD}{m:Nat}(h:Sm s m)(n:ByteArray×ByteArray):(∀l∈(I0 s n).vals,l.length<=m)/\(I0 s n).names.length<=m/\(I0 s n).texts.length<=m/\(I0 s n).attrs.length<=m+1:=by
 obtain⟨y,E,z,D⟩:=h;unfold I0;split
 .exact⟨z,y,D,oM⟩
 .refine⟨fun l u=>?_,y,D,by simp;omega⟩;rcases List.mem_append.1 u with u|u
  .exact z l u
  .rw[List.mem_singleton.1 u];simp
theorem vE{s:SpD}{m:Nat}(h:Sm s m)(q:Q):Sm (L7 s q) (m+1):=by
 have z:=h;obtain⟨O,S,E,U⟩:=h;have y:Sm s (m+1):=⟨oM,oM,fun l u=>by have:=E l u;omega,oM⟩
 unfold L7;split
 .exact⟨by have:=Ae s.names (qNm q);show(Z2 s.names (qNm q)).length<=_;omega,y.2⟩
 split
 .exact Dl z _
 split
 .obtain⟨D,W,X,J⟩:=pX z (qNm q);refine⟨by show(I0 s (qNm q)).names.length<=_;omega,J,fun l u=>?_,by show(I0 s (qNm q)).texts.length<=_;omega⟩;rcases List.mem_or_eq_of_mem_set u with u|u
  .have:=D l u;omega
  .rw[u];have:=pS ((I0 s (qNm q)).vals.getD (ixN (I0 s (qNm q)).attrs (qNm q)) []) q.vl;have:((I0 s (qNm q)).vals.getD (ixN (I0 s (qNm q)).attrs (qNm q)) []).length<=m:=by
    rw[List.getD_eq_getElem?_getD];cases I:(I0 s (qNm q)).vals[ixN (I0 s (qNm q)).attrs (qNm q)]? with
    |none=>simp
    |some l=>exact D l (mG I)
   omega
 split
 .exact⟨y.1,y.2.1,y.2.2.1,by have:=pS s.texts q.vl;show(cU s.texts q.vl).length<=_;omega⟩
 .exact y
theorem dk(l:List Q):∀{s:SpD}{m:Nat},Sm s m->Sm (l.foldl L7 s) (m+l.length):=by
 induction l with
 |nil=>intro s m h;exact h
 |cons x l u=>intro s m h;rw[List.foldl_cons,List.length_cons,show m+(l.length+1)=m+1+l.length from oM];exact u (vE h x)
theorem Aq(s:SpD)(n:ByteArray×ByteArray):n∈(I0 s n).attrs:=by
 unfold I0;split
 .rename_i h;exact P9.1 h
 .exact List.mem_append.2 (.inr (List.mem_singleton.2 rfl))
theorem xm(H1:d8)(E p3:Nat)(O:Nat->Prop)(s:SpD)(w1 w2 w3 w4:Value)(us:LV)(q:Q)(va wa:Option Addr)(ca c5:Nat)(W:cd H1 E O s w1 w2 w3 w4 us)(hs:Sm s 100000)(hp:p3≠E)(d3:¬O p3)(X:LV)(a4:X=[iV q.op,.string q.sp,.string q.lc,.string q.vl,.slice va q.a.length ca,.slice wa q.b.length c5])(S:H1.get p3=cE X 1)
  (e:Env) (f0:e.get 0=pT E) (f3:e.get 3=pT p3) (U:e.get 10=iV q.op):
  w7 (LE prog t6 wU e H1) (fun o e H2=>o= .normal/\e.get 0=pT E/\e.get 3=pT p3/\fx E O s H1 H2 (L7 s q)):=by
 unfold wU;obtain⟨s1,s2,s3,s4⟩:=hs;have e2:=u7 W.g;have d2:=u7 S;have gg:=W.g;have a6:ldC (some true) (some 2) 1 X=some (.agg (nmE (qNm q)).toArray):=by rw[a4];rfl
 have r3:X[3]?=some (.string q.vl):=by rw[a4];rfl
 rcases b4:decide (q.op=4)with _|_;rcases b5:decide (q.op=5)with _|_;rcases b6:decide (q.op=6)with _|_;rcases b7:decide (q.op=7)with _|_
 .have h:L7 s q=s:=by
   unfold L7;rw[if_neg (dF b4),if_neg (dF b5),if_neg (dF b6),if_neg (dF b7)]
  refine J7 f0 f3 U b4 b5 b6 b7 ?_;rw[h];exact⟨O,w1,w2,w3,w4,us,W,lu.refl _ _ _ _⟩
 .have h:L7 s q={s with texts:=cU s.texts q.vl}:=by
   unfold L7;rw[if_neg (dF b4),if_neg (dF b5),if_neg (dF b6),if_pos (dT b7)]
  obtain⟨v',h',H2,z,J,hO,hG,hl⟩:=CV H1 (E+1) w4 s.texts q.vl oM W.t oM;have n2:=hG.next;have g2:H2.get E=cE [w1,w2,w3,w4] 1:=(hG.but E oM (fun q=>by have:=W.inl (w:=w4) sM q;omega)).trans gg;obtain⟨a',c',e'⟩:=hO.slice;have cu:v'.cells.toList=[v']:=by rw[e'];rfl
  have ou:Value.oneCell' v'=true:=by rw[e'];rfl
  refine J15 f0 f3 U b4 b5 b6 b7 gg S r3 z J g2 cu ou ?_;rw[h];exact Bo W hO hG hl
 .have h:L7 s q={I0 s (qNm q)with vals:=(I0 s (qNm q)).vals.set (ixN (I0 s (qNm q)).attrs (qNm q)) (cU ((I0 s (qNm q)).vals.getD (ixN (I0 s (qNm q)).attrs (qNm q)) []) q.vl)}:=by
   unfold L7;rw[if_neg (dF b4),if_neg (dF b5),if_pos (dT b6)]
  obtain⟨_,h',H2,z,J,rfl,O2,x1,x2,x3,x4,ys,y,a2⟩:=zh H1 E O s w1 w2 w3 w4 us (qNm q) W oM;have b2:=Aq s (qNm q);obtain⟨c4,_⟩:=pX (m:=100000) ⟨s1,s2,s3,s4⟩ (qNm q);obtain⟨sA,d5⟩:=eY (I0 s (qNm q));rw[<-d5]at z y a2 h b2 c4;obtain⟨I,b8⟩:=eY (ixN sA.attrs (qNm q));have a3:I<sA.vals.length:=by rw[b8,<-y.al];exact(xF _ _ b2).2.1
  rw[<-b8]at z h;have e4:=a2.stay.next;have a8:=y.g;have c7:H2.get p3=cE X 1:=(a2.but p3 d2 hp d3).trans S;have b9:sA.vals[I]?=some (sA.vals.getD I []):=by rw[List.getD_eq_getElem?_getD,List.getElem?_eq_getElem a3];rfl
  have d7:=c4 _ (mG b9);obtain⟨u,hu⟩:∃u,ys[I]?=some u:=⟨_,List.getElem?_eq_getElem (by rw[y.len];exact a3)⟩
  have c9:=y.u I u _ hu b9;obtain⟨v',d9,H3,b0,b1,a9,a1,d0⟩:=CV H2 (E+1) u (sA.vals.getD I []) q.vl oM c9 oM;have hv:=y.v;obtain⟨D,c8,d4⟩:=hv;have e3:=JC d4;subst e3;have d1:=y.len;rcases c8 with⟨_,q0,_⟩|⟨b3,c3,rfl,a5,e1,_⟩
  .omega
  have h3:l7 (sL b3 D.length c3) b3:=⟨_,_,rfl⟩
  have e5:=a1.next;have g3:H3.get E=cE [x1,x2,sL b3 D.length c3,x4] 1:=(a1.but E oM (fun q=>by have:=y.inl (w:=u) (by simp [mG hu]) q;omega)).trans a8;have a7:H3.get b3=cE D 1:=(a1.but b3 (u7 a5) (fun q=>y.ap (I+4) 2 u _ hu rfl oM b3 q h3)).trans a5;obtain⟨a',c',e'⟩:=a9.slice;have cu:v'.cells.toList=[v']:=by rw[e'];rfl
  have ou:Value.oneCell' v'=true:=by rw[e'];rfl
  have nt:(I:Int).toNat=I:=tN I;have c0:I<D.length:=oM;have i0:(0:Int)<=I:=oM;have i1:(I:Int)<D.length:=oM;have c6:I+1<=D.length:=c0;have d6:splice D I [v']=D.set I v':=rfl;refine J25 f0 f3 U b4 b5 b6 a8 c7 a6 r3 S z J a5 nt hu b0 b1 g3 a7 cu ou c6 @Nat.mul_one d6 ?_;rw[h];obtain⟨O3,y1,y2,y3,y4,zs,R3,T3⟩:=Ht y hu a9 a1 d0;exact⟨O3,y1,y2,y3,y4,zs,R3,a2.trans (i6.refl _ _) lR oM T3⟩
 .have h:L7 s q=I0 s (qNm q):=by
   unfold L7;rw[if_neg (dF b4),if_pos (dT b5)]
  obtain⟨_,h',H2,z,J,rfl,hQ⟩:=zh H1 E O s w1 w2 w3 w4 us (qNm q) W oM;refine J9 f0 f3 U b4 b5 S a6 z J ?_;rw[h];exact hQ
 .have h:L7 s q={s with names:=Z2 s.names (qNm q)}:=by
   unfold L7;rw[if_pos (dT b4)]
  obtain⟨v',h',H2,z,J,hO,hG,hl⟩:=JQ H1 (E+1) w1 s.names (qNm q) oM W.n oM;have n2:=hG.next;have g2:H2.get E=cE [w1,w2,w3,w4] 1:=(hG.but E oM (fun q=>by have:=W.inl (w:=w1) sM q;omega)).trans gg;obtain⟨a',c',e'⟩:=hO.slice;have cu:v'.cells.toList=[v']:=by rw[e'];rfl
  have ou:Value.oneCell' v'=true:=by rw[e'];rfl
  refine J12 f0 f3 U b4 gg S a6 z J g2 cu ou ?_;rw[h];exact Bn W hO hG hl
def fj(fn:Nat)(f:Bool)(k:Nat):Prop:=∀(H:d8)(lo gb:Nat)(O:Nat->Prop)(s:SpD)(w1 w2 w3 w4:Value)(us cs:LV)(q:Q)(m:Nat),lo<=gb->cd H gb O s w1 w2 w3 w4 us->QR H lo k f cs q->Sm s m->m+nQ q<=100000->
 Ret (CL prog t6 fn [pT gb,.agg cs.toArray] H) H fun v H1=>v=undef/\fx gb O s H H1 ((fsQ f q).foldl L7 s)
theorem fU(f:Bool)(l:List Q)(i:Nat)(x:Q)(h:l.drop i=x::l.drop (i+1)):fsL f (l.drop i)=fsQ f x++fsL f (l.drop (i+1)):=by rw[h,fsL]
theorem Lr(k:Nat)(ih:fj 79 false k)(H0:d8)(lo u:Nat)(b2:lo<=u)(b4:u<H0.next)(O0:Nat->Prop)(s0:SpD)(va:Option Addr)(ca:Nat)(l:List Q)(hv:QsR H0 lo k false (.slice va l.length ca) l)(hn:l.length<=1048576)(p3:Value)(J:SpD):
  ∀kk e H2,(∃(i:Nat)(s:SpD)(m:Nat),kk=l.length-i/\i<=l.length/\e.get 0=pT u/\e.get 3=p3/\e.get 9= .slice va l.length ca/\e.get 10=iV l.length/\e.get 11=iV i/\fx u O0 s0 H0 H2 s/\Sm s m/\m+nL (l.drop i)<=100000/\(fsL false (l.drop i)).foldl L7 s=J)->
  w7 (LE prog t6 (.loop Od) e H2) (fun o e H2=>o= .exit 0/\e.get 0=pT u/\e.get 3=p3/\fx u O0 s0 H0 H2 J):=by
 refine i8 _ _ ?_;rintro kk e H2 ⟨i,s,m,b6,hi,f0,f3,fL,fM,fJ,hQ,E,y,W⟩;rcases b:decide ((i:Int)<l.length)with _|_
 .have a6:=dF b;have:l.drop i=[]:=dN oM;rw[this,fsL,List.foldl_nil]at W;refine J3 fM fJ b ?_;exact i9 ⟨rfl,f0,f3,by rw[<-W];exact hQ⟩
 have a6:=dT b;obtain⟨O,w1,w2,w3,w4,us,X,hT⟩:=hQ;have hS:=hT.stay;have b8:=hS.next;have a9:=u7 X.g;obtain⟨x,nb,o,cs,own,el,hx,hd,rfl,b7,hg,b1,z,hr⟩:=hv.row (i:=i) oM;have b9:=mG hx;have nt:(i:Int).toNat=i:=tN i;simp only[qSz,if_true,bF]at z hg b1;rw[fU _ _ _ _ hd,List.foldl_append]at W;have a8:m+(nQ x+nL (l.drop (i+1)))<=100000:=by rw[hd,nL]at y;exact y
 have a1:el.all oC=true:=F7 hr;have U:=hr.len;simp only[qSz,if_true,bF]at U;have I:=N5 hr;rw[U]at I;have gx:=(hS.get nb oM).trans hg;obtain⟨S,D,n3,g3,s3⟩:=pushP H2 (bC [iV 0,nS,nS] 1) (bC el 1);have l3:S.low<=H2.low:=by rw[D,A4,l9];omega
 have b3:splice [iV 0,nS,nS] 0 el=el:=x9 _ _ (by rw[U];rfl);have a2:∀j,j<lo->S.get j=H0.get j:=fun j hj=>by rw[s3.get j oM,hS.get j oM]
 have a3:cd S u O s w1 w2 w3 w4 us:=X.keep (fun j hj=>s3.get j (by rcases hj with rfl|hj;exact a9;exact(X.lt j hj).2)) (fun _ h=>h) (fun b hb=>by have:=X.lt b hb;omega);obtain⟨v4,h4,H4,a7,b0,rfl,O4,x1,x2,x3,x4,ys,a4,a5⟩:=ih S lo u O s w1 w2 w3 w4 us el x m b2 a3 (hr.mono a2 lR) E oM;refine J17 f0 fL fM fJ b gx nt z a1 U b3 D.symm g3 I a7 b0 @wrap_small ?_;have b5:=dz false x;exact i4 (kk-1) oM ⟨i+1,_,m+(fsQ false x).length,oM,oM,f0,f3,fL,fM,rfl,⟨O4,x1,x2,x3,x4,ys,a4,hT.trans s3 l3 oM a5⟩,dk _ E,oM,W⟩
theorem Ls(k:Nat)(ih:fj 101 true k)(H0:d8)(lo u:Nat)(b2:lo<=u)(b4:u<H0.next)(O0:Nat->Prop)(s0:SpD)(va:Option Addr)(ca:Nat)(l:List Q)(hv:QsR H0 lo k true (.slice va l.length ca) l)(hn:l.length<=1048576)(p3:Value)(J:SpD):
  ∀kk e H2,(∃(i:Nat)(s:SpD)(m:Nat),kk=l.length-i/\i<=l.length/\e.get 0=pT u/\e.get 3=p3/\e.get 20= .slice va l.length ca/\e.get 21=iV l.length/\e.get 22=iV i/\fx u O0 s0 H0 H2 s/\Sm s m/\m+nL (l.drop i)<=100000/\(fsL true (l.drop i)).foldl L7 s=J)->
  w7 (LE prog t6 (.loop Oe) e H2) (fun o e H2=>o= .exit 2/\e.get 0=pT u/\e.get 3=p3/\fx u O0 s0 H0 H2 J):=by
 refine i8 _ _ ?_;rintro kk e H2 ⟨i,s,m,b6,hi,f0,f3,fL,fM,fJ,hQ,E,y,W⟩;rcases b:decide ((i:Int)<l.length)with _|_
 .have a6:=dF b;have:l.drop i=[]:=dN oM;rw[this,fsL,List.foldl_nil]at W;refine J3 fM fJ b ?_;exact i9 ⟨rfl,f0,f3,by rw[<-W];exact hQ⟩
 have a6:=dT b;obtain⟨O,w1,w2,w3,w4,us,X,hT⟩:=hQ;have hS:=hT.stay;have b8:=hS.next;have a9:=u7 X.g;obtain⟨x,nb,o,cs,own,el,hx,hd,rfl,b7,hg,b1,z,hr⟩:=hv.row (i:=i) oM;have b9:=mG hx;have nt:(i:Int).toNat=i:=tN i;simp only[qSz,if_true,bF]at z hg b1;rw[fU _ _ _ _ hd,List.foldl_append]at W;have a8:m+(nQ x+nL (l.drop (i+1)))<=100000:=by rw[hd,nL]at y;exact y
 have a1:el.all oC=true:=F7 hr;have U:=hr.len;simp only[qSz,if_true,bF]at U;have I:=N5 hr;rw[U]at I;have gx:=(hS.get nb oM).trans hg;obtain⟨S,D,n3,g3,s3⟩:=pushP H2 (bC [iV 0,.string eB,.string eB,.string eB,nS,nS] 1) (bC el 1);have l3:S.low<=H2.low:=by rw[D,A4,l9];omega
 have b3:splice [iV 0,.string eB,.string eB,.string eB,nS,nS] 0 el=el:=x9 _ _ (by rw[U];rfl);have a2:∀j,j<lo->S.get j=H0.get j:=fun j hj=>by rw[s3.get j oM,hS.get j oM]
 have a3:cd S u O s w1 w2 w3 w4 us:=X.keep (fun j hj=>s3.get j (by rcases hj with rfl|hj;exact a9;exact(X.lt j hj).2)) (fun _ h=>h) (fun b hb=>by have:=X.lt b hb;omega);obtain⟨v4,h4,H4,a7,b0,rfl,O4,x1,x2,x3,x4,ys,a4,a5⟩:=ih S lo u O s w1 w2 w3 w4 us el x m b2 a3 (hr.mono a2 lR) E oM;refine J17 f0 fL fM fJ b gx nt z a1 U b3 D.symm g3 I a7 b0 @wrap_small ?_;have b5:=dz true x;exact i4 (kk-1) oM ⟨i+1,_,m+(fsQ true x).length,oM,oM,f0,f3,fL,fM,rfl,⟨O4,x1,x2,x3,x4,ys,a4,hT.trans s3 l3 oM a5⟩,dk _ E,oM,W⟩
theorem Hu(k:Nat)(ih:fj 101 true k)(H0:d8)(lo u:Nat)(b2:lo<=u)(b4:u<H0.next)(O0:Nat->Prop)(s0:SpD)(va:Option Addr)(ca:Nat)(l:List Q)(hv:QsR H0 lo k true (.slice va l.length ca) l)(hn:l.length<=1048576)(p3:Value)(J:SpD):
  ∀kk e H2,(∃(i:Nat)(s:SpD)(m:Nat),kk=l.length-i/\i<=l.length/\e.get 0=pT u/\e.get 3=p3/\e.get 70= .slice va l.length ca/\e.get 71=iV l.length/\e.get 72=iV i/\fx u O0 s0 H0 H2 s/\Sm s m/\m+nL (l.drop i)<=100000/\(fsL true (l.drop i)).foldl L7 s=J)->
  w7 (LE prog t6 (.loop Kn) e H2) (fun o e H2=>o= .exit 1/\e.get 0=pT u/\e.get 3=p3/\fx u O0 s0 H0 H2 J):=by
 refine i8 _ _ ?_;rintro kk e H2 ⟨i,s,m,b6,hi,f0,f3,fL,fM,fJ,hQ,E,y,W⟩;rcases b:decide ((i:Int)<l.length)with _|_
 .have a6:=dF b;have:l.drop i=[]:=dN oM;rw[this,fsL,List.foldl_nil]at W;refine J3 fM fJ b ?_;exact i9 ⟨rfl,f0,f3,by rw[<-W];exact hQ⟩
 have a6:=dT b;obtain⟨O,w1,w2,w3,w4,us,X,hT⟩:=hQ;have hS:=hT.stay;have b8:=hS.next;have a9:=u7 X.g;obtain⟨x,nb,o,cs,own,el,hx,hd,rfl,b7,hg,b1,z,hr⟩:=hv.row (i:=i) oM;have b9:=mG hx;have nt:(i:Int).toNat=i:=tN i;simp only[qSz,if_true,bF]at z hg b1;rw[fU _ _ _ _ hd,List.foldl_append]at W;have a8:m+(nQ x+nL (l.drop (i+1)))<=100000:=by rw[hd,nL]at y;exact y
 have a1:el.all oC=true:=F7 hr;have U:=hr.len;simp only[qSz,if_true,bF]at U;have I:=N5 hr;rw[U]at I;have gx:=(hS.get nb oM).trans hg;obtain⟨S,D,n3,g3,s3⟩:=pushP H2 (bC [iV 0,.string eB,.string eB,.string eB,nS,nS] 1) (bC el 1);have l3:S.low<=H2.low:=by rw[D,A4,l9];omega
 have b3:splice [iV 0,.string eB,.string eB,.string eB,nS,nS] 0 el=el:=x9 _ _ (by rw[U];rfl);have a2:∀j,j<lo->S.get j=H0.get j:=fun j hj=>by rw[s3.get j oM,hS.get j oM]
 have a3:cd S u O s w1 w2 w3 w4 us:=X.keep (fun j hj=>s3.get j (by rcases hj with rfl|hj;exact a9;exact(X.lt j hj).2)) (fun _ h=>h) (fun b hb=>by have:=X.lt b hb;omega);obtain⟨v4,h4,H4,a7,b0,rfl,O4,x1,x2,x3,x4,ys,a4,a5⟩:=ih S lo u O s w1 w2 w3 w4 us el x m b2 a3 (hr.mono a2 lR) E oM;refine J17 f0 fL fM fJ b gx nt z a1 U b3 D.symm g3 I a7 b0 @wrap_small ?_;have b5:=dz true x;exact i4 (kk-1) oM ⟨i+1,_,m+(fsQ true x).length,oM,oM,f0,f3,fL,fM,rfl,⟨O4,x1,x2,x3,x4,ys,a4,hT.trans s3 l3 oM a5⟩,dk _ E,oM,W⟩
theorem Hv(k:Nat)(ih:fj 79 false k)(H0:d8)(lo u:Nat)(b2:lo<=u)(b4:u<H0.next)(O0:Nat->Prop)(s0:SpD)(va:Option Addr)(ca:Nat)(l:List Q)(hv:QsR H0 lo k false (.slice va l.length ca) l)(hn:l.length<=1048576)(p3:Value)(J:SpD):
  ∀kk e H2,(∃(i:Nat)(s:SpD)(m:Nat),kk=l.length-i/\i<=l.length/\e.get 0=pT u/\e.get 3=p3/\e.get 81= .slice va l.length ca/\e.get 82=iV l.length/\e.get 83=iV i/\fx u O0 s0 H0 H2 s/\Sm s m/\m+nL (l.drop i)<=100000/\(fsL false (l.drop i)).foldl L7 s=J)->
  w7 (LE prog t6 (.loop Ko) e H2) (fun o e H2=>o= .exit 3/\e.get 0=pT u/\e.get 3=p3/\fx u O0 s0 H0 H2 J):=by
 refine i8 _ _ ?_;rintro kk e H2 ⟨i,s,m,b6,hi,f0,f3,fL,fM,fJ,hQ,E,y,W⟩;rcases b:decide ((i:Int)<l.length)with _|_
 .have a6:=dF b;have:l.drop i=[]:=dN oM;rw[this,fsL,List.foldl_nil]at W;refine J3 fM fJ b ?_;exact i9 ⟨rfl,f0,f3,by rw[<-W];exact hQ⟩
 have a6:=dT b;obtain⟨O,w1,w2,w3,w4,us,X,hT⟩:=hQ;have hS:=hT.stay;have b8:=hS.next;have a9:=u7 X.g;obtain⟨x,nb,o,cs,own,el,hx,hd,rfl,b7,hg,b1,z,hr⟩:=hv.row (i:=i) oM;have b9:=mG hx;have nt:(i:Int).toNat=i:=tN i;simp only[qSz,if_true,bF]at z hg b1;rw[fU _ _ _ _ hd,List.foldl_append]at W;have a8:m+(nQ x+nL (l.drop (i+1)))<=100000:=by rw[hd,nL]at y;exact y
 have a1:el.all oC=true:=F7 hr;have U:=hr.len;simp only[qSz,if_true,bF]at U;have I:=N5 hr;rw[U]at I;have gx:=(hS.get nb oM).trans hg;obtain⟨S,D,n3,g3,s3⟩:=pushP H2 (bC [iV 0,nS,nS] 1) (bC el 1);have l3:S.low<=H2.low:=by rw[D,A4,l9];omega
 have b3:splice [iV 0,nS,nS] 0 el=el:=x9 _ _ (by rw[U];rfl);have a2:∀j,j<lo->S.get j=H0.get j:=fun j hj=>by rw[s3.get j oM,hS.get j oM]
 have a3:cd S u O s w1 w2 w3 w4 us:=X.keep (fun j hj=>s3.get j (by rcases hj with rfl|hj;exact a9;exact(X.lt j hj).2)) (fun _ h=>h) (fun b hb=>by have:=X.lt b hb;omega);obtain⟨v4,h4,H4,a7,b0,rfl,O4,x1,x2,x3,x4,ys,a4,a5⟩:=ih S lo u O s w1 w2 w3 w4 us el x m b2 a3 (hr.mono a2 lR) E oM;refine J17 f0 fL fM fJ b gx nt z a1 U b3 D.symm g3 I a7 b0 @wrap_small ?_;have b5:=dz false x;exact i4 (kk-1) oM ⟨i+1,_,m+(fsQ false x).length,oM,oM,f0,f3,fL,fM,rfl,⟨O4,x1,x2,x3,x4,ys,a4,hT.trans s3 l3 oM a5⟩,dk _ E,oM,W⟩
theorem PM(k:Nat)(a6:fj 79 false k)(a7:fj 101 true k):fj 79 false (k+1):=by
 intro H lo gb O s w1 w2 w3 w4 us cs q m I y hr S a8;have b2:=fq q;have a5:=u7 y.g;obtain⟨va,X,wa,u,rfl,h1,h2,h3,h4⟩:=hr.path;obtain⟨D,E,-,hg,U⟩:=pushF H (bC [iV q.op,.slice va q.a.length X,.slice wa q.b.length u] 1);have J:H.next<=D.low:=by rw[E,l9];exact lR
 have hn:=U.next;have b1:=u7 hg;have hm:∀j,j<lo->D.get j=H.get j:=fun j W=>U.get j oM;have a3:cd D gb O s w1 w2 w3 w4 us:=y.keep (fun j W=>U.get j (by rcases W with rfl|W;exact a5;exact(y.lt j W).2)) (fun _ h=>h) (fun b hb=>by have:=y.lt b hb;omega);rw[j7 KZ rfl _ sM,kg,if_neg (by decide),List.nil_append];refine J2 E.symm hg ?_;refine j8 (F:=fun z=>Ret (u5 _ _ _ (u9 (inBlock 0 z) _)) _ _) (Lr k a6 D lo gb I oM O s va X q.a (h1.mono hm lR) h3 (pT H.next) ((fsL false q.a).foldl L7 s) q.a.length _ _ ⟨0,s,m,rfl,oM,rfl,rfl,rfl,rfl,rfl,⟨O,w1,w2,w3,w4,us,a3,lu.refl _ _ _ _⟩,S,by rw[List.drop_zero];omega,rfl⟩) ?_;rintro o e' H2 ⟨ho,g0,g3,hQ⟩;have a1:=hQ;obtain⟨_,_,_,_,_,_,_,T⟩:=a1;have b0:=T.stay.next;have a4:H2.get H.next=cE [iV q.op,.slice va q.a.length X,.slice wa q.b.length u] 1:=(T.but H.next oM oM (fun q=>by have:=y.lt _ q;omega)).trans hg;have a9:=jp false q.a;refine J3 ho g3 a4 ?_;refine j8 (F:=fun z=>Ret (u5 _ _ _ (inBlock 2 z)) _ _) (Ls k a7 D lo gb I oM O s wa u q.b (h2.mono hm lR) h4 (pT H.next) ((fsL false q.a++fsL true q.b).foldl L7 s) q.b.length _ _ ⟨0,_,m+(fsL false q.a).length,rfl,oM,g0,g3,rfl,rfl,rfl,hQ,dk _ S,by rw[List.drop_zero];omega,by rw[List.drop_zero,List.foldl_append]⟩) ?_;rintro o e' H3 ⟨ho,g0,g3,a2⟩;refine J1 ho ?_;exact lY U J y a2
theorem Lq(k:Nat)(a9:fj 101 true k)(b0:fj 79 false k):fj 101 true (k+1):=by
 intro H lo gb O s w1 w2 w3 w4 us cs q m a1 D hr y b1;have b5:=fq q;have a6:=u7 D.g;obtain⟨va,ca,wa,I,u,h1,h2,h3,h4,_⟩:=hr.filter;obtain⟨S,W,-,hg,hS⟩:=pushF H (bC cs 1);have a2:H.next<=S.low:=by rw[W,l9];exact lR
 have hn:=hS.next;have b4:=u7 hg;have hm:∀j,j<lo->S.get j=H.get j:=fun j hj=>hS.get j oM;have a4:cd S gb O s w1 w2 w3 w4 us:=D.keep (fun j hj=>hS.get j (by rcases hj with rfl|hj;exact a6;exact(D.lt j hj).2)) (fun _ h=>h) (fun b hb=>by have:=D.lt b hb;omega);have al:cs.all oC=true:=by rw[u];rfl
 have r0:cs[0]?=some (.int .i64 q.op):=by rw[u];rfl
 have r4:cs[4]?=some (.slice va q.a.length ca):=by rw[u];rfl
 have r5:cs[5]?=some (.slice wa q.b.length I):=by rw[u];rfl
 have a8:Sm s 100000:=⟨by have:=y.1;omega,by have:=y.2.1;omega,fun l hl=>by have:=y.2.2.1 l hl;omega,by have:=y.2.2.2;omega⟩
 rw[j7 OD rfl _ sM,kg,if_pos rfl,List.singleton_append,List.foldl_cons,Bool.not_true];refine J4 al W.symm hg r0 ?_;refine j8 (F:=fun z=>Ret (u5 _ _ _ (u9 z _)) _ _) (xm S gb H.next O s w1 w2 w3 w4 us q va wa ca I a4 a8 oM (fun h=>by have:=D.lt _ h;omega) cs u hg _ rfl rfl rfl) ?_;rintro o e1 Hs ⟨rfl,g0,U,X⟩;have E:=vE y q;have J:=X;obtain⟨_,_,_,_,_,_,_,T0⟩:=J;have b6:=T0.stay.next;have a7:Hs.get H.next=cE cs 1:=(T0.but H.next oM oM (fun q=>by have:=D.lt _ q;omega)).trans hg;refine J3 U a7 r4 ?_;refine j8 (F:=fun z=>Ret (u5 _ _ _ (u9 (inBlock 1 z) _)) _ _) (Hu k a9 S lo gb a1 oM O s va ca q.a (h1.mono hm lR) h3 (pT H.next) ((fsL true q.a).foldl L7 (L7 s q)) q.a.length _ _ ⟨0,L7 s q,m+1,rfl,oM,g0,U,rfl,rfl,rfl,X,E,by rw[List.drop_zero];omega,rfl⟩) ?_;rintro o e' H2 ⟨ho,g0,U,hQ⟩;have J:=hQ;obtain⟨_,_,_,_,_,_,_,T⟩:=J;have b3:=T.stay.next;have a5:H2.get H.next=cE cs 1:=(T.but H.next oM oM (fun q=>by have:=D.lt _ q;omega)).trans hg;have b2:=jp true q.a;refine J4 ho U a5 r5 ?_;refine j8 (F:=fun z=>Ret (u5 _ _ _ (inBlock 3 z)) _ _) (Hv k b0 S lo gb a1 oM O s wa I q.b (h2.mono hm lR) h4 (pT H.next) ((fsL true q.a++fsL false q.b).foldl L7 (L7 s q)) q.b.length _ _ ⟨0,_,m+1+(fsL true q.a).length,rfl,oM,g0,U,rfl,rfl,rfl,hQ,dk _ E,by rw[List.drop_zero];omega,by rw[List.drop_zero,List.foldl_append]⟩) ?_;rintro o e' H3 ⟨ho,g0,U,a3⟩;refine J1 ho ?_;exact lY hS a2 D a3
theorem Hw:∀k,fj 79 false k/\fj 101 true k:=by
 intro k;induction k with
 |zero=>exact⟨fun H lo y O s w1 w2 w3 w4 us cs q m _ _ u=>u.elim,fun H lo y O s w1 w2 w3 w4 us cs q m _ _ u=>u.elim⟩
 |succ k h=>exact⟨PM k h.1 h.2,Lq k h.2 h.1⟩
structure SpO(H:d8)(lo:Nat)(O:Nat->Prop)(s:SpD)(w1 w2 w3 w4:Value)(us:LV):Prop where
 n:u6 H lo 2 (w9 nmE) w1 s.names
 a:u6 H lo 2 (w9 nmE) w2 s.attrs
 v:u6 H lo 1 (w9 fun u=>[u]) w3 us
 len:us.length=s.vals.length
 u:∀(i:Nat)(u:Value)(l:List ByteArray),us[i]?=some u->s.vals[i]?=some l->u6 H lo 1 (w9 stE) u l
 t:u6 H lo 1 (w9 stE) w4 s.texts
 ap:bV (w1::w2::w3::w4::us)
 o:∀w∈w1::w2::w3::w4::us,∀b,l7 w b->O b
 lt:∀b,O b->lo<=b/\b<H.next
theorem SpO.keep{H H':d8}{lo z:Nat}{O I:Nat->Prop}{s:SpD}{w1 w2 w3 w4:Value}{us:LV}(h:SpO H lo O s w1 w2 w3 w4 us)(D:∀j,O j->H'.get j=H.get j) (W:∀b,O b->I b) (S:∀b,I b->z<=b/\b<H'.next) (E:z<=lo):SpO H' z I s w1 w2 w3 w4 us:=
 ⟨(h.n.same fun b y=>D b (h.o _ sM b y)).weaken E,(h.a.same fun b y=>D b (h.o _ sM b y)).weaken E,(h.v.same fun b y=>D b (h.o _ sM b y)).weaken E,h.len,
  fun i u l U J=>((h.u i u l U J).same fun b y=>D b (h.o _ (by simp [mG U]) b y)).weaken E,(h.t.same fun b y=>D b (h.o _ sM b y)).weaken E,h.ap,fun w X b y=>W b (h.o w X b y),S⟩
theorem cd.spo{H:d8}{y:Nat}{O:Nat->Prop}{s:SpD}{w1 w2 w3 w4:Value}{us:LV}(h:cd H y O s w1 w2 w3 w4 us):SpO H (y+1) O s w1 w2 w3 w4 us:=⟨h.n,h.a,h.v,h.len,h.u,h.t,h.ap,h.o,fun b z=>h.lt b z⟩
theorem vA(k:Nat)(H0:d8)(lo u:Nat)(b2:lo<=u)(b4:u<H0.next)(O0:Nat->Prop)(s0:SpD)(va:Option Addr)(ca:Nat)(l:List Q)(hv:QsR H0 lo k false (.slice va l.length ca) l)(hn:l.length<=1048576)(p2:Value)(J:SpD):
  ∀kk e H2,(∃(i:Nat)(s:SpD)(m:Nat),kk=l.length-i/\i<=l.length/\e.get 3=pT u/\e.get 2=p2/\e.get 6= .slice va l.length ca/\e.get 7=iV l.length/\e.get 8=iV i/\fx u O0 s0 H0 H2 s/\Sm s m/\m+nL (l.drop i)<=100000/\(fsL false (l.drop i)).foldl L7 s=J)->
  w7 (LE prog t6 (.loop NF) e H2) (fun o e H2=>o= .exit 0/\e.get 3=pT u/\e.get 2=p2/\fx u O0 s0 H0 H2 J):=by
 refine i8 _ _ ?_;rintro kk e H2 ⟨i,s,m,b6,hi,f0,f3,fL,fM,fJ,hQ,E,y,W⟩;rcases b:decide ((i:Int)<l.length)with _|_
 .have a6:=dF b;have:l.drop i=[]:=dN oM;rw[this,fsL,List.foldl_nil]at W;refine J3 fM fJ b ?_;exact i9 ⟨rfl,f0,f3,by rw[<-W];exact hQ⟩
 have a6:=dT b;obtain⟨O,w1,w2,w3,w4,us,X,hT⟩:=hQ;have hS:=hT.stay;have b8:=hS.next;have a9:=u7 X.g;obtain⟨x,nb,o,cs,own,el,hx,hd,rfl,b7,hg,b1,z,hr⟩:=hv.row (i:=i) oM;have nt:(i:Int).toNat=i:=tN i;simp only[qSz,bF]at z hg b1;rw[fU _ _ _ _ hd,List.foldl_append]at W;have a8:m+(nQ x+nL (l.drop (i+1)))<=100000:=by rw[hd,nL]at y;exact y
 have a1:el.all oC=true:=F7 hr;have U:=hr.len;simp only[qSz,bF]at U;have I:=N5 hr;rw[U]at I;have gx:=(hS.get nb oM).trans hg;obtain⟨S,D,n3,g3,s3⟩:=pushP H2 (bC [iV 0,nS,nS] 1) (bC el 1);have l3:S.low<=H2.low:=by rw[D,A4,l9];omega
 have b3:splice [iV 0,nS,nS] 0 el=el:=x9 _ _ (by rw[U];rfl);have a2:∀j,j<lo->S.get j=H0.get j:=fun j hj=>by rw[s3.get j oM,hS.get j oM]
 have a3:cd S u O s w1 w2 w3 w4 us:=X.keep (fun j hj=>s3.get j (by rcases hj with rfl|hj;exact a9;exact(X.lt j hj).2)) (fun _ h=>h) (fun b hb=>by have:=X.lt b hb;omega);obtain⟨v4,h4,H4,a7,b0,rfl,O4,x1,x2,x3,x4,ys,a4,a5⟩:=(Hw k).1 S lo u O s w1 w2 w3 w4 us el x m b2 a3 (hr.mono a2 lR) E oM;refine J17 f0 fL fM fJ b gx nt z a1 U b3 D.symm g3 I a7 b0 @wrap_small ?_;have b5:=dz false x;exact i4 (kk-1) oM ⟨i+1,_,m+(fsQ false x).length,oM,oM,f0,f3,fL,fM,rfl,⟨O4,x1,x2,x3,x4,ys,a4,hT.trans s3 l3 oM a5⟩,dk _ E,oM,W⟩
theorem MB(H:d8)(lo k:Nat)(v:Value)(l:List Q)(b8:lo<=H.next)(hv:QsR H lo k false v l)(b6:nL l<=100000)(hn:l.length<=1048576):
  Ret (CL prog t6 52 [v] H) H fun w J=>∃w1 w2 w3 w4 us O,w= .agg #[w1,w2,w3,w4]/\SpO J H.next O ((fsL false l).foldl L7 ⟨[],[],[],[]⟩) w1 w2 w3 w4 us/\i6 H.next H J:=by
 obtain⟨va,ca,rfl⟩:=SlI.slice hv;obtain⟨U,X⟩:=eY ([nS,nS,nS,nS]:LV);obtain⟨J,I⟩:=eY ((d8.push ⟨H.bs,H.next⟩ (bC U 1)).push (bC U 1));have n0:(d8.push ⟨H.bs,H.next⟩ (bC U 1)).next=H.next+1:=by rw[i5];rfl
 have n1:J.next=H.next+2:=by rw[I,i5,n0]
 have hS:i6 H.next H J:=by rw[I];exact(i6.first H _).trans (i6.push oM)
 have g1:J.get H.next=cE U 1:=by rw[I,i7 oM];exact j9
 have g2:J.get (H.next+1)=cE U 1:=by rw[I];exact y7 oM
 have a6:H.next<=J.low:=by rw[I,l9,l9];exact lR
 have hm:∀j,j<lo->J.get j=H.get j:=fun j hj=>hS.get j oM;have a5:bV ([nS,nS,nS,nS]:LV):=fun i j a b ha S b7 x hx hy=>by
  have:a=nS:=by
   have:=mG ha
   simpa using this
  rw[this]at hx;exact B8 x hx
 have a8:∀w∈([nS,nS,nS,nS]:LV),∀b,l7 w b->False:=fun w hw b S=>by
  have:w=nS:=by simpa using hw
  rw[this]at S;exact B8 b S
 have b2:cd J (H.next+1) (fun _=>False) ⟨[],[],[],[]⟩ (nS) (nS) (nS) (nS) []:=⟨by rw[g2,X],u6.nil,u6.nil,u6.nil,rfl,rfl,fun i u l hu=>(by cases hu),u6.nil,a5,a8,fun b S=>S.elim⟩
 rw[j7 Pr rfl _ sM];refine J2 X.symm I.symm ?_;refine j8 (F:=fun z=>Ret (u5 _ _ _ (u9 (inBlock 0 z) _)) _ _) (vA k J lo (H.next+1) oM oM (fun _=>False) ⟨[],[],[],[]⟩ va ca l (SlI.mono hv hm lR fun _ _ h=>h.mono hm lR) hn (pT H.next) _ l.length _ _ ⟨0,⟨[],[],[],[]⟩,0,rfl,oM,rfl,rfl,rfl,rfl,rfl,⟨_,_,_,_,_,_,b2,lu.refl _ _ _ _⟩,⟨lR,lR,fun l hl=>(by cases hl),lR⟩,by rw[List.drop_zero];omega,rfl⟩) ?_;rintro o e' H2 ⟨ho,q3,q2,O,w1,w2,w3,w4,us,E,hT⟩;rw[List.drop_zero]at E hT;have n2:=hT.stay.next;have gg:=E.g;have b1:H2.get H.next=cE U 1:=(hT.stay.get _ oM).trans g1;obtain⟨a1,c1,e1⟩:=E.n.slice;obtain⟨a2,c2,e2⟩:=E.a.slice;obtain⟨a3,c3,e3⟩:=E.v.slice;obtain⟨a4,c4,e4⟩:=E.t.slice;obtain⟨D,y⟩:∃r,r=[w1,w2,w3,w4]:=eX;rw[<-y]at gg;have b4:ldC (some true) (some 4) 0 D=some (.agg D.toArray):=by rw[y];rfl
 have b0:D.all oC=true:=by rw[y,e1,e2,e3,e4];rfl
 have l4:D.length=4:=by rw[y];rfl
 have lz:U.length=4:=by rw[X];rfl
 have b5:splice U 0 D=D:=x9 _ _ (by rw[l4,lz]);obtain⟨H3,W⟩:=eY (H2.put H.next (bC D 1));have n3:H3.next=H2.next:=by rw[W,t5]
 have g3:H3.get H.next=cE D 1:=by rw[W];exact j5 oM
 have a9:i6 H.next J H3:=by rw[W];exact(hT.stay.weaken oM).trans (i6.put lR)
 have b3:=a9.low a6;refine J12 ho q3 q2 gg b4 b1 l4 lz b0 b5 W.symm g3 ?_;have a7:SpO H3 H.next O _ w1 w2 w3 w4 us:=E.spo.keep (fun j hj=>by rw[W,j6 (oN (E.lt j hj))]) (fun _ h=>h) (fun b S=>by have:=E.lt b S;omega) oM;refine dI (fun hc=>?_) ?_
 .rw[y]at hc;simp only[List.all_cons,List.all_nil,Bool.and_true,Bool.and_eq_true]at hc;obtain⟨z1,y1⟩:=bG E.n hc.1;obtain⟨z2,y2⟩:=bG E.a hc.2.1;obtain⟨z3,y3⟩:=bG E.v hc.2.2.1;obtain⟨U,y4⟩:=bG E.t hc.2.2.2;have y5:=E.len;rw[y3]at y5;have y6:=List.length_eq_zero_iff.1 y5.symm;refine⟨w1,w2,w3,w4,[],fun _=>False,by rw[y],⟨?_,?_,?_,(by rw[y6];rfl),fun i u l hu=>(by cases hu),?_,(by rw[z1,z2,z3,U];exact a5),fun w hw b S=>?_,fun b S=>S.elim⟩,i6.refl _ _⟩
  .rw[y1,z1];exact u6.nil
  .rw[y2,z2];exact u6.nil
  .rw[z3];exact u6.nil
  .rw[y4,U];exact u6.nil
  .rw[z1,z2,z3,U]at hw;have:w=nS:=by simpa using hw
   rw[this]at S;exact B8 b S
 .exact⟨w1,w2,w3,w4,us,O,by rw[y],a7.keep (fun _ _=>rfl) (fun _ h=>h) a7.lt lR,(hS.trans a9).ret b3⟩
def S3:List (NmQ×List ByteArray)->EvD->List EvD
 |[],e=>[e]
 |x::r,e=>S3 r e++(Q4 x.2).flatMap fun v=>S3 r (atV x.1 e v)
theorem En(l:List ByteArray):Q4 l=l++[frS l eB [eB]]:=by
 have u:∀n,eB++dg n=dg n:=fun n=>by
  have y:=ct eB (dg n);exact rl (by rw[y];rfl)
 have z:frN l eB=T8 l:=by unfold frN T8;simp only[u]
 rw[Q4,frS,List.find?_cons];cases h:T7 l eB with
 |true=>simp [z,u]
 |false=>simp
structure vW(H:d8)(G:Nat->Prop)(pw pf:Nat)(fv:Value)(s:SpD)(w1 w2 w3 w4:Value):Prop where
 gw:H.get pw=cE [w1,w2,w3,w4] 1
 gf:H.get pf=cE [fv] 1
 iw:G pw
 jf:G pf
 a:SlF H G 2 (w9 nmE) w2 s.attrs
 v:SlF H G 1 (VlF H G) w3 s.vals
 len:s.vals.length=s.attrs.length
 al:s.attrs.length<=1000
 vl:∀x∈s.vals,x.length<=90
theorem vW.mono{H H':d8}{G G':Nat->Prop}{D z:Nat}{E:Value}{s:SpD}{w1 w2 w3 w4:Value}(h:vW H G D z E s w1 w2 w3 w4)(y:∀j,G j->H'.get j=H.get j) (u:∀j,G j->G' j):vW H' G' D z E s w1 w2 w3 w4:=
 ⟨(y D h.iw).trans h.gw,(y z h.jf).trans h.gf,u _ h.iw,u _ h.jf,h.a.mono y u iF,h.v.mono y u (fun _ _ h=>h.mono y u),h.len,h.al,h.vl⟩
structure fy(H:d8)(po:Nat)(G:Nat->Prop)(w:Value)(l:List EvD):Prop where
 g:H.get po=cE [w] 1
 own:u6 H (po+1) 5 (EvF H G) w l
 ap:∀j,G j->j<H.next/\j≠po/\¬l7 w j
structure dH(po:Nat)(G0:Nat->Prop)(w0:Value)(H0:d8)(G:Nat->Prop)(w:Value)(H:d8):Prop where
 sub:∀j,G0 j->G j
 new:∀j,G j->G0 j\/H0.next<=j
 but:∀j,j<H0.next->j≠po->¬l7 w0 j->H.get j=H0.get j
 neww:∀b,l7 w b->l7 w0 b\/H0.next<=b
 stay:i6 po H0 H
theorem dH.refl(po:Nat)(G:Nat->Prop)(w:Value)(H:d8):dH po G w H G w H:=⟨fun _ h=>h,fun _ h=> .inl h,fun _ _ _ _=>rfl,fun _ h=> .inl h,i6.refl _ _⟩
theorem dH.trans{po:Nat}{y G1 G2:Nat->Prop}{w0 w1 w2:Value}{H0 z H2:d8}(h:dH po y w0 H0 G1 w1 z)(k:dH po G1 w1 z G2 w2 H2):dH po y w0 H0 G2 w2 H2:=by
 have J:=h.stay.next;refine⟨fun j u=>k.sub j (h.sub j u),fun j u=>?_,fun j u D E=>?_,fun b I=>?_,h.stay.trans k.stay⟩
 .rcases k.new j u with q|q
  .exact h.new j q
  .exact .inr oM
 .rw[k.but j oM D (fun q=>by rcases h.neww j q with r|r;exact E r;omega),h.but j u D E]
 .rcases k.neww b I with q|q
  .exact h.neww b q
  .exact .inr oM
theorem fy.push{H z:d8}{po:Nat}{G G1:Nat->Prop}{w:Value}{l:List EvD}(h:fy H po G w l)(y:i6 H.next H z)(E:∀j,G j->G1 j) (I:∀j,G1 j->G j\/(H.next<=j/\j<z.next)):fy z po G1 w l/\dH po G w H G1 w z:=by
 have O:=y.next;have D:=u7 h.g;refine⟨⟨(y.get po D).trans h.g,(h.own.keep y).imp fun cs a q=>y9 _ _ _ _ _ _ q (fun j u=>y.get j (h.ap j u).1) E,fun j u=>?_⟩,E,fun j u=>(I j u).imp id fun q=>q.1,fun j u _ _=>y.get j u,fun b J=> .inl J,y.weaken oM⟩;rcases I j u with q|q
 .have:=h.ap j q;exact⟨oM,this.2⟩
 .exact⟨q.2,oM,fun r=>by have:=h.own.lt r;omega⟩
theorem fy.add{H:d8}{po:Nat}{G:Nat->Prop}{w:Value}{l:List EvD}(h:fy H po G w l){u:LV}{e:EvD}(U:EvF H G u e)(hl:l.length<=1000000):
  ∃v' E H',C2 prog (H.push (bC u 5)) [35,35] w (sL H.next 1 1)=dL v' E/\E.getD (H.push (bC u 5))=H'/\H'.get po=cE [w] 1/\(∃a c,v'= .slice a (l++[e]).length c)/\
   fy (H'.put po (bC [v'] 1)) po G v' (l++[e])/\dH po G w H G v' (H'.put po (bC [v'] 1)):=by
 have J:=u7 h.g;have D:u.length=5:=by obtain⟨v,rfl,_⟩:=U;rfl
 obtain⟨v',E,H',r1,r2,I,y⟩:=h.own.push1F (P:=prog) (t:=35) (cs:=u) (a:=e) (by exact lQ.2.2.2.2.2.2) S9.1 S9.2.1 S9.2.2.1 oM oM D U oM oM;have hn:=y.next;have nb:¬l7 w po:=fun q=>oN (h.own.lt q);have W:=(y.but po J nb).trans h.g;have nv:¬l7 v' po:=fun q=>oN (I.lt q);have O:∀j,j<H.next->j≠po->¬l7 w j->(H'.put po (bC [v'] 1)).get j=H.get j:=fun j z X h2=>by rw[j6 (fun q=>X q.symm),y.but j z h2]
 refine⟨v',E,H',r1,r2,W,I.slice,⟨j5 oM,(I.same fun b S=>j6 (fun q=>by rw[<-q]at S;exact nv S)).imp fun cs a q=>y9 _ _ _ _ _ _ q (fun j z=>by have:=h.ap j z;exact O j this.1 this.2.1 this.2.2) (fun _ h=>h),fun j z=>?_⟩,fun _ h=>h,fun _ h=> .inl h,O,y.new,(y.stay.weaken oM).trans (i6.put lR)⟩;have:=h.ap j z;refine⟨by rw[t5];omega,this.2.1,fun q=>?_⟩;rcases y.new j q with r|r
 .exact this.2.2 r
 .omega
abbrev Bm(pw po pf:Nat):Value:= .func (.func 54) #[] #[pT pw,pT po,pT pf]
def mm(rest:List (NmQ×List ByteArray)):Prop:=∀(H:d8)(pw po pf i:Nat)(G:Nat->Prop)(s:SpD)(w1 w2 w3 w4 w:Value)(l:List EvD)(row:LV)(e:EvD),
 vW H G pw pf (Bm pw po pf) s w1 w2 w3 w4->fy H po G w l->EvF H G row e->(s.attrs.zip s.vals).drop i=rest->i+rest.length=s.attrs.length->l.length+(S3 rest e).length<=1000000->e.attrs.length+rest.length<=1000->
 Ret (CL prog t6 54 [.agg row.toArray,iV i,pT pw,pT po,pT pf] H) H fun v H1=>v=undef/\∃G' w',fy H1 po G' w' (l++S3 rest e)/\dH po G w H G' w' H1/\H1.low<=po
theorem tz{H y H':d8}{po:Nat}{G G1:Nat->Prop}{w z:Value}{l:List EvD}(W:po<H.next)(hw:∀b,l7 w b->po+1<=b/\b<H.next) (O:i6 H.next H y) (E:dH po G w H G1 w y) {G':Nat->Prop} (D:fy H' po G' z l) (S:dH po G1 w y G' z H') (J:H'.low<=po) (I:H.next<=y.low):
  Ret (some (D6 undef H H')) H fun v y=>v=undef/\∃G' z,fy y po G' z l/\dH po G w H G' z y/\y.low<=po:=by
 refine E1 (fun _ X=>oM) ⟨rfl,G',z,⟨D.g,D.own.low _ |>.imp fun cs a q=>y9 _ _ _ _ _ _ q (fun _ _=>rfl) (fun _ h=>h),D.ap⟩,?_,by show min H.low H'.low<=po;omega⟩;have u:=E.trans S;refine⟨u.sub,u.new,u.but,u.neww,⟨u.stay.next,fun k U q=>?_,u.stay.get⟩⟩;have:=u.stay.lowAll k U q;show k<=min H.low H'.low;omega
theorem MS:mm []:=by
 intro H pw po pf i G s w1 w2 w3 w4 w l u e hC J he hd hi hl b4;have b0:=u7 J.g;have a8:=he;obtain⟨av,y,a6⟩:=a8;obtain⟨b2,b3,rfl⟩:=a6.slice;obtain⟨aa,ac,rfl⟩:=hC.a.slice;have ar:u.all oC=true:=by rw[y];rfl
 have lr:u.length=5:=by rw[y];rfl
 have b1:ldC (some true) (some 5) 0 u=some (.agg u.toArray):=by rw[y];rfl
 obtain⟨D,E,n1,g1,X⟩:=pushF H (bC u 1);have W:H.next<=D.low:=by rw[E];exact lR
 obtain⟨O,a5⟩:=J.push (G1:=G) X (fun _ h=>h) (fun _ h=> .inl h);have a4:=hC.mono (H':=D) (fun j hj=>X.get j (J.ap j hj).1) (fun _ h=>h);have a7:=y9 _ _ _ _ _ _ he (fun j hj=>X.get j (J.ap j hj).1) (fun _ h=>h);obtain⟨v',h',H3,r1,r2,g3,⟨a',c',e'⟩,S,U⟩:=O.add a7 (by rw[S3]at hl;simp at hl;omega);obtain⟨H2,I⟩:=eY (D.push (bC u 5));rw[<-I]at r1 r2;have a1:bsA prog (some 51) D 1 [(0,.agg u.toArray)]=some (sL D.next 1 1,H2):=by
  rw[I];simp only[C7,S9,C8];rw[y];rfl
 obtain⟨H4,z⟩:=eY (H3.put po (bC [v'] 1));rw[<-z]at S U;have cu:v'.cells.toList=[v']:=by rw[e'];rfl
 have ou:Value.oneCell' v'=true:=by rw[e'];rfl
 have a9:H4.low<=po:=by rw[z,A4];omega
 have bi:decide ((i:Int)=s.attrs.length)=true:=decide_eq_true (by simp at hi;omega);have a3:=a4.gw;have a2:=O.g;have q1:∀a b c d:Value,[a,b,c,d][1]?=some b:=fun _ _ _ _=>rfl;rw[j7 KT rfl _ sM];refine J15 ar E.symm a3 q1 bi g1 b1 a2 a1 r1 r2 g3 cu ou z.symm ?_;exact tz b0 (fun b hb=>J.own.lt hb) X a5 S U a9 W
theorem EH(n:NmQ)(l4:List ByteArray)(rest:List (NmQ×List ByteArray))(ih:mm rest)(H0:d8)(pw po pf pe i:Nat)(E:Nat->Prop)(s:SpD)(w1 w2 w3 w4 w0:Value)(u:LV)(e0:EvD)(va:Option Addr)(ca:Nat)(I:List ByteArray)
  (D:vW H0 E pw pf (Bm pw po pf) s w1 w2 w3 w4) (c9:∀j,E j->j<H0.next/\j≠po/\¬l7 w0 j) (k9:po<H0.next) (he:EvF H0 E u e0) (d6:E pe) (g5:H0.get pe=cE u 1) (hv:SlF H0 E 1 (w9 stE) (.slice va I.length ca) I) (l3:I.length<=1000) (l1:1<=I.length)
  (hd:(s.attrs.zip s.vals).drop (i+1)=rest) (hi:i+1+rest.length=s.attrs.length) (hn:s.attrs[i]?=some n) (k1:e0.attrs.length+1+rest.length<=1000) (a4:List EvD):
  ∀kk e H2,(∃(j:Nat)(G:Nat->Prop)(w:Value)(l:List EvD),kk=I.length-j/\j<=I.length/\e.get 1=iV i/\e.get 2=pT pw/\e.get 4=pT pf/\e.get 5=pT pe/\e.get 40= .slice va I.length ca/\e.get 41=iV I.length/\e.get 42=iV j/\
    fy H2 po G w l/\dH po E w0 H0 G w H2/\(j=0\/H2.low<=po)/\l++((I.drop j).flatMap fun v=>S3 rest (atV n e0 v))=a4/\a4.length<=1000000)->
  w7 (LE prog t6 (.loop NH) e H2) (fun o e H2=>o= .exit 0/\∃(G:Nat->Prop)(w:Value),fy H2 po G w a4/\dH po E w0 H0 G w H2/\H2.low<=po):=by
 refine i8 _ _ ?_;rintro kk e H2 ⟨j,G,w,l,k6,z,f1,f2,f4,f5,b5,a7,b6,hO,hT,k8,fu,d7⟩;rcases b:decide ((j:Int)<I.length)with _|_
 .have g0:=dF b;have:I.drop j=[]:=dN oM;rw[this,List.flatMap_nil,List.append_nil]at fu;refine J3 a7 b6 b ?_;exact i9 ⟨rfl,G,w,by rw[<-fu];exact hO,hT,oM⟩
 have g0:=dT b;have fr:∀j,E j->H2.get j=H0.get j:=fun j z=>by have:=c9 j z;exact hT.but j this.1 this.2.1 this.2.2
 have nx:=hT.stay.next;obtain⟨v,nb,o,cs,own,j2,hx,g1,rfl,hF,hg,k7,i2,hc,rfl⟩:=hv.row (i:=j) oM;have c0:=hc 0 oM;rw[Nat.add_zero]at c0;have h2:(j:Int).toNat=j:=tN j;rw[g1,List.flatMap_cons,<-List.append_assoc]at fu;have gv:=(fr nb hF).trans hg;have j4:=D.mono fr hT.sub;obtain⟨av,U,d0⟩:=y9 _ _ _ _ _ _ he fr hT.sub;obtain⟨b2,b3,rfl⟩:=d0.slice;have i1:po<H2.next:=oM;have ar:u.all oC=true:=by rw[U];rfl
 have lr:u.length=5:=by rw[U];rfl
 have h0:ldC (some true) (some 5) 0 u=some (.agg u.toArray):=by rw[U];rfl
 have r3:u[3]?=some (.slice b2 e0.attrs.length b3):=by rw[U];rfl
 have b9:=(fr pe d6).trans g5;obtain⟨Ha,c7,na,g4,-⟩:=pushE H2 (bC [iV 0,.string eB,.string eB,nS,.string eB] 1);obtain⟨X,a2⟩:=eY (Ha.put H2.next (bC u 1));have n3:X.next=H2.next+1:=by rw[a2,t5,na]
 have s3:i6 H2.next H2 X:=by rw[a2,c7];exact(i6.push lR).trans (i6.put lR)
 have g3:X.get H2.next=cE u 1:=by rw[a2];exact j5 oM
 have h3:splice [iV 0,.string eB,.string eB,nS,.string eB] 0 u=u:=x9 _ _ (by rw[lr];rfl);have b0:∀j,E j->j<H2.next:=fun j z=>oN (c9 j z);have a1:∀j,E j->X.get j=H2.get j:=fun j z=>s3.get j (b0 j z);have e4:=(a1 pe d6).trans b9;have c4:=(a1 pw D.iw).trans ((fr pw D.iw).trans D.gw);have j3:=(a1 pf D.jf).trans ((fr pf D.jf).trans D.gf);obtain⟨cv,k3,H4,d1,d3,f3,s4⟩:=zk (α:=AtD) (w9 atE) X X.next (.slice b2 e0.attrs.length b3) e0.attrs lR ((d0.mono (H':=X) (F':=(· <X.next)) (fun j z=>by have:=hO.ap j z;exact s3.get j this.1) (fun j z=>by have:=hO.ap j z;omega) iF).sl fun _ h=>h) oM;have n4:=s4.next;have b7:∀j,E j->H4.get j=X.get j:=fun j z=>s4.get j (oN (b0 j z));obtain⟨aa,ac,e2⟩:=D.a.slice;obtain⟨nn,b1,oa,j0,i3,j1,g9,k4,e3,a8,d4,h7,a9,k2,rfl⟩:=(e2▸D.a).row (i:=i) (by have:=(gS hn).1;exact this);obtain rfl:n=nn:=Option.some.inj (hn.symm.trans g9);have c3:=(a1 b1 a8).trans ((fr b1 a8).trans d4);have e7:=(b7 b1 a8).trans c3;have e8:=(b7 pw D.iw).trans c4;have h1:(i:Int).toNat=i:=tN i;have k5:(i:Int)<s.attrs.length:=oN ((gS hn).1);obtain⟨H5,c5⟩:=eY (H4.push (bC [.string n.1,.string n.2,.string v] 3));obtain⟨W,h6,H6,c8,a5,a3,s6⟩:=f3.push1 (P:=prog) (t:=49) (by exact CF.2.2.2.2.2.2) jQ.1 jQ.2.1 jQ.2.2.1 oM oM (cs:=[.string n.1,.string n.2,.string v]) (a:=(⟨n.1,n.2,v⟩:AtD)) rfl rfl oM oM;rw[<-c5]at c8 a5;have n6:=s6.next;obtain⟨a6,c6,e6⟩:=a3.slice;have cu:W.cells.toList=[W]:=by rw[e6];rfl
 have ou:Value.oneCell' W=true:=by rw[e6];rfl
 have e9:H6.get H2.next=cE u 1:=by rw[s6.get _ oM,s4.get _ oM];exact g3
 obtain⟨y,S⟩:=eY (u.set 3 W);have J:y=[iV e0.kind,.string e0.space,.string e0.loc,W,.string e0.text]:=by rw[S,U];rfl
 have h4:splice u 3 [W]=y:=by rw[S];rfl
 obtain⟨H7,O⟩:=eY (H6.put H2.next (bC y 1));have n7:H7.next=H6.next:=by rw[O,t5]
 have g7:H7.get H2.next=cE y 1:=by rw[O];exact j5 oM
 have d9:ldC (some true) (some 5) 0 y=some (.agg y.toArray):=by rw[J];rfl
 have e1:i6 H2.next H2 H7:=by rw[O];exact((s3.trans (s4.weaken oM)).trans (s6.weaken oM)).trans (i6.put lR)
 obtain⟨f6,f8⟩:=hO.push (G1:=fun j=>G j\/l7 W j) e1 (fun _ h=> .inl h) (fun j z=>z.imp id fun q=>by have:=a3.lt q;omega);have g2:EvF H7 (fun j=>G j\/l7 W j) y (atV n e0 v):=⟨W,J,(a3.same (H':=H7) fun b hb=>by rw[O];exact j6 (fun q=>by have:=a3.lt hb;omega)).frz fun b hb=> .inr hb⟩
 have b8:∀j,E j->H7.get j=H2.get j:=fun j z=>e1.get j (b0 j z);have f0:=D.mono (H':=H7) (G':=fun j=>G j\/l7 W j) (fun j z=>(b8 j z).trans (fr j z)) (fun j z=> .inl (hT.sub j z));have e5:=(b8 pf D.jf).trans ((fr pf D.jf).trans D.gf);have h5:(atV n e0 v).attrs.length=e0.attrs.length+1:=by simp [atV]
 have h9:l.length+(S3 rest (atV n e0 v)).length+((I.drop (j+1)).flatMap fun v=>S3 rest (atV n e0 v)).length=a4.length:=by rw[<-fu,List.length_append,List.length_append]
 obtain⟨vv,h8,H8,d2,d5,rfl,G8,w8,f7,f9,g8⟩:=ih H7 pw po pf (i+1) _ s w1 w2 w3 w4 w l y (atV n e0 v) f0 f6 g2 hd hi oM oM;have g6:((i:Int)+1)=((i+1:Nat):Int):=oM;have q1:∀a b c d:Value,[a,b,c,d][1]?=some b:=fun _ _ _ _=>rfl;have i0:(0:Int)<=i:=oM;have b4:bsA prog (some 53) H4 1 [(0,.agg #[.string n.1,.string n.2,.string v])]=some (sL H4.next 1 1,H5):=by
  rw[c5];simp only[C7,jQ,C8];rfl
 have k0:=D.al;subst e3;refine J30 f1 f2 f4 f5 b5 a7 b6 b gv h2 c0 b9 h0 c7.symm (aI g4 lr) (aI ar h3) (aI a2.symm r3) (aI e4 c4) (aI d1 d3) (aI e8 q1) (aI e2 h1) (aI c3 e7) (aI a9 b4) (aI c8 a5) (aI e9 cu) (aI ou h4) (aI O.symm g7) (aI d9 e5) (aI g6 d2) (aI d5 @wrap_small) ?_;exact i4 (kk-1) oM ⟨j+1,G8,w8,_,oM,oM,f1,f2,f4,f5,b5,a7,rfl,f7,(hT.trans f8).trans f9,.inr g8,fu,d7⟩
theorem MM{α β:Type}:∀(a:List α)(b:List β)(i:Nat)(x:α×β)(r:List (α×β)),(a.zip b).drop i=x::r->a[i]?=some x.1/\b[i]?=some x.2/\(a.zip b).drop (i+1)=r:=by
 intro a b i x r h;have u:i<(a.zip b).length:=by
  apply Classical.byContradiction;intro q;rw[dN oM]at h;cases h
 rw[List.drop_eq_getElem_cons u]at h
 injection h with h1 h2
 rw[List.length_zip]at u;rw[List.getElem_zip]at h1;refine⟨?_,?_,h2⟩
 .rw[List.getElem?_eq_getElem oM,<-h1]
 .rw[List.getElem?_eq_getElem oM,<-h1]
theorem MT(x:NmQ×List ByteArray)(r:List (NmQ×List ByteArray))(ih:mm r):mm (x::r):=by
 intro H pw po pf i G s w1 w2 w3 w4 w l I e hC hO he hd hi hl e1;obtain⟨hn,c4,b3⟩:=MM _ _ _ _ _ hd;rw[List.length_cons]at hi e1;have g5:=hC.al;have h1:=hC.len;have h4:=hC.vl _ (mG c4);have f5:=u7 hO.g;have f0:=he;obtain⟨av,S,e2⟩:=f0;obtain⟨g0,g3,rfl⟩:=e2.slice;obtain⟨aa,ac,ea⟩:=hC.a.slice;have ar:I.all oC=true:=by rw[S];rfl
 have lr:I.length=5:=by rw[S];rfl
 have f6:ldC (some true) (some 5) 0 I=some (.agg I.toArray):=by rw[S];rfl
 obtain⟨H1,a9,n1,g1,hS⟩:=pushF H (bC I 1);have b9:H.next<=H1.low:=by rw[a9];exact lR
 obtain⟨b1,d5⟩:=hO.push (G1:=fun j=>G j\/j=H.next) hS (fun _ h=> .inl h) (fun j h=>h.imp id fun q=>oM);have a5:∀j,G j->H1.get j=H.get j:=fun j E=>hS.get j (hO.ap j E).1;have U:=hC.mono (H':=H1) (G':=fun j=>G j\/j=H.next) a5 (fun _ h=> .inl h);have b4:=y9 _ _ _ _ _ _ he a5 (fun j E=>(.inl E:G j\/j=H.next));have f8:(S3 (x::r) e).length=(S3 r e).length+((Q4 x.2).flatMap fun v=>S3 r (atV x.1 e v)).length:=by rw[S3,List.length_append]
 obtain⟨_,h2,H2,e5,f2,rfl,G2,u2,O,D,g9⟩:=ih H1 pw po pf (i+1) _ s w1 w2 w3 w4 w l I e U b1 b4 b3 oM oM oM;have n2:=D.stay.next;have a1:∀j,(G j\/j=H.next)->H2.get j=H1.get j:=fun j E=>by have:=b1.ap j E;exact D.but j this.1 this.2.1 this.2.2
 have J:=U.mono (H':=H2) (G':=G2) a1 D.sub;have e8:=y9 _ _ _ _ _ _ b4 a1 D.sub;have g2:=(a1 H.next (.inr rfl)).trans g1;obtain⟨a3,c3,e3⟩:=J.v.slice;obtain⟨y,nb,o,cs,own,g4,hx,g8,c6,hF,hg,h0,h3,e6,u,rfl,hu⟩:=(e3▸J.v).row (i:=i) oM;obtain rfl:x.2=y:=Option.some.inj (c4.symm.trans hx);have c0:=e6 0 oM;rw[Nat.add_zero]at c0;have uF:SlI H2 H2.next 1 (w9 stE) u x.2:=hu.sl fun j E=>(O.ap j E).1;obtain⟨cv,g7,H3,b2,b7,d2,s3⟩:=GN (α:=ByteArray) (w9 stE) H2 H2.next u x.2 lR uF oM;have n3:=s3.next;obtain⟨H4,b0,n4,-,s4⟩:=pushE H3 (bC [.string eB] 1);have d3:u6 H4 H3.next 1 (w9 stE) (sL H3.next 1 1) [eB]:=by rw[b0];exact u6.fresh rfl lR (D2.one rfl rfl)
 obtain⟨fs,b5⟩:=eY (frS x.2 eB [eB]);have hf:=fresh H4 H2.next u (sL H3.next 1 1) x.2 eB [eB] oM (uF.mono (fun j E=>by rw[s4.get j oM,s3.get j E]) lR iF) d3.sl oM (by decide) (by decide);rw[<-b5]at hf;obtain⟨v7,h7,H6,d9,b8,W,s6⟩:=(d2.keep s4).push1 (P:=prog) (t:=97) (by exact bU.2.2.2.2.2.2) ty9.1 ty9.2.1 ty9.2.2.1 oM oM (cs:=[.string fs]) (a:=fs) rfl rfl oM oM;have n6:=s6.next;rw[show x.2++[fs]=Q4 x.2 by rw[En,b5]]at W;have c5:i6 H2.next H2 H6:=(s3.trans (s4.weaken n3)).trans (s6.weaken oM);obtain⟨X,d6⟩:=O.push (G1:=fun j=>G2 j\/l7 v7 j) c5 (fun _ h=> .inl h) (fun j E=>E.imp id fun q=>by have:=W.lt q;omega);have a2:∀j,G2 j->H6.get j=H2.get j:=fun j E=>c5.get j (O.ap j E).1;have d1:=J.mono (H':=H6) (G':=fun j=>G2 j\/l7 v7 j) a2 (fun _ h=> .inl h);have e9:=y9 _ _ _ _ _ _ e8 a2 (fun j E=>(.inl E:G2 j\/l7 v7 j));have g6:=(a2 H.next (D.sub _ (.inr rfl))).trans g2;obtain⟨a7,c7,e7⟩:=W.slice;have f9:(Q4 x.2).length=x.2.length+1:=by rw[Q4];simp
 have c9:=U.gw;have c8:=U.gf;have a6:=J.gw;have a8:H3.get pw=cE [w1,w2,w3,w4] 1:=(s3.get pw (O.ap pw J.iw).1).trans a6;have d0:H4.get pw=cE [w1,w2,w3,w4] 1:=(s4.get pw (oN ((O.ap pw J.iw).1))).trans a8;have e4:=(O.ap nb hF).1;have b6:=(s3.get nb e4).trans hg;have f1:=(s4.get nb oM).trans b6;have q1:∀a b c d:Value,[a,b,c,d][1]?=some b:=fun _ _ _ _=>rfl;have q2:∀a b c d:Value,[a,b,c,d][2]?=some c:=fun _ _ _ _=>rfl;have i0:(0:Int)<=i:=oM;have il:(i:Int)<s.vals.length:=oM;have f7:(i:Int).toNat=i:=tN i;have bi:decide ((i:Int)=s.attrs.length)=false:=decide_eq_false oM;have f3:((i:Int)+1)=((i+1:Nat):Int):=oM;have a4:∀Hx:d8,D7 prog .len [97] [v7] Hx=some (.int .i64 ((Q4 x.2).length:Int),none):=fun Hx=>by
  rw[e7];exact J1 bU trivial
 subst c6;rw[j7 KT rfl _ sM];refine J30 ar a9.symm c9 q1 q2 ea e3 bi g1 f6 c8 f3 e5 f2 a6 f7 hg c0 b2 b7 a8 b6 b0.symm d0 f1 hf d9 b8 a4 @wrap_small ?_;refine j8 (F:=fun z=>Ret (u5 _ _ _ (inBlock 0 z)) _ _) (EH x.1 x.2 r ih H6 pw po pf H.next i (fun j=>G2 j\/l7 v7 j) s w1 w2 w3 w4 u2 I e a7 c7 (Q4 x.2) d1 X.ap oM e9 (.inl (D.sub _ (.inr rfl))) g6 (by rw[<-e7];exact W.frz fun b hb=> .inr hb) oM oM b3 oM hn oM (l++S3 (x::r) e) (Q4 x.2).length _ _ ⟨0,_,u2,l++S3 r e,rfl,oM,rfl,rfl,rfl,rfl,e7,rfl,rfl,X,dH.refl _ _ _ _,(.inl rfl),by rw[List.drop_zero,S3,List.append_assoc],by rw[List.length_append];omega⟩) ?_;rintro o e' H8 ⟨ho,G8,w8,d4,d7,f4⟩;refine J1 ho ?_;exact tz f5 (fun b hb=>hO.own.lt hb) hS d5 d4 ((D.trans d6).trans d7) f4 b9
theorem tw:∀r,mm r
 |[]=>MS
 |x::r=>MT x r (tw r)
def Q9:List (List ByteArray)->Nat
 |[]=>1
 |v::r=>(v.length+2)*Q9 r
theorem cI:∀r,1<=Q9 r
 |[]=>Nat.le_refl 1
 |v::r=>Nat.mul_pos oM (cI r)
theorem fQ{α β:Type}(f:α->List β)(k:Nat)(l:List α)(h:∀x∈l,(f x).length=k):(l.flatMap f).length=l.length*k:=by
 induction l with
 |nil=>simp
 |cons x l z=>rw[List.flatMap_cons,List.length_append,h x sM,z (fun y u=>h y (by simp [u])),List.length_cons,Nat.add_mul];omega
theorem qW(v:List ByteArray):(Q4 v).length=v.length+1:=by rw[Q4];simp
theorem jj:∀(r:List (NmQ×List ByteArray))(e:EvD),(S3 r e).length=Q9 (r.map (·.2))
 |[],e=>rfl
 |x::r,e=>by
  rw[S3,List.length_append,jj r e,fQ _ _ _ (fun v _=>jj r (atV x.1 e v)),qW,List.map_cons,Q9];rw[Nat.add_mul,Nat.add_mul,Nat.one_mul];omega
theorem Bc(x:NmQ×List ByteArray)(r:List (NmQ×List ByteArray))(l:List EvD):(bM x.1 (Q4 x.2) l).flatMap (S3 r)=l.flatMap (S3 (x::r)):=by
 induction l with
 |nil=>rfl
 |cons e l h=>
  rw[bM]at h ⊢;rw[List.flatMap_cons,List.flatMap_append,h,List.flatMap_cons]
  congr 1
  rw[uW,List.flatMap_cons,S3,List.flatMap_map]
theorem pZ:∀(r:List (NmQ×List ByteArray))(l:List EvD),l.length<=24->eH r l=if l.length*Q9 (r.map (·.2))>24 then none else some (l.flatMap (S3 r))
 |[],l,h=>by
  rw[eH,List.map_nil,Q9,Nat.mul_one,if_neg oM]
  congr 1
  have:(S3 []:EvD->List EvD)=fun e=>[e]:=by funext e;rfl
  rw[this];simp
 |x::r,l,h=>by
  rw[eH,List.map_cons,Q9,<-Nat.mul_assoc];have u:(bM x.1 (Q4 x.2) l).length=l.length*(x.2.length+2):=by rw[ko,qW]
  have y:=cI (r.map (·.2));by_cases z:l.length*(x.2.length+2)>24
  .rw[if_pos oM,if_pos (oN (Nat.mul_le_mul_left (l.length*(x.2.length+2)) y))]
  .rw[if_neg oM,pZ r _ oM,u,Bc]
def js(s:SpD):List EvD:=(s.names++[zNm (Q6 s.names)]).flatMap (fun n=>S3 (s.attrs.zip s.vals) (X5 n))++(s.texts++[dg (T8 s.texts)]).map dp
theorem qE(s:SpD)(P:Nat)(z:Q9 ((s.attrs.zip s.vals).map (·.2))=P):∀(y:List NmQ)(u:List EvD),fb s y u=if P>24 then(if y=[] then some u else none) else some (u++y.flatMap fun n=>S3 (s.attrs.zip s.vals) (X5 n))
 |[],u=>by rw[fb,if_pos rfl,List.flatMap_nil,List.append_nil];split<;>rfl
 |n::r,u=>by
  rw[fb,pZ _ _ sM,z];simp only[List.length_singleton,Nat.one_mul];by_cases h:P>24
  .rw[if_pos h,if_pos h,if_neg sM]
  .rw[if_neg h,if_neg h];simp only;rw[qE s P z r,if_neg h];simp
theorem lT:∀(u:List (List ByteArray))(n:Nat),(n*Q9 u<=24->rF u n=(n*Q9 u:Nat))/\(24<n*Q9 u->24<rF u n)
 |[],n=>by rw[Q9,Nat.mul_one,rF];exact⟨fun _=>rfl,fun h=>oM⟩
 |v::u,n=>by
  rw[Q9,rF,<-Nat.mul_assoc];have y:=cI u;have e:(n:Int)*((v.length:Int)+2)=((n*(v.length+2):Nat):Int):=sM;rw[e];have E:=Nat.mul_le_mul_left (n*(v.length+2)) y;obtain⟨z,D⟩:=lT u (n*(v.length+2));by_cases I:n*(v.length+2)<=25
  .have:min ((n*(v.length+2):Nat):Int) 25=((n*(v.length+2):Nat):Int):=oM;rw[this];exact⟨z,D⟩
  .have:min ((n*(v.length+2):Nat):Int) 25=((25:Nat):Int):=oM;rw[this];exact⟨fun q=>oM,fun _=>(lT u 25).2 oM⟩
theorem iC(s:SpD)(W:s.vals.length=s.attrs.length):V4 s=if 24<mK s then none else some (js s):=by
 have E:(s.attrs.zip s.vals).map (·.2)=s.vals:=List.map_snd_zip oM;obtain⟨P,u⟩:=eY (Q9 s.vals);have y:=qE s P (by rw[E,u]) (s.names++[zNm (Q6 s.names)]) [];obtain⟨c1,c2⟩:=lT s.vals (s.names.length+1);rw[<-u]at c1 c2;have I:((s.names.length+1:Nat):Int)=(s.names.length:Int)+1:=oM;rw[I]at c1 c2;have U:=cI s.vals;rw[<-u]at U;have S:P<=(s.names.length+1)*P:=by rw[Nat.add_mul];omega
 rw[V4,y];by_cases z:P>24
 .rw[if_pos z,if_neg sM];have:=c2 oM;rw[if_pos (by unfold mK;omega)]
 .rw[if_neg z];have h:((s.names++[zNm (Q6 s.names)]).flatMap (fun n=>S3 (s.attrs.zip s.vals) (X5 n))).length=(s.names.length+1)*P:=by
   rw[fQ _ P _ (fun n _=>by rw[jj,E,u])];simp
  simp only[List.nil_append,List.length_append,List.length_map,List.length_singleton,h];by_cases O:(s.names.length+1)*P<=24
  .have:=c1 O;have J:mK s=(((s.names.length+1)*P+(s.texts.length+1):Nat):Int):=by unfold mK;rw[this];omega
   rw[J];by_cases D:(s.names.length+1)*P+(s.texts.length+1)>24
   .rw[if_pos D,if_pos oM]
   .rw[if_neg D,if_neg oM];rfl
  .have:=c2 oM;rw[if_pos oM,if_pos (by unfold mK;omega)]
theorem SpO.vals{H:d8}{lo:Nat}{O:Nat->Prop}{s:SpD}{w1 w2 w3 w4:Value}{us:LV}(h:SpO H lo O s w1 w2 w3 w4 us){G:Nat->Prop}(y:∀w∈w3::us,∀b,l7 w b->G b):SlF H G 1 (VlF H G) w3 s.vals:=by
 obtain⟨cs,S,X⟩:=h.v;have e:=JC X;subst e;have E:=h.len;rcases S with⟨J,h2,_⟩|⟨b,c,rfl,W,_,_⟩
 .exact .inl ⟨J,List.length_eq_zero_iff.1 oM⟩
 .refine .inr ⟨b,0,c,by rw[E],.inr ⟨cs,true,y (sL b cs.length c) (List.mem_cons_self ..) b ⟨_,_,rfl⟩,W,oM,fun i a z=>?_⟩⟩;have D:i<cs.length:=by rw[E];exact(gS z).1
  have I:cs[i]?=some cs[i]:=List.getElem?_eq_getElem D;refine⟨cs[i],?_,(h.u i _ a I z).frz fun b U=>y _ (by simp [mG I]) b U⟩;rw[Nat.zero_add,Nat.mul_one,List.drop_eq_getElem_cons D];rfl
theorem SpO.spr{H:d8}{lo:Nat}{O:Nat->Prop}{s:SpD}{w1 w2 w3 w4:Value}{us:LV}(h:SpO H lo O s w1 w2 w3 w4 us):SpR H H.next [w1,w2,w3,w4] s:=
 ⟨w1,w2,w3,w4,rfl,h.n.sl,h.a.sl,h.vals fun w u b y=>(h.lt b (h.o w (by simp only[List.mem_cons]at u ⊢;rcases u with q|q;exact .inr (.inr (.inl q));exact .inr (.inr (.inr (.inr q)))) b y)).2,h.t.sl⟩
theorem LB(H0:d8)(pw po pf:Nat)(E:Nat->Prop)(s:SpD)(w1 w2 w3 w4 w0:Value)(va:Option Addr)(ca:Nat)(u:List NmQ)(hC:vW H0 E pw pf (Bm pw po pf) s w1 w2 w3 w4)(a2:∀j,E j->j<H0.next/\j≠po/\¬l7 w0 j) (c8:po<H0.next) (hv:SlF H0 E 2 (w9 nmE) (.slice va u.length ca) u) (c7:u.length<=1000) (z:List EvD):
  ∀kk e H2,(∃(j:Nat)(G:Nat->Prop)(w:Value)(l:List EvD),kk=u.length-j/\j<=u.length/\e.get 4=pT pw/\e.get 5=pT po/\e.get 6=pT pf/\e.get 24= .slice va u.length ca/\e.get 25=iV u.length/\e.get 26=iV j/\
    fy H2 po G w l/\dH po E w0 H0 G w H2/\l++((u.drop j).flatMap fun n=>S3 (s.attrs.zip s.vals) (X5 n))=z/\z.length<=1000000)->
  w7 (LE prog t6 (.loop Nh) e H2) (fun o e H2=>o= .exit 0/\e.get 4=pT pw/\e.get 5=pT po/\∃(G:Nat->Prop)(w:Value),fy H2 po G w z/\dH po E w0 H0 G w H2):=by
 refine i8 _ _ ?_;rintro kk e H2 ⟨j,G,w,l,c3,J,f4,f5,f6,S,I,U,hO,hT,W,a4⟩;rcases b:decide ((j:Int)<u.length)with _|_
 .have b1:=dF b;have:u.drop j=[]:=dN oM;rw[this,List.flatMap_nil,List.append_nil]at W;refine J3 I U b ?_;exact i9 ⟨rfl,f4,f5,G,w,by rw[<-W];exact hO,hT⟩
 have b1:=dT b;have fr:∀j,E j->H2.get j=H0.get j:=fun j J=>by have:=a2 j J;exact hT.but j this.1 this.2.1 this.2.2
 have nx:=hT.stay.next;have b6:∀j,E j->j<H2.next:=fun j J=>oN (a2 j J);obtain⟨n,nb,o,cs,own,b9,hx,b2,rfl,hF,hg,c5,a5,hc,rfl⟩:=hv.row (i:=j) oM;have b7:(j:Int).toNat=j:=tN j;rw[b2,List.flatMap_cons,<-List.append_assoc]at W;have gv:=(fr nb hF).trans hg;obtain⟨Ha,a1,na,b4,-⟩:=pushE H2 (bC [.string eB,.string eB] 1);obtain⟨O,y⟩:=eY (Ha.put H2.next (bC (nmE n) 1));have n3:O.next=H2.next+1:=by rw[y,t5,na]
 have s3:i6 H2.next H2 O:=by rw[y,a1];exact(i6.push lR).trans (i6.put lR)
 have g3:O.get H2.next=cE (nmE n) 1:=by rw[y];exact j5 oM
 obtain⟨a7,a9⟩:=hO.push (G1:=G) s3 (fun _ h=>h) (fun j h=> .inl h);have X:=hC.mono (H':=O) (G':=G) (fun j J=>(s3.get j (b6 j J)).trans (fr j J)) hT.sub;have a6:=X.gf;have b3:EvF O G [iV 1,.string n.1,.string n.2,nS,.string eB] (X5 n):=⟨_,rfl,.inl ⟨rfl,rfl⟩⟩
 have c6:=hC.len;have c0:=hC.al;have b8:l.length+(S3 (s.attrs.zip s.vals) (X5 n)).length+((u.drop (j+1)).flatMap fun n=>S3 (s.attrs.zip s.vals) (X5 n)).length=z.length:=by rw[<-W,List.length_append,List.length_append]
 obtain⟨_,h8,H8,D,a3,rfl,G8,w8,a8,b0,c4⟩:=tw (s.attrs.zip s.vals) O pw po pf 0 G s w1 w2 w3 w4 w l _ (X5 n) X a7 b3 rfl (by rw[List.length_zip];omega) oM (by show 0+_<=_;rw[List.length_zip];omega);have b5:ldC (some true) (some 2) 0 (nmE n)=some (.agg (nmE n).toArray):=rfl;have e0:((0:Nat):Int)=0:=rfl;rw[e0]at D;refine J17 f6 S I U b gv b7 a5 a1.symm b4 y.symm g3 b5 a6 D a3 @wrap_small ?_;exact i4 (kk-1) oM ⟨j+1,G8,w8,_,oM,oM,f4,f5,f6,S,I,rfl,a8,(hT.trans a9).trans b0,W,a4⟩
theorem LC(H0:d8)(po:Nat)(z:Nat->Prop)(w0:Value)(va:Option Addr)(ca:Nat)(ts:List ByteArray)(a3:∀j,z j->j<H0.next/\j≠po/\¬l7 w0 j) (b4:po<H0.next) (hv:SlF H0 z 1 (w9 stE) (.slice va ts.length ca) ts) (b3:ts.length<=1000) (u:List EvD):
  ∀kk e H2,(∃(j:Nat)(G:Nat->Prop)(w:Value)(l:List EvD),kk=ts.length-j/\j<=ts.length/\e.get 5=pT po/\e.get 41= .slice va ts.length ca/\e.get 42=iV ts.length/\e.get 43=iV j/\
    fy H2 po G w l/\dH po z w0 H0 G w H2/\l++(ts.drop j).map dp=u/\u.length<=1000000)->
  w7 (LE prog t6 (.loop Ni) e H2) (fun o e H2=>o= .exit 2/\e.get 5=pT po/\∃(G:Nat->Prop)(w:Value),fy H2 po G w u/\dH po z w0 H0 G w H2):=by
 refine i8 _ _ ?_;rintro kk e H2 ⟨j,G,w,l,b1,hj,f5,E,y,I,hO,W,J,O⟩;rcases b:decide ((j:Int)<ts.length)with _|_
 .have a4:=dF b;have:ts.drop j=[]:=dN oM;rw[this,List.map_nil,List.append_nil]at J;refine J3 y I b ?_;exact i9 ⟨rfl,f5,G,w,by rw[<-J];exact hO,W⟩
 have a4:=dT b;have fr:∀j,z j->H2.get j=H0.get j:=fun j hj=>by have:=a3 j hj;exact W.but j this.1 this.2.1 this.2.2
 have nx:=W.stay.next;obtain⟨x,nb,o,cs,own,a9,hx,a5,rfl,hF,hg,b2,a8,hc,rfl⟩:=hv.row (i:=j) oM;have c0:=hc 0 oM;rw[Nat.add_zero]at c0;have a6:(j:Int).toNat=j:=tN j;rw[a5,List.map_cons,List.append_cons]at J;have gv:=(fr nb hF).trans hg;have go:=hO.g;obtain⟨U,S⟩:=eY ([iV 2,.string eB,.string eB,nS,.string x]:LV);have he:EvF H2 G U (dp x):=⟨_,S,.inl ⟨rfl,rfl⟩⟩
 have a7:l.length+1+(ts.drop (j+1)).length=u.length:=by rw[<-J];simp;omega
 obtain⟨v',h',H3,r1,r2,g3,⟨a',c',e'⟩,a1,a2⟩:=hO.add he oM;obtain⟨D,h⟩:=eY (H2.push (bC U 5));rw[<-h]at r1 r2;have b0:D.get po=cE [w] 1:=by rw[h,i7 (u7 go)];exact go
 have cu:v'.cells.toList=[v']:=by rw[e'];rfl
 have ou:Value.oneCell' v'=true:=by rw[e'];rfl
 have X:bsA prog (some 51) H2 1 [(0,.agg #[iV 2,.string eB,.string eB,nS,.string x])]=some (sL H2.next 1 1,D):=by
  rw[h,S];simp only[C7,S9,C8];rfl
 refine J16 f5 E y I b gv a6 c0 go X r1 r2 g3 cu ou @wrap_small ?_;exact i4 (kk-1) oM ⟨j+1,G,v',_,oM,oM,f5,E,y,rfl,a1,W.trans a2,J,O⟩
theorem mL{s:SpD}(h:¬24<mK s)(hl:s.vals.length=s.attrs.length):s.names.length<=24/\s.texts.length<=24/\s.attrs.length<=24/\(∀x∈s.vals,x.length<=24)/\(js s).length<=24:=by
 obtain⟨c1,c2⟩:=lT s.vals (s.names.length+1);have I:((s.names.length+1:Nat):Int)=(s.names.length:Int)+1:=oM;rw[I]at c1 c2;have S:(s.attrs.zip s.vals).map (·.2)=s.vals:=List.map_snd_zip oM;have D:=cI s.vals;have z:∀u:List (List ByteArray),u.length<=Q9 u/\∀x∈u,x.length<=Q9 u:=by
  intro u;induction u with
  |nil=>exact⟨Nat.zero_le _,fun x y=>by cases y⟩
  |cons v u E=>
   have D:=cI u;rw[Q9,List.length_cons];have W:v.length+2<=(v.length+2)*Q9 u:=Nat.le_mul_of_pos_right _ D;have X:2*Q9 u<=(v.length+2)*Q9 u:=Nat.mul_le_mul_right _ oM;refine⟨by have:=E.1;omega,fun x y=>?_⟩;rcases List.mem_cons.1 y with rfl|y
   .omega
   .have:=E.2 x y;omega
 obtain⟨U,J⟩:=z s.vals;have O:(s.names.length+1)*Q9 s.vals<=24:=by
  apply Classical.byContradiction;intro q;have:=c2 oM;apply h;unfold mK;omega
 have h3:Q9 s.vals<=(s.names.length+1)*Q9 s.vals:=by rw[Nat.add_mul];omega
 have h4:s.names.length+1<=(s.names.length+1)*Q9 s.vals:=Nat.le_mul_of_pos_right _ D;have h5:=c1 O;have h6:(s.names.length+1)*Q9 s.vals+s.texts.length+1<=24:=by unfold mK at h;omega
 refine⟨oM,oM,oM,fun x y=>by have:=J x y;omega,?_⟩;rw[js,List.length_append,fQ _ (Q9 s.vals) _ (fun n _=>by rw[jj,S])];simp only[List.length_append,List.length_map,List.length_singleton];omega
theorem Bl(l:List ByteArray):frS l eB []=dg (T8 l):=by
 have h:∀n,eB++dg n=dg n:=fun n=>by
  have u:=ct eB (dg n);exact rl (by rw[u];rfl)
 have y:frN l eB=T8 l:=by unfold frN T8;simp only[h]
 rw[frS,List.find?_nil];simp only[y,h]
theorem EG(H:d8)(lo k:Nat)(cs:LV)(q:Q)(o9:lo<=H.next)(hr:QR H lo k false cs q)(n0:OkD false q)(o8:nQ q<=1000):
  Ret (CL prog t6 31 [.agg cs.toArray] H) H (MP H (spQ q)):=by
 obtain⟨s,hs⟩:=eY (spQ q);have X:=iC s (by rw[hs];exact(jM q).2.2.1);obtain⟨z1,z2,z3,z4,z5⟩:=jM q;rw[<-hs]at z1 z2 z3 z4 z5;rw[<-hs];have ac:cs.all oC=true:=F7 hr;have ldc:=N5 hr;have lc:=hr.len;rw[lc]at ldc;simp only[qSz,bF]at ldc lc;obtain⟨H1,e8,n1,g1,s1⟩:=pushF H (bC cs 1);have k0:H.next<=H1.low:=by rw[e8];exact lR
 obtain⟨H2,a8⟩:=eY (H1.push (bC cs 3));have n2:H2.next=H.next+2:=by rw[a8,i5,n1]
 have s2:i6 H.next H H2:=by rw[a8];exact s1.trans (i6.push oM)
 have m5:H.next<=H2.low:=by rw[a8];exact k0
 have d1:bsA prog (some 25) H1 1 [(0,.agg cs.toArray)]=some (sL H1.next 1 1,H2):=by
  rw[a8];cases k with
  |zero=>exact hr.elim
  |succ k=>obtain⟨_,_,_,_,rfl,_⟩:=hr.path;simp only[C7,aq,C8];rfl
 have o0:QsR H2 H2.next k false (sL H1.next 1 1) [q]:=by
  have hO:u6 H2 H1.next 3 (QR H2 H2.next k false) (sL H1.next 1 1) [q]:=by
   rw[a8];exact u6.fresh rfl lR (D2.one lc (by rw[<-a8];exact hr.mono (fun j u=>s2.get j oM) oM))
  exact hO.sl
 obtain⟨wv,h3,I,c0,d4,w1,w2,w3,w4,us,O,rfl,D,g5⟩:=MB H2 H2.next k _ [q] lR o0 (by rw[nL,nL];omega) sM;have k9:(fsL false [q]).foldl L7 ⟨[],[],[],[]⟩=s:=by rw[fsL,fsL,List.append_nil,yD q n0,hs]
 rw[k9]at D;have n3:=g5.next;obtain⟨a1,b1,e1⟩:=D.n.slice;obtain⟨a2,b2,e2⟩:=D.a.slice;obtain⟨a3,b3,e3⟩:=D.v.slice;obtain⟨a4,b4,e4⟩:=D.t.slice;obtain⟨E,J⟩:∃r,r=[w1,w2,w3,w4]:=eX;have ar:E.all oC=true:=by rw[J,e1,e2,e3,e4];rfl
 have lr:E.length=4:=by rw[J];rfl
 have k2:ldC (some true) (some 4) 0 E=some (.agg E.toArray):=by rw[J];rfl
 have q0:E[0]?=some w1:=by rw[J];rfl
 have q3:E[3]?=some w4:=by rw[J];rfl
 have h5:(#[w1,w2,w3,w4]:Array Value)=E.toArray:=by rw[J]
 rw[h5]at c0;obtain⟨zz,g0⟩:=eY ([nS,nS,nS,nS]:LV);have lz:zz.length=4:=by rw[g0];rfl
 have k6:splice zz 0 E=E:=x9 _ _ (by rw[lr,lz]);obtain⟨K3,b8,-,i1,-⟩:=pushE I (bC zz 1);obtain⟨S,b6⟩:=eY (K3.put I.next (bC E 1));have n4:S.next=I.next+1:=by rw[b6,t5,b8,i5]
 have c8:i6 I.next I S:=by rw[b6,b8];exact(i6.push lR).trans (i6.put lR)
 have g4:S.get I.next=cE E 1:=by rw[b6];exact j5 (by rw[b8,i5];omega)
 have d9:=(D.spr).mono (H':=S) (fun j u=>c8.get j u) lR;rw[<-J]at d9;have j2:=GR S I.next E s oM d9 oM oM (fun x hx=>by have:=z4 x hx;omega) oM;have o5:i6 H.next H S:=(s2.trans (g5.weaken oM)).trans (c8.weaken oM);have m6:H.next<=S.low:=((g5.weaken (show H.next<=H2.next from oM)).trans (c8.weaken oM)).low m5;rw[j7 KQ rfl _ sM];rcases b:decide ((24:Int)<mK s)with _|_
 .have y:=dF b;rw[if_neg y]at X;obtain⟨y1,y4,y2,y3,y5⟩:=mL y z3;obtain⟨H5,c6⟩:=eY (S.push (bC [nS] 1));have n5:H5.next=I.next+2:=by rw[c6,i5,n4]
  obtain⟨H6,c7,-,l1,-⟩:=pushE H5 (bC [.nilFunc] 1);have n6:H6.next=I.next+3:=by rw[c7,i5,n5]
  obtain⟨W,b7⟩:=eY (H6.put H5.next (bC [Bm I.next S.next H5.next] 1));have n7:W.next=I.next+3:=by rw[b7,t5,n6]
  have d0:i6 S.next S W:=by rw[b7,c7,c6];exact((i6.push lR).trans (i6.push (by rw[i5];omega))).trans (i6.put (by rw[i5];omega))
  have e7:=(d0.get I.next oM).trans g4;have l3:W.get H5.next=cE [Bm I.next S.next H5.next] 1:=by rw[b7];exact j5 oM
  have l5:W.get S.next=cE [nS] 1:=by
   rw[b7,j6 oM,c7,i7 oM,c6];exact j9
  have o6:i6 I.next I W:=c8.trans (d0.weaken oM);have c3:SpO W H2.next O s w1 w2 w3 w4 us:=D.keep (fun j u=>o6.get j (D.lt j u).2) (fun _ h=>h) (fun b y=>by have:=D.lt b y;omega) lR;have inl:∀w∈w1::w2::w3::w4::us,∀b,l7 w b->H2.next<=b/\b<I.next:=fun w U b y=>D.lt b (D.o w U b y);have d7:=It W W.next w1 s.names lR c3.n.sl oM;obtain⟨nm,f9⟩:=eY (zNm (Q6 s.names));rw[<-f9]at d7;obtain⟨v9,h9,H9,j0,d5,f2,a6⟩:=c3.n.push1F (P:=prog) (t:=95) (cs:=nmE nm) (a:=nm) (by exact sV.2.2.2.2.2.2) dP.1 dP.2.1 dP.2.2.1 oM oM rfl rfl oM oM;obtain⟨H8,f0⟩:=eY (W.push (bC (nmE nm) 2));rw[<-f0]at j0 d5;have l6:H8.get I.next=cE E 1:=by rw[f0,i7 oM];exact e7
  have n9:=a6.next;have g8:bsA prog (some 48) W 1 [(0,.agg (nmE nm).toArray)]=some (sL W.next 1 1,H8):=by
   rw[f0];simp only[C7,dP,C8];rfl
  obtain⟨a9,c9,e9⟩:=f2.slice;have f7:∀Hx:d8,D7 prog .len [95] [v9] Hx=some (.int .i64 ((s.names++[nm]).length:Int),none):=fun Hx=>by
   rw[e9];exact J1 sV trivial
  have g3:∀j,¬(H2.next<=j/\j<I.next)->¬l7 w1 j:=fun j u q=>u (inl w1 sM j q);have c5:∀j,j<W.next->¬l7 w1 j->H9.get j=W.get j:=a6.but;have h7:H9.get I.next=cE E 1:=(c5 _ oM (g3 _ oM)).trans e7;have l8:=(c5 H5.next oM (g3 _ oM)).trans l3;have m0:=(c5 S.next oM (g3 _ oM)).trans l5;have k7:∀(i:Nat)(w:Value),(w1::w2::w3::w4::us)[i]?=some w->i≠0->∀j,l7 w j->¬l7 w1 j:=fun i w U hi j u q=>D.ap i 0 w w1 U rfl hi j u q;have o4:∀w∈w1::w2::w3::w4::us,∀b,l7 w b->b<W.next:=fun w U b y=>oN (inl w U b y);obtain⟨G0,a5⟩:=eY (fun j=>(∃w∈w2::w3::us,l7 w j)\/j=I.next\/j=H5.next\/l7 v9 j:Nat->Prop);have e5:∀b,l7 v9 b->b<H9.next/\b≠S.next/\¬(I.next<=b/\b<W.next):=fun b y=>by
   have h1:=f2.lt y;rcases a6.new b y with r|r
   .have:=inl w1 sM b r;omega
   .omega
  have g7:∀w∈w2::w3::us,w∈w1::w2::w3::w4::us:=fun w U=>by
   simp only[List.mem_cons]at U ⊢;rcases U with h|h|h
   .exact .inr (.inl h)
   .exact .inr (.inr (.inl h))
   .exact .inr (.inr (.inr (.inr h)))
  have d3:∀j,G0 j->j<H9.next/\j≠S.next/\¬l7 (nS) j:=fun j u=>by
   rw[a5]at u;refine⟨?_,?_,B8 j⟩
   .rcases u with⟨w,U,u⟩|u|u|u
    .have:=inl w (g7 w U) j u;omega
    .omega
    .omega
    .exact(e5 j u).1
   .rcases u with⟨w,U,u⟩|u|u|u
    .have:=inl w (g7 w U) j u;omega
    .omega
    .omega
    .exact(e5 j u).2.1
  have g6:∀w∈w2::w3::w4::us,∀b,l7 w b->H9.get b=W.get b:=fun w U b y=>by
   have hm:w∈w1::w2::w3::w4::us:=List.mem_cons_of_mem _ U;obtain⟨i,hi⟩:=List.mem_iff_getElem?.1 U;exact c5 b (o4 w hm b y) (k7 (i+1) w hi oM b y)
  have n8:SlF H9 G0 2 (w9 nmE) w2 s.attrs:=(c3.a.same (g6 w2 sM)).frz fun b y=>by rw[a5];exact .inl ⟨w2,by simp,y⟩
  have o1:SlF H9 G0 1 (VlF H9 G0) w3 s.vals:=by
   have h0:=c3.vals (G:=fun j=>∃w∈w3::us,l7 w j) (fun w U b y=>⟨w,U,y⟩);have up:∀j,(∃w∈w3::us,l7 w j)->G0 j:=fun j⟨w,U,u⟩=>by rw[a5];exact .inl ⟨w,List.mem_cons_of_mem _ U,u⟩
   have sm:∀j,(∃w∈w3::us,l7 w j)->H9.get j=W.get j:=fun j⟨w,U,u⟩=>g6 w (by
    rcases List.mem_cons.1 U with h|h
    .simp [h]
    .simp [h]) j u
   exact h0.mono sm up fun _ _ h=>h.mono sm up
  have m3:vW H9 G0 I.next H5.next (Bm I.next S.next H5.next) s w1 w2 w3 w4:=⟨by rw[h7,J],l8,by rw[a5];exact .inr (.inl rfl),by rw[a5];exact .inr (.inr (.inl rfl)),n8,o1,z3,oM,fun x hx=>by have:=y3 x hx;omega⟩
  have m4:fy H9 S.next G0 (nS) []:=⟨m0,u6.nil,d3⟩
  have m8:((s.names++[nm]).flatMap fun n=>S3 (s.attrs.zip s.vals) (X5 n)).length<=24:=by
   rw[f9];have:=z5;have:=y5;rw[js,List.length_append]at this;omega
  refine J30 ac e8.symm g1 ldc d1 c0 d4 g0.symm b8.symm i1 lr lz ar k6 b6.symm g4 k2 j2 b c6.symm c7.symm l1 b7.symm e7 q0 d7 g8 l6 j0 (aI d5 f7) ?_;refine j8 (F:=fun z=>Ret (u5 _ _ _ (u9 (inBlock 0 z) _)) _ _) (LB H9 I.next S.next H5.next G0 s w1 w2 w3 w4 (nS) a9 c9 (s.names++[nm]) m3 d3 oM (by rw[<-e9];exact f2.frz fun b y=>by rw[a5];exact .inr (.inr (.inr y))) (by simp;omega) ((s.names++[nm]).flatMap fun n=>S3 (s.attrs.zip s.vals) (X5 n)) (s.names++[nm]).length _ _ ⟨0,G0,nS,[],rfl,oM,rfl,rfl,rfl,e9,rfl,rfl,m4,dH.refl _ _ _ _,rfl,oM⟩) ?_;rintro o e' HA ⟨ho,k4,k5,GA,wA,b9,b5⟩;have nA:=b5.stay.next;have h6:∀j,j<H9.next->j≠S.next->HA.get j=H9.get j:=fun j u h=>b5.but j u h (B8 j);have i0:HA.get I.next=cE E 1:=(h6 _ oM oM).trans h7;have h8:=b9.g;have l4:∀b,l7 w4 b->H2.next<=b/\b<I.next:=fun b y=>inl w4 sM b y;have i3:u6 HA H2.next 1 (w9 stE) w4 s.texts:=(c3.t.same (g6 w4 sM)).same fun b y=>h6 b (oN (l4 b y)) (oN (l4 b y));have f5:=fresh HA HA.next w4 (nS) s.texts eB [] lR i3.sl (jL ..) oM (by decide) (by decide);rw[Bl]at f5;obtain⟨fs,j3⟩:=eY (dg (T8 s.texts));rw[<-j3]at f5;obtain⟨vC,hc,HC,j1,d6,f3,a7⟩:=i3.push1F (P:=prog) (t:=97) (cs:=[.string fs]) (a:=fs) (by exact bU.2.2.2.2.2.2) ty9.1 ty9.2.1 ty9.2.2.1 oM oM rfl rfl oM oM;obtain⟨HB,f1⟩:=eY (HA.push (bC [.string fs] 1));rw[<-f1]at j1 d6;have m1:HB.get I.next=cE E 1:=by rw[f1,i7 oM];exact i0
  have nC:=a7.next;have k1:=u7 h8;have g2:∀j,GA j->¬l7 w4 j:=fun j u q=>by
   have h4:=l4 j q;rcases b5.new j u with r|r
   .rw[a5]at r;rcases r with⟨w,U,r⟩|r|r|r
    .obtain⟨i,hi⟩:=List.mem_iff_getElem?.1 (g7 w U);by_cases j4:i=3
     .subst j4;have:w=w4:=(Option.some.inj hi).symm;subst this;obtain⟨i2,f6⟩:=List.mem_iff_getElem?.1 U;rcases i2 with _|_|i2
      .exact D.ap 1 3 w2 w rfl rfl oM j (by rw[show w2=w from Option.some.inj f6];exact r) q
      .exact D.ap 2 3 w3 w rfl rfl oM j (by rw[show w3=w from Option.some.inj f6];exact r) q
      .exact D.ap (i2+4) 3 w w f6 rfl oM j r q
     .exact D.ap i 3 w w4 hi rfl j4 j r q
    .omega
    .omega
    .rcases a6.new j r with r|r
     .exact D.ap 0 3 w1 w4 rfl rfl oM j r q
     .omega
   .omega
  have e6:∀j,j<HA.next->¬l7 w4 j->HC.get j=HA.get j:=a7.but;have c4:∀b,l7 wA b->H9.next<=b/\b<HA.next:=fun b y=>by
   have h1:=b9.own.lt y;rcases b5.neww b y with r|r
   .exact(B8 b r).elim
   .omega
  have o7:∀b,l7 vC b->b<HC.next/\b≠S.next/\¬l7 wA b:=fun b y=>by
   have h1:=f3.lt y;refine⟨h1.2,?_,fun q=>?_⟩
   .rcases a7.new b y with r|r
    .have:=l4 b r;omega
    .omega
   .have h2:=c4 b q;rcases a7.new b y with r|r
    .have:=l4 b r;omega
    .omega
  have d2:fy HC S.next (fun j=>GA j\/l7 vC j) wA ((s.names++[nm]).flatMap fun n=>S3 (s.attrs.zip s.vals) (X5 n)):=by
   refine⟨(e6 _ k1 (fun q=>by have:=l4 _ q;omega)).trans h8,(b9.own.same fun b y=>e6 b (c4 b y).2 (fun q=>by have:=l4 b q;have:=c4 b y;omega)).imp fun cs a h=>y9 _ _ _ _ _ _ h (fun j u=>e6 j (b9.ap j u).1 (g2 j u)) (fun _ h=> .inl h),fun j u=>?_⟩;rcases u with u|u
   .have:=b9.ap j u;exact⟨oM,this.2⟩
   .exact o7 j u
  obtain⟨aC,cC,eC⟩:=f3.slice;have f8:∀Hx:d8,D7 prog .len [97] [vC] Hx=some (.int .i64 ((s.texts++[fs]).length:Int),none):=fun Hx=>by
   rw[eC];exact J1 bU trivial
  have g9:bsA prog (some 9) HA 1 [(0,.string fs)]=some (sL HA.next 1 1,HB):=by
   rw[f1];simp only[C7,ty9,C8];rfl
  have k8:((s.names++[nm]).flatMap fun n=>S3 (s.attrs.zip s.vals) (X5 n))++(s.texts++[fs]).map dp=js s:=by rw[js,f9,j3]
  refine J10 ho k4 i0 q3 f5 g9 m1 j1 d6 f8 ?_;refine j8 (F:=fun z=>Ret (u5 _ _ _ (u9 (inBlock 2 z) _)) _ _) (LC HC S.next (fun j=>GA j\/l7 vC j) wA aC cC (s.texts++[fs]) d2.ap oM (by rw[<-eC];exact f3.frz fun b y=> .inr y) (by simp;omega) (js s) (s.texts++[fs]).length _ _ ⟨0,_,wA,_,rfl,oM,k5,eC,rfl,rfl,d2,dH.refl _ _ _ _,k8,oM⟩) ?_;rintro o2 e2 HD ⟨m9,o3,GD,wD,b0,f4⟩;have m2:=b0.g;have nD:=f4.stay.next;have k3:i6 H.next H HD:=((((o5.trans (d0.weaken oM)).trans (a6.stay.weaken oM)).trans (b5.stay.weaken oM)).trans (a7.stay.weaken oM)).trans (f4.stay.weaken oM);have m7:H.next<=HD.low:=(((((d0.weaken (show H.next<=S.next from oM)).trans (a6.stay.weaken oM)).trans (b5.stay.weaken oM)).trans (a7.stay.weaken oM)).trans (f4.stay.weaken oM)).low m6;refine J3 m9 o3 m2 ?_;refine dI (fun hc=>?_) ⟨_,_,rfl,.inr ⟨_,X,rfl,SlF.mono (b0.own.frz fun b y=>(b0.own.lt y).2) (fun _ _=>rfl) (fun j u=>u) (fun _ _ h=>y9 _ _ _ _ _ _ h (fun _ _=>rfl) fun j u=>(b0.ap j u).1)⟩,k3.ret m7⟩;obtain⟨da,dc,ed⟩:=b0.own.slice;obtain⟨u1,u2⟩:=bG b0.own (by rw[ed]at hc ⊢;exact hc);exact⟨_,_,rfl,.inr ⟨_,X,rfl,by rw[u1,u2];exact .inl ⟨rfl,rfl⟩⟩,i6.refl _ _⟩
 .have y:=dT b;rw[if_pos y]at X;refine J19 ac e8.symm g1 ldc d1 c0 d4 g0.symm b8.symm i1 lr lz ar k6 b6.symm g4 k2 j2 b ?_;exact⟨_,none,H,rfl,rfl,_,_,rfl,.inl ⟨X,rfl,rfl⟩,i6.refl _ _⟩
structure ReD where
 strat:StD
 labels:List EvD
 sorts:List SoD
 size:List Int
 how:List (Int×Int×Int)
def knB(n:Nat)(k:Int):Bool:=decide (0<=k)&&decide (k<n)
def R5(so:List SoD)(kind f n:Int):Bool:=knB so.length f&&knB so.length n&&(!decide (kind=2)||(decide (f=0)&& !((so.getD n.toNat (false,false,eB)).2.1)))
theorem zA(H:d8)(y:Nat)(h:LV)(own:Bool)(sz:Nat)(D:H.get y=some (.cells h own sz))(sa:Option Addr)(n c:Nat)(z:h[9]?=some (.slice sa n c))(k:Int):CL prog t6 70 [pT y,iV k] H=some (.bool (knB n k),none):=by
 have u:d8.get ⟨H.bs,H.next⟩ y=some (.cells h own sz):=D;rw[j7 QU rfl _ sM,knB];rcases b:decide ((0:Int)<=k)with _|_
 .exact J1 b trivial
 .exact J3 b u z trivial
theorem ET(H:d8)(rb:Nat)(I:LV)(own:Bool)(sz:Nat)(hg:H.get rb=some (.cells I own sz))(z:List SoD)(v:Value)(hv:SlI H H.next 3 (w9 soE) v z)(h9:I[9]?=some v)(el:LV)(e:EvD)(hl:el.length=5)(S:el.all oC=true)(O:el[0]?=some (.int .i64 e.kind))(f n:Int):
  CL prog t6 40 [pT rb,.agg el.toArray,iV f,iV n] H=some (.bool (R5 z e.kind f n),none):=by
 obtain⟨sa,c,rfl⟩:=hv.slice;obtain⟨H1,h,-,J,hS⟩:=pushF H (bC el 1);have a3:H.next<=H1.low:=by rw[h];exact lR
 have U:=(hS.get rb (u7 hg)).trans hg;have u:=zA H1 rb I own sz U sa z.length c h9 f;have E:=zA H1 rb I own sz U sa z.length c h9 n;rw[j7 QL rfl _ sM,R5];rcases b:decide (e.kind=2)with _|_
 .rcases X:knB z.length f with _|_
  .rw[X]at u;exact J6 S h.symm J O b u trivial
  .rw[X]at u;rcases W:knB z.length n with _|_
   .rw[W]at E;exact J7 S h.symm J O b u E trivial
   .rw[W]at E;exact J7 S h.symm J O b u E trivial
 .rcases X:knB z.length f with _|_
  .rw[X]at u;exact J6 S h.symm J O b u trivial
  .rw[X]at u;rcases W:knB z.length n with _|_
   .rw[W]at E;exact J7 S h.symm J O b u E trivial
   .have D:=W;simp only[knB,Bool.and_eq_true,decide_eq_true_eq]at D;rw[W]at E;rcases b3:decide (f=0)with _|_
    .exact J8 S h.symm J O b u E b3 trivial
    .have hn:(n.toNat:Int)=n:=Int.toNat_of_nonneg D.1;have a2:n.toNat<z.length:=oM;obtain⟨y,nb,o,cs,ow,a5,hx,hd,e0,hF,a1,a6,a4,hc,rfl⟩:=hv.row (i:=n.toNat) a2;subst e0;have c1:=hc 1 oM;have gn:=(hS.get nb hF).trans a1;have hy:(z.getD n.toNat (false,false,eB)).2.1=y.2.1:=by rw[List.getD_eq_getElem?_getD,hx];rfl
     have y1:(soE y)[1]?=some (.bool y.2.1):=rfl;rw[y1]at c1;have p0:(0:Int)<=n:=D.1;have p1:n<z.length:=D.2;exact J13 S h.symm J O b u E b3 U h9 gn c1 hy trivial
def mx2(a b:Int):Int:=if a<b then b else a
def mxL:List Int->Int
 |[]=>0
 |x::l=>l.foldl mx2 x
theorem ES(H0:d8)(U:Option Addr)(I:Nat)(l:List Int)(hv:SlI H0 H0.next 1 (w9 inE) (.slice U l.length I) l)(hn:l.length<=100000)(r:Int):
  ∀D e H2,(∃(i:Nat)(m:Int),D=l.length-i/\1<=i/\i<=l.length/\e.get 0= .slice U l.length I/\e.get 3=iV m/\e.get 4=iV i/\H2=H0/\(l.drop i).foldl mx2 m=r)->
  w7 (LE prog t6 (.loop NN) e H2) (fun o e H2=>H2=H0/\o= .exit 0/\e.get 3=iV r):=by
 refine i8 _ _ ?_;rintro D e H2 ⟨i,m,hk,a1,hi,u,J,O,rfl,h⟩;rcases b:decide ((i:Int)<l.length)with _|_
 .have z:=dF b;have:l.drop i=[]:=dN oM;rw[this,List.foldl_nil]at h;refine J3 u O b ?_;exact i9 ⟨rfl,rfl,by rw[<-h];exact J⟩
 have z:=dT b;obtain⟨y,nb,o,cs,own,el,hx,X,rfl,a3,hg,a2,S,W,rfl⟩:=hv.row (i:=i) oM;have nt:(i:Int).toNat=i:=tN i;have E:=W 0 oM;rw[Nat.add_zero]at E;rw[X,List.foldl_cons]at h;have hm:∀Hx,D7 prog .max [3,3] [iV m,iV y] Hx=some (.int .i64 (mx2 m y),none):=fun Hx=>by
  simp [D7,iE,mx2]
 refine J9 u J O b hg nt E hm @wrap_small ?_;exact i4 (D-1) oM ⟨i+1,mx2 m y,oM,oM,oM,u,rfl,rfl,rfl,h⟩
theorem PX(H:d8)(v:Value)(l:List Int)(u:SlI H H.next 1 (w9 inE) v l)(E:1<=l.length)(hn:l.length<=100000):CL prog t6 60 [v] H=some (.int .i64 (mxL l),none):=by
 obtain⟨va,S,rfl⟩:=u.slice;obtain⟨y,O,o,cs,own,el,J,hd,rfl,a2,hg,a1,I,hc,rfl⟩:=u.row (i:=0) oM;have D:=hc 0 oM;simp only[Nat.zero_mul,Nat.add_zero]at D;have b:decide ((l.length:Int)<1)=false:=decide_eq_false oM;have h:d8.get ⟨H.bs,H.next⟩ O=some (.cells cs own 1):=hg;have U:mxL l=(l.drop 1).foldl mx2 y:=by
  cases l with
  |nil=>simp at E
  |cons x l=>simp at J;rw[<-J];rfl
 rw[j7 Pu rfl _ sM];refine J3 b h D ?_;refine j8 (F:=fun z=>u5 _ _ _ (u9 (inBlock 0 z) _)=_) (ES ⟨H.bs,H.next⟩ (some ⟨O,o,none⟩) S l (u.mono (fun _ _=>rfl) lR iF) hn (mxL l) (l.length-1) _ _ ⟨1,y,rfl,lR,E,rfl,rfl,rfl,rfl,U.symm⟩) ?_;rintro o' e' H' ⟨X,ho,W⟩;exact J3 ho X W trivial
theorem Md(H:d8)(z:Nat)(h:LV)(own:Bool)(sz:Nat)(J:H.get z=some (.cells h own sz))(v:Value)(l:List Int)(U:SlI H H.next 1 (w9 inE) v l)(u:h[10]?=some v)(D:1<=l.length)(S:l.length<=100000)(size:Int)(E:0<=mxL l)(I:mxL l<=1000):
  CL prog t6 33 [pT z,iV size] H=some (.bool (decide (size<=2*mxL l+1)),none):=by
 have O:=PX ⟨H.bs,H.next⟩ v l (U.mono (fun _ _=>rfl) lR iF) D S;have y:d8.get ⟨H.bs,H.next⟩ z=some (.cells h own sz):=J;rw[j7 QJ rfl _ sM];exact J4 y u O @wrap_small trivial
theorem wX(H:d8)(h:LV)(D:List SoD)(v:Value)(hv:SlI H H.next 3 (w9 soE) v D)(hl:h.length=12)(X:h.all oC=true)(W:h[9]?=some v)(hn:D.length<=1000)(x:SoD):
  CL prog t6 17 [.agg h.toArray,.agg (soE x).toArray] H=some (.int .i64 (ixG (fun y=>aP x y) D 0),none):=by
 obtain⟨O,z,J,-⟩:=pushF H (bC h 1);obtain⟨H2,u⟩:=eY (O.push (bC (soE x) 1));have E:i6 H.next H H2:=by rw[u,z];exact(i6.first H _).trans (i6.push (by rw[i5];exact Nat.le_succ _))
 have S:H2.get H.next=cE h 1:=by rw[u,i7 oM,z];exact j9
 have U:H2.get (H.next+1)=cE (soE x) 1:=by rw[u,<-J];exact j9
 have I:H.next<=H2.low:=by rw[u,z];exact lR
 have hr:ldC (some true) (some 3) 0 (soE x)=some (.agg (soE x).toArray):=rfl;have hf:=Eb H2 H.next v D x (oN (E.next)) (hv.mono (fun j hj=>E.get j hj) lR iF) oM;rw[j7 QC rfl _ sM];exact J9 X z.symm J u.symm S U W hr hf trivial
end Go.Proofs.YtofbhlhamfkljaaGreatDoor.Ve
