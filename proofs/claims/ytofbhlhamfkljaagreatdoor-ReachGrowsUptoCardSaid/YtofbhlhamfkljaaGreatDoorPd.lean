/- A part of the claim: the evaluator and the contracts. Conditions: none here. -/
import Derived.Test.YtofbhlhamfkljaaGreatDoorPc
import Derived.Test.YtofbhlhamfkljaaGreatDoorProg
import Derived.KernelRfl
namespace Go.Proofs.YtofbhlhamfkljaaGreatDoor.Ve
open Go Go.RowKit
open Go.Proofs.Tryz (prog)
set_option linter.unusedVariables false
set_option linter.unusedSimpArgs false
set_option maxRecDepth 1000000
set_option maxHeartbeats 0
mutual
def M0:Q→Q→Bool
 | .mk o s c v a b,y=>decide (o=y.op)&&(decide (s=y.sp)&&decide (c=y.lc))&&decide (v=y.vl)&&decide (a.length=y.a.length)&&decide (b.length=y.b.length)&&L8 a y.a&&L8 b y.b
def L8:List Q→List Q→Bool
 |[],_=>true
 |x::l,m=>(match m with|[]=>true|y::m=>M0 x y&&L8 l m)
end
theorem eG(x y:Q):M0 x y=(decide (x.op=y.op)&&(decide (x.sp=y.sp)&&decide (x.lc=y.lc))&&decide (x.vl=y.vl)&&decide (x.a.length=y.a.length)&&decide (x.b.length=y.b.length)&&L8 x.a y.a&&L8 x.b y.b):=by cases x;rw[M0];rfl
theorem V5(x y:Q)(l m:List Q):L8 (x::l) (y::m)=(M0 x y&&L8 l m):=by rw[L8]
mutual
theorem iT:∀(x y:Q),M0 x y=true↔x=y
 | .mk o s c v a b,.mk o' s' c' v' a' b'=>by
  rw[eG];simp only[Bool.and_eq_true,decide_eq_true_eq];simp only[Q.op,Q.sp,Q.lc,Q.vl,Q.a,Q.b,Q.mk.injEq]
  constructor
  ·rintro⟨⟨⟨⟨⟨⟨h1,h2,h3⟩,h4⟩,h5⟩,h6⟩,h7⟩,h8⟩;exact⟨h1,h2,h3,h4,(cN a a' h5).1 h7,(cN b b' h6).1 h8⟩
  ·rintro⟨rfl,rfl,rfl,rfl,rfl,rfl⟩;exact⟨⟨⟨⟨⟨⟨rfl,rfl,rfl⟩,rfl⟩,rfl⟩,rfl⟩,(cN a a rfl).2 rfl⟩,(cN b b rfl).2 rfl⟩
theorem cN:∀(l m:List Q),l.length=m.length→(L8 l m=true↔l=m)
 |[],m,h=>by
  have:m=[]:=List.length_eq_zero_iff.1 (by simpa using h.symm);subst this;simp [L8]
 |x::l,[],h=>by simp at h
 |x::l,y::m,h=>by
  rw[V5,Bool.and_eq_true,List.cons.injEq,iT x y,cN l m (by simpa using h)]
end
def N7(fn:Nat)(f:Bool)(k:Nat):Prop:=∀(H:d9)(lo:Nat)(c1 c2:LV)(x y:Q),lo≤H.next→QR H lo k f c1 x→QR H lo k f c2 y→CL prog t6 fn [.agg c1.toArray,.agg c2.toArray] H=some (.bool (M0 x y),none)
theorem zf(k:Nat)(ih:N7 92 false k)(H0:d9)(lo:Nat)(va vb:Option Addr)(ca cb:Nat)(l m:List Q)(hlm:l.length=m.length)(hlo:lo≤H0.next)(hv:QsR H0 lo k false (.slice va l.length ca) l)(hw:QsR H0 lo k false (.slice vb m.length cb) m)(hn:l.length≤1048576)(b1 b2:Nat)(cl cm:LV)(hb1:H0.get b1=cE cl 1)(hb2:H0.get b2=cE cm 1)(hc1:cl[1]?=some (.slice va l.length ca))(hc2:cm[1]?=some (.slice vb m.length cb))(r:Bool):
  ∀kk e H2,(∃i:Nat,kk=l.length-i∧i≤l.length∧e.get 2=pT b1∧e.get 3=pT b2∧e.get 5=iV i∧H2=H0∧L8 (l.drop i) (m.drop i)=r)→
  u9 (LE prog t6 (.loop Gv) e H2) (fun o e H2=>H2=H0∧((o= .exit 0∧e.get 2=pT b1∧e.get 3=pT b2∧r=true)∨(o= .ret∧e.get 4= .bool false∧r=false))):=by
 refine j7 _ _ ?_;rintro kk e H2 ⟨i,hk,hi,f2,f3,f6,hH,fu⟩;subst hH;rcases b:decide ((i:Int)<l.length)with _|_
 ·have hb':=dF b;have:l.drop i=[]:=dN oM;rw[this,L8]at fu;refine J5 f2 f6 hb1 hc1 b ?_;exact l7 ⟨rfl,.inl ⟨rfl,f2,f3,fu.symm⟩⟩
 have hb':=dT b;obtain⟨x,nb,o,cs,own,el,hx,hd,rfl,hlt,hg,hle,hrow,hr⟩:=hv.row (i:=i) oM;obtain⟨y,nb',o',cs',own',el',hx',hd',rfl,hlt',hg',hle',hrow',hr'⟩:=hw.row (i:=i) oM;have nt:(i:Int).toNat=i:=tN i;have hlt2:(i:Int)<m.length:=oM;rw[hd,hd',V5]at fu;simp only[qSz,if_true,Bool.false_eq_true,if_false]at hrow hg hrow' hg';have hca:=ih H2 lo el el' x y hlo hr hr';rcases b2:M0 x y with _|_
 ·rw[b2]at hca fu;refine J14 f2 f3 f6 hb1 hb2 hc1 hc2 b hg hg' nt hrow hrow' hca ?_;exact A6 ⟨rfl,.inr ⟨rfl,rfl,by rw[←fu];rfl⟩⟩
 ·rw[b2]at hca fu;refine J15 f2 f3 f6 hb1 hb2 hc1 hc2 b hg hg' nt hrow hrow' @wrap_small hca ?_;exact i6 (kk-1) oM ⟨i+1,oM,oM,f2,f3,rfl,rfl,fu⟩
theorem zg(k:Nat)(ih:N7 115 true k)(H0:d9)(lo:Nat)(va vb:Option Addr)(ca cb:Nat)(l m:List Q)(hlm:l.length=m.length)(hlo:lo≤H0.next)(hv:QsR H0 lo k true (.slice va l.length ca) l)(hw:QsR H0 lo k true (.slice vb m.length cb) m)(hn:l.length≤1048576)(b1 b2:Nat)(cl cm:LV)(hb1:H0.get b1=cE cl 1)(hb2:H0.get b2=cE cm 1)(hc1:cl[2]?=some (.slice va l.length ca))(hc2:cm[2]?=some (.slice vb m.length cb))(r:Bool):
  ∀kk e H2,(∃i:Nat,kk=l.length-i∧i≤l.length∧e.get 2=pT b1∧e.get 3=pT b2∧e.get 6=iV i∧H2=H0∧L8 (l.drop i) (m.drop i)=r)→
  u9 (LE prog t6 (.loop Gw) e H2) (fun o e H2=>H2=H0∧((o= .exit 2∧e.get 2=pT b1∧e.get 3=pT b2∧r=true)∨(o= .ret∧e.get 4= .bool false∧r=false))):=by
 refine j7 _ _ ?_;rintro kk e H2 ⟨i,hk,hi,f2,f3,f6,hH,fu⟩;subst hH;rcases b:decide ((i:Int)<l.length)with _|_
 ·have hb':=dF b;have:l.drop i=[]:=dN oM;rw[this,L8]at fu;refine J5 f2 f6 hb1 hc1 b ?_;exact l7 ⟨rfl,.inl ⟨rfl,f2,f3,fu.symm⟩⟩
 have hb':=dT b;obtain⟨x,nb,o,cs,own,el,hx,hd,rfl,hlt,hg,hle,hrow,hr⟩:=hv.row (i:=i) oM;obtain⟨y,nb',o',cs',own',el',hx',hd',rfl,hlt',hg',hle',hrow',hr'⟩:=hw.row (i:=i) oM;have nt:(i:Int).toNat=i:=tN i;have hlt2:(i:Int)<m.length:=oM;rw[hd,hd',V5]at fu;simp only[qSz,if_true,Bool.false_eq_true,if_false]at hrow hg hrow' hg';have hca:=ih H2 lo el el' x y hlo hr hr';rcases b2:M0 x y with _|_
 ·rw[b2]at hca fu;refine J14 f2 f3 f6 hb1 hb2 hc1 hc2 b hg hg' nt hrow hrow' hca ?_;exact A6 ⟨rfl,.inr ⟨rfl,rfl,by rw[←fu];rfl⟩⟩
 ·rw[b2]at hca fu;refine J15 f2 f3 f6 hb1 hb2 hc1 hc2 b hg hg' nt hrow hrow' @wrap_small hca ?_;exact i6 (kk-1) oM ⟨i+1,oM,oM,f2,f3,rfl,rfl,fu⟩
theorem wd(k:Nat)(ih:N7 115 true k)(H0:d9)(lo:Nat)(va vb:Option Addr)(ca cb:Nat)(l m:List Q)(hlm:l.length=m.length)(hlo:lo≤H0.next)(hv:QsR H0 lo k true (.slice va l.length ca) l)(hw:QsR H0 lo k true (.slice vb m.length cb) m)(hn:l.length≤1048576)(b1 b2:Nat)(cl cm:LV)(hb1:H0.get b1=cE cl 1)(hb2:H0.get b2=cE cm 1)(hc1:cl[4]?=some (.slice va l.length ca))(hc2:cm[4]?=some (.slice vb m.length cb))(r:Bool):
  ∀kk e H2,(∃i:Nat,kk=l.length-i∧i≤l.length∧e.get 2=pT b1∧e.get 3=pT b2∧e.get 5=iV i∧H2=H0∧L8 (l.drop i) (m.drop i)=r)→
  u9 (LE prog t6 (.loop Am) e H2) (fun o e H2=>H2=H0∧((o= .exit 0∧e.get 2=pT b1∧e.get 3=pT b2∧r=true)∨(o= .ret∧e.get 4= .bool false∧r=false))):=by
 refine j7 _ _ ?_;rintro kk e H2 ⟨i,hk,hi,f2,f3,f6,hH,fu⟩;subst hH;rcases b:decide ((i:Int)<l.length)with _|_
 ·have hb':=dF b;have:l.drop i=[]:=dN oM;rw[this,L8]at fu;refine J5 f2 f6 hb1 hc1 b ?_;exact l7 ⟨rfl,.inl ⟨rfl,f2,f3,fu.symm⟩⟩
 have hb':=dT b;obtain⟨x,nb,o,cs,own,el,hx,hd,rfl,hlt,hg,hle,hrow,hr⟩:=hv.row (i:=i) oM;obtain⟨y,nb',o',cs',own',el',hx',hd',rfl,hlt',hg',hle',hrow',hr'⟩:=hw.row (i:=i) oM;have nt:(i:Int).toNat=i:=tN i;have hlt2:(i:Int)<m.length:=oM;rw[hd,hd',V5]at fu;simp only[qSz,if_true,Bool.false_eq_true,if_false]at hrow hg hrow' hg';have hca:=ih H2 lo el el' x y hlo hr hr';rcases b2:M0 x y with _|_
 ·rw[b2]at hca fu;refine J14 f2 f3 f6 hb1 hb2 hc1 hc2 b hg hg' nt hrow hrow' hca ?_;exact A6 ⟨rfl,.inr ⟨rfl,rfl,by rw[←fu];rfl⟩⟩
 ·rw[b2]at hca fu;refine J15 f2 f3 f6 hb1 hb2 hc1 hc2 b hg hg' nt hrow hrow' @wrap_small hca ?_;exact i6 (kk-1) oM ⟨i+1,oM,oM,f2,f3,rfl,rfl,fu⟩
theorem wg(k:Nat)(ih:N7 92 false k)(H0:d9)(lo:Nat)(va vb:Option Addr)(ca cb:Nat)(l m:List Q)(hlm:l.length=m.length)(hlo:lo≤H0.next)(hv:QsR H0 lo k false (.slice va l.length ca) l)(hw:QsR H0 lo k false (.slice vb m.length cb) m)(hn:l.length≤1048576)(b1 b2:Nat)(cl cm:LV)(hb1:H0.get b1=cE cl 1)(hb2:H0.get b2=cE cm 1)(hc1:cl[5]?=some (.slice va l.length ca))(hc2:cm[5]?=some (.slice vb m.length cb))(r:Bool):
  ∀kk e H2,(∃i:Nat,kk=l.length-i∧i≤l.length∧e.get 2=pT b1∧e.get 3=pT b2∧e.get 6=iV i∧H2=H0∧L8 (l.drop i) (m.drop i)=r)→
  u9 (LE prog t6 (.loop An) e H2) (fun o e H2=>H2=H0∧((o= .exit 2∧e.get 2=pT b1∧e.get 3=pT b2∧r=true)∨(o= .ret∧e.get 4= .bool false∧r=false))):=by
 refine j7 _ _ ?_;rintro kk e H2 ⟨i,hk,hi,f2,f3,f6,hH,fu⟩;subst hH;rcases b:decide ((i:Int)<l.length)with _|_
 ·have hb':=dF b;have:l.drop i=[]:=dN oM;rw[this,L8]at fu;refine J5 f2 f6 hb1 hc1 b ?_;exact l7 ⟨rfl,.inl ⟨rfl,f2,f3,fu.symm⟩⟩
 have hb':=dT b;obtain⟨x,nb,o,cs,own,el,hx,hd,rfl,hlt,hg,hle,hrow,hr⟩:=hv.row (i:=i) oM;obtain⟨y,nb',o',cs',own',el',hx',hd',rfl,hlt',hg',hle',hrow',hr'⟩:=hw.row (i:=i) oM;have nt:(i:Int).toNat=i:=tN i;have hlt2:(i:Int)<m.length:=oM;rw[hd,hd',V5]at fu;simp only[qSz,if_true,Bool.false_eq_true,if_false]at hrow hg hrow' hg';have hca:=ih H2 lo el el' x y hlo hr hr';rcases b2:M0 x y with _|_
 ·rw[b2]at hca fu;refine J14 f2 f3 f6 hb1 hb2 hc1 hc2 b hg hg' nt hrow hrow' hca ?_;exact A6 ⟨rfl,.inr ⟨rfl,rfl,by rw[←fu];rfl⟩⟩
 ·rw[b2]at hca fu;refine J15 f2 f3 f6 hb1 hb2 hc1 hc2 b hg hg' nt hrow hrow' @wrap_small hca ?_;exact i6 (kk-1) oM ⟨i+1,oM,oM,f2,f3,rfl,rfl,fu⟩
theorem NK(k:Nat)(ih1:N7 92 false k)(ih2:N7 115 true k):N7 92 false (k+1):=by
 intro H lo c1 c2 x y hlo hx hy;have sx:=fun h:false=false=>hx.plain h;have sy:=fun h:false=false=>hy.plain h;obtain⟨va,ca,wa,ca',rfl,h1,h2,h3,h4⟩:=hx.path;obtain⟨vb,cb,wb,cb',rfl,k1,k2,k3,k4⟩:=hy.path;obtain⟨H1,hH1⟩:∃H1,H1=(d9.push ⟨H.bs,H.next⟩ (.cells [iV x.op,.slice va x.a.length ca,.slice wa x.b.length ca'] true 1)).push (.cells [iV y.op,.slice vb y.a.length cb,.slice wb y.b.length cb'] true 1):=⟨_,rfl⟩
 have hS:i4 H.next H H1:=by rw[hH1];exact(i4.first H _).trans (i4.push (by rw[i5];show H.next≤H.next+1;omega))
 have hg1:H1.get H.next=cE [iV x.op,.slice va x.a.length ca,.slice wa x.b.length ca'] 1:=by rw[hH1,j6 (by rw[i5];show H.next<H.next+1;omega)];exact i7
 have hg2:H1.get (H.next+1)=cE [iV y.op,.slice vb y.a.length cb,.slice wb y.b.length cb'] 1:=by rw[hH1];exact y7 (by rw[i5];show H.next+1≤H.next+1∧H.next+1≤H.next+1;omega)
 have hlow:H.next≤H1.low:=by rw[hH1,t5,t5];exact lR
 have hn:=hS.next;have h1':=h1.mono (H':=H1) (fun j hj=>hS.get j oM) lR;have h2':=h2.mono (H':=H1) (fun j hj=>hS.get j oM) lR;have k1':=k1.mono (H':=H1) (fun j hj=>hS.get j oM) lR;have k2':=k2.mono (H':=H1) (fun j hj=>hS.get j oM) lR;rw[j8 af4 rfl _ (by simp),eG];rcases b1:decide (x.op=y.op)with _|_
 ·exact J4 hH1.symm hg1 hg2 b1 trivial
 obtain⟨s1,s2,s3⟩:=sx rfl;obtain⟨u1,u2,u3⟩:=sy rfl;have b2:(decide (x.sp=y.sp)&&decide (x.lc=y.lc))=true:=by rw[s1,s2,u1,u2];rfl
 have b3:decide (x.vl=y.vl)=true:=by rw[s3,u3];rfl
 rw[b2,b3];have el:decide ((x.a.length:Int)=y.a.length)=decide (x.a.length=y.a.length):=decide_eq_decide.2 oM;rcases b4:decide (x.a.length=y.a.length)with _|_
 ·exact J6 hH1.symm hg1 hg2 b1 el b4 trivial
 have el2:decide ((x.b.length:Int)=y.b.length)=decide (x.b.length=y.b.length):=decide_eq_decide.2 oM;rcases b5:decide (x.b.length=y.b.length)with _|_
 ·exact J8 hH1.symm hg1 hg2 b1 el b4 el2 b5 trivial
 refine J8 hH1.symm hg1 hg2 b1 el b4 el2 b5 ?_;refine l9 (F:=fun z=>u5 _ _ _ (u7 (inBlock 0 z) _)=_) (zf k ih1 H1 lo va vb ca cb x.a y.a (dT b4) oM h1' k1' h3 H.next (H.next+1) _ _ hg1 hg2 rfl rfl (L8 x.a y.a) x.a.length _ _ ⟨0,rfl,oM,rfl,rfl,rfl,rfl,rfl⟩) ?_;rintro o e' H' ⟨rfl,⟨ho,g2,g3,hr⟩|⟨ho,g4,hr⟩⟩
 ·refine J2 ho hr ?_;refine l9 (F:=fun z=>u5 _ _ _ (u7 (inBlock 2 z) _)=_) (zg k ih2 H' lo wa wb ca' cb' x.b y.b (dT b5) oM h2' k2' h4 H.next (H.next+1) _ _ hg1 hg2 rfl rfl (L8 x.b y.b) x.b.length _ _ ⟨0,rfl,oM,g2,g3,rfl,rfl,rfl⟩) ?_;rintro o e' H2 ⟨rfl,⟨ho,g2,g3,hr⟩|⟨ho,g4,hr⟩⟩
  ·exact J2 ho hr trivial
  ·exact J3 ho g4 hr trivial
 ·exact J3 ho g4 hr trivial
theorem Fb(k:Nat)(ih1:N7 115 true k)(ih2:N7 92 false k):N7 115 true (k+1):=by
 intro H lo c1 c2 x y hlo hx hy;have sx:=fun h:true=false=>hx.plain h;have sy:=fun h:true=false=>hy.plain h;obtain⟨va,ca,wa,ca',rfl,h1,h2,h3,h4,_⟩:=hx.filter;obtain⟨vb,cb,wb,cb',rfl,k1,k2,k3,k4,_⟩:=hy.filter;obtain⟨H1,hH1⟩:∃H1,H1=(d9.push ⟨H.bs,H.next⟩ (.cells [iV x.op,.string x.sp,.string x.lc,.string x.vl,.slice va x.a.length ca,.slice wa x.b.length ca'] true 1)).push (.cells [iV y.op,.string y.sp,.string y.lc,.string y.vl,.slice vb y.a.length cb,.slice wb y.b.length cb'] true 1):=⟨_,rfl⟩
 have hS:i4 H.next H H1:=by rw[hH1];exact(i4.first H _).trans (i4.push (by rw[i5];show H.next≤H.next+1;omega))
 have hg1:H1.get H.next=cE [iV x.op,.string x.sp,.string x.lc,.string x.vl,.slice va x.a.length ca,.slice wa x.b.length ca'] 1:=by rw[hH1,j6 (by rw[i5];show H.next<H.next+1;omega)];exact i7
 have hg2:H1.get (H.next+1)=cE [iV y.op,.string y.sp,.string y.lc,.string y.vl,.slice vb y.a.length cb,.slice wb y.b.length cb'] 1:=by rw[hH1];exact y7 (by rw[i5];show H.next+1≤H.next+1∧H.next+1≤H.next+1;omega)
 have hlow:H.next≤H1.low:=by rw[hH1,t5,t5];exact lR
 have hn:=hS.next;have h1':=h1.mono (H':=H1) (fun j hj=>hS.get j oM) lR;have h2':=h2.mono (H':=H1) (fun j hj=>hS.get j oM) lR;have k1':=k1.mono (H':=H1) (fun j hj=>hS.get j oM) lR;have k2':=k2.mono (H':=H1) (fun j hj=>hS.get j oM) lR;rw[j8 WF rfl _ (by simp),eG];rcases b1:decide (x.op=y.op)with _|_
 ·exact J4 hH1.symm hg1 hg2 b1 trivial
 rcases b2:(decide (x.sp=y.sp)&&decide (x.lc=y.lc))with _|_
 ·exact J5 hH1.symm hg1 hg2 b1 b2 trivial
 rcases b3:decide (x.vl=y.vl)with _|_
 ·exact J6 hH1.symm hg1 hg2 b1 b2 b3 trivial
 have el:decide ((x.a.length:Int)=y.a.length)=decide (x.a.length=y.a.length):=decide_eq_decide.2 oM;rcases b4:decide (x.a.length=y.a.length)with _|_
 ·exact J8 hH1.symm hg1 hg2 b1 b2 b3 el b4 trivial
 have el2:decide ((x.b.length:Int)=y.b.length)=decide (x.b.length=y.b.length):=decide_eq_decide.2 oM;rcases b5:decide (x.b.length=y.b.length)with _|_
 ·exact J10 hH1.symm hg1 hg2 b1 b2 b3 el b4 el2 b5 trivial
 refine J10 hH1.symm hg1 hg2 b1 b2 b3 el b4 el2 b5 ?_;refine l9 (F:=fun z=>u5 _ _ _ (u7 (inBlock 0 z) _)=_) (wd k ih1 H1 lo va vb ca cb x.a y.a (dT b4) oM h1' k1' h3 H.next (H.next+1) _ _ hg1 hg2 rfl rfl (L8 x.a y.a) x.a.length _ _ ⟨0,rfl,oM,rfl,rfl,rfl,rfl,rfl⟩) ?_;rintro o e' H' ⟨rfl,⟨ho,g2,g3,hr⟩|⟨ho,g4,hr⟩⟩
 ·refine J2 ho hr ?_;refine l9 (F:=fun z=>u5 _ _ _ (u7 (inBlock 2 z) _)=_) (wg k ih2 H' lo wa wb ca' cb' x.b y.b (dT b5) oM h2' k2' h4 H.next (H.next+1) _ _ hg1 hg2 rfl rfl (L8 x.b y.b) x.b.length _ _ ⟨0,rfl,oM,g2,g3,rfl,rfl,rfl⟩) ?_;rintro o e' H2 ⟨rfl,⟨ho,g2,g3,hr⟩|⟨ho,g4,hr⟩⟩
  ·exact J2 ho hr trivial
  ·exact J3 ho g4 hr trivial
 ·exact J3 ho g4 hr trivial
theorem BZ:∀k,N7 92 false k∧N7 115 true k:=by
 intro k;induction k with
 |zero=>exact⟨fun H lo c1 c2 x y hlo hx hy=>hx.elim,fun H lo c1 c2 x y hlo hx hy=>hx.elim⟩
 |succ k ih=>exact⟨NK k ih.1 ih.2,Fb k ih.2 ih.1⟩
end Go.Proofs.YtofbhlhamfkljaaGreatDoor.Ve
namespace Go.Proofs.YtofbhlhamfkljaaGreatDoor.Ve
open Go Go.RowKit
set_option linter.unusedVariables false
set_option linter.unusedSimpArgs false
set_option maxHeartbeats 0
def t7(H:d9)(lo sz:Nat){α:Type}(R:LV→α→Prop)(w:Value)(l:List α):Prop:=∃cs,aP H lo sz w l.length cs∧D2 sz R cs l
section
variable{α:Type}{R R':List Value→α→Prop}{H H':d9}{lo lo' sz:Nat}{w:Value}{l l2:List α}
theorem D2.nil:D2 sz R [] ([]:List α):=⟨by simp,fun i a hi=>by simp at hi⟩
theorem D2.one{cs:LV}{a:α}(h:cs.length=sz)(hr:R cs a):D2 sz R cs [a]:=by
 refine⟨by simp [h],fun i b hi=>?_⟩;cases i with
 |zero=>
  have:a=b:=by simpa using hi
  subst this;rw[Nat.zero_mul,List.drop_zero,←h,List.take_length];exact hr
 |succ i=>simp at hi
theorem t7.nil:t7 H lo sz R (.slice none 0 0) ([]:List α):=⟨[],.inl ⟨rfl,rfl,rfl⟩,D2.nil⟩
theorem t7.slice(h:t7 H lo sz R w l):∃a c,w= .slice a l.length c:=by obtain⟨cs,h1,h2⟩:=h;exact h1.slice
theorem t7.mono(h:t7 H lo sz R w l)(hl:lo'≤lo)(hg:∀j,j<H.next→H'.get j=H.get j):t7 H' lo' sz R w l:=by obtain⟨cs,h1,h2⟩:=h;exact⟨cs,h1.mono hl hg,h2⟩
theorem t7.keep(h:t7 H lo sz R w l)(hS:i4 H.next H H'):t7 H' lo sz R w l:=h.mono lR fun j hj=>hS.get j hj
theorem t7.weaken(h:t7 H lo sz R w l)(hl:lo'≤lo):t7 H lo' sz R w l:=h.mono hl fun _ _=>rfl
theorem t7.imp(h:t7 H lo sz R w l)(hR:∀cs a,R cs a→R' cs a):t7 H lo sz R' w l:=by obtain⟨cs,h1,h2⟩:=h;exact⟨cs,h1,h2.mono hR⟩
theorem t7.low(h:t7 H lo sz R w l)(n:Nat):t7 ⟨H.bs,n⟩ lo sz R w l:=h.mono lR fun _ _=>rfl
theorem t7.sl(h:t7 H lo sz R w l):SlI H H.next sz R w l:=by obtain⟨cs,h1,h2⟩:=h;exact h1.sl h2
theorem t7.na(h:t7 H lo sz R w l)(hv:L0 w=true)(H0:d9)(lo0:Nat):t7 H0 lo0 sz R w l:=by
 obtain⟨cs,h1,h2⟩:=h;rcases h1 with h1|⟨b,c,h3,_⟩
 ·exact⟨cs,.inl h1,h2⟩
 ·rw[h3]at hv;cases hv
theorem t7.fresh{cs:LV}{n c:Nat}(hn:n=l.length)(hlo:lo≤H.next)(hR:D2 sz R cs l):t7 (H.push (.cells cs true sz)) lo sz R (.slice (some ⟨H.next,0,none⟩) n c) l:=by
 subst hn;exact⟨cs,.inr ⟨H.next,c,rfl,i7,hlo,hR.1⟩,hR⟩
theorem t7.at_(h:t7 H lo sz R w l){i:Nat}{a:α}(hi:l[i]?=some a):∃b c cs,w= .slice (some ⟨b,0,none⟩) l.length c∧lo≤b∧b<H.next∧H.get b=some (.cells cs true sz)∧i*sz+sz≤cs.length∧R ((cs.drop (i*sz)).take sz) a:=by
 obtain⟨cs,h1,h2⟩:=h;have hl:i<l.length:=(List.getElem?_eq_some_iff.1 hi).1;rcases h1 with⟨_,h0,_⟩|⟨b,c,h3,h4,h5,h6⟩
 ·omega
 ·refine⟨b,c,cs,h3,h5,u6 h4,h4,?_,h2.2 i a hi⟩;have:(i+1)*sz≤l.length*sz:=Nat.mul_le_mul_right _ hl;rw[Nat.add_mul]at this;omega
theorem SlI.rows{v:Value}{n:Nat}(h:SlI H n sz R v l):∃a c el,v= .slice a l.length c∧A3 H sz (.slice a l.length c)=some el∧D2 sz R el l:=by
 obtain⟨a,c,rfl⟩:=h.slice;obtain⟨el,h1,h2⟩:=h.cells;exact⟨a,c,el,rfl,h1,h2⟩
theorem t7.append{P:Program}{t e:TypeId}{bytes n:Nat}{z:LV}{x:Value}(ht:P.underlying t=some (.slice e))(hs:z9 P e=some sz)(hb:A7 P e=some bytes)(hz:B8 P e=some z)(h0:0<sz)(h1:0<bytes)
  (h:t7 H lo sz R w l) (hx:SlI H n sz R x l2) (hr:(l.length+l2.length)*bytes≤140737488355328) (hlo:lo≤H.next):
  Ret (C3 P H [t,t] w x) H fun v' H'=>t7 H' lo sz R v' (l++l2)∧i4 lo H H':=by
 obtain⟨cs,k1,k2⟩:=h;obtain⟨a,c,el,rfl,q1,q2⟩:=hx.rows;obtain⟨v',h',H1,r1,r2,r3,r4⟩:=pW (m:=l2.length) ht hs hb hz h0 h1 k1 q1 q2.1 hr hlo;exact⟨v',h',H1,r1,r2,⟨cs++el,by rw[List.length_append];exact r3,k2.append q2⟩,r4⟩
end
def N5(x:Option (Value×Option d9))(H:d9)(sz:Nat){α:Type}(R:LV→α→Prop)(l:List α):Prop:=Ret x H fun w H1=>t7 H1 H.next sz R w l∧i4 H.next H H1
theorem I4{H H':d9}{sz:Nat}{α:Type}{R:LV→α→Prop}{w:Value}{l:List α}(h:t7 H' H.next sz R w l)(hS:i4 H.next H H')(hl:H.next≤H'.low):N5 (some (D4 w H H')) H sz R l:=
 D7 (fun hna _=>⟨h.na hna _ _,i4.refl _ _⟩) ⟨h.low _,hS.ret hl⟩
theorem N5.imp{x:Option (Value×Option d9)}{H:d9}{sz:Nat}{α:Type}{R R':LV→α→Prop}{l:List α}(h:N5 x H sz R l)(hR:∀cs a,R cs a→R' cs a):N5 x H sz R' l:=by
 obtain⟨v,h1,H1,h2,h3,h4,h5⟩:=h;exact⟨v,h1,H1,h2,h3,h4.imp hR,h5⟩
theorem vm(ks:List D1)(a b:Bool)(xs ys:LV):A0 (.bool::ks) (.bool a::xs) (.bool b::ys)=(A0 ks xs ys).map ((a==b)&& ·):=by
 simp only[A0,M6];cases A0 ks xs ys<;>rfl
abbrev v8{α:Type}(enc:α→LV):LV→α→Prop:=fun cs a=>cs=enc a
abbrev nmE(x:ByteArray×ByteArray):LV:=[.string x.1,.string x.2]
abbrev stE(s:ByteArray):LV:=[.string s]
abbrev soE(x:Bool×Bool×ByteArray):LV:=[.bool x.1,.bool x.2.1,.string x.2.2]
abbrev inE(n:Int):LV:=[.int .i64 n]
abbrev boE(b:Bool):LV:=[.bool b]
abbrev hoE(x:Int×Int×Int):LV:=[.int .i64 x.1,.int .i64 x.2.1,.int .i64 x.2.2]
abbrev edE(x:Int×Int×Int×Int):LV:=[.int .i64 x.1,.int .i64 x.2.1,.int .i64 x.2.2.1,.int .i64 x.2.2.2]
def ixG{α:Type}(p:α→Bool):List α→Nat→Int
 |[],_=> -1
 |a::l,i=>if p a then(i:Int) else ixG p l (i+1)
theorem eW{α:Type}(p:α→Bool):∀(l:List α)(i:Nat),(l.any p=false∧ixG p l i= -1)∨(l.any p=true∧(i:Int)≤ixG p l i∧ixG p l i<i+l.length)
 |[],i=> .inl ⟨rfl,rfl⟩
 |a::l,i=>by
  rw[ixG,List.any_cons,List.length_cons];cases h:p a with
  |true=>exact .inr ⟨rfl,by rw[if_pos rfl];omega,by rw[if_pos rfl];omega⟩
  |false=>
   rw[if_neg Bool.false_ne_true];rcases eW p l (i+1)with⟨h1,h2⟩|⟨h1,h2,h3⟩
   ·exact .inl ⟨by rw[h1];rfl,h2⟩
   ·exact .inr ⟨by rw[h1];rfl,oM,oM⟩
theorem eU{α:Type}(p:α→Bool)(l:List α):decide (0≤ixG p l 0)=l.any p:=by
 rcases eW p l 0 with⟨h1,h2⟩|⟨h1,h2,h3⟩
 ·rw[h1,h2];rfl
 ·rw[h1];exact decide_eq_true oM
theorem S4{α:Type}{l:List α}{i:Nat}(hi:i<l.length):∃a,l[i]?=some a∧l.drop i=a::l.drop (i+1):=
 ⟨l[i],List.getElem?_eq_getElem hi,List.drop_eq_getElem_cons hi⟩
theorem SlI.row{H:d9}{lo sz:Nat}{α:Type}{R:LV→α→Prop}{va:Option Addr}{n ca:Nat}{l:List α}(h:SlI H lo sz R (.slice va n ca) l){i:Nat}(hi:i<l.length):
  ∃x b o cs own el,l[i]?=some x∧l.drop i=x::l.drop (i+1)∧va=some ⟨b,o,none⟩∧b<lo∧H.get b=some (.cells cs own sz)∧o+i*sz+sz≤cs.length∧ldC (some true) (some sz) (o+i*sz) cs=some (.agg el.toArray)∧(∀k,k<sz→cs[o+i*sz+k]?=el[k]?)∧R el x:=by
 obtain⟨x,hx,hd⟩:=S4 (l:=l) (i:=i) hi;obtain⟨b,o,c,cs,own,hv,hb,hg,hle,hr⟩:=h.at_ hx;obtain⟨rfl,rfl,rfl⟩:va=some ⟨b,o,none⟩∧n=l.length∧ca=c:=by simpa using hv
 exact⟨x,b,o,cs,own,_,hx,hd,rfl,hb,hg,hle,pE hle rfl,fun k hk=>lP hk rfl,hr⟩
theorem vQ{cs el:LV}{a sz j m:Nat}(hc:∀k,k<sz→cs[a+k]?=el[k]?) (hle:a+sz≤cs.length) (hj:j+m≤sz):ldC (some true) (some m) (a+j) cs=some (.agg ((el.drop j).take m).toArray):=by
 rw[eX _ _ _ oM]
 congr 3
 refine List.ext_getElem? fun i=>?_;rw[List.getElem?_take,List.getElem?_take];split
 ·rw[List.getElem?_drop,List.getElem?_drop,Nat.add_assoc,hc _ oM]
 ·rfl
theorem t7.push1{P:Program}{t e:TypeId}{bytes sz lo:Nat}{z:LV}{α:Type}{R:LV→α→Prop}{H:d9}{w:Value}{l:List α}(ht:P.underlying t=some (.slice e))(hs:z9 P e=some sz)(hb:A7 P e=some bytes)(hz:B8 P e=some z)(h0:0<sz)(h1:0<bytes)
  (h:t7 H lo sz R w l) {cs:LV} {a:α} (hcs:cs.length=sz) (hR:R cs a) (hr:(l.length+1)*bytes≤140737488355328) (hlo:lo≤H.next):
  Ret (C3 P (H.push (.cells cs true sz)) [t,t] w (.slice (some ⟨H.next,0,none⟩) 1 1)) (H.push (.cells cs true sz)) fun v' H'=>t7 H' lo sz R v' (l++[a])∧i4 lo H H':=by
 have hO:=t7.fresh (H:=H) (lo:=H.next) (l:=[a]) (n:=1) (c:=1) rfl lR (D2.one hcs hR);have hn:(H.push (.cells cs true sz)).next=H.next+1:=i5;have hS:i4 H.next H (H.push (.cells cs true sz)):=i4.push lR;obtain⟨v',h',H',r1,r2,r3,r4⟩:=(h.keep hS).append ht hs hb hz h0 h1 hO.sl (by simpa using hr) oM;exact⟨v',h',H',r1,r2,r3,(hS.weaken hlo).trans r4⟩
end Go.Proofs.YtofbhlhamfkljaaGreatDoor.Ve
namespace Go.Proofs.YtofbhlhamfkljaaGreatDoor.Ve
open Go Go.RowKit
open Go.Proofs.Tryz (prog)
set_option linter.unusedVariables false
set_option linter.unusedSimpArgs false
set_option maxRecDepth 1000000
set_option maxHeartbeats 0
theorem QR.up{H:d9}{lo:Nat}:∀{k:Nat}{f:Bool}{cs:LV}{q:Q},QR H lo k f cs q→QR H lo (k+1) f cs q:=by
 intro k;induction k with
 |zero=>intro f cs q h;exact h.elim
 |succ k ih=>
  intro f cs q h;obtain⟨v,w,h1,h2,h3,h4⟩:=h;exact⟨v,w,h1,SlI.mono h2 (fun _ _=>rfl) lR (fun _ _ h=>ih h),SlI.mono h3 (fun _ _=>rfl) lR (fun _ _ h=>ih h),h4⟩
mutual
def fsQ:Bool→Q→List Q
 |f,.mk o s c v a b=>(if f then [.mk o s c v a b] else [])++(fsL f a++fsL (!f) b)
def fsL:Bool→List Q→List Q
 |_,[]=>[]
 |f,x::l=>fsQ f x++fsL f l
end
theorem kE(f:Bool)(q:Q):fsQ f q=(if f then [q] else [])++(fsL f q.a++fsL (!f) q.b):=by cases q;rw[fsQ];rfl
theorem fH(f:Bool):∀l,fsL f l=l.flatMap (fsQ f)
 |[]=>by rw[fsL];rfl
 |x::l=>by rw[fsL,fH f l,List.flatMap_cons]
mutual
def inQ:Bool→Q→List Q
 |f,.mk o s c v a b=>inL f a++(if f then(if o=11 then inL false b++b else []) else inL true b)
def inL:Bool→List Q→List Q
 |_,[]=>[]
 |f,x::l=>inQ f x++inL f l
end
theorem kN(q:Q):inQ false q=inL false q.a++inL true q.b:=by cases q;rw[inQ];rfl
theorem fI(q:Q):inQ true q=inL true q.a++(if q.op=11 then inL false q.b++q.b else []):=by cases q;rw[inQ];rfl
theorem dh(f:Bool):∀l,inL f l=l.flatMap (inQ f)
 |[]=>by rw[inL];rfl
 |x::l=>by rw[inL,dh f l,List.flatMap_cons]
def OkD(f:Bool)(q:Q):Prop:=∃d,okQ d f q=true
theorem OkD.parts{f:Bool}{q:Q}(h:OkD f q):(∀x∈q.a,OkD f x)∧(∀x∈q.b,OkD (!f) x)∧1≤q.op∧lE f q=true∧okN q.op (if f then 11 else 7) (lst f q.op) (mst f q.op) q.a.length q.b.length=true:=by
 obtain⟨d,h⟩:=h;cases d with
 |zero=>cases h
 |succ d=>
  rw[okQ]at h;simp only[Bool.and_eq_true,decide_eq_true_eq,List.all_eq_true]at h;obtain⟨⟨⟨⟨h1,h2⟩,h3⟩,h4⟩,h5⟩:=h;exact⟨fun x hx=>⟨d,h4 x hx⟩,fun x hx=>⟨d,h5 x hx⟩,h1,h2,h3⟩
theorem dk{op s least most:Int}{na nb:Nat}(h:okN op s least most na nb=true):least≤na∧(na:Int)≤most∧(op=s↔nb=1)∧nb≤1:=by
 simp only[okN,Bool.and_eq_true,decide_eq_true_eq,beq_iff_eq]at h;obtain⟨⟨⟨h1,h2⟩,h3⟩,h4⟩:=h;exact⟨h1,h2,by simpa using h3,h4⟩
def Q9(fn:Nat)(f:Bool)(sz:Nat)(rf:Bool)(F:Q→List Q)(k:Nat):Prop:=∀(H:d9)(lo:Nat)(cs:LV)(q:Q),lo≤H.next→QR H lo k f cs q→(F q).length≤1000000→OkD f q→N5 (CL prog t6 fn [.agg cs.toArray] H) H sz (QR H lo k rf) (F q)
theorem MD(F:Q→List Q)(k:Nat)(ih:Q9 86 false 6 true F k)(H1:d9)(lo bl:Nat)(hlo:lo≤bl)(hbl:bl<H1.next)(va:Option Addr)(ca:Nat)(l:List Q)(hv:QsR H1 lo k false (.slice va l.length ca) l)(hn:l.length≤1048576)(cl:LV)(hb:H1.get bl=cE cl 1)(hc:cl[1]?=some (.slice va l.length ca))(r:List Q)(hr:r.length≤1000000)(hw:∀x∈l,OkD false x):
  ∀kk e H2,(∃(i:Nat)(acc:List Q)(w:Value),kk=l.length-i∧i≤l.length∧e.get 1=pT bl∧e.get 3=w∧e.get 4=iV i∧t7 H2 (bl+1) 6 (QR H1 lo (k+1) true) w acc∧i4 (bl+1) H1 H2∧acc++(l.drop i).flatMap F=r)→
  u9 (LE prog t6 (.loop Gm) e H2) (fun o e H2=>o= .exit 0∧e.get 1=pT bl∧∃w,e.get 3=w∧t7 H2 (bl+1) 6 (QR H1 lo (k+1) true) w r∧i4 (bl+1) H1 H2):=by
 refine j7 _ _ ?_;rintro kk e H2 ⟨i,acc,w,hk,hi,f1,f3,f6,hO,hS,fu⟩;have hb2:H2.get bl=cE cl 1:=by rw[hS.get bl oM];exact hb
 have hn2:=hS.next;rcases b:decide ((i:Int)<l.length)with _|_
 ·have hb':=dF b;have:l.drop i=[]:=dN oM;rw[this,List.flatMap_nil,List.append_nil]at fu;refine J5 f1 f6 hb2 hc b ?_;exact l7 ⟨rfl,f1,w,f3,by rw[←fu];exact hO,hS⟩
 have hb':=dT b;obtain⟨x,nb,o,cs,own,el,hx,hd,rfl,hlt,hg,hle,hrow,hR⟩:=hv.row (i:=i) oM;have nt:(i:Int).toNat=i:=tN i;simp only[qSz,if_true,Bool.false_eq_true,if_false]at hrow hg;have hg2:=(hS.get nb oM).trans hg;rw[hd,List.flatMap_cons,←List.append_assoc]at fu;have hlen:acc.length+(F x).length≤1000000:=by
  have:r.length=acc.length+(F x).length+((l.drop (i+1)).flatMap F).length:=by rw[←fu,List.length_append,List.length_append]
  omega
 obtain⟨v,h,H3,hca,hge,hO3,hS3⟩:=ih H2 lo el x oM (hR.mono (fun j hj=>hS.get j oM) lR) oM (hw x (List.mem_of_getElem? hx));have hO3':t7 H3 H2.next 6 (QR H1 lo (k+1) true) v (F x):=hO3.imp fun cs q h=>(h.mono (fun j hj=>(hS.get j oM).symm) lR).up;have hn3:=hS3.next;obtain⟨v',h',H4,ha,hge',hO4,hS4⟩:=(hO.keep hS3).append (P:=prog) (t:=23) (n:=H3.next) (by exact pI.2.2.2.2.2.2) aW.1 aW.2.1 aW.2.2.1 oM oM hO3'.sl oM oM;refine J14 f1 f3 f6 hb2 hc b hg2 nt hrow @wrap_small hca hge ha hge' ?_;refine i6 (kk-1) oM ⟨i+1,acc++F x,v',oM,oM,f1,rfl,rfl,hO4,(hS.trans (hS3.weaken oM)).trans hS4,fu⟩
theorem ME(F:Q→List Q)(k:Nat)(ih:Q9 112 true 6 true F k)(H1:d9)(lo bl:Nat)(hlo:lo≤bl)(hbl:bl<H1.next)(va:Option Addr)(ca:Nat)(l:List Q)(hv:QsR H1 lo k true (.slice va l.length ca) l)(hn:l.length≤1048576)(cl:LV)(hb:H1.get bl=cE cl 1)(hc:cl[2]?=some (.slice va l.length ca))(r:List Q)(hr:r.length≤1000000)(hw:∀x∈l,OkD true x):
  ∀kk e H2,(∃(i:Nat)(acc:List Q)(w:Value),kk=l.length-i∧i≤l.length∧e.get 1=pT bl∧e.get 3=w∧e.get 5=iV i∧t7 H2 (bl+1) 6 (QR H1 lo (k+1) true) w acc∧i4 (bl+1) H1 H2∧acc++(l.drop i).flatMap F=r)→
  u9 (LE prog t6 (.loop Gn) e H2) (fun o e H2=>o= .exit 2∧e.get 1=pT bl∧∃w,e.get 3=w∧t7 H2 (bl+1) 6 (QR H1 lo (k+1) true) w r∧i4 (bl+1) H1 H2):=by
 refine j7 _ _ ?_;rintro kk e H2 ⟨i,acc,w,hk,hi,f1,f3,f6,hO,hS,fu⟩;have hb2:H2.get bl=cE cl 1:=by rw[hS.get bl oM];exact hb
 have hn2:=hS.next;rcases b:decide ((i:Int)<l.length)with _|_
 ·have hb':=dF b;have:l.drop i=[]:=dN oM;rw[this,List.flatMap_nil,List.append_nil]at fu;refine J5 f1 f6 hb2 hc b ?_;exact l7 ⟨rfl,f1,w,f3,by rw[←fu];exact hO,hS⟩
 have hb':=dT b;obtain⟨x,nb,o,cs,own,el,hx,hd,rfl,hlt,hg,hle,hrow,hR⟩:=hv.row (i:=i) oM;have nt:(i:Int).toNat=i:=tN i;simp only[qSz,if_true,Bool.false_eq_true,if_false]at hrow hg;have hg2:=(hS.get nb oM).trans hg;rw[hd,List.flatMap_cons,←List.append_assoc]at fu;have hlen:acc.length+(F x).length≤1000000:=by
  have:r.length=acc.length+(F x).length+((l.drop (i+1)).flatMap F).length:=by rw[←fu,List.length_append,List.length_append]
  omega
 obtain⟨v,h,H3,hca,hge,hO3,hS3⟩:=ih H2 lo el x oM (hR.mono (fun j hj=>hS.get j oM) lR) oM (hw x (List.mem_of_getElem? hx));have hO3':t7 H3 H2.next 6 (QR H1 lo (k+1) true) v (F x):=hO3.imp fun cs q h=>(h.mono (fun j hj=>(hS.get j oM).symm) lR).up;have hn3:=hS3.next;obtain⟨v',h',H4,ha,hge',hO4,hS4⟩:=(hO.keep hS3).append (P:=prog) (t:=23) (n:=H3.next) (by exact pI.2.2.2.2.2.2) aW.1 aW.2.1 aW.2.2.1 oM oM hO3'.sl oM oM;refine J14 f1 f3 f6 hb2 hc b hg2 nt hrow @wrap_small hca hge ha hge' ?_;refine i6 (kk-1) oM ⟨i+1,acc++F x,v',oM,oM,f1,rfl,rfl,hO4,(hS.trans (hS3.weaken oM)).trans hS4,fu⟩
theorem DS(F:Q→List Q)(k:Nat)(ih:Q9 112 true 6 true F k)(H1:d9)(lo bl:Nat)(hlo:lo≤bl)(hbl:bl<H1.next)(va:Option Addr)(ca:Nat)(l:List Q)(hv:QsR H1 lo k true (.slice va l.length ca) l)(hn:l.length≤1048576)(cl:LV)(hb:H1.get bl=cE cl 1)(hc:cl[4]?=some (.slice va l.length ca))(r:List Q)(hr:r.length≤1000000)(hw:∀x∈l,OkD true x):
  ∀kk e H2,(∃(i:Nat)(acc:List Q)(w:Value),kk=l.length-i∧i≤l.length∧e.get 1=pT bl∧e.get 3=w∧e.get 4=iV i∧t7 H2 (bl+1) 6 (QR H1 lo (k+1) true) w acc∧i4 (bl+1) H1 H2∧acc++(l.drop i).flatMap F=r)→
  u9 (LE prog t6 (.loop Aj) e H2) (fun o e H2=>o= .exit 0∧e.get 1=pT bl∧∃w,e.get 3=w∧t7 H2 (bl+1) 6 (QR H1 lo (k+1) true) w r∧i4 (bl+1) H1 H2):=by
 refine j7 _ _ ?_;rintro kk e H2 ⟨i,acc,w,hk,hi,f1,f3,f6,hO,hS,fu⟩;have hb2:H2.get bl=cE cl 1:=by rw[hS.get bl oM];exact hb
 have hn2:=hS.next;rcases b:decide ((i:Int)<l.length)with _|_
 ·have hb':=dF b;have:l.drop i=[]:=dN oM;rw[this,List.flatMap_nil,List.append_nil]at fu;refine J5 f1 f6 hb2 hc b ?_;exact l7 ⟨rfl,f1,w,f3,by rw[←fu];exact hO,hS⟩
 have hb':=dT b;obtain⟨x,nb,o,cs,own,el,hx,hd,rfl,hlt,hg,hle,hrow,hR⟩:=hv.row (i:=i) oM;have nt:(i:Int).toNat=i:=tN i;simp only[qSz,if_true,Bool.false_eq_true,if_false]at hrow hg;have hg2:=(hS.get nb oM).trans hg;rw[hd,List.flatMap_cons,←List.append_assoc]at fu;have hlen:acc.length+(F x).length≤1000000:=by
  have:r.length=acc.length+(F x).length+((l.drop (i+1)).flatMap F).length:=by rw[←fu,List.length_append,List.length_append]
  omega
 obtain⟨v,h,H3,hca,hge,hO3,hS3⟩:=ih H2 lo el x oM (hR.mono (fun j hj=>hS.get j oM) lR) oM (hw x (List.mem_of_getElem? hx));have hO3':t7 H3 H2.next 6 (QR H1 lo (k+1) true) v (F x):=hO3.imp fun cs q h=>(h.mono (fun j hj=>(hS.get j oM).symm) lR).up;have hn3:=hS3.next;obtain⟨v',h',H4,ha,hge',hO4,hS4⟩:=(hO.keep hS3).append (P:=prog) (t:=23) (n:=H3.next) (by exact pI.2.2.2.2.2.2) aW.1 aW.2.1 aW.2.2.1 oM oM hO3'.sl oM oM;refine J14 f1 f3 f6 hb2 hc b hg2 nt hrow @wrap_small hca hge ha hge' ?_;refine i6 (kk-1) oM ⟨i+1,acc++F x,v',oM,oM,f1,rfl,rfl,hO4,(hS.trans (hS3.weaken oM)).trans hS4,fu⟩
theorem DT(F:Q→List Q)(k:Nat)(ih:Q9 86 false 6 true F k)(H1:d9)(lo bl:Nat)(hlo:lo≤bl)(hbl:bl<H1.next)(va:Option Addr)(ca:Nat)(l:List Q)(hv:QsR H1 lo k false (.slice va l.length ca) l)(hn:l.length≤1048576)(cl:LV)(hb:H1.get bl=cE cl 1)(hc:cl[5]?=some (.slice va l.length ca))(r:List Q)(hr:r.length≤1000000)(hw:∀x∈l,OkD false x):
  ∀kk e H2,(∃(i:Nat)(acc:List Q)(w:Value),kk=l.length-i∧i≤l.length∧e.get 1=pT bl∧e.get 3=w∧e.get 5=iV i∧t7 H2 (bl+1) 6 (QR H1 lo (k+1) true) w acc∧i4 (bl+1) H1 H2∧acc++(l.drop i).flatMap F=r)→
  u9 (LE prog t6 (.loop Ak) e H2) (fun o e H2=>o= .exit 2∧e.get 1=pT bl∧∃w,e.get 3=w∧t7 H2 (bl+1) 6 (QR H1 lo (k+1) true) w r∧i4 (bl+1) H1 H2):=by
 refine j7 _ _ ?_;rintro kk e H2 ⟨i,acc,w,hk,hi,f1,f3,f6,hO,hS,fu⟩;have hb2:H2.get bl=cE cl 1:=by rw[hS.get bl oM];exact hb
 have hn2:=hS.next;rcases b:decide ((i:Int)<l.length)with _|_
 ·have hb':=dF b;have:l.drop i=[]:=dN oM;rw[this,List.flatMap_nil,List.append_nil]at fu;refine J5 f1 f6 hb2 hc b ?_;exact l7 ⟨rfl,f1,w,f3,by rw[←fu];exact hO,hS⟩
 have hb':=dT b;obtain⟨x,nb,o,cs,own,el,hx,hd,rfl,hlt,hg,hle,hrow,hR⟩:=hv.row (i:=i) oM;have nt:(i:Int).toNat=i:=tN i;simp only[qSz,if_true,Bool.false_eq_true,if_false]at hrow hg;have hg2:=(hS.get nb oM).trans hg;rw[hd,List.flatMap_cons,←List.append_assoc]at fu;have hlen:acc.length+(F x).length≤1000000:=by
  have:r.length=acc.length+(F x).length+((l.drop (i+1)).flatMap F).length:=by rw[←fu,List.length_append,List.length_append]
  omega
 obtain⟨v,h,H3,hca,hge,hO3,hS3⟩:=ih H2 lo el x oM (hR.mono (fun j hj=>hS.get j oM) lR) oM (hw x (List.mem_of_getElem? hx));have hO3':t7 H3 H2.next 6 (QR H1 lo (k+1) true) v (F x):=hO3.imp fun cs q h=>(h.mono (fun j hj=>(hS.get j oM).symm) lR).up;have hn3:=hS3.next;obtain⟨v',h',H4,ha,hge',hO4,hS4⟩:=(hO.keep hS3).append (P:=prog) (t:=23) (n:=H3.next) (by exact pI.2.2.2.2.2.2) aW.1 aW.2.1 aW.2.2.1 oM oM hO3'.sl oM oM;refine J14 f1 f3 f6 hb2 hc b hg2 nt hrow @wrap_small hca hge ha hge' ?_;refine i6 (kk-1) oM ⟨i+1,acc++F x,v',oM,oM,f1,rfl,rfl,hO4,(hS.trans (hS3.weaken oM)).trans hS4,fu⟩
theorem MB(F:Q→List Q)(k:Nat)(ih:Q9 68 false 3 false F k)(H1:d9)(lo bl:Nat)(hlo:lo≤bl)(hbl:bl<H1.next)(va:Option Addr)(ca:Nat)(l:List Q)(hv:QsR H1 lo k false (.slice va l.length ca) l)(hn:l.length≤1048576)(cl:LV)(hb:H1.get bl=cE cl 1)(hc:cl[1]?=some (.slice va l.length ca))(r:List Q)(hr:r.length≤1000000)(hw:∀x∈l,OkD false x):
  ∀kk e H2,(∃(i:Nat)(acc:List Q)(w:Value),kk=l.length-i∧i≤l.length∧e.get 1=pT bl∧e.get 3=w∧e.get 4=iV i∧t7 H2 (bl+1) 3 (QR H1 lo (k+1) false) w acc∧i4 (bl+1) H1 H2∧acc++(l.drop i).flatMap F=r)→
  u9 (LE prog t6 (.loop FZ) e H2) (fun o e H2=>o= .exit 0∧e.get 1=pT bl∧∃w,e.get 3=w∧t7 H2 (bl+1) 3 (QR H1 lo (k+1) false) w r∧i4 (bl+1) H1 H2):=by
 refine j7 _ _ ?_;rintro kk e H2 ⟨i,acc,w,hk,hi,f1,f3,f6,hO,hS,fu⟩;have hb2:H2.get bl=cE cl 1:=by rw[hS.get bl oM];exact hb
 have hn2:=hS.next;rcases b:decide ((i:Int)<l.length)with _|_
 ·have hb':=dF b;have:l.drop i=[]:=dN oM;rw[this,List.flatMap_nil,List.append_nil]at fu;refine J5 f1 f6 hb2 hc b ?_;exact l7 ⟨rfl,f1,w,f3,by rw[←fu];exact hO,hS⟩
 have hb':=dT b;obtain⟨x,nb,o,cs,own,el,hx,hd,rfl,hlt,hg,hle,hrow,hR⟩:=hv.row (i:=i) oM;have nt:(i:Int).toNat=i:=tN i;simp only[qSz,if_true,Bool.false_eq_true,if_false]at hrow hg;have hg2:=(hS.get nb oM).trans hg;rw[hd,List.flatMap_cons,←List.append_assoc]at fu;have hlen:acc.length+(F x).length≤1000000:=by
  have:r.length=acc.length+(F x).length+((l.drop (i+1)).flatMap F).length:=by rw[←fu,List.length_append,List.length_append]
  omega
 obtain⟨v,h,H3,hca,hge,hO3,hS3⟩:=ih H2 lo el x oM (hR.mono (fun j hj=>hS.get j oM) lR) oM (hw x (List.mem_of_getElem? hx));have hO3':t7 H3 H2.next 3 (QR H1 lo (k+1) false) v (F x):=hO3.imp fun cs q h=>(h.mono (fun j hj=>(hS.get j oM).symm) lR).up;have hn3:=hS3.next;obtain⟨v',h',H4,ha,hge',hO4,hS4⟩:=(hO.keep hS3).append (P:=prog) (t:=22) (n:=H3.next) (by exact jL.2.2.2.2.2.2) X8.1 X8.2.1 X8.2.2.1 oM oM hO3'.sl oM oM;refine J14 f1 f3 f6 hb2 hc b hg2 nt hrow @wrap_small hca hge ha hge' ?_;refine i6 (kk-1) oM ⟨i+1,acc++F x,v',oM,oM,f1,rfl,rfl,hO4,(hS.trans (hS3.weaken oM)).trans hS4,fu⟩
theorem MC(F:Q→List Q)(k:Nat)(ih:Q9 91 true 3 false F k)(H1:d9)(lo bl:Nat)(hlo:lo≤bl)(hbl:bl<H1.next)(va:Option Addr)(ca:Nat)(l:List Q)(hv:QsR H1 lo k true (.slice va l.length ca) l)(hn:l.length≤1048576)(cl:LV)(hb:H1.get bl=cE cl 1)(hc:cl[2]?=some (.slice va l.length ca))(r:List Q)(hr:r.length≤1000000)(hw:∀x∈l,OkD true x):
  ∀kk e H2,(∃(i:Nat)(acc:List Q)(w:Value),kk=l.length-i∧i≤l.length∧e.get 1=pT bl∧e.get 3=w∧e.get 5=iV i∧t7 H2 (bl+1) 3 (QR H1 lo (k+1) false) w acc∧i4 (bl+1) H1 H2∧acc++(l.drop i).flatMap F=r)→
  u9 (LE prog t6 (.loop Ga) e H2) (fun o e H2=>o= .exit 2∧e.get 1=pT bl∧∃w,e.get 3=w∧t7 H2 (bl+1) 3 (QR H1 lo (k+1) false) w r∧i4 (bl+1) H1 H2):=by
 refine j7 _ _ ?_;rintro kk e H2 ⟨i,acc,w,hk,hi,f1,f3,f6,hO,hS,fu⟩;have hb2:H2.get bl=cE cl 1:=by rw[hS.get bl oM];exact hb
 have hn2:=hS.next;rcases b:decide ((i:Int)<l.length)with _|_
 ·have hb':=dF b;have:l.drop i=[]:=dN oM;rw[this,List.flatMap_nil,List.append_nil]at fu;refine J5 f1 f6 hb2 hc b ?_;exact l7 ⟨rfl,f1,w,f3,by rw[←fu];exact hO,hS⟩
 have hb':=dT b;obtain⟨x,nb,o,cs,own,el,hx,hd,rfl,hlt,hg,hle,hrow,hR⟩:=hv.row (i:=i) oM;have nt:(i:Int).toNat=i:=tN i;simp only[qSz,if_true,Bool.false_eq_true,if_false]at hrow hg;have hg2:=(hS.get nb oM).trans hg;rw[hd,List.flatMap_cons,←List.append_assoc]at fu;have hlen:acc.length+(F x).length≤1000000:=by
  have:r.length=acc.length+(F x).length+((l.drop (i+1)).flatMap F).length:=by rw[←fu,List.length_append,List.length_append]
  omega
 obtain⟨v,h,H3,hca,hge,hO3,hS3⟩:=ih H2 lo el x oM (hR.mono (fun j hj=>hS.get j oM) lR) oM (hw x (List.mem_of_getElem? hx));have hO3':t7 H3 H2.next 3 (QR H1 lo (k+1) false) v (F x):=hO3.imp fun cs q h=>(h.mono (fun j hj=>(hS.get j oM).symm) lR).up;have hn3:=hS3.next;obtain⟨v',h',H4,ha,hge',hO4,hS4⟩:=(hO.keep hS3).append (P:=prog) (t:=22) (n:=H3.next) (by exact jL.2.2.2.2.2.2) X8.1 X8.2.1 X8.2.2.1 oM oM hO3'.sl oM oM;refine J14 f1 f3 f6 hb2 hc b hg2 nt hrow @wrap_small hca hge ha hge' ?_;refine i6 (kk-1) oM ⟨i+1,acc++F x,v',oM,oM,f1,rfl,rfl,hO4,(hS.trans (hS3.weaken oM)).trans hS4,fu⟩
theorem MF(F:Q→List Q)(k:Nat)(ih:Q9 91 true 3 false F k)(H1:d9)(lo bl:Nat)(hlo:lo≤bl)(hbl:bl<H1.next)(va:Option Addr)(ca:Nat)(l:List Q)(hv:QsR H1 lo k true (.slice va l.length ca) l)(hn:l.length≤1048576)(cl:LV)(hb:H1.get bl=cE cl 1)(hc:cl[4]?=some (.slice va l.length ca))(r:List Q)(hr:r.length≤1000000)(hw:∀x∈l,OkD true x):
  ∀kk e H2,(∃(i:Nat)(acc:List Q)(w:Value),kk=l.length-i∧i≤l.length∧e.get 1=pT bl∧e.get 3=w∧e.get 4=iV i∧t7 H2 (bl+1) 3 (QR H1 lo (k+1) false) w acc∧i4 (bl+1) H1 H2∧acc++(l.drop i).flatMap F=r)→
  u9 (LE prog t6 (.loop Gu) e H2) (fun o e H2=>o= .exit 0∧e.get 1=pT bl∧∃w,e.get 3=w∧t7 H2 (bl+1) 3 (QR H1 lo (k+1) false) w r∧i4 (bl+1) H1 H2):=by
 refine j7 _ _ ?_;rintro kk e H2 ⟨i,acc,w,hk,hi,f1,f3,f6,hO,hS,fu⟩;have hb2:H2.get bl=cE cl 1:=by rw[hS.get bl oM];exact hb
 have hn2:=hS.next;rcases b:decide ((i:Int)<l.length)with _|_
 ·have hb':=dF b;have:l.drop i=[]:=dN oM;rw[this,List.flatMap_nil,List.append_nil]at fu;refine J5 f1 f6 hb2 hc b ?_;exact l7 ⟨rfl,f1,w,f3,by rw[←fu];exact hO,hS⟩
 have hb':=dT b;obtain⟨x,nb,o,cs,own,el,hx,hd,rfl,hlt,hg,hle,hrow,hR⟩:=hv.row (i:=i) oM;have nt:(i:Int).toNat=i:=tN i;simp only[qSz,if_true,Bool.false_eq_true,if_false]at hrow hg;have hg2:=(hS.get nb oM).trans hg;rw[hd,List.flatMap_cons,←List.append_assoc]at fu;have hlen:acc.length+(F x).length≤1000000:=by
  have:r.length=acc.length+(F x).length+((l.drop (i+1)).flatMap F).length:=by rw[←fu,List.length_append,List.length_append]
  omega
 obtain⟨v,h,H3,hca,hge,hO3,hS3⟩:=ih H2 lo el x oM (hR.mono (fun j hj=>hS.get j oM) lR) oM (hw x (List.mem_of_getElem? hx));have hO3':t7 H3 H2.next 3 (QR H1 lo (k+1) false) v (F x):=hO3.imp fun cs q h=>(h.mono (fun j hj=>(hS.get j oM).symm) lR).up;have hn3:=hS3.next;obtain⟨v',h',H4,ha,hge',hO4,hS4⟩:=(hO.keep hS3).append (P:=prog) (t:=22) (n:=H3.next) (by exact jL.2.2.2.2.2.2) X8.1 X8.2.1 X8.2.2.1 oM oM hO3'.sl oM oM;refine J14 f1 f3 f6 hb2 hc b hg2 nt hrow @wrap_small hca hge ha hge' ?_;refine i6 (kk-1) oM ⟨i+1,acc++F x,v',oM,oM,f1,rfl,rfl,hO4,(hS.trans (hS3.weaken oM)).trans hS4,fu⟩
theorem Xr(k:Nat)(ih1:Q9 86 false 6 true (fsQ false) k)(ih2:Q9 112 true 6 true (fsQ true) k):Q9 86 false 6 true (fsQ false) (k+1):=by
 intro H lo cs q hlo hr hl hok;obtain⟨ok1,ok2,_⟩:=hok.parts;obtain⟨va,ca,wa,ca',rfl,h1,h2,h3,h4⟩:=hr.path;obtain⟨H1,hH1⟩:∃H1,H1=d9.push ⟨H.bs,H.next⟩ (.cells [iV q.op,.slice va q.a.length ca,.slice wa q.b.length ca'] true 1):=⟨_,rfl⟩
 have hS:i4 H.next H H1:=by rw[hH1];exact i4.first H _
 have hg:H1.get H.next=cE [iV q.op,.slice va q.a.length ca,.slice wa q.b.length ca'] 1:=by rw[hH1];exact i7
 have hlow:H.next≤H1.low:=by rw[hH1,t5];exact lR
 have hgl:=u6 hg;have hs:fsQ false q=(fsL false q.a)++fsL true q.b:=by rw[kE false q,if_neg Bool.false_ne_true,List.nil_append]<;>rfl
 have h1':=h1.mono (H':=H1) (fun j hj=>hS.get j oM) lR;have h2':=h2.mono (H':=H1) (fun j hj=>hS.get j oM) lR;rw[hs]at hl ⊢;have hl1:(fsL false q.a).length≤1000000:=by rw[List.length_append]at hl;omega
 rw[j8 ae9 rfl _ (by simp)];refine J1 hH1.symm ?_;refine l9 (F:=fun z=>N5 (u5 _ _ _ (u7 (inBlock 0 z) _)) _ _ _ _) (MD (fsQ false) k ih1 H1 lo H.next hlo hgl va ca q.a h1' h3 _ hg rfl (fsL false q.a) hl1 ok1 q.a.length _ _ ⟨0,[],_,rfl,oM,rfl,rfl,rfl,t7.nil,i4.refl _ _,by rw[fH];rfl⟩) ?_;rintro o e' H2 ⟨ho,g1,w,g3,hO,hS2⟩;have hn2:=hS2.next;have hg2:H2.get H.next=_:=(hS2.get H.next oM).trans hg;have h2'':=h2'.mono (H':=H2) (fun j hj=>hS2.get j oM) lR;refine J1 ho ?_;refine l9 (F:=fun z=>N5 (u5 _ _ _ (u7 (inBlock 2 z) _)) _ _ _ _) (ME (fsQ true) k ih2 H2 lo H.next hlo (u6 hg2) wa ca' q.b h2'' h4 _ hg2 rfl (fsL false q.a++fsL true q.b) hl ok2 q.b.length _ _ ⟨0,fsL false q.a,w,rfl,oM,g1,g3,rfl,hO.imp fun cs q h=>h.mono (fun j hj=>hS2.get j oM) lR,i4.refl _ _,by rw[fH true];rfl⟩) ?_;rintro o e' H3 ⟨ho,g1,w,g3,hO,hS3⟩;have hSS:i4 (H.next+1) H1 H3:=hS2.trans hS3;refine J2 ho g3 ?_;exact I4 ((hO.weaken oM).imp fun cs q h=>h.mono (fun j hj=>by rw[←hS.get j oM,←hS2.get j oM]) lR) (hS.trans (hSS.weaken oM)) ((hSS.weaken oM).low hlow)
theorem Xq(k:Nat)(ih1:Q9 68 false 3 false (inQ false) k)(ih2:Q9 91 true 3 false (inQ true) k):Q9 68 false 3 false (inQ false) (k+1):=by
 intro H lo cs q hlo hr hl hok;obtain⟨ok1,ok2,_⟩:=hok.parts;obtain⟨va,ca,wa,ca',rfl,h1,h2,h3,h4⟩:=hr.path;obtain⟨H1,hH1⟩:∃H1,H1=d9.push ⟨H.bs,H.next⟩ (.cells [iV q.op,.slice va q.a.length ca,.slice wa q.b.length ca'] true 1):=⟨_,rfl⟩
 have hS:i4 H.next H H1:=by rw[hH1];exact i4.first H _
 have hg:H1.get H.next=cE [iV q.op,.slice va q.a.length ca,.slice wa q.b.length ca'] 1:=by rw[hH1];exact i7
 have hlow:H.next≤H1.low:=by rw[hH1,t5];exact lR
 have hgl:=u6 hg;have hs:inQ false q=(inL false q.a)++inL true q.b:=by rw[kN q]<;>rfl
 have h1':=h1.mono (H':=H1) (fun j hj=>hS.get j oM) lR;have h2':=h2.mono (H':=H1) (fun j hj=>hS.get j oM) lR;rw[hs]at hl ⊢;have hl1:(inL false q.a).length≤1000000:=by rw[List.length_append]at hl;omega
 rw[j8 ad6 rfl _ (by simp)];refine J1 hH1.symm ?_;refine l9 (F:=fun z=>N5 (u5 _ _ _ (u7 (inBlock 0 z) _)) _ _ _ _) (MB (inQ false) k ih1 H1 lo H.next hlo hgl va ca q.a h1' h3 _ hg rfl (inL false q.a) hl1 ok1 q.a.length _ _ ⟨0,[],_,rfl,oM,rfl,rfl,rfl,t7.nil,i4.refl _ _,by rw[dh];rfl⟩) ?_;rintro o e' H2 ⟨ho,g1,w,g3,hO,hS2⟩;have hn2:=hS2.next;have hg2:H2.get H.next=_:=(hS2.get H.next oM).trans hg;have h2'':=h2'.mono (H':=H2) (fun j hj=>hS2.get j oM) lR;refine J1 ho ?_;refine l9 (F:=fun z=>N5 (u5 _ _ _ (u7 (inBlock 2 z) _)) _ _ _ _) (MC (inQ true) k ih2 H2 lo H.next hlo (u6 hg2) wa ca' q.b h2'' h4 _ hg2 rfl (inL false q.a++inL true q.b) hl ok2 q.b.length _ _ ⟨0,inL false q.a,w,rfl,oM,g1,g3,rfl,hO.imp fun cs q h=>h.mono (fun j hj=>hS2.get j oM) lR,i4.refl _ _,by rw[dh true];rfl⟩) ?_;rintro o e' H3 ⟨ho,g1,w,g3,hO,hS3⟩;have hSS:i4 (H.next+1) H1 H3:=hS2.trans hS3;refine J2 ho g3 ?_;exact I4 ((hO.weaken oM).imp fun cs q h=>h.mono (fun j hj=>by rw[←hS.get j oM,←hS2.get j oM]) lR) (hS.trans (hSS.weaken oM)) ((hSS.weaken oM).low hlow)
theorem MA(k:Nat)(ih1:Q9 112 true 6 true (fsQ true) k)(ih2:Q9 86 false 6 true (fsQ false) k):Q9 112 true 6 true (fsQ true) (k+1):=by
 intro H lo cs q hlo hr hl hok;obtain⟨ok1,ok2,_⟩:=hok.parts;have hr0:=hr;obtain⟨va,ca,wa,ca',rfl,h1,h2,h3,h4,_⟩:=hr.filter;obtain⟨row,hrow⟩:∃row:LV,row=[iV q.op,.string q.sp,.string q.lc,.string q.vl,.slice va q.a.length ca,.slice wa q.b.length ca']:=⟨_,rfl⟩
 obtain⟨H1,hH1⟩:∃H1,H1=d9.push ⟨H.bs,H.next⟩ (.cells row true 1):=⟨_,rfl⟩
 have hS:i4 H.next H H1:=by rw[hH1];exact i4.first H _
 have hg:H1.get H.next=cE row 1:=by rw[hH1];exact i7
 have hlow:H.next≤H1.low:=by rw[hH1,t5];exact lR
 have hgl:=u6 hg;have hld:ldC (some true) (some 6) 0 row=some (.agg row.toArray):=by rw[hrow];rfl
 obtain⟨H2,hH2⟩:∃H2,H2=H1.push (.cells row true 6):=⟨_,rfl⟩
 have hS2:i4 (H.next+1) H1 H2:=by rw[hH2];exact i4.push oM
 have hn2:=hS2.next;have hg2:H2.get H.next=_:=(hS2.get H.next oM).trans hg;rw[←hrow]at hr0;have hO:t7 H2 (H.next+1) 6 (QR H2 lo (k+1) true) (.slice (some ⟨H1.next,0,none⟩) 1 1) [q]:=by
  rw[hH2];refine t7.fresh rfl oM (D2.one (by rw[hrow];rfl) (hr0.mono (fun j hj=>?_) lR));rw[j6 oM,hS.get j oM]
 have hs:fsQ true q=[q]++(fsL true q.a++fsL false q.b):=by rw[kE true q,if_pos rfl];rfl
 have h1':=h1.mono (H':=H2) (fun j hj=>by rw[hS2.get j oM,hS.get j oM]) lR;rw[hs,←List.append_assoc]at hl ⊢;have hl1:([q]++fsL true q.a).length≤1000000:=by rw[List.length_append]at hl;omega
 have hc4:row[4]?=some (.slice va q.a.length ca):=by rw[hrow];rfl
 have hc5:row[5]?=some (.slice wa q.b.length ca'):=by rw[hrow];rfl
 have hall:row.all Value.oneCell'=true:=by rw[hrow];rfl
 have hall2:(Value.agg row.toArray).cells.toList=row:=rfl;have hlen6:row.length=6:=by rw[hrow];rfl
 rw[j8 WC rfl _ (by simp),←hrow];have bsl:bsA prog (some 86) H1 1 [(0,.agg row.toArray)]=some (.slice (some ⟨H1.next,0,none⟩) 1 1,H2):=by
  rw[hrow,hH2,hrow];simp only[C7,aW,C8];rfl
 refine J5 hall hH1.symm hg hld bsl ?_;refine l9 (F:=fun z=>N5 (u5 _ _ _ (u7 (inBlock 0 z) _)) _ _ _ _) (DS (fsQ true) k ih1 H2 lo H.next hlo (u6 hg2) va ca q.a h1' h3 _ hg2 hc4 ([q]++fsL true q.a) hl1 ok1 q.a.length _ _ ⟨0,[q],_,rfl,oM,rfl,rfl,rfl,hO,i4.refl _ _,by rw[fH];rfl⟩) ?_;rintro o e' H3 ⟨ho,g1,w,g3,hO,hS3⟩;have hn3:=hS3.next;have hg3:H3.get H.next=_:=(hS3.get H.next oM).trans hg2;have h2'':=h2.mono (H':=H3) (fun j hj=>by rw[hS3.get j oM,hS2.get j oM,hS.get j oM]) lR;refine J1 ho ?_;refine l9 (F:=fun z=>N5 (u5 _ _ _ (u7 (inBlock 2 z) _)) _ _ _ _) (DT (fsQ false) k ih2 H3 lo H.next hlo (u6 hg3) wa ca' q.b h2'' h4 _ hg3 hc5 ([q]++fsL true q.a++fsL false q.b) hl ok2 q.b.length _ _ ⟨0,[q]++fsL true q.a,w,rfl,oM,g1,g3,rfl,hO.imp fun cs q h=>h.mono (fun j hj=>hS3.get j oM) lR,i4.refl _ _,by rw[fH false];rfl⟩) ?_;rintro o e' H4 ⟨ho,g1,w,g3,hO,hS4⟩;have hSS:i4 (H.next+1) H1 H4:=(hS2.trans hS3).trans hS4;refine J2 ho g3 ?_;exact I4 ((hO.weaken oM).imp fun cs q h=>h.mono (fun j hj=>by rw[←hS.get j oM,←hS2.get j oM,←hS3.get j oM]) lR) (hS.trans (hSS.weaken oM)) ((hSS.weaken oM).low hlow)
theorem My:∀k,Q9 86 false 6 true (fsQ false) k∧Q9 112 true 6 true (fsQ true) k:=by
 intro k;induction k with
 |zero=>exact⟨fun H lo cs q hlo hr=>hr.elim,fun H lo cs q hlo hr=>hr.elim⟩
 |succ k ih=>exact⟨Xr k ih.1 ih.2,MA k ih.2 ih.1⟩
theorem Xs(k:Nat)(ih1:Q9 91 true 3 false (inQ true) k)(ih2:Q9 68 false 3 false (inQ false) k):Q9 91 true 3 false (inQ true) (k+1):=by
 intro H lo cs q hlo hr hl hok;obtain⟨ok1,ok2,_,_,okn⟩:=hok.parts;have h11:=(dk okn).2.2.1;simp only[if_true]at h11;obtain⟨va,ca,wa,ca',rfl,h1,h2,h3,h4,_⟩:=hr.filter;obtain⟨H1,hH1⟩:∃H1,H1=d9.push ⟨H.bs,H.next⟩ (.cells [iV q.op,.string q.sp,.string q.lc,.string q.vl,.slice va q.a.length ca,.slice wa q.b.length ca'] true 1):=⟨_,rfl⟩
 have hS:i4 H.next H H1:=by rw[hH1];exact i4.first H _
 have hg:H1.get H.next=cE [iV q.op,.string q.sp,.string q.lc,.string q.vl,.slice va q.a.length ca,.slice wa q.b.length ca'] 1:=by rw[hH1];exact i7
 have hlow:H.next≤H1.low:=by rw[hH1,t5];exact lR
 have hgl:=u6 hg;have h1':=h1.mono (H':=H1) (fun j hj=>hS.get j oM) lR;rw[fI]at hl ⊢;have hl1:(inL true q.a).length≤1000000:=by rw[List.length_append]at hl;omega
 rw[j8 af3 rfl _ (by simp)];refine J1 hH1.symm ?_;refine l9 (F:=fun z=>N5 (u5 _ _ _ (u7 (inBlock 0 z) _)) _ _ _ _) (MF (inQ true) k ih1 H1 lo H.next hlo hgl va ca q.a h1' h3 _ hg rfl (inL true q.a) hl1 ok1 q.a.length _ _ ⟨0,[],_,rfl,oM,rfl,rfl,rfl,t7.nil,i4.refl _ _,by rw[dh];rfl⟩) ?_;rintro o e' H2 ⟨ho,g1,w,g3,hO,hS2⟩;have hn2:=hS2.next;have hg2:H2.get H.next=_:=(hS2.get H.next oM).trans hg;rcases b:decide (q.op=11)with _|_
 ·have hb:=dF b;rw[if_neg hb,List.append_nil];refine J5 ho g1 g3 hg2 b ?_;exact I4 ((hO.weaken oM).imp fun cs q h=>h.mono (fun j hj=>by rw[←hS.get j oM]) lR) (hS.trans (hS2.weaken oM)) ((hS2.weaken oM).low hlow)
 have hb:=dT b;rw[if_pos hb]at hl ⊢;have hl1:=h11.1 hb;obtain⟨x,nb,o,cs,own,el,hx,hd,rfl,hlt,hgx,hle,hrow,hR⟩:=h2.row (i:=0) oM;have hbx:q.b=[x]:=by
  obtain⟨y,hy⟩:=List.length_eq_one_iff.1 hl1;rw[hy]at hx ⊢;simpa using hx
 have hfl:inL false q.b=inQ false x:=by rw[hbx,dh];simp
 rw[hfl,hbx]at hl ⊢;simp only[List.length_append,List.length_cons,List.length_nil]at hl;simp only[qSz,if_true,Bool.false_eq_true,if_false,Bool.not_false,Bool.not_true,Nat.zero_mul,Nat.add_zero]at hrow hgx hle;have hgx2:H2.get nb=_:=(hS2.get nb oM).trans ((hS.get nb oM).trans hgx);have hR2:QR H2 lo k false el x:=hR.mono (fun j hj=>by rw[hS2.get j oM,hS.get j oM]) lR;obtain⟨v,h,H3,hca,hge,hO3,hS3⟩:=ih2 H2 lo el x oM hR2 oM (ok2 x (by rw[hbx];simp));have hO3':t7 H3 H2.next 3 (QR H1 lo (k+1) false) v (inQ false x):=hO3.imp fun cs q h=>(h.mono (fun j hj=>(hS2.get j oM).symm) lR).up;have hn3:=hS3.next;obtain⟨v',h',H4,ha,hge',hO4,hS4⟩:=(hO.keep hS3).append (P:=prog) (t:=22) (n:=H3.next) (by exact jL.2.2.2.2.2.2) X8.1 X8.2.1 X8.2.2.1 oM oM hO3'.sl oM oM;have hn4:=hS4.next;have hg4:H4.get H.next=_:=(hS4.get H.next oM).trans ((hS3.get H.next oM).trans hg2);have hgx4:H4.get nb=_:=(hS4.get nb oM).trans ((hS3.get nb oM).trans hgx2);obtain⟨H5,hH5⟩:∃H5,H5=H4.push (.cells el true 3):=⟨_,rfl⟩
 have hS5:i4 H4.next H4 H5:=by rw[hH5];exact i4.push oM
 have hn5:=hS5.next;have hO5:t7 H5 H4.next 3 (QR H1 lo (k+1) false) (.slice (some ⟨H4.next,0,none⟩) 1 1) [x]:=by
  rw[hH5];refine t7.fresh rfl oM (D2.one hR.len (hR2.up.mono (fun j hj=>(hS2.get j oM).symm) lR))
 obtain⟨v6,h6,H6,ha6,hge6,hO6,hS6⟩:=(hO4.keep hS5).append (P:=prog) (t:=22) (n:=H5.next) (by exact jL.2.2.2.2.2.2) X8.1 X8.2.1 X8.2.2.1 oM oM hO5.sl (by simp only[List.length_append,List.length_cons,List.length_nil];omega) oM;have bsl:bsA prog (some 25) H4 1 [(0,.agg el.toArray)]=some (.slice (some ⟨H4.next,0,none⟩) 1 1,H5):=by
  have e3:el=[iV x.op,el[1]?.getD undef,el[2]?.getD undef]:=by
   cases k with
   |zero=>exact hR2.elim
   |succ k=>obtain⟨_,_,_,_,rfl,_⟩:=hR2.path;rfl
  rw[hH5];cases k with
  |zero=>exact hR2.elim
  |succ k=>
   obtain⟨_,_,_,_,rfl,_⟩:=hR2.path;simp only[C7,X8,C8];rfl
 refine J16 ho g1 g3 hg2 b hgx2 hrow hca hge ha hge' hg4 hgx4 bsl ha6 hge6 ?_;have hSS:i4 (H.next+1) H1 H6:=(((hS2.trans (hS3.weaken oM)).trans hS4).trans (hS5.weaken oM)).trans hS6;rw[←List.append_assoc];exact I4 ((hO6.weaken oM).imp fun cs q h=>h.mono (fun j hj=>by rw[←hS.get j oM]) lR) (hS.trans (hSS.weaken oM)) ((hSS.weaken oM).low hlow)
theorem MS:∀k,Q9 68 false 3 false (inQ false) k∧Q9 91 true 3 false (inQ true) k:=by
 intro k;induction k with
 |zero=>exact⟨fun H lo cs q hlo hr=>hr.elim,fun H lo cs q hlo hr=>hr.elim⟩
 |succ k ih=>exact⟨Xq k ih.1 ih.2,Xs k ih.2 ih.1⟩
abbrev Q3(x y:ByteArray×ByteArray):Bool:=decide (x.1=y.1)&&decide (x.2=y.2)
abbrev ci(x y:ByteArray):Bool:=decide (x=y)
abbrev fo(x y:Bool×Bool×ByteArray):Bool:=(x.1==y.1)&&((x.2.1==y.2.1)&&decide (x.2.2=y.2.2))
theorem Er(H0:d9)(lo:Nat)(va:Option Addr)(ca:Nat)(l:List (ByteArray×ByteArray))(x:ByteArray×ByteArray)(hv:SlI H0 lo 2 (v8 nmE) (.slice va l.length ca) l)(hn:l.length≤1048576)(bx:Nat)(hb:H0.get bx=cE (nmE x) 1)(r:Bool):
  ∀kk e H2,(∃i:Nat,kk=l.length-i∧i≤l.length∧e.get 0= .slice va l.length ca∧e.get 3=pT bx∧e.get 5=iV i∧H2=H0∧(l.drop i).any (fun y=>Q3 y x)=r)→
  u9 (LE prog t6 (.loop Al) e H2) (fun o e H2=>H2=H0∧((o= .exit 0∧r=false)∨(o= .ret∧e.get 4= .bool true∧r=true))):=by
 refine j7 _ _ ?_;rintro kk e H2 ⟨i,hk,hi,f0,f3,f5,hH,fu⟩;subst hH;rcases b:decide ((i:Int)<l.length)with _|_
 ·have hb':=dF b;have:l.drop i=[]:=dN oM;rw[this,List.any_nil]at fu;refine J3 f0 f5 b ?_;exact l7 ⟨rfl,.inl ⟨rfl,fu.symm⟩⟩
 have hb':=dT b;obtain⟨y,nb,o,cs,own,el,hx,hd,rfl,hlt,hg,hle,hrow,hc,rfl⟩:=hv.row (i:=i) oM;have nt:(i:Int).toNat=i:=tN i;have c0:=hc 0 oM;rw[Nat.add_zero]at c0;rw[hd,List.any_cons]at fu;rcases b2:(Q3 y x:Bool)with _|_
 ·simp only[b2,Bool.false_eq_true,if_false,Bool.false_or]at fu;refine J10 f0 f3 f5 b hb hg nt hrow @wrap_small b2 ?_;exact i6 (kk-1) oM ⟨i+1,oM,oM,f0,f3,rfl,rfl,fu⟩
 ·simp only[b2,if_true,Bool.true_or]at fu;refine J9 f0 f3 f5 b hb hg nt hrow b2 ?_;exact A6 ⟨rfl,.inr ⟨rfl,rfl,fu.symm⟩⟩
theorem Nc(H0:d9)(lo:Nat)(va:Option Addr)(ca:Nat)(l:List (ByteArray))(x:ByteArray)(hv:SlI H0 lo 1 (v8 stE) (.slice va l.length ca) l)(hn:l.length≤1048576)(r:Bool):
  ∀kk e H2,(∃i:Nat,kk=l.length-i∧i≤l.length∧e.get 0= .slice va l.length ca∧e.get 1= .string x∧e.get 5=iV i∧H2=H0∧(l.drop i).any (fun y=>ci y x)=r)→
  u9 (LE prog t6 (.loop FX) e H2) (fun o e H2=>H2=H0∧((o= .exit 0∧r=false)∨(o= .ret∧e.get 4= .bool true∧r=true))):=by
 refine j7 _ _ ?_;rintro kk e H2 ⟨i,hk,hi,f0,f3,f5,hH,fu⟩;subst hH;rcases b:decide ((i:Int)<l.length)with _|_
 ·have hb':=dF b;have:l.drop i=[]:=dN oM;rw[this,List.any_nil]at fu;refine J3 f0 f5 b ?_;exact l7 ⟨rfl,.inl ⟨rfl,fu.symm⟩⟩
 have hb':=dT b;obtain⟨y,nb,o,cs,own,el,hx,hd,rfl,hlt,hg,hle,hrow,hc,rfl⟩:=hv.row (i:=i) oM;have nt:(i:Int).toNat=i:=tN i;have c0:=hc 0 oM;rw[Nat.add_zero]at c0;rw[hd,List.any_cons]at fu;rcases b2:(ci y x:Bool)with _|_
 ·simp only[b2,Bool.false_eq_true,if_false,Bool.false_or]at fu;refine J9 f0 f3 f5 b hg nt c0 @wrap_small b2 ?_;exact i6 (kk-1) oM ⟨i+1,oM,oM,f0,f3,rfl,rfl,fu⟩
 ·simp only[b2,if_true,Bool.true_or]at fu;refine J8 f0 f3 f5 b hg nt c0 b2 ?_;exact A6 ⟨rfl,.inr ⟨rfl,rfl,fu.symm⟩⟩
theorem Nb(H0:d9)(lo:Nat)(va:Option Addr)(ca:Nat)(l:List (Bool×Bool×ByteArray))(x:Bool×Bool×ByteArray)(hv:SlI H0 lo 3 (v8 soE) (.slice va l.length ca) l)(hn:l.length≤1048576)(bx:Nat)(hb:H0.get bx=cE (soE x) 1)(r:Int):
  ∀kk e H2,(∃i:Nat,kk=l.length-i∧i≤l.length∧e.get 0= .slice va l.length ca∧e.get 3=pT bx∧e.get 7=iV l.length∧e.get 8=iV i∧H2=H0∧ixG (fun y=>fo x y) (l.drop i) i=r)→
  u9 (LE prog t6 (.loop FG) e H2) (fun o e H2=>H2=H0∧((o= .exit 0∧r= -1)∨(o= .ret∧e.get 4=iV r))):=by
 refine j7 _ _ ?_;rintro kk e H2 ⟨i,hk,hi,f0,f3,f7,f5,hH,fu⟩;subst hH;rcases b:decide ((i:Int)<l.length)with _|_
 ·have hb':=dF b;have:l.drop i=[]:=dN oM;rw[this,ixG]at fu;refine J3 f7 f5 b ?_;exact l7 ⟨rfl,.inl ⟨rfl,fu.symm⟩⟩
 have hb':=dT b;obtain⟨y,nb,o,cs,own,el,hx,hd,rfl,hlt,hg,hle,hrow,hc,rfl⟩:=hv.row (i:=i) oM;have nt:(i:Int).toNat=i:=tN i;have c0:=hc 0 oM;rw[Nat.add_zero]at c0;rw[hd,ixG]at fu;rcases b2:(fo x y:Bool)with _|_
 ·simp only[b2,Bool.false_eq_true,if_false,Bool.false_or]at fu;refine J12 f0 f3 f7 f5 @vm b hb hg nt hrow @wrap_small b2 ?_;exact i6 (kk-1) oM ⟨i+1,oM,oM,f0,f3,f7,rfl,rfl,fu⟩
 ·simp only[b2,if_true,Bool.true_or]at fu;refine J11 f0 f3 f7 f5 @vm b hb hg nt hrow b2 ?_;exact A6 ⟨rfl,.inr ⟨rfl,by rw[←fu];rfl⟩⟩
theorem Ep(H0:d9)(lo:Nat)(va:Option Addr)(ca:Nat)(l:List (ByteArray))(x:ByteArray)(hv:SlI H0 lo 1 (v8 stE) (.slice va l.length ca) l)(hn:l.length≤1048576)(r:Int):
  ∀kk e H2,(∃i:Nat,kk=l.length-i∧i≤l.length∧e.get 0= .slice va l.length ca∧e.get 1= .string x∧e.get 7=iV l.length∧e.get 8=iV i∧H2=H0∧ixG (fun y=>ci x y) (l.drop i) i=r)→
  u9 (LE prog t6 (.loop Af) e H2) (fun o e H2=>H2=H0∧((o= .exit 0∧r= -1)∨(o= .ret∧e.get 4=iV r))):=by
 refine j7 _ _ ?_;rintro kk e H2 ⟨i,hk,hi,f0,f3,f7,f5,hH,fu⟩;subst hH;rcases b:decide ((i:Int)<l.length)with _|_
 ·have hb':=dF b;have:l.drop i=[]:=dN oM;rw[this,ixG]at fu;refine J3 f7 f5 b ?_;exact l7 ⟨rfl,.inl ⟨rfl,fu.symm⟩⟩
 have hb':=dT b;obtain⟨y,nb,o,cs,own,el,hx,hd,rfl,hlt,hg,hle,hrow,hc,rfl⟩:=hv.row (i:=i) oM;have nt:(i:Int).toNat=i:=tN i;have c0:=hc 0 oM;rw[Nat.add_zero]at c0;rw[hd,ixG]at fu;rcases b2:(ci x y:Bool)with _|_
 ·simp only[b2,Bool.false_eq_true,if_false,Bool.false_or]at fu;refine J10 f0 f3 f7 f5 b hg nt c0 @wrap_small b2 ?_;exact i6 (kk-1) oM ⟨i+1,oM,oM,f0,f3,f7,rfl,rfl,fu⟩
 ·simp only[b2,if_true,Bool.true_or]at fu;refine J9 f0 f3 f7 f5 b hg nt c0 b2 ?_;exact A6 ⟨rfl,.inr ⟨rfl,by rw[←fu];rfl⟩⟩
theorem Es(H0:d9)(lo:Nat)(va:Option Addr)(ca:Nat)(l:List (ByteArray×ByteArray))(x:ByteArray×ByteArray)(hv:SlI H0 lo 2 (v8 nmE) (.slice va l.length ca) l)(hn:l.length≤1048576)(bx:Nat)(hb:H0.get bx=cE (nmE x) 1)(r:Int):
  ∀kk e H2,(∃i:Nat,kk=l.length-i∧i≤l.length∧e.get 0= .slice va l.length ca∧e.get 3=pT bx∧e.get 7=iV l.length∧e.get 8=iV i∧H2=H0∧ixG (fun y=>Q3 x y) (l.drop i) i=r)→
  u9 (LE prog t6 (.loop AD) e H2) (fun o e H2=>H2=H0∧((o= .exit 0∧r= -1)∨(o= .ret∧e.get 4=iV r))):=by
 refine j7 _ _ ?_;rintro kk e H2 ⟨i,hk,hi,f0,f3,f7,f5,hH,fu⟩;subst hH;rcases b:decide ((i:Int)<l.length)with _|_
 ·have hb':=dF b;have:l.drop i=[]:=dN oM;rw[this,ixG]at fu;refine J3 f7 f5 b ?_;exact l7 ⟨rfl,.inl ⟨rfl,fu.symm⟩⟩
 have hb':=dT b;obtain⟨y,nb,o,cs,own,el,hx,hd,rfl,hlt,hg,hle,hrow,hc,rfl⟩:=hv.row (i:=i) oM;have nt:(i:Int).toNat=i:=tN i;have c0:=hc 0 oM;rw[Nat.add_zero]at c0;rw[hd,ixG]at fu;rcases b2:(Q3 x y:Bool)with _|_
 ·simp only[b2,Bool.false_eq_true,if_false,Bool.false_or]at fu;refine J11 f0 f3 f7 f5 b hb hg nt hrow @wrap_small b2 ?_;exact i6 (kk-1) oM ⟨i+1,oM,oM,f0,f3,f7,rfl,rfl,fu⟩
 ·simp only[b2,if_true,Bool.true_or]at fu;refine J10 f0 f3 f7 f5 b hb hg nt hrow b2 ?_;exact A6 ⟨rfl,.inr ⟨rfl,by rw[←fu];rfl⟩⟩
theorem DR(H:d9)(lo:Nat)(v:Value)(l:List (ByteArray×ByteArray))(x:ByteArray×ByteArray)(hlo:lo≤H.next)(hv:SlI H lo 2 (v8 nmE) v l)(hn:l.length≤1048576):CL prog t6 113 [v,.agg (nmE x).toArray] H=some (.bool (l.any (fun y=>Q3 y x)),none):=by
 obtain⟨va,ca,rfl⟩:=hv.slice;obtain⟨H1,hH1⟩:∃H1,H1=d9.push ⟨H.bs,H.next⟩ (.cells (nmE x) true 1):=⟨_,rfl⟩
 have hS:i4 H.next H H1:=by rw[hH1];exact i4.first H _
 have hg:H1.get H.next=cE (nmE x) 1:=by rw[hH1];exact i7
 have hlow:H.next≤H1.low:=by rw[hH1,t5];exact lR
 rw[j8 WD rfl _ (by simp)];refine J1 hH1.symm ?_;refine l9 (F:=fun z=>u5 _ _ _ (u7 (inBlock 0 z) _)=_) (Er H1 lo va ca l x (hv.mono (fun j hj=>hS.get j oM) lR iF) hn H.next hg (l.any (fun y=>Q3 y x)) l.length _ _ ⟨0,rfl,oM,rfl,rfl,rfl,rfl,rfl⟩) ?_;rintro o e' H' ⟨hH,⟨ho,hr⟩|⟨ho,h4,hr⟩⟩
 ·exact J3 ho hH hr trivial
 ·exact J4 ho hH h4 hr trivial
theorem AL(H:d9)(lo:Nat)(v:Value)(l:List (Bool×Bool×ByteArray))(x:Bool×Bool×ByteArray)(hlo:lo≤H.next)(hv:SlI H lo 3 (v8 soE) v l)(hn:l.length≤1048576):CL prog t6 39 [v,.agg (soE x).toArray] H=some (.int .i64 (ixG (fun y=>fo x y) l 0),none):=by
 obtain⟨va,ca,rfl⟩:=hv.slice;obtain⟨H1,hH1⟩:∃H1,H1=d9.push ⟨H.bs,H.next⟩ (.cells (soE x) true 1):=⟨_,rfl⟩
 have hS:i4 H.next H H1:=by rw[hH1];exact i4.first H _
 have hg:H1.get H.next=cE (soE x) 1:=by rw[hH1];exact i7
 have hlow:H.next≤H1.low:=by rw[hH1,t5];exact lR
 rw[j8 ab6 rfl _ (by simp)];refine J1 hH1.symm ?_;refine l9 (F:=fun z=>u5 _ _ _ (u7 (inBlock 0 z) _)=_) (Nb H1 lo va ca l x (hv.mono (fun j hj=>hS.get j oM) lR iF) hn H.next hg (ixG (fun y=>fo x y) l 0) l.length _ _ ⟨0,rfl,oM,rfl,rfl,rfl,rfl,rfl,rfl⟩) ?_;rintro o e' H' ⟨hH,⟨ho,hr⟩|⟨ho,h4⟩⟩
 ·exact J3 ho hH hr trivial
 ·exact J3 ho hH h4 trivial
theorem vy(H:d9)(lo:Nat)(v:Value)(l:List (ByteArray×ByteArray))(x:ByteArray×ByteArray)(hlo:lo≤H.next)(hv:SlI H lo 2 (v8 nmE) v l)(hn:l.length≤1048576):CL prog t6 148 [v,.agg (nmE x).toArray] H=some (.int .i64 (ixG (fun y=>Q3 x y) l 0),none):=by
 obtain⟨va,ca,rfl⟩:=hv.slice;obtain⟨H1,hH1⟩:∃H1,H1=d9.push ⟨H.bs,H.next⟩ (.cells (nmE x) true 1):=⟨_,rfl⟩
 have hS:i4 H.next H H1:=by rw[hH1];exact i4.first H _
 have hg:H1.get H.next=cE (nmE x) 1:=by rw[hH1];exact i7
 have hlow:H.next≤H1.low:=by rw[hH1,t5];exact lR
 rw[j8 Xg rfl _ (by simp)];refine J1 hH1.symm ?_;refine l9 (F:=fun z=>u5 _ _ _ (u7 (inBlock 0 z) _)=_) (Es H1 lo va ca l x (hv.mono (fun j hj=>hS.get j oM) lR iF) hn H.next hg (ixG (fun y=>Q3 x y) l 0) l.length _ _ ⟨0,rfl,oM,rfl,rfl,rfl,rfl,rfl,rfl⟩) ?_;rintro o e' H' ⟨hH,⟨ho,hr⟩|⟨ho,h4⟩⟩
 ·exact J3 ho hH hr trivial
 ·exact J3 ho hH h4 trivial
theorem tw(H:d9)(lo:Nat)(v:Value)(l:List (ByteArray))(x:ByteArray)(hlo:lo≤H.next)(hv:SlI H lo 1 (v8 stE) v l)(hn:l.length≤1048576):CL prog t6 65 [v,.string x] H=some (.bool (l.any (fun y=>ci y x)),none):=by
 obtain⟨va,ca,rfl⟩:=hv.slice;rw[j8 ad3 rfl _ (by simp)];refine J1 aH ?_;refine l9 (F:=fun z=>u5 _ _ _ (u7 (inBlock 0 z) _)=_) (Nc ⟨H.bs,H.next⟩ lo va ca l x (hv.mono (fun _ _=>rfl) lR iF) hn (l.any (fun y=>ci y x)) l.length _ _ ⟨0,rfl,oM,rfl,rfl,rfl,rfl,rfl⟩) ?_;rintro o e' H' ⟨hH,⟨ho,hr⟩|⟨ho,h4,hr⟩⟩
 ·exact J3 ho hH hr trivial
 ·exact J4 ho hH h4 hr trivial
theorem DQ(H:d9)(lo:Nat)(v:Value)(l:List (ByteArray))(x:ByteArray)(hlo:lo≤H.next)(hv:SlI H lo 1 (v8 stE) v l)(hn:l.length≤1048576):CL prog t6 102 [v,.string x] H=some (.int .i64 (ixG (fun y=>ci x y) l 0),none):=by
 obtain⟨va,ca,rfl⟩:=hv.slice;rw[j8 Ws rfl _ (by simp)];refine J1 aH ?_;refine l9 (F:=fun z=>u5 _ _ _ (u7 (inBlock 0 z) _)=_) (Ep ⟨H.bs,H.next⟩ lo va ca l x (hv.mono (fun _ _=>rfl) lR iF) hn (ixG (fun y=>ci x y) l 0) l.length _ _ ⟨0,rfl,oM,rfl,rfl,rfl,rfl,rfl,rfl⟩) ?_;rintro o e' H' ⟨hH,⟨ho,hr⟩|⟨ho,h4⟩⟩
 ·exact J3 ho hH hr trivial
 ·exact J3 ho hH h4 trivial
theorem AV(H:d9)(lo:Nat)(v:Value)(l:List (ByteArray))(x:ByteArray)(hlo:lo≤H.next)(hv:SlI H lo 1 (v8 stE) v l)(hn:l.length≤1048576):CL prog t6 80 [v,.string x] H=some (.bool (l.any fun y=>ci x y),none):=by
 have hc:=DQ ⟨H.bs,H.next⟩ lo v l x hlo (hv.mono (fun _ _=>rfl) lR iF) hn;rw[j8 ae4 rfl _ (by simp),←eU];exact J1 hc trivial
theorem Xu(H:d9)(lo:Nat)(v:Value)(l:List (Bool×Bool×ByteArray))(x:Bool×Bool×ByteArray)(hlo:lo≤H.next)(hv:SlI H lo 3 (v8 soE) v l)(hn:l.length≤1048576):CL prog t6 85 [v,.agg (soE x).toArray] H=some (.bool (l.any fun y=>fo x y),none):=by
 obtain⟨H1,hH1⟩:∃H1,H1=d9.push ⟨H.bs,H.next⟩ (.cells (soE x) true 1):=⟨_,rfl⟩
 have hS:i4 H.next H H1:=by rw[hH1];exact i4.first H _
 have hg:H1.get H.next=cE (soE x) 1:=by rw[hH1];exact i7
 have hlow:H.next≤H1.low:=by rw[hH1,t5];exact lR
 have hnx:=hS.next;have hc:=AL H1 lo v l x oM (hv.mono (fun j hj=>hS.get j oM) lR iF) hn;have hrow:ldC (some true) (some 3) 0 (soE x)=some (.agg (soE x).toArray):=rfl;rw[j8 ae8 rfl _ (by simp),←eU];exact J4 hH1.symm hg hrow hc trivial
theorem MK(H:d9)(lo:Nat)(v:Value)(l:List (ByteArray×ByteArray))(x:ByteArray×ByteArray)(hlo:lo≤H.next)(hv:SlI H lo 2 (v8 nmE) v l)(hn:l.length≤1048576):CL prog t6 147 [v,.agg (nmE x).toArray] H=some (.bool (l.any fun y=>Q3 x y),none):=by
 obtain⟨H1,hH1⟩:∃H1,H1=d9.push ⟨H.bs,H.next⟩ (.cells (nmE x) true 1):=⟨_,rfl⟩
 have hS:i4 H.next H H1:=by rw[hH1];exact i4.first H _
 have hg:H1.get H.next=cE (nmE x) 1:=by rw[hH1];exact i7
 have hlow:H.next≤H1.low:=by rw[hH1,t5];exact lR
 have hnx:=hS.next;have hc:=vy H1 lo v l x oM (hv.mono (fun j hj=>hS.get j oM) lR iF) hn;have hrow:ldC (some true) (some 2) 0 (nmE x)=some (.agg (nmE x).toArray):=rfl;rw[j8 Xf rfl _ (by simp),←eU];exact J4 hH1.symm hg hrow hc trivial
def py{α:Type}(p:Q→Bool)(g:Q→α)(eq:α→α→Bool)(acc:List α)(l:List Q):List α:=l.foldl (fun acc f=>if p f&& !acc.any (fun y=>eq y (g f)) then acc++[g f] else acc) acc
theorem iO{α:Type}(p:Q→Bool)(g:Q→α)(eq:α→α→Bool)(acc:List α)(x:Q)(l:List Q):py p g eq acc (x::l)=py p g eq (if p x&& !acc.any (fun y=>eq y (g x)) then acc++[g x] else acc) l:=rfl
theorem cH{α:Type}(p:Q→Bool)(g:Q→α)(eq:α→α→Bool):∀(l:List Q)(acc:List α),(py p g eq acc l).length≤acc.length+l.length
 |[],acc=>lR
 |x::l,acc=>by
  rw[iO,List.length_cons];have:=cH p g eq l (if p x&& !acc.any (fun y=>eq y (g x)) then acc++[g x] else acc);have h2:(if p x&& !acc.any (fun y=>eq y (g x)) then acc++[g x] else acc).length≤acc.length+1:=by split<;>simp
  omega
abbrev qNm(f:Q):ByteArray×ByteArray:=(f.sp,f.lc)
def bI(from_ to_:Int)(f:Q):Bool:=decide (from_≤f.op)&&decide (f.op≤to_)
def dv(op:Int)(n:ByteArray×ByteArray)(f:Q):Bool:=decide (f.op=op)&&Q3 (qNm f) n
theorem tZ(k:Nat)(H1:d9)(lo:Nat)(hlo:lo≤H1.next)(va:Option Addr)(ca:Nat)(l:List Q)(hv:QsR H1 lo k true (.slice va l.length ca) l)(hn:l.length≤1000000)(a b:Int)(r:List (ByteArray×ByteArray)):
  ∀kk e H2,(∃(i:Nat)(acc:List (ByteArray×ByteArray))(w:Value),kk=l.length-i∧i≤l.length∧acc.length≤i∧e.get 0= .slice va l.length ca∧e.get 1=iV a∧e.get 2=iV b∧e.get 7=w∧e.get 8=iV i∧t7 H2 H1.next 2 (v8 nmE) w acc∧i4 H1.next H1 H2∧py (bI a b) qNm Q3 acc (l.drop i)=r)→
  u9 (LE prog t6 (.loop Gp) e H2) (fun o e H2=>o= .exit 0∧∃w,e.get 7=w∧t7 H2 H1.next 2 (v8 nmE) w r∧i4 H1.next H1 H2):=by
 refine j7 _ _ ?_;rintro kk e H2 ⟨i,acc,w,hk,hi,hal,f0,f1,f2,f7,f8,hO,hS,fu⟩;have hn2:=hS.next;rcases bb:decide ((i:Int)<l.length)with _|_
 ·have hb':=dF bb;have:l.drop i=[]:=dN oM;rw[this]at fu;refine J3 f0 f8 bb ?_;exact l7 ⟨rfl,w,f7,by rw[←fu];exact hO,hS⟩
 have hb':=dT bb;obtain⟨x,nb,o,cs,own,el,hx,hd,rfl,hlt,hg,hle,hrow,hc,hR⟩:=SlI.row hv (i:=i) oM;have nt:(i:Int).toNat=i:=tN i;cases k with
 |zero=>exact hR.elim
 |succ k=>
 obtain⟨va',ca',wa,ca'',rfl,_⟩:=hR.filter;have hg2:=(hS.get nb oM).trans hg;have c0:=hc 0 (by simp [qSz]);rw[Nat.add_zero]at c0;have c1:=vQ (j:=1) (m:=2) hc hle (by simp [qSz]);simp only[qSz,if_true,List.drop_succ_cons,List.drop_zero,List.take_succ_cons,List.take_zero,List.getElem?_cons_zero]at c0 c1 hg2;rw[hd,iO]at fu;have hh:=DR H2 H2.next w acc (qNm x) lR hO.sl oM;rcases b1:decide (a≤x.op)with _|_
 ·have hp:bI a b x=false:=by rw[bI,b1];rfl
  rw[hp]at fu;refine J9 f0 f1 f8 bb hg2 nt c0 b1 @wrap_small ?_;exact i6 (kk-1) oM ⟨i+1,acc,w,oM,oM,oM,f0,f1,f2,f7,rfl,hO,hS,fu⟩
 rcases b2:decide (x.op≤b)with _|_
 ·have hp:bI a b x=false:=by rw[bI,b1,b2];rfl
  rw[hp]at fu;refine J11 f0 f1 f2 f8 bb hg2 nt c0 b1 b2 @wrap_small ?_;exact i6 (kk-1) oM ⟨i+1,acc,w,oM,oM,oM,f0,f1,f2,f7,rfl,hO,hS,fu⟩
 have hp:bI a b x=true:=by rw[bI,b1,b2];rfl
 rw[hp]at fu;rcases b3:acc.any (fun y=>Q3 y (qNm x))with _|_
 ·rw[b3]at fu hh;obtain⟨v',h',H4,ha,hge',hO4,hS4⟩:=hO.push1 (P:=prog) (t:=95) (by exact pJ.2.2.2.2.2.2) cr.1 cr.2.1 cr.2.2.1 oM oM (cs:=[.string x.sp,.string x.lc]) (a:=qNm x) rfl rfl oM oM;refine J16 f0 f1 f2 f7 f8 bb hg2 nt c0 c1 b1 b2 hh ha hge' @wrap_small ?_;refine i6 (kk-1) oM ⟨i+1,acc++[qNm x],v',oM,oM,by simp;omega,f0,f1,f2,rfl,rfl,hO4,hS.trans hS4,fu⟩
 ·rw[b3]at fu hh;refine J14 f0 f1 f2 f7 f8 bb hg2 nt c0 c1 b1 b2 hh @wrap_small ?_;exact i6 (kk-1) oM ⟨i+1,acc,w,oM,oM,oM,f0,f1,f2,f7,rfl,hO,hS,fu⟩
def S9(a b:Int)(l:List Q):List (ByteArray×ByteArray):=py (bI a b) qNm Q3 [] l
theorem nP(H:d9)(lo k:Nat)(v:Value)(l:List Q)(a b:Int)(hlo:lo≤H.next)(hv:QsR H lo k true v l)(hn:l.length≤1000000):N5 (CL prog t6 87 [v,iV a,iV b] H) H 2 (v8 nmE) (S9 a b l):=by
 obtain⟨va,ca,rfl⟩:=SlI.slice hv;rw[j8 af0 rfl _ (by simp)];refine J1 ty3 ?_;have hv':QsR ⟨H.bs,H.next⟩ lo k true (.slice va l.length ca) l:=hv.mono (fun _ _=>rfl) lR;refine l9 (F:=fun z=>N5 (u5 _ _ _ (u7 (inBlock 0 z) _)) _ _ _ _) (tZ k ⟨H.bs,H.next⟩ lo hlo va ca l hv' hn a b (S9 a b l) l.length _ _ ⟨0,[],_,rfl,oM,by simp,rfl,rfl,rfl,rfl,rfl,t7.nil,i4.refl _ _,rfl⟩) ?_;rintro o e' H3 ⟨ho,w,g7,hO,hS⟩;refine J2 ho g7 ?_;exact I4 hO ((i4.start H).trans hS) (hS.low lR)
theorem sh(k:Nat)(H1:d9)(lo bl:Nat)(hlo:lo≤bl)(hbl:bl<H1.next)(va:Option Addr)(ca:Nat)(l:List Q)(hv:QsR H1 lo k true (.slice va l.length ca) l)(hn:l.length≤1000000)(a:Int)(n:ByteArray×ByteArray)(hb:H1.get bl=cE (nmE n) 1)(r:List ByteArray):
  ∀kk e H2,(∃(i:Nat)(acc:List ByteArray)(w:Value),kk=l.length-i∧i≤l.length∧acc.length≤i∧e.get 0= .slice va l.length ca∧e.get 1=iV a∧e.get 5=pT bl∧e.get 7=w∧e.get 8=iV i∧t7 H2 (bl+1) 1 (v8 stE) w acc∧i4 (bl+1) H1 H2∧py (dv a n) Q.vl ci acc (l.drop i)=r)→
  u9 (LE prog t6 (.loop Gq) e H2) (fun o e H2=>o= .exit 0∧∃w,e.get 7=w∧t7 H2 (bl+1) 1 (v8 stE) w r∧i4 (bl+1) H1 H2):=by
 refine j7 _ _ ?_;rintro kk e H2 ⟨i,acc,w,hk,hi,hal,f0,f1,f5,f7,f8,hO,hS,fu⟩;have hn2:=hS.next;have hb2:=(hS.get bl oM).trans hb;have hnrow:ldC (some true) (some 2) 0 (nmE n)=some (.agg (nmE n).toArray):=rfl;rcases bb:decide ((i:Int)<l.length)with _|_
 ·have hb':=dF bb;have:l.drop i=[]:=dN oM;rw[this]at fu;refine J3 f0 f8 bb ?_;exact l7 ⟨rfl,w,f7,by rw[←fu];exact hO,hS⟩
 have hb':=dT bb;obtain⟨x,nb,o,cs,own,el,hx,hd,rfl,hlt,hg,hle,hrow,hc,hR⟩:=SlI.row hv (i:=i) oM;have nt:(i:Int).toNat=i:=tN i;cases k with
 |zero=>exact hR.elim
 |succ k=>
 obtain⟨va',ca',wa,ca'',rfl,_⟩:=hR.filter;have hg2:=(hS.get nb oM).trans hg;have c0:=hc 0 (by simp [qSz]);rw[Nat.add_zero]at c0;have c1:=vQ (j:=1) (m:=2) hc hle (by simp [qSz]);have c3:=hc 3 (by simp [qSz]);simp only[qSz,if_true,List.drop_succ_cons,List.drop_zero,List.take_succ_cons,List.take_zero,List.getElem?_cons_zero,List.getElem?_cons_succ]at c0 c1 c3 hg2;rw[hd,iO]at fu;have hh:=tw H2 H2.next w acc x.vl lR hO.sl oM;rcases b1:decide (x.op=a)with _|_
 ·have hp:dv a n x=false:=by rw[dv,b1];rfl
  rw[hp]at fu;refine J9 f0 f1 f8 bb hg2 nt c0 b1 @wrap_small ?_;exact i6 (kk-1) oM ⟨i+1,acc,w,oM,oM,oM,f0,f1,f5,f7,rfl,hO,hS,fu⟩
 rcases b2:(decide (x.sp=n.1)&&decide (x.lc=n.2))with _|_
 ·have hp:dv a n x=false:=by rw[dv,b1,Q3,b2];rfl
  rw[hp]at fu;refine J14 f0 f1 f5 f8 bb hb2 hnrow hg2 nt c0 c1 b1 b2 @wrap_small ?_;exact i6 (kk-1) oM ⟨i+1,acc,w,oM,oM,oM,f0,f1,f5,f7,rfl,hO,hS,fu⟩
 have hp:dv a n x=true:=by rw[dv,b1,Q3,b2];rfl
 rw[hp]at fu;rcases b3:acc.any (fun y=>ci y x.vl)with _|_
 ·rw[b3]at fu hh;obtain⟨v',h',H4,ha,hge',hO4,hS4⟩:=hO.push1 (P:=prog) (t:=97) (by exact aH.2.2.2.2.2.2) ty9.1 ty9.2.1 ty9.2.2.1 oM oM (cs:=[.string x.vl]) (a:=x.vl) rfl rfl oM oM;refine J19 f0 f1 f5 f7 f8 bb hb2 hnrow hg2 nt c0 c1 c3 b1 b2 hh ha hge' @wrap_small ?_;refine i6 (kk-1) oM ⟨i+1,acc++[x.vl],v',oM,oM,by simp;omega,f0,f1,f5,rfl,rfl,hO4,hS.trans hS4,fu⟩
 ·rw[b3]at fu hh;refine J17 f0 f1 f5 f7 f8 bb hb2 hnrow hg2 nt c0 c1 c3 b1 b2 hh @wrap_small ?_;exact i6 (kk-1) oM ⟨i+1,acc,w,oM,oM,oM,f0,f1,f5,f7,rfl,hO,hS,fu⟩
def S7(a:Int)(n:ByteArray×ByteArray)(l:List Q):List ByteArray:=py (dv a n) Q.vl ci [] l
theorem lN(H:d9)(lo k:Nat)(v:Value)(l:List Q)(a:Int)(n:ByteArray×ByteArray)(hlo:lo≤H.next)(hv:QsR H lo k true v l)(hn:l.length≤1000000):N5 (CL prog t6 88 [v,iV a,.agg (nmE n).toArray] H) H 1 (v8 stE) (S7 a n l):=by
 obtain⟨va,ca,rfl⟩:=SlI.slice hv;obtain⟨H1,hH1⟩:∃H1,H1=d9.push ⟨H.bs,H.next⟩ (.cells (nmE n) true 1):=⟨_,rfl⟩
 have hS:i4 H.next H H1:=by rw[hH1];exact i4.first H _
 have hg:H1.get H.next=cE (nmE n) 1:=by rw[hH1];exact i7
 have hlow:H.next≤H1.low:=by rw[hH1,t5];exact lR
 rw[j8 af1 rfl _ (by simp)];refine J1 hH1.symm ?_;have hv':QsR H1 lo k true (.slice va l.length ca) l:=hv.mono (fun j hj=>hS.get j oM) lR;refine l9 (F:=fun z=>N5 (u5 _ _ _ (u7 (inBlock 0 z) _)) _ _ _ _) (sh k H1 lo H.next hlo (u6 hg) va ca l hv' hn a n hg (S7 a n l) l.length _ _ ⟨0,[],_,rfl,oM,by simp,rfl,rfl,rfl,rfl,rfl,t7.nil,i4.refl _ _,rfl⟩) ?_;rintro o e' H3 ⟨ho,w,g7,hO,hS3⟩;refine J2 ho g7 ?_;exact I4 (hO.weaken oM) (hS.trans (hS3.weaken oM)) ((hS3.weaken oM).low hlow)
def dg1(n:Nat):ByteArray:=⟨#[UInt8.ofNat (48+n)]⟩
def dg(n:Nat):ByteArray:=if h:n<10 then dg1 n else dg (n / 10)++dg (n % 10)
termination_by n
decreasing_by all_goals omega
def dgV(l:List UInt8):Nat:=l.foldl (fun a b=>10*a+(b.toNat-48)) 0
theorem aX(a b:ByteArray):(a++b).data.toList=a.data.toList++b.data.toList:=by simp
theorem zV:∀n,dgV (dg n).data.toList=n:=by
 intro n;induction n using Nat.strongRecOn with
 |ind n ih=>
  rw[dg];split
  ·rename_i h;have:∀m:Fin 10,dgV (dg1 m.1).data.toList=m.1:=by decide
   exact this ⟨n,h⟩
  ·rename_i h;have h1:=ih (n / 10) oM;have h2:dg (n % 10)=dg1 (n % 10):=by rw[dg,dif_pos oM]
   have h3:∀m:Fin 10,((UInt8.ofNat (48+m.1)).toNat-48)=m.1:=by decide
   rw[h2,aX,dgV,List.foldl_append];rw[dgV]at h1;rw[h1];show 10*(n / 10)+((UInt8.ofNat (48+n % 10)).toNat-48)=n;have h4:((UInt8.ofNat (48+n % 10)).toNat-48)=n % 10:=h3 ⟨n % 10,oM⟩;rw[h4];omega
theorem oS{n m:Nat}(h:dg n=dg m):n=m:=by rw[←zV n,h,zV]
theorem jN:∀n,(dg n).size≤n+1:=by
 intro n;induction n using Nat.strongRecOn with
 |ind n ih=>
  rw[dg];split
  ·show 1≤n+1;omega
  ·rename_i h;have h1:=ih (n / 10) oM;have h2:=ih (n % 10) oM;have h3:(dg (n % 10)).size=1:=by rw[dg,dif_pos oM];rfl
   rw[ByteArray.size_append,h3];omega
theorem Ns{α:Type}(f:Nat→α)(hf:∀i j,f i=f j→i=j):∀(l:List α)(ns:List Nat),ns.Nodup→(∀i∈ns,f i∈l)→ns.length≤l.length:=by
 intro l ns;induction ns generalizing l with
 |nil=>intro _ _;simp
 |cons n ns ih=>
  intro hn hl;obtain⟨s,t,rfl⟩:=List.append_of_mem (hl n (by simp));have:=ih (s++t) (List.nodup_cons.1 hn).2 (fun i hi=>by
   have h1:=hl i (by simp [hi]);have hne:i≠n:=fun q=>(List.nodup_cons.1 hn).1 (q▸hi);simp only[List.mem_append,List.mem_cons]at h1 ⊢;rcases h1 with h1|h1|h1
   ·exact .inl h1
   ·exact absurd (hf _ _ h1) hne
   ·exact .inr h1)
  simp only[List.length_append,List.length_cons]at this ⊢;omega
def bF(p:Nat→Bool):Nat→Nat→Nat
 |0,n=>n
 |k+1,n=>if p n then bF p k (n+1) else n
theorem bT(p:Nat→Bool):∀k n,(∃m,n≤m∧m<n+k∧p m=false)→p (bF p k n)=false∧bF p k n<n+k
 |0,n,h=>by obtain⟨m,h1,h2,_⟩:=h;omega
 |k+1,n,h=>by
  rw[bF];split
  ·rename_i hp;obtain⟨m,h1,h2,h3⟩:=h;have hne:m≠n:=fun q=>by rw[q,hp]at h3;cases h3
   have:=bT p k (n+1) ⟨m,oM,oM,h3⟩;exact⟨this.1,oM⟩
  ·rename_i hp;exact⟨by simpa using hp,oM⟩
theorem oW{α:Type}(f:Nat→α)(hf:∀i j,f i=f j→i=j) (l:List α) (p:Nat→Bool) (hp:∀i,p i=true→f i∈l):∃m,m<l.length+1∧p m=false:=by
 apply Classical.byContradiction;intro h;have h1:∀i∈List.range (l.length+1),f i∈l:=fun i hi=>hp i (by
  cases hq:p i with
  |true=>rfl
  |false=>exact absurd ⟨i,List.mem_range.1 hi,hq⟩ h)
 have:=Ns f hf l _ List.nodup_range h1;rw[List.length_range]at this;omega
theorem Db(n:Nat)(h:n<10):IntKind.wrap .u8 (48+(n:Int))=48+(n:Int):=by
 have:∀m:Fin 10,IntKind.wrap .u8 (48+(m.1:Int))=48+(m.1:Int):=by decide
 exact this ⟨n,h⟩
theorem zQ(H:d9)(b:Nat)(n:Int)(hg:H.get b=cE [.int .u8 n] 1)(c:Nat):W8 prog H 81 9 (.slice (some ⟨b,0,none⟩) 1 c)=some (.string ⟨#[UInt8.ofNat n.toNat]⟩,none):=by
 have:A3 H 1 (.slice (some ⟨b,0,none⟩) 1 c)=some [.int .u8 n]:=by simp [A3,hg]
 simp only[W8,yP,ty9,ty5,this,Option.bind_some];rfl
theorem fR:∀(n:Nat)(H:d9),n≤1000000→CL prog t6 89 [iV n] H=some (.string (dg n),none):=by
 intro n;induction n using Nat.strongRecOn with
 |ind n ih=>
  intro H hn;rw[j8 af2 rfl _ (by simp)];rcases b:decide ((n:Int)<10)with _|_
  ·have hb:=dF b;have h1:=ih (n / 10) oM;have h2:=ih (n % 10) oM;have q1:((n:Int).tdiv 10)=((n / 10:Nat):Int):=by rw[Int.tdiv_eq_ediv_of_nonneg oM];omega
   have q2:((n:Int).tmod 10)=((n % 10:Nat):Int):=by rw[Int.tmod_eq_emod_of_nonneg oM];omega
   have z1:=jN (n / 10);have z2:=jN (n % 10);have hd:dg n=dg (n / 10)++dg (n % 10):=by rw[dg,dif_neg oM]
   have hq:∀a:Int,E9 prog .quo 3 (.int .i64 a) (.int .i64 10)=some (.int .i64 (IntKind.wrap .i64 (a.tdiv 10))):=fun a=>pB 3 a 10 oM;have hr:∀a:Int,E9 prog .rem 3 (.int .i64 a) (.int .i64 10)=some (.int .i64 (a.tmod 10)):=fun a=>CP 3 .i64 a 10 oM;have hs:=W7 (P:=prog) 9 (dg (n / 10)) (dg (n % 10)) oM;have h1':∀H,CL prog t6 89 [iV ((n / 10:Nat):Int)] H=some (.string (dg (n / 10)),none):=fun H=>h1 H oM;have h2':∀H,CL prog t6 89 [iV ((n % 10:Nat):Int)] H=some (.string (dg (n % 10)),none):=fun H=>h2 H oM;exact J10 b hq hr q1 q2 @wrap_small h1' h2' hs hd trivial
  ·have hb:=dT b;have hd:dg n=dg1 n:=by rw[dg,dif_pos oM]
   have w1:=Db n oM;have hcv:=zQ (d9.push ⟨H.bs,H.next⟩ (.cells [.int .u8 (48+(n:Int))] true 1)) H.next (48+n) i7 1;have e1:(48+(n:Int)).toNat=48+n:=oM;rw[e1]at hcv;simp(maxSteps:=20000000) -dsimp (disch:=first|omega|(simp only[rH]<;>omega)|fail) only[↓ai3,rQ,D8,sevalprocAttr,tyA,b,wrap_small,w1,hcv,hd,dg1]
def V0(l:List ByteArray)(s:ByteArray):Bool:=l.any fun y=>ci y s
theorem kI{l:List ByteArray}{s:ByteArray}(h:V0 l s=true):s∈l:=by
 obtain⟨y,h1,h2⟩:=List.any_eq_true.1 h;have:=dT h2;exact this▸h1
def T7(l:List ByteArray):Nat:=bF (fun n=>V0 l (dg n)) (l.length+1) 0
theorem vK(l:List ByteArray):V0 l (dg (T7 l))=false∧T7 l<l.length+1:=by
 obtain⟨m,h1,h2⟩:=oW dg (fun i j=>oS) l (fun n=>V0 l (dg n)) (fun i h=>kI h);have:=bT (fun n=>V0 l (dg n)) (l.length+1) 0 ⟨m,oM,oM,h2⟩;exact⟨this.1,by have:=this.2;rw[T7];omega⟩
theorem aY(p:Nat→Bool):∀k n,n≤bF p k n∧∀m,n≤m→m<bF p k n→p m=true
 |0,n=>⟨lR,fun m h1 h2=>by rw[bF]at h2;omega⟩
 |k+1,n=>by
  rw[bF];split
  ·rename_i hp;obtain⟨h1,h2⟩:=aY p k (n+1);exact⟨oM,fun m h3 h4=>by
    by_cases hm:m=n
    ·rw[hm];exact hp
    ·exact h2 m oM h4⟩
  ·exact⟨lR,fun m h1 h2=>oM⟩
theorem mF(H0:d9)(lo:Nat)(hlo:lo≤H0.next)(v:Value)(l:List ByteArray)(hv:SlI H0 lo 1 (v8 stE) v l)(hn:l.length≤100000):
  ∀kk e H2,(∃n:Nat,kk=T7 l+1-n∧n≤T7 l∧e.get 0=v∧e.get 3=iV n∧H2=H0)→
  u9 (LE prog t6 (.loop FY) e H2) (fun o e H2=>H2=H0∧o= .exit 0∧e.get 3=iV (T7 l)):=by
 refine j7 _ _ ?_;rintro kk e H2 ⟨n,hk,hi,f0,f3,hH⟩;subst hH;obtain⟨hf,hlt⟩:=vK l;have hat:=(aY (fun n=>V0 l (dg n)) (l.length+1) 0).2;have hd:=fR n H2 oM;have hh:=tw H2 lo v l (dg n) hlo hv oM;by_cases hm:n=T7 l
 ·have hq:(l.any fun y=>ci y (dg n))=false:=by rw[hm];exact hf
  rw[hq]at hh;refine J4 f0 f3 hd hh ?_;exact l7 ⟨rfl,rfl,by rw[←hm];exact f3⟩
 ·have hq:(l.any fun y=>ci y (dg n))=true:=hat n oM (by rw[T7]at hm hi;omega);rw[hq]at hh;refine J5 f0 f3 hd hh @wrap_small ?_;exact i6 (kk-1) oM ⟨n+1,oM,oM,f0,rfl,rfl⟩
theorem gW(H:d9)(lo:Nat)(v:Value)(l:List ByteArray)(hlo:lo≤H.next)(hv:SlI H lo 1 (v8 stE) v l)(hn:l.length≤100000):CL prog t6 66 [v] H=some (.string (dg (T7 l)),none):=by
 obtain⟨hf,hlt⟩:=vK l;have hd:∀H,CL prog t6 89 [iV (T7 l:Int)] H=some (.string (dg (T7 l)),none):=fun H=>fR (T7 l) H oM;rw[j8 ad4 rfl _ (by simp)];refine J1 ty3 ?_;refine l9 (F:=fun z=>u5 _ _ _ (u7 (inBlock 0 z) _)=_) (mF ⟨H.bs,H.next⟩ lo hlo v l (hv.mono (fun _ _=>rfl) lR iF) hn (T7 l+1) _ _ ⟨0,rfl,oM,rfl,rfl,rfl⟩) ?_;rintro o e' H' ⟨hH,ho,h3⟩;exact J4 ho hH h3 hd trivial
def zS:ByteArray:=⟨#[122]⟩
def zN(n:Nat):ByteArray:=if n=0 then zS else zS++dg n
theorem Hq(n:Nat):1≤(dg n).size:=by
 rw[dg];split
 ·exact Nat.le_refl 1
 ·rename_i h;have h3:(dg (n % 10)).size=1:=by rw[dg,dif_pos oM];rfl
  rw[ByteArray.size_append,h3];omega
theorem oE{a b c:ByteArray}(h:a++b=a++c):b=c:=by
 have h1:(a++b).data.toList=(a++c).data.toList:=by rw[h]
 rw[aX,aX]at h1;have h2:=List.append_cancel_left h1;obtain⟨b⟩:=b;obtain⟨c⟩:=c;have h3:b=c:=Array.toList_inj.1 h2;rw[h3]
theorem NW(i j:Nat)(h:zN i=zN j):i=j:=by
 unfold zN at h;have hs:∀n,(zS++dg n).size≠zS.size:=fun n=>by have:=Hq n;rw[ByteArray.size_append];omega
 split at h<;>split at h
 ·omega
 ·exact absurd (congrArg ByteArray.size h).symm (hs _)
 ·exact absurd (congrArg ByteArray.size h) (hs _)
 ·exact oS (oE h)
def P0(l:List (ByteArray×ByteArray))(x:ByteArray×ByteArray):Bool:=l.any fun y=>Q3 y x
theorem R2{x y:ByteArray×ByteArray}:Q3 x y=true↔x=y:=by
 simp only[Q3,Bool.and_eq_true,decide_eq_true_eq];exact Prod.ext_iff.symm
theorem nj{l:List (ByteArray×ByteArray)}{x:ByteArray×ByteArray}(h:P0 l x=true):x∈l:=by
 obtain⟨y,h1,h2⟩:=List.any_eq_true.1 h;exact(R2.1 h2)▸h1
def zNm(n:Nat):ByteArray×ByteArray:=(eB,zN n)
def Q4(l:List (ByteArray×ByteArray)):Nat:=bF (fun n=>P0 l (zNm n)) (l.length+1) 0
theorem vN(l:List (ByteArray×ByteArray)):P0 l (zNm (Q4 l))=false∧Q4 l<l.length+1:=by
 obtain⟨m,h1,h2⟩:=oW zNm (fun i j h=>NW i j (congrArg Prod.snd h)) l (fun n=>P0 l (zNm n)) (fun i h=>nj h);have:=bT (fun n=>P0 l (zNm n)) (l.length+1) 0 ⟨m,oM,oM,h2⟩;exact⟨this.1,by have:=this.2;rw[Q4];omega⟩
theorem BH(H0:d9)(lo:Nat)(va:Option Addr)(ca:Nat)(l:List (ByteArray×ByteArray))(x:ByteArray×ByteArray)(hv:SlI H0 lo 2 (v8 nmE) (.slice va l.length ca) l)(hn:l.length≤100000)(pb:Nat)(hb:H0.get pb=cE (nmE x) 1)(p2:Value)(n3:Value)(r:Bool):
  ∀kk e H2,(∃(i:Nat)(f:Bool),kk=l.length-i∧i≤l.length∧e.get 0= .slice va l.length ca∧e.get 2=p2∧e.get 3=n3∧e.get 4=pT pb∧e.get 5= .bool f∧e.get 6=iV i∧H2=H0∧(f||(l.drop i).any fun y=>Q3 y x)=r)→
  u9 (LE prog t6 (.loop AF) e H2) (fun o e H2=>H2=H0∧o= .exit 2∧e.get 0= .slice va l.length ca∧e.get 2=p2∧e.get 3=n3∧e.get 4=pT pb∧e.get 5= .bool r):=by
 refine j7 _ _ ?_;rintro kk e H2 ⟨i,f,hk,hi,f0,f2,f3,f4,f5,f6,hH,fu⟩;subst hH;have hrx:ldC (some true) (some 2) 0 (nmE x)=some (.agg (nmE x).toArray):=rfl;rcases b:decide ((i:Int)<l.length)with _|_
 ·have hb':=dF b;have:l.drop i=[]:=dN oM;rw[this,List.any_nil,Bool.or_false]at fu;refine J3 f0 f6 b ?_;exact l7 ⟨rfl,rfl,f0,f2,f3,f4,by rw[←fu];exact f5⟩
 have hb':=dT b;obtain⟨y,nb,o,cs,own,el,hx,hd,rfl,hlt,hg,hle,hrow,hc,rfl⟩:=hv.row (i:=i) oM;have nt:(i:Int).toNat=i:=tN i;rw[hd,List.any_cons,←Bool.or_assoc]at fu;rcases f with _|_
 ·refine J11 f0 f4 f5 f6 b hb hg nt hrow hrx @wrap_small ?_;exact i6 (kk-1) oM ⟨i+1,Q3 y x,oM,oM,f0,f2,f3,f4,rfl,rfl,rfl,by rw[←fu];rfl⟩
 ·refine J5 f0 f5 f6 b @wrap_small ?_;exact i6 (kk-1) oM ⟨i+1,true,oM,oM,f0,f2,f3,f4,rfl,rfl,rfl,by rw[←fu];rfl⟩
theorem ui(H1:d9)(lo p2:Nat)(hlo:lo≤p2)(hp2:p2<H1.next)(va:Option Addr)(ca:Nat)(l:List (ByteArray×ByteArray))(hv:SlI H1 lo 2 (v8 nmE) (.slice va l.length ca) l)(hn:l.length≤100000)(hb:H1.get p2=cE [.string eB,.string eB] 1):
  ∀kk e H2,(∃n:Nat,kk=Q4 l+1-n∧n≤Q4 l∧e.get 0= .slice va l.length ca∧e.get 2=pT p2∧e.get 3=iV n∧i4 (p2+1) H1 H2)→
  u9 (LE prog t6 (.loop FU) e H2) (fun o e H2=>o= .ret∧e.get 2=pT p2∧H2.get p2=some (.cells (nmE (zNm (Q4 l))) true 1)∧i4 p2 H1 H2):=by
 refine j7 _ _ ?_;rintro kk e H2 ⟨n,hk,hi,f0,f2,f3,hS⟩;obtain⟨hf,hlt⟩:=vN l;have hat:=(aY (fun n=>P0 l (zNm n)) (l.length+1) 0).2;have hn2:=hS.next;have hd:=fun H=>fR n H oM;have hdz:=jN n;have hs:=W7 (P:=prog) 9 ⟨#[122]⟩ (dg n) (by show 1+_≤_;omega);have key:∀(H3:d9)(e3:Env),i4 (p2+1) H2 H3→H3.get H2.next=some (.cells (nmE (zNm n)) true 1)→e3.get 0= .slice va l.length ca→e3.get 2=pT p2→e3.get 3=iV n→e3.get 4=pT H2.next→e3.get 5= .bool false→e3.get 6=iV 0→
   u9 (inBlock 1 (u7 (inBlock 2 (LE prog t6 AF.loop e3 H3)) (LE prog t6 (((E4.ops [⟨some 29,.move (.tmp 5),none⟩,⟨some 30,.unOp .not 4 (.tmp 29),none⟩]).seq FV).seq FW)))) (dy kk (fun kk e H2=>∃n:Nat,kk=Q4 l+1-n∧n≤Q4 l∧e.get 0= .slice va l.length ca∧e.get 2=pT p2∧e.get 3=iV n∧i4 (p2+1) H1 H2) (fun o e H2=>o= .ret∧e.get 2=pT p2∧H2.get p2=some (.cells (nmE (zNm (Q4 l))) true 1)∧i4 p2 H1 H2)):=by
  intro H3 e3 hS3 hg3 g0 g2 g3 g4 g5 g6;have hn3:=hS3.next;have hb3:H3.get p2=_:=(hS3.get p2 oM).trans ((hS.get p2 oM).trans hb);refine l9 (F:=fun z=>u9 (inBlock 1 (u7 (inBlock 2 z) _)) _) (BH H3 lo va ca l (zNm n) (hv.mono (fun j hj=>by rw[hS3.get j oM,hS.get j oM]) lR iF) hn H2.next hg3 _ _ (P0 l (zNm n)) l.length _ _ ⟨0,false,rfl,oM,g0,g2,g3,g4,g5,g6,rfl,rfl⟩) ?_;rintro o e4 H4 ⟨rfl,ho,k0,k2,k3,k4,k5⟩;have hr4:ldC (some true) (some 2) 0 (nmE (zNm n))=some (.agg (nmE (zNm n)).toArray):=rfl;by_cases hm:n=Q4 l
  ·have hq:P0 l (zNm n)=false:=by rw[hm];exact hf
   rw[hq]at k5;refine J7 ho k2 k4 k5 hg3 hr4 hb3 ?_;refine A6 ⟨rfl,k2,?_,(hS.weaken oM).trans ((hS3.weaken oM).trans (i4.put lR))⟩;rw[i8 (u6 hb3),hm]
  ·have hq:P0 l (zNm n)=true:=hat n oM (by rw[Q4]at hm hi;omega);rw[hq]at k5;refine J4 ho k3 k5 @wrap_small ?_;exact i6 (kk-1) oM ⟨n+1,oM,oM,k0,k2,rfl,hS.trans hS3⟩
 by_cases h0:n=0
 ·have b0:decide ((0:Int)<n)=false:=decide_eq_false oM;refine J2 f3 b0 ?_;refine key _ _ ((i4.push oM).trans (i4.put oM)) ?_ f0 f2 f3 rfl rfl rfl;rw[i8 (by rw[i5];omega),zNm,zN,if_pos h0];rfl
 ·have b0:decide ((0:Int)<n)=true:=decide_eq_true oM;refine J4 f3 b0 hd hs ?_;refine key _ _ (((i4.push oM).trans (i4.put oM)).trans (i4.put oM)) ?_ f0 f2 f3 rfl rfl rfl;rw[i8 (by rw[j5,i5];omega),zNm,zN,if_neg h0];rfl
theorem yq(H:d9)(lo:Nat)(v:Value)(l:List (ByteArray×ByteArray))(hlo:lo≤H.next)(hv:SlI H lo 2 (v8 nmE) v l)(hn:l.length≤100000):CL prog t6 64 [v] H=some (.agg (nmE (zNm (Q4 l))).toArray,none):=by
 obtain⟨va,ca,rfl⟩:=hv.slice;obtain⟨H1,hH1⟩:∃H1,H1=d9.push ⟨H.bs,H.next⟩ (.cells [.string eB,.string eB] true 1):=⟨_,rfl⟩
 have hS:i4 H.next H H1:=by rw[hH1];exact i4.first H _
 have hg:H1.get H.next=cE [.string eB,.string eB] 1:=by rw[hH1];exact i7
 have hlow:H.next≤H1.low:=by rw[hH1,t5];exact lR
 rw[j8 ad2 rfl _ (by simp)];refine J1 hH1.symm ?_;refine l9 (F:=fun z=>u5 _ _ _ (inBlock 0 z)=_) (ui H1 lo H.next hlo (u6 hg) va ca l (hv.mono (fun j hj=>hS.get j oM) lR iF) hn hg (Q4 l+1) _ _ ⟨0,rfl,oM,rfl,rfl,rfl,i4.refl _ _⟩) ?_;rintro o e' H' ⟨ho,h2,hg',hS'⟩;have hl:=hS'.low hlow;have hr4:ldC (some true) (some 2) 0 (nmE (zNm (Q4 l)))=some (.agg (nmE (zNm (Q4 l))).toArray):=rfl;exact J4 ho h2 hg' hr4 trivial
end Go.Proofs.YtofbhlhamfkljaaGreatDoor.Ve
namespace Go.Proofs.YtofbhlhamfkljaaGreatDoor.Ve
open Go Go.RowKit
set_option linter.unusedVariables false
set_option linter.unusedSimpArgs false
set_option maxHeartbeats 0
def j9(w:Value)(b:Nat):Prop:=∃n c,w= .slice (some ⟨b,0,none⟩) n c
theorem A9(b:Nat):¬j9 (.slice none 0 0) b:=fun⟨_,_,h⟩=>by cases h
theorem I6{b b' n c:Nat}:j9 (.slice (some ⟨b,0,none⟩) n c) b'↔b'=b:=⟨fun⟨_,_,h⟩=>by cases h;rfl,fun h=>⟨n,c,by rw[h]⟩⟩
def SlF(H:d9)(F:Nat→Prop)(sz:Nat){α:Type}(R:LV→α→Prop)(v:Value)(l:List α):Prop:=
 (v= .slice none 0 0∧l=[])∨
 ∃b o c,v= .slice (some ⟨b,o,none⟩) l.length c∧
  (l=[]∨∃cs own,F b∧H.get b=some (.cells cs own sz)∧o+l.length*sz≤cs.length∧∀(i:Nat) a,l[i]?=some a→R ((cs.drop (o+i*sz)).take sz) a)
section
variable{α:Type}{R R':List Value→α→Prop}{H H':d9}{F F':Nat→Prop}{lo sz:Nat}{v w:Value}{l l2:List α}
theorem SlI.slF(h:SlI H lo sz R v l):SlF H (· <lo) sz R v l:=h
theorem SlF.mono(h:SlF H F sz R v l)(hg:∀j,F j→H'.get j=H.get j) (hF:∀j,F j→F' j) (hR:∀cs a,R cs a→R' cs a):SlF H' F' sz R' v l:=by
 rcases h with h|⟨b,o,c,hv,h⟩
 ·exact .inl h
 ·refine .inr ⟨b,o,c,hv,?_⟩;rcases h with h|⟨cs,own,h1,h2,h3,h4⟩
  ·exact .inl h
  ·exact .inr ⟨cs,own,hF _ h1,by rw[hg b h1];exact h2,h3,fun i a hi=>hR _ _ (h4 i a hi)⟩
theorem SlF.sl(h:SlF H F sz R v l)(hF:∀j,F j→j<lo):SlI H lo sz R v l:=h.mono (fun _ _=>rfl) hF iF
theorem SlF.slice(h:SlF H F sz R v l):∃a c,v= .slice a l.length c:=by
 rcases h with⟨h,h2⟩|⟨b,o,c,hv,h⟩
 ·exact⟨none,0,by rw[h,h2];rfl⟩
 ·exact⟨_,_,hv⟩
theorem t7.frz(h:t7 H lo sz R w l)(hF:∀b,j9 w b→F b):SlF H F sz R w l:=by
 obtain⟨cs,h1,h2⟩:=h;rcases h1 with⟨h,h0,_⟩|⟨b,c,h3,h4,h5,h6⟩
 ·exact .inl ⟨h,List.length_eq_zero_iff.1 h0⟩
 ·refine .inr ⟨b,0,c,h3,.inr ⟨cs,true,hF b ⟨_,_,h3⟩,h4,oM,fun i a hi=>?_⟩⟩;rw[Nat.zero_add];exact h2.2 i a hi
theorem t7.lt(h:t7 H lo sz R w l){b:Nat}(hb:j9 w b):lo≤b∧b<H.next:=by
 obtain⟨cs,h1,h2⟩:=h;obtain⟨n,c,rfl⟩:=hb;rcases h1 with⟨h,_⟩|⟨b',c',h3,h4,h5,h6⟩
 ·cases h
 ·cases h3;exact⟨h5,u6 h4⟩
theorem t7.same(h:t7 H lo sz R w l)(hg:∀b,j9 w b→H'.get b=H.get b):t7 H' lo sz R w l:=by
 obtain⟨cs,h1,h2⟩:=h;refine⟨cs,?_,h2⟩;rcases h1 with h|⟨b,c,h3,h4,h5,h6⟩
 ·exact .inl h
 ·exact .inr ⟨b,c,h3,by rw[hg b ⟨_,_,h3⟩];exact h4,h5,h6⟩
theorem CF{P:Program}{t e:TypeId}{bytes n m k:Nat}{z cs el:LV}{a:Option Addr}(ht:P.underlying t=some (.slice e))(hs:z9 P e=some sz)(hb:A7 P e=some bytes)(hz:B8 P e=some z)(h0:0<sz)(h1:0<bytes)
  (h:aP H lo sz v n cs) (hx:A3 H sz (.slice a m k)=some el) (hel:el.length=m*sz) (hr:(n+m)*bytes≤140737488355328) (hlo:lo≤H.next):
  Ret (C3 P H [t,t] v (.slice a m k)) H fun v' H'=>aP H' lo sz v' (n+m) (cs++el)∧i4 lo H H'∧(∀j,j<H.next→¬j9 v j→H'.get j=H.get j)∧((v'=v∧H'=H)∨∀b,j9 v' b→H.next≤b):=by
 have hte:I2 P t=some e:=by simp [I2,ht]
 have hadd:Z4 P H sz (some t) (.slice a m k)=some (m,el):=by
  simp only[Z4,Option.bind_some,ht,hx,Option.map_some]
 have hsz:¬(sz=0∨bytes=0):=oM;by_cases hm:m=0
 ·subst hm;have he:el=[]:=List.length_eq_zero_iff.1 oM;subst he;rw[Nat.add_zero,List.append_nil];refine⟨v,none,H,?_,rfl,h,i4.refl _ _,fun _ _ _=>rfl,.inl ⟨rfl,rfl⟩⟩;rcases h with⟨rfl,rfl,rfl⟩|⟨b,c,rfl,hg,hlb,hlen⟩
  ·simp [C3,hte,hs,hb,hz,hsz,hadd,dr]
  ·simp [C3,hte,hs,hb,hz,hsz,hadd,dr]
 ·rcases h with⟨rfl,rfl,rfl⟩|⟨b,c,rfl,hg,hlb,hlen⟩
  ·refine⟨.slice (some ⟨H.next,0,none⟩) m (m+1),some (H.push (.cells el true sz)),_,?_,rfl,.inr ⟨H.next,_,by rw[Nat.zero_add],i7,hlo,by simpa using hel⟩,i4.push hlo,fun j hj _=>j6 hj,.inr fun b hb=>by rw[I6]at hb;omega⟩;simp only[C3,List.head?_cons,Option.bind_some,hte,hs,hb,hz,List.getElem?_cons_succ,List.getElem?_cons_zero,if_neg hsz,hadd];rw[if_neg hm,if_pos (by simpa using hr),dr]
  ·have hbl:=u6 hg;have hcs:((cs.drop 0).take (n*sz))=cs:=by rw[List.drop_zero,List.take_of_length_le oM]
   by_cases hc:c=n
   ·refine⟨.slice (some ⟨H.next,0,none⟩) (n+m) (n+m+1),some (H.push (.cells (cs++el) true sz)),_,?_,rfl,.inr ⟨H.next,_,rfl,i7,hlo,by rw[List.length_append,hlen,hel,Nat.add_mul]⟩,i4.push hlo,fun j hj _=>j6 hj,.inr fun b hb=>by rw[I6]at hb;omega⟩;simp only[C3,List.head?_cons,Option.bind_some,hte,hs,hb,hz,List.getElem?_cons_succ,List.getElem?_cons_zero,if_neg hsz,hadd,hg,hcs];rw[if_neg hm,if_pos hr,if_pos (by simp;omega),if_pos hc,dr]
   ·refine⟨.slice (some ⟨H.next,0,none⟩) (n+m) (n+m+1),some ((H.put b .dead).push (.cells (cs++el) true sz)),_,?_,rfl,.inr ⟨H.next,_,rfl,y7 ⟨by simp [j5],by simp [j5]⟩,hlo,by rw[List.length_append,hlen,hel,Nat.add_mul]⟩,(i4.put hlb).trans (i4.push (by rw[j5];exact hlo)),fun j hj hn=>?_,.inr fun b hb=>by rw[I6]at hb;omega⟩
    ·simp only[C3,List.head?_cons,Option.bind_some,hte,hs,hb,hz,List.getElem?_cons_succ,List.getElem?_cons_zero,if_neg hsz,hadd,hg,hcs];rw[if_neg hm,if_pos hr,if_pos (by simp;omega),if_neg hc,if_pos trivial,dr]
    ·show((H.put b .dead).push (.cells (cs++el) true sz)).get j=H.get j;rw[j6 (by rw[j5];exact hj),i9 (fun q=>hn (by rw[←q];exact⟨_,_,rfl⟩))]
structure X7(lo:Nat)(w:Value)(H:d9)(v':Value)(H':d9):Prop where
 stay:i4 lo H H'
 but:∀j,j<H.next→¬j9 w j→H'.get j=H.get j
 new:∀b,j9 v' b→j9 w b∨H.next≤b
theorem X7.next{w v':Value}(h:X7 lo w H v' H'):H.next≤H'.next:=h.stay.next
theorem t7.appendF{P:Program}{t e:TypeId}{bytes:Nat}{z:LV}{x:Value}{n:Nat}(ht:P.underlying t=some (.slice e))(hs:z9 P e=some sz)(hb:A7 P e=some bytes)(hz:B8 P e=some z)(h0:0<sz)(h1:0<bytes)
  (h:t7 H lo sz R w l) (hx:SlI H n sz R x l2) (hr:(l.length+l2.length)*bytes≤140737488355328) (hlo:lo≤H.next):
  Ret (C3 P H [t,t] w x) H fun v' H'=>t7 H' lo sz R v' (l++l2)∧X7 lo w H v' H':=by
 obtain⟨cs,k1,k2⟩:=h;obtain⟨a,c,el,rfl,q1,q2⟩:=hx.rows;obtain⟨v',h',H1,r1,r2,r3,r4,r5,r6⟩:=CF (m:=l2.length) ht hs hb hz h0 h1 k1 q1 q2.1 hr hlo;refine⟨v',h',H1,r1,r2,⟨cs++el,by rw[List.length_append];exact r3,k2.append q2⟩,r4,r5,fun b hb=>?_⟩;rcases r6 with⟨rfl,_⟩|r6
 ·exact .inl hb
 ·exact .inr (r6 b hb)
theorem t7.push1F{P:Program}{t e:TypeId}{bytes:Nat}{z cs:LV}{a:α}(ht:P.underlying t=some (.slice e))(hs:z9 P e=some sz)(hb:A7 P e=some bytes)(hz:B8 P e=some z)(h0:0<sz)(h1:0<bytes)
  (h:t7 H lo sz R w l) (hcs:cs.length=sz) (hR:R cs a) (hr:(l.length+1)*bytes≤140737488355328) (hlo:lo≤H.next):
  Ret (C3 P (H.push (.cells cs true sz)) [t,t] w (.slice (some ⟨H.next,0,none⟩) 1 1)) (H.push (.cells cs true sz)) fun v' H'=>t7 H' lo sz R v' (l++[a])∧X7 lo w H v' H':=by
 have hO:=t7.fresh (H:=H) (lo:=H.next) (l:=[a]) (n:=1) (c:=1) rfl lR (D2.one hcs hR);have hn:(H.push (.cells cs true sz)).next=H.next+1:=i5;have hS:i4 H.next H (H.push (.cells cs true sz)):=i4.push lR;obtain⟨v',h',H',r1,r2,r3,r4,r5,r6⟩:=(h.keep hS).appendF ht hs hb hz h0 h1 hO.sl (by simpa using hr) oM;refine⟨v',h',H',r1,r2,r3,(hS.weaken hlo).trans r4,fun j hj hn2=>?_,fun b hb=>?_⟩
 ·rw[r5 j oM hn2,hS.get j hj]
 ·rcases r6 b hb with r|r
  ·exact .inl r
  ·exact .inr oM
end
end Go.Proofs.YtofbhlhamfkljaaGreatDoor.Ve
namespace Go.Proofs.YtofbhlhamfkljaaGreatDoor.Ve
open Go Go.RowKit
open Go.Proofs.Tryz (prog)
set_option linter.unusedVariables false
set_option linter.unusedSimpArgs false
set_option maxRecDepth 1000000
set_option maxHeartbeats 0
structure SpD where
 names:List (ByteArray×ByteArray)
 attrs:List (ByteArray×ByteArray)
 vals:List (List ByteArray)
 texts:List ByteArray
def spQ(q:Q):SpD:=⟨S9 4 4 (fsQ false q),S9 5 6 (fsQ false q),(S9 5 6 (fsQ false q)).map fun n=>S7 6 n (fsQ false q),S7 7 (eB,eB) (fsQ false q)⟩
def VlF(H:d9)(F:Nat→Prop)(cs:LV)(l:List ByteArray):Prop:=∃v,cs=[v]∧SlF H F 1 (v8 stE) v l
theorem VlF.mono{H H':d9}{F F':Nat→Prop}{cs:LV}{l:List ByteArray}(h:VlF H F cs l)(hg:∀j,F j→H'.get j=H.get j) (hF:∀j,F j→F' j):VlF H' F' cs l:=by
 obtain⟨v,h1,h2⟩:=h;exact⟨v,h1,h2.mono hg hF iF⟩
def SpR(H:d9)(lo:Nat)(cs:LV)(d:SpD):Prop:=∃v1 v2 v3 v4,cs=[v1,v2,v3,v4]∧SlI H lo 2 (v8 nmE) v1 d.names∧SlI H lo 2 (v8 nmE) v2 d.attrs∧SlI H lo 1 (VlF H (· <lo)) v3 d.vals∧SlI H lo 1 (v8 stE) v4 d.texts
theorem SpR.mono{H H':d9}{lo lo':Nat}{cs:LV}{d:SpD}(h:SpR H lo cs d)(hg:∀j,j<lo→H'.get j=H.get j) (hlo:lo≤lo'):SpR H' lo' cs d:=by
 obtain⟨v1,v2,v3,v4,h0,h1,h2,h3,h4⟩:=h;exact⟨v1,v2,v3,v4,h0,h1.mono hg hlo iF,h2.mono hg hlo iF,h3.mono hg hlo (fun _ _ h=>h.mono hg (fun j hj=>oM)),h4.mono hg hlo iF⟩
theorem uJ(k:Nat)(H1:d9)(p4:Nat)(hp4:p4<H1.next)(vf va v1 v4 p2:Value)(l:List Q)(at_:List (ByteArray×ByteArray))(hl:l.length≤1000000)(ha:at_.length≤1000000)(hvf:QsR H1 p4 k true vf l)(hva:SlI H1 p4 2 (v8 nmE) va at_):
  ∀kk e H2,(∃(i:Nat)(w:Value)(F:Nat→Prop),kk=at_.length-i∧i≤at_.length∧e.get 2=p2∧e.get 3=vf∧e.get 4=pT p4∧e.get 5=iV i∧H2.get p4=cE [v1,va,w,v4] 1∧t7 H2 (p4+1) 1 (VlF H2 F) w ((at_.take i).map fun n=>S7 6 n l)∧(∀b,j9 w b→¬F b)∧(∀j,F j→p4<j∧j<H2.next)∧i4 p4 H1 H2)→
  u9 (LE prog t6 (.loop FT) e H2) (fun o e H2=>o= .exit 0∧e.get 2=p2∧e.get 4=pT p4∧∃(w:Value)(F:Nat→Prop),H2.get p4=cE [v1,va,w,v4] 1∧t7 H2 (p4+1) 1 (VlF H2 F) w (at_.map fun n=>S7 6 n l)∧(∀j,F j→p4<j∧j<H2.next)∧i4 p4 H1 H2):=by
 obtain⟨aa,ac,hvs⟩:=hva.slice;subst hvs;refine j7 _ _ ?_;rintro kk e H2 ⟨i,w,F,hk,hi,f2,f3,f4,f5,hg4,hO,hnF,hF,hS⟩;have hn2:=hS.next;have hc1:([v1,.slice aa at_.length ac,w,v4]:LV)[1]?=some (.slice aa at_.length ac):=rfl;rcases b:decide ((i:Int)<at_.length)with _|_
 ·have hb':=dF b;have:at_.take i=at_:=List.take_of_length_le oM;rw[this]at hO;refine J4 f4 f5 hg4 b ?_;exact l7 ⟨rfl,f2,f4,w,F,hg4,hO,hF,hS⟩
 have hb':=dT b;obtain⟨x,nb,o,cs,own,el,hx,hd,hva',hlt,hg,hle,hrow,hc,rfl⟩:=hva.row (i:=i) oM;subst hva';have nt:(i:Int).toNat=i:=tN i;have hg2:=(hS.get nb hlt).trans hg;have hvf2:QsR H2 p4 k true vf l:=hvf.mono (fun j hj=>hS.get j hj) lR;obtain⟨v,h,H3,hca,hge,hO3,hS3⟩:=lN H2 p4 k vf l 6 x oM hvf2 hl;have hn3:=hS3.next;have hp3:p4<H3.next:=oM;have hg43:H3.get p4=cE [v1,.slice (some ⟨nb,o,none⟩) at_.length ac,w,v4] 1:=(hS3.get p4 oM).trans hg4;obtain⟨F',hF'⟩:∃F':Nat→Prop,F'=fun j=>F j∨j9 v j:=⟨_,rfl⟩
 have hFl:∀j,F' j→p4<j∧j<H3.next:=fun j hj=>by
  rw[hF']at hj;rcases hj with hj|hj
  ·have:=hF j hj;omega
  ·have:=hO3.lt hj;omega
 have hOw:t7 H3 (p4+1) 1 (VlF H3 F') w ((at_.take i).map fun n=>S7 6 n l):=(hO.keep hS3).imp fun cs a h=>h.mono (fun j hj=>hS3.get j (hF j hj).2) (fun j hj=>by rw[hF'];exact .inl hj);have hwF:∀b,j9 w b→¬F' b:=fun b hb hq=>by
  rw[hF']at hq;rcases hq with hq|hq
  ·exact hnF b hb hq
  ·have h1:=hO.lt hb;have h2:=hO3.lt hq;omega
 have hvl:VlF H3 F' [v] (S7 6 x l):=⟨v,rfl,hO3.frz fun b hb=>by rw[hF'];exact .inr hb⟩
 have hlen:((at_.take i).map fun n=>S7 6 n l).length=i:=by simp;omega
 obtain⟨v',h',H4,hap,hge',hO4,hG⟩:=hOw.push1F (P:=prog) (t:=96) (cs:=[v]) (a:=S7 6 x l) (by exact NR.2.2.2.2.2.2) aH.1 aH.2.1 aH.2.2.1 oM oM rfl hvl (by rw[hlen];omega) oM;have hn4:=hG.next;have hg44:H4.get p4=cE [v1,.slice (some ⟨nb,o,none⟩) at_.length ac,w,v4] 1:=(hG.stay.get p4 oM).trans hg43;have hp44:=u6 hg44;obtain⟨wa,wc,hws⟩:=hO.slice;obtain⟨va',vc',hvs'⟩:=hO4.slice;obtain⟨vv,vvc,hvvs⟩:=hO3.slice;have one4:Value.oneCell' v'=true:=by rw[hvs'];rfl
 have onev:Value.oneCell' v=true:=by rw[hvvs];rfl
 have cv:v.cells.toList=[v]:=by rw[hvvs];rfl
 have cv':v'.cells.toList=[v']:=by rw[hvs'];rfl
 refine J19 f3 f4 f5 hg4 b hg2 nt hrow hca hge hg43 onev cv hap hge' hg44 one4 cv' @wrap_small ?_;have htk:(at_.take (i+1)).map (fun n=>S7 6 n l)=((at_.take i).map fun n=>S7 6 n l)++[S7 6 x l]:=by
  rw[List.take_add_one,hx];simp
 have hst:∀(B:Blk),i4 p4 H1 (H4.put p4 B):=fun B=>(hS.trans ((hS3.weaken oM).trans (hG.stay.weaken oM))).trans (i4.put lR);refine i6 (kk-1) oM ⟨i+1,v',F',oM,oM,f2,f3,f4,rfl,i8 hp44,?_,fun b hb hq=>?_,fun j hj=>?_,hst _⟩
 ·rw[htk];refine(hO4.same fun b hb=>i9 ?_).imp fun cs a h=>h.mono (fun j hj=>?_) (fun _ h=>h)
  ·have:=hO4.lt hb;omega
  ·have:=hFl j hj;rw[i9 oM,hG.but j oM (fun q=>hwF j q hj)]
 ·rcases hG.new b hb with r|r
  ·exact hwF b r hq
  ·have:=hFl b hq;omega
 ·have:=hFl j hj;rw[j5];omega
theorem au{α:Type}{R:LV→α→Prop}{H:d9}{lo sz:Nat}{w:Value}{l:List α}(h:t7 H lo sz R w l)(hv:na0 w=true):w=nS∧l=[]:=by
 obtain⟨cs,h1,h2⟩:=h;rcases h1 with⟨h1,h0,_⟩|⟨b,c,h3,_⟩
 ·exact⟨h1,List.length_eq_zero_iff.1 h0⟩
 ·rw[h3]at hv;cases hv
theorem ig{α:Type}(R:LV→α→Prop)(H:d9)(lo sz:Nat):SlI H lo sz R (nS) ([]:List α):= .inl ⟨rfl,rfl⟩
theorem yr(H:d9)(lo k:Nat)(cs:LV)(q:Q)(hlo:lo≤H.next)(hr:QR H lo k false cs q)(hok:OkD false q)(hl:(fsQ false q).length≤100000):
  Ret (CL prog t6 63 [.agg cs.toArray] H) H fun w H1=>∃cs',w= .agg cs'.toArray∧SpR H1 H1.next cs' (spQ q)∧i4 H.next H H1:=by
 cases k with
 |zero=>exact hr.elim
 |succ k=>
 have hr0:=hr;obtain⟨va,ca,wa,ca',rfl,h1,h2,h3,h4⟩:=hr.path;obtain⟨row,hrowd⟩:∃row:LV,row=[iV q.op,.slice va q.a.length ca,.slice wa q.b.length ca']:=⟨_,rfl⟩
 obtain⟨H1,hH1⟩:∃H1,H1=(d9.push ⟨H.bs,H.next⟩ (.cells row true 1)).push (.cells [nS,nS,nS,nS] true 1):=⟨_,rfl⟩
 have hn0:(d9.push ⟨H.bs,H.next⟩ (.cells row true 1)).next=H.next+1:=by rw[i5];rfl
 have hS:i4 H.next H H1:=by rw[hH1];exact(i4.first H _).trans (i4.push oM)
 have hg1:H1.get H.next=cE row 1:=by rw[hH1,j6 oM];exact i7
 have hg2:H1.get (H.next+1)=cE [nS,nS,nS,nS] 1:=by rw[hH1];exact y7 oM
 have hlow:H.next≤H1.low:=by rw[hH1,t5,t5];exact lR
 have hn1:H1.next=H.next+2:=by rw[hH1,i5,hn0]
 have hld:ldC (some true) (some 3) 0 row=some (.agg row.toArray):=by rw[hrowd];rfl
 rw[←hrowd]at hr0 ⊢;have hall:row.all Value.oneCell'=true:=by rw[hrowd];rfl
 obtain⟨vf,hf,Hf,hcf,hgf,hOf,hSf⟩:=(My (k+1)).1 H1 lo row q oM (hr0.mono (fun j hj=>hS.get j oM) lR) oM hok;have hnf:=hSf.next;have hvf:QsR Hf Hf.next (k+1) true vf (fsQ false q):=hOf.sl.mono (fun _ _=>rfl) lR fun cs x h=>h.mono (fun j hj=>(hSf.get j oM)) oM;obtain⟨v1,h1',Ha,hc1,hge1,hO1,hS1⟩:=nP Hf Hf.next (k+1) vf (fsQ false q) 4 4 lR hvf oM;have hna:=hS1.next;obtain⟨v2,h2',Hb,hc2,hge2,hO2,hS2⟩:=nP Ha Hf.next (k+1) vf (fsQ false q) 5 6 oM (hvf.mono (fun j hj=>hS1.get j hj) lR) oM;have hnb:=hS2.next;obtain⟨v4,h4',Hc,hc4,hge4,hO4,hS4⟩:=lN Hb Hf.next (k+1) vf (fsQ false q) 7 (eB,eB) oM (hvf.mono (fun j hj=>by rw[hS2.get j oM,hS1.get j hj]) lR) oM;have hnc:=hS4.next;obtain⟨a1,c1,e1⟩:=hO1.slice;obtain⟨a2,c2,e2⟩:=hO2.slice;obtain⟨a4,c4,e4⟩:=hO4.slice;have cv1:v1.cells.toList=[v1]:=by rw[e1];rfl
 have cv2:v2.cells.toList=[v2]:=by rw[e2];rfl
 have cv4:v4.cells.toList=[v4]:=by rw[e4];rfl
 have on1:Value.oneCell' v1=true:=by rw[e1];rfl
 have on2:Value.oneCell' v2=true:=by rw[e2];rfl
 have on4:Value.oneCell' v4=true:=by rw[e4];rfl
 obtain⟨Hd,hHd⟩:∃Hd,Hd=(Hc.push (.cells [nS,nS,nS,nS] true 1)).put Hc.next (.cells [v1,v2,nS,v4] true 1):=⟨_,rfl⟩
 have hSd:i4 Hc.next Hc Hd:=by rw[hHd];exact(i4.push lR).trans (i4.put lR)
 have hnd:Hd.next=Hc.next+1:=by rw[hHd,j5,i5]
 have hgd:Hd.get Hc.next=cE [v1,v2,nS,v4] 1:=by rw[hHd];exact i8 (by rw[i5];omega)
 rw[j8 ad1 rfl _ (by simp)];refine J19 hall hH1.symm hg1 hld hcf hgf hc1 hge1 hc2 hge2 hc4 hge4 cv1 cv2 cv4 on1 on2 on4 hHd.symm ?_;have hO1d:t7 Hd Hf.next 2 (v8 nmE) v1 (S9 4 4 (fsQ false q)):=((hO1.keep hS2).keep hS4).keep hSd;have hO2d:t7 Hd Ha.next 2 (v8 nmE) v2 (S9 5 6 (fsQ false q)):=(hO2.keep hS4).keep hSd;have hO4d:t7 Hd Hb.next 1 (v8 stE) v4 (S7 7 (eB,eB) (fsQ false q)):=hO4.keep hSd;have slb:∀{sz:Nat}{α:Type}{R:LV→α→Prop}{lo:Nat}{w:Value}{l:List α}(H:d9),t7 H lo sz R w l→H.next≤Hc.next→SlI H Hc.next sz R w l:=fun H h hle=>h.sl.mono (fun _ _=>rfl) hle iF;have hvf':QsR Hd Hc.next (k+1) true vf (fsQ false q):=hvf.mono (fun j hj=>by rw[hSd.get j oM,hS4.get j oM,hS2.get j oM,hS1.get j hj]) oM;have hatl:(S9 5 6 (fsQ false q)).length≤1000000:=by have:=cH (bI 5 6) qNm Q3 (fsQ false q) [];rw[S9];simp at this;omega
 have hva2:SlI Hd Hc.next 2 (v8 nmE) v2 (S9 5 6 (fsQ false q)):=hO2d.frz fun b hb=>by have:=hO2.lt hb;omega
 refine l9 (F:=fun z=>Ret (u5 _ _ _ (u7 (inBlock 0 z) _)) _ _) (uJ (k+1) Hd Hc.next oM vf v2 v1 v4 _ (fsQ false q) (S9 5 6 (fsQ false q)) oM hatl hvf' hva2 (S9 5 6 (fsQ false q)).length _ _ ⟨0,nS,fun _=>False,rfl,oM,rfl,rfl,rfl,rfl,hgd,t7.nil,fun b hb=>(A9 b hb).elim,fun j hj=>hj.elim,i4.refl _ _⟩) ?_;rintro o e' H5 ⟨ho,g2,g4,w,F,hg5,hOw,hF,hS5⟩;have hn5:=hS5.next;have hg25:H5.get (H.next+1)=cE [nS,nS,nS,nS] 1:=by
  rw[hS5.get _ oM,hSd.get _ oM,hS4.get _ oM,hS2.get _ oM,hS1.get _ oM,hSf.get _ oM];exact hg2
 obtain⟨a3,c3,e3⟩:=hOw.slice;have on3:Value.oneCell' w=true:=by rw[e3];rfl
 have hld4:ldC (some true) (some 4) 0 [v1,v2,w,v4]=some (.agg [v1,v2,w,v4].toArray):=rfl;obtain⟨H6,hH6⟩:∃H6,H6=H5.put (H.next+1) (.cells [v1,v2,w,v4] true 1):=⟨_,rfl⟩
 have hg6:H6.get (H.next+1)=cE [v1,v2,w,v4] 1:=by rw[hH6];exact i8 oM
 have hn6:H6.next=H5.next:=by rw[hH6,j5]
 have hS6:i4 (H.next+1) H5 H6:=by rw[hH6];exact i4.put lR
 have hSall:i4 H.next H H6:=(((((((hS.trans (hSf.weaken oM)).trans (hS1.weaken oM)).trans (hS2.weaken oM)).trans (hS4.weaken oM)).trans (hSd.weaken oM)).trans (hS5.weaken oM)).trans (hS6.weaken oM))
 have hl6:H.next≤H6.low:=((((((hSf.weaken (show H.next≤H1.next from oM)).trans (hS1.weaken oM)).trans (hS2.weaken oM)).trans (hS4.weaken oM)).trans (hSd.weaken oM)).trans (hS5.weaken oM)).trans (hS6.weaken oM) |>.low hlow
 have at6:∀b,H.next+1<b→H6.get b=H5.get b:=fun b hb=>by rw[hH6];exact i9 oM
 refine J12 ho g2 g4 hg5 hld4 hg25 on1 on2 on3 on4 hH6.symm hg6 ?_;refine ce (fun hc=>?_) ?_
 ·simp only[List.all_cons,List.all_nil,Bool.and_true,Bool.and_eq_true]at hc;obtain⟨z1,z2⟩:=au hO1 hc.1;obtain⟨z3,z4⟩:=au hO2 hc.2.1;obtain⟨z5,z6⟩:=au hOw hc.2.2.1;obtain⟨z7,z8⟩:=au hO4 hc.2.2.2;refine⟨[v1,v2,w,v4],rfl,⟨v1,v2,w,v4,rfl,?_,?_,?_,?_⟩,i4.refl _ _⟩
  ·rw[z1,spQ,z2];exact ig ..
  ·rw[z3,spQ,z4];exact ig ..
  ·rw[z5,spQ,z6];exact ig ..
  ·rw[z7,spQ,z8];exact ig ..
 ·have low:∀{sz:Nat}{α:Type}{R:LV→α→Prop}{v:Value}{l:List α}(n:Nat),SlI H6 n sz R v l→SlI ⟨H6.bs,min H.low H6.low⟩ n sz R v l:=fun n h=>SlI.mono h (fun _ _=>rfl) lR iF;have hnx:d9.next ⟨H6.bs,min H.low H6.low⟩=H6.next:=rfl;refine⟨[v1,v2,w,v4],rfl,⟨v1,v2,w,v4,rfl,low _ ?_,low _ ?_,low _ ?_,low _ ?_⟩,hSall.ret hl6⟩
  ·exact(hO1d.same fun b hb=>by have:=hO1.lt hb;rw[at6 b oM,hS5.get b oM]).frz fun b hb=>by have:=hO1.lt hb;rw[hnx];omega
  ·exact(hO2d.same fun b hb=>by have:=hO2.lt hb;rw[at6 b oM,hS5.get b oM]).frz fun b hb=>by have:=hO2.lt hb;rw[hnx];omega
  ·refine SlF.mono ((hOw.same (H':=H6) fun b hb=>by have:=hOw.lt hb;rw[at6 b oM]).frz (F:=fun j=>j<H6.next) fun b hb=>by have:=hOw.lt hb;omega) (fun _ _=>rfl) (fun j hj=>hj) fun cs a h=>h.mono (fun j hj=>?_) fun j hj=>?_
   ·have:=hF j hj;exact at6 j oM
   ·have:=hF j hj;rw[hnx];omega
  ·exact(hO4d.same fun b hb=>by have:=hO4.lt hb;rw[at6 b oM,hS5.get b oM]).frz fun b hb=>by have:=hO4.lt hb;rw[hnx];omega
structure PrD where
 st:Int
 sa:Int
 en:Int
 ed:List (Int×Int×Int×Int)
 ts:List Q
def PrD.edge(p:PrD)(f t k x:Int):PrD:={p with ed:=p.ed++[(f,t,k,x)]}
mutual
def C5:Q→PrD→PrD×Int×Int
 | .mk o _ _ _ a b,p=>
  if o=4 then hU a p
  else if o=5 then(((L5 a p.st {p with st:=p.st+1} []).2.foldl (fun m x=>m.edge x (L5 a p.st {p with st:=p.st+1} []).1.st 0 0) {(L5 a p.st {p with st:=p.st+1} []).1 with st:=(L5 a p.st {p with st:=p.st+1} []).1.st+1}),p.st,(L5 a p.st {p with st:=p.st+1} []).1.st)
  else if o=6 then(((gS a {p with st:=p.st+1}).1.edge p.st (gS a {p with st:=p.st+1}).2.1 0 0).edge (gS a {p with st:=p.st+1}).2.2 p.st 0 0,p.st,p.st)
  else(({p with st:=p.st+2,ts:=if o=7 then p.ts++b else p.ts}:PrD).edge p.st (p.st+1) (if o=2 then 1 else if o=3 then 2 else if o=7 then 3 else 0) (if o=7 then(p.ts.length:Int) else 0),p.st,p.st+1)
def hU:List Q→PrD→PrD×Int×Int
 |[],p=>(p,0,0)
 |x::l,p=>cP l (C5 x p)
def cP:List Q→PrD×Int×Int→PrD×Int×Int
 |[],x=>x
 |q::l,x=>cP l ((C5 q x.1).1.edge x.2.2 (C5 q x.1).2.1 0 0,x.2.1,(C5 q x.1).2.2)
def L5:List Q→Int→PrD→List Int→PrD×List Int
 |[],_,p,es=>(p,es)
 |x::l,n,p,es=>L5 l n ((C5 x p).1.edge n (C5 x p).2.1 0 0) (es++[(C5 x p).2.2])
def gS:List Q→PrD→PrD×Int×Int
 |[],p=>(p,0,0)
 |x::_,p=>C5 x p
end
mutual
def nQ:Q→Nat
 | .mk _ _ _ _ a b=>1+nL a+nL b
def nL:List Q→Nat
 |[]=>0
 |x::l=>nQ x+nL l
end
theorem dE(q:Q):nQ q=1+nL q.a+nL q.b:=by cases q;rw[nQ];rfl
theorem pt:∀l:List Q,l.length≤nL l
 |[]=>Nat.zero_le _
 |x::l=>by
  have:=pt l;have h:=dE x;rw[nL,List.length_cons];omega
def X9(n c:Nat)(p r:PrD):Prop:=p.st≤r.st∧r.st≤p.st+2*n∧r.ed.length+c≤p.ed.length+4*n∧r.ts.length≤p.ts.length+n
theorem N8(p:PrD)(f t k x:Int):(p.edge f t k x).ed.length=p.ed.length+1:=by simp [PrD.edge]
theorem U4(p:PrD)(f t k x:Int):(p.edge f t k x).st=p.st:=rfl
theorem bS(p:PrD)(f t k x:Int):(p.edge f t k x).ts=p.ts:=rfl
theorem iB(e:Int):∀(l:List Int)(p:PrD),(l.foldl (fun m x=>m.edge x e 0 0) p).st=p.st∧(l.foldl (fun m x=>m.edge x e 0 0) p).ts=p.ts∧(l.foldl (fun m x=>m.edge x e 0 0) p).ed.length=p.ed.length+l.length
 |[],p=>⟨rfl,rfl,rfl⟩
 |x::l,p=>by
  obtain⟨h1,h2,h3⟩:=iB e l (p.edge x e 0 0);rw[List.foldl_cons];refine⟨h1,h2,?_⟩;rw[h3,N8,List.length_cons];omega
mutual
theorem E8:∀(q:Q)(p:PrD),X9 (nQ q) 2 p (C5 q p).1
 | .mk o s c v a b,p=>by
  rw[C5,nQ];have hb:=pt b;split
  ·have:=uH a p;unfold X9 at*;omega
  ·split
   ·obtain⟨h1,h2⟩:=bA a p.st {p with st:=p.st+1} [];obtain⟨k1,k2,k3⟩:=iB (L5 a p.st {p with st:=p.st+1} []).1.st (L5 a p.st {p with st:=p.st+1} []).2 {(L5 a p.st {p with st:=p.st+1} []).1 with st:=(L5 a p.st {p with st:=p.st+1} []).1.st+1};unfold X9 at*;simp only[List.length_nil]at h2;rw[k1,k2,k3];simp only at h1 ⊢;omega
   ·split
    ·have h:=ug a {p with st:=p.st+1};unfold X9 at*;simp only[N8,U4,bS];simp only at h;omega
    ·unfold X9;simp only[N8,U4,bS];split
     ·rw[List.length_append];omega
     ·omega
theorem uH:∀(l:List Q)(p:PrD),X9 (nL l) 0 p (hU l p).1
 |[],p=>by rw[hU];unfold X9;simp [nL]
 |x::l,p=>by
  rw[hU,nL];have h1:=E8 x p;have h2:=lU l (C5 x p);unfold X9 at*;omega
theorem lU:∀(l:List Q)(x:PrD×Int×Int),X9 (nL l) l.length x.1 (cP l x).1
 |[],x=>by rw[cP];unfold X9;simp [nL]
 |q::l,x=>by
  rw[cP,nL];have h1:=E8 q x.1;have h2:=lU l ((C5 q x.1).1.edge x.2.2 (C5 q x.1).2.1 0 0,x.2.1,(C5 q x.1).2.2);unfold X9 at*;simp only[N8,U4,bS]at h2;rw[List.length_cons];omega
theorem bA:∀(l:List Q)(n:Int)(p:PrD)(es:List Int),X9 (nL l) l.length p (L5 l n p es).1∧(L5 l n p es).2.length=es.length+l.length
 |[],n,p,es=>by rw[L5];unfold X9;simp [nL]
 |x::l,n,p,es=>by
  rw[L5,nL];have h1:=E8 x p;obtain⟨h2,h3⟩:=bA l n ((C5 x p).1.edge n (C5 x p).2.1 0 0) (es++[(C5 x p).2.2]);unfold X9 at*;simp only[N8,U4,bS]at h2;rw[List.length_append]at h3;simp only[List.length_cons,List.length_nil]at h3 ⊢;omega
theorem ug:∀(l:List Q)(p:PrD),X9 (nL l) 0 p (gS l p).1
 |[],p=>by rw[gS];unfold X9;simp [nL]
 |x::l,p=>by
  rw[gS,nL];have h1:=E8 x p;unfold X9 at*;omega
end
def PrF(H:d9)(F:Nat→Prop)(Rt:LV→Q→Prop)(cs:LV)(p:PrD):Prop:=∃ve vt,cs=[iV p.st,iV p.sa,iV p.en,ve,vt]∧SlF H F 4 (v8 edE) ve p.ed∧SlF H F 6 Rt vt p.ts
theorem PrF.mono{H H':d9}{F F':Nat→Prop}{Rt Rt':LV→Q→Prop}{cs:LV}{p:PrD}(h:PrF H F Rt cs p)(hg:∀j,F j→H'.get j=H.get j) (hn:∀j,F j→F' j) (hR:∀cs a,Rt cs a→Rt' cs a):PrF H' F' Rt' cs p:=by
 obtain⟨ve,vt,h0,h1,h2⟩:=h;exact⟨ve,vt,h0,h1.mono hg hn iF,h2.mono hg hn hR⟩
abbrev P5(F:Nat→Prop)(H H1:d9):Nat→Prop:=fun j=>F j∨(H.next≤j∧j<H1.next)
theorem cK(H:d9)(F:Nat→Prop)(Rt:LV→Q→Prop)(pcs:LV)(p:PrD)(f t k x:Int)(hF:∀j,F j→j<H.next) (hp:PrF H F Rt pcs p) (he:p.ed.length≤1000000):
  Ret (CL prog t6 114 [.agg pcs.toArray,iV f,iV t,iV k,iV x] H) H fun w H1=>∃cs',w= .agg cs'.toArray∧PrF H1 (P5 F H H1) Rt cs' (p.edge f t k x)∧i4 H.next H H1:=by
 obtain⟨ve,vt,rfl,h1,h2⟩:=hp;obtain⟨ea,ec,rfl⟩:=h1.slice;obtain⟨ta,tc,rfl⟩:=h2.slice;obtain⟨row,hrowd⟩:∃row:LV,row=[iV p.st,iV p.sa,iV p.en,.slice ea p.ed.length ec,.slice ta p.ts.length tc]:=⟨_,rfl⟩
 obtain⟨Z,hZ⟩:∃Z:LV,Z=[iV 0,iV 0,iV 0,nS,nS]:=⟨_,rfl⟩
 obtain⟨H1,hH1⟩:∃H1,H1=(d9.push ⟨H.bs,H.next⟩ (.cells row true 1)).push (.cells Z true 1):=⟨_,rfl⟩
 have hn0:(d9.push ⟨H.bs,H.next⟩ (.cells row true 1)).next=H.next+1:=by rw[i5];rfl
 have hS:i4 H.next H H1:=by rw[hH1];exact(i4.first H _).trans (i4.push oM)
 have hg1:H1.get H.next=cE row 1:=by rw[hH1,j6 oM];exact i7
 have hg2:H1.get (H.next+1)=cE Z 1:=by rw[hH1];exact y7 oM
 have hlow:H.next≤H1.low:=by rw[hH1,t5,t5];exact lR
 have hn1:H1.next=H.next+2:=by rw[hH1,i5,hn0]
 obtain⟨H2,hH2⟩:∃H2,H2=H1.push (.cells [] true 4):=⟨_,rfl⟩
 have hS2:i4 H1.next H1 H2:=by rw[hH2];exact i4.push lR
 have hn2:H2.next=H1.next+1:=by rw[hH2,i5]
 have hO0:t7 H2 H1.next 4 (v8 edE) (.slice (some ⟨H1.next,0,none⟩) 0 0) ([]:List (Int×Int×Int×Int)):=by rw[hH2];exact t7.fresh rfl lR D2.nil
 have h1':SlI H2 H.next 4 (v8 edE) (.slice ea p.ed.length ec) p.ed:=SlF.sl (h1.mono (fun j hj=>by have:=hF j hj;rw[hS2.get j oM,hS.get j oM]) (fun _ h=>h) iF) hF;obtain⟨v3,h3,H3,ha3,hge3,hO3,hG3⟩:=hO0.appendF (P:=prog) (t:=30) (by exact Fp.2.2.2.2.2.2) mL.1 mL.2.1 mL.2.2.1 oM oM h1' (by simp;omega) oM;have hn3:=hG3.next;obtain⟨v4,h4,H4,ha4,hge4,hO4,hG4⟩:=hO3.push1F (P:=prog) (t:=30) (cs:=edE (f,t,k,x)) (a:=(f,t,k,x)) (by exact Fp.2.2.2.2.2.2) mL.1 mL.2.1 mL.2.2.1 oM oM rfl rfl (by simp;omega) oM;have hn4:=hG4.next;have hb1:H4.get H.next=cE row 1:=by rw[hG4.stay.get _ oM,hG3.stay.get _ oM,hS2.get _ oM];exact hg1
 have hb13:H3.get H.next=cE row 1:=by rw[hG3.stay.get _ oM,hS2.get _ oM];exact hg1
 have hb12:H2.get H.next=cE row 1:=by rw[hS2.get _ oM];exact hg1
 have hb2:H4.get (H.next+1)=cE Z 1:=by rw[hG4.stay.get _ oM,hG3.stay.get _ oM,hS2.get _ oM];exact hg2
 obtain⟨a4,c4,e4⟩:=hO4.slice;have on4:Value.oneCell' v4=true:=by rw[e4];rfl
 have cv4:v4.cells.toList=[v4]:=by rw[e4];rfl
 obtain⟨row2,hrow2⟩:∃row2:LV,row2=[iV p.st,iV p.sa,iV p.en,v4,.slice ta p.ts.length tc]:=⟨_,rfl⟩
 obtain⟨H5,hH5⟩:∃H5,H5=(H4.put H.next (.cells row2 true 1)).put (H.next+1) (.cells row2 true 1):=⟨_,rfl⟩
 have hsp:splice row 3 [v4]=row2:=by rw[hrowd,hrow2];rfl
 have c3:row[3]?=some (.slice ea p.ed.length ec):=by rw[hrowd];rfl
 have l5:row.length=5:=by rw[hrowd];rfl
 have hld:ldC (some true) (some 5) 0 row2=some (.agg row2.toArray):=by rw[hrow2];rfl
 have hZs:splice Z 0 row2=row2:=by rw[hZ,hrow2];rfl
 have lz:Z.length=5:=by rw[hZ];rfl
 have l2:row2.length=5:=by rw[hrow2];rfl
 have hall:row.all Value.oneCell'=true:=by rw[hrowd];rfl
 have hall2:row2.all Value.oneCell'=true:=by rw[hrow2];simp [on4];exact⟨rfl,rfl,rfl,rfl⟩
 rw[j8 WE rfl _ (by simp),←hrowd];have hg5:H5.get (H.next+1)=cE row2 1:=by rw[hH5];exact i8 (by rw[j5];omega)
 have hS5:i4 H.next H H5:=by rw[hH5];exact((((hS.trans (hS2.weaken oM)).trans (hG3.stay.weaken oM)).trans (hG4.stay.weaken oM)).trans (i4.put lR)).trans (i4.put oM)
 have hl5:H.next≤H5.low:=by rw[hH5,A4,A4];have:=(((hS2.weaken (show H.next≤H1.next from oM)).trans (hG3.stay.weaken oM)).trans (hG4.stay.weaken oM)).low hlow;omega
 have hz5:B8 prog 32=some Z:=by rw[hZ];exact mK.2.2.1
 refine J23 hall hZ.symm hH1.symm hH2.symm hb12 c3 ha3 hge3 ha4 hge4 hb1 hb2 l5 on4 cv4 hsp hld l2 lz hall2 hZs hH5.symm hg5 ?_;refine ce (fun hc=>?_) ?_
 ·rw[hrow2]at hc;simp only[List.all_cons,Bool.and_eq_true]at hc;have:=(au hO4 hc.2.2.2.1).2;simp at this
 ·have hnx:d9.next ⟨H5.bs,min H.low H5.low⟩=H5.next:=rfl;have hn5:H5.next=H4.next:=by rw[hH5,j5,j5]
  have hO5:t7 H5 H1.next 4 (v8 edE) v4 (p.ed++[(f,t,k,x)]):=by
   have:=hO4.same (H':=H5) fun b hb=>by have:=hO4.lt hb;rw[hH5,i9 oM,i9 oM]
   simpa using this
  refine⟨row2,rfl,⟨v4,.slice ta p.ts.length tc,hrow2,?_,?_⟩,hS5.ret hl5⟩
  ·exact SlF.mono (hO5.frz (F:=fun j=>H.next≤j∧j<H5.next) fun b hb=>by have:=hO5.lt hb;omega) (fun _ _=>rfl) (fun j hj=> .inr hj) iF
  ·exact SlF.mono (H:=H) h2 (fun j hj=>(hS5.get j (hF j hj))) (fun j hj=> .inl hj) iF
abbrev se(s e:Int):LV:=[iV s,iV e]
def iq(n:Nat)(p:PrD):Prop:=0≤p.st∧p.st+2*n≤1000000∧p.ed.length+4*n≤900000∧p.ts.length+n≤900000
def vW(H:d9)(F:Nat→Prop)(Rt:LV→Q→Prop)(r:PrD×Int×Int)(w:Value)(H1:d9):Prop:=∃cs',w= .agg (cs'++se r.2.1 r.2.2).toArray∧PrF H1 (P5 F H H1) Rt cs' r.1∧i4 H.next H H1
def jY(K k:Nat):Prop:=∀(H:d9)(lo:Nat)(F:Nat→Prop)(Rt:LV→Q→Prop)(cs pcs:LV)(q:Q)(p:PrD),lo≤H.next→(∀j,F j→j<H.next)→QR H lo k false cs q→
 (∀k' el x,k'≤K→QR H lo k' true el x→Rt el x)→PrF H F Rt pcs p→OkD false q→iq (nQ q) p→Ret (CL prog t6 90 [.agg pcs.toArray,.agg cs.toArray] H) H (vW H F Rt (C5 q p))
theorem vA(H:d9)(A B C:LV):∃H1,H1=((d9.push ⟨H.bs,H.next⟩ (.cells A true 1)).push (.cells B true 1)).push (.cells C true 1)∧i4 H.next H H1∧H1.get H.next=cE A 1∧H1.get (H.next+1)=cE B 1∧H1.get (H.next+2)=cE C 1∧H.next≤H1.low∧H1.next=H.next+3:=by
 have n1:(d9.push ⟨H.bs,H.next⟩ (.cells A true 1)).next=H.next+1:=by rw[i5];rfl
 have n2:((d9.push ⟨H.bs,H.next⟩ (.cells A true 1)).push (.cells B true 1)).next=H.next+2:=by rw[i5,n1]
 refine⟨_,rfl,((i4.first H _).trans (i4.push oM)).trans (i4.push oM),?_,?_,?_,?_,?_⟩
 ·rw[j6 oM,j6 oM];exact i7
 ·rw[j6 oM];exact y7 oM
 ·exact y7 oM
 ·rw[t5,t5,t5];exact lR
 ·rw[i5,n2]
abbrev z7:LV:=[iV 0,iV 0,iV 0,nS,nS,iV 0,iV 0]
theorem ct(q:Q)(p:PrD)(h4:q.op≠4)(h5:q.op≠5)(h6:q.op≠6):C5 q p=(({p with st:=p.st+2,ts:=if q.op=7 then p.ts++q.b else p.ts}:PrD).edge p.st (p.st+1) (if q.op=2 then 1 else if q.op=3 then 2 else if q.op=7 then 3 else 0) (if q.op=7 then(p.ts.length:Int) else 0),p.st,p.st+1):=by
 cases q;simp only[Q.op]at h4 h5 h6;rw[C5,if_neg h4,if_neg h5,if_neg h6];rfl
theorem E1{H:d9}{F:Nat→Prop}{Rt:LV→Q→Prop}{cs:LV}{p:PrD}(h:PrF H F Rt cs p):∃ea ec ta tc,cs=[iV p.st,iV p.sa,iV p.en,.slice ea p.ed.length ec,.slice ta p.ts.length tc]∧SlF H F 4 (v8 edE) (.slice ea p.ed.length ec) p.ed∧SlF H F 6 Rt (.slice ta p.ts.length tc) p.ts:=by
 obtain⟨ve,vt,rfl,h1,h2⟩:=h;obtain⟨ea,ec,rfl⟩:=h1.slice;obtain⟨ta,tc,rfl⟩:=h2.slice;exact⟨ea,ec,ta,tc,rfl,h1,h2⟩
theorem bX{α:Type}{R:LV→α→Prop}{H H':d9}{F F':Nat→Prop}{sz:Nat}{v:Value}{l:List α}(h:SlF H F sz R v l)(hv:na0 v=true):SlF H' F' sz R v l:=by
 rcases h with h|⟨b,o,c,hb,_⟩
 ·exact .inl h
 ·rw[hb]at hv;cases hv
theorem cT{H H':d9}{F:Nat→Prop}{Rt:LV→Q→Prop}{cs':LV}{r:PrD×Int×Int}(hp:PrF H' (P5 F H H') Rt cs' r.1)(hS:i4 H.next H H')(hl:H.next≤H'.low){c:Bool}(hc0:c=true→(cs'++se r.2.1 r.2.2).all na0=true):
  Ret (some (br c (.agg (cs'++se r.2.1 r.2.2).toArray,none) (.agg (cs'++se r.2.1 r.2.2).toArray,some ⟨H'.bs,min H.low H'.low⟩))) H (vW H F Rt r):=by
 obtain⟨ve,vt,rfl,h1,h2⟩:=hp;refine ce (fun hc=>?_) ⟨_,rfl,⟨ve,vt,rfl,h1,h2⟩,hS.ret hl⟩;have hc:=hc0 hc;simp only[List.cons_append,List.nil_append,List.all_cons,Bool.and_eq_true]at hc;exact⟨_,rfl,⟨ve,vt,rfl,bX h1 hc.2.2.2.1,bX h2 hc.2.2.2.2.1⟩,i4.refl _ _⟩
theorem nf(F:Nat→Prop)(Rt:LV→Q→Prop){H Hx:d9}(b:Nat)(rowx:LV)(px:PrD)(f t kind test s e:Int)(zz:LV)(hed:px.ed.length≤1000000)(hF:∀j,F j→j<Hx.next) (hpx:PrF Hx F Rt rowx px) (hz:Hx.get b=cE zz 1) (hb:¬F b):
  ∃h5 H5 ve5 na ca5 vt5 nb cb5 H6,CL prog t6 114 [.agg rowx.toArray,iV f,iV t,iV kind,iV test] Hx=dr (.agg #[iV px.st,iV px.sa,iV px.en,.slice ve5 na ca5,.slice vt5 nb cb5]) h5∧h5.getD Hx=H5∧H5.get b=cE zz 1∧
   H6=H5.put b (.cells ([iV px.st,iV px.sa,iV px.en,.slice ve5 na ca5,.slice vt5 nb cb5]++se s e) true 1)∧H6.get b=cE ([iV px.st,iV px.sa,iV px.en,.slice ve5 na ca5,.slice vt5 nb cb5]++se s e) 1∧
   i4 Hx.next Hx H5∧H6.next=H5.next∧PrF H6 (P5 F Hx H6) Rt [iV px.st,iV px.sa,iV px.en,.slice ve5 na ca5,.slice vt5 nb cb5] (px.edge f t kind test):=by
 obtain⟨v5,h5',H5,hc5,hge5,cs5,rfl,hp5,hS5⟩:=cK Hx F Rt rowx px f t kind test hF hpx hed;have hn5:=hS5.next;obtain⟨ea5,ec5,ta5,tc5,rfl,he5,ht5⟩:=E1 hp5;have hbl:=u6 hz;have b23:H5.get b=cE zz 1:=(hS5.get _ hbl).trans hz;refine⟨h5',H5,ea5,_,ec5,ta5,_,tc5,_,hc5,hge5,b23,rfl,i8 oM,hS5,by rw[j5],?_⟩;refine hp5.mono (fun j hj=>i9 fun q=>?_) (fun j hj=>?_) iF
 ·subst q;rcases hj with hj|hj
  ·exact hb hj
  ·omega
 ·rcases hj with hj|hj
  ·exact .inl hj
  ·exact .inr ⟨hj.1,by rw[j5];exact hj.2⟩
theorem zd(K k:Nat)(hk:k≤K)(q:Q)(h4:q.op≠4)(h5:q.op≠5)(h6:q.op≠6)(H:d9)(lo:Nat)(F:Nat→Prop)(Rt:LV→Q→Prop)(cs pcs:LV)(p:PrD)(hlo:lo≤H.next)(hF:∀j,F j→j<H.next) (hr:QR H lo (k+1) false cs q)
  (hRt:∀k' el x,k'≤K→QR H lo k' true el x→Rt el x) (hp:PrF H F Rt pcs p) (hok:OkD false q) (hfit:iq (nQ q) p):
  Ret (CL prog t6 90 [.agg pcs.toArray,.agg cs.toArray] H) H (vW H F Rt (C5 q p)):=by
 obtain⟨f0,f1,f2,f3⟩:=hfit;have hnq:=dE q;obtain⟨_,_,o1,_,okn⟩:=hok.parts;have o7:=(dk okn).2.2.1;simp only[Bool.false_eq_true,if_false]at o7;obtain⟨va,ca,wa,ca',rfl,h1,h2,h3,h4'⟩:=hr.path;obtain⟨ea,ec,ta,tc,rfl,he,ht⟩:=E1 hp;rw[ct q p h4 h5 h6];obtain⟨row,hrowd⟩:∃row:LV,row=[iV p.st,iV p.sa,iV p.en,.slice ea p.ed.length ec,.slice ta p.ts.length tc]:=⟨_,rfl⟩
 obtain⟨rowq,hrowq⟩:∃row:LV,row=[iV q.op,.slice va q.a.length ca,.slice wa q.b.length ca']:=⟨_,rfl⟩
 obtain⟨H1,hH1,hS,hg1,hg2,hg3,hlow,hn1⟩:=vA H row rowq z7;have a1:row.all Value.oneCell'=true:=by rw[hrowd];rfl
 have a2:rowq.all Value.oneCell'=true:=by rw[hrowq];rfl
 have r0:row[0]?=some (.int .i64 p.st):=by rw[hrowd];rfl
 have q0:rowq[0]?=some (.int .i64 q.op):=by rw[hrowq];rfl
 have q2:rowq[2]?=some (.slice wa q.b.length ca'):=by rw[hrowq];rfl
 have lr:row.length=5:=by rw[hrowd];rfl
 obtain⟨row2,hrow2⟩:∃row2:LV,row2=[iV (p.st+2),iV p.sa,iV p.en,.slice ea p.ed.length ec,.slice ta p.ts.length tc]:=⟨_,rfl⟩
 have hsp:splice row 0 [iV (p.st+2)]=row2:=by rw[hrowd,hrow2];rfl
 have r24:row2[4]?=some (.slice ta p.ts.length tc):=by rw[hrow2];rfl
 have lr2:row2.length=5:=by rw[hrow2];rfl
 obtain⟨H2,hH2⟩:∃H2,H2=H1.put H.next (.cells row2 true 1):=⟨_,rfl⟩
 have hS2:i4 H.next H1 H2:=by rw[hH2];exact i4.put lR
 have hn2:H2.next=H1.next:=by rw[hH2,j5]
 have h21:H2.get H.next=cE row2 1:=by rw[hH2];exact i8 oM
 have h22:H2.get (H.next+1)=cE rowq 1:=by rw[hH2,i9 oM];exact hg2
 have h23:H2.get (H.next+2)=cE z7 1:=by rw[hH2,i9 oM];exact hg3
 have c4:decide (q.op=4)=false:=decide_eq_false h4;have c5:decide (q.op=5)=false:=decide_eq_false h5;have c6:decide (q.op=6)=false:=decide_eq_false h6;have ld2:ldC (some true) (some 5) 0 row2=some (.agg row2.toArray):=by rw[hrow2];rfl
 have hS02:i4 H.next H H2:=hS.trans hS2;have hFb:∀i,¬F (H.next+i):=fun i q=>by have:=hF _ q;omega
 by_cases h7:q.op=7
 ·have c7:decide (q.op=7)=true:=decide_eq_true h7;have c2:decide (q.op=2)=false:=decide_eq_false oM;have c3:decide (q.op=3)=false:=decide_eq_false oM;rw[if_pos h7,if_neg oM,if_neg oM,if_pos h7,if_pos h7];have hb1:=o7.1 h7;obtain⟨x,nb,o,csx,own,el,hx,hd,rfl,hlt,hgx,hle,hrow,hR⟩:=h2.row (i:=0) oM;have hbx:q.b=[x]:=by
   obtain⟨y,hy⟩:=List.length_eq_one_iff.1 hb1;rw[hy]at hx ⊢;simpa using hx
  simp only[qSz,if_true,Nat.zero_mul,Nat.add_zero]at hrow hgx hle;have gx2:H2.get nb=_:=(hS02.get nb oM).trans hgx;obtain⟨K1,hK1⟩:∃K1,K1=H2.push (.cells [] true 6):=⟨_,rfl⟩
  have sK1:i4 H2.next H2 K1:=by rw[hK1];exact i4.push lR
  have nK1:K1.next=H2.next+1:=by rw[hK1,i5]
  have hO0:t7 K1 H2.next 6 Rt (.slice (some ⟨H2.next,0,none⟩) 0 0) ([]:List Q):=by rw[hK1];exact t7.fresh rfl lR D2.nil
  have ht1:SlI K1 H.next 6 Rt (.slice ta p.ts.length tc) p.ts:=SlF.sl (ht.mono (fun j hj=>by have:=hF j hj;rw[sK1.get j oM,hS02.get j this]) (fun _ h=>h) iF) hF;obtain⟨v3,h3',H3,ha3,hge3,hO3,hG3⟩:=hO0.appendF (P:=prog) (t:=23) (by exact pI.2.2.2.2.2.2) aW.1 aW.2.1 aW.2.2.1 oM oM ht1 (by simp;omega) oM;have n3:=hG3.next;obtain⟨v4,h4',H4,ha4,hge4,hO4,hG4⟩:=hO3.push1F (P:=prog) (t:=23) (cs:=el) (a:=x) (by exact pI.2.2.2.2.2.2) aW.1 aW.2.1 aW.2.2.1 oM oM hR.len (hRt k el x hk hR) (by simp;omega) oM;have n4:=hG4.next;have k3:∀j,j<H2.next→H3.get j=H2.get j:=fun j hj=>by rw[hG3.stay.get j oM,sK1.get j hj]
  have k4:∀j,j<H2.next→H4.get j=H2.get j:=fun j hj=>by rw[hG4.stay.get j oM,k3 j hj]
  have b11:K1.get H.next=cE row2 1:=(sK1.get _ oM).trans h21;have b12:K1.get (H.next+1)=cE rowq 1:=(sK1.get _ oM).trans h22;have b1x:=(sK1.get nb oM).trans gx2;have b31:H3.get H.next=cE row2 1:=(k3 _ oM).trans h21;have b32:H3.get (H.next+1)=cE rowq 1:=(k3 _ oM).trans h22;have b3x:=(k3 nb oM).trans gx2;have b41:H4.get H.next=cE row2 1:=(k4 _ oM).trans h21;have b43:H4.get (H.next+2)=cE z7 1:=(k4 _ oM).trans h23;obtain⟨a4,c4',e4⟩:=hO4.slice;have on4:Value.oneCell' v4=true:=by rw[e4];rfl
  have cv4:v4.cells.toList=[v4]:=by rw[e4];rfl
  obtain⟨row3,hrow3⟩:∃row3:LV,row3=[iV (p.st+2),iV p.sa,iV p.en,.slice ea p.ed.length ec,v4]:=⟨_,rfl⟩
  have hsp3:splice row2 4 [v4]=row3:=by rw[hrow2,hrow3];rfl
  have ld3:ldC (some true) (some 5) 0 row3=some (.agg row3.toArray):=by rw[hrow3];rfl
  obtain⟨H5,hH5⟩:∃H5,H5=H4.put H.next (.cells row3 true 1):=⟨_,rfl⟩
  have n5:H5.next=H4.next:=by rw[hH5,j5]
  have g5:H5.get H.next=cE row3 1:=by rw[hH5];exact i8 oM
  have b53:H5.get (H.next+2)=cE z7 1:=by rw[hH5,i9 oM];exact b43
  have k5:∀j,j<H.next→H5.get j=H.get j:=fun j hj=>by rw[hH5,i9 oM,k4 j oM,hS02.get j hj]
  have hO5:t7 H5 H2.next 6 Rt v4 (p.ts++[x]):=by
   have:=hO4.same (H':=H5) fun b hb=>by have:=hO4.lt hb;rw[hH5,i9 oM]
   simpa using this
  have hp5:PrF H5 (P5 F H2 H5) Rt row3 {p with st:=p.st+2,ts:=p.ts++q.b}:=by
   refine⟨_,_,hrow3,he.mono (fun j hj=>k5 j (hF j hj)) (fun _ h=> .inl h) iF,?_⟩;rw[hbx];exact SlF.mono (hO5.frz (F:=fun j=>H2.next≤j∧j<H5.next) fun b hb=>by have:=hO5.lt hb;omega) (fun _ _=>rfl) (fun j hj=> .inr hj) iF
  have hFl:∀j,P5 F H2 H5 j→j<H5.next:=by
   rintro j (hj|hj)
   ·have:=hF j hj;omega
   ·exact hj.2
  have hFn:¬P5 F H2 H5 (H.next+2):=by
   rintro(q|q)
   ·exact hFb 2 q
   ·omega
  obtain⟨h5',H6,ve5,na,ca5,vt5,nb5,cb5,H7,hc5,hge5,b5,e7,g7,hS5,hn7,hp7⟩:=nf (P5 F H2 H5) Rt (H:=H) (Hx:=H5) (H.next+2) row3 {p with st:=p.st+2,ts:=p.ts++q.b} p.st (p.st+1) 3 p.ts.length p.st (p.st+1) z7 (by show p.ed.length≤_;omega) hFl hp5 b53 hFn;have s5:i4 H.next H1 H5:=(((hS2.trans (sK1.weaken oM)).trans (hG3.stay.weaken oM)).trans (hG4.stay.weaken oM)).trans (by rw[hH5];exact i4.put lR);have s7:i4 H.next H1 H7:=(s5.trans (hS5.weaken oM)).trans (by rw[e7];exact i4.put oM);have hFp:∀j,P5 (P5 F H2 H5) H5 H7 j→P5 F H H7 j:=by
   have:=hS5.next;rintro j ((hj|hj)|hj)
   ·exact .inl hj
   ·exact .inr ⟨oM,oM⟩
   ·exact .inr ⟨oM,hj.2⟩
  have q3:PrF H7 (P5 F H H7) Rt _ _:=hp7.mono (fun _ _=>rfl) hFp iF;have hl7:=s7.low hlow;simp only[List.cons_append,List.nil_append]at e7 g7;rw[j8 tC rfl _ (by simp),←hrowd,←hrowq];have hall6:el.all Value.oneCell'=true:=by
   cases k with
   |zero=>exact hR.elim
   |succ k=>obtain⟨_,_,_,_,rfl,_⟩:=hR.filter;rfl
  have bsl:bsA prog (some 86) H3 1 [(0,.agg el.toArray)]=some (.slice (some ⟨H3.next,0,none⟩) 1 1,H3.push (.cells el true 6)):=by
   cases k with
   |zero=>exact hR.elim
   |succ k=>
    obtain⟨_,_,_,_,rfl,_⟩:=hR.filter;simp only[C7,aW,C8];rfl
  refine J30 a1 a2 hH1.symm hg1 hg2 r0 q0 q2 lr hsp hH2.symm h21 (And.intro h22 c4) (And.intro c5 c6) (And.intro c7 c2) (And.intro c3 r24) (And.intro @wrap_small hK1.symm) (And.intro gx2 b11) (And.intro b12 b1x) (And.intro hrow ha3) (And.intro hge3 b31) (And.intro b32 b3x) (And.intro bsl ha4) (And.intro hge4 b41) (And.intro lr2 on4) (And.intro cv4 hsp3) (And.intro hH5.symm g5) (And.intro ld3 hc5) (And.intro hge5 b5) (And.intro e7.symm g7) ?_;exact cT (r:=(_,p.st,p.st+1)) q3 (hS.trans s7) hl7 (fun h=>by simpa only[List.cons_append,List.nil_append,List.all_cons,List.all_nil,gO,Bool.true_and,Bool.and_true] using h)
 ·have c7:decide (q.op=7)=false:=decide_eq_false h7;simp only[if_neg h7];have hp2:PrF H2 F Rt row2 {p with st:=p.st+2}:=⟨_,_,hrow2,he.mono (fun j hj=>hS02.get j (hF j hj)) (fun _ h=>h) iF,ht.mono (fun j hj=>hS02.get j (hF j hj)) (fun _ h=>h) iF⟩
  have ed:=fun kind=>nf F Rt (H:=H) (H.next+2) row2 {p with st:=p.st+2} p.st (p.st+1) kind 0 p.st (p.st+1) z7 (by show p.ed.length≤_;omega) (fun j hj=>by have:=hF j hj;omega) hp2 h23 (hFb 2);have fin:∀(kind:Int)(H5 H6:d9)(cs5:LV),H6=H5.put (H.next+2) (.cells (cs5++se p.st (p.st+1)) true 1)→i4 H2.next H2 H5→PrF H6 (P5 F H2 H6) Rt cs5 (({p with st:=p.st+2}:PrD).edge p.st (p.st+1) kind 0)→i4 H.next H H6∧H.next≤H6.low∧PrF H6 (P5 F H H6) Rt cs5 (({p with st:=p.st+2}:PrD).edge p.st (p.st+1) kind 0):=by
   intro kind H5 H6 cs5 e6 hS5 hp6;have s6:i4 H.next H2 H6:=(hS5.weaken oM).trans (by rw[e6];exact i4.put oM);exact⟨hS02.trans s6,(hS2.trans s6).low hlow,hp6.mono (fun _ _=>rfl) (fun j hj=>hj.imp id fun h=>⟨oM,h.2⟩) iF⟩
  by_cases o2:q.op=2
  ·have c2:decide (q.op=2)=true:=decide_eq_true o2;have c3:decide (q.op=3)=false:=decide_eq_false oM;rw[if_pos o2];obtain⟨h5,H5,ve5,na,ca5,vt5,nb,cb5,H6,hc5,hge5,b5,e6,g6,hS5,hn6,hp6⟩:=ed 1;obtain⟨q1,q2',q3⟩:=fin 1 H5 H6 _ e6 hS5 hp6;simp only[List.cons_append,List.nil_append]at e6 g6;rw[j8 tC rfl _ (by simp),←hrowd,←hrowq];refine J25 a1 a2 hH1.symm hg1 hg2 r0 q0 lr hsp hH2.symm h21 h22 c4 c5 c6 c7 c2 c3 @wrap_small ld2 hc5 hge5 b5 e6.symm g6 ?_;exact cT (r:=(_,p.st,p.st+1)) q3 q1 q2' (fun h=>by simpa only[List.cons_append,List.nil_append,List.all_cons,List.all_nil,gO,Bool.true_and,Bool.and_true] using h)
  ·have c2:decide (q.op=2)=false:=decide_eq_false o2;rw[if_neg o2];by_cases o3:q.op=3
   ·have c3:decide (q.op=3)=true:=decide_eq_true o3;rw[if_pos o3];obtain⟨h5,H5,ve5,na,ca5,vt5,nb,cb5,H6,hc5,hge5,b5,e6,g6,hS5,hn6,hp6⟩:=ed 2;obtain⟨q1,q2',q3⟩:=fin 2 H5 H6 _ e6 hS5 hp6;simp only[List.cons_append,List.nil_append]at e6 g6;rw[j8 tC rfl _ (by simp),←hrowd,←hrowq];refine J25 a1 a2 hH1.symm hg1 hg2 r0 q0 lr hsp hH2.symm h21 h22 c4 c5 c6 c7 c2 c3 @wrap_small ld2 hc5 hge5 b5 e6.symm g6 ?_;exact cT (r:=(_,p.st,p.st+1)) q3 q1 q2' (fun h=>by simpa only[List.cons_append,List.nil_append,List.all_cons,List.all_nil,gO,Bool.true_and,Bool.and_true] using h)
   ·have c3:decide (q.op=3)=false:=decide_eq_false o3;rw[if_neg o3];obtain⟨h5,H5,ve5,na,ca5,vt5,nb,cb5,H6,hc5,hge5,b5,e6,g6,hS5,hn6,hp6⟩:=ed 0;obtain⟨q1,q2',q3⟩:=fin 0 H5 H6 _ e6 hS5 hp6;simp only[List.cons_append,List.nil_append]at e6 g6;rw[j8 tC rfl _ (by simp),←hrowd,←hrowq];refine J25 a1 a2 hH1.symm hg1 hg2 r0 q0 lr hsp hH2.symm h21 h22 c4 c5 c6 c7 c2 c3 @wrap_small ld2 hc5 hge5 b5 e6.symm g6 ?_;exact cT (r:=(_,p.st,p.st+1)) q3 q1 q2' (fun h=>by simpa only[List.cons_append,List.nil_append,List.all_cons,List.all_nil,gO,Bool.true_and,Bool.and_true] using h)
theorem mP(q:Q)(p:PrD)(h6:q.op=6){x:Q}(hx:q.a=[x]):C5 q p=(((C5 x {p with st:=p.st+1}).1.edge p.st (C5 x {p with st:=p.st+1}).2.1 0 0).edge (C5 x {p with st:=p.st+1}).2.2 p.st 0 0,p.st,p.st):=by
 cases q;simp only[Q.op]at h6;simp only[Q.a]at hx;subst h6;subst hx;rw[C5,if_neg (by decide),if_neg (by decide),if_pos rfl,gS]
theorem ze(K k:Nat)(hk:k≤K)(ih:jY K k)(q:Q)(h6:q.op=6)(H:d9)(lo:Nat)(F:Nat→Prop)(Rt:LV→Q→Prop)(cs pcs:LV)(p:PrD)(hlo:lo≤H.next)(hF:∀j,F j→j<H.next) (hr:QR H lo (k+1) false cs q)
  (hRt:∀k' el x,k'≤K→QR H lo k' true el x→Rt el x) (hp:PrF H F Rt pcs p) (hok:OkD false q) (hfit:iq (nQ q) p):
  Ret (CL prog t6 90 [.agg pcs.toArray,.agg cs.toArray] H) H (vW H F Rt (C5 q p)):=by
 obtain⟨f0,f1,f2,f3⟩:=hfit;have hnq:=dE q;obtain⟨ok1,_,o1,_,okn⟩:=hok.parts;obtain⟨l1,l2,_,_⟩:=dk okn;have e1:lst false q.op=1∧mst false q.op=1:=by rw[h6];decide
 rw[e1.1]at l1;rw[e1.2]at l2;obtain⟨va,ca,wa,ca',rfl,h1,h2,h3,h4'⟩:=hr.path;obtain⟨ea,ec,ta,tc,rfl,he,ht⟩:=E1 hp;obtain⟨x,nb,o,csx,own,el,hx,hd,rfl,hlt,hgx,hle,hrow,hR⟩:=h1.row (i:=0) oM;have hax:q.a=[x]:=by
  obtain⟨y,hy⟩:=List.length_eq_one_iff.1 (show q.a.length=1 from oM);rw[hy]at hx ⊢;simpa using hx
 simp only[qSz,Bool.false_eq_true,if_false,Nat.zero_mul,Nat.add_zero]at hrow hgx hle;have hnx:nQ x+1≤nQ q:=by rw[hnq,hax,nL,nL];omega
 rw[mP q p h6 hax];obtain⟨row,hrowd⟩:∃row:LV,row=[iV p.st,iV p.sa,iV p.en,.slice ea p.ed.length ec,.slice ta p.ts.length tc]:=⟨_,rfl⟩
 obtain⟨rowq,hrowq⟩:∃row:LV,row=[iV q.op,.slice (some ⟨nb,o,none⟩) q.a.length ca,.slice wa q.b.length ca']:=⟨_,rfl⟩
 obtain⟨H1,hH1,hS,hg1,hg2,hg3,hlow,hn1⟩:=vA H row rowq z7;have a1:row.all Value.oneCell'=true:=by rw[hrowd];rfl
 have a2:rowq.all Value.oneCell'=true:=by rw[hrowq];rfl
 have r0:row[0]?=some (.int .i64 p.st):=by rw[hrowd];rfl
 have q0:rowq[0]?=some (.int .i64 q.op):=by rw[hrowq];rfl
 have q1:rowq[1]?=some (.slice (some ⟨nb,o,none⟩) q.a.length ca):=by rw[hrowq];rfl
 have lr:row.length=5:=by rw[hrowd];rfl
 have hla:(0:Int)<q.a.length:=oM;obtain⟨row2,hrow2⟩:∃row2:LV,row2=[iV (p.st+1),iV p.sa,iV p.en,.slice ea p.ed.length ec,.slice ta p.ts.length tc]:=⟨_,rfl⟩
 have hsp:splice row 0 [iV (p.st+1)]=row2:=by rw[hrowd,hrow2];rfl
 have lr2:row2.length=5:=by rw[hrow2];rfl
 obtain⟨H2,hH2⟩:∃H2,H2=H1.put H.next (.cells row2 true 1):=⟨_,rfl⟩
 have hS2:i4 H.next H1 H2:=by rw[hH2];exact i4.put lR
 have hn2:H2.next=H1.next:=by rw[hH2,j5]
 have h21:H2.get H.next=cE row2 1:=by rw[hH2];exact i8 oM
 have h22:H2.get (H.next+1)=cE rowq 1:=by rw[hH2,i9 oM];exact hg2
 have h23:H2.get (H.next+2)=cE z7 1:=by rw[hH2,i9 oM];exact hg3
 have c4:decide (q.op=4)=false:=decide_eq_false oM;have c5:decide (q.op=5)=false:=decide_eq_false oM;have c6:decide (q.op=6)=true:=decide_eq_true h6;have ld2:ldC (some true) (some 5) 0 row2=some (.agg row2.toArray):=by rw[hrow2];rfl
 have hS02:i4 H.next H H2:=hS.trans hS2;have hFb:∀i,¬F (H.next+i):=fun i q=>by have:=hF _ q;omega
 have gx2:H2.get nb=_:=(hS02.get nb oM).trans hgx;have hp2:PrF H2 F Rt row2 {p with st:=p.st+1}:=⟨_,_,hrow2,he.mono (fun j hj=>hS02.get j (hF j hj)) (fun _ h=>h) iF,ht.mono (fun j hj=>hS02.get j (hF j hj)) (fun _ h=>h) iF⟩
 obtain⟨v3,h3',H3,hc3,hge3,cs3,rfl,hp3,hS3⟩:=ih H2 lo F Rt el row2 x {p with st:=p.st+1} oM (fun j hj=>by have:=hF j hj;omega) (hR.mono (fun j hj=>hS02.get j oM) lR)
  (fun k' el x hk' h=>hRt k' el x hk' (h.mono (fun j hj=>(hS02.get j oM).symm) lR)) hp2 (ok1 x (by rw[hax];simp)) ⟨by show 0≤p.st+1;omega,by show p.st+1+2*_≤_;omega,by show p.ed.length+_≤_;omega,by show p.ts.length+_≤_;omega⟩
 have hgr:=E8 x {p with st:=p.st+1};obtain⟨r,hrd⟩:∃r,r=C5 x {p with st:=p.st+1}:=⟨_,rfl⟩
 rw[←hrd]at hp3 hgr hc3 ⊢;obtain⟨g1,g2,g3,g4⟩:=hgr;simp only at g1 g2 g3 g4;obtain⟨ea3,ec3,ta3,tc3,rfl,he3,ht3⟩:=E1 hp3;have hn3:=hS3.next;obtain⟨K,hKd⟩:∃K:LV,K=[iV r.1.st,iV r.1.sa,iV r.1.en,.slice ea3 r.1.ed.length ec3,.slice ta3 r.1.ts.length tc3,iV r.2.1,iV r.2.2]:=⟨_,rfl⟩
 obtain⟨row4,hrow4⟩:∃K:LV,K=[iV r.1.st,iV r.1.sa,iV r.1.en,.slice ea3 r.1.ed.length ec3,.slice ta3 r.1.ts.length tc3]:=⟨_,rfl⟩
 simp only[List.cons_append,List.nil_append]at hc3;rw[←hKd]at hc3;rw[←hrow4]at hp3;have aK:K.all Value.oneCell'=true:=by rw[hKd];rfl
 have lK:K.length=7:=by rw[hKd];rfl
 have spK:splice z7 0 K=K:=by rw[hKd];rfl
 obtain⟨H4,hH4⟩:∃H4,H4=(H3.push (.cells z7 true 1)).put H3.next (.cells K true 1):=⟨_,rfl⟩
 have n4:H4.next=H3.next+1:=by rw[hH4,j5,i5]
 have sH4:i4 H3.next H3 H4:=by rw[hH4];exact(i4.push lR).trans (i4.put lR)
 have g4K:H4.get H3.next=cE K 1:=by rw[hH4];exact i8 (by rw[i5];omega)
 have k4:∀j,j<H2.next→H4.get j=H2.get j:=fun j hj=>by rw[sH4.get j oM,hS3.get j hj]
 have b43:H4.get (H.next+2)=cE z7 1:=(k4 _ oM).trans h23;have b41:H4.get H.next=cE row2 1:=(k4 _ oM).trans h21;have ldK:ldC (some true) (some 5) 0 K=some (.agg row4.toArray):=by rw[hKd,hrow4];rfl
 have K5:K[5]?=some (.int .i64 r.2.1):=by rw[hKd];rfl
 have K6:K[6]?=some (.int .i64 r.2.2):=by rw[hKd];rfl
 have hp4:PrF H4 (P5 F H2 H3) Rt row4 r.1:=hp3.mono (fun j hj=>by
  rcases hj with hj|hj
  ·have:=hF j hj;exact sH4.get j oM
  ·exact sH4.get j hj.2) (fun _ h=>h) iF
 have hF3:∀j,P5 F H2 H3 j→j<H3.next:=by
  rintro j (hj|hj)
  ·have:=hF j hj;omega
  ·exact hj.2
 obtain⟨v5,h5',H5,hc5,hge5,cs5,rfl,hp5,hS5⟩:=cK H4 (P5 F H2 H3) Rt row4 r.1 p.st r.2.1 0 0 (fun j hj=>by have:=hF3 j hj;omega) hp4 oM;have hn5:=hS5.next;have b5K:H5.get H3.next=cE K 1:=(hS5.get _ oM).trans g4K;have hF5:∀j,P5 (P5 F H2 H3) H4 H5 j→j<H5.next:=by
  rintro j (hj|hj)
  ·have:=hF3 j hj;omega
  ·exact hj.2
 obtain⟨v6,h6',H6,hc6,hge6,cs6,rfl,hp6,hS6⟩:=cK H5 _ Rt cs5 _ r.2.2 p.st 0 0 hF5 hp5 (by rw[N8];omega);have hn6:=hS6.next;obtain⟨ea6,ec6,ta6,tc6,rfl,he6,ht6⟩:=E1 hp6;obtain⟨cs6,hcs6⟩:∃cs6:LV,cs6=[iV ((r.1.edge p.st r.2.1 0 0).edge r.2.2 p.st 0 0).st,iV ((r.1.edge p.st r.2.1 0 0).edge r.2.2 p.st 0 0).sa,iV ((r.1.edge p.st r.2.1 0 0).edge r.2.2 p.st 0 0).en,.slice ea6 ((r.1.edge p.st r.2.1 0 0).edge r.2.2 p.st 0 0).ed.length ec6,.slice ta6 ((r.1.edge p.st r.2.1 0 0).edge r.2.2 p.st 0 0).ts.length tc6]:=⟨_,rfl⟩
 rw[←hcs6]at hp6 hc6;have l6:cs6.length=5:=by rw[hcs6];rfl
 have a6:cs6.all Value.oneCell'=true:=by rw[hcs6];rfl
 have sp6:splice row2 0 cs6=cs6:=by rw[hcs6,hrow2];rfl
 have ld6:ldC (some true) (some 5) 0 cs6=some (.agg cs6.toArray):=by rw[hcs6];rfl
 have bld:Q6 (fun i=>([(0,5),(5,1),(6,1)]:List (Nat×Nat))[i]?) z7 [(0,.agg cs6.toArray),(1,iV p.st),(2,iV p.st)]=some (cs6++se p.st p.st):=by rw[hcs6];rfl
 have b61:H6.get H.next=cE row2 1:=(hS6.get _ oM).trans ((hS5.get _ oM).trans b41);have b63:H6.get (H.next+2)=cE z7 1:=(hS6.get _ oM).trans ((hS5.get _ oM).trans b43);obtain⟨H7,hH7⟩:∃H7,H7=H6.put H.next (.cells cs6 true 1):=⟨_,rfl⟩
 have g71:H7.get H.next=cE cs6 1:=by rw[hH7];exact i8 oM
 have g73:H7.get (H.next+2)=cE z7 1:=by rw[hH7,i9 oM];exact b63
 have a8:(cs6++se p.st p.st).all Value.oneCell'=true:=by rw[hcs6];rfl
 have l8:(cs6++se p.st p.st).length=7:=by rw[hcs6];rfl
 have sp8:splice z7 0 (cs6++se p.st p.st)=cs6++se p.st p.st:=by rw[hcs6];rfl
 have ld8:ldC (some true) (some 7) 0 (cs6++se p.st p.st)=some (.agg (cs6++se p.st p.st).toArray):=by rw[hcs6];rfl
 obtain⟨H8,hH8⟩:∃H8,H8=H7.put (H.next+2) (.cells (cs6++se p.st p.st) true 1):=⟨_,rfl⟩
 have g8:H8.get (H.next+2)=cE (cs6++se p.st p.st) 1:=by rw[hH8];exact i8 (by rw[hH7,j5];omega)
 have s8:i4 H.next H1 H8:=(((((hS2.trans (hS3.weaken oM)).trans (sH4.weaken oM)).trans (hS5.weaken oM)).trans (hS6.weaken oM)).trans (show i4 H.next H6 H7 by rw[hH7];exact i4.put lR)).trans (show i4 H.next H7 H8 by rw[hH8];exact i4.put oM);have n8:H8.next=H6.next:=by rw[hH8,j5,hH7,j5]
 have hl8:=s8.low hlow;have hp8:PrF H8 (P5 F H H8) Rt cs6 ((r.1.edge p.st r.2.1 0 0).edge r.2.2 p.st 0 0):=hp6.mono (fun j hj=>by
  have hne:j≠H.next∧j≠H.next+2:=by
   rcases hj with((hj|hj)|hj)|hj
   ·have:=hF j hj;omega
   ·omega
   ·omega
   ·omega
  rw[hH8,i9 oM,hH7,i9 oM]) (fun j hj=>by
  rcases hj with((hj|hj)|hj)|hj
  ·exact .inl hj
  ·exact .inr ⟨oM,oM⟩
  ·exact .inr ⟨oM,oM⟩
  ·exact .inr ⟨oM,oM⟩) iF
 rw[j8 tC rfl _ (by simp),←hrowd,←hrowq];refine J30 a1 a2 hH1.symm hg1 hg2 r0 q0 q1 lr (And.intro hsp hH2.symm) (And.intro h21 h22) (And.intro c4 c5) (And.intro c6 @wrap_small) (And.intro ld2 gx2) (And.intro hrow hc3) (And.intro hge3 aK) (And.intro lK spK) (And.intro hH4.symm g4K) (And.intro ldK K5) (And.intro K6 hc5) (And.intro hge5 b5K) (And.intro hc6 hge6) (And.intro b61 lr2) (And.intro l6 a6) (And.intro sp6 hH7.symm) (And.intro g71 ld6) (And.intro g73 bld) (And.intro a8 l8) (And.intro sp8 hH8.symm) (And.intro g8 ld8) ?_;exact cT (r:=(_,p.st,p.st)) hp8 (hS.trans s8) hl8 (fun h=>h)
structure Ft(Kc row4:LV)(r:PrD×Int×Int):Prop where
 all:Kc.all Value.oneCell'=true
 len:Kc.length=7
 spl:splice z7 0 Kc=Kc
 ld5:ldC (some true) (some 5) 0 Kc=some (.agg row4.toArray)
 ld7:ldC (some true) (some 7) 0 Kc=some (.agg Kc.toArray)
 c5:Kc[5]?=some (.int .i64 r.2.1)
 c6:Kc[6]?=some (.int .i64 r.2.2)
 row:Kc=row4++se r.2.1 r.2.2
 len4:row4.length=5
 all4:row4.all Value.oneCell'=true
 spl7:∀K2:LV,K2.length=7→splice K2 0 Kc=Kc
 spl5:∀R:LV,R.length=5→splice R 0 row4=row4
 bld:∀s e:Int,Q6 (fun i=>([(0,5),(5,1),(6,1)]:List (Nat×Nat))[i]?) z7 [(0,.agg row4.toArray),(1,iV s),(2,iV e)]=some (row4++se s e)
 ld:ldC (some true) (some 5) 0 row4=some (.agg row4.toArray)
theorem w7:∀(A B:LV),A.length=B.length→splice A 0 B=B:=by
 intro A B h;apply List.ext_getElem?;intro i;rw[V6 B A 0 i oM];split
 ·simp
 ·rw[List.getElem?_eq_none oM,List.getElem?_eq_none oM]
theorem ic{H:d9}{F:Nat→Prop}{Rt:LV→Q→Prop}{row4:LV}{r:PrD×Int×Int}(h:PrF H F Rt row4 r.1):Ft (row4++se r.2.1 r.2.2) row4 r:=by
 obtain⟨ea,ec,ta,tc,rfl,_,_⟩:=E1 h;exact⟨rfl,rfl,rfl,rfl,rfl,rfl,rfl,rfl,rfl,rfl,fun K2 hl=>w7 _ _ (by rw[hl];rfl),fun R hl=>w7 _ _ (by rw[hl];rfl),fun s e=>rfl,rfl⟩
theorem jS(K k:Nat)(ih:jY K k)(lo:Nat)(F:Nat→Prop)(Rt:LV→Q→Prop)(Hx:d9)(el rowx:LV)(x:Q)(px:PrD)(hlo:lo≤Hx.next)(hF:∀j,F j→j<Hx.next) (hr:QR Hx lo k false el x)
  (hRt:∀k' el x,k'≤K→QR Hx lo k' true el x→Rt el x) (hp:PrF Hx F Rt rowx px) (hok:OkD false x) (hfit:iq (nQ x) px):
  ∃h3 H3 H4 row4,CL prog t6 90 [.agg rowx.toArray,.agg el.toArray] Hx=dr (.agg (row4++se (C5 x px).2.1 (C5 x px).2.2).toArray) h3∧h3.getD Hx=H3∧H4=(H3.push (.cells z7 true 1)).put H3.next (.cells (row4++se (C5 x px).2.1 (C5 x px).2.2) true 1)∧
   H4.next=H3.next+1∧H4.get H3.next=some (.cells (row4++se (C5 x px).2.1 (C5 x px).2.2) true 1)∧Hx.next≤H3.next∧i4 Hx.next Hx H4∧PrF H4 (P5 F Hx H3) Rt row4 (C5 x px).1∧Ft (row4++se (C5 x px).2.1 (C5 x px).2.2) row4 (C5 x px)∧(∀j,P5 F Hx H3 j→j<H3.next):=by
 obtain⟨v3,h3',H3,hc3,hge3,cs3,rfl,hp3,hS3⟩:=ih Hx lo F Rt el rowx x px hlo hF hr hRt hp hok hfit;have hn3:=hS3.next;have hFl:∀j,P5 F Hx H3 j→j<H3.next:=by
  rintro j (hj|hj)
  ·have:=hF j hj;omega
  ·exact hj.2
 have sH4:i4 H3.next H3 ((H3.push (.cells z7 true 1)).put H3.next (.cells (cs3++se (C5 x px).2.1 (C5 x px).2.2) true 1)):=(i4.push lR).trans (i4.put lR);exact⟨h3',H3,_,cs3,hc3,hge3,rfl,by rw[j5,i5],i8 (by rw[i5];omega),hn3,hS3.trans (sH4.weaken hn3),hp3.mono (fun j hj=>sH4.get j (hFl j hj)) (fun _ h=>h) iF,ic hp3,hFl⟩
theorem Ca(K k:Nat)(hk:k≤K)(ih:jY K k)(H0:d9)(lo b0:Nat)(F:Nat→Prop)(Rt:LV→Q→Prop)(hlo:lo≤b0)(hF:∀j,F j→j<b0) (hRt:∀k' el x,k'≤K→QR H0 lo k' true el x→Rt el x) (hb0:b0+3≤H0.next)
  (va:Option Addr) (ca:Nat) (l:List Q) (hv:QsR H0 lo k false (.slice va l.length ca) l) (hn:l.length≤1048576) (hok:∀x∈l,OkD false x) (rowq:LV) (hq:H0.get (b0+1)=cE rowq 1) (hq1:rowq[1]?=some (.slice va l.length ca)) (g4:H0.get (b0+2)=cE z7 1) (res:PrD×Int×Int):
  ∀kk e H2,(∃(i p6:Nat)(r:PrD×Int×Int)(row4:LV)(G:Nat→Prop),kk=l.length-i∧i≤l.length∧e.get 3= .pointer (some ⟨b0+1,0,none⟩)∧e.get 4= .pointer (some ⟨b0+2,0,none⟩)∧e.get 6=pT p6∧e.get 7=iV r.2.1∧e.get 8=iV i∧
    H2.get p6=cE (row4++se r.2.1 r.2.2) 1∧b0+3≤p6∧p6<H2.next∧PrF H2 G Rt row4 r.1∧(∀j,G j→(F j∨b0+3≤j)∧j<H2.next∧j≠p6)∧i4 (b0+3) H0 H2∧iq (nL (l.drop i)) r.1∧cP (l.drop i) r=res)→
  u9 (LE prog t6 (.loop Gr) e H2) (fun o e H2=>o= .exit 0∧e.get 4= .pointer (some ⟨b0+2,0,none⟩)∧∃(p6:Nat)(row4:LV)(G:Nat→Prop),e.get 6=pT p6∧H2.get p6=cE (row4++se res.2.1 res.2.2) 1∧PrF H2 G Rt row4 res.1∧(∀j,G j→(F j∨b0+3≤j)∧j<H2.next)∧i4 (b0+3) H0 H2):=by
 refine j7 _ _ ?_;rintro kk e H2 ⟨i,p6,r,row4,G,hkk,hi,f3,f4,f6,f7,f8,g6,hp6,hp6n,hp,hG,hS,hfit,fu⟩;have hn2:=hS.next;have hq2:=(hS.get (b0+1) oM).trans hq;have h7:=ic hp;obtain⟨Kc,hKc⟩:∃Kc,Kc=row4++se r.2.1 r.2.2:=⟨_,rfl⟩
 rw[←hKc]at h7 g6;rcases b:decide ((i:Int)<l.length)with _|_
 ·have hb':=dF b;have:l.drop i=[]:=dN oM;rw[this,cP]at fu;refine J5 f3 f8 hq2 hq1 b ?_;exact l7 ⟨rfl,f4,p6,row4,G,f6,by rw[←fu,←hKc];exact g6,by rw[←fu];exact hp,fun j hj=>⟨(hG j hj).1,(hG j hj).2.1⟩,hS⟩
 have hb':=dT b;obtain⟨x,nb,o,csx,own,el,hx,hd,rfl,hlt,hgx,hle,hrow,hR⟩:=hv.row (i:=i) oM;have nt:(i:Int).toNat=i:=tN i;simp only[qSz,Bool.false_eq_true,if_false]at hrow hgx;have gx2:=(hS.get nb oM).trans hgx;rw[hd]at fu hfit;rw[cP]at fu;rw[nL]at hfit;obtain⟨t0,t1,t2,t3⟩:=hfit;have hgr:=E8 x r.1;obtain⟨h3',H3,H4,row5,hc3,hge3,e4,n4,g4K,n3,hS4,hp4,h75,hF3⟩:=jS K k ih lo G Rt H2 el row4 x r.1 oM (fun j hj=>(hG j hj).2.1) (hR.mono (fun j hj=>hS.get j oM) lR) (fun k' el x hk' h=>hRt k' el x hk' (h.mono (fun j hj=>(hS.get j oM).symm) lR)) hp (hok x (List.mem_of_getElem? hx)) ⟨t0,oM,oM,oM⟩;obtain⟨y,hy⟩:∃y,y=C5 x r.1:=⟨_,rfl⟩
 rw[←hy]at hc3 e4 g4K hp4 h75 hgr fu;obtain⟨w0,w1,w2,w3⟩:=hgr;obtain⟨Kd,hKd⟩:∃Kd,Kd=row5++se y.2.1 y.2.2:=⟨_,rfl⟩
 rw[←hKd]at hc3 e4 g4K h75;have g46:H4.get p6=cE Kc 1:=(hS4.get p6 hp6n).trans g6;have hnF:¬P5 G H2 H3 p6:=by
  rintro(q|q)
  ·exact(hG p6 q).2.2 rfl
  ·omega
 obtain⟨v5,h5',H5,hc5,hge5,cs5,rfl,hp5,hS5⟩:=cK H4 (P5 G H2 H3) Rt row5 y.1 r.2.2 y.2.1 0 0 (fun j hj=>by have:=hF3 j hj;omega) hp4 oM;have n5:=hS5.next;have h76:=ic (r:=(y.1.edge r.2.2 y.2.1 0 0,r.2.1,y.2.2)) hp5;have g5K:H5.get H3.next=cE Kd 1:=(hS5.get _ oM).trans g4K;have g56:H5.get p6=cE Kc 1:=(hS5.get _ oM).trans g46;obtain⟨Ke,hKe⟩:∃Ke,Ke=cs5++se r.2.1 y.2.2:=⟨_,rfl⟩
 have hbld:=h76.bld r.2.1 y.2.2;simp only at h76;rw[←hKe]at h76 hbld;have hspl:=h76.spl7 Kc h7.len;refine J30 f3 f6 f7 f8 hq2 hq1 b gx2 nt hrow g6 h7.ld5 h7.len hc3 hge3 h75.all h75.len h75.spl e4.symm g4K h75.ld5 h75.c5 h75.c6 g46 h7.c6 hc5 (And.intro hge5 g5K) (And.intro g56 hbld) (And.intro h76.all h76.len) (And.intro hspl @wrap_small) ?_;refine i6 (kk-1) oM ⟨i+1,p6,(y.1.edge r.2.2 y.2.1 0 0,r.2.1,y.2.2),cs5,P5 (P5 G H2 H3) H4 H5,oM,oM,f3,f4,f6,f7,rfl,by rw[←hKe];exact i8 oM,hp6,by rw[j5];omega,hp5.mono (fun j hj=>i9 ?_) (fun _ h=>h) iF,?_,?_,?_,fu⟩
 ·rintro rfl;rcases hj with hj|hj
  ·exact hnF hj
  ·omega
 ·rintro j ((hj|hj)|hj)
  ·have:=hG j hj;exact⟨this.1,by rw[j5];omega,this.2.2⟩
  ·exact⟨.inr oM,by rw[j5];omega,oM⟩
  ·exact⟨.inr oM,by rw[j5];omega,oM⟩
 ·exact((hS.trans (hS4.weaken oM)).trans (hS5.weaken oM)).trans (i4.put oM)
 ·refine⟨by simp only[U4];omega,by simp only[U4];omega,by rw[N8];omega,by simp only[bS];omega⟩
theorem pN(q:Q)(p:PrD)(h4:q.op=4):C5 q p=hU q.a p:=by
 cases q;simp only[Q.op]at h4;subst h4;rw[C5,if_pos rfl];rfl
theorem CB(K k:Nat)(hk:k≤K)(ih:jY K k)(q:Q)(h4:q.op=4)(H:d9)(lo:Nat)(F:Nat→Prop)(Rt:LV→Q→Prop)(cs pcs:LV)(p:PrD)(hlo:lo≤H.next)(hF:∀j,F j→j<H.next) (hr:QR H lo (k+1) false cs q)
  (hRt:∀k' el x,k'≤K→QR H lo k' true el x→Rt el x) (hp:PrF H F Rt pcs p) (hok:OkD false q) (hfit:iq (nQ q) p):
  Ret (CL prog t6 90 [.agg pcs.toArray,.agg cs.toArray] H) H (vW H F Rt (C5 q p)):=by
 obtain⟨f0,f1,f2,f3⟩:=hfit;have hnq:=dE q;obtain⟨ok1,_,o1,_,okn⟩:=hok.parts;obtain⟨l1,l2,_,_⟩:=dk okn;have e1:lst false q.op=2:=by rw[h4];decide
 rw[e1]at l1;obtain⟨va,ca,wa,ca',rfl,h1,h2,h3,h4'⟩:=hr.path;obtain⟨ea,ec,ta,tc,rfl,he,ht⟩:=E1 hp;obtain⟨x,nb,o,csx,own,el,hx,hd,rfl,hlt,hgx,hle,hrow,hR⟩:=h1.row (i:=0) oM;simp only[qSz,Bool.false_eq_true,if_false,Nat.zero_mul,Nat.add_zero]at hrow hgx hle;have hax:q.a=x::q.a.drop 1:=by simpa using hd
 have hnl:nL q.a=nQ x+nL (q.a.drop 1):=by rw[hax,nL];rfl
 have hres:C5 q p=cP (q.a.drop 1) (C5 x p):=by rw[pN q p h4,hax,hU];rfl
 rw[hres];obtain⟨row,hrowd⟩:∃row:LV,row=[iV p.st,iV p.sa,iV p.en,.slice ea p.ed.length ec,.slice ta p.ts.length tc]:=⟨_,rfl⟩
 obtain⟨rowq,hrowq⟩:∃row:LV,row=[iV q.op,.slice (some ⟨nb,o,none⟩) q.a.length ca,.slice wa q.b.length ca']:=⟨_,rfl⟩
 obtain⟨H1,hH1,hS,hg1,hg2,hg3,hlow,hn1⟩:=vA H row rowq z7;have a1:row.all Value.oneCell'=true:=by rw[hrowd];rfl
 have a2:rowq.all Value.oneCell'=true:=by rw[hrowq];rfl
 have r0:row[0]?=some (.int .i64 p.st):=by rw[hrowd];rfl
 have q0:rowq[0]?=some (.int .i64 q.op):=by rw[hrowq];rfl
 have q1:rowq[1]?=some (.slice (some ⟨nb,o,none⟩) q.a.length ca):=by rw[hrowq];rfl
 have ld1:ldC (some true) (some 5) 0 row=some (.agg row.toArray):=by rw[hrowd];rfl
 have hla:(0:Int)<q.a.length:=oM;have c4:decide (q.op=4)=true:=decide_eq_true h4;have gx1:H1.get nb=_:=(hS.get nb oM).trans hgx;have hp1:PrF H1 F Rt row p:=⟨_,_,hrowd,he.mono (fun j hj=>hS.get j (hF j hj)) (fun _ h=>h) iF,ht.mono (fun j hj=>hS.get j (hF j hj)) (fun _ h=>h) iF⟩
 obtain⟨h3',H3,H4,row5,hc3,hge3,e4,n4,g4K,n3,hS4,hp4,h75,hF3⟩:=jS K k ih lo F Rt H1 el row x p oM (fun j hj=>by have:=hF j hj;omega) (hR.mono (fun j hj=>hS.get j oM) lR) (fun k' el x hk' h=>hRt k' el x hk' (h.mono (fun j hj=>(hS.get j oM).symm) lR)) hp1 (ok1 x (by rw[hax];simp)) ⟨f0,oM,oM,oM⟩;have hgr:=E8 x p;obtain⟨y,hy⟩:∃y,y=C5 x p:=⟨_,rfl⟩
 rw[←hy]at hc3 e4 g4K hp4 h75 hgr ⊢;obtain⟨w0,w1,w2,w3⟩:=hgr;obtain⟨Kd,hKd⟩:∃Kd,Kd=row5++se y.2.1 y.2.2:=⟨_,rfl⟩
 rw[←hKd]at hc3 e4 g4K h75;have k4:∀j,j<H1.next→H4.get j=H1.get j:=hS4.get;have hS04:i4 H.next H H4:=hS.trans (hS4.weaken oM);rw[j8 tC rfl _ (by simp),←hrowd,←hrowq];refine J20 a1 a2 hH1.symm hg1 hg2 r0 q0 q1 c4 ld1 gx1 hrow hc3 hge3 h75.all h75.len h75.spl e4.symm g4K h75.c5 ?_;refine l9 (F:=fun z=>Ret (u5 _ _ _ (u7 (u7 (inBlock 0 z) _) _)) _ _) (Ca K k hk ih H4 lo H.next F Rt hlo hF (fun k' el x hk' h=>hRt k' el x hk' (h.mono (fun j hj=>(hS04.get j oM).symm) lR)) oM (some ⟨nb,o,none⟩) ca q.a (h1.mono (fun j hj=>hS04.get j oM) lR) h3 ok1 rowq ((k4 _ oM).trans hg2) q1 ((k4 _ oM).trans hg3) (cP (q.a.drop 1) y) (q.a.length-1) _ _
  ⟨1,H3.next,y,row5,P5 F H1 H3,rfl,oM,rfl,rfl,rfl,rfl,by rfl,by rw[←hKd];exact g4K,oM,oM,hp4,?_,i4.refl _ _,⟨oM,oM,oM,oM⟩,rfl⟩) ?_
 ·rintro j (hj|hj)
  ·have:=hF j hj;exact⟨.inl hj,oM,oM⟩
  ·exact⟨.inr oM,oM,oM⟩
 rintro o' e' H5 ⟨ho,k4',p6,row6,G,k6,g6,hp6,hG,hS5⟩;have n5:=hS5.next;have h76:=ic hp6;obtain⟨Ke,hKe⟩:∃Ke,Ke=row6++se (cP (q.a.drop 1) y).2.1 (cP (q.a.drop 1) y).2.2:=⟨_,rfl⟩
 rw[←hKe]at g6 h76;have g53:H5.get (H.next+2)=cE z7 1:=(hS5.get _ oM).trans ((k4 _ oM).trans hg3);obtain⟨H6,hH6⟩:∃H6,H6=H5.put (H.next+2) (.cells Ke true 1):=⟨_,rfl⟩
 have g63:H6.get (H.next+2)=cE Ke 1:=by rw[hH6];exact i8 oM
 have s6:i4 H.next H1 H6:=((hS4.weaken oM).trans (hS5.weaken oM)).trans (show i4 H.next H5 H6 by rw[hH6];exact i4.put oM);have hl6:=s6.low hlow;refine J11 ho k4' k6 g6 h76.ld7 g53 h76.all h76.len h76.spl hH6.symm g63 ?_;rw[hKe];refine cT (hp6.mono (fun j hj=>?_) (fun j hj=>?_) iF) (hS.trans s6) hl6 (fun h=>h)
 ·rw[hH6];refine i9 ?_;rcases(hG j hj).1 with q|q
  ·have:=hF j q;omega
  ·omega
 ·rcases(hG j hj).1 with q|q
  ·exact .inl q
  ·exact .inr ⟨oM,by rw[hH6,j5];exact(hG j hj).2⟩
theorem zh(K k:Nat)(hk:k≤K)(ih:jY K k)(H0:d9)(lo b0:Nat)(F:Nat→Prop)(Rt:LV→Q→Prop)(hlo:lo≤b0)(hF:∀j,F j→j<b0) (hRt:∀k' el x,k'≤K→QR H0 lo k' true el x→Rt el x) (hb0:b0+3≤H0.next)
  (va:Option Addr) (ca:Nat) (l:List Q) (hv:QsR H0 lo k false (.slice va l.length ca) l) (hn:l.length≤1048576) (hok:∀x∈l,OkD false x) (rowq:LV) (hq:H0.get (b0+1)=cE rowq 1) (hq1:rowq[1]?=some (.slice va l.length ca)) (z:Blk) (g4:H0.get (b0+2)=some z) (n:Int) (res:PrD×List Int):
  ∀kk e H2,(∃(i:Nat)(p:PrD)(es:List Int)(w:Value)(row4:LV)(G:Nat→Prop),kk=l.length-i∧i≤l.length∧es.length=i∧e.get 2=pT b0∧e.get 3= .pointer (some ⟨b0+1,0,none⟩)∧e.get 4= .pointer (some ⟨b0+2,0,none⟩)∧e.get 5=iV n∧e.get 10=w∧e.get 11=iV i∧
    H2.get b0=cE row4 1∧H2.get (b0+1)=cE rowq 1∧H2.get (b0+2)=some z∧PrF H2 G Rt row4 p∧(∀j,G j→(F j∨b0+3≤j)∧j<H2.next∧¬j9 w j)∧t7 H2 (b0+3) 1 (v8 inE) w es∧i4 b0 H0 H2∧iq (nL (l.drop i)) p∧L5 (l.drop i) n p es=res)→
  u9 (LE prog t6 (.loop Gs) e H2) (fun o e H2=>o= .exit 2∧e.get 2=pT b0∧e.get 4= .pointer (some ⟨b0+2,0,none⟩)∧e.get 5=iV n∧∃(w:Value)(row4:LV)(G:Nat→Prop),e.get 10=w∧H2.get b0=cE row4 1∧H2.get (b0+2)=some z∧PrF H2 G Rt row4 res.1∧(∀j,G j→(F j∨b0+3≤j)∧j<H2.next)∧t7 H2 (b0+3) 1 (v8 inE) w res.2∧i4 b0 H0 H2):=by
 refine j7 _ _ ?_;rintro kk e H2 ⟨i,p,es,w,row4,G,hkk,hi,hes,f2,f3,f4,f5,f10,f11,g0,gq,gz,hp,hG,hO,hS,hfit,fu⟩;have hn2:=hS.next;have hb0n:=u6 g0;have hb2n:=u6 gz;have h7:=ic (r:=(p,0,0)) hp;rcases b:decide ((i:Int)<l.length)with _|_
 ·have hb':=dF b;have:l.drop i=[]:=dN oM;rw[this,L5]at fu;refine J5 f3 f11 gq hq1 b ?_;exact l7 ⟨rfl,f2,f4,f5,w,row4,G,f10,g0,gz,by rw[←fu];exact hp,fun j hj=>⟨(hG j hj).1,(hG j hj).2.1⟩,by rw[←fu];exact hO,hS⟩
 have hb':=dT b;obtain⟨x,nb,o,csx,own,el,hx,hd,rfl,hlt,hgx,hle,hrow,hR⟩:=hv.row (i:=i) oM;have nt:(i:Int).toNat=i:=tN i;simp only[qSz,Bool.false_eq_true,if_false]at hrow hgx;have gx2:=(hS.get nb oM).trans hgx;rw[hd]at fu hfit;rw[L5]at fu;rw[nL]at hfit;obtain⟨t0,t1,t2,t3⟩:=hfit;have hgr:=E8 x p;obtain⟨h3',H3,H4,row5,hc3,hge3,e4,n4,g4K,n3,hS4,hp4,h75,hF3⟩:=jS K k ih lo G Rt H2 el row4 x p oM (fun j hj=>(hG j hj).2.1) (hR.mono (fun j hj=>hS.get j oM) lR) (fun k' el x hk' h=>hRt k' el x hk' (h.mono (fun j hj=>(hS.get j oM).symm) lR)) hp (hok x (List.mem_of_getElem? hx)) ⟨t0,oM,oM,oM⟩;obtain⟨y,hy⟩:∃y,y=C5 x p:=⟨_,rfl⟩
 rw[←hy]at hc3 e4 g4K hp4 h75 hgr fu;obtain⟨w0,w1,w2,w3⟩:=hgr;obtain⟨Kd,hKd⟩:∃Kd,Kd=row5++se y.2.1 y.2.2:=⟨_,rfl⟩
 rw[←hKd]at hc3 e4 g4K h75;obtain⟨v5,h5',H5,hc5,hge5,cs5,rfl,hp5,hS5⟩:=cK H4 (P5 G H2 H3) Rt row5 y.1 n y.2.1 0 0 (fun j hj=>by have:=hF3 j hj;omega) hp4 oM;have n5:=hS5.next;have h76:=ic (r:=(y.1.edge n y.2.1 0 0,0,0)) hp5;have g5K:H5.get H3.next=cE Kd 1:=(hS5.get _ oM).trans g4K;have k5:∀j,j<H2.next→H5.get j=H2.get j:=fun j hj=>by rw[hS5.get j oM,hS4.get j hj]
 have g50:H5.get b0=cE row4 1:=(k5 _ hb0n).trans g0;have hsp:splice row4 0 cs5=cs5:=h76.spl5 row4 h7.len4;obtain⟨H6,hH6⟩:∃H6,H6=H5.put b0 (.cells cs5 true 1):=⟨_,rfl⟩
 have n6:H6.next=H5.next:=by rw[hH6,j5]
 have g6K:H6.get H3.next=cE Kd 1:=by rw[hH6,i9 oM];exact g5K
 have k6:∀j,j<H2.next→j≠b0→H6.get j=H2.get j:=fun j hj hne=>by rw[hH6,i9 (fun q=>hne q.symm)];exact k5 j hj
 have hO6:t7 H6 (b0+3) 1 (v8 inE) w es:=hO.same fun b hb=>by have:=hO.lt hb;exact k6 b this.2 oM
 obtain⟨v7,h7',H7,ha7,hge7,hO7,hG7⟩:=hO6.push1F (P:=prog) (t:=29) (cs:=inE y.2.2) (a:=y.2.2) (by exact yL.2.2.2.2.2.2) ty3.1 ty3.2.1 ty3.2.2.1 oM oM rfl rfl oM oM;have n7:=hG7.next;have nw:∀j,j<b0+3→¬j9 w j:=fun j hj q=>by have:=hO.lt q;omega
 have k7:∀j,j<b0+3→j≠b0→j<H2.next→H7.get j=H2.get j:=fun j hj hne hlt=>by rw[hG7.but j oM (nw j hj),k6 j hlt hne]
 have g70:H7.get b0=cE cs5 1:=by rw[hG7.but b0 oM (nw b0 oM),hH6];exact i8 oM
 refine J30 f2 f3 f5 f10 f11 gq hq1 b gx2 nt hrow g0 h7.ld hc3 hge3 h75.all h75.len h75.spl e4.symm g4K h75.ld5 h75.c5 h75.c6 hc5 hge5 (And.intro g50 h76.all4) (And.intro h76.len4 h7.len4) (And.intro hsp hH6.symm) (And.intro g6K ha7) (And.intro hge7 @wrap_small) ?_;refine i6 (kk-1) oM ⟨i+1,y.1.edge n y.2.1 0 0,es++[y.2.2],v7,cs5,P5 (P5 G H2 H3) H4 H5,oM,oM,by simp;omega,f2,f3,f4,f5,rfl,rfl,g70,(k7 _ oM oM (by have:=u6 gq;omega)).trans gq,(k7 _ oM oM hb2n).trans gz,?_,?_,hO7,?_,?_,fu⟩
 ·refine hp5.mono (fun j hj=>?_) (fun _ h=>h) iF;have hne:j≠b0∧j<H6.next∧¬j9 w j:=by
   rcases hj with(hj|hj)|hj
   ·have:=hG j hj;refine⟨?_,oM,this.2.2⟩;rcases this.1 with q|q
    ·have:=hF j q;omega
    ·omega
   ·exact⟨oM,oM,fun q=>by have:=hO.lt q;omega⟩
   ·exact⟨oM,oM,fun q=>by have:=hO.lt q;omega⟩
  rw[hG7.but j hne.2.1 hne.2.2,hH6,i9 (fun q=>hne.1 q.symm)]
 ·rintro j hj;have nv:∀b,j9 v7 b→j9 w b∨H6.next≤b:=hG7.new;rcases hj with(hj|hj)|hj
  ·have:=hG j hj;exact⟨this.1,oM,fun q=>(nv j q).elim this.2.2 (fun q=>oM)⟩
  ·exact⟨.inr oM,oM,fun q=>(nv j q).elim (fun q=>by have:=hO.lt q;omega) (fun q=>oM)⟩
  ·exact⟨.inr oM,oM,fun q=>(nv j q).elim (fun q=>by have:=hO.lt q;omega) (fun q=>oM)⟩
 ·exact(((hS.trans (hS4.weaken oM)).trans (hS5.weaken oM)).trans (show i4 b0 H5 H6 by rw[hH6];exact i4.put lR)).trans (hG7.stay.weaken oM)
 ·refine⟨by simp only[U4];omega,by simp only[U4];omega,by rw[N8];omega,by simp only[bS];omega⟩
theorem xh(H0:d9)(b0:Nat)(F:Nat→Prop)(Rt:LV→Q→Prop)(hF:∀j,F j→j<b0) (hb0:b0+3≤H0.next) (w:Value) (es:List Int) (hO:t7 H0 (b0+3) 1 (v8 inE) w es) (hl:es.length≤900000) (z:Blk) (gz:H0.get (b0+2)=some z) (n t:Int) (res:PrD):
  ∀kk e H2,(∃(i:Nat)(p:PrD)(row4:LV)(G:Nat→Prop),kk=es.length-i∧i≤es.length∧e.get 2=pT b0∧e.get 4= .pointer (some ⟨b0+2,0,none⟩)∧e.get 5=iV n∧e.get 10=w∧e.get 13=iV t∧e.get 14=iV i∧
    H2.get b0=cE row4 1∧PrF H2 G Rt row4 p∧(∀j,G j→(F j∨b0+3≤j)∧j<H2.next)∧(∀j,b0<j→j<H0.next→H2.get j=H0.get j)∧i4 b0 H0 H2∧p.ed.length+es.length≤900000+i∧(es.drop i).foldl (fun m x=>m.edge x t 0 0) p=res)→
  u9 (LE prog t6 (.loop Gt) e H2) (fun o e H2=>o= .exit 4∧e.get 2=pT b0∧e.get 4= .pointer (some ⟨b0+2,0,none⟩)∧e.get 5=iV n∧e.get 13=iV t∧∃(row4:LV)(G:Nat→Prop),H2.get b0=cE row4 1∧H2.get (b0+2)=some z∧PrF H2 G Rt row4 res∧(∀j,G j→(F j∨b0+3≤j)∧j<H2.next)∧i4 b0 H0 H2):=by
 refine j7 _ _ ?_;rintro kk e H2 ⟨i,p,row4,G,hkk,hi,f2,f4,f5,f10,f13,f14,g0,hp,hG,hsame,hS,hlen,fu⟩;have hn2:=hS.next;have hb0n:=u6 g0;have h7:=ic (r:=(p,0,0)) hp;have gz2:=(hsame (b0+2) oM (u6 gz)).trans gz;obtain⟨wa,wc,hws⟩:=hO.slice;have f10':=f10;rw[hws]at f10';rcases b:decide ((i:Int)<es.length)with _|_
 ·have hb':=dF b;have:es.drop i=[]:=dN oM;rw[this,List.foldl_nil]at fu;refine J3 f10' f14 b ?_;exact l7 ⟨rfl,f2,f4,f5,f13,row4,G,g0,gz2,by rw[←fu];exact hp,hG,hS⟩
 have hb':=dT b;obtain⟨x,hx,hd⟩:=S4 (l:=es) (i:=i) oM;obtain⟨nb,c,cs,hv,hnb,hnb2,hg,hle,hR⟩:=hO.at_ hx;rw[hws]at hv;obtain⟨rfl,rfl⟩:wa=some ⟨nb,0,none⟩∧wc=c:=by simpa using hv
 have nt:(i:Int).toNat=i:=tN i;have hg2:=(hsame nb oM hnb2).trans hg;have c0:cs[i]?=some (.int .i64 x):=by
  have:(cs.drop (i*1)).take 1=[iV x]:=hR;have:=lP (k:=0) oM this
  simpa using this
 rw[hd,List.foldl_cons]at fu;obtain⟨v5,h5',H5,hc5,hge5,cs5,rfl,hp5,hS5⟩:=cK H2 G Rt row4 p x t 0 0 (fun j hj=>(hG j hj).2) hp oM;have n5:=hS5.next;have h76:=ic (r:=(p.edge x t 0 0,0,0)) hp5;have g50:H5.get b0=cE row4 1:=(hS5.get _ hb0n).trans g0;have hsp:splice row4 0 cs5=cs5:=h76.spl5 row4 h7.len4;refine J19 f2 f10' f13 f14 b g0 h7.ld hg2 nt @Nat.mul_one c0 hc5 hge5 g50 h76.all4 h76.len4 h7.len4 hsp @wrap_small ?_;refine i6 (kk-1) oM ⟨i+1,p.edge x t 0 0,cs5,P5 G H2 H5,oM,oM,f2,f4,f5,f10,f13,rfl,i8 oM,hp5.mono (fun j hj=>i9 ?_) (fun _ h=>h) iF,?_,fun j h1 h2=>?_,(hS.trans (hS5.weaken oM)).trans (i4.put lR),by rw[N8];omega,fu⟩
 ·rintro rfl;rcases hj with hj|hj
  ·rcases(hG _ hj).1 with q|q
   ·have:=hF _ q;omega
   ·omega
  ·omega
 ·rintro j (hj|hj)
  ·have:=hG j hj;exact⟨this.1,by rw[j5];omega⟩
  ·exact⟨.inr oM,by rw[j5];exact hj.2⟩
 ·rw[i9 oM,hS5.get j oM,hsame j h1 h2]
theorem pM(q:Q)(p:PrD)(h5:q.op=5):C5 q p=(((L5 q.a p.st {p with st:=p.st+1} []).2.foldl (fun m x=>m.edge x (L5 q.a p.st {p with st:=p.st+1} []).1.st 0 0) {(L5 q.a p.st {p with st:=p.st+1} []).1 with st:=(L5 q.a p.st {p with st:=p.st+1} []).1.st+1}),p.st,(L5 q.a p.st {p with st:=p.st+1} []).1.st):=by
 cases q;simp only[Q.op]at h5;subst h5;rw[C5,if_neg (by decide),if_pos rfl];rfl
theorem CA(K k:Nat)(hk:k≤K)(ih:jY K k)(q:Q)(h5:q.op=5)(H:d9)(lo:Nat)(F:Nat→Prop)(Rt:LV→Q→Prop)(cs pcs:LV)(p:PrD)(hlo:lo≤H.next)(hF:∀j,F j→j<H.next) (hr:QR H lo (k+1) false cs q)
  (hRt:∀k' el x,k'≤K→QR H lo k' true el x→Rt el x) (hp:PrF H F Rt pcs p) (hok:OkD false q) (hfit:iq (nQ q) p):
  Ret (CL prog t6 90 [.agg pcs.toArray,.agg cs.toArray] H) H (vW H F Rt (C5 q p)):=by
 obtain⟨f0,f1,f2,f3⟩:=hfit;have hnq:=dE q;have hll:=pt q.a;obtain⟨ok1,_,o1,_,okn⟩:=hok.parts;obtain⟨va,ca,wa,ca',rfl,h1,h2,h3,h4'⟩:=hr.path;obtain⟨ea,ec,ta,tc,rfl,he,ht⟩:=E1 hp;rw[pM q p h5];obtain⟨row,hrowd⟩:∃row:LV,row=[iV p.st,iV p.sa,iV p.en,.slice ea p.ed.length ec,.slice ta p.ts.length tc]:=⟨_,rfl⟩
 obtain⟨rowq,hrowq⟩:∃row:LV,row=[iV q.op,.slice va q.a.length ca,.slice wa q.b.length ca']:=⟨_,rfl⟩
 obtain⟨H1,hH1,hS,hg1,hg2,hg3,hlow,hn1⟩:=vA H row rowq z7;have a1:row.all Value.oneCell'=true:=by rw[hrowd];rfl
 have a2:rowq.all Value.oneCell'=true:=by rw[hrowq];rfl
 have r0:row[0]?=some (.int .i64 p.st):=by rw[hrowd];rfl
 have q0:rowq[0]?=some (.int .i64 q.op):=by rw[hrowq];rfl
 have q1:rowq[1]?=some (.slice va q.a.length ca):=by rw[hrowq];rfl
 have lr:row.length=5:=by rw[hrowd];rfl
 obtain⟨row2,hrow2⟩:∃row2:LV,row2=[iV (p.st+1),iV p.sa,iV p.en,.slice ea p.ed.length ec,.slice ta p.ts.length tc]:=⟨_,rfl⟩
 have hsp:splice row 0 [iV (p.st+1)]=row2:=by rw[hrowd,hrow2];rfl
 obtain⟨H2,hH2⟩:∃H2,H2=H1.put H.next (.cells row2 true 1):=⟨_,rfl⟩
 have hS2:i4 H.next H1 H2:=by rw[hH2];exact i4.put lR
 have hn2:H2.next=H1.next:=by rw[hH2,j5]
 have h21:H2.get H.next=cE row2 1:=by rw[hH2];exact i8 oM
 have h22:H2.get (H.next+1)=cE rowq 1:=by rw[hH2,i9 oM];exact hg2
 have h23:H2.get (H.next+2)=cE z7 1:=by rw[hH2,i9 oM];exact hg3
 have c4:decide (q.op=4)=false:=decide_eq_false oM;have c5:decide (q.op=5)=true:=decide_eq_true h5;have hS02:i4 H.next H H2:=hS.trans hS2;have hp2:PrF H2 F Rt row2 {p with st:=p.st+1}:=⟨_,_,hrow2,he.mono (fun j hj=>hS02.get j (hF j hj)) (fun _ h=>h) iF,ht.mono (fun j hj=>hS02.get j (hF j hj)) (fun _ h=>h) iF⟩
 obtain⟨⟨w0,w1,w2,w3⟩,w4⟩:=bA q.a p.st {p with st:=p.st+1} [];obtain⟨r,hrd⟩:∃r,r=L5 q.a p.st {p with st:=p.st+1} []:=⟨_,rfl⟩
 rw[←hrd]at w0 w1 w2 w3 w4 ⊢;simp only[List.length_nil]at w0 w1 w2 w3 w4;rw[j8 tC rfl _ (by simp),←hrowd,←hrowq];refine J13 a1 a2 hH1.symm hg1 hg2 r0 q0 lr hsp hH2.symm c4 c5 @wrap_small ?_;refine l9 (F:=fun z=>Ret (u5 _ _ _ (u7 (u7 (inBlock 2 z) _) _)) _ _) (zh K k hk ih H2 lo H.next F Rt hlo hF (fun k' el x hk' h=>hRt k' el x hk' (h.mono (fun j hj=>(hS02.get j oM).symm) lR)) oM va ca q.a (h1.mono (fun j hj=>hS02.get j oM) lR) h3 ok1 rowq h22 q1 _ h23 p.st r q.a.length _ _
  ⟨0,{p with st:=p.st+1},[],nS,row2,F,rfl,oM,rfl,rfl,rfl,rfl,rfl,rfl,rfl,h21,h22,h23,hp2,fun j hj=>⟨.inl hj,by have:=hF j hj;omega,A9 j⟩,t7.nil,i4.refl _ _,⟨by show 0≤p.st+1;omega,by show p.st+1+2*_≤_;simp;omega,by show p.ed.length+_≤_;simp;omega,by show p.ts.length+_≤_;simp;omega⟩,hrd.symm⟩) ?_
 rintro o' e' H5 ⟨ho,k2,k4',k5',w,row4,G,k10,g50,g52,hp5,hG5,hO5,hS5⟩;have n5:=hS5.next;obtain⟨ea5,ec5,ta5,tc5,hrow4,he5,ht5⟩:=E1 hp5;have s0:row4[0]?=some (.int .i64 r.1.st):=by rw[hrow4];rfl
 have l4:row4.length=5:=by rw[hrow4];rfl
 obtain⟨row6,hrow6⟩:∃row6:LV,row6=[iV (r.1.st+1),iV r.1.sa,iV r.1.en,.slice ea5 r.1.ed.length ec5,.slice ta5 r.1.ts.length tc5]:=⟨_,rfl⟩
 have hsp6:splice row4 0 [iV (r.1.st+1)]=row6:=by rw[hrow4,hrow6];rfl
 obtain⟨H6,hH6⟩:∃H6,H6=H5.put H.next (.cells row6 true 1):=⟨_,rfl⟩
 have n6:H6.next=H5.next:=by rw[hH6,j5]
 have g60:H6.get H.next=cE row6 1:=by rw[hH6];exact i8 oM
 have g62:H6.get (H.next+2)=cE z7 1:=by rw[hH6,i9 oM];exact g52
 have neG:∀j,G j→j≠H.next:=fun j hj=>by
  rcases(hG5 j hj).1 with q|q
  ·have:=hF j q;omega
  ·omega
 have hp6:PrF H6 G Rt row6 {r.1 with st:=r.1.st+1}:=⟨_,_,hrow6,he5.mono (fun j hj=>by rw[hH6,i9 (fun q=>neG j hj q.symm)]) (fun _ h=>h) iF,ht5.mono (fun j hj=>by rw[hH6,i9 (fun q=>neG j hj q.symm)]) (fun _ h=>h) iF⟩
 have hO6:t7 H6 (H.next+3) 1 (v8 inE) w r.2:=hO5.same fun b hb=>by have:=hO5.lt hb;rw[hH6,i9 oM]
 refine J8 ho k2 g50 s0 l4 hsp6 hH6.symm @wrap_small ?_;refine l9 (F:=fun z=>Ret (u5 _ _ _ (u7 (u7 (inBlock 4 z) _) _)) _ _) (xh H6 H.next F Rt hF oM w r.2 hO6 oM _ g62 p.st r.1.st _ r.2.length _ _
  ⟨0,{r.1 with st:=r.1.st+1},row6,G,rfl,oM,k2,k4',k5',k10,rfl,rfl,g60,hp6,fun j hj=>⟨(hG5 j hj).1,by rw[n6];exact(hG5 j hj).2⟩,fun j _ _=>rfl,i4.refl _ _,by show r.1.ed.length+_≤_;omega,rfl⟩) ?_
 rintro o2 e2 H7 ⟨ho2,m2,m4,m5,m13,row7,G7,g70,g72,hp7,hG7,hS7⟩;have n7:=hS7.next;have h77:=ic (r:=(r.2.foldl (fun m x=>m.edge x r.1.st 0 0) {r.1 with st:=r.1.st+1},p.st,r.1.st)) hp7;have hbld:=h77.bld p.st r.1.st;obtain⟨Ke,hKe⟩:∃Ke,Ke=row7++se p.st r.1.st:=⟨_,rfl⟩
 simp only at h77;rw[←hKe]at h77 hbld;obtain⟨H8,hH8⟩:∃H8,H8=H7.put (H.next+2) (.cells Ke true 1):=⟨_,rfl⟩
 have g83:H8.get (H.next+2)=cE Ke 1:=by rw[hH8];exact i8 (u6 g72)
 have s8:i4 H.next H1 H8:=(((hS2.trans hS5).trans (show i4 H.next H5 H6 by rw[hH6];exact i4.put lR)).trans hS7).trans (show i4 H.next H7 H8 by rw[hH8];exact i4.put oM);have hl8:=s8.low hlow;refine J15 ho2 m2 m4 m5 m13 g70 h77.ld hbld g72 h77.all h77.len h77.spl hH8.symm g83 h77.ld7 ?_;rw[hKe];refine cT (r:=(_,p.st,r.1.st)) (hp7.mono (fun j hj=>?_) (fun j hj=>?_) iF) (hS.trans s8) hl8 (fun h=>h)
 ·rw[hH8];refine i9 ?_;rcases(hG7 j hj).1 with q|q
  ·have:=hF j q;omega
  ·omega
 ·rcases(hG7 j hj).1 with q|q
  ·exact .inl q
  ·exact .inr ⟨oM,by rw[hH8,j5];exact(hG7 j hj).2⟩
theorem Cz(K:Nat):∀k,k≤K+1→jY K k:=by
 intro k;induction k with
 |zero=>intro _ H lo F Rt cs pcs q p hlo hF hr;exact hr.elim
 |succ k ih=>
  intro hk H lo F Rt cs pcs q p hlo hF hr hRt hp hok hfit;by_cases h4:q.op=4
  ·exact CB K k oM (ih oM) q h4 H lo F Rt cs pcs p hlo hF hr hRt hp hok hfit
  ·by_cases h5:q.op=5
   ·exact CA K k oM (ih oM) q h5 H lo F Rt cs pcs p hlo hF hr hRt hp hok hfit
   ·by_cases h6:q.op=6
    ·exact ze K k oM (ih oM) q h6 H lo F Rt cs pcs p hlo hF hr hRt hp hok hfit
    ·exact zd K k oM q h4 h5 h6 H lo F Rt cs pcs p hlo hF hr hRt hp hok hfit
def C0(q:Q):PrD:={(C5 q ⟨0,0,0,[],[]⟩).1 with sa:=(C5 q ⟨0,0,0,[],[]⟩).2.1,en:=(C5 q ⟨0,0,0,[],[]⟩).2.2}
theorem cy(q:Q):0≤(C0 q).st∧(C0 q).st≤2*nQ q:=by
 have:=E8 q ⟨0,0,0,[],[]⟩;unfold X9 at this;simp only[C0];simp only at this;omega
theorem PrF.sub{H:d9}{F F':Nat→Prop}{Rt:LV→Q→Prop}{cs:LV}{p:PrD}(h:PrF H F Rt cs p)(hF:∀j,F j→F' j):PrF H F' Rt cs p:=h.mono (fun _ _=>rfl) hF iF
theorem aV{H:d9}{F:Nat→Prop}{Rt:LV→Q→Prop}{cs:LV}{p:PrD}(h:PrF H F Rt cs p):cs.length=5:=by obtain⟨ea,ec,ta,tc,rfl,_⟩:=E1 h;rfl
theorem fd{H:d9}{F:Nat→Prop}{Rt:LV→Q→Prop}{cs:LV}{p:PrD}(h:PrF H F Rt cs p):cs.all Value.oneCell'=true:=by obtain⟨ea,ec,ta,tc,rfl,_⟩:=E1 h;rfl
def yV(H:d9)(Rt:LV→Q→Prop)(p:PrD)(w:Value)(H1:d9):Prop:=∃cs',w= .agg cs'.toArray∧PrF H1 (fun j=>H.next≤j∧j<H1.next) Rt cs' p∧i4 H.next H H1
theorem qn{H H':d9}{Rt:LV→Q→Prop}{cs':LV}{p:PrD}(hp:PrF H' (fun j=>H.next≤j∧j<H'.next) Rt cs' p) (hS:i4 H.next H H') (hl:H.next≤H'.low) {c:Bool} (hc0:c=true→cs'.all na0=true):
  Ret (some (br c (.agg cs'.toArray,none) (.agg cs'.toArray,some ⟨H'.bs,min H.low H'.low⟩))) H (yV H Rt p):=by
 obtain⟨ve,vt,rfl,h1,h2⟩:=hp;refine ce (fun hc=>?_) ⟨_,rfl,⟨ve,vt,rfl,h1,h2⟩,hS.ret hl⟩;have hc:=hc0 hc;simp only[List.all_cons,Bool.and_eq_true]at hc;exact⟨_,rfl,⟨ve,vt,rfl,bX h1 hc.2.2.2.1,bX h2 hc.2.2.2.2.1⟩,i4.refl _ _⟩
abbrev z5:LV:=[iV 0,iV 0,iV 0,nS,nS]
theorem ju(K k:Nat)(hk:k≤K+1)(H:d9)(lo:Nat)(Rt:LV→Q→Prop)(cs:LV)(q:Q)(hlo:lo≤H.next)(hr:QR H lo k false cs q)(hRt:∀k' el x,k'≤K→QR H lo k' true el x→Rt el x) (hok:OkD false q) (hfit:nQ q≤100000):
  Ret (CL prog t6 67 [.agg cs.toArray] H) H (yV H Rt (C0 q)):=by
 have hr0:=hr;cases k with
 |zero=>exact hr.elim
 |succ k=>
 obtain⟨va,ca,wa,ca',hcs,h1,h2,h3,h4⟩:=hr.path;have a0:cs.all Value.oneCell'=true:=by rw[hcs];rfl
 have ld0:ldC (some true) (some 3) 0 cs=some (.agg cs.toArray):=by rw[hcs];rfl
 obtain⟨H1,hH1⟩:∃H1,H1=(d9.push ⟨H.bs,H.next⟩ (.cells cs true 1)).push (.cells z5 true 1):=⟨_,rfl⟩
 have n0:(d9.push ⟨H.bs,H.next⟩ (.cells cs true 1)).next=H.next+1:=by rw[i5];rfl
 have hS:i4 H.next H H1:=by rw[hH1];exact(i4.first H _).trans (i4.push oM)
 have g1:H1.get H.next=cE cs 1:=by rw[hH1,j6 oM];exact i7
 have g2:H1.get (H.next+1)=cE z5 1:=by rw[hH1];exact y7 oM
 have hlow:H.next≤H1.low:=by rw[hH1,t5,t5];exact lR
 have n1:H1.next=H.next+2:=by rw[hH1,i5,n0]
 have hz:PrF H1 (fun _=>False) Rt z5 ⟨0,0,0,[],[]⟩:=⟨nS,nS,rfl,.inl ⟨rfl,rfl⟩,.inl ⟨rfl,rfl⟩⟩
 obtain⟨h3',H3,H4,row5,hc3,hge3,e4,n4,g4K,n3,hS4,hp4,h75,hF3⟩:=jS K (k+1) (Cz K (k+1) hk) lo (fun _=>False) Rt H1 cs z5 q ⟨0,0,0,[],[]⟩ oM (fun j hj=>hj.elim) (hr0.mono (fun j hj=>hS.get j oM) lR) (fun k' el x hk' h=>hRt k' el x hk' (h.mono (fun j hj=>(hS.get j oM).symm) lR)) hz hok ⟨Int.le_refl _,by show(0:Int)+2*_≤_;omega,by simp;omega,by simp;omega⟩;obtain⟨y,hy⟩:∃y,y=C5 q ⟨0,0,0,[],[]⟩:=⟨_,rfl⟩
 rw[C0,←hy];rw[←hy]at hc3 e4 g4K hp4 h75;obtain⟨ea,ec,ta,tc,hrow5,he,ht⟩:=E1 hp4;obtain⟨Kd,hKd⟩:∃Kd,Kd=row5++se y.2.1 y.2.2:=⟨_,rfl⟩
 rw[←hKd]at hc3 e4 g4K h75;obtain⟨Ke,hKe⟩:∃Ke,Ke=splice Kd 1 [iV y.2.1]:=⟨_,rfl⟩
 obtain⟨Kf,hKf⟩:∃Kf,Kf=splice Ke 2 [iV y.2.2]:=⟨_,rfl⟩
 obtain⟨row6,hrow6⟩:∃row6:LV,row6=[iV y.1.st,iV y.2.1,iV y.2.2,.slice ea y.1.ed.length ec,.slice ta y.1.ts.length tc]:=⟨_,rfl⟩
 have lKe:Ke.length=7:=by rw[hKe,D9];exact h75.len
 have e6:Ke[6]?=some (.int .i64 y.2.2):=by rw[hKe,hKd,hrow5];rfl
 have ldf:ldC (some true) (some 5) 0 Kf=some (.agg row6.toArray):=by rw[hKf,hKe,hKd,hrow5,hrow6];rfl
 have a6:row6.all Value.oneCell'=true:=by rw[hrow6];rfl
 have l6:row6.length=5:=by rw[hrow6];rfl
 have ld6:ldC (some true) (some 5) 0 row6=some (.agg row6.toArray):=by rw[hrow6];rfl
 have sp6:splice z5 0 row6=row6:=w7 _ _ (by rw[l6];rfl);obtain⟨H5,hH5⟩:∃H5,H5=(H4.put H3.next (.cells Ke true 1)).put H3.next (.cells Kf true 1):=⟨_,rfl⟩
 have g5K:H5.get H3.next=cE Kf 1:=by rw[hH5];exact i8 (by rw[j5];omega)
 have g5z:H5.get (H.next+1)=cE z5 1:=by rw[hH5,i9 oM,i9 oM,hS4.get _ oM];exact g2
 obtain⟨H6,hH6⟩:∃H6,H6=H5.put (H.next+1) (.cells row6 true 1):=⟨_,rfl⟩
 have n6:H6.next=H4.next:=by rw[hH6,j5,hH5,j5,j5]
 have g6:H6.get (H.next+1)=cE row6 1:=by rw[hH6];exact i8 (u6 g5z)
 have s6:i4 H.next H1 H6:=(hS4.weaken oM).trans (show i4 H.next H4 H6 by rw[hH6,hH5];exact((i4.put oM).trans (i4.put oM)).trans (i4.put oM));have hl6:=s6.low hlow;have k6:∀j,P5 (fun _=>False) H1 H3 j→H6.get j=H4.get j:=fun j hj=>by
  have:H1.next≤j∧j<H3.next:=hj.elim (fun q=>q.elim) id;rw[hH6,i9 oM,hH5,i9 oM,i9 oM]
 have k7:∀j,P5 (fun _=>False) H1 H3 j→H.next≤j∧j<H6.next:=fun j hj=>by
  have:H1.next≤j∧j<H3.next:=hj.elim (fun q=>q.elim) id;omega
 rw[j8 ad5 rfl _ (by simp)];refine J26 a0 hH1.symm g1 ld0 hc3 hge3 h75.all h75.len h75.spl e4.symm g4K h75.c5 hKe.symm lKe e6 hKf.symm hH5.symm g5K ldf g5z a6 l6 sp6 hH6.symm g6 ld6 ?_;exact qn (p:={y.1 with sa:=y.2.1,en:=y.2.2}) ⟨_,_,hrow6,he.mono k6 k7 iF,ht.mono k6 k7 iF⟩ (hS.trans s6) hl6 (fun h=>h)
structure StD where
 paths:List Q
 progs:List PrD
 base:List Int
 main:PrD
def StF(H:d9)(F:Nat→Prop)(Rp Rt:LV→Q→Prop)(cs:LV)(s:StD):Prop:=∃v1 v2 v3 ms,cs=[v1,v2,v3]++ms∧SlF H F 3 Rp v1 s.paths∧SlF H F 5 (PrF H F Rt) v2 s.progs∧SlF H F 1 (v8 inE) v3 s.base∧PrF H F Rt ms s.main
theorem StF.mono{H H':d9}{F F':Nat→Prop}{Rp Rt Rp' Rt':LV→Q→Prop}{cs:LV}{s:StD}(h:StF H F Rp Rt cs s)(hg:∀j,F j→H'.get j=H.get j) (hF:∀j,F j→F' j) (hRp:∀cs a,Rp cs a→Rp' cs a) (hRt:∀cs a,Rt cs a→Rt' cs a):StF H' F' Rp' Rt' cs s:=by
 obtain⟨v1,v2,v3,ms,h0,h1,h2,h3,h4⟩:=h;exact⟨v1,v2,v3,ms,h0,h1.mono hg hF hRp,h2.mono hg hF (fun _ _ h=>h.mono hg hF hRt),h3.mono hg hF iF,h4.mono hg hF hRt⟩
theorem N3{H:d9}{F:Nat→Prop}{Rp Rt:LV→Q→Prop}{cs:LV}{s:StD}(h:StF H F Rp Rt cs s):∃pa pc ga gc ba bc ea ec ta tc,cs=[.slice pa s.paths.length pc,.slice ga s.progs.length gc,.slice ba s.base.length bc,iV s.main.st,iV s.main.sa,iV s.main.en,.slice ea s.main.ed.length ec,.slice ta s.main.ts.length tc]∧
  SlF H F 3 Rp (.slice pa s.paths.length pc) s.paths∧SlF H F 5 (PrF H F Rt) (.slice ga s.progs.length gc) s.progs∧SlF H F 1 (v8 inE) (.slice ba s.base.length bc) s.base∧SlF H F 4 (v8 edE) (.slice ea s.main.ed.length ec) s.main.ed∧SlF H F 6 Rt (.slice ta s.main.ts.length tc) s.main.ts:=by
 obtain⟨v1,v2,v3,ms,rfl,h1,h2,h3,h4⟩:=h;obtain⟨pa,pc,rfl⟩:=h1.slice;obtain⟨ga,gc,rfl⟩:=h2.slice;obtain⟨ba,bc,rfl⟩:=h3.slice;obtain⟨ea,ec,ta,tc,rfl,h5,h6⟩:=E1 h4;exact⟨pa,pc,ga,gc,ba,bc,ea,ec,ta,tc,rfl,h1,h2,h3,h5,h6⟩
theorem SlF.row{H:d9}{F:Nat→Prop}{sz:Nat}{α:Type}{R:LV→α→Prop}{va:Option Addr}{n ca:Nat}{l:List α}(h:SlF H F sz R (.slice va n ca) l){i:Nat}(hi:i<l.length):
  ∃x b o cs own el,l[i]?=some x∧l.drop i=x::l.drop (i+1)∧va=some ⟨b,o,none⟩∧F b∧H.get b=some (.cells cs own sz)∧o+i*sz+sz≤cs.length∧ldC (some true) (some sz) (o+i*sz) cs=some (.agg el.toArray)∧(∀k,k<sz→cs[o+i*sz+k]?=el[k]?)∧R el x:=by
 obtain⟨x,hx,hd⟩:=S4 (l:=l) (i:=i) hi;rcases h with⟨_,h⟩|⟨b,o,c,hv,h⟩
 ·subst h;simp at hi
 ·rcases h with h|⟨cs,own,h1,h2,h3,h4⟩
  ·subst h;simp at hi
  ·obtain⟨rfl,rfl,rfl⟩:va=some ⟨b,o,none⟩∧n=l.length∧ca=c:=by simpa using hv
   have:(i+1)*sz≤l.length*sz:=Nat.mul_le_mul_right _ hi;rw[Nat.add_mul]at this;exact⟨x,b,o,cs,own,_,hx,hd,rfl,h1,h2,oM,pE oM rfl,fun k hk=>lP hk rfl,h4 i x hx⟩
def y9(l:List PrD):Int:=l.foldl (fun n p=>n+p.st) 0
theorem tP(H0:d9)(F:Nat→Prop)(Rt:LV→Q→Prop)(b0:Nat)(ga:Option Addr)(gc:Nat)(l:List PrD)(hv:SlF H0 F 5 (PrF H0 F Rt) (.slice ga l.length gc) l)(hn:l.length≤100000)(hb:∀p∈l,0≤p.st∧p.st≤1000000) (row:LV) (g0:H0.get b0=cE row 1) (r1:row[1]?=some (.slice ga l.length gc)) (r:Int):
  ∀kk e H2,(∃(i:Nat)(n:Int),kk=l.length-i∧i≤l.length∧0≤n∧n≤1000000*i∧e.get 1=pT b0∧e.get 3=iV n∧e.get 4=iV i∧H2=H0∧(l.drop i).foldl (fun n p=>n+p.st) n=r)→
  u9 (LE prog t6 (.loop FI) e H2) (fun o e H2=>H2=H0∧o= .exit 0∧e.get 3=iV r):=by
 refine j7 _ _ ?_;rintro kk e H2 ⟨i,n,hk,hi,hn0,hn1,f1,f3,f4,hH,fu⟩;subst hH;rcases b:decide ((i:Int)<l.length)with _|_
 ·have hb':=dF b;have:l.drop i=[]:=dN oM;rw[this,List.foldl_nil]at fu;refine J5 f1 f4 g0 r1 b ?_;exact l7 ⟨rfl,rfl,by rw[←fu];exact f3⟩
 have hb':=dT b;obtain⟨x,nb,o,cs,own,el,hx,hd,rfl,hF,hg,hle,hrow,hc,hR⟩:=hv.row (i:=i) oM;have nt:(i:Int).toNat=i:=tN i;have hbx:=hb x (List.mem_of_getElem? hx);obtain⟨ea,ec,ta,tc,rfl,_,_⟩:=E1 hR;have c0:=hc 0 oM;rw[Nat.add_zero]at c0;rw[hd,List.foldl_cons]at fu;refine J10 f1 f3 f4 g0 r1 b hg nt c0 @wrap_small ?_;exact i6 (kk-1) oM ⟨i+1,n+x.st,oM,oM,oM,oM,f1,rfl,rfl,rfl,fu⟩
theorem yp(H:d9)(F:Nat→Prop)(Rp Rt:LV→Q→Prop)(cs:LV)(s:StD)(hF:∀j,F j→j<H.next) (hs:StF H F Rp Rt cs s) (hn:s.progs.length≤100000) (hb:∀p∈s.progs,0≤p.st∧p.st≤1000000):CL prog t6 43 [.agg cs.toArray] H=some (.int .i64 (y9 s.progs),none):=by
 obtain⟨pa,pc,ga,gc,ba,bc,ea,ec,ta,tc,hcs,h1,h2,h3,h4,h5⟩:=N3 hs;have a0:cs.all Value.oneCell'=true:=by rw[hcs];rfl
 have r1:cs[1]?=some (.slice ga s.progs.length gc):=by rw[hcs];rfl
 obtain⟨H1,hH1⟩:∃H1,H1=d9.push ⟨H.bs,H.next⟩ (.cells cs true 1):=⟨_,rfl⟩
 have hS:i4 H.next H H1:=by rw[hH1];exact i4.first H _
 have hg:H1.get H.next=cE cs 1:=by rw[hH1];exact i7
 have hlow:H.next≤H1.low:=by rw[hH1,t5];exact lR
 have h2':SlF H1 F 5 (PrF H1 F Rt) (.slice ga s.progs.length gc) s.progs:=h2.mono (fun j hj=>hS.get j (hF j hj)) (fun _ h=>h) (fun _ _ h=>h.mono (fun j hj=>hS.get j (hF j hj)) (fun _ h=>h) iF);rw[j8 ab9 rfl _ (by simp)];refine J2 a0 hH1.symm ?_;refine l9 (F:=fun z=>u5 _ _ _ (u7 (inBlock 0 z) _)=_) (tP H1 F Rt H.next ga gc s.progs h2' hn hb cs hg r1 (y9 s.progs) s.progs.length _ _ ⟨0,0,rfl,oM,oM,oM,rfl,rfl,rfl,rfl,rfl⟩) ?_;rintro o e' H' ⟨hH,ho,h3⟩;exact J3 ho hH h3 trivial
def jj(l:List Q)(x:Q):Int:=ixG (fun y=>M0 y x) l 0
theorem kz(k:Nat)(H0:d9)(F:Nat→Prop)(lo b0:Nat)(hlo:lo≤H0.next)(pa:Option Addr)(pc:Nat)(l:List Q)(hv:SlF H0 F 3 (QR H0 lo k false) (.slice pa l.length pc) l)(hn:l.length≤100000)(row el:LV)(x:Q)(hx:QR H0 lo k false el x)(g0:H0.get b0=cE row 1)(r0:row[0]?=some (.slice pa l.length pc))(g1:H0.get (b0+1)=cE el 1)(r:Int):
  ∀kk e H2,(∃i:Nat,kk=l.length-i∧i≤l.length∧e.get 2=pT b0∧e.get 3= .pointer (some ⟨b0+1,0,none⟩)∧e.get 5=iV i∧H2=H0∧ixG (fun y=>M0 y x) (l.drop i) i=r)→
  u9 (LE prog t6 (.loop Gb) e H2) (fun o e H2=>H2=H0∧((o= .exit 0∧r= -1)∨(o= .ret∧e.get 4=iV r))):=by
 refine j7 _ _ ?_;rintro kk e H2 ⟨i,hk,hi,f2,f3,f5,hH,fu⟩;subst hH;rcases b:decide ((i:Int)<l.length)with _|_
 ·have hb':=dF b;have:l.drop i=[]:=dN oM;rw[this,ixG]at fu;refine J5 f2 f5 g0 r0 b ?_;exact l7 ⟨rfl,.inl ⟨rfl,fu.symm⟩⟩
 have hb':=dT b;obtain⟨y,nb,o,cs,own,ely,hy,hd,rfl,hF,hg,hle,hrow,hc,hR⟩:=hv.row (i:=i) oM;have nt:(i:Int).toNat=i:=tN i;have hel:ldC (some true) (some 3) 0 el=some (.agg el.toArray):=by
  cases k with
  |zero=>exact hx.elim
  |succ k=>obtain⟨_,_,_,_,rfl,_⟩:=hx.path;rfl
 have hca:=(BZ k).1 H2 lo ely el y x hlo hR hx;rw[hd,ixG]at fu;rcases b2:M0 y x with _|_
 ·simp only[b2,Bool.false_eq_true,if_false]at fu;rw[b2]at hca;refine J13 f2 f3 f5 g0 r0 b hg nt hrow g1 hel hca @wrap_small ?_;exact i6 (kk-1) oM ⟨i+1,oM,oM,f2,f3,rfl,rfl,fu⟩
 ·simp only[b2,if_true]at fu;rw[b2]at hca;refine J12 f2 f3 f5 g0 r0 b hg nt hrow g1 hel hca ?_;exact A6 ⟨rfl,.inr ⟨rfl,by rw[←fu];rfl⟩⟩
theorem mG(k:Nat)(H:d9)(F:Nat→Prop)(lo:Nat)(Rt:LV→Q→Prop)(cs el:LV)(s:StD)(x:Q)(hlo:lo≤H.next)(hF:∀j,F j→j<H.next) (hs:StF H F (QR H lo k false) Rt cs s) (hx:QR H lo k false el x) (hn:s.paths.length≤100000):
  CL prog t6 69 [.agg cs.toArray,.agg el.toArray] H=some (.int .i64 (jj s.paths x),none):=by
 obtain⟨pa,pc,ga,gc,ba,bc,ea,ec,ta,tc,hcs,h1,h2,h3,h4,h5⟩:=N3 hs;have a0:cs.all Value.oneCell'=true:=by rw[hcs];rfl
 have r1:cs[0]?=some (.slice pa s.paths.length pc):=by rw[hcs];rfl
 have a1:el.all Value.oneCell'=true:=by
  cases k with
  |zero=>exact hx.elim
  |succ k=>obtain⟨_,_,_,_,rfl,_⟩:=hx.path;rfl
 obtain⟨H1,hH1⟩:∃H1,H1=(d9.push ⟨H.bs,H.next⟩ (.cells cs true 1)).push (.cells el true 1):=⟨_,rfl⟩
 have n0:(d9.push ⟨H.bs,H.next⟩ (.cells cs true 1)).next=H.next+1:=by rw[i5];rfl
 have hS:i4 H.next H H1:=by rw[hH1];exact(i4.first H _).trans (i4.push oM)
 have g1:H1.get H.next=cE cs 1:=by rw[hH1,j6 oM];exact i7
 have g2:H1.get (H.next+1)=cE el 1:=by rw[hH1];exact y7 oM
 have hlow:H.next≤H1.low:=by rw[hH1,t5,t5];exact lR
 have hn1:=hS.next;have q1:∀cs a,QR H lo k false cs a→QR H1 lo k false cs a:=fun _ _ h=>h.mono (fun j hj=>hS.get j oM) lR;have h1':SlF H1 F 3 (QR H1 lo k false) (.slice pa s.paths.length pc) s.paths:=h1.mono (fun j hj=>hS.get j (hF j hj)) (fun _ h=>h) q1;rw[j8 ad7 rfl _ (by simp)];refine J3 a0 a1 hH1.symm ?_;refine l9 (F:=fun z=>u5 _ _ _ (u7 (inBlock 0 z) _)=_) (kz k H1 F lo H.next oM pa pc s.paths h1' hn cs el x (q1 _ _ hx) g1 r1 g2 (jj s.paths x) s.paths.length _ _ ⟨0,rfl,oM,rfl,rfl,rfl,rfl,rfl⟩) ?_;rintro o e' H' ⟨hH,⟨ho,hr⟩|⟨ho,h4⟩⟩
 ·exact J3 ho hH hr trivial
 ·exact J3 ho hH h4 trivial
def F4(s:StD)(x:Q):StD:=if s.paths.any (fun y=>M0 y x) then s else⟨s.paths++[x],s.progs++[C0 x],s.base++[y9 s.progs],s.main⟩
def D0(q:Q):StD:=(inQ false q).foldl F4 ⟨[],[],[],C0 q⟩
theorem X0(l:List PrD)(p:PrD):y9 (l++[p])=y9 l+p.st:=by simp [y9]
theorem uN(K:Nat)(H:d9)(lo b0 p3:Nat)(hlo:lo≤b0)(hb0:b0=H.next)(hp3:b0+2≤p3)(Rt:LV→Q→Prop)(hRt:∀k' el x,k'≤K→QR H lo k' true el x→Rt el x) (lv:Value) (l:List Q) (hl:l.length≤100000) (hok:∀x∈l,OkD false x∧nQ x≤100000) (ms:LV) (z:Blk) (H1:d9) (hH1:i4 b0 H H1) (hz:H1.get (b0+1)=some z) (res:StD):
  ∀kk e H2,(∃(i:Nat)(s:StD)(w1 w2 w3:Value)(G:Nat→Prop),kk=l.length-i∧i≤l.length∧s.progs.length≤i∧s.paths.length=s.progs.length∧s.base.length=s.progs.length∧0≤y9 s.progs∧y9 s.progs≤200000*i∧
    e.get 2= .pointer (some ⟨b0+1,0,none⟩)∧e.get 3=pT p3∧e.get 4=lv∧e.get 5=iV (y9 s.progs)∧e.get 6=iV i∧
    H2.get p3=cE (w1::w2::w3::ms) 1∧PrF H2 G Rt ms s.main∧SlF H2 G 3 (QR H lo K false) lv l∧t7 H2 (p3+1) 3 (QR H lo K false) w1 s.paths∧t7 H2 (p3+1) 5 (PrF H2 G Rt) w2 s.progs∧t7 H2 (p3+1) 1 (v8 inE) w3 s.base∧
    (∀j,G j→b0+2≤j∧j<H2.next∧j≠p3∧¬j9 w1 j∧¬j9 w2 j∧¬j9 w3 j)∧(∀j,j9 w1 j→¬j9 w2 j∧¬j9 w3 j)∧(∀j,j9 w2 j→¬j9 w3 j)∧i4 (b0+2) H1 H2∧(l.drop i).foldl F4 s=res)→
  u9 (LE prog t6 (.loop FF) e H2) (fun o e H2=>o= .exit 0∧e.get 2= .pointer (some ⟨b0+1,0,none⟩)∧e.get 3=pT p3∧∃(w1 w2 w3:Value)(G:Nat→Prop),H2.get p3=cE (w1::w2::w3::ms) 1∧PrF H2 G Rt ms res.main∧t7 H2 (p3+1) 3 (QR H lo K false) w1 res.paths∧t7 H2 (p3+1) 5 (PrF H2 G Rt) w2 res.progs∧t7 H2 (p3+1) 1 (v8 inE) w3 res.base∧(∀j,G j→b0+2≤j∧j<H2.next∧j≠p3)∧i4 (b0+2) H1 H2):=by
 subst hb0;refine j7 _ _ ?_;rintro kk e H2 ⟨i,s,w1,w2,w3,G,hkk,hi,hpl,hpa,hba,hi0,hi1,f2,f3,f4,f5,f6,g3,hms,hlv,hO1,hO2,hO3,hG,d1,d2,hS,fu⟩;have hn2:=hS.next;have hHn:=hH1.next;have hz1:=u6 hz;have hp3n:=u6 g3;obtain⟨la,lc,hlvs⟩:=hlv.slice;subst hlvs;rcases b:decide ((i:Int)<l.length)with _|_
 ·have hb':=dF b;have:l.drop i=[]:=dN oM;rw[this,List.foldl_nil]at fu;refine J3 f4 f6 b ?_;exact l7 ⟨rfl,f2,f3,w1,w2,w3,G,g3,by rw[←fu];exact hms,by rw[←fu];exact hO1,by rw[←fu];exact hO2,by rw[←fu];exact hO3,fun j hj=>⟨(hG j hj).1,(hG j hj).2.1,(hG j hj).2.2.1⟩,hS⟩
 have hb':=dT b;obtain⟨x,nb,o,csx,own,el,hx,hd,rfl,hGn,hgx,hle,hrow,hc,hR⟩:=hlv.row (i:=i) oM;have nt:(i:Int).toNat=i:=tN i;obtain⟨hokx,hnx⟩:=hok x (List.mem_of_getElem? hx);have hcst:=cy x;rw[hd,List.foldl_cons]at fu;have toH2:∀cs a,QR H lo K false cs a→QR H2 lo K false cs a:=fun _ _ h=>h.mono (fun j hj=>by rw[hS.get j oM,hH1.get j oM]) lR;obtain⟨pa,pc,e1⟩:=hO1.slice;obtain⟨ga,gc,e2⟩:=hO2.slice;obtain⟨ba,bc,e3⟩:=hO3.slice;obtain⟨ea,ec,ta,tc,ems,hme,hmt⟩:=E1 hms;have hst:StF H2 (fun j=>G j∨j9 w1 j∨j9 w2 j∨j9 w3 j) (QR H2 lo K false) Rt (w1::w2::w3::ms) s:=⟨w1,w2,w3,ms,rfl,(hO1.frz fun b hb=> .inr (.inl hb)).mono (fun _ _=>rfl) (fun _ h=>h) toH2,(hO2.frz fun b hb=> .inr (.inr (.inl hb))).mono (fun _ _=>rfl) (fun _ h=>h) (fun _ _ h=>h.sub fun j hj=> .inl hj),hO3.frz fun b hb=> .inr (.inr (.inr hb)),hms.sub fun j hj=> .inl hj⟩
 have hstF:∀j,(G j∨j9 w1 j∨j9 w2 j∨j9 w3 j)→j<H2.next:=by
  rintro j (q|q|q|q)
  ·exact(hG j q).2.1
  ·exact(hO1.lt q).2
  ·exact(hO2.lt q).2
  ·exact(hO3.lt q).2
 have hfind:=mG K H2 _ lo Rt (w1::w2::w3::ms) el s x oM hstF hst (toH2 _ _ hR) oM;have hrowS:ldC (some true) (some 8) 0 (w1::w2::w3::ms)=some (.agg (w1::w2::w3::ms).toArray):=by rw[e1,e2,e3,ems];rfl
 obtain⟨R8,hR8⟩:∃R8,R8=w1::w2::w3::ms:=⟨_,rfl⟩
 rw[←hR8]at g3 hfind hrowS;have lms:=aV hms;have l8:R8.length=8:=by rw[hR8];simp [lms]
 have q80:R8[0]?=some w1:=by rw[hR8];rfl
 have hany:decide (0≤jj s.paths x)=s.paths.any (fun y=>M0 y x):=eU _ _;rcases b2:s.paths.any (fun y=>M0 y x)with _|_
 ·rw[b2]at hany;have hstep:F4 s x=⟨s.paths++[x],s.progs++[C0 x],s.base++[y9 s.progs],s.main⟩:=by rw[F4,b2];rfl
  rw[hstep]at fu;obtain⟨v3,h3',H3,hc3,hge3,cs3,rfl,hp3',hS3⟩:=ju K K oM H2 lo Rt el x oM (toH2 _ _ hR) (fun k' el x hk' h=>hRt k' el x hk' (h.mono (fun j hj=>by rw[hS.get j oM,hH1.get j oM]) lR)) hokx hnx;have n3:=hS3.next;have a3:=fd hp3';have l3:=aV hp3';obtain⟨H4,hH4⟩:∃H4,H4=(H3.push (.cells z5 true 1)).put H3.next (.cells cs3 true 1):=⟨_,rfl⟩
  have n4:H4.next=H3.next+1:=by rw[hH4,j5,i5]
  have sH4:i4 H3.next H3 H4:=by rw[hH4];exact(i4.push lR).trans (i4.put lR)
  have g4p:H4.get H3.next=cE cs3 1:=by rw[hH4];exact i8 (by rw[i5];omega)
  have spz:splice z5 0 cs3=cs3:=w7 _ _ (by rw[l3];rfl);have k4:∀j,j<H2.next→H4.get j=H2.get j:=fun j hj=>by rw[sH4.get j oM,hS3.get j hj]
  have g43:H4.get p3=cE R8 1:=(k4 _ hp3n).trans g3;have g4x:=(k4 nb (hG nb hGn).2.1).trans hgx;have hO14:t7 H4 (p3+1) 3 (QR H lo K false) w1 s.paths:=hO1.same fun b hb=>k4 b (hO1.lt hb).2;have allel:el.all Value.oneCell'=true:=by
   cases K with
   |zero=>exact hR.elim
   |succ k=>obtain⟨_,_,_,_,rfl,_⟩:=hR.path;rfl
  have bsl:∀Hx:d9,bsA prog (some 25) Hx 1 [(0,.agg el.toArray)]=some (.slice (some ⟨Hx.next,0,none⟩) 1 1,Hx.push (.cells el true 3)):=fun Hx=>by
   cases K with
   |zero=>exact hR.elim
   |succ k=>obtain⟨_,_,_,_,rfl,_⟩:=hR.path;simp only[C7,X8,C8];rfl
  obtain⟨u1,h5',H5,ha5,hge5,hO15,hG5⟩:=hO14.push1F (P:=prog) (t:=22) (cs:=el) (a:=x) (by exact jL.2.2.2.2.2.2) X8.1 X8.2.1 X8.2.2.1 oM oM hR.len hR oM oM;have n5:=hG5.next;have nb3:∀j,j≤p3→¬j9 w1 j∧¬j9 w2 j∧¬j9 w3 j:=fun j hj=>⟨fun q=>by have:=hO1.lt q;omega,fun q=>by have:=hO2.lt q;omega,fun q=>by have:=hO3.lt q;omega⟩
  have g53:H5.get p3=cE R8 1:=(hG5.but p3 oM (nb3 p3 lR).1).trans g43;have gx4:(H4.push (.cells el true 3)).get nb=_:=(j6 (by have:=hG nb hGn;omega)).trans g4x;obtain⟨R8a,hR8a⟩:∃R,R=u1::w2::w3::ms:=⟨_,rfl⟩
  obtain⟨ua,uc,eu1⟩:=hO15.slice;have ou1:Value.oneCell' u1=true:=by rw[eu1];rfl
  have cu1:u1.cells.toList=[u1]:=by rw[eu1];rfl
  have sp1:splice R8 0 [u1]=R8a:=by rw[hR8,hR8a];rfl
  have la:R8a.length=8:=by rw[hR8a];simp [lms]
  have qa1:R8a[1]?=some w2:=by rw[hR8a];rfl
  obtain⟨H6,hH6⟩:∃H6,H6=H5.put p3 (.cells R8a true 1):=⟨_,rfl⟩
  have n6:H6.next=H5.next:=by rw[hH6,j5]
  have g63:H6.get p3=cE R8a 1:=by rw[hH6];exact i8 oM
  have fr6:∀j,j<H4.next→¬j9 w1 j→j≠p3→H6.get j=H4.get j:=fun j hj h1 h2=>by rw[hH6,i9 (fun q=>h2 q.symm)];exact hG5.but j hj h1
  have g6p:H6.get H3.next=cE cs3 1:=(fr6 _ oM (fun q=>by have:=hO1.lt q;omega) oM).trans g4p;have ld3:ldC (some true) (some 5) 0 cs3=some (.agg cs3.toArray):=by obtain⟨_,_,_,_,rfl,_⟩:=E1 hp3';rfl
  obtain⟨G2,hG2⟩:∃G2:Nat→Prop,G2=fun j=>G j∨(H2.next≤j∧j<H3.next):=⟨_,rfl⟩
  have frz6:∀j,G2 j→H6.get j=H3.get j∧j≠p3∧j<H3.next∧¬j9 w1 j∧¬j9 w2 j∧¬j9 w3 j:=fun j hj=>by
   rw[hG2]at hj;rcases hj with hj|hj
   ·have:=hG j hj;exact⟨by rw[fr6 j oM this.2.2.2.1 this.2.2.1,sH4.get j oM],this.2.2.1,oM,this.2.2.2⟩
   ·have e:¬j9 w1 j∧¬j9 w2 j∧¬j9 w3 j:=⟨fun q=>by have:=hO1.lt q;omega,fun q=>by have:=hO2.lt q;omega,fun q=>by have:=hO3.lt q;omega⟩
    exact⟨by rw[fr6 j oM e.1 oM,sH4.get j oM],oM,oM,e⟩
  have hcomp:PrF H6 G2 Rt cs3 (C0 x):=hp3'.mono (fun j hj=>(frz6 j (by rw[hG2];exact .inr hj)).1) (fun j hj=>by rw[hG2];exact .inr hj) iF;have oldG:∀j,G j→H6.get j=H2.get j:=fun j hj=>by rw[(frz6 j (by rw[hG2];exact .inl hj)).1,hS3.get j (hG j hj).2.1]
  have sub2:∀j,G j→G2 j:=fun j hj=>by rw[hG2];exact .inl hj
  have hO26:t7 H6 (p3+1) 5 (PrF H6 G2 Rt) w2 s.progs:=(hO2.same (H':=H6) fun b hb=>by have:=hO2.lt hb;rw[fr6 b oM (fun q=>(d1 b q).1 hb) oM,k4 b this.2]).imp fun cs p h=>h.mono oldG sub2 iF;obtain⟨u2,h7',H7,ha7,hge7,hO27,hG7⟩:=hO26.push1F (P:=prog) (t:=28) (cs:=cs3) (a:=C0 x) (by exact NP.2.2.2.2.2.2) mK.1 mK.2.1 mK.2.2.1 oM oM l3 hcomp oM oM;have n7:=hG7.next;have bs3:∀Hx:d9,bsA prog (some 32) Hx 1 [(0,.agg cs3.toArray)]=some (.slice (some ⟨Hx.next,0,none⟩) 1 1,Hx.push (.cells cs3 true 5)):=fun Hx=>by
   obtain⟨_,_,_,_,rfl,_⟩:=E1 hp3';simp only[C7,mK,C8];rfl
  have g73:H7.get p3=cE R8a 1:=(hG7.but p3 oM (nb3 p3 lR).2.1).trans g63;obtain⟨R8b,hR8b⟩:∃R,R=u1::u2::w3::ms:=⟨_,rfl⟩
  obtain⟨ub,ucb,eu2⟩:=hO27.slice;have ou2:Value.oneCell' u2=true:=by rw[eu2];rfl
  have cu2:u2.cells.toList=[u2]:=by rw[eu2];rfl
  have sp2:splice R8a 1 [u2]=R8b:=by rw[hR8a,hR8b];rfl
  have lb:R8b.length=8:=by rw[hR8b];simp [lms]
  have qb2:R8b[2]?=some w3:=by rw[hR8b];rfl
  obtain⟨H8,hH8⟩:∃H8,H8=H7.put p3 (.cells R8b true 1):=⟨_,rfl⟩
  have n8:H8.next=H7.next:=by rw[hH8,j5]
  have g83:H8.get p3=cE R8b 1:=by rw[hH8];exact i8 oM
  have fr8:∀j,j<H6.next→¬j9 w2 j→j≠p3→H8.get j=H6.get j:=fun j hj h1 h2=>by rw[hH8,i9 (fun q=>h2 q.symm)];exact hG7.but j hj h1
  have hO38:t7 H8 (p3+1) 1 (v8 inE) w3 s.base:=hO3.same (H':=H8) fun b hb=>by
   have:=hO3.lt hb;rw[fr8 b oM (fun q=>d2 b q hb) oM,fr6 b oM (fun q=>(d1 b q).2 hb) oM,k4 b this.2]
  obtain⟨u3,h9',H9,ha9,hge9,hO39,hG9⟩:=hO38.push1F (P:=prog) (t:=29) (cs:=inE (y9 s.progs)) (a:=y9 s.progs) (by exact yL.2.2.2.2.2.2) ty3.1 ty3.2.1 ty3.2.2.1 oM oM rfl rfl oM oM;have n9:=hG9.next;have g93:H9.get p3=cE R8b 1:=(hG9.but p3 oM (nb3 p3 lR).2.2).trans g83;obtain⟨ub3,ucb3,eu3⟩:=hO39.slice;have ou3:Value.oneCell' u3=true:=by rw[eu3];rfl
  have cu3:u3.cells.toList=[u3]:=by rw[eu3];rfl
  have sp3:splice R8b 2 [u3]=u1::u2::u3::ms:=by rw[hR8b];rfl
  obtain⟨H10,hH10⟩:∃H10,H10=H9.put p3 (.cells (u1::u2::u3::ms) true 1):=⟨_,rfl⟩
  have n10:H10.next=H9.next:=by rw[hH10,j5]
  have fr10:∀j,j<H8.next→¬j9 w3 j→j≠p3→H10.get j=H8.get j:=fun j hj h1 h2=>by rw[hH10,i9 (fun q=>h2 q.symm)];exact hG9.but j hj h1
  have g10p:H10.get H3.next=cE cs3 1:=by
   rw[fr10 _ oM (fun q=>by have:=hO3.lt q;omega) oM,fr8 _ oM (fun q=>by have:=hO2.lt q;omega) oM];exact g6p
  have c30:cs3[0]?=some (.int .i64 (C0 x).st):=by obtain⟨_,_,_,_,rfl,_⟩:=E1 hp3';rfl
  refine J30 f3 f4 f5 (And.intro f6 b) (And.intro g3 hrowS) (And.intro hgx nt) (And.intro hrow hfind) (And.intro hany hc3) (And.intro hge3 a3) (And.intro l3 spz) (And.intro hH4.symm g43) (And.intro q80 g4x) (And.intro gx4 bsl) (And.intro ha5 hge5) (And.intro g53 l8) (And.intro ou1 cu1) (And.intro sp1 hH6.symm) (And.intro g63 qa1) (And.intro g6p ld3) (And.intro bs3 ha7) (And.intro hge7 g73) (And.intro la ou2) (And.intro cu2 sp2) (And.intro hH8.symm g83) (And.intro qb2 ha9) (And.intro hge9 g93) (And.intro lb ou3) (And.intro cu3 sp3) (And.intro hH10.symm g10p) (And.intro c30 @wrap_small) ?_;have frA:∀j,G2 j→H10.get j=H6.get j:=fun j hj=>by
   obtain⟨q1,q2,q3,q4,q5,q6⟩:=frz6 j hj;rw[fr10 j oM q6 q2,fr8 j oM q5 q2]
  have newb:∀{w u:Value}{Ha Hb:d9}{lo:Nat},X7 lo w Ha u Hb→∀b,j9 u b→j9 w b∨Ha.next≤b:=fun h=>h.new;refine i6 (kk-1) oM ⟨i+1,⟨s.paths++[x],s.progs++[C0 x],s.base++[y9 s.progs],s.main⟩,u1,u2,u3,G2,oM,oM,by simp;omega,by simp [hpa],by simp [hba],by show 0≤y9 (s.progs++[C0 x]);rw[X0];omega,by show y9 (s.progs++[C0 x])≤_;rw[X0];omega,f2,f3,f4,by show Env.get _ 5=iV (y9 (s.progs++[C0 x]));rw[X0];rfl,rfl,by rw[hH10];exact i8 oM,?_,?_,?_,?_,?_,?_,?_,?_,?_,fu⟩
  ·exact hms.mono (fun j hj=>by rw[frA j (sub2 j hj),oldG j hj]) sub2 iF
  ·exact hlv.mono (fun j hj=>by rw[frA j (sub2 j hj),oldG j hj]) sub2 iF
  ·refine hO15.same fun b hb=>?_;have h1:=hO15.lt hb;have h2:¬j9 w2 b∧¬j9 w3 b:=by
    rcases hG5.new b hb with q|q
    ·exact d1 b q
    ·exact⟨fun q=>by have:=hO2.lt q;omega,fun q=>by have:=hO3.lt q;omega⟩
   rw[fr10 b oM h2.2 oM,fr8 b oM h2.1 oM,hH6,i9 oM]
  ·refine(hO27.same (H':=H10) fun b hb=>?_).imp fun cs p h=>h.mono frA (fun _ h=>h) iF;have h1:=hO27.lt hb;have h2:¬j9 w3 b:=by
    rcases hG7.new b hb with q|q
    ·exact d2 b q
    ·exact fun q=>by have:=hO3.lt q;omega
   rw[fr10 b oM h2 oM,hH8,i9 oM]
  ·refine hO39.same fun b hb=>?_;have h1:=hO39.lt hb;rw[hH10,i9 oM]
  ·intro j hj;obtain⟨q1,q2,q3,q4,q5,q6⟩:=frz6 j hj;have hlo:H.next+2≤j:=by
    rw[hG2]at hj;rcases hj with hj|hj
    ·exact(hG j hj).1
    ·omega
   refine⟨hlo,oM,q2,fun q=>?_,fun q=>?_,fun q=>?_⟩
   ·rcases hG5.new j q with q|q
    ·exact q4 q
    ·omega
   ·rcases hG7.new j q with q|q
    ·exact q5 q
    ·omega
   ·rcases hG9.new j q with q|q
    ·exact q6 q
    ·omega
  ·intro j hj;have h1:=hO15.lt hj;refine⟨fun q=>?_,fun q=>?_⟩
   ·have h2:=hO27.lt q;rcases hG7.new j q with q|q
    ·have:=hO2.lt q;rcases hG5.new j hj with r|r
     ·exact(d1 j r).1 q
     ·omega
    ·omega
   ·rcases hG9.new j q with q|q
    ·have:=hO3.lt q;rcases hG5.new j hj with r|r
     ·exact(d1 j r).2 q
     ·omega
    ·omega
  ·intro j hj q;have h1:=hO27.lt hj;rcases hG9.new j q with q|q
   ·have:=hO3.lt q;rcases hG7.new j hj with r|r
    ·exact d2 j r q
    ·omega
   ·omega
  ·refine((((((hS.trans (hS3.weaken oM)).trans (sH4.weaken oM)).trans (hG5.stay.weaken oM)).trans ?_).trans (hG7.stay.weaken oM)).trans ?_).trans ((hG9.stay.weaken oM).trans ?_)
   ·rw[hH6];exact i4.put oM
   ·rw[hH8];exact i4.put oM
   ·rw[hH10];exact i4.put oM
 ·rw[b2]at hany;have hstep:F4 s x=s:=by rw[F4,b2];rfl
  rw[hstep]at fu;refine J12 f3 f4 f6 b g3 hrowS hgx nt hrow hfind hany @wrap_small ?_;exact i6 (kk-1) oM ⟨i+1,s,w1,w2,w3,G,oM,oM,oM,hpa,hba,hi0,oM,f2,f3,f4,f5,rfl,by rw[←hR8];exact g3,hms,hlv,hO1,hO2,hO3,hG,d1,d2,hS,fu⟩
theorem gM:∀(l:List Q)(F:Q→List Q),(∀x∈l,(F x).length+1≤nQ x)→(l.flatMap F).length+l.length≤nL l
 |[],F,_=>by simp [nL]
 |x::l,F,h=>by
  have h1:=h x (by simp);have h2:=gM l F fun y hy=>h y (by simp [hy]);rw[nL,List.flatMap_cons,List.length_append,List.length_cons];omega
theorem iK:∀(l:List Q)(x:Q),x∈l→nQ x≤nL l
 |y::l,x,h=>by
  rw[nL];rcases List.mem_cons.1 h with rfl|h
  ·omega
  ·have:=iK l x h;omega
theorem bH:∀(n:Nat)(f:Bool)(q:Q),nQ q≤n→OkD f q→(inQ f q).length+1≤nQ q∧∀x∈inQ f q,OkD false x∧nQ x≤nQ q:=by
 intro n;induction n with
 |zero=>intro f q h;have:=dE q;omega
 |succ n ih=>
  intro f q h ho;have hq:=dE q;obtain⟨ok1,ok2,_⟩:=ho.parts;have ia:∀g,(∀x∈q.a,OkD g x)→(inL g q.a).length+q.a.length≤nL q.a∧∀x∈inL g q.a,OkD false x∧nQ x≤nL q.a:=by
   intro g hg;have e:∀x∈q.a,nQ x≤n:=fun x hx=>by have:=iK _ _ hx;omega
   rw[dh];refine⟨gM _ _ fun x hx=>(ih g x (e x hx) (hg x hx)).1,fun x hx=>?_⟩;obtain⟨y,hy,hx⟩:=List.mem_flatMap.1 hx;have:=(ih g y (e y hy) (hg y hy)).2 x hx;have h3:=iK _ _ hy;exact⟨this.1,oM⟩
  have ib:∀g,(∀x∈q.b,OkD g x)→(inL g q.b).length+q.b.length≤nL q.b∧∀x∈inL g q.b,OkD false x∧nQ x≤nL q.b:=by
   intro g hg;have e:∀x∈q.b,nQ x≤n:=fun x hx=>by have:=iK _ _ hx;omega
   rw[dh];refine⟨gM _ _ fun x hx=>(ih g x (e x hx) (hg x hx)).1,fun x hx=>?_⟩;obtain⟨y,hy,hx⟩:=List.mem_flatMap.1 hx;have:=(ih g y (e y hy) (hg y hy)).2 x hx;have h3:=iK _ _ hy;exact⟨this.1,oM⟩
  cases f
  ·rw[kN];have h1:=ia false ok1;have h2:=ib true ok2;refine⟨by rw[List.length_append];omega,fun x hx=>?_⟩;rcases List.mem_append.1 hx with hx|hx
   ·have:=h1.2 x hx;exact⟨this.1,oM⟩
   ·have:=h2.2 x hx;exact⟨this.1,oM⟩
  ·rw[fI];have h1:=ia true ok1;have h2:=ib false ok2;split
   ·refine⟨by simp only[List.length_append];omega,fun x hx=>?_⟩;rcases List.mem_append.1 hx with hx|hx
    ·have:=h1.2 x hx;exact⟨this.1,oM⟩
    ·rcases List.mem_append.1 hx with hx|hx
     ·have:=h2.2 x hx;exact⟨this.1,oM⟩
     ·have:=iK _ _ hx;exact⟨ok2 x hx,oM⟩
   ·rw[List.append_nil];refine⟨oM,fun x hx=>?_⟩;have:=h1.2 x hx;exact⟨this.1,oM⟩
def sB(H:d9)(Rp Rt:LV→Q→Prop)(s:StD)(w:Value)(H1:d9):Prop:=∃cs',w= .agg cs'.toArray∧StF H1 (fun j=>H.next≤j∧j<H1.next) Rp Rt cs' s∧i4 H.next H H1
theorem od{H H':d9}{Rp Rt:LV→Q→Prop}{cs':LV}{s:StD}(hp:StF H' (fun j=>H.next≤j∧j<H'.next) Rp Rt cs' s) (hS:i4 H.next H H') (hl:H.next≤H'.low) {c:Bool} (hc0:c=true→cs'.all na0=true):
  Ret (some (br c (.agg cs'.toArray,none) (.agg cs'.toArray,some ⟨H'.bs,min H.low H'.low⟩))) H (sB H Rp Rt s):=by
 obtain⟨v1,v2,v3,ms,rfl,h1,h2,h3,ve,vt,rfl,h4,h5⟩:=hp;refine ce (fun hc=>?_) ⟨_,rfl,⟨v1,v2,v3,_,rfl,h1,h2,h3,ve,vt,rfl,h4,h5⟩,hS.ret hl⟩;have hc:=hc0 hc;simp only[List.cons_append,List.nil_append,List.all_cons,Bool.and_eq_true]at hc;have n2:s.progs=[]:=by
  rcases h2 with⟨_,h⟩|⟨b,o,c,hb,_⟩
  ·exact h
  ·rw[hb]at hc;simp [na0]at hc
 have e2:v2=nS:=by
  rcases h2 with⟨h,_⟩|⟨b,o,c,hb,_⟩
  ·exact h
  ·rw[hb]at hc;simp [na0]at hc
 exact⟨_,rfl,⟨v1,v2,v3,_,rfl,bX h1 hc.1,.inl ⟨e2,n2⟩,bX h3 hc.2.2.1,ve,vt,rfl,bX h4 hc.2.2.2.2.2.2.1,bX h5 hc.2.2.2.2.2.2.2.1⟩,i4.refl _ _⟩
abbrev z8:LV:=[nS,nS,nS,iV 0,iV 0,iV 0,nS,nS]
theorem yu(K:Nat)(H:d9)(lo:Nat)(Rt:LV→Q→Prop)(cs:LV)(q:Q)(hlo:lo≤H.next)(hr:QR H lo K false cs q)(hRt:∀k' el x,k'≤K→QR H lo k' true el x→Rt el x) (hok:OkD false q) (hfit:nQ q≤1000):
  Ret (CL prog t6 36 [.agg cs.toArray] H) H (sB H (QR H lo K false) Rt (D0 q)):=by
 have a0:cs.all Value.oneCell'=true:=by
  cases K with
  |zero=>exact hr.elim
  |succ k=>obtain⟨_,_,_,_,rfl,_⟩:=hr.path;rfl
 have ld0:ldC (some true) (some 3) 0 cs=some (.agg cs.toArray):=by
  cases K with
  |zero=>exact hr.elim
  |succ k=>obtain⟨_,_,_,_,rfl,_⟩:=hr.path;rfl
 obtain⟨H1,hH1⟩:∃H1,H1=(d9.push ⟨H.bs,H.next⟩ (.cells cs true 1)).push (.cells z8 true 1):=⟨_,rfl⟩
 have n0:(d9.push ⟨H.bs,H.next⟩ (.cells cs true 1)).next=H.next+1:=by rw[i5];rfl
 have hS:i4 H.next H H1:=by rw[hH1];exact(i4.first H _).trans (i4.push oM)
 have g1:H1.get H.next=cE cs 1:=by rw[hH1,j6 oM];exact i7
 have g2:H1.get (H.next+1)=cE z8 1:=by rw[hH1];exact y7 oM
 have hlow:H.next≤H1.low:=by rw[hH1,t5,t5];exact lR
 have n1:H1.next=H.next+2:=by rw[hH1,i5,n0]
 obtain⟨v3,h3',H3,hc3,hge3,ms,rfl,hp3,hS3⟩:=ju K K oM H1 lo Rt cs q oM (hr.mono (fun j hj=>hS.get j oM) lR) (fun k' el x hk' h=>hRt k' el x hk' (h.mono (fun j hj=>(hS.get j oM).symm) lR)) hok oM;have n3:=hS3.next;have a3:=fd hp3;have l3:=aV hp3;obtain⟨ea,ec,ta,tc,hms,he,ht⟩:=E1 hp3;obtain⟨row,hrow⟩:∃row:LV,row=nS::nS::nS::ms:=⟨_,rfl⟩
 have sp3:splice z8 3 ms=row:=by rw[hrow,hms];rfl
 have lrow:row.length=8:=by rw[hrow];simp [l3]
 have arow:row.all Value.oneCell'=true:=by rw[hrow];simp only[List.all_cons,a3];rfl
 obtain⟨H4,hH4⟩:∃H4,H4=(H3.push (.cells z8 true 1)).put H3.next (.cells row true 1):=⟨_,rfl⟩
 have n4:H4.next=H3.next+1:=by rw[hH4,j5,i5]
 have s4:i4 H3.next H3 H4:=by rw[hH4];exact(i4.push lR).trans (i4.put lR)
 have g43:H4.get H3.next=cE row 1:=by rw[hH4];exact i8 (by rw[i5];omega)
 have g4q:H4.get H.next=cE cs 1:=by rw[s4.get _ oM,hS3.get _ oM];exact g1
 have spr:splice z8 0 row=row:=w7 _ _ (by rw[lrow];rfl);have k4:∀j,j<H.next→H4.get j=H.get j:=fun j hj=>by rw[s4.get j oM,hS3.get j oM,hS.get j hj]
 obtain⟨hin,hmem⟩:=bH _ false q lR hok;obtain⟨v5,h5',H5,hc5,hge5,hO5,hS5⟩:=(MS K).1 H4 lo cs q oM (hr.mono (fun j hj=>k4 j oM) lR) oM hok;have n5:=hS5.next;rw[j8 ab4 rfl _ (by simp)];refine J16 a0 hH1.symm g1 ld0 hc3 hge3 l3 a3 sp3 lrow arow spr hH4.symm g4q hc5 hge5 ?_;have s15:i4 H1.next H1 H5:=(hS3.trans (s4.weaken oM)).trans (hS5.weaken oM);have g52:H5.get (H.next+1)=cE z8 1:=(s15.get _ oM).trans g2;have g53:H5.get H3.next=cE row 1:=(hS5.get _ oM).trans g43;have toH:∀cs a,QR H4 lo K false cs a→QR H lo K false cs a:=fun _ _ h=>h.mono (fun j hj=>(k4 j oM).symm) lR;obtain⟨G,hG⟩:∃G:Nat→Prop,G=fun j=>(H1.next≤j∧j<H3.next)∨(H4.next≤j∧j<H5.next):=⟨_,rfl⟩
 have hl5:SlF H5 G 3 (QR H lo K false) v5 (inQ false q):=(hO5.frz fun b hb=>by rw[hG];exact .inr (hO5.lt hb)).mono (fun _ _=>rfl) (fun _ h=>h) toH;have hp5:PrF H5 G Rt ms (C0 q):=hp3.mono (fun j hj=>by rw[hS5.get j oM,s4.get j oM]) (fun j hj=>by rw[hG];exact .inl hj) iF;have hloop:=uN K H lo H.next H3.next hlo rfl oM Rt hRt v5 (inQ false q) oM (fun x hx=>by have:=hmem x hx;exact⟨this.1,oM⟩) ms (.cells z8 true 1) H1 hS g2 (D0 q) (inQ false q).length;refine l9 (F:=fun z=>Ret (u5 _ _ _ (u7 (inBlock 0 z) _)) _ _) (hloop _ _ ⟨0,⟨[],[],[],C0 q⟩,nS,nS,nS,G,rfl,oM,by simp,rfl,rfl,by simp [y9],by simp [y9],rfl,rfl,rfl,rfl,rfl,by rw[←hrow];exact g53,hp5,hl5,t7.nil,t7.nil,t7.nil,fun j hj=>?_,fun j hj=>(A9 j hj).elim,fun j hj=>(A9 j hj).elim,s15.weaken oM,rfl⟩) ?_
 ·rw[hG]at hj;refine⟨oM,oM,oM,A9 j,A9 j,A9 j⟩
 rintro o e' H6 ⟨ho,f2,f3,w1,w2,w3,G',g63,hp6,hO1,hO2,hO3,hG',hS6⟩;have n6:=hS6.next;have g62:H6.get (H.next+1)=cE z8 1:=(hS6.get _ oM).trans g2;obtain⟨ra,rc,e1⟩:=hO1.slice;obtain⟨rb,rd,e2⟩:=hO2.slice;obtain⟨re,rf,e3⟩:=hO3.slice;obtain⟨row6,hrow6⟩:∃row:LV,row=w1::w2::w3::ms:=⟨_,rfl⟩
 rw[←hrow6]at g63;have ld6:ldC (some true) (some 8) 0 row6=some (.agg row6.toArray):=by rw[hrow6,e1,e2,e3,hms];rfl
 have a6:row6.all Value.oneCell'=true:=by rw[hrow6,e1,e2,e3];simp only[List.all_cons,a3];rfl
 have l6:row6.length=8:=by rw[hrow6];simp [l3]
 have sp6:splice z8 0 row6=row6:=w7 _ _ (by rw[l6];rfl);obtain⟨H7,hH7⟩:∃H7,H7=H6.put (H.next+1) (.cells row6 true 1):=⟨_,rfl⟩
 have n7:H7.next=H6.next:=by rw[hH7,j5]
 have g72:H7.get (H.next+1)=cE row6 1:=by rw[hH7];exact i8 oM
 have s7:i4 H.next H H7:=by rw[hH7];exact(hS.trans (hS6.weaken oM)).trans (i4.put oM)
 have hl7:H.next≤H7.low:=by rw[hH7];exact((hS6.weaken oM).trans (i4.put oM)).low hlow
 have k7:∀j,H.next+2≤j→H7.get j=H6.get j:=fun j hj=>by rw[hH7,i9 oM]
 have fin:StF H7 (fun j=>H.next≤j∧j<H7.next) (QR H lo K false) Rt row6 (D0 q):=by
  refine⟨w1,w2,w3,ms,hrow6,?_,?_,?_,?_⟩
  ·exact(hO1.same fun b hb=>k7 b (by have:=hO1.lt hb;omega)).frz fun b hb=>by have:=hO1.lt hb;omega
  ·exact(((hO2.same fun b hb=>k7 b (by have:=hO2.lt hb;omega)).imp fun cs p h=>h.mono (fun j hj=>k7 j (hG' j hj).1) (fun j hj=>by have:=hG' j hj;omega) iF)).frz fun b hb=>by have:=hO2.lt hb;omega
  ·exact(hO3.same fun b hb=>k7 b (by have:=hO3.lt hb;omega)).frz fun b hb=>by have:=hO3.lt hb;omega
  ·exact hp6.mono (fun j hj=>k7 j (hG' j hj).1) (fun j hj=>by have:=hG' j hj;omega) iF
 refine J11 ho f2 f3 g63 ld6 g62 a6 l6 sp6 hH7.symm g72 ?_;exact od fin s7 hl7 (fun h=>h)
end Go.Proofs.YtofbhlhamfkljaaGreatDoor.Ve
namespace Go.Proofs.YtofbhlhamfkljaaGreatDoor.Ve
open Go Go.RowKit
set_option linter.unusedVariables false
set_option linter.unusedSimpArgs false
set_option maxHeartbeats 0
theorem X7.refl(lo:Nat)(w:Value)(H:d9):X7 lo w H w H:=⟨i4.refl _ _,fun _ _ _=>rfl,fun _ h=> .inl h⟩
theorem X7.trans{lo:Nat}{w w1 w2:Value}{H H1 H2:d9}(h:X7 lo w H w1 H1)(k:X7 lo w1 H1 w2 H2):X7 lo w H w2 H2:=by
 have hn:=h.next;refine⟨h.stay.trans k.stay,fun j hj hw=>?_,fun b hb=>?_⟩
 ·rw[k.but j oM (fun q=>by rcases h.new j q with r|r;exact hw r;omega),h.but j hj hw]
 ·rcases k.new b hb with r|r
  ·exact h.new b r
  ·exact .inr oM
theorem X7.of{lo:Nat}(w:Value){H H1:d9}(h:i4 H.next H H1)(hlo:lo≤H.next):X7 lo w H w H1:=⟨h.weaken hlo,fun j hj _=>h.get j hj,fun _ h=> .inl h⟩
theorem X7.weaken{lo lo':Nat}{w v:Value}{H H1:d9}(h:X7 lo w H v H1)(k:lo'≤lo):X7 lo' w H v H1:=⟨h.stay.weaken k,h.but,h.new⟩
def mN{α:Type}(E:d9→(Nat→Prop)→LV→α→Prop):Prop:=∀(H H':d9)(G G':Nat→Prop)(cs:LV)(a:α),E H G cs a→(∀j,G j→H'.get j=H.get j)→(∀j,G j→G' j)→E H' G' cs a
abbrev pls(G:Nat→Prop)(H H3:d9)(j:Nat):Prop:=G j∨(H.next≤j∧j<H3.next)
structure Buf{α:Type}(sz:Nat)(E:d9→(Nat→Prop)→LV→α→Prop)(lo:Nat)(G0:Nat→Prop)(H0:d9)(w0:Value)(G:Nat→Prop)(H:d9)(w:Value)(l:List α):Prop where
 own:t7 H lo sz (E H G) w l
 up:∀j,G0 j→G j
 new:∀j,G j→G0 j∨H0.next≤j
 lt:∀j,G j→j<H.next∧¬j9 w j
 gr:X7 lo w0 H0 w H
section
variable{α:Type}{sz:Nat}{E:d9→(Nat→Prop)→List Value→α→Prop}{lo:Nat}{G0 G:Nat→Prop}{H0 H H3:d9}{w0 w:Value}{l l2:List α}
theorem Buf.next(B:Buf sz E lo G0 H0 w0 G H w l):H0.next≤H.next:=B.gr.next
theorem Buf.get(B:Buf sz E lo G0 H0 w0 G H w l)(h0:∀j,G0 j→j<H0.next∧¬j9 w0 j) (j:Nat) (hj:G0 j):H.get j=H0.get j:=B.gr.but j (h0 j hj).1 (h0 j hj).2
theorem Buf.stay(hE:mN E)(B:Buf sz E lo G0 H0 w0 G H w l)(hS:i4 H.next H H3)(hlo:lo≤H.next):Buf sz E lo G0 H0 w0 (pls G H H3) H3 w l:=by
 have hn:=hS.next;have hn0:=B.next;refine⟨(B.own.keep hS).imp fun cs a h=>hE _ _ _ _ _ _ h (fun j hj=>hS.get j (B.lt j hj).1) (fun j hj=> .inl hj),fun j hj=> .inl (B.up j hj),fun j hj=>?_,fun j hj=>?_,B.gr.trans (X7.of w hS hlo)⟩
 ·rcases hj with hj|hj
  ·exact B.new j hj
  ·exact .inr oM
 ·rcases hj with hj|hj
  ·have:=B.lt j hj;exact⟨oM,this.2⟩
  ·exact⟨hj.2,fun q=>by have:=B.own.lt q;omega⟩
theorem Buf.grown(hE:mN E){w':Value}{H':d9}{l':List α}(B:Buf sz E lo G0 H0 w0 G H w l)(hO:t7 H' lo sz (E H G) w' l')(hG:X7 lo w H w' H'):Buf sz E lo G0 H0 w0 G H' w' l':=by
 have hn:=hG.next;refine⟨hO.imp fun cs a h=>hE _ _ _ _ _ _ h (fun j hj=>hG.but j (B.lt j hj).1 (B.lt j hj).2) (fun j hj=>hj),B.up,B.new,fun j hj=>⟨by have:=B.lt j hj;omega,fun q=>?_⟩,B.gr.trans hG⟩;rcases hG.new j q with r|r
 ·exact(B.lt j hj).2 r
 ·have:=B.lt j hj;omega
theorem Buf.push{P:Program}{t e:TypeId}{bytes:Nat}{z cs:LV}{a:α}(hE:mN E)(ht:P.underlying t=some (.slice e))(hs:z9 P e=some sz)(hb:A7 P e=some bytes)(hz:B8 P e=some z)(h0:0<sz)(h1:0<bytes)
  (B:Buf sz E lo G0 H0 w0 G H w l) (hcs:cs.length=sz) (hR:E H G cs a) (hr:(l.length+1)*bytes≤140737488355328) (hlo:lo≤H.next):
  Ret (C3 P (H.push (.cells cs true sz)) [t,t] w (.slice (some ⟨H.next,0,none⟩) 1 1)) (H.push (.cells cs true sz)) fun v' H'=>Buf sz E lo G0 H0 w0 G H' v' (l++[a]):=by
 obtain⟨v',h',H',r1,r2,r3,r4⟩:=B.own.push1F ht hs hb hz h0 h1 hcs hR hr hlo;exact⟨v',h',H',r1,r2,B.grown hE r3 r4⟩
theorem Buf.append{P:Program}{t e:TypeId}{bytes:Nat}{z:LV}{x:Value}(hE:mN E)(ht:P.underlying t=some (.slice e))(hs:z9 P e=some sz)(hb:A7 P e=some bytes)(hz:B8 P e=some z)(h0:0<sz)(h1:0<bytes)
  (B:Buf sz E lo G0 H0 w0 G H w l) (hx:SlF H G sz (E H G) x l2) (hr:(l.length+l2.length)*bytes≤140737488355328) (hlo:lo≤H.next):
  Ret (C3 P H [t,t] w x) H fun v' H'=>Buf sz E lo G0 H0 w0 G H' v' (l++l2):=by
 obtain⟨v',h',H',r1,r2,r3,r4⟩:=B.own.appendF ht hs hb hz h0 h1 (hx.sl fun j hj=>(B.lt j hj).1) hr hlo;exact⟨v',h',H',r1,r2,B.grown hE r3 r4⟩
theorem Buf.frz(hE:mN E)(B:Buf sz E lo G0 H0 w0 G H w l):SlF H (fun j=>G j∨j9 w j) sz (E H (fun j=>G j∨j9 w j)) w l:=
 (B.own.imp fun cs a h=>hE _ _ _ _ _ _ h (fun _ _=>rfl) fun j hj=> .inl hj).frz fun b hb=> .inr hb
theorem Buf.start(hlo:∀j,G0 j→j<H0.next∧¬j9 w0 j) (hO:t7 H0 lo sz (E H0 G0) w0 l):Buf sz E lo G0 H0 w0 G0 H0 w0 l:=⟨hO,fun _ h=>h,fun _ h=> .inl h,hlo,X7.refl _ _ _⟩
theorem Buf.trans{G1:Nat→Prop}{H1:d9}{w1:Value}{l1:List α}(B:Buf sz E lo G0 H0 w0 G H w l)(C:Buf sz E lo G H w G1 H1 w1 l1):Buf sz E lo G0 H0 w0 G1 H1 w1 l1:=by
 have hn:=B.next;refine⟨C.own,fun j hj=>C.up j (B.up j hj),fun j hj=>?_,C.lt,B.gr.trans C.gr⟩;rcases C.new j hj with r|r
 ·exact B.new j r
 ·exact .inr oM
end
end Go.Proofs.YtofbhlhamfkljaaGreatDoor.Ve
namespace Go.Proofs.YtofbhlhamfkljaaGreatDoor.Ve
open Go Go.RowKit
open Go.Proofs.Tryz (prog)
set_option linter.unusedVariables false
set_option linter.unusedSimpArgs false
set_option maxRecDepth 1000000
set_option maxHeartbeats 0
abbrev NmQ:Type:=ByteArray×ByteArray
def atE(a:AtD):LV:=[.string a.space,.string a.loc,.string a.val]
def EvF(H:d9)(F:Nat→Prop)(cs:LV)(e:EvD):Prop:=∃v,cs=[iV e.kind,.string e.space,.string e.loc,v,.string e.text]∧SlF H F 3 (v8 atE) v e.attrs
theorem w9:mN EvF:=fun H H' G G' cs a h hg hG=>by obtain⟨v,h1,h2⟩:=h;exact⟨v,h1,h2.mono hg hG iF⟩
def atV(n:NmQ)(e:EvD)(v:ByteArray):EvD:={e with attrs:=e.attrs++[⟨n.1,n.2,v⟩]}
def rl(n:NmQ)(vs:List ByteArray)(e:EvD):List EvD:=e::vs.map (atV n e)
def az(n:NmQ)(vs:List ByteArray)(l:List EvD):List EvD:=l.flatMap (rl n vs)
def Q8(vs:List ByteArray):List ByteArray:=vs++[if V0 vs eB then dg (T7 vs) else eB]
def cU:List (NmQ×List ByteArray)→List EvD→Option (List EvD)
 |[],l=>some l
 |x::r,l=>if(az x.1 (Q8 x.2) l).length>24 then none else cU r (az x.1 (Q8 x.2) l)
def Y4(n:NmQ):EvD:=⟨1,n.1,n.2,[],eB⟩
def bZ(s:ByteArray):EvD:=⟨2,eB,eB,[],s⟩
def dm(s:SpD):List NmQ→List EvD→Option (List EvD)
 |[],acc=>some acc
 |n::r,acc=>match cU (s.attrs.zip s.vals) [Y4 n]with
  |none=>none
  |some l=>dm s r (acc++l)
def S8(s:SpD):Option (List EvD):=match dm s (s.names++[zNm (Q4 s.names)]) []with
 |none=>none
 |some l=>if(l++(s.texts++[dg (T7 s.texts)]).map bZ).length>24 then none else some (l++(s.texts++[dg (T7 s.texts)]).map bZ)
theorem ag3(G0:Nat→Prop)(H0:d9)(lo b4:Nat)(w0:Value)(hlo:lo≤H0.next)(hG0:∀j,G0 j→j<H0.next∧¬j9 w0 j) (v1 v3 v4:Value) (aa:Option Addr) (at_:List NmQ) (ac:Nat) (gb4:H0.get b4=cE [v1,.slice aa at_.length ac,v3,v4] 1) (gG:G0 b4) (hva:SlF H0 G0 2 (v8 nmE) (.slice aa at_.length ac) at_) (k:Nat) (hk:k<at_.length) (n:NmQ) (hn:at_[k]?=some n) (hat:at_.length≤100000)
  (va:Option Addr) (vc:Nat) (vs:List ByteArray) (hvs:SlF H0 G0 1 (v8 stE) (.slice va vs.length vc) vs) (hvl:vs.length≤100000) (la:Option Addr) (l:List EvD) (lc:Nat) (hl:SlF H0 G0 5 (EvF H0 G0) (.slice la l.length lc) l) (j:Nat) (e0:EvD) (hj:l[j]?=some e0) (hll:l.length≤100000) (he0:e0.attrs.length≤100000) (p5 p6 p7:Value) (res:List EvD) (hres:res.length≤10000000):
  ∀kk e H2,(∃(i:Nat)(w:Value)(G:Nat→Prop)(es:List EvD),kk=vs.length-i∧i≤vs.length∧e.get 4=pT b4∧e.get 5=p5∧e.get 6=p6∧e.get 7=p7∧e.get 8= .slice la l.length lc∧e.get 9=iV k∧e.get 10= .slice va vs.length vc∧e.get 11=w∧e.get 12=iV j∧e.get 13=iV i∧Buf 5 EvF lo G0 H0 w0 G H2 w es∧es++(vs.drop i).map (atV n e0)=res)→
  u9 (LE prog t6 (.loop FA) e H2) (fun o e H2=>o= .exit 6∧e.get 4=pT b4∧e.get 5=p5∧e.get 6=p6∧e.get 7=p7∧e.get 8= .slice la l.length lc∧e.get 9=iV k∧e.get 10= .slice va vs.length vc∧e.get 12=iV j∧∃(w:Value)(G:Nat→Prop),e.get 11=w∧Buf 5 EvF lo G0 H0 w0 G H2 w res):=by
 refine j7 _ _ ?_;rintro kk e H2 ⟨i,w,G,es,hkk,hi,f4,f5,f6,f7,f8,f9,f10,f11,f12,f13,B,fu⟩;rcases b:decide ((i:Int)<vs.length)with _|_
 ·have hb':=dF b;have:vs.drop i=[]:=dN oM;rw[this,List.map_nil,List.append_nil]at fu;subst fu;refine J3 f10 f13 b ?_;exact l7 ⟨rfl,f4,f5,f6,f7,f8,f9,f10,f12,w,G,f11,B⟩
 have hb':=dT b;have hlj:j<l.length:=(List.getElem?_eq_some_iff.1 hj).1;have B0:=fun j hj=>B.get hG0 j hj;have nx:=B.next;have hlo2:lo≤H2.next:=oM;obtain⟨v,nb,o,cs,own,elv,hx,hd,rfl,hF,hg,hle,hrow,hc,rfl⟩:=hvs.row (i:=i) oM;obtain⟨e',nbl,ol,csl,ownl,ele,hxl,hdl,rfl,hFl,hgl,hlel,hrowl,hcl,hRl⟩:=hl.row (i:=j) hlj;obtain rfl:e0=e':=Option.some.inj (hj.symm.trans hxl);obtain⟨n',nba,oa,csa,owna,ela,hxa,hda,rfl,hFa,hga,hlea,hrowa,hca,rfl⟩:=hva.row (i:=k) hk;obtain rfl:n=n':=Option.some.inj (hn.symm.trans hxa);have nti:(i:Int).toNat=i:=tN i;have ntj:(j:Int).toNat=j:=tN j;have ntk:(k:Int).toNat=k:=tN k;rw[hd,List.map_cons,List.append_cons]at fu;obtain⟨av,rfl,hav⟩:=hRl;obtain⟨ava,avc,rfl⟩:=hav.slice;obtain⟨erow,herow⟩:∃r:LV,r=[iV e0.kind,.string e0.space,.string e0.loc,.slice ava e0.attrs.length avc,.string e0.text]:=⟨_,rfl⟩
 rw[←herow]at hrowl;have g2l:=(B0 _ hFl).trans hgl;have er3:erow[3]?=some (.slice ava e0.attrs.length avc):=by rw[herow];rfl
 have aer:erow.all Value.oneCell'=true:=by rw[herow];rfl
 have ler:erow.length=5:=by rw[herow];rfl
 obtain⟨K0,hK0⟩:∃K0,K0=(H2.push (.cells [iV 0,.string eB,.string eB,nS,.string eB] true 1)).put H2.next (.cells erow true 1):=⟨_,rfl⟩
 have sprow:splice [iV 0,.string eB,.string eB,nS,.string eB] 0 erow=erow:=w7 _ _ (by rw[ler];rfl);have n0:K0.next=H2.next+1:=by rw[hK0,j5,i5]
 have s0:i4 H2.next H2 K0:=by rw[hK0];exact(i4.push lR).trans (i4.put lR)
 obtain⟨K1,hK1,n1,-⟩:=pushE K0 (.cells [] true 3);have s1:i4 K0.next K0 K1:=by rw[hK1];exact i4.push lR
 have K0g:∀j,G0 j→K0.get j=H0.get j:=fun j hj=>by rw[s0.get j (by have:=hG0 j hj;omega),B0 j hj]
 have K1g:∀j,G0 j→K1.get j=H0.get j:=fun j hj=>by rw[s1.get j (by have:=hG0 j hj;omega),K0g j hj]
 have hOa:t7 K1 K0.next 3 (v8 atE) (.slice (some ⟨K0.next,0,none⟩) 0 0) []:=by rw[hK1];exact t7.fresh rfl lR D2.nil
 obtain⟨w1,h1,K2,ha1,hge1,hOb,s2⟩:=hOa.append (P:=prog) (t:=49) (n:=K1.next) (by exact yM.2.2.2.2.2.2) ik.1 ik.2.1 ik.2.2.1 oM oM (hav.mono (F':=(· <K1.next)) K1g (fun j hj=>by have:=hG0 j hj;omega) iF) (by simp;omega) oM;have n2:=s2.next;have K2g:∀j,G0 j→K2.get j=H0.get j:=fun j hj=>by rw[s2.get j (by have:=hG0 j hj;omega),K1g j hj]
 obtain⟨w2,h2,K4,ha2,hge2,hOc,hG4⟩:=hOb.push1F (P:=prog) (t:=49) (cs:=[.string n.1,.string n.2,.string v]) (a:=⟨n.1,n.2,v⟩) (by exact yM.2.2.2.2.2.2) ik.1 ik.2.1 ik.2.2.1 oM oM rfl rfl (by simp;omega) oM;have n4:=hG4.next;obtain⟨K3,hK3⟩:∃K3,K3=K2.push (.cells [.string n.1,.string n.2,.string v] true 3):=⟨_,rfl⟩
 rw[←hK3]at ha2 hge2;have e0g0:K0.get H2.next=cE erow 1:=by rw[hK0];exact i8 (by rw[i5];omega)
 have e0g1:K1.get H2.next=cE erow 1:=(s1.get _ oM).trans e0g0;have e0g2:K2.get H2.next=cE erow 1:=(s2.get _ oM).trans e0g1;have e0g3:K3.get H2.next=cE erow 1:=by rw[hK3,j6 oM];exact e0g2
 have e0g4:K4.get H2.next=cE erow 1:=(hG4.but _ oM (fun q=>by have:=hOb.lt q;omega)).trans e0g2;have xb0:=(K0g b4 gG).trans gb4;have xb1:=(K1g b4 gG).trans gb4;have xb2:=(K2g b4 gG).trans gb4;have xa0:=(K0g nba hFa).trans hga;have xa1:=(K1g nba hFa).trans hga;have xa2:=(K2g nba hFa).trans hga;have xv0:=(K0g nb hF).trans hg;have xv1:=(K1g nb hF).trans hg;have xv2:=(K2g nb hF).trans hg;have cv0:=hc 0 oM;rw[Nat.add_zero]at cv0;obtain⟨a2,c2,ew2⟩:=hOc.slice;have cw2:w2.cells.toList=[w2]:=by rw[ew2];rfl
 have ow2:Value.oneCell' w2=true:=by rw[ew2];rfl
 obtain⟨erow2,herow2⟩:∃r:LV,r=[iV e0.kind,.string e0.space,.string e0.loc,w2,.string e0.text]:=⟨_,rfl⟩
 have spr2:splice erow 3 [w2]=erow2:=by rw[herow,herow2];rfl
 have ler2:erow2.length=5:=by rw[herow2];rfl
 have ld2:ldC (some true) (some 5) 0 erow2=some (.agg erow2.toArray):=by rw[herow2,ew2];rfl
 obtain⟨K5,hK5⟩:∃K5,K5=K4.put H2.next (.cells erow2 true 1):=⟨_,rfl⟩
 have n5:K5.next=K4.next:=by rw[hK5,j5]
 have e0g5:K5.get H2.next=cE erow2 1:=by rw[hK5];exact i8 oM
 have s5:i4 H2.next H2 K5:=((s0.trans (s1.weaken oM)).trans (s2.weaken oM)).trans ((hG4.stay.weaken oM).trans (by rw[hK5];exact i4.put oM));have B5:=B.stay w9 s5 hlo2;have hE5:EvF K5 (pls G H2 K5) erow2 (atV n e0 v):=⟨w2,herow2,((hOc.same (H':=K5) fun b hb=>by have:=hOc.lt hb;rw[hK5,i9 oM]).frz fun b hb=>by have:=hOc.lt hb;exact .inr oM)⟩
 obtain⟨w6,h6,H6,ha6,hge6,B6⟩:=B5.push (P:=prog) (t:=35) w9 (by exact uT.2.2.2.2.2.2) aG.1 aG.2.1 aG.2.2.1 oM oM ler2 hE5 (by have:=congrArg List.length fu;simp at this;omega) oM;have n6:=B6.next;have bsl:∀Hx:d9,bsA prog (some 51) Hx 1 [(0,.agg erow2.toArray)]=some (.slice (some ⟨Hx.next,0,none⟩) 1 1,Hx.push (.cells erow2 true 5)):=fun Hx=>by
  rw[herow2,ew2];simp only[C7,aG,C8];rfl
 refine J30 f4 f8 f9 f10 f11 f12 f13 b g2l nti (And.intro ntj ntk) (And.intro hrowl aer) (And.intro ler sprow) (And.intro hK0.symm hK1.symm) (And.intro e0g0 e0g1) (And.intro e0g2 e0g3) (And.intro e0g4 er3) (And.intro ha1 hge1) (And.intro xb0 xb1) (And.intro xb2 xa0) (And.intro xa1 xa2) (And.intro xv0 xv1) (And.intro xv2 hrowa) (And.intro cv0 hK3.symm) (And.intro ha2 hge2) (And.intro cw2 ow2) (And.intro spr2 hK5.symm) (And.intro e0g5 ld2) (And.intro bsl ha6) (And.intro hge6 @wrap_small) ?_;exact i6 (kk-1) oM ⟨i+1,w6,_,es++[atV n e0 v],oM,oM,f4,f5,f6,f7,f8,f9,f10,rfl,f12,rfl,B6,fu⟩
theorem ag4(G0:Nat→Prop)(H0:d9)(lo b4:Nat)(w0:Value)(hlo:lo≤H0.next)(hG0:∀j,G0 j→j<H0.next∧¬j9 w0 j) (v1 v3 v4:Value) (aa:Option Addr) (at_:List NmQ) (ac:Nat) (gb4:H0.get b4=cE [v1,.slice aa at_.length ac,v3,v4] 1) (gG:G0 b4) (hva:SlF H0 G0 2 (v8 nmE) (.slice aa at_.length ac) at_) (k:Nat) (hk:k<at_.length) (n:NmQ) (hn:at_[k]?=some n) (hat:at_.length≤100000)
  (va:Option Addr) (vc:Nat) (vs:List ByteArray) (hvs:SlF H0 G0 1 (v8 stE) (.slice va vs.length vc) vs) (hvl:vs.length≤100000) (la:Option Addr) (l:List EvD) (lc:Nat) (hl:SlF H0 G0 5 (EvF H0 G0) (.slice la l.length lc) l) (hll:l.length≤100000) (hla:∀x∈l,x.attrs.length≤100000) (p5 p6 p7:Value) (res:List EvD) (hres:res.length≤10000000):
  ∀kk e H2,(∃(j:Nat)(w:Value)(G:Nat→Prop)(es:List EvD),kk=l.length-j∧j≤l.length∧e.get 4=pT b4∧e.get 5=p5∧e.get 6=p6∧e.get 7=p7∧e.get 8= .slice la l.length lc∧e.get 9=iV k∧e.get 10= .slice va vs.length vc∧e.get 11=w∧e.get 12=iV j∧Buf 5 EvF lo G0 H0 w0 G H2 w es∧es++az n vs (l.drop j)=res)→
  u9 (LE prog t6 (.loop FB) e H2) (fun o e H2=>o= .exit 4∧e.get 4=pT b4∧e.get 5=p5∧e.get 6=p6∧e.get 7=p7∧e.get 9=iV k∧∃(w:Value)(G:Nat→Prop),e.get 11=w∧Buf 5 EvF lo G0 H0 w0 G H2 w res):=by
 refine j7 _ _ ?_;rintro kk e H2 ⟨j,w,G,es,hkk,hi,f4,f5,f6,f7,f8,f9,f10,f11,f12,B,fu⟩;rcases b:decide ((j:Int)<l.length)with _|_
 ·have hb':=dF b;have:l.drop j=[]:=dN oM;rw[this,az,List.flatMap_nil,List.append_nil]at fu;subst fu;refine J3 f8 f12 b ?_;exact l7 ⟨rfl,f4,f5,f6,f7,f9,w,G,f11,B⟩
 have hb':=dT b;have B0:=fun j hj=>B.get hG0 j hj;have nx:=B.next;obtain⟨e0,nb,o,cs,own,erow,hx,hd,rfl,hF,hg,hle,hrow,hc,hR⟩:=hl.row (i:=j) oM;have ntj:(j:Int).toNat=j:=tN j;rw[hd,az,List.flatMap_cons,rl,List.cons_append,List.append_cons]at fu;have g2:=(B0 _ hF).trans hg;have hR2:EvF H2 G erow e0:=w9 _ _ _ _ _ _ hR B0 B.up;obtain⟨av,hre,hav⟩:=hR2;obtain⟨ava,avc,eav⟩:=hav.slice;have ler:erow.length=5:=by rw[hre];rfl
 obtain⟨w1,h1,H3,ha1,hge1,B1⟩:=B.push (P:=prog) (t:=35) w9 (by exact uT.2.2.2.2.2.2) aG.1 aG.2.1 aG.2.2.1 oM oM ler ⟨av,hre,hav⟩ (by have:=congrArg List.length fu;simp at this;omega) oM;have bsl:∀Hx:d9,bsA prog (some 51) Hx 1 [(0,.agg erow.toArray)]=some (.slice (some ⟨Hx.next,0,none⟩) 1 1,Hx.push (.cells erow true 5)):=fun Hx=>by
  rw[hre,eav];simp only[C7,aG,C8];rfl
 have n1:=B1.gr.next;have G1:∀j,G j→j<H3.next∧¬j9 w1 j:=B1.lt;have B13:=fun j(hj:G0 j)=>(B1.get hG0 j hj)
 refine J10 f8 f11 f12 b g2 ntj hrow bsl ha1 hge1 ?_;refine l9 (F:=fun z=>u9 (u7 (inBlock 5 (inBlock 6 z)) _) _) (ag3 G H3 lo b4 w1 oM G1 v1 v3 v4 aa at_ ac ((B13 b4 gG).trans gb4) (B.up _ gG) (hva.mono B13 B.up iF) k hk n hn hat va vc vs (hvs.mono B13 B.up iF) hvl _ l lc (hl.mono B13 B.up (fun _ _ h=>w9 _ _ _ _ _ _ h B13 B.up)) j e0 hx hll (hla e0 (List.mem_of_getElem? hx)) p5 p6 p7 (es++[e0]++vs.map (atV n e0)) (by have:=congrArg List.length fu;simp at this ⊢;omega) vs.length _ _ ⟨0,w1,G,es++[e0],rfl,oM,f4,f5,f6,f7,f8,f9,f10,rfl,f12,rfl,Buf.start G1 B1.own,rfl⟩) ?_;rintro o' e' H4 ⟨ho,g4,g5,g6,g7,g8,g9,g10,g12,w4,G4,g11,B4⟩;refine J3 ho g12 @wrap_small ?_;exact i6 (kk-1) oM ⟨j+1,w4,G4,_,oM,oM,g4,g5,g6,g7,g8,g9,g10,g11,rfl,B1.trans B4,by rw[←fu,az];simp⟩
theorem iJ(n:NmQ)(vs:List ByteArray):∀l:List EvD,(az n vs l).length=l.length*(vs.length+1)
 |[]=>by simp [az]
 |x::l=>by
  have:=iJ n vs l;rw[az]at this ⊢;rw[List.flatMap_cons,List.length_append,this,rl,List.length_cons,List.length_map,List.length_cons,Nat.succ_mul];omega
theorem Bq(n:NmQ)(vs:List ByteArray)(k:Nat)(l:List EvD)(h:∀x∈l,x.attrs.length≤k):∀x∈az n vs l,x.attrs.length≤k+1:=by
 intro x hx;rw[az]at hx;obtain⟨y,hy,hx⟩:=List.mem_flatMap.1 hx;have:=h y hy;rw[rl,List.mem_cons]at hx;rcases hx with rfl|hx
 ·omega
 ·obtain⟨v,_,rfl⟩:=List.mem_map.1 hx;simp [atV];omega
theorem eO{α β:Type}:∀(a:List α)(b:List β)(k:Nat),(a.zip b).drop k=(a.drop k).zip (b.drop k)
 |a,b,0=>rfl
 |[],b,k+1=>by simp
 |x::a,[],k+1=>by simp
 |x::a,y::b,k+1=>by simpa using eO a b k
theorem ag5(G0:Nat→Prop)(H0:d9)(b4:Nat)(hG0:∀j,G0 j→j<H0.next) (v1 v4:Value) (aa:Option Addr) (at_:List NmQ) (ac:Nat) (ba:Option Addr) (vals:List (List ByteArray)) (bc:Nat) (hlen:vals.length=at_.length) (gb4:H0.get b4=cE [v1,.slice aa at_.length ac,.slice ba vals.length bc,v4] 1) (gG:G0 b4) (hva:SlF H0 G0 2 (v8 nmE) (.slice aa at_.length ac) at_) (hvv:SlF H0 G0 1 (VlF H0 G0) (.slice ba vals.length bc) vals) (hat:at_.length≤1000) (hvl:∀x∈vals,x.length≤10000)
  (p5 p6 p7:Value) (res:Option (List EvD)):
  ∀kk e H2,(∃(k:Nat)(l:List EvD)(w8:Value)(G:Nat→Prop),kk=at_.length-k∧k≤at_.length∧e.get 4=pT b4∧e.get 5=p5∧e.get 6=p6∧e.get 7=p7∧e.get 8=w8∧e.get 9=iV k∧i4 H0.next H0 H2∧(∀j,G0 j→G j)∧(∀j,G j→G0 j∨H0.next≤j)∧(∀j,G j→j<H2.next)∧SlF H2 G 5 (EvF H2 G) w8 l∧l.length≤24∧(∀x∈l,x.attrs.length≤k)∧cU ((at_.zip vals).drop k) l=res)→
  u9 (LE prog t6 (.loop FC) e H2) (fun o e H2=>i4 H0.next H0 H2∧((o= .exit 2∧e.get 4=pT b4∧e.get 5=p5∧e.get 6=p6∧e.get 7=p7∧∃(l:List EvD)(w8:Value)(G:Nat→Prop),res=some l∧l.length≤24∧e.get 8=w8∧(∀j,G0 j→G j)∧(∀j,G j→G0 j∨H0.next≤j)∧(∀j,G j→j<H2.next)∧SlF H2 G 5 (EvF H2 G) w8 l)∨(o= .ret∧res=none∧e.get 2=nS∧e.get 3=iV 13))):=by
 refine j7 _ _ ?_;rintro kk e H2 ⟨k,l,w8,G,hkk,hi,f4,f5,f6,f7,f8,f9,hS,hG1,hG2,hG3,hl,hll,hla,fu⟩;have gb2:=(hS.get b4 (hG0 _ gG)).trans gb4;rcases b:decide ((k:Int)<at_.length)with _|_
 ·have hb':=dF b;have:(at_.zip vals).drop k=[]:=dN (by rw[List.length_zip];omega);rw[this,cU]at fu;refine J4 f4 f9 gb2 b ?_;exact l7 ⟨hS,.inl ⟨rfl,f4,f5,f6,f7,l,w8,G,fu.symm,hll,f8,hG1,hG2,hG3,hl⟩⟩
 have hb':=dT b;have hn2:=hS.next;obtain⟨n,nba,oa,csa,owna,ela,hxa,hda,rfl,hFa,hga,hlea,hrowa,hca,rfl⟩:=hva.row (i:=k) oM;obtain⟨vs,nbv,ov,csv,ownv,elv,hxv,hdv,rfl,hFv,hgv,hlev,hrowv,hcv,⟨vv,rfl,hvs⟩⟩:=hvv.row (i:=k) oM;have ntk:(k:Int).toNat=k:=tN k;have hvs0:=hvl vs (List.mem_of_getElem? hxv);have hdz:(at_.zip vals).drop k=(n,vs)::(at_.zip vals).drop (k+1):=by
  rw[eO,hda,hdv,List.zip_cons_cons,eO]
 rw[hdz,cU]at fu
 dsimp only at fu
 have cv0:=hcv 0 oM;rw[Nat.add_zero]at cv0;obtain⟨vva,vvc,rfl⟩:=hvs.slice;obtain⟨la,lc,rfl⟩:=hl.slice;obtain⟨K1,hK1,n1,-⟩:=pushE H2 (.cells [] true 1);have s1:i4 H2.next H2 K1:=by rw[hK1];exact i4.push lR
 have K1g:∀j,G0 j→K1.get j=H0.get j:=fun j hj=>by rw[s1.get j (by have:=hG0 j hj;omega),hS.get j (hG0 j hj)]
 have hOa:t7 K1 H2.next 1 (v8 stE) (.slice (some ⟨H2.next,0,none⟩) 0 0) []:=by rw[hK1];exact t7.fresh rfl lR D2.nil
 obtain⟨w1,h1,K2,ha1,hge1,hOb,s2⟩:=hOa.append (P:=prog) (t:=97) (n:=K1.next) (by exact aH.2.2.2.2.2.2) ty9.1 ty9.2.1 ty9.2.2.1 oM oM (hvs.mono (F':=(· <K1.next)) K1g (fun j hj=>by have:=hG0 j hj;omega) iF) (by simp;omega) oM;have n2:=s2.next;rw[List.nil_append]at hOb;have hhas:=tw K2 K2.next w1 vs eB lR hOb.sl oM;have hnum:=gW K2 K2.next w1 vs lR hOb.sl oM;rw[show(vs.any fun y=>ci y eB)=V0 vs eB from rfl]at hhas;obtain⟨x,hx⟩:∃x,x=if V0 vs eB then dg (T7 vs) else eB:=⟨_,rfl⟩
 obtain⟨w2,h2,K4,ha2,hge2,hOc,hG4⟩:=hOb.push1F (P:=prog) (t:=97) (cs:=[.string x]) (a:=x) (by exact aH.2.2.2.2.2.2) ty9.1 ty9.2.1 ty9.2.2.1 oM oM rfl rfl oM oM;rw[show vs++[x]=Q8 vs by rw[hx];rfl]at hOc;have n4:=hG4.next;have s4:i4 H2.next H2 K4:=(s1.trans s2).trans hG4.stay;have lve:(Q8 vs).length=vs.length+1:=by simp [Q8]
 have e1g:=(K1g b4 gG).trans gb4;have x1v:=(K1g nbv hFv).trans hgv;have n4':H2.next≤K4.next:=oM;obtain⟨va2,vc2,ew2⟩:=hOc.slice;have lm:=iJ n (Q8 vs) l;have lmm:(az n (Q8 vs) l).length≤10000000:=by
  rw[lm,lve];have:=Nat.mul_le_mul hll (show vs.length+1+1≤10002 from oM);omega
 have K4g:∀j,G0 j→K4.get j=H0.get j:=fun j hj=>by rw[s4.get j (by have:=hG0 j hj;omega),hS.get j (hG0 j hj)]
 have G1lt:∀j,pls G H2 K4 j→j<K4.next∧¬j9 (nS) j:=fun j hj=>⟨by
  rcases hj with hj|hj
  ·have:=hG3 j hj;omega
  ·exact hj.2,A9 j⟩
 have up1:∀j,G0 j→pls G H2 K4 j:=fun j hj=> .inl (hG1 j hj);have kG4:∀j,G j→K4.get j=H2.get j:=fun j hj=>s4.get j (hG3 j hj);rcases b2:V0 vs eB with _|_
 all_goals
  rw[b2]at hhas;simp only[b2,if_true,Bool.false_eq_true,if_false]at hx;subst hx;refine J15 f4 f9 gb2 b hK1.symm e1g x1v ntk cv0 ha1 hge1 hhas hnum ha2 hge2 ?_;refine l9 (F:=fun z=>u9 (u7 (inBlock 3 (u7 (inBlock 4 z) _)) _) _) (ag4 (pls G H2 K4) K4 K4.next b4 (nS) lR G1lt v1 _ v4 _ at_ ac ((K4g b4 gG).trans gb4) (up1 _ gG) (hva.mono K4g up1 iF) k oM n hxa oM va2 vc2 (Q8 vs) (by rw[←ew2];exact hOc.frz fun b hb=>by have:=hOc.lt hb;exact .inr oM) oM la l lc (hl.mono kG4 (fun j hj=> .inl hj) (fun _ _ h=>w9 _ _ _ _ _ _ h kG4 (fun j hj=> .inl hj))) oM (fun x hx=>by have:=hla x hx;omega) p5 p6 p7 (az n (Q8 vs) l) lmm l.length _ _ ⟨0,nS,_,[],rfl,oM,f4,f5,f6,f7,f8,f9,ew2,rfl,rfl,Buf.start G1lt t7.nil,rfl⟩) ?_;rintro o' e' H5 ⟨ho,g4,g5,g6,g7,g9,w5,G5,g11,B5⟩;obtain⟨wa,wc,ew5⟩:=B5.own.slice;have n5:=B5.next;have s5:i4 H0.next H0 H5:=(hS.trans (s4.weaken oM)).trans (B5.gr.stay.weaken oM);rw[ew5]at g11;rcases b3:decide ((24:Int)<((az n (Q8 vs) l).length:Nat))with _|_
  ·have hb3:=dF b3;rw[if_neg oM]at fu;refine J5 ho g9 g11 b3 @wrap_small ?_;refine i6 (kk-1) oM ⟨k+1,_,w5,_,oM,oM,g4,g5,g6,g7,ew5.symm,rfl,s5,fun j hj=> .inl (B5.up j (up1 j hj)),fun j hj=>?_,fun j hj=>?_,B5.frz w9,oM,Bq n _ k l hla,fu⟩
   ·rcases hj with hj|hj
    ·rcases B5.new j hj with r|r
     ·rcases r with r|r
      ·exact hG2 j r
      ·exact .inr oM
     ·exact .inr oM
    ·have:=B5.own.lt hj;exact .inr oM
   ·rcases hj with hj|hj
    ·exact(B5.lt j hj).1
    ·exact(B5.own.lt hj).2
  ·have hb3:=dT b3;rw[if_pos oM]at fu;refine J3 ho g11 b3 ?_;exact A6 ⟨s5,.inr ⟨rfl,fu.symm,rfl,rfl⟩⟩
theorem ag6(G0:Nat→Prop)(H0:d9)(b4:Nat)(hG0:∀j,G0 j→j<H0.next) (s:SpD) (v1 v4:Value) (aa:Option Addr) (ac:Nat) (ba:Option Addr) (bc:Nat) (hlen:s.vals.length=s.attrs.length) (gb4:H0.get b4=cE [v1,.slice aa s.attrs.length ac,.slice ba s.vals.length bc,v4] 1) (gG:G0 b4) (hva:SlF H0 G0 2 (v8 nmE) (.slice aa s.attrs.length ac) s.attrs) (hvv:SlF H0 G0 1 (VlF H0 G0) (.slice ba s.vals.length bc) s.vals) (hat:s.attrs.length≤1000) (hvl:∀x∈s.vals,x.length≤10000)
  (na:Option Addr) (nc:Nat) (ns:List NmQ) (hns:SlF H0 G0 2 (v8 nmE) (.slice na ns.length nc) ns) (hnl:ns.length≤10000) (res:Option (List EvD)):
  ∀kk e H2,(∃(i:Nat)(w:Value)(acc:List EvD)(G:Nat→Prop),kk=ns.length-i∧i≤ns.length∧e.get 4=pT b4∧e.get 5=w∧e.get 6= .slice na ns.length nc∧e.get 7=iV i∧Buf 5 EvF H0.next G0 H0 (nS) G H2 w acc∧acc.length≤24*i∧dm s (ns.drop i) acc=res)→
  u9 (LE prog t6 (.loop FD) e H2) (fun o e H2=>(o= .exit 0∧e.get 4=pT b4∧∃(w:Value)(acc:List EvD)(G:Nat→Prop),res=some acc∧acc.length≤24*ns.length∧e.get 5=w∧Buf 5 EvF H0.next G0 H0 (nS) G H2 w acc)∨(i4 H0.next H0 H2∧o= .ret∧res=none∧e.get 2=nS∧e.get 3=iV 13)):=by
 refine j7 _ _ ?_;rintro kk e H2 ⟨i,w,acc,G,hkk,hi,f4,f5,f6,f7,B,hacc,fu⟩;have hG0':∀j,G0 j→j<H0.next∧¬j9 (nS) j:=fun j hj=>⟨hG0 j hj,A9 j⟩
 have B0:=fun j hj=>B.get hG0' j hj;have nx:=B.next;rcases b:decide ((i:Int)<ns.length)with _|_
 ·have hb':=dF b;have:ns.drop i=[]:=dN oM;rw[this,dm]at fu;refine J3 f6 f7 b ?_;exact l7 (.inl ⟨rfl,f4,w,acc,G,fu.symm,oM,f5,B⟩)
 have hb':=dT b;obtain⟨n,nb,o,cs,own,el,hx,hd,rfl,hF,hg,hle,hrow,hc,rfl⟩:=hns.row (i:=i) oM;have nti:(i:Int).toNat=i:=tN i;have g2:=(B0 _ hF).trans hg;rw[hd,dm]at fu;obtain⟨row,hrow5⟩:∃r:LV,r=[iV 1,.string n.1,.string n.2,nS,.string eB]:=⟨_,rfl⟩
 obtain⟨H3,hH3,n3,-⟩:=pushE H2 (.cells row true 5);have s3:i4 H2.next H2 H3:=by rw[hH3];exact i4.push lR
 have rows:splice [iV 1,Value.string eB,Value.string eB,nS,Value.string eB] 1 (nmE n)=row:=by rw[hrow5];rfl
 have lrow:row.length=5:=by rw[hrow5];rfl
 have arow:row.all Value.oneCell'=true:=by rw[hrow5];rfl
 have anm:(nmE n).all Value.oneCell'=true:=rfl;have hH3':H3=H2.push (.cells [iV 1,.string n.1,.string n.2,nS,.string eB] true 5):=by rw[hH3,hrow5]
 have B3:=fun j(hj:G0 j)=>(s3.get j (by have:=hG0 j hj;omega)).trans (B0 j hj);have up3:∀j,G0 j→pls G H2 H3 j:=fun j hj=> .inl (B.up j hj);have G3lt:∀j,pls G H2 H3 j→j<H3.next:=fun j hj=>by
  rcases hj with hj|hj
  ·have:=B.lt j hj;omega
  ·exact hj.2
 have hO3:t7 H3 H2.next 5 (EvF H3 (pls G H2 H3)) (.slice (some ⟨H2.next,0,none⟩) 1 1) [Y4 n]:=by
  rw[hH3];exact t7.fresh rfl lR (D2.one lrow ⟨nS,hrow5,.inl ⟨rfl,rfl⟩⟩)
 have hl3:SlF H3 (pls G H2 H3) 5 (EvF H3 (pls G H2 H3)) (.slice (some ⟨H2.next,0,none⟩) 1 1) [Y4 n]:=hO3.frz fun b hb=>by have:=hO3.lt hb;exact .inr this
 refine J7 f6 f7 b g2 nti hrow hH3'.symm ?_;refine l9 (F:=fun z=>u9 (u7 (inBlock 1 (u7 (inBlock 2 z) _)) _) _) (ag5 (pls G H2 H3) H3 b4 G3lt v1 v4 aa s.attrs ac ba s.vals bc hlen ((B3 b4 gG).trans gb4) (up3 _ gG) (hva.mono B3 up3 iF) (hvv.mono B3 up3 (fun _ _ h=>h.mono B3 up3)) hat hvl w _ _ (cU (s.attrs.zip s.vals) [Y4 n]) s.attrs.length _ _ ⟨0,[Y4 n],_,_,rfl,oM,f4,f5,f6,f7,rfl,rfl,i4.refl _ _,fun _ h=>h,fun _ h=> .inl h,G3lt,hl3,by simp,by simp [Y4],rfl⟩) ?_;rintro o' e' H5 ⟨s5,⟨ho,g4,g5,g6,g7,l,w8,G5,hres,hl24,g8,h1,h2,h3,hl5⟩|⟨ho,hres,g2',g3'⟩⟩
 ·rw[hres]at fu
  dsimp only at fu
  have n5:=s5.next;have s25:i4 H2.next H2 H5:=s3.trans (s5.weaken oM);have B5:=B.stay w9 s25 nx;have sub5:∀j,G5 j→pls G H2 H5 j:=fun j hj=>by
   have:=h3 j hj;rcases h2 j hj with r|r
   ·rcases r with r|r
    ·exact .inl r
    ·exact .inr ⟨r.1,this⟩
   ·exact .inr ⟨oM,this⟩
  obtain⟨w6,h6,H6,ha6,hge6,B6⟩:=B5.append (P:=prog) (t:=35) w9 (by exact uT.2.2.2.2.2.2) aG.1 aG.2.1 aG.2.2.1 oM oM (hl5.mono (fun _ _=>rfl) sub5 (fun _ _ h=>w9 _ _ _ _ _ _ h (fun _ _=>rfl) sub5)) oM oM;refine J7 ho g5 g7 g8 ha6 hge6 @wrap_small ?_;exact i6 (kk-1) oM ⟨i+1,w6,acc++l,_,oM,oM,g4,rfl,g6,rfl,B6,by rw[List.length_append];omega,fu⟩
 ·rw[hres]at fu
  dsimp only at fu
  refine J1 ho ?_;have n5:=s5.next;exact A6 (.inr ⟨((B.gr.stay).trans (s3.weaken nx)).trans (s5.weaken oM),rfl,fu.symm,g2',g3'⟩)
theorem ag7(G0:Nat→Prop)(H0:d9)(w0:Value)(lo:Nat)(hlo:lo≤H0.next)(hG0:∀j,G0 j→j<H0.next∧¬j9 w0 j) (ta:Option Addr) (tc:Nat) (ts:List ByteArray) (hts:SlF H0 G0 1 (v8 stE) (.slice ta ts.length tc) ts) (htl:ts.length≤100000) (res:List EvD) (hres:res.length≤10000000):
  ∀kk e H2,(∃(i:Nat)(w:Value)(acc:List EvD)(G:Nat→Prop),kk=ts.length-i∧i≤ts.length∧e.get 5=w∧e.get 15= .slice ta ts.length tc∧e.get 16=iV i∧Buf 5 EvF lo G0 H0 w0 G H2 w acc∧acc++(ts.drop i).map bZ=res)→
  u9 (LE prog t6 (.loop FE) e H2) (fun o e H2=>o= .exit 8∧∃(w:Value)(G:Nat→Prop),e.get 5=w∧Buf 5 EvF lo G0 H0 w0 G H2 w res):=by
 refine j7 _ _ ?_;rintro kk e H2 ⟨i,w,acc,G,hkk,hi,f5,f15,f16,B,fu⟩;have B0:=fun j hj=>B.get hG0 j hj;have nx:=B.next;rcases b:decide ((i:Int)<ts.length)with _|_
 ·have hb':=dF b;have:ts.drop i=[]:=dN oM;rw[this,List.map_nil,List.append_nil]at fu;subst fu;refine J3 f15 f16 b ?_;exact l7 ⟨rfl,w,G,f5,B⟩
 have hb':=dT b;obtain⟨v,nb,o,cs,own,el,hx,hd,rfl,hF,hg,hle,hrow,hc,rfl⟩:=hts.row (i:=i) oM;have nti:(i:Int).toNat=i:=tN i;have g2:=(B0 _ hF).trans hg;rw[hd,List.map_cons,List.append_cons]at fu;have cv0:=hc 0 oM;rw[Nat.add_zero]at cv0;obtain⟨w6,h6,H6,ha6,hge6,B6⟩:=B.push (P:=prog) (t:=35) w9 (by exact uT.2.2.2.2.2.2) aG.1 aG.2.1 aG.2.2.1 oM oM (cs:=[iV 2,.string eB,.string eB,nS,.string v]) (a:=bZ v) rfl ⟨nS,rfl,.inl ⟨rfl,rfl⟩⟩ (by have:=congrArg List.length fu;simp at this;omega) oM;refine J10 f5 f15 f16 b g2 nti cv0 ha6 hge6 @wrap_small ?_;exact i6 (kk-1) oM ⟨i+1,w6,acc++[bZ v],G,oM,oM,rfl,f15,rfl,B6,fu⟩
mutual
theorem bU:∀(f:Bool)(q:Q),(fsQ f q).length≤nQ q
 |f,.mk o s c v a b=>by
  have h1:=gD f a;have h2:=gD (!f) b;rw[fsQ,nQ,List.length_append,List.length_append];split<;>simp<;>omega
theorem gD:∀(f:Bool)(l:List Q),(fsL f l).length≤nL l
 |_,[]=>by simp [fsL]
 |f,x::l=>by
  have h1:=bU f x;have h2:=gD f l;rw[fsL,nL,List.length_append];omega
end
theorem jX(q:Q):(spQ q).names.length≤nQ q∧(spQ q).attrs.length≤nQ q∧(spQ q).vals.length=(spQ q).attrs.length∧(∀x∈(spQ q).vals,x.length≤nQ q)∧(spQ q).texts.length≤nQ q:=by
 have h:=bU false q;refine⟨?_,?_,by simp [spQ],?_,?_⟩
 ·have:=cH (bI 4 4) qNm Q3 (fsQ false q) [];simp [spQ,S9]at this ⊢;omega
 ·have:=cH (bI 5 6) qNm Q3 (fsQ false q) [];simp [spQ,S9]at this ⊢;omega
 ·intro x hx;simp only[spQ,List.mem_map]at hx;obtain⟨n,_,rfl⟩:=hx;have:=cH (dv 6 n) Q.vl ci (fsQ false q) [];simp [S7]at this ⊢;omega
 ·have:=cH (dv 7 (eB,eB)) Q.vl ci (fsQ false q) [];simp [spQ,S7]at this ⊢;omega
def Oa(H:d9)(s:SpD)(w:Value)(H1:d9):Prop:=∃v er,w= .tuple #[v,iV er]∧((S8 s=none∧v=nS∧er=13)∨∃l,S8 s=some l∧er=0∧SlF H1 (· <H1.next) 5 (EvF H1 (· <H1.next)) v l)∧i4 H.next H H1
theorem uw(H:d9)(lo k:Nat)(cs:LV)(q:Q)(hlo:lo≤H.next)(hr:QR H lo k false cs q)(hok:OkD false q)(hfit:nQ q≤1000):
  Ret (CL prog t6 35 [.agg cs.toArray] H) H (Oa H (spQ q)):=by
 obtain⟨hsn,hsa,hsv,hsvl,hst⟩:=jX q;obtain⟨s,hs⟩:∃s,s=spQ q:=⟨_,rfl⟩
 rw[←hs]at hsn hsa hsv hsvl hst ⊢;have a0:cs.all Value.oneCell'=true:=by
  cases k with
  |zero=>exact hr.elim
  |succ k=>obtain⟨_,_,_,_,rfl,_⟩:=hr.path;rfl
 have ld0:ldC (some true) (some 3) 0 cs=some (.agg cs.toArray):=by
  cases k with
  |zero=>exact hr.elim
  |succ k=>obtain⟨_,_,_,_,rfl,_⟩:=hr.path;rfl
 obtain⟨H1,hH1⟩:∃H1,H1=d9.push ⟨H.bs,H.next⟩ (.cells cs true 1):=⟨_,rfl⟩
 have hS:i4 H.next H H1:=by rw[hH1];exact i4.first H _
 have hg:H1.get H.next=cE cs 1:=by rw[hH1];exact i7
 have hlow:H.next≤H1.low:=by rw[hH1,t5];exact lR
 have n1:=hS.next;have n1':=u6 hg;obtain⟨v2,h2,H2,hc2,hge2,cs4,rfl,hSp,s2⟩:=yr H1 lo k cs q oM (hr.mono (fun j hj=>hS.get j oM) lR) hok (by have:=bU false q;omega);have n2:=s2.next;rw[←hs]at hSp;obtain⟨v1,va,vb,v4,rfl,hv1,hva,hvb,hv4⟩:=hSp;obtain⟨aa,ac,rfl⟩:=hva.slice;obtain⟨ba,bc,rfl⟩:=hvb.slice;obtain⟨na,nc,rfl⟩:=hv1.slice;obtain⟨ta,tc,rfl⟩:=hv4.slice;obtain⟨K0,hK0⟩:∃K0,K0=(H2.push (.cells [nS,nS,nS,nS] true 1)).put H2.next (.cells [.slice na s.names.length nc,.slice aa s.attrs.length ac,.slice ba s.vals.length bc,.slice ta s.texts.length tc] true 1):=⟨_,rfl⟩
 have m0:K0.next=H2.next+1:=by rw[hK0,j5,i5]
 have t0:i4 H2.next H2 K0:=by rw[hK0];exact(i4.push lR).trans (i4.put lR)
 have b0:K0.get H2.next=cE [.slice na s.names.length nc,.slice aa s.attrs.length ac,.slice ba s.vals.length bc,.slice ta s.texts.length tc] 1:=by rw[hK0];exact i8 (by rw[i5];omega)
 obtain⟨K1,hK1,m1,-⟩:=pushE K0 (.cells [] true 2);have t1:i4 K0.next K0 K1:=by rw[hK1];exact i4.push lR
 have q1:∀j,j<H2.next→K1.get j=H2.get j:=fun j hj=>by rw[t1.get j oM,t0.get j hj]
 have b1:=(t1.get _ oM).trans b0;have hOa:t7 K1 K0.next 2 (v8 nmE) (.slice (some ⟨K0.next,0,none⟩) 0 0) []:=by rw[hK1];exact t7.fresh rfl lR D2.nil
 obtain⟨w2,h2',K2,ha2,hge2',hOb,t2⟩:=hOa.append (P:=prog) (t:=95) (n:=H2.next) (by exact pJ.2.2.2.2.2.2) cr.1 cr.2.1 cr.2.2.1 oM oM (hv1.mono q1 lR iF) (by simp;omega) oM;rw[List.nil_append]at hOb;have m2:=t2.next;have b2:=(t2.get _ oM).trans b1;have q2:∀j,j<H2.next→K2.get j=H2.get j:=fun j hj=>by rw[t2.get j oM,q1 j hj]
 have ho2:=yq K2 H2.next (.slice na s.names.length nc) s.names oM (hv1.mono q2 lR iF) oM;obtain⟨w4,h4,K4,ha4,hge4,hOc,hG4⟩:=hOb.push1F (P:=prog) (t:=95) (cs:=nmE (zNm (Q4 s.names))) (a:=zNm (Q4 s.names)) (by exact pJ.2.2.2.2.2.2) cr.1 cr.2.1 cr.2.2.1 oM oM rfl rfl oM oM;have m4:=hG4.next;have t4:i4 H2.next H2 K4:=(t0.trans (t1.weaken oM)).trans ((t2.weaken oM).trans (hG4.stay.weaken oM));have b4:K4.get H2.next=_:=(hG4.but _ oM (fun q=>by have:=hOb.lt q;omega)).trans b2;have q4:∀j,j<H2.next→K4.get j=H2.get j:=fun j hj=>t4.get j hj;rw[j8 ab3 rfl _ (by simp)];refine J16 a0 hH1.symm hg ld0 hc2 hge2 hK0.symm b0 hK1.symm b1 ha2 hge2' b2 ho2 ha4 hge4 ?_;obtain⟨na4,nc4,ew4⟩:=hOc.slice;have lns:(s.names++[zNm (Q4 s.names)]).length=s.names.length+1:=by simp
 have hs4:i4 H.next H K4:=(hS.trans (s2.weaken oM)).trans (t4.weaken oM);have hl4:H.next≤K4.low:=((s2.weaken oM).trans (t4.weaken oM)).low hlow;have vlm:∀x∈s.vals,x.length≤10000:=fun x hx=>by have:=hsvl x hx;omega
 refine l9 (F:=fun z=>Ret (u5 _ _ _ (u7 (inBlock 0 z) _)) _ _) (ag6 (· <K4.next) K4 H2.next (fun _ h=>h) s _ _ aa ac ba bc hsv b4 (by show _<_;omega) (hva.mono q4 (show H2.next≤K4.next from oM) iF) (SlI.slF (hvb.mono q4 (show H2.next≤K4.next from oM) (fun _ _ h=>h.mono q4 (fun j hj=>oM)))) oM vlm na4 nc4 _ (by rw[←ew4];exact hOc.frz fun b hb=>(hOc.lt hb).2) oM (dm s (s.names++[zNm (Q4 s.names)]) []) (s.names++[zNm (Q4 s.names)]).length _ _ ⟨0,_,[],_,rfl,oM,rfl,rfl,ew4,rfl,Buf.start (fun j hj=>⟨hj,A9 j⟩) t7.nil,by simp,rfl⟩) ?_;rintro o' e' H5 (⟨ho,g4,w,acc,G,hres,hacc,g5,B⟩|⟨s5,ho,hres,g2,g3⟩)
 ·have n5:=B.next;have s5:i4 K4.next K4 H5:=B.gr.stay;have b5:=(s5.get _ oM).trans b4;have q5:∀j,j<H2.next→H5.get j=H2.get j:=fun j hj=>by rw[s5.get j oM,q4 j hj]
  obtain⟨L1,hL1,l1,-⟩:=pushE H5 (.cells [] true 1);have u1:i4 H5.next H5 L1:=by rw[hL1];exact i4.push lR
  have c1:=(u1.get _ oM).trans b5;have r1:∀j,j<H2.next→L1.get j=H2.get j:=fun j hj=>by rw[u1.get j oM,q5 j hj]
  have hPa:t7 L1 H5.next 1 (v8 stE) (.slice (some ⟨H5.next,0,none⟩) 0 0) []:=by rw[hL1];exact t7.fresh rfl lR D2.nil
  obtain⟨x2,h5a,L2,ha5,hge5,hPb,u2⟩:=hPa.append (P:=prog) (t:=97) (n:=H2.next) (by exact aH.2.2.2.2.2.2) ty9.1 ty9.2.1 ty9.2.2.1 oM oM (hv4.mono r1 lR iF) (by simp;omega) oM;rw[List.nil_append]at hPb;have l2:=u2.next;have c2:=(u2.get _ oM).trans c1;have r2:∀j,j<H2.next→L2.get j=H2.get j:=fun j hj=>by rw[u2.get j oM,r1 j hj]
  have hnum:=gW L2 H2.next (.slice ta s.texts.length tc) s.texts oM (hv4.mono r2 lR iF) oM;obtain⟨x4,h6a,L4,ha6,hge6,hPc,hG6⟩:=hPb.push1F (P:=prog) (t:=97) (cs:=[.string (dg (T7 s.texts))]) (a:=dg (T7 s.texts)) (by exact aH.2.2.2.2.2.2) ty9.1 ty9.2.1 ty9.2.2.1 oM oM rfl rfl oM oM;have l4:=hG6.next;have u4:i4 H5.next H5 L4:=(u1.trans u2).trans hG6.stay;have B4:=B.stay w9 u4 n5;obtain⟨ta4,tc4,ex4⟩:=hPc.slice;have lts:(s.texts++[dg (T7 s.texts)]).length=s.texts.length+1:=by simp
  refine J11 ho g4 b5 hL1.symm c1 ha5 hge5 c2 hnum ha6 hge6 ?_;refine l9 (F:=fun z=>Ret (u5 _ _ _ (u7 (inBlock 8 z) _)) _ _) (ag7 (pls G H5 L4) L4 w K4.next oM B4.lt ta4 tc4 (s.texts++[dg (T7 s.texts)]) (by rw[←ex4];exact hPc.frz fun b hb=> .inr (hPc.lt hb)) oM (acc++(s.texts++[dg (T7 s.texts)]).map bZ) (by rw[List.length_append,List.length_map];omega) (s.texts++[dg (T7 s.texts)]).length _ _ ⟨0,w,acc,_,rfl,oM,g5,ex4,rfl,Buf.start B4.lt B4.own,rfl⟩) ?_;rintro o'' e'' H6 ⟨ho6,w6,G6,k5,B6⟩;have B7:=B4.trans B6;have n6:=B7.next;have s6:i4 H.next H H6:=hs4.trans (B7.gr.stay.weaken oM);have hl6:H.next≤H6.low:=(B7.gr.stay.weaken oM).low hl4;obtain⟨wa,wc,ew⟩:=B6.own.slice;have hfr:=B6.frz w9;rw[ew]at k5 hfr;have hlab:S8 s=if(acc++(s.texts++[dg (T7 s.texts)]).map bZ).length>24 then none else some (acc++(s.texts++[dg (T7 s.texts)]).map bZ):=by rw[S8,hres]
  rcases b3:decide ((24:Int)<((acc++(s.texts++[dg (T7 s.texts)]).map bZ).length:Nat))with _|_
  ·have hb3:=dF b3;rw[if_neg oM]at hlab;refine J3 ho6 k5 b3 ?_;refine ce (fun hc=>?_) ⟨_,_,rfl,.inr ⟨_,hlab,rfl,SlF.mono hfr (fun _ _=>rfl) (fun j hj=>?_) (fun _ _ h=>w9 _ _ _ _ _ _ h (fun _ _=>rfl) fun j hj=>?_)⟩,s6.ret hl6⟩
   ·rcases hfr with⟨h1,h2⟩|⟨b,o,c,h,_⟩
    ·exact⟨_,_,rfl,.inr ⟨_,hlab,rfl,.inl ⟨h1,h2⟩⟩,i4.refl _ _⟩
    ·rw[h]at hc;cases hc
   ·rcases hj with hj|hj
    ·exact(B6.lt j hj).1
    ·rw[←ew]at hj;exact(B6.own.lt hj).2
   ·rcases hj with hj|hj
    ·exact(B6.lt j hj).1
    ·rw[←ew]at hj;exact(B6.own.lt hj).2
  ·have hb3:=dT b3;rw[if_pos oM]at hlab;refine J3 ho6 k5 b3 ?_;exact⟨_,none,H,rfl,rfl,_,_,rfl,.inl ⟨hlab,rfl,rfl⟩,i4.refl _ _⟩
 ·have hlab:S8 s=none:=by rw[S8,hres]
  have hl5:=(s5.weaken (show H.next≤K4.next from oM)).low hl4;refine J3 ho g2 g3 ?_;exact⟨_,none,H,rfl,rfl,_,_,rfl,.inl ⟨hlab,rfl,rfl⟩,i4.refl _ _⟩
def jQ(q:Q):Bool:=decide (y9 (D0 q).progs≤24)&&decide ((C0 q).st≤24)&&(match S8 (spQ q)with|none=>true|some l=>decide (l.length≤14))
theorem rX(q:Q):(D0 q).main=C0 q:=by
 have:∀(l:List Q)(s:StD),(l.foldl F4 s).main=s.main:=by
  intro l;induction l with
  |nil=>intro s;rfl
  |cons x l ih=>
   intro s;rw[List.foldl_cons,ih,F4];split<;>rfl
 rw[D0,this]
theorem ii(q:Q)(hok:OkD false q):(D0 q).progs.length=(D0 q).paths.length∧(D0 q).base.length=(D0 q).paths.length∧(D0 q).paths.length≤nQ q∧∀p∈(D0 q).progs,0≤p.st∧p.st≤2*nQ q:=by
 obtain⟨h1,h2⟩:=bH _ false q lR hok;have:∀(l:List Q)(s:StD),(∀x∈l,nQ x≤nQ q)→s.progs.length=s.paths.length→s.base.length=s.paths.length→(∀p∈s.progs,0≤p.st∧p.st≤2*nQ q)→(l.foldl F4 s).progs.length=(l.foldl F4 s).paths.length∧(l.foldl F4 s).base.length=(l.foldl F4 s).paths.length∧(l.foldl F4 s).paths.length≤s.paths.length+l.length∧∀p∈(l.foldl F4 s).progs,0≤p.st∧p.st≤2*nQ q:=by
  intro l;induction l with
  |nil=>intro s h1 h2 h3 h4;exact⟨h2,h3,by simp,h4⟩
  |cons x l ih=>
   intro s h1 h2 h3 h4;have hc:=cy x;have hx:=h1 x (by simp);rw[List.foldl_cons];have key:(F4 s x).progs.length=(F4 s x).paths.length∧(F4 s x).base.length=(F4 s x).paths.length∧(F4 s x).paths.length≤s.paths.length+1∧∀p∈(F4 s x).progs,0≤p.st∧p.st≤2*nQ q:=by
    rw[F4];split
    ·exact⟨h2,h3,oM,h4⟩
    ·refine⟨by simp [h2],by simp [h3],by simp,fun p hp=>?_⟩;rcases List.mem_append.1 hp with hp|hp
     ·exact h4 p hp
     ·have:p=C0 x:=by simpa using hp
      subst this;omega
   have:=ih (F4 s x) (fun y hy=>h1 y (by simp [hy])) key.1 key.2.1 key.2.2.2;rw[List.length_cons];exact⟨this.1,this.2.1,oM,this.2.2.2⟩
 have:=this (inQ false q) ⟨[],[],[],C0 q⟩ (fun x hx=>(h2 x hx).2) rfl rfl (by simp);rw[←D0]at this;exact⟨this.1,this.2.1,by have:=this.2.2.1;simp at this;omega,this.2.2.2⟩
theorem ux(H:d9)(lo k:Nat)(cs:LV)(q:Q)(hlo:lo≤H.next)(hr:QR H lo k false cs q)(hok:OkD false q)(hfit:nQ q≤1000):
  CL prog t6 30 [.agg cs.toArray] H=some (.bool (jQ q),none):=by
 have a0:cs.all Value.oneCell'=true:=by
  cases k with
  |zero=>exact hr.elim
  |succ k=>obtain⟨_,_,_,_,rfl,_⟩:=hr.path;rfl
 have ld0:ldC (some true) (some 3) 0 cs=some (.agg cs.toArray):=by
  cases k with
  |zero=>exact hr.elim
  |succ k=>obtain⟨_,_,_,_,rfl,_⟩:=hr.path;rfl
 obtain⟨H1,hH1⟩:∃H1,H1=d9.push ⟨H.bs,H.next⟩ (.cells cs true 1):=⟨_,rfl⟩
 have hS:i4 H.next H H1:=by rw[hH1];exact i4.first H _
 have hg:H1.get H.next=cE cs 1:=by rw[hH1];exact i7
 have hlow:H.next≤H1.low:=by rw[hH1,t5];exact lR
 have n1:=hS.next;have n1':=u6 hg;obtain⟨v2,h2,H2,hc2,hge2,cs8,rfl,hSt,s2⟩:=yu k H1 lo (fun _ _=>True) cs q oM (hr.mono (fun j hj=>hS.get j oM) lR) (fun _ _ _ _ _=>trivial) hok hfit;have n2:=s2.next;obtain⟨pa,pc,ga,gc,ba,bc,ea,ec,ta,tc,hcs,_⟩:=N3 hSt;have l8:cs8.length=8:=by rw[hcs];rfl
 have a8:cs8.all Value.oneCell'=true:=by rw[hcs];rfl
 have ld8:ldC (some true) (some 8) 0 cs8=some (.agg cs8.toArray):=by rw[hcs];rfl
 have c83:cs8[3]?=some (.int .i64 (D0 q).main.st):=by rw[hcs];rfl
 rw[rX]at c83;obtain⟨H3,hH3⟩:∃H3,H3=(H2.push (.cells z8 true 1)).put H2.next (.cells cs8 true 1):=⟨_,rfl⟩
 have n3:H3.next=H2.next+1:=by rw[hH3,j5,i5]
 have s3:i4 H2.next H2 H3:=by rw[hH3];exact(i4.push lR).trans (i4.put lR)
 have g3:H3.get H2.next=cE cs8 1:=by rw[hH3];exact i8 (by rw[i5];omega)
 have sp8:splice z8 0 cs8=cs8:=w7 _ _ (by rw[l8];rfl);have g3q:H3.get H.next=cE cs 1:=by rw[s3.get _ oM,s2.get _ oM];exact hg
 obtain⟨v4,h4,H4,hc4,hge4,lv,er,rfl,hlab,s4⟩:=uw H3 lo k cs q oM (hr.mono (fun j hj=>by rw[s3.get j oM,s2.get j oM,hS.get j oM]) lR) hok hfit;have n4:=s4.next;have g4:H4.get H2.next=cE cs8 1:=(s4.get _ oM).trans g3;obtain⟨p1,p2,p3,p4⟩:=ii q hok;have hit:=yp H4 (fun j=>H1.next≤j∧j<H2.next) (QR H1 lo k false) (fun _ _=>True) cs8 (D0 q) (fun j hj=>oM) (hSt.mono (fun j hj=>by rw[s4.get j oM,s3.get j oM]) (fun _ h=>h) iF iF) oM (fun p hp=>by have:=p4 p hp;omega);have hl4:H.next≤H4.low:=((s2.weaken (show H.next≤H1.next from oM)).trans ((s3.weaken oM).trans (s4.weaken oM))).low hlow;rw[j8 aa9 rfl _ (by simp),jQ];rcases hlab with⟨h1,rfl,rfl⟩|⟨l,h1,rfl,hl⟩
 ·rw[h1];rcases b1:decide (y9 (D0 q).progs≤24)with _|_
  ·exact J17 a0 hH1.symm hg ld0 hc2 hge2 a8 l8 sp8 hH3.symm g3q hc4 hge4 g4 ld8 hit b1 trivial
  rcases b2:decide ((C0 q).st≤24)with _|_
  ·exact J19 a0 hH1.symm hg ld0 hc2 hge2 a8 l8 sp8 hH3.symm g3q hc4 hge4 g4 ld8 hit c83 b1 b2 trivial
  ·exact J19 a0 hH1.symm hg ld0 hc2 hge2 a8 l8 sp8 hH3.symm g3q hc4 hge4 g4 ld8 hit c83 b1 b2 trivial
 ·rw[h1];obtain⟨la,lc,rfl⟩:=hl.slice;have e14:decide ((l.length:Int)≤14)=decide (l.length≤14):=decide_eq_decide.2 oM;rcases b1:decide (y9 (D0 q).progs≤24)with _|_
  ·exact J17 a0 hH1.symm hg ld0 hc2 hge2 a8 l8 sp8 hH3.symm g3q hc4 hge4 g4 ld8 hit b1 trivial
  rcases b2:decide ((C0 q).st≤24)with _|_
  ·exact J19 a0 hH1.symm hg ld0 hc2 hge2 a8 l8 sp8 hH3.symm g3q hc4 hge4 g4 ld8 hit c83 b1 b2 trivial
  ·exact J20 a0 hH1.symm hg ld0 hc2 hge2 a8 l8 sp8 hH3.symm g3q hc4 hge4 g4 ld8 hit c83 b1 b2 e14 trivial
theorem ki{P:Program}(t:TypeId)(a:Option Addr)(n c:Nat)(h:(I2 P t).isSome=true):E9 P .eql t (.slice a n c) (nS)=some (.bool a.isNone):=by
 cases a<;>simp [E9,eqA,h]
theorem vn{α:Type}(R:LV→α→Prop)(H:d9)(n:Nat)(v:Value)(l:List α)(hn:n≤H.next)(hv:SlI H n 3 R v l)(hl:l.length≤1000000):N5 (CL prog t6 37 [v] H) H 3 R l:=by
 obtain⟨va,ca,rfl⟩:=hv.slice;have e1:=fun a n c=>ki (P:=prog) 49 a n c (by rw[yM.2.2.2.2.2.1];rfl);rw[j8 ab5 rfl _ (by simp)];rcases b:va.isNone with _|_
 ·obtain⟨K1,hK1⟩:∃K1,K1=d9.push ⟨H.bs,H.next⟩ (.cells [] true 3):=⟨_,rfl⟩
  have hS:i4 H.next H K1:=by rw[hK1];exact i4.first H _
  have n1:K1.next=H.next+1:=by rw[hK1,i5];rfl
  have hlow:H.next≤K1.low:=by rw[hK1,t5];exact lR
  have hOa:t7 K1 H.next 3 R (.slice (some ⟨H.next,0,none⟩) 0 0) []:=by rw[hK1];exact t7.fresh rfl lR D2.nil
  obtain⟨w1,h1,K2,ha1,hge1,hOb,s2⟩:=hOa.append (P:=prog) (t:=49) (n:=n) (by exact yM.2.2.2.2.2.2) ik.1 ik.2.1 ik.2.2.1 oM oM (hv.mono (fun j hj=>hS.get j oM) lR iF) (by simp;omega) oM;refine J5 e1 b hK1.symm ha1 hge1 ?_;exact I4 hOb (hS.trans s2) (s2.low hlow)
 ·have hva:va=none:=by simpa using b
  subst hva;have hl0:l=[]:=by
   rcases hv with⟨_,h⟩|⟨b,o,c,h,_⟩
   ·exact h
   ·cases h
  subst hl0;refine J2 e1 b ?_;exact⟨_,none,H,rfl,rfl,t7.nil,i4.refl _ _⟩
theorem CX{α:Type}(R:LV→α→Prop)(H:d9)(n:Nat)(v:Value)(l:List α)(hn:n≤H.next)(hv:SlI H n 1 R v l)(hl:l.length≤1000000):N5 (CL prog t6 55 [v] H) H 1 R l:=by
 obtain⟨va,ca,rfl⟩:=hv.slice;have e1:=fun a n c=>ki (P:=prog) 97 a n c (by rw[aH.2.2.2.2.2.1];rfl);rw[j8 ac3 rfl _ (by simp)];rcases b:va.isNone with _|_
 ·obtain⟨K1,hK1⟩:∃K1,K1=d9.push ⟨H.bs,H.next⟩ (.cells [] true 1):=⟨_,rfl⟩
  have hS:i4 H.next H K1:=by rw[hK1];exact i4.first H _
  have n1:K1.next=H.next+1:=by rw[hK1,i5];rfl
  have hlow:H.next≤K1.low:=by rw[hK1,t5];exact lR
  have hOa:t7 K1 H.next 1 R (.slice (some ⟨H.next,0,none⟩) 0 0) []:=by rw[hK1];exact t7.fresh rfl lR D2.nil
  obtain⟨w1,h1,K2,ha1,hge1,hOb,s2⟩:=hOa.append (P:=prog) (t:=97) (n:=n) (by exact aH.2.2.2.2.2.2) ty9.1 ty9.2.1 ty9.2.2.1 oM oM (hv.mono (fun j hj=>hS.get j oM) lR iF) (by simp;omega) oM;refine J5 e1 b hK1.symm ha1 hge1 ?_;exact I4 hOb (hS.trans s2) (s2.low hlow)
 ·have hva:va=none:=by simpa using b
  subst hva;have hl0:l=[]:=by
   rcases hv with⟨_,h⟩|⟨b,o,c,h,_⟩
   ·exact h
   ·cases h
  subst hl0;refine J2 e1 b ?_;exact⟨_,none,H,rfl,rfl,t7.nil,i4.refl _ _⟩
theorem MP{α:Type}(H0:d9)(F:Nat→Prop)(R:LV→α→Prop)(fv:Value)(p:α→Bool)(va:Option Addr)(ca:Nat)(l:List α)(hv:SlF H0 F 3 R (.slice va l.length ca) l)(hn:l.length≤1048576)(hf:∀(i:Nat)(x:α)(el:LV),l[i]?=some x→R el x→dM (CL prog t6) fv [.agg el.toArray] H0=some (.bool (p x),none)) (r:Int):
  ∀kk e H2,(∃i:Nat,kk=l.length-i∧i≤l.length∧e.get 0= .slice va l.length ca∧e.get 1=fv∧e.get 7=iV l.length∧e.get 8=iV i∧H2=H0∧ixG p (l.drop i) i=r)→
  u9 (LE prog t6 (.loop Au) e H2) (fun o e H2=>H2=H0∧((o= .exit 0∧r= -1)∨(o= .ret∧e.get 4=iV r))):=by
 refine j7 _ _ ?_;rintro kk e H2 ⟨i,hk,hi,f0,f1,f7,f8,hH,fu⟩;subst hH;rcases b:decide ((i:Int)<l.length)with _|_
 ·have hb':=dF b;have:l.drop i=[]:=dN oM;rw[this,ixG]at fu;refine J3 f7 f8 b ?_;exact l7 ⟨rfl,.inl ⟨rfl,fu.symm⟩⟩
 have hb':=dT b;obtain⟨x,nb,o,cs,own,el,hx,hd,rfl,hF,hg,hle,hrow,hc,hR⟩:=hv.row (i:=i) oM;have nt:(i:Int).toNat=i:=tN i;have hca:=hf i x el hx hR;rw[hd,ixG]at fu;rcases b2:p x with _|_
 ·simp only[b2,Bool.false_eq_true,if_false]at fu;rw[b2]at hca;refine J10 f0 f1 f7 f8 b hg nt hrow hca @wrap_small ?_;exact i6 (kk-1) oM ⟨i+1,oM,oM,f0,f1,f7,rfl,rfl,fu⟩
 ·simp only[b2,if_true]at fu;rw[b2]at hca;refine J9 f0 f1 f7 f8 b hg nt hrow hca ?_;exact A6 ⟨rfl,.inr ⟨rfl,by rw[←fu];rfl⟩⟩
theorem kK{α:Type}(H:d9)(F:Nat→Prop)(R:LV→α→Prop)(fv:Value)(p:α→Bool)(v:Value)(l:List α)(hv:SlF H F 3 R v l)(hn:l.length≤1048576)(hf:∀(i:Nat)(x:α)(el:LV),l[i]?=some x→R el x→dM (CL prog t6) fv [.agg el.toArray] ⟨H.bs,H.next⟩=some (.bool (p x),none)):
  CL prog t6 130 [v,fv] H=some (.int .i64 (ixG p l 0),none):=by
 obtain⟨va,ca,rfl⟩:=hv.slice;have hl:(⟨H.bs,H.next⟩:d9).low=H.next:=rfl;rw[j8 WS rfl _ (by simp)];refine J1 jL ?_;refine l9 (F:=fun z=>u5 _ _ _ (u7 (inBlock 0 z) _)=_) (MP ⟨H.bs,H.next⟩ F R fv p va ca l (hv.mono (fun _ _=>rfl) (fun _ h=>h) iF) hn hf (ixG p l 0) l.length _ _ ⟨0,rfl,oM,rfl,rfl,rfl,rfl,rfl,rfl⟩) ?_;rintro o e' H' ⟨hH,⟨ho,hr⟩|⟨ho,h4⟩⟩
 ·exact J3 ho hH hr trivial
 ·exact J3 ho hH h4 trivial
theorem kJ{α:Type}(H:d9)(F:Nat→Prop)(R:LV→α→Prop)(fv:Value)(p:α→Bool)(v:Value)(l:List α)(hv:SlF H F 3 R v l)(hn:l.length≤1048576)(hf:∀(i:Nat)(x:α)(el:LV),l[i]?=some x→R el x→dM (CL prog t6) fv [.agg el.toArray] ⟨H.bs,H.next⟩=some (.bool (p x),none)):
  CL prog t6 104 [v,fv] H=some (.bool (l.any p),none):=by
 have hca:=kK ⟨H.bs,H.next⟩ F R fv p v l (hv.mono (fun _ _=>rfl) (fun _ h=>h) iF) hn hf;rw[j8 Wu rfl _ (by simp),←eU];exact J1 hca trivial
theorem MQ{α:Type}(H0:d9)(F:Nat→Prop)(R:LV→α→Prop)(fv:Value)(p:α→Bool)(va:Option Addr)(ca:Nat)(l:List α)(hv:SlF H0 F 6 R (.slice va l.length ca) l)(hn:l.length≤1048576)(hf:∀(i:Nat)(x:α)(el:LV),l[i]?=some x→R el x→dM (CL prog t6) fv [.agg el.toArray] H0=some (.bool (p x),none)) (r:Int):
  ∀kk e H2,(∃i:Nat,kk=l.length-i∧i≤l.length∧e.get 0= .slice va l.length ca∧e.get 1=fv∧e.get 7=iV l.length∧e.get 8=iV i∧H2=H0∧ixG p (l.drop i) i=r)→
  u9 (LE prog t6 (.loop AE) e H2) (fun o e H2=>H2=H0∧((o= .exit 0∧r= -1)∨(o= .ret∧e.get 4=iV r))):=by
 refine j7 _ _ ?_;rintro kk e H2 ⟨i,hk,hi,f0,f1,f7,f8,hH,fu⟩;subst hH;rcases b:decide ((i:Int)<l.length)with _|_
 ·have hb':=dF b;have:l.drop i=[]:=dN oM;rw[this,ixG]at fu;refine J3 f7 f8 b ?_;exact l7 ⟨rfl,.inl ⟨rfl,fu.symm⟩⟩
 have hb':=dT b;obtain⟨x,nb,o,cs,own,el,hx,hd,rfl,hF,hg,hle,hrow,hc,hR⟩:=hv.row (i:=i) oM;have nt:(i:Int).toNat=i:=tN i;have hca:=hf i x el hx hR;rw[hd,ixG]at fu;rcases b2:p x with _|_
 ·simp only[b2,Bool.false_eq_true,if_false]at fu;rw[b2]at hca;refine J10 f0 f1 f7 f8 b hg nt hrow hca @wrap_small ?_;exact i6 (kk-1) oM ⟨i+1,oM,oM,f0,f1,f7,rfl,rfl,fu⟩
 ·simp only[b2,if_true]at fu;rw[b2]at hca;refine J9 f0 f1 f7 f8 b hg nt hrow hca ?_;exact A6 ⟨rfl,.inr ⟨rfl,by rw[←fu];rfl⟩⟩
theorem tK{α:Type}(H:d9)(F:Nat→Prop)(R:LV→α→Prop)(fv:Value)(p:α→Bool)(v:Value)(l:List α)(hv:SlF H F 6 R v l)(hn:l.length≤1048576)(hf:∀(i:Nat)(x:α)(el:LV),l[i]?=some x→R el x→dM (CL prog t6) fv [.agg el.toArray] ⟨H.bs,H.next⟩=some (.bool (p x),none)):
  CL prog t6 153 [v,fv] H=some (.int .i64 (ixG p l 0),none):=by
 obtain⟨va,ca,rfl⟩:=hv.slice;have hl:(⟨H.bs,H.next⟩:d9).low=H.next:=rfl;rw[j8 Xi rfl _ (by simp)];refine J1 pI ?_;refine l9 (F:=fun z=>u5 _ _ _ (u7 (inBlock 0 z) _)=_) (MQ ⟨H.bs,H.next⟩ F R fv p va ca l (hv.mono (fun _ _=>rfl) (fun _ h=>h) iF) hn hf (ixG p l 0) l.length _ _ ⟨0,rfl,oM,rfl,rfl,rfl,rfl,rfl,rfl⟩) ?_;rintro o e' H' ⟨hH,⟨ho,hr⟩|⟨ho,h4⟩⟩
 ·exact J3 ho hH hr trivial
 ·exact J3 ho hH h4 trivial
theorem kL{α:Type}(H:d9)(F:Nat→Prop)(R:LV→α→Prop)(fv:Value)(p:α→Bool)(v:Value)(l:List α)(hv:SlF H F 6 R v l)(hn:l.length≤1048576)(hf:∀(i:Nat)(x:α)(el:LV),l[i]?=some x→R el x→dM (CL prog t6) fv [.agg el.toArray] ⟨H.bs,H.next⟩=some (.bool (p x),none)):
  CL prog t6 136 [v,fv] H=some (.bool (l.any p),none):=by
 have hca:=tK ⟨H.bs,H.next⟩ F R fv p v l (hv.mono (fun _ _=>rfl) (fun _ h=>h) iF) hn hf;rw[j8 WY rfl _ (by simp),←eU];exact J1 hca trivial
theorem F0{H:d9}{lo k:Nat}{f:Bool}{cs:LV}{q:Q}(h:QR H lo k f cs q):cs.all Value.oneCell'=true:=by
 cases k with
 |zero=>exact h.elim
 |succ k=>
  cases f
  ·obtain⟨_,_,_,_,rfl,_⟩:=h.path;rfl
  ·obtain⟨_,_,_,_,rfl,_⟩:=h.filter;rfl
theorem M8{H:d9}{lo k:Nat}{f:Bool}{cs:LV}{q:Q}(h:QR H lo k f cs q):ldC (some true) (some cs.length) 0 cs=some (.agg cs.toArray):=by
 cases k with
 |zero=>exact h.elim
 |succ k=>
  cases f
  ·obtain⟨_,_,_,_,rfl,_⟩:=h.path;rfl
  ·obtain⟨_,_,_,_,rfl,_⟩:=h.filter;rfl
def mM(fn g:Nat)(f:Bool)(k:Nat):Prop:=∀(H:d9)(lo:Nat)(va vb:Value)(l m:List Q),lo≤H.next→QsR H lo k f va l→QsR H lo k f vb m→l.length≤1048576→m.length≤1048576→CL prog t6 fn [va,vb,.func (.func g) #[] #[]] H=some (.bool (decide (l.length=m.length)&&L8 l m),none)
theorem qt(k:Nat)(ih:N7 106 false k)(H0:d9)(lo:Nat)(va vb:Option Addr)(ca cb:Nat)(l m:List Q)(hlm:l.length=m.length)(hlo:lo≤H0.next)(hv:QsR H0 lo k false (.slice va l.length ca) l)(hw:QsR H0 lo k false (.slice vb m.length cb) m)(hn:l.length≤1048576)(r:Bool):
  ∀kk e H2,(∃i:Nat,kk=l.length-i∧i≤l.length∧e.get 1= .slice vb m.length cb∧e.get 2= .func (.func 106) #[] #[]∧e.get 15= .slice va l.length ca∧e.get 16=iV l.length∧e.get 17=iV i∧i4 H0.next H0 H2∧L8 (l.drop i) (m.drop i)=r)→
  u9 (LE prog t6 (.loop Av) e H2) (fun o e H2=>i4 H0.next H0 H2∧((o= .exit 0∧r=true)∨(o= .ret∧e.get 6= .bool false∧r=false))):=by
 refine j7 _ _ ?_;rintro kk e H2 ⟨i,hk,hi,f1,f2,f15,f16,f17,hS,fu⟩;rcases b:decide ((i:Int)<l.length)with _|_
 ·have hb':=dF b;have:l.drop i=[]:=dN oM;rw[this,L8]at fu;refine J3 f16 f17 b ?_;exact l7 ⟨hS,.inl ⟨rfl,fu.symm⟩⟩
 have hb':=dT b;have hn2:=hS.next;obtain⟨x,nb,o,cs,own,el,hx,hd,rfl,hlt,hg,hle,hrow,hr⟩:=hv.row (i:=i) oM;obtain⟨y,nb',o',cs',own',el',hx',hd',rfl,hlt',hg',hle',hrow',hr'⟩:=hw.row (i:=i) oM;have nt:(i:Int).toNat=i:=tN i;have hlt2:(i:Int)<m.length:=oM;rw[hd,hd',V5]at fu;simp only[qSz,if_true,Bool.false_eq_true,if_false]at hrow hg hrow' hg' hle hle';have e1:=hr.len;have e2:=hr'.len;simp only[qSz,if_true,Bool.false_eq_true,if_false]at e1 e2;have a1:el.all Value.oneCell'=true:=F0 hr;have a2:el'.all Value.oneCell'=true:=F0 hr';obtain⟨H3,hH3⟩:∃H3,H3=(H2.push (.cells [iV 0,nS,nS] true 1)).put H2.next (.cells el true 1):=⟨_,rfl⟩
 have n3:H3.next=H2.next+1:=by rw[hH3,j5,i5]
 have s3:i4 H2.next H2 H3:=by rw[hH3];exact(i4.push lR).trans (i4.put lR)
 have g3:H3.get H2.next=cE el 1:=by rw[hH3];exact i8 (by rw[i5];omega)
 have sp1:splice [iV 0,nS,nS] 0 el=el:=w7 _ _ (by rw[e1];rfl);have sp2:splice [iV 0,nS,nS] 0 el'=el':=w7 _ _ (by rw[e2];rfl);obtain⟨H4,hH4⟩:∃H4,H4=(H3.push (.cells [iV 0,nS,nS] true 1)).put H3.next (.cells el' true 1):=⟨_,rfl⟩
 have n4:H4.next=H3.next+1:=by rw[hH4,j5,i5]
 have s4:i4 H3.next H3 H4:=by rw[hH4];exact(i4.push lR).trans (i4.put lR)
 have g4:H4.get H3.next=cE el' 1:=by rw[hH4];exact i8 (by rw[i5];omega)
 have g43:H4.get H2.next=cE el 1:=(s4.get _ oM).trans g3;have gx:H2.get nb=_:=(hS.get _ oM).trans hg;have gy:H3.get nb'=_:=(s3.get _ oM).trans ((hS.get _ oM).trans hg');have ld1:ldC (some true) (some el.length) 0 el=some (.agg el.toArray):=M8 hr;have ld2:ldC (some true) (some el'.length) 0 el'=some (.agg el'.toArray):=M8 hr';rw[e1]at ld1;rw[e2]at ld2;have k4:∀j,j<lo→H4.get j=H0.get j:=fun j hj=>by rw[s4.get _ oM,s3.get _ oM,hS.get _ oM]
 have hca:=ih H4 lo el el' x y oM (hr.mono k4 lR) (hr'.mono k4 lR);have s04:i4 H0.next H0 H4:=(hS.trans (s3.weaken oM)).trans (s4.weaken oM);rcases b2:M0 x y with _|_
 ·rw[b2]at hca fu;refine J24 f1 f2 f15 f16 f17 b gx nt hrow a1 e1 sp1 hH3.symm gy hrow' a2 e2 sp2 hH4.symm g43 g4 ld1 ld2 hca ?_;exact A6 ⟨s04,.inr ⟨rfl,rfl,by rw[←fu];rfl⟩⟩
 ·rw[b2]at hca fu;refine J25 f1 f2 f15 f16 f17 b gx nt hrow a1 e1 sp1 hH3.symm gy hrow' a2 e2 sp2 hH4.symm g43 g4 ld1 ld2 hca @wrap_small ?_;exact i6 (kk-1) oM ⟨i+1,oM,oM,f1,f2,f15,f16,rfl,s04,fu⟩
theorem zZ(k:Nat)(ih:N7 106 false k):mM 131 106 false k:=by
 intro H lo va vb l m hlo hv hw hn hm;obtain⟨aa,ac,rfl⟩:=hv.slice;obtain⟨ba,bc,rfl⟩:=hw.slice;have el:decide ((l.length:Int)=m.length)=decide (l.length=m.length):=decide_eq_decide.2 oM;rw[j8 WT rfl _ (by simp)];rcases b:decide (l.length=m.length)with _|_
 ·exact J2 el b trivial
 ·refine J2 el b ?_;refine l9 (F:=fun z=>u5 _ _ _ (u7 (inBlock 0 z) _)=_) (qt k ih ⟨H.bs,H.next⟩ lo aa ba ac bc l m (dT b) hlo (hv.mono (fun _ _=>rfl) lR) (hw.mono (fun _ _=>rfl) lR) hn (L8 l m) l.length _ _ ⟨0,rfl,oM,rfl,rfl,rfl,rfl,rfl,i4.refl _ _,rfl⟩) ?_;rintro o e' H' ⟨hS,⟨ho,hr⟩|⟨ho,h4,hr⟩⟩
  ·have hl:=hS.low lR;have hl':H.next≤H'.low:=hl;exact J2 ho hr trivial
  ·have hl:=hS.low lR;have hl':H.next≤H'.low:=hl;exact J3 ho h4 hr trivial
theorem qu(k:Nat)(ih:N7 133 true k)(H0:d9)(lo:Nat)(va vb:Option Addr)(ca cb:Nat)(l m:List Q)(hlm:l.length=m.length)(hlo:lo≤H0.next)(hv:QsR H0 lo k true (.slice va l.length ca) l)(hw:QsR H0 lo k true (.slice vb m.length cb) m)(hn:l.length≤1048576)(r:Bool):
  ∀kk e H2,(∃i:Nat,kk=l.length-i∧i≤l.length∧e.get 1= .slice vb m.length cb∧e.get 2= .func (.func 133) #[] #[]∧e.get 15= .slice va l.length ca∧e.get 16=iV l.length∧e.get 17=iV i∧i4 H0.next H0 H2∧L8 (l.drop i) (m.drop i)=r)→
  u9 (LE prog t6 (.loop Aw) e H2) (fun o e H2=>i4 H0.next H0 H2∧((o= .exit 0∧r=true)∨(o= .ret∧e.get 6= .bool false∧r=false))):=by
 refine j7 _ _ ?_;rintro kk e H2 ⟨i,hk,hi,f1,f2,f15,f16,f17,hS,fu⟩;rcases b:decide ((i:Int)<l.length)with _|_
 ·have hb':=dF b;have:l.drop i=[]:=dN oM;rw[this,L8]at fu;refine J3 f16 f17 b ?_;exact l7 ⟨hS,.inl ⟨rfl,fu.symm⟩⟩
 have hb':=dT b;have hn2:=hS.next;obtain⟨x,nb,o,cs,own,el,hx,hd,rfl,hlt,hg,hle,hrow,hr⟩:=hv.row (i:=i) oM;obtain⟨y,nb',o',cs',own',el',hx',hd',rfl,hlt',hg',hle',hrow',hr'⟩:=hw.row (i:=i) oM;have nt:(i:Int).toNat=i:=tN i;have hlt2:(i:Int)<m.length:=oM;rw[hd,hd',V5]at fu;simp only[qSz,if_true,Bool.false_eq_true,if_false]at hrow hg hrow' hg' hle hle';have e1:=hr.len;have e2:=hr'.len;simp only[qSz,if_true,Bool.false_eq_true,if_false]at e1 e2;have a1:el.all Value.oneCell'=true:=F0 hr;have a2:el'.all Value.oneCell'=true:=F0 hr';obtain⟨H3,hH3⟩:∃H3,H3=(H2.push (.cells [iV 0,.string eB,.string eB,.string eB,nS,nS] true 1)).put H2.next (.cells el true 1):=⟨_,rfl⟩
 have n3:H3.next=H2.next+1:=by rw[hH3,j5,i5]
 have s3:i4 H2.next H2 H3:=by rw[hH3];exact(i4.push lR).trans (i4.put lR)
 have g3:H3.get H2.next=cE el 1:=by rw[hH3];exact i8 (by rw[i5];omega)
 have sp1:splice [iV 0,.string eB,.string eB,.string eB,nS,nS] 0 el=el:=w7 _ _ (by rw[e1];rfl);have sp2:splice [iV 0,.string eB,.string eB,.string eB,nS,nS] 0 el'=el':=w7 _ _ (by rw[e2];rfl);obtain⟨H4,hH4⟩:∃H4,H4=(H3.push (.cells [iV 0,.string eB,.string eB,.string eB,nS,nS] true 1)).put H3.next (.cells el' true 1):=⟨_,rfl⟩
 have n4:H4.next=H3.next+1:=by rw[hH4,j5,i5]
 have s4:i4 H3.next H3 H4:=by rw[hH4];exact(i4.push lR).trans (i4.put lR)
 have g4:H4.get H3.next=cE el' 1:=by rw[hH4];exact i8 (by rw[i5];omega)
 have g43:H4.get H2.next=cE el 1:=(s4.get _ oM).trans g3;have gx:H2.get nb=_:=(hS.get _ oM).trans hg;have gy:H3.get nb'=_:=(s3.get _ oM).trans ((hS.get _ oM).trans hg');have ld1:ldC (some true) (some el.length) 0 el=some (.agg el.toArray):=M8 hr;have ld2:ldC (some true) (some el'.length) 0 el'=some (.agg el'.toArray):=M8 hr';rw[e1]at ld1;rw[e2]at ld2;have k4:∀j,j<lo→H4.get j=H0.get j:=fun j hj=>by rw[s4.get _ oM,s3.get _ oM,hS.get _ oM]
 have hca:=ih H4 lo el el' x y oM (hr.mono k4 lR) (hr'.mono k4 lR);have s04:i4 H0.next H0 H4:=(hS.trans (s3.weaken oM)).trans (s4.weaken oM);rcases b2:M0 x y with _|_
 ·rw[b2]at hca fu;refine J24 f1 f2 f15 f16 f17 b gx nt hrow a1 e1 sp1 hH3.symm gy hrow' a2 e2 sp2 hH4.symm g43 g4 ld1 ld2 hca ?_;exact A6 ⟨s04,.inr ⟨rfl,rfl,by rw[←fu];rfl⟩⟩
 ·rw[b2]at hca fu;refine J25 f1 f2 f15 f16 f17 b gx nt hrow a1 e1 sp1 hH3.symm gy hrow' a2 e2 sp2 hH4.symm g43 g4 ld1 ld2 hca @wrap_small ?_;exact i6 (kk-1) oM ⟨i+1,oM,oM,f1,f2,f15,f16,rfl,s04,fu⟩
theorem Aa(k:Nat)(ih:N7 133 true k):mM 132 133 true k:=by
 intro H lo va vb l m hlo hv hw hn hm;obtain⟨aa,ac,rfl⟩:=hv.slice;obtain⟨ba,bc,rfl⟩:=hw.slice;have el:decide ((l.length:Int)=m.length)=decide (l.length=m.length):=decide_eq_decide.2 oM;rw[j8 WU rfl _ (by simp)];rcases b:decide (l.length=m.length)with _|_
 ·exact J2 el b trivial
 ·refine J2 el b ?_;refine l9 (F:=fun z=>u5 _ _ _ (u7 (inBlock 0 z) _)=_) (qu k ih ⟨H.bs,H.next⟩ lo aa ba ac bc l m (dT b) hlo (hv.mono (fun _ _=>rfl) lR) (hw.mono (fun _ _=>rfl) lR) hn (L8 l m) l.length _ _ ⟨0,rfl,oM,rfl,rfl,rfl,rfl,rfl,i4.refl _ _,rfl⟩) ?_;rintro o e' H' ⟨hS,⟨ho,hr⟩|⟨ho,h4,hr⟩⟩
  ·have hl:=hS.low lR;have hl':H.next≤H'.low:=hl;exact J2 ho hr trivial
  ·have hl:=hS.low lR;have hl':H.next≤H'.low:=hl;exact J3 ho h4 hr trivial
theorem Fa(k:Nat)(ih1:mM 131 106 false k)(ih2:mM 132 133 true k):N7 106 false (k+1):=by
 intro H lo c1 c2 x y hlo hx hy;obtain⟨s1,s2,s3⟩:=hx.plain rfl;obtain⟨u1,u2,u3⟩:=hy.plain rfl;obtain⟨va,ca,wa,ca',rfl,h1,h2,h3,h4⟩:=hx.path;obtain⟨vb,cb,wb,cb',rfl,k1,k2,k3,k4⟩:=hy.path;obtain⟨H1,hH1⟩:∃H1,H1=(d9.push ⟨H.bs,H.next⟩ (.cells [iV x.op,.slice va x.a.length ca,.slice wa x.b.length ca'] true 1)).push (.cells [iV y.op,.slice vb y.a.length cb,.slice wb y.b.length cb'] true 1):=⟨_,rfl⟩
 have hS:i4 H.next H H1:=by rw[hH1];exact(i4.first H _).trans (i4.push (by rw[i5];show H.next≤H.next+1;omega))
 have hg1:H1.get H.next=cE [iV x.op,.slice va x.a.length ca,.slice wa x.b.length ca'] 1:=by rw[hH1,j6 (by rw[i5];show H.next<H.next+1;omega)];exact i7
 have hg2:H1.get (H.next+1)=cE [iV y.op,.slice vb y.a.length cb,.slice wb y.b.length cb'] 1:=by rw[hH1];exact y7 (by rw[i5];show H.next+1≤H.next+1∧H.next+1≤H.next+1;omega)
 have hlow:H.next≤H1.low:=by rw[hH1,t5,t5];exact lR
 have hn:=hS.next;have hm:∀j,j<lo→H1.get j=H.get j:=fun j hj=>hS.get j oM;have e1:=ih1 H1 lo (.slice va x.a.length ca) (.slice vb y.a.length cb) x.a y.a oM (h1.mono hm lR) (k1.mono hm lR) h3 k3;have e2:=ih2 H1 lo (.slice wa x.b.length ca') (.slice wb y.b.length cb') x.b y.b oM (h2.mono hm lR) (k2.mono hm lR) h4 k4;rw[j8 Ww rfl _ (by simp),eG];have p1:(decide (x.sp=y.sp)&&decide (x.lc=y.lc))=true:=by rw[s1,s2,u1,u2];rfl
 have p2:decide (x.vl=y.vl)=true:=by rw[s3,u3];rfl
 rw[p1,p2];rcases b1:decide (x.op=y.op)with _|_
 ·exact J4 hH1.symm hg1 hg2 b1 trivial
 rcases b4:decide (x.a.length=y.a.length)with _|_
 ·rw[b4]at e1;exact J5 hH1.symm hg1 hg2 b1 e1 trivial
 rcases b5:L8 x.a y.a with _|_
 ·rw[b4,b5]at e1;exact J5 hH1.symm hg1 hg2 b1 e1 trivial
 rw[b4,b5]at e1;exact J6 hH1.symm hg1 hg2 b1 e1 e2 trivial
theorem Fc(k:Nat)(ih1:mM 132 133 true k)(ih2:mM 131 106 false k):N7 133 true (k+1):=by
 intro H lo c1 c2 x y hlo hx hy;obtain⟨va,ca,wa,ca',rfl,h1,h2,h3,h4,_⟩:=hx.filter;obtain⟨vb,cb,wb,cb',rfl,k1,k2,k3,k4,_⟩:=hy.filter;obtain⟨H1,hH1⟩:∃H1,H1=(d9.push ⟨H.bs,H.next⟩ (.cells [iV x.op,.string x.sp,.string x.lc,.string x.vl,.slice va x.a.length ca,.slice wa x.b.length ca'] true 1)).push (.cells [iV y.op,.string y.sp,.string y.lc,.string y.vl,.slice vb y.a.length cb,.slice wb y.b.length cb'] true 1):=⟨_,rfl⟩
 have hS:i4 H.next H H1:=by rw[hH1];exact(i4.first H _).trans (i4.push (by rw[i5];show H.next≤H.next+1;omega))
 have hg1:H1.get H.next=cE [iV x.op,.string x.sp,.string x.lc,.string x.vl,.slice va x.a.length ca,.slice wa x.b.length ca'] 1:=by rw[hH1,j6 (by rw[i5];show H.next<H.next+1;omega)];exact i7
 have hg2:H1.get (H.next+1)=cE [iV y.op,.string y.sp,.string y.lc,.string y.vl,.slice vb y.a.length cb,.slice wb y.b.length cb'] 1:=by rw[hH1];exact y7 (by rw[i5];show H.next+1≤H.next+1∧H.next+1≤H.next+1;omega)
 have hlow:H.next≤H1.low:=by rw[hH1,t5,t5];exact lR
 have hn:=hS.next;have hm:∀j,j<lo→H1.get j=H.get j:=fun j hj=>hS.get j oM;have e1:=ih1 H1 lo (.slice va x.a.length ca) (.slice vb y.a.length cb) x.a y.a oM (h1.mono hm lR) (k1.mono hm lR) h3 k3;have e2:=ih2 H1 lo (.slice wa x.b.length ca') (.slice wb y.b.length cb') x.b y.b oM (h2.mono hm lR) (k2.mono hm lR) h4 k4;rw[j8 WV rfl _ (by simp),eG];rcases b1:decide (x.op=y.op)with _|_
 ·exact J4 hH1.symm hg1 hg2 b1 trivial
 rcases p1:(decide (x.sp=y.sp)&&decide (x.lc=y.lc))with _|_
 ·exact J5 hH1.symm hg1 hg2 b1 p1 trivial
 rcases p2:decide (x.vl=y.vl)with _|_
 ·exact J6 hH1.symm hg1 hg2 b1 p1 p2 trivial
 rcases b4:decide (x.a.length=y.a.length)with _|_
 ·rw[b4]at e1;exact J7 hH1.symm hg1 hg2 b1 p1 p2 e1 trivial
 rcases b5:L8 x.a y.a with _|_
 ·rw[b4,b5]at e1;exact J7 hH1.symm hg1 hg2 b1 p1 p2 e1 trivial
 rw[b4,b5]at e1;exact J8 hH1.symm hg1 hg2 b1 p1 p2 e1 e2 trivial
theorem fw:∀k,N7 106 false k∧N7 133 true k:=by
 intro k;induction k with
 |zero=>exact⟨fun H lo c1 c2 x y hlo hx hy=>hx.elim,fun H lo c1 c2 x y hlo hx hy=>hx.elim⟩
 |succ k ih=>exact⟨Fa k (zZ k ih.1) (Aa k ih.2),Fc k (Aa k ih.2) (zZ k ih.1)⟩
end Go.Proofs.YtofbhlhamfkljaaGreatDoor.Ve
namespace Go.Proofs.YtofbhlhamfkljaaGreatDoor.Ve
open Go Ab
open Go.Proofs.Tryz (prog)
set_option linter.unusedVariables false
set_option linter.unusedSimpArgs false
set_option maxRecDepth 1000000
set_option maxHeartbeats 0
abbrev SM:=cC (T 7) (cO [N 8 (.makeInterface 9 (.const (.string ⟨#[115,108,105,99,101,115,46,77,97,120,58,32,101,109,112,116,121,32,108,105,115,116]⟩))),V (.panic (T 8))]) .skip
abbrev SN:=cO [M 16 4,N 17 (bk .add 3 16 1 3),A 4 17]
abbrev SO:=cS (cB 1 (cO [M 18 3,M 19 0,M 20 4,N 21 (ia 29 19 20),L 22 3 21,N 23 (bi .max #[T 18,T 22] #[3,3]),A 3 23])) SN
abbrev FS:=cS (cS (cO [M 12 4,M 13 0,N 14 (ln 13 29),N 15 (bo .lss 3 12 14 3)]) (cC (T 15) .skip (.exit 0))) SO
abbrev SP:=cS (cS (cO [N 4 (ak 1)]) (cW 0 FS)) (cS (cO [M 24 3,A 2 24]) .ret)
abbrev SQ:=cS (cO [M 9 0,N 10 (.indexAddr 29 (T 9) (K 0)),L 11 3 10,A 3 11]) SP
abbrev SR:=cS (cS (cO [M 5 0,N 6 (ln 5 29),N 7 (bk .lss 3 6 1 3)]) SM) SQ
abbrev f60:=cS (cO [N 2 (ak 0)]) SR
theorem ac8:fnL prog 60=some (f60,25,[ResultVar.tmp 2]):=kR
abbrev Uo:=cO [M 15 0,L 16 86 5,N 17 (c2 82 15 16 132 86)]
abbrev Up:=cS (cB 1 (cS (cO [N 13 (ia 23 9 11),L 14 86 13,N 5 (.alloc 86),V (st' 86 5 14)]) Uo)) (cO [N 18 (bk .add 3 11 1 3),M 11 18])
abbrev Gk:=cS (cO [N 12 (bo .lss 3 11 10 3)]) (cS (cC (T 12) .skip (.exit 0)) Up)
abbrev Uq:=cO [L 47 25 7,N 48 (ia 22 44 42),V (st' 25 48 47)]
abbrev Ur:=cC (T 35) (.coin [N 36 (.alloc 4),V (.store 4 (T 36) B1),V (.store 4 (T 36) B0),L 37 4 36] [N 36 (.alloc 4),V (.store 4 (T 36) B0),V (.store 4 (T 36) B1),L 37 4 36] [36,37,38,39,40,41,42,43,44,45,46,47,48,49,50,51,52,53,54,55,56,57,58] (cC (T 37) (cS (cO [M 38 0,N 39 (nc 38),F 40 107 39 0,L 41 22 40,N 42 (ln 41 22),N 43 (.buildSlice 22 1 #[(0,.const (.agg #[.int .i64 0,.slice none 0 0,.slice none 0 0]))]),N 44 (ap 41 43 22 22),N 45 (nc 38),F 46 107 45 0,V (st' 22 46 44)]) Uq) (.mix [m2 (M 49 0) 0 2,m2 (M 50 0) 0 1,m2 (N 51 (nc 50)) 0 1,m2 (F 52 107 51 0) 0 1,⟨L 53 22 52,false,true,0,1⟩,m1 (L 54 25 7),m4 (N 55 (.buildSlice 22 1 #[(0,T 54)])) 0 1,m3 (N 56 (ap 53 55 22 22)) 1 2,m2 (N 57 (nc 49)) 2 2,m2 (F 58 107 57 0) 2 2,m4 (V (st' 22 58 56)) 2 3]))) .skip
abbrev Us:=cS (cO [M 29 0,N 30 (nc 29),F 31 107 30 0,L 32 22 31,N 33 (.makeFunc (Fn.func 105) #[] #[T 7]),N 34 (c2 104 32 33 22 27),N 35 (nt' 4 34)]) Ur
abbrev Ut:=cS (cO [M 26 0,L 27 25 7,N 28 (c2 58 26 27 132 25)]) Us
abbrev Uu:=cS (cB 3 (cS (cO [N 24 (ia 22 20 22),L 25 25 24,N 7 (.alloc 25),V (st' 25 7 25)]) Ut)) (cO [N 59 (bk .add 3 22 1 3),M 22 59])
abbrev Gl:=cS (cO [N 23 (bo .lss 3 22 21 3)]) (cS (cC (T 23) .skip (.exit 2)) Uu)
abbrev Uv:=cS (cO [F 19 86 3 4,L 20 22 19,N 21 (ln 20 22),N 22 (.move (K 0))]) (cW 2 Gl)
abbrev Uw:=cS (cS (cO [F 8 86 3 3,L 9 23 8,N 10 (ln 9 23),N 11 (.move (K 0))]) (cW 0 Gk)) Uv
abbrev f82:=cS (cO [N 3 (bx 86 1)]) Uw
theorem ae6:fnL prog 82=some (f82,60,[]):=kR
abbrev Lg:=cC (T 4) (cS (cO [M 5 0,M 6 0,N 7 (bk .add 3 6 1 3),N 8 (.slice 9 (.const (.string ⟨#[48,49,50,51,52,53,54,55,56,57,97,98,99,100,101,102,103,104,105,106,107,108,109,110,111,112,113,114,115,116,117,118,119,120,121,122]⟩)) (some (T 5)) (some (T 7)) none),A 2 8]) .ret) .skip
abbrev Lh:=cS (cO [M 9 0,N 10 (bk .mul 3 9 2 3),M 11 0,N 12 (bk .mul 3 11 2 3),N 13 (bk .add 3 12 2 3),N 14 (.slice 9 (.const (.string ⟨#[48,48,48,49,48,50,48,51,48,52,48,53,48,54,48,55,48,56,48,57,49,48,49,49,49,50,49,51,49,52,49,53,49,54,49,55,49,56,49,57,50,48,50,49,50,50,50,51,50,52,50,53,50,54,50,55,50,56,50,57,51,48,51,49,51,50,51,51,51,52,51,53,51,54,51,55,51,56,51,57,52,48,52,49,52,50,52,51,52,52,52,53,52,54,52,55,52,56,52,57,53,48,53,49,53,50,53,51,53,52,53,53,53,54,53,55,53,56,53,57,54,48,54,49,54,50,54,51,54,52,54,53,54,54,54,55,54,56,54,57,55,48,55,49,55,50,55,51,55,52,55,53,55,54,55,55,55,56,55,57,56,48,56,49,56,50,56,51,56,52,56,53,56,54,56,55,56,56,56,57,57,48,57,49,57,50,57,51,57,52,57,53,57,54,57,55,57,56,57,57]⟩)) (some (T 10)) (some (T 13)) none),A 2 14]) .ret
abbrev Li:=cS (cS (cO [M 3 0,N 4 (bk .lss 3 3 10 3)]) Lg) Lh
abbrev YR:=cS (cO [N 2 (.assign (.const (.string ByteArray.empty)))]) Li
theorem Xh:fnL prog 149=some (YR,15,[ResultVar.tmp 2]):=kR
end Go.Proofs.YtofbhlhamfkljaaGreatDoor.Ve
namespace Go.Proofs.YtofbhlhamfkljaaGreatDoor.Ve
open Go Go.RowKit
set_option linter.unusedVariables false
set_option linter.unusedSimpArgs false
set_option maxHeartbeats 0
theorem kF(H:d9)(b:Nat)(B:Blk)(j:Nat):(H.put b B).get j=if j=b then(if j<H.next then some B else none) else H.get j:=by
 by_cases h:j=b
 ·subst h;rw[if_pos rfl];by_cases h2:j<H.next
  ·rw[if_pos h2,i8 h2]
  ·rw[if_neg h2];have:(H.put j B).next≤j:=by rw[j5];omega
   exact List.getElem?_eq_none this
 ·rw[if_neg h,i9 (fun q=>h q.symm)]
theorem jk(H:d9)(B:Blk)(j:Nat):(H.push B).get j=if j=H.next then some B else H.get j:=by
 by_cases h:j=H.next
 ·subst h;rw[if_pos rfl];exact i7
 ·rw[if_neg h];by_cases h2:j<H.next
  ·exact j6 h2
  ·have e1:(H.push B).next≤j:=by rw[i5];omega
   have e2:H.next≤j:=oM;have h1:(H.push B).get j=none:=List.getElem?_eq_none e1;have h3:H.get j=none:=List.getElem?_eq_none e2;rw[h1,h3]
theorem qL{H K:d9}(hl:H.low=K.low)(hg:∀j,H.get j=K.get j):H=K:=by
 obtain⟨a,b⟩:=H;obtain⟨c,d⟩:=K;simp only at hl;subst hl
 congr 1
 exact List.ext_getElem? hg
def Z3(w:Value)(H:d9):d9:=
 match w with
 | .slice (some a) n c=>if c=n then H else H.put a.block .dead
 |_=>H
theorem V1(w:Value)(H:d9):(Z3 w H).next=H.next:=by
 unfold Z3;split
 ·split
  ·rfl
  ·rw[j5]
 ·rfl
theorem kg{P:Program}{t e:TypeId}{bytes lo sz n k:Nat}{z cs el:LV}{H:d9}{w:Value}{a:Option Addr}(ht:P.underlying t=some (.slice e))(hs:z9 P e=some sz)(hb:A7 P e=some bytes)(hz:B8 P e=some z)(h0:0<sz)(h1:0<bytes)
  (h:aP H lo sz w n cs) (hx:A3 H sz (.slice a 1 k)=some el) (hr:(n+1)*bytes≤140737488355328):
  C3 P H [t,t] w (.slice a 1 k)=some (.slice (some ⟨H.next,0,none⟩) (n+1) (n+1+1),some ((Z3 w H).push (.cells (cs++el) true sz))):=by
 have hte:I2 P t=some e:=by simp [I2,ht]
 have hadd:Z4 P H sz (some t) (.slice a 1 k)=some (1,el):=by
  simp only[Z4,Option.bind_some,ht,hx,Option.map_some]
 have hsz:¬(sz=0∨bytes=0):=oM;rcases h with⟨rfl,rfl,rfl⟩|⟨b,c,rfl,hg,hlb,hlen⟩
 ·simp only[C3,List.head?_cons,Option.bind_some,hte,hs,hb,hz,List.getElem?_cons_succ,List.getElem?_cons_zero,if_neg hsz,hadd,Z3];rw[if_neg oM,if_pos (by simpa using hr)];simp
 ·have hcs:((cs.drop 0).take (n*sz))=cs:=by rw[List.drop_zero,List.take_of_length_le oM]
  by_cases hc:c=n
  ·simp only[C3,List.head?_cons,Option.bind_some,hte,hs,hb,hz,List.getElem?_cons_succ,List.getElem?_cons_zero,if_neg hsz,hadd,hg,hcs,Z3,if_pos hc];rw[if_neg oM,if_pos hr,if_pos (by simp;omega)]
  ·simp only[C3,List.head?_cons,Option.bind_some,hte,hs,hb,hz,List.getElem?_cons_succ,List.getElem?_cons_zero,if_neg hsz,hadd,hg,hcs,Z3,if_neg hc];rw[if_neg oM,if_pos hr,if_pos (by simp;omega),if_pos trivial]
theorem wP(H:d9)(w:Value)(pm:Nat)(z c1 c2 A1 A2 B1 B2 N:Blk)(hpm:pm<H.next)(hw:∀b,j9 w b→b<H.next∧b≠pm) (hs:∀a n c,w= .slice (some a) n c→j9 w a.block):
  L9 H.next (((Z3 w ((((H.push z).put H.next c1).put H.next c2).push A1)).push B1).put pm N)=L9 H.next ((((Z3 w ((((H.push z).put H.next c2).put H.next c1).push A2)).push B2).put pm N).put (H.next+2) B1):=by
 have key:(Z3 w=fun H=>H)∨∃b,b<H.next∧b≠pm∧Z3 w=fun H=>H.put b .dead:=by
  cases w with
  |slice a n c=>
   cases a with
   |none=>left;rfl
   |some a=>
    by_cases hc:c=n
    ·left;funext H;simp [Z3,hc]
    ·right
     have:=hw _ (hs a n c rfl);exact⟨a.block,this.1,this.2,by funext H;simp [Z3,hc]⟩
  |_=>left;rfl
 rcases key with hk|⟨b,hb1,hb2,hk⟩
 ·rw[hk];refine qL ?_ fun j=>?_
  ·simp only[L9,A4,t5];omega
  ·simp only[L9,kF,jk,j5,i5]
   repeat' split
   all_goals first|rfl|omega
 ·rw[hk];refine qL ?_ fun j=>?_
  ·simp only[L9,A4,t5];omega
  ·simp only[L9,kF,jk,j5,i5]
   repeat' split
   all_goals first|rfl|omega
end Go.Proofs.YtofbhlhamfkljaaGreatDoor.Ve
