/- A part of the claim: the evaluator and the contracts. Conditions: none here. -/
import Derived.Test.YtofbhlhamfkljaaGreatDoorPd
namespace Go.Proofs.YtofbhlhamfkljaaGreatDoor.Ve
open Go Go.RowKit
open Go.Proofs.Tryz (prog)
set_option linter.unusedVariables false
set_option linter.unusedSimpArgs false
set_option maxRecDepth 1000000
set_option maxHeartbeats 0
theorem QR.upTo{H:d9}{lo k:Nat}{f:Bool}{cs:LV}{q:Q}(h:QR H lo k f cs q):∀{K:Nat},k≤K→QR H lo K f cs q:=by
 intro K;induction K with
 |zero=>
  intro hk;have hk0:k=0:=oM;subst hk0;exact h
 |succ K ih=>
  intro hk;by_cases hq:k≤K
  ·exact(ih hq).up
  ·have hk1:k=K+1:=oM;subst hk1;exact h
def aF(acc:List Q)(x:Q):List Q:=if acc.any (fun y=>M0 x y) then acc else acc++[x]
theorem XE(k:Nat)(H:d9)(lo px:Nat)(elx el:LV)(x y:Q)(hlo:lo≤H.next)(hg:H.get px=cE elx 1)(hx:QR H lo k false elx x)(hy:QR H lo k false el y):
  CL prog t6 105 [.agg el.toArray,pT px] H=some (.bool (M0 x y),none):=by
 have a0:el.all Value.oneCell'=true:=F0 hy;have ld1:=M8 hx;have ld2:=M8 hy;rw[hx.len]at ld1;rw[hy.len]at ld2;simp only[qSz,Bool.false_eq_true,if_false]at ld1 ld2;obtain⟨H1,hH1⟩:∃H1,H1=d9.push ⟨H.bs,H.next⟩ (.cells el true 1):=⟨_,rfl⟩
 have hS:i4 H.next H H1:=by rw[hH1];exact i4.first H _
 have n1:=hS.next;have hpx:=u6 hg;have g1:H1.get H.next=cE el 1:=by rw[hH1];exact i7
 have gx:H1.get px=cE elx 1:=(hS.get _ hpx).trans hg;have hlow:H.next≤H1.low:=by rw[hH1,t5];exact lR
 have hca:=(fw k).1 H1 lo elx el x y oM (hx.mono (fun j hj=>hS.get j oM) lR) (hy.mono (fun j hj=>hS.get j oM) lR);rw[j8 Wv rfl _ (by simp)];exact J7 a0 hH1.symm g1 gx ld1 ld2 hca trivial
structure fj(lo K pm:Nat)(w0:Value)(acc0:List Q)(H0 H:d9)(acc:List Q):Prop where
 ex:∃w,H.get pm=cE [w] 1∧t7 H (pm+1) 3 (QR H0 lo K false) w acc∧((acc=acc0∧w=w0)∨H.low≤pm)∧(∀j,j<H0.next→j≠pm→¬j9 w0 j→H.get j=H0.get j)∧(∀b,j9 w b→j9 w0 b∨H0.next≤b)
 stay:i4 pm H0 H
def dz(fn:Nat)(f:Bool)(k:Nat):Prop:=∀(H:d9)(lo pm K:Nat)(w:Value)(acc:List Q)(cs:LV)(q:Q),k≤K→lo≤pm→H.get pm=cE [w] 1→t7 H (pm+1) 3 (QR H lo K false) w acc→QR H lo k f cs q→OkD f q→acc.length+nQ q≤100000→
 Ret (CL prog t6 fn [pT pm,.agg cs.toArray] H) H fun v H1=>v=undef∧fj lo K pm w acc H H1 ((inQ f q).foldl aF acc)∧H1.low≤H.low
theorem bw(l:List Q):∀acc:List Q,(l.foldl aF acc).length≤acc.length+l.length:=by
 induction l with
 |nil=>intro acc;simp
 |cons x l ih=>
  intro acc;have:=ih (aF acc x);rw[List.foldl_cons,List.length_cons];have h2:(aF acc x).length≤acc.length+1:=by unfold aF;split<;>simp
  omega
theorem kM(f:Bool)(l:List Q)(i:Nat)(x:Q)(h:l.drop i=x::l.drop (i+1)):inL f (l.drop i)=inQ f x++inL f (l.drop (i+1)):=by rw[h,inL]
theorem Nd(k:Nat)(ih:dz 58 false k)(H0:d9)(lo pm K:Nat)(hk:k≤K)(hlo:lo≤pm)(w0:Value)(acc0:List Q)(va:Option Addr)(ca:Nat)(l:List Q)(hv:QsR H0 lo k false (.slice va l.length ca) l)(hn:l.length≤1048576)(hw:∀x∈l,OkD false x) (p3:Value) (res:List Q):
  ∀kk e H2,(∃(i:Nat)(acc:List Q),kk=l.length-i∧i≤l.length∧e.get 0=pT pm∧e.get 3=p3∧e.get 9= .slice va l.length ca∧e.get 10=iV l.length∧e.get 11=iV i∧fj lo K pm w0 acc0 H0 H2 acc∧acc.length+nL (l.drop i)≤100000∧(inL false (l.drop i)).foldl aF acc=res)→
  u9 (LE prog t6 (.loop FQ) e H2) (fun o e H2=>o= .exit 0∧e.get 0=pT pm∧e.get 3=p3∧fj lo K pm w0 acc0 H0 H2 res):=by
 refine j7 _ _ ?_;rintro kk e H2 ⟨i,acc,hkk,hi,f0,f3,fL,fM,fJ,hM,hfit,fu⟩;rcases b:decide ((i:Int)<l.length)with _|_
 ·have hb':=dF b;have:l.drop i=[]:=dN oM;rw[this,inL,List.foldl_nil]at fu;refine J3 fM fJ b ?_;exact l7 ⟨rfl,f0,f3,by rw[←fu];exact hM⟩
 have hb':=dT b;obtain⟨⟨w,hgm,hO,hor,hbut,hnew⟩,hS⟩:=hM;have hn2:=hS.next;have hpm:=u6 hgm;obtain⟨x,nb,o,cs,own,el,hx,hd,rfl,hlt,hg,hle,hrow,hr⟩:=hv.row (i:=i) oM;have hxm:=List.mem_of_getElem? hx;have nt:(i:Int).toNat=i:=tN i;simp only[qSz,if_true,Bool.false_eq_true,if_false]at hrow hg hle;rw[kM _ _ _ _ hd,List.foldl_append]at fu;have hfit2:acc.length+(nQ x+nL (l.drop (i+1)))≤100000:=by rw[hd,nL]at hfit;exact hfit
 have a1:el.all Value.oneCell'=true:=F0 hr;have e1:=hr.len;simp only[qSz,if_true,Bool.false_eq_true,if_false]at e1;have ld1:=M8 hr;rw[e1]at ld1;have gx:=(hS.get nb oM).trans hg;obtain⟨H3,hH3⟩:∃H3,H3=(H2.push (.cells [iV 0,nS,nS] true 1)).put H2.next (.cells el true 1):=⟨_,rfl⟩
 have n3:H3.next=H2.next+1:=by rw[hH3,j5,i5]
 have s3:i4 H2.next H2 H3:=by rw[hH3];exact(i4.push lR).trans (i4.put lR)
 have l3:H3.low≤H2.low:=by rw[hH3,A4,t5];omega
 have g3:H3.get H2.next=cE el 1:=by rw[hH3];exact i8 (by rw[i5];omega)
 have sp1:splice [iV 0,nS,nS] 0 el=el:=w7 _ _ (by rw[e1];rfl);have eq0:∀j,j<lo→H3.get j=H0.get j:=fun j hj=>by rw[s3.get j oM,hS.get j oM]
 have toH:∀{cs:LV}{q:Q},QR H3 lo K false cs q→QR H0 lo K false cs q:=fun h=>h.mono (fun j hj=>(eq0 j hj).symm) lR;obtain⟨v4,h4,H4,hca,hge,rfl,⟨⟨w4,gm4,hO4,hor4,hbut4,hnew4⟩,hS4⟩,hl4⟩:=ih H3 lo pm K w acc el x hk hlo ((s3.get pm oM).trans hgm) ((hO.keep s3).imp fun cs q h=>h.mono eq0 lR) (hr.mono eq0 lR) (hw x hxm) oM;have but4:∀j,j<H0.next→j≠pm→¬j9 w0 j→H4.get j=H0.get j:=fun j hj h1 h2=>by
  rw[hbut4 j oM h1 (fun q=>by rcases hnew j q with r|r;exact h2 r;omega),s3.get j oM,hbut j hj h1 h2]
 have new4:∀b,j9 w4 b→j9 w0 b∨H0.next≤b:=fun b hb=>by
  rcases hnew4 b hb with r|r
  ·exact hnew b r
  ·exact .inr oM
 have hl:=bw (inQ false x) acc;have hin:=(bH _ false x lR (hw x hxm)).1;refine J17 f0 fL fM fJ b gx nt hrow a1 e1 sp1 hH3.symm g3 ld1 hca hge @wrap_small ?_;refine i6 (kk-1) oM ⟨i+1,_,oM,oM,f0,f3,fL,fM,rfl,⟨⟨w4,gm4,hO4.imp fun cs q h=>toH h,?_,but4,new4⟩,(hS.trans (s3.weaken oM)).trans hS4⟩,oM,fu⟩;rcases hor4 with⟨q1,q2⟩|q
 ·rcases hor with⟨q3,q4⟩|q
  ·exact .inl ⟨by rw[q1,q3],by rw[q2,q4]⟩
  ·exact .inr oM
 ·exact .inr q
theorem Nf(k:Nat)(ih:dz 82 true k)(H0:d9)(lo pm K:Nat)(hk:k≤K)(hlo:lo≤pm)(w0:Value)(acc0:List Q)(va:Option Addr)(ca:Nat)(l:List Q)(hv:QsR H0 lo k true (.slice va l.length ca) l)(hn:l.length≤1048576)(hw:∀x∈l,OkD true x) (p3:Value) (res:List Q):
  ∀kk e H2,(∃(i:Nat)(acc:List Q),kk=l.length-i∧i≤l.length∧e.get 0=pT pm∧e.get 3=p3∧e.get 20= .slice va l.length ca∧e.get 21=iV l.length∧e.get 22=iV i∧fj lo K pm w0 acc0 H0 H2 acc∧acc.length+nL (l.drop i)≤100000∧(inL true (l.drop i)).foldl aF acc=res)→
  u9 (LE prog t6 (.loop FR) e H2) (fun o e H2=>o= .exit 2∧e.get 0=pT pm∧e.get 3=p3∧fj lo K pm w0 acc0 H0 H2 res):=by
 refine j7 _ _ ?_;rintro kk e H2 ⟨i,acc,hkk,hi,f0,f3,fL,fM,fJ,hM,hfit,fu⟩;rcases b:decide ((i:Int)<l.length)with _|_
 ·have hb':=dF b;have:l.drop i=[]:=dN oM;rw[this,inL,List.foldl_nil]at fu;refine J3 fM fJ b ?_;exact l7 ⟨rfl,f0,f3,by rw[←fu];exact hM⟩
 have hb':=dT b;obtain⟨⟨w,hgm,hO,hor,hbut,hnew⟩,hS⟩:=hM;have hn2:=hS.next;have hpm:=u6 hgm;obtain⟨x,nb,o,cs,own,el,hx,hd,rfl,hlt,hg,hle,hrow,hr⟩:=hv.row (i:=i) oM;have hxm:=List.mem_of_getElem? hx;have nt:(i:Int).toNat=i:=tN i;simp only[qSz,if_true,Bool.false_eq_true,if_false]at hrow hg hle;rw[kM _ _ _ _ hd,List.foldl_append]at fu;have hfit2:acc.length+(nQ x+nL (l.drop (i+1)))≤100000:=by rw[hd,nL]at hfit;exact hfit
 have a1:el.all Value.oneCell'=true:=F0 hr;have e1:=hr.len;simp only[qSz,if_true,Bool.false_eq_true,if_false]at e1;have ld1:=M8 hr;rw[e1]at ld1;have gx:=(hS.get nb oM).trans hg;obtain⟨H3,hH3⟩:∃H3,H3=(H2.push (.cells [iV 0,.string eB,.string eB,.string eB,nS,nS] true 1)).put H2.next (.cells el true 1):=⟨_,rfl⟩
 have n3:H3.next=H2.next+1:=by rw[hH3,j5,i5]
 have s3:i4 H2.next H2 H3:=by rw[hH3];exact(i4.push lR).trans (i4.put lR)
 have l3:H3.low≤H2.low:=by rw[hH3,A4,t5];omega
 have g3:H3.get H2.next=cE el 1:=by rw[hH3];exact i8 (by rw[i5];omega)
 have sp1:splice [iV 0,.string eB,.string eB,.string eB,nS,nS] 0 el=el:=w7 _ _ (by rw[e1];rfl);have eq0:∀j,j<lo→H3.get j=H0.get j:=fun j hj=>by rw[s3.get j oM,hS.get j oM]
 have toH:∀{cs:LV}{q:Q},QR H3 lo K false cs q→QR H0 lo K false cs q:=fun h=>h.mono (fun j hj=>(eq0 j hj).symm) lR;obtain⟨v4,h4,H4,hca,hge,rfl,⟨⟨w4,gm4,hO4,hor4,hbut4,hnew4⟩,hS4⟩,hl4⟩:=ih H3 lo pm K w acc el x hk hlo ((s3.get pm oM).trans hgm) ((hO.keep s3).imp fun cs q h=>h.mono eq0 lR) (hr.mono eq0 lR) (hw x hxm) oM;have but4:∀j,j<H0.next→j≠pm→¬j9 w0 j→H4.get j=H0.get j:=fun j hj h1 h2=>by
  rw[hbut4 j oM h1 (fun q=>by rcases hnew j q with r|r;exact h2 r;omega),s3.get j oM,hbut j hj h1 h2]
 have new4:∀b,j9 w4 b→j9 w0 b∨H0.next≤b:=fun b hb=>by
  rcases hnew4 b hb with r|r
  ·exact hnew b r
  ·exact .inr oM
 have hl:=bw (inQ true x) acc;have hin:=(bH _ true x lR (hw x hxm)).1;refine J17 f0 fL fM fJ b gx nt hrow a1 e1 sp1 hH3.symm g3 ld1 hca hge @wrap_small ?_;refine i6 (kk-1) oM ⟨i+1,_,oM,oM,f0,f3,fL,fM,rfl,⟨⟨w4,gm4,hO4.imp fun cs q h=>toH h,?_,but4,new4⟩,(hS.trans (s3.weaken oM)).trans hS4⟩,oM,fu⟩;rcases hor4 with⟨q1,q2⟩|q
 ·rcases hor with⟨q3,q4⟩|q
  ·exact .inl ⟨by rw[q1,q3],by rw[q2,q4]⟩
  ·exact .inr oM
 ·exact .inr q
theorem Ng(k:Nat)(ih:dz 82 true k)(H0:d9)(lo pm K:Nat)(hk:k≤K)(hlo:lo≤pm)(w0:Value)(acc0:List Q)(va:Option Addr)(ca:Nat)(l:List Q)(hv:QsR H0 lo k true (.slice va l.length ca) l)(hn:l.length≤1048576)(hw:∀x∈l,OkD true x) (p3:Value) (res:List Q):
  ∀kk e H2,(∃(i:Nat)(acc:List Q),kk=l.length-i∧i≤l.length∧e.get 0=pT pm∧e.get 3=p3∧e.get 9= .slice va l.length ca∧e.get 10=iV l.length∧e.get 11=iV i∧fj lo K pm w0 acc0 H0 H2 acc∧acc.length+nL (l.drop i)≤100000∧(inL true (l.drop i)).foldl aF acc=res)→
  u9 (LE prog t6 (.loop Gk) e H2) (fun o e H2=>o= .exit 0∧e.get 0=pT pm∧e.get 3=p3∧fj lo K pm w0 acc0 H0 H2 res):=by
 refine j7 _ _ ?_;rintro kk e H2 ⟨i,acc,hkk,hi,f0,f3,fL,fM,fJ,hM,hfit,fu⟩;rcases b:decide ((i:Int)<l.length)with _|_
 ·have hb':=dF b;have:l.drop i=[]:=dN oM;rw[this,inL,List.foldl_nil]at fu;refine J3 fM fJ b ?_;exact l7 ⟨rfl,f0,f3,by rw[←fu];exact hM⟩
 have hb':=dT b;obtain⟨⟨w,hgm,hO,hor,hbut,hnew⟩,hS⟩:=hM;have hn2:=hS.next;have hpm:=u6 hgm;obtain⟨x,nb,o,cs,own,el,hx,hd,rfl,hlt,hg,hle,hrow,hr⟩:=hv.row (i:=i) oM;have hxm:=List.mem_of_getElem? hx;have nt:(i:Int).toNat=i:=tN i;simp only[qSz,if_true,Bool.false_eq_true,if_false]at hrow hg hle;rw[kM _ _ _ _ hd,List.foldl_append]at fu;have hfit2:acc.length+(nQ x+nL (l.drop (i+1)))≤100000:=by rw[hd,nL]at hfit;exact hfit
 have a1:el.all Value.oneCell'=true:=F0 hr;have e1:=hr.len;simp only[qSz,if_true,Bool.false_eq_true,if_false]at e1;have ld1:=M8 hr;rw[e1]at ld1;have gx:=(hS.get nb oM).trans hg;obtain⟨H3,hH3⟩:∃H3,H3=(H2.push (.cells [iV 0,.string eB,.string eB,.string eB,nS,nS] true 1)).put H2.next (.cells el true 1):=⟨_,rfl⟩
 have n3:H3.next=H2.next+1:=by rw[hH3,j5,i5]
 have s3:i4 H2.next H2 H3:=by rw[hH3];exact(i4.push lR).trans (i4.put lR)
 have l3:H3.low≤H2.low:=by rw[hH3,A4,t5];omega
 have g3:H3.get H2.next=cE el 1:=by rw[hH3];exact i8 (by rw[i5];omega)
 have sp1:splice [iV 0,.string eB,.string eB,.string eB,nS,nS] 0 el=el:=w7 _ _ (by rw[e1];rfl);have eq0:∀j,j<lo→H3.get j=H0.get j:=fun j hj=>by rw[s3.get j oM,hS.get j oM]
 have toH:∀{cs:LV}{q:Q},QR H3 lo K false cs q→QR H0 lo K false cs q:=fun h=>h.mono (fun j hj=>(eq0 j hj).symm) lR;obtain⟨v4,h4,H4,hca,hge,rfl,⟨⟨w4,gm4,hO4,hor4,hbut4,hnew4⟩,hS4⟩,hl4⟩:=ih H3 lo pm K w acc el x hk hlo ((s3.get pm oM).trans hgm) ((hO.keep s3).imp fun cs q h=>h.mono eq0 lR) (hr.mono eq0 lR) (hw x hxm) oM;have but4:∀j,j<H0.next→j≠pm→¬j9 w0 j→H4.get j=H0.get j:=fun j hj h1 h2=>by
  rw[hbut4 j oM h1 (fun q=>by rcases hnew j q with r|r;exact h2 r;omega),s3.get j oM,hbut j hj h1 h2]
 have new4:∀b,j9 w4 b→j9 w0 b∨H0.next≤b:=fun b hb=>by
  rcases hnew4 b hb with r|r
  ·exact hnew b r
  ·exact .inr oM
 have hl:=bw (inQ true x) acc;have hin:=(bH _ true x lR (hw x hxm)).1;refine J17 f0 fL fM fJ b gx nt hrow a1 e1 sp1 hH3.symm g3 ld1 hca hge @wrap_small ?_;refine i6 (kk-1) oM ⟨i+1,_,oM,oM,f0,f3,fL,fM,rfl,⟨⟨w4,gm4,hO4.imp fun cs q h=>toH h,?_,but4,new4⟩,(hS.trans (s3.weaken oM)).trans hS4⟩,oM,fu⟩;rcases hor4 with⟨q1,q2⟩|q
 ·rcases hor with⟨q3,q4⟩|q
  ·exact .inl ⟨by rw[q1,q3],by rw[q2,q4]⟩
  ·exact .inr oM
 ·exact .inr q
def inB(l:List Q):List Q:=l.flatMap fun x=>inQ false x++[x]
theorem rP(cs:LV)(x y z a b c:Value):splice (cs++[x,y,z]) cs.length [a,b,c]=cs++[a,b,c]:=by
 simp only[splice];rw[List.set_append_right _ _ oM,List.set_append_right _ _ oM,List.set_append_right _ _ oM];rw[show cs.length-cs.length=0 from oM,show cs.length+1-cs.length=1 from oM,show cs.length+1+1-cs.length=2 from oM];rfl
theorem Nh(k:Nat)(ih:dz 58 false k)(H0:d9)(lo pm K:Nat)(hk:k≤K)(hlo:lo≤pm)(w0:Value)(acc0:List Q)(va:Option Addr)(ca:Nat)(l:List Q)(hv:QsR H0 lo k false (.slice va l.length ca) l)(hn:l.length≤1048576)(hw:∀x∈l,OkD false x) (res:List Q):
  ∀kk e H2,(∃(i:Nat)(acc:List Q),kk=l.length-i∧i≤l.length∧e.get 0=pT pm∧e.get 20= .slice va l.length ca∧e.get 21=iV l.length∧e.get 22=iV i∧fj lo K pm w0 acc0 H0 H2 acc∧acc.length+nL (l.drop i)≤100000∧(inB (l.drop i)).foldl aF acc=res)→
  u9 (LE prog t6 (.loop Gl) e H2) (fun o e H2=>o= .exit 2∧fj lo K pm w0 acc0 H0 H2 res):=by
 refine j7 _ _ ?_;rintro kk e H2 ⟨i,acc,hkk,hi,f0,fL,fM,fJ,hM,hfit,fu⟩;rcases b:decide ((i:Int)<l.length)with _|_
 ·have hb':=dF b;have:l.drop i=[]:=dN oM;rw[this,inB,List.flatMap_nil,List.foldl_nil]at fu;refine J3 fM fJ b ?_;exact l7 ⟨rfl,by rw[←fu];exact hM⟩
 have hb':=dT b;obtain⟨⟨w,hgm,hO,hor,hbut,hnew⟩,hS⟩:=hM;have hn2:=hS.next;have hpm:=u6 hgm;obtain⟨x,nb,o,cs,own,el,hx,hd,rfl,hlt,hg,hle,hrow,hr⟩:=hv.row (i:=i) oM;have hxm:=List.mem_of_getElem? hx;have nt:(i:Int).toNat=i:=tN i;simp only[qSz,if_true,Bool.false_eq_true,if_false]at hrow hg hle;rw[hd,inB,List.flatMap_cons,List.foldl_append,List.foldl_append,List.foldl_cons,List.foldl_nil]at fu;have hfit2:acc.length+(nQ x+nL (l.drop (i+1)))≤100000:=by rw[hd,nL]at hfit;exact hfit
 have a1:el.all Value.oneCell'=true:=F0 hr;have e1:=hr.len;simp only[qSz,if_true,Bool.false_eq_true,if_false]at e1;have ld1:=M8 hr;rw[e1]at ld1;have gx:=(hS.get nb oM).trans hg;obtain⟨H3,hH3⟩:∃H3,H3=(H2.push (.cells [iV 0,nS,nS] true 1)).put H2.next (.cells el true 1):=⟨_,rfl⟩
 have n3:H3.next=H2.next+1:=by rw[hH3,j5,i5]
 have s3:i4 H2.next H2 H3:=by rw[hH3];exact(i4.push lR).trans (i4.put lR)
 have l3:H3.low≤H2.low:=by rw[hH3,A4,t5];omega
 have g3:H3.get H2.next=cE el 1:=by rw[hH3];exact i8 (by rw[i5];omega)
 have sp1:splice [iV 0,nS,nS] 0 el=el:=w7 _ _ (by rw[e1];rfl);have eq0:∀j,j<lo→H3.get j=H0.get j:=fun j hj=>by rw[s3.get j oM,hS.get j oM]
 have toH:∀{cs:LV}{q:Q},QR H3 lo K false cs q→QR H0 lo K false cs q:=fun h=>h.mono (fun j hj=>(eq0 j hj).symm) lR;obtain⟨v4,h4,H4,hca,hge,rfl,⟨⟨w4,gm4,hO4,hor4,hbut4,hnew4⟩,hS4⟩,hl4⟩:=ih H3 lo pm K w acc el x hk hlo ((s3.get pm oM).trans hgm) ((hO.keep s3).imp fun cs q h=>h.mono eq0 lR) (hr.mono eq0 lR) (hw x hxm) oM;have but4:∀j,j<H0.next→j≠pm→¬j9 w0 j→H4.get j=H0.get j:=fun j hj h1 h2=>by
  rw[hbut4 j oM h1 (fun q=>by rcases hnew j q with r|r;exact h2 r;omega),s3.get j oM,hbut j hj h1 h2]
 have new4:∀b,j9 w4 b→j9 w0 b∨H0.next≤b:=fun b hb=>by
  rcases hnew4 b hb with r|r
  ·exact hnew b r
  ·exact .inr oM
 have hl:=bw (inQ false x) acc;have hin:=(bH _ false x lR (hw x hxm)).1;obtain⟨acc4,hacc4⟩:∃a,a=(inQ false x).foldl aF acc:=⟨_,rfl⟩
 rw[←hacc4]at fu hO4 hor4 hl;have n4:=hS4.next;have g4:H4.get H2.next=cE el 1:=(hbut4 _ oM oM (fun q=>by have:=hO.lt q;omega)).trans g3;have eq4:∀j,j<lo→H4.get j=H0.get j:=fun j hj=>by rw[hS4.get j oM,eq0 j hj]
 have hO4':t7 H4 (pm+1) 3 (QR H0 lo K false) w4 acc4:=hO4.imp fun cs q h=>toH h;have hor5:(acc4=acc0∧w4=w0)∨H4.low≤pm:=by
  rcases hor4 with⟨q1,q2⟩|q
  ·rcases hor with⟨q3,q4⟩|q
   ·exact .inl ⟨by rw[q1,q3],by rw[q2,q4]⟩
   ·exact .inr oM
  ·exact .inr q
 have hS04:=(hS.trans (s3.weaken oM)).trans hS4;obtain⟨a4,c4,ew4⟩:=hO4'.slice;have hany:=kJ (α:=Q) H4 (· <H4.next) (QR H4 lo K false) (.func (.func 105) #[] #[pT H2.next]) (fun y=>M0 x y) w4 acc4 ((hO4'.frz fun b hb=>(hO4'.lt hb).2).mono (fun _ _=>rfl) (fun _ h=>h) (fun _ _ h=>h.mono eq4 lR)) oM (fun i y ely hy hyR=>XE K _ lo H2.next el ely x y (show lo≤H4.next from oM) g4 ((hr.upTo hk).mono (H':=⟨H4.bs,H4.next⟩) (fun j hj=>eq4 j hj) lR) (hyR.mono (H:=H4) (H':=⟨H4.bs,H4.next⟩) (fun _ _=>rfl) lR));rcases b2:acc4.any (fun y=>M0 x y)with _|_
 ·rw[b2]at hany;have hadd:aF acc4 x=acc4++[x]:=by rw[aF,b2];rfl
  rw[hadd]at fu;have hO4s:=hO4';obtain⟨cs4,hC4,hR4⟩:=hO4s;obtain⟨K0,hK0⟩:∃K,K=((H4.push (.cells [.bool false] true 1)).put H4.next (.cells [.bool true] true 1)).put H4.next (.cells [.bool false] true 1):=⟨_,rfl⟩
  obtain⟨J0,hJ0⟩:∃K,K=((H4.push (.cells [.bool false] true 1)).put H4.next (.cells [.bool false] true 1)).put H4.next (.cells [.bool true] true 1):=⟨_,rfl⟩
  have nK0:K0.next=H4.next+1:=by rw[hK0,j5,j5,i5]
  have nJ0:J0.next=H4.next+1:=by rw[hJ0,j5,j5,i5]
  have sK0:i4 H4.next H4 K0:=by rw[hK0];exact((i4.push lR).trans (i4.put lR)).trans (i4.put lR)
  have sJ0:i4 H4.next H4 J0:=by rw[hJ0];exact((i4.push lR).trans (i4.put lR)).trans (i4.put lR)
  have gK0:K0.get H4.next=cE [.bool false] 1:=by rw[hK0];exact i8 (by rw[j5,i5];omega)
  have gJ0:J0.get H4.next=cE [.bool true] 1:=by rw[hJ0];exact i8 (by rw[j5,i5];omega)
  have hpm4:=u6 gm4;have gmK0:=(sK0.get pm hpm4).trans gm4;have gmJ0:=(sJ0.get pm hpm4).trans gm4;have gxK0:=(sK0.get H2.next oM).trans g4;have gxJ0:=(sJ0.get H2.next oM).trans g4;obtain⟨K1,hK1⟩:∃K,K=K0.push (.cells el true 3):=⟨_,rfl⟩
  obtain⟨J1,hJ1⟩:∃K,K=J0.push (.cells [iV 0,nS,nS] true 3):=⟨_,rfl⟩
  have nK1:K1.next=H4.next+2:=by rw[hK1,i5,nK0]
  have nJ1:J1.next=H4.next+2:=by rw[hJ1,i5,nJ0]
  have sK1:i4 H4.next H4 K1:=by rw[hK1];exact sK0.trans (i4.push oM)
  have sJ1:i4 H4.next H4 J1:=by rw[hJ1];exact sJ0.trans (i4.push oM)
  have gmK1:=(sK1.get pm hpm4).trans gm4;have gmJ1:=(sJ1.get pm hpm4).trans gm4;have gxJ1:=(sJ1.get H2.next oM).trans g4;have slK:A3 K1 3 (.slice (some ⟨K0.next,0,none⟩) 1 1)=some el:=by
   have:K1.get K0.next=cE el 3:=by rw[hK1];exact i7
   simp only[A3,this,e1];simp [List.take_of_length_le (by omega:el.length≤3)]
  have slJ:A3 J1 3 (.slice (some ⟨J0.next,0,none⟩) 1 1)=some [iV 0,nS,nS]:=by
   have:J1.get J0.next=cE [iV 0,nS,nS] 3:=by rw[hJ1];exact i7
   simp only[A3,this];simp
  have apK:=kg (P:=prog) (t:=22) (by exact jL.2.2.2.2.2.2) X8.1 X8.2.1 X8.2.2.1 oM oM (hC4.mono (H':=K1) lR (fun j hj=>sK1.get j hj)) slK oM;have apJ:=kg (P:=prog) (t:=22) (by exact jL.2.2.2.2.2.2) X8.1 X8.2.1 X8.2.2.1 oM oM (hC4.mono (H':=J1) lR (fun j hj=>sJ1.get j hj)) slJ oM;obtain⟨K2,hK2⟩:∃K,K=(Z3 w4 K1).push (.cells (cs4++el) true 3):=⟨_,rfl⟩
  obtain⟨J2,hJ2⟩:∃K,K=(Z3 w4 J1).push (.cells (cs4++[iV 0,nS,nS]) true 3):=⟨_,rfl⟩
  rw[←hK2,nK1]at apK;rw[←hJ2,nJ1]at apJ;have hlen4:cs4.length=acc4.length*3:=hR4.1;have hwb:∀b,j9 w4 b→b<H4.next∧b≠pm:=fun b hb=>by have:=hO4'.lt hb;omega
  have hws:∀a n c,w4= .slice (some a) n c→j9 w4 a.block:=fun a n c h=>by
   rcases hC4 with⟨q,_⟩|⟨b,c',q,_⟩
   ·rw[q]at h;cases h
   ·rw[q]at h ⊢;cases h;exact⟨_,_,rfl⟩
  have kW:∀(H:d9) j,j<H.next→¬j9 w4 j→(Z3 w4 H).get j=H.get j:=fun H j hj hb=>by
   unfold Z3;split
   ·rename_i a n c;split
    ·rfl
    ·rw[i9 (fun q=>hb (by rw[←q];exact hws a n c rfl))]
   ·rfl
  have nK2:K2.next=H4.next+3:=by rw[hK2,i5,V1,nK1]
  have nJ2:J2.next=H4.next+3:=by rw[hJ2,i5,V1,nJ1]
  have oK2:∀j,j<H4.next→¬j9 w4 j→K2.get j=H4.get j:=fun j hj hb=>by rw[hK2,j6 (by rw[V1];omega),kW K1 j oM hb,sK1.get j hj]
  have oJ2:∀j,j<H4.next→¬j9 w4 j→J2.get j=H4.get j:=fun j hj hb=>by rw[hJ2,j6 (by rw[V1];omega),kW J1 j oM hb,sJ1.get j hj]
  have nbp:¬j9 w4 pm:=fun q=>(hwb pm q).2 rfl;have nbx:¬j9 w4 H2.next:=fun q=>by
   rcases hnew4 _ q with r|r
   ·have:=hO.lt r;omega
   ·omega
  have gmK2:=(oK2 pm hpm4 nbp).trans gm4;have gmJ2:=(oJ2 pm hpm4 nbp).trans gm4;obtain⟨w5,hw5⟩:∃w,w=Value.slice (some ⟨H4.next+2,0,none⟩) (acc4.length+1) (acc4.length+1+1):=⟨_,rfl⟩
  obtain⟨K3,hK3⟩:∃K,K=K2.put pm (.cells [.slice (some ⟨H4.next+2,0,none⟩) (acc4.length+1) (acc4.length+1+1)] true 1):=⟨_,rfl⟩
  obtain⟨J3,hJ3⟩:∃K,K=J2.put pm (.cells [.slice (some ⟨H4.next+2,0,none⟩) (acc4.length+1) (acc4.length+1+1)] true 1):=⟨_,rfl⟩
  have nK3:K3.next=H4.next+3:=by rw[hK3,j5,nK2]
  have nJ3:J3.next=H4.next+3:=by rw[hJ3,j5,nJ2]
  have gxJ3:J3.get H2.next=cE el 1:=by rw[hJ3,i9 oM,oJ2 _ oM nbx];exact g4
  have gnJ3:J3.get (H4.next+2)=cE (cs4++[iV 0,nS,nS]) 3:=by
   rw[hJ3,i9 oM,hJ2,y7 (by rw[V1,nJ1];omega)]
  have sp2:splice (cs4++[iV 0,nS,nS]) (acc4.length*3) el=cs4++el:=by
   rw[←hlen4]
   match el,e1 with
   |[a,b,c],_=>exact rP _ _ _ _ _ _ _
  obtain⟨J4,hJ4⟩:∃K,K=J3.put (H4.next+2) (.cells (cs4++el) true 3):=⟨_,rfl⟩
  have hk2:L9 H4.next K3=L9 H4.next J4:=by
   rw[hK3,hK2,hK1,hK0,hJ4,hJ3,hJ2,hJ1,hJ0];exact wP H4 w4 pm _ _ _ _ _ _ _ _ hpm4 hwb hws
  have hk2':=eq_true hk2;have nl:(acc4.length:Int).toNat=acc4.length:=Int.toNat_natCast _;have lz:(cs4++[iV 0,nS,nS]).length=acc4.length*3+3:=by simp [hlen4]
  have blt:decide ((acc4.length:Int)<((acc4.length+1:Nat):Int))=true:=decide_eq_true oM;have lei:(0:Int)≤acc4.length:=oM;have bslK:bsA prog (some 25) K0 1 [(0,.agg el.toArray)]=some (.slice (some ⟨K0.next,0,none⟩) 1 1,K1):=by
   rw[hK1];cases k with
   |zero=>exact hr.elim
   |succ k=>obtain⟨_,_,_,_,rfl,_⟩:=hr.path;simp only[C7,X8,C8];rfl
  rw[ew4]at hany apK apJ;refine J30 f0 fL fM fJ b gx nt hrow a1 e1 sp1 hH3.symm g3 ld1 hca hge gm4 (And.intro hany hK0.symm) (And.intro hJ0.symm gK0) (And.intro gJ0 gmK0) (And.intro gmJ0 gxK0) (And.intro hJ1.symm bslK) (And.intro gmK1 ew4) (And.intro apK apJ) (And.intro gmK2 gmJ2) (And.intro hK3.symm hJ3.symm) (And.intro gxJ3 gnJ3) (And.intro nl lz) (And.intro sp2 hJ4.symm) (And.intro hk2' @wrap_small) ?_;obtain⟨Kf,hKf⟩:∃K,K=L9 H4.next K3:=⟨_,rfl⟩
  rw[←hKf];have gf:∀j,j≠H4.next→j≠H4.next+1→Kf.get j=K3.get j:=fun j h1 h2=>by rw[hKf,L9,i9 (fun q=>h2 q.symm),i9 (fun q=>h1 q.symm)]
  have gKf:∀j,j<H4.next→j≠pm→¬j9 w4 j→Kf.get j=H4.get j:=fun j hj h1 h2=>by rw[gf j oM oM,hK3,i9 (fun q=>h1 q.symm),oK2 j hj h2]
  have gKp:Kf.get pm=cE [w5] 1:=by rw[gf pm oM oM,hK3,hw5];exact i8 oM
  have gKn:Kf.get (H4.next+2)=cE (cs4++el) 3:=by
   rw[gf _ oM oM,hK3,i9 oM,hK2,y7 (by rw[V1,nK1];omega)]
  have hstK:i4 pm K1 (Z3 w4 K1):=by
   unfold Z3;split
   ·rename_i a n c;split
    ·exact i4.refl _ _
    ·exact i4.put (by have:=hO4'.lt (hws a n c rfl);omega)
   ·exact i4.refl _ _
  have hSf:i4 pm H4 Kf:=by
   rw[hKf,L9,hK3,hK2];exact(((((sK1.weaken oM).trans hstK).trans (i4.push (by rw[V1];omega))).trans (i4.put lR)).trans (i4.put oM)).trans (i4.put oM)
  have hlf:Kf.low≤pm:=by rw[hKf,L9,A4,A4,hK3,A4];omega
  have hOf:t7 Kf (pm+1) 3 (QR H0 lo K false) w5 (acc4++[x]):=⟨cs4++el,.inr ⟨H4.next+2,acc4.length+1+1,by rw[hw5];simp,gKn,oM,by simp [hlen4,e1];omega⟩,hR4.append (D2.one e1 (hr.upTo hk))⟩
  refine i6 (kk-1) oM ⟨i+1,acc4++[x],oM,oM,f0,fL,fM,rfl,⟨⟨w5,gKp,hOf,.inr hlf,fun j hj h1 h2=>?_,fun b hb=>?_⟩,hS04.trans hSf⟩,by rw[List.length_append,List.length_singleton];omega,fu⟩
  ·rw[gKf j oM h1 (fun q=>by rcases new4 j q with r|r;exact h2 r;omega),but4 j hj h1 h2]
  ·rw[hw5,I6]at hb;exact .inr oM
 ·rw[b2]at hany;have hadd:aF acc4 x=acc4:=by rw[aF,b2];rfl
  rw[hadd]at fu;refine J19 f0 fL fM fJ b gx nt hrow a1 e1 sp1 hH3.symm g3 ld1 hca hge gm4 hany @wrap_small ?_;exact i6 (kk-1) oM ⟨i+1,acc4,oM,oM,f0,fL,fM,rfl,⟨⟨w4,gm4,hO4',hor5,but4,new4⟩,hS04⟩,oM,fu⟩
theorem fj.low{lo K pm:Nat}{w0:Value}{acc0 acc:List Q}{H0 H:d9}(h:fj lo K pm w0 acc0 H0 H acc)(n:Nat)(hn:n≤H.low)(hl:∀k,k≤pm→k≤H0.low→k≤n):fj lo K pm w0 acc0 H0 ⟨H.bs,n⟩ acc:=by
 obtain⟨⟨w,h1,h2,h3,h4,h5⟩,hS⟩:=h;refine⟨⟨w,h1,h2.low n,?_,h4,h5⟩,hS.next,hl,hS.get⟩;rcases h3 with h3|h3
 ·exact .inl h3
 ·exact .inr (Nat.le_trans hn h3)
theorem vG{lo K pm:Nat}{w:Value}{acc acc':List Q}{H H1 H':d9}(hS1:i4 H.next H H1)(hlow1:H.next≤H1.low)(hlo:lo≤pm)(hpm:pm<H.next)(hg:H.get pm=cE [w] 1)(hO:t7 H (pm+1) 3 (QR H lo K false) w acc)(h:fj lo K pm w acc H1 H' acc'):
  Ret (some (D4 undef H H')) H fun v H1=>v=undef∧fj lo K pm w acc H H1 acc'∧H1.low≤H.low:=by
 have n1:=hS1.next;obtain⟨⟨w',h1,h2,h3,h4,h5⟩,hS⟩:=h;have toH:∀cs q,QR H1 lo K false cs q→QR H lo K false cs q:=fun _ _ h=>h.mono (fun j hj=>(hS1.get j oM).symm) lR;refine D7 (fun _ hl=>⟨rfl,?_,lR⟩) ⟨rfl,?_,by show min H.low H'.low≤H.low;omega⟩
 ·rcases h3 with⟨q1,q2⟩|q
  ·rw[q1];exact⟨⟨w,hg,hO,.inl ⟨rfl,rfl⟩,fun _ _ _ _=>rfl,fun b hb=> .inl hb⟩,i4.refl _ _⟩
  ·omega
 ·have hn:=hS.next;refine⟨⟨w',h1,(h2.imp toH).low _,?_,fun j hj q1 q2=>?_,fun b hb=>?_⟩,by show H.next≤H'.next;omega,fun k hk q=>?_,fun j hj=>?_⟩
  ·rcases h3 with h3|h3
   ·exact .inl h3
   ·exact .inr (by show min H.low H'.low≤pm;omega)
  ·show H'.get j=H.get j;rw[h4 j oM q1 q2,hS1.get j hj]
  ·rcases h5 b hb with r|r
   ·exact .inl r
   ·exact .inr oM
  ·have:=hS.lowAll k hk oM;show k≤min H.low H'.low;omega
  ·show H'.get j=H.get j;rw[hS.get j hj,hS1.get j oM]
theorem Ed{l:List Q}(h:l.length≤1):inL false l++l=inB l:=by
 match l,h with
 |[],_=>rfl
 |[x],_=>simp [inB,inL]
theorem XA(k:Nat)(ih1:dz 58 false k)(ih2:dz 82 true k):dz 58 false (k+1):=by
 intro H lo pm K w acc cs q hk hlo hgm hO hr hok hfit;obtain⟨ok1,ok2,_⟩:=hok.parts;have hnq:=dE q;have hpm:=u6 hgm;obtain⟨va,ca,wa,ca',rfl,h1,h2,h3,h4⟩:=hr.path;obtain⟨H1,hH1⟩:∃H1,H1=d9.push ⟨H.bs,H.next⟩ (.cells [iV q.op,.slice va q.a.length ca,.slice wa q.b.length ca'] true 1):=⟨_,rfl⟩
 have hS:i4 H.next H H1:=by rw[hH1];exact i4.first H _
 have hg:H1.get H.next=cE [iV q.op,.slice va q.a.length ca,.slice wa q.b.length ca'] 1:=by rw[hH1];exact i7
 have hlow:H.next≤H1.low:=by rw[hH1,t5];exact lR
 have hn:=hS.next;have hng:=u6 hg;have hm:∀j,j<lo→H1.get j=H.get j:=fun j hj=>hS.get j oM;have st0:fj lo K pm w acc H1 H1 acc:=⟨⟨w,(hS.get pm hpm).trans hgm,(hO.keep hS).imp fun _ _ h=>h.mono hm lR,.inl ⟨rfl,rfl⟩,fun _ _ _ _=>rfl,fun _ h=> .inl h⟩,i4.refl _ _⟩
 rw[j8 ac6 rfl _ (by simp),kN];refine J2 hH1.symm hg ?_;refine l9 (F:=fun z=>Ret (u5 _ _ _ (u7 (inBlock 0 z) _)) _ _) (Nd k ih1 H1 lo pm K oM hlo w acc va ca q.a (h1.mono hm lR) h3 ok1 (pT H.next) ((inL false q.a).foldl aF acc) q.a.length _ _ ⟨0,acc,rfl,oM,rfl,rfl,rfl,rfl,rfl,st0,by rw[List.drop_zero];omega,rfl⟩) ?_;rintro o e' H2 ⟨ho,g0,g3,hM⟩;have hS2:=hM.stay;have hn2:=hS2.next;have hg2:H2.get H.next=cE [iV q.op,.slice va q.a.length ca,.slice wa q.b.length ca'] 1:=by
  obtain⟨w',_,_,_,hb,_⟩:=hM.ex;exact(hb H.next oM oM (fun q=>by have:=hO.lt q;omega)).trans hg
 have hl1:=bw (inL false q.a) acc;have hfl:(inL false q.a).length≤nL q.a:=by
  have:=gM q.a (inQ false) fun x hx=>(bH _ false x lR (ok1 x hx)).1;rw[dh];omega
 refine J3 ho g3 hg2 ?_;refine l9 (F:=fun z=>Ret (u5 _ _ _ (inBlock 2 z)) _ _) (Nf k ih2 H1 lo pm K oM hlo w acc wa ca' q.b (h2.mono hm lR) h4 ok2 (pT H.next) ((inL false q.a++inL true q.b).foldl aF acc) q.b.length _ _ ⟨0,_,rfl,oM,g0,g3,rfl,rfl,rfl,hM,by rw[List.drop_zero];omega,by rw[List.drop_zero,List.foldl_append]⟩) ?_;rintro o e' H3 ⟨ho,g0,g3,hM3⟩;refine J1 ho ?_;exact vG hS hlow hlo hpm hgm hO hM3
theorem MR(q:Q)(h:OkD true q):inQ true q=inL true q.a++inB q.b:=by
 obtain⟨_,_,_,_,okn⟩:=h.parts;have h11:=(dk okn).2.2;simp only[if_true]at h11;rw[fI];by_cases hb:q.op=11
 ·rw[if_pos hb,Ed h11.2]
 ·rw[if_neg hb];have:q.b=[]:=by
   have h1:=h11.2;have h2:¬q.b.length=1:=fun r=>hb (h11.1.2 r);exact List.length_eq_zero_iff.1 oM
  rw[this];rfl
theorem XB(k:Nat)(ih1:dz 82 true k)(ih2:dz 58 false k):dz 82 true (k+1):=by
 intro H lo pm K w acc cs q hk hlo hgm hO hr hok hfit;rw[MR q hok];obtain⟨ok1,ok2,_⟩:=hok.parts;have hnq:=dE q;have hpm:=u6 hgm;obtain⟨va,ca,wa,ca',rfl,h1,h2,h3,h4,_⟩:=hr.filter;obtain⟨row,hrow⟩:∃r:LV,r=[iV q.op,.string q.sp,.string q.lc,.string q.vl,.slice va q.a.length ca,.slice wa q.b.length ca']:=⟨_,rfl⟩
 obtain⟨H1,hH1⟩:∃H1,H1=d9.push ⟨H.bs,H.next⟩ (.cells row true 1):=⟨_,rfl⟩
 have hS:i4 H.next H H1:=by rw[hH1];exact i4.first H _
 have hg:H1.get H.next=cE row 1:=by rw[hH1];exact i7
 have hlow:H.next≤H1.low:=by rw[hH1,t5];exact lR
 have hn:=hS.next;have hng:=u6 hg;have r4:row[4]?=some (.slice va q.a.length ca):=by rw[hrow];rfl
 have r5:row[5]?=some (.slice wa q.b.length ca'):=by rw[hrow];rfl
 have ar:row.all Value.oneCell'=true:=by rw[hrow];rfl
 have lr:row.length=6:=by rw[hrow];rfl
 rw[←hrow];have hm:∀j,j<lo→H1.get j=H.get j:=fun j hj=>hS.get j oM;have st0:fj lo K pm w acc H1 H1 acc:=⟨⟨w,(hS.get pm hpm).trans hgm,(hO.keep hS).imp fun _ _ h=>h.mono hm lR,.inl ⟨rfl,rfl⟩,fun _ _ _ _=>rfl,fun _ h=> .inl h⟩,i4.refl _ _⟩
 rw[j8 ae6 rfl _ (by simp)];refine J4 ar hH1.symm hg r4 ?_;refine l9 (F:=fun z=>Ret (u5 _ _ _ (u7 (inBlock 0 z) _)) _ _) (Ng k ih1 H1 lo pm K oM hlo w acc va ca q.a (h1.mono hm lR) h3 ok1 (pT H.next) ((inL true q.a).foldl aF acc) q.a.length _ _ ⟨0,acc,rfl,oM,rfl,rfl,rfl,rfl,rfl,st0,by rw[List.drop_zero];omega,rfl⟩) ?_;rintro o e' H2 ⟨ho,g0,g3,hM⟩;have hS2:=hM.stay;have hn2:=hS2.next;have hg2:H2.get H.next=cE row 1:=by
  obtain⟨w',_,_,_,hb,_⟩:=hM.ex;exact(hb H.next oM oM (fun q=>by have:=hO.lt q;omega)).trans hg
 have hl1:=bw (inL true q.a) acc;have hfl:(inL true q.a).length≤nL q.a:=by
  have:=gM q.a (inQ true) fun x hx=>(bH _ true x lR (ok1 x hx)).1;rw[dh];omega
 refine J4 ho g3 hg2 r5 ?_;refine l9 (F:=fun z=>Ret (u5 _ _ _ (inBlock 2 z)) _ _) (Nh k ih2 H1 lo pm K oM hlo w acc wa ca' q.b (h2.mono hm lR) h4 ok2 ((inL true q.a++inB q.b).foldl aF acc) q.b.length _ _ ⟨0,_,rfl,oM,g0,rfl,rfl,rfl,hM,by rw[List.drop_zero];omega,by rw[List.drop_zero,List.foldl_append]⟩) ?_;rintro o e' H3 ⟨ho,hM3⟩;refine J1 ho ?_;exact vG hS hlow hlo hpm hgm hO hM3
theorem Et:∀k,dz 58 false k∧dz 82 true k:=by
 intro k;induction k with
 |zero=>exact⟨fun H lo pm K w acc cs q _ _ _ _ hr=>hr.elim,fun H lo pm K w acc cs q _ _ _ _ hr=>hr.elim⟩
 |succ k ih=>exact⟨XA k ih.1 ih.2,XB k ih.2 ih.1⟩
theorem DP(v:Value)(H H':d9)(h:H'.low<H.next):D4 v H H'=(v,some ⟨H'.bs,min H.low H'.low⟩):=by
 unfold D4;rw[if_neg];have:¬H.bs.length≤H'.low:=by have:H.next=H.bs.length:=rfl;omega
 simp [this]
theorem ND(H:d9)(pm:Nat)(st:Int)(r:LV)(hg:H.get pm=cE (.int .i64 st::r) 1)(hr:r.length=4)(h0:0≤st)(h1:st≤10000000):
  CL prog t6 110 [pT pm] H=some (.int .i64 st,some (H.put pm (.cells (.int .i64 (st+1)::r) true 1))):=by
 have hpm:=u6 hg;have hgb:(⟨H.bs,H.next⟩:d9).get pm=cE (.int .i64 st::r) 1:=hg;obtain⟨H1,hH1⟩:∃H1,H1=d9.put ⟨H.bs,H.next⟩ pm (.cells (.int .i64 (st+1)::r) true 1):=⟨_,rfl⟩
 have g1:H1.get pm=some (.cells (.int .i64 (st+1)::r) true 1):=by rw[hH1];exact i8 hpm
 have l1:H1.low=pm:=by rw[hH1,A4];show min H.next pm=pm;omega
 have l1':H1.low<H.next:=oM;have hfin:(⟨H1.bs,min H.low H1.low⟩:d9)=H.put pm (.cells (.int .i64 (st+1)::r) true 1):=by rw[l1,hH1];rfl
 have e1:st+1-1=st:=oM;rw[j8 WA rfl _ (by simp)];exact J8 hgb hr @wrap_small hH1.symm g1 e1 @DP hfin trivial
structure PgS(Rt:LV→Q→Prop)(pm:Nat)(H0:d9)(we0 wt0:Value)(H:d9)(p:PrD):Prop where
 ex:∃we wt,H.get pm=cE [iV p.st,iV p.sa,iV p.en,we,wt] 1∧t7 H (pm+1) 4 (v8 edE) we p.ed∧t7 H (pm+1) 6 Rt wt p.ts∧(∀b,j9 we b→¬j9 wt b)∧
  (∀j,j<H0.next→j≠pm→¬j9 we0 j→¬j9 wt0 j→H.get j=H0.get j)∧(∀b,j9 we b→j9 we0 b∨H0.next≤b)∧(∀b,j9 wt b→j9 wt0 b∨H0.next≤b)
 stay:i4 pm H0 H
section
variable{Rt:List Value→Q→Prop}{pm:Nat}{H0 H H':d9}{we0 wt0 we wt:Value}{p:PrD}
theorem PgS.lt(h:PgS Rt pm H0 we0 wt0 H p):pm<H.next:=by obtain⟨⟨_,_,h1,_⟩,_⟩:=h;exact u6 h1
theorem PgS.work(h:PgS Rt pm H0 we0 wt0 H p)(hS:i4 H.next H H'):PgS Rt pm H0 we0 wt0 H' p:=by
 have hp:=h.lt;obtain⟨⟨we,wt,h1,h2,h3,h4,h5,h6,h7⟩,hs⟩:=h;have hn:=hs.next;exact⟨⟨we,wt,(hS.get pm hp).trans h1,h2.keep hS,h3.keep hS,h4,fun j hj q1 q2 q3=>by rw[hS.get j oM,h5 j hj q1 q2 q3],h6,h7⟩,hs.trans (hS.weaken oM)⟩
theorem PgS.start(hg:H.get pm=cE [iV p.st,iV p.sa,iV p.en,we,wt] 1)(h1:t7 H (pm+1) 4 (v8 edE) we p.ed)(h2:t7 H (pm+1) 6 Rt wt p.ts)(h3:∀b,j9 we b→¬j9 wt b):PgS Rt pm H we wt H p:=
 ⟨⟨we,wt,hg,h1,h2,h3,fun _ _ _ _ _=>rfl,fun _ h=> .inl h,fun _ h=> .inl h⟩,i4.refl _ _⟩
theorem PgS.trans{H1:d9}{p1:PrD}(h:PgS Rt pm H0 we0 wt0 H p)(k:∀we wt,(H.get pm=cE [iV p.st,iV p.sa,iV p.en,we,wt] 1)→PgS Rt pm H we wt H1 p1):PgS Rt pm H0 we0 wt0 H1 p1:=by
 obtain⟨⟨we,wt,h1,h2,h3,h4,h5,h6,h7⟩,hs⟩:=h;obtain⟨⟨we',wt',k1,k2,k3,k4,k5,k6,k7⟩,ks⟩:=k we wt h1;have hn:=hs.next;refine⟨⟨we',wt',k1,k2,k3,k4,fun j hj q1 q2 q3=>?_,fun b hb=>?_,fun b hb=>?_⟩,hs.trans ks⟩
 ·rw[k5 j oM q1 (fun q=>?_) (fun q=>?_),h5 j hj q1 q2 q3]
  ·rcases h6 j q with r|r
   ·exact q2 r
   ·omega
  ·rcases h7 j q with r|r
   ·exact q3 r
   ·omega
 ·rcases k6 b hb with r|r
  ·exact h6 b r
  ·exact .inr oM
 ·rcases k7 b hb with r|r
  ·exact h7 b r
  ·exact .inr oM
end
theorem cJ{Rt:LV→Q→Prop}{pm:Nat}{H0 H:d9}{we0 wt0:Value}{p:PrD}(h:PgS Rt pm H0 we0 wt0 H p)(h0:0≤p.st)(h1:p.st≤10000000):
  ∃H',CL prog t6 110 [pT pm] H=some (.int .i64 p.st,some H')∧PgS Rt pm H0 we0 wt0 H' {p with st:=p.st+1}∧H'.low≤pm∧H'.low≤H.low∧H'.next=H.next:=by
 have hp:=h.lt;obtain⟨⟨we,wt,g1,g2,g3,g4,g5,g6,g7⟩,hs⟩:=h;refine⟨_,ND H pm p.st _ g1 rfl h0 h1,⟨⟨we,wt,i8 hp,g2.same fun b hb=>i9 (by have:=g2.lt hb;omega),g3.same fun b hb=>i9 (by have:=g3.lt hb;omega),g4,fun j hj q1 q2 q3=>?_,g6,g7⟩,hs.trans (i4.put lR)⟩,?_,?_,?_⟩
 ·rw[i9 (fun q=>q1 q.symm),g5 j hj q1 q2 q3]
 ·rw[A4];omega
 ·rw[A4];omega
 ·rw[j5]
theorem BL{Rt:LV→Q→Prop}{pm:Nat}{H0 H:d9}{we0 wt0:Value}{p:PrD}(h:PgS Rt pm H0 we0 wt0 H p)(lv:Value)(l:List (Int×Int×Int×Int))(hl:SlI H H.next 4 (v8 edE) lv l)(hn:p.ed.length+l.length≤1000000)(hne:l≠ []):
  Ret (CL prog t6 134 [pT pm,lv] H) H fun v H'=>v=undef∧PgS Rt pm H0 we0 wt0 H' {p with ed:=p.ed++l}∧H'.low≤pm∧H'.low≤H.low:=by
 have hp:=h.lt;obtain⟨⟨we,wt,g1,g2,g3,g4,g5,g6,g7⟩,hs⟩:=h;have hsn:=hs.next;obtain⟨Hb,hHb⟩:∃Hb:d9,Hb=⟨H.bs,H.next⟩:=⟨_,rfl⟩
 have sb:i4 H.next H Hb:=by rw[hHb];exact i4.start H
 have nb:Hb.next=H.next:=by rw[hHb];rfl
 have gb:∀j,Hb.get j=H.get j:=fun j=>by rw[hHb];rfl
 obtain⟨we1,h1,H1,ha,hge,hO,hG⟩:=(g2.keep sb).appendF (P:=prog) (t:=30) (n:=H.next) (l2:=l) (x:=lv) (by exact Fp.2.2.2.2.2.2) mL.1 mL.2.1 mL.2.2.1 oM oM (hl.mono (fun j _=>gb j) lR iF) oM oM;have n1:=hG.next;obtain⟨lva,lvc,rfl⟩:=hl.slice;have nbe:¬j9 we pm:=fun q=>by have:=g2.lt q;omega
 have gp1:H1.get pm=cE [iV p.st,iV p.sa,iV p.en,we,wt] 1:=by rw[hG.but pm oM nbe,gb];exact g1
 obtain⟨a1,c1,e1⟩:=hO.slice;have cw:we1.cells.toList=[we1]:=by rw[e1];rfl
 have ow:Value.oneCell' we1=true:=by rw[e1];rfl
 obtain⟨H2,hH2⟩:∃H2,H2=H1.put pm (.cells [iV p.st,iV p.sa,iV p.en,we1,wt] true 1):=⟨_,rfl⟩
 have l2:H2.low≤pm:=by rw[hH2,A4];omega
 have l2':H2.low<H.next:=oM;have gpb:Hb.get pm=cE [iV p.st,iV p.sa,iV p.en,we,wt] 1:=by rw[gb];exact g1
 rw[j8 WW rfl _ (by simp)];rw[show(⟨H.bs,H.next⟩:d9)=Hb from hHb.symm];refine J7 gpb ha hge gp1 cw ow hH2.symm ?_;refine D7 (fun _ hl=>oM) ⟨rfl,?_,?_,?_⟩
 rotate_left
 ·show min H.low H2.low≤pm;omega
 ·show min H.low H2.low≤H.low;omega
 have kp:∀j,j≠pm→H2.get j=H1.get j:=fun j hj=>by rw[hH2,i9 (fun q=>hj q.symm)]
 have h2p:H2.get pm=cE [iV p.st,iV p.sa,iV p.en,we1,wt] 1:=by rw[hH2];exact i8 oM
 have sg:i4 pm H H2:=by rw[hH2];exact((sb.weaken oM).trans (hG.stay.weaken oM)).trans (i4.put lR)
 refine⟨⟨we1,wt,h2p,(hO.same (H':=⟨H2.bs,min H.low H2.low⟩) fun b hb=>?_),(g3.same (H':=⟨H2.bs,min H.low H2.low⟩) fun b hb=>?_),fun b hb=>?_,fun j hj q1 q2 q3=>?_,fun b hb=>?_,g7⟩,hs.trans ⟨sg.next,fun k hk q=>?_,sg.get⟩⟩
 ·exact kp b (by have:=hO.lt hb;omega)
 ·have:=g3.lt hb;show H2.get b=_;rw[kp b oM,hG.but b oM (fun q=>g4 b q hb),gb]
 ·rcases hG.new b hb with r|r
  ·exact g4 b r
  ·exact fun q=>by have:=g3.lt q;omega
 ·show H2.get j=_;rw[kp j q1,hG.but j oM (fun q=>?_),gb,g5 j hj q1 q2 q3];rcases g6 j q with r|r
  ·exact q2 r
  ·omega
 ·rcases hG.new b hb with r|r
  ·exact g6 b r
  ·exact .inr oM
 ·have:k≤H2.low:=by
   rw[hH2,A4];have:=hG.stay.lowAll k oM (by rw[hHb];show k≤H.next;omega);omega
  show k≤min H.low H2.low;omega
def PgC(Rt:LV→Q→Prop)(pm:Nat)(x:Option (Value×Option d9))(H:d9)(p p':PrD)(v:Value):Prop:=∀(H0:d9)(we0 wt0:Value),PgS Rt pm H0 we0 wt0 H p→Ret x H fun w H'=>w=v∧PgS Rt pm H0 we0 wt0 H' p'∧H'.low≤pm∧H'.low≤H.low
theorem gT{Rt:LV→Q→Prop}{pm:Nat}{x:Option (Value×Option d9)}{H:d9}{p p':PrD}{v:Value}(h:∀we wt,pm<H.next→PgS Rt pm ⟨H.bs,H.next⟩ we wt ⟨H.bs,H.next⟩ p→∃H',x=some (D4 v H H')∧PgS Rt pm ⟨H.bs,H.next⟩ we wt H' p'∧H'.low≤pm):PgC Rt pm x H p p' v:=by
 intro H0 we0 wt0 hP;have hp:=hP.lt;obtain⟨⟨we,wt,g1,g2,g3,g4,g5,g6,g7⟩,hs⟩:=id hP;obtain⟨H',hx,⟨⟨we',wt',k1,k2,k3,k4,k5,k6,k7⟩,ks⟩,hl⟩:=h we wt hp ⟨⟨we,wt,g1,g2.low _,g3.low _,g4,fun _ _ _ _ _=>rfl,fun _ h=> .inl h,fun _ h=> .inl h⟩,i4.refl _ _⟩;have nb:(⟨H.bs,H.next⟩:d9).next=H.next:=rfl;have lb:(⟨H.bs,H.next⟩:d9).low=H.next:=rfl;have hn:=ks.next;have fin:PgS Rt pm H we wt ⟨H'.bs,min H.low H'.low⟩ p':=⟨⟨we',wt',k1,k2.low _,k3.low _,k4,k5,k6,k7⟩,ks.next,fun k q1 q2=>(by have:=ks.lowAll k q1 oM;show k≤min H.low H'.low;omega),ks.get⟩
 rw[hx];refine D7 (fun _ q=>oM) ⟨rfl,hP.trans fun we2 wt2 hg2=>?_,?_,?_⟩
 ·have:=g1.symm.trans hg2;simp only[Option.some.injEq,Blk.cells.injEq,List.cons.injEq,and_true,true_and]at this;obtain⟨rfl,rfl⟩:=this;exact fin
 ·show min H.low H'.low≤pm;omega
 ·show min H.low H'.low≤H.low;omega
theorem gU(Rt:LV→Q→Prop)(pm:Nat)(H:d9)(p:PrD)(f t:Int)(hn:p.ed.length+1≤1000000):
  PgC Rt pm (CL prog t6 111 [pT pm,iV f,iV t] H) H p (p.edge f t 0 0) undef:=by
 refine gT fun we wt hp h=>?_;obtain⟨H1,hH1⟩:∃H1,H1=d9.push ⟨H.bs,H.next⟩ (.cells (edE (f,t,0,0)) true 4):=⟨_,rfl⟩
 have hS:i4 H.next ⟨H.bs,H.next⟩ H1:=by rw[hH1];exact i4.push lR
 have n1:H1.next=H.next+1:=by rw[hH1,i5];rfl
 have hO:t7 H1 H.next 4 (v8 edE) (.slice (some ⟨H.next,0,none⟩) 1 1) [(f,t,0,0)]:=by rw[hH1];exact t7.fresh rfl lR (D2.one rfl rfl)
 obtain⟨v,h2,H2,hc,hge,rfl,hP,hl1,hl2⟩:=BL (h.work hS) _ [(f,t,0,0)] hO.sl (by simpa using hn) (by simp);rw[j8 WB rfl _ (by simp)];refine J3 hH1.symm hc hge ?_;exact⟨H2,rfl,hP,hl1⟩
theorem jT(Rt:LV→Q→Prop)(pm:Nat)(H:d9)(p:PrD)(k x:Int)(hn:p.ed.length+1≤1000000)(h0:0≤p.st)(h1:p.st≤1000000):
  PgC Rt pm (CL prog t6 107 [pT pm,iV k,iV x] H) H p (({p with st:=p.st+2}:PrD).edge p.st (p.st+1) k x) (.tuple #[iV p.st,iV (p.st+1)]):=by
 refine gT fun we wt hp h=>?_;obtain⟨Ha,hca,pa,la1,la2,na⟩:=cJ h h0 oM;obtain⟨Hb,hcb,pb,lb1,lb2,nb⟩:=cJ pa (by show 0≤p.st+1;omega) (by show p.st+1≤_;omega);have n0:(⟨H.bs,H.next⟩:d9).next=H.next:=rfl;obtain⟨H1,hH1⟩:∃H1,H1=d9.push Hb (.cells (edE (p.st,p.st+1,k,x)) true 4):=⟨_,rfl⟩
 have hS:i4 Hb.next Hb H1:=by rw[hH1];exact i4.push lR
 have hO:t7 H1 Hb.next 4 (v8 edE) (.slice (some ⟨Hb.next,0,none⟩) 1 1) [(p.st,p.st+1,k,x)]:=by rw[hH1];exact t7.fresh rfl lR (D2.one rfl rfl)
 obtain⟨v,h2,H2,hc,hge,rfl,hP,hl1,hl2⟩:=BL (pb.work hS) _ [(p.st,p.st+1,k,x)] hO.sl (by simpa using hn) (by simp);have e2:p.st+1+1=p.st+2:=oM;simp only[e2]at hP hcb;have ll:H2.low<H.next:=oM;rw[j8 Wx rfl _ (by simp)];refine J5 hca hcb hH1.symm hc hge ?_;exact⟨H2,rfl,hP,hl1⟩
theorem PgS.trans'{Rt:LV→Q→Prop}{pm:Nat}{H0 H H1:d9}{we0 wt0 we wt:Value}{p p1:PrD}(h:PgS Rt pm H0 we0 wt0 H p)(k:PgS Rt pm H we wt H1 p1)(hg:H.get pm=cE [iV p.st,iV p.sa,iV p.en,we,wt] 1):PgS Rt pm H0 we0 wt0 H1 p1:=
 h.trans fun we2 wt2 hg2=>by
  have:=hg.symm.trans hg2;simp only[Option.some.injEq,Blk.cells.injEq,List.cons.injEq,and_true,true_and]at this;obtain⟨rfl,rfl⟩:=this;exact k
theorem SlI.tail{P:Program}{H:d9}{lo sz:Nat}{α:Type}{R:LV→α→Prop}{va:Option Addr}{ca:Nat}{l:List α}{t e:TypeId}(h:SlI H lo sz R (.slice va l.length ca) l)(hl:0<l.length)(ht:P.underlying t=some (.slice e))(hs:z9 P e=some sz)(h0:0<sz):
  ∃va' ca',(∀H',(∀j,j<lo→H'.get j=H.get j)→Y7 P H' t (.slice va l.length ca) (some (.int .i64 1)) none none=some (.slice va' (l.drop 1).length ca'))∧SlI H lo sz R (.slice va' (l.drop 1).length ca') (l.drop 1):=by
 rcases h with⟨_,h⟩|⟨b,o,c,hv,h⟩
 ·rw[h]at hl;simp at hl
 ·rcases h with h|⟨cs,own,h1,h2,h3,h4⟩
  ·rw[h]at hl;simp at hl
  ·obtain⟨rfl,rfl⟩:va=some ⟨b,o,none⟩∧ca=c:=by simpa using hv
   have hdl:(l.drop 1).length=l.length-1:=by simp
   have hmul:(l.length-1)*sz+sz=l.length*sz:=by
    rw[←Nat.succ_mul];congr 1;omega
   refine⟨some ⟨b,o+sz,none⟩,if ca=l.length then l.length-1 else l.length-1+1,fun H' hH'=>?_,.inr ⟨b,o+sz,_,rfl,.inr ⟨cs,own,h1,h2,by rw[hdl];omega,fun i a hi=>?_⟩⟩⟩
   ·have hg:H'.get b=some (.cells cs own sz):=by rw[hH' b h1];exact h2
    have hsz:yH H' b=some sz:=by simp only[yH,hg]
    simp only[Y7,ht,hs,bnd,hsz,hdl];have e1:(if(0:Int)≤1 then some (1:Int).toNat else none)=some 1:=rfl;have p1:¬sz=0:=oM;have p2:1≤l.length∧l.length≤l.length:=⟨hl,lR⟩
    have p3:¬l.length=0:=oM;by_cases hc:ca=l.length
    ·simp only[e1,if_neg p1,if_pos p2,if_neg p3,ne_eq,not_true_eq_false,if_false,if_pos hc,if_true,Nat.one_mul]
    ·simp only[e1,if_neg p1,if_pos p2,if_neg p3,ne_eq,not_true_eq_false,if_false,if_neg hc,if_true,Nat.one_mul]
   ·rw[List.getElem?_drop]at hi;have:=h4 (1+i) a hi;rw[show o+sz+i*sz=o+(1+i)*sz by rw[Nat.add_mul];omega];exact this
def sv(Hs:d9)(lo K k:Nat):Prop:=∀(H:d9)(pm:Nat)(cs:LV)(q:Q)(p:PrD),lo≤pm→(∀j,j<lo→H.get j=Hs.get j)→QR Hs lo k false cs q→OkD false q→iq (nQ q) p→
 PgC (QR Hs lo K true) pm (CL prog t6 83 [pT pm,.agg cs.toArray] H) H p (C5 q p).1 (.tuple #[iV (C5 q p).2.1,iV (C5 q p).2.2])
theorem tU(Hs:d9)(lo K k:Nat)(ih:sv Hs lo K k)(Hb:d9)(pm:Nat)(hlo:lo≤pm)(heq:∀j,j<lo→Hb.get j=Hs.get j) (we wt:Value) (va:Option Addr) (ca:Nat) (l:List Q) (hv:QsR Hs lo k false (.slice va l.length ca) l) (hn:l.length≤1048576) (hw:∀x∈l,OkD false x) (s:Int) (r:PrD×Int×Int):
  ∀kk e H2,(∃(i:Nat)(y:PrD×Int×Int),kk=l.length-i∧i≤l.length∧e.get 0=pT pm∧e.get 6=iV s∧e.get 7=iV y.2.2∧e.get 21= .slice va l.length ca∧e.get 22=iV l.length∧e.get 23=iV i∧PgS (QR Hs lo K true) pm Hb we wt H2 y.1∧H2.low≤pm∧iq (nL (l.drop i)) y.1∧y.2.1=s∧cP (l.drop i) y=r)→
  u9 (LE prog t6 (.loop Ag) e H2) (fun o e H2=>o= .exit 0∧e.get 6=iV r.2.1∧e.get 7=iV r.2.2∧PgS (QR Hs lo K true) pm Hb we wt H2 r.1∧H2.low≤pm):=by
 refine j7 _ _ ?_;rintro kk e H2 ⟨i,y,hkk,hi,f0,f6,f7,f21,f22,f23,hP,hl,hfit,hs,fu⟩;rcases b:decide ((i:Int)<l.length)with _|_
 ·have hb':=dF b;have:l.drop i=[]:=dN oM;rw[this,cP]at fu;refine J3 f22 f23 b ?_;exact l7 ⟨rfl,by rw[←fu,hs];exact f6,by rw[←fu];exact f7,by rw[←fu];exact hP,hl⟩
 have hb':=dT b;have hS:=hP.stay;have hn2:=hS.next;have hpm:=hP.lt;obtain⟨x,nb,o,cs,own,el,hx,hd,rfl,hlt,hg,hle,hrow,hr⟩:=hv.row (i:=i) oM;have hxm:=List.mem_of_getElem? hx;have nt:(i:Int).toNat=i:=tN i;simp only[qSz,Bool.false_eq_true,if_false]at hrow hg hle;have eq2:∀j,j<lo→H2.get j=Hs.get j:=fun j hj=>by rw[hS.get j oM,heq j hj]
 have a1:el.all Value.oneCell'=true:=F0 hr;have e1:=hr.len;simp only[qSz,Bool.false_eq_true,if_false]at e1;have ld1:=M8 hr;rw[e1]at ld1;have gx:=(eq2 nb hlt).trans hg;obtain⟨H3,hH3⟩:∃H3,H3=(H2.push (.cells [iV 0,nS,nS] true 1)).put H2.next (.cells el true 1):=⟨_,rfl⟩
 have n3:H3.next=H2.next+1:=by rw[hH3,j5,i5]
 have s3:i4 H2.next H2 H3:=by rw[hH3];exact(i4.push lR).trans (i4.put lR)
 have g3:H3.get H2.next=cE el 1:=by rw[hH3];exact i8 (by rw[i5];omega)
 have sp1:splice [iV 0,nS,nS] 0 el=el:=w7 _ _ (by rw[e1];rfl);have hnl:nL (l.drop i)=nQ x+nL (l.drop (i+1)):=by rw[hd,nL]
 obtain⟨t0,t1,t2,t3⟩:=hfit;rw[hnl]at t1 t2 t3;have hgr:=E8 x y.1;obtain⟨v4,h4,H4,hca,hge,rfl,hP4,hl4,_⟩:=ih H3 pm el x y.1 hlo (fun j hj=>by rw[s3.get j oM,eq2 j hj]) hr (hw x hxm) ⟨t0,oM,oM,oM⟩ Hb we wt (hP.work s3);rw[hd,cP]at fu;obtain⟨z,hz⟩:∃z,z=C5 x y.1:=⟨_,rfl⟩
 rw[←hz]at hca hP4 fu hgr;obtain⟨u0,u1,u2,u3⟩:=hgr;obtain⟨v5,h5,H5,hcb,hgb,rfl,hP5,hl5,_⟩:=gU (QR Hs lo K true) pm H4 z.1 y.2.2 z.2.1 oM Hb we wt hP4;refine J20 f0 f7 f21 f22 f23 b gx nt hrow a1 e1 sp1 hH3.symm g3 ld1 hca hge hcb hgb @wrap_small ?_;exact i6 (kk-1) oM ⟨i+1,(z.1.edge y.2.2 z.2.1 0 0,y.2.1,z.2.2),oM,oM,f0,f6,rfl,f21,f22,rfl,hP5,hl5,⟨by simp only[U4];omega,by simp only[U4];omega,by rw[N8];omega,by simp only[bS];omega⟩,hs,fu⟩
theorem XF(Hs:d9)(lo K k:Nat)(ih:sv Hs lo K k)(H:d9)(pm:Nat)(hlo:lo≤pm)(heq:∀j,j<lo→H.get j=Hs.get j) (v:Value) (l:List Q) (hv:QsR Hs lo k false v l) (hn:l.length≤1048576) (hne:0<l.length) (hw:∀x∈l,OkD false x) (p:PrD) (hfit:iq (nL l) p):
  PgC (QR Hs lo K true) pm (CL prog t6 108 [pT pm,v] H) H p (hU l p).1 (.tuple #[iV (hU l p).2.1,iV (hU l p).2.2]):=by
 refine gT fun we wt hp h=>?_;obtain⟨va,ca,rfl⟩:=hv.slice;obtain⟨va',ca',hsl,htl⟩:=SlI.tail (P:=prog) (t:=22) (e:=25) hv hne (by exact jL.2.2.2.2.2.2) X8.1 (by decide);obtain⟨x,nb,o,cs,own,el,hx,hd,rfl,hlt,hg,hle,hrow,hr⟩:=hv.row (i:=0) hne;simp only[qSz,Bool.false_eq_true,if_false,Nat.zero_mul,Nat.add_zero]at hrow hg hle;have hlx:l=x::l.drop 1:=by simpa using hd
 have hnl:nL l=nQ x+nL (l.drop 1):=by conv=>lhs;rw[hlx,nL]
 have hseq:hU l p=cP (l.drop 1) (C5 x p):=by conv=>lhs;rw[hlx,hU]
 obtain⟨t0,t1,t2,t3⟩:=hfit;have hgr:=E8 x p;have eqb:∀j,j<lo→(⟨H.bs,H.next⟩:d9).get j=Hs.get j:=heq;have gx:(⟨H.bs,H.next⟩:d9).get nb=_:=(eqb nb hlt).trans hg;obtain⟨v4,h4,H4,hca,hge,rfl,hP4,hl4,_⟩:=ih ⟨H.bs,H.next⟩ pm el x p hlo eqb hr (hw x (List.mem_of_getElem? hx)) ⟨t0,oM,oM,oM⟩ _ we wt h;have hS4:=hP4.stay;have eq4:∀j,j<lo→H4.get j=Hs.get j:=fun j hj=>by rw[hS4.get j oM,eqb j hj]
 have hs4:=hsl H4 eq4;have hl0:(0:Int)<l.length:=oM;obtain⟨y,hy⟩:∃y,y=C5 x p:=⟨_,rfl⟩
 rw[←hy]at hca hP4 hgr hseq;obtain⟨u0,u1,u2,u3⟩:=hgr;rw[j8 Wy rfl _ (by simp)];refine J5 gx hrow hca hge hs4 ?_;refine l9 (F:=fun z=>∃H',u5 _ _ _ (u7 (inBlock 0 z) _)=some (D4 _ H H')∧PgS (QR Hs lo K true) pm _ we wt H' (hU l p).1∧H'.low≤pm) (tU Hs lo K k ih ⟨H.bs,H.next⟩ pm hlo eqb we wt va' ca' (l.drop 1) htl (by simp;omega) (fun z hz=>hw z (List.mem_of_mem_drop hz)) y.2.1 (cP (l.drop 1) y) (l.drop 1).length _ _ ⟨0,y,rfl,oM,rfl,rfl,rfl,rfl,rfl,rfl,hP4,hl4,⟨oM,by rw[List.drop_zero];omega,by rw[List.drop_zero];omega,by rw[List.drop_zero];omega⟩,rfl,rfl⟩) ?_;rintro o' e' H5 ⟨ho,g6,g7,hP5,hl5⟩;rw[hseq];have ll:H5.low<H.next:=oM;refine J3 ho g6 g7 ?_;exact⟨H5,rfl,hP5,hl5⟩
structure PgW(Rt:LV→Q→Prop)(pm:Nat)(H:d9)(we wt:Value)(p:PrD):Prop where
 row:H.get pm=cE [iV p.st,iV p.sa,iV p.en,we,wt] 1
 e:t7 H (pm+1) 4 (v8 edE) we p.ed
 t:t7 H (pm+1) 6 Rt wt p.ts
 d:∀b,j9 we b→¬j9 wt b
theorem PgW.start{Rt:LV→Q→Prop}{pm:Nat}{H:d9}{we wt:Value}{p:PrD}(h:PgW Rt pm H we wt p):PgS Rt pm H we wt H p:=PgS.start h.row h.e h.t h.d
theorem PgS.w{Rt:LV→Q→Prop}{pm:Nat}{H0 H:d9}{we0 wt0:Value}{p:PrD}(h:PgS Rt pm H0 we0 wt0 H p):∃we wt,PgW Rt pm H we wt p∧(∀j,j<H0.next→j≠pm→¬j9 we0 j→¬j9 wt0 j→H.get j=H0.get j)∧(∀b,j9 we b→j9 we0 b∨H0.next≤b)∧(∀b,j9 wt b→j9 wt0 b∨H0.next≤b):=by
 obtain⟨⟨we,wt,h1,h2,h3,h4,h5,h6,h7⟩,_⟩:=h;exact⟨we,wt,⟨h1,h2,h3,h4⟩,h5,h6,h7⟩
theorem tW(Hs:d9)(lo K k:Nat)(ih:sv Hs lo K k)(Hb:d9)(pm:Nat)(hlo:lo≤pm)(hpb0:pm<Hb.next)(heq:∀j,j<lo→Hb.get j=Hs.get j) (we wt:Value) (va:Option Addr) (ca:Nat) (l:List Q) (hv:QsR Hs lo k false (.slice va l.length ca) l) (hn:l.length≤1048576) (hw:∀x∈l,OkD false x) (s:Int) (r:PrD×List Int) (hr2:r.2.length≤1000000):
  ∀kk e H2,(∃(i:Nat)(p:PrD)(es:List Int)(w we2 wt2:Value),kk=l.length-i∧i≤l.length∧e.get 0=pT pm∧e.get 6=iV s∧e.get 7=w∧e.get 17= .slice va l.length ca∧e.get 18=iV l.length∧e.get 19=iV i∧PgS (QR Hs lo K true) pm Hb we wt H2 p∧PgW (QR Hs lo K true) pm H2 we2 wt2 p∧t7 H2 Hb.next 1 (v8 inE) w es∧(∀b,j9 w b→¬j9 we2 b∧¬j9 wt2 b)∧iq (nL (l.drop i)) p∧L5 (l.drop i) s p es=r)→
  u9 (LE prog t6 (.loop Ah) e H2) (fun o e H2=>o= .exit 0∧e.get 0=pT pm∧e.get 6=iV s∧∃(w we2 wt2:Value),e.get 7=w∧PgS (QR Hs lo K true) pm Hb we wt H2 r.1∧PgW (QR Hs lo K true) pm H2 we2 wt2 r.1∧t7 H2 Hb.next 1 (v8 inE) w r.2∧(∀b,j9 w b→¬j9 we2 b∧¬j9 wt2 b)):=by
 refine j7 _ _ ?_;rintro kk e H2 ⟨i,p,es,w,we2,wt2,hkk,hi,f0,f6,f7,f17,f18,f19,hP,hW,hO,hd2,hfit,fu⟩;rcases b:decide ((i:Int)<l.length)with _|_
 ·have hb':=dF b;have:l.drop i=[]:=dN oM;rw[this,L5]at fu;subst fu;refine J3 f18 f19 b ?_;exact l7 ⟨rfl,f0,f6,w,we2,wt2,f7,hP,hW,hO,hd2⟩
 have hb':=dT b;have hS:=hP.stay;have hn2:=hS.next;have hpm:=hP.lt;have hpb:pm<Hb.next:=hpb0;obtain⟨x,nb,o,cs,own,el,hx,hd,rfl,hlt,hg,hle,hrow,hr⟩:=hv.row (i:=i) oM;have hxm:=List.mem_of_getElem? hx;have nt:(i:Int).toNat=i:=tN i;simp only[qSz,Bool.false_eq_true,if_false]at hrow hg hle;have eq2:∀j,j<lo→H2.get j=Hs.get j:=fun j hj=>by rw[hS.get j oM,heq j hj]
 have a1:el.all Value.oneCell'=true:=F0 hr;have e1:=hr.len;simp only[qSz,Bool.false_eq_true,if_false]at e1;have ld1:=M8 hr;rw[e1]at ld1;have gx:=(eq2 nb hlt).trans hg;obtain⟨H3,hH3⟩:∃H3,H3=(H2.push (.cells [iV 0,nS,nS] true 1)).put H2.next (.cells el true 1):=⟨_,rfl⟩
 have n3:H3.next=H2.next+1:=by rw[hH3,j5,i5]
 have s3:i4 H2.next H2 H3:=by rw[hH3];exact(i4.push lR).trans (i4.put lR)
 have g3:H3.get H2.next=cE el 1:=by rw[hH3];exact i8 (by rw[i5];omega)
 have sp1:splice [iV 0,nS,nS] 0 el=el:=w7 _ _ (by rw[e1];rfl);have hnl:nL (l.drop i)=nQ x+nL (l.drop (i+1)):=by rw[hd,nL]
 obtain⟨t0,t1,t2,t3⟩:=hfit;rw[hnl]at t1 t2 t3;have hgr:=E8 x p;have W3:PgW (QR Hs lo K true) pm H3 we2 wt2 p:=⟨(s3.get pm oM).trans hW.row,hW.e.keep s3,hW.t.keep s3,hW.d⟩
 obtain⟨v4,h4,H4,hca,hge,rfl,hP4,hl4,_⟩:=ih H3 pm el x p hlo (fun j hj=>by rw[s3.get j oM,eq2 j hj]) hr (hw x hxm) ⟨t0,oM,oM,oM⟩ H3 we2 wt2 W3.start;have hPb4:=(hP.work s3).trans' hP4 W3.row;rw[hd,L5]at fu;obtain⟨z,hz⟩:∃z,z=C5 x p:=⟨_,rfl⟩
 rw[←hz]at hca hP4 hPb4 fu hgr;obtain⟨u0,u1,u2,u3⟩:=hgr;obtain⟨we4,wt4,W4,but4,ne4,nt4⟩:=hP4.w;have n4:=hP4.stay.next;obtain⟨v5,h5,H5,hcb,hgb,rfl,hP5,hl5,_⟩:=gU (QR Hs lo K true) pm H4 z.1 s z.2.1 oM H4 we4 wt4 W4.start;have hPb5:=hPb4.trans' hP5 W4.row;obtain⟨we5,wt5,W5,but5,ne5,nt5⟩:=hP5.w;have n5:=hP5.stay.next;have d4:∀b,j9 w b→¬j9 we4 b∧¬j9 wt4 b:=fun b hb=>⟨fun q=>by rcases ne4 b q with r|r;exact(hd2 b hb).1 r;have:=hO.lt hb;omega,fun q=>by rcases nt4 b q with r|r;exact(hd2 b hb).2 r;have:=hO.lt hb;omega⟩
 have d5:∀b,j9 w b→¬j9 we5 b∧¬j9 wt5 b:=fun b hb=>⟨fun q=>by rcases ne5 b q with r|r;exact(d4 b hb).1 r;have:=hO.lt hb;omega,fun q=>by rcases nt5 b q with r|r;exact(d4 b hb).2 r;have:=hO.lt hb;omega⟩
 have hO5:t7 H5 Hb.next 1 (v8 inE) w es:=hO.same fun b hb=>by
  have h1:=hO.lt hb;rw[but5 b oM oM (d4 b hb).1 (d4 b hb).2,but4 b oM oM (hd2 b hb).1 (hd2 b hb).2,s3.get b oM]
 obtain⟨w6,h6,H6,ha6,hge6,hO6,hG6⟩:=hO5.push1F (P:=prog) (t:=29) (cs:=inE z.2.2) (a:=z.2.2) (by exact yL.2.2.2.2.2.2) ty3.1 ty3.2.1 ty3.2.2.1 oM oM rfl rfl (by have h2:=(bA (l.drop (i+1)) s (z.1.edge s z.2.1 0 0) (es++[z.2.2])).2;rw[fu]at h2;simp at h2;omega) oM;have n6:=hG6.next;have hpm5:=hP5.lt;have six:∀{b:Nat},b<H5.next→¬j9 w b→H6.get b=H5.get b:=fun hb hw=>hG6.but _ hb hw;have W6:PgW (QR Hs lo K true) pm H6 we5 wt5 (z.1.edge s z.2.1 0 0):=⟨(six hpm5 (fun q=>by have:=hO.lt q;omega)).trans W5.row,W5.e.same fun b hb=>six (W5.e.lt hb).2 (fun q=>(d5 b q).1 hb),W5.t.same fun b hb=>six (W5.t.lt hb).2 (fun q=>(d5 b q).2 hb),W5.d⟩
 have hPb6:PgS (QR Hs lo K true) pm Hb we wt H6 (z.1.edge s z.2.1 0 0):=by
  obtain⟨⟨we',wt',k1,k2,k3,k4,k5,k6,k7⟩,ks⟩:=hPb5;have:=W5.row.symm.trans k1;simp only[Option.some.injEq,Blk.cells.injEq,List.cons.injEq,and_true,true_and]at this;obtain⟨rfl,rfl⟩:=this;exact⟨⟨we5,wt5,W6.row,W6.e,W6.t,W6.d,fun j hj q1 q2 q3=>by rw[six oM (fun q=>by have:=hO.lt q;omega)];exact k5 j hj q1 q2 q3,k6,k7⟩,ks.trans (hG6.stay.weaken oM)⟩
 refine J23 f0 f6 f7 f17 f18 f19 b gx nt hrow a1 e1 sp1 hH3.symm g3 ld1 hca hge hcb hgb ha6 hge6 @wrap_small ?_;refine i6 (kk-1) oM ⟨i+1,z.1.edge s z.2.1 0 0,es++[z.2.2],w6,we5,wt5,oM,oM,f0,f6,rfl,f17,f18,rfl,hPb6,W6,hO6,fun b hb=>?_,⟨by simp only[U4];omega,by simp only[U4];omega,by rw[N8];omega,by simp only[bS];omega⟩,fu⟩;rcases hG6.new b hb with r|r
 ·exact d5 b r
 ·exact⟨fun q=>by have:=W5.e.lt q;omega,fun q=>by have:=W5.t.lt q;omega⟩
theorem tV(Rt:LV→Q→Prop)(Hb:d9)(pm:Nat)(hpb:pm<Hb.next)(we wt:Value)(wa:Option Addr)(wc:Nat)(es:List Int)(hn:es.length≤1000000)(s t:Int)(r:PrD):
  ∀kk e H2,(∃(i:Nat)(p:PrD)(we2 wt2:Value),kk=es.length-i∧i≤es.length∧e.get 0=pT pm∧e.get 6=iV s∧e.get 12=iV t∧e.get 40= .slice wa es.length wc∧e.get 41=iV es.length∧e.get 42=iV i∧PgS Rt pm Hb we wt H2 p∧PgW Rt pm H2 we2 wt2 p∧t7 H2 Hb.next 1 (v8 inE) (.slice wa es.length wc) es∧(∀b,j9 (.slice wa es.length wc) b→¬j9 we2 b∧¬j9 wt2 b)∧H2.low≤pm∧p.ed.length+(es.length-i)≤1000000∧(es.drop i).foldl (fun m x=>m.edge x t 0 0) p=r)→
  u9 (LE prog t6 (.loop Ai) e H2) (fun o e H2=>o= .exit 2∧e.get 6=iV s∧e.get 12=iV t∧PgS Rt pm Hb we wt H2 r∧H2.low≤pm):=by
 refine j7 _ _ ?_;rintro kk e H2 ⟨i,p,we2,wt2,hkk,hi,f0,f6,f12,f40,f41,f42,hP,hW,hO,hd2,hl,hfit,fu⟩;rcases b:decide ((i:Int)<es.length)with _|_
 ·have hb':=dF b;have:es.drop i=[]:=dN oM;rw[this,List.foldl_nil]at fu;refine J3 f41 f42 b ?_;exact l7 ⟨rfl,f6,f12,by rw[←fu];exact hP,hl⟩
 have hb':=dT b;obtain⟨x,nb,o,cs,own,el,hx,hd,hwa,hlt,hg,hle,hrow,hc,hR⟩:=hO.sl.row (i:=i) oM;subst hwa;have nt:(i:Int).toNat=i:=tN i;have hel:el=inE x:=hR;subst hel;have c0:=hc 0 oM;rw[Nat.add_zero]at c0;rw[hd,List.foldl_cons]at fu;obtain⟨v5,h5,H5,hcb,hgb,rfl,hP5,hl5,_⟩:=gU Rt pm H2 p x t oM H2 we2 wt2 hW.start;have hPb5:=hP.trans' hP5 hW.row;obtain⟨we5,wt5,W5,but5,ne5,nt5⟩:=hP5.w;have d5:∀b,j9 (.slice (some ⟨nb,o,none⟩) es.length wc) b→¬j9 we5 b∧¬j9 wt5 b:=fun b hb=>⟨fun q=>by rcases ne5 b q with r|r;exact(hd2 b hb).1 r;have:=hO.lt hb;omega,fun q=>by rcases nt5 b q with r|r;exact(hd2 b hb).2 r;have:=hO.lt hb;omega⟩
 have hO5:t7 H5 Hb.next 1 (v8 inE) (.slice (some ⟨nb,o,none⟩) es.length wc) es:=hO.same fun b hb=>by
  have h1:=hO.lt hb;rw[but5 b oM oM (hd2 b hb).1 (hd2 b hb).2]
 refine J12 f0 f12 f40 f41 f42 b hg nt c0 hcb hgb @wrap_small ?_;exact i6 (kk-1) oM ⟨i+1,p.edge x t 0 0,we5,wt5,oM,oM,f0,f6,f12,f40,f41,rfl,hPb5,W5,hO5,d5,hl5,by rw[N8];omega,fu⟩
theorem XG(Hs:d9)(lo K k:Nat)(ih:sv Hs lo K k)(H:d9)(pm:Nat)(hlo:lo≤pm)(heq:∀j,j<lo→H.get j=Hs.get j) (v:Value) (l:List Q) (hv:QsR Hs lo k false v l) (hn:l.length≤1048576) (hw:∀x∈l,OkD false x) (p:PrD) (hfit:iq (1+nL l) p) (r:PrD×List Int) (hr:r=L5 l p.st {p with st:=p.st+1} []):
  PgC (QR Hs lo K true) pm (CL prog t6 109 [pT pm,v] H) H p (r.2.foldl (fun m x=>m.edge x r.1.st 0 0) {r.1 with st:=r.1.st+1}) (.tuple #[iV p.st,iV r.1.st]):=by
 refine gT fun we wt hp h=>?_;obtain⟨va,ca,rfl⟩:=hv.slice;obtain⟨t0,t1,t2,t3⟩:=hfit;have hnl:=pt l;obtain⟨⟨u0,u1,u2,u3⟩,u4⟩:=bA l p.st {p with st:=p.st+1} [];rw[←hr]at u0 u1 u2 u3 u4;simp only[List.length_nil]at u0 u1 u2 u3 u4;have eqb:∀j,j<lo→(⟨H.bs,H.next⟩:d9).get j=Hs.get j:=heq;obtain⟨H1,hc1,hP1,hl1,_,n1⟩:=cJ h t0 oM;obtain⟨we1,wt1,W1,but1,ne1,nt1⟩:=hP1.w;rw[j8 Wz rfl _ (by simp)];refine J1 hc1 ?_;refine l9 (F:=fun z=>∃H',u5 _ _ _ (u7 (inBlock 0 z) _)=some (D4 _ H H')∧PgS (QR Hs lo K true) pm _ we wt H' _∧H'.low≤pm) (tW Hs lo K k ih ⟨H.bs,H.next⟩ pm hlo hp eqb we wt va ca l hv hn hw p.st r oM l.length _ _ ⟨0,{p with st:=p.st+1},[],nS,we1,wt1,rfl,oM,rfl,rfl,rfl,rfl,rfl,rfl,hP1,W1,t7.nil,fun b hb=>(A9 b hb).elim,⟨by show 0≤p.st+1;omega,by rw[List.drop_zero];show p.st+1+_≤_;omega,by rw[List.drop_zero];show p.ed.length+_≤_;omega,by rw[List.drop_zero];show p.ts.length+_≤_;omega⟩,by rw[List.drop_zero];exact hr.symm⟩) ?_;rintro o' e' H2 ⟨ho,g0,g6,w,we2,wt2,g7,hP2,W2,hO2,hd2⟩;obtain⟨H3,hc3,hP3,hl3,_,n3⟩:=cJ W2.start oM oM;have hPb3:=hP2.trans' hP3 W2.row;obtain⟨we3,wt3,W3,but3,ne3,nt3⟩:=hP3.w;have d3:∀b,j9 w b→¬j9 we3 b∧¬j9 wt3 b:=fun b hb=>⟨fun q=>by rcases ne3 b q with r|r;exact(hd2 b hb).1 r;have:=hO2.lt hb;omega,fun q=>by rcases nt3 b q with r|r;exact(hd2 b hb).2 r;have:=hO2.lt hb;omega⟩
 have n0:(⟨H.bs,H.next⟩:d9).next=H.next:=rfl;have hO3:t7 H3 (d9.next ⟨H.bs,H.next⟩) 1 (v8 inE) w r.2:=hO2.same fun b hb=>by
  have h1:=hO2.lt hb;rw[but3 b oM oM (hd2 b hb).1 (hd2 b hb).2]
 obtain⟨wa,wc,ew⟩:=hO3.slice;rw[ew]at g7 hO3 d3;refine J4 ho g0 g7 hc3 ?_;refine l9 (F:=fun z=>∃H',u5 _ _ _ (u7 (inBlock 2 z) _)=some (D4 _ H H')∧PgS (QR Hs lo K true) pm _ we wt H' _∧H'.low≤pm) (tV (QR Hs lo K true) ⟨H.bs,H.next⟩ pm hp we wt wa wc r.2 oM p.st r.1.st _ r.2.length _ _ ⟨0,{r.1 with st:=r.1.st+1},we3,wt3,rfl,oM,g0,g6,rfl,rfl,rfl,rfl,hPb3,W3,hO3,d3,hl3,by show r.1.ed.length+_≤_;omega,rfl⟩) ?_;rintro o'' e'' H4 ⟨ho,k6,k12,hP4,hl4⟩;have ll:H4.low<H.next:=oM;refine J3 ho k6 k12 ?_;exact⟨H4,rfl,hP4,hl4⟩
theorem ah0(Hs:d9)(lo K k:Nat)(hk:k≤K)(ih:sv Hs lo K k):sv Hs lo K (k+1):=by
 intro H pm cs q p hlo heq hr hok hfit;refine gT fun we wt hp h=>?_;obtain⟨t0,t1,t2,t3⟩:=hfit;have hnq:=dE q;obtain⟨ok1,_,o1,_,okn⟩:=hok.parts;obtain⟨l1,l2,o7,_⟩:=dk okn;simp only[Bool.false_eq_true,if_false]at o7;obtain⟨va,ca,wa,ca',hcs,h1,h2,h3,h4'⟩:=hr.path;have ac:cs.all Value.oneCell'=true:=by rw[hcs];rfl
 have lc:cs.length=3:=by rw[hcs];rfl
 have q0:cs[0]?=some (.int .i64 q.op):=by rw[hcs];rfl
 have q1:cs[1]?=some (.slice va q.a.length ca):=by rw[hcs];rfl
 have q2:cs[2]?=some (.slice wa q.b.length ca'):=by rw[hcs];rfl
 obtain⟨H1,hH1⟩:∃H1,H1=d9.push ⟨H.bs,H.next⟩ (.cells cs true 1):=⟨_,rfl⟩
 have hS:i4 H.next ⟨H.bs,H.next⟩ H1:=by rw[hH1];exact i4.push lR
 have n1:H1.next=H.next+1:=by rw[hH1,i5];rfl
 have g1:H1.get H.next=cE cs 1:=by rw[hH1];exact i7
 have eq1:∀j,j<lo→H1.get j=Hs.get j:=fun j hj=>by rw[hS.get j oM];exact heq j hj
 have hP1:=h.work hS;have n0:(⟨H.bs,H.next⟩:d9).next=H.next:=rfl;obtain⟨we2,wt2,W0,_⟩:=h.w;have W1:PgW (QR Hs lo K true) pm H1 we2 wt2 p:=⟨(hS.get pm hp).trans W0.row,W0.e.keep hS,W0.t.keep hS,W0.d⟩
 rw[j8 ae7 rfl _ (by simp)];by_cases e2:q.op=2
 ·rw[ct q p oM oM oM,if_neg oM,if_pos e2,if_neg oM];obtain⟨v5,h5,H5,hcb,hgb,rfl,hP5,hl5,_⟩:=jT (QR Hs lo K true) pm H1 p 1 0 oM t0 oM _ we wt hP1;have ll:H5.low<H.next:=oM;refine J7 ac hH1.symm g1 q0 e2 hcb hgb ?_;exact⟨H5,rfl,hP5,hl5⟩
 by_cases e3:q.op=3
 ·rw[ct q p oM oM oM,if_neg oM,if_neg e2,if_pos e3,if_neg oM];obtain⟨v5,h5,H5,hcb,hgb,rfl,hP5,hl5,_⟩:=jT (QR Hs lo K true) pm H1 p 2 0 oM t0 oM _ we wt hP1;have ll:H5.low<H.next:=oM;refine J7 ac hH1.symm g1 q0 e3 hcb hgb ?_;exact⟨H5,rfl,hP5,hl5⟩
 have b2:decide (q.op=2)=false:=decide_eq_false e2;have b3:decide (q.op=3)=false:=decide_eq_false e3;by_cases e4:q.op=4
 ·rw[pN q p e4];have e1:lst false q.op=2:=by rw[e4];decide
  rw[e1]at l1;obtain⟨v5,h5,H5,hcb,hgb,rfl,hP5,hl5,_⟩:=XF Hs lo K k ih H1 pm hlo eq1 (.slice va q.a.length ca) q.a h1 h3 oM ok1 p ⟨t0,oM,oM,oM⟩ _ we wt hP1;have ll:H5.low<H.next:=oM;refine J8 ac hH1.symm g1 q0 q1 e4 hcb hgb ?_;exact⟨H5,rfl,hP5,hl5⟩
 by_cases e5:q.op=5
 ·rw[pM q p e5];obtain⟨v5,h5,H5,hcb,hgb,rfl,hP5,hl5,_⟩:=XG Hs lo K k ih H1 pm hlo eq1 (.slice va q.a.length ca) q.a h1 h3 ok1 p ⟨t0,oM,oM,oM⟩ _ rfl _ we wt hP1;have ll:H5.low<H.next:=oM;refine J8 ac hH1.symm g1 q0 q1 e5 hcb hgb ?_;exact⟨H5,rfl,hP5,hl5⟩
 by_cases e6:q.op=6
 ·have e1:lst false q.op=1∧mst false q.op=1:=by rw[e6];decide
  rw[e1.1]at l1;rw[e1.2]at l2;obtain⟨x,nb,o,csx,own,el,hx,hd,rfl,hlt,hgx,hle,hrow,hR⟩:=h1.row (i:=0) oM;simp only[qSz,Bool.false_eq_true,if_false,Nat.zero_mul,Nat.add_zero]at hrow hgx hle;have hax:q.a=[x]:=by
   obtain⟨y,hy⟩:=List.length_eq_one_iff.1 (show q.a.length=1 from oM);rw[hy]at hx ⊢;simpa using hx
  have hnl:nL q.a=nQ x:=by rw[hax,nL,nL];omega
  rw[mP q p e6 hax];obtain⟨H2,hc2,hP2,hl2,_,n2⟩:=cJ hP1 t0 oM;have eqs2:∀j,j<pm→H2.get j=(⟨H.bs,H.next⟩:d9).get j:=hP2.stay.get;have eq2:∀j,j<lo→H2.get j=Hs.get j:=fun j hj=>by rw[eqs2 j oM];exact heq j hj
  have gx2:=(eq2 nb hlt).trans hgx;have g2:H2.get H.next=cE cs 1:=by
   obtain⟨H2',hc2',hP2',_⟩:=cJ W1.start t0 oM;have:H2'=H2:=by
    have:=hc2'.symm.trans hc2
    simpa using this
   subst this;obtain⟨_,_,_,but2,_⟩:=hP2'.w;rw[but2 H.next oM oM (fun q=>by have:=W0.e.lt q;omega) (fun q=>by have:=W0.t.lt q;omega)];exact g1
  obtain⟨v3,h3',H3,hc3,hge3,rfl,hP3,hl3,_⟩:=ih H2 pm el x {p with st:=p.st+1} hlo eq2 hR (ok1 x (by rw[hax];simp)) ⟨by show 0≤p.st+1;omega,by show p.st+1+_≤_;omega,by show p.ed.length+_≤_;omega,by show p.ts.length+_≤_;omega⟩ _ we wt hP2;have hgr:=E8 x {p with st:=p.st+1};obtain⟨z,hz⟩:∃z,z=C5 x {p with st:=p.st+1}:=⟨_,rfl⟩
  rw[←hz]at hc3 hP3 hgr ⊢;obtain⟨u0,u1,u2,u3⟩:=hgr;simp only at u0 u1 u2 u3;obtain⟨v4,h4,H4,hc4,hge4,rfl,hP4,hl4,_⟩:=gU (QR Hs lo K true) pm H3 z.1 p.st z.2.1 oM _ we wt hP3;obtain⟨v5,h5,H5,hc5,hge5,rfl,hP5,hl5,_⟩:=gU (QR Hs lo K true) pm H4 (z.1.edge p.st z.2.1 0 0) z.2.2 p.st (by rw[N8];omega) _ we wt hP4;have ll:H5.low<H.next:=oM;have hl0:(0:Int)<q.a.length:=oM;refine J16 ac hH1.symm g1 q0 q1 e6 hc2 g2 gx2 hrow hc3 hge3 hc4 hge4 hc5 hge5 ?_;exact⟨H5,rfl,hP5,hl5⟩
 have b4:decide (q.op=4)=false:=decide_eq_false e4;have b5:decide (q.op=5)=false:=decide_eq_false e5;have b6:decide (q.op=6)=false:=decide_eq_false e6;by_cases e7:q.op=7
 ·rw[ct q p e4 e5 e6,if_pos e7,if_neg e2,if_neg e3,if_pos e7,if_pos e7];have lb1:=o7.1 e7;obtain⟨wt5,h5,H5,ha5,hge5,hO5,hG5⟩:=W1.t.appendF (P:=prog) (t:=23) (n:=lo) (l2:=q.b) (x:= .slice wa q.b.length ca') (by exact pI.2.2.2.2.2.2) aW.1 aW.2.1 aW.2.2.1 oM oM (SlI.mono h2 (fun j hj=>eq1 j hj) lR (fun _ _ h=>h.upTo hk)) oM oM;have n5:=hG5.next;have npt:¬j9 wt2 pm:=fun q=>by have:=W1.t.lt q;omega
  have gp5:H5.get pm=cE [iV p.st,iV p.sa,iV p.en,we2,wt2] 1:=(hG5.but pm oM npt).trans W1.row;obtain⟨a5,c5,ew5⟩:=hO5.slice;have cw:wt5.cells.toList=[wt5]:=by rw[ew5];rfl
  have ow:Value.oneCell' wt5=true:=by rw[ew5];rfl
  obtain⟨a0,c0,ew0⟩:=W1.t.slice;obtain⟨H6,hH6⟩:∃H6,H6=H5.put pm (.cells [iV p.st,iV p.sa,iV p.en,we2,wt5] true 1):=⟨_,rfl⟩
  have n6:H6.next=H5.next:=by rw[hH6,j5]
  have gp6:H6.get pm=cE [iV p.st,iV p.sa,iV p.en,we2,wt5] 1:=by rw[hH6];exact i8 oM
  have k6:∀j,j≠pm→H6.get j=H5.get j:=fun j hj=>by rw[hH6,i9 (fun q=>hj q.symm)]
  have P6:PgS (QR Hs lo K true) pm H1 we2 wt2 H6 {p with ts:=p.ts++q.b}:=by
   refine⟨⟨we2,wt5,gp6,W1.e.same fun b hb=>?_,hO5.same fun b hb=>k6 b (by have:=hO5.lt hb;omega),fun b hb q=>?_,fun j hj q1 q2 q3=>by rw[k6 j q1,hG5.but j hj q3],fun _ h=> .inl h,hG5.new⟩,?_⟩
   ·have:=W1.e.lt hb;rw[k6 b oM,hG5.but b this.2 (W1.d b hb)]
   ·have:=W1.e.lt hb;rcases hG5.new b q with r|r
    ·exact W1.d b hb r
    ·omega
   ·rw[hH6];exact(hG5.stay.weaken oM).trans (i4.put lR)
  have hP6:=hP1.trans' P6 W1.row;have hl5:(p.ts++q.b).length=p.ts.length+1:=by rw[List.length_append,lb1]
  have ei:(((p.ts++q.b).length:Nat):Int)-1=(p.ts.length:Int):=by rw[hl5];omega
  obtain⟨v7,h7,H7,hc7,hge7,rfl,hP7,hl7,_⟩:=jT (QR Hs lo K true) pm H6 {p with ts:=p.ts++q.b} 3 p.ts.length (by show p.ed.length+1≤_;omega) t0 (by show p.st≤_;omega) _ we wt hP6;have ll:H7.low<H.next:=oM;have gH6:H6.get H.next=cE cs 1:=by rw[k6 _ oM,hG5.but _ oM (fun q=>by have:=W0.t.lt q;omega)];exact g1
  rw[ew5]at cw ow gp6 hH6;have W1r:=W1.row;rw[ew0]at W1r gp5 ha5;rw[ew5]at ha5;refine J16 ac hH1.symm g1 q0 q2 e7 W1r ha5 hge5 gp5 hH6.symm gp6 ei hc7 hge7 @wrap_small ?_;exact⟨H7,rfl,hP7,hl7⟩
 ·have b7:decide (q.op=7)=false:=decide_eq_false e7;rw[ct q p e4 e5 e6,if_neg e7,if_neg e2,if_neg e3,if_neg e7,if_neg e7];obtain⟨v5,h5,H5,hcb,hgb,rfl,hP5,hl5,_⟩:=jT (QR Hs lo K true) pm H1 p 0 0 oM t0 oM _ we wt hP1;have ll:H5.low<H.next:=oM;refine J12 ac hH1.symm g1 q0 b2 b3 b4 b5 b6 b7 hcb hgb ?_;exact⟨H5,rfl,hP5,hl5⟩
theorem Ni(Hs:d9)(lo K:Nat):∀k,k≤K+1→sv Hs lo K k:=by
 intro k;induction k with
 |zero=>intro _ H pm cs q p _ _ hr;exact hr.elim
 |succ k ih=>intro hk;exact ah0 Hs lo K k oM (ih oM)
theorem vp(K:Nat)(H:d9)(lo:Nat)(cs:LV)(q:Q)(hlo:lo≤H.next)(hr:QR H lo K false cs q)(hok:OkD false q)(hfit:nQ q≤100000):
  Ret (CL prog t6 59 [.agg cs.toArray] H) H (yV H (QR H lo K true) (C0 q)):=by
 have a0:=F0 hr;have l0:=hr.len;have ld0:=M8 hr;rw[l0]at ld0;simp only[qSz,Bool.false_eq_true,if_false]at ld0 l0;obtain⟨H1,hH1⟩:∃H1,H1=((d9.push ⟨H.bs,H.next⟩ (.cells cs true 1)).push (.cells z5 true 1)).push (.cells z5 true 1):=⟨_,rfl⟩
 have n0:(d9.push ⟨H.bs,H.next⟩ (.cells cs true 1)).next=H.next+1:=by rw[i5];rfl
 have n0':((d9.push ⟨H.bs,H.next⟩ (.cells cs true 1)).push (.cells z5 true 1)).next=H.next+2:=by rw[i5,n0]
 have n1:H1.next=H.next+3:=by rw[hH1,i5,n0']
 have hS:i4 H.next H H1:=by rw[hH1];exact((i4.first H _).trans (i4.push oM)).trans (i4.push oM)
 have g1:H1.get H.next=cE cs 1:=by rw[hH1,j6 oM,j6 oM];exact i7
 have g2:H1.get (H.next+1)=cE z5 1:=by rw[hH1,j6 oM];exact y7 oM
 have g3:H1.get (H.next+2)=cE z5 1:=by rw[hH1];exact y7 oM
 have hlow:H.next≤H1.low:=by rw[hH1,t5,t5,t5];exact lR
 have start:PgS (QR H lo K true) (H.next+2) H1 (nS) (nS) H1 ⟨0,0,0,[],[]⟩:=PgS.start g3 t7.nil t7.nil (fun b hb=>(A9 b hb).elim);obtain⟨v3,h3',H2,hc3,hge3,rfl,hP,hl,_⟩:=Ni H lo K K oM H1 (H.next+2) cs q ⟨0,0,0,[],[]⟩ oM (fun j hj=>hS.get j oM) hr hok ⟨by decide,by show(0:Int)+_≤_;omega,by simp;omega,by simp;omega⟩ _ _ _ start;obtain⟨y,hy⟩:∃y,y=C5 q ⟨0,0,0,[],[]⟩:=⟨_,rfl⟩
 rw[C0,←hy];rw[←hy]at hc3 hP;obtain⟨we,wt,W,but,ne,nt⟩:=hP.w;have n2:=hP.stay.next;obtain⟨ea,ec,e1⟩:=W.e.slice;obtain⟨ta,tc,e2⟩:=W.t.slice;have row0:=W.row;have g21:H2.get (H.next+1)=cE z5 1:=(but _ oM oM (A9 _) (A9 _)).trans g2;obtain⟨rowa,hrowa⟩:∃r:LV,r=[iV y.1.st,iV y.2.1,iV y.1.en,we,wt]:=⟨_,rfl⟩
 obtain⟨row6,hrow6⟩:∃r:LV,r=[iV y.1.st,iV y.2.1,iV y.2.2,we,wt]:=⟨_,rfl⟩
 obtain⟨H3,hH3⟩:∃K,K=(H2.put (H.next+2) (.cells [iV y.1.st,iV y.2.1,iV y.1.en,we,wt] true 1)).put (H.next+2) (.cells row6 true 1):=⟨_,rfl⟩
 have n3:H3.next=H2.next:=by rw[hH3,j5,j5]
 have g3p:H3.get (H.next+2)=cE row6 1:=by rw[hH3];exact i8 (by rw[j5];omega)
 have g31:H3.get (H.next+1)=cE z5 1:=by rw[hH3,i9 oM,i9 oM];exact g21
 have a6:row6.all Value.oneCell'=true:=by rw[hrow6,e1,e2];rfl
 have l6:row6.length=5:=by rw[hrow6];rfl
 have ld6:ldC (some true) (some 5) 0 row6=some (.agg row6.toArray):=by rw[hrow6];rfl
 have sp6:splice z5 0 row6=row6:=w7 _ _ (by rw[l6];rfl);obtain⟨H4,hH4⟩:∃K,K=H3.put (H.next+1) (.cells row6 true 1):=⟨_,rfl⟩
 have n4:H4.next=H3.next:=by rw[hH4,j5]
 have g4:H4.get (H.next+1)=cE row6 1:=by rw[hH4];exact i8 oM
 have s4:i4 H.next H1 H4:=(hP.stay.weaken oM).trans (by rw[hH4,hH3];exact((i4.put oM).trans (i4.put oM)).trans (i4.put oM));have hl4:=s4.low hlow;have k4:∀j,H.next+2<j→H4.get j=H2.get j:=fun j hj=>by rw[hH4,i9 oM,hH3,i9 oM,i9 oM]
 have fin:PrF H4 (fun j=>H.next≤j∧j<H4.next) (QR H lo K true) row6 {y.1 with sa:=y.2.1,en:=y.2.2}:=⟨we,wt,hrow6,(W.e.same fun b hb=>k4 b (by have:=W.e.lt hb;omega)).frz fun b hb=>by have:=W.e.lt hb;omega,(W.t.same fun b hb=>k4 b (by have:=W.t.lt hb;omega)).frz fun b hb=>by have:=W.t.lt hb;omega⟩
 have e10:(some (Blk.cells [iV y.1.st,iV y.1.sa,iV y.1.en,we,wt] true 1))=cE [iV y.1.st,iV y.1.sa,iV y.1.en,we,wt] 1:=rfl;rw[j8 ac7 rfl _ (by simp)];rw[hrow6]at hH3;refine J16 a0 hH1.symm g1 ld0 hc3 hge3 @row0 hH3.symm g3p ld6 g31 a6 l6 sp6 hH4.symm g4 ?_;exact qn fin (hS.trans s4) hl4 (fun h=>h)
def bR:List Q→Int→List Int
 |[],_=>[]
 |x::l,n=>n::bR l (n+(C0 x).st)
def eL(L:List Q)(m:PrD):StD:=⟨L,L.map C0,bR L 0,m⟩
theorem nr(l:List PrD):∀n:Int,l.foldl (fun n p=>n+p.st) n=n+y9 l:=by
 induction l with
 |nil=>intro n;simp [y9]
 |cons p l ih=>
  intro n;rw[List.foldl_cons,ih];show _=n+(p::l).foldl (fun n p=>n+p.st) 0;rw[List.foldl_cons,ih (0+p.st)];omega
theorem pj(l l2:List PrD):y9 (l++l2)=y9 l+y9 l2:=by
 show(l++l2).foldl (fun n p=>n+p.st) 0=_;rw[List.foldl_append,nr];rfl
theorem qR(p:PrD)(l:List PrD):y9 (p::l)=p.st+y9 l:=by
 show(p::l).foldl (fun n p=>n+p.st) 0=_;rw[List.foldl_cons,nr];omega
theorem kh(l:List Q)(x:Q):∀n,bR (l++[x]) n=bR l n++[n+y9 (l.map C0)]:=by
 induction l with
 |nil=>intro n;simp [bR,y9]
 |cons y l ih=>
  intro n;rw[List.cons_append,bR,ih,bR,List.map_cons,qR,List.cons_append]
  congr 3;omega
theorem uG(x y:Q):M0 x y=M0 y x:=by
 rw[Bool.eq_iff_iff,iT,iT];exact eq_comm
theorem rV(L:List Q)(m:PrD)(x:Q):F4 (eL L m) x=eL (aF L x) m:=by
 have:(eL L m).paths.any (fun y=>M0 y x)=L.any (fun y=>M0 x y):=by
  show L.any _=_
  congr 1;funext y;exact uG y x
 rw[F4,this,aF];split
 ·rfl
 ·simp only[eL,List.map_append,kh,Int.zero_add];rfl
theorem yE(q:Q):D0 q=eL ((inQ false q).foldl aF []) (C0 q):=by
 have:∀(l L:List Q)(m:PrD),l.foldl F4 (eL L m)=eL (l.foldl aF L) m:=by
  intro l;induction l with
  |nil=>intro L m;rfl
  |cons x l ih=>intro L m;rw[List.foldl_cons,rV,ih,List.foldl_cons]
 exact this (inQ false q) [] (C0 q)
theorem zc(l:List Q)(P:Q→Prop)(hl:∀x∈l,P x):∀L:List Q,(∀x∈L,P x)→∀x∈l.foldl aF L,P x:=by
 induction l with
 |nil=>intro L h;exact h
 |cons y l ih=>
  intro L h;rw[List.foldl_cons];refine ih (fun x hx=>hl x (by simp [hx])) _ fun x hx=>?_;unfold aF at hx;split at hx
  ·exact h x hx
  ·rcases List.mem_append.1 hx with hx|hx
   ·exact h x hx
   ·have:x=y:=by simpa using hx
    rw[this];exact hl y (by simp)
theorem xM(K:Nat)(Hs:d9)(lo n0 p4:Nat)(hlo:lo≤n0)(hp4:n0≤p4)(lv:Value)(l:List Q)(hl:l.length≤100000)(hok:∀x∈l,OkD false x∧nQ x≤1000) (ms:LV) (m:PrD) (H1:d9) (heq:∀j,j<lo→H1.get j=Hs.get j) (t2:Value):
  ∀kk e H2,(∃(i:Nat)(w2 w3:Value)(G:Nat→Prop),kk=l.length-i∧i≤l.length∧e.get 2=t2∧e.get 4=pT p4∧e.get 5=iV (y9 ((l.take i).map C0))∧e.get 17=lv∧e.get 18=iV l.length∧e.get 19=iV i∧0≤y9 ((l.take i).map C0)∧y9 ((l.take i).map C0)≤2000*i∧
    H2.get p4=cE (lv::w2::w3::ms) 1∧PrF H2 G (QR Hs lo K true) ms m∧SlF H2 G 3 (QR Hs lo K false) lv l∧t7 H2 (p4+1) 5 (PrF H2 G (QR Hs lo K true)) w2 ((l.take i).map C0)∧t7 H2 (p4+1) 1 (v8 inE) w3 (bR (l.take i) 0)∧
    (∀j,G j→n0≤j∧j<H2.next∧j≠p4∧¬j9 w2 j∧¬j9 w3 j)∧(∀j,j9 w2 j→¬j9 w3 j)∧i4 n0 H1 H2)→
  u9 (LE prog t6 (.loop Fy) e H2) (fun o e H2=>o= .exit 0∧e.get 2=t2∧e.get 4=pT p4∧∃(w2 w3:Value)(G:Nat→Prop),H2.get p4=cE (lv::w2::w3::ms) 1∧PrF H2 G (QR Hs lo K true) ms m∧SlF H2 G 3 (QR Hs lo K false) lv l∧t7 H2 (p4+1) 5 (PrF H2 G (QR Hs lo K true)) w2 (l.map C0)∧t7 H2 (p4+1) 1 (v8 inE) w3 (bR l 0)∧(∀j,G j→n0≤j∧j<H2.next∧j≠p4)∧i4 n0 H1 H2):=by
 refine j7 _ _ ?_;rintro kk e H2 ⟨i,w2,w3,G,hkk,hi,f2,f4,f5,f17,f18,f19,hi0,hi1,g4,hms,hlv,hO2,hO3,hG,d2,hS⟩;have hn2:=hS.next;have hp4n:=u6 g4;rcases b:decide ((i:Int)<l.length)with _|_
 ·have hb':=dF b;have:l.take i=l:=List.take_of_length_le oM;rw[this]at hO2 hO3;refine J3 f18 f19 b ?_;exact l7 ⟨rfl,f2,f4,w2,w3,G,g4,hms,hlv,hO2,hO3,fun j hj=>⟨(hG j hj).1,(hG j hj).2.1,(hG j hj).2.2.1⟩,hS⟩
 have hb':=dT b;have hlvs:=hlv.slice;obtain⟨la,lc,elv⟩:=hlvs;have hlv':=hlv;rw[elv]at hlv';obtain⟨x,nb,o,csx,own,el,hx,hd,hla,hGn,hgx,hle,hrow,hc,hR⟩:=hlv'.row (i:=i) oM;subst hla;have nt:(i:Int).toNat=i:=tN i;obtain⟨hokx,hnx⟩:=hok x (List.mem_of_getElem? hx);have hcst:=cy x;have htk:l.take (i+1)=l.take i++[x]:=by rw[List.take_add_one,hx];rfl
 have a1:=F0 hR;have e1:=hR.len;simp only[qSz,Bool.false_eq_true,if_false]at e1;have ld1:=M8 hR;rw[e1]at ld1;have eq2:∀j,j<lo→H2.get j=Hs.get j:=fun j hj=>by rw[hS.get j oM,heq j hj]
 obtain⟨H3,hH3⟩:∃H3,H3=(H2.push (.cells [iV 0,nS,nS] true 1)).put H2.next (.cells el true 1):=⟨_,rfl⟩
 have n3:H3.next=H2.next+1:=by rw[hH3,j5,i5]
 have s3:i4 H2.next H2 H3:=by rw[hH3];exact(i4.push lR).trans (i4.put lR)
 have g3:H3.get H2.next=cE el 1:=by rw[hH3];exact i8 (by rw[i5];omega)
 have sp1:splice [iV 0,nS,nS] 0 el=el:=w7 _ _ (by rw[e1];rfl);have eq3:∀j,j<lo→H3.get j=Hs.get j:=fun j hj=>by rw[s3.get j oM,eq2 j hj]
 obtain⟨v3,h3',H4,hc4,hge4,cs5,rfl,hp5,s4⟩:=vp K H3 lo el x oM (hR.mono eq3 lR) hokx oM;have n4:=s4.next;have a5:=fd hp5;have l5:=aV hp5;have hp5':PrF H4 (fun j=>H3.next≤j∧j<H4.next) (QR Hs lo K true) cs5 (C0 x):=hp5.mono (fun _ _=>rfl) (fun _ h=>h) (fun _ _ h=>h.mono (fun j hj=>(eq3 j hj).symm) lR);obtain⟨H5,hH5⟩:∃H,H=(H4.push (.cells z5 true 1)).put H4.next (.cells cs5 true 1):=⟨_,rfl⟩
 have n5:H5.next=H4.next+1:=by rw[hH5,j5,i5]
 have s5:i4 H4.next H4 H5:=by rw[hH5];exact(i4.push lR).trans (i4.put lR)
 have g5:H5.get H4.next=cE cs5 1:=by rw[hH5];exact i8 (by rw[i5];omega)
 have sp5:splice z5 0 cs5=cs5:=w7 _ _ (by rw[l5];rfl);have s25:i4 H2.next H2 H5:=(s3.trans (s4.weaken oM)).trans (s5.weaken oM);have g54:H5.get p4=cE (lv::w2::w3::ms) 1:=(s25.get p4 hp4n).trans g4;have lms:=aV hms;obtain⟨G2,hG2⟩:∃G2:Nat→Prop,G2=fun j=>G j∨(H3.next≤j∧j<H4.next):=⟨_,rfl⟩
 have sub2:∀j,G j→G2 j:=fun j hj=>by rw[hG2];exact .inl hj
 have g2lt:∀j,G2 j→n0≤j∧j<H4.next∧j≠p4∧¬j9 w2 j∧¬j9 w3 j:=fun j hj=>by
  rw[hG2]at hj;rcases hj with hj|hj
  ·have:=hG j hj;exact⟨this.1,oM,this.2.2⟩
  ·exact⟨oM,hj.2,oM,fun q=>by have:=hO2.lt q;omega,fun q=>by have:=hO3.lt q;omega⟩
 have oldG:∀j,G j→H5.get j=H2.get j:=fun j hj=>s25.get j (hG j hj).2.1;have new5:∀j,(H3.next≤j∧j<H4.next)→H5.get j=H4.get j:=fun j hj=>s5.get j hj.2;have hcomp:PrF H5 G2 (QR Hs lo K true) cs5 (C0 x):=hp5'.mono new5 (fun j hj=>by rw[hG2];exact .inr hj) iF;have hO25:t7 H5 (p4+1) 5 (PrF H5 G2 (QR Hs lo K true)) w2 ((l.take i).map C0):=(hO2.keep s25).imp fun cs p h=>h.mono oldG sub2 iF;obtain⟨u2,h7',H7,ha7,hge7,hO27,hG7⟩:=hO25.push1F (P:=prog) (t:=28) (cs:=cs5) (a:=C0 x) (by exact NP.2.2.2.2.2.2) mK.1 mK.2.1 mK.2.2.1 oM oM l5 hcomp (by simp;omega) oM;have n7:=hG7.next;obtain⟨H6,hH6⟩:∃H,H=H5.push (.cells cs5 true 5):=⟨_,rfl⟩
 rw[←hH6]at ha7 hge7;have n6:H6.next=H5.next+1:=by rw[hH6,i5]
 have g64:H6.get p4=cE (lv::w2::w3::ms) 1:=by rw[hH6,j6 oM];exact g54
 have g74:H7.get p4=cE (lv::w2::w3::ms) 1:=(hG7.but p4 oM (fun q=>by have:=hO2.lt q;omega)).trans g54;have hO37:t7 H7 (p4+1) 1 (v8 inE) w3 (bR (l.take i) 0):=(hO3.keep s25).same fun b hb=>hG7.but b (by have:=hO3.lt hb;omega) (fun q=>d2 b q hb);obtain⟨u3,h9',H9,ha9,hge9,hO39,hG9⟩:=hO37.push1F (P:=prog) (t:=29) (cs:=inE (y9 ((l.take i).map C0))) (a:=y9 ((l.take i).map C0)) (by exact yL.2.2.2.2.2.2) ty3.1 ty3.2.1 ty3.2.2.1 oM oM rfl rfl (by
  have:∀(l:List Q) n,(bR l n).length=l.length:=by
   intro l;induction l with
   |nil=>intro n;rfl
   |cons y l ih=>intro n;rw[bR,List.length_cons,ih,List.length_cons]
  rw[this];simp;omega) oM
 have n9:=hG9.next;obtain⟨H8,hH8⟩:∃H,H=H7.push (.cells (inE (y9 ((l.take i).map C0))) true 1):=⟨_,rfl⟩
 rw[←hH8]at ha9 hge9;have n8:H8.next=H7.next+1:=by rw[hH8,i5]
 have g84:H8.get p4=cE (lv::w2::w3::ms) 1:=by rw[hH8,j6 oM];exact g74
 have g94:H9.get p4=cE (lv::w2::w3::ms) 1:=(hG9.but p4 oM (fun q=>by have:=hO3.lt q;omega)).trans g74;obtain⟨ub,ucb,eu2⟩:=hO27.slice;have ou2:Value.oneCell' u2=true:=by rw[eu2];rfl
 have cu2:u2.cells.toList=[u2]:=by rw[eu2];rfl
 obtain⟨ub3,ucb3,eu3⟩:=hO39.slice;have ou3:Value.oneCell' u3=true:=by rw[eu3];rfl
 have cu3:u3.cells.toList=[u3]:=by rw[eu3];rfl
 obtain⟨R8,hR8⟩:∃R8,R8=lv::w2::w3::ms:=⟨_,rfl⟩
 rw[←hR8]at g54 g64 g74 g84 g94;have l8:R8.length=8:=by rw[hR8];simp [lms]
 have q81:R8[1]?=some w2:=by rw[hR8];rfl
 have q82:R8[2]?=some w3:=by rw[hR8];rfl
 obtain⟨R8b,hR8b⟩:∃R,R=lv::u2::w3::ms:=⟨_,rfl⟩
 have sp2:splice R8 1 [u2]=R8b:=by rw[hR8,hR8b];rfl
 have lb:R8b.length=8:=by rw[hR8b];simp [lms]
 have sp3:splice R8b 2 [u3]=lv::u2::u3::ms:=by rw[hR8b];rfl
 obtain⟨H10,hH10⟩:∃H,H=H9.put p4 (.cells R8b true 1):=⟨_,rfl⟩
 have n10:H10.next=H9.next:=by rw[hH10,j5]
 have g104:H10.get p4=cE R8b 1:=by rw[hH10];exact i8 oM
 obtain⟨H11,hH11⟩:∃H,H=H10.put p4 (.cells (lv::u2::u3::ms) true 1):=⟨_,rfl⟩
 have n11:H11.next=H10.next:=by rw[hH11,j5]
 have g11:H11.get p4=cE (lv::u2::u3::ms) 1:=by rw[hH11];exact i8 oM
 have fr9:∀j,j≠p4→H11.get j=H9.get j:=fun j hj=>by rw[hH11,i9 (fun q=>hj q.symm),hH10,i9 (fun q=>hj q.symm)]
 have fr5:∀j,j<H5.next→j≠p4→¬j9 w2 j→¬j9 w3 j→H11.get j=H5.get j:=fun j hj h1 h2 h3=>by rw[fr9 j h1,hG9.but j oM h3,hG7.but j hj h2]
 have g11c:H11.get H4.next=cE cs5 1:=(fr5 _ oM oM (fun q=>by have:=hO2.lt q;omega) (fun q=>by have:=hO3.lt q;omega)).trans g5;have ld5:ldC (some true) (some 5) 0 cs5=some (.agg cs5.toArray):=by obtain⟨_,_,_,_,rfl,_⟩:=E1 hp5;rfl
 have c50:cs5[0]?=some (.int .i64 (C0 x).st):=by obtain⟨_,_,_,_,rfl,_⟩:=E1 hp5;rfl
 have bs3:bsA prog (some 32) H5 1 [(0,.agg cs5.toArray)]=some (.slice (some ⟨H5.next,0,none⟩) 1 1,H6):=by
  rw[hH6];obtain⟨_,_,_,_,rfl,_⟩:=E1 hp5;simp only[C7,mK,C8];rfl
 have gx2:=hgx;have hH11':H11=H10.put p4 (.cells (.slice (some ⟨nb,o,none⟩) l.length lc::u2::u3::ms) true 1):=by rw[hH11,elv]
 refine J30 f4 f5 f17 f18 f19 elv b gx2 nt (And.intro hrow a1) (And.intro e1 sp1) (And.intro hH3.symm g3) (And.intro ld1 hc4) (And.intro hge4 a5) (And.intro l5 sp5) (And.intro hH5.symm g5) (And.intro g54 g64) (And.intro g74 g84) (And.intro g94 q81) (And.intro q82 ld5) (And.intro bs3 ha7) (And.intro hge7 hH8.symm) (And.intro ha9 hge9) (And.intro l8 ou2) (And.intro cu2 sp2) (And.intro hH10.symm g104) (And.intro lb ou3) (And.intro cu3 sp3) (And.intro hH11'.symm g11c) (And.intro c50 @wrap_small) ?_;have frA:∀j,G2 j→H11.get j=H5.get j:=fun j hj=>by
  obtain⟨q1,q2,q3,q4,q5⟩:=g2lt j hj;exact fr5 j oM q3 q4 q5
 have e5':y9 ((l.take (i+1)).map C0)=y9 ((l.take i).map C0)+(C0 x).st:=by rw[htk,List.map_append,pj,List.map_singleton];simp [y9]
 have eb:bR (l.take (i+1)) 0=bR (l.take i) 0++[y9 ((l.take i).map C0)]:=by rw[htk,kh,Int.zero_add]
 have em:(l.take (i+1)).map C0=(l.take i).map C0++[C0 x]:=by rw[htk,List.map_append];rfl
 refine i6 (kk-1) oM ⟨i+1,u2,u3,G2,oM,oM,f2,f4,by rw[e5'];rfl,f17,f18,rfl,by rw[e5'];omega,by rw[e5'];omega,g11,?_,?_,?_,?_,?_,?_,?_⟩
 ·exact hms.mono (fun j hj=>by rw[frA j (sub2 j hj),oldG j hj]) sub2 iF
 ·exact hlv.mono (fun j hj=>by rw[frA j (sub2 j hj),oldG j hj]) sub2 iF
 ·rw[em];refine(hO27.same (H':=H11) fun b hb=>?_).imp fun cs p h=>h.mono frA (fun _ h=>h) iF;have h1:=hO27.lt hb;have h2:¬j9 w3 b:=by
   rcases hG7.new b hb with q|q
   ·exact d2 b q
   ·exact fun q=>by have:=hO3.lt q;omega
  rw[fr9 b oM,hG9.but b oM h2]
 ·rw[eb];exact hO39.same fun b hb=>fr9 b (by have:=hO39.lt hb;omega)
 ·intro j hj;obtain⟨q1,q2,q3,q4,q5⟩:=g2lt j hj;refine⟨q1,oM,q3,fun q=>?_,fun q=>?_⟩
  ·rcases hG7.new j q with q|q
   ·exact q4 q
   ·omega
  ·rcases hG9.new j q with q|q
   ·exact q5 q
   ·omega
 ·intro j hj q;have h1:=hO27.lt hj;rcases hG9.new j q with q|q
  ·have:=hO3.lt q;rcases hG7.new j hj with r|r
   ·exact d2 j r q
   ·omega
  ·omega
 ·exact(((hS.trans (s25.weaken oM)).trans (hG7.stay.weaken oM)).trans (hG9.stay.weaken oM)).trans (by rw[hH11,hH10];exact(i4.put oM).trans (i4.put oM))
theorem uO(K:Nat)(H:d9)(lo:Nat)(cs:LV)(q:Q)(hlo:lo≤H.next)(hr:QR H lo K false cs q)(hok:OkD false q)(hfit:nQ q≤1000):
  Ret (CL prog t6 32 [.agg cs.toArray] H) H (sB H (QR H lo K false) (QR H lo K true) (D0 q)):=by
 have a0:=F0 hr;have l0:=hr.len;have ld0:=M8 hr;rw[l0]at ld0;simp only[qSz,Bool.false_eq_true,if_false]at ld0 l0;obtain⟨H1,hH1⟩:∃H1,H1=((d9.push ⟨H.bs,H.next⟩ (.cells cs true 1)).push (.cells z8 true 1)).push (.cells [nS] true 1):=⟨_,rfl⟩
 have n0:(d9.push ⟨H.bs,H.next⟩ (.cells cs true 1)).next=H.next+1:=by rw[i5];rfl
 have n0':((d9.push ⟨H.bs,H.next⟩ (.cells cs true 1)).push (.cells z8 true 1)).next=H.next+2:=by rw[i5,n0]
 have n1:H1.next=H.next+3:=by rw[hH1,i5,n0']
 have hS:i4 H.next H H1:=by rw[hH1];exact((i4.first H _).trans (i4.push oM)).trans (i4.push oM)
 have g1:H1.get H.next=cE cs 1:=by rw[hH1,j6 oM,j6 oM];exact i7
 have g2:H1.get (H.next+1)=cE z8 1:=by rw[hH1,j6 oM];exact y7 oM
 have g3:H1.get (H.next+2)=cE [nS] 1:=by rw[hH1];exact y7 oM
 have hlow:H.next≤H1.low:=by rw[hH1,t5,t5,t5];exact lR
 have hr1:QR H1 lo K false cs q:=hr.mono (fun j hj=>hS.get j oM) lR;obtain⟨v2,h2,H2,hc2,hge2,rfl,⟨⟨w,gm,hO,_,but,new⟩,s2⟩,_⟩:=(Et K).1 H1 lo (H.next+2) K (nS) [] cs q lR oM g3 t7.nil hr1 hok (by simp;omega);have n2:=s2.next;have g21:H2.get H.next=cE cs 1:=(but _ oM oM (A9 _)).trans g1;have g22:H2.get (H.next+1)=cE z8 1:=(but _ oM oM (A9 _)).trans g2;obtain⟨hin,hmem⟩:=bH _ false q lR hok;obtain⟨L,hL⟩:∃L,L=(inQ false q).foldl aF []:=⟨_,rfl⟩
 have hLl:L.length≤1000:=by have:=bw (inQ false q) [];rw[←hL]at this;simp at this;omega
 have hLm:∀x∈L,OkD false x∧nQ x≤1000:=by
  rw[hL];exact zc _ _ (fun x hx=>by have:=hmem x hx;exact⟨this.1,oM⟩) [] (by simp)
 rw[←hL]at hO;rw[yE,←hL];obtain⟨wa,wc,ew⟩:=hO.slice;have eq2:∀j,j<lo→H2.get j=H.get j:=fun j hj=>by rw[s2.get j oM,hS.get j oM]
 obtain⟨v3,h3,H3,hc3,hge3,cs5,rfl,hp5,s3⟩:=vp K H2 lo cs q oM (hr.mono eq2 lR) hok oM;have n3:=s3.next;have a5:=fd hp5;have l5:=aV hp5;have hp5':PrF H3 (fun j=>H2.next≤j∧j<H3.next) (QR H lo K true) cs5 (C0 q):=hp5.mono (fun _ _=>rfl) (fun _ h=>h) (fun _ _ h=>h.mono (fun j hj=>(eq2 j hj).symm) lR);obtain⟨ea,ec,ta,tc,hms,he,ht⟩:=E1 hp5;have gm3:H3.get (H.next+2)=cE [w] 1:=(s3.get _ oM).trans gm;obtain⟨H4,hH4,n4,-⟩:=pushE H3 (.cells z8 true 1);have gm4:H4.get (H.next+2)=cE [w] 1:=by rw[hH4,j6 oM];exact gm3
 obtain⟨row,hrow⟩:∃row:LV,row=w::nS::nS::cs5:=⟨_,rfl⟩
 have lrow:row.length=8:=by rw[hrow];simp [l5]
 have ow:Value.oneCell' w=true:=by rw[ew];rfl
 have cw:w.cells.toList=[w]:=by rw[ew];rfl
 have arow:row.all Value.oneCell'=true:=by rw[hrow];simp only[List.all_cons,a5,ow];rfl
 have spa:splice (splice z8 0 [w]) 3 cs5=row:=by rw[hrow,hms];rfl
 have spa':splice [w,nS,nS,iV 0,iV 0,iV 0,nS,nS] 3 cs5=row:=spa;have spr:splice z8 0 row=row:=w7 _ _ (by rw[lrow];rfl);have g4z:H4.get H3.next=cE z8 1:=by rw[hH4];exact i7
 obtain⟨H5,hH5⟩:∃K,K=H4.put H3.next (.cells row true 1):=⟨_,rfl⟩
 have n5:H5.next=H4.next:=by rw[hH5,j5]
 have s5:i4 H3.next H3 H5:=by rw[hH5,hH4];exact(i4.push lR).trans (i4.put lR)
 have g5:H5.get H3.next=cE row 1:=by rw[hH5];exact i8 oM
 have gm5:H5.get (H.next+2)=cE [w] 1:=(s5.get _ oM).trans gm3;have s25:i4 H2.next H2 H5:=s3.trans (s5.weaken oM);have g52:H5.get (H.next+1)=cE z8 1:=(s25.get _ oM).trans g22;have eq5:∀j,j<lo→H5.get j=H.get j:=fun j hj=>by rw[s25.get j oM,eq2 j hj]
 obtain⟨G,hG⟩:∃G:Nat→Prop,G=fun j=>j9 w j∨(H2.next≤j∧j<H3.next):=⟨_,rfl⟩
 have hlv:SlF H5 G 3 (QR H lo K false) w L:=((hO.keep s25).frz fun b hb=>by rw[hG];exact .inl hb).mono (fun _ _=>rfl) (fun _ h=>h) (fun _ _ h=>h.mono (fun j hj=>(hS.get j oM).symm) lR);have hms5:PrF H5 G (QR H lo K true) cs5 (C0 q):=hp5'.mono (fun j hj=>s5.get j hj.2) (fun j hj=>by rw[hG];exact .inr hj) iF;have s15:i4 H.next H1 H5:=(s2.weaken oM).trans (s25.weaken oM);have ewl:w= .slice wa L.length wc:=ew;have hlen:∀Hx:d9,D3 prog .len [22] [w] Hx=some (.int .i64 L.length,none):=fun Hx=>by
  rw[ewl];exact J1 jL trivial
 rw[j8 ab1 rfl _ (by simp)];refine J25 a0 hH1.symm g1 ld0 hc2 hge2 gm g21 hc3 hge3 gm3 hH4.symm gm4 ow cw l5 a5 spa' lrow arow spr g4z hH5.symm gm5 hlen ?_;refine l9 (F:=fun z=>Ret (u5 _ _ _ (u7 (inBlock 0 z) _)) _ _) (xM K H lo (H.next+3) H3.next oM oM w L oM hLm cs5 (C0 q) H5 eq5 (.pointer (some ⟨H.next+1,0,none⟩)) L.length _ _ ⟨0,nS,nS,G,rfl,oM,rfl,rfl,rfl,rfl,rfl,rfl,by simp [y9],by simp [y9],by rw[←hrow];exact g5,hms5,hlv,t7.nil,t7.nil,fun j hj=>?_,fun j hj=>(A9 j hj).elim,i4.refl _ _⟩) ?_
 ·rw[hG]at hj;rcases hj with hj|hj
  ·have:=hO.lt hj;exact⟨oM,oM,oM,A9 j,A9 j⟩
  ·exact⟨oM,oM,oM,A9 j,A9 j⟩
 rintro o e' H6 ⟨ho,f2,f4,w2,w3,G',g64,hms6,hlv6,hO2,hO3,hG',hS6⟩;have n6:=hS6.next;have g62:H6.get (H.next+1)=cE z8 1:=(hS6.get _ oM).trans g52;obtain⟨rb,rd,e2⟩:=hO2.slice;obtain⟨re,rf,e3⟩:=hO3.slice;obtain⟨row6,hrow6⟩:∃row:LV,row=w::w2::w3::cs5:=⟨_,rfl⟩
 rw[←hrow6]at g64;have ld6:ldC (some true) (some 8) 0 row6=some (.agg row6.toArray):=by rw[hrow6,e2,e3,hms];rfl
 have a6:row6.all Value.oneCell'=true:=by rw[hrow6,e2,e3];simp only[List.all_cons,a5,ow];rfl
 have l6:row6.length=8:=by rw[hrow6];simp [l5]
 have sp6:splice z8 0 row6=row6:=w7 _ _ (by rw[l6];rfl);obtain⟨H7,hH7⟩:∃H7,H7=H6.put (H.next+1) (.cells row6 true 1):=⟨_,rfl⟩
 have n7:H7.next=H6.next:=by rw[hH7,j5]
 have g72:H7.get (H.next+1)=cE row6 1:=by rw[hH7];exact i8 oM
 have s17:i4 H.next H1 H7:=by rw[hH7];exact(s15.trans (hS6.weaken oM)).trans (i4.put oM)
 have s7:i4 H.next H H7:=hS.trans s17;have hl7:H.next≤H7.low:=s17.low hlow;have k7:∀j,H.next+2≤j→H7.get j=H6.get j:=fun j hj=>by rw[hH7,i9 oM]
 have fin:StF H7 (fun j=>H.next≤j∧j<H7.next) (QR H lo K false) (QR H lo K true) row6 (eL L (C0 q)):=by
  have gg:∀j,G' j→H7.get j=H6.get j:=fun j hj=>k7 j (by have:=hG' j hj;omega);have gs:∀j,G' j→H.next≤j∧j<H7.next:=fun j hj=>by have:=hG' j hj;omega
  refine⟨w,w2,w3,cs5,hrow6,?_,?_,?_,?_⟩
  ·exact hlv6.mono gg gs iF
  ·exact((hO2.same fun b hb=>k7 b (by have:=hO2.lt hb;omega)).imp fun cs p h=>h.mono gg gs iF).frz fun b hb=>by have:=hO2.lt hb;omega
  ·exact(hO3.same fun b hb=>k7 b (by have:=hO3.lt hb;omega)).frz fun b hb=>by have:=hO3.lt hb;omega
  ·exact hms6.mono gg gs iF
 refine J11 ho f2 f4 g64 ld6 g62 a6 l6 sp6 hH7.symm g72 ?_;exact od fin s7 hl7 (fun h=>h)
def cX(b:Bool):Value:= .int .u8 (if b then 1 else 0)
def wB(b:Bool):LV:=[cX b]
structure PWf(p:PrD):Prop where
 st:0≤p.st∧p.st≤1000000
 sa:0≤p.sa∧p.sa<p.st
 en:0≤p.en∧p.en<p.st
 ed:∀x∈p.ed,0≤x.1∧x.1<p.st∧0≤x.2.1∧x.2.1<p.st∧(x.2.2.1=3→0≤x.2.2.2∧x.2.2.2<p.ts.length)
structure WfS(s:StD)(n:Nat):Prop where
 l1:s.progs.length=s.paths.length
 l2:s.base.length=s.paths.length
 l0:s.paths.length≤100000
 nle:n≤1000000
 at_:∀(i:Nat) p b,s.progs[i]?=some p→s.base[i]?=some b→0≤b∧b+p.st≤n∧PWf p
def Y1(k:Int)(nm:NmQ):List AtD→ByteArray×Bool
 |[]=>(eB,false)
 |a::l=>if Q3 (a.space,a.loc) nm then(a.val,decide (k=1)) else Y1 k nm l
def iY(bs:List Bool)(n:Int):Bool:=bs.getD n.toNat false
def kU(s:StD)(bs:List Bool)(p:Q):Bool:=decide (0≤jj s.paths p)&&iY bs (s.base.getD (jj s.paths p).toNat 0+(s.progs.getD (jj s.paths p).toNat ⟨0,0,0,[],[]⟩).sa)
mutual
def R7(s:StD)(e:EvD)(bs:List Bool):Q→Bool
 | .mk o sp lc vl a b=>if o=1 then true else if o=2 then decide (e.kind=1) else if o=3 then !decide (e.kind=1) else if o=4 then decide (e.kind=1)&&Q3 (e.space,e.loc) (sp,lc) else
  if o=5 then(Y1 e.kind (sp,lc) e.attrs).2 else if o=6 then(Y1 e.kind (sp,lc) e.attrs).2&&decide ((Y1 e.kind (sp,lc) e.attrs).1=vl) else if o=7 then !decide (e.kind=1)&&decide (e.text=vl) else
  if o=8∨o=9 then(anyF s e bs a==decide (o=8)) else if o=10 then anyH s e bs a else b.any (kU s bs)
def anyH(s:StD)(e:EvD)(bs:List Bool):List Q→Bool
 |[]=>false
 |x::l=>R7 s e bs x||anyH s e bs l
def anyF(s:StD)(e:EvD)(bs:List Bool):List Q→Bool
 |[]=>false
 |x::l=> !R7 s e bs x||anyF s e bs l
end
theorem vi(s:StD)(e:EvD)(bs:List Bool):∀l,anyH s e bs l=l.any (R7 s e bs)
 |[]=>by rw[anyH];rfl
 |x::l=>by rw[anyH,vi s e bs l,List.any_cons]
theorem vh(s:StD)(e:EvD)(bs:List Bool):∀l,anyF s e bs l=l.any (fun x=> !R7 s e bs x)
 |[]=>by rw[anyF];rfl
 |x::l=>by rw[anyF,vh s e bs l,List.any_cons]
theorem xz(s:StD)(e:EvD)(bs:List Bool)(q:Q):R7 s e bs q=if q.op=1 then true else if q.op=2 then decide (e.kind=1) else if q.op=3 then !decide (e.kind=1) else if q.op=4 then decide (e.kind=1)&&Q3 (e.space,e.loc) (q.sp,q.lc) else
  if q.op=5 then(Y1 e.kind (q.sp,q.lc) e.attrs).2 else if q.op=6 then(Y1 e.kind (q.sp,q.lc) e.attrs).2&&decide ((Y1 e.kind (q.sp,q.lc) e.attrs).1=q.vl) else if q.op=7 then !decide (e.kind=1)&&decide (e.text=q.vl) else
  if q.op=8∨q.op=9 then(q.a.any (fun x=> !R7 s e bs x)==decide (q.op=8)) else if q.op=10 then q.a.any (R7 s e bs) else q.b.any (kU s bs):=by
 cases q;rw[R7,vi,vh];rfl
theorem NJ(k:Nat)(H:d9)(lo px:Nat)(elx el:LV)(x y:Q)(hlo:lo≤H.next)(hg:H.get px=cE elx 1)(hx:QR H lo k false elx x)(hy:QR H lo k false el y):
  CL prog t6 165 [.agg el.toArray,pT px] H=some (.bool (M0 y x),none):=by
 have a0:el.all Value.oneCell'=true:=F0 hy;have ld1:=M8 hx;have ld2:=M8 hy;rw[hx.len]at ld1;rw[hy.len]at ld2;simp only[qSz,Bool.false_eq_true,if_false]at ld1 ld2;obtain⟨H1,hH1⟩:∃H1,H1=d9.push ⟨H.bs,H.next⟩ (.cells el true 1):=⟨_,rfl⟩
 have hS:i4 H.next H H1:=by rw[hH1];exact i4.first H _
 have n1:=hS.next;have hpx:=u6 hg;have g1:H1.get H.next=cE el 1:=by rw[hH1];exact i7
 have gx:H1.get px=cE elx 1:=(hS.get _ hpx).trans hg;have hlow:H.next≤H1.low:=by rw[hH1,t5];exact lR
 have hca:=(fw k).1 H1 lo el elx y x oM (hy.mono (fun j hj=>hS.get j oM) lR) (hx.mono (fun j hj=>hS.get j oM) lR);rw[j8 Xk rfl _ (by simp)];exact J7 a0 hH1.symm g1 gx ld1 ld2 hca trivial
theorem uM(K:Nat)(H Hs:d9)(F:Nat→Prop)(lo:Nat)(Rt:LV→Q→Prop)(cs el:LV)(s:StD)(x:Q)(hlo:lo≤H.next)(hF:∀j,F j→j<H.next) (heq:∀j,j<lo→H.get j=Hs.get j) (hs:StF H F (QR Hs lo K false) Rt cs s) (hx:QR Hs lo K false el x) (hn:s.paths.length≤100000):
  CL prog t6 154 [.agg cs.toArray,.agg el.toArray] H=some (.int .i64 (jj s.paths x),none):=by
 obtain⟨pa,pc,ga,gc,ba,bc,ea,ec,ta,tc,hcs,h1,h2,h3,h4,h5⟩:=N3 hs;have a0:cs.all Value.oneCell'=true:=by rw[hcs];rfl
 have r1:cs[0]?=some (.slice pa s.paths.length pc):=by rw[hcs];rfl
 have a1:=F0 hx;obtain⟨H1,hH1⟩:∃H1,H1=(d9.push ⟨H.bs,H.next⟩ (.cells cs true 1)).push (.cells el true 1):=⟨_,rfl⟩
 have n0:(d9.push ⟨H.bs,H.next⟩ (.cells cs true 1)).next=H.next+1:=by rw[i5];rfl
 have hS:i4 H.next H H1:=by rw[hH1];exact(i4.first H _).trans (i4.push oM)
 have g1:H1.get H.next=cE cs 1:=by rw[hH1,j6 oM];exact i7
 have g2:H1.get (H.next+1)=cE el 1:=by rw[hH1];exact y7 oM
 have hlow:H.next≤H1.low:=by rw[hH1,t5,t5];exact lR
 have hn1:=hS.next;have eq1:∀j,j<lo→H1.get j=Hs.get j:=fun j hj=>by rw[hS.get j oM,heq j hj]
 have h1':SlF H1 F 3 (QR H1 lo K false) (.slice pa s.paths.length pc) s.paths:=h1.mono (fun j hj=>hS.get j (hF j hj)) (fun _ h=>h) (fun _ _ h=>h.mono eq1 lR);have hx1:QR H1 lo K false el x:=hx.mono eq1 lR;have hca:=kK (α:=Q) H1 F (QR H1 lo K false) (.func (.func 165) #[] #[.pointer (some ⟨H.next+1,0,none⟩)]) (fun y=>M0 y x) (.slice pa s.paths.length pc) s.paths h1' oM (fun i y ely hy hyR=>NJ K _ lo (H.next+1) el ely x y (show lo≤H1.next from oM) g2 (hx1.mono (H:=H1) (H':=⟨H1.bs,H1.next⟩) (fun _ _=>rfl) lR) (hyR.mono (H:=H1) (H':=⟨H1.bs,H1.next⟩) (fun _ _=>rfl) lR));rw[j8 Xj rfl _ (by simp)];refine J6 a0 a1 hH1.symm g1 r1 hca ?_;rfl
structure dK(Hs:d9)(lo K pn:Nat)(s:StD)(e:EvD)(bs:List Bool)(F:Nat→Prop)(H:d9):Prop where
 ex:∃rs re ba bc,H.get pn=some (.cells (rs++(re++[.slice ba bs.length bc])) true 1)∧StF H F (QR Hs lo K false) (QR Hs lo K true) rs s∧EvF H F re e∧SlF H F 1 (v8 wB) (.slice ba bs.length bc) bs
 lt:∀j,F j→j<H.next
 eq:∀j,j<lo→H.get j=Hs.get j
 lo:lo≤H.next
theorem dK.work{Hs:d9}{lo K pn:Nat}{s:StD}{e:EvD}{bs:List Bool}{F:Nat→Prop}{H H':d9}(h:dK Hs lo K pn s e bs F H)(hS:i4 H.next H H'):dK Hs lo K pn s e bs F H':=by
 obtain⟨⟨rs,re,ba,bc,h1,h2,h3,h4⟩,h5,h6,h7⟩:=h;have hn:=hS.next;have hg:∀j,F j→H'.get j=H.get j:=fun j hj=>hS.get j (h5 j hj);exact⟨⟨rs,re,ba,bc,(hS.get pn (u6 h1)).trans h1,h2.mono hg (fun _ h=>h) iF iF,w9 _ _ _ _ _ _ h3 hg (fun _ h=>h),h4.mono hg (fun _ h=>h) iF⟩,fun j hj=>by have:=h5 j hj;omega,fun j hj=>by rw[hS.get j oM];exact h6 j hj,oM⟩
theorem dK.low{Hs:d9}{lo K pn:Nat}{s:StD}{e:EvD}{bs:List Bool}{F:Nat→Prop}{H:d9}(h:dK Hs lo K pn s e bs F H)(n:Nat):dK Hs lo K pn s e bs F ⟨H.bs,n⟩:=by
 obtain⟨⟨rs,re,ba,bc,h1,h2,h3,h4⟩,h5,h6,h7⟩:=h;exact⟨⟨rs,re,ba,bc,h1,h2.mono (fun _ _=>rfl) (fun _ h=>h) iF iF,w9 _ _ _ _ _ _ h3 (fun _ _=>rfl) (fun _ h=>h),h4.mono (fun _ _=>rfl) (fun _ h=>h) iF⟩,h5,h6,h7⟩
theorem wx(H1:d9)(F:Nat→Prop)(hF:∀j,F j→j<H1.next) (pn px:Nat) (row:LV) (g:H1.get pn=cE row 1) (kd:Int) (r8:row[8]?=some (.int .i64 kd)) (nm:NmQ) (gx:H1.get px=cE (nmE nm) 1) (va:Option Addr) (ca:Nat) (l:List AtD) (hv:SlF H1 F 3 (v8 atE) (.slice va l.length ca) l) (hn:l.length≤1000000) (r:ByteArray×Bool):
  ∀kk e H2,(∃i:Nat,kk=l.length-i∧i≤l.length∧e.get 0=pT pn∧e.get 3=pT px∧e.get 12= .slice va l.length ca∧e.get 13=iV l.length∧e.get 14=iV i∧i4 H1.next H1 H2∧Y1 kd nm (l.drop i)=r)→
  u9 (LE prog t6 (.loop Ax) e H2) (fun o e H2=>i4 H1.next H1 H2∧((o= .exit 0∧r=(eB,false))∨(o= .ret∧e.get 4= .string r.1∧e.get 5= .bool r.2))):=by
 refine j7 _ _ ?_;rintro kk e H2 ⟨i,hk,hi,f0,f3,f12,f13,f14,hS,fu⟩;rcases b:decide ((i:Int)<l.length)with _|_
 ·have hb':=dF b;have:l.drop i=[]:=dN oM;rw[this,Y1]at fu;refine J3 f13 f14 b ?_;exact l7 ⟨hS,.inl ⟨rfl,fu.symm⟩⟩
 have hb':=dT b;have hn2:=hS.next;have hpn:=u6 g;have hpx:=u6 gx;obtain⟨a,nb,o,cs,own,el,hx,hd,rfl,hFn,hg,hle,hrow,hc,rfl⟩:=hv.row (i:=i) oM;have nt:(i:Int).toNat=i:=tN i;have g2:=(hS.get nb (hF _ hFn)).trans hg;obtain⟨H3,hH3⟩:∃H3,H3=(H2.push (.cells [.string eB,.string eB,.string eB] true 1)).put H2.next (.cells [.string a.space,.string a.loc,.string a.val] true 1):=⟨_,rfl⟩
 have n3:H3.next=H2.next+1:=by rw[hH3,j5,i5]
 have s3:i4 H2.next H2 H3:=by rw[hH3];exact(i4.push lR).trans (i4.put lR)
 have g3:H3.get H2.next=cE [.string a.space,.string a.loc,.string a.val] 1:=by rw[hH3];exact i8 (by rw[i5];omega)
 have gp3:=(s3.get pn oM).trans ((hS.get pn hpn).trans g);have gx3:=(s3.get px oM).trans ((hS.get px hpx).trans gx);have hrow':ldC (some true) (some 3) (o+i*3) cs=some (.agg #[.string a.space,.string a.loc,.string a.val]):=hrow;have s13:i4 H1.next H1 H3:=hS.trans (s3.weaken oM);rw[hd,Y1]at fu;rcases b2:Q3 (a.space,a.loc) nm with _|_
 ·simp only[b2,Bool.false_eq_true,if_false]at fu;have b2':(decide (a.space=nm.1)&&decide (a.loc=nm.2))=false:=b2;refine J13 f3 f12 f13 f14 b g2 nt hrow' hH3.symm g3 gx3 b2' @wrap_small ?_;exact i6 (kk-1) oM ⟨i+1,oM,oM,f0,f3,f12,f13,rfl,s13,fu⟩
 ·simp only[b2,if_true]at fu;have b2':(decide (a.space=nm.1)&&decide (a.loc=nm.2))=true:=b2;refine J15 f0 f3 f12 f13 f14 b g2 nt hrow' hH3.symm g3 gx3 b2' gp3 r8 ?_;exact A6 ⟨s13,.inr ⟨rfl,by rw[←fu];rfl,by rw[←fu];rfl⟩⟩
theorem NF(Hs:d9)(lo K pn:Nat)(s:StD)(e:EvD)(bs:List Bool)(F:Nat→Prop)(H:d9)(hN:dK Hs lo K pn s e bs F H)(nm:NmQ)(hl:e.attrs.length≤1000000):
  CL prog t6 135 [pT pn,.agg (nmE nm).toArray] H=some (.tuple #[.string (Y1 e.kind nm e.attrs).1,.bool (Y1 e.kind nm e.attrs).2],none):=by
 obtain⟨H1,hH1⟩:∃H1,H1=d9.push ⟨H.bs,H.next⟩ (.cells (nmE nm) true 1):=⟨_,rfl⟩
 have hS:i4 H.next H H1:=by rw[hH1];exact i4.first H _
 have gx:H1.get H.next=cE (nmE nm) 1:=by rw[hH1];exact i7
 have hlow:H.next≤H1.low:=by rw[hH1,t5];exact lR
 have hn1:=hS.next;obtain⟨⟨rs,re,ba,bc,g,hs,⟨av,hre,hav⟩,hb⟩,hF,_,_⟩:=hN.work hS;obtain⟨pa,pc,ga,gc,xa,xc,ea,ec,ta,tc,hrs,_⟩:=N3 hs;obtain⟨ava,avc,rfl⟩:=hav.slice;obtain⟨row,hrow⟩:∃r,r=rs++(re++[.slice ba bs.length bc]):=⟨_,rfl⟩
 rw[←hrow]at g;have r8:row[8]?=some (.int .i64 e.kind):=by rw[hrow,hrs,hre];rfl
 have r11:row[11]?=some (.slice ava e.attrs.length avc):=by rw[hrow,hrs,hre];rfl
 rw[j8 WX rfl _ (by simp)];refine J3 hH1.symm g r11 ?_;refine l9 (F:=fun z=>u5 _ _ _ (u7 (inBlock 0 z) _)=_) (wx H1 F hF pn H.next row g e.kind r8 nm gx ava avc e.attrs hav hl (Y1 e.kind nm e.attrs) e.attrs.length _ _ ⟨0,rfl,oM,rfl,rfl,rfl,rfl,rfl,i4.refl _ _,rfl⟩) ?_;rintro o e' H' ⟨hS',⟨ho,hr⟩|⟨ho,h4,h5⟩⟩
 ·have hl':=(hS'.weaken hn1).low hlow;exact J2 ho hr trivial
 ·have hl':=(hS'.weaken hn1).low hlow;exact J3 ho h4 h5 trivial
theorem NH(Hs:d9)(lo K pn:Nat)(s:StD)(e:EvD)(bs:List Bool)(F:Nat→Prop)(H:d9)(hN:dK Hs lo K pn s e bs F H)(hw:WfS s bs.length)(el:LV)(x:Q)(hx:QR Hs lo K false el x):
  CL prog t6 138 [pT pn,.agg el.toArray] H=some (.bool (kU s bs x),none):=by
 have a1:=F0 hx;have ld1:=M8 hx;rw[hx.len]at ld1;simp only[qSz,Bool.false_eq_true,if_false]at ld1;obtain⟨H1,hH1⟩:∃H1,H1=d9.push ⟨H.bs,H.next⟩ (.cells el true 1):=⟨_,rfl⟩
 have hS:i4 H.next H H1:=by rw[hH1];exact i4.first H _
 have gx:H1.get H.next=cE el 1:=by rw[hH1];exact i7
 have hlow:H.next≤H1.low:=by rw[hH1,t5];exact lR
 have hn1:=hS.next;obtain⟨⟨rs,re,ba,bc,g,hs,hev,hb⟩,hF,heq,hlo⟩:=hN.work hS;have hfind:=uM K H1 Hs F lo _ rs el s x hlo hF heq hs hx hw.l0;obtain⟨pa,pc,ga,gc,xa,xc,ea,ec,ta,tc,hrs,h1,h2,h3,_⟩:=N3 hs;obtain⟨av,hre,hav⟩:=hev;obtain⟨row,hrow⟩:∃r,r=rs++(re++[.slice ba bs.length bc]):=⟨_,rfl⟩
 rw[←hrow]at g;have lrs:rs.length=8:=by rw[hrs];rfl
 have ldrs:ldC (some true) (some 8) 0 row=some (.agg rs.toArray):=by rw[hrow,hrs,hre];rfl
 have r1:row[1]?=some (.slice ga s.progs.length gc):=by rw[hrow,hrs,hre];rfl
 have r2:row[2]?=some (.slice xa s.base.length xc):=by rw[hrow,hrs,hre];rfl
 have r13:row[13]?=some (.slice ba bs.length bc):=by rw[hrow,hrs,hre];rfl
 rw[j8 Xa rfl _ (by simp),kU];have hrange:=eW (fun y=>M0 y x) s.paths 0;obtain⟨z,hz⟩:∃z,z=jj s.paths x:=⟨_,rfl⟩
 rw[←hz]at hfind ⊢;rw[show ixG (fun y=>M0 y x) s.paths 0=z from hz.symm]at hrange;rcases b:decide (0≤z)with _|_
 ·exact J8 a1 hH1.symm gx g ld1 ldrs hfind b trivial
 have hb':=dT b;have hzl:z.toNat<s.paths.length:=by rcases hrange with q|q<;>omega
 obtain⟨xb,nb,o,cs,own,elb,hxb,_,rfl,hFb,hgb,hleb,hrowb,hcb,hRb⟩:=h3.row (i:=z.toNat) (by rw[hw.l2];exact hzl);obtain⟨xp,np,op,cp,ownp,elp,hxp,_,rfl,hFp,hgp,hlep,hrowp,hcp,hRp⟩:=h2.row (i:=z.toNat) (by rw[hw.l1];exact hzl);have helb:elb=inE xb:=hRb;subst helb;obtain⟨_,_,_,_,help,_⟩:=E1 hRp;have cb0:=hcb 0 oM;have cp1:=hcp 1 oM;rw[help]at cp1;rw[Nat.add_zero]at cb0;obtain⟨w1,w2,w3⟩:=hw.at_ z.toNat xp xb hxp hxb;have hsa:=w3.sa;have hst:=w3.st;have hnn:=hw.nle;have eb:s.base.getD z.toNat 0=xb:=by rw[List.getD_eq_getElem?_getD,hxb];rfl
 have ep:(s.progs.getD z.toNat ⟨0,0,0,[],[]⟩).sa=xp.sa:=by rw[List.getD_eq_getElem?_getD,hxp];rfl
 rw[eb,ep,iY];obtain⟨bv,nv,ov,cv,ownv,elv,hxv,_,rfl,hFv,hgv,hlev,hrowv,hcv,hRv⟩:=hb.row (i:=(xb+xp.sa).toNat) oM;have helv:elv=wB bv:=hRv;subst helv;have cv0:cv[ov+(xb+xp.sa).toNat*1]?=some (.int .u8 (if bv=true then 1 else 0)):=by have:=hcv 0 oM;rw[Nat.add_zero]at this;exact this
 have ebv:bs.getD (xb+xp.sa).toNat false=bv:=by rw[List.getD_eq_getElem?_getD,hxv];rfl
 rw[ebv];have hl1:=hw.l1;have hl2:=hw.l2;have e1:(if bv=true then(1:Int) else 0)=if bv then 1 else 0:=rfl;have db:decide ((if bv=true then(1:Int) else 0)=1)=bv:=by cases bv<;>rfl
 exact J19 a1 hH1.symm gx g ld1 ldrs hfind b r1 r2 r13 hgb cb0 hgp cp1 hgv cv0 db @wrap_small trivial
theorem NG(Hs:d9)(lo K pn:Nat)(s:StD)(e:EvD)(bs:List Bool)(F:Nat→Prop)(k:Nat)(el:LV)(x:Q)(hx:QR Hs lo k true el x)(H:d9)(hlo:lo≤H.next)(heq:∀j,j<lo→H.get j=Hs.get j) (r:Bool) (hca:∀H',i4 H.next H H'→CL prog t6 116 [pT pn,.agg el.toArray] H'=some (.bool r,none)):
  CL prog t6 137 [pT pn,.agg el.toArray] H=some (.bool (!r),none):=by
 have a1:=F0 hx;have ld1:=M8 hx;rw[hx.len]at ld1;simp only[qSz,if_true]at ld1;obtain⟨H1,hH1⟩:∃H1,H1=d9.push ⟨H.bs,H.next⟩ (.cells el true 1):=⟨_,rfl⟩
 have hS:i4 H.next H H1:=by rw[hH1];exact i4.first H _
 have gx:H1.get H.next=cE el 1:=by rw[hH1];exact i7
 have hlow:H.next≤H1.low:=by rw[hH1,t5];exact lR
 have h1:=hca H1 hS;rw[j8 WZ rfl _ (by simp)];exact J5 a1 hH1.symm gx ld1 h1 trivial
def oz(Hs:d9)(lo K k:Nat):Prop:=∀(H:d9)(pn:Nat)(s:StD)(e:EvD)(bs:List Bool)(F:Nat→Prop)(cs:LV)(q:Q),dK Hs lo K pn s e bs F H→WfS s bs.length→e.attrs.length≤1000000→QR Hs lo k true cs q→
 CL prog t6 116 [pT pn,.agg cs.toArray] H=some (.bool (R7 s e bs q),none)
theorem tG(Hs:d9)(lo K k:Nat)(hk:k≤K)(ih:oz Hs lo K k):oz Hs lo K (k+1):=by
 intro H pn s e bs F cs q hN hw hat hr;have a1:=F0 hr;have l6:=hr.len;simp only[qSz,if_true]at l6;obtain⟨va,ca,wa,ca',hcs,h1,h2,h3,h4,_⟩:=hr.filter;have c0:cs[0]?=some (.int .i64 q.op):=by rw[hcs];rfl
 have c3:cs[3]?=some (.string q.vl):=by rw[hcs];rfl
 have c4:cs[4]?=some (.slice va q.a.length ca):=by rw[hcs];rfl
 have c5:cs[5]?=some (.slice wa q.b.length ca'):=by rw[hcs];rfl
 have c12:ldC (some true) (some 2) 1 cs=some (.agg (nmE (q.sp,q.lc)).toArray):=by rw[hcs];rfl
 have c12':ldC (some true) (some 2) 1 cs=some (.agg #[.string q.sp,.string q.lc]):=c12;obtain⟨H1,hH1⟩:∃H1,H1=d9.push ⟨H.bs,H.next⟩ (.cells cs true 1):=⟨_,rfl⟩
 have hS:i4 H.next H H1:=by rw[hH1];exact i4.first H _
 have gx:H1.get H.next=cE cs 1:=by rw[hH1];exact i7
 have hlow:H.next≤H1.low:=by rw[hH1,t5];exact lR
 have hn1:=hS.next;have hN1:=hN.work hS;obtain⟨⟨rs,re,ba,bc,g,hs,⟨av,hre,hav⟩,hb⟩,hF,heq,hlo⟩:=id hN1;obtain⟨pa,pc,ga,gc,xa,xc,ea,ec,ta,tc,hrs,_⟩:=N3 hs;obtain⟨row,hrow⟩:∃r,r=rs++(re++[.slice ba bs.length bc]):=⟨_,rfl⟩
 rw[←hrow]at g;have r8:row[8]?=some (.int .i64 e.kind):=by rw[hrow,hrs,hre];rfl
 have r12:row[12]?=some (.string e.text):=by rw[hrow,hrs,hre];rfl
 have rnm:ldC (some true) (some 2) 9 row=some (.agg #[.string e.space,.string e.loc]):=by rw[hrow,hrs,hre];rfl
 have hat1:=NF Hs lo K pn s e bs F H1 hN1 (q.sp,q.lc) hat;have beq4:=fun a b=>oG (P:=prog) 4 a b ty4.2.2.2.2.2.2.1;have any1:=kL (α:=Q) H1 (· <lo) (QR Hs lo k true) (.func (.func 137) #[pT pn] #[]) (fun x=> !R7 s e bs x) (.slice va q.a.length ca) q.a (SlF.mono (SlI.slF h1) (fun j hj=>heq j hj) (fun _ h=>h) iF) h3 (fun i x el hx hR=>NG Hs lo K pn s e bs F k el x hR ⟨H1.bs,H1.next⟩ hlo (fun j hj=>heq j hj) _ (fun H' hS'=>ih H' pn s e bs F el x ((hN1.low H1.next).work hS') hw hat hR));have any2:=kL (α:=Q) H1 (· <lo) (QR Hs lo k true) (.func (.func 116) #[pT pn] #[]) (R7 s e bs) (.slice va q.a.length ca) q.a (SlF.mono (SlI.slF h1) (fun j hj=>heq j hj) (fun _ h=>h) iF) h3 (fun i x el hx hR=>ih _ pn s e bs F el x (hN1.low H1.next) hw hat hR);have any3:=kJ (α:=Q) H1 (· <lo) (QR Hs lo k false) (.func (.func 138) #[pT pn] #[]) (kU s bs) (.slice wa q.b.length ca') q.b (SlF.mono (SlI.slF h2) (fun j hj=>heq j hj) (fun _ h=>h) iF) h4 (fun i x el hx hR=>NH Hs lo K pn s e bs F _ (hN1.low H1.next) hw el x (hR.upTo hk));rw[j8 WG rfl _ (by simp),xz];by_cases e1:q.op=1
 ·rw[if_pos e1];exact J7 a1 hH1.symm gx g r8 c0 e1 trivial
 rw[if_neg e1];have b1:decide (q.op=1)=false:=decide_eq_false e1;by_cases e2:q.op=2
 ·rw[if_pos e2];exact J7 a1 hH1.symm gx g r8 c0 e2 trivial
 rw[if_neg e2];have b2:decide (q.op=2)=false:=decide_eq_false e2;by_cases e3:q.op=3
 ·rw[if_pos e3];exact J7 a1 hH1.symm gx g r8 c0 e3 trivial
 rw[if_neg e3];have b3:decide (q.op=3)=false:=decide_eq_false e3;by_cases e4:q.op=4
 ·rw[if_pos e4];rcases d:decide (e.kind=1)with _|_
  ·exact J8 a1 hH1.symm gx g r8 c0 e4 d trivial
  ·exact J10 a1 hH1.symm gx g r8 c0 e4 d rnm c12' trivial
 rw[if_neg e4];have b4:decide (q.op=4)=false:=decide_eq_false e4;by_cases e5:q.op=5
 ·rw[if_pos e5];exact J9 a1 hH1.symm gx g r8 c0 e5 c12 hat1 trivial
 rw[if_neg e5];have b5:decide (q.op=5)=false:=decide_eq_false e5;by_cases e6:q.op=6
 ·rw[if_pos e6];rcases d:(Y1 e.kind (q.sp,q.lc) e.attrs).2 with _|_
  ·rw[d]at hat1;exact J9 a1 hH1.symm gx g r8 c0 e6 c12 hat1 trivial
  ·rw[d]at hat1;exact J10 a1 hH1.symm gx g r8 c0 e6 c12 hat1 c3 trivial
 rw[if_neg e6];have b6:decide (q.op=6)=false:=decide_eq_false e6;by_cases e7:q.op=7
 ·rw[if_pos e7];rcases d:decide (e.kind=1)with _|_
  ·exact J10 a1 hH1.symm gx g r8 c0 e7 d r12 c3 trivial
  ·exact J8 a1 hH1.symm gx g r8 c0 e7 d trivial
 rw[if_neg e7];have b7:decide (q.op=7)=false:=decide_eq_false e7;by_cases e8:q.op=8
 ·rw[if_pos (.inl e8)];exact J10 a1 hH1.symm gx g r8 c0 e8 c4 any1 beq4 trivial
 have b8:decide (q.op=8)=false:=decide_eq_false e8;by_cases e9:q.op=9
 ·rw[if_pos (.inr e9)];exact J10 a1 hH1.symm gx g r8 c0 e9 c4 any1 beq4 trivial
 rw[if_neg (fun q=>q.elim e8 e9)];have b9:decide (q.op=9)=false:=decide_eq_false e9;by_cases e10:q.op=10
 ·rw[if_pos e10];exact J9 a1 hH1.symm gx g r8 c0 e10 c4 any2 trivial
 rw[if_neg e10];have b10:decide (q.op=10)=false:=decide_eq_false e10;exact J18 a1 hH1.symm gx g r8 c0 b1 b2 b3 b4 b5 b6 b7 b8 b9 b10 c5 any3 trivial
theorem xA(Hs:d9)(lo K:Nat):∀k,k≤K+1→oz Hs lo K k:=by
 intro k;induction k with
 |zero=>intro _ H pn s e bs F cs q _ _ _ hr;exact hr.elim
 |succ k ih=>intro hk;exact tG Hs lo K k oM (ih oM)
theorem uS(Hs:d9)(lo K pn:Nat)(s:StD)(ev:EvD)(bs:List Bool)(F:Nat→Prop)(H1:d9)(hN:dK Hs lo K pn s ev bs F H1)(hw:WfS s bs.length)(hat:ev.attrs.length≤1000000)(va:Option Addr)(ca:Nat)(l:List Q)(hv:SlF H1 F 6 (QR Hs lo K true) (.slice va l.length ca) l)(hn:l.length≤1000000):
  ∀kk e H2,(∃(i:Nat)(w:Value),kk=l.length-i∧i≤l.length∧e.get 9=pT pn∧e.get 10=w∧e.get 19= .slice va l.length ca∧e.get 20=iV l.length∧e.get 21=iV i∧i4 H1.next H1 H2∧t7 H2 H1.next 1 (v8 boE) w ((l.take i).map (R7 s ev bs)))→
  u9 (LE prog t6 (.loop Gx) e H2) (fun o e H2=>o= .exit 0∧i4 H1.next H1 H2∧∃w,e.get 10=w∧t7 H2 H1.next 1 (v8 boE) w (l.map (R7 s ev bs))):=by
 refine j7 _ _ ?_;rintro kk e H2 ⟨i,w,hk,hi,f9,f10,f19,f20,f21,hS,hO⟩;rcases b:decide ((i:Int)<l.length)with _|_
 ·have hb':=dF b;have:l.take i=l:=List.take_of_length_le oM;rw[this]at hO;refine J3 f20 f21 b ?_;exact l7 ⟨rfl,hS,w,f10,hO⟩
 have hb':=dT b;have hn2:=hS.next;obtain⟨x,nb,o,cs,own,el,hx,hd,rfl,hFn,hg,hle,hrow,hc,hR⟩:=hv.row (i:=i) oM;have nt:(i:Int).toNat=i:=tN i;have g2:=(hS.get nb (hN.lt _ hFn)).trans hg;have a1:=F0 hR;have e1:=hR.len;simp only[qSz,if_true]at e1;have ld1:=M8 hR;rw[e1]at ld1;obtain⟨H3,hH3⟩:∃H3,H3=(H2.push (.cells [iV 0,.string eB,.string eB,.string eB,nS,nS] true 1)).put H2.next (.cells el true 1):=⟨_,rfl⟩
 have n3:H3.next=H2.next+1:=by rw[hH3,j5,i5]
 have s3:i4 H2.next H2 H3:=by rw[hH3];exact(i4.push lR).trans (i4.put lR)
 have g3:H3.get H2.next=cE el 1:=by rw[hH3];exact i8 (by rw[i5];omega)
 have sp1:splice [iV 0,.string eB,.string eB,.string eB,nS,nS] 0 el=el:=w7 _ _ (by rw[e1];rfl);have s13:i4 H1.next H1 H3:=hS.trans (s3.weaken oM);have hca:=xA Hs lo K K oM H3 pn s ev bs F el x (hN.work s13) hw hat hR;have htk:(l.take (i+1)).map (R7 s ev bs)=(l.take i).map (R7 s ev bs)++[R7 s ev bs x]:=by rw[List.take_add_one,hx,List.map_append];rfl
 obtain⟨w4,h4,H4,ha4,hge4,hO4,hG4⟩:=(hO.keep s3).push1F (P:=prog) (t:=83) (cs:=boE (R7 s ev bs x)) (a:=R7 s ev bs x) (by exact XY.2.2.2.2.2.2) ty4.1 ty4.2.1 ty4.2.2.1 oM oM rfl rfl (by simp;omega) oM;refine J19 f9 f10 f19 f20 f21 b g2 nt hrow a1 e1 sp1 hH3.symm g3 ld1 hca ha4 hge4 @wrap_small ?_;exact i6 (kk-1) oM ⟨i+1,w4,oM,oM,f9,rfl,f19,f20,rfl,s13.trans hG4.stay,by rw[htk];exact hO4⟩
theorem XM(Hs:d9)(lo K:Nat)(s:StD)(p:PrD)(ev:EvD)(bs:List Bool)(F:Nat→Prop)(H:d9)(rs rp re:LV)(ba:Option Addr)(bc:Nat)(hs:StF H F (QR Hs lo K false) (QR Hs lo K true) rs s)(hp:PrF H F (QR Hs lo K true) rp p)(he:EvF H F re ev)(hb:SlF H F 1 (v8 wB) (.slice ba bs.length bc) bs)
  (hF:∀j,F j→j<H.next) (heq:∀j,j<lo→H.get j=Hs.get j) (hlo:lo≤H.next) (hw:WfS s bs.length) (hat:ev.attrs.length≤1000000) (hn:p.ts.length≤1000000):
  N5 (CL prog t6 93 [.agg rs.toArray,.agg rp.toArray,.agg re.toArray,.slice ba bs.length bc] H) H 1 (v8 boE) (p.ts.map (R7 s ev bs)):=by
 obtain⟨pa,pc,ga,gc,xa,xc,ea,ec,ta,tc,hrs,_⟩:=N3 hs;obtain⟨ea',ec',ta',tc',hrp,hpe,hpt⟩:=E1 hp;obtain⟨av,hre,hav⟩:=id he;obtain⟨ava,avc,rfl⟩:=hav.slice;have as1:rs.all Value.oneCell'=true:=by rw[hrs];rfl
 have ap:rp.all Value.oneCell'=true:=by rw[hrp];rfl
 have ae:re.all Value.oneCell'=true:=by rw[hre];rfl
 have ls:rs.length=8:=by rw[hrs];rfl
 have le:re.length=5:=by rw[hre];rfl
 have lds:ldC (some true) (some 8) 0 rs=some (.agg rs.toArray):=by rw[hrs];rfl
 have lde:ldC (some true) (some 5) 0 re=some (.agg re.toArray):=by rw[hre];rfl
 have p4:rp[4]?=some (.slice ta' p.ts.length tc'):=by rw[hrp];rfl
 obtain⟨Ha,hHa⟩:∃K,K=((d9.push ⟨H.bs,H.next⟩ (.cells rs true 1)).push (.cells rp true 1)).push (.cells re true 1):=⟨_,rfl⟩
 have n0:(d9.push ⟨H.bs,H.next⟩ (.cells rs true 1)).next=H.next+1:=by rw[i5];rfl
 have n0':((d9.push ⟨H.bs,H.next⟩ (.cells rs true 1)).push (.cells rp true 1)).next=H.next+2:=by rw[i5,n0]
 have na:Ha.next=H.next+3:=by rw[hHa,i5,n0']
 have sa:i4 H.next H Ha:=by rw[hHa];exact((i4.first H _).trans (i4.push oM)).trans (i4.push oM)
 have g1:Ha.get H.next=cE rs 1:=by rw[hHa,j6 oM,j6 oM];exact i7
 have g2:Ha.get (H.next+1)=cE rp 1:=by rw[hHa,j6 oM];exact y7 oM
 have g3:Ha.get (H.next+2)=cE re 1:=by rw[hHa];exact y7 oM
 have hlow:H.next≤Ha.low:=by rw[hHa,t5,t5,t5];exact lR
 obtain⟨row,hrow⟩:∃r,r=rs++(re++[.slice ba bs.length bc]):=⟨_,rfl⟩
 have arow:row.all Value.oneCell'=true:=by rw[hrow,List.all_append,List.all_append,as1,ae];rfl
 obtain⟨H1,hH1⟩:∃K,K=Ha.push (.cells row true 1):=⟨_,rfl⟩
 have n1:H1.next=H.next+4:=by rw[hH1,i5,na]
 have s1:i4 H.next H H1:=by rw[hH1];exact sa.trans (i4.push oM)
 have hlow1:H.next≤H1.low:=by rw[hH1,t5];exact hlow
 have g1n:H1.get Ha.next=cE row 1:=by rw[hH1];exact i7
 have g12:H1.get (H.next+1)=cE rp 1:=by rw[hH1,j6 oM];exact g2
 have hg:∀j,F j→H1.get j=H.get j:=fun j hj=>s1.get j (hF j hj);have hN:dK Hs lo K Ha.next s ev bs F H1:=⟨⟨rs,re,ba,bc,by rw[←hrow];exact g1n,hs.mono hg (fun _ h=>h) iF iF,w9 _ _ _ _ _ _ he hg (fun _ h=>h),hb.mono hg (fun _ h=>h) iF⟩,fun j hj=>by have:=hF j hj;omega,fun j hj=>by rw[s1.get j oM];exact heq j hj,oM⟩
 obtain⟨rowA,hA⟩:∃r,r=splice [nS,nS,nS,iV 0,iV 0,iV 0,nS,nS,iV 0,.string eB,.string eB,nS,.string eB,nS] 0 rs:=⟨_,rfl⟩
 obtain⟨rowB,hB⟩:∃r,r=splice rowA 8 re:=⟨_,rfl⟩
 have lA:rowA.length=14:=by rw[hA,D9];rfl
 have lB:rowB.length=14:=by rw[hB,D9];exact lA
 have eC:rowB.set 13 (.slice ba bs.length bc)=row:=by rw[hB,hA,hrow,hrs,hre];rfl
 rw[j8 Xo rfl _ (by simp)];refine J19 as1 ap ae hHa.symm g1 g3 lds lde ls le hA.symm lA hB.symm lB eC arow hH1.symm g12 p4 ?_;have hpt1:SlF H1 F 6 (QR Hs lo K true) (.slice ta' p.ts.length tc') p.ts:=hpt.mono hg (fun _ h=>h) iF;refine l9 (F:=fun z=>N5 (u5 _ _ _ (u7 (inBlock 0 z) _)) _ _ _ _) (uS Hs lo K Ha.next s ev bs F H1 hN hw hat ta' tc' p.ts hpt1 hn p.ts.length _ _ ⟨0,nS,rfl,oM,rfl,rfl,rfl,rfl,rfl,i4.refl _ _,t7.nil⟩) ?_;rintro o e' H2 ⟨ho,hS2,w,f10,hO⟩;refine J2 ho f10 ?_;have hl2:=(hS2.weaken (show H.next≤H1.next from oM)).low hlow1;exact I4 (hO.weaken oM) (s1.trans (hS2.weaken oM)) hl2
theorem pi(H1:d9)(F:Nat→Prop)(hF:∀j,F j→j<H1.next) (Rt:LV→Q→Prop) (va:Option Addr) (ca:Nat) (l:List PrD) (hv:SlF H1 F 5 (PrF H1 F Rt) (.slice va l.length ca) l) (hn:l.length≤100000) (hb:∀p∈l,0≤p.st∧p.st≤1000000) (r:Int):
  ∀kk e H2,(∃(i:Nat)(n:Int),kk=l.length-i∧i≤l.length∧0≤n∧n≤1000000*i∧e.get 3=iV n∧e.get 7= .slice va l.length ca∧e.get 8=iV l.length∧e.get 9=iV i∧i4 H1.next H1 H2∧(l.drop i).foldl (fun n p=>n+p.st) n=r)→
  u9 (LE prog t6 (.loop Gc) e H2) (fun o e H2=>i4 H1.next H1 H2∧o= .exit 0∧e.get 3=iV r):=by
 refine j7 _ _ ?_;rintro kk e H2 ⟨i,n,hk,hi,hn0,hn1,f3,f7,f8,f9,hS,fu⟩;rcases b:decide ((i:Int)<l.length)with _|_
 ·have hb':=dF b;have:l.drop i=[]:=dN oM;rw[this,List.foldl_nil]at fu;refine J3 f8 f9 b ?_;exact l7 ⟨hS,rfl,by rw[←fu];exact f3⟩
 have hb':=dT b;have hn2:=hS.next;obtain⟨x,nb,o,cs,own,el,hx,hd,rfl,hFn,hg,hle,hrow,hc,hR⟩:=hv.row (i:=i) oM;have nt:(i:Int).toNat=i:=tN i;have hbx:=hb x (List.mem_of_getElem? hx);have g2:=(hS.get nb (hF _ hFn)).trans hg;have a1:=fd hR;have l1:=aV hR;have e0:el[0]?=some (.int .i64 x.st):=by obtain⟨_,_,_,_,rfl,_⟩:=E1 hR;rfl
 obtain⟨H3,hH3⟩:∃H3,H3=(H2.push (.cells z5 true 1)).put H2.next (.cells el true 1):=⟨_,rfl⟩
 have n3:H3.next=H2.next+1:=by rw[hH3,j5,i5]
 have s3:i4 H2.next H2 H3:=by rw[hH3];exact(i4.push lR).trans (i4.put lR)
 have g3:H3.get H2.next=cE el 1:=by rw[hH3];exact i8 (by rw[i5];omega)
 have sp1:splice z5 0 el=el:=w7 _ _ (by rw[l1];rfl);rw[hd,List.foldl_cons]at fu;refine J15 f3 f7 f8 f9 b g2 nt hrow a1 l1 sp1 hH3.symm g3 e0 @wrap_small ?_;exact i6 (kk-1) oM ⟨i+1,n+x.st,oM,oM,oM,oM,rfl,f7,f8,rfl,hS.trans (s3.weaken oM),fu⟩
theorem XJ(H:d9)(F:Nat→Prop)(Rp Rt:LV→Q→Prop)(cs:LV)(s:StD)(hF:∀j,F j→j<H.next) (hs:StF H F Rp Rt cs s) (hn:s.progs.length≤100000) (hb:∀p∈s.progs,0≤p.st∧p.st≤1000000):CL prog t6 71 [.agg cs.toArray] H=some (.int .i64 (y9 s.progs),none):=by
 obtain⟨pa,pc,ga,gc,ba,bc,ea,ec,ta,tc,hcs,h1,h2,h3,h4,h5⟩:=N3 hs;have a0:cs.all Value.oneCell'=true:=by rw[hcs];rfl
 have r1:cs[1]?=some (.slice ga s.progs.length gc):=by rw[hcs];rfl
 obtain⟨H1,hH1⟩:∃H1,H1=d9.push ⟨H.bs,H.next⟩ (.cells cs true 1):=⟨_,rfl⟩
 have hS:i4 H.next H H1:=by rw[hH1];exact i4.first H _
 have hg:H1.get H.next=cE cs 1:=by rw[hH1];exact i7
 have hlow:H.next≤H1.low:=by rw[hH1,t5];exact lR
 have hn1:=hS.next;have h2':SlF H1 F 5 (PrF H1 F Rt) (.slice ga s.progs.length gc) s.progs:=h2.mono (fun j hj=>hS.get j (hF j hj)) (fun _ h=>h) (fun _ _ h=>h.mono (fun j hj=>hS.get j (hF j hj)) (fun _ h=>h) iF);rw[j8 ad9 rfl _ (by simp)];refine J4 a0 hH1.symm hg r1 ?_;refine l9 (F:=fun z=>u5 _ _ _ (u7 (inBlock 0 z) _)=_) (pi H1 F (fun j hj=>by have:=hF j hj;omega) Rt ga gc s.progs h2' hn hb (y9 s.progs) s.progs.length _ _ ⟨0,0,rfl,oM,oM,oM,rfl,rfl,rfl,rfl,i4.refl _ _,rfl⟩) ?_;rintro o e' H' ⟨hS',ho,h3⟩;have hl':=(hS'.weaken hn1).low hlow;exact J2 ho h3 trivial
abbrev SoD:Type:=Bool×Bool×ByteArray
def vz(x:SoD)(n:Int):Bool:=x.1&&decide (x9 x.2.2 n.toNat=1)
def fm(x:SoD)(n:Nat):Prop:=x.1=true→x.2.2.size=n
theorem BV(H:d9)(x:SoD)(n:Int)(m:Nat)(hx:fm x m)(h0:0≤n)(h1:n<m):CL prog t6 117 [.agg (soE x).toArray,iV n] H=some (.bool (vz x n),none):=by
 obtain⟨h,t,b⟩:=x;obtain⟨H1,hH1,-,hg⟩:=pushF H (.cells [.bool h,.bool t,.string b] true 1);have hlow:H.next≤H1.low:=by rw[hH1,t5];exact lR
 rw[j8 WH rfl _ (by simp),vz];cases h with
 |false=>simp(maxSteps:=20000000) -dsimp (disch:=first|omega|(simp only[rH]<;>omega)|fail) only[↓ai3,rQ,D8,sevalprocAttr,tyA,←hH1,hg]
 |true=>
  have hsz:b.size=m:=hx rfl;exact J2 hH1.symm hg trivial
abbrev EdD:Type:=Int×Int×Int×Int
def Bh(fi ne:SoD)(hs bs:List Bool)(b:Int)(x:EdD):Bool:=if x.2.2.1=1 then vz fi (b+x.2.1) else if x.2.2.1=2 then vz ne (b+x.2.1) else if x.2.2.1=3 then hs.getD x.2.2.2.toNat false&&iY bs (b+x.2.1) else iY bs (b+x.2.1)
def aL(fi ne:SoD)(hs:List Bool)(b:Int):List EdD→List Bool×Bool→List Bool×Bool
 |[],z=>z
 |x::l,z=>aL fi ne hs b l (if !iY z.1 (b+x.1)&&Bh fi ne hs z.1 b x then(z.1.set (b+x.1).toNat true,true) else z)
def itE(fi ne:SoD)(hs:List Bool)(b:Int)(l:List EdD):Nat→List Bool→List Bool
 |0,bs=>bs
 |n+1,bs=>if(aL fi ne hs b l (bs,false)).2 then itE fi ne hs b l n (aL fi ne hs b l (bs,false)).1 else(aL fi ne hs b l (bs,false)).1
def fD(bs:List Bool):Nat:=(bs.filter (fun b=> !b)).length
theorem qm:∀(bs:List Bool)(i:Nat),i<bs.length→bs.getD i false=false→fD (bs.set i true)+1=fD bs
 |[],i,h,_=>by simp at h
 |b::bs,0,_,h=>by
  have:b=false:=by simpa using h
  subst this;simp [fD]
 |b::bs,i+1,h,h2=>by
  have:=qm bs i (by simpa using h) (by simpa using h2);cases b<;>simp [fD]at this ⊢ <;>omega
theorem cI(fi ne:SoD)(hs:List Bool)(b:Int):∀(l:List EdD)(z:List Bool×Bool),(aL fi ne hs b l z).1.length=z.1.length
 |[],z=>rfl
 |x::l,z=>by
  rw[aL,cI fi ne hs b l];split
  ·simp
  ·rfl
theorem fc(fi ne:SoD)(hs:List Bool)(b:Int):∀(l:List EdD)(z:List Bool×Bool),(∀x∈l,0≤b+x.1∧b+x.1<z.1.length)→fD (aL fi ne hs b l z).1≤fD z.1∧((aL fi ne hs b l z).2=true→z.2=true∨fD (aL fi ne hs b l z).1<fD z.1)
 |[],z,_=>⟨lR,fun h=> .inl h⟩
 |x::l,z,h=>by
  rw[aL];have hx:=h x (by simp);rcases hc:(!iY z.1 (b+x.1)&&Bh fi ne hs z.1 b x)with _|_
  ·simp only[Bool.false_eq_true,if_false];exact fc fi ne hs b l z fun y hy=>h y (by simp [hy])
  ·simp only[if_true];simp only[Bool.and_eq_true,Bool.not_eq_true']at hc;have hs1:=qm z.1 (b+x.1).toNat oM hc.1;have:=fc fi ne hs b l (z.1.set (b+x.1).toNat true,true) fun y hy=>by have:=h y (by simp [hy]);simp;omega
   refine⟨by have:=this.1;simp only at this;omega,fun _=> .inr (by have:=this.1;simp only at this;omega)⟩
theorem ph(fi ne:SoD)(hs:List Bool)(b:Int)(l:List EdD):∀(n:Nat)(bs:List Bool),(itE fi ne hs b l n bs).length=bs.length
 |0,bs=>rfl
 |n+1,bs=>by
  rw[itE];split
  ·rw[ph fi ne hs b l n,cI]
  ·rw[cI]
def gV(s:StD)(e:EvD)(fi ne:SoD)(p:PrD)(b:Int)(bs:List Bool):List Bool:=
 itE fi ne (p.ts.map (R7 s e bs)) b p.ed (fD (bs.set (b+p.en).toNat true)+1) (bs.set (b+p.en).toNat true)
def cn(s:StD)(e:EvD)(fi ne:SoD):List (PrD×Int)→List Bool→List Bool
 |[],bs=>bs
 |x::l,bs=>cn s e fi ne l (gV s e fi ne x.1 x.2 bs)
def rU(bs:List Bool):ByteArray:=⟨(bs.map fun b=>if b then(1:UInt8) else 0).toArray⟩
def Y8(s:StD)(e:EvD)(fi ne:SoD):SoD:=(true,decide (e.kind=2),rU (cn s e fi ne (s.progs.zip s.base) (List.replicate (y9 s.progs).toNat false)))
structure N6(Hs:d9)(lo K pm pb:Nat)(s:StD)(e:EvD)(fi ne:SoD)(bs:List Bool)(F:Nat→Prop)(H:d9):Prop where
 ex:∃rs re bc,H.get pm=some (.cells (rs++(re++(soE fi++(soE ne++[.slice (some ⟨pb,0,none⟩) bs.length bc])))) true 1)∧StF H F (QR Hs lo K false) (QR Hs lo K true) rs s∧EvF H F re e
 bits:H.get pb=cE (bs.map cX) 1
 lt:∀j,F j→j<H.next∧j≠pb
 eq:∀j,j<lo→H.get j=Hs.get j
 lo:lo≤pb
 ne:pm≠pb
section
variable{Hs:d9}{lo K pm pb:Nat}{s:StD}{e:EvD}{fi ne:SoD}{bs:List Bool}{F:Nat→Prop}{H H':d9}
theorem N6.pbl(h:N6 Hs lo K pm pb s e fi ne bs F H):pb<H.next:=u6 h.bits
theorem N6.work(h:N6 Hs lo K pm pb s e fi ne bs F H)(hS:i4 H.next H H'):N6 Hs lo K pm pb s e fi ne bs F H':=by
 have hpb:=h.pbl;obtain⟨⟨rs,re,bc,h1,h2,h3⟩,h4,h5,h6,h7,h8⟩:=h;have hn:=hS.next;have hg:∀j,F j→H'.get j=H.get j:=fun j hj=>hS.get j (h5 j hj).1;exact⟨⟨rs,re,bc,(hS.get pm (u6 h1)).trans h1,h2.mono hg (fun _ h=>h) iF iF,w9 _ _ _ _ _ _ h3 hg (fun _ h=>h)⟩,(hS.get pb hpb).trans h4,fun j hj=>by have:=h5 j hj;omega,fun j hj=>by rw[hS.get j oM];exact h6 j hj,h7,h8⟩
theorem N6.set(h:N6 Hs lo K pm pb s e fi ne bs F H)(i:Nat):N6 Hs lo K pm pb s e fi ne (bs.set i true) F (H.put pb (.cells ((bs.map cX).set i (cX true)) true 1)):=by
 have hpb:=h.pbl;obtain⟨⟨rs,re,bc,h1,h2,h3⟩,h4,h5,h6,h7,h8⟩:=h;have hg:∀j,F j→(H.put pb (.cells ((bs.map cX).set i (cX true)) true 1)).get j=H.get j:=fun j hj=>i9 (fun q=>(h5 j hj).2 q.symm);refine⟨⟨rs,re,bc,by rw[i9 (fun q=>h8 q.symm),List.length_set];exact h1,h2.mono hg (fun _ h=>h) iF iF,w9 _ _ _ _ _ _ h3 hg (fun _ h=>h)⟩,by rw[i8 hpb,List.map_set],fun j hj=>⟨by rw[j5];exact(h5 j hj).1,(h5 j hj).2⟩,fun j hj=>by rw[i9 oM];exact h6 j hj,h7,h8⟩
theorem N6.row(h:N6 Hs lo K pm pb s e fi ne bs F H):∃rs re bc row,H.get pm=cE row 1∧row=rs++(re++(soE fi++(soE ne++[.slice (some ⟨pb,0,none⟩) bs.length bc])))∧row.length=20∧StF H F (QR Hs lo K false) (QR Hs lo K true) rs s∧EvF H F re e∧
  ldC (some true) (some 8) 0 row=some (.agg rs.toArray)∧ldC (some true) (some 5) 8 row=some (.agg re.toArray)∧ldC (some true) (some 3) 13 row=some (.agg (soE fi).toArray)∧ldC (some true) (some 3) 16 row=some (.agg (soE ne).toArray)∧row[19]?=some (.slice (some ⟨pb,0,none⟩) bs.length bc)∧
  (∀k,k<8→row[k]?=rs[k]?)∧row[8]?=some (.int .i64 e.kind):=by
 obtain⟨⟨rs,re,bc,h1,h2,h3⟩,_⟩:=h;obtain⟨pa,pc,ga,gc,xa,xc,ea,ec,ta,tc,hrs,_⟩:=N3 h2;obtain⟨av,hre,_⟩:=id h3;have lrs:rs.length=8:=by rw[hrs];rfl
 refine⟨rs,re,bc,_,h1,rfl,by rw[hrs,hre];rfl,h2,h3,by rw[hrs,hre];rfl,by rw[hrs,hre];rfl,by rw[hrs,hre];rfl,by rw[hrs,hre];rfl,by rw[hrs,hre];rfl,fun k hk=>List.getElem?_append_left oM,by rw[hrs,hre];rfl⟩
theorem vk{i:Nat}(hi:i<bs.length):(bs.map cX)[i*1]?=some (.int .u8 (if bs.getD i false=true then 1 else 0)):=by
 rw[Nat.mul_one,List.getElem?_map,List.getElem?_eq_getElem hi,List.getD_eq_getElem?_getD,List.getElem?_eq_getElem hi];rfl
end
theorem Og(b:Bool):decide ((if b=true then(1:Int) else 0)=1)=b:=by cases b<;>rfl
theorem XN(Hs:d9)(lo K pm pb:Nat)(s:StD)(e:EvD)(fi ne:SoD)(bs:List Bool)(F:Nat→Prop)(H:d9)(hK:N6 Hs lo K pm pb s e fi ne bs F H)(h1:fm fi bs.length)(h2:fm ne bs.length)(hbl:bs.length≤1000000)(b:Int)(x:EdD)(ha:Option Addr)(hc:Nat)(hs:List Bool)(F2:Nat→Prop)(hF2:∀j,F2 j→j<H.next) (hh:SlF H F2 1 (v8 boE) (.slice ha hs.length hc) hs)
  (hb:0≤b∧b≤1000000) (hx:0≤x.2.1∧b+x.2.1<bs.length) (h3:x.2.2.1=3→0≤x.2.2.2∧x.2.2.2<hs.length):
  CL prog t6 94 [pT pm,iV b,.agg (edE x).toArray,.slice ha hs.length hc] H=some (.bool (Bh fi ne hs bs b x),none):=by
 obtain⟨x0,x1,x2,x3⟩:=x;simp only at hx h3;obtain⟨er,her⟩:∃r,r=edE (x0,x1,x2,x3):=⟨_,rfl⟩
 rw[←her];have ae:er.all Value.oneCell'=true:=by rw[her];rfl
 have er1:er[1]?=some (.int .i64 x1):=by rw[her];rfl
 have er2:er[2]?=some (.int .i64 x2):=by rw[her];rfl
 have er3:er[3]?=some (.int .i64 x3):=by rw[her];rfl
 obtain⟨H1,hH1⟩:∃H1,H1=d9.push ⟨H.bs,H.next⟩ (.cells er true 1):=⟨_,rfl⟩
 have hS:i4 H.next H H1:=by rw[hH1];exact i4.first H _
 have hg:H1.get H.next=cE er 1:=by rw[hH1];exact i7
 have hlow:H.next≤H1.low:=by rw[hH1,t5];exact lR
 have hK1:=hK.work hS;obtain⟨rs,re,bc,row,g,hrow,lrow,hsF,_,_,_,r13,r16,r19,_,_⟩:=hK1.row;have gb:=hK1.bits;have bg:=vk (bs:=bs) (i:=(b+x1).toNat) oM;have g1:=BV H1 fi (b+x1) bs.length h1 oM oM;have g2:=BV H1 ne (b+x1) bs.length h2 oM oM;have bl:(bs.map cX).length=bs.length:=by simp
 rw[j8 af5 rfl _ (by simp),Bh];simp only;by_cases e1:x2=1
 ·rw[if_pos e1];exact J10 ae er1 er2 hH1.symm hg e1 g r13 g1 @wrap_small trivial
 rw[if_neg e1];have b1:decide (x2=1)=false:=decide_eq_false e1;by_cases e2:x2=2
 ·rw[if_pos e2];exact J10 ae er1 er2 hH1.symm hg e2 g r16 g2 @wrap_small trivial
 rw[if_neg e2];have b2:decide (x2=2)=false:=decide_eq_false e2;by_cases e3:x2=3
 ·rw[if_pos e3];obtain⟨t1,t2⟩:=h3 e3;have hh1:SlF H1 F2 1 (v8 boE) (.slice ha hs.length hc) hs:=hh.mono (fun j hj=>hS.get j (hF2 j hj)) (fun _ h=>h) iF;obtain⟨v,nb,o,cs,own,el,hxv,_,rfl,hFn,hgv,hle,hrowv,hcv,hRv⟩:=hh1.row (i:=x3.toNat) oM;have hel:el=boE v:=hRv;subst hel;have cv0:cs[o+x3.toNat*1]?=some (.bool v):=by have:=hcv 0 oM;rw[Nat.add_zero]at this;exact this
  have ev:hs.getD x3.toNat false=v:=by rw[List.getD_eq_getElem?_getD,hxv];rfl
  rw[ev,iY];cases v with
  |false=>simp(maxSteps:=20000000) -dsimp (disch:=first|omega|(simp only[rH]<;>omega)|fail) only[↓ai3,rQ,D8,sevalprocAttr,tyA,ae,er1,er2,er3,←hH1,hg,e3,hgv,cv0,wrap_small]
  |true=>
   exact J15 ae er1 er2 er3 hH1.symm hg e3 hgv cv0 g r19 gb bg @Og @wrap_small trivial
 rw[if_neg e3];have b3:decide (x2=3)=false:=decide_eq_false e3;rw[iY];exact J14 ae er1 er2 hH1.symm hg b1 b2 b3 g r19 gb bg @Og @wrap_small trivial
theorem bW(x:Operand):isCall (.nilCheck x)=false:=rT
theorem Bb(fi ne:SoD)(hs:List Bool)(b:Int)(l:List EdD):∀(n m:Nat)(bs:List Bool),(∀x∈l,0≤b+x.1∧b+x.1<bs.length)→fD bs+1≤n→n≤m→itE fi ne hs b l m bs=itE fi ne hs b l n bs:=by
 intro n;induction n with
 |zero=>intro m bs _ h;omega
 |succ n ih=>
  intro m bs hl h1 h2;obtain⟨m',rfl⟩:∃m',m=m'+1:=⟨m-1,oM⟩
  have hc:=fc fi ne hs b l (bs,false) hl;rw[itE,itE];rcases hp:(aL fi ne hs b l (bs,false)).2 with _|_
  ·rfl
  ·simp only[if_true];have h3:=hc.2 hp;simp only[Bool.false_eq_true,false_or]at h3;exact ih m' _ (fun x hx=>by rw[cI];exact hl x hx) oM oM
structure Fr1(pb:Nat)(H H':d9):Prop where
 stay:i4 pb H H'
 but:∀j,j<H.next→j≠pb→H'.get j=H.get j
 low:H'.low≤H.low
theorem Fr1.refl(pb:Nat)(H:d9):Fr1 pb H H:=⟨i4.refl _ _,fun _ _ _=>rfl,lR⟩
theorem Fr1.trans{pb:Nat}{A B C:d9}(h:Fr1 pb A B)(k:Fr1 pb B C):Fr1 pb A C:=⟨h.stay.trans k.stay,fun j hj hp=>by rw[k.but j (by have:=h.stay.next;omega) hp,h.but j hj hp],Nat.le_trans k.low h.low⟩
theorem Fr1.of{pb:Nat}{H H':d9}(h:i4 H.next H H')(hp:pb≤H.next)(hl:H'.low≤H.low):Fr1 pb H H':=⟨h.weaken hp,fun j hj _=>h.get j hj,hl⟩
theorem Fr1.put{pb:Nat}{H:d9}{B:Blk}:Fr1 pb H (H.put pb B):=⟨i4.put lR,fun j _ hp=>i9 (fun q=>hp q.symm),by rw[A4];omega⟩
theorem yi(Hs:d9)(lo K pm pb:Nat)(s:StD)(ev:EvD)(fi ne:SoD)(F:Nat→Prop)(H1:d9)(n:Nat)(hn:n≤1000000)(hfi:fm fi n)(hne:fm ne n)(b:Int)(hb:0≤b∧b≤1000000)(hpb1:pb<H1.next)(pc:Nat)(rp:LV)(gpc:H1.get pc=cE rp 1)(hpc:pc≠pb)
  (ha:Option Addr) (hc:Nat) (hs:List Bool) (F2:Nat→Prop) (hF2:∀j,F2 j→j<H1.next∧j≠pb) (hh:SlF H1 F2 1 (v8 boE) (.slice ha hs.length hc) hs)
  (va:Option Addr) (ca:Nat) (l:List EdD) (hv:SlF H1 F 4 (v8 edE) (.slice va l.length ca) l) (hF:∀j,F j→j<H1.next∧j≠pb) (hl:l.length≤1000000) (hw:∀x∈l,0≤x.1∧b+x.1<n∧0≤x.2.1∧b+x.2.1<n∧(x.2.2.1=3→0≤x.2.2.2∧x.2.2.2<hs.length)) (r:List Bool×Bool):
  ∀kk e H2,(∃(j:Nat)(bs:List Bool)(m:Bool),kk=l.length-j∧j≤l.length∧e.get 0=pT pm∧e.get 4=pT pc∧e.get 5=iV b∧e.get 6= .slice ha hs.length hc∧e.get 7= .bool m∧e.get 51= .slice va l.length ca∧e.get 52=iV l.length∧e.get 53=iV j∧bs.length=n∧N6 Hs lo K pm pb s ev fi ne bs F H2∧Fr1 pb H1 H2∧aL fi ne hs b (l.drop j) (bs,m)=r)→
  u9 (LE prog t6 (.loop Gd) e H2) (fun o e H2=>o= .exit 2∧e.get 0=pT pm∧e.get 4=pT pc∧e.get 5=iV b∧e.get 6= .slice ha hs.length hc∧e.get 7= .bool r.2∧r.1.length=n∧N6 Hs lo K pm pb s ev fi ne r.1 F H2∧Fr1 pb H1 H2):=by
 refine j7 _ _ ?_;rintro kk e H2 ⟨j,bs,m,hk,hj,f0,f4,f5,f6,f7,f51,f52,f53,hbl,hK,hFr,fu⟩;rcases bb:decide ((j:Int)<l.length)with _|_
 ·have hb':=dF bb;have:l.drop j=[]:=dN oM;rw[this,aL]at fu;refine J3 f52 f53 bb ?_;exact l7 ⟨rfl,f0,f4,f5,f6,by rw[←fu];exact f7,by rw[←fu];exact hbl,by rw[←fu];exact hK,hFr⟩
 have hb':=dT bb;have hn2:=hFr.stay.next;have hpb2:=hK.pbl;obtain⟨x,nb,o,cs,own,el,hx,hd,rfl,hFn,hg,hle,hrow,hcc,hel⟩:=hv.row (i:=j) oM;have hel:el=edE x:=hel;obtain⟨w1,w2,w3,w4,w5⟩:=hw x (List.mem_of_getElem? hx);have nt:(j:Int).toNat=j:=tN j;have gx:=(hFr.but nb (hF _ hFn).1 (hF _ hFn).2).trans hg;have a1:el.all Value.oneCell'=true:=by rw[hel];rfl
 have l1:el.length=4:=by rw[hel];rfl
 have e0:el[0]?=some (.int .i64 x.1):=by rw[hel];rfl
 have ld1:ldC (some true) (some 4) 0 el=some (.agg el.toArray):=by rw[hel];rfl
 obtain⟨H3,hH3⟩:∃H3,H3=(H2.push (.cells [iV 0,iV 0,iV 0,iV 0] true 1)).put H2.next (.cells el true 1):=⟨_,rfl⟩
 have n3:H3.next=H2.next+1:=by rw[hH3,j5,i5]
 have s3:i4 H2.next H2 H3:=by rw[hH3];exact(i4.push lR).trans (i4.put lR)
 have g3:H3.get H2.next=cE el 1:=by rw[hH3];exact i8 (by rw[i5];omega)
 have sp1:splice [iV 0,iV 0,iV 0,iV 0] 0 el=el:=w7 _ _ (by rw[l1];rfl);have K3:=hK.work s3;have F13:Fr1 pb H1 H3:=hFr.trans (Fr1.of s3 oM (by rw[hH3,A4,t5];omega));obtain⟨rs,re,bc,row,gp,hrowp,lrow,hsF,_,_,_,r13,r16,r19,_,_⟩:=K3.row;have gb:=K3.bits;have bg:=vk (bs:=bs) (i:=(b+x.1).toNat) oM;have bl:(bs.map cX).length=bs.length:=by simp
 have hh3:SlF H3 F2 1 (v8 boE) (.slice ha hs.length hc) hs:=hh.mono (fun j hj=>F13.but j (hF2 j hj).1 (hF2 j hj).2) (fun _ h=>h) iF;have hca:=XN Hs lo K pm pb s ev fi ne bs F H3 K3 (by rw[hbl];exact hfi) (by rw[hbl];exact hne) oM b x ha hc hs F2 (fun j hj=>by have:=hF2 j hj;omega) hh3 hb ⟨w3,oM⟩ w5;rw[←hel]at hca;rw[hd,aL]at fu;have h0:0≤b+x.1:=oM;have hlt:b+x.1<bs.length:=oM;rcases b0:bs.getD (b+x.1).toNat false with _|_
 ·have b0':iY bs (b+x.1)=false:=b0;rw[b0]at bg;rcases b1:Bh fi ne hs bs b x with _|_
  ·rw[b1]at hca;simp only[b0',b1,Bool.not_false,Bool.true_and,Bool.false_eq_true,if_false]at fu;refine J23 f0 f5 f6 f51 f52 f53 bb gx nt hrow a1 l1 sp1 hH3.symm g3 e0 gp r19 gb bg ld1 hca @wrap_small ?_;exact i6 (kk-1) oM ⟨j+1,bs,m,oM,oM,f0,f4,f5,f6,f7,f51,f52,rfl,hbl,K3,F13,fu⟩
  ·rw[b1]at hca;simp only[b0',b1,Bool.not_false,Bool.and_self,if_true]at fu;obtain⟨H4,hH4⟩:∃H4,H4=H3.put pb (.cells ((bs.map cX).set ((b+x.1).toNat*1) (.int .u8 1)) true 1):=⟨_,rfl⟩
   have K4:N6 Hs lo K pm pb s ev fi ne (bs.set (b+x.1).toNat true) F H4:=by rw[hH4,Nat.mul_one];exact K3.set (b+x.1).toNat
   have hin:(b+x.1).toNat*1+1≤bs.length:=oM;have F14:Fr1 pb H1 H4:=F13.trans (by rw[hH4];exact Fr1.put);refine J27 f0 f5 f6 f51 f52 f53 bb gx nt hrow a1 l1 sp1 hH3.symm g3 e0 gp r19 gb bg bl ld1 hca hin hH4.symm @bW @wrap_small ?_;exact i6 (kk-1) oM ⟨j+1,bs.set (b+x.1).toNat true,true,oM,oM,f0,f4,f5,f6,rfl,f51,f52,rfl,by simp [hbl],K4,F14,fu⟩
 ·have b0':iY bs (b+x.1)=true:=b0;rw[b0]at bg;simp only[b0',Bool.not_true,Bool.false_and,Bool.false_eq_true,if_false]at fu;refine J20 f0 f5 f51 f52 f53 bb gx nt hrow a1 l1 sp1 hH3.symm g3 e0 gp r19 gb bg @wrap_small ?_;exact i6 (kk-1) oM ⟨j+1,bs,m,oM,oM,f0,f4,f5,f6,f7,f51,f52,rfl,hbl,K3,F13,fu⟩
theorem xP(Hs:d9)(lo K pm pb:Nat)(s:StD)(ev:EvD)(fi ne:SoD)(F:Nat→Prop)(H1:d9)(n:Nat)(hn:n≤1000000)(hfi:fm fi n)(hne:fm ne n)(b:Int)(hb:0≤b∧b≤1000000)(hpb1:pb<H1.next)(pc:Nat)(rp:LV)(gpc:H1.get pc=cE rp 1)(hpc:pc≠pb)
  (ha:Option Addr) (hc:Nat) (hs:List Bool) (F2:Nat→Prop) (hF2:∀j,F2 j→j<H1.next∧j≠pb) (hh:SlF H1 F2 1 (v8 boE) (.slice ha hs.length hc) hs)
  (va:Option Addr) (ca:Nat) (l:List EdD) (rp3:rp[3]?=some (.slice va l.length ca)) (hv:SlF H1 F 4 (v8 edE) (.slice va l.length ca) l) (hF:∀j,F j→j<H1.next∧j≠pb) (hl:l.length≤1000000) (hw:∀x∈l,0≤x.1∧b+x.1<n∧0≤x.2.1∧b+x.2.1<n∧(x.2.2.1=3→0≤x.2.2.2∧x.2.2.2<hs.length)) (r:List Bool):
  ∀kk e H2,(∃(bs:List Bool)(m:Bool),kk=(if m then fD bs+1 else 0)∧e.get 0=pT pm∧e.get 4=pT pc∧e.get 5=iV b∧e.get 6= .slice ha hs.length hc∧e.get 7= .bool m∧bs.length=n∧N6 Hs lo K pm pb s ev fi ne bs F H2∧Fr1 pb H1 H2∧(if m then itE fi ne hs b l (fD bs+1) bs else bs)=r)→
  u9 (LE prog t6 (.loop AG) e H2) (fun o e H2=>o= .exit 0∧r.length=n∧N6 Hs lo K pm pb s ev fi ne r F H2∧Fr1 pb H1 H2):=by
 refine j7 _ _ ?_;rintro kk e H2 ⟨bs,m,hk,f0,f4,f5,f6,f7,hbl,hK,hFr,fu⟩;cases m with
 |false=>
  simp only[Bool.false_eq_true,if_false]at fu;refine J1 f7 ?_;exact l7 ⟨rfl,by rw[←fu];exact hbl,by rw[←fu];exact hK,hFr⟩
 |true=>
  simp only[if_true]at fu hk;have hn2:=hFr.stay.next;have hpcl:=u6 gpc;have g2:=(hFr.but pc hpcl hpc).trans gpc;refine J4 f4 f7 g2 rp3 ?_;refine l9 (F:=fun z=>u9 (inBlock 1 (inBlock 2 z)) _) (yi Hs lo K pm pb s ev fi ne F H2 n hn hfi hne b hb oM pc rp g2 hpc ha hc hs F2 (fun j hj=>by have:=hF2 j hj;exact⟨oM,this.2⟩) (hh.mono (fun j hj=>hFr.but j (hF2 j hj).1 (hF2 j hj).2) (fun _ h=>h) iF) va ca l (hv.mono (fun j hj=>hFr.but j (hF j hj).1 (hF j hj).2) (fun _ h=>h) iF) (fun j hj=>by have:=hF j hj;exact⟨oM,this.2⟩) hl hw (aL fi ne hs b l (bs,false)) l.length _ _ ⟨0,bs,false,rfl,oM,f0,f4,f5,f6,rfl,rfl,rfl,rfl,hbl,hK,Fr1.refl _ _,rfl⟩) ?_;rintro o e' H3 ⟨ho,g0,g4,g5,g6,g7,hl3,K3,F3⟩;have hrng:∀x∈l,0≤b+x.1∧b+x.1<bs.length:=fun x hx=>by have:=hw x hx;omega
  have hcn:=fc fi ne hs b l (bs,false) hrng;rw[itE]at fu;obtain⟨z,hz⟩:∃z,z=aL fi ne hs b l (bs,false):=⟨_,rfl⟩
  have hzl:z.1.length=bs.length:=by rw[hz,cI]
  rw[←hz]at g7 hl3 K3 fu hcn;simp only[Bool.false_eq_true,false_or]at hcn;refine J1 ho ?_;obtain⟨z1,z2⟩:=z;simp only at g7 hl3 K3 fu hcn hzl;refine i6 (if z2 then fD z1+1 else 0) ?_ ⟨z1,z2,rfl,g0,g4,g5,g6,g7,hl3,K3,hFr.trans F3,?_⟩
  ·cases z2 with
   |false=>simp only[Bool.false_eq_true,if_false];omega
   |true=>have:=hcn.2 rfl;simp only[if_true];omega
  ·cases z2 with
   |false=>simpa using fu
   |true=>
    simp only[if_true]at fu ⊢;rw[←fu];have:=hcn.2 rfl;exact(Bb fi ne hs b l (fD z1+1) (fD bs) z1 (fun x hx=>by rw[hzl];exact hrng x hx) lR oM).symm
theorem N6.low{Hs:d9}{lo K pm pb:Nat}{s:StD}{e:EvD}{fi ne:SoD}{bs:List Bool}{F:Nat→Prop}{H:d9}(h:N6 Hs lo K pm pb s e fi ne bs F H)(n:Nat):N6 Hs lo K pm pb s e fi ne bs F ⟨H.bs,n⟩:=by
 obtain⟨⟨rs,re,bc,h1,h2,h3⟩,h4,h5,h6,h7,h8⟩:=h;exact⟨⟨rs,re,bc,h1,h2.mono (fun _ _=>rfl) (fun _ h=>h) iF iF,w9 _ _ _ _ _ _ h3 (fun _ _=>rfl) (fun _ h=>h)⟩,h4,h5,h6,h7,h8⟩
theorem GP{P:Program}{X:Lib}{f:FuncId}{l:E4}{nt:Nat}{rs:List ResultVar}(hf:fnL P f=some (l,nt,rs))(hX:X f=none)(args:LV)(hn:args.length≤nt)(H:d9){v:Value}{H':d9}(h:CL P X f args H=some (v,some H')):H'.low≤H.low:=by
 rw[j8 hf hX args hn]at h;unfold u5 at h;split at h
 ·cases h
 ·obtain⟨vs,_,h2⟩:=Option.map_eq_some_iff.1 h;unfold D4 at h2;split at h2
  ·simp at h2
  ·simp only[Prod.mk.injEq,Option.some.injEq]at h2;rw[←h2.2];show min H.low _≤H.low;omega
 ·cases h
theorem XK(Hs:d9)(lo K pm pb:Nat)(s:StD)(ev:EvD)(fi ne:SoD)(bs:List Bool)(F:Nat→Prop)(H:d9)(hK:N6 Hs lo K pm pb s ev fi ne bs F H)(hlo:lo≤H.next)(hw:WfS s bs.length)(hfi:fm fi bs.length)(hne:fm ne bs.length)(hat:ev.attrs.length≤1000000)(i:Nat)(p:PrD)(b:Int)(hp:s.progs[i]?=some p)(hb:s.base[i]?=some b)(hts:p.ts.length≤1000000)(hed:p.ed.length≤1000000):
  Ret (CL prog t6 72 [pT pm,iV i] H) H fun v H'=>v=undef∧N6 Hs lo K pm pb s ev fi ne (gV s ev fi ne p b bs) F H'∧Fr1 pb H H':=by
 have nb0:(⟨H.bs,H.next⟩:d9).next=H.next:=rfl;have Kb:N6 Hs lo K pm pb s ev fi ne bs F ⟨H.bs,H.next⟩:=hK.work (i4.start H);obtain⟨w1,w2,w3⟩:=hw.at_ i p b hp hb;have hst:=w3.st;have hen:=w3.en;have hnn:=hw.nle;obtain⟨K1,hK1,n1,-⟩:=pushF H (.cells z5 true 1);have s1:i4 H.next ⟨H.bs,H.next⟩ K1:=by rw[hK1];exact i4.push lR
 obtain⟨rs,re,bc,row,g,hrow,lrow,hsF,heF,ldrs,ldre,_,_,r19,rk,_⟩:=Kb.row;obtain⟨pa,pc',ga,gc,xa,xc,ea,ec,ta,tc,hrs,h1,h2,h3,_⟩:=N3 hsF;have hpm:=u6 g;have hpb:=Kb.pbl;have r1:row[1]?=some (.slice ga s.progs.length gc):=by rw[rk 1 oM,hrs];rfl
 have r2:row[2]?=some (.slice xa s.base.length xc):=by rw[rk 2 oM,hrs];rfl
 have hip:i<s.progs.length:=(List.getElem?_eq_some_iff.1 hp).1;have hib:i<s.base.length:=(List.getElem?_eq_some_iff.1 hb).1;obtain⟨p',np,op,cp,ownp,rp,hxp,_,rfl,hFp,hgp,hlep,hrowp,hcp,hRp⟩:=h2.row (i:=i) hip;obtain rfl:p=p':=Option.some.inj (hp.symm.trans hxp);obtain⟨b',nx,ox,cx,ownx,elx,hxb,_,rfl,hFx,hgx,hlex,hrowx,hcx,hRx⟩:=h3.row (i:=i) hib;obtain rfl:b=b':=Option.some.inj (hb.symm.trans hxb);have helx:elx=inE b:=hRx;subst helx;have cx0:cx[ox+i*1]?=some (.int .i64 b):=by have:=hcx 0 oM;rw[Nat.add_zero]at this;exact this
 have ap:=fd hRp;have lp:=aV hRp;obtain⟨ea',ec',ta',tc',hrp,hpe,hpt⟩:=E1 hRp;have rp2:rp[2]?=some (.int .i64 p.en):=by rw[hrp];rfl
 have rp3:rp[3]?=some (.slice ea' p.ed.length ec'):=by rw[hrp];rfl
 have ldp:ldC (some true) (some 5) 0 rp=some (.agg rp.toArray):=by rw[hrp];rfl
 obtain⟨K2,hK2⟩:∃K,K=K1.put H.next (.cells rp true 1):=⟨_,rfl⟩
 have n2:K2.next=H.next+1:=by rw[hK2,j5,n1]
 have s2:i4 H.next ⟨H.bs,H.next⟩ K2:=by rw[hK2];exact s1.trans (i4.put lR)
 have g1:=(s1.get pm hpm).trans g;have g2:=(s2.get pm hpm).trans g;have gp1:=(s1.get np (Kb.lt _ hFp).1).trans hgp;have gx1:=(s1.get nx (Kb.lt _ hFx).1).trans hgx;have gx2:=(s2.get nx (Kb.lt _ hFx).1).trans hgx;have gz1:K1.get H.next=cE z5 1:=by rw[hK1];exact i7
 have gc2:K2.get H.next=cE rp 1:=by rw[hK2];exact i8 oM
 have sp5:splice z5 0 rp=rp:=w7 _ _ (by rw[lp];rfl);have nt:(i:Int).toNat=i:=tN i;have hil:(i:Int)<s.progs.length:=oM;have hil2:(i:Int)<s.base.length:=oM;have Kd2:=Kb.work s2;obtain⟨F',hF'⟩:∃F':Nat→Prop,F'=fun j=>F j∨j=pb:=⟨_,rfl⟩
 have sub:∀j,F j→F' j:=fun j hj=>by rw[hF'];exact .inl hj
 have hg2:∀j,F j→K2.get j=(⟨H.bs,H.next⟩:d9).get j:=fun j hj=>s2.get j (Kb.lt j hj).1;have hbl:SlF K2 F' 1 (v8 wB) (.slice (some ⟨pb,0,none⟩) bs.length bc) bs:=by
  refine .inr ⟨pb,0,bc,rfl,.inr ⟨_,true,by rw[hF'];exact .inr rfl,Kd2.bits,by simp,fun j v hj=>?_⟩⟩;show((bs.map cX).drop (0+j*1)).take 1=wB v;have hlt:=(List.getElem?_eq_some_iff.1 hj).1;rw[Nat.zero_add,Nat.mul_one,List.drop_eq_getElem_cons (by simpa using hlt)];have:=(List.getElem?_eq_some_iff.1 hj).2;simp [wB,this]
 obtain⟨wv,h3',H3,hc3,hge3,hO3,s3⟩:=XM Hs lo K s p ev bs F' K2 rs rp re (some ⟨pb,0,none⟩) bc (hsF.mono hg2 sub iF iF) (hRp.mono hg2 sub iF) (w9 _ _ _ _ _ _ heF hg2 sub) hbl (fun j hj=>by
  rw[hF']at hj;rcases hj with hj|hj
  ·have:=Kb.lt j hj;omega
  ·omega) Kd2.eq oM hw hat hts
 have n3:=s3.next;have hl3:H3.low≤K2.low:=by
  rcases h3' with _|Hx
  ·have e3:K2=H3:=hge3;rw[e3];exact lR
  ·have e3:Hx=H3:=hge3;rw[←e3];exact GP Xo rfl _ (by simp) _ hc3
 have Kd3:=Kd2.work s3;obtain⟨wa,wc,ew⟩:=hO3.slice;rw[ew]at hc3 hO3;have g3:H3.get pm=cE row 1:=(s3.get pm oM).trans g2;have gc3:H3.get H.next=cE rp 1:=(s3.get _ oM).trans gc2;have hi0:0≤b+p.en:=oM;have hi1:b+p.en<bs.length:=oM;have bl:(bs.map cX).length=bs.length:=by simp
 have hin:(b+p.en).toNat*1+1≤bs.length:=oM;obtain⟨H4,hH4⟩:∃H4,H4=H3.put pb (.cells ((bs.map cX).set ((b+p.en).toNat*1) (.int .u8 1)) true 1):=⟨_,rfl⟩
 have K4:N6 Hs lo K pm pb s ev fi ne (bs.set (b+p.en).toNat true) F H4:=by rw[hH4,Nat.mul_one];exact Kd3.set (b+p.en).toNat
 have n4:H4.next=H3.next:=by rw[hH4,j5]
 have gb3:=Kd3.bits;have f34:Fr1 pb H3 H4:=by rw[hH4];exact Fr1.put
 have f04:Fr1 pb ⟨H.bs,H.next⟩ H4:=((Fr1.of s2 oM (by rw[hK2,A4,hK1,t5];omega)).trans (Fr1.of s3 oM hl3)).trans f34;have gc4:H4.get H.next=cE rp 1:=(f34.but _ oM oM).trans gc3;have l4:H4.low≤pb:=by rw[hH4,A4];omega
 obtain⟨hsv,hhs⟩:∃l,l=p.ts.map (R7 s ev bs):=⟨_,rfl⟩
 have lhs:hsv.length=p.ts.length:=by rw[hhs,List.length_map]
 rw[←hhs]at hc3 hO3;have hh4:SlF H4 (fun j=>j9 (.slice wa hsv.length wc) j) 1 (v8 boE) (.slice wa hsv.length wc) hsv:=(hO3.same fun j hj=>by have:=hO3.lt hj;exact f34.but j this.2 oM).frz fun _ h=>h;have hv4:SlF H4 F 4 (v8 edE) (.slice ea' p.ed.length ec') p.ed:=hpe.mono (fun j hj=>f04.but j (Kb.lt j hj).1 (Kb.lt j hj).2) (fun _ h=>h) iF;rw[j8 ae0 rfl _ (by simp)];have goal:∀(e5:Env),e5.get 0=pT pm→e5.get 4=pT H.next→e5.get 5=iV b→e5.get 6= .slice wa hsv.length wc→e5.get 7= .bool true→
   Ret (u5 prog [] H (inBlock 0 (LE prog t6 AG.loop e5 H4))) H fun v H'=>v=undef∧N6 Hs lo K pm pb s ev fi ne (gV s ev fi ne p b bs) F H'∧Fr1 pb H H':=by
  intro e5 q0 q4 q5 q6 q7;refine l9 (F:=fun z=>Ret (u5 _ _ _ (inBlock 0 z)) _ _) (xP Hs lo K pm pb s ev fi ne F H4 bs.length hnn hfi hne b oM oM H.next rp gc4 oM wa wc hsv _ (fun j hj=>by have:=hO3.lt hj;omega) hh4 ea' ec' p.ed rp3 hv4 (fun j hj=>by have:=Kb.lt j hj;omega) hed (fun x hx=>by have:=w3.ed x hx;rw[lhs];omega) (gV s ev fi ne p b bs) _ _ _ ⟨bs.set (b+p.en).toNat true,true,rfl,q0,q4,q5,q6,q7,by simp,K4,Fr1.refl _ _,by rw[gV,←hhs];rfl⟩) ?_;rintro o e' H5 ⟨ho,hrl,K5,F45⟩;have F05:=f04.trans F45;have l5:H5.low≤pb:=Nat.le_trans F45.low l4;refine J1 ho ?_;refine D7 (fun _ hl=>oM) ⟨rfl,?_,?_⟩
  ·exact K5.low _
  ·exact⟨⟨F05.stay.next,fun k q1 q2=>(by have:=F05.stay.lowAll k q1 (show k≤H.next from oM);show k≤min H.low H5.low;omega),F05.stay.get⟩,F05.but,by show min H.low H5.low≤H.low;omega⟩
 rcases h3' with _|Hx
 ·have e3:K2=H3:=hge3;subst e3;have hc3':CL prog t6 93 [.agg rs.toArray,.agg rp.toArray,.agg re.toArray,.slice (some ⟨pb,0,none⟩) bs.length bc] K2=some (.slice wa hsv.length wc,none):=hc3;refine J30 g r1 r2 nt hgp hrowp hgx cx0 hK1.symm g1 g2 gp1 gx1 gz1 ap lp sp5 hK2.symm gx2 ldrs gc2 ldp ldre r19 hc3' @bW rp2 gb3 (And.intro bl hin) (And.intro hH4.symm @wrap_small) ?_;exact goal _ rfl rfl rfl rfl rfl
 ·have e3:Hx=H3:=hge3;subst e3;have hc3':CL prog t6 93 [.agg rs.toArray,.agg rp.toArray,.agg re.toArray,.slice (some ⟨pb,0,none⟩) bs.length bc] K2=some (.slice wa hsv.length wc,some Hx):=hc3;refine J30 g r1 r2 nt hgp hrowp hgx cx0 hK1.symm g1 g2 gp1 gx1 gz1 ap lp sp5 hK2.symm gx2 ldrs gc2 ldp ldre r19 hc3' @bW (And.intro g3 gc3) (And.intro rp2 gb3) (And.intro bl hin) (And.intro hH4.symm @wrap_small) ?_;exact goal _ rfl rfl rfl rfl rfl
theorem wS(H:d9)(pb:Nat)(bs:List Bool)(c:Nat)(hg:H.get pb=cE (bs.map cX) 1):W8 prog H 81 9 (.slice (some ⟨pb,0,none⟩) bs.length c)=some (.string (rU bs),none):=by
 have key:∀l:List Bool,(l.map cX).mapM bB=some (l.map fun b=>if b then(1:UInt8) else 0):=by
  intro l;induction l with
  |nil=>rfl
  |cons b l ih=>
   rw[List.map_cons,List.mapM_cons,ih];cases b<;>rfl
 have hs:A3 H 1 (.slice (some ⟨pb,0,none⟩) bs.length c)=some (bs.map cX):=by
  simp only[A3];by_cases h0:bs.length=0
  ·rw[if_pos h0];have:bs=[]:=List.length_eq_zero_iff.1 h0;rw[this];rfl
  ·rw[if_neg h0,hg];simp;exact List.take_of_length_le (by simp)
 simp only[W8,yP.2.2.2.2.2.2,ty9.2.2.2.2.2.2,ty5.2.2.2.2.2.2,hs,Option.bind_some,key];rfl
theorem yB(Hs:d9)(lo K pm pb:Nat)(s:StD)(ev:EvD)(fi ne:SoD)(F:Nat→Prop)(H1:d9)(n:Nat)(hw:WfS s n)(hlo:lo≤H1.next)(hfi:fm fi n)(hne:fm ne n)(hat:ev.attrs.length≤1000000)(hsz:∀p∈s.progs,p.ts.length≤1000000∧p.ed.length≤1000000) (r:List Bool) (p5 p8:Value):
  ∀kk e H2,(∃(i:Nat)(bs:List Bool),kk=s.progs.length-i∧i≤s.progs.length∧e.get 5=p5∧e.get 8=p8∧e.get 9=pT pm∧e.get 22=iV s.progs.length∧e.get 23=iV i∧bs.length=n∧N6 Hs lo K pm pb s ev fi ne bs F H2∧Fr1 pb H1 H2∧cn s ev fi ne ((s.progs.zip s.base).drop i) bs=r)→
  u9 (LE prog t6 (.loop FH) e H2) (fun o e H2=>o= .exit 0∧e.get 5=p5∧e.get 8=p8∧e.get 9=pT pm∧r.length=n∧N6 Hs lo K pm pb s ev fi ne r F H2∧Fr1 pb H1 H2):=by
 refine j7 _ _ ?_;rintro kk e H2 ⟨i,bs,hk,hi,f5,f8,f9,f22,f23,hbl,hK,hFr,fu⟩;rcases b:decide ((i:Int)<s.progs.length)with _|_
 ·have hb':=dF b;have:(s.progs.zip s.base).drop i=[]:=dN (by rw[List.length_zip];omega);rw[this,cn]at fu;refine J3 f22 f23 b ?_;exact l7 ⟨rfl,f5,f8,f9,by rw[←fu];exact hbl,by rw[←fu];exact hK,hFr⟩
 have hb':=dT b;have hl1:=hw.l1;have hl2:=hw.l2;obtain⟨p,hp,hdp⟩:=S4 (l:=s.progs) (i:=i) oM;obtain⟨bb,hbb,hdb⟩:=S4 (l:=s.base) (i:=i) oM;have hz:(s.progs.zip s.base).drop i=(p,bb)::(s.progs.zip s.base).drop (i+1):=by
  rw[eO,hdp,hdb,List.zip_cons_cons,eO]
 rw[hz,cn]at fu;have hn2:=hFr.stay.next;obtain⟨z1,z2⟩:=hsz p (List.mem_of_getElem? hp);obtain⟨v,h3,H3,hc,hge,rfl,K3,F3⟩:=XK Hs lo K pm pb s ev fi ne bs F H2 hK oM (by rw[hbl];exact hw) (by rw[hbl];exact hfi) (by rw[hbl];exact hne) hat i p bb hp hbb z1 z2;have hl3:(gV s ev fi ne p bb bs).length=n:=by rw[gV,ph];simp [hbl]
 have hnl:=hw.l0;refine J7 f9 f22 f23 b hc hge @wrap_small ?_;exact i6 (kk-1) oM ⟨i+1,gV s ev fi ne p bb bs,oM,oM,f5,f8,f9,f22,rfl,hl3,K3,hFr.trans F3,fu⟩
abbrev z20:LV:=[nS,nS,nS,iV 0,iV 0,iV 0,nS,nS,iV 0,.string eB,.string eB,nS,.string eB,.bool false,.bool false,.string eB,.bool false,.bool false,.string eB,nS]
theorem nu(Hs:d9)(lo K:Nat)(s:StD)(ev:EvD)(fi ne:SoD)(F:Nat→Prop)(H:d9)(rs re:LV)(hs:StF H F (QR Hs lo K false) (QR Hs lo K true) rs s)(he:EvF H F re ev)(hF:∀j,F j→j<H.next) (heq:∀j,j<lo→H.get j=Hs.get j) (hlo:lo≤H.next) (n:Nat) (hn:(n:Int)=y9 s.progs) (hw:WfS s n) (hfi:fm fi n) (hne:fm ne n)
  (hat:ev.attrs.length≤1000000) (hsz:∀p∈s.progs,p.ts.length≤1000000∧p.ed.length≤1000000∧0≤p.st∧p.st≤1000000):
  CL prog t6 41 [.agg rs.toArray,.agg re.toArray,.agg (soE fi).toArray,.agg (soE ne).toArray] H=some (.agg (soE (Y8 s ev fi ne)).toArray,none):=by
 obtain⟨pa,pc,ga,gc,xa,xc,ea,ec,ta,tc,hrs,_⟩:=N3 hs;obtain⟨av,hre,hav⟩:=id he;obtain⟨ava,avc,rfl⟩:=hav.slice;have as1:rs.all Value.oneCell'=true:=by rw[hrs];rfl
 have ae:re.all Value.oneCell'=true:=by rw[hre];rfl
 have ls:rs.length=8:=by rw[hrs];rfl
 have le:re.length=5:=by rw[hre];rfl
 have lds:ldC (some true) (some 8) 0 rs=some (.agg rs.toArray):=by rw[hrs];rfl
 have lde:ldC (some true) (some 5) 0 re=some (.agg re.toArray):=by rw[hre];rfl
 have re0:re[0]?=some (.int .i64 ev.kind):=by rw[hre];rfl
 have rs1:rs[1]?=some (.slice ga s.progs.length gc):=by rw[hrs];rfl
 have hnn:=hw.nle;have hl0:=hw.l0;have hl1:=hw.l1;obtain⟨f1,f2,f3⟩:=fi;obtain⟨g1,g2,g3⟩:=ne;obtain⟨fe,hfe⟩:∃r,r=soE (f1,f2,f3):=⟨_,rfl⟩
 obtain⟨ge,hge⟩:∃r,r=soE (g1,g2,g3):=⟨_,rfl⟩
 rw[←hfe,←hge];have af:fe.all Value.oneCell'=true:=by rw[hfe];rfl
 have ag:ge.all Value.oneCell'=true:=by rw[hge];rfl
 have lf:fe.length=3:=by rw[hfe];rfl
 have lg:ge.length=3:=by rw[hge];rfl
 have ldf:ldC (some true) (some 3) 0 fe=some (.agg fe.toArray):=by rw[hfe];rfl
 have ldg:ldC (some true) (some 3) 0 ge=some (.agg ge.toArray):=by rw[hge];rfl
 obtain⟨z3,hz3⟩:∃z:LV,z=[.bool false,.bool false,.string eB]:=⟨_,rfl⟩
 obtain⟨H1,hH1⟩:∃K,K=((((d9.push ⟨H.bs,H.next⟩ (.cells rs true 1)).push (.cells re true 1)).push (.cells fe true 1)).push (.cells ge true 1)).push (.cells z3 true 1):=⟨_,rfl⟩
 have n0:(d9.push ⟨H.bs,H.next⟩ (.cells rs true 1)).next=H.next+1:=by rw[i5];rfl
 have n1:H1.next=H.next+5:=by rw[hH1,i5,i5,i5,i5,n0]
 have s1:i4 H.next H H1:=by rw[hH1];exact((((i4.first H _).trans (i4.push oM)).trans (i4.push (by rw[i5];omega))).trans (i4.push (by rw[i5,i5];omega))).trans (i4.push (by rw[i5,i5,i5];omega))
 have ga1:H1.get H.next=cE rs 1:=by
  rw[hH1,j6 (by simp only[i5,n0];omega),j6 (by simp only[i5,n0];omega),j6 (by simp only[i5,n0];omega),j6 oM];exact i7
 have ga2:H1.get (H.next+1)=cE re 1:=by
  rw[hH1,j6 (by simp only[i5,n0];omega),j6 (by simp only[i5,n0];omega),j6 (by simp only[i5,n0];omega)];exact y7 oM
 have ga3:H1.get (H.next+2)=cE fe 1:=by
  rw[hH1,j6 (by simp only[i5,n0];omega),j6 (by simp only[i5,n0];omega)];exact y7 (by simp only[i5,n0];omega)
 have ga4:H1.get (H.next+3)=cE ge 1:=by
  rw[hH1,j6 (by simp only[i5,n0];omega)];exact y7 (by simp only[i5,n0];omega)
 have ga5:H1.get (H.next+4)=cE z3 1:=by
  rw[hH1];exact y7 (by simp only[i5,n0];omega)
 have hlow:H.next≤H1.low:=by rw[hH1];simp only[t5];exact lR
 have hg1:∀j,F j→H1.get j=H.get j:=fun j hj=>s1.get j (hF j hj);have h71:=XJ H1 F _ _ rs s (fun j hj=>by have:=hF j hj;omega) (hs.mono hg1 (fun _ h=>h) iF iF) oM (fun p hp=>⟨(hsz p hp).2.2.1,(hsz p hp).2.2.2⟩);rw[←hn]at h71;obtain⟨H2,hH2⟩:∃K,K=H1.push (.cells ((List.replicate n false).map cX) true 1):=⟨_,rfl⟩
 have n2:H2.next=H.next+6:=by rw[hH2,i5,n1]
 have s12:i4 H1.next H1 H2:=by rw[hH2];exact i4.push lR
 have hmk:V3 prog H1 81 (.int .i64 n) (.int .i64 n)=some (.slice (some ⟨H1.next,0,none⟩) n (n+1),H2):=by
  have e1:(List.replicate n [Value.int .u8 0]).flatten=(List.replicate n false).map cX:=by
   rw[List.flatten_replicate_singleton,List.map_replicate];rfl
  simp only[V3,yP.2.2.2.2.2.1,ty5.2.2.1,ty5.2.1,Int.toNat_natCast,e1];rw[if_pos ⟨by decide,oM,Int.le_refl _,oM,oM⟩,hH2];rfl
 have gb1:=(s12.get _ oM).trans ga1;have gb2:=(s12.get _ oM).trans ga2;have gb3:=(s12.get _ oM).trans ga3;have gb4:=(s12.get _ oM).trans ga4;obtain⟨row,hrow⟩:∃r,r=rs++(re++(fe++(ge++[.slice (some ⟨H1.next,0,none⟩) n (n+1)]))):=⟨_,rfl⟩
 obtain⟨rA,hA⟩:∃r,r=splice z20 0 rs:=⟨_,rfl⟩
 obtain⟨rB,hB⟩:∃r,r=splice rA 8 re:=⟨_,rfl⟩
 obtain⟨rC,hC⟩:∃r,r=splice rB 13 fe:=⟨_,rfl⟩
 obtain⟨rD,hD⟩:∃r,r=splice rC 16 ge:=⟨_,rfl⟩
 have lA:rA.length=20:=by rw[hA,D9];rfl
 have lB:rB.length=20:=by rw[hB,D9];exact lA
 have lC:rC.length=20:=by rw[hC,D9];exact lB
 have lD:rD.length=20:=by rw[hD,D9];exact lC
 have eE:rD.set 19 (.slice (some ⟨H1.next,0,none⟩) n (n+1))=row:=by rw[hD,hC,hB,hA,hrow,hrs,hre,hfe,hge];rfl
 have arow:row.all Value.oneCell'=true:=by rw[hrow];simp only[List.all_append,as1,ae,af,ag];rfl
 obtain⟨H3,hH3⟩:∃K,K=H2.push (.cells row true 1):=⟨_,rfl⟩
 have n3:H3.next=H.next+7:=by rw[hH3,i5,n2]
 have s13:i4 H1.next H1 H3:=by rw[hH3];exact s12.trans (i4.push oM)
 have s03:i4 H.next H H3:=s1.trans (s13.weaken oM);have gr3:H3.get H2.next=cE row 1:=by rw[hH3];exact i7
 have gb:H3.get H1.next=some (.cells ((List.replicate n false).map cX) true 1):=by rw[hH3,j6 oM,hH2];exact i7
 have hg3:∀j,F j→H3.get j=H.get j:=fun j hj=>s03.get j (hF j hj);have K3:N6 Hs lo K H2.next H1.next s ev (f1,f2,f3) (g1,g2,g3) (List.replicate n false) F H3:=⟨⟨rs,re,n+1,by rw[←hfe,←hge,List.length_replicate,←hrow];exact gr3,hs.mono hg3 (fun _ h=>h) iF iF,w9 _ _ _ _ _ _ he hg3 (fun _ h=>h)⟩,gb,fun j hj=>by have:=hF j hj;omega,fun j hj=>by rw[s03.get j oM];exact heq j hj,oM,oM⟩
 have gc1:=(s13.get _ oM).trans ga1;have hnt:(y9 s.progs).toNat=n:=oM;rw[j8 ab8 rfl _ (by simp),Y8,hnt];refine J30 as1 ae af ag ls le lf lg hz3.symm hH1.symm ga1 ga2 ga3 ga4 lds lde ldf ldg h71 hmk gb1 gb2 gb3 (And.intro gb4 hA.symm) (And.intro lA hB.symm) (And.intro lB hC.symm) (And.intro lC hD.symm) (And.intro lD eE) (And.intro arow hH3.symm) (And.intro gc1 rs1) ?_;refine l9 (F:=fun z=>u5 _ _ _ (u7 (inBlock 0 z) _)=_) (yB Hs lo K H2.next H1.next s ev (f1,f2,f3) (g1,g2,g3) F H3 n hw oM hfi hne hat (fun p hp=>⟨(hsz p hp).1,(hsz p hp).2.1⟩) (cn s ev (f1,f2,f3) (g1,g2,g3) (s.progs.zip s.base) (List.replicate n false)) (.pointer (some ⟨H.next+1,0,none⟩)) (.pointer (some ⟨H.next+4,0,none⟩)) s.progs.length _ _ ⟨0,List.replicate n false,rfl,oM,rfl,rfl,rfl,rfl,rfl,List.length_replicate ..,K3,Fr1.refl _ _,rfl⟩) ?_;rintro o e' H4 ⟨ho,k5,k8,k9,hrl,K4,F34⟩;obtain⟨bz,hbz⟩:∃b,b=cn s ev (f1,f2,f3) (g1,g2,g3) (s.progs.zip s.base) (List.replicate n false):=⟨_,rfl⟩
 rw[←hbz]at hrl K4 ⊢;have n4:=F34.stay.next;obtain⟨rs4,re4,bc4,row4,g4,hrow4,lrow4,_,_,_,_,_,_,r194,_,_⟩:=K4.row;have hcv:=wS H4 H1.next bz bc4 K4.bits;have gd2:H4.get (H.next+1)=cE re 1:=(F34.but _ oM oM).trans ((s13.get _ oM).trans ga2);have gd5:H4.get (H.next+4)=cE z3 1:=(F34.but _ oM oM).trans ((s13.get _ oM).trans ga5);have sp3:splice z3 0 [.bool true,.bool (decide (ev.kind=2)),.string (rU bz)]=[.bool true,.bool (decide (ev.kind=2)),.string (rU bz)]:=by rw[hz3];rfl
 have lz3:z3.length=3:=by rw[hz3];rfl
 obtain⟨H5,hH5⟩:∃K,K=H4.put (H.next+4) (.cells [.bool true,.bool (decide (ev.kind=2)),.string (rU bz)] true 1):=⟨_,rfl⟩
 have g5:H5.get (H.next+4)=cE [.bool true,.bool (decide (ev.kind=2)),.string (rU bz)] 1:=by rw[hH5];exact i8 oM
 have hl5:H.next≤H5.low:=by
  rw[hH5,A4];have a:=(s13.weaken (show H.next≤H1.next from oM)).low hlow;have b:=(F34.stay.weaken (show H.next≤H1.next from oM)).low a;omega
 clear ga1 ga2 ga3 ga4 ga5 gb1 gb2 gb3 gb4 hA hB hC hD lA lB lC lD eE hmk hH1 hH2 hH3;exact J15 ho k5 k8 k9 gd2 re0 g4 r194 hcv gd5 lz3 sp3 hH5.symm g5 @bW trivial
abbrev Fk:ByteArray:=⟨#[48,49,50,51,52,53,54,55,56,57,97,98,99,100,101,102,103,104,105,106,107,108,109,110,111,112,113,114,115,116,117,118,119,120,121,122]⟩
abbrev Fl:ByteArray:=⟨#[48,48,48,49,48,50,48,51,48,52,48,53,48,54,48,55,48,56,48,57,49,48,49,49,49,50,49,51,49,52,49,53,49,54,49,55,49,56,49,57,50,48,50,49,50,50,50,51,50,52,50,53,50,54,50,55,50,56,50,57,51,48,51,49,51,50,51,51,51,52,51,53,51,54,51,55,51,56,51,57,52,48,52,49,52,50,52,51,52,52,52,53,52,54,52,55,52,56,52,57,53,48,53,49,53,50,53,51,53,52,53,53,53,54,53,55,53,56,53,57,54,48,54,49,54,50,54,51,54,52,54,53,54,54,54,55,54,56,54,57,55,48,55,49,55,50,55,51,55,52,55,53,55,54,55,55,55,56,55,57,56,48,56,49,56,50,56,51,56,52,56,53,56,54,56,55,56,56,56,57,57,48,57,49,57,50,57,51,57,52,57,53,57,54,57,55,57,56,57,57]⟩
theorem vU:((List.range 10).all fun n=>decide ((Fk.extract n (n+1)).data.toList=(dg1 n).data.toList))=true∧((List.range 100).all fun n=>decide ((Fl.extract (n*2) (n*2+2)).data.toList=(dg1 (n / 10)).data.toList++(dg1 (n % 10)).data.toList))=true:=⟨kR,kR⟩
theorem oF{a b:ByteArray}(h:a.data.toList=b.data.toList):a=b:=by
 obtain⟨a⟩:=a;obtain⟨b⟩:=b
 congr 1
 exact Array.toList_inj.1 h
theorem Fm(n:Nat)(h:n<10):Fk.extract n (n+1)=dg n:=by
 have:=List.all_eq_true.1 vU.1 n (List.mem_range.2 h);rw[dg,dif_pos h];exact oF (dT this)
theorem Fo(n:Nat)(h0:10≤n)(h:n<100):Fl.extract (n*2) (n*2+2)=dg n:=by
 have:=List.all_eq_true.1 vU.2 n (List.mem_range.2 h);rw[dg,dif_neg oM,dg,dif_pos oM,dg,dif_pos oM];refine oF ((dT this).trans ?_);rw[aX]
theorem NI(n:Nat)(h:n<100)(H:d9):CL prog t6 149 [iV n] H=some (.string (dg n),none):=by
 have e1:n<10→∀H,Y7 prog H 9 (.string Fk) (some (.int .i64 n)) (some (.int .i64 ((n:Int)+1))) none=some (.string (dg n)):=fun h10 H=>by
  have p1:(0:Int)≤n:=oM;have p2:(0:Int)≤(n:Int)+1:=oM;have p3:((n:Int)+1).toNat=n+1:=oM;have p4:n≤n+1∧n+1≤Fk.size:=⟨oM,by show n+1≤36;omega⟩
  simp only[Y7,ty9.2.2.2.2.2.2,bnd,if_pos p1,if_pos p2,Int.toNat_natCast,p3,if_pos p4,Fm n h10]
 have e2:10≤n→∀H,Y7 prog H 9 (.string Fl) (some (.int .i64 ((n:Int)*2))) (some (.int .i64 ((n:Int)*2+2))) none=some (.string (dg n)):=fun h10 H=>by
  have p1:(0:Int)≤(n:Int)*2:=oM;have p2:(0:Int)≤(n:Int)*2+2:=oM;have p3:((n:Int)*2).toNat=n*2:=oM;have p3':((n:Int)*2+2).toNat=n*2+2:=oM;have p4:n*2≤n*2+2∧n*2+2≤Fl.size:=⟨oM,by show n*2+2≤200;omega⟩
  simp only[Y7,ty9.2.2.2.2.2.2,bnd,if_pos p1,if_pos p2,p3,p3',if_pos p4,Fo n h10 h]
 rw[j8 Xh rfl _ (by simp)];rcases b:decide ((n:Int)<10)with _|_
 ·have hb:=dF b;have e2':=e2 oM;exact J3 b e2' @wrap_small trivial
 ·have hb:=dT b;have e1':=e1 oM;exact J3 b e1' @wrap_small trivial
theorem XL(n:Nat)(h:n<100)(H:d9):CL prog t6 81 [iV n] H=some (.string (dg n),none):=by
 have h149:=fun H=>NI n h H;have h129:∀H,CL prog t6 129 [iV n,iV 10] H=some (.string (dg n),none):=fun H=>by
  have b0:decide ((0:Int)≤n)=true:=decide_eq_true oM;have b1:decide ((n:Int)<100)=true:=decide_eq_true oM;rw[j8 WQ rfl _ (by simp)];exact J3 b0 b1 h149 trivial
 have h103:∀H,CL prog t6 103 [iV n] H=some (.string (dg n),none):=fun H=>by
  rw[j8 Wt rfl _ (by simp)];exact J1 h129 trivial
 rw[j8 ae5 rfl _ (by simp)];exact J1 h103 trivial
theorem no(l:List ByteArray)(s:ByteArray):(l.any fun y=>ci s y)=V0 l s:=by
 unfold V0;congr 1;funext y;exact decide_eq_decide.2 ⟨Eq.symm,Eq.symm⟩
def frN(l:List ByteArray)(stem:ByteArray):Nat:=bF (fun n=>V0 l (stem++dg n)) (l.length+1) 0
theorem AM(l:List ByteArray)(stem:ByteArray):V0 l (stem++dg (frN l stem))=false∧frN l stem<l.length+1:=by
 obtain⟨m,h1,h2⟩:=oW (fun n=>stem++dg n) (fun i j h=>oS (oE h)) l (fun n=>V0 l (stem++dg n)) (fun i h=>kI h);have:=bT (fun n=>V0 l (stem++dg n)) (l.length+1) 0 ⟨m,oM,oM,h2⟩;exact⟨this.1,by have:=this.2;rw[frN];omega⟩
def frS(l:List ByteArray)(stem:ByteArray)(ah:List ByteArray):ByteArray:=match ah.find? (fun s=> !V0 l s)with|some s=>s|none=>stem++dg (frN l stem)
theorem qJ(H0:d9)(lo:Nat)(hlo:lo≤H0.next)(v v1:Value)(l:List ByteArray)(hv:SlI H0 lo 1 (v8 stE) v l)(hn:l.length≤1000)(va:Option Addr)(ca:Nat)(ah:List ByteArray)(hw:SlI H0 H0.next 1 (v8 stE) (.slice va ah.length ca) ah)(hn2:ah.length≤1000):
  ∀kk e H2,(∃i:Nat,kk=ah.length-i∧i≤ah.length∧e.get 0=v∧e.get 1=v1∧e.get 11= .slice va ah.length ca∧e.get 12=iV ah.length∧e.get 13=iV i∧H2=H0∧(ah.drop i).find? (fun s=> !V0 l s)=ah.find? (fun s=> !V0 l s))→
  u9 (LE prog t6 (.loop FN) e H2) (fun o e H2=>H2=H0∧e.get 0=v∧e.get 1=v1∧((o= .exit 0∧ah.find? (fun s=> !V0 l s)=none)∨(o= .ret∧∃s,ah.find? (fun s=> !V0 l s)=some s∧e.get 6= .string s))):=by
 refine j7 _ _ ?_;rintro kk e H2 ⟨i,hk,hi,f0,f1,f11,f12,f13,hH,fu⟩;subst hH;rcases b:decide ((i:Int)<ah.length)with _|_
 ·have hb':=dF b;have:ah.drop i=[]:=dN oM;rw[this,List.find?_nil]at fu;refine J3 f12 f13 b ?_;exact l7 ⟨rfl,f0,f1,.inl ⟨rfl,fu.symm⟩⟩
 have hb':=dT b;obtain⟨y,nb,o,cs,own,el,hx,hd,rfl,hlt,hg,hle,hrow,hc,rfl⟩:=hw.row (i:=i) oM;have nt:(i:Int).toNat=i:=tN i;have c0:=hc 0 oM;rw[Nat.add_zero]at c0;have hh:=AV H2 lo v l y hlo hv oM;rw[no]at hh;rw[hd,List.find?_cons]at fu;rcases b2:V0 l y with _|_
 ·simp only[b2,Bool.not_false]at fu;rw[b2]at hh;refine J9 f0 f11 f12 f13 b hg nt c0 hh ?_;exact A6 ⟨rfl,f0,f1,.inr ⟨rfl,y,fu.symm,rfl⟩⟩
 ·simp only[b2,Bool.not_true]at fu;rw[b2]at hh;refine J10 f0 f11 f12 f13 b hg nt c0 hh @wrap_small ?_;exact i6 (kk-1) oM ⟨i+1,oM,oM,f0,f1,f11,f12,rfl,rfl,fu⟩
theorem tD(H0:d9)(lo:Nat)(hlo:lo≤H0.next)(v:Value)(l:List ByteArray)(stem:ByteArray)(hv:SlI H0 lo 1 (v8 stE) v l)(hn:l.length<99)(hs:stem.size≤1000):
  ∀kk e H2,(∃n:Nat,kk=frN l stem+1-n∧n≤frN l stem∧e.get 0=v∧e.get 1= .string stem∧e.get 9=iV n∧H2=H0)→
  u9 (LE prog t6 (.loop FO) e H2) (fun o e H2=>H2=H0∧o= .ret∧e.get 6= .string (stem++dg (frN l stem))):=by
 refine j7 _ _ ?_;rintro kk e H2 ⟨n,hk,hi,f0,f1,f9,hH⟩;subst hH;obtain⟨hf,hlt⟩:=AM l stem;have hat:=(aY (fun n=>V0 l (stem++dg n)) (l.length+1) 0).2;have hd:=fun H=>XL n oM H;have hdz:=jN n;have hs2:=W7 (P:=prog) 9 stem (dg n) oM;have hh:=AV H2 lo v l (stem++dg n) hlo hv oM;rw[no]at hh;by_cases hm:n=frN l stem
 ·rw[hm,hf,←hm]at hh;refine J6 f0 f1 f9 hd hs2 hh ?_;exact A6 ⟨rfl,rfl,by rw[←hm];rfl⟩
 ·have hq:V0 l (stem++dg n)=true:=hat n oM (by rw[frN]at hm hi;omega);rw[hq]at hh;refine J7 f0 f1 f9 hd hs2 hh @wrap_small ?_;exact i6 (kk-1) oM ⟨n+1,oM,oM,f0,f1,rfl,rfl⟩
theorem fresh(H:d9)(lo:Nat)(v w:Value)(l:List ByteArray)(stem:ByteArray)(ah:List ByteArray)(hlo:lo≤H.next)(hv:SlI H lo 1 (v8 stE) v l)(hw:SlI H H.next 1 (v8 stE) w ah)(hn:l.length<99)(hs:stem.size≤1000)(hn2:ah.length≤1000):
  CL prog t6 56 [v,.string stem,w] H=some (.string (frS l stem ah),none):=by
 obtain⟨va,ca,rfl⟩:=hw.slice;rw[j8 ac4 rfl _ (by simp)];refine J1 aH ?_;refine l9 (F:=fun z=>u5 _ _ _ (u7 (inBlock 0 z) _)=_) (qJ ⟨H.bs,H.next⟩ lo hlo v (.string stem) l (hv.mono (fun _ _=>rfl) lR iF) oM va ca ah (hw.mono (fun _ _=>rfl) lR iF) hn2 ah.length _ _ ⟨0,rfl,oM,rfl,rfl,rfl,rfl,rfl,rfl,rfl⟩) ?_;rintro o e' H' ⟨rfl,g0,g1,⟨ho,hq⟩|⟨ho,s,hq,g6⟩⟩
 ·refine J1 ho ?_;refine l9 (F:=fun z=>u5 _ _ _ (inBlock 2 z)=_) (tD ⟨H.bs,H.next⟩ lo hlo v l stem (hv.mono (fun _ _=>rfl) lR iF) hn hs (frN l stem+1) _ _ ⟨0,rfl,oM,g0,g1,rfl,rfl⟩) ?_;rintro o e2 H2 ⟨rfl,ho2,g6⟩;simp(maxSteps:=20000000) -dsimp (disch:=first|omega|(simp only[rH]<;>omega)|fail) only[↓ai3,rQ,D8,sevalprocAttr,tyA,ho2,g6,frS,hq]
 ·simp(maxSteps:=20000000) -dsimp (disch:=first|omega|(simp only[rH]<;>omega)|fail) only[↓ai3,rQ,D8,sevalprocAttr,tyA,ho,g6,frS,hq]
def aU(l:List (ByteArray×ByteArray)):List ByteArray:=(l.filter fun n=>decide (n.1=eB)).map (·.2)
abbrev z0S:ByteArray:=⟨#[122,48]⟩
theorem kH{l:List ByteArray}{s:ByteArray}:V0 l s=true↔s∈l:=⟨kI,fun h=>List.any_eq_true.2 ⟨s,h,decide_eq_true rfl⟩⟩
theorem W9{l:List (ByteArray×ByteArray)}{x:ByteArray×ByteArray}:P0 l x=true↔x∈l:=⟨nj,fun h=>List.any_eq_true.2 ⟨x,h,R2.2 rfl⟩⟩
theorem qY(l:List (ByteArray×ByteArray))(s:ByteArray):s∈aU l↔(eB,s)∈l:=by
 unfold aU;rw[List.mem_map]
 constructor
 ·rintro⟨⟨a,b⟩,h,rfl⟩;obtain⟨h1,h2⟩:=List.mem_filter.1 h;have:a=eB:=dT h2;subst this;exact h1
 ·intro h;exact⟨_,List.mem_filter.2 ⟨h,decide_eq_true rfl⟩,rfl⟩
theorem GM:zS++dg 0=z0S:=by rw[dg,dif_pos oM];decide
theorem ye(l:List (ByteArray×ByteArray)):frS (aU l++[z0S]) zS [zS]=zN (Q4 l):=by
 obtain⟨hf,_⟩:=vN l;have hat:=(aY (fun n=>P0 l (zNm n)) (l.length+1) 0).2;have e0:P0 l (zNm 0)=V0 (aU l++[z0S]) zS:=by
  rw[Bool.eq_iff_iff,W9,kH,List.mem_append,qY];exact⟨.inl,fun h=>h.resolve_right fun q=>by have:=List.mem_singleton.1 q;revert this;decide⟩
 have en:∀n,0<n→P0 l (zNm n)=V0 (aU l++[z0S]) (zS++dg n):=fun n h0=>by
  have hz:zNm n=(eB,zS++dg n):=by rw[zNm,zN,if_neg oM]
  rw[Bool.eq_iff_iff,W9,kH,List.mem_append,qY,hz];refine⟨.inl,fun h=>h.resolve_right fun q=>?_⟩;have q1:=List.mem_singleton.1 q;have q2:zS++dg n=zS++dg 0:=q1.trans GM.symm;have:=oS (oE q2);omega
 rcases b:V0 (aU l++[z0S]) zS with _|_
 ·have h0:Q4 l=0:=by
   rcases Nat.eq_zero_or_pos (Q4 l)with h|h
   ·exact h
   ·have:=hat 0 oM (by rw[Q4]at h;exact h);rw[e0,b]at this;cases this
  rw[frS,List.find?_cons,b,h0];rfl
 ·have h0:0<Q4 l:=by
   rcases Nat.eq_zero_or_pos (Q4 l)with h|h
   ·rw[h,e0,b]at hf;cases hf
   ·exact h
  obtain⟨hg,_⟩:=AM (aU l++[z0S]) zS;have hbt:=(aY (fun n=>V0 (aU l++[z0S]) (zS++dg n)) ((aU l++[z0S]).length+1) 0).2;have hm0:0<frN (aU l++[z0S]) zS:=by
   rcases Nat.eq_zero_or_pos (frN (aU l++[z0S]) zS)with h|h
   ·rw[h]at hg;have:V0 (aU l++[z0S]) (zS++dg 0)=true:=kH.2 (List.mem_append.2 (.inr (List.mem_singleton.2 GM)));rw[this]at hg;cases hg
   ·exact h
  have:frN (aU l++[z0S]) zS=Q4 l:=by
   rcases Nat.lt_trichotomy (frN (aU l++[z0S]) zS) (Q4 l)with h|h|h
   ·have:=hat _ oM (by rw[Q4]at h;exact h);rw[en _ hm0,hg]at this;cases this
   ·exact h
   ·have:=hbt _ oM (by rw[frN]at h;exact h);rw[←en _ h0,hf]at this;cases this
  rw[frS,List.find?_cons,b];simp only[Bool.not_true,List.find?_nil,this];rw[zN,if_neg oM]
theorem xL(x:ByteArray×ByteArray)(l:List (ByteArray×ByteArray)):aU (x::l)=if decide (x.1=eB)=true then x.2::aU l else aU l:=by
 unfold aU;rw[List.filter_cons];split<;>rfl
theorem Bl(l:List (ByteArray×ByteArray)):(aU l).length≤l.length:=by
 unfold aU;rw[List.length_map];exact List.length_filter_le _ _
theorem BG(H1:d9)(lo p2:Nat)(hlo:lo≤p2)(hp2:p2<H1.next)(va:Option Addr)(ca:Nat)(l:List (ByteArray×ByteArray))(hv:SlI H1 lo 2 (v8 nmE) (.slice va l.length ca) l)(hn:l.length≤1000)(v2:Value)(r:List ByteArray):
  ∀kk e H2,(∃(i:Nat)(acc:List ByteArray)(w:Value),kk=l.length-i∧i≤l.length∧acc.length≤i∧e.get 2=v2∧e.get 3=w∧e.get 6= .slice va l.length ca∧e.get 7=iV l.length∧e.get 8=iV i∧t7 H2 (p2+1) 1 (v8 stE) w acc∧i4 (p2+1) H1 H2∧acc++aU (l.drop i)=r)→
  u9 (LE prog t6 (.loop FP) e H2) (fun o e H2=>o= .exit 0∧e.get 2=v2∧∃w,e.get 3=w∧t7 H2 (p2+1) 1 (v8 stE) w r∧i4 (p2+1) H1 H2):=by
 refine j7 _ _ ?_;rintro kk e H2 ⟨i,acc,w,hk,hi,hal,f2,f3,f6,f7,f8,hO,hS,fu⟩;have hn2:=hS.next;rcases bb:decide ((i:Int)<l.length)with _|_
 ·have hb':=dF bb;have:l.drop i=[]:=dN oM;rw[this]at fu;refine J3 f7 f8 bb ?_;exact l7 ⟨rfl,f2,w,f3,by rw[←fu];simpa [aU] using hO,hS⟩
 have hb':=dT bb;obtain⟨x,nb,o,cs,own,el,hx,hd,rfl,hlt,hg,hle,hrow,hc,rfl⟩:=hv.row (i:=i) oM;have nt:(i:Int).toNat=i:=tN i;have hg2:=(hS.get nb oM).trans hg;obtain⟨Ha,hHa,-,hga⟩:=pushE H2 (.cells [.string eB,.string eB] true 1);obtain⟨H3,hH3⟩:∃K,K=Ha.put H2.next (.cells (nmE x) true 1):=⟨_,rfl⟩
 have hna:Ha.next=H2.next+1:=by rw[hHa,i5]
 have hn3:H3.next=H2.next+1:=by rw[hH3,j5,hna]
 have hS3:i4 H2.next H2 H3:=by rw[hH3,hHa];exact(i4.push lR).trans (i4.put lR)
 have hg3:H3.get H2.next=cE (nmE x) 1:=by rw[hH3];exact i8 oM
 have hga3:H3.get nb=some (.cells cs own 2):=(hS3.get nb oM).trans hg2;have hgan:Ha.get nb=some (.cells cs own 2):=by rw[hHa,j6 oM];exact hg2
 rw[hd,xL]at fu;rcases b1:decide (x.1=eB)with _|_
 ·rw[b1,if_neg (by decide)]at fu;refine J13 f6 f7 f8 bb hHa.symm hga hg2 nt hrow hH3.symm hg3 b1 @wrap_small ?_;exact i6 (kk-1) oM ⟨i+1,acc,w,oM,oM,oM,f2,f3,f6,f7,rfl,hO.keep hS3,hS.trans (hS3.weaken oM),fu⟩
 ·rw[b1,if_pos rfl]at fu;obtain⟨v',h',H4,ha,hge',hO4,hS4⟩:=(hO.keep hS3).push1 (P:=prog) (t:=97) (by exact aH.2.2.2.2.2.2) ty9.1 ty9.2.1 ty9.2.2.1 oM oM (cs:=[.string x.2]) (a:=x.2) rfl rfl oM oM;refine J16 f3 f6 f7 f8 bb hHa.symm hga hg2 nt hrow hH3.symm hg3 b1 ha hge' @wrap_small ?_;exact i6 (kk-1) oM ⟨i+1,acc++[x.2],v',oM,oM,by simp;omega,f2,rfl,f6,f7,rfl,hO4,(hS.trans (hS3.weaken oM)).trans hS4,by rw[←fu];simp⟩
theorem EN(H:d9)(lo:Nat)(v:Value)(l:List (ByteArray×ByteArray))(hlo:lo≤H.next)(hv:SlI H lo 2 (v8 nmE) v l)(hn:l.length≤90):CL prog t6 57 [v] H=some (.agg (nmE (zNm (Q4 l))).toArray,none):=by
 obtain⟨va,ca,rfl⟩:=hv.slice;obtain⟨H1,hH1⟩:∃H1,H1=d9.push ⟨H.bs,H.next⟩ (.cells [.string eB,.string eB] true 1):=⟨_,rfl⟩
 have hS:i4 H.next H H1:=by rw[hH1];exact i4.first H _
 have hg:H1.get H.next=cE [.string eB,.string eB] 1:=by rw[hH1];exact i7
 have hlow:H.next≤H1.low:=by rw[hH1,t5];exact lR
 rw[j8 ac5 rfl _ (by simp)];refine J1 hH1.symm ?_;refine l9 (F:=fun z=>u5 _ _ _ (u7 (inBlock 0 z) _)=_) (BG H1 lo H.next hlo (u6 hg) va ca l (hv.mono (fun j hj=>hS.get j oM) lR iF) oM _ (aU l) l.length _ _ ⟨0,[],_,rfl,oM,by simp,rfl,rfl,rfl,rfl,rfl,t7.nil,i4.refl _ _,rfl⟩) ?_;rintro o e' H2 ⟨ho,h2,w,h3,hO,hS2⟩;have hn2:=hS2.next;have hgl:=u6 hg;have hll:=Bl l;have hg2:=(hS2.get H.next oM).trans hg;obtain⟨v',h',H4,ha,hge',hO4,hS4⟩:=hO.push1 (P:=prog) (t:=97) (by exact aH.2.2.2.2.2.2) ty9.1 ty9.2.1 ty9.2.2.1 oM oM (cs:=[.string z0S]) (a:=z0S) rfl rfl oM oM;have hn4:=hS4.next;obtain⟨H5,hH5⟩:∃K,K=H4.push (.cells [.string zS] true 1):=⟨_,rfl⟩
 have hS5:i4 H4.next H4 H5:=by rw[hH5];exact i4.push lR
 have hn5:=hS5.next;have hO5:t7 H5 H4.next 1 (v8 stE) (.slice (some ⟨H4.next,0,none⟩) 1 1) [zS]:=by rw[hH5];exact t7.fresh rfl lR (D2.one rfl rfl)
 have hf:=fresh H5 H4.next v' (.slice (some ⟨H4.next,0,none⟩) 1 1) (aU l++[z0S]) zS [zS] oM (hO4.sl.mono (fun j hj=>hS5.get j hj) lR iF) hO5.sl (by simp;omega) (by decide) (by decide);rw[ye]at hf;have hg5:H5.get H.next=_:=(hS5.get H.next oM).trans ((hS4.get H.next oM).trans hg2);have hz:(⟨#[122]⟩:ByteArray)=zS:=rfl;have hr4:ldC (some true) (some 2) 0 (nmE (zNm (Q4 l)))=some (.agg (nmE (zNm (Q4 l))).toArray):=rfl;have hlw:H.next≤H5.low:=((((hS2.weaken oM).trans (hS4.weaken oM)).trans (hS5.weaken oM)):i4 H.next H1 H5).low hlow;refine J9 ho h2 h3 ha hge' hz hH5.symm hf hg5 ?_;rfl
def oO:List (List ByteArray)→Int→Int
 |[],n=>n
 |v::l,n=>oO l (min (n*(v.length+2)) 25)
def kn(s:SpD):Int:=oO s.vals (s.names.length+1)+s.texts.length+1
theorem Eu(a b:Int):(if b<a then b else a)=min a b:=by split<;>omega
theorem zJ(H1:d9)(l:List (List ByteArray))(va:Option Addr)(ca:Nat)(hv:SlI H1 H1.next 1 (VlF H1 (· <H1.next)) (.slice va l.length ca) l)(hn:l.length≤100000)(hl:∀x∈l,x.length≤100000) (v1:Value) (r:Int):
  ∀kk e H2,(∃(i:Nat)(n:Int),kk=l.length-i∧i≤l.length∧0≤n∧n≤1000001∧e.get 1=v1∧e.get 3=iV n∧e.get 11= .slice va l.length ca∧e.get 12=iV l.length∧e.get 13=iV i∧H2=H1∧oO (l.drop i) n=r)→
  u9 (LE prog t6 (.loop FL) e H2) (fun o e H2=>o= .exit 0∧e.get 1=v1∧e.get 3=iV r∧H2=H1∧0≤r∧r≤1000001):=by
 refine j7 _ _ ?_;rintro kk e H2 ⟨i,n,hk,hi,hn0,hn1,f1,f3,f11,f12,f13,rfl,fu⟩;rcases bb:decide ((i:Int)<l.length)with _|_
 ·have hb':=dF bb;have:l.drop i=[]:=dN oM;rw[this]at fu;refine J3 f12 f13 bb ?_;exact l7 ⟨rfl,f1,by rw[←fu];exact f3,rfl,by rw[←fu];exact hn0,by rw[←fu];exact hn1⟩
 have hb':=dT bb;obtain⟨x,nb,o,cs,own,el,hx,hd,rfl,hlt,hg,hle,hrow,hc,w,rfl,hw⟩:=hv.row (i:=i) oM;have nt:(i:Int).toNat=i:=tN i;have c0:=hc 0 oM;rw[Nat.add_zero]at c0;obtain⟨wa,wc,rfl⟩:=hw.slice;have hxl:=hl x (List.mem_of_getElem? hx);rw[hd,oO]at fu;have p0:0≤n*((x.length:Int)+2):=Int.mul_nonneg hn0 oM;have p1:n*((x.length:Int)+2)≤1000001*((x.length:Int)+2):=Int.mul_le_mul_of_nonneg_right hn1 oM;have hm:∀Hx,D3 prog .min [3,3] [iV (n*((x.length:Int)+2)),iV 25] Hx=some (.int .i64 (min (n*((x.length:Int)+2)) 25),none):=fun Hx=>by
  rw[←Eu];simp [D3,fN]
 refine J10 f3 f11 f12 f13 bb hg nt c0 hm @wrap_small ?_;exact i6 (kk-1) oM ⟨i+1,min (n*((x.length:Int)+2)) 25,oM,oM,oM,oM,f1,rfl,f11,f12,rfl,rfl,fu⟩
theorem Da(H:d9)(lo:Nat)(cs:LV)(s:SpD)(hlo:lo≤H.next)(hs:SpR H lo cs s)(h1:s.names.length≤100000)(h2:s.vals.length≤100000)(h3:∀x∈s.vals,x.length≤100000) (h4:s.texts.length≤100000):CL prog t6 53 [.agg cs.toArray] H=some (.int .i64 (kn s),none):=by
 obtain⟨w1,w2,w3,w4,rfl,q1,q2,q3,q4⟩:=hs;obtain⟨a1,b1,rfl⟩:=q1.slice;obtain⟨a2,b2,rfl⟩:=q2.slice;obtain⟨a3,b3,rfl⟩:=q3.slice;obtain⟨a4,b4,rfl⟩:=q4.slice;obtain⟨H1,hH1⟩:∃H1,H1=d9.push ⟨H.bs,H.next⟩ (.cells [.slice a1 s.names.length b1,.slice a2 s.attrs.length b2,.slice a3 s.vals.length b3,.slice a4 s.texts.length b4] true 1):=⟨_,rfl⟩
 have hS:i4 H.next H H1:=by rw[hH1];exact i4.first H _
 have hg:H1.get H.next=cE [.slice a1 s.names.length b1,.slice a2 s.attrs.length b2,.slice a3 s.vals.length b3,.slice a4 s.texts.length b4] 1:=by rw[hH1];exact i7
 have hlow:H.next≤H1.low:=by rw[hH1,t5];exact lR
 have hn1:=hS.next;have gg:∀j,j<lo→H1.get j=H.get j:=fun j hj=>hS.get j oM;rw[j8 ac2 rfl _ (by simp)];refine J3 hH1.symm hg @wrap_small ?_;refine l9 (F:=fun z=>u5 _ _ _ (u7 (inBlock 0 z) _)=_) (zJ H1 s.vals a3 b3 (q3.mono gg oM fun _ _ h=>h.mono gg (fun _ hj=>oM)) h2 h3 _ (oO s.vals (s.names.length+1)) s.vals.length _ _ ⟨0,s.names.length+1,rfl,oM,oM,oM,rfl,rfl,rfl,rfl,rfl,rfl,rfl⟩) ?_;rintro o e' H2 ⟨ho,g1,g3,rfl,r0,r1⟩;simp(maxSteps:=20000000) -dsimp (disch:=first|omega|(simp only[rH]<;>omega)|fail) only[↓ai3,rQ,D8,sevalprocAttr,tyA,ho,g1,g3,hg,wrap_small,kn]
theorem lV{α:Type}{P:List α→Prop}(h0:P [])(hs:∀l x,P l→P (l++[x])) (l:List α):P l:=by
 have:∀l:List α,P l.reverse:=by
  intro l;induction l with
  |nil=>exact h0
  |cons x l ih=>rw[List.reverse_cons];exact hs _ _ ih
 have h:=this l.reverse
 rwa [List.reverse_reverse]at h
def V9(l:List (ByteArray×ByteArray))(x:ByteArray×ByteArray):List (ByteArray×ByteArray):=if P0 l x then l else l++[x]
def bu(l:List ByteArray)(x:ByteArray):List ByteArray:=if V0 l x then l else l++[x]
def F6(s:SpD)(n:ByteArray×ByteArray):SpD:=if P0 s.attrs n then s else{s with attrs:=s.attrs++[n],vals:=s.vals++[[]]}
def ixN(l:List (ByteArray×ByteArray))(n:ByteArray×ByteArray):Nat:=(ixG (fun y=>Q3 n y) l 0).toNat
def I9(s:SpD)(q:Q):SpD:=
 if q.op=4 then{s with names:=V9 s.names (qNm q)}
 else if q.op=5 then F6 s (qNm q)
 else if q.op=6 then{F6 s (qNm q)with vals:=(F6 s (qNm q)).vals.set (ixN (F6 s (qNm q)).attrs (qNm q)) (bu ((F6 s (qNm q)).vals.getD (ixN (F6 s (qNm q)).attrs (qNm q)) []) q.vl)}
 else if q.op=7 then{s with texts:=bu s.texts q.vl} else s
def spL(l:List Q):SpD:=⟨S9 4 4 l,S9 5 6 l,(S9 5 6 l).map fun n=>S7 6 n l,S7 7 (eB,eB) l⟩
theorem X2(a b:Int)(l:List Q)(x:Q):S9 a b (l++[x])=if bI a b x then V9 (S9 a b l) (qNm x) else S9 a b l:=by
 unfold S9 py;rw[List.foldl_append,List.foldl_cons,List.foldl_nil];unfold V9 P0;cases bI a b x with
 |false=>rfl
 |true=>
  simp only[Bool.true_and,if_true];generalize List.foldl _ _ l=acc;cases acc.any fun y=>Q3 y (qNm x)<;>rfl
theorem bq(a:Int)(n:ByteArray×ByteArray)(l:List Q)(x:Q):S7 a n (l++[x])=if dv a n x then bu (S7 a n l) x.vl else S7 a n l:=by
 unfold S7 py;rw[List.foldl_append,List.foldl_cons,List.foldl_nil];unfold bu V0;cases dv a n x with
 |false=>rfl
 |true=>
  simp only[Bool.true_and,if_true];generalize List.foldl _ _ l=acc;cases acc.any fun y=>ci y x.vl<;>rfl
theorem ue(a b:Int):∀l,(S9 a b l).Nodup:=by
 refine lV List.nodup_nil fun l x ih=>?_;rw[X2];split
 ·unfold V9;split
  ·exact ih
  ·rename_i h;rw[List.nodup_append];refine⟨ih,by simp,fun y hy z hz q=>?_⟩;rw[List.mem_singleton.1 hz]at q;exact h (W9.2 (q▸hy))
 ·exact ih
theorem yS(n:ByteArray×ByteArray):∀l,n∉S9 5 6 l→S7 6 n l=[]:=by
 refine lV (fun _=>rfl) fun l x ih h=>?_;have mono:n∈S9 5 6 l→n∈S9 5 6 (l++[x]):=fun h=>by
  rw[X2];split
  ·unfold V9;split
   ·exact h
   ·exact List.mem_append.2 (.inl h)
  ·exact h
 rw[bq,ih (fun q=>h (mono q))];split
 ·rename_i hp
  exfalso;apply h
  simp only[dv,Bool.and_eq_true,decide_eq_true_eq]at hp;have hn:qNm x=n:=Prod.ext_iff.2 hp.2;have hp2:bI 5 6 x=true:=by simp [bI,hp.1]
  rw[X2,hp2,if_pos rfl];unfold V9;split
  ·rename_i h1;rw[←hn];exact W9.1 h1
  ·rw[hn];exact List.mem_append.2 (.inr (List.mem_singleton.2 rfl))
 ·rfl
theorem vB:∀(l:List (ByteArray×ByteArray))(n:ByteArray×ByteArray)(k:Nat),n∈l→∃i:Nat,ixG (fun y=>Q3 n y) l k=((k+i:Nat):Int)∧l[i]?=some n∧i<l.length
 |[],n,k,h=>by cases h
 |y::l,n,k,h=>by
  rw[ixG];by_cases e:n=y
  ·rw[if_pos (R2.2 e)];exact⟨0,by simp,by rw[e];rfl,by simp⟩
  ·rw[if_neg (fun q=>e (R2.1 q))];obtain⟨i,h1,h2,h3⟩:=vB l n (k+1) (by simpa [e] using h);exact⟨i+1,by rw[h1];omega,by simpa using h2,by simp;omega⟩
theorem tQ(l:List (ByteArray×ByteArray))(n:ByteArray×ByteArray)(h:n∈l):l[ixN l n]?=some n∧ixN l n<l.length∧ixG (fun y=>Q3 n y) l 0=((ixN l n:Nat):Int):=by
 obtain⟨i,h1,h2,h3⟩:=vB l n 0 h;have:ixN l n=i:=by unfold ixN;rw[h1];omega
 rw[this];exact⟨h2,h3,by rw[h1];omega⟩
theorem Fe{α β:Type}[DecidableEq α](f g:α→β)(l:List α)(n:α)(i:Nat)(hi:l[i]?=some n)(hd:l.Nodup)(h:∀m,m≠n→g m=f m):(l.map f).set i (g n)=l.map g:=by
 apply List.ext_getElem?;intro j;rw[List.getElem?_set];by_cases hj:i=j
 ·subst hj;have hlt:i<l.length:=(List.getElem?_eq_some_iff.1 hi).1;rw[if_pos rfl,List.getElem?_map,hi,if_pos (by simpa using hlt)];rfl
 ·rw[if_neg hj,List.getElem?_map,List.getElem?_map];cases hm:l[j]? with
  |none=>rfl
  |some m=>
   have:m≠n:=fun q=>by
    subst q;obtain⟨h1,e1⟩:=List.getElem?_eq_some_iff.1 hi;obtain⟨h2,e2⟩:=List.getElem?_eq_some_iff.1 hm;rcases Nat.lt_trichotomy i j with h|h|h
    ·exact List.pairwise_iff_getElem.1 hd i j h1 h2 h (e1.trans e2.symm)
    ·exact hj h
    ·exact List.pairwise_iff_getElem.1 hd j i h2 h1 h (e2.trans e1.symm)
   simp only[Option.map_some,h m this]
theorem mT(l:List Q)(n:ByteArray×ByteArray):F6 (spL l) n={spL l with attrs:=V9 (S9 5 6 l) n,vals:=(V9 (S9 5 6 l) n).map fun n=>S7 6 n l}:=by
 unfold F6 V9;by_cases h:P0 (S9 5 6 l) n=true
 ·rw[if_pos h,if_pos (show P0 (spL l).attrs n=true from h)];rfl
 ·rw[if_neg h,if_neg (show¬P0 (spL l).attrs n=true from h)];have:S7 6 n l=[]:=yS n l (fun q=>h (W9.2 q));simp only[spL,List.map_append,List.map_cons,List.map_nil,this]
theorem Ch(l:List Q)(x:Q)(hx:x.op=7→qNm x=(eB,eB)):spL (l++[x])=I9 (spL l) x:=by
 have v6:∀n,x.op≠6→S7 6 n (l++[x])=S7 6 n l:=fun n h=>by rw[bq,if_neg (by simp [dv,h])]
 have v7:x.op≠7→S7 7 (eB,eB) (l++[x])=S7 7 (eB,eB) l:=fun h=>by rw[bq,if_neg (by simp [dv,h])]
 have n4:x.op≠4→S9 4 4 (l++[x])=S9 4 4 l:=fun h=>by rw[X2,if_neg (by simp [bI];omega)]
 have n5:x.op≠5→x.op≠6→S9 5 6 (l++[x])=S9 5 6 l:=fun h h2=>by rw[X2,if_neg (by simp [bI];omega)]
 unfold I9;by_cases h4:x.op=4
 ·have hp:bI 4 4 x=true:=by simp [bI,h4]
  rw[if_pos h4];simp only[spL,v6 _ oM,v7 oM,n5 oM oM,X2 4 4,hp,if_true]
 rw[if_neg h4];by_cases h5:x.op=5
 ·have hp:bI 5 6 x=true:=by simp [bI,h5]
  rw[if_pos h5,mT];simp only[spL,v6 _ oM,v7 oM,n4 h4,X2 5 6,hp,if_true]
 rw[if_neg h5];by_cases h6:x.op=6
 ·have hp:bI 5 6 x=true:=by simp [bI,h6]
  rw[if_pos h6,mT];obtain⟨A,hA⟩:∃A,A=V9 (S9 5 6 l) (qNm x):=⟨_,rfl⟩
  have hAn:S9 5 6 (l++[x])=A:=by rw[hA,X2,hp];rfl
  have hAd:A.Nodup:=by rw[←hAn];exact ue 5 6 _
  have hm:qNm x∈A:=by
   rw[hA];unfold V9;split
   ·rename_i h;exact W9.1 h
   ·exact List.mem_append.2 (.inr (List.mem_singleton.2 rfl))
  obtain⟨q1,q2,_⟩:=tQ A (qNm x) hm;rw[←hA];simp only;have hg:(A.map fun n=>S7 6 n l).getD (ixN A (qNm x)) []=S7 6 (qNm x) l:=by
   rw[List.getD_eq_getElem?_getD,List.getElem?_map,q1];rfl
  have hgn:bu (S7 6 (qNm x) l) x.vl=(fun n=>S7 6 n (l++[x])) (qNm x):=by
   simp only;rw[bq,if_pos (by simp [dv,h6])]
  rw[hg,hgn,Fe (fun n=>S7 6 n l) (fun n=>S7 6 n (l++[x])) A (qNm x) _ q1 hAd (fun m hm=>by
   rw[bq,if_neg];simp only[dv,Bool.and_eq_true,decide_eq_true_eq];exact fun q=>hm (Prod.ext_iff.2 q.2).symm)]
  simp only[spL,v7 oM,n4 h4,hAn]
 rw[if_neg h6];by_cases h7:x.op=7
 ·rw[if_pos h7];have hp:dv 7 (eB,eB) x=true:=by rw[dv,hx h7];simp [h7]
  simp only[spL,v6 _ h6,n4 h4,n5 h5 h6,bq 7,hp,if_true]
 ·rw[if_neg h7];simp only[spL,v6 _ h6,v7 h7,n4 h4,n5 h5 h6]
theorem Cg(l:List Q)(hl:∀x∈l,x.op=7→qNm x=(eB,eB)):l.foldl I9 ⟨[],[],[],[]⟩=spL l:=by
 have:∀l:List Q,(∀x∈l,x.op=7→qNm x=(eB,eB))→l.foldl I9 ⟨[],[],[],[]⟩=spL l:=by
  refine lV (fun _=>rfl) fun l x ih h=>?_;rw[List.foldl_append,ih (fun y hy=>h y (by simp [hy])),List.foldl_cons,List.foldl_nil,Ch _ _ (h x (by simp))]
 exact this l hl
theorem Mx:∀(n:Nat)(f:Bool)(q:Q),nQ q≤n→OkD f q→∀x∈fsQ f q,OkD true x:=by
 intro n;induction n with
 |zero=>intro f q hn;cases q;rw[nQ]at hn;omega
 |succ n ih=>
  intro f q hn h x hx;obtain⟨p1,p2,_⟩:=h.parts;have hq:nQ q=1+nL q.a+nL q.b:=by cases q;rw[nQ];rfl
  have mem:∀(l:List Q)(y:Q),y∈l→nQ y≤nL l:=by
   intro l;induction l with
   |nil=>intro y hy;cases hy
   |cons z l ihl=>
    intro y hy;rw[nL];rcases List.mem_cons.1 hy with rfl|hy
    ·omega
    ·have:=ihl y hy;omega
  rw[kE,List.mem_append,List.mem_append,fH,fH,List.mem_flatMap,List.mem_flatMap]at hx;rcases hx with hx|⟨y,hy,hx⟩|⟨y,hy,hx⟩
  ·cases f with
   |false=>cases hx
   |true=>rw[if_pos rfl]at hx;rw[List.mem_singleton.1 hx];exact h
  ·exact ih f y (by have:=mem _ _ hy;omega) (p1 y hy) x hx
  ·exact ih (!f) y (by have:=mem _ _ hy;omega) (p2 y hy) x hx
theorem uK(q:Q)(h:OkD false q):(fsQ false q).foldl I9 ⟨[],[],[],[]⟩=spQ q:=by
 rw[Cg _ fun x hx h7=>?_];rfl;obtain⟨_,_,_,hh,_⟩:=(Mx _ false q lR h x hx).parts;simp only[lE,if_true,Bool.and_eq_true]at hh;have:=hh.1.2;simp only[iM,Bool.and_eq_true,xy,h7]at this;have h1:=this.1;have:(decide (x.sp=eB)&&decide (x.lc=eB))=true:=by
  cases hb:(decide (x.sp=eB)&&decide (x.lc=eB))with
  |true=>rfl
  |false=>rw[hb]at h1;revert h1;decide
 simp only[Bool.and_eq_true,decide_eq_true_eq]at this;exact Prod.ext_iff.2 this
def aJ(L:LV):Prop:=∀(i j:Nat)(a b:Value),L[i]?=some a→L[j]?=some b→i≠j→∀x,j9 a x→¬j9 b x
theorem aJ.set{L:LV}{k n:Nat}{w v:Value}(h:aJ L)(hk:L[k]?=some w)(hn:∀b,j9 v b→j9 w b∨n≤b) (hlt:∀x∈L,∀b,j9 x b→b<n):aJ (L.set k v):=by
 intro i j a b ha hb hij x hx hy;rw[List.getElem?_set]at ha hb;by_cases hi:k=i
 ·have hj:k≠j:=fun q=>hij (hi.symm.trans q);rw[if_pos hi]at ha;rw[if_neg hj]at hb;split at ha
  ·cases ha;rcases hn x hx with q|q
   ·exact h k j w b hk hb hj x q hy
   ·have:=hlt b (List.mem_of_getElem? hb) x hy;omega
  ·cases ha
 ·rw[if_neg hi]at ha;by_cases hj:k=j
  ·rw[if_pos hj]at hb;split at hb
   ·cases hb;rcases hn x hy with q|q
    ·exact h i k a w ha hk (fun q=>hi q.symm) x hx q
    ·have:=hlt a (List.mem_of_getElem? ha) x hx;omega
   ·cases hb
  ·rw[if_neg hj]at hb;exact h i j a b ha hb hij x hx hy
theorem aJ.nil{L:LV}(h:aJ L):aJ (L++[nS]):=by
 intro i j a b ha hb hij x hx hy;have key:∀(i:Nat)(a:Value),(L++[nS])[i]?=some a→j9 a x→L[i]?=some a:=fun i a ha hx=>by
  rw[List.getElem?_append]at ha;split at ha
  ·exact ha
  ·cases hm:i-L.length with
   |zero=>rw[hm]at ha;simp at ha;rw[←ha]at hx;exact absurd hx (A9 x)
   |succ n=>rw[hm]at ha;simp at ha
 exact h i j a b (key i a ha hx) (key j b hb hy) hij x hx hy
theorem GJ{cs us:LV}(h:D2 1 (v8 fun u=>[u]) cs us):cs=us:=by
 apply List.ext_getElem?;intro i;by_cases hi:i<us.length
 ·have h2:=h.2 i us[i] (List.getElem?_eq_getElem hi);have h3:(cs.drop (i*1)).take 1=[us[i]]:=h2;have:=congrArg (fun l=>l[0]?) h3
  simpa [List.getElem?_take,List.getElem?_drop,List.getElem?_eq_getElem hi] using this
 ·have:=h.1;rw[List.getElem?_eq_none oM,List.getElem?_eq_none oM]
theorem BT(us:LV):D2 1 (v8 fun u=>[u]) us us:=by
 have:=BU (enc:=fun u:Value=>[u]) (sz:=1) (fun _=>rfl) us;have e:us.flatMap (fun u=>[u])=us:=by simp
 rw[e]at this;exact this
structure aO(H:d9)(gb:Nat)(O:Nat→Prop)(s:SpD)(w1 w2 w3 w4:Value)(us:LV):Prop where
 g:H.get gb=cE [w1,w2,w3,w4] 1
 n:t7 H (gb+1) 2 (v8 nmE) w1 s.names
 a:t7 H (gb+1) 2 (v8 nmE) w2 s.attrs
 v:t7 H (gb+1) 1 (v8 fun u=>[u]) w3 us
 len:us.length=s.vals.length
 al:s.attrs.length=s.vals.length
 u:∀(i:Nat)(u:Value)(l:List ByteArray),us[i]?=some u→s.vals[i]?=some l→t7 H (gb+1) 1 (v8 stE) u l
 t:t7 H (gb+1) 1 (v8 stE) w4 s.texts
 ap:aJ (w1::w2::w3::w4::us)
 o:∀w∈w1::w2::w3::w4::us,∀b,j9 w b→O b
 lt:∀b,O b→gb<b∧b<H.next
theorem aO.keep{H H':d9}{gb:Nat}{O O':Nat→Prop}{s:SpD}{w1 w2 w3 w4:Value}{us:LV}(h:aO H gb O s w1 w2 w3 w4 us)(hg:∀j,j=gb∨O j→H'.get j=H.get j) (hO:∀b,O b→O' b) (hlt:∀b,O' b→gb<b∧b<H'.next):aO H' gb O' s w1 w2 w3 w4 us:=
 ⟨(hg gb (.inl rfl)).trans h.g,h.n.same fun b hb=>hg b (.inr (h.o _ (by simp) b hb)),h.a.same fun b hb=>hg b (.inr (h.o _ (by simp) b hb)),h.v.same fun b hb=>hg b (.inr (h.o _ (by simp) b hb)),h.len,h.al,
  fun i u l hu hl=>(h.u i u l hu hl).same fun b hb=>hg b (.inr (h.o _ (by simp [List.mem_of_getElem? hu]) b hb)),h.t.same fun b hb=>hg b (.inr (h.o _ (by simp) b hb)),h.ap,fun w hw b hb=>hO b (h.o w hw b hb),hlt⟩
structure jA(gb:Nat)(O0:Nat→Prop)(s0:SpD)(H0:d9)(O:Nat→Prop)(H:d9)(s:SpD):Prop where
 sub:∀b,O b→O0 b∨H0.next≤b
 chg:(s=s0∧∀b,O b→O0 b)∨∃b,(b=gb∨O0 b)∧H.low≤b
 but:∀j,j<H0.next→j≠gb→¬O0 j→H.get j=H0.get j
 stay:i4 gb H0 H
 low:H.low≤H0.low
def dH(gb:Nat)(O0:Nat→Prop)(s0:SpD)(H0 H:d9)(s:SpD):Prop:=∃O w1 w2 w3 w4 us,aO H gb O s w1 w2 w3 w4 us∧jA gb O0 s0 H0 O H s
theorem jA.refl(gb:Nat)(O:Nat→Prop)(s:SpD)(H:d9):jA gb O s H O H s:=⟨fun _ h=> .inl h,.inl ⟨rfl,fun _ h=>h⟩,fun _ _ _ _=>rfl,i4.refl _ _,lR⟩
theorem jA.trans{gb:Nat}{O0 O1 O2:Nat→Prop}{s0 s1 s2:SpD}{H0 H1 H1' H2:d9}(h:jA gb O0 s0 H0 O1 H1 s1)(hS:i4 H1.next H1 H1')(hl:H1'.low≤H1.low)(hgb:gb≤H1.next)(k:jA gb O1 s1 H1' O2 H2 s2):jA gb O0 s0 H0 O2 H2 s2:=by
 have n1:=h.stay.next;have n2:=hS.next;have l2:=k.low;refine⟨fun b hb=>?_,?_,fun j hj h1 h2=>?_,(h.stay.trans (hS.weaken hgb)).trans k.stay,by have:=h.low;omega⟩
 ·rcases k.sub b hb with q|q
  ·exact h.sub b q
  ·exact .inr oM
 ·rcases h.chg with⟨q1,q2⟩|⟨b,q1,q2⟩
  ·rcases k.chg with⟨r1,r2⟩|⟨b,r1,r2⟩
   ·exact .inl ⟨r1.trans q1,fun b hb=>q2 b (r2 b hb)⟩
   ·exact .inr ⟨b,r1.imp id (q2 b),r2⟩
  ·exact .inr ⟨b,q1,oM⟩
 ·rw[k.but j oM h1 (fun q=>by rcases h.sub j q with r|r;exact h2 r;omega),hS.get j oM,h.but j hj h1 h2]
theorem jP{gb:Nat}{O:Nat→Prop}{s s':SpD}{H H1 H':d9}{w1 w2 w3 w4 v:Value}{us:LV}(hS1:i4 H.next H H1)(hlow1:H.next≤H1.low)(hR:aO H gb O s w1 w2 w3 w4 us)(hQ:dH gb O s H1 H' s'):
  Ret (some (D4 v H H')) H fun v1 H2=>v1=v∧dH gb O s H H2 s':=by
 have n1:=hS1.next;have hgb:=u6 hR.g;obtain⟨O',x1,x2,x3,x4,us',R,T⟩:=hQ;refine D7 (fun _ hl=>⟨rfl,?_⟩) ⟨rfl,?_⟩
 ·rcases T.chg with⟨q1,q2⟩|⟨b,q1,q2⟩
  ·rw[q1];exact⟨O,w1,w2,w3,w4,us,hR,jA.refl _ _ _ _⟩
  ·have:b<H.next:=by
    rcases q1 with q1|q1
    ·omega
    ·exact(hR.lt b q1).2
   omega
 ·refine⟨O',x1,x2,x3,x4,us',R.keep (fun _ _=>rfl) (fun _ h=>h) R.lt,fun b hb=>?_,?_,fun j hj h1 h2=>?_,⟨?_,fun k hk q=>?_,fun j hj=>?_⟩,Nat.min_le_left _ _⟩
  ·rcases T.sub b hb with q|q
   ·exact .inl q
   ·exact .inr oM
  ·rcases T.chg with q|⟨b,q1,q2⟩
   ·exact .inl q
   ·exact .inr ⟨b,q1,by show min H.low H'.low≤b;omega⟩
  ·show H'.get j=H.get j;rw[T.but j oM h1 h2,hS1.get j hj]
  ·show H.next≤H'.next;have:=T.stay.next;omega
  ·have:=T.stay.lowAll k hk oM;show k≤min H.low H'.low;omega
  ·show H'.get j=H.get j;rw[T.stay.get j hj,hS1.get j oM]
theorem bV{α:Type}{R:LV→α→Prop}{H H':d9}{lo sz:Nat}{v v':Value}{l:List α}(hO:t7 H' lo sz R v' l)(hG:X7 lo v H v' H'):Ret (some (D4 v' H H')) H fun v1 H1=>t7 H1 lo sz R v1 l∧X7 lo v H v1 H1∧H1.low≤H.low:=by
 refine D7 (fun hv hl=>⟨hO.na hv _ _,⟨i4.refl _ _,fun _ _ _=>rfl,fun b hb=>?_⟩,lR⟩) ⟨hO.low _,⟨⟨hG.stay.next,fun k hk q=>?_,hG.stay.get⟩,hG.but,hG.new⟩,Nat.min_le_left _ _⟩
 ·obtain⟨n,c,e⟩:=hb;rw[e]at hv;cases hv
 ·have:=hG.stay.lowAll k hk q;show k≤min H.low H'.low;omega
theorem GT(H:d9)(lo:Nat)(v:Value)(l:List (ByteArray×ByteArray))(x:ByteArray×ByteArray)(hlo:lo≤H.next)(hO:t7 H lo 2 (v8 nmE) v l)(hl:l.length≤1000000):
  Ret (CL prog t6 126 [v,.agg (nmE x).toArray] H) H fun v' H'=>t7 H' lo 2 (v8 nmE) v' (V9 l x)∧X7 lo v H v' H'∧H'.low≤H.low:=by
 obtain⟨H1,hH1⟩:∃H1:d9,H1=d9.push ⟨H.bs,H.next⟩ (.cells (nmE x) true 1):=⟨_,rfl⟩
 have hS:i4 H.next H H1:=by rw[hH1];first|exact i4.first H _|exact i4.start H
 have hn1:=hS.next;have hlow:H.next≤H1.low:=by rw[hH1];exact lR
 have hO1:=hO.keep hS;have hh:=MK H1 H1.next v l x lR hO1.sl oM;have hr4:ldC (some true) (some 2) 0 (nmE x)=some (.agg (nmE x).toArray):=rfl;have hsw:(l.any fun y=>Q3 x y)=P0 l x:=by unfold P0;congr 1;funext y;first|exact decide_eq_decide.2 ⟨Eq.symm,Eq.symm⟩|(rw[Bool.eq_iff_iff,R2,R2];exact eq_comm)
 rw[hsw]at hh;rw[j8 WN rfl _ (by simp)];rcases b:P0 l x with _|_
 ·rw[b]at hh;have ha':V9 l x=l++[x]:=by rw[V9,b];rfl
  obtain⟨v',h',H4,ha,hge,hO4,hG4⟩:=hO1.push1F (P:=prog) (t:=95) (cs:=nmE x) (a:=x) (by exact pJ.2.2.2.2.2.2) cr.1 cr.2.1 cr.2.2.1 oM oM rfl rfl oM oM;have hg1:H1.get H.next=cE (nmE x) 1:=by rw[hH1];exact i7
  refine J6 hH1.symm hg1 hh hr4 ha hge ?_;rw[ha'];exact bV hO4 ⟨(hS.weaken hlo).trans hG4.stay,fun j hj h=>by rw[hG4.but j oM h,hS.get j hj],fun b hb=>(hG4.new b hb).imp id fun q=>oM⟩
 ·rw[b]at hh;have ha':V9 l x=l:=by rw[V9,b];rfl
  have hg1:H1.get H.next=cE (nmE x) 1:=by rw[hH1];exact i7
  refine J4 hH1.symm hg1 hh hr4 ?_;rw[ha'];exact bV hO1 (X7.of v hS hlo)
theorem yZ(H:d9)(lo:Nat)(v:Value)(l:List (ByteArray))(x:ByteArray)(hlo:lo≤H.next)(hO:t7 H lo 1 (v8 stE) v l)(hl:l.length≤1000000):
  Ret (CL prog t6 128 [v,.string x] H) H fun v' H'=>t7 H' lo 1 (v8 stE) v' (bu l x)∧X7 lo v H v' H'∧H'.low≤H.low:=by
 obtain⟨H1,hH1⟩:∃H1:d9,H1=⟨H.bs,H.next⟩:=⟨_,rfl⟩
 have hS:i4 H.next H H1:=by rw[hH1];first|exact i4.first H _|exact i4.start H
 have hn1:=hS.next;have hlow:H.next≤H1.low:=by rw[hH1];exact lR
 have hO1:=hO.keep hS;have hh:=AV H1 H1.next v l x lR hO1.sl oM;have hr4:ldC (some true) (some 1) 0 (stE x)=some (.agg (stE x).toArray):=rfl;have hsw:(l.any fun y=>ci x y)=V0 l x:=by unfold V0;congr 1;funext y;first|exact decide_eq_decide.2 ⟨Eq.symm,Eq.symm⟩|(rw[Bool.eq_iff_iff,R2,R2];exact eq_comm)
 rw[hsw]at hh;rw[j8 WP rfl _ (by simp)];rcases b:V0 l x with _|_
 ·rw[b]at hh;have ha':bu l x=l++[x]:=by rw[bu,b];rfl
  obtain⟨v',h',H4,ha,hge,hO4,hG4⟩:=hO1.push1F (P:=prog) (t:=97) (cs:=stE x) (a:=x) (by exact aH.2.2.2.2.2.2) ty9.1 ty9.2.1 ty9.2.2.1 oM oM rfl rfl oM oM;have _:=hn1;refine J4 hH1.symm hh ha hge ?_;rw[ha'];exact bV hO4 ⟨(hS.weaken hlo).trans hG4.stay,fun j hj h=>by rw[hG4.but j oM h,hS.get j hj],fun b hb=>(hG4.new b hb).imp id fun q=>oM⟩
 ·rw[b]at hh;have ha':bu l x=l:=by rw[bu,b];rfl
  have _:=hn1;refine J2 hH1.symm hh ?_;rw[ha'];exact bV hO1 (X7.of v hS hlo)
theorem kG(l:List (ByteArray×ByteArray))(n:ByteArray×ByteArray):(l.any fun y=>Q3 n y)=P0 l n:=by
 unfold P0;congr 1;funext y;rw[Bool.eq_iff_iff,R2,R2];exact eq_comm
theorem Ef(l:List (ByteArray×ByteArray))(n:ByteArray×ByteArray)(h:P0 l n=false):ixN (l++[n]) n=l.length:=by
 have:∀(l:List (ByteArray×ByteArray))(k:Nat),(l.any fun y=>Q3 n y)=false→ixG (fun y=>Q3 n y) (l++[n]) k=((k+l.length:Nat):Int):=by
  intro l;induction l with
  |nil=>intro k _;rw[List.nil_append,ixG,if_pos (R2.2 rfl)];simp
  |cons y l ih=>
   intro k hk;rw[List.any_cons,Bool.or_eq_false_iff]at hk;rw[List.cons_append,ixG,if_neg (by rw[hk.1];decide),ih (k+1) hk.2,List.length_cons];congr 1;omega
 unfold ixN;rw[this l 0 (by rw[kG];exact h)];omega
theorem aO.inl{H:d9}{gb:Nat}{O:Nat→Prop}{s:SpD}{w1 w2 w3 w4:Value}{us:LV}(h:aO H gb O s w1 w2 w3 w4 us){w:Value}(hw:w∈w1::w2::w3::w4::us){b:Nat}(hb:j9 w b):gb<b∧b<H.next:=h.lt b (h.o w hw b hb)
theorem vj(H:d9)(gb:Nat)(O:Nat→Prop)(s:SpD)(w1 w2 w3 w4:Value)(us:LV)(n:ByteArray×ByteArray)(hR:aO H gb O s w1 w2 w3 w4 us)(hl:s.attrs.length≤100000):
  Ret (CL prog t6 127 [pT gb,.agg (nmE n).toArray] H) H fun v H1=>v=iV (ixN (F6 s n).attrs n)∧dH gb O s H H1 (F6 s n):=by
 obtain⟨H1,hH1⟩:∃H1:d9,H1=d9.push ⟨H.bs,H.next⟩ (.cells (nmE n) true 1):=⟨_,rfl⟩
 have hS:i4 H.next H H1:=by rw[hH1];exact i4.first H _
 have hn1:H1.next=H.next+1:=by rw[hH1,i5];rfl
 have hlow:H.next≤H1.low:=by rw[hH1];exact lR
 have hgb:=u6 hR.g;have g1:H1.get H.next=cE (nmE n) 1:=by rw[hH1];exact i7
 have hR1:aO H1 gb O s w1 w2 w3 w4 us:=hR.keep (fun j hj=>hS.get j (by rcases hj with rfl|hj;exact hgb;exact(hR.lt j hj).2)) (fun _ h=>h) (fun b hb=>by have:=hR.lt b hb;omega);have gg1:=hR1.g;have hr4:ldC (some true) (some 2) 0 (nmE n)=some (.agg (nmE n).toArray):=rfl;have hh:=vy H1 H1.next w2 s.attrs n lR hR1.a.sl oM;have r0:[w1,w2,w3,w4][1]?=some w2:=rfl;rw[j8 WO rfl _ (by simp)];rcases b:P0 s.attrs n with _|_
 ·have hix:ixG (fun y=>Q3 n y) s.attrs 0= -1:=by
   rcases eW (fun y=>Q3 n y) s.attrs 0 with q|q
   ·exact q.2
   ·have:=q.1;rw[kG,b]at this;cases this
  rw[hix]at hh;have ha':F6 s n={s with attrs:=s.attrs++[n],vals:=s.vals++[[]]}:=by rw[F6,b];rfl
  rw[ha'];simp only;rw[Ef _ _ b];obtain⟨v2,h2,K2,ha2,hge2,hO2,hG2⟩:=hR1.a.push1F (P:=prog) (t:=95) (cs:=nmE n) (a:=n) (by exact pJ.2.2.2.2.2.2) cr.1 cr.2.1 cr.2.2.1 oM oM rfl rfl oM oM;obtain⟨K1,hK1⟩:∃K,K=H1.push (.cells (nmE n) true 2):=⟨_,rfl⟩
  rw[←hK1]at ha2 hge2;have s1:i4 H1.next H1 K1:=by rw[hK1];exact i4.push lR
  have nb2:∀w∈w1::w2::w3::w4::us,∀b,j9 w b→b≠gb:=fun w hw b hb=>by have:=hR1.inl hw hb;omega
  have n2:=hG2.next;have g2:K2.get gb=cE [w1,w2,w3,w4] 1:=(hG2.but gb oM (fun q=>nb2 w2 (by simp) gb q rfl)).trans gg1;have gk1:K1.get gb=cE [w1,w2,w3,w4] 1:=(s1.get gb oM).trans gg1;have d23:∀b,j9 w3 b→¬j9 w2 b:=fun b h3 h2=>hR1.ap 1 2 w2 w3 rfl rfl oM b h2 h3;have hO3:t7 K2 (gb+1) 1 (v8 fun u=>[u]) w3 us:=hR1.v.same fun b hb=>hG2.but b (hR1.inl (by simp) hb).2 (d23 b hb);obtain⟨v3,h3,K4,ha3,hge3,hO4,hG4⟩:=hO3.push1F (P:=prog) (t:=96) (cs:=[nS]) (a:=nS) (by exact NR.2.2.2.2.2.2) aH.1 aH.2.1 aH.2.2.1 oM oM rfl rfl (by have:=hR1.len;have:=hR1.al;omega) oM;obtain⟨K3,hK3⟩:∃K,K=K2.push (.cells [nS] true 1):=⟨_,rfl⟩
  rw[←hK3]at ha3 hge3;have s3:i4 K2.next K2 K3:=by rw[hK3];exact i4.push lR
  have n4:=hG4.next;have g3:K3.get gb=cE [w1,w2,w3,w4] 1:=(s3.get gb oM).trans g2;have g4:K4.get gb=cE [w1,w2,w3,w4] 1:=(hG4.but gb oM (fun q=>nb2 w3 (by simp) gb q rfl)).trans g2;obtain⟨a2,c2,e2⟩:=hO2.slice;obtain⟨a3,c3,e3⟩:=hO4.slice;have cu2:v2.cells.toList=[v2]:=by rw[e2];rfl
  have ou2:Value.oneCell' v2=true:=by rw[e2];rfl
  have cu3:v3.cells.toList=[v3]:=by rw[e3];rfl
  have ou3:Value.oneCell' v3=true:=by rw[e3];rfl
  obtain⟨K5,hK5⟩:∃K,K=K4.put gb (.cells [w1,v2,w3,w4] true 1):=⟨_,rfl⟩
  have g5:K5.get gb=cE [w1,v2,w3,w4] 1:=by rw[hK5];exact i8 oM
  obtain⟨K6,hK6⟩:∃K,K=K5.put gb (.cells [w1,v2,v3,w4] true 1):=⟨_,rfl⟩
  have n6:K6.next=K4.next:=by rw[hK6,j5,hK5,j5]
  have g6:K6.get gb=cE [w1,v2,v3,w4] 1:=by rw[hK6];exact i8 (by rw[hK5,j5];omega)
  have hb95:bsA prog (some 48) H1 1 [(0,.agg (nmE n).toArray)]=some (.slice (some ⟨H1.next,0,none⟩) 1 1,K1):=by
   rw[hK1];simp only[C7,cr,C8];rfl
  have hb96:bsA prog (some 97) K2 1 [(0,nS)]=some (.slice (some ⟨K2.next,0,none⟩) 1 1,K3):=by
   rw[hK3];simp only[C7,aH,C8];rfl
  have hlen6:∀Hx:d9,D3 prog .len [95] [v2] Hx=some (.int .i64 ((s.attrs.length:Int)+1),none):=fun Hx=>by
   rw[e2,List.length_append];refine J1 pJ ?_;simp
  have e6:∀j,j≠gb→K6.get j=K4.get j:=fun j hj=>by rw[hK6,i9 (fun q=>hj q.symm),hK5,i9 (fun q=>hj q.symm)]
  refine J25 hH1.symm g1 gg1 hr4 hh hb95 gk1 ha2 hge2 g2 hb96 g3 ha3 hge3 g4 cu2 ou2 hK5.symm g5 cu3 ou3 hK6.symm g6 hlen6 @wrap_small ?_;have ew:(s.attrs.length:Int)+1-1=s.attrs.length:=oM;rw[ew];have b4:∀j,j<H1.next→¬j9 w2 j→¬j9 w3 j→K4.get j=H1.get j:=fun j hj h2 h3=>by rw[hG4.but j oM h3,hG2.but j hj h2]
  refine jP (w1:=w1) (w2:=w2) (w3:=w3) (w4:=w4) (us:=us) hS hlow hR ⟨P5 O H1 K6,w1,v2,v3,w4,us++[nS],⟨g6,?_,?_,?_,?_,?_,?_,?_,?_,?_,?_⟩,?_,?_,?_,?_,?_⟩
  ·exact hR1.n.same fun b hb=>by
    have:=hR1.inl (w:=w1) (by simp) hb;rw[e6 b oM,b4 b this.2 (fun q=>hR1.ap 0 1 w1 w2 rfl rfl oM b hb q) (fun q=>hR1.ap 0 2 w1 w3 rfl rfl oM b hb q)]
  ·exact hO2.same fun b hb=>by
    have hlt:=hO2.lt hb;rw[e6 b oM,hG4.but b hlt.2 fun q=>?_];rcases hG2.new b hb with r|r
    ·exact d23 b q r
    ·have:=hR1.inl (w:=w3) (by simp) q;omega
  ·exact hO4.same fun b hb=>e6 b (by have:=hO4.lt hb;omega)
  ·rw[List.length_append,List.length_append,hR1.len];rfl
  ·rw[List.length_append,List.length_append,hR1.al];rfl
  ·intro i u l hu hl;have hlen:=hR1.len;by_cases hi:i<us.length
   ·rw[List.getElem?_append_left hi]at hu;rw[List.getElem?_append_left oM]at hl;exact(hR1.u i u l hu hl).same fun b hb=>by
     have:=hR1.inl (w:=u) (by simp [List.mem_of_getElem? hu]) hb;rw[e6 b oM,b4 b this.2 (fun q=>hR1.ap (i+4) 1 u w2 hu rfl oM b hb q) (fun q=>hR1.ap (i+4) 2 u w3 hu rfl oM b hb q)]
   ·rw[List.getElem?_append_right oM]at hu hl;cases hm:i-us.length with
    |zero=>
     rw[hm]at hu;rw[←hlen,hm]at hl;simp at hu hl
     first|rw[←hu,←hl]|rw[←hu,hl]
     exact t7.nil
    |succ m=>rw[hm]at hu;simp at hu
  ·exact hR1.t.same fun b hb=>by
    have:=hR1.inl (w:=w4) (by simp) hb;rw[e6 b oM,b4 b this.2 (fun q=>hR1.ap 3 1 w4 w2 rfl rfl oM b hb q) (fun q=>hR1.ap 3 2 w4 w3 rfl rfl oM b hb q)]
  ·have p1:aJ (w1::v2::w3::w4::us):=hR1.ap.set (k:=1) (v:=v2) (n:=H1.next) rfl hG2.new (fun x hx b hb=>(hR1.inl hx hb).2);have p2:aJ (w1::v2::v3::w4::us):=p1.set (k:=2) (v:=v3) (n:=K2.next) rfl hG4.new (fun x hx b hb=>by
    rcases List.mem_cons.1 hx with rfl|hx
    ·have:=hR1.inl (w:=x) (by simp) hb;omega
    rcases List.mem_cons.1 hx with rfl|hx
    ·exact(hO2.lt hb).2
    ·have:=hR1.inl (w:=x) (List.mem_cons_of_mem _ (List.mem_cons_of_mem _ hx)) hb;omega)
   exact p2.nil
  ·intro w hw b hb;have inO:∀w∈w1::w2::w3::w4::us,j9 w b→P5 O H1 K6 b:=fun w hw hb=> .inl (hR1.o w hw b hb);have hw':w=w1∨w=v2∨w=v3∨w=w4∨w∈us∨w=nS:=by
    have:w∈w1::v2::v3::w4::(us++[nS]):=hw;simp only[List.mem_cons,List.mem_append,List.mem_singleton,List.not_mem_nil,or_false]at this;exact this
   rcases hw' with h|h|h|h|h|h
   ·exact inO w1 (by simp) (h▸hb)
   ·rw[h]at hb;rcases hG2.new b hb with r|r
    ·exact inO w2 (by simp) r
    ·exact .inr ⟨r,by have:=hO2.lt hb;omega⟩
   ·rw[h]at hb;rcases hG4.new b hb with r|r
    ·exact inO w3 (by simp) r
    ·exact .inr ⟨oM,by have:=hO4.lt hb;omega⟩
   ·exact inO w4 (by simp) (h▸hb)
   ·exact inO w (by simp [h]) hb
   ·rw[h]at hb;exact absurd hb (A9 b)
  ·intro b hb;rcases hb with hb|hb
   ·have:=hR1.lt b hb;omega
   ·omega
  ·intro b hb;exact hb.imp id fun h=>h.1
  ·exact .inr ⟨gb,.inl rfl,by rw[hK6,A4];omega⟩
  ·intro j hj h1 h2;rw[e6 j h1,b4 j hj (fun q=>h2 (hR1.o w2 (by simp) j q)) (fun q=>h2 (hR1.o w3 (by simp) j q))]
  ·rw[hK6,hK5];exact(((hG2.stay.weaken oM).trans (hG4.stay.weaken oM)).trans (i4.put lR)).trans (i4.put lR)
  ·have:K6.low≤gb:=by rw[hK6,A4];omega
   omega
 ·have hin:=W9.1 b;obtain⟨_,_,hix⟩:=tQ s.attrs n hin;rw[hix]at hh;have ha':F6 s n=s:=by rw[F6,b];rfl
  have bge:decide ((0:Int)≤(ixN s.attrs n:Nat))=true:=decide_eq_true oM;rw[ha'];refine J6 hH1.symm g1 gg1 hr4 hh bge ?_;have fin:=jP (v:=iV (ixN s.attrs n)) hS hlow hR ⟨O,w1,w2,w3,w4,us,hR1,jA.refl _ _ _ _⟩;rw[kA _ _ _ _ hlow]at fin;exact fin
theorem xw{H H':d9}{gb:Nat}{O:Nat→Prop}{s:SpD}{w1 w2 w3 w4 v':Value}{us:LV}{l':List (ByteArray×ByteArray)}(hR:aO H gb O s w1 w2 w3 w4 us)(hO:t7 H' (gb+1) 2 (v8 nmE) v' l')(hG:X7 (gb+1) w1 H v' H')(hl:H'.low≤H.low):
  dH gb O s H (H'.put gb (.cells [v',w2,w3,w4] true 1)) {s with names:=l'}:=by
 have hn:=hG.next;have hgb:=u6 hR.g;obtain⟨K,hK⟩:∃K,K=H'.put gb (.cells [v',w2,w3,w4] true 1):=⟨_,rfl⟩
 have nK:K.next=H'.next:=by rw[hK,j5]
 have gK:K.get gb=cE [v',w2,w3,w4] 1:=by rw[hK];exact i8 oM
 have eK:∀j,j≠gb→K.get j=H'.get j:=fun j hj=>by rw[hK,i9 (fun q=>hj q.symm)]
 have sm:∀(i:Nat)(w:Value),(w1::w2::w3::w4::us)[i]?=some w→i≠0→∀b,j9 w b→K.get b=H.get b:=fun i w hw hi b hb=>by
  have:=hR.inl (List.mem_of_getElem? hw) hb;rw[eK b oM,hG.but b this.2 (fun q=>hR.ap i 0 w w1 hw rfl hi b hb q)]
 have hs:t7 K (gb+1) 2 (v8 nmE) v' l':=hO.same fun b hb=>eK b (by have:=hO.lt hb;omega);have ho:∀(w:Value)(i:Nat){α:Type}{sz:Nat}{R:LV→α→Prop}{l:List α},(w1::w2::w3::w4::us)[i]?=some w→i≠0→t7 H (gb+1) sz R w l→t7 K (gb+1) sz R w l:=fun w i _ _ _ _ hw hi h=>h.same (sm i w hw hi);rw[←hK];refine⟨P5 O H K,v',w2,w3,w4,us,⟨gK,?_,?_,ho w3 2 rfl oM hR.v,hR.len,hR.al,fun i u l hu hl=>ho u (i+4) hu oM (hR.u i u l hu hl),?_,hR.ap.set (k:=0) (v:=v') (n:=H.next) rfl hG.new (fun x hx b hb=>(hR.inl hx hb).2),fun w hw b hb=>?_,fun b hb=>?_⟩,fun b hb=>hb.imp id fun h=>h.1,.inr ⟨gb,.inl rfl,by rw[hK,A4];omega⟩,fun j hj h1 h2=>by rw[eK j h1,hG.but j hj (fun q=>h2 (hR.o w1 (by simp) j q))],by rw[hK];exact(hG.stay.weaken oM).trans (i4.put lR),by rw[hK,A4];omega⟩
 ·first|exact hs|exact ho w1 0 rfl oM hR.n
 ·exact ho w2 1 rfl oM hR.a
 ·first|exact hs|exact ho w4 3 rfl oM hR.t
 ·by_cases h:w∈w1::w2::w3::w4::us
  ·exact .inl (hR.o w h b hb)
  ·have:w=v':=by
    apply Classical.byContradiction;intro hv;have hw2:w∈v'::w2::w3::w4::us:=hw;apply h;simp only[List.mem_cons,hv,false_or]at hw2 ⊢
    first|exact .inr hw2|(rcases hw2 with q|q|q|q;exact .inl q;exact .inr (.inl q);exact .inr (.inr (.inl q));exact .inr (.inr (.inr (.inr q))))
   rw[this]at hb;rcases hG.new b hb with r|r
   ·exact .inl (hR.o w1 (by simp) b r)
   ·exact .inr ⟨r,by have:=hO.lt hb;omega⟩
 ·rcases hb with hb|hb
  ·have:=hR.lt b hb;omega
  ·omega
theorem xx{H H':d9}{gb:Nat}{O:Nat→Prop}{s:SpD}{w1 w2 w3 w4 v':Value}{us:LV}{l':List (ByteArray)}(hR:aO H gb O s w1 w2 w3 w4 us)(hO:t7 H' (gb+1) 1 (v8 stE) v' l')(hG:X7 (gb+1) w4 H v' H')(hl:H'.low≤H.low):
  dH gb O s H (H'.put gb (.cells [w1,w2,w3,v'] true 1)) {s with texts:=l'}:=by
 have hn:=hG.next;have hgb:=u6 hR.g;obtain⟨K,hK⟩:∃K,K=H'.put gb (.cells [w1,w2,w3,v'] true 1):=⟨_,rfl⟩
 have nK:K.next=H'.next:=by rw[hK,j5]
 have gK:K.get gb=cE [w1,w2,w3,v'] 1:=by rw[hK];exact i8 oM
 have eK:∀j,j≠gb→K.get j=H'.get j:=fun j hj=>by rw[hK,i9 (fun q=>hj q.symm)]
 have sm:∀(i:Nat)(w:Value),(w1::w2::w3::w4::us)[i]?=some w→i≠3→∀b,j9 w b→K.get b=H.get b:=fun i w hw hi b hb=>by
  have:=hR.inl (List.mem_of_getElem? hw) hb;rw[eK b oM,hG.but b this.2 (fun q=>hR.ap i 3 w w4 hw rfl hi b hb q)]
 have hs:t7 K (gb+1) 1 (v8 stE) v' l':=hO.same fun b hb=>eK b (by have:=hO.lt hb;omega);have ho:∀(w:Value)(i:Nat){α:Type}{sz:Nat}{R:LV→α→Prop}{l:List α},(w1::w2::w3::w4::us)[i]?=some w→i≠3→t7 H (gb+1) sz R w l→t7 K (gb+1) sz R w l:=fun w i _ _ _ _ hw hi h=>h.same (sm i w hw hi);rw[←hK];refine⟨P5 O H K,w1,w2,w3,v',us,⟨gK,?_,?_,ho w3 2 rfl oM hR.v,hR.len,hR.al,fun i u l hu hl=>ho u (i+4) hu oM (hR.u i u l hu hl),?_,hR.ap.set (k:=3) (v:=v') (n:=H.next) rfl hG.new (fun x hx b hb=>(hR.inl hx hb).2),fun w hw b hb=>?_,fun b hb=>?_⟩,fun b hb=>hb.imp id fun h=>h.1,.inr ⟨gb,.inl rfl,by rw[hK,A4];omega⟩,fun j hj h1 h2=>by rw[eK j h1,hG.but j hj (fun q=>h2 (hR.o w4 (by simp) j q))],by rw[hK];exact(hG.stay.weaken oM).trans (i4.put lR),by rw[hK,A4];omega⟩
 ·first|exact hs|exact ho w1 0 rfl oM hR.n
 ·exact ho w2 1 rfl oM hR.a
 ·first|exact hs|exact ho w4 3 rfl oM hR.t
 ·by_cases h:w∈w1::w2::w3::w4::us
  ·exact .inl (hR.o w h b hb)
  ·have:w=v':=by
    apply Classical.byContradiction;intro hv;have hw2:w∈w1::w2::w3::v'::us:=hw;apply h;simp only[List.mem_cons,hv,false_or]at hw2 ⊢
    first|exact .inr hw2|(rcases hw2 with q|q|q|q;exact .inl q;exact .inr (.inl q);exact .inr (.inr (.inl q));exact .inr (.inr (.inr (.inr q))))
   rw[this]at hb;rcases hG.new b hb with r|r
   ·exact .inl (hR.o w4 (by simp) b r)
   ·exact .inr ⟨r,by have:=hO.lt hb;omega⟩
 ·rcases hb with hb|hb
  ·have:=hR.lt b hb;omega
  ·omega
theorem DU{H H':d9}{gb:Nat}{O:Nat→Prop}{s:SpD}{w1 w2 w4 u u':Value}{us:LV}{b3 n c i:Nat}{l':List ByteArray}(hR:aO H gb O s w1 w2 (.slice (some ⟨b3,0,none⟩) n c) w4 us)(hu:us[i]?=some u)(hO:t7 H' (gb+1) 1 (v8 stE) u' l')(hG:X7 (gb+1) u H u' H')(hl:H'.low≤H.low):
  dH gb O s H (H'.put b3 (.cells (us.set i u') true 1)) {s with vals:=s.vals.set i l'}:=by
 have hn:=hG.next;have hgb:=u6 hR.g;have hb3:j9 (.slice (some ⟨b3,0,none⟩) n c) b3:=⟨_,_,rfl⟩
 have l3:=hR.inl (w:= .slice (some ⟨b3,0,none⟩) n c) (by simp) hb3;have hui:(w1::w2:: .slice (some ⟨b3,0,none⟩) n c::w4::us)[i+4]?=some u:=hu;obtain⟨K,hK⟩:∃K,K=H'.put b3 (.cells (us.set i u') true 1):=⟨_,rfl⟩
 have nK:K.next=H'.next:=by rw[hK,j5]
 have gK:K.get b3=cE (us.set i u') 1:=by rw[hK];exact i8 oM
 have eK:∀j,j≠b3→K.get j=H'.get j:=fun j hj=>by rw[hK,i9 (fun q=>hj q.symm)]
 have sm:∀(j:Nat)(w:Value),(w1::w2:: .slice (some ⟨b3,0,none⟩) n c::w4::us)[j]?=some w→j≠i+4→j≠2→∀b,j9 w b→K.get b=H.get b:=fun j w hw hj hj2 b hb=>by
  have:=hR.inl (List.mem_of_getElem? hw) hb;rw[eK b (fun q=>hR.ap j 2 w _ hw rfl hj2 b hb (q▸hb3)),hG.but b this.2 (fun q=>hR.ap j (i+4) w u hw hui hj b hb q)]
 have ho:∀(w:Value)(j:Nat){α:Type}{sz:Nat}{R:LV→α→Prop}{l:List α},(w1::w2:: .slice (some ⟨b3,0,none⟩) n c::w4::us)[j]?=some w→j≠i+4→j≠2→t7 H (gb+1) sz R w l→t7 K (gb+1) sz R w l:=fun w j _ _ _ _ hw hi h2 h=>h.same (sm j w hw hi h2);have nu':∀b,j9 u' b→b≠b3:=fun b hb q=>by
  rcases hG.new b hb with r|r
  ·exact hR.ap (i+4) 2 u _ hui rfl oM b r (q▸hb3)
  ·omega
 have hn3:n=us.length:=by obtain⟨_,_,q⟩:=hR.v.slice;cases q;rfl
 have hap:aJ (w1::w2:: .slice (some ⟨b3,0,none⟩) n c::w4::us.set i u'):=hR.ap.set (k:=i+4) (v:=u') (n:=H.next) hui hG.new (fun x hx b hb=>(hR.inl hx hb).2);have hov:t7 K (gb+1) 1 (v8 fun u=>[u]) (.slice (some ⟨b3,0,none⟩) n c) (us.set i u'):=⟨us.set i u',.inr ⟨b3,c,by rw[hn3,List.length_set],gK,oM,by simp⟩,BT _⟩
 have hnu:t7 K (gb+1) 1 (v8 stE) u' l':=hO.same fun b hb=>eK b (nu' b hb);rw[←hK];refine⟨P5 O H K,w1,w2,.slice (some ⟨b3,0,none⟩) n c,w4,us.set i u',⟨?_,ho w1 0 rfl oM oM hR.n,ho w2 1 rfl oM oM hR.a,hov,by rw[List.length_set,List.length_set];exact hR.len,by rw[List.length_set];exact hR.al,fun j x m hx hm=>?_,ho w4 3 rfl oM oM hR.t,hap,fun w hw b hb=>?_,fun b hb=>?_⟩,fun b hb=>hb.imp id fun h=>h.1,.inr ⟨b3,.inr (hR.o _ (by simp) b3 hb3),by rw[hK,A4];omega⟩,fun j hj h1 h2=>by rw[eK j (fun q=>h2 (q▸hR.o _ (by simp) b3 hb3)),hG.but j hj (fun q=>h2 (hR.o u (by simp [List.mem_of_getElem? hu]) j q))],by rw[hK];exact(hG.stay.weaken oM).trans (i4.put oM),by rw[hK,A4];omega⟩
 ·rw[eK gb oM,hG.but gb oM (fun q=>by have:=hR.inl (w:=u) (by simp [List.mem_of_getElem? hu]) q;omega)];exact hR.g
 ·simp only at hm;rw[List.getElem?_set]at hx hm;by_cases hj:i=j
  ·rw[if_pos hj]at hx hm;split at hx
   ·split at hm
    ·cases hx;cases hm;exact hnu
    ·cases hm
   ·cases hx
  ·rw[if_neg hj]at hx hm;exact ho x (j+4) hx oM oM (hR.u j x m hx hm)
 ·by_cases h:w∈w1::w2:: .slice (some ⟨b3,0,none⟩) n c::w4::us
  ·exact .inl (hR.o w h b hb)
  ·have:w=u':=by
    apply Classical.byContradiction;intro hv;apply h;have hw2:w=w1∨w=w2∨w= .slice (some ⟨b3,0,none⟩) n c∨w=w4∨w∈us.set i u':=by simpa only[List.mem_cons] using hw
    rcases hw2 with q|q|q|q|q
    ·simp [q]
    ·simp [q]
    ·simp [q]
    ·simp [q]
    ·rcases List.mem_or_eq_of_mem_set q with q|q
     ·simp [q]
     ·exact absurd q hv
   rw[this]at hb;rcases hG.new b hb with r|r
   ·exact .inl (hR.o u (by simp [List.mem_of_getElem? hu]) b r)
   ·exact .inr ⟨r,by have:=hO.lt hb;omega⟩
 ·rcases hb with hb|hb
  ·have:=hR.lt b hb;omega
  ·omega
def Sm(s:SpD)(m:Nat):Prop:=s.names.length≤m∧s.attrs.length≤m∧(∀l∈s.vals,l.length≤m)∧s.texts.length≤m
theorem vY(l:List (ByteArray×ByteArray))(x:ByteArray×ByteArray):(V9 l x).length≤l.length+1:=by unfold V9;split<;>simp
theorem mQ(l:List ByteArray)(x:ByteArray):(bu l x).length≤l.length+1:=by unfold bu;split<;>simp
theorem zr{s:SpD}{m:Nat}(h:Sm s m)(n:ByteArray×ByteArray):Sm (F6 s n) (m+1):=by
 obtain⟨h1,h2,h3,h4⟩:=h;unfold F6;split
 ·exact⟨oM,oM,fun l hl=>by have:=h3 l hl;omega,oM⟩
 ·refine⟨by show s.names.length≤_;omega,by simp;omega,fun l hl=>?_,by show s.texts.length≤_;omega⟩;rcases List.mem_append.1 hl with hl|hl
  ·have:=h3 l hl;omega
  ·rw[List.mem_singleton.1 hl];simp
theorem mS{s:SpD}{m:Nat}(h:Sm s m)(n:ByteArray×ByteArray):(∀l∈(F6 s n).vals,l.length≤m)∧(F6 s n).names.length≤m∧(F6 s n).texts.length≤m∧(F6 s n).attrs.length≤m+1:=by
 obtain⟨h1,h2,h3,h4⟩:=h;unfold F6;split
 ·exact⟨h3,h1,h4,oM⟩
 ·refine⟨fun l hl=>?_,h1,h4,by simp;omega⟩;rcases List.mem_append.1 hl with hl|hl
  ·exact h3 l hl
  ·rw[List.mem_singleton.1 hl];simp
theorem rS{s:SpD}{m:Nat}(h:Sm s m)(q:Q):Sm (I9 s q) (m+1):=by
 have h0:=h;obtain⟨h1,h2,h3,h4⟩:=h;have up:Sm s (m+1):=⟨oM,oM,fun l hl=>by have:=h3 l hl;omega,oM⟩
 unfold I9;split
 ·exact⟨by have:=vY s.names (qNm q);show(V9 s.names (qNm q)).length≤_;omega,up.2⟩
 split
 ·exact zr h0 _
 split
 ·obtain⟨k3,k1,k4,k2⟩:=mS h0 (qNm q);refine⟨by show(F6 s (qNm q)).names.length≤_;omega,k2,fun l hl=>?_,by show(F6 s (qNm q)).texts.length≤_;omega⟩;rcases List.mem_or_eq_of_mem_set hl with hl|hl
  ·have:=k3 l hl;omega
  ·rw[hl];have:=mQ ((F6 s (qNm q)).vals.getD (ixN (F6 s (qNm q)).attrs (qNm q)) []) q.vl;have:((F6 s (qNm q)).vals.getD (ixN (F6 s (qNm q)).attrs (qNm q)) []).length≤m:=by
    rw[List.getD_eq_getElem?_getD];cases hm:(F6 s (qNm q)).vals[ixN (F6 s (qNm q)).attrs (qNm q)]? with
    |none=>simp
    |some l=>exact k3 l (List.mem_of_getElem? hm)
   omega
 split
 ·exact⟨up.1,up.2.1,up.2.2.1,by have:=mQ s.texts q.vl;show(bu s.texts q.vl).length≤_;omega⟩
 ·exact up
theorem bG(l:List Q):∀{s:SpD}{m:Nat},Sm s m→Sm (l.foldl I9 s) (m+l.length):=by
 induction l with
 |nil=>intro s m h;exact h
 |cons x l ih=>intro s m h;rw[List.foldl_cons,List.length_cons,show m+(l.length+1)=m+1+l.length from oM];exact ih (rS h x)
theorem ww(s:SpD)(n:ByteArray×ByteArray):n∈(F6 s n).attrs:=by
 unfold F6;split
 ·rename_i h;exact W9.1 h
 ·exact List.mem_append.2 (.inr (List.mem_singleton.2 rfl))
theorem tE(H1:d9)(gb p3:Nat)(O:Nat→Prop)(s:SpD)(w1 w2 w3 w4:Value)(us:LV)(q:Q)(va wa:Option Addr)(ca ca':Nat)(hR:aO H1 gb O s w1 w2 w3 w4 us)(hs:Sm s 100000)(hp:p3≠gb)(hpO:¬O p3)(row:LV)(hrow:row=[iV q.op,.string q.sp,.string q.lc,.string q.vl,.slice va q.a.length ca,.slice wa q.b.length ca'])(hg3:H1.get p3=cE row 1)
  (e:Env) (f0:e.get 0=pT gb) (f3:e.get 3=pT p3) (f10:e.get 10=iV q.op):
  u9 (LE prog t6 to e H1) (fun o e H2=>o= .normal∧e.get 0=pT gb∧e.get 3=pT p3∧dH gb O s H1 H2 (I9 s q)):=by
 unfold to;obtain⟨s1,s2,s3,s4⟩:=hs;have hgb:=u6 hR.g;have hp3:=u6 hg3;have gg:=hR.g;have ldn:ldC (some true) (some 2) 1 row=some (.agg (nmE (qNm q)).toArray):=by rw[hrow];rfl
 have r3:row[3]?=some (.string q.vl):=by rw[hrow];rfl
 rcases b4:decide (q.op=4)with _|_;rcases b5:decide (q.op=5)with _|_;rcases b6:decide (q.op=6)with _|_;rcases b7:decide (q.op=7)with _|_
 ·have hst:I9 s q=s:=by
   unfold I9;rw[if_neg (dF b4),if_neg (dF b5),if_neg (dF b6),if_neg (dF b7)]
  refine J7 f0 f3 f10 b4 b5 b6 b7 ?_;rw[hst];exact⟨O,w1,w2,w3,w4,us,hR,jA.refl _ _ _ _⟩
 ·have hst:I9 s q={s with texts:=bu s.texts q.vl}:=by
   unfold I9;rw[if_neg (dF b4),if_neg (dF b5),if_neg (dF b6),if_pos (dT b7)]
  obtain⟨v',h',H2,hca,hge,hO,hG,hl⟩:=yZ H1 (gb+1) w4 s.texts q.vl oM hR.t oM;have n2:=hG.next;have g2:H2.get gb=cE [w1,w2,w3,w4] 1:=(hG.but gb oM (fun q=>by have:=hR.inl (w:=w4) (by simp) q;omega)).trans gg;obtain⟨a',c',e'⟩:=hO.slice;have cu:v'.cells.toList=[v']:=by rw[e'];rfl
  have ou:Value.oneCell' v'=true:=by rw[e'];rfl
  refine J15 f0 f3 f10 b4 b5 b6 b7 gg hg3 r3 hca hge g2 cu ou ?_;rw[hst];exact xx hR hO hG hl
 ·have hst:I9 s q={F6 s (qNm q)with vals:=(F6 s (qNm q)).vals.set (ixN (F6 s (qNm q)).attrs (qNm q)) (bu ((F6 s (qNm q)).vals.getD (ixN (F6 s (qNm q)).attrs (qNm q)) []) q.vl)}:=by
   unfold I9;rw[if_neg (dF b4),if_neg (dF b5),if_pos (dT b6)]
  obtain⟨_,h',H2,hca,hge,rfl,O2,x1,x2,x3,x4,ys,hR2,hT2⟩:=vj H1 gb O s w1 w2 w3 w4 us (qNm q) hR oM;have hin:=ww s (qNm q);obtain⟨ht3,_⟩:=mS (m:=100000) ⟨s1,s2,s3,s4⟩ (qNm q);obtain⟨sA,hsA⟩:∃sA,sA=F6 s (qNm q):=⟨_,rfl⟩
  rw[←hsA]at hca hR2 hT2 hst hin ht3;obtain⟨ix,hix⟩:∃ix,ix=ixN sA.attrs (qNm q):=⟨_,rfl⟩
  have hixl:ix<sA.vals.length:=by rw[hix,←hR2.al];exact(tQ _ _ hin).2.1
  rw[←hix]at hca hst;have n12:=hT2.stay.next;have gg2:=hR2.g;have g23:H2.get p3=cE row 1:=(hT2.but p3 hp3 hp hpO).trans hg3;have hli:sA.vals[ix]?=some (sA.vals.getD ix []):=by rw[List.getD_eq_getElem?_getD,List.getElem?_eq_getElem hixl];rfl
  have hli2:=ht3 _ (List.mem_of_getElem? hli);obtain⟨u,hu⟩:∃u,ys[ix]?=some u:=⟨_,List.getElem?_eq_getElem (by rw[hR2.len];exact hixl)⟩
  have hOu:=hR2.u ix u _ hu hli;obtain⟨v',h3',H3,hca3,hge3,hO3,hG3,hl3⟩:=yZ H2 (gb+1) u (sA.vals.getD ix []) q.vl oM hOu oM;have hv:=hR2.v;obtain⟨cs3,hC3,hr3⟩:=hv;have e3:=GJ hr3;subst e3;have hlen3:=hR2.len;rcases hC3 with⟨_,q0,_⟩|⟨b3,c3,rfl,gb3,hb3,_⟩
  ·omega
  have h3:j9 (.slice (some ⟨b3,0,none⟩) cs3.length c3) b3:=⟨_,_,rfl⟩
  have n23:=hG3.next;have g3:H3.get gb=cE [x1,x2,.slice (some ⟨b3,0,none⟩) cs3.length c3,x4] 1:=(hG3.but gb oM (fun q=>by have:=hR2.inl (w:=u) (by simp [List.mem_of_getElem? hu]) q;omega)).trans gg2;have gb33:H3.get b3=cE cs3 1:=(hG3.but b3 (u6 gb3) (fun q=>hR2.ap (ix+4) 2 u _ hu rfl oM b3 q h3)).trans gb3;obtain⟨a',c',e'⟩:=hO3.slice;have cu:v'.cells.toList=[v']:=by rw[e'];rfl
  have ou:Value.oneCell' v'=true:=by rw[e'];rfl
  have nt:(ix:Int).toNat=ix:=tN ix;have hlt3:ix<cs3.length:=oM;have i0:(0:Int)≤ix:=oM;have i1:(ix:Int)<cs3.length:=oM;have cuu:ix+1≤cs3.length:=hlt3;have spl:splice cs3 ix [v']=cs3.set ix v':=rfl;refine J25 f0 f3 f10 b4 b5 b6 gg2 g23 ldn r3 hg3 hca hge gb3 nt hu hca3 hge3 g3 gb33 cu ou cuu @Nat.mul_one spl ?_;rw[hst];obtain⟨O3,y1,y2,y3,y4,zs,R3,T3⟩:=DU hR2 hu hO3 hG3 hl3;exact⟨O3,y1,y2,y3,y4,zs,R3,hT2.trans (i4.refl _ _) lR oM T3⟩
 ·have hst:I9 s q=F6 s (qNm q):=by
   unfold I9;rw[if_neg (dF b4),if_pos (dT b5)]
  obtain⟨_,h',H2,hca,hge,rfl,hQ⟩:=vj H1 gb O s w1 w2 w3 w4 us (qNm q) hR oM;refine J9 f0 f3 f10 b4 b5 hg3 ldn hca hge ?_;rw[hst];exact hQ
 ·have hst:I9 s q={s with names:=V9 s.names (qNm q)}:=by
   unfold I9;rw[if_pos (dT b4)]
  obtain⟨v',h',H2,hca,hge,hO,hG,hl⟩:=GT H1 (gb+1) w1 s.names (qNm q) oM hR.n oM;have n2:=hG.next;have g2:H2.get gb=cE [w1,w2,w3,w4] 1:=(hG.but gb oM (fun q=>by have:=hR.inl (w:=w1) (by simp) q;omega)).trans gg;obtain⟨a',c',e'⟩:=hO.slice;have cu:v'.cells.toList=[v']:=by rw[e'];rfl
  have ou:Value.oneCell' v'=true:=by rw[e'];rfl
  refine J12 f0 f3 f10 b4 gg hg3 ldn hca hge g2 cu ou ?_;rw[hst];exact xw hR hO hG hl
def dx(fn:Nat)(f:Bool)(k:Nat):Prop:=∀(H:d9)(lo gb:Nat)(O:Nat→Prop)(s:SpD)(w1 w2 w3 w4:Value)(us cs:LV)(q:Q)(m:Nat),lo≤gb→aO H gb O s w1 w2 w3 w4 us→QR H lo k f cs q→Sm s m→m+nQ q≤100000→
 Ret (CL prog t6 fn [pT gb,.agg cs.toArray] H) H fun v H1=>v=undef∧dH gb O s H H1 ((fsQ f q).foldl I9 s)
theorem eg(f:Bool)(l:List Q)(i:Nat)(x:Q)(h:l.drop i=x::l.drop (i+1)):fsL f (l.drop i)=fsQ f x++fsL f (l.drop (i+1)):=by rw[h,fsL]
theorem MI(k:Nat)(ih:dx 79 false k)(H0:d9)(lo gb:Nat)(hlo:lo≤gb)(hgb0:gb<H0.next)(O0:Nat→Prop)(s0:SpD)(va:Option Addr)(ca:Nat)(l:List Q)(hv:QsR H0 lo k false (.slice va l.length ca) l)(hn:l.length≤1048576)(p3:Value)(res:SpD):
  ∀kk e H2,(∃(i:Nat)(s:SpD)(m:Nat),kk=l.length-i∧i≤l.length∧e.get 0=pT gb∧e.get 3=p3∧e.get 9= .slice va l.length ca∧e.get 10=iV l.length∧e.get 11=iV i∧dH gb O0 s0 H0 H2 s∧Sm s m∧m+nL (l.drop i)≤100000∧(fsL false (l.drop i)).foldl I9 s=res)→
  u9 (LE prog t6 (.loop Gi) e H2) (fun o e H2=>o= .exit 0∧e.get 0=pT gb∧e.get 3=p3∧dH gb O0 s0 H0 H2 res):=by
 refine j7 _ _ ?_;rintro kk e H2 ⟨i,s,m,hkk,hi,f0,f3,fL,fM,fJ,hQ,hsm,hfit,fu⟩;rcases b:decide ((i:Int)<l.length)with _|_
 ·have hb':=dF b;have:l.drop i=[]:=dN oM;rw[this,fsL,List.foldl_nil]at fu;refine J3 fM fJ b ?_;exact l7 ⟨rfl,f0,f3,by rw[←fu];exact hQ⟩
 have hb':=dT b;obtain⟨O,w1,w2,w3,w4,us,hR,hT⟩:=hQ;have hS:=hT.stay;have hn2:=hS.next;have hgb:=u6 hR.g;obtain⟨x,nb,o,cs,own,el,hx,hd,rfl,hlt,hg,hle,hrow,hr⟩:=hv.row (i:=i) oM;have hxm:=List.mem_of_getElem? hx;have nt:(i:Int).toNat=i:=tN i;simp only[qSz,if_true,Bool.false_eq_true,if_false]at hrow hg hle;rw[eg _ _ _ _ hd,List.foldl_append]at fu;have hfit2:m+(nQ x+nL (l.drop (i+1)))≤100000:=by rw[hd,nL]at hfit;exact hfit
 have a1:el.all Value.oneCell'=true:=F0 hr;have e1:=hr.len;simp only[qSz,if_true,Bool.false_eq_true,if_false]at e1;have ld1:=M8 hr;rw[e1]at ld1;have gx:=(hS.get nb oM).trans hg;obtain⟨H3,hH3⟩:∃H3,H3=(H2.push (.cells [iV 0,nS,nS] true 1)).put H2.next (.cells el true 1):=⟨_,rfl⟩
 have n3:H3.next=H2.next+1:=by rw[hH3,j5,i5]
 have s3:i4 H2.next H2 H3:=by rw[hH3];exact(i4.push lR).trans (i4.put lR)
 have l3:H3.low≤H2.low:=by rw[hH3,A4,t5];omega
 have g3:H3.get H2.next=cE el 1:=by rw[hH3];exact i8 (by rw[i5];omega)
 have sp1:splice [iV 0,nS,nS] 0 el=el:=w7 _ _ (by rw[e1];rfl);have eq0:∀j,j<lo→H3.get j=H0.get j:=fun j hj=>by rw[s3.get j oM,hS.get j oM]
 have hR3:aO H3 gb O s w1 w2 w3 w4 us:=hR.keep (fun j hj=>s3.get j (by rcases hj with rfl|hj;exact hgb;exact(hR.lt j hj).2)) (fun _ h=>h) (fun b hb=>by have:=hR.lt b hb;omega);obtain⟨v4,h4,H4,hca,hge,rfl,O4,x1,x2,x3,x4,ys,hR4,hT4⟩:=ih H3 lo gb O s w1 w2 w3 w4 us el x m hlo hR3 (hr.mono eq0 lR) hsm oM;refine J17 f0 fL fM fJ b gx nt hrow a1 e1 sp1 hH3.symm g3 ld1 hca hge @wrap_small ?_;have hlen:=bU false x;exact i6 (kk-1) oM ⟨i+1,_,m+(fsQ false x).length,oM,oM,f0,f3,fL,fM,rfl,⟨O4,x1,x2,x3,x4,ys,hR4,hT.trans s3 l3 oM hT4⟩,bG _ hsm,oM,fu⟩
theorem MJ(k:Nat)(ih:dx 101 true k)(H0:d9)(lo gb:Nat)(hlo:lo≤gb)(hgb0:gb<H0.next)(O0:Nat→Prop)(s0:SpD)(va:Option Addr)(ca:Nat)(l:List Q)(hv:QsR H0 lo k true (.slice va l.length ca) l)(hn:l.length≤1048576)(p3:Value)(res:SpD):
  ∀kk e H2,(∃(i:Nat)(s:SpD)(m:Nat),kk=l.length-i∧i≤l.length∧e.get 0=pT gb∧e.get 3=p3∧e.get 20= .slice va l.length ca∧e.get 21=iV l.length∧e.get 22=iV i∧dH gb O0 s0 H0 H2 s∧Sm s m∧m+nL (l.drop i)≤100000∧(fsL true (l.drop i)).foldl I9 s=res)→
  u9 (LE prog t6 (.loop Gj) e H2) (fun o e H2=>o= .exit 2∧e.get 0=pT gb∧e.get 3=p3∧dH gb O0 s0 H0 H2 res):=by
 refine j7 _ _ ?_;rintro kk e H2 ⟨i,s,m,hkk,hi,f0,f3,fL,fM,fJ,hQ,hsm,hfit,fu⟩;rcases b:decide ((i:Int)<l.length)with _|_
 ·have hb':=dF b;have:l.drop i=[]:=dN oM;rw[this,fsL,List.foldl_nil]at fu;refine J3 fM fJ b ?_;exact l7 ⟨rfl,f0,f3,by rw[←fu];exact hQ⟩
 have hb':=dT b;obtain⟨O,w1,w2,w3,w4,us,hR,hT⟩:=hQ;have hS:=hT.stay;have hn2:=hS.next;have hgb:=u6 hR.g;obtain⟨x,nb,o,cs,own,el,hx,hd,rfl,hlt,hg,hle,hrow,hr⟩:=hv.row (i:=i) oM;have hxm:=List.mem_of_getElem? hx;have nt:(i:Int).toNat=i:=tN i;simp only[qSz,if_true,Bool.false_eq_true,if_false]at hrow hg hle;rw[eg _ _ _ _ hd,List.foldl_append]at fu;have hfit2:m+(nQ x+nL (l.drop (i+1)))≤100000:=by rw[hd,nL]at hfit;exact hfit
 have a1:el.all Value.oneCell'=true:=F0 hr;have e1:=hr.len;simp only[qSz,if_true,Bool.false_eq_true,if_false]at e1;have ld1:=M8 hr;rw[e1]at ld1;have gx:=(hS.get nb oM).trans hg;obtain⟨H3,hH3⟩:∃H3,H3=(H2.push (.cells [iV 0,.string eB,.string eB,.string eB,nS,nS] true 1)).put H2.next (.cells el true 1):=⟨_,rfl⟩
 have n3:H3.next=H2.next+1:=by rw[hH3,j5,i5]
 have s3:i4 H2.next H2 H3:=by rw[hH3];exact(i4.push lR).trans (i4.put lR)
 have l3:H3.low≤H2.low:=by rw[hH3,A4,t5];omega
 have g3:H3.get H2.next=cE el 1:=by rw[hH3];exact i8 (by rw[i5];omega)
 have sp1:splice [iV 0,.string eB,.string eB,.string eB,nS,nS] 0 el=el:=w7 _ _ (by rw[e1];rfl);have eq0:∀j,j<lo→H3.get j=H0.get j:=fun j hj=>by rw[s3.get j oM,hS.get j oM]
 have hR3:aO H3 gb O s w1 w2 w3 w4 us:=hR.keep (fun j hj=>s3.get j (by rcases hj with rfl|hj;exact hgb;exact(hR.lt j hj).2)) (fun _ h=>h) (fun b hb=>by have:=hR.lt b hb;omega);obtain⟨v4,h4,H4,hca,hge,rfl,O4,x1,x2,x3,x4,ys,hR4,hT4⟩:=ih H3 lo gb O s w1 w2 w3 w4 us el x m hlo hR3 (hr.mono eq0 lR) hsm oM;refine J17 f0 fL fM fJ b gx nt hrow a1 e1 sp1 hH3.symm g3 ld1 hca hge @wrap_small ?_;have hlen:=bU true x;exact i6 (kk-1) oM ⟨i+1,_,m+(fsQ true x).length,oM,oM,f0,f3,fL,fM,rfl,⟨O4,x1,x2,x3,x4,ys,hR4,hT.trans s3 l3 oM hT4⟩,bG _ hsm,oM,fu⟩
theorem DV(k:Nat)(ih:dx 101 true k)(H0:d9)(lo gb:Nat)(hlo:lo≤gb)(hgb0:gb<H0.next)(O0:Nat→Prop)(s0:SpD)(va:Option Addr)(ca:Nat)(l:List Q)(hv:QsR H0 lo k true (.slice va l.length ca) l)(hn:l.length≤1048576)(p3:Value)(res:SpD):
  ∀kk e H2,(∃(i:Nat)(s:SpD)(m:Nat),kk=l.length-i∧i≤l.length∧e.get 0=pT gb∧e.get 3=p3∧e.get 70= .slice va l.length ca∧e.get 71=iV l.length∧e.get 72=iV i∧dH gb O0 s0 H0 H2 s∧Sm s m∧m+nL (l.drop i)≤100000∧(fsL true (l.drop i)).foldl I9 s=res)→
  u9 (LE prog t6 (.loop Ad) e H2) (fun o e H2=>o= .exit 1∧e.get 0=pT gb∧e.get 3=p3∧dH gb O0 s0 H0 H2 res):=by
 refine j7 _ _ ?_;rintro kk e H2 ⟨i,s,m,hkk,hi,f0,f3,fL,fM,fJ,hQ,hsm,hfit,fu⟩;rcases b:decide ((i:Int)<l.length)with _|_
 ·have hb':=dF b;have:l.drop i=[]:=dN oM;rw[this,fsL,List.foldl_nil]at fu;refine J3 fM fJ b ?_;exact l7 ⟨rfl,f0,f3,by rw[←fu];exact hQ⟩
 have hb':=dT b;obtain⟨O,w1,w2,w3,w4,us,hR,hT⟩:=hQ;have hS:=hT.stay;have hn2:=hS.next;have hgb:=u6 hR.g;obtain⟨x,nb,o,cs,own,el,hx,hd,rfl,hlt,hg,hle,hrow,hr⟩:=hv.row (i:=i) oM;have hxm:=List.mem_of_getElem? hx;have nt:(i:Int).toNat=i:=tN i;simp only[qSz,if_true,Bool.false_eq_true,if_false]at hrow hg hle;rw[eg _ _ _ _ hd,List.foldl_append]at fu;have hfit2:m+(nQ x+nL (l.drop (i+1)))≤100000:=by rw[hd,nL]at hfit;exact hfit
 have a1:el.all Value.oneCell'=true:=F0 hr;have e1:=hr.len;simp only[qSz,if_true,Bool.false_eq_true,if_false]at e1;have ld1:=M8 hr;rw[e1]at ld1;have gx:=(hS.get nb oM).trans hg;obtain⟨H3,hH3⟩:∃H3,H3=(H2.push (.cells [iV 0,.string eB,.string eB,.string eB,nS,nS] true 1)).put H2.next (.cells el true 1):=⟨_,rfl⟩
 have n3:H3.next=H2.next+1:=by rw[hH3,j5,i5]
 have s3:i4 H2.next H2 H3:=by rw[hH3];exact(i4.push lR).trans (i4.put lR)
 have l3:H3.low≤H2.low:=by rw[hH3,A4,t5];omega
 have g3:H3.get H2.next=cE el 1:=by rw[hH3];exact i8 (by rw[i5];omega)
 have sp1:splice [iV 0,.string eB,.string eB,.string eB,nS,nS] 0 el=el:=w7 _ _ (by rw[e1];rfl);have eq0:∀j,j<lo→H3.get j=H0.get j:=fun j hj=>by rw[s3.get j oM,hS.get j oM]
 have hR3:aO H3 gb O s w1 w2 w3 w4 us:=hR.keep (fun j hj=>s3.get j (by rcases hj with rfl|hj;exact hgb;exact(hR.lt j hj).2)) (fun _ h=>h) (fun b hb=>by have:=hR.lt b hb;omega);obtain⟨v4,h4,H4,hca,hge,rfl,O4,x1,x2,x3,x4,ys,hR4,hT4⟩:=ih H3 lo gb O s w1 w2 w3 w4 us el x m hlo hR3 (hr.mono eq0 lR) hsm oM;refine J17 f0 fL fM fJ b gx nt hrow a1 e1 sp1 hH3.symm g3 ld1 hca hge @wrap_small ?_;have hlen:=bU true x;exact i6 (kk-1) oM ⟨i+1,_,m+(fsQ true x).length,oM,oM,f0,f3,fL,fM,rfl,⟨O4,x1,x2,x3,x4,ys,hR4,hT.trans s3 l3 oM hT4⟩,bG _ hsm,oM,fu⟩
theorem DW(k:Nat)(ih:dx 79 false k)(H0:d9)(lo gb:Nat)(hlo:lo≤gb)(hgb0:gb<H0.next)(O0:Nat→Prop)(s0:SpD)(va:Option Addr)(ca:Nat)(l:List Q)(hv:QsR H0 lo k false (.slice va l.length ca) l)(hn:l.length≤1048576)(p3:Value)(res:SpD):
  ∀kk e H2,(∃(i:Nat)(s:SpD)(m:Nat),kk=l.length-i∧i≤l.length∧e.get 0=pT gb∧e.get 3=p3∧e.get 81= .slice va l.length ca∧e.get 82=iV l.length∧e.get 83=iV i∧dH gb O0 s0 H0 H2 s∧Sm s m∧m+nL (l.drop i)≤100000∧(fsL false (l.drop i)).foldl I9 s=res)→
  u9 (LE prog t6 (.loop Ae) e H2) (fun o e H2=>o= .exit 3∧e.get 0=pT gb∧e.get 3=p3∧dH gb O0 s0 H0 H2 res):=by
 refine j7 _ _ ?_;rintro kk e H2 ⟨i,s,m,hkk,hi,f0,f3,fL,fM,fJ,hQ,hsm,hfit,fu⟩;rcases b:decide ((i:Int)<l.length)with _|_
 ·have hb':=dF b;have:l.drop i=[]:=dN oM;rw[this,fsL,List.foldl_nil]at fu;refine J3 fM fJ b ?_;exact l7 ⟨rfl,f0,f3,by rw[←fu];exact hQ⟩
 have hb':=dT b;obtain⟨O,w1,w2,w3,w4,us,hR,hT⟩:=hQ;have hS:=hT.stay;have hn2:=hS.next;have hgb:=u6 hR.g;obtain⟨x,nb,o,cs,own,el,hx,hd,rfl,hlt,hg,hle,hrow,hr⟩:=hv.row (i:=i) oM;have hxm:=List.mem_of_getElem? hx;have nt:(i:Int).toNat=i:=tN i;simp only[qSz,if_true,Bool.false_eq_true,if_false]at hrow hg hle;rw[eg _ _ _ _ hd,List.foldl_append]at fu;have hfit2:m+(nQ x+nL (l.drop (i+1)))≤100000:=by rw[hd,nL]at hfit;exact hfit
 have a1:el.all Value.oneCell'=true:=F0 hr;have e1:=hr.len;simp only[qSz,if_true,Bool.false_eq_true,if_false]at e1;have ld1:=M8 hr;rw[e1]at ld1;have gx:=(hS.get nb oM).trans hg;obtain⟨H3,hH3⟩:∃H3,H3=(H2.push (.cells [iV 0,nS,nS] true 1)).put H2.next (.cells el true 1):=⟨_,rfl⟩
 have n3:H3.next=H2.next+1:=by rw[hH3,j5,i5]
 have s3:i4 H2.next H2 H3:=by rw[hH3];exact(i4.push lR).trans (i4.put lR)
 have l3:H3.low≤H2.low:=by rw[hH3,A4,t5];omega
 have g3:H3.get H2.next=cE el 1:=by rw[hH3];exact i8 (by rw[i5];omega)
 have sp1:splice [iV 0,nS,nS] 0 el=el:=w7 _ _ (by rw[e1];rfl);have eq0:∀j,j<lo→H3.get j=H0.get j:=fun j hj=>by rw[s3.get j oM,hS.get j oM]
 have hR3:aO H3 gb O s w1 w2 w3 w4 us:=hR.keep (fun j hj=>s3.get j (by rcases hj with rfl|hj;exact hgb;exact(hR.lt j hj).2)) (fun _ h=>h) (fun b hb=>by have:=hR.lt b hb;omega);obtain⟨v4,h4,H4,hca,hge,rfl,O4,x1,x2,x3,x4,ys,hR4,hT4⟩:=ih H3 lo gb O s w1 w2 w3 w4 us el x m hlo hR3 (hr.mono eq0 lR) hsm oM;refine J17 f0 fL fM fJ b gx nt hrow a1 e1 sp1 hH3.symm g3 ld1 hca hge @wrap_small ?_;have hlen:=bU false x;exact i6 (kk-1) oM ⟨i+1,_,m+(fsQ false x).length,oM,oM,f0,f3,fL,fM,rfl,⟨O4,x1,x2,x3,x4,ys,hR4,hT.trans s3 l3 oM hT4⟩,bG _ hsm,oM,fu⟩
theorem Xt(k:Nat)(ih1:dx 79 false k)(ih2:dx 101 true k):dx 79 false (k+1):=by
 intro H lo gb O s w1 w2 w3 w4 us cs q m hlo hR hr hsm hfit;have hnq:=dE q;have hgb:=u6 hR.g;obtain⟨va,ca,wa,ca',rfl,h1,h2,h3,h4⟩:=hr.path;obtain⟨H1,hH1⟩:∃H1,H1=d9.push ⟨H.bs,H.next⟩ (.cells [iV q.op,.slice va q.a.length ca,.slice wa q.b.length ca'] true 1):=⟨_,rfl⟩
 have hS:i4 H.next H H1:=by rw[hH1];exact i4.first H _
 have hg:H1.get H.next=cE [iV q.op,.slice va q.a.length ca,.slice wa q.b.length ca'] 1:=by rw[hH1];exact i7
 have hlow:H.next≤H1.low:=by rw[hH1,t5];exact lR
 have hn:=hS.next;have hng:=u6 hg;have hm:∀j,j<lo→H1.get j=H.get j:=fun j hj=>hS.get j oM;have hR1:aO H1 gb O s w1 w2 w3 w4 us:=hR.keep (fun j hj=>hS.get j (by rcases hj with rfl|hj;exact hgb;exact(hR.lt j hj).2)) (fun _ h=>h) (fun b hb=>by have:=hR.lt b hb;omega);rw[j8 ae3 rfl _ (by simp),kE,if_neg (by decide),List.nil_append];refine J2 hH1.symm hg ?_;refine l9 (F:=fun z=>Ret (u5 _ _ _ (u7 (inBlock 0 z) _)) _ _) (MI k ih1 H1 lo gb hlo oM O s va ca q.a (h1.mono hm lR) h3 (pT H.next) ((fsL false q.a).foldl I9 s) q.a.length _ _ ⟨0,s,m,rfl,oM,rfl,rfl,rfl,rfl,rfl,⟨O,w1,w2,w3,w4,us,hR1,jA.refl _ _ _ _⟩,hsm,by rw[List.drop_zero];omega,rfl⟩) ?_;rintro o e' H2 ⟨ho,g0,g3,hQ⟩;have hQ0:=hQ;obtain⟨_,_,_,_,_,_,_,T⟩:=hQ0;have hn2:=T.stay.next;have hg2:H2.get H.next=cE [iV q.op,.slice va q.a.length ca,.slice wa q.b.length ca'] 1:=(T.but H.next oM oM (fun q=>by have:=hR.lt _ q;omega)).trans hg;have hl1:=gD false q.a;refine J3 ho g3 hg2 ?_;refine l9 (F:=fun z=>Ret (u5 _ _ _ (inBlock 2 z)) _ _) (MJ k ih2 H1 lo gb hlo oM O s wa ca' q.b (h2.mono hm lR) h4 (pT H.next) ((fsL false q.a++fsL true q.b).foldl I9 s) q.b.length _ _ ⟨0,_,m+(fsL false q.a).length,rfl,oM,g0,g3,rfl,rfl,rfl,hQ,bG _ hsm,by rw[List.drop_zero];omega,by rw[List.drop_zero,List.foldl_append]⟩) ?_;rintro o e' H3 ⟨ho,g0,g3,hQ3⟩;refine J1 ho ?_;exact jP hS hlow hR hQ3
theorem MH(k:Nat)(ih1:dx 101 true k)(ih2:dx 79 false k):dx 101 true (k+1):=by
 intro H lo gb O s w1 w2 w3 w4 us cs q m hlo hR hr hsm hfit;have hnq:=dE q;have hgb:=u6 hR.g;obtain⟨va,ca,wa,ca',hrow,h1,h2,h3,h4,_⟩:=hr.filter;obtain⟨H1,hH1⟩:∃H1,H1=d9.push ⟨H.bs,H.next⟩ (.cells cs true 1):=⟨_,rfl⟩
 have hS:i4 H.next H H1:=by rw[hH1];exact i4.first H _
 have hg:H1.get H.next=cE cs 1:=by rw[hH1];exact i7
 have hlow:H.next≤H1.low:=by rw[hH1,t5];exact lR
 have hn:=hS.next;have hng:=u6 hg;have hm:∀j,j<lo→H1.get j=H.get j:=fun j hj=>hS.get j oM;have hR1:aO H1 gb O s w1 w2 w3 w4 us:=hR.keep (fun j hj=>hS.get j (by rcases hj with rfl|hj;exact hgb;exact(hR.lt j hj).2)) (fun _ h=>h) (fun b hb=>by have:=hR.lt b hb;omega);have al:cs.all Value.oneCell'=true:=by rw[hrow];rfl
 have r0:cs[0]?=some (.int .i64 q.op):=by rw[hrow];rfl
 have r4:cs[4]?=some (.slice va q.a.length ca):=by rw[hrow];rfl
 have r5:cs[5]?=some (.slice wa q.b.length ca'):=by rw[hrow];rfl
 have hs1:Sm s 100000:=⟨by have:=hsm.1;omega,by have:=hsm.2.1;omega,fun l hl=>by have:=hsm.2.2.1 l hl;omega,by have:=hsm.2.2.2;omega⟩
 rw[j8 Wr rfl _ (by simp),kE,if_pos rfl,List.singleton_append,List.foldl_cons,Bool.not_true];refine J4 al hH1.symm hg r0 ?_;refine l9 (F:=fun z=>Ret (u5 _ _ _ (u7 z _)) _ _) (tE H1 gb H.next O s w1 w2 w3 w4 us q va wa ca ca' hR1 hs1 oM (fun h=>by have:=hR.lt _ h;omega) cs hrow hg _ rfl rfl rfl) ?_;rintro o e1 Hs ⟨rfl,g0,g3,hQs⟩;have hsm1:=rS hsm q;have hQ0:=hQs;obtain⟨_,_,_,_,_,_,_,T0⟩:=hQ0;have hns:=T0.stay.next;have hgs:Hs.get H.next=cE cs 1:=(T0.but H.next oM oM (fun q=>by have:=hR.lt _ q;omega)).trans hg;refine J3 g3 hgs r4 ?_;refine l9 (F:=fun z=>Ret (u5 _ _ _ (u7 (inBlock 1 z) _)) _ _) (DV k ih1 H1 lo gb hlo oM O s va ca q.a (h1.mono hm lR) h3 (pT H.next) ((fsL true q.a).foldl I9 (I9 s q)) q.a.length _ _ ⟨0,I9 s q,m+1,rfl,oM,g0,g3,rfl,rfl,rfl,hQs,hsm1,by rw[List.drop_zero];omega,rfl⟩) ?_;rintro o e' H2 ⟨ho,g0,g3,hQ⟩;have hQ0:=hQ;obtain⟨_,_,_,_,_,_,_,T⟩:=hQ0;have hn2:=T.stay.next;have hg2:H2.get H.next=cE cs 1:=(T.but H.next oM oM (fun q=>by have:=hR.lt _ q;omega)).trans hg;have hl1:=gD true q.a;refine J4 ho g3 hg2 r5 ?_;refine l9 (F:=fun z=>Ret (u5 _ _ _ (inBlock 3 z)) _ _) (DW k ih2 H1 lo gb hlo oM O s wa ca' q.b (h2.mono hm lR) h4 (pT H.next) ((fsL true q.a++fsL false q.b).foldl I9 (I9 s q)) q.b.length _ _ ⟨0,_,m+1+(fsL true q.a).length,rfl,oM,g0,g3,rfl,rfl,rfl,hQ,bG _ hsm1,by rw[List.drop_zero];omega,by rw[List.drop_zero,List.foldl_append]⟩) ?_;rintro o e' H3 ⟨ho,g0,g3,hQ3⟩;refine J1 ho ?_;exact jP hS hlow hR hQ3
theorem DX:∀k,dx 79 false k∧dx 101 true k:=by
 intro k;induction k with
 |zero=>exact⟨fun H lo gb O s w1 w2 w3 w4 us cs q m _ _ hr=>hr.elim,fun H lo gb O s w1 w2 w3 w4 us cs q m _ _ hr=>hr.elim⟩
 |succ k ih=>exact⟨Xt k ih.1 ih.2,MH k ih.2 ih.1⟩
structure SpO(H:d9)(lo:Nat)(O:Nat→Prop)(s:SpD)(w1 w2 w3 w4:Value)(us:LV):Prop where
 n:t7 H lo 2 (v8 nmE) w1 s.names
 a:t7 H lo 2 (v8 nmE) w2 s.attrs
 v:t7 H lo 1 (v8 fun u=>[u]) w3 us
 len:us.length=s.vals.length
 u:∀(i:Nat)(u:Value)(l:List ByteArray),us[i]?=some u→s.vals[i]?=some l→t7 H lo 1 (v8 stE) u l
 t:t7 H lo 1 (v8 stE) w4 s.texts
 ap:aJ (w1::w2::w3::w4::us)
 o:∀w∈w1::w2::w3::w4::us,∀b,j9 w b→O b
 lt:∀b,O b→lo≤b∧b<H.next
theorem SpO.keep{H H':d9}{lo lo':Nat}{O O':Nat→Prop}{s:SpD}{w1 w2 w3 w4:Value}{us:LV}(h:SpO H lo O s w1 w2 w3 w4 us)(hg:∀j,O j→H'.get j=H.get j) (hO:∀b,O b→O' b) (hlt:∀b,O' b→lo'≤b∧b<H'.next) (hl:lo'≤lo):SpO H' lo' O' s w1 w2 w3 w4 us:=
 ⟨(h.n.same fun b hb=>hg b (h.o _ (by simp) b hb)).weaken hl,(h.a.same fun b hb=>hg b (h.o _ (by simp) b hb)).weaken hl,(h.v.same fun b hb=>hg b (h.o _ (by simp) b hb)).weaken hl,h.len,
  fun i u l hu hl'=>((h.u i u l hu hl').same fun b hb=>hg b (h.o _ (by simp [List.mem_of_getElem? hu]) b hb)).weaken hl,(h.t.same fun b hb=>hg b (h.o _ (by simp) b hb)).weaken hl,h.ap,fun w hw b hb=>hO b (h.o w hw b hb),hlt⟩
theorem aO.spo{H:d9}{gb:Nat}{O:Nat→Prop}{s:SpD}{w1 w2 w3 w4:Value}{us:LV}(h:aO H gb O s w1 w2 w3 w4 us):SpO H (gb+1) O s w1 w2 w3 w4 us:=⟨h.n,h.a,h.v,h.len,h.u,h.t,h.ap,h.o,fun b hb=>h.lt b hb⟩
theorem rO(k:Nat)(H0:d9)(lo gb:Nat)(hlo:lo≤gb)(hgb0:gb<H0.next)(O0:Nat→Prop)(s0:SpD)(va:Option Addr)(ca:Nat)(l:List Q)(hv:QsR H0 lo k false (.slice va l.length ca) l)(hn:l.length≤1048576)(p2:Value)(res:SpD):
  ∀kk e H2,(∃(i:Nat)(s:SpD)(m:Nat),kk=l.length-i∧i≤l.length∧e.get 3=pT gb∧e.get 2=p2∧e.get 6= .slice va l.length ca∧e.get 7=iV l.length∧e.get 8=iV i∧dH gb O0 s0 H0 H2 s∧Sm s m∧m+nL (l.drop i)≤100000∧(fsL false (l.drop i)).foldl I9 s=res)→
  u9 (LE prog t6 (.loop FK) e H2) (fun o e H2=>o= .exit 0∧e.get 3=pT gb∧e.get 2=p2∧dH gb O0 s0 H0 H2 res):=by
 refine j7 _ _ ?_;rintro kk e H2 ⟨i,s,m,hkk,hi,f0,f3,fL,fM,fJ,hQ,hsm,hfit,fu⟩;rcases b:decide ((i:Int)<l.length)with _|_
 ·have hb':=dF b;have:l.drop i=[]:=dN oM;rw[this,fsL,List.foldl_nil]at fu;refine J3 fM fJ b ?_;exact l7 ⟨rfl,f0,f3,by rw[←fu];exact hQ⟩
 have hb':=dT b;obtain⟨O,w1,w2,w3,w4,us,hR,hT⟩:=hQ;have hS:=hT.stay;have hn2:=hS.next;have hgb:=u6 hR.g;obtain⟨x,nb,o,cs,own,el,hx,hd,rfl,hlt,hg,hle,hrow,hr⟩:=hv.row (i:=i) oM;have nt:(i:Int).toNat=i:=tN i;simp only[qSz,Bool.false_eq_true,if_false]at hrow hg hle;rw[eg _ _ _ _ hd,List.foldl_append]at fu;have hfit2:m+(nQ x+nL (l.drop (i+1)))≤100000:=by rw[hd,nL]at hfit;exact hfit
 have a1:el.all Value.oneCell'=true:=F0 hr;have e1:=hr.len;simp only[qSz,Bool.false_eq_true,if_false]at e1;have ld1:=M8 hr;rw[e1]at ld1;have gx:=(hS.get nb oM).trans hg;obtain⟨H3,hH3⟩:∃H3,H3=(H2.push (.cells [iV 0,nS,nS] true 1)).put H2.next (.cells el true 1):=⟨_,rfl⟩
 have n3:H3.next=H2.next+1:=by rw[hH3,j5,i5]
 have s3:i4 H2.next H2 H3:=by rw[hH3];exact(i4.push lR).trans (i4.put lR)
 have l3:H3.low≤H2.low:=by rw[hH3,A4,t5];omega
 have g3:H3.get H2.next=cE el 1:=by rw[hH3];exact i8 (by rw[i5];omega)
 have sp1:splice [iV 0,nS,nS] 0 el=el:=w7 _ _ (by rw[e1];rfl);have eq0:∀j,j<lo→H3.get j=H0.get j:=fun j hj=>by rw[s3.get j oM,hS.get j oM]
 have hR3:aO H3 gb O s w1 w2 w3 w4 us:=hR.keep (fun j hj=>s3.get j (by rcases hj with rfl|hj;exact hgb;exact(hR.lt j hj).2)) (fun _ h=>h) (fun b hb=>by have:=hR.lt b hb;omega);obtain⟨v4,h4,H4,hca,hge,rfl,O4,x1,x2,x3,x4,ys,hR4,hT4⟩:=(DX k).1 H3 lo gb O s w1 w2 w3 w4 us el x m hlo hR3 (hr.mono eq0 lR) hsm oM;refine J17 f0 fL fM fJ b gx nt hrow a1 e1 sp1 hH3.symm g3 ld1 hca hge @wrap_small ?_;have hlen:=bU false x;exact i6 (kk-1) oM ⟨i+1,_,m+(fsQ false x).length,oM,oM,f0,f3,fL,fM,rfl,⟨O4,x1,x2,x3,x4,ys,hR4,hT.trans s3 l3 oM hT4⟩,bG _ hsm,oM,fu⟩
theorem NN(H:d9)(lo k:Nat)(v:Value)(l:List Q)(hlo:lo≤H.next)(hv:QsR H lo k false v l)(hfit:nL l≤100000)(hn:l.length≤1048576):
  Ret (CL prog t6 52 [v] H) H fun w H1=>∃w1 w2 w3 w4 us O,w= .agg #[w1,w2,w3,w4]∧SpO H1 H.next O ((fsL false l).foldl I9 ⟨[],[],[],[]⟩) w1 w2 w3 w4 us∧i4 H.next H H1:=by
 obtain⟨va,ca,rfl⟩:=SlI.slice hv;obtain⟨z4,hz4⟩:∃z:LV,z=[nS,nS,nS,nS]:=⟨_,rfl⟩
 obtain⟨H1,hH1⟩:∃H1,H1=(d9.push ⟨H.bs,H.next⟩ (.cells z4 true 1)).push (.cells z4 true 1):=⟨_,rfl⟩
 have n0:(d9.push ⟨H.bs,H.next⟩ (.cells z4 true 1)).next=H.next+1:=by rw[i5];rfl
 have n1:H1.next=H.next+2:=by rw[hH1,i5,n0]
 have hS:i4 H.next H H1:=by rw[hH1];exact(i4.first H _).trans (i4.push oM)
 have g1:H1.get H.next=cE z4 1:=by rw[hH1,j6 oM];exact i7
 have g2:H1.get (H.next+1)=cE z4 1:=by rw[hH1];exact y7 oM
 have hlow:H.next≤H1.low:=by rw[hH1,t5,t5];exact lR
 have hm:∀j,j<lo→H1.get j=H.get j:=fun j hj=>hS.get j oM;have hap:aJ ([nS,nS,nS,nS]:LV):=fun i j a b ha hb hij x hx hy=>by
  have:a=nS:=by
   have:=List.mem_of_getElem? ha
   simpa using this
  rw[this]at hx;exact A9 x hx
 have nil4:∀w∈([nS,nS,nS,nS]:LV),∀b,j9 w b→False:=fun w hw b hb=>by
  have:w=nS:=by simpa using hw
  rw[this]at hb;exact A9 b hb
 have hR0:aO H1 (H.next+1) (fun _=>False) ⟨[],[],[],[]⟩ (nS) (nS) (nS) (nS) []:=⟨by rw[g2,hz4],t7.nil,t7.nil,t7.nil,rfl,rfl,fun i u l hu=>(by cases hu),t7.nil,hap,nil4,fun b hb=>hb.elim⟩
 rw[j8 ac1 rfl _ (by simp)];refine J2 hz4.symm hH1.symm ?_;refine l9 (F:=fun z=>Ret (u5 _ _ _ (u7 (inBlock 0 z) _)) _ _) (rO k H1 lo (H.next+1) oM oM (fun _=>False) ⟨[],[],[],[]⟩ va ca l (SlI.mono hv hm lR fun _ _ h=>h.mono hm lR) hn (pT H.next) _ l.length _ _ ⟨0,⟨[],[],[],[]⟩,0,rfl,oM,rfl,rfl,rfl,rfl,rfl,⟨_,_,_,_,_,_,hR0,jA.refl _ _ _ _⟩,⟨lR,lR,fun l hl=>(by cases hl),lR⟩,by rw[List.drop_zero];omega,rfl⟩) ?_;rintro o e' H2 ⟨ho,q3,q2,O,w1,w2,w3,w4,us,hR,hT⟩;rw[List.drop_zero]at hR hT;have n2:=hT.stay.next;have gg:=hR.g;have g22:H2.get H.next=cE z4 1:=(hT.stay.get _ oM).trans g1;obtain⟨a1,c1,e1⟩:=hR.n.slice;obtain⟨a2,c2,e2⟩:=hR.a.slice;obtain⟨a3,c3,e3⟩:=hR.v.slice;obtain⟨a4,c4,e4⟩:=hR.t.slice;obtain⟨row,hrow⟩:∃r,r=[w1,w2,w3,w4]:=⟨_,rfl⟩
 rw[←hrow]at gg;have ld4:ldC (some true) (some 4) 0 row=some (.agg row.toArray):=by rw[hrow];rfl
 have a4':row.all Value.oneCell'=true:=by rw[hrow,e1,e2,e3,e4];rfl
 have l4:row.length=4:=by rw[hrow];rfl
 have lz:z4.length=4:=by rw[hz4];rfl
 have spl:splice z4 0 row=row:=w7 _ _ (by rw[l4,lz]);obtain⟨H3,hH3⟩:∃H3,H3=H2.put H.next (.cells row true 1):=⟨_,rfl⟩
 have n3:H3.next=H2.next:=by rw[hH3,j5]
 have g3:H3.get H.next=cE row 1:=by rw[hH3];exact i8 oM
 have s13:i4 H.next H1 H3:=by rw[hH3];exact(hT.stay.weaken oM).trans (i4.put lR)
 have hl3:=s13.low hlow;refine J12 ho q3 q2 gg ld4 g22 l4 lz a4' spl hH3.symm g3 ?_;have hsp:SpO H3 H.next O _ w1 w2 w3 w4 us:=hR.spo.keep (fun j hj=>by rw[hH3,i9 (by have:=hR.lt j hj;omega)]) (fun _ h=>h) (fun b hb=>by have:=hR.lt b hb;omega) oM;refine ce (fun hc=>?_) ?_
 ·rw[hrow]at hc;simp only[List.all_cons,List.all_nil,Bool.and_true,Bool.and_eq_true]at hc;obtain⟨z1,y1⟩:=au hR.n hc.1;obtain⟨z2,y2⟩:=au hR.a hc.2.1;obtain⟨z3,y3⟩:=au hR.v hc.2.2.1;obtain⟨z4,y4⟩:=au hR.t hc.2.2.2;have y5:=hR.len;rw[y3]at y5;have y6:=List.length_eq_zero_iff.1 y5.symm;refine⟨w1,w2,w3,w4,[],fun _=>False,by rw[hrow],⟨?_,?_,?_,(by rw[y6];rfl),fun i u l hu=>(by cases hu),?_,(by rw[z1,z2,z3,z4];exact hap),fun w hw b hb=>?_,fun b hb=>hb.elim⟩,i4.refl _ _⟩
  ·rw[y1,z1];exact t7.nil
  ·rw[y2,z2];exact t7.nil
  ·rw[z3];exact t7.nil
  ·rw[y4,z4];exact t7.nil
  ·rw[z1,z2,z3,z4]at hw;have:w=nS:=by simpa using hw
   rw[this]at hb;exact A9 b hb
 ·exact⟨w1,w2,w3,w4,us,O,by rw[hrow],hsp.keep (fun _ _=>rfl) (fun _ h=>h) hsp.lt lR,(hS.trans s13).ret hl3⟩
def R4:List (NmQ×List ByteArray)→EvD→List EvD
 |[],e=>[e]
 |x::r,e=>R4 r e++(Q8 x.2).flatMap fun v=>R4 r (atV x.1 e v)
theorem AN(l:List ByteArray):Q8 l=l++[frS l eB [eB]]:=by
 have he:∀n,eB++dg n=dg n:=fun n=>by
  have h1:=aX eB (dg n);exact oF (by rw[h1];rfl)
 have hn:frN l eB=T7 l:=by unfold frN T7;simp only[he]
 rw[Q8,frS,List.find?_cons];cases h:V0 l eB with
 |true=>simp [hn,he]
 |false=>simp
structure su(H:d9)(G:Nat→Prop)(pw pf:Nat)(fv:Value)(s:SpD)(w1 w2 w3 w4:Value):Prop where
 gw:H.get pw=cE [w1,w2,w3,w4] 1
 gf:H.get pf=cE [fv] 1
 iw:G pw
 jf:G pf
 a:SlF H G 2 (v8 nmE) w2 s.attrs
 v:SlF H G 1 (VlF H G) w3 s.vals
 len:s.vals.length=s.attrs.length
 al:s.attrs.length≤1000
 vl:∀x∈s.vals,x.length≤90
theorem su.mono{H H':d9}{G G':Nat→Prop}{pw pf:Nat}{fv:Value}{s:SpD}{w1 w2 w3 w4:Value}(h:su H G pw pf fv s w1 w2 w3 w4)(hg:∀j,G j→H'.get j=H.get j) (hG:∀j,G j→G' j):su H' G' pw pf fv s w1 w2 w3 w4:=
 ⟨(hg pw h.iw).trans h.gw,(hg pf h.jf).trans h.gf,hG _ h.iw,hG _ h.jf,h.a.mono hg hG iF,h.v.mono hg hG (fun _ _ h=>h.mono hg hG),h.len,h.al,h.vl⟩
structure dI(H:d9)(po:Nat)(G:Nat→Prop)(w:Value)(l:List EvD):Prop where
 g:H.get po=cE [w] 1
 own:t7 H (po+1) 5 (EvF H G) w l
 ap:∀j,G j→j<H.next∧j≠po∧¬j9 w j
structure cd(po:Nat)(G0:Nat→Prop)(w0:Value)(H0:d9)(G:Nat→Prop)(w:Value)(H:d9):Prop where
 sub:∀j,G0 j→G j
 new:∀j,G j→G0 j∨H0.next≤j
 but:∀j,j<H0.next→j≠po→¬j9 w0 j→H.get j=H0.get j
 neww:∀b,j9 w b→j9 w0 b∨H0.next≤b
 stay:i4 po H0 H
theorem cd.refl(po:Nat)(G:Nat→Prop)(w:Value)(H:d9):cd po G w H G w H:=⟨fun _ h=>h,fun _ h=> .inl h,fun _ _ _ _=>rfl,fun _ h=> .inl h,i4.refl _ _⟩
theorem cd.trans{po:Nat}{G0 G1 G2:Nat→Prop}{w0 w1 w2:Value}{H0 H1 H2:d9}(h:cd po G0 w0 H0 G1 w1 H1)(k:cd po G1 w1 H1 G2 w2 H2):cd po G0 w0 H0 G2 w2 H2:=by
 have n1:=h.stay.next;refine⟨fun j hj=>k.sub j (h.sub j hj),fun j hj=>?_,fun j hj h1 h2=>?_,fun b hb=>?_,h.stay.trans k.stay⟩
 ·rcases k.new j hj with q|q
  ·exact h.new j q
  ·exact .inr oM
 ·rw[k.but j oM h1 (fun q=>by rcases h.neww j q with r|r;exact h2 r;omega),h.but j hj h1 h2]
 ·rcases k.neww b hb with q|q
  ·exact h.neww b q
  ·exact .inr oM
theorem dI.push{H H1:d9}{po:Nat}{G G1:Nat→Prop}{w:Value}{l:List EvD}(h:dI H po G w l)(hS:i4 H.next H H1)(hG:∀j,G j→G1 j) (hn:∀j,G1 j→G j∨(H.next≤j∧j<H1.next)):dI H1 po G1 w l∧cd po G w H G1 w H1:=by
 have hn1:=hS.next;have hpo:=u6 h.g;refine⟨⟨(hS.get po hpo).trans h.g,(h.own.keep hS).imp fun cs a q=>w9 _ _ _ _ _ _ q (fun j hj=>hS.get j (h.ap j hj).1) hG,fun j hj=>?_⟩,hG,fun j hj=>(hn j hj).imp id fun q=>q.1,fun j hj _ _=>hS.get j hj,fun b hb=> .inl hb,hS.weaken oM⟩;rcases hn j hj with q|q
 ·have:=h.ap j q;exact⟨oM,this.2⟩
 ·exact⟨q.2,oM,fun r=>by have:=h.own.lt r;omega⟩
theorem dI.add{H:d9}{po:Nat}{G:Nat→Prop}{w:Value}{l:List EvD}(h:dI H po G w l){row:LV}{e:EvD}(he:EvF H G row e)(hl:l.length≤1000000):
  ∃v' h' H',C3 prog (H.push (.cells row true 5)) [35,35] w (.slice (some ⟨H.next,0,none⟩) 1 1)=dr v' h'∧h'.getD (H.push (.cells row true 5))=H'∧H'.get po=cE [w] 1∧(∃a c,v'= .slice a (l++[e]).length c)∧
   dI (H'.put po (.cells [v'] true 1)) po G v' (l++[e])∧cd po G w H G v' (H'.put po (.cells [v'] true 1)):=by
 have hpo:=u6 h.g;have hlen:row.length=5:=by obtain⟨v,rfl,_⟩:=he;rfl
 obtain⟨v',h',H',r1,r2,hO,hG⟩:=h.own.push1F (P:=prog) (t:=35) (cs:=row) (a:=e) (by exact uT.2.2.2.2.2.2) aG.1 aG.2.1 aG.2.2.1 oM oM hlen he oM oM;have hn:=hG.next;have nb:¬j9 w po:=fun q=>by have:=h.own.lt q;omega
 have g2:=(hG.but po hpo nb).trans h.g;have nv:¬j9 v' po:=fun q=>by have:=hO.lt q;omega
 have fr:∀j,j<H.next→j≠po→¬j9 w j→(H'.put po (.cells [v'] true 1)).get j=H.get j:=fun j hj h1 h2=>by rw[i9 (fun q=>h1 q.symm),hG.but j hj h2]
 refine⟨v',h',H',r1,r2,g2,hO.slice,⟨i8 oM,(hO.same fun b hb=>i9 (fun q=>by rw[←q]at hb;exact nv hb)).imp fun cs a q=>w9 _ _ _ _ _ _ q (fun j hj=>by have:=h.ap j hj;exact fr j this.1 this.2.1 this.2.2) (fun _ h=>h),fun j hj=>?_⟩,fun _ h=>h,fun _ h=> .inl h,fr,hG.new,(hG.stay.weaken oM).trans (i4.put lR)⟩;have:=h.ap j hj;refine⟨by rw[j5];omega,this.2.1,fun q=>?_⟩;rcases hG.new j q with r|r
 ·exact this.2.2 r
 ·omega
abbrev xu(pw po pf:Nat):Value:= .func (.func 54) #[] #[pT pw,pT po,pT pf]
def jZ(rest:List (NmQ×List ByteArray)):Prop:=∀(H:d9)(pw po pf i:Nat)(G:Nat→Prop)(s:SpD)(w1 w2 w3 w4 w:Value)(l:List EvD)(row:LV)(e:EvD),
 su H G pw pf (xu pw po pf) s w1 w2 w3 w4→dI H po G w l→EvF H G row e→(s.attrs.zip s.vals).drop i=rest→i+rest.length=s.attrs.length→l.length+(R4 rest e).length≤1000000→e.attrs.length+rest.length≤1000→
 Ret (CL prog t6 54 [.agg row.toArray,iV i,pT pw,pT po,pT pf] H) H fun v H1=>v=undef∧∃G' w',dI H1 po G' w' (l++R4 rest e)∧cd po G w H G' w' H1∧H1.low≤po
theorem qa{H H1 H':d9}{po:Nat}{G G1:Nat→Prop}{w w':Value}{l:List EvD}(hpo:po<H.next)(hw:∀b,j9 w b→po+1≤b∧b<H.next) (hS1:i4 H.next H H1) (hT1:cd po G w H G1 w H1) {G':Nat→Prop} (hO:dI H' po G' w' l) (hT:cd po G1 w H1 G' w' H') (hlow:H'.low≤po) (hlow1:H.next≤H1.low):
  Ret (some (D4 undef H H')) H fun v H1=>v=undef∧∃G' w',dI H1 po G' w' l∧cd po G w H G' w' H1∧H1.low≤po:=by
 refine D7 (fun _ hl=>oM) ⟨rfl,G',w',⟨hO.g,hO.own.low _ |>.imp fun cs a q=>w9 _ _ _ _ _ _ q (fun _ _=>rfl) (fun _ h=>h),hO.ap⟩,?_,by show min H.low H'.low≤po;omega⟩;have hT2:=hT1.trans hT;refine⟨hT2.sub,hT2.new,hT2.but,hT2.neww,⟨hT2.stay.next,fun k hk q=>?_,hT2.stay.get⟩⟩;have:=hT2.stay.lowAll k hk q;show k≤min H.low H'.low;omega
theorem Od:jZ []:=by
 intro H pw po pf i G s w1 w2 w3 w4 w l row e hC hO he hd hi hl hat;have hpo:=u6 hO.g;have hev:=he;obtain⟨av,hrow,hav⟩:=hev;obtain⟨ava,avc,rfl⟩:=hav.slice;obtain⟨aa,ac,rfl⟩:=hC.a.slice;have ar:row.all Value.oneCell'=true:=by rw[hrow];rfl
 have lr:row.length=5:=by rw[hrow];rfl
 have ldr:ldC (some true) (some 5) 0 row=some (.agg row.toArray):=by rw[hrow];rfl
 obtain⟨H1,hH1⟩:∃H1,H1=d9.push ⟨H.bs,H.next⟩ (.cells row true 1):=⟨_,rfl⟩
 have hS:i4 H.next H H1:=by rw[hH1];exact i4.first H _
 have n1:H1.next=H.next+1:=by rw[hH1,i5];rfl
 have hlow:H.next≤H1.low:=by rw[hH1];exact lR
 have g1:H1.get H.next=cE row 1:=by rw[hH1];exact i7
 obtain⟨hO1,hT1⟩:=hO.push (G1:=G) hS (fun _ h=>h) (fun _ h=> .inl h);have hC1:=hC.mono (H':=H1) (fun j hj=>hS.get j (hO.ap j hj).1) (fun _ h=>h);have he1:=w9 _ _ _ _ _ _ he (fun j hj=>hS.get j (hO.ap j hj).1) (fun _ h=>h);obtain⟨v',h',H3,r1,r2,g3,⟨a',c',e'⟩,hO4,hT4⟩:=hO1.add he1 (by rw[R4]at hl;simp at hl;omega);obtain⟨H2,hH2⟩:∃K,K=H1.push (.cells row true 5):=⟨_,rfl⟩
 rw[←hH2]at r1 r2;have bsl:bsA prog (some 51) H1 1 [(0,.agg row.toArray)]=some (.slice (some ⟨H1.next,0,none⟩) 1 1,H2):=by
  rw[hH2];simp only[C7,aG,C8];rw[hrow];rfl
 obtain⟨H4,hH4⟩:∃K,K=H3.put po (.cells [v'] true 1):=⟨_,rfl⟩
 rw[←hH4]at hO4 hT4;have cu:v'.cells.toList=[v']:=by rw[e'];rfl
 have ou:Value.oneCell' v'=true:=by rw[e'];rfl
 have hlw:H4.low≤po:=by rw[hH4,A4];omega
 have bi:decide ((i:Int)=s.attrs.length)=true:=decide_eq_true (by simp at hi;omega);have gw1:=hC1.gw;have go1:=hO1.g;have q1:∀a b c d:Value,[a,b,c,d][1]?=some b:=fun _ _ _ _=>rfl;rw[j8 Xm rfl _ (by simp)];refine J15 ar hH1.symm gw1 q1 bi g1 ldr go1 bsl r1 r2 g3 cu ou hH4.symm ?_;exact qa hpo (fun b hb=>hO.own.lt hb) hS hT1 hO4 hT4 hlw hlow
theorem Bg(n:NmQ)(vs0:List ByteArray)(rest:List (NmQ×List ByteArray))(ih:jZ rest)(H0:d9)(pw po pf pe i:Nat)(G0:Nat→Prop)(s:SpD)(w1 w2 w3 w4 w0:Value)(row:LV)(e0:EvD)(va:Option Addr)(ca:Nat)(vs:List ByteArray)
  (hC:su H0 G0 pw pf (xu pw po pf) s w1 w2 w3 w4) (hap:∀j,G0 j→j<H0.next∧j≠po∧¬j9 w0 j) (hpo:po<H0.next) (he:EvF H0 G0 row e0) (hpe:G0 pe) (hge:H0.get pe=cE row 1) (hv:SlF H0 G0 1 (v8 stE) (.slice va vs.length ca) vs) (hvl:vs.length≤1000) (hv1:1≤vs.length)
  (hd:(s.attrs.zip s.vals).drop (i+1)=rest) (hi:i+1+rest.length=s.attrs.length) (hn:s.attrs[i]?=some n) (hat:e0.attrs.length+1+rest.length≤1000) (res:List EvD):
  ∀kk e H2,(∃(j:Nat)(G:Nat→Prop)(w:Value)(l:List EvD),kk=vs.length-j∧j≤vs.length∧e.get 1=iV i∧e.get 2=pT pw∧e.get 4=pT pf∧e.get 5=pT pe∧e.get 40= .slice va vs.length ca∧e.get 41=iV vs.length∧e.get 42=iV j∧
    dI H2 po G w l∧cd po G0 w0 H0 G w H2∧(j=0∨H2.low≤po)∧l++((vs.drop j).flatMap fun v=>R4 rest (atV n e0 v))=res∧res.length≤1000000)→
  u9 (LE prog t6 (.loop FM) e H2) (fun o e H2=>o= .exit 0∧∃(G:Nat→Prop)(w:Value),dI H2 po G w res∧cd po G0 w0 H0 G w H2∧H2.low≤po):=by
 refine j7 _ _ ?_;rintro kk e H2 ⟨j,G,w,l,hkk,hj,f1,f2,f4,f5,f40,f41,f42,hO,hT,hlw,fu,hres⟩;rcases b:decide ((j:Int)<vs.length)with _|_
 ·have hb':=dF b;have:vs.drop j=[]:=dN oM;rw[this,List.flatMap_nil,List.append_nil]at fu;refine J3 f41 f42 b ?_;exact l7 ⟨rfl,G,w,by rw[←fu];exact hO,hT,oM⟩
 have hb':=dT b;have fr:∀j,G0 j→H2.get j=H0.get j:=fun j hj=>by have:=hap j hj;exact hT.but j this.1 this.2.1 this.2.2
 have nx:=hT.stay.next;obtain⟨v,nb,o,cs,own,elv,hx,hdv,rfl,hF,hg,hle,hrow,hc,rfl⟩:=hv.row (i:=j) oM;have c0:=hc 0 oM;rw[Nat.add_zero]at c0;have ntj:(j:Int).toNat=j:=tN j;rw[hdv,List.flatMap_cons,←List.append_assoc]at fu;have gv:=(fr nb hF).trans hg;have hC2:=hC.mono fr hT.sub;obtain⟨av,hrw,hav⟩:=w9 _ _ _ _ _ _ he fr hT.sub;obtain⟨ava,avc,rfl⟩:=hav.slice;have hpo2:po<H2.next:=oM;have ar:row.all Value.oneCell'=true:=by rw[hrw];rfl
 have lr:row.length=5:=by rw[hrw];rfl
 have ldr:ldC (some true) (some 5) 0 row=some (.agg row.toArray):=by rw[hrw];rfl
 have r3:row[3]?=some (.slice ava e0.attrs.length avc):=by rw[hrw];rfl
 have ge2:=(fr pe hpe).trans hge;obtain⟨Ha,hHa,-,hga⟩:=pushE H2 (.cells [iV 0,.string eB,.string eB,nS,.string eB] true 1);obtain⟨H3,hH3⟩:∃K,K=Ha.put H2.next (.cells row true 1):=⟨_,rfl⟩
 have na:Ha.next=H2.next+1:=by rw[hHa,i5]
 have n3:H3.next=H2.next+1:=by rw[hH3,j5,na]
 have s3:i4 H2.next H2 H3:=by rw[hH3,hHa];exact(i4.push lR).trans (i4.put lR)
 have g3:H3.get H2.next=cE row 1:=by rw[hH3];exact i8 oM
 have sp1:splice [iV 0,.string eB,.string eB,nS,.string eB] 0 row=row:=w7 _ _ (by rw[lr];rfl);have lt2:∀j,G0 j→j<H2.next:=fun j hj=>by have:=hap j hj;omega
 have fr3:∀j,G0 j→H3.get j=H2.get j:=fun j hj=>s3.get j (lt2 j hj);have ge3:=(fr3 pe hpe).trans ge2;have gw3:=(fr3 pw hC.iw).trans ((fr pw hC.iw).trans hC.gw);have gf3:=(fr3 pf hC.jf).trans ((fr pf hC.jf).trans hC.gf);obtain⟨cv,hcv,H4,hc37,hg37,hO4,s4⟩:=vn (α:=AtD) (v8 atE) H3 H3.next (.slice ava e0.attrs.length avc) e0.attrs lR ((hav.mono (H':=H3) (F':=(· <H3.next)) (fun j hj=>by have:=hO.ap j hj;exact s3.get j this.1) (fun j hj=>by have:=hO.ap j hj;omega) iF).sl fun _ h=>h) oM;have n4:=s4.next;have fr4:∀j,G0 j→H4.get j=H3.get j:=fun j hj=>s4.get j (by have:=lt2 j hj;omega);obtain⟨aa,ac,e2⟩:=hC.a.slice;obtain⟨nn,nba,oa,csa,owna,ela,hxa,hda,eaa,hFa,hga',hlea,hrowa,hca,rfl⟩:=(e2▸hC.a).row (i:=i) (by have:=(List.getElem?_eq_some_iff.1 hn).1;exact this);obtain rfl:n=nn:=Option.some.inj (hn.symm.trans hxa);have gn3:=(fr3 nba hFa).trans ((fr nba hFa).trans hga');have gn4:=(fr4 nba hFa).trans gn3;have gw4:=(fr4 pw hC.iw).trans gw3;have nti:(i:Int).toNat=i:=tN i;have hil:(i:Int)<s.attrs.length:=by have:=(List.getElem?_eq_some_iff.1 hn).1;omega
 obtain⟨H5,hH5⟩:∃K,K=H4.push (.cells [.string n.1,.string n.2,.string v] true 3):=⟨_,rfl⟩
 obtain⟨v6,h6,H6,ha6,hge6,hO6,s6⟩:=hO4.push1 (P:=prog) (t:=49) (by exact yM.2.2.2.2.2.2) ik.1 ik.2.1 ik.2.2.1 oM oM (cs:=[.string n.1,.string n.2,.string v]) (a:=(⟨n.1,n.2,v⟩:AtD)) rfl rfl oM oM;rw[←hH5]at ha6 hge6;have n6:=s6.next;obtain⟨a6,c6,e6⟩:=hO6.slice;have cu:v6.cells.toList=[v6]:=by rw[e6];rfl
 have ou:Value.oneCell' v6=true:=by rw[e6];rfl
 have gx6:H6.get H2.next=cE row 1:=by rw[s6.get _ oM,s4.get _ oM];exact g3
 obtain⟨row',hrow'⟩:∃r,r=row.set 3 v6:=⟨_,rfl⟩
 have erow':row'=[iV e0.kind,.string e0.space,.string e0.loc,v6,.string e0.text]:=by rw[hrow',hrw];rfl
 have spr:splice row 3 [v6]=row':=by rw[hrow'];rfl
 obtain⟨H7,hH7⟩:∃K,K=H6.put H2.next (.cells row' true 1):=⟨_,rfl⟩
 have n7:H7.next=H6.next:=by rw[hH7,j5]
 have g7:H7.get H2.next=cE row' 1:=by rw[hH7];exact i8 oM
 have ldr':ldC (some true) (some 5) 0 row'=some (.agg row'.toArray):=by rw[erow'];rfl
 have s27:i4 H2.next H2 H7:=by rw[hH7];exact((s3.trans (s4.weaken oM)).trans (s6.weaken oM)).trans (i4.put lR)
 obtain⟨hO7,hT7⟩:=hO.push (G1:=fun j=>G j∨j9 v6 j) s27 (fun _ h=> .inl h) (fun j hj=>hj.imp id fun q=>by have:=hO6.lt q;omega);have he7:EvF H7 (fun j=>G j∨j9 v6 j) row' (atV n e0 v):=⟨v6,erow',(hO6.same (H':=H7) fun b hb=>by rw[hH7];exact i9 (fun q=>by have:=hO6.lt hb;omega)).frz fun b hb=> .inr hb⟩
 have fr7:∀j,G0 j→H7.get j=H2.get j:=fun j hj=>s27.get j (lt2 j hj);have hC7:=hC.mono (H':=H7) (G':=fun j=>G j∨j9 v6 j) (fun j hj=>(fr7 j hj).trans (fr j hj)) (fun j hj=> .inl (hT.sub j hj));have gf7:=(fr7 pf hC.jf).trans ((fr pf hC.jf).trans hC.gf);have hatl:(atV n e0 v).attrs.length=e0.attrs.length+1:=by simp [atV]
 have hlen:l.length+(R4 rest (atV n e0 v)).length+((vs.drop (j+1)).flatMap fun v=>R4 rest (atV n e0 v)).length=res.length:=by rw[←fu,List.length_append,List.length_append]
 obtain⟨vv,h8,H8,hca8,hge8,rfl,G8,w8,hO8,hT8,hl8⟩:=ih H7 pw po pf (i+1) _ s w1 w2 w3 w4 w l row' (atV n e0 v) hC7 hO7 he7 hd hi oM oM;have hi1:((i:Int)+1)=((i+1:Nat):Int):=oM;have q1:∀a b c d:Value,[a,b,c,d][1]?=some b:=fun _ _ _ _=>rfl;have i0:(0:Int)≤i:=oM;have bb49:bsA prog (some 53) H4 1 [(0,.agg #[.string n.1,.string n.2,.string v])]=some (.slice (some ⟨H4.next,0,none⟩) 1 1,H5):=by
  rw[hH5];simp only[C7,ik,C8];rfl
 have hal:=hC.al;subst eaa;refine J30 f1 f2 f4 f5 f40 f41 f42 b gv ntj c0 ge2 ldr hHa.symm (And.intro hga lr) (And.intro ar sp1) (And.intro hH3.symm r3) (And.intro ge3 gw3) (And.intro hc37 hg37) (And.intro gw4 q1) (And.intro e2 nti) (And.intro gn3 gn4) (And.intro hrowa bb49) (And.intro ha6 hge6) (And.intro gx6 cu) (And.intro ou spr) (And.intro hH7.symm g7) (And.intro ldr' gf7) (And.intro hi1 hca8) (And.intro hge8 @wrap_small) ?_;exact i6 (kk-1) oM ⟨j+1,G8,w8,_,oM,oM,f1,f2,f4,f5,f40,f41,rfl,hO8,(hT.trans hT7).trans hT8,.inr hl8,fu,hres⟩
theorem NX{α β:Type}:∀(a:List α)(b:List β)(i:Nat)(x:α×β)(r:List (α×β)),(a.zip b).drop i=x::r→a[i]?=some x.1∧b[i]?=some x.2∧(a.zip b).drop (i+1)=r:=by
 intro a b i x r h;have hi:i<(a.zip b).length:=by
  apply Classical.byContradiction;intro q;rw[dN oM]at h;cases h
 rw[List.drop_eq_getElem_cons hi]at h
 injection h with h1 h2
 rw[List.length_zip]at hi;rw[List.getElem_zip]at h1;refine⟨?_,?_,h2⟩
 ·rw[List.getElem?_eq_getElem oM,←h1]
 ·rw[List.getElem?_eq_getElem oM,←h1]
theorem Oe(x:NmQ×List ByteArray)(r:List (NmQ×List ByteArray))(ih:jZ r):jZ (x::r):=by
 intro H pw po pf i G s w1 w2 w3 w4 w l row e hC hO he hd hi hl hat;obtain⟨hn,hvs,hd2⟩:=NX _ _ _ _ _ hd;rw[List.length_cons]at hi hat;have hal:=hC.al;have hln:=hC.len;have hxl:=hC.vl _ (List.mem_of_getElem? hvs);have hpo:=u6 hO.g;have hev:=he;obtain⟨av,hrow,hav⟩:=hev;obtain⟨ava,avc,rfl⟩:=hav.slice;obtain⟨aa,ac,ea⟩:=hC.a.slice;have ar:row.all Value.oneCell'=true:=by rw[hrow];rfl
 have lr:row.length=5:=by rw[hrow];rfl
 have ldr:ldC (some true) (some 5) 0 row=some (.agg row.toArray):=by rw[hrow];rfl
 obtain⟨H1,hH1⟩:∃H1,H1=d9.push ⟨H.bs,H.next⟩ (.cells row true 1):=⟨_,rfl⟩
 have hS:i4 H.next H H1:=by rw[hH1];exact i4.first H _
 have n1:H1.next=H.next+1:=by rw[hH1,i5];rfl
 have hlow:H.next≤H1.low:=by rw[hH1];exact lR
 have g1:H1.get H.next=cE row 1:=by rw[hH1];exact i7
 obtain⟨hO1,hT1⟩:=hO.push (G1:=fun j=>G j∨j=H.next) hS (fun _ h=> .inl h) (fun j h=>h.imp id fun q=>oM);have fr1:∀j,G j→H1.get j=H.get j:=fun j hj=>hS.get j (hO.ap j hj).1;have hC1:=hC.mono (H':=H1) (G':=fun j=>G j∨j=H.next) fr1 (fun _ h=> .inl h);have he1:=w9 _ _ _ _ _ _ he fr1 (fun j hj=>(.inl hj:G j∨j=H.next));have hexp:(R4 (x::r) e).length=(R4 r e).length+((Q8 x.2).flatMap fun v=>R4 r (atV x.1 e v)).length:=by rw[R4,List.length_append]
 obtain⟨_,h2,H2,hca,hge,rfl,G2,u2,hO2,hT2,hl2⟩:=ih H1 pw po pf (i+1) _ s w1 w2 w3 w4 w l row e hC1 hO1 he1 hd2 oM oM oM;have n2:=hT2.stay.next;have fr2:∀j,(G j∨j=H.next)→H2.get j=H1.get j:=fun j hj=>by have:=hO1.ap j hj;exact hT2.but j this.1 this.2.1 this.2.2
 have hC2:=hC1.mono (H':=H2) (G':=G2) fr2 hT2.sub;have he2:=w9 _ _ _ _ _ _ he1 fr2 hT2.sub;have g2:=(fr2 H.next (.inr rfl)).trans g1;obtain⟨a3,c3,e3⟩:=hC2.v.slice;obtain⟨y,nb,o,cs,own,elv,hx,hdv,eaa,hF,hg,hle,hrv,hcv,u,rfl,hu⟩:=(e3▸hC2.v).row (i:=i) oM;obtain rfl:x.2=y:=Option.some.inj (hvs.symm.trans hx);have c0:=hcv 0 oM;rw[Nat.add_zero]at c0;have uF:SlI H2 H2.next 1 (v8 stE) u x.2:=hu.sl fun j hj=>(hO2.ap j hj).1;obtain⟨cv,hcc,H3,hc55,hg55,hO3,s3⟩:=CX (α:=ByteArray) (v8 stE) H2 H2.next u x.2 lR uF oM;have n3:=s3.next;obtain⟨H4,hH4⟩:∃K,K=H3.push (.cells [.string eB] true 1):=⟨_,rfl⟩
 have s4:i4 H3.next H3 H4:=by rw[hH4];exact i4.push lR
 have n4:H4.next=H3.next+1:=by rw[hH4,i5]
 have hO4:t7 H4 H3.next 1 (v8 stE) (.slice (some ⟨H3.next,0,none⟩) 1 1) [eB]:=by rw[hH4];exact t7.fresh rfl lR (D2.one rfl rfl)
 obtain⟨fs,hfs⟩:∃fs,fs=frS x.2 eB [eB]:=⟨_,rfl⟩
 have hf:=fresh H4 H2.next u (.slice (some ⟨H3.next,0,none⟩) 1 1) x.2 eB [eB] oM (uF.mono (fun j hj=>by rw[s4.get j oM,s3.get j hj]) lR iF) hO4.sl oM (by decide) (by decide);rw[←hfs]at hf;obtain⟨v7,h7,H6,ha6,hge6,hO6,s6⟩:=(hO3.keep s4).push1 (P:=prog) (t:=97) (by exact aH.2.2.2.2.2.2) ty9.1 ty9.2.1 ty9.2.2.1 oM oM (cs:=[.string fs]) (a:=fs) rfl rfl oM oM;have n6:=s6.next;rw[show x.2++[fs]=Q8 x.2 by rw[AN,hfs]]at hO6;have s26:i4 H2.next H2 H6:=(s3.trans (s4.weaken n3)).trans (s6.weaken oM);obtain⟨hO6',hT6⟩:=hO2.push (G1:=fun j=>G2 j∨j9 v7 j) s26 (fun _ h=> .inl h) (fun j hj=>hj.imp id fun q=>by have:=hO6.lt q;omega);have fr6:∀j,G2 j→H6.get j=H2.get j:=fun j hj=>s26.get j (hO2.ap j hj).1;have hC6:=hC2.mono (H':=H6) (G':=fun j=>G2 j∨j9 v7 j) fr6 (fun _ h=> .inl h);have he6:=w9 _ _ _ _ _ _ he2 fr6 (fun j hj=>(.inl hj:G2 j∨j9 v7 j));have g6:=(fr6 H.next (hT2.sub _ (.inr rfl))).trans g2;obtain⟨a7,c7,e7⟩:=hO6.slice;have hvl7:(Q8 x.2).length=x.2.length+1:=by rw[Q8];simp
 have gw1:=hC1.gw;have gf1:=hC1.gf;have gw2:=hC2.gw;have gw3:H3.get pw=cE [w1,w2,w3,w4] 1:=(s3.get pw (hO2.ap pw hC2.iw).1).trans gw2;have gw4:H4.get pw=cE [w1,w2,w3,w4] 1:=(s4.get pw (by have:=(hO2.ap pw hC2.iw).1;omega)).trans gw3;have hb3:=(hO2.ap nb hF).1;have hg3:=(s3.get nb hb3).trans hg;have hg4:=(s4.get nb oM).trans hg3;have q1:∀a b c d:Value,[a,b,c,d][1]?=some b:=fun _ _ _ _=>rfl;have q2:∀a b c d:Value,[a,b,c,d][2]?=some c:=fun _ _ _ _=>rfl;have i0:(0:Int)≤i:=oM;have il:(i:Int)<s.vals.length:=oM;have nti:(i:Int).toNat=i:=tN i;have bi:decide ((i:Int)=s.attrs.length)=false:=decide_eq_false oM;have hi1:((i:Int)+1)=((i+1:Nat):Int):=oM;have hlen7:∀Hx:d9,D3 prog .len [97] [v7] Hx=some (.int .i64 ((Q8 x.2).length:Int),none):=fun Hx=>by
  rw[e7];exact J1 aH trivial
 subst eaa;rw[j8 Xm rfl _ (by simp)];refine J30 ar hH1.symm gw1 q1 q2 ea e3 bi g1 ldr gf1 hi1 hca hge gw2 nti hg c0 hc55 hg55 gw3 hg3 hH4.symm gw4 hg4 hf ha6 hge6 hlen7 @wrap_small ?_;refine l9 (F:=fun z=>Ret (u5 _ _ _ (inBlock 0 z)) _ _) (Bg x.1 x.2 r ih H6 pw po pf H.next i (fun j=>G2 j∨j9 v7 j) s w1 w2 w3 w4 u2 row e a7 c7 (Q8 x.2) hC6 hO6'.ap oM he6 (.inl (hT2.sub _ (.inr rfl))) g6 (by rw[←e7];exact hO6.frz fun b hb=> .inr hb) oM oM hd2 oM hn oM (l++R4 (x::r) e) (Q8 x.2).length _ _ ⟨0,_,u2,l++R4 r e,rfl,oM,rfl,rfl,rfl,rfl,e7,rfl,rfl,hO6',cd.refl _ _ _ _,(.inl rfl),by rw[List.drop_zero,R4,List.append_assoc],by rw[List.length_append];omega⟩) ?_;rintro o e' H8 ⟨ho,G8,w8,hO8,hT8,hl8⟩;refine J1 ho ?_;exact qa hpo (fun b hb=>hO.own.lt hb) hS hT1 hO8 ((hT2.trans hT6).trans hT8) hl8 hlow
theorem pZ:∀r,jZ r
 |[]=>Od
 |x::r=>Oe x r (pZ r)
def P2:List (List ByteArray)→Nat
 |[]=>1
 |v::r=>(v.length+2)*P2 r
theorem be:∀r,1≤P2 r
 |[]=>Nat.le_refl 1
 |v::r=>Nat.mul_pos oM (be r)
theorem dY{α β:Type}(f:α→List β)(k:Nat)(l:List α)(h:∀x∈l,(f x).length=k):(l.flatMap f).length=l.length*k:=by
 induction l with
 |nil=>simp
 |cons x l ih=>rw[List.flatMap_cons,List.length_append,h x (by simp),ih (fun y hy=>h y (by simp [hy])),List.length_cons,Nat.add_mul];omega
theorem oq(v:List ByteArray):(Q8 v).length=v.length+1:=by rw[Q8];simp
theorem gl:∀(r:List (NmQ×List ByteArray))(e:EvD),(R4 r e).length=P2 (r.map (·.2))
 |[],e=>rfl
 |x::r,e=>by
  rw[R4,List.length_append,gl r e,dY _ _ _ (fun v _=>gl r (atV x.1 e v)),oq,List.map_cons,P2];rw[Nat.add_mul,Nat.add_mul,Nat.one_mul];omega
theorem xj(x:NmQ×List ByteArray)(r:List (NmQ×List ByteArray))(l:List EvD):(az x.1 (Q8 x.2) l).flatMap (R4 r)=l.flatMap (R4 (x::r)):=by
 induction l with
 |nil=>rfl
 |cons e l ih=>
  rw[az]at ih ⊢;rw[List.flatMap_cons,List.flatMap_append,ih,List.flatMap_cons]
  congr 1
  rw[rl,List.flatMap_cons,R4,List.flatMap_map]
theorem mU:∀(r:List (NmQ×List ByteArray))(l:List EvD),l.length≤24→cU r l=if l.length*P2 (r.map (·.2))>24 then none else some (l.flatMap (R4 r))
 |[],l,h=>by
  rw[cU,List.map_nil,P2,Nat.mul_one,if_neg oM]
  congr 1
  have:(R4 []:EvD→List EvD)=fun e=>[e]:=by funext e;rfl
  rw[this];simp
 |x::r,l,h=>by
  rw[cU,List.map_cons,P2,←Nat.mul_assoc];have hm:(az x.1 (Q8 x.2) l).length=l.length*(x.2.length+2):=by rw[iJ,oq]
  have hp:=be (r.map (·.2));by_cases hb:l.length*(x.2.length+2)>24
  ·rw[if_pos oM,if_pos (by have:=Nat.mul_le_mul_left (l.length*(x.2.length+2)) hp;omega)]
  ·rw[if_neg oM,mU r _ oM,hm,xj]
def jp(s:SpD):List EvD:=(s.names++[zNm (Q4 s.names)]).flatMap (fun n=>R4 (s.attrs.zip s.vals) (Y4 n))++(s.texts++[dg (T7 s.texts)]).map bZ
theorem nM(s:SpD)(P:Nat)(hP:P2 ((s.attrs.zip s.vals).map (·.2))=P):∀(ns:List NmQ)(acc:List EvD),dm s ns acc=if P>24 then(if ns=[] then some acc else none) else some (acc++ns.flatMap fun n=>R4 (s.attrs.zip s.vals) (Y4 n))
 |[],acc=>by rw[dm,if_pos rfl,List.flatMap_nil,List.append_nil];split<;>rfl
 |n::r,acc=>by
  rw[dm,mU _ _ (by simp),hP];simp only[List.length_singleton,Nat.one_mul];by_cases h:P>24
  ·rw[if_pos h,if_pos h,if_neg (by simp)]
  ·rw[if_neg h,if_neg h];simp only;rw[nM s P hP r,if_neg h];simp
theorem jM:∀(vs:List (List ByteArray))(n:Nat),(n*P2 vs≤24→oO vs n=(n*P2 vs:Nat))∧(24<n*P2 vs→24<oO vs n)
 |[],n=>by rw[P2,Nat.mul_one,oO];exact⟨fun _=>rfl,fun h=>oM⟩
 |v::vs,n=>by
  rw[P2,oO,←Nat.mul_assoc];have hp:=be vs;have e:(n:Int)*((v.length:Int)+2)=((n*(v.length+2):Nat):Int):=by simp
  rw[e];have h1:=Nat.mul_le_mul_left (n*(v.length+2)) hp;obtain⟨i1,i2⟩:=jM vs (n*(v.length+2));by_cases hb:n*(v.length+2)≤25
  ·have:min ((n*(v.length+2):Nat):Int) 25=((n*(v.length+2):Nat):Int):=oM;rw[this];exact⟨i1,i2⟩
  ·have:min ((n*(v.length+2):Nat):Int) 25=((25:Nat):Int):=oM;rw[this];exact⟨fun q=>oM,fun _=>(jM vs 25).2 oM⟩
theorem kS(s:SpD)(hl:s.vals.length=s.attrs.length):S8 s=if 24<kn s then none else some (jp s):=by
 have hz:(s.attrs.zip s.vals).map (·.2)=s.vals:=List.map_snd_zip oM;obtain⟨P,hP⟩:∃P,P=P2 s.vals:=⟨_,rfl⟩
 have hop:=nM s P (by rw[hz,hP]) (s.names++[zNm (Q4 s.names)]) [];obtain⟨c1,c2⟩:=jM s.vals (s.names.length+1);rw[←hP]at c1 c2;have e1:((s.names.length+1:Nat):Int)=(s.names.length:Int)+1:=oM;rw[e1]at c1 c2;have hp:=be s.vals;rw[←hP]at hp;have hge:P≤(s.names.length+1)*P:=by rw[Nat.add_mul];omega
 rw[S8,hop];by_cases hb:P>24
 ·rw[if_pos hb,if_neg (by simp)];have:=c2 oM;rw[if_pos (by unfold kn;omega)]
 ·rw[if_neg hb];have hlen:((s.names++[zNm (Q4 s.names)]).flatMap (fun n=>R4 (s.attrs.zip s.vals) (Y4 n))).length=(s.names.length+1)*P:=by
   rw[dY _ P _ (fun n _=>by rw[gl,hz,hP])];simp
  simp only[List.nil_append,List.length_append,List.length_map,List.length_singleton,hlen];by_cases hc:(s.names.length+1)*P≤24
  ·have:=c1 hc;have e2:kn s=(((s.names.length+1)*P+(s.texts.length+1):Nat):Int):=by unfold kn;rw[this];omega
   rw[e2];by_cases hd:(s.names.length+1)*P+(s.texts.length+1)>24
   ·rw[if_pos hd,if_pos oM]
   ·rw[if_neg hd,if_neg oM];rfl
  ·have:=c2 oM;rw[if_pos oM,if_pos (by unfold kn;omega)]
end Go.Proofs.YtofbhlhamfkljaaGreatDoor.Ve
