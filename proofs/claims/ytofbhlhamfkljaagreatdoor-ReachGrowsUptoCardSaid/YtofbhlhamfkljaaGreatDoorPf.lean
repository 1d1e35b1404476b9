/- ReachGrows returns true for every path whose reading is of bulk at most 1048576, and the path reads behind the call as it read before. Conditions: what comes in is of bulk at most 1048576. -/
import Derived.Test.YtofbhlhamfkljaaGreatDoorPe
import Derived.Test.YtofbhlhamfkljaaGreatDoorProg
import Derived.KernelRfl
import Derived.OrdersIn
import Derived.CallsIn
import Derived.RegionIn
import Derived.RangeFuncNested
import Derived.RangeFuncBound
import Derived.RangeFuncCalls
import Derived.RangeFuncLeaves
import Derived.Shelf.Abstract
import Derived.Shelf.RegionOpen
import Derived.WalkKit
import Derived.OwnWalkIn
import Derived.TacticsInMore
import Derived.LoopNIn
import Derived.LoopIn
namespace Go.Proofs.YtofbhlhamfkljaaGreatDoor.Ve
open Go Go.RowKit
open Go.Proofs.Tryz (prog)
set_option linter.unusedVariables false
set_option linter.unusedSimpArgs false
set_option maxRecDepth 1000000
set_option maxHeartbeats 0
theorem SpO.vals{H:d9}{lo:Nat}{O:Nat→Prop}{s:SpD}{w1 w2 w3 w4:Value}{us:LV}(h:SpO H lo O s w1 w2 w3 w4 us){G:Nat→Prop}(hG:∀w∈w3::us,∀b,j9 w b→G b):SlF H G 1 (VlF H G) w3 s.vals:=by
 obtain⟨cs,hC,hr⟩:=h.v;have e:=GJ hr;subst e;have hl:=h.len;rcases hC with⟨h1,h2,_⟩|⟨b,c,rfl,hg,_,_⟩
 ·exact .inl ⟨h1,List.length_eq_zero_iff.1 oM⟩
 ·refine .inr ⟨b,0,c,by rw[hl],.inr ⟨cs,true,hG (.slice (some ⟨b,0,none⟩) cs.length c) (List.mem_cons_self ..) b ⟨_,_,rfl⟩,hg,oM,fun i a ha=>?_⟩⟩;have hi:i<cs.length:=by rw[hl];exact(List.getElem?_eq_some_iff.1 ha).1
  have hu:cs[i]?=some cs[i]:=List.getElem?_eq_getElem hi;refine⟨cs[i],?_,(h.u i _ a hu ha).frz fun b hb=>hG _ (by simp [List.mem_of_getElem? hu]) b hb⟩;rw[Nat.zero_add,Nat.mul_one,List.drop_eq_getElem_cons hi];rfl
theorem SpO.spr{H:d9}{lo:Nat}{O:Nat→Prop}{s:SpD}{w1 w2 w3 w4:Value}{us:LV}(h:SpO H lo O s w1 w2 w3 w4 us):SpR H H.next [w1,w2,w3,w4] s:=
 ⟨w1,w2,w3,w4,rfl,h.n.sl,h.a.sl,h.vals fun w hw b hb=>(h.lt b (h.o w (by simp only[List.mem_cons]at hw ⊢;rcases hw with q|q;exact .inr (.inr (.inl q));exact .inr (.inr (.inr (.inr q)))) b hb)).2,h.t.sl⟩
theorem MT(H0:d9)(pw po pf:Nat)(G0:Nat→Prop)(s:SpD)(w1 w2 w3 w4 w0:Value)(va:Option Addr)(ca:Nat)(ns:List NmQ)(hC:su H0 G0 pw pf (xu pw po pf) s w1 w2 w3 w4)(hap:∀j,G0 j→j<H0.next∧j≠po∧¬j9 w0 j) (hpo:po<H0.next) (hv:SlF H0 G0 2 (v8 nmE) (.slice va ns.length ca) ns) (hnl:ns.length≤1000) (res:List EvD):
  ∀kk e H2,(∃(j:Nat)(G:Nat→Prop)(w:Value)(l:List EvD),kk=ns.length-j∧j≤ns.length∧e.get 4=pT pw∧e.get 5=pT po∧e.get 6=pT pf∧e.get 24= .slice va ns.length ca∧e.get 25=iV ns.length∧e.get 26=iV j∧
    dI H2 po G w l∧cd po G0 w0 H0 G w H2∧l++((ns.drop j).flatMap fun n=>R4 (s.attrs.zip s.vals) (Y4 n))=res∧res.length≤1000000)→
  u9 (LE prog t6 (.loop Fw) e H2) (fun o e H2=>o= .exit 0∧e.get 4=pT pw∧e.get 5=pT po∧∃(G:Nat→Prop)(w:Value),dI H2 po G w res∧cd po G0 w0 H0 G w H2):=by
 refine j7 _ _ ?_;rintro kk e H2 ⟨j,G,w,l,hkk,hj,f4,f5,f6,f24,f25,f26,hO,hT,fu,hres⟩;rcases b:decide ((j:Int)<ns.length)with _|_
 ·have hb':=dF b;have:ns.drop j=[]:=dN oM;rw[this,List.flatMap_nil,List.append_nil]at fu;refine J3 f25 f26 b ?_;exact l7 ⟨rfl,f4,f5,G,w,by rw[←fu];exact hO,hT⟩
 have hb':=dT b;have fr:∀j,G0 j→H2.get j=H0.get j:=fun j hj=>by have:=hap j hj;exact hT.but j this.1 this.2.1 this.2.2
 have nx:=hT.stay.next;have lt2:∀j,G0 j→j<H2.next:=fun j hj=>by have:=hap j hj;omega
 obtain⟨n,nb,o,cs,own,elv,hx,hdv,rfl,hF,hg,hle,hrow,hc,rfl⟩:=hv.row (i:=j) oM;have ntj:(j:Int).toNat=j:=tN j;rw[hdv,List.flatMap_cons,←List.append_assoc]at fu;have gv:=(fr nb hF).trans hg;obtain⟨Ha,hHa,-,hga⟩:=pushE H2 (.cells [.string eB,.string eB] true 1);obtain⟨H3,hH3⟩:∃K,K=Ha.put H2.next (.cells (nmE n) true 1):=⟨_,rfl⟩
 have na:Ha.next=H2.next+1:=by rw[hHa,i5]
 have n3:H3.next=H2.next+1:=by rw[hH3,j5,na]
 have s3:i4 H2.next H2 H3:=by rw[hH3,hHa];exact(i4.push lR).trans (i4.put lR)
 have g3:H3.get H2.next=cE (nmE n) 1:=by rw[hH3];exact i8 oM
 obtain⟨hO3,hT3⟩:=hO.push (G1:=G) s3 (fun _ h=>h) (fun j h=> .inl h);have hC3:=hC.mono (H':=H3) (G':=G) (fun j hj=>(s3.get j (lt2 j hj)).trans (fr j hj)) hT.sub;have gf3:=hC3.gf;have he3:EvF H3 G [iV 1,.string n.1,.string n.2,nS,.string eB] (Y4 n):=⟨_,rfl,.inl ⟨rfl,rfl⟩⟩
 have hln:=hC.len;have hal:=hC.al;have hlen:l.length+(R4 (s.attrs.zip s.vals) (Y4 n)).length+((ns.drop (j+1)).flatMap fun n=>R4 (s.attrs.zip s.vals) (Y4 n)).length=res.length:=by rw[←fu,List.length_append,List.length_append]
 obtain⟨_,h8,H8,hca8,hge8,rfl,G8,w8,hO8,hT8,hl8⟩:=pZ (s.attrs.zip s.vals) H3 pw po pf 0 G s w1 w2 w3 w4 w l _ (Y4 n) hC3 hO3 he3 rfl (by rw[List.length_zip];omega) oM (by show 0+_≤_;rw[List.length_zip];omega);have hr4:ldC (some true) (some 2) 0 (nmE n)=some (.agg (nmE n).toArray):=rfl;have e0:((0:Nat):Int)=0:=rfl;rw[e0]at hca8;refine J17 f6 f24 f25 f26 b gv ntj hrow hHa.symm hga hH3.symm g3 hr4 gf3 hca8 hge8 @wrap_small ?_;exact i6 (kk-1) oM ⟨j+1,G8,w8,_,oM,oM,f4,f5,f6,f24,f25,rfl,hO8,(hT.trans hT3).trans hT8,fu,hres⟩
theorem MU(H0:d9)(po:Nat)(G0:Nat→Prop)(w0:Value)(va:Option Addr)(ca:Nat)(ts:List ByteArray)(hap:∀j,G0 j→j<H0.next∧j≠po∧¬j9 w0 j) (hpo:po<H0.next) (hv:SlF H0 G0 1 (v8 stE) (.slice va ts.length ca) ts) (hnl:ts.length≤1000) (res:List EvD):
  ∀kk e H2,(∃(j:Nat)(G:Nat→Prop)(w:Value)(l:List EvD),kk=ts.length-j∧j≤ts.length∧e.get 5=pT po∧e.get 41= .slice va ts.length ca∧e.get 42=iV ts.length∧e.get 43=iV j∧
    dI H2 po G w l∧cd po G0 w0 H0 G w H2∧l++(ts.drop j).map bZ=res∧res.length≤1000000)→
  u9 (LE prog t6 (.loop Fx) e H2) (fun o e H2=>o= .exit 2∧e.get 5=pT po∧∃(G:Nat→Prop)(w:Value),dI H2 po G w res∧cd po G0 w0 H0 G w H2):=by
 refine j7 _ _ ?_;rintro kk e H2 ⟨j,G,w,l,hkk,hj,f5,f41,f42,f43,hO,hT,fu,hres⟩;rcases b:decide ((j:Int)<ts.length)with _|_
 ·have hb':=dF b;have:ts.drop j=[]:=dN oM;rw[this,List.map_nil,List.append_nil]at fu;refine J3 f42 f43 b ?_;exact l7 ⟨rfl,f5,G,w,by rw[←fu];exact hO,hT⟩
 have hb':=dT b;have fr:∀j,G0 j→H2.get j=H0.get j:=fun j hj=>by have:=hap j hj;exact hT.but j this.1 this.2.1 this.2.2
 have nx:=hT.stay.next;obtain⟨x,nb,o,cs,own,elv,hx,hdv,rfl,hF,hg,hle,hrow,hc,rfl⟩:=hv.row (i:=j) oM;have c0:=hc 0 oM;rw[Nat.add_zero]at c0;have ntj:(j:Int).toNat=j:=tN j;rw[hdv,List.map_cons,List.append_cons]at fu;have gv:=(fr nb hF).trans hg;have go:=hO.g;obtain⟨row,hrw⟩:∃r:LV,r=[iV 2,.string eB,.string eB,nS,.string x]:=⟨_,rfl⟩
 have he:EvF H2 G row (bZ x):=⟨_,hrw,.inl ⟨rfl,rfl⟩⟩
 have hlen:l.length+1+(ts.drop (j+1)).length=res.length:=by rw[←fu];simp;omega
 obtain⟨v',h',H3,r1,r2,g3,⟨a',c',e'⟩,hO4,hT4⟩:=hO.add he oM;obtain⟨H2',hH2'⟩:∃K,K=H2.push (.cells row true 5):=⟨_,rfl⟩
 rw[←hH2']at r1 r2;have go2:H2'.get po=cE [w] 1:=by rw[hH2',j6 (u6 go)];exact go
 have cu:v'.cells.toList=[v']:=by rw[e'];rfl
 have ou:Value.oneCell' v'=true:=by rw[e'];rfl
 have bsl:bsA prog (some 51) H2 1 [(0,.agg #[iV 2,.string eB,.string eB,nS,.string x])]=some (.slice (some ⟨H2.next,0,none⟩) 1 1,H2'):=by
  rw[hH2',hrw];simp only[C7,aG,C8];rfl
 refine J16 f5 f41 f42 f43 b gv ntj c0 go bsl r1 r2 g3 cu ou @wrap_small ?_;exact i6 (kk-1) oM ⟨j+1,G,v',_,oM,oM,f5,f41,f42,rfl,hO4,hT.trans hT4,fu,hres⟩
theorem ko{s:SpD}(h:¬24<kn s)(hl:s.vals.length=s.attrs.length):s.names.length≤24∧s.texts.length≤24∧s.attrs.length≤24∧(∀x∈s.vals,x.length≤24)∧(jp s).length≤24:=by
 obtain⟨c1,c2⟩:=jM s.vals (s.names.length+1);have e1:((s.names.length+1:Nat):Int)=(s.names.length:Int)+1:=oM;rw[e1]at c1 c2;have hz:(s.attrs.zip s.vals).map (·.2)=s.vals:=List.map_snd_zip oM;have hp:=be s.vals;have grow:∀vs:List (List ByteArray),vs.length≤P2 vs∧∀x∈vs,x.length≤P2 vs:=by
  intro vs;induction vs with
  |nil=>exact⟨Nat.zero_le _,fun x hx=>by cases hx⟩
  |cons v vs ih=>
   have hp:=be vs;rw[P2,List.length_cons];have h1:v.length+2≤(v.length+2)*P2 vs:=Nat.le_mul_of_pos_right _ hp;have h2:2*P2 vs≤(v.length+2)*P2 vs:=Nat.mul_le_mul_right _ oM;refine⟨by have:=ih.1;omega,fun x hx=>?_⟩;rcases List.mem_cons.1 hx with rfl|hx
   ·omega
   ·have:=ih.2 x hx;omega
 obtain⟨g1,g2⟩:=grow s.vals;have hc:(s.names.length+1)*P2 s.vals≤24:=by
  apply Classical.byContradiction;intro q;have:=c2 oM;apply h;unfold kn;omega
 have h3:P2 s.vals≤(s.names.length+1)*P2 s.vals:=by rw[Nat.add_mul];omega
 have h4:s.names.length+1≤(s.names.length+1)*P2 s.vals:=Nat.le_mul_of_pos_right _ hp;have h5:=c1 hc;have h6:(s.names.length+1)*P2 s.vals+s.texts.length+1≤24:=by unfold kn at h;omega
 refine⟨oM,oM,oM,fun x hx=>by have:=g2 x hx;omega,?_⟩;rw[jp,List.length_append,dY _ (P2 s.vals) _ (fun n _=>by rw[gl,hz])];simp only[List.length_append,List.length_map,List.length_singleton];omega
theorem xr(l:List ByteArray):frS l eB []=dg (T7 l):=by
 have he:∀n,eB++dg n=dg n:=fun n=>by
  have h1:=aX eB (dg n);exact oF (by rw[h1];rfl)
 have hn:frN l eB=T7 l:=by unfold frN T7;simp only[he]
 rw[frS,List.find?_nil];simp only[hn,he]
theorem Be(H:d9)(lo k:Nat)(cs:LV)(q:Q)(hlo:lo≤H.next)(hr:QR H lo k false cs q)(hok:OkD false q)(hfit:nQ q≤1000):
  Ret (CL prog t6 31 [.agg cs.toArray] H) H (Oa H (spQ q)):=by
 obtain⟨s,hs⟩:∃s,s=spQ q:=⟨_,rfl⟩
 have hlaw:=kS s (by rw[hs];exact(jX q).2.2.1);obtain⟨z1,z2,z3,z4,z5⟩:=jX q;rw[←hs]at z1 z2 z3 z4 z5;rw[←hs];have ac:cs.all Value.oneCell'=true:=F0 hr;have ldc:=M8 hr;have lc:=hr.len;rw[lc]at ldc;simp only[qSz,Bool.false_eq_true,if_false]at ldc lc;obtain⟨H1,hH1⟩:∃H1,H1=d9.push ⟨H.bs,H.next⟩ (.cells cs true 1):=⟨_,rfl⟩
 have s1:i4 H.next H H1:=by rw[hH1];exact i4.first H _
 have n1:H1.next=H.next+1:=by rw[hH1,i5];rfl
 have hlow:H.next≤H1.low:=by rw[hH1];exact lR
 have g1:H1.get H.next=cE cs 1:=by rw[hH1];exact i7
 obtain⟨H2,hH2⟩:∃K,K=H1.push (.cells cs true 3):=⟨_,rfl⟩
 have n2:H2.next=H.next+2:=by rw[hH2,i5,n1]
 have s2:i4 H.next H H2:=by rw[hH2];exact s1.trans (i4.push oM)
 have hl2:H.next≤H2.low:=by rw[hH2];exact hlow
 have bs22:bsA prog (some 25) H1 1 [(0,.agg cs.toArray)]=some (.slice (some ⟨H1.next,0,none⟩) 1 1,H2):=by
  rw[hH2];cases k with
  |zero=>exact hr.elim
  |succ k=>obtain⟨_,_,_,_,rfl,_⟩:=hr.path;simp only[C7,X8,C8];rfl
 have hv2:QsR H2 H2.next k false (.slice (some ⟨H1.next,0,none⟩) 1 1) [q]:=by
  have hO:t7 H2 H1.next 3 (QR H2 H2.next k false) (.slice (some ⟨H1.next,0,none⟩) 1 1) [q]:=by
   rw[hH2];exact t7.fresh rfl lR (D2.one lc (by rw[←hH2];exact hr.mono (fun j hj=>s2.get j oM) oM))
  exact hO.sl
 obtain⟨wv,h3,H3,hc52,hg52,w1,w2,w3,w4,us,O,rfl,hsp,s23⟩:=NN H2 H2.next k _ [q] lR hv2 (by rw[nL,nL];omega) (by simp);have esp:(fsL false [q]).foldl I9 ⟨[],[],[],[]⟩=s:=by rw[fsL,fsL,List.append_nil,uK q hok,hs]
 rw[esp]at hsp;have n3:=s23.next;obtain⟨a1,b1,e1⟩:=hsp.n.slice;obtain⟨a2,b2,e2⟩:=hsp.a.slice;obtain⟨a3,b3,e3⟩:=hsp.v.slice;obtain⟨a4,b4,e4⟩:=hsp.t.slice;obtain⟨row,hrow⟩:∃r,r=[w1,w2,w3,w4]:=⟨_,rfl⟩
 have ar:row.all Value.oneCell'=true:=by rw[hrow,e1,e2,e3,e4];rfl
 have lr:row.length=4:=by rw[hrow];rfl
 have ldr:ldC (some true) (some 4) 0 row=some (.agg row.toArray):=by rw[hrow];rfl
 have q0:row[0]?=some w1:=by rw[hrow];rfl
 have q3:row[3]?=some w4:=by rw[hrow];rfl
 have eagg:(#[w1,w2,w3,w4]:Array Value)=row.toArray:=by rw[hrow]
 rw[eagg]at hc52;obtain⟨zz,hzz⟩:∃z:LV,z=[nS,nS,nS,nS]:=⟨_,rfl⟩
 have lz:zz.length=4:=by rw[hzz];rfl
 have spl:splice zz 0 row=row:=w7 _ _ (by rw[lr,lz]);obtain⟨K3,hK3,-,gK3⟩:=pushE H3 (.cells zz true 1);obtain⟨H4,hH4⟩:∃K,K=K3.put H3.next (.cells row true 1):=⟨_,rfl⟩
 have n4:H4.next=H3.next+1:=by rw[hH4,j5,hK3,i5]
 have s34:i4 H3.next H3 H4:=by rw[hH4,hK3];exact(i4.push lR).trans (i4.put lR)
 have g4:H4.get H3.next=cE row 1:=by rw[hH4];exact i8 (by rw[hK3,i5];omega)
 have hspr:=(hsp.spr).mono (H':=H4) (fun j hj=>s34.get j hj) lR;rw[←hrow]at hspr;have hct:=Da H4 H3.next row s oM hspr oM oM (fun x hx=>by have:=z4 x hx;omega) oM;have s24:i4 H.next H H4:=(s2.trans (s23.weaken oM)).trans (s34.weaken oM);have hl4:H.next≤H4.low:=((s23.weaken (show H.next≤H2.next from oM)).trans (s34.weaken oM)).low hl2;rw[j8 ab0 rfl _ (by simp)];rcases b:decide ((24:Int)<kn s)with _|_
 ·have hb:=dF b;rw[if_neg hb]at hlaw;obtain⟨y1,y4,y2,y3,y5⟩:=ko hb z3;obtain⟨H5,hH5⟩:∃K,K=H4.push (.cells [nS] true 1):=⟨_,rfl⟩
  have n5:H5.next=H3.next+2:=by rw[hH5,i5,n4]
  obtain⟨H6,hH6⟩:∃K,K=H5.push (.cells [.nilFunc] true 1):=⟨_,rfl⟩
  have n6:H6.next=H3.next+3:=by rw[hH6,i5,n5]
  have g66:H6.get H5.next=cE [.nilFunc] 1:=by rw[hH6];exact i7
  obtain⟨H7,hH7⟩:∃K,K=H6.put H5.next (.cells [xu H3.next H4.next H5.next] true 1):=⟨_,rfl⟩
  have n7:H7.next=H3.next+3:=by rw[hH7,j5,n6]
  have s47:i4 H4.next H4 H7:=by rw[hH7,hH6,hH5];exact((i4.push lR).trans (i4.push (by rw[i5];omega))).trans (i4.put (by rw[i5];omega))
  have g7w:=(s47.get H3.next oM).trans g4;have g7f:H7.get H5.next=cE [xu H3.next H4.next H5.next] 1:=by rw[hH7];exact i8 oM
  have g7o:H7.get H4.next=cE [nS] 1:=by
   rw[hH7,i9 oM,hH6,j6 oM,hH5];exact i7
  have s37:i4 H3.next H3 H7:=s34.trans (s47.weaken oM);have hs7:SpO H7 H2.next O s w1 w2 w3 w4 us:=hsp.keep (fun j hj=>s37.get j (hsp.lt j hj).2) (fun _ h=>h) (fun b hb=>by have:=hsp.lt b hb;omega) lR;have inl:∀w∈w1::w2::w3::w4::us,∀b,j9 w b→H2.next≤b∧b<H3.next:=fun w hw b hb=>hsp.lt b (hsp.o w hw b hb);have hoth:=EN H7 H7.next w1 s.names lR hs7.n.sl oM;obtain⟨nm,hnm⟩:∃nm,nm=zNm (Q4 s.names):=⟨_,rfl⟩
  rw[←hnm]at hoth;obtain⟨v9,h9,H9,ha9,hge9,hO9,hG9⟩:=hs7.n.push1F (P:=prog) (t:=95) (cs:=nmE nm) (a:=nm) (by exact pJ.2.2.2.2.2.2) cr.1 cr.2.1 cr.2.2.1 oM oM rfl rfl oM oM;obtain⟨H8,hH8⟩:∃K,K=H7.push (.cells (nmE nm) true 2):=⟨_,rfl⟩
  rw[←hH8]at ha9 hge9;have g8w:H8.get H3.next=cE row 1:=by rw[hH8,j6 oM];exact g7w
  have n9:=hG9.next;have bs95:bsA prog (some 48) H7 1 [(0,.agg (nmE nm).toArray)]=some (.slice (some ⟨H7.next,0,none⟩) 1 1,H8):=by
   rw[hH8];simp only[C7,cr,C8];rfl
  obtain⟨a9,c9,e9⟩:=hO9.slice;have hlen9:∀Hx:d9,D3 prog .len [95] [v9] Hx=some (.int .i64 ((s.names++[nm]).length:Int),none):=fun Hx=>by
   rw[e9];exact J1 pJ trivial
  have nw1:∀j,¬(H2.next≤j∧j<H3.next)→¬j9 w1 j:=fun j hj q=>hj (inl w1 (by simp) j q);have fr9:∀j,j<H7.next→¬j9 w1 j→H9.get j=H7.get j:=hG9.but;have g9w:H9.get H3.next=cE row 1:=(fr9 _ oM (nw1 _ oM)).trans g7w;have g9f:=(fr9 H5.next oM (nw1 _ oM)).trans g7f;have g9o:=(fr9 H4.next oM (nw1 _ oM)).trans g7o;have ap1:∀(i:Nat)(w:Value),(w1::w2::w3::w4::us)[i]?=some w→i≠0→∀j,j9 w j→¬j9 w1 j:=fun i w hw hi j hj q=>hsp.ap i 0 w w1 hw rfl hi j hj q;have lt7:∀w∈w1::w2::w3::w4::us,∀b,j9 w b→b<H7.next:=fun w hw b hb=>by have:=inl w hw b hb;omega
  obtain⟨G0,hG0⟩:∃G:Nat→Prop,G=fun j=>(∃w∈w2::w3::us,j9 w j)∨j=H3.next∨j=H5.next∨j9 v9 j:=⟨_,rfl⟩
  have v9lt:∀b,j9 v9 b→b<H9.next∧b≠H4.next∧¬(H3.next≤b∧b<H7.next):=fun b hb=>by
   have h1:=hO9.lt hb;rcases hG9.new b hb with r|r
   ·have:=inl w1 (by simp) b r;omega
   ·omega
  have us9:∀w∈w2::w3::us,w∈w1::w2::w3::w4::us:=fun w hw=>by
   simp only[List.mem_cons]at hw ⊢;rcases hw with h|h|h
   ·exact .inr (.inl h)
   ·exact .inr (.inr (.inl h))
   ·exact .inr (.inr (.inr (.inr h)))
  have hap0:∀j,G0 j→j<H9.next∧j≠H4.next∧¬j9 (nS) j:=fun j hj=>by
   rw[hG0]at hj;refine⟨?_,?_,A9 j⟩
   ·rcases hj with⟨w,hw,hj⟩|hj|hj|hj
    ·have:=inl w (us9 w hw) j hj;omega
    ·omega
    ·omega
    ·exact(v9lt j hj).1
   ·rcases hj with⟨w,hw,hj⟩|hj|hj|hj
    ·have:=inl w (us9 w hw) j hj;omega
    ·omega
    ·omega
    ·exact(v9lt j hj).2.1
  have sm9:∀w∈w2::w3::w4::us,∀b,j9 w b→H9.get b=H7.get b:=fun w hw b hb=>by
   have hm:w∈w1::w2::w3::w4::us:=List.mem_cons_of_mem _ hw;obtain⟨i,hi⟩:=List.mem_iff_getElem?.1 hw;exact fr9 b (lt7 w hm b hb) (ap1 (i+1) w hi oM b hb)
  have hs9:SlF H9 G0 2 (v8 nmE) w2 s.attrs:=(hs7.a.same (sm9 w2 (by simp))).frz fun b hb=>by rw[hG0];exact .inl ⟨w2,by simp,hb⟩
  have hv9:SlF H9 G0 1 (VlF H9 G0) w3 s.vals:=by
   have h0:=hs7.vals (G:=fun j=>∃w∈w3::us,j9 w j) (fun w hw b hb=>⟨w,hw,hb⟩);have up:∀j,(∃w∈w3::us,j9 w j)→G0 j:=fun j⟨w,hw,hj⟩=>by rw[hG0];exact .inl ⟨w,List.mem_cons_of_mem _ hw,hj⟩
   have sm:∀j,(∃w∈w3::us,j9 w j)→H9.get j=H7.get j:=fun j⟨w,hw,hj⟩=>sm9 w (by
    rcases List.mem_cons.1 hw with h|h
    ·simp [h]
    ·simp [h]) j hj
   exact h0.mono sm up fun _ _ h=>h.mono sm up
  have hC9:su H9 G0 H3.next H5.next (xu H3.next H4.next H5.next) s w1 w2 w3 w4:=⟨by rw[g9w,hrow],g9f,by rw[hG0];exact .inr (.inl rfl),by rw[hG0];exact .inr (.inr (.inl rfl)),hs9,hv9,z3,oM,fun x hx=>by have:=y3 x hx;omega⟩
  have hO0:dI H9 H4.next G0 (nS) []:=⟨g9o,t7.nil,hap0⟩
  have hlab1:((s.names++[nm]).flatMap fun n=>R4 (s.attrs.zip s.vals) (Y4 n)).length≤24:=by
   rw[hnm];have:=z5;have:=y5;rw[jp,List.length_append]at this;omega
  refine J30 ac hH1.symm g1 ldc bs22 hc52 hg52 hzz.symm hK3.symm gK3 lr lz ar spl hH4.symm g4 ldr hct b hH5.symm hH6.symm g66 hH7.symm g7w q0 hoth bs95 g8w ha9 (And.intro hge9 hlen9) ?_;refine l9 (F:=fun z=>Ret (u5 _ _ _ (u7 (inBlock 0 z) _)) _ _) (MT H9 H3.next H4.next H5.next G0 s w1 w2 w3 w4 (nS) a9 c9 (s.names++[nm]) hC9 hap0 oM (by rw[←e9];exact hO9.frz fun b hb=>by rw[hG0];exact .inr (.inr (.inr hb))) (by simp;omega) ((s.names++[nm]).flatMap fun n=>R4 (s.attrs.zip s.vals) (Y4 n)) (s.names++[nm]).length _ _ ⟨0,G0,nS,[],rfl,oM,rfl,rfl,rfl,e9,rfl,rfl,hO0,cd.refl _ _ _ _,rfl,oM⟩) ?_;rintro o e' HA ⟨ho,k4,k5,GA,wA,hOA,hTA⟩;have nA:=hTA.stay.next;have frA:∀j,j<H9.next→j≠H4.next→HA.get j=H9.get j:=fun j hj h=>hTA.but j hj h (A9 j);have gAw:HA.get H3.next=cE row 1:=(frA _ oM oM).trans g9w;have gAo:=hOA.g;have l4:∀b,j9 w4 b→H2.next≤b∧b<H3.next:=fun b hb=>inl w4 (by simp) b hb;have hOt:t7 HA H2.next 1 (v8 stE) w4 s.texts:=(hs7.t.same (sm9 w4 (by simp))).same fun b hb=>frA b (by have:=l4 b hb;omega) (by have:=l4 b hb;omega);have hfr:=fresh HA HA.next w4 (nS) s.texts eB [] lR hOt.sl (ig ..) oM (by decide) (by decide);rw[xr]at hfr;obtain⟨fs,hfs⟩:∃fs,fs=dg (T7 s.texts):=⟨_,rfl⟩
  rw[←hfs]at hfr;obtain⟨vC,hc,HC,haC,hgeC,hOC,hGC⟩:=hOt.push1F (P:=prog) (t:=97) (cs:=[.string fs]) (a:=fs) (by exact aH.2.2.2.2.2.2) ty9.1 ty9.2.1 ty9.2.2.1 oM oM rfl rfl oM oM;obtain⟨HB,hHB⟩:∃K,K=HA.push (.cells [.string fs] true 1):=⟨_,rfl⟩
  rw[←hHB]at haC hgeC;have gBw:HB.get H3.next=cE row 1:=by rw[hHB,j6 oM];exact gAw
  have nC:=hGC.next;have hpoA:=u6 gAo;have notw4:∀j,GA j→¬j9 w4 j:=fun j hj q=>by
   have h4:=l4 j q;rcases hTA.new j hj with r|r
   ·rw[hG0]at r;rcases r with⟨w,hw,r⟩|r|r|r
    ·obtain⟨i,hi⟩:=List.mem_iff_getElem?.1 (us9 w hw);by_cases hi3:i=3
     ·subst hi3;have:w=w4:=(Option.some.inj hi).symm;subst this;obtain⟨i2,hi2⟩:=List.mem_iff_getElem?.1 hw;rcases i2 with _|_|i2
      ·exact hsp.ap 1 3 w2 w rfl rfl oM j (by rw[show w2=w from Option.some.inj hi2];exact r) q
      ·exact hsp.ap 2 3 w3 w rfl rfl oM j (by rw[show w3=w from Option.some.inj hi2];exact r) q
      ·exact hsp.ap (i2+4) 3 w w hi2 rfl oM j r q
     ·exact hsp.ap i 3 w w4 hi rfl hi3 j r q
    ·omega
    ·omega
    ·rcases hG9.new j r with r|r
     ·exact hsp.ap 0 3 w1 w4 rfl rfl oM j r q
     ·omega
   ·omega
  have frC:∀j,j<HA.next→¬j9 w4 j→HC.get j=HA.get j:=hGC.but;have wAge:∀b,j9 wA b→H9.next≤b∧b<HA.next:=fun b hb=>by
   have h1:=hOA.own.lt hb;rcases hTA.neww b hb with r|r
   ·exact(A9 b r).elim
   ·omega
  have vCb:∀b,j9 vC b→b<HC.next∧b≠H4.next∧¬j9 wA b:=fun b hb=>by
   have h1:=hOC.lt hb;refine⟨h1.2,?_,fun q=>?_⟩
   ·rcases hGC.new b hb with r|r
    ·have:=l4 b r;omega
    ·omega
   ·have h2:=wAge b q;rcases hGC.new b hb with r|r
    ·have:=l4 b r;omega
    ·omega
  have hOC':dI HC H4.next (fun j=>GA j∨j9 vC j) wA ((s.names++[nm]).flatMap fun n=>R4 (s.attrs.zip s.vals) (Y4 n)):=by
   refine⟨(frC _ hpoA (fun q=>by have:=l4 _ q;omega)).trans gAo,(hOA.own.same fun b hb=>frC b (wAge b hb).2 (fun q=>by have:=l4 b q;have:=wAge b hb;omega)).imp fun cs a h=>w9 _ _ _ _ _ _ h (fun j hj=>frC j (hOA.ap j hj).1 (notw4 j hj)) (fun _ h=> .inl h),fun j hj=>?_⟩;rcases hj with hj|hj
   ·have:=hOA.ap j hj;exact⟨oM,this.2⟩
   ·exact vCb j hj
  obtain⟨aC,cC,eC⟩:=hOC.slice;have hlenC:∀Hx:d9,D3 prog .len [97] [vC] Hx=some (.int .i64 ((s.texts++[fs]).length:Int),none):=fun Hx=>by
   rw[eC];exact J1 aH trivial
  have bs97:bsA prog (some 9) HA 1 [(0,.string fs)]=some (.slice (some ⟨HA.next,0,none⟩) 1 1,HB):=by
   rw[hHB];simp only[C7,ty9,C8];rfl
  have elb:((s.names++[nm]).flatMap fun n=>R4 (s.attrs.zip s.vals) (Y4 n))++(s.texts++[fs]).map bZ=jp s:=by rw[jp,hnm,hfs]
  refine J10 ho k4 gAw q3 hfr bs97 gBw haC hgeC hlenC ?_;refine l9 (F:=fun z=>Ret (u5 _ _ _ (u7 (inBlock 2 z) _)) _ _) (MU HC H4.next (fun j=>GA j∨j9 vC j) wA aC cC (s.texts++[fs]) hOC'.ap oM (by rw[←eC];exact hOC.frz fun b hb=> .inr hb) (by simp;omega) (jp s) (s.texts++[fs]).length _ _ ⟨0,_,wA,_,rfl,oM,k5,eC,rfl,rfl,hOC',cd.refl _ _ _ _,elb,oM⟩) ?_;rintro o2 e2 HD ⟨ho2,k5',GD,wD,hOD,hTD⟩;have gDo:=hOD.g;have nD:=hTD.stay.next;have sAll:i4 H.next H HD:=((((s24.trans (s47.weaken oM)).trans (hG9.stay.weaken oM)).trans (hTA.stay.weaken oM)).trans (hGC.stay.weaken oM)).trans (hTD.stay.weaken oM);have hlD:H.next≤HD.low:=(((((s47.weaken (show H.next≤H4.next from oM)).trans (hG9.stay.weaken oM)).trans (hTA.stay.weaken oM)).trans (hGC.stay.weaken oM)).trans (hTD.stay.weaken oM)).low hl4;refine J3 ho2 k5' gDo ?_;refine ce (fun hc=>?_) ⟨_,_,rfl,.inr ⟨_,hlaw,rfl,SlF.mono (hOD.own.frz fun b hb=>(hOD.own.lt hb).2) (fun _ _=>rfl) (fun j hj=>hj) (fun _ _ h=>w9 _ _ _ _ _ _ h (fun _ _=>rfl) fun j hj=>(hOD.ap j hj).1)⟩,sAll.ret hlD⟩;obtain⟨da,dc,ed⟩:=hOD.own.slice;obtain⟨u1,u2⟩:=au hOD.own (by rw[ed]at hc ⊢;exact hc);exact⟨_,_,rfl,.inr ⟨_,hlaw,rfl,by rw[u1,u2];exact .inl ⟨rfl,rfl⟩⟩,i4.refl _ _⟩
 ·have hb:=dT b;rw[if_pos hb]at hlaw;refine J19 ac hH1.symm g1 ldc bs22 hc52 hg52 hzz.symm hK3.symm gK3 lr lz ar spl hH4.symm g4 ldr hct b ?_;exact⟨_,none,H,rfl,rfl,_,_,rfl,.inl ⟨hlaw,rfl,rfl⟩,i4.refl _ _⟩
structure ReD where
 strat:StD
 labels:List EvD
 sorts:List SoD
 size:List Int
 how:List (Int×Int×Int)
def knB(n:Nat)(k:Int):Bool:=decide (0≤k)&&decide (k<n)
def iH(so:List SoD)(kind f n:Int):Bool:=knB so.length f&&knB so.length n&&(!decide (kind=2)||(decide (f=0)&& !((so.getD n.toNat (false,false,eB)).2.1)))
theorem vD(H:d9)(rb:Nat)(row:LV)(own:Bool)(sz:Nat)(hg:H.get rb=some (.cells row own sz))(sa:Option Addr)(n c:Nat)(h9:row[9]?=some (.slice sa n c))(k:Int):CL prog t6 70 [pT rb,iV k] H=some (.bool (knB n k),none):=by
 have hg1:d9.get ⟨H.bs,H.next⟩ rb=some (.cells row own sz):=hg;rw[j8 ad8 rfl _ (by simp),knB];rcases b:decide ((0:Int)≤k)with _|_
 ·exact J1 b trivial
 ·exact J3 b hg1 h9 trivial
theorem GG(H:d9)(rb:Nat)(row:LV)(own:Bool)(sz:Nat)(hg:H.get rb=some (.cells row own sz))(so:List SoD)(v:Value)(hv:SlI H H.next 3 (v8 soE) v so)(h9:row[9]?=some v)(el:LV)(e:EvD)(hl:el.length=5)(ha:el.all Value.oneCell'=true)(h0:el[0]?=some (.int .i64 e.kind))(f n:Int):
  CL prog t6 40 [pT rb,.agg el.toArray,iV f,iV n] H=some (.bool (iH so e.kind f n),none):=by
 obtain⟨sa,c,rfl⟩:=hv.slice;obtain⟨H1,hH1⟩:∃H1,H1=d9.push ⟨H.bs,H.next⟩ (.cells el true 1):=⟨_,rfl⟩
 have hS:i4 H.next H H1:=by rw[hH1];exact i4.first H _
 have g1:H1.get H.next=cE el 1:=by rw[hH1];exact i7
 have hlow:H.next≤H1.low:=by rw[hH1];exact lR
 have hr1:=(hS.get rb (u6 hg)).trans hg;have k1:=vD H1 rb row own sz hr1 sa so.length c h9 f;have k2:=vD H1 rb row own sz hr1 sa so.length c h9 n;rw[j8 ab7 rfl _ (by simp),iH];rcases b:decide (e.kind=2)with _|_
 ·rcases b1:knB so.length f with _|_
  ·rw[b1]at k1;exact J6 ha hH1.symm g1 h0 b k1 trivial
  ·rw[b1]at k1;rcases b2:knB so.length n with _|_
   ·rw[b2]at k2;exact J7 ha hH1.symm g1 h0 b k1 k2 trivial
   ·rw[b2]at k2;exact J7 ha hH1.symm g1 h0 b k1 k2 trivial
 ·rcases b1:knB so.length f with _|_
  ·rw[b1]at k1;exact J6 ha hH1.symm g1 h0 b k1 trivial
  ·rw[b1]at k1;rcases b2:knB so.length n with _|_
   ·rw[b2]at k2;exact J7 ha hH1.symm g1 h0 b k1 k2 trivial
   ·have b2':=b2;simp only[knB,Bool.and_eq_true,decide_eq_true_eq]at b2';rw[b2]at k2;rcases b3:decide (f=0)with _|_
    ·exact J8 ha hH1.symm g1 h0 b k1 k2 b3 trivial
    ·have hn:(n.toNat:Int)=n:=Int.toNat_of_nonneg b2'.1;have hlt:n.toNat<so.length:=oM;obtain⟨y,nb,o,cs,ow,elv,hx,hd,e0,hF,hg2,hle,hrow,hc,rfl⟩:=hv.row (i:=n.toNat) hlt;subst e0;have c1:=hc 1 oM;have gn:=(hS.get nb hF).trans hg2;have hy:(so.getD n.toNat (false,false,eB)).2.1=y.2.1:=by rw[List.getD_eq_getElem?_getD,hx];rfl
     have y1:(soE y)[1]?=some (.bool y.2.1):=rfl;rw[y1]at c1;have p0:(0:Int)≤n:=b2'.1;have p1:n<so.length:=b2'.2;exact J13 ha hH1.symm g1 h0 b k1 k2 b3 hr1 h9 gn c1 hy trivial
def mx2(a b:Int):Int:=if a<b then b else a
def mxL:List Int→Int
 |[]=>0
 |x::l=>l.foldl mx2 x
theorem Bn(H0:d9)(va:Option Addr)(ca:Nat)(l:List Int)(hv:SlI H0 H0.next 1 (v8 inE) (.slice va l.length ca) l)(hn:l.length≤100000)(r:Int):
  ∀kk e H2,(∃(i:Nat)(m:Int),kk=l.length-i∧1≤i∧i≤l.length∧e.get 0= .slice va l.length ca∧e.get 3=iV m∧e.get 4=iV i∧H2=H0∧(l.drop i).foldl mx2 m=r)→
  u9 (LE prog t6 (.loop FS) e H2) (fun o e H2=>H2=H0∧o= .exit 0∧e.get 3=iV r):=by
 refine j7 _ _ ?_;rintro kk e H2 ⟨i,m,hk,hi0,hi,f0,f3,f4,rfl,fu⟩;rcases b:decide ((i:Int)<l.length)with _|_
 ·have hb':=dF b;have:l.drop i=[]:=dN oM;rw[this,List.foldl_nil]at fu;refine J3 f0 f4 b ?_;exact l7 ⟨rfl,rfl,by rw[←fu];exact f3⟩
 have hb':=dT b;obtain⟨y,nb,o,cs,own,el,hx,hd,rfl,hlt,hg,hle,hrow,hc,rfl⟩:=hv.row (i:=i) oM;have nt:(i:Int).toNat=i:=tN i;have c0:=hc 0 oM;rw[Nat.add_zero]at c0;rw[hd,List.foldl_cons]at fu;have hm:∀Hx,D3 prog .max [3,3] [iV m,iV y] Hx=some (.int .i64 (mx2 m y),none):=fun Hx=>by
  simp [D3,fN,mx2]
 refine J9 f0 f3 f4 b hg nt c0 hm @wrap_small ?_;exact i6 (kk-1) oM ⟨i+1,mx2 m y,oM,oM,oM,f0,rfl,rfl,rfl,fu⟩
theorem XC(H:d9)(v:Value)(l:List Int)(hv:SlI H H.next 1 (v8 inE) v l)(h1:1≤l.length)(hn:l.length≤100000):CL prog t6 60 [v] H=some (.int .i64 (mxL l),none):=by
 obtain⟨va,ca,rfl⟩:=hv.slice;obtain⟨y,nb,o,cs,own,el,hx,hd,rfl,hlt,hg,hle,hrow,hc,rfl⟩:=hv.row (i:=0) oM;have c0:=hc 0 oM;simp only[Nat.zero_mul,Nat.add_zero]at c0;have b:decide ((l.length:Int)<1)=false:=decide_eq_false oM;have hg1:d9.get ⟨H.bs,H.next⟩ nb=some (.cells cs own 1):=hg;have e1:mxL l=(l.drop 1).foldl mx2 y:=by
  cases l with
  |nil=>simp at h1
  |cons x l=>simp at hx;rw[←hx];rfl
 rw[j8 ac8 rfl _ (by simp)];refine J3 b hg1 c0 ?_;refine l9 (F:=fun z=>u5 _ _ _ (u7 (inBlock 0 z) _)=_) (Bn ⟨H.bs,H.next⟩ (some ⟨nb,o,none⟩) ca l (hv.mono (fun _ _=>rfl) lR iF) hn (mxL l) (l.length-1) _ _ ⟨1,y,rfl,lR,h1,rfl,rfl,rfl,rfl,e1.symm⟩) ?_;rintro o' e' H' ⟨hH,ho,h3⟩;exact J3 ho hH h3 trivial
theorem Nr(H:d9)(rb:Nat)(row:LV)(own:Bool)(sz:Nat)(hg:H.get rb=some (.cells row own sz))(v:Value)(l:List Int)(hv:SlI H H.next 1 (v8 inE) v l)(h10:row[10]?=some v)(h1:1≤l.length)(hn:l.length≤100000)(size:Int)(hb0:0≤mxL l)(hb1:mxL l≤1000):
  CL prog t6 33 [pT rb,iV size] H=some (.bool (decide (size≤2*mxL l+1)),none):=by
 have hm:=XC ⟨H.bs,H.next⟩ v l (hv.mono (fun _ _=>rfl) lR iF) h1 hn;have hg1:d9.get ⟨H.bs,H.next⟩ rb=some (.cells row own sz):=hg;rw[j8 ab2 rfl _ (by simp)];exact J4 hg1 h10 hm @wrap_small trivial
theorem tv(H:d9)(row:LV)(so:List SoD)(v:Value)(hv:SlI H H.next 3 (v8 soE) v so)(hl:row.length=12)(ha:row.all Value.oneCell'=true)(h9:row[9]?=some v)(hn:so.length≤1000)(x:SoD):
  CL prog t6 17 [.agg row.toArray,.agg (soE x).toArray] H=some (.int .i64 (ixG (fun y=>fo x y) so 0),none):=by
 obtain⟨H1,hH1,n1,-⟩:=pushF H (.cells row true 1);obtain⟨H2,hH2⟩:∃K,K=H1.push (.cells (soE x) true 1):=⟨_,rfl⟩
 have hS:i4 H.next H H2:=by rw[hH2,hH1];exact(i4.first H _).trans (i4.push (by rw[i5];exact Nat.le_succ _))
 have g1:H2.get H.next=cE row 1:=by rw[hH2,j6 oM,hH1];exact i7
 have g2:H2.get (H.next+1)=cE (soE x) 1:=by rw[hH2,←n1];exact i7
 have hlow:H.next≤H2.low:=by rw[hH2,hH1];exact lR
 have hr:ldC (some true) (some 3) 0 (soE x)=some (.agg (soE x).toArray):=rfl;have hf:=AL H2 H.next v so x (by have:=hS.next;omega) (hv.mono (fun j hj=>hS.get j hj) lR iF) oM;rw[j8 aa6 rfl _ (by simp)];exact J9 ha hH1.symm n1 hH2.symm g1 g2 h9 hr hf trivial
structure R0(Rp Rt:LV→Q→Prop)(H:d9)(rb lw:Nat)(G:Nat→Prop)(r:ReD)(rs:LV)(vl w1 w2 w3:Value):Prop where
 g:H.get rb=cE (rs++[vl,w1,w2,w3]) 1
 st:StF H G Rp Rt rs r.strat
 lb:SlF H G 5 (EvF H G) vl r.labels
 so:t7 H lw 3 (v8 soE) w1 r.sorts
 sz:t7 H lw 1 (v8 inE) w2 r.size
 ho:t7 H lw 3 (v8 hoE) w3 r.how
 ap:aJ [w1,w2,w3]
 fr:∀j,G j→j<H.next∧j≠rb∧∀w∈ [w1,w2,w3],¬j9 w j
 nb:lw≤rb∧∀w∈ [w1,w2,w3],¬j9 w rb
structure Z1(rb lw:Nat)(W0:LV)(H0:d9)(W:LV)(H:d9):Prop where
 but:∀j,j<H0.next→j≠rb→(∀w∈W0,¬j9 w j)→H.get j=H0.get j
 new:∀b,(∃w∈W,j9 w b)→(∃w∈W0,j9 w b)∨H0.next≤b
 stay:i4 lw H0 H
theorem Z1.refl(rb lw:Nat)(W:LV)(H:d9):Z1 rb lw W H W H:=⟨fun _ _ _ _=>rfl,fun _ h=> .inl h,i4.refl _ _⟩
theorem Z1.trans{rb lw:Nat}{W0 W1 W2:LV}{H0 H1 H2:d9}(h:Z1 rb lw W0 H0 W1 H1)(k:Z1 rb lw W1 H1 W2 H2):Z1 rb lw W0 H0 W2 H2:=by
 have n1:=h.stay.next;refine⟨fun j hj h1 h2=>?_,fun b hb=>?_,h.stay.trans k.stay⟩
 ·rw[k.but j oM h1 (fun w hw q=>by
   rcases h.new j ⟨w,hw,q⟩with⟨w',hw',r⟩|r
   ·exact h2 w' hw' r
   ·omega),h.but j hj h1 h2]
 ·rcases k.new b hb with q|q
  ·exact h.new b q
  ·exact .inr oM
theorem Z1.of{rb lw:Nat}{W:LV}{H H1:d9}(hS:i4 H.next H H1)(h:lw≤H.next):Z1 rb lw W H W H1:=⟨fun j hj _ _=>hS.get j hj,fun _ h=> .inl h,hS.weaken h⟩
section
variable{Rp Rt:List Value→Q→Prop}{H H1:d9}{rb lw:Nat}{G:Nat→Prop}{r:ReD}{rs:List Value}{vl w1 w2 w3:Value}
theorem R0.inl(h:R0 Rp Rt H rb lw G r rs vl w1 w2 w3){w:Value}(hw:w∈ [w1,w2,w3]){b:Nat}(hb:j9 w b):lw≤b∧b≠rb∧b<H.next:=by
 have hne:b≠rb:=fun q=>h.nb.2 w hw (q▸hb);simp only[List.mem_cons,List.not_mem_nil,or_false]at hw;rcases hw with rfl|rfl|rfl
 ·exact⟨(h.so.lt hb).1,hne,(h.so.lt hb).2⟩
 ·exact⟨(h.sz.lt hb).1,hne,(h.sz.lt hb).2⟩
 ·exact⟨(h.ho.lt hb).1,hne,(h.ho.lt hb).2⟩
theorem R0.rsl(h:R0 Rp Rt H rb lw G r rs vl w1 w2 w3):rs.length=8:=by
 obtain⟨v1,v2,v3,ms,rfl,_,_,_,hm⟩:=h.st;have:=aV hm;simp [this]
theorem R0.at_(h:R0 Rp Rt H rb lw G r rs vl w1 w2 w3):(rs++[vl,w1,w2,w3])[8]?=some vl∧(rs++[vl,w1,w2,w3])[9]?=some w1∧(rs++[vl,w1,w2,w3])[10]?=some w2∧(rs++[vl,w1,w2,w3])[11]?=some w3:=by
 have:=h.rsl;refine⟨?_,?_,?_,?_⟩<;>rw[List.getElem?_append_right oM,this]<;>rfl
theorem R0.keep(h:R0 Rp Rt H rb lw G r rs vl w1 w2 w3)(hS:i4 H.next H H1):R0 Rp Rt H1 rb lw G r rs vl w1 w2 w3:=by
 have hrb:=u6 h.g;have hn:=hS.next;have sG:∀j,G j→H1.get j=H.get j:=fun j hj=>hS.get j (h.fr j hj).1;exact⟨(hS.get rb hrb).trans h.g,h.st.mono sG (fun _ h=>h) iF iF,h.lb.mono sG (fun _ h=>h) (fun _ _ q=>w9 _ _ _ _ _ _ q sG (fun _ h=>h)),h.so.keep hS,h.sz.keep hS,h.ho.keep hS,h.ap,fun j hj=>by have:=h.fr j hj;exact⟨oM,this.2⟩,h.nb⟩
end
def aQ(r:ReD)(x:SoD)(size:Int)(how:Int×Int×Int):ReD×Bool:=
 if(r.sorts.any fun y=>fo x y) then(r,true) else if(decide (24<(r.sorts.length:Int))||decide (200<size)) then(r,false) else({r with sorts:=r.sorts++[x],size:=r.size++[size],how:=r.how++[how]},true)
def GN(Rp Rt:LV→Q→Prop)(rb lw:Nat)(G:Nat→Prop)(rs:LV)(vl w1 w2 w3:Value)(H:d9)(r':ReD)(b:Bool):Value→d9→Prop:=fun v H'=>v= .bool b∧∃x1 x2 x3,R0 Rp Rt H' rb lw G r' rs vl x1 x2 x3∧Z1 rb lw [w1,w2,w3] H [x1,x2,x3] H'
theorem Oc(Rp Rt:LV→Q→Prop)(H:d9)(rb lw:Nat)(G:Nat→Prop)(r:ReD)(rs:LV)(vl w1 w2 w3:Value)(hR:R0 Rp Rt H rb lw G r rs vl w1 w2 w3)(x:SoD)(size:Int)(how:Int×Int×Int)(hl1:r.sorts.length≤1000)(hl2:r.size.length≤1000)(hl3:r.how.length≤1000):
  Ret (CL prog t6 62 [pT rb,.agg (soE x).toArray,iV size,.agg (hoE how).toArray] H) H (GN Rp Rt rb lw G rs vl w1 w2 w3 H (aQ r x size how).1 (aQ r x size how).2):=by
 obtain⟨H0,hH0,n0,-⟩:=pushF H (.cells (soE x) true 1);obtain⟨H1,hH1⟩:∃K,K=H0.push (.cells (hoE how) true 1):=⟨_,rfl⟩
 have n1:H1.next=H.next+2:=by rw[hH1,i5,n0]
 have hS:i4 H.next H H1:=by rw[hH1,hH0];exact(i4.first H _).trans (i4.push (by rw[i5];exact Nat.le_succ _))
 have g1:H1.get H.next=cE (soE x) 1:=by rw[hH1,j6 oM,hH0];exact i7
 have g2:H1.get (H.next+1)=cE (hoE how) 1:=by rw[hH1,←n0];exact i7
 have hlow:H.next≤H1.low:=by rw[hH1,hH0];exact lR
 have hrb:=u6 hR.g;have hR1:=hR.keep hS;have gr1:=hR1.g;have hnb:=hR1.nb.1;obtain⟨q8,q9,q10,q11⟩:=hR1.at_;have lrs:=hR.rsl;obtain⟨row,hrow⟩:∃r,r=rs++[vl,w1,w2,w3]:=⟨_,rfl⟩
 rw[←hrow]at gr1 q8 q9 q10 q11;have hr3:ldC (some true) (some 3) 0 (soE x)=some (.agg (soE x).toArray):=rfl;have hr3':ldC (some true) (some 3) 0 (hoE how)=some (.agg (hoE how).toArray):=rfl;have hh:=Xu H1 H1.next w1 r.sorts x lR hR1.so.sl oM;rw[j8 ad0 rfl _ (by simp)];rcases b:(r.sorts.any fun y=>fo x y)with _|_
 ·rw[b]at hh;rcases b2:decide (24<(r.sorts.length:Int))with _|_
  ·rcases b3:decide (200<size)with _|_
   ·have ha:aQ r x size how=({r with sorts:=r.sorts++[x],size:=r.size++[size],how:=r.how++[how]},true):=by rw[aQ,b,b2,b3];rfl
    rw[ha];obtain⟨v1,i1,K2,ha1,hge1,hO1,hG1⟩:=hR1.so.push1F (P:=prog) (t:=36) (cs:=soE x) (a:=x) (by exact NQ.2.2.2.2.2.2) yO.1 yO.2.1 yO.2.2.1 oM oM rfl rfl oM oM;obtain⟨K1,hK1⟩:∃K,K=H1.push (.cells (soE x) true 3):=⟨_,rfl⟩
    rw[←hK1]at ha1 hge1;have s1:i4 H1.next H1 K1:=by rw[hK1];exact i4.push lR
    have m2:=hG1.next;have a12:∀j,j9 w1 j→¬j9 w2 j:=hR1.ap 0 1 w1 w2 rfl rfl oM;have a13:∀j,j9 w1 j→¬j9 w3 j:=hR1.ap 0 2 w1 w3 rfl rfl oM;have a23:∀j,j9 w2 j→¬j9 w3 j:=hR1.ap 1 2 w2 w3 rfl rfl oM;have l1:∀j,j9 w1 j→lw≤j∧j≠rb∧j<H1.next:=fun j hj=>hR1.inl (by simp) hj;have l2:∀j,j9 w2 j→lw≤j∧j≠rb∧j<H1.next:=fun j hj=>hR1.inl (by simp) hj;have l3:∀j,j9 w3 j→lw≤j∧j≠rb∧j<H1.next:=fun j hj=>hR1.inl (by simp) hj;have hsz2:t7 K2 lw 1 (v8 inE) w2 r.size:=hR1.sz.same fun b hb=>hG1.but b (l2 b hb).2.2 (fun q=>a12 b q hb);obtain⟨v2,i2,K4,ha2,hge2,hO2,hG2⟩:=hsz2.push1F (P:=prog) (t:=29) (cs:=inE size) (a:=size) (by exact yL.2.2.2.2.2.2) ty3.1 ty3.2.1 ty3.2.2.1 oM oM rfl rfl oM oM;obtain⟨K3,hK3⟩:∃K,K=K2.push (.cells (inE size) true 1):=⟨_,rfl⟩
    rw[←hK3]at ha2 hge2;have s3:i4 K2.next K2 K3:=by rw[hK3];exact i4.push lR
    have m4:=hG2.next;have hho4:t7 K4 lw 3 (v8 hoE) w3 r.how:=(hR1.ho.same (H':=K2) fun b hb=>hG1.but b (l3 b hb).2.2 (fun q=>a13 b q hb)).same fun b hb=>hG2.but b (by have:=l3 b hb;omega) (fun q=>a23 b q hb);obtain⟨v3,i3,K6,ha3,hge3,hO3,hG3⟩:=hho4.push1F (P:=prog) (t:=37) (cs:=hoE how) (a:=how) (by exact XW.2.2.2.2.2.2) yN.1 yN.2.1 yN.2.2.1 oM oM rfl rfl oM oM;obtain⟨K5,hK5⟩:∃K,K=K4.push (.cells (hoE how) true 3):=⟨_,rfl⟩
    rw[←hK5]at ha3 hge3;have s5:i4 K4.next K4 K5:=by rw[hK5];exact i4.push lR
    have m6:=hG3.next;have k1:K1.get rb=cE row 1:=(s1.get rb oM).trans gr1;have k2:K2.get rb=cE row 1:=(hG1.but rb oM (fun q=>by have:=l1 rb q;omega)).trans gr1;have k3:K3.get rb=cE row 1:=(s3.get rb oM).trans k2;have k4:K4.get rb=cE row 1:=(hG2.but rb oM (fun q=>by have:=l2 rb q;omega)).trans k2;have k5:K5.get rb=cE row 1:=(s5.get rb oM).trans k4;have k6:K6.get rb=cE row 1:=(hG3.but rb oM (fun q=>by have:=l3 rb q;omega)).trans k4;have nH:∀w∈ [w1,w2,w3],¬j9 w (H.next+1):=fun w hw q=>by have:=hR.inl hw q;omega
    have p1:=(s1.get (H.next+1) oM).trans g2;have p2:=(hG1.but (H.next+1) oM (nH w1 (by simp))).trans g2;have p3:=(s3.get (H.next+1) oM).trans p2;have p4:=(hG2.but (H.next+1) oM (nH w2 (by simp))).trans p2;obtain⟨a1,c1,e1⟩:=hO1.slice;obtain⟨a2,c2,e2⟩:=hO2.slice;obtain⟨a3,c3,e3⟩:=hO3.slice;have cu1:v1.cells.toList=[v1]:=by rw[e1];rfl
    have ou1:Value.oneCell' v1=true:=by rw[e1];rfl
    have cu2:v2.cells.toList=[v2]:=by rw[e2];rfl
    have ou2:Value.oneCell' v2=true:=by rw[e2];rfl
    have cu3:v3.cells.toList=[v3]:=by rw[e3];rfl
    have ou3:Value.oneCell' v3=true:=by rw[e3];rfl
    have lrow:row.length=12:=by rw[hrow];simp [lrs]
    obtain⟨row1,hr1⟩:∃r,r=rs++[vl,v1,w2,w3]:=⟨_,rfl⟩
    obtain⟨row2,hr2⟩:∃r,r=rs++[vl,v1,v2,w3]:=⟨_,rfl⟩
    obtain⟨rowz,hrz⟩:∃r,r=rs++[vl,v1,v2,v3]:=⟨_,rfl⟩
    have lr1:row1.length=12:=by rw[hr1];simp [lrs]
    have lr2:row2.length=12:=by rw[hr2];simp [lrs]
    have sp1:splice row 9 [v1]=row1:=by show row.set 9 v1=row1;rw[hrow,hr1,List.set_append_right _ _ oM,lrs];rfl
    have sp2:splice row1 10 [v2]=row2:=by show row1.set 10 v2=row2;rw[hr1,hr2,List.set_append_right _ _ oM,lrs];rfl
    have sp3:splice row2 11 [v3]=rowz:=by show row2.set 11 v3=rowz;rw[hr2,hrz,List.set_append_right _ _ oM,lrs];rfl
    obtain⟨K7,hK7⟩:∃K,K=K6.put rb (.cells row1 true 1):=⟨_,rfl⟩
    have k7:K7.get rb=cE row1 1:=by rw[hK7];exact i8 oM
    have m7:K7.next=K6.next:=by rw[hK7,j5]
    obtain⟨K8,hK8⟩:∃K,K=K7.put rb (.cells row2 true 1):=⟨_,rfl⟩
    have k8:K8.get rb=cE row2 1:=by rw[hK8];exact i8 oM
    have m8:K8.next=K6.next:=by rw[hK8,j5,m7]
    obtain⟨K9,hK9⟩:∃K,K=K8.put rb (.cells rowz true 1):=⟨_,rfl⟩
    have k9:K9.get rb=cE rowz 1:=by rw[hK9];exact i8 oM
    have m9:K9.next=K6.next:=by rw[hK9,j5,m8]
    have b36:bsA prog (some 59) H1 1 [(0,.agg (soE x).toArray)]=some (.slice (some ⟨H1.next,0,none⟩) 1 1,K1):=by
     rw[hK1];simp only[C7,yO,C8];rfl
    have b29:bsA prog (some 3) K2 1 [(0,iV size)]=some (.slice (some ⟨K2.next,0,none⟩) 1 1,K3):=by
     rw[hK3];simp only[C7,ty3,C8];rfl
    have b37:bsA prog (some 56) K4 1 [(0,.agg (hoE how).toArray)]=some (.slice (some ⟨K4.next,0,none⟩) 1 1,K5):=by
     rw[hK5];simp only[C7,yN,C8];rfl
    have hlen1:∀Hx:d9,D3 prog .len [36] [w1] Hx=some (.int .i64 (r.sorts.length:Int),none):=fun Hx=>by
     obtain⟨aa,cc,ee⟩:=hR1.so.slice;rw[ee];exact J1 NQ trivial
    have e9:∀j,j≠rb→K9.get j=K6.get j:=fun j hj=>by rw[hK9,i9 (fun q=>hj q.symm),hK8,i9 (fun q=>hj q.symm),hK7,i9 (fun q=>hj q.symm)]
    have fr9:∀j,j<H1.next→j≠rb→(∀w∈ [w1,w2,w3],¬j9 w j)→K9.get j=H1.get j:=fun j hj h1 h2=>by
     rw[e9 j h1,hG3.but j oM (h2 w3 (by simp)),hG2.but j oM (h2 w2 (by simp)),hG1.but j hj (h2 w1 (by simp))]
    have n13:∀b,j9 v1 b→¬j9 w2 b∧¬j9 w3 b:=fun b hb=>by
     rcases hG1.new b hb with q|q
     ·exact⟨a12 b q,a13 b q⟩
     ·exact⟨fun r=>by have:=l2 b r;omega,fun r=>by have:=l3 b r;omega⟩
    have n23:∀b,j9 v2 b→¬j9 w3 b:=fun b hb=>by
     rcases hG2.new b hb with q|q
     ·exact a23 b q
     ·exact fun r=>by have:=l3 b r;omega
    have hS9:i4 lw H1 K9:=by
     rw[hK9,hK8,hK7];exact(((((hG1.stay.weaken oM).trans (hG2.stay.weaken oM)).trans (hG3.stay.weaken oM)).trans (i4.put hnb)).trans (i4.put hnb)).trans (i4.put hnb)
    have f1:t7 K9 lw 3 (v8 soE) v1 (r.sorts++[x]):=hO1.same fun b hb=>by
     have:=hO1.lt hb;have hne:b≠rb:=by
      rcases hG1.new b hb with q|q
      ·exact(l1 b q).2.1
      ·omega
     rw[e9 b hne,hG3.but b oM (n13 b hb).2,hG2.but b oM (n13 b hb).1]
    have f2:t7 K9 lw 1 (v8 inE) v2 (r.size++[size]):=hO2.same fun b hb=>by
     have:=hO2.lt hb;have hne:b≠rb:=by
      rcases hG2.new b hb with q|q
      ·exact(l2 b q).2.1
      ·omega
     rw[e9 b hne,hG3.but b oM (n23 b hb)]
    have f3:t7 K9 lw 3 (v8 hoE) v3 (r.how++[how]):=hO3.same fun b hb=>e9 b (by
      rcases hG3.new b hb with q|q
      ·exact(l3 b q).2.1
      ·omega)
    have nw:∀b,(∃w∈ [v1,v2,v3],j9 w b)→(∃w∈ [w1,w2,w3],j9 w b)∨H1.next≤b:=fun b⟨w,hw,hb⟩=>by
     simp only[List.mem_cons,List.not_mem_nil,or_false]at hw;rcases hw with rfl|rfl|rfl
     ·exact(hG1.new b hb).imp (fun q=>⟨w1,by simp,q⟩) id
     ·exact(hG2.new b hb).imp (fun q=>⟨w2,by simp,q⟩) (fun q=>oM)
     ·exact(hG3.new b hb).imp (fun q=>⟨w3,by simp,q⟩) (fun q=>oM)
    have ap9:aJ [v1,v2,v3]:=by
     have t1:aJ [v1,w2,w3]:=hR1.ap.set (k:=0) (v:=v1) (n:=H1.next) rfl hG1.new fun y hy b hb=>(hR1.inl hy hb).2.2;have t2:aJ [v1,v2,w3]:=t1.set (k:=1) (v:=v2) (n:=K2.next) rfl hG2.new fun y hy b hb=>by
      simp only[List.mem_cons,List.not_mem_nil,or_false]at hy;rcases hy with rfl|rfl|rfl
      ·exact(hO1.lt hb).2
      ·have:=l2 b hb;omega
      ·have:=l3 b hb;omega
     exact t2.set (k:=2) (v:=v3) (n:=K4.next) rfl hG3.new fun y hy b hb=>by
      simp only[List.mem_cons,List.not_mem_nil,or_false]at hy;rcases hy with rfl|rfl|rfl
      ·have:=hO1.lt hb;omega
      ·exact(hO2.lt hb).2
      ·have:=l3 b hb;omega
    have sG:∀j,G j→K9.get j=H1.get j:=fun j hj=>by have:=hR1.fr j hj;exact fr9 j this.1 this.2.1 this.2.2
    have fin:R0 Rp Rt K9 rb lw G {r with sorts:=r.sorts++[x],size:=r.size++[size],how:=r.how++[how]} rs vl v1 v2 v3:=
     ⟨by rw[k9,hrz],hR1.st.mono sG (fun _ h=>h) iF iF,hR1.lb.mono sG (fun _ h=>h) (fun _ _ q=>w9 _ _ _ _ _ _ q sG (fun _ h=>h)),f1,f2,f3,ap9,fun j hj=>by
      have h:=hR1.fr j hj;refine⟨oM,h.2.1,fun w hw q=>?_⟩;rcases nw j ⟨w,hw,q⟩with⟨w',hw',r⟩|r
      ·exact h.2.2 w' hw' r
      ·omega,hnb,fun w hw q=>by
      rcases nw rb ⟨w,hw,q⟩with⟨w',hw',r⟩|r
      ·exact hR1.nb.2 w' hw' r
      ·omega⟩
    refine J30 hH0.symm n0 hH1.symm g1 g2 gr1 q9 q10 q11 (And.intro hr3 hr3') (And.intro hh hlen1) (And.intro b2 b3) (And.intro b36 k1) (And.intro ha1 hge1) (And.intro k2 b29) (And.intro k3 p1) (And.intro p2 p3) (And.intro p4 ha2) (And.intro hge2 k4) (And.intro b37 k5) (And.intro ha3 hge3) (And.intro k6 cu1) (And.intro ou1 cu2) (And.intro ou2 cu3) (And.intro ou3 lrow) (And.intro lr1 lr2) (And.intro sp1 hK7.symm) (And.intro k7 sp2) (And.intro hK8.symm k8) (And.intro sp3 hK9.symm) ?_;have hlw:K9.low≤rb:=by rw[hK9,A4];omega
    refine D7 (fun _ hl=>oM) ⟨rfl,v1,v2,v3,⟨fin.g,fin.st.mono (fun _ _=>rfl) (fun _ h=>h) iF iF,fin.lb.mono (fun _ _=>rfl) (fun _ h=>h) (fun _ _ q=>w9 _ _ _ _ _ _ q (fun _ _=>rfl) (fun _ h=>h)),fin.so.low _,fin.sz.low _,fin.ho.low _,fin.ap,fin.fr,fin.nb⟩,fun j hj h1 h2=>?_,fun b hb=>(nw b hb).imp id fun q=>oM,⟨?_,fun k hk q=>?_,fun j hj=>?_⟩⟩
    ·show K9.get j=H.get j;rw[fr9 j oM h1 h2,hS.get j hj]
    ·show H.next≤K9.next;omega
    ·have:=hS9.lowAll k hk oM;show k≤min H.low K9.low;omega
    ·show K9.get j=H.get j;rw[hS9.get j hj,hS.get j oM]
   ·have ha:aQ r x size how=(r,false):=by rw[aQ,b,b2,b3];rfl
    rw[ha];obtain⟨a1,c1,e1⟩:=hR1.so.slice;rw[e1]at hh q9;refine J10 hH0.symm n0 hH1.symm g1 gr1 q9 hr3 hh b2 b3 ?_;exact⟨_,none,H,rfl,rfl,rfl,w1,w2,w3,hR,Z1.refl _ _ _ _⟩
  ·have ha:aQ r x size how=(r,false):=by rw[aQ,b,b2];rfl
   rw[ha];obtain⟨a1,c1,e1⟩:=hR1.so.slice;rw[e1]at hh q9;refine J9 hH0.symm n0 hH1.symm g1 gr1 q9 hr3 hh b2 ?_;exact⟨_,none,H,rfl,rfl,rfl,w1,w2,w3,hR,Z1.refl _ _ _ _⟩
 ·rw[b]at hh;have ha:aQ r x size how=(r,true):=by rw[aQ,b];rfl
  rw[ha];refine J8 hH0.symm n0 hH1.symm g1 gr1 q9 hr3 hh ?_;exact⟨_,none,H,rfl,rfl,rfl,w1,w2,w3,hR,Z1.refl _ _ _ _⟩
end Go.Proofs.YtofbhlhamfkljaaGreatDoor.Ve
namespace Go.Proofs.YtofbhlhamfkljaaGreatDoor.Ve
open Go Ve.Ab
open Go.Proofs.Tryz (prog)
set_option linter.unusedVariables false
set_option linter.unusedSimpArgs false
set_option maxRecDepth 1000000
set_option maxHeartbeats 0
noncomputable def p34:Code×Code×Code×Code×Code:=match Tryz.f34.body with
 |some (.seq a (.seq (.seq b (.block _ (.rangeFunc _ _ A B))) c))=>(a,b,A,B,c)
 |_=>(.skip,.skip,.skip,.skip,.skip)
theorem GY:Tryz.f34.body=some (.seq p34.1 (.seq (.seq p34.2.1 (.block 0 (.rangeFunc (.tmp 11) #[12,13] p34.2.2.1 p34.2.2.2.1))) p34.2.2.2.2)):=kR
abbrev vw:=cO [N 2 (bx 75 0),N 3 (bx 3 1),N 4 (.alloc 4)]
theorem ag0:O7 p34.1=some vw:=kR
abbrev vx:=cO [L 9 75 2,L 10 3 3,N 11 (c2 61 9 10 75 3)]
theorem ag1:O7 p34.2.1=some vx:=kR
abbrev kx:=cS (cO [A 5 12]) (cO [A 6 13])
theorem Xw:O7 p34.2.2.1=some kx:=kR
abbrev QE:=cS (.mix [⟨L 30 75 2,false,true,0,1⟩,m1 (L 31 75 2),m0 (N 32 (nc 31)),m0 (F 33 39 32 0),m1 (L 34 34 33),m1 (L 35 51 8),m1 (L 36 75 2),m0 (N 37 (nc 36)),m0 (F 38 39 37 2),m1 (L 39 36 38),m0 (M 40 5),m0 (N 41 (ia 36 39 40)),m1 (L 42 59 41),m1 (L 43 75 2),m0 (N 44 (nc 43)),m0 (F 45 39 44 2),m1 (L 46 36 45),m0 (M 47 6),m0 (N 48 (ia 36 46 47)),m1 (L 49 59 48),m3 (N 50 (cf 41 #[T 34,T 35,T 42,T 49] #[34,51,59,59])) 0 1,⟨L 51 3 3,false,true,0,1⟩,m2 (M 52 7) 0 1,m2 (M 53 5) 0 1,m2 (M 54 6) 0 1,m2 (N 55 (.build 56 #[(0,T 52),(1,T 53),(2,T 54)])) 0 1,m3 (N 56 (cf 62 #[T 30,T 50,T 51,T 55] #[75,59,3,56])) 1 2,m2 (N 57 (nt' 4 56)) 2 2]) (cC (T 57) (cS (cO [V (.store 4 (T 4) B0)]) .ret) .skip)
abbrev QF:=cS (cS (cO [L 24 75 2,L 25 51 8,M 26 5,M 27 6,N 28 (cf 40 #[T 24,T 25,T 26,T 27] #[75,51,3,3]),N 29 (nt' 4 28)]) (cC (T 29) (.exit 3) .skip)) QE
abbrev QH:=cS (cB 3 (cS (cO [M 21 19,N 22 (ia 35 17 19),L 23 51 22,N 8 (.alloc 51),A 7 21,V (st' 51 8 23)]) QF)) (cO [N 58 (bk .add 3 19 1 3),M 19 58])
abbrev Fz:=cS (cO [N 20 (bo .lss 3 19 18 3)]) (cS (cC (T 20) .skip (.exit 2)) QH)
abbrev ky:=cB 1 (cS (cO [L 14 75 2,N 15 (nc 14),F 16 39 15 1,L 17 35 16,N 18 (ln 17 35),N 19 (.move (K 0))]) (cW 2 Fz))
theorem Xx:O7 p34.2.2.2.1=some ky:=kR
abbrev nh:=cS (cO [V (.store 4 (T 4) B1)]) .ret
theorem ag2:O7 p34.2.2.2.2=some nh:=kR
theorem Mz:prog.funcs[34]?=some Tryz.f34:=kR
theorem ah2:(F8 Tryz.f34.ntmps p34.1&&F8 Tryz.f34.ntmps p34.2.1&&F8 Tryz.f34.ntmps p34.2.2.1&&F8 Tryz.f34.ntmps p34.2.2.2.1&&F8 Tryz.f34.ntmps p34.2.2.2.2&&E5 p34.2.2.1&&E5 p34.2.2.2.1&&decide (12<Tryz.f34.ntmps)&&decide (13<Tryz.f34.ntmps))=true:=kR
theorem Xp:fnA prog 34=none:=kR
theorem ah1:Tryz.f34.ntmps=59:=kR
theorem ah6:Tryz.f34.results.toList=[.cell 4 4]:=kR
end Go.Proofs.YtofbhlhamfkljaaGreatDoor.Ve
namespace Go.Proofs.YtofbhlhamfkljaaGreatDoor.Ve
open Go Go.RowKit
open Go.Proofs.Tryz (prog)
set_option linter.unusedVariables false
set_option linter.unusedSimpArgs false
set_option maxRecDepth 1000000
set_option maxHeartbeats 0
theorem lH(s:StD)(e:EvD)(fi ne:SoD):∀(l:List (PrD×Int))(bs:List Bool),(cn s e fi ne l bs).length=bs.length
 |[],bs=>rfl
 |x::l,bs=>by
  rw[cn,lH s e fi ne l,gV,ph];simp
theorem Cj(s:StD)(e:EvD)(fi ne:SoD){n:Nat}(hn:(n:Int)=y9 s.progs):fm (Y8 s e fi ne) n:=fun _=>by
 show(rU (cn s e fi ne (s.progs.zip s.base) (List.replicate (y9 s.progs).toNat false))).size=n;have h1:∀l:List Bool,(rU l).size=l.length:=fun l=>by
  show((l.map fun b=>if b then(1:UInt8) else 0).toArray).size=_;simp
 rw[h1,lH,List.length_replicate];omega
structure WfR(r:ReD)(n:Nat):Prop where
 n0:(n:Int)=y9 r.strat.progs
 st:WfS r.strat n
 so:∀x∈r.sorts,fm x n
 at_:∀e∈r.labels,e.attrs.length≤1000000
 sz:∀p∈r.strat.progs,p.ts.length≤1000000∧p.ed.length≤1000000∧0≤p.st∧p.st≤1000000
 l1:r.sorts.length≤25
 l2:r.size.length=r.sorts.length
 l3:r.how.length=r.sorts.length
 ll:r.labels.length≤1000
 l0:1≤r.sorts.length
 sb:∀x∈r.size,0≤x∧x≤200
theorem fy(r:ReD)(x:SoD)(size:Int)(how:Int×Int×Int):(aQ r x size how).1.strat=r.strat∧(aQ r x size how).1.labels=r.labels∧r.size<+:(aQ r x size how).1.size∧r.sorts<+:(aQ r x size how).1.sorts:=by
 unfold aQ;split
 ·exact⟨rfl,rfl,List.prefix_rfl,List.prefix_rfl⟩
 ·split
  ·exact⟨rfl,rfl,List.prefix_rfl,List.prefix_rfl⟩
  ·exact⟨rfl,rfl,List.prefix_append _ _,List.prefix_append _ _⟩
theorem WfR.add{r:ReD}{n:Nat}(h:WfR r n){x:SoD}(hx:fm x n){size:Int}(h0:0≤size)(how:Int×Int×Int):WfR (aQ r x size how).1 n:=by
 unfold aQ;split
 ·exact h
 ·split
  ·exact h
  ·rename_i hc;simp only[Bool.or_eq_true,decide_eq_true_eq,not_or]at hc;refine⟨h.n0,h.st,fun y hy=>?_,h.at_,h.sz,?_,?_,?_,h.ll,?_,fun y hy=>?_⟩
   ·rcases List.mem_append.1 hy with q|q
    ·exact h.so y q
    ·rw[List.mem_singleton.1 q];exact hx
   ·simp only[List.length_append,List.length_singleton];omega
   ·simp only[List.length_append,List.length_singleton];rw[h.l2]
   ·simp only[List.length_append,List.length_singleton];rw[h.l3]
   ·simp only[List.length_append,List.length_singleton];omega
   ·rcases List.mem_append.1 hy with q|q
    ·exact h.sb y q
    ·rw[List.mem_singleton.1 q];omega
def soZ:SoD:=(false,false,eB)
def Q0(size a b:Int):List EvD→Nat→ReD→ReD×Bool
 |[],_,r=>(r,true)
 |e::l,i,r=>
  if iH r.sorts e.kind a b then
   if(aQ r (Y8 r.strat e (r.sorts.getD a.toNat soZ) (r.sorts.getD b.toNat soZ)) size (i,a,b)).2 then Q0 size a b l (i+1) (aQ r (Y8 r.strat e (r.sorts.getD a.toNat soZ) (r.sorts.getD b.toNat soZ)) size (i,a,b)).1
   else((aQ r (Y8 r.strat e (r.sorts.getD a.toNat soZ) (r.sorts.getD b.toNat soZ)) size (i,a,b)).1,false)
  else Q0 size a b l (i+1) r
structure yU(Hb:d9)(rb lw:Nat)(W0:LV)(b2 b3 b4:Nat)(size:Int):Prop where
 g2:Hb.get b2=cE [pT rb] 1
 g3:Hb.get b3=cE [iV size] 1
 g4:∃v,Hb.get b4=cE [v] 1
 ne:∀j,(j=b2∨j=b3∨j=b4)→lw≤j∧j≠rb∧∀w∈W0,¬j9 w j
theorem yU.at_{Hb:d9}{rb lw:Nat}{W0:LV}{b2 b3 b4:Nat}{size:Int}(h:yU Hb rb lw W0 b2 b3 b4 size){W:LV}{H:d9}(hT:Z1 rb lw W0 Hb W H):H.get b2=cE [pT rb] 1∧H.get b3=cE [iV size] 1∧∃v,H.get b4=cE [v] 1:=by
 obtain⟨v,h4⟩:=h.g4;have k:∀j,(j=b2∨j=b3∨j=b4)→j<Hb.next→H.get j=Hb.get j:=fun j hj hl=>by
  have:=h.ne j hj;exact hT.but j hl this.2.1 this.2.2
 exact⟨(k b2 (.inl rfl) (u6 h.g2)).trans h.g2,(k b3 (.inr (.inl rfl)) (u6 h.g3)).trans h.g3,v,(k b4 (.inr (.inr rfl)) (u6 h4)).trans h4⟩
theorem qU(Hs:d9)(lo K:Nat)(rb lw:Nat)(G:Nat→Prop)(rs:LV)(vl:Value)(W0:LV)(Hb:d9)(b2 b3 b4:Nat)(size a b:Int)(h0:0≤size)(n:Nat)(hbox:yU Hb rb lw W0 b2 b3 b4 size)(hlo:lo≤lw)(heq:∀j,j<lo→Hb.get j=Hs.get j) (va:Option Addr) (vc:Nat) (lb:List EvD) (hvl:vl= .slice va lb.length vc) (res:ReD×Bool):
  ∀kk e H,(∃(i:Nat)(r:ReD)(x1 x2 x3:Value),kk=lb.length-i∧i≤lb.length∧e.get 2=pT b2∧e.get 3=pT b3∧e.get 4=pT b4∧e.get 5=iV a∧e.get 6=iV b∧e.get 17=vl∧e.get 18=iV lb.length∧e.get 19=iV i∧
    r.labels=lb∧R0 (QR Hs lo K false) (QR Hs lo K true) H rb lw G r rs vl x1 x2 x3∧Z1 rb lw W0 Hb [x1,x2,x3] H∧WfR r n∧Q0 size a b (lb.drop i) i r=res)→
  u9 (LE prog t6 (.loop Fz) e H) (fun o e H=>(o= .exit 2∧res.2=true∧∃x1 x2 x3,R0 (QR Hs lo K false) (QR Hs lo K true) H rb lw G res.1 rs vl x1 x2 x3∧Z1 rb lw W0 Hb [x1,x2,x3] H∧WfR res.1 n)∨(o= .ret∧res.2=false∧H.get b4=cE [.bool false] 1∧i4 lw Hb H)):=by
 refine j7 _ _ ?_;rintro kk e H ⟨i,r,x1,x2,x3,hk,hi,f2,f3,f4,f5,f6,f17,f18,f19,hlb,hR,hT,hwf,fu⟩;obtain⟨g2,g3,w4,g4⟩:=hbox.at_ hT;have hll:=hwf.ll;rw[hlb]at hll;rcases bd:decide ((i:Int)<lb.length)with _|_
 ·have hb':=dF bd;have:lb.drop i=[]:=dN oM;rw[this,Q0]at fu;refine J3 f19 f18 bd ?_;exact l7 (.inl ⟨rfl,by rw[←fu],x1,x2,x3,by rw[←fu];exact hR,hT,by rw[←fu];exact hwf⟩)
 have hb':=dT bd;have hil:i<lb.length:=oM;have hlbs:=hR.lb;rw[hlb,hvl]at hlbs;obtain⟨ev,nb,o,cs,own,el,hx,hd,rfl,hFn,hg,hle,hrow,hc,hEv⟩:=hlbs.row (i:=i) hil;rw[hd,Q0]at fu;have nt:(i:Int).toNat=i:=tN i;have hev:ev∈r.labels:=by rw[hlb];exact List.mem_of_getElem? hx
 obtain⟨av,hel,hav⟩:=id hEv;obtain⟨aa,ac,rfl⟩:=hav.slice;have lel:el.length=5:=by rw[hel];rfl
 have ael:el.all Value.oneCell'=true:=by rw[hel];rfl
 have el0:el[0]?=some (.int .i64 ev.kind):=by rw[hel];rfl
 have f17s:=f17;rw[hvl]at f17s;obtain⟨H1,hH1,n1,-⟩:=pushE H (.cells [iV 0,.string eB,.string eB,nS,.string eB] true 1);have tk5:el.take 5=el:=List.take_of_length_le oM;have g1:H1.get H.next=cE [iV 0,.string eB,.string eB,nS,.string eB] 1:=by rw[hH1];exact i7
 obtain⟨H2,hH2⟩:∃K,K=H1.put H.next (.cells el true 1):=⟨_,rfl⟩
 have n2:H2.next=H.next+1:=by rw[hH2,j5,n1]
 have sp:splice [iV 0,.string eB,.string eB,nS,.string eB] 0 el=el:=by rw[hel];rfl
 have hS:i4 H.next H H2:=by rw[hH2,hH1];exact(i4.push lR).trans (i4.put lR)
 have ge:H2.get H.next=cE el 1:=by rw[hH2];exact i8 oM
 have hR2:=hR.keep hS;have gr2:=hR2.g;have hrb:=u6 hR.g;have hnb:=hR.nb.1;have l2:b2<H.next:=u6 g2;have l3:b3<H.next:=u6 g3;have l4:b4<H.next:=u6 g4;have g2':=(hS.get b2 l2).trans g2;have g3':=(hS.get b3 l3).trans g3;have g4':=(hS.get b4 l4).trans g4;obtain⟨q8,q9,q10,q11⟩:=hR2.at_;have lrs:=hR.rsl;have hT2:Z1 rb lw W0 Hb [x1,x2,x3] H2:=hT.trans (Z1.of hS oM);have m40:=GG H2 rb _ true 1 gr2 r.sorts x1 hR2.so.sl q9 el ev lel ael el0 a b;have next:∀(e':Env)(H':d9)(r':ReD)(y1 y2 y3:Value),e'.get 2=pT b2→e'.get 3=pT b3→e'.get 4=pT b4→e'.get 5=iV a→e'.get 6=iV b→e'.get 17=vl→e'.get 18=iV lb.length→e'.get 19=iV (i+1:Nat)→
   r'.labels=lb→R0 (QR Hs lo K false) (QR Hs lo K true) H' rb lw G r' rs vl y1 y2 y3→Z1 rb lw W0 Hb [y1,y2,y3] H'→WfR r' n→Q0 size a b (lb.drop (i+1)) (i+1) r'=res→
   ∃(i:Nat)(r:ReD)(x1 x2 x3:Value),kk-1=lb.length-i∧i≤lb.length∧e'.get 2=pT b2∧e'.get 3=pT b3∧e'.get 4=pT b4∧e'.get 5=iV a∧e'.get 6=iV b∧e'.get 17=vl∧e'.get 18=iV lb.length∧e'.get 19=iV i∧
    r.labels=lb∧R0 (QR Hs lo K false) (QR Hs lo K true) H' rb lw G r rs vl x1 x2 x3∧Z1 rb lw W0 Hb [x1,x2,x3] H'∧WfR r n∧Q0 size a b (lb.drop i) i r=res:=
  fun e' H' r' y1 y2 y3 p1 p2 p3 p4 p5 p6 p7 p8 p9 p10 p11 p12 p13=>⟨i+1,r',y1,y2,y3,oM,oM,p1,p2,p3,p4,p5,p6,p7,p8,p9,p10,p11,p12,p13⟩
 have nx:((i:Int)+1)=((i+1:Nat):Int):=oM;obtain⟨row,hrow2⟩:∃r,r=rs++[vl,x1,x2,x3]:=⟨_,rfl⟩
 have lds:ldC (some true) (some 8) 0 row=some (.agg rs.toArray):=by
  rw[eX _ _ _ (by rw[hrow2];simp [lrs]),hrow2,List.drop_zero,List.take_append_of_le_length oM,List.take_of_length_le oM]
 rw[←hrow2]at gr2 q8 q9 q10 q11;rcases bm:iH r.sorts ev.kind a b with _|_
 ·rw[bm]at m40 fu;simp only[Bool.false_eq_true,if_false]at fu;refine J21 f2 f5 f6 f17s f18 f19 bd hg nt hrow hH1.symm g1 lel ael tk5 sp hH2.symm ge g2' m40 @wrap_small ?_;exact i6 (kk-1) oM (next _ _ r x1 x2 x3 f2 f3 f4 f5 f6 f17 f18 (by rw[←nx];rfl) hlb hR2 hT2 hwf fu)
 ·rw[bm]at m40 fu;simp only[if_true]at fu;have bm':=bm;simp only[iH,knB,Bool.and_eq_true,decide_eq_true_eq]at bm';obtain⟨⟨⟨ha0,ha1⟩,hb0,hb1⟩,_⟩:=bm';have hso:=hR2.so.sl;have hso':=hso;obtain⟨sa,sc,rfl⟩:=hso.slice;obtain⟨fi,nba,oa,csa,owna,ela,hxa,_,e1,hFa,hga,hlea,hrowa,hca,hfi⟩:=hso.row (i:=a.toNat) oM;obtain⟨ne,nbb,ob,csb,ownb,elb,hxb,_,e2,hFb,hgb,hleb,hrowb,hcb,hne⟩:=hso.row (i:=b.toNat) oM;obtain rfl:ela=soE fi:=hfi;obtain rfl:elb=soE ne:=hne;subst e1;cases e2;rw[hga]at hgb;cases hgb;have hga1:r.sorts.getD a.toNat soZ=fi:=by rw[List.getD_eq_getElem?_getD,hxa];rfl
  have hgb1:r.sorts.getD b.toNat soZ=ne:=by rw[List.getD_eq_getElem?_getD,hxb];rfl
  rw[hga1,hgb1]at fu;have hks:=nu Hs lo K r.strat ev fi ne G H2 rs el hR2.st (w9 _ _ _ _ _ _ hEv (fun j hj=>hS.get j (hR.fr j hj).1) (fun _ h=>h)) (fun j hj=>(hR2.fr j hj).1) (fun j hj=>by rw[hT2.stay.get j oM];exact heq j hj) (by have:=u6 gr2;omega) n hwf.n0 hwf.st (hwf.so fi (List.mem_of_getElem? hxa)) (hwf.so ne (List.mem_of_getElem? hxb)) (hwf.at_ ev hev) hwf.sz;have hadd:=Oc (QR Hs lo K false) (QR Hs lo K true) H2 rb lw G r rs vl (.slice (some ⟨nba,oa,none⟩) r.sorts.length sc) x2 x3 hR2 (Y8 r.strat ev fi ne) size (i,a,b) (by have:=hwf.l1;omega) (by have:=hwf.l1;have:=hwf.l2;omega) (by have:=hwf.l1;have:=hwf.l3;omega);obtain⟨va2,hp2,H3,hret,hget,hv2,y1,y2,y3,hR3,hT3⟩:=hadd;subst hv2;have hT3':=hT2.trans hT3;have hwf3:=hwf.add (Cj r.strat ev fi ne hwf.n0) h0 (i,a,b);obtain⟨pp1,pp2,_,_⟩:=fy r (Y8 r.strat ev fi ne) size (i,a,b);obtain⟨z,hz⟩:∃z,z=aQ r (Y8 r.strat ev fi ne) size (i,a,b):=⟨_,rfl⟩
  rw[←hz]at hret hR3 hwf3 pp1 pp2 fu;obtain⟨k2,k3,w5,k4⟩:=hbox.at_ hT3';rcases bz:z.2 with _|_
  ·rw[bz]at hret fu;simp only[Bool.false_eq_true,if_false]at fu;have l4':b4<H3.next:=u6 k4;obtain⟨H4,hH4⟩:∃K,K=H3.put b4 (.cells [.bool false] true 1):=⟨_,rfl⟩
   have hne:=(hbox.ne b4 (.inr (.inr rfl))).1;refine J30 f2 f3 f4 f5 f6 f17s f18 f19 lds bd hg nt hrow hH1.symm g1 lel ael tk5 sp hH2.symm ge g2' g3' m40 gr2 q9 (And.intro hga hrowa) (And.intro hrowb hks) (And.intro hret hget) (And.intro k4 hH4.symm) ?_;refine A6 (.inr ⟨rfl,by rw[←fu],by rw[hH4];exact i8 l4',?_⟩);rw[hH4];exact hT3'.stay.trans (i4.put oM)
  ·rw[bz]at hret fu;simp only[if_true]at fu;refine J30 f2 f3 f5 f6 f17s f18 f19 lds bd hg nt hrow hH1.symm g1 lel ael tk5 sp hH2.symm ge g2' g3' m40 gr2 q9 hga hrowa hrowb (And.intro hks hret) (And.intro hget @wrap_small) ?_;exact i6 (kk-1) oM (next _ _ z.1 y1 y2 y3 f2 f3 f4 f5 f6 f17 f18 (by rw[←nx];rfl) (by rw[pp2,hlb]) hR3 hT3' hwf3 fu)
end Go.Proofs.YtofbhlhamfkljaaGreatDoor.Ve
namespace Go.Proofs.YtofbhlhamfkljaaGreatDoor.Ve
open Go
set_option linter.unusedVariables false
set_option linter.unusedSimpArgs false
set_option maxHeartbeats 0
theorem kr{i:Nat}{p q:Nat→Bool}:∀m,i<m→(∀j,j<m→j≠i→p j=q j)→p i=true→q i=false→(List.range m).countP p=(List.range m).countP q+1:=by
 intro m;induction m with
 |zero=>intro h;omega
 |succ m ih=>
  intro hi h hp hq;rw[List.range_succ,List.countP_append,List.countP_append,List.countP_singleton,List.countP_singleton];by_cases hm:i=m
  ·subst hm;have:(List.range i).countP p=(List.range i).countP q:=List.countP_congr fun x hx=>by rw[h x (by have:=List.mem_range.1 hx;omega) (by have:=List.mem_range.1 hx;omega)]
   rw[this,hp,hq];rfl
  ·rw[ih oM (fun j hj hne=>h j oM hne) hp hq,h m oM (fun q=>hm q.symm)];omega
def unl(m:Nat)(L:Array Bool):Nat:=(List.range m).countP fun i=> !L.getD i true
def X6(md:Region.Mode)(ops:Array Oper)(i:Nat):List Nat:=((ops[i]?).map fun o=>(o.after.toList.filter fun e=>Region.binds md e).map (·.on)).getD []
theorem X4{md:Region.Mode}{ops:Array Oper}{L:Array Bool}{i:Nat}:i∈Region.ready md ops L↔i<ops.size∧L.getD i true=false∧∀d∈X6 md ops i,L.getD d false=true:=by
 unfold Region.ready X6;rw[List.mem_filter,List.mem_range]
 constructor
 ·rintro⟨h,h2⟩;simp only[Bool.and_eq_true,Bool.not_eq_true']at h2;refine⟨h,h2.1,fun d hd=>?_⟩;have ho:ops[i]?=some ops[i]:=Array.getElem?_eq_getElem h;rw[ho]at h2 hd;simp only[Option.map_some,Option.getD_some,List.mem_map,List.mem_filter]at h2 hd;obtain⟨e,⟨he,hb⟩,rfl⟩:=hd;have:=Array.all_eq_true'.1 h2.2 e (by simpa using he);simp only[hb,Bool.not_true,Bool.false_or]at this;exact this
 ·rintro⟨h,h1,h2⟩;refine⟨h,?_⟩;have ho:ops[i]?=some ops[i]:=Array.getElem?_eq_getElem h;rw[ho]at h2 ⊢;simp only[Option.map_some,Option.getD_some,Bool.and_eq_true,Bool.not_eq_true']at h2 ⊢;refine⟨h1,Array.all_eq_true'.2 fun e he=>?_⟩;by_cases hb:Region.binds md e=true
  ·rw[h2 e.on (List.mem_map.2 ⟨e,List.mem_filter.2 ⟨by simpa using he,hb⟩,rfl⟩)];simp
  ·simp [hb]
theorem R5(L:Array Bool)(i j:Nat)(d:Bool):(L.setIfInBounds i true).getD j d=if i=j then(if j<L.size then true else d) else L.getD j d:=by
 rw[Array.getD_eq_getD_getElem?,Array.getElem?_setIfInBounds,Array.getD_eq_getD_getElem?];by_cases h:i=j
 ·subst h;by_cases h2:i<L.size
  ·simp [h2]
  ·simp [h2]
 ·simp [h]
theorem aq{L:Array Bool}{i:Nat}(h:i<L.size)(a b:Bool):L.getD i a=L.getD i b:=by
 rw[Array.getD_eq_getD_getElem?,Array.getD_eq_getD_getElem?,Array.getElem?_eq_getElem h];rfl
structure kc(md:Region.Mode)(ops pre:Array Oper):Prop where
 le:pre.size≤ops.size
 pos:0<pre.size
 same:∀i:Nat,i<pre.size→ops[i]?=pre[i]?
 plain:∀(i:Nat)(o:Oper),pre[i]?=some o→o.guard=none
 back:∀i,i<pre.size→∀d∈X6 md ops i,d<i
 used:∀i,i+1<pre.size→∃j,i<j∧j<pre.size∧i∈X6 md ops j
 later:∀i,pre.size≤i→i<ops.size→∃d,d∈X6 md ops i∧pre.size≤d+1
structure vX(ops pre:Array Oper)(md:Region.Mode)(L L':Array Bool):Prop where
 s1:L.size=ops.size
 s2:L'.size=pre.size
 eq:∀i,i<pre.size→L.getD i true=L'.getD i true
 off:∀i,pre.size≤i→i<ops.size→L.getD i true=false
 cl:∀i,i<pre.size→L'.getD i true=true→∀d∈X6 md ops i,L'.getD d true=true
section
variable{F:Fence}{n:Nat}{P:Program}{ops pre:Array Oper}{md:Region.Mode}{Q Q':Exit→Act→World→Prop}
theorem mY(h:kc md ops pre){L L':Array Bool}(r:vX ops pre md L L')(hl:L'.getD (pre.size-1) true=false){i:Nat}:i∈Region.ready md ops L↔i∈Region.ready md pre L':=by
 have hp:=h.pos;have hle:=h.le;have w:∀i,i<pre.size→X6 md ops i=X6 md pre i:=fun i hi=>by unfold X6;rw[h.same i hi]
 rw[X4,X4]
 constructor
 ·rintro⟨h1,h2,h3⟩;by_cases hi:i<pre.size
  ·refine⟨hi,(r.eq i hi)▸h2,fun d hd=>?_⟩;rw[←w i hi]at hd;have hdi:=h.back i hi d hd;have:=h3 d hd;rw[aq (by rw[r.s1];omega) false true,r.eq d oM]at this;rw[aq (by rw[r.s2];omega) false true];exact this
  ·obtain⟨d,hd,hd2⟩:=h.later i oM h1;have:=h3 d hd
   exfalso
   by_cases hdp:d<pre.size
   ·have e:d=pre.size-1:=oM;rw[aq (by rw[r.s1];omega) false true,r.eq d hdp,e,hl]at this;cases this
   ·by_cases hdo:d<ops.size
    ·rw[aq (by rw[r.s1];exact hdo) false true,r.off d oM hdo]at this;cases this
    ·rw[Array.getD_eq_getD_getElem?,Array.getElem?_eq_none (by rw[r.s1];omega)]at this;cases this
 ·rintro⟨h1,h2,h3⟩;refine⟨oM,(r.eq i h1).symm▸h2,fun d hd=>?_⟩;have hdi:=h.back i h1 d hd;rw[w i h1]at hd;have:=h3 d hd;rw[aq (by rw[r.s2];omega) false true]at this;rw[aq (by rw[r.s1];omega) false true,r.eq d oM];exact this
theorem vq(h:kc md ops pre){L L':Array Bool}(r:vX ops pre md L L')(hl:L'.getD (pre.size-1) true=true):∀i,i<pre.size→L'.getD i true=true:=by
 have:∀k i,i+k+1=pre.size→L'.getD i true=true:=by
  intro k;induction k using Nat.strongRecOn with
  |ind k ih=>
   intro i hi;by_cases hk:i+1=pre.size
   ·have:i=pre.size-1:=oM;rw[this];exact hl
   ·obtain⟨j,h1,h2,h3⟩:=h.used i oM;exact r.cl j h2 (ih (pre.size-1-j) oM j oM) i h3
 exact fun i hi=>this (pre.size-1-i) i oM
theorem mX(h:kc md ops pre){L L':Array Bool}(r:vX ops pre md L L')(hl:L'.getD (pre.size-1) true=false):∃i,i∈Region.ready md pre L':=by
 have hp:=h.pos;have:∀k i,i≤k→i<pre.size→L'.getD i true=false→∃j,j∈Region.ready md pre L':=by
  intro k;induction k with
  |zero=>
   intro i hi hi2 hf;refine⟨i,X4.2 ⟨hi2,hf,fun d hd=>?_⟩⟩;have:=h.back i hi2 d (by unfold X6 at hd ⊢;rw[h.same i hi2];exact hd);omega
  |succ k ih=>
   intro i hi hi2 hf;by_cases hq:∃j,j<i∧L'.getD j true=false
   ·obtain⟨j,h1,h2⟩:=hq;exact ih j oM oM h2
   ·refine⟨i,X4.2 ⟨hi2,hf,fun d hd=>?_⟩⟩;have hdi:=h.back i hi2 d (by unfold X6 at hd ⊢;rw[h.same i hi2];exact hd);rw[aq (by rw[r.s2];omega) false true];cases hv:L'.getD d true with
    |true=>rfl
    |false=>exact absurd ⟨d,hdi,hv⟩ hq
 exact this (pre.size-1) (pre.size-1) lR oM hl
theorem Hp(h:kc md ops pre)(k:Nat)(Lm:Array Bool)(hLm:∀L L',vX ops pre md L L'→(∀i,i<pre.size→L'.getD i true=true)→L=Lm)
  (hpan:∀c a w,Q' (.panic c) a w→Q (.panic c) a w) (tail:∀a w,Q' .normal a w→wpAnyIn F n P md ops Q k Lm a w) (hout:LetsOut Q'→LetsOut Q):
  ∀fuel L L' a w,vX ops pre md L L'→unl pre.size L'=fuel→wpAnyIn F n P md pre Q' fuel L' a w→wpAnyIn F n P md ops Q (fuel+k) L a w:=by
 have hp:=h.pos;intro fuel;induction fuel with
 |zero=>
  intro L L' a w r hu hw;have hl:L'.getD (pre.size-1) true=true:=by
   cases hv:L'.getD (pre.size-1) true with
   |true=>rfl
   |false=>
    obtain⟨i,hi⟩:=mX h r hv;rw[hw.1]at hi;cases hi
  rw[Nat.zero_add,hLm L L' r (vq h r hl)];exact tail a w hw.2
 |succ fuel ih=>
  intro L L' a w r hu hw;have hl:L'.getD (pre.size-1) true=false:=by
   cases hv:L'.getD (pre.size-1) true with
   |false=>rfl
   |true=>
    have:unl pre.size L'=0:=by
     unfold unl;rw[List.countP_eq_zero];intro i hi;rw[vq h r hv i (List.mem_range.1 hi)];decide
    omega
  obtain⟨i0,hi0⟩:=mX h r hl;rw[show fuel+1+k=(fuel+k)+1 from oM];refine⟨fun q=>?_,fun i hi=>?_⟩
  ·have:=(mY h r hl).2 hi0;rw[q]at this;cases this
  ·have hi':=(mY h r hl).1 hi;obtain⟨hip,hif,hiw⟩:=X4.1 hi';have hstep:=hw.2 i hi';have ho:pre[i]?=some pre[i]:=Array.getElem?_eq_getElem hip;have ho2:ops[i]?=some pre[i]:=(h.same i hip).trans ho;have hg:=h.plain i _ ho;have r2:vX ops pre md (L.setIfInBounds i true) (L'.setIfInBounds i true):=by
    refine⟨by simp [r.s1],by simp [r.s2],fun j hj=>?_,fun j hj hj2=>?_,fun j hj hv d hd=>?_⟩
    ·rw[R5,R5,r.s1,r.s2,if_pos (show j<ops.size by have:=h.le;omega),if_pos hj,r.eq j hj]
    ·rw[R5,if_neg oM];exact r.off j hj hj2
    ·have hdj:=h.back j hj d hd;rw[R5]at hv ⊢;by_cases hij:i=j
     ·subst hij;have hd':d∈X6 md pre i:=by unfold X6 at hd ⊢;rw[←h.same i hj];exact hd
      have:=hiw d hd';rw[aq (by rw[r.s2];omega) false true]at this;by_cases hid:i=d
      ·rw[if_pos hid,if_pos (by rw[r.s2];omega)]
      ·rw[if_neg hid];exact this
     ·rw[if_neg hij]at hv;have:=r.cl j hj hv d hd;by_cases hid:i=d
      ·rw[if_pos hid,if_pos (by rw[r.s2];omega)]
      ·rw[if_neg hid];exact this
   have hu2:unl pre.size (L'.setIfInBounds i true)=fuel:=by
    have:=kr (i:=i) (p:=fun j=> !L'.getD j true) (q:=fun j=> !(L'.setIfInBounds i true).getD j true) pre.size hip (fun j hj hne=>by
     simp only[R5];rw[if_neg (fun q=>hne q.symm)]) (by show(!L'.getD i true)=true;rw[hif];rfl) (by show(!(L'.setIfInBounds i true).getD i true)=false;rw[R5,if_pos rfl,if_pos (by rw[r.s2];exact hip)];rfl)
    unfold unl at hu ⊢;omega
   unfold wpOpIn at hstep ⊢;simp only[ho,ho2]at hstep ⊢;have hwn:∀v,Region.wanted pre[i] v=true:=fun v=>by unfold Region.wanted;rw[hg]
   simp only[hwn,if_true]at hstep ⊢;refine⟨hstep.1,?_⟩;have h2:=hstep.2;generalize (pre[i].semAt F.round a.eval).run P w=res at h2 ⊢;cases res with
   |ok x w'=>
    cases x<;>simp only[Oper.uponIn]at h2 ⊢ <;>
     first
      |exact ih _ _ _ _ r2 hu2 h2
      |exact⟨h2.1,CallsIn.mono h2.2 (fun e w'' he=>by cases e<;>first|exact ih _ _ _ _ r2 hu2 he|exact hpan _ _ _ he|exact hout he)⟩
      |exact⟨h2.1,RowsIn.mono h2.2 (fun _ _ he=>ih _ _ _ _ r2 hu2 he)⟩
      |exact⟨h2.1,RoundIn.mono h2.2 (fun e w'' he=>by cases e<;>first|exact ih _ _ _ _ r2 hu2 he|exact hpan _ _ _ he|exact hout he)⟩
   |halt x w'=>cases x<;>simp only[Oper.uponIn]at h2 ⊢ <;>first|exact hpan _ _ _ h2|exact h2
end
structure uX(md:Region.Mode)(pre:Array Oper):Prop where
 plain:∀(i:Nat)(o:Oper),pre[i]?=some o→o.guard=none∧o.dst.isSome=true∧(∀cs b,o.op≠ .select cs b)∧(∀c,o.op≠ .defer c)
 apart:∀(i j:Nat)(oi oj:Oper),pre[i]?=some oi→pre[j]?=some oj→i≠j→oi.dst≠oj.dst
 reads:∀(i j:Nat)(oi oj:Oper)(t:Tmp),pre[i]?=some oi→pre[j]?=some oj→Operand.tmp t∈oi.op.operands→oj.dst=some t→j∈X6 md pre i
structure yX(pre:Array Oper)(a0 af:Act)(L:Array Bool)(a:Act):Prop where
 sz:L.size=pre.size
 ts:a.tmps.size=a0.tmps.size
 df:a.defers=a0.defers
 on:∀(j:Nat)(o:Oper)(t:Tmp),pre[j]?=some o→o.dst=some t→L.getD j true=true→a.tmps.getD t undef=af.tmps.getD t undef
 off:∀t,(∀(j:Nat)(o:Oper),pre[j]?=some o→o.dst=some t→L.getD j true=false)→a.tmps.getD t undef=a0.tmps.getD t undef
theorem uZ{a b:Act}(h1:a.tmps.size=b.tmps.size)(h2:a.defers=b.defers)(h3:∀t,a.tmps.getD t undef=b.tmps.getD t undef):a=b:=by
 obtain⟨at_,ad⟩:=a;obtain⟨bt,bd⟩:=b;simp only at h1 h2 h3;subst h2
 congr 1
 apply Array.ext h1;intro i hi hj;have:=h3 i;rw[Array.getD_eq_getD_getElem?,Array.getD_eq_getD_getElem?,Array.getElem?_eq_getElem hi,Array.getElem?_eq_getElem hj]at this;exact this
theorem Ck{n:Nat}{P:Program}{pre:Array Oper}{md:Region.Mode}{Q:Exit→Act→World→Prop}(h:uX md pre){a0 af:Act}{w:World}(hs:af.tmps.size=a0.tmps.size)(hd:af.defers=a0.defers)
  (hoff:∀t,(∀(j:Nat)(o:Oper),pre[j]?=some o→o.dst≠some t)→af.tmps.getD t undef=a0.tmps.getD t undef) (hin:∀(j:Nat)(o:Oper)(t:Tmp),pre[j]?=some o→o.dst=some t→t<a0.tmps.size)
  (hrun:∀(i:Nat)(o:Oper)(t:Tmp),pre[i]?=some o→o.dst=some t→(execOp af.eval o).run P w= .ok (.value (af.tmps.getD t undef)) w) (hQ:Q .normal af w)
  (hall:∀L:Array Bool,L.size=pre.size→Region.ready md pre L=[]→∀i,i<pre.size→L.getD i true=true):
  ∀fuel L a,yX pre a0 af L a→unl pre.size L≤fuel→wpAnyIn Fence.wide n P md pre Q fuel L a w:=by
 have done:∀L a,yX pre a0 af L a→(∀i,i<pre.size→L.getD i true=true)→a=af:=fun L a r hl=>by
  refine uZ (r.ts.trans hs.symm) (r.df.trans hd.symm) fun t=>?_;by_cases hex:∃(j:Nat)(o:Oper),pre[j]?=some o∧o.dst=some t
  ·obtain⟨j,o,h1,h2⟩:=hex;exact r.on j o t h1 h2 (hl j (Array.getElem?_eq_some_iff.1 h1).1)
  ·rw[hoff t (fun j o h1 h2=>hex ⟨j,o,h1,h2⟩)];exact r.off t fun j o h1 h2=>absurd ⟨j,o,h1,h2⟩ hex
 intro fuel;induction fuel with
 |zero=>
  intro L a r hu;have hl:∀i,i<pre.size→L.getD i true=true:=fun i hi=>by
   have h0:unl pre.size L=0:=oM;unfold unl at h0;rw[List.countP_eq_zero]at h0;have:=h0 i (List.mem_range.2 hi)
   simpa using this
  refine⟨?_,(done L a r hl)▸hQ⟩;cases hr:Region.ready md pre L with
  |nil=>rfl
  |cons i is=>
   have:=(X4.1 (show i∈Region.ready md pre L by rw[hr];simp))
   rw[hl i this.1]at this;cases this.2.1
 |succ fuel ih=>
  intro L a r hu;refine⟨fun q=>(done L a r (hall L r.sz q))▸hQ,fun i hi=>?_⟩;obtain⟨hip,hif,hiw⟩:=X4.1 hi;have ho:pre[i]?=some pre[i]:=Array.getElem?_eq_getElem hip;obtain⟨hg,hds,hsel,hdf⟩:=h.plain i _ ho;obtain⟨t,ht⟩:=Option.isSome_iff_exists.1 hds;have htl:=hin i _ t ho ht;unfold wpOpIn;simp only[ho];have hwn:∀v,Region.wanted pre[i] v=true:=fun v=>by unfold Region.wanted;rw[hg]
  simp only[hwn,if_true];have hev:∀x∈pre[i].op.operands,a.eval x=af.eval x:=fun x hx=>by
   cases x with
   |tmp u=>
    show a.tmps.getD u undef=af.tmps.getD u undef;by_cases hex:∃(j:Nat)(o:Oper),pre[j]?=some o∧o.dst=some u
    ·obtain⟨j,o,h1,h2⟩:=hex;have hjp:=(Array.getElem?_eq_some_iff.1 h1).1;have hw:=hiw j (h.reads i j _ o u ho h1 hx h2);rw[aq (by rw[r.sz];exact hjp) false true]at hw;exact r.on j o u h1 h2 hw
    ·rw[hoff u (fun j o h1 h2=>hex ⟨j,o,h1,h2⟩)];exact r.off u fun j o h1 h2=>absurd ⟨j,o,h1,h2⟩ hex
   |_=>rfl
  refine⟨fun _ _=>trivial,?_⟩;have e1:pre[i].semAt Fence.wide.round a.eval=execOp af.eval pre[i]:=(Oper.semAt_none _ _).trans (execOp_congr _ hsel hev);rw[e1,hrun i _ t ho ht,Oper.uponIn_value,ht];refine ih _ _ ⟨by simp [r.sz],?_,?_,fun j o u h1 h2 hl=>?_,fun u hu2=>?_⟩ ?_
  ·show(a.tmps.setIfInBounds t _).size=_;rw[Array.size_setIfInBounds];exact r.ts
  ·exact r.df
  ·show(a.tmps.setIfInBounds t _).getD u undef=_;rw[Array.getD_eq_getD_getElem?,Array.getElem?_setIfInBounds];by_cases htu:t=u
   ·rw[if_pos htu,if_pos (by rw[r.ts];exact htu▸htl),htu];rfl
   ·rw[if_neg htu,←Array.getD_eq_getD_getElem?];rw[R5]at hl;by_cases hij:i=j
    ·subst hij;rw[ho]at h1;cases h1;exact absurd (Option.some.inj (ht.symm.trans h2)) htu
    ·rw[if_neg hij]at hl;exact r.on j o u h1 h2 hl
  ·show(a.tmps.setIfInBounds t _).getD u undef=_;have htu:t≠u:=fun q=>by
    have:=hu2 i _ ho (q▸ht);rw[R5,if_pos rfl,if_pos (by rw[r.sz];exact hip)]at this;cases this
   rw[Array.getD_eq_getD_getElem?,Array.getElem?_setIfInBounds,if_neg htu,←Array.getD_eq_getD_getElem?];refine r.off u fun j o h1 h2=>?_;have:=hu2 j o h1 h2;rw[R5]at this;by_cases hij:i=j
   ·rw[if_pos hij]at this;split at this
    ·cases this
    ·cases this
   ·rw[if_neg hij]at this;exact this
  ·have:=kr (i:=i) (p:=fun j=> !L.getD j true) (q:=fun j=> !(L.setIfInBounds i true).getD j true) pre.size hip (fun j hj hne=>by
    simp only[R5];rw[if_neg (fun q=>hne q.symm)]) (by show(!L.getD i true)=true;rw[hif];rfl) (by show(!(L.setIfInBounds i true).getD i true)=false;rw[R5,if_pos rfl,if_pos (by rw[r.sz];exact hip)];rfl)
   unfold unl at hu ⊢;omega
theorem kc.least{md:Region.Mode}{pre:Array Oper}(hb:∀i,i<pre.size→∀d∈X6 md pre i,d<i) {L:Array Bool} (hs:L.size=pre.size) (hr:Region.ready md pre L=[]):∀i,i<pre.size→L.getD i true=true:=by
 intro i;induction i using Nat.strongRecOn with
 |ind i ih=>
  intro hi;cases hv:L.getD i true with
  |true=>rfl
  |false=>
   have:i∈Region.ready md pre L:=X4.2 ⟨hi,hv,fun d hd=>by
    have:=hb i hi d hd;rw[aq (by rw[hs];omega) false true];exact ih d this oM⟩
   rw[hr]at this;cases this
def Ba(t:Tmp)(x:Operand):Bool:=match x with| .tmp u=>u==t|_=>false
def ul(o:Oper):Bool:=o.guard.isNone&&o.dst.isSome&&(match o.op with| .select .. =>false| .defer .. =>false|_=>true)
def Hi(l:List Oper)(m:Nat):Bool:=
 let ops:=l.toArray
 let pre:=(l.take m).toArray
 decide (0<m)&&decide (m≤l.length)&&(List.range m).all (fun i=>(X6 .any ops i).all fun d=>decide (d<i))&&(List.range m).all (fun i=>decide (m≤i+1)||(List.range m).any fun j=>decide (i<j)&&(X6 .any ops j).contains i)&&
 (List.range l.length).all (fun i=>decide (i<m)||(X6 .any ops i).any fun d=>decide (m≤d+1))&&(l.take m).all ul&&
 (List.range m).all (fun i=>(List.range m).all fun j=>match pre[i]?,pre[j]? with
  |some oi,some oj=>(decide (i=j)||decide (oi.dst≠oj.dst))&&(match oj.dst with|some t=> !(oi.op.operands.toList.any (Ba t))||(X6 .any pre i).contains j|none=>true)
  |_,_=>false)
theorem wY{l:List Oper}{m:Nat}(h:Hi l m=true):kc .any l.toArray (l.take m).toArray∧uX .any (l.take m).toArray∧m≤l.length:=by
 simp only[Hi,Bool.and_eq_true,decide_eq_true_eq,List.all_eq_true,List.mem_range]at h;obtain⟨⟨⟨⟨⟨⟨h0,h1⟩,h2⟩,h3⟩,h4⟩,h5⟩,h6⟩:=h;have hs:(l.take m).toArray.size=m:=by simp;omega
 have same:∀i:Nat,i<m→l.toArray[i]?=(l.take m).toArray[i]?:=fun i hi=>by simp [hi]
 refine⟨⟨by rw[hs];simpa using h1,by rw[hs];exact h0,fun i hi=>same i (by rw[hs]at hi;exact hi),fun i o ho=>?_,fun i hi d hd=>?_,fun i hi=>?_,fun i hi hi2=>?_⟩,⟨fun i o ho=>?_,fun i j oi oj hi hj hne=>?_,fun i j oi oj t hi hj hx ht=>?_⟩,h1⟩
 ·have:=h5 o (by simpa using Array.mem_of_getElem? ho);simp only[ul,Bool.and_eq_true]at this
  simpa using this.1.1
 ·rw[hs]at hi;exact h2 i hi d hd
 ·rw[hs]at hi ⊢;have:=h3 i oM;simp only[Bool.or_eq_true,decide_eq_true_eq,List.any_eq_true,List.mem_range,Bool.and_eq_true,List.contains_iff_mem]at this;rcases this with q|⟨j,q1,q2,q3⟩
  ·omega
  ·exact⟨j,q2,q1,q3⟩
 ·rw[hs]at hi ⊢;have:=h4 i (by simpa using hi2);simp only[Bool.or_eq_true,decide_eq_true_eq,List.any_eq_true]at this;rcases this with q|⟨d,q1,q2⟩
  ·omega
  ·exact⟨d,q1,q2⟩
 ·have:=h5 o (by simpa using Array.mem_of_getElem? ho);simp only[ul,Bool.and_eq_true]at this;refine⟨by simpa using this.1.1,this.1.2,fun cs b e=>?_,fun c e=>?_⟩
  ·rw[e]at this;cases this.2
  ·rw[e]at this;cases this.2
 ·have hi':=(Array.getElem?_eq_some_iff.1 hi).1;have hj':=(Array.getElem?_eq_some_iff.1 hj).1;rw[hs]at hi' hj';have:=h6 i hi' j hj';rw[hi,hj]at this;simp only[Bool.and_eq_true,Bool.or_eq_true,decide_eq_true_eq]at this;exact this.1.resolve_left hne
 ·have hi':=(Array.getElem?_eq_some_iff.1 hi).1;have hj':=(Array.getElem?_eq_some_iff.1 hj).1;rw[hs]at hi' hj';have:=h6 i hi' j hj';rw[hi,hj]at this;simp only[Bool.and_eq_true,ht,Bool.or_eq_true,Bool.not_eq_true',List.contains_iff_mem]at this;rcases this.2 with q|q
  ·have h7:oi.op.operands.toList.any (Ba t)=true:=List.any_eq_true.2 ⟨_,by simpa using hx,by simp [Ba]⟩;rw[h7]at q;cases q
  ·exact q
def S5(a:Act):List (Nat×Value)→Act
 |[]=>a
 |(d,v)::r=>S5 (a.put (some d) v) r
theorem bJ:∀(vs:List (Nat×Value))(a:Act),(S5 a vs).tmps.size=a.tmps.size∧(S5 a vs).defers=a.defers
 |[],a=>⟨rfl,rfl⟩
 |(d,v)::r,a=>by
  have:=bJ r (a.put (some d) v);exact⟨this.1.trans (by simp [Act.put]),this.2⟩
theorem nO:∀(vs:List (Nat×Value))(a:Act)(t:Nat),(∀p∈vs,p.1≠t)→(S5 a vs).tmps.getD t undef=a.tmps.getD t undef
 |[],a,t,h=>rfl
 |(d,v)::r,a,t,h=>by
  rw[S5,nO r _ t (fun p hp=>h p (by simp [hp]))];show(a.tmps.setIfInBounds d v).getD t undef=_;rw[Array.getD_eq_getD_getElem?,Array.getElem?_setIfInBounds,if_neg (h (d,v) (by simp)),←Array.getD_eq_getD_getElem?]
def lX(P:Program)(af:Act)(w:World):List Oper→Prop
 |[]=>True
 |o::r=>(match o.dst with|some t=>(execOp af.eval o).run P w= .ok (.value (af.tmps.getD t undef)) w|none=>False)∧lX P af w r
theorem nY{P:Program}{af:Act}{w:World}:∀{l:List Oper}{i:Nat}{o:Oper}{t:Tmp},lX P af w l→l[i]?=some o→o.dst=some t→(execOp af.eval o).run P w= .ok (.value (af.tmps.getD t undef)) w
 |[],i,o,t,h,hi,ht=>by cases hi
 |x::l,0,o,t,h,hi,ht=>by
  cases hi;have:=h.1;rw[ht]at this;exact this
 |x::l,i+1,o,t,h,hi,ht=>nY (l:=l) (i:=i) h.2 hi ht
def zT(m k:Nat):Array Bool:=(List.replicate m true++List.replicate k false).toArray
theorem lO{n id:Nat}{P:Program}(hm:P.follows .mixedOrders=true){l:List Oper}(m k:Nat)(hl:l.length=m+k)(hB:Hi l m=true){a0:Act}{w:World}(vs:List (Nat×Value))(hv:(l.take m).map (·.dst)=vs.map fun p=>some p.1) (hlt:∀p∈vs,p.1<a0.tmps.size)
  {Q:Exit→Act→World→Prop} (hrun:lX P (S5 a0 vs) w.drew (l.take m)) (tail:wpAnyIn Fence.wide n P .any l.toArray Q k (zT m k) (S5 a0 vs) w.drew):(Code.region id l.toArray true).wpIn Fence.wide n P Q a0 w:=by
 obtain⟨hc,hst,hml⟩:=wY hB;have hs:(l.take m).toArray.size=m:=by simp;omega
 refine wpIn_region_any hm ?_;have hsz:l.toArray.size=m+k:=by simpa using hl
 obtain⟨p1,p2⟩:=bJ vs a0;have dsts:∀(j:Nat)(o:Oper)(t:Tmp),(l.take m).toArray[j]?=some o→o.dst=some t→∃p∈vs,p.1=t:=fun j o t ho ht=>by
  have hmem:some t∈(l.take m).map (·.dst):=List.mem_map.2 ⟨o,by simpa using Array.mem_of_getElem? ho,ht⟩;rw[hv,List.mem_map]at hmem;obtain⟨p,hp,e⟩:=hmem;exact⟨p,hp,Option.some.inj e⟩
 have hstill:wpAnyIn Fence.wide n P .any (l.take m).toArray (fun e a w'=>e= .normal∧a=S5 a0 vs∧w'=w.drew) m (Array.replicate m false) a0 w.drew:=by
  refine Ck hst (af:=S5 a0 vs) (a0:=a0) p1 p2 (fun t ht=>nO vs a0 t fun p hp e=>?_) (fun j o t ho ht=>?_) (fun i o t ho ht=>nY hrun (by simpa using ho) ht) ⟨rfl,rfl,rfl⟩ (fun L hL hr=>kc.least (fun i hi d hd=>hc.back i hi d (by unfold X6 at hd ⊢;rw[hc.same i hi];exact hd)) hL hr) m _ _ ⟨by rw[hs];simp,rfl,rfl,fun j o t ho ht hlj=>?_,fun _ _=>rfl⟩ ?_
  ·have:some p.1∈(l.take m).map (·.dst):=by rw[hv];exact List.mem_map.2 ⟨p,hp,rfl⟩
   obtain⟨o,ho,e2⟩:=List.mem_map.1 this;obtain⟨j,hj⟩:=List.mem_iff_getElem?.1 ho;exact ht j o (by simpa using hj) (by rw[e2,e])
  ·obtain⟨p,hp,e⟩:=dsts j o t ho ht;rw[←e];exact hlt p hp
  ·have hj:=(Array.getElem?_eq_some_iff.1 ho).1;rw[hs]at hj;rw[Array.getD_eq_getD_getElem?,Array.getElem?_replicate,if_pos hj]at hlj;cases hlj
  ·exact Nat.le_trans List.countP_le_length (by rw[List.length_range,hs];exact lR)
 have key:=Hp (F:=Fence.wide) (n:=n) (P:=P) (Q:=Q) hc k (zT m k) (fun L L' r hl'=>?_) (fun c a w' q=>by cases q.1) (fun a w' q=>by obtain⟨_,rfl,rfl⟩:=q;exact tail) (fun q=>by obtain⟨a,w',hq⟩:=q;cases hq.1) m (Array.replicate l.toArray.size false) (Array.replicate m false) a0 w.drew ⟨by simp,by rw[hs];simp,fun i hi=>?_,fun i hi hi2=>?_,fun i hi hv2=>?_⟩ ?_ hstill
 ·rw[hsz]at key ⊢;exact key
 ·apply Array.ext
  ·rw[r.s1,hsz];simp [zT]
  ·intro i h1 h2;have hi:i<m+k:=by rw[r.s1,hsz]at h1;exact h1
   have e1:L.getD i true=L[i]:=by rw[Array.getD_eq_getD_getElem?,Array.getElem?_eq_getElem h1];rfl
   rw[←e1];by_cases him:i<m
   ·rw[r.eq i (by rw[hs];exact him),hl' i (by rw[hs];exact him)];simp only[zT,List.getElem_toArray];rw[List.getElem_append_left (by simpa using him),List.getElem_replicate]
   ·rw[r.off i (by rw[hs];omega) (by rw[hsz];exact hi)];simp only[zT,List.getElem_toArray];rw[List.getElem_append_right (by simpa using Nat.le_of_not_lt him),List.getElem_replicate]
 ·rw[hs]at hi;rw[Array.getD_eq_getD_getElem?,Array.getElem?_replicate,if_pos (by rw[hsz];omega),Array.getD_eq_getD_getElem?,Array.getElem?_replicate,if_pos hi]
 ·rw[Array.getD_eq_getD_getElem?,Array.getElem?_replicate,if_pos hi2];rfl
 ·rw[hs]at hi;rw[Array.getD_eq_getD_getElem?,Array.getElem?_replicate,if_pos hi]at hv2;cases hv2
 ·unfold unl;rw[hs,List.countP_eq_length.2 (fun i hi=>by
   rw[Array.getD_eq_getD_getElem?,Array.getElem?_replicate,if_pos (List.mem_range.1 hi)];rfl),List.length_range]
end Go.Proofs.YtofbhlhamfkljaaGreatDoor.Ve
namespace Go.Proofs.YtofbhlhamfkljaaGreatDoor
open Go Go.RowKit Go.Shelf Ve
open Go.Proofs.Tryz (prog)
set_option linter.unusedVariables false
set_option linter.unusedSimpArgs false
set_option maxRecDepth 1000000
set_option maxHeartbeats 0
theorem AO:prog.funcs[84]?=some Tryz.f84:=kR
theorem EE:Tryz.f84.ntmps=47:=kR
def gX(ss:Nat→Int)(size:Int)(a k:Nat):List (Nat×Nat):=((List.range k).filter fun b=>decide (ss a+ss b+1=size)).map fun b=>(a,b)
def ch(ss:Nat→Int)(size:Int)(m a:Nat):List (Nat×Nat):=(List.range a).flatMap fun a=>gX ss size a m
theorem cM(ss:Nat→Int)(size:Int)(a k:Nat):gX ss size a (k+1)=gX ss size a k++(if ss a+ss k+1=size then [(a,k)] else []):=by
 unfold gX;rw[List.range_succ,List.filter_append,List.map_append,List.filter_cons,List.filter_nil];by_cases h:ss a+ss k+1=size
 ·rw[if_pos (decide_eq_true h),if_pos h];rfl
 ·rw[if_neg (by simpa using h),if_neg h];rfl
theorem ir(ss:Nat→Int)(size:Int)(m a:Nat):ch ss size m (a+1)=ch ss size m a++gX ss size a m:=by
 unfold ch;rw[List.range_succ,List.flatMap_append];simp
structure Rd(p75 i75 p3 i3 rb ro m:Nat)(ss:Nat→Int)(size:Int)(w:World):Prop where
 c75:w.cell? ⟨p75,i75,none⟩=some (.pointer (some ⟨rb,ro,none⟩))
 c3:w.cell? ⟨p3,i3,none⟩=some (.int .i64 size)
 row:∃b o len cap,m≤len∧w.cell? ⟨rb,ro+10,none⟩=some (.slice (some ⟨b,o,none⟩) len cap)∧∀i,i<m→w.cell? ⟨b,o+i,none⟩=some (.int .i64 (ss i))
theorem vV{n:Int}(h0: -9223372036854775808≤n)(h1:n≤9223372036854775807):IntKind.wrap .i64 n=n:=by
 simp [IntKind.wrap,IntKind.min,IntKind.max,IntKind.signed,IntKind.bits];omega
theorem bn{n:Nat}{P:Program}{ops:Array Oper}{Q:Exit→Act→World→Prop}{fuel:Nat}{L:Array Bool}{a:Act}{w:World}(i d:Nat){o:Oper}(v:Value)(hs:Region.noSelect ops=true)
  (hf:(Region.free .any ops L i&&(Region.ready .any ops L).contains i)=true) (ho:ops[i]?=some o) (hd:o.dst=some d) (hQ:∀c a w,Q (.panic c) (a.put (some d) v) w→Q (.panic c) a w) (hb:∀w,o.about P w a.eval=none) (hy:Yields P ops o v a) (h:wpAnyIn Fence.wide n P .any ops Q fuel (L.setIfInBounds i true) (a.put (some d) v) w):wpAnyIn Fence.wide n P .any ops Q (fuel+1) L a w:=by
 simp only[Bool.and_eq_true]at hf;rw[←hd]at h hQ;exact wpAnyIn_take rfl ho hs hf.1 hf.2 hQ ⟨hy,hb⟩ h
theorem mc{n:Nat}{P:Program}{ops:Array Oper}{Q:Exit→Act→World→Prop}{fuel:Nat}{L:Array Bool}{a:Act}{w:World}{i:Nat}{o:Oper}(hr:Region.ready .any ops L=[i])(ho:ops[i]?=some o)
  (h:if Region.wanted o (yielded ops a.tmps) then o.uponIn Fence.wide n P a (wpAnyIn Fence.wide n P .any ops Q fuel (L.setIfInBounds i true)) Q ((execOp a.eval o).run P w) else wpAnyIn Fence.wide n P .any ops Q fuel (L.setIfInBounds i true) (a.put o.dst undef) w):wpAnyIn Fence.wide n P .any ops Q (fuel+1) L a w:=by
 refine⟨fun q=>(by rw[hr]at q;cases q),fun j hj=>?_⟩;rw[hr,List.mem_singleton]at hj;subst hj;unfold wpOpIn;simp only[ho];split
 ·rename_i hw;rw[if_pos hw]at h;exact⟨fun _ _=>trivial,h⟩
 ·rename_i hw;rw[if_neg hw]at h;exact⟨fun _ _=>trivial,h⟩
theorem me{n:Nat}{P:Program}{ops:Array Oper}{Q:Exit→Act→World→Prop}{fuel:Nat}{L:Array Bool}{a:Act}{w:World}(i d:Nat){o:Oper}(v:Value)(hr:Region.ready .any ops L=[i])(ho:ops[i]?=some o)(hd:o.dst=some d)(hw:Region.wanted o (yielded ops a.tmps)=true)
  (hrun:(execOp a.eval o).run P w= .ok (.value v) w) (h:wpAnyIn Fence.wide n P .any ops Q fuel (L.setIfInBounds i true) (a.put (some d) v) w):wpAnyIn Fence.wide n P .any ops Q (fuel+1) L a w:=
 mc hr ho (by rw[if_pos hw,hrun,Oper.uponIn_value,hd];exact h)
theorem og{n:Nat}{P:Program}{ops:Array Oper}{Q:Exit→Act→World→Prop}{fuel:Nat}{L:Array Bool}{a:Act}{w:World}(i d:Nat){o:Oper}(hr:Region.ready .any ops L=[i])(ho:ops[i]?=some o)(hd:o.dst=some d)(hw:Region.wanted o (yielded ops a.tmps)=false)
  (h:wpAnyIn Fence.wide n P .any ops Q fuel (L.setIfInBounds i true) (a.put (some d) undef) w):wpAnyIn Fence.wide n P .any ops Q (fuel+1) L a w:=
 mc hr ho (by rw[hw,hd];exact h)
theorem oh{n:Nat}{P:Program}{ops:Array Oper}{Q:Exit→Act→World→Prop}{L:Array Bool}{a:Act}{w:World}(hr:Region.ready .any ops L=[])(h:Q .normal a w):wpAnyIn Fence.wide n P .any ops Q 0 L a w:=⟨hr,h⟩
theorem uR{n:Nat}{P:Program}{ops:Array Oper}{Q:Exit→Act→World→Prop}{fuel:Nat}{L:Array Bool}{a:Act}{w:World}(i d:Nat){o:Oper}{l:Nat}{fn:FuncId}{tmps:Array Value}{assign body:Code}{R:Ending→World→Prop}(hr:Region.ready .any ops L=[i])(ho:ops[i]?=some o)(hd:o.dst=some d)(hw:Region.wanted o (yielded ops a.tmps)=true)
  (hrun:(execOp a.eval o).run P w= .ok (.round l fn tmps assign body) w) (hR:RoundIn Fence.wide (n-1) P l fn tmps assign body w R) (h:∀e w',R e w'→∃v,e= .returned v∧wpAnyIn Fence.wide n P .any ops Q fuel (L.setIfInBounds i true) (a.put (some d) v) w'):wpAnyIn Fence.wide n P .any ops Q (fuel+1) L a w:=
 mc hr ho (by
  rw[if_pos hw,hrun,Oper.uponIn_round];refine⟨fun q=>(by cases q),hR.mono fun e w' he=>?_⟩;obtain⟨v,rfl,h2⟩:=h e w' he;rw[hd];exact h2)
def lkV:List (Nat×Value)→Nat→Option Value
 |[],_=>none
 |(d,v)::r,t=>if d=t then some v else lkV r t
theorem bf:∀(vs:List (Nat×Value))(a:Act)(t:Nat),(vs.map (·.1)).Nodup→(∀p∈vs,p.1<a.tmps.size)→(S5 a vs).tmps[t]?.getD undef=(lkV vs t).getD (a.tmps[t]?.getD undef)
 |[],a,t,_,_=>rfl
 |(d,v)::r,a,t,h,hl=>by
  rw[List.map_cons,List.nodup_cons]at h;have hl2:∀p∈r,p.1<(a.put (some d) v).tmps.size:=fun p hp=>by
   show p.1<(a.tmps.setIfInBounds d v).size;rw[Array.size_setIfInBounds];exact hl p (by simp [hp])
  have ih:=bf r (a.put (some d) v) t h.2 hl2;rw[S5,ih,lkV];have hp:(a.put (some d) v).tmps[t]?=(a.tmps.setIfInBounds d v)[t]?:=rfl;rw[hp,Array.getElem?_setIfInBounds];by_cases hd:d=t
  ·subst hd;have hn:lkV r d=none:=by
    have:∀r:List (Nat×Value),d∉r.map (·.1)→lkV r d=none:=by
     intro r;induction r with
     |nil=>intro _;rfl
     |cons x r ih=>
      intro hx;simp only[List.map_cons,List.mem_cons,not_or]at hx;rw[lkV,if_neg (fun q=>hx.1 q.symm)];exact ih hx.2
    exact this r h.1
   rw[hn,if_pos rfl,if_pos rfl,if_pos (hl (d,v) (by simp))];rfl
  ·rw[if_neg hd,if_neg hd]
def co(id:Nat):Code→List Oper
 | .region k ops _=>if k=id then ops.toList else []
 | .seq a b=>co id a++co id b
 | .cond _ a b=>co id a++co id b
 | .block _ a| .loop a| .scope a=>co id a
 |_=>[]
noncomputable def c84:Code:=Tryz.f84.body.getD .skip
set_option maxRecDepth 100000 in
set_option maxHeartbeats 2000000 in
theorem EU(n:Nat)(a0:Act)(hsz:a0.tmps.size=47)(w:World)(Q:Exit→Act→World→Prop)(hQ:∀c a(d:Nat) v w,Q (.panic c) (a.put (some d) v) w→Q (.panic c) a w) (yl:Nat) (p75 i75 p3 i3 rb ro b o len cap k q:Nat) (x y size:Int) (hx:0≤x∧x≤1000000) (hy:0≤y∧y≤1000000) (hk:k<len) (hq:q<len)
  (e0:a0.tmps[0]?.getD undef= .func (.yield yl) #[] #[]) (e1:a0.tmps[1]?.getD undef= .pointer (some ⟨p75,i75,none⟩)) (e2:a0.tmps[2]?.getD undef= .pointer (some ⟨p3,i3,none⟩)) (e5:a0.tmps[5]?.getD undef=iV k) (e6:a0.tmps[6]?.getD undef=iV q)
  (c75:w.cell? ⟨p75,i75,none⟩=some (.pointer (some ⟨rb,ro,none⟩))) (c3:w.cell? ⟨p3,i3,none⟩=some (.int .i64 size)) (c10:w.cell? ⟨rb,ro+10,none⟩=some (.slice (some ⟨b,o,none⟩) len cap)) (ca:w.cell? ⟨b,o+k,none⟩=some (.int .i64 x)) (cb:w.cell? ⟨b,o+q,none⟩=some (.int .i64 y))
  (hno:x+y+1≠size→∀a',a'.tmps.size=47→a'.defers=a0.defers→(∀t,(t<20∨45≤t)→a'.tmps.getD t undef=a0.tmps.getD t undef)→a'.tmps.getD 44 undef= .bool false→Q .normal a' w.drew)
  (hyes:x+y+1=size→YieldAt Fence.wide (n-1) prog yl #[iV k,iV q] w.drew fun e W'=>∃g:Bool,e= .returned (.bool g)∧∀a',a'.tmps.size=47→a'.defers=a0.defers→(∀t,(t<20∨45≤t)→a'.tmps.getD t undef=a0.tmps.getD t undef)→a'.tmps.getD 44 undef= .bool (!g)→Q .normal a' W')
  :(Code.region 7 (co 7 c84).toArray true).wpIn Fence.wide n prog Q a0 w:=by
 have hmix:prog.follows .mixedOrders=true:=kR;have v1:IntKind.i64.wrap (x+y)=x+y:=vV oM oM;have v2:IntKind.i64.wrap (x+y+1)=x+y+1:=vV oM oM;have v3:x+y+1=size→IntKind.i64.wrap size=size:=fun q=>by rw[q]at v2;exact v2
 have nk:¬len≤k:=oM;have nq:¬len≤q:=oM;by_cases hsum:x+y+1=size
 ·refine lO hmix 19 6 kR kR [(20,.pointer (some ⟨rb,ro,none⟩)),(21,.pointer (some ⟨rb,ro,none⟩)),(22,.pointer (some ⟨rb,ro+10,none⟩)),(23,.slice (some ⟨b,o,none⟩) len cap),(24,iV k),(25,.pointer (some ⟨b,o+k,none⟩)),(26,iV x),(27,.pointer (some ⟨rb,ro,none⟩)),(28,.pointer (some ⟨rb,ro,none⟩)),(29,.pointer (some ⟨rb,ro+10,none⟩)),(30,.slice (some ⟨b,o,none⟩) len cap),(31,iV q),(32,.pointer (some ⟨b,o+q,none⟩)),(33,iV y),(34,iV (x+y)),(35,iV (x+y+1)),(36,iV size),(37,.bool true),(38,.bool true)] kR (by simp [hsz]) ?_ ?_
  ·simp only[co,c84,Tryz.f84,Option.getD_some,if_true,Nat.reduceEqDiff,if_false,List.nil_append,List.append_nil,lX,List.take_succ_cons,List.take_zero];refine⟨?_,?_,?_,?_,?_,?_,?_,?_,?_,?_,?_,?_,?_,?_,?_,?_,?_,?_,?_,trivial⟩
   all_goals generalize hvs:([(20,_),_,_,_,_,_,_,_,_,_,_,_,_,_,_,_,_,_,_]:List (Nat×Value))=vs
   all_goals
    have hget:∀t,(S5 a0 vs).tmps[t]?.getD undef=(lkV vs t).getD (a0.tmps[t]?.getD undef):=fun t=>bf vs a0 t (by subst hvs;simp) (by subst hvs;simp [hsz]);generalize S5 a0 vs=af at hget ⊢;subst hvs;simp [go_sem,hget,lkV,e1,e2,e5,e6,c75,c3,c10,ca,cb,v1,v2,hsum,nk,nq,v3]
  ·generalize hvs:([(20,_),_,_,_,_,_,_,_,_,_,_,_,_,_,_,_,_,_,_]:List (Nat×Value))=vs;have hget:∀t,(S5 a0 vs).tmps[t]?.getD undef=(lkV vs t).getD (a0.tmps[t]?.getD undef):=fun t=>bf vs a0 t (by subst hvs;simp) (by subst hvs;simp [hsz]);have hsf:=bJ vs a0;generalize S5 a0 vs=af at hget hsf ⊢;rw[hsz]at hsf;have h38:af.tmps[38]?=some (.bool true):=by
    have:=hget 38;rw[Array.getElem?_eq_getElem oM]at this ⊢;subst hvs
    simpa [lkV] using this
   have h38b:af.tmps[38]'oM= .bool true:=by rw[Array.getElem?_eq_getElem oM]at h38;exact Option.some.inj h38
   have hlow:∀t,t<20→af.tmps[t]?.getD undef=a0.tmps[t]?.getD undef:=fun t ht=>by
    have h2:=hget t;have h3:lkV vs t=none:=by
     subst hvs;simp only[lkV]
     repeat rw[if_neg oM]
    rw[h3]at h2;exact h2
   have g0:=(hlow 0 oM).trans e0;have g5:=(hlow 5 oM).trans e5;have g6:=(hlow 6 oM).trans e6;obtain⟨fn,tmps,assign,body,hyr,hR⟩:=hyes hsum;simp only[co,c84,Tryz.f84,Option.getD_some,if_true,Nat.reduceEqDiff,if_false,List.nil_append,List.append_nil];refine bn 19 39 (.func (.yield yl) #[] #[]) kR kR rfl rfl (fun _ _ _ h=>hQ _ _ _ _ _ h) (fun _=>rfl) (.inl ⟨by simp [Region.wanted,yielded,h38],fun w=>by simp [go_sem,g0]⟩) ?_;refine bn 20 40 (.int .i64 k) kR kR rfl rfl (fun _ _ _ h=>hQ _ _ _ _ _ h) (fun _=>rfl) (.inl ⟨by simp [Region.wanted,yielded,h38,Act.put],fun w=>by simp [go_sem,g5,Act.put,Array.getElem?_setIfInBounds]⟩) ?_;refine bn 21 41 (.int .i64 q) kR kR rfl rfl (fun _ _ _ h=>hQ _ _ _ _ _ h) (fun _=>rfl) (.inl ⟨by simp [Region.wanted,yielded,h38,Act.put],fun w=>by simp [go_sem,g6,Act.put,Array.getElem?_setIfInBounds]⟩) ?_;refine uR 22 42 kR rfl rfl (by simp [Region.wanted,yielded,h38,Act.put]) ?_ hR ?_
   ·simp [go_sem,Act.put,hsf.1,hyr]
   ·rintro e W' ⟨g,rfl,hg⟩;refine⟨_,rfl,?_⟩;refine me 23 43 (.bool (!g)) kR rfl rfl (by simp [Region.wanted,yielded,h38,Act.put]) ?_ ?_
    ·simp [go_sem,Act.put,hsf.1]
    ·refine me 24 44 (.bool (!g)) kR rfl rfl (by simp [Region.wanted]) ?_ ?_
     ·simp [go_sem,Act.put,h38,h38b,hsf.1]
     ·refine oh kR ?_;refine hg _ ?_ ?_ (fun t ht=>?_) ?_
      ·simp [Act.put,hsf.1]
      ·simp [Act.put,hsf.2]
      ·have h2:=hget t;have h3:lkV vs t=none:=by
        subst hvs;simp only[lkV]
        repeat rw[if_neg oM]
       rw[h3]at h2;simp only[Act.put,Array.getD_eq_getD_getElem?,Array.getElem?_setIfInBounds];rw[if_neg (show¬44=t from oM),if_neg (show¬43=t from oM),if_neg (show¬42=t from oM),if_neg (show¬41=t from oM),if_neg (show¬40=t from oM),if_neg (show¬39=t from oM)];exact h2
      ·simp [Act.put,hsf.1,Array.getD_eq_getD_getElem?]
 ·refine lO hmix 19 6 kR kR [(20,.pointer (some ⟨rb,ro,none⟩)),(21,.pointer (some ⟨rb,ro,none⟩)),(22,.pointer (some ⟨rb,ro+10,none⟩)),(23,.slice (some ⟨b,o,none⟩) len cap),(24,iV k),(25,.pointer (some ⟨b,o+k,none⟩)),(26,iV x),(27,.pointer (some ⟨rb,ro,none⟩)),(28,.pointer (some ⟨rb,ro,none⟩)),(29,.pointer (some ⟨rb,ro+10,none⟩)),(30,.slice (some ⟨b,o,none⟩) len cap),(31,iV q),(32,.pointer (some ⟨b,o+q,none⟩)),(33,iV y),(34,iV (x+y)),(35,iV (x+y+1)),(36,iV size),(37,.bool false),(38,.bool false)] kR (by simp [hsz]) ?_ ?_
  ·simp only[co,c84,Tryz.f84,Option.getD_some,if_true,Nat.reduceEqDiff,if_false,List.nil_append,List.append_nil,lX,List.take_succ_cons,List.take_zero];refine⟨?_,?_,?_,?_,?_,?_,?_,?_,?_,?_,?_,?_,?_,?_,?_,?_,?_,?_,?_,trivial⟩
   all_goals generalize hvs:([(20,_),_,_,_,_,_,_,_,_,_,_,_,_,_,_,_,_,_,_]:List (Nat×Value))=vs
   all_goals
    have hget:∀t,(S5 a0 vs).tmps[t]?.getD undef=(lkV vs t).getD (a0.tmps[t]?.getD undef):=fun t=>bf vs a0 t (by subst hvs;simp) (by subst hvs;simp [hsz]);generalize S5 a0 vs=af at hget ⊢;subst hvs;simp [go_sem,hget,lkV,e1,e2,e5,e6,c75,c3,c10,ca,cb,v1,v2,hsum,nk,nq]
  ·generalize hvs:([(20,_),_,_,_,_,_,_,_,_,_,_,_,_,_,_,_,_,_,_]:List (Nat×Value))=vs;have hget:∀t,(S5 a0 vs).tmps[t]?.getD undef=(lkV vs t).getD (a0.tmps[t]?.getD undef):=fun t=>bf vs a0 t (by subst hvs;simp) (by subst hvs;simp [hsz]);have hsf:=bJ vs a0;generalize S5 a0 vs=af at hget hsf ⊢;rw[hsz]at hsf;have h38:af.tmps[38]?=some (.bool false):=by
    have:=hget 38;rw[Array.getElem?_eq_getElem oM]at this ⊢;subst hvs
    simpa [lkV] using this
   have h38b:af.tmps[38]'oM= .bool false:=by rw[Array.getElem?_eq_getElem oM]at h38;exact Option.some.inj h38
   simp only[co,c84,Tryz.f84,Option.getD_some,if_true,Nat.reduceEqDiff,if_false,List.nil_append,List.append_nil];refine bn 19 39 undef kR kR rfl rfl (fun _ _ _ h=>hQ _ _ _ _ _ h) (fun _=>rfl) (.inr ⟨by simp [Region.wanted,yielded,h38],rfl⟩) ?_;refine bn 20 40 undef kR kR rfl rfl (fun _ _ _ h=>hQ _ _ _ _ _ h) (fun _=>rfl) (.inr ⟨by simp [Region.wanted,yielded,h38,Act.put],rfl⟩) ?_;refine bn 21 41 undef kR kR rfl rfl (fun _ _ _ h=>hQ _ _ _ _ _ h) (fun _=>rfl) (.inr ⟨by simp [Region.wanted,yielded,h38,Act.put],rfl⟩) ?_;refine og 22 42 kR rfl rfl (by simp [Region.wanted,yielded,h38,Act.put]) ?_;refine og 23 43 kR rfl rfl (by simp [Region.wanted,yielded,h38,Act.put]) ?_;refine me 24 44 (.bool false) kR rfl rfl (by simp [Region.wanted]) ?_ ?_
   ·simp [go_sem,Act.put,h38,h38b,hsf.1]
   ·refine oh kR ?_;refine hno hsum _ ?_ ?_ (fun t ht=>?_) ?_
    ·simp [Act.put,hsf.1]
    ·simp [Act.put,hsf.2]
    ·have h2:=hget t;have h3:lkV vs t=none:=by
      subst hvs;simp only[lkV]
      repeat rw[if_neg oM]
     rw[h3]at h2;simp only[Act.put,Array.getD_eq_getD_getElem?,Array.getElem?_setIfInBounds];rw[if_neg (show¬44=t from oM),if_neg (show¬43=t from oM),if_neg (show¬42=t from oM),if_neg (show¬41=t from oM),if_neg (show¬40=t from oM),if_neg (show¬39=t from oM)];exact h2
    ·simp [Act.put,hsf.1,Array.getD_eq_getD_getElem?]
theorem BS(ss:Nat→Int)(size:Int)(a k m:Nat)(h:k≤m):gX ss size a k<+:gX ss size a m:=by
 induction m with
 |zero=>
  have:k=0:=oM;rw[this];exact List.prefix_rfl
 |succ m ih=>
  by_cases hk:k=m+1
  ·rw[hk];exact List.prefix_rfl
  ·rw[cM];exact(ih oM).trans (List.prefix_append _ _)
theorem pP(ss:Nat→Int)(size:Int)(m a k:Nat)(h:a<m)(hk:k≤m):ch ss size m a++gX ss size a k<+:ch ss size m m:=by
 have:∀d,a+1+d≤m→ch ss size m (a+1)<+:ch ss size m (a+1+d):=by
  intro d;induction d with
  |zero=>intro _;exact List.prefix_rfl
  |succ d ih=>
   intro hd;rw[show a+1+(d+1)=(a+1+d)+1 from oM,ir ss size m (a+1+d)];exact(ih oM).trans (List.prefix_append _ _)
 have h2:=this (m-(a+1)) oM;rw[show a+1+(m-(a+1))=m from oM]at h2;refine List.IsPrefix.trans ?_ h2;rw[ir];exact(List.prefix_append_right_inj _).2 (BS ss size a k m hk)
theorem Rd.drew{p75 i75 p3 i3 rb ro m:Nat}{ss:Nat→Int}{size:Int}{w:World}(h:Rd p75 i75 p3 i3 rb ro m ss size w):Rd p75 i75 p3 i3 rb ro m ss size w.drew:=by
 obtain⟨h1,h2,b,o,len,cap,h3,h4,h5⟩:=h;exact⟨h1,h2,b,o,len,cap,h3,h4,h5⟩
theorem ke(a0 a':Act)(b:Value)(h0:a0.tmps.size=47)(s1:a'.tmps.size=47)(s2:a'.defers=a0.defers)(s3:∀t,(t<20∨45≤t)→a'.tmps.getD t undef=a0.tmps.getD t undef) (s4:a'.tmps.getD 44 undef=b):
  ∃y20 y21 y22 y23 y24 y25 y26 y27 y28 y29 y30 y31 y32 y33 y34 y35 y36 y37 y38 y39 y40 y41 y42 y43:Value,a'=S5 a0 [(20,y20),(21,y21),(22,y22),(23,y23),(24,y24),(25,y25),(26,y26),(27,y27),(28,y28),(29,y29),(30,y30),(31,y31),(32,y32),(33,y33),(34,y34),(35,y35),(36,y36),(37,y37),(38,y38),(39,y39),(40,y40),(41,y41),(42,y42),(43,y43),(44,b)]:=by
 refine⟨a'.tmps.getD 20 undef,a'.tmps.getD 21 undef,a'.tmps.getD 22 undef,a'.tmps.getD 23 undef,a'.tmps.getD 24 undef,a'.tmps.getD 25 undef,a'.tmps.getD 26 undef,a'.tmps.getD 27 undef,a'.tmps.getD 28 undef,a'.tmps.getD 29 undef,a'.tmps.getD 30 undef,a'.tmps.getD 31 undef,a'.tmps.getD 32 undef,a'.tmps.getD 33 undef,a'.tmps.getD 34 undef,a'.tmps.getD 35 undef,a'.tmps.getD 36 undef,a'.tmps.getD 37 undef,a'.tmps.getD 38 undef,a'.tmps.getD 39 undef,a'.tmps.getD 40 undef,a'.tmps.getD 41 undef,a'.tmps.getD 42 undef,a'.tmps.getD 43 undef,?_⟩;obtain⟨p1,p2⟩:=bJ [(20,a'.tmps.getD 20 undef),(21,a'.tmps.getD 21 undef),(22,a'.tmps.getD 22 undef),(23,a'.tmps.getD 23 undef),(24,a'.tmps.getD 24 undef),(25,a'.tmps.getD 25 undef),(26,a'.tmps.getD 26 undef),(27,a'.tmps.getD 27 undef),(28,a'.tmps.getD 28 undef),(29,a'.tmps.getD 29 undef),(30,a'.tmps.getD 30 undef),(31,a'.tmps.getD 31 undef),(32,a'.tmps.getD 32 undef),(33,a'.tmps.getD 33 undef),(34,a'.tmps.getD 34 undef),(35,a'.tmps.getD 35 undef),(36,a'.tmps.getD 36 undef),(37,a'.tmps.getD 37 undef),(38,a'.tmps.getD 38 undef),(39,a'.tmps.getD 39 undef),(40,a'.tmps.getD 40 undef),(41,a'.tmps.getD 41 undef),(42,a'.tmps.getD 42 undef),(43,a'.tmps.getD 43 undef),(44,b)] a0;refine uZ (by rw[p1,s1,h0]) (by rw[p2,s2]) fun t=>?_;have hg:=bf [(20,a'.tmps.getD 20 undef),(21,a'.tmps.getD 21 undef),(22,a'.tmps.getD 22 undef),(23,a'.tmps.getD 23 undef),(24,a'.tmps.getD 24 undef),(25,a'.tmps.getD 25 undef),(26,a'.tmps.getD 26 undef),(27,a'.tmps.getD 27 undef),(28,a'.tmps.getD 28 undef),(29,a'.tmps.getD 29 undef),(30,a'.tmps.getD 30 undef),(31,a'.tmps.getD 31 undef),(32,a'.tmps.getD 32 undef),(33,a'.tmps.getD 33 undef),(34,a'.tmps.getD 34 undef),(35,a'.tmps.getD 35 undef),(36,a'.tmps.getD 36 undef),(37,a'.tmps.getD 37 undef),(38,a'.tmps.getD 38 undef),(39,a'.tmps.getD 39 undef),(40,a'.tmps.getD 40 undef),(41,a'.tmps.getD 41 undef),(42,a'.tmps.getD 42 undef),(43,a'.tmps.getD 43 undef),(44,b)] a0 t (by simp) (by simp [h0]);rw[Array.getD_eq_getD_getElem?,Array.getD_eq_getD_getElem?,hg,←Array.getD_eq_getD_getElem?,←Array.getD_eq_getD_getElem?];by_cases ht:t<20∨45≤t
 ·rw[s3 t ht];have:lkV [(20,a'.tmps.getD 20 undef),(21,a'.tmps.getD 21 undef),(22,a'.tmps.getD 22 undef),(23,a'.tmps.getD 23 undef),(24,a'.tmps.getD 24 undef),(25,a'.tmps.getD 25 undef),(26,a'.tmps.getD 26 undef),(27,a'.tmps.getD 27 undef),(28,a'.tmps.getD 28 undef),(29,a'.tmps.getD 29 undef),(30,a'.tmps.getD 30 undef),(31,a'.tmps.getD 31 undef),(32,a'.tmps.getD 32 undef),(33,a'.tmps.getD 33 undef),(34,a'.tmps.getD 34 undef),(35,a'.tmps.getD 35 undef),(36,a'.tmps.getD 36 undef),(37,a'.tmps.getD 37 undef),(38,a'.tmps.getD 38 undef),(39,a'.tmps.getD 39 undef),(40,a'.tmps.getD 40 undef),(41,a'.tmps.getD 41 undef),(42,a'.tmps.getD 42 undef),(43,a'.tmps.getD 43 undef),(44,b)] t=none:=by
   simp only[lkV]
   repeat rw[if_neg oM]
  rw[this];rfl
 ·have h20:20≤t:=oM;have h44:t≤44:=oM;have:t=20∨t=21∨t=22∨t=23∨t=24∨t=25∨t=26∨t=27∨t=28∨t=29∨t=30∨t=31∨t=32∨t=33∨t=34∨t=35∨t=36∨t=37∨t=38∨t=39∨t=40∨t=41∨t=42∨t=43∨t=44:=oM;rcases this with rfl|rfl|rfl|rfl|rfl|rfl|rfl|rfl|rfl|rfl|rfl|rfl|rfl|rfl|rfl|rfl|rfl|rfl|rfl|rfl|rfl|rfl|rfl|rfl|rfl<;>first|rfl|exact s4
set_option maxRecDepth 100000 in
set_option maxHeartbeats 4000000 in
theorem yf(n:Nat)(l:Nat)(p75 i75 p3 i3:Nat)(rb ro:Nat)(m:Nat)(ss:Nat→Int)(size:Int)(J Jx:List (Nat×Nat)→World→Prop)(hm:m≤1000)(hss:∀i,0≤ss i∧ss i≤1000000)
  (hJd:∀pre w,J pre w→J pre w.drew)
  (hY:∀pre(x:Nat×Nat) W,(pre++[x])<+:ch ss size m m→J pre W→YieldAt Fence.wide (n-1) prog l #[iV (x.1:Int),iV (x.2:Int)] W fun e W'=>
   (e= .returned (.bool true)∧J (pre++[x]) W'∧(Rd p75 i75 p3 i3 rb ro m ss size W→Rd p75 i75 p3 i3 rb ro m ss size W'))∨(e= .returned (.bool false)∧Jx (pre++[x]) W'))
  (W:World) (hR:Rd p75 i75 p3 i3 rb ro m ss size W) (sa:Option Addr) (sc:Nat) (hs:W.cell? ⟨rb,ro+9,none⟩=some (.slice sa m sc)) (h0:J [] W):
  CallsIn Fence.wide n prog 84 #[.func (.yield l) #[] #[],.pointer (some ⟨p75,i75,none⟩),.pointer (some ⟨p3,i3,none⟩)] W fun e W'=>(∃v,e= .returned v)∧(J (ch ss size m m) W'∨∃pre,pre<+:ch ss size m m∧Jx pre W'):=by
 have hB:=hR.c75;refine callsIn_of_wp AO rfl trivial ?_ rfl;simp only[EE,List.size_toArray,List.length_cons,List.length_nil,Nat.reduceAdd,Nat.reduceSub,Array.replicate_succ,Array.replicate_zero,List.push_toArray,List.append_toArray,List.nil_append,List.cons_append]
 gi_wp2
 gi_loopw [13] (fun i wr=>∃k:Nat,k≤m∧i=iV k∧J (ch ss size m k) wr∧Rd p75 i75 p3 i3 rb ro m ss size wr)
  (fun i _=>m-(intOf i).toNat)
 case atStart=>exact⟨0,Nat.zero_le _,rfl,h0,hR⟩
 case round=>
  obtain⟨k,hk,rfl,hJ1,hR1⟩:=hrel;by_cases hlt:k<m
  ·gi_wp2
   gi_loopw [17] (fun i wr=>∃q:Nat,q≤m∧i=iV q∧J (ch ss size m k++gX ss size k q) wr∧Rd p75 i75 p3 i3 rb ro m ss size wr)
    (fun i _=>m-(intOf i).toNat)
   case atStart=>exact⟨0,Nat.zero_le _,rfl,by simpa [gX] using hJ1,hR1⟩
   case round=>
    obtain⟨q,hq,rfl,hJ2,hR2⟩:=hrel;by_cases hlt2:q<m
    ·have hR3:=hR2.drew;obtain⟨c75,c3,b,o,len,cap,hml,c10,cz⟩:=hR2;have ca:=cz k hlt;have cb:=cz q hlt2;have h1:=hss k;have h2:=hss q
     gi_wp2
     refine EU n _ rfl _ _ (fun _ _ _ _ _ h=>h) l p75 i75 p3 i3 rb ro b o len cap k q (ss k) (ss q) size h1 h2 oM oM rfl rfl rfl rfl rfl c75 c3 c10 ca cb ?_ ?_
     ·intro hne a' s1 s2 s3 s4;obtain⟨y20,y21,y22,y23,y24,y25,y26,y27,y28,y29,y30,y31,y32,y33,y34,y35,y36,y37,y38,y39,y40,y41,y42,y43,rfl⟩:=ke _ a' _ rfl s1 s2 s3 s4;simp only[S5,Act.put,List.setIfInBounds_toArray,List.set_cons_succ,List.set_cons_zero]
      gi_wp2
      refine⟨⟨q+1,oM,by simp,?_,hR3⟩,by simp [intOf];omega⟩;rw[cM,if_neg hne,List.append_nil];exact hJd _ _ hJ2
     ·intro hsum;obtain⟨fn,tmps,assign,body,hy,hRr⟩:=hY _ (k,q) wr.drew (by
       have:=pP ss size m k (q+1) hlt hlt2
       rwa [cM,if_pos hsum,←List.append_assoc]at this) (hJd _ _ hJ2)
      refine⟨fn,tmps,assign,body,hy,hRr.mono ?_⟩;rintro e W3 (⟨rfl,hJ3,hK3⟩|⟨rfl,hJx3⟩)
      ·have hR4:=hK3 hR3;refine⟨true,rfl,fun a' s1 s2 s3 s4=>?_⟩;obtain⟨y20,y21,y22,y23,y24,y25,y26,y27,y28,y29,y30,y31,y32,y33,y34,y35,y36,y37,y38,y39,y40,y41,y42,y43,rfl⟩:=ke _ a' _ rfl s1 s2 s3 s4;simp only[S5,Act.put,List.setIfInBounds_toArray,List.set_cons_succ,List.set_cons_zero,Bool.not_true]
       gi_wp2
       refine⟨⟨q+1,oM,by simp,?_,hR4⟩,by simp [intOf];omega⟩;rw[cM,if_pos hsum,←List.append_assoc];exact hJ3
      ·refine⟨false,rfl,fun a' s1 s2 s3 s4=>?_⟩;obtain⟨y20,y21,y22,y23,y24,y25,y26,y27,y28,y29,y30,y31,y32,y33,y34,y35,y36,y37,y38,y39,y40,y41,y42,y43,rfl⟩:=ke _ a' _ rfl s1 s2 s3 s4;simp only[S5,Act.put,List.setIfInBounds_toArray,List.set_cons_succ,List.set_cons_zero,Bool.not_false]
       gi_wp2
       refine bodyPost_ret (results_none rfl _ _ _) rfl ?_;refine⟨⟨_,rfl⟩,.inr ⟨_,?_,hJx3⟩⟩;have:=pP ss size m k (q+1) hlt hlt2
       rwa [cM,if_pos hsum,←List.append_assoc]at this
    ·have hqm:q=m:=oM
     gi_wp2
     refine⟨⟨k+1,oM,by simp,?_,hR2⟩,by simp [intOf];omega⟩;rw[ir,←hqm];rw[←hqm]at hJ2;exact hJ2
  ·have hkm:k=m:=oM
   gi_wp2
   go_end0
   exact⟨⟨_,rfl⟩,.inl (by rw[hkm]at hJ1;exact hJ1)⟩
end Go.Proofs.YtofbhlhamfkljaaGreatDoor
namespace Go.Proofs.YtofbhlhamfkljaaGreatDoor.Ve
open Go Go.RowKit
open Go.Proofs.Tryz (prog)
set_option linter.unusedVariables false
set_option linter.unusedSimpArgs false
set_option maxRecDepth 1000000
set_option maxHeartbeats 0
def ldc(H:d9)(v:Value)(i:Nat):Option Value:=
 match v with
 | .pointer (some ⟨b,o,none⟩)=>match H.get b with
  |some (.cells c _ _)=>c[o+i]?
  |_=>none
 |_=>none
theorem vE{H:d9}{v:Value}{i:Nat}{x:Value}(h:ldc H v i=some x):∃b o c own sz,v= .pointer (some ⟨b,o,none⟩)∧H.get b=some (.cells c own sz)∧c[o+i]?=some x:=by
 unfold ldc at h;split at h
 ·rename_i b o;split at h
  ·rename_i c own sz hg;exact⟨b,o,c,own,sz,rfl,hg,h⟩
  ·cases h
 ·cases h
section
variable{base:Bs}{w0:World}{φ:List Loc}{w:World}
theorem X1{H:d9}(hW:WR base w0 φ H.bs w){v v':Value}(hv:VR φ v v'){i:Nat}{x:Value}(h:ldc H v i=some x):∃p q y,v'= .pointer (some ⟨p,q,none⟩)∧w.cell? ⟨p,q+i,none⟩=some y∧VR φ x y:=by
 obtain⟨b,o,c,own,sz,rfl,hg,hx⟩:=vE h;cases hv with
 |ptr hl=>
  rename_i l;obtain⟨_,_,hc,_⟩:=hW.blk b _ l hg hl;obtain⟨y,hy,hxy⟩:=hc _ _ hx;exact⟨_,_,y,rfl,by rw[Nat.add_assoc];exact hy,hxy⟩
theorem NU{φ':List Loc}(hx:Ext φ φ'){H:d9}{v v' v'':Value}{i:Nat}{x:Value}(h:ldc H v i=some x)(h1:VR φ v v')(h2:VR φ' v v''):v''=v':=by
 obtain⟨b,o,c,own,sz,rfl,hg,_⟩:=vE h;cases h1 with
 |ptr hl=>
  cases h2 with
  |ptr hl'=>
   have:=hx _ _ hl;rw[hl']at this;cases this;rfl
end
def iL:Option Value→Int
 |some (.int .i64 n)=>n
 |_=>0
def lnA:Option Value→Nat
 |some (.slice _ n _)=>n
 |_=>0
def gj(n:Int):Int:=if 0≤n∧n≤1000000 then n else 0
theorem CW(n:Int):0≤gj n∧gj n≤1000000:=by unfold gj;split<;>omega
def atA(H:d9)(s:Option Value)(i:Nat):Option Value:=
 match s with
 |some (.slice (some a) _ _)=>ldc H (.pointer (some a)) i
 |_=>none
def okP(v75 v3 q:Value)(m:Nat)(ss:Nat→Int)(size:Int)(H:d9):Prop:=
 ldc H v75 0=some q∧ldc H v3 0=some (.int .i64 size)∧∃a len cap,ldc H q 10=some (.slice (some a) len cap)∧m≤len∧∀i,i<m→ldc H (.pointer (some a)) i=some (.int .i64 (ss i))
open Classical in
noncomputable def pg(e:Env)(H:d9):Option (List (Nat×Nat)×(d9→Prop)):=
 match e.get 11 with
 | .func (.func 84) fs cs=>
  let v75:=cs.getD 0 undef
  let v3:=cs.getD 1 undef
  let q:=(ldc H v75 0).getD undef
  let m:=lnA (ldc H q 9)
  let ss:=fun i=>gj (iL (atA H (ldc H q 10) i))
  let size:=iL (ldc H v3 0)
  if fs.size=0∧cs.size=2∧1≤m∧m≤1000∧(∃a c,ldc H q 9=some (.slice a m c))∧okP v75 v3 q m ss size H then some (ch ss size m m,okP v75 v3 q m ss size) else none
 |_=>none
theorem Ol:bP prog 84:=⟨Tryz.f84,AO,kR,kR⟩
theorem Nn:(Tryz.f34.name== "runtime.NumGoroutine")=false:=kR
theorem nX{φ:List Loc}{a:Option Addr}{m c:Nat}{v:Value}(hm:1≤m)(h:VR φ (.slice a m c) v):∃a' c',v= .slice a' m c':=by
 cases h with
 |nilslice=>omega
 |slice0=>omega
 |exact=>exact⟨_,_,rfl⟩
 |slice=>exact⟨_,_,rfl⟩
theorem Cf{φ:List Loc}{a:Addr}{m c:Nat}{v:Value}(hm:1≤m)(h:VR φ (.slice (some a) m c) v):∃a' c',v= .slice (some a') m c'∧VR φ (.pointer (some a)) (.pointer (some a')):=by
 cases h with
 |slice0=>omega
 |exact hl=>exact⟨_,_,rfl,.ptr hl⟩
 |slice hl _ _=>exact⟨_,_,rfl,.ptr hl⟩
theorem nJ{base:Bs}{w0:World}{φ φ':List Loc}{w:World}{H H':d9}{v75 v3 q v75' v3' q':Value}{m:Nat}{ss:Nat→Int}{size:Int}(hx:Ext φ φ')(hm:1≤m)(hW:WR base w0 φ' H'.bs w)(h:okP v75 v3 q m ss size H')(h1:VR φ v75 v75')(h2:VR φ v3 v3')(h3:VR φ q q'){x:Value}(hq:ldc H q 9=some x){p75 i75 p3 i3 rb ro:Nat}
  (e1:v75'= .pointer (some ⟨p75,i75,none⟩)) (e2:v3'= .pointer (some ⟨p3,i3,none⟩)) (e3:q'= .pointer (some ⟨rb,ro,none⟩)):Rd p75 i75 p3 i3 rb ro m ss size w:=by
 subst e1 e2 e3;obtain⟨k1,k2,a,len,cap,k3,k4,k5⟩:=h;obtain⟨p,i,y,r1,r2,r3⟩:=X1 hW (h1.mono hx) k1;cases r1;have:=NU hx hq h3 r3;subst this;obtain⟨p,i,y,r1,r4,r5⟩:=X1 hW (h2.mono hx) k2;cases r1;have:=r5.eq_na (by rfl);subst this;obtain⟨p,i,y,r1,r6,r7⟩:=X1 hW (h3.mono hx) k3;cases r1;obtain⟨⟨ab,ao,ap⟩,c',rfl,r8⟩:=Cf oM r7;have hap:ap=none:=by cases r8;rfl
 subst hap;refine⟨r2,r4,ab,ao,len,c',k4,r6,fun i hi=>?_⟩;obtain⟨p,j,y,t1,t2,t3⟩:=X1 hW r8 (k5 i hi);cases t1;have:=t3.eq_na (by rfl);subst this;exact t2
theorem Xv{base:Bs}{w0:World}{φ:List Loc}{w:World}{a:Act}{e:Env}{H:d9}{L:List (Nat×Nat)}{ok:d9→Prop}(h:pg e H=some (L,ok))(hE:ER φ Tryz.f34.ntmps e a)(hW:WR base w0 φ H.bs w):
  ∃lb Rd,a.eval (.tmp 11)= .func (.func 84) #[] lb∧(∀φ' H' W',Ext φ φ'→WR base w0 φ' H'.bs W'→ok H'→Rd W')∧∀W0,WR base w0 φ H.bs W0→sr prog 84 lb Rd L W0:=by
 have hv:=hE.op (x:= .tmp 11) rfl;have h0:opv e (.tmp 11)=e.get 11:=rfl;rw[h0]at hv;unfold pg at h;split at h
 rotate_left
 ·cases h
 rename_i fs cs heq;rw[heq]at hv;simp only at h;split at h
 rotate_left
 ·cases h
 rename_i hc;cases h;obtain⟨c1,c2,c3,c4,⟨sa,sc,c5⟩,c6⟩:=hc;generalize hz:a.eval (.tmp 11)=z at hv;cases hv with
 |func g h1 h2 h3 h4=>
  rename_i fs' cs';have hfs:fs'= #[]:=by
   apply Array.eq_empty_of_size_eq_zero;have:fs.toList.length=fs.size:=rfl;have:fs'.toList.length=fs'.size:=rfl;omega
  subst hfs;have g0:cs.toList[0]?=some (cs.getD 0 undef):=by
   have:0<cs.size:=oM;simp [Array.getD_eq_getD_getElem?,this]
  have g1:cs.toList[1]?=some (cs.getD 1 undef):=by
   have:1<cs.size:=oM;simp [Array.getD_eq_getD_getElem?,this]
  obtain⟨v75',m0,y0⟩:=VRs.get ⟨h3,h4⟩ g0;obtain⟨v3',m1,y1⟩:=VRs.get ⟨h3,h4⟩ g1;have hcs:cs'= #[v75',v3']:=by
   apply Array.toList_inj.1;have hl:cs'.toList.length=2:=by rw[←h3];exact c2
   match hq:cs'.toList,hl with
   |[x,y],_=>
    rw[hq]at m0 m1;simp only[List.getElem?_cons_zero,List.getElem?_cons_succ,Option.some.injEq]at m0 m1;rw[m0,m1]
  subst hcs;obtain⟨k1,k2,k3⟩:=c6;obtain⟨p75,i75,q',e1,r2,r3⟩:=X1 hW y0 k1;obtain⟨p3,i3,_,e2,_,_⟩:=X1 hW y1 k2;obtain⟨rb,ro,s9,e3,r9,r10⟩:=X1 hW r3 c5;obtain⟨sa',sc',rfl⟩:=nX c3 r10;refine⟨#[v75',v3'],Rd p75 i75 p3 i3 rb ro _ _ _,rfl,fun φ' H' W' hx hW' hok=>nJ hx c3 hW' hok y0 y1 r3 c5 e1 e2 e3,fun W0 hW0=>?_⟩;intro l J Jx hJd hY hJ;have hR:=nJ (Ext.refl φ) c3 hW0 ⟨k1,k2,k3⟩ y0 y1 r3 c5 e1 e2 e3;obtain⟨rb2,ro2,s92,f3,r92,r102⟩:=X1 hW0 r3 c5;rw[e3]at f3;cases f3;obtain⟨sa2,sc2,rfl⟩:=nX c3 r102;rw[e1,e2];exact yf 2 l p75 i75 p3 i3 rb ro _ _ _ J Jx c4 (fun i=>CW _) hJd (fun pre x W hp hj=>hY pre x W hp hj) W0 hR sa2 sc2 r92 hJ
noncomputable def AR:LV→d9→Option (Value×Option d9):=jV prog t6 vw vx kx ky nh 12 13 59 [.cell 4 4] pg
noncomputable def fK:Lib:=fun f=>if f=34 then some AR else none
theorem vF:mO prog t6:=fun g f h=>by cases h
theorem GH:prog.follows .mixedOrders=true:=kR
theorem En:mO prog fK:=by
 intro g f h;unfold fK at h;split at h
 rotate_left
 ·cases h
 rename_i hg;cases h;subst hg;have:=BN (f:=34) GH vF Mz GY Nn ag0 ag1 Xw Xx ag2 ah2 Ol (it:=pg) (g:= .tmp 11) fun h hE hW=>Xv h hE hW;rw[ah1,ah6]at this;exact this
theorem fx{f:FuncId}{args:LV}{H:d9}{r:Value×Option d9}(h:CL prog t6 f args H=some r):CL prog fK f args H=some r:=by
 refine Cw (fun f=>?_) _ _ _ _ h;unfold fK;by_cases hf:f=34
 ·subst hf;exact .inr ⟨rfl,Xp⟩
 ·rw[if_neg hf];exact .inl rfl
theorem Ya(args:LV)(H:d9):CL prog fK 34 args H=AR args H:=GO (by unfold fK;rw[if_pos rfl]) args H
theorem ej(size a b:Int):∀(l:List EvD)(i:Nat)(r:ReD),(Q0 size a b l i r).1.strat=r.strat∧(Q0 size a b l i r).1.labels=r.labels∧r.size<+:(Q0 size a b l i r).1.size
 |[],i,r=>⟨rfl,rfl,List.prefix_rfl⟩
 |e::l,i,r=>by
  rw[Q0];obtain⟨p1,p2,p3,_⟩:=fy r (Y8 r.strat e (r.sorts.getD a.toNat soZ) (r.sorts.getD b.toNat soZ)) size (i,a,b);split
  ·split
   ·obtain⟨q1,q2,q3⟩:=ej size a b l (i+1) (aQ r (Y8 r.strat e (r.sorts.getD a.toNat soZ) (r.sorts.getD b.toNat soZ)) size (i,a,b)).1;exact⟨q1.trans p1,q2.trans p2,p3.trans q3⟩
   ·exact⟨p1,p2,p3⟩
  ·exact ej size a b l (i+1) r
def cD(size:Int):List (Nat×Nat)→ReD→ReD×Bool
 |[],r=>(r,true)
 |x::l,r=>if(Q0 size x.1 x.2 r.labels 0 r).2 then cD size l (Q0 size x.1 x.2 r.labels 0 r).1 else((Q0 size x.1 x.2 r.labels 0 r).1,false)
def jm(r:ReD)(size:Int):ReD×Bool:=cD size (ch (fun i=>r.size.getD i 0) size r.sorts.length r.sorts.length) r
theorem sD{f g:Nat→Int}{size:Int}{m:Nat}(h:∀i,i<m→f i=g i):∀a,a≤m→ch f size m a=ch g size m a:=by
 intro a ha;unfold ch;have:∀x∈List.range a,gX f size x m=gX g size x m:=fun x hx=>by
  unfold gX
  congr 1
  refine List.filter_congr fun y hy=>?_;rw[h x (by have:=List.mem_range.1 hx;omega),h y (List.mem_range.1 hy)]
 rw[List.flatMap_def,List.flatMap_def,List.map_congr_left this]
section
variable(Hs:d9)(lo K:Nat)(rb lw:Nat)(G:Nat→Prop)(rs:List Value)(vl:Value)(W0:List Value)(Hb:d9)(b2 b3 b4:Nat)(size:Int)(h0:0≤size)(n:Nat)(hbox:yU Hb rb lw W0 b2 b3 b4 size)(hlo:lo≤lw)(heq:∀j,j<lo→Hb.get j=Hs.get j)
include h0 hbox hlo heq
theorem EY(a b:Int)(e:Env)(H:d9)(r:ReD)(x1 x2 x3:Value)(f2:e.get 2=pT b2)(f3:e.get 3=pT b3)(f4:e.get 4=pT b4)(f5:e.get 5=iV a)(f6:e.get 6=iV b)
  (hR:R0 (QR Hs lo K false) (QR Hs lo K true) H rb lw G r rs vl x1 x2 x3) (hT:Z1 rb lw W0 Hb [x1,x2,x3] H) (hwf:WfR r n):
  u9 (LE prog t6 ky e H) (fun o e H=>(o= .normal∧(Q0 size a b r.labels 0 r).2=true∧∃x1 x2 x3,R0 (QR Hs lo K false) (QR Hs lo K true) H rb lw G (Q0 size a b r.labels 0 r).1 rs vl x1 x2 x3∧Z1 rb lw W0 Hb [x1,x2,x3] H∧WfR (Q0 size a b r.labels 0 r).1 n)∨(o= .ret∧(Q0 size a b r.labels 0 r).2=false∧H.get b4=cE [.bool false] 1∧i4 lw Hb H)):=by
 obtain⟨g2,g3,w4,g4⟩:=hbox.at_ hT;have gr:=hR.g;obtain⟨q8,q9,q10,q11⟩:=hR.at_;obtain⟨row,hrow⟩:∃q,q=rs++[vl,x1,x2,x3]:=⟨_,rfl⟩
 rw[←hrow]at gr q8;obtain⟨va,vc,hvl⟩:=hR.lb.slice;rw[hvl]at q8;refine J4 f2 g2 gr q8 ?_;refine l9 (F:=fun z=>u9 (inBlock 1 (inBlock 2 z)) _) (qU Hs lo K rb lw G rs vl W0 Hb b2 b3 b4 size a b h0 n hbox hlo heq va vc r.labels hvl (Q0 size a b r.labels 0 r) (r.labels.length-0) _ _ ⟨0,r,x1,x2,x3,rfl,Nat.zero_le _,f2,f3,f4,f5,f6,hvl.symm,rfl,rfl,rfl,hR,hT,hwf,by rw[List.drop_zero]⟩) ?_;rintro o' e' H' (⟨ho,h1,h2⟩|⟨ho,h1,h2⟩)
 ·have:inBlock 1 (inBlock 2 (some (o',e',H')))=some (.normal,e',H'):=by rw[ho];rfl
  rw[this,cQ];exact .inl ⟨rfl,h1,h2⟩
 ·have:inBlock 1 (inBlock 2 (some (o',e',H')))=some (.ret,e',H'):=by rw[ho];rfl
  rw[this,cQ];exact .inr ⟨rfl,h1,h2⟩
theorem rG(e:Env)(f2:e.get 2=pT b2)(f3:e.get 3=pT b3)(f4:e.get 4=pT b4)(ok:d9→Prop)(s0:List Int)(hok:∀H r x1 x2 x3,R0 (QR Hs lo K false) (QR Hs lo K true) H rb lw G r rs vl x1 x2 x3→Z1 rb lw W0 Hb [x1,x2,x3] H→s0<+:r.size→ok H):
  ∀(L:List (Nat×Nat))(H:d9)(r:ReD)(x1 x2 x3:Value),R0 (QR Hs lo K false) (QR Hs lo K true) H rb lw G r rs vl x1 x2 x3→Z1 rb lw W0 Hb [x1,x2,x3] H→WfR r n→s0<+:r.size→
   ∃o H',aw prog t6 kx ky 12 13 e ok L H=some (o,H')∧((o= .normal∧(cD size L r).2=true∧∃x1 x2 x3,R0 (QR Hs lo K false) (QR Hs lo K true) H' rb lw G (cD size L r).1 rs vl x1 x2 x3∧Z1 rb lw W0 Hb [x1,x2,x3] H'∧WfR (cD size L r).1 n)∨(o= .ret∧(cD size L r).2=false∧H'.get b4=cE [.bool false] 1∧i4 lw Hb H'))
 |[],H,r,x1,x2,x3,hR,hT,hwf,hs=>⟨.normal,H,rfl,.inl ⟨rfl,rfl,x1,x2,x3,hR,hT,hwf⟩⟩
 |x::L,H,r,x1,x2,x3,hR,hT,hwf,hs=>by
  have hA:LE prog t6 kx ((13,iV (x.2:Int))::(12,iV (x.1:Int))::e) H=some (.normal,(6,iV (x.2:Int))::(5,iV (x.1:Int))::(13,iV (x.2:Int))::(12,iV (x.1:Int))::e,H):=by
   simp(maxSteps:=20000000) -dsimp (disch:=first|omega|(simp only[rH]<;>omega)|fail) only[↓ai3,rQ,D8,sevalprocAttr,tyA,]
  obtain⟨o,e2,H2,hB,hres⟩:=EY Hs lo K rb lw G rs vl W0 Hb b2 b3 b4 size h0 n hbox hlo heq x.1 x.2 ((6,iV (x.2:Int))::(5,iV (x.1:Int))::(13,iV (x.2:Int))::(12,iV (x.1:Int))::e) H r x1 x2 x3 f2 f3 f4 rfl rfl hR hT hwf;rcases hres with⟨rfl,h1,y1,y2,y3,hR2,hT2,hwf2⟩|⟨rfl,h1,h2,h3⟩
  ·have hs2:s0<+:(Q0 size x.1 x.2 r.labels 0 r).1.size:=hs.trans (ej size x.1 x.2 r.labels 0 r).2.2;obtain⟨o',H',k1,k2⟩:=rG e f2 f3 f4 ok s0 hok L H2 _ y1 y2 y3 hR2 hT2 hwf2 hs2;refine⟨o',H',?_,?_⟩
   ·simp only[aw,hA,hB,if_pos (hok H2 _ y1 y2 y3 hR2 hT2 hs2)];exact k1
   ·rw[cD,if_pos h1];exact k2
  ·refine⟨.ret,H2,?_,.inr ⟨rfl,?_,h2,h3⟩⟩
   ·simp only[aw,hA,hB]
   ·rw[cD,h1];rfl
end
theorem Ee{e:Env}{H:d9}{v75 v3 q:Value}{size:Int}{sa:Option Addr}{m c len cap:Nat}{a:Addr}(h11:e.get 11= .func (.func 84) #[] #[v75,v3])(h1:ldc H v75 0=some q)(h3:ldc H v3 0=some (.int .i64 size))(h9:ldc H q 9=some (.slice sa m c))(hm:1≤m∧m≤1000)(h10:ldc H q 10=some (.slice (some a) len cap))(hlen:m≤len)(ss:Nat→Int)(hss:∀i,i<m→ldc H (.pointer (some a)) i=some (.int .i64 (ss i))) (hb:∀i,i<m→0≤ss i∧ss i≤1000000):
  pg e H=some (ch ss size m m,okP v75 v3 q m (fun i=>gj (iL (atA H (ldc H q 10) i))) size):=by
 have hc:∀i,i<m→gj (iL (atA H (ldc H q 10) i))=ss i:=fun i hi=>by
  rw[h10];show gj (iL (ldc H (.pointer (some a)) i))=_;rw[hss i hi,iL,gj,if_pos (hb i hi)]
 have e9:lnA (ldc H q 9)=m:=by rw[h9];rfl
 have e3:iL (ldc H v3 0)=size:=by rw[h3];rfl
 have e0:(#[v75,v3]:Array Value).getD 0 undef=v75:=rfl;have e1:(#[v75,v3]:Array Value).getD 1 undef=v3:=rfl;have eq:(ldc H v75 0).getD undef=q:=by rw[h1];rfl
 unfold pg;simp only[h11];rw[e0,e1,eq,e9,e3];rw[if_pos ⟨rfl,rfl,hm.1,hm.2,⟨sa,c,h9⟩,h1,h3,a,len,cap,h10,hlen,fun i hi=>by show ldc H (.pointer (some a)) i=some (.int .i64 (gj (iL (atA H (ldc H q 10) i))));rw[hc i hi];exact hss i hi⟩];rw[sD hc m (Nat.le_refl m)]
theorem GL{H:d9}{lo:Nat}{w:Value}{l:List Int}(hO:t7 H lo 1 (v8 inE) w l)(h:1≤l.length):∃a c,w= .slice (some a) l.length c∧∀i,i<l.length→ldc H (.pointer (some a)) i=some (.int .i64 (l.getD i 0)):=by
 have hs:=hO.sl;obtain⟨sa,c,rfl⟩:=hs.slice;obtain⟨_,nb,o,_,_,_,_,_,rfl,_,_,_,_,_,_⟩:=hs.row (i:=0) oM;refine⟨_,c,rfl,fun i hi=>?_⟩;obtain⟨y,nb',o',cs,own,el,hx,hd,e1,hlt,hg,hle,hrow,hc,rfl⟩:=hs.row (i:=i) hi;cases e1;have c0:=hc 0 oM;rw[Nat.add_zero,Nat.mul_one]at c0;unfold ldc;simp only[hg,c0];rw[List.getD_eq_getElem?_getD,hx];rfl
theorem R0.back{Rp Rt:LV→Q→Prop}{H H':d9}{rb lw:Nat}{G:Nat→Prop}{r r0:ReD}{rs:LV}{vl x1 x2 x3 w1 w2 w3:Value}(h:R0 Rp Rt H' rb lw G r rs vl x1 x2 x3)(hR:R0 Rp Rt H rb lw G r0 rs vl w1 w2 w3)(same:∀j,j<H.next→H'.get j=H.get j):x1=w1∧x2=w2∧x3=w3∧R0 Rp Rt H rb lw G r rs vl w1 w2 w3:=by
 have hg:=h.g;rw[same rb (u6 hR.g),hR.g]at hg;simp only[Option.some.injEq,Blk.cells.injEq,List.append_cancel_left_eq,List.cons.injEq,and_true,true_and]at hg;obtain⟨rfl,rfl,rfl⟩:=hg;have sG:∀j,G j→H.get j=H'.get j:=fun j hj=>(same j (hR.fr j hj).1).symm;have sW:∀w∈ [w1,w2,w3],∀b,j9 w b→H.get b=H'.get b:=fun w hw b hb=>(same b (hR.inl hw hb).2.2).symm;exact⟨rfl,rfl,rfl,hR.g,h.st.mono sG (fun _ h=>h) iF iF,h.lb.mono sG (fun _ h=>h) (fun _ _ q=>w9 _ _ _ _ _ _ q sG (fun _ h=>h)),h.so.same (sW w1 (by simp)),h.sz.same (sW w2 (by simp)),h.ho.same (sW w3 (by simp)),h.ap,hR.fr,hR.nb⟩
theorem R0.side{Rp Rt:LV→Q→Prop}{H H':d9}{rb lw:Nat}{G:Nat→Prop}{r:ReD}{rs:LV}{vl w1 w2 w3:Value}(h:R0 Rp Rt H rb lw G r rs vl w1 w2 w3){b:Nat}(hb:b≠rb∧¬G b∧∀w∈ [w1,w2,w3],¬j9 w b) (hn:H.next≤H'.next) (same:∀j,j≠b→H'.get j=H.get j):R0 Rp Rt H' rb lw G r rs vl w1 w2 w3:=by
 have sG:∀j,G j→H'.get j=H.get j:=fun j hj=>same j fun q=>hb.2.1 (q▸hj);have sW:∀w∈ [w1,w2,w3],∀j,j9 w j→H'.get j=H.get j:=fun w hw j hj=>same j fun q=>hb.2.2 w hw (q▸hj);exact⟨(same rb fun q=>hb.1 q.symm).trans h.g,h.st.mono sG (fun _ h=>h) iF iF,h.lb.mono sG (fun _ h=>h) (fun _ _ q=>w9 _ _ _ _ _ _ q sG (fun _ h=>h)),h.so.same (sW w1 (by simp)),h.sz.same (sW w2 (by simp)),h.ho.same (sW w3 (by simp)),h.ap,fun j hj=>by have:=h.fr j hj;exact⟨oM,this.2⟩,h.nb⟩
theorem XI(H:d9)(rb:Nat)(size:Int):CL prog t6 61 [pT rb,iV size] H=some (.func (.func 84) #[] #[pT H.next,.pointer (some ⟨H.next+1,0,none⟩)],some ⟨H.bs++[.cells [pT rb] true 1]++[.cells [iV size] true 1],min H.low H.next⟩):=by
 rw[j8 ac9 rfl _ (by simp)];refine J1 XX ?_;rfl
def Cx(Hs:d9)(lo K:Nat)(rb lw:Nat)(G:Nat→Prop)(rs:LV)(vl w1 w2 w3:Value)(n:Nat)(H:d9)(z:ReD×Bool):Value→d9→Prop:=fun v H'=>
 v= .bool z.2∧i4 lw H H'∧(z.2=true→∃x1 x2 x3,R0 (QR Hs lo K false) (QR Hs lo K true) H' rb lw G z.1 rs vl x1 x2 x3∧Z1 rb lw [w1,w2,w3] H [x1,x2,x3] H'∧WfR z.1 n)
theorem MG(Hs:d9)(lo K:Nat)(H:d9)(rb lw:Nat)(G:Nat→Prop)(rs:LV)(vl w1 w2 w3:Value)(size:Int)(h0:0≤size)(n:Nat)(hlo:lo≤lw)(heq:∀j,j<lo→H.get j=Hs.get j) (r:ReD) (hR:R0 (QR Hs lo K false) (QR Hs lo K true) H rb lw G r rs vl w1 w2 w3) (hwf:WfR r n):
  Ret (CL prog fK 34 [pT rb,iV size] H) H (Cx Hs lo K rb lw G rs vl w1 w2 w3 n H (jm r size)):=by
 obtain⟨H1,hH1,n1,-⟩:=pushF H (.cells [pT rb] true 1);obtain⟨H2,hH2⟩:∃K,K=H1.push (.cells [iV size] true 1):=⟨_,rfl⟩
 have n2:H2.next=H.next+2:=by rw[hH2,i5,n1]
 obtain⟨H3,hH3⟩:∃K,K=H2.push (.cells [.bool false] true 1):=⟨_,rfl⟩
 have n3:H3.next=H.next+3:=by rw[hH3,i5,n2]
 have g2:H3.get H.next=cE [pT rb] 1:=by rw[hH3,j6 oM,hH2,j6 oM,hH1];exact i7
 have g3:H3.get (H.next+1)=cE [iV size] 1:=by rw[hH3,j6 oM,hH2,←n1];exact i7
 have g4:H3.get (H.next+2)=cE [.bool false] 1:=by rw[hH3,←n2];exact i7
 have r61:=XI H3 rb size;obtain⟨H5,hH5⟩:∃K:d9,K=⟨H3.bs++[.cells [pT rb] true 1]++[.cells [iV size] true 1],min H3.low H3.next⟩:=⟨_,rfl⟩
 rw[←hH5]at r61;rw[Ya];unfold AR jV;rw[if_pos (by simp)];have hE:∃e2,pC prog t6 vw vx kx ky nh 12 13 pg (D8 0 [pT rb,iV size]) ⟨H.bs,H.next⟩=(match pg e2 H5 with
   |some (L,ok)=>match aw prog t6 kx ky 12 13 e2 ok L H5 with
    |some (.normal,H3)=>LE prog t6 nh e2 H3
    |some (.ret,H3)=>some (.ret,e2,H3)
    |_=>none
   |none=>none)∧e2.get 2=pT H.next∧e2.get 3= .pointer (some ⟨H.next+1,0,none⟩)∧e2.get 4= .pointer (some ⟨H.next+2,0,none⟩)∧e2.get 11= .func (.func 84) #[] #[.pointer (some ⟨H.next+3,0,none⟩),.pointer (some ⟨H.next+4,0,none⟩)]:=by
  have ha:∃e1,LE prog t6 vw (D8 0 [pT rb,iV size]) ⟨H.bs,H.next⟩=some (.normal,e1,H3)∧e1.get 2=pT H.next∧e1.get 3= .pointer (some ⟨H.next+1,0,none⟩)∧e1.get 4= .pointer (some ⟨H.next+2,0,none⟩):=by
   refine J5 hH1.symm n1 hH2.symm n2 hH3.symm ?_;exact⟨_,rfl,rfl,rfl,rfl⟩
  obtain⟨e1,ha,p2,p3,p4⟩:=ha;have hb:∃e2,LE prog t6 vx e1 H3=some (.normal,e2,H5)∧e2.get 2=pT H.next∧e2.get 3= .pointer (some ⟨H.next+1,0,none⟩)∧e2.get 4= .pointer (some ⟨H.next+2,0,none⟩)∧e2.get 11= .func (.func 84) #[] #[.pointer (some ⟨H.next+3,0,none⟩),.pointer (some ⟨H.next+4,0,none⟩)]:=by
   rw[n3]at r61;refine J5 p2 p3 g2 g3 r61 ?_;exact⟨_,rfl,p2,p3,p4,rfl⟩
  obtain⟨e2,hb,p⟩:=hb;refine⟨e2,?_,p⟩;unfold pC;simp only[ha,hb];rfl
 obtain⟨e2,hE,p2,p3,p4,p11⟩:=hE;rw[hE];have b5:H5.bs=((H3.push (.cells [pT rb] true 1)).push (.cells [iV size] true 1)).bs:=by rw[hH5];rfl
 have low3:H3.low=H.next:=by rw[hH3,hH2,hH1];rfl
 have low5:H5.low=H.next:=by rw[hH5];show min H3.low H3.next=_;omega
 have n5:H5.next=H.next+5:=by
  show H5.bs.length=_;rw[b5];simp only[d9.push,List.length_append,List.length_singleton];have:H3.bs.length=H.next+3:=n3;omega
 have g5:∀j,H5.get j=((H3.push (.cells [pT rb] true 1)).push (.cells [iV size] true 1)).get j:=fun j=>by show H5.bs[j]?=_;rw[b5];rfl
 have o5:∀j,j<H3.next→H5.get j=H3.get j:=fun j hj=>by rw[g5,j6 (by rw[i5];omega),j6 hj]
 have a3:H5.get (H.next+3)=cE [pT rb] 1:=by rw[g5,j6 (by rw[i5];omega),←n3];exact i7
 have a4:H5.get (H.next+4)=cE [iV size] 1:=by
  have e4:H.next+4=(H3.push (.cells [pT rb] true 1)).next:=by rw[i5];omega
  rw[g5,e4];exact i7
 have old:∀j,j<H.next→H5.get j=H.get j:=fun j hj=>by rw[o5 j oM,hH3,j6 oM,hH2,j6 oM,hH1,j6 (by exact hj)];rfl
 have hS:i4 H.next H H5:=⟨oM,fun k hk _=>oM,old⟩
 have hR5:=hR.keep hS;have hrb:=u6 hR.g;have hnb:=hR.nb.1;obtain⟨q8,q9,q10,q11⟩:=hR5.at_;obtain⟨s1,c1,e1⟩:=hR5.so.slice;have hm1:=hwf.l0;have hm2:=hwf.l1;have hm3:=hwf.l2;obtain⟨s2,c2,e2s,z2⟩:=GL hR5.sz oM;have k1:ldc H5 (.pointer (some ⟨H.next+3,0,none⟩)) 0=some (pT rb):=by unfold ldc;simp only[a3];rfl
 have k3:ldc H5 (.pointer (some ⟨H.next+4,0,none⟩)) 0=some (.int .i64 size):=by unfold ldc;simp only[a4];rfl
 have k9:ldc H5 (pT rb) 9=some (.slice s1 r.sorts.length c1):=by unfold ldc;simp only[hR5.g,Nat.zero_add];rw[q9,e1]
 have k10:ldc H5 (pT rb) 10=some (.slice (some s2) r.size.length c2):=by unfold ldc;simp only[hR5.g,Nat.zero_add];rw[q10,e2s]
 have hnn:∀i,i<r.sorts.length→0≤r.size.getD i 0∧r.size.getD i 0≤1000000:=fun i hi=>by
  have hi2:i<r.size.length:=oM;have hmem:r.size.getD i 0∈r.size:=by rw[List.getD_eq_getElem?_getD,List.getElem?_eq_getElem hi2];exact List.getElem_mem hi2
  have:=hwf.sb _ hmem;omega
 have hit:=Ee p11 k1 k3 k9 ⟨hm1,oM⟩ k10 oM (fun i=>r.size.getD i 0) (fun i hi=>z2 i oM) hnn;obtain⟨ok,hok⟩:∃ok,ok=okP (.pointer (some ⟨H.next+3,0,none⟩)) (.pointer (some ⟨H.next+4,0,none⟩)) (pT rb) r.sorts.length (fun i=>gj (iL (atA H5 (ldc H5 (pT rb) 10) i))) size:=⟨_,rfl⟩
 rw[←hok]at hit;have hcap:∀i,i<r.sorts.length→gj (iL (atA H5 (ldc H5 (pT rb) 10) i))=r.size.getD i 0:=fun i hi=>by
  rw[k10];show gj (iL (ldc H5 (.pointer (some s2)) i))=_;rw[z2 i oM,iL,gj,if_pos (hnn i hi)]
 have nW:∀j,H.next≤j→∀w∈ [w1,w2,w3],¬j9 w j:=fun j hj w hw q=>by have:=(hR.inl hw q).2.2;omega
 have hokS:∀H' r' x1 x2 x3,R0 (QR Hs lo K false) (QR Hs lo K true) H' rb lw G r' rs vl x1 x2 x3→Z1 rb lw [w1,w2,w3] H5 [x1,x2,x3] H'→r.size<+:r'.size→ok H':=by
  intro H' r' x1 x2 x3 h1 h2 h3;have hl:=h3.length_le;obtain⟨t8,t9,t10,t11⟩:=h1.at_;obtain⟨s,c,es,zs⟩:=GL h1.sz oM;rw[hok];have b3:H'.get (H.next+3)=H5.get (H.next+3):=h2.but _ oM oM (nW _ oM);have b4:H'.get (H.next+4)=H5.get (H.next+4):=h2.but _ oM oM (nW _ oM);refine⟨by unfold ldc;simp only[b3,a3];rfl,by unfold ldc;simp only[b4,a4];rfl,s,r'.size.length,c,by unfold ldc;simp only[h1.g,Nat.zero_add];rw[t10,es],oM,fun i hi=>?_⟩;rw[zs i oM];show _=some (iV (gj (iL (atA H5 (ldc H5 (pT rb) 10) i))));rw[hcap i hi];obtain⟨t,ht⟩:=h3;rw[←ht,List.getD_eq_getElem?_getD,List.getD_eq_getElem?_getD,List.getElem?_append_left oM]
 have hbox:yU H5 rb lw [w1,w2,w3] H.next (H.next+1) (H.next+2) size:=⟨by rw[o5 _ oM];exact g2,by rw[o5 _ oM];exact g3,⟨_,by rw[o5 _ oM];exact g4⟩,fun j hj=>⟨oM,oM,nW j oM⟩⟩
 obtain⟨o,H',hr,hres⟩:=rG Hs lo K rb lw G rs vl [w1,w2,w3] H5 H.next (H.next+1) (H.next+2) size h0 n hbox hlo (fun j hj=>by rw[old j oM];exact heq j hj) e2 p2 p3 p4 ok r.size hokS (ch (fun i=>r.size.getD i 0) size r.sorts.length r.sorts.length) H5 r w1 w2 w3 hR5 (Z1.refl _ _ _ _) hwf List.prefix_rfl;obtain⟨kk,hkk⟩:=dt Xw Xx _ _ hr;have hle:=bh (sj GH vF (Bs.lt 0) default) _ _ hkk;have hz:cD size (ch (fun i=>r.size.getD i 0) size r.sorts.length r.sorts.length) r=jm r size:=rfl;rw[hz]at hres;have e0:(match pg e2 H5 with
   |some (L,ok)=>match aw prog t6 kx ky 12 13 e2 ok L H5 with
    |some (.normal,H3)=>LE prog t6 nh e2 H3
    |some (.ret,H3)=>some (.ret,e2,H3)
    |_=>none
   |none=>none)=(match(some (o,H'):Option (Out×d9))with
    |some (.normal,H3)=>LE prog t6 nh e2 H3
    |some (.ret,H3)=>some (.ret,e2,H3)
    |_=>none):=by rw[hit];simp only[hr]
 rw[e0];rcases hres with⟨rfl,h1,x1,x2,x3,hR',hT',hwf'⟩|⟨rfl,h1,h2,h3⟩
 ·have b4:H'.get (H.next+2)=cE [.bool false] 1:=by rw[hT'.but _ oM oM (nW _ oM),o5 _ oM];exact g4
  obtain⟨H6,hH6⟩:∃K,K=H'.put (H.next+2) (.cells [.bool true] true 1):=⟨_,rfl⟩
  have nn:=hT'.stay.next;have c6:H6.get (H.next+2)=cE [.bool true] 1:=by rw[hH6];exact i8 oM
  have d6:∀j,j≠H.next+2→H6.get j=H'.get j:=fun j hj=>by rw[hH6];exact i9 (fun q=>hj q.symm)
  have n6:H6.next=H'.next:=by rw[hH6,j5]
  have l6:H6.low=min H'.low (H.next+2):=by rw[hH6,A4]
  simp only;refine J4 p4 b4 hH6.symm c6 ?_;refine D7 (fun _ hl=>?_) ?_
  ·have hl':H.next≤H'.low:=oM;have same:∀j,j<H.next→H'.get j=H.get j:=fun j hj=>by
    have:=hle.same j oM (by show j<H5.next;omega);exact this.trans (old j hj)
   obtain⟨_,_,_,hback⟩:=hR'.back hR same;exact⟨by rw[h1],i4.refl _ _,fun _=>⟨w1,w2,w3,hback,Z1.refl _ _ _ _,hwf'⟩⟩
  ·have hst:i4 lw H ⟨H6.bs,min H.low H6.low⟩:=by
    refine⟨by show H.next≤H6.next;omega,fun k hk q=>?_,fun j hj=>?_⟩
    ·have:=hT'.stay.lowAll k hk oM;show k≤min H.low H6.low;omega
    ·show H6.get j=H.get j;rw[d6 j oM,hT'.stay.get j hj,old j oM]
   refine⟨by rw[h1],hst,fun _=>⟨x1,x2,x3,?_,⟨fun j hj e1 e2=>?_,fun b hb=>?_,hst⟩,hwf'⟩⟩
   ·refine hR'.side (b:=H.next+2) ⟨oM,fun q=>by have:=(hR.fr _ q).1;omega,fun w hw q=>?_⟩ (by show H'.next≤H6.next;omega) d6;rcases hT'.new _ ⟨w,hw,q⟩with⟨w',hw',q'⟩|q'
    ·exact nW _ oM w' hw' q'
    ·omega
   ·show H6.get j=H.get j;rw[d6 j oM,hT'.but j oM e1 e2,old j hj]
   ·rcases hT'.new b hb with q|q
    ·exact .inl q
    ·exact .inr oM
 ·simp only;refine J2 p4 h2 ?_;refine D7 (fun _ hl=>⟨by rw[h1],i4.refl _ _,fun q=>by rw[h1]at q;cases q⟩) ⟨by rw[h1],⟨?_,fun k hk q=>?_,fun j hj=>?_⟩,fun q=>by rw[h1]at q;cases q⟩
  ·have:=h3.next;show H.next≤H'.next;omega
  ·have:=h3.lowAll k hk oM;show k≤min H.low H'.low;omega
  ·show H'.get j=H.get j;rw[h3.get j hj,old j oM]
def PE(p:PrD):Prop:=0≤p.st∧∀x∈p.ed,0≤x.1∧x.1<p.st∧0≤x.2.1∧x.2.1<p.st∧(x.2.2.1=3→0≤x.2.2.2∧x.2.2.2<p.ts.length)
theorem PE.edge{p:PrD}(h:PE p){f t:Int}(hf:0≤f∧f<p.st)(ht:0≤t∧t<p.st):PE (p.edge f t 0 0):=by
 refine⟨h.1,fun x hx=>?_⟩;rcases List.mem_append.1 hx with q|q
 ·exact h.2 x q
 ·rw[List.mem_singleton.1 q];exact⟨hf.1,hf.2,ht.1,ht.2,fun q=>by cases q⟩
theorem PE.more{p:PrD}(h:PE p)(d:Int)(hd:0≤d):PE {p with st:=p.st+d}:=by
 refine⟨by show 0≤p.st+d;have:=h.1;omega,fun x hx=>?_⟩;obtain⟨h1,h2,h3,h4,h5⟩:=h.2 x hx;exact⟨h1,by show x.1<p.st+d;omega,h3,by show x.2.1<p.st+d;omega,h5⟩
theorem PE.fold{t:Int}:∀(l:List Int){p:PrD},PE p→(0≤t∧t<p.st)→(∀x∈l,0≤x∧x<p.st)→PE (l.foldl (fun m x=>m.edge x t 0 0) p)
 |[],p,h,_,_=>h
 |x::l,p,h,ht,hl=>by
  rw[List.foldl_cons];exact PE.fold l (h.edge (hl x (by simp)) ht) ht fun y hy=>hl y (by simp [hy])
def PW(p:PrD)(r:PrD×Int×Int):Prop:=PE r.1∧p.st≤r.1.st∧p.ts.length≤r.1.ts.length∧0≤r.2.1∧r.2.1<r.1.st∧0≤r.2.2∧r.2.2<r.1.st
mutual
theorem gh:∀(q:Q)(p:PrD),OkD false q→PE p→PW p (C5 q p)
 | .mk o s c v a b,p,hok,hp=>by
  obtain⟨ha,hb,h1,h2,h3⟩:=hok.parts;obtain⟨n1,n2,n3,n4⟩:=dk h3;have l4:o=4→1≤a.length:=by
   rintro rfl;have:(2:Int)≤a.length:=n1;omega
  have l6:o=6→1≤a.length:=by
   rintro rfl;have:(1:Int)≤a.length:=n1;omega
  simp only[Q.op,Q.a,Q.b,Bool.false_eq_true,if_false]at ha hb h1 n3 n4;have hp0:=hp.1;rw[C5];split
  ·rename_i ho;exact Fd a p (l4 ho) ha hp
  ·rename_i ho4;split
   ·rename_i ho;obtain⟨k1,k2,k3,k4⟩:=vg a p.st {p with st:=p.st+1} [] ha (hp.more 1 oM) ⟨hp.1,by show p.st<p.st+1;omega⟩ (fun e he=>by cases he);obtain⟨f1,f2,_⟩:=iB (L5 a p.st {p with st:=p.st+1} []).1.st (L5 a p.st {p with st:=p.st+1} []).2 {(L5 a p.st {p with st:=p.st+1} []).1 with st:=(L5 a p.st {p with st:=p.st+1} []).1.st+1};have k2':p.st+1≤(L5 a p.st {p with st:=p.st+1} []).1.st:=k2;unfold PW;rw[f1,f2];refine⟨?_,by show p.st≤(L5 a p.st {p with st:=p.st+1} []).1.st+1;omega,k3,hp.1,by show p.st<(L5 a p.st {p with st:=p.st+1} []).1.st+1;omega,k1.1,by show(L5 a p.st {p with st:=p.st+1} []).1.st<(L5 a p.st {p with st:=p.st+1} []).1.st+1;omega⟩;refine PE.fold _ (k1.more 1 oM) ⟨k1.1,by show(L5 a p.st {p with st:=p.st+1} []).1.st<(L5 a p.st {p with st:=p.st+1} []).1.st+1;omega⟩ fun x hx=>?_;have:=k4 x hx;exact⟨this.1,by show x<(L5 a p.st {p with st:=p.st+1} []).1.st+1;omega⟩
   ·rename_i ho5;split
    ·rename_i ho;obtain⟨k1,k2,k3,k4,k5,k6,k7⟩:=EF a {p with st:=p.st+1} (l6 ho) ha (hp.more 1 oM);have k2':p.st+1≤(gS a {p with st:=p.st+1}).1.st:=k2;exact⟨(k1.edge ⟨hp.1,oM⟩ ⟨k4,k5⟩).edge ⟨k6,k7⟩ ⟨hp.1,by show p.st<(gS a {p with st:=p.st+1}).1.st;omega⟩,by show p.st≤(gS a {p with st:=p.st+1}).1.st;omega,k3,hp.1,by show p.st<(gS a {p with st:=p.st+1}).1.st;omega,hp.1,by show p.st<(gS a {p with st:=p.st+1}).1.st;omega⟩
    ·rename_i ho6;have hts:p.ts.length≤(if o=7 then p.ts++b else p.ts).length:=by
      split
      ·rw[List.length_append];omega
      ·exact lR
     refine⟨⟨by show 0≤p.st+2;omega,fun x hx=>?_⟩,by show p.st≤p.st+2;omega,hts,hp.1,by show p.st<p.st+2;omega,by show 0≤p.st+1;omega,by show p.st+1<p.st+2;omega⟩;rcases List.mem_append.1 hx with q|q
     ·obtain⟨e1,e2,e3,e4,e5⟩:=hp.2 x q;refine⟨e1,by show x.1<p.st+2;omega,e3,by show x.2.1<p.st+2;omega,fun h=>?_⟩;have:=e5 h;exact⟨this.1,by show x.2.2.2<((if o=7 then p.ts++b else p.ts).length:Int);omega⟩
     ·rw[List.mem_singleton.1 q];refine⟨hp.1,by show p.st<p.st+2;omega,by show 0≤p.st+1;omega,by show p.st+1<p.st+2;omega,fun h=>?_⟩;have h7:o=7:=by
       by_cases h7:o=7
       ·exact h7
       ·exfalso
        simp only[if_neg h7]at h;split at h
        ·cases h
        ·split at h<;>cases h
      show 0≤(if o=7 then(p.ts.length:Int) else 0)∧(if o=7 then(p.ts.length:Int) else 0)<((if o=7 then p.ts++b else p.ts).length:Int);rw[if_pos h7,if_pos h7,List.length_append];have:=n3.1 h7;omega
theorem Fd:∀(l:List Q)(p:PrD),1≤l.length→(∀x∈l,OkD false x)→PE p→PW p (hU l p)
 |[],p,h,_,_=>by simp at h
 |x::l,p,_,h,hp=>by
  rw[hU];exact vP l (C5 x p) p (fun y hy=>h y (by simp [hy])) (gh x p (h x (by simp)) hp)
theorem vP:∀(l:List Q)(x:PrD×Int×Int)(p:PrD),(∀y∈l,OkD false y)→PW p x→PW p (cP l x)
 |[],x,p,_,h=>by rw[cP];exact h
 |q::l,x,p,h,hx=>by
  rw[cP];obtain⟨k1,k2,k3,k4,k5,k6,k7⟩:=hx;obtain⟨m1,m2,m3,m4,m5,m6,m7⟩:=gh q x.1 (h q (by simp)) k1;refine vP l _ p (fun y hy=>h y (by simp [hy])) ⟨m1.edge ⟨k6,oM⟩ ⟨m4,m5⟩,by show p.st≤(C5 q x.1).1.st;omega,by show p.ts.length≤(C5 q x.1).1.ts.length;omega,k4,by show x.2.1<(C5 q x.1).1.st;omega,m6,m7⟩
theorem vg:∀(l:List Q)(n:Int)(p:PrD)(es:List Int),(∀y∈l,OkD false y)→PE p→(0≤n∧n<p.st)→(∀e∈es,0≤e∧e<p.st)→
  PE (L5 l n p es).1∧p.st≤(L5 l n p es).1.st∧p.ts.length≤(L5 l n p es).1.ts.length∧∀e∈(L5 l n p es).2,0≤e∧e<(L5 l n p es).1.st
 |[],n,p,es,_,hp,_,he=>by rw[L5];exact⟨hp,Int.le_refl _,lR,he⟩
 |x::l,n,p,es,h,hp,hn,he=>by
  rw[L5];obtain⟨m1,m2,m3,m4,m5,m6,m7⟩:=gh x p (h x (by simp)) hp;obtain⟨r1,r2,r3,r4⟩:=vg l n ((C5 x p).1.edge n (C5 x p).2.1 0 0) (es++[(C5 x p).2.2]) (fun y hy=>h y (by simp [hy])) (m1.edge ⟨hn.1,oM⟩ ⟨m4,m5⟩) ⟨hn.1,by show n<(C5 x p).1.st;omega⟩ (fun e hm=>by
   rcases List.mem_append.1 hm with q|q
   ·have:=he e q;exact⟨this.1,by show e<(C5 x p).1.st;omega⟩
   ·rw[List.mem_singleton.1 q];exact⟨m6,m7⟩)
  have r2':(C5 x p).1.st≤(L5 l n ((C5 x p).1.edge n (C5 x p).2.1 0 0) (es++[(C5 x p).2.2])).1.st:=r2;have r3':(C5 x p).1.ts.length≤(L5 l n ((C5 x p).1.edge n (C5 x p).2.1 0 0) (es++[(C5 x p).2.2])).1.ts.length:=r3;exact⟨r1,oM,oM,r4⟩
theorem EF:∀(l:List Q)(p:PrD),1≤l.length→(∀x∈l,OkD false x)→PE p→PW p (gS l p)
 |[],p,h,_,_=>by simp at h
 |x::l,p,_,h,hp=>by
  rw[gS];exact gh x p (h x (by simp)) hp
end
theorem zK(q:Q)(hok:OkD false q)(hn:nQ q≤100000):PWf (C0 q):=by
 obtain⟨h1,h2,h3,h4,h5,h6,h7⟩:=gh q ⟨0,0,0,[],[]⟩ hok ⟨Int.le_refl _,fun x hx=>by cases hx⟩;have hs:=cy q;exact⟨⟨hs.1,oM⟩,⟨h4,h5⟩,⟨h6,h7⟩,h1.2⟩
theorem nZ(q:Q)(hok:OkD false q)(hn:nQ q≤1000):0≤y9 (D0 q).progs∧y9 (D0 q).progs≤2000*((D0 q).progs.length:Int)∧∀(i:Nat) p b,(D0 q).progs[i]?=some p→(D0 q).base[i]?=some b→0≤b∧b+p.st≤y9 (D0 q).progs∧PWf p:=by
 obtain⟨h1,h2⟩:=bH _ false q lR hok;have key:∀(l:List Q)(s:StD),(∀x∈l,OkD false x∧nQ x≤nQ q)→s.base.length=s.progs.length→0≤y9 s.progs→y9 s.progs≤2000*(s.progs.length:Int)→(∀(i:Nat) p b,s.progs[i]?=some p→s.base[i]?=some b→0≤b∧b+p.st≤y9 s.progs∧PWf p)→
   0≤y9 (l.foldl F4 s).progs∧y9 (l.foldl F4 s).progs≤2000*((l.foldl F4 s).progs.length:Int)∧∀(i:Nat) p b,(l.foldl F4 s).progs[i]?=some p→(l.foldl F4 s).base[i]?=some b→0≤b∧b+p.st≤y9 (l.foldl F4 s).progs∧PWf p:=by
  intro l;induction l with
  |nil=>intro s _ _ h3 h4 h5;exact⟨h3,h4,h5⟩
  |cons x l ih=>
   intro s hx hb h3 h4 h5;rw[List.foldl_cons];have hx0:=hx x (by simp);have hc:=cy x;refine ih (F4 s x) (fun y hy=>hx y (by simp [hy])) ?_ ?_ ?_ ?_
   ·rw[F4];split
    ·exact hb
    ·simp [hb]
   ·rw[F4];split
    ·exact h3
    ·rw[X0];omega
   ·rw[F4];split
    ·exact h4
    ·rw[X0,List.length_append,List.length_singleton];omega
   ·rw[F4];split
    ·exact h5
    ·intro i p b hp hb';rw[X0];by_cases hi:i<s.progs.length
     ·rw[List.getElem?_append_left hi]at hp;rw[List.getElem?_append_left oM]at hb';obtain⟨a1,a2,a3⟩:=h5 i p b hp hb';exact⟨a1,oM,a3⟩
     ·have hil:i=s.progs.length:=by
       have:=(List.getElem?_eq_some_iff.1 hp).1;simp at this;omega
      rw[List.getElem?_append_right oM,hil,Nat.sub_self]at hp;rw[List.getElem?_append_right oM,hil,hb,Nat.sub_self]at hb';simp at hp hb';subst hp hb';exact⟨h3,Int.le_refl _,zK x hx0.1 oM⟩
 exact key (inQ false q) ⟨[],[],[],C0 q⟩ h2 rfl (Int.le_refl _) (by simp [y9]) (fun i p b hp=>by simp at hp)
theorem yG(q:Q)(hok:OkD false q)(hn:nQ q≤400):WfS (D0 q) (y9 (D0 q).progs).toNat:=by
 obtain⟨h1,h2,h3,h4⟩:=ii q hok;obtain⟨k1,k2,k3⟩:=nZ q hok oM;refine⟨h1,h2,oM,oM,fun i p b hp hb=>?_⟩;obtain⟨a1,a2,a3⟩:=k3 i p b hp hb;exact⟨a1,oM,a3⟩
theorem Ret.one{f:FuncId}{args:LV}{H H':d9}{Q:Value→d9→Prop}(h:Ret (CL prog t6 f args H) H' Q):Ret (CL prog fK f args H) H' Q:=by
 obtain⟨v,h0,H1,h1,h2,h3⟩:=h;exact⟨v,h0,H1,fx h1,h2,h3⟩
theorem Nj{a b:Int}(ha:0≤a∧a≤200)(hb:0≤b∧b≤200):0≤mx2 a b∧mx2 a b≤200:=by unfold mx2;split<;>assumption
theorem Nk:∀l:List Int,(∀x∈l,0≤x∧x≤200)→0≤mxL l∧mxL l≤200
 |[],_=>by simp [mxL]
 |x::l,h=>by
  have:∀(l:List Int)(m:Int),(∀x∈l,0≤x∧x≤200)→0≤m∧m≤200→0≤l.foldl mx2 m∧l.foldl mx2 m≤200:=by
   intro l;induction l with
   |nil=>intro m _ h;exact h
   |cons y l ih=>intro m hl hm;rw[List.foldl_cons];exact ih _ (fun z hz=>hl z (by simp [hz])) (Nj hm (hl y (by simp)))
  exact this l x (fun y hy=>h y (by simp [hy])) (h x (by simp))
def mD:Nat→ReD→Int→Option ReD
 |0,r,_=>some r
 |k+1,r,size=>if decide (size≤2*mxL r.size+1) then(if(jm r size).2 then mD k (jm r size).1 (size+1) else none) else some r
def z12:LV:=[nS,nS,nS,iV 0,iV 0,iV 0,nS,nS,nS,nS,nS,nS]
theorem uv(Hs:d9)(lo K:Nat)(rb lw:Nat)(G:Nat→Prop)(rs:LV)(vl:Value)(Hb:d9)(b2:Nat)(n:Nat)(hlo:lo≤lw)(heq:∀j,j<lo→Hb.get j=Hs.get j) (hb2:b2<lw) (g2:Hb.get b2=cE z12 1) (res:Option ReD):
  ∀kk e H,(∃(size:Int)(r:ReD)(x1 x2 x3:Value),kk=(402-size).toNat∧0≤size∧size≤402∧e.get 2=pT b2∧e.get 6=pT rb∧e.get 7=iV size∧
    R0 (QR Hs lo K false) (QR Hs lo K true) H rb lw G r rs vl x1 x2 x3∧i4 lw Hb H∧WfR r n∧mD kk r size=res)→
  u9 (LE prog fK (.loop Fv) e H) (fun o e H=>e.get 2=pT b2∧((o= .exit 0∧e.get 6=pT rb∧i4 lw Hb H∧∃r x1 x2 x3,res=some r∧R0 (QR Hs lo K false) (QR Hs lo K true) H rb lw G r rs vl x1 x2 x3∧WfR r n)∨(o= .ret∧res=none∧e.get 3=iV 13∧H.get b2=cE z12 1∧i4 b2 Hb H))):=by
 refine j7 _ _ ?_;rintro kk e H ⟨size,r,x1,x2,x3,hk,hs0,hs1,f2,f6,f7,hR,hS,hwf,fu⟩;obtain⟨q8,q9,q10,q11⟩:=hR.at_;have hmx:=Nk r.size hwf.sb;have hl1:=hwf.l0;have hl2:=hwf.l1;have hl3:=hwf.l2;have ho:=fx (Nr H rb _ true 1 hR.g x2 r.size hR.sz.sl q10 oM oM size hmx.1 oM);rcases bo:decide (size≤2*mxL r.size+1)with _|_
 ·rw[bo]at ho;have hres:res=some r:=by
   cases kk with
   |zero=>rw[mD]at fu;exact fu.symm
   |succ k=>rw[mD,bo]at fu;exact fu.symm
  refine J3 f6 f7 ho ?_;exact l7 ⟨f2,.inl ⟨rfl,f6,hS,r,x1,x2,x3,hres,hR,hwf⟩⟩
 ·have bo':=dT bo;rw[bo]at ho;obtain⟨k,rfl⟩:∃k,kk=k+1:=⟨kk-1,oM⟩
  rw[mD,bo]at fu;simp only[if_true]at fu;obtain⟨v,hp,H1,hret,hget,hv,hS1,hok⟩:=MG Hs lo K H rb lw G rs vl x1 x2 x3 size hs0 n hlo (fun j hj=>by rw[hS.get j oM];exact heq j hj) r hR hwf;subst hv;have g2':H1.get b2=cE z12 1:=by rw[hS1.get b2 hb2,hS.get b2 hb2];exact g2
  have b2n:=u6 g2';rcases bz:(jm r size).2 with _|_
  ·rw[bz]at hret fu;simp only[Bool.false_eq_true,if_false]at fu;simp(maxSteps:=20000000) -dsimp (disch:=first|omega|(simp only[rH]<;>omega)|fail) only[↓ai3,rQ,D8,sevalprocAttr,tyA,f2,f6,f7,ho,hret,hget,g2',z12];exact A6 ⟨f2,.inr ⟨rfl,fu.symm,rfl,i8 b2n,((hS.trans hS1).weaken oM).trans (i4.put lR)⟩⟩
  ·obtain⟨y1,y2,y3,hR2,_,hwf2⟩:=hok bz;rw[bz]at hret fu;simp only[if_true]at fu;have hsz:2*mxL r.size+1≤401:=oM;refine J6 f6 f7 ho hret hget @wrap_small ?_;exact i6 k oM ⟨size+1,_,y1,y2,y3,oM,oM,oM,f2,f6,rfl,hR2,hS.trans hS1,hwf2,fu⟩
theorem dq(P:Program)(e:Env)(H:d9)(a:Nat)(t:TypeId)(u:Nat):[ResultVar.cell a t,.tmp u].mapM (L3 P e H)=(ld P t H (e.get a)).map fun v=>[v,e.get u]:=by
 simp only[List.mapM_cons,List.mapM_nil,L3];cases ld P t H (e.get a)<;>rfl
theorem yF(q:Q)(hok:OkD false q):∀p∈(D0 q).progs,∃x,nQ x≤nQ q∧p=C0 x:=by
 obtain⟨h1,h2⟩:=bH _ false q lR hok;have key:∀(l:List Q)(s:StD),(∀x∈l,nQ x≤nQ q)→(∀p∈s.progs,∃x,nQ x≤nQ q∧p=C0 x)→∀p∈(l.foldl F4 s).progs,∃x,nQ x≤nQ q∧p=C0 x:=by
  intro l;induction l with
  |nil=>intro s _ h;exact h
  |cons x l ih=>
   intro s hx h;rw[List.foldl_cons];refine ih (F4 s x) (fun y hy=>hx y (by simp [hy])) ?_;rw[F4];split
   ·exact h
   ·intro p hp;rcases List.mem_append.1 hp with hp|hp
    ·exact h p hp
    ·exact⟨x,hx x (by simp),by simpa using hp⟩
 exact key (inQ false q) ⟨[],[],[],C0 q⟩ (fun x hx=>(h2 x hx).2) (by simp)
theorem wQ(q:Q):(C0 q).ed.length≤4*nQ q∧(C0 q).ts.length≤nQ q:=by
 have:=E8 q ⟨0,0,0,[],[]⟩;unfold X9 at this;simp only[C0];simp only[List.length_nil]at this;omega
theorem SlF.off{H:d9}{F:Nat→Prop}{sz:Nat}{α:Type}{R R':LV→α→Prop}{v:Value}{l:List α}{b:Nat}{c:LV}{own:Bool}(h:SlF H F sz R v l)(hb:H.get b=some (.cells c own 1))(hsz:sz≠1)(hR:∀cs a,R cs a→R' cs a):SlF H (fun j=>F j∧j≠b) sz R' v l:=by
 rcases h with h|⟨b',o,c',hv,h⟩
 ·exact .inl h
 ·refine .inr ⟨b',o,c',hv,h.imp id fun⟨cs,ow,h1,h2,h3,h4⟩=>⟨cs,ow,⟨h1,fun q=>?_⟩,h2,h3,fun i a ha=>hR _ _ (h4 i a ha)⟩⟩;subst q;rw[hb]at h2;cases h2;exact hsz rfl
def aD(H:d9)(F:Nat→Prop)(Rp Rt:LV→Q→Prop)(row:LV)(r:ReD):Prop:=∃rs vl w1 w2 w3,row=rs++[vl,w1,w2,w3]∧StF H F Rp Rt rs r.strat∧SlF H F 5 (EvF H F) vl r.labels∧SlF H F 3 (v8 soE) w1 r.sorts∧SlF H F 1 (v8 inE) w2 r.size∧SlF H F 3 (v8 hoE) w3 r.how
def Ob(H:d9)(lo K:Nat)(n:Nat)(res:Option ReD)(v:Value)(H':d9):Prop:=∃row er,v= .tuple #[.agg row.toArray,iV er]∧i4 H.next H H'∧((res=none∧row=z12∧er=13)∨∃r,res=some r∧er=0∧WfR r n∧aD H' (· <H'.next) (QR H lo K false) (QR H lo K true) row r)
def rg(q:Q):Option ReD:=match S8 (spQ q)with
 |none=>none
 |some l=>mD 401 ⟨D0 q,l,[soZ],[0],[(0,0,0)]⟩ 1
theorem gF(q:Q){l:List EvD}(h:S8 (spQ q)=some l):l.length≤24∧∀e∈l,e.attrs.length≤1000000:=by
 obtain⟨z1,z2,z3,z4,z5⟩:=jX q;have hlaw:=kS (spQ q) z3;rw[hlaw]at h;split at h
 ·cases h
 ·rename_i hc;cases h;obtain⟨c1,c2,c3,c4,c5⟩:=ko hc z3;refine⟨c5,fun e he=>?_⟩;have key:∀(l:List (NmQ×List ByteArray))(e0 e:EvD),e∈R4 l e0→e.attrs.length≤e0.attrs.length+l.length:=by
   intro l;induction l with
   |nil=>intro e0 e he;rw[R4,List.mem_singleton]at he;subst he;simp
   |cons x l ih=>
    intro e0 e he;rw[R4,List.mem_append]at he;rcases he with he|he
    ·have:=ih e0 e he;rw[List.length_cons];omega
    ·obtain⟨v,_,hv⟩:=List.mem_flatMap.1 he;have:=ih _ e hv;simp only[atV,List.length_append,List.length_singleton]at this;rw[List.length_cons];omega
  rw[jp,List.mem_append]at he;rcases he with he|he
  ·obtain⟨n,_,hn⟩:=List.mem_flatMap.1 he;have:=key _ _ _ hn;rw[List.length_zip]at this;simp only[Y4,List.length_nil]at this;omega
  ·obtain⟨t,_,rfl⟩:=List.mem_map.1 he;simp [bZ]
theorem Bm(K:Nat)(H:d9)(lo:Nat)(cs:LV)(q:Q)(hlo:lo≤H.next)(hr:QR H lo K false cs q)(hok:OkD false q)(hfit:nQ q≤400):
  Ret (CL prog fK 11 [.agg cs.toArray] H) H (Ob H lo K (y9 (D0 q).progs).toNat (rg q)):=by
 have ac:=F0 hr;have ldc:=M8 hr;have l0:=hr.len;simp only[qSz,Bool.false_eq_true,if_false]at l0;rw[l0]at ldc;obtain⟨H0,hH0,n0,-⟩:=pushF H (.cells cs true 1);obtain⟨H1,hH1⟩:∃K,K=H0.push (.cells z12 true 1):=⟨_,rfl⟩
 have n1:H1.next=H.next+2:=by rw[hH1,i5,n0]
 have hS1:i4 H.next H H1:=by rw[hH1,hH0];exact(i4.first H _).trans (i4.push (by rw[i5];exact Nat.le_succ _))
 have g1:H1.get H.next=cE cs 1:=by rw[hH1,j6 oM,hH0];exact i7
 have g2:H1.get (H.next+1)=cE z12 1:=by rw[hH1,←n0];exact i7
 obtain⟨vl,hpl,Hl,hretl,hgetl,v,er,rfl,hlab,hSl⟩:=(Be H1 lo K cs q oM (hr.mono (fun j hj=>hS1.get j oM) lR) hok oM).one;have nl:=hSl.next;have gl1:=(hSl.get H.next oM).trans g1;have gl2:=(hSl.get (H.next+1) oM).trans g2;have hH1':=hH1;have gl2':=gl2;simp only[z12]at hH1' gl2';rw[j8 aa4 rfl _ (by simp)];unfold rg;rcases hlab with⟨hn,rfl,rfl⟩|⟨l,hl,rfl,hv⟩
 ·rw[hn];obtain⟨H2,hH2⟩:∃K,K=Hl.put (H.next+1) (.cells z12 true 1):=⟨_,rfl⟩
  have c2:H2.get (H.next+1)=cE z12 1:=by rw[hH2];exact i8 oM
  have low2:H2.low=min Hl.low (H.next+1):=by rw[hH2,A4]
  have hS2:i4 H.next H H2:=by rw[hH2];exact(hS1.trans (hSl.weaken oM)).trans (i4.put oM)
  have hH2':=hH2;simp only[z12]at hH2' c2;refine J12 ac hH0.symm n0 hH1'.symm g1 ldc hretl hgetl gl2' hH2'.symm c2 @dq ?_;refine D7 (fun _ _=>?_) ?_
  ·exact⟨z12,13,rfl,i4.refl _ _,.inl ⟨rfl,rfl,rfl⟩⟩
  ·exact⟨z12,13,rfl,hS2.ret (by have:=hSl.lowAll H.next oM (by rw[hH1,hH0];exact lR);omega),.inl ⟨rfl,rfl,rfl⟩⟩
 ·rw[hl];obtain⟨hll,hla⟩:=gF q hl;obtain⟨vs,hps,Hm,hretm,hgetm,rs,rfl,hstr,hSm⟩:=(uO K Hl lo cs q oM (hr.mono (fun j hj=>by rw[hSl.get j oM,hS1.get j oM]) lR) hok oM).one;have nm:=hSm.next;have gm2:=(hSm.get (H.next+1) oM).trans gl2;obtain⟨sa,sc,rfl⟩:=hv.slice;obtain⟨pa,pc,ga,gc,xa,xc,ea,ec,ta,tc,hrs,_⟩:=N3 hstr;have lrs:rs.length=8:=by rw[hrs];rfl
  have ars:rs.all Value.oneCell'=true:=by rw[hrs];rfl
  obtain⟨M1,hM1,m1,-⟩:=pushE Hm (.cells (soE soZ) true 3);obtain⟨M2,hM2⟩:∃K,K=M1.push (.cells (inE 0) true 1):=⟨_,rfl⟩
  have m2:M2.next=Hm.next+2:=by rw[hM2,i5,m1]
  obtain⟨M3,hM3⟩:∃K,K=M2.push (.cells (hoE (0,0,0)) true 3):=⟨_,rfl⟩
  have m3:M3.next=Hm.next+3:=by rw[hM3,i5,m2]
  obtain⟨M4,hM4⟩:∃K,K=M3.push (.cells z12 true 1):=⟨_,rfl⟩
  have m4:M4.next=Hm.next+4:=by rw[hM4,i5,m3]
  have gz:M4.get (Hm.next+3)=cE z12 1:=by rw[hM4,←m3];exact i7
  have b36:∀Hx:d9,bsA prog (some 59) Hx 1 [(0,.agg (soE soZ).toArray)]=some (.slice (some ⟨Hx.next,0,none⟩) 1 1,Hx.push (.cells (soE soZ) true 3)):=fun Hx=>by simp only[C7,yO,C8];rfl
  have b29:∀Hx:d9,bsA prog (some 3) Hx 1 [(0,iV 0)]=some (.slice (some ⟨Hx.next,0,none⟩) 1 1,Hx.push (.cells (inE 0) true 1)):=fun Hx=>by simp only[C7,ty3,C8];rfl
  have b37:∀Hx:d9,bsA prog (some 56) Hx 1 [(0,.agg (hoE (0,0,0)).toArray)]=some (.slice (some ⟨Hx.next,0,none⟩) 1 1,Hx.push (.cells (hoE (0,0,0)) true 3)):=fun Hx=>by simp only[C7,yN,C8];rfl
  obtain⟨row,hrow⟩:∃row,row=rs++[.slice sa l.length sc,.slice (some ⟨Hm.next,0,none⟩) 1 1,.slice (some ⟨Hm.next+1,0,none⟩) 1 1,.slice (some ⟨Hm.next+2,0,none⟩) 1 1]:=⟨_,rfl⟩
  obtain⟨r0,hr0⟩:∃r:LV,r=rs++[nS,nS,nS,nS]:=⟨_,rfl⟩
  obtain⟨r1,hr1⟩:∃r:LV,r=rs++[.slice sa l.length sc,nS,nS,nS]:=⟨_,rfl⟩
  obtain⟨r2,hr2⟩:∃r:LV,r=rs++[.slice sa l.length sc,.slice (some ⟨Hm.next,0,none⟩) 1 1,nS,nS]:=⟨_,rfl⟩
  obtain⟨r3,hr3⟩:∃r:LV,r=rs++[.slice sa l.length sc,.slice (some ⟨Hm.next,0,none⟩) 1 1,.slice (some ⟨Hm.next+1,0,none⟩) 1 1,nS]:=⟨_,rfl⟩
  have sp0:splice [nS,nS,nS,iV 0,iV 0,iV 0,nS,nS,nS,nS,nS,nS] 0 rs=r0:=by rw[hr0,hrs];rfl
  have sp1:splice r0 8 [.slice sa l.length sc]=r1:=by rw[hr0,hr1,hrs];rfl
  have sp2:splice r1 9 [.slice (some ⟨Hm.next,0,none⟩) 1 1]=r2:=by rw[hr1,hr2,hrs];rfl
  have sp3:splice r2 10 [.slice (some ⟨Hm.next+1,0,none⟩) 1 1]=r3:=by rw[hr2,hr3,hrs];rfl
  have sp4:splice r3 11 [.slice (some ⟨Hm.next+2,0,none⟩) 1 1]=row:=by rw[hr3,hrow,hrs];rfl
  have lr0:r0.length=12:=by rw[hr0];simp [lrs]
  have lr1:r1.length=12:=by rw[hr1];simp [lrs]
  have lr2:r2.length=12:=by rw[hr2];simp [lrs]
  have lr3:r3.length=12:=by rw[hr3];simp [lrs]
  have lrow:row.length=12:=by rw[hrow];simp [lrs]
  have arow:row.all Value.oneCell'=true:=by rw[hrow,hrs];rfl
  have sp5:splice [nS,nS,nS,iV 0,iV 0,iV 0,nS,nS,nS,nS,nS,nS] 0 row=row:=by rw[hrow,hrs];rfl
  obtain⟨M5,hM5⟩:∃K,K=M4.put (Hm.next+3) (.cells row true 1):=⟨_,rfl⟩
  have m5:M5.next=Hm.next+4:=by rw[hM5,j5,m4]
  have hM1':M1=Hm.push (.cells [.bool false,.bool false,.string eB] true 3):=hM1;have lowl:H.next≤Hl.low:=hSl.lowAll H.next oM (by rw[hH1,hH0];exact lR);have lowm:H.next≤Hm.low:=hSm.lowAll H.next oM lowl;have low5:H.next≤M5.low:=by
   have e4:M4.low=Hm.low:=by rw[hM4,hM3,hM2,hM1];rfl
   rw[hM5,A4,e4];omega
  have hM4':=hM4;have gz':=gz;simp only[z12]at hM4' gz';refine J30 ac hH0.symm n0 hH1'.symm g1 gl1 ldc hretl hgetl hretm hgetm b29 b37 hM1'.symm m1 hM2.symm m2 hM3.symm m3 hM4'.symm gz' lrs ars sp0 (And.intro sp1 sp2) (And.intro sp3 sp4) (And.intro lr0 lr1) (And.intro lr2 lr3) (And.intro lrow arow) (And.intro sp5 hM5.symm) ?_;have sG:∀j,j<Hm.next→M5.get j=Hm.get j:=fun j hj=>by rw[hM5,i9 oM,hM4,j6 oM,hM3,j6 oM,hM2,j6 oM,hM1,j6 oM]
  have gp1:M5.get Hm.next=cE (soE soZ) 3:=by rw[hM5,i9 oM,hM4,j6 oM,hM3,j6 oM,hM2,j6 oM,hM1];exact i7
  have gp2:M5.get (Hm.next+1)=cE (inE 0) 1:=by rw[hM5,i9 oM,hM4,j6 oM,hM3,j6 oM,hM2,←m1];exact i7
  have gp3:M5.get (Hm.next+2)=some (.cells (hoE (0,0,0)) true 3):=by rw[hM5,i9 oM,hM4,j6 oM,hM3,←m2];exact i7
  have gp4:M5.get (Hm.next+3)=cE row 1:=by rw[hM5];exact i8 oM
  have toH:∀j,j<lo→Hl.get j=H.get j:=fun j hj=>by rw[hSl.get j oM,hS1.get j oM]
  obtain⟨r0D,hr0D⟩:∃r:ReD,r=⟨D0 q,l,[soZ],[0],[(0,0,0)]⟩:=⟨_,rfl⟩
  have hv':SlF Hl (fun j=>j<Hl.next∧j≠H.next+1) 5 (EvF Hl (fun j=>j<Hl.next∧j≠H.next+1)) (.slice sa l.length sc) l:=hv.off gl2 oM fun cs e⟨w,h1,h2⟩=>⟨w,h1,h2.off gl2 oM fun _ _ h=>h⟩
  have hG5:R0 (QR H lo K false) (QR H lo K true) M5 (Hm.next+3) Hm.next (fun j=>j<Hm.next∧j≠H.next+1) r0D rs (.slice sa l.length sc) (.slice (some ⟨Hm.next,0,none⟩) 1 1) (.slice (some ⟨Hm.next+1,0,none⟩) 1 1) (.slice (some ⟨Hm.next+2,0,none⟩) 1 1):=by
   rw[hr0D];refine⟨by rw[gp4,hrow],hstr.mono (fun j hj=>sG j hj.2) (fun j hj=>⟨hj.2,oM⟩) (fun _ _ h=>h.mono (fun j hj=>(toH j hj).symm) lR) (fun _ _ h=>h.mono (fun j hj=>(toH j hj).symm) lR),
    hv'.mono (fun j hj=>by rw[sG j oM];exact hSm.get j hj.1) (fun j hj=>⟨oM,hj.2⟩) (fun _ _ h=>w9 _ _ _ _ _ _ h (fun j hj=>by rw[sG j oM];exact hSm.get j hj.1) (fun j hj=>⟨oM,hj.2⟩)),
    ⟨_,.inr ⟨Hm.next,1,rfl,gp1,lR,rfl⟩,D2.one rfl rfl⟩,⟨_,.inr ⟨Hm.next+1,1,rfl,gp2,oM,rfl⟩,D2.one rfl rfl⟩,⟨_,.inr ⟨Hm.next+2,1,rfl,gp3,oM,rfl⟩,D2.one rfl rfl⟩,?_,fun j hj=>⟨oM,oM,?_⟩,oM,?_⟩
   ·intro i j a b ha hb hij x hx hy;have hi:i<3:=by have:=(List.getElem?_eq_some_iff.1 ha).1;simpa using this
    have hj:j<3:=by have:=(List.getElem?_eq_some_iff.1 hb).1;simpa using this
    have:i=0∨i=1∨i=2:=oM;have:j=0∨j=1∨j=2:=oM;rcases ‹i=0∨i=1∨i=2› with rfl|rfl|rfl<;>rcases ‹j=0∨j=1∨j=2› with rfl|rfl|rfl<;>simp at ha hb<;>subst ha hb<;>rw[I6]at hx hy<;>omega
   ·intro w hw;simp only[List.mem_cons,List.not_mem_nil,or_false]at hw;rcases hw with rfl|rfl|rfl<;>rw[I6]<;>omega
   ·intro w hw;simp only[List.mem_cons,List.not_mem_nil,or_false]at hw;rcases hw with rfl|rfl|rfl<;>rw[I6]<;>omega
  have hwf5:WfR r0D (y9 (D0 q).progs).toNat:=by
   rw[hr0D];have h1:=nZ q hok oM;refine⟨by show(((y9 (D0 q).progs).toNat:Nat):Int)=y9 (D0 q).progs;omega,yG q hok hfit,fun x hx=>?_,hla,fun p hp=>?_,by simp,rfl,rfl,by show l.length≤1000;omega,by simp,fun x hx=>?_⟩
   ·have:x=soZ:=by simpa using hx
    subst this;intro h;cases h
   ·obtain⟨x,hx,rfl⟩:=yF q hok p hp;have h2:=cy x;have h3:=wQ x;omega
   ·have:x=0:=by simpa using hx
    subst this;omega
  have hS5:i4 H.next H M5:=by
   rw[hM5,hM4,hM3,hM2,hM1];exact(hS1.trans ((hSl.weaken oM).trans (hSm.weaken oM))).trans (((((i4.push oM).trans (i4.push (by rw[i5];omega))).trans (i4.push (by rw[i5,i5];omega))).trans (i4.push (by rw[i5,i5,i5];omega))).trans (i4.put oM))
  have g25:M5.get (H.next+1)=cE z12 1:=(sG _ oM).trans gm2;rw[←hr0D];refine l9 (F:=fun z=>Ret (u5 prog [.cell 2 39,.tmp 3] H (u7 (inBlock 0 z) _)) H _) (uv H lo K (Hm.next+3) Hm.next (fun j=>j<Hm.next∧j≠H.next+1) rs (.slice sa l.length sc) M5 (H.next+1) (y9 (D0 q).progs).toNat oM (fun j hj=>hS5.get j oM) oM g25 (mD 401 r0D 1) 401 _ _ ⟨1,r0D,_,_,_,rfl,oM,oM,rfl,rfl,rfl,hG5,i4.refl _ _,hwf5,rfl⟩) ?_;rintro o' e' H' ⟨f2,(⟨ho,f6,hS6,r,x1,x2,x3,hres,hR,hwf⟩|⟨ho,hres,f3,g26,hS6⟩)⟩
  ·obtain⟨row',hrow'⟩:∃row,row=rs++[.slice sa l.length sc,x1,x2,x3]:=⟨_,rfl⟩
   have gr:=hR.g;rw[←hrow']at gr;obtain⟨a1,c1,e1⟩:=hR.so.slice;obtain⟨a2,c2,e2⟩:=hR.sz.slice;obtain⟨a3,c3,e3⟩:=hR.ho.slice;have lrow':row'.length=12:=by rw[hrow'];simp [lrs]
   have arow':row'.all Value.oneCell'=true:=by rw[hrow',hrs,e1,e2,e3];rfl
   have ld12:ldC (some true) (some 12) 0 row'=some (.agg row'.toArray):=by rw[eX _ _ _ oM,List.drop_zero,List.take_of_length_le oM]
   have sp6:splice [nS,nS,nS,iV 0,iV 0,iV 0,nS,nS,nS,nS,nS,nS] 0 row'=row':=by rw[hrow',hrs];rfl
   have g26:H'.get (H.next+1)=cE z12 1:=(hS6.get _ oM).trans g25;have b2n:=u6 g26;obtain⟨H6,hH6⟩:∃K,K=H'.put (H.next+1) (.cells row' true 1):=⟨_,rfl⟩
   have c6:H6.get (H.next+1)=cE row' 1:=by rw[hH6];exact i8 b2n
   have d6:∀j,j≠H.next+1→H6.get j=H'.get j:=fun j hj=>by rw[hH6];exact i9 (fun q=>hj q.symm)
   have n6:H6.next=H'.next:=by rw[hH6,j5]
   have l6:H6.low=min H'.low (H.next+1):=by rw[hH6,A4]
   have n7:=hS6.next;have g26':=g26;simp only[z12]at g26';refine J12 ho f2 f6 gr g26' @dq lrow' arow' ld12 sp6 hH6.symm c6 ?_;have hS7:i4 H.next H H6:=by rw[hH6];exact(hS5.trans (hS6.weaken oM)).trans (i4.put oM)
   have hR6:R0 (QR H lo K false) (QR H lo K true) H6 (Hm.next+3) Hm.next (fun j=>j<Hm.next∧j≠H.next+1) r rs (.slice sa l.length sc) x1 x2 x3:=by
    exact hR.side (b:=H.next+1) ⟨oM,fun q=>q.2 rfl,fun w hw q=>by have:=(hR.inl hw q).1;omega⟩ oM d6
   refine D7 (fun hna _=>?_) ?_
   ·exfalso
    have hl0:=hwf.l0;obtain⟨a1',c1',rfl⟩:∃a c,x1= .slice (some a) r.sorts.length c:=by
     obtain⟨_,nb,o,_,_,_,_,_,q,_⟩:=(e1▸hR.so.sl:SlI H' H'.next 3 (v8 soE) (.slice a1 r.sorts.length c1) r.sorts).row (i:=0) oM;exact⟨_,_,by rw[e1,q]⟩
    simp only[L0,hrow',List.all_cons,na1,List.all_append,Bool.and_eq_true]at hna;simp [na0]at hna
   ·refine⟨row',0,rfl,hS7.ret (by have:=hS6.lowAll H.next oM low5;omega),.inr ⟨r,hres,rfl,hwf,rs,_,x1,x2,x3,hrow',?_⟩⟩;have hx:∀j,(j<Hm.next∧j≠H.next+1)→j<H6.next:=fun j hj=>oM;refine⟨hR6.st.mono (fun _ _=>rfl) hx iF iF,hR6.lb.mono (fun _ _=>rfl) hx (fun _ _ h=>w9 _ _ _ _ _ _ h (fun _ _=>rfl) hx),hR6.so.sl,hR6.sz.sl,hR6.ho.sl⟩
  ·have g26':=g26;simp only[z12]at g26';refine J5 ho f2 f3 g26' @dq ?_;have hS7:i4 H.next H H':=hS5.trans (hS6.weaken oM);refine D7 (fun _ _=>?_) ?_
   ·exact⟨z12,13,rfl,i4.refl _ _,.inl ⟨hres,rfl,rfl⟩⟩
   ·exact⟨z12,13,rfl,hS7.ret (hS6.lowAll H.next oM low5),.inl ⟨hres,rfl,rfl⟩⟩
def NZ(r:ReD)(k:Nat):Prop:=∃(i a b:Nat)(e:EvD),r.how[k]?=some ((i:Int),(a:Int),(b:Int))∧r.labels[i]?=some e∧a<k∧b<k∧r.size.getD k 0=r.size.getD a 0+r.size.getD b 0+1∧iH r.sorts e.kind a b=true∧r.sorts[k]?=some (Y8 r.strat e (r.sorts.getD a soZ) (r.sorts.getD b soZ))
structure N0(r:ReD)(m:Int):Prop where
 l2:r.size.length=r.sorts.length
 l3:r.how.length=r.sorts.length
 s0:r.sorts[0]?=some soZ
 z0:r.size[0]?=some 0
 from_:∀k,1≤k→k<r.sorts.length→NZ r k
 rise:∀k,1≤k→k<r.sorts.length→r.size.getD (k-1) 0≤r.size.getD k 0
 apart:∀(i j:Nat)(x y:SoD),i<j→r.sorts[i]?=some x→r.sorts[j]?=some y→fo y x=false
 most:∀k,k<r.sorts.length→r.size.getD k 0≤m
 l1:r.sorts.length≤25
theorem N0.later{r:ReD}{m m':Int}(h:N0 r m)(hm:m≤m'):N0 r m':=⟨h.l2,h.l3,h.s0,h.z0,h.from_,h.rise,h.apart,fun k hk=>Int.le_trans (h.most k hk) hm,h.l1⟩
theorem N9{α:Type}(l:List α)(x d:α)(k:Nat)(hk:k<l.length):(l++[x]).getD k d=l.getD k d:=by
 rw[List.getD_eq_getElem?_getD,List.getD_eq_getElem?_getD,List.getElem?_append_left hk]
theorem cj{α:Type}(l:List α)(x d:α):(l++[x]).getD l.length d=x:=by
 rw[List.getD_eq_getElem?_getD,List.getElem?_append_right lR];simp
theorem rj{so:List SoD}{x:SoD}{kind f n:Int}(h:iH so kind f n=true):iH (so++[x]) kind f n=true:=by
 simp only[iH,knB,Bool.and_eq_true,decide_eq_true_eq,List.length_append,List.length_singleton]at h ⊢;obtain⟨⟨⟨h1,h2⟩,h3,h4⟩,h5⟩:=h;refine⟨⟨⟨h1,oM⟩,h3,oM⟩,?_⟩;rw[N9 _ _ _ _ oM];exact h5
theorem N0.add{r:ReD}{size:Int}(h:N0 r size){i a b:Nat}{e:EvD}(hl:r.labels[i]?=some e)(ha:a<r.sorts.length)(hb:b<r.sorts.length)(hs:size=r.size.getD a 0+r.size.getD b 0+1)(hm:iH r.sorts e.kind a b=true):
  N0 (aQ r (Y8 r.strat e (r.sorts.getD a soZ) (r.sorts.getD b soZ)) size (i,a,b)).1 size:=by
 obtain⟨x,hx⟩:∃x,x=Y8 r.strat e (r.sorts.getD a soZ) (r.sorts.getD b soZ):=⟨_,rfl⟩
 rw[←hx];unfold aQ;split
 ·exact h
 ·rename_i hno;split
  ·exact h
  ·rename_i hsm;simp only[Bool.or_eq_true,decide_eq_true_eq,not_or]at hsm;have hlen:(r.sorts++[x]).length=r.sorts.length+1:=by simp
   have hno':∀y∈r.sorts,fo x y=false:=fun y hy=>by
    cases hq:fo x y with
    |false=>rfl
    |true=>exact absurd (List.any_eq_true.2 ⟨y,hy,hq⟩) hno
   have l0:0<r.sorts.length:=oM;have l2:=h.l2;have l3:=h.l3;refine⟨by simp [h.l2],by simp [h.l3],by rw[List.getElem?_append_left l0];exact h.s0,by rw[List.getElem?_append_left oM];exact h.z0,fun k hk hkl=>?_,fun k hk hkl=>?_,fun i j u v hij hu hv=>?_,fun k hk=>?_,by show(r.sorts++[x]).length≤25;omega⟩
   ·have hkl':k<r.sorts.length+1:=by rw[←hlen];exact hkl
    by_cases hkn:k<r.sorts.length
    ·obtain⟨i',a',b',e',f1,f2,f3,f4,f5,f6,f7⟩:=h.from_ k hk hkn;refine⟨i',a',b',e',by rw[List.getElem?_append_left oM];exact f1,f2,f3,f4,?_,rj f6,?_⟩
     ·show(r.size++[size]).getD k 0=(r.size++[size]).getD a' 0+(r.size++[size]).getD b' 0+1;rw[N9 _ _ _ _ oM,N9 _ _ _ _ oM,N9 _ _ _ _ oM];exact f5
     ·show(r.sorts++[x])[k]?=some (Y8 r.strat e' ((r.sorts++[x]).getD a' soZ) ((r.sorts++[x]).getD b' soZ));rw[List.getElem?_append_left hkn,N9 _ _ _ _ oM,N9 _ _ _ _ oM];exact f7
    ·have hkn':k=r.sorts.length:=oM;subst hkn';refine⟨i,a,b,e,by rw[List.getElem?_append_right oM,l3,Nat.sub_self];rfl,hl,ha,hb,?_,rj hm,?_⟩
     ·show(r.size++[size]).getD r.sorts.length 0=(r.size++[size]).getD a 0+(r.size++[size]).getD b 0+1;have e1:(r.size++[size]).getD r.sorts.length 0=size:=by rw[←l2];exact cj _ _ _
      rw[e1,N9 _ _ _ a oM,N9 _ _ _ b oM];exact hs
     ·show(r.sorts++[x])[r.sorts.length]?=some (Y8 r.strat e ((r.sorts++[x]).getD a soZ) ((r.sorts++[x]).getD b soZ));rw[List.getElem?_append_right lR,Nat.sub_self,N9 _ _ _ _ ha,N9 _ _ _ _ hb,←hx];rfl
   ·have hkl':k<r.sorts.length+1:=by rw[←hlen];exact hkl
    show(r.size++[size]).getD (k-1) 0≤(r.size++[size]).getD k 0;rw[N9 _ _ _ _ oM];by_cases hkn:k<r.sorts.length
    ·rw[N9 _ _ _ _ oM];exact h.rise k hk hkn
    ·have hkn':k=r.size.length:=oM;rw[hkn',cj];exact h.most _ oM
   ·have hj:=(List.getElem?_eq_some_iff.1 hv).1;simp only[List.length_append,List.length_singleton]at hj;rw[List.getElem?_append_left oM]at hu;by_cases hjn:j<r.sorts.length
    ·rw[List.getElem?_append_left hjn]at hv;exact h.apart i j u v hij hu hv
    ·rw[List.getElem?_append_right oM]at hv;have:j-r.sorts.length=0:=oM;rw[this]at hv;simp at hv;subst hv;exact hno' u (List.mem_of_getElem? hu)
   ·have hk':k<r.sorts.length+1:=by rw[←hlen];exact hk
    show(r.size++[size]).getD k 0≤size;by_cases hkn:k<r.sorts.length
    ·rw[N9 _ _ _ _ oM];exact h.most k hkn
    ·have hkn':k=r.size.length:=oM;rw[hkn',cj];exact Int.le_refl _
theorem gE{α:Type}{l m:List α}(h:l<+:m){k:Nat}(hk:k<l.length)(d:α):m.getD k d=l.getD k d:=by
 obtain⟨t,rfl⟩:=h;rw[List.getD_eq_getElem?_getD,List.getD_eq_getElem?_getD,List.getElem?_append_left hk]
theorem eh{size:Int}{a b:Nat}:∀(l:List EvD)(i:Nat)(r:ReD),N0 r size→r.labels.drop i=l→a<r.sorts.length→b<r.sorts.length→size=r.size.getD a 0+r.size.getD b 0+1→N0 (Q0 size a b l i r).1 size∧r.size<+:(Q0 size a b l i r).1.size∧(Q0 size a b l i r).1.labels=r.labels∧(Q0 size a b l i r).1.strat=r.strat
 |[],i,r,h,_,_,_,_=>⟨h,List.prefix_rfl,rfl,rfl⟩
 |e::l,i,r,h,hd,ha,hb,hs=>by
  have he:r.labels[i]?=some e:=by rw[←List.head?_drop,hd];rfl
  have hd':r.labels.drop (i+1)=l:=by rw[←List.tail_drop,hd];rfl
  rw[Q0];have ta:(a:Int).toNat=a:=tN a;have tb:(b:Int).toNat=b:=tN b;rw[ta,tb];split
  ·rename_i hm;have hg:=h.add he ha hb hs hm;obtain⟨p1,p2,p3,p4⟩:=fy r (Y8 r.strat e (r.sorts.getD a soZ) (r.sorts.getD b soZ)) size (i,a,b);have l2:=h.l2;split
   ·obtain⟨q1,q2,q3,q4⟩:=eh l (i+1) _ hg (by rw[p2];exact hd') (Nat.lt_of_lt_of_le ha p4.length_le) (Nat.lt_of_lt_of_le hb p4.length_le) (by rw[gE p3 oM,gE p3 oM];exact hs);exact⟨q1,p3.trans q2,q3.trans p2,q4.trans p1⟩
   ·exact⟨hg,p3,p2,p1⟩
  ·exact eh l (i+1) r h hd' ha hb hs
theorem jl{size:Int}{m:Nat}{s0:List Int}:∀(L:List (Nat×Nat))(r:ReD),N0 r size→(∀x∈L,x.1<m∧x.2<m∧size=s0.getD x.1 0+s0.getD x.2 0+1)→m≤s0.length→s0<+:r.size→N0 (cD size L r).1 size∧(cD size L r).1.labels=r.labels∧(cD size L r).1.strat=r.strat
 |[],r,h,_,_,_=>⟨h,rfl,rfl⟩
 |x::L,r,h,hL,hm,hs=>by
  obtain⟨h1,h2,h3⟩:=hL x (by simp);have hle:=hs.length_le;have l2:=h.l2;obtain⟨q1,q2,q3,q4⟩:=eh r.labels 0 r h (by rw[List.drop_zero]) (show x.1<r.sorts.length from oM) (show x.2<r.sorts.length from oM) (by rw[gE hs oM,gE hs oM];exact h3);rw[cD];split
  ·obtain⟨k1,k2,k3⟩:=jl L _ q1 (fun y hy=>hL y (by simp [hy])) hm (hs.trans q2);exact⟨k1,k2.trans q3,k3.trans q4⟩
  ·exact⟨q1,q3,q4⟩
theorem qK{r:ReD}{size:Int}(h:N0 r size):N0 (jm r size).1 size∧(jm r size).1.labels=r.labels∧(jm r size).1.strat=r.strat:=by
 have l2:=h.l2;refine jl (m:=r.sorts.length) (s0:=r.size) _ r h (fun x hx=>?_) oM List.prefix_rfl;unfold ch at hx;obtain⟨a,ha,hb⟩:=List.mem_flatMap.1 hx;unfold gX at hb;obtain⟨b,hb',rfl⟩:=List.mem_map.1 hb;obtain⟨h1,h2⟩:=List.mem_filter.1 hb';exact⟨List.mem_range.1 ha,List.mem_range.1 h1,by simpa using (dT h2).symm⟩
theorem lq:∀(k:Nat)(r:ReD)(size:Int){r':ReD},N0 r size→mD k r size=some r'→(∃m,N0 r' m)∧r'.labels=r.labels∧r'.strat=r.strat
 |0,r,size,r',h,hr=>by rw[mD]at hr;cases hr;exact⟨⟨_,h⟩,rfl,rfl⟩
 |k+1,r,size,r',h,hr=>by
  rw[mD]at hr;split at hr
  ·split at hr
   ·obtain⟨q1,q2,q3⟩:=qK h;obtain⟨k1,k2,k3⟩:=lq k _ (size+1) (q1.later oM) hr;exact⟨k1,k2.trans q2,k3.trans q3⟩
   ·cases hr
  ·cases hr;exact⟨⟨_,h⟩,rfl,rfl⟩
theorem js{q:Q}{r:ReD}(h:rg q=some r):(∃m,N0 r m)∧r.strat=D0 q∧∃l,S8 (spQ q)=some l∧r.labels=l:=by
 unfold rg at h;split at h
 ·cases h
 ·rename_i l hl;obtain⟨k1,k2,k3⟩:=lq 401 ⟨D0 q,l,[soZ],[0],[(0,0,0)]⟩ 1 ⟨rfl,rfl,rfl,rfl,fun k h1 h2=>by simp at h2;omega,fun k h1 h2=>by simp at h2;omega,fun i j x y hij hx hy=>by
   have:=(List.getElem?_eq_some_iff.1 hy).1;simp at this;omega,fun k hk=>by
   have:k=0:=by simpa using hk
   subst this;show(0:Int)≤1;omega,by simp⟩ h
  exact⟨k1,k3,l,hl,k2⟩
def SlO(H:d9)(F:Nat→Prop)(sz:Nat){α:Type}(R:LV→α→Prop)(v:Value)(l:List α):Prop:=
 (v=nS∧l=[])∨
 ∃b o c,v= .slice (some ⟨b,o,none⟩) l.length c∧
  (l=[]∨∃cs,F b∧H.get b=some (.cells cs true sz)∧o+l.length*sz≤cs.length∧∀(i:Nat) a,l[i]?=some a→R ((cs.drop (o+i*sz)).take sz) a)
theorem SlO.mono{H H':d9}{F F':Nat→Prop}{sz:Nat}{α:Type}{R:LV→α→Prop}{v:Value}{l:List α}(h:SlO H F sz R v l)(hg:∀j,F j→H'.get j=H.get j) (hF:∀j,F j→F' j):SlO H' F' sz R v l:=by
 rcases h with h|⟨b,o,c,hv,h⟩
 ·exact .inl h
 ·exact .inr ⟨b,o,c,hv,h.imp id fun⟨cs,h1,h2,h3⟩=>⟨cs,hF _ h1,(hg _ h1).trans h2,h3⟩⟩
theorem t7.slo{H:d9}{lo sz:Nat}{α:Type}{R:LV→α→Prop}{v:Value}{l:List α}(h:t7 H lo sz R v l):SlO H (fun j=>lo≤j∧j<H.next) sz R v l:=by
 obtain⟨cs,h1,h2⟩:=h;rcases h1 with⟨rfl,h3,rfl⟩|⟨b,c,rfl,h3,h4,h5⟩
 ·exact .inl ⟨rfl,by simpa using h3⟩
 ·refine .inr ⟨b,0,c,rfl,.inr ⟨cs,⟨h4,u6 h3⟩,h3,oM,fun i a ha=>?_⟩⟩;rw[Nat.zero_add];exact h2.2 i a ha
def EvO(H:d9)(F:Nat→Prop)(cs:LV)(e:EvD):Prop:=∃v,cs=[iV e.kind,.string e.space,.string e.loc,v,.string e.text]∧SlO H F 3 (v8 atE) v e.attrs
theorem EvO.mono{H H':d9}{F F':Nat→Prop}{cs:LV}{e:EvD}(h:EvO H F cs e)(hg:∀j,F j→H'.get j=H.get j) (hF:∀j,F j→F' j):EvO H' F' cs e:=by
 obtain⟨v,h1,h2⟩:=h;exact⟨v,h1,h2.mono hg hF⟩
structure jB(lo:Nat)(H:d9)(v:Value)(l:List EvD)(G:Nat→Prop):Prop where
 own:t7 H lo 5 (EvO H G) v l
 fr:∀j,G j→lo≤j∧j<H.next∧¬j9 v j
theorem jB.keep{lo:Nat}{H H':d9}{v:Value}{l:List EvD}{G:Nat→Prop}(h:jB lo H v l G)(hS:i4 H.next H H'):jB lo H' v l G:=by
 have:=hS.next;exact⟨(h.own.imp fun cs e q=>q.mono (fun j hj=>hS.get j (h.fr j hj).2.1) (fun _ h=>h)).keep hS,fun j hj=>by have:=h.fr j hj;exact⟨this.1,oM,this.2.2⟩⟩
theorem jB.app{lo n:Nat}{H:d9}{v x:Value}{l l2:List EvD}{G G2:Nat→Prop}(h:jB lo H v l G)(h2:SlI H n 5 (EvO H G2) x l2)(hG2:∀j,G2 j→lo≤j∧j<H.next∧¬j9 v j) (hl:l.length+l2.length≤1000000) (hlo:lo≤H.next):
  Ret (C3 prog H [35,35] v x) H fun v' H'=>jB lo H' v' (l++l2) (fun j=>G j∨G2 j)∧X7 lo v H v' H':=by
 have q1:t7 H lo 5 (EvO H (fun j=>G j∨G2 j)) v l:=h.own.imp fun cs e q=>q.mono (fun _ _=>rfl) (fun _=> .inl);have q2:SlI H n 5 (EvO H (fun j=>G j∨G2 j)) x l2:=h2.mono (fun _ _=>rfl) lR (fun cs e q=>q.mono (fun _ _=>rfl) (fun _=> .inr));obtain⟨v',h',H',r1,r2,r3,r4⟩:=q1.appendF (P:=prog) (t:=35) (by exact uT.2.2.2.2.2.2) aG.1 aG.2.1 aG.2.2.1 oM oM q2 oM hlo;have hn:=r4.next;have hfr:∀j,(G j∨G2 j)→lo≤j∧j<H.next∧¬j9 v j:=fun j hj=>hj.elim (h.fr j) (hG2 j);refine⟨v',h',H',r1,r2,⟨r3.imp fun cs e q=>q.mono (fun j hj=>r4.but j (hfr j hj).2.1 (hfr j hj).2.2) (fun _ h=>h),fun j hj=>?_⟩,r4⟩;obtain⟨k1,k2,k3⟩:=hfr j hj;refine⟨k1,oM,fun q=>?_⟩;rcases r4.new j q with q|q
 ·exact k3 q
 ·omega
def zI:EvD:=⟨3,eB,eB,[],eB⟩
def eD(r:ReD):Nat→Int→List EvD
 |0,_=>[]
 |n+1,k=>if k≤0∨(r.sorts.length:Int)≤k then [] else
  match r.how[k.toNat]? with
  |some (i,a,b)=>match r.labels[i.toNat]? with
   |some e=>([e]++(if e.kind=1 then eD r n a++[zI] else []))++eD r n b
   |none=>[]
  |none=>[]
theorem rI{r:ReD}{m:Int}(hg:N0 r m)(hsb:∀x∈r.size,0≤x∧x≤200):∀(n:Nat)(k:Int),((eD r n k).length:Int)≤2*r.size.getD k.toNat 0:=by
 have h0:∀i,0≤r.size.getD i 0:=fun i=>by
  rw[List.getD_eq_getElem?_getD];cases hq:r.size[i]? with
  |none=>exact Int.le_refl _
  |some x=>exact(hsb x (List.mem_of_getElem? hq)).1
 intro n;induction n with
 |zero=>intro k;have:=h0 k.toNat;simp only[eD,List.length_nil];omega
 |succ n ih=>
  intro k;rw[eD];split
  ·have:=h0 k.toNat;simp only[List.length_nil];omega
  ·rename_i hk;obtain⟨i,a,b,e,f1,f2,f3,f4,f5,f6,f7⟩:=hg.from_ k.toNat oM oM;rw[f1];simp only[Int.toNat_natCast];rw[f2];have ha:=ih a;have hb:=ih b;rw[Int.toNat_natCast]at ha hb;have za:=h0 a;simp only[List.length_append,List.length_singleton];split
   ·simp only[List.length_append,List.length_singleton];omega
   ·simp only[List.length_nil];omega
theorem nR{r:ReD}{m:Int}(hg:N0 r m):∀(n n':Nat)(k:Int),k.toNat<n→k.toNat<n'→eD r n k=eD r n' k:=by
 intro n;induction n with
 |zero=>intro n' k h;omega
 |succ n ih=>
  intro n' k h h';obtain⟨p,rfl⟩:∃p,n'=p+1:=⟨n'-1,oM⟩
  rw[eD,eD];split
  ·rfl
  ·rename_i hk;obtain⟨i,a,b,e,f1,f2,f3,f4,f5,f6,f7⟩:=hg.from_ k.toNat oM oM;rw[f1];simp only[Int.toNat_natCast];rw[f2];have ta:(a:Int).toNat=a:=tN a;have tb:(b:Int).toNat=b:=tN b;simp only;rw[ih p a oM oM,ih p b oM oM]
theorem aD.mono{H H':d9}{F F':Nat→Prop}{Rp Rt:LV→Q→Prop}{row:LV}{r:ReD}(h:aD H F Rp Rt row r)(hg:∀j,F j→H'.get j=H.get j) (hF:∀j,F j→F' j):aD H' F' Rp Rt row r:=by
 obtain⟨rs,vl,w1,w2,w3,h0,h1,h2,h3,h4,h5⟩:=h;exact⟨rs,vl,w1,w2,w3,h0,h1.mono hg hF iF iF,h2.mono hg hF (fun _ _ q=>w9 _ _ _ _ _ _ q hg hF),h3.mono hg hF iF,h4.mono hg hF iF,h5.mono hg hF iF⟩
theorem jB.low{lo:Nat}{H:d9}{v:Value}{l:List EvD}{G:Nat→Prop}(h:jB lo H v l G)(n:Nat):jB lo ⟨H.bs,n⟩ v l G:=
 ⟨(h.own.imp fun cs e q=>q.mono (fun _ _=>rfl) (fun _ h=>h)).low n,h.fr⟩
def sw(H:d9)(l:List EvD)(v:Value)(H':d9):Prop:=(∃G,jB H.next H' v l G)∧i4 H.next H H'
theorem XH(Rp Rt:LV→Q→Prop)(r:ReD)(m:Int)(hg:N0 r m)(hsb:∀x∈r.size,0≤x∧x≤200) (hat:∀e∈r.labels,e.attrs.length≤1000000):∀(n:Nat)(k:Int)(H:d9)(row:LV),k.toNat≤n→aD H (· <H.next) Rp Rt row r→row.length=12→row.all Value.oneCell'=true→
  Ret (CL prog t6 14 [.agg row.toArray,iV k] H) H (sw H (eD r (n+1) k)):=by
 intro n;induction n using Nat.strongRecOn with
 |ind n ih=>
 intro k H row hkn hR lrow arow;have hR0:=hR;obtain⟨rs,vl,w1,w2,w3,hrow,hst,hlb,hso,hsz,hho⟩:=hR;have lrs:rs.length=8:=by rw[hrow]at lrow;simpa using lrow
 have q8:row[8]?=some vl:=by rw[hrow,List.getElem?_append_right oM,lrs];rfl
 have q9:row[9]?=some w1:=by rw[hrow,List.getElem?_append_right oM,lrs];rfl
 have q11:row[11]?=some w3:=by rw[hrow,List.getElem?_append_right oM,lrs];rfl
 obtain⟨sa,sc,rfl⟩:=hso.slice;obtain⟨la,lc,rfl⟩:=hlb.slice;obtain⟨ha,hc,rfl⟩:=hho.slice;obtain⟨H1,hH1,n1,-⟩:=pushF H (.cells row true 1);have s1:i4 H.next H H1:=by rw[hH1];exact i4.first H _
 have g1:H1.get H.next=cE row 1:=by rw[hH1];exact i7
 rw[j8 aa5 rfl _ (by simp),eD];have nilR:sw H [] (nS) H:=⟨⟨fun _=>False,⟨[],.inl ⟨rfl,rfl,rfl⟩,D2.nil⟩,fun j hj=>hj.elim⟩,i4.refl _ _⟩
 rcases b1:decide (k≤0)with _|_
 ·have b1':=dF b1;rcases b2:decide ((r.sorts.length:Int)≤k)with _|_
  ·have b2':=dF b2;rw[if_neg oM];obtain⟨i,a,b,e,f1,f2,f3,f4,f5,f6,f7⟩:=hg.from_ k.toNat oM oM;rw[f1];simp only[Int.toNat_natCast];rw[f2];simp only;have hl3:=hg.l3;have hil:=(List.getElem?_eq_some_iff.1 f2).1;obtain⟨hw,hb,ho,hcs,hown,hel,hx,_,rfl,hFh,hgh,hleh,hrowh,hch,hRh⟩:=hho.row (i:=k.toNat) oM;rw[f1]at hx;cases hx;obtain rfl:hel=hoE ((i:Int),(a:Int),(b:Int)):=hRh;obtain⟨ev,lb,lo,lcs,lown,lel,hxl,_,rfl,hFl,hgl,hlel,hrowl,hcl,hRl⟩:=hlb.row (i:=i) oM;rw[f2]at hxl;cases hxl;obtain⟨av,hav,hsl⟩:=id hRl;have lel5:lel.length=5:=by rw[hav];rfl
   have alel:lel.all Value.oneCell'=true:=by
    obtain⟨aa,ac,rfl⟩:=hsl.slice;rw[hav];rfl
   have le0:lel[0]?=some (.int .i64 e.kind):=by rw[hav];rfl
   have le3:lel[3]?=some av:=by rw[hav];rfl
   have hkt:((k.toNat:Nat):Int)=k:=Int.toNat_of_nonneg oM;obtain⟨H2,hH2⟩:∃K,K=H1.push (.cells [iV 0,iV 0,iV 0] true 1):=⟨_,rfl⟩
   have n2:H2.next=H.next+2:=by rw[hH2,i5,n1]
   have x2:H2.get (H.next+1)=cE [iV 0,iV 0,iV 0] 1:=by rw[hH2,←n1];exact i7
   obtain⟨H3,hH3⟩:∃K,K=H2.put (H.next+1) (.cells [iV i,iV a,iV b] true 1):=⟨_,rfl⟩
   have n3:H3.next=H.next+2:=by rw[hH3,j5,n2]
   have x3:H3.get (H.next+1)=cE [iV i,iV a,iV b] 1:=by rw[hH3];exact i8 oM
   have y3:∀j,j<H.next+1→H3.get j=H1.get j:=fun j hj=>by rw[hH3,i9 oM,hH2,j6 oM]
   obtain⟨H4,hH4⟩:∃K,K=H3.push (.cells [iV 0,.string eB,.string eB,nS,.string eB] true 1):=⟨_,rfl⟩
   have n4:H4.next=H.next+3:=by rw[hH4,i5,n3]
   have x4:H4.get (H.next+2)=cE [iV 0,.string eB,.string eB,nS,.string eB] 1:=by rw[hH4,←n3];exact i7
   obtain⟨H5,hH5⟩:∃K,K=H4.put (H.next+2) (.cells lel true 1):=⟨_,rfl⟩
   have n5:H5.next=H.next+3:=by rw[hH5,j5,n4]
   have x5:H5.get (H.next+2)=cE lel 1:=by rw[hH5];exact i8 oM
   have y5:∀j,j<H.next+2→H5.get j=H3.get j:=fun j hj=>by rw[hH5,i9 oM,hH4,j6 oM]
   have z5:∀j,j<H.next→H5.get j=H.get j:=fun j hj=>by rw[y5 j oM,y3 j oM,s1.get j hj]
   have s5:i4 H.next H H5:=by
    rw[hH5,hH4,hH3,hH2];exact s1.trans ((((i4.push oM).trans (i4.put oM)).trans (i4.push (by rw[j5,i5];omega))).trans (i4.put oM))
   obtain⟨v2,h2,H6,r37,r37g,hO6,s6⟩:=vn (v8 atE) H5 H.next av e.attrs oM (hsl.mono (fun j hj=>z5 j hj) (fun _ h=>h) iF) (hat e (List.mem_of_getElem? f2));have n6:=s6.next;obtain⟨lel2,hlel2⟩:∃q,q=lel.set 3 v2:=⟨_,rfl⟩
   have lel25:lel2.length=5:=by rw[hlel2];simp [lel5]
   obtain⟨va2,vc2,ev2⟩:=hO6.slice;have ov2:Value.oneCell' v2=true:=by rw[ev2];rfl
   have cv2:v2.cells.toList=[v2]:=by rw[ev2];rfl
   have hav2:lel2=[iV e.kind,.string e.space,.string e.loc,v2,.string e.text]:=by rw[hlel2,hav];rfl
   have alel2:lel2.all Value.oneCell'=true:=by rw[hav2,ev2];rfl
   have sp1:splice lel 3 [v2]=lel2:=by rw[hlel2,hav];rfl
   have sp0:splice [iV 0,.string eB,.string eB,nS,.string eB] 0 lel=lel:=by rw[hav];rfl
   have tkr:row.take 12=row:=List.take_of_length_le oM;have tk1:lel.take 5=lel:=List.take_of_length_le oM;have tk2:lel2.take 5=lel2:=List.take_of_length_le oM;have x6:=(s6.get (H.next+2) oM).trans x5;obtain⟨H7,hH7⟩:∃K,K=H6.put (H.next+2) (.cells lel2 true 1):=⟨_,rfl⟩
   have n7:H7.next=H6.next:=by rw[hH7,j5]
   have x7:H7.get (H.next+2)=cE lel2 1:=by rw[hH7];exact i8 oM
   have e20:lel2[0]?=some (.int .i64 e.kind):=by rw[hav2];rfl
   obtain⟨H8,hH8⟩:∃K,K=H7.push (.cells lel2 true 5):=⟨_,rfl⟩
   have n8:H8.next=H6.next+1:=by rw[hH8,i5,n7]
   have bsl:bsA prog (some 51) H7 1 [(0,.agg lel2.toArray)]=some (.slice (some ⟨H7.next,0,none⟩) 1 1,H8):=by
    rw[hH8,hav2,ev2];simp only[C7,aG,C8];rfl
   have x8:H8.get (H.next+2)=cE lel2 1:=by rw[hH8,j6 oM];exact x7
   have hgh1:=(s1.get hb hFh).trans hgh;have hgl3:H3.get lb=some (.cells lcs lown 5):=by rw[y3 lb oM,s1.get lb hFl];exact hgl
   have y3n:=y3 H.next oM;have g3:=y3n.trans g1;have y8:∀j,j<H.next+2→H8.get j=H5.get j:=fun j hj=>by rw[hH8,j6 oM,hH7,i9 oM,s6.get j oM]
   have g8:H8.get H.next=cE row 1:=by rw[y8 _ oM,y5 _ oM];exact g3
   have h8:H8.get (H.next+1)=cE [iV i,iV a,iV b] 1:=by rw[y8 _ oM,y5 _ oM];exact x3
   have z8:∀j,j<H.next→H8.get j=H.get j:=fun j hj=>by rw[y8 j oM,z5 j hj]
   have low1:H1.low=H.next:=by rw[hH1];rfl
   have low5:H.next≤H5.low:=by rw[hH5,A4,hH4,t5,hH3,A4,hH2,t5,low1];omega
   have low6:H.next≤H6.low:=s6.lowAll H.next oM low5;have low8:H.next≤H8.low:=by rw[hH8,t5,hH7,A4];omega
   have s8:i4 H.next H H8:=⟨oM,fun k hk q=>oM,z8⟩
   have lenb:=rI hg hsb (b+1) b;have lena:=rI hg hsb (a+1) a;have szb:∀i,r.size.getD i 0≤200:=fun i=>by
    rw[List.getD_eq_getElem?_getD];cases hq:r.size[i]? with
    |none=>decide
    |some x=>exact(hsb x (List.mem_of_getElem? hq)).2
   have zb:=szb (b:Int).toNat;have za:=szb (a:Int).toNat;have hRF:∀Hx:d9,i4 H.next H Hx→aD Hx (· <Hx.next) Rp Rt row r:=fun Hx hx=>hR0.mono (fun j hj=>hx.get j hj) (fun j hj=>by have:=hx.next;omega);have O0:jB H.next H8 (.slice (some ⟨H7.next,0,none⟩) 1 1) [e] (fun j=>H5.next≤j∧j<H6.next):=by
    refine⟨⟨lel2,.inr ⟨H7.next,1,rfl,by rw[hH8];exact i7,oM,lel25⟩,D2.one lel25 ⟨v2,hav2,hO6.slo.mono (fun j hj=>?_) (fun _ h=>h)⟩⟩,fun j hj=>⟨oM,oM,by rw[I6];omega⟩⟩;rw[hH8,j6 oM,hH7,i9 oM]
   have fin:∀(Hc:d9)(w:Value)(l:List EvD)(G:Nat→Prop),i4 H.next H Hc→H.next≤Hc.low→jB H.next Hc w l G→1≤l.length→l.length≤1000→
     ∃v h v' h',CL prog t6 14 [.agg row.toArray,iV (b:Int)] Hc=dr v h∧C3 prog (h.getD Hc) [35,35] w v=dr v' h'∧Ret (some (D4 v' H (h'.getD (h.getD Hc)))) H (sw H (l++eD r n b)):=by
    intro Hc w l G sc lc hO l1 l2;have nc:=sc.next;obtain⟨v3,h3,H9,r14,r14g,⟨G3,O3⟩,s9⟩:=ih b oM (b:Int) Hc row (by rw[Int.toNat_natCast];exact lR) (hRF Hc sc) lrow arow;have n9:=s9.next;obtain⟨v4,h4,H10,ra,rag,O4,s10⟩:=(hO.keep s9).app (x:=v3) (n:=H9.next) O3.own.sl (fun j hj=>by
     have:=O3.fr j hj;exact⟨oM,this.2.1,fun q=>by have:=(hO.own.lt q).2;omega⟩) oM oM
    have n10:=s10.next;have s10:=s10.stay;refine⟨v3,h3,v4,h4,r14,by rw[r14g];exact ra,?_⟩;rw[r14g,rag];have hb1:eD r (b+1) b=eD r n b:=nR hg _ _ _ (by rw[Int.toNat_natCast];omega) (by rw[Int.toNat_natCast];omega);rw[hb1]at O4;have hs:i4 H.next H H10:=sc.trans ((s9.weaken oM).trans s10);refine D7 (fun hna _=>?_) ⟨⟨_,O4.low _⟩,hs.ret (s10.lowAll _ lR (s9.lowAll _ oM lc))⟩
    exfalso
    obtain⟨cs4,h41,h42⟩:=O4.own;rcases h41 with⟨_,h0,_⟩|⟨b',c',rfl,_⟩
    ·rw[List.length_append]at h0;omega
    ·simp [L0,na1,na0]at hna
   rcases bk:decide (e.kind=1)with _|_
   ·have bk':=dF bk;rw[if_neg bk',List.append_nil];obtain⟨v,h,v',h',r14,ra,hfin⟩:=fin H8 _ [e] _ s8 low8 O0 (by simp) (by simp);refine J30 arow hH1.symm b1 b2 g1 q8 q9 q11 n1 hH2.symm x2 hrowh hgh1 hH3.symm n3 (And.intro x3 g3) (And.intro hgl3 hrowl) (And.intro hH4.symm x4) (And.intro lel5 alel) (And.intro sp0 hH5.symm) (And.intro x5 le3) (And.intro r37 r37g) (And.intro x6 ov2) (And.intro cv2 sp1) (And.intro hH7.symm x7) (And.intro tk2 bsl) (And.intro x8 e20) (And.intro bk g8) (And.intro h8 tkr) (And.intro r14 ra) ?_;exact hfin
   ·have bk':=dT bk;rw[if_pos bk'];obtain⟨v1,h1,Ha,r14a,r14ag,⟨G1,O1⟩,sa1⟩:=ih a oM (a:Int) H8 row (by rw[Int.toNat_natCast];exact lR) (hRF H8 s8) lrow arow;have na:=sa1.next;obtain⟨v5,h5,Hb,ra1,rag1,O5,w5⟩:=(O0.keep sa1).app (x:=v1) (n:=Ha.next) O1.own.sl (fun j hj=>by
     have:=O1.fr j hj;exact⟨oM,this.2.1,by rw[I6];omega⟩) (by rw[List.length_singleton];omega) oM
    have nb:=w5.next;obtain⟨Hk,hHk,nk,-⟩:=pushE Hb (.cells [iV 3,.string eB,.string eB,nS,.string eB] true 5);have sk:i4 Hb.next Hb Hk:=by rw[hHk];exact i4.push lR
    have bsk:bsA prog (some 51) Hb 1 [(0,.agg #[iV 3,.string eB,.string eB,nS,.string eB])]=some (.slice (some ⟨Hb.next,0,none⟩) 1 1,Hk):=by
     rw[hHk];simp only[C7,aG,C8];rfl
    have Ok:t7 Hk H.next 5 (EvO Hk fun _=>False) (.slice (some ⟨Hb.next,0,none⟩) 1 1) [zI]:=by
     rw[hHk];exact t7.fresh rfl oM (D2.one rfl ⟨_,rfl,.inl ⟨rfl,rfl⟩⟩)
    obtain⟨v6,h6,Hd,rc,rcg,O6,w6⟩:=(O5.keep sk).app (x:= .slice (some ⟨Hb.next,0,none⟩) 1 1) (n:=Hk.next) (G2:=fun _=>False) Ok.sl (fun j hj=>hj.elim) (by simp only[List.length_append,List.length_singleton];omega) oM;have nd:=w6.next;have sd:i4 H.next H Hd:=s8.trans ((sa1.weaken oM).trans (w5.stay.trans ((sk.weaken oM).trans w6.stay)));have lowd:H.next≤Hd.low:=w6.stay.lowAll _ lR (sk.lowAll _ oM (w5.stay.lowAll _ lR (sa1.lowAll _ oM low8)));have yd:∀j,j<H.next+2→Hd.get j=H8.get j:=fun j hj=>by
     have e5:¬j9 v5 j:=fun q=>by
      rcases w5.new j q with q|q
      ·rw[I6]at q;omega
      ·omega
     rw[w6.but j oM e5,sk.get j oM,w5.but j oM (by rw[I6];omega),sa1.get j oM]
    have gd:=(yd H.next oM).trans g8;have hd:=(yd (H.next+1) oM).trans h8;have ga:Ha.get (H.next+1)=cE [iV i,iV a,iV b] 1:=(sa1.get _ oM).trans h8;obtain⟨v,h,v',h',r14,ra,hfin⟩:=fin Hd v6 _ _ sd lowd O6 (by simp only[List.length_append,List.length_singleton];omega) (by simp only[List.length_append,List.length_singleton];omega);have ha1:eD r (a+1) a=eD r n a:=nR hg _ _ _ (by rw[Int.toNat_natCast];omega) (by rw[Int.toNat_natCast];omega);rw[ha1,List.append_assoc [e]]at hfin;refine J30 arow hH1.symm b1 b2 g1 q8 (And.intro q9 q11) (And.intro n1 hH2.symm) (And.intro x2 hrowh) (And.intro hgh1 hH3.symm) (And.intro n3 x3) (And.intro g3 hgl3) (And.intro hrowl hH4.symm) (And.intro x4 lel5) (And.intro alel sp0) (And.intro hH5.symm x5) (And.intro le3 r37) (And.intro r37g x6) (And.intro ov2 cv2) (And.intro sp1 hH7.symm) (And.intro x7 tk2) (And.intro bsl x8) (And.intro e20 bk) (And.intro g8 h8) (And.intro tkr r14a) (And.intro r14ag ra1) (And.intro rag1 bsk) (And.intro rc rcg) (And.intro gd hd) (And.intro r14 ra) ?_;exact hfin
  ·rw[if_pos (.inr (dT b2))];refine J6 arow hH1.symm b1 b2 g1 q9 ?_;have hl1:H.next≤H1.low:=by rw[hH1];exact lR
   refine D7 (fun _ _=>nilR) ?_;exact⟨⟨fun _=>False,⟨[],.inl ⟨rfl,rfl,rfl⟩,D2.nil⟩,fun j hj=>hj.elim⟩,s1.ret hl1⟩
 ·rw[if_pos (.inl (dT b1))];refine J3 arow hH1.symm b1 ?_;have hl1:H.next≤H1.low:=by rw[hH1];exact lR
  refine D7 (fun _ _=>nilR) ?_;exact⟨⟨fun _=>False,⟨[],.inl ⟨rfl,rfl,rfl⟩,D2.nil⟩,fun j hj=>hj.elim⟩,s1.ret hl1⟩
def rn(r:ReD)(e:EvD)(f n:Int):Int:=if iH r.sorts e.kind f n then ixG (fun y=>fo (Y8 r.strat e (r.sorts.getD f.toNat soZ) (r.sorts.getD n.toNat soZ)) y) r.sorts 0 else -1
theorem Bv(Hs:d9)(lo K:Nat)(r:ReD)(N:Nat)(hwf:WfR r N)(H:d9)(row:LV)(hR:aD H (· <H.next) (QR Hs lo K false) (QR Hs lo K true) row r)(hlo:lo≤H.next)(heq:∀j,j<lo→H.get j=Hs.get j) (arow:row.all Value.oneCell'=true) (el:LV) (e:EvD) (he:EvF H (· <H.next) el e) (hat:e.attrs.length≤1000000) (f n:Int):
  CL prog t6 18 [.agg row.toArray,.agg el.toArray,iV f,iV n] H=some (.int .i64 (rn r e f n),none):=by
 obtain⟨rs,vl,w1,w2,w3,hrow,hst,hlb,hso,hsz,hho⟩:=hR;obtain⟨pa,pc,ga,gc,xa,xc,ea,ec,ta,tc,hrs,_⟩:=N3 hst;have lrs:rs.length=8:=by rw[hrs];rfl
 have lrow:row.length=12:=by rw[hrow];simp [lrs]
 have q9:row[9]?=some w1:=by rw[hrow,List.getElem?_append_right oM,lrs];rfl
 obtain⟨av,hav,hsl⟩:=id he;have lel:el.length=5:=by rw[hav];rfl
 have ael:el.all Value.oneCell'=true:=by
  obtain⟨aa,ac,rfl⟩:=hsl.slice;rw[hav];rfl
 have el0:el[0]?=some (.int .i64 e.kind):=by rw[hav];rfl
 have tkr:row.take 12=row:=List.take_of_length_le oM;have tk5:el.take 5=el:=List.take_of_length_le oM;have lds:ldC (some true) (some 8) 0 row=some (.agg rs.toArray):=by
  rw[eX _ _ _ oM,hrow,List.drop_zero,List.take_append_of_le_length oM,List.take_of_length_le oM]
 obtain⟨H1,hH1,n1,-⟩:=pushF H (.cells row true 1);obtain⟨H2,hH2⟩:∃K,K=H1.push (.cells el true 1):=⟨_,rfl⟩
 have n2:H2.next=H.next+2:=by rw[hH2,i5,n1]
 have hS:i4 H.next H H2:=by rw[hH2,hH1];exact(i4.first H _).trans (i4.push (by rw[i5];exact Nat.le_succ _))
 have g1:H2.get H.next=cE row 1:=by rw[hH2,j6 oM,hH1];exact i7
 have g2:H2.get (H.next+1)=cE el 1:=by rw[hH2,←n1];exact i7
 have hlow:H2.low=H.next:=by rw[hH2,hH1];rfl
 have hso2:SlI H2 H2.next 3 (v8 soE) w1 r.sorts:=hso.mono (fun j hj=>hS.get j hj) (fun j hj=>oM) iF;have m40:=GG H2 H.next row true 1 g1 r.sorts w1 hso2 q9 el e lel ael el0 f n;rw[j8 aa7 rfl _ (by simp),rn];rcases bm:iH r.sorts e.kind f n with _|_
 ·rw[bm]at m40;exact J8 arow ael hH1.symm n1 hH2.symm g2 tk5 m40 trivial
 ·rw[bm]at m40;have bm':=bm;simp only[iH,knB,Bool.and_eq_true,decide_eq_true_eq]at bm';obtain⟨⟨⟨ha0,ha1⟩,hb0,hb1⟩,_⟩:=bm';have hso3:=hso2;obtain⟨sa,sc,rfl⟩:=hso2.slice;obtain⟨fi,nba,oa,csa,owna,ela,hxa,_,e1,hFa,hga,hlea,hrowa,hca,hfi⟩:=hso3.row (i:=f.toNat) oM;obtain⟨ne,nbb,ob,csb,ownb,elb,hxb,_,e2,hFb,hgb,hleb,hrowb,hcb,hne⟩:=hso3.row (i:=n.toNat) oM;obtain rfl:ela=soE fi:=hfi;obtain rfl:elb=soE ne:=hne;subst e1;cases e2;rw[hga]at hgb;cases hgb;have hga1:r.sorts.getD f.toNat soZ=fi:=by rw[List.getD_eq_getElem?_getD,hxa];rfl
  have hgb1:r.sorts.getD n.toNat soZ=ne:=by rw[List.getD_eq_getElem?_getD,hxb];rfl
  have hks:=nu Hs lo K r.strat e fi ne (· <H.next) H2 rs el (hst.mono (fun j hj=>hS.get j hj) (fun _ h=>h) iF iF) (w9 _ _ _ _ _ _ he (fun j hj=>hS.get j hj) (fun _ h=>h)) (fun j hj=>oM) (fun j hj=>by rw[hS.get j oM];exact heq j hj) oM N hwf.n0 hwf.st (hwf.so fi (List.mem_of_getElem? hxa)) (hwf.so ne (List.mem_of_getElem? hxb)) hat hwf.sz;have hl1:=hwf.l1;have hfd:=tv H2 row r.sorts _ hso3 lrow arow q9 oM (Y8 r.strat e fi ne);rw[hga1,hgb1];exact J17 arow ael hH1.symm n1 hH2.symm g1 g2 tk5 tkr m40 lds q9 hga hrowa hrowb hks hfd trivial
end Go.Proofs.YtofbhlhamfkljaaGreatDoor.Ve
namespace Go.Proofs.YtofbhlhamfkljaaGreatDoor.Ve
open Go Ab
open Go.Proofs.Tryz (prog)
set_option linter.unusedVariables false
set_option linter.unusedSimpArgs false
set_option maxRecDepth 1000000
set_option maxHeartbeats 0
abbrev YV:=cC (T 13) (cS (cO [N 14 (cf 9 #[] #[]),A 2 14]) .ret) .skip
abbrev YW:=cS (cO [M 25 4,M 26 6,N 27 (bo .eql 3 25 26 3),M 28 27,Y 28 29 (ld' 39 3),Y 28 30 (ld' 39 5),Y 28 31 (c2 13 29 30 39 39),N 32 (pa 28 31),A 2 32]) .ret
abbrev YX:=cS (cO [L 21 25 1,N 22 (c1 12 21 25),M 20 22,N 23 (ex 20 0),N 24 (ex 20 1),N 5 (.alloc 39),V (st' 39 5 23),A 6 24]) YW
abbrev YY:=cS (cO [L 16 25 1,N 17 (c1 11 16 25),M 15 17,N 18 (ex 15 0),N 19 (ex 15 1),N 3 (.alloc 39),V (st' 39 3 18),A 4 19]) YX
abbrev YZ:=cS (cS (cO [N 7 (cf 9 #[] #[]),N 8 (nt' 4 7),M 9 8,Z 9 10 (ld' 25 1),Z 9 11 (c1 10 10 25),Z 9 12 (nt' 4 11),N 13 (po 9 12)]) YV) YY
abbrev f3:=cS (cO [N 1 (bx 25 0),N 2 (.assign B0)]) YZ
abbrev Zc:=cC (T 15) (cS (cO [N 16 (cf 9 #[] #[]),A 2 16]) .ret) .skip
abbrev Zd:=cO [M 49 8,N 50 (bk .add 3 49 1 3),A 8 50]
abbrev Ze:=cS (cB 3 (cO [M 51 6,M 52 7,N 53 (ia 35 51 52),F 54 51 53 2,L 55 49 54,M 56 8,N 57 (ia 49 55 56),F 58 53 57 1,V (.store 9 (T 58) (.const (.string ⟨#[115,112,111,105,108,116]⟩)))])) Zd
abbrev Za:=cS (cS (cO [M 41 8,M 42 6,M 43 7,N 44 (ia 35 42 43),F 45 51 44 2,L 46 49 45,N 47 (ln 46 49),N 48 (bo .lss 3 41 47 3)]) (cC (T 48) .skip (.exit 2))) Ze
abbrev Zf:=cO [M 35 7,N 36 (bk .add 3 35 1 3),A 7 36]
abbrev Zg:=cS (cB 1 (cS (cO [M 37 6,M 38 7,N 39 (ia 35 37 38),F 40 51 39 3,V (.store 9 (T 40) (.const (.string ⟨#[115,112,111,105,108,116]⟩)))]) (cS (cO [N 8 (ak 0)]) (cW 2 Za)))) Zf
abbrev Zb:=cS (cS (cO [M 31 7,M 32 6,N 33 (ln 32 35),N 34 (bo .lss 3 31 33 3)]) (cC (T 34) .skip (.exit 0))) Zg
abbrev Zh:=cS (.mix [m1 (L 59 39 3),m0 (M 60 5),m3 (N 61 (c2 14 59 60 39 3)) 0 1,⟨L 62 39 3,false,true,0,1⟩,m2 (M 63 5) 0 1,m3 (N 64 (c2 16 62 63 39 3)) 1 2,m3 (N 65 (c2 15 61 64 35 35)) 2 3,m2 (A 2 65) 3 3]) .ret
abbrev Zi:=cS (cO [L 28 39 3,M 29 5,N 30 (c2 14 28 29 39 3),A 6 30]) (cS (cS (cO [N 7 (ak 0)]) (cW 0 Zb)) Zh)
abbrev Zj:=cS (cO [F 24 39 3 2,L 25 36 24,N 26 (ln 25 36),N 27 (bk .sub 3 26 1 3),A 5 27]) Zi
abbrev Zk:=cS (cS (cO [M 22 4,N 23 (bk .neq 40 22 0 40)]) (cC (T 23) (cS (cO [N 2 (.assign B1)]) .ret) .skip)) Zj
abbrev Zl:=cS (cO [L 18 25 1,N 19 (c1 11 18 25),M 17 19,N 20 (ex 17 0),N 21 (ex 17 1),N 3 (.alloc 39),V (st' 39 3 20),A 4 21]) Zk
abbrev RI:=cS (cS (cO [N 9 (cf 9 #[] #[]),N 10 (nt' 4 9),M 11 10,Z 11 12 (ld' 25 1),Z 11 13 (c1 10 12 25),Z 11 14 (nt' 4 13),N 15 (po 11 14)]) Zc) Zl
abbrev f4:=cS (cO [N 1 (bx 25 0),N 2 (.assign B0)]) RI
abbrev Zm:=cC (T 13) (cS (cO [N 14 (cf 9 #[] #[]),A 2 14]) .ret) .skip
abbrev Zn:=cS (.draw [(L 114 39 3,false),(F 115 39 3 1,false),(L 116 35 115,false),(F 117 56 6 0,false),(L 118 3 117,false),(N 119 (ia 35 116 118),false),(L 120 51 119,false),(F 121 56 6 1,false),(L 122 3 121,false),(F 123 56 6 2,false),(L 124 3 123,false),(N 125 (cf 18 #[T 114,T 120,T 122,T 124] #[39,51,3,3]),false),(M 126 5,false),(N 127 (bo .neq 3 125 126 3),true)]) (cC (T 127) (cS (cO [N 2 (.assign B0)]) .ret) .skip)
abbrev Zo:=cS (cS (.draw [(F 34 56 6 1,false),(L 35 3 34,false),(N 36 (bk .lss 3 35 0 3),false),(M 37 36,false),(Z 37 38 (fa 56 6 1),false),(Z 37 39 (ld' 3 38),false),(Z 37 40 (mv 5),false),(Z 37 41 (bo .geq 3 39 40 3),false),(N 42 (po 37 41),false),(M 43 42,false),(Z 43 44 (fa 56 6 2),false),(Z 43 45 (ld' 3 44),false),(Z 43 46 (bk .lss 3 45 0 3),false),(N 47 (po 43 46),false),(M 48 47,false),(Z 48 49 (fa 56 6 2),false),(Z 48 50 (ld' 3 49),false),(Z 48 51 (mv 5),false),(Z 48 52 (bo .geq 3 50 51 3),false),(N 53 (po 48 52),false),(M 54 53,false),(Z 54 55 (fa 56 6 0),false),(Z 54 56 (ld' 3 55),false),(Z 54 57 (bk .lss 3 56 0 3),false),(N 58 (po 54 57),false),(M 59 58,false),(Z 59 60 (fa 56 6 0),false),(Z 59 61 (ld' 3 60),false),(Z 59 62 (fa 39 3 1),false),(Z 59 63 (ld' 35 62),false),(Z 59 64 (ln 63 35),false),(Z 59 65 (bo .geq 3 61 64 3),false),(N 66 (po 59 65),false),(M 67 66,false),(Z 67 68 (fa 39 3 3),false),(Z 67 69 (ld' 29 68),false),(Z 67 70 (mv 5),false),(Z 67 71 (ia 29 69 70),false),(Z 67 72 (ld' 3 71),false),(Z 67 73 (fa 39 3 3),false),(Z 67 74 (ld' 29 73),false),(Z 67 75 (fa 56 6 1),false),(Z 67 76 (ld' 3 75),false),(Z 67 77 (ia 29 74 76),false),(Z 67 78 (ld' 3 77),false),(Z 67 79 (fa 39 3 3),false),(Z 67 80 (ld' 29 79),false),(Z 67 81 (fa 56 6 2),false),(Z 67 82 (ld' 3 81),false),(Z 67 83 (ia 29 80 82),false),(Z 67 84 (ld' 3 83),false),(Z 67 85 (bo .add 3 78 84 3),false),(Z 67 86 (bk .add 3 85 1 3),false),(Z 67 87 (bo .neq 3 72 86 3),false),(N 88 (po 67 87),false),(M 89 88,false),(Z 89 90 (fa 39 3 3),false),(Z 89 91 (ld' 29 90),false),(Z 89 92 (mv 5),false),(Z 89 93 (ia 29 91 92),false),(Z 89 94 (ld' 3 93),false),(Z 89 95 (fa 39 3 3),false),(Z 89 96 (ld' 29 95),false),(Z 89 97 (mv 5),false),(Z 89 98 (bk .sub 3 97 1 3),false),(Z 89 99 (ia 29 96 98),false),(Z 89 100 (ld' 3 99),false),(Z 89 101 (bo .lss 3 94 100 3),false),(N 102 (po 89 101),false),(M 103 102,false),(Z 103 104 (ld' 39 3),false),(Z 103 105 (fa 39 3 2),false),(Z 103 106 (ld' 36 105),false),(Z 103 107 (mv 5),false),(Z 103 108 (ia 36 106 107),false),(Z 103 109 (ld' 59 108),false),(Z 103 110 (c2 17 104 109 39 59),false),(Z 103 111 (mv 5),false),(Z 103 112 (bo .neq 3 110 111 3),true),(N 113 (po 103 112),true)]) (cC (T 113) (cS (cO [N 2 (.assign B0)]) .ret) .skip)) Zn
abbrev Zp:=cO [M 27 5,N 28 (bk .add 3 27 1 3),A 5 28]
abbrev Zq:=cS (cB 1 (cS (cO [F 29 39 3 4,L 30 37 29,M 31 5,N 32 (ia 37 30 31),L 33 56 32,N 6 (.alloc 56),V (st' 56 6 33)]) Zo)) Zp
abbrev SL:=cS (cS (cO [M 22 5,F 23 39 3 2,L 24 36 23,N 25 (ln 24 36),N 26 (bo .lss 3 22 25 3)]) (cC (T 26) .skip (.exit 0))) Zq
abbrev Zr:=cS (cO [F 128 39 3 2,L 129 36 128,N 130 (ln 129 36),N 131 (bk .leq 3 130 25 3),M 132 131,Y 132 133 (fa 39 3 2),Y 132 134 (ld' 36 133),Y 132 135 (.indexAddr 36 (T 134) (K 0)),Y 132 136 (ld' 59 135),Y 132 137 (.build 59 #[]),Y 132 138 (bo .eql 59 136 137 59),N 139 (pa 132 138),A 2 139]) .ret
abbrev Zs:=cS (cS (cO [M 20 4,N 21 (bk .neq 40 20 0 40)]) (cC (T 21) (cS (cO [N 2 (.assign B1)]) .ret) .skip)) (cS (cS (cO [N 5 (ak 1)]) (cW 0 SL)) Zr)
abbrev Zt:=cS (cO [L 16 25 1,N 17 (c1 11 16 25),M 15 17,N 18 (ex 15 0),N 19 (ex 15 1),N 3 (.alloc 39),V (st' 39 3 18),A 4 19]) Zs
abbrev Zu:=cS (cS (cO [N 7 (cf 9 #[] #[]),N 8 (nt' 4 7),M 9 8,Z 9 10 (ld' 25 1),Z 9 11 (c1 10 10 25),Z 9 12 (nt' 4 11),N 13 (po 9 12)]) Zm) Zt
abbrev f5:=cS (cO [N 1 (bx 25 0),N 2 (.assign B0)]) Zu
theorem fn5:fnL prog 5=some (f5,140,[ResultVar.tmp 2]):=kR
abbrev Zv:=cC (T 28) (cS (cO [N 29 (cf 9 #[] #[]),A 10 29]) .ret) .skip
abbrev Zw:=cS (cO [M 97 14,N 98 (bk .lss 3 97 0 3)]) (cC (T 98) (cS (cO [N 10 (.assign B0)]) .ret) .skip)
abbrev Zx:=cC (T 79) (cS (.mix [m2 (F 80 39 11 2) 0 1,⟨L 81 36 80,false,true,0,1⟩,m0 (F 82 39 11 0),m1 (L 83 34 82),m1 (L 84 51 6),m0 (F 85 39 11 2),m1 (L 86 36 85),m0 (M 87 2),m0 (N 88 (ia 36 86 87)),m1 (L 89 59 88),m0 (F 90 39 11 2),m1 (L 91 36 90),m0 (M 92 3),m0 (N 93 (ia 36 91 92)),m1 (L 94 59 93),m3 (N 95 (cf 21 #[T 83,T 84,T 89,T 94] #[34,51,59,59])) 0 1,m3 (N 96 (c2 20 81 95 36 59)) 1 2,m2 (A 14 96) 2 2]) Zw) .skip
abbrev Zy:=cS (.mix [m1 (L 100 39 11),m1 (L 101 51 6),m0 (M 102 2),m0 (M 103 3),m3 (N 104 (cf 18 #[T 100,T 101,T 102,T 103] #[39,51,3,3])) 0 1,m2 (M 105 14) 0 1,m2 (N 106 (bo .eql 3 104 105 3)) 1 1,m2 (M 107 106) 1 1,⟨Y 107 108 (ld' 39 11),false,true,1,1⟩,⟨Y 107 109 (ld' 51 6),false,true,1,1⟩,m2 (Y 107 110 (mv 3)) 1 1,m3 (Y 107 111 (cf 22 #[T 108,T 109,T 110] #[39,51,3])) 1 2,m2 (Y 107 112 (mv 15)) 1 2,m2 (Y 107 113 (bo .eql 4 111 112 4)) 2 2,m2 (N 114 (pa 107 113)) 2 2,m2 (M 115 114) 2 2,⟨Y 115 116 (ld' 39 11),false,true,2,2⟩,m2 (Y 115 117 (mv 4)) 2 2,m3 (Y 115 118 (c2 14 116 117 39 3)) 2 3,⟨Y 115 119 (ld' 39 11),false,true,2,3⟩,m2 (Y 115 120 (mv 4)) 2 3,m3 (Y 115 121 (c2 16 119 120 39 3)) 3 4,m3 (Y 115 122 (c2 15 118 121 35 35)) 4 5,m2 (N 123 (pa 115 122)) 5 5,m2 (M 124 123) 5 5,⟨Y 124 125 (ld' 39 11),false,true,5,5⟩,⟨Y 124 126 (ld' 59 16),false,true,5,5⟩,m3 (Y 124 127 (c2 17 125 126 39 59)) 5 6,m2 (Y 124 128 (fa 39 11 2)) 5 6,⟨Y 124 129 (ld' 36 128),false,true,5,6⟩,⟨Y 124 130 (ld' 59 16),false,true,5,6⟩,m3 (Y 124 131 (c2 20 129 130 36 59)) 6 7,m2 (Y 124 132 (bo .eql 3 127 131 3)) 7 7,m2 (N 133 (pa 124 132)) 7 7,m2 (A 10 133) 7 7]) .ret
abbrev Zz:=cS (cO [N 99 (.build 59 {toList:=[(0,B1),(2,.const (.string ⟨#[120]⟩))]}),N 16 (.alloc 59),V (st' 59 16 99)]) Zy
abbrev ZA:=cS (cS (cO [M 61 15,M 62 61,Y 62 63 (mv 2),Y 62 64 (bk .geq 3 63 0 3),N 65 (pa 62 64),M 66 65,Y 66 67 (mv 2),Y 66 68 (mv 13),Y 66 69 (bo .lss 3 67 68 3),N 70 (pa 66 69),M 71 70,Y 71 72 (fa 51 6 0),Y 71 73 (ld' 3 72),Y 71 74 (bk .eql 3 73 1 3),Y 71 75 (mv 74),Z 75 76 (mv 2),Z 75 77 (bk .eql 3 76 0 3),Y 71 78 (po 75 77),N 79 (pa 71 78)]) Zx) Zz
abbrev ZB:=cS (cO [M 40 3,N 41 (bk .geq 3 40 0 3),M 42 41,Y 42 43 (mv 3),Y 42 44 (mv 13),Y 42 45 (bo .lss 3 43 44 3),N 46 (pa 42 45),M 47 46,Y 47 48 (fa 51 6 0),Y 47 49 (ld' 3 48),Y 47 50 (bk .eql 3 49 1 3),Y 47 51 (mv 50),Z 51 52 (fa 39 11 2),Z 51 53 (ld' 36 52),Z 51 54 (mv 3),Z 51 55 (ia 36 53 54),Z 51 56 (fa 59 55 1),Z 51 57 (ld' 4 56),Z 51 58 (nt' 4 57),Y 47 59 (po 51 58),N 60 (pa 47 59),A 15 60]) ZA
abbrev ZC:=cS (cO [F 37 39 11 2,L 38 36 37,N 39 (ln 38 36),A 13 39]) (cS (cO [N 14 (ak (-1))]) ZB)
abbrev ZD:=cS (cS (cO [M 35 12,N 36 (bk .neq 40 35 0 40)]) (cC (T 36) (cS (cO [N 10 (.assign B1)]) .ret) .skip)) ZC
abbrev ZE:=cS (cO [L 31 25 5,N 32 (c1 11 31 25),M 30 32,N 33 (ex 30 0),N 34 (ex 30 1),N 11 (.alloc 39),V (st' 39 11 33),A 12 34]) ZD
abbrev Ty:=cS (cS (cO [N 17 (cf 9 #[] #[]),N 18 (nt' 4 17),M 19 18,Z 19 20 (ld' 25 5),Z 19 21 (c1 10 20 25),Z 19 22 (nt' 4 21),N 23 (po 19 22),M 24 23,Z 24 25 (ld' 51 6),Z 24 26 (c1 19 25 51),Z 24 27 (nt' 4 26),N 28 (po 24 27)]) Zv) ZE
abbrev f6:=cS (cO [N 5 (bx 25 0),N 6 (bx 51 1),N 10 (.assign B0)]) Ty
abbrev ZG:=cC (T 15) (cS (cO [N 16 (cf 9 #[] #[]),A 2 16]) .ret) .skip
abbrev ZH:=cC (T 23) (cS (cO [M 24 4,N 25 (bk .eql 40 24 13 40),M 26 25,Y 26 27 (fa 39 3 2),Y 26 28 (ld' 36 27),Y 26 29 (ln 28 36),Y 26 30 (bk .eql 3 29 0 3),N 31 (pa 26 30),A 2 31]) .ret) .skip
abbrev ZI:=cS (.draw [(M 75 5,false),(N 76 (bk .gtr 3 75 0 3),false),(M 77 76,false),(Y 77 78 (mv 8),false),(Y 77 79 (.indexAddr 36 (T 78) (K 1)),false),(Y 77 80 (ld' 59 79),false),(Y 77 81 (fa 39 3 2),false),(Y 77 82 (ld' 36 81),false),(Y 77 83 (mv 5),false),(Y 77 84 (ia 36 82 83),false),(Y 77 85 (ld' 59 84),false),(Y 77 86 (bo .neq 59 80 85 59),true),(N 87 (pa 77 86),true)]) (cC (T 87) (cS (cO [N 2 (.assign B0)]) .ret) .skip)
abbrev ZJ:=cS (cS (cO [M 58 8,N 59 (ln 58 36),F 60 39 3 3,L 61 29 60,M 62 5,N 63 (ia 29 61 62),L 64 3 63,N 65 (bk .add 3 64 1 3),N 66 (bo .neq 3 59 65 3),M 67 66,Z 67 68 (mv 5),Z 67 69 (bk .eql 3 68 0 3),Z 67 70 (mv 6),Z 67 71 (ln 70 35),Z 67 72 (bk .eql 3 71 0 3),Z 67 73 (bo .neq 4 69 72 4),N 74 (po 67 73)]) (cC (T 74) (cS (cO [N 2 (.assign B0)]) .ret) .skip)) ZI
abbrev ZK:=cS (cS (cO [F 52 39 3 3,L 53 29 52,M 54 5,N 55 (ia 29 53 54),L 56 3 55,N 57 (bk .gtr 3 56 40 3)]) (cC (T 57) (.exit 1) .skip)) ZJ
abbrev ZL:=cS (cO [F 48 39 3 0,L 49 34 48,M 50 7,N 51 (c2 24 49 50 34 35),A 8 51]) ZK
abbrev ZM:=cS (cO [M 46 6,N 47 (c1 23 46 35),A 7 47]) ZL
abbrev ZN:=cO [M 41 5,N 42 (bk .add 3 41 1 3),A 5 42]
abbrev ZO:=cS (cB 1 (cS (cO [L 43 39 3,M 44 5,N 45 (c2 14 43 44 39 3),A 6 45]) ZM)) ZN
abbrev ZF:=cS (cS (cO [M 32 5,F 33 39 3 2,L 34 36 33,N 35 (ln 34 36),N 36 (bo .lss 3 32 35 3),M 37 36,Y 37 38 (mv 5),Y 37 39 (bk .lss 3 38 12 3),N 40 (pa 37 39)]) (cC (T 40) .skip (.exit 0))) ZO
abbrev ZP:=cS (cS (cO [N 5 (ak 0)]) (cW 0 ZF)) (cS (cO [N 2 (.assign B1)]) .ret)
abbrev Uj:=cS (cS (cO [M 22 4,N 23 (bk .neq 40 22 0 40)]) ZH) ZP
abbrev Uk:=cS (cO [L 18 25 1,N 19 (c1 11 18 25),M 17 19,N 20 (ex 17 0),N 21 (ex 17 1),N 3 (.alloc 39),V (st' 39 3 20),A 4 21]) Uj
abbrev Ul:=cS (cS (cO [N 9 (cf 9 #[] #[]),N 10 (nt' 4 9),M 11 10,Z 11 12 (ld' 25 1),Z 11 13 (c1 10 12 25),Z 11 14 (nt' 4 13),N 15 (po 11 14)]) ZG) Uk
abbrev f7:=cS (cO [N 1 (bx 25 0),N 2 (.assign B0)]) Ul
abbrev ZR:=cC (T 35) (cS (cO [N 36 (cf 9 #[] #[]),A 4 36]) .ret) .skip
abbrev ZS:=cC (T 82) (.mix [⟨L 83 39 5,false,true,0,1⟩,m2 (M 84 7) 0 1,m0 (M 85 1),m0 (M 86 9),m0 (N 87 (bk .add 3 86 1 3)),m3 (N 88 (c2 27 85 87 35 3)) 0 1,m2 (N 89 (ia 36 84 88)) 1 1,⟨L 90 59 89,false,true,1,1⟩,m3 (N 91 (c2 17 83 90 39 59)) 1 2,m2 (A 10 91) 2 2]) .skip
abbrev ZT:=cC (T 104) (.mix [⟨L 105 39 5,false,true,0,1⟩,m2 (M 106 7) 0 1,m0 (M 107 1),m0 (M 108 12),m3 (N 109 (c2 27 107 108 35 3)) 0 1,m2 (N 110 (ia 36 106 109)) 1 1,⟨L 111 59 110,false,true,1,1⟩,m3 (N 112 (c2 17 105 111 39 59)) 1 2,m2 (A 11 112) 2 2]) .skip
abbrev ZU:=cS (.draw [(M 121 13,false),(N 122 (bk .lss 3 121 1 3),false),(M 123 122,false),(Z 123 124 (mv 10),false),(Z 123 125 (bk .lss 3 124 0 3),false),(N 126 (po 123 125),false),(M 127 126,false),(Z 127 128 (mv 11),false),(Z 127 129 (bk .lss 3 128 0 3),false),(N 130 (po 127 129),false),(M 131 130,false),(Z 131 132 (ld' 39 5),false),(Z 131 133 (mv 1),false),(Z 131 134 (mv 9),false),(Z 131 135 (ia 35 133 134),false),(Z 131 136 (ld' 51 135),false),(Z 131 137 (mv 10),false),(Z 131 138 (mv 11),false),(Z 131 139 (cf 18 #[T 132,T 136,T 137,T 138] #[39,51,3,3]),false),(Z 131 140 (mv 13),false),(Z 131 141 (bo .neq 3 139 140 3),true),(N 142 (po 131 141),true)]) (cC (T 142) (cS (cO [N 4 (.assign B0)]) .ret) .skip)
abbrev ZV:=cS (.mix [⟨L 113 39 5,false,true,0,1⟩,m2 (M 114 7) 0 1,m0 (M 115 1),m0 (M 116 9),m3 (N 117 (c2 27 115 116 35 3)) 0 1,m2 (N 118 (ia 36 114 117)) 1 1,⟨L 119 59 118,false,true,1,1⟩,m3 (N 120 (c2 17 113 119 39 59)) 1 2,m2 (A 13 120) 2 2]) ZU
abbrev ZW:=cS (cS (cO [M 95 9,N 96 (bk .gtr 3 95 0 3),M 97 96,Y 97 98 (mv 1),Y 97 99 (mv 12),Y 97 100 (ia 35 98 99),Y 97 101 (fa 51 100 0),Y 97 102 (ld' 3 101),Y 97 103 (bk .neq 3 102 3 3),N 104 (pa 97 103)]) ZT) ZV
abbrev ZX:=cS (cO [M 92 1,M 93 9,N 94 (c2 28 92 93 35 3),A 12 94]) ZW
abbrev ZY:=cS (cS (cO [M 68 1,M 69 9,N 70 (ia 35 68 69),F 71 51 70 0,L 72 3 71,N 73 (bk .eql 3 72 1 3),M 74 73,Y 74 75 (mv 1),Y 74 76 (mv 9),Y 74 77 (bk .add 3 76 1 3),Y 74 78 (ia 35 75 77),Y 74 79 (fa 51 78 0),Y 74 80 (ld' 3 79),Y 74 81 (bk .neq 3 80 3 3),N 82 (pa 74 81)]) ZS) (cS (cO [N 11 (ak 0)]) ZX)
abbrev ZZ:=cO [M 60 9,N 61 (bk .add 3 60 1 3),A 9 61]
abbrev aa0:=cS (cB 1 (cS (cS (cO [M 62 1,M 63 9,N 64 (ia 35 62 63),F 65 51 64 0,L 66 3 65,N 67 (bk .eql 3 66 3 3)]) (cC (T 67) (.exit 1) .skip)) (cS (cO [N 10 (ak 0)]) ZY))) ZZ
abbrev ZQ:=cS (cS (cO [M 56 9,M 57 1,N 58 (ln 57 35),N 59 (bo .lss 3 56 58 3)]) (cC (T 59) .skip (.exit 0))) aa0
abbrev Vf:=cS (cS (cO [N 9 (ak 0)]) (cW 0 ZQ)) (cS (cO [N 4 (.assign B1)]) .ret)
abbrev Vg:=cS (cS (cO [M 52 7,N 53 (ln 52 36),M 54 8,N 55 (bo .neq 3 53 54 3)]) (cC (T 55) (cS (cO [N 4 (.assign B0)]) .ret) .skip)) Vf
abbrev Vh:=cS (cO [M 48 1,M 49 1,N 50 (ln 49 35),N 51 (c2 27 48 50 35 3),A 8 51]) Vg
abbrev Vi:=cS (cO [F 44 39 5 0,L 45 34 44,M 46 1,N 47 (c2 24 45 46 34 35),A 7 47]) Vh
abbrev Vj:=cS (cS (cO [M 42 6,N 43 (bk .neq 40 42 0 40)]) (cC (T 43) (cS (cO [N 4 (.assign B1)]) .ret) .skip)) Vi
abbrev Vk:=cS (cO [L 38 25 2,N 39 (c1 11 38 25),M 37 39,N 40 (ex 37 0),N 41 (ex 37 1),N 5 (.alloc 39),V (st' 39 5 40),A 6 41]) Vj
abbrev Vl:=cS (cS (cO [N 14 (cf 9 #[] #[]),N 15 (nt' 4 14),M 16 15,Z 16 17 (ld' 25 2),Z 16 18 (c1 10 17 25),Z 16 19 (nt' 4 18),N 20 (po 16 19),M 21 20,Z 21 22 (mv 1),Z 21 23 (ln 22 35),Z 21 24 (bk .gtr 3 23 40 3),N 25 (po 21 24),M 26 25,Z 26 27 (mv 1),Z 26 28 (c1 25 27 35),Z 26 29 (nt' 4 28),N 30 (po 26 29),M 31 30,Z 31 32 (mv 1),Z 31 33 (c1 26 32 35),Z 31 34 (nt' 4 33),N 35 (po 31 34)]) ZR) Vk
abbrev f8:=cS (cO [N 2 (bx 25 0),N 4 (.assign B0)]) Vl
end Go.Proofs.YtofbhlhamfkljaaGreatDoor.Ve
namespace Go.Proofs.YtofbhlhamfkljaaGreatDoor.Ve
open Go Go.RowKit
open Go.Proofs.Tryz (prog)
set_option linter.unusedVariables false
set_option linter.unusedSimpArgs false
set_option maxRecDepth 1000000
set_option maxHeartbeats 0
def q0:Q:= .mk 1 eB eB eB [] []
noncomputable def l0:List EvD:=(S8 (spQ q0)).getD []
noncomputable def r0:ReD:=⟨D0 q0,l0,[(false,false,eB),(true,false,eB),(true,true,eB)],[0,1,1],[(0,0,0),(0,0,0),(1,0,0)]⟩
theorem GF:rg q0=some r0:=kR
theorem row0:(eD r0 2 1).length=2:=kR
theorem Wp:ixG (fun y=>fo soZ y) r0.sorts 0=0:=kR
theorem EX(H:d9)(lo k:Nat)(cs:LV)(q:Q)(hlo:lo≤H.next)(hr:QR H lo k false cs q)(hfit:ey q=true→OkD false q∧nQ q≤1000):
  CL prog t6 10 [.agg cs.toArray] H=some (.bool (ey q&&jQ q),none):=by
 have ac:=F0 hr;have ldc:=M8 hr;have l0:=hr.len;simp only[qSz,Bool.false_eq_true,if_false]at l0;rw[l0]at ldc;obtain⟨H1,hH1,n1,-⟩:=pushF H (.cells cs true 1);have s1:i4 H.next H H1:=by rw[hH1];exact i4.first H _
 have g1:H1.get H.next=cE cs 1:=by rw[hH1];exact i7
 have hlow:H1.low=H.next:=by rw[hH1];rfl
 have hr1:QR H1 lo k false cs q:=hr.mono (fun j hj=>s1.get j oM) lR;have h29:=uz H1 lo k cs q oM hr1;rw[j8 aa3 rfl _ (by simp)];rcases b:ey q with _|_
 ·rw[b]at h29;exact J5 ac hH1.symm g1 ldc h29 trivial
 ·rw[b]at h29;obtain⟨hok,hn⟩:=hfit b;have h30:=ux H1 lo k cs q oM hr1 hok hn;exact J6 ac hH1.symm g1 ldc h29 h30 trivial
theorem GW(H:d9):CL prog fK 9 [] H=some (.bool true,none):=by
 have hq:QR ⟨H.bs,H.next⟩ 0 1 false [iV 1,nS,nS] q0:=⟨_,_,rfl,.inl ⟨rfl,rfl⟩,.inl ⟨rfl,rfl⟩,by decide,by decide,by decide,by decide,by decide,fun _=>⟨rfl,rfl,rfl⟩⟩
 have hok:OkD false q0:=⟨1,kR⟩
 obtain⟨v,h,H1,r11,r11g,row,er,rfl,s1,hres⟩:=Bm 1 ⟨H.bs,H.next⟩ 0 _ q0 (Nat.zero_le _) hq hok (by decide);rw[GF]at hres;rcases hres with⟨h0,_⟩|⟨r,h0,rfl,hwf,hR⟩
 ·cases h0
 cases h0;rw[j8 fn9 rfl _ (by simp)];have hR0:=hR;obtain⟨rs,vl,w1,w2,w3,hrow,hst,hlb,hso,hsz,hho⟩:=hR;obtain⟨pa,pc,ga,gc,xa,xc,ea,ec,ta,tc,hrs,_⟩:=N3 hst;have lrs:rs.length=8:=by rw[hrs];rfl
 have lrow:row.length=12:=by rw[hrow];simp [lrs]
 obtain⟨a1,c1,rfl⟩:=hso.slice;obtain⟨a2,c2,rfl⟩:=hsz.slice;obtain⟨a3,c3,rfl⟩:=hho.slice;obtain⟨la,lc,rfl⟩:=hlb.slice;have arow:row.all Value.oneCell'=true:=by rw[hrow,hrs];rfl
 have q9:row[9]?=some (.slice a1 r0.sorts.length c1):=by rw[hrow,List.getElem?_append_right oM,lrs];rfl
 have sp0:splice [nS,nS,nS,iV 0,iV 0,iV 0,nS,nS,nS,nS,nS,nS] 0 row=row:=by rw[hrow,hrs];rfl
 have tkr:row.take 12=row:=List.take_of_length_le oM;have nn:H.next≤H1.next:=s1.next;obtain⟨H2,hH2,n2,x2⟩:=pushE H1 (.cells [nS,nS,nS,iV 0,iV 0,iV 0,nS,nS,nS,nS,nS,nS] true 1);obtain⟨H3,hH3⟩:∃K,K=H2.put H1.next (.cells row true 1):=⟨_,rfl⟩
 have n3:H3.next=H1.next+1:=by rw[hH3,j5,n2]
 have x3:H3.get H1.next=cE row 1:=by rw[hH3];exact i8 oM
 have y3:∀j,j<H1.next→H3.get j=H1.get j:=fun j hj=>by rw[hH3,i9 oM,hH2,j6 oM]
 have hR3:aD H3 (· <H3.next) (QR ⟨H.bs,H.next⟩ 0 1 false) (QR ⟨H.bs,H.next⟩ 0 1 true) row r0:=hR0.mono y3 (fun j hj=>oM);obtain⟨⟨m,hgr⟩,_,l,hl,hlb0⟩:=js GF;have hla:=gF q0 hl;obtain⟨v14,h14,H4,r14,r14g,⟨G,O14⟩,s14⟩:=(XH _ _ r0 m hgr hwf.sb hwf.at_ 1 1 H3 row (by decide) hR3 lrow arow).one;have hso3:SlI H3 H3.next 3 (v8 soE) (.slice a1 r0.sorts.length c1) r0.sorts:=hso.mono y3 (fun j hj=>oM) iF;obtain⟨x1,nb1,o1,cs1,own1,el1,hx1,_,e1,hF1,hg1,hle1,hrow1,hc1,hs1⟩:=hso3.row (i:=1) (by decide);obtain⟨x2',nb2,o2,cs2,own2,el2,hx2,_,e2,hF2,hg2,hle2,hrow2,hc2,hs2⟩:=hso3.row (i:=2) (by decide);subst e1;cases e2;rw[hg1]at hg2;cases hg2;have c21:=hc2 1 (by decide);have hx1':x1=(true,false,eB):=by have:r0.sorts[1]?=some (true,false,eB):=rfl;rw[this]at hx1;cases hx1;rfl
 have hx2':x2'=(true,true,eB):=by have:r0.sorts[2]?=some (true,true,eB):=rfl;rw[this]at hx2;cases hx2;rfl
 subst hx1' hx2';obtain rfl:el1=soE (true,false,eB):=hs1;obtain rfl:el2=soE (true,true,eB):=hs2;have l3:r0.sorts.length=3:=rfl;have hrow1':ldC (some true) (some 3) (o1+3) cs1=some (.agg (soE (true,false,eB)).toArray):=hrow1;have c21':cs1[o1+6+1]?=some (.bool true):=c21;have n4:=s14.next;have x4:=(s14.get H1.next oM).trans x3;have hR4:aD H4 (· <H4.next) (QR ⟨H.bs,H.next⟩ 0 1 false) (QR ⟨H.bs,H.next⟩ 0 1 true) row r0:=hR3.mono (fun j hj=>s14.get j hj) (fun j hj=>oM);have hso4:SlI H4 H4.next 3 (v8 soE) (.slice (some ⟨nb1,o1,none⟩) r0.sorts.length c1) r0.sorts:=hso3.mono (fun j hj=>s14.get j hj) oM iF;have hf:=fx (tv H4 row r0.sorts _ hso4 lrow arow q9 (by decide) soZ);rw[Wp]at hf;have hev:EvF H4 (· <H4.next) [iV 2,.string eB,.string eB,nS,.string ⟨#[120]⟩] ⟨2,eB,eB,[],⟨#[120]⟩⟩:=⟨_,rfl,.inl ⟨rfl,rfl⟩⟩
 have hn:=fx (Bv ⟨H.bs,H.next⟩ 0 1 r0 _ hwf H4 row hR4 (Nat.zero_le _) (fun j hj=>oM) arow _ _ hev (by decide) 0 2);have hnq:rn r0 ⟨2,eB,eB,[],⟨#[120]⟩⟩ 0 2= -1:=kR;rw[hnq]at hn;obtain⟨a14,c14,e14⟩:=O14.own.slice;rw[row0]at e14;subst e14;have hf':CL prog fK 17 [.agg row.toArray,.agg #[.bool false,.bool false,.string eB]] H4=some (.int .i64 0,none):=hf;have hn':CL prog fK 18 [.agg row.toArray,.agg #[iV 2,.string eB,.string eB,nS,.string ⟨#[120]⟩],iV 0,iV 2] H4=some (.int .i64 (-1),none):=hn;have ceq:A0 [D1.bool,D1.bool,D1.str] (soE (true,false,eB)) [Value.bool true,Value.bool false,Value.string eB]=some true:=kR;have hlow1:H.next≤H1.low:=by
  have:=s1.lowAll H.next lR lR;exact this
 have hlow3:H.next≤H3.low:=by rw[hH3,A4,hH2,t5];omega
 have hlow4:H.next≤H4.low:=s14.lowAll H.next oM hlow3;exact J21 r11 r11g lrow arow sp0 hH2.symm x2 hH3.symm x3 q9 l3 hg1 hrow1' c21' tkr r14 r14g x4 hf' hn' ceq trivial
theorem uP:∀(l:List Q)(n m:Int),n≤szL l n m
 |[],n,m=>by rw[szL];exact Int.le_refl _
 |x::l,n,m=>by
  rw[szL];split
  ·have:=iU x (m-n) oM;have:=uP l (n+szQ x (m-n)) m;omega
  ·exact Int.le_refl _
mutual
theorem vR:∀(q:Q)(m:Int),0≤m→szQ q m≤m→(nQ q:Int)≤szQ q m
 | .mk o s c v a b,m,hm,h=>by
  rw[szQ]at h ⊢;rw[nQ];have h1:=uP b (szL a 1 m) m;have h2:=pH a 1 m oM;have h3:=pH b (szL a 1 m) m h;omega
theorem pH:∀(l:List Q)(n m:Int),szL l n m≤m→n+(nL l:Int)≤szL l n m
 |[],n,m,h=>by rw[szL,nL];omega
 |x::l,n,m,h=>by
  rw[szL]at h ⊢;rw[nL];split at h
  ·rename_i hn;rw[if_pos hn];have h1:=uP l (n+szQ x (m-n)) m;have h2:=vR x (m-n) oM oM;have h3:=pH l (n+szQ x (m-n)) m h;omega
  ·omega
end
theorem fP{q:Q}(h:ey q=true):OkD false q∧nQ q≤64:=by
 simp only[ey,Bool.and_eq_true,decide_eq_true_eq]at h;have:=vR q 64 oM h.1;exact⟨⟨16,h.2⟩,oM⟩
theorem xi(x:SoD):fo x x=true:=by simp [fo]
theorem Bc{α:Type}(p:α→Bool):∀(l:List α)(k:Nat)(i:Nat)(x:α),l[k]?=some x→p x=true→(∀j y,j<k→l[j]?=some y→p y=false)→ixG p l i=(i:Int)+k
 |[],k,i,x,h,_,_=>by simp at h
 |z::l,0,i,x,h,hp,_=>by
  simp at h;subst h;rw[ixG,if_pos hp];simp
 |z::l,k+1,i,x,h,hp,hn=>by
  have hz:=hn 0 z oM rfl;rw[ixG,if_neg (by rw[hz];exact Bool.false_ne_true),Bc p l k (i+1) x (by simpa using h) hp fun j y hj hy=>hn (j+1) y oM (by simpa using hy)];omega
theorem ni{r:ReD}{m:Int}(hg:N0 r m){k:Nat}{x:SoD}(hx:r.sorts[k]?=some x):ixG (fun y=>fo x y) r.sorts 0=k:=by
 rw[Bc _ r.sorts k 0 x hx (xi x) fun j y hj hy=>hg.apart j k y x hj hy hx];omega
theorem xW{r:ReD}{m:Int}(hg:N0 r m){k:Nat}(h1:1≤k)(h2:k<r.sorts.length):∃(i a b:Nat)(e:EvD),r.how[k]?=some ((i:Int),(a:Int),(b:Int))∧r.labels[i]?=some e∧a<k∧b<k∧r.size.getD k 0=r.size.getD a 0+r.size.getD b 0+1∧rn r e a b=k:=by
 obtain⟨i,a,b,e,f1,f2,f3,f4,f5,f6,f7⟩:=hg.from_ k h1 h2;refine⟨i,a,b,e,f1,f2,f3,f4,f5,?_⟩;rw[rn,if_pos f6,Int.toNat_natCast,Int.toNat_natCast];exact ni hg f7
theorem tF(Hs:d9)(lo K:Nat)(r:ReD)(N:Nat)(hwf:WfR r N)(m:Int)(hg:N0 r m)(Hb:d9)(rb:Nat)(row:LV)(gr:Hb.get rb=cE row 1)(hR:aD Hb (· <Hb.next) (QR Hs lo K false) (QR Hs lo K true) row r)(hlo:lo≤Hb.next)(heq:∀j,j<lo→Hb.get j=Hs.get j) (arow:row.all Value.oneCell'=true) (lrow:row.length=12):
  ∀kk e H,(∃k:Nat,kk=r.sorts.length-k∧1≤k∧k≤r.sorts.length∧e.get 3=pT rb∧e.get 5=iV k∧i4 Hb.next Hb H)→
  u9 (LE prog fK (.loop SL) e H) (fun o e H=>o= .exit 0∧e.get 3=pT rb∧i4 Hb.next Hb H):=by
 refine j7 _ _ ?_;rintro kk e H ⟨k,hk,h1,hk2,f3,f5,hS⟩;have nH:=hS.next;have hrb:=u6 gr;have g:=(hS.get rb hrb).trans gr;have hR1:aD H (· <H.next) (QR Hs lo K false) (QR Hs lo K true) row r:=hR.mono (fun j hj=>hS.get j hj) (fun j hj=>oM);obtain⟨rs,vl,w1,w2,w3,hrow,hst,hlb,hso,hsz,hho⟩:=hR1;have lrs:rs.length=8:=by rw[hrow]at lrow;simpa using lrow
 obtain⟨a1,c1,rfl⟩:=hso.slice;obtain⟨a2,c2,rfl⟩:=hsz.slice;obtain⟨a3,c3,rfl⟩:=hho.slice;obtain⟨la,lc,rfl⟩:=hlb.slice;have q8:row[8]?=some (.slice la r.labels.length lc):=by rw[hrow,List.getElem?_append_right oM,lrs];rfl
 have q9:row[9]?=some (.slice a1 r.sorts.length c1):=by rw[hrow,List.getElem?_append_right oM,lrs];rfl
 have q10:row[10]?=some (.slice a2 r.size.length c2):=by rw[hrow,List.getElem?_append_right oM,lrs];rfl
 have q11:row[11]?=some (.slice a3 r.how.length c3):=by rw[hrow,List.getElem?_append_right oM,lrs];rfl
 rcases b0:decide ((k:Int)<r.sorts.length)with _|_
 ·refine J5 f3 f5 g q9 b0 ?_;exact l7 ⟨rfl,f3,hS⟩
 ·have hkl:k<r.sorts.length:=by have:=dT b0;omega
  have l2:=hg.l2;have l3:=hg.l3;obtain⟨i,a,b,ev,f1,fl,fa,fb,fs,fn⟩:=xW hg h1 hkl;have hil:=(List.getElem?_eq_some_iff.1 fl).1;obtain⟨hw,hb,ho,hcs,hown,hel,hx,_,rfl,hFh,hgh,hleh,hrowh,hch,hRh⟩:=hho.row (i:=k) oM;rw[f1]at hx;cases hx;obtain rfl:hel=hoE ((i:Int),(a:Int),(b:Int)):=hRh;obtain⟨y0,zb,zo,zcs,zown,zel,zx,_,rfl,hFz,hgz,hlez,hrowz,hcz,hRz⟩:=hsz.row (i:=k) oM;have szc:∀j,j<r.size.length→zcs[zo+j*1]?=some (.int .i64 (r.size.getD j 0)):=fun j hj=>by
   obtain⟨y',zb',zo',zcs',zown',zel',zx',_,e1,_,hgz',_,_,hcz',hRz'⟩:=hsz.row (i:=j) hj;cases e1;rw[hgz]at hgz';cases hgz';have h0:=hcz' 0 oM;rw[Nat.add_zero]at h0;rw[h0,List.getD_eq_getElem?_getD,zx'];rw[show zel'=inE y' from hRz'];rfl
  obtain⟨x,sb,so,scs,sown,sel,sx,_,rfl,hFs,hgs,hles,hrows,hcs',hRs⟩:=hso.row (i:=k) hkl;obtain rfl:sel=soE x:=hRs;obtain⟨ev',lb,lo',lcs,lown,lel,lx,_,rfl,hFl,hgl,hlel,hrowl,hcl,hRl⟩:=hlb.row (i:=i) hil;rw[fl]at lx;cases lx;obtain⟨H1,hH1,n1,x1⟩:=pushE H (.cells [iV 0,iV 0,iV 0] true 1);obtain⟨H2,hH2⟩:∃K,K=H1.put H.next (.cells [iV i,iV a,iV b] true 1):=⟨_,rfl⟩
  have n2:H2.next=H.next+1:=by rw[hH2,j5,n1]
  have x2:H2.get H.next=cE [iV i,iV a,iV b] 1:=by rw[hH2];exact i8 oM
  have s2:i4 H.next H H2:=by rw[hH2,hH1];exact(i4.push lR).trans (i4.put lR)
  have hS2:i4 Hb.next Hb H2:=hS.trans (s2.weaken nH);have g2:=(s2.get rb oM).trans g;have gz2:=(s2.get zb hFz).trans hgz;have gs2:=(s2.get sb hFs).trans hgs;have gl2:=(s2.get lb hFl).trans hgl;have ca:=szc a oM;have cb:=szc b oM;have ck:=szc k oM;have ck1:=szc (k-1) oM;have hz:=fun j=>hwf.sb j;have bd:∀j,j<r.size.length→0≤r.size.getD j 0∧r.size.getD j 0≤200:=fun j hj=>by
   rw[List.getD_eq_getElem?_getD,List.getElem?_eq_getElem hj];exact hwf.sb _ (List.getElem_mem hj)
  have ba:=bd a oM;have bb:=bd b oM;have hR2:aD H2 (· <H2.next) (QR Hs lo K false) (QR Hs lo K true) row r:=hR.mono (fun j hj=>hS2.get j hj) (fun j hj=>oM);have hso2:SlI H2 H2.next 3 (v8 soE) (.slice (some ⟨sb,so,none⟩) r.sorts.length c1) r.sorts:=hso.mono (fun j hj=>s2.get j hj) (fun j hj=>oM) iF;have h17:=fx (tv H2 row r.sorts _ hso2 lrow arow q9 (by have:=hwf.l1;omega) x);rw[ni hg sx]at h17;have h18:=fx (Bv Hs lo K r N hwf H2 row hR2 oM (fun j hj=>by rw[hS2.get j oM];exact heq j hj) arow lel ev (w9 _ _ _ _ _ _ hRl (fun j hj=>s2.get j hj) (fun j hj=>oM)) (hwf.at_ ev (List.mem_of_getElem? fl)) a b);rw[fn]at h18;have d1:decide ((a:Int)<0)=false:=decide_eq_false oM;have d2:decide ((k:Int)≤a)=false:=decide_eq_false oM;have d3:decide ((b:Int)<0)=false:=decide_eq_false oM;have d4:decide ((k:Int)≤b)=false:=decide_eq_false oM;have d5:decide ((i:Int)<0)=false:=decide_eq_false oM;have d6:decide ((r.labels.length:Int)≤i)=false:=decide_eq_false oM;have d7:decide (r.size.getD k 0<r.size.getD (k-1) 0)=false:=decide_eq_false (by have:=hg.rise k h1 hkl;omega);have hl1:=hwf.l1;have d8:decide (r.size.getD k 0=r.size.getD a 0+r.size.getD b 0+1)=true:=decide_eq_true fs;have kb:((k:Int)-1).toNat=k-1:=oM;have ka:(k:Int).toNat=k:=tN k;have aa:(a:Int).toNat=a:=tN a;have ab:(b:Int).toNat=b:=tN b;have ai:(i:Int).toNat=i:=tN i;have tkr:row.take 12=row:=List.take_of_length_le oM;refine J30 f3 f5 g q8 q9 q10 q11 b0 hgh hrowh hH1.symm x1 hH2.symm x2 g2 gz2 gs2 gl2 ca (And.intro cb ck) (And.intro ck1 h17) (And.intro h18 d1) (And.intro d2 d3) (And.intro d4 d5) (And.intro d6 d7) (And.intro ka aa) (And.intro ab ai) (And.intro tkr hrows) (And.intro hrowl d8) (And.intro kb @wrap_small) ?_;exact i6 (kk-1) oM ⟨k+1,oM,oM,oM,f3,by rw[show((k+1:Nat):Int)=(k:Int)+1 from oM];rfl,hS2⟩
theorem ag8(K:Nat)(H:d9)(lo:Nat)(cs:LV)(q:Q)(hlo:lo≤H.next)(hr:QR H lo K false cs q):
  CL prog fK 5 [.agg cs.toArray] H=some (.bool true,none):=by
 have ac:=F0 hr;have ldc:=M8 hr;have l0:=hr.len;simp only[qSz,Bool.false_eq_true,if_false]at l0;rw[l0]at ldc;obtain⟨H1,hH1,n1,-⟩:=pushF H (.cells cs true 1);have s1:i4 H.next H H1:=by rw[hH1];exact i4.first H _
 have g1:H1.get H.next=cE cs 1:=by rw[hH1];exact i7
 have hlow:H1.low=H.next:=by rw[hH1];rfl
 have hr1:QR H1 lo K false cs q:=hr.mono (fun j hj=>s1.get j oM) lR;have h9:=GW H1;have h10:=fx (EX H1 lo K cs q oM hr1 (fun h=>⟨(fP h).1,by have:=(fP h).2;omega⟩));rw[j8 fn5 rfl _ (by simp)];rcases b:(ey q&&jQ q)with _|_
 ·rw[b]at h10;exact J6 ac hH1.symm g1 ldc h9 h10 trivial
 ·rw[b]at h10;simp only[Bool.and_eq_true]at b;obtain⟨hok,hn⟩:=fP b.1;obtain⟨v,h,H2,r11,r11g,row,er,rfl,s2,hres⟩:=Bm K H1 lo cs q oM hr1 hok oM;have n2:=s2.next;have hlow2:H.next≤H2.low:=s2.lowAll H.next oM oM;obtain⟨H3,hH3,n3,x3⟩:=pushE H2 (.cells [nS,nS,nS,iV 0,iV 0,iV 0,nS,nS,nS,nS,nS,nS] true 1);obtain⟨H4,hH4⟩:∃K,K=H3.put H2.next (.cells row true 1):=⟨_,rfl⟩
  have hlow4:H.next≤H4.low:=by rw[hH4,A4,hH3,t5];omega
  rcases hres with⟨hres,rfl,rfl⟩|⟨r,hres,rfl,hwf,hR⟩
  ·have sz0:splice z12 0 z12=z12:=rfl;simp only[z12]at hH4 r11 sz0;exact J12 ac hH1.symm g1 ldc h9 h10 r11 r11g hH3.symm x3 sz0 hH4.symm trivial
  ·have hR0:=hR;obtain⟨rs,vl,w1,w2,w3,hrow,hst,hlb,hso,hsz,hho⟩:=hR;obtain⟨pa,pc,ga,gc,xa,xc,ea,ec,ta,tc,hrs,_⟩:=N3 hst;have lrs:rs.length=8:=by rw[hrs];rfl
   have lrow:row.length=12:=by rw[hrow];simp [lrs]
   obtain⟨a1,c1,rfl⟩:=hso.slice;obtain⟨a2,c2,rfl⟩:=hsz.slice;obtain⟨a3,c3,rfl⟩:=hho.slice;obtain⟨la,lc,rfl⟩:=hlb.slice;have arow:row.all Value.oneCell'=true:=by rw[hrow,hrs];rfl
   have q9:row[9]?=some (.slice a1 r.sorts.length c1):=by rw[hrow,List.getElem?_append_right oM,lrs];rfl
   have sp0:splice [nS,nS,nS,iV 0,iV 0,iV 0,nS,nS,nS,nS,nS,nS] 0 row=row:=by rw[hrow,hrs];rfl
   obtain⟨⟨m,hgr⟩,_⟩:=js hres;have x4:H4.get H2.next=cE row 1:=by rw[hH4];exact i8 oM
   have n4:H4.next=H2.next+1:=by rw[hH4,j5,n3]
   have y4:∀j,j<H2.next→H4.get j=H2.get j:=fun j hj=>by rw[hH4,i9 oM,hH3,j6 oM]
   have hR4:=hR0.mono (F':=(· <H4.next)) y4 (fun j hj=>oM);have hl1:=hwf.l1;have hl0:=hwf.l0;refine J14 ac hH1.symm g1 ldc h9 h10 r11 r11g hH3.symm x3 sp0 lrow arow hH4.symm ?_;refine l9 (F:=fun z=>u5 _ _ _ (u7 (inBlock 0 z) _)=_) (tF H1 lo K r _ hwf m hgr H4 H2.next row x4 hR4 oM (fun j hj=>by rw[y4 j oM,s2.get j oM]) arow lrow (r.sorts.length-1) _ _ ⟨1,rfl,lR,hl0,rfl,rfl,i4.refl _ _⟩) ?_;rintro o' e' H' ⟨ho,f3,hS'⟩;have nn:=hS'.next;have x5:=(hS'.get H2.next oM).trans x4;have hso5:SlI H' H'.next 3 (v8 soE) (.slice a1 r.sorts.length c1) r.sorts:=hso.mono (fun j hj=>by rw[hS'.get j oM,y4 j hj]) (fun j hj=>oM) iF;obtain⟨z0,nb,zo,zcs,zown,zel,zx,_,rfl,hF,hg,hle,hrow0,hc0,hz⟩:=hso5.row (i:=0) oM;rw[hgr.s0]at zx;cases zx;obtain rfl:zel=soE soZ:=hz;have hrow0':ldC (some true) (some 3) zo zcs=some (.agg (soE soZ).toArray):=by simpa using hrow0
   have dl:decide ((r.sorts.length:Int)≤25)=true:=decide_eq_true oM;have d0:decide ((0:Int)<r.sorts.length)=true:=decide_eq_true oM;have low':H.next≤H'.low:=hS'.lowAll _ oM hlow4;have ceq:A0 [D1.bool,D1.bool,D1.str] (soE soZ) [Value.bool false,Value.bool false,Value.string eB]=some true:=kR;exact J8 ho f3 x5 q9 dl hg hrow0' ceq trivial
end Go.Proofs.YtofbhlhamfkljaaGreatDoor.Ve
namespace Go.Proofs.YtofbhlhamfkljaaGreatDoor.reachGrows
open Go.ChangeShapes Go.WideShapes Go.ChangeAt Go.RowKit
open Go.Proofs.Tryz (prog)
open Go Ve card
set_option linter.unusedVariables false
set_option linter.unusedSimpArgs false
set_option maxRecDepth 1000000
set_option maxHeartbeats 0
theorem zO(H:Type)(enc:TypeId×Value→H)(W:World)(base:Nat)(args:Array Value)(ds gs:List (DataW H))(before:List MemPlace)
  (hval:∀(j:Nat) t v,Tryz.f5.params[j]?=some t→args[j]?=some v→Value.okWide prog W .any base t v)
  (hW:DataW.Whole enc prog Tryz.f5.params.toList Rows.reachGrowsSpec.vars false W args.toList ds gs before) (hk:Rows.uptoSmall H (ds++gs)=true):
  Calls prog 5 args W fun e W'=>∃v,e= .returned v∧Rows.reachGrowsSpec.post enc prog Tryz.f5 false true false false W args v W':=by
 have hW':=hW;obtain⟨p,q,hA0,hV,rfl,hfz,hnd⟩:=hW;have hA:DataW.TrodAll enc prog W 0 (fun _=>true) true Tryz.f5.params.toList args.toList ds p:=hA0;rw[Tryz.params5]at hA hval;obtain⟨v0,vs0,d0,ds0,p0,q0,hargs,rfl,rfl,h0,r0⟩:=trodAll_cons hA;obtain⟨rfl,rfl,rfl⟩:=trodAll_nil r0;obtain rfl:args= #[v0]:=by cases args;simp_all
 obtain⟨rfl,rfl⟩:=trodVars_none hV;obtain⟨a0,rfl,_⟩:=okWide_struct Tryz.underlying25 (hval 0 25 v0 rfl rfl);have k0:=h0;have lt0:∀x∈p0,x.block<W.heap.size:=by obtain⟨m,hm⟩:=k0;exact DataW.trod_lt m _ _ _ hm
 have hb:Rows.uptoBulk d0≤1048576:=by
  have h:Rows.uptoBulkAll ([d0]++[])≤1048576:=dT hk;simp only[Rows.uptoBulkAll,List.cons_append,List.nil_append]at h;omega
 obtain⟨fuel,hf⟩:=h0;obtain⟨φ,S,ac,l,_,_,hWR,hvr,_,hq⟩:=(pL (fuel+1)).1.2 enc W fuel oM _ d0 p0 hf hb [] [] (Ci W);have hrun:=ag8 _ ⟨S,S.length⟩ S.length ac l lR (ah5 hq);have hcells:VRs φ [.agg ac.toArray] [.agg a0]:= .cons (.agg (by simpa [Value.cells] using hvr.1) (by simpa [Value.cells] using hvr.2)) (.nil φ);clear hA0;refine(xH kR En hWR hcells hrun).mono fun e W'⟨he,bel⟩=>?_;subst he;exact⟨_,rfl,_,_,_,[],_,[],hW',trodAll_mk1 (shut_bool Tryz.underlying4 _),(trodAll_cons_mk (Below.trod Eh kR (dT kR) k0 bel lt0) trodAll_mk0),rfl,bel.frame _,fun h=>by cases h⟩
theorem Na(os:Os)(started:os.Started)(H:Type)(enc:TypeId×Value→H)(F:Stop.Interp):
  ReturnsInHanded {} Tryz.checked os 5 .any ((Rows.OpenSpec.upto Rows.reachGrowsSpec).preRow enc prog Tryz.f5 Rows.reachGrowsUptoRow.domain false Rows.reachGrowsUptoRow.laid) (((Rows.OpenSpec.upto Rows.reachGrowsSpec).at F).post enc prog Tryz.f5 false true false false):=by
 obtain⟨places,hx⟩:=reads os enc;refine returnsInHanded_of_row (C:=Tryz.checked) (s:=Rows.OpenSpec.upto Rows.reachGrowsSpec) own started kR Tryz.func5
  (witness_row_at (enc:=enc) (C:=Tryz.checked) false (iG os) #[CG] rfl kR kR kR
   (OpenSpec.preRow_of_cond 8 hx kR (fun k hk=>by cases hk;kernel_rfl) kR (Bf os))) ?_
 intro W base args ds gs before hval hW _ hcond _ hL _ _;exact zO H enc W base args ds gs before hval hW (hcond _ rfl)
theorem ah7:Rows.ReachGrowsUptoSaid:=
 OpenClaim.holds_of_cond 5 Tryz.f5 rfl rfl rfl rfl rfl rfl rfl ⟨rfl,rfl,rfl,rfl,rfl⟩ rfl rfl rfl rfl rfl kR Tryz.func5 kR
  (dT kR) (by unfold Func.isWrapper;first|(rw[if_pos (by decide+kernel)];kernel_rfl)|(rw[if_neg (by decide+kernel)];exact⟨rfl,rfl⟩))
  (fun os started H enc _ F=>by rw[OpenClaim.pre_eq_preRow];exact Na os started H enc F)
theorem plain(f:FuncId)(fn:Func)(hf:Tryz.pinned.checked.prog.funcNamed "oriel/oriellaw21.ReachGrows" =some f)(hfn:Tryz.pinned.checked.prog.funcs[f]?=some fn):
  false=Tryz.pinned.checked.prog.looks []∧∀(j:Nat) t,fn.params[j]?=some t→Tryz.pinned.checked.prog.wantsStandIn t=false:=by
 obtain rfl:f=5:=Option.some.inj ((show prog.funcNamed "oriel/oriellaw21.ReachGrows" =some 5 from kR).symm.trans hf) |>.symm;obtain rfl:fn=Tryz.f5:=(Option.some.inj (Tryz.func5.symm.trans hfn)).symm;refine⟨kR,fun j t ht=>?_⟩;rw[Tryz.params5]at ht;obtain rfl:t=25:=by simpa using Array.mem_of_getElem? ht
 exact(show prog.wantsStandIn 25=false from kR)
theorem cardUpto:Rows.ReachGrowsUptoCardSaid:=
 Claim7.holds_tied_plain_at .later [] _ _ _ _ ah7 (fun _ h=>by cases h) kR (fun _ h=>by cases h) reachGrowsUpto_row_tie rfl ⟨rfl,rfl⟩ kR rfl plain kR
end Go.Proofs.YtofbhlhamfkljaaGreatDoor.reachGrows
namespace Go.Proofs.YtofbhlhamfkljaaGreatDoor
open Go Go.RowKit
open Go.Proofs.Tryz (prog)
set_option linter.unusedVariables false
set_option linter.unusedSimpArgs false
set_option maxRecDepth 1000000
set_option maxHeartbeats 0
theorem reachGrows_holds:Rows.ReachGrowsUptoCardSaid:=reachGrows.cardUpto
end Go.Proofs.YtofbhlhamfkljaaGreatDoor
