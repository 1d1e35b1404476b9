/- A part of the claim: the evaluator and the contracts. Conditions: none here. -/
import Derived.Test.YtofbhlhamfkljaaGreatDoorPd
import Derived.Test.YtofbhlhamfkljaaGreatDoorProg
import Derived.KernelRfl
import Derived.OrdersIn
import Derived.CallsIn
import Derived.RegionIn
import Derived.RangeFuncNested
import Derived.RangeFuncBound
import Derived.RangeFuncCalls
import Derived.RangeFuncLeaves
import Derived.Shelf.Abstract
import Derived.Shelf.RegionOpen
import Derived.WalkKit
import Derived.OwnWalkIn
import Derived.TacticsInMore
import Derived.LoopNIn
import Derived.LoopIn
set_option linter.unusedVariables false
set_option linter.unusedSimpArgs false
set_option linter.defProp false
set_option maxHeartbeats 0
set_option maxRecDepth 1000000
namespace Go.Proofs.YtofbhlhamfkljaaGreatDoor.Ve
open Go Go.RowKit
open Go.Proofs.Tryz (prog)
structure U0(Rp Rt:LV->Q->Prop)(H:d8)(rb lw:Nat)(G:Nat->Prop)(r:ReD)(rs:LV)(vl w1 w2 w3:Value):Prop where
 g:H.get rb=cE (rs++[vl,w1,w2,w3]) 1
 st:StF H G Rp Rt rs r.strat
 lb:SlF H G 5 (EvF H G) vl r.labels
 so:u6 H lw 3 (w9 soE) w1 r.sorts
 sz:u6 H lw 1 (w9 inE) w2 r.size
 ho:u6 H lw 3 (w9 hoE) w3 r.how
 ap:bV [w1,w2,w3]
 fr:∀j,G j->j<H.next/\j≠rb/\∀w∈ [w1,w2,w3],¬l7 w j
 nb:lw<=rb/\∀w∈ [w1,w2,w3],¬l7 w rb
structure aN(rb lw:Nat)(W0:LV)(H0:d8)(W:LV)(H:d8):Prop where
 but:∀j,j<H0.next->j≠rb->(∀w∈W0,¬l7 w j)->H.get j=H0.get j
 new:∀b,(∃w∈W,l7 w b)->(∃w∈W0,l7 w b)\/H0.next<=b
 stay:i6 lw H0 H
theorem aN.refl(rb lw:Nat)(W:LV)(H:d8):aN rb lw W H W H:=⟨fun _ _ _ _=>rfl,fun _ h=> .inl h,i6.refl _ _⟩
theorem aN.trans{rb lw:Nat}{y z D:LV}{H0 H1 H2:d8}(h:aN rb lw y H0 z H1)(k:aN rb lw z H1 D H2):aN rb lw y H0 D H2:=by
 have W:=h.stay.next;refine⟨fun j O E I=>?_,fun b J=>?_,h.stay.trans k.stay⟩
 .rw[k.but j oM E (fun w S q=>by
   rcases h.new j ⟨w,S,q⟩with⟨U,u,r⟩|r
   .exact I U u r
   .omega),h.but j O E I]
 .rcases k.new b J with q|q
  .exact h.new b q
  .exact .inr oM
theorem aN.of{rb lw:Nat}{W:LV}{H H1:d8}(u:i6 H.next H H1)(h:lw<=H.next):aN rb lw W H W H1:=⟨fun j y _ _=>u.get j y,fun _ h=> .inl h,u.weaken h⟩
section
variable{Rp Rt:List Value->Q->Prop}{H H1:d8}{rb lw:Nat}{G:Nat->Prop}{r:ReD}{rs:List Value}{vl w1 w2 w3:Value}
theorem U0.inl(h:U0 Rp Rt H rb lw G r rs vl w1 w2 w3){w:Value}(z:w∈ [w1,w2,w3]){b:Nat}(u:l7 w b):lw<=b/\b≠rb/\b<H.next:=by
 have y:b≠rb:=fun q=>h.nb.2 w z (q▸u);simp only[List.mem_cons,List.not_mem_nil,or_false]at z;rcases z with rfl|rfl|rfl
 .exact⟨(h.so.lt u).1,y,(h.so.lt u).2⟩
 .exact⟨(h.sz.lt u).1,y,(h.sz.lt u).2⟩
 .exact⟨(h.ho.lt u).1,y,(h.ho.lt u).2⟩
theorem U0.rsl(h:U0 Rp Rt H rb lw G r rs vl w1 w2 w3):rs.length=8:=by
 obtain⟨z,D,E,y,rfl,_,_,_,u⟩:=h.st;have:=co u;simp [this]
theorem U0.at_(h:U0 Rp Rt H rb lw G r rs vl w1 w2 w3):(rs++[vl,w1,w2,w3])[8]?=some vl/\(rs++[vl,w1,w2,w3])[9]?=some w1/\(rs++[vl,w1,w2,w3])[10]?=some w2/\(rs++[vl,w1,w2,w3])[11]?=some w3:=by
 have:=h.rsl;refine⟨?_,?_,?_,?_⟩<;>rw[List.getElem?_append_right oM,this]<;>rfl
theorem U0.keep(h:U0 Rp Rt H rb lw G r rs vl w1 w2 w3)(u:i6 H.next H H1):U0 Rp Rt H1 rb lw G r rs vl w1 w2 w3:=by
 have z:=u7 h.g;have E:=u.next;have D:∀j,G j->H1.get j=H.get j:=fun j y=>u.get j (h.fr j y).1;exact⟨(u.get rb z).trans h.g,h.st.mono D (fun _ h=>h) iF iF,h.lb.mono D (fun _ h=>h) (fun _ _ q=>y9 _ _ _ _ _ _ q D (fun _ h=>h)),h.so.keep u,h.sz.keep u,h.ho.keep u,h.ap,fun j y=>by have:=h.fr j y;exact⟨oM,this.2⟩,h.nb⟩
end
def am(r:ReD)(x:SoD)(size:Int)(how:Int×Int×Int):ReD×Bool:=
 if(r.sorts.any fun y=>aP x y) then(r,true) else if(decide (24<(r.sorts.length:Int))||decide (200<size)) then(r,false) else({r with sorts:=r.sorts++[x],size:=r.size++[size],how:=r.how++[how]},true)
def JH(Rp Rt:LV->Q->Prop)(rb lw:Nat)(G:Nat->Prop)(rs:LV)(vl w1 w2 w3:Value)(H:d8)(r':ReD)(b:Bool):Value->d8->Prop:=fun v H'=>v= .bool b/\∃x1 x2 x3,U0 Rp Rt H' rb lw G r' rs vl x1 x2 x3/\aN rb lw [w1,w2,w3] H [x1,x2,x3] H'
theorem MR(Rp Rt:LV->Q->Prop)(H:d8)(rb lw:Nat)(G:Nat->Prop)(r:ReD)(rs:LV)(vl w1 w2 w3:Value)(hR:U0 Rp Rt H rb lw G r rs vl w1 w2 w3)(x:SoD)(size:Int)(how:Int×Int×Int)(h9:r.sorts.length<=1000)(i0:r.size.length<=1000)(j0:r.how.length<=1000):
  Ret (CL prog t6 62 [pT rb,.agg (soE x).toArray,iV size,.agg (hoE how).toArray] H) H (JH Rp Rt rb lw G rs vl w1 w2 w3 H (am r x size how).1 (am r x size how).2):=by
 obtain⟨H0,a5,n0,-⟩:=pushF H (bC (soE x) 1);obtain⟨H1,U⟩:=eY (H0.push (bC (hoE how) 1));have n1:H1.next=H.next+2:=by rw[U,i5,n0]
 have hS:i6 H.next H H1:=by rw[U,a5];exact(i6.first H _).trans (i6.push (by rw[i5];exact Nat.le_succ _))
 have g1:H1.get H.next=cE (soE x) 1:=by rw[U,i7 oM,a5];exact j9
 have g2:H1.get (H.next+1)=cE (hoE how) 1:=by rw[U,<-n0];exact j9
 have h8:H.next<=H1.low:=by rw[U,a5];exact lR
 have j2:=u7 hR.g;have u:=hR.keep hS;have a4:=u.g;have b6:=u.nb.1;obtain⟨q8,q9,f6,f7⟩:=u.at_;have a8:=hR.rsl;obtain⟨X,b4⟩:=eY (rs++[vl,w1,w2,w3]);rw[<-b4]at a4 q8 q9 f6 f7;have b7:ldC (some true) (some 3) 0 (soE x)=some (.agg (soE x).toArray):=rfl;have e7:ldC (some true) (some 3) 0 (hoE how)=some (.agg (hoE how).toArray):=rfl;have hh:=PN H1 H1.next w1 r.sorts x lR u.so.sl oM;rw[j7 QS rfl _ sM];rcases b:(r.sorts.any fun y=>aP x y)with _|_
 .rw[b]at hh;rcases b2:decide (24<(r.sorts.length:Int))with _|_
  .rcases b3:decide (200<size)with _|_
   .have ha:am r x size how=({r with sorts:=r.sorts++[x],size:=r.size++[size],how:=r.how++[how]},true):=by rw[am,b,b2,b3];rfl
    rw[ha];obtain⟨v1,i1,K2,d9,b8,b1,D⟩:=u.so.push1F (P:=prog) (t:=36) (cs:=soE x) (a:=x) (by exact ME.2.2.2.2.2.2) CH.1 CH.2.1 CH.2.2.1 oM oM rfl rfl oM oM;obtain⟨K1,d3,-,-,s1⟩:=pushE H1 (bC (soE x) 3);rw[<-d3]at d9 b8;have m2:=D.next;have c9:∀j,l7 w1 j->¬l7 w2 j:=u.ap 0 1 w1 w2 rfl rfl oM;have d0:∀j,l7 w1 j->¬l7 w3 j:=u.ap 0 2 w1 w3 rfl rfl oM;have d1:∀j,l7 w2 j->¬l7 w3 j:=u.ap 1 2 w2 w3 rfl rfl oM;have l1:∀j,l7 w1 j->lw<=j/\j≠rb/\j<H1.next:=fun j W=>u.inl sM W;have l2:∀j,l7 w2 j->lw<=j/\j≠rb/\j<H1.next:=fun j W=>u.inl sM W;have l3:∀j,l7 w3 j->lw<=j/\j≠rb/\j<H1.next:=fun j W=>u.inl sM W;have f0:u6 K2 lw 1 (w9 inE) w2 r.size:=u.sz.same fun b z=>D.but b (l2 b z).2.2 (fun q=>c9 b q z);obtain⟨v2,i2,K4,e4,b9,b5,E⟩:=f0.push1F (P:=prog) (t:=29) (cs:=inE size) (a:=size) (by exact CE.2.2.2.2.2.2) ty3.1 ty3.2.1 ty3.2.2.1 oM oM rfl rfl oM oM;obtain⟨K3,d4,-,-,s3⟩:=pushE K2 (bC (inE size) 1);rw[<-d4]at e4 b9;have m4:=E.next;have e6:u6 K4 lw 3 (w9 hoE) w3 r.how:=(u.ho.same (H':=K2) fun b z=>D.but b (l3 b z).2.2 (fun q=>d0 b q z)).same fun b z=>E.but b (oN (l3 b z)) (fun q=>d1 b q z);obtain⟨v3,i3,K6,e5,c0,d6,S⟩:=e6.push1F (P:=prog) (t:=37) (cs:=hoE how) (a:=how) (by exact Qv.2.2.2.2.2.2) CG.1 CG.2.1 CG.2.2.1 oM oM rfl rfl oM oM;obtain⟨K5,d5,-,-,s5⟩:=pushE K4 (bC (hoE how) 3);rw[<-d5]at e5 c0;have m6:=S.next;have k1:K1.get rb=cE X 1:=(s1.get rb oM).trans a4;have k2:K2.get rb=cE X 1:=(D.but rb oM (fun q=>by have:=l1 rb q;omega)).trans a4;have k3:K3.get rb=cE X 1:=(s3.get rb oM).trans k2;have k4:K4.get rb=cE X 1:=(E.but rb oM (fun q=>by have:=l2 rb q;omega)).trans k2;have k5:K5.get rb=cE X 1:=(s5.get rb oM).trans k4;have k6:K6.get rb=cE X 1:=(S.but rb oM (fun q=>by have:=l3 rb q;omega)).trans k4;have nH:∀w∈ [w1,w2,w3],¬l7 w (H.next+1):=fun w hw q=>oN (hR.inl hw q);have p1:=(s1.get (H.next+1) oM).trans g2;have p2:=(D.but (H.next+1) oM (nH w1 sM)).trans g2;have p3:=(s3.get (H.next+1) oM).trans p2;have p4:=(E.but (H.next+1) oM (nH w2 sM)).trans p2;obtain⟨a1,c1,e1⟩:=b1.slice;obtain⟨a2,c2,e2⟩:=b5.slice;obtain⟨a3,c3,e3⟩:=d6.slice;have g4:v1.cells.toList=[v1]:=by rw[e1];rfl
    have h0:Value.oneCell' v1=true:=by rw[e1];rfl
    have g5:v2.cells.toList=[v2]:=by rw[e2];rfl
    have h3:Value.oneCell' v2=true:=by rw[e2];rfl
    have g6:v3.cells.toList=[v3]:=by rw[e3];rfl
    have h4:Value.oneCell' v3=true:=by rw[e3];rfl
    have f4:X.length=12:=by rw[b4];simp [a8]
    obtain⟨I,c6⟩:=eY (rs++[vl,v1,w2,w3]);obtain⟨J,c7⟩:=eY (rs++[vl,v1,v2,w3]);obtain⟨a6,e8⟩:=eY (rs++[vl,v1,v2,v3]);have g7:I.length=12:=by rw[c6];simp [a8]
    have g8:J.length=12:=by rw[c7];simp [a8]
    have h5:splice X 9 [v1]=I:=by show X.set 9 v1=I;rw[b4,c6,List.set_append_right _ _ oM,a8];rfl
    have h6:splice I 10 [v2]=J:=by show I.set 10 v2=J;rw[c6,c7,List.set_append_right _ _ oM,a8];rfl
    have h7:splice J 11 [v3]=a6:=by show J.set 11 v3=a6;rw[c7,e8,List.set_append_right _ _ oM,a8];rfl
    obtain⟨K7,a9⟩:=eY (K6.put rb (bC I 1));have k7:K7.get rb=cE I 1:=by rw[a9];exact j5 oM
    have m7:K7.next=K6.next:=by rw[a9,t5]
    obtain⟨K8,b0⟩:=eY (K7.put rb (bC J 1));have k8:K8.get rb=cE J 1:=by rw[b0];exact j5 oM
    have m8:K8.next=K6.next:=by rw[b0,t5,m7]
    obtain⟨K9,a7⟩:=eY (K8.put rb (bC a6 1));have k9:K9.get rb=cE a6 1:=by rw[a7];exact j5 oM
    have m9:K9.next=K6.next:=by rw[a7,t5,m8]
    have g0:bsA prog (some 59) H1 1 [(0,.agg (soE x).toArray)]=some (sL H1.next 1 1,K1):=by
     rw[d3];simp only[C7,CH,C8];rfl
    have f9:bsA prog (some 3) K2 1 [(0,iV size)]=some (sL K2.next 1 1,K3):=by
     rw[d4];simp only[C7,ty3,C8];rfl
    have g3:bsA prog (some 56) K4 1 [(0,.agg (hoE how).toArray)]=some (sL K4.next 1 1,K5):=by
     rw[d5];simp only[C7,CG,C8];rfl
    have c4:∀Hx:d8,D7 prog .len [36] [w1] Hx=some (.int .i64 (r.sorts.length:Int),none):=fun Hx=>by
     obtain⟨aa,cc,ee⟩:=u.so.slice;rw[ee];exact J1 ME trivial
    have e9:∀j,j≠rb->K9.get j=K6.get j:=fun j W=>by rw[a7,j6 (fun q=>W q.symm),b0,j6 (fun q=>W q.symm),a9,j6 (fun q=>W q.symm)]
    have d2:∀j,j<H1.next->j≠rb->(∀w∈ [w1,w2,w3],¬l7 w j)->K9.get j=H1.get j:=fun j W h1 h2=>by
     rw[e9 j h1,S.but j oM (h2 w3 sM),E.but j oM (h2 w2 sM),D.but j W (h2 w1 sM)]
    have f5:∀b,l7 v1 b->¬l7 w2 b/\¬l7 w3 b:=fun b z=>by
     rcases D.new b z with q|q
     .exact⟨c9 b q,d0 b q⟩
     .exact⟨fun r=>by have:=l2 b r;omega,fun r=>by have:=l3 b r;omega⟩
    have g9:∀b,l7 v2 b->¬l7 w3 b:=fun b z=>by
     rcases E.new b z with q|q
     .exact d1 b q
     .exact fun r=>oN (l3 b r)
    have d7:i6 lw H1 K9:=by
     rw[a7,b0,a9];exact(((((D.stay.weaken oM).trans (E.stay.weaken oM)).trans (S.stay.weaken oM)).trans (i6.put b6)).trans (i6.put b6)).trans (i6.put b6)
    have f1:u6 K9 lw 3 (w9 soE) v1 (r.sorts++[x]):=b1.same fun b z=>by
     have:=b1.lt z;have c5:b≠rb:=by
      rcases D.new b z with q|q
      .exact(l1 b q).2.1
      .omega
     rw[e9 b c5,S.but b oM (f5 b z).2,E.but b oM (f5 b z).1]
    have f2:u6 K9 lw 1 (w9 inE) v2 (r.size++[size]):=b5.same fun b z=>by
     have:=b5.lt z;have c5:b≠rb:=by
      rcases E.new b z with q|q
      .exact(l2 b q).2.1
      .omega
     rw[e9 b c5,S.but b oM (g9 b z)]
    have f3:u6 K9 lw 3 (w9 hoE) v3 (r.how++[how]):=d6.same fun b z=>e9 b (by
      rcases S.new b z with q|q
      .exact(l3 b q).2.1
      .omega)
    have nw:∀b,(∃w∈ [v1,v2,v3],l7 w b)->(∃w∈ [w1,w2,w3],l7 w b)\/H1.next<=b:=fun b⟨w,hw,z⟩=>by
     simp only[List.mem_cons,List.not_mem_nil,or_false]at hw;rcases hw with rfl|rfl|rfl
     .exact(D.new b z).imp (fun q=>⟨w1,by simp,q⟩) id
     .exact(E.new b z).imp (fun q=>⟨w2,by simp,q⟩) (fun q=>oM)
     .exact(S.new b z).imp (fun q=>⟨w3,by simp,q⟩) (fun q=>oM)
    have f8:bV [v1,v2,v3]:=by
     have t1:bV [v1,w2,w3]:=u.ap.set (k:=0) (v:=v1) (n:=H1.next) rfl D.new fun y hy b z=>(u.inl hy z).2.2;have t2:bV [v1,v2,w3]:=t1.set (k:=1) (v:=v2) (n:=K2.next) rfl E.new fun y hy b z=>by
      simp only[List.mem_cons,List.not_mem_nil,or_false]at hy;rcases hy with rfl|rfl|rfl
      .exact(b1.lt z).2
      .have:=l2 b z;omega
      .have:=l3 b z;omega
     exact t2.set (k:=2) (v:=v3) (n:=K4.next) rfl S.new fun y hy b z=>by
      simp only[List.mem_cons,List.not_mem_nil,or_false]at hy;rcases hy with rfl|rfl|rfl
      .have:=b1.lt z;omega
      .exact(b5.lt z).2
      .have:=l3 b z;omega
    have sG:∀j,G j->K9.get j=H1.get j:=fun j W=>by have:=u.fr j W;exact d2 j this.1 this.2.1 this.2.2
    have O:U0 Rp Rt K9 rb lw G {r with sorts:=r.sorts++[x],size:=r.size++[size],how:=r.how++[how]} rs vl v1 v2 v3:=
     ⟨by rw[k9,e8],u.st.mono sG (fun _ h=>h) iF iF,u.lb.mono sG (fun _ h=>h) (fun _ _ q=>y9 _ _ _ _ _ _ q sG (fun _ h=>h)),f1,f2,f3,f8,fun j W=>by
      have h:=u.fr j W;refine⟨oM,h.2.1,fun w hw q=>?_⟩;rcases nw j ⟨w,hw,q⟩with⟨w',c8,r⟩|r
      .exact h.2.2 w' c8 r
      .omega,b6,fun w hw q=>by
      rcases nw rb ⟨w,hw,q⟩with⟨w',c8,r⟩|r
      .exact u.nb.2 w' c8 r
      .omega⟩
    refine J30 a5.symm n0 U.symm g1 g2 a4 q9 f6 f7 (aI b7 e7) (aI hh c4) (aI b2 b3) (aI g0 k1) (aI d9 b8) (aI k2 f9) (aI k3 p1) (aI p2 p3) (aI p4 e4) (aI b9 k4) (aI g3 k5) (aI e5 c0) (aI k6 g4) (aI h0 g5) (aI h3 g6) (aI h4 f4) (aI g7 g8) (aI h5 a9.symm) (aI k7 h6) (aI b0.symm k8) (aI h7 a7.symm) ?_;have j1:K9.low<=rb:=by rw[a7,A4];omega
    refine E1 (fun _ hl=>oM) ⟨rfl,v1,v2,v3,⟨O.g,O.st.mono (fun _ _=>rfl) (fun _ h=>h) iF iF,O.lb.mono (fun _ _=>rfl) (fun _ h=>h) (fun _ _ q=>y9 _ _ _ _ _ _ q (fun _ _=>rfl) (fun _ h=>h)),O.so.low _,O.sz.low _,O.ho.low _,O.ap,O.fr,O.nb⟩,fun j W h1 h2=>?_,fun b z=>(nw b z).imp id fun q=>oM,⟨?_,fun k hk q=>?_,fun j W=>?_⟩⟩
    .show K9.get j=H.get j;rw[d2 j oM h1 h2,hS.get j W]
    .show H.next<=K9.next;omega
    .have:=d7.lowAll k hk oM;show k<=min H.low K9.low;omega
    .show K9.get j=H.get j;rw[d7.get j W,hS.get j oM]
   .have ha:am r x size how=(r,false):=by rw[am,b,b2,b3];rfl
    rw[ha];obtain⟨a1,c1,e1⟩:=u.so.slice;rw[e1]at hh q9;refine J10 a5.symm n0 U.symm g1 a4 q9 b7 hh b2 b3 ?_;exact⟨_,none,H,rfl,rfl,rfl,w1,w2,w3,hR,aN.refl _ _ _ _⟩
  .have ha:am r x size how=(r,false):=by rw[am,b,b2];rfl
   rw[ha];obtain⟨a1,c1,e1⟩:=u.so.slice;rw[e1]at hh q9;refine J9 a5.symm n0 U.symm g1 a4 q9 b7 hh b2 ?_;exact⟨_,none,H,rfl,rfl,rfl,w1,w2,w3,hR,aN.refl _ _ _ _⟩
 .rw[b]at hh;have ha:am r x size how=(r,true):=by rw[am,b];rfl
  rw[ha];refine J8 a5.symm n0 U.symm g1 a4 q9 b7 hh ?_;exact⟨_,none,H,rfl,rfl,rfl,w1,w2,w3,hR,aN.refl _ _ _ _⟩
end Go.Proofs.YtofbhlhamfkljaaGreatDoor.Ve
namespace Go.Proofs.YtofbhlhamfkljaaGreatDoor.Ve
open Go Ve.Ab
open Go.Proofs.Tryz (prog)
noncomputable def p34:Code×Code×Code×Code×Code:=match Tryz.f34.body with
 |some (.seq a (.seq (.seq b (.block _ (.rangeFunc _ _ A B))) c))=>(a,b,A,B,c)
 |_=>(.skip,.skip,.skip,.skip,.skip)
theorem JW:Tryz.f34.body=some (.seq p34.1 (.seq (.seq p34.2.1 (.block 0 (.rangeFunc (.tmp 11) #[12,13] p34.2.2.1 p34.2.2.2.1))) p34.2.2.2.2)):=kR
abbrev zp:=cO [N 2 (bx 75 0),N 3 (bx 3 1),N 4 (.alloc 4)]
theorem Re:Q0 p34.1=some zp:=kR
abbrev zq:=cO [L 9 75 2,L 10 3 3,N 11 (c2 61 9 10 75 3)]
theorem Rf:Q0 p34.2.1=some zq:=kR
abbrev mU:=cX [A 5 12] (cO [A 6 13])
theorem PP:Q0 p34.2.2.1=some mU:=kR
abbrev Nk:=cS (.mix [⟨L 30 75 2,false,true,0,1⟩,m1 (L 31 75 2),m0 (N 32 (nc 31)),m0 (F 33 39 32 0),m1 (L 34 34 33),m1 (L 35 51 8),m1 (L 36 75 2),m0 (N 37 (nc 36)),m0 (F 38 39 37 2),m1 (L 39 36 38),m0 (M 40 5),m0 (N 41 (ia 36 39 40)),m1 (L 42 59 41),m1 (L 43 75 2),m0 (N 44 (nc 43)),m0 (F 45 39 44 2),m1 (L 46 36 45),m0 (M 47 6),m0 (N 48 (ia 36 46 47)),m1 (L 49 59 48),m3 (N 50 (cf 41 #[T 34,T 35,T 42,T 49] #[34,51,59,59])) 0 1,⟨L 51 3 3,false,true,0,1⟩,m2 (M 52 7) 0 1,m2 (M 53 5) 0 1,m2 (M 54 6) 0 1,m2 (N 55 (.build 56 #[(0,T 52),(1,T 53),(2,T 54)])) 0 1,m3 (N 56 (cf 62 #[T 30,T 50,T 51,T 55] #[75,59,3,56])) 1 2,m2 (N 57 (nt' 4 56)) 2 2]) (cC (T 57) (cR [V (.store 4 (T 4) B0)]) .skip)
abbrev Nl:=cS (cX [L 24 75 2,L 25 51 8,M 26 5,M 27 6,N 28 (cf 40 #[T 24,T 25,T 26,T 27] #[75,51,3,3]),N 29 (nt' 4 28)] (cC (T 29) (.exit 3) .skip)) Nk
abbrev Nm:=cS (cB 3 (cX [M 21 19,N 22 (ia 35 17 19),L 23 51 22,N 8 (.alloc 51),A 7 21,V (st' 51 8 23)] Nl)) (cO [N 58 (iN 19),M 19 58])
abbrev Jf:=cX [N 20 (bo .lss 3 19 18 3)] (cG 20 2 Nm)
abbrev mV:=cB 1 (cX [L 14 75 2,N 15 (nc 14),F 16 39 15 1,L 17 35 16,N 18 (ln 17 35),N 19 (.move (K 0))] (cW 2 Jf))
theorem PQ:Q0 p34.2.2.2.1=some mV:=kR
abbrev qp:=cR [V (.store 4 (T 4) B1)]
theorem Rg:Q0 p34.2.2.2.2=some qp:=kR
theorem Lh:prog.funcs[34]?=some Tryz.f34:=kR
theorem Rq:(I1 Tryz.f34.ntmps p34.1&&I1 Tryz.f34.ntmps p34.2.1&&I1 Tryz.f34.ntmps p34.2.2.1&&I1 Tryz.f34.ntmps p34.2.2.2.1&&I1 Tryz.f34.ntmps p34.2.2.2.2&&E7 p34.2.2.1&&E7 p34.2.2.2.1&&decide (12<Tryz.f34.ntmps)&&decide (13<Tryz.f34.ntmps))=true:=kR
theorem PI:fnA prog 34=none:=kR
theorem Ro:Tryz.f34.ntmps=59:=kR
theorem Rv:Tryz.f34.results.toList=[.cell 4 4]:=kR
end Go.Proofs.YtofbhlhamfkljaaGreatDoor.Ve
namespace Go.Proofs.YtofbhlhamfkljaaGreatDoor.Ve
open Go Go.RowKit
open Go.Proofs.Tryz (prog)
theorem oq(s:StD)(e:EvD)(fi ne:SoD):∀(l:List (PrD×Int))(bs:List Bool),(W9 s e fi ne l bs).length=bs.length
 |[],bs=>rfl
 |x::l,bs=>by
  rw[W9,oq s e fi ne l,aV,rZ];simp
theorem FR(s:StD)(e:EvD)(fi ne:SoD){n:Nat}(u:(n:Int)=A0 s.progs):bJ (I4 s e fi ne) n:=fun _=>by
 show(kz (W9 s e fi ne (s.progs.zip s.base) (List.replicate (A0 s.progs).toNat false))).size=n;have h:∀l:List Bool,(kz l).size=l.length:=fun l=>by
  show((l.map fun b=>if b then(1:UInt8) else 0).toArray).size=_;simp
 rw[h,oq,List.length_replicate];omega
structure WfR(r:ReD)(n:Nat):Prop where
 n0:(n:Int)=A0 r.strat.progs
 st:WfS r.strat n
 so:∀x∈r.sorts,bJ x n
 at_:∀e∈r.labels,e.attrs.length<=1000000
 sz:∀p∈r.strat.progs,p.ts.length<=1000000/\p.ed.length<=1000000/\0<=p.st/\p.st<=1000000
 l1:r.sorts.length<=25
 l2:r.size.length=r.sorts.length
 l3:r.how.length=r.sorts.length
 ll:r.labels.length<=1000
 l0:1<=r.sorts.length
 sb:∀x∈r.size,0<=x/\x<=200
theorem eF(r:ReD)(x:SoD)(size:Int)(how:Int×Int×Int):(am r x size how).1.strat=r.strat/\(am r x size how).1.labels=r.labels/\r.size<+:(am r x size how).1.size/\r.sorts<+:(am r x size how).1.sorts:=by
 unfold am;split
 .exact⟨rfl,rfl,List.prefix_rfl,List.prefix_rfl⟩
 .split
  .exact⟨rfl,rfl,List.prefix_rfl,List.prefix_rfl⟩
  .exact⟨rfl,rfl,List.prefix_append _ _,List.prefix_append _ _⟩
theorem WfR.add{r:ReD}{n:Nat}(h:WfR r n){x:SoD}(D:bJ x n){size:Int}(E:0<=size)(how:Int×Int×Int):WfR (am r x size how).1 n:=by
 unfold am;split
 .exact h
 .split
  .exact h
  .rename_i z;simp only[Bool.or_eq_true,decide_eq_true_eq,not_or]at z;refine⟨h.n0,h.st,fun y u=>?_,h.at_,h.sz,?_,?_,?_,h.ll,?_,fun y u=>?_⟩
   .rcases List.mem_append.1 u with q|q
    .exact h.so y q
    .rw[List.mem_singleton.1 q];exact D
   .simp only[List.length_append,List.length_singleton];omega
   .simp only[List.length_append,List.length_singleton];rw[h.l2]
   .simp only[List.length_append,List.length_singleton];rw[h.l3]
   .simp only[List.length_append,List.length_singleton];omega
   .rcases List.mem_append.1 u with q|q
    .exact h.sb y q
    .rw[List.mem_singleton.1 q];omega
def soZ:SoD:=(false,false,eB)
def M9(size a b:Int):List EvD->Nat->ReD->ReD×Bool
 |[],_,r=>(r,true)
 |e::l,i,r=>
  if R5 r.sorts e.kind a b then
   if(am r (I4 r.strat e (r.sorts.getD a.toNat soZ) (r.sorts.getD b.toNat soZ)) size (i,a,b)).2 then M9 size a b l (i+1) (am r (I4 r.strat e (r.sorts.getD a.toNat soZ) (r.sorts.getD b.toNat soZ)) size (i,a,b)).1
   else((am r (I4 r.strat e (r.sorts.getD a.toNat soZ) (r.sorts.getD b.toNat soZ)) size (i,a,b)).1,false)
  else M9 size a b l (i+1) r
structure CN(Hb:d8)(rb lw:Nat)(W0:LV)(b2 b3 b4:Nat)(size:Int):Prop where
 g2:Hb.get b2=cE [pT rb] 1
 g3:Hb.get b3=cE [iV size] 1
 g4:∃v,Hb.get b4=cE [v] 1
 ne:∀j,(j=b2\/j=b3\/j=b4)->lw<=j/\j≠rb/\∀w∈W0,¬l7 w j
theorem CN.at_{u:d8}{E O:Nat}{I:LV}{y z D:Nat}{size:Int}(h:CN u E O I y z D size){W:LV}{H:d8}(S:aN E O I u W H):H.get y=cE [pT E] 1/\H.get z=cE [iV size] 1/\∃v,H.get D=cE [v] 1:=by
 obtain⟨v,J⟩:=h.g4;have k:∀j,(j=y\/j=z\/j=D)->j<u.next->H.get j=u.get j:=fun j U X=>by
  have:=h.ne j U;exact S.but j X this.2.1 this.2.2
 exact⟨(k y (.inl rfl) (u7 h.g2)).trans h.g2,(k z (.inr (.inl rfl)) (u7 h.g3)).trans h.g3,v,(k D (.inr (.inr rfl)) (u7 J)).trans J⟩
theorem uM(Hs:d8)(lo K:Nat)(rb lw:Nat)(G:Nat->Prop)(rs:LV)(vl:Value)(W0:LV)(Hb:d8)(b2 b3 b4:Nat)(size a b:Int)(h0:0<=size)(n:Nat)(a5:CN Hb rb lw W0 b2 b3 b4 size)(m3:lo<=lw)(g6:∀j,j<lo->Hb.get j=Hs.get j) (va:Option Addr) (vc:Nat) (I:List EvD) (e6:vl= .slice va I.length vc) (O:ReD×Bool):
  ∀kk e H,(∃(i:Nat)(r:ReD)(U W X:Value),kk=I.length-i/\i<=I.length/\e.get 2=pT b2/\e.get 3=pT b3/\e.get 4=pT b4/\e.get 5=iV a/\e.get 6=iV b/\e.get 17=vl/\e.get 18=iV I.length/\e.get 19=iV i/\
    r.labels=I/\U0 (QR Hs lo K false) (QR Hs lo K true) H rb lw G r rs vl U W X/\aN rb lw W0 Hb [U,W,X] H/\WfR r n/\M9 size a b (I.drop i) i r=O)->
  w7 (LE prog t6 (.loop Jf) e H) (fun o e H=>(o= .exit 2/\O.2=true/\∃U W X,U0 (QR Hs lo K false) (QR Hs lo K true) H rb lw G O.1 rs vl U W X/\aN rb lw W0 Hb [U,W,X] H/\WfR O.1 n)\/(o= .ret/\O.2=false/\H.get b4=cE [.bool false] 1/\i6 lw Hb H)):=by
 refine i8 _ _ ?_;rintro kk e H ⟨i,r,U,W,X,hk,hi,f2,f3,f4,f5,f6,c6,a1,b5,a6,hR,hT,u,y⟩;obtain⟨g2,g3,w4,g4⟩:=a5.at_ hT;have h1:=u.ll;rw[a6]at h1;rcases bd:decide ((i:Int)<I.length)with _|_
 .have g5:=dF bd;have:I.drop i=[]:=dN oM;rw[this,M9]at y;refine J3 b5 a1 bd ?_;exact i9 (.inl ⟨rfl,by rw[<-y],U,W,X,by rw[<-y];exact hR,hT,by rw[<-y];exact u⟩)
 have g5:=dT bd;have g9:i<I.length:=oM;have c3:=hR.lb;rw[a6,e6]at c3;obtain⟨ev,nb,o,cs,own,el,hx,hd,rfl,k8,hg,m2,a7,hc,d4⟩:=c3.row (i:=i) g9;rw[hd,M9]at y;have nt:(i:Int).toNat=i:=tN i;have g7:ev∈r.labels:=by rw[a6];exact mG hx
 obtain⟨av,b7,g0⟩:=id d4;obtain⟨aa,ac,rfl⟩:=g0.slice;have b9:el.length=5:=by rw[b7];rfl
 have b1:el.all oC=true:=by rw[b7];rfl
 have f1:el[0]?=some (.int .i64 ev.kind):=by rw[b7];rfl
 have S:=c6;rw[e6]at S;obtain⟨H1,b6,n1,g1,-⟩:=pushE H (bC [iV 0,.string eB,.string eB,nS,.string eB] 1);have d1:el.take 5=el:=List.take_of_length_le oM;obtain⟨H2,a2⟩:=eY (H1.put H.next (bC el 1));have n2:H2.next=H.next+1:=by rw[a2,t5,n1]
 have sp:splice [iV 0,.string eB,.string eB,nS,.string eB] 0 el=el:=by rw[b7];rfl
 have hS:i6 H.next H H2:=by rw[a2,b6];exact(i6.push lR).trans (i6.put lR)
 have ge:H2.get H.next=cE el 1:=by rw[a2];exact j5 oM
 have D:=hR.keep hS;have a3:=D.g;have m6:=u7 hR.g;have m4:=hR.nb.1;have l2:b2<H.next:=u7 g2;have l3:b3<H.next:=u7 g3;have l4:b4<H.next:=u7 g4;have c7:=(hS.get b2 l2).trans g2;have d3:=(hS.get b3 l3).trans g3;have k5:=(hS.get b4 l4).trans g4;obtain⟨q8,q9,i1,i2⟩:=D.at_;have h4:=hR.rsl;have c9:aN rb lw W0 Hb [U,W,X] H2:=hT.trans (aN.of hS oM);have b0:=ET H2 rb _ true 1 a3 r.sorts U D.so.sl q9 el ev b9 b1 f1 a b;have c5:∀(e':Env)(H':d8)(r':ReD)(y1 y2 y3:Value),e'.get 2=pT b2->e'.get 3=pT b3->e'.get 4=pT b4->e'.get 5=iV a->e'.get 6=iV b->e'.get 17=vl->e'.get 18=iV I.length->e'.get 19=iV (i+1:Nat)->
   r'.labels=I->U0 (QR Hs lo K false) (QR Hs lo K true) H' rb lw G r' rs vl y1 y2 y3->aN rb lw W0 Hb [y1,y2,y3] H'->WfR r' n->M9 size a b (I.drop (i+1)) (i+1) r'=O->
   ∃(i:Nat)(r:ReD)(U W X:Value),kk-1=I.length-i/\i<=I.length/\e'.get 2=pT b2/\e'.get 3=pT b3/\e'.get 4=pT b4/\e'.get 5=iV a/\e'.get 6=iV b/\e'.get 17=vl/\e'.get 18=iV I.length/\e'.get 19=iV i/\
    r.labels=I/\U0 (QR Hs lo K false) (QR Hs lo K true) H' rb lw G r rs vl U W X/\aN rb lw W0 Hb [U,W,X] H'/\WfR r n/\M9 size a b (I.drop i) i r=O:=
  fun e' H' r' y1 y2 y3 p1 p2 p3 p4 p5 p6 p7 p8 p9 h6 h7 h8 h9=>⟨i+1,r',y1,y2,y3,oM,oM,p1,p2,p3,p4,p5,p6,p7,p8,p9,h6,h7,h8,h9⟩
 have nx:((i:Int)+1)=((i+1:Nat):Int):=oM;obtain⟨i3,J⟩:=eY (rs++[vl,U,W,X]);have e9:ldC (some true) (some 8) 0 i3=some (.agg rs.toArray):=by
  rw[eW _ _ _ (by rw[J];simp [h4]),J,List.drop_zero,List.take_append_of_le_length oM,List.take_of_length_le oM]
 rw[<-J]at a3 q8 q9 i1 i2;rcases bm:R5 r.sorts ev.kind a b with _|_
 .rw[bm]at b0 y;simp only[bF]at y;refine J21 f2 f5 f6 S a1 b5 bd hg nt a7 b6.symm g1 b9 b1 d1 sp a2.symm ge c7 b0 @wrap_small ?_;exact i4 (kk-1) oM (c5 _ _ r U W X f2 f3 f4 f5 f6 c6 a1 (by rw[<-nx];rfl) a6 D c9 u y)
 .rw[bm]at b0 y;simp only[if_true]at y;have d2:=bm;simp only[R5,knB,Bool.and_eq_true,decide_eq_true_eq]at d2;obtain⟨⟨⟨k9,l5⟩,l6,l8⟩,_⟩:=d2;have b8:=D.so.sl;have j2:=b8;obtain⟨sa,sc,rfl⟩:=b8.slice;obtain⟨fi,h5,oa,k0,j3,f7,e7,_,e1,k6,d0,j0,a8,m0,g8⟩:=b8.row (i:=a.toNat) oM;obtain⟨ne,m7,ob,k1,j4,f8,e8,_,e2,k7,d9,j1,a9,m1,e5⟩:=b8.row (i:=b.toNat) oM;obtain rfl:f7=soE fi:=g8;obtain rfl:f8=soE ne:=e5;subst e1;cases e2;rw[d0]at d9;cases d9;have d7:r.sorts.getD a.toNat soZ=fi:=by rw[List.getD_eq_getElem?_getD,e7];rfl
  have e3:r.sorts.getD b.toNat soZ=ne:=by rw[List.getD_eq_getElem?_getD,e8];rfl
  rw[d7,e3]at y;have e4:=qw Hs lo K r.strat ev fi ne G H2 rs el D.st (y9 _ _ _ _ _ _ d4 (fun j hj=>hS.get j (hR.fr j hj).1) (fun _ h=>h)) (fun j hj=>(D.fr j hj).1) (fun j hj=>by rw[c9.stay.get j oM];exact g6 j hj) (oN (u7 a3)) n u.n0 u.st (u.so fi (mG e7)) (u.so ne (mG e8)) (u.at_ ev g7) u.sz;have d6:=MR (QR Hs lo K false) (QR Hs lo K true) H2 rb lw G r rs vl (.slice (some ⟨h5,oa,none⟩) r.sorts.length sc) W X D (I4 r.strat ev fi ne) size (i,a,b) (oN (u.l1)) (by have:=u.l1;have:=u.l2;omega) (by have:=u.l1;have:=u.l3;omega);obtain⟨m8,m5,H3,E,c0,h2,y1,y2,y3,d5,f9⟩:=d6;subst h2;have a4:=c9.trans f9;have c4:=u.add (FR r.strat ev fi ne u.n0) h0 (i,a,b);obtain⟨i0,f0,_,_⟩:=eF r (I4 r.strat ev fi ne) size (i,a,b);obtain⟨z,hz⟩:=eY (am r (I4 r.strat ev fi ne) size (i,a,b));rw[<-hz]at E d5 c4 i0 f0 y;obtain⟨k2,k3,w5,k4⟩:=a5.at_ a4;rcases bz:z.2 with _|_
  .rw[bz]at E y;simp only[bF]at y;have h3:b4<H3.next:=u7 k4;obtain⟨H4,c8⟩:=eY (H3.put b4 (bC [.bool false] 1));have e5:=(a5.ne b4 (.inr (.inr rfl))).1;refine J30 f2 f3 f4 f5 f6 S a1 b5 e9 bd hg nt a7 b6.symm g1 b9 b1 d1 sp a2.symm ge c7 d3 b0 a3 q9 (aI d0 a8) (aI a9 e4) (aI E c0) (aI k4 c8.symm) ?_;refine z9 (.inr ⟨rfl,by rw[<-y],by rw[c8];exact j5 h3,?_⟩);rw[c8];exact a4.stay.trans (i6.put oM)
  .rw[bz]at E y;simp only[if_true]at y;refine J30 f2 f3 f5 f6 S a1 b5 e9 bd hg nt a7 b6.symm g1 b9 b1 d1 sp a2.symm ge c7 d3 b0 a3 q9 d0 a8 a9 (aI e4 E) (aI c0 @wrap_small) ?_;exact i4 (kk-1) oM (c5 _ _ z.1 y1 y2 y3 f2 f3 f4 f5 f6 c6 a1 (by rw[<-nx];rfl) (by rw[f0,a6]) d5 a4 c4 y)
end Go.Proofs.YtofbhlhamfkljaaGreatDoor.Ve
namespace Go.Proofs.YtofbhlhamfkljaaGreatDoor.Ve
open Go
theorem mN{i:Nat}{p q:Nat->Bool}:∀m,i<m->(∀j,j<m->j≠i->p j=q j)->p i=true->q i=false->(List.range m).countP p=(List.range m).countP q+1:=by
 intro m;induction m with
 |zero=>intro h;omega
 |succ m I=>
  intro J h z D;rw[List.range_succ,List.countP_append,List.countP_append,List.countP_singleton,List.countP_singleton];by_cases y:i=m
  .subst y;have:(List.range i).countP p=(List.range i).countP q:=List.countP_congr fun x E=>by rw[h x (oN (List.mem_range.1 E)) (oN (List.mem_range.1 E))]
   rw[this,z,D];rfl
  .rw[I oM (fun j O u=>h j oM u) z D,h m oM (fun q=>y q.symm)];omega
def unl(m:Nat)(L:Array Bool):Nat:=(List.range m).countP fun i=> !L.getD i true
def aj(md:Region.Mode)(ops:Array Oper)(i:Nat):List Nat:=((ops[i]?).map fun o=>(o.after.toList.filter fun e=>Region.binds md e).map (·.on)).getD []
theorem Z8{md:Region.Mode}{ops:Array Oper}{L:Array Bool}{i:Nat}:i∈Region.ready md ops L↔i<ops.size/\L.getD i true=false/\∀d∈aj md ops i,L.getD d false=true:=by
 unfold Region.ready aj;rw[List.mem_filter,List.mem_range]
 constructor
 .rintro⟨h,u⟩;simp only[Bool.and_eq_true,Bool.not_eq_true']at u;refine⟨h,u.1,fun d z=>?_⟩;have E:ops[i]?=some ops[i]:=Array.getElem?_eq_getElem h;rw[E]at u z;simp only[Option.map_some,Option.getD_some,List.mem_map,List.mem_filter]at u z;obtain⟨e,⟨D,y⟩,rfl⟩:=z;have:=Array.all_eq_true'.1 u.2 e (by simpa using D);simp only[y,Bool.not_true,Bool.false_or]at this;exact this
 .rintro⟨h,I,u⟩;refine⟨h,?_⟩;have E:ops[i]?=some ops[i]:=Array.getElem?_eq_getElem h;rw[E]at u ⊢;simp only[Option.map_some,Option.getD_some,Bool.and_eq_true,Bool.not_eq_true']at u ⊢;refine⟨I,Array.all_eq_true'.2 fun e D=>?_⟩;by_cases y:Region.binds md e=true
  .rw[u e.on (List.mem_map.2 ⟨e,List.mem_filter.2 ⟨by simpa using D,y⟩,rfl⟩)];simp
  .simp [y]
theorem U3(L:Array Bool)(i j:Nat)(d:Bool):(L.setIfInBounds i true).getD j d=if i=j then(if j<L.size then true else d) else L.getD j d:=by
 rw[Array.getD_eq_getD_getElem?,Array.getElem?_setIfInBounds,Array.getD_eq_getD_getElem?];by_cases h:i=j
 .subst h;by_cases u:i<L.size
  .simp [u]
  .simp [u]
 .simp [h]
theorem bD{L:Array Bool}{i:Nat}(h:i<L.size)(a b:Bool):L.getD i a=L.getD i b:=by
 rw[Array.getD_eq_getD_getElem?,Array.getD_eq_getD_getElem?,Array.getElem?_eq_getElem h];rfl
structure mr(md:Region.Mode)(ops pre:Array Oper):Prop where
 le:pre.size<=ops.size
 pos:0<pre.size
 same:∀i:Nat,i<pre.size->ops[i]?=pre[i]?
 plain:∀(i:Nat)(o:Oper),pre[i]?=some o->o.guard=none
 back:∀i,i<pre.size->∀d∈aj md ops i,d<i
 used:∀i,i+1<pre.size->∃j,i<j/\j<pre.size/\i∈aj md ops j
 later:∀i,pre.size<=i->i<ops.size->∃d,d∈aj md ops i/\pre.size<=d+1
structure zZ(ops pre:Array Oper)(md:Region.Mode)(L L':Array Bool):Prop where
 s1:L.size=ops.size
 s2:L'.size=pre.size
 eq:∀i,i<pre.size->L.getD i true=L'.getD i true
 off:∀i,pre.size<=i->i<ops.size->L.getD i true=false
 cl:∀i,i<pre.size->L'.getD i true=true->∀d∈aj md ops i,L'.getD d true=true
section
variable{F:Fence}{n:Nat}{P:Program}{ops pre:Array Oper}{md:Region.Mode}{Q Q':Exit->Act->World->Prop}
theorem qj(h:mr md ops pre){L I:Array Bool}(r:zZ ops pre md L I)(W:I.getD (pre.size-1) true=false){i:Nat}:i∈Region.ready md ops L↔i∈Region.ready md pre I:=by
 have hp:=h.pos;have X:=h.le;have w:∀i,i<pre.size->aj md ops i=aj md pre i:=fun i y=>by unfold aj;rw[h.same i y]
 rw[Z8,Z8]
 constructor
 .rintro⟨z,J,E⟩;by_cases y:i<pre.size
  .refine⟨y,(r.eq i y)▸J,fun d u=>?_⟩;rw[<-w i y]at u;have O:=h.back i y d u;have:=E d u;rw[bD (by rw[r.s1];omega) false true,r.eq d oM]at this;rw[bD (by rw[r.s2];omega) false true];exact this
  .obtain⟨d,u,U⟩:=h.later i oM z;have:=E d u
   exfalso
   by_cases S:d<pre.size
   .have e:d=pre.size-1:=oM;rw[bD (by rw[r.s1];omega) false true,r.eq d S,e,W]at this;cases this
   .by_cases D:d<ops.size
    .rw[bD (by rw[r.s1];exact D) false true,r.off d oM D]at this;cases this
    .rw[Array.getD_eq_getD_getElem?,Array.getElem?_eq_none (by rw[r.s1];omega)]at this;cases this
 .rintro⟨z,J,E⟩;refine⟨oM,(r.eq i z).symm▸J,fun d u=>?_⟩;have O:=h.back i z d u;rw[w i z]at u;have:=E d u;rw[bD (by rw[r.s2];omega) false true]at this;rw[bD (by rw[r.s1];omega) false true,r.eq d oM];exact this
theorem zn(h:mr md ops pre){L u:Array Bool}(r:zZ ops pre md L u)(E:u.getD (pre.size-1) true=true):∀i,i<pre.size->u.getD i true=true:=by
 have:∀k i,i+k+1=pre.size->u.getD i true=true:=by
  intro k;induction k using Nat.strongRecOn with
  |ind k I=>
   intro i D;by_cases O:i+1=pre.size
   .have:i=pre.size-1:=oM;rw[this];exact E
   .obtain⟨j,J,y,z⟩:=h.used i oM;exact r.cl j y (I (pre.size-1-j) oM j oM) i z
 exact fun i D=>this (pre.size-1-i) i oM
theorem qi(h:mr md ops pre){L y:Array Bool}(r:zZ ops pre md L y)(S:y.getD (pre.size-1) true=false):∃i,i∈Region.ready md pre y:=by
 have hp:=h.pos;have:∀k i,i<=k->i<pre.size->y.getD i true=false->∃j,j∈Region.ready md pre y:=by
  intro k;induction k with
  |zero=>
   intro i O u E;refine⟨i,Z8.2 ⟨u,E,fun d z=>?_⟩⟩;have:=h.back i u d (by unfold aj at z ⊢;rw[h.same i u];exact z);omega
  |succ k W=>
   intro i O u E;by_cases I:∃j,j<i/\y.getD j true=false
   .obtain⟨j,X,J⟩:=I;exact W j oM oM J
   .refine⟨i,Z8.2 ⟨u,E,fun d z=>?_⟩⟩;have D:=h.back i u d (by unfold aj at z ⊢;rw[h.same i u];exact z);rw[bD (by rw[r.s2];omega) false true];cases U:y.getD d true with
    |true=>rfl
    |false=>exact absurd ⟨d,D,U⟩ I
 exact this (pre.size-1) (pre.size-1) lR oM S
theorem Kk(h:mr md ops pre)(k:Nat)(Lm:Array Bool)(a4:∀L z,zZ ops pre md L z->(∀i,i<pre.size->z.getD i true=true)->L=Lm)
  (I:∀c a w,Q' (.panic c) a w->Q (.panic c) a w) (a3:∀a w,Q' .normal a w->wpAnyIn F n P md ops Q k Lm a w) (W:LetsOut Q'->LetsOut Q):
  ∀u L z a w,zZ ops pre md L z->unl pre.size z=u->wpAnyIn F n P md pre Q' u z a w->wpAnyIn F n P md ops Q (u+k) L a w:=by
 have hp:=h.pos;intro u;induction u with
 |zero=>
  intro L z a w r hu hw;have hl:z.getD (pre.size-1) true=true:=by
   cases X:z.getD (pre.size-1) true with
   |true=>rfl
   |false=>
    obtain⟨i,hi⟩:=qi h r X;rw[hw.1]at hi;cases hi
  rw[Nat.zero_add,a4 L z r (zn h r hl)];exact a3 a w hw.2
 |succ u ih=>
  intro L z a w r hu hw;have hl:z.getD (pre.size-1) true=false:=by
   cases X:z.getD (pre.size-1) true with
   |false=>rfl
   |true=>
    have:unl pre.size z=0:=by
     unfold unl;rw[List.countP_eq_zero];intro i hi;rw[zn h r X i (List.mem_range.1 hi)];decide
    omega
  obtain⟨i0,a6⟩:=qi h r hl;rw[show u+1+k=(u+k)+1 from oM];refine⟨fun q=>?_,fun i hi=>?_⟩
  .have:=(qj h r hl).2 a6;rw[q]at this;cases this
  .have a1:=(qj h r hl).1 hi;obtain⟨O,a7,a8⟩:=Z8.1 a1;have y:=hw.2 i a1;have ho:pre[i]?=some pre[i]:=Array.getElem?_eq_getElem O;have b1:ops[i]?=some pre[i]:=(h.same i O).trans ho;have hg:=h.plain i _ ho;have r2:zZ ops pre md (L.setIfInBounds i true) (z.setIfInBounds i true):=by
    refine⟨by simp [r.s1],by simp [r.s2],fun j S=>?_,fun j S a9=>?_,fun j S X d hd=>?_⟩
    .rw[U3,U3,r.s1,r.s2,if_pos (show j<ops.size by have:=h.le;omega),if_pos S,r.eq j S]
    .rw[U3,if_neg oM];exact r.off j S a9
    .have b4:=h.back j S d hd;rw[U3]at X ⊢;by_cases a2:i=j
     .subst a2;have a5:d∈aj md pre i:=by unfold aj at hd ⊢;rw[<-h.same i S];exact hd
      have:=a8 d a5;rw[bD (by rw[r.s2];omega) false true]at this;by_cases E:i=d
      .rw[if_pos E,if_pos (by rw[r.s2];omega)]
      .rw[if_neg E];exact this
     .rw[if_neg a2]at X;have:=r.cl j S X d hd;by_cases E:i=d
      .rw[if_pos E,if_pos (by rw[r.s2];omega)]
      .rw[if_neg E];exact this
   have U:unl pre.size (z.setIfInBounds i true)=u:=by
    have:=mN (i:=i) (p:=fun j=> !z.getD j true) (q:=fun j=> !(z.setIfInBounds i true).getD j true) pre.size O (fun j S b0=>by
     simp only[U3];rw[if_neg (fun q=>b0 q.symm)]) (by show(!z.getD i true)=true;rw[a7];rfl) (by show(!(z.setIfInBounds i true).getD i true)=false;rw[U3,if_pos rfl,if_pos (by rw[r.s2];exact O)];rfl)
    unfold unl at hu ⊢;omega
   unfold wpOpIn at y ⊢;simp only[ho,b1]at y ⊢;have b2:∀v,Region.wanted pre[i] v=true:=fun v=>by unfold Region.wanted;rw[hg]
   simp only[b2,if_true]at y ⊢;refine⟨y.1,?_⟩;have D:=y.2;generalize (pre[i].semAt F.round a.eval).run P w=res at D ⊢;cases res with
   |ok x w'=>
    cases x<;>simp only[Oper.uponIn]at D ⊢ <;>
     first
      |exact ih _ _ _ _ r2 U D
      |exact⟨D.1,CallsIn.mono D.2 (fun e b3 J=>by cases e<;>first|exact ih _ _ _ _ r2 U J|exact I _ _ _ J|exact W J)⟩
      |exact⟨D.1,RowsIn.mono D.2 (fun _ _ J=>ih _ _ _ _ r2 U J)⟩
      |exact⟨D.1,RoundIn.mono D.2 (fun e b3 J=>by cases e<;>first|exact ih _ _ _ _ r2 U J|exact I _ _ _ J|exact W J)⟩
   |halt x w'=>cases x<;>simp only[Oper.uponIn]at D ⊢ <;>first|exact I _ _ _ D|exact D
end
structure yW(md:Region.Mode)(pre:Array Oper):Prop where
 plain:∀(i:Nat)(o:Oper),pre[i]?=some o->o.guard=none/\o.dst.isSome=true/\(∀cs b,o.op≠ .select cs b)/\(∀c,o.op≠ .defer c)
 apart:∀(i j:Nat)(oi oj:Oper),pre[i]?=some oi->pre[j]?=some oj->i≠j->oi.dst≠oj.dst
 reads:∀(i j:Nat)(oi oj:Oper)(t:Tmp),pre[i]?=some oi->pre[j]?=some oj->Operand.tmp t∈oi.op.operands->oj.dst=some t->j∈aj md pre i
structure CT(pre:Array Oper)(a0 af:Act)(L:Array Bool)(a:Act):Prop where
 sz:L.size=pre.size
 ts:a.tmps.size=a0.tmps.size
 df:a.defers=a0.defers
 on:∀(j:Nat)(o:Oper)(t:Tmp),pre[j]?=some o->o.dst=some t->L.getD j true=true->a.tmps.getD t undef=af.tmps.getD t undef
 off:∀t,(∀(j:Nat)(o:Oper),pre[j]?=some o->o.dst=some t->L.getD j true=false)->a.tmps.getD t undef=a0.tmps.getD t undef
theorem yX{a b:Act}(h:a.tmps.size=b.tmps.size)(u:a.defers=b.defers)(y:∀t,a.tmps.getD t undef=b.tmps.getD t undef):a=b:=by
 obtain⟨z,I⟩:=a;obtain⟨O,J⟩:=b;simp only at h u y;subst u
 congr 1
 apply Array.ext h;intro i D E;have:=y i;rw[Array.getD_eq_getD_getElem?,Array.getD_eq_getD_getElem?,Array.getElem?_eq_getElem D,Array.getElem?_eq_getElem E]at this;exact this
theorem FS{n:Nat}{P:Program}{pre:Array Oper}{md:Region.Mode}{Q:Exit->Act->World->Prop}(h:yW md pre){a0 af:Act}{w:World}(hs:af.tmps.size=a0.tmps.size)(hd:af.defers=a0.defers)
  (U:∀t,(∀(j:Nat)(o:Oper),pre[j]?=some o->o.dst≠some t)->af.tmps.getD t undef=a0.tmps.getD t undef) (a7:∀(j:Nat)(o:Oper)(t:Tmp),pre[j]?=some o->o.dst=some t->t<a0.tmps.size)
  (a1:∀(i:Nat)(o:Oper)(t:Tmp),pre[i]?=some o->o.dst=some t->(execOp af.eval o).run P w= .ok (.value (af.tmps.getD t undef)) w) (hQ:Q .normal af w)
  (X:∀L:Array Bool,L.size=pre.size->Region.ready md pre L=[]->∀i,i<pre.size->L.getD i true=true):
  ∀z L a,CT pre a0 af L a->unl pre.size L<=z->wpAnyIn Fence.wide n P md pre Q z L a w:=by
 have done:∀L a,CT pre a0 af L a->(∀i,i<pre.size->L.getD i true=true)->a=af:=fun L a r S=>by
  refine yX (r.ts.trans hs.symm) (r.df.trans hd.symm) fun t=>?_;by_cases E:∃(j:Nat)(o:Oper),pre[j]?=some o/\o.dst=some t
  .obtain⟨j,o,y,D⟩:=E;exact r.on j o t y D (S j (gA y).1)
  .rw[U t (fun j o y D=>E ⟨j,o,y,D⟩)];exact r.off t fun j o y D=>absurd ⟨j,o,y,D⟩ E
 intro z;induction z with
 |zero=>
  intro L a r hu;have S:∀i,i<pre.size->L.getD i true=true:=fun i hi=>by
   have h0:unl pre.size L=0:=oM;unfold unl at h0;rw[List.countP_eq_zero]at h0;have:=h0 i (List.mem_range.2 hi)
   simpa using this
  refine⟨?_,(done L a r S)▸hQ⟩;cases hr:Region.ready md pre L with
  |nil=>rfl
  |cons i is=>
   have:=(Z8.1 (show i∈Region.ready md pre L by rw[hr];simp))
   rw[S i this.1]at this;cases this.2.1
 |succ z ih=>
  intro L a r hu;refine⟨fun q=>(done L a r (X L r.sz q))▸hQ,fun i hi=>?_⟩;obtain⟨O,a6,a8⟩:=Z8.1 hi;have W:pre[i]?=some pre[i]:=Array.getElem?_eq_getElem O;obtain⟨hg,a4,a2,b3⟩:=h.plain i _ W;obtain⟨t,ht⟩:=Option.isSome_iff_exists.1 a4;have b1:=a7 i _ t W ht;unfold wpOpIn;simp only[W];have b2:∀v,Region.wanted pre[i] v=true:=fun v=>by unfold Region.wanted;rw[hg]
  simp only[b2,if_true];have a5:∀x∈pre[i].op.operands,a.eval x=af.eval x:=fun x hx=>by
   cases x with
   |tmp u=>
    show a.tmps.getD u undef=af.tmps.getD u undef;by_cases E:∃(j:Nat)(o:Oper),pre[j]?=some o/\o.dst=some u
    .obtain⟨j,o,y,D⟩:=E;have a9:=(gA y).1;have hw:=a8 j (h.reads i j _ o u W y hx D);rw[bD (by rw[r.sz];exact a9) false true]at hw;exact r.on j o u y D hw
    .rw[U u (fun j o y D=>E ⟨j,o,y,D⟩)];exact r.off u fun j o y D=>absurd ⟨j,o,y,D⟩ E
   |_=>rfl
  refine⟨fun _ _=>trivial,?_⟩;have e1:pre[i].semAt Fence.wide.round a.eval=execOp af.eval pre[i]:=(Oper.semAt_none _ _).trans (execOp_congr _ a2 a5);rw[e1,a1 i _ t W ht,Oper.uponIn_value,ht];refine ih _ _ ⟨by simp [r.sz],?_,?_,fun j o u y D S=>?_,fun u a3=>?_⟩ ?_
  .show(a.tmps.setIfInBounds t _).size=_;rw[Array.size_setIfInBounds];exact r.ts
  .exact r.df
  .show(a.tmps.setIfInBounds t _).getD u undef=_;rw[Array.getD_eq_getD_getElem?,Array.getElem?_setIfInBounds];by_cases I:t=u
   .rw[if_pos I,if_pos (by rw[r.ts];exact I▸b1),I];rfl
   .rw[if_neg I,<-Array.getD_eq_getD_getElem?];rw[U3]at S;by_cases J:i=j
    .subst J;rw[W]at y;cases y;exact absurd (Option.some.inj (ht.symm.trans D)) I
    .rw[if_neg J]at S;exact r.on j o u y D S
  .show(a.tmps.setIfInBounds t _).getD u undef=_;have I:t≠u:=fun q=>by
    have:=a3 i _ W (q▸ht);rw[U3,if_pos rfl,if_pos (by rw[r.sz];exact O)]at this;cases this
   rw[Array.getD_eq_getD_getElem?,Array.getElem?_setIfInBounds,if_neg I,<-Array.getD_eq_getD_getElem?];refine r.off u fun j o y D=>?_;have:=a3 j o y D;rw[U3]at this;by_cases J:i=j
   .rw[if_pos J]at this;split at this
    .cases this
    .cases this
   .rw[if_neg J]at this;exact this
  .have:=mN (i:=i) (p:=fun j=> !L.getD j true) (q:=fun j=> !(L.setIfInBounds i true).getD j true) pre.size O (fun j hj b0=>by
    simp only[U3];rw[if_neg (fun q=>b0 q.symm)]) (by show(!L.getD i true)=true;rw[a6];rfl) (by show(!(L.setIfInBounds i true).getD i true)=false;rw[U3,if_pos rfl,if_pos (by rw[r.sz];exact O)];rfl)
   unfold unl at hu ⊢;omega
theorem mr.least{md:Region.Mode}{pre:Array Oper}(u:∀i,i<pre.size->∀d∈aj md pre i,d<i) {L:Array Bool} (hs:L.size=pre.size) (z:Region.ready md pre L=[]):∀i,i<pre.size->L.getD i true=true:=by
 intro i;induction i using Nat.strongRecOn with
 |ind i E=>
  intro h;cases D:L.getD i true with
  |true=>rfl
  |false=>
   have:i∈Region.ready md pre L:=Z8.2 ⟨h,D,fun d y=>by
    have:=u i h d y;rw[bD (by rw[hs];omega) false true];exact E d this oM⟩
   rw[z]at this;cases this
def EC(t:Tmp)(x:Operand):Bool:=match x with| .tmp u=>u==t|_=>false
def xY(o:Oper):Bool:=o.guard.isNone&&o.dst.isSome&&(match o.op with| .select .. =>false| .defer .. =>false|_=>true)
def Kg(l:List Oper)(m:Nat):Bool:=
 let ops:=l.toArray
 let pre:=(l.take m).toArray
 decide (0<m)&&decide (m<=l.length)&&(List.range m).all (fun i=>(aj .any ops i).all fun d=>decide (d<i))&&(List.range m).all (fun i=>decide (m<=i+1)||(List.range m).any fun j=>decide (i<j)&&(aj .any ops j).contains i)&&
 (List.range l.length).all (fun i=>decide (i<m)||(aj .any ops i).any fun d=>decide (m<=d+1))&&(l.take m).all xY&&
 (List.range m).all (fun i=>(List.range m).all fun j=>match pre[i]?,pre[j]? with
  |some oi,some oj=>(decide (i=j)||decide (oi.dst≠oj.dst))&&(match oj.dst with|some t=> !(oi.op.operands.toList.any (EC t))||(aj .any pre i).contains j|none=>true)
  |_,_=>false)
theorem AR{l:List Oper}{m:Nat}(h:Kg l m=true):mr .any l.toArray (l.take m).toArray/\yW .any (l.take m).toArray/\m<=l.length:=by
 simp only[Kg,Bool.and_eq_true,decide_eq_true_eq,List.all_eq_true,List.mem_range]at h;obtain⟨⟨⟨⟨⟨⟨h0,W⟩,h2⟩,h3⟩,h4⟩,X⟩,h6⟩:=h;have hs:(l.take m).toArray.size=m:=by simp;omega
 have E:∀i:Nat,i<m->l.toArray[i]?=(l.take m).toArray[i]?:=fun i u=>by simp [u]
 refine⟨⟨by rw[hs];simpa using W,by rw[hs];exact h0,fun i u=>E i (by rw[hs]at u;exact u),fun i o O=>?_,fun i u d hd=>?_,fun i u=>?_,fun i u I=>?_⟩,⟨fun i o O=>?_,fun i j oi oj u D J=>?_,fun i j oi oj t u D hx ht=>?_⟩,W⟩
 .have:=X o (by simpa using Array.mem_of_getElem? O);simp only[xY,Bool.and_eq_true]at this
  simpa using this.1.1
 .rw[hs]at u;exact h2 i u d hd
 .rw[hs]at u ⊢;have:=h3 i oM;simp only[Bool.or_eq_true,decide_eq_true_eq,List.any_eq_true,List.mem_range,Bool.and_eq_true,List.contains_iff_mem]at this;rcases this with q|⟨j,S,U,q3⟩
  .omega
  .exact⟨j,U,S,q3⟩
 .rw[hs]at u ⊢;have:=h4 i (by simpa using I);simp only[Bool.or_eq_true,decide_eq_true_eq,List.any_eq_true]at this;rcases this with q|⟨d,S,U⟩
  .omega
  .exact⟨d,S,U⟩
 .have:=X o (by simpa using Array.mem_of_getElem? O);simp only[xY,Bool.and_eq_true]at this;refine⟨by simpa using this.1.1,this.1.2,fun cs b e=>?_,fun c e=>?_⟩
  .rw[e]at this;cases this.2
  .rw[e]at this;cases this.2
 .have y:=(gA u).1;have z:=(gA D).1;rw[hs]at y z;have:=h6 i y j z;rw[u,D]at this;simp only[Bool.and_eq_true,Bool.or_eq_true,decide_eq_true_eq]at this;exact this.1.resolve_left J
 .have y:=(gA u).1;have z:=(gA D).1;rw[hs]at y z;have:=h6 i y j z;rw[u,D]at this;simp only[Bool.and_eq_true,ht,Bool.or_eq_true,Bool.not_eq_true',List.contains_iff_mem]at this;rcases this.2 with q|q
  .have h7:oi.op.operands.toList.any (EC t)=true:=List.any_eq_true.2 ⟨_,by simpa using hx,by simp [EC]⟩;rw[h7]at q;cases q
  .exact q
def U8(a:Act):List (Nat×Value)->Act
 |[]=>a
 |(d,v)::r=>U8 (a.put (some d) v) r
theorem dl:∀(h:List (Nat×Value))(a:Act),(U8 a h).tmps.size=a.tmps.size/\(U8 a h).defers=a.defers
 |[],a=>⟨rfl,rfl⟩
 |(d,v)::r,a=>by
  have:=dl r (a.put (some d) v);exact⟨this.1.trans (by simp [Act.put]),this.2⟩
theorem qG:∀(u:List (Nat×Value))(a:Act)(t:Nat),(∀p∈u,p.1≠t)->(U8 a u).tmps.getD t undef=a.tmps.getD t undef
 |[],a,t,h=>rfl
 |(d,v)::r,a,t,h=>by
  rw[U8,qG r _ t (fun p y=>h p (by simp [y]))];show(a.tmps.setIfInBounds d v).getD t undef=_;rw[Array.getD_eq_getD_getElem?,Array.getElem?_setIfInBounds,if_neg (h (d,v) sM),<-Array.getD_eq_getD_getElem?]
def oS(P:Program)(af:Act)(w:World):List Oper->Prop
 |[]=>True
 |o::r=>(match o.dst with|some t=>(execOp af.eval o).run P w= .ok (.value (af.tmps.getD t undef)) w|none=>False)/\oS P af w r
theorem qN{P:Program}{af:Act}{w:World}:∀{l:List Oper}{i:Nat}{o:Oper}{t:Tmp},oS P af w l->l[i]?=some o->o.dst=some t->(execOp af.eval o).run P w= .ok (.value (af.tmps.getD t undef)) w
 |[],i,o,t,h,hi,ht=>by cases hi
 |x::l,0,o,t,h,hi,ht=>by
  cases hi;have:=h.1;rw[ht]at this;exact this
 |x::l,i+1,o,t,h,hi,ht=>qN (l:=l) (i:=i) h.2 hi ht
def DI(m k:Nat):Array Bool:=(List.replicate m true++List.replicate k false).toArray
theorem oH{n id:Nat}{P:Program}(hm:P.follows .mixedOrders=true){l:List Oper}(m k:Nat)(hl:l.length=m+k)(hB:Kg l m=true){a0:Act}{w:World}(E:List (Nat×Value))(hv:(l.take m).map (·.dst)=E.map fun p=>some p.1) (a4:∀p∈E,p.1<a0.tmps.size)
  {Q:Exit->Act->World->Prop} (W:oS P (U8 a0 E) w.drew (l.take m)) (a1:wpAnyIn Fence.wide n P .any l.toArray Q k (DI m k) (U8 a0 E) w.drew):(Code.region id l.toArray true).wpIn Fence.wide n P Q a0 w:=by
 obtain⟨hc,a5,a6⟩:=AR hB;have hs:(l.take m).toArray.size=m:=by simp;omega
 refine wpIn_region_any hm ?_;have u:l.toArray.size=m+k:=by simpa using hl
 obtain⟨p1,p2⟩:=dl E a0;have O:∀(j:Nat)(o:Oper)(t:Tmp),(l.take m).toArray[j]?=some o->o.dst=some t->∃p∈E,p.1=t:=fun j o t z J=>by
  have I:some t∈(l.take m).map (·.dst):=List.mem_map.2 ⟨o,by simpa using Array.mem_of_getElem? z,J⟩;rw[hv,List.mem_map]at I;obtain⟨p,U,e⟩:=I;exact⟨p,U,Option.some.inj e⟩
 have D:wpAnyIn Fence.wide n P .any (l.take m).toArray (fun e a w'=>e= .normal/\a=U8 a0 E/\w'=w.drew) m (Array.replicate m false) a0 w.drew:=by
  refine FS a5 (af:=U8 a0 E) (a0:=a0) p1 p2 (fun t J=>qG E a0 t fun p U e=>?_) (fun j o t z J=>?_) (fun i o t z J=>qN W (by simpa using z) J) ⟨rfl,rfl,rfl⟩ (fun L hL hr=>mr.least (fun i h d hd=>hc.back i h d (by unfold aj at hd ⊢;rw[hc.same i h];exact hd)) hL hr) m _ _ ⟨by rw[hs];simp,rfl,rfl,fun j o t z J S=>?_,fun _ _=>rfl⟩ ?_
  .have:some p.1∈(l.take m).map (·.dst):=by rw[hv];exact List.mem_map.2 ⟨p,U,rfl⟩
   obtain⟨o,z,e2⟩:=List.mem_map.1 this;obtain⟨j,hj⟩:=List.mem_iff_getElem?.1 z;exact J j o (by simpa using hj) (by rw[e2,e])
  .obtain⟨p,U,e⟩:=O j o t z J;rw[<-e];exact a4 p U
  .have hj:=(gA z).1;rw[hs]at hj;rw[Array.getD_eq_getD_getElem?,Array.getElem?_replicate,if_pos hj]at S;cases S
  .exact Nat.le_trans List.countP_le_length (by rw[List.length_range,hs];exact lR)
 have key:=Kk (F:=Fence.wide) (n:=n) (P:=P) (Q:=Q) hc k (DI m k) (fun L L' r a3=>?_) (fun c a w' q=>by cases q.1) (fun a w' q=>by obtain⟨_,rfl,rfl⟩:=q;exact a1) (fun q=>by obtain⟨a,w',hq⟩:=q;cases hq.1) m (Array.replicate l.toArray.size false) (Array.replicate m false) a0 w.drew ⟨by simp,by rw[hs];simp,fun i h=>?_,fun i h a2=>?_,fun i h X=>?_⟩ ?_ D
 .rw[u]at key ⊢;exact key
 .apply Array.ext
  .rw[r.s1,u];simp [DI]
  .intro i h1 h2;have h:i<m+k:=by rw[r.s1,u]at h1;exact h1
   have e1:L.getD i true=L[i]:=by rw[Array.getD_eq_getD_getElem?,Array.getElem?_eq_getElem h1];rfl
   rw[<-e1];by_cases y:i<m
   .rw[r.eq i (by rw[hs];exact y),a3 i (by rw[hs];exact y)];simp only[DI,List.getElem_toArray];rw[List.getElem_append_left (by simpa using y),List.getElem_replicate]
   .rw[r.off i (by rw[hs];omega) (by rw[u];exact h)];simp only[DI,List.getElem_toArray];rw[List.getElem_append_right (by simpa using Nat.le_of_not_lt y),List.getElem_replicate]
 .rw[hs]at h;rw[Array.getD_eq_getD_getElem?,Array.getElem?_replicate,if_pos (by rw[u];omega),Array.getD_eq_getD_getElem?,Array.getElem?_replicate,if_pos h]
 .rw[Array.getD_eq_getD_getElem?,Array.getElem?_replicate,if_pos a2];rfl
 .rw[hs]at h;rw[Array.getD_eq_getD_getElem?,Array.getElem?_replicate,if_pos h]at X;cases X
 .unfold unl;rw[hs,List.countP_eq_length.2 (fun i h=>by
   rw[Array.getD_eq_getD_getElem?,Array.getElem?_replicate,if_pos (List.mem_range.1 h)];rfl),List.length_range]
end Go.Proofs.YtofbhlhamfkljaaGreatDoor.Ve
namespace Go.Proofs.YtofbhlhamfkljaaGreatDoor
open Go Go.RowKit Go.Shelf Ve
open Go.Proofs.Tryz (prog)
theorem Er:prog.funcs[84]?=some Tryz.f84:=kR
theorem Ii:Tryz.f84.ntmps=47:=kR
def ic(ss:Nat->Int)(size:Int)(a k:Nat):List (Nat×Nat):=((List.range k).filter fun b=>decide (ss a+ss b+1=size)).map fun b=>(a,b)
def aO(ss:Nat->Int)(size:Int)(m a:Nat):List (Nat×Nat):=(List.range a).flatMap fun a=>ic ss size a m
theorem ek(u:Nat->Int)(size:Int)(a k:Nat):ic u size a (k+1)=ic u size a k++(if u a+u k+1=size then [(a,k)] else []):=by
 unfold ic;rw[List.range_succ,List.filter_append,List.map_append,List.filter_cons,List.filter_nil];by_cases h:u a+u k+1=size
 .rw[if_pos (decide_eq_true h),if_pos h];rfl
 .rw[if_neg (by simpa using h),if_neg h];rfl
theorem jU(h:Nat->Int)(size:Int)(m a:Nat):aO h size m (a+1)=aO h size m a++ic h size a m:=by
 unfold aO;rw[List.range_succ,List.flatMap_append];simp
structure Rd(p75 i75 p3 i3 rb ro m:Nat)(ss:Nat->Int)(size:Int)(w:World):Prop where
 c75:w.cell? ⟨p75,i75,none⟩=some (.pointer (some ⟨rb,ro,none⟩))
 c3:w.cell? ⟨p3,i3,none⟩=some (.int .i64 size)
 row:∃b o len cap,m<=len/\w.cell? ⟨rb,ro+10,none⟩=some (.slice (some ⟨b,o,none⟩) len cap)/\∀i,i<m->w.cell? ⟨b,o+i,none⟩=some (.int .i64 (ss i))
theorem zX{n:Int}(h: -9223372036854775808<=n)(u:n<=9223372036854775807):IntKind.wrap .i64 n=n:=by
 simp [IntKind.wrap,IntKind.min,IntKind.max,IntKind.signed,IntKind.bits];omega
theorem cM{n:Nat}{P:Program}{ops:Array Oper}{Q:Exit->Act->World->Prop}{u:Nat}{L:Array Bool}{a:Act}{w:World}(i d:Nat){o:Oper}(v:Value)(hs:Region.noSelect ops=true)
  (y:(Region.free .any ops L i&&(Region.ready .any ops L).contains i)=true) (I:ops[i]?=some o) (E:o.dst=some d) (z:∀c a w,Q (.panic c) (a.put (some d) v) w->Q (.panic c) a w) (D:∀w,o.about P w a.eval=none) (J:Yields P ops o v a) (h:wpAnyIn Fence.wide n P .any ops Q u (L.setIfInBounds i true) (a.put (some d) v) w):wpAnyIn Fence.wide n P .any ops Q (u+1) L a w:=by
 simp only[Bool.and_eq_true]at y;rw[<-E]at h z;exact wpAnyIn_take rfl I hs y.1 y.2 z ⟨J,D⟩ h
theorem oX{n:Nat}{P:Program}{ops:Array Oper}{Q:Exit->Act->World->Prop}{u:Nat}{L:Array Bool}{a:Act}{w:World}{i:Nat}{o:Oper}(D:Region.ready .any ops L=[i])(E:ops[i]?=some o)
  (h:if Region.wanted o (yielded ops a.tmps) then o.uponIn Fence.wide n P a (wpAnyIn Fence.wide n P .any ops Q u (L.setIfInBounds i true)) Q ((execOp a.eval o).run P w) else wpAnyIn Fence.wide n P .any ops Q u (L.setIfInBounds i true) (a.put o.dst undef) w):wpAnyIn Fence.wide n P .any ops Q (u+1) L a w:=by
 refine⟨fun q=>(by rw[D]at q;cases q),fun j z=>?_⟩;rw[D,List.mem_singleton]at z;subst z;unfold wpOpIn;simp only[E];split
 .rename_i y;rw[if_pos y]at h;exact⟨fun _ _=>trivial,h⟩
 .rename_i y;rw[if_neg y]at h;exact⟨fun _ _=>trivial,h⟩
theorem oY{n:Nat}{P:Program}{ops:Array Oper}{Q:Exit->Act->World->Prop}{u:Nat}{L:Array Bool}{a:Act}{w:World}(i d:Nat){o:Oper}(v:Value)(E:Region.ready .any ops L=[i])(D:ops[i]?=some o)(z:o.dst=some d)(I:Region.wanted o (yielded ops a.tmps)=true)
  (y:(execOp a.eval o).run P w= .ok (.value v) w) (h:wpAnyIn Fence.wide n P .any ops Q u (L.setIfInBounds i true) (a.put (some d) v) w):wpAnyIn Fence.wide n P .any ops Q (u+1) L a w:=
 oX E D (by rw[if_pos I,y,Oper.uponIn_value,z];exact h)
theorem qS{n:Nat}{P:Program}{ops:Array Oper}{Q:Exit->Act->World->Prop}{u:Nat}{L:Array Bool}{a:Act}{w:World}(i d:Nat){o:Oper}(D:Region.ready .any ops L=[i])(z:ops[i]?=some o)(y:o.dst=some d)(E:Region.wanted o (yielded ops a.tmps)=false)
  (h:wpAnyIn Fence.wide n P .any ops Q u (L.setIfInBounds i true) (a.put (some d) undef) w):wpAnyIn Fence.wide n P .any ops Q (u+1) L a w:=
 oX D z (by rw[E,y];exact h)
theorem qT{n:Nat}{P:Program}{ops:Array Oper}{Q:Exit->Act->World->Prop}{L:Array Bool}{a:Act}{w:World}(u:Region.ready .any ops L=[])(h:Q .normal a w):wpAnyIn Fence.wide n P .any ops Q 0 L a w:=⟨u,h⟩
theorem yN{n:Nat}{P:Program}{ops:Array Oper}{Q:Exit->Act->World->Prop}{u:Nat}{L:Array Bool}{a:Act}{w:World}(i d:Nat){o:Oper}{l:Nat}{D:FuncId}{tmps:Array Value}{assign body:Code}{R:Ending->World->Prop}(U:Region.ready .any ops L=[i])(S:ops[i]?=some o)(J:o.dst=some d)(W:Region.wanted o (yielded ops a.tmps)=true)
  (y:(execOp a.eval o).run P w= .ok (.round l D tmps assign body) w) (I:RoundIn Fence.wide (n-1) P l D tmps assign body w R) (h:∀e z,R e z->∃v,e= .returned v/\wpAnyIn Fence.wide n P .any ops Q u (L.setIfInBounds i true) (a.put (some d) v) z):wpAnyIn Fence.wide n P .any ops Q (u+1) L a w:=
 oX U S (by
  rw[if_pos W,y,Oper.uponIn_round];refine⟨fun q=>(by cases q),I.mono fun e z O=>?_⟩;obtain⟨v,rfl,E⟩:=h e z O;rw[J];exact E)
def lkV:List (Nat×Value)->Nat->Option Value
 |[],_=>none
 |(d,v)::r,t=>if d=t then some v else lkV r t
theorem cJ:∀(u:List (Nat×Value))(a:Act)(t:Nat),(u.map (·.1)).Nodup->(∀p∈u,p.1<a.tmps.size)->(U8 a u).tmps[t]?.getD undef=(lkV u t).getD (a.tmps[t]?.getD undef)
 |[],a,t,_,_=>rfl
 |(d,v)::r,a,t,h,hl=>by
  rw[List.map_cons,List.nodup_cons]at h;have z:∀p∈r,p.1<(a.put (some d) v).tmps.size:=fun p D=>by
   show p.1<(a.tmps.setIfInBounds d v).size;rw[Array.size_setIfInBounds];exact hl p (by simp [D])
  have I:=cJ r (a.put (some d) v) t h.2 z;rw[U8,I,lkV];have D:(a.put (some d) v).tmps[t]?=(a.tmps.setIfInBounds d v)[t]?:=rfl;rw[D,Array.getElem?_setIfInBounds];by_cases y:d=t
  .subst y;have J:lkV r d=none:=by
    have:∀r:List (Nat×Value),d∉r.map (·.1)->lkV r d=none:=by
     intro r;induction r with
     |nil=>intro _;rfl
     |cons x r I=>
      intro E;simp only[List.map_cons,List.mem_cons,not_or]at E;rw[lkV,if_neg (fun q=>E.1 q.symm)];exact I E.2
    exact this r h.1
   rw[J,if_pos rfl,if_pos rfl,if_pos (hl (d,v) sM)];rfl
  .rw[if_neg y,if_neg y]
def dK(id:Nat):Code->List Oper
 | .region k ops _=>if k=id then ops.toList else []
 | .seq a b=>dK id a++dK id b
 | .cond _ a b=>dK id a++dK id b
 | .block _ a| .loop a| .scope a=>dK id a
 |_=>[]
noncomputable def c84:Code:=Tryz.f84.body.getD .skip
set_option maxRecDepth 100000 in
set_option maxHeartbeats 2000000 in
theorem Iz(n:Nat)(a0:Act)(hsz:a0.tmps.size=47)(w:World)(Q:Exit->Act->World->Prop)(hQ:∀c a(d:Nat) v w,Q (.panic c) (a.put (some d) v) w->Q (.panic c) a w) (yl:Nat) (p75 i75 p3 i3 rb ro b o len cap k q:Nat) (x y size:Int) (hx:0<=x/\x<=1000000) (hy:0<=y/\y<=1000000) (hk:k<len) (hq:q<len)
  (e0:a0.tmps[0]?.getD undef= .func (.yield yl) #[] #[]) (e1:a0.tmps[1]?.getD undef= .pointer (some ⟨p75,i75,none⟩)) (e2:a0.tmps[2]?.getD undef= .pointer (some ⟨p3,i3,none⟩)) (e5:a0.tmps[5]?.getD undef=iV k) (e6:a0.tmps[6]?.getD undef=iV q)
  (c75:w.cell? ⟨p75,i75,none⟩=some (.pointer (some ⟨rb,ro,none⟩))) (c3:w.cell? ⟨p3,i3,none⟩=some (.int .i64 size)) (c10:w.cell? ⟨rb,ro+10,none⟩=some (.slice (some ⟨b,o,none⟩) len cap)) (ca:w.cell? ⟨b,o+k,none⟩=some (.int .i64 x)) (cb:w.cell? ⟨b,o+q,none⟩=some (.int .i64 y))
  (hno:x+y+1≠size->∀a',a'.tmps.size=47->a'.defers=a0.defers->(∀t,(t<20\/45<=t)->a'.tmps.getD t undef=a0.tmps.getD t undef)->a'.tmps.getD 44 undef= .bool false->Q .normal a' w.drew)
  (hyes:x+y+1=size->YieldAt Fence.wide (n-1) prog yl #[iV k,iV q] w.drew fun e W'=>∃g:Bool,e= .returned (.bool g)/\∀a',a'.tmps.size=47->a'.defers=a0.defers->(∀t,(t<20\/45<=t)->a'.tmps.getD t undef=a0.tmps.getD t undef)->a'.tmps.getD 44 undef= .bool (!g)->Q .normal a' W')
  :(Code.region 7 (dK 7 c84).toArray true).wpIn Fence.wide n prog Q a0 w:=by
 have hmix:prog.follows .mixedOrders=true:=kR;have v1:IntKind.i64.wrap (x+y)=x+y:=zX oM oM;have v2:IntKind.i64.wrap (x+y+1)=x+y+1:=zX oM oM;have v3:x+y+1=size->IntKind.i64.wrap size=size:=fun q=>by rw[q]at v2;exact v2
 have nk:¬len<=k:=oM;have nq:¬len<=q:=oM;by_cases hsum:x+y+1=size
 .refine oH hmix 19 6 kR kR [(20,.pointer (some ⟨rb,ro,none⟩)),(21,.pointer (some ⟨rb,ro,none⟩)),(22,.pointer (some ⟨rb,ro+10,none⟩)),(23,.slice (some ⟨b,o,none⟩) len cap),(24,iV k),(25,.pointer (some ⟨b,o+k,none⟩)),(26,iV x),(27,.pointer (some ⟨rb,ro,none⟩)),(28,.pointer (some ⟨rb,ro,none⟩)),(29,.pointer (some ⟨rb,ro+10,none⟩)),(30,.slice (some ⟨b,o,none⟩) len cap),(31,iV q),(32,.pointer (some ⟨b,o+q,none⟩)),(33,iV y),(34,iV (x+y)),(35,iV (x+y+1)),(36,iV size),(37,.bool true),(38,.bool true)] kR (by simp [hsz]) ?_ ?_
  .simp only[dK,c84,Tryz.f84,Option.getD_some,if_true,Nat.reduceEqDiff,if_false,List.nil_append,List.append_nil,oS,List.take_succ_cons,List.take_zero];refine⟨?_,?_,?_,?_,?_,?_,?_,?_,?_,?_,?_,?_,?_,?_,?_,?_,?_,?_,?_,trivial⟩
   all_goals generalize hvs:([(20,_),_,_,_,_,_,_,_,_,_,_,_,_,_,_,_,_,_,_]:List (Nat×Value))=vs
   all_goals
    have hget:∀t,(U8 a0 vs).tmps[t]?.getD undef=(lkV vs t).getD (a0.tmps[t]?.getD undef):=fun t=>cJ vs a0 t (by subst hvs;simp) (by subst hvs;simp [hsz]);generalize U8 a0 vs=af at hget ⊢;subst hvs;simp [go_sem,hget,lkV,e1,e2,e5,e6,c75,c3,c10,ca,cb,v1,v2,hsum,nk,nq,v3]
  .generalize hvs:([(20,_),_,_,_,_,_,_,_,_,_,_,_,_,_,_,_,_,_,_]:List (Nat×Value))=vs;have hget:∀t,(U8 a0 vs).tmps[t]?.getD undef=(lkV vs t).getD (a0.tmps[t]?.getD undef):=fun t=>cJ vs a0 t (by subst hvs;simp) (by subst hvs;simp [hsz]);have hsf:=dl vs a0;generalize U8 a0 vs=af at hget hsf ⊢;rw[hsz]at hsf;have h38:af.tmps[38]?=some (.bool true):=by
    have:=hget 38;rw[Array.getElem?_eq_getElem oM]at this ⊢;subst hvs
    simpa [lkV] using this
   have h38b:af.tmps[38]'oM= .bool true:=by rw[Array.getElem?_eq_getElem oM]at h38;exact Option.some.inj h38
   have hlow:∀t,t<20->af.tmps[t]?.getD undef=a0.tmps[t]?.getD undef:=fun t ht=>by
    have h2:=hget t;have h3:lkV vs t=none:=by
     subst hvs;simp only[lkV]
     repeat rw[if_neg oM]
    rw[h3]at h2;exact h2
   have g0:=(hlow 0 oM).trans e0;have g5:=(hlow 5 oM).trans e5;have g6:=(hlow 6 oM).trans e6;obtain⟨fn,tmps,assign,body,hyr,hR⟩:=hyes hsum;simp only[dK,c84,Tryz.f84,Option.getD_some,if_true,Nat.reduceEqDiff,if_false,List.nil_append,List.append_nil];refine cM 19 39 (.func (.yield yl) #[] #[]) kR kR rfl rfl (fun _ _ _ h=>hQ _ _ _ _ _ h) (fun _=>rfl) (.inl ⟨by simp [Region.wanted,yielded,h38],fun w=>by simp [go_sem,g0]⟩) ?_;refine cM 20 40 (.int .i64 k) kR kR rfl rfl (fun _ _ _ h=>hQ _ _ _ _ _ h) (fun _=>rfl) (.inl ⟨by simp [Region.wanted,yielded,h38,Act.put],fun w=>by simp [go_sem,g5,Act.put,Array.getElem?_setIfInBounds]⟩) ?_;refine cM 21 41 (.int .i64 q) kR kR rfl rfl (fun _ _ _ h=>hQ _ _ _ _ _ h) (fun _=>rfl) (.inl ⟨by simp [Region.wanted,yielded,h38,Act.put],fun w=>by simp [go_sem,g6,Act.put,Array.getElem?_setIfInBounds]⟩) ?_;refine yN 22 42 kR rfl rfl (by simp [Region.wanted,yielded,h38,Act.put]) ?_ hR ?_
   .simp [go_sem,Act.put,hsf.1,hyr]
   .rintro e W' ⟨g,rfl,hg⟩;refine⟨_,rfl,?_⟩;refine oY 23 43 (.bool (!g)) kR rfl rfl (by simp [Region.wanted,yielded,h38,Act.put]) ?_ ?_
    .simp [go_sem,Act.put,hsf.1]
    .refine oY 24 44 (.bool (!g)) kR rfl rfl (by simp [Region.wanted]) ?_ ?_
     .simp [go_sem,Act.put,h38,h38b,hsf.1]
     .refine qT kR ?_;refine hg _ ?_ ?_ (fun t ht=>?_) ?_
      .simp [Act.put,hsf.1]
      .simp [Act.put,hsf.2]
      .have h2:=hget t;have h3:lkV vs t=none:=by
        subst hvs;simp only[lkV]
        repeat rw[if_neg oM]
       rw[h3]at h2;simp only[Act.put,Array.getD_eq_getD_getElem?,Array.getElem?_setIfInBounds];rw[if_neg (show¬44=t from oM),if_neg (show¬43=t from oM),if_neg (show¬42=t from oM),if_neg (show¬41=t from oM),if_neg (show¬40=t from oM),if_neg (show¬39=t from oM)];exact h2
      .simp [Act.put,hsf.1,Array.getD_eq_getD_getElem?]
 .refine oH hmix 19 6 kR kR [(20,.pointer (some ⟨rb,ro,none⟩)),(21,.pointer (some ⟨rb,ro,none⟩)),(22,.pointer (some ⟨rb,ro+10,none⟩)),(23,.slice (some ⟨b,o,none⟩) len cap),(24,iV k),(25,.pointer (some ⟨b,o+k,none⟩)),(26,iV x),(27,.pointer (some ⟨rb,ro,none⟩)),(28,.pointer (some ⟨rb,ro,none⟩)),(29,.pointer (some ⟨rb,ro+10,none⟩)),(30,.slice (some ⟨b,o,none⟩) len cap),(31,iV q),(32,.pointer (some ⟨b,o+q,none⟩)),(33,iV y),(34,iV (x+y)),(35,iV (x+y+1)),(36,iV size),(37,.bool false),(38,.bool false)] kR (by simp [hsz]) ?_ ?_
  .simp only[dK,c84,Tryz.f84,Option.getD_some,if_true,Nat.reduceEqDiff,if_false,List.nil_append,List.append_nil,oS,List.take_succ_cons,List.take_zero];refine⟨?_,?_,?_,?_,?_,?_,?_,?_,?_,?_,?_,?_,?_,?_,?_,?_,?_,?_,?_,trivial⟩
   all_goals generalize hvs:([(20,_),_,_,_,_,_,_,_,_,_,_,_,_,_,_,_,_,_,_]:List (Nat×Value))=vs
   all_goals
    have hget:∀t,(U8 a0 vs).tmps[t]?.getD undef=(lkV vs t).getD (a0.tmps[t]?.getD undef):=fun t=>cJ vs a0 t (by subst hvs;simp) (by subst hvs;simp [hsz]);generalize U8 a0 vs=af at hget ⊢;subst hvs;simp [go_sem,hget,lkV,e1,e2,e5,e6,c75,c3,c10,ca,cb,v1,v2,hsum,nk,nq]
  .generalize hvs:([(20,_),_,_,_,_,_,_,_,_,_,_,_,_,_,_,_,_,_,_]:List (Nat×Value))=vs;have hget:∀t,(U8 a0 vs).tmps[t]?.getD undef=(lkV vs t).getD (a0.tmps[t]?.getD undef):=fun t=>cJ vs a0 t (by subst hvs;simp) (by subst hvs;simp [hsz]);have hsf:=dl vs a0;generalize U8 a0 vs=af at hget hsf ⊢;rw[hsz]at hsf;have h38:af.tmps[38]?=some (.bool false):=by
    have:=hget 38;rw[Array.getElem?_eq_getElem oM]at this ⊢;subst hvs
    simpa [lkV] using this
   have h38b:af.tmps[38]'oM= .bool false:=by rw[Array.getElem?_eq_getElem oM]at h38;exact Option.some.inj h38
   simp only[dK,c84,Tryz.f84,Option.getD_some,if_true,Nat.reduceEqDiff,if_false,List.nil_append,List.append_nil];refine cM 19 39 undef kR kR rfl rfl (fun _ _ _ h=>hQ _ _ _ _ _ h) (fun _=>rfl) (.inr ⟨by simp [Region.wanted,yielded,h38],rfl⟩) ?_;refine cM 20 40 undef kR kR rfl rfl (fun _ _ _ h=>hQ _ _ _ _ _ h) (fun _=>rfl) (.inr ⟨by simp [Region.wanted,yielded,h38,Act.put],rfl⟩) ?_;refine cM 21 41 undef kR kR rfl rfl (fun _ _ _ h=>hQ _ _ _ _ _ h) (fun _=>rfl) (.inr ⟨by simp [Region.wanted,yielded,h38,Act.put],rfl⟩) ?_;refine qS 22 42 kR rfl rfl (by simp [Region.wanted,yielded,h38,Act.put]) ?_;refine qS 23 43 kR rfl rfl (by simp [Region.wanted,yielded,h38,Act.put]) ?_;refine oY 24 44 (.bool false) kR rfl rfl (by simp [Region.wanted]) ?_ ?_
   .simp [go_sem,Act.put,h38,h38b,hsf.1]
   .refine qT kR ?_;refine hno hsum _ ?_ ?_ (fun t ht=>?_) ?_
    .simp [Act.put,hsf.1]
    .simp [Act.put,hsf.2]
    .have h2:=hget t;have h3:lkV vs t=none:=by
      subst hvs;simp only[lkV]
      repeat rw[if_neg oM]
     rw[h3]at h2;simp only[Act.put,Array.getD_eq_getD_getElem?,Array.getElem?_setIfInBounds];rw[if_neg (show¬44=t from oM),if_neg (show¬43=t from oM),if_neg (show¬42=t from oM),if_neg (show¬41=t from oM),if_neg (show¬40=t from oM),if_neg (show¬39=t from oM)];exact h2
    .simp [Act.put,hsf.1,Array.getD_eq_getD_getElem?]
theorem FA(u:Nat->Int)(size:Int)(a k m:Nat)(h:k<=m):ic u size a k<+:ic u size a m:=by
 induction m with
 |zero=>
  have:k=0:=oM;rw[this];exact List.prefix_rfl
 |succ m z=>
  by_cases y:k=m+1
  .rw[y];exact List.prefix_rfl
  .rw[ek];exact(z oM).trans (List.prefix_append _ _)
theorem te(u:Nat->Int)(size:Int)(m a k:Nat)(h:a<m)(z:k<=m):aO u size m a++ic u size a k<+:aO u size m m:=by
 have:∀d,a+1+d<=m->aO u size m (a+1)<+:aO u size m (a+1+d):=by
  intro d;induction d with
  |zero=>intro _;exact List.prefix_rfl
  |succ d D=>
   intro E;rw[show a+1+(d+1)=(a+1+d)+1 from oM,jU u size m (a+1+d)];exact(D oM).trans (List.prefix_append _ _)
 have y:=this (m-(a+1)) oM;rw[show a+1+(m-(a+1))=m from oM]at y;refine List.IsPrefix.trans ?_ y;rw[jU];exact(List.prefix_append_right_inj _).2 (FA u size a k m z)
theorem Rd.drew{y u I E J O m:Nat}{S:Nat->Int}{size:Int}{w:World}(h:Rd y u I E J O m S size w):Rd y u I E J O m S size w.drew:=by
 obtain⟨U,W,b,o,D,z,X,h4,h5⟩:=h;exact⟨U,W,b,o,D,z,X,h4,h5⟩
theorem mw(a0 a':Act)(b:Value)(h0:a0.tmps.size=47)(s1:a'.tmps.size=47)(s2:a'.defers=a0.defers)(s3:∀t,(t<20\/45<=t)->a'.tmps.getD t undef=a0.tmps.getD t undef) (s4:a'.tmps.getD 44 undef=b):
  ∃h u y z D E I J O S U W X a1 a2 a3 a4 a5 a6 a7 a8 a9 b0 b1:Value,a'=U8 a0 [(20,h),(21,u),(22,y),(23,z),(24,D),(25,E),(26,I),(27,J),(28,O),(29,S),(30,U),(31,W),(32,X),(33,a1),(34,a2),(35,a3),(36,a4),(37,a5),(38,a6),(39,a7),(40,a8),(41,a9),(42,b0),(43,b1),(44,b)]:=by
 refine⟨a'.tmps.getD 20 undef,a'.tmps.getD 21 undef,a'.tmps.getD 22 undef,a'.tmps.getD 23 undef,a'.tmps.getD 24 undef,a'.tmps.getD 25 undef,a'.tmps.getD 26 undef,a'.tmps.getD 27 undef,a'.tmps.getD 28 undef,a'.tmps.getD 29 undef,a'.tmps.getD 30 undef,a'.tmps.getD 31 undef,a'.tmps.getD 32 undef,a'.tmps.getD 33 undef,a'.tmps.getD 34 undef,a'.tmps.getD 35 undef,a'.tmps.getD 36 undef,a'.tmps.getD 37 undef,a'.tmps.getD 38 undef,a'.tmps.getD 39 undef,a'.tmps.getD 40 undef,a'.tmps.getD 41 undef,a'.tmps.getD 42 undef,a'.tmps.getD 43 undef,?_⟩;obtain⟨p1,p2⟩:=dl [(20,a'.tmps.getD 20 undef),(21,a'.tmps.getD 21 undef),(22,a'.tmps.getD 22 undef),(23,a'.tmps.getD 23 undef),(24,a'.tmps.getD 24 undef),(25,a'.tmps.getD 25 undef),(26,a'.tmps.getD 26 undef),(27,a'.tmps.getD 27 undef),(28,a'.tmps.getD 28 undef),(29,a'.tmps.getD 29 undef),(30,a'.tmps.getD 30 undef),(31,a'.tmps.getD 31 undef),(32,a'.tmps.getD 32 undef),(33,a'.tmps.getD 33 undef),(34,a'.tmps.getD 34 undef),(35,a'.tmps.getD 35 undef),(36,a'.tmps.getD 36 undef),(37,a'.tmps.getD 37 undef),(38,a'.tmps.getD 38 undef),(39,a'.tmps.getD 39 undef),(40,a'.tmps.getD 40 undef),(41,a'.tmps.getD 41 undef),(42,a'.tmps.getD 42 undef),(43,a'.tmps.getD 43 undef),(44,b)] a0;refine yX (by rw[p1,s1,h0]) (by rw[p2,s2]) fun t=>?_;have hg:=cJ [(20,a'.tmps.getD 20 undef),(21,a'.tmps.getD 21 undef),(22,a'.tmps.getD 22 undef),(23,a'.tmps.getD 23 undef),(24,a'.tmps.getD 24 undef),(25,a'.tmps.getD 25 undef),(26,a'.tmps.getD 26 undef),(27,a'.tmps.getD 27 undef),(28,a'.tmps.getD 28 undef),(29,a'.tmps.getD 29 undef),(30,a'.tmps.getD 30 undef),(31,a'.tmps.getD 31 undef),(32,a'.tmps.getD 32 undef),(33,a'.tmps.getD 33 undef),(34,a'.tmps.getD 34 undef),(35,a'.tmps.getD 35 undef),(36,a'.tmps.getD 36 undef),(37,a'.tmps.getD 37 undef),(38,a'.tmps.getD 38 undef),(39,a'.tmps.getD 39 undef),(40,a'.tmps.getD 40 undef),(41,a'.tmps.getD 41 undef),(42,a'.tmps.getD 42 undef),(43,a'.tmps.getD 43 undef),(44,b)] a0 t sM (by simp [h0]);rw[Array.getD_eq_getD_getElem?,Array.getD_eq_getD_getElem?,hg,<-Array.getD_eq_getD_getElem?,<-Array.getD_eq_getD_getElem?];by_cases ht:t<20\/45<=t
 .rw[s3 t ht];have:lkV [(20,a'.tmps.getD 20 undef),(21,a'.tmps.getD 21 undef),(22,a'.tmps.getD 22 undef),(23,a'.tmps.getD 23 undef),(24,a'.tmps.getD 24 undef),(25,a'.tmps.getD 25 undef),(26,a'.tmps.getD 26 undef),(27,a'.tmps.getD 27 undef),(28,a'.tmps.getD 28 undef),(29,a'.tmps.getD 29 undef),(30,a'.tmps.getD 30 undef),(31,a'.tmps.getD 31 undef),(32,a'.tmps.getD 32 undef),(33,a'.tmps.getD 33 undef),(34,a'.tmps.getD 34 undef),(35,a'.tmps.getD 35 undef),(36,a'.tmps.getD 36 undef),(37,a'.tmps.getD 37 undef),(38,a'.tmps.getD 38 undef),(39,a'.tmps.getD 39 undef),(40,a'.tmps.getD 40 undef),(41,a'.tmps.getD 41 undef),(42,a'.tmps.getD 42 undef),(43,a'.tmps.getD 43 undef),(44,b)] t=none:=by
   simp only[lkV]
   repeat rw[if_neg oM]
  rw[this];rfl
 .have b2:20<=t:=oM;have b3:t<=44:=oM;have:t=20\/t=21\/t=22\/t=23\/t=24\/t=25\/t=26\/t=27\/t=28\/t=29\/t=30\/t=31\/t=32\/t=33\/t=34\/t=35\/t=36\/t=37\/t=38\/t=39\/t=40\/t=41\/t=42\/t=43\/t=44:=oM;rcases this with rfl|rfl|rfl|rfl|rfl|rfl|rfl|rfl|rfl|rfl|rfl|rfl|rfl|rfl|rfl|rfl|rfl|rfl|rfl|rfl|rfl|rfl|rfl|rfl|rfl<;>first|rfl|exact s4
set_option maxRecDepth 100000 in
set_option maxHeartbeats 4000000 in
theorem Ca(n:Nat)(l:Nat)(p75 i75 p3 i3:Nat)(rb ro:Nat)(m:Nat)(ss:Nat->Int)(size:Int)(J Jx:List (Nat×Nat)->World->Prop)(hm:m<=1000)(hss:∀i,0<=ss i/\ss i<=1000000)
  (hJd:∀pre w,J pre w->J pre w.drew)
  (hY:∀pre(x:Nat×Nat) W,(pre++[x])<+:aO ss size m m->J pre W->YieldAt Fence.wide (n-1) prog l #[iV (x.1:Int),iV (x.2:Int)] W fun e W'=>
   (e= .returned (.bool true)/\J (pre++[x]) W'/\(Rd p75 i75 p3 i3 rb ro m ss size W->Rd p75 i75 p3 i3 rb ro m ss size W'))\/(e= .returned (.bool false)/\Jx (pre++[x]) W'))
  (W:World) (hR:Rd p75 i75 p3 i3 rb ro m ss size W) (sa:Option Addr) (sc:Nat) (hs:W.cell? ⟨rb,ro+9,none⟩=some (.slice sa m sc)) (h0:J [] W):
  CallsIn Fence.wide n prog 84 #[.func (.yield l) #[] #[],.pointer (some ⟨p75,i75,none⟩),.pointer (some ⟨p3,i3,none⟩)] W fun e W'=>(∃v,e= .returned v)/\(J (aO ss size m m) W'\/∃pre,pre<+:aO ss size m m/\Jx pre W'):=by
 have hB:=hR.c75;refine callsIn_of_wp Er rfl trivial ?_ rfl;simp only[Ii,List.size_toArray,List.length_cons,List.length_nil,Nat.reduceAdd,Nat.reduceSub,Array.replicate_succ,Array.replicate_zero,List.push_toArray,List.append_toArray,List.nil_append,List.cons_append]
 gi_wp2
 gi_loopw [13] (fun i wr=>∃k:Nat,k<=m/\i=iV k/\J (aO ss size m k) wr/\Rd p75 i75 p3 i3 rb ro m ss size wr)
  (fun i _=>m-(intOf i).toNat)
 case atStart=>exact⟨0,Nat.zero_le _,rfl,h0,hR⟩
 case round=>
  obtain⟨k,hk,rfl,hJ1,hR1⟩:=hrel;by_cases hlt:k<m
  .gi_wp2
   gi_loopw [17] (fun i wr=>∃q:Nat,q<=m/\i=iV q/\J (aO ss size m k++ic ss size k q) wr/\Rd p75 i75 p3 i3 rb ro m ss size wr)
    (fun i _=>m-(intOf i).toNat)
   case atStart=>exact⟨0,Nat.zero_le _,rfl,by simpa [ic] using hJ1,hR1⟩
   case round=>
    obtain⟨q,hq,rfl,hJ2,hR2⟩:=hrel;by_cases hlt2:q<m
    .have hR3:=hR2.drew;obtain⟨c75,c3,b,o,len,cap,hml,c10,cz⟩:=hR2;have ca:=cz k hlt;have cb:=cz q hlt2;have h1:=hss k;have h2:=hss q
     gi_wp2
     refine Iz n _ rfl _ _ (fun _ _ _ _ _ h=>h) l p75 i75 p3 i3 rb ro b o len cap k q (ss k) (ss q) size h1 h2 oM oM rfl rfl rfl rfl rfl c75 c3 c10 ca cb ?_ ?_
     .intro hne a' s1 s2 s3 s4;obtain⟨y20,y21,y22,y23,y24,y25,y26,y27,y28,y29,y30,y31,y32,y33,y34,y35,y36,y37,y38,y39,y40,y41,y42,y43,rfl⟩:=mw _ a' _ rfl s1 s2 s3 s4;simp only[U8,Act.put,List.setIfInBounds_toArray,List.set_cons_succ,List.set_cons_zero]
      gi_wp2
      refine⟨⟨q+1,oM,by simp,?_,hR3⟩,by simp [intOf];omega⟩;rw[ek,if_neg hne,List.append_nil];exact hJd _ _ hJ2
     .intro hsum;obtain⟨fn,tmps,assign,body,hy,hRr⟩:=hY _ (k,q) wr.drew (by
       have:=te ss size m k (q+1) hlt hlt2
       rwa [ek,if_pos hsum,<-List.append_assoc]at this) (hJd _ _ hJ2)
      refine⟨fn,tmps,assign,body,hy,hRr.mono ?_⟩;rintro e W3 (⟨rfl,hJ3,hK3⟩|⟨rfl,hJx3⟩)
      .have hR4:=hK3 hR3;refine⟨true,rfl,fun a' s1 s2 s3 s4=>?_⟩;obtain⟨y20,y21,y22,y23,y24,y25,y26,y27,y28,y29,y30,y31,y32,y33,y34,y35,y36,y37,y38,y39,y40,y41,y42,y43,rfl⟩:=mw _ a' _ rfl s1 s2 s3 s4;simp only[U8,Act.put,List.setIfInBounds_toArray,List.set_cons_succ,List.set_cons_zero,Bool.not_true]
       gi_wp2
       refine⟨⟨q+1,oM,by simp,?_,hR4⟩,by simp [intOf];omega⟩;rw[ek,if_pos hsum,<-List.append_assoc];exact hJ3
      .refine⟨false,rfl,fun a' s1 s2 s3 s4=>?_⟩;obtain⟨y20,y21,y22,y23,y24,y25,y26,y27,y28,y29,y30,y31,y32,y33,y34,y35,y36,y37,y38,y39,y40,y41,y42,y43,rfl⟩:=mw _ a' _ rfl s1 s2 s3 s4;simp only[U8,Act.put,List.setIfInBounds_toArray,List.set_cons_succ,List.set_cons_zero,Bool.not_false]
       gi_wp2
       refine bodyPost_ret (results_none rfl _ _ _) rfl ?_;refine⟨⟨_,rfl⟩,.inr ⟨_,?_,hJx3⟩⟩;have:=te ss size m k (q+1) hlt hlt2
       rwa [ek,if_pos hsum,<-List.append_assoc]at this
    .have hqm:q=m:=oM
     gi_wp2
     refine⟨⟨k+1,oM,by simp,?_,hR2⟩,by simp [intOf];omega⟩;rw[jU,<-hqm];rw[<-hqm]at hJ2;exact hJ2
  .have hkm:k=m:=oM
   gi_wp2
   go_end0
   exact⟨⟨_,rfl⟩,.inl (by rw[hkm]at hJ1;exact hJ1)⟩
end Go.Proofs.YtofbhlhamfkljaaGreatDoor
namespace Go.Proofs.YtofbhlhamfkljaaGreatDoor.Ve
open Go Go.RowKit
open Go.Proofs.Tryz (prog)
def ldc(H:d8)(v:Value)(i:Nat):Option Value:=
 match v with
 | .pointer (some ⟨b,o,none⟩)=>match H.get b with
  |some (.cells c _ _)=>c[o+i]?
  |_=>none
 |_=>none
theorem zB{H:d8}{v:Value}{i:Nat}{x:Value}(h:ldc H v i=some x):∃b o c own sz,v= .pointer (some ⟨b,o,none⟩)/\H.get b=some (.cells c own sz)/\c[o+i]?=some x:=by
 unfold ldc at h;split at h
 .rename_i b o;split at h
  .rename_i c own sz u;exact⟨b,o,c,own,sz,rfl,u,h⟩
  .cases h
 .cases h
section
variable{base:Bs}{w0:World}{φ:List Loc}{w:World}
theorem Z5{H:d8}(z:WR base w0 φ H.bs w){v v':Value}(J:VR φ v v'){i:Nat}{x:Value}(h:ldc H v i=some x):∃p q y,v'= .pointer (some ⟨p,q,none⟩)/\w.cell? ⟨p,q+i,none⟩=some y/\VR φ x y:=by
 obtain⟨b,o,c,own,sz,rfl,E,O⟩:=zB h;cases J with
 |ptr I=>
  rename_i l;obtain⟨_,_,D,_⟩:=z.blk b _ l E I;obtain⟨y,S,u⟩:=D _ _ O;exact⟨_,_,y,rfl,by rw[Nat.add_assoc];exact S,u⟩
theorem MI{z:List Loc}(J:Ext φ z){H:d8}{v v' u:Value}{i:Nat}{x:Value}(h:ldc H v i=some x)(D:VR φ v v')(E:VR z v u):u=v':=by
 obtain⟨b,o,c,own,sz,rfl,O,_⟩:=zB h;cases D with
 |ptr I=>
  cases E with
  |ptr y=>
   have:=J _ _ I;rw[y]at this;cases this;rfl
end
def kr:Option Value->Int
 |some (.int .i64 n)=>n
 |_=>0
def lnA:Option Value->Nat
 |some (.slice _ n _)=>n
 |_=>0
def jg(n:Int):Int:=if 0<=n/\n<=1000000 then n else 0
theorem GM(n:Int):0<=jg n/\jg n<=1000000:=by unfold jg;split<;>omega
def atA(H:d8)(s:Option Value)(i:Nat):Option Value:=
 match s with
 |some (.slice (some a) _ _)=>ldc H (.pointer (some a)) i
 |_=>none
def okP(v75 v3 q:Value)(m:Nat)(ss:Nat->Int)(size:Int)(H:d8):Prop:=
 ldc H v75 0=some q/\ldc H v3 0=some (.int .i64 size)/\∃a len cap,ldc H q 10=some (.slice (some a) len cap)/\m<=len/\∀i,i<m->ldc H (.pointer (some a)) i=some (.int .i64 (ss i))
open Classical in
noncomputable def rY(e:Env)(H:d8):Option (List (Nat×Nat)×(d8->Prop)):=
 match e.get 11 with
 | .func (.func 84) fs cs=>
  let v75:=cs.getD 0 undef
  let v3:=cs.getD 1 undef
  let q:=(ldc H v75 0).getD undef
  let m:=lnA (ldc H q 9)
  let ss:=fun i=>jg (kr (atA H (ldc H q 10) i))
  let size:=kr (ldc H v3 0)
  if fs.size=0/\cs.size=2/\1<=m/\m<=1000/\(∃a c,ldc H q 9=some (.slice a m c))/\okP v75 v3 q m ss size H then some (aO ss size m m,okP v75 v3 q m ss size) else none
 |_=>none
theorem MV:dv prog 84:=⟨Tryz.f84,Er,kR,kR⟩
theorem LY:(Tryz.f34.name== "runtime.NumGoroutine")=false:=kR
theorem qL{φ:List Loc}{a:Option Addr}{m c:Nat}{v:Value}(y:1<=m)(h:VR φ (.slice a m c) v):∃a' u,v= .slice a' m u:=by
 cases h with
 |nilslice=>omega
 |slice0=>omega
 |exact=>exact⟨_,_,rfl⟩
 |slice=>exact⟨_,_,rfl⟩
theorem FN{φ:List Loc}{a:Addr}{m c:Nat}{v:Value}(z:1<=m)(h:VR φ (.slice (some a) m c) v):∃a' y,v= .slice (some a') m y/\VR φ (.pointer (some a)) (.pointer (some a')):=by
 cases h with
 |slice0=>omega
 |exact u=>exact⟨_,_,rfl,.ptr u⟩
 |slice u _ _=>exact⟨_,_,rfl,.ptr u⟩
theorem qD{base:Bs}{w0:World}{φ φ':List Loc}{w:World}{H H':d8}{J v3 q u I q':Value}{m:Nat}{ss:Nat->Int}{size:Int}(S:Ext φ φ')(hm:1<=m)(O:WR base w0 φ' H'.bs w)(h:okP J v3 q m ss size H')(h1:VR φ J u)(h2:VR φ v3 I)(X:VR φ q q'){x:Value}(hq:ldc H q 9=some x){D z p3 i3 rb ro:Nat}
  (e1:u= .pointer (some ⟨D,z,none⟩)) (e2:I= .pointer (some ⟨p3,i3,none⟩)) (e3:q'= .pointer (some ⟨rb,ro,none⟩)):Rd D z p3 i3 rb ro m ss size w:=by
 subst e1 e2 e3;obtain⟨k1,k2,a,W,a1,k3,k4,k5⟩:=h;obtain⟨p,i,y,E,r2,r3⟩:=Z5 O (h1.mono S) k1;cases E;have:=MI S hq X r3;subst this;obtain⟨p,i,y,E,r4,r5⟩:=Z5 O (h2.mono S) k2;cases E;have:=r5.eq_na (by rfl);subst this;obtain⟨p,i,y,E,r6,r7⟩:=Z5 O (X.mono S) k3;cases E;obtain⟨⟨ab,ao,ap⟩,c',rfl,r8⟩:=FN oM r7;have U:ap=none:=by cases r8;rfl
 subst U;refine⟨r2,r4,ab,ao,W,c',k4,r6,fun i hi=>?_⟩;obtain⟨p,j,y,t1,t2,t3⟩:=Z5 O r8 (k5 i hi);cases t1;have:=t3.eq_na (by rfl);subst this;exact t2
theorem PO{base:Bs}{w0:World}{φ:List Loc}{w:World}{a:Act}{e:Env}{H:d8}{L:List (Nat×Nat)}{ok:d8->Prop}(h:rY e H=some (L,ok))(hE:ER φ Tryz.f34.ntmps e a)(hW:WR base w0 φ H.bs w):
  ∃lb Rd,a.eval (.tmp 11)= .func (.func 84) #[] lb/\(∀φ' H' W',Ext φ φ'->WR base w0 φ' H'.bs W'->ok H'->Rd W')/\∀X,WR base w0 φ H.bs X->vV prog 84 lb Rd L X:=by
 have hv:=hE.op (x:= .tmp 11) rfl;have h0:opv e (.tmp 11)=e.get 11:=rfl;rw[h0]at hv;unfold rY at h;split at h
 rotate_left
 .cases h
 rename_i fs cs a4;rw[a4]at hv;simp only at h;split at h
 rotate_left
 .cases h
 rename_i hc;cases h;obtain⟨c1,c2,c3,c4,⟨sa,sc,c5⟩,c6⟩:=hc;generalize hz:a.eval (.tmp 11)=z at hv;cases hv with
 |func g h1 h2 h3 h4=>
  rename_i D cs';have a5:D= #[]:=by
   apply Array.eq_empty_of_size_eq_zero;have:fs.toList.length=fs.size:=rfl;have:D.toList.length=D.size:=rfl;omega
  subst a5;have g0:cs.toList[0]?=some (cs.getD 0 undef):=by
   have:0<cs.size:=oM;simp [Array.getD_eq_getD_getElem?,this]
  have g1:cs.toList[1]?=some (cs.getD 1 undef):=by
   have:1<cs.size:=oM;simp [Array.getD_eq_getD_getElem?,this]
  obtain⟨u,m0,y0⟩:=VRs.get ⟨h3,h4⟩ g0;obtain⟨U,m1,y1⟩:=VRs.get ⟨h3,h4⟩ g1;have a3:cs'= #[u,U]:=by
   apply Array.toList_inj.1;have hl:cs'.toList.length=2:=by rw[<-h3];exact c2
   match hq:cs'.toList,hl with
   |[x,y],_=>
    rw[hq]at m0 m1;simp only[List.getElem?_cons_zero,List.getElem?_cons_succ,Option.some.injEq]at m0 m1;rw[m0,m1]
  subst a3;obtain⟨k1,k2,k3⟩:=c6;obtain⟨O,I,q',e1,r2,r3⟩:=Z5 hW y0 k1;obtain⟨p3,i3,_,e2,_,_⟩:=Z5 hW y1 k2;obtain⟨rb,ro,s9,e3,r9,a8⟩:=Z5 hW r3 c5;obtain⟨b5,b6,rfl⟩:=qL c3 a8;refine⟨#[u,U],Rd O I p3 i3 rb ro _ _ _,rfl,fun φ' H' W' hx a2 a6=>qD hx c3 a2 a6 y0 y1 r3 c5 e1 e2 e3,fun X E=>?_⟩;intro l J Jx a1 hY hJ;have hR:=qD (Ext.refl φ) c3 E ⟨k1,k2,k3⟩ y0 y1 r3 c5 e1 e2 e3;obtain⟨b2,b3,b4,f3,a9,S⟩:=Z5 E r3 c5;rw[e3]at f3;cases f3;obtain⟨b0,b1,rfl⟩:=qL c3 S;rw[e1,e2];exact Ca 2 l O I p3 i3 rb ro _ _ _ J Jx c4 (fun i=>GM _) a1 (fun a7 x W hp hj=>hY a7 x W hp hj) X hR b0 b1 a9 hJ
noncomputable def Eu:LV->d8->Option (Value×Option d8):=mi prog t6 zp zq mU mV qp 12 13 59 [.cell 4 4] rY
noncomputable def gh:Lib:=fun f=>if f=34 then some Eu else none
theorem zC:pP prog t6:=fun g f h=>by cases h
theorem Jz:prog.follows .mixedOrders=true:=kR
theorem HP:pP prog gh:=by
 intro g f h;unfold gh at h;split at h
 rotate_left
 .cases h
 rename_i z;cases h;subst z;have:=Fv (f:=34) Jz zC Lh JW LY Re Rf PP PQ Rg Rq MV (it:=rY) (g:= .tmp 11) fun h u y=>PO h u y;rw[Ro,Rv]at this;exact this
theorem aX{f:FuncId}{args:LV}{H:d8}{r:Value×Option d8}(h:CL prog t6 f args H=some r):CL prog gh f args H=some r:=by
 refine Gf (fun f=>?_) _ _ _ _ h;unfold gh;by_cases u:f=34
 .subst u;exact .inr ⟨rfl,PI⟩
 .rw[if_neg u];exact .inl rfl
theorem Qy(args:LV)(H:d8):CL prog gh 34 args H=Eu args H:=JI (by unfold gh;rw[if_pos rfl]) args H
theorem fW(size a b:Int):∀(l:List EvD)(i:Nat)(r:ReD),(M9 size a b l i r).1.strat=r.strat/\(M9 size a b l i r).1.labels=r.labels/\r.size<+:(M9 size a b l i r).1.size
 |[],i,r=>⟨rfl,rfl,List.prefix_rfl⟩
 |e::l,i,r=>by
  rw[M9];obtain⟨p1,p2,h,_⟩:=eF r (I4 r.strat e (r.sorts.getD a.toNat soZ) (r.sorts.getD b.toNat soZ)) size (i,a,b);split
  .split
   .obtain⟨u,y,z⟩:=fW size a b l (i+1) (am r (I4 r.strat e (r.sorts.getD a.toNat soZ) (r.sorts.getD b.toNat soZ)) size (i,a,b)).1;exact⟨u.trans p1,y.trans p2,h.trans z⟩
   .exact⟨p1,p2,h⟩
  .exact fW size a b l (i+1) r
def W7(size:Int):List (Nat×Nat)->ReD->ReD×Bool
 |[],r=>(r,true)
 |x::l,r=>if(M9 size x.1 x.2 r.labels 0 r).2 then W7 size l (M9 size x.1 x.2 r.labels 0 r).1 else((M9 size x.1 x.2 r.labels 0 r).1,false)
def fp(r:ReD)(size:Int):ReD×Bool:=W7 size (aO (fun i=>r.size.getD i 0) size r.sorts.length r.sorts.length) r
theorem wg{f g:Nat->Int}{size:Int}{m:Nat}(h:∀i,i<m->f i=g i):∀a,a<=m->aO f size m a=aO g size m a:=by
 intro a D;unfold aO;have:∀x∈List.range a,ic f size x m=ic g size x m:=fun x u=>by
  unfold ic
  congr 1
  refine List.filter_congr fun y z=>?_;rw[h x (oN (List.mem_range.1 u)),h y (List.mem_range.1 z)]
 rw[List.flatMap_def,List.flatMap_def,List.map_congr_left this]
section
variable(Hs:d8)(lo K:Nat)(rb lw:Nat)(G:Nat->Prop)(rs:List Value)(vl:Value)(W0:List Value)(Hb:d8)(b2 b3 b4:Nat)(size:Int)(h0:0<=size)(n:Nat)(hbox:CN Hb rb lw W0 b2 b3 b4 size)(hlo:lo<=lw)(heq:∀j,j<lo->Hb.get j=Hs.get j)
include h0 hbox hlo heq
theorem IE(a b:Int)(e:Env)(H:d8)(r:ReD)(u y D:Value)(X:e.get 2=pT b2)(f3:e.get 3=pT b3)(f4:e.get 4=pT b4)(f5:e.get 5=iV a)(f6:e.get 6=iV b)
  (I:U0 (QR Hs lo K false) (QR Hs lo K true) H rb lw G r rs vl u y D) (hT:aN rb lw W0 Hb [u,y,D] H) (U:WfR r n):
  w7 (LE prog t6 mV e H) (fun o e H=>(o= .normal/\(M9 size a b r.labels 0 r).2=true/\∃u y D,U0 (QR Hs lo K false) (QR Hs lo K true) H rb lw G (M9 size a b r.labels 0 r).1 rs vl u y D/\aN rb lw W0 Hb [u,y,D] H/\WfR (M9 size a b r.labels 0 r).1 n)\/(o= .ret/\(M9 size a b r.labels 0 r).2=false/\H.get b4=cE [.bool false] 1/\i6 lw Hb H)):=by
 obtain⟨g2,g3,w4,g4⟩:=hbox.at_ hT;have gr:=I.g;obtain⟨W,q9,a1,a2⟩:=I.at_;obtain⟨a3,E⟩:=eY (rs++[vl,u,y,D]);rw[<-E]at gr W;obtain⟨va,vc,h⟩:=I.lb.slice;rw[h]at W;refine J4 X g2 gr W ?_;refine j8 (F:=fun z=>w7 (inBlock 1 (inBlock 2 z)) _) (uM Hs lo K rb lw G rs vl W0 Hb b2 b3 b4 size a b h0 n hbox hlo heq va vc r.labels h (M9 size a b r.labels 0 r) (r.labels.length-0) _ _ ⟨0,r,u,y,D,rfl,Nat.zero_le _,X,f3,f4,f5,f6,h.symm,rfl,rfl,rfl,I,hT,U,by rw[List.drop_zero]⟩) ?_;rintro o' e' H' (⟨S,J,O⟩|⟨S,J,O⟩)
 .have:inBlock 1 (inBlock 2 (some (o',e',H')))=some (.normal,e',H'):=by rw[S];rfl
  rw[this,ez];exact .inl ⟨rfl,J,O⟩
 .have:inBlock 1 (inBlock 2 (some (o',e',H')))=some (.ret,e',H'):=by rw[S];rfl
  rw[this,ez];exact .inr ⟨rfl,J,O⟩
theorem vq(e:Env)(U:e.get 2=pT b2)(W:e.get 3=pT b3)(X:e.get 4=pT b4)(ok:d8->Prop)(s0:List Int)(E:∀H r h u y,U0 (QR Hs lo K false) (QR Hs lo K true) H rb lw G r rs vl h u y->aN rb lw W0 Hb [h,u,y] H->s0<+:r.size->ok H):
  ∀(L:List (Nat×Nat))(H:d8)(r:ReD)(h u y:Value),U0 (QR Hs lo K false) (QR Hs lo K true) H rb lw G r rs vl h u y->aN rb lw W0 Hb [h,u,y] H->WfR r n->s0<+:r.size->
   ∃o H',bH prog t6 mU mV 12 13 e ok L H=some (o,H')/\((o= .normal/\(W7 size L r).2=true/\∃h u y,U0 (QR Hs lo K false) (QR Hs lo K true) H' rb lw G (W7 size L r).1 rs vl h u y/\aN rb lw W0 Hb [h,u,y] H'/\WfR (W7 size L r).1 n)\/(o= .ret/\(W7 size L r).2=false/\H'.get b4=cE [.bool false] 1/\i6 lw Hb H'))
 |[],H,r,h,u,y,hR,hT,hwf,hs=>⟨.normal,H,rfl,.inl ⟨rfl,rfl,h,u,y,hR,hT,hwf⟩⟩
 |x::L,H,r,h,u,y,hR,hT,hwf,hs=>by
  have hA:LE prog t6 mU ((13,iV (x.2:Int))::(12,iV (x.1:Int))::e) H=some (.normal,(6,iV (x.2:Int))::(5,iV (x.1:Int))::(13,iV (x.2:Int))::(12,iV (x.1:Int))::e,H):=by
   simp(maxSteps:=20000000) -dsimp (disch:=first|omega|(simp only[rH]<;>omega)|fail) only[↓ig,rQ,N3,sevalprocAttr,tyA,]
  obtain⟨o,e2,H2,hB,I⟩:=IE Hs lo K rb lw G rs vl W0 Hb b2 b3 b4 size h0 n hbox hlo heq x.1 x.2 ((6,iV (x.2:Int))::(5,iV (x.1:Int))::(13,iV (x.2:Int))::(12,iV (x.1:Int))::e) H r h u y U W X rfl rfl hR hT hwf;rcases I with⟨rfl,S,y1,y2,y3,z,D,O⟩|⟨rfl,S,h2,h3⟩
  .have J:s0<+:(M9 size x.1 x.2 r.labels 0 r).1.size:=hs.trans (fW size x.1 x.2 r.labels 0 r).2.2;obtain⟨o',H',k1,k2⟩:=vq e U W X ok s0 E L H2 _ y1 y2 y3 z D O J;refine⟨o',H',?_,?_⟩
   .simp only[bH,hA,hB,if_pos (E H2 _ y1 y2 y3 z D J)];exact k1
   .rw[W7,if_pos S];exact k2
  .refine⟨.ret,H2,?_,.inr ⟨rfl,?_,h2,h3⟩⟩
   .simp only[bH,hA,hB]
   .rw[W7,S];rfl
end
theorem HI{e:Env}{H:d8}{h y q:Value}{size:Int}{sa:Option Addr}{m c u z:Nat}{a:Addr}(S:e.get 11= .func (.func 84) #[] #[h,y])(U:ldc H h 0=some q)(W:ldc H y 0=some (.int .i64 size))(X:ldc H q 9=some (.slice sa m c))(hm:1<=m/\m<=1000)(D:ldc H q 10=some (.slice (some a) u z))(I:m<=u)(O:Nat->Int)(J:∀i,i<m->ldc H (.pointer (some a)) i=some (.int .i64 (O i))) (hb:∀i,i<m->0<=O i/\O i<=1000000):
  rY e H=some (aO O size m m,okP h y q m (fun i=>jg (kr (atA H (ldc H q 10) i))) size):=by
 have hc:∀i,i<m->jg (kr (atA H (ldc H q 10) i))=O i:=fun i E=>by
  rw[D];show jg (kr (ldc H (.pointer (some a)) i))=_;rw[J i E,kr,jg,if_pos (hb i E)]
 have e9:lnA (ldc H q 9)=m:=by rw[X];rfl
 have e3:kr (ldc H y 0)=size:=by rw[W];rfl
 have e0:(#[h,y]:Array Value).getD 0 undef=h:=rfl;have e1:(#[h,y]:Array Value).getD 1 undef=y:=rfl;have eq:(ldc H h 0).getD undef=q:=by rw[U];rfl
 unfold rY;simp only[S];rw[e0,e1,eq,e9,e3];rw[if_pos ⟨rfl,rfl,hm.1,hm.2,⟨sa,c,X⟩,U,W,a,u,z,D,I,fun i E=>by show ldc H (.pointer (some a)) i=some (.int .i64 (jg (kr (atA H (ldc H q 10) i))));rw[hc i E];exact J i E⟩];rw[wg hc m (Nat.le_refl m)]
theorem JF{H:d8}{lo:Nat}{w:Value}{l:List Int}(E:u6 H lo 1 (w9 inE) w l)(h:1<=l.length):∃a c,w= .slice (some a) l.length c/\∀i,i<l.length->ldc H (.pointer (some a)) i=some (.int .i64 (l.getD i 0)):=by
 have hs:=E.sl;obtain⟨sa,c,rfl⟩:=hs.slice;obtain⟨_,nb,o,_,_,_,_,_,rfl,_,_,_,_,_,_⟩:=hs.row (i:=0) oM;refine⟨_,c,rfl,fun i O=>?_⟩;obtain⟨y,X,o',cs,own,el,W,hd,D,U,J,S,z,I,rfl⟩:=hs.row (i:=i) O;cases D;have u:=I 0 oM;rw[Nat.add_zero,Nat.mul_one]at u;unfold ldc;simp only[J,u];rw[List.getD_eq_getElem?_getD,W];rfl
theorem U0.back{z D:LV->Q->Prop}{H H':d8}{rb lw:Nat}{G:Nat->Prop}{r r0:ReD}{rs:LV}{vl O S U w1 w2 w3:Value}(h:U0 z D H' rb lw G r rs vl O S U)(y:U0 z D H rb lw G r0 rs vl w1 w2 w3)(u:∀j,j<H.next->H'.get j=H.get j):O=w1/\S=w2/\U=w3/\U0 z D H rb lw G r rs vl w1 w2 w3:=by
 have E:=h.g;rw[u rb (u7 y.g),y.g]at E;simp only[Option.some.injEq,Blk.cells.injEq,List.append_cancel_left_eq,List.cons.injEq,and_true,true_and]at E;obtain⟨rfl,rfl,rfl⟩:=E;have I:∀j,G j->H.get j=H'.get j:=fun j X=>(u j (y.fr j X).1).symm;have J:∀w∈ [w1,w2,w3],∀b,l7 w b->H.get b=H'.get b:=fun w hw b W=>(u b (y.inl hw W).2.2).symm;exact⟨rfl,rfl,rfl,y.g,h.st.mono I (fun _ h=>h) iF iF,h.lb.mono I (fun _ h=>h) (fun _ _ q=>y9 _ _ _ _ _ _ q I (fun _ h=>h)),h.so.same (J w1 sM),h.sz.same (J w2 sM),h.ho.same (J w3 sM),h.ap,y.fr,y.nb⟩
theorem U0.side{I J:LV->Q->Prop}{H H':d8}{rb lw:Nat}{G:Nat->Prop}{r:ReD}{rs:LV}{vl w1 w2 w3:Value}(h:U0 I J H rb lw G r rs vl w1 w2 w3){b:Nat}(z:b≠rb/\¬G b/\∀w∈ [w1,w2,w3],¬l7 w b) (S:H.next<=H'.next) (u:∀j,j≠b->H'.get j=H.get j):U0 I J H' rb lw G r rs vl w1 w2 w3:=by
 have D:∀j,G j->H'.get j=H.get j:=fun j y=>u j fun q=>z.2.1 (q▸y);have E:∀w∈ [w1,w2,w3],∀j,l7 w j->H'.get j=H.get j:=fun w O j y=>u j fun q=>z.2.2 w O (q▸y);exact⟨(u rb fun q=>z.1 q.symm).trans h.g,h.st.mono D (fun _ h=>h) iF iF,h.lb.mono D (fun _ h=>h) (fun _ _ q=>y9 _ _ _ _ _ _ q D (fun _ h=>h)),h.so.same (E w1 sM),h.sz.same (E w2 sM),h.ho.same (E w3 sM),h.ap,fun j y=>by have:=h.fr j y;exact⟨oM,this.2⟩,h.nb⟩
theorem Qh(H:d8)(rb:Nat)(size:Int):CL prog t6 61 [pT rb,iV size] H=some (.func (.func 84) #[] #[pT H.next,pT (H.next+1)],some ⟨H.bs++[.cells [pT rb] true 1]++[.cells [iV size] true 1],min H.low H.next⟩):=by
 rw[j7 QQ rfl _ sM];refine J1 Qw ?_;rfl
def Gg(Hs:d8)(lo K:Nat)(rb lw:Nat)(G:Nat->Prop)(rs:LV)(vl w1 w2 w3:Value)(n:Nat)(H:d8)(z:ReD×Bool):Value->d8->Prop:=fun v H'=>
 v= .bool z.2/\i6 lw H H'/\(z.2=true->∃x1 x2 x3,U0 (QR Hs lo K false) (QR Hs lo K true) H' rb lw G z.1 rs vl x1 x2 x3/\aN rb lw [w1,w2,w3] H [x1,x2,x3] H'/\WfR z.1 n)
theorem Lp(Hs:d8)(lo K:Nat)(H:d8)(rb lw:Nat)(G:Nat->Prop)(rs:LV)(vl w1 w2 w3:Value)(size:Int)(h0:0<=size)(n:Nat)(hlo:lo<=lw)(heq:∀j,j<lo->H.get j=Hs.get j) (r:ReD) (hR:U0 (QR Hs lo K false) (QR Hs lo K true) H rb lw G r rs vl w1 w2 w3) (W:WfR r n):
  Ret (CL prog gh 34 [pT rb,iV size] H) H (Gg Hs lo K rb lw G rs vl w1 w2 w3 n H (fp r size)):=by
 obtain⟨H1,a1,n1,-⟩:=pushF H (bC [pT rb] 1);obtain⟨H2,I⟩:=eY (H1.push (bC [iV size] 1));have n2:H2.next=H.next+2:=by rw[I,i5,n1]
 obtain⟨u,D⟩:=eY (H2.push (bC [.bool false] 1));have n3:u.next=H.next+3:=by rw[D,i5,n2]
 have g2:u.get H.next=cE [pT rb] 1:=by rw[D,i7 oM,I,i7 oM,a1];exact j9
 have g3:u.get (H.next+1)=cE [iV size] 1:=by rw[D,i7 oM,I,<-n1];exact j9
 have g4:u.get (H.next+2)=cE [.bool false] 1:=by rw[D,<-n2];exact j9
 have a8:=Qh u rb size;obtain⟨h,a6⟩:=eY (⟨u.bs++[.cells [pT rb] true 1]++[.cells [iV size] true 1],min u.low u.next⟩:d8);rw[<-a6]at a8;rw[Qy];unfold Eu mi;rw[if_pos sM];have hE:∃y,sI prog t6 zp zq mU mV qp 12 13 rY (N3 0 [pT rb,iV size]) ⟨H.bs,H.next⟩=(match rY y h with
   |some (L,ok)=>match bH prog t6 mU mV 12 13 y ok L h with
    |some (.normal,u)=>LE prog t6 qp y u
    |some (.ret,u)=>some (.ret,y,u)
    |_=>none
   |none=>none)/\y.get 2=pT H.next/\y.get 3=pT (H.next+1)/\y.get 4=pT (H.next+2)/\y.get 11= .func (.func 84) #[] #[pT (H.next+3),pT (H.next+4)]:=by
  have ha:∃X,LE prog t6 zp (N3 0 [pT rb,iV size]) ⟨H.bs,H.next⟩=some (.normal,X,u)/\X.get 2=pT H.next/\X.get 3=pT (H.next+1)/\X.get 4=pT (H.next+2):=by
   refine J5 a1.symm n1 I.symm n2 D.symm ?_;exact⟨_,rfl,rfl,rfl,rfl⟩
  obtain⟨X,ha,p2,p3,p4⟩:=ha;have hb:∃y,LE prog t6 zq X u=some (.normal,y,h)/\y.get 2=pT H.next/\y.get 3=pT (H.next+1)/\y.get 4=pT (H.next+2)/\y.get 11= .func (.func 84) #[] #[pT (H.next+3),pT (H.next+4)]:=by
   rw[n3]at a8;refine J5 p2 p3 g2 g3 a8 ?_;exact⟨_,rfl,p2,p3,p4,rfl⟩
  obtain⟨y,hb,p⟩:=hb;refine⟨y,?_,p⟩;unfold sI;simp only[ha,hb];rfl
 obtain⟨y,hE,p2,p3,p4,d2⟩:=hE;rw[hE];have b5:h.bs=((u.push (bC [pT rb] 1)).push (bC [iV size] 1)).bs:=by rw[a6];rfl
 have d5:u.low=H.next:=by rw[D,I,a1];rfl
 have d7:h.low=H.next:=by rw[a6];show min u.low u.next=_;omega
 have n5:h.next=H.next+5:=by
  show h.bs.length=_;rw[b5];simp only[d8.push,List.length_append,List.length_singleton];have:u.bs.length=H.next+3:=n3;omega
 have g5:∀j,h.get j=((u.push (bC [pT rb] 1)).push (bC [iV size] 1)).get j:=fun j=>by show h.bs[j]?=_;rw[b5];rfl
 have o5:∀j,j<u.next->h.get j=u.get j:=fun j z=>by rw[g5,i7 (by rw[i5];omega),i7 z]
 have a3:h.get (H.next+3)=cE [pT rb] 1:=by rw[g5,i7 (by rw[i5];omega),<-n3];exact j9
 have a4:h.get (H.next+4)=cE [iV size] 1:=by
  have e4:H.next+4=(u.push (bC [pT rb] 1)).next:=by rw[i5];omega
  rw[g5,e4];exact j9
 have old:∀j,j<H.next->h.get j=H.get j:=fun j z=>by rw[o5 j oM,D,i7 oM,I,i7 oM,a1,i7 (by exact z)];rfl
 have hS:i6 H.next H h:=⟨oM,fun k hk _=>oM,old⟩
 have J:=hR.keep hS;have e7:=u7 hR.g;have e6:=hR.nb.1;obtain⟨q8,q9,d3,e8⟩:=J.at_;obtain⟨s1,c1,X⟩:=J.so.slice;have d0:=W.l0;have e3:=W.l1;have e5:=W.l2;obtain⟨s2,c2,c7,z2⟩:=JF J.sz oM;have k1:ldc h (pT (H.next+3)) 0=some (pT rb):=by unfold ldc;simp only[a3];rfl
 have k3:ldc h (pT (H.next+4)) 0=some (.int .i64 size):=by unfold ldc;simp only[a4];rfl
 have k9:ldc h (pT rb) 9=some (.slice s1 r.sorts.length c1):=by unfold ldc;simp only[J.g,Nat.zero_add];rw[q9,X]
 have c4:ldc h (pT rb) 10=some (.slice (some s2) r.size.length c2):=by unfold ldc;simp only[J.g,Nat.zero_add];rw[d3,c7]
 have b8:∀i,i<r.sorts.length->0<=r.size.getD i 0/\r.size.getD i 0<=1000000:=fun i hi=>by
  have b1:i<r.size.length:=oM;have b7:r.size.getD i 0∈r.size:=by rw[List.getD_eq_getElem?_getD,List.getElem?_eq_getElem b1];exact List.getElem_mem b1
  have:=W.sb _ b7;omega
 have b6:=HI d2 k1 k3 k9 ⟨d0,oM⟩ c4 oM (fun i=>r.size.getD i 0) (fun i hi=>z2 i oM) b8;obtain⟨ok,b9⟩:=eY (okP (pT (H.next+3)) (pT (H.next+4)) (pT rb) r.sorts.length (fun i=>jg (kr (atA h (ldc h (pT rb) 10) i))) size);rw[<-b9]at b6;have b0:∀i,i<r.sorts.length->jg (kr (atA h (ldc h (pT rb) 10) i))=r.size.getD i 0:=fun i hi=>by
  rw[c4];show jg (kr (ldc h (.pointer (some s2)) i))=_;rw[z2 i oM,kr,jg,if_pos (b8 i hi)]
 have nW:∀j,H.next<=j->∀w∈ [w1,w2,w3],¬l7 w j:=fun j z w hw q=>oN ((hR.inl hw q).2.2);have c0:∀H' r' x1 x2 x3,U0 (QR Hs lo K false) (QR Hs lo K true) H' rb lw G r' rs vl x1 x2 x3->aN rb lw [w1,w2,w3] h [x1,x2,x3] H'->r.size<+:r'.size->ok H':=by
  intro H' r' x1 x2 x3 S h2 h3;have hl:=h3.length_le;obtain⟨t8,t9,d4,e9⟩:=S.at_;obtain⟨s,c,es,zs⟩:=JF S.sz oM;rw[b9];have b3:H'.get (H.next+3)=h.get (H.next+3):=h2.but _ oM oM (nW _ oM);have b4:H'.get (H.next+4)=h.get (H.next+4):=h2.but _ oM oM (nW _ oM);refine⟨by unfold ldc;simp only[b3,a3];rfl,by unfold ldc;simp only[b4,a4];rfl,s,r'.size.length,c,by unfold ldc;simp only[S.g,Nat.zero_add];rw[d4,es],oM,fun i hi=>?_⟩;rw[zs i oM];show _=some (iV (jg (kr (atA h (ldc h (pT rb) 10) i))));rw[b0 i hi];obtain⟨t,ht⟩:=h3;rw[<-ht,List.getD_eq_getElem?_getD,List.getD_eq_getElem?_getD,List.getElem?_append_left oM]
 have hbox:CN h rb lw [w1,w2,w3] H.next (H.next+1) (H.next+2) size:=⟨by rw[o5 _ oM];exact g2,by rw[o5 _ oM];exact g3,⟨_,by rw[o5 _ oM];exact g4⟩,fun j z=>⟨oM,oM,nW j oM⟩⟩
 obtain⟨o,H',hr,a2⟩:=vq Hs lo K rb lw G rs vl [w1,w2,w3] h H.next (H.next+1) (H.next+2) size h0 n hbox hlo (fun j z=>by rw[old j oM];exact heq j z) y p2 p3 p4 ok r.size c0 (aO (fun i=>r.size.getD i 0) size r.sorts.length r.sorts.length) h r w1 w2 w3 J (aN.refl _ _ _ _) W List.prefix_rfl;obtain⟨kk,c8⟩:=ff PP PQ _ _ hr;have c9:=cK (vS Jz zC (Bs.lt 0) default) _ _ c8;have hz:W7 size (aO (fun i=>r.size.getD i 0) size r.sorts.length r.sorts.length) r=fp r size:=rfl;rw[hz]at a2;have e0:(match rY y h with
   |some (L,ok)=>match bH prog t6 mU mV 12 13 y ok L h with
    |some (.normal,u)=>LE prog t6 qp y u
    |some (.ret,u)=>some (.ret,y,u)
    |_=>none
   |none=>none)=(match(some (o,H'):Option (Out×d8))with
    |some (.normal,u)=>LE prog t6 qp y u
    |some (.ret,u)=>some (.ret,y,u)
    |_=>none):=by rw[b6];simp only[hr]
 rw[e0];rcases a2 with⟨rfl,S,x1,x2,x3,a9,E,a5⟩|⟨rfl,S,h2,h3⟩
 .have b4:H'.get (H.next+2)=cE [.bool false] 1:=by rw[E.but _ oM oM (nW _ oM),o5 _ oM];exact g4
  obtain⟨O,U⟩:=eY (H'.put (H.next+2) (bC [.bool true] 1));have nn:=E.stay.next;have c6:O.get (H.next+2)=cE [.bool true] 1:=by rw[U];exact j5 oM
  have d6:∀j,j≠H.next+2->O.get j=H'.get j:=fun j z=>by rw[U];exact j6 (fun q=>z q.symm)
  have n6:O.next=H'.next:=by rw[U,t5]
  have l6:O.low=min H'.low (H.next+2):=by rw[U,A4]
  simp only;refine J4 p4 b4 U.symm c6 ?_;refine E1 (fun _ hl=>?_) ?_
  .have d9:H.next<=H'.low:=oM;have c5:∀j,j<H.next->H'.get j=H.get j:=fun j z=>by
    have:=c9.same j oM (by show j<h.next;omega);exact this.trans (old j z)
   obtain⟨_,_,_,a7⟩:=a9.back hR c5;exact⟨by rw[S],i6.refl _ _,fun _=>⟨w1,w2,w3,a7,aN.refl _ _ _ _,a5⟩⟩
  .have c3:i6 lw H ⟨O.bs,min H.low O.low⟩:=by
    refine⟨by show H.next<=O.next;omega,fun k hk q=>?_,fun j z=>?_⟩
    .have:=E.stay.lowAll k hk oM;show k<=min H.low O.low;omega
    .show O.get j=H.get j;rw[d6 j oM,E.stay.get j z,old j oM]
   refine⟨by rw[S],c3,fun _=>⟨x1,x2,x3,?_,⟨fun j z X y=>?_,fun b hb=>?_,c3⟩,a5⟩⟩
   .refine a9.side (b:=H.next+2) ⟨oM,fun q=>by have:=(hR.fr _ q).1;omega,fun w hw q=>?_⟩ (by show H'.next<=O.next;omega) d6;rcases E.new _ ⟨w,hw,q⟩with⟨w',d1,q'⟩|q'
    .exact nW _ oM w' d1 q'
    .omega
   .show O.get j=H.get j;rw[d6 j oM,E.but j oM X y,old j z]
   .rcases E.new b hb with q|q
    .exact .inl q
    .exact .inr oM
 .simp only;refine J2 p4 h2 ?_;refine E1 (fun _ hl=>⟨by rw[S],i6.refl _ _,fun q=>by rw[S]at q;cases q⟩) ⟨by rw[S],⟨?_,fun k hk q=>?_,fun j z=>?_⟩,fun q=>by rw[S]at q;cases q⟩
  .have:=h3.next;show H.next<=H'.next;omega
  .have:=h3.lowAll k hk oM;show k<=min H.low H'.low;omega
  .show H'.get j=H.get j;rw[h3.get j z,old j oM]
def PE(p:PrD):Prop:=0<=p.st/\∀x∈p.ed,0<=x.1/\x.1<p.st/\0<=x.2.1/\x.2.1<p.st/\(x.2.2.1=3->0<=x.2.2.2/\x.2.2.2<p.ts.length)
theorem PE.edge{p:PrD}(h:PE p){f t:Int}(u:0<=f/\f<p.st)(y:0<=t/\t<p.st):PE (p.edge f t 0 0):=by
 refine⟨h.1,fun x z=>?_⟩;rcases List.mem_append.1 z with q|q
 .exact h.2 x q
 .rw[List.mem_singleton.1 q];exact⟨u.1,u.2,y.1,y.2,fun q=>by cases q⟩
theorem PE.more{p:PrD}(h:PE p)(d:Int)(J:0<=d):PE {p with st:=p.st+d}:=by
 refine⟨by show 0<=p.st+d;have:=h.1;omega,fun x D=>?_⟩;obtain⟨u,E,y,I,z⟩:=h.2 x D;exact⟨u,by show x.1<p.st+d;omega,y,by show x.2.1<p.st+d;omega,z⟩
theorem PE.fold{t:Int}:∀(l:List Int){p:PrD},PE p->(0<=t/\t<p.st)->(∀x∈l,0<=x/\x<p.st)->PE (l.foldl (fun m x=>m.edge x t 0 0) p)
 |[],p,h,_,_=>h
 |x::l,p,h,ht,hl=>by
  rw[List.foldl_cons];exact PE.fold l (h.edge (hl x sM) ht) ht fun y u=>hl y (by simp [u])
def PW(p:PrD)(r:PrD×Int×Int):Prop:=PE r.1/\p.st<=r.1.st/\p.ts.length<=r.1.ts.length/\0<=r.2.1/\r.2.1<r.1.st/\0<=r.2.2/\r.2.2<r.1.st
mutual
theorem jc:∀(q:Q)(p:PrD),OkD false q->PE p->PW p (C6 q p)
 | .mk o s c v a b,p,hok,hp=>by
  obtain⟨ha,hb,h1,h2,h3⟩:=hok.parts;obtain⟨n1,n2,n3,n4⟩:=dE h3;have l4:o=4->1<=a.length:=by
   rintro rfl;have:(2:Int)<=a.length:=n1;omega
  have l6:o=6->1<=a.length:=by
   rintro rfl;have:(1:Int)<=a.length:=n1;omega
  simp only[Q.op,Q.a,Q.b,Bool.false_eq_true,if_false]at ha hb h1 n3 n4;have hp0:=hp.1;rw[C6];split
  .rename_i ho;exact IO a p (l4 ho) ha hp
  .rename_i ho4;split
   .rename_i ho;obtain⟨k1,k2,k3,k4⟩:=zd a p.st {p with st:=p.st+1} [] ha (hp.more 1 oM) ⟨hp.1,by show p.st<p.st+1;omega⟩ (fun e he=>by cases he);obtain⟨f1,f2,_⟩:=kf (I9 a p.st {p with st:=p.st+1} []).1.st (I9 a p.st {p with st:=p.st+1} []).2 {(I9 a p.st {p with st:=p.st+1} []).1 with st:=(I9 a p.st {p with st:=p.st+1} []).1.st+1};have k2':p.st+1<=(I9 a p.st {p with st:=p.st+1} []).1.st:=k2;unfold PW;rw[f1,f2];refine⟨?_,by show p.st<=(I9 a p.st {p with st:=p.st+1} []).1.st+1;omega,k3,hp.1,by show p.st<(I9 a p.st {p with st:=p.st+1} []).1.st+1;omega,k1.1,by show(I9 a p.st {p with st:=p.st+1} []).1.st<(I9 a p.st {p with st:=p.st+1} []).1.st+1;omega⟩;refine PE.fold _ (k1.more 1 oM) ⟨k1.1,by show(I9 a p.st {p with st:=p.st+1} []).1.st<(I9 a p.st {p with st:=p.st+1} []).1.st+1;omega⟩ fun x hx=>?_;have:=k4 x hx;exact⟨this.1,by show x<(I9 a p.st {p with st:=p.st+1} []).1.st+1;omega⟩
   .rename_i ho5;split
    .rename_i ho;obtain⟨k1,k2,k3,k4,k5,k6,k7⟩:=Il a {p with st:=p.st+1} (l6 ho) ha (hp.more 1 oM);have k2':p.st+1<=(dY a {p with st:=p.st+1}).1.st:=k2;exact⟨(k1.edge ⟨hp.1,oM⟩ ⟨k4,k5⟩).edge ⟨k6,k7⟩ ⟨hp.1,by show p.st<(dY a {p with st:=p.st+1}).1.st;omega⟩,by show p.st<=(dY a {p with st:=p.st+1}).1.st;omega,k3,hp.1,by show p.st<(dY a {p with st:=p.st+1}).1.st;omega,hp.1,by show p.st<(dY a {p with st:=p.st+1}).1.st;omega⟩
    .rename_i ho6;have hts:p.ts.length<=(if o=7 then p.ts++b else p.ts).length:=by
      split
      .rw[List.length_append];omega
      .exact lR
     refine⟨⟨by show 0<=p.st+2;omega,fun x hx=>?_⟩,by show p.st<=p.st+2;omega,hts,hp.1,by show p.st<p.st+2;omega,by show 0<=p.st+1;omega,by show p.st+1<p.st+2;omega⟩;rcases List.mem_append.1 hx with q|q
     .obtain⟨e1,e2,e3,e4,e5⟩:=hp.2 x q;refine⟨e1,by show x.1<p.st+2;omega,e3,by show x.2.1<p.st+2;omega,fun h=>?_⟩;have:=e5 h;exact⟨this.1,by show x.2.2.2<((if o=7 then p.ts++b else p.ts).length:Int);omega⟩
     .rw[List.mem_singleton.1 q];refine⟨hp.1,by show p.st<p.st+2;omega,by show 0<=p.st+1;omega,by show p.st+1<p.st+2;omega,fun h=>?_⟩;have h7:o=7:=by
       by_cases h7:o=7
       .exact h7
       .exfalso
        simp only[if_neg h7]at h;split at h
        .cases h
        .split at h<;>cases h
      show 0<=(if o=7 then(p.ts.length:Int) else 0)/\(if o=7 then(p.ts.length:Int) else 0)<((if o=7 then p.ts++b else p.ts).length:Int);rw[if_pos h7,if_pos h7,List.length_append];have:=n3.1 h7;omega
theorem IO:∀(l:List Q)(p:PrD),1<=l.length->(∀x∈l,OkD false x)->PE p->PW p (eu l p)
 |[],p,h,_,_=>by simp at h
 |x::l,p,_,h,hp=>by
  rw[eu];exact zR l (C6 x p) p (fun y hy=>h y (by simp [hy])) (jc x p (h x (by simp)) hp)
theorem zR:∀(l:List Q)(x:PrD×Int×Int)(p:PrD),(∀y∈l,OkD false y)->PW p x->PW p (bO l x)
 |[],x,p,_,h=>by rw[bO];exact h
 |q::l,x,p,h,hx=>by
  rw[bO];obtain⟨k1,k2,k3,k4,k5,k6,k7⟩:=hx;obtain⟨m1,m2,m3,m4,m5,m6,m7⟩:=jc q x.1 (h q (by simp)) k1;refine zR l _ p (fun y hy=>h y (by simp [hy])) ⟨m1.edge ⟨k6,oM⟩ ⟨m4,m5⟩,by show p.st<=(C6 q x.1).1.st;omega,by show p.ts.length<=(C6 q x.1).1.ts.length;omega,k4,by show x.2.1<(C6 q x.1).1.st;omega,m6,m7⟩
theorem zd:∀(l:List Q)(n:Int)(p:PrD)(es:List Int),(∀y∈l,OkD false y)->PE p->(0<=n/\n<p.st)->(∀e∈es,0<=e/\e<p.st)->
  PE (I9 l n p es).1/\p.st<=(I9 l n p es).1.st/\p.ts.length<=(I9 l n p es).1.ts.length/\∀e∈(I9 l n p es).2,0<=e/\e<(I9 l n p es).1.st
 |[],n,p,es,_,hp,_,he=>by rw[I9];exact⟨hp,Int.le_refl _,lR,he⟩
 |x::l,n,p,es,h,hp,hn,he=>by
  rw[I9];obtain⟨m1,m2,m3,m4,m5,m6,m7⟩:=jc x p (h x (by simp)) hp;obtain⟨r1,r2,r3,r4⟩:=zd l n ((C6 x p).1.edge n (C6 x p).2.1 0 0) (es++[(C6 x p).2.2]) (fun y hy=>h y (by simp [hy])) (m1.edge ⟨hn.1,oM⟩ ⟨m4,m5⟩) ⟨hn.1,by show n<(C6 x p).1.st;omega⟩ (fun e hm=>by
   rcases List.mem_append.1 hm with q|q
   .have:=he e q;exact⟨this.1,by show e<(C6 x p).1.st;omega⟩
   .rw[List.mem_singleton.1 q];exact⟨m6,m7⟩)
  have r2':(C6 x p).1.st<=(I9 l n ((C6 x p).1.edge n (C6 x p).2.1 0 0) (es++[(C6 x p).2.2])).1.st:=r2;have r3':(C6 x p).1.ts.length<=(I9 l n ((C6 x p).1.edge n (C6 x p).2.1 0 0) (es++[(C6 x p).2.2])).1.ts.length:=r3;exact⟨r1,oM,oM,r4⟩
theorem Il:∀(l:List Q)(p:PrD),1<=l.length->(∀x∈l,OkD false x)->PE p->PW p (dY l p)
 |[],p,h,_,_=>by simp at h
 |x::l,p,_,h,hp=>by
  rw[dY];exact jc x p (h x (by simp)) hp
end
theorem DB(q:Q)(h:OkD false q)(S:nQ q<=100000):PWf (B9 q):=by
 obtain⟨u,J,O,y,z,D,E⟩:=jc q ⟨0,0,0,[],[]⟩ h ⟨Int.le_refl _,fun x I=>by cases I⟩;have hs:=dR q;exact⟨⟨hs.1,oM⟩,⟨y,z⟩,⟨D,E⟩,u.2⟩
theorem qO(q:Q)(O:OkD false q)(hn:nQ q<=1000):0<=A0 (C0 q).progs/\A0 (C0 q).progs<=2000*((C0 q).progs.length:Int)/\∀(i:Nat) p b,(C0 q).progs[i]?=some p->(C0 q).base[i]?=some b->0<=b/\b+p.st<=A0 (C0 q).progs/\PWf p:=by
 obtain⟨h1,h2⟩:=bS _ false q lR O;have key:∀(l:List Q)(s:StD),(∀x∈l,OkD false x/\nQ x<=nQ q)->s.base.length=s.progs.length->0<=A0 s.progs->A0 s.progs<=2000*(s.progs.length:Int)->(∀(i:Nat) p b,s.progs[i]?=some p->s.base[i]?=some b->0<=b/\b+p.st<=A0 s.progs/\PWf p)->
   0<=A0 (l.foldl E8 s).progs/\A0 (l.foldl E8 s).progs<=2000*((l.foldl E8 s).progs.length:Int)/\∀(i:Nat) p b,(l.foldl E8 s).progs[i]?=some p->(l.foldl E8 s).base[i]?=some b->0<=b/\b+p.st<=A0 (l.foldl E8 s).progs/\PWf p:=by
  intro l;induction l with
  |nil=>intro s _ _ D I E;exact⟨D,I,E⟩
  |cons x l ih=>
   intro s U J D I E;rw[List.foldl_cons];have S:=U x sM;have hc:=dR x;refine ih (E8 s x) (fun y hy=>U y (by simp [hy])) ?_ ?_ ?_ ?_
   .rw[E8];split
    .exact J
    .simp [J]
   .rw[E8];split
    .exact D
    .rw[U6];omega
   .rw[E8];split
    .exact I
    .rw[U6,List.length_append,List.length_singleton];omega
   .rw[E8];split
    .exact E
    .intro i p b u h;rw[U6];by_cases hi:i<s.progs.length
     .rw[List.getElem?_append_left hi]at u;rw[List.getElem?_append_left oM]at h;obtain⟨W,a2,X⟩:=E i p b u h;exact⟨W,oM,X⟩
     .have z:i=s.progs.length:=by
       have:=(gS u).1;simp at this;omega
      rw[List.getElem?_append_right oM,z,Nat.sub_self]at u;rw[List.getElem?_append_right oM,z,J,Nat.sub_self]at h;simp at u h;subst u h;exact⟨D,Int.le_refl _,DB x S.1 oM⟩
 exact key (inQ false q) ⟨[],[],[],B9 q⟩ h2 rfl (Int.le_refl _) (by simp [A0]) (fun i p b u=>by simp at u)
theorem qP(q:Q)(h:OkD false q)(W:nQ q<=400):WfS (C0 q) (A0 (C0 q).progs).toNat:=by
 obtain⟨z,D,S,U⟩:=jO q h;obtain⟨X,k2,J⟩:=qO q h oM;refine⟨z,D,oM,oM,fun i p b I E=>?_⟩;obtain⟨u,O,y⟩:=J i p b I E;exact⟨u,oM,y⟩
theorem Ret.one{f:FuncId}{args:LV}{H H':d8}{Q:Value->d8->Prop}(h:Ret (CL prog t6 f args H) H' Q):Ret (CL prog gh f args H) H' Q:=by
 obtain⟨v,y,u,z,D,E⟩:=h;exact⟨v,y,u,aX z,D,E⟩
theorem LT{a b:Int}(h:0<=a/\a<=200)(u:0<=b/\b<=200):0<=mx2 a b/\mx2 a b<=200:=by unfold mx2;split<;>assumption
theorem LU:∀l:List Int,(∀x∈l,0<=x/\x<=200)->0<=mxL l/\mxL l<=200
 |[],_=>by simp [mxL]
 |x::l,h=>by
  have:∀(l:List Int)(m:Int),(∀x∈l,0<=x/\x<=200)->0<=m/\m<=200->0<=l.foldl mx2 m/\l.foldl mx2 m<=200:=by
   intro l;induction l with
   |nil=>intro m _ h;exact h
   |cons y l J=>intro m u D;rw[List.foldl_cons];exact J _ (fun z I=>u z (by simp [I])) (LT D (u y sM))
  exact this l x (fun y E=>h y (by simp [E])) (h x sM)
def km:Nat->ReD->Int->Option ReD
 |0,r,_=>some r
 |k+1,r,size=>if decide (size<=2*mxL r.size+1) then(if(fp r size).2 then km k (fp r size).1 (size+1) else none) else some r
def z12:LV:=[nS,nS,nS,iV 0,iV 0,iV 0,nS,nS,nS,nS,nS,nS]
theorem yi(S:d8)(lo K:Nat)(W J:Nat)(G:Nat->Prop)(rs:LV)(vl:Value)(Hb:d8)(z:Nat)(n:Nat)(a8:lo<=J)(a7:∀j,j<lo->Hb.get j=S.get j) (a2:z<J) (g2:Hb.get z=cE z12 1) (D:Option ReD):
  ∀U e H,(∃(size:Int)(r:ReD)(X O x3:Value),U=(402-size).toNat/\0<=size/\size<=402/\e.get 2=pT z/\e.get 6=pT W/\e.get 7=iV size/\
    U0 (QR S lo K false) (QR S lo K true) H W J G r rs vl X O x3/\i6 J Hb H/\WfR r n/\km U r size=D)->
  w7 (LE prog gh (.loop MX) e H) (fun o e H=>e.get 2=pT z/\((o= .exit 0/\e.get 6=pT W/\i6 J Hb H/\∃r X O x3,D=some r/\U0 (QR S lo K false) (QR S lo K true) H W J G r rs vl X O x3/\WfR r n)\/(o= .ret/\D=none/\e.get 3=iV 13/\H.get z=cE z12 1/\i6 z Hb H))):=by
 refine i8 _ _ ?_;rintro U e H ⟨size,r,X,O,x3,hk,b1,b8,f2,f6,f7,hR,hS,u,y⟩;obtain⟨q8,q9,b3,c0⟩:=hR.at_;have a9:=LU r.size u.sb;have b5:=u.l0;have b6:=u.l1;have b7:=u.l2;have ho:=aX (Md H W _ true 1 hR.g O r.size hR.sz.sl b3 oM oM size a9.1 oM);rcases bo:decide (size<=2*mxL r.size+1)with _|_
 .rw[bo]at ho;have a3:D=some r:=by
   cases U with
   |zero=>rw[km]at y;exact y.symm
   |succ k=>rw[km,bo]at y;exact y.symm
  refine J3 f6 f7 ho ?_;exact i9 ⟨f2,.inl ⟨rfl,f6,hS,r,X,O,x3,a3,hR,u⟩⟩
 .have b4:=dT bo;rw[bo]at ho;obtain⟨k,rfl⟩:∃k,U=k+1:=⟨U-1,oM⟩
  rw[km,bo]at y;simp only[if_true]at y;obtain⟨v,hp,H1,h,E,hv,I,b0⟩:=Lp S lo K H W J G rs vl X O x3 size b1 n a8 (fun j hj=>by rw[hS.get j oM];exact a7 j hj) r hR u;subst hv;have a1:H1.get z=cE z12 1:=by rw[I.get z a2,hS.get z a2];exact g2
  have a5:=u7 a1;rcases bz:(fp r size).2 with _|_
  .rw[bz]at h y;simp only[bF]at y;simp(maxSteps:=20000000) -dsimp (disch:=first|omega|(simp only[rH]<;>omega)|fail) only[↓ig,rQ,N3,sevalprocAttr,tyA,f2,f6,f7,ho,h,E,a1,z12];exact z9 ⟨f2,.inr ⟨rfl,y.symm,rfl,j5 a5,((hS.trans I).weaken oM).trans (i6.put lR)⟩⟩
  .obtain⟨y1,y2,y3,a6,_,a4⟩:=b0 bz;rw[bz]at h y;simp only[if_true]at y;have b9:2*mxL r.size+1<=401:=oM;refine J6 f6 f7 ho h E @wrap_small ?_;exact i4 k oM ⟨size+1,_,y1,y2,y3,oM,oM,oM,f2,f6,rfl,a6,hS.trans I,a4,y⟩
theorem fd(P:Program)(e:Env)(H:d8)(a:Nat)(t:TypeId)(u:Nat):[ResultVar.cell a t,.tmp u].mapM (M0 P e H)=(ld P t H (e.get a)).map fun v=>[v,e.get u]:=by
 simp only[List.mapM_cons,List.mapM_nil,M0];cases ld P t H (e.get a)<;>rfl
theorem Cz(q:Q)(D:OkD false q):∀p∈(C0 q).progs,∃x,nQ x<=nQ q/\p=B9 x:=by
 obtain⟨O,E⟩:=bS _ false q lR D;have key:∀(l:List Q)(s:StD),(∀x∈l,nQ x<=nQ q)->(∀p∈s.progs,∃x,nQ x<=nQ q/\p=B9 x)->∀p∈(l.foldl E8 s).progs,∃x,nQ x<=nQ q/\p=B9 x:=by
  intro l;induction l with
  |nil=>intro s _ h;exact h
  |cons x l J=>
   intro s z h;rw[List.foldl_cons];refine J (E8 s x) (fun y I=>z y (by simp [I])) ?_;rw[E8];split
   .exact h
   .intro p u;rcases List.mem_append.1 u with u|u
    .exact h p u
    .exact⟨x,z x sM,by simpa using u⟩
 exact key (inQ false q) ⟨[],[],[],B9 q⟩ (fun x z=>(E x z).2) sM
theorem AK(q:Q):(B9 q).ed.length<=4*nQ q/\(B9 q).ts.length<=nQ q:=by
 have:=F8 q ⟨0,0,0,[],[]⟩;unfold au at this;simp only[B9];simp only[List.length_nil]at this;omega
theorem SlF.off{H:d8}{F:Nat->Prop}{sz:Nat}{α:Type}{R z:LV->α->Prop}{v:Value}{l:List α}{b:Nat}{c:LV}{own:Bool}(h:SlF H F sz R v l)(W:H.get b=some (.cells c own 1))(y:sz≠1)(S:∀cs a,R cs a->z cs a):SlF H (fun j=>F j/\j≠b) sz z v l:=by
 rcases h with h|⟨D,o,E,X,h⟩
 .exact .inl h
 .refine .inr ⟨D,o,E,X,h.imp id fun⟨cs,ow,I,u,J,O⟩=>⟨cs,ow,⟨I,fun q=>?_⟩,u,J,fun i a U=>S _ _ (O i a U)⟩⟩;subst q;rw[W]at u;cases u;exact y rfl
def cT(H:d8)(F:Nat->Prop)(Rp Rt:LV->Q->Prop)(row:LV)(r:ReD):Prop:=∃rs vl w1 w2 w3,row=rs++[vl,w1,w2,w3]/\StF H F Rp Rt rs r.strat/\SlF H F 5 (EvF H F) vl r.labels/\SlF H F 3 (w9 soE) w1 r.sorts/\SlF H F 1 (w9 inE) w2 r.size/\SlF H F 3 (w9 hoE) w3 r.how
def MQ(H:d8)(lo K:Nat)(n:Nat)(res:Option ReD)(v:Value)(H':d8):Prop:=∃row er,v= .tuple #[.agg row.toArray,iV er]/\i6 H.next H H'/\((res=none/\row=z12/\er=13)\/∃r,res=some r/\er=0/\WfR r n/\cT H' (· <H'.next) (QR H lo K false) (QR H lo K true) row r)
def kV(q:Q):Option ReD:=match V4 (spQ q)with
 |none=>none
 |some l=>km 401 ⟨C0 q,l,[soZ],[0],[(0,0,0)]⟩ 1
theorem jr(q:Q){l:List EvD}(h:V4 (spQ q)=some l):l.length<=24/\∀e∈l,e.attrs.length<=1000000:=by
 obtain⟨W,X,D,z4,z5⟩:=jM q;have y:=iC (spQ q) D;rw[y]at h;split at h
 .cases h
 .rename_i I;cases h;obtain⟨c1,c2,S,U,E⟩:=mL I D;refine⟨E,fun e u=>?_⟩;have key:∀(l:List (NmQ×List ByteArray))(e0 e:EvD),e∈S3 l e0->e.attrs.length<=e0.attrs.length+l.length:=by
   intro l;induction l with
   |nil=>intro e0 e u;rw[S3,List.mem_singleton]at u;subst u;simp
   |cons x l z=>
    intro e0 e u;rw[S3,List.mem_append]at u;rcases u with u|u
    .have:=z e0 e u;rw[List.length_cons];omega
    .obtain⟨v,_,O⟩:=List.mem_flatMap.1 u;have:=z _ e O;simp only[atV,List.length_append,List.length_singleton]at this;rw[List.length_cons];omega
  rw[js,List.mem_append]at u;rcases u with u|u
  .obtain⟨n,_,J⟩:=List.mem_flatMap.1 u;have:=key _ _ _ J;rw[List.length_zip]at this;simp only[X5,List.length_nil]at this;omega
  .obtain⟨t,_,rfl⟩:=List.mem_map.1 u;simp [dp]
theorem EP(K:Nat)(H:d8)(lo:Nat)(cs:LV)(q:Q)(m6:lo<=H.next)(hr:QR H lo K false cs q)(b8:OkD false q)(f8:nQ q<=400):
  Ret (CL prog gh 11 [.agg cs.toArray] H) H (MQ H lo K (A0 (C0 q).progs).toNat (kV q)):=by
 have ac:=F7 hr;have ldc:=N5 hr;have l0:=hr.len;simp only[qSz,bF]at l0;rw[l0]at ldc;obtain⟨H0,b0,n0,-⟩:=pushF H (bC cs 1);obtain⟨H1,a4⟩:=eY (H0.push (bC z12 1));have n1:H1.next=H.next+2:=by rw[a4,i5,n0]
 have b6:i6 H.next H H1:=by rw[a4,b0];exact(i6.first H _).trans (i6.push (by rw[i5];exact Nat.le_succ _))
 have g1:H1.get H.next=cE cs 1:=by rw[a4,i7 oM,b0];exact j9
 have g2:H1.get (H.next+1)=cE z12 1:=by rw[a4,<-n0];exact j9
 obtain⟨vl,m7,Hl,c0,b7,v,er,rfl,f9,S⟩:=(EG H1 lo K cs q oM (hr.mono (fun j E=>b6.get j oM) lR) b8 oM).one;have nl:=S.next;have h6:=(S.get H.next oM).trans g1;have c5:=(S.get (H.next+1) oM).trans g2;have b3:=a4;have c9:=c5;simp only[z12]at b3 c9;rw[j7 OJ rfl _ sM];unfold kV;rcases f9 with⟨hn,rfl,rfl⟩|⟨l,hl,rfl,hv⟩
 .rw[hn];obtain⟨H2,c7⟩:=eY (Hl.put (H.next+1) (bC z12 1));have c2:H2.get (H.next+1)=cE z12 1:=by rw[c7];exact j5 oM
  have k8:H2.low=min Hl.low (H.next+1):=by rw[c7,A4]
  have i3:i6 H.next H H2:=by rw[c7];exact(b6.trans (S.weaken oM)).trans (i6.put oM)
  have d0:=c7;simp only[z12]at d0 c2;refine J12 ac b0.symm n0 b3.symm g1 ldc c0 b7 c9 d0.symm c2 @fd ?_;refine E1 (fun _ _=>?_) ?_
  .exact⟨z12,13,rfl,i6.refl _ _,.inl ⟨rfl,rfl,rfl⟩⟩
  .exact⟨z12,13,rfl,i3.ret (by have:=S.lowAll H.next oM (by rw[a4,b0];exact lR);omega),.inl ⟨rfl,rfl,rfl⟩⟩
 .rw[hl];obtain⟨m0,j0⟩:=jr q hl;obtain⟨vs,m8,u,e9,d9,rs,rfl,d2,b2⟩:=(yK K Hl lo cs q oM (hr.mono (fun j E=>by rw[S.get j oM,b6.get j oM]) lR) b8 oM).one;have nm:=b2.next;have h7:=(b2.get (H.next+1) oM).trans c5;obtain⟨sa,sc,rfl⟩:=hv.slice;obtain⟨pa,pc,ga,gc,xa,xc,ea,ec,ta,tc,I,_⟩:=F1 d2;have a7:rs.length=8:=by rw[I];rfl
  have g9:rs.all oC=true:=by rw[I];rfl
  obtain⟨M1,b4,m1,-⟩:=pushE u (bC (soE soZ) 3);obtain⟨M2,a5⟩:=eY (M1.push (bC (inE 0) 1));have m2:M2.next=u.next+2:=by rw[a5,i5,m1]
  obtain⟨M3,W⟩:=eY (M2.push (.cells (hoE (0,0,0)) true 3));have m3:M3.next=u.next+3:=by rw[W,i5,m2]
  obtain⟨M4,J⟩:=eY (M3.push (bC z12 1));have m4:M4.next=u.next+4:=by rw[J,i5,m3]
  have gz:M4.get (u.next+3)=cE z12 1:=by rw[J,<-m3];exact j9
  have l3:∀Hx:d8,bsA prog (some 59) Hx 1 [(0,.agg (soE soZ).toArray)]=some (sL Hx.next 1 1,Hx.push (bC (soE soZ) 3)):=fun Hx=>by simp only[C7,CH,C8];rfl
  have h0:∀Hx:d8,bsA prog (some 3) Hx 1 [(0,iV 0)]=some (sL Hx.next 1 1,Hx.push (bC (inE 0) 1)):=fun Hx=>by simp only[C7,ty3,C8];rfl
  have h5:∀Hx:d8,bsA prog (some 56) Hx 1 [(0,.agg (hoE (0,0,0)).toArray)]=some (sL Hx.next 1 1,Hx.push (.cells (hoE (0,0,0)) true 3)):=fun Hx=>by simp only[C7,CG,C8];rfl
  obtain⟨a8,X⟩:=eY (rs++[.slice sa l.length sc,sL u.next 1 1,sL (u.next+1) 1 1,sL (u.next+2) 1 1]);obtain⟨r0,e5⟩:=eY (rs++[nS,nS,nS,nS]:LV);obtain⟨r1,e6⟩:=eY (rs++[.slice sa l.length sc,nS,nS,nS]:LV);obtain⟨r2,e7⟩:=eY (rs++[.slice sa l.length sc,sL u.next 1 1,nS,nS]:LV);obtain⟨r3,e8⟩:=eY (rs++[.slice sa l.length sc,sL u.next 1 1,sL (u.next+1) 1 1,nS]:LV);have k1:splice [nS,nS,nS,iV 0,iV 0,iV 0,nS,nS,nS,nS,nS,nS] 0 rs=r0:=by rw[e5,I];rfl
  have k2:splice r0 8 [.slice sa l.length sc]=r1:=by rw[e5,e6,I];rfl
  have k3:splice r1 9 [sL u.next 1 1]=r2:=by rw[e6,e7,I];rfl
  have k4:splice r2 10 [sL (u.next+1) 1 1]=r3:=by rw[e7,e8,I];rfl
  have k5:splice r3 11 [sL (u.next+2) 1 1]=a8:=by rw[e8,X,I];rfl
  have j2:r0.length=12:=by rw[e5];simp [a7]
  have j3:r1.length=12:=by rw[e6];simp [a7]
  have j4:r2.length=12:=by rw[e7];simp [a7]
  have k0:r3.length=12:=by rw[e8];simp [a7]
  have g7:a8.length=12:=by rw[X];simp [a7]
  have f1:a8.all oC=true:=by rw[X,I];rfl
  have k6:splice [nS,nS,nS,iV 0,iV 0,iV 0,nS,nS,nS,nS,nS,nS] 0 a8=a8:=by rw[X,I];rfl
  obtain⟨M5,O⟩:=eY (M4.put (u.next+3) (bC a8 1));have m5:M5.next=u.next+4:=by rw[O,t5,m4]
  have f7:M1=u.push (bC [.bool false,.bool false,.string eB] 3):=b4;have g6:H.next<=Hl.low:=S.lowAll H.next oM (by rw[a4,b0];exact lR);have k9:H.next<=u.low:=b2.lowAll H.next oM g6;have d3:H.next<=M5.low:=by
   have e4:M4.low=u.low:=by rw[J,W,a5,b4];rfl
   rw[O,A4,e4];omega
  have d1:=J;have f5:=gz;simp only[z12]at d1 f5;refine J30 ac b0.symm n0 b3.symm g1 h6 ldc c0 b7 e9 d9 h0 h5 f7.symm m1 a5.symm m2 W.symm m3 d1.symm f5 a7 g9 k1 (aI k2 k3) (aI k4 k5) (aI j2 j3) (aI j4 k0) (aI g7 f1) (aI k6 O.symm) ?_;have sG:∀j,j<u.next->M5.get j=u.get j:=fun j E=>by rw[O,j6 oM,J,i7 oM,W,i7 oM,a5,i7 oM,b4,i7 oM]
  have h8:M5.get u.next=cE (soE soZ) 3:=by rw[O,j6 oM,J,i7 oM,W,i7 oM,a5,i7 oM,b4];exact j9
  have h9:M5.get (u.next+1)=cE (inE 0) 1:=by rw[O,j6 oM,J,i7 oM,W,i7 oM,a5,<-m1];exact j9
  have i0:M5.get (u.next+2)=some (.cells (hoE (0,0,0)) true 3):=by rw[O,j6 oM,J,i7 oM,W,<-m2];exact j9
  have i1:M5.get (u.next+3)=cE a8 1:=by rw[O];exact j5 oM
  have g8:∀j,j<lo->Hl.get j=H.get j:=fun j E=>by rw[S.get j oM,b6.get j oM]
  obtain⟨c8,b9⟩:=eY (⟨C0 q,l,[soZ],[0],[(0,0,0)]⟩:ReD);have j1:SlF Hl (fun j=>j<Hl.next/\j≠H.next+1) 5 (EvF Hl (fun j=>j<Hl.next/\j≠H.next+1)) (.slice sa l.length sc) l:=hv.off c5 oM fun cs e⟨w,h1,h2⟩=>⟨w,h1,h2.off c5 oM fun _ _ h=>h⟩
  have i2:U0 (QR H lo K false) (QR H lo K true) M5 (u.next+3) u.next (fun j=>j<u.next/\j≠H.next+1) c8 rs (.slice sa l.length sc) (sL u.next 1 1) (sL (u.next+1) 1 1) (sL (u.next+2) 1 1):=by
   rw[b9];refine⟨by rw[i1,X],d2.mono (fun j E=>sG j E.2) (fun j E=>⟨E.2,oM⟩) (fun _ _ h=>h.mono (fun j E=>(g8 j E).symm) lR) (fun _ _ h=>h.mono (fun j E=>(g8 j E).symm) lR),
    j1.mono (fun j E=>by rw[sG j oM];exact b2.get j E.1) (fun j E=>⟨oM,E.2⟩) (fun _ _ h=>y9 _ _ _ _ _ _ h (fun j E=>by rw[sG j oM];exact b2.get j E.1) (fun j E=>⟨oM,E.2⟩)),
    ⟨_,.inr ⟨u.next,1,rfl,h8,lR,rfl⟩,D2.one rfl rfl⟩,⟨_,.inr ⟨u.next+1,1,rfl,h9,oM,rfl⟩,D2.one rfl rfl⟩,⟨_,.inr ⟨u.next+2,1,rfl,i0,oM,rfl⟩,D2.one rfl rfl⟩,?_,fun j E=>⟨oM,oM,?_⟩,oM,?_⟩
   .intro i j a b ha hb l5 x hx hy;have hi:i<3:=by have:=(gS ha).1;simpa using this
    have E:j<3:=by have:=(gS hb).1;simpa using this
    have:i=0\/i=1\/i=2:=oM;have:j=0\/j=1\/j=2:=oM;rcases ‹i=0\/i=1\/i=2› with rfl|rfl|rfl<;>rcases ‹j=0\/j=1\/j=2› with rfl|rfl|rfl<;>simp at ha hb<;>subst ha hb<;>rw[E6]at hx hy<;>omega
   .intro w hw;simp only[List.mem_cons,List.not_mem_nil,or_false]at hw;rcases hw with rfl|rfl|rfl<;>rw[E6]<;>omega
   .intro w hw;simp only[List.mem_cons,List.not_mem_nil,or_false]at hw;rcases hw with rfl|rfl|rfl<;>rw[E6]<;>omega
  have g4:WfR c8 (A0 (C0 q).progs).toNat:=by
   rw[b9];have h1:=qO q b8 oM;refine⟨by show(((A0 (C0 q).progs).toNat:Nat):Int)=A0 (C0 q).progs;omega,qP q b8 f8,fun x hx=>?_,j0,fun p hp=>?_,by simp,rfl,rfl,by show l.length<=1000;omega,by simp,fun x hx=>?_⟩
   .have:x=soZ:=by simpa using hx
    subst this;intro h;cases h
   .obtain⟨x,hx,rfl⟩:=Cz q b8 p hp;have h2:=dR x;have h3:=AK x;omega
   .have:x=0:=by simpa using hx
    subst this;omega
  have d5:i6 H.next H M5:=by
   rw[O,J,W,a5,b4];exact(b6.trans ((S.weaken oM).trans (b2.weaken oM))).trans (((((i6.push oM).trans (i6.push (by rw[i5];omega))).trans (i6.push (by rw[i5,i5];omega))).trans (i6.push (by rw[i5,i5,i5];omega))).trans (i6.put oM))
  have f4:M5.get (H.next+1)=cE z12 1:=(sG _ oM).trans h7;rw[<-b9];refine j8 (F:=fun z=>Ret (u5 prog [.cell 2 39,.tmp 3] H (u9 (inBlock 0 z) _)) H _) (yi H lo K (u.next+3) u.next (fun j=>j<u.next/\j≠H.next+1) rs (.slice sa l.length sc) M5 (H.next+1) (A0 (C0 q).progs).toNat oM (fun j E=>d5.get j oM) oM f4 (km 401 c8 1) 401 _ _ ⟨1,c8,_,_,_,rfl,oM,oM,rfl,rfl,rfl,i2,i6.refl _ _,g4,rfl⟩) ?_;rintro o' e' H' ⟨f2,(⟨ho,f6,a6,r,x1,x2,x3,a9,hR,g3⟩|⟨ho,a9,f3,c4,a6⟩)⟩
  .obtain⟨y,D⟩:=eY (rs++[.slice sa l.length sc,x1,x2,x3]);have gr:=hR.g;rw[<-D]at gr;obtain⟨a1,c1,e1⟩:=hR.so.slice;obtain⟨a2,c2,e2⟩:=hR.sz.slice;obtain⟨a3,c3,e3⟩:=hR.ho.slice;have f0:y.length=12:=by rw[D];simp [a7]
   have d4:y.all oC=true:=by rw[D,I,e1,e2,e3];rfl
   have g5:ldC (some true) (some 12) 0 y=some (.agg y.toArray):=by rw[eW _ _ _ oM,List.drop_zero,List.take_of_length_le oM]
   have k7:splice [nS,nS,nS,iV 0,iV 0,iV 0,nS,nS,nS,nS,nS,nS] 0 y=y:=by rw[D,I];rfl
   have c4:H'.get (H.next+1)=cE z12 1:=(a6.get _ oM).trans f4;have h4:=u7 c4;obtain⟨H6,b1⟩:=eY (H'.put (H.next+1) (bC y 1));have c6:H6.get (H.next+1)=cE y 1:=by rw[b1];exact j5 h4
   have d6:∀j,j≠H.next+1->H6.get j=H'.get j:=fun j E=>by rw[b1];exact j6 (fun q=>E q.symm)
   have n6:H6.next=H'.next:=by rw[b1,t5]
   have l6:H6.low=min H'.low (H.next+1):=by rw[b1,A4]
   have n7:=a6.next;have U:=c4;simp only[z12]at U;refine J12 ho f2 f6 gr U @fd f0 d4 g5 k7 b1.symm c6 ?_;have d7:i6 H.next H H6:=by rw[b1];exact(d5.trans (a6.weaken oM)).trans (i6.put oM)
   have b5:U0 (QR H lo K false) (QR H lo K true) H6 (u.next+3) u.next (fun j=>j<u.next/\j≠H.next+1) r rs (.slice sa l.length sc) x1 x2 x3:=by
    exact hR.side (b:=H.next+1) ⟨oM,fun q=>q.2 rfl,fun w hw q=>by have:=(hR.inl hw q).1;omega⟩ oM d6
   refine E1 (fun g0 _=>?_) ?_
   .exfalso
    have l8:=g3.l0;obtain⟨l1,l4,rfl⟩:∃a c,x1= .slice (some a) r.sorts.length c:=by
     obtain⟨_,nb,o,_,_,_,_,_,q,_⟩:=(e1▸hR.so.sl:SlI H' H'.next 3 (w9 soE) (.slice a1 r.sorts.length c1) r.sorts).row (i:=0) oM;exact⟨_,_,by rw[e1,q]⟩
    simp only[L9,D,List.all_cons,na1,List.all_append,Bool.and_eq_true]at g0;simp [na0]at g0
   .refine⟨y,0,rfl,d7.ret (oN (a6.lowAll H.next oM d3)),.inr ⟨r,a9,rfl,g3,rs,_,x1,x2,x3,D,?_⟩⟩;have hx:∀j,(j<u.next/\j≠H.next+1)->j<H6.next:=fun j E=>oM;refine⟨b5.st.mono (fun _ _=>rfl) hx iF iF,b5.lb.mono (fun _ _=>rfl) hx (fun _ _ h=>y9 _ _ _ _ _ _ h (fun _ _=>rfl) hx),b5.so.sl,b5.sz.sl,b5.ho.sl⟩
  .have U:=c4;simp only[z12]at U;refine J5 ho f2 f3 U @fd ?_;have d7:i6 H.next H H':=d5.trans (a6.weaken oM);refine E1 (fun _ _=>?_) ?_
   .exact⟨z12,13,rfl,i6.refl _ _,.inl ⟨a9,rfl,rfl⟩⟩
   .exact⟨z12,13,rfl,d7.ret (a6.lowAll H.next oM d3),.inl ⟨a9,rfl,rfl⟩⟩
def MO(r:ReD)(k:Nat):Prop:=∃(i a b:Nat)(e:EvD),r.how[k]?=some ((i:Int),(a:Int),(b:Int))/\r.labels[i]?=some e/\a<k/\b<k/\r.size.getD k 0=r.size.getD a 0+r.size.getD b 0+1/\R5 r.sorts e.kind a b=true/\r.sorts[k]?=some (I4 r.strat e (r.sorts.getD a soZ) (r.sorts.getD b soZ))
structure R4(r:ReD)(m:Int):Prop where
 l2:r.size.length=r.sorts.length
 l3:r.how.length=r.sorts.length
 s0:r.sorts[0]?=some soZ
 z0:r.size[0]?=some 0
 from_:∀k,1<=k->k<r.sorts.length->MO r k
 rise:∀k,1<=k->k<r.sorts.length->r.size.getD (k-1) 0<=r.size.getD k 0
 apart:∀(i j:Nat)(x y:SoD),i<j->r.sorts[i]?=some x->r.sorts[j]?=some y->aP y x=false
 most:∀k,k<r.sorts.length->r.size.getD k 0<=m
 l1:r.sorts.length<=25
theorem R4.later{r:ReD}{m u:Int}(h:R4 r m)(z:m<=u):R4 r u:=⟨h.l2,h.l3,h.s0,h.z0,h.from_,h.rise,h.apart,fun k y=>Int.le_trans (h.most k y) z,h.l1⟩
theorem P7{α:Type}(l:List α)(x d:α)(k:Nat)(h:k<l.length):(l++[x]).getD k d=l.getD k d:=by
 rw[List.getD_eq_getElem?_getD,List.getD_eq_getElem?_getD,List.getElem?_append_left h]
theorem bB{α:Type}(l:List α)(x d:α):(l++[x]).getD l.length d=x:=by
 rw[List.getD_eq_getElem?_getD,List.getElem?_append_right lR];simp
theorem uU{y:List SoD}{x:SoD}{u f n:Int}(h:R5 y u f n=true):R5 (y++[x]) u f n=true:=by
 simp only[R5,knB,Bool.and_eq_true,decide_eq_true_eq,List.length_append,List.length_singleton]at h ⊢;obtain⟨⟨⟨z,I⟩,D,J⟩,E⟩:=h;refine⟨⟨⟨z,oM⟩,D,oM⟩,?_⟩;rw[P7 _ _ _ _ oM];exact E
theorem R4.add{r:ReD}{size:Int}(h:R4 r size){i a b:Nat}{e:EvD}(hl:r.labels[i]?=some e)(ha:a<r.sorts.length)(hb:b<r.sorts.length)(hs:size=r.size.getD a 0+r.size.getD b 0+1)(hm:R5 r.sorts e.kind a b=true):
  R4 (am r (I4 r.strat e (r.sorts.getD a soZ) (r.sorts.getD b soZ)) size (i,a,b)).1 size:=by
 obtain⟨x,hx⟩:=eY (I4 r.strat e (r.sorts.getD a soZ) (r.sorts.getD b soZ));rw[<-hx];unfold am;split
 .exact h
 .rename_i a2;split
  .exact h
  .rename_i a3;simp only[Bool.or_eq_true,decide_eq_true_eq,not_or]at a3;have E:(r.sorts++[x]).length=r.sorts.length+1:=sM;have U:∀y∈r.sorts,aP x y=false:=fun y hy=>by
    cases hq:aP x y with
    |false=>rfl
    |true=>exact absurd (List.any_eq_true.2 ⟨y,hy,hq⟩) a2
   have l0:0<r.sorts.length:=oM;have l2:=h.l2;have l3:=h.l3;refine⟨by simp [h.l2],by simp [h.l3],by rw[List.getElem?_append_left l0];exact h.s0,by rw[List.getElem?_append_left oM];exact h.z0,fun k O I=>?_,fun k O I=>?_,fun i j u v X hu J=>?_,fun k O=>?_,by show(r.sorts++[x]).length<=25;omega⟩
   .have S:k<r.sorts.length+1:=by rw[<-E];exact I
    by_cases D:k<r.sorts.length
    .obtain⟨i',a',W,e',f1,f2,f3,f4,f5,f6,f7⟩:=h.from_ k O D;refine⟨i',a',W,e',by rw[List.getElem?_append_left oM];exact f1,f2,f3,f4,?_,uU f6,?_⟩
     .show(r.size++[size]).getD k 0=(r.size++[size]).getD a' 0+(r.size++[size]).getD W 0+1;rw[P7 _ _ _ _ oM,P7 _ _ _ _ oM,P7 _ _ _ _ oM];exact f5
     .show(r.sorts++[x])[k]?=some (I4 r.strat e' ((r.sorts++[x]).getD a' soZ) ((r.sorts++[x]).getD W soZ));rw[List.getElem?_append_left D,P7 _ _ _ _ oM,P7 _ _ _ _ oM];exact f7
    .have z:k=r.sorts.length:=oM;subst z;refine⟨i,a,b,e,by rw[List.getElem?_append_right oM,l3,Nat.sub_self];rfl,hl,ha,hb,?_,uU hm,?_⟩
     .show(r.size++[size]).getD r.sorts.length 0=(r.size++[size]).getD a 0+(r.size++[size]).getD b 0+1;have e1:(r.size++[size]).getD r.sorts.length 0=size:=by rw[<-l2];exact bB _ _ _
      rw[e1,P7 _ _ _ a oM,P7 _ _ _ b oM];exact hs
     .show(r.sorts++[x])[r.sorts.length]?=some (I4 r.strat e ((r.sorts++[x]).getD a soZ) ((r.sorts++[x]).getD b soZ));rw[List.getElem?_append_right lR,Nat.sub_self,P7 _ _ _ _ ha,P7 _ _ _ _ hb,<-hx];rfl
   .have S:k<r.sorts.length+1:=by rw[<-E];exact I
    show(r.size++[size]).getD (k-1) 0<=(r.size++[size]).getD k 0;rw[P7 _ _ _ _ oM];by_cases D:k<r.sorts.length
    .rw[P7 _ _ _ _ oM];exact h.rise k O D
    .have z:k=r.size.length:=oM;rw[z,bB];exact h.most _ oM
   .have hj:=(gS J).1;simp only[List.length_append,List.length_singleton]at hj;rw[List.getElem?_append_left oM]at hu;by_cases a1:j<r.sorts.length
    .rw[List.getElem?_append_left a1]at J;exact h.apart i j u v X hu J
    .rw[List.getElem?_append_right oM]at J;have:j-r.sorts.length=0:=oM;rw[this]at J;simp at J;subst J;exact U u (mG hu)
   .have a4:k<r.sorts.length+1:=by rw[<-E];exact O
    show(r.size++[size]).getD k 0<=size;by_cases D:k<r.sorts.length
    .rw[P7 _ _ _ _ oM];exact h.most k D
    .have z:k=r.size.length:=oM;rw[z,bB];exact Int.le_refl _
theorem N9{α:Type}{l m:List α}(h:l<+:m){k:Nat}(u:k<l.length)(d:α):m.getD k d=l.getD k d:=by
 obtain⟨t,rfl⟩:=h;rw[List.getD_eq_getElem?_getD,List.getD_eq_getElem?_getD,List.getElem?_append_left u]
theorem fV{size:Int}{a b:Nat}:∀(l:List EvD)(i:Nat)(r:ReD),R4 r size->r.labels.drop i=l->a<r.sorts.length->b<r.sorts.length->size=r.size.getD a 0+r.size.getD b 0+1->R4 (M9 size a b l i r).1 size/\r.size<+:(M9 size a b l i r).1.size/\(M9 size a b l i r).1.labels=r.labels/\(M9 size a b l i r).1.strat=r.strat
 |[],i,r,h,_,_,_,_=>⟨h,List.prefix_rfl,rfl,rfl⟩
 |e::l,i,r,h,hd,ha,hb,hs=>by
  have E:r.labels[i]?=some e:=by rw[<-List.head?_drop,hd];rfl
  have u:r.labels.drop (i+1)=l:=by rw[<-List.tail_drop,hd];rfl
  rw[M9];have W:(a:Int).toNat=a:=tN a;have X:(b:Int).toNat=b:=tN b;rw[W,X];split
  .rename_i I;have z:=h.add E ha hb hs I;obtain⟨p1,p2,y,D⟩:=eF r (I4 r.strat e (r.sorts.getD a soZ) (r.sorts.getD b soZ)) size (i,a,b);have l2:=h.l2;split
   .obtain⟨J,O,S,U⟩:=fV l (i+1) _ z (by rw[p2];exact u) (Nat.lt_of_lt_of_le ha D.length_le) (Nat.lt_of_lt_of_le hb D.length_le) (by rw[N9 y oM,N9 y oM];exact hs);exact⟨J,y.trans O,S.trans p2,U.trans p1⟩
   .exact⟨z,y,p2,p1⟩
  .exact fV l (i+1) r h u ha hb hs
theorem kP{size:Int}{m:Nat}{s0:List Int}:∀(L:List (Nat×Nat))(r:ReD),R4 r size->(∀x∈L,x.1<m/\x.2<m/\size=s0.getD x.1 0+s0.getD x.2 0+1)->m<=s0.length->s0<+:r.size->R4 (W7 size L r).1 size/\(W7 size L r).1.labels=r.labels/\(W7 size L r).1.strat=r.strat
 |[],r,h,_,_,_=>⟨h,rfl,rfl⟩
 |x::L,r,h,hL,hm,hs=>by
  obtain⟨X,h2,E⟩:=hL x sM;have I:=hs.length_le;have l2:=h.l2;obtain⟨u,W,z,D⟩:=fV r.labels 0 r h (by rw[List.drop_zero]) (show x.1<r.sorts.length from oM) (show x.2<r.sorts.length from oM) (by rw[N9 hs oM,N9 hs oM];exact E);rw[W7];split
  .obtain⟨O,S,U⟩:=kP L _ u (fun y J=>hL y (by simp [J])) hm (hs.trans W);exact⟨O,S.trans z,U.trans D⟩
  .exact⟨u,z,D⟩
theorem uz{r:ReD}{size:Int}(h:R4 r size):R4 (fp r size).1 size/\(fp r size).1.labels=r.labels/\(fp r size).1.strat=r.strat:=by
 have l2:=h.l2;refine kP (m:=r.sorts.length) (s0:=r.size) _ r h (fun x z=>?_) oM List.prefix_rfl;unfold aO at z;obtain⟨a,I,y⟩:=List.mem_flatMap.1 z;unfold ic at y;obtain⟨b,u,rfl⟩:=List.mem_map.1 y;obtain⟨D,E⟩:=List.mem_filter.1 u;exact⟨List.mem_range.1 I,List.mem_range.1 D,by simpa using (dT E).symm⟩
theorem nZ:∀(k:Nat)(r:ReD)(size:Int){u:ReD},R4 r size->km k r size=some u->(∃m,R4 u m)/\u.labels=r.labels/\u.strat=r.strat
 |0,r,size,u,h,hr=>by rw[km]at hr;cases hr;exact⟨⟨_,h⟩,rfl,rfl⟩
 |k+1,r,size,u,h,hr=>by
  rw[km]at hr;split at hr
  .split at hr
   .obtain⟨E,I,J⟩:=uz h;obtain⟨y,z,D⟩:=nZ k _ (size+1) (E.later oM) hr;exact⟨y,z.trans I,D.trans J⟩
   .cases hr
  .cases hr;exact⟨⟨_,h⟩,rfl,rfl⟩
theorem gi{q:Q}{r:ReD}(h:kV q=some r):(∃m,R4 r m)/\r.strat=C0 q/\∃l,V4 (spQ q)=some l/\r.labels=l:=by
 unfold kV at h;split at h
 .cases h
 .rename_i l I;obtain⟨O,S,U⟩:=nZ 401 ⟨C0 q,l,[soZ],[0],[(0,0,0)]⟩ 1 ⟨rfl,rfl,rfl,rfl,fun k z u=>by simp at u;omega,fun k z u=>by simp at u;omega,fun i j x y D W J=>by
   have:=(gS J).1;simp at this;omega,fun k E=>by
   have:k=0:=by simpa using E
   subst this;show(0:Int)<=1;omega,by simp⟩ h
  exact⟨O,U,l,I,S⟩
def SlO(H:d8)(F:Nat->Prop)(sz:Nat){α:Type}(R:LV->α->Prop)(v:Value)(l:List α):Prop:=
 (v=nS/\l=[])\/
 ∃b o c,v= .slice (some ⟨b,o,none⟩) l.length c/\
  (l=[]\/∃cs,F b/\H.get b=some (.cells cs true sz)/\o+l.length*sz<=cs.length/\∀(i:Nat) a,l[i]?=some a->R ((cs.drop (o+i*sz)).take sz) a)
theorem SlO.mono{H H':d8}{F F':Nat->Prop}{sz:Nat}{α:Type}{R:LV->α->Prop}{v:Value}{l:List α}(h:SlO H F sz R v l)(E:∀j,F j->H'.get j=H.get j) (D:∀j,F j->F' j):SlO H' F' sz R v l:=by
 rcases h with h|⟨b,o,c,I,h⟩
 .exact .inl h
 .exact .inr ⟨b,o,c,I,h.imp id fun⟨cs,u,y,z⟩=>⟨cs,D _ u,(E _ u).trans y,z⟩⟩
theorem SlO.slf{H:d8}{F:Nat->Prop}{sz:Nat}{α:Type}{R:LV->α->Prop}{v:Value}{l:List α}(h:SlO H F sz R v l):SlF H F sz R v l:=by
 rcases h with h|⟨b,o,c,D,h⟩
 .exact .inl h
 .exact .inr ⟨b,o,c,D,h.imp id fun⟨cs,u,y,z⟩=>⟨cs,true,u,y,z⟩⟩
theorem u6.slo{H:d8}{lo sz:Nat}{α:Type}{R:LV->α->Prop}{v:Value}{l:List α}(h:u6 H lo sz R v l):SlO H (fun j=>lo<=j/\j<H.next) sz R v l:=by
 obtain⟨cs,y,z⟩:=h;rcases y with⟨rfl,u,rfl⟩|⟨b,c,rfl,u,D,I⟩
 .exact .inl ⟨rfl,by simpa using u⟩
 .refine .inr ⟨b,0,c,rfl,.inr ⟨cs,⟨D,u7 u⟩,u,oM,fun i a E=>?_⟩⟩;rw[Nat.zero_add];exact z.2 i a E
def EvO(H:d8)(F:Nat->Prop)(cs:LV)(e:EvD):Prop:=∃v,cs=[iV e.kind,.string e.space,.string e.loc,v,.string e.text]/\SlO H F 3 (w9 atE) v e.attrs
theorem EvO.mono{H H':d8}{F F':Nat->Prop}{cs:LV}{e:EvD}(h:EvO H F cs e)(D:∀j,F j->H'.get j=H.get j) (z:∀j,F j->F' j):EvO H' F' cs e:=by
 obtain⟨v,u,y⟩:=h;exact⟨v,u,y.mono D z⟩
structure ip(lo:Nat)(H:d8)(v:Value)(l:List EvD)(G:Nat->Prop):Prop where
 own:u6 H lo 5 (EvO H G) v l
 fr:∀j,G j->lo<=j/\j<H.next/\¬l7 v j
theorem ip.keep{lo:Nat}{H H':d8}{v:Value}{l:List EvD}{G:Nat->Prop}(h:ip lo H v l G)(u:i6 H.next H H'):ip lo H' v l G:=by
 have:=u.next;exact⟨(h.own.imp fun cs e q=>q.mono (fun j y=>u.get j (h.fr j y).2.1) (fun _ h=>h)).keep u,fun j y=>by have:=h.fr j y;exact⟨this.1,oM,this.2.2⟩⟩
theorem ip.app{lo n:Nat}{H:d8}{v x:Value}{l l2:List EvD}{G G2:Nat->Prop}(h:ip lo H v l G)(J:SlI H n 5 (EvO H G2) x l2)(D:∀j,G2 j->lo<=j/\j<H.next/\¬l7 v j) (hl:l.length+l2.length<=1000000) (E:lo<=H.next):
  Ret (C2 prog H [35,35] v x) H fun v' H'=>ip lo H' v' (l++l2) (fun j=>G j\/G2 j)/\ak lo v H v' H':=by
 have U:u6 H lo 5 (EvO H (fun j=>G j\/G2 j)) v l:=h.own.imp fun cs e q=>q.mono (fun _ _=>rfl) (fun _=> .inl);have W:SlI H n 5 (EvO H (fun j=>G j\/G2 j)) x l2:=J.mono (fun _ _=>rfl) lR (fun cs e q=>q.mono (fun _ _=>rfl) (fun _=> .inr));obtain⟨v',I,H',X,r2,r3,z⟩:=U.appendF (P:=prog) (t:=35) (by exact lQ.2.2.2.2.2.2) S9.1 S9.2.1 S9.2.2.1 oM oM W oM E;have hn:=z.next;have u:∀j,(G j\/G2 j)->lo<=j/\j<H.next/\¬l7 v j:=fun j y=>y.elim (h.fr j) (D j);refine⟨v',I,H',X,r2,⟨r3.imp fun cs e q=>q.mono (fun j y=>z.but j (u j y).2.1 (u j y).2.2) (fun _ h=>h),fun j y=>?_⟩,z⟩;obtain⟨O,k2,S⟩:=u j y;refine⟨O,oM,fun q=>?_⟩;rcases z.new j q with q|q
 .exact S q
 .omega
def wE:EvD:=⟨3,eB,eB,[],eB⟩
def bn(r:ReD):Nat->Int->List EvD
 |0,_=>[]
 |n+1,k=>if k<=0\/(r.sorts.length:Int)<=k then [] else
  match r.how[k.toNat]? with
  |some (i,a,b)=>match r.labels[i.toNat]? with
   |some e=>([e]++(if e.kind=1 then bn r n a++[wE] else []))++bn r n b
   |none=>[]
  |none=>[]
theorem gu{r:ReD}{m:Int}(J:R4 r m)(u:∀x∈r.size,0<=x/\x<=200):∀(n:Nat)(k:Int),((bn r n k).length:Int)<=2*r.size.getD k.toNat 0:=by
 have h:∀i,0<=r.size.getD i 0:=fun i=>by
  rw[List.getD_eq_getElem?_getD];cases O:r.size[i]? with
  |none=>exact Int.le_refl _
  |some x=>exact(u x (mG O)).1
 intro n;induction n with
 |zero=>intro k;have:=h k.toNat;simp only[bn,List.length_nil];omega
 |succ n y=>
  intro k;rw[bn];split
  .have:=h k.toNat;simp only[List.length_nil];omega
  .rename_i hk;obtain⟨i,a,b,e,z,D,S,U,W,X,f7⟩:=J.from_ k.toNat oM oM;rw[z];simp only[Int.toNat_natCast];rw[D];have E:=y a;have I:=y b;rw[Int.toNat_natCast]at E I;have za:=h a;simp only[List.length_append,List.length_singleton];split
   .simp only[List.length_append,List.length_singleton];omega
   .simp only[List.length_nil];omega
theorem gV{r:ReD}{m:Int}(E:R4 r m):∀(n u:Nat)(k:Int),k.toNat<n->k.toNat<u->bn r n k=bn r u k:=by
 intro n;induction n with
 |zero=>intro u k h;omega
 |succ n y=>
  intro u k h W;obtain⟨p,rfl⟩:∃p,u=p+1:=⟨u-1,oM⟩
  rw[bn,bn];split
  .rfl
  .rename_i X;obtain⟨i,a,b,e,z,D,I,J,O,S,U⟩:=E.from_ k.toNat oM oM;rw[z];simp only[Int.toNat_natCast];rw[D];have ta:(a:Int).toNat=a:=tN a;have tb:(b:Int).toNat=b:=tN b;simp only;rw[y p a oM oM,y p b oM oM]
theorem cT.mono{H H':d8}{F F':Nat->Prop}{D E:LV->Q->Prop}{z:LV}{r:ReD}(h:cT H F D E z r)(y:∀j,F j->H'.get j=H.get j) (u:∀j,F j->F' j):cT H' F' D E z r:=by
 obtain⟨X,vl,w1,w2,w3,I,J,O,S,U,W⟩:=h;exact⟨X,vl,w1,w2,w3,I,J.mono y u iF iF,O.mono y u (fun _ _ q=>y9 _ _ _ _ _ _ q y u),S.mono y u iF,U.mono y u iF,W.mono y u iF⟩
theorem ip.low{lo:Nat}{H:d8}{v:Value}{l:List EvD}{G:Nat->Prop}(h:ip lo H v l G)(n:Nat):ip lo ⟨H.bs,n⟩ v l G:=
 ⟨(h.own.imp fun cs e q=>q.mono (fun _ _=>rfl) (fun _ h=>h)).low n,h.fr⟩
def vY(H:d8)(l:List EvD)(v:Value)(H':d8):Prop:=(∃G,ip H.next H' v l G)/\i6 H.next H H'
theorem JB(Rp Rt:LV->Q->Prop)(r:ReD)(m:Int)(hg:R4 r m)(c8:∀x∈r.size,0<=x/\x<=200) (j4:∀e∈r.labels,e.attrs.length<=1000000):∀(n:Nat)(k:Int)(H:d8)(y:LV),k.toNat<=n->cT H (· <H.next) Rp Rt y r->y.length=12->y.all oC=true->
  Ret (CL prog t6 14 [.agg y.toArray,iV k] H) H (vY H (bn r (n+1) k)):=by
 intro n;induction n using Nat.strongRecOn with
 |ind n ih=>
 intro k H y o0 hR a6 E;have j0:=hR;obtain⟨rs,vl,w1,w2,w3,a5,o3,e1,k5,o4,d9⟩:=hR;have c9:rs.length=8:=by rw[a5]at a6;simpa using a6
 have q8:y[8]?=some vl:=by rw[a5,List.getElem?_append_right oM,c9];rfl
 have q9:y[9]?=some w1:=by rw[a5,List.getElem?_append_right oM,c9];rfl
 have f8:y[11]?=some w3:=by rw[a5,List.getElem?_append_right oM,c9];rfl
 obtain⟨sa,sc,rfl⟩:=k5.slice;obtain⟨la,lc,rfl⟩:=e1.slice;obtain⟨ha,hc,rfl⟩:=d9.slice;obtain⟨H1,I,n1,g1,s1⟩:=pushF H (bC y 1);rw[j7 QA rfl _ sM,bn];have c3:vY H [] (nS) H:=⟨⟨fun _=>False,⟨[],.inl ⟨rfl,rfl,rfl⟩,D2.nil⟩,fun j z=>z.elim⟩,i6.refl _ _⟩
 rcases b1:decide (k<=0)with _|_
 .have m3:=dF b1;rcases b2:decide ((r.sorts.length:Int)<=k)with _|_
  .have m4:=dF b2;rw[if_neg oM];obtain⟨i,a,b,e,f1,f2,f3,f4,f5,f6,f7⟩:=hg.from_ k.toNat oM oM;rw[f1];simp only[Int.toNat_natCast];rw[f2];simp only;have o2:=hg.l3;have n0:=(gS f2).1;obtain⟨hw,hb,ho,m9,l8,k1,hx,_,rfl,i2,k2,l5,a8,m7,j1⟩:=d9.row (i:=k.toNat) oM;rw[f1]at hx;cases hx;obtain rfl:k1=hoE ((i:Int),(a:Int),(b:Int)):=j1;obtain⟨ev,lb,lo,k6,e9,D,e3,_,rfl,i3,k3,l6,a9,m8,j2⟩:=e1.row (i:=i) oM;rw[f2]at e3;cases e3;obtain⟨av,a1,e2⟩:=id j2;have b3:D.length=5:=by rw[a1];rfl
   have b7:D.all oC=true:=by
    obtain⟨aa,ac,rfl⟩:=e2.slice;rw[a1];rfl
   have o5:D[0]?=some (.int .i64 e.kind):=by rw[a1];rfl
   have e4:D[3]?=some av:=by rw[a1];rfl
   have o1:((k.toNat:Nat):Int)=k:=Int.toNat_of_nonneg oM;obtain⟨H2,J⟩:=eY (H1.push (bC [iV 0,iV 0,iV 0] 1));have n2:H2.next=H.next+2:=by rw[J,i5,n1]
   have x2:H2.get (H.next+1)=cE [iV 0,iV 0,iV 0] 1:=by rw[J,<-n1];exact j9
   obtain⟨H3,O⟩:=eY (H2.put (H.next+1) (bC [iV i,iV a,iV b] 1));have n3:H3.next=H.next+2:=by rw[O,t5,n2]
   have x3:H3.get (H.next+1)=cE [iV i,iV a,iV b] 1:=by rw[O];exact j5 oM
   have y3:∀j,j<H.next+1->H3.get j=H1.get j:=fun j z=>by rw[O,j6 oM,J,i7 oM]
   obtain⟨H4,S⟩:=eY (H3.push (bC [iV 0,.string eB,.string eB,nS,.string eB] 1));have n4:H4.next=H.next+3:=by rw[S,i5,n3]
   have x4:H4.get (H.next+2)=cE [iV 0,.string eB,.string eB,nS,.string eB] 1:=by rw[S,<-n3];exact j9
   obtain⟨H5,U⟩:=eY (H4.put (H.next+2) (bC D 1));have n5:H5.next=H.next+3:=by rw[U,t5,n4]
   have x5:H5.get (H.next+2)=cE D 1:=by rw[U];exact j5 oM
   have y5:∀j,j<H.next+2->H5.get j=H3.get j:=fun j z=>by rw[U,j6 oM,S,i7 oM]
   have z5:∀j,j<H.next->H5.get j=H.get j:=fun j z=>by rw[y5 j oM,y3 j oM,s1.get j z]
   have s5:i6 H.next H H5:=by
    rw[U,S,O,J];exact s1.trans ((((i6.push oM).trans (i6.put oM)).trans (i6.push (by rw[t5,i5];omega))).trans (i6.put oM))
   obtain⟨v2,h2,H6,g0,c5,d6,s6⟩:=zk (w9 atE) H5 H.next av e.attrs oM (e2.mono (fun j z=>z5 j z) (fun _ h=>h) iF) (j4 e (mG f2));have n6:=s6.next;obtain⟨u,a2⟩:=eY (D.set 3 v2);have b0:u.length=5:=by rw[a2];simp [b3]
   obtain⟨o8,o9,b6⟩:=d6.slice;have f0:Value.oneCell' v2=true:=by rw[b6];rfl
   have d2:v2.cells.toList=[v2]:=by rw[b6];rfl
   have a3:u=[iV e.kind,.string e.space,.string e.loc,v2,.string e.text]:=by rw[a2,a1];rfl
   have h9:u.all oC=true:=by rw[a3,b6];rfl
   have g5:splice D 3 [v2]=u:=by rw[a2,a1];rfl
   have g4:splice [iV 0,.string eB,.string eB,nS,.string eB] 0 D=D:=by rw[a1];rfl
   have g9:y.take 12=y:=List.take_of_length_le oM;have o7:D.take 5=D:=List.take_of_length_le oM;have g7:u.take 5=u:=List.take_of_length_le oM;have x6:=(s6.get (H.next+2) oM).trans x5;obtain⟨H7,W⟩:=eY (H6.put (H.next+2) (bC u 1));have n7:H7.next=H6.next:=by rw[W,t5]
   have x7:H7.get (H.next+2)=cE u 1:=by rw[W];exact j5 oM
   have d3:u[0]?=some (.int .i64 e.kind):=by rw[a3];rfl
   obtain⟨H8,X⟩:=eY (H7.push (bC u 5));have n8:H8.next=H6.next+1:=by rw[X,i5,n7]
   have d1:bsA prog (some 51) H7 1 [(0,.agg u.toArray)]=some (sL H7.next 1 1,H8):=by
    rw[X,a3,b6];simp only[C7,S9,C8];rfl
   have x8:H8.get (H.next+2)=cE u 1:=by rw[X,i7 oM];exact x7
   have b8:=(s1.get hb i2).trans k2;have b9:H3.get lb=some (.cells k6 e9 5):=by rw[y3 lb oM,s1.get lb i3];exact k3
   have l4:=y3 H.next oM;have g3:=l4.trans g1;have y8:∀j,j<H.next+2->H8.get j=H5.get j:=fun j z=>by rw[X,i7 oM,W,j6 oM,s6.get j oM]
   have g8:H8.get H.next=cE y 1:=by rw[y8 _ oM,y5 _ oM];exact g3
   have h8:H8.get (H.next+1)=cE [iV i,iV a,iV b] 1:=by rw[y8 _ oM,y5 _ oM];exact x3
   have z8:∀j,j<H.next->H8.get j=H.get j:=fun j z=>by rw[y8 j oM,z5 j z]
   have e6:H1.low=H.next:=by rw[I];rfl
   have e7:H.next<=H5.low:=by rw[U,A4,S,l9,O,A4,J,l9,e6];omega
   have m2:H.next<=H6.low:=s6.lowAll H.next oM e7;have c0:H.next<=H8.low:=by rw[X,l9,W,A4];omega
   have s8:i6 H.next H H8:=⟨oM,fun k hk q=>oM,z8⟩
   have m1:=gu hg c8 (b+1) b;have m0:=gu hg c8 (a+1) a;have g6:∀i,r.size.getD i 0<=200:=fun i=>by
    rw[List.getD_eq_getElem?_getD];cases hq:r.size[i]? with
    |none=>decide
    |some x=>exact(c8 x (mG hq)).2
   have zb:=g6 (b:Int).toNat;have za:=g6 (a:Int).toNat;have d7:∀Hx:d8,i6 H.next H Hx->cT Hx (· <Hx.next) Rp Rt y r:=fun Hx hx=>j0.mono (fun j z=>hx.get j z) (fun j z=>by have:=hx.next;omega);have O0:ip H.next H8 (sL H7.next 1 1) [e] (fun j=>H5.next<=j/\j<H6.next):=by
    refine⟨⟨u,.inr ⟨H7.next,1,rfl,by rw[X];exact j9,oM,b0⟩,D2.one b0 ⟨v2,a3,d6.slo.mono (fun j z=>?_) (fun _ h=>h)⟩⟩,fun j z=>⟨oM,oM,by rw[E6];omega⟩⟩;rw[X,i7 oM,W,j6 oM]
   have d4:∀(Hc:d8)(w:Value)(l:List EvD)(G:Nat->Prop),i6 H.next H Hc->H.next<=Hc.low->ip H.next Hc w l G->1<=l.length->l.length<=1000->
     ∃v h v' h',CL prog t6 14 [.agg y.toArray,iV (b:Int)] Hc=dL v h/\C2 prog (h.getD Hc) [35,35] w v=dL v' h'/\Ret (some (D6 v' H (h'.getD (h.getD Hc)))) H (vY H (l++bn r n b)):=by
    intro Hc w l G sc lc hO l1 l2;have nc:=sc.next;obtain⟨v3,h3,H9,b4,c4,⟨G3,O3⟩,s9⟩:=ih b oM (b:Int) Hc y (by rw[Int.toNat_natCast];exact lR) (d7 Hc sc) a6 E;have n9:=s9.next;obtain⟨v4,h4,h7,ra,k8,O4,b5⟩:=(hO.keep s9).app (x:=v3) (n:=H9.next) O3.own.sl (fun j z=>by
     have:=O3.fr j z;exact⟨oM,this.2.1,fun q=>by have:=(hO.own.lt q).2;omega⟩) oM oM
    have o6:=b5.next;have b5:=b5.stay;refine⟨v3,h3,v4,h4,b4,by rw[c4];exact ra,?_⟩;rw[c4,k8];have k0:bn r (b+1) b=bn r n b:=gV hg _ _ _ (by rw[Int.toNat_natCast];omega) (by rw[Int.toNat_natCast];omega);rw[k0]at O4;have hs:i6 H.next H h7:=sc.trans ((s9.weaken oM).trans b5);refine E1 (fun k4 _=>?_) ⟨⟨_,O4.low _⟩,hs.ret (b5.lowAll _ lR (s9.lowAll _ oM lc))⟩
    exfalso
    obtain⟨m5,i1,m6⟩:=O4.own;rcases i1 with⟨_,h0,_⟩|⟨b',c',rfl,_⟩
    .rw[List.length_append]at h0;omega
    .simp [L9,na1,na0]at k4
   rcases bk:decide (e.kind=1)with _|_
   .have c6:=dF bk;rw[if_neg c6,List.append_nil];obtain⟨v,h,v',h',b4,ra,a4⟩:=d4 H8 _ [e] _ s8 c0 O0 sM sM;refine J30 E I.symm b1 b2 g1 q8 q9 f8 n1 J.symm x2 a8 b8 O.symm n3 (aI x3 g3) (aI b9 a9) (aI S.symm x4) (aI b3 b7) (aI g4 U.symm) (aI x5 e4) (aI g0 c5) (aI x6 f0) (aI d2 g5) (aI W.symm x7) (aI g7 d1) (aI x8 d3) (aI bk g8) (aI h8 g9) (aI b4 ra) ?_;exact a4
   .have c6:=dT bk;rw[if_pos c6];obtain⟨v1,h1,Ha,f9,d0,⟨G1,O1⟩,a7⟩:=ih a oM (a:Int) H8 y (by rw[Int.toNat_natCast];exact lR) (d7 H8 s8) a6 E;have na:=a7.next;obtain⟨v5,h5,Hb,k7,g2,O5,w5⟩:=(O0.keep a7).app (x:=v1) (n:=Ha.next) O1.own.sl (fun j z=>by
     have:=O1.fr j z;exact⟨oM,this.2.1,by rw[E6];omega⟩) (by rw[List.length_singleton];omega) oM
    have nb:=w5.next;obtain⟨Hk,d5,nk,-,sk⟩:=pushE Hb (bC [iV 3,.string eB,.string eB,nS,.string eB] 5);have i0:bsA prog (some 51) Hb 1 [(0,.agg #[iV 3,.string eB,.string eB,nS,.string eB])]=some (sL Hb.next 1 1,Hk):=by
     rw[d5];simp only[C7,S9,C8];rfl
    have Ok:u6 Hk H.next 5 (EvO Hk fun _=>False) (sL Hb.next 1 1) [wE]:=by
     rw[d5];exact u6.fresh rfl oM (D2.one rfl ⟨_,rfl,.inl ⟨rfl,rfl⟩⟩)
    obtain⟨v6,h6,Hd,rc,k9,O6,w6⟩:=(O5.keep sk).app (x:=sL Hb.next 1 1) (n:=Hk.next) (G2:=fun _=>False) Ok.sl (fun j z=>z.elim) (by simp only[List.length_append,List.length_singleton];omega) oM;have nd:=w6.next;have sd:i6 H.next H Hd:=s8.trans ((a7.weaken oM).trans (w5.stay.trans ((sk.weaken oM).trans w6.stay)));have e8:H.next<=Hd.low:=w6.stay.lowAll _ lR (sk.lowAll _ oM (w5.stay.lowAll _ lR (a7.lowAll _ oM c0)));have yd:∀j,j<H.next+2->Hd.get j=H8.get j:=fun j z=>by
     have e5:¬l7 v5 j:=fun q=>by
      rcases w5.new j q with q|q
      .rw[E6]at q;omega
      .omega
     rw[w6.but j oM e5,sk.get j oM,w5.but j oM (by rw[E6];omega),a7.get j oM]
    have gd:=(yd H.next oM).trans g8;have hd:=(yd (H.next+1) oM).trans h8;have ga:Ha.get (H.next+1)=cE [iV i,iV a,iV b] 1:=(a7.get _ oM).trans h8;obtain⟨v,h,v',h',b4,ra,a4⟩:=d4 Hd v6 _ _ sd e8 O6 (by simp only[List.length_append,List.length_singleton];omega) (by simp only[List.length_append,List.length_singleton];omega);have j3:bn r (a+1) a=bn r n a:=gV hg _ _ _ (by rw[Int.toNat_natCast];omega) (by rw[Int.toNat_natCast];omega);rw[j3,List.append_assoc [e]]at a4;refine J30 E I.symm b1 b2 g1 q8 (aI q9 f8) (aI n1 J.symm) (aI x2 a8) (aI b8 O.symm) (aI n3 x3) (aI g3 b9) (aI a9 S.symm) (aI x4 b3) (aI b7 g4) (aI U.symm x5) (aI e4 g0) (aI c5 x6) (aI f0 d2) (aI g5 W.symm) (aI x7 g7) (aI d1 x8) (aI d3 bk) (aI g8 h8) (aI g9 f9) (aI d0 k7) (aI g2 i0) (aI rc k9) (aI gd hd) (aI b4 ra) ?_;exact a4
  .rw[if_pos (.inr (dT b2))];refine J6 E I.symm b1 b2 g1 q9 ?_;have c7:H.next<=H1.low:=by rw[I];exact lR
   refine E1 (fun _ _=>c3) ?_;exact⟨⟨fun _=>False,⟨[],.inl ⟨rfl,rfl,rfl⟩,D2.nil⟩,fun j z=>z.elim⟩,s1.ret c7⟩
 .rw[if_pos (.inl (dT b1))];refine J3 E I.symm b1 ?_;have c7:H.next<=H1.low:=by rw[I];exact lR
  refine E1 (fun _ _=>c3) ?_;exact⟨⟨fun _=>False,⟨[],.inl ⟨rfl,rfl,rfl⟩,D2.nil⟩,fun j z=>z.elim⟩,s1.ret c7⟩
def jC(r:ReD)(e:EvD)(f n:Int):Int:=if R5 r.sorts e.kind f n then ixG (fun y=>aP (I4 r.strat e (r.sorts.getD f.toNat soZ) (r.sorts.getD n.toNat soZ)) y) r.sorts 0 else -1
theorem Fc(Hs:d8)(lo K:Nat)(r:ReD)(N:Nat)(z:WfR r N)(H:d8)(u:LV)(hR:cT H (· <H.next) (QR Hs lo K false) (QR Hs lo K true) u r)(f3:lo<=H.next)(b8:∀j,j<lo->H.get j=Hs.get j) (D:u.all oC=true) (el:LV) (e:EvD) (he:EvF H (· <H.next) el e) (b7:e.attrs.length<=1000000) (f n:Int):
  CL prog t6 18 [.agg u.toArray,.agg el.toArray,iV f,iV n] H=some (.int .i64 (jC r e f n),none):=by
 obtain⟨rs,vl,w1,w2,w3,I,a8,f2,c7,f4,f0⟩:=hR;obtain⟨pa,pc,ga,gc,xa,xc,ea,ec,ta,tc,c5,_⟩:=F1 a8;have b2:rs.length=8:=by rw[c5];rfl
 have b1:u.length=12:=by rw[I];simp [b2]
 have q9:u[9]?=some w1:=by rw[I,List.getElem?_append_right oM,b2];rfl
 obtain⟨av,X,c6⟩:=id he;have c9:el.length=5:=by rw[X];rfl
 have W:el.all oC=true:=by
  obtain⟨aa,ac,rfl⟩:=c6.slice;rw[X];rfl
 have b4:el[0]?=some (.int .i64 e.kind):=by rw[X];rfl
 have d0:u.take 12=u:=List.take_of_length_le oM;have b3:el.take 5=el:=List.take_of_length_le oM;have c8:ldC (some true) (some 8) 0 u=some (.agg rs.toArray):=by
  rw[eW _ _ _ oM,I,List.drop_zero,List.take_append_of_le_length oM,List.take_of_length_le oM]
 obtain⟨H1,E,n1,-⟩:=pushF H (bC u 1);obtain⟨H2,y⟩:=eY (H1.push (bC el 1));have n2:H2.next=H.next+2:=by rw[y,i5,n1]
 have hS:i6 H.next H H2:=by rw[y,E];exact(i6.first H _).trans (i6.push (by rw[i5];exact Nat.le_succ _))
 have g1:H2.get H.next=cE u 1:=by rw[y,i7 oM,E];exact j9
 have g2:H2.get (H.next+1)=cE el 1:=by rw[y,<-n1];exact j9
 have d3:H2.low=H.next:=by rw[y,E];rfl
 have J:SlI H2 H2.next 3 (w9 soE) w1 r.sorts:=c7.mono (fun j S=>hS.get j S) (fun j S=>oM) iF;have U:=ET H2 H.next u true 1 g1 r.sorts w1 J q9 el e c9 W b4 f n;rw[j7 QD rfl _ sM,jC];rcases bm:R5 r.sorts e.kind f n with _|_
 .rw[bm]at U;exact J8 D W E.symm n1 y.symm g2 b3 U trivial
 .rw[bm]at U;have a3:=bm;simp only[R5,knB,Bool.and_eq_true,decide_eq_true_eq]at a3;obtain⟨⟨⟨e4,e5⟩,e6,e7⟩,_⟩:=a3;have O:=J;obtain⟨sa,sc,rfl⟩:=J.slice;obtain⟨fi,f5,oa,d6,d4,b5,a9,_,e1,d9,a4,d1,a1,e8,c0⟩:=O.row (i:=f.toNat) oM;obtain⟨ne,f6,ob,d7,d5,b6,b0,_,e2,e3,a6,d2,a2,e9,c4⟩:=O.row (i:=n.toNat) oM;obtain rfl:b5=soE fi:=c0;obtain rfl:b6=soE ne:=c4;subst e1;cases e2;rw[a4]at a6;cases a6;have a5:r.sorts.getD f.toNat soZ=fi:=by rw[List.getD_eq_getElem?_getD,a9];rfl
  have a7:r.sorts.getD n.toNat soZ=ne:=by rw[List.getD_eq_getElem?_getD,b0];rfl
  have c3:=qw Hs lo K r.strat e fi ne (· <H.next) H2 rs el (a8.mono (fun j S=>hS.get j S) (fun _ h=>h) iF iF) (y9 _ _ _ _ _ _ he (fun j S=>hS.get j S) (fun _ h=>h)) (fun j S=>oM) (fun j S=>by rw[hS.get j oM];exact b8 j S) oM N z.n0 z.st (z.so fi (mG a9)) (z.so ne (mG b0)) b7 z.sz;have f1:=z.l1;have b9:=wX H2 u r.sorts _ O b1 D q9 oM (I4 r.strat e fi ne);rw[a5,a7];exact J17 D W E.symm n1 y.symm g1 g2 b3 d0 U c8 q9 a4 a1 a2 c3 b9 trivial
theorem PY(Rp Rt:LV->Q->Prop)(r:ReD)(H:d8)(h:LV)(hR:cT H (· <H.next) Rp Rt h r)(O:h.length=12)(I:h.all oC=true)(el:LV)(e:EvD)(he:EvF H (· <H.next) el e)(n:Int):
  CL prog t6 22 [.agg h.toArray,.agg el.toArray,iV n] H=some (.bool (R5 r.sorts e.kind 0 n),none):=by
 obtain⟨rs,vl,w1,w2,w3,z,a7,a6,W,a8,a5⟩:=hR;have a1:rs.length=8:=by rw[z]at O;simpa using O
 have q9:h[9]?=some w1:=by rw[z,List.getElem?_append_right oM,a1];rfl
 obtain⟨av,D,U⟩:=id he;have X:el.length=5:=by rw[D];rfl
 have E:el.all oC=true:=by
  obtain⟨aa,ac,rfl⟩:=U.slice;rw[D];rfl
 have S:el[0]?=some (.int .i64 e.kind):=by rw[D];rfl
 have a3:el.take 5=el:=List.take_of_length_le oM;obtain⟨H1,y,n1,-⟩:=pushF H (bC h 1);obtain⟨H2,u⟩:=eY (H1.push (bC el 1));have n2:H2.next=H.next+2:=by rw[u,i5,n1]
 have hS:i6 H.next H H2:=by rw[u,y];exact(i6.first H _).trans (i6.push (by rw[i5];exact Nat.le_succ _))
 have g1:H2.get H.next=cE h 1:=by rw[u,i7 oM,y];exact j9
 have g2:H2.get (H.next+1)=cE el 1:=by rw[u,<-n1];exact j9
 have a4:H2.low=H.next:=by rw[u,y];rfl
 have J:SlI H2 H2.next 3 (w9 soE) w1 r.sorts:=W.mono (fun j hj=>hS.get j hj) (fun j hj=>oM) iF;have a2:=ET H2 H.next h true 1 g1 r.sorts w1 J q9 el e X E S 0 n;rw[j7 QF rfl _ sM];exact J8 I E y.symm n1 u.symm g2 a3 a2 trivial
theorem Qe(Rp Rt:LV->Q->Prop)(r:ReD)(m:Int)(hg:R4 r m)(b8:∀x∈r.size,0<=x/\x<=200) (D:d8) (y:LV) (hR:cT D (· <D.next) Rp Rt y r) (b5:y.length=12) (E:y.all oC=true):∀(n:Nat)(k:Int)(H:d8),k.toNat<=n->i6 D.next D H->
  L8 (CL prog t6 16 [.agg y.toArray,iV k] H) H 5 (EvF D (· <D.next)) (bn r (n+1) k):=by
 intro n;induction n using Nat.strongRecOn with
 |ind n ih=>
 intro k H k0 X;obtain⟨rs,vl,w1,w2,w3,a4,k4,c9,k3,k5,c8⟩:=hR;have k6:=X.next;have d7:rs.length=8:=by rw[a4]at b5;simpa using b5
 have q8:y[8]?=some vl:=by rw[a4,List.getElem?_append_right oM,d7];rfl
 have b9:y[11]?=some w3:=by rw[a4,List.getElem?_append_right oM,d7];rfl
 obtain⟨la,lc,rfl⟩:=c9.slice;obtain⟨ha,hc,rfl⟩:=c8.slice;obtain⟨H1,W,n1,g1,s1⟩:=pushF H (bC y 1);have d4:H1.low=H.next:=by rw[W];rfl
 have k2:=hg.l3;rw[j7 QB rfl _ sM,bn];have i3:u6 H1 H.next 5 (EvF D (· <D.next)) (nS) []:=⟨[],.inl ⟨rfl,rfl,rfl⟩,D2.nil⟩
 rcases b1:decide (k<=0)with _|_
 .have j1:=dF b1;rcases b2:decide ((r.how.length:Int)<=k)with _|_
  .have j2:=dF b2;rw[if_neg oM];obtain⟨i,a,b,e,f1,f2,f3,f4,f5,f6,f7⟩:=hg.from_ k.toNat oM oM;rw[f1];simp only[Int.toNat_natCast];rw[f2];simp only;have j4:=(gS f2).1;obtain⟨hw,hb,ho,g6,d0,g7,hx,_,rfl,f8,g8,h9,h0,b7,g0⟩:=c8.row (i:=k.toNat) oM;rw[f1]at hx;cases hx;obtain rfl:g7=hoE ((i:Int),(a:Int),(b:Int)):=g0;have c0:=b7 0 oM;have c1:=b7 1 oM;have c2:=b7 2 oM;rw[Nat.add_zero]at c0;have e0:(hoE ((i:Int),(a:Int),(b:Int)))[0]?=some (.int .i64 i):=rfl;have e1:(hoE ((i:Int),(a:Int),(b:Int)))[1]?=some (.int .i64 a):=rfl;have e2:(hoE ((i:Int),(a:Int),(b:Int)))[2]?=some (.int .i64 b):=rfl;rw[e0]at c0;rw[e1]at c1;rw[e2]at c2;obtain⟨ev,lb,lo,h2,d6,u,d2,_,rfl,f9,g9,i0,a5,j3,c7⟩:=c9.row (i:=i) oM;rw[f2]at d2;cases d2;obtain⟨av,a1,d1⟩:=id c7;have a6:u.length=5:=by rw[a1];rfl
   have a9:u.all oC=true:=by
    obtain⟨aa,ac,rfl⟩:=d1.slice;rw[a1];rfl
   have d3:u[0]?=some (.int .i64 e.kind):=by rw[a1];rfl
   have k1:((k.toNat:Nat):Int)=k:=Int.toNat_of_nonneg oM;have e9:y.take 12=y:=List.take_of_length_le oM;have e8:u.take 5=u:=List.take_of_length_le oM;have e6:splice [iV 0,.string eB,.string eB,nS,.string eB] 0 u=u:=by rw[a1];rfl
   have J:H1.get hb=some (.cells g6 d0 3):=by rw[s1.get hb oM,X.get hb f8];exact g8
   have a3:H1.get lb=some (.cells h2 d6 5):=by rw[s1.get lb oM,X.get lb f9];exact g9
   obtain⟨H2,O⟩:=eY (H1.push (bC [iV 0,.string eB,.string eB,nS,.string eB] 1));have n2:H2.next=H.next+2:=by rw[O,i5,n1]
   have x2:H2.get (H.next+1)=cE [iV 0,.string eB,.string eB,nS,.string eB] 1:=by rw[O,<-n1];exact j9
   have y2:∀j,j<H.next+1->H2.get j=H1.get j:=fun j hj=>by rw[O,i7 oM]
   have g2:=(y2 H.next oM).trans g1;have b0:=(y2 hb oM).trans J;have b3:=(y2 lb oM).trans a3;obtain⟨H3,S⟩:=eY (H2.put (H.next+1) (bC u 1));have n3:H3.next=H.next+2:=by rw[S,t5,n2]
   have x3:H3.get (H.next+1)=cE u 1:=by rw[S];exact j5 oM
   have y3:∀j,j<H.next+1->H3.get j=H1.get j:=fun j hj=>by rw[S,j6 oM,y2 j hj]
   obtain⟨H4,U⟩:=eY (H3.push (bC u 5));have n4:H4.next=H.next+3:=by rw[U,i5,n3]
   have x4:H4.get (H.next+1)=cE u 1:=by rw[U,i7 oM];exact x3
   have y4:∀j,j<H.next+1->H4.get j=H1.get j:=fun j hj=>by rw[U,i7 oM,y3 j hj]
   have b4:H.next<=H4.low:=by rw[U,l9,S,A4,O,l9,d4];omega
   have g4:=(y4 H.next oM).trans g1;have a2:=(y4 hb oM).trans J;have s4:i6 H.next H H4:=⟨oM,fun k hk q=>oM,fun j hj=>by rw[y4 j oM,s1.get j hj]⟩
   have c4:bsA prog (some 51) H3 1 [(0,.agg u.toArray)]=some (sL H3.next 1 1,H4):=by
    obtain⟨aa,ac,rfl⟩:=d1.slice;rw[U,a1];simp only[C7,S9,C8];rfl
   have O0:u6 H4 H.next 5 (EvF D (· <D.next)) (sL H3.next 1 1) [e]:=by
    rw[U];exact u6.fresh rfl oM (D2.one a6 c7)
   have i2:=gu hg b8 (b+1) b;have i1:=gu hg b8 (a+1) a;have e7:∀i,r.size.getD i 0<=200:=fun i=>by
    rw[List.getD_eq_getElem?_getD];cases hq:r.size[i]? with
    |none=>decide
    |some x=>exact(b8 x (mG hq)).2
   have zb:=e7 (b:Int).toNat;have za:=e7 (a:Int).toNat;have c5:∀(Hc:d8)(w:Value)(l:List EvD),i6 H.next H Hc->H.next<=Hc.low->u6 Hc H.next 5 (EvF D (· <D.next)) w l->l.length<=1000->
     ∃v h Hd v' h',CL prog t6 16 [.agg y.toArray,iV (b:Int)] Hc=dL v h/\h.getD Hc=Hd/\C2 prog Hd [35,35] w v=dL v' h'/\L8 (some (D6 v' H (h'.getD Hd))) H 5 (EvF D (· <D.next)) (l++bn r n b):=by
    intro Hc w l sc lc hO l2;have nc:=sc.next;obtain⟨v3,h3,H9,a7,z,O3,s9⟩:=ih b oM (b:Int) Hc (by rw[Int.toNat_natCast];exact lR) (X.trans (sc.weaken oM));have n9:=s9.next;obtain⟨v4,h4,j0,ra,h8,O4,w4⟩:=(hO.keep s9).appendF (P:=prog) (t:=35) (by exact lQ.2.2.2.2.2.2) S9.1 S9.2.1 S9.2.2.1 oM oM O3.sl oM oM;have g5:bn r (b+1) b=bn r n b:=gV hg _ _ _ (by rw[Int.toNat_natCast];omega) (by rw[Int.toNat_natCast];omega);rw[g5]at O4;refine⟨v3,h3,H9,v4,h4,a7,z,ra,?_⟩;rw[h8];exact F0 O4 (sc.trans ((s9.weaken oM).trans w4.stay)) (w4.stay.lowAll _ lR (s9.lowAll _ oM lc))
   rcases bk:decide (e.kind=1)with _|_
   .have b6:=dF bk;rw[if_neg b6,List.append_nil];obtain⟨v,h,Hd,v',h',a7,z,ra,I⟩:=c5 H4 _ [e] s4 b4 O0 sM;refine J30 E W.symm b1 b2 g1 q8 b9 n1 J a3 c0 a5 O.symm x2 g2 b0 b3 a6 a9 e6 S.symm x3 e8 c4 x4 d3 (aI bk g4) (aI a2 c2) (aI e9 a7) (aI z ra) ?_;exact I
   .have b6:=dT bk;rw[if_pos b6];obtain⟨v1,h1,Ha,d9,c3,O1,a8⟩:=ih a oM (a:Int) H4 (by rw[Int.toNat_natCast];exact lR) (X.trans (s4.weaken oM));have na:=a8.next;obtain⟨v5,h5,Hq,h7,e3,O5,w5⟩:=(O0.keep a8).appendF (P:=prog) (t:=35) (by exact lQ.2.2.2.2.2.2) S9.1 S9.2.1 S9.2.2.1 oM oM O1.sl (by rw[List.length_singleton];omega) oM;have nq:=w5.next;obtain⟨v6,h6,Hd,rc,e4,O6,w6⟩:=O5.push1F (P:=prog) (t:=35) (cs:=[iV 3,.string eB,.string eB,nS,.string eB]) (a:=wE) (by exact lQ.2.2.2.2.2.2) S9.1 S9.2.1 S9.2.2.1 oM oM rfl ⟨_,rfl,.inl ⟨rfl,rfl⟩⟩ (by simp only[List.length_append,List.length_singleton];omega) oM;have nd:=w6.next;obtain⟨Hk,c6⟩:=eY (Hq.push (bC [iV 3,.string eB,.string eB,nS,.string eB] 5));rw[<-c6]at rc e4;have f0:bsA prog (some 51) Hq 1 [(0,.agg #[iV 3,.string eB,.string eB,nS,.string eB])]=some (sL Hq.next 1 1,Hk):=by
     rw[c6];simp only[C7,S9,C8];rfl
    have sd:i6 H.next H Hd:=s4.trans ((a8.weaken oM).trans (w5.stay.trans w6.stay));have d5:H.next<=Hd.low:=w6.stay.lowAll _ lR (w5.stay.lowAll _ lR (a8.lowAll _ oM b4));have yd:∀j,j<H.next+1->Hd.get j=H4.get j:=fun j hj=>by
     have e5:¬l7 v5 j:=fun q=>by
      rcases w5.new j q with q|q
      .rw[E6]at q;omega
      .omega
     rw[w6.but j oM e5,w5.but j oM (by rw[E6];omega),a8.get j oM]
    have gd:=(yd H.next oM).trans g4;have hd:=(yd hb oM).trans a2;obtain⟨v,h,He,v',h',a7,z,ra,I⟩:=c5 Hd v6 _ sd d5 O6 (by simp only[List.length_append,List.length_singleton];omega);have g3:bn r (a+1) a=bn r n a:=gV hg _ _ _ (by rw[Int.toNat_natCast];omega) (by rw[Int.toNat_natCast];omega);rw[g3,List.append_assoc [e]]at I;refine J30 E W.symm b1 b2 g1 q8 b9 n1 J a3 c0 a5 O.symm x2 g2 b0 (aI b3 a6) (aI a9 e6) (aI S.symm x3) (aI e8 c4) (aI x4 d3) (aI bk g4) (aI a2 c1) (aI c2 e9) (aI d9 c3) (aI h7 e3) (aI f0 rc) (aI e4 gd) (aI hd a7) (aI z ra) ?_;exact I
  .rw[if_pos (.inr (oN (dT b2)))];refine J6 E W.symm b1 b2 g1 b9 ?_;exact⟨_,none,H,rfl,rfl,⟨[],.inl ⟨rfl,rfl,rfl⟩,D2.nil⟩,i6.refl _ _⟩
 .rw[if_pos (.inl (dT b1))];refine J3 E W.symm b1 ?_;exact⟨_,none,H,rfl,rfl,⟨[],.inl ⟨rfl,rfl,rfl⟩,D2.nil⟩,i6.refl _ _⟩
def Ju:=nfF 6 Tryz.f6 [0,0]
def KO:t7:=ptA Ju [1,1,1,1,1,1,1,1]
def fn6:=hdF Ju [1,1,1,1,1,1,1,1] KO
def q0:Q:= .mk 1 eB eB eB [] []
noncomputable def l0:List EvD:=(V4 (spQ q0)).getD []
noncomputable def r0:ReD:=⟨C0 q0,l0,[(false,false,eB),(true,false,eB),(true,true,eB)],[0,1,1],[(0,0,0),(0,0,0),(1,0,0)]⟩
theorem Jy:kV q0=some r0:=kR
theorem row0:(bn r0 2 1).length=2:=kR
theorem OB:ixG (fun y=>aP soZ y) r0.sorts 0=0:=kR
theorem IC(H:d8)(lo k:Nat)(cs:LV)(q:Q)(W:lo<=H.next)(E:QR H lo k false cs q)(y:gl q=true->OkD false q/\nQ q<=1000):
  CL prog t6 10 [.agg cs.toArray] H=some (.bool (gl q&&lZ q),none):=by
 have O:=F7 E;have ldc:=N5 E;have l0:=E.len;simp only[qSz,bF]at l0;rw[l0]at ldc;obtain⟨D,u,n1,S,s1⟩:=pushF H (bC cs 1);have U:D.low=H.next:=by rw[u];rfl
 have z:QR D lo k false cs q:=E.mono (fun j hj=>s1.get j oM) lR;have h:=yn D lo k cs q oM z;rw[j7 Qz rfl _ sM];rcases b:gl q with _|_
 .rw[b]at h;exact J5 O u.symm S ldc h trivial
 .rw[b]at h;obtain⟨J,X⟩:=y b;have I:=yk D lo k cs q oM z J X;exact J6 O u.symm S ldc h I trivial
theorem JU(H:d8):CL prog gh 9 [] H=some (.bool true,none):=by
 have hq:QR ⟨H.bs,H.next⟩ 0 1 false [iV 1,nS,nS] q0:=⟨_,_,rfl,.inl ⟨rfl,rfl⟩,.inl ⟨rfl,rfl⟩,by decide,by decide,by decide,by decide,by decide,fun _=>⟨rfl,rfl,rfl⟩⟩
 have e9:OkD false q0:=⟨1,kR⟩
 obtain⟨v,h,S,f6,c6,u,er,rfl,s1,a4⟩:=EP 1 ⟨H.bs,H.next⟩ 0 _ q0 (Nat.zero_le _) hq e9 (by decide);rw[Jy]at a4;rcases a4 with⟨h0,_⟩|⟨r,h0,rfl,a9,hR⟩
 .cases h0
 cases h0;rw[j7 fn9 rfl _ sM];have d3:=hR;obtain⟨rs,vl,w1,w2,w3,z,f3,e4,b6,f4,e3⟩:=hR;obtain⟨pa,pc,ga,gc,xa,xc,ea,ec,ta,tc,a8,_⟩:=F1 f3;have c5:rs.length=8:=by rw[a8];rfl
 have J:u.length=12:=by rw[z];simp [c5]
 obtain⟨a1,c1,rfl⟩:=b6.slice;obtain⟨a2,c2,rfl⟩:=f4.slice;obtain⟨a3,c3,rfl⟩:=e3.slice;obtain⟨la,lc,rfl⟩:=e4.slice;have y:u.all oC=true:=by rw[z,a8];rfl
 have q9:u[9]?=some (.slice a1 r0.sorts.length c1):=by rw[z,List.getElem?_append_right oM,c5];rfl
 have f8:splice [nS,nS,nS,iV 0,iV 0,iV 0,nS,nS,nS,nS,nS,nS] 0 u=u:=by rw[z,a8];rfl
 have f9:u.take 12=u:=List.take_of_length_le oM;have nn:H.next<=S.next:=s1.next;obtain⟨H2,a5,n2,x2,-⟩:=pushE S (bC [nS,nS,nS,iV 0,iV 0,iV 0,nS,nS,nS,nS,nS,nS] 1);obtain⟨U,E⟩:=eY (H2.put S.next (bC u 1));have n3:U.next=S.next+1:=by rw[E,t5,n2]
 have x3:U.get S.next=cE u 1:=by rw[E];exact j5 oM
 have y3:∀j,j<S.next->U.get j=S.get j:=fun j X=>by rw[E,j6 oM,a5,i7 oM]
 have b3:cT U (· <U.next) (QR ⟨H.bs,H.next⟩ 0 1 false) (QR ⟨H.bs,H.next⟩ 0 1 true) u r0:=d3.mono y3 (fun j X=>oM);obtain⟨⟨m,d9⟩,_,l,hl,g1⟩:=gi Jy;have h4:=jr q0 hl;obtain⟨h6,g9,D,f7,c7,⟨G,c8⟩,O⟩:=(JB _ _ r0 m d9 a9.sb a9.at_ 1 1 U u (by decide) b3 J y).one;have I:SlI U U.next 3 (w9 soE) (.slice a1 r0.sorts.length c1) r0.sorts:=b6.mono y3 (fun j X=>oM) iF;obtain⟨x1,f5,o1,b1,g4,d1,b8,_,e1,h1,b4,g2,a7,h3,f1⟩:=I.row (i:=1) (by decide);obtain⟨g0,h5,o2,g8,g5,d2,c0,_,e2,h2,b5,g3,f0,d5,f2⟩:=I.row (i:=2) (by decide);subst e1;cases e2;rw[b4]at b5;cases b5;have c9:=d5 1 (by decide);have b9:x1=(true,false,eB):=by have:r0.sorts[1]?=some (true,false,eB):=rfl;rw[this]at b8;cases b8;rfl
 have c4:g0=(true,true,eB):=by have:r0.sorts[2]?=some (true,true,eB):=rfl;rw[this]at c0;cases c0;rfl
 subst b9 c4;obtain rfl:d1=soE (true,false,eB):=f1;obtain rfl:d2=soE (true,true,eB):=f2;have l3:r0.sorts.length=3:=rfl;have W:ldC (some true) (some 3) (o1+3) b1=some (.agg (soE (true,false,eB)).toArray):=a7;have b0:b1[o1+6+1]?=some (.bool true):=c9;have n4:=O.next;have x4:=(O.get S.next oM).trans x3;have d4:cT D (· <D.next) (QR ⟨H.bs,H.next⟩ 0 1 false) (QR ⟨H.bs,H.next⟩ 0 1 true) u r0:=b3.mono (fun j X=>O.get j X) (fun j X=>oM);have b7:SlI D D.next 3 (w9 soE) (.slice (some ⟨f5,o1,none⟩) r0.sorts.length c1) r0.sorts:=I.mono (fun j X=>O.get j X) oM iF;have hf:=aX (wX D u r0.sorts _ b7 J y q9 (by decide) soZ);rw[OB]at hf;have d6:EvF D (· <D.next) [iV 2,.string eB,.string eB,nS,.string ⟨#[120]⟩] ⟨2,eB,eB,[],⟨#[120]⟩⟩:=⟨_,rfl,.inl ⟨rfl,rfl⟩⟩
 have hn:=aX (Fc ⟨H.bs,H.next⟩ 0 1 r0 _ a9 D u d4 (Nat.zero_le _) (fun j X=>oM) y _ _ d6 (by decide) 0 2);have e8:jC r0 ⟨2,eB,eB,[],⟨#[120]⟩⟩ 0 2= -1:=kR;rw[e8]at hn;obtain⟨g6,g7,b2⟩:=c8.own.slice;rw[row0]at b2;subst b2;have d7:CL prog gh 17 [.agg u.toArray,.agg #[.bool false,.bool false,.string eB]] D=some (.int .i64 0,none):=hf;have e7:CL prog gh 18 [.agg u.toArray,.agg #[iV 2,.string eB,.string eB,nS,.string ⟨#[120]⟩],iV 0,iV 2] D=some (.int .i64 (-1),none):=hn;have d0:A6 [Q5.bool,Q5.bool,Q5.str] (soE (true,false,eB)) [Value.bool true,Value.bool false,Value.string eB]=some true:=kR;have e5:H.next<=S.low:=by
  have:=s1.lowAll H.next lR lR;exact this
 have a6:H.next<=U.low:=by rw[E,A4,a5,l9];omega
 have e6:H.next<=D.low:=O.lowAll H.next oM a6;exact J21 f6 c6 J y f8 a5.symm x2 E.symm x3 q9 l3 b4 W b0 f9 f7 c7 x4 d7 e7 d0 trivial
theorem yL:∀(l:List Q)(n m:Int),n<=szL l n m
 |[],n,m=>by rw[szL];exact Int.le_refl _
 |x::l,n,m=>by
  rw[szL];split
  .have:=kA x (m-n) oM;have:=yL l (n+szQ x (m-n)) m;omega
  .exact Int.le_refl _
mutual
theorem zT:∀(q:Q)(m:Int),0<=m->szQ q m<=m->(nQ q:Int)<=szQ q m
 | .mk o s c v a b,m,hm,h=>by
  rw[szQ]at h ⊢;rw[nQ];have h1:=yL b (szL a 1 m) m;have h2:=sS a 1 m oM;have h3:=sS b (szL a 1 m) m h;omega
theorem sS:∀(l:List Q)(n m:Int),szL l n m<=m->n+(nL l:Int)<=szL l n m
 |[],n,m,h=>by rw[szL,nL];omega
 |x::l,n,m,h=>by
  rw[szL]at h ⊢;rw[nL];split at h
  .rename_i hn;rw[if_pos hn];have h1:=yL l (n+szQ x (m-n)) m;have h2:=zT x (m-n) oM oM;have h3:=sS l (n+szQ x (m-n)) m h;omega
  .omega
end
theorem iJ{q:Q}(h:gl q=true):OkD false q/\nQ q<=64:=by
 simp only[gl,Bool.and_eq_true,decide_eq_true_eq]at h;have:=zT q 64 oM h.1;exact⟨⟨16,h.2⟩,oM⟩
def AtW(cs:LV)(a:AtD):Prop:=cs=[.string a.space,.string a.loc,.string a.val]
def EvW(H:d8)(lo:Nat)(cs:LV)(e:EvD):Prop:=∃v,cs=[iV e.kind,.string e.space,.string e.loc,v,.string e.text]/\SlI H lo 3 AtW v e.attrs/\e.attrs.length<=1048576
abbrev vU(H:d8)(lo:Nat)(v:Value)(l:List EvD):Prop:=SlI H lo 5 (EvW H lo) v l
theorem EvW.mono{H H':d8}{lo u:Nat}(I:∀j,j<lo->H'.get j=H.get j) (y:lo<=u) {cs:LV} {e:EvD} (h:EvW H lo cs e):EvW H' u cs e:=by
 obtain⟨v,z,D,E⟩:=h;exact⟨v,z,D.mono I y iF,E⟩
theorem vU.mono{H H':d8}{lo y:Nat}{v:Value}{l:List EvD}(h:vU H lo v l)(z:∀j,j<lo->H'.get j=H.get j) (u:lo<=y):vU H' y v l:=
 SlI.mono h z u fun _ _ q=>q.mono z u
def AY(a b:AtD):Bool:=decide (a.space=b.space)&&(decide (a.loc=b.loc)&&decide (a.val=b.val))
def kK:List AtD->List AtD->Bool
 |a::l,b::m=>AY a b&&kK l m
 |_,_=>true
def Ba(a b:EvD):Bool:=decide (a.kind=b.kind)&&(decide (a.space=b.space)&&decide (a.loc=b.loc))&&decide (a.text=b.text)&&decide (a.attrs.length=b.attrs.length)&&kK a.attrs b.attrs
def qn:List EvD->List EvD->Bool
 |a::l,b::m=>Ba a b&&qn l m
 |_,_=>true
theorem AZ(a:AtD):AY a a=true:=by simp [AY]
theorem mP:∀l,kK l l=true
 |[]=>rfl
 |a::l=>by rw[kK,AZ,mP l];rfl
theorem Bb(a:EvD):Ba a a=true:=by simp [Ba,mP]
theorem mQ:∀l,qn l l=true
 |[]=>rfl
 |a::l=>by rw[qn,Bb,mQ l];rfl
theorem rj{H:d8}{lo:Nat}{v:Value}{l:List AtD}(I:SlI H lo 3 AtW v l){i:Nat}{a:AtD}(E:l[i]?=some a):
  ∃b o c cs own,v= .slice (some ⟨b,o,none⟩) l.length c/\b<lo/\H.get b=some (.cells cs own 3)/\ldC (some true) (some 3) (o+i*3) cs=some (.agg #[.string a.space,.string a.loc,.string a.val]):=by
 obtain⟨b,o,c,cs,own,h,u,y,z,D⟩:=I.at_ E;exact⟨b,o,c,cs,own,h,u,y,cq z D⟩
theorem Ct(H0:d8)(lo:Nat)(W X:Option Addr)(c1 c2 b1 b2:Nat)(z l2:List AtD)(r1 r2:LV)(hl:z.length=l2.length)(hn:z.length<=1048576)(h1:SlI H0 lo 3 AtW (.slice W z.length c1) z)(h2:SlI H0 lo 3 AtW (.slice X l2.length c2) l2)
  (g1:H0.get b1=cE r1 1) (g2:H0.get b2=cE r2 1) (k1:r1[3]?=some (.slice W z.length c1)) (k2:r2[3]?=some (.slice X l2.length c2)) (r:Bool):
  ∀k e H2,(∃i:Nat,k=z.length-i/\i<=z.length/\e.get 2=pT b1/\e.get 3=pT b2/\e.get 5=iV i/\H2=H0/\kK (z.drop i) (l2.drop i)=r)->
  w7 (LE prog t6 (.loop Nt) e H2) (fun o e H2=>H2=H0/\((o= .exit 0/\r=true)\/(o= .ret/\e.get 4= .bool false/\r=false))):=by
 refine i8 _ _ ?_;rintro k e H2 ⟨i,hk,hi,S,f3,f5,hH,I⟩;subst hH;rcases b:decide ((i:Int)<z.length)with _|_
 .have a3:=dF b;have:z.drop i=[]:=dN oM;rw[this,kK]at I;refine J5 S f5 g1 k1 b ?_
  .exact i9 ⟨rfl,.inl ⟨rfl,I.symm⟩⟩
  .intro a q m s h;cases h
 .have a3:=dT b;obtain⟨x,hx,a4⟩:=S6 (l:=z) (i:=i) oM;obtain⟨y,hy,a5⟩:=S6 (l:=l2) (i:=i) oM;rw[a4,a5,kK]at I;obtain⟨p1,o1,q1,a7,w1,e1,_,J,D⟩:=rj h1 hx;obtain⟨p2,o2,q2,a8,w2,e2,_,O,E⟩:=rj h2 hy;obtain⟨rfl,rfl⟩:W=some ⟨p1,o1,none⟩/\c1=q1:=by simpa using e1
  obtain⟨rfl,rfl⟩:X=some ⟨p2,o2,none⟩/\c2=q2:=by simpa using e2
  have a6:(i:Int)<l2.length:=oM;have nt:(i:Int).toNat=i:=tN i;rcases U:AY x y with _|_
  .have u:=U;rw[AY]at u;refine J13 S f3 f5 g1 g2 k1 k2 b J O D E u ?_;exact z9 ⟨rfl,.inr ⟨rfl,rfl,by rw[<-I,U];rfl⟩⟩
  .have u:=U;rw[AY]at u;refine J14 S f3 f5 g1 g2 k1 k2 b J O D E u @wrap_small ?_;exact i4 (k-1) oM ⟨i+1,oM,oM,S,f3,rfl,rfl,by rw[<-I,U];rfl⟩
theorem pG(H:d8)(lo:Nat)(x1 x2:LV)(a b:EvD)(a2:lo<=H.next)(h1:EvW H lo x1 a)(h2:EvW H lo x2 b):CL prog t6 38 [.agg x1.toArray,.agg x2.toArray] H=some (.bool (Ba a b),none):=by
 obtain⟨v1,rfl,y,U⟩:=h1;obtain⟨v2,rfl,D,a3⟩:=h2;obtain⟨p1,c1,rfl⟩:=y.slice;obtain⟨p2,c2,rfl⟩:=D.slice;rw[j7 Pm rfl _ sM,Ba];rcases u:decide (a.kind=b.kind)with _|_
 .exact J1 u trivial
 rcases E:(decide (a.space=b.space)&&decide (a.loc=b.loc))with _|_
 .exact J2 u E trivial
 rcases I:decide (a.text=b.text)with _|_
 .exact J3 u E I trivial
 have el:decide ((a.attrs.length:Int)=b.attrs.length)=decide (a.attrs.length=b.attrs.length):=decide_eq_decide.2 oM;rcases J:decide (a.attrs.length=b.attrs.length)with _|_
 .exact J5 u E I el J trivial
 refine J5 u E I el J ?_;have hl:=dT J;obtain⟨H0,h⟩:=eY ((d8.push ⟨H.bs,H.next⟩ (bC [iV a.kind,.string a.space,.string a.loc,.slice p1 a.attrs.length c1,.string a.text] 1)).push (bC [iV b.kind,.string b.space,.string b.loc,.slice p2 b.attrs.length c2,.string b.text] 1));rw[<-h];have X:i6 H.next H H0:=by rw[h];exact(i6.first H _).trans (i6.push (by rw[i5];show H.next<=H.next+1;omega))
 refine j8 (F:=fun z=>u5 _ _ _ (u9 (inBlock 0 z) _)=_) (Ct H0 lo p1 p2 c1 c2 H.next (H.next+1) a.attrs b.attrs _ _ hl U (y.mono (fun j hj=>X.get j oM) lR iF) (D.mono (fun j hj=>X.get j oM) lR iF)
  (by rw[h,i7 (by rw[i5];show H.next<H.next+1;omega)];exact j9) (by rw[h];exact y7 (by rw[i5];show H.next+1<=H.next+1/\H.next+1<=H.next+1;omega)) rfl rfl (kK a.attrs b.attrs) a.attrs.length _ _ ⟨0,rfl,oM,rfl,rfl,rfl,rfl,rfl⟩) ?_
 have a1:H.next<=H0.low:=by rw[h,l9,l9];exact lR
 rintro o e' H' ⟨W,⟨O,S⟩|⟨O,h4,S⟩⟩
 .exact J3 O S W trivial
 .exact J4 O h4 S W trivial
theorem yy(H0:d8)(lo:Nat)(v1 v2:Value)(u l2:List EvD)(hl:u.length=l2.length)(a4:lo<=H0.next)(hn:u.length<=2000000)(h1:vU H0 lo v1 u)(h2:vU H0 lo v2 l2)(r:Bool):
  ∀k e H2,(∃i:Nat,k=u.length-i/\i<=u.length/\e.get 0=v1/\e.get 1=v2/\e.get 5=iV i/\H2=H0/\qn (u.drop i) (l2.drop i)=r)->
  w7 (LE prog t6 (.loop MY) e H2) (fun o e H2=>H2=H0/\((o= .exit 0/\r=true)\/(o= .ret/\e.get 4= .bool false/\r=false))):=by
 refine i8 _ _ ?_;rintro k e H2 ⟨i,hk,hi,f0,f1,f5,hH,O⟩;subst hH;obtain⟨va,vc,a5⟩:=h1.slice;have J:=f0;rw[a5]at J;rcases b:decide ((i:Int)<u.length)with _|_
 .have a1:=dF b;have:u.drop i=[]:=dN oM;rw[this,qn]at O;refine J3 J f5 b ?_
  .exact i9 ⟨rfl,.inl ⟨rfl,O.symm⟩⟩
  .intro a q m s h;cases h
 .have a1:=dT b;obtain⟨x,hx,a2⟩:=S6 (l:=u) (i:=i) oM;obtain⟨y,hy,a3⟩:=S6 (l:=l2) (i:=i) oM;rw[a2,a3,qn]at O;obtain⟨p1,o1,q1,a7,w1,e1,_,S,W,R1⟩:=h1.at_ hx;obtain⟨p2,o2,q2,a8,w2,e2,_,U,X,R2⟩:=h2.at_ hy;have z:=cq W rfl;have D:=cq X rfl;have hc:=pG H2 lo _ _ x y a4 R1 R2;have E:=f0;have I:=f1;rw[e1]at E;rw[e2]at I;have a6:(i:Int)<l2.length:=oM;have nt:(i:Int).toNat=i:=tN i;rcases hq:Ba x y with _|_
  .rw[hq]at hc;refine J9 E I f5 b S U z D hc ?_;exact z9 ⟨rfl,.inr ⟨rfl,rfl,by rw[<-O,hq];rfl⟩⟩
  .rw[hq]at hc;refine J10 E I f5 b S U z D hc @wrap_small ?_;exact i4 (k-1) oM ⟨i+1,oM,oM,f0,f1,rfl,rfl,by rw[<-O,hq];rfl⟩
theorem Fx(H:d8)(lo:Nat)(I J:Value)(l:List EvD)(h:lo<=H.next)(S:l.length<=2000000)(u:vU H lo I l)(y:vU H lo J l):CL prog t6 15 [I,J] H=some (.bool true,none):=by
 obtain⟨U,c1,rfl⟩:=u.slice;obtain⟨W,c2,rfl⟩:=y.slice;have hz:d8.next ⟨H.bs,H.next⟩=H.next:=rfl;rw[j7 Pg rfl _ sM];refine J1 lQ ?_;refine j8 (F:=fun z=>u5 _ _ _ (u9 (inBlock 0 z) _)=_) (yy ⟨H.bs,H.next⟩ lo _ _ l l rfl h S (u.mono (fun _ _=>rfl) lR) (y.mono (fun _ _=>rfl) lR) true l.length _ _ ⟨0,rfl,oM,rfl,rfl,rfl,rfl,mQ _⟩) ?_;rintro o e' H' ⟨O,⟨D,E⟩|⟨D,X,E⟩⟩
 .exact J2 D O trivial
 .cases E
def R3(cs:LV)(a:AtD):Prop:=cs.length=3/\∀x∈cs,∃s,x= .string s
def EvS(H:d8)(F:Nat->Prop)(cs:LV)(e:EvD):Prop:=∃k s l v t,cs=[iV k,.string s,.string l,v,.string t]/\SlO H F 3 R3 v e.attrs
theorem SlO.imp{H:d8}{F:Nat->Prop}{sz:Nat}{α:Type}{R u:LV->α->Prop}{v:Value}{l:List α}(h:SlO H F sz R v l)(I:∀cs a,R cs a->u cs a):SlO H F sz u v l:=by
 rcases h with h|⟨b,o,c,O,h⟩
 .exact .inl h
 .exact .inr ⟨b,o,c,O,h.imp id fun⟨cs,y,z,D,E⟩=>⟨cs,y,z,D,fun i a J=>I _ _ (E i a J)⟩⟩
theorem EvO.s{H:d8}{F:Nat->Prop}{cs:LV}{e:EvD}(h:EvO H F cs e):EvS H F cs e:=by
 obtain⟨v,y,z⟩:=h;refine⟨_,_,_,v,_,y,z.imp fun cs a q=>?_⟩;obtain rfl:cs=atE a:=q;exact⟨rfl,fun x u=>by simp [atE]at u;rcases u with rfl|rfl|rfl<;>exact⟨_,rfl⟩⟩
theorem EvS.mono{H H':d8}{F F':Nat->Prop}{cs:LV}{e:EvD}(h:EvS H F cs e)(D:∀j,F j->H'.get j=H.get j) (z:∀j,F j->F' j):EvS H' F' cs e:=by
 obtain⟨k,s,l,v,t,u,y⟩:=h;exact⟨k,s,l,v,t,u,y.mono D z⟩
theorem zM{cs:LV}{q a n:Nat}{y:Value}:((cs.set q y).drop a).take n=if q<a then(cs.drop a).take n else((cs.drop a).take n).set (q-a) y:=by
 rw[List.drop_set];split
 .rfl
 .rw[List.take_set]
theorem R3.set{cs:LV}{q a:Nat}{s:ByteArray}{x:AtD}(h:R3 ((cs.drop a).take 3) x):R3 (((cs.set q (.string s)).drop a).take 3) x:=by
 rw[zM];split
 .exact h
 .refine⟨by rw[List.length_set];exact h.1,fun y u=>?_⟩;rcases List.mem_or_eq_of_mem_set u with k|k
  .exact h.2 y k
  .exact⟨s,k⟩
structure Aa(lo:Nat)(H:d8)(v:Value)(l:List EvD)(G:Nat->Prop):Prop where
 own:u6 H lo 5 (EvS H G) v l
 fr:∀j,G j->lo<=j/\j<H.next/\¬l7 v j
theorem ip.sp{lo:Nat}{H:d8}{v:Value}{l:List EvD}{G:Nat->Prop}(h:ip lo H v l G):Aa lo H v l G:=⟨h.own.imp fun _ _ q=>q.s,h.fr⟩
theorem Aa.text{lo:Nat}{H:d8}{v:Value}{l:List EvD}{G:Nat->Prop}{b c i:Nat}{cs:LV}{s:ByteArray}(h:Aa lo H v l G)(D:v=sL b l.length c)(S:H.get b=cE cs 5)(hi:i<l.length):Aa lo (H.put b (.cells (cs.set (i*5+4) (.string s)) true 5)) v l G:=by
 have hb:l7 v b:=by rw[D];exact E6.2 rfl
 have I:∀j,G j->b≠j:=fun j y e=>(h.fr j y).2.2 (e▸hb);refine⟨?_,fun j y=>by rw[t5];exact h.fr j y⟩;obtain⟨ca,u,O⟩:=h.own;rcases u with⟨u,E,rfl⟩|⟨b',c',u,E,h4,h5⟩
 .rw[D]at u;cases u
 .rw[D]at u;cases u;obtain rfl:cs=ca:=by rw[S]at E;cases E;rfl
  refine⟨_,.inr ⟨b,c,D,j5 (u7 S),h4,by rw[List.length_set];exact h5⟩,by rw[List.length_set];exact O.1,fun j a ha=>?_⟩;have U:=(O.2 j a ha).mono (H':=H.put b (.cells (cs.set (i*5+4) (.string s)) true 5)) (fun j y=>j6 (I j y)) (fun _ h=>h);rw[zM];split
  .exact U
  .obtain⟨k,s',X,w,t,e1,J⟩:=U;rw[e1];by_cases e:j=i
   .subst e;rw[show j*5+4-j*5=4 from oM];exact⟨k,s',X,w,s,rfl,J⟩
   .have W:∀z:LV,z.length=5->z.set (i*5+4-j*5) (.string s)=z:=fun z W=>List.set_eq_of_length_le oM;rw[W _ rfl];exact⟨k,s',X,w,t,rfl,J⟩
theorem Aa.at_{lo:Nat}{H:d8}{v:Value}{l:List EvD}{G:Nat->Prop}(h:Aa lo H v l G){i:Nat}(U:i<l.length):∃x b c cs u,l[i]?=some x/\v=sL b l.length c/\lo<=b/\b<H.next/\H.get b=cE cs 5/\i*5+5<=cs.length/\cs[i*5+3]?=some u/\SlO H G 3 R3 u x.attrs:=by
 obtain⟨x,y,_⟩:=Q1 (l:=l) (i:=i) U;obtain⟨b,c,cs,z,D,E,I,J,k,s,W,u,t,O,S⟩:=h.own.at_ y;exact⟨x,b,c,cs,u,y,z,D,E,I,J,by rw[Q3 (k:=3) oM O];rfl,S⟩
theorem SlI.mem{H:d8}{lo sz:Nat}{α:Type}{R u:LV->α->Prop}{v:Value}{l:List α}(h:SlI H lo sz R v l)(J:∀a∈l,∀cs,R cs a->u cs a):SlI H lo sz u v l:=by
 rcases h with h|⟨b,o,c,O,h⟩
 .exact .inl h
 .exact .inr ⟨b,o,c,O,h.imp id fun⟨cs,own,z,D,E,I⟩=>⟨cs,own,z,D,E,fun i a y=>J a (mG y) _ (I i a y)⟩⟩
theorem oI(r:ReD)(u:∀e∈r.labels,e.attrs.length<=1000000):∀(n:Nat)(k:Int),∀e∈bn r n k,e.attrs.length<=1000000
 |0,k,e,h=>by cases h
 |n+1,k,e,h=>by
  rw[bn]at h;split at h
  .cases h
  .split at h
   .split at h
    .rename_i x y;simp only[List.mem_append,List.mem_singleton]at h;rcases h with(rfl|h)|h
     .exact u _ (mG y)
     .split at h
      .simp only[List.mem_append,List.mem_singleton]at h;rcases h with h|rfl
       .exact oI r u n _ e h
       .decide
      .cases h
     .exact oI r u n _ e h
    .cases h
   .cases h
theorem Cp(h y:d8)(l:List EvD)(S:Nat)(w2 w3:Value)(G:Nat->Prop)(z:∀e∈l,e.attrs.length<=1000000) (W:ip S h w2 l G) (hG:u6 y h.next 5 (EvF h (· <h.next)) w3 l) (D:i6 h.next h y) (hn:l.length<=2000000):
  CL prog t6 15 [w2,w3] y=some (.bool true,none):=by
 have U:=D.next;refine Fx y y.next w2 w3 l lR hn ?_ ?_
 .have X:SlI y y.next 5 (EvO h G) w2 l:=W.own.sl.mono (fun j u=>D.get j u) U iF;refine X.mem fun e O cs J=>?_;obtain⟨v,E,I⟩:=J;exact⟨v,E,(I.slf.sl (lo:=h.next) fun j u=>(W.fr j u).2.1).mono (fun j u=>D.get j u) U iF,by have:=z e O;omega⟩
 .refine hG.sl.mem fun e O cs J=>?_;obtain⟨v,E,I⟩:=J;exact⟨v,E,(I.sl (lo:=h.next) fun j u=>u).mono (fun j u=>D.get j u) U iF,by have:=z e O;omega⟩
theorem Bd(H0:d8)(lo:Nat)(v:Value)(l:List EvD)(hv:qY H0 lo v l)(hn:l.length<=2000000)(i:Nat)(J:EvD)(ha:l[i]?=some J)(n3:Int):
  ∀k e H2,(∃j:Nat,k=1048576-j/\j<=J.attrs.length/\e.get 0=v/\e.get 3=iV n3/\e.get 4=iV i/\e.get 5=iV j/\H2=H0)->
  w7 (LE prog t6 (.loop Nf) e H2) (fun o e H2=>H2=H0/\((o= .exit 2/\e.get 0=v/\e.get 3=iV n3/\e.get 4=iV i)\/(o= .ret/\e.get 2= .bool false))):=by
 refine i8 _ _ ?_;rintro k e H2 ⟨j,hk,hj,f0,f3,z,O,hH⟩;subst hH;have hi:i<l.length:=(gS ha).1;obtain⟨b,o,c,cs,own,aa,ac,a7,a9,hg,b9,a6,a5,c0,c4,c5,c6⟩:=DS hv ha;have X:cs[o+i*5+3]?=some (.slice aa J.attrs.length ac):=by rw[Q3 (k:=3) oM a6];rfl
 have nt:(i:Int).toNat=i:=tN i;have u:=f0;rw[a7]at u;refine J5 u z O hg X ?_;rcases b1:decide ((j:Int)<J.attrs.length)with _|_
 .refine J4 u z O b1 ?_;exact i9 ⟨rfl,.inl ⟨rfl,f0,f3,z⟩⟩
 have b8:=dT b1;rcases W:decide ((j:Int)<100)with _|_
 .refine J2 O W ?_;exact i9 ⟨rfl,.inl ⟨rfl,f0,f3,z⟩⟩
 obtain⟨y,a4⟩:∃a,J.attrs[j]?=some a:=⟨J.attrs[j]'oM,List.getElem?_eq_getElem oM⟩
 obtain⟨a3,o2,c2,I,b6,a8,b7,D,b0,S,_⟩:=a5.at_ a4;obtain⟨rfl,rfl⟩:aa=some ⟨a3,o2,none⟩/\ac=c2:=by simpa using a8
 have a0:I[o2+j*3]?=some (.string y.space):=by have:=Q3 (k:=0) oM S;simpa using this
 have a1:I[o2+j*3+1]?=some (.string y.loc):=by rw[Q3 (k:=1) oM S];rfl
 have a2:I[o2+j*3+2]?=some (.string y.val):=by rw[Q3 (k:=2) oM S];rfl
 have U:∀e',e'.get 2= .bool false->cQ k (fun k e E=>∃j:Nat,k=1048576-j/\j<=J.attrs.length/\e.get 0=v/\e.get 3=iV n3/\e.get 4=iV i/\e.get 5=iV j/\E=H2) (fun o e E=>E=H2/\((o= .exit 2/\e.get 0=v/\e.get 3=iV n3/\e.get 4=iV i)\/(o= .ret/\e.get 2= .bool false))) .ret e' H2:=fun e' h=>z9 ⟨rfl,.inr ⟨rfl,h⟩⟩;rcases b3:decide ((300:Int)<y.val.size)with _|_
 .rcases b4:decide ((100:Int)<y.loc.size)with _|_
  .rcases b5:decide ((100:Int)<y.space.size)with _|_
   .refine J14 u z O hg X W D a0 a1 a2 b3 b4 b5 @wrap_small ?_;exact i4 (k-1) oM ⟨j+1,oM,oM,f0,f3,z,rfl,rfl⟩
   .refine J13 u z O hg X W D a0 a1 a2 b3 b4 b5 ?_;exact U _ rfl
  .refine J11 u z O hg X W D a1 a2 b3 b4 ?_;exact U _ rfl
 .refine J9 u z O hg X W D a2 b3 ?_;exact U _ rfl
theorem Be(H0:d8)(lo:Nat)(v:Value)(l:List EvD)(hv:qY H0 lo v l)(hn:l.length<=2000000):
  ∀k e H2,(∃(i:Nat)(u:Int),k=l.length-i/\i<=l.length/\0<=u/\u<=2000000/\e.get 0=v/\e.get 3=iV u/\e.get 4=iV i/\H2=H0)->
  w7 (LE prog t6 (.loop Ng) e H2) (fun o e H2=>H2=H0/\((o= .exit 0/\∃u,e.get 3=iV u)\/(o= .ret/\e.get 2= .bool false))):=by
 refine i8 _ _ ?_;rintro k e H2 ⟨i,u,hk,hi,a8,a9,f0,U,W,hH⟩;subst hH;obtain⟨va,vc,a3⟩:=hv.slice;have S:=f0;rw[a3]at S;rcases O:decide ((i:Int)<l.length)with _|_
 .refine J3 S W O ?_;exact i9 ⟨rfl,.inl ⟨rfl,u,U⟩⟩
 have a6:=dT O;rcases X:decide (u<=400)with _|_
 .refine J5 S U W O X ?_;exact i9 ⟨rfl,.inl ⟨rfl,u,U⟩⟩
 have a1:=dT X;obtain⟨D,ha⟩:∃a,l[i]?=some a:=⟨l[i]'oM,List.getElem?_eq_getElem oM⟩
 obtain⟨b,o,c,cs,own,aa,ac,a2,a4,hg,a7,E,a5,b0,b6,b7,b8⟩:=DS hv ha;have c1:cs[o+i*5+1]?=some (.string D.space):=by rw[Q3 (k:=1) oM E];rfl
 have c2:cs[o+i*5+1+1]?=some (.string D.loc):=by rw[Nat.add_assoc _ 1 1,Q3 (k:=2) oM E];rfl
 have c3:cs[o+i*5+3]?=some (.slice aa D.attrs.length ac):=by rw[Q3 (k:=3) oM E];rfl
 have c4:cs[o+i*5+4]?=some (.string D.text):=by rw[Q3 (k:=4) oM E];rfl
 have nt:(i:Int).toNat=i:=tN i;have y:=f0;rw[a2]at y;have I:∀e',e'.get 2= .bool false->cQ k (fun k e J=>∃(i:Nat)(u:Int),k=l.length-i/\i<=l.length/\0<=u/\u<=2000000/\e.get 0=v/\e.get 3=iV u/\e.get 4=iV i/\J=H2) (fun o e J=>J=H2/\((o= .exit 0/\∃u,e.get 3=iV u)\/(o= .ret/\e.get 2= .bool false))) .ret e' H2:=fun e' h=>z9 ⟨rfl,.inr ⟨rfl,h⟩⟩;rcases b3:decide ((300:Int)<D.text.size)with _|_
 .rcases b4:decide ((100:Int)<D.loc.size)with _|_
  .rcases b5:decide ((100:Int)<D.space.size)with _|_
   .refine J14 y U W hg c1 c2 c3 c4 O X b3 b4 b5 @wrap_small ?_;refine cY (F:=fun z=>u9 (inBlock 1 (inBlock 2 z)) _) (Bd H2 lo v l hv hn i D ha (u+D.attrs.length) 1048576 _ _ ⟨0,rfl,oM,?_,?_,?_,rfl,rfl⟩) ?_
    .exact f0
    .rfl
    .exact W
    rintro o' e' H' ⟨hH,⟨ho,g0,g3,g4⟩|⟨ho,g2⟩⟩
    .refine J4 ho g4 @wrap_small hH ?_;exact i4 (k-1) oM ⟨i+1,u+D.attrs.length,oM,oM,oM,oM,g0,g3,rfl,rfl⟩
    .refine J2 ho hH ?_;exact I _ g2
   .refine J14 y U W hg c1 c2 c3 c4 O X b3 b4 b5 @wrap_small ?_;exact I _ rfl
  .refine J12 y U W hg c2 c3 c4 O X b3 b4 @wrap_small ?_;exact I _ rfl
 .refine J10 y U W hg c3 c4 O X b3 @wrap_small ?_;exact I _ rfl
theorem Iy(H:d8)(lo:Nat)(v:Value)(l:List EvD)(O:lo<=H.next)(E:qY H lo v l)(S:l.length<=2000000):∃t:Bool,CL prog t6 25 [v] H=some (.bool t,none):=by
 obtain⟨a,c,h⟩:=E.slice;have y:qY ⟨H.bs,H.next⟩ lo (.slice a l.length c) l:=by rw[<-h];exact E.mono (fun _ _=>rfl) lR
 rw[j7 KP rfl _ sM,h];refine J1 lQ ?_;refine j8 (F:=fun z=>∃t:Bool,u5 _ _ _ (u9 (inBlock 0 z) _)=some (.bool t,none)) (Be ⟨H.bs,H.next⟩ lo _ l y S l.length _ _ ⟨0,l.length,rfl,oM,oM,oM,rfl,rfl,rfl,rfl⟩) ?_;rintro o e' H' ⟨D,⟨u,U,J⟩|⟨u,I⟩⟩
 .refine J3 u J D ?_;exact⟨_,rfl⟩
 .refine J3 u I D ?_;exact⟨_,rfl⟩
def nm(a:AtD):ByteArray×ByteArray:=(a.space,a.loc)
theorem FI(x:ByteArray×ByteArray)(l:List AtD):zO x (l.map nm)=l.any fun a=>decide (x=nm a):=by
 rw[zO,List.any_map];rfl
theorem Fe(a b:AtD):(decide (a.space=b.space)&&decide (a.loc=b.loc))=decide (nm a=nm b):=by
 rw[<-Bool.decide_and];exact decide_eq_decide.2 (by rw[nm,nm,Prod.mk.injEq])
theorem yQ(H0:d8)(lo:Nat)(p:Option Addr)(c pb:Nat)(a2:LV)(l:List AtD)(hn:l.length<=1048576)(hv:SlI H0 lo 3 AtR (.slice p l.length c) l)(g1:H0.get pb=cE a2 1)(k1:a2[3]?=some (.slice p l.length c))(i:Nat)(x:AtD)(hx:l[i]?=some x)(r:Bool):
  ∀k e H2,(∃j:Nat,k=i-j/\j<=i/\e.get 1=pT pb/\e.get 4=iV i/\e.get 5=iV j/\H2=H0/\((l.take i).drop j).any (fun a=>decide (nm x=nm a))=r)->
  w7 (LE prog t6 (.loop Nw) e H2) (fun o e H2=>H2=H0/\((o= .exit 2/\r=false/\e.get 1=pT pb/\e.get 4=iV i)\/(o= .ret/\e.get 2= .bool false/\r=true))):=by
 have hi:i<l.length:=(gS hx).1;refine i8 _ _ ?_;rintro k e H2 ⟨j,hk,hj,f1,J,f5,hH,I⟩;subst hH;rcases b:decide ((j:Int)<i)with _|_
 .have a7:=dF b;have:(l.take i).drop j=[]:=dN (by rw[List.length_take];omega);rw[this,List.any_nil]at I;refine J3 J f5 b ?_;exact i9 ⟨rfl,.inl ⟨rfl,I.symm,f1,J⟩⟩
 .have a7:=dT b;obtain⟨y,hy,a8⟩:=S6 (l:=l.take i) (i:=j) (by rw[List.length_take];omega);have W:l[j]?=some y:=by rw[List.getElem?_take,if_pos oM]at hy;exact hy
  rw[a8,List.any_cons]at I;obtain⟨b1,E,q1,u,w1,e1,_,z,b3⟩:=rj (hv.mono (fun _ _=>rfl) lR (fun _ _ h=>h.1)) hx;obtain⟨b2,o2,q2,a4,w2,e2,_,O,b4⟩:=rj (hv.mono (fun _ _=>rfl) lR (fun _ _ h=>h.1)) W;obtain⟨rfl,rfl⟩:p=some ⟨b1,E,none⟩/\c=q1:=by simpa using e1
  obtain⟨⟨rfl,rfl⟩,rfl⟩:(b1=b2/\E=o2)/\c=q2:=by simpa using e2
  rw[z]at O;obtain⟨rfl,rfl⟩:u=a4/\w1=w2:=by simpa using O
  obtain⟨bx,ox,cx,a5,wx,ex,_,S,b5,a9,_⟩:=hv.at_ hx;obtain⟨a3,oy,cy,a6,wy,ey,_,U,b6,b0,_⟩:=hv.at_ W;obtain⟨⟨rfl,rfl⟩,rfl⟩:(b1=bx/\E=ox)/\c=cx:=by simpa using ex
  obtain⟨⟨rfl,rfl⟩,rfl⟩:(b1=a3/\E=oy)/\c=cy:=by simpa using ey
  rw[z]at S U;obtain⟨rfl,rfl⟩:u=a5/\w1=wx:=by simpa using S
  obtain⟨rfl,rfl⟩:u=a6/\w1=wy:=by simpa using U
  have X:ldC (some true) (some 2) (E+i*3) u=some (.agg #[.string x.space,.string x.loc]):=by
   refine cq oM ?_;have:((u.drop (E+i*3)).take 3).take 2=[.string x.space,.string x.loc]:=by rw[a9];rfl
   rw[List.take_take]at this;exact this
  have a1:ldC (some true) (some 2) (E+j*3) u=some (.agg #[.string y.space,.string y.loc]):=by
   refine cq oM ?_;have:((u.drop (E+j*3)).take 3).take 2=[.string y.space,.string y.loc]:=by rw[b0];rfl
   rw[List.take_take]at this;exact this
  have nt:(i:Int).toNat=i:=tN i;have b7:(j:Int).toNat=j:=tN j;have D:decide (nm y=nm x)=decide (nm x=nm y):=decide_eq_decide.2 ⟨Eq.symm,Eq.symm⟩;rcases hq:decide (nm x=nm y)with _|_
  .rw[hq]at I;refine J13 f1 J f5 g1 k1 b z X a1 @Fe D hq @wrap_small ?_;exact i4 (k-1) oM ⟨j+1,oM,oM,f1,J,rfl,rfl,by rw[<-I];rfl⟩
  .rw[hq]at I;refine J12 f1 J f5 g1 k1 b z X a1 @Fe D hq ?_;exact z9 ⟨rfl,.inr ⟨rfl,rfl,by rw[<-I];rfl⟩⟩
theorem yh(H0:d8)(lo:Nat)(a4:lo<=H0.next)(p:Option Addr)(c pb:Nat)(J:LV)(l:List AtD)(hn:l.length<=1048576)(hv:SlI H0 lo 3 AtR (.slice p l.length c) l)(U:H0.get pb=cE J 1)(k1:J[3]?=some (.slice p l.length c))(r:Bool):
  ∀k e H2,(∃i:Nat,k=l.length-i/\i<=l.length/\e.get 1=pT pb/\e.get 4=iV i/\H2=H0/\aGo ((l.take i).map nm) (l.drop i)=r)->
  w7 (LE prog t6 (.loop Jg) e H2) (fun o e H2=>H2=H0/\((o= .exit 0/\r=true)\/(o= .ret/\e.get 2= .bool false/\r=false))):=by
 refine i8 _ _ ?_;rintro k e H2 ⟨i,hk,hi,O,S,hH,u⟩;subst hH;rcases b:decide ((i:Int)<l.length)with _|_
 .have a3:=dF b;have:l.drop i=[]:=dN oM;rw[this,aGo]at u;refine J5 O S U k1 b ?_;exact i9 ⟨rfl,.inl ⟨rfl,u.symm⟩⟩
 .have a3:=dT b;obtain⟨x,hx,hd⟩:=S6 (l:=l) (i:=i) oM;rw[hd,aGo]at u;have E:=FI (nm x) (l.take i);have h:zO (x.space,x.loc) ((l.take i).map nm)=(l.take i).any fun a=>decide (nm x=nm a):=E;rw[h]at u;obtain⟨bx,ox,cx,y,wx,ex,_,D,a5,X,z1,z2,z3⟩:=hv.at_ hx;obtain⟨rfl,rfl⟩:p=some ⟨bx,ox,none⟩/\c=cx:=by simpa using ex
  have I:ldC (some true) (some 2) (ox+i*3) y=some (.agg #[.string x.space,.string x.loc]):=by
   refine cq oM ?_;have:((y.drop (ox+i*3)).take 3).take 2=[.string x.space,.string x.loc]:=by rw[X];rfl
   rw[List.take_take]at this;exact this
  have a2:y[ox+i*3+2]?=some (.string x.val):=by rw[Q3 (k:=2) oM X];rfl
  have nt:(i:Int).toNat=i:=tN i;rcases W:iQ x.space x.loc with _|_
  .refine J9 O S U k1 b D I @N7 W ?_;exact z9 ⟨rfl,.inr ⟨rfl,rfl,by rw[<-u,W];simp⟩⟩
  rcases h2:aW x.val with _|_
  .refine J12 O S U k1 b D I a2 @N7 @S5 W h2 ?_;exact z9 ⟨rfl,.inr ⟨rfl,rfl,by rw[<-u,h2];simp⟩⟩
  refine J12 O S U k1 b D I a2 @N7 @S5 W h2 ?_;refine cY (F:=fun z=>u9 (inBlock 1 (inBlock 2 z)) _) (yQ H2 lo _ c pb J l hn hv U k1 i x hx ((l.take i).any fun a=>decide (nm x=nm a)) i _ _ ⟨0,rfl,oM,?_,?_,rfl,rfl,rfl⟩) ?_
  .exact O
  .exact S
  rintro o e' H' ⟨hH,⟨ho,hr,a1,g4⟩|⟨ho,g2,hr⟩⟩
  .refine J4 ho hH g4 @wrap_small ?_;refine i4 (k-1) oM ⟨i+1,oM,oM,a1,rfl,rfl,?_⟩;rw[<-u,hr,W,h2];have:(l.take (i+1)).map nm=(l.take i).map nm++[(x.space,x.loc)]:=by
    rw[List.take_add_one,hx];simp [nm]
   rw[this];simp
  .refine J2 ho hH ?_;exact z9 ⟨rfl,.inr ⟨rfl,g2,by rw[<-u,hr];simp⟩⟩
theorem Ck(H:d8)(lo:Nat)(cs:LV)(e:EvD)(a6:lo<=H.next)(hv:EvR H lo cs e):CL prog t6 42 [.agg cs.toArray] H=some (.bool (gI e),none):=by
 obtain⟨v,rfl,hv,a7,a8,a9,a4⟩:=hv;obtain⟨a,c,rfl⟩:=hv.slice;have U:decide (((e.attrs.length:Nat):Int)=0)=decide (e.attrs.length=0):=decide_eq_decide.2 oM;have a1:decide ((32:Int)<((e.attrs.length:Nat):Int))= !decide (e.attrs.length<=32):=by
  rw[<-decide_not];exact decide_eq_decide.2 oM
 have a2:∀(e':Env)(H0:d8),H0=d8.push ⟨H.bs,H.next⟩ (bC [iV e.kind,.string e.space,.string e.loc,.slice a e.attrs.length c,.string e.text] 1)->(e'.get 1=pT H.next/\e'.get 4=iV 0)->
   u5 prog [ResultVar.tmp 2] H (u9 (inBlock 0 (LE prog t6 (.loop Jg) e' H0)) (LE prog t6 (.seq (.ops [⟨some 2,.assign (.const (.bool true)),none⟩]) .ret)))=some (.bool (aGo [] e.attrs),none):=by
  intro e' H0 a3 hg;have hS:i6 H.next H H0:=by rw[a3];exact i6.first H _
  have a5:H.next<=H0.low:=by rw[a3];exact lR
  refine j8 (F:=fun z=>u5 _ _ _ (u9 (inBlock 0 z) _)=_) (yh H0 lo (oN (hS.next)) a c H.next _ e.attrs a4 (hv.mono (fun j hj=>hS.get j oM) lR iF) (by rw[a3];exact j9) rfl (aGo [] e.attrs) e.attrs.length e' H0 ⟨0,rfl,oM,hg.1,hg.2,rfl,rfl⟩) ?_;rintro o e2 H' ⟨hH,⟨ho,hr⟩|⟨ho,h2,hr⟩⟩
  .exact J3 ho hr hH trivial
  .exact J4 ho h2 hr hH trivial
 rw[j7 KR rfl _ sM,gI];rcases y:(decide (e.space=eB)&&decide (e.loc=eB))with _|_
 .skip
  rcases u:decide (e.kind=2)with _|_
  .have D:=dF u;rcases E:decide (e.kind=3)with _|_
   .have O:=dF E;rcases J:decide (e.kind=1)with _|_
    .have h:=dF J;rw[if_neg h,if_neg D,if_neg O];exact J4 y J u E trivial
    .have h:=dT J;rw[if_pos h];rcases I:decide (e.text=eB)with _|_
     .exact J5 y J u E I trivial
     rcases W:iQ e.space e.loc with _|_
     .exact J7 y J u E I W @N7 trivial
     rcases X:decide (e.attrs.length<=32)with _|_
     .rw[gH,X,Bool.and_false,Bool.and_false];exact J9 y J u E I W X a1 @N7 trivial
     rw[gH,X,Bool.true_and,Bool.true_and,Bool.and_true];refine J9 y J u E I W X a1 @N7 ?_;exact a2 _ _ rfl ⟨rfl,rfl⟩
   .have O:=dT E;have h:¬e.kind=1:=oM;rw[if_neg h,if_neg D,if_pos O];rcases I:decide (e.text=eB)with _|_
    .exact J3 y u E trivial
    .exact J3 y u E trivial
  .have D:=dT u;have h:¬e.kind=1:=oM;rw[if_neg h,if_pos D];rcases I:decide (e.text=eB)with _|_
   .rcases W:aW e.text with _|_
    .exact J2 y u trivial
    .exact J2 y u trivial
   .exact J2 y u trivial
 rcases S:decide (e.attrs.length=0)with _|_
 .skip
  rcases u:decide (e.kind=2)with _|_
  .have D:=dF u;rcases E:decide (e.kind=3)with _|_
   .have O:=dF E;rcases J:decide (e.kind=1)with _|_
    .have h:=dF J;rw[if_neg h,if_neg D,if_neg O];exact J6 y U S J u E trivial
    .have h:=dT J;rw[if_pos h];rcases I:decide (e.text=eB)with _|_
     .exact J7 y U S J u E I trivial
     rcases W:iQ e.space e.loc with _|_
     .exact J9 y U S J u E I W @N7 trivial
     rcases X:decide (e.attrs.length<=32)with _|_
     .rw[gH,X,Bool.and_false,Bool.and_false];exact J11 y U S J u E I W X a1 @N7 trivial
     rw[gH,X,Bool.true_and,Bool.true_and,Bool.and_true];refine J11 y U S J u E I W X a1 @N7 ?_;exact a2 _ _ rfl ⟨rfl,rfl⟩
   .have O:=dT E;have h:¬e.kind=1:=oM;rw[if_neg h,if_neg D,if_pos O];rcases I:decide (e.text=eB)with _|_
    .exact J5 y U S u E trivial
    .exact J5 y U S u E trivial
  .have D:=dT u;have h:¬e.kind=1:=oM;rw[if_neg h,if_pos D];rcases I:decide (e.text=eB)with _|_
   .rcases W:aW e.text with _|_
    .exact J4 y U S u trivial
    .exact J4 y U S u trivial
   .exact J4 y U S u trivial
 .skip
  rcases u:decide (e.kind=2)with _|_
  .have D:=dF u;rcases E:decide (e.kind=3)with _|_
   .have O:=dF E;rcases J:decide (e.kind=1)with _|_
    .have h:=dF J;rw[if_neg h,if_neg D,if_neg O];exact J6 y U S J u E trivial
    .have h:=dT J;rw[if_pos h];rcases I:decide (e.text=eB)with _|_
     .exact J7 y U S J u E I trivial
     rcases W:iQ e.space e.loc with _|_
     .exact J9 y U S J u E I W @N7 trivial
     rcases X:decide (e.attrs.length<=32)with _|_
     .rw[gH,X,Bool.and_false,Bool.and_false];exact J11 y U S J u E I W X a1 @N7 trivial
     rw[gH,X,Bool.true_and,Bool.true_and,Bool.and_true];refine J11 y U S J u E I W X a1 @N7 ?_;exact a2 _ _ rfl ⟨rfl,rfl⟩
   .have O:=dT E;have h:¬e.kind=1:=oM;rw[if_neg h,if_neg D,if_pos O];rcases I:decide (e.text=eB)with _|_
    .exact J6 y U S u E I trivial
    .exact J6 y U S u E I trivial
  .have D:=dT u;have h:¬e.kind=1:=oM;rw[if_neg h,if_pos D];rcases I:decide (e.text=eB)with _|_
   .rcases W:aW e.text with _|_
    .exact J7 y U S u I W @S5 trivial
    .exact J7 y U S u I W @S5 trivial
   .exact J5 y U S u I trivial
theorem Ma(H:d8)(lo:Nat)(cs:LV)(e:EvD)(a2:lo<=H.next)(hv:EvR H lo cs e):
  ∃t:Bool,CL prog t6 19 [.agg cs.toArray] H=some (.bool (gI e&& !decide (e.kind=3)&&t),none):=by
 obtain⟨E,y,n1,W,s1⟩:=pushF H (bC cs 1);have h:E.low=H.next:=by rw[y];rfl
 obtain⟨H2,J,-,g2,s2⟩:=pushE E (bC cs 5);have n2:H2.next=H.next+2:=by rw[J,i5,n1]
 have O:H2.low=H.next:=by rw[J,l9,h]
 have r1:EvR E lo cs e:=hv.mono (fun j hj=>s1.get j oM) lR;have r2:EvR H2 H2.next cs e:=hv.mono (fun j hj=>by rw[s2.get j oM,s1.get j oM]) oM;obtain⟨av,z,a1,hz⟩:=id hv;obtain⟨aa,ac,rfl⟩:=a1.slice;have D:cs.length=5:=by rw[z];rfl
 have I:cs.all oC=true:=by rw[z];rfl
 have c0:cs[0]?=some (.int .i64 e.kind):=by rw[z];rfl
 have S:cs.take 5=cs:=List.take_of_length_le oM;have hs:qY H2 H2.next (sL E.next 1 1) [e]:=by
  refine .inr ⟨E.next,0,1,rfl,.inr ⟨cs,true,oM,g2,by simp [D],fun i a hi=>?_⟩⟩
  match i,hi with
  |0,hi=>
   have:e=a:=by simpa using hi
   subst this
   simpa [S] using r2
 have u:=Ck E lo cs e oM r1;obtain⟨t,X⟩:=Iy H2 H2.next _ [e] lR hs sM;have U:bsA prog (some 51) E 1 [(0,.agg cs.toArray)]=some (sL E.next 1 1,H2):=by
  rw[J,z];simp only[C7,S9,C8];rfl
 refine⟨t,?_⟩;rw[j7 QE rfl _ sM];rcases b1:gI e with _|_
 .rw[b1]at u;exact J7 I y.symm W D S u h trivial
 .rw[b1]at u;rcases b2:decide (e.kind=3)with _|_
  .exact J12 I y.symm W D S u h c0 b2 U X O trivial
  .exact J9 I y.symm W D S u h c0 b2 trivial
theorem rL{x y:SoD}(h:aP x y=true):x=y:=by
 obtain⟨a,b,c⟩:=x;obtain⟨a',u,z⟩:=y;simp only[aP,Bool.and_eq_true,beq_iff_eq,decide_eq_true_eq]at h;obtain⟨rfl,rfl,rfl⟩:=h;rfl
structure ExR(size:Int)(r r':ReD):Prop where
 st:r'.strat=r.strat
 lb:r'.labels=r.labels
 so:r.sorts<+:r'.sorts
 sz:r.size<+:r'.size
 l2:r.size.length=r.sorts.length->r'.size.length=r'.sorts.length
 nw:∀k,r.size.length<=k->k<r'.size.length->r'.size.getD k 0=size
 big:r.size.length<r'.size.length->size<=200
theorem ExR.refl(size:Int)(r:ReD):ExR size r r:=⟨rfl,rfl,List.prefix_rfl,List.prefix_rfl,fun h=>h,fun k u y=>oM,fun h=>oM⟩
theorem ExR.trans{size:Int}{r z u:ReD}(h:ExR size r z)(g:ExR size z u):ExR size r u:=by
 refine⟨g.st.trans h.st,g.lb.trans h.lb,h.so.trans g.so,h.sz.trans g.sz,fun q=>g.l2 (h.l2 q),fun k D E=>?_,fun q=>?_⟩
 .by_cases y:k<z.size.length
  .rw[N9 g.sz y];exact h.nw k D y
  .exact g.nw k oM E
 .by_cases y:r.size.length<z.size.length
  .exact h.big y
  .exact g.big oM
theorem Gm(r:ReD)(x:SoD)(size:Int)(how:Int×Int×Int):ExR size r (am r x size how).1:=by
 obtain⟨p1,p2,D,E⟩:=eF r x size how;unfold am at*;split
 .exact ExR.refl _ _
 .split
  .exact ExR.refl _ _
  .rename_i hs;simp only[Bool.or_eq_true,decide_eq_true_eq,not_or]at hs;refine⟨rfl,rfl,⟨_,rfl⟩,⟨_,rfl⟩,fun h=>by simp [h],fun k z u=>?_,fun _=>oM⟩;have y:k=r.size.length:=by simp at u;omega
   rw[y];exact bB _ _ _
theorem CW{r:ReD}{x:SoD}{size:Int}{how:Int×Int×Int}(h:(am r x size how).2=true):x∈(am r x size how).1.sorts:=by
 unfold am at*;split
 .rename_i u;obtain⟨y,D,e⟩:=List.any_eq_true.1 u;rw[rL e];exact D
 .rename_i u;rw[if_neg u]at h;split
  .rename_i z;rw[if_pos z]at h;cases h
  .simp
theorem nY{D y:List SoD}(h:D<+:y){u:Int}{a b:Nat}(I:a<D.length)(E:b<D.length):R5 y u a b=R5 D u a b:=by
 have J:=h.length_le;have z:∀{n k:Nat},k<n->knB n (k:Int)=true:=fun O=>by
  simp only[knB,Bool.and_eq_true,decide_eq_true_eq];omega
 simp only[R5,Int.toNat_natCast];rw[z I,z E,z (Nat.lt_of_lt_of_le I J),z (Nat.lt_of_lt_of_le E J),N9 h E]
theorem eS{size:Int}{a b:Nat}:∀(l:List EvD)(i:Nat)(r:ReD),a<r.sorts.length->b<r.sorts.length->(M9 size a b l i r).2=true->ExR size r (M9 size a b l i r).1/\∀e∈l,R5 r.sorts e.kind a b=true->I4 r.strat e (r.sorts.getD a soZ) (r.sorts.getD b soZ)∈(M9 size a b l i r).1.sorts
 |[],i,r,_,_,_=>⟨ExR.refl _ _,fun e W=>by cases W⟩
 |e::l,i,r,ha,hb,h=>by
  rw[M9]at h ⊢;have X:(a:Int).toNat=a:=tN a;have tb:(b:Int).toNat=b:=tN b;rw[X,tb]at h ⊢;by_cases S:R5 r.sorts e.kind a b=true
  .rw[if_pos S]at h ⊢;by_cases O:(am r (I4 r.strat e (r.sorts.getD a soZ) (r.sorts.getD b soZ)) size (i,a,b)).2=true
   .rw[if_pos O]at h ⊢;have D:=Gm r (I4 r.strat e (r.sorts.getD a soZ) (r.sorts.getD b soZ)) size (i,a,b);have I:=CW O;have E:=D.so.length_le;obtain⟨J,U⟩:=eS l (i+1) _ (Nat.lt_of_lt_of_le ha E) (Nat.lt_of_lt_of_le hb E) h;refine⟨D.trans J,fun y z u=>?_⟩;rcases List.mem_cons.1 z with rfl|z
    .exact J.so.subset I
    .have:=U y z (by rw[nY D.so ha hb];exact u);rw[D.st,N9 D.so ha,N9 D.so hb]at this;exact this
   .rw[if_neg O]at h;cases h
  .rw[if_neg S]at h ⊢;obtain⟨J,U⟩:=eS l (i+1) r ha hb h;refine⟨J,fun y z u=>?_⟩;rcases List.mem_cons.1 z with rfl|z
   .exact absurd u S
   .exact U y z u
def ClR(r:ReD)(a b:Nat):Prop:=∀e∈r.labels,R5 r.sorts e.kind a b=true->I4 r.strat e (r.sorts.getD a soZ) (r.sorts.getD b soZ)∈r.sorts
theorem ClR.ex{size:Int}{r I:ReD}{a b:Nat}(h:ClR r a b)(u:ExR size r I)(y:a<r.sorts.length)(z:b<r.sorts.length):ClR I a b:=fun e D E=>by
 rw[u.lb]at D;rw[nY u.so y z]at E;rw[u.st,N9 u.so y,N9 u.so z];exact u.so.subset (h e D E)
theorem jq{size:Int}{m:Nat}:∀(L:List (Nat×Nat))(r:ReD),(∀x∈L,x.1<m/\x.2<m)->m<=r.sorts.length->(W7 size L r).2=true->ExR size r (W7 size L r).1/\∀x∈L,ClR (W7 size L r).1 x.1 x.2
 |[],r,_,_,_=>⟨ExR.refl _ _,fun x W=>by cases W⟩
 |x::L,r,hL,hm,h=>by
  rw[W7]at h ⊢;obtain⟨S,U⟩:=hL x sM;by_cases E:(M9 size x.1 x.2 r.labels 0 r).2=true
  .rw[if_pos E]at h ⊢;obtain⟨u,q2⟩:=eS r.labels 0 r (Nat.lt_of_lt_of_le S hm) (Nat.lt_of_lt_of_le U hm) E;have I:=u.so.length_le;obtain⟨O,X⟩:=jq L _ (fun y D=>hL y (by simp [D])) (Nat.le_trans hm I) h;refine⟨u.trans O,fun y D=>?_⟩;rcases List.mem_cons.1 D with rfl|D
   .have c1:ClR (M9 size y.1 y.2 r.labels 0 r).1 y.1 y.2:=fun e J z=>by
     rw[u.lb]at J;rw[nY u.so oM oM]at z;rw[u.st,N9 u.so oM,N9 u.so oM];exact q2 e J z
    exact c1.ex O oM oM
   .exact X y D
  .rw[if_neg E]at h;cases h
structure BeR(r:ReD)(m:Int):Prop where
 l2:r.size.length=r.sorts.length
 lt:∀k,k<r.sorts.length->r.size.getD k 0<m/\r.size.getD k 0<=200
 cl:∀a b,a<r.sorts.length->b<r.sorts.length->r.size.getD a 0+r.size.getD b 0+1<m->ClR r a b
theorem rP{r:ReD}{size:Int}(h:BeR r size)(hs:0<=size)(hr:(fp r size).2=true)(h0:∀k,k<r.sorts.length->0<=r.size.getD k 0):BeR (fp r size).1 (size+1)/\ExR size r (fp r size).1:=by
 unfold fp at*;obtain⟨E,q2⟩:=jq (m:=r.sorts.length) _ r (fun x hx=>by
  unfold aO at hx;obtain⟨a,O,I⟩:=List.mem_flatMap.1 hx;unfold ic at I;obtain⟨b,u,rfl⟩:=List.mem_map.1 I;exact⟨List.mem_range.1 O,List.mem_range.1 (List.mem_filter.1 u).1⟩) lR hr
 have a2:=E.l2 h.l2;have l2:=h.l2;have a3:=E.so.length_le;have old:∀k,k<r.sorts.length->(W7 size (aO (fun i=>r.size.getD i 0) size r.sorts.length r.sorts.length) r).1.size.getD k 0=r.size.getD k 0:=fun k y=>N9 E.sz oM 0;have z:∀k,k<(W7 size (aO (fun i=>r.size.getD i 0) size r.sorts.length r.sorts.length) r).1.sorts.length->k<r.sorts.length\/((W7 size (aO (fun i=>r.size.getD i 0) size r.sorts.length r.sorts.length) r).1.size.getD k 0=size/\size<=200):=fun k y=>by
  by_cases X:k<r.sorts.length
  .exact .inl X
  .exact .inr ⟨E.nw k oM oM,E.big oM⟩
 refine⟨⟨a2,fun k y=>?_,fun a b O I W=>?_⟩,E⟩
 .rcases z k y with y|⟨S,U⟩
  .rw[old k y];have:=h.lt k y;omega
  .omega
 .have J:∀k,k<(W7 size (aO (fun i=>r.size.getD i 0) size r.sorts.length r.sorts.length) r).1.sorts.length->0<=(W7 size (aO (fun i=>r.size.getD i 0) size r.sorts.length r.sorts.length) r).1.size.getD k 0:=fun k y=>by
   rcases z k y with y|⟨S,U⟩
   .rw[old k y];exact h0 k y
   .omega
  have pa:=J a O;have pb:=J b I;rcases z a O with D|⟨S,U⟩
  .rcases z b I with u|⟨S,U⟩
   .rw[old a D,old b u]at W;by_cases a1:r.size.getD a 0+r.size.getD b 0+1<size
    .exact(h.cl a b D u a1).ex E D u
    .refine q2 (a,b) ?_;unfold aO;refine List.mem_flatMap.2 ⟨a,List.mem_range.2 D,?_⟩;unfold ic;refine List.mem_map.2 ⟨b,List.mem_filter.2 ⟨List.mem_range.2 u,decide_eq_true ?_⟩,rfl⟩;show r.size.getD a 0+r.size.getD b 0+1=size;omega
   .omega
  .omega
theorem qq:∀(l:List Int)(m:Int),m<=l.foldl mx2 m/\∀x∈l,x<=l.foldl mx2 m
 |[],m=>⟨Int.le_refl _,fun x h=>by cases h⟩
 |y::l,m=>by
  obtain⟨D,u⟩:=qq l (mx2 m y);have z:m<=mx2 m y/\y<=mx2 m y:=by unfold mx2;split<;>omega
  rw[List.foldl_cons];refine⟨oM,fun x h=>?_⟩;rcases List.mem_cons.1 h with rfl|h
  .omega
  .exact u x h
theorem EY:∀(l:List Int)(x:Int),x∈l->x<=mxL l
 |[],x,h=>by cases h
 |y::l,x,h=>by
  obtain⟨u,z⟩:=qq l y;rw[mxL];rcases List.mem_cons.1 h with rfl|h
  .exact u
  .exact z x h
theorem uV{l:List Int}{k:Nat}(h:k<l.length):l.getD k 0∈l:=by
 rw[List.getD_eq_getElem?_getD,List.getElem?_eq_getElem h];exact List.getElem_mem h
theorem kY:∀(k:Nat)(r:ReD)(size:Int){u:ReD},402-size<=k->0<=size->BeR r size->(∀k,k<r.sorts.length->0<=r.size.getD k 0)->km k r size=some u->∀a b,a<u.sorts.length->b<u.sorts.length->ClR u a b
 |0,r,size,u,hk,hs,h,h0,hr,a,b,ha,hb=>by
  rw[km]at hr;cases hr;have:=h.lt a ha;have:=h.lt b hb;exact h.cl a b ha hb oM
 |k+1,r,size,u,hk,hs,h,h0,hr,a,b,ha,hb=>by
  rw[km]at hr;split at hr
  .split at hr
   .rename_i E;obtain⟨z,D⟩:=rP h hs E h0;refine kY k _ (size+1) oM oM z (fun j J=>?_) hr a b ha hb;by_cases y:j<r.sorts.length
    .rw[N9 D.sz (oN (h.l2))];exact h0 j y
    .rw[D.nw j (oN (h.l2)) (oN (z.l2))];exact hs
   .cases hr
  .rename_i I;cases hr;have l2:=h.l2;have O:=EY r.size _ (uV (l:=r.size) (k:=a) oM);have S:=EY r.size _ (uV (l:=r.size) (k:=b) oM);exact h.cl a b ha hb (by simp only[decide_eq_true_eq]at I;omega)
theorem sr{q:Q}{r:ReD}(h:kV q=some r){a b:Nat}(u:a<r.sorts.length)(z:b<r.sorts.length):ClR r a b:=by
 unfold kV at h;split at h
 .cases h
 .rename_i l J;refine kY 401 ⟨C0 q,l,[soZ],[0],[(0,0,0)]⟩ 1 oM oM ⟨rfl,fun k D=>?_,fun a b u z y=>?_⟩ (fun k D=>?_) h a b u z
  .have:k=0:=by simpa using D
   subst this;show(0:Int)<1/\(0:Int)<=200;omega
  .have E:a=0:=by simpa using u
   have I:b=0:=by simpa using z
   subst E;subst I;exact absurd y (by show¬((0:Int)+0+1<1);omega)
  .have:k=0:=by simpa using D
   subst this;exact Int.le_refl _
theorem JD(H:d8)(x:SoD)(n:Int)(m:Nat)(I:bJ x m)(J:0<=n)(O:n<m):CL prog t6 46 [.agg (soE x).toArray,iV n] H=some (.bool (ii x n),none):=by
 obtain⟨h,t,b⟩:=x;obtain⟨D,u,-,y,-⟩:=pushF H (bC [.bool h,.bool t,.string b] 1);have z:H.next<=D.low:=by rw[u,l9];exact lR
 rw[j7 QM rfl _ sM,ii];cases h with
 |false=>simp(maxSteps:=20000000) -dsimp (disch:=first|omega|(simp only[rH]<;>omega)|fail) only[↓ig,rQ,N3,sevalprocAttr,tyA,<-u,y]
 |true=>
  have E:b.size=m:=I rfl;exact J2 u.symm y trivial
abbrev boV(b:Bool):Value:= .bool b
def gj(hs:List Bool)(x:EdD):Bool:=decide (x.2.2.1=0)||(decide (x.2.2.1=3)&&hs.getD x.2.2.2.toNat false)
def clP(hs:List Bool):List EdD->List Bool->List Bool
 |[],c=>c
 |x::l,c=>clP hs l (if c.getD x.1.toNat false&&gj hs x then c.set x.2.1.toNat true else c)
def clI(hs:List Bool)(l:List EdD):Nat->List Bool->List Bool
 |0,c=>c
 |n+1,c=>clI hs l n (clP hs l c)
def eJ(hs:List Bool)(p:PrD)(q:Nat):List Bool:=clI hs p.ed p.st.toNat ((List.replicate p.st.toNat false).set q true)
theorem jh(hs:List Bool):∀(l:List EdD)(c:List Bool),(clP hs l c).length=c.length
 |[],c=>rfl
 |x::l,c=>by
  rw[clP,jh hs l];split<;>simp
theorem zj(hs:List Bool)(l:List EdD):∀(n:Nat)(c:List Bool),(clI hs l n c).length=c.length
 |0,c=>rfl
 |n+1,c=>by rw[clI,zj hs l n,jh]
theorem GI{bs:List Bool}{i:Nat}(h:i<bs.length):(bs.map boV)[i*1]?=some (.bool (bs.getD i false)):=by
 rw[Nat.mul_one,List.getElem?_map,List.getElem?_eq_getElem h,List.getD_eq_getElem?_getD,List.getElem?_eq_getElem h];rfl
theorem wH(H1:d8)(I p3 n:Nat)(hn:n<=1000000)(c8:I<H1.next)(b7:p3≠I)(rp:LV)(g3:H1.get p3=cE rp 1)(F:Nat->Prop)(hF:∀j,F j->j<H1.next/\j≠I)
  (va:Option Addr) (ca:Nat) (l:List EdD) (r3:rp[3]?=some (.slice va l.length ca)) (hv:SlF H1 F 4 (w9 edE) (.slice va l.length ca) l) (hl:l.length<=1000000)
  (ha:Option Addr) (hc:Nat) (hs:List Bool) (hh:SlF H1 F 1 (w9 boE) (.slice ha hs.length hc) hs) (hw:∀x∈l,0<=x.1/\x.1<n/\0<=x.2.1/\x.2.1<n/\(x.2.2.1=3->0<=x.2.2.2/\x.2.2.2<hs.length)) (v9:Value) (r:List Bool):
  ∀kk e H,(∃(j:Nat)(bs:List Bool),kk=l.length-j/\j<=l.length/\e.get 2= .slice ha hs.length hc/\e.get 3=pT p3/\e.get 7=sL I n (n+1)/\e.get 9=v9/\e.get 10=iV j/\bs.length=n/\H.get I=cE (bs.map boV) 1/\Fr1 I H1 H/\clP hs (l.drop j) bs=r)->
  w7 (LE prog t6 (.loop NB) e H) (fun o e H=>o= .exit 4/\e.get 2= .slice ha hs.length hc/\e.get 3=pT p3/\e.get 7=sL I n (n+1)/\e.get 9=v9/\r.length=n/\H.get I=cE (r.map boV) 1/\Fr1 I H1 H):=by
 refine i8 _ _ ?_;rintro kk e H ⟨j,bs,hk,hj,f2,S,W,f9,J,y,gb,a2,E⟩;have gp:=(a2.but p3 (u7 g3) b7).trans g3;rcases bb:decide ((j:Int)<l.length)with _|_
 .have b4:=dF bb;have:l.drop j=[]:=dN oM;rw[this,clP]at E;refine J5 S J gp r3 bb ?_;exact i9 ⟨rfl,f2,S,W,f9,by rw[<-E];exact y,by rw[<-E];exact gb,a2⟩
 have b4:=dT bb;have c7:=a2.stay.next;obtain⟨x,nb,o,cs,own,el,hx,hd,rfl,a8,hg,c6,D,c5,z⟩:=hv.row (i:=j) oM;have z:el=edE x:=z;obtain⟨w1,w2,w3,w4,w5⟩:=hw x (mG hx);have nt:(j:Int).toNat=j:=tN j;have gx:=(a2.but nb (hF _ a8).1 (hF _ a8).2).trans hg;have a1:el.all oC=true:=by rw[z];rfl
 have l1:el.length=4:=by rw[z];rfl
 have e0:el[0]?=some (.int .i64 x.1):=by rw[z];rfl
 have e1:el[1]?=some (.int .i64 x.2.1):=by rw[z];rfl
 have e2:el[2]?=some (.int .i64 x.2.2.1):=by rw[z];rfl
 have e3:el[3]?=some (.int .i64 x.2.2.2):=by rw[z];rfl
 obtain⟨H3,O,n3,X,s3⟩:=pushP H (bC [iV 0,iV 0,iV 0,iV 0] 1) (bC el 1);have a3:splice [iV 0,iV 0,iV 0,iV 0] 0 el=el:=x9 _ _ (by rw[l1];rfl);have U:Fr1 I H1 H3:=a2.trans (Fr1.of s3 oM (by rw[O,A4,l9];omega));have u:=(s3.get I oM).trans gb;have bg:=GI (bs:=bs) (i:=x.1.toNat) oM;have bl:(bs.map boV).length=bs.length:=sM;have b1:x.2.1.toNat*1+1<=n:=oM;obtain⟨H4,a4⟩:=eY (H3.put I (.cells ((bs.map boV).set (x.2.1.toNat*1) (.bool true)) true 1));have a7:H4.get I=some (.cells ((bs.set x.2.1.toNat true).map boV) true 1):=by rw[a4,j5 oM,Nat.mul_one,List.map_set]
 have a5:Fr1 I H1 H4:=U.trans (by rw[a4];exact Fr1.put);rw[hd,clP,gj]at E;have d1:decide ((x.1.toNat:Int)<n)=true:=decide_eq_true oM;rcases b0:bs.getD x.1.toNat false with _|_
 .rw[b0]at bg;simp only[b0,Bool.false_and,bF]at E;refine J18 S W J gp r3 bb gx nt D a1 l1 a3 O.symm X e0 u bg @wrap_small ?_;exact i4 (kk-1) oM ⟨j+1,bs,oM,oM,f2,S,W,f9,rfl,y,u,U,E⟩
 rw[b0]at bg;simp only[b0,Bool.true_and]at E;rcases k0:decide (x.2.2.1=0)with _|_
 .rcases k3:decide (x.2.2.1=3)with _|_
  .simp only[k0,k3,Bool.false_and,Bool.or_self,bF]at E;refine J21 S W J gp r3 bb gx nt D a1 l1 a3 O.symm X e0 e2 u bg k0 k3 @wrap_small ?_;exact i4 (kk-1) oM ⟨j+1,bs,oM,oM,f2,S,W,f9,rfl,y,u,U,E⟩
  .obtain⟨t1,t2⟩:=w5 (dT k3);have b6:SlF H3 F 1 (w9 boE) (.slice ha hs.length hc) hs:=hh.mono (fun j hj=>U.but j (hF j hj).1 (hF j hj).2) (fun _ h=>h) iF;obtain⟨v,nv,ov,cv,c3,b2,b9,_,rfl,c4,a9,c0,b8,b5,b3⟩:=b6.row (i:=x.2.2.2.toNat) oM;obtain rfl:b2=boE v:=b3;have a6:cv[ov+x.2.2.2.toNat*1]?=some (.bool v):=by have:=b5 0 oM;rw[Nat.add_zero]at this;exact this
   have ev:hs.getD x.2.2.2.toNat false=v:=by rw[List.getD_eq_getElem?_getD,b9];rfl
   cases v with
   |false=>
    simp only[k0,k3,ev,Bool.and_false,Bool.or_self,bF]at E;refine J25 f2 S W J gp r3 bb gx nt D a1 l1 a3 O.symm X e0 e2 e3 u bg k0 k3 a9 a6 @wrap_small ?_;exact i4 (kk-1) oM ⟨j+1,bs,oM,oM,f2,S,W,f9,rfl,y,u,U,E⟩
   |true=>
    simp only[k0,k3,ev,Bool.and_self,Bool.or_true,if_true]at E;refine J30 f2 S W J gp r3 bb gx nt D a1 l1 a3 O.symm X e0 e1 e2 e3 u bg y bl b1 k0 k3 a9 a6 a4.symm @wrap_small ?_;exact i4 (kk-1) oM ⟨j+1,_,oM,oM,f2,S,W,f9,rfl,by rw[List.length_set];exact y,a7,a5,E⟩
 .simp only[k0,Bool.true_or,if_true]at E;refine J25 S W J gp r3 bb gx nt D a1 l1 a3 O.symm X e0 e1 e2 u bg y bl b1 k0 a4.symm @wrap_small ?_;exact i4 (kk-1) oM ⟨j+1,_,oM,oM,f2,S,W,f9,rfl,by rw[List.length_set];exact y,a7,a5,E⟩
theorem wG(E:d8)(y W n:Nat)(hn:n<=1000000)(a6:y<E.next)(U:W≠y)(rp:LV)(g3:E.get W=cE rp 1)(F:Nat->Prop)(J:∀j,F j->j<E.next/\j≠y) (r0:rp[0]?=some (.int .i64 n))
  (va:Option Addr) (ca:Nat) (l:List EdD) (r3:rp[3]?=some (.slice va l.length ca)) (hv:SlF E F 4 (w9 edE) (.slice va l.length ca) l) (hl:l.length<=1000000)
  (ha:Option Addr) (hc:Nat) (hs:List Bool) (hh:SlF E F 1 (w9 boE) (.slice ha hs.length hc) hs) (hw:∀x∈l,0<=x.1/\x.1<n/\0<=x.2.1/\x.2.1<n/\(x.2.2.1=3->0<=x.2.2.2/\x.2.2.2<hs.length)) (r:List Bool):
  ∀kk e H,(∃(j:Nat)(bs:List Bool),kk=n-j/\j<=n/\e.get 2= .slice ha hs.length hc/\e.get 3=pT W/\e.get 7=sL y n (n+1)/\e.get 9=iV j/\bs.length=n/\H.get y=cE (bs.map boV) 1/\Fr1 y E H/\clI hs l (n-j) bs=r)->
  w7 (LE prog t6 (.loop NC) e H) (fun o e H=>o= .exit 2/\e.get 7=sL y n (n+1)/\r.length=n/\H.get y=cE (r.map boV) 1/\Fr1 y E H):=by
 refine i8 _ _ ?_;rintro kk e H ⟨j,bs,hk,D,f2,f3,f7,f9,S,gb,u,I⟩;have gp:=(u.but W (u7 g3) U).trans g3;have a5:=u.stay.next;rcases X:decide ((j:Int)<n)with _|_
 .have a3:=dF X;rw[show n-j=0 from oM,clI]at I;refine J5 f3 f9 gp r0 X ?_;exact i9 ⟨rfl,f7,by rw[<-I];exact S,by rw[<-I];exact gb,u⟩
 have a3:=dT X;rw[show n-j=(n-(j+1))+1 from oM,clI]at I;refine J5 f3 f9 gp r0 X ?_;refine j8 (F:=fun z=>w7 (u9 (inBlock 3 (inBlock 4 z)) _) _) (wH H y W n hn oM U rp gp F (fun j D=>by have:=J j D;exact⟨oM,this.2⟩) va ca l r3 (hv.mono (fun j D=>u.but j (J j D).1 (J j D).2) (fun _ h=>h) iF) hl ha hc hs (hh.mono (fun j D=>u.but j (J j D).1 (J j D).2) (fun _ h=>h) iF) hw (.int .i64 j) (clP hs l bs) (l.length-0) _ _ ⟨0,bs,rfl,Nat.zero_le _,f2,f3,f7,f9,rfl,S,gb,Fr1.refl _ _,rfl⟩) ?_;rintro o e' H' ⟨ho,g2,a1,g7,g9,a4,a2,O⟩;refine J3 ho g9 @wrap_small ?_;exact i4 (kk-1) oM ⟨j+1,_,oM,oM,g2,a1,g7,by rw[show((j+1:Nat):Int)=(j:Int)+1 from oM];rfl,a4,a2,u.trans O,I⟩
theorem wF(D:d8)(h n:Nat)(hn:n<=1000000)(a7:h<D.next)(q:Nat)(hq:q<n)(F:Nat->Prop)(hF:∀j,F j->j<D.next/\j≠h) (qa:Option Addr) (qc:Nat) (a1:SlF D F 1 (w9 inE) (.slice qa 1 qc) [(q:Int)]) (v2 v3:Value):
  ∀kk e H,(∃(j:Nat)(bs:List Bool),kk=1-j/\j<=1/\e.get 1= .slice qa 1 qc/\e.get 2=v2/\e.get 3=v3/\e.get 7=sL h n (n+1)/\e.get 8=iV j/\bs=(if j=0 then List.replicate n false else(List.replicate n false).set q true)/\H.get h=cE (bs.map boV) 1/\Fr1 h D H)->
  w7 (LE prog t6 (.loop NA) e H) (fun o e H=>o= .exit 0/\e.get 2=v2/\e.get 3=v3/\e.get 7=sL h n (n+1)/\H.get h=some (.cells (((List.replicate n false).set q true).map boV) true 1)/\Fr1 h D H):=by
 refine i8 _ _ ?_;rintro kk e H ⟨j,bs,hk,hj,J,f2,f3,O,f8,y,gb,u⟩;rcases bb:decide ((j:Int)<1)with _|_
 .have U:=dF bb;obtain rfl:j=1:=oM;simp only[show¬(1:Nat)=0 from oM,if_false]at y;subst y;refine J2 J f8 ?_;exact i9 ⟨rfl,f2,f3,O,gb,u⟩
 have U:=dT bb;obtain rfl:j=0:=oM;simp only[if_true]at y;subst y;obtain⟨x,nb,o,cs,own,el,hx,hd,rfl,E,hg,a5,a4,W,X⟩:=a1.row (i:=0) sM;obtain rfl:el=inE x:=X;have hx:x=(q:Int):=by simpa using hx.symm
 subst hx;have gx:=(u.but nb (hF _ E).1 (hF _ E).2).trans hg;have c0:cs[o]?=some (.int .i64 q):=by have:=W 0 oM;simpa using this
 have bl:((List.replicate n false).map boV).length=n:=sM;have a2:q*1+1<=n:=oM;have a3:(q:Int).toNat=q:=tN q;have dq:decide ((q:Int)<n)=true:=decide_eq_true oM;have a6:=u.stay.next;obtain⟨H4,z⟩:=eY (H.put h (.cells (((List.replicate n false).map boV).set (q*1) (.bool true)) true 1));have S:H4.get h=some (.cells (((List.replicate n false).set q true).map boV) true 1):=by rw[z,j5 oM,Nat.mul_one,List.map_set]
 have I:Fr1 h D H4:=u.trans (by rw[z];exact Fr1.put);refine J11 J O f8 gx c0 gb bl a2 a3 z.symm @wrap_small ?_;exact i4 (kk-1) oM ⟨1,_,oM,oM,J,f2,f3,O,rfl,rfl,S,I⟩
theorem Qg(H:d8)(F:Nat->Prop)(Rt:LV->Q->Prop)(cs:LV)(p:PrD)(hF:∀j,F j->j<H.next) (hp:PrF H F Rt cs p) (n:Nat) (S:p.st=n) (hn:n<=1000000) (hl:p.ed.length<=1000000) (q:Nat) (hq:q<n) (qa:Option Addr) (qc:Nat) (b1:SlF H F 1 (w9 inE) (.slice qa 1 qc) [(q:Int)])
  (I:Option Addr) (hc:Nat) (hs:List Bool) (hh:SlF H F 1 (w9 boE) (.slice I hs.length hc) hs) (hw:∀x∈p.ed,0<=x.1/\x.1<p.st/\0<=x.2.1/\x.2.1<p.st/\(x.2.2.1=3->0<=x.2.2.2/\x.2.2.2<hs.length)):
  L8 (CL prog t6 45 [.agg cs.toArray,.slice qa 1 qc,.slice I hs.length hc] H) H 1 (w9 boE) (eJ hs p q):=by
 obtain⟨ea,ec,ta,tc,J,h1,h2⟩:=D5 hp;have ac:cs.all oC=true:=by rw[J];rfl
 have c0:cs[0]?=some (.int .i64 n):=by rw[J,S];rfl
 have c3:cs[3]?=some (.slice ea p.ed.length ec):=by rw[J];rfl
 obtain⟨D,W,n1,g1,s1⟩:=pushF H (bC cs 1);have O:H.next<=D.low:=by rw[W];exact lR
 obtain⟨H2,X,n2,a5,s2⟩:=pushE D (.cells ((List.replicate n false).map boV) true 1);have a9:N0 prog D 83 (.int .i64 n) (.int .i64 n)=some (sL D.next n (n+1),H2):=by
  have e1:(List.replicate n [Value.bool false]).flatten=(List.replicate n false).map boV:=by
   rw[List.flatten_replicate_singleton,List.map_replicate]
  simp only[N0,Ja.2.2.2.2.2.1,ty4.2.2.1,ty4.2.1,Int.toNat_natCast,e1];rw[if_pos ⟨by decide,oM,Int.le_refl _,oM,oM⟩,X];rfl
 have a4:H2.get H.next=cE cs 1:=(s2.get _ oM).trans g1;have a3:i6 H.next H H2:=s1.trans (s2.weaken oM);have u:∀j,F j->j<H2.next/\j≠D.next:=fun j y=>oN (hF j y);have hm:∀j,F j->H2.get j=H.get j:=fun j y=>a3.get j (hF j y);have a1:H.next<=H2.low:=by rw[X,l9];exact O
 rw[j7 Hn rfl _ sM];refine J5 ac W.symm g1 c0 a9 ?_;refine j8 (F:=fun z=>L8 (u5 _ _ _ (u9 (inBlock 0 z) _)) _ _ _ _) (wF H2 D.next n hn oM q hq F u qa qc (b1.mono hm (fun _ h=>h) iF) (.slice I hs.length hc) (pT H.next) (1-0) _ _ ⟨0,_,rfl,oM,rfl,rfl,rfl,rfl,rfl,rfl,a5,Fr1.refl _ _⟩) ?_;rintro o e' H3 ⟨ho,k2,k3,k7,a6,U⟩;have n3:=U.stay.next;refine J1 ho ?_;refine j8 (F:=fun z=>L8 (u5 _ _ _ (u9 (inBlock 2 z) _)) _ _ _ _) (wG H3 D.next H.next n hn oM oM cs ((U.but _ oM oM).trans a4) F (fun j y=>by have:=u j y;exact⟨oM,this.2⟩) c0 ea ec p.ed c3 (h1.mono (fun j y=>(U.but j (u j y).1 (u j y).2).trans (hm j y)) (fun _ h=>h) iF) hl I hc hs (hh.mono (fun j y=>(U.but j (u j y).1 (u j y).2).trans (hm j y)) (fun _ h=>h) iF) (fun x hx=>by have:=hw x hx;rw[S]at this;exact this) (eJ hs p q) (n-0) _ _ ⟨0,_,rfl,Nat.zero_le _,k2,k3,k7,rfl,by simp,a6,Fr1.refl _ _,by rw[eJ,S];rfl⟩) ?_;rintro o2 e2 H4 ⟨b0,m7,a8,a7,F4⟩;have E:=U.trans F4;have n4:=E.stay.next;have s4:i6 H.next H H4:=a3.trans (E.stay.weaken oM);have a2:H.next<=H4.low:=(E.stay.weaken (show H.next<=D.next from oM)).low a1;refine J2 b0 m7 ?_;refine F0 ⟨(eJ hs p q).map boV,.inr ⟨D.next,n+1,by rw[a8],a7,oM,by simp⟩,by simp,fun i a I=>?_⟩ s4 a2;rw[Nat.mul_one,List.drop_eq_getElem_cons (by simpa using (gS I).1),List.take_succ_cons,List.take_zero];simp only[List.getElem_map];rw[(gS I).2]
structure vR(Hs:d8)(lo K:Nat)(s:StD)(e:EvD)(bs:List Bool)(F:Nat->Prop)(H:d8)(rs re:LV)(ba:Option Addr)(bc:Nat):Prop where
 st:StF H F (QR Hs lo K false) (QR Hs lo K true) rs s
 ev:EvF H F re e
 bi:SlF H F 1 (w9 rn) (.slice ba bs.length bc) bs
 lt:∀j,F j->j<H.next
 eq:∀j,j<lo->H.get j=Hs.get j
 lo:lo<=H.next
theorem vR.work{D:d8}{lo K:Nat}{s:StD}{e:EvD}{bs:List Bool}{F:Nat->Prop}{H H':d8}{O J:LV}{E:Option Addr}{I:Nat}(h:vR D lo K s e bs F H O J E I)(y:i6 H.next H H'):vR D lo K s e bs F H' O J E I:=by
 have U:=y.next;have z:∀j,F j->H'.get j=H.get j:=fun j u=>y.get j (h.lt j u);have S:=h.lo;exact⟨h.st.mono z (fun _ h=>h) iF iF,y9 _ _ _ _ _ _ h.ev z (fun _ h=>h),h.bi.mono z (fun _ h=>h) iF,fun j u=>by have:=h.lt j u;omega,fun j u=>by rw[y.get j oM];exact h.eq j u,oM⟩
def iU(Hs:d8)(lo K k:Nat):Prop:=∀(H:d8)(s:StD)(e:EvD)(bs:List Bool)(F:Nat->Prop)(rs re:LV)(ba:Option Addr)(bc:Nat)(cs:LV)(q:Q),vR Hs lo K s e bs F H rs re ba bc->WfS s bs.length->e.attrs.length<=1000000->QR Hs lo k true cs q->OkD true q->
 CL prog t6 44 [.agg rs.toArray,.agg cs.toArray,.agg re.toArray,.slice ba bs.length bc] H=some (.bool (D4 s e bs q),none)
theorem qM(X:d8)(lo K k:Nat)(ih:iU X lo K k)(s:StD)(z:EvD)(bs:List Bool)(F:Nat->Prop)(H:d8)(D S:LV)(ba:Option Addr)(bc:Nat)(W:vR X lo K s z bs F H D S ba bc)(hw:WfS s bs.length)(a3:z.attrs.length<=1000000)
  (ps pf pe:Nat) (gs:H.get ps=cE D 1) (cs:LV) (gf:H.get pf=cE cs 1) (ge:H.get pe=cE S 1) (va:Option Addr) (ca:Nat) (l:List Q) (c4:cs[4]?=some (.slice va l.length ca)) (hv:QsR X lo k true (.slice va l.length ca) l) (hl:l.length<=1048576) (a6:∀x∈l,OkD true x) (r:Bool×Bool):
  ∀kk e H2,(∃(i:Nat)(a o:Bool),kk=l.length-i/\i<=l.length/\e.get 3= .slice ba bs.length bc/\e.get 4=pT ps/\e.get 5=pT pf/\e.get 6=pT pe/\e.get 9= .bool a/\e.get 10= .bool o/\e.get 11=iV i/\H2=H/\(a&&(l.drop i).all (D4 s z bs),o||(l.drop i).any (D4 s z bs))=r)->
  w7 (LE prog t6 (.loop Ny) e H2) (fun o e H2=>o= .exit 0/\e.get 5=pT pf/\e.get 9= .bool r.1/\e.get 10= .bool r.2/\H2=H):=by
 refine i8 _ _ ?_;rintro kk e H2 ⟨i,a,o,hk,hi,f3,f4,U,f6,f9,E,I,rfl,y⟩;rcases b:decide ((i:Int)<l.length)with _|_
 .have a4:=dF b;have:l.drop i=[]:=dN oM;rw[this]at y;simp only[List.all_nil,List.any_nil,Bool.and_true,Bool.or_false]at y;refine J5 U I gf c4 b ?_;exact i9 ⟨rfl,U,by rw[<-y];exact f9,by rw[<-y];exact E,rfl⟩
 have a4:=dT b;obtain⟨x,nb,ox,a9,own,el,hx,hd,rfl,a5,hg,b1,u,hr⟩:=hv.row (i:=i) oM;have O:=(W.eq nb a5).trans hg;simp only[qSz,if_true]at u O;have nt:(i:Int).toNat=i:=tN i;have a2:D.all oC=true/\ldC (some true) (some 8) 0 D=some (.agg D.toArray):=by
  obtain⟨pa,pc,ga,gc,xa,xc,ea,ec,ta,tc,a8,_⟩:=F1 W.st;rw[a8];exact⟨rfl,rfl⟩
 have a1:ldC (some true) (some 5) 0 S=some (.agg S.toArray):=by
  obtain⟨av,a7,b0⟩:=W.ev;rw[a7];rfl
 have J:=ih H2 s z bs F D S ba bc el x W hw a3 hr (a6 x (mG hx));rw[hd,List.all_cons,List.any_cons]at y;obtain⟨h,hh⟩:=eY (D4 s z bs x);rw[<-hh]at J y;cases a<;>cases o<;>cases h<;>
 .refine J19 f3 f4 U f6 f9 E I gf c4 b gs ge a2.2 a1 O nt u J @wrap_small ?_;refine i4 (kk-1) oM ⟨i+1,_,_,oM,oM,f3,f4,U,f6,rfl,rfl,by rw[show((i+1:Nat):Int)=(i:Int)+1 from oM];rfl,rfl,?_⟩
  simpa using y
def mA(op:Int)(nm:NmQ)(vl:ByteArray):List AtD->Option Bool
 |[]=>none
 |a::l=>if L3 (a.space,a.loc) nm then some (decide (op=5)||decide (a.val=vl)) else mA op nm vl l
theorem tv(op:Int)(nm:NmQ)(vl:ByteArray):∀l,mA op nm vl l=if(A7 1 nm l).2 then some (decide (op=5)||decide ((A7 1 nm l).1=vl)) else none
 |[]=>rfl
 |a::l=>by
  rw[mA,A7];split
  .rfl
  .exact tv op nm vl l
theorem xq(H:d8)(F:Nat->Prop)(pf pe:Nat)(cs re:LV)(gf:H.get pf=cE cs 1)(O:H.get pe=cE re 1)(op:Int)(nm:NmQ)(vl:ByteArray)(X:cs[0]?=some (.int .i64 op))(D:ldC (some true) (some 2) 1 cs=some (.agg #[.string nm.1,.string nm.2]))(c3:cs[3]?=some (.string vl))
  (va:Option Addr) (ca:Nat) (l:List AtD) (S:re[3]?=some (.slice va l.length ca)) (hv:SlF H F 3 (w9 atE) (.slice va l.length ca) l) (hn:l.length<=1000000) (r:Option Bool):
  ∀kk e H2,(∃i:Nat,kk=l.length-i/\i<=l.length/\e.get 5=pT pf/\e.get 6=pT pe/\e.get 14=iV i/\H2=H/\(if 5<=op then mA op nm vl (l.drop i) else none)=r)->
  w7 (LE prog t6 (.loop Nz) e H2) (fun o e H2=>H2=H/\((o= .exit 2/\r=none/\e.get 5=pT pf)\/(∃b,o= .ret/\r=some b/\e.get 8= .bool b))):=by
 refine i8 _ _ ?_;rintro kk e H2 ⟨i,hk,hi,E,I,u,rfl,h⟩;rcases b:decide ((i:Int)<l.length)with _|_
 .have a1:=dF b;have:l.drop i=[]:=dN oM;rw[this,mA,ite_self]at h;refine J5 I u O S b ?_;exact i9 ⟨rfl,.inl ⟨rfl,h.symm,E⟩⟩
 have a1:=dT b;rcases z:decide (5<=op)with _|_
 .rw[if_neg (dF z)]at h;refine J9 E I u O gf X S b z ?_;exact i9 ⟨rfl,.inl ⟨rfl,h.symm,E⟩⟩
 rw[if_pos (dT z)]at h;obtain⟨a,nb,o,J,own,el,hx,hd,rfl,a4,hg,a2,a3,hc,rfl⟩:=hv.row (i:=i) oM;have nt:(i:Int).toNat=i:=tN i;have l0:ldC (some true) (some 2) (o+i*3) J=some (.agg #[.string a.space,.string a.loc]):=sR hc a2 (j:=0) (m:=2) oM;have l2:J[o+i*3+2]?=some (.string a.val):=hc 2 oM;rw[hd,mA]at h;rcases U:L3 (a.space,a.loc) nm with _|_
 .simp only[U,bF]at h;have y:(decide (a.space=nm.1)&&decide (a.loc=nm.2))=false:=U;refine J15 E I u O gf X D S b z hg nt l0 y @wrap_small ?_;exact i4 (kk-1) oM ⟨i+1,oM,oM,E,I,by rw[show((i+1:Nat):Int)=(i:Int)+1 from oM];rfl,rfl,by rw[if_pos (dT z)];exact h⟩
 .simp only[U,if_true]at h;have y:(decide (a.space=nm.1)&&decide (a.loc=nm.2))=true:=U;rcases W:decide (op=5)with _|_
  .simp only[W,Bool.false_or]at h;refine J17 E I u O gf X D c3 S b z W hg nt l0 l2 y ?_;exact z9 ⟨rfl,.inr ⟨_,rfl,h.symm,rfl⟩⟩
  .simp only[W,Bool.true_or]at h;refine J15 E I u O gf X D S b z W hg nt l0 y ?_;exact z9 ⟨rfl,.inr ⟨_,rfl,h.symm,rfl⟩⟩
theorem uC(Hs:d8)(lo K k:Nat)(hk:k<=K)(ih:iU Hs lo K k):iU Hs lo K (k+1):=by
 intro H s e bs F rs re ba bc cs q hA hw a7 hr j1;obtain⟨d0,p0,o6,f4,k4⟩:=j1.parts;obtain⟨k6,k7,f5,p3⟩:=dE k4;have m0:q.op<=11:=by
  simp only[iG,if_true,Bool.and_eq_true,decide_eq_true_eq]at f4;exact f4.1.1
 simp only[if_true]at f5;have a1:=F7 hr;have l6:=hr.len;have f2:=N5 hr;rw[l6]at f2;simp only[qSz,if_true]at l6 f2;obtain⟨va,ca,wa,f6,a6,h1,h2,h3,h4,_⟩:=hr.filter;have W:cs[0]?=some (.int .i64 q.op):=by rw[a6];rfl
 have c3:cs[3]?=some (.string q.vl):=by rw[a6];rfl
 have c4:cs[4]?=some (.slice va q.a.length ca):=by rw[a6];rfl
 have c5:cs[5]?=some (.slice wa q.b.length f6):=by rw[a6];rfl
 have d4:ldC (some true) (some 2) 1 cs=some (.agg #[.string q.sp,.string q.lc]):=by rw[a6];rfl
 obtain⟨pa,pc,ga,gc,xa,xc,ea,ec,ta,tc,a8,m1,m2,m3,_⟩:=F1 hA.st;obtain⟨av,a5,d7⟩:=hA.ev;obtain⟨d1,d2,rfl⟩:=d7.slice;have E:rs.all oC=true:=by rw[a8];rfl
 have D:re.all oC=true:=by rw[a5];rfl
 have c9:ldC (some true) (some 8) 0 rs=some (.agg rs.toArray):=by rw[a8];rfl
 have k3:ldC (some true) (some 5) 0 re=some (.agg re.toArray):=by rw[a5];rfl
 have r1:rs[1]?=some (.slice ga s.progs.length gc):=by rw[a8];rfl
 have r2:rs[2]?=some (.slice xa s.base.length xc):=by rw[a8];rfl
 have e0:re[0]?=some (.int .i64 e.kind):=by rw[a5];rfl
 have e3:re[3]?=some (.slice d1 e.attrs.length d2):=by rw[a5];rfl
 have e4:re[4]?=some (.string e.text):=by rw[a5];rfl
 have e1:ldC (some true) (some 2) 1 re=some (.agg #[.string e.space,.string e.loc]):=by rw[a5];rfl
 obtain⟨H1,u⟩:=eY (((d8.push ⟨H.bs,H.next⟩ (bC rs 1)).push (bC cs 1)).push (bC re 1));have n0:(d8.push ⟨H.bs,H.next⟩ (bC rs 1)).next=H.next+1:=by rw[i5];rfl
 have n1:H1.next=H.next+3:=by rw[u,i5,i5,n0]
 have s1:i6 H.next H H1:=by rw[u];exact((i6.first H _).trans (i6.push oM)).trans (i6.push (by rw[i5];omega))
 have g4:H1.get H.next=cE rs 1:=by rw[u,i7 (by rw[i5];omega),i7 oM];exact j9
 have S:H1.get (H.next+1)=cE cs 1:=by rw[u,i7 (by rw[i5];omega)];exact y7 oM
 have g6:H1.get (H.next+2)=cE re 1:=by rw[u];exact y7 (by rw[i5];omega)
 have l8:H.next<=H1.low:=by rw[u];exact lR
 have J:=hA.work s1;rw[j7 KS rfl _ sM,qt];by_cases o8:q.op=8
 .have i3:q.a.length=1:=by simp only[o8,lst,mst,if_true]at k6 k7;omega
  obtain⟨x,nb,ox,f7,own,el,hx,hd,rfl,c7,hg,j0,U,c8⟩:=h1.row (i:=0) oM;have a4:=(J.eq nb c7).trans hg;simp only[qSz,if_true,Nat.zero_mul,Nat.add_zero]at U a4;have h6:=ih H1 s e bs F rs re ba bc el x J hw a7 c8 (d0 x (mG hx));have g9:q.a=[x]:=by
   have:q.a.drop 1=[]:=dN oM
   simpa [this] using hd
  rw[if_neg oM,if_neg oM,if_neg oM,if_neg oM,if_neg oM,if_neg oM,if_neg oM,if_pos (.inl o8),g9];have hb:((List.any [x] fun x=> !D4 s e bs x)==decide (q.op=8))= !D4 s e bs x:=by simp [o8]
  rw[hb];exact J16 E a1 D u.symm g4 S g6 c9 k3 W c4 o8 i3 a4 U h6 trivial
 have b8:decide (q.op=8)=false:=decide_eq_false o8;have k8:(q.op=8\/q.op=9)=(q.op=9):=by rw[eq_false o8,false_or]
 by_cases b0:q.op=9\/q.op=10
 .obtain⟨A,b5⟩:=eY (q.a.all (D4 s e bs));obtain⟨O,b6⟩:=eY (q.a.any (D4 s e bs));have e7:(if q.op=1 then true else if q.op=2 then decide (e.kind=1) else if q.op=3 then !decide (e.kind=1) else if q.op=4 then decide (e.kind=1)&&L3 (e.space,e.loc) (q.sp,q.lc) else
    if q.op=5 then(A7 e.kind (q.sp,q.lc) e.attrs).2 else if q.op=6 then(A7 e.kind (q.sp,q.lc) e.attrs).2&&decide ((A7 e.kind (q.sp,q.lc) e.attrs).1=q.vl) else if q.op=7 then !decide (e.kind=1)&&decide (e.text=q.vl) else
    if q.op=8\/q.op=9 then(q.a.any (fun x=> !D4 s e bs x)==decide (q.op=8)) else if q.op=10 then q.a.any (D4 s e bs) else q.b.any (dJ s bs))=(if q.op=9 then A else O):=by
   rw[if_neg oM,if_neg oM,if_neg oM,if_neg oM,if_neg oM,if_neg oM,if_neg oM];simp only[k8,b8];by_cases o9:q.op=9
   .rw[if_pos o9,if_pos o9,b5,List.all_eq_not_any_not];cases(q.a.any fun x=> !D4 s e bs x)<;>rfl
   .rw[if_neg o9,if_neg o9,if_pos oM,b6]
  rw[e7];rcases b9:decide (q.op=9)with _|_
  .have X:decide (q.op=10)=true:=decide_eq_true (oN (dF b9));rw[if_neg (dF b9)];refine J9 E a1 D u.symm S W b8 b9 X ?_;refine j8 (F:=fun z=>u5 _ _ _ (u9 (u9 (inBlock 0 z) _) _)=_) (qM Hs lo K k ih s e bs F H1 rs re ba bc J hw a7 H.next (H.next+1) (H.next+2) g4 cs S g6 va ca q.a c4 h1 h3 d0 (A,O) (q.a.length-0) _ _ ⟨0,true,false,rfl,Nat.zero_le _,rfl,rfl,rfl,rfl,rfl,rfl,rfl,rfl,by rw[List.drop_zero,b5,b6];simp⟩) ?_;rintro o e' H' ⟨ho,k5,k9,f1,rfl⟩;cases A<;>cases O<;>simp(maxSteps:=20000000) -dsimp (disch:=first|omega|(simp only[rH]<;>omega)|fail) only[↓ig,rQ,N3,sevalprocAttr,tyA,ho,k5,f1,S,W,b9,X]
  .have X:decide (q.op=10)=false:=decide_eq_false (oN (dT b9));rw[if_pos (dT b9)];refine J8 E a1 D u.symm S W b8 b9 ?_;refine j8 (F:=fun z=>u5 _ _ _ (u9 (u9 (inBlock 0 z) _) _)=_) (qM Hs lo K k ih s e bs F H1 rs re ba bc J hw a7 H.next (H.next+1) (H.next+2) g4 cs S g6 va ca q.a c4 h1 h3 d0 (A,O) (q.a.length-0) _ _ ⟨0,true,false,rfl,Nat.zero_le _,rfl,rfl,rfl,rfl,rfl,rfl,rfl,rfl,by rw[List.drop_zero,b5,b6];simp⟩) ?_;rintro o e' H' ⟨ho,k5,k9,f1,rfl⟩;cases A<;>cases O<;>simp(maxSteps:=20000000) -dsimp (disch:=first|omega|(simp only[rH]<;>omega)|fail) only[↓ig,rQ,N3,sevalprocAttr,tyA,ho,k5,k9,S,W,b9,X]
 have o9:q.op≠9:=fun h=>b0 (.inl h);have f3:q.op≠10:=fun h=>b0 (.inr h);have b9:decide (q.op=9)=false:=decide_eq_false o9;have X:decide (q.op=10)=false:=decide_eq_false f3;by_cases a9:q.op=11
 .have e2:q.b.length=1:=f5.1 a9;obtain⟨x,nb,ox,f7,own,el,hx,hd,rfl,c7,hg,j0,U,c8⟩:=h2.row (i:=0) oM;have a4:=(J.eq nb c7).trans hg;simp only[qSz,Bool.not_true,bF,Nat.zero_mul,Nat.add_zero]at U a4;have h0:q.b=[x]:=by
   have:q.b.drop 1=[]:=dN oM
   simpa [this] using hd
  have e6:∀j,j<lo->H1.get j=Hs.get j:=J.eq;have a2:=io K H1 F lo (QR Hs lo K true) rs el s x J.lo J.lt (J.st.mono (fun _ _=>rfl) (fun _ h=>h) (fun _ _ h=>h.mono e6 lR) iF) ((c8.upTo hk).mono e6 lR) hw.l0;rw[if_neg oM,if_neg oM,if_neg oM,if_neg oM,if_neg oM,if_neg oM,if_neg oM,if_neg oM,if_neg oM,h0];simp only[List.any_cons,List.any_nil,Bool.or_false];rw[dJ];have a3:=dS (fun y=>M6 y x) s.paths 0;obtain⟨z,hz⟩:=eY (jl s.paths x);rw[<-hz]at a2 ⊢;rw[show ixG (fun y=>M6 y x) s.paths 0=z from hz.symm]at a3;rcases bz:decide (0<=z)with _|_
  .exact J15 E a1 D u.symm g4 S c9 W c5 a9 e2 a4 U a2 bz trivial
  have n4:=dT bz;have f0:z.toNat<s.paths.length:=by rcases a3 with q|q<;>omega
  have e5:∀j,F j->H1.get j=H.get j:=fun j hj=>s1.get j (hA.lt j hj);obtain⟨xb,o0,o3,m7,m4,g0,e8,_,rfl,m9,i0,l3,j3,h7,g3⟩:=(SlF.mono m3 e5 (fun _ h=>h) iF).row (i:=z.toNat) (by rw[hw.l2];exact f0);obtain⟨xp,np,op,cp,m5,m8,e9,_,rfl,n2,i1,l4,j4,h8,g7⟩:=(SlF.mono m2 e5 (fun _ h=>h) iF).row (i:=z.toNat) (by rw[hw.l1];exact f0);obtain rfl:g0=inE xb:=g3;obtain⟨_,_,_,_,d9,_⟩:=D5 g7;have d5:=h7 0 oM;have d6:=h8 1 oM;rw[d9]at d6;rw[Nat.add_zero]at d5;obtain⟨w1,w2,w3⟩:=hw.at_ z.toNat xp xb e9 e8;have n8:=w3.sa;have n9:=w3.st;have n7:=hw.nle;have eb:s.base.getD z.toNat 0=xb:=by rw[List.getD_eq_getElem?_getD,e8];rfl
  have ep:(s.progs.getD z.toNat ⟨0,0,0,[],[]⟩).sa=xp.sa:=by rw[List.getD_eq_getElem?_getD,e9];rfl
  rw[eb,ep,ax];obtain⟨bv,nv,ov,cv,m6,g1,k1,_,rfl,n3,i2,l5,k0,h9,g8⟩:=J.bi.row (i:=(xb+xp.sa).toNat) oM;obtain rfl:g1=rn bv:=g8;have f8:cv[ov+(xb+xp.sa).toNat*1]?=some (.int .u8 (if bv=true then 1 else 0)):=by have:=h9 0 oM;rw[Nat.add_zero]at this;exact this
  have f9:bs.getD (xb+xp.sa).toNat false=bv:=by rw[List.getD_eq_getElem?_getD,k1];rfl
  rw[f9];have n5:=hw.l1;have n6:=hw.l2;have db:decide ((if bv=true then(1:Int) else 0)=1)=bv:=by cases bv<;>rfl
  exact J25 E a1 D u.symm g4 S c9 W c5 a9 e2 a4 U a2 bz r1 r2 i0 d5 i1 d6 i2 f8 db @wrap_small trivial
 have d3:decide (q.op=11)=false:=decide_eq_false a9;rw[if_neg (by omega:¬(q.op=8\/q.op=9)),if_neg f3];by_cases o1:q.op=1
 .rw[if_pos o1];exact J7 E a1 D u.symm S W o1 trivial
 rw[if_neg o1];have b1:decide (q.op=1)=false:=decide_eq_false o1;by_cases o3:q.op=3
 .rw[if_neg oM,if_pos o3];rcases d:decide (e.kind=1)with _|_
  .exact J10 E a1 D u.symm S g6 W e0 o3 d trivial
  .exact J10 E a1 D u.symm S g6 W e0 o3 d trivial
 have b3:decide (q.op=3)=false:=decide_eq_false o3;by_cases o7:q.op=7
 .rw[if_neg oM,if_neg o3,if_neg oM,if_neg oM,if_neg oM,if_pos o7];rcases d:decide (e.kind=1)with _|_
  .exact J12 E a1 D u.symm S g6 W c3 e0 e4 o7 d trivial
  .exact J10 E a1 D u.symm S g6 W e0 o7 d trivial
 have b7:decide (q.op=7)=false:=decide_eq_false o7;have g2:∀(k:Int)(nm:NmQ),k≠1->∀l,(A7 k nm l).2=false:=by
  intro k nm hk l;induction l with
  |nil=>rfl
  |cons a l ih=>
   rw[A7];split
   .exact decide_eq_false hk
   .exact ih
 rcases d:decide (e.kind=1)with _|_
 .have c6:e.kind≠1:=dF d;have j2:(if q.op=2 then false else if q.op=3 then !false else if q.op=4 then false&&L3 (e.space,e.loc) (q.sp,q.lc) else
    if q.op=5 then(A7 e.kind (q.sp,q.lc) e.attrs).2 else if q.op=6 then(A7 e.kind (q.sp,q.lc) e.attrs).2&&decide ((A7 e.kind (q.sp,q.lc) e.attrs).1=q.vl) else if q.op=7 then !false&&decide (e.text=q.vl) else q.b.any (dJ s bs))=false:=by
   rw[g2 _ _ c6];by_cases o2:q.op=2
   .rw[if_pos o2]
   .rw[if_neg o2,if_neg o3];by_cases o4:q.op=4
    .rw[if_pos o4];rfl
    .rw[if_neg o4];by_cases o5:q.op=5
     .rw[if_pos o5]
     .rw[if_neg o5,if_pos oM];rfl
  rw[j2];exact J16 E a1 D u.symm S g6 W e0 b1 b3 b7 b8 b9 X d3 d trivial
 have c6:e.kind=1:=dT d;by_cases o4:q.op=4
 .rw[if_neg oM,if_neg o3,if_pos o4];exact J12 E a1 D u.symm S g6 W d4 e0 e1 o4 d trivial
 have b4:decide (q.op=4)=false:=decide_eq_false o4;rw[if_neg o3,if_neg o4,if_neg o7,c6];refine J17 E a1 D u.symm S g6 W e0 b1 b3 b4 b7 b8 b9 X d3 d ?_;refine j8 (F:=fun z=>u5 _ _ _ (u9 (inBlock 2 z) _)=_) (xq H1 F (H.next+1) (H.next+2) cs re S g6 q.op (q.sp,q.lc) q.vl W d4 c3 d1 d2 e.attrs e3 (d7.mono (fun j hj=>s1.get j (hA.lt j hj)) (fun _ h=>h) iF) a7 (if 5<=q.op then mA q.op (q.sp,q.lc) q.vl e.attrs else none) (e.attrs.length-0) _ _ ⟨0,rfl,Nat.zero_le _,rfl,rfl,rfl,rfl,rfl⟩) ?_;rw[tv];rintro o e' H' ⟨rfl,⟨ho,I,k5⟩|⟨bb,ho,I,k2⟩⟩
 .by_cases o2:q.op=2
  .rw[if_pos o2];exact J5 ho k5 S W o2 trivial
  .rw[if_neg o2];have b2:decide (q.op=2)=false:=decide_eq_false o2;rw[if_pos oM]at I;have hf:(A7 1 (q.sp,q.lc) e.attrs).2=false:=by
    cases h:(A7 1 (q.sp,q.lc) e.attrs).2 with
    |false=>rfl
    |true=>rw[h]at I;cases I
   rw[hf];simp only[Bool.false_and,ite_self];have hq:(if q.op=5 then false else if q.op=6 then false else q.b.any (dJ s bs))=false:=by
    by_cases o5:q.op=5
    .rw[if_pos o5]
    .rw[if_neg o5,if_pos oM]
   rw[hq];exact J5 ho k5 S W b2 trivial
 .have h5:5<=q.op:=by
   by_cases h5:5<=q.op
   .exact h5
   .rw[if_neg h5]at I;cases I
  rw[if_pos h5]at I;have hf:(A7 1 (q.sp,q.lc) e.attrs).2=true:=by
   cases h:(A7 1 (q.sp,q.lc) e.attrs).2 with
   |true=>rfl
   |false=>rw[h]at I;cases I
  rw[hf]at I ⊢;simp only[if_true,Option.some.injEq]at I;rw[if_neg oM];have hq:(if q.op=5 then true else if q.op=6 then true&&decide ((A7 1 (q.sp,q.lc) e.attrs).1=q.vl) else q.b.any (dJ s bs))=bb:=by
   by_cases o5:q.op=5
   .rw[if_pos o5,<-I,o5];rfl
   .rw[if_neg o5,if_pos oM,<-I,decide_eq_false o5];rfl
  rw[hq];exact J2 ho k2 trivial
theorem xr(h:d8)(lo K:Nat):∀k,k<=K+1->iU h lo K k:=by
 intro k;induction k with
 |zero=>intro _ H s e bs F J I z D cs q _ _ _ u;exact u.elim
 |succ k y=>intro E;exact uC h lo K k oM (y oM)
structure EnS(v4 v5 v6 v7 v8 v9 v10 v11:Value)(e:Env):Prop where
 g4:e.get 4=v4
 g5:e.get 5=v5
 g6:e.get 6=v6
 g7:e.get 7=v7
 g8:e.get 8=v8
 g9:e.get 9=v9
 g10:e.get 10=v10
 g11:e.get 11=v11
theorem vL(Hs:d8)(lo K:Nat)(s:StD)(y:EvD)(bs:List Bool)(F:Nat->Prop)(u:d8)(U S:LV)(X:Option Addr)(bc:Nat)(hA:vR Hs lo K s y bs F u U S X bc)(hw:WfS s bs.length)(a7:y.attrs.length<=1000000)
  (ps pe pm:Nat) (gs:u.get ps=cE U 1) (ge:u.get pe=cE S 1) (rp:LV) (gm:u.get pm=cE rp 1) (va:Option Addr) (ca:Nat) (l:List Q) (p4:rp[4]?=some (.slice va l.length ca)) (hv:SlF u F 6 (QR Hs lo K true) (.slice va l.length ca) l) (hn:l.length<=1000000) (b0:∀x∈l,OkD true x) (v6 v7 v8 W:Value):
  ∀kk e H2,(∃(i:Nat)(w:Value),kk=l.length-i/\i<=l.length/\EnS (pT ps) (pT pe) v6 v7 v8 (.slice X bs.length bc) W (pT pm) e/\e.get 12=w/\e.get 13=iV i/\i6 u.next u H2/\u6 H2 u.next 1 (w9 boE) w ((l.take i).map (D4 s y bs)))->
  w7 (LE prog t6 (.loop Na) e H2) (fun o e H2=>o= .exit 2/\EnS (pT ps) (pT pe) v6 v7 v8 (.slice X bs.length bc) W (pT pm) e/\i6 u.next u H2/\∃w,e.get 12=w/\u6 H2 u.next 1 (w9 boE) w (l.map (D4 s y bs))):=by
 refine i8 _ _ ?_;rintro kk e H2 ⟨i,w,hk,hi,h,D,E,z,hO⟩;have b8:=z.next;have I:=(z.get pm (u7 gm)).trans gm;have a2:=(z.get ps (u7 gs)).trans gs;have a1:=(z.get pe (u7 ge)).trans ge;rcases b:decide ((i:Int)<l.length)with _|_
 .have a8:=dF b;have:l.take i=l:=List.take_of_length_le oM;rw[this]at hO;refine J5 h.g11 E I p4 b ?_;exact i9 ⟨rfl,⟨h.g4,h.g5,h.g6,h.g7,h.g8,h.g9,h.g10,h.g11⟩,z,w,D,hO⟩
 have a8:=dT b;obtain⟨x,nb,o,cs,own,el,hx,hd,rfl,a3,hg,b7,O,hc,hR⟩:=hv.row (i:=i) oM;have nt:(i:Int).toNat=i:=tN i;have g2:=(z.get nb (hA.lt _ a3)).trans hg;have b5:ldC (some true) (some 8) 0 U=some (.agg U.toArray):=by
  obtain⟨pa,pc,ga,gc,xa,xc,ea,ec,ta,tc,b2,_⟩:=F1 hA.st;rw[b2];rfl
 have b4:ldC (some true) (some 5) 0 S=some (.agg S.toArray):=by
  obtain⟨av,b1,b6⟩:=hA.ev;rw[b1];rfl
 have a9:=xr Hs lo K K oM H2 s y bs F U S X bc el x (hA.work z) hw a7 hR (b0 x (mG hx));have b3:(l.take (i+1)).map (D4 s y bs)=(l.take i).map (D4 s y bs)++[D4 s y bs x]:=by rw[List.take_add_one,hx,List.map_append];rfl
 obtain⟨w4,h4,H4,a6,J,a5,a4⟩:=hO.push1F (P:=prog) (t:=83) (cs:=boE (D4 s y bs x)) (a:=D4 s y bs x) (by exact Ja.2.2.2.2.2.2) ty4.1 ty4.2.1 ty4.2.2.1 oM oM rfl rfl (by simp;omega) oM;refine J20 h.g4 h.g5 h.g9 h.g11 D E b I a2 a1 p4 b5 b4 g2 nt O a9 a6 J @wrap_small ?_;exact i4 (kk-1) oM ⟨i+1,w4,oM,oM,⟨h.g4,h.g5,h.g6,h.g7,h.g8,h.g9,h.g10,h.g11⟩,rfl,by rw[show((i+1:Nat):Int)=(i:Int)+1 from oM];rfl,z.trans a4.stay,by rw[b3];exact a5⟩
def og(fi ne:SoD)(b:Int)(x:EdD):Bool:=(decide (x.2.2.1=1)&&ii fi (b+x.2.1))||(decide (x.2.2.1=2)&&ii ne (b+x.2.1))
theorem ud(z:d8)(F:Nat->Prop)(hF:∀j,F j->j<z.next) (Rp Rt:LV->Q->Prop) (s:StD) (rs:LV) (hs:StF z F Rp Rt rs s) (fi ne:SoD) (n:Nat) (hn:n<=1000000) (d7:bJ fi n) (e6:bJ ne n) (ps pf pn pm:Nat) (gs:z.get ps=cE rs 1) (gf:z.get pf=cE (soE fi) 1) (gn:z.get pn=cE (soE ne) 1)
  (rp:LV) (gm:z.get pm=cE rp 1) (i:Nat) (b:Int) (b8:s.base[i]?=some b) (hi:i<=1000000) (hb:0<=b/\b<=1000000) (st:Int) (g2:b+st<=n) (va:Option Addr) (ca:Nat) (l:List EdD) (p3:rp[3]?=some (.slice va l.length ca)) (hv:SlF z F 4 (w9 edE) (.slice va l.length ca) l) (hl:l.length<=1000000) (hw:∀x∈l,0<=x.1/\x.1<st/\0<=x.2.1/\x.2.1<st)
  (G:Nat->Prop) (hG:∀j,G j->j<z.next) (cl:List Bool) (ka:Option Addr) (kc:Nat) (d6:SlF z G 1 (w9 boE) (.slice ka cl.length kc) cl) (f9:(cl.length:Int)=st) (v5 v8 v9 a8 a9:Value) (r:Bool):
  ∀kk e H2,(∃(j:Nat)(ok:Bool),kk=l.length-j/\j<=l.length/\EnS (pT ps) v5 (pT pf) (pT pn) v8 v9 (.int .i64 i) (pT pm) e/\e.get 12=a8/\e.get 14=a9/\e.get 15= .slice ka cl.length kc/\e.get 16= .bool ok/\e.get 17=iV j/\i6 z.next z H2/\(ok||(l.drop j).any fun x=>cl.getD x.1.toNat false&&og fi ne b x)=r)->
  w7 (LE prog t6 (.loop Nb) e H2) (fun o e H2=>o= .exit 6/\EnS (pT ps) v5 (pT pf) (pT pn) v8 v9 (.int .i64 i) (pT pm) e/\e.get 12=a8/\e.get 14=a9/\e.get 16= .bool r/\i6 z.next z H2):=by
 refine i8 _ _ ?_;rintro kk e H2 ⟨j,ok,hk,hj,h,E,I,u,a6,J,hS,D⟩;have g1:=hS.next;have O:=(hS.get pm (u7 gm)).trans gm;rcases bj:decide ((j:Int)<l.length)with _|_
 .have d3:=dF bj;have:l.drop j=[]:=dN oM;rw[this,List.any_nil,Bool.or_false]at D;refine J5 h.g11 J O p3 bj ?_;exact i9 ⟨rfl,⟨h.g4,h.g5,h.g6,h.g7,h.g8,h.g9,h.g10,h.g11⟩,E,I,by rw[<-D];exact a6,hS⟩
 have d3:=dT bj;have a4:(j:Int).toNat=j:=tN j;have b3:(i:Int).toNat=i:=tN i;obtain⟨x,nb,o,cs,own,el,hx,hd,rfl,c9,hg,g0,y,f8,S⟩:=hv.row (i:=j) oM;have S:el=edE x:=S;obtain⟨w1,w2,w3,w4⟩:=hw x (mG hx);have gx:=(hS.get nb (hF _ c9)).trans hg;have a1:el.all oC=true:=by rw[S];rfl
 have l1:el.length=4:=by rw[S];rfl
 have e0:el[0]?=some (.int .i64 x.1):=by rw[S];rfl
 have e1:el[1]?=some (.int .i64 x.2.1):=by rw[S];rfl
 have e2:el[2]?=some (.int .i64 x.2.2.1):=by rw[S];rfl
 obtain⟨H3,a3,n3,a2,s3⟩:=pushP H2 (bC [iV 0,iV 0,iV 0,iV 0] 1) (bC el 1);have a5:splice [iV 0,iV 0,iV 0,iV 0] 0 el=el:=x9 _ _ (by rw[l1];rfl);have U:i6 z.next z H3:=hS.trans (s3.weaken oM);have b2:=(U.get ps (u7 gs)).trans gs;have b6:=(U.get pf (u7 gf)).trans gf;have b7:=(U.get pn (u7 gn)).trans gn;obtain⟨pa,pc,ga,gc,xa,xc,ea,ec,ta,tc,e9,m1,m2,m3,_⟩:=F1 hs;have r2:rs[2]?=some (.slice xa s.base.length xc):=by rw[e9];rfl
 have e5:=(gS b8).1;obtain⟨xb,f1,o3,c4,f4,c6,b9,_,rfl,c8,d9,f2,e7,d4,d1⟩:=m3.row (i:=i) e5;obtain rfl:c6=inE xb:=d1;rw[b8]at b9;cases b9;have b0:c4[o3+i*1]?=some (.int .i64 b):=by have:=d4 0 oM;rw[Nat.add_zero]at this;exact this
 have b1:=(U.get f1 (hF _ c8)).trans d9;obtain⟨cv,nk,b5,ck,f5,c7,f0,_,rfl,d0,e4,f3,e8,d5,d2⟩:=d6.row (i:=x.1.toNat) oM;obtain rfl:c7=boE cv:=d2;have W:ck[b5+x.1.toNat*1]?=some (.bool cv):=by have:=d5 0 oM;rw[Nat.add_zero]at this;exact this
 have X:=(U.get nk (hG _ d0)).trans e4;have c5:cl.getD x.1.toNat false=cv:=by rw[List.getD_eq_getElem?_getD,f0];rfl
 have c1:=JD H3 fi (b+x.2.1) n d7 oM oM;have c2:=JD H3 ne (b+x.2.1) n e6 oM oM;have c0:ldC (some true) (some 3) 0 (soE fi)=some (.agg (soE fi).toArray):=rfl;have c3:ldC (some true) (some 3) 0 (soE ne)=some (.agg (soE ne).toArray):=rfl;have f6:decide (x.1<(cl.length:Int))=true:=decide_eq_true oM;have f7:decide ((i:Int)<s.base.length)=true:=decide_eq_true oM;rw[hd,List.any_cons,c5,og]at D;cases cv with
 |false=>
  simp only[Bool.false_and,Bool.false_or]at D;refine J18 h.g11 u J O p3 bj gx a4 y a1 l1 a5 a3.symm a2 e0 X W @wrap_small ?_;exact i4 (kk-1) oM ⟨j+1,ok,oM,oM,⟨h.g4,h.g5,h.g6,h.g7,h.g8,h.g9,h.g10,h.g11⟩,E,I,u,a6,by rw[show((j+1:Nat):Int)=(j:Int)+1 from oM];rfl,U,D⟩
 |true=>
  simp only[Bool.true_and]at D;have a7:∀(b4:Bool)(e3:Env),EnS (pT ps) v5 (pT pf) (pT pn) v8 v9 (.int .i64 i) (pT pm) e3->e3.get 12=a8->e3.get 14=a9->e3.get 15= .slice (some ⟨nk,b5,none⟩) cl.length kc->e3.get 16= .bool b4->e3.get 17=iV ((j+1:Nat):Int)->(b4||(l.drop (j+1)).any fun x=>cl.getD x.1.toNat false&&og fi ne b x)=r->
    cQ kk (fun kk e H2=>∃(j:Nat)(ok:Bool),kk=l.length-j/\j<=l.length/\EnS (pT ps) v5 (pT pf) (pT pn) v8 v9 (.int .i64 i) (pT pm) e/\e.get 12=a8/\e.get 14=a9/\e.get 15= .slice (some ⟨nk,b5,none⟩) cl.length kc/\e.get 16= .bool ok/\e.get 17=iV j/\i6 z.next z H2/\(ok||(l.drop j).any fun x=>cl.getD x.1.toNat false&&og fi ne b x)=r) (fun o e H2=>o= .exit 6/\EnS (pT ps) v5 (pT pf) (pT pn) v8 v9 (.int .i64 i) (pT pm) e/\e.get 12=a8/\e.get 14=a9/\e.get 16= .bool r/\i6 z.next z H2) .normal e3 H3:=
   fun b4 e3 h1 h2 h3 h4 h5 h6 h7=>i4 (kk-1) oM ⟨j+1,b4,oM,oM,h1,h2,h3,h4,h5,h6,U,h7⟩
  have ej:((j+1:Nat):Int)=(j:Int)+1:=oM;rcases k1:decide (x.2.2.1=1)with _|_
  .rcases k2:decide (x.2.2.1=2)with _|_
   .simp only[k1,k2,Bool.false_and,Bool.or_self,Bool.false_or]at D;refine J21 h.g11 u J O p3 bj gx a4 y a1 l1 a5 a3.symm a2 e0 e2 X W k1 k2 @wrap_small ?_;exact a7 ok _ ⟨h.g4,h.g5,h.g6,h.g7,h.g8,h.g9,h.g10,h.g11⟩ E I u a6 (by rw[ej];rfl) D
   .simp only[k1,k2,Bool.false_and,Bool.true_and,Bool.false_or]at D;rcases g:ii ne (b+x.2.1)with _|_
    .rw[g]at c2;simp only[g,Bool.false_or]at D;refine J30 h.g4 h.g7 h.g10 h.g11 u J O p3 bj gx a4 b3 y a1 l1 a5 a3.symm a2 e0 e1 e2 X W k1 k2 b2 r2 (aI b1 b0) (aI b7 c3) (aI c2 @wrap_small) ?_;exact a7 ok _ ⟨h.g4,h.g5,h.g6,h.g7,h.g8,h.g9,h.g10,h.g11⟩ E I u a6 (by rw[ej];rfl) D
    .rw[g]at c2;simp only[g,Bool.true_or,Bool.or_true]at D;refine J30 h.g4 h.g7 h.g10 h.g11 u J O p3 bj gx a4 b3 y a1 l1 a5 a3.symm a2 e0 e1 e2 X W k1 k2 b2 r2 (aI b1 b0) (aI b7 c3) (aI c2 @wrap_small) ?_;exact a7 true _ ⟨h.g4,h.g5,h.g6,h.g7,h.g8,h.g9,h.g10,h.g11⟩ E I u rfl (by rw[ej];rfl) (by rw[Bool.true_or];exact D)
  .have k2:decide (x.2.2.1=2)=false:=decide_eq_false (oN (dT k1));simp only[k1,k2,Bool.false_and,Bool.true_and,Bool.or_false]at D;rcases g:ii fi (b+x.2.1)with _|_
   .rw[g]at c1;simp only[g,Bool.false_or]at D;refine J30 h.g4 h.g6 h.g10 h.g11 u J O p3 bj gx a4 b3 y a1 l1 a5 a3.symm a2 e0 e1 e2 X W k1 k2 b2 r2 (aI b1 b0) (aI b6 c0) (aI c1 @wrap_small) ?_;exact a7 ok _ ⟨h.g4,h.g5,h.g6,h.g7,h.g8,h.g9,h.g10,h.g11⟩ E I u a6 (by rw[ej];rfl) D
   .rw[g]at c1;simp only[g,Bool.true_or,Bool.or_true]at D;refine J30 h.g4 h.g6 h.g10 h.g11 u J O p3 bj gx a4 b3 y a1 l1 a5 a3.symm a2 e0 e1 e2 X W k1 b2 r2 b1 b0 (aI b6 c0) (aI c1 @wrap_small) ?_;exact a7 true _ ⟨h.g4,h.g5,h.g6,h.g7,h.g8,h.g9,h.g10,h.g11⟩ E I u rfl (by rw[ej];rfl) (by rw[Bool.true_or];exact D)
structure Fr2(pb:Nat)(H H':d8):Prop where
 stay:i6 pb H H'
 but:∀j,j<H.next->j≠pb->H'.get j=H.get j
theorem Fr2.refl(h:Nat)(H:d8):Fr2 h H H:=⟨i6.refl _ _,fun _ _ _=>rfl⟩
theorem Fr2.trans{u:Nat}{A B C:d8}(h:Fr2 u A B)(k:Fr2 u B C):Fr2 u A C:=⟨h.stay.trans k.stay,fun j z y=>by rw[k.but j (oN (h.stay.next)) y,h.but j z y]⟩
theorem Fr2.of{u:Nat}{H H':d8}(h:i6 H.next H H')(z:u<=H.next):Fr2 u H H':=⟨h.weaken z,fun j y _=>h.get j y⟩
theorem Fr2.put{h:Nat}{H:d8}{B:Blk}:Fr2 h H (H.put h B):=⟨i6.put lR,fun j _ u=>j6 (fun q=>u q.symm)⟩
def okR(fi ne:SoD)(hs:List Bool)(p:PrD)(b:Int)(q:Nat):Bool:=(eJ hs p q).getD p.en.toNat false||p.ed.any fun x=>(eJ hs p q).getD x.1.toNat false&&og fi ne b x
def pF(f:Nat->Bool)(b:Int):Nat->Nat->List Bool->List Bool
 |0,_,bs=>bs
 |k+1,q,bs=>pF f b k (q+1) (if f q then bs.set (b+q).toNat true else bs)
theorem vk(f:Nat->Bool)(b:Int):∀(k q:Nat)(bs:List Bool),(pF f b k q bs).length=bs.length
 |0,_,bs=>rfl
 |k+1,q,bs=>by
  rw[pF,vk f b k];split<;>simp
theorem sN(J:d8)(F:Nat->Prop)(y:Nat)(hF:∀j,F j->j<J.next/\j≠y) (Rp Rt:LV->Q->Prop) (s:StD) (rs:LV) (hs:StF J F Rp Rt rs s) (fi ne:SoD) (n:Nat) (hn:n<=1000000) (e7:bJ fi n) (f5:bJ ne n) (ps pf pn pm:Nat) (gs:J.get ps=cE rs 1) (gf:J.get pf=cE (soE fi) 1) (gn:J.get pn=cE (soE ne) 1) (j2:y<J.next) (D:ps≠y/\pf≠y/\pn≠y/\pm≠y)
  (rp:LV) (p:PrD) (hp:PrF J F Rt rp p) (gm:J.get pm=cE rp 1) (i:Nat) (b:Int) (a9:s.base[i]?=some b) (hi:i<=1000000) (hb:0<=b/\b<=1000000) (f9:b+p.st<=n) (hw:PWf p) (hl:p.ed.length<=1000000)
  (G:Nat->Prop) (hG:∀j,G j->j<J.next/\j≠y) (E:List Bool) (ha:Option Addr) (hc:Nat) (hh:SlF J G 1 (w9 boE) (.slice ha E.length hc) E) (g0:E.length=p.ts.length) (v5 v8:Value) (r:List Bool):
  ∀kk e H2,(∃(q:Nat)(bs:List Bool),kk=p.st.toNat-q/\q<=p.st.toNat/\EnS (pT ps) v5 (pT pf) (pT pn) v8 (sL y n (n+1)) (.int .i64 i) (pT pm) e/\e.get 12= .slice ha E.length hc/\e.get 14=iV q/\bs.length=n/\H2.get y=cE (bs.map an) 1/\Fr2 y J H2/\pF (okR fi ne E p b) b (p.st.toNat-q) q bs=r)->
  w7 (LE prog t6 (.loop Nc) e H2) (fun o e H2=>o= .exit 4/\EnS (pT ps) v5 (pT pf) (pT pn) v8 (sL y n (n+1)) (.int .i64 i) (pT pm) e/\r.length=n/\H2.get y=cE (r.map an) 1/\Fr2 y J H2):=by
 refine i8 _ _ ?_;rintro kk e H2 ⟨q,bs,hk,hq,I,b2,a7,a1,gb,X,W⟩;obtain⟨ea,ec,ta,tc,a2,e6,j0⟩:=D5 hp;have p0:rp[0]?=some (.int .i64 p.st):=by rw[a2];rfl
 have p2:rp[2]?=some (.int .i64 p.en):=by rw[a2];rfl
 have p3:rp[3]?=some (.slice ea p.ed.length ec):=by rw[a2];rfl
 have h1:ldC (some true) (some 5) 0 rp=some (.agg rp.toArray):=by rw[a2];rfl
 have b4:=(X.but pm (u7 gm) D.2.2.2).trans gm;have n2:=X.stay.next;have h7:=hw.st;have j1:=hw.en;rcases bq:decide ((q:Int)<p.st)with _|_
 .have e3:=dF bq;rw[show p.st.toNat-q=0 from oM,pF]at W;refine J5 I.g11 a7 b4 p0 bq ?_;exact i9 ⟨rfl,⟨I.g4,I.g5,I.g6,I.g7,I.g8,I.g9,I.g10,I.g11⟩,by rw[<-W];exact a1,by rw[<-W];exact gb,X⟩
 have e3:=dT bq;rw[show p.st.toNat-q=(p.st.toNat-(q+1))+1 from oM,pF]at W;obtain⟨H3,d9,n3,g3,s3⟩:=pushE H2 (bC [iV q] 1);have a6:Fr2 y J H3:=X.trans (Fr2.of s3 oM);have d7:∀j,(F j\/G j\/j=H2.next)->j<H3.next:=by
  rintro j (h|h|h)
  .have:=hF j h;omega
  .have:=hG j h;omega
  .omega
 have g2:=Qg H3 (fun j=>F j\/G j\/j=H2.next) Rt rp p d7
  (hp.mono (fun j S=>a6.but j (hF j S).1 (hF j S).2) (fun _ h=> .inl h) iF) p.st.toNat oM oM hl q oM (sP H2.next) 1 (.inr ⟨H2.next,0,1,rfl,.inr ⟨_,true,.inr (.inr rfl),g3,by simp,fun i a ha=>by
   have f1:i=0:=by have:=(gS ha).1;simp at this;omega
   subst f1;have:a=(q:Int):=by simpa using ha.symm
   subst this;rfl⟩⟩) ha hc E (hh.mono (fun j S=>a6.but j (hG j S).1 (hG j S).2) (fun _ h=> .inr (.inl h)) iF) (fun x hx=>by have:=hw.ed x hx;rw[g0];exact this)
 obtain⟨cv,ch,H4,b7,e9,hO,s4⟩:=g2;obtain⟨ka,kc,rfl⟩:=hO.slice;obtain⟨cl,b0⟩:=eY (eJ E p q);rw[<-b0]at hO b7;have h0:(cl.length:Int)=p.st:=by rw[b0,eJ,zj,List.length_set,List.length_replicate];omega
 have n4:=s4.next;have O:Fr2 y J H4:=a6.trans (Fr2.of s4 oM);obtain⟨xv,nk,c4,ck,h9,d2,g1,_,f4,i3,f0,h6,f7,e5,e2⟩:=hO.sl.row (i:=p.en.toNat) oM;obtain rfl:d2=boE xv:=e2;subst f4;have c7:ck[c4+p.en.toNat*1]?=some (.bool xv):=by have:=e5 0 oM;rw[Nat.add_zero]at this;exact this
 have d3:cl.getD p.en.toNat false=xv:=by rw[List.getD_eq_getElem?_getD,g1];rfl
 have b5:=(O.but pm (u7 gm) D.2.2.2).trans gm;have b8:∀j,F j->H4.get j=J.get j:=fun j S=>O.but j (hF j S).1 (hF j S).2;have i0:decide (p.en<(cl.length:Int))=true:=decide_eq_true oM;obtain⟨ob,b9⟩:=eY (okR fi ne E p b q);have c0:(xv||p.ed.any fun x=>cl.getD x.1.toNat false&&og fi ne b x)=ob:=by rw[b9,okR,<-b0,d3]
 refine J14 I.g11 b2 a7 b4 p0 p2 h1 bq d9.symm b7 e9 b5 f0 c7 ?_;refine j8 (F:=fun z=>w7 (u9 (inBlock 5 (u9 (inBlock 6 z) _)) _) _) (ud H4 F (fun j S=>by have:=hF j S;omega) Rp Rt s rs (hs.mono b8 (fun _ h=>h) iF iF) fi ne n hn e7 f5 ps pf pn pm ((O.but ps (u7 gs) D.1).trans gs) ((O.but pf (u7 gf) D.2.1).trans gf) ((O.but pn (u7 gn) D.2.2.1).trans gn) rp b5 i b a9 hi hb p.st f9 ea ec p.ed p3 (e6.mono b8 (fun _ h=>h) iF) hl (fun x hx=>by have:=hw.ed x hx;exact⟨this.1,this.2.1,this.2.2.1,this.2.2.2.1⟩) (· <H4.next) (fun _ h=>h) cl (some ⟨nk,c4,none⟩) kc hO.sl.slF h0 v5 v8 (sL y n (n+1)) (.slice ha E.length hc) (.int .i64 q) ob (p.ed.length-0) _ _ ⟨0,xv,rfl,Nat.zero_le _,⟨I.g4,I.g5,I.g6,I.g7,I.g8,I.g9,I.g10,I.g11⟩,b2,a7,rfl,rfl,rfl,i6.refl _ _,c0⟩) ?_;rintro o' e' H5 ⟨ho,u,a3,a4,a5,s5⟩;have n5:=s5.next;have U:Fr2 y J H5:=O.trans (Fr2.of s5 oM);have b3:H5.get y=cE (bs.map an) 1:=((s5.get y oM).trans (s4.get y oM)).trans ((s3.get y oM).trans gb);have b1:((q+1:Nat):Int)=(q:Int)+1:=oM;rw[<-b9]at W;cases ob with
 |false=>
  simp only[bF]at W;refine J4 ho a5 a4 @wrap_small ?_;exact i4 (kk-1) oM ⟨q+1,bs,oM,oM,⟨u.g4,u.g5,u.g6,u.g7,u.g8,u.g9,u.g10,u.g11⟩,a3,by rw[b1];rfl,a1,b3,U,W⟩
 |true=>
  simp only[if_true]at W;have h3:(i:Int).toNat=i:=tN i;obtain⟨pa,pc,ga,gc,xa,xc,i1,i2,j3,j4,f8,m1,m2,m3,_⟩:=F1 hs;have r2:rs[2]?=some (.slice xa s.base.length xc):=by rw[f8];rfl
  have f2:=(gS a9).1;obtain⟨xb,h2,o3,c8,h8,c9,c3,_,rfl,b6,e8,h5,f6,e4,e1⟩:=m3.row (i:=i) f2;obtain rfl:c9=inE xb:=e1;rw[a9]at c3;cases c3;have c6:c8[o3+i*1]?=some (.int .i64 b):=by have:=e4 0 oM;rw[Nat.add_zero]at this;exact this
  have d4:=(U.but h2 (hF _ b6).1 (hF _ b6).2).trans e8;have d6:=(U.but ps (u7 gs) D.1).trans gs;have h4:decide ((i:Int)<s.base.length)=true:=decide_eq_true oM;have bl:(bs.map an).length=n:=by rw[List.length_map];exact a1
  have f3:(b+(q:Int)).toNat*1+1<=n:=oM;have d1:decide (b+(q:Int)<n)=true:=decide_eq_true oM;have d0:decide (0<=b+(q:Int))=true:=decide_eq_true oM;obtain⟨H6,a8⟩:=eY (H5.put y (.cells ((bs.map an).set ((b+(q:Int)).toNat*1) (.int .u8 1)) true 1));have d5:H6.get y=some (.cells ((bs.set (b+(q:Int)).toNat true).map an) true 1):=by rw[a8,j5 oM,Nat.mul_one,List.map_set];rfl
  have c5:Fr2 y J H6:=U.trans (by rw[a8];exact Fr2.put);refine J16 ho a5 a4 u.g4 u.g9 u.g10 d6 r2 h3 d4 c6 b3 bl f3 a8.symm @wrap_small ?_;exact i4 (kk-1) oM ⟨q+1,_,oM,oM,⟨u.g4,u.g5,u.g6,u.g7,u.g8,u.g9,u.g10,u.g11⟩,a3,by rw[b1];rfl,by rw[List.length_set];exact a1,d5,c5,W⟩
def jG(s:StD)(e:EvD)(fi ne:SoD)(p:PrD)(b:Int)(bs:List Bool):List Bool:=pF (okR fi ne (p.ts.map (D4 s e bs)) p b) b p.st.toNat 0 bs
def aE(s:StD)(e:EvD)(fi ne:SoD):List (PrD×Int)->List Bool->List Bool
 |[],bs=>bs
 |x::l,bs=>aE s e fi ne l (jG s e fi ne x.1 x.2 bs)
theorem nU(Hs:d8)(lo K:Nat)(s:StD)(X:EvD)(fi ne:SoD)(F:Nat->Prop)(D:d8)(y:Nat)(hF:∀j,F j->j<D.next/\j≠y) (rs re:LV) (hs:StF D F (QR Hs lo K false) (QR Hs lo K true) rs s) (he:EvF D F re X) (d2:∀j,j<lo->D.get j=Hs.get j) (h1:lo<=y) (n:Nat) (hw:WfS s n) (d3:bJ fi n) (e1:bJ ne n) (c9:X.attrs.length<=1000000)
  (b6:∀p∈s.progs,p.ts.length<=1000000/\p.ed.length<=1000000) (e5:∀p∈s.progs,∀t∈p.ts,OkD true t) (ps pe pf pn:Nat) (gs:D.get ps=cE rs 1) (ge:D.get pe=cE re 1) (gf:D.get pf=cE (soE fi) 1) (gn:D.get pn=cE (soE ne) 1) (h2:y<D.next) (u:ps≠y/\pe≠y/\pf≠y/\pn≠y) (v8:Value) (r:List Bool):
  ∀kk e H2,(∃(i:Nat)(bs:List Bool),kk=s.progs.length-i/\i<=s.progs.length/\e.get 4=pT ps/\e.get 5=pT pe/\e.get 6=pT pf/\e.get 7=pT pn/\e.get 8=v8/\e.get 9=sL y n (n+1)/\e.get 10=iV i/\bs.length=n/\H2.get y=cE (bs.map an) 1/\Fr2 y D H2/\aE s X fi ne ((s.progs.zip s.base).drop i) bs=r)->
  w7 (LE prog t6 (.loop Nd) e H2) (fun o e H2=>o= .exit 0/\e.get 5=pT pe/\e.get 8=v8/\e.get 9=sL y n (n+1)/\r.length=n/\H2.get y=cE (r.map an) 1/\Fr2 y D H2):=by
 refine i8 _ _ ?_;rintro kk e H2 ⟨i,bs,hk,hi,f4,f5,f6,f7,f8,f9,a1,S,gb,O,fu⟩;have g2:=hw.l1;have h0:=hw.l2;have g1:=hw.l0;have e3:=hw.nle;have n2:=O.stay.next;obtain⟨pa,pc,ga,gc,xa,xc,ea,ec,ta,tc,e6,m1,m2,m3,_⟩:=F1 hs;have r1:rs[1]?=some (.slice ga s.progs.length gc):=by rw[e6];rfl
 have b1:=(O.but ps (u7 gs) u.1).trans gs;rcases bi:decide ((i:Int)<s.progs.length)with _|_
 .have d0:=dF bi;have:(s.progs.zip s.base).drop i=[]:=dN (by rw[List.length_zip];omega);rw[this,aE]at fu;refine J5 f4 a1 b1 r1 bi ?_;exact i9 ⟨rfl,f5,f8,f9,by rw[<-fu];exact S,by rw[<-fu];exact gb,O⟩
 have d0:=dT bi;have e7:(i:Int).toNat=i:=tN i;obtain⟨p,np,op,cp,f0,rp,a9,_,d4,b2,d6,e8,a7,f3,b4⟩:=m2.row (i:=i) oM;subst d4;obtain⟨b,a2⟩:∃b,s.base[i]?=some b:=⟨s.base[i]'oM,List.getElem?_eq_getElem oM⟩
 obtain⟨w1,w2,w3⟩:=hw.at_ i p b a9 a2;have e9:=w3.st;have a6:=mG a9;have a4:(s.progs.zip s.base).drop i=(p,b)::(s.progs.zip s.base).drop (i+1):=by
  have hz:(s.progs.zip s.base)[i]?=some (p,b):=by rw[List.getElem?_zip_eq_some];exact⟨a9,a2⟩
  obtain⟨d9,d5⟩:=gS hz;rw[List.drop_eq_getElem_cons d9,d5]
 rw[a4,aE]at fu;simp only at fu;obtain⟨f1,f2,b9,c0,a8,g0,d1⟩:=D5 b4;have c3:rp.all oC=true:=by rw[a8];rfl
 have b7:rp.length=5:=by rw[a8];rfl
 have p4:rp[4]?=some (.slice b9 p.ts.length c0):=by rw[a8];rfl
 have c7:=(O.but np (hF _ b2).1 (hF _ b2).2).trans d6;obtain⟨H3,b3,n3,g3,s3⟩:=pushP H2 (bC z5 1) (bC rp 1);have b8:splice z5 0 rp=rp:=x9 _ _ (by rw[b7];rfl);simp only[z5]at b8 b3;have I:Fr2 y D H3:=O.trans (Fr2.of s3 oM);have a5:∀j,F j->H3.get j=D.get j:=fun j U=>I.but j (hF j U).1 (hF j U).2;have b0:H3.get y=cE (bs.map an) 1:=(s3.get y oM).trans gb;have a3:SlF H3 (fun j=>F j\/j=y) 1 (w9 rn) (sL y bs.length (n+1)) bs:= .inr ⟨y,0,n+1,rfl,.inr ⟨_,true,.inr rfl,b0,by simp,fun i a ha=>by
  rw[Nat.zero_add,Nat.mul_one,List.drop_eq_getElem_cons (by simpa using (gS ha).1),List.take_succ_cons,List.take_zero];simp only[List.getElem_map];rw[(gS ha).2];rfl⟩⟩
 have c8:∀j,(F j\/j=y)->j<H3.next:=by
  rintro j (h|h)
  .have:=hF j h;omega
  .omega
 have hA:vR Hs lo K s X bs (fun j=>F j\/j=y) H3 rs re (sP y) (n+1):=⟨hs.mono a5 (fun _ h=> .inl h) iF iF,y9 _ _ _ _ _ _ he a5 (fun _ h=> .inl h),a3,c8,fun j U=>by rw[I.but j oM oM];exact d2 j U,oM⟩
 refine J12 f4 a1 b1 r1 bi e7 c7 a7 c3 b7 b8 b3.symm ?_;refine j8 (F:=fun z=>w7 (u9 (inBlock 1 (u9 (inBlock 2 z) _)) _) _) (vL Hs lo K s X bs (fun j=>F j\/j=y) H3 rs re (sP y) (n+1) hA (by rw[S];exact hw) c9 ps pe H2.next ((I.but ps (u7 gs) u.1).trans gs) ((I.but pe (u7 ge) u.2.1).trans ge) rp g3 b9 c0 p.ts p4 (d1.mono a5 (fun _ h=> .inl h) iF) (b6 p a6).1 (e5 p a6) (pT pf) (pT pn) v8 (.int .i64 i) (p.ts.length-0) _ _ ⟨0,nS,rfl,Nat.zero_le _,⟨f4,f5,f6,f7,f8,by rw[S];exact f9,a1,rfl⟩,rfl,rfl,i6.refl _ _,u6.nil⟩) ?_;rintro o' e' H4 ⟨ho,W,s4,w,c4,hO⟩;have n4:=s4.next;obtain⟨ha,hc,rfl⟩:=hO.slice;have J:Fr2 y D H4:=I.trans (Fr2.of s4 oM);have b5:∀j,F j->H4.get j=D.get j:=fun j U=>J.but j (hF j U).1 (hF j U).2;have c5:=(s4.get y oM).trans b0;rw[S]at W;refine J1 ho ?_;refine j8 (F:=fun z=>w7 (u9 (inBlock 1 (inBlock 4 z)) _) _) (sN H4 F y (fun j U=>by have:=hF j U;exact⟨oM,this.2⟩) (QR Hs lo K false) (QR Hs lo K true) s rs (hs.mono b5 (fun _ h=>h) iF iF) fi ne n e3 d3 e1 ps pf pn H2.next ((J.but ps (u7 gs) u.1).trans gs) ((J.but pf (u7 gf) u.2.2.1).trans gf) ((J.but pn (u7 gn) u.2.2.2).trans gn) oM ⟨u.1,u.2.2.1,u.2.2.2,oM⟩ rp p (b4.mono b5 (fun _ h=>h) iF) ((s4.get _ oM).trans g3) i b a2 oM ⟨w1,oM⟩ w2 w3 (b6 p a6).2
  (fun j=>l7 (.slice ha (p.ts.map (D4 s X bs)).length hc) j) (fun j U=>by have:=hO.lt U;omega) (p.ts.map (D4 s X bs)) ha hc (hO.frz fun _ h=>h) (by rw[List.length_map]) (pT pe) v8 (jG s X fi ne p b bs) (p.st.toNat-0) _ _ ⟨0,bs,rfl,Nat.zero_le _,⟨W.g4,W.g5,W.g6,W.g7,W.g8,W.g9,W.g10,W.g11⟩,c4,rfl,S,c5,Fr2.refl _ _,rfl⟩) ?_
 rintro o2 e2 H5 ⟨e4,E,d7,c6,F5⟩;refine J3 e4 E.g10 @wrap_small ?_;exact i4 (kk-1) oM ⟨i+1,_,oM,oM,E.g4,E.g5,E.g6,E.g7,E.g8,E.g9,by rw[show((i+1:Nat):Int)=(i:Int)+1 from oM];rfl,d7,c6,J.trans F5,fu⟩
def vF(s:StD)(e:EvD)(fi ne:SoD):SoD:=(true,decide (e.kind=2),kz (aE s e fi ne (s.progs.zip s.base) (List.replicate (A0 s.progs).toNat false)))
theorem Qf(Hs:d8)(lo K:Nat)(s:StD)(I:EvD)(fi ne:SoD)(F:Nat->Prop)(H:d8)(J X:LV)(hs:StF H F (QR Hs lo K false) (QR Hs lo K true) J s)(he:EvF H F X I)(hF:∀j,F j->j<H.next) (d4:∀j,j<lo->H.get j=Hs.get j) (f5:lo<=H.next) (n:Nat) (hn:(n:Int)=A0 s.progs) (hw:WfS s n) (d5:bJ fi n) (d7:bJ ne n)
  (d1:I.attrs.length<=1000000) (W:∀p∈s.progs,p.ts.length<=1000000/\p.ed.length<=1000000/\0<=p.st/\p.st<=1000000) (e2:∀p∈s.progs,∀t∈p.ts,OkD true t):
  CL prog t6 21 [.agg J.toArray,.agg X.toArray,.agg (soE fi).toArray,.agg (soE ne).toArray] H=some (.agg (soE (vF s I fi ne)).toArray,none):=by
 obtain⟨pa,pc,ga,gc,xa,xc,ea,ec,ta,tc,c5,_⟩:=F1 hs;obtain⟨av,c4,d2⟩:=id he;obtain⟨e7,e8,rfl⟩:=d2.slice;have c8:J.all oC=true:=by rw[c5];rfl
 have ae:X.all oC=true:=by rw[c4];rfl
 have e3:ldC (some true) (some 8) 0 J=some (.agg J.toArray):=by rw[c5];rfl
 have e5:X[0]?=some (.int .i64 I.kind):=by rw[c4];rfl
 have f6:=hw.nle;have e9:=hw.l0;have f0:=hw.l1;obtain⟨f1,f2,f3⟩:=fi;obtain⟨g1,g2,g3⟩:=ne;obtain⟨fe,a4⟩:=eY (soE (f1,f2,f3));obtain⟨ge,a5⟩:=eY (soE (g1,g2,g3));rw[<-a4,<-a5];have af:fe.all oC=true:=by rw[a4];rfl
 have ag:ge.all oC=true:=by rw[a5];rfl
 obtain⟨z3,a7⟩:=eY ([.bool false,.bool false,.string eB]:LV);obtain⟨y,u⟩:=eY (((((d8.push ⟨H.bs,H.next⟩ (bC J 1)).push (bC X 1)).push (bC fe 1)).push (bC ge 1)).push (bC z3 1));have D:(d8.push ⟨H.bs,H.next⟩ (bC J 1)).next=H.next+1:=by rw[i5];rfl
 have n1:y.next=H.next+5:=by rw[u,i5,i5,i5,i5,D]
 have s1:i6 H.next H y:=by rw[u];exact((((i6.first H _).trans (i6.push oM)).trans (i6.push (by rw[i5];omega))).trans (i6.push (by rw[i5,i5];omega))).trans (i6.push (by rw[i5,i5,i5];omega))
 have a1:y.get H.next=cE J 1:=by
  rw[u,i7 (by simp only[i5,D];omega),i7 (by simp only[i5,D];omega),i7 (by simp only[i5,D];omega),i7 oM];exact j9
 have a8:y.get (H.next+1)=cE X 1:=by
  rw[u,i7 (by simp only[i5,D];omega),i7 (by simp only[i5,D];omega),i7 (by simp only[i5,D];omega)];exact y7 oM
 have a9:y.get (H.next+2)=cE fe 1:=by
  rw[u,i7 (by simp only[i5,D];omega),i7 (by simp only[i5,D];omega)];exact y7 (by simp only[i5,D];omega)
 have b0:y.get (H.next+3)=cE ge 1:=by
  rw[u,i7 (by simp only[i5,D];omega)];exact y7 (by simp only[i5,D];omega)
 have b1:y.get (H.next+4)=cE z3 1:=by
  rw[u];exact y7 (by simp only[i5,D];omega)
 have c0:H.next<=y.low:=by rw[u];simp only[l9];exact lR
 have d6:∀j,F j->y.get j=H.get j:=fun j U=>s1.get j (hF j U);have b7:=qH y F _ _ J s (fun j U=>by have:=hF j U;omega) (hs.mono d6 (fun _ h=>h) iF iF) oM (fun p hp=>⟨(W p hp).2.2.1,(W p hp).2.2.2⟩);rw[<-hn]at b7;obtain⟨H2,S,-,gb,E⟩:=pushE y (.cells ((List.replicate n false).map an) true 1);have n2:H2.next=H.next+6:=by rw[S,i5,n1]
 have c3:N0 prog y 81 (.int .i64 n) (.int .i64 n)=some (sL y.next n (n+1),H2):=by
  have e1:(List.replicate n [Value.int .u8 0]).flatten=(List.replicate n false).map an:=by
   rw[List.flatten_replicate_singleton,List.map_replicate];rfl
  simp only[N0,yR.2.2.2.2.2.1,ty5.2.2.1,ty5.2.1,Int.toNat_natCast,e1];rw[if_pos ⟨by decide,oM,Int.le_refl _,oM,oM⟩,S];rfl
 have b3:=(E.get _ oM).trans a1;have a2:=(E.get _ oM).trans a8;have b4:=(E.get _ oM).trans a9;have b5:=(E.get _ oM).trans b0;have b6:=(E.get _ oM).trans b1;have c7:i6 H.next H H2:=s1.trans (E.weaken oM);have b9:∀j,F j->H2.get j=H.get j:=fun j U=>c7.get j (hF j U);have c6:H.next<=H2.low:=by rw[S,l9];exact c0
 have d9:(A0 s.progs).toNat=n:=oM;rw[j7 Eg rfl _ sM,vF,d9];refine J10 c8 ae af ag a7.symm u.symm a1 e3 b7 c3 ?_;refine j8 (F:=fun z=>u5 _ _ _ (u9 (inBlock 0 z) _)=_) (nU Hs lo K s I (f1,f2,f3) (g1,g2,g3) F H2 y.next (fun j U=>by have:=hF j U;omega) J X (hs.mono b9 (fun _ h=>h) iF iF) (y9 _ _ _ _ _ _ he b9 (fun _ h=>h)) (fun j U=>by rw[c7.get j oM];exact d4 j U) oM n hw d5 d7 d1 (fun p hp=>⟨(W p hp).1,(W p hp).2.1⟩) e2 H.next (H.next+1) (H.next+2) (H.next+3) b3 a2 (by rw[<-a4];exact b4) (by rw[<-a5];exact b5) oM ⟨oM,oM,oM,oM⟩ (pT (H.next+4)) (aE s I (f1,f2,f3) (g1,g2,g3) (s.progs.zip s.base) (List.replicate n false)) (s.progs.length-0) _ _ ⟨0,List.replicate n false,rfl,Nat.zero_le _,rfl,rfl,rfl,rfl,rfl,rfl,rfl,List.length_replicate ..,gb,Fr2.refl _ _,by rw[List.drop_zero]⟩) ?_;rintro o e' H4 ⟨ho,k5,k8,k9,a6,b2,O⟩;obtain⟨bz,d3⟩:=eY (aE s I (f1,f2,f3) (g1,g2,g3) (s.progs.zip s.base) (List.replicate n false));rw[<-d3]at a6 b2 ⊢;have n4:=O.stay.next;rw[<-a6]at k9;have b8:=qh H4 y.next bz (n+1) b2;have c9:H4.get (H.next+1)=cE X 1:=(O.but _ oM oM).trans a2;have d0:H4.get (H.next+4)=cE z3 1:=(O.but _ oM oM).trans b6;have e6:splice z3 0 [.bool true,.bool (decide (I.kind=2)),.string (kz bz)]=[.bool true,.bool (decide (I.kind=2)),.string (kz bz)]:=by rw[a7];rfl
 have e4:z3.length=3:=by rw[a7];rfl
 obtain⟨H5,a3⟩:=eY (H4.put (H.next+4) (bC [.bool true,.bool (decide (I.kind=2)),.string (kz bz)] 1));have g5:H5.get (H.next+4)=cE [.bool true,.bool (decide (I.kind=2)),.string (kz bz)] 1:=by rw[a3];exact j5 oM
 have f4:H.next<=H5.low:=by
  rw[a3,A4];have b:=(O.stay.weaken (show H.next<=y.next from oM)).low c6;omega
 clear a1 a8 a9 b0 b1 b3 a2 b4 b5 b6 c3 u S;rw[a6]at k9 b8;exact J12 ho k5 k8 k9 c9 e5 b8 d0 e4 e6 a3.symm g5 trivial
inductive lx(fi ne:SoD)(hs:List Bool)(p:PrD)(b:Int):Nat->Prop
 |en:lx fi ne hs p b p.en.toNat
 |out (x:EdD) (hx:x∈p.ed) (h:og fi ne b x=true):lx fi ne hs p b x.1.toNat
 |mv (x:EdD) (hx:x∈p.ed) (h:gj hs x=true) (k:lx fi ne hs p b x.2.1.toNat):lx fi ne hs p b x.1.toNat
inductive Rch(hs:List Bool)(p:PrD)(q:Nat):Nat->Prop
 |refl:Rch hs p q q
 |step (x:EdD) (hx:x∈p.ed) (h:gj hs x=true) (k:Rch hs p q x.1.toNat):Rch hs p q x.2.1.toNat
theorem Rch.lead{fi ne:SoD}{hs:List Bool}{p:PrD}{b:Int}{q z:Nat}(h:Rch hs p q z):lx fi ne hs p b z->lx fi ne hs p b q:=by
 induction h with
 |refl=>exact id
 |step x u h k y=>exact fun l=>y (.mv x u h l)
theorem Rch.head{hs:List Bool}{p:PrD}{x:EdD}(u:x∈p.ed)(h:gj hs x=true){z:Nat}(k:Rch hs p x.2.1.toNat z):Rch hs p x.1.toNat z:=by
 induction k with
 |refl=>exact .step x u h .refl
 |step y D g k E=>exact .step y D g E
theorem EJ{fi ne:SoD}{hs:List Bool}{p:PrD}{b:Int}{q:Nat}:lx fi ne hs p b q↔∃z,Rch hs p q z/\(z=p.en.toNat\/∃x∈p.ed,x.1.toNat=z/\og fi ne b x=true):=by
 constructor
 .intro h;induction h with
  |en=>exact⟨_,.refl,.inl rfl⟩
  |out x u h=>exact⟨_,.refl,.inr ⟨x,u,rfl,h⟩⟩
  |mv x u h k E=>
   obtain⟨z,y,D⟩:=E;exact⟨z,y.head u h,D⟩
 .rintro⟨z,y,rfl|⟨x,u,rfl,h⟩⟩
  .exact y.lead .en
  .exact y.lead (.out x u h)
theorem U1(c:List Bool)(i j:Nat)(u:i<c.length):(c.set i true).getD j false=(decide (i=j)||c.getD j false):=by
 simp only[List.getD_eq_getElem?_getD,List.getElem?_set];by_cases h:i=j
 .subst h;simp [u]
 .simp [h]
theorem jZ(hs:List Bool)(p:PrD)(q:Nat):∀(l:List EdD)(c:List Bool),(∀x∈l,x∈p.ed/\x.2.1.toNat<c.length)->(∀z,c.getD z false=true->Rch hs p q z)->∀z,(clP hs l c).getD z false=true->Rch hs p q z
 |[],c,_,hc=>hc
 |x::l,c,hl,hc=>by
  rw[clP];have E:=hl x sM;split
  .rename_i h;simp only[Bool.and_eq_true]at h;refine jZ hs p q l _ (fun y u=>⟨(hl y (by simp [u])).1,by rw[List.length_set];exact(hl y (by simp [u])).2⟩) fun z D=>?_;rw[U1 _ _ _ E.2,Bool.or_eq_true,decide_eq_true_eq]at D;rcases D with rfl|D
   .exact .step x E.1 h.2 (hc _ h.1)
   .exact hc z D
  .exact jZ hs p q l c (fun y u=>hl y (by simp [u])) hc
theorem qe(hs:List Bool)(p:PrD)(q:Nat):∀(n:Nat)(c:List Bool),(∀x∈p.ed,x.2.1.toNat<c.length)->(∀z,c.getD z false=true->Rch hs p q z)->∀z,(clI hs p.ed n c).getD z false=true->Rch hs p q z
 |0,c,_,hc=>hc
 |n+1,c,hl,hc=>by
  rw[clI];exact qe hs p q n _ (fun x h=>by rw[jh];exact hl x h) (jZ hs p q p.ed c (fun x h=>⟨h,hl x h⟩) hc)
theorem mI(hs:List Bool):∀(l:List EdD)(c:List Bool)(z:Nat),(∀x∈l,x.2.1.toNat<c.length)->c.getD z false=true->(clP hs l c).getD z false=true
 |[],c,z,_,h=>h
 |x::l,c,z,hl,h=>by
  rw[clP];split
  .refine mI hs l _ z (fun y u=>by rw[List.length_set];exact hl y (by simp [u])) ?_;rw[U1 _ _ _ (hl x sM),h,Bool.or_true]
  .exact mI hs l c z (fun y u=>hl y (by simp [u])) h
theorem tT(hs:List Bool)(l:List EdD):∀(n:Nat)(c:List Bool)(z:Nat),(∀x∈l,x.2.1.toNat<c.length)->c.getD z false=true->(clI hs l n c).getD z false=true
 |0,c,z,_,h=>h
 |n+1,c,z,hl,h=>by
  rw[clI];exact tT hs l n _ z (fun x u=>by rw[jh];exact hl x u) (mI hs l c z hl h)
theorem rE(hs:List Bool):∀(l:List EdD)(c:List Bool),(∀x∈l,x.2.1.toNat<c.length)->ay (clP hs l c)<=ay c/\(ay (clP hs l c)=ay c->clP hs l c=c/\∀x∈l,c.getD x.1.toNat false=true->gj hs x=true->c.getD x.2.1.toNat false=true)
 |[],c,_=>⟨lR,fun _=>⟨rfl,fun x D=>by cases D⟩⟩
 |x::l,c,hl=>by
  rw[clP];have D:=hl x sM;rcases h:(c.getD x.1.toNat false&&gj hs x)with _|_
  .simp only[bF];obtain⟨E,z⟩:=rE hs l c fun y u=>hl y (by simp [u]);refine⟨E,fun e=>⟨(z e).1,fun y u a b=>?_⟩⟩;rcases List.mem_cons.1 u with rfl|u
   .rw[a,b]at h;cases h
   .exact(z e).2 y u a b
  .simp only[if_true];obtain⟨E,z⟩:=rE hs l (c.set x.2.1.toNat true) fun y u=>by rw[List.length_set];exact hl y (by simp [u])
   rcases I:c.getD x.2.1.toNat false with _|_
   .have:=mJ c x.2.1.toNat D I;exact⟨oM,fun e=>oM⟩
   .have J:c.set x.2.1.toNat true=c:=by
     have O:c[x.2.1.toNat]?=some true:=by
      rw[List.getD_eq_getElem?_getD,List.getElem?_eq_getElem D]at I;rw[List.getElem?_eq_getElem D];exact congrArg some (by simpa using I)
     refine List.ext_getElem? fun k=>?_;rw[List.getElem?_set];by_cases e:x.2.1.toNat=k
     .subst e;rw[if_pos rfl,if_pos D,O]
     .simp [e]
    rw[J]at E z ⊢;refine⟨E,fun e=>⟨(z e).1,fun y u a b=>?_⟩⟩;rcases List.mem_cons.1 u with rfl|u
    .exact I
    .exact(z e).2 y u a b
theorem qf:∀(c:List Bool),ay c=0->∀z,z<c.length->c.getD z false=true
 |[],_,z,h=>by simp at h
 |b::c,h,z,hz=>by
  cases b with
  |false=>simp [ay]at h
  |true=>
   cases z with
   |zero=>rfl
   |succ z=>exact qf c (by simpa [ay] using h) z (by simpa using hz)
theorem mH(hs:List Bool)(l:List EdD):∀(n:Nat)(c:List Bool),ay c<=n->(∀x∈l,x.2.1.toNat<c.length)->∀x∈l,(clI hs l n c).getD x.1.toNat false=true->gj hs x=true->(clI hs l n c).getD x.2.1.toNat false=true
 |0,c,h,hl,x,hx,_,_=>qf c oM _ (hl x hx)
 |n+1,c,h,hl,x,hx,h1,h2=>by
  rw[clI]at h1 ⊢;obtain⟨S,J⟩:=rE hs l c hl;have z:∀y∈l,y.2.1.toNat<(clP hs l c).length:=fun y I=>by rw[jh];exact hl y I
  by_cases e:ay (clP hs l c)=ay c
  .obtain⟨D,O⟩:=J e;have u:∀m,clI hs l m (clP hs l c)=clP hs l c:=by
    intro m;induction m with
    |zero=>rfl
    |succ m E=>rw[D]at E ⊢;rw[clI,D];exact E
   rw[u,D]at h1 ⊢;exact O x hx h1 h2
  .exact mH hs l n _ oM z x hx h1 h2
theorem GO(c:List Bool):ay c<=c.length:=List.length_filter_le _ _
theorem eL{hs:List Bool}{p:PrD}{q:Nat}(O:q<p.st.toNat)(I:∀x∈p.ed,x.2.1.toNat<p.st.toNat) (z:Nat):(eJ hs p q).getD z false=true↔Rch hs p q z:=by
 have E:((List.replicate p.st.toNat false).set q true).length=p.st.toNat:=sM;have D:∀z,(List.replicate p.st.toNat false).getD z false=false:=fun z=>by
  rw[List.getD_eq_getElem?_getD,List.getElem?_replicate];split<;>rfl
 have y:q<(List.replicate p.st.toNat false).length:=by simpa using O
 constructor
 .refine qe hs p q _ _ (fun x u=>by rw[E];exact I x u) (fun z J=>?_) z;rw[U1 _ _ _ y,D,Bool.or_false,decide_eq_true_eq]at J;subst J;exact .refl
 .intro h;induction h with
  |refl=>exact tT hs _ _ _ _ (fun x u=>by rw[E];exact I x u) (by rw[U1 _ _ _ y,decide_eq_true rfl,Bool.true_or])
  |step x u h k S=>exact mH hs _ _ _ (by have:=GO ((List.replicate p.st.toNat false).set q true);rw[E]at this;exact this) (fun x u=>by rw[E];exact I x u) x u S h
theorem zH{fi ne:SoD}{hs:List Bool}{p:PrD}{b:Int}{q:Nat}(u:q<p.st.toNat)(y:∀x∈p.ed,x.2.1.toNat<p.st.toNat):okR fi ne hs p b q=true↔lx fi ne hs p b q:=by
 rw[EJ,okR,Bool.or_eq_true,List.any_eq_true]
 constructor
 .rintro(h|⟨x,D,h⟩)
  .exact⟨_,(eL u y _).1 h,.inl rfl⟩
  .simp only[Bool.and_eq_true]at h;exact⟨_,(eL u y _).1 h.1,.inr ⟨x,D,rfl,h.2⟩⟩
 .rintro⟨z,h,rfl|⟨x,D,rfl,E⟩⟩
  .exact .inl ((eL u y _).2 h)
  .exact .inr ⟨x,D,by rw[(eL u y _).2 h,E];rfl⟩
theorem om(fi ne:SoD)(hs:List Bool)(b:Int):∀(l:List EdD)(z:List Bool×Bool),z.2=true->(T5 fi ne hs b l z).2=true
 |[],z,h=>h
 |x::l,z,h=>by
  rw[T5];refine om fi ne hs b l _ ?_;split
  .rfl
  .exact h
theorem oo(fi ne:SoD)(hs:List Bool)(b:Int):∀(l:List EdD)(bs:List Bool),(T5 fi ne hs b l (bs,false)).2=false->(T5 fi ne hs b l (bs,false)).1=bs/\∀x∈l,kj fi ne hs bs b x=true->ax bs (b+x.1)=true
 |[],bs,_=>⟨rfl,fun x J=>by cases J⟩
 |x::l,bs,h=>by
  rw[T5]at h ⊢;rcases u:(!ax bs (b+x.1)&&kj fi ne hs bs b x)with _|_
  .simp only[u,bF]at h ⊢;obtain⟨E,I⟩:=oo fi ne hs b l bs h;refine⟨E,fun y z D=>?_⟩;rcases List.mem_cons.1 z with rfl|z
   .rw[D,Bool.and_true]at u
    simpa using u
   .exact I y z D
  .simp only[u,if_true]at h;rw[om fi ne hs b l _ rfl]at h;cases h
structure mq(fi ne:SoD)(hs:List Bool)(p:PrD)(b:Int)(bs0 bs:List Bool):Prop where
 len:bs.length=bs0.length
 up:∀k,bs0.getD k false=true->bs.getD k false=true
 sound:∀k,bs.getD k false=true->bs0.getD k false=true\/∃q:Nat,(k:Int)=b+q/\(q:Int)<p.st/\lx fi ne hs p b q
 en:bs.getD (b+p.en).toNat false=true
structure vQ(p:PrD)(b:Int)(bs0:List Bool):Prop where
 b0:0<=b
 st:b+p.st<=bs0.length
 sa:0<=p.st
 en:0<=p.en/\p.en<p.st
 ed:∀x∈p.ed,0<=x.1/\x.1<p.st/\0<=x.2.1/\x.2.1<p.st
 kd:∀x∈p.ed,x.2.2.1=0\/x.2.2.1=1\/x.2.2.1=2\/x.2.2.1=3
 zero:∀k:Nat,b<=k->bs0.getD k false=false
section
variable{fi ne:SoD}{hs:List Bool}{p:PrD}{b:Int}{bs0:List Bool}
theorem mq.lead(u:vQ p b bs0){bs:List Bool}(h:mq fi ne hs p b bs0 bs){t:Int}(D:0<=t)(y:ax bs (b+t)=true):lx fi ne hs p b t.toNat:=by
 have E:=u.b0;rcases h.sound _ y with k|⟨q,I,J,z⟩
 .rw[u.zero _ oM]at k;cases k
 .have:q=t.toNat:=oM;rw[<-this];exact z
theorem mq.set(z:vQ p b bs0){bs:List Bool}(h:mq fi ne hs p b bs0 bs){x:EdD}(E:x∈p.ed)(u:kj fi ne hs bs b x=true):mq fi ne hs p b bs0 (bs.set (b+x.1).toNat true):=by
 have hb:=z.b0;have X:=z.st;obtain⟨e1,e2,U,e4⟩:=z.ed x E;have W:=h.len;have y:(b+x.1).toNat<bs.length:=oM;have I:lx fi ne hs p b x.1.toNat:=by
  rw[kj]at u;by_cases J:x.2.2.1=1
  .rw[if_pos J]at u;exact .out x E (by rw[og,u,decide_eq_true J];rfl)
  rw[if_neg J]at u;by_cases O:x.2.2.1=2
  .rw[if_pos O]at u;exact .out x E (by rw[og,u,decide_eq_true O,Bool.true_and,Bool.or_true])
  rw[if_neg O]at u;by_cases S:x.2.2.1=3
  .rw[if_pos S,Bool.and_eq_true]at u;exact .mv x E (by rw[gj,u.1,decide_eq_true S,Bool.true_and,Bool.or_true]) (h.lead z U u.2)
  .rw[if_neg S]at u;have k0:x.2.2.1=0:=oN (z.kd x E);exact .mv x E (by rw[gj,decide_eq_true k0,Bool.true_or]) (h.lead z U u)
 refine⟨by rw[List.length_set];exact h.len,fun k D=>by rw[U1 _ _ _ y,h.up k D,Bool.or_true],fun k D=>?_,by rw[U1 _ _ _ y,h.en,Bool.or_true]⟩;rw[U1 _ _ _ y,Bool.or_eq_true,decide_eq_true_eq]at D;rcases D with rfl|D
 .exact .inr ⟨x.1.toNat,oM,oM,I⟩
 .exact h.sound k D
theorem zK(u:vQ p b bs0):∀(l:List EdD)(z:List Bool×Bool),(∀x∈l,x∈p.ed)->mq fi ne hs p b bs0 z.1->mq fi ne hs p b bs0 (T5 fi ne hs b l z).1
 |[],z,_,h=>h
 |x::l,z,hl,h=>by
  rw[T5];refine zK u l _ (fun y E=>hl y (by simp [E])) ?_;split
  .rename_i D;simp only[Bool.and_eq_true]at D;exact h.set u (hl x sM) D.2
  .exact h
theorem Jv(u:vQ p b bs0):∀(n:Nat)(bs:List Bool),ay bs+1<=n->mq fi ne hs p b bs0 bs->mq fi ne hs p b bs0 (itE fi ne hs b p.ed n bs)/\∀x∈p.ed,kj fi ne hs (itE fi ne hs b p.ed n bs) b x=true->ax (itE fi ne hs b p.ed n bs) (b+x.1)=true
 |0,bs,h,_=>oM
 |n+1,bs,h,hP=>by
  have E:=zK (fi:=fi) (ne:=ne) (hs:=hs) u p.ed (bs,false) (fun x z=>z) hP;have y:∀x∈p.ed,0<=b+x.1/\b+x.1<bs.length:=fun x z=>by
   have:=u.ed x z;have:=u.b0;have:=u.st;have:=hP.len;omega
  have J:=dZ fi ne hs b p.ed (bs,false) y;rw[itE];rcases D:(T5 fi ne hs b p.ed (bs,false)).2 with _|_
  .simp only[bF];obtain⟨O,S⟩:=oo fi ne hs b p.ed bs D;rw[O];exact⟨hP,S⟩
  .simp only[if_true];have I:=J.2 D;simp only[Bool.false_eq_true,false_or]at I;exact Jv u n _ oM E
theorem EI(I:vQ p b bs0){bs:List Bool}(S:mq fi ne hs p b bs0 bs)(E:∀x∈p.ed,kj fi ne hs bs b x=true->ax bs (b+x.1)=true) {q:Nat} (h:lx fi ne hs p b q):ax bs (b+q)=true:=by
 have key:∀t:Int,0<=t->ax bs (b+t.toNat)=true->ax bs (b+t)=true:=fun t J h=>by
  rw[Int.toNat_of_nonneg J]at h;exact h
 have u:∀t:Int,0<=t->ax bs (b+t)=true->ax bs (b+t.toNat)=true:=fun t J h=>by
  rw[Int.toNat_of_nonneg J];exact h
 induction h with
 |en=>exact u _ I.en.1 S.en
 |out x y h=>
  refine u _ (I.ed x y).1 (E x y ?_);rw[og,Bool.or_eq_true,Bool.and_eq_true,Bool.and_eq_true,decide_eq_true_eq,decide_eq_true_eq]at h;rw[kj];rcases h with⟨z,D⟩|⟨z,D⟩
  .rw[if_pos z];exact D
  .rw[if_neg oM,if_pos z];exact D
 |mv x y h k U=>
  refine u _ (I.ed x y).1 (E x y ?_);have O:=key _ (I.ed x y).2.2.1 U;rw[gj,Bool.or_eq_true,Bool.and_eq_true,decide_eq_true_eq,decide_eq_true_eq]at h;rw[kj];rcases h with h|⟨z,D⟩
  .rw[if_neg oM,if_neg oM,if_neg oM];exact O
  .rw[if_neg oM,if_neg oM,if_pos z,D,O];rfl
end
theorem vj(f:Nat->Bool)(b:Int)(O:0<=b):∀(n q:Nat)(bs:List Bool),b+q+n<=bs.length->∀k:Nat,(pF f b n q bs).getD k false=true↔(bs.getD k false=true\/∃j:Nat,(k:Int)=b+j/\q<=j/\j<q+n/\f j=true)
 |0,q,bs,_,k=>by
  rw[pF];exact⟨.inl,fun h=>h.elim id fun⟨j,_,y,D,_⟩=>oM⟩
 |n+1,q,bs,h,k=>by
  rw[pF];have z:(if f q=true then bs.set (b+q).toNat true else bs).length=bs.length:=by split<;>simp
  rw[vj f b O n (q+1) _ (by rw[z];omega) k];have I:(b+(q:Int)).toNat<bs.length:=oM;rcases J:f q with _|_
  .simp only[bF]
   constructor
   .rintro(h|⟨j,y,D,E,u⟩)
    .exact .inl h
    .exact .inr ⟨j,y,oM,oM,u⟩
   .rintro(h|⟨j,y,D,E,u⟩)
    .exact .inl h
    .have:j≠q:=fun e=>by rw[e,J]at u;cases u
     exact .inr ⟨j,y,oM,oM,u⟩
  .simp only[if_true];rw[U1 _ _ _ I,Bool.or_eq_true,decide_eq_true_eq]
   constructor
   .rintro((h|h)|⟨j,y,D,E,u⟩)
    .exact .inr ⟨q,oM,oM,oM,J⟩
    .exact .inl h
    .exact .inr ⟨j,y,oM,oM,u⟩
   .rintro(h|⟨j,y,D,E,u⟩)
    .exact .inl (.inr h)
    .by_cases e:j=q
     .subst e;exact .inl (.inl oM)
     .exact .inr ⟨j,y,oM,oM,u⟩
theorem Aw{a c:List Bool}(z:a.length=c.length)(h:∀k:Nat,a.getD k false=true↔c.getD k false=true):a=c:=by
 refine List.ext_getElem z fun k u y=>?_;have:=h k;rw[List.getD_eq_getElem?_getD,List.getElem?_eq_getElem u,List.getD_eq_getElem?_getD,List.getElem?_eq_getElem y]at this;simp only[Option.getD_some]at this;cases D:a[k]<;>cases E:c[k]<;>simp_all
theorem Ce(s:StD)(e:EvD)(fi ne:SoD)(p:PrD)(b:Int)(bs0:List Bool)(u:vQ p b bs0):jG s e fi ne p b bs0=aV s e fi ne p b bs0/\(aV s e fi ne p b bs0).length=bs0.length/\∀k:Nat,b+p.st<=k->(aV s e fi ne p b bs0).getD k false=false:=by
 have hb:=u.b0;have a3:=u.st;have a1:=u.en;have a2:=u.sa;have D:(b+p.en).toNat<bs0.length:=oM;obtain⟨hs,I⟩:=eY (p.ts.map (D4 s e bs0));have X:mq fi ne hs p b bs0 (bs0.set (b+p.en).toNat true):=⟨by rw[List.length_set],fun k z=>by rw[U1 _ _ _ D,z,Bool.or_true],fun k z=>by
  rw[U1 _ _ _ D,Bool.or_eq_true,decide_eq_true_eq]at z;rcases z with rfl|z
  .exact .inr ⟨p.en.toNat,oM,oM,.en⟩
  .exact .inl z,by rw[U1 _ _ _ D,decide_eq_true rfl,Bool.true_or]⟩
 obtain⟨y,E⟩:=Jv u (ay (bs0.set (b+p.en).toNat true)+1) _ lR X;have U:aV s e fi ne p b bs0=itE fi ne hs b p.ed (ay (bs0.set (b+p.en).toNat true)+1) (bs0.set (b+p.en).toNat true):=by rw[aV,I]
 rw[<-U]at y E;have J:∀x∈p.ed,x.2.1.toNat<p.st.toNat:=fun x hx=>oN (u.ed x hx);refine⟨?_,y.len,fun k z=>?_⟩
 .refine Aw (by rw[jG,vk,y.len]) fun k=>?_;rw[jG,<-I,vj _ _ hb _ _ _ oM]
  constructor
  .rintro(h|⟨j,O,_,S,h4⟩)
   .exact y.up k h
   .have W:=EI u y E ((zH oM J).1 h4);have:(b+(j:Int)).toNat=k:=oM;rw[ax,this]at W;exact W
  .intro h;rcases y.sound k h with h|⟨q,O,h2,S⟩
   .exact .inl h
   .exact .inr ⟨q,O,Nat.zero_le _,oM,(zH oM J).2 S⟩
 .cases h:(aV s e fi ne p b bs0).getD k false with
  |false=>rfl
  |true=>
   rcases y.sound k h with h|⟨q,O,h2,S⟩
   .rw[u.zero k oM]at h;cases h
   .omega
def KG(p:PrD):Prop:=(∀x∈p.ed,x.2.2.1=0\/x.2.2.1=1\/x.2.2.1=2\/x.2.2.1=3)/\∀t∈p.ts,OkD true t
theorem KG.edge{p:PrD}(h:KG p)(f t k x:Int)(u:k=0\/k=1\/k=2\/k=3):KG (p.edge f t k x):=⟨fun y z=>by
 rcases List.mem_append.1 z with q|q
 .exact h.1 y q
 .rw[List.mem_singleton.1 q];exact u,h.2⟩
theorem KG.fold(t:Int):∀(l:List Int){p:PrD},KG p->KG (l.foldl (fun m x=>m.edge x t 0 0) p)
 |[],p,h=>h
 |x::l,p,h=>by rw[List.foldl_cons];exact KG.fold t l (h.edge _ _ _ _ (.inl rfl))
mutual
theorem ja:∀(q:Q)(p:PrD),OkD false q->KG p->KG (C6 q p).1
 | .mk o s c v a b,p,hok,hp=>by
  obtain⟨ha,hb,h1,h2,h3⟩:=hok.parts;simp only[Q.op,Q.a,Q.b]at ha hb;rw[C6];split
  .exact IL a p ha hp
  .split
   .exact KG.fold _ _ (yZ a p.st {p with st:=p.st+1} [] ha hp)
   .split
    .exact((Ij a {p with st:=p.st+1} ha hp).edge _ _ _ _ (.inl rfl)).edge _ _ _ _ (.inl rfl)
    .show KG (({p with st:=p.st+2,ts:=if o=7 then p.ts++b else p.ts}:PrD).edge p.st (p.st+1) (if o=2 then 1 else if o=3 then 2 else if o=7 then 3 else 0) (if o=7 then(p.ts.length:Int) else 0));refine KG.edge (p:={p with st:=p.st+2,ts:=if o=7 then p.ts++b else p.ts}) ⟨hp.1,fun t ht=>?_⟩ _ _ _ _ ?_
     .simp only at ht;split at ht
      .rcases List.mem_append.1 ht with q|q
       .exact hp.2 t q
       .exact hb t q
      .exact hp.2 t ht
     .split
      .exact .inr (.inl rfl)
      .split
       .exact .inr (.inr (.inl rfl))
       .split
        .exact .inr (.inr (.inr rfl))
        .exact .inl rfl
theorem IL:∀(l:List Q)(p:PrD),(∀x∈l,OkD false x)->KG p->KG (eu l p).1
 |[],p,_,h=>by rw[eu];exact h
 |x::l,p,h,hp=>by
  rw[eu];exact zP l (C6 x p) (fun y hy=>h y (by simp [hy])) (ja x p (h x (by simp)) hp)
theorem zP:∀(l:List Q)(x:PrD×Int×Int),(∀y∈l,OkD false y)->KG x.1->KG (bO l x).1
 |[],x,_,h=>by rw[bO];exact h
 |q::l,x,h,hx=>by
  rw[bO];exact zP l _ (fun y hy=>h y (by simp [hy])) ((ja q x.1 (h q (by simp)) hx).edge _ _ _ _ (.inl rfl))
theorem yZ:∀(l:List Q)(n:Int)(p:PrD)(es:List Int),(∀y∈l,OkD false y)->KG p->KG (I9 l n p es).1
 |[],n,p,es,_,hp=>by rw[I9];exact hp
 |x::l,n,p,es,h,hp=>by
  rw[I9];exact yZ l n _ _ (fun y hy=>h y (by simp [hy])) ((ja x p (h x (by simp)) hp).edge _ _ _ _ (.inl rfl))
theorem Ij:∀(l:List Q)(p:PrD),(∀x∈l,OkD false x)->KG p->KG (dY l p).1
 |[],p,_,h=>by rw[dY];exact h
 |x::l,p,h,hp=>by
  rw[dY];exact ja x p (h x (by simp)) hp
end
theorem DA(q:Q)(u:OkD false q):KG (B9 q):=by
 have h:=ja q ⟨0,0,0,[],[]⟩ u ⟨(fun x z=>by cases z),(fun t y=>by cases y)⟩;exact h
structure mn(s:StD):Prop where
 len:s.base.length=s.progs.length
 at_:∀(i:Nat) p b,s.progs[i]?=some p->s.base[i]?=some b->b=A0 (s.progs.take i)/\KG p
theorem mn.step{s:StD}(h:mn s){x:Q}(E:OkD false x):mn (E8 s x):=by
 rw[E8];split
 .exact h
 .refine⟨by simp [h.len],fun i p b y z=>?_⟩;simp only at y z ⊢;by_cases D:i<s.progs.length
  .rw[List.getElem?_append_left D]at y;rw[List.getElem?_append_left (by rw[h.len];exact D)]at z;rw[List.take_append_of_le_length oM];exact h.at_ i p b y z
  .have u:i=s.progs.length:=by
    have:=(gS y).1;simp at this;omega
   rw[List.getElem?_append_right oM,u,Nat.sub_self]at y;rw[List.getElem?_append_right (by rw[h.len];omega),u,h.len,Nat.sub_self]at z;simp at y z;subst y z;rw[u,List.take_left];exact⟨rfl,DA x E⟩
theorem jN(q:Q)(z:OkD false q):mn (C0 q):=by
 obtain⟨O,D⟩:=bS _ false q lR z;have key:∀(l:List Q)(s:StD),(∀x∈l,OkD false x)->mn s->mn (l.foldl E8 s):=by
  intro l;induction l with
  |nil=>intro s _ h;exact h
  |cons x l J=>
   intro s u h;rw[List.foldl_cons];exact J _ (fun y I=>u y (by simp [I])) (h.step (u x sM))
 exact key (inQ false q) ⟨[],[],[],B9 q⟩ (fun x u=>(D x u).1) ⟨rfl,fun i p b E=>by simp at E⟩
theorem xE(l:List PrD)(i:Nat)(p:PrD)(h:l[i]?=some p):A0 (l.take (i+1))=A0 (l.take i)+p.st:=by
 rw[List.take_add_one,h];exact U6 _ _
theorem ot(s:StD)(u:EvD)(fi ne:SoD)(n:Nat)(S:WfS s n)(z:mn s):∀(k i:Nat)(bs:List Bool),i+k=s.progs.length->bs.length=n->(∀j:Nat,A0 (s.progs.take i)<=j->bs.getD j false=false)->aE s u fi ne ((s.progs.zip s.base).drop i) bs=W9 s u fi ne ((s.progs.zip s.base).drop i) bs
 |0,i,bs,hk,hl,hz=>by
  have:(s.progs.zip s.base).drop i=[]:=dN (by rw[List.length_zip];omega);rw[this];rfl
 |k+1,i,bs,hk,hl,hz=>by
  have X:=z.len;obtain⟨p,y⟩:∃p,s.progs[i]?=some p:=⟨s.progs[i]'oM,List.getElem?_eq_getElem oM⟩
  obtain⟨b,D⟩:∃b,s.base[i]?=some b:=⟨s.base[i]'oM,List.getElem?_eq_getElem oM⟩
  obtain⟨h1,U⟩:=z.at_ i p b y D;obtain⟨w1,w2,w3⟩:=S.at_ i p b y D;have h:(s.progs.zip s.base).drop i=(p,b)::(s.progs.zip s.base).drop (i+1):=by
   have J:(s.progs.zip s.base)[i]?=some (p,b):=by rw[List.getElem?_zip_eq_some];exact⟨y,D⟩
   obtain⟨I,E⟩:=gS J;rw[List.drop_eq_getElem_cons I,E]
  have W:vQ p b bs:=⟨w1,by rw[hl];exact w2,w3.st.1,w3.en,fun x hx=>by have:=w3.ed x hx;exact⟨this.1,this.2.1,this.2.2.1,this.2.2.2.1⟩,U.1,fun j O=>hz j oM⟩
  obtain⟨k1,k2,k3⟩:=Ce s u fi ne p b bs W;rw[h,aE,W9];simp only;rw[k1];exact ot s u fi ne n S z k (i+1) _ oM (by rw[k2];exact hl) fun j O=>k3 j (by rw[xE _ _ _ y]at O;omega)
theorem Cv(q:Q)(u:OkD false q)(z:nQ q<=400)(y:EvD)(fi ne:SoD):vF (C0 q) y fi ne=I4 (C0 q) y fi ne:=by
 rw[vF,I4];have h:=ot (C0 q) y fi ne _ (qP q u z) (jN q u) (C0 q).progs.length 0 (List.replicate (A0 (C0 q).progs).toNat false) oM sM (fun j _=>by rw[List.getD_eq_getElem?_getD,List.getElem?_replicate];split<;>rfl);rw[List.drop_zero]at h;rw[h]
theorem sQ(q:Q)(h:OkD false q):∀p∈(C0 q).progs,∀t∈p.ts,OkD true t:=by
 intro p D t E;obtain⟨i,z,y⟩:=List.getElem_of_mem D;have u:=jN q h;have I:=u.len;exact(u.at_ i p ((C0 q).base[i]'oM) (by rw[List.getElem?_eq_getElem z,y]) (List.getElem?_eq_getElem oM)).2.2 t E
end Go.Proofs.YtofbhlhamfkljaaGreatDoor.Ve
