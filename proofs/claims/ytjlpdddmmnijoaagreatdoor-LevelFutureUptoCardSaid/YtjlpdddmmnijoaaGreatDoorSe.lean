/- A part of the claim: the evaluator and the contracts. Conditions: none here. -/
import Derived.Test.YtjlpdddmmnijoaaGreatDoorSd
import Derived.Test.YtjlpdddmmnijoaaGreatDoorProg
import Derived.KernelRfl
import Derived.OrdersIn
import Derived.CallsIn
import Derived.RegionIn
import Derived.RangeFuncNested
import Derived.RangeFuncBound
import Derived.RangeFuncCalls
import Derived.RangeFuncLeaves
import Derived.Shelf.Abstract
import Derived.Shelf.RegionOpen
import Derived.WalkKit
import Derived.OwnWalkIn
import Derived.TacticsInMore
import Derived.LoopNIn
import Derived.LoopIn
set_option linter.unusedVariables false
set_option linter.unusedSimpArgs false
set_option linter.defProp false
set_option maxHeartbeats 0
set_option maxRecDepth 1000000
namespace Go.Proofs.YtjlpdddmmnijoaaGreatDoor
open Go Go.RowKit
def Fb:=@List.prefix_rfl
def UM:=@List.drop_one
def UO:=@List.take_append_drop
def XG:=@List.setIfInBounds_toArray
def XH:=@List.mem_of_mem_tail
def Zk:=@List.prefix_append
def ZL:=@List.length_dropLast
def aaf:=@List.set_cons_succ
def aag:=@List.set_cons_zero
def aai:=@List.getElem?_zip_eq_some
def aar:=@Array.size_setIfInBounds
def aaw:=@List.getElem_mem
def aax:=@List.getElem?_replicate
def aaE:=@List.getElem_replicate
def aaF:=@Int.add_zero
def aaO:=@List.countP_singleton
def aaP:=@List.contains_iff_mem
def aaQ:=@List.dropLast_sublist
def aa1:=@Bool.or_self
end Go.Proofs.YtjlpdddmmnijoaaGreatDoor
namespace Go.Proofs.YtjlpdddmmnijoaaGreatDoor.Ve
open Go Go.RowKit
open Go.Proofs.Tryz (prog)
structure Z3(Rp Rt:LV->Q->Prop)(H:d7)(rb lw:Nat)(G:Nat->Prop)(r:ReD)(rs:LV)(vl w1 w2 w3:aa3):Prop where
 g:H.g rb=cE (rs++[vl,w1,w2,w3]) 1
 st:StF H G Rp Rt rs r.strat
 lb:SlF H G 5 (EvF H G) vl r.labels
 so:u5 H lw 3 (y7 soE) w1 r.sorts
 sz:u5 H lw 1 (y7 inE) w2 r.size
 ho:u5 H lw 3 (y7 hoE) w3 r.how
 ap:eH [w1,w2,w3]
 fr:∀j,G j->j<H.n/\j≠rb/\∀w∈ [w1,w2,w3],¬j8 w j
 nb:lw<=rb/\∀w∈ [w1,w2,w3],¬j8 w rb
structure cQ(rb lw:Nat)(W0:LV)(H0:d7)(W:LV)(H:d7):Prop where
 but:∀j,j<H0.n->j≠rb->(∀w∈W0,¬j8 w j)->H.g j=H0.g j
 new:∀b,(∃w∈W,j8 w b)->(∃w∈W0,j8 w b)\/H0.n<=b
 stay:d9 lw H0 H
def cQ.refl(rb lw:Nat)(W:LV)(H:d7):cQ rb lw W H W H:=⟨fun _ _ _ _=>rfl,fun _ h=> .inl h,d9.refl _ _⟩
def cQ.trans{rb lw:Nat}{z D E:LV}{H0 H1 H2:d7}(h:cQ rb lw z H0 D H1)(k:cQ rb lw D H1 E H2):cQ rb lw z H0 E H2:=by
 have X:=h.stay.n;refine⟨fun j S I J=>?_,fun b O=>?_,h.stay.trans k.stay⟩
 .rw[k.but j oM I (fun w U q=>by
   rcases h.new j ⟨w,U,q⟩with⟨W,u,r⟩|r
   .exact J W u r
   .omega),h.but j S I J]
 .rcases k.new b O with q|q
  .exact h.new b q
  .exact .inr oM
def cQ.of{rb lw:Nat}{W:LV}{H H1:d7}(u:d9 H.n H H1)(h:lw<=H.n):cQ rb lw W H W H1:=⟨fun j z _ _=>u.g j z,fun _ h=> .inl h,u.wk h⟩
section
variable{Rp Rt:List Value->Q->Prop}{H H1:d7}{rb lw:Nat}{G:Nat->Prop}{r:ReD}{rs:List Value}{vl w1 w2 w3:Value}
def Z3.inl(h:Z3 Rp Rt H rb lw G r rs vl w1 w2 w3){w:aa3}(D:w∈ [w1,w2,w3]){b:Nat}(u:j8 w b):lw<=b/\b≠rb/\b<H.n:=by
 have z:b≠rb:=fun q=>h.nb.2 w D (q▸u);simp only[nd,Cy,Sa]at D;rcases D with rfl|rfl|rfl
 .exact⟨(h.so.lt u).1,z,(h.so.lt u).2⟩
 .exact⟨(h.sz.lt u).1,z,(h.sz.lt u).2⟩
 .exact⟨(h.ho.lt u).1,z,(h.ho.lt u).2⟩
def Z3.rsl(h:Z3 Rp Rt H rb lw G r rs vl w1 w2 w3):rs.length=8:=by
 obtain⟨D,E,I,z,rfl,_,_,_,u⟩:=h.st;have:=fj u;simp [this]
def Z3.at_(h:Z3 Rp Rt H rb lw G r rs vl w1 w2 w3):(rs++[vl,w1,w2,w3])[8]?=some vl/\(rs++[vl,w1,w2,w3])[9]?=some w1/\(rs++[vl,w1,w2,w3])[10]?=some w2/\(rs++[vl,w1,w2,w3])[11]?=some w3:=by
 have:=h.rsl;refine⟨?_,?_,?_,?_⟩<;>rw[ns oM,this]<;>rfl
def Z3.keep(h:Z3 Rp Rt H rb lw G r rs vl w1 w2 w3)(u:d9 H.n H H1):Z3 Rp Rt H1 rb lw G r rs vl w1 w2 w3:=by
 have D:=u6 h.g;have I:=u.n;have E:∀j,G j->H1.g j=H.g j:=fun j z=>u.g j (h.fr j z).1;exact⟨(u.g rb D).trans h.g,h.st.mono E (fun _ h=>h) iF iF,h.lb.mono E (fun _ h=>h) (fun _ _ q=>A3 _ _ _ _ _ _ q E (fun _ h=>h)),h.so.keep u,h.sz.keep u,h.ho.keep u,h.ap,fun j z=>by have:=h.fr j z;exact⟨oM,this.2⟩,h.nb⟩
end
def bW(r:ReD)(x:SoD)(size:Int)(how:Int×Int×Int):ReD×Bool:=
 if(r.sorts.any fun y=>bZ x y) then(r,true) else if(decide (24<(r.sorts.length:Int))||decide (200<size)) then(r,false) else({r with sorts:=r.sorts++[x],size:=r.size++[size],how:=r.how++[how]},true)
def QE(Rp Rt:LV->Q->Prop)(rb lw:Nat)(G:Nat->Prop)(rs:LV)(vl w1 w2 w3:aa3)(H:d7)(r':ReD)(b:Bool):aa3->d7->Prop:=fun v H'=>v= .bool b/\∃x1 x2 x3,Z3 Rp Rt H' rb lw G r' rs vl x1 x2 x3/\cQ rb lw [w1,w2,w3] H [x1,x2,x3] H'
def Ul(Rp Rt:LV->Q->Prop)(H:d7)(rb lw:Nat)(G:Nat->Prop)(r:ReD)(rs:LV)(vl w1 w2 w3:aa3)(hR:Z3 Rp Rt H rb lw G r rs vl w1 w2 w3)(x:SoD)(size:Int)(how:Int×Int×Int)(j0:r.sorts.length<=1000)(j1:r.size.length<=1000)(j2:r.how.length<=1000):
  Ret (CL prog l7 70 [pT rb,.agg (soE x).toArray,iV size,.agg (hoE how).toArray] H) H (QE Rp Rt rb lw G rs vl w1 w2 w3 H (bW r x size how).1 (bW r x size how).2):=by
 obtain⟨H0,a5,n0,-⟩:=pushF H (bC (soE x) 1);obtain⟨H1,U⟩:=eY (H0.push (bC (hoE how) 1));have n1:H1.n=H.n+2:=by rw[U,i4,n0]
 have hS:d9 H.n H H1:=by rw[U,a5];exact(d9.first H _).trans (d9.push (by rw[i4];exact aaq _))
 have g1:H1.g H.n=cE (soE x) 1:=by rw[U,j5 oM,a5];exact j6
 have g2:H1.g (H.n+1)=cE (hoE how) 1:=by rw[U,<-n0];exact j6
 have i0:H.n<=H1.low:=by rw[U,a5];exact lR
 have j4:=u6 hR.g;have u:=hR.keep hS;have a4:=u.g;have b6:=u.nb.1;obtain⟨q8,q9,f8,f9⟩:=u.at_;have a8:=hR.rsl;obtain⟨X,b4⟩:=eY (rs++[vl,w1,w2,w3]);rw[<-b4]at a4 q8 q9 f8 f9;have b7:ldC (some true) (some 3) 0 (soE x)=some (.agg (soE x).toArray):=rfl;have f0:ldC (some true) (some 3) 0 (hoE how)=some (.agg (hoE how).toArray):=rfl;have hh:=Xt H1 H1.n w1 r.sorts x lR u.so.sl oM;rw[i7 YN rfl _ sM];rcases b:(r.sorts.any fun y=>bZ x y)with _|_
 .rw[b]at hh;rcases b2:decide (24<(r.sorts.length:Int))with _|_
  .rcases b3:decide (200<size)with _|_
   .have ha:bW r x size how=({r with sorts:=r.sorts++[x],size:=r.size++[size],how:=r.how++[how]},true):=by rw[bW,b,b2,b3];rfl
    rw[ha];obtain⟨v1,i1,K2,e5,b8,b1,D⟩:=u.so.push1F (P:=prog) (t:=44) (cs:=soE x) (a:=x) (by exact TZ.2.2.2.2.2.2) IW.1 IW.2.1 IW.2.2.1 oM oM rfl rfl oM oM;obtain⟨K1,d3,-,-,s1⟩:=pushE H1 (bC (soE x) 3);rw[<-d3]at e5 b8;have m2:=D.n;have c9:∀j,j8 w1 j->¬j8 w2 j:=u.ap 0 1 w1 w2 rfl rfl oM;have d0:∀j,j8 w1 j->¬j8 w3 j:=u.ap 0 2 w1 w3 rfl rfl oM;have d1:∀j,j8 w2 j->¬j8 w3 j:=u.ap 1 2 w2 w3 rfl rfl oM;have l1:∀j,j8 w1 j->lw<=j/\j≠rb/\j<H1.n:=fun j W=>u.inl sM W;have l2:∀j,j8 w2 j->lw<=j/\j≠rb/\j<H1.n:=fun j W=>u.inl sM W;have l3:∀j,j8 w3 j->lw<=j/\j≠rb/\j<H1.n:=fun j W=>u.inl sM W;have f5:u5 K2 lw 1 (y7 inE) w2 r.size:=u.sz.same fun b z=>D.but b (l2 b z).2.2 (fun q=>c9 b q z);obtain⟨v2,i2,K4,e6,b9,b5,E⟩:=f5.push1F (P:=prog) (t:=38) (cs:=inE size) (a:=size) (by exact BE.2.2.2.2.2.2) ty3.1 ty3.2.1 ty3.2.2.1 oM oM rfl rfl oM oM;obtain⟨K3,d4,-,-,s3⟩:=pushE K2 (bC (inE size) 1);rw[<-d4]at e6 b9;have m4:=E.n;have e8:u5 K4 lw 3 (y7 hoE) w3 r.how:=(u.ho.same (H':=K2) fun b z=>D.but b (l3 b z).2.2 (fun q=>d0 b q z)).same fun b z=>E.but b (oN (l3 b z)) (fun q=>d1 b q z);obtain⟨v3,i3,K6,e7,c0,d6,S⟩:=e8.push1F (P:=prog) (t:=45) (cs:=hoE how) (a:=how) (by exact Yg.2.2.2.2.2.2) IX.1 IX.2.1 IX.2.2.1 oM oM rfl rfl oM oM;obtain⟨K5,d5,-,-,s5⟩:=pushE K4 (bC (hoE how) 3);rw[<-d5]at e7 c0;have m6:=S.n;have k1:K1.g rb=cE X 1:=(s1.g rb oM).trans a4;have k2:K2.g rb=cE X 1:=(D.but rb oM (fun q=>by have:=l1 rb q;omega)).trans a4;have k3:K3.g rb=cE X 1:=(s3.g rb oM).trans k2;have k4:K4.g rb=cE X 1:=(E.but rb oM (fun q=>by have:=l2 rb q;omega)).trans k2;have k5:K5.g rb=cE X 1:=(s5.g rb oM).trans k4;have k6:K6.g rb=cE X 1:=(S.but rb oM (fun q=>by have:=l3 rb q;omega)).trans k4;have nH:∀w∈ [w1,w2,w3],¬j8 w (H.n+1):=fun w hw q=>oN (hR.inl hw q);have p1:=(s1.g (H.n+1) oM).trans g2;have p2:=(D.but (H.n+1) oM (nH w1 sM)).trans g2;have p3:=(s3.g (H.n+1) oM).trans p2;have p4:=(E.but (H.n+1) oM (nH w2 sM)).trans p2;obtain⟨a1,c1,e1⟩:=b1.slice;obtain⟨a2,c2,e2⟩:=b5.slice;obtain⟨a3,c3,e3⟩:=d6.slice;have g6:v1.cells.toList=[v1]:=by rw[e1];rfl
    have h4:Value.oneCell' v1=true:=by rw[e1];rfl
    have g7:v2.cells.toList=[v2]:=by rw[e2];rfl
    have h5:Value.oneCell' v2=true:=by rw[e2];rfl
    have g8:v3.cells.toList=[v3]:=by rw[e3];rfl
    have h6:Value.oneCell' v3=true:=by rw[e3];rfl
    have f6:X.length=12:=by rw[b4];simp [a8]
    obtain⟨I,c6⟩:=eY (rs++[vl,v1,w2,w3]);obtain⟨J,c7⟩:=eY (rs++[vl,v1,v2,w3]);obtain⟨a6,f4⟩:=eY (rs++[vl,v1,v2,v3]);have g9:I.length=12:=by rw[c6];simp [a8]
    have h0:J.length=12:=by rw[c7];simp [a8]
    have h7:splice X 9 [v1]=I:=by show X.set 9 v1=I;rw[b4,c6,Ln _ _ oM,a8];rfl
    have h8:splice I 10 [v2]=J:=by show I.set 10 v2=J;rw[c6,c7,Ln _ _ oM,a8];rfl
    have h9:splice J 11 [v3]=a6:=by show J.set 11 v3=a6;rw[c7,f4,Ln _ _ oM,a8];rfl
    obtain⟨K7,a9⟩:=eY (K6.put rb (bC I 1));have k7:K7.g rb=cE I 1:=by rw[a9];exact i9 oM
    have m7:K7.n=K6.n:=by rw[a9,j9]
    obtain⟨K8,b0⟩:=eY (K7.put rb (bC J 1));have k8:K8.g rb=cE J 1:=by rw[b0];exact i9 oM
    have m8:K8.n=K6.n:=by rw[b0,j9,m7]
    obtain⟨K9,a7⟩:=eY (K8.put rb (bC a6 1));have k9:K9.g rb=cE a6 1:=by rw[a7];exact i9 oM
    have m9:K9.n=K6.n:=by rw[a7,j9,m8]
    have g4:bsA prog (some 58) H1 1 [(0,.agg (soE x).toArray)]=some (sL H1.n 1 1,K1):=by
     rw[d3];simp only[E4,IW,E5];rfl
    have g3:bsA prog (some 3) K2 1 [(0,iV size)]=some (sL K2.n 1 1,K3):=by
     rw[d4];simp only[E4,ty3,E5];rfl
    have g5:bsA prog (some 84) K4 1 [(0,.agg (hoE how).toArray)]=some (sL K4.n 1 1,K5):=by
     rw[d5];simp only[E4,IX,E5];rfl
    have c4:∀Hx:d7,E6 prog .len [44] [w1] Hx=some (.int .i64 (r.sorts.length:Int),none):=fun Hx=>by
     obtain⟨aa,cc,ee⟩:=u.so.slice;rw[ee];exact J1 TZ trivial
    have e9:∀j,j≠rb->K9.g j=K6.g j:=fun j W=>by rw[a7,j7 (fun q=>W q.symm),b0,j7 (fun q=>W q.symm),a9,j7 (fun q=>W q.symm)]
    have d2:∀j,j<H1.n->j≠rb->(∀w∈ [w1,w2,w3],¬j8 w j)->K9.g j=H1.g j:=fun j W h1 h2=>by
     rw[e9 j h1,S.but j oM (h2 w3 sM),E.but j oM (h2 w2 sM),D.but j W (h2 w1 sM)]
    have f7:∀b,j8 v1 b->¬j8 w2 b/\¬j8 w3 b:=fun b z=>by
     rcases D.new b z with q|q
     .exact⟨c9 b q,d0 b q⟩
     .exact⟨fun r=>by have:=l2 b r;omega,fun r=>by have:=l3 b r;omega⟩
    have h3:∀b,j8 v2 b->¬j8 w3 b:=fun b z=>by
     rcases E.new b z with q|q
     .exact d1 b q
     .exact fun r=>oN (l3 b r)
    have e4:d9 lw H1 K9:=by
     rw[a7,b0,a9];exact(((((D.stay.wk oM).trans (E.stay.wk oM)).trans (S.stay.wk oM)).trans (d9.put b6)).trans (d9.put b6)).trans (d9.put b6)
    have f1:u5 K9 lw 3 (y7 soE) v1 (r.sorts++[x]):=b1.same fun b z=>by
     have:=b1.lt z;have c5:b≠rb:=by
      rcases D.new b z with q|q
      .exact(l1 b q).2.1
      .omega
     rw[e9 b c5,S.but b oM (f7 b z).2,E.but b oM (f7 b z).1]
    have f2:u5 K9 lw 1 (y7 inE) v2 (r.size++[size]):=b5.same fun b z=>by
     have:=b5.lt z;have c5:b≠rb:=by
      rcases E.new b z with q|q
      .exact(l2 b q).2.1
      .omega
     rw[e9 b c5,S.but b oM (h3 b z)]
    have f3:u5 K9 lw 3 (y7 hoE) v3 (r.how++[how]):=d6.same fun b z=>e9 b (by
      rcases S.new b z with q|q
      .exact(l3 b q).2.1
      .omega)
    have nw:∀b,(∃w∈ [v1,v2,v3],j8 w b)->(∃w∈ [w1,w2,w3],j8 w b)\/H1.n<=b:=fun b⟨w,hw,z⟩=>by
     simp only[nd,Cy,Sa]at hw;rcases hw with rfl|rfl|rfl
     .exact(D.new b z).imp (fun q=>⟨w1,by simp,q⟩) id
     .exact(E.new b z).imp (fun q=>⟨w2,by simp,q⟩) (fun q=>oM)
     .exact(S.new b z).imp (fun q=>⟨w3,by simp,q⟩) (fun q=>oM)
    have g0:eH [v1,v2,v3]:=by
     have t1:eH [v1,w2,w3]:=u.ap.set (k:=0) (v:=v1) (n:=H1.n) rfl D.new fun y hy b z=>(u.inl hy z).2.2;have t2:eH [v1,v2,w3]:=t1.set (k:=1) (v:=v2) (n:=K2.n) rfl E.new fun y hy b z=>by
      simp only[nd,Cy,Sa]at hy;rcases hy with rfl|rfl|rfl
      .exact(b1.lt z).2
      .have:=l2 b z;omega
      .have:=l3 b z;omega
     exact t2.set (k:=2) (v:=v3) (n:=K4.n) rfl S.new fun y hy b z=>by
      simp only[nd,Cy,Sa]at hy;rcases hy with rfl|rfl|rfl
      .have:=b1.lt z;omega
      .exact(b5.lt z).2
      .have:=l3 b z;omega
    have sG:∀j,G j->K9.g j=H1.g j:=fun j W=>by have:=u.fr j W;exact d2 j this.1 this.2.1 this.2.2
    have O:Z3 Rp Rt K9 rb lw G {r with sorts:=r.sorts++[x],size:=r.size++[size],how:=r.how++[how]} rs vl v1 v2 v3:=
     ⟨by rw[k9,f4],u.st.mono sG (fun _ h=>h) iF iF,u.lb.mono sG (fun _ h=>h) (fun _ _ q=>A3 _ _ _ _ _ _ q sG (fun _ h=>h)),f1,f2,f3,g0,fun j W=>by
      have h:=u.fr j W;refine⟨oM,h.2.1,fun w hw q=>?_⟩;rcases nw j ⟨w,hw,q⟩with⟨w',c8,r⟩|r
      .exact h.2.2 w' c8 r
      .omega,b6,fun w hw q=>by
      rcases nw rb ⟨w,hw,q⟩with⟨w',c8,r⟩|r
      .exact u.nb.2 w' c8 r
      .omega⟩
    refine J30 a5.symm n0 U.symm g1 g2 a4 q9 f8 f9 (aI b7 f0) (aI hh c4) (aI b2 b3) (aI g4 k1) (aI e5 b8) (aI k2 g3) (aI k3 p1) (aI p2 p3) (aI p4 e6) (aI b9 k4) (aI g5 k5) (aI e7 c0) (aI k6 g6) (aI h4 g7) (aI h5 g8) (aI h6 f6) (aI g9 h0) (aI h7 a9.symm) (aI k7 h8) (aI b0.symm k8) (aI h9 a7.symm) ?_;have j3:K9.low<=rb:=by rw[a7,A9];omega
    refine E1 (fun _ hl=>oM) ⟨rfl,v1,v2,v3,⟨O.g,O.st.mono (fun _ _=>rfl) (fun _ h=>h) iF iF,O.lb.mono (fun _ _=>rfl) (fun _ h=>h) (fun _ _ q=>A3 _ _ _ _ _ _ q (fun _ _=>rfl) (fun _ h=>h)),O.so.low _,O.sz.low _,O.ho.low _,O.ap,O.fr,O.nb⟩,fun j W h1 h2=>?_,fun b z=>(nw b z).imp id fun q=>oM,⟨?_,fun k hk q=>?_,fun j W=>?_⟩⟩
    .show K9.g j=H.g j;rw[d2 j oM h1 h2,hS.g j W]
    .show H.n<=K9.n;omega
    .have:=e4.lowAll k hk oM;show k<=min H.low K9.low;omega
    .show K9.g j=H.g j;rw[e4.g j W,hS.g j oM]
   .have ha:bW r x size how=(r,false):=by rw[bW,b,b2,b3];rfl
    rw[ha];obtain⟨a1,c1,e1⟩:=u.so.slice;rw[e1]at hh q9;refine J10 a5.symm n0 U.symm g1 a4 q9 b7 hh b2 b3 ?_;exact⟨_,none,H,rfl,rfl,rfl,w1,w2,w3,hR,cQ.refl _ _ _ _⟩
  .have ha:bW r x size how=(r,false):=by rw[bW,b,b2];rfl
   rw[ha];obtain⟨a1,c1,e1⟩:=u.so.slice;rw[e1]at hh q9;refine J9 a5.symm n0 U.symm g1 a4 q9 b7 hh b2 ?_;exact⟨_,none,H,rfl,rfl,rfl,w1,w2,w3,hR,cQ.refl _ _ _ _⟩
 .rw[b]at hh;have ha:bW r x size how=(r,true):=by rw[bW,b];rfl
  rw[ha];refine J8 a5.symm n0 U.symm g1 a4 q9 b7 hh ?_;exact⟨_,none,H,rfl,rfl,rfl,w1,w2,w3,hR,cQ.refl _ _ _ _⟩
end Go.Proofs.YtjlpdddmmnijoaaGreatDoor.Ve
namespace Go.Proofs.YtjlpdddmmnijoaaGreatDoor.Ve
open Go Ve.Ab
open Go.Proofs.Tryz (prog)
noncomputable def p34:Code×Code×Code×Code×Code:=match Tryz.f45.body with
 |some (.seq a (.seq (.seq b (.block _ (.rangeFunc _ _ A B))) c))=>(a,b,A,B,c)
 |_=>(.skip,.skip,.skip,.skip,.skip)
def QY:Tryz.f45.body=some (.seq p34.1 (.seq (.seq p34.2.1 (.block 0 (.rangeFunc (.tmp 11) #[12,13] p34.2.2.1 p34.2.2.2.1))) p34.2.2.2.2)):=kR
abbrev EW:=cO [N 2 (bx 86 0),N 3 (bx 3 1),N 4 (.alloc 4)]
def YY:V4 p34.1=some EW:=kR
abbrev EX:=cO [L 9 86 2,L 10 3 3,N 11 (c2 68 9 10 86 3)]
def YZ:V4 p34.2.1=some EX:=kR
abbrev rY:=cX [A 5 12] (cO [A 6 13])
def Xv:V4 p34.2.2.1=some rY:=kR
abbrev UV:=cS (.mix [⟨L 30 86 2,false,true,0,1⟩,m1 (L 31 86 2),m0 (N 32 (nc 31)),m0 (F 33 47 32 0),m1 (L 34 43 33),m1 (L 35 29 8),m1 (L 36 86 2),m0 (N 37 (nc 36)),m0 (F 38 47 37 2),m1 (L 39 44 38),m0 (M 40 5),m0 (N 41 (ia 44 39 40)),m1 (L 42 58 41),m1 (L 43 86 2),m0 (N 44 (nc 43)),m0 (F 45 47 44 2),m1 (L 46 44 45),m0 (M 47 6),m0 (N 48 (ia 44 46 47)),m1 (L 49 58 48),m3 (N 50 (cf 71 #[T 34,T 35,T 42,T 49] #[43,29,58,58])) 0 1,⟨L 51 3 3,false,true,0,1⟩,m2 (M 52 7) 0 1,m2 (M 53 5) 0 1,m2 (M 54 6) 0 1,m2 (N 55 (.build 84 #[(0,T 52),(1,T 53),(2,T 54)])) 0 1,m3 (N 56 (cf 70 #[T 30,T 50,T 51,T 55] #[86,58,3,84])) 1 2,m2 (N 57 (nt' 4 56)) 2 2]) (cC (T 57) (cR [V (.store 4 (T 4) B0)]) .skip)
abbrev UW:=cS (cX [L 24 86 2,L 25 29 8,M 26 5,M 27 6,N 28 (cf 69 #[T 24,T 25,T 26,T 27] #[86,29,3,3]),N 29 (nt' 4 28)] (cC (T 29) (.exit 3) .skip)) UV
abbrev UX:=cS (cB 3 (cX [M 21 19,N 22 (ia 22 17 19),L 23 29 22,N 8 (.alloc 29),A 7 21,V (st' 29 8 23)] UW)) (cO [N 58 (iN 19),M 19 58])
abbrev PZ:=cX [N 20 (bo .lss 3 19 18 3)] (cG 20 2 UX)
abbrev rZ:=cB 1 (cX [L 14 86 2,N 15 (nc 14),F 16 47 15 1,L 17 22 16,N 18 (ln 17 22),N 19 (.move (K 0))] (cW 2 PZ))
def Xw:V4 p34.2.2.2.1=some rZ:=kR
abbrev vL:=cR [V (.store 4 (T 4) B1)]
def Za:V4 p34.2.2.2.2=some vL:=kR
def Su:prog.funcs[45]?=some Tryz.f45:=kR
def Zo:(N2 Tryz.f45.ntmps p34.1&&N2 Tryz.f45.ntmps p34.2.1&&N2 Tryz.f45.ntmps p34.2.2.1&&N2 Tryz.f45.ntmps p34.2.2.2.1&&N2 Tryz.f45.ntmps p34.2.2.2.2&&I8 p34.2.2.1&&I8 p34.2.2.2.1&&decide (12<Tryz.f45.ntmps)&&decide (13<Tryz.f45.ntmps))=true:=kR
def Xo:fnA prog 45=none:=kR
def Zn:Tryz.f45.ntmps=59:=kR
def Zr:Tryz.f45.results.toList=[.cell 4 4]:=kR
end Go.Proofs.YtjlpdddmmnijoaaGreatDoor.Ve
namespace Go.Proofs.YtjlpdddmmnijoaaGreatDoor.Ve
open Go Go.RowKit
open Go.Proofs.Tryz (prog)
def tC(s:StD)(e:EvD)(fi ne:SoD):∀(l:List (PrD×Int))(bs:List Bool),(aJ s e fi ne l bs).length=bs.length
 |[],bs=>rfl
 |x::l,bs=>by
  rw[aJ,tC s e fi ne l,cV,xY];simp
def MO(s:StD)(e:EvD)(fi ne:SoD){n:Nat}(u:(n:Int)=A5 s.progs):ek (I9 s e fi ne) n:=fun _=>by
 show(pC (aJ s e fi ne (s.progs.zip s.base) (List.replicate (A5 s.progs).toNat false))).size=n;have h:∀l:List Bool,(pC l).size=l.length:=fun l=>by
  show((l.map fun b=>if b then(1:UInt8) else 0).toArray).size=_;simp
 rw[h,tC,Qw];omega
structure WfR(r:ReD)(n:Nat):Prop where
 n0:(n:Int)=A5 r.strat.progs
 st:WfS r.strat n
 so:∀x∈r.sorts,ek x n
 at_:∀e∈r.labels,e.attrs.length<=1000000
 sz:∀p∈r.strat.progs,p.ts.length<=1000000/\p.ed.length<=1000000/\0<=p.st/\p.st<=1000000
 l1:r.sorts.length<=25
 l2:r.size.length=r.sorts.length
 l3:r.how.length=r.sorts.length
 ll:r.labels.length<=1000
 l0:1<=r.sorts.length
 sb:∀x∈r.size,0<=x/\x<=200
def iE(r:ReD)(x:SoD)(size:Int)(how:Int×Int×Int):(bW r x size how).1.strat=r.strat/\(bW r x size how).1.labels=r.labels/\r.size<+:(bW r x size how).1.size/\r.sorts<+:(bW r x size how).1.sorts:=by
 unfold bW;split
 .exact⟨rfl,rfl,Fb,Fb⟩
 .split
  .exact⟨rfl,rfl,Fb,Fb⟩
  .exact⟨rfl,rfl,Zk _ _,Zk _ _⟩
def WfR.add{r:ReD}{n:Nat}(h:WfR r n){x:SoD}(D:ek x n){size:Int}(E:0<=size)(how:Int×Int×Int):WfR (bW r x size how).1 n:=by
 unfold bW;split
 .exact h
 .split
  .exact h
  .rename_i z;simp only[xj,eT,aaz]at z;refine⟨h.n0,h.st,fun y u=>?_,h.at_,h.sz,?_,?_,?_,h.ll,?_,fun y u=>?_⟩
   .rcases gd.1 u with q|q
    .exact h.so y q
    .rw[mj.1 q];exact D
   .simp only[dx,vV];omega
   .simp only[dx,vV];rw[h.l2]
   .simp only[dx,vV];rw[h.l3]
   .simp only[dx,vV];omega
   .rcases gd.1 u with q|q
    .exact h.sb y q
    .rw[mj.1 q];omega
def soZ:SoD:=(false,false,eB)
def S6(size a b:Int):List EvD->Nat->ReD->ReD×Bool
 |[],_,r=>(r,true)
 |e::l,i,r=>
  if bG r.sorts e.kind a b then
   if(bW r (I9 r.strat e (r.sorts.getD a.toNat soZ) (r.sorts.getD b.toNat soZ)) size (i,a,b)).2 then S6 size a b l (i+1) (bW r (I9 r.strat e (r.sorts.getD a.toNat soZ) (r.sorts.getD b.toNat soZ)) size (i,a,b)).1
   else((bW r (I9 r.strat e (r.sorts.getD a.toNat soZ) (r.sorts.getD b.toNat soZ)) size (i,a,b)).1,false)
  else S6 size a b l (i+1) r
structure Jc(Hb:d7)(rb lw:Nat)(W0:LV)(b2 b3 b4:Nat)(size:Int):Prop where
 g2:Hb.g b2=cE [pT rb] 1
 g3:Hb.g b3=cE [iV size] 1
 g4:∃v,Hb.g b4=cE [v] 1
 ne:∀j,(j=b2\/j=b3\/j=b4)->lw<=j/\j≠rb/\∀w∈W0,¬j8 w j
def Jc.at_{u:d7}{I S:Nat}{J:LV}{z D E:Nat}{size:Int}(h:Jc u I S J z D E size){W:LV}{H:d7}(U:cQ I S J u W H):H.g z=cE [pT I] 1/\H.g D=cE [iV size] 1/\∃v,H.g E=cE [v] 1:=by
 obtain⟨v,O⟩:=h.g4;have k:∀j,(j=z\/j=D\/j=E)->j<u.n->H.g j=u.g j:=fun j X hl=>by
  have:=h.ne j X;exact U.but j hl this.2.1 this.2.2
 exact⟨(k z (.inl rfl) (u6 h.g2)).trans h.g2,(k D (.inr (.inl rfl)) (u6 h.g3)).trans h.g3,v,(k E (.inr (.inr rfl)) (u6 O)).trans O⟩
def AF(Hs:d7)(lo K:Nat)(rb lw:Nat)(G:Nat->Prop)(rs:LV)(vl:aa3)(W0:LV)(Hb:d7)(b2 b3 b4:Nat)(size a b:Int)(h0:0<=size)(n:Nat)(a5:Jc Hb rb lw W0 b2 b3 b4 size)(m5:lo<=lw)(g8:∀j,j<lo->Hb.g j=Hs.g j) (va:Option Addr) (vc:Nat) (J:List EvD) (e8:vl= .slice va J.length vc) (S:ReD×Bool):
  ∀kk e H,(∃(i:Nat)(r:ReD)(W X x3:aa3),kk=J.length-i/\i<=J.length/\e.g 2=pT b2/\e.g 3=pT b3/\e.g 4=pT b4/\e.g 5=iV a/\e.g 6=iV b/\e.g 17=vl/\e.g 18=iV J.length/\e.g 19=iV i/\
    r.labels=J/\Z3 (QR Hs lo K false) (QR Hs lo K true) H rb lw G r rs vl W X x3/\cQ rb lw W0 Hb [W,X,x3] H/\WfR r n/\S6 size a b (J.drop i) i r=S)->
  u7 (LE prog l7 (.loop PZ) e H) (fun o e H=>(o= .exit 2/\S.2=true/\∃W X x3,Z3 (QR Hs lo K false) (QR Hs lo K true) H rb lw G S.1 rs vl W X x3/\cQ rb lw W0 Hb [W,X,x3] H/\WfR S.1 n)\/(o= .ret/\S.2=false/\H.g b4=cE [.bool false] 1/\d9 lw Hb H)):=by
 refine i5 _ _ ?_;rintro kk e H ⟨i,r,W,X,x3,hk,hi,f2,f3,f4,f5,f6,c6,a1,b5,a6,hR,hT,u,D⟩;obtain⟨g2,g3,w4,g4⟩:=a5.at_ hT;have h3:=u.ll;rw[a6]at h3;rcases bd:decide ((i:Int)<J.length)with _|_
 .have g7:=dF bd;have:J.drop i=[]:=dN oM;rw[this,S6]at D;refine J3 b5 a1 bd ?_;exact i6 (.inl ⟨rfl,by rw[<-D],W,X,x3,by rw[<-D];exact hR,hT,by rw[<-D];exact u⟩)
 have g7:=dT bd;have h2:i<J.length:=oM;have c3:=hR.lb;rw[a6,e8]at c3;obtain⟨ev,nb,o,cs,own,el,hx,hd,rfl,l5,hg,m4,a7,hc,d4⟩:=c3.row (i:=i) h2;rw[hd,S6]at D;have nt:(i:Int).toNat=i:=tN i;have g9:ev∈r.labels:=by rw[a6];exact mG hx
 obtain⟨av,b7,g6⟩:=id d4;obtain⟨aa,ac,rfl⟩:=g6.slice;have b9:el.length=5:=by rw[b7];rfl
 have b1:el.all oC=true:=by rw[b7];rfl
 have f8:el[0]?=some (.int .i64 ev.kind):=by rw[b7];rfl
 have U:=c6;rw[e8]at U;obtain⟨H1,b6,n1,g1,-⟩:=pushE H (bC [iV 0,.string eB,.string eB,nS,.string eB] 1);have d1:el.take 5=el:=kC oM;obtain⟨H2,a2⟩:=eY (H1.put H.n (bC el 1));have n2:H2.n=H.n+1:=by rw[a2,j9,n1]
 have sp:splice [iV 0,.string eB,.string eB,nS,.string eB] 0 el=el:=by rw[b7];rfl
 have hS:d9 H.n H H2:=by rw[a2,b6];exact(d9.push lR).trans (d9.put lR)
 have ge:H2.g H.n=cE el 1:=by rw[a2];exact i9 oM
 have E:=hR.keep hS;have a3:=E.g;have m8:=u6 hR.g;have m6:=hR.nb.1;have l2:b2<H.n:=u6 g2;have l3:b3<H.n:=u6 g3;have l4:b4<H.n:=u6 g4;have c7:=(hS.g b2 l2).trans g2;have d3:=(hS.g b3 l3).trans g3;have k7:=(hS.g b4 l4).trans g4;obtain⟨q8,q9,i3,j0⟩:=E.at_;have h6:=hR.rsl;have c9:cQ rb lw W0 Hb [W,X,x3] H2:=hT.trans (cQ.of hS oM);have b0:=Qs H2 rb _ true 1 a3 r.sorts W E.so.sl q9 el ev b9 b1 f8 a b;have c5:∀(e':Env)(H':d7)(r':ReD)(y1 y2 y3:aa3),e'.g 2=pT b2->e'.g 3=pT b3->e'.g 4=pT b4->e'.g 5=iV a->e'.g 6=iV b->e'.g 17=vl->e'.g 18=iV J.length->e'.g 19=iV (i+1:Nat)->
   r'.labels=J->Z3 (QR Hs lo K false) (QR Hs lo K true) H' rb lw G r' rs vl y1 y2 y3->cQ rb lw W0 Hb [y1,y2,y3] H'->WfR r' n->S6 size a b (J.drop (i+1)) (i+1) r'=S->
   ∃(i:Nat)(r:ReD)(W X x3:aa3),kk-1=J.length-i/\i<=J.length/\e'.g 2=pT b2/\e'.g 3=pT b3/\e'.g 4=pT b4/\e'.g 5=iV a/\e'.g 6=iV b/\e'.g 17=vl/\e'.g 18=iV J.length/\e'.g 19=iV i/\
    r.labels=J/\Z3 (QR Hs lo K false) (QR Hs lo K true) H' rb lw G r rs vl W X x3/\cQ rb lw W0 Hb [W,X,x3] H'/\WfR r n/\S6 size a b (J.drop i) i r=S:=
  fun e' H' r' y1 y2 y3 p1 p2 p3 p4 p5 p6 p7 p8 p9 h8 h9 i0 i1=>⟨i+1,r',y1,y2,y3,oM,oM,p1,p2,p3,p4,p5,p6,p7,p8,p9,h8,h9,i0,i1⟩
 have nx:((i:Int)+1)=((i+1:Nat):Int):=oM;obtain⟨j1,O⟩:=eY (rs++[vl,W,X,x3]);have f1:ldC (some true) (some 8) 0 j1=some (.agg rs.toArray):=by
  rw[iY _ _ _ (by rw[O];simp [h6]),O,lP,A2 oM,kC oM]
 rw[<-O]at a3 q8 q9 i3 j0;rcases bm:bG r.sorts ev.kind a b with _|_
 .rw[bm]at b0 D;simp only[bF]at D;refine J21 f2 f5 f6 U a1 b5 bd hg nt a7 b6.symm g1 b9 b1 d1 sp a2.symm ge c7 b0 @wrap_small ?_;exact d8 (kk-1) oM (c5 _ _ r W X x3 f2 f3 f4 f5 f6 c6 a1 (by rw[<-nx];rfl) a6 E c9 u D)
 .rw[bm]at b0 D;simp only[jd]at D;have d2:=bm;simp only[bG,knB,cA,eT]at d2;obtain⟨⟨⟨l6,l8⟩,m0,m1⟩,_⟩:=d2;have b8:=E.so.sl;have j4:=b8;obtain⟨sa,sc,rfl⟩:=b8.slice;obtain⟨fi,h7,oa,k5,k0,f9,e9,_,e1,k8,d0,j2,a8,m2,h1⟩:=b8.row (i:=a.toNat) oM;obtain⟨ne,m9,ob,k6,k1,g0,f0,_,e2,k9,e4,j3,a9,m3,e7⟩:=b8.row (i:=b.toNat) oM;obtain rfl:f9=soE fi:=h1;obtain rfl:g0=soE ne:=e7;subst e1;cases e2;rw[d0]at e4;cases e4;have e3:r.sorts.getD a.toNat soZ=fi:=by rw[dE,e9];rfl
  have e5:r.sorts.getD b.toNat soZ=ne:=by rw[dE,f0];rfl
  rw[e3,e5]at D;have e6:=vW Hs lo K r.strat ev fi ne G H2 rs el E.st (A3 _ _ _ _ _ _ d4 (fun j hj=>hS.g j (hR.fr j hj).1) (fun _ h=>h)) (fun j hj=>(E.fr j hj).1) (fun j hj=>by rw[c9.stay.g j oM];exact g8 j hj) (oN (u6 a3)) n u.n0 u.st (u.so fi (mG e9)) (u.so ne (mG f0)) (u.at_ ev g9) u.sz;have d6:=Ul (QR Hs lo K false) (QR Hs lo K true) H2 rb lw G r rs vl (.slice (some ⟨h7,oa,none⟩) r.sorts.length sc) X x3 E (I9 r.strat ev fi ne) size (i,a,b) (oN (u.l1)) (by have:=u.l1;have:=u.l2;omega) (by have:=u.l1;have:=u.l3;omega);obtain⟨n3,m7,H3,I,c0,h4,y1,y2,y3,d5,g5⟩:=d6;subst h4;have a4:=c9.trans g5;have c4:=u.add (MO r.strat ev fi ne u.n0) h0 (i,a,b);obtain⟨i2,f7,_,_⟩:=iE r (I9 r.strat ev fi ne) size (i,a,b);obtain⟨z,hz⟩:=eY (bW r (I9 r.strat ev fi ne) size (i,a,b));rw[<-hz]at I d5 c4 i2 f7 D;obtain⟨k2,k3,w5,k4⟩:=a5.at_ a4;rcases bz:z.2 with _|_
  .rw[bz]at I D;simp only[bF]at D;have h5:b4<H3.n:=u6 k4;obtain⟨H4,c8⟩:=eY (H3.put b4 (bC [.bool false] 1));have e7:=(a5.ne b4 (.inr (.inr rfl))).1;refine J30 f2 f3 f4 f5 f6 U a1 b5 f1 bd hg nt a7 b6.symm g1 b9 b1 d1 sp a2.symm ge c7 d3 b0 a3 q9 (aI d0 a8) (aI a9 e6) (aI I c0) (aI k4 c8.symm) ?_;refine y9 (.inr ⟨rfl,by rw[<-D],by rw[c8];exact i9 h5,?_⟩);rw[c8];exact a4.stay.trans (d9.put oM)
  .rw[bz]at I D;simp only[jd]at D;refine J30 f2 f3 f5 f6 U a1 b5 f1 bd hg nt a7 b6.symm g1 b9 b1 d1 sp a2.symm ge c7 d3 b0 a3 q9 d0 a8 a9 (aI e6 I) (aI c0 @wrap_small) ?_;exact d8 (kk-1) oM (c5 _ _ z.1 y1 y2 y3 f2 f3 f4 f5 f6 c6 a1 (by rw[<-nx];rfl) (by rw[f7,a6]) d5 a4 c4 D)
end Go.Proofs.YtjlpdddmmnijoaaGreatDoor.Ve
namespace Go.Proofs.YtjlpdddmmnijoaaGreatDoor.Ve
open Go
def rP{i:Nat}{p q:Nat->Bool}:∀m,i<m->(∀j,j<m->j≠i->p j=q j)->p i=true->q i=false->(List.range m).countP p=(List.range m).countP q+1:=by
 intro m;induction m with
 |zero=>intro h;omega
 |succ m J=>
  intro O h D E;rw[UH,List.countP_append,List.countP_append,aaO,aaO];by_cases z:i=m
  .subst z;have:(List.range i).countP p=(List.range i).countP q:=List.countP_congr fun x I=>by rw[h x (oN (vK.1 I)) (oN (vK.1 I))]
   rw[this,D,E];rfl
  .rw[J oM (fun j S u=>h j oM u) D E,h m oM (fun q=>z q.symm)];omega
def unl(m:Nat)(L:Array Bool):Nat:=(List.range m).countP fun i=> !L.getD i true
def bV(md:Region.Mode)(ops:Array Oper)(i:Nat):List Nat:=((ops[i]?).map fun o=>(o.after.toList.filter fun e=>Region.binds md e).map (·.on)).getD []
def bR{md:Region.Mode}{ops:Array Oper}{L:Array Bool}{i:Nat}:i∈Region.ready md ops L↔i<ops.size/\L.getD i true=false/\∀d∈bV md ops i,L.getD d false=true:=by
 unfold Region.ready bV;rw[He,vK]
 constructor
 .rintro⟨h,u⟩;simp only[cA,Hw]at u;refine⟨h,u.1,fun d D=>?_⟩;have I:ops[i]?=some ops[i]:=ma h;rw[I]at u D;simp only[xg,zB,wC,He]at u D;obtain⟨e,⟨E,z⟩,rfl⟩:=D;have:=Array.all_eq_true'.1 u.2 e (by simpa using E);simp only[z,G3,za]at this;exact this
 .rintro⟨h,J,u⟩;refine⟨h,?_⟩;have I:ops[i]?=some ops[i]:=ma h;rw[I]at u ⊢;simp only[xg,zB,cA,Hw]at u ⊢;refine⟨J,Array.all_eq_true'.2 fun e E=>?_⟩;by_cases z:Region.binds md e=true
  .rw[u e.on (wC.2 ⟨e,He.2 ⟨by simpa using E,z⟩,rfl⟩)];simp
  .simp [z]
def Z6(L:Array Bool)(i j:Nat)(d:Bool):(L.setIfInBounds i true).getD j d=if i=j then(if j<L.size then true else d) else L.getD j d:=by
 rw[ef,sv,ef];by_cases h:i=j
 .subst h;by_cases u:i<L.size
  .simp [u]
  .simp [u]
 .simp [h]
def dD{L:Array Bool}{i:Nat}(h:i<L.size)(a b:Bool):L.getD i a=L.getD i b:=by
 rw[ef,ef,ma h];rfl
structure rn(md:Region.Mode)(ops pre:Array Oper):Prop where
 le:pre.size<=ops.size
 pos:0<pre.size
 same:∀i:Nat,i<pre.size->ops[i]?=pre[i]?
 plain:∀(i:Nat)(o:Oper),pre[i]?=some o->o.guard=none
 back:∀i,i<pre.size->∀d∈bV md ops i,d<i
 used:∀i,i+1<pre.size->∃j,i<j/\j<pre.size/\i∈bV md ops j
 later:∀i,pre.size<=i->i<ops.size->∃d,d∈bV md ops i/\pre.size<=d+1
structure FH(ops pre:Array Oper)(md:Region.Mode)(L L':Array Bool):Prop where
 s1:L.size=ops.size
 s2:L'.size=pre.size
 eq:∀i,i<pre.size->L.getD i true=L'.getD i true
 off:∀i,pre.size<=i->i<ops.size->L.getD i true=false
 cl:∀i,i<pre.size->L'.getD i true=true->∀d∈bV md ops i,L'.getD d true=true
section
variable{F:Fence}{n:Nat}{P:Program}{ops pre:Array Oper}{md:Region.Mode}{Q Q':Exit->Act->World->Prop}
def vE(h:rn md ops pre){L J:Array Bool}(r:FH ops pre md L J)(X:J.getD (pre.size-1) true=false){i:Nat}:i∈Region.ready md ops L↔i∈Region.ready md pre J:=by
 have hp:=h.pos;have a1:=h.le;have w:∀i,i<pre.size->bV md ops i=bV md pre i:=fun i z=>by unfold bV;rw[h.same i z]
 rw[bR,bR]
 constructor
 .rintro⟨D,O,I⟩;by_cases z:i<pre.size
  .refine⟨z,(r.eq i z)▸O,fun d u=>?_⟩;rw[<-w i z]at u;have S:=h.back i z d u;have:=I d u;rw[dD (by rw[r.s1];omega) false true,r.eq d oM]at this;rw[dD (by rw[r.s2];omega) false true];exact this
  .obtain⟨d,u,W⟩:=h.later i oM D;have:=I d u
   exfalso
   by_cases U:d<pre.size
   .have e:d=pre.size-1:=oM;rw[dD (by rw[r.s1];omega) false true,r.eq d U,e,X]at this;cases this
   .by_cases E:d<ops.size
    .rw[dD (by rw[r.s1];exact E) false true,r.off d oM E]at this;cases this
    .rw[ef,Zy (by rw[r.s1];omega)]at this;cases this
 .rintro⟨D,O,I⟩;refine⟨oM,(r.eq i D).symm▸O,fun d u=>?_⟩;have S:=h.back i D d u;rw[w i D]at u;have:=I d u;rw[dD (by rw[r.s2];omega) false true]at this;rw[dD (by rw[r.s1];omega) false true,r.eq d oM];exact this
def EP(h:rn md ops pre){L u:Array Bool}(r:FH ops pre md L u)(I:u.getD (pre.size-1) true=true):∀i,i<pre.size->u.getD i true=true:=by
 have:∀k i,i+k+1=pre.size->u.getD i true=true:=by
  intro k;induction k using Nat.strongRecOn with
  |ind k J=>
   intro i E;by_cases S:i+1=pre.size
   .have:i=pre.size-1:=oM;rw[this];exact I
   .obtain⟨j,O,z,D⟩:=h.used i oM;exact r.cl j z (J (pre.size-1-j) oM j oM) i D
 exact fun i E=>this (pre.size-1-i) i oM
def vD(h:rn md ops pre){L z:Array Bool}(r:FH ops pre md L z)(U:z.getD (pre.size-1) true=false):∃i,i∈Region.ready md pre z:=by
 have hp:=h.pos;have:∀k i,i<=k->i<pre.size->z.getD i true=false->∃j,j∈Region.ready md pre z:=by
  intro k;induction k with
  |zero=>
   intro i S u I;refine⟨i,bR.2 ⟨u,I,fun d D=>?_⟩⟩;have:=h.back i u d (by unfold bV at D ⊢;rw[h.same i u];exact D);omega
  |succ k X=>
   intro i S u I;by_cases J:∃j,j<i/\z.getD j true=false
   .obtain⟨j,h1,O⟩:=J;exact X j oM oM O
   .refine⟨i,bR.2 ⟨u,I,fun d D=>?_⟩⟩;have E:=h.back i u d (by unfold bV at D ⊢;rw[h.same i u];exact D);rw[dD (by rw[r.s2];omega) false true];cases W:z.getD d true with
    |true=>rfl
    |false=>exact absurd ⟨d,E,W⟩ J
 exact this (pre.size-1) (pre.size-1) lR oM U
def Rh(h:rn md ops pre)(k:Nat)(Lm:Array Bool)(a4:∀L D,FH ops pre md L D->(∀i,i<pre.size->D.getD i true=true)->L=Lm)
  (J:∀c a w,Q' (.panic c) a w->Q (.panic c) a w) (a3:∀a w,Q' .normal a w->wpAnyIn F n P md ops Q k Lm a w) (X:LetsOut Q'->LetsOut Q):
  ∀u L D a w,FH ops pre md L D->unl pre.size D=u->wpAnyIn F n P md pre Q' u D a w->wpAnyIn F n P md ops Q (u+k) L a w:=by
 have hp:=h.pos;intro u;induction u with
 |zero=>
  intro L D a w r hu hw;have hl:D.getD (pre.size-1) true=true:=by
   cases hv:D.getD (pre.size-1) true with
   |true=>rfl
   |false=>
    obtain⟨i,hi⟩:=vD h r hv;rw[hw.1]at hi;cases hi
  rw[tV,a4 L D r (EP h r hl)];exact a3 a w hw.2
 |succ u ih=>
  intro L D a w r hu hw;have hl:D.getD (pre.size-1) true=false:=by
   cases hv:D.getD (pre.size-1) true with
   |false=>rfl
   |true=>
    have:unl pre.size D=0:=by
     unfold unl;rw[ZS];intro i hi;rw[EP h r hv i (vK.1 hi)];decide
    omega
  obtain⟨i0,a6⟩:=vD h r hl;rw[show u+1+k=(u+k)+1 from oM];refine⟨fun q=>?_,fun i hi=>?_⟩
  .have:=(vE h r hl).2 a6;rw[q]at this;cases this
  .have a1:=(vE h r hl).1 hi;obtain⟨S,a7,a8⟩:=bR.1 a1;have z:=hw.2 i a1;have ho:pre[i]?=some pre[i]:=ma S;have b1:ops[i]?=some pre[i]:=(h.same i S).trans ho;have hg:=h.plain i _ ho;have r2:FH ops pre md (L.setIfInBounds i true) (D.setIfInBounds i true):=by
    refine⟨by simp [r.s1],by simp [r.s2],fun j U=>?_,fun j U a9=>?_,fun j U hv d hd=>?_⟩
    .rw[Z6,Z6,r.s1,r.s2,bJ (show j<ops.size by have:=h.le;omega),bJ U,r.eq j U]
    .rw[Z6,bt oM];exact r.off j U a9
    .have b4:=h.back j U d hd;rw[Z6]at hv ⊢;by_cases a2:i=j
     .subst a2;have a5:d∈bV md pre i:=by unfold bV at hd ⊢;rw[<-h.same i U];exact hd
      have:=a8 d a5;rw[dD (by rw[r.s2];omega) false true]at this;by_cases I:i=d
      .rw[bJ I,bJ (by rw[r.s2];omega)]
      .rw[bt I];exact this
     .rw[bt a2]at hv;have:=r.cl j U hv d hd;by_cases I:i=d
      .rw[bJ I,bJ (by rw[r.s2];omega)]
      .rw[bt I];exact this
   have W:unl pre.size (D.setIfInBounds i true)=u:=by
    have:=rP (i:=i) (p:=fun j=> !D.getD j true) (q:=fun j=> !(D.setIfInBounds i true).getD j true) pre.size S (fun j U b0=>by
     simp only[Z6];rw[bt (fun q=>b0 q.symm)]) (by show(!D.getD i true)=true;rw[a7];rfl) (by show(!(D.setIfInBounds i true).getD i true)=false;rw[Z6,bJ rfl,bJ (by rw[r.s2];exact S)];rfl)
    unfold unl at hu ⊢;omega
   unfold wpOpIn at z ⊢;simp only[ho,b1]at z ⊢;have b2:∀v,Region.wanted pre[i] v=true:=fun v=>by unfold Region.wanted;rw[hg]
   simp only[b2,jd]at z ⊢;refine⟨z.1,?_⟩;have E:=z.2;generalize (pre[i].semAt F.round a.eval).run P w=res at E ⊢;cases res with
   |ok x w'=>
    cases x<;>simp only[Oper.uponIn]at E ⊢ <;>
     first
      |exact ih _ _ _ _ r2 W E
      |exact⟨E.1,CallsIn.mono E.2 (fun e b3 O=>by cases e<;>first|exact ih _ _ _ _ r2 W O|exact J _ _ _ O|exact X O)⟩
      |exact⟨E.1,RowsIn.mono E.2 (fun _ _ O=>ih _ _ _ _ r2 W O)⟩
      |exact⟨E.1,RoundIn.mono E.2 (fun e b3 O=>by cases e<;>first|exact ih _ _ _ _ r2 W O|exact J _ _ _ O|exact X O)⟩
   |halt x w'=>cases x<;>simp only[Oper.uponIn]at E ⊢ <;>first|exact J _ _ _ E|exact E
end
structure Ev(md:Region.Mode)(pre:Array Oper):Prop where
 plain:∀(i:Nat)(o:Oper),pre[i]?=some o->o.guard=none/\o.dst.isSome=true/\(∀cs b,o.op≠ .select cs b)/\(∀c,o.op≠ .defer c)
 apart:∀(i j:Nat)(oi oj:Oper),pre[i]?=some oi->pre[j]?=some oj->i≠j->oi.dst≠oj.dst
 reads:∀(i j:Nat)(oi oj:Oper)(t:Tmp),pre[i]?=some oi->pre[j]?=some oj->Operand.tmp t∈oi.op.operands->oj.dst=some t->j∈bV md pre i
structure Ji(pre:Array Oper)(a0 af:Act)(L:Array Bool)(a:Act):Prop where
 sz:L.size=pre.size
 ts:a.tmps.size=a0.tmps.size
 df:a.defers=a0.defers
 on:∀(j:Nat)(o:Oper)(t:Tmp),pre[j]?=some o->o.dst=some t->L.getD j true=true->a.tmps.getD t undef=af.tmps.getD t undef
 off:∀t,(∀(j:Nat)(o:Oper),pre[j]?=some o->o.dst=some t->L.getD j true=false)->a.tmps.getD t undef=a0.tmps.getD t undef
def Ew{a b:Act}(h:a.tmps.size=b.tmps.size)(u:a.defers=b.defers)(z:∀t,a.tmps.getD t undef=b.tmps.getD t undef):a=b:=by
 obtain⟨D,J⟩:=a;obtain⟨S,O⟩:=b;simp only at h u z;subst u
 congr 1
 apply Array.ext h;intro i E I;have:=z i;rw[ef,ef,ma E,ma I]at this;exact this
def MP{n:Nat}{P:Program}{pre:Array Oper}{md:Region.Mode}{Q:Exit->Act->World->Prop}(h:Ev md pre){a0 af:Act}{w:World}(hs:af.tmps.size=a0.tmps.size)(hd:af.defers=a0.defers)
  (W:∀t,(∀(j:Nat)(o:Oper),pre[j]?=some o->o.dst≠some t)->af.tmps.getD t undef=a0.tmps.getD t undef) (a8:∀(j:Nat)(o:Oper)(t:Tmp),pre[j]?=some o->o.dst=some t->t<a0.tmps.size)
  (a2:∀(i:Nat)(o:Oper)(t:Tmp),pre[i]?=some o->o.dst=some t->(execOp af.eval o).run P w= .ok (.value (af.tmps.getD t undef)) w) (hQ:Q .normal af w)
  (a1:∀L:Array Bool,L.size=pre.size->Region.ready md pre L=[]->∀i,i<pre.size->L.getD i true=true):
  ∀D L a,Ji pre a0 af L a->unl pre.size L<=D->wpAnyIn Fence.wide n P md pre Q D L a w:=by
 have done:∀L a,Ji pre a0 af L a->(∀i,i<pre.size->L.getD i true=true)->a=af:=fun L a r U=>by
  refine Ew (r.ts.trans hs.symm) (r.df.trans hd.symm) fun t=>?_;by_cases I:∃(j:Nat)(o:Oper),pre[j]?=some o/\o.dst=some t
  .obtain⟨j,o,z,E⟩:=I;exact r.on j o t z E (U j (gA z).1)
  .rw[W t (fun j o z E=>I ⟨j,o,z,E⟩)];exact r.off t fun j o z E=>absurd ⟨j,o,z,E⟩ I
 intro D;induction D with
 |zero=>
  intro L a r hu;have U:∀i,i<pre.size->L.getD i true=true:=fun i hi=>by
   have h0:unl pre.size L=0:=oM;unfold unl at h0;rw[ZS]at h0;have:=h0 i (vK.2 hi)
   simpa using this
  refine⟨?_,(done L a r U)▸hQ⟩;cases hr:Region.ready md pre L with
  |nil=>rfl
  |cons i is=>
   have:=(bR.1 (show i∈Region.ready md pre L by rw[hr];simp))
   rw[U i this.1]at this;cases this.2.1
 |succ D ih=>
  intro L a r hu;refine⟨fun q=>(done L a r (a1 L r.sz q))▸hQ,fun i hi=>?_⟩;obtain⟨S,a7,a9⟩:=bR.1 hi;have X:pre[i]?=some pre[i]:=ma S;obtain⟨hg,a5,a3,b4⟩:=h.plain i _ X;obtain⟨t,ht⟩:=TA.1 a5;have b2:=a8 i _ t X ht;unfold wpOpIn;simp only[X];have b3:∀v,Region.wanted pre[i] v=true:=fun v=>by unfold Region.wanted;rw[hg]
  simp only[b3,jd];have a6:∀x∈pre[i].op.operands,a.eval x=af.eval x:=fun x hx=>by
   cases x with
   |tmp u=>
    show a.tmps.getD u undef=af.tmps.getD u undef;by_cases I:∃(j:Nat)(o:Oper),pre[j]?=some o/\o.dst=some u
    .obtain⟨j,o,z,E⟩:=I;have b0:=(gA z).1;have hw:=a9 j (h.reads i j _ o u X z hx E);rw[dD (by rw[r.sz];exact b0) false true]at hw;exact r.on j o u z E hw
    .rw[W u (fun j o z E=>I ⟨j,o,z,E⟩)];exact r.off u fun j o z E=>absurd ⟨j,o,z,E⟩ I
   |_=>rfl
  refine⟨fun _ _=>trivial,?_⟩;have e1:pre[i].semAt Fence.wide.round a.eval=execOp af.eval pre[i]:=(Oper.semAt_none _ _).trans (execOp_congr _ a3 a6);rw[e1,a2 i _ t X ht,Oper.uponIn_value,ht];refine ih _ _ ⟨by simp [r.sz],?_,?_,fun j o u z E U=>?_,fun u a4=>?_⟩ ?_
  .show(a.tmps.setIfInBounds t _).size=_;rw[aar];exact r.ts
  .exact r.df
  .show(a.tmps.setIfInBounds t _).getD u undef=_;rw[ef,sv];by_cases J:t=u
   .rw[bJ J,bJ (by rw[r.ts];exact J▸b2),J];rfl
   .rw[bt J,<-ef];rw[Z6]at U;by_cases O:i=j
    .subst O;rw[X]at z;cases z;exact absurd (oU (ht.symm.trans E)) J
    .rw[bt O]at U;exact r.on j o u z E U
  .show(a.tmps.setIfInBounds t _).getD u undef=_;have J:t≠u:=fun q=>by
    have:=a4 i _ X (q▸ht);rw[Z6,bJ rfl,bJ (by rw[r.sz];exact S)]at this;cases this
   rw[ef,sv,bt J,<-ef];refine r.off u fun j o z E=>?_;have:=a4 j o z E;rw[Z6]at this;by_cases O:i=j
   .rw[bJ O]at this;split at this
    .cases this
    .cases this
   .rw[bt O]at this;exact this
  .have:=rP (i:=i) (p:=fun j=> !L.getD j true) (q:=fun j=> !(L.setIfInBounds i true).getD j true) pre.size S (fun j hj b1=>by
    simp only[Z6];rw[bt (fun q=>b1 q.symm)]) (by show(!L.getD i true)=true;rw[a7];rfl) (by show(!(L.setIfInBounds i true).getD i true)=false;rw[Z6,bJ rfl,bJ (by rw[r.sz];exact S)];rfl)
   unfold unl at hu ⊢;omega
def rn.least{md:Region.Mode}{pre:Array Oper}(u:∀i,i<pre.size->∀d∈bV md pre i,d<i) {L:Array Bool} (hs:L.size=pre.size) (D:Region.ready md pre L=[]):∀i,i<pre.size->L.getD i true=true:=by
 intro i;induction i using Nat.strongRecOn with
 |ind i I=>
  intro h;cases E:L.getD i true with
  |true=>rfl
  |false=>
   have:i∈Region.ready md pre L:=bR.2 ⟨h,E,fun d z=>by
    have:=u i h d z;rw[dD (by rw[hs];omega) false true];exact I d this oM⟩
   rw[D]at this;cases this
def Li(t:Tmp)(x:Operand):Bool:=match x with| .tmp u=>u==t|_=>false
def Dz(o:Oper):Bool:=o.guard.isNone&&o.dst.isSome&&(match o.op with| .select .. =>false| .defer .. =>false|_=>true)
def Rc(l:List Oper)(m:Nat):Bool:=
 let ops:=l.toArray
 let pre:=(l.take m).toArray
 decide (0<m)&&decide (m<=l.length)&&(List.range m).all (fun i=>(bV .any ops i).all fun d=>decide (d<i))&&(List.range m).all (fun i=>decide (m<=i+1)||(List.range m).any fun j=>decide (i<j)&&(bV .any ops j).contains i)&&
 (List.range l.length).all (fun i=>decide (i<m)||(bV .any ops i).any fun d=>decide (m<=d+1))&&(l.take m).all Dz&&
 (List.range m).all (fun i=>(List.range m).all fun j=>match pre[i]?,pre[j]? with
  |some oi,some oj=>(decide (i=j)||decide (oi.dst≠oj.dst))&&(match oj.dst with|some t=> !(oi.op.operands.toList.any (Li t))||(bV .any pre i).contains j|none=>true)
  |_,_=>false)
def GG{l:List Oper}{m:Nat}(h:Rc l m=true):rn .any l.toArray (l.take m).toArray/\Ev .any (l.take m).toArray/\m<=l.length:=by
 simp only[Rc,cA,eT,tA,vK]at h;obtain⟨⟨⟨⟨⟨⟨h0,X⟩,h2⟩,h3⟩,h4⟩,h5⟩,h6⟩:=h;have hs:(l.take m).toArray.size=m:=by simp;omega
 have I:∀i:Nat,i<m->l.toArray[i]?=(l.take m).toArray[i]?:=fun i u=>by simp [u]
 refine⟨⟨by rw[hs];simpa using X,by rw[hs];exact h0,fun i u=>I i (by rw[hs]at u;exact u),fun i o S=>?_,fun i u d hd=>?_,fun i u=>?_,fun i u J=>?_⟩,⟨fun i o S=>?_,fun i j oi oj u E O=>?_,fun i j oi oj t u E hx ht=>?_⟩,X⟩
 .have:=h5 o (by simpa using Array.mem_of_getElem? S);simp only[Dz,cA]at this
  simpa using this.1.1
 .rw[hs]at u;exact h2 i u d hd
 .rw[hs]at u ⊢;have:=h3 i oM;simp only[xj,eT,AH,vK,cA,aaP]at this;rcases this with q|⟨j,U,W,q3⟩
  .omega
  .exact⟨j,W,U,q3⟩
 .rw[hs]at u ⊢;have:=h4 i (by simpa using J);simp only[xj,eT,AH]at this;rcases this with q|⟨d,U,W⟩
  .omega
  .exact⟨d,U,W⟩
 .have:=h5 o (by simpa using Array.mem_of_getElem? S);simp only[Dz,cA]at this;refine⟨by simpa using this.1.1,this.1.2,fun cs b e=>?_,fun c e=>?_⟩
  .rw[e]at this;cases this.2
  .rw[e]at this;cases this.2
 .have z:=(gA u).1;have D:=(gA E).1;rw[hs]at z D;have:=h6 i z j D;rw[u,E]at this;simp only[cA,xj,eT]at this;exact this.1.resolve_left O
 .have z:=(gA u).1;have D:=(gA E).1;rw[hs]at z D;have:=h6 i z j D;rw[u,E]at this;simp only[cA,ht,xj,Hw,aaP]at this;rcases this.2 with q|q
  .have h7:oi.op.operands.toList.any (Li t)=true:=AH.2 ⟨_,by simpa using hx,by simp [Li]⟩;rw[h7]at q;cases q
  .exact q
def an(a:Act):List (Nat×aa3)->Act
 |[]=>a
 |(d,v)::r=>an (a.put (some d) v) r
def gi:∀(h:List (Nat×aa3))(a:Act),(an a h).tmps.size=a.tmps.size/\(an a h).defers=a.defers
 |[],a=>⟨rfl,rfl⟩
 |(d,v)::r,a=>by
  have:=gi r (a.put (some d) v);exact⟨this.1.trans (by simp [Act.put]),this.2⟩
def wB:∀(u:List (Nat×aa3))(a:Act)(t:Nat),(∀p∈u,p.1≠t)->(an a u).tmps.getD t undef=a.tmps.getD t undef
 |[],a,t,h=>rfl
 |(d,v)::r,a,t,h=>by
  rw[an,wB r _ t (fun p z=>h p (by simp [z]))];show(a.tmps.setIfInBounds d v).getD t undef=_;rw[ef,sv,bt (h (d,v) sM),<-ef]
def ui(P:Program)(af:Act)(w:World):List Oper->Prop
 |[]=>True
 |o::r=>(match o.dst with|some t=>(execOp af.eval o).run P w= .ok (.value (af.tmps.getD t undef)) w|none=>False)/\ui P af w r
def wR{P:Program}{af:Act}{w:World}:∀{l:List Oper}{i:Nat}{o:Oper}{t:Tmp},ui P af w l->l[i]?=some o->o.dst=some t->(execOp af.eval o).run P w= .ok (.value (af.tmps.getD t undef)) w
 |[],i,o,t,h,hi,ht=>by cases hi
 |x::l,0,o,t,h,hi,ht=>by
  cases hi;have:=h.1;rw[ht]at this;exact this
 |x::l,i+1,o,t,h,hi,ht=>wR (l:=l) (i:=i) h.2 hi ht
def JZ(m k:Nat):Array Bool:=(List.replicate m true++List.replicate k false).toArray
def tR{n id:Nat}{P:Program}(hm:P.follows .mixedOrders=true){l:List Oper}(m k:Nat)(hl:l.length=m+k)(hB:Rc l m=true){a0:Act}{w:World}(I:List (Nat×aa3))(hv:(l.take m).map (·.dst)=I.map fun p=>some p.1) (a5:∀p∈I,p.1<a0.tmps.size)
  {Q:Exit->Act->World->Prop} (X:ui P (an a0 I) w.drew (l.take m)) (a2:wpAnyIn Fence.wide n P .any l.toArray Q k (JZ m k) (an a0 I) w.drew):(Code.region id l.toArray true).wpIn Fence.wide n P Q a0 w:=by
 obtain⟨hc,a6,a7⟩:=GG hB;have hs:(l.take m).toArray.size=m:=by simp;omega
 refine wpIn_region_any hm ?_;have u:l.toArray.size=m+k:=by simpa using hl
 obtain⟨p1,p2⟩:=gi I a0;have S:∀(j:Nat)(o:Oper)(t:Tmp),(l.take m).toArray[j]?=some o->o.dst=some t->∃p∈I,p.1=t:=fun j o t D O=>by
  have J:some t∈(l.take m).map (·.dst):=wC.2 ⟨o,by simpa using Array.mem_of_getElem? D,O⟩;rw[hv,wC]at J;obtain⟨p,W,e⟩:=J;exact⟨p,W,oU e⟩
 have E:wpAnyIn Fence.wide n P .any (l.take m).toArray (fun e a w'=>e= .normal/\a=an a0 I/\w'=w.drew) m (Array.replicate m false) a0 w.drew:=by
  refine MP a6 (af:=an a0 I) (a0:=a0) p1 p2 (fun t O=>wB I a0 t fun p W e=>?_) (fun j o t D O=>?_) (fun i o t D O=>wR X (by simpa using D) O) ⟨rfl,rfl,rfl⟩ (fun L hL hr=>rn.least (fun i h d hd=>hc.back i h d (by unfold bV at hd ⊢;rw[hc.same i h];exact hd)) hL hr) m _ _ ⟨by rw[hs];simp,rfl,rfl,fun j o t D O U=>?_,fun _ _=>rfl⟩ ?_
  .have:some p.1∈(l.take m).map (·.dst):=by rw[hv];exact wC.2 ⟨p,W,rfl⟩
   obtain⟨o,D,e2⟩:=wC.1 this;obtain⟨j,hj⟩:=Qy.1 D;exact O j o (by simpa using hj) (by rw[e2,e])
  .obtain⟨p,W,e⟩:=S j o t D O;rw[<-e];exact a5 p W
  .have hj:=(gA D).1;rw[hs]at hj;rw[ef,EH,bJ hj]at U;cases U
  .exact HE aaM (by rw[Wb,hs];exact lR)
 have key:=Rh (F:=Fence.wide) (n:=n) (P:=P) (Q:=Q) hc k (JZ m k) (fun L L' r a4=>?_) (fun c a w' q=>by cases q.1) (fun a w' q=>by obtain⟨_,rfl,rfl⟩:=q;exact a2) (fun q=>by obtain⟨a,w',hq⟩:=q;cases hq.1) m (Array.replicate l.toArray.size false) (Array.replicate m false) a0 w.drew ⟨by simp,by rw[hs];simp,fun i h=>?_,fun i h a3=>?_,fun i h a1=>?_⟩ ?_ E
 .rw[u]at key ⊢;exact key
 .apply Array.ext
  .rw[r.s1,u];simp [JZ]
  .intro i h1 h2;have h:i<m+k:=by rw[r.s1,u]at h1;exact h1
   have e1:L.getD i true=L[i]:=by rw[ef,ma h1];rfl
   rw[<-e1];by_cases z:i<m
   .rw[r.eq i (by rw[hs];exact z),a4 i (by rw[hs];exact z)];simp only[JZ,List.getElem_toArray];rw[List.getElem_append_left (by simpa using z),aaE]
   .rw[r.off i (by rw[hs];omega) (by rw[u];exact h)];simp only[JZ,List.getElem_toArray];rw[List.getElem_append_right (by simpa using Nat.le_of_not_lt z),aaE]
 .rw[hs]at h;rw[ef,EH,bJ (by rw[u];omega),ef,EH,bJ h]
 .rw[ef,EH,bJ a3];rfl
 .rw[hs]at h;rw[ef,EH,bJ h]at a1;cases a1
 .unfold unl;rw[hs,List.countP_eq_length.2 (fun i h=>by
   rw[ef,EH,bJ (vK.1 h)];rfl),Wb]
end Go.Proofs.YtjlpdddmmnijoaaGreatDoor.Ve
namespace Go.Proofs.YtjlpdddmmnijoaaGreatDoor
open Go Go.RowKit Go.Shelf Ve
open Go.Proofs.Tryz (prog)
def KT:prog.funcs[94]?=some Tryz.f94:=kR
def Pb:Tryz.f94.ntmps=47:=kR
def lj(ss:Nat->Int)(size:Int)(a k:Nat):List (Nat×Nat):=((List.range k).filter fun b=>decide (ss a+ss b+1=size)).map fun b=>(a,b)
def X1(ss:Nat->Int)(size:Int)(m a:Nat):List (Nat×Nat):=(List.range a).flatMap fun a=>lj ss size a m
def iv(u:Nat->Int)(size:Int)(a k:Nat):lj u size a (k+1)=lj u size a k++(if u a+u k+1=size then [(a,k)] else []):=by
 unfold lj;rw[UH,YG,GT,ZD,aaJ];by_cases h:u a+u k+1=size
 .rw[bJ (ib h),bJ h];rfl
 .rw[bt (by simpa using h),bt h];rfl
def fm(h:Nat->Int)(size:Int)(m a:Nat):X1 h size m (a+1)=X1 h size m a++lj h size a m:=by
 unfold X1;rw[UH,List.flatMap_append];simp
structure Rd(p75 i75 p3 i3 rb ro m:Nat)(ss:Nat->Int)(size:Int)(w:World):Prop where
 c75:w.cell? ⟨p75,i75,none⟩=some (.pointer (some ⟨rb,ro,none⟩))
 c3:w.cell? ⟨p3,i3,none⟩=some (.int .i64 size)
 row:∃b o len cap,m<=len/\w.cell? ⟨rb,ro+10,none⟩=some (.slice (some ⟨b,o,none⟩) len cap)/\∀i,i<m->w.cell? ⟨b,o+i,none⟩=some (.int .i64 (ss i))
def FF{n:Int}(h: -9223372036854775808<=n)(u:n<=9223372036854775807):IntKind.wrap .i64 n=n:=by
 simp [IntKind.wrap,IntKind.min,IntKind.max,IntKind.signed,IntKind.bits];omega
def fC{n:Nat}{P:Program}{ops:Array Oper}{Q:Exit->Act->World->Prop}{u:Nat}{L:Array Bool}{a:Act}{w:World}(i d:Nat){o:Oper}(v:aa3)(hs:Region.noSelect ops=true)
  (z:(Region.free .any ops L i&&(Region.ready .any ops L).contains i)=true) (J:ops[i]?=some o) (I:o.dst=some d) (D:∀c a w,Q (.panic c) (a.put (some d) v) w->Q (.panic c) a w) (E:∀w,o.about P w a.eval=none) (O:Yields P ops o v a) (h:wpAnyIn Fence.wide n P .any ops Q u (L.setIfInBounds i true) (a.put (some d) v) w):wpAnyIn Fence.wide n P .any ops Q (u+1) L a w:=by
 simp only[cA]at z;rw[<-I]at h D;exact wpAnyIn_take rfl J hs z.1 z.2 D ⟨O,E⟩ h
def um{n:Nat}{P:Program}{ops:Array Oper}{Q:Exit->Act->World->Prop}{u:Nat}{L:Array Bool}{a:Act}{w:World}{i:Nat}{o:Oper}(E:Region.ready .any ops L=[i])(I:ops[i]?=some o)
  (h:if Region.wanted o (yielded ops a.tmps) then o.uponIn Fence.wide n P a (wpAnyIn Fence.wide n P .any ops Q u (L.setIfInBounds i true)) Q ((execOp a.eval o).run P w) else wpAnyIn Fence.wide n P .any ops Q u (L.setIfInBounds i true) (a.put o.dst undef) w):wpAnyIn Fence.wide n P .any ops Q (u+1) L a w:=by
 refine⟨fun q=>(by rw[E]at q;cases q),fun j D=>?_⟩;rw[E,mj]at D;subst D;unfold wpOpIn;simp only[I];split
 next z=>rw[bJ z]at h;exact⟨fun _ _=>trivial,h⟩
 next z=>rw[bt z]at h;exact⟨fun _ _=>trivial,h⟩
def un{n:Nat}{P:Program}{ops:Array Oper}{Q:Exit->Act->World->Prop}{u:Nat}{L:Array Bool}{a:Act}{w:World}(i d:Nat){o:Oper}(v:aa3)(I:Region.ready .any ops L=[i])(E:ops[i]?=some o)(D:o.dst=some d)(J:Region.wanted o (yielded ops a.tmps)=true)
  (z:(execOp a.eval o).run P w= .ok (.value v) w) (h:wpAnyIn Fence.wide n P .any ops Q u (L.setIfInBounds i true) (a.put (some d) v) w):wpAnyIn Fence.wide n P .any ops Q (u+1) L a w:=
 um I E (by rw[bJ J,z,Oper.uponIn_value,D];exact h)
def wX{n:Nat}{P:Program}{ops:Array Oper}{Q:Exit->Act->World->Prop}{u:Nat}{L:Array Bool}{a:Act}{w:World}(i d:Nat){o:Oper}(E:Region.ready .any ops L=[i])(D:ops[i]?=some o)(z:o.dst=some d)(I:Region.wanted o (yielded ops a.tmps)=false)
  (h:wpAnyIn Fence.wide n P .any ops Q u (L.setIfInBounds i true) (a.put (some d) undef) w):wpAnyIn Fence.wide n P .any ops Q (u+1) L a w:=
 um E D (by rw[I,z];exact h)
def wY{n:Nat}{P:Program}{ops:Array Oper}{Q:Exit->Act->World->Prop}{L:Array Bool}{a:Act}{w:World}(u:Region.ready .any ops L=[])(h:Q .normal a w):wpAnyIn Fence.wide n P .any ops Q 0 L a w:=⟨u,h⟩
def En{n:Nat}{P:Program}{ops:Array Oper}{Q:Exit->Act->World->Prop}{u:Nat}{L:Array Bool}{a:Act}{w:World}(i d:Nat){o:Oper}{l:Nat}{E:FuncId}{tmps:Array aa3}{assign body:Code}{R:Ending->World->Prop}(W:Region.ready .any ops L=[i])(U:ops[i]?=some o)(O:o.dst=some d)(X:Region.wanted o (yielded ops a.tmps)=true)
  (z:(execOp a.eval o).run P w= .ok (.round l E tmps assign body) w) (J:RoundIn Fence.wide (n-1) P l E tmps assign body w R) (h:∀e D,R e D->∃v,e= .returned v/\wpAnyIn Fence.wide n P .any ops Q u (L.setIfInBounds i true) (a.put (some d) v) D):wpAnyIn Fence.wide n P .any ops Q (u+1) L a w:=
 um W U (by
  rw[bJ X,z,Oper.uponIn_round];refine⟨fun q=>(by cases q),J.mono fun e D S=>?_⟩;obtain⟨v,rfl,I⟩:=h e D S;rw[O];exact I)
def lkV:List (Nat×aa3)->Nat->Option aa3
 |[],_=>none
 |(d,v)::r,t=>if d=t then some v else lkV r t
def fA:∀(u:List (Nat×aa3))(a:Act)(t:Nat),(u.map (·.1)).Nodup->(∀p∈u,p.1<a.tmps.size)->(an a u).tmps[t]?.getD undef=(lkV u t).getD (a.tmps[t]?.getD undef)
 |[],a,t,_,_=>rfl
 |(d,v)::r,a,t,h,hl=>by
  rw[xC,Yx]at h;have D:∀p∈r,p.1<(a.put (some d) v).tmps.size:=fun p E=>by
   show p.1<(a.tmps.setIfInBounds d v).size;rw[aar];exact hl p (by simp [E])
  have J:=fA r (a.put (some d) v) t h.2 D;rw[an,J,lkV];have E:(a.put (some d) v).tmps[t]?=(a.tmps.setIfInBounds d v)[t]?:=rfl;rw[E,sv];by_cases z:d=t
  .subst z;have O:lkV r d=none:=by
    have:∀r:List (Nat×aa3),d∉r.map (·.1)->lkV r d=none:=by
     intro r;induction r with
     |nil=>intro _;rfl
     |cons x r J=>
      intro I;simp only[xC,nd,aaz]at I;rw[lkV,bt (fun q=>I.1 q.symm)];exact J I.2
    exact this r h.1
   rw[O,bJ rfl,bJ rfl,bJ (hl (d,v) sM)];rfl
  .rw[bt z,bt z]
def gT(id:Nat):Code->List Oper
 | .region k ops _=>if k=id then ops.toList else []
 | .seq a b=>gT id a++gT id b
 | .cond _ a b=>gT id a++gT id b
 | .block _ a| .loop a| .scope a=>gT id a
 |_=>[]
noncomputable def c84:Code:=Tryz.f94.body.getD .skip
set_option maxRecDepth 100000 in
set_option maxHeartbeats 2000000 in
def Ps(n:Nat)(a0:Act)(hsz:a0.tmps.size=47)(w:World)(Q:Exit->Act->World->Prop)(hQ:∀c a(d:Nat) v w,Q (.panic c) (a.put (some d) v) w->Q (.panic c) a w) (yl:Nat) (p75 i75 p3 i3 rb ro b o len cap k q:Nat) (x y size:Int) (hx:0<=x/\x<=1000000) (hy:0<=y/\y<=1000000) (hk:k<len) (hq:q<len)
  (e0:a0.tmps[0]?.getD undef= .func (.yield yl) #[] #[]) (e1:a0.tmps[1]?.getD undef= .pointer (some ⟨p75,i75,none⟩)) (e2:a0.tmps[2]?.getD undef= .pointer (some ⟨p3,i3,none⟩)) (e5:a0.tmps[5]?.getD undef=iV k) (e6:a0.tmps[6]?.getD undef=iV q)
  (c75:w.cell? ⟨p75,i75,none⟩=some (.pointer (some ⟨rb,ro,none⟩))) (c3:w.cell? ⟨p3,i3,none⟩=some (.int .i64 size)) (c10:w.cell? ⟨rb,ro+10,none⟩=some (.slice (some ⟨b,o,none⟩) len cap)) (ca:w.cell? ⟨b,o+k,none⟩=some (.int .i64 x)) (cb:w.cell? ⟨b,o+q,none⟩=some (.int .i64 y))
  (hno:x+y+1≠size->∀a',a'.tmps.size=47->a'.defers=a0.defers->(∀t,(t<20\/45<=t)->a'.tmps.getD t undef=a0.tmps.getD t undef)->a'.tmps.getD 44 undef= .bool false->Q .normal a' w.drew)
  (hyes:x+y+1=size->YieldAt Fence.wide (n-1) prog yl #[iV k,iV q] w.drew fun e W'=>∃g:Bool,e= .returned (.bool g)/\∀a',a'.tmps.size=47->a'.defers=a0.defers->(∀t,(t<20\/45<=t)->a'.tmps.getD t undef=a0.tmps.getD t undef)->a'.tmps.getD 44 undef= .bool (!g)->Q .normal a' W')
  :(Code.region 7 (gT 7 c84).toArray true).wpIn Fence.wide n prog Q a0 w:=by
 have hmix:prog.follows .mixedOrders=true:=kR;have v1:IntKind.i64.wrap (x+y)=x+y:=FF oM oM;have v2:IntKind.i64.wrap (x+y+1)=x+y+1:=FF oM oM;have v3:x+y+1=size->IntKind.i64.wrap size=size:=fun q=>by rw[q]at v2;exact v2
 have nk:¬len<=k:=oM;have nq:¬len<=q:=oM;by_cases hsum:x+y+1=size
 .refine tR hmix 19 6 kR kR [(20,.pointer (some ⟨rb,ro,none⟩)),(21,.pointer (some ⟨rb,ro,none⟩)),(22,.pointer (some ⟨rb,ro+10,none⟩)),(23,.slice (some ⟨b,o,none⟩) len cap),(24,iV k),(25,.pointer (some ⟨b,o+k,none⟩)),(26,iV x),(27,.pointer (some ⟨rb,ro,none⟩)),(28,.pointer (some ⟨rb,ro,none⟩)),(29,.pointer (some ⟨rb,ro+10,none⟩)),(30,.slice (some ⟨b,o,none⟩) len cap),(31,iV q),(32,.pointer (some ⟨b,o+q,none⟩)),(33,iV y),(34,iV (x+y)),(35,iV (x+y+1)),(36,iV size),(37,.bool true),(38,.bool true)] kR (by simp [hsz]) ?_ ?_
  .simp only[gT,c84,Tryz.f94,zB,jd,Nat.reduceEqDiff,MR,sB,su,ui,Ee,WQ];refine⟨?_,?_,?_,?_,?_,?_,?_,?_,?_,?_,?_,?_,?_,?_,?_,?_,?_,?_,?_,trivial⟩
   all_goals generalize hvs:([(20,_),_,_,_,_,_,_,_,_,_,_,_,_,_,_,_,_,_,_]:List (Nat×aa3))=vs
   all_goals
    have hget:∀t,(an a0 vs).tmps[t]?.getD undef=(lkV vs t).getD (a0.tmps[t]?.getD undef):=fun t=>fA vs a0 t (by subst hvs;simp) (by subst hvs;simp [hsz]);generalize an a0 vs=af at hget ⊢;subst hvs;simp [go_sem,hget,lkV,e1,e2,e5,e6,c75,c3,c10,ca,cb,v1,v2,hsum,nk,nq,v3]
  .generalize hvs:([(20,_),_,_,_,_,_,_,_,_,_,_,_,_,_,_,_,_,_,_]:List (Nat×aa3))=vs;have hget:∀t,(an a0 vs).tmps[t]?.getD undef=(lkV vs t).getD (a0.tmps[t]?.getD undef):=fun t=>fA vs a0 t (by subst hvs;simp) (by subst hvs;simp [hsz]);have hsf:=gi vs a0;generalize an a0 vs=af at hget hsf ⊢;rw[hsz]at hsf;have h38:af.tmps[38]?=some (.bool true):=by
    have:=hget 38;rw[ma oM]at this ⊢;subst hvs
    simpa [lkV] using this
   have h38b:af.tmps[38]'oM= .bool true:=by rw[ma oM]at h38;exact oU h38
   have hlow:∀t,t<20->af.tmps[t]?.getD undef=a0.tmps[t]?.getD undef:=fun t ht=>by
    have h2:=hget t;have h3:lkV vs t=none:=by
     subst hvs;simp only[lkV]
     repeat rw[bt oM]
    rw[h3]at h2;exact h2
   have g0:=(hlow 0 oM).trans e0;have g5:=(hlow 5 oM).trans e5;have g6:=(hlow 6 oM).trans e6;obtain⟨fn,tmps,assign,body,hyr,hR⟩:=hyes hsum;simp only[gT,c84,Tryz.f94,zB,jd,Nat.reduceEqDiff,MR,sB,su];refine fC 19 39 (.func (.yield yl) #[] #[]) kR kR rfl rfl (fun _ _ _ h=>hQ _ _ _ _ _ h) (fun _=>rfl) (.inl ⟨by simp [Region.wanted,yielded,h38],fun w=>by simp [go_sem,g0]⟩) ?_;refine fC 20 40 (.int .i64 k) kR kR rfl rfl (fun _ _ _ h=>hQ _ _ _ _ _ h) (fun _=>rfl) (.inl ⟨by simp [Region.wanted,yielded,h38,Act.put],fun w=>by simp [go_sem,g5,Act.put,sv]⟩) ?_;refine fC 21 41 (.int .i64 q) kR kR rfl rfl (fun _ _ _ h=>hQ _ _ _ _ _ h) (fun _=>rfl) (.inl ⟨by simp [Region.wanted,yielded,h38,Act.put],fun w=>by simp [go_sem,g6,Act.put,sv]⟩) ?_;refine En 22 42 kR rfl rfl (by simp [Region.wanted,yielded,h38,Act.put]) ?_ hR ?_
   .simp [go_sem,Act.put,hsf.1,hyr]
   .rintro e W' ⟨g,rfl,hg⟩;refine⟨_,rfl,?_⟩;refine un 23 43 (.bool (!g)) kR rfl rfl (by simp [Region.wanted,yielded,h38,Act.put]) ?_ ?_
    .simp [go_sem,Act.put,hsf.1]
    .refine un 24 44 (.bool (!g)) kR rfl rfl (by simp [Region.wanted]) ?_ ?_
     .simp [go_sem,Act.put,h38,h38b,hsf.1]
     .refine wY kR ?_;refine hg _ ?_ ?_ (fun t ht=>?_) ?_
      .simp [Act.put,hsf.1]
      .simp [Act.put,hsf.2]
      .have h2:=hget t;have h3:lkV vs t=none:=by
        subst hvs;simp only[lkV]
        repeat rw[bt oM]
       rw[h3]at h2;simp only[Act.put,ef,sv];rw[bt (show¬44=t from oM),bt (show¬43=t from oM),bt (show¬42=t from oM),bt (show¬41=t from oM),bt (show¬40=t from oM),bt (show¬39=t from oM)];exact h2
      .simp [Act.put,hsf.1,ef]
 .refine tR hmix 19 6 kR kR [(20,.pointer (some ⟨rb,ro,none⟩)),(21,.pointer (some ⟨rb,ro,none⟩)),(22,.pointer (some ⟨rb,ro+10,none⟩)),(23,.slice (some ⟨b,o,none⟩) len cap),(24,iV k),(25,.pointer (some ⟨b,o+k,none⟩)),(26,iV x),(27,.pointer (some ⟨rb,ro,none⟩)),(28,.pointer (some ⟨rb,ro,none⟩)),(29,.pointer (some ⟨rb,ro+10,none⟩)),(30,.slice (some ⟨b,o,none⟩) len cap),(31,iV q),(32,.pointer (some ⟨b,o+q,none⟩)),(33,iV y),(34,iV (x+y)),(35,iV (x+y+1)),(36,iV size),(37,.bool false),(38,.bool false)] kR (by simp [hsz]) ?_ ?_
  .simp only[gT,c84,Tryz.f94,zB,jd,Nat.reduceEqDiff,MR,sB,su,ui,Ee,WQ];refine⟨?_,?_,?_,?_,?_,?_,?_,?_,?_,?_,?_,?_,?_,?_,?_,?_,?_,?_,?_,trivial⟩
   all_goals generalize hvs:([(20,_),_,_,_,_,_,_,_,_,_,_,_,_,_,_,_,_,_,_]:List (Nat×aa3))=vs
   all_goals
    have hget:∀t,(an a0 vs).tmps[t]?.getD undef=(lkV vs t).getD (a0.tmps[t]?.getD undef):=fun t=>fA vs a0 t (by subst hvs;simp) (by subst hvs;simp [hsz]);generalize an a0 vs=af at hget ⊢;subst hvs;simp [go_sem,hget,lkV,e1,e2,e5,e6,c75,c3,c10,ca,cb,v1,v2,hsum,nk,nq]
  .generalize hvs:([(20,_),_,_,_,_,_,_,_,_,_,_,_,_,_,_,_,_,_,_]:List (Nat×aa3))=vs;have hget:∀t,(an a0 vs).tmps[t]?.getD undef=(lkV vs t).getD (a0.tmps[t]?.getD undef):=fun t=>fA vs a0 t (by subst hvs;simp) (by subst hvs;simp [hsz]);have hsf:=gi vs a0;generalize an a0 vs=af at hget hsf ⊢;rw[hsz]at hsf;have h38:af.tmps[38]?=some (.bool false):=by
    have:=hget 38;rw[ma oM]at this ⊢;subst hvs
    simpa [lkV] using this
   have h38b:af.tmps[38]'oM= .bool false:=by rw[ma oM]at h38;exact oU h38
   simp only[gT,c84,Tryz.f94,zB,jd,Nat.reduceEqDiff,MR,sB,su];refine fC 19 39 undef kR kR rfl rfl (fun _ _ _ h=>hQ _ _ _ _ _ h) (fun _=>rfl) (.inr ⟨by simp [Region.wanted,yielded,h38],rfl⟩) ?_;refine fC 20 40 undef kR kR rfl rfl (fun _ _ _ h=>hQ _ _ _ _ _ h) (fun _=>rfl) (.inr ⟨by simp [Region.wanted,yielded,h38,Act.put],rfl⟩) ?_;refine fC 21 41 undef kR kR rfl rfl (fun _ _ _ h=>hQ _ _ _ _ _ h) (fun _=>rfl) (.inr ⟨by simp [Region.wanted,yielded,h38,Act.put],rfl⟩) ?_;refine wX 22 42 kR rfl rfl (by simp [Region.wanted,yielded,h38,Act.put]) ?_;refine wX 23 43 kR rfl rfl (by simp [Region.wanted,yielded,h38,Act.put]) ?_;refine un 24 44 (.bool false) kR rfl rfl (by simp [Region.wanted]) ?_ ?_
   .simp [go_sem,Act.put,h38,h38b,hsf.1]
   .refine wY kR ?_;refine hno hsum _ ?_ ?_ (fun t ht=>?_) ?_
    .simp [Act.put,hsf.1]
    .simp [Act.put,hsf.2]
    .have h2:=hget t;have h3:lkV vs t=none:=by
      subst hvs;simp only[lkV]
      repeat rw[bt oM]
     rw[h3]at h2;simp only[Act.put,ef,sv];rw[bt (show¬44=t from oM),bt (show¬43=t from oM),bt (show¬42=t from oM),bt (show¬41=t from oM),bt (show¬40=t from oM),bt (show¬39=t from oM)];exact h2
    .simp [Act.put,hsf.1,ef]
def Mm(u:Nat->Int)(size:Int)(a k m:Nat)(h:k<=m):lj u size a k<+:lj u size a m:=by
 induction m with
 |zero=>
  have:k=0:=oM;rw[this];exact Fb
 |succ m D=>
  by_cases z:k=m+1
  .rw[z];exact Fb
  .rw[iv];exact(D oM).trans (Zk _ _)
def zf(u:Nat->Int)(size:Int)(m a k:Nat)(h:a<m)(D:k<=m):X1 u size m a++lj u size a k<+:X1 u size m m:=by
 have:∀d,a+1+d<=m->X1 u size m (a+1)<+:X1 u size m (a+1+d):=by
  intro d;induction d with
  |zero=>intro _;exact Fb
  |succ d E=>
   intro I;rw[show a+1+(d+1)=(a+1+d)+1 from oM,fm u size m (a+1+d)];exact(E oM).trans (Zk _ _)
 have z:=this (m-(a+1)) oM;rw[show a+1+(m-(a+1))=m from oM]at z;refine List.IsPrefix.trans ?_ z;rw[fm];exact(List.prefix_append_right_inj _).2 (Mm u size a k m D)
def Rd.drew{z u J I O S m:Nat}{U:Nat->Int}{size:Int}{w:World}(h:Rd z u J I O S m U size w):Rd z u J I O S m U size w.drew:=by
 obtain⟨W,X,b,o,E,D,h3,h4,h5⟩:=h;exact⟨W,X,b,o,E,D,h3,h4,h5⟩
def ru(a0 a':Act)(b:aa3)(h0:a0.tmps.size=47)(s1:a'.tmps.size=47)(s2:a'.defers=a0.defers)(s3:∀t,(t<20\/45<=t)->a'.tmps.getD t undef=a0.tmps.getD t undef) (s4:a'.tmps.getD 44 undef=b):
  ∃h u z D E I J O S U W X a1 a2 a3 a4 a5 a6 a7 a8 a9 b0 b1 b2:aa3,a'=an a0 [(20,h),(21,u),(22,z),(23,D),(24,E),(25,I),(26,J),(27,O),(28,S),(29,U),(30,W),(31,X),(32,a1),(33,a2),(34,a3),(35,a4),(36,a5),(37,a6),(38,a7),(39,a8),(40,a9),(41,b0),(42,b1),(43,b2),(44,b)]:=by
 refine⟨a'.tmps.getD 20 undef,a'.tmps.getD 21 undef,a'.tmps.getD 22 undef,a'.tmps.getD 23 undef,a'.tmps.getD 24 undef,a'.tmps.getD 25 undef,a'.tmps.getD 26 undef,a'.tmps.getD 27 undef,a'.tmps.getD 28 undef,a'.tmps.getD 29 undef,a'.tmps.getD 30 undef,a'.tmps.getD 31 undef,a'.tmps.getD 32 undef,a'.tmps.getD 33 undef,a'.tmps.getD 34 undef,a'.tmps.getD 35 undef,a'.tmps.getD 36 undef,a'.tmps.getD 37 undef,a'.tmps.getD 38 undef,a'.tmps.getD 39 undef,a'.tmps.getD 40 undef,a'.tmps.getD 41 undef,a'.tmps.getD 42 undef,a'.tmps.getD 43 undef,?_⟩;obtain⟨p1,p2⟩:=gi [(20,a'.tmps.getD 20 undef),(21,a'.tmps.getD 21 undef),(22,a'.tmps.getD 22 undef),(23,a'.tmps.getD 23 undef),(24,a'.tmps.getD 24 undef),(25,a'.tmps.getD 25 undef),(26,a'.tmps.getD 26 undef),(27,a'.tmps.getD 27 undef),(28,a'.tmps.getD 28 undef),(29,a'.tmps.getD 29 undef),(30,a'.tmps.getD 30 undef),(31,a'.tmps.getD 31 undef),(32,a'.tmps.getD 32 undef),(33,a'.tmps.getD 33 undef),(34,a'.tmps.getD 34 undef),(35,a'.tmps.getD 35 undef),(36,a'.tmps.getD 36 undef),(37,a'.tmps.getD 37 undef),(38,a'.tmps.getD 38 undef),(39,a'.tmps.getD 39 undef),(40,a'.tmps.getD 40 undef),(41,a'.tmps.getD 41 undef),(42,a'.tmps.getD 42 undef),(43,a'.tmps.getD 43 undef),(44,b)] a0;refine Ew (by rw[p1,s1,h0]) (by rw[p2,s2]) fun t=>?_;have hg:=fA [(20,a'.tmps.getD 20 undef),(21,a'.tmps.getD 21 undef),(22,a'.tmps.getD 22 undef),(23,a'.tmps.getD 23 undef),(24,a'.tmps.getD 24 undef),(25,a'.tmps.getD 25 undef),(26,a'.tmps.getD 26 undef),(27,a'.tmps.getD 27 undef),(28,a'.tmps.getD 28 undef),(29,a'.tmps.getD 29 undef),(30,a'.tmps.getD 30 undef),(31,a'.tmps.getD 31 undef),(32,a'.tmps.getD 32 undef),(33,a'.tmps.getD 33 undef),(34,a'.tmps.getD 34 undef),(35,a'.tmps.getD 35 undef),(36,a'.tmps.getD 36 undef),(37,a'.tmps.getD 37 undef),(38,a'.tmps.getD 38 undef),(39,a'.tmps.getD 39 undef),(40,a'.tmps.getD 40 undef),(41,a'.tmps.getD 41 undef),(42,a'.tmps.getD 42 undef),(43,a'.tmps.getD 43 undef),(44,b)] a0 t sM (by simp [h0]);rw[ef,ef,hg,<-ef,<-ef];by_cases ht:t<20\/45<=t
 .rw[s3 t ht];have:lkV [(20,a'.tmps.getD 20 undef),(21,a'.tmps.getD 21 undef),(22,a'.tmps.getD 22 undef),(23,a'.tmps.getD 23 undef),(24,a'.tmps.getD 24 undef),(25,a'.tmps.getD 25 undef),(26,a'.tmps.getD 26 undef),(27,a'.tmps.getD 27 undef),(28,a'.tmps.getD 28 undef),(29,a'.tmps.getD 29 undef),(30,a'.tmps.getD 30 undef),(31,a'.tmps.getD 31 undef),(32,a'.tmps.getD 32 undef),(33,a'.tmps.getD 33 undef),(34,a'.tmps.getD 34 undef),(35,a'.tmps.getD 35 undef),(36,a'.tmps.getD 36 undef),(37,a'.tmps.getD 37 undef),(38,a'.tmps.getD 38 undef),(39,a'.tmps.getD 39 undef),(40,a'.tmps.getD 40 undef),(41,a'.tmps.getD 41 undef),(42,a'.tmps.getD 42 undef),(43,a'.tmps.getD 43 undef),(44,b)] t=none:=by
   simp only[lkV]
   repeat rw[bt oM]
  rw[this];rfl
 .have b3:20<=t:=oM;have b4:t<=44:=oM;have:t=20\/t=21\/t=22\/t=23\/t=24\/t=25\/t=26\/t=27\/t=28\/t=29\/t=30\/t=31\/t=32\/t=33\/t=34\/t=35\/t=36\/t=37\/t=38\/t=39\/t=40\/t=41\/t=42\/t=43\/t=44:=oM;rcases this with rfl|rfl|rfl|rfl|rfl|rfl|rfl|rfl|rfl|rfl|rfl|rfl|rfl|rfl|rfl|rfl|rfl|rfl|rfl|rfl|rfl|rfl|rfl|rfl|rfl<;>first|rfl|exact s4
set_option maxRecDepth 100000 in
set_option maxHeartbeats 4000000 in
def Il(n:Nat)(l:Nat)(p75 i75 p3 i3:Nat)(rb ro:Nat)(m:Nat)(ss:Nat->Int)(size:Int)(J Jx:List (Nat×Nat)->World->Prop)(hm:m<=1000)(hss:∀i,0<=ss i/\ss i<=1000000)
  (hJd:∀pre w,J pre w->J pre w.drew)
  (hY:∀pre(x:Nat×Nat) W,(pre++[x])<+:X1 ss size m m->J pre W->YieldAt Fence.wide (n-1) prog l #[iV (x.1:Int),iV (x.2:Int)] W fun e W'=>
   (e= .returned (.bool true)/\J (pre++[x]) W'/\(Rd p75 i75 p3 i3 rb ro m ss size W->Rd p75 i75 p3 i3 rb ro m ss size W'))\/(e= .returned (.bool false)/\Jx (pre++[x]) W'))
  (W:World) (hR:Rd p75 i75 p3 i3 rb ro m ss size W) (sa:Option Addr) (sc:Nat) (hs:W.cell? ⟨rb,ro+9,none⟩=some (.slice sa m sc)) (h0:J [] W):
  CallsIn Fence.wide n prog 94 #[.func (.yield l) #[] #[],.pointer (some ⟨p75,i75,none⟩),.pointer (some ⟨p3,i3,none⟩)] W fun e W'=>(∃v,e= .returned v)/\(J (X1 ss size m m) W'\/∃pre,pre<+:X1 ss size m m/\Jx pre W'):=by
 have hB:=hR.c75;refine callsIn_of_wp KT rfl trivial ?_ rfl;simp only[Pb,aak,kO,yd,Nat.reduceAdd,Nat.reduceSub,Array.replicate_succ,Array.replicate_zero,List.push_toArray,List.append_toArray,sB,vG]
 gi_wp2
 gi_loopw [13] (fun i wr=>∃k:Nat,k<=m/\i=iV k/\J (X1 ss size m k) wr/\Rd p75 i75 p3 i3 rb ro m ss size wr)
  (fun i _=>m-(intOf i).toNat)
 case atStart=>exact⟨0,wi _,rfl,h0,hR⟩
 case round=>
  obtain⟨k,hk,rfl,hJ1,hR1⟩:=hrel;by_cases hlt:k<m
  .gi_wp2
   gi_loopw [17] (fun i wr=>∃q:Nat,q<=m/\i=iV q/\J (X1 ss size m k++lj ss size k q) wr/\Rd p75 i75 p3 i3 rb ro m ss size wr)
    (fun i _=>m-(intOf i).toNat)
   case atStart=>exact⟨0,wi _,rfl,by simpa [lj] using hJ1,hR1⟩
   case round=>
    obtain⟨q,hq,rfl,hJ2,hR2⟩:=hrel;by_cases hlt2:q<m
    .have hR3:=hR2.drew;obtain⟨c75,c3,b,o,len,cap,hml,c10,cz⟩:=hR2;have ca:=cz k hlt;have cb:=cz q hlt2;have h1:=hss k;have h2:=hss q
     gi_wp2
     refine Ps n _ rfl _ _ (fun _ _ _ _ _ h=>h) l p75 i75 p3 i3 rb ro b o len cap k q (ss k) (ss q) size h1 h2 oM oM rfl rfl rfl rfl rfl c75 c3 c10 ca cb ?_ ?_
     .intro hne a' s1 s2 s3 s4;obtain⟨y20,y21,y22,y23,y24,y25,y26,y27,y28,y29,y30,y31,y32,y33,y34,y35,y36,y37,y38,y39,y40,y41,y42,y43,rfl⟩:=ru _ a' _ rfl s1 s2 s3 s4;simp only[an,Act.put,XG,aaf,aag]
      gi_wp2
      refine⟨⟨q+1,oM,by simp,?_,hR3⟩,by simp [intOf];omega⟩;rw[iv,bt hne,su];exact hJd _ _ hJ2
     .intro hsum;obtain⟨fn,tmps,assign,body,hy,hRr⟩:=hY _ (k,q) wr.drew (by
       have:=zf ss size m k (q+1) hlt hlt2
       rwa [iv,bJ hsum,<-yo]at this) (hJd _ _ hJ2)
      refine⟨fn,tmps,assign,body,hy,hRr.mono ?_⟩;rintro e W3 (⟨rfl,hJ3,hK3⟩|⟨rfl,hJx3⟩)
      .have hR4:=hK3 hR3;refine⟨true,rfl,fun a' s1 s2 s3 s4=>?_⟩;obtain⟨y20,y21,y22,y23,y24,y25,y26,y27,y28,y29,y30,y31,y32,y33,y34,y35,y36,y37,y38,y39,y40,y41,y42,y43,rfl⟩:=ru _ a' _ rfl s1 s2 s3 s4;simp only[an,Act.put,XG,aaf,aag,G3]
       gi_wp2
       refine⟨⟨q+1,oM,by simp,?_,hR4⟩,by simp [intOf];omega⟩;rw[iv,bJ hsum,<-yo];exact hJ3
      .refine⟨false,rfl,fun a' s1 s2 s3 s4=>?_⟩;obtain⟨y20,y21,y22,y23,y24,y25,y26,y27,y28,y29,y30,y31,y32,y33,y34,y35,y36,y37,y38,y39,y40,y41,y42,y43,rfl⟩:=ru _ a' _ rfl s1 s2 s3 s4;simp only[an,Act.put,XG,aaf,aag,Md]
       gi_wp2
       refine bodyPost_ret (results_none rfl _ _ _) rfl ?_;refine⟨⟨_,rfl⟩,.inr ⟨_,?_,hJx3⟩⟩;have:=zf ss size m k (q+1) hlt hlt2
       rwa [iv,bJ hsum,<-yo]at this
    .have hqm:q=m:=oM
     gi_wp2
     refine⟨⟨k+1,oM,by simp,?_,hR2⟩,by simp [intOf];omega⟩;rw[fm,<-hqm];rw[<-hqm]at hJ2;exact hJ2
  .have hkm:k=m:=oM
   gi_wp2
   go_end0
   exact⟨⟨_,rfl⟩,.inl (by rw[hkm]at hJ1;exact hJ1)⟩
end Go.Proofs.YtjlpdddmmnijoaaGreatDoor
namespace Go.Proofs.YtjlpdddmmnijoaaGreatDoor.Ve
open Go Go.RowKit
open Go.Proofs.Tryz (prog)
def ldc(H:d7)(v:aa3)(i:Nat):Option aa3:=
 match v with
 | .pointer (some ⟨b,o,none⟩)=>match H.g b with
  |some (.cells c _ _)=>c[o+i]?
  |_=>none
 |_=>none
def Fh{H:d7}{v:aa3}{i:Nat}{x:aa3}(h:ldc H v i=some x):∃b o c own sz,v= .pointer (some ⟨b,o,none⟩)/\H.g b=some (.cells c own sz)/\c[o+i]?=some x:=by
 unfold ldc at h;split at h
 .rename_i b o;split at h
  next c own sz u=>exact⟨b,o,c,own,sz,rfl,u,h⟩
  .cases h
 .cases h
section
variable{base:Bs}{w0:World}{φ:List Loc}{w:World}
def bO{H:d7}(z:WR base w0 φ H.bs w){v v':aa3}(J:VR φ v v'){i:Nat}{x:aa3}(h:ldc H v i=some x):∃p q y,v'= .pointer (some ⟨p,q,none⟩)/\w.cell? ⟨p,q+i,none⟩=some y/\VR φ x y:=by
 obtain⟨b,o,c,own,sz,rfl,E,O⟩:=Fh h;cases J with
 |ptr I=>
  rename_i l;obtain⟨_,_,D,_⟩:=z.blk b _ l E I;obtain⟨y,S,u⟩:=D _ _ O;exact⟨_,_,y,rfl,by rw[A1];exact S,u⟩
def Uc{D:List Loc}(O:Ext φ D){H:d7}{v v' u:aa3}{i:Nat}{x:aa3}(h:ldc H v i=some x)(E:VR φ v v')(I:VR D v u):u=v':=by
 obtain⟨b,o,c,own,sz,rfl,S,_⟩:=Fh h;cases E with
 |ptr J=>
  cases I with
  |ptr z=>
   have:=O _ _ J;rw[z]at this;cases this;rfl
end
def pi:Option aa3->Int
 |some (.int .i64 n)=>n
 |_=>0
def lnA:Option aa3->Nat
 |some (.slice _ n _)=>n
 |_=>0
def mK(n:Int):Int:=if 0<=n/\n<=1000000 then n else 0
def NO(n:Int):0<=mK n/\mK n<=1000000:=by unfold mK;split<;>omega
def atA(H:d7)(s:Option aa3)(i:Nat):Option aa3:=
 match s with
 |some (.slice (some a) _ _)=>ldc H (.pointer (some a)) i
 |_=>none
def okP(v75 v3 q:aa3)(m:Nat)(ss:Nat->Int)(size:Int)(H:d7):Prop:=
 ldc H v75 0=some q/\ldc H v3 0=some (.int .i64 size)/\∃a len cap,ldc H q 10=some (.slice (some a) len cap)/\m<=len/\∀i,i<m->ldc H (.pointer (some a)) i=some (.int .i64 (ss i))
open Classical in
noncomputable def xX(e:Env)(H:d7):Option (List (Nat×Nat)×(d7->Prop)):=
 match e.g 11 with
 | .func (.func 94) fs cs=>
  let v75:=cs.getD 0 undef
  let v3:=cs.getD 1 undef
  let q:=(ldc H v75 0).getD undef
  let m:=lnA (ldc H q 9)
  let ss:=fun i=>mK (pi (atA H (ldc H q 10) i))
  let size:=pi (ldc H v3 0)
  if fs.size=0/\cs.size=2/\1<=m/\m<=1000/\(∃a c,ldc H q 9=some (.slice a m c))/\okP v75 v3 q m ss size H then some (X1 ss size m m,okP v75 v3 q m ss size) else none
 |_=>none
def Uq:gu prog 94:=⟨Tryz.f94,KT,kR,kR⟩
def Ti:(Tryz.f45.name== "runtime.NumGoroutine")=false:=kR
def wN{φ:List Loc}{a:Option Addr}{m c:Nat}{v:aa3}(z:1<=m)(h:VR φ (.slice a m c) v):∃a' u,v= .slice a' m u:=by
 cases h with
 |nilslice=>omega
 |slice0=>omega
 |exact=>exact⟨_,_,rfl⟩
 |slice=>exact⟨_,_,rfl⟩
def MI{φ:List Loc}{a:Addr}{m c:Nat}{v:aa3}(D:1<=m)(h:VR φ (.slice (some a) m c) v):∃a' z,v= .slice (some a') m z/\VR φ (.pointer (some a)) (.pointer (some a')):=by
 cases h with
 |slice0=>omega
 |exact u=>exact⟨_,_,rfl,.ptr u⟩
 |slice u _ _=>exact⟨_,_,rfl,.ptr u⟩
def wl{base:Bs}{w0:World}{φ φ':List Loc}{w:World}{H H':d7}{J v3 q u I q':aa3}{m:Nat}{ss:Nat->Int}{size:Int}(S:Ext φ φ')(hm:1<=m)(O:WR base w0 φ' H'.bs w)(h:okP J v3 q m ss size H')(h1:VR φ J u)(h2:VR φ v3 I)(X:VR φ q q'){x:aa3}(hq:ldc H q 9=some x){D z p3 i3 rb ro:Nat}
  (e1:u= .pointer (some ⟨D,z,none⟩)) (e2:I= .pointer (some ⟨p3,i3,none⟩)) (e3:q'= .pointer (some ⟨rb,ro,none⟩)):Rd D z p3 i3 rb ro m ss size w:=by
 subst e1 e2 e3;obtain⟨k1,k2,a,W,a1,k3,k4,k5⟩:=h;obtain⟨p,i,y,E,r2,r3⟩:=bO O (h1.mono S) k1;cases E;have:=Uc S hq X r3;subst this;obtain⟨p,i,y,E,r4,r5⟩:=bO O (h2.mono S) k2;cases E;have:=r5.eq_na (by rfl);subst this;obtain⟨p,i,y,E,r6,r7⟩:=bO O (X.mono S) k3;cases E;obtain⟨⟨ab,ao,ap⟩,c',rfl,r8⟩:=MI oM r7;have U:ap=none:=by cases r8;rfl
 subst U;refine⟨r2,r4,ab,ao,W,c',k4,r6,fun i hi=>?_⟩;obtain⟨p,j,y,t1,t2,t3⟩:=bO O r8 (k5 i hi);cases t1;have:=t3.eq_na (by rfl);subst this;exact t2
def Xu{base:Bs}{w0:World}{φ:List Loc}{w:World}{a:Act}{e:Env}{H:d7}{L:List (Nat×Nat)}{ok:d7->Prop}(h:xX e H=some (L,ok))(hE:ER φ Tryz.f45.ntmps e a)(hW:WR base w0 φ H.bs w):
  ∃lb Rd,a.eval (.tmp 11)= .func (.func 94) #[] lb/\(∀φ' H' W',Ext φ φ'->WR base w0 φ' H'.bs W'->ok H'->Rd W')/\∀X,WR base w0 φ H.bs X->BM prog 94 lb Rd L X:=by
 have hv:=hE.op (x:= .tmp 11) rfl;have h0:opv e (.tmp 11)=e.g 11:=rfl;rw[h0]at hv;unfold xX at h;split at h
 rotate_left
 .cases h
 rename_i fs cs a4;rw[a4]at hv;simp only at h;split at h
 rotate_left
 .cases h
 rename_i hc;cases h;obtain⟨c1,c2,c3,c4,⟨sa,sc,c5⟩,c6⟩:=hc;generalize hz:a.eval (.tmp 11)=z at hv;cases hv with
 |func g h1 h2 h3 h4=>
  rename_i D cs';have a5:D= #[]:=by
   apply TE;have:fs.toList.length=fs.size:=rfl;have:D.toList.length=D.size:=rfl;omega
  subst a5;have g0:cs.toList[0]?=some (cs.getD 0 undef):=by
   have:0<cs.size:=oM;simp [ef,this]
  have g1:cs.toList[1]?=some (cs.getD 1 undef):=by
   have:1<cs.size:=oM;simp [ef,this]
  obtain⟨u,m0,y0⟩:=VRs.g ⟨h3,h4⟩ g0;obtain⟨U,m1,y1⟩:=VRs.g ⟨h3,h4⟩ g1;have a3:cs'= #[u,U]:=by
   apply sC.1;have hl:cs'.toList.length=2:=by rw[<-h3];exact c2
   match hq:cs'.toList,hl with
   |[x,y],_=>
    rw[hq]at m0 m1;simp only[pA,pt,ky]at m0 m1;rw[m0,m1]
  subst a3;obtain⟨k1,k2,k3⟩:=c6;obtain⟨O,I,q',e1,r2,r3⟩:=bO hW y0 k1;obtain⟨p3,i3,_,e2,_,_⟩:=bO hW y1 k2;obtain⟨rb,ro,s9,e3,r9,a8⟩:=bO hW r3 c5;obtain⟨b5,b6,rfl⟩:=wN c3 a8;refine⟨#[u,U],Rd O I p3 i3 rb ro _ _ _,rfl,fun φ' H' W' hx a2 a6=>wl hx c3 a2 a6 y0 y1 r3 c5 e1 e2 e3,fun X E=>?_⟩;intro l J Jx a1 hY hJ;have hR:=wl (Ext.refl φ) c3 E ⟨k1,k2,k3⟩ y0 y1 r3 c5 e1 e2 e3;obtain⟨b2,b3,b4,f3,a9,S⟩:=bO E r3 c5;rw[e3]at f3;cases f3;obtain⟨b0,b1,rfl⟩:=wN c3 S;rw[e1,e2];exact Il 2 l O I p3 i3 rb ro _ _ _ J Jx c4 (fun i=>NO _) a1 (fun a7 x W hp hj=>hY a7 x W hp hj) X hR b0 b1 a9 hJ
noncomputable def KY:LV->d7->Option (aa3×Option d7):=qZ prog l7 EW EX rY rZ vL 12 13 59 [.cell 4 4] xX
noncomputable def gR:Lib:=fun f=>if f=45 then some KY else none
def Fi:vg prog l7:=fun g f h=>by cases h
def Qt:prog.follows .mixedOrders=true:=kR
def ng:vg prog gR:=by
 intro g f h;unfold gR at h;split at h
 rotate_left
 .cases h
 rename_i D;cases h;subst D;have:=Mg (f:=45) Qt Fi Su QY Ti YY YZ Xv Xw Za Zo Uq (it:=xX) (g:= .tmp 11) fun h u z=>Xu h u z;rw[Zn,Zr]at this;exact this
def I4{f:FuncId}{args:LV}{H:d7}{r:aa3×Option d7}(h:CL prog l7 f args H=some r):CL prog gR f args H=some r:=by
 refine Ni (fun f=>?_) _ _ _ _ h;unfold gR;by_cases u:f=45
 .subst u;exact .inr ⟨rfl,Xo⟩
 .rw[bt u];exact .inl rfl
def Yj(args:LV)(H:d7):CL prog gR 45 args H=KY args H:=QH (by unfold gR;rw[bJ rfl]) args H
def jO(size a b:Int):∀(l:List EvD)(i:Nat)(r:ReD),(S6 size a b l i r).1.strat=r.strat/\(S6 size a b l i r).1.labels=r.labels/\r.size<+:(S6 size a b l i r).1.size
 |[],i,r=>⟨rfl,rfl,Fb⟩
 |e::l,i,r=>by
  rw[S6];obtain⟨p1,p2,h,_⟩:=iE r (I9 r.strat e (r.sorts.getD a.toNat soZ) (r.sorts.getD b.toNat soZ)) size (i,a,b);split
  .split
   .obtain⟨u,z,D⟩:=jO size a b l (i+1) (bW r (I9 r.strat e (r.sorts.getD a.toNat soZ) (r.sorts.getD b.toNat soZ)) size (i,a,b)).1;exact⟨u.trans p1,z.trans p2,h.trans D⟩
   .exact⟨p1,p2,h⟩
  .exact jO size a b l (i+1) r
def aH(size:Int):List (Nat×Nat)->ReD->ReD×Bool
 |[],r=>(r,true)
 |x::l,r=>if(S6 size x.1 x.2 r.labels 0 r).2 then aH size l (S6 size x.1 x.2 r.labels 0 r).1 else((S6 size x.1 x.2 r.labels 0 r).1,false)
def jq(r:ReD)(size:Int):ReD×Bool:=aH size (X1 (fun i=>r.size.getD i 0) size r.sorts.length r.sorts.length) r
def BS{f g:Nat->Int}{size:Int}{m:Nat}(h:∀i,i<m->f i=g i):∀a,a<=m->X1 f size m a=X1 g size m a:=by
 intro a D;unfold X1;have:∀x∈List.range a,lj f size x m=lj g size x m:=fun x u=>by
  unfold lj
  congr 1
  refine List.filter_congr fun y z=>?_;rw[h x (oN (vK.1 u)),h y (vK.1 z)]
 rw[List.flatMap_def,List.flatMap_def,Yo this]
section
variable(Hs:d7)(lo K:Nat)(rb lw:Nat)(G:Nat->Prop)(rs:List Value)(vl:Value)(W0:List Value)(Hb:d7)(b2 b3 b4:Nat)(size:Int)(h0:0<=size)(n:Nat)(hbox:Jc Hb rb lw W0 b2 b3 b4 size)(hlo:lo<=lw)(heq:∀j,j<lo->Hb.g j=Hs.g j)
include h0 hbox hlo heq
def Pv(a b:Int)(e:Env)(H:d7)(r:ReD)(u D E:aa3)(f2:e.g 2=pT b2)(f3:e.g 3=pT b3)(f4:e.g 4=pT b4)(f5:e.g 5=iV a)(f6:e.g 6=iV b)
  (J:Z3 (QR Hs lo K false) (QR Hs lo K true) H rb lw G r rs vl u D E) (hT:cQ rb lw W0 Hb [u,D,E] H) (W:WfR r n):
  u7 (LE prog l7 rZ e H) (fun o e H=>(o= .normal/\(S6 size a b r.labels 0 r).2=true/\∃u D E,Z3 (QR Hs lo K false) (QR Hs lo K true) H rb lw G (S6 size a b r.labels 0 r).1 rs vl u D E/\cQ rb lw W0 Hb [u,D,E] H/\WfR (S6 size a b r.labels 0 r).1 n)\/(o= .ret/\(S6 size a b r.labels 0 r).2=false/\H.g b4=cE [.bool false] 1/\d9 lw Hb H)):=by
 obtain⟨g2,g3,w4,g4⟩:=hbox.at_ hT;have gr:=J.g;obtain⟨X,q9,a1,a2⟩:=J.at_;obtain⟨a3,I⟩:=eY (rs++[vl,u,D,E]);rw[<-I]at gr X;obtain⟨va,vc,h⟩:=J.lb.slice;rw[h]at X;refine J4 f2 g2 gr X ?_;refine i8 (F:=fun z=>u7 (inBlock 1 (inBlock 2 z)) _) (AF Hs lo K rb lw G rs vl W0 Hb b2 b3 b4 size a b h0 n hbox hlo heq va vc r.labels h (S6 size a b r.labels 0 r) (r.labels.length-0) _ _ ⟨0,r,u,D,E,rfl,wi _,f2,f3,f4,f5,f6,h.symm,rfl,rfl,rfl,J,hT,W,by rw[lP]⟩) ?_;rintro o' e' H' (⟨U,O,S⟩|⟨U,O,S⟩)
 .have:inBlock 1 (inBlock 2 (some (o',e',H')))=some (.normal,e',H'):=by rw[U];rfl
  rw[this,iB];exact .inl ⟨rfl,O,S⟩
 .have:inBlock 1 (inBlock 2 (some (o',e',H')))=some (.ret,e',H'):=by rw[U];rfl
  rw[this,iB];exact .inr ⟨rfl,O,S⟩
def Bh(e:Env)(W:e.g 2=pT b2)(X:e.g 3=pT b3)(f4:e.g 4=pT b4)(ok:d7->Prop)(s0:List Int)(I:∀H r h u z,Z3 (QR Hs lo K false) (QR Hs lo K true) H rb lw G r rs vl h u z->cQ rb lw W0 Hb [h,u,z] H->s0<+:r.size->ok H):
  ∀(L:List (Nat×Nat))(H:d7)(r:ReD)(h u z:aa3),Z3 (QR Hs lo K false) (QR Hs lo K true) H rb lw G r rs vl h u z->cQ rb lw W0 Hb [h,u,z] H->WfR r n->s0<+:r.size->
   ∃o H',dH prog l7 rY rZ 12 13 e ok L H=some (o,H')/\((o= .normal/\(aH size L r).2=true/\∃h u z,Z3 (QR Hs lo K false) (QR Hs lo K true) H' rb lw G (aH size L r).1 rs vl h u z/\cQ rb lw W0 Hb [h,u,z] H'/\WfR (aH size L r).1 n)\/(o= .ret/\(aH size L r).2=false/\H'.g b4=cE [.bool false] 1/\d9 lw Hb H'))
 |[],H,r,h,u,z,hR,hT,hwf,hs=>⟨.normal,H,rfl,.inl ⟨rfl,rfl,h,u,z,hR,hT,hwf⟩⟩
 |x::L,H,r,h,u,z,hR,hT,hwf,hs=>by
  have hA:LE prog l7 rY ((13,iV (x.2:Int))::(12,iV (x.1:Int))::e) H=some (.normal,(6,iV (x.2:Int))::(5,iV (x.1:Int))::(13,iV (x.2:Int))::(12,iV (x.1:Int))::e,H):=by
   simp(maxSteps:=20000000) -dsimp (disch:=first|omega|(simp only[rH]<;>omega)|fail) only[↓fk,rQ,N1,sevalprocAttr,tyA,]
  obtain⟨o,e2,H2,hB,J⟩:=Pv Hs lo K rb lw G rs vl W0 Hb b2 b3 b4 size h0 n hbox hlo heq x.1 x.2 ((6,iV (x.2:Int))::(5,iV (x.1:Int))::(13,iV (x.2:Int))::(12,iV (x.1:Int))::e) H r h u z W X f4 rfl rfl hR hT hwf;rcases J with⟨rfl,U,y1,y2,y3,D,E,S⟩|⟨rfl,U,h2,h3⟩
  .have O:s0<+:(S6 size x.1 x.2 r.labels 0 r).1.size:=hs.trans (jO size x.1 x.2 r.labels 0 r).2.2;obtain⟨o',H',k1,k2⟩:=Bh e W X f4 ok s0 I L H2 _ y1 y2 y3 D E S O;refine⟨o',H',?_,?_⟩
   .simp only[dH,hA,hB,bJ (I H2 _ y1 y2 y3 D E O)];exact k1
   .rw[aH,bJ U];exact k2
  .refine⟨.ret,H2,?_,.inr ⟨rfl,?_,h2,h3⟩⟩
   .simp only[dH,hA,hB]
   .rw[aH,U];rfl
end
def OB{e:Env}{H:d7}{h z q:aa3}{size:Int}{sa:Option Addr}{m c u D:Nat}{a:Addr}(U:e.g 11= .func (.func 94) #[] #[h,z])(W:ldc H h 0=some q)(X:ldc H z 0=some (.int .i64 size))(h9:ldc H q 9=some (.slice sa m c))(hm:1<=m/\m<=1000)(E:ldc H q 10=some (.slice (some a) u D))(J:m<=u)(S:Nat->Int)(O:∀i,i<m->ldc H (.pointer (some a)) i=some (.int .i64 (S i))) (hb:∀i,i<m->0<=S i/\S i<=1000000):
  xX e H=some (X1 S size m m,okP h z q m (fun i=>mK (pi (atA H (ldc H q 10) i))) size):=by
 have hc:∀i,i<m->mK (pi (atA H (ldc H q 10) i))=S i:=fun i I=>by
  rw[E];show mK (pi (ldc H (.pointer (some a)) i))=_;rw[O i I,pi,mK,bJ (hb i I)]
 have e9:lnA (ldc H q 9)=m:=by rw[h9];rfl
 have e3:pi (ldc H z 0)=size:=by rw[X];rfl
 have e0:(#[h,z]:Array aa3).getD 0 undef=h:=rfl;have e1:(#[h,z]:Array aa3).getD 1 undef=z:=rfl;have eq:(ldc H h 0).getD undef=q:=by rw[W];rfl
 unfold xX;simp only[U];rw[e0,e1,eq,e9,e3];rw[bJ ⟨rfl,rfl,hm.1,hm.2,⟨sa,c,h9⟩,W,X,a,u,D,E,J,fun i I=>by show ldc H (.pointer (some a)) i=some (.int .i64 (mK (pi (atA H (ldc H q 10) i))));rw[hc i I];exact O i I⟩];rw[BS hc m (R2 m)]
def QC{H:d7}{lo:Nat}{w:aa3}{l:List Int}(E:u5 H lo 1 (y7 inE) w l)(h:1<=l.length):∃a c,w= .slice (some a) l.length c/\∀i,i<l.length->ldc H (.pointer (some a)) i=some (.int .i64 (l.getD i 0)):=by
 have hs:=E.sl;obtain⟨sa,c,rfl⟩:=hs.slice;obtain⟨_,nb,o,_,_,_,_,_,rfl,_,_,_,_,_,_⟩:=hs.row (i:=0) oM;refine⟨_,c,rfl,fun i O=>?_⟩;obtain⟨y,X,o',cs,own,el,W,hd,D,U,J,S,z,I,rfl⟩:=hs.row (i:=i) O;cases D;have u:=I 0 oM;rw[ly,yD]at u;unfold ldc;simp only[J,u];rw[dE,W];rfl
def Z3.back{D E:LV->Q->Prop}{H H':d7}{rb lw:Nat}{G:Nat->Prop}{r r0:ReD}{rs:LV}{vl S U W w1 w2 w3:aa3}(h:Z3 D E H' rb lw G r rs vl S U W)(z:Z3 D E H rb lw G r0 rs vl w1 w2 w3)(u:∀j,j<H.n->H'.g j=H.g j):S=w1/\U=w2/\W=w3/\Z3 D E H rb lw G r rs vl w1 w2 w3:=by
 have I:=h.g;rw[u rb (u6 z.g),z.g]at I;simp only[ky,Blk.cells.injEq,List.append_cancel_left_eq,UJ,aau,aaR]at I;obtain⟨rfl,rfl,rfl⟩:=I;have J:∀j,G j->H.g j=H'.g j:=fun j hj=>(u j (z.fr j hj).1).symm;have O:∀w∈ [w1,w2,w3],∀b,j8 w b->H.g b=H'.g b:=fun w hw b X=>(u b (z.inl hw X).2.2).symm;exact⟨rfl,rfl,rfl,z.g,h.st.mono J (fun _ h=>h) iF iF,h.lb.mono J (fun _ h=>h) (fun _ _ q=>A3 _ _ _ _ _ _ q J (fun _ h=>h)),h.so.same (O w1 sM),h.sz.same (O w2 sM),h.ho.same (O w3 sM),h.ap,z.fr,z.nb⟩
def Z3.side{J O:LV->Q->Prop}{H H':d7}{rb lw:Nat}{G:Nat->Prop}{r:ReD}{rs:LV}{vl w1 w2 w3:aa3}(h:Z3 J O H rb lw G r rs vl w1 w2 w3){b:Nat}(D:b≠rb/\¬G b/\∀w∈ [w1,w2,w3],¬j8 w b) (U:H.n<=H'.n) (u:∀j,j≠b->H'.g j=H.g j):Z3 J O H' rb lw G r rs vl w1 w2 w3:=by
 have E:∀j,G j->H'.g j=H.g j:=fun j z=>u j fun q=>D.2.1 (q▸z);have I:∀w∈ [w1,w2,w3],∀j,j8 w j->H'.g j=H.g j:=fun w S j z=>u j fun q=>D.2.2 w S (q▸z);exact⟨(u rb fun q=>D.1 q.symm).trans h.g,h.st.mono E (fun _ h=>h) iF iF,h.lb.mono E (fun _ h=>h) (fun _ _ q=>A3 _ _ _ _ _ _ q E (fun _ h=>h)),h.so.same (I w1 sM),h.sz.same (I w2 sM),h.ho.same (I w3 sM),h.ap,fun j z=>by have:=h.fr j z;exact⟨oM,this.2⟩,h.nb⟩
def XO(H:d7)(rb:Nat)(size:Int):CL prog l7 68 [pT rb,iV size] H=some (.func (.func 94) #[] #[pT H.n,pT (H.n+1)],some ⟨H.bs++[.cells [pT rb] true 1]++[.cells [iV size] true 1],min H.low H.n⟩):=by
 rw[i7 YL rfl _ sM];refine J1 Yh ?_;rfl
def Nj(Hs:d7)(lo K:Nat)(rb lw:Nat)(G:Nat->Prop)(rs:LV)(vl w1 w2 w3:aa3)(n:Nat)(H:d7)(z:ReD×Bool):aa3->d7->Prop:=fun v H'=>
 v= .bool z.2/\d9 lw H H'/\(z.2=true->∃x1 x2 x3,Z3 (QR Hs lo K false) (QR Hs lo K true) H' rb lw G z.1 rs vl x1 x2 x3/\cQ rb lw [w1,w2,w3] H [x1,x2,x3] H'/\WfR z.1 n)
def SB(Hs:d7)(lo K:Nat)(H:d7)(rb lw:Nat)(G:Nat->Prop)(rs:LV)(vl w1 w2 w3:aa3)(size:Int)(h0:0<=size)(n:Nat)(hlo:lo<=lw)(heq:∀j,j<lo->H.g j=Hs.g j) (r:ReD) (hR:Z3 (QR Hs lo K false) (QR Hs lo K true) H rb lw G r rs vl w1 w2 w3) (X:WfR r n):
  Ret (CL prog gR 45 [pT rb,iV size] H) H (Nj Hs lo K rb lw G rs vl w1 w2 w3 n H (jq r size)):=by
 obtain⟨H1,a1,n1,-⟩:=pushF H (bC [pT rb] 1);obtain⟨H2,J⟩:=eY (H1.push (bC [iV size] 1));have n2:H2.n=H.n+2:=by rw[J,i4,n1]
 obtain⟨u,E⟩:=eY (H2.push (bC [.bool false] 1));have n3:u.n=H.n+3:=by rw[E,i4,n2]
 have g2:u.g H.n=cE [pT rb] 1:=by rw[E,j5 oM,J,j5 oM,a1];exact j6
 have g3:u.g (H.n+1)=cE [iV size] 1:=by rw[E,j5 oM,J,<-n1];exact j6
 have g4:u.g (H.n+2)=cE [.bool false] 1:=by rw[E,<-n2];exact j6
 have a8:=XO u rb size;obtain⟨h,a6⟩:=eY (⟨u.bs++[.cells [pT rb] true 1]++[.cells [iV size] true 1],min u.low u.n⟩:d7);rw[<-a6]at a8;rw[Yj];unfold KY qZ;rw[bJ sM];have hE:∃z,yx prog l7 EW EX rY rZ vL 12 13 xX (N1 0 [pT rb,iV size]) ⟨H.bs,H.n⟩=(match xX z h with
   |some (L,ok)=>match dH prog l7 rY rZ 12 13 z ok L h with
    |some (.normal,u)=>LE prog l7 vL z u
    |some (.ret,u)=>some (.ret,z,u)
    |_=>none
   |none=>none)/\z.g 2=pT H.n/\z.g 3=pT (H.n+1)/\z.g 4=pT (H.n+2)/\z.g 11= .func (.func 94) #[] #[pT (H.n+3),pT (H.n+4)]:=by
  have ha:∃e1,LE prog l7 EW (N1 0 [pT rb,iV size]) ⟨H.bs,H.n⟩=some (.normal,e1,u)/\e1.g 2=pT H.n/\e1.g 3=pT (H.n+1)/\e1.g 4=pT (H.n+2):=by
   refine J5 a1.symm n1 J.symm n2 E.symm ?_;exact⟨_,rfl,rfl,rfl,rfl⟩
  obtain⟨e1,ha,p2,p3,p4⟩:=ha;have hb:∃z,LE prog l7 EX e1 u=some (.normal,z,h)/\z.g 2=pT H.n/\z.g 3=pT (H.n+1)/\z.g 4=pT (H.n+2)/\z.g 11= .func (.func 94) #[] #[pT (H.n+3),pT (H.n+4)]:=by
   rw[n3]at a8;refine J5 p2 p3 g2 g3 a8 ?_;exact⟨_,rfl,p2,p3,p4,rfl⟩
  obtain⟨z,hb,p⟩:=hb;refine⟨z,?_,p⟩;unfold yx;simp only[ha,hb];rfl
 obtain⟨z,hE,p2,p3,p4,d2⟩:=hE;rw[hE];have b5:h.bs=((u.push (bC [pT rb] 1)).push (bC [iV size] 1)).bs:=by rw[a6];rfl
 have d5:u.low=H.n:=by rw[E,J,a1];rfl
 have e3:h.low=H.n:=by rw[a6];show min u.low u.n=_;omega
 have n5:h.n=H.n+5:=by
  show h.bs.length=_;rw[b5];simp only[d7.push,dx,vV];have:u.bs.length=H.n+3:=n3;omega
 have g5:∀j,h.g j=((u.push (bC [pT rb] 1)).push (bC [iV size] 1)).g j:=fun j=>by show h.bs[j]?=_;rw[b5];rfl
 have o5:∀j,j<u.n->h.g j=u.g j:=fun j D=>by rw[g5,j5 (by rw[i4];omega),j5 D]
 have a3:h.g (H.n+3)=cE [pT rb] 1:=by rw[g5,j5 (by rw[i4];omega),<-n3];exact j6
 have a4:h.g (H.n+4)=cE [iV size] 1:=by
  have e4:H.n+4=(u.push (bC [pT rb] 1)).n:=by rw[i4];omega
  rw[g5,e4];exact j6
 have old:∀j,j<H.n->h.g j=H.g j:=fun j D=>by rw[o5 j oM,E,j5 oM,J,j5 oM,a1,j5 (by exact D)];rfl
 have hS:d9 H.n H h:=⟨oM,fun k hk _=>oM,old⟩
 have O:=hR.keep hS;have e9:=u6 hR.g;have e8:=hR.nb.1;obtain⟨q8,q9,d3,f0⟩:=O.at_;obtain⟨s1,c1,e1⟩:=O.so.slice;have d0:=X.l0;have e6:=X.l1;have e7:=X.l2;obtain⟨s2,c2,c7,z2⟩:=QC O.sz oM;have k1:ldc h (pT (H.n+3)) 0=some (pT rb):=by unfold ldc;simp only[a3];rfl
 have k3:ldc h (pT (H.n+4)) 0=some (.int .i64 size):=by unfold ldc;simp only[a4];rfl
 have k9:ldc h (pT rb) 9=some (.slice s1 r.sorts.length c1):=by unfold ldc;simp only[O.g,tV];rw[q9,e1]
 have c4:ldc h (pT rb) 10=some (.slice (some s2) r.size.length c2):=by unfold ldc;simp only[O.g,tV];rw[d3,c7]
 have b8:∀i,i<r.sorts.length->0<=r.size.getD i 0/\r.size.getD i 0<=1000000:=fun i hi=>by
  have b1:i<r.size.length:=oM;have b7:r.size.getD i 0∈r.size:=by rw[dE,gI b1];exact aaw b1
  have:=X.sb _ b7;omega
 have b6:=OB d2 k1 k3 k9 ⟨d0,oM⟩ c4 oM (fun i=>r.size.getD i 0) (fun i hi=>z2 i oM) b8;obtain⟨ok,b9⟩:=eY (okP (pT (H.n+3)) (pT (H.n+4)) (pT rb) r.sorts.length (fun i=>mK (pi (atA h (ldc h (pT rb) 10) i))) size);rw[<-b9]at b6;have b0:∀i,i<r.sorts.length->mK (pi (atA h (ldc h (pT rb) 10) i))=r.size.getD i 0:=fun i hi=>by
  rw[c4];show mK (pi (ldc h (.pointer (some s2)) i))=_;rw[z2 i oM,pi,mK,bJ (b8 i hi)]
 have nW:∀j,H.n<=j->∀w∈ [w1,w2,w3],¬j8 w j:=fun j D w hw q=>oN ((hR.inl hw q).2.2);have c0:∀H' r' x1 x2 x3,Z3 (QR Hs lo K false) (QR Hs lo K true) H' rb lw G r' rs vl x1 x2 x3->cQ rb lw [w1,w2,w3] h [x1,x2,x3] H'->r.size<+:r'.size->ok H':=by
  intro H' r' x1 x2 x3 U h2 h3;have hl:=h3.length_le;obtain⟨t8,t9,d4,f1⟩:=U.at_;obtain⟨s,c,es,zs⟩:=QC U.sz oM;rw[b9];have b3:H'.g (H.n+3)=h.g (H.n+3):=h2.but _ oM oM (nW _ oM);have b4:H'.g (H.n+4)=h.g (H.n+4):=h2.but _ oM oM (nW _ oM);refine⟨by unfold ldc;simp only[b3,a3];rfl,by unfold ldc;simp only[b4,a4];rfl,s,r'.size.length,c,by unfold ldc;simp only[U.g,tV];rw[d4,es],oM,fun i hi=>?_⟩;rw[zs i oM];show _=some (iV (mK (pi (atA h (ldc h (pT rb) 10) i))));rw[b0 i hi];obtain⟨t,ht⟩:=h3;rw[<-ht,dE,dE,gk oM]
 have hbox:Jc h rb lw [w1,w2,w3] H.n (H.n+1) (H.n+2) size:=⟨by rw[o5 _ oM];exact g2,by rw[o5 _ oM];exact g3,⟨_,by rw[o5 _ oM];exact g4⟩,fun j D=>⟨oM,oM,nW j oM⟩⟩
 obtain⟨o,H',hr,a2⟩:=Bh Hs lo K rb lw G rs vl [w1,w2,w3] h H.n (H.n+1) (H.n+2) size h0 n hbox hlo (fun j D=>by rw[old j oM];exact heq j D) z p2 p3 p4 ok r.size c0 (X1 (fun i=>r.size.getD i 0) size r.sorts.length r.sorts.length) h r w1 w2 w3 O (cQ.refl _ _ _ _) X Fb;obtain⟨kk,c8⟩:=jh Xv Xw _ _ hr;have c9:=fB (BK Qt Fi (Bs.lt 0) default) _ _ c8;have hz:aH size (X1 (fun i=>r.size.getD i 0) size r.sorts.length r.sorts.length) r=jq r size:=rfl;rw[hz]at a2;have e0:(match xX z h with
   |some (L,ok)=>match dH prog l7 rY rZ 12 13 z ok L h with
    |some (.normal,u)=>LE prog l7 vL z u
    |some (.ret,u)=>some (.ret,z,u)
    |_=>none
   |none=>none)=(match(some (o,H'):Option (Out×d7))with
    |some (.normal,u)=>LE prog l7 vL z u
    |some (.ret,u)=>some (.ret,z,u)
    |_=>none):=by rw[b6];simp only[hr]
 rw[e0];rcases a2 with⟨rfl,U,x1,x2,x3,a9,I,a5⟩|⟨rfl,U,h2,h3⟩
 .have b4:H'.g (H.n+2)=cE [.bool false] 1:=by rw[I.but _ oM oM (nW _ oM),o5 _ oM];exact g4
  obtain⟨S,W⟩:=eY (H'.put (H.n+2) (bC [.bool true] 1));have nn:=I.stay.n;have c6:S.g (H.n+2)=cE [.bool true] 1:=by rw[W];exact i9 oM
  have d6:∀j,j≠H.n+2->S.g j=H'.g j:=fun j D=>by rw[W];exact j7 (fun q=>D q.symm)
  have n6:S.n=H'.n:=by rw[W,j9]
  have l6:S.low=min H'.low (H.n+2):=by rw[W,A9]
  simp only;refine J4 p4 b4 W.symm c6 ?_;refine E1 (fun _ hl=>?_) ?_
  .have e5:H.n<=H'.low:=oM;have c5:∀j,j<H.n->H'.g j=H.g j:=fun j D=>by
    have:=c9.same j oM (by show j<h.n;omega);exact this.trans (old j D)
   obtain⟨_,_,_,a7⟩:=a9.back hR c5;exact⟨by rw[U],d9.refl _ _,fun _=>⟨w1,w2,w3,a7,cQ.refl _ _ _ _,a5⟩⟩
  .have c3:d9 lw H ⟨S.bs,min H.low S.low⟩:=by
    refine⟨by show H.n<=S.n;omega,fun k hk q=>?_,fun j D=>?_⟩
    .have:=I.stay.lowAll k hk oM;show k<=min H.low S.low;omega
    .show S.g j=H.g j;rw[d6 j oM,I.stay.g j D,old j oM]
   refine⟨by rw[U],c3,fun _=>⟨x1,x2,x3,?_,⟨fun j D e1 z=>?_,fun b hb=>?_,c3⟩,a5⟩⟩
   .refine a9.side (b:=H.n+2) ⟨oM,fun q=>by have:=(hR.fr _ q).1;omega,fun w hw q=>?_⟩ (by show H'.n<=S.n;omega) d6;rcases I.new _ ⟨w,hw,q⟩with⟨w',d1,q'⟩|q'
    .exact nW _ oM w' d1 q'
    .omega
   .show S.g j=H.g j;rw[d6 j oM,I.but j oM e1 z,old j D]
   .rcases I.new b hb with q|q
    .exact .inl q
    .exact .inr oM
 .simp only;refine J2 p4 h2 ?_;refine E1 (fun _ hl=>⟨by rw[U],d9.refl _ _,fun q=>by rw[U]at q;cases q⟩) ⟨by rw[U],⟨?_,fun k hk q=>?_,fun j D=>?_⟩,fun q=>by rw[U]at q;cases q⟩
  .have:=h3.n;show H.n<=H'.n;omega
  .have:=h3.lowAll k hk oM;show k<=min H.low H'.low;omega
  .show H'.g j=H.g j;rw[h3.g j D,old j oM]
def PE(p:PrD):Prop:=0<=p.st/\∀x∈p.ed,0<=x.1/\x.1<p.st/\0<=x.2.1/\x.2.1<p.st/\(x.2.2.1=3->0<=x.2.2.2/\x.2.2.2<p.ts.length)
def PE.edge{p:PrD}(h:PE p){f t:Int}(u:0<=f/\f<p.st)(z:0<=t/\t<p.st):PE (p.edge f t 0 0):=by
 refine⟨h.1,fun x D=>?_⟩;rcases gd.1 D with q|q
 .exact h.2 x q
 .rw[mj.1 q];exact⟨u.1,u.2,z.1,z.2,fun q=>by cases q⟩
def PE.more{p:PrD}(h:PE p)(d:Int)(O:0<=d):PE {p with st:=p.st+d}:=by
 refine⟨by show 0<=p.st+d;have:=h.1;omega,fun x E=>?_⟩;obtain⟨u,I,z,J,D⟩:=h.2 x E;exact⟨u,by show x.1<p.st+d;omega,z,by show x.2.1<p.st+d;omega,D⟩
def PE.fold{t:Int}:∀(l:List Int){p:PrD},PE p->(0<=t/\t<p.st)->(∀x∈l,0<=x/\x<p.st)->PE (l.foldl (fun m x=>m.edge x t 0 0) p)
 |[],p,h,_,_=>h
 |x::l,p,h,ht,hl=>by
  rw[sd];exact PE.fold l (h.edge (hl x sM) ht) ht fun y u=>hl y (by simp [u])
def PW(p:PrD)(r:PrD×Int×Int):Prop:=PE r.1/\p.st<=r.1.st/\p.ts.length<=r.1.ts.length/\0<=r.2.1/\r.2.1<r.1.st/\0<=r.2.2/\r.2.2<r.1.st
mutual
def mE:∀(q:Q)(p:PrD),OkD false q->PE p->PW p (D4 q p)
 | .mk o s c v a b,p,hok,hp=>by
  obtain⟨ha,hb,h1,h2,h3⟩:=hok.parts;obtain⟨n1,n2,n3,n4⟩:=gJ h3;have l4:o=4->1<=a.length:=by
   rintro rfl;have:(2:Int)<=a.length:=n1;omega
  have l6:o=6->1<=a.length:=by
   rintro rfl;have:(1:Int)<=a.length:=n1;omega
  simp only[Q.op,Q.a,Q.b,IC,MR]at ha hb h1 n3 n4;have hp0:=hp.1;rw[D4];split
  next ho=>exact PD a p (l4 ho) ha hp
  .rename_i ho4;split
   next ho=>obtain⟨k1,k2,k3,k4⟩:=EA a p.st {p with st:=p.st+1} [] ha (hp.more 1 oM) ⟨hp.1,by show p.st<p.st+1;omega⟩ (fun e he=>by cases he);obtain⟨f1,f2,_⟩:=oT (N9 a p.st {p with st:=p.st+1} []).1.st (N9 a p.st {p with st:=p.st+1} []).2 {(N9 a p.st {p with st:=p.st+1} []).1 with st:=(N9 a p.st {p with st:=p.st+1} []).1.st+1};have k2':p.st+1<=(N9 a p.st {p with st:=p.st+1} []).1.st:=k2;unfold PW;rw[f1,f2];refine⟨?_,by show p.st<=(N9 a p.st {p with st:=p.st+1} []).1.st+1;omega,k3,hp.1,by show p.st<(N9 a p.st {p with st:=p.st+1} []).1.st+1;omega,k1.1,by show(N9 a p.st {p with st:=p.st+1} []).1.st<(N9 a p.st {p with st:=p.st+1} []).1.st+1;omega⟩;refine PE.fold _ (k1.more 1 oM) ⟨k1.1,by show(N9 a p.st {p with st:=p.st+1} []).1.st<(N9 a p.st {p with st:=p.st+1} []).1.st+1;omega⟩ fun x hx=>?_;have:=k4 x hx;exact⟨this.1,by show x<(N9 a p.st {p with st:=p.st+1} []).1.st+1;omega⟩
   .rename_i ho5;split
    next ho=>obtain⟨k1,k2,k3,k4,k5,k6,k7⟩:=Pe a {p with st:=p.st+1} (l6 ho) ha (hp.more 1 oM);have k2':p.st+1<=(im a {p with st:=p.st+1}).1.st:=k2;exact⟨(k1.edge ⟨hp.1,oM⟩ ⟨k4,k5⟩).edge ⟨k6,k7⟩ ⟨hp.1,by show p.st<(im a {p with st:=p.st+1}).1.st;omega⟩,by show p.st<=(im a {p with st:=p.st+1}).1.st;omega,k3,hp.1,by show p.st<(im a {p with st:=p.st+1}).1.st;omega,hp.1,by show p.st<(im a {p with st:=p.st+1}).1.st;omega⟩
    .rename_i ho6;have hts:p.ts.length<=(if o=7 then p.ts++b else p.ts).length:=by
      split
      .rw[dx];omega
      .exact lR
     refine⟨⟨by show 0<=p.st+2;omega,fun x hx=>?_⟩,by show p.st<=p.st+2;omega,hts,hp.1,by show p.st<p.st+2;omega,by show 0<=p.st+1;omega,by show p.st+1<p.st+2;omega⟩;rcases gd.1 hx with q|q
     .obtain⟨e1,e2,e3,e4,e5⟩:=hp.2 x q;refine⟨e1,by show x.1<p.st+2;omega,e3,by show x.2.1<p.st+2;omega,fun h=>?_⟩;have:=e5 h;exact⟨this.1,by show x.2.2.2<((if o=7 then p.ts++b else p.ts).length:Int);omega⟩
     .rw[mj.1 q];refine⟨hp.1,by show p.st<p.st+2;omega,by show 0<=p.st+1;omega,by show p.st+1<p.st+2;omega,fun h=>?_⟩;have h7:o=7:=by
       by_cases h7:o=7
       .exact h7
       .exfalso
        simp only[bt h7]at h;split at h
        .cases h
        .split at h<;>cases h
      show 0<=(if o=7 then(p.ts.length:Int) else 0)/\(if o=7 then(p.ts.length:Int) else 0)<((if o=7 then p.ts++b else p.ts).length:Int);rw[bJ h7,bJ h7,dx];have:=n3.1 h7;omega
def PD:∀(l:List Q)(p:PrD),1<=l.length->(∀x∈l,OkD false x)->PE p->PW p (iz l p)
 |[],p,h,_,_=>by simp at h
 |x::l,p,_,h,hp=>by
  rw[iz];exact Fz l (D4 x p) p (fun y hy=>h y (by simp [hy])) (mE x p (h x (by simp)) hp)
def Fz:∀(l:List Q)(x:PrD×Int×Int)(p:PrD),(∀y∈l,OkD false y)->PW p x->PW p (dW l x)
 |[],x,p,_,h=>by rw[dW];exact h
 |q::l,x,p,h,hx=>by
  rw[dW];obtain⟨k1,k2,k3,k4,k5,k6,k7⟩:=hx;obtain⟨m1,m2,m3,m4,m5,m6,m7⟩:=mE q x.1 (h q (by simp)) k1;refine Fz l _ p (fun y hy=>h y (by simp [hy])) ⟨m1.edge ⟨k6,oM⟩ ⟨m4,m5⟩,by show p.st<=(D4 q x.1).1.st;omega,by show p.ts.length<=(D4 q x.1).1.ts.length;omega,k4,by show x.2.1<(D4 q x.1).1.st;omega,m6,m7⟩
def EA:∀(l:List Q)(n:Int)(p:PrD)(es:List Int),(∀y∈l,OkD false y)->PE p->(0<=n/\n<p.st)->(∀e∈es,0<=e/\e<p.st)->
  PE (N9 l n p es).1/\p.st<=(N9 l n p es).1.st/\p.ts.length<=(N9 l n p es).1.ts.length/\∀e∈(N9 l n p es).2,0<=e/\e<(N9 l n p es).1.st
 |[],n,p,es,_,hp,_,he=>by rw[N9];exact⟨hp,JE _,lR,he⟩
 |x::l,n,p,es,h,hp,hn,he=>by
  rw[N9];obtain⟨m1,m2,m3,m4,m5,m6,m7⟩:=mE x p (h x (by simp)) hp;obtain⟨r1,r2,r3,r4⟩:=EA l n ((D4 x p).1.edge n (D4 x p).2.1 0 0) (es++[(D4 x p).2.2]) (fun y hy=>h y (by simp [hy])) (m1.edge ⟨hn.1,oM⟩ ⟨m4,m5⟩) ⟨hn.1,by show n<(D4 x p).1.st;omega⟩ (fun e hm=>by
   rcases gd.1 hm with q|q
   .have:=he e q;exact⟨this.1,by show e<(D4 x p).1.st;omega⟩
   .rw[mj.1 q];exact⟨m6,m7⟩)
  have r2':(D4 x p).1.st<=(N9 l n ((D4 x p).1.edge n (D4 x p).2.1 0 0) (es++[(D4 x p).2.2])).1.st:=r2;have r3':(D4 x p).1.ts.length<=(N9 l n ((D4 x p).1.edge n (D4 x p).2.1 0 0) (es++[(D4 x p).2.2])).1.ts.length:=r3;exact⟨r1,oM,oM,r4⟩
def Pe:∀(l:List Q)(p:PrD),1<=l.length->(∀x∈l,OkD false x)->PE p->PW p (im l p)
 |[],p,h,_,_=>by simp at h
 |x::l,p,_,h,hp=>by
  rw[im];exact mE x p (h x (by simp)) hp
end
def JT(q:Q)(h:OkD false q)(U:nQ q<=100000):PWf (C9 q):=by
 obtain⟨u,O,S,z,D,E,I⟩:=mE q ⟨0,0,0,[],[]⟩ h ⟨JE _,fun x J=>by cases J⟩;have hs:=gY q;exact⟨⟨hs.1,oM⟩,⟨z,D⟩,⟨E,I⟩,u.2⟩
def wT(q:Q)(O:OkD false q)(hn:nQ q<=1000):0<=A5 (C7 q).progs/\A5 (C7 q).progs<=2000*((C7 q).progs.length:Int)/\∀(i:Nat) p b,(C7 q).progs[i]?=some p->(C7 q).base[i]?=some b->0<=b/\b+p.st<=A5 (C7 q).progs/\PWf p:=by
 obtain⟨h1,h2⟩:=eA _ false q lR O;have key:∀(l:List Q)(s:StD),(∀x∈l,OkD false x/\nQ x<=nQ q)->s.base.length=s.progs.length->0<=A5 s.progs->A5 s.progs<=2000*(s.progs.length:Int)->(∀(i:Nat) p b,s.progs[i]?=some p->s.base[i]?=some b->0<=b/\b+p.st<=A5 s.progs/\PWf p)->
   0<=A5 (l.foldl L0 s).progs/\A5 (l.foldl L0 s).progs<=2000*((l.foldl L0 s).progs.length:Int)/\∀(i:Nat) p b,(l.foldl L0 s).progs[i]?=some p->(l.foldl L0 s).base[i]?=some b->0<=b/\b+p.st<=A5 (l.foldl L0 s).progs/\PWf p:=by
  intro l;induction l with
  |nil=>intro s _ _ D I E;exact⟨D,I,E⟩
  |cons x l ih=>
   intro s U J D I E;rw[sd];have S:=U x sM;have hc:=gY x;refine ih (L0 s x) (fun y hy=>U y (by simp [hy])) ?_ ?_ ?_ ?_
   .rw[L0];split
    .exact J
    .simp [J]
   .rw[L0];split
    .exact D
    .rw[Z9];omega
   .rw[L0];split
    .exact I
    .rw[Z9,dx,vV];omega
   .rw[L0];split
    .exact E
    .intro i p b u h;rw[Z9];by_cases hi:i<s.progs.length
     .rw[gk hi]at u;rw[gk oM]at h;obtain⟨W,a2,X⟩:=E i p b u h;exact⟨W,oM,X⟩
     .have z:i=s.progs.length:=by
       have:=(gS u).1;simp at this;omega
      rw[ns oM,z,Uw]at u;rw[ns oM,z,J,Uw]at h;simp at u h;subst u h;exact⟨D,JE _,JT x S.1 oM⟩
 exact key (inQ false q) ⟨[],[],[],C9 q⟩ h2 rfl (JE _) (by simp [A5]) (fun i p b u=>by simp at u)
def wU(q:Q)(h:OkD false q)(X:nQ q<=400):WfS (C7 q) (A5 (C7 q).progs).toNat:=by
 obtain⟨D,E,U,W⟩:=oh q h;obtain⟨k1,k2,O⟩:=wT q h oM;refine⟨D,E,oM,oM,fun i p b J I=>?_⟩;obtain⟨u,S,z⟩:=O i p b J I;exact⟨u,oM,z⟩
def Ret.one{f:FuncId}{args:LV}{H H':d7}{Q:aa3->d7->Prop}(h:Ret (CL prog l7 f args H) H' Q):Ret (CL prog gR f args H) H' Q:=by
 obtain⟨v,z,u,D,E,I⟩:=h;exact⟨v,z,u,I4 D,E,I⟩
def Te{a b:Int}(h:0<=a/\a<=200)(u:0<=b/\b<=200):0<=mx2 a b/\mx2 a b<=200:=by unfold mx2;split<;>assumption
def Tf:∀l:List Int,(∀x∈l,0<=x/\x<=200)->0<=mxL l/\mxL l<=200
 |[],_=>by simp [mxL]
 |x::l,h=>by
  have:∀(l:List Int)(m:Int),(∀x∈l,0<=x/\x<=200)->0<=m/\m<=200->0<=l.foldl mx2 m/\l.foldl mx2 m<=200:=by
   intro l;induction l with
   |nil=>intro m _ h;exact h
   |cons y l J=>intro m u D;rw[sd];exact J _ (fun z I=>u z (by simp [I])) (Te D (u y sM))
  exact this l x (fun y E=>h y (by simp [E])) (h x sM)
def pd:Nat->ReD->Int->Option ReD
 |0,r,_=>some r
 |k+1,r,size=>if decide (size<=2*mxL r.size+1) then(if(jq r size).2 then pd k (jq r size).1 (size+1) else none) else some r
def z12:LV:=[nS,nS,nS,iV 0,iV 0,iV 0,nS,nS,nS,nS,nS,nS]
def DJ(U:d7)(lo K:Nat)(X O:Nat)(G:Nat->Prop)(rs:LV)(vl:aa3)(Hb:d7)(D:Nat)(n:Nat)(a8:lo<=O)(a7:∀j,j<lo->Hb.g j=U.g j) (a2:D<O) (g2:Hb.g D=cE z12 1) (E:Option ReD):
  ∀W e H,(∃(size:Int)(r:ReD)(x1 S x3:aa3),W=(402-size).toNat/\0<=size/\size<=402/\e.g 2=pT D/\e.g 6=pT X/\e.g 7=iV size/\
    Z3 (QR U lo K false) (QR U lo K true) H X O G r rs vl x1 S x3/\d9 O Hb H/\WfR r n/\pd W r size=E)->
  u7 (LE prog gR (.loop UD) e H) (fun o e H=>e.g 2=pT D/\((o= .exit 0/\e.g 6=pT X/\d9 O Hb H/\∃r x1 S x3,E=some r/\Z3 (QR U lo K false) (QR U lo K true) H X O G r rs vl x1 S x3/\WfR r n)\/(o= .ret/\E=none/\e.g 3=iV 13/\H.g D=cE z12 1/\d9 D Hb H))):=by
 refine i5 _ _ ?_;rintro W e H ⟨size,r,x1,S,x3,hk,b1,b8,f2,f6,f7,hR,hS,u,z⟩;obtain⟨q8,q9,b3,c0⟩:=hR.at_;have a9:=Tf r.size u.sb;have b5:=u.l0;have b6:=u.l1;have b7:=u.l2;have ho:=I4 (Tq H X _ true 1 hR.g S r.size hR.sz.sl b3 oM oM size a9.1 oM);rcases bo:decide (size<=2*mxL r.size+1)with _|_
 .rw[bo]at ho;have a3:E=some r:=by
   cases W with
   |zero=>rw[pd]at z;exact z.symm
   |succ k=>rw[pd,bo]at z;exact z.symm
  refine J3 f6 f7 ho ?_;exact i6 ⟨f2,.inl ⟨rfl,f6,hS,r,x1,S,x3,a3,hR,u⟩⟩
 .have b4:=dT bo;rw[bo]at ho;obtain⟨k,rfl⟩:∃k,W=k+1:=⟨W-1,oM⟩
  rw[pd,bo]at z;simp only[jd]at z;obtain⟨v,hp,H1,h,I,hv,J,b0⟩:=SB U lo K H X O G rs vl x1 S x3 size b1 n a8 (fun j hj=>by rw[hS.g j oM];exact a7 j hj) r hR u;subst hv;have a1:H1.g D=cE z12 1:=by rw[J.g D a2,hS.g D a2];exact g2
  have a5:=u6 a1;rcases bz:(jq r size).2 with _|_
  .rw[bz]at h z;simp only[bF]at z;simp(maxSteps:=20000000) -dsimp (disch:=first|omega|(simp only[rH]<;>omega)|fail) only[↓fk,rQ,N1,sevalprocAttr,tyA,f2,f6,f7,ho,h,I,a1,z12];exact y9 ⟨f2,.inr ⟨rfl,z.symm,rfl,i9 a5,((hS.trans J).wk oM).trans (d9.put lR)⟩⟩
  .obtain⟨y1,y2,y3,a6,_,a4⟩:=b0 bz;rw[bz]at h z;simp only[jd]at z;have b9:2*mxL r.size+1<=401:=oM;refine J6 f6 f7 ho h I @wrap_small ?_;exact d8 k oM ⟨size+1,_,y1,y2,y3,oM,oM,oM,f2,f6,rfl,a6,hS.trans J,a4,z⟩
def jg(P:Program)(e:Env)(H:d7)(a:Nat)(t:TypeId)(u:Nat):[ResultVar.cell a t,.tmp u].mapM (P2 P e H)=(ld P t H (e.g a)).map fun v=>[v,e.g u]:=by
 simp only[KW,aaX,P2];cases ld P t H (e.g a)<;>rfl
def IQ(q:Q)(D:OkD false q):∀p∈(C7 q).progs,∃x,nQ x<=nQ q/\p=C9 x:=by
 obtain⟨O,E⟩:=eA _ false q lR D;have key:∀(l:List Q)(s:StD),(∀x∈l,nQ x<=nQ q)->(∀p∈s.progs,∃x,nQ x<=nQ q/\p=C9 x)->∀p∈(l.foldl L0 s).progs,∃x,nQ x<=nQ q/\p=C9 x:=by
  intro l;induction l with
  |nil=>intro s _ h;exact h
  |cons x l J=>
   intro s z h;rw[sd];refine J (L0 s x) (fun y I=>z y (by simp [I])) ?_;rw[L0];split
   .exact h
   .intro p u;rcases gd.1 u with u|u
    .exact h p u
    .exact⟨x,z x sM,by simpa using u⟩
 exact key (inQ false q) ⟨[],[],[],C9 q⟩ (fun x z=>(E x z).2) sM
def Gx(q:Q):(C9 q).ed.length<=4*nQ q/\(C9 q).ts.length<=nQ q:=by
 have:=M6 q ⟨0,0,0,[],[]⟩;unfold cg at this;simp only[C9];simp only[yd]at this;omega
def SlF.off{H:d7}{F:Nat->Prop}{sz:Nat}{α:Type}{R R':LV->α->Prop}{v:aa3}{l:List α}{b:Nat}{c:LV}{own:Bool}(h:SlF H F sz R v l)(W:H.g b=some (.cells c own 1))(z:sz≠1)(S:∀cs a,R cs a->R' cs a):SlF H (fun j=>F j/\j≠b) sz R' v l:=by
 rcases h with h|⟨D,o,E,X,h⟩
 .exact .inl h
 .refine .inr ⟨D,o,E,X,h.imp id fun⟨cs,ow,I,u,J,O⟩=>⟨cs,ow,⟨I,fun q=>?_⟩,u,J,fun i a U=>S _ _ (O i a U)⟩⟩;subst q;rw[W]at u;cases u;exact z rfl
def fH(H:d7)(F:Nat->Prop)(Rp Rt:LV->Q->Prop)(row:LV)(r:ReD):Prop:=∃rs vl w1 w2 w3,row=rs++[vl,w1,w2,w3]/\StF H F Rp Rt rs r.strat/\SlF H F 5 (EvF H F) vl r.labels/\SlF H F 3 (y7 soE) w1 r.sorts/\SlF H F 1 (y7 inE) w2 r.size/\SlF H F 3 (y7 hoE) w3 r.how
def Uj(H:d7)(lo K:Nat)(n:Nat)(res:Option ReD)(v:aa3)(H':d7):Prop:=∃row er,v= .tuple #[.agg row.toArray,iV er]/\d9 H.n H H'/\((res=none/\row=z12/\er=13)\/∃r,res=some r/\er=0/\WfR r n/\fH H' (· <H'.n) (QR H lo K false) (QR H lo K true) row r)
def jx(H:d7)(j:Nat):Prop:=H.n<=j\/∀cs own,H.g j≠some (.cells cs own 1)
def SlF.offN{H0 H:d7}{F:Nat->Prop}{sz:Nat}{α:Type}{R R':LV->α->Prop}{v:aa3}{l:List α}(h:SlF H F sz R v l)(W:d9 H0.n H0 H)(z:sz≠1)(U:∀cs a,R cs a->R' cs a):SlF H (fun j=>F j/\jx H0 j) sz R' v l:=by
 rcases h with h|⟨u,o,I,hv,h⟩
 .exact .inl h
 .refine .inr ⟨u,o,I,hv,h.imp id fun⟨cs,ow,J,D,O,S⟩=>⟨cs,ow,⟨J,?_⟩,D,O,fun i a X=>U _ _ (S i a X)⟩⟩;by_cases hb:H0.n<=u
  .exact .inl hb
  .refine .inr fun cs' E q=>z ?_;rw[<-W.g u oM,D]at q;cases q;rfl
def Uk(H:d7)(lo K:Nat)(n:Nat)(res:Option ReD)(v:aa3)(H':d7):Prop:=∃row er,v= .tuple #[.agg row.toArray,iV er]/\d9 H.n H H'/\((res=none/\row=z12/\er=13)\/∃r,res=some r/\er=0/\WfR r n/\fH H' (fun j=>j<H'.n/\jx H j) (QR H lo K false) (QR H lo K true) row r)
def fY(q:Q):Option ReD:=match Y4 (spQ q)with
 |none=>none
 |some l=>pd 401 ⟨C7 q,l,[soZ],[0],[(0,0,0)]⟩ 1
def yb(q:Q){l:List EvD}(h:Y4 (spQ q)=some l):l.length<=24/\∀e∈l,e.attrs.length<=1000000:=by
 obtain⟨X,z2,E,z4,z5⟩:=nZ q;have z:=iU (spQ q) E;rw[z]at h;split at h
 .cases h
 .rename_i J;cases h;obtain⟨c1,c2,U,W,I⟩:=rN J E;refine⟨I,fun e u=>?_⟩;have key:∀(l:List (NmQ×List aa2))(e0 e:EvD),e∈U9 l e0->e.attrs.length<=e0.attrs.length+l.length:=by
   intro l;induction l with
   |nil=>intro e0 e u;rw[U9,mj]at u;subst u;simp
   |cons x l D=>
    intro e0 e u;rw[U9,gd]at u;rcases u with u|u
    .have:=D e0 e u;rw[kO];omega
    .obtain⟨v,_,S⟩:=xB.1 u;have:=D _ e S;simp only[atV,dx,vV]at this;rw[kO];omega
  rw[lH,gd]at u;rcases u with u|u
  .obtain⟨n,_,O⟩:=xB.1 u;have:=key _ _ _ O;rw[MQ]at this;simp only[am,yd]at this;omega
  .obtain⟨t,_,rfl⟩:=wC.1 u;simp [dY]
def Fl(K:Nat)(H:d7)(lo:Nat)(cs:LV)(q:Q)(n2:lo<=H.n)(hr:QR H lo K false cs q)(b9:OkD false q)(g4:nQ q<=400):
  Ret (CL prog gR 27 [.agg cs.toArray] H) H (Uk H lo K (A5 (C7 q).progs).toNat (fY q)):=by
 have ac:=I6 hr;have ldc:=Q6 hr;have l0:=hr.len;simp only[qSz,bF]at l0;rw[l0]at ldc;obtain⟨H0,b2,n0,-⟩:=pushF H (bC cs 1);obtain⟨H1,a6⟩:=eY (H0.push (bC z12 1));have n1:H1.n=H.n+2:=by rw[a6,i4,n0]
 have b4:d9 H.n H H1:=by rw[a6,b2];exact(d9.first H _).trans (d9.push (by rw[i4];exact aaq _))
 have g1:H1.g H.n=cE cs 1:=by rw[a6,j5 oM,b2];exact j6
 have g2:H1.g (H.n+1)=cE z12 1:=by rw[a6,<-n0];exact j6
 obtain⟨vl,n3,Hl,c4,b8,v,er,rfl,g5,O⟩:=(Lp H1 lo K cs q oM (hr.mono (fun j D=>b4.g j oM) lR) b9 oM).one;have nl:=O.n;have i0:=(O.g H.n oM).trans g1;have c7:=(O.g (H.n+1) oM).trans g2;have b6:=a6;have d0:=c7;simp only[z12]at b6 d0;rw[i7 WM rfl _ sM];unfold fY;rcases g5 with⟨hn,rfl,rfl⟩|⟨l,hl,rfl,hv⟩
 .rw[hn];obtain⟨H2,c8⟩:=eY (Hl.put (H.n+1) (bC z12 1));have c2:H2.g (H.n+1)=cE z12 1:=by rw[c8];exact i9 oM
  have l4:H2.low=min Hl.low (H.n+1):=by rw[c8,A9]
  have j3:d9 H.n H H2:=by rw[c8];exact(b4.trans (O.wk oM)).trans (d9.put oM)
  have d1:=c8;simp only[z12]at d1 c2;refine J12 ac b2.symm n0 b6.symm g1 ldc c4 b8 d0 d1.symm c2 @jg ?_;refine E1 (fun _ _=>?_) ?_
  .exact⟨z12,13,rfl,d9.refl _ _,.inl ⟨rfl,rfl,rfl⟩⟩
  .exact⟨z12,13,rfl,j3.ret (by have:=O.lowAll H.n oM (by rw[a6,b2];exact lR);omega),.inl ⟨rfl,rfl,rfl⟩⟩
 .rw[hl];obtain⟨m9,j4⟩:=yb q hl;obtain⟨vs,n4,u,f5,e8,rs,rfl,d4,b5⟩:=(Ek K Hl lo cs q oM (hr.mono (fun j D=>by rw[O.g j oM,b4.g j oM]) lR) b9 oM).one;have nm:=b5.n;have i1:=(b5.g (H.n+1) oM).trans c7;obtain⟨sa,sc,rfl⟩:=hv.slice;obtain⟨pa,pc,ga,gc,xa,xc,ea,ec,ta,tc,J,_⟩:=I0 d4;have a9:rs.length=8:=by rw[J];rfl
  have h6:rs.all oC=true:=by rw[J];rfl
  obtain⟨M1,b7,m1,-⟩:=pushE u (bC (soE soZ) 3);obtain⟨M2,a7⟩:=eY (M1.push (bC (inE 0) 1));have m2:M2.n=u.n+2:=by rw[a7,i4,m1]
  obtain⟨M3,X⟩:=eY (M2.push (.cells (hoE (0,0,0)) true 3));have m3:M3.n=u.n+3:=by rw[X,i4,m2]
  obtain⟨M4,S⟩:=eY (M3.push (bC z12 1));have m4:M4.n=u.n+4:=by rw[S,i4,m3]
  have gz:M4.g (u.n+3)=cE z12 1:=by rw[S,<-m3];exact j6
  have m0:∀Hx:d7,bsA prog (some 58) Hx 1 [(0,.agg (soE soZ).toArray)]=some (sL Hx.n 1 1,Hx.push (bC (soE soZ) 3)):=fun Hx=>by simp only[E4,IW,E5];rfl
  have h7:∀Hx:d7,bsA prog (some 3) Hx 1 [(0,iV 0)]=some (sL Hx.n 1 1,Hx.push (bC (inE 0) 1)):=fun Hx=>by simp only[E4,ty3,E5];rfl
  have h9:∀Hx:d7,bsA prog (some 84) Hx 1 [(0,.agg (hoE (0,0,0)).toArray)]=some (sL Hx.n 1 1,Hx.push (.cells (hoE (0,0,0)) true 3)):=fun Hx=>by simp only[E4,IX,E5];rfl
  obtain⟨b0,a5⟩:=eY (rs++[.slice sa l.length sc,sL u.n 1 1,sL (u.n+1) 1 1,sL (u.n+2) 1 1]);obtain⟨r0,e9⟩:=eY (rs++[nS,nS,nS,nS]:LV);obtain⟨r1,f0⟩:=eY (rs++[.slice sa l.length sc,nS,nS,nS]:LV);obtain⟨r2,f1⟩:=eY (rs++[.slice sa l.length sc,sL u.n 1 1,nS,nS]:LV);obtain⟨r3,f4⟩:=eY (rs++[.slice sa l.length sc,sL u.n 1 1,sL (u.n+1) 1 1,nS]:LV);have k5:splice [nS,nS,nS,iV 0,iV 0,iV 0,nS,nS,nS,nS,nS,nS] 0 rs=r0:=by rw[e9,J];rfl
  have k6:splice r0 8 [.slice sa l.length sc]=r1:=by rw[e9,f0,J];rfl
  have k7:splice r1 9 [sL u.n 1 1]=r2:=by rw[f0,f1,J];rfl
  have k8:splice r2 10 [sL (u.n+1) 1 1]=r3:=by rw[f1,f4,J];rfl
  have k9:splice r3 11 [sL (u.n+2) 1 1]=b0:=by rw[f4,a5,J];rfl
  have k1:r0.length=12:=by rw[e9];simp [a9]
  have k2:r1.length=12:=by rw[f0];simp [a9]
  have k3:r2.length=12:=by rw[f1];simp [a9]
  have k4:r3.length=12:=by rw[f4];simp [a9]
  have h4:b0.length=12:=by rw[a5];simp [a9]
  have f8:b0.all oC=true:=by rw[a5,J];rfl
  have l1:splice [nS,nS,nS,iV 0,iV 0,iV 0,nS,nS,nS,nS,nS,nS] 0 b0=b0:=by rw[a5,J];rfl
  obtain⟨M5,U⟩:=eY (M4.put (u.n+3) (bC b0 1));have m5:M5.n=u.n+4:=by rw[U,j9,m4]
  have g3:M1=u.push (bC [.bool false,.bool false,.string eB] 3):=b7;have h0:H.n<=Hl.low:=O.lowAll H.n oM (by rw[a6,b2];exact lR);have l5:H.n<=u.low:=b5.lowAll H.n oM h0;have d5:H.n<=M5.low:=by
   have e4:M4.low=u.low:=by rw[S,X,a7,b7];rfl
   rw[U,A9,e4];omega
  have d2:=S;have g0:=gz;simp only[z12]at d2 g0;refine J30 ac b2.symm n0 b6.symm g1 i0 ldc c4 b8 f5 e8 h7 h9 g3.symm m1 a7.symm m2 X.symm m3 d2.symm g0 a9 h6 k5 (aI k6 k7) (aI k8 k9) (aI k1 k2) (aI k3 k4) (aI h4 f8) (aI l1 U.symm) ?_;have sG:∀j,j<u.n->M5.g j=u.g j:=fun j D=>by rw[U,j7 oM,S,j5 oM,X,j5 oM,a7,j5 oM,b7,j5 oM]
  have i2:M5.g u.n=cE (soE soZ) 3:=by rw[U,j7 oM,S,j5 oM,X,j5 oM,a7,j5 oM,b7];exact j6
  have i3:M5.g (u.n+1)=cE (inE 0) 1:=by rw[U,j7 oM,S,j5 oM,X,j5 oM,a7,<-m1];exact j6
  have j0:M5.g (u.n+2)=some (.cells (hoE (0,0,0)) true 3):=by rw[U,j7 oM,S,j5 oM,X,<-m2];exact j6
  have j1:M5.g (u.n+3)=cE b0 1:=by rw[U];exact i9 oM
  have h5:∀j,j<lo->Hl.g j=H.g j:=fun j D=>by rw[O.g j oM,b4.g j oM]
  obtain⟨c9,c0⟩:=eY (⟨C7 q,l,[soZ],[0],[(0,0,0)]⟩:ReD);have d3:d9 H.n H Hl:=b4.trans (O.wk oM);have k0:SlF Hl (fun j=>(j<Hl.n/\j≠H.n+1)/\jx H j) 5 (EvF Hl (fun j=>(j<Hl.n/\j≠H.n+1)/\jx H j)) (.slice sa l.length sc) l:=(hv.off c7 oM fun cs e⟨w,h1,h2⟩=>⟨w,h1,(h2.off c7 oM fun _ _ h=>h).offN d3 oM fun _ _ h=>h⟩).offN d3 oM fun _ _ h=>h;have j2:Z3 (QR H lo K false) (QR H lo K true) M5 (u.n+3) u.n (fun j=>(j<u.n/\j≠H.n+1)/\jx H j) c9 rs (.slice sa l.length sc) (sL u.n 1 1) (sL (u.n+1) 1 1) (sL (u.n+2) 1 1):=by
   rw[c0];refine⟨by rw[j1,a5],d4.mono (fun j D=>sG j D.2) (fun j D=>⟨⟨D.2,oM⟩,.inl oM⟩) (fun _ _ h=>h.mono (fun j D=>(h5 j D).symm) lR) (fun _ _ h=>h.mono (fun j D=>(h5 j D).symm) lR),
    k0.mono (fun j D=>by rw[sG j oM];exact b5.g j D.1.1) (fun j D=>⟨⟨oM,D.1.2⟩,D.2⟩) (fun _ _ h=>A3 _ _ _ _ _ _ h (fun j D=>by rw[sG j oM];exact b5.g j D.1.1) (fun j D=>⟨⟨oM,D.1.2⟩,D.2⟩)),
    ⟨_,.inr ⟨u.n,1,rfl,i2,lR,rfl⟩,F1.one rfl rfl⟩,⟨_,.inr ⟨u.n+1,1,rfl,i3,oM,rfl⟩,F1.one rfl rfl⟩,⟨_,.inr ⟨u.n+2,1,rfl,j0,oM,rfl⟩,F1.one rfl rfl⟩,?_,fun j D=>⟨oM,oM,?_⟩,oM,?_⟩
   .intro i j a b ha hb m7 x hx hy;have hi:i<3:=by have:=(gS ha).1;simpa using this
    have D:j<3:=by have:=(gS hb).1;simpa using this
    have:i=0\/i=1\/i=2:=oM;have:j=0\/j=1\/j=2:=oM;rcases ‹i=0\/i=1\/i=2› with rfl|rfl|rfl<;>rcases ‹j=0\/j=1\/j=2› with rfl|rfl|rfl<;>simp at ha hb<;>subst ha hb<;>rw[P3]at hx hy<;>omega
   .intro w hw;simp only[nd,Cy,Sa]at hw;rcases hw with rfl|rfl|rfl<;>rw[P3]<;>omega
   .intro w hw;simp only[nd,Cy,Sa]at hw;rcases hw with rfl|rfl|rfl<;>rw[P3]<;>omega
  have g8:WfR c9 (A5 (C7 q).progs).toNat:=by
   rw[c0];have h1:=wT q b9 oM;refine⟨by show(((A5 (C7 q).progs).toNat:Nat):Int)=A5 (C7 q).progs;omega,wU q b9 g4,fun x hx=>?_,j4,fun p hp=>?_,by simp,rfl,rfl,by show l.length<=1000;omega,by simp,fun x hx=>?_⟩
   .have:x=soZ:=by simpa using hx
    subst this;intro h;cases h
   .obtain⟨x,hx,rfl⟩:=IQ q b9 p hp;have h2:=gY x;have h3:=Gx x;omega
   .have:x=0:=by simpa using hx
    subst this;omega
  have e6:d9 H.n H M5:=by
   rw[U,S,X,a7,b7];exact(b4.trans ((O.wk oM).trans (b5.wk oM))).trans (((((d9.push oM).trans (d9.push (by rw[i4];omega))).trans (d9.push (by rw[i4,i4];omega))).trans (d9.push (by rw[i4,i4,i4];omega))).trans (d9.put oM))
  have f9:M5.g (H.n+1)=cE z12 1:=(sG _ oM).trans i1;rw[<-c0];refine i8 (F:=fun z=>Ret (t6 prog [.cell 2 47,.tmp 3] H (t7 (inBlock 0 z) _)) H _) (DJ H lo K (u.n+3) u.n (fun j=>(j<u.n/\j≠H.n+1)/\jx H j) rs (.slice sa l.length sc) M5 (H.n+1) (A5 (C7 q).progs).toNat oM (fun j D=>e6.g j oM) oM f9 (pd 401 c9 1) 401 _ _ ⟨1,c9,_,_,_,rfl,oM,oM,rfl,rfl,rfl,j2,d9.refl _ _,g8,rfl⟩) ?_;rintro o' e' H' ⟨f2,(⟨ho,f6,a8,r,x1,x2,x3,b1,hR,g7⟩|⟨ho,b1,f3,c5,a8⟩)⟩
  .obtain⟨E,I⟩:=eY (rs++[.slice sa l.length sc,x1,x2,x3]);have gr:=hR.g;rw[<-I]at gr;obtain⟨a1,c1,e1⟩:=hR.so.slice;obtain⟨a2,c2,e2⟩:=hR.sz.slice;obtain⟨a3,c3,e3⟩:=hR.ho.slice;have f7:E.length=12:=by rw[I];simp [a9]
   have e5:E.all oC=true:=by rw[I,J,e1,e2,e3];rfl
   have g9:ldC (some true) (some 12) 0 E=some (.agg E.toArray):=by rw[iY _ _ _ oM,lP,kC oM]
   have l3:splice [nS,nS,nS,iV 0,iV 0,iV 0,nS,nS,nS,nS,nS,nS] 0 E=E:=by rw[I,J];rfl
   have c5:H'.g (H.n+1)=cE z12 1:=(a8.g _ oM).trans f9;have h8:=u6 c5;obtain⟨H6,b3⟩:=eY (H'.put (H.n+1) (bC E 1));have c6:H6.g (H.n+1)=cE E 1:=by rw[b3];exact i9 h8
   have d6:∀j,j≠H.n+1->H6.g j=H'.g j:=fun j D=>by rw[b3];exact j7 (fun q=>D q.symm)
   have n6:H6.n=H'.n:=by rw[b3,j9]
   have l6:H6.low=min H'.low (H.n+1):=by rw[b3,A9]
   have n7:=a8.n;have W:=c5;simp only[z12]at W;refine J12 ho f2 f6 gr W @jg f7 e5 g9 l3 b3.symm c6 ?_;have e7:d9 H.n H H6:=by rw[b3];exact(e6.trans (a8.wk oM)).trans (d9.put oM)
   have a4:Z3 (QR H lo K false) (QR H lo K true) H6 (u.n+3) u.n (fun j=>(j<u.n/\j≠H.n+1)/\jx H j) r rs (.slice sa l.length sc) x1 x2 x3:=by
    exact hR.side (b:=H.n+1) ⟨oM,fun q=>q.1.2 rfl,fun w hw q=>by have:=(hR.inl hw q).1;omega⟩ oM d6
   refine E1 (fun g6 _=>?_) ?_
   .exfalso
    have m8:=g7.l0;obtain⟨l8,m6,rfl⟩:∃a c,x1= .slice (some a) r.sorts.length c:=by
     obtain⟨_,nb,o,_,_,_,_,_,q,_⟩:=(e1▸hR.so.sl:SlI H' H'.n 3 (y7 soE) (.slice a1 r.sorts.length c1) r.sorts).row (i:=0) oM;exact⟨_,_,by rw[e1,q]⟩
    simp only[Q4,I,sS,na1,Iq,cA]at g6;simp [na0]at g6
   .refine⟨E,0,rfl,e7.ret (oN (a8.lowAll H.n oM d5)),.inr ⟨r,b1,rfl,g7,rs,_,x1,x2,x3,I,?_⟩⟩;have hx:∀j,((j<u.n/\j≠H.n+1)/\jx H j)->(j<H6.n/\jx H j):=fun j D=>⟨oM,D.2⟩
    have hy:∀j,(u.n<=j/\j<H6.n)->(j<H6.n/\jx H j):=fun j D=>⟨D.2,.inl oM⟩
    refine⟨a4.st.mono (fun _ _=>rfl) hx iF iF,a4.lb.mono (fun _ _=>rfl) hx (fun _ _ h=>A3 _ _ _ _ _ _ h (fun _ _=>rfl) hx),a4.so.frz (fun b hb=>hy b (a4.so.lt hb)),a4.sz.frz (fun b hb=>hy b (a4.sz.lt hb)),a4.ho.frz (fun b hb=>hy b (a4.ho.lt hb))⟩
  .have W:=c5;simp only[z12]at W;refine J5 ho f2 f3 W @jg ?_;have e7:d9 H.n H H':=e6.trans (a8.wk oM);refine E1 (fun _ _=>?_) ?_
   .exact⟨z12,13,rfl,d9.refl _ _,.inl ⟨b1,rfl,rfl⟩⟩
   .exact⟨z12,13,rfl,e7.ret (a8.lowAll H.n oM d5),.inl ⟨b1,rfl,rfl⟩⟩
def Tb(K:Nat)(H:d7)(lo:Nat)(cs:LV)(q:Q)(E:lo<=H.n)(hr:QR H lo K false cs q)(I:OkD false q)(z:nQ q<=400):
  Ret (CL prog gR 27 [.agg cs.toArray] H) H (Uj H lo K (A5 (C7 q).progs).toNat (fY q)):=by
 obtain⟨v,h,H',h1,h2,J,er,h3,h4,D⟩:=Fl K H lo cs q E hr I z;refine⟨v,h,H',h1,h2,J,er,h3,h4,?_⟩;rcases D with D|⟨r,O,S,U,rs,vl,w1,w2,w3,W,X,b2,b3,b4,b5⟩
 .exact .inl D
 .exact .inr ⟨r,O,S,U,rs,vl,w1,w2,w3,W,X.mono (fun _ _=>rfl) (fun j u=>u.1) iF iF,b2.mono (fun _ _=>rfl) (fun j u=>u.1) (fun _ _ q=>A3 _ _ _ _ _ _ q (fun _ _=>rfl) (fun j u=>u.1)),b3.mono (fun _ _=>rfl) (fun j u=>u.1) iF,b4.mono (fun _ _=>rfl) (fun j u=>u.1) iF,b5.mono (fun _ _=>rfl) (fun j u=>u.1) iF⟩
def Uh(r:ReD)(k:Nat):Prop:=∃(i a b:Nat)(e:EvD),r.how[k]?=some ((i:Int),(a:Int),(b:Int))/\r.labels[i]?=some e/\a<k/\b<k/\r.size.getD k 0=r.size.getD a 0+r.size.getD b 0+1/\bG r.sorts e.kind a b=true/\r.sorts[k]?=some (I9 r.strat e (r.sorts.getD a soZ) (r.sorts.getD b soZ))
structure E0(r:ReD)(m:Int):Prop where
 l2:r.size.length=r.sorts.length
 l3:r.how.length=r.sorts.length
 s0:r.sorts[0]?=some soZ
 z0:r.size[0]?=some 0
 from_:∀k,1<=k->k<r.sorts.length->Uh r k
 rise:∀k,1<=k->k<r.sorts.length->r.size.getD (k-1) 0<=r.size.getD k 0
 apart:∀(i j:Nat)(x y:SoD),i<j->r.sorts[i]?=some x->r.sorts[j]?=some y->bZ y x=false
 most:∀k,k<r.sorts.length->r.size.getD k 0<=m
 l1:r.sorts.length<=25
def E0.later{r:ReD}{m u:Int}(h:E0 r m)(D:m<=u):E0 r u:=⟨h.l2,h.l3,h.s0,h.z0,h.from_,h.rise,h.apart,fun k z=>Int.le_trans (h.most k z) D,h.l1⟩
def V0{α:Type}(l:List α)(x d:α)(k:Nat)(h:k<l.length):(l++[x]).getD k d=l.getD k d:=by
 rw[dE,dE,gk h]
def dC{α:Type}(l:List α)(x d:α):(l++[x]).getD l.length d=x:=by
 rw[dE,ns lR];simp
def AP{z:List SoD}{x:SoD}{u f n:Int}(h:bG z u f n=true):bG (z++[x]) u f n=true:=by
 simp only[bG,knB,cA,eT,dx,vV]at h ⊢;obtain⟨⟨⟨D,J⟩,E,O⟩,I⟩:=h;refine⟨⟨⟨D,oM⟩,E,oM⟩,?_⟩;rw[V0 _ _ _ _ oM];exact I
def E0.add{r:ReD}{size:Int}(h:E0 r size){i a b:Nat}{e:EvD}(hl:r.labels[i]?=some e)(ha:a<r.sorts.length)(hb:b<r.sorts.length)(hs:size=r.size.getD a 0+r.size.getD b 0+1)(hm:bG r.sorts e.kind a b=true):
  E0 (bW r (I9 r.strat e (r.sorts.getD a soZ) (r.sorts.getD b soZ)) size (i,a,b)).1 size:=by
 obtain⟨x,hx⟩:=eY (I9 r.strat e (r.sorts.getD a soZ) (r.sorts.getD b soZ));rw[<-hx];unfold bW;split
 .exact h
 .rename_i a2;split
  .exact h
  .rename_i a3;simp only[xj,eT,aaz]at a3;have E:(r.sorts++[x]).length=r.sorts.length+1:=sM;have U:∀y∈r.sorts,bZ x y=false:=fun y hy=>by
    cases hq:bZ x y with
    |false=>rfl
    |true=>exact absurd (AH.2 ⟨y,hy,hq⟩) a2
   have l0:0<r.sorts.length:=oM;have l2:=h.l2;have l3:=h.l3;refine⟨by simp [h.l2],by simp [h.l3],by rw[gk l0];exact h.s0,by rw[gk oM];exact h.z0,fun k O I=>?_,fun k O I=>?_,fun i j u v X hu J=>?_,fun k O=>?_,by show(r.sorts++[x]).length<=25;omega⟩
   .have S:k<r.sorts.length+1:=by rw[<-E];exact I
    by_cases D:k<r.sorts.length
    .obtain⟨i',a',W,e',f1,f2,f3,f4,f5,f6,f7⟩:=h.from_ k O D;refine⟨i',a',W,e',by rw[gk oM];exact f1,f2,f3,f4,?_,AP f6,?_⟩
     .show(r.size++[size]).getD k 0=(r.size++[size]).getD a' 0+(r.size++[size]).getD W 0+1;rw[V0 _ _ _ _ oM,V0 _ _ _ _ oM,V0 _ _ _ _ oM];exact f5
     .show(r.sorts++[x])[k]?=some (I9 r.strat e' ((r.sorts++[x]).getD a' soZ) ((r.sorts++[x]).getD W soZ));rw[gk D,V0 _ _ _ _ oM,V0 _ _ _ _ oM];exact f7
    .have z:k=r.sorts.length:=oM;subst z;refine⟨i,a,b,e,by rw[ns oM,l3,Uw];rfl,hl,ha,hb,?_,AP hm,?_⟩
     .show(r.size++[size]).getD r.sorts.length 0=(r.size++[size]).getD a 0+(r.size++[size]).getD b 0+1;have e1:(r.size++[size]).getD r.sorts.length 0=size:=by rw[<-l2];exact dC _ _ _
      rw[e1,V0 _ _ _ a oM,V0 _ _ _ b oM];exact hs
     .show(r.sorts++[x])[r.sorts.length]?=some (I9 r.strat e ((r.sorts++[x]).getD a soZ) ((r.sorts++[x]).getD b soZ));rw[ns lR,Uw,V0 _ _ _ _ ha,V0 _ _ _ _ hb,<-hx];rfl
   .have S:k<r.sorts.length+1:=by rw[<-E];exact I
    show(r.size++[size]).getD (k-1) 0<=(r.size++[size]).getD k 0;rw[V0 _ _ _ _ oM];by_cases D:k<r.sorts.length
    .rw[V0 _ _ _ _ oM];exact h.rise k O D
    .have z:k=r.size.length:=oM;rw[z,dC];exact h.most _ oM
   .have hj:=(gS J).1;simp only[dx,vV]at hj;rw[gk oM]at hu;by_cases a1:j<r.sorts.length
    .rw[gk a1]at J;exact h.apart i j u v X hu J
    .rw[ns oM]at J;have:j-r.sorts.length=0:=oM;rw[this]at J;simp at J;subst J;exact U u (mG hu)
   .have a4:k<r.sorts.length+1:=by rw[<-E];exact O
    show(r.size++[size]).getD k 0<=size;by_cases D:k<r.sorts.length
    .rw[V0 _ _ _ _ oM];exact h.most k D
    .have z:k=r.size.length:=oM;rw[z,dC];exact JE _
def U0{α:Type}{l m:List α}(h:l<+:m){k:Nat}(u:k<l.length)(d:α):m.getD k d=l.getD k d:=by
 obtain⟨t,rfl⟩:=h;rw[dE,dE,gk u]
def jN{size:Int}{a b:Nat}:∀(l:List EvD)(i:Nat)(r:ReD),E0 r size->r.labels.drop i=l->a<r.sorts.length->b<r.sorts.length->size=r.size.getD a 0+r.size.getD b 0+1->E0 (S6 size a b l i r).1 size/\r.size<+:(S6 size a b l i r).1.size/\(S6 size a b l i r).1.labels=r.labels/\(S6 size a b l i r).1.strat=r.strat
 |[],i,r,h,_,_,_,_=>⟨h,Fb,rfl,rfl⟩
 |e::l,i,r,h,hd,ha,hb,hs=>by
  have I:r.labels[i]?=some e:=by rw[<-List.head?_drop,hd];rfl
  have u:r.labels.drop (i+1)=l:=by rw[<-List.tail_drop,hd];rfl
  rw[S6];have X:(a:Int).toNat=a:=tN a;have tb:(b:Int).toNat=b:=tN b;rw[X,tb];split
  .rename_i J;have D:=h.add I ha hb hs J;obtain⟨p1,p2,z,E⟩:=iE r (I9 r.strat e (r.sorts.getD a soZ) (r.sorts.getD b soZ)) size (i,a,b);have l2:=h.l2;split
   .obtain⟨O,S,U,W⟩:=jN l (i+1) _ D (by rw[p2];exact u) (sW ha E.length_le) (sW hb E.length_le) (by rw[U0 z oM,U0 z oM];exact hs);exact⟨O,z.trans S,U.trans p2,W.trans p1⟩
   .exact⟨D,z,p2,p1⟩
  .exact jN l (i+1) r h u ha hb hs
def pV{size:Int}{m:Nat}{s0:List Int}:∀(L:List (Nat×Nat))(r:ReD),E0 r size->(∀x∈L,x.1<m/\x.2<m/\size=s0.getD x.1 0+s0.getD x.2 0+1)->m<=s0.length->s0<+:r.size->E0 (aH size L r).1 size/\(aH size L r).1.labels=r.labels/\(aH size L r).1.strat=r.strat
 |[],r,h,_,_,_=>⟨h,rfl,rfl⟩
 |x::L,r,h,hL,hm,hs=>by
  obtain⟨X,h2,E⟩:=hL x sM;have I:=hs.length_le;have l2:=h.l2;obtain⟨u,W,z,D⟩:=jN r.labels 0 r h (by rw[lP]) (show x.1<r.sorts.length from oM) (show x.2<r.sorts.length from oM) (by rw[U0 hs oM,U0 hs oM];exact E);rw[aH];split
  .obtain⟨O,S,U⟩:=pV L _ u (fun y J=>hL y (by simp [J])) hm (hs.trans W);exact⟨O,S.trans z,U.trans D⟩
  .exact⟨u,z,D⟩
def Au{r:ReD}{size:Int}(h:E0 r size):E0 (jq r size).1 size/\(jq r size).1.labels=r.labels/\(jq r size).1.strat=r.strat:=by
 have l2:=h.l2;refine pV (m:=r.sorts.length) (s0:=r.size) _ r h (fun x D=>?_) oM Fb;unfold X1 at D;obtain⟨a,J,z⟩:=xB.1 D;unfold lj at z;obtain⟨b,u,rfl⟩:=wC.1 z;obtain⟨E,I⟩:=He.1 u;exact⟨vK.1 J,vK.1 E,by simpa using (dT I).symm⟩
def tm:∀(k:Nat)(r:ReD)(size:Int){u:ReD},E0 r size->pd k r size=some u->(∃m,E0 u m)/\u.labels=r.labels/\u.strat=r.strat
 |0,r,size,u,h,hr=>by rw[pd]at hr;cases hr;exact⟨⟨_,h⟩,rfl,rfl⟩
 |k+1,r,size,u,h,hr=>by
  rw[pd]at hr;split at hr
  .split at hr
   .obtain⟨I,J,O⟩:=Au h;obtain⟨z,D,E⟩:=tm k _ (size+1) (I.later oM) hr;exact⟨z,D.trans J,E.trans O⟩
   .cases hr
  .cases hr;exact⟨⟨_,h⟩,rfl,rfl⟩
def dR{q:Q}{r:ReD}(h:fY q=some r):(∃m,E0 r m)/\r.strat=C7 q/\∃l,Y4 (spQ q)=some l/\r.labels=l:=by
 unfold fY at h;split at h
 .cases h
 .rename_i l I;obtain⟨O,S,U⟩:=tm 401 ⟨C7 q,l,[soZ],[0],[(0,0,0)]⟩ 1 ⟨rfl,rfl,rfl,rfl,fun k z u=>by simp at u;omega,fun k z u=>by simp at u;omega,fun i j x y D W J=>by
   have:=(gS J).1;simp at this;omega,fun k E=>by
   have:k=0:=by simpa using E
   subst this;show(0:Int)<=1;omega,by simp⟩ h
  exact⟨O,U,l,I,S⟩
def SlO(H:d7)(F:Nat->Prop)(sz:Nat){α:Type}(R:LV->α->Prop)(v:aa3)(l:List α):Prop:=
 (v=nS/\l=[])\/
 ∃b o c,v= .slice (some ⟨b,o,none⟩) l.length c/\
  (l=[]\/∃cs,F b/\H.g b=some (.cells cs true sz)/\o+l.length*sz<=cs.length/\∀(i:Nat) a,l[i]?=some a->R ((cs.drop (o+i*sz)).take sz) a)
def SlO.mono{H H':d7}{F F':Nat->Prop}{sz:Nat}{α:Type}{R:LV->α->Prop}{v:aa3}{l:List α}(h:SlO H F sz R v l)(I:∀j,F j->H'.g j=H.g j) (E:∀j,F j->F' j):SlO H' F' sz R v l:=by
 rcases h with h|⟨b,o,c,J,h⟩
 .exact .inl h
 .exact .inr ⟨b,o,c,J,h.imp id fun⟨cs,u,z,D⟩=>⟨cs,E _ u,(I _ u).trans z,D⟩⟩
def SlO.slf{H:d7}{F:Nat->Prop}{sz:Nat}{α:Type}{R:LV->α->Prop}{v:aa3}{l:List α}(h:SlO H F sz R v l):SlF H F sz R v l:=by
 rcases h with h|⟨b,o,c,E,h⟩
 .exact .inl h
 .exact .inr ⟨b,o,c,E,h.imp id fun⟨cs,u,z,D⟩=>⟨cs,true,u,z,D⟩⟩
def u5.slo{H:d7}{lo sz:Nat}{α:Type}{R:LV->α->Prop}{v:aa3}{l:List α}(h:u5 H lo sz R v l):SlO H (fun j=>lo<=j/\j<H.n) sz R v l:=by
 obtain⟨cs,z,D⟩:=h;rcases z with⟨rfl,u,rfl⟩|⟨b,c,rfl,u,E,J⟩
 .exact .inl ⟨rfl,by simpa using u⟩
 .refine .inr ⟨b,0,c,rfl,.inr ⟨cs,⟨E,u6 u⟩,u,oM,fun i a I=>?_⟩⟩;rw[tV];exact D.2 i a I
def EvO(H:d7)(F:Nat->Prop)(cs:LV)(e:EvD):Prop:=∃v,cs=[iV e.kind,.string e.space,.string e.loc,v,.string e.text]/\SlO H F 3 (y7 atE) v e.attrs
def EvO.mono{H H':d7}{F F':Nat->Prop}{cs:LV}{e:EvD}(h:EvO H F cs e)(E:∀j,F j->H'.g j=H.g j) (D:∀j,F j->F' j):EvO H' F' cs e:=by
 obtain⟨v,u,z⟩:=h;exact⟨v,u,z.mono E D⟩
structure rq(lo:Nat)(H:d7)(v:aa3)(l:List EvD)(G:Nat->Prop):Prop where
 own:u5 H lo 5 (EvO H G) v l
 fr:∀j,G j->lo<=j/\j<H.n/\¬j8 v j
def rq.keep{lo:Nat}{H H':d7}{v:aa3}{l:List EvD}{G:Nat->Prop}(h:rq lo H v l G)(u:d9 H.n H H'):rq lo H' v l G:=by
 have:=u.n;exact⟨(h.own.imp fun cs e q=>q.mono (fun j z=>u.g j (h.fr j z).2.1) (fun _ h=>h)).keep u,fun j z=>by have:=h.fr j z;exact⟨this.1,oM,this.2.2⟩⟩
def rq.app{lo n:Nat}{H:d7}{v x:aa3}{l l2:List EvD}{G G2:Nat->Prop}(h:rq lo H v l G)(O:SlI H n 5 (EvO H G2) x l2)(E:∀j,G2 j->lo<=j/\j<H.n/\¬j8 v j) (hl:l.length+l2.length<=1000000) (I:lo<=H.n):
  Ret (C2 prog H [22,22] v x) H fun v' H'=>rq lo H' v' (l++l2) (fun j=>G j\/G2 j)/\Z2 lo v H v' H':=by
 have W:u5 H lo 5 (EvO H (fun j=>G j\/G2 j)) v l:=h.own.imp fun cs e q=>q.mono (fun _ _=>rfl) (fun _=> .inl);have X:SlI H n 5 (EvO H (fun j=>G j\/G2 j)) x l2:=O.mono (fun _ _=>rfl) lR (fun cs e q=>q.mono (fun _ _=>rfl) (fun _=> .inr));obtain⟨v',J,H',r1,r2,r3,D⟩:=W.appendF (P:=prog) (t:=22) (by exact gV.2.2.2.2.2.2) Q9.1 Q9.2.1 Q9.2.2.1 oM oM X oM I;have hn:=D.n;have u:∀j,(G j\/G2 j)->lo<=j/\j<H.n/\¬j8 v j:=fun j z=>z.elim (h.fr j) (E j);refine⟨v',J,H',r1,r2,⟨r3.imp fun cs e q=>q.mono (fun j z=>D.but j (u j z).2.1 (u j z).2.2) (fun _ h=>h),fun j z=>?_⟩,D⟩;obtain⟨S,k2,U⟩:=u j z;refine⟨S,oM,fun q=>?_⟩;rcases D.new j q with q|q
 .exact U q
 .omega
def S4:EvD:=⟨3,eB,eB,[],eB⟩
def R6(r:ReD):Nat->Int->List EvD
 |0,_=>[]
 |n+1,k=>if k<=0\/(r.sorts.length:Int)<=k then [] else
  match r.how[k.toNat]? with
  |some (i,a,b)=>match r.labels[i.toNat]? with
   |some e=>([e]++(if e.kind=1 then R6 r n a++[S4] else []))++R6 r n b
   |none=>[]
  |none=>[]
def fH.mono{H H':d7}{F F':Nat->Prop}{E I:LV->Q->Prop}{D:LV}{r:ReD}(h:fH H F E I D r)(z:∀j,F j->H'.g j=H.g j) (u:∀j,F j->F' j):fH H' F' E I D r:=by
 obtain⟨rs,vl,w1,w2,w3,J,O,S,U,W,X⟩:=h;exact⟨rs,vl,w1,w2,w3,J,O.mono z u iF iF,S.mono z u (fun _ _ q=>A3 _ _ _ _ _ _ q z u),U.mono z u iF,W.mono z u iF,X.mono z u iF⟩
def rq.low{lo:Nat}{H:d7}{v:aa3}{l:List EvD}{G:Nat->Prop}(h:rq lo H v l G)(n:Nat):rq lo ⟨H.bs,n⟩ v l G:=
 ⟨(h.own.imp fun cs e q=>q.mono (fun _ _=>rfl) (fun _ h=>h)).low n,h.fr⟩
def dQ:Option Int->List EvD->Option Int
 |p,[]=>p
 |_,e::l=>dQ (some e.kind) l
def R9:∀(h l2:List EvD)(p:Option Int)(d:Int),bGo p d (h++l2)=(bGo p d h&&bGo (dQ p h) (dep d h) l2)
 |[],l2,p,d=>by simp [bGo,dQ,dep]
 |e::h,l2,p,d=>by
  rw[vG,bGo,bGo];split
  .rfl
  .split
   .rfl
   .rw[R9 h l2];rfl
def S5(d:Int)(h l2:List EvD):dep d (h++l2)=dep (dep d h) l2:=by simp [dep]
def iX:∀(l:List EvD)(p:Option Int),l≠ []\/p≠none->∃k,dQ p l=some k
 |[],none,h=>by simp at h
 |[],some k,_=>⟨k,rfl⟩
 |e::l,p,_=>iX l (some e.kind) (.inr sM)
def Q0{l:List EvD}(h:C1 l=true){i:Nat}{e:EvD}(E:l[i]?=some e):0<=dep 0 (l.take i)/\aN e=true/\(i=0->e.kind=1)/\(0<i->dep 0 (l.take i)≠0)/\dep 0 (l.take (i+1))=A7 (dep 0 (l.take i)) e.kind:=by
 obtain⟨S,J⟩:=gS E;have U:l=l.take i++e::l.drop (i+1):=by
  rw[<-J,<-qQ S,UO]
 have D:=R9 (l.take i) (e::l.drop (i+1)) none 0;rw[<-U]at D;rw[C1,D,cA]at h;have I:=kq (l:=l.take i) h.1;have z:=h.2;rw[bGo]at z;split at z
 .cases z
 .rename_i u;simp only[xj,cA,Hw,eT,Ms,aaz,not_and,aam]at u;refine⟨I.1,u.1.1.1,fun h=>?_,fun h=>?_,?_⟩
  .subst h;have:=u.1.1.2 rfl;exact Classical.not_not.1 this
  .obtain⟨k,O⟩:=iX (l.take i) none (.inl (by intro q;have:=congrArg List.length q;rw[Ib,yd]at this;omega));exact u.1.2 (by rw[O];simp)
  .have:l.take (i+1)=l.take i++[e]:=by rw[Hq,E];rfl
   rw[this,S5];rfl
def whF(s:StD):List EvD->List SoD×List SoD
 |[]=>([soZ],[])
 |e::l=>if e.kind=3 then(soZ::(whF s l).1,(whF s l).2)
  else if e.kind=1 then(I9 s e ((whF s l).1.headD soZ) ((whF s l).1.tail.headD soZ)::(whF s l).1.tail.tail,I9 s e ((whF s l).1.headD soZ) ((whF s l).1.tail.headD soZ)::(whF s l).2)
  else(I9 s e soZ ((whF s l).1.headD soZ)::(whF s l).1.tail,I9 s e soZ ((whF s l).1.headD soZ)::(whF s l).2)
def ur{l:List EvD}(h:C1 l=true)(E:dep 0 l=0){i:Nat}{e:EvD}(I:l[i]?=some e)(U:i+1=l.length):e.kind=3:=by
 obtain⟨W,_,O,S,u⟩:=Q0 h I;rw[kC oM,E]at u;by_cases D:e.kind=3
 .exact D
 .by_cases z:e.kind=1
  .rw[A7,bJ z]at u;omega
  .rw[A7,bt z,bt D]at u;by_cases J:i=0
   .exact absurd (O J) z
   .exact absurd u.symm (S oM)
def qj{e:EvD}(h:aN e=true):e.attrs.length<=1000000:=by
 unfold aN at h;split at h
 .simp only[cA,jk,eT]at h;have:=h.2.2;omega
 .split at h
  .simp only[cA,eT]at h;have:=h.2;omega
  .split at h
   .simp only[cA,eT]at h;have:=h.2;omega
   .cases h
def yX(H:d7)(b:Nat)(l:List SoD):Prop:=∃cs,H.g b=cE cs 3/\l.length*3<=cs.length/\∀(j:Nat) x,l[j]?=some x->(cs.drop (j*3)).take 3=soE x
def yX.same{H H':d7}{b:Nat}{l:List SoD}(h:yX H b l)(D:H'.g b=H.g b):yX H' b l:=by
 obtain⟨cs,u,z⟩:=h;exact⟨cs,by rw[D];exact u,z⟩
def yX.set{H:d7}{b:Nat}{l:List SoD}{x y:SoD}{cs:LV}(J:H.g b=cE cs 3)(h:yX H b (l++[x])):yX (H.put b (.cells (splice cs (l.length*3) (soE y)) true 3)) b (l++[y]):=by
 obtain⟨cs',I,O,S⟩:=h;obtain rfl:cs=cs':=by rw[J]at I;cases I;rfl
 have U:=u6 J;simp only[dx,vV]at O;refine⟨_,i9 U,by rw[D6];simp;omega,fun j z D=>?_⟩;refine Fd fun k=>?_;have X:j<l.length+1:=by have:=(gS D).1;simpa using this
 rw[xd];by_cases u:k<3
 .rw[bJ u,vu,Q5 _ _ _ _ (by show _+3<=_;omega)];show(if l.length*3<=j*3+k/\j*3+k<l.length*3+3 then _ else _)=_;by_cases W:j=l.length
  .subst W;rw[bJ oM];have:z=y:=by simpa using D.symm
   rw[this];congr 1;omega
  .rw[bt oM];have E:l[j]?=some z:=by rwa [gk oM]at D
   have:=S j z (by rw[gk oM];exact E);rw[<-this,xd,bJ u,vu]
 .rw[bt u];exact(yB (by show 3<=k;omega)).symm
def Ts(N:Nat)(acc:List SoD)(co:LV):Prop:=co.length=N*3/\acc.length<=N/\∀(j:Nat) x,acc[j]?=some x->(co.drop ((N-acc.length+j)*3)).take 3=soE x
def Ts.add{N:Nat}{u:List SoD}{z:LV}{x:SoD}{m:Nat}(h:Ts N u z)(S:m+1+u.length=N):Ts N (x::u) (splice z (m*3) (soE x))/\ldC (some true) (some 3) (m*3) (splice z (m*3) (soE x))=some (.agg (soE x).toArray):=by
 obtain⟨I,O,J⟩:=h;have key:((splice z (m*3) (soE x)).drop (m*3)).take 3=soE x:=by
  refine Fd fun k=>?_;rw[xd];by_cases E:k<3
  .rw[bJ E,vu,Q5 _ _ _ _ (by show _+3<=_;omega),bJ ⟨oM,by show _<_+3;omega⟩]
   congr 1;omega
  .rw[bt E];exact(yB (by show 3<=k;omega)).symm
 refine⟨⟨by rw[D6,I],by simp;omega,fun j y D=>?_⟩,aE (by rw[D6];omega) key⟩;rw[kO];cases j with
 |zero=>
  obtain rfl:x=y:=by simpa using D
  rw[ly,show N-(u.length+1)=m from oM];exact key
 |succ j=>
  rw[pt]at D;rw[<-J j y D];refine Fd fun k=>?_;rw[xd,xd];split
  .rw[vu,vu,Q5 _ _ _ _ (by show _+3<=_;omega),bt (by intro q;have:=q.2;change _<_+3 at this;omega)]
   congr 1;omega
  .rfl
def yX.at_{H:d7}{b:Nat}{l:List SoD}{x:SoD}{cs:LV}(h:yX H b (l++[x]))(E:H.g b=cE cs 3):ldC (some true) (some 3) (l.length*3) cs=some (.agg (soE x).toArray):=by
 obtain⟨cs',u,z,D⟩:=h;obtain rfl:cs=cs':=by rw[E]at u;cases u;rfl
 exact aE (by simp at z;omega) (D _ x sM)
def P4:List EvD->Int->Nat
 |[],_=>0
 |e::r,n=>if A7 n e.kind=0 then 1 else 1+P4 r (A7 n e.kind)
def mQ:∀l n,P4 l n<=l.length
 |[],n=>lR
 |e::l,n=>by have:=mQ l (A7 n e.kind);rw[P4,kO];split<;>omega
abbrev UB:t5:=ptA WK [1,1,0,1,0,0]
def DS(H0:d7)(lo:Nat)(v:aa3)(l:List EvD)(hv:N8 H0 lo v l)(hn:l.length<=1000000)(r:Nat):
  ∀W e H2,(∃(i:Nat)(n:Int),W=l.length-i/\i<=l.length/\ -(i:Int)<=n/\n<=i/\e.g 0=v/\e.g 5=iV n/\e.g 6=iV i/\i+P4 (l.drop i) n=r/\H2=H0)->
  u7 (LE prog l7 (.loop UB) e H2) (fun o e H2=>H2=H0/\((o= .exit 0/\e.g 0=v/\r=l.length)\/(o= .ret/\e.g 4=iV r))):=by
 refine i5 _ _ ?_;rintro W e H2 ⟨i,n,hk,hi,a9,b0,D,O,S,h,rfl⟩;obtain⟨va,vc,a4⟩:=hv.slice;subst a4;rcases b:decide ((i:Int)<l.length)with _|_
 .have a1:=dF b;rw[dN oM,P4]at h;refine J3 D S b ?_;exact i6 ⟨rfl,.inl ⟨rfl,D,oM⟩⟩
 .have a1:=dT b;obtain⟨ev,he,hd⟩:=B8 (l:=l) (i:=i) oM;rw[hd,P4]at h;obtain⟨be,oe,ce,a7,a6,aa,ac,a3,a5,u,a8,a2,_⟩:=iM hv he;cases a3;have U:=E7 (k:=0) oM a2;rw[ly]at U;rcases J:decide (ev.kind=1)with _|_
  .have X:=dF J;rcases I:decide (ev.kind=3)with _|_
   .have e3:=dF I;have E:A7 n ev.kind=n:=by rw[A7,bt X,bt e3]
    rw[E]at h;rcases z:decide (n=0)with _|_
    .rw[bt (dF z)]at h;refine J10 D O S b u U J I z @wrap_small ?_;exact d8 (W-1) oM ⟨i+1,n,oM,oM,oM,oM,D,O,rfl,oM,rfl⟩
    .rw[bJ (dT z)]at h;refine J10 D O S b u U J I z @wrap_small ?_;exact y9 ⟨rfl,.inr ⟨rfl,by rw[<-h];rfl⟩⟩
   .have e3:=dT I;have E:A7 n ev.kind=n-1:=by rw[A7,bt X,bJ e3]
    rw[E]at h;rcases z:decide (n-1=0)with _|_
    .rw[bt (dF z)]at h;refine J10 D O S b u U J I z @wrap_small ?_;exact d8 (W-1) oM ⟨i+1,n-1,oM,oM,oM,oM,D,rfl,rfl,oM,rfl⟩
    .rw[bJ (dT z)]at h;refine J10 D O S b u U J I z @wrap_small ?_;exact y9 ⟨rfl,.inr ⟨rfl,by rw[<-h];rfl⟩⟩
  .have X:=dT J;have I:decide (ev.kind=3)=false:=dt oM;have E:A7 n ev.kind=n+1:=by rw[A7,bJ X]
   rw[E]at h;rcases z:decide (n+1=0)with _|_
   .rw[bt (dF z)]at h;refine J10 D O S b u U J I z @wrap_small ?_;exact d8 (W-1) oM ⟨i+1,n+1,oM,oM,oM,oM,D,rfl,rfl,oM,rfl⟩
   .rw[bJ (dT z)]at h;refine J10 D O S b u U J I z @wrap_small ?_;exact y9 ⟨rfl,.inr ⟨rfl,by rw[<-h];rfl⟩⟩
def Mw(H:d7)(lo:Nat)(v:aa3)(l:List EvD)(O:lo<=H.n)(D:N8 H lo v l)(S:l.length<=1000000)(i:Nat)(J:i<=l.length):CL prog l7 25 [v,iV i] H=some (.int .i64 ((i+P4 (l.drop i) 0:Nat):Int),none):=by
 rw[i7 WK rfl _ sM];obtain⟨W,X,u⟩:=D.slice;subst u;refine J1 ty3 ?_;refine i8 (F:=fun z=>t6 _ _ _ (t7 (inBlock 0 z) _)=_) (DS ⟨H.bs,H.n⟩ lo _ l (D.mono (fun _ _=>rfl) lR) S (i+P4 (l.drop i) 0) (l.length-i) _ _ ⟨i,0,rfl,J,oM,oM,rfl,rfl,rfl,rfl,rfl⟩) ?_;rintro o e' H' ⟨rfl,⟨h,E,U⟩|⟨h,I⟩⟩
 .refine J2 h E ?_;rw[U]
 .exact J2 h I trivial
def xM{x y:SoD}(h:bZ x y=true):x=y:=by
 obtain⟨a,b,c⟩:=x;obtain⟨a',u,z⟩:=y;simp only[bZ,cA,Wq,eT]at h;obtain⟨rfl,rfl,rfl⟩:=h;rfl
structure ExR(size:Int)(r r':ReD):Prop where
 st:r'.strat=r.strat
 lb:r'.labels=r.labels
 so:r.sorts<+:r'.sorts
 sz:r.size<+:r'.size
 l2:r.size.length=r.sorts.length->r'.size.length=r'.sorts.length
 nw:∀k,r.size.length<=k->k<r'.size.length->r'.size.getD k 0=size
 big:r.size.length<r'.size.length->size<=200
def ExR.refl(size:Int)(r:ReD):ExR size r r:=⟨rfl,rfl,Fb,Fb,fun h=>h,fun k u z=>oM,fun h=>oM⟩
def ExR.trans{size:Int}{r D u:ReD}(h:ExR size r D)(g:ExR size D u):ExR size r u:=by
 refine⟨g.st.trans h.st,g.lb.trans h.lb,h.so.trans g.so,h.sz.trans g.sz,fun q=>g.l2 (h.l2 q),fun k E I=>?_,fun q=>?_⟩
 .by_cases z:k<D.size.length
  .rw[U0 g.sz z];exact h.nw k E z
  .exact g.nw k oM I
 .by_cases z:r.size.length<D.size.length
  .exact h.big z
  .exact g.big oM
def Np(r:ReD)(x:SoD)(size:Int)(how:Int×Int×Int):ExR size r (bW r x size how).1:=by
 obtain⟨p1,p2,E,I⟩:=iE r x size how;unfold bW at*;split
 .exact ExR.refl _ _
 .split
  .exact ExR.refl _ _
  .rename_i hs;simp only[xj,eT,aaz]at hs;refine⟨rfl,rfl,⟨_,rfl⟩,⟨_,rfl⟩,fun h=>by simp [h],fun k D u=>?_,fun _=>oM⟩;have z:k=r.size.length:=by simp at u;omega
   rw[z];exact dC _ _ _
def Jl{r:ReD}{x:SoD}{size:Int}{how:Int×Int×Int}(h:(bW r x size how).2=true):x∈(bW r x size how).1.sorts:=by
 unfold bW at*;split
 next u=>obtain⟨y,D,e⟩:=AH.1 u;rw[xM e];exact D
 .rename_i u;rw[bt u]at h;split
  next z=>rw[bJ z]at h;cases h
  .simp
def th{E z:List SoD}(h:E<+:z){u:Int}{a b:Nat}(J:a<E.length)(I:b<E.length):bG z u a b=bG E u a b:=by
 have O:=h.length_le;have D:∀{n k:Nat},k<n->knB n (k:Int)=true:=fun S=>by
  simp only[knB,cA,eT];omega
 simp only[bG,xA];rw[D J,D I,D (sW J O),D (sW I O),U0 h I]
def iR{size:Int}{a b:Nat}:∀(l:List EvD)(i:Nat)(r:ReD),a<r.sorts.length->b<r.sorts.length->(S6 size a b l i r).2=true->ExR size r (S6 size a b l i r).1/\∀e∈l,bG r.sorts e.kind a b=true->I9 r.strat e (r.sorts.getD a soZ) (r.sorts.getD b soZ)∈(S6 size a b l i r).1.sorts
 |[],i,r,_,_,_=>⟨ExR.refl _ _,fun e W=>by cases W⟩
 |e::l,i,r,ha,hb,h=>by
  rw[S6]at h ⊢;have X:(a:Int).toNat=a:=tN a;have tb:(b:Int).toNat=b:=tN b;rw[X,tb]at h ⊢;by_cases S:bG r.sorts e.kind a b=true
  .rw[bJ S]at h ⊢;by_cases O:(bW r (I9 r.strat e (r.sorts.getD a soZ) (r.sorts.getD b soZ)) size (i,a,b)).2=true
   .rw[bJ O]at h ⊢;have D:=Np r (I9 r.strat e (r.sorts.getD a soZ) (r.sorts.getD b soZ)) size (i,a,b);have I:=Jl O;have E:=D.so.length_le;obtain⟨J,U⟩:=iR l (i+1) _ (sW ha E) (sW hb E) h;refine⟨D.trans J,fun y z u=>?_⟩;rcases nd.1 z with rfl|z
    .exact J.so.subset I
    .have:=U y z (by rw[th D.so ha hb];exact u);rw[D.st,U0 D.so ha,U0 D.so hb]at this;exact this
   .rw[bt O]at h;cases h
  .rw[bt S]at h ⊢;obtain⟨J,U⟩:=iR l (i+1) r ha hb h;refine⟨J,fun y z u=>?_⟩;rcases nd.1 z with rfl|z
   .exact absurd u S
   .exact U y z u
def ClR(r:ReD)(a b:Nat):Prop:=∀e∈r.labels,bG r.sorts e.kind a b=true->I9 r.strat e (r.sorts.getD a soZ) (r.sorts.getD b soZ)∈r.sorts
def ClR.ex{size:Int}{r J:ReD}{a b:Nat}(h:ClR r a b)(u:ExR size r J)(z:a<r.sorts.length)(D:b<r.sorts.length):ClR J a b:=fun e E I=>by
 rw[u.lb]at E;rw[th u.so z D]at I;rw[u.st,U0 u.so z,U0 u.so D];exact u.so.subset (h e E I)
def mY{size:Int}{m:Nat}:∀(L:List (Nat×Nat))(r:ReD),(∀x∈L,x.1<m/\x.2<m)->m<=r.sorts.length->(aH size L r).2=true->ExR size r (aH size L r).1/\∀x∈L,ClR (aH size L r).1 x.1 x.2
 |[],r,_,_,_=>⟨ExR.refl _ _,fun x W=>by cases W⟩
 |x::L,r,hL,hm,h=>by
  rw[aH]at h ⊢;obtain⟨S,U⟩:=hL x sM;by_cases E:(S6 size x.1 x.2 r.labels 0 r).2=true
  .rw[bJ E]at h ⊢;obtain⟨u,q2⟩:=iR r.labels 0 r (sW S hm) (sW U hm) E;have I:=u.so.length_le;obtain⟨O,X⟩:=mY L _ (fun y D=>hL y (by simp [D])) (HE hm I) h;refine⟨u.trans O,fun y D=>?_⟩;rcases nd.1 D with rfl|D
   .have c1:ClR (S6 size y.1 y.2 r.labels 0 r).1 y.1 y.2:=fun e J z=>by
     rw[u.lb]at J;rw[th u.so oM oM]at z;rw[u.st,U0 u.so oM,U0 u.so oM];exact q2 e J z
    exact c1.ex O oM oM
   .exact X y D
  .rw[bt E]at h;cases h
structure BeR(r:ReD)(m:Int):Prop where
 l2:r.size.length=r.sorts.length
 lt:∀k,k<r.sorts.length->r.size.getD k 0<m/\r.size.getD k 0<=200
 cl:∀a b,a<r.sorts.length->b<r.sorts.length->r.size.getD a 0+r.size.getD b 0+1<m->ClR r a b
def xQ{r:ReD}{size:Int}(h:BeR r size)(hs:0<=size)(hr:(jq r size).2=true)(h0:∀k,k<r.sorts.length->0<=r.size.getD k 0):BeR (jq r size).1 (size+1)/\ExR size r (jq r size).1:=by
 unfold jq at*;obtain⟨I,q2⟩:=mY (m:=r.sorts.length) _ r (fun x hx=>by
  unfold X1 at hx;obtain⟨a,S,J⟩:=xB.1 hx;unfold lj at J;obtain⟨b,u,rfl⟩:=wC.1 J;exact⟨vK.1 S,vK.1 (He.1 u).1⟩) lR hr
 have a3:=I.l2 h.l2;have l2:=h.l2;have a4:=I.so.length_le;have old:∀k,k<r.sorts.length->(aH size (X1 (fun i=>r.size.getD i 0) size r.sorts.length r.sorts.length) r).1.size.getD k 0=r.size.getD k 0:=fun k z=>U0 I.sz oM 0;have D:∀k,k<(aH size (X1 (fun i=>r.size.getD i 0) size r.sorts.length r.sorts.length) r).1.sorts.length->k<r.sorts.length\/((aH size (X1 (fun i=>r.size.getD i 0) size r.sorts.length r.sorts.length) r).1.size.getD k 0=size/\size<=200):=fun k z=>by
  by_cases a1:k<r.sorts.length
  .exact .inl a1
  .exact .inr ⟨I.nw k oM oM,I.big oM⟩
 refine⟨⟨a3,fun k z=>?_,fun a b S J X=>?_⟩,I⟩
 .rcases D k z with z|⟨U,W⟩
  .rw[old k z];have:=h.lt k z;omega
  .omega
 .have O:∀k,k<(aH size (X1 (fun i=>r.size.getD i 0) size r.sorts.length r.sorts.length) r).1.sorts.length->0<=(aH size (X1 (fun i=>r.size.getD i 0) size r.sorts.length r.sorts.length) r).1.size.getD k 0:=fun k z=>by
   rcases D k z with z|⟨U,W⟩
   .rw[old k z];exact h0 k z
   .omega
  have pa:=O a S;have pb:=O b J;rcases D a S with E|⟨U,W⟩
  .rcases D b J with u|⟨U,W⟩
   .rw[old a E,old b u]at X;by_cases a2:r.size.getD a 0+r.size.getD b 0+1<size
    .exact(h.cl a b E u a2).ex I E u
    .refine q2 (a,b) ?_;unfold X1;refine xB.2 ⟨a,vK.2 E,?_⟩;unfold lj;refine wC.2 ⟨b,He.2 ⟨vK.2 u,ib ?_⟩,rfl⟩;show r.size.getD a 0+r.size.getD b 0+1=size;omega
   .omega
  .omega
def vN:∀(l:List Int)(m:Int),m<=l.foldl mx2 m/\∀x∈l,x<=l.foldl mx2 m
 |[],m=>⟨JE _,fun x h=>by cases h⟩
 |y::l,m=>by
  obtain⟨D,u⟩:=vN l (mx2 m y);have z:m<=mx2 m y/\y<=mx2 m y:=by unfold mx2;split<;>omega
  rw[sd];refine⟨oM,fun x h=>?_⟩;rcases nd.1 h with rfl|h
  .omega
  .exact u x h
def LD:∀(l:List Int)(x:Int),x∈l->x<=mxL l
 |[],x,h=>by cases h
 |y::l,x,h=>by
  obtain⟨u,z⟩:=vN l y;rw[mxL];rcases nd.1 h with rfl|h
  .exact u
  .exact z x h
def AQ{l:List Int}{k:Nat}(h:k<l.length):l.getD k 0∈l:=by
 rw[dE,gI h];exact aaw h
def qe:∀(k:Nat)(r:ReD)(size:Int){u:ReD},402-size<=k->0<=size->BeR r size->(∀k,k<r.sorts.length->0<=r.size.getD k 0)->pd k r size=some u->∀a b,a<u.sorts.length->b<u.sorts.length->ClR u a b
 |0,r,size,u,hk,hs,h,h0,hr,a,b,ha,hb=>by
  rw[pd]at hr;cases hr;have:=h.lt a ha;have:=h.lt b hb;exact h.cl a b ha hb oM
 |k+1,r,size,u,hk,hs,h,h0,hr,a,b,ha,hb=>by
  rw[pd]at hr;split at hr
  .split at hr
   .rename_i I;obtain⟨D,E⟩:=xQ h hs I h0;refine qe k _ (size+1) oM oM D (fun j O=>?_) hr a b ha hb;by_cases z:j<r.sorts.length
    .rw[U0 E.sz (oN (h.l2))];exact h0 j z
    .rw[E.nw j (oN (h.l2)) (oN (D.l2))];exact hs
   .cases hr
  next J=>cases hr;have l2:=h.l2;have S:=LD r.size _ (AQ (l:=r.size) (k:=a) oM);have U:=LD r.size _ (AQ (l:=r.size) (k:=b) oM);exact h.cl a b ha hb (by simp only[eT]at J;omega)
def yh{q:Q}{r:ReD}(h:fY q=some r){a b:Nat}(u:a<r.sorts.length)(D:b<r.sorts.length):ClR r a b:=by
 unfold fY at h;split at h
 .cases h
 .rename_i l O;refine qe 401 ⟨C7 q,l,[soZ],[0],[(0,0,0)]⟩ 1 oM oM ⟨rfl,fun k E=>?_,fun a b u D z=>?_⟩ (fun k E=>?_) h a b u D
  .have:k=0:=by simpa using E
   subst this;show(0:Int)<1/\(0:Int)<=200;omega
  .have I:a=0:=by simpa using u
   have J:b=0:=by simpa using D
   subst I;subst J;exact absurd z (by show¬((0:Int)+0+1<1);omega)
  .have:k=0:=by simpa using E
   subst this;exact JE _
def QA(H:d7)(x:SoD)(n:Int)(m:Nat)(J:ek x m)(O:0<=n)(S:n<m):CL prog l7 88 [.agg (soE x).toArray,iV n] H=some (.bool (lG x n),none):=by
 obtain⟨h,t,b⟩:=x;obtain⟨E,u,-,z,-⟩:=pushF H (bC [.bool h,.bool t,.string b] 1);have D:H.n<=E.low:=by rw[u,l9];exact lR
 rw[i7 YS rfl _ sM,lG];cases h with
 |false=>simp(maxSteps:=20000000) -dsimp (disch:=first|omega|(simp only[rH]<;>omega)|fail) only[↓fk,rQ,N1,sevalprocAttr,tyA,<-u,z]
 |true=>
  have I:b.size=m:=J rfl;exact J2 u.symm z trivial
abbrev boV(b:Bool):aa3:= .bool b
def jS(hs:List Bool)(x:EdD):Bool:=decide (x.2.2.1=0)||(decide (x.2.2.1=3)&&hs.getD x.2.2.2.toNat false)
def clP(hs:List Bool):List EdD->List Bool->List Bool
 |[],c=>c
 |x::l,c=>clP hs l (if c.getD x.1.toNat false&&jS hs x then c.set x.2.1.toNat true else c)
def clI(hs:List Bool)(l:List EdD):Nat->List Bool->List Bool
 |0,c=>c
 |n+1,c=>clI hs l n (clP hs l c)
def iJ(hs:List Bool)(p:PrD)(q:Nat):List Bool:=clI hs p.ed p.st.toNat ((List.replicate p.st.toNat false).set q true)
def mL(hs:List Bool):∀(l:List EdD)(c:List Bool),(clP hs l c).length=c.length
 |[],c=>rfl
 |x::l,c=>by
  rw[clP,mL hs l];split<;>simp
def EM(hs:List Bool)(l:List EdD):∀(n:Nat)(c:List Bool),(clI hs l n c).length=c.length
 |0,c=>rfl
 |n+1,c=>by rw[clI,EM hs l n,mL]
def NK{bs:List Bool}{i:Nat}(h:i<bs.length):(bs.map boV)[i*1]?=some (.bool (bs.getD i false)):=by
 rw[yD,Aa,gI h,dE,gI h];rfl
def Ci(H1:d7)(J p3 n:Nat)(hn:n<=1000000)(c9:J<H1.n)(b8:p3≠J)(rp:LV)(g3:H1.g p3=cE rp 1)(F:Nat->Prop)(hF:∀j,F j->j<H1.n/\j≠J)
  (va:Option Addr) (ca:Nat) (l:List EdD) (r3:rp[3]?=some (.slice va l.length ca)) (hv:SlF H1 F 4 (y7 edE) (.slice va l.length ca) l) (hl:l.length<=1000000)
  (ha:Option Addr) (hc:Nat) (hs:List Bool) (hh:SlF H1 F 1 (y7 boE) (.slice ha hs.length hc) hs) (hw:∀x∈l,0<=x.1/\x.1<n/\0<=x.2.1/\x.2.1<n/\(x.2.2.1=3->0<=x.2.2.2/\x.2.2.2<hs.length)) (v9:aa3) (r:List Bool):
  ∀kk e H,(∃(j:Nat)(bs:List Bool),kk=l.length-j/\j<=l.length/\e.g 2= .slice ha hs.length hc/\e.g 3=pT p3/\e.g 7=sL J n (n+1)/\e.g 9=v9/\e.g 10=iV j/\bs.length=n/\H.g J=cE (bs.map boV) 1/\Fr1 J H1 H/\clP hs (l.drop j) bs=r)->
  u7 (LE prog l7 (.loop VO) e H) (fun o e H=>o= .exit 4/\e.g 2= .slice ha hs.length hc/\e.g 3=pT p3/\e.g 7=sL J n (n+1)/\e.g 9=v9/\r.length=n/\H.g J=cE (r.map boV) 1/\Fr1 J H1 H):=by
 refine i5 _ _ ?_;rintro kk e H ⟨j,bs,hk,hj,f2,U,X,f9,O,z,gb,a3,I⟩;have gp:=(a3.but p3 (u6 g3) b8).trans g3;rcases bb:decide ((j:Int)<l.length)with _|_
 .have b5:=dF bb;have:l.drop j=[]:=dN oM;rw[this,clP]at I;refine J5 U O gp r3 bb ?_;exact i6 ⟨rfl,f2,U,X,f9,by rw[<-I];exact z,by rw[<-I];exact gb,a3⟩
 have b5:=dT bb;have c8:=a3.stay.n;obtain⟨x,nb,o,cs,own,el,hx,hd,rfl,a9,hg,c7,E,c6,D⟩:=hv.row (i:=j) oM;have D:el=edE x:=D;obtain⟨w1,w2,w3,w4,w5⟩:=hw x (mG hx);have nt:(j:Int).toNat=j:=tN j;have gx:=(a3.but nb (hF _ a9).1 (hF _ a9).2).trans hg;have a1:el.all oC=true:=by rw[D];rfl
 have l1:el.length=4:=by rw[D];rfl
 have e0:el[0]?=some (.int .i64 x.1):=by rw[D];rfl
 have e1:el[1]?=some (.int .i64 x.2.1):=by rw[D];rfl
 have e2:el[2]?=some (.int .i64 x.2.2.1):=by rw[D];rfl
 have e3:el[3]?=some (.int .i64 x.2.2.2):=by rw[D];rfl
 obtain⟨H3,S,n3,a2,s3⟩:=pushP H (bC [iV 0,iV 0,iV 0,iV 0] 1) (bC el 1);have a4:splice [iV 0,iV 0,iV 0,iV 0] 0 el=el:=A0 _ _ (by rw[l1];rfl);have W:Fr1 J H1 H3:=a3.trans (Fr1.of s3 oM (by rw[S,A9,l9];omega));have u:=(s3.g J oM).trans gb;have bg:=NK (bs:=bs) (i:=x.1.toNat) oM;have bl:(bs.map boV).length=bs.length:=sM;have b2:x.2.1.toNat*1+1<=n:=oM;obtain⟨H4,a5⟩:=eY (H3.put J (.cells ((bs.map boV).set (x.2.1.toNat*1) (.bool true)) true 1));have a8:H4.g J=some (.cells ((bs.set x.2.1.toNat true).map boV) true 1):=by rw[a5,i9 oM,yD,aaD]
 have a6:Fr1 J H1 H4:=W.trans (by rw[a5];exact Fr1.put);rw[hd,clP,jS]at I;have d1:decide ((x.1.toNat:Int)<n)=true:=ib oM;rcases b0:bs.getD x.1.toNat false with _|_
 .rw[b0]at bg;simp only[b0,Bi,bF]at I;refine J18 U X O gp r3 bb gx nt E a1 l1 a4 S.symm a2 e0 u bg @wrap_small ?_;exact d8 (kk-1) oM ⟨j+1,bs,oM,oM,f2,U,X,f9,rfl,z,u,W,I⟩
 rw[b0]at bg;simp only[b0,tT]at I;rcases k0:decide (x.2.2.1=0)with _|_
 .rcases k3:decide (x.2.2.1=3)with _|_
  .simp only[k0,k3,Bi,aa1,bF]at I;refine J21 U X O gp r3 bb gx nt E a1 l1 a4 S.symm a2 e0 e2 u bg k0 k3 @wrap_small ?_;exact d8 (kk-1) oM ⟨j+1,bs,oM,oM,f2,U,X,f9,rfl,z,u,W,I⟩
  .obtain⟨t1,t2⟩:=w5 (dT k3);have b7:SlF H3 F 1 (y7 boE) (.slice ha hs.length hc) hs:=hh.mono (fun j hj=>W.but j (hF j hj).1 (hF j hj).2) (fun _ h=>h) iF;obtain⟨v,nv,ov,cv,c4,b3,c0,_,rfl,c5,b1,c3,b9,b6,b4⟩:=b7.row (i:=x.2.2.2.toNat) oM;obtain rfl:b3=boE v:=b4;have a7:cv[ov+x.2.2.2.toNat*1]?=some (.bool v):=by have:=b6 0 oM;rw[ly]at this;exact this
   have ev:hs.getD x.2.2.2.toNat false=v:=by rw[dE,c0];rfl
   cases v with
   |false=>
    simp only[k0,k3,ev,Mq,aa1,bF]at I;refine J25 f2 U X O gp r3 bb gx nt E a1 l1 a4 S.symm a2 e0 e2 e3 u bg k0 k3 b1 a7 @wrap_small ?_;exact d8 (kk-1) oM ⟨j+1,bs,oM,oM,f2,U,X,f9,rfl,z,u,W,I⟩
   |true=>
    simp only[k0,k3,ev,Yp,LS,jd]at I;refine J30 f2 U X O gp r3 bb gx nt E a1 l1 a4 S.symm a2 e0 e1 e2 e3 u bg z bl b2 k0 k3 b1 a7 a5.symm @wrap_small ?_;exact d8 (kk-1) oM ⟨j+1,_,oM,oM,f2,U,X,f9,rfl,by rw[zC];exact z,a8,a6,I⟩
 .simp only[k0,EF,jd]at I;refine J25 U X O gp r3 bb gx nt E a1 l1 a4 S.symm a2 e0 e1 e2 u bg z bl b2 k0 a5.symm @wrap_small ?_;exact d8 (kk-1) oM ⟨j+1,_,oM,oM,f2,U,X,f9,rfl,by rw[zC];exact z,a8,a6,I⟩
def Ch(I:d7)(D X n:Nat)(hn:n<=1000000)(a6:D<I.n)(W:X≠D)(rp:LV)(g3:I.g X=cE rp 1)(F:Nat->Prop)(O:∀j,F j->j<I.n/\j≠D) (r0:rp[0]?=some (.int .i64 n))
  (va:Option Addr) (ca:Nat) (l:List EdD) (r3:rp[3]?=some (.slice va l.length ca)) (hv:SlF I F 4 (y7 edE) (.slice va l.length ca) l) (hl:l.length<=1000000)
  (ha:Option Addr) (hc:Nat) (hs:List Bool) (hh:SlF I F 1 (y7 boE) (.slice ha hs.length hc) hs) (hw:∀x∈l,0<=x.1/\x.1<n/\0<=x.2.1/\x.2.1<n/\(x.2.2.1=3->0<=x.2.2.2/\x.2.2.2<hs.length)) (r:List Bool):
  ∀kk e H,(∃(j:Nat)(bs:List Bool),kk=n-j/\j<=n/\e.g 2= .slice ha hs.length hc/\e.g 3=pT X/\e.g 7=sL D n (n+1)/\e.g 9=iV j/\bs.length=n/\H.g D=cE (bs.map boV) 1/\Fr1 D I H/\clI hs l (n-j) bs=r)->
  u7 (LE prog l7 (.loop VP) e H) (fun o e H=>o= .exit 2/\e.g 7=sL D n (n+1)/\r.length=n/\H.g D=cE (r.map boV) 1/\Fr1 D I H):=by
 refine i5 _ _ ?_;rintro kk e H ⟨j,bs,hk,E,f2,f3,f7,f9,U,gb,u,J⟩;have gp:=(u.but X (u6 g3) W).trans g3;have a5:=u.stay.n;rcases bb:decide ((j:Int)<n)with _|_
 .have a3:=dF bb;rw[show n-j=0 from oM,clI]at J;refine J5 f3 f9 gp r0 bb ?_;exact i6 ⟨rfl,f7,by rw[<-J];exact U,by rw[<-J];exact gb,u⟩
 have a3:=dT bb;rw[show n-j=(n-(j+1))+1 from oM,clI]at J;refine J5 f3 f9 gp r0 bb ?_;refine i8 (F:=fun z=>u7 (t7 (inBlock 3 (inBlock 4 z)) _) _) (Ci H D X n hn oM W rp gp F (fun j E=>by have:=O j E;exact⟨oM,this.2⟩) va ca l r3 (hv.mono (fun j E=>u.but j (O j E).1 (O j E).2) (fun _ h=>h) iF) hl ha hc hs (hh.mono (fun j E=>u.but j (O j E).1 (O j E).2) (fun _ h=>h) iF) hw (.int .i64 j) (clP hs l bs) (l.length-0) _ _ ⟨0,bs,rfl,wi _,f2,f3,f7,f9,rfl,U,gb,Fr1.refl _ _,rfl⟩) ?_;rintro o e' H' ⟨ho,g2,a1,g7,g9,a4,a2,S⟩;refine J3 ho g9 @wrap_small ?_;exact d8 (kk-1) oM ⟨j+1,_,oM,oM,g2,a1,g7,by rw[show((j+1:Nat):Int)=(j:Int)+1 from oM];rfl,a4,a2,u.trans S,J⟩
def Cg(E:d7)(h n:Nat)(hn:n<=1000000)(a8:h<E.n)(q:Nat)(hq:q<n)(F:Nat->Prop)(hF:∀j,F j->j<E.n/\j≠h) (qa:Option Addr) (qc:Nat) (a2:SlF E F 1 (y7 inE) (.slice qa 1 qc) [(q:Int)]) (v2 v3:aa3):
  ∀kk e H,(∃(j:Nat)(bs:List Bool),kk=1-j/\j<=1/\e.g 1= .slice qa 1 qc/\e.g 2=v2/\e.g 3=v3/\e.g 7=sL h n (n+1)/\e.g 8=iV j/\bs=(if j=0 then List.replicate n false else(List.replicate n false).set q true)/\H.g h=cE (bs.map boV) 1/\Fr1 h E H)->
  u7 (LE prog l7 (.loop VN) e H) (fun o e H=>o= .exit 0/\e.g 2=v2/\e.g 3=v3/\e.g 7=sL h n (n+1)/\H.g h=some (.cells (((List.replicate n false).set q true).map boV) true 1)/\Fr1 h E H):=by
 refine i5 _ _ ?_;rintro kk e H ⟨j,bs,hk,hj,O,f2,f3,S,f8,z,gb,u⟩;rcases bb:decide ((j:Int)<1)with _|_
 .have W:=dF bb;obtain rfl:j=1:=oM;simp only[show¬(1:Nat)=0 from oM,MR]at z;subst z;refine J2 O f8 ?_;exact i6 ⟨rfl,f2,f3,S,gb,u⟩
 have W:=dT bb;obtain rfl:j=0:=oM;simp only[jd]at z;subst z;obtain⟨x,nb,o,cs,own,el,hx,hd,rfl,I,hg,a6,a5,X,a1⟩:=a2.row (i:=0) sM;obtain rfl:el=inE x:=a1;have hx:x=(q:Int):=by simpa using hx.symm
 subst hx;have gx:=(u.but nb (hF _ I).1 (hF _ I).2).trans hg;have c0:cs[o]?=some (.int .i64 q):=by have:=X 0 oM;simpa using this
 have bl:((List.replicate n false).map boV).length=n:=sM;have a3:q*1+1<=n:=oM;have a4:(q:Int).toNat=q:=tN q;have dq:decide ((q:Int)<n)=true:=ib oM;have a7:=u.stay.n;obtain⟨H4,D⟩:=eY (H.put h (.cells (((List.replicate n false).map boV).set (q*1) (.bool true)) true 1));have U:H4.g h=some (.cells (((List.replicate n false).set q true).map boV) true 1):=by rw[D,i9 oM,yD,aaD]
 have J:Fr1 h E H4:=u.trans (by rw[D];exact Fr1.put);refine J11 O S f8 gx c0 gb bl a3 a4 D.symm @wrap_small ?_;exact d8 (kk-1) oM ⟨1,_,oM,oM,O,f2,f3,S,rfl,rfl,U,J⟩
def XL(H:d7)(F:Nat->Prop)(Rt:LV->Q->Prop)(cs:LV)(p:PrD)(hF:∀j,F j->j<H.n) (hp:PrF H F Rt cs p) (n:Nat) (U:p.st=n) (hn:n<=1000000) (hl:p.ed.length<=1000000) (q:Nat) (hq:q<n) (qa:Option Addr) (qc:Nat) (b2:SlF H F 1 (y7 inE) (.slice qa 1 qc) [(q:Int)])
  (J:Option Addr) (hc:Nat) (hs:List Bool) (hh:SlF H F 1 (y7 boE) (.slice J hs.length hc) hs) (hw:∀x∈p.ed,0<=x.1/\x.1<p.st/\0<=x.2.1/\x.2.1<p.st/\(x.2.2.1=3->0<=x.2.2.2/\x.2.2.2<hs.length)):
  Q3 (CL prog l7 87 [.agg cs.toArray,.slice qa 1 qc,.slice J hs.length hc] H) H 1 (y7 boE) (iJ hs p q):=by
 obtain⟨ea,ec,ta,tc,O,h1,h2⟩:=F0 hp;have ac:cs.all oC=true:=by rw[O];rfl
 have c0:cs[0]?=some (.int .i64 n):=by rw[O,U];rfl
 have c3:cs[3]?=some (.slice ea p.ed.length ec):=by rw[O];rfl
 obtain⟨E,X,n1,g1,s1⟩:=pushF H (bC cs 1);have S:H.n<=E.low:=by rw[X];exact lR
 obtain⟨H2,a1,n2,a6,s2⟩:=pushE E (.cells ((List.replicate n false).map boV) true 1);have b0:S7 prog E 141 (.int .i64 n) (.int .i64 n)=some (sL E.n n (n+1),H2):=by
  have e1:(List.replicate n [Value.bool false]).flatten=(List.replicate n false).map boV:=by
   rw[Tm,aad]
  simp only[S7,FE.2.2.2.2.2.1,ty4.2.2.1,ty4.2.1,xA,e1];rw[bJ ⟨by decide,oM,JE _,oM,oM⟩,a1];rfl
 have a5:H2.g H.n=cE cs 1:=(s2.g _ oM).trans g1;have a4:d9 H.n H H2:=s1.trans (s2.wk oM);have u:∀j,F j->j<H2.n/\j≠E.n:=fun j D=>oN (hF j D);have hm:∀j,F j->H2.g j=H.g j:=fun j D=>a4.g j (hF j D);have a2:H.n<=H2.low:=by rw[a1,l9];exact S
 rw[i7 Ok rfl _ sM];refine J5 ac X.symm g1 c0 b0 ?_;refine i8 (F:=fun z=>Q3 (t6 _ _ _ (t7 (inBlock 0 z) _)) _ _ _ _) (Cg H2 E.n n hn oM q hq F u qa qc (b2.mono hm (fun _ h=>h) iF) (.slice J hs.length hc) (pT H.n) (1-0) _ _ ⟨0,_,rfl,oM,rfl,rfl,rfl,rfl,rfl,rfl,a6,Fr1.refl _ _⟩) ?_;rintro o e' H3 ⟨ho,k2,k3,k7,a7,W⟩;have n3:=W.stay.n;refine J1 ho ?_;refine i8 (F:=fun z=>Q3 (t6 _ _ _ (t7 (inBlock 2 z) _)) _ _ _ _) (Ch H3 E.n H.n n hn oM oM cs ((W.but _ oM oM).trans a5) F (fun j D=>by have:=u j D;exact⟨oM,this.2⟩) c0 ea ec p.ed c3 (h1.mono (fun j D=>(W.but j (u j D).1 (u j D).2).trans (hm j D)) (fun _ h=>h) iF) hl J hc hs (hh.mono (fun j D=>(W.but j (u j D).1 (u j D).2).trans (hm j D)) (fun _ h=>h) iF) (fun x hx=>by have:=hw x hx;rw[U]at this;exact this) (iJ hs p q) (n-0) _ _ ⟨0,_,rfl,wi _,k2,k3,k7,rfl,by simp,a7,Fr1.refl _ _,by rw[iJ,U];rfl⟩) ?_;rintro o2 e2 H4 ⟨b1,m7,a9,a8,F4⟩;have I:=W.trans F4;have n4:=I.stay.n;have s4:d9 H.n H H4:=a4.trans (I.stay.wk oM);have a3:H.n<=H4.low:=(I.stay.wk (show H.n<=E.n from oM)).low a2;refine J2 b1 m7 ?_;refine L5 ⟨(iJ hs p q).map boV,.inr ⟨E.n,n+1,by rw[a9],a8,oM,by simp⟩,by simp,fun i a J=>?_⟩ s4 a3;rw[yD,qQ (by simpa using (gS J).1),Ee,WQ];simp only[aat];rw[(gS J).2]
structure BJ(Hs:d7)(lo K:Nat)(s:StD)(e:EvD)(bs:List Bool)(F:Nat->Prop)(H:d7)(rs re:LV)(ba:Option Addr)(bc:Nat):Prop where
 st:StF H F (QR Hs lo K false) (QR Hs lo K true) rs s
 ev:EvF H F re e
 bi:SlF H F 1 (y7 xr) (.slice ba bs.length bc) bs
 lt:∀j,F j->j<H.n
 eq:∀j,j<lo->H.g j=Hs.g j
 lo:lo<=H.n
def BJ.work{E:d7}{lo K:Nat}{s:StD}{e:EvD}{bs:List Bool}{F:Nat->Prop}{H H':d7}{S O:LV}{I:Option Addr}{J:Nat}(h:BJ E lo K s e bs F H S O I J)(z:d9 H.n H H'):BJ E lo K s e bs F H' S O I J:=by
 have W:=z.n;have D:∀j,F j->H'.g j=H.g j:=fun j u=>z.g j (h.lt j u);have U:=h.lo;exact⟨h.st.mono D (fun _ h=>h) iF iF,A3 _ _ _ _ _ _ h.ev D (fun _ h=>h),h.bi.mono D (fun _ h=>h) iF,fun j u=>by have:=h.lt j u;omega,fun j u=>by rw[z.g j oM];exact h.eq j u,oM⟩
def mu(Hs:d7)(lo K k:Nat):Prop:=∀(H:d7)(s:StD)(e:EvD)(bs:List Bool)(F:Nat->Prop)(rs re:LV)(ba:Option Addr)(bc:Nat)(cs:LV)(q:Q),BJ Hs lo K s e bs F H rs re ba bc->WfS s bs.length->e.attrs.length<=1000000->QR Hs lo k true cs q->OkD true q->
 CL prog l7 86 [.agg rs.toArray,.agg cs.toArray,.agg re.toArray,.slice ba bs.length bc] H=some (.bool (E9 s e bs q),none)
def wO(X:d7)(lo K k:Nat)(ih:mu X lo K k)(s:StD)(ev:EvD)(bs:List Bool)(F:Nat->Prop)(H:d7)(D S:LV)(ba:Option Addr)(bc:Nat)(W:BJ X lo K s ev bs F H D S ba bc)(hw:WfS s bs.length)(a3:ev.attrs.length<=1000000)
  (ps pf pe:Nat) (gs:H.g ps=cE D 1) (cs:LV) (gf:H.g pf=cE cs 1) (ge:H.g pe=cE S 1) (va:Option Addr) (ca:Nat) (l:List Q) (c4:cs[4]?=some (.slice va l.length ca)) (hv:QsR X lo k true (.slice va l.length ca) l) (hl:l.length<=1048576) (a6:∀x∈l,OkD true x) (r:Bool×Bool):
  ∀kk e H2,(∃(i:Nat)(a o:Bool),kk=l.length-i/\i<=l.length/\e.g 3= .slice ba bs.length bc/\e.g 4=pT ps/\e.g 5=pT pf/\e.g 6=pT pe/\e.g 9= .bool a/\e.g 10= .bool o/\e.g 11=iV i/\H2=H/\(a&&(l.drop i).all (E9 s ev bs),o||(l.drop i).any (E9 s ev bs))=r)->
  u7 (LE prog l7 (.loop VL) e H2) (fun o e H2=>o= .exit 0/\e.g 5=pT pf/\e.g 9= .bool r.1/\e.g 10= .bool r.2/\H2=H):=by
 refine i5 _ _ ?_;rintro kk e H2 ⟨i,a,o,hk,hi,f3,f4,U,f6,f9,E,I,rfl,z⟩;rcases b:decide ((i:Int)<l.length)with _|_
 .have a4:=dF b;have:l.drop i=[]:=dN oM;rw[this]at z;simp only[Hm,XN,zb,TB]at z;refine J5 U I gf c4 b ?_;exact i6 ⟨rfl,U,by rw[<-z];exact f9,by rw[<-z];exact E,rfl⟩
 have a4:=dT b;obtain⟨x,nb,ox,a9,own,el,hx,hd,rfl,a5,hg,b1,u,hr⟩:=hv.row (i:=i) oM;have O:=(W.eq nb a5).trans hg;simp only[qSz,jd]at u O;have nt:(i:Int).toNat=i:=tN i;have a2:D.all oC=true/\ldC (some true) (some 8) 0 D=some (.agg D.toArray):=by
  obtain⟨pa,pc,ga,gc,xa,xc,ea,ec,ta,tc,a8,_⟩:=I0 W.st;rw[a8];exact⟨rfl,rfl⟩
 have a1:ldC (some true) (some 5) 0 S=some (.agg S.toArray):=by
  obtain⟨av,a7,b0⟩:=W.ev;rw[a7];rfl
 have J:=ih H2 s ev bs F D S ba bc el x W hw a3 hr (a6 x (mG hx));rw[hd,sS,Ic]at z;obtain⟨h,hh⟩:=eY (E9 s ev bs x);rw[<-hh]at J z;cases a<;>cases o<;>cases h<;>
 .refine J19 f3 f4 U f6 f9 E I gf c4 b gs ge a2.2 a1 O nt u J @wrap_small ?_;refine d8 (kk-1) oM ⟨i+1,_,_,oM,oM,f3,f4,U,f6,rfl,rfl,by rw[show((i+1:Nat):Int)=(i:Int)+1 from oM];rfl,rfl,?_⟩
  simpa using z
def ry(op:Int)(nm:NmQ)(vl:aa2):List AtD->Option Bool
 |[]=>none
 |a::l=>if P0 (a.space,a.loc) nm then some (decide (op=5)||decide (a.val=vl)) else ry op nm vl l
def zp(op:Int)(nm:NmQ)(vl:aa2):∀l,ry op nm vl l=if(C3 1 nm l).2 then some (decide (op=5)||decide ((C3 1 nm l).1=vl)) else none
 |[]=>rfl
 |a::l=>by
  rw[ry,C3];split
  .rfl
  .exact zp op nm vl l
def CR(H:d7)(F:Nat->Prop)(pf pe:Nat)(cs re:LV)(gf:H.g pf=cE cs 1)(S:H.g pe=cE re 1)(op:Int)(nm:NmQ)(vl:aa2)(c0:cs[0]?=some (.int .i64 op))(E:ldC (some true) (some 2) 1 cs=some (.agg #[.string nm.1,.string nm.2]))(c3:cs[3]?=some (.string vl))
  (va:Option Addr) (ca:Nat) (l:List AtD) (U:re[3]?=some (.slice va l.length ca)) (hv:SlF H F 3 (y7 atE) (.slice va l.length ca) l) (hn:l.length<=1000000) (r:Option Bool):
  ∀kk e H2,(∃i:Nat,kk=l.length-i/\i<=l.length/\e.g 5=pT pf/\e.g 6=pT pe/\e.g 14=iV i/\H2=H/\(if 5<=op then ry op nm vl (l.drop i) else none)=r)->
  u7 (LE prog l7 (.loop VM) e H2) (fun o e H2=>H2=H/\((o= .exit 2/\r=none/\e.g 5=pT pf)\/(∃b,o= .ret/\r=some b/\e.g 8= .bool b))):=by
 refine i5 _ _ ?_;rintro kk e H2 ⟨i,hk,hi,I,J,u,rfl,h⟩;rcases b:decide ((i:Int)<l.length)with _|_
 .have a1:=dF b;have:l.drop i=[]:=dN oM;rw[this,ry,ite_self]at h;refine J5 J u S U b ?_;exact i6 ⟨rfl,.inl ⟨rfl,h.symm,I⟩⟩
 have a1:=dT b;rcases D:decide (5<=op)with _|_
 .rw[bt (dF D)]at h;refine J9 I J u S gf c0 U b D ?_;exact i6 ⟨rfl,.inl ⟨rfl,h.symm,I⟩⟩
 rw[bJ (dT D)]at h;obtain⟨a,nb,o,O,own,el,hx,hd,rfl,a4,hg,a2,a3,hc,rfl⟩:=hv.row (i:=i) oM;have nt:(i:Int).toNat=i:=tN i;have l0:ldC (some true) (some 2) (o+i*3) O=some (.agg #[.string a.space,.string a.loc]):=yP hc a2 (j:=0) (m:=2) oM;have l2:O[o+i*3+2]?=some (.string a.val):=hc 2 oM;rw[hd,ry]at h;rcases W:P0 (a.space,a.loc) nm with _|_
 .simp only[W,bF]at h;have z:(decide (a.space=nm.1)&&decide (a.loc=nm.2))=false:=W;refine J15 I J u S gf c0 E U b D hg nt l0 z @wrap_small ?_;exact d8 (kk-1) oM ⟨i+1,oM,oM,I,J,by rw[show((i+1:Nat):Int)=(i:Int)+1 from oM];rfl,rfl,by rw[bJ (dT D)];exact h⟩
 .simp only[W,jd]at h;have z:(decide (a.space=nm.1)&&decide (a.loc=nm.2))=true:=W;rcases X:decide (op=5)with _|_
  .simp only[X,za]at h;refine J17 I J u S gf c0 E c3 U b D X hg nt l0 l2 z ?_;exact y9 ⟨rfl,.inr ⟨_,rfl,h.symm,rfl⟩⟩
  .simp only[X,EF]at h;refine J15 I J u S gf c0 E U b D X hg nt l0 z ?_;exact y9 ⟨rfl,.inr ⟨_,rfl,h.symm,rfl⟩⟩
def Aw(Hs:d7)(lo K k:Nat)(hk:k<=K)(ih:mu Hs lo K k):mu Hs lo K (k+1):=by
 intro H s e bs F rs re ba bc cs q hA hw a7 hr j3;obtain⟨d0,p4,p3,f6,k7⟩:=j3.parts;obtain⟨l3,l4,f7,p5⟩:=gJ k7;have m5:q.op<=11:=by
  simp only[eF,jd,cA,eT]at f6;exact f6.1.1
 simp only[jd]at f7;have a1:=I6 hr;have l6:=hr.len;have f4:=Q6 hr;rw[l6]at f4;simp only[qSz,jd]at l6 f4;obtain⟨va,ca,wa,f8,a6,h1,h2,h3,h4,_⟩:=hr.filter;have W:cs[0]?=some (.int .i64 q.op):=by rw[a6];rfl
 have c3:cs[3]?=some (.string q.vl):=by rw[a6];rfl
 have c4:cs[4]?=some (.slice va q.a.length ca):=by rw[a6];rfl
 have c5:cs[5]?=some (.slice wa q.b.length f8):=by rw[a6];rfl
 have d4:ldC (some true) (some 2) 1 cs=some (.agg #[.string q.sp,.string q.lc]):=by rw[a6];rfl
 obtain⟨pa,pc,ga,gc,xa,xc,ea,ec,ta,tc,a8,m1,m2,m3,_⟩:=I0 hA.st;obtain⟨av,a5,e2⟩:=hA.ev;obtain⟨d1,d2,rfl⟩:=e2.slice;have E:rs.all oC=true:=by rw[a8];rfl
 have D:re.all oC=true:=by rw[a5];rfl
 have c9:ldC (some true) (some 8) 0 rs=some (.agg rs.toArray):=by rw[a8];rfl
 have k6:ldC (some true) (some 5) 0 re=some (.agg re.toArray):=by rw[a5];rfl
 have r1:rs[1]?=some (.slice ga s.progs.length gc):=by rw[a8];rfl
 have r2:rs[2]?=some (.slice xa s.base.length xc):=by rw[a8];rfl
 have e0:re[0]?=some (.int .i64 e.kind):=by rw[a5];rfl
 have e3:re[3]?=some (.slice d1 e.attrs.length d2):=by rw[a5];rfl
 have e4:re[4]?=some (.string e.text):=by rw[a5];rfl
 have e1:ldC (some true) (some 2) 1 re=some (.agg #[.string e.space,.string e.loc]):=by rw[a5];rfl
 obtain⟨H1,u⟩:=eY (((d7.push ⟨H.bs,H.n⟩ (bC rs 1)).push (bC cs 1)).push (bC re 1));have n0:(d7.push ⟨H.bs,H.n⟩ (bC rs 1)).n=H.n+1:=by rw[i4];rfl
 have n1:H1.n=H.n+3:=by rw[u,i4,i4,n0]
 have s1:d9 H.n H H1:=by rw[u];exact((d9.first H _).trans (d9.push oM)).trans (d9.push (by rw[i4];omega))
 have g4:H1.g H.n=cE rs 1:=by rw[u,j5 (by rw[i4];omega),j5 oM];exact j6
 have S:H1.g (H.n+1)=cE cs 1:=by rw[u,j5 (by rw[i4];omega)];exact A4 oM
 have g6:H1.g (H.n+2)=cE re 1:=by rw[u];exact A4 (by rw[i4];omega)
 have m4:H.n<=H1.low:=by rw[u];exact lR
 have J:=hA.work s1;rw[i7 Sn rfl _ sM,vS];by_cases o8:q.op=8
 .have j1:q.a.length=1:=by simp only[o8,lst,mst,jd]at l3 l4;omega
  obtain⟨x,nb,ox,f9,own,el,hx,hd,rfl,c7,hg,j2,U,c8⟩:=h1.row (i:=0) oM;have a4:=(J.eq nb c7).trans hg;simp only[qSz,jd,Ck,ly]at U a4;have h8:=ih H1 s e bs F rs re ba bc el x J hw a7 c8 (d0 x (mG hx));have h6:q.a=[x]:=by
   have:q.a.drop 1=[]:=dN oM
   simpa [this] using hd
  rw[bt oM,bt oM,bt oM,bt oM,bt oM,bt oM,bt oM,bJ (.inl o8),h6];have hb:((List.any [x] fun x=> !E9 s e bs x)==decide (q.op=8))= !E9 s e bs x:=by simp [o8]
  rw[hb];exact J16 E a1 D u.symm g4 S g6 c9 k6 W c4 o8 j1 a4 U h8 trivial
 have b8:decide (q.op=8)=false:=dt o8;have k8:(q.op=8\/q.op=9)=(q.op=9):=by rw[eq_false o8,aaU]
 by_cases b0:q.op=9\/q.op=10
 .obtain⟨A,b5⟩:=eY (q.a.all (E9 s e bs));obtain⟨O,b6⟩:=eY (q.a.any (E9 s e bs));have e9:(if q.op=1 then true else if q.op=2 then decide (e.kind=1) else if q.op=3 then !decide (e.kind=1) else if q.op=4 then decide (e.kind=1)&&P0 (e.space,e.loc) (q.sp,q.lc) else
    if q.op=5 then(C3 e.kind (q.sp,q.lc) e.attrs).2 else if q.op=6 then(C3 e.kind (q.sp,q.lc) e.attrs).2&&decide ((C3 e.kind (q.sp,q.lc) e.attrs).1=q.vl) else if q.op=7 then !decide (e.kind=1)&&decide (e.text=q.vl) else
    if q.op=8\/q.op=9 then(q.a.any (fun x=> !E9 s e bs x)==decide (q.op=8)) else if q.op=10 then q.a.any (E9 s e bs) else q.b.any (gQ s bs))=(if q.op=9 then A else O):=by
   rw[bt oM,bt oM,bt oM,bt oM,bt oM,bt oM,bt oM];simp only[k8,b8];by_cases o9:q.op=9
   .rw[bJ o9,bJ o9,b5,List.all_eq_not_any_not];cases(q.a.any fun x=> !E9 s e bs x)<;>rfl
   .rw[bt o9,bt o9,bJ oM,b6]
  rw[e9];rcases b9:decide (q.op=9)with _|_
  .have X:decide (q.op=10)=true:=ib (oN (dF b9));rw[bt (dF b9)];refine J9 E a1 D u.symm S W b8 b9 X ?_;refine i8 (F:=fun z=>t6 _ _ _ (t7 (t7 (inBlock 0 z) _) _)=_) (wO Hs lo K k ih s e bs F H1 rs re ba bc J hw a7 H.n (H.n+1) (H.n+2) g4 cs S g6 va ca q.a c4 h1 h3 d0 (A,O) (q.a.length-0) _ _ ⟨0,true,false,rfl,wi _,rfl,rfl,rfl,rfl,rfl,rfl,rfl,rfl,by rw[lP,b5,b6];simp⟩) ?_;rintro o e' H' ⟨ho,k5,k9,f3,rfl⟩;cases A<;>cases O<;>simp(maxSteps:=20000000) -dsimp (disch:=first|omega|(simp only[rH]<;>omega)|fail) only[↓fk,rQ,N1,sevalprocAttr,tyA,ho,k5,f3,S,W,b9,X]
  .have X:decide (q.op=10)=false:=dt (oN (dT b9));rw[bJ (dT b9)];refine J8 E a1 D u.symm S W b8 b9 ?_;refine i8 (F:=fun z=>t6 _ _ _ (t7 (t7 (inBlock 0 z) _) _)=_) (wO Hs lo K k ih s e bs F H1 rs re ba bc J hw a7 H.n (H.n+1) (H.n+2) g4 cs S g6 va ca q.a c4 h1 h3 d0 (A,O) (q.a.length-0) _ _ ⟨0,true,false,rfl,wi _,rfl,rfl,rfl,rfl,rfl,rfl,rfl,rfl,by rw[lP,b5,b6];simp⟩) ?_;rintro o e' H' ⟨ho,k5,k9,f3,rfl⟩;cases A<;>cases O<;>simp(maxSteps:=20000000) -dsimp (disch:=first|omega|(simp only[rH]<;>omega)|fail) only[↓fk,rQ,N1,sevalprocAttr,tyA,ho,k5,k9,S,W,b9,X]
 have o9:q.op≠9:=fun h=>b0 (.inl h);have f5:q.op≠10:=fun h=>b0 (.inr h);have b9:decide (q.op=9)=false:=dt o9;have X:decide (q.op=10)=false:=dt f5;by_cases a9:q.op=11
 .have e6:q.b.length=1:=f7.1 a9;obtain⟨x,nb,ox,f9,own,el,hx,hd,rfl,c7,hg,j2,U,c8⟩:=h2.row (i:=0) oM;have a4:=(J.eq nb c7).trans hg;simp only[qSz,G3,bF,Ck,ly]at U a4;have h7:q.b=[x]:=by
   have:q.b.drop 1=[]:=dN oM
   simpa [this] using hd
  have e8:∀j,j<lo->H1.g j=Hs.g j:=J.eq;have a2:=lM K H1 F lo (QR Hs lo K true) rs el s x J.lo J.lt (J.st.mono (fun _ _=>rfl) (fun _ h=>h) (fun _ _ h=>h.mono e8 lR) iF) ((c8.upTo hk).mono e8 lR) hw.l0;rw[bt oM,bt oM,bt oM,bt oM,bt oM,bt oM,bt oM,bt oM,bt oM,h7];simp only[Ic,XN,TB];rw[gQ];have a3:=fq (fun y=>R1 y x) s.paths 0;obtain⟨z,hz⟩:=eY (mT s.paths x);rw[<-hz]at a2 ⊢;rw[show ixG (fun y=>R1 y x) s.paths 0=z from hz.symm]at a3;rcases bz:decide (0<=z)with _|_
  .exact J15 E a1 D u.symm g4 S c9 W c5 a9 e6 a4 U a2 bz trivial
  have n6:=dT bz;have f2:z.toNat<s.paths.length:=by rcases a3 with q|q<;>omega
  have e7:∀j,F j->H1.g j=H.g j:=fun j hj=>s1.g j (hA.lt j hj);obtain⟨xb,p0,o3,m9,m6,g2,f0,_,rfl,n3,i2,l5,k0,h9,g8⟩:=(SlF.mono m3 e7 (fun _ h=>h) iF).row (i:=z.toNat) (by rw[hw.l2];exact f2);obtain⟨xp,np,op,cp,m7,n2,f1,_,rfl,n4,i3,l8,k1,i0,g9⟩:=(SlF.mono m2 e7 (fun _ h=>h) iF).row (i:=z.toNat) (by rw[hw.l1];exact f2);obtain rfl:g2=inE xb:=g8;obtain⟨_,_,_,_,e5,_⟩:=F0 g9;have d5:=h9 0 oM;have d6:=i0 1 oM;rw[e5]at d6;rw[ly]at d5;obtain⟨w1,w2,w3⟩:=hw.at_ z.toNat xp xb f1 f0;have o0:=w3.sa;have o6:=w3.st;have n9:=hw.nle;have eb:s.base.getD z.toNat 0=xb:=by rw[dE,f0];rfl
  have ep:(s.progs.getD z.toNat ⟨0,0,0,[],[]⟩).sa=xp.sa:=by rw[dE,f1];rfl
  rw[eb,ep,cr];obtain⟨bv,nv,ov,cv,m8,g3,k3,_,rfl,n5,j0,m0,k2,i1,h0⟩:=J.bi.row (i:=(xb+xp.sa).toNat) oM;obtain rfl:g3=xr bv:=h0;have g0:cv[ov+(xb+xp.sa).toNat*1]?=some (.int .u8 (if bv=true then 1 else 0)):=by have:=i1 0 oM;rw[ly]at this;exact this
  have g1:bs.getD (xb+xp.sa).toNat false=bv:=by rw[dE,k3];rfl
  rw[g1];have n7:=hw.l1;have n8:=hw.l2;have db:decide ((if bv=true then(1:Int) else 0)=1)=bv:=by cases bv<;>rfl
  exact J25 E a1 D u.symm g4 S c9 W c5 a9 e6 a4 U a2 bz r1 r2 i2 d5 i3 d6 j0 g0 db @wrap_small trivial
 have d3:decide (q.op=11)=false:=dt a9;rw[bt (by omega:¬(q.op=8\/q.op=9)),bt f5];by_cases o1:q.op=1
 .rw[bJ o1];exact J7 E a1 D u.symm S W o1 trivial
 rw[bt o1];have b1:decide (q.op=1)=false:=dt o1;by_cases o3:q.op=3
 .rw[bt oM,bJ o3];rcases d:decide (e.kind=1)with _|_
  .exact J10 E a1 D u.symm S g6 W e0 o3 d trivial
  .exact J10 E a1 D u.symm S g6 W e0 o3 d trivial
 have b3:decide (q.op=3)=false:=dt o3;by_cases o7:q.op=7
 .rw[bt oM,bt o3,bt oM,bt oM,bt oM,bJ o7];rcases d:decide (e.kind=1)with _|_
  .exact J12 E a1 D u.symm S g6 W c3 e0 e4 o7 d trivial
  .exact J10 E a1 D u.symm S g6 W e0 o7 d trivial
 have b7:decide (q.op=7)=false:=dt o7;have g7:∀(k:Int)(nm:NmQ),k≠1->∀l,(C3 k nm l).2=false:=by
  intro k nm hk l;induction l with
  |nil=>rfl
  |cons a l ih=>
   rw[C3];split
   .exact dt hk
   .exact ih
 rcases d:decide (e.kind=1)with _|_
 .have c6:e.kind≠1:=dF d;have j4:(if q.op=2 then false else if q.op=3 then !false else if q.op=4 then false&&P0 (e.space,e.loc) (q.sp,q.lc) else
    if q.op=5 then(C3 e.kind (q.sp,q.lc) e.attrs).2 else if q.op=6 then(C3 e.kind (q.sp,q.lc) e.attrs).2&&decide ((C3 e.kind (q.sp,q.lc) e.attrs).1=q.vl) else if q.op=7 then !false&&decide (e.text=q.vl) else q.b.any (gQ s bs))=false:=by
   rw[g7 _ _ c6];by_cases o2:q.op=2
   .rw[bJ o2]
   .rw[bt o2,bt o3];by_cases o4:q.op=4
    .rw[bJ o4];rfl
    .rw[bt o4];by_cases o5:q.op=5
     .rw[bJ o5]
     .rw[bt o5,bJ oM];rfl
  rw[j4];exact J16 E a1 D u.symm S g6 W e0 b1 b3 b7 b8 b9 X d3 d trivial
 have c6:e.kind=1:=dT d;by_cases o4:q.op=4
 .rw[bt oM,bt o3,bJ o4];exact J12 E a1 D u.symm S g6 W d4 e0 e1 o4 d trivial
 have b4:decide (q.op=4)=false:=dt o4;rw[bt o3,bt o4,bt o7,c6];refine J17 E a1 D u.symm S g6 W e0 b1 b3 b4 b7 b8 b9 X d3 d ?_;refine i8 (F:=fun z=>t6 _ _ _ (t7 (inBlock 2 z) _)=_) (CR H1 F (H.n+1) (H.n+2) cs re S g6 q.op (q.sp,q.lc) q.vl W d4 c3 d1 d2 e.attrs e3 (e2.mono (fun j hj=>s1.g j (hA.lt j hj)) (fun _ h=>h) iF) a7 (if 5<=q.op then ry q.op (q.sp,q.lc) q.vl e.attrs else none) (e.attrs.length-0) _ _ ⟨0,rfl,wi _,rfl,rfl,rfl,rfl,rfl⟩) ?_;rw[zp];rintro o e' H' ⟨rfl,⟨ho,I,k5⟩|⟨bb,ho,I,k4⟩⟩
 .by_cases o2:q.op=2
  .rw[bJ o2];exact J5 ho k5 S W o2 trivial
  .rw[bt o2];have b2:decide (q.op=2)=false:=dt o2;rw[bJ oM]at I;have hf:(C3 1 (q.sp,q.lc) e.attrs).2=false:=by
    cases h:(C3 1 (q.sp,q.lc) e.attrs).2 with
    |false=>rfl
    |true=>rw[h]at I;cases I
   rw[hf];simp only[Bi,ite_self];have hq:(if q.op=5 then false else if q.op=6 then false else q.b.any (gQ s bs))=false:=by
    by_cases o5:q.op=5
    .rw[bJ o5]
    .rw[bt o5,bJ oM]
   rw[hq];exact J5 ho k5 S W b2 trivial
 .have h5:5<=q.op:=by
   by_cases h5:5<=q.op
   .exact h5
   .rw[bt h5]at I;cases I
  rw[bJ h5]at I;have hf:(C3 1 (q.sp,q.lc) e.attrs).2=true:=by
   cases h:(C3 1 (q.sp,q.lc) e.attrs).2 with
   |true=>rfl
   |false=>rw[h]at I;cases I
  rw[hf]at I ⊢;simp only[jd,ky]at I;rw[bt oM];have hq:(if q.op=5 then true else if q.op=6 then true&&decide ((C3 1 (q.sp,q.lc) e.attrs).1=q.vl) else q.b.any (gQ s bs))=bb:=by
   by_cases o5:q.op=5
   .rw[bJ o5,<-I,o5];rfl
   .rw[bt o5,bJ oM,<-I,dt o5];rfl
  rw[hq];exact J2 ho k4 trivial
def CS(h:d7)(lo K:Nat):∀k,k<=K+1->mu h lo K k:=by
 intro k;induction k with
 |zero=>intro _ H s e bs F O J D E cs q _ _ _ u;exact u.elim
 |succ k z=>intro I;exact Aw h lo K k oM (z oM)
structure EnS(v4 v5 v6 v7 v8 v9 v10 v11:aa3)(e:Env):Prop where
 g4:e.g 4=v4
 g5:e.g 5=v5
 g6:e.g 6=v6
 g7:e.g 7=v7
 g8:e.g 8=v8
 g9:e.g 9=v9
 g10:e.g 10=v10
 g11:e.g 11=v11
def BC(Hs:d7)(lo K:Nat)(s:StD)(ev:EvD)(bs:List Bool)(F:Nat->Prop)(u:d7)(U S:LV)(X:Option Addr)(bc:Nat)(hA:BJ Hs lo K s ev bs F u U S X bc)(hw:WfS s bs.length)(a7:ev.attrs.length<=1000000)
  (ps pe pm:Nat) (gs:u.g ps=cE U 1) (ge:u.g pe=cE S 1) (rp:LV) (gm:u.g pm=cE rp 1) (va:Option Addr) (ca:Nat) (l:List Q) (p4:rp[4]?=some (.slice va l.length ca)) (hv:SlF u F 6 (QR Hs lo K true) (.slice va l.length ca) l) (hn:l.length<=1000000) (b0:∀x∈l,OkD true x) (v6 v7 v8 W:aa3):
  ∀kk e H2,(∃(i:Nat)(w:aa3),kk=l.length-i/\i<=l.length/\EnS (pT ps) (pT pe) v6 v7 v8 (.slice X bs.length bc) W (pT pm) e/\e.g 12=w/\e.g 13=iV i/\d9 u.n u H2/\u5 H2 u.n 1 (y7 boE) w ((l.take i).map (E9 s ev bs)))->
  u7 (LE prog l7 (.loop Vj) e H2) (fun o e H2=>o= .exit 2/\EnS (pT ps) (pT pe) v6 v7 v8 (.slice X bs.length bc) W (pT pm) e/\d9 u.n u H2/\∃w,e.g 12=w/\u5 H2 u.n 1 (y7 boE) w (l.map (E9 s ev bs))):=by
 refine i5 _ _ ?_;rintro kk e H2 ⟨i,w,hk,hi,h,D,E,z,hO⟩;have b8:=z.n;have I:=(z.g pm (u6 gm)).trans gm;have a2:=(z.g ps (u6 gs)).trans gs;have a1:=(z.g pe (u6 ge)).trans ge;rcases b:decide ((i:Int)<l.length)with _|_
 .have a8:=dF b;have:l.take i=l:=kC oM;rw[this]at hO;refine J5 h.g11 E I p4 b ?_;exact i6 ⟨rfl,⟨h.g4,h.g5,h.g6,h.g7,h.g8,h.g9,h.g10,h.g11⟩,z,w,D,hO⟩
 have a8:=dT b;obtain⟨x,nb,o,cs,own,el,hx,hd,rfl,a3,hg,b7,O,hc,hR⟩:=hv.row (i:=i) oM;have nt:(i:Int).toNat=i:=tN i;have g2:=(z.g nb (hA.lt _ a3)).trans hg;have b5:ldC (some true) (some 8) 0 U=some (.agg U.toArray):=by
  obtain⟨pa,pc,ga,gc,xa,xc,ea,ec,ta,tc,b2,_⟩:=I0 hA.st;rw[b2];rfl
 have b4:ldC (some true) (some 5) 0 S=some (.agg S.toArray):=by
  obtain⟨av,b1,b6⟩:=hA.ev;rw[b1];rfl
 have a9:=CS Hs lo K K oM H2 s ev bs F U S X bc el x (hA.work z) hw a7 hR (b0 x (mG hx));have b3:(l.take (i+1)).map (E9 s ev bs)=(l.take i).map (E9 s ev bs)++[E9 s ev bs x]:=by rw[Hq,hx,GT];rfl
 obtain⟨w4,h4,H4,a6,J,a5,a4⟩:=hO.push1F (P:=prog) (t:=141) (cs:=boE (E9 s ev bs x)) (a:=E9 s ev bs x) (by exact FE.2.2.2.2.2.2) ty4.1 ty4.2.1 ty4.2.2.1 oM oM rfl rfl (by simp;omega) oM;refine J20 h.g4 h.g5 h.g9 h.g11 D E b I a2 a1 p4 b5 b4 g2 nt O a9 a6 J @wrap_small ?_;exact d8 (kk-1) oM ⟨i+1,w4,oM,oM,⟨h.g4,h.g5,h.g6,h.g7,h.g8,h.g9,h.g10,h.g11⟩,rfl,by rw[show((i+1:Nat):Int)=(i:Int)+1 from oM];rfl,z.trans a4.stay,by rw[b3];exact a5⟩
def tu(fi ne:SoD)(b:Int)(x:EdD):Bool:=(decide (x.2.2.1=1)&&lG fi (b+x.2.1))||(decide (x.2.2.1=2)&&lG ne (b+x.2.1))
def zT(D:d7)(F:Nat->Prop)(hF:∀j,F j->j<D.n) (Rp Rt:LV->Q->Prop) (s:StD) (rs:LV) (hs:StF D F Rp Rt rs s) (fi ne:SoD) (n:Nat) (hn:n<=1000000) (e5:ek fi n) (e9:ek ne n) (ps pf pn pm:Nat) (gs:D.g ps=cE rs 1) (gf:D.g pf=cE (soE fi) 1) (gn:D.g pn=cE (soE ne) 1)
  (rp:LV) (gm:D.g pm=cE rp 1) (i:Nat) (b:Int) (b9:s.base[i]?=some b) (hi:i<=1000000) (hb:0<=b/\b<=1000000) (st:Int) (h8:b+st<=n) (va:Option Addr) (ca:Nat) (l:List EdD) (p3:rp[3]?=some (.slice va l.length ca)) (hv:SlF D F 4 (y7 edE) (.slice va l.length ca) l) (hl:l.length<=1000000) (hw:∀x∈l,0<=x.1/\x.1<st/\0<=x.2.1/\x.2.1<st)
  (G:Nat->Prop) (hG:∀j,G j->j<D.n) (cl:List Bool) (ka:Option Addr) (kc:Nat) (e4:SlF D G 1 (y7 boE) (.slice ka cl.length kc) cl) (g2:(cl.length:Int)=st) (v5 v8 v9 a9 b0:aa3) (r:Bool):
  ∀kk e H2,(∃(j:Nat)(ok:Bool),kk=l.length-j/\j<=l.length/\EnS (pT ps) v5 (pT pf) (pT pn) v8 v9 (.int .i64 i) (pT pm) e/\e.g 12=a9/\e.g 14=b0/\e.g 15= .slice ka cl.length kc/\e.g 16= .bool ok/\e.g 17=iV j/\d9 D.n D H2/\(ok||(l.drop j).any fun x=>cl.getD x.1.toNat false&&tu fi ne b x)=r)->
  u7 (LE prog l7 (.loop Vk) e H2) (fun o e H2=>o= .exit 6/\EnS (pT ps) v5 (pT pf) (pT pn) v8 v9 (.int .i64 i) (pT pm) e/\e.g 12=a9/\e.g 14=b0/\e.g 16= .bool r/\d9 D.n D H2):=by
 refine i5 _ _ ?_;rintro kk e H2 ⟨j,ok,hk,hj,h,I,J,u,a7,O,hS,E⟩;have h0:=hS.n;have S:=(hS.g pm (u6 gm)).trans gm;rcases bj:decide ((j:Int)<l.length)with _|_
 .have d4:=dF bj;have:l.drop j=[]:=dN oM;rw[this,XN,TB]at E;refine J5 h.g11 O S p3 bj ?_;exact i6 ⟨rfl,⟨h.g4,h.g5,h.g6,h.g7,h.g8,h.g9,h.g10,h.g11⟩,I,J,by rw[<-E];exact a7,hS⟩
 have d4:=dT bj;have a5:(j:Int).toNat=j:=tN j;have b4:(i:Int).toNat=i:=tN i;obtain⟨x,nb,o,cs,own,el,hx,hd,rfl,d0,hg,g3,z,g1,U⟩:=hv.row (i:=j) oM;have U:el=edE x:=U;obtain⟨w1,w2,w3,w4⟩:=hw x (mG hx);have gx:=(hS.g nb (hF _ d0)).trans hg;have a1:el.all oC=true:=by rw[U];rfl
 have l1:el.length=4:=by rw[U];rfl
 have e0:el[0]?=some (.int .i64 x.1):=by rw[U];rfl
 have e1:el[1]?=some (.int .i64 x.2.1):=by rw[U];rfl
 have e2:el[2]?=some (.int .i64 x.2.2.1):=by rw[U];rfl
 obtain⟨H3,a4,n3,a3,s3⟩:=pushP H2 (bC [iV 0,iV 0,iV 0,iV 0] 1) (bC el 1);have a6:splice [iV 0,iV 0,iV 0,iV 0] 0 el=el:=A0 _ _ (by rw[l1];rfl);have W:d9 D.n D H3:=hS.trans (s3.wk oM);have b3:=(W.g ps (u6 gs)).trans gs;have b7:=(W.g pf (u6 gf)).trans gf;have b8:=(W.g pn (u6 gn)).trans gn;obtain⟨pa,pc,ga,gc,xa,xc,ea,ec,ta,tc,f2,m1,m2,m3,_⟩:=I0 hs;have r2:rs[2]?=some (.slice xa s.base.length xc):=by rw[f2];rfl
 have e8:=(gS b9).1;obtain⟨xb,f4,o3,c5,f7,c7,c0,_,rfl,c9,e6,f5,f0,d5,d2⟩:=m3.row (i:=i) e8;obtain rfl:c7=inE xb:=d2;rw[b9]at c0;cases c0;have b1:c5[o3+i*1]?=some (.int .i64 b):=by have:=d5 0 oM;rw[ly]at this;exact this
 have b2:=(W.g f4 (hF _ c9)).trans e6;obtain⟨cv,nk,b6,ck,f8,c8,f3,_,rfl,d1,e7,f6,f1,d6,d3⟩:=e4.row (i:=x.1.toNat) oM;obtain rfl:c8=boE cv:=d3;have X:ck[b6+x.1.toNat*1]?=some (.bool cv):=by have:=d6 0 oM;rw[ly]at this;exact this
 have a2:=(W.g nk (hG _ d1)).trans e7;have c6:cl.getD x.1.toNat false=cv:=by rw[dE,f3];rfl
 have c1:=QA H3 fi (b+x.2.1) n e5 oM oM;have c2:=QA H3 ne (b+x.2.1) n e9 oM oM;have c3:ldC (some true) (some 3) 0 (soE fi)=some (.agg (soE fi).toArray):=rfl;have c4:ldC (some true) (some 3) 0 (soE ne)=some (.agg (soE ne).toArray):=rfl;have f9:decide (x.1<(cl.length:Int))=true:=ib oM;have g0:decide ((i:Int)<s.base.length)=true:=ib oM;rw[hd,Ic,c6,tu]at E;cases cv with
 |false=>
  simp only[Bi,za]at E;refine J18 h.g11 u O S p3 bj gx a5 z a1 l1 a6 a4.symm a3 e0 a2 X @wrap_small ?_;exact d8 (kk-1) oM ⟨j+1,ok,oM,oM,⟨h.g4,h.g5,h.g6,h.g7,h.g8,h.g9,h.g10,h.g11⟩,I,J,u,a7,by rw[show((j+1:Nat):Int)=(j:Int)+1 from oM];rfl,W,E⟩
 |true=>
  simp only[tT]at E;have a8:∀(b5:Bool)(e3:Env),EnS (pT ps) v5 (pT pf) (pT pn) v8 v9 (.int .i64 i) (pT pm) e3->e3.g 12=a9->e3.g 14=b0->e3.g 15= .slice (some ⟨nk,b6,none⟩) cl.length kc->e3.g 16= .bool b5->e3.g 17=iV ((j+1:Nat):Int)->(b5||(l.drop (j+1)).any fun x=>cl.getD x.1.toNat false&&tu fi ne b x)=r->
    ci kk (fun kk e H2=>∃(j:Nat)(ok:Bool),kk=l.length-j/\j<=l.length/\EnS (pT ps) v5 (pT pf) (pT pn) v8 v9 (.int .i64 i) (pT pm) e/\e.g 12=a9/\e.g 14=b0/\e.g 15= .slice (some ⟨nk,b6,none⟩) cl.length kc/\e.g 16= .bool ok/\e.g 17=iV j/\d9 D.n D H2/\(ok||(l.drop j).any fun x=>cl.getD x.1.toNat false&&tu fi ne b x)=r) (fun o e H2=>o= .exit 6/\EnS (pT ps) v5 (pT pf) (pT pn) v8 v9 (.int .i64 i) (pT pm) e/\e.g 12=a9/\e.g 14=b0/\e.g 16= .bool r/\d9 D.n D H2) .normal e3 H3:=
   fun b5 e3 h1 h2 h3 h4 h5 h6 h7=>d8 (kk-1) oM ⟨j+1,b5,oM,oM,h1,h2,h3,h4,h5,h6,W,h7⟩
  have ej:((j+1:Nat):Int)=(j:Int)+1:=oM;rcases k1:decide (x.2.2.1=1)with _|_
  .rcases k2:decide (x.2.2.1=2)with _|_
   .simp only[k1,k2,Bi,aa1,za]at E;refine J21 h.g11 u O S p3 bj gx a5 z a1 l1 a6 a4.symm a3 e0 e2 a2 X k1 k2 @wrap_small ?_;exact a8 ok _ ⟨h.g4,h.g5,h.g6,h.g7,h.g8,h.g9,h.g10,h.g11⟩ I J u a7 (by rw[ej];rfl) E
   .simp only[k1,k2,Bi,tT,za]at E;rcases g:lG ne (b+x.2.1)with _|_
    .rw[g]at c2;simp only[g,za]at E;refine J30 h.g4 h.g7 h.g10 h.g11 u O S p3 bj gx a5 b4 z a1 l1 a6 a4.symm a3 e0 e1 e2 a2 X k1 k2 b3 r2 (aI b2 b1) (aI b8 c4) (aI c2 @wrap_small) ?_;exact a8 ok _ ⟨h.g4,h.g5,h.g6,h.g7,h.g8,h.g9,h.g10,h.g11⟩ I J u a7 (by rw[ej];rfl) E
    .rw[g]at c2;simp only[g,EF,LS]at E;refine J30 h.g4 h.g7 h.g10 h.g11 u O S p3 bj gx a5 b4 z a1 l1 a6 a4.symm a3 e0 e1 e2 a2 X k1 k2 b3 r2 (aI b2 b1) (aI b8 c4) (aI c2 @wrap_small) ?_;exact a8 true _ ⟨h.g4,h.g5,h.g6,h.g7,h.g8,h.g9,h.g10,h.g11⟩ I J u rfl (by rw[ej];rfl) (by rw[EF];exact E)
  .have k2:decide (x.2.2.1=2)=false:=dt (oN (dT k1));simp only[k1,k2,Bi,tT,TB]at E;rcases g:lG fi (b+x.2.1)with _|_
   .rw[g]at c1;simp only[g,za]at E;refine J30 h.g4 h.g6 h.g10 h.g11 u O S p3 bj gx a5 b4 z a1 l1 a6 a4.symm a3 e0 e1 e2 a2 X k1 k2 b3 r2 (aI b2 b1) (aI b7 c3) (aI c1 @wrap_small) ?_;exact a8 ok _ ⟨h.g4,h.g5,h.g6,h.g7,h.g8,h.g9,h.g10,h.g11⟩ I J u a7 (by rw[ej];rfl) E
   .rw[g]at c1;simp only[g,EF,LS]at E;refine J30 h.g4 h.g6 h.g10 h.g11 u O S p3 bj gx a5 b4 z a1 l1 a6 a4.symm a3 e0 e1 e2 a2 X k1 b3 r2 b2 b1 (aI b7 c3) (aI c1 @wrap_small) ?_;exact a8 true _ ⟨h.g4,h.g5,h.g6,h.g7,h.g8,h.g9,h.g10,h.g11⟩ I J u rfl (by rw[ej];rfl) (by rw[EF];exact E)
structure Fr2(pb:Nat)(H H':d7):Prop where
 stay:d9 pb H H'
 but:∀j,j<H.n->j≠pb->H'.g j=H.g j
def Fr2.refl(h:Nat)(H:d7):Fr2 h H H:=⟨d9.refl _ _,fun _ _ _=>rfl⟩
def Fr2.trans{u:Nat}{A B C:d7}(h:Fr2 u A B)(k:Fr2 u B C):Fr2 u A C:=⟨h.stay.trans k.stay,fun j D z=>by rw[k.but j (oN (h.stay.n)) z,h.but j D z]⟩
def Fr2.of{u:Nat}{H H':d7}(h:d9 H.n H H')(D:u<=H.n):Fr2 u H H':=⟨h.wk D,fun j z _=>h.g j z⟩
def Fr2.put{h:Nat}{H:d7}{B:Blk}:Fr2 h H (H.put h B):=⟨d9.put lR,fun j _ u=>j7 (fun q=>u q.symm)⟩
def okR(fi ne:SoD)(hs:List Bool)(p:PrD)(b:Int)(q:Nat):Bool:=(iJ hs p q).getD p.en.toNat false||p.ed.any fun x=>(iJ hs p q).getD x.1.toNat false&&tu fi ne b x
def uT(f:Nat->Bool)(b:Int):Nat->Nat->List Bool->List Bool
 |0,_,bs=>bs
 |k+1,q,bs=>uT f b k (q+1) (if f q then bs.set (b+q).toNat true else bs)
def Bd(f:Nat->Bool)(b:Int):∀(k q:Nat)(bs:List Bool),(uT f b k q bs).length=bs.length
 |0,_,bs=>rfl
 |k+1,q,bs=>by
  rw[uT,Bd f b k];split<;>simp
def yM(O:d7)(F:Nat->Prop)(D:Nat)(hF:∀j,F j->j<O.n/\j≠D) (Rp Rt:LV->Q->Prop) (s:StD) (rs:LV) (hs:StF O F Rp Rt rs s) (fi ne:SoD) (n:Nat) (hn:n<=1000000) (f0:ek fi n) (f8:ek ne n) (ps pf pn pm:Nat) (gs:O.g ps=cE rs 1) (gf:O.g pf=cE (soE fi) 1) (gn:O.g pn=cE (soE ne) 1) (k0:D<O.n) (E:ps≠D/\pf≠D/\pn≠D/\pm≠D)
  (rp:LV) (p:PrD) (hp:PrF O F Rt rp p) (gm:O.g pm=cE rp 1) (i:Nat) (b:Int) (b0:s.base[i]?=some b) (hi:i<=1000000) (hb:0<=b/\b<=1000000) (g2:b+p.st<=n) (hw:PWf p) (hl:p.ed.length<=1000000)
  (G:Nat->Prop) (hG:∀j,G j->j<O.n/\j≠D) (I:List Bool) (ha:Option Addr) (hc:Nat) (hh:SlF O G 1 (y7 boE) (.slice ha I.length hc) I) (h0:I.length=p.ts.length) (v5 v8:aa3) (r:List Bool):
  ∀kk e H2,(∃(q:Nat)(bs:List Bool),kk=p.st.toNat-q/\q<=p.st.toNat/\EnS (pT ps) v5 (pT pf) (pT pn) v8 (sL D n (n+1)) (.int .i64 i) (pT pm) e/\e.g 12= .slice ha I.length hc/\e.g 14=iV q/\bs.length=n/\H2.g D=cE (bs.map bX) 1/\Fr2 D O H2/\uT (okR fi ne I p b) b (p.st.toNat-q) q bs=r)->
  u7 (LE prog l7 (.loop Vl) e H2) (fun o e H2=>o= .exit 4/\EnS (pT ps) v5 (pT pf) (pT pn) v8 (sL D n (n+1)) (.int .i64 i) (pT pm) e/\r.length=n/\H2.g D=cE (r.map bX) 1/\Fr2 D O H2):=by
 refine i5 _ _ ?_;rintro kk e H2 ⟨q,bs,hk,hq,J,b3,a8,a2,gb,a1,X⟩;obtain⟨ea,ec,ta,tc,a3,e9,j3⟩:=F0 hp;have p0:rp[0]?=some (.int .i64 p.st):=by rw[a3];rfl
 have p2:rp[2]?=some (.int .i64 p.en):=by rw[a3];rfl
 have p3:rp[3]?=some (.slice ea p.ed.length ec):=by rw[a3];rfl
 have h4:ldC (some true) (some 5) 0 rp=some (.agg rp.toArray):=by rw[a3];rfl
 have b5:=(a1.but pm (u6 gm) E.2.2.2).trans gm;have n2:=a1.stay.n;have i0:=hw.st;have j4:=hw.en;rcases bq:decide ((q:Int)<p.st)with _|_
 .have e6:=dF bq;rw[show p.st.toNat-q=0 from oM,uT]at X;refine J5 J.g11 a8 b5 p0 bq ?_;exact i6 ⟨rfl,⟨J.g4,J.g5,J.g6,J.g7,J.g8,J.g9,J.g10,J.g11⟩,by rw[<-X];exact a2,by rw[<-X];exact gb,a1⟩
 have e6:=dT bq;rw[show p.st.toNat-q=(p.st.toNat-(q+1))+1 from oM,uT]at X;obtain⟨H3,e3,n3,g3,s3⟩:=pushE H2 (bC [iV q] 1);have a7:Fr2 D O H3:=a1.trans (Fr2.of s3 oM);have e2:∀j,(F j\/G j\/j=H2.n)->j<H3.n:=by
  rintro j (h|h|h)
  .have:=hF j h;omega
  .have:=hG j h;omega
  .omega
 have h2:=XL H3 (fun j=>F j\/G j\/j=H2.n) Rt rp p e2
  (hp.mono (fun j U=>a7.but j (hF j U).1 (hF j U).2) (fun _ h=> .inl h) iF) p.st.toNat oM oM hl q oM (sP H2.n) 1 (.inr ⟨H2.n,0,1,rfl,.inr ⟨_,true,.inr (.inr rfl),g3,by simp,fun i a ha=>by
   have f4:i=0:=by have:=(gS ha).1;simp at this;omega
   subst f4;have:a=(q:Int):=by simpa using ha.symm
   subst this;rfl⟩⟩) ha hc I (hh.mono (fun j U=>a7.but j (hG j U).1 (hG j U).2) (fun _ h=> .inr (.inl h)) iF) (fun x hx=>by have:=hw.ed x hx;rw[h0];exact this)
 obtain⟨cv,ch,H4,b8,f2,hO,s4⟩:=h2;obtain⟨ka,kc,rfl⟩:=hO.slice;obtain⟨cl,b1⟩:=eY (iJ I p q);rw[<-b1]at hO b8;have h3:(cl.length:Int)=p.st:=by rw[b1,iJ,EM,zC,Qw];omega
 have n4:=s4.n;have S:Fr2 D O H4:=a7.trans (Fr2.of s4 oM);obtain⟨xv,nk,c5,ck,i2,d3,h1,_,f7,j2,f3,h9,g0,e8,e5⟩:=hO.sl.row (i:=p.en.toNat) oM;obtain rfl:d3=boE xv:=e5;subst f7;have c8:ck[c5+p.en.toNat*1]?=some (.bool xv):=by have:=e8 0 oM;rw[ly]at this;exact this
 have d4:cl.getD p.en.toNat false=xv:=by rw[dE,h1];rfl
 have b6:=(S.but pm (u6 gm) E.2.2.2).trans gm;have b9:∀j,F j->H4.g j=O.g j:=fun j U=>S.but j (hF j U).1 (hF j U).2;have i3:decide (p.en<(cl.length:Int))=true:=ib oM;obtain⟨ob,c0⟩:=eY (okR fi ne I p b q);have c3:(xv||p.ed.any fun x=>cl.getD x.1.toNat false&&tu fi ne b x)=ob:=by rw[c0,okR,<-b1,d4]
 refine J14 J.g11 b3 a8 b5 p0 p2 h4 bq e3.symm b8 f2 b6 f3 c8 ?_;refine i8 (F:=fun z=>u7 (t7 (inBlock 5 (t7 (inBlock 6 z) _)) _) _) (zT H4 F (fun j U=>by have:=hF j U;omega) Rp Rt s rs (hs.mono b9 (fun _ h=>h) iF iF) fi ne n hn f0 f8 ps pf pn pm ((S.but ps (u6 gs) E.1).trans gs) ((S.but pf (u6 gf) E.2.1).trans gf) ((S.but pn (u6 gn) E.2.2.1).trans gn) rp b6 i b b0 hi hb p.st g2 ea ec p.ed p3 (e9.mono b9 (fun _ h=>h) iF) hl (fun x hx=>by have:=hw.ed x hx;exact⟨this.1,this.2.1,this.2.2.1,this.2.2.2.1⟩) (· <H4.n) (fun _ h=>h) cl (some ⟨nk,c5,none⟩) kc hO.sl.slF h3 v5 v8 (sL D n (n+1)) (.slice ha I.length hc) (.int .i64 q) ob (p.ed.length-0) _ _ ⟨0,xv,rfl,wi _,⟨J.g4,J.g5,J.g6,J.g7,J.g8,J.g9,J.g10,J.g11⟩,b3,a8,rfl,rfl,rfl,d9.refl _ _,c3⟩) ?_;rintro o' e' H5 ⟨ho,u,a4,a5,a6,s5⟩;have n5:=s5.n;have W:Fr2 D O H5:=S.trans (Fr2.of s5 oM);have b4:H5.g D=cE (bs.map bX) 1:=((s5.g D oM).trans (s4.g D oM)).trans ((s3.g D oM).trans gb);have b2:((q+1:Nat):Int)=(q:Int)+1:=oM;rw[<-c0]at X;cases ob with
 |false=>
  simp only[bF]at X;refine J4 ho a6 a5 @wrap_small ?_;exact d8 (kk-1) oM ⟨q+1,bs,oM,oM,⟨u.g4,u.g5,u.g6,u.g7,u.g8,u.g9,u.g10,u.g11⟩,a4,by rw[b2];rfl,a2,b4,W,X⟩
 |true=>
  simp only[jd]at X;have h6:(i:Int).toNat=i:=tN i;obtain⟨pa,pc,ga,gc,xa,xc,j0,j1,k1,k2,g1,m1,m2,m3,_⟩:=I0 hs;have r2:rs[2]?=some (.slice xa s.base.length xc):=by rw[g1];rfl
  have f5:=(gS b0).1;obtain⟨xb,h5,o3,c9,i1,d2,c4,_,rfl,b7,f1,h8,f9,e7,e4⟩:=m3.row (i:=i) f5;obtain rfl:d2=inE xb:=e4;rw[b0]at c4;cases c4;have c7:c9[o3+i*1]?=some (.int .i64 b):=by have:=e7 0 oM;rw[ly]at this;exact this
  have d5:=(W.but h5 (hF _ b7).1 (hF _ b7).2).trans f1;have e1:=(W.but ps (u6 gs) E.1).trans gs;have h7:decide ((i:Int)<s.base.length)=true:=ib oM;have bl:(bs.map bX).length=n:=by rw[ED];exact a2
  have f6:(b+(q:Int)).toNat*1+1<=n:=oM;have d1:decide (b+(q:Int)<n)=true:=ib oM;have d0:decide (0<=b+(q:Int))=true:=ib oM;obtain⟨H6,a9⟩:=eY (H5.put D (.cells ((bs.map bX).set ((b+(q:Int)).toNat*1) (.int .u8 1)) true 1));have d6:H6.g D=some (.cells ((bs.set (b+(q:Int)).toNat true).map bX) true 1):=by rw[a9,i9 oM,yD,aaD];rfl
  have c6:Fr2 D O H6:=W.trans (by rw[a9];exact Fr2.put);refine J16 ho a6 a5 u.g4 u.g9 u.g10 e1 r2 h6 d5 c7 b4 bl f6 a9.symm @wrap_small ?_;exact d8 (kk-1) oM ⟨q+1,_,oM,oM,⟨u.g4,u.g5,u.g6,u.g7,u.g8,u.g9,u.g10,u.g11⟩,a4,by rw[b2];rfl,by rw[zC];exact a2,d6,c6,X⟩
def nN(s:StD)(e:EvD)(fi ne:SoD)(p:PrD)(b:Int)(bs:List Bool):List Bool:=uT (okR fi ne (p.ts.map (E9 s e bs)) p b) b p.st.toNat 0 bs
def cL(s:StD)(e:EvD)(fi ne:SoD):List (PrD×Int)->List Bool->List Bool
 |[],bs=>bs
 |x::l,bs=>cL s e fi ne l (nN s e fi ne x.1 x.2 bs)
def td(Hs:d7)(lo K:Nat)(s:StD)(ev:EvD)(fi ne:SoD)(F:Nat->Prop)(E:d7)(D:Nat)(hF:∀j,F j->j<E.n/\j≠D) (rs re:LV) (hs:StF E F (QR Hs lo K false) (QR Hs lo K true) rs s) (he:EvF E F re ev) (d2:∀j,j<lo->E.g j=Hs.g j) (h3:lo<=D) (n:Nat) (hw:WfS s n) (d3:ek fi n) (e4:ek ne n) (c9:ev.attrs.length<=1000000)
  (b6:∀p∈s.progs,p.ts.length<=1000000/\p.ed.length<=1000000) (e7:∀p∈s.progs,∀t∈p.ts,OkD true t) (ps pe pf pn:Nat) (gs:E.g ps=cE rs 1) (ge:E.g pe=cE re 1) (gf:E.g pf=cE (soE fi) 1) (gn:E.g pn=cE (soE ne) 1) (h4:D<E.n) (u:ps≠D/\pe≠D/\pf≠D/\pn≠D) (v8:aa3) (r:List Bool):
  ∀kk e H2,(∃(i:Nat)(bs:List Bool),kk=s.progs.length-i/\i<=s.progs.length/\e.g 4=pT ps/\e.g 5=pT pe/\e.g 6=pT pf/\e.g 7=pT pn/\e.g 8=v8/\e.g 9=sL D n (n+1)/\e.g 10=iV i/\bs.length=n/\H2.g D=cE (bs.map bX) 1/\Fr2 D E H2/\cL s ev fi ne ((s.progs.zip s.base).drop i) bs=r)->
  u7 (LE prog l7 (.loop Vm) e H2) (fun o e H2=>o= .exit 0/\e.g 5=pT pe/\e.g 8=v8/\e.g 9=sL D n (n+1)/\r.length=n/\H2.g D=cE (r.map bX) 1/\Fr2 D E H2):=by
 refine i5 _ _ ?_;rintro kk e H2 ⟨i,bs,hk,hi,f4,f5,f6,f7,f8,f9,a1,U,gb,S,fu⟩;have h1:=hw.l1;have h2:=hw.l2;have h0:=hw.l0;have e5:=hw.nle;have n2:=S.stay.n;obtain⟨pa,pc,ga,gc,xa,xc,ea,ec,ta,tc,e8,m1,m2,m3,_⟩:=I0 hs;have r1:rs[1]?=some (.slice ga s.progs.length gc):=by rw[e8];rfl
 have b1:=(S.but ps (u6 gs) u.1).trans gs;rcases bi:decide ((i:Int)<s.progs.length)with _|_
 .have d0:=dF bi;have:(s.progs.zip s.base).drop i=[]:=dN (by rw[MQ];omega);rw[this,cL]at fu;refine J5 f4 a1 b1 r1 bi ?_;exact i6 ⟨rfl,f5,f8,f9,by rw[<-fu];exact U,by rw[<-fu];exact gb,S⟩
 have d0:=dT bi;have e9:(i:Int).toNat=i:=tN i;obtain⟨p,np,op,cp,f2,rp,a9,_,d4,b2,d6,f0,a7,g1,b4⟩:=m2.row (i:=i) oM;subst d4;obtain⟨b,a2⟩:∃b,s.base[i]?=some b:=⟨s.base[i]'oM,gI oM⟩
 obtain⟨w1,w2,w3⟩:=hw.at_ i p b a9 a2;have f1:=w3.st;have a6:=mG a9;have a4:(s.progs.zip s.base).drop i=(p,b)::(s.progs.zip s.base).drop (i+1):=by
  have hz:(s.progs.zip s.base)[i]?=some (p,b):=by rw[aai];exact⟨a9,a2⟩
  obtain⟨e3,d5⟩:=gS hz;rw[qQ e3,d5]
 rw[a4,cL]at fu;simp only at fu;obtain⟨f3,g0,b9,c0,a8,g2,d1⟩:=F0 b4;have c3:rp.all oC=true:=by rw[a8];rfl
 have b7:rp.length=5:=by rw[a8];rfl
 have p4:rp[4]?=some (.slice b9 p.ts.length c0):=by rw[a8];rfl
 have c7:=(S.but np (hF _ b2).1 (hF _ b2).2).trans d6;obtain⟨H3,b3,n3,g3,s3⟩:=pushP H2 (bC z5 1) (bC rp 1);have b8:splice z5 0 rp=rp:=A0 _ _ (by rw[b7];rfl);simp only[z5]at b8 b3;have J:Fr2 D E H3:=S.trans (Fr2.of s3 oM);have a5:∀j,F j->H3.g j=E.g j:=fun j W=>J.but j (hF j W).1 (hF j W).2;have b0:H3.g D=cE (bs.map bX) 1:=(s3.g D oM).trans gb;have a3:SlF H3 (fun j=>F j\/j=D) 1 (y7 xr) (sL D bs.length (n+1)) bs:= .inr ⟨D,0,n+1,rfl,.inr ⟨_,true,.inr rfl,b0,by simp,fun i a ha=>by
  rw[tV,yD,qQ (by simpa using (gS ha).1),Ee,WQ];simp only[aat];rw[(gS ha).2];rfl⟩⟩
 have c8:∀j,(F j\/j=D)->j<H3.n:=by
  rintro j (h|h)
  .have:=hF j h;omega
  .omega
 have hA:BJ Hs lo K s ev bs (fun j=>F j\/j=D) H3 rs re (sP D) (n+1):=⟨hs.mono a5 (fun _ h=> .inl h) iF iF,A3 _ _ _ _ _ _ he a5 (fun _ h=> .inl h),a3,c8,fun j W=>by rw[J.but j oM oM];exact d2 j W,oM⟩
 refine J12 f4 a1 b1 r1 bi e9 c7 a7 c3 b7 b8 b3.symm ?_;refine i8 (F:=fun z=>u7 (t7 (inBlock 1 (t7 (inBlock 2 z) _)) _) _) (BC Hs lo K s ev bs (fun j=>F j\/j=D) H3 rs re (sP D) (n+1) hA (by rw[U];exact hw) c9 ps pe H2.n ((J.but ps (u6 gs) u.1).trans gs) ((J.but pe (u6 ge) u.2.1).trans ge) rp g3 b9 c0 p.ts p4 (d1.mono a5 (fun _ h=> .inl h) iF) (b6 p a6).1 (e7 p a6) (pT pf) (pT pn) v8 (.int .i64 i) (p.ts.length-0) _ _ ⟨0,nS,rfl,wi _,⟨f4,f5,f6,f7,f8,by rw[U];exact f9,a1,rfl⟩,rfl,rfl,d9.refl _ _,u5.nil⟩) ?_;rintro o' e' H4 ⟨ho,X,s4,w,c4,hO⟩;have n4:=s4.n;obtain⟨ha,hc,rfl⟩:=hO.slice;have O:Fr2 D E H4:=J.trans (Fr2.of s4 oM);have b5:∀j,F j->H4.g j=E.g j:=fun j W=>O.but j (hF j W).1 (hF j W).2;have c5:=(s4.g D oM).trans b0;rw[U]at X;refine J1 ho ?_;refine i8 (F:=fun z=>u7 (t7 (inBlock 1 (inBlock 4 z)) _) _) (yM H4 F D (fun j W=>by have:=hF j W;exact⟨oM,this.2⟩) (QR Hs lo K false) (QR Hs lo K true) s rs (hs.mono b5 (fun _ h=>h) iF iF) fi ne n e5 d3 e4 ps pf pn H2.n ((O.but ps (u6 gs) u.1).trans gs) ((O.but pf (u6 gf) u.2.2.1).trans gf) ((O.but pn (u6 gn) u.2.2.2).trans gn) oM ⟨u.1,u.2.2.1,u.2.2.2,oM⟩ rp p (b4.mono b5 (fun _ h=>h) iF) ((s4.g _ oM).trans g3) i b a2 oM ⟨w1,oM⟩ w2 w3 (b6 p a6).2
  (fun j=>j8 (.slice ha (p.ts.map (E9 s ev bs)).length hc) j) (fun j W=>by have:=hO.lt W;omega) (p.ts.map (E9 s ev bs)) ha hc (hO.frz fun _ h=>h) (by rw[ED]) (pT pe) v8 (nN s ev fi ne p b bs) (p.st.toNat-0) _ _ ⟨0,bs,rfl,wi _,⟨X.g4,X.g5,X.g6,X.g7,X.g8,X.g9,X.g10,X.g11⟩,c4,rfl,U,c5,Fr2.refl _ _,rfl⟩) ?_
 rintro o2 e2 H5 ⟨e6,I,e1,c6,F5⟩;refine J3 e6 I.g10 @wrap_small ?_;exact d8 (kk-1) oM ⟨i+1,_,oM,oM,I.g4,I.g5,I.g6,I.g7,I.g8,I.g9,by rw[show((i+1:Nat):Int)=(i:Int)+1 from oM];rfl,e1,c6,O.trans F5,fu⟩
def wP(s:StD)(e:EvD)(fi ne:SoD):SoD:=(true,decide (e.kind=2),pC (cL s e fi ne (s.progs.zip s.base) (List.replicate (A5 s.progs).toNat false)))
def Qx(Hs:d7)(lo K:Nat)(s:StD)(ev:EvD)(fi ne:SoD)(F:Nat->Prop)(H:d7)(J X:LV)(hs:StF H F (QR Hs lo K false) (QR Hs lo K true) J s)(he:EvF H F X ev)(hF:∀j,F j->j<H.n) (d4:∀j,j<lo->H.g j=Hs.g j) (f7:lo<=H.n) (n:Nat) (hn:(n:Int)=A5 s.progs) (hw:WfS s n) (d5:ek fi n) (e2:ek ne n)
  (d1:ev.attrs.length<=1000000) (W:∀p∈s.progs,p.ts.length<=1000000/\p.ed.length<=1000000/\0<=p.st/\p.st<=1000000) (e4:∀p∈s.progs,∀t∈p.ts,OkD true t):
  CL prog l7 57 [.agg J.toArray,.agg X.toArray,.agg (soE fi).toArray,.agg (soE ne).toArray] H=some (.agg (soE (wP s ev fi ne)).toArray,none):=by
 obtain⟨pa,pc,ga,gc,xa,xc,ea,ec,ta,tc,c5,_⟩:=I0 hs;obtain⟨av,c4,d2⟩:=id he;obtain⟨e9,f0,rfl⟩:=d2.slice;have c8:J.all oC=true:=by rw[c5];rfl
 have ae:X.all oC=true:=by rw[c4];rfl
 have e5:ldC (some true) (some 8) 0 J=some (.agg J.toArray):=by rw[c5];rfl
 have e7:X[0]?=some (.int .i64 ev.kind):=by rw[c4];rfl
 have f8:=hw.nle;have f4:=hw.l0;have f5:=hw.l1;obtain⟨f1,f2,f3⟩:=fi;obtain⟨g1,g2,g3⟩:=ne;obtain⟨fe,a4⟩:=eY (soE (f1,f2,f3));obtain⟨ge,a5⟩:=eY (soE (g1,g2,g3));rw[<-a4,<-a5];have af:fe.all oC=true:=by rw[a4];rfl
 have ag:ge.all oC=true:=by rw[a5];rfl
 obtain⟨z3,a7⟩:=eY ([.bool false,.bool false,.string eB]:LV);obtain⟨D,u⟩:=eY (((((d7.push ⟨H.bs,H.n⟩ (bC J 1)).push (bC X 1)).push (bC fe 1)).push (bC ge 1)).push (bC z3 1));have E:(d7.push ⟨H.bs,H.n⟩ (bC J 1)).n=H.n+1:=by rw[i4];rfl
 have n1:D.n=H.n+5:=by rw[u,i4,i4,i4,i4,E]
 have s1:d9 H.n H D:=by rw[u];exact((((d9.first H _).trans (d9.push oM)).trans (d9.push (by rw[i4];omega))).trans (d9.push (by rw[i4,i4];omega))).trans (d9.push (by rw[i4,i4,i4];omega))
 have a1:D.g H.n=cE J 1:=by
  rw[u,j5 (by simp only[i4,E];omega),j5 (by simp only[i4,E];omega),j5 (by simp only[i4,E];omega),j5 oM];exact j6
 have a8:D.g (H.n+1)=cE X 1:=by
  rw[u,j5 (by simp only[i4,E];omega),j5 (by simp only[i4,E];omega),j5 (by simp only[i4,E];omega)];exact A4 oM
 have a9:D.g (H.n+2)=cE fe 1:=by
  rw[u,j5 (by simp only[i4,E];omega),j5 (by simp only[i4,E];omega)];exact A4 (by simp only[i4,E];omega)
 have b0:D.g (H.n+3)=cE ge 1:=by
  rw[u,j5 (by simp only[i4,E];omega)];exact A4 (by simp only[i4,E];omega)
 have b1:D.g (H.n+4)=cE z3 1:=by
  rw[u];exact A4 (by simp only[i4,E];omega)
 have c0:H.n<=D.low:=by rw[u];simp only[l9];exact lR
 have d6:∀j,F j->D.g j=H.g j:=fun j U=>s1.g j (hF j U);have b7:=wE D F _ _ J s (fun j U=>by have:=hF j U;omega) (hs.mono d6 (fun _ h=>h) iF iF) oM (fun p hp=>⟨(W p hp).2.2.1,(W p hp).2.2.2⟩);rw[<-hn]at b7;obtain⟨H2,S,-,gb,I⟩:=pushE D (.cells ((List.replicate n false).map bX) true 1);have n2:H2.n=H.n+6:=by rw[S,i4,n1]
 have c3:S7 prog D 140 (.int .i64 n) (.int .i64 n)=some (sL D.n n (n+1),H2):=by
  have e1:(List.replicate n [Value.int .u8 0]).flatten=(List.replicate n false).map bX:=by
   rw[Tm,aad];rfl
  simp only[S7,uq.2.2.2.2.2.1,ty5.2.2.1,ty5.2.1,xA,e1];rw[bJ ⟨by decide,oM,JE _,oM,oM⟩,S];rfl
 have b3:=(I.g _ oM).trans a1;have a2:=(I.g _ oM).trans a8;have b4:=(I.g _ oM).trans a9;have b5:=(I.g _ oM).trans b0;have b6:=(I.g _ oM).trans b1;have c7:d9 H.n H H2:=s1.trans (I.wk oM);have b9:∀j,F j->H2.g j=H.g j:=fun j U=>c7.g j (hF j U);have c6:H.n<=H2.low:=by rw[S,l9];exact c0
 have e3:(A5 s.progs).toNat=n:=oM;rw[i7 KK rfl _ sM,wP,e3];refine J10 c8 ae af ag a7.symm u.symm a1 e5 b7 c3 ?_;refine i8 (F:=fun z=>t6 _ _ _ (t7 (inBlock 0 z) _)=_) (td Hs lo K s ev (f1,f2,f3) (g1,g2,g3) F H2 D.n (fun j U=>by have:=hF j U;omega) J X (hs.mono b9 (fun _ h=>h) iF iF) (A3 _ _ _ _ _ _ he b9 (fun _ h=>h)) (fun j U=>by rw[c7.g j oM];exact d4 j U) oM n hw d5 e2 d1 (fun p hp=>⟨(W p hp).1,(W p hp).2.1⟩) e4 H.n (H.n+1) (H.n+2) (H.n+3) b3 a2 (by rw[<-a4];exact b4) (by rw[<-a5];exact b5) oM ⟨oM,oM,oM,oM⟩ (pT (H.n+4)) (cL s ev (f1,f2,f3) (g1,g2,g3) (s.progs.zip s.base) (List.replicate n false)) (s.progs.length-0) _ _ ⟨0,List.replicate n false,rfl,wi _,rfl,rfl,rfl,rfl,rfl,rfl,rfl,Qw ..,gb,Fr2.refl _ _,by rw[lP]⟩) ?_;rintro o e' H4 ⟨ho,k5,k8,k9,a6,b2,O⟩;obtain⟨bz,d3⟩:=eY (cL s ev (f1,f2,f3) (g1,g2,g3) (s.progs.zip s.base) (List.replicate n false));rw[<-d3]at a6 b2 ⊢;have n4:=O.stay.n;rw[<-a6]at k9;have b8:=vB H4 D.n bz (n+1) b2;have c9:H4.g (H.n+1)=cE X 1:=(O.but _ oM oM).trans a2;have d0:H4.g (H.n+4)=cE z3 1:=(O.but _ oM oM).trans b6;have e8:splice z3 0 [.bool true,.bool (decide (ev.kind=2)),.string (pC bz)]=[.bool true,.bool (decide (ev.kind=2)),.string (pC bz)]:=by rw[a7];rfl
 have e6:z3.length=3:=by rw[a7];rfl
 obtain⟨H5,a3⟩:=eY (H4.put (H.n+4) (bC [.bool true,.bool (decide (ev.kind=2)),.string (pC bz)] 1));have g5:H5.g (H.n+4)=cE [.bool true,.bool (decide (ev.kind=2)),.string (pC bz)] 1:=by rw[a3];exact i9 oM
 have f6:H.n<=H5.low:=by
  rw[a3,A9];have b:=(O.stay.wk (show H.n<=D.n from oM)).low c6;omega
 clear a1 a8 a9 b0 b1 b3 a2 b4 b5 b6 c3 u S;rw[a6]at k9 b8;exact J12 ho k5 k8 k9 c9 e7 b8 d0 e6 e8 a3.symm g5 trivial
inductive qu(fi ne:SoD)(hs:List Bool)(p:PrD)(b:Int):Nat->Prop
 |en:qu fi ne hs p b p.en.toNat
 |out (x:EdD) (hx:x∈p.ed) (h:tu fi ne b x=true):qu fi ne hs p b x.1.toNat
 |mv (x:EdD) (hx:x∈p.ed) (h:jS hs x=true) (k:qu fi ne hs p b x.2.1.toNat):qu fi ne hs p b x.1.toNat
inductive Rch(hs:List Bool)(p:PrD)(q:Nat):Nat->Prop
 |refl:Rch hs p q q
 |step (x:EdD) (hx:x∈p.ed) (h:jS hs x=true) (k:Rch hs p q x.1.toNat):Rch hs p q x.2.1.toNat
def Rch.lead{fi ne:SoD}{hs:List Bool}{p:PrD}{b:Int}{q z:Nat}(h:Rch hs p q z):qu fi ne hs p b z->qu fi ne hs p b q:=by
 induction h with
 |refl=>exact id
 |step x u h k D=>exact fun l=>D (.mv x u h l)
def Rch.head{hs:List Bool}{p:PrD}{x:EdD}(u:x∈p.ed)(h:jS hs x=true){z:Nat}(k:Rch hs p x.2.1.toNat z):Rch hs p x.1.toNat z:=by
 induction k with
 |refl=>exact .step x u h .refl
 |step y D g k E=>exact .step y D g E
def Ls{fi ne:SoD}{hs:List Bool}{p:PrD}{b:Int}{q:Nat}:qu fi ne hs p b q↔∃z,Rch hs p q z/\(z=p.en.toNat\/∃x∈p.ed,x.1.toNat=z/\tu fi ne b x=true):=by
 constructor
 .intro h;induction h with
  |en=>exact⟨_,.refl,.inl rfl⟩
  |out x u h=>exact⟨_,.refl,.inr ⟨x,u,rfl,h⟩⟩
  |mv x u h k I=>
   obtain⟨z,D,E⟩:=I;exact⟨z,D.head u h,E⟩
 .rintro⟨z,D,rfl|⟨x,u,rfl,h⟩⟩
  .exact D.lead .en
  .exact D.lead (.out x u h)
def Z4(c:List Bool)(i j:Nat)(u:i<c.length):(c.set i true).getD j false=(decide (i=j)||c.getD j false):=by
 simp only[dE,zA];by_cases h:i=j
 .subst h;simp [u]
 .simp [h]
def oL(hs:List Bool)(p:PrD)(q:Nat):∀(l:List EdD)(c:List Bool),(∀x∈l,x∈p.ed/\x.2.1.toNat<c.length)->(∀z,c.getD z false=true->Rch hs p q z)->∀z,(clP hs l c).getD z false=true->Rch hs p q z
 |[],c,_,hc=>hc
 |x::l,c,hl,hc=>by
  rw[clP];have E:=hl x sM;split
  .rename_i h;simp only[cA]at h;refine oL hs p q l _ (fun y u=>⟨(hl y (by simp [u])).1,by rw[zC];exact(hl y (by simp [u])).2⟩) fun z D=>?_;rw[Z4 _ _ _ E.2,xj,eT]at D;rcases D with rfl|D
   .exact .step x E.1 h.2 (hc _ h.1)
   .exact hc z D
  .exact oL hs p q l c (fun y u=>hl y (by simp [u])) hc
def vy(hs:List Bool)(p:PrD)(q:Nat):∀(n:Nat)(c:List Bool),(∀x∈p.ed,x.2.1.toNat<c.length)->(∀z,c.getD z false=true->Rch hs p q z)->∀z,(clI hs p.ed n c).getD z false=true->Rch hs p q z
 |0,c,_,hc=>hc
 |n+1,c,hl,hc=>by
  rw[clI];exact vy hs p q n _ (fun x h=>by rw[mL];exact hl x h) (oL hs p q p.ed c (fun x h=>⟨h,hl x h⟩) hc)
def rL(hs:List Bool):∀(l:List EdD)(c:List Bool)(z:Nat),(∀x∈l,x.2.1.toNat<c.length)->c.getD z false=true->(clP hs l c).getD z false=true
 |[],c,z,_,h=>h
 |x::l,c,z,hl,h=>by
  rw[clP];split
  .refine rL hs l _ z (fun y u=>by rw[zC];exact hl y (by simp [u])) ?_;rw[Z4 _ _ _ (hl x sM),h,LS]
  .exact rL hs l c z (fun y u=>hl y (by simp [u])) h
def zK(hs:List Bool)(l:List EdD):∀(n:Nat)(c:List Bool)(z:Nat),(∀x∈l,x.2.1.toNat<c.length)->c.getD z false=true->(clI hs l n c).getD z false=true
 |0,c,z,_,h=>h
 |n+1,c,z,hl,h=>by
  rw[clI];exact zK hs l n _ z (fun x u=>by rw[mL];exact hl x u) (rL hs l c z hl h)
def xG(hs:List Bool):∀(l:List EdD)(c:List Bool),(∀x∈l,x.2.1.toNat<c.length)->ct (clP hs l c)<=ct c/\(ct (clP hs l c)=ct c->clP hs l c=c/\∀x∈l,c.getD x.1.toNat false=true->jS hs x=true->c.getD x.2.1.toNat false=true)
 |[],c,_=>⟨lR,fun _=>⟨rfl,fun x D=>by cases D⟩⟩
 |x::l,c,hl=>by
  rw[clP];have D:=hl x sM;rcases h:(c.getD x.1.toNat false&&jS hs x)with _|_
  .simp only[bF];obtain⟨E,z⟩:=xG hs l c fun y u=>hl y (by simp [u]);refine⟨E,fun e=>⟨(z e).1,fun y u a b=>?_⟩⟩;rcases nd.1 u with rfl|u
   .rw[a,b]at h;cases h
   .exact(z e).2 y u a b
  .simp only[jd];obtain⟨E,z⟩:=xG hs l (c.set x.2.1.toNat true) fun y u=>by rw[zC];exact hl y (by simp [u])
   rcases I:c.getD x.2.1.toNat false with _|_
   .have:=rM c x.2.1.toNat D I;exact⟨oM,fun e=>oM⟩
   .have J:c.set x.2.1.toNat true=c:=by
     have O:c[x.2.1.toNat]?=some true:=by
      rw[dE,gI D]at I;rw[gI D];exact congrArg some (by simpa using I)
     refine Fd fun k=>?_;rw[zA];by_cases e:x.2.1.toNat=k
     .subst e;rw[bJ rfl,bJ D,O]
     .simp [e]
    rw[J]at E z ⊢;refine⟨E,fun e=>⟨(z e).1,fun y u a b=>?_⟩⟩;rcases nd.1 u with rfl|u
    .exact I
    .exact(z e).2 y u a b
def vz:∀(c:List Bool),ct c=0->∀z,z<c.length->c.getD z false=true
 |[],_,z,h=>by simp at h
 |b::c,h,z,hz=>by
  cases b with
  |false=>simp [ct]at h
  |true=>
   cases z with
   |zero=>rfl
   |succ z=>exact vz c (by simpa [ct] using h) z (by simpa using hz)
def rK(hs:List Bool)(l:List EdD):∀(n:Nat)(c:List Bool),ct c<=n->(∀x∈l,x.2.1.toNat<c.length)->∀x∈l,(clI hs l n c).getD x.1.toNat false=true->jS hs x=true->(clI hs l n c).getD x.2.1.toNat false=true
 |0,c,h,hl,x,hx,_,_=>vz c oM _ (hl x hx)
 |n+1,c,h,hl,x,hx,h1,h2=>by
  rw[clI]at h1 ⊢;obtain⟨S,J⟩:=xG hs l c hl;have z:∀y∈l,y.2.1.toNat<(clP hs l c).length:=fun y I=>by rw[mL];exact hl y I
  by_cases e:ct (clP hs l c)=ct c
  .obtain⟨D,O⟩:=J e;have u:∀m,clI hs l m (clP hs l c)=clP hs l c:=by
    intro m;induction m with
    |zero=>rfl
    |succ m E=>rw[D]at E ⊢;rw[clI,D];exact E
   rw[u,D]at h1 ⊢;exact O x hx h1 h2
  .exact rK hs l n _ oM z x hx h1 h2
def NR(c:List Bool):ct c<=c.length:=aaN _ _
def iK{hs:List Bool}{p:PrD}{q:Nat}(S:q<p.st.toNat)(J:∀x∈p.ed,x.2.1.toNat<p.st.toNat) (z:Nat):(iJ hs p q).getD z false=true↔Rch hs p q z:=by
 have I:((List.replicate p.st.toNat false).set q true).length=p.st.toNat:=sM;have E:∀z,(List.replicate p.st.toNat false).getD z false=false:=fun z=>by
  rw[dE,aax];split<;>rfl
 have D:q<(List.replicate p.st.toNat false).length:=by simpa using S
 constructor
 .refine vy hs p q _ _ (fun x u=>by rw[I];exact J x u) (fun z O=>?_) z;rw[Z4 _ _ _ D,E,TB,eT]at O;subst O;exact .refl
 .intro h;induction h with
  |refl=>exact zK hs _ _ _ _ (fun x u=>by rw[I];exact J x u) (by rw[Z4 _ _ _ D,ib rfl,EF])
  |step x u h k U=>exact rK hs _ _ _ (by have:=NR ((List.replicate p.st.toNat false).set q true);rw[I]at this;exact this) (fun x u=>by rw[I];exact J x u) x u U h
def Fp{fi ne:SoD}{hs:List Bool}{p:PrD}{b:Int}{q:Nat}(u:q<p.st.toNat)(D:∀x∈p.ed,x.2.1.toNat<p.st.toNat):okR fi ne hs p b q=true↔qu fi ne hs p b q:=by
 rw[Ls,okR,xj,AH]
 constructor
 .rintro(h|⟨x,E,h⟩)
  .exact⟨_,(iK u D _).1 h,.inl rfl⟩
  .simp only[cA]at h;exact⟨_,(iK u D _).1 h.1,.inr ⟨x,E,rfl,h.2⟩⟩
 .rintro⟨z,h,rfl|⟨x,E,rfl,I⟩⟩
  .exact .inl ((iK u D _).2 h)
  .exact .inr ⟨x,E,by rw[(iK u D _).2 h,I];rfl⟩
def tw(fi ne:SoD)(hs:List Bool)(b:Int):∀(l:List EdD)(z:List Bool×Bool),z.2=true->(Y5 fi ne hs b l z).2=true
 |[],z,h=>h
 |x::l,z,h=>by
  rw[Y5];refine tw fi ne hs b l _ ?_;split
  .rfl
  .exact h
def tz(fi ne:SoD)(hs:List Bool)(b:Int):∀(l:List EdD)(bs:List Bool),(Y5 fi ne hs b l (bs,false)).2=false->(Y5 fi ne hs b l (bs,false)).1=bs/\∀x∈l,oY fi ne hs bs b x=true->cr bs (b+x.1)=true
 |[],bs,_=>⟨rfl,fun x J=>by cases J⟩
 |x::l,bs,h=>by
  rw[Y5]at h ⊢;rcases u:(!cr bs (b+x.1)&&oY fi ne hs bs b x)with _|_
  .simp only[u,bF]at h ⊢;obtain⟨E,I⟩:=tz fi ne hs b l bs h;refine⟨E,fun y z D=>?_⟩;rcases nd.1 z with rfl|z
   .rw[D,zb]at u
    simpa using u
   .exact I y z D
  .simp only[u,jd]at h;rw[tw fi ne hs b l _ rfl]at h;cases h
structure rm(fi ne:SoD)(hs:List Bool)(p:PrD)(b:Int)(bs0 bs:List Bool):Prop where
 len:bs.length=bs0.length
 up:∀k,bs0.getD k false=true->bs.getD k false=true
 sound:∀k,bs.getD k false=true->bs0.getD k false=true\/∃q:Nat,(k:Int)=b+q/\(q:Int)<p.st/\qu fi ne hs p b q
 en:bs.getD (b+p.en).toNat false=true
structure BI(p:PrD)(b:Int)(bs0:List Bool):Prop where
 b0:0<=b
 st:b+p.st<=bs0.length
 sa:0<=p.st
 en:0<=p.en/\p.en<p.st
 ed:∀x∈p.ed,0<=x.1/\x.1<p.st/\0<=x.2.1/\x.2.1<p.st
 kd:∀x∈p.ed,x.2.2.1=0\/x.2.2.1=1\/x.2.2.1=2\/x.2.2.1=3
 zero:∀k:Nat,b<=k->bs0.getD k false=false
section
variable{fi ne:SoD}{hs:List Bool}{p:PrD}{b:Int}{bs0:List Bool}
def rm.lead(u:BI p b bs0){bs:List Bool}(h:rm fi ne hs p b bs0 bs){t:Int}(E:0<=t)(z:cr bs (b+t)=true):qu fi ne hs p b t.toNat:=by
 have I:=u.b0;rcases h.sound _ z with k|⟨q,J,O,D⟩
 .rw[u.zero _ oM]at k;cases k
 .have:q=t.toNat:=oM;rw[<-this];exact D
def rm.set(D:BI p b bs0){bs:List Bool}(h:rm fi ne hs p b bs0 bs){x:EdD}(I:x∈p.ed)(u:oY fi ne hs bs b x=true):rm fi ne hs p b bs0 (bs.set (b+x.1).toNat true):=by
 have hb:=D.b0;have a1:=D.st;obtain⟨e1,e2,W,e4⟩:=D.ed x I;have X:=h.len;have z:(b+x.1).toNat<bs.length:=oM;have J:qu fi ne hs p b x.1.toNat:=by
  rw[oY]at u;by_cases O:x.2.2.1=1
  .rw[bJ O]at u;exact .out x I (by rw[tu,u,ib O];rfl)
  rw[bt O]at u;by_cases S:x.2.2.1=2
  .rw[bJ S]at u;exact .out x I (by rw[tu,u,ib S,tT,LS])
  rw[bt S]at u;by_cases U:x.2.2.1=3
  .rw[bJ U,cA]at u;exact .mv x I (by rw[jS,u.1,ib U,tT,LS]) (h.lead D W u.2)
  .rw[bt U]at u;have k0:x.2.2.1=0:=oN (D.kd x I);exact .mv x I (by rw[jS,ib k0,EF]) (h.lead D W u)
 refine⟨by rw[zC];exact h.len,fun k E=>by rw[Z4 _ _ _ z,h.up k E,LS],fun k E=>?_,by rw[Z4 _ _ _ z,h.en,LS]⟩;rw[Z4 _ _ _ z,xj,eT]at E;rcases E with rfl|E
 .exact .inr ⟨x.1.toNat,oM,oM,J⟩
 .exact h.sound k E
def Ft(u:BI p b bs0):∀(l:List EdD)(z:List Bool×Bool),(∀x∈l,x∈p.ed)->rm fi ne hs p b bs0 z.1->rm fi ne hs p b bs0 (Y5 fi ne hs b l z).1
 |[],z,_,h=>h
 |x::l,z,hl,h=>by
  rw[Y5];refine Ft u l _ (fun y E=>hl y (by simp [E])) ?_;split
  next D=>simp only[cA]at D;exact h.set u (hl x sM) D.2
  .exact h
def Qr(u:BI p b bs0):∀(n:Nat)(bs:List Bool),ct bs+1<=n->rm fi ne hs p b bs0 bs->rm fi ne hs p b bs0 (itE fi ne hs b p.ed n bs)/\∀x∈p.ed,oY fi ne hs (itE fi ne hs b p.ed n bs) b x=true->cr (itE fi ne hs b p.ed n bs) (b+x.1)=true
 |0,bs,h,_=>oM
 |n+1,bs,h,hP=>by
  have I:=Ft (fi:=fi) (ne:=ne) (hs:=hs) u p.ed (bs,false) (fun x D=>D) hP;have z:∀x∈p.ed,0<=b+x.1/\b+x.1<bs.length:=fun x D=>by
   have:=u.ed x D;have:=u.b0;have:=u.st;have:=hP.len;omega
  have O:=io fi ne hs b p.ed (bs,false) z;rw[itE];rcases E:(Y5 fi ne hs b p.ed (bs,false)).2 with _|_
  .simp only[bF];obtain⟨S,U⟩:=tz fi ne hs b p.ed bs E;rw[S];exact⟨hP,U⟩
  .simp only[jd];have J:=O.2 E;simp only[IC,aaU]at J;exact Qr u n _ oM I
def Lr(J:BI p b bs0){bs:List Bool}(U:rm fi ne hs p b bs0 bs)(I:∀x∈p.ed,oY fi ne hs bs b x=true->cr bs (b+x.1)=true) {q:Nat} (h:qu fi ne hs p b q):cr bs (b+q)=true:=by
 have key:∀t:Int,0<=t->cr bs (b+t.toNat)=true->cr bs (b+t)=true:=fun t O h=>by
  rw[DR O]at h;exact h
 have u:∀t:Int,0<=t->cr bs (b+t)=true->cr bs (b+t.toNat)=true:=fun t O h=>by
  rw[DR O];exact h
 induction h with
 |en=>exact u _ J.en.1 U.en
 |out x z h=>
  refine u _ (J.ed x z).1 (I x z ?_);rw[tu,xj,cA,cA,eT,eT]at h;rw[oY];rcases h with⟨D,E⟩|⟨D,E⟩
  .rw[bJ D];exact E
  .rw[bt oM,bJ D];exact E
 |mv x z h k W=>
  refine u _ (J.ed x z).1 (I x z ?_);have S:=key _ (J.ed x z).2.2.1 W;rw[jS,xj,cA,eT,eT]at h;rw[oY];rcases h with h|⟨D,E⟩
  .rw[bt oM,bt oM,bt oM];exact S
  .rw[bt oM,bt oM,bJ D,E,S];rfl
end
def Bc(f:Nat->Bool)(b:Int)(S:0<=b):∀(n q:Nat)(bs:List Bool),b+q+n<=bs.length->∀k:Nat,(uT f b n q bs).getD k false=true↔(bs.getD k false=true\/∃j:Nat,(k:Int)=b+j/\q<=j/\j<q+n/\f j=true)
 |0,q,bs,_,k=>by
  rw[uT];exact⟨.inl,fun h=>h.elim id fun⟨j,_,z,E,_⟩=>oM⟩
 |n+1,q,bs,h,k=>by
  rw[uT];have D:(if f q=true then bs.set (b+q).toNat true else bs).length=bs.length:=by split<;>simp
  rw[Bc f b S n (q+1) _ (by rw[D];omega) k];have J:(b+(q:Int)).toNat<bs.length:=oM;rcases O:f q with _|_
  .simp only[bF]
   constructor
   .rintro(h|⟨j,z,E,I,u⟩)
    .exact .inl h
    .exact .inr ⟨j,z,oM,oM,u⟩
   .rintro(h|⟨j,z,E,I,u⟩)
    .exact .inl h
    .have:j≠q:=fun e=>by rw[e,O]at u;cases u
     exact .inr ⟨j,z,oM,oM,u⟩
  .simp only[jd];rw[Z4 _ _ _ J,xj,eT]
   constructor
   .rintro((h|h)|⟨j,z,E,I,u⟩)
    .exact .inr ⟨q,oM,oM,oM,O⟩
    .exact .inl h
    .exact .inr ⟨j,z,oM,oM,u⟩
   .rintro(h|⟨j,z,E,I,u⟩)
    .exact .inl (.inr h)
    .by_cases e:j=q
     .subst e;exact .inl (.inl oM)
     .exact .inr ⟨j,z,oM,oM,u⟩
def Gh{a c:List Bool}(D:a.length=c.length)(h:∀k:Nat,a.getD k false=true↔c.getD k false=true):a=c:=by
 refine List.ext_getElem D fun k u z=>?_;have:=h k;rw[dE,gI u,dE,gI z]at this;simp only[zB]at this;cases E:a[k]<;>cases I:c[k]<;>simp_all
def Is(s:StD)(e:EvD)(fi ne:SoD)(p:PrD)(b:Int)(bs0:List Bool)(u:BI p b bs0):nN s e fi ne p b bs0=cV s e fi ne p b bs0/\(cV s e fi ne p b bs0).length=bs0.length/\∀k:Nat,b+p.st<=k->(cV s e fi ne p b bs0).getD k false=false:=by
 have hb:=u.b0;have a3:=u.st;have a1:=u.en;have a2:=u.sa;have E:(b+p.en).toNat<bs0.length:=oM;obtain⟨hs,J⟩:=eY (p.ts.map (E9 s e bs0));have h0:rm fi ne hs p b bs0 (bs0.set (b+p.en).toNat true):=⟨by rw[zC],fun k D=>by rw[Z4 _ _ _ E,D,LS],fun k D=>by
  rw[Z4 _ _ _ E,xj,eT]at D;rcases D with rfl|D
  .exact .inr ⟨p.en.toNat,oM,oM,.en⟩
  .exact .inl D,by rw[Z4 _ _ _ E,ib rfl,EF]⟩
 obtain⟨z,I⟩:=Qr u (ct (bs0.set (b+p.en).toNat true)+1) _ lR h0;have W:cV s e fi ne p b bs0=itE fi ne hs b p.ed (ct (bs0.set (b+p.en).toNat true)+1) (bs0.set (b+p.en).toNat true):=by rw[cV,J]
 rw[<-W]at z I;have O:∀x∈p.ed,x.2.1.toNat<p.st.toNat:=fun x hx=>oN (u.ed x hx);refine⟨?_,z.len,fun k D=>?_⟩
 .refine Gh (by rw[nN,Bd,z.len]) fun k=>?_;rw[nN,<-J,Bc _ _ hb _ _ _ oM]
  constructor
  .rintro(h|⟨j,S,_,U,h4⟩)
   .exact z.up k h
   .have X:=Lr u z I ((Fp oM O).1 h4);have:(b+(j:Int)).toNat=k:=oM;rw[cr,this]at X;exact X
  .intro h;rcases z.sound k h with h|⟨q,S,h2,U⟩
   .exact .inl h
   .exact .inr ⟨q,S,wi _,oM,(Fp oM O).2 U⟩
 .cases h:(cV s e fi ne p b bs0).getD k false with
  |false=>rfl
  |true=>
   rcases z.sound k h with h|⟨q,S,h2,U⟩
   .rw[u.zero k oM]at h;cases h
   .omega
def KG(p:PrD):Prop:=(∀x∈p.ed,x.2.2.1=0\/x.2.2.1=1\/x.2.2.1=2\/x.2.2.1=3)/\∀t∈p.ts,OkD true t
def KG.edge{p:PrD}(h:KG p)(f t k x:Int)(u:k=0\/k=1\/k=2\/k=3):KG (p.edge f t k x):=⟨fun y z=>by
 rcases gd.1 z with q|q
 .exact h.1 y q
 .rw[mj.1 q];exact u,h.2⟩
def KG.fold(t:Int):∀(l:List Int){p:PrD},KG p->KG (l.foldl (fun m x=>m.edge x t 0 0) p)
 |[],p,h=>h
 |x::l,p,h=>by rw[sd];exact KG.fold t l (h.edge _ _ _ _ (.inl rfl))
mutual
def mC:∀(q:Q)(p:PrD),OkD false q->KG p->KG (D4 q p).1
 | .mk o s c v a b,p,hok,hp=>by
  obtain⟨ha,hb,h1,h2,h3⟩:=hok.parts;simp only[Q.op,Q.a,Q.b]at ha hb;rw[D4];split
  .exact PB a p ha hp
  .split
   .exact KG.fold _ _ (Ey a p.st {p with st:=p.st+1} [] ha hp)
   .split
    .exact((Pc a {p with st:=p.st+1} ha hp).edge _ _ _ _ (.inl rfl)).edge _ _ _ _ (.inl rfl)
    .show KG (({p with st:=p.st+2,ts:=if o=7 then p.ts++b else p.ts}:PrD).edge p.st (p.st+1) (if o=2 then 1 else if o=3 then 2 else if o=7 then 3 else 0) (if o=7 then(p.ts.length:Int) else 0));refine KG.edge (p:={p with st:=p.st+2,ts:=if o=7 then p.ts++b else p.ts}) ⟨hp.1,fun t ht=>?_⟩ _ _ _ _ ?_
     .simp only at ht;split at ht
      .rcases gd.1 ht with q|q
       .exact hp.2 t q
       .exact hb t q
      .exact hp.2 t ht
     .split
      .exact .inr (.inl rfl)
      .split
       .exact .inr (.inr (.inl rfl))
       .split
        .exact .inr (.inr (.inr rfl))
        .exact .inl rfl
def PB:∀(l:List Q)(p:PrD),(∀x∈l,OkD false x)->KG p->KG (iz l p).1
 |[],p,_,h=>by rw[iz];exact h
 |x::l,p,h,hp=>by
  rw[iz];exact Fx l (D4 x p) (fun y hy=>h y (by simp [hy])) (mC x p (h x (by simp)) hp)
def Fx:∀(l:List Q)(x:PrD×Int×Int),(∀y∈l,OkD false y)->KG x.1->KG (dW l x).1
 |[],x,_,h=>by rw[dW];exact h
 |q::l,x,h,hx=>by
  rw[dW];exact Fx l _ (fun y hy=>h y (by simp [hy])) ((mC q x.1 (h q (by simp)) hx).edge _ _ _ _ (.inl rfl))
def Ey:∀(l:List Q)(n:Int)(p:PrD)(es:List Int),(∀y∈l,OkD false y)->KG p->KG (N9 l n p es).1
 |[],n,p,es,_,hp=>by rw[N9];exact hp
 |x::l,n,p,es,h,hp=>by
  rw[N9];exact Ey l n _ _ (fun y hy=>h y (by simp [hy])) ((mC x p (h x (by simp)) hp).edge _ _ _ _ (.inl rfl))
def Pc:∀(l:List Q)(p:PrD),(∀x∈l,OkD false x)->KG p->KG (im l p).1
 |[],p,_,h=>by rw[im];exact h
 |x::l,p,h,hp=>by
  rw[im];exact mC x p (h x (by simp)) hp
end
def JS(q:Q)(u:OkD false q):KG (C9 q):=by
 have h:=mC q ⟨0,0,0,[],[]⟩ u ⟨(fun x D=>by cases D),(fun t z=>by cases z)⟩;exact h
structure rl(s:StD):Prop where
 len:s.base.length=s.progs.length
 at_:∀(i:Nat) p b,s.progs[i]?=some p->s.base[i]?=some b->b=A5 (s.progs.take i)/\KG p
def rl.step{s:StD}(h:rl s){x:Q}(I:OkD false x):rl (L0 s x):=by
 rw[L0];split
 .exact h
 .refine⟨by simp [h.len],fun i p b z D=>?_⟩;simp only at z D ⊢;by_cases E:i<s.progs.length
  .rw[gk E]at z;rw[gk (by rw[h.len];exact E)]at D;rw[A2 oM];exact h.at_ i p b z D
  .have u:i=s.progs.length:=by
    have:=(gS z).1;simp at this;omega
   rw[ns oM,u,Uw]at z;rw[ns (by rw[h.len];omega),u,h.len,Uw]at D;simp at z D;subst z D;rw[u,List.take_left];exact⟨rfl,JS x I⟩
def og(q:Q)(z:OkD false q):rl (C7 q):=by
 obtain⟨O,D⟩:=eA _ false q lR z;have key:∀(l:List Q)(s:StD),(∀x∈l,OkD false x)->rl s->rl (l.foldl L0 s):=by
  intro l;induction l with
  |nil=>intro s _ h;exact h
  |cons x l J=>
   intro s u h;rw[sd];exact J _ (fun y I=>u y (by simp [I])) (h.step (u x sM))
 exact key (inQ false q) ⟨[],[],[],C9 q⟩ (fun x u=>(D x u).1) ⟨rfl,fun i p b E=>by simp at E⟩
def Dc(l:List PrD)(i:Nat)(p:PrD)(h:l[i]?=some p):A5 (l.take (i+1))=A5 (l.take i)+p.st:=by
 rw[Hq,h];exact Z9 _ _
def tH(s:StD)(ev:EvD)(fi ne:SoD)(n:Nat)(S:WfS s n)(z:rl s):∀(k i:Nat)(bs:List Bool),i+k=s.progs.length->bs.length=n->(∀j:Nat,A5 (s.progs.take i)<=j->bs.getD j false=false)->cL s ev fi ne ((s.progs.zip s.base).drop i) bs=aJ s ev fi ne ((s.progs.zip s.base).drop i) bs
 |0,i,bs,hk,hl,hz=>by
  have:(s.progs.zip s.base).drop i=[]:=dN (by rw[MQ];omega);rw[this];rfl
 |k+1,i,bs,hk,hl,hz=>by
  have X:=z.len;obtain⟨p,u⟩:∃p,s.progs[i]?=some p:=⟨s.progs[i]'oM,gI oM⟩
  obtain⟨b,D⟩:∃b,s.base[i]?=some b:=⟨s.base[i]'oM,gI oM⟩
  obtain⟨h1,U⟩:=z.at_ i p b u D;obtain⟨w1,w2,w3⟩:=S.at_ i p b u D;have h:(s.progs.zip s.base).drop i=(p,b)::(s.progs.zip s.base).drop (i+1):=by
   have J:(s.progs.zip s.base)[i]?=some (p,b):=by rw[aai];exact⟨u,D⟩
   obtain⟨I,E⟩:=gS J;rw[qQ I,E]
  have W:BI p b bs:=⟨w1,by rw[hl];exact w2,w3.st.1,w3.en,fun x hx=>by have:=w3.ed x hx;exact⟨this.1,this.2.1,this.2.2.1,this.2.2.2.1⟩,U.1,fun j O=>hz j oM⟩
  obtain⟨k1,k2,k3⟩:=Is s ev fi ne p b bs W;rw[h,cL,aJ];simp only;rw[k1];exact tH s ev fi ne n S z k (i+1) _ oM (by rw[k2];exact hl) fun j O=>k3 j (by rw[Dc _ _ _ u]at O;omega)
def wQ(q:Q)(u:OkD false q)(z:nQ q<=400)(ev:EvD)(fi ne:SoD):wP (C7 q) ev fi ne=I9 (C7 q) ev fi ne:=by
 rw[wP,I9];have h:=tH (C7 q) ev fi ne _ (wU q u z) (og q u) (C7 q).progs.length 0 (List.replicate (A5 (C7 q).progs).toNat false) oM sM (fun j _=>by rw[dE,aax];split<;>rfl);rw[lP]at h;rw[h]
def om(q:Q)(h:OkD false q):∀p∈(C7 q).progs,∀t∈p.ts,OkD true t:=by
 intro p E t I;obtain⟨i,D,z⟩:=List.getElem_of_mem E;have u:=og q h;have J:=u.len;exact(u.at_ i p ((C7 q).base[i]'oM) (by rw[gI D,z]) (gI oM)).2.2 t I
def fZ{α:Type}(p:Q->Bool)(g:Q->α)(D:α->α->Bool)(E:∀x y,D x y=true↔x=y):∀(l:List Q)(u:List α),(∀z∈u,z∈nF p g D u l)/\(∀y∈l,p y=true->g y∈nF p g D u l)/\(u.Nodup->(nF p g D u l).Nodup)
 |[],u=>⟨fun z h=>h,fun y h _=>absurd h Cy,fun h=>h⟩
 |x::l,u=>by
  rw[ik];obtain⟨W,h2,h3⟩:=fZ p g D E l (if p x&& !u.any (fun y=>D y (g x)) then u++[g x] else u);have S:∀z∈u,z∈(if p x&& !u.any (fun y=>D y (g x)) then u++[g x] else u):=fun z I=>by
   split
   .exact gd.2 (.inl I)
   .exact I
  refine⟨fun z I=>W z (S z I),fun y U hp=>?_,fun X=>h3 ?_⟩
  .rcases nd.1 U with rfl|U
   .refine W _ ?_;rw[hp,tT];cases J:u.any (fun z=>D z (g y))with
    |false=>simp
    |true=>
     obtain⟨z,I,e⟩:=AH.1 J;rw[<-(E _ _).1 e];simpa using I
   .exact h2 y U hp
  .split
   next J=>simp only[cA,Hw]at J;refine aap.2 ⟨X,by simp,fun a ha b hb=>?_⟩;rw[mj.1 hb];intro O;have:u.any (fun y=>D y (g x))=true:=AH.2 ⟨a,ha,(E _ _).2 O⟩;rw[J.2]at this;cases this
   .exact X
structure vh(e x:EvD)(y:Q):Prop where
 nm:y.op=4->e.kind=1->P0 (e.space,e.loc) (qNm y)=P0 (x.space,x.loc) (qNm y)
 has:y.op=5\/y.op=6->(C3 e.kind (qNm y) e.attrs).2=(C3 x.kind (qNm y) x.attrs).2
 vl:y.op=6->(C3 e.kind (qNm y) e.attrs).2=true->decide ((C3 e.kind (qNm y) e.attrs).1=y.vl)=decide ((C3 x.kind (qNm y) x.attrs).1=y.vl)
 tx:y.op=7->e.kind≠1->decide (e.text=y.vl)=decide (x.text=y.vl)
mutual
def lY(s:StD)(e x:EvD)(bs:List Bool)(hk:x.kind=e.kind):∀q,(∀y∈fsQ true q,vh e x y)->E9 s e bs q=E9 s x bs q
 | .mk o sp lc vl a b,h=>by
  rw[fsQ]at h;have h0:=h (.mk o sp lc vl a b) (by simp);have ha:∀y∈fsL true a,vh e x y:=fun y hy=>h y (by simp [hy]);obtain⟨l1,l2,l3,l4⟩:=h0;simp only[Q.op,Q.vl,qNm,Q.sp,Q.lc]at l1 l2 l3 l4;have e1:=vm s e x bs hk a ha;have e2:=vn s e x bs hk a ha;rw[E9,E9,e1,e2,hk];by_cases h1:o=1
  .rw[bJ h1,bJ h1]
  rw[bt h1,bt h1];by_cases h2:o=2
  .rw[bJ h2,bJ h2]
  rw[bt h2,bt h2];by_cases h3:o=3
  .rw[bJ h3,bJ h3]
  rw[bt h3,bt h3];by_cases h4:o=4
  .rw[bJ h4,bJ h4];by_cases hk1:e.kind=1
   .rw[l1 h4 hk1]
   .rw[dt hk1,Bi,Bi]
  rw[bt h4,bt h4];rw[<-hk];by_cases h5:o=5
  .rw[bJ h5,bJ h5,hk];rw[l2 (.inl h5),hk]
  rw[bt h5,bt h5];by_cases h6:o=6
  .rw[bJ h6,bJ h6,hk];have k2:=l2 (.inr h6);have k3:=l3 h6;rw[hk]at k2 k3;cases hc:(C3 e.kind (sp,lc) e.attrs).2 with
   |false=>rw[<-k2,hc,Bi,Bi]
   |true=>rw[<-k2,hc,tT,tT];exact k3 hc
  rw[bt h6,bt h6];by_cases h7:o=7
  .rw[bJ h7,bJ h7,hk];by_cases hk1:e.kind=1
   .rw[ib hk1];rfl
   .congr 1;exact l4 h7 hk1
  rw[bt h7,bt h7]
def vn(s:StD)(e x:EvD)(bs:List Bool)(hk:x.kind=e.kind):∀l,(∀y∈fsL true l,vh e x y)->anyH s e bs l=anyH s x bs l
 |[],_=>by rw[anyH,anyH]
 |q::l,h=>by
  rw[fsL]at h;rw[anyH,anyH,lY s e x bs hk q (fun y hy=>h y (by simp [hy])),vn s e x bs hk l (fun y hy=>h y (by simp [hy]))]
def vm(s:StD)(e x:EvD)(bs:List Bool)(hk:x.kind=e.kind):∀l,(∀y∈fsL true l,vh e x y)->anyF s e bs l=anyF s x bs l
 |[],_=>by rw[anyF,anyF]
 |q::l,h=>by
  rw[fsL]at h;rw[anyF,anyF,lY s e x bs hk q (fun y hy=>h y (by simp [hy])),vm s e x bs hk l (fun y hy=>h y (by simp [hy]))]
end
def Ef{s:StD}{e x:EvD}(fi ne:SoD)(D:x.kind=e.kind)(h:∀p∈s.progs,∀t∈p.ts,∀y∈fsQ true t,vh e x y):I9 s e fi ne=I9 s x fi ne:=by
 have key:∀(l:List (PrD×Int))(bs:List Bool),(∀z∈l,z.1∈s.progs)->aJ s e fi ne l bs=aJ s x fi ne l bs:=by
  intro l;induction l with
  |nil=>intro bs _;rfl
  |cons z l J=>
   intro bs u;rw[aJ,aJ];have:cV s e fi ne z.1 z.2 bs=cV s x fi ne z.1 z.2 bs:=by
    unfold cV;rw[Yo (fun t E=>lY s e x bs D t (h z.1 (u z sM) t E))]
   rw[this];exact J _ (fun y I=>u y (by simp [I]))
 unfold I9;rw[key _ _ (fun z u=>(List.of_mem_zip (a:=z.1) (b:=z.2) u).1),D]
mutual
def mD(L:List Q):∀(q:Q)(p:PrD),(∀y∈fsQ false q,y∈L)->(∀t∈p.ts,t∈L)->∀t∈(D4 q p).1.ts,t∈L
 | .mk o s c v a b,p,hq,hp=>by
  rw[fsQ]at hq;have ha:∀y∈fsL false a,y∈L:=fun y hy=>hq y (by simp [hy]);have hb:∀y∈b,y∈L:=fun y hy=>hq y (by
   have:y∈fsL true b:=by
    rw[ez];exact xB.2 ⟨y,hy,by rw[jM];simp⟩
   simp [this])
  have fold:∀(l:List Int)(t:Int)(m:PrD),(l.foldl (fun m x=>m.edge x t 0 0) m).ts=m.ts:=by
   intro l t;induction l with
   |nil=>intro m;rfl
   |cons x l ih=>intro m;rw[sd,ih];rfl
  rw[D4];split
  .exact PC L a p ha hp
  .split
   .intro t ht;rw[fold]at ht;exact Ez L a p.st {p with st:=p.st+1} [] ha hp t ht
   .split
    .exact Pd L a {p with st:=p.st+1} ha hp
    .intro t ht;have ht':t∈(if o=7 then p.ts++b else p.ts):=ht;split at ht'
     .rcases gd.1 ht' with q|q
      .exact hp t q
      .exact hb t q
     .exact hp t ht'
def PC(L:List Q):∀(l:List Q)(p:PrD),(∀y∈fsL false l,y∈L)->(∀t∈p.ts,t∈L)->∀t∈(iz l p).1.ts,t∈L
 |[],p,_,hp=>by rw[iz];exact hp
 |x::l,p,h,hp=>by
  rw[fsL]at h;rw[iz];exact Fy L l (D4 x p) (fun y hy=>h y (by simp [hy])) (mD L x p (fun y hy=>h y (by simp [hy])) hp)
def Fy(L:List Q):∀(l:List Q)(x:PrD×Int×Int),(∀y∈fsL false l,y∈L)->(∀t∈x.1.ts,t∈L)->∀t∈(dW l x).1.ts,t∈L
 |[],x,_,hp=>by rw[dW];exact hp
 |q::l,x,h,hp=>by
  rw[fsL]at h;rw[dW];exact Fy L l _ (fun y hy=>h y (by simp [hy])) (mD L q x.1 (fun y hy=>h y (by simp [hy])) hp)
def Ez(L:List Q):∀(l:List Q)(n:Int)(p:PrD)(es:List Int),(∀y∈fsL false l,y∈L)->(∀t∈p.ts,t∈L)->∀t∈(N9 l n p es).1.ts,t∈L
 |[],n,p,es,_,hp=>by rw[N9];exact hp
 |x::l,n,p,es,h,hp=>by
  rw[fsL]at h;rw[N9];exact Ez L l n _ _ (fun y hy=>h y (by simp [hy])) (mD L x p (fun y hy=>h y (by simp [hy])) hp)
def Pd(L:List Q):∀(l:List Q)(p:PrD),(∀y∈fsL false l,y∈L)->(∀t∈p.ts,t∈L)->∀t∈(im l p).1.ts,t∈L
 |[],p,_,hp=>by rw[im];exact hp
 |x::l,p,h,hp=>by
  rw[fsL]at h;rw[im];exact mD L x p (fun y hy=>h y (by simp [hy])) hp
end
mutual
def Lh:∀(f:Bool)(q x:Q),x∈inQ f q->∀y∈fsQ false x,y∈fsQ f q
 |f,.mk o s c v a b,x,hx,y,hy=>by
  rw[inQ]at hx;rw[fsQ];rcases gd.1 hx with h|h
  .have:=xS f a x h y hy;simp [this]
  .cases f with
   |false=>
    have:=xS true b x (by simpa using h) y hy;simp [this]
   |true=>
    simp only[jd]at h;split at h
    .rcases gd.1 h with h|h
     .have:=xS false b x h y hy;simp [this]
     .have:y∈fsL false b:=by
       rw[ez];exact xB.2 ⟨x,h,hy⟩
      simp [this]
    .cases h
def xS:∀(f:Bool)(l:List Q)(x:Q),x∈inL f l->∀y∈fsQ false x,y∈fsL f l
 |f,[],x,hx,y,hy=>by rw[inL]at hx;cases hx
 |f,z::l,x,hx,y,hy=>by
  rw[inL]at hx;rw[fsL];rcases gd.1 hx with h|h
  .exact gd.2 (.inl (Lh f z x h y hy))
  .exact gd.2 (.inr (xS f l x h y hy))
end
mutual
def KR:∀(f:Bool)(q x:Q),x∈fsQ f q->∀y∈fsQ true x,y∈fsQ f q
 |f,.mk o s c v a b,x,hx,y,hy=>by
  rw[fsQ]at hx ⊢;rcases gd.1 hx with h|h
  .cases f with
   |false=>simp at h
   |true=>
    have e:x= .mk o s c v a b:=by simpa using h
    rw[e,fsQ]at hy;exact hy
  .rcases gd.1 h with h|h
   .have:=CO f a x h y hy;simp [this]
   .have:=CO (!f) b x h y hy;simp [this]
def CO:∀(f:Bool)(l:List Q)(x:Q),x∈fsL f l->∀y∈fsQ true x,y∈fsL f l
 |f,[],x,hx,y,hy=>by rw[fsL]at hx;cases hx
 |f,z::l,x,hx,y,hy=>by
  rw[fsL]at hx ⊢;rcases gd.1 hx with h|h
  .exact gd.2 (.inl (KR f z x h y hy))
  .exact gd.2 (.inr (CO f l x h y hy))
end
def uX(q:Q):∀p∈(C7 q).progs,∀t∈p.ts,∀y∈fsQ true t,y∈fsQ false q:=by
 have key:∀(l:List Q)(s:StD),(∀x∈l,x∈inQ false q)->(∀p∈s.progs,∀t∈p.ts,t∈fsQ false q)->∀p∈(l.foldl L0 s).progs,∀t∈p.ts,t∈fsQ false q:=by
  intro l;induction l with
  |nil=>intro s _ h;exact h
  |cons x l I=>
   intro s D h;rw[sd];refine I _ (fun y z=>D y (by simp [z])) ?_;rw[L0];split
   .exact h
   .intro p u;rcases gd.1 u with u|u
    .exact h p u
    .rw[mj.1 u];exact mD (fsQ false q) x ⟨0,0,0,[],[]⟩ (fun y z=>Lh false q x (D x sM) y z) (fun t E=>by cases E)
 intro p u t E y z;exact KR false q t (key (inQ false q) ⟨[],[],[],C9 q⟩ (fun x D=>D) (fun p u=>by cases u) p u t E) y z
def fzV(vs:List aa2):aa2:=if Z0 vs eB then dg (X5 vs) else eB
def Ol(u:List aa2):Z0 u (fzV u)=false:=by
 unfold fzV;split
 .exact(kL u).1
 .rename_i h;cases z:Z0 u eB with
  |false=>rfl
  |true=>exact absurd z h
def pkV(v:aa2)(vs:List aa2):aa2:=if Z0 vs v then v else fzV vs
def Tv(v:aa2)(u:List aa2):pkV v u∈T6 u:=by
 have e:T6 u=u++[fzV u]:=by rw[T6,fzV]
 rw[e,pkV];split
 next h=>exact gd.2 (.inl (cI.1 h))
 .exact gd.2 (.inr (mj.2 rfl))
def Tu{v w:aa2}{u:List aa2}(z:w∈u):decide (v=w)=decide (pkV v u=w):=by
 unfold pkV;split
 .rfl
 .rename_i h;have D:¬v=w:=fun q=>h (cI.2 (q▸z));have E:¬fzV u=w:=fun q=>by
   have:=Ol u;rw[q,cI.2 z]at this;cases this
  rw[dt D,dt E]
def oQ(e:EvD):List (NmQ×List aa2)->List AtD
 |[]=>[]
 |x::r=>(if(C3 1 x.1 e.attrs).2 then [⟨x.1.1,x.1.2,pkV (C3 1 x.1 e.attrs).1 x.2⟩] else [])++oQ e r
def rU(e:EvD):∀(r:List (NmQ×List aa2))(e0:EvD),{e0 with attrs:=e0.attrs++oQ e r}∈U9 r e0
 |[],e0=>by rw[U9,oQ,su];exact mj.2 rfl
 |x::r,e0=>by
  rw[U9,oQ];cases h:(C3 1 x.1 e.attrs).2 with
  |false=>
   rw[bt sM,sB];exact gd.2 (.inl (rU e r e0))
  |true=>
   rw[bJ rfl];refine gd.2 (.inr (xB.2 ⟨_,Tv (C3 1 x.1 e.attrs).1 x.2,?_⟩));have:=rU e r (atV x.1 e0 (pkV (C3 1 x.1 e.attrs).1 x.2));rw[atV]at this ⊢;simp only[yo]at this;exact this
def jA(e:EvD)(nm:NmQ):∀r:List (NmQ×List aa2),nm∉r.map (·.1)->C3 1 nm (oQ e r)=(eB,false)
 |[],_=>by rw[oQ,C3]
 |x::r,h=>by
  simp only[xC,nd,aaz]at h;rw[oQ];split
  .rw[UN,C3,bt (fun q=>h.1 (I2.1 q).symm)];exact jA e nm r h.2
  .rw[sB];exact jA e nm r h.2
def lS(e:EvD)(nm:NmQ)(u:List aa2):∀r:List (NmQ×List aa2),(r.map (·.1)).Nodup->(nm,u)∈r->C3 1 nm (oQ e r)=if(C3 1 nm e.attrs).2 then(pkV (C3 1 nm e.attrs).1 u,true) else(eB,false)
 |[],_,h=>by cases h
 |x::r,hn,h=>by
  rw[xC,Yx]at hn;rw[oQ];rcases nd.1 h with rfl|h
  .split
   next D=>rw[UN,C3,bJ (I2.2 rfl)];rfl
   .rw[sB];exact jA e nm r hn.1
  .have z:¬x.1=nm:=fun q=>hn.1 (by rw[q];exact wC.2 ⟨_,h,rfl⟩);split
   .rw[UN,C3,bt (fun q=>z (I2.1 q))];exact lS e nm u r hn.2 h
   .rw[sB];exact lS e nm u r hn.2 h
def mH{k:Int}(h:k≠1)(nm:NmQ):∀l,(C3 k nm l).2=false
 |[]=>by rw[C3]
 |a::l=>by
  rw[C3];split
  .exact dt h
  .exact mH h nm l
def uy{α β:Type}(f:α->β):∀l:List α,l.zip (l.map f)=l.map fun n=>(n,f n)
 |[]=>rfl
 |x::l=>by rw[xC,YB,uy f l,xC]
def zW{x y:aa2}:dP x y=true↔x=y:=decide_eq_true_iff
def Df(q:Q)(a4:OkD false q)(e:EvD)(J:e.kind=1\/e.kind=2):∃x∈lH (spQ q),x.kind=e.kind/\∀y∈fsQ false q,vh e x y:=by
 rcases J with J|J
 .obtain⟨n,hn⟩:=eY (if V1 (spQ q).names (e.space,e.loc) then(e.space,e.loc) else zNm (V6 (spQ q).names):NmQ);have hz:(spQ q).attrs.zip (spQ q).vals=(spQ q).attrs.map fun n=>(n,T4 6 n (fsQ false q)):=uy _ _;have hm:((spQ q).attrs.map fun n=>(n,T4 6 n (fsQ false q))).map (·.1)=(spQ q).attrs:=by
   rw[ZV];exact List.map_id _
  have a2:(spQ q).attrs.Nodup:=(fZ (bH 5 6) qNm P0 (fun _ _=>I2) (fsQ false q) []).2.2 WZ;have a1:∀y∈fsQ false q,y.op=5\/y.op=6->(qNm y,T4 6 (qNm y) (fsQ false q))∈(spQ q).attrs.zip (spQ q).vals:=fun y E z=>by
   rw[hz];refine wC.2 ⟨qNm y,(fZ (bH 5 6) qNm P0 (fun _ _=>I2) (fsQ false q) []).2.1 y E ?_,rfl⟩;rw[bH,cA,eT,eT];omega
  have W:∀y∈fsQ false q,y.op=5\/y.op=6->C3 1 (qNm y) (oQ e ((spQ q).attrs.zip (spQ q).vals))=if(C3 1 (qNm y) e.attrs).2 then(pkV (C3 1 (qNm y) e.attrs).1 (T4 6 (qNm y) (fsQ false q)),true) else(eB,false):=fun y E z=>
   lS e (qNm y) _ _ (by rw[hz,hm];exact a2) (a1 y E z)
  refine⟨{am n with attrs:=(am n).attrs++oQ e ((spQ q).attrs.zip (spQ q).vals)},gd.2 (.inl (xB.2 ⟨n,?_,rU e _ _⟩)),J.symm,fun y E=>⟨fun z _=>?_,fun z=>?_,fun z I=>?_,fun _ D=>absurd J D⟩⟩
  .rw[hn];split
   next h=>exact gd.2 (.inl (V3.1 h))
   .exact gd.2 (.inr (mj.2 rfl))
  .have u:qNm y∈(spQ q).names:=(fZ (bH 4 4) qNm P0 (fun _ _=>I2) (fsQ false q) []).2.1 y E (by rw[bH,cA,eT,eT];omega);show P0 (e.space,e.loc) (qNm y)=P0 (n.1,n.2) (qNm y);rw[hn];split
   .rfl
   .rename_i h;have U:P0 (e.space,e.loc) (qNm y)=false:=by
     cases S:P0 (e.space,e.loc) (qNm y)with
     |false=>rfl
     |true=>exact absurd (V3.2 (I2.1 S▸u)) h
    have O:P0 (zNm (V6 (spQ q).names)) (qNm y)=false:=by
     cases S:P0 (zNm (V6 (spQ q).names)) (qNm y)with
     |false=>rfl
     |true=>
      have:=(qU (spQ q).names).1;rw[V3.2 (I2.1 S▸u)]at this;cases this
    rw[U];exact O.symm
  .show(C3 e.kind (qNm y) e.attrs).2=(C3 1 (qNm y) ([]++oQ e ((spQ q).attrs.zip (spQ q).vals))).2;rw[sB,W y E z,J];cases S:(C3 1 (qNm y) e.attrs).2 with
   |false=>rfl
   |true=>rfl
  .show decide ((C3 e.kind (qNm y) e.attrs).1=y.vl)=decide ((C3 1 (qNm y) ([]++oQ e ((spQ q).attrs.zip (spQ q).vals))).1=y.vl);rw[J]at I ⊢;rw[sB,W y E (.inr z),bJ I];refine Tu ((fZ (eG 6 (qNm y)) Q.vl dP (fun _ _=>zW) (fsQ false q) []).2.1 y E ?_);rw[eG,cA,eT];exact⟨z,I2.2 rfl⟩
 .have D:e.kind≠1:=oM;obtain⟨t,ht⟩:∃t,t=if Z0 (spQ q).texts e.text then e.text else dg (X5 (spQ q).texts):=eX;refine⟨dY t,gd.2 (.inr (wC.2 ⟨t,?_,rfl⟩)),J.symm,fun y E=>⟨fun _ U=>absurd U D,fun z=>?_,fun z I=>?_,fun z _=>?_⟩⟩
  .rw[ht];split
   next h=>exact gd.2 (.inl (cI.1 h))
   .exact gd.2 (.inr (mj.2 rfl))
  .rw[mH D];exact(mH (k:=2) oM _ _).symm
  .rw[mH D]at I;cases I
  .have a5:=KS _ false q lR a4 y E;obtain⟨_,_,_,I,_⟩:=a5.parts;have a3:qNm y=(eB,eB):=by
    simp only[eF,jd,cA]at I;have O:=I.1.2;have h3:xR y.op=false:=by rw[z];rfl
    rw[h3,jU]at O;simp only[cA,Wq]at O;have h4:=O.1;have X:(decide (y.sp=eB)&&decide (y.lc=eB))=true:=by
     cases S:(decide (y.sp=eB)&&decide (y.lc=eB))with
     |true=>rfl
     |false=>rw[S]at h4;cases h4
    simp only[cA,eT]at X;exact Prod.ext X.1 X.2
   have u:y.vl∈(spQ q).texts:=(fZ (eG 7 (eB,eB)) Q.vl dP (fun _ _=>zW) (fsQ false q) []).2.1 y E (by
    rw[eG,cA,eT];exact⟨z,I2.2 a3⟩)
   show decide (e.text=y.vl)=decide (t=y.vl);rw[ht];split
   .rfl
   .rename_i h;have U:¬e.text=y.vl:=fun w=>h (cI.2 (w▸u));have O:¬dg (X5 (spQ q).texts)=y.vl:=fun w=>by
     have:=(kL (spQ q).texts).1;rw[w,cI.2 u]at this;cases this
    rw[dt U,dt O]
def uh{q:Q}(I:OkD false q){r:ReD}(h:fY q=some r){e:EvD}(U:e.kind=1\/e.kind=2){a b:Nat}(O:a<r.sorts.length)(S:b<r.sorts.length)(X:bG r.sorts e.kind a b=true):I9 r.strat e (r.sorts.getD a soZ) (r.sorts.getD b soZ)∈r.sorts:=by
 obtain⟨_,J,l,W,E⟩:=dR h;obtain⟨x,hx,D,z⟩:=Df q I e U;have u:=iU (spQ q) (nZ q).2.2.1;rw[W]at u;split at u
 .cases u
 .cases u;rw[Ef (x:=x) _ _ D (fun p hp t ht y hy=>z y (uX q p (J▸hp) t ht y hy))];exact yh h O S x (by rw[E];exact hx) (by rw[D];exact X)
def M0(r:ReD)(e:EvD)(f n:Int):Int:=if bG r.sorts e.kind f n then ixG (fun y=>bZ (I9 r.strat e (r.sorts.getD f.toNat soZ) (r.sorts.getD n.toNat soZ)) y) r.sorts 0 else -1
def Tk(Hs:d7)(lo K:Nat)(r:ReD)(N:Nat)(D:WfR r N)(H:d7)(u:LV)(hR:fH H (· <H.n) (QR Hs lo K false) (QR Hs lo K true) u r)(f6:lo<=H.n)(b9:∀j,j<lo->H.g j=Hs.g j) (E:u.all oC=true) (el:LV) (e:EvD) (he:EvF H (· <H.n) el e) (b8:e.attrs.length<=1000000) (f n:Int):
  CL prog l7 51 [.agg u.toArray,.agg el.toArray,iV f,iV n] H=some (.int .i64 (M0 r e f n),none):=by
 obtain⟨rs,vl,w1,w2,w3,J,a9,f5,c8,f7,f3⟩:=hR;obtain⟨pa,pc,ga,gc,xa,xc,ea,ec,ta,tc,c6,_⟩:=I0 a9;have b3:rs.length=8:=by rw[c6];rfl
 have b2:u.length=12:=by rw[J];simp [b3]
 have q9:u[9]?=some w1:=by rw[J,ns oM,b3];rfl
 obtain⟨av,a1,c7⟩:=id he;have d0:el.length=5:=by rw[a1];rfl
 have X:el.all oC=true:=by
  obtain⟨aa,ac,rfl⟩:=c7.slice;rw[a1];rfl
 have b5:el[0]?=some (.int .i64 e.kind):=by rw[a1];rfl
 have d1:u.take 12=u:=kC oM;have b4:el.take 5=el:=kC oM;have c9:ldC (some true) (some 8) 0 u=some (.agg rs.toArray):=by
  rw[iY _ _ _ oM,J,lP,A2 oM,kC oM]
 obtain⟨H1,I,n1,-⟩:=pushF H (bC u 1);obtain⟨H2,z⟩:=eY (H1.push (bC el 1));have n2:H2.n=H.n+2:=by rw[z,i4,n1]
 have hS:d9 H.n H H2:=by rw[z,I];exact(d9.first H _).trans (d9.push (by rw[i4];exact aaq _))
 have g1:H2.g H.n=cE u 1:=by rw[z,j5 oM,I];exact j6
 have g2:H2.g (H.n+1)=cE el 1:=by rw[z,<-n1];exact j6
 have d4:H2.low=H.n:=by rw[z,I];rfl
 have O:SlI H2 H2.n 3 (y7 soE) w1 r.sorts:=c8.mono (fun j U=>hS.g j U) (fun j U=>oM) iF;have W:=Qs H2 H.n u true 1 g1 r.sorts w1 O q9 el e d0 X b5 f n;rw[i7 YE rfl _ sM,M0];rcases bm:bG r.sorts e.kind f n with _|_
 .rw[bm]at W;exact J8 E X I.symm n1 z.symm g2 b4 W trivial
 .rw[bm]at W;have a4:=bm;simp only[bG,knB,cA,eT]at a4;obtain⟨⟨⟨e7,e8⟩,e9,f0⟩,_⟩:=a4;have S:=O;obtain⟨sa,sc,rfl⟩:=O.slice;obtain⟨fi,f8,oa,e3,d5,b6,b0,_,e1,e5,a5,d2,a2,f1,c3⟩:=S.row (i:=f.toNat) oM;obtain⟨ne,f9,ob,e4,d6,b7,b1,_,e2,e6,a7,d3,a3,f2,c5⟩:=S.row (i:=n.toNat) oM;obtain rfl:b6=soE fi:=c3;obtain rfl:b7=soE ne:=c5;subst e1;cases e2;rw[a5]at a7;cases a7;have a6:r.sorts.getD f.toNat soZ=fi:=by rw[dE,b0];rfl
  have a8:r.sorts.getD n.toNat soZ=ne:=by rw[dE,b1];rfl
  have c4:=vW Hs lo K r.strat e fi ne (· <H.n) H2 rs el (a9.mono (fun j U=>hS.g j U) (fun _ h=>h) iF iF) (A3 _ _ _ _ _ _ he (fun j U=>hS.g j U) (fun _ h=>h)) (fun j U=>oM) (fun j U=>by rw[hS.g j oM];exact b9 j U) oM N D.n0 D.st (D.so fi (mG b0)) (D.so ne (mG b1)) b8 D.sz;have f4:=D.l1;have c0:=RZ H2 u r.sorts _ S b2 E q9 oM (I9 r.strat e fi ne);rw[a6,a8];exact J17 E X I.symm n1 z.symm g1 g2 b4 d1 W c9 q9 a5 a2 a3 c4 c0 trivial
def GL(x:SoD):bZ x x=true:=by simp [bZ]
def Lk{α:Type}(p:α->Bool):∀(l:List α)(k:Nat)(i:Nat)(x:α),l[k]?=some x->p x=true->(∀j y,j<k->l[j]?=some y->p y=false)->ixG p l i=(i:Int)+k
 |[],k,i,x,h,_,_=>by simp at h
 |z::l,0,i,x,h,hp,_=>by
  simp at h;subst h;rw[ixG,bJ hp];simp
 |z::l,k+1,i,x,h,hp,hn=>by
  have D:=hn 0 z oM rfl;rw[ixG,bt (by rw[D];exact Ux),Lk p l k (i+1) x (by simpa using h) hp fun j y E u=>hn (j+1) y oM (by simpa using u)];omega
def D2{r:ReD}{m:Int}(u:E0 r m){k:Nat}{x:SoD}(h:r.sorts[k]?=some x):ixG (fun y=>bZ x y) r.sorts 0=k:=by
 rw[Lk _ r.sorts k 0 x h (GL x) fun j y z D=>u.apart j k y x z D h];omega
def Nc(s:StD){e:EvD}{l:List EvD}(h:e.kind≠3):∃x t,(whF s (e::l)).2=x::t/\(whF s (e::l)).1.headD soZ=x/\x.1=true/\x.2.1=decide (e.kind=2):=by
 rw[whF,bt h];split
 .exact⟨_,_,rfl,rfl,rfl,rfl⟩
 .exact⟨_,_,rfl,rfl,rfl,rfl⟩
def Jb(s:StD){e:EvD}{l:List EvD}(h:e.kind=3):(whF s (e::l)).1.headD soZ=soZ:=by rw[whF,bJ h];rfl
def rh(s:StD):∀(w:List EvD)(n:Nat),1<=n->dep n w<=0->(whF s w).1.drop n=(whF s (w.drop (P4 w n))).1
 |[],n,h1,h=>by exfalso;simp only[dep,yA]at h;omega
 |e::w,n,h1,h=>by
  have u:dep (A7 n e.kind) w<=0:=h;rw[whF,P4];by_cases D:e.kind=3
  .have hs:A7 n e.kind=((n-1:Nat):Int):=by rw[A7,bt oM,bJ D];omega
   rw[bJ D,hs];rw[hs]at u;obtain⟨k,rfl⟩:∃k,n=k+1:=⟨n-1,oM⟩
   rw[Nat.add_sub_cancel]at u ⊢;by_cases I:k=0
   .subst I;rw[bJ (show((0:Nat):Int)=0 from rfl)];rfl
   .rw[bt oM,XI 1];exact rh s w k oM u
  .rw[bt D];obtain⟨k,rfl⟩:∃k,n=k+1:=⟨n-1,oM⟩
   by_cases z:e.kind=1
   .have hs:A7 ((k+1:Nat):Int) e.kind=((k+2:Nat):Int):=by rw[A7,bJ z];omega
    rw[hs]at u;rw[bJ z,hs,bt oM,XI 1];have E:=rh s w (k+2) oM u;rw[Hk,Hk,<-E,<-UM,<-UM,EE,EE]
    congr 1;omega
   .have hs:A7 ((k+1:Nat):Int) e.kind=((k+1:Nat):Int):=by rw[A7,bt z,bt D]
    rw[hs]at u;rw[bt z,hs,bt oM,XI 1];have E:=rh s w (k+1) oM u;rw[Hk,Hk,<-E,<-UM,EE]
    congr 1;omega
def ES:∀(w:List EvD)(n:Nat),1<=n->dep n w<=0->dep 0 (w.drop (P4 w n))=dep n w
 |[],n,h1,h=>by exfalso;simp only[dep,yA]at h;omega
 |e::w,n,h1,h=>by
  have D:dep (A7 n e.kind) w<=0:=h;rw[P4,show dep n (e::w)=dep (A7 n e.kind) w from rfl];by_cases u:A7 n e.kind=0
  .rw[bJ u,u];rfl
  .rw[bt u,XI 1,Hk];have z:1<=A7 n e.kind:=by unfold A7 at u ⊢;split<;>(try split)<;>omega
   have:=ES w (A7 n e.kind).toNat oM (by rw[DR oM];exact D);rw[DR oM]at this;exact this
def gZ:∀(w:List EvD)(a b:Int),dep (a+b) w=a+dep b w
 |[],a,b=>rfl
 |e::w,a,b=>by
  have:A7 (a+b) e.kind=a+A7 b e.kind:=by unfold A7;split<;>(try split)<;>omega
  show dep (A7 (a+b) e.kind) w=a+dep (A7 b e.kind) w;rw[this,gZ w]
def stA(s:StD)(l:List EvD)(j:Nat):SoD:=(whF s (l.drop j)).1.headD soZ
def A6(l:List EvD)(i:Nat):Nat:=i+P4 (l.drop i) 0
def pJ{l:List EvD}(h:C1 l=true){i:Nat}{e e':EvD}(J:l[i]?=some e)(D:l[i+1]?=some e')(U:e.kind=2):e'.kind≠2:=by
 obtain⟨hl,he⟩:=gS J;obtain⟨E,z⟩:=gS D;have X:l=(l.take i++[e])++e'::l.drop (i+2):=by
  have O:l.take i++[e]=l.take (i+1):=by rw[Hq,J];rfl
  rw[O,<-z,<-qQ E,UO]
 have I:=R9 (l.take i++[e]) (e'::l.drop (i+2)) none 0;rw[<-X]at I;rw[C1,I,cA]at h;have u:=h.2;have S:∀(a:List EvD)(p:Option Int),dQ p (a++[e])=some e.kind:=fun a=>by
  induction a with
  |nil=>intro p;rfl
  |cons x a ih=>intro p;exact ih _
 rw[S,bGo]at u;split at u
 .cases u
 next W=>intro q;apply W;rw[U,q];simp
def aq{e:EvD}(h:aN e=true):e.kind=1\/e.kind=2\/e.kind=3:=by
 by_cases u:e.kind=1
 .exact .inl u
 .by_cases z:e.kind=2
  .exact .inr (.inl z)
  .by_cases D:e.kind=3
   .exact .inr (.inr D)
   .rw[aN,bt u,bt z,bt D]at h;cases h
def kU(s:StD)(l:List EvD){j:Nat}(h:l.length<=j):stA s l j=soZ:=by rw[stA,dN h];rfl
def iA(s:StD){l:List EvD}{j:Nat}{e:EvD}(z:l[j]?=some e)(h:e.kind=3):stA s l j=soZ:=by
 obtain⟨D,u⟩:=gS z;rw[stA,qQ D,u,Jb s h]
def uf(s:StD){l:List EvD}{j:Nat}{e:EvD}(z:l[j]?=some e)(h:e.kind≠3):(stA s l j).1=true/\(stA s l j).2.1=decide (e.kind=2):=by
 obtain⟨D,u⟩:=gS z;obtain⟨x,t,_,E,I,J⟩:=Nc s (e:=e) (l:=l.drop (j+1)) h;rw[stA,qQ D,u,E];exact⟨I,J⟩
def kJ(s:StD){l:List EvD}(h:C1 l=true)(h0:dep 0 l=0){i:Nat}{e:EvD}(hi:l[i]?=some e)(z:e.kind≠3):
  stA s l i=I9 s e (if e.kind=1 then stA s l (i+1) else soZ) (stA s l (A6 l i))/\(whF s (l.drop (i+1))).1.drop (if e.kind=1 then 1 else 0)=(whF s (l.drop (A6 l i))).1/\i<A6 l i/\A6 l i<=l.length/\(0<i->A6 l i<l.length)/\(i=0->A6 l i=l.length):=by
 obtain⟨hl,he⟩:=gS hi;have U:l.drop i=e::l.drop (i+1):=by rw[qQ hl,he]
 obtain⟨k0,kr,k1,k2,k3⟩:=Q0 h hi;have D:∀j,dep 0 (l.take j)+dep 0 (l.drop j)=0:=fun j=>by
  have:=S5 0 (l.take j) (l.drop j);rw[UO,h0]at this;have h2:=gZ (l.drop j) (dep 0 (l.take j)) 0;rw[aaF]at h2;omega
 have a1:A6 l i<=l.length:=by
  have:=mQ (l.drop i) 0;rw[Ad]at this;rw[A6];omega
 by_cases u:e.kind=1
 .have hs:A7 0 e.kind=1:=by rw[u];rfl
  have W:A6 l i=i+1+P4 (l.drop (i+1)) 1:=by rw[A6,U,P4,hs,bt oM];omega
  have a2:A7 (dep 0 (l.take i)) e.kind=dep 0 (l.take i)+1:=by rw[A7,bJ u]
  rw[a2]at k3;have a4:=D (i+1);have a3:=gZ (l.drop (i+1)) 1 0;rw[aaF]at a3;have I:dep ((1:Nat):Int) (l.drop (i+1))<=0:=by show dep 1 _<=0;omega
  have E:=rh s (l.drop (i+1)) 1 lR I;have J:=ES (l.drop (i+1)) 1 lR I;rw[EE,show i+1+P4 (l.drop (i+1)) ((1:Nat):Int)=A6 l i from W.symm]at E J;have O:dep 0 (l.drop (A6 l i))=dep 1 (l.drop (i+1)):=J;rw[bJ u,bJ u];refine⟨?_,E,oM,a1,fun hp=>?_,fun hz=>?_⟩
  .rw[stA,U,whF,bt z,bJ u];show I9 s e _ _=I9 s e _ _;rw[stA,stA,<-E,UM]
  .have:=k2 hp;by_cases S:A6 l i<l.length
   .exact S
   .rw[dN oM]at O;have:dep 0 ([]:List EvD)=0:=rfl;omega
  .subst hz;have a5:dep 0 (l.take 0)=0:=rfl;by_cases S:A6 l 0<l.length
   .obtain⟨e',X,_⟩:=B8 S;obtain⟨_,_,_,q2,_⟩:=Q0 h X;have:=q2 oM;have:=D (A6 l 0);omega
   .omega
 .have hs:A7 0 e.kind=0:=by rw[A7,bt u,bt z]
  have W:A6 l i=i+1:=by rw[A6,U,P4,hs,bJ rfl]
  rw[bt u,bt u,W];refine⟨?_,rfl,oM,oM,fun hp=>?_,fun hz=>absurd (k1 hz) u⟩
  .rw[stA,U,whF,bt z,bt u];rfl
  .by_cases S:i+1<l.length
   .exact S
   .exact absurd (ur h h0 hi oM) z
def mc{u:List SoD}{x:SoD}(h:x∈u):∃a,a<u.length/\u[a]?=some x/\u.getD a soZ=x:=by
 obtain⟨a,z,D⟩:=List.getElem_of_mem h;have:u[a]?=some x:=by rw[gI z,D]
 exact⟨a,z,this,by rw[dE,this];rfl⟩
def yi{z:List SoD}{u:Int}{a b:Nat}{x:SoD}(S:a<z.length)(U:b<z.length)(J:z.getD b soZ=x)(h:u=2->a=0/\x.2.1=false):bG z u a b=true:=by
 have D:z.getD b (false,false,eB)=x:=J;simp only[bG,knB,cA,xj,Hw,Ms,eT,xA,D];refine⟨⟨⟨oM,oM⟩,⟨oM,oM⟩⟩,?_⟩;by_cases E:u=2
 .obtain⟨O,I⟩:=h E;exact .inr ⟨oM,I⟩
 .exact .inl E
def kA{q:Q}(E:OkD false q){r:ReD}(hm:fY q=some r){m:Int}(O:E0 r m){l:List EvD}(h:C1 l=true)(h0:dep 0 l=0):∀(n j:Nat),j+n=l.length->∀x∈(whF r.strat (l.drop j)).1,x∈r.sorts
 |0,j,hj,x,u=>by
  rw[dN oM]at u;rw[mj.1 u];exact mG O.s0
 |n+1,j,hj,x,u=>by
  have hz:soZ∈r.sorts:=mG O.s0;obtain⟨e,U,hd⟩:=B8 (l:=l) (i:=j) oM;have I:=kA E hm O h h0 n (j+1) oM;obtain⟨k0,kr,k1,k2,k3⟩:=Q0 h U;have D:∀t:List SoD,(∀x∈t,x∈r.sorts)->t.headD soZ∈r.sorts:=fun t ht=>by
   cases t with
   |nil=>exact hz
   |cons y t=>exact ht y sM
  rw[hd,whF]at u;by_cases S:e.kind=3
  .rw[bJ S]at u;rcases nd.1 u with rfl|u
   .exact hz
   .exact I x u
  .rw[bt S]at u;have a2:=kJ r.strat h h0 U S;by_cases X:e.kind=1
   .rw[bJ X]at u;rcases nd.1 u with rfl|u
    .obtain⟨a,ha,_,qa⟩:=mc (D _ I);obtain⟨b,J,_,W⟩:=mc (D (whF r.strat (l.drop (j+1))).1.tail fun y hy=>I y (XH hy));have:=uh E hm (e:=e) (.inl X) ha J (yi ha J rfl fun k=>oM);rw[qa,W]at this;exact this
    .exact I x (XH (XH u))
   .have e2:e.kind=2:=by rcases aq kr with q|q|q<;>omega
    rw[bt X]at u;rcases nd.1 u with rfl|u
    .obtain⟨b,J,_,W⟩:=mc (D _ I);have l0:0<r.sorts.length:=(gS O.s0).1;have a1:j+1<l.length:=by
      by_cases hq:j+1<l.length
      .exact hq
      .exact absurd (ur h h0 U oM) S
     obtain⟨e',z,_⟩:=B8 a1;have ht:(stA r.strat l (j+1)).2.1=false:=by
      by_cases q3:e'.kind=3
      .rw[iA _ z q3];rfl
      .rw[(uf r.strat z q3).2];exact dt (pJ h U z e2)
     have:=uh E hm (e:=e) (.inr e2) l0 J (yi l0 J W fun _=>⟨rfl,ht⟩);rw[W,dE,O.s0]at this;exact this
    .exact I x (XH u)
def di(l:List EvD):Nat->Nat->Int
 |0,_=> -1
 |j+1,d=>match l[j]? with
  |none=>di l j d
  |some e=>if e.kind=3 then di l j (d+1) else if e.kind=1 then(if d=0 then(j:Int) else di l j (d-1)) else di l j d
def w9(l:List EvD):Nat->List Nat
 |0=>[]
 |j+1=>match l[j]? with
  |none=>w9 l j
  |some e=>if e.kind=1 then w9 l j++[j] else if e.kind=3 then(w9 l j).dropLast else w9 l j
def od(l:List EvD):∀j,∀x∈w9 l j,x<j
 |0,x,h=>by cases h
 |j+1,x,h=>by
  have u:=od l j;rw[w9]at h;split at h
  .have:=u x h;omega
  .split at h
   .rcases gd.1 h with h|h
    .have:=u x h;omega
    .have:=mj.1 h;omega
   .split at h
    .have:=u x ((aaQ _).subset h);omega
    .have:=u x h;omega
def mO{l:List EvD}{j:Nat}{e:EvD}(h:l[j]?=some e):dep 0 (l.take (j+1))=A7 (dep 0 (l.take j)) e.kind:=by
 have:l.take (j+1)=l.take j++[e]:=by rw[Hq,h];rfl
 rw[this,S5];rfl
def U1{l:List EvD}(h:∀j,0<=dep 0 (l.take j)):∀j,j<=l.length->((w9 l j).length:Int)=dep 0 (l.take j)
 |0,_=>rfl
 |j+1,hj=>by
  have I:=U1 h j oM;obtain⟨e,E,_⟩:=B8 (l:=l) (i:=j) oM;have D:=h (j+1);rw[mO E]at D ⊢;rw[w9,E];simp only;by_cases u:e.kind=1
  .rw[bJ u,A7,bJ u,dx,vV];omega
  .rw[bt u,A7,bt u]at*;by_cases z:e.kind=3
   .rw[bJ z]at D ⊢;rw[bJ z,ZL];omega
   .rw[bt z]at D ⊢;rw[bt z];exact I
def fS{l:List EvD}(h:C1 l=true)(j:Nat):0<=dep 0 (l.take j):=by
 by_cases z:j<l.length
 .obtain⟨e,u,_⟩:=B8 z;exact(Q0 h u).1
 .rw[kC oM];exact(kq h).1
def vX(s:List Nat)(d:Nat):Int:=match s.reverse[d]? with
 |none=> -1
 |some x=>x
def jV{l:List EvD}(h:∀j,0<=dep 0 (l.take j)):∀j d,j<=l.length->di l j d=vX (w9 l j) d
 |0,d,_=>rfl
 |j+1,d,hj=>by
  obtain⟨e,E,_⟩:=B8 (l:=l) (i:=j) oM;have D:=fun d=>jV h j d oM;rw[di,w9,E];simp only;by_cases u:e.kind=3
  .have I:=h (j+1);rw[mO E,A7,bt oM,bJ u,<-U1 h j oM]at I;rw[bJ u,bt oM,bJ u,D,vX,vX,<-List.tail_reverse,List.getElem?_tail]
  .rw[bt u];by_cases z:e.kind=1
   .rw[bJ z,bJ z,vX,List.reverse_append];cases d with
    |zero=>rfl
    |succ d=>rw[bt oM,D];rfl
   .rw[bt z,bt z,bt u];exact D d
def oP:∀(w:List EvD)(n:Int),P4 w n<w.length->dep n (w.take (P4 w n))=0
 |[],n,h=>by exact absurd h (Nat.lt_irrefl 0)
 |e::w,n,h=>by
  rw[P4]at h ⊢;by_cases u:A7 n e.kind=0
  .rw[bJ u]at h ⊢;exact u
  .rw[bt u,kO]at h;rw[bt u,XI 1,Ee];exact oP w (A7 n e.kind) oM
def xL:∀(w:List EvD)(n:Int)(j:Nat),0<j->j<P4 w n->dep n (w.take j)≠0
 |[],n,j,_,h=>by exact absurd h (Nat.not_lt_zero _)
 |e::w,n,j+1,_,h=>by
  rw[P4]at h;rw[Ee];by_cases u:A7 n e.kind=0
  .rw[bJ u]at h;omega
  .rw[bt u]at h;cases j with
   |zero=>exact u
   |succ j=>exact xL w (A7 n e.kind) (j+1) oM oM
def kX(l:List EvD)(a b:Nat)(h:a<=b):dep 0 (l.take b)=dep 0 (l.take a)+dep 0 ((l.drop a).take (b-a)):=by
 have:l.take b=l.take a++(l.drop a).take (b-a):=by
  rw[<-List.take_add,show a+(b-a)=b from oM]
 rw[this,S5];have:=gZ ((l.drop a).take (b-a)) (dep 0 (l.take a)) 0;rw[aaF]at this;exact this
def T2(l:List EvD){i:Nat}(h:i<=l.length):A6 l i<=l.length:=by
 have:=mQ (l.drop i) 0;rw[Ad]at this;rw[A6];omega
def Eg{l:List EvD}{a:Nat}{E:EvD}(I:l[a]?=some E)(O:E.kind=1):∀n,a+1+n<=l.length->(∀i,a<i->i<=a+1+n->(w9 l a).length<(w9 l i).length)->∃t,w9 l (a+1+n)=w9 l a++a::t
 |0,_,_=>⟨[],by rw[ly,w9,I];simp only;rw[bJ O]⟩
 |n+1,hn,hm=>by
  obtain⟨t,u⟩:=Eg I O n oM (fun i S W=>hm i S oM);obtain⟨e,J,_⟩:=B8 (l:=l) (i:=a+1+n) oM;have h:=hm (a+1+n+1) oM oM;rw[<-A1,w9,J];rw[w9,J]at h;simp only at h ⊢;by_cases D:e.kind=1
  .rw[bJ D,u];exact⟨t++[a+1+n],by simp⟩
  .rw[bt D]at h ⊢;by_cases z:e.kind=3
   .rw[bJ z,u,ZL]at h;rw[bJ z,u];have U:t≠ []:=by intro q;subst q;simp at h
    exact⟨t.dropLast,by rw[List.dropLast_append_of_ne_nil sM,List.dropLast_cons_of_ne_nil U]⟩
   .rw[bt z];exact⟨t,u⟩
def yN{l:List EvD}{a b:Nat}(z:a<b)(h:a∉w9 l b):∀n,a∉w9 l (b+n)
 |0=>h
 |n+1=>by
  have u:=yN z h n;rw[<-A1,w9];split
  .exact u
  .split
   .intro q;rcases gd.1 q with q|q
    .exact u q
    .have:=mj.1 q;omega
   .split
    .exact fun q=>u ((aaQ _).subset q)
    .exact u
def F8(l:List EvD)(a:Nat):Bool:=match l[a]? with
 |none=>false
 |some e=>decide (e.kind=2)||((match l[A6 l a-1]? with|none=>false|some x=>decide (x.kind=3))&&decide (dep 0 ((l.drop a).take (A6 l a-a))=0))
def nG{l:List EvD}(h:C1 l=true){a:Nat}{ea:EvD}(ha:l[a]?=some ea)(hk:ea.kind=1):
  (dep 0 ((l.drop a).take (A6 l a-a))=0/\w9 l (A6 l a)=w9 l a/\(∃e,l[A6 l a-1]?=some e/\e.kind=3/\a+1<A6 l a)/\∀i,a<i->i<A6 l a->(w9 l a).length<(w9 l i).length)\/(dep 0 ((l.drop a).take (A6 l a-a))≠0/\A6 l a=l.length/\(∃t,w9 l l.length=w9 l a++a::t)/\∀i,a<i->i<=l.length->(w9 l a).length<(w9 l i).length):=by
 have X:=fS h;have U:a<l.length:=(gS ha).1;have hE:=T2 l (Oj U);have s0:=U1 X a oM;have hD:=kX l a (A6 l a) (by rw[A6];omega);have sE:=U1 X (A6 l a) hE;have s1:w9 l (a+1)=w9 l a++[a]:=by rw[w9,ha];simp only;rw[bJ hk]
 have a1:∀i,i<l.length->((w9 l i).length:Int)-1<=(w9 l (i+1)).length:=fun i hi=>by
  obtain⟨e,he,_⟩:=B8 hi;have q1:=U1 X i oM;have q2:=U1 X (i+1) oM;rw[mO he]at q2;have:=gD (dep 0 (l.take i)) e.kind;omega
 have J:∀n,a+1+n<=l.length->(∀i,a<i->i<=a+1+n->(w9 l i).length≠(w9 l a).length)->∀i,a<i->i<=a+1+n->(w9 l a).length<(w9 l i).length:=by
  intro n;induction n with
  |zero=>
   intro _ _ i z D;obtain rfl:i=a+1:=oM;rw[s1];simp
  |succ n ih=>
   intro hn O i z D;by_cases hi:i=a+1+(n+1)
   .have:=ih oM (fun i z D=>O i z oM) (a+1+n) oM oM;have:=a1 (a+1+n) oM;have:=O i z D;rw[show a+1+n+1=i from oM]at*;omega
   .exact ih oM (fun i z D=>O i z oM) i z oM
 have W:∀i,a<i->i<A6 l a->(w9 l i).length≠(w9 l a).length:=fun i z D=>by
  have:=xL (l.drop a) 0 (i-a) oM (by rw[A6]at D;omega);have q:=U1 X i oM;have:=kX l a i oM;omega
 by_cases hz:dep 0 ((l.drop a).take (A6 l a-a))=0
 .have u:(w9 l (A6 l a)).length=(w9 l a).length:=oM;have a3:a+1<A6 l a:=by
   have z:a<A6 l a:=by
    rw[A6,qQ U,P4];split<;>omega
   by_cases D:A6 l a=a+1
   .rw[D,s1]at u;simp at u
   .omega
  obtain⟨m,hm⟩:∃m,A6 l a=a+1+m+1:=⟨A6 l a-(a+2),oM⟩
  have E:=J m oM (fun i z D=>W i z oM);obtain⟨t,ht⟩:=Eg ha hk m oM E;obtain⟨e,he,_⟩:=B8 (l:=l) (i:=a+1+m) oM;have I:w9 l (A6 l a)=w9 l (a+1+m+1):=by rw[hm]
  rw[w9,he]at I;simp only at I;have S:e.kind=3:=by
   by_cases S:e.kind=3
   .exact S
   .exfalso
    by_cases e1:e.kind=1
    .rw[bJ e1,ht]at I;rw[I]at u;simp at u
    .rw[bt e1,bt S,ht]at I;rw[I]at u;simp at u
  rw[bt oM,bJ S,ht]at I;have a4:t=[]:=by
   rw[I,ZL,dx,kO]at u;exact pF.1 oM
  subst a4;rw[List.dropLast_concat]at I;exact .inl ⟨hz,I,⟨e,by rw[show A6 l a-1=a+1+m from oM];exact he,S,a3⟩,fun i z D=>E i z oM⟩
 .have a2:A6 l a=l.length:=by
   by_cases D:A6 l a=l.length
   .exact D
   .exfalso
    have hc:A6 l a-a=P4 (l.drop a) 0:=by rw[A6];omega
    exact hz (by rw[hc];exact oP (l.drop a) 0 (by rw[Ad];omega))
  have u:(w9 l (A6 l a)).length≠(w9 l a).length:=oM;obtain⟨m,hm⟩:∃m,l.length=a+1+m:=⟨l.length-(a+1),oM⟩
  have E:=J m oM (fun i z D=>by
   by_cases h3:i=A6 l a
   .rw[h3];exact u
   .exact W i z oM)
  obtain⟨t,ht⟩:=Eg ha hk m oM E;exact .inr ⟨hz,a2,⟨t,by rw[hm];exact ht⟩,fun i z D=>E i z oM⟩
def oO{l:List EvD}{a:Nat}{h:EvD}(z:l[a]?=some h)(I:h.kind=2):A6 l a=a+1:=by
 obtain⟨u,E⟩:=gS z;have D:l.drop a=h::l.drop (a+1):=by rw[qQ u,E]
 have hs:A7 0 h.kind=0:=by rw[A7,bt oM,bt oM]
 rw[A6,D,P4,hs,bJ rfl]
def Bx{l:List EvD}{a:Nat}{h:EvD}(u:l[a]?=some h)(z:h.kind=2):w9 l (a+1)=w9 l a:=by
 rw[w9,u];simp only;rw[bt oM,bt oM]
def F6{l:List EvD}(h:C1 l=true){a:Nat}{I:EvD}(E:l[a]?=some I)(z:I.kind=1\/I.kind=2):F8 l a= !decide (a∈w9 l l.length)/\(F8 l a=true->w9 l (A6 l a)=w9 l a/\∀i,a<i->i<A6 l a->(w9 l a).length<(w9 l i).length)/\(F8 l a=false->A6 l a=l.length/\(∃t,w9 l l.length=w9 l a++a::t)/\∀i,a<i->i<=l.length->(w9 l a).length<(w9 l i).length):=by
 have O:a<l.length:=(gS E).1;have hE:=T2 l (Oj O);have u:a∉w9 l a:=fun q=>oN (od l a a q);rw[F8,E];simp only;rcases z with z|z
 .rw[dt (show¬I.kind=2 from oM),za];rcases nG h E z with⟨W,hS,⟨e,he,X,a1⟩,S⟩|⟨W,J,⟨t,ht⟩,U⟩
  .have D:=yN (show a<A6 l a from oM) (by rw[hS];exact u) (l.length-A6 l a);rw[show A6 l a+(l.length-A6 l a)=l.length from oM]at D;rw[he,ib W,dt D];exact⟨by simp [X],fun _=>⟨hS,S⟩,fun q=>(by simp [X]at q)⟩
  .rw[dt W,Mq,ib (by rw[ht];simp)];exact⟨rfl,fun q=>(by cases q),fun _=>⟨J,⟨t,ht⟩,U⟩⟩
 .have h1:a∉w9 l (a+1):=by rw[Bx E z];exact u
  have:=yN (Nat.lt_succ_self a) h1 (l.length-(a+1));rw[show a+1+(l.length-(a+1))=l.length from oM]at this;rw[ib z,dt this];exact⟨rfl,fun _=>⟨by rw[oO E z,Bx E z],fun i h1 h2=>by rw[oO E z]at h2;omega⟩,fun q=>(by cases q)⟩
abbrev OpD:=Int×List (Int×Int)
def zO:List OpD:=[(0,[])]
def Nt(r:ReD)(p:Int):List OpD:=(List.range r.sorts.length).map fun(k:Nat)=>((k:Int),[(p,(k:Int))])
def eI(l:List OpD)(x:OpD):List OpD:=if l.any (fun y=>decide (y.1=x.1)) then l else l++[x]
def gh(r:ReD)(e:EvD)(acc:List OpD)(f b:OpD):List OpD:=if M0 r e f.1 b.1<0 then acc else eI acc (M0 r e f.1 b.1,f.2++b.2)
def gM(r:ReD)(e:EvD)(f:OpD)(bs acc:List OpD):List OpD:=bs.foldl (fun acc b=>gh r e acc f b) acc
def jt(r:ReD)(e:EvD)(fs bs acc:List OpD):List OpD:=fs.foldl (fun acc f=>gM r e f bs acc) acc
def V8(r:ReD)(l:List EvD):Nat->Nat->Int->Bool->List OpD
 |0,_,_,_=>[]
 |n+1,a,p,more=>if more||decide (l.length<=a) then Nt r p else match l[a]? with
  |none=>[]
  |some e=>if e.kind=3 then zO else jt r e (if e.kind=2 then zO else V8 r l n (a+1) a false) (V8 r l n (A6 l a) p (!F8 l a)) []
def eD(r:ReD)(l:List EvD)(a:Nat):List OpD:=match l[a]? with
 |none=>[]
 |some e=>if e.kind=2 then zO else V8 r l (l.length+1) (a+1) a false
def ak(r:ReD)(l:List EvD)(a:Nat):List OpD:=if di l a 0<0 then zO else V8 r l (l.length+1) (A6 l a) (di l a 0) (!F8 l a)
def aY{l:List EvD}{a:Nat}(h:a<l.length):a<A6 l a:=by
 rw[A6,qQ h,P4];split<;>omega
abbrev pkE(x:Int×Int):LV:=[iV x.1,iV x.2]
def OpO(H:d7)(F:Nat->Prop)(cs:LV)(o:OpD):Prop:=∃v,cs=[iV o.1,v]/\SlO H F 2 (y7 pkE) v o.2
def u9:dK OpO:=fun H H' G G' cs a h E D=>by
 obtain⟨v,u,z⟩:=h;exact⟨v,u,z.mono E D⟩
def wM(H:d7){α:Type}{sz c:Nat}{R:LV->α->Prop}{cs:LV}{a:α}(h:cs.length=sz)(z:R cs a):SlO (H.push (.cells cs true sz)) (· =H.n) sz R (sL H.n 1 c) [a]:=by
 refine .inr ⟨H.n,0,c,rfl,.inr ⟨cs,rfl,j6,by simp [h],fun i x u=>?_⟩⟩;cases i with
 |zero=>
  have:a=x:=by simpa using u
  subst this;rw[Ck,ly,lP,<-h,XK];exact z
 |succ i=>simp at u
def L8.lt{α:Type}{sz lo:Nat}{E:d7->(Nat->Prop)->LV->α->Prop}{H:d7}{v:aa3}{l:List α}{G:Nat->Prop}(h:L8 sz E lo H v l G){b:Nat}(u:j8 v b):lo<=b/\b<H.n:=h.own.lt u
def X1(p:Int)(k:Nat):List OpD:=(List.range k).map fun(k:Nat)=>((k:Int),[(p,(k:Int))])
def ze(p:Int)(k:Nat):(X1 p k).length=k:=by simp [X1]
def fm(p:Int)(k:Nat):X1 p (k+1)=X1 p k++[((k:Int),[(p,(k:Int))])]:=by simp [X1,UH]
def FQ(H:d7)(n:Nat)(p:Int)(hn:n<=1000000):
  ∀U e H2,(∃(k:Nat)(w:aa3)(G:Nat->Prop),U=n-k/\k<=n/\e.g 1=iV p/\e.g 5=w/\e.g 9=iV n/\e.g 10=iV k/\L8 2 OpO H.n H2 w (X1 p k) G/\d9 H.n H H2/\H.n<=H2.low)->
  u7 (LE prog l7 (.loop UP) e H2) (fun o e H2=>o= .exit 0/\∃(w:aa3)(G:Nat->Prop),e.g 5=w/\L8 2 OpO H.n H2 w (X1 p n) G/\d9 H.n H H2/\H.n<=H2.low):=by
 refine i5 _ _ ?_;rintro U e H2 ⟨k,w,G,hk,a1,f1,f5,E,u,I,J,hl⟩;rcases b:decide ((k:Int)<n)with _|_
 .have O:=dF b;obtain rfl:k=n:=oM;refine J3 E u b ?_;exact i6 ⟨rfl,w,G,f5,I,J,hl⟩
 .have O:=dT b;have nHS:=J.n;obtain⟨H3,z,n3,-,X⟩:=pushE H2 (bC [iV p,iV k] 2);have S:SlO H3 (· =H2.n) 2 (y7 pkE) (sL H2.n 1 1) [(p,(k:Int))]:=by rw[z];exact wM H2 rfl rfl
  have a2:=ze p k;obtain⟨v',h',H4,ra,W,D,h⟩:=(I.keep u9 X).push (P:=prog) (t:=51) (a:=((k:Int),[(p,(k:Int))])) (cs:=[iV k,sL H2.n 1 1]) u9 (by exact IV.2.2.2.2.2.2) pE.1 pE.2.1 pE.2.2.1 oM oM rfl ⟨_,rfl,S⟩ (fun j hj=>⟨oM,oM,fun q=>by have:=I.lt q;omega⟩) oM oM;have n4:=h.n;rw[<-fm]at D;refine J9 f1 f5 E u b z.symm ra W @wrap_small ?_;exact d8 (U-1) oM ⟨k+1,v',_,oM,oM,f1,rfl,E,rfl,D,J.trans ((X.wk oM).trans h.stay),h.stay.lowAll _ lR (X.lowAll _ oM hl)⟩
def Qz(U W:LV->Q->Prop)(r:ReD)(H:d7)(h:LV)(hR:fH H (· <H.n) U W h r)(D:h.length=12)(E:h.all oC=true)(hl:r.sorts.length<=1000000)(p:Int):
  Ret (CL prog l7 37 [.agg h.toArray,iV p] H) H (cj 2 OpO H (Nt r p)):=by
 obtain⟨rs,vl,w1,w2,w3,u,a4,a3,O,a5,a2⟩:=hR;have S:rs.length=8:=by rw[u]at D;simpa using D
 obtain⟨X,c1,rfl⟩:=O.slice;have q9:h[9]?=some (.slice X r.sorts.length c1):=by rw[u,ns oM,S];rfl
 obtain⟨H1,I,-,g1,s1⟩:=pushF H (bC h 1);rw[i7 WS rfl _ sM];refine J4 E I.symm g1 q9 ?_;refine i8 (F:=fun z=>Ret (t6 _ _ _ (t7 (inBlock 0 z) _)) _ _) (FQ H r.sorts.length p hl r.sorts.length _ _ ⟨0,_,_,rfl,wi _,rfl,rfl,rfl,rfl,L8.nil,s1,by rw[I];exact lR⟩) ?_;rintro o' e' H' ⟨ho,w,G,h5,hO,hS,J⟩;refine J2 ho h5 ?_;exact S8 u9 hO hS J
def q0:Q:= .mk 1 eB eB eB [] []
noncomputable def l0:List EvD:=(Y4 (spQ q0)).getD []
noncomputable def r0:ReD:=⟨C7 q0,l0,[(false,false,eB),(true,false,eB),(true,true,eB)],[0,1,1],[(0,0,0),(0,0,0),(1,0,0)]⟩
def Lx:fY q0=some r0:=kR
def row0:(R6 r0 2 1).length=2:=kR
def El:∀(l:List Q)(n m:Int),n<=szL l n m
 |[],n,m=>by rw[szL];exact JE _
 |x::l,n,m=>by
  rw[szL];split
  .have:=pD x (m-n) oM;have:=El l (n+szQ x (m-n)) m;omega
  .exact JE _
mutual
def FA:∀(q:Q)(m:Int),0<=m->szQ q m<=m->(nQ q:Int)<=szQ q m
 | .mk o s c v a b,m,hm,h=>by
  rw[szQ]at h ⊢;rw[nQ];have h1:=El b (szL a 1 m) m;have h2:=yQ a 1 m oM;have h3:=yQ b (szL a 1 m) m h;omega
def yQ:∀(l:List Q)(n m:Int),szL l n m<=m->n+(nL l:Int)<=szL l n m
 |[],n,m,h=>by rw[szL,nL];omega
 |x::l,n,m,h=>by
  rw[szL]at h ⊢;rw[nL];split at h
  next hn=>rw[bJ hn];have h1:=El l (n+szQ x (m-n)) m;have h2:=FA x (m-n) oM oM;have h3:=yQ l (n+szQ x (m-n)) m h;omega
  .omega
end
def mg{q:Q}(h:jX q=true):OkD false q/\nQ q<=64:=by
 simp only[jX,cA,eT]at h;have:=FA q 64 oM h.1;exact⟨⟨16,h.2⟩,oM⟩
def AtW(cs:LV)(a:AtD):Prop:=cs=[.string a.space,.string a.loc,.string a.val]
def EvW(H:d7)(lo:Nat)(cs:LV)(e:EvD):Prop:=∃v,cs=[iV e.kind,.string e.space,.string e.loc,v,.string e.text]/\SlI H lo 3 AtW v e.attrs/\e.attrs.length<=1048576
abbrev QL(H:d7)(lo:Nat)(v:aa3)(l:List EvD):Prop:=SlI H lo 5 (EvW H lo) v l
def EvW.mono{H H':d7}{lo u:Nat}(J:∀j,j<lo->H'.g j=H.g j) (z:lo<=u) {cs:LV} {e:EvD} (h:EvW H lo cs e):EvW H' u cs e:=by
 obtain⟨v,D,E,I⟩:=h;exact⟨v,D,E.mono J z iF,I⟩
def QL.mono{H H':d7}{lo z:Nat}{v:aa3}{l:List EvD}(h:QL H lo v l)(D:∀j,j<lo->H'.g j=H.g j) (u:lo<=z):QL H' z v l:=
 SlI.mono h D u fun _ _ q=>q.mono D u
def JB{H:d7}{lo:Nat}{v:aa3}{l:List AtD}(J:SlI H lo 3 AtW v l){i:Nat}{a:AtD}(I:l[i]?=some a):
  ∃b o c cs own,v= .slice (some ⟨b,o,none⟩) l.length c/\b<lo/\H.g b=some (.cells cs own 3)/\ldC (some true) (some 3) (o+i*3) cs=some (.agg #[.string a.space,.string a.loc,.string a.val]):=by
 obtain⟨b,o,c,cs,own,h,u,z,D,E⟩:=J.at_ I;exact⟨b,o,c,cs,own,h,u,z,aE D E⟩
def R3(cs:LV)(a:AtD):Prop:=cs.length=3/\∀x∈cs,∃s,x= .string s
def EvS(H:d7)(F:Nat->Prop)(cs:LV)(e:EvD):Prop:=∃k s l v t,cs=[iV k,.string s,.string l,v,.string t]/\SlO H F 3 R3 v e.attrs
def SlO.imp{H:d7}{F:Nat->Prop}{sz:Nat}{α:Type}{R R':LV->α->Prop}{v:aa3}{l:List α}(h:SlO H F sz R v l)(I:∀cs a,R cs a->R' cs a):SlO H F sz R' v l:=by
 rcases h with h|⟨b,o,c,O,h⟩
 .exact .inl h
 .exact .inr ⟨b,o,c,O,h.imp id fun⟨cs,u,z,D,E⟩=>⟨cs,u,z,D,fun i a J=>I _ _ (E i a J)⟩⟩
def EvO.s{H:d7}{F:Nat->Prop}{cs:LV}{e:EvD}(h:EvO H F cs e):EvS H F cs e:=by
 obtain⟨v,z,D⟩:=h;refine⟨_,_,_,v,_,z,D.imp fun cs a q=>?_⟩;obtain rfl:cs=atE a:=q;exact⟨rfl,fun x u=>by simp [atE]at u;rcases u with rfl|rfl|rfl<;>exact⟨_,rfl⟩⟩
def EvS.mono{H H':d7}{F F':Nat->Prop}{cs:LV}{e:EvD}(h:EvS H F cs e)(E:∀j,F j->H'.g j=H.g j) (D:∀j,F j->F' j):EvS H' F' cs e:=by
 obtain⟨k,s,l,v,t,u,z⟩:=h;exact⟨k,s,l,v,t,u,z.mono E D⟩
def yE{cs:LV}{q a n:Nat}{y:aa3}:((cs.set q y).drop a).take n=if q<a then(cs.drop a).take n else((cs.drop a).take n).set (q-a) y:=by
 rw[List.drop_set];split
 .rfl
 .rw[List.take_set]
def R3.set{cs:LV}{q a:Nat}{s:aa2}{x:AtD}(h:R3 ((cs.drop a).take 3) x):R3 (((cs.set q (.string s)).drop a).take 3) x:=by
 rw[yE];split
 .exact h
 .refine⟨by rw[zC];exact h.1,fun y u=>?_⟩;rcases QN u with k|k
  .exact h.2 y k
  .exact⟨s,k⟩
structure FJ(lo:Nat)(H:d7)(v:aa3)(l:List EvD)(G:Nat->Prop):Prop where
 own:u5 H lo 5 (EvS H G) v l
 fr:∀j,G j->lo<=j/\j<H.n/\¬j8 v j
def rq.sp{lo:Nat}{H:d7}{v:aa3}{l:List EvD}{G:Nat->Prop}(h:rq lo H v l G):FJ lo H v l G:=⟨h.own.imp fun _ _ q=>q.s,h.fr⟩
def FJ.text{lo:Nat}{H:d7}{v:aa3}{l:List EvD}{G:Nat->Prop}{b c i:Nat}{cs:LV}{s:aa2}(h:FJ lo H v l G)(E:v=sL b l.length c)(U:H.g b=cE cs 5)(hi:i<l.length):FJ lo (H.put b (.cells (cs.set (i*5+4) (.string s)) true 5)) v l G:=by
 have hb:j8 v b:=by rw[E];exact P3.2 rfl
 have J:∀j,G j->b≠j:=fun j D e=>(h.fr j D).2.2 (e▸hb);refine⟨?_,fun j D=>by rw[j9];exact h.fr j D⟩;obtain⟨ca,u,S⟩:=h.own;rcases u with⟨u,I,rfl⟩|⟨b',c',u,I,h4,h5⟩
 .rw[E]at u;cases u
 .rw[E]at u;cases u;obtain rfl:cs=ca:=by rw[U]at I;cases I;rfl
  refine⟨_,.inr ⟨b,c,E,i9 (u6 U),h4,by rw[zC];exact h5⟩,by rw[zC];exact S.1,fun j a ha=>?_⟩;have W:=(S.2 j a ha).mono (H':=H.put b (.cells (cs.set (i*5+4) (.string s)) true 5)) (fun j D=>j7 (J j D)) (fun _ h=>h);rw[yE];split
  .exact W
  .obtain⟨k,s',l',w,t,e1,O⟩:=W;rw[e1];by_cases e:j=i
   .subst e;rw[show j*5+4-j*5=4 from oM];exact⟨k,s',l',w,s,rfl,O⟩
   .have X:∀z:LV,z.length=5->z.set (i*5+4-j*5) (.string s)=z:=fun z X=>List.set_eq_of_length_le oM;rw[X _ rfl];exact⟨k,s',l',w,t,rfl,O⟩
def FJ.at_{lo:Nat}{H:d7}{v:aa3}{l:List EvD}{G:Nat->Prop}(h:FJ lo H v l G){i:Nat}(W:i<l.length):∃x b c cs u,l[i]?=some x/\v=sL b l.length c/\lo<=b/\b<H.n/\H.g b=cE cs 5/\i*5+5<=cs.length/\cs[i*5+3]?=some u/\SlO H G 3 R3 u x.attrs:=by
 obtain⟨x,z,_⟩:=P5 (l:=l) (i:=i) W;obtain⟨b,c,cs,D,E,I,J,O,k,s,X,u,t,S,U⟩:=h.own.at_ z;exact⟨x,b,c,cs,u,z,D,E,I,J,O,by rw[E7 (k:=3) oM S];rfl,U⟩
def SlI.mem{H:d7}{lo sz:Nat}{α:Type}{R R':LV->α->Prop}{v:aa3}{l:List α}(h:SlI H lo sz R v l)(J:∀a∈l,∀cs,R cs a->R' cs a):SlI H lo sz R' v l:=by
 rcases h with h|⟨b,o,c,O,h⟩
 .exact .inl h
 .exact .inr ⟨b,o,c,O,h.imp id fun⟨cs,own,z,D,E,I⟩=>⟨cs,own,z,D,E,fun i a u=>J a (mG u) _ (I i a u)⟩⟩
end Go.Proofs.YtjlpdddmmnijoaaGreatDoor.Ve
