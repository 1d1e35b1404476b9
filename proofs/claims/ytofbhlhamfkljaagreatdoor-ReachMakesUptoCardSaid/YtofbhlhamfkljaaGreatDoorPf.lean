/- ReachMakes returns true for every path whose reading is of bulk at most 1048576, and the path reads behind the call as it read before. Conditions: what comes in is of bulk at most 1048576. -/
import Derived.Test.YtofbhlhamfkljaaGreatDoorPe
import Derived.Test.YtofbhlhamfkljaaGreatDoorProg
import Derived.KernelRfl
set_option linter.unusedVariables false
set_option linter.unusedSimpArgs false
set_option maxHeartbeats 0
set_option maxRecDepth 1000000
namespace Go.Proofs.YtofbhlhamfkljaaGreatDoor.Ve
open Go Go.RowKit
open Go.Proofs.Tryz (prog)
theorem ak6(size a b:Int):∀(l:List EvD)(i:Nat)(r:ReD),(Q0 size a b l i r).1.strat=r.strat/\(Q0 size a b l i r).1.labels=r.labels/\r.size<+:(Q0 size a b l i r).1.size
 |[],i,r=>⟨rfl,rfl,List.prefix_rfl⟩
 |e::l,i,r=>by
  rw[Q0];obtain⟨p1,p2,h,_⟩:=fy r (Y8 r.strat e (r.sorts.getD a.toNat soZ) (r.sorts.getD b.toNat soZ)) size (i,a,b);split
  .split
   .obtain⟨u,y,z⟩:=ak6 size a b l (i+1) (aQ r (Y8 r.strat e (r.sorts.getD a.toNat soZ) (r.sorts.getD b.toNat soZ)) size (i,a,b)).1;exact⟨u.trans p1,y.trans p2,h.trans z⟩
   .exact⟨p1,p2,h⟩
  .exact ak6 size a b l (i+1) r
def cD(size:Int):List (Nat×Nat)->ReD->ReD×Bool
 |[],r=>(r,true)
 |x::l,r=>if(Q0 size x.1 x.2 r.labels 0 r).2 then cD size l (Q0 size x.1 x.2 r.labels 0 r).1 else((Q0 size x.1 x.2 r.labels 0 r).1,false)
def jm(r:ReD)(size:Int):ReD×Bool:=cD size (ak7 (fun i=>r.size.getD i 0) size r.sorts.length r.sorts.length) r
theorem sD{f g:Nat->Int}{size:Int}{m:Nat}(h:∀i,i<m->f i=g i):∀a,a<=m->ak7 f size m a=ak7 g size m a:=by
 intro a D;unfold ak7;have:∀x∈List.range a,gX f size x m=gX g size x m:=fun x u=>by
  unfold gX
  congr 1
  refine List.filter_congr fun y z=>?_;rw[h x (oN (List.mem_range.1 u)),h y (List.mem_range.1 z)]
 rw[List.flatMap_def,List.flatMap_def,List.map_congr_left this]
section
variable(Hs:d9)(lo K:Nat)(rb lw:Nat)(G:Nat->Prop)(rs:List Value)(vl:Value)(W0:List Value)(Hb:d9)(b2 b3 b4:Nat)(size:Int)(h0:0<=size)(n:Nat)(hbox:yU Hb rb lw W0 b2 b3 b4 size)(hlo:lo<=lw)(heq:∀j,j<lo->Hb.get j=Hs.get j)
include h0 hbox hlo heq
theorem EY(a b:Int)(e:Env)(H:d9)(r:ReD)(u y D:Value)(X:e.get 2=pT b2)(f3:e.get 3=pT b3)(f4:e.get 4=pT b4)(f5:e.get 5=iV a)(f6:e.get 6=iV b)
  (I:R0 (QR Hs lo K false) (QR Hs lo K true) H rb lw G r rs vl u y D) (hT:Z1 rb lw W0 Hb [u,y,D] H) (U:WfR r n):
  u9 (LE prog O8 ky e H) (fun o e H=>(o= .normal/\(Q0 size a b r.labels 0 r).2=true/\∃u y D,R0 (QR Hs lo K false) (QR Hs lo K true) H rb lw G (Q0 size a b r.labels 0 r).1 rs vl u y D/\Z1 rb lw W0 Hb [u,y,D] H/\WfR (Q0 size a b r.labels 0 r).1 n)\/(o= .ret/\(Q0 size a b r.labels 0 r).2=false/\H.get b4=cE [.bool false] 1/\i4 lw Hb H)):=by
 obtain⟨g2,g3,w4,g4⟩:=hbox.at_ hT;have gr:=I.g;obtain⟨W,q9,a1,a2⟩:=I.at_;obtain⟨a3,E⟩:=eY (rs++[vl,u,y,D]);rw[<-E]at gr W;obtain⟨va,vc,h⟩:=I.lb.slice;rw[h]at W;refine J4 X g2 gr W ?_;refine l9 (F:=fun z=>u9 (inBlock 1 (inBlock 2 z)) _) (qU Hs lo K rb lw G rs vl W0 Hb b2 b3 b4 size a b h0 n hbox hlo heq va vc r.labels h (Q0 size a b r.labels 0 r) (r.labels.length-0) _ _ ⟨0,r,u,y,D,rfl,Nat.zero_le _,X,f3,f4,f5,f6,h.symm,rfl,rfl,rfl,I,hT,U,by rw[List.drop_zero]⟩) ?_;rintro o' e' H' (⟨S,J,O⟩|⟨S,J,O⟩)
 .have:inBlock 1 (inBlock 2 (some (o',e',H')))=some (.normal,e',H'):=by rw[S];rfl
  rw[this,cQ];exact .inl ⟨rfl,J,O⟩
 .have:inBlock 1 (inBlock 2 (some (o',e',H')))=some (.ret,e',H'):=by rw[S];rfl
  rw[this,cQ];exact .inr ⟨rfl,J,O⟩
theorem rG(e:Env)(U:e.get 2=pT b2)(f3:e.get 3=pT b3)(f4:e.get 4=pT b4)(ok:d9->Prop)(s0:List Int)(E:∀H r h u y,R0 (QR Hs lo K false) (QR Hs lo K true) H rb lw G r rs vl h u y->Z1 rb lw W0 Hb [h,u,y] H->s0<+:r.size->ok H):
  ∀(L:List (Nat×Nat))(H:d9)(r:ReD)(h u y:Value),R0 (QR Hs lo K false) (QR Hs lo K true) H rb lw G r rs vl h u y->Z1 rb lw W0 Hb [h,u,y] H->WfR r n->s0<+:r.size->
   ∃o H',aw prog O8 kx ky 12 13 e ok L H=some (o,H')/\((o= .normal/\(cD size L r).2=true/\∃h u y,R0 (QR Hs lo K false) (QR Hs lo K true) H' rb lw G (cD size L r).1 rs vl h u y/\Z1 rb lw W0 Hb [h,u,y] H'/\WfR (cD size L r).1 n)\/(o= .ret/\(cD size L r).2=false/\H'.get b4=cE [.bool false] 1/\i4 lw Hb H'))
 |[],H,r,h,u,y,hR,hT,hwf,hs=>⟨.normal,H,rfl,.inl ⟨rfl,rfl,h,u,y,hR,hT,hwf⟩⟩
 |x::L,H,r,h,u,y,hR,hT,hwf,hs=>by
  have W:LE prog O8 kx ((13,iV (x.2:Int))::(12,iV (x.1:Int))::e) H=some (.normal,(6,iV (x.2:Int))::(5,iV (x.1:Int))::(13,iV (x.2:Int))::(12,iV (x.1:Int))::e,H):=by
   simp(maxSteps:=20000000) -dsimp (disch:=first|omega|(simp only[rH]<;>omega)|fail) only[↓ai3,rQ,D8,sevalprocAttr,tyA,]
  obtain⟨o,e2,H2,X,I⟩:=EY Hs lo K rb lw G rs vl W0 Hb b2 b3 b4 size h0 n hbox hlo heq x.1 x.2 ((6,iV (x.2:Int))::(5,iV (x.1:Int))::(13,iV (x.2:Int))::(12,iV (x.1:Int))::e) H r h u y U f3 f4 rfl rfl hR hT hwf;rcases I with⟨rfl,S,y1,y2,y3,z,D,O⟩|⟨rfl,S,h2,h3⟩
  .have J:s0<+:(Q0 size x.1 x.2 r.labels 0 r).1.size:=hs.trans (ak6 size x.1 x.2 r.labels 0 r).2.2;obtain⟨o',H',k1,k2⟩:=rG e U f3 f4 ok s0 E L H2 _ y1 y2 y3 z D O J;refine⟨o',H',?_,?_⟩
   .simp only[aw,W,X,if_pos (E H2 _ y1 y2 y3 z D J)];exact k1
   .rw[cD,if_pos S];exact k2
  .refine⟨.ret,H2,?_,.inr ⟨rfl,?_,h2,h3⟩⟩
   .simp only[aw,W,X]
   .rw[cD,S];rfl
end
theorem Ee{e:Env}{H:d9}{h y q:Value}{size:Int}{sa:Option Addr}{m c u z:Nat}{a:Addr}(S:e.get 11= .func (.func 84) #[] #[h,y])(U:ldc H h 0=some q)(W:ldc H y 0=some (.int .i64 size))(X:ldc H q 9=some (.slice sa m c))(hm:1<=m/\m<=1000)(D:ldc H q 10=some (.slice (some a) u z))(I:m<=u)(O:Nat->Int)(J:∀i,i<m->ldc H (.pointer (some a)) i=some (.int .i64 (O i))) (hb:∀i,i<m->0<=O i/\O i<=1000000):
  pg e H=some (ak7 O size m m,okP h y q m (fun i=>gj (iL (atA H (ldc H q 10) i))) size):=by
 have hc:∀i,i<m->gj (iL (atA H (ldc H q 10) i))=O i:=fun i E=>by
  rw[D];show gj (iL (ldc H (.pointer (some a)) i))=_;rw[J i E,iL,gj,if_pos (hb i E)]
 have e9:lnA (ldc H q 9)=m:=by rw[X];rfl
 have e3:iL (ldc H y 0)=size:=by rw[W];rfl
 have e0:(#[h,y]:Array Value).getD 0 undef=h:=rfl;have e1:(#[h,y]:Array Value).getD 1 undef=y:=rfl;have eq:(ldc H h 0).getD undef=q:=by rw[U];rfl
 unfold pg;simp only[S];rw[e0,e1,eq,e9,e3];rw[if_pos ⟨rfl,rfl,hm.1,hm.2,⟨sa,c,X⟩,U,W,a,u,z,D,I,fun i E=>by show ldc H (.pointer (some a)) i=some (.int .i64 (gj (iL (atA H (ldc H q 10) i))));rw[hc i E];exact J i E⟩];rw[sD hc m (Nat.le_refl m)]
theorem GL{H:d9}{lo:Nat}{w:Value}{l:List Int}(E:t7 H lo 1 (R1 inE) w l)(h:1<=l.length):∃a c,w= .slice (some a) l.length c/\∀i,i<l.length->ldc H (.pointer (some a)) i=some (.int .i64 (l.getD i 0)):=by
 have hs:=E.sl;obtain⟨sa,c,rfl⟩:=hs.slice;obtain⟨_,nb,o,_,_,_,_,_,rfl,_,_,_,_,_,_⟩:=hs.row (i:=0) oM;refine⟨_,c,rfl,fun i O=>?_⟩;obtain⟨y,X,o',cs,own,el,W,hd,D,U,J,S,z,I,rfl⟩:=hs.row (i:=i) O;cases D;have u:=I 0 oM;rw[Nat.add_zero,Nat.mul_one]at u;unfold ldc;simp only[J,u];rw[List.getD_eq_getElem?_getD,W];rfl
theorem R0.back{z D:LV->Q->Prop}{H H':d9}{rb lw:Nat}{G:Nat->Prop}{r r0:ReD}{rs:LV}{vl O S U w1 w2 w3:Value}(h:R0 z D H' rb lw G r rs vl O S U)(y:R0 z D H rb lw G r0 rs vl w1 w2 w3)(u:∀j,j<H.next->H'.get j=H.get j):O=w1/\S=w2/\U=w3/\R0 z D H rb lw G r rs vl w1 w2 w3:=by
 have E:=h.g;rw[u rb (u6 y.g),y.g]at E;simp only[Option.some.injEq,Blk.cells.injEq,List.append_cancel_left_eq,List.cons.injEq,and_true,true_and]at E;obtain⟨rfl,rfl,rfl⟩:=E;have I:∀j,G j->H.get j=H'.get j:=fun j X=>(u j (y.fr j X).1).symm;have J:∀w∈ [w1,w2,w3],∀b,j9 w b->H.get b=H'.get b:=fun w hw b W=>(u b (y.inl hw W).2.2).symm;exact⟨rfl,rfl,rfl,y.g,h.st.mono I (fun _ h=>h) iF iF,h.lb.mono I (fun _ h=>h) (fun _ _ q=>w9 _ _ _ _ _ _ q I (fun _ h=>h)),h.so.same (J w1 sM),h.sz.same (J w2 sM),h.ho.same (J w3 sM),h.ap,y.fr,y.nb⟩
theorem R0.side{I J:LV->Q->Prop}{H H':d9}{rb lw:Nat}{G:Nat->Prop}{r:ReD}{rs:LV}{vl w1 w2 w3:Value}(h:R0 I J H rb lw G r rs vl w1 w2 w3){b:Nat}(z:b≠rb/\¬G b/\∀w∈ [w1,w2,w3],¬j9 w b) (S:H.next<=H'.next) (u:∀j,j≠b->H'.get j=H.get j):R0 I J H' rb lw G r rs vl w1 w2 w3:=by
 have D:∀j,G j->H'.get j=H.get j:=fun j y=>u j fun q=>z.2.1 (q▸y);have E:∀w∈ [w1,w2,w3],∀j,j9 w j->H'.get j=H.get j:=fun w O j y=>u j fun q=>z.2.2 w O (q▸y);exact⟨(u rb fun q=>z.1 q.symm).trans h.g,h.st.mono D (fun _ h=>h) iF iF,h.lb.mono D (fun _ h=>h) (fun _ _ q=>w9 _ _ _ _ _ _ q D (fun _ h=>h)),h.so.same (E w1 sM),h.sz.same (E w2 sM),h.ho.same (E w3 sM),h.ap,fun j y=>by have:=h.fr j y;exact⟨oM,this.2⟩,h.nb⟩
theorem XI(H:d9)(rb:Nat)(size:Int):CL prog O8 61 [pT rb,iV size] H=some (.func (.func 84) #[] #[pT H.next,pT (H.next+1)],some ⟨H.bs++[.cells [pT rb] true 1]++[.cells [iV size] true 1],min H.low H.next⟩):=by
 rw[j8 ac9 rfl _ sM];refine J1 XX ?_;rfl
def Cx(Hs:d9)(lo K:Nat)(rb lw:Nat)(G:Nat->Prop)(rs:LV)(vl w1 w2 w3:Value)(n:Nat)(H:d9)(z:ReD×Bool):Value->d9->Prop:=fun v H'=>
 v= .bool z.2/\i4 lw H H'/\(z.2=true->∃x1 x2 x3,R0 (QR Hs lo K false) (QR Hs lo K true) H' rb lw G z.1 rs vl x1 x2 x3/\Z1 rb lw [w1,w2,w3] H [x1,x2,x3] H'/\WfR z.1 n)
theorem MG(Hs:d9)(lo K:Nat)(H:d9)(rb lw:Nat)(G:Nat->Prop)(rs:LV)(vl w1 w2 w3:Value)(size:Int)(h0:0<=size)(n:Nat)(hlo:lo<=lw)(heq:∀j,j<lo->H.get j=Hs.get j) (r:ReD) (hR:R0 (QR Hs lo K false) (QR Hs lo K true) H rb lw G r rs vl w1 w2 w3) (W:WfR r n):
  Ret (CL prog fK 34 [pT rb,iV size] H) H (Cx Hs lo K rb lw G rs vl w1 w2 w3 n H (jm r size)):=by
 obtain⟨H1,a1,n1,-⟩:=pushF H (bC [pT rb] 1);obtain⟨H2,I⟩:=eY (H1.push (bC [iV size] 1));have n2:H2.next=H.next+2:=by rw[I,i5,n1]
 obtain⟨u,D⟩:=eY (H2.push (bC [.bool false] 1));have n3:u.next=H.next+3:=by rw[D,i5,n2]
 have g2:u.get H.next=cE [pT rb] 1:=by rw[D,j6 oM,I,j6 oM,a1];exact i7
 have g3:u.get (H.next+1)=cE [iV size] 1:=by rw[D,j6 oM,I,<-n1];exact i7
 have g4:u.get (H.next+2)=cE [.bool false] 1:=by rw[D,<-n2];exact i7
 have a8:=XI u rb size;obtain⟨h,a6⟩:=eY (⟨u.bs++[.cells [pT rb] true 1]++[.cells [iV size] true 1],min u.low u.next⟩:d9);rw[<-a6]at a8;rw[Ya];unfold AR jV;rw[if_pos sM];have hE:∃y,pC prog O8 vw vx kx ky nh 12 13 pg (D8 0 [pT rb,iV size]) ⟨H.bs,H.next⟩=(match pg y h with
   |some (L,ok)=>match aw prog O8 kx ky 12 13 y ok L h with
    |some (.normal,u)=>LE prog O8 nh y u
    |some (.ret,u)=>some (.ret,y,u)
    |_=>none
   |none=>none)/\y.get 2=pT H.next/\y.get 3=pT (H.next+1)/\y.get 4=pT (H.next+2)/\y.get 11= .func (.func 84) #[] #[pT (H.next+3),pT (H.next+4)]:=by
  have ha:∃X,LE prog O8 vw (D8 0 [pT rb,iV size]) ⟨H.bs,H.next⟩=some (.normal,X,u)/\X.get 2=pT H.next/\X.get 3=pT (H.next+1)/\X.get 4=pT (H.next+2):=by
   refine J5 a1.symm n1 I.symm n2 D.symm ?_;exact⟨_,rfl,rfl,rfl,rfl⟩
  obtain⟨X,ha,p2,p3,p4⟩:=ha;have hb:∃y,LE prog O8 vx X u=some (.normal,y,h)/\y.get 2=pT H.next/\y.get 3=pT (H.next+1)/\y.get 4=pT (H.next+2)/\y.get 11= .func (.func 84) #[] #[pT (H.next+3),pT (H.next+4)]:=by
   rw[n3]at a8;refine J5 p2 p3 g2 g3 a8 ?_;exact⟨_,rfl,p2,p3,p4,rfl⟩
  obtain⟨y,hb,p⟩:=hb;refine⟨y,?_,p⟩;unfold pC;simp only[ha,hb];rfl
 obtain⟨y,hE,p2,p3,p4,d2⟩:=hE;rw[hE];have b5:h.bs=((u.push (bC [pT rb] 1)).push (bC [iV size] 1)).bs:=by rw[a6];rfl
 have d5:u.low=H.next:=by rw[D,I,a1];rfl
 have d8:h.low=H.next:=by rw[a6];show min u.low u.next=_;omega
 have n5:h.next=H.next+5:=by
  show h.bs.length=_;rw[b5];simp only[d9.push,List.length_append,List.length_singleton];have:u.bs.length=H.next+3:=n3;omega
 have g5:∀j,h.get j=((u.push (bC [pT rb] 1)).push (bC [iV size] 1)).get j:=fun j=>by show h.bs[j]?=_;rw[b5];rfl
 have o5:∀j,j<u.next->h.get j=u.get j:=fun j z=>by rw[g5,j6 (by rw[i5];omega),j6 z]
 have a3:h.get (H.next+3)=cE [pT rb] 1:=by rw[g5,j6 (by rw[i5];omega),<-n3];exact i7
 have a4:h.get (H.next+4)=cE [iV size] 1:=by
  have e4:H.next+4=(u.push (bC [pT rb] 1)).next:=by rw[i5];omega
  rw[g5,e4];exact i7
 have old:∀j,j<H.next->h.get j=H.get j:=fun j z=>by rw[o5 j oM,D,j6 oM,I,j6 oM,a1,j6 (by exact z)];rfl
 have hS:i4 H.next H h:=⟨oM,fun k hk _=>oM,old⟩
 have J:=hR.keep hS;have e8:=u6 hR.g;have e7:=hR.nb.1;obtain⟨q8,q9,d3,e9⟩:=J.at_;obtain⟨s1,c1,X⟩:=J.so.slice;have d0:=W.l0;have e5:=W.l1;have e6:=W.l2;obtain⟨s2,c2,c7,z2⟩:=GL J.sz oM;have k1:ldc h (pT (H.next+3)) 0=some (pT rb):=by unfold ldc;simp only[a3];rfl
 have k3:ldc h (pT (H.next+4)) 0=some (.int .i64 size):=by unfold ldc;simp only[a4];rfl
 have k9:ldc h (pT rb) 9=some (.slice s1 r.sorts.length c1):=by unfold ldc;simp only[J.g,Nat.zero_add];rw[q9,X]
 have c4:ldc h (pT rb) 10=some (.slice (some s2) r.size.length c2):=by unfold ldc;simp only[J.g,Nat.zero_add];rw[d3,c7]
 have b8:∀i,i<r.sorts.length->0<=r.size.getD i 0/\r.size.getD i 0<=1000000:=fun i hi=>by
  have b1:i<r.size.length:=oM;have b7:r.size.getD i 0∈r.size:=by rw[List.getD_eq_getElem?_getD,List.getElem?_eq_getElem b1];exact List.getElem_mem b1
  have:=W.sb _ b7;omega
 have b6:=Ee d2 k1 k3 k9 ⟨d0,oM⟩ c4 oM (fun i=>r.size.getD i 0) (fun i hi=>z2 i oM) b8;obtain⟨ok,b9⟩:=eY (okP (pT (H.next+3)) (pT (H.next+4)) (pT rb) r.sorts.length (fun i=>gj (iL (atA h (ldc h (pT rb) 10) i))) size);rw[<-b9]at b6;have b0:∀i,i<r.sorts.length->gj (iL (atA h (ldc h (pT rb) 10) i))=r.size.getD i 0:=fun i hi=>by
  rw[c4];show gj (iL (ldc h (.pointer (some s2)) i))=_;rw[z2 i oM,iL,gj,if_pos (b8 i hi)]
 have nW:∀j,H.next<=j->∀w∈ [w1,w2,w3],¬j9 w j:=fun j z w hw q=>oN ((hR.inl hw q).2.2);have c0:∀H' r' x1 x2 x3,R0 (QR Hs lo K false) (QR Hs lo K true) H' rb lw G r' rs vl x1 x2 x3->Z1 rb lw [w1,w2,w3] h [x1,x2,x3] H'->r.size<+:r'.size->ok H':=by
  intro H' r' x1 x2 x3 S h2 h3;have hl:=h3.length_le;obtain⟨t8,t9,d4,f0⟩:=S.at_;obtain⟨s,c,es,zs⟩:=GL S.sz oM;rw[b9];have b3:H'.get (H.next+3)=h.get (H.next+3):=h2.but _ oM oM (nW _ oM);have b4:H'.get (H.next+4)=h.get (H.next+4):=h2.but _ oM oM (nW _ oM);refine⟨by unfold ldc;simp only[b3,a3];rfl,by unfold ldc;simp only[b4,a4];rfl,s,r'.size.length,c,by unfold ldc;simp only[S.g,Nat.zero_add];rw[d4,es],oM,fun i hi=>?_⟩;rw[zs i oM];show _=some (iV (gj (iL (atA h (ldc h (pT rb) 10) i))));rw[b0 i hi];obtain⟨t,ht⟩:=h3;rw[<-ht,List.getD_eq_getElem?_getD,List.getD_eq_getElem?_getD,List.getElem?_append_left oM]
 have hbox:yU h rb lw [w1,w2,w3] H.next (H.next+1) (H.next+2) size:=⟨by rw[o5 _ oM];exact g2,by rw[o5 _ oM];exact g3,⟨_,by rw[o5 _ oM];exact g4⟩,fun j z=>⟨oM,oM,nW j oM⟩⟩
 obtain⟨o,H',hr,a2⟩:=rG Hs lo K rb lw G rs vl [w1,w2,w3] h H.next (H.next+1) (H.next+2) size h0 n hbox hlo (fun j z=>by rw[old j oM];exact heq j z) y p2 p3 p4 ok r.size c0 (ak7 (fun i=>r.size.getD i 0) size r.sorts.length r.sorts.length) h r w1 w2 w3 J (Z1.refl _ _ _ _) W List.prefix_rfl;obtain⟨kk,c8⟩:=dt Xw Xx _ _ hr;have c9:=bh (sj GH vF (Bs.lt 0) default) _ _ c8;have hz:cD size (ak7 (fun i=>r.size.getD i 0) size r.sorts.length r.sorts.length) r=jm r size:=rfl;rw[hz]at a2;have e0:(match pg y h with
   |some (L,ok)=>match aw prog O8 kx ky 12 13 y ok L h with
    |some (.normal,u)=>LE prog O8 nh y u
    |some (.ret,u)=>some (.ret,y,u)
    |_=>none
   |none=>none)=(match(some (o,H'):Option (Out×d9))with
    |some (.normal,u)=>LE prog O8 nh y u
    |some (.ret,u)=>some (.ret,y,u)
    |_=>none):=by rw[b6];simp only[hr]
 rw[e0];rcases a2 with⟨rfl,S,x1,x2,x3,a9,E,a5⟩|⟨rfl,S,h2,h3⟩
 .have b4:H'.get (H.next+2)=cE [.bool false] 1:=by rw[E.but _ oM oM (nW _ oM),o5 _ oM];exact g4
  obtain⟨O,U⟩:=eY (H'.put (H.next+2) (bC [.bool true] 1));have nn:=E.stay.next;have c6:O.get (H.next+2)=cE [.bool true] 1:=by rw[U];exact i8 oM
  have d6:∀j,j≠H.next+2->O.get j=H'.get j:=fun j z=>by rw[U];exact i9 (fun q=>z q.symm)
  have n6:O.next=H'.next:=by rw[U,j5]
  have l6:O.low=min H'.low (H.next+2):=by rw[U,A4]
  simp only;refine J4 p4 b4 U.symm c6 ?_;refine D7 (fun _ hl=>?_) ?_
  .have e3:H.next<=H'.low:=oM;have c5:∀j,j<H.next->H'.get j=H.get j:=fun j z=>by
    have:=c9.same j oM (by show j<h.next;omega);exact this.trans (old j z)
   obtain⟨_,_,_,a7⟩:=a9.back hR c5;exact⟨by rw[S],i4.refl _ _,fun _=>⟨w1,w2,w3,a7,Z1.refl _ _ _ _,a5⟩⟩
  .have c3:i4 lw H ⟨O.bs,min H.low O.low⟩:=by
    refine⟨by show H.next<=O.next;omega,fun k hk q=>?_,fun j z=>?_⟩
    .have:=E.stay.lowAll k hk oM;show k<=min H.low O.low;omega
    .show O.get j=H.get j;rw[d6 j oM,E.stay.get j z,old j oM]
   refine⟨by rw[S],c3,fun _=>⟨x1,x2,x3,?_,⟨fun j z X y=>?_,fun b hb=>?_,c3⟩,a5⟩⟩
   .refine a9.side (b:=H.next+2) ⟨oM,fun q=>by have:=(hR.fr _ q).1;omega,fun w hw q=>?_⟩ (by show H'.next<=O.next;omega) d6;rcases E.new _ ⟨w,hw,q⟩with⟨w',d1,q'⟩|q'
    .exact nW _ oM w' d1 q'
    .omega
   .show O.get j=H.get j;rw[d6 j oM,E.but j oM X y,old j z]
   .rcases E.new b hb with q|q
    .exact .inl q
    .exact .inr oM
 .simp only;refine J2 p4 h2 ?_;refine D7 (fun _ hl=>⟨by rw[S],i4.refl _ _,fun q=>by rw[S]at q;cases q⟩) ⟨by rw[S],⟨?_,fun k hk q=>?_,fun j z=>?_⟩,fun q=>by rw[S]at q;cases q⟩
  .have:=h3.next;show H.next<=H'.next;omega
  .have:=h3.lowAll k hk oM;show k<=min H.low H'.low;omega
  .show H'.get j=H.get j;rw[h3.get j z,old j oM]
theorem Ret.one{f:FuncId}{args:LV}{H H':d9}{Q:Value->d9->Prop}(h:Ret (CL prog O8 f args H) H' Q):Ret (CL prog fK f args H) H' Q:=by
 obtain⟨v,y,u,z,D,E⟩:=h;exact⟨v,y,u,fx z,D,E⟩
theorem Nj{a b:Int}(h:0<=a/\a<=200)(u:0<=b/\b<=200):0<=mx2 a b/\mx2 a b<=200:=by unfold mx2;split<;>assumption
theorem Nk:∀l:List Int,(∀x∈l,0<=x/\x<=200)->0<=mxL l/\mxL l<=200
 |[],_=>by simp [mxL]
 |x::l,h=>by
  have:∀(l:List Int)(m:Int),(∀x∈l,0<=x/\x<=200)->0<=m/\m<=200->0<=l.foldl mx2 m/\l.foldl mx2 m<=200:=by
   intro l;induction l with
   |nil=>intro m _ h;exact h
   |cons y l J=>intro m u D;rw[List.foldl_cons];exact J _ (fun z I=>u z (by simp [I])) (Nj D (u y sM))
  exact this l x (fun y E=>h y (by simp [E])) (h x sM)
def mD:Nat->ReD->Int->Option ReD
 |0,r,_=>some r
 |k+1,r,size=>if decide (size<=2*mxL r.size+1) then(if(jm r size).2 then mD k (jm r size).1 (size+1) else none) else some r
def z12:LV:=[nS,nS,nS,iV 0,iV 0,iV 0,nS,nS,nS,nS,nS,nS]
theorem uv(S:d9)(lo K:Nat)(W J:Nat)(G:Nat->Prop)(rs:LV)(vl:Value)(Hb:d9)(z:Nat)(n:Nat)(a8:lo<=J)(a7:∀j,j<lo->Hb.get j=S.get j) (a2:z<J) (g2:Hb.get z=cE z12 1) (D:Option ReD):
  ∀U e H,(∃(size:Int)(r:ReD)(X O x3:Value),U=(402-size).toNat/\0<=size/\size<=402/\e.get 2=pT z/\e.get 6=pT W/\e.get 7=iV size/\
    R0 (QR S lo K false) (QR S lo K true) H W J G r rs vl X O x3/\i4 J Hb H/\WfR r n/\mD U r size=D)->
  u9 (LE prog fK (.loop Fv) e H) (fun o e H=>e.get 2=pT z/\((o= .exit 0/\e.get 6=pT W/\i4 J Hb H/\∃r X O x3,D=some r/\R0 (QR S lo K false) (QR S lo K true) H W J G r rs vl X O x3/\WfR r n)\/(o= .ret/\D=none/\e.get 3=iV 13/\H.get z=cE z12 1/\i4 z Hb H))):=by
 refine j7 _ _ ?_;rintro U e H ⟨size,r,X,O,x3,hk,b1,b8,f2,f6,f7,hR,hS,u,y⟩;obtain⟨q8,q9,b3,c0⟩:=hR.at_;have a9:=Nk r.size u.sb;have b5:=u.l0;have b6:=u.l1;have b7:=u.l2;have ho:=fx (Nr H W _ true 1 hR.g O r.size hR.sz.sl b3 oM oM size a9.1 oM);rcases bo:decide (size<=2*mxL r.size+1)with _|_
 .rw[bo]at ho;have a3:D=some r:=by
   cases U with
   |zero=>rw[mD]at y;exact y.symm
   |succ k=>rw[mD,bo]at y;exact y.symm
  refine J3 f6 f7 ho ?_;exact l7 ⟨f2,.inl ⟨rfl,f6,hS,r,X,O,x3,a3,hR,u⟩⟩
 .have b4:=dT bo;rw[bo]at ho;obtain⟨k,rfl⟩:∃k,U=k+1:=⟨U-1,oM⟩
  rw[mD,bo]at y;simp only[if_true]at y;obtain⟨v,hp,H1,h,E,hv,I,b0⟩:=MG S lo K H W J G rs vl X O x3 size b1 n a8 (fun j hj=>by rw[hS.get j oM];exact a7 j hj) r hR u;subst hv;have a1:H1.get z=cE z12 1:=by rw[I.get z a2,hS.get z a2];exact g2
  have a5:=u6 a1;rcases bz:(jm r size).2 with _|_
  .rw[bz]at h y;simp only[bF]at y;simp(maxSteps:=20000000) -dsimp (disch:=first|omega|(simp only[rH]<;>omega)|fail) only[↓ai3,rQ,D8,sevalprocAttr,tyA,f2,f6,f7,ho,h,E,a1,z12];exact A6 ⟨f2,.inr ⟨rfl,y.symm,rfl,i8 a5,((hS.trans I).weaken oM).trans (i4.put lR)⟩⟩
  .obtain⟨y1,y2,y3,a6,_,a4⟩:=b0 bz;rw[bz]at h y;simp only[if_true]at y;have b9:2*mxL r.size+1<=401:=oM;refine J6 f6 f7 ho h E @wrap_small ?_;exact i6 k oM ⟨size+1,_,y1,y2,y3,oM,oM,oM,f2,f6,rfl,a6,hS.trans I,a4,y⟩
theorem Bc(P:Program)(e:Env)(H:d9)(a:Nat)(t:TypeId)(u:Nat):[ResultVar.cell a t,.tmp u].mapM (L3 P e H)=(ld P t H (e.get a)).map fun v=>[v,e.get u]:=by
 simp only[List.mapM_cons,List.mapM_nil,L3];cases ld P t H (e.get a)<;>rfl
theorem aB9(q:Q)(D:OkD false q):∀p∈(D0 q).progs,∃x,nQ x<=nQ q/\p=C0 x:=by
 obtain⟨O,E⟩:=bH _ false q lR D;have key:∀(l:List Q)(s:StD),(∀x∈l,nQ x<=nQ q)->(∀p∈s.progs,∃x,nQ x<=nQ q/\p=C0 x)->∀p∈(l.foldl ni s).progs,∃x,nQ x<=nQ q/\p=C0 x:=by
  intro l;induction l with
  |nil=>intro s _ h;exact h
  |cons x l J=>
   intro s z h;rw[List.foldl_cons];refine J (ni s x) (fun y I=>z y (by simp [I])) ?_;rw[ni];split
   .exact h
   .intro p u;rcases List.mem_append.1 u with u|u
    .exact h p u
    .exact⟨x,z x sM,by simpa using u⟩
 exact key (inQ false q) ⟨[],[],[],C0 q⟩ (fun x z=>(E x z).2) sM
theorem wQ(q:Q):(C0 q).ed.length<=4*nQ q/\(C0 q).ts.length<=nQ q:=by
 have:=E8 q ⟨0,0,0,[],[]⟩;unfold X9 at this;simp only[C0];simp only[List.length_nil]at this;omega
theorem SlF.off{H:d9}{F:Nat->Prop}{sz:Nat}{α:Type}{R z:LV->α->Prop}{v:Value}{l:List α}{b:Nat}{c:LV}{own:Bool}(h:SlF H F sz R v l)(W:H.get b=some (.cells c own 1))(y:sz≠1)(S:∀cs a,R cs a->z cs a):SlF H (fun j=>F j/\j≠b) sz z v l:=by
 rcases h with h|⟨D,o,E,X,h⟩
 .exact .inl h
 .refine .inr ⟨D,o,E,X,h.imp id fun⟨cs,ow,I,u,J,O⟩=>⟨cs,ow,⟨I,fun q=>?_⟩,u,J,fun i a U=>S _ _ (O i a U)⟩⟩;subst q;rw[W]at u;cases u;exact y rfl
def aD(H:d9)(F:Nat->Prop)(Rp Rt:LV->Q->Prop)(row:LV)(r:ReD):Prop:=∃rs vl w1 w2 w3,row=rs++[vl,w1,w2,w3]/\StF H F Rp Rt rs r.strat/\SlF H F 5 (EvF H F) vl r.labels/\SlF H F 3 (R1 soE) w1 r.sorts/\SlF H F 1 (R1 inE) w2 r.size/\SlF H F 3 (R1 hoE) w3 r.how
def Ob(H:d9)(lo K:Nat)(n:Nat)(res:Option ReD)(v:Value)(H':d9):Prop:=∃row er,v= .tuple #[.agg row.toArray,iV er]/\i4 H.next H H'/\((res=none/\row=z12/\er=13)\/∃r,res=some r/\er=0/\WfR r n/\aD H' (· <H'.next) (QR H lo K false) (QR H lo K true) row r)
def rg(q:Q):Option ReD:=match S8 (spQ q)with
 |none=>none
 |some l=>mD 401 ⟨D0 q,l,[soZ],[0],[(0,0,0)]⟩ 1
theorem gF(q:Q){l:List EvD}(h:S8 (spQ q)=some l):l.length<=24/\∀e∈l,e.attrs.length<=1000000:=by
 obtain⟨W,X,D,z4,z5⟩:=jX q;have y:=kS (spQ q) D;rw[y]at h;split at h
 .cases h
 .rename_i I;cases h;obtain⟨c1,c2,S,U,E⟩:=ko I D;refine⟨E,fun e u=>?_⟩;have key:∀(l:List (NmQ×List ByteArray))(e0 e:EvD),e∈R4 l e0->e.attrs.length<=e0.attrs.length+l.length:=by
   intro l;induction l with
   |nil=>intro e0 e u;rw[R4,List.mem_singleton]at u;subst u;simp
   |cons x l z=>
    intro e0 e u;rw[R4,List.mem_append]at u;rcases u with u|u
    .have:=z e0 e u;rw[List.length_cons];omega
    .obtain⟨v,_,O⟩:=List.mem_flatMap.1 u;have:=z _ e O;simp only[atV,List.length_append,List.length_singleton]at this;rw[List.length_cons];omega
  rw[jp,List.mem_append]at u;rcases u with u|u
  .obtain⟨n,_,J⟩:=List.mem_flatMap.1 u;have:=key _ _ _ J;rw[List.length_zip]at this;simp only[Y4,List.length_nil]at this;omega
  .obtain⟨t,_,rfl⟩:=List.mem_map.1 u;simp [bZ]
theorem Bm(K:Nat)(H:d9)(lo:Nat)(cs:LV)(q:Q)(n4:lo<=H.next)(hr:QR H lo K false cs q)(b8:OkD false q)(g6:nQ q<=400):
  Ret (CL prog fK 11 [.agg cs.toArray] H) H (Ob H lo K (y9 (D0 q).progs).toNat (rg q)):=by
 have ac:=F0 hr;have ldc:=M8 hr;have l0:=hr.len;simp only[qSz,bF]at l0;rw[l0]at ldc;obtain⟨H0,b0,n0,-⟩:=pushF H (bC cs 1);obtain⟨H1,a4⟩:=eY (H0.push (bC z12 1));have n1:H1.next=H.next+2:=by rw[a4,i5,n0]
 have b6:i4 H.next H H1:=by rw[a4,b0];exact(i4.first H _).trans (i4.push (by rw[i5];exact Nat.le_succ _))
 have g1:H1.get H.next=cE cs 1:=by rw[a4,j6 oM,b0];exact i7
 have g2:H1.get (H.next+1)=cE z12 1:=by rw[a4,<-n0];exact i7
 obtain⟨vl,n5,Hl,c0,b7,v,er,rfl,g7,S⟩:=(Be H1 lo K cs q oM (hr.mono (fun j E=>b6.get j oM) lR) b8 oM).one;have nl:=S.next;have i2:=(S.get H.next oM).trans g1;have c5:=(S.get (H.next+1) oM).trans g2;have b3:=a4;have c9:=c5;simp only[z12]at b3 c9;rw[j8 aa4 rfl _ sM];unfold rg;rcases g7 with⟨hn,rfl,rfl⟩|⟨l,hl,rfl,hv⟩
 .rw[hn];obtain⟨H2,c7⟩:=eY (Hl.put (H.next+1) (bC z12 1));have c2:H2.get (H.next+1)=cE z12 1:=by rw[c7];exact i8 oM
  have l8:H2.low=min Hl.low (H.next+1):=by rw[c7,A4]
  have k0:i4 H.next H H2:=by rw[c7];exact(b6.trans (S.weaken oM)).trans (i4.put oM)
  have d0:=c7;simp only[z12]at d0 c2;refine J12 ac b0.symm n0 b3.symm g1 ldc c0 b7 c9 d0.symm c2 @Bc ?_;refine D7 (fun _ _=>?_) ?_
  .exact⟨z12,13,rfl,i4.refl _ _,.inl ⟨rfl,rfl,rfl⟩⟩
  .exact⟨z12,13,rfl,k0.ret (by have:=S.lowAll H.next oM (by rw[a4,b0];exact lR);omega),.inl ⟨rfl,rfl,rfl⟩⟩
 .rw[hl];obtain⟨n3,k1⟩:=gF q hl;obtain⟨vs,n8,u,f0,e5,rs,rfl,d2,b2⟩:=(uO K Hl lo cs q oM (hr.mono (fun j E=>by rw[S.get j oM,b6.get j oM]) lR) b8 oM).one;have nm:=b2.next;have i3:=(b2.get (H.next+1) oM).trans c5;obtain⟨sa,sc,rfl⟩:=hv.slice;obtain⟨pa,pc,ga,gc,xa,xc,ea,ec,ta,tc,I,_⟩:=N3 d2;have a7:rs.length=8:=by rw[I];rfl
  have h8:rs.all oC=true:=by rw[I];rfl
  obtain⟨M1,b4,m1,-⟩:=pushE u (bC (soE soZ) 3);obtain⟨M2,a5⟩:=eY (M1.push (bC (inE 0) 1));have m2:M2.next=u.next+2:=by rw[a5,i5,m1]
  obtain⟨M3,W⟩:=eY (M2.push (.cells (hoE (0,0,0)) true 3));have m3:M3.next=u.next+3:=by rw[W,i5,m2]
  obtain⟨M4,J⟩:=eY (M3.push (bC z12 1));have m4:M4.next=u.next+4:=by rw[J,i5,m3]
  have gz:M4.get (u.next+3)=cE z12 1:=by rw[J,<-m3];exact i7
  have m7:∀Hx:d9,bsA prog (some 59) Hx 1 [(0,.agg (soE soZ).toArray)]=some (sL Hx.next 1 1,Hx.push (bC (soE soZ) 3)):=fun Hx=>by simp only[C7,yO,C8];rfl
  have h9:∀Hx:d9,bsA prog (some 3) Hx 1 [(0,iV 0)]=some (sL Hx.next 1 1,Hx.push (bC (inE 0) 1)):=fun Hx=>by simp only[C7,ty3,C8];rfl
  have i1:∀Hx:d9,bsA prog (some 56) Hx 1 [(0,.agg (hoE (0,0,0)).toArray)]=some (sL Hx.next 1 1,Hx.push (.cells (hoE (0,0,0)) true 3)):=fun Hx=>by simp only[C7,yN,C8];rfl
  obtain⟨a8,X⟩:=eY (rs++[.slice sa l.length sc,sL u.next 1 1,sL (u.next+1) 1 1,sL (u.next+2) 1 1]);obtain⟨r0,e6⟩:=eY (rs++[nS,nS,nS,nS]:LV);obtain⟨r1,e7⟩:=eY (rs++[.slice sa l.length sc,nS,nS,nS]:LV);obtain⟨r2,e8⟩:=eY (rs++[.slice sa l.length sc,sL u.next 1 1,nS,nS]:LV);obtain⟨r3,e9⟩:=eY (rs++[.slice sa l.length sc,sL u.next 1 1,sL (u.next+1) 1 1,nS]:LV);have k7:splice [nS,nS,nS,iV 0,iV 0,iV 0,nS,nS,nS,nS,nS,nS] 0 rs=r0:=by rw[e6,I];rfl
  have k8:splice r0 8 [.slice sa l.length sc]=r1:=by rw[e6,e7,I];rfl
  have k9:splice r1 9 [sL u.next 1 1]=r2:=by rw[e7,e8,I];rfl
  have l1:splice r2 10 [sL (u.next+1) 1 1]=r3:=by rw[e8,e9,I];rfl
  have l3:splice r3 11 [sL (u.next+2) 1 1]=a8:=by rw[e9,X,I];rfl
  have k3:r0.length=12:=by rw[e6];simp [a7]
  have k4:r1.length=12:=by rw[e7];simp [a7]
  have k5:r2.length=12:=by rw[e8];simp [a7]
  have k6:r3.length=12:=by rw[e9];simp [a7]
  have h6:a8.length=12:=by rw[X];simp [a7]
  have g0:a8.all oC=true:=by rw[X,I];rfl
  have l4:splice [nS,nS,nS,iV 0,iV 0,iV 0,nS,nS,nS,nS,nS,nS] 0 a8=a8:=by rw[X,I];rfl
  obtain⟨M5,O⟩:=eY (M4.put (u.next+3) (bC a8 1));have m5:M5.next=u.next+4:=by rw[O,j5,m4]
  have g5:M1=u.push (bC [.bool false,.bool false,.string eB] 3):=b4;have h5:H.next<=Hl.low:=S.lowAll H.next oM (by rw[a4,b0];exact lR);have m0:H.next<=u.low:=b2.lowAll H.next oM h5;have d3:H.next<=M5.low:=by
   have e4:M4.low=u.low:=by rw[J,W,a5,b4];rfl
   rw[O,A4,e4];omega
  have d1:=J;have g4:=gz;simp only[z12]at d1 g4;refine J30 ac b0.symm n0 b3.symm g1 i2 ldc c0 b7 f0 e5 h9 i1 g5.symm m1 a5.symm m2 W.symm m3 d1.symm g4 a7 h8 k7 (aI k8 k9) (aI l1 l3) (aI k3 k4) (aI k5 k6) (aI h6 g0) (aI l4 O.symm) ?_;have sG:∀j,j<u.next->M5.get j=u.get j:=fun j E=>by rw[O,i9 oM,J,j6 oM,W,j6 oM,a5,j6 oM,b4,j6 oM]
  have j0:M5.get u.next=cE (soE soZ) 3:=by rw[O,i9 oM,J,j6 oM,W,j6 oM,a5,j6 oM,b4];exact i7
  have j1:M5.get (u.next+1)=cE (inE 0) 1:=by rw[O,i9 oM,J,j6 oM,W,j6 oM,a5,<-m1];exact i7
  have j2:M5.get (u.next+2)=some (.cells (hoE (0,0,0)) true 3):=by rw[O,i9 oM,J,j6 oM,W,<-m2];exact i7
  have j3:M5.get (u.next+3)=cE a8 1:=by rw[O];exact i8 oM
  have h7:∀j,j<lo->Hl.get j=H.get j:=fun j E=>by rw[S.get j oM,b6.get j oM]
  obtain⟨c8,b9⟩:=eY (⟨D0 q,l,[soZ],[0],[(0,0,0)]⟩:ReD);have k2:SlF Hl (fun j=>j<Hl.next/\j≠H.next+1) 5 (EvF Hl (fun j=>j<Hl.next/\j≠H.next+1)) (.slice sa l.length sc) l:=hv.off c5 oM fun cs e⟨w,h1,h2⟩=>⟨w,h1,h2.off c5 oM fun _ _ h=>h⟩
  have j4:R0 (QR H lo K false) (QR H lo K true) M5 (u.next+3) u.next (fun j=>j<u.next/\j≠H.next+1) c8 rs (.slice sa l.length sc) (sL u.next 1 1) (sL (u.next+1) 1 1) (sL (u.next+2) 1 1):=by
   rw[b9];refine⟨by rw[j3,X],d2.mono (fun j E=>sG j E.2) (fun j E=>⟨E.2,oM⟩) (fun _ _ h=>h.mono (fun j E=>(h7 j E).symm) lR) (fun _ _ h=>h.mono (fun j E=>(h7 j E).symm) lR),
    k2.mono (fun j E=>by rw[sG j oM];exact b2.get j E.1) (fun j E=>⟨oM,E.2⟩) (fun _ _ h=>w9 _ _ _ _ _ _ h (fun j E=>by rw[sG j oM];exact b2.get j E.1) (fun j E=>⟨oM,E.2⟩)),
    ⟨_,.inr ⟨u.next,1,rfl,j0,lR,rfl⟩,D2.one rfl rfl⟩,⟨_,.inr ⟨u.next+1,1,rfl,j1,oM,rfl⟩,D2.one rfl rfl⟩,⟨_,.inr ⟨u.next+2,1,rfl,j2,oM,rfl⟩,D2.one rfl rfl⟩,?_,fun j E=>⟨oM,oM,?_⟩,oM,?_⟩
   .intro i j a b ha hb m9 x hx hy;have hi:i<3:=by have:=(gS ha).1;simpa using this
    have E:j<3:=by have:=(gS hb).1;simpa using this
    have:i=0\/i=1\/i=2:=oM;have:j=0\/j=1\/j=2:=oM;rcases ‹i=0\/i=1\/i=2› with rfl|rfl|rfl<;>rcases ‹j=0\/j=1\/j=2› with rfl|rfl|rfl<;>simp at ha hb<;>subst ha hb<;>rw[I6]at hx hy<;>omega
   .intro w hw;simp only[List.mem_cons,List.not_mem_nil,or_false]at hw;rcases hw with rfl|rfl|rfl<;>rw[I6]<;>omega
   .intro w hw;simp only[List.mem_cons,List.not_mem_nil,or_false]at hw;rcases hw with rfl|rfl|rfl<;>rw[I6]<;>omega
  have h0:WfR c8 (y9 (D0 q).progs).toNat:=by
   rw[b9];have h1:=nZ q b8 oM;refine⟨by show(((y9 (D0 q).progs).toNat:Nat):Int)=y9 (D0 q).progs;omega,yG q b8 g6,fun x hx=>?_,k1,fun p hp=>?_,by simp,rfl,rfl,by show l.length<=1000;omega,by simp,fun x hx=>?_⟩
   .have:x=soZ:=by simpa using hx
    subst this;intro h;cases h
   .obtain⟨x,hx,rfl⟩:=aB9 q b8 p hp;have h2:=cy x;have h3:=wQ x;omega
   .have:x=0:=by simpa using hx
    subst this;omega
  have d5:i4 H.next H M5:=by
   rw[O,J,W,a5,b4];exact(b6.trans ((S.weaken oM).trans (b2.weaken oM))).trans (((((i4.push oM).trans (i4.push (by rw[i5];omega))).trans (i4.push (by rw[i5,i5];omega))).trans (i4.push (by rw[i5,i5,i5];omega))).trans (i4.put oM))
  have g3:M5.get (H.next+1)=cE z12 1:=(sG _ oM).trans i3;rw[<-b9];refine l9 (F:=fun z=>Ret (u5 prog [.cell 2 39,.tmp 3] H (u7 (inBlock 0 z) _)) H _) (uv H lo K (u.next+3) u.next (fun j=>j<u.next/\j≠H.next+1) rs (.slice sa l.length sc) M5 (H.next+1) (y9 (D0 q).progs).toNat oM (fun j E=>d5.get j oM) oM g3 (mD 401 c8 1) 401 _ _ ⟨1,c8,_,_,_,rfl,oM,oM,rfl,rfl,rfl,j4,i4.refl _ _,h0,rfl⟩) ?_;rintro o' e' H' ⟨f2,(⟨ho,f6,a6,r,x1,x2,x3,a9,hR,g9⟩|⟨ho,a9,f3,c4,a6⟩)⟩
  .obtain⟨y,D⟩:=eY (rs++[.slice sa l.length sc,x1,x2,x3]);have gr:=hR.g;rw[<-D]at gr;obtain⟨a1,c1,e1⟩:=hR.so.slice;obtain⟨a2,c2,e2⟩:=hR.sz.slice;obtain⟨a3,c3,e3⟩:=hR.ho.slice;have f1:y.length=12:=by rw[D];simp [a7]
   have d4:y.all oC=true:=by rw[D,I,e1,e2,e3];rfl
   have h4:ldC (some true) (some 12) 0 y=some (.agg y.toArray):=by rw[aA1 _ _ _ oM,List.drop_zero,List.take_of_length_le oM]
   have l5:splice [nS,nS,nS,iV 0,iV 0,iV 0,nS,nS,nS,nS,nS,nS] 0 y=y:=by rw[D,I];rfl
   have c4:H'.get (H.next+1)=cE z12 1:=(a6.get _ oM).trans g3;have i0:=u6 c4;obtain⟨H6,b1⟩:=eY (H'.put (H.next+1) (bC y 1));have c6:H6.get (H.next+1)=cE y 1:=by rw[b1];exact i8 i0
   have d6:∀j,j≠H.next+1->H6.get j=H'.get j:=fun j E=>by rw[b1];exact i9 (fun q=>E q.symm)
   have n6:H6.next=H'.next:=by rw[b1,j5]
   have l6:H6.low=min H'.low (H.next+1):=by rw[b1,A4]
   have n7:=a6.next;have U:=c4;simp only[z12]at U;refine J12 ho f2 f6 gr U @Bc f1 d4 h4 l5 b1.symm c6 ?_;have d8:i4 H.next H H6:=by rw[b1];exact(d5.trans (a6.weaken oM)).trans (i4.put oM)
   have b5:R0 (QR H lo K false) (QR H lo K true) H6 (u.next+3) u.next (fun j=>j<u.next/\j≠H.next+1) r rs (.slice sa l.length sc) x1 x2 x3:=by
    exact hR.side (b:=H.next+1) ⟨oM,fun q=>q.2 rfl,fun w hw q=>by have:=(hR.inl hw q).1;omega⟩ oM d6
   refine D7 (fun g8 _=>?_) ?_
   .exfalso
    have n2:=g9.l0;obtain⟨m6,m8,rfl⟩:∃a c,x1= .slice (some a) r.sorts.length c:=by
     obtain⟨_,nb,o,_,_,_,_,_,q,_⟩:=(e1▸hR.so.sl:SlI H' H'.next 3 (R1 soE) (.slice a1 r.sorts.length c1) r.sorts).row (i:=0) oM;exact⟨_,_,by rw[e1,q]⟩
    simp only[L0,D,List.all_cons,na1,List.all_append,Bool.and_eq_true]at g8;simp [na0]at g8
   .refine⟨y,0,rfl,d8.ret (oN (a6.lowAll H.next oM d3)),.inr ⟨r,a9,rfl,g9,rs,_,x1,x2,x3,D,?_⟩⟩;have hx:∀j,(j<u.next/\j≠H.next+1)->j<H6.next:=fun j E=>oM;refine⟨b5.st.mono (fun _ _=>rfl) hx iF iF,b5.lb.mono (fun _ _=>rfl) hx (fun _ _ h=>w9 _ _ _ _ _ _ h (fun _ _=>rfl) hx),b5.so.sl,b5.sz.sl,b5.ho.sl⟩
  .have U:=c4;simp only[z12]at U;refine J5 ho f2 f3 U @Bc ?_;have d8:i4 H.next H H':=d5.trans (a6.weaken oM);refine D7 (fun _ _=>?_) ?_
   .exact⟨z12,13,rfl,i4.refl _ _,.inl ⟨a9,rfl,rfl⟩⟩
   .exact⟨z12,13,rfl,d8.ret (a6.lowAll H.next oM d3),.inl ⟨a9,rfl,rfl⟩⟩
theorem ar8(x y:SoD):fo x y=fo y x:=by
 have h:∀a b:Bool,(a==b)=(b==a):=fun a b=>by cases a<;>cases b<;>rfl
 rw[fo,fo,h x.1,h x.2.1,decide_eq_decide.2 (eq_comm (a:=x.2.2))]
theorem at0(l:List Int)(D:1<=l.length)(m:Int)(h:∀x∈l,x<=m):mxL (l++[m])=m:=by
 cases l with
 |nil=>simp at D
 |cons x l=>
  show(l++[m]).foldl mx2 x=m;rw[List.foldl_append];have key:∀(l:List Int)(x:Int),(∀y∈x::l,y<=m)->l.foldl mx2 x<=m:=by
   intro l;induction l with
   |nil=>intro x h;exact h x sM
   |cons y l E=>
    intro x h;rw[List.foldl_cons];refine E _ fun z u=>?_;rcases List.mem_cons.1 u with rfl|u
    .unfold mx2;split
     .exact h y sM
     .exact h x sM
    .exact h z (by simp [u])
  have:=key l x h;show mx2 (l.foldl mx2 x) m=m;generalize l.foldl mx2 x=z at this;unfold mx2;split
  .rfl
  .omega
theorem ao5(Hs:d9)(lo K:Nat)(rb lw:Nat)(G:Nat->Prop)(rs:LV)(vl:Value)(W0:LV)(Hb:d9)(b2:Nat)(zb:LV)(c3:zb.length=12)(o7:b2<lw)(g2:Hb.get b2=cE zb 1)(s0:StD)(f1:∀ev fi ne,an8 s0 ev fi ne=Y8 s0 ev fi ne) (q6:∀p∈s0.progs,∀t∈p.ts,OkD true t)
  (size a b:Int) (h0:1<=size) (t3:size<=402) (n:Nat) (t1:lo<=lw) (p0:∀j,j<lo->Hb.get j=Hs.get j) (va:Option Addr) (vc:Nat) (lb:List EvD) (g3:vl= .slice va lb.length vc) (m0:Nat) (ha:0<=a/\a<m0) (hb:0<=b/\b<m0) (v9:Value) (U:ReD×Bool):
  ∀kk e H,(∃(i:Nat)(r:ReD)(x1 x2 x3:Value),kk=lb.length-i/\i<=lb.length/\e.get 2=pT b2/\e.get 4=vl/\e.get 6=pT rb/\e.get 7=iV (mxL r.size)/\e.get 8=iV size/\e.get 9=v9/\e.get 10=iV a/\e.get 11=iV b/\e.get 12=iV i/\
    r.labels=lb/\r.strat=s0/\m0<=r.sorts.length/\(∀x∈r.size,x<=size)/\R0 (QR Hs lo K false) (QR Hs lo K true) H rb lw G r rs vl x1 x2 x3/\i4 lw Hb H/\WfR r n/\Q0 size a b (lb.drop i) i r=U)->
  u9 (LE prog O8 (.loop Oy) e H) (fun o e H=>(o= .exit 6/\U.2=true/\e.get 2=pT b2/\e.get 4=vl/\e.get 6=pT rb/\e.get 7=iV (mxL U.1.size)/\e.get 8=iV size/\e.get 9=v9/\e.get 10=iV a/\e.get 11=iV b/\U.1.labels=lb/\U.1.strat=s0/\m0<=U.1.sorts.length/\(∀x∈U.1.size,x<=size)/\(∃x1 x2 x3,R0 (QR Hs lo K false) (QR Hs lo K true) H rb lw G U.1 rs vl x1 x2 x3)/\i4 lw Hb H/\WfR U.1 n)\/
   (o= .ret/\U.2=false/\e.get 2=pT b2/\e.get 3=iV 13/\H.get b2=cE z12 1/\i4 b2 Hb H)):=by
 refine j7 _ _ ?_;rintro kk e H ⟨i,r,x1,x2,x3,hk,hi,f2,f4,f6,f7,f8,f9,f10,f11,f12,b8,b6,k8,d0,hR,hS,E,J⟩;have q3:=E.ll;rw[b8]at q3;rcases bd:decide ((i:Int)<lb.length)with _|_
 .have o6:=dF bd;have:lb.drop i=[]:=dN oM;rw[this,Q0]at J;have O:=f4;rw[g3]at O;refine J3 O f12 bd ?_;exact l7 (.inl ⟨rfl,by rw[<-J],f2,f4,f6,by rw[<-J];exact f7,f8,f9,f10,f11,by rw[<-J];exact b8,by rw[<-J];exact b6,by rw[<-J];exact k8,by rw[<-J];exact d0,⟨x1,x2,x3,by rw[<-J];exact hR⟩,hS,by rw[<-J];exact E⟩)
 have o6:=dT bd;have q1:i<lb.length:=oM;have nH:=hS.next;have q7:=u6 hR.g;have d2:=hR.lb;rw[b8,g3]at d2;obtain⟨ev,nb,o,cs,own,el,hx,hd,rfl,s5,hg,t0,W,hc,j4⟩:=d2.row (i:=i) q1;rw[hd,Q0]at J;have nt:(i:Int).toNat=i:=tN i;have p3:ev∈r.labels:=by rw[b8];exact mG hx
 obtain⟨av,o9,o5⟩:=id j4;obtain⟨aa,ac,rfl⟩:=o5.slice;have n4:el[0]?=some (.int .i64 ev.kind):=by rw[o9];rfl
 have a1:cs[o+i*5]?=some (.int .i64 ev.kind):=by rw[<-n4];have:=hc 0 oM;rw[Nat.add_zero]at this;exact this
 have O:=f4;rw[g3]at O;have gr:=hR.g;obtain⟨q8,q9,r3,r4⟩:=hR.at_;have b7:=hR.rsl;obtain⟨c4,S⟩:=eY (rs++[vl,x1,x2,x3]);have a9:ldC (some true) (some 8) 0 c4=some (.agg rs.toArray):=by
  rw[aA1 _ _ _ (by rw[S];simp [b7]),S,List.drop_zero,List.take_append_of_le_length oM,List.take_of_length_le oM]
 rw[<-S]at gr q8 q9 r3 r4;have g0:=hR.so.sl;obtain⟨sa,sc,rfl⟩:=g0.slice;obtain⟨fi,r2,oa,n3,r7,n5,l5,_,e1,s3,a2,r5,z,s6,p5⟩:=g0.row (i:=a.toNat) oM;obtain⟨ne,t9,ob,r9,r8,n6,l6,_,e2,s4,k6,r6,D,o8,q5⟩:=g0.row (i:=b.toNat) oM;obtain rfl:n5=soE fi:=p5;obtain rfl:n6=soE ne:=q5;subst e1;cases e2;rw[a2]at k6;cases k6;have k5:r.sorts.getD a.toNat soZ=fi:=by rw[List.getD_eq_getElem?_getD,l5];rfl
 have d1:r.sorts.getD b.toNat soZ=ne:=by rw[List.getD_eq_getElem?_getD,l6];rfl
 have k7:r.sorts.getD b.toNat (false,false,eB)=ne:=d1;have ct:n3[oa+b.toNat*3+1]?=some (.bool ne.2.1):=o8 1 oM;have c6:decide (a<(r.sorts.length:Int))=true:=decide_eq_true oM;have s1:decide (b<(r.sorts.length:Int))=true:=decide_eq_true oM;rw[k5,d1,b6]at J;have u:iH r.sorts ev.kind a b=(!decide (ev.kind=2)||(decide (a=0)&& !ne.2.1)):=by
  rw[iH,k7];have k1:knB r.sorts.length a=true:=by simp only[knB,Bool.and_eq_true,decide_eq_true_eq];omega
  have k2:knB r.sorts.length b=true:=by simp only[knB,Bool.and_eq_true,decide_eq_true_eq];omega
  rw[k1,k2];rfl
 have nx:((i:Int)+1)=((i+1:Nat):Int):=oM;have skip:∀(e':Env)(H':d9),e'.get 2=pT b2->e'.get 4=vl->e'.get 6=pT rb->e'.get 7=iV (mxL r.size)->e'.get 8=iV size->e'.get 9=v9->e'.get 10=iV a->e'.get 11=iV b->e'.get 12=iV (i+1:Nat)->i4 H.next H H'->Q0 size a b (lb.drop (i+1)) (i+1) r=U->
   ∃(i:Nat)(r:ReD)(x1 x2 x3:Value),kk-1=lb.length-i/\i<=lb.length/\e'.get 2=pT b2/\e'.get 4=vl/\e'.get 6=pT rb/\e'.get 7=iV (mxL r.size)/\e'.get 8=iV size/\e'.get 9=v9/\e'.get 10=iV a/\e'.get 11=iV b/\e'.get 12=iV i/\
    r.labels=lb/\r.strat=s0/\m0<=r.sorts.length/\(∀x∈r.size,x<=size)/\R0 (QR Hs lo K false) (QR Hs lo K true) H' rb lw G r rs vl x1 x2 x3/\i4 lw Hb H'/\WfR r n/\Q0 size a b (lb.drop i) i r=U:=
  fun e' H' p2 p4 p6 p7 p8 p9 g4 g5 g6 s' pf=>⟨i+1,r,_,x2,x3,oM,oM,p2,p4,p6,p7,p8,p9,g4,g5,g6,b8,b6,k8,d0,hR.keep s',hS.trans (s'.weaken (oN (hR.nb.1))),E,pf⟩
 rcases hm:iH r.sorts ev.kind a b with _|_
 .rw[hm]at J u;simp only[bF]at J;have k2:decide (ev.kind=2)=true:=by
   cases h:decide (ev.kind=2)with
   |true=>rfl
   |false=>rw[h]at u;cases u
  rcases ka:decide (a=0)with _|_
  .refine J10 O f10 f12 bd hg nt a1 k2 ka @wrap_small ?_;exact i6 (kk-1) oM (skip _ _ f2 f4 f6 f7 f8 f9 f10 f11 (by rw[<-nx];rfl) (i4.refl _ _) J)
  .have kt:ne.2.1=true:=by
    cases h:ne.2.1 with
    |true=>rfl
    |false=>rw[h,k2,ka]at u;cases u
   rw[kt]at ct;refine J16 O f6 f10 f11 f12 bd hg nt a1 k2 ka gr q9 a2 ct @wrap_small ?_;exact i6 (kk-1) oM (skip _ _ f2 f4 f6 f7 f8 f9 f10 f11 (by rw[<-nx];rfl) (i4.refl _ _) J)
 rw[hm]at J u;simp only[if_true]at J;have a3:=ay6 Hs lo K r.strat ev fi ne G H rs el hR.st j4 (fun j hj=>(hR.fr j hj).1) (fun j hj=>by rw[hS.get j oM];exact p0 j hj) (oN (hR.nb.1)) n E.n0 E.st (E.so fi (mG l5)) (E.so ne (mG l6)) (E.at_ ev p3) E.sz (by rw[b6];exact q6);rw[b6,f1]at a3;have l4:fm (Y8 s0 ev fi ne) n:=by rw[<-b6];exact Cj r.strat ev fi ne E.n0
 obtain⟨x,r1⟩:=eY (Y8 s0 ev fi ne);rw[<-r1]at a3 J l4;obtain⟨H1,a4,n1,g1,-⟩:=pushE H (bC [.bool false,.bool false,.string eB] 1);obtain⟨H2,X⟩:=eY (H1.put H.next (bC (soE x) 1));have n2:H2.next=H.next+1:=by rw[X,j5,n1]
 have s2:i4 H.next H H2:=by rw[X,a4];exact(i4.push lR).trans (i4.put lR)
 have gx:H2.get H.next=cE (soE x) 1:=by rw[X];exact i8 oM
 have b4:splice [.bool false,.bool false,.string eB] 0 (soE x)=soE x:=rfl;have b0:ldC (some true) (some 3) 0 (soE x)=some (.agg (soE x).toArray):=rfl;have k0:=hR.keep s2;have hf:=av7 H2 H2.next (.slice (some ⟨r2,oa,none⟩) r.sorts.length sc) r.sorts x lR k0.so.sl (oN (E.l1));have I:decide (0<=ixG (fun y=>fo y x) r.sorts 0)=r.sorts.any fun y=>fo x y:=by
  rw[eU]
  congr 1
  funext y
  exact ar8 y x
 have a7:H2.get rb=cE c4 1:=(s2.get rb q7).trans gr;have lst:i4 lw Hb H2:=hS.trans (s2.weaken (oN (hR.nb.1)));have a5:(decide (ev.kind=2)=false)\/(decide (ev.kind=2)=true/\decide (a=0)=true/\ne.2.1=false):=by
  cases h1:decide (ev.kind=2)with
  |false=>exact .inl rfl
  |true=>
   rw[h1]at u;cases h2:decide (a=0)with
   |false=>rw[h2]at u;cases u
   |true=>
    rw[h2]at u;cases h3:ne.2.1 with
    |false=>exact .inr ⟨rfl,rfl,rfl⟩
    |true=>rw[h3]at u;cases u
 rcases bz:(r.sorts.any fun y=>fo x y)with _|_
 rotate_left
 ·
  rw[bz]at I;have a8:aQ r x size (i,a,b)=(r,true):=by rw[aQ,bz];rfl
  rw[a8]at J;simp only[if_true]at J;rcases a5 with k2|⟨k2,ka,kt⟩
  .have ka:=c6;refine J28 O f6 f10 f11 f12 bd hg nt a1 k2 gr q9 a9 W a2 z D a3 a4.symm g1 b4 X.symm a7 gx b0 hf I @wrap_small ?_;exact i6 (kk-1) oM (skip _ _ f2 f4 f6 f7 f8 f9 f10 f11 (by rw[<-nx];rfl) s2 J)
  .rw[kt]at ct;refine J30 O f6 f10 f11 f12 bd hg nt a1 k2 ka ct gr q9 a9 W a2 z D a3 a4.symm g1 b4 X.symm a7 gx b0 hf I @wrap_small ?_;exact i6 (kk-1) oM (skip _ _ f2 f4 f6 f7 f8 f9 f10 f11 (by rw[<-nx];rfl) s2 J)
 rw[bz]at I;have c0:H2.get b2=cE zb 1:=(lst.get b2 o7).trans g2;rcases bl:(decide (24<(r.sorts.length:Int))||decide (200<size))with _|_
 rotate_left
 ·
  have a8:aQ r x size (i,a,b)=(r,false):=by rw[aQ,bz,bl];rfl
  rw[a8]at J;simp only[bF]at J;obtain⟨H3,b5⟩:=eY (H2.put b2 (bC z12 1));have c5:splice zb 0 z12=z12:=w7 _ _ (by rw[c3];rfl);have m9:=u6 c0;have a6:i4 b2 Hb H3/\H3.get b2=cE z12 1:=⟨(lst.weaken oM).trans (by rw[b5];exact i4.put lR),by rw[b5];exact i8 m9⟩
  simp only[z12]at c5 b5;have q2:=E.l1;rcases b9:decide (24<(r.sorts.length:Int))with _|_
  .rw[b9,Bool.false_or]at bl;rcases a5 with k2|⟨k2,ka,kt⟩
   .have ka:=c6;refine J30 f2 O f6 f8 f10 f11 f12 bd hg nt a1 k2 gr q9 a9 W a2 z D a3 a4.symm g1 b4 X.symm a7 (aI gx b0) (aI hf I) (aI b9 bl) (aI c0 c3) (aI c5 b5.symm) ?_;exact A6 (.inr ⟨rfl,by rw[<-J],f2,rfl,a6.2,a6.1⟩)
   .rw[kt]at ct;refine J30 f2 O f6 f8 f10 f11 f12 bd hg nt a1 k2 ka ct gr q9 a9 W a2 z D a3 a4.symm (aI g1 b4) (aI X.symm a7) (aI gx b0) (aI hf I) (aI b9 bl) (aI c0 c3) (aI c5 b5.symm) ?_;exact A6 (.inr ⟨rfl,by rw[<-J],f2,rfl,a6.2,a6.1⟩)
  .rcases a5 with k2|⟨k2,ka,kt⟩
   .have ka:=c6;refine J30 f2 O f6 f10 f11 f12 bd hg nt a1 k2 gr q9 a9 W a2 z D a3 a4.symm g1 b4 X.symm a7 gx b0 hf (aI I b9) (aI c0 c3) (aI c5 b5.symm) ?_;exact A6 (.inr ⟨rfl,by rw[<-J],f2,rfl,a6.2,a6.1⟩)
   .rw[kt]at ct;refine J30 f2 O f6 f10 f11 f12 bd hg nt a1 k2 ka ct gr q9 a9 W a2 z D a3 a4.symm g1 b4 X.symm (aI a7 gx) (aI b0 hf) (aI I b9) (aI c0 c3) (aI c5 b5.symm) ?_;exact A6 (.inr ⟨rfl,by rw[<-J],f2,rfl,a6.2,a6.1⟩)
 have a8:aQ r x size (i,a,b)=({r with sorts:=r.sorts++[x],size:=r.size++[size],how:=r.how++[((i:Int),a,b)]},true):=by rw[aQ,bz,bl];rfl
 have d3:=E.add l4 (show 0<=size from oM) ((i:Int),a,b);rw[a8]at J d3;simp only[if_true]at J;have s7:=E.l0;have q2:=E.l1;have s8:=E.l2;have s9:=E.l3;have t2:=hR.nb.1;obtain⟨v1,i1,A1,A2,A3,o0,n7,g9,j1,c7,e6,h9,m3,e9,k3,t6⟩:=av9 k0 x oM oM;have t4:=k3.stay.next;have lA:=u6 c7;obtain⟨v2,i2,B1,B2,B3,o1,n8,h4,j2,e3,e7,i0,m4,f0,k4,t8⟩:=aw0 e9 size (by show r.size.length<=1000;omega) oM;have t5:=k4.stay.next;obtain⟨v3,i3,C1,C2,C3,o2,n9,h5,j3,e5,e8,j0,m5,o3,o4,u0⟩:=av8 f0 ((i:Int),a,b) (by show r.how.length<=1000;omega) oM;have h7:bsA prog (some 59) H2 1 [(0,.agg (soE x).toArray)]=some (sL H2.next 1 1,A1):=by
  rw[o0];simp only[C7,yO,C8];rfl
 have h6:bsA prog (some 3) A3 1 [(0,iV size)]=some (sL A3.next 1 1,B1):=by
  rw[o1];simp only[C7,ty3,C8];rfl
 have h8:bsA prog (some 56) B3 1 [(0,.agg #[iV i,iV a,iV b])]=some (sL B3.next 1 1,C1):=by
  rw[o2];simp only[C7,yN,C8];rfl
 have d8:=e9.g;have e4:=f0.g;obtain⟨_,_,g7,_⟩:=e9.at_;obtain⟨_,_,_,g8⟩:=f0.at_;obtain⟨b1,c8⟩:=eY (rs++[vl,v1,x2,x3]);obtain⟨b3,c9⟩:=eY (rs++[vl,v1,v2,x3]);obtain⟨d6,k9⟩:=eY (rs++[vl,v1,v2,v3]);rw[<-S]at n7 c7;rw[<-c8]at d8 g7 e6 n8 e3;rw[<-c9]at e4 g8 e7 n9 e5;rw[<-k9]at e8;have d4:c4.length=12:=by rw[S];simp [b7]
 have l8:b1.length=12:=by rw[c8];simp [b7]
 have m1:b3.length=12:=by rw[c9];simp [b7]
 have m6:splice c4 9 [v1]=b1:=by show c4.set 9 v1=b1;rw[S,c8,List.set_append_right _ _ oM,b7];rfl
 have m7:splice b1 10 [v2]=b3:=by show b1.set 10 v2=b3;rw[c8,c9,List.set_append_right _ _ oM,b7];rfl
 have m8:splice b3 11 [v3]=d6:=by show b3.set 11 v3=d6;rw[c9,k9,List.set_append_right _ _ oM,b7];rfl
 simp only[Bool.or_eq_false_iff]at bl;have q4:mxL (r.size++[size])=size:=at0 r.size oM size d0;have m2:i4 lw Hb C3:=((lst.trans k3.stay).trans k4.stay).trans o4.stay;have d5:∀(e':Env),e'.get 2=pT b2->e'.get 4=vl->e'.get 6=pT rb->e'.get 7=iV size->e'.get 8=iV size->e'.get 9=v9->e'.get 10=iV a->e'.get 11=iV b->e'.get 12=iV (i+1:Nat)->
   ∃(i:Nat)(r:ReD)(x1 x2 x3:Value),kk-1=lb.length-i/\i<=lb.length/\e'.get 2=pT b2/\e'.get 4=vl/\e'.get 6=pT rb/\e'.get 7=iV (mxL r.size)/\e'.get 8=iV size/\e'.get 9=v9/\e'.get 10=iV a/\e'.get 11=iV b/\e'.get 12=iV i/\
    r.labels=lb/\r.strat=s0/\m0<=r.sorts.length/\(∀x∈r.size,x<=size)/\R0 (QR Hs lo K false) (QR Hs lo K true) C3 rb lw G r rs vl x1 x2 x3/\i4 lw Hb C3/\WfR r n/\Q0 size a b (lb.drop i) i r=U:=
  fun e' p2 p4 p6 p7 p8 p9 g4 g5 g6=>⟨i+1,{r with sorts:=r.sorts++[x],size:=r.size++[size],how:=r.how++[((i:Int),a,b)]},v1,v2,v3,oM,oM,p2,p4,p6,by rw[q4];exact p7,p8,p9,g4,g5,g6,b8,b6,by rw[List.length_append];omega,fun y hy=>by
   rcases List.mem_append.1 hy with q|q
   .exact d0 y q
   .rw[List.mem_singleton.1 q];exact Int.le_refl _,o3,m2,d3,J⟩
 rcases a5 with k2|⟨k2,ka,kt⟩
 .have ka:=c6;simp(maxSteps:=20000000) -dsimp (disch:=first|omega|(simp only[rH]<;>omega)|fail) only[↓ai3,rQ,D8,sevalprocAttr,tyA,O,f6,f8,f10,f11,f12,bd,hg,nt,a1,k2,gr,q9,a9,W,a2,z,D,a3,<-a4,g1,b4,<-X,a7,gx,b0,hf,I,bl.1,bl.2,h7,g9,j1,c7,h9,m3,d4,m6,<-e6,d8,g7,h6,h4,j2,e3,i0,m4,l8,m7,<-e7,e4,g8,h8,h5,j3,e5,j0,m5,m1,m8,<-e8,wrap_small];exact i6 (kk-1) oM (d5 _ f2 f4 f6 rfl f8 f9 f10 f11 (by rw[<-nx];rfl))
 .rw[kt]at ct;simp(maxSteps:=20000000) -dsimp (disch:=first|omega|(simp only[rH]<;>omega)|fail) only[↓ai3,rQ,D8,sevalprocAttr,tyA,O,f6,f8,f10,f11,f12,bd,hg,nt,a1,k2,ka,ct,gr,q9,a9,W,a2,z,D,a3,<-a4,g1,b4,<-X,a7,gx,b0,hf,I,bl.1,bl.2,h7,g9,j1,c7,h9,m3,d4,m6,<-e6,d8,g7,h6,h4,j2,e3,i0,m4,l8,m7,<-e7,e4,g8,h8,h5,j3,e5,j0,m5,m1,m8,<-e8,wrap_small];exact i6 (kk-1) oM (d5 _ f2 f4 f6 rfl f8 f9 f10 f11 (by rw[<-nx];rfl))
theorem ao2(size:Int):∀(u l2:List (Nat×Nat))(r:ReD),cD size (u++l2) r=if(cD size u r).2 then cD size l2 (cD size u r).1 else cD size u r
 |[],l2,r=>rfl
 |x::u,l2,r=>by
  rw[List.cons_append,cD,cD];rcases h:(Q0 size x.1 x.2 r.labels 0 r).2 with _|_
  .rfl
  .simp only[if_true];exact ao2 size u l2 _
theorem an7{n j:Nat}(h:j<n):(List.range n).drop j=j::(List.range n).drop (j+1):=by
 rw[List.drop_eq_getElem_cons (by simpa using h)];simp
section
variable(Hs:d9)(lo K:Nat)(rb lw:Nat)(G:Nat->Prop)(rs:List Value)(vl:Value)(Hb:d9)(b2:Nat)(s0:StD)(size:Int)(n:Nat)(lb:List EvD)(m0:Nat)(sz0:List Int)
structure MkS(e:Env)(H:d9)(r:ReD):Prop where
 g2:e.get 2=pT b2
 g4:e.get 4=vl
 g6:e.get 6=pT rb
 g7:e.get 7=iV (mxL r.size)
 g8:e.get 8=iV size
 g9:e.get 9=iV m0
 lb:r.labels=lb
 st:r.strat=s0
 m:m0<=r.sorts.length
 sz:∀x∈r.size,x<=size
 pr:sz0<+:r.size
 gr:∃x1 x2 x3,R0 (QR Hs lo K false) (QR Hs lo K true) H rb lw G r rs vl x1 x2 x3
 sy:i4 lw Hb H
 wf:WfR r n
structure MkF(e:Env)(H:d9):Prop where
 g2:e.get 2=pT b2
 g3:e.get 3=iV 13
 z:H.get b2=cE z12 1
 sy:i4 b2 Hb H
variable(zb:List Value)(lzb:zb.length=12)(hb2:b2<lw)(g2:Hb.get b2=some (.cells zb true 1))(hsame:∀ev fi ne,an8 s0 ev fi ne=Y8 s0 ev fi ne) (hok:∀p∈s0.progs,∀t∈p.ts,OkD true t) (h0:1<=size) (hsz:size<=402) (hlo:lo<=lw) (heq:∀j,j<lo->Hb.get j=Hs.get j) (va:Option Addr) (vc:Nat) (hvl:vl= .slice va lb.length vc) (hsl:sz0.length=m0)
include lzb hb2 g2 hsame hok h0 hsz hlo heq hvl hsl
theorem as3(a:Nat)(ha:a<m0)(O:ReD×Bool):
  ∀kk e H,(∃(j:Nat)(r:ReD),kk=m0-j/\j<=m0/\MkS Hs lo K rb lw G rs vl Hb b2 s0 size n lb m0 sz0 e H r/\e.get 10=iV a/\e.get 11=iV j/\cD size ((((List.range m0).drop j).filter fun b=>decide (sz0.getD a 0+sz0.getD b 0+1=size)).map fun b=>(a,b)) r=O)->
  u9 (LE prog O8 (.loop Oz) e H) (fun o e H=>(o= .exit 4/\O.2=true/\MkS Hs lo K rb lw G rs vl Hb b2 s0 size n lb m0 sz0 e H O.1/\e.get 10=iV a)\/(o= .ret/\O.2=false/\MkF Hb b2 e H)):=by
 refine j7 _ _ ?_;rintro kk e H ⟨j,r,hk,hj,u,f10,f11,D⟩;rcases bd:decide ((j:Int)<m0)with _|_
 .have b0:=dF bd;have:(List.range m0).drop j=[]:=dN (by simp;omega);rw[this]at D;simp only[List.filter_nil,List.map_nil,cD]at D;refine J3 u.g9 f11 bd ?_;exact l7 (.inl ⟨rfl,by rw[<-D],by rw[<-D];exact⟨u.g2,u.g4,u.g6,u.g7,u.g8,u.g9,u.lb,u.st,u.m,u.sz,u.pr,u.gr,u.sy,u.wf⟩,f10⟩)
 have b0:=dT bd;have a4:j<m0:=oM;obtain⟨x1,x2,x3,hR⟩:=u.gr;have I:=u.wf;have d6:=I.l1;have d8:=I.l2;have hm:=u.m;have gr:=hR.g;obtain⟨q8,q9,a1,e6⟩:=hR.at_;have e3:=hR.rsl;obtain⟨e7,U⟩:=eY (rs++[vl,x1,x2,x3]);rw[<-U]at gr a1;have E:=hR.sz.sl;obtain⟨za,zc,rfl⟩:=E.slice;obtain⟨ya,e4,oa,a2,c9,a8,J,_,e1,d4,S,c7,b4,b1,b6⟩:=E.row (i:=a) oM;obtain⟨yb,e5,ob,d3,d0,a9,a5,_,e2,d5,a3,c8,b5,b3,b7⟩:=E.row (i:=j) oM;obtain rfl:a8=inE ya:=b6;obtain rfl:a9=inE yb:=b7;subst e1;cases e2;rw[S]at a3;cases a3;have ca:a2[oa+a*1]?=some (.int .i64 ya):=by have:=b1 0 oM;rw[Nat.add_zero]at this;exact this
 have cb:a2[oa+j*1]?=some (.int .i64 yb):=by have:=b3 0 oM;rw[Nat.add_zero]at this;exact this
 have gd:∀i y,r.size[i]?=some y->i<m0->sz0.getD i 0=y:=fun i y h hi=>by
  obtain⟨t,ht⟩:=u.pr;rw[<-ht,List.getElem?_append_left oM]at h;rw[List.getD_eq_getElem?_getD,h];rfl
 have d1:=I.sb ya (mG J);have d2:=I.sb yb (mG a5);have a6:(a:Int).toNat=a:=tN a;have a7:(j:Int).toNat=j:=tN j;have da:decide ((a:Int)<(r.size.length:Int))=true:=decide_eq_true oM;have db:decide ((j:Int)<(r.size.length:Int))=true:=decide_eq_true oM;rw[an7 a4,List.filter_cons,gd a ya J ha,gd j yb a5 a4]at D;have nx:((j:Int)+1)=((j+1:Nat):Int):=oM;rcases be:decide (ya+yb+1=size)with _|_
 .simp only[be,bF]at D;refine J15 u.g6 u.g8 u.g9 f10 f11 bd gr a1 a6 a7 S ca cb be @wrap_small ?_;exact i6 (kk-1) oM ⟨j+1,r,oM,oM,⟨u.g2,u.g4,u.g6,u.g7,u.g8,u.g9,u.lb,u.st,u.m,u.sz,u.pr,⟨x1,_,x3,hR⟩,u.sy,u.wf⟩,f10,by rw[<-nx];rfl,by rw[gd a ya J ha];exact D⟩
 .simp only[be,if_true,List.map_cons,cD]at D;obtain⟨z,hz⟩:=eY (Q0 size a j r.labels 0 r);rw[<-hz]at D;refine J15 u.g6 u.g8 u.g9 f10 f11 bd gr a1 a6 a7 S ca cb be @wrap_small ?_;refine l9 (F:=fun y=>u9 (u7 (inBlock 5 (inBlock 6 y)) _) _) (ao5 Hs lo K rb lw G rs vl [] Hb b2 zb lzb hb2 g2 s0 hsame hok size a j h0 hsz n hlo heq va vc lb hvl m0 ⟨oM,oM⟩ ⟨oM,oM⟩ (.int .i64 m0) z (lb.length-0) _ _ ⟨0,r,x1,_,x3,rfl,Nat.zero_le _,u.g2,u.g4,u.g6,u.g7,u.g8,u.g9,f10,f11,rfl,u.lb,u.st,u.m,u.sz,hR,u.sy,I,by rw[List.drop_zero,hz,u.lb]⟩) ?_;rintro o' e' H' (⟨ho,W,k2,k4,k6,k7,k8,k9,b8,b9,c3,c4,km,c5,c0,X,c6⟩|⟨ho,W,k2,k3,kz,X⟩)
  .rw[W]at D;simp only[if_true]at D;refine J3 ho b9 @wrap_small ?_;exact i6 (kk-1) oM ⟨j+1,z.1,oM,oM,⟨k2,k4,k6,k7,k8,k9,c3,c4,km,c5,u.pr.trans (by rw[hz];exact(ak6 size a j r.labels 0 r).2.2),c0,X,c6⟩,b8,by rw[<-nx];rfl,by rw[gd a ya J ha];exact D⟩
  .rw[W]at D;simp only[bF]at D;refine J1 ho ?_;exact A6 (.inr ⟨rfl,by rw[<-D],k2,k3,kz,X⟩)
theorem ap7(I:ReD×Bool):
  ∀X e H,(∃(j:Nat)(r:ReD),X=m0-j/\j<=m0/\MkS Hs lo K rb lw G rs vl Hb b2 s0 size n lb m0 sz0 e H r/\e.get 10=iV j/\cD size (((List.range m0).drop j).flatMap fun a=>gX (fun i=>sz0.getD i 0) size a m0) r=I)->
  u9 (LE prog O8 (.loop OA) e H) (fun o e H=>(o= .exit 2/\I.2=true/\MkS Hs lo K rb lw G rs vl Hb b2 s0 size n lb m0 sz0 e H I.1)\/(o= .ret/\I.2=false/\MkF Hb b2 e H)):=by
 refine j7 _ _ ?_;rintro X e H ⟨j,r,hk,hj,h,f10,D⟩;have a1:=h.wf.l1;have hm:=h.m;rcases O:decide ((j:Int)<m0)with _|_
 .have S:=dF O;have:(List.range m0).drop j=[]:=dN (by simp;omega);rw[this]at D;simp only[List.flatMap_nil,cD]at D;refine J3 h.g9 f10 O ?_;exact l7 (.inl ⟨rfl,by rw[<-D],by rw[<-D];exact⟨h.g2,h.g4,h.g6,h.g7,h.g8,h.g9,h.lb,h.st,h.m,h.sz,h.pr,h.gr,h.sy,h.wf⟩⟩)
 have S:=dT O;have J:j<m0:=oM;rw[an7 J,List.flatMap_cons,ao2]at D;obtain⟨z,hz⟩:=eY (cD size (gX (fun i=>sz0.getD i 0) size j m0) r);rw[<-hz]at D;have nx:((j:Int)+1)=((j+1:Nat):Int):=oM;refine J3 h.g9 f10 O ?_;refine l9 (F:=fun y=>u9 (u7 (inBlock 3 (inBlock 4 y)) _) _) (as3 Hs lo K rb lw G rs vl Hb b2 s0 size n lb m0 sz0 zb lzb hb2 g2 hsame hok h0 hsz hlo heq va vc hvl hsl j J z (m0-0) _ _ ⟨0,r,rfl,Nat.zero_le _,⟨h.g2,h.g4,h.g6,h.g7,h.g8,h.g9,h.lb,h.st,h.m,h.sz,h.pr,h.gr,h.sy,h.wf⟩,f10,rfl,by rw[List.drop_zero,hz];rfl⟩) ?_;rintro o' e' H' (⟨U,E,u,W⟩|⟨U,E,hF⟩)
 .rw[E]at D;simp only[if_true]at D;refine J3 U W @wrap_small ?_;exact i6 (X-1) oM ⟨j+1,z.1,oM,oM,⟨u.g2,u.g4,u.g6,u.g7,u.g8,u.g9,u.lb,u.st,u.m,u.sz,u.pr,u.gr,u.sy,u.wf⟩,by rw[<-nx];rfl,D⟩
 .rw[E]at D;simp only[bF]at D;refine J1 U ?_;exact A6 (.inr ⟨rfl,by rw[<-D];exact E,hF⟩)
end
theorem aq1(Hs:d9)(lo K:Nat)(rb lw:Nat)(G:Nat->Prop)(rs:LV)(vl:Value)(Hb:d9)(b2:Nat)(s0:StD)(n:Nat)(lb:List EvD)(hb2:b2<lw)(g2:Hb.get b2=cE z12 1)(hsame:∀ev fi ne,an8 s0 ev fi ne=Y8 s0 ev fi ne) (hok:∀p∈s0.progs,∀t∈p.ts,OkD true t) (hlo:lo<=lw) (heq:∀j,j<lo->Hb.get j=Hs.get j) (va:Option Addr) (vc:Nat) (hvl:vl= .slice va lb.length vc) (E:Option ReD):
  ∀U e H,(∃(size:Int)(r:ReD),U=(402-size).toNat/\1<=size/\size<=402/\e.get 2=pT b2/\e.get 4=vl/\e.get 6=pT rb/\e.get 7=iV (mxL r.size)/\e.get 8=iV size/\r.labels=lb/\r.strat=s0/\(∀x∈r.size,x<size)/\(∃W O S,R0 (QR Hs lo K false) (QR Hs lo K true) H rb lw G r rs vl W O S)/\i4 lw Hb H/\WfR r n/\mD U r size=E)->
  u9 (LE prog O8 (.loop OB) e H) (fun o e H=>(o= .exit 0/\e.get 2=pT b2/\e.get 6=pT rb/\i4 lw Hb H/\∃r W O S,E=some r/\R0 (QR Hs lo K false) (QR Hs lo K true) H rb lw G r rs vl W O S/\WfR r n)\/(o= .ret/\E=none/\MkF Hb b2 e H)):=by
 refine j7 _ _ ?_;rintro U e H ⟨size,r,hk,a4,a5,f2,f4,f6,f7,f8,a3,a7,a6,⟨W,O,S,X⟩,hS,D,h⟩;have b0:=Nk r.size D.sb;have a9:=D.l1;have a2:=D.l2;rcases bo:decide (size<=2*mxL r.size+1)with _|_
 .have a1:E=some r:=by
   cases U with
   |zero=>rw[mD]at h;exact h.symm
   |succ k=>rw[mD,bo]at h;exact h.symm
  refine J4 f7 f8 bo @wrap_small ?_;exact l7 (.inl ⟨rfl,f2,f6,hS,r,W,O,S,a1,X,D⟩)
 .have a8:=dT bo;obtain⟨k,rfl⟩:∃k,U=k+1:=⟨U-1,oM⟩
  rw[mD,bo]at h;simp only[if_true]at h;have gr:=X.g;obtain⟨q8,q9,b1,b3⟩:=X.at_;obtain⟨b4,I⟩:=eY (rs++[vl,W,O,S]);rw[<-I]at gr q9;obtain⟨sa,sc,rfl⟩:=X.so.slice;obtain⟨z,hz⟩:=eY (jm r size);rw[<-hz]at h;refine J7 f6 f7 f8 gr q9 bo @wrap_small ?_;refine l9 (F:=fun y=>u9 (u7 (inBlock 1 (inBlock 2 y)) _) _) (ap7 Hs lo K rb lw G rs vl Hb b2 s0 size n lb r.sorts.length r.size z12 rfl hb2 g2 hsame hok a4 a5 hlo heq va vc hvl a2 z (r.sorts.length-0) _ _ ⟨0,r,rfl,Nat.zero_le _,⟨f2,f4,f6,f7,f8,rfl,a3,a7,lR,fun x hx=>by have:=a6 x hx;omega,List.prefix_rfl,⟨_,O,S,X⟩,hS,D⟩,rfl,by rw[List.drop_zero,hz];rfl⟩) ?_;rintro o' e' H' (⟨ho,J,u⟩|⟨ho,J,hF⟩)
  .rw[J]at h;simp only[if_true]at h;refine J3 ho u.g8 @wrap_small ?_;exact i6 k oM ⟨size+1,z.1,oM,oM,oM,u.g2,u.g4,u.g6,u.g7,rfl,u.lb,u.st,fun x hx=>by have:=u.sz x hx;omega,u.gr,u.sy,u.wf,h⟩
  .rw[J]at h;simp only[bF]at h;refine J1 ho ?_;exact A6 (.inr ⟨rfl,h.symm,hF⟩)
theorem aw2(K:Nat)(H:d9)(lo:Nat)(cs:LV)(q:Q)(hlo:lo<=H.next)(hr:QR H lo K false cs q)(hok:OkD false q)(d2:nQ q<=400):
  Ret (CL prog O8 12 [.agg cs.toArray] H) H (Ob H lo K (y9 (D0 q).progs).toNat (rg q)):=by
 have ac:=F0 hr;have ldc:=M8 hr;have l0:=hr.len;simp only[qSz,bF]at l0;rw[l0]at ldc;obtain⟨H0,b1,n0,-⟩:=pushF H (bC cs 1);obtain⟨H1,a5⟩:=eY (H0.push (bC z12 1));have n1:H1.next=H.next+2:=by rw[a5,i5,n0]
 have b8:i4 H.next H H1:=by rw[a5,b1];exact(i4.first H _).trans (i4.push (by rw[i5];exact Nat.le_succ _))
 have g1:H1.get H.next=cE cs 1:=by rw[a5,j6 oM,b1];exact i7
 have g2:H1.get (H.next+1)=cE z12 1:=by rw[a5,<-n0];exact i7
 obtain⟨vl,n8,Hl,c0,b9,v,er,rfl,g7,U⟩:=uw H1 lo K cs q oM (hr.mono (fun j E=>b8.get j oM) lR) hok oM;have nl:=U.next;have i3:=(U.get H.next oM).trans g1;have c5:=(U.get (H.next+1) oM).trans g2;have b5:=a5;have c9:=c5;simp only[z12]at b5 c9;rw[j8 ay8 rfl _ sM];unfold rg;rcases g7 with⟨hn,rfl,rfl⟩|⟨l,hl,rfl,hv⟩
 .rw[hn];obtain⟨H2,c7⟩:=eY (Hl.put (H.next+1) (bC z12 1));have c2:H2.get (H.next+1)=cE z12 1:=by rw[c7];exact i8 oM
  have m6:H2.low=min Hl.low (H.next+1):=by rw[c7,A4]
  have k1:i4 H.next H H2:=by rw[c7];exact(b8.trans (U.weaken oM)).trans (i4.put oM)
  have d0:=c7;simp only[z12]at d0 c2;refine J12 ac b1.symm n0 b5.symm g1 ldc c0 b9 c9 d0.symm c2 @Bc ?_;refine D7 (fun _ _=>?_) ?_
  .exact⟨z12,13,rfl,i4.refl _ _,.inl ⟨rfl,rfl,rfl⟩⟩
  .exact⟨z12,13,rfl,k1.ret (by have:=U.lowAll H.next oM (by rw[a5,b1];exact lR);omega),.inl ⟨rfl,rfl,rfl⟩⟩
 .rw[hl];obtain⟨n5,k2⟩:=gF q hl;obtain⟨vs,n9,u,f1,e6,rs,rfl,d3,b4⟩:=yu K Hl lo (QR Hl lo K true) cs q oM (hr.mono (fun j E=>by rw[U.get j oM,b8.get j oM]) lR) (fun k' el x hk h=>h.upTo hk) hok oM;have nm:=b4.next;have j0:=(b4.get (H.next+1) oM).trans c5;obtain⟨sa,sc,rfl⟩:=hv.slice;obtain⟨pa,pc,ga,gc,xa,xc,ea,ec,ta,tc,J,_⟩:=N3 d3;have a8:rs.length=8:=by rw[J];rfl
  have h9:rs.all oC=true:=by rw[J];rfl
  obtain⟨M1,b6,m1,-⟩:=pushE u (bC (soE soZ) 3);obtain⟨M2,a6⟩:=eY (M1.push (bC (inE 0) 1));have m2:M2.next=u.next+2:=by rw[a6,i5,m1]
  obtain⟨M3,X⟩:=eY (M2.push (.cells (hoE (0,0,0)) true 3));have m3:M3.next=u.next+3:=by rw[X,i5,m2]
  obtain⟨M4,O⟩:=eY (M3.push (bC z12 1));have m4:M4.next=u.next+4:=by rw[O,i5,m3]
  have gz:M4.get (u.next+3)=cE z12 1:=by rw[O,<-m3];exact i7
  have m9:∀Hx:d9,bsA prog (some 59) Hx 1 [(0,.agg (soE soZ).toArray)]=some (sL Hx.next 1 1,Hx.push (bC (soE soZ) 3)):=fun Hx=>by simp only[C7,yO,C8];rfl
  have i0:∀Hx:d9,bsA prog (some 3) Hx 1 [(0,iV 0)]=some (sL Hx.next 1 1,Hx.push (bC (inE 0) 1)):=fun Hx=>by simp only[C7,ty3,C8];rfl
  have i2:∀Hx:d9,bsA prog (some 56) Hx 1 [(0,.agg (hoE (0,0,0)).toArray)]=some (sL Hx.next 1 1,Hx.push (.cells (hoE (0,0,0)) true 3)):=fun Hx=>by simp only[C7,yN,C8];rfl
  obtain⟨a9,a4⟩:=eY (rs++[.slice sa l.length sc,sL u.next 1 1,sL (u.next+1) 1 1,sL (u.next+2) 1 1]);obtain⟨r0,e7⟩:=eY (rs++[nS,nS,nS,nS]:LV);obtain⟨r1,e8⟩:=eY (rs++[.slice sa l.length sc,nS,nS,nS]:LV);obtain⟨r2,e9⟩:=eY (rs++[.slice sa l.length sc,sL u.next 1 1,nS,nS]:LV);obtain⟨r3,f0⟩:=eY (rs++[.slice sa l.length sc,sL u.next 1 1,sL (u.next+1) 1 1,nS]:LV);have k8:splice [nS,nS,nS,iV 0,iV 0,iV 0,nS,nS,nS,nS,nS,nS] 0 rs=r0:=by rw[e7,J];rfl
  have k9:splice r0 8 [.slice sa l.length sc]=r1:=by rw[e7,e8,J];rfl
  have l1:splice r1 9 [sL u.next 1 1]=r2:=by rw[e8,e9,J];rfl
  have l3:splice r2 10 [sL (u.next+1) 1 1]=r3:=by rw[e9,f0,J];rfl
  have l4:splice r3 11 [sL (u.next+2) 1 1]=a9:=by rw[f0,a4,J];rfl
  have k4:r0.length=12:=by rw[e7];simp [a8]
  have k5:r1.length=12:=by rw[e8];simp [a8]
  have k6:r2.length=12:=by rw[e9];simp [a8]
  have k7:r3.length=12:=by rw[f0];simp [a8]
  have h7:a9.length=12:=by rw[a4];simp [a8]
  have g3:a9.all oC=true:=by rw[a4,J];rfl
  have l5:splice [nS,nS,nS,iV 0,iV 0,iV 0,nS,nS,nS,nS,nS,nS] 0 a9=a9:=by rw[a4,J];rfl
  obtain⟨M5,S⟩:=eY (M4.put (u.next+3) (bC a9 1));have m5:M5.next=u.next+4:=by rw[S,j5,m4]
  have g6:M1=u.push (bC [.bool false,.bool false,.string eB] 3):=b6;have h6:H.next<=Hl.low:=U.lowAll H.next oM (by rw[a5,b1];exact lR);have m7:H.next<=u.low:=b4.lowAll H.next oM h6;have d4:H.next<=M5.low:=by
   have e4:M4.low=u.low:=by rw[O,X,a6,b6];rfl
   rw[S,A4,e4];omega
  have d1:=O;have g5:=gz;simp only[z12]at d1 g5;refine J30 ac b1.symm n0 b5.symm g1 i3 ldc c0 b9 f1 e6 i0 i2 g6.symm m1 a6.symm m2 X.symm m3 d1.symm g5 a8 h9 k8 (aI k9 l1) (aI l3 l4) (aI k4 k5) (aI k6 k7) (aI h7 g3) (aI l5 S.symm) ?_;have sG:∀j,j<u.next->M5.get j=u.get j:=fun j E=>by rw[S,i9 oM,O,j6 oM,X,j6 oM,a6,j6 oM,b6,j6 oM]
  have j1:M5.get u.next=cE (soE soZ) 3:=by rw[S,i9 oM,O,j6 oM,X,j6 oM,a6,j6 oM,b6];exact i7
  have j2:M5.get (u.next+1)=cE (inE 0) 1:=by rw[S,i9 oM,O,j6 oM,X,j6 oM,a6,<-m1];exact i7
  have j3:M5.get (u.next+2)=some (.cells (hoE (0,0,0)) true 3):=by rw[S,i9 oM,O,j6 oM,X,<-m2];exact i7
  have j4:M5.get (u.next+3)=cE a9 1:=by rw[S];exact i8 oM
  have h8:∀j,j<lo->Hl.get j=H.get j:=fun j E=>by rw[U.get j oM,b8.get j oM]
  obtain⟨c8,I⟩:=eY (⟨D0 q,l,[soZ],[0],[(0,0,0)]⟩:ReD);have k3:SlF Hl (fun j=>j<Hl.next/\j≠H.next+1) 5 (EvF Hl (fun j=>j<Hl.next/\j≠H.next+1)) (.slice sa l.length sc) l:=hv.off c5 oM fun cs e⟨w,h1,h2⟩=>⟨w,h1,h2.off c5 oM fun _ _ h=>h⟩
  have k0:R0 (QR H lo K false) (QR H lo K true) M5 (u.next+3) u.next (fun j=>j<u.next/\j≠H.next+1) c8 rs (.slice sa l.length sc) (sL u.next 1 1) (sL (u.next+1) 1 1) (sL (u.next+2) 1 1):=by
   rw[I];refine⟨by rw[j4,a4],d3.mono (fun j E=>sG j E.2) (fun j E=>⟨E.2,oM⟩) (fun _ _ h=>h.mono (fun j E=>(h8 j E).symm) lR) (fun _ _ h=>h.mono (fun j E=>(h8 j E).symm) lR),
    k3.mono (fun j E=>by rw[sG j oM];exact b4.get j E.1) (fun j E=>⟨oM,E.2⟩) (fun _ _ h=>w9 _ _ _ _ _ _ h (fun j E=>by rw[sG j oM];exact b4.get j E.1) (fun j E=>⟨oM,E.2⟩)),
    ⟨_,.inr ⟨u.next,1,rfl,j1,lR,rfl⟩,D2.one rfl rfl⟩,⟨_,.inr ⟨u.next+1,1,rfl,j2,oM,rfl⟩,D2.one rfl rfl⟩,⟨_,.inr ⟨u.next+2,1,rfl,j3,oM,rfl⟩,D2.one rfl rfl⟩,?_,fun j E=>⟨oM,oM,?_⟩,oM,?_⟩
   .intro i j a b ha hb n3 x hx hy;have hi:i<3:=by have:=(gS ha).1;simpa using this
    have E:j<3:=by have:=(gS hb).1;simpa using this
    have:i=0\/i=1\/i=2:=oM;have:j=0\/j=1\/j=2:=oM;rcases ‹i=0\/i=1\/i=2› with rfl|rfl|rfl<;>rcases ‹j=0\/j=1\/j=2› with rfl|rfl|rfl<;>simp at ha hb<;>subst ha hb<;>rw[I6]at hx hy<;>omega
   .intro w hw;simp only[List.mem_cons,List.not_mem_nil,or_false]at hw;rcases hw with rfl|rfl|rfl<;>rw[I6]<;>omega
   .intro w hw;simp only[List.mem_cons,List.not_mem_nil,or_false]at hw;rcases hw with rfl|rfl|rfl<;>rw[I6]<;>omega
  have h4:WfR c8 (y9 (D0 q).progs).toNat:=by
   rw[I];have h1:=nZ q hok oM;refine⟨by show(((y9 (D0 q).progs).toNat:Nat):Int)=y9 (D0 q).progs;omega,yG q hok d2,fun x hx=>?_,k2,fun p hp=>?_,by simp,rfl,rfl,by show l.length<=1000;omega,by simp,fun x hx=>?_⟩
   .have:x=soZ:=by simpa using hx
    subst this;intro h;cases h
   .obtain⟨x,hx,rfl⟩:=aB9 q hok p hp;have h2:=cy x;have h3:=wQ x;omega
   .have:x=0:=by simpa using hx
    subst this;omega
  have d8:i4 H.next H M5:=by
   rw[S,O,X,a6,b6];exact(b8.trans ((U.weaken oM).trans (b4.weaken oM))).trans (((((i4.push oM).trans (i4.push (by rw[i5];omega))).trans (i4.push (by rw[i5,i5];omega))).trans (i4.push (by rw[i5,i5,i5];omega))).trans (i4.put oM))
  have g4:M5.get (H.next+1)=cE z12 1:=(sG _ oM).trans j0;rw[<-I];refine l9 (F:=fun z=>Ret (u5 prog [.cell 2 39,.tmp 3] H (u7 (inBlock 0 z) _)) H _) (aq1 H lo K (u.next+3) u.next (fun j=>j<u.next/\j≠H.next+1) rs (.slice sa l.length sc) M5 (H.next+1) (D0 q) (y9 (D0 q).progs).toNat l oM g4 (as5 q hok d2) (ao7 q hok) oM (fun j E=>d8.get j oM) sa sc rfl (mD 401 c8 1) 401 _ _ ⟨1,c8,rfl,oM,oM,rfl,rfl,rfl,by rw[I];rfl,rfl,by rw[I],by rw[I],by rw[I];simp,⟨_,_,_,k0⟩,i4.refl _ _,h4,rfl⟩) ?_;rintro o' e' H' (⟨ho,f2,f6,a7,r,x1,x2,x3,b0,hR,g9⟩|⟨ho,b0,f2,f3,c4,a7⟩)
  .obtain⟨y,D⟩:=eY (rs++[.slice sa l.length sc,x1,x2,x3]);have gr:=hR.g;rw[<-D]at gr;obtain⟨a1,c1,e1⟩:=hR.so.slice;obtain⟨a2,c2,e2⟩:=hR.sz.slice;obtain⟨a3,c3,e3⟩:=hR.ho.slice;have g0:y.length=12:=by rw[D];simp [a8]
   have d5:y.all oC=true:=by rw[D,J,e1,e2,e3];rfl
   have h5:ldC (some true) (some 12) 0 y=some (.agg y.toArray):=by rw[aA1 _ _ _ oM,List.drop_zero,List.take_of_length_le oM]
   have l8:splice [nS,nS,nS,iV 0,iV 0,iV 0,nS,nS,nS,nS,nS,nS] 0 y=y:=by rw[D,J];rfl
   have c4:H'.get (H.next+1)=cE z12 1:=(a7.get _ oM).trans g4;have i1:=u6 c4;obtain⟨H6,b3⟩:=eY (H'.put (H.next+1) (bC y 1));have c6:H6.get (H.next+1)=cE y 1:=by rw[b3];exact i8 i1
   have d6:∀j,j≠H.next+1->H6.get j=H'.get j:=fun j E=>by rw[b3];exact i9 (fun q=>E q.symm)
   have n6:H6.next=H'.next:=by rw[b3,j5]
   have l6:H6.low=min H'.low (H.next+1):=by rw[b3,A4]
   have n7:=a7.next;have W:=c4;simp only[z12]at W;refine J12 ho f2 f6 gr W @Bc g0 d5 h5 l8 b3.symm c6 ?_;have e5:i4 H.next H H6:=by rw[b3];exact(d8.trans (a7.weaken oM)).trans (i4.put oM)
   have b7:R0 (QR H lo K false) (QR H lo K true) H6 (u.next+3) u.next (fun j=>j<u.next/\j≠H.next+1) r rs (.slice sa l.length sc) x1 x2 x3:=by
    exact hR.side (b:=H.next+1) ⟨oM,fun q=>q.2 rfl,fun w hw q=>by have:=(hR.inl hw q).1;omega⟩ oM d6
   refine D7 (fun g8 _=>?_) ?_
   .exfalso
    have n4:=g9.l0;obtain⟨m8,n2,rfl⟩:∃a c,x1= .slice (some a) r.sorts.length c:=by
     obtain⟨_,nb,o,_,_,_,_,_,q,_⟩:=(e1▸hR.so.sl:SlI H' H'.next 3 (R1 soE) (.slice a1 r.sorts.length c1) r.sorts).row (i:=0) oM;exact⟨_,_,by rw[e1,q]⟩
    simp only[L0,D,List.all_cons,na1,List.all_append,Bool.and_eq_true]at g8;simp [na0]at g8
   .refine⟨y,0,rfl,e5.ret (oN (a7.lowAll H.next oM d4)),.inr ⟨r,b0,rfl,g9,rs,_,x1,x2,x3,D,?_⟩⟩;have hx:∀j,(j<u.next/\j≠H.next+1)->j<H6.next:=fun j E=>oM;refine⟨b7.st.mono (fun _ _=>rfl) hx iF iF,b7.lb.mono (fun _ _=>rfl) hx (fun _ _ h=>w9 _ _ _ _ _ _ h (fun _ _=>rfl) hx),b7.so.sl,b7.sz.sl,b7.ho.sl⟩
  .have W:=c4;simp only[z12]at W;refine J5 ho f2 f3 W @Bc ?_;have e5:i4 H.next H H':=d8.trans (a7.weaken oM);refine D7 (fun _ _=>?_) ?_
   .exact⟨z12,13,rfl,i4.refl _ _,.inl ⟨b0,rfl,rfl⟩⟩
   .exact⟨z12,13,rfl,e5.ret (a7.lowAll H.next oM d4),.inl ⟨b0,rfl,rfl⟩⟩
def NZ(r:ReD)(k:Nat):Prop:=∃(i a b:Nat)(e:EvD),r.how[k]?=some ((i:Int),(a:Int),(b:Int))/\r.labels[i]?=some e/\a<k/\b<k/\r.size.getD k 0=r.size.getD a 0+r.size.getD b 0+1/\iH r.sorts e.kind a b=true/\r.sorts[k]?=some (Y8 r.strat e (r.sorts.getD a soZ) (r.sorts.getD b soZ))
structure N0(r:ReD)(m:Int):Prop where
 l2:r.size.length=r.sorts.length
 l3:r.how.length=r.sorts.length
 s0:r.sorts[0]?=some soZ
 z0:r.size[0]?=some 0
 from_:∀k,1<=k->k<r.sorts.length->NZ r k
 rise:∀k,1<=k->k<r.sorts.length->r.size.getD (k-1) 0<=r.size.getD k 0
 apart:∀(i j:Nat)(x y:SoD),i<j->r.sorts[i]?=some x->r.sorts[j]?=some y->fo y x=false
 most:∀k,k<r.sorts.length->r.size.getD k 0<=m
 l1:r.sorts.length<=25
theorem N0.later{r:ReD}{m u:Int}(h:N0 r m)(z:m<=u):N0 r u:=⟨h.l2,h.l3,h.s0,h.z0,h.from_,h.rise,h.apart,fun k y=>Int.le_trans (h.most k y) z,h.l1⟩
theorem N9{α:Type}(l:List α)(x d:α)(k:Nat)(h:k<l.length):(l++[x]).getD k d=l.getD k d:=by
 rw[List.getD_eq_getElem?_getD,List.getD_eq_getElem?_getD,List.getElem?_append_left h]
theorem cj{α:Type}(l:List α)(x d:α):(l++[x]).getD l.length d=x:=by
 rw[List.getD_eq_getElem?_getD,List.getElem?_append_right lR];simp
theorem rj{y:List SoD}{x:SoD}{u f n:Int}(h:iH y u f n=true):iH (y++[x]) u f n=true:=by
 simp only[iH,knB,Bool.and_eq_true,decide_eq_true_eq,List.length_append,List.length_singleton]at h ⊢;obtain⟨⟨⟨z,I⟩,D,J⟩,E⟩:=h;refine⟨⟨⟨z,oM⟩,D,oM⟩,?_⟩;rw[N9 _ _ _ _ oM];exact E
theorem N0.add{r:ReD}{size:Int}(h:N0 r size){i a b:Nat}{e:EvD}(hl:r.labels[i]?=some e)(ha:a<r.sorts.length)(hb:b<r.sorts.length)(hs:size=r.size.getD a 0+r.size.getD b 0+1)(hm:iH r.sorts e.kind a b=true):
  N0 (aQ r (Y8 r.strat e (r.sorts.getD a soZ) (r.sorts.getD b soZ)) size (i,a,b)).1 size:=by
 obtain⟨x,hx⟩:=eY (Y8 r.strat e (r.sorts.getD a soZ) (r.sorts.getD b soZ));rw[<-hx];unfold aQ;split
 .exact h
 .rename_i a2;split
  .exact h
  .rename_i a3;simp only[Bool.or_eq_true,decide_eq_true_eq,not_or]at a3;have E:(r.sorts++[x]).length=r.sorts.length+1:=sM;have U:∀y∈r.sorts,fo x y=false:=fun y hy=>by
    cases hq:fo x y with
    |false=>rfl
    |true=>exact absurd (List.any_eq_true.2 ⟨y,hy,hq⟩) a2
   have l0:0<r.sorts.length:=oM;have l2:=h.l2;have l3:=h.l3;refine⟨by simp [h.l2],by simp [h.l3],by rw[List.getElem?_append_left l0];exact h.s0,by rw[List.getElem?_append_left oM];exact h.z0,fun k O I=>?_,fun k O I=>?_,fun i j u v X hu J=>?_,fun k O=>?_,by show(r.sorts++[x]).length<=25;omega⟩
   .have S:k<r.sorts.length+1:=by rw[<-E];exact I
    by_cases D:k<r.sorts.length
    .obtain⟨i',a',W,e',f1,f2,f3,f4,f5,f6,f7⟩:=h.from_ k O D;refine⟨i',a',W,e',by rw[List.getElem?_append_left oM];exact f1,f2,f3,f4,?_,rj f6,?_⟩
     .show(r.size++[size]).getD k 0=(r.size++[size]).getD a' 0+(r.size++[size]).getD W 0+1;rw[N9 _ _ _ _ oM,N9 _ _ _ _ oM,N9 _ _ _ _ oM];exact f5
     .show(r.sorts++[x])[k]?=some (Y8 r.strat e' ((r.sorts++[x]).getD a' soZ) ((r.sorts++[x]).getD W soZ));rw[List.getElem?_append_left D,N9 _ _ _ _ oM,N9 _ _ _ _ oM];exact f7
    .have z:k=r.sorts.length:=oM;subst z;refine⟨i,a,b,e,by rw[List.getElem?_append_right oM,l3,Nat.sub_self];rfl,hl,ha,hb,?_,rj hm,?_⟩
     .show(r.size++[size]).getD r.sorts.length 0=(r.size++[size]).getD a 0+(r.size++[size]).getD b 0+1;have e1:(r.size++[size]).getD r.sorts.length 0=size:=by rw[<-l2];exact cj _ _ _
      rw[e1,N9 _ _ _ a oM,N9 _ _ _ b oM];exact hs
     .show(r.sorts++[x])[r.sorts.length]?=some (Y8 r.strat e ((r.sorts++[x]).getD a soZ) ((r.sorts++[x]).getD b soZ));rw[List.getElem?_append_right lR,Nat.sub_self,N9 _ _ _ _ ha,N9 _ _ _ _ hb,<-hx];rfl
   .have S:k<r.sorts.length+1:=by rw[<-E];exact I
    show(r.size++[size]).getD (k-1) 0<=(r.size++[size]).getD k 0;rw[N9 _ _ _ _ oM];by_cases D:k<r.sorts.length
    .rw[N9 _ _ _ _ oM];exact h.rise k O D
    .have z:k=r.size.length:=oM;rw[z,cj];exact h.most _ oM
   .have hj:=(gS J).1;simp only[List.length_append,List.length_singleton]at hj;rw[List.getElem?_append_left oM]at hu;by_cases a1:j<r.sorts.length
    .rw[List.getElem?_append_left a1]at J;exact h.apart i j u v X hu J
    .rw[List.getElem?_append_right oM]at J;have:j-r.sorts.length=0:=oM;rw[this]at J;simp at J;subst J;exact U u (mG hu)
   .have a4:k<r.sorts.length+1:=by rw[<-E];exact O
    show(r.size++[size]).getD k 0<=size;by_cases D:k<r.sorts.length
    .rw[N9 _ _ _ _ oM];exact h.most k D
    .have z:k=r.size.length:=oM;rw[z,cj];exact Int.le_refl _
theorem gE{α:Type}{l m:List α}(h:l<+:m){k:Nat}(u:k<l.length)(d:α):m.getD k d=l.getD k d:=by
 obtain⟨t,rfl⟩:=h;rw[List.getD_eq_getElem?_getD,List.getD_eq_getElem?_getD,List.getElem?_append_left u]
theorem eh{size:Int}{a b:Nat}:∀(l:List EvD)(i:Nat)(r:ReD),N0 r size->r.labels.drop i=l->a<r.sorts.length->b<r.sorts.length->size=r.size.getD a 0+r.size.getD b 0+1->N0 (Q0 size a b l i r).1 size/\r.size<+:(Q0 size a b l i r).1.size/\(Q0 size a b l i r).1.labels=r.labels/\(Q0 size a b l i r).1.strat=r.strat
 |[],i,r,h,_,_,_,_=>⟨h,List.prefix_rfl,rfl,rfl⟩
 |e::l,i,r,h,hd,ha,hb,hs=>by
  have E:r.labels[i]?=some e:=by rw[<-List.head?_drop,hd];rfl
  have u:r.labels.drop (i+1)=l:=by rw[<-List.tail_drop,hd];rfl
  rw[Q0];have W:(a:Int).toNat=a:=tN a;have X:(b:Int).toNat=b:=tN b;rw[W,X];split
  .rename_i I;have z:=h.add E ha hb hs I;obtain⟨p1,p2,y,D⟩:=fy r (Y8 r.strat e (r.sorts.getD a soZ) (r.sorts.getD b soZ)) size (i,a,b);have l2:=h.l2;split
   .obtain⟨J,O,S,U⟩:=eh l (i+1) _ z (by rw[p2];exact u) (Nat.lt_of_lt_of_le ha D.length_le) (Nat.lt_of_lt_of_le hb D.length_le) (by rw[gE y oM,gE y oM];exact hs);exact⟨J,y.trans O,S.trans p2,U.trans p1⟩
   .exact⟨z,y,p2,p1⟩
  .exact eh l (i+1) r h u ha hb hs
theorem jl{size:Int}{m:Nat}{s0:List Int}:∀(L:List (Nat×Nat))(r:ReD),N0 r size->(∀x∈L,x.1<m/\x.2<m/\size=s0.getD x.1 0+s0.getD x.2 0+1)->m<=s0.length->s0<+:r.size->N0 (cD size L r).1 size/\(cD size L r).1.labels=r.labels/\(cD size L r).1.strat=r.strat
 |[],r,h,_,_,_=>⟨h,rfl,rfl⟩
 |x::L,r,h,hL,hm,hs=>by
  obtain⟨X,h2,E⟩:=hL x sM;have I:=hs.length_le;have l2:=h.l2;obtain⟨u,W,z,D⟩:=eh r.labels 0 r h (by rw[List.drop_zero]) (show x.1<r.sorts.length from oM) (show x.2<r.sorts.length from oM) (by rw[gE hs oM,gE hs oM];exact E);rw[cD];split
  .obtain⟨O,S,U⟩:=jl L _ u (fun y J=>hL y (by simp [J])) hm (hs.trans W);exact⟨O,S.trans z,U.trans D⟩
  .exact⟨u,z,D⟩
theorem qK{r:ReD}{size:Int}(h:N0 r size):N0 (jm r size).1 size/\(jm r size).1.labels=r.labels/\(jm r size).1.strat=r.strat:=by
 have l2:=h.l2;refine jl (m:=r.sorts.length) (s0:=r.size) _ r h (fun x z=>?_) oM List.prefix_rfl;unfold ak7 at z;obtain⟨a,I,y⟩:=List.mem_flatMap.1 z;unfold gX at y;obtain⟨b,u,rfl⟩:=List.mem_map.1 y;obtain⟨D,E⟩:=List.mem_filter.1 u;exact⟨List.mem_range.1 I,List.mem_range.1 D,by simpa using (dT E).symm⟩
theorem lq:∀(k:Nat)(r:ReD)(size:Int){u:ReD},N0 r size->mD k r size=some u->(∃m,N0 u m)/\u.labels=r.labels/\u.strat=r.strat
 |0,r,size,u,h,hr=>by rw[mD]at hr;cases hr;exact⟨⟨_,h⟩,rfl,rfl⟩
 |k+1,r,size,u,h,hr=>by
  rw[mD]at hr;split at hr
  .split at hr
   .obtain⟨E,I,J⟩:=qK h;obtain⟨y,z,D⟩:=lq k _ (size+1) (E.later oM) hr;exact⟨y,z.trans I,D.trans J⟩
   .cases hr
  .cases hr;exact⟨⟨_,h⟩,rfl,rfl⟩
theorem js{q:Q}{r:ReD}(h:rg q=some r):(∃m,N0 r m)/\r.strat=D0 q/\∃l,S8 (spQ q)=some l/\r.labels=l:=by
 unfold rg at h;split at h
 .cases h
 .rename_i l I;obtain⟨O,S,U⟩:=lq 401 ⟨D0 q,l,[soZ],[0],[(0,0,0)]⟩ 1 ⟨rfl,rfl,rfl,rfl,fun k z u=>by simp at u;omega,fun k z u=>by simp at u;omega,fun i j x y D W J=>by
   have:=(gS J).1;simp at this;omega,fun k E=>by
   have:k=0:=by simpa using E
   subst this;show(0:Int)<=1;omega,by simp⟩ h
  exact⟨O,U,l,I,S⟩
def SlO(H:d9)(F:Nat->Prop)(sz:Nat){α:Type}(R:LV->α->Prop)(v:Value)(l:List α):Prop:=
 (v=nS/\l=[])\/
 ∃b o c,v= .slice (some ⟨b,o,none⟩) l.length c/\
  (l=[]\/∃cs,F b/\H.get b=some (.cells cs true sz)/\o+l.length*sz<=cs.length/\∀(i:Nat) a,l[i]?=some a->R ((cs.drop (o+i*sz)).take sz) a)
theorem SlO.mono{H H':d9}{F F':Nat->Prop}{sz:Nat}{α:Type}{R:LV->α->Prop}{v:Value}{l:List α}(h:SlO H F sz R v l)(E:∀j,F j->H'.get j=H.get j) (D:∀j,F j->F' j):SlO H' F' sz R v l:=by
 rcases h with h|⟨b,o,c,I,h⟩
 .exact .inl h
 .exact .inr ⟨b,o,c,I,h.imp id fun⟨cs,u,y,z⟩=>⟨cs,D _ u,(E _ u).trans y,z⟩⟩
theorem t7.slo{H:d9}{lo sz:Nat}{α:Type}{R:LV->α->Prop}{v:Value}{l:List α}(h:t7 H lo sz R v l):SlO H (fun j=>lo<=j/\j<H.next) sz R v l:=by
 obtain⟨cs,y,z⟩:=h;rcases y with⟨rfl,u,rfl⟩|⟨b,c,rfl,u,D,I⟩
 .exact .inl ⟨rfl,by simpa using u⟩
 .refine .inr ⟨b,0,c,rfl,.inr ⟨cs,⟨D,u6 u⟩,u,oM,fun i a E=>?_⟩⟩;rw[Nat.zero_add];exact z.2 i a E
def EvO(H:d9)(F:Nat->Prop)(cs:LV)(e:EvD):Prop:=∃v,cs=[iV e.kind,.string e.space,.string e.loc,v,.string e.text]/\SlO H F 3 (R1 atE) v e.attrs
theorem EvO.mono{H H':d9}{F F':Nat->Prop}{cs:LV}{e:EvD}(h:EvO H F cs e)(D:∀j,F j->H'.get j=H.get j) (z:∀j,F j->F' j):EvO H' F' cs e:=by
 obtain⟨v,u,y⟩:=h;exact⟨v,u,y.mono D z⟩
structure jB(lo:Nat)(H:d9)(v:Value)(l:List EvD)(G:Nat->Prop):Prop where
 own:t7 H lo 5 (EvO H G) v l
 fr:∀j,G j->lo<=j/\j<H.next/\¬j9 v j
theorem jB.keep{lo:Nat}{H H':d9}{v:Value}{l:List EvD}{G:Nat->Prop}(h:jB lo H v l G)(u:i4 H.next H H'):jB lo H' v l G:=by
 have:=u.next;exact⟨(h.own.imp fun cs e q=>q.mono (fun j y=>u.get j (h.fr j y).2.1) (fun _ h=>h)).keep u,fun j y=>by have:=h.fr j y;exact⟨this.1,oM,this.2.2⟩⟩
theorem jB.app{lo n:Nat}{H:d9}{v x:Value}{l l2:List EvD}{G G2:Nat->Prop}(h:jB lo H v l G)(J:SlI H n 5 (EvO H G2) x l2)(D:∀j,G2 j->lo<=j/\j<H.next/\¬j9 v j) (hl:l.length+l2.length<=1000000) (E:lo<=H.next):
  Ret (fb prog H [35,35] v x) H fun v' H'=>jB lo H' v' (l++l2) (fun j=>G j\/G2 j)/\X7 lo v H v' H':=by
 have U:t7 H lo 5 (EvO H (fun j=>G j\/G2 j)) v l:=h.own.imp fun cs e q=>q.mono (fun _ _=>rfl) (fun _=> .inl);have W:SlI H n 5 (EvO H (fun j=>G j\/G2 j)) x l2:=J.mono (fun _ _=>rfl) lR (fun cs e q=>q.mono (fun _ _=>rfl) (fun _=> .inr));obtain⟨v',I,H',X,r2,r3,z⟩:=U.appendF (P:=prog) (t:=35) (by exact uT.2.2.2.2.2.2) aG.1 aG.2.1 aG.2.2.1 oM oM W oM E;have hn:=z.next;have u:∀j,(G j\/G2 j)->lo<=j/\j<H.next/\¬j9 v j:=fun j y=>y.elim (h.fr j) (D j);refine⟨v',I,H',X,r2,⟨r3.imp fun cs e q=>q.mono (fun j y=>z.but j (u j y).2.1 (u j y).2.2) (fun _ h=>h),fun j y=>?_⟩,z⟩;obtain⟨O,k2,S⟩:=u j y;refine⟨O,oM,fun q=>?_⟩;rcases z.new j q with q|q
 .exact S q
 .omega
def zI:EvD:=⟨3,eB,eB,[],eB⟩
def eD(r:ReD):Nat->Int->List EvD
 |0,_=>[]
 |n+1,k=>if k<=0\/(r.sorts.length:Int)<=k then [] else
  match r.how[k.toNat]? with
  |some (i,a,b)=>match r.labels[i.toNat]? with
   |some e=>([e]++(if e.kind=1 then eD r n a++[zI] else []))++eD r n b
   |none=>[]
  |none=>[]
theorem rI{r:ReD}{m:Int}(J:N0 r m)(u:∀x∈r.size,0<=x/\x<=200):∀(n:Nat)(k:Int),((eD r n k).length:Int)<=2*r.size.getD k.toNat 0:=by
 have h:∀i,0<=r.size.getD i 0:=fun i=>by
  rw[List.getD_eq_getElem?_getD];cases O:r.size[i]? with
  |none=>exact Int.le_refl _
  |some x=>exact(u x (mG O)).1
 intro n;induction n with
 |zero=>intro k;have:=h k.toNat;simp only[eD,List.length_nil];omega
 |succ n y=>
  intro k;rw[eD];split
  .have:=h k.toNat;simp only[List.length_nil];omega
  .rename_i S;obtain⟨i,a,b,e,z,D,f3,f4,f5,f6,f7⟩:=J.from_ k.toNat oM oM;rw[z];simp only[Int.toNat_natCast];rw[D];have E:=y a;have I:=y b;rw[Int.toNat_natCast]at E I;have U:=h a;simp only[List.length_append,List.length_singleton];split
   .simp only[List.length_append,List.length_singleton];omega
   .simp only[List.length_nil];omega
theorem nR{r:ReD}{m:Int}(E:N0 r m):∀(n u:Nat)(k:Int),k.toNat<n->k.toNat<u->eD r n k=eD r u k:=by
 intro n;induction n with
 |zero=>intro u k h;omega
 |succ n y=>
  intro u k h I;obtain⟨p,rfl⟩:∃p,u=p+1:=⟨u-1,oM⟩
  rw[eD,eD];split
  .rfl
  .rename_i J;obtain⟨i,a,b,e,z,D,f3,f4,f5,f6,f7⟩:=E.from_ k.toNat oM oM;rw[z];simp only[Int.toNat_natCast];rw[D];have O:(a:Int).toNat=a:=tN a;have S:(b:Int).toNat=b:=tN b;simp only;rw[y p a oM oM,y p b oM oM]
theorem aD.mono{H H':d9}{F F':Nat->Prop}{D E:LV->Q->Prop}{z:LV}{r:ReD}(h:aD H F D E z r)(y:∀j,F j->H'.get j=H.get j) (u:∀j,F j->F' j):aD H' F' D E z r:=by
 obtain⟨X,vl,w1,w2,w3,I,J,O,S,U,W⟩:=h;exact⟨X,vl,w1,w2,w3,I,J.mono y u iF iF,O.mono y u (fun _ _ q=>w9 _ _ _ _ _ _ q y u),S.mono y u iF,U.mono y u iF,W.mono y u iF⟩
theorem jB.low{lo:Nat}{H:d9}{v:Value}{l:List EvD}{G:Nat->Prop}(h:jB lo H v l G)(n:Nat):jB lo ⟨H.bs,n⟩ v l G:=
 ⟨(h.own.imp fun cs e q=>q.mono (fun _ _=>rfl) (fun _ h=>h)).low n,h.fr⟩
def sw(H:d9)(l:List EvD)(v:Value)(H':d9):Prop:=(∃G,jB H.next H' v l G)/\i4 H.next H H'
theorem XH(Rp Rt:LV->Q->Prop)(r:ReD)(m:Int)(hg:N0 r m)(c8:∀x∈r.size,0<=x/\x<=200) (k2:∀e∈r.labels,e.attrs.length<=1000000):∀(n:Nat)(k:Int)(H:d9)(y:LV),k.toNat<=n->aD H (· <H.next) Rp Rt y r->y.length=12->y.all oC=true->
  Ret (CL prog O8 14 [.agg y.toArray,iV k] H) H (sw H (eD r (n+1) k)):=by
 intro n;induction n using Nat.strongRecOn with
 |ind n ih=>
 intro k H y o3 hR a6 E;have j3:=hR;obtain⟨rs,vl,w1,w2,w3,a5,o6,e2,k8,o7,e1⟩:=hR;have c9:rs.length=8:=by rw[a5]at a6;simpa using a6
 have q8:y[8]?=some vl:=by rw[a5,List.getElem?_append_right oM,c9];rfl
 have q9:y[9]?=some w1:=by rw[a5,List.getElem?_append_right oM,c9];rfl
 have g2:y[11]?=some w3:=by rw[a5,List.getElem?_append_right oM,c9];rfl
 obtain⟨sa,sc,rfl⟩:=k8.slice;obtain⟨la,lc,rfl⟩:=e2.slice;obtain⟨ha,hc,rfl⟩:=e1.slice;obtain⟨H1,I,n1,g1,s1⟩:=pushF H (bC y 1);rw[j8 aa5 rfl _ sM,eD];have c3:sw H [] (nS) H:=⟨⟨fun _=>False,⟨[],.inl ⟨rfl,rfl,rfl⟩,D2.nil⟩,fun j z=>z.elim⟩,i4.refl _ _⟩
 rcases b1:decide (k<=0)with _|_
 .have m6:=dF b1;rcases b2:decide ((r.sorts.length:Int)<=k)with _|_
  .have m7:=dF b2;rw[if_neg oM];obtain⟨i,a,b,e,f1,f2,f3,f4,f5,f6,f7⟩:=hg.from_ k.toNat oM oM;rw[f1];simp only[Int.toNat_natCast];rw[f2];simp only;have o5:=hg.l3;have o2:=(gS f2).1;obtain⟨hw,hb,ho,o1,m2,k4,hx,_,rfl,j1,k5,m0,a8,n0,j4⟩:=e1.row (i:=k.toNat) oM;rw[f1]at hx;cases hx;obtain rfl:k4=hoE ((i:Int),(a:Int),(b:Int)):=j4;obtain⟨ev,lb,lo,k9,f0,D,e4,_,rfl,j2,k6,m1,a9,o0,k0⟩:=e2.row (i:=i) oM;rw[f2]at e4;cases e4;obtain⟨av,a1,e3⟩:=id k0;have b3:D.length=5:=by rw[a1];rfl
   have b7:D.all oC=true:=by
    obtain⟨aa,ac,rfl⟩:=e3.slice;rw[a1];rfl
   have o8:D[0]?=some (.int .i64 e.kind):=by rw[a1];rfl
   have e6:D[3]?=some av:=by rw[a1];rfl
   have o4:((k.toNat:Nat):Int)=k:=Int.toNat_of_nonneg oM;obtain⟨H2,J⟩:=eY (H1.push (bC [iV 0,iV 0,iV 0] 1));have n2:H2.next=H.next+2:=by rw[J,i5,n1]
   have x2:H2.get (H.next+1)=cE [iV 0,iV 0,iV 0] 1:=by rw[J,<-n1];exact i7
   obtain⟨H3,O⟩:=eY (H2.put (H.next+1) (bC [iV i,iV a,iV b] 1));have n3:H3.next=H.next+2:=by rw[O,j5,n2]
   have x3:H3.get (H.next+1)=cE [iV i,iV a,iV b] 1:=by rw[O];exact i8 oM
   have y3:∀j,j<H.next+1->H3.get j=H1.get j:=fun j z=>by rw[O,i9 oM,J,j6 oM]
   obtain⟨H4,S⟩:=eY (H3.push (bC [iV 0,.string eB,.string eB,nS,.string eB] 1));have n4:H4.next=H.next+3:=by rw[S,i5,n3]
   have x4:H4.get (H.next+2)=cE [iV 0,.string eB,.string eB,nS,.string eB] 1:=by rw[S,<-n3];exact i7
   obtain⟨H5,U⟩:=eY (H4.put (H.next+2) (bC D 1));have n5:H5.next=H.next+3:=by rw[U,j5,n4]
   have x5:H5.get (H.next+2)=cE D 1:=by rw[U];exact i8 oM
   have y5:∀j,j<H.next+2->H5.get j=H3.get j:=fun j z=>by rw[U,i9 oM,S,j6 oM]
   have z5:∀j,j<H.next->H5.get j=H.get j:=fun j z=>by rw[y5 j oM,y3 j oM,s1.get j z]
   have s5:i4 H.next H H5:=by
    rw[U,S,O,J];exact s1.trans ((((i4.push oM).trans (i4.put oM)).trans (i4.push (by rw[j5,i5];omega))).trans (i4.put oM))
   obtain⟨v2,h2,H6,g5,c5,d6,s6⟩:=vn (R1 atE) H5 H.next av e.attrs oM (e3.mono (fun j z=>z5 j z) (fun _ h=>h) iF) (k2 e (mG f2));have n6:=s6.next;obtain⟨u,a2⟩:=eY (D.set 3 v2);have b0:u.length=5:=by rw[a2];simp [b3]
   obtain⟨p3,p4,b6⟩:=d6.slice;have g0:Value.oneCell' v2=true:=by rw[b6];rfl
   have d2:v2.cells.toList=[v2]:=by rw[b6];rfl
   have a3:u=[iV e.kind,.string e.space,.string e.loc,v2,.string e.text]:=by rw[a2,a1];rfl
   have i2:u.all oC=true:=by rw[a3,b6];rfl
   have g9:splice D 3 [v2]=u:=by rw[a2,a1];rfl
   have g7:splice [iV 0,.string eB,.string eB,nS,.string eB] 0 D=D:=by rw[a1];rfl
   have i0:y.take 12=y:=List.take_of_length_le oM;have p0:D.take 5=D:=List.take_of_length_le oM;have h9:u.take 5=u:=List.take_of_length_le oM;have x6:=(s6.get (H.next+2) oM).trans x5;obtain⟨H7,W⟩:=eY (H6.put (H.next+2) (bC u 1));have n7:H7.next=H6.next:=by rw[W,j5]
   have x7:H7.get (H.next+2)=cE u 1:=by rw[W];exact i8 oM
   have d3:u[0]?=some (.int .i64 e.kind):=by rw[a3];rfl
   obtain⟨H8,X⟩:=eY (H7.push (bC u 5));have n8:H8.next=H6.next+1:=by rw[X,i5,n7]
   have d1:bsA prog (some 51) H7 1 [(0,.agg u.toArray)]=some (sL H7.next 1 1,H8):=by
    rw[X,a3,b6];simp only[C7,aG,C8];rfl
   have x8:H8.get (H.next+2)=cE u 1:=by rw[X,j6 oM];exact x7
   have b8:=(s1.get hb j1).trans k5;have b9:H3.get lb=some (.cells k9 f0 5):=by rw[y3 lb oM,s1.get lb j2];exact k6
   have l8:=y3 H.next oM;have g3:=l8.trans g1;have y8:∀j,j<H.next+2->H8.get j=H5.get j:=fun j z=>by rw[X,j6 oM,W,i9 oM,s6.get j oM]
   have g8:H8.get H.next=cE y 1:=by rw[y8 _ oM,y5 _ oM];exact g3
   have h8:H8.get (H.next+1)=cE [iV i,iV a,iV b] 1:=by rw[y8 _ oM,y5 _ oM];exact x3
   have z8:∀j,j<H.next->H8.get j=H.get j:=fun j z=>by rw[y8 j oM,z5 j z]
   have e7:H1.low=H.next:=by rw[I];rfl
   have e8:H.next<=H5.low:=by rw[U,A4,S,O7,O,A4,J,O7,e7];omega
   have m5:H.next<=H6.low:=s6.lowAll H.next oM e8;have c0:H.next<=H8.low:=by rw[X,O7,W,A4];omega
   have s8:i4 H.next H H8:=⟨oM,fun k hk q=>oM,z8⟩
   have m4:=rI hg c8 (b+1) b;have m3:=rI hg c8 (a+1) a;have h7:∀i,r.size.getD i 0<=200:=fun i=>by
    rw[List.getD_eq_getElem?_getD];cases hq:r.size[i]? with
    |none=>decide
    |some x=>exact(c8 x (mG hq)).2
   have zb:=h7 (b:Int).toNat;have za:=h7 (a:Int).toNat;have d8:∀Hx:d9,i4 H.next H Hx->aD Hx (· <Hx.next) Rp Rt y r:=fun Hx hx=>j3.mono (fun j z=>hx.get j z) (fun j z=>by have:=hx.next;omega);have O0:jB H.next H8 (sL H7.next 1 1) [e] (fun j=>H5.next<=j/\j<H6.next):=by
    refine⟨⟨u,.inr ⟨H7.next,1,rfl,by rw[X];exact i7,oM,b0⟩,D2.one b0 ⟨v2,a3,d6.slo.mono (fun j z=>?_) (fun _ h=>h)⟩⟩,fun j z=>⟨oM,oM,by rw[I6];omega⟩⟩;rw[X,j6 oM,W,i9 oM]
   have d4:∀(Hc:d9)(w:Value)(l:List EvD)(G:Nat->Prop),i4 H.next H Hc->H.next<=Hc.low->jB H.next Hc w l G->1<=l.length->l.length<=1000->
     ∃v h v' h',CL prog O8 14 [.agg y.toArray,iV (b:Int)] Hc=dr v h/\fb prog (h.getD Hc) [35,35] w v=dr v' h'/\Ret (some (D4 v' H (h'.getD (h.getD Hc)))) H (sw H (l++eD r n b)):=by
    intro Hc w l G sc lc hO l1 l2;have nc:=sc.next;obtain⟨v3,h3,H9,b4,c4,⟨G3,O3⟩,s9⟩:=ih b oM (b:Int) Hc y (by rw[Int.toNat_natCast];exact lR) (d8 Hc sc) a6 E;have n9:=s9.next;obtain⟨v4,h4,i1,ra,l5,O4,b5⟩:=(hO.keep s9).app (x:=v3) (n:=H9.next) O3.own.sl (fun j z=>by
     have:=O3.fr j z;exact⟨oM,this.2.1,fun q=>by have:=(hO.own.lt q).2;omega⟩) oM oM
    have o9:=b5.next;have b5:=b5.stay;refine⟨v3,h3,v4,h4,b4,by rw[c4];exact ra,?_⟩;rw[c4,l5];have k3:eD r (b+1) b=eD r n b:=nR hg _ _ _ (by rw[Int.toNat_natCast];omega) (by rw[Int.toNat_natCast];omega);rw[k3]at O4;have hs:i4 H.next H i1:=sc.trans ((s9.weaken oM).trans b5);refine D7 (fun k7 _=>?_) ⟨⟨_,O4.low _⟩,hs.ret (b5.lowAll _ lR (s9.lowAll _ oM lc))⟩
    exfalso
    obtain⟨m8,j0,m9⟩:=O4.own;rcases j0 with⟨_,h0,_⟩|⟨b',c',rfl,_⟩
    .rw[List.length_append]at h0;omega
    .simp [L0,na1,na0]at k7
   rcases bk:decide (e.kind=1)with _|_
   .have c6:=dF bk;rw[if_neg c6,List.append_nil];obtain⟨v,h,v',h',b4,ra,a4⟩:=d4 H8 _ [e] _ s8 c0 O0 sM sM;refine J30 E I.symm b1 b2 g1 q8 q9 g2 n1 J.symm x2 a8 b8 O.symm n3 (aI x3 g3) (aI b9 a9) (aI S.symm x4) (aI b3 b7) (aI g7 U.symm) (aI x5 e6) (aI g5 c5) (aI x6 g0) (aI d2 g9) (aI W.symm x7) (aI h9 d1) (aI x8 d3) (aI bk g8) (aI h8 i0) (aI b4 ra) ?_;exact a4
   .have c6:=dT bk;rw[if_pos c6];obtain⟨v1,h1,Ha,g4,d0,⟨G1,O1⟩,a7⟩:=ih a oM (a:Int) H8 y (by rw[Int.toNat_natCast];exact lR) (d8 H8 s8) a6 E;have na:=a7.next;obtain⟨v5,h5,Hb,l4,g6,O5,w5⟩:=(O0.keep a7).app (x:=v1) (n:=Ha.next) O1.own.sl (fun j z=>by
     have:=O1.fr j z;exact⟨oM,this.2.1,by rw[I6];omega⟩) (by rw[List.length_singleton];omega) oM
    have nb:=w5.next;obtain⟨Hk,d5,nk,-,sk⟩:=pushE Hb (bC [iV 3,.string eB,.string eB,nS,.string eB] 5);have i3:bsA prog (some 51) Hb 1 [(0,.agg #[iV 3,.string eB,.string eB,nS,.string eB])]=some (sL Hb.next 1 1,Hk):=by
     rw[d5];simp only[C7,aG,C8];rfl
    have Ok:t7 Hk H.next 5 (EvO Hk fun _=>False) (sL Hb.next 1 1) [zI]:=by
     rw[d5];exact t7.fresh rfl oM (D2.one rfl ⟨_,rfl,.inl ⟨rfl,rfl⟩⟩)
    obtain⟨v6,h6,Hd,rc,l6,O6,w6⟩:=(O5.keep sk).app (x:=sL Hb.next 1 1) (n:=Hk.next) (G2:=fun _=>False) Ok.sl (fun j z=>z.elim) (by simp only[List.length_append,List.length_singleton];omega) oM;have nd:=w6.next;have sd:i4 H.next H Hd:=s8.trans ((a7.weaken oM).trans (w5.stay.trans ((sk.weaken oM).trans w6.stay)));have e9:H.next<=Hd.low:=w6.stay.lowAll _ lR (sk.lowAll _ oM (w5.stay.lowAll _ lR (a7.lowAll _ oM c0)));have yd:∀j,j<H.next+2->Hd.get j=H8.get j:=fun j z=>by
     have e5:¬j9 v5 j:=fun q=>by
      rcases w5.new j q with q|q
      .rw[I6]at q;omega
      .omega
     rw[w6.but j oM e5,sk.get j oM,w5.but j oM (by rw[I6];omega),a7.get j oM]
    have gd:=(yd H.next oM).trans g8;have hd:=(yd (H.next+1) oM).trans h8;have ga:Ha.get (H.next+1)=cE [iV i,iV a,iV b] 1:=(a7.get _ oM).trans h8;obtain⟨v,h,v',h',b4,ra,a4⟩:=d4 Hd v6 _ _ sd e9 O6 (by simp only[List.length_append,List.length_singleton];omega) (by simp only[List.length_append,List.length_singleton];omega);have k1:eD r (a+1) a=eD r n a:=nR hg _ _ _ (by rw[Int.toNat_natCast];omega) (by rw[Int.toNat_natCast];omega);rw[k1,List.append_assoc [e]]at a4;refine J30 E I.symm b1 b2 g1 q8 (aI q9 g2) (aI n1 J.symm) (aI x2 a8) (aI b8 O.symm) (aI n3 x3) (aI g3 b9) (aI a9 S.symm) (aI x4 b3) (aI b7 g7) (aI U.symm x5) (aI e6 g5) (aI c5 x6) (aI g0 d2) (aI g9 W.symm) (aI x7 h9) (aI d1 x8) (aI d3 bk) (aI g8 h8) (aI i0 g4) (aI d0 l4) (aI g6 i3) (aI rc l6) (aI gd hd) (aI b4 ra) ?_;exact a4
  .rw[if_pos (.inr (dT b2))];refine J6 E I.symm b1 b2 g1 q9 ?_;have c7:H.next<=H1.low:=by rw[I];exact lR
   refine D7 (fun _ _=>c3) ?_;exact⟨⟨fun _=>False,⟨[],.inl ⟨rfl,rfl,rfl⟩,D2.nil⟩,fun j z=>z.elim⟩,s1.ret c7⟩
 .rw[if_pos (.inl (dT b1))];refine J3 E I.symm b1 ?_;have c7:H.next<=H1.low:=by rw[I];exact lR
  refine D7 (fun _ _=>c3) ?_;exact⟨⟨fun _=>False,⟨[],.inl ⟨rfl,rfl,rfl⟩,D2.nil⟩,fun j z=>z.elim⟩,s1.ret c7⟩
def rn(r:ReD)(e:EvD)(f n:Int):Int:=if iH r.sorts e.kind f n then ixG (fun y=>fo (Y8 r.strat e (r.sorts.getD f.toNat soZ) (r.sorts.getD n.toNat soZ)) y) r.sorts 0 else -1
theorem Bv(Hs:d9)(lo K:Nat)(r:ReD)(N:Nat)(z:WfR r N)(H:d9)(u:LV)(hR:aD H (· <H.next) (QR Hs lo K false) (QR Hs lo K true) u r)(g3:lo<=H.next)(b8:∀j,j<lo->H.get j=Hs.get j) (D:u.all oC=true) (el:LV) (e:EvD) (he:EvF H (· <H.next) el e) (b7:e.attrs.length<=1000000) (f n:Int):
  CL prog O8 18 [.agg u.toArray,.agg el.toArray,iV f,iV n] H=some (.int .i64 (rn r e f n),none):=by
 obtain⟨rs,vl,w1,w2,w3,I,a8,g0,c7,g4,f1⟩:=hR;obtain⟨pa,pc,ga,gc,xa,xc,ea,ec,ta,tc,c5,_⟩:=N3 a8;have b2:rs.length=8:=by rw[c5];rfl
 have b1:u.length=12:=by rw[I];simp [b2]
 have q9:u[9]?=some w1:=by rw[I,List.getElem?_append_right oM,b2];rfl
 obtain⟨av,X,c6⟩:=id he;have c9:el.length=5:=by rw[X];rfl
 have W:el.all oC=true:=by
  obtain⟨aa,ac,rfl⟩:=c6.slice;rw[X];rfl
 have b4:el[0]?=some (.int .i64 e.kind):=by rw[X];rfl
 have d0:u.take 12=u:=List.take_of_length_le oM;have b3:el.take 5=el:=List.take_of_length_le oM;have c8:ldC (some true) (some 8) 0 u=some (.agg rs.toArray):=by
  rw[aA1 _ _ _ oM,I,List.drop_zero,List.take_append_of_le_length oM,List.take_of_length_le oM]
 obtain⟨H1,E,n1,-⟩:=pushF H (bC u 1);obtain⟨H2,y⟩:=eY (H1.push (bC el 1));have n2:H2.next=H.next+2:=by rw[y,i5,n1]
 have hS:i4 H.next H H2:=by rw[y,E];exact(i4.first H _).trans (i4.push (by rw[i5];exact Nat.le_succ _))
 have g1:H2.get H.next=cE u 1:=by rw[y,j6 oM,E];exact i7
 have g2:H2.get (H.next+1)=cE el 1:=by rw[y,<-n1];exact i7
 have d3:H2.low=H.next:=by rw[y,E];rfl
 have J:SlI H2 H2.next 3 (R1 soE) w1 r.sorts:=c7.mono (fun j S=>hS.get j S) (fun j S=>oM) iF;have U:=GG H2 H.next u true 1 g1 r.sorts w1 J q9 el e c9 W b4 f n;rw[j8 aa7 rfl _ sM,rn];rcases bm:iH r.sorts e.kind f n with _|_
 .rw[bm]at U;exact J8 D W E.symm n1 y.symm g2 b3 U trivial
 .rw[bm]at U;have a3:=bm;simp only[iH,knB,Bool.and_eq_true,decide_eq_true_eq]at a3;obtain⟨⟨⟨e5,e6⟩,e7,e8⟩,_⟩:=a3;have O:=J;obtain⟨sa,sc,rfl⟩:=J.slice;obtain⟨fi,g5,oa,d6,d4,b5,a9,_,e1,e3,a4,d1,a1,e9,c0⟩:=O.row (i:=f.toNat) oM;obtain⟨ne,g6,ob,d8,d5,b6,b0,_,e2,e4,a6,d2,a2,f0,c4⟩:=O.row (i:=n.toNat) oM;obtain rfl:b5=soE fi:=c0;obtain rfl:b6=soE ne:=c4;subst e1;cases e2;rw[a4]at a6;cases a6;have a5:r.sorts.getD f.toNat soZ=fi:=by rw[List.getD_eq_getElem?_getD,a9];rfl
  have a7:r.sorts.getD n.toNat soZ=ne:=by rw[List.getD_eq_getElem?_getD,b0];rfl
  have c3:=nu Hs lo K r.strat e fi ne (· <H.next) H2 rs el (a8.mono (fun j S=>hS.get j S) (fun _ h=>h) iF iF) (w9 _ _ _ _ _ _ he (fun j S=>hS.get j S) (fun _ h=>h)) (fun j S=>oM) (fun j S=>by rw[hS.get j oM];exact b8 j S) oM N z.n0 z.st (z.so fi (mG a9)) (z.so ne (mG b0)) b7 z.sz;have f2:=z.l1;have b9:=tv H2 u r.sorts _ O b1 D q9 oM (Y8 r.strat e fi ne);rw[a5,a7];exact J17 D W E.symm n1 y.symm g1 g2 b3 d0 U c8 q9 a4 a1 a2 c3 b9 trivial
end Go.Proofs.YtofbhlhamfkljaaGreatDoor.Ve
namespace Go.Proofs.YtofbhlhamfkljaaGreatDoor.Ve
open Go Ab
abbrev YV:=cC (T 13) (cR [N 14 (cf 9 #[] #[]),A 2 14]) .skip
abbrev YW:=cR [M 25 4,M 26 6,N 27 (bo .eql 3 25 26 3),M 28 27,Y 28 29 (ld' 39 3),Y 28 30 (ld' 39 5),Y 28 31 (c2 13 29 30 39 39),N 32 (pa 28 31),A 2 32]
abbrev YX:=cX [L 21 25 1,N 22 (c1 12 21 25),M 20 22,N 23 (ex 20 0),N 24 (ex 20 1),N 5 (.alloc 39),V (st' 39 5 23),A 6 24] YW
abbrev YY:=cX [L 16 25 1,N 17 (c1 11 16 25),M 15 17,N 18 (ex 15 0),N 19 (ex 15 1),N 3 (.alloc 39),V (st' 39 3 18),A 4 19] YX
abbrev YZ:=cS (cX [N 7 (cf 9 #[] #[]),N 8 (nt' 4 7),M 9 8,Z 9 10 (ld' 25 1),Z 9 11 (c1 10 10 25),Z 9 12 (nt' 4 11),N 13 (po 9 12)] YV) YY
abbrev f3:=cX [N 1 (bx 25 0),N 2 (.assign B0)] YZ
theorem fn3:fE 3 f3 33 [.tmp 2]:=fR
abbrev Zc:=cC (T 15) (cR [N 16 (cf 9 #[] #[]),A 2 16]) .skip
abbrev Zd:=cO [M 49 8,N 50 (iN 49),A 8 50]
abbrev Ze:=cS (cB 3 (cO [M 51 6,M 52 7,N 53 (ia 35 51 52),F 54 51 53 2,L 55 49 54,M 56 8,N 57 (ia 49 55 56),F 58 53 57 1,V (.store 9 (T 58) (.const (.string ⟨#[115,112,111,105,108,116]⟩)))])) Zd
abbrev Za:=cS (cX [M 41 8,M 42 6,M 43 7,N 44 (ia 35 42 43),F 45 51 44 2,L 46 49 45,N 47 (ln 46 49),N 48 (bo .lss 3 41 47 3)] (cC (T 48) .skip (.exit 2))) Ze
abbrev Zf:=cO [M 35 7,N 36 (iN 35),A 7 36]
abbrev Zg:=cS (cB 1 (cX [M 37 6,M 38 7,N 39 (ia 35 37 38),F 40 51 39 3,V (.store 9 (T 40) (.const (.string ⟨#[115,112,111,105,108,116]⟩)))] (cX [N 8 (ak 0)] (cW 2 Za)))) Zf
abbrev Zb:=cS (cX [M 31 7,M 32 6,N 33 (ln 32 35),N 34 (bo .lss 3 31 33 3)] (cC (T 34) .skip (.exit 0))) Zg
abbrev Zh:=cS (.mix [m1 (L 59 39 3),m0 (M 60 5),m3 (N 61 (c2 14 59 60 39 3)) 0 1,⟨L 62 39 3,false,true,0,1⟩,m2 (M 63 5) 0 1,m3 (N 64 (c2 16 62 63 39 3)) 1 2,m3 (N 65 (c2 15 61 64 35 35)) 2 3,m2 (A 2 65) 3 3]) .ret
abbrev Zi:=cX [L 28 39 3,M 29 5,N 30 (c2 14 28 29 39 3),A 6 30] (cS (cX [N 7 (ak 0)] (cW 0 Zb)) Zh)
abbrev Zj:=cX [F 24 39 3 2,L 25 36 24,N 26 (ln 25 36),N 27 (bk .sub 3 26 1 3),A 5 27] Zi
abbrev Zk:=cS (cX [M 22 4,N 23 (bk .neq 40 22 0 40)] (cC (T 23) (cR [N 2 (.assign B1)]) .skip)) Zj
abbrev Zl:=cX [L 18 25 1,N 19 (c1 11 18 25),M 17 19,N 20 (ex 17 0),N 21 (ex 17 1),N 3 (.alloc 39),V (st' 39 3 20),A 4 21] Zk
abbrev RI:=cS (cX [N 9 (cf 9 #[] #[]),N 10 (nt' 4 9),M 11 10,Z 11 12 (ld' 25 1),Z 11 13 (c1 10 12 25),Z 11 14 (nt' 4 13),N 15 (po 11 14)] Zc) Zl
abbrev f4:=cX [N 1 (bx 25 0),N 2 (.assign B0)] RI
abbrev Zm:=cC (T 13) (cR [N 14 (cf 9 #[] #[]),A 2 14]) .skip
abbrev Zn:=cS (.draw [yF (L 114 39 3),yF (F 115 39 3 1),yF (L 116 35 115),yF (F 117 56 6 0),yF (L 118 3 117),yF (N 119 (ia 35 116 118)),yF (L 120 51 119),yF (F 121 56 6 1),yF (L 122 3 121),yF (F 123 56 6 2),yF (L 124 3 123),yF (N 125 (cf 18 #[T 114,T 120,T 122,T 124] #[39,51,3,3])),yF (M 126 5),yT (N 127 (bo .neq 3 125 126 3))]) (cC (T 127) (cR [N 2 (.assign B0)]) .skip)
abbrev Zo:=cS (cS (.draw [yF (F 34 56 6 1),yF (L 35 3 34),yF (N 36 (bk .lss 3 35 0 3)),yF (M 37 36),yF (Z 37 38 (fa 56 6 1)),yF (Z 37 39 (ld' 3 38)),yF (Z 37 40 (mv 5)),yF (Z 37 41 (bo .geq 3 39 40 3)),yF (N 42 (po 37 41)),yF (M 43 42),yF (Z 43 44 (fa 56 6 2)),yF (Z 43 45 (ld' 3 44)),yF (Z 43 46 (bk .lss 3 45 0 3)),yF (N 47 (po 43 46)),yF (M 48 47),yF (Z 48 49 (fa 56 6 2)),yF (Z 48 50 (ld' 3 49)),yF (Z 48 51 (mv 5)),yF (Z 48 52 (bo .geq 3 50 51 3)),yF (N 53 (po 48 52)),yF (M 54 53),yF (Z 54 55 (fa 56 6 0)),yF (Z 54 56 (ld' 3 55)),yF (Z 54 57 (bk .lss 3 56 0 3)),yF (N 58 (po 54 57)),yF (M 59 58),yF (Z 59 60 (fa 56 6 0)),yF (Z 59 61 (ld' 3 60)),yF (Z 59 62 (fa 39 3 1)),yF (Z 59 63 (ld' 35 62)),yF (Z 59 64 (ln 63 35)),yF (Z 59 65 (bo .geq 3 61 64 3)),yF (N 66 (po 59 65)),yF (M 67 66),yF (Z 67 68 (fa 39 3 3)),yF (Z 67 69 (ld' 29 68)),yF (Z 67 70 (mv 5)),yF (Z 67 71 (ia 29 69 70)),yF (Z 67 72 (ld' 3 71)),yF (Z 67 73 (fa 39 3 3)),yF (Z 67 74 (ld' 29 73)),yF (Z 67 75 (fa 56 6 1)),yF (Z 67 76 (ld' 3 75)),yF (Z 67 77 (ia 29 74 76)),yF (Z 67 78 (ld' 3 77)),yF (Z 67 79 (fa 39 3 3)),yF (Z 67 80 (ld' 29 79)),yF (Z 67 81 (fa 56 6 2)),yF (Z 67 82 (ld' 3 81)),yF (Z 67 83 (ia 29 80 82)),yF (Z 67 84 (ld' 3 83)),yF (Z 67 85 (bo .add 3 78 84 3)),yF (Z 67 86 (iN 85)),yF (Z 67 87 (bo .neq 3 72 86 3)),yF (N 88 (po 67 87)),yF (M 89 88),yF (Z 89 90 (fa 39 3 3)),yF (Z 89 91 (ld' 29 90)),yF (Z 89 92 (mv 5)),yF (Z 89 93 (ia 29 91 92)),yF (Z 89 94 (ld' 3 93)),yF (Z 89 95 (fa 39 3 3)),yF (Z 89 96 (ld' 29 95)),yF (Z 89 97 (mv 5)),yF (Z 89 98 (bk .sub 3 97 1 3)),yF (Z 89 99 (ia 29 96 98)),yF (Z 89 100 (ld' 3 99)),yF (Z 89 101 (bo .lss 3 94 100 3)),yF (N 102 (po 89 101)),yF (M 103 102),yF (Z 103 104 (ld' 39 3)),yF (Z 103 105 (fa 39 3 2)),yF (Z 103 106 (ld' 36 105)),yF (Z 103 107 (mv 5)),yF (Z 103 108 (ia 36 106 107)),yF (Z 103 109 (ld' 59 108)),yF (Z 103 110 (c2 17 104 109 39 59)),yF (Z 103 111 (mv 5)),yT (Z 103 112 (bo .neq 3 110 111 3)),yT (N 113 (po 103 112))]) (cC (T 113) (cR [N 2 (.assign B0)]) .skip)) Zn
abbrev Zp:=cO [M 27 5,N 28 (iN 27),A 5 28]
abbrev Zq:=cS (cB 1 (cX [F 29 39 3 4,L 30 37 29,M 31 5,N 32 (ia 37 30 31),L 33 56 32,N 6 (.alloc 56),V (st' 56 6 33)] Zo)) Zp
abbrev SL:=cS (cX [M 22 5,F 23 39 3 2,L 24 36 23,N 25 (ln 24 36),N 26 (bo .lss 3 22 25 3)] (cC (T 26) .skip (.exit 0))) Zq
abbrev Zr:=cR [F 128 39 3 2,L 129 36 128,N 130 (ln 129 36),N 131 (bk .leq 3 130 25 3),M 132 131,Y 132 133 (fa 39 3 2),Y 132 134 (ld' 36 133),Y 132 135 (.indexAddr 36 (T 134) (K 0)),Y 132 136 (ld' 59 135),Y 132 137 (.build 59 #[]),Y 132 138 (bo .eql 59 136 137 59),N 139 (pa 132 138),A 2 139]
abbrev Zs:=cS (cX [M 20 4,N 21 (bk .neq 40 20 0 40)] (cC (T 21) (cR [N 2 (.assign B1)]) .skip)) (cS (cX [N 5 (ak 1)] (cW 0 SL)) Zr)
abbrev Zt:=cX [L 16 25 1,N 17 (c1 11 16 25),M 15 17,N 18 (ex 15 0),N 19 (ex 15 1),N 3 (.alloc 39),V (st' 39 3 18),A 4 19] Zs
abbrev Zu:=cS (cX [N 7 (cf 9 #[] #[]),N 8 (nt' 4 7),M 9 8,Z 9 10 (ld' 25 1),Z 9 11 (c1 10 10 25),Z 9 12 (nt' 4 11),N 13 (po 9 12)] Zm) Zt
abbrev f5:=cX [N 1 (bx 25 0),N 2 (.assign B0)] Zu
abbrev Zv:=cC (T 28) (cR [N 29 (cf 9 #[] #[]),A 10 29]) .skip
abbrev Zw:=cX [M 97 14,N 98 (bk .lss 3 97 0 3)] (cC (T 98) (cR [N 10 (.assign B0)]) .skip)
abbrev Zx:=cC (T 79) (cS (.mix [m2 (F 80 39 11 2) 0 1,⟨L 81 36 80,false,true,0,1⟩,m0 (F 82 39 11 0),m1 (L 83 34 82),m1 (L 84 51 6),m0 (F 85 39 11 2),m1 (L 86 36 85),m0 (M 87 2),m0 (N 88 (ia 36 86 87)),m1 (L 89 59 88),m0 (F 90 39 11 2),m1 (L 91 36 90),m0 (M 92 3),m0 (N 93 (ia 36 91 92)),m1 (L 94 59 93),m3 (N 95 (cf 21 #[T 83,T 84,T 89,T 94] #[34,51,59,59])) 0 1,m3 (N 96 (c2 20 81 95 36 59)) 1 2,m2 (A 14 96) 2 2]) Zw) .skip
abbrev Zy:=cS (.mix [m1 (L 100 39 11),m1 (L 101 51 6),m0 (M 102 2),m0 (M 103 3),m3 (N 104 (cf 18 #[T 100,T 101,T 102,T 103] #[39,51,3,3])) 0 1,m2 (M 105 14) 0 1,m2 (N 106 (bo .eql 3 104 105 3)) 1 1,m2 (M 107 106) 1 1,⟨Y 107 108 (ld' 39 11),false,true,1,1⟩,⟨Y 107 109 (ld' 51 6),false,true,1,1⟩,m2 (Y 107 110 (mv 3)) 1 1,m3 (Y 107 111 (cf 22 #[T 108,T 109,T 110] #[39,51,3])) 1 2,m2 (Y 107 112 (mv 15)) 1 2,m2 (Y 107 113 (bo .eql 4 111 112 4)) 2 2,m2 (N 114 (pa 107 113)) 2 2,m2 (M 115 114) 2 2,⟨Y 115 116 (ld' 39 11),false,true,2,2⟩,m2 (Y 115 117 (mv 4)) 2 2,m3 (Y 115 118 (c2 14 116 117 39 3)) 2 3,⟨Y 115 119 (ld' 39 11),false,true,2,3⟩,m2 (Y 115 120 (mv 4)) 2 3,m3 (Y 115 121 (c2 16 119 120 39 3)) 3 4,m3 (Y 115 122 (c2 15 118 121 35 35)) 4 5,m2 (N 123 (pa 115 122)) 5 5,m2 (M 124 123) 5 5,⟨Y 124 125 (ld' 39 11),false,true,5,5⟩,⟨Y 124 126 (ld' 59 16),false,true,5,5⟩,m3 (Y 124 127 (c2 17 125 126 39 59)) 5 6,m2 (Y 124 128 (fa 39 11 2)) 5 6,⟨Y 124 129 (ld' 36 128),false,true,5,6⟩,⟨Y 124 130 (ld' 59 16),false,true,5,6⟩,m3 (Y 124 131 (c2 20 129 130 36 59)) 6 7,m2 (Y 124 132 (bo .eql 3 127 131 3)) 7 7,m2 (N 133 (pa 124 132)) 7 7,m2 (A 10 133) 7 7]) .ret
abbrev Zz:=cX [N 99 (.build 59 {toList:=[(0,B1),(2,.const (.string ⟨#[120]⟩))]}),N 16 (.alloc 59),V (st' 59 16 99)] Zy
abbrev ZA:=cS (cX [M 61 15,M 62 61,Y 62 63 (mv 2),Y 62 64 (bk .geq 3 63 0 3),N 65 (pa 62 64),M 66 65,Y 66 67 (mv 2),Y 66 68 (mv 13),Y 66 69 (bo .lss 3 67 68 3),N 70 (pa 66 69),M 71 70,Y 71 72 (fa 51 6 0),Y 71 73 (ld' 3 72),Y 71 74 (bk .eql 3 73 1 3),Y 71 75 (mv 74),Z 75 76 (mv 2),Z 75 77 (bk .eql 3 76 0 3),Y 71 78 (po 75 77),N 79 (pa 71 78)] Zx) Zz
abbrev ZB:=cX [M 40 3,N 41 (bk .geq 3 40 0 3),M 42 41,Y 42 43 (mv 3),Y 42 44 (mv 13),Y 42 45 (bo .lss 3 43 44 3),N 46 (pa 42 45),M 47 46,Y 47 48 (fa 51 6 0),Y 47 49 (ld' 3 48),Y 47 50 (bk .eql 3 49 1 3),Y 47 51 (mv 50),Z 51 52 (fa 39 11 2),Z 51 53 (ld' 36 52),Z 51 54 (mv 3),Z 51 55 (ia 36 53 54),Z 51 56 (fa 59 55 1),Z 51 57 (ld' 4 56),Z 51 58 (nt' 4 57),Y 47 59 (po 51 58),N 60 (pa 47 59),A 15 60] ZA
abbrev ZC:=cX [F 37 39 11 2,L 38 36 37,N 39 (ln 38 36),A 13 39] (cX [N 14 (ak (-1))] ZB)
abbrev ZD:=cS (cX [M 35 12,N 36 (bk .neq 40 35 0 40)] (cC (T 36) (cR [N 10 (.assign B1)]) .skip)) ZC
abbrev ZE:=cX [L 31 25 5,N 32 (c1 11 31 25),M 30 32,N 33 (ex 30 0),N 34 (ex 30 1),N 11 (.alloc 39),V (st' 39 11 33),A 12 34] ZD
abbrev Ty:=cS (cX [N 17 (cf 9 #[] #[]),N 18 (nt' 4 17),M 19 18,Z 19 20 (ld' 25 5),Z 19 21 (c1 10 20 25),Z 19 22 (nt' 4 21),N 23 (po 19 22),M 24 23,Z 24 25 (ld' 51 6),Z 24 26 (c1 19 25 51),Z 24 27 (nt' 4 26),N 28 (po 24 27)] Zv) ZE
abbrev f6:=cX [N 5 (bx 25 0),N 6 (bx 51 1),N 10 (.assign B0)] Ty
abbrev ZG:=cC (T 15) (cR [N 16 (cf 9 #[] #[]),A 2 16]) .skip
abbrev ZH:=cC (T 23) (cR [M 24 4,N 25 (bk .eql 40 24 13 40),M 26 25,Y 26 27 (fa 39 3 2),Y 26 28 (ld' 36 27),Y 26 29 (ln 28 36),Y 26 30 (bk .eql 3 29 0 3),N 31 (pa 26 30),A 2 31]) .skip
abbrev ZI:=cS (.draw [yF (M 75 5),yF (N 76 (bk .gtr 3 75 0 3)),yF (M 77 76),yF (Y 77 78 (mv 8)),yF (Y 77 79 (.indexAddr 36 (T 78) (K 1))),yF (Y 77 80 (ld' 59 79)),yF (Y 77 81 (fa 39 3 2)),yF (Y 77 82 (ld' 36 81)),yF (Y 77 83 (mv 5)),yF (Y 77 84 (ia 36 82 83)),yF (Y 77 85 (ld' 59 84)),yT (Y 77 86 (bo .neq 59 80 85 59)),yT (N 87 (pa 77 86))]) (cC (T 87) (cR [N 2 (.assign B0)]) .skip)
abbrev ZJ:=cS (cX [M 58 8,N 59 (ln 58 36),F 60 39 3 3,L 61 29 60,M 62 5,N 63 (ia 29 61 62),L 64 3 63,N 65 (iN 64),N 66 (bo .neq 3 59 65 3),M 67 66,Z 67 68 (mv 5),Z 67 69 (bk .eql 3 68 0 3),Z 67 70 (mv 6),Z 67 71 (ln 70 35),Z 67 72 (bk .eql 3 71 0 3),Z 67 73 (bo .neq 4 69 72 4),N 74 (po 67 73)] (cC (T 74) (cR [N 2 (.assign B0)]) .skip)) ZI
abbrev ZK:=cS (cX [F 52 39 3 3,L 53 29 52,M 54 5,N 55 (ia 29 53 54),L 56 3 55,N 57 (bk .gtr 3 56 40 3)] (cC (T 57) (.exit 1) .skip)) ZJ
abbrev ZL:=cX [F 48 39 3 0,L 49 34 48,M 50 7,N 51 (c2 24 49 50 34 35),A 8 51] ZK
abbrev ZM:=cX [M 46 6,N 47 (c1 23 46 35),A 7 47] ZL
abbrev ZN:=cO [M 41 5,N 42 (iN 41),A 5 42]
abbrev ZO:=cS (cB 1 (cX [L 43 39 3,M 44 5,N 45 (c2 14 43 44 39 3),A 6 45] ZM)) ZN
abbrev ZF:=cS (cX [M 32 5,F 33 39 3 2,L 34 36 33,N 35 (ln 34 36),N 36 (bo .lss 3 32 35 3),M 37 36,Y 37 38 (mv 5),Y 37 39 (bk .lss 3 38 12 3),N 40 (pa 37 39)] (cC (T 40) .skip (.exit 0))) ZO
abbrev ZP:=cS (cX [N 5 (ak 0)] (cW 0 ZF)) (cR [N 2 (.assign B1)])
abbrev Uj:=cS (cX [M 22 4,N 23 (bk .neq 40 22 0 40)] ZH) ZP
abbrev Uk:=cX [L 18 25 1,N 19 (c1 11 18 25),M 17 19,N 20 (ex 17 0),N 21 (ex 17 1),N 3 (.alloc 39),V (st' 39 3 20),A 4 21] Uj
abbrev Ul:=cS (cX [N 9 (cf 9 #[] #[]),N 10 (nt' 4 9),M 11 10,Z 11 12 (ld' 25 1),Z 11 13 (c1 10 12 25),Z 11 14 (nt' 4 13),N 15 (po 11 14)] ZG) Uk
abbrev f7:=cX [N 1 (bx 25 0),N 2 (.assign B0)] Ul
abbrev ZR:=cC (T 35) (cR [N 36 (cf 9 #[] #[]),A 4 36]) .skip
abbrev ZS:=cC (T 82) (.mix [⟨L 83 39 5,false,true,0,1⟩,m2 (M 84 7) 0 1,m0 (M 85 1),m0 (M 86 9),m0 (N 87 (iN 86)),m3 (N 88 (c2 27 85 87 35 3)) 0 1,m2 (N 89 (ia 36 84 88)) 1 1,⟨L 90 59 89,false,true,1,1⟩,m3 (N 91 (c2 17 83 90 39 59)) 1 2,m2 (A 10 91) 2 2]) .skip
abbrev ZT:=cC (T 104) (.mix [⟨L 105 39 5,false,true,0,1⟩,m2 (M 106 7) 0 1,m0 (M 107 1),m0 (M 108 12),m3 (N 109 (c2 27 107 108 35 3)) 0 1,m2 (N 110 (ia 36 106 109)) 1 1,⟨L 111 59 110,false,true,1,1⟩,m3 (N 112 (c2 17 105 111 39 59)) 1 2,m2 (A 11 112) 2 2]) .skip
abbrev ZU:=cS (.draw [yF (M 121 13),yF (N 122 (bk .lss 3 121 1 3)),yF (M 123 122),yF (Z 123 124 (mv 10)),yF (Z 123 125 (bk .lss 3 124 0 3)),yF (N 126 (po 123 125)),yF (M 127 126),yF (Z 127 128 (mv 11)),yF (Z 127 129 (bk .lss 3 128 0 3)),yF (N 130 (po 127 129)),yF (M 131 130),yF (Z 131 132 (ld' 39 5)),yF (Z 131 133 (mv 1)),yF (Z 131 134 (mv 9)),yF (Z 131 135 (ia 35 133 134)),yF (Z 131 136 (ld' 51 135)),yF (Z 131 137 (mv 10)),yF (Z 131 138 (mv 11)),yF (Z 131 139 (cf 18 #[T 132,T 136,T 137,T 138] #[39,51,3,3])),yF (Z 131 140 (mv 13)),yT (Z 131 141 (bo .neq 3 139 140 3)),yT (N 142 (po 131 141))]) (cC (T 142) (cR [N 4 (.assign B0)]) .skip)
abbrev ZV:=cS (.mix [⟨L 113 39 5,false,true,0,1⟩,m2 (M 114 7) 0 1,m0 (M 115 1),m0 (M 116 9),m3 (N 117 (c2 27 115 116 35 3)) 0 1,m2 (N 118 (ia 36 114 117)) 1 1,⟨L 119 59 118,false,true,1,1⟩,m3 (N 120 (c2 17 113 119 39 59)) 1 2,m2 (A 13 120) 2 2]) ZU
abbrev ZW:=cS (cX [M 95 9,N 96 (bk .gtr 3 95 0 3),M 97 96,Y 97 98 (mv 1),Y 97 99 (mv 12),Y 97 100 (ia 35 98 99),Y 97 101 (fa 51 100 0),Y 97 102 (ld' 3 101),Y 97 103 (bk .neq 3 102 3 3),N 104 (pa 97 103)] ZT) ZV
abbrev ZX:=cX [M 92 1,M 93 9,N 94 (c2 28 92 93 35 3),A 12 94] ZW
abbrev ZY:=cS (cX [M 68 1,M 69 9,N 70 (ia 35 68 69),F 71 51 70 0,L 72 3 71,N 73 (bk .eql 3 72 1 3),M 74 73,Y 74 75 (mv 1),Y 74 76 (mv 9),Y 74 77 (iN 76),Y 74 78 (ia 35 75 77),Y 74 79 (fa 51 78 0),Y 74 80 (ld' 3 79),Y 74 81 (bk .neq 3 80 3 3),N 82 (pa 74 81)] ZS) (cX [N 11 (ak 0)] ZX)
abbrev ZZ:=cO [M 60 9,N 61 (iN 60),A 9 61]
abbrev aa0:=cS (cB 1 (cS (cX [M 62 1,M 63 9,N 64 (ia 35 62 63),F 65 51 64 0,L 66 3 65,N 67 (bk .eql 3 66 3 3)] (cC (T 67) (.exit 1) .skip)) (cX [N 10 (ak 0)] ZY))) ZZ
abbrev ZQ:=cS (cX [M 56 9,M 57 1,N 58 (ln 57 35),N 59 (bo .lss 3 56 58 3)] (cC (T 59) .skip (.exit 0))) aa0
abbrev Vf:=cS (cX [N 9 (ak 0)] (cW 0 ZQ)) (cR [N 4 (.assign B1)])
abbrev Vg:=cS (cX [M 52 7,N 53 (ln 52 36),M 54 8,N 55 (bo .neq 3 53 54 3)] (cC (T 55) (cR [N 4 (.assign B0)]) .skip)) Vf
abbrev Vh:=cX [M 48 1,M 49 1,N 50 (ln 49 35),N 51 (c2 27 48 50 35 3),A 8 51] Vg
abbrev Vi:=cX [F 44 39 5 0,L 45 34 44,M 46 1,N 47 (c2 24 45 46 34 35),A 7 47] Vh
abbrev Vj:=cS (cX [M 42 6,N 43 (bk .neq 40 42 0 40)] (cC (T 43) (cR [N 4 (.assign B1)]) .skip)) Vi
abbrev Vk:=cX [L 38 25 2,N 39 (c1 11 38 25),M 37 39,N 40 (ex 37 0),N 41 (ex 37 1),N 5 (.alloc 39),V (st' 39 5 40),A 6 41] Vj
abbrev Vl:=cS (cX [N 14 (cf 9 #[] #[]),N 15 (nt' 4 14),M 16 15,Z 16 17 (ld' 25 2),Z 16 18 (c1 10 17 25),Z 16 19 (nt' 4 18),N 20 (po 16 19),M 21 20,Z 21 22 (mv 1),Z 21 23 (ln 22 35),Z 21 24 (bk .gtr 3 23 40 3),N 25 (po 21 24),M 26 25,Z 26 27 (mv 1),Z 26 28 (c1 25 27 35),Z 26 29 (nt' 4 28),N 30 (po 26 29),M 31 30,Z 31 32 (mv 1),Z 31 33 (c1 26 32 35),Z 31 34 (nt' 4 33),N 35 (po 31 34)] ZR) Vk
abbrev f8:=cX [N 2 (bx 25 0),N 4 (.assign B0)] Vl
end Go.Proofs.YtofbhlhamfkljaaGreatDoor.Ve
namespace Go.Proofs.YtofbhlhamfkljaaGreatDoor.Ve
open Go Go.RowKit
open Go.Proofs.Tryz (prog)
def q0:Q:= .mk 1 eB eB eB [] []
noncomputable def l0:List EvD:=(S8 (spQ q0)).getD []
noncomputable def r0:ReD:=⟨D0 q0,l0,[(false,false,eB),(true,false,eB),(true,true,eB)],[0,1,1],[(0,0,0),(0,0,0),(1,0,0)]⟩
theorem GF:rg q0=some r0:=kR
theorem row0:(eD r0 2 1).length=2:=kR
theorem Wp:ixG (fun y=>fo soZ y) r0.sorts 0=0:=kR
theorem EX(H:d9)(lo k:Nat)(cs:LV)(q:Q)(W:lo<=H.next)(E:QR H lo k false cs q)(y:ey q=true->OkD false q/\nQ q<=1000):
  CL prog O8 10 [.agg cs.toArray] H=some (.bool (ey q&&jQ q),none):=by
 have O:=F0 E;have ldc:=M8 E;have l0:=E.len;simp only[qSz,bF]at l0;rw[l0]at ldc;obtain⟨D,u,n1,S,s1⟩:=pushF H (bC cs 1);have U:D.low=H.next:=by rw[u];rfl
 have z:QR D lo k false cs q:=E.mono (fun j hj=>s1.get j oM) lR;have h:=uz D lo k cs q oM z;rw[j8 aa3 rfl _ sM];rcases b:ey q with _|_
 .rw[b]at h;exact J5 O u.symm S ldc h trivial
 .rw[b]at h;obtain⟨J,X⟩:=y b;have I:=ux D lo k cs q oM z J X;exact J6 O u.symm S ldc h I trivial
theorem GW(H:d9):CL prog fK 9 [] H=some (.bool true,none):=by
 have hq:QR ⟨H.bs,H.next⟩ 0 1 false [iV 1,nS,nS] q0:=⟨_,_,rfl,.inl ⟨rfl,rfl⟩,.inl ⟨rfl,rfl⟩,by decide,by decide,by decide,by decide,by decide,fun _=>⟨rfl,rfl,rfl⟩⟩
 have f0:OkD false q0:=⟨1,kR⟩
 obtain⟨v,h,S,g4,c6,u,er,rfl,s1,a4⟩:=Bm 1 ⟨H.bs,H.next⟩ 0 _ q0 (Nat.zero_le _) hq f0 (by decide);rw[GF]at a4;rcases a4 with⟨h0,_⟩|⟨r,h0,rfl,a9,hR⟩
 .cases h0
 cases h0;rw[j8 fn9 rfl _ sM];have d3:=hR;obtain⟨rs,vl,w1,w2,w3,z,g1,e5,b6,g2,e4⟩:=hR;obtain⟨pa,pc,ga,gc,xa,xc,ea,ec,ta,tc,a8,_⟩:=N3 g1;have c5:rs.length=8:=by rw[a8];rfl
 have J:u.length=12:=by rw[z];simp [c5]
 obtain⟨a1,c1,rfl⟩:=b6.slice;obtain⟨a2,c2,rfl⟩:=g2.slice;obtain⟨a3,c3,rfl⟩:=e4.slice;obtain⟨la,lc,rfl⟩:=e5.slice;have y:u.all oC=true:=by rw[z,a8];rfl
 have q9:u[9]?=some (.slice a1 r0.sorts.length c1):=by rw[z,List.getElem?_append_right oM,c5];rfl
 have g6:splice [nS,nS,nS,iV 0,iV 0,iV 0,nS,nS,nS,nS,nS,nS] 0 u=u:=by rw[z,a8];rfl
 have g7:u.take 12=u:=List.take_of_length_le oM;have nn:H.next<=S.next:=s1.next;obtain⟨H2,a5,n2,x2,-⟩:=pushE S (bC [nS,nS,nS,iV 0,iV 0,iV 0,nS,nS,nS,nS,nS,nS] 1);obtain⟨U,E⟩:=eY (H2.put S.next (bC u 1));have n3:U.next=S.next+1:=by rw[E,j5,n2]
 have x3:U.get S.next=cE u 1:=by rw[E];exact i8 oM
 have y3:∀j,j<S.next->U.get j=S.get j:=fun j X=>by rw[E,i9 oM,a5,j6 oM]
 have b3:aD U (· <U.next) (QR ⟨H.bs,H.next⟩ 0 1 false) (QR ⟨H.bs,H.next⟩ 0 1 true) u r0:=d3.mono y3 (fun j X=>oM);obtain⟨⟨m,e3⟩,_,l,hl,g9⟩:=js GF;have i2:=gF q0 hl;obtain⟨j0,h8,D,g5,c7,⟨G,c8⟩,O⟩:=(XH _ _ r0 m e3 a9.sb a9.at_ 1 1 U u (by decide) b3 J y).one;have I:SlI U U.next 3 (R1 soE) (.slice a1 r0.sorts.length c1) r0.sorts:=b6.mono y3 (fun j X=>oM) iF;obtain⟨x1,g3,o1,b1,h3,d1,b8,_,e1,h9,b4,h1,a7,i1,f2⟩:=I.row (i:=1) (by decide);obtain⟨g8,i3,o2,h7,h4,d2,c0,_,e2,i0,b5,h2,f1,d5,g0⟩:=I.row (i:=2) (by decide);subst e1;cases e2;rw[b4]at b5;cases b5;have c9:=d5 1 (by decide);have b9:x1=(true,false,eB):=by have:r0.sorts[1]?=some (true,false,eB):=rfl;rw[this]at b8;cases b8;rfl
 have c4:g8=(true,true,eB):=by have:r0.sorts[2]?=some (true,true,eB):=rfl;rw[this]at c0;cases c0;rfl
 subst b9 c4;obtain rfl:d1=soE (true,false,eB):=f2;obtain rfl:d2=soE (true,true,eB):=g0;have l3:r0.sorts.length=3:=rfl;have W:ldC (some true) (some 3) (o1+3) b1=some (.agg (soE (true,false,eB)).toArray):=a7;have b0:b1[o1+6+1]?=some (.bool true):=c9;have n4:=O.next;have x4:=(O.get S.next oM).trans x3;have d4:aD D (· <D.next) (QR ⟨H.bs,H.next⟩ 0 1 false) (QR ⟨H.bs,H.next⟩ 0 1 true) u r0:=b3.mono (fun j X=>O.get j X) (fun j X=>oM);have b7:SlI D D.next 3 (R1 soE) (.slice (some ⟨g3,o1,none⟩) r0.sorts.length c1) r0.sorts:=I.mono (fun j X=>O.get j X) oM iF;have hf:=fx (tv D u r0.sorts _ b7 J y q9 (by decide) soZ);rw[Wp]at hf;have d6:EvF D (· <D.next) [iV 2,.string eB,.string eB,nS,.string ⟨#[120]⟩] ⟨2,eB,eB,[],⟨#[120]⟩⟩:=⟨_,rfl,.inl ⟨rfl,rfl⟩⟩
 have hn:=fx (Bv ⟨H.bs,H.next⟩ 0 1 r0 _ a9 D u d4 (Nat.zero_le _) (fun j X=>oM) y _ _ d6 (by decide) 0 2);have e9:rn r0 ⟨2,eB,eB,[],⟨#[120]⟩⟩ 0 2= -1:=kR;rw[e9]at hn;obtain⟨h5,h6,b2⟩:=c8.own.slice;rw[row0]at b2;subst b2;have d8:CL prog fK 17 [.agg u.toArray,.agg #[.bool false,.bool false,.string eB]] D=some (.int .i64 0,none):=hf;have e8:CL prog fK 18 [.agg u.toArray,.agg #[iV 2,.string eB,.string eB,nS,.string ⟨#[120]⟩],iV 0,iV 2] D=some (.int .i64 (-1),none):=hn;have d0:A0 [D1.bool,D1.bool,D1.str] (soE (true,false,eB)) [Value.bool true,Value.bool false,Value.string eB]=some true:=kR;have e6:H.next<=S.low:=by
  have:=s1.lowAll H.next lR lR;exact this
 have a6:H.next<=U.low:=by rw[E,A4,a5,O7];omega
 have e7:H.next<=D.low:=O.lowAll H.next oM a6;exact J21 g4 c6 J y g6 a5.symm x2 E.symm x3 q9 l3 b4 W b0 g7 g5 c7 x4 d8 e8 d0 trivial
theorem uP:∀(l:List Q)(n m:Int),n<=szL l n m
 |[],n,m=>by rw[szL];exact Int.le_refl _
 |x::l,n,m=>by
  rw[szL];split
  .have:=iU x (m-n) oM;have:=uP l (n+szQ x (m-n)) m;omega
  .exact Int.le_refl _
mutual
theorem vR:∀(q:Q)(m:Int),0<=m->szQ q m<=m->(nQ q:Int)<=szQ q m
 | .mk o s c v a b,m,hm,h=>by
  rw[szQ]at h ⊢;rw[nQ];have h1:=uP b (szL a 1 m) m;have h2:=pH a 1 m oM;have h3:=pH b (szL a 1 m) m h;omega
theorem pH:∀(l:List Q)(n m:Int),szL l n m<=m->n+(nL l:Int)<=szL l n m
 |[],n,m,h=>by rw[szL,nL];omega
 |x::l,n,m,h=>by
  rw[szL]at h ⊢;rw[nL];split at h
  .rename_i hn;rw[if_pos hn];have h1:=uP l (n+szQ x (m-n)) m;have h2:=vR x (m-n) oM oM;have h3:=pH l (n+szQ x (m-n)) m h;omega
  .omega
end
theorem fP{q:Q}(h:ey q=true):OkD false q/\nQ q<=64:=by
 simp only[ey,Bool.and_eq_true,decide_eq_true_eq]at h;have:=vR q 64 oM h.1;exact⟨⟨16,h.2⟩,oM⟩
theorem aw4(x:SoD):A0 [D1.bool,D1.bool,D1.str] [.bool x.1,.bool x.2.1,.string x.2.2] [.bool x.1,.bool x.2.1,.string x.2.2]=some true:=by
 have h:∀b:Bool,(b==b)=true:=fun b=>by cases b<;>rfl
 rw[vm,vm,Hg,al5];simp [h]
theorem aw3(x:Int×Int×Int):A0 [D1.int,D1.int,D1.int] [iV x.1,iV x.2.1,iV x.2.2] [iV x.1,iV x.2.1,iV x.2.2]=some true:=by
 rw[aq5,aq5,aq5,al5];simp
structure SmR(H:d9)(row:LV)(n8:Nat)(so:List SoD)(sz:List Int)(ho:List (Int×Int×Int)):Prop where
 q8:∃a c,row[8]?=some (.slice a n8 c)
 q9:∃v,row[9]?=some v/\SlI H H.next 3 (R1 soE) v so
 q10:∃v,row[10]?=some v/\SlI H H.next 1 (R1 inE) v sz
 q11:∃v,row[11]?=some v/\SlI H H.next 3 (R1 hoE) v ho
theorem SmR.keep{H z:d9}{u:LV}{X:Nat}{so:List SoD}{sz:List Int}{W:List (Int×Int×Int)}(h:SmR H u X so sz W)(y:i4 H.next H z):SmR z u X so sz W:=by
 obtain⟨h8,⟨v9,h9,k9⟩,⟨S,D,J⟩,⟨U,E,O⟩⟩:=h;have I:∀j,j<H.next->z.get j=H.get j:=fun j hj=>y.get j hj;exact⟨h8,⟨v9,h9,k9.mono I y.next iF⟩,⟨S,D,J.mono I y.next iF⟩,⟨U,E,O.mono I y.next iF⟩⟩
theorem as4(H:d9)(p1 p2:Nat)(I J:LV)(g1:H.get p1=cE I 1)(g2:H.get p2=cE J 1)(n8:Nat)(O:List SoD)(sz:List Int)(ho:List (Int×Int×Int))(h1:SmR H I n8 O sz ho)(h2:SmR H J n8 O sz ho)(lz:sz.length=O.length)(lh:ho.length=O.length)(hn:O.length<=1000):
  ∀kk e H2,(∃i:Nat,kk=O.length-i/\i<=O.length/\e.get 2=pT p1/\e.get 3=pT p2/\e.get 5=iV i/\H2=H)->
  u9 (LE prog O8 (.loop OM) e H2) (fun o e H2=>o= .exit 0/\H2=H):=by
 refine j7 _ _ ?_;rintro kk e H2 ⟨i,hk,hi,f2,f3,f5,rfl⟩;obtain⟨_,⟨v1,a9,s1⟩,⟨w1,a4,t1⟩,⟨u1,a5,r1⟩⟩:=h1;obtain⟨_,⟨v2,b9,s2⟩,⟨w2,a6,t2⟩,⟨u2,a7,r2⟩⟩:=h2;obtain⟨c1,d1,rfl⟩:=s1.slice;obtain⟨c2,d2,rfl⟩:=s2.slice;obtain⟨c3,d3,rfl⟩:=t1.slice;obtain⟨c4,d4,rfl⟩:=t2.slice;obtain⟨c5,d5,rfl⟩:=r1.slice;obtain⟨c6,d6,rfl⟩:=r2.slice;rcases bd:decide ((i:Int)<O.length)with _|_
 .refine J5 f2 f5 g1 a9 bd ?_;exact l7 ⟨rfl,rfl⟩
 have g3:=dT bd;have nt:(i:Int).toNat=i:=tN i;obtain⟨x,n1,o1,k1,w1,l1,hx,_,rfl,e7,b1,c0,S,g4,e1⟩:=s1.row (i:=i) oM;obtain⟨x',n2,o2,k2,w2,l2,a1,_,rfl,e8,b2,c7,U,g5,e2⟩:=s2.row (i:=i) oM;obtain⟨y,n3,o3,k3,w3,l3,hy,_,rfl,e9,b3,c8,b7,a8,e3⟩:=t1.row (i:=i) oM;obtain⟨y',n4,o4,k4,w4,l4,a2,_,rfl,f0,b4,c9,b8,b0,e4⟩:=t2.row (i:=i) oM;obtain⟨z,n5,o5,k5,w5,l5,hz,_,rfl,f1,b5,d0,W,g6,e5⟩:=r1.row (i:=i) oM;obtain⟨z',n6,o6,k6,w6,l6,a3,_,rfl,g0,b6,d8,X,g7,e6⟩:=r2.row (i:=i) oM;rw[hx]at a1;cases a1;rw[hy]at a2;cases a2;rw[hz]at a3;cases a3;obtain rfl:l1=soE x:=e1;obtain rfl:l2=soE x:=e2;obtain rfl:l3=inE y:=e3;obtain rfl:l4=inE y:=e4;obtain rfl:l5=hoE z:=e5;obtain rfl:l6=hoE z:=e6;have m3:k3[o3+i*1]?=some (.int .i64 y):=by have:=a8 0 oM;rw[Nat.add_zero]at this;exact this
 have m4:k4[o4+i*1]?=some (.int .i64 y):=by have:=b0 0 oM;rw[Nat.add_zero]at this;exact this
 have h:ldC (some true) (some 3) (o1+i*3) k1=some (.agg #[.bool x.1,.bool x.2.1,.string x.2.2]):=S;have u:ldC (some true) (some 3) (o2+i*3) k2=some (.agg #[.bool x.1,.bool x.2.1,.string x.2.2]):=U;have D:ldC (some true) (some 3) (o5+i*3) k5=some (.agg #[iV z.1,iV z.2.1,iV z.2.2]):=W;have E:ldC (some true) (some 3) (o6+i*3) k6=some (.agg #[iV z.1,iV z.2.1,iV z.2.2]):=X;have dz:decide ((i:Int)<(sz.length:Int))=true:=decide_eq_true oM;have dh:decide ((i:Int)<(ho.length:Int))=true:=decide_eq_true oM;have cs:=aw4 x;have ch:=aw3 z;refine J28 f2 f3 f5 g1 g2 a9 b9 a4 a6 a5 a7 bd nt b1 b2 b3 b4 b5 b6 h u D E m3 m4 cs ch @wrap_small ?_;exact i6 (kk-1) oM ⟨i+1,oM,oM,f2,f3,by rw[show((i+1:Nat):Int)=(i:Int)+1 from oM];rfl,rfl⟩
theorem ay5(H:d9)(h u:LV)(U:h.all oC=true)(W:u.all oC=true)(n8:Nat)(E:List SoD)(sz:List Int)(J:List (Int×Int×Int))(h1:SmR H h n8 E sz J)(h2:SmR H u n8 E sz J)(lz:sz.length=E.length)(lh:J.length=E.length)(hn:E.length<=1000):
  CL prog O8 13 [.agg h.toArray,.agg u.toArray] H=some (.bool true,none):=by
 obtain⟨H0,D,n0,-⟩:=pushF H (bC h 1);obtain⟨I,y⟩:=eY (H0.push (bC u 1));have n1:I.next=H.next+2:=by rw[y,i5,n0]
 have s1:i4 H.next H I:=by rw[y,D];exact(i4.first H _).trans (i4.push (by rw[i5];exact Nat.le_succ _))
 have g1:I.get H.next=cE h 1:=by rw[y,j6 oM,D];exact i7
 have g2:I.get (H.next+1)=cE u 1:=by rw[y,<-n0];exact i7
 have a3:H.next<=I.low:=by rw[y,D];exact lR
 have k1:=h1.keep s1;have k2:=h2.keep s1;obtain⟨⟨a8,c8,q8⟩,⟨v1,a9,t1⟩,⟨w1,O,t2⟩,⟨u1,S,t3⟩⟩:=id k1;obtain⟨⟨b8,d8,p8⟩,⟨v2,b9,t4⟩,⟨w2,X,t5⟩,⟨u2,a1,t6⟩⟩:=id k2;obtain⟨x1,y1,rfl⟩:=t1.slice;obtain⟨x2,y2,rfl⟩:=t2.slice;obtain⟨x3,y3,rfl⟩:=t3.slice;obtain⟨x4,y4,rfl⟩:=t4.slice;obtain⟨x5,y5,rfl⟩:=t5.slice;obtain⟨x6,y6,rfl⟩:=t6.slice;rw[j8 ay9 rfl _ sM];refine J15 U W D.symm n0 y.symm g1 g2 q8 p8 a9 O S b9 X a1 ?_;refine l9 (F:=fun z=>u5 _ _ _ (u7 (inBlock 0 z) _)=_) (as4 I H.next (H.next+1) h u g1 g2 n8 E sz J k1 k2 lz lh hn (E.length-0) _ _ ⟨0,rfl,Nat.zero_le _,rfl,rfl,rfl,rfl⟩) ?_;rintro o' e' H' ⟨a2,rfl⟩;exact J1 a2 trivial
theorem at1{H H':d9}{lo K n:Nat}{q:Q}{v:Value}(h:Ob H lo K n (rg q) v H'):∃y S,v= .tuple #[.agg y.toArray,iV S]/\S=(if(rg q).isSome then 0 else 13)/\i4 H.next H H'/\y.length=12/\y.all oC=true/\splice z12 0 y=y/\
  SmR H' y ((rg q).elim 0 fun r=>r.labels.length) ((rg q).elim [] fun r=>r.sorts) ((rg q).elim [] fun r=>r.size) ((rg q).elim [] fun r=>r.how)/\
  ((rg q).elim [] fun r=>r.size).length=((rg q).elim [] fun r=>r.sorts).length/\((rg q).elim [] fun r=>r.how).length=((rg q).elim [] fun r=>r.sorts).length/\((rg q).elim [] fun r=>r.sorts).length<=25:=by
 obtain⟨y,S,rfl,X,⟨h,rfl,rfl⟩|⟨r,h,rfl,E,rs,vl,w1,w2,w3,u,W,U,J,O,I⟩⟩:=h
 .rw[h];exact⟨z12,13,rfl,rfl,X,rfl,rfl,rfl,⟨⟨none,0,rfl⟩,⟨_,rfl,.inl ⟨rfl,rfl⟩⟩,⟨_,rfl,.inl ⟨rfl,rfl⟩⟩,⟨_,rfl,.inl ⟨rfl,rfl⟩⟩⟩,rfl,rfl,Nat.zero_le _⟩
 .rw[h];obtain⟨pa,pc,ga,gc,xa,xc,ea,ec,ta,tc,D,_⟩:=N3 W;have z:rs.length=8:=by rw[D];rfl
  obtain⟨a1,c1,rfl⟩:=J.slice;obtain⟨a2,c2,rfl⟩:=O.slice;obtain⟨a3,c3,rfl⟩:=I.slice;obtain⟨la,lc,rfl⟩:=U.slice;refine⟨y,0,rfl,rfl,X,by rw[u];simp [z],by rw[u,D];rfl,by rw[u,D];rfl,⟨⟨la,lc,by rw[u,List.getElem?_append_right oM,z];rfl⟩,⟨_,by rw[u,List.getElem?_append_right oM,z];rfl,J⟩,⟨_,by rw[u,List.getElem?_append_right oM,z];rfl,O⟩,⟨_,by rw[u,List.getElem?_append_right oM,z];rfl,I⟩⟩,E.l2,E.l3,E.l1⟩
theorem az7(K:Nat)(H:d9)(lo:Nat)(cs:LV)(q:Q)(c5:lo<=H.next)(hr:QR H lo K false cs q):
  CL prog fK 3 [.agg cs.toArray] H=some (.bool true,none):=by
 have ac:=F0 hr;have ldc:=M8 hr;have l0:=hr.len;simp only[qSz,bF]at l0;rw[l0]at ldc;obtain⟨H1,O,n1,g1,s1⟩:=pushF H (bC cs 1);have c4:H1.low=H.next:=by rw[O];rfl
 have a1:QR H1 lo K false cs q:=hr.mono (fun j hj=>s1.get j oM) lR;have h9:=GW H1;have D:=fx (EX H1 lo K cs q oM a1 (fun h=>⟨(fP h).1,by have:=(fP h).2;omega⟩));rw[j8 fn3 rfl _ sM];rcases b:(ey q&&jQ q)with _|_
 .rw[b]at D;exact J6 ac O.symm g1 ldc h9 D trivial
 rw[b]at D;simp only[Bool.and_eq_true]at b;obtain⟨a5,hn⟩:=fP b.1;obtain⟨v,h,H2,b9,a9,b6⟩:=Bm K H1 lo cs q oM a1 a5 oM;obtain⟨z,er,rfl,b4,s2,a8,I,b1,b8,lz,lh,ln⟩:=at1 b6;have n2:=s2.next;have X:H.next<=H2.low:=s2.lowAll H.next oM oM;obtain⟨H3,S,n3,x3,-⟩:=pushE H2 (bC z12 1);obtain⟨H4,E⟩:=eY (H3.put H2.next (bC z 1));have n4:H4.next=H2.next+1:=by rw[E,j5,n3]
 have x4:H4.get H2.next=cE z 1:=by rw[E];exact i8 oM
 have s4:i4 H2.next H2 H4:=by rw[E,S];exact(i4.push lR).trans (i4.put lR)
 have g4:H4.get H.next=cE cs 1:=((s4.get _ oM).trans (s2.get _ oM)).trans g1;have b7:QR H4 lo K false cs q:=a1.mono (fun j hj=>(s4.get j oM).trans (s2.get j oM)) lR;obtain⟨v',h',H5,c0,b0,a4⟩:=(aw2 K H4 lo cs q oM b7 a5 oM).one;obtain⟨u,b3,rfl,a3,s5,a2,y,J,a7,_,_,_⟩:=at1 a4;obtain rfl:b3=er:=a3.trans b4.symm;have n5:=s5.next;have x5:=(s5.get H2.next oM).trans x4;obtain⟨H6,U,n6,x6,-⟩:=pushE H5 (bC z12 1);obtain⟨H7,W⟩:=eY (H6.put H5.next (bC u 1));have x7:H7.get H5.next=cE u 1:=by rw[W];exact i8 oM
 have s7:i4 H5.next H5 H7:=by rw[W,U];exact(i4.push lR).trans (i4.put lR)
 have y7:=(s7.get H2.next oM).trans x5;have a6:=fx (ay5 H7 z u I y _ _ _ _ ((b8.keep (s4.trans (s5.weaken oM))).keep s7 |> fun h=>h) (a7.keep s7) lz lh oM);have b5:H.next<=H7.low:=by
  have a:=s4.lowAll H.next oM X;have b:=s5.lowAll H.next oM a;exact s7.lowAll H.next oM b
 have c3:z.take 12=z:=List.take_of_length_le oM;have b2:u.take 12=u:=List.take_of_length_le oM;simp only[z12]at S x3 b1 U x6 J;exact J28 ac O.symm g1 ldc h9 D b9 a9 S.symm x3 b1 a8 I E.symm g4 c0 b0 U.symm x6 J a2 y W.symm y7 x7 c3 b2 a6 trivial
end Go.Proofs.YtofbhlhamfkljaaGreatDoor.Ve
namespace Go.Proofs.YtofbhlhamfkljaaGreatDoor.reachMakes
open Go.ChangeShapes Go.WideShapes Go.ChangeAt Go.RowKit
open Go.Proofs.Tryz (prog)
open Go Ve card
theorem zO(H:Type)(enc:TypeId×Value->H)(W:World)(base:Nat)(args:Array Value)(ds gs:List (DataW H))(u:List MemPlace)
  (D:∀(j:Nat) t v,Tryz.f3.params[j]?=some t->args[j]?=some v->Value.okWide prog W .any base t v)
  (hW:DataW.Whole enc prog Tryz.f3.params.toList Rows.reachMakesSpec.vars false W args.toList ds gs u) (hk:Rows.uptoSmall H (ds++gs)=true):
  Calls prog 3 args W fun e W'=>∃v,e= .returned v/\Rows.reachMakesSpec.post enc prog Tryz.f3 false true false false W args v W':=by
 have X:=hW;obtain⟨p,q,I,hV,rfl,a5,a6⟩:=hW;have hA:DataW.TrodAll enc prog W 0 (fun _=>true) true Tryz.f3.params.toList args.toList ds p:=I;rw[Tryz.params3]at hA D;obtain⟨v0,a7,U,a4,p0,q0,a2,rfl,rfl,h0,r0⟩:=trodAll_cons hA;obtain⟨rfl,rfl,rfl⟩:=trodAll_nil r0;obtain rfl:args= #[v0]:=by cases args;simp_all
 obtain⟨rfl,rfl⟩:=trodVars_none hV;obtain⟨a0,rfl,_⟩:=okWide_struct Tryz.underlying25 (D 0 25 v0 rfl rfl);have k0:=h0;have a3:∀x∈p0,x.block<W.heap.size:=by obtain⟨m,hm⟩:=k0;exact DataW.trod_lt m _ _ _ hm
 have hb:Rows.uptoBulk U<=1048576:=by
  have h:Rows.uptoBulkAll ([U]++[])<=1048576:=dT hk;simp only[Rows.uptoBulkAll,List.cons_append,List.nil_append]at h;omega
 obtain⟨z,hf⟩:=h0;obtain⟨φ,S,ac,l,_,_,a1,O,_,hq⟩:=(pL (z+1)).1.2 enc W z oM _ U p0 hf hb [] [] (Ci W);have J:=az7 _ ⟨S,S.length⟩ S.length ac l lR (ah5 hq);have y:VRs φ [.agg ac.toArray] [.agg a0]:= .cons (.agg (by simpa [Value.cells] using O.1) (by simpa [Value.cells] using O.2)) (.nil φ);clear I;refine(xH kR En a1 y J).mono fun e W'⟨he,E⟩=>?_;subst he;exact⟨_,rfl,_,_,_,[],_,[],X,trodAll_mk1 (shut_bool Tryz.underlying4 _),(trodAll_cons_mk (Below.trod Eh kR (dT kR) k0 E a3) trodAll_mk0),rfl,E.frame _,fun h=>by cases h⟩
theorem Na(D:Os)(h:D.Started)(H:Type)(enc:TypeId×Value->H)(F:Stop.Interp):
  ReturnsInHanded {} Tryz.checked D 3 .any ((Rows.OpenSpec.upto Rows.reachMakesSpec).preRow enc prog Tryz.f3 Rows.reachMakesUptoRow.domain false Rows.reachMakesUptoRow.laid) (((Rows.OpenSpec.upto Rows.reachMakesSpec).at F).post enc prog Tryz.f3 false true false false):=by
 obtain⟨E,S⟩:=reads D enc;refine returnsInHanded_of_row (C:=Tryz.checked) (s:=Rows.OpenSpec.upto Rows.reachMakesSpec) own h kR Tryz.func3
  (witness_row_at (enc:=enc) (C:=Tryz.checked) false (iG D) #[CG] rfl kR kR kR
   (OpenSpec.preRow_of_cond 8 S kR (fun k O=>by cases O;kernel_rfl) kR (Bf D))) ?_
 intro W base args ds I u z J _ y _ U _ _;exact zO H enc W base args ds I u z J (y _ rfl)
theorem ah7:Rows.ReachMakesUptoSaid:=
 OpenClaim.holds_of_cond 3 Tryz.f3 rfl rfl rfl rfl rfl rfl rfl ⟨rfl,rfl,rfl,rfl,rfl⟩ rfl rfl rfl rfl rfl kR Tryz.func3 kR
  (dT kR) (by unfold Func.isWrapper;first|(rw[if_pos (by decide+kernel)];kernel_rfl)|(rw[if_neg (by decide+kernel)];exact⟨rfl,rfl⟩))
  (fun u h H enc _ F=>by rw[OpenClaim.pre_eq_preRow];exact Na u h H enc F)
theorem plain(f:FuncId)(h:Func)(z:Tryz.pinned.checked.prog.funcNamed "oriel/oriellaw21.ReachMakes" =some f)(u:Tryz.pinned.checked.prog.funcs[f]?=some h):
  false=Tryz.pinned.checked.prog.looks []/\∀(j:Nat) t,h.params[j]?=some t->Tryz.pinned.checked.prog.wantsStandIn t=false:=by
 obtain rfl:f=3:=Option.some.inj ((show prog.funcNamed "oriel/oriellaw21.ReachMakes" =some 3 from kR).symm.trans z) |>.symm;obtain rfl:h=Tryz.f3:=(Option.some.inj (Tryz.func3.symm.trans u)).symm;refine⟨kR,fun j t y=>?_⟩;rw[Tryz.params3]at y;obtain rfl:t=25:=by simpa using Array.mem_of_getElem? y
 exact(show prog.wantsStandIn 25=false from kR)
theorem cardUpto:Rows.ReachMakesUptoCardSaid:=
 Claim7.holds_tied_plain_at .later [] _ _ _ _ ah7 (fun _ h=>by cases h) kR (fun _ h=>by cases h) reachMakesUpto_row_tie rfl ⟨rfl,rfl⟩ kR rfl plain kR
end Go.Proofs.YtofbhlhamfkljaaGreatDoor.reachMakes
namespace Go.Proofs.YtofbhlhamfkljaaGreatDoor
open Go Go.RowKit
open Go.Proofs.Tryz (prog)
theorem reachMakes_holds:Rows.ReachMakesUptoCardSaid:=reachMakes.cardUpto
end Go.Proofs.YtofbhlhamfkljaaGreatDoor
