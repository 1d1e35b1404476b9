/- ReachRows returns true for every path whose reading is of bulk at most 1048576, and the path reads behind the call as it read before. Conditions: what comes in is of bulk at most 1048576. -/
import Derived.Test.YtofbhlhamfkljaaGreatDoorPe
set_option linter.unusedVariables false
set_option linter.unusedSimpArgs false
set_option linter.defProp false
set_option maxHeartbeats 0
set_option maxRecDepth 1000000
namespace Go.Proofs.YtofbhlhamfkljaaGreatDoor.Ve
open Go Go.RowKit
open Go.Proofs.Tryz (prog)
theorem kc{D:List SoD}{u:Int}{a b:Nat}(h:R5 D u a b=true)(J:u=2):a=0/\(D.getD b soZ).2.1=false:=by
 simp only[R5,Bool.and_eq_true,Bool.or_eq_true,Bool.not_eq_true',decide_eq_false_iff_not,decide_eq_true_eq,Int.toNat_natCast]at h;rcases h.2 with z|⟨z,E⟩
 .exact absurd J z
 .exact⟨oM,E⟩
theorem ir{r:ReD}{m:Int}(hg:R4 r m){k:Nat}(W:1<=k)(X:k<r.sorts.length)(n:Nat)(hn:k<n):
  ∃(a b:Nat)(e:EvD),e∈r.labels/\a<k/\b<k/\r.size.getD k 0=r.size.getD a 0+r.size.getD b 0+1/\R5 r.sorts e.kind a b=true/\r.sorts.getD k soZ=I4 r.strat e (r.sorts.getD a soZ) (r.sorts.getD b soZ)/\
   ∃u,n=u+1/\bn r n k=([e]++(if e.kind=1 then bn r u a++[wE] else []))++bn r u b:=by
 obtain⟨i,a,b,e,D,z,E,J,O,S,U⟩:=hg.from_ k W X;cases n with
 |zero=>omega
 |succ u=>
  refine⟨a,b,e,mG z,E,J,O,S,by rw[List.getD_eq_getElem?_getD,U];rfl,u,rfl,?_⟩;rw[bn,if_neg oM];simp only[Int.toNat_natCast,D,z]
theorem jb(r:ReD):∀n,bn r n 0=[]
 |0=>rfl
 |n+1=>by rw[bn,if_pos (.inl (Int.le_refl _))]
theorem iU{r:ReD}{m:Int}(u:R4 r m):r.sorts.getD 0 soZ=soZ/\r.size.getD 0 0=0:=by
 rw[List.getD_eq_getElem?_getD,u.s0,List.getD_eq_getElem?_getD,u.z0];exact⟨rfl,rfl⟩
theorem ot{r:ReD}{m:Int}(D:R4 r m)(S:∀e∈r.labels,e.kind=1\/e.kind=2):∀(n k:Nat),k<n->k<r.sorts.length->∀(X:List EvD)(B u:List SoD),whF r.strat X=(soZ::B,u)->
  ∃A,whF r.strat (bn r n k++X)=(r.sorts.getD k soZ::B,A++u)/\(A.length:Int)=r.size.getD k 0/\(1<=k->A.head?=some (r.sorts.getD k soZ))
 |0,k,hn,_,X,B,u,hX=>oM
 |n+1,k,hn,hkl,X,B,u,hX=>by
  by_cases h1:1<=k
  .obtain⟨a,b,e,he,ha,hb,U,E,z,n',a1,J⟩:=ir D h1 hkl (n+1) hn;obtain rfl:n=n':=oM;obtain⟨O,q1,q2,_⟩:=ot D S n b oM oM X B u hX;rw[J];rcases S e he with W|e2
   .rw[if_pos W];have e3:wE.kind=3:=rfl;obtain⟨Aa,p1,p2,_⟩:=ot D S n a oM oM (wE::(bn r n b++X)) (r.sorts.getD b soZ::B) (O++u) (by rw[whF,if_pos e3,q1]);refine⟨r.sorts.getD k soZ::(Aa++O),?_,by simp only[List.length_cons,List.length_append];omega,fun _=>rfl⟩;have:[e]++(bn r n a++[wE])++bn r n b++X=e::(bn r n a++wE::(bn r n b++X)):=sM;rw[this,whF,if_neg oM,if_pos W,p1];simp only[List.headD_cons,List.tail_cons,<-z];simp
   .rw[if_neg oM,List.append_nil];obtain⟨a0,_⟩:=kc E e2;subst a0;refine⟨r.sorts.getD k soZ::O,?_,by rw[(iU D).2]at U;simp only[List.length_cons];omega,fun _=>rfl⟩;have:[e]++bn r n b++X=e::(bn r n b++X):=sM;rw[this,whF,if_neg oM,if_neg oM,q1];simp only[List.headD_cons,List.tail_cons];rw[(iU D).1]at z;rw[<-z];rfl
  .obtain rfl:k=0:=oM;have hz:=iU D;exact⟨[],by rw[show((0:Nat):Int)=0 from rfl,jb,hz.1];exact hX,by rw[hz.2];rfl,fun h=>oM⟩
theorem mR:gI wE=true:=rfl
theorem ej:∀(u l2:List EvD)(p:Option Int),Cp p (u++l2)=Cp (Cp p u) l2
 |[],l2,p=>rfl
 |e::u,l2,p=>by rw[List.cons_append,Cp,Cp,ej u l2]
theorem kb{q:Option Int}{d:Int}(J:q≠none)(E:d≠0)(D:d<=65):bGo q d [wE]=true/\dep d [wE]=d-1:=by
 have z:wE.kind=3:=rfl;have u:d7 d wE.kind=d-1:=by rw[z,d7,if_neg oM,if_pos rfl]
 refine⟨?_,u⟩;rw[bGo,mR,decide_eq_false J,decide_eq_false E,z,if_neg sM,<-z,u,if_neg oM];rfl
theorem eJ{r:ReD}{m:Int}(W:R4 r m)(z:∀x∈r.size,0<=x/\x<=200) (X:∀e∈r.labels,e.kind=1\/e.kind=2) (O:∀e∈r.labels,gI e=true):∀(n k:Nat),k<n->k<r.sorts.length->∀(p:Option Int)(d:Int),p≠none->1<=d->d+r.size.getD k 0<=64->(p=some 2->(r.sorts.getD k soZ).2.1=false)->
  bGo p d (bn r n k)=true/\dep d (bn r n k)=d
 |0,k,hn,_,p,d,hp,hd,hd2,ht=>oM
 |n+1,k,hn,hkl,p,d,hp,hd,hd2,ht=>by
  by_cases h1:1<=k
  .obtain⟨a,b,e,he,ha,hb,a7,E,a2,n',a6,S⟩:=ir W h1 hkl (n+1) hn;obtain rfl:n=n':=oM;have h0:∀i,0<=r.size.getD i 0:=fun i=>by
    rw[List.getD_eq_getElem?_getD];cases hq:r.size[i]? with
    |none=>exact Int.le_refl 0
    |some y=>exact(z y (mG hq)).1
   have a4:=h0 a;have a5:=h0 b;have J:(decide (p=none)&& !decide (e.kind=1))=false:=by rw[decide_eq_false hp];rfl
   have D:(!decide (p=none)&&decide (d=0))=false:=by rw[decide_eq_false (show¬d=0 from oM),Bool.and_false]
   rw[S];rcases X e he with e1|e2
   .have u:d7 d e.kind=d+1:=by rw[d7,if_pos e1]
    have ia:=eJ W z X O n a oM oM (some e.kind) (d+1) sM oM oM (fun q=>by have:=Option.some.inj q;omega);have U:=eJ W z X O n b oM oM (some 3) d sM hd oM (fun q=>by have:=Option.some.inj q;omega);have hE:bGo p d [e]=true:=by
     rw[bGo,O e he,J,D,u,if_neg (by simp [e1]),if_neg oM];rfl
    have dE:dep d [e]=d+1:=u;have lE:Cp p [e]=some e.kind:=rfl;obtain⟨q,hq⟩:=tT (bn r n a) (some e.kind) (.inr sM);have hc:=kb (q:=some q) (d:=d+1) sM oM oM;have e4:d+1-1=d:=oM;have dA:dep d ([e]++(bn r n a++[wE]))=d:=by rw[sQ,sQ,dE,ia.2,hc.2,e4]
    rw[if_pos e1];refine⟨?_,by rw[sQ,dA,U.2]⟩;rw[om,dA,om,hE,dE,lE,om,ia.1,ia.2,hq,hc.1,ej,ej,lE,hq,show Cp (some q) [wE]=some 3 from rfl,U.1];rfl
   .obtain⟨a0,a3⟩:=kc E e2;subst a0;have u:d7 d e.kind=d:=by rw[d7,if_neg oM,if_neg oM]
    have U:=eJ W z X O n b oM oM (some e.kind) d sM hd oM (fun _=>a3);have a1:decide (p=some 2)=false:=decide_eq_false fun q=>by
     have h:=ht q;rw[a2]at h;have:(I4 r.strat e (r.sorts.getD 0 soZ) (r.sorts.getD b soZ)).2.1=decide (e.kind=2):=rfl;rw[this,decide_eq_true e2]at h;cases h
    have hE:bGo p d [e]=true:=by
     rw[bGo,O e he,J,D,a1,u,if_neg sM,if_neg oM];rfl
    rw[if_neg oM,List.append_nil];refine⟨?_,by rw[sQ,show dep d [e]=d from u,U.2]⟩;rw[om,hE,show dep d [e]=d from u,show Cp p [e]=some e.kind from rfl,U.1];rfl
  .obtain rfl:k=0:=oM;rw[show((0:Nat):Int)=0 from rfl,jb];exact⟨rfl,rfl⟩
theorem pK:gI eL=true:=by
 have u:smT ⟨#[114,111,111,116]⟩:=by
  intro b J;have:b=114\/b=111\/b=111\/b=116:=by simpa using J
  rcases this with rfl|rfl|rfl|rfl<;>rfl
 have E:iQ eB ⟨#[114,111,111,116]⟩=true:=by
  rw[iQ,iR,u.part _ 0 rfl (fun _=>rfl),u.text,eS];have z:decide (eB=yS)=false:=by decide
  have D:decide ((⟨#[114,111,111,116]⟩:ByteArray)=eB)=false:=by decide
  rw[z,D];rfl
 rw[gI,if_pos (show eL.kind=1 from rfl)];show(decide (eB=eB)&&iQ eB ⟨#[114,111,111,116]⟩&&gH [])=true;rw[E];rfl
theorem pF{r:ReD}{m:Int}(S:R4 r m)(E:∀x∈r.size,0<=x/\x<=200) (U:∀e∈r.labels,e.kind=1\/e.kind=2) (hr:∀e∈r.labels,gI e=true) {k:Nat} (u:k<r.sorts.length) (a4:r.size.getD k 0<=40):
  ((Bx r.strat (cy (bn r (k+1) k))).length:Int)=r.size.getD k 0+1/\(1<=k->(Bx r.strat (cy (bn r (k+1) k)))[1]?=some (r.sorts.getD k soZ)):=by
 have z:eL.kind=1:=rfl;have D:d7 0 eL.kind=1:=rfl;obtain⟨b1,J⟩:=eJ S E U hr (k+1) k oM u (some 1) 1 sM oM oM (fun q=>by have:=Option.some.inj q;omega);obtain⟨q,hq⟩:=tT (bn r (k+1) k) (some 1) (.inr sM);obtain⟨c1,c2⟩:=kb (q:=some q) (d:=1) sM oM oM;have O:v8 (cy (bn r (k+1) k))=true:=by
  rw[v8,cy,om,bGo,pK,z,if_neg sM,<-z,D,if_neg oM,z,b1,show Cp none (eL::bn r (k+1) k)=Cp (some 1) (bn r (k+1) k) from rfl,show dep 0 (eL::bn r (k+1) k)=dep 1 (bn r (k+1) k) from rfl,J,hq,c1];rfl
 have hD:dep 0 (cy (bn r (k+1) k))=0:=by
  rw[cy,sQ,show dep 0 (eL::bn r (k+1) k)=dep 1 (bn r (k+1) k) from rfl,J,c2];rfl
 have hW:qe (cy (bn r (k+1) k))=true:=by
  rw[qe,O,vj,if_pos O,hD];simp [cy]
 obtain⟨A,W,a2,X⟩:=ot S U (k+1) k oM u [wE] [soZ] [] rfl;have hF:(whF r.strat (cy (bn r (k+1) k))).2=I4 r.strat eL (r.sorts.getD k soZ) soZ::A:=by
  rw[cy,List.cons_append,whF,if_neg oM,if_pos z,W];simp
 rw[Bx,if_pos hW,hF];refine⟨by simp only[List.length_cons];omega,fun h=>?_⟩;rw[List.getElem?_cons_succ,<-List.head?_eq_getElem?,X h]
theorem qq{r:ReD}{m:Int}(E:R4 r m){k:Nat}(z:k<r.sorts.length):(bn r (k+1) k).length=0↔k=0:=by
 constructor
 .intro h;by_cases D:1<=k
  .obtain⟨a,b,e,_,_,_,_,_,_,J,_,u⟩:=ir E D z (k+1) oM;rw[u]at h;simp at h
  .omega
 .intro h;subst h;rw[show((0:Nat):Int)=0 from rfl,jb];rfl
theorem rR{H:N7}{lo:Nat}{F:Nat->Prop}{cs:LV}{e:EvD}(h:EvF H F cs e)(O:e.space.size<=1048576/\e.loc.size<=1048576/\e.text.size<=1048576/\e.attrs.length<=1048576/\∀a∈e.attrs,a.space.size<=1048576/\a.loc.size<=1048576/\a.val.size<=1048576) (D:∀j,F j->j<lo):EvR H lo cs e:=by
 obtain⟨v,u,z⟩:=h;obtain⟨S,U,W,X,z5⟩:=O;exact⟨v,u,(z.sl D).mem fun a E cs J=>⟨J,z5 a E⟩,S,U,W,X⟩
def SmS(e:EvD):Prop:=e.space.size<=1048576/\e.loc.size<=1048576/\e.text.size<=1048576/\e.attrs.length<=1048576/\∀a∈e.attrs,a.space.size<=1048576/\a.loc.size<=1048576/\a.val.size<=1048576
theorem iA{r:ReD}(h:∀e∈r.labels,SmS e):∀(n:Nat)(k:Int),∀e∈bn r n k,SmS e
 |0,k,e,u=>by cases u
 |n+1,k,e,u=>by
  have J:SmS wE:=⟨by decide,by decide,by decide,by decide,fun a E=>by cases E⟩
  rw[bn]at u;split at u
  .cases u
  .split at u
   .rename_i i a b O;split at u
    .rename_i D z;rw[List.mem_append,List.mem_append]at u;rcases u with(u|u)|u
     .rw[List.mem_singleton.1 u];exact h D (mG z)
     .split at u
      .rcases List.mem_append.1 u with u|u
       .exact iA h n _ e u
       .rw[List.mem_singleton.1 u];exact J
      .cases u
     .exact iA h n _ e u
    .cases u
   .cases u
abbrev sr:t7:=ptA fn7 [1,1,1,1,0,1,0,0]
theorem qa(Hs:N7)(lo K:Nat)(r:ReD)(N:Nat)(z:WfR r N)(m:Int)(hg:R4 r m)(U:∀e∈r.labels,SmE e/\(e.kind=1\/e.kind=2)) (S:N7) (rb:Nat) (u:LV) (gr:S.get rb=cE u 1) (hR:cT S (· <S.next) (QR Hs lo K false) (QR Hs lo K true) u r) (m0:lo<=S.next) (f7:∀j,j<lo->S.get j=Hs.get j) (c7:u.all oC=true) (a4:u.length=12):
  ∀kk e H,(∃k:Nat,kk=12-k/\k<=12/\k<=r.sorts.length/\e.get 3=pT rb/\e.get 5=iV k/\i6 S.next S H)->
  w7 (LE prog gh (.loop sr) e H) (fun o e H=>o= .exit 0/\i6 S.next S H):=by
 refine i8 _ _ ?_;rintro kk e H ⟨k,hk,h1,l5,f3,f5,hS⟩;have nH:=hS.next;have g5:=u7 gr;have g:=(hS.get rb g5).trans gr;have c8:cT H (· <H.next) (QR Hs lo K false) (QR Hs lo K true) u r:=hR.mono (fun j J=>hS.get j J) (fun j J=>oM);have f1:=c8;obtain⟨rs,vl,w1,w2,w3,O,g9,l8,d1,d3,l4⟩:=c8;have d5:rs.length=8:=by rw[O]at a4;simpa using a4
 obtain⟨a1,c1,rfl⟩:=d1.slice;obtain⟨a2,c2,rfl⟩:=d3.slice;have q9:u[9]?=some (.slice a1 r.sorts.length c1):=by rw[O,List.getElem?_append_right oM,d5];rfl
 have c4:u[10]?=some (.slice a2 r.size.length c2):=by rw[O,List.getElem?_append_right oM,d5];rfl
 rcases b0:decide ((k:Int)<r.sorts.length)with _|_
 .refine J5 f3 f5 g q9 b0 ?_;exact i9 ⟨rfl,hS⟩
 rcases b1:decide ((k:Int)<12)with _|_
 .refine J6 f3 f5 g q9 b0 b1 ?_;exact i9 ⟨rfl,hS⟩
 have b9:k<r.sorts.length:=oN (dT b0);have h8:=dT b1;have l2:=hg.l2;have l6:=z.l1;have ka:(k:Int).toNat=k:=tN k;have h4:u.take 12=u:=List.take_of_length_le oM;have c0:ldC (some true) (some 12) 0 u=some (.agg u.toArray):=by rw[eW _ _ _ oM,List.drop_zero,h4]
 obtain⟨d6,k6,H2,c5,a5,⟨G,O2⟩,s2⟩:=(JB _ _ r m hg z.sb z.at_ k k H u oM f1 a4 c7).one;obtain⟨L,hL⟩:=eY (bn r (k+1) k);rw[<-hL]at O2;have n2:=s2.next;have g7:∀i,i<r.size.length->0<=r.size.getD i 0/\r.size.getD i 0<=200:=fun i hi=>by
  rw[List.getD_eq_getElem?_getD,List.getElem?_eq_getElem hi];exact z.sb _ (List.getElem_mem hi)
 have g0:=g7 k oM;have k9:L.length<=400:=by
  have h1:=gu hg z.sb (k+1) k;rw[<-hL,ka]at h1;omega
 have e7:SlI H2 H2.next 5 (EvF H2 (· <H2.next)) d6 L:=O2.own.sl.mem fun e _ cs⟨v,q1,q2⟩=>⟨v,q1,q2.slf.mono (fun _ _=>rfl) (fun j J=>(O2.fr j J).2.1) iF⟩
 obtain⟨e1,k7,H3,c6,a6,O3,s3⟩:=Ret.one (qk H2 d6 L e7 oM);have n3:=s3.next;have a9:i6 H.next H H3:=s2.trans (s3.weaken n2);have g8:∀e∈cy L,SmS e:=by
  intro e D;rw[cy,List.mem_append,List.mem_cons]at D;rcases D with(rfl|D)|D
  .exact⟨by decide,by decide,by decide,by decide,fun a ha=>by cases ha⟩
  .rw[hL]at D;exact iA (fun e D=>(U e D).1.2) _ _ e D
  .rw[List.mem_singleton.1 D];exact⟨by decide,by decide,by decide,by decide,fun a ha=>by cases ha⟩
 have e8:qY H3 H3.next e1 (cy L):=O3.sl.mem fun e D cs hc=>rR (y9 _ _ _ _ _ _ hc (fun j J=>s3.get j J) (fun j J=>J)) (g8 e D) (fun j J=>oM);have d2:StF H3 (· <H3.next) (QR Hs lo K false) (QR Hs lo K true) rs r.strat:=g9.mono (fun j J=>a9.get j J) (fun j J=>oM) iF iF;have i3:(cy L).length=L.length+2:=by rw[cy];simp
 obtain⟨m2,k8,H4,a8,a7,O4,s4⟩:=Ret.one (So Hs lo K r.strat N z.n0 z.st z.sz H3 rs d2 (fun j J=>by rw[a9.get j oM,hS.get j oM,f7 j J]) oM e1 (cy L) e8 oM);have n4:=s4.next;have b3:i6 H.next H H4:=a9.trans (s4.weaken oM);obtain⟨j1,j4,rfl⟩:=O2.own.slice;obtain⟨j2,k0,rfl⟩:=O3.slice;obtain⟨j3,k1,rfl⟩:=O4.slice;have g2:=(s2.get rb oM).trans g;have g3:=(a9.get rb oM).trans g;have g4:=(b3.get rb oM).trans g;have c3:ldC (some true) (some 8) 0 u=some (.agg rs.toArray):=by
  rw[eW _ _ _ oM,O,List.drop_zero,List.take_append_of_le_length oM,List.take_of_length_le oM]
 obtain⟨y0,zb,zo,h5,k2,h6,zx,_,rfl,f0,f9,i0,g6,f6,f4⟩:=d3.row (i:=k) oM;obtain rfl:h6=inE y0:=f4;have ck:h5[zo+k*1]?=some (.int .i64 (r.size.getD k 0)):=by
  have:=f6 0 oM;rw[Nat.add_zero]at this;rw[this,List.getD_eq_getElem?_getD,zx];rfl
 obtain⟨x,sb,so,m1,j0,h3,sx,_,rfl,e9,f8,h9,a3,h7,f2⟩:=d1.row (i:=k) b9;obtain rfl:h3=soE x:=f2;have b7:=(b3.get zb f0).trans f9;have e6:=(b3.get sb e9).trans f8;have b8:∀(e':Env),e'.get 3=pT rb->e'.get 5=iV ((k:Int)+1)->cQ kk (fun kk e H=>∃k:Nat,kk=12-k/\k<=12/\k<=r.sorts.length/\e.get 3=pT rb/\e.get 5=iV k/\i6 S.next S H) (fun o e H=>o= .exit 0/\i6 S.next S H) .normal e' H4:=fun e' e4 e5=>
  i4 (kk-1) oM ⟨k+1,oM,oM,oM,e4,by rw[e5];rfl,hS.trans (b3.weaken nH)⟩
 rcases b2:decide (40<r.size.getD k 0)with _|_
 .have k3:=dF b2;have h2:r.sorts.getD k soZ=x:=by rw[List.getD_eq_getElem?_getD,sx];rfl
  obtain⟨i1,i2⟩:=pF hg z.sb (fun e D=>(U e D).2) (fun e D=>(U e D).1.1) b9 oM;rw[<-hL]at i1 i2;rw[h2]at i2;have E:=qq hg b9;rw[<-hL]at E;obtain⟨W,hW⟩:=eY (Bx r.strat (cy L));rw[<-hW]at i1 i2 O4 a8;have d8:decide ((W.length:Int)=r.size.getD k 0+1)=true:=decide_eq_true i1;rcases Nat.eq_zero_or_pos k with h0|h0
  .have d9:decide ((k:Int)=0)=true:=decide_eq_true oM;have b5:decide ((L.length:Int)=0)=true:=decide_eq_true (oN (E.2 h0));have b6:decide ((0:Int)<k)=false:=decide_eq_false oM;have bt:F6 prog .neq 4 (.bool true) (.bool true)=some (.bool false):=kR;refine J27 f3 f5 g q9 b0 b1 c0 c5 a5 c6 a6 g3 c3 a8 a7 g4 c4 b7 ck b2 ka @wrap_small d8 d9 b5 b6 bt ?_;exact b8 _ f3 rfl
  .have d9:decide ((k:Int)=0)=false:=decide_eq_false oM;have b5:decide ((L.length:Int)=0)=false:=decide_eq_false (by intro q;have:=E.1 oM;omega);have b6:decide ((0:Int)<k)=true:=decide_eq_true oM;have bt:F6 prog .neq 4 (.bool false) (.bool false)=some (.bool false):=kR;have l3:1<W.length:=by
    have:=(gS (i2 oM)).1;exact this
   obtain⟨k4,k5,b4,e2,_,_,e3,g1,d0⟩:=O4.at_ (i2 oM);cases e2;obtain⟨ex,c9⟩:=eY (soE x);have X:(b4.drop (1*3)).take 3=soE x:=d0;rw[<-c9]at a3 X;have d4:ldC (some true) (some 3) (1*3) b4=some (.agg ex.toArray):=cq oM X;have ce:A6 [Q5.bool,Q5.bool,Q5.str] ex ex=some true:=by rw[c9,soE,lS,lS,JZ,JY];simp
   refine J30 f3 f5 g q9 b0 b1 c0 c5 a5 c6 a6 g3 c3 a8 a7 g4 c4 b7 ck b2 ka @wrap_small d8 d9 b5 b6 bt e3 (aI d4 e6) (aI a3 ce) ?_;exact b8 _ f3 rfl
 .refine J22 f3 f5 g q9 b0 b1 c0 c5 a5 c6 a6 g3 c3 a8 a7 g4 c4 b7 ck b2 ka @wrap_small ?_;exact b8 _ f3 rfl
theorem tx(K:Nat)(H:N7)(lo:Nat)(cs:LV)(q:Q)(d0:lo<=H.next)(hr:QR H lo K false cs q):
  CL prog gh 7 [.agg cs.toArray] H=some (.bool true,none):=by
 have ac:=F7 hr;have ldc:=N5 hr;have l0:=hr.len;simp only[qSz,bF]at l0;rw[l0]at ldc;obtain⟨H1,W,n1,g1,s1⟩:=pushF H (bC cs 1);have O:H1.low=H.next:=by rw[W];rfl
 have a9:QR H1 lo K false cs q:=hr.mono (fun j hj=>s1.get j oM) lR;have h9:=JU H1;have J:=aX (IC H1 lo K cs q oM a9 (fun h=>⟨(iJ h).1,by have:=(iJ h).2;omega⟩));rw[j7 fn7 rfl _ sM];rcases b:(gl q&&lZ q)with _|_
 .rw[b]at J;exact J7 ac W.symm g1 ldc h9 J O trivial
 .rw[b]at J;simp only[Bool.and_eq_true]at b;obtain⟨c0,hn⟩:=iJ b.1;obtain⟨v,h,H2,a8,a6,D,er,rfl,s2,E⟩:=EP K H1 lo cs q oM a9 c0 oM;have n2:=s2.next;have b9:H.next<=H2.low:=s2.lowAll H.next oM oM;obtain⟨H3,X,n3,x3,-⟩:=pushE H2 (bC [nS,nS,nS,iV 0,iV 0,iV 0,nS,nS,nS,nS,nS,nS] 1);obtain⟨H4,u⟩:=eY (H3.put H2.next (bC D 1));have x4:H4.get H2.next=cE D 1:=by rw[u];exact j5 oM
  have S:H.next<=H4.low:=by rw[u,A4,X,l9];omega
  rcases E with⟨E,rfl,rfl⟩|⟨r,E,rfl,c7,hR⟩
  .have b1:splice z12 0 z12=z12:=rfl;simp only[z12]at u a8 b1 x4;exact J15 ac W.symm g1 ldc h9 J O a8 a6 X.symm x3 b1 u.symm x4 S trivial
  .have b2:=hR;obtain⟨rs,vl,w1,w2,w3,U,c5,b7,c4,c6,b6⟩:=hR;obtain⟨pa,pc,ga,gc,xa,xc,ea,ec,ta,tc,a7,_⟩:=F1 c5;have c8:rs.length=8:=by rw[a7];rfl
   have a5:D.length=12:=by rw[U];simp [c8]
   obtain⟨a1,c1,rfl⟩:=c4.slice;obtain⟨a2,c2,rfl⟩:=c6.slice;obtain⟨a3,c3,rfl⟩:=b6.slice;obtain⟨la,lc,rfl⟩:=b7.slice;have a4:D.all oC=true:=by rw[U,a7];rfl
   have c9:splice [nS,nS,nS,iV 0,iV 0,iV 0,nS,nS,nS,nS,nS,nS] 0 D=D:=by rw[U,a7];rfl
   obtain⟨⟨m,b5⟩,_,l,hl,b8⟩:=gi E;have n4:H4.next=H2.next+1:=by rw[u,t5,n3]
   have y4:∀j,j<H2.next->H4.get j=H2.get j:=fun j hj=>by rw[u,j6 oM,X,i7 oM]
   have b3:=b2.mono (F':=(· <H4.next)) y4 (fun j hj=>oM);refine J15 ac W.symm g1 ldc h9 J O a8 a6 X.symm x3 c9 a5 a4 u.symm ?_;refine j8 (F:=fun z=>u5 _ _ _ (u9 (inBlock 0 z) _)=_) (qa H1 lo K r _ c7 m b5 (fun e he=>mI hr b.1 hl e (b8▸he)) H4 H2.next D x4 b3 oM (fun j hj=>by rw[y4 j oM,s2.get j oM]) a4 a5 12 _ _ ⟨0,rfl,oM,oM,rfl,rfl,i6.refl _ _⟩) ?_;rintro o' e' H' ⟨ho,b4⟩;have b0:H.next<=H'.low:=b4.lowAll _ oM S;exact J2 ho b0 trivial
end Go.Proofs.YtofbhlhamfkljaaGreatDoor.Ve
namespace Go.Proofs.YtofbhlhamfkljaaGreatDoor.reachRows
open Go.ChangeShapes Go.WideShapes Go.ChangeAt Go.RowKit
open Go.Proofs.Tryz (prog)
open Go Ve card
theorem DE(H:Type)(enc:TypeId×Value->H)(W:World)(base:Nat)(args:Array Value)(ds gs:List (DataW H))(u:List MemPlace)
  (E:∀(j:Nat) t v,Tryz.f7.params[j]?=some t->args[j]?=some v->Value.okWide prog W .any base t v)
  (hW:DataW.Whole enc prog Tryz.f7.params.toList Rows.reachRowsSpec.vars false W args.toList ds gs u) (hk:Rows.uptoSmall H (ds++gs)=true):
  Calls prog 7 args W fun e W'=>∃v,e= .returned v/\Rows.reachRowsSpec.post enc prog Tryz.f7 false true false false W args v W':=by
 have a1:=hW;obtain⟨p,q,O,hV,rfl,a6,a7⟩:=hW;have hA:DataW.TrodAll enc prog W 0 (fun _=>true) true Tryz.f7.params.toList args.toList ds p:=O;rw[Tryz.params7]at hA E;obtain⟨v0,a8,d0,a5,p0,q0,a3,rfl,rfl,h0,r0⟩:=trodAll_cons hA;obtain⟨rfl,rfl,rfl⟩:=trodAll_nil r0;obtain rfl:args= #[v0]:=by cases args;simp_all
 obtain⟨rfl,rfl⟩:=trodVars_none hV;obtain⟨a0,rfl,_⟩:=okWide_struct Tryz.underlying25 (E 0 25 v0 rfl rfl);have k0:=h0;have a4:∀x∈p0,x.block<W.heap.size:=by obtain⟨m,hm⟩:=k0;exact DataW.trod_lt m _ _ _ hm
 have hb:Rows.uptoBulk d0<=1048576:=by
  have h:Rows.uptoBulkAll ([d0]++[])<=1048576:=dT hk;simp only[Rows.uptoBulkAll,List.cons_append,List.nil_append]at h;omega
 obtain⟨D,hf⟩:=h0;obtain⟨φ,S,ac,l,_,_,a2,X,_,hq⟩:=(mu (D+1)).1.2 enc W D oM _ d0 p0 hf hb [] [] (FQ W);have U:=tx _ ⟨S,S.length⟩ S.length ac l lR (Ru hq);have z:VRs φ [.agg ac.toArray] [.agg a0]:= .cons (.agg (by simpa [Value.cells] using X.1) (by simpa [Value.cells] using X.2)) (.nil φ);clear O;refine(Bz kR HP a2 z U).mono fun e W'⟨he,J⟩=>?_;subst he;exact⟨_,rfl,_,_,_,[],_,[],a1,trodAll_mk1 (shut_bool Tryz.underlying4 _),(trodAll_cons_mk (Below.trod jt kR (dT kR) k0 J a4) trodAll_mk0),rfl,J.frame _,fun h=>by cases h⟩
theorem LJ(J:Os)(u:J.Started)(H:Type)(enc:TypeId×Value->H)(F:Stop.Interp):
  ReturnsInHanded {} Tryz.checked J 7 .any ((Rows.OpenSpec.upto Rows.reachRowsSpec).preRow enc prog Tryz.f7 Rows.reachRowsUptoRow.domain false Rows.reachRowsUptoRow.laid) (((Rows.OpenSpec.upto Rows.reachRowsSpec).at F).post enc prog Tryz.f7 false true false false):=by
 obtain⟨O,hx⟩:=reads J enc;refine returnsInHanded_of_row (C:=Tryz.checked) (s:=Rows.OpenSpec.upto Rows.reachRowsSpec) own u kR Tryz.func7
  (witness_row_at (enc:=enc) (C:=Tryz.checked) false (gO J) #[JT] rfl kR kR kR
   (OpenSpec.preRow_of_cond 8 hx kR (fun k X=>by cases X;kernel_rfl) kR (qn J))) ?_
 intro W base args ds S z E U _ D _ hL _ _;exact DE H enc W base args ds S z E U (D _ rfl)
theorem Rx:Rows.ReachRowsUptoSaid:=
 OpenClaim.holds_of_cond 7 Tryz.f7 rfl rfl rfl rfl rfl rfl rfl ⟨rfl,rfl,rfl,rfl,rfl⟩ rfl rfl rfl rfl rfl kR Tryz.func7 kR
  (dT kR) (by unfold Func.isWrapper;first|(rw[if_pos (by decide+kernel)];kernel_rfl)|(rw[if_neg (by decide+kernel)];exact⟨rfl,rfl⟩))
  (fun z u H enc _ F=>by rw[OpenClaim.pre_eq_preRow];exact LJ z u H enc F)
theorem plain(f:FuncId)(u:Func)(E:Tryz.pinned.checked.prog.funcNamed "oriel/oriellaw21.ReachRows" =some f)(z:Tryz.pinned.checked.prog.funcs[f]?=some u):
  false=Tryz.pinned.checked.prog.looks []/\∀(j:Nat) t,u.params[j]?=some t->Tryz.pinned.checked.prog.wantsStandIn t=false:=by
 obtain rfl:f=7:=Option.some.inj ((show prog.funcNamed "oriel/oriellaw21.ReachRows" =some 7 from kR).symm.trans E) |>.symm;obtain rfl:u=Tryz.f7:=(Option.some.inj (Tryz.func7.symm.trans z)).symm;refine⟨kR,fun j t D=>?_⟩;rw[Tryz.params7]at D;obtain rfl:t=25:=by simpa using Array.mem_of_getElem? D
 exact(show prog.wantsStandIn 25=false from kR)
theorem cardUpto:Rows.ReachRowsUptoCardSaid:=
 Claim7.holds_tied_plain_at .later [] _ _ _ _ Rx (fun _ h=>by cases h) kR (fun _ h=>by cases h) reachRowsUpto_row_tie rfl ⟨rfl,rfl⟩ kR rfl plain kR
end Go.Proofs.YtofbhlhamfkljaaGreatDoor.reachRows
namespace Go.Proofs.YtofbhlhamfkljaaGreatDoor
open Go Go.RowKit
open Go.Proofs.Tryz (prog)
theorem reachRows_holds:Rows.ReachRowsUptoCardSaid:=reachRows.cardUpto
end Go.Proofs.YtofbhlhamfkljaaGreatDoor
