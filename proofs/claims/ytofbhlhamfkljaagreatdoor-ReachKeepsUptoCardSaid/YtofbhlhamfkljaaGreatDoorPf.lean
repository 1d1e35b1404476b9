/- ReachKeeps returns true for every path whose reading is of bulk at most 1048576, and the path reads behind the call as it read before. Conditions: what comes in is of bulk at most 1048576. -/
import Derived.Test.YtofbhlhamfkljaaGreatDoorPe
import Derived.Test.YtofbhlhamfkljaaGreatDoorProg
import Derived.KernelRfl
namespace Go.Proofs.YtofbhlhamfkljaaGreatDoor.Ve
open Go Go.RowKit
open Go.Proofs.Tryz (prog)
set_option linter.unusedVariables false
set_option linter.unusedSimpArgs false
set_option maxRecDepth 1000000
set_option maxHeartbeats 0
def NZ(r:ReD)(k:Nat):Prop:=∃(i a b:Nat)(e:EvD),r.how[k]?=some ((i:Int),(a:Int),(b:Int))∧r.labels[i]?=some e∧a<k∧b<k∧r.size.getD k 0=r.size.getD a 0+r.size.getD b 0+1∧iH r.sorts e.kind a b=true∧r.sorts[k]?=some (Y8 r.strat e (r.sorts.getD a soZ) (r.sorts.getD b soZ))
structure N0(r:ReD)(m:Int):Prop where
 l2:r.size.length=r.sorts.length
 l3:r.how.length=r.sorts.length
 s0:r.sorts[0]?=some soZ
 z0:r.size[0]?=some 0
 from_:∀k,1≤k→k<r.sorts.length→NZ r k
 rise:∀k,1≤k→k<r.sorts.length→r.size.getD (k-1) 0≤r.size.getD k 0
 apart:∀(i j:Nat)(x y:SoD),i<j→r.sorts[i]?=some x→r.sorts[j]?=some y→fo y x=false
 most:∀k,k<r.sorts.length→r.size.getD k 0≤m
 l1:r.sorts.length≤25
theorem N0.later{r:ReD}{m u:Int}(h:N0 r m)(z:m≤u):N0 r u:=⟨h.l2,h.l3,h.s0,h.z0,h.from_,h.rise,h.apart,fun k y=>Int.le_trans (h.most k y) z,h.l1⟩
theorem N9{α:Type}(l:List α)(x d:α)(k:Nat)(h:k<l.length):(l++[x]).getD k d=l.getD k d:=by
 rw[List.getD_eq_getElem?_getD,List.getD_eq_getElem?_getD,List.getElem?_append_left h]
theorem cj{α:Type}(l:List α)(x d:α):(l++[x]).getD l.length d=x:=by
 rw[List.getD_eq_getElem?_getD,List.getElem?_append_right lR];simp
theorem rj{y:List SoD}{x:SoD}{u f n:Int}(h:iH y u f n=true):iH (y++[x]) u f n=true:=by
 simp only[iH,knB,Bool.and_eq_true,decide_eq_true_eq,List.length_append,List.length_singleton]at h ⊢;obtain⟨⟨⟨z,I⟩,D,J⟩,E⟩:=h;refine⟨⟨⟨z,oM⟩,D,oM⟩,?_⟩;rw[N9 _ _ _ _ oM];exact E
theorem N0.add{r:ReD}{size:Int}(h:N0 r size){i a b:Nat}{e:EvD}(hl:r.labels[i]?=some e)(ha:a<r.sorts.length)(hb:b<r.sorts.length)(hs:size=r.size.getD a 0+r.size.getD b 0+1)(hm:iH r.sorts e.kind a b=true):
  N0 (aQ r (Y8 r.strat e (r.sorts.getD a soZ) (r.sorts.getD b soZ)) size (i,a,b)).1 size:=by
 obtain⟨x,hx⟩:∃x,x=Y8 r.strat e (r.sorts.getD a soZ) (r.sorts.getD b soZ):=⟨_,rfl⟩
 rw[←hx];unfold aQ;split
 ·exact h
 ·rename_i a2;split
  ·exact h
  ·rename_i a3;simp only[Bool.or_eq_true,decide_eq_true_eq,not_or]at a3;have E:(r.sorts++[x]).length=r.sorts.length+1:=by simp
   have U:∀y∈r.sorts,fo x y=false:=fun y hy=>by
    cases hq:fo x y with
    |false=>rfl
    |true=>exact absurd (List.any_eq_true.2 ⟨y,hy,hq⟩) a2
   have l0:0<r.sorts.length:=oM;have l2:=h.l2;have l3:=h.l3;refine⟨by simp [h.l2],by simp [h.l3],by rw[List.getElem?_append_left l0];exact h.s0,by rw[List.getElem?_append_left oM];exact h.z0,fun k O I=>?_,fun k O I=>?_,fun i j u v X hu J=>?_,fun k O=>?_,by show(r.sorts++[x]).length≤25;omega⟩
   ·have S:k<r.sorts.length+1:=by rw[←E];exact I
    by_cases D:k<r.sorts.length
    ·obtain⟨i',a',W,e',f1,f2,f3,f4,f5,f6,f7⟩:=h.from_ k O D;refine⟨i',a',W,e',by rw[List.getElem?_append_left oM];exact f1,f2,f3,f4,?_,rj f6,?_⟩
     ·show(r.size++[size]).getD k 0=(r.size++[size]).getD a' 0+(r.size++[size]).getD W 0+1;rw[N9 _ _ _ _ oM,N9 _ _ _ _ oM,N9 _ _ _ _ oM];exact f5
     ·show(r.sorts++[x])[k]?=some (Y8 r.strat e' ((r.sorts++[x]).getD a' soZ) ((r.sorts++[x]).getD W soZ));rw[List.getElem?_append_left D,N9 _ _ _ _ oM,N9 _ _ _ _ oM];exact f7
    ·have z:k=r.sorts.length:=oM;subst z;refine⟨i,a,b,e,by rw[List.getElem?_append_right oM,l3,Nat.sub_self];rfl,hl,ha,hb,?_,rj hm,?_⟩
     ·show(r.size++[size]).getD r.sorts.length 0=(r.size++[size]).getD a 0+(r.size++[size]).getD b 0+1;have e1:(r.size++[size]).getD r.sorts.length 0=size:=by rw[←l2];exact cj _ _ _
      rw[e1,N9 _ _ _ a oM,N9 _ _ _ b oM];exact hs
     ·show(r.sorts++[x])[r.sorts.length]?=some (Y8 r.strat e ((r.sorts++[x]).getD a soZ) ((r.sorts++[x]).getD b soZ));rw[List.getElem?_append_right lR,Nat.sub_self,N9 _ _ _ _ ha,N9 _ _ _ _ hb,←hx];rfl
   ·have S:k<r.sorts.length+1:=by rw[←E];exact I
    show(r.size++[size]).getD (k-1) 0≤(r.size++[size]).getD k 0;rw[N9 _ _ _ _ oM];by_cases D:k<r.sorts.length
    ·rw[N9 _ _ _ _ oM];exact h.rise k O D
    ·have z:k=r.size.length:=oM;rw[z,cj];exact h.most _ oM
   ·have hj:=(List.getElem?_eq_some_iff.1 J).1;simp only[List.length_append,List.length_singleton]at hj;rw[List.getElem?_append_left oM]at hu;by_cases a1:j<r.sorts.length
    ·rw[List.getElem?_append_left a1]at J;exact h.apart i j u v X hu J
    ·rw[List.getElem?_append_right oM]at J;have:j-r.sorts.length=0:=oM;rw[this]at J;simp at J;subst J;exact U u (List.mem_of_getElem? hu)
   ·have a4:k<r.sorts.length+1:=by rw[←E];exact O
    show(r.size++[size]).getD k 0≤size;by_cases D:k<r.sorts.length
    ·rw[N9 _ _ _ _ oM];exact h.most k D
    ·have z:k=r.size.length:=oM;rw[z,cj];exact Int.le_refl _
theorem gE{α:Type}{l m:List α}(h:l<+:m){k:Nat}(u:k<l.length)(d:α):m.getD k d=l.getD k d:=by
 obtain⟨t,rfl⟩:=h;rw[List.getD_eq_getElem?_getD,List.getD_eq_getElem?_getD,List.getElem?_append_left u]
theorem eh{size:Int}{a b:Nat}:∀(l:List EvD)(i:Nat)(r:ReD),N0 r size→r.labels.drop i=l→a<r.sorts.length→b<r.sorts.length→size=r.size.getD a 0+r.size.getD b 0+1→N0 (Q0 size a b l i r).1 size∧r.size<+:(Q0 size a b l i r).1.size∧(Q0 size a b l i r).1.labels=r.labels∧(Q0 size a b l i r).1.strat=r.strat
 |[],i,r,h,_,_,_,_=>⟨h,List.prefix_rfl,rfl,rfl⟩
 |e::l,i,r,h,hd,ha,hb,hs=>by
  have E:r.labels[i]?=some e:=by rw[←List.head?_drop,hd];rfl
  have u:r.labels.drop (i+1)=l:=by rw[←List.tail_drop,hd];rfl
  rw[Q0];have W:(a:Int).toNat=a:=tN a;have X:(b:Int).toNat=b:=tN b;rw[W,X];split
  ·rename_i I;have z:=h.add E ha hb hs I;obtain⟨p1,p2,y,D⟩:=fy r (Y8 r.strat e (r.sorts.getD a soZ) (r.sorts.getD b soZ)) size (i,a,b);have l2:=h.l2;split
   ·obtain⟨J,O,S,U⟩:=eh l (i+1) _ z (by rw[p2];exact u) (Nat.lt_of_lt_of_le ha D.length_le) (Nat.lt_of_lt_of_le hb D.length_le) (by rw[gE y oM,gE y oM];exact hs);exact⟨J,y.trans O,S.trans p2,U.trans p1⟩
   ·exact⟨z,y,p2,p1⟩
  ·exact eh l (i+1) r h u ha hb hs
theorem jl{size:Int}{m:Nat}{s0:List Int}:∀(L:List (Nat×Nat))(r:ReD),N0 r size→(∀x∈L,x.1<m∧x.2<m∧size=s0.getD x.1 0+s0.getD x.2 0+1)→m≤s0.length→s0<+:r.size→N0 (cD size L r).1 size∧(cD size L r).1.labels=r.labels∧(cD size L r).1.strat=r.strat
 |[],r,h,_,_,_=>⟨h,rfl,rfl⟩
 |x::L,r,h,hL,hm,hs=>by
  obtain⟨X,h2,E⟩:=hL x (by simp);have I:=hs.length_le;have l2:=h.l2;obtain⟨u,W,z,D⟩:=eh r.labels 0 r h (by rw[List.drop_zero]) (show x.1<r.sorts.length from oM) (show x.2<r.sorts.length from oM) (by rw[gE hs oM,gE hs oM];exact E);rw[cD];split
  ·obtain⟨O,S,U⟩:=jl L _ u (fun y J=>hL y (by simp [J])) hm (hs.trans W);exact⟨O,S.trans z,U.trans D⟩
  ·exact⟨u,z,D⟩
theorem qK{r:ReD}{size:Int}(h:N0 r size):N0 (jm r size).1 size∧(jm r size).1.labels=r.labels∧(jm r size).1.strat=r.strat:=by
 have l2:=h.l2;refine jl (m:=r.sorts.length) (s0:=r.size) _ r h (fun x z=>?_) oM List.prefix_rfl;unfold ch at z;obtain⟨a,I,y⟩:=List.mem_flatMap.1 z;unfold gX at y;obtain⟨b,u,rfl⟩:=List.mem_map.1 y;obtain⟨D,E⟩:=List.mem_filter.1 u;exact⟨List.mem_range.1 I,List.mem_range.1 D,by simpa using (dT E).symm⟩
theorem lq:∀(k:Nat)(r:ReD)(size:Int){u:ReD},N0 r size→mD k r size=some u→(∃m,N0 u m)∧u.labels=r.labels∧u.strat=r.strat
 |0,r,size,u,h,hr=>by rw[mD]at hr;cases hr;exact⟨⟨_,h⟩,rfl,rfl⟩
 |k+1,r,size,u,h,hr=>by
  rw[mD]at hr;split at hr
  ·split at hr
   ·obtain⟨E,I,J⟩:=qK h;obtain⟨y,z,D⟩:=lq k _ (size+1) (E.later oM) hr;exact⟨y,z.trans I,D.trans J⟩
   ·cases hr
  ·cases hr;exact⟨⟨_,h⟩,rfl,rfl⟩
theorem js{q:Q}{r:ReD}(h:rg q=some r):(∃m,N0 r m)∧r.strat=D0 q∧∃l,S8 (spQ q)=some l∧r.labels=l:=by
 unfold rg at h;split at h
 ·cases h
 ·rename_i l I;obtain⟨O,S,U⟩:=lq 401 ⟨D0 q,l,[soZ],[0],[(0,0,0)]⟩ 1 ⟨rfl,rfl,rfl,rfl,fun k z u=>by simp at u;omega,fun k z u=>by simp at u;omega,fun i j x y D W J=>by
   have:=(List.getElem?_eq_some_iff.1 J).1;simp at this;omega,fun k E=>by
   have:k=0:=by simpa using E
   subst this;show(0:Int)≤1;omega,by simp⟩ h
  exact⟨O,U,l,I,S⟩
def SlO(H:d9)(F:Nat→Prop)(sz:Nat){α:Type}(R:LV→α→Prop)(v:Value)(l:List α):Prop:=
 (v=nS∧l=[])∨
 ∃b o c,v= .slice (some ⟨b,o,none⟩) l.length c∧
  (l=[]∨∃cs,F b∧H.get b=some (.cells cs true sz)∧o+l.length*sz≤cs.length∧∀(i:Nat) a,l[i]?=some a→R ((cs.drop (o+i*sz)).take sz) a)
theorem SlO.mono{H H':d9}{F F':Nat→Prop}{sz:Nat}{α:Type}{R:LV→α→Prop}{v:Value}{l:List α}(h:SlO H F sz R v l)(E:∀j,F j→H'.get j=H.get j) (D:∀j,F j→F' j):SlO H' F' sz R v l:=by
 rcases h with h|⟨b,o,c,I,h⟩
 ·exact .inl h
 ·exact .inr ⟨b,o,c,I,h.imp id fun⟨cs,u,y,z⟩=>⟨cs,D _ u,(E _ u).trans y,z⟩⟩
theorem SlO.slf{H:d9}{F:Nat→Prop}{sz:Nat}{α:Type}{R:LV→α→Prop}{v:Value}{l:List α}(h:SlO H F sz R v l):SlF H F sz R v l:=by
 rcases h with h|⟨b,o,c,D,h⟩
 ·exact .inl h
 ·exact .inr ⟨b,o,c,D,h.imp id fun⟨cs,u,y,z⟩=>⟨cs,true,u,y,z⟩⟩
theorem t7.slo{H:d9}{lo sz:Nat}{α:Type}{R:LV→α→Prop}{v:Value}{l:List α}(h:t7 H lo sz R v l):SlO H (fun j=>lo≤j∧j<H.next) sz R v l:=by
 obtain⟨cs,y,z⟩:=h;rcases y with⟨rfl,u,rfl⟩|⟨b,c,rfl,u,D,I⟩
 ·exact .inl ⟨rfl,by simpa using u⟩
 ·refine .inr ⟨b,0,c,rfl,.inr ⟨cs,⟨D,u6 u⟩,u,oM,fun i a E=>?_⟩⟩;rw[Nat.zero_add];exact z.2 i a E
def EvO(H:d9)(F:Nat→Prop)(cs:LV)(e:EvD):Prop:=∃v,cs=[iV e.kind,.string e.space,.string e.loc,v,.string e.text]∧SlO H F 3 (v8 atE) v e.attrs
theorem EvO.mono{H H':d9}{F F':Nat→Prop}{cs:LV}{e:EvD}(h:EvO H F cs e)(D:∀j,F j→H'.get j=H.get j) (z:∀j,F j→F' j):EvO H' F' cs e:=by
 obtain⟨v,u,y⟩:=h;exact⟨v,u,y.mono D z⟩
structure jB(lo:Nat)(H:d9)(v:Value)(l:List EvD)(G:Nat→Prop):Prop where
 own:t7 H lo 5 (EvO H G) v l
 fr:∀j,G j→lo≤j∧j<H.next∧¬j9 v j
theorem jB.keep{lo:Nat}{H H':d9}{v:Value}{l:List EvD}{G:Nat→Prop}(h:jB lo H v l G)(u:i4 H.next H H'):jB lo H' v l G:=by
 have:=u.next;exact⟨(h.own.imp fun cs e q=>q.mono (fun j y=>u.get j (h.fr j y).2.1) (fun _ h=>h)).keep u,fun j y=>by have:=h.fr j y;exact⟨this.1,oM,this.2.2⟩⟩
theorem jB.app{lo n:Nat}{H:d9}{v x:Value}{l l2:List EvD}{G G2:Nat→Prop}(h:jB lo H v l G)(J:SlI H n 5 (EvO H G2) x l2)(D:∀j,G2 j→lo≤j∧j<H.next∧¬j9 v j) (hl:l.length+l2.length≤1000000) (E:lo≤H.next):
  Ret (C3 prog H [35,35] v x) H fun v' H'=>jB lo H' v' (l++l2) (fun j=>G j∨G2 j)∧X7 lo v H v' H':=by
 have U:t7 H lo 5 (EvO H (fun j=>G j∨G2 j)) v l:=h.own.imp fun cs e q=>q.mono (fun _ _=>rfl) (fun _=> .inl);have W:SlI H n 5 (EvO H (fun j=>G j∨G2 j)) x l2:=J.mono (fun _ _=>rfl) lR (fun cs e q=>q.mono (fun _ _=>rfl) (fun _=> .inr));obtain⟨v',I,H',X,r2,r3,z⟩:=U.appendF (P:=prog) (t:=35) (by exact uT.2.2.2.2.2.2) aG.1 aG.2.1 aG.2.2.1 oM oM W oM E;have hn:=z.next;have u:∀j,(G j∨G2 j)→lo≤j∧j<H.next∧¬j9 v j:=fun j y=>y.elim (h.fr j) (D j);refine⟨v',I,H',X,r2,⟨r3.imp fun cs e q=>q.mono (fun j y=>z.but j (u j y).2.1 (u j y).2.2) (fun _ h=>h),fun j y=>?_⟩,z⟩;obtain⟨O,k2,S⟩:=u j y;refine⟨O,oM,fun q=>?_⟩;rcases z.new j q with q|q
 ·exact S q
 ·omega
def zI:EvD:=⟨3,eB,eB,[],eB⟩
def eD(r:ReD):Nat→Int→List EvD
 |0,_=>[]
 |n+1,k=>if k≤0∨(r.sorts.length:Int)≤k then [] else
  match r.how[k.toNat]? with
  |some (i,a,b)=>match r.labels[i.toNat]? with
   |some e=>([e]++(if e.kind=1 then eD r n a++[zI] else []))++eD r n b
   |none=>[]
  |none=>[]
theorem rI{r:ReD}{m:Int}(J:N0 r m)(u:∀x∈r.size,0≤x∧x≤200):∀(n:Nat)(k:Int),((eD r n k).length:Int)≤2*r.size.getD k.toNat 0:=by
 have h:∀i,0≤r.size.getD i 0:=fun i=>by
  rw[List.getD_eq_getElem?_getD];cases O:r.size[i]? with
  |none=>exact Int.le_refl _
  |some x=>exact(u x (List.mem_of_getElem? O)).1
 intro n;induction n with
 |zero=>intro k;have:=h k.toNat;simp only[eD,List.length_nil];omega
 |succ n y=>
  intro k;rw[eD];split
  ·have:=h k.toNat;simp only[List.length_nil];omega
  ·rename_i S;obtain⟨i,a,b,e,z,D,f3,f4,f5,f6,f7⟩:=J.from_ k.toNat oM oM;rw[z];simp only[Int.toNat_natCast];rw[D];have E:=y a;have I:=y b;rw[Int.toNat_natCast]at E I;have U:=h a;simp only[List.length_append,List.length_singleton];split
   ·simp only[List.length_append,List.length_singleton];omega
   ·simp only[List.length_nil];omega
theorem nR{r:ReD}{m:Int}(E:N0 r m):∀(n u:Nat)(k:Int),k.toNat<n→k.toNat<u→eD r n k=eD r u k:=by
 intro n;induction n with
 |zero=>intro u k h;omega
 |succ n y=>
  intro u k h I;obtain⟨p,rfl⟩:∃p,u=p+1:=⟨u-1,oM⟩
  rw[eD,eD];split
  ·rfl
  ·rename_i J;obtain⟨i,a,b,e,z,D,f3,f4,f5,f6,f7⟩:=E.from_ k.toNat oM oM;rw[z];simp only[Int.toNat_natCast];rw[D];have O:(a:Int).toNat=a:=tN a;have S:(b:Int).toNat=b:=tN b;simp only;rw[y p a oM oM,y p b oM oM]
theorem aD.mono{H H':d9}{F F':Nat→Prop}{D E:LV→Q→Prop}{z:LV}{r:ReD}(h:aD H F D E z r)(y:∀j,F j→H'.get j=H.get j) (u:∀j,F j→F' j):aD H' F' D E z r:=by
 obtain⟨X,vl,w1,w2,w3,I,J,O,S,U,W⟩:=h;exact⟨X,vl,w1,w2,w3,I,J.mono y u iF iF,O.mono y u (fun _ _ q=>w9 _ _ _ _ _ _ q y u),S.mono y u iF,U.mono y u iF,W.mono y u iF⟩
theorem jB.low{lo:Nat}{H:d9}{v:Value}{l:List EvD}{G:Nat→Prop}(h:jB lo H v l G)(n:Nat):jB lo ⟨H.bs,n⟩ v l G:=
 ⟨(h.own.imp fun cs e q=>q.mono (fun _ _=>rfl) (fun _ h=>h)).low n,h.fr⟩
def sw(H:d9)(l:List EvD)(v:Value)(H':d9):Prop:=(∃G,jB H.next H' v l G)∧i4 H.next H H'
theorem XH(Rp Rt:LV→Q→Prop)(r:ReD)(m:Int)(hg:N0 r m)(c9:∀x∈r.size,0≤x∧x≤200) (k3:∀e∈r.labels,e.attrs.length≤1000000):∀(n:Nat)(k:Int)(H:d9)(y:LV),k.toNat≤n→aD H (· <H.next) Rp Rt y r→y.length=12→y.all Value.oneCell'=true→
  Ret (CL prog t6 14 [.agg y.toArray,iV k] H) H (sw H (eD r (n+1) k)):=by
 intro n;induction n using Nat.strongRecOn with
 |ind n ih=>
 intro k H y o4 hR a6 E;have j4:=hR;obtain⟨rs,vl,w1,w2,w3,a5,o7,e3,k9,o8,e2⟩:=hR;have d0:rs.length=8:=by rw[a5]at a6;simpa using a6
 have q8:y[8]?=some vl:=by rw[a5,List.getElem?_append_right oM,d0];rfl
 have q9:y[9]?=some w1:=by rw[a5,List.getElem?_append_right oM,d0];rfl
 have g4:y[11]?=some w3:=by rw[a5,List.getElem?_append_right oM,d0];rfl
 obtain⟨sa,sc,rfl⟩:=k9.slice;obtain⟨la,lc,rfl⟩:=e3.slice;obtain⟨ha,hc,rfl⟩:=e2.slice;obtain⟨H1,I,n1,-⟩:=pushF H (.cells y true 1);have s1:i4 H.next H H1:=by rw[I];exact i4.first H _
 have g1:H1.get H.next=cE y 1:=by rw[I];exact i7
 rw[j8 aa5 rfl _ (by simp),eD];have c3:sw H [] (nS) H:=⟨⟨fun _=>False,⟨[],.inl ⟨rfl,rfl,rfl⟩,D2.nil⟩,fun j z=>z.elim⟩,i4.refl _ _⟩
 rcases b1:decide (k≤0)with _|_
 ·have m7:=dF b1;rcases b2:decide ((r.sorts.length:Int)≤k)with _|_
  ·have m8:=dF b2;rw[if_neg oM];obtain⟨i,a,b,e,f1,f2,f3,f4,f5,f6,f7⟩:=hg.from_ k.toNat oM oM;rw[f1];simp only[Int.toNat_natCast];rw[f2];simp only;have o6:=hg.l3;have o3:=(List.getElem?_eq_some_iff.1 f2).1;obtain⟨hw,hb,ho,o2,m3,k5,hx,_,rfl,j2,k6,m1,a8,o0,k0⟩:=e2.row (i:=k.toNat) oM;rw[f1]at hx;cases hx;obtain rfl:k5=hoE ((i:Int),(a:Int),(b:Int)):=k0;obtain⟨ev,lb,lo,l4,g0,D,e6,_,rfl,j3,k7,m2,a9,o1,k1⟩:=e3.row (i:=i) oM;rw[f2]at e6;cases e6;obtain⟨av,a1,e4⟩:=id k1;have b3:D.length=5:=by rw[a1];rfl
   have b7:D.all Value.oneCell'=true:=by
    obtain⟨aa,ac,rfl⟩:=e4.slice;rw[a1];rfl
   have o9:D[0]?=some (.int .i64 e.kind):=by rw[a1];rfl
   have e7:D[3]?=some av:=by rw[a1];rfl
   have o5:((k.toNat:Nat):Int)=k:=Int.toNat_of_nonneg oM;obtain⟨H2,J⟩:∃K,K=H1.push (.cells [iV 0,iV 0,iV 0] true 1):=⟨_,rfl⟩
   have n2:H2.next=H.next+2:=by rw[J,i5,n1]
   have x2:H2.get (H.next+1)=cE [iV 0,iV 0,iV 0] 1:=by rw[J,←n1];exact i7
   obtain⟨H3,O⟩:∃K,K=H2.put (H.next+1) (.cells [iV i,iV a,iV b] true 1):=⟨_,rfl⟩
   have n3:H3.next=H.next+2:=by rw[O,j5,n2]
   have x3:H3.get (H.next+1)=cE [iV i,iV a,iV b] 1:=by rw[O];exact i8 oM
   have y3:∀j,j<H.next+1→H3.get j=H1.get j:=fun j z=>by rw[O,i9 oM,J,j6 oM]
   obtain⟨H4,S⟩:∃K,K=H3.push (.cells [iV 0,.string eB,.string eB,nS,.string eB] true 1):=⟨_,rfl⟩
   have n4:H4.next=H.next+3:=by rw[S,i5,n3]
   have x4:H4.get (H.next+2)=cE [iV 0,.string eB,.string eB,nS,.string eB] 1:=by rw[S,←n3];exact i7
   obtain⟨H5,U⟩:∃K,K=H4.put (H.next+2) (.cells D true 1):=⟨_,rfl⟩
   have n5:H5.next=H.next+3:=by rw[U,j5,n4]
   have x5:H5.get (H.next+2)=cE D 1:=by rw[U];exact i8 oM
   have y5:∀j,j<H.next+2→H5.get j=H3.get j:=fun j z=>by rw[U,i9 oM,S,j6 oM]
   have z5:∀j,j<H.next→H5.get j=H.get j:=fun j z=>by rw[y5 j oM,y3 j oM,s1.get j z]
   have s5:i4 H.next H H5:=by
    rw[U,S,O,J];exact s1.trans ((((i4.push oM).trans (i4.put oM)).trans (i4.push (by rw[j5,i5];omega))).trans (i4.put oM))
   obtain⟨v2,h2,H6,g6,c5,d6,s6⟩:=vn (v8 atE) H5 H.next av e.attrs oM (e4.mono (fun j z=>z5 j z) (fun _ h=>h) iF) (k3 e (List.mem_of_getElem? f2));have n6:=s6.next;obtain⟨u,a2⟩:∃q,q=D.set 3 v2:=⟨_,rfl⟩
   have b0:u.length=5:=by rw[a2];simp [b3]
   obtain⟨p4,p5,b6⟩:=d6.slice;have g2:Value.oneCell' v2=true:=by rw[b6];rfl
   have d3:v2.cells.toList=[v2]:=by rw[b6];rfl
   have a3:u=[iV e.kind,.string e.space,.string e.loc,v2,.string e.text]:=by rw[a2,a1];rfl
   have i3:u.all Value.oneCell'=true:=by rw[a3,b6];rfl
   have h7:splice D 3 [v2]=u:=by rw[a2,a1];rfl
   have g9:splice [iV 0,.string eB,.string eB,nS,.string eB] 0 D=D:=by rw[a1];rfl
   have i1:y.take 12=y:=List.take_of_length_le oM;have p3:D.take 5=D:=List.take_of_length_le oM;have i0:u.take 5=u:=List.take_of_length_le oM;have x6:=(s6.get (H.next+2) oM).trans x5;obtain⟨H7,W⟩:∃K,K=H6.put (H.next+2) (.cells u true 1):=⟨_,rfl⟩
   have n7:H7.next=H6.next:=by rw[W,j5]
   have x7:H7.get (H.next+2)=cE u 1:=by rw[W];exact i8 oM
   have d4:u[0]?=some (.int .i64 e.kind):=by rw[a3];rfl
   obtain⟨H8,X⟩:∃K,K=H7.push (.cells u true 5):=⟨_,rfl⟩
   have n8:H8.next=H6.next+1:=by rw[X,i5,n7]
   have d2:bsA prog (some 51) H7 1 [(0,.agg u.toArray)]=some (.slice (some ⟨H7.next,0,none⟩) 1 1,H8):=by
    rw[X,a3,b6];simp only[C7,aG,C8];rfl
   have x8:H8.get (H.next+2)=cE u 1:=by rw[X,j6 oM];exact x7
   have b8:=(s1.get hb j2).trans k6;have b9:H3.get lb=some (.cells l4 g0 5):=by rw[y3 lb oM,s1.get lb j3];exact k7
   have m0:=y3 H.next oM;have g3:=m0.trans g1;have y8:∀j,j<H.next+2→H8.get j=H5.get j:=fun j z=>by rw[X,j6 oM,W,i9 oM,s6.get j oM]
   have g8:H8.get H.next=cE y 1:=by rw[y8 _ oM,y5 _ oM];exact g3
   have h8:H8.get (H.next+1)=cE [iV i,iV a,iV b] 1:=by rw[y8 _ oM,y5 _ oM];exact x3
   have z8:∀j,j<H.next→H8.get j=H.get j:=fun j z=>by rw[y8 j oM,z5 j z]
   have e8:H1.low=H.next:=by rw[I];rfl
   have e9:H.next≤H5.low:=by rw[U,A4,S,t5,O,A4,J,t5,e8];omega
   have m6:H.next≤H6.low:=s6.lowAll H.next oM e9;have c0:H.next≤H8.low:=by rw[X,t5,W,A4];omega
   have s8:i4 H.next H H8:=⟨oM,fun k hk q=>oM,z8⟩
   have m5:=rI hg c9 (b+1) b;have m4:=rI hg c9 (a+1) a;have h9:∀i,r.size.getD i 0≤200:=fun i=>by
    rw[List.getD_eq_getElem?_getD];cases hq:r.size[i]? with
    |none=>decide
    |some x=>exact(c9 x (List.mem_of_getElem? hq)).2
   have zb:=h9 (b:Int).toNat;have za:=h9 (a:Int).toNat;have e1:∀Hx:d9,i4 H.next H Hx→aD Hx (· <Hx.next) Rp Rt y r:=fun Hx hx=>j4.mono (fun j z=>hx.get j z) (fun j z=>by have:=hx.next;omega);have O0:jB H.next H8 (.slice (some ⟨H7.next,0,none⟩) 1 1) [e] (fun j=>H5.next≤j∧j<H6.next):=by
    refine⟨⟨u,.inr ⟨H7.next,1,rfl,by rw[X];exact i7,oM,b0⟩,D2.one b0 ⟨v2,a3,d6.slo.mono (fun j z=>?_) (fun _ h=>h)⟩⟩,fun j z=>⟨oM,oM,by rw[I6];omega⟩⟩;rw[X,j6 oM,W,i9 oM]
   have d5:∀(Hc:d9)(w:Value)(l:List EvD)(G:Nat→Prop),i4 H.next H Hc→H.next≤Hc.low→jB H.next Hc w l G→1≤l.length→l.length≤1000→
     ∃v h v' h',CL prog t6 14 [.agg y.toArray,iV (b:Int)] Hc=dr v h∧C3 prog (h.getD Hc) [35,35] w v=dr v' h'∧Ret (some (D4 v' H (h'.getD (h.getD Hc)))) H (sw H (l++eD r n b)):=by
    intro Hc w l G sc lc hO l1 l2;have nc:=sc.next;obtain⟨v3,h3,H9,b4,c4,⟨G3,O3⟩,s9⟩:=ih b oM (b:Int) Hc y (by rw[Int.toNat_natCast];exact lR) (e1 Hc sc) a6 E;have n9:=s9.next;obtain⟨v4,h4,i2,ra,l6,O4,b5⟩:=(hO.keep s9).app (x:=v3) (n:=H9.next) O3.own.sl (fun j z=>by
     have:=O3.fr j z;exact⟨oM,this.2.1,fun q=>by have:=(hO.own.lt q).2;omega⟩) oM oM
    have p0:=b5.next;have b5:=b5.stay;refine⟨v3,h3,v4,h4,b4,by rw[c4];exact ra,?_⟩;rw[c4,l6];have k4:eD r (b+1) b=eD r n b:=nR hg _ _ _ (by rw[Int.toNat_natCast];omega) (by rw[Int.toNat_natCast];omega);rw[k4]at O4;have hs:i4 H.next H i2:=sc.trans ((s9.weaken oM).trans b5);refine D7 (fun k8 _=>?_) ⟨⟨_,O4.low _⟩,hs.ret (b5.lowAll _ lR (s9.lowAll _ oM lc))⟩
    exfalso
    obtain⟨m9,j1,n0⟩:=O4.own;rcases j1 with⟨_,h0,_⟩|⟨b',c',rfl,_⟩
    ·rw[List.length_append]at h0;omega
    ·simp [L0,na1,na0]at k8
   rcases bk:decide (e.kind=1)with _|_
   ·have c6:=dF bk;rw[if_neg c6,List.append_nil];obtain⟨v,h,v',h',b4,ra,a4⟩:=d5 H8 _ [e] _ s8 c0 O0 (by simp) (by simp);refine J30 E I.symm b1 b2 g1 q8 q9 g4 n1 J.symm x2 a8 b8 O.symm n3 (And.intro x3 g3) (And.intro b9 a9) (And.intro S.symm x4) (And.intro b3 b7) (And.intro g9 U.symm) (And.intro x5 e7) (And.intro g6 c5) (And.intro x6 g2) (And.intro d3 h7) (And.intro W.symm x7) (And.intro i0 d2) (And.intro x8 d4) (And.intro bk g8) (And.intro h8 i1) (And.intro b4 ra) ?_;exact a4
   ·have c6:=dT bk;rw[if_pos c6];obtain⟨v1,h1,Ha,g5,d1,⟨G1,O1⟩,a7⟩:=ih a oM (a:Int) H8 y (by rw[Int.toNat_natCast];exact lR) (e1 H8 s8) a6 E;have na:=a7.next;obtain⟨v5,h5,Hb,l5,g7,O5,w5⟩:=(O0.keep a7).app (x:=v1) (n:=Ha.next) O1.own.sl (fun j z=>by
     have:=O1.fr j z;exact⟨oM,this.2.1,by rw[I6];omega⟩) (by rw[List.length_singleton];omega) oM
    have nb:=w5.next;obtain⟨Hk,c7,nk,-⟩:=pushE Hb (.cells [iV 3,.string eB,.string eB,nS,.string eB] true 5);have sk:i4 Hb.next Hb Hk:=by rw[c7];exact i4.push lR
    have j0:bsA prog (some 51) Hb 1 [(0,.agg #[iV 3,.string eB,.string eB,nS,.string eB])]=some (.slice (some ⟨Hb.next,0,none⟩) 1 1,Hk):=by
     rw[c7];simp only[C7,aG,C8];rfl
    have Ok:t7 Hk H.next 5 (EvO Hk fun _=>False) (.slice (some ⟨Hb.next,0,none⟩) 1 1) [zI]:=by
     rw[c7];exact t7.fresh rfl oM (D2.one rfl ⟨_,rfl,.inl ⟨rfl,rfl⟩⟩)
    obtain⟨v6,h6,Hd,rc,l8,O6,w6⟩:=(O5.keep sk).app (x:= .slice (some ⟨Hb.next,0,none⟩) 1 1) (n:=Hk.next) (G2:=fun _=>False) Ok.sl (fun j z=>z.elim) (by simp only[List.length_append,List.length_singleton];omega) oM;have nd:=w6.next;have sd:i4 H.next H Hd:=s8.trans ((a7.weaken oM).trans (w5.stay.trans ((sk.weaken oM).trans w6.stay)));have f0:H.next≤Hd.low:=w6.stay.lowAll _ lR (sk.lowAll _ oM (w5.stay.lowAll _ lR (a7.lowAll _ oM c0)));have yd:∀j,j<H.next+2→Hd.get j=H8.get j:=fun j z=>by
     have e5:¬j9 v5 j:=fun q=>by
      rcases w5.new j q with q|q
      ·rw[I6]at q;omega
      ·omega
     rw[w6.but j oM e5,sk.get j oM,w5.but j oM (by rw[I6];omega),a7.get j oM]
    have gd:=(yd H.next oM).trans g8;have hd:=(yd (H.next+1) oM).trans h8;have ga:Ha.get (H.next+1)=cE [iV i,iV a,iV b] 1:=(a7.get _ oM).trans h8;obtain⟨v,h,v',h',b4,ra,a4⟩:=d5 Hd v6 _ _ sd f0 O6 (by simp only[List.length_append,List.length_singleton];omega) (by simp only[List.length_append,List.length_singleton];omega);have k2:eD r (a+1) a=eD r n a:=nR hg _ _ _ (by rw[Int.toNat_natCast];omega) (by rw[Int.toNat_natCast];omega);rw[k2,List.append_assoc [e]]at a4;refine J30 E I.symm b1 b2 g1 q8 (And.intro q9 g4) (And.intro n1 J.symm) (And.intro x2 a8) (And.intro b8 O.symm) (And.intro n3 x3) (And.intro g3 b9) (And.intro a9 S.symm) (And.intro x4 b3) (And.intro b7 g9) (And.intro U.symm x5) (And.intro e7 g6) (And.intro c5 x6) (And.intro g2 d3) (And.intro h7 W.symm) (And.intro x7 i0) (And.intro d2 x8) (And.intro d4 bk) (And.intro g8 h8) (And.intro i1 g5) (And.intro d1 l5) (And.intro g7 j0) (And.intro rc l8) (And.intro gd hd) (And.intro b4 ra) ?_;exact a4
  ·rw[if_pos (.inr (dT b2))];refine J6 E I.symm b1 b2 g1 q9 ?_;have c8:H.next≤H1.low:=by rw[I];exact lR
   refine D7 (fun _ _=>c3) ?_;exact⟨⟨fun _=>False,⟨[],.inl ⟨rfl,rfl,rfl⟩,D2.nil⟩,fun j z=>z.elim⟩,s1.ret c8⟩
 ·rw[if_pos (.inl (dT b1))];refine J3 E I.symm b1 ?_;have c8:H.next≤H1.low:=by rw[I];exact lR
  refine D7 (fun _ _=>c3) ?_;exact⟨⟨fun _=>False,⟨[],.inl ⟨rfl,rfl,rfl⟩,D2.nil⟩,fun j z=>z.elim⟩,s1.ret c8⟩
def rn(r:ReD)(e:EvD)(f n:Int):Int:=if iH r.sorts e.kind f n then ixG (fun y=>fo (Y8 r.strat e (r.sorts.getD f.toNat soZ) (r.sorts.getD n.toNat soZ)) y) r.sorts 0 else -1
theorem Bv(Hs:d9)(lo K:Nat)(r:ReD)(N:Nat)(z:WfR r N)(H:d9)(u:LV)(hR:aD H (· <H.next) (QR Hs lo K false) (QR Hs lo K true) u r)(g4:lo≤H.next)(b8:∀j,j<lo→H.get j=Hs.get j) (D:u.all Value.oneCell'=true) (el:LV) (e:EvD) (he:EvF H (· <H.next) el e) (b7:e.attrs.length≤1000000) (f n:Int):
  CL prog t6 18 [.agg u.toArray,.agg el.toArray,iV f,iV n] H=some (.int .i64 (rn r e f n),none):=by
 obtain⟨rs,vl,w1,w2,w3,I,a8,g3,c7,g5,f2⟩:=hR;obtain⟨pa,pc,ga,gc,xa,xc,ea,ec,ta,tc,c5,_⟩:=N3 a8;have b2:rs.length=8:=by rw[c5];rfl
 have b1:u.length=12:=by rw[I];simp [b2]
 have q9:u[9]?=some w1:=by rw[I,List.getElem?_append_right oM,b2];rfl
 obtain⟨av,X,c6⟩:=id he;have c9:el.length=5:=by rw[X];rfl
 have W:el.all Value.oneCell'=true:=by
  obtain⟨aa,ac,rfl⟩:=c6.slice;rw[X];rfl
 have b4:el[0]?=some (.int .i64 e.kind):=by rw[X];rfl
 have d0:u.take 12=u:=List.take_of_length_le oM;have b3:el.take 5=el:=List.take_of_length_le oM;have c8:ldC (some true) (some 8) 0 u=some (.agg rs.toArray):=by
  rw[eX _ _ _ oM,I,List.drop_zero,List.take_append_of_le_length oM,List.take_of_length_le oM]
 obtain⟨H1,E,n1,-⟩:=pushF H (.cells u true 1);obtain⟨H2,y⟩:∃K,K=H1.push (.cells el true 1):=⟨_,rfl⟩
 have n2:H2.next=H.next+2:=by rw[y,i5,n1]
 have hS:i4 H.next H H2:=by rw[y,E];exact(i4.first H _).trans (i4.push (by rw[i5];exact Nat.le_succ _))
 have g1:H2.get H.next=cE u 1:=by rw[y,j6 oM,E];exact i7
 have g2:H2.get (H.next+1)=cE el 1:=by rw[y,←n1];exact i7
 have d3:H2.low=H.next:=by rw[y,E];rfl
 have J:SlI H2 H2.next 3 (v8 soE) w1 r.sorts:=c7.mono (fun j S=>hS.get j S) (fun j S=>oM) iF;have U:=GG H2 H.next u true 1 g1 r.sorts w1 J q9 el e c9 W b4 f n;rw[j8 aa7 rfl _ (by simp),rn];rcases bm:iH r.sorts e.kind f n with _|_
 ·rw[bm]at U;exact J8 D W E.symm n1 y.symm g2 b3 U trivial
 ·rw[bm]at U;have a3:=bm;simp only[iH,knB,Bool.and_eq_true,decide_eq_true_eq]at a3;obtain⟨⟨⟨e6,e7⟩,e8,e9⟩,_⟩:=a3;have O:=J;obtain⟨sa,sc,rfl⟩:=J.slice;obtain⟨fi,g6,oa,d6,d4,b5,a9,_,e1,e4,a4,d1,a1,f0,c0⟩:=O.row (i:=f.toNat) oM;obtain⟨ne,g7,ob,e3,d5,b6,b0,_,e2,e5,a6,d2,a2,f1,c4⟩:=O.row (i:=n.toNat) oM;obtain rfl:b5=soE fi:=c0;obtain rfl:b6=soE ne:=c4;subst e1;cases e2;rw[a4]at a6;cases a6;have a5:r.sorts.getD f.toNat soZ=fi:=by rw[List.getD_eq_getElem?_getD,a9];rfl
  have a7:r.sorts.getD n.toNat soZ=ne:=by rw[List.getD_eq_getElem?_getD,b0];rfl
  have c3:=nu Hs lo K r.strat e fi ne (· <H.next) H2 rs el (a8.mono (fun j S=>hS.get j S) (fun _ h=>h) iF iF) (w9 _ _ _ _ _ _ he (fun j S=>hS.get j S) (fun _ h=>h)) (fun j S=>oM) (fun j S=>by rw[hS.get j oM];exact b8 j S) oM N z.n0 z.st (z.so fi (List.mem_of_getElem? a9)) (z.so ne (List.mem_of_getElem? b0)) b7 z.sz;have g0:=z.l1;have b9:=tv H2 u r.sorts _ O b1 D q9 oM (Y8 r.strat e fi ne);rw[a5,a7];exact J17 D W E.symm n1 y.symm g1 g2 b3 d0 U c8 q9 a4 a1 a2 c3 b9 trivial
theorem am1(Rp Rt:LV→Q→Prop)(r:ReD)(m:Int)(hg:N0 r m)(b8:∀x∈r.size,0≤x∧x≤200) (E:d9) (y:LV) (hR:aD E (· <E.next) Rp Rt y r) (b5:y.length=12) (I:y.all Value.oneCell'=true):∀(n:Nat)(k:Int)(H:d9),k.toNat≤n→i4 E.next E H→
  N5 (CL prog t6 16 [.agg y.toArray,iV k] H) H 5 (EvF E (· <E.next)) (eD r (n+1) k):=by
 intro n;induction n using Nat.strongRecOn with
 |ind n ih=>
 intro k H k4 X;obtain⟨rs,vl,w1,w2,w3,a4,k8,c9,k7,k9,c8⟩:=hR;have l1:=X.next;have e3:rs.length=8:=by rw[a4]at b5;simpa using b5
 have q8:y[8]?=some vl:=by rw[a4,List.getElem?_append_right oM,e3];rfl
 have b9:y[11]?=some w3:=by rw[a4,List.getElem?_append_right oM,e3];rfl
 obtain⟨la,lc,rfl⟩:=c9.slice;obtain⟨ha,hc,rfl⟩:=c8.slice;obtain⟨H1,D,n1,-⟩:=pushF H (.cells y true 1);have s1:i4 H.next H H1:=by rw[D];exact i4.first H _
 have g1:H1.get H.next=cE y 1:=by rw[D];exact i7
 have d4:H1.low=H.next:=by rw[D];rfl
 have k6:=hg.l3;rw[j8 am3 rfl _ (by simp),eD];have j3:t7 H1 H.next 5 (EvF E (· <E.next)) (nS) []:=⟨[],.inl ⟨rfl,rfl,rfl⟩,D2.nil⟩
 rcases b1:decide (k≤0)with _|_
 ·have k0:=dF b1;rcases b2:decide ((r.how.length:Int)≤k)with _|_
  ·have k1:=dF b2;rw[if_neg oM];obtain⟨i,a,b,e,f1,f2,f3,f4,f5,f6,f7⟩:=hg.from_ k.toNat oM oM;rw[f1];simp only[Int.toNat_natCast];rw[f2];simp only;have k3:=(List.getElem?_eq_some_iff.1 f2).1;obtain⟨hw,hb,ho,h0,d0,h2,hx,_,rfl,g5,h7,i3,h9,b7,g7⟩:=c8.row (i:=k.toNat) oM;rw[f1]at hx;cases hx;obtain rfl:h2=hoE ((i:Int),(a:Int),(b:Int)):=g7;have c0:=b7 0 oM;have c1:=b7 1 oM;have c2:=b7 2 oM;rw[Nat.add_zero]at c0;have e0:(hoE ((i:Int),(a:Int),(b:Int)))[0]?=some (.int .i64 i):=rfl;have e1:(hoE ((i:Int),(a:Int),(b:Int)))[1]?=some (.int .i64 a):=rfl;have e2:(hoE ((i:Int),(a:Int),(b:Int)))[2]?=some (.int .i64 b):=rfl;rw[e0]at c0;rw[e1]at c1;rw[e2]at c2;obtain⟨ev,lb,lo,i0,d6,u,d2,_,rfl,g6,h8,j0,a5,k2,c7⟩:=c9.row (i:=i) oM;rw[f2]at d2;cases d2;obtain⟨av,a1,d1⟩:=id c7;have a6:u.length=5:=by rw[a1];rfl
   have a9:u.all Value.oneCell'=true:=by
    obtain⟨aa,ac,rfl⟩:=d1.slice;rw[a1];rfl
   have d3:u[0]?=some (.int .i64 e.kind):=by rw[a1];rfl
   have k5:((k.toNat:Nat):Int)=k:=Int.toNat_of_nonneg oM;have g0:y.take 12=y:=List.take_of_length_le oM;have f0:u.take 5=u:=List.take_of_length_le oM;have e8:splice [iV 0,.string eB,.string eB,nS,.string eB] 0 u=u:=by rw[a1];rfl
   have O:H1.get hb=some (.cells h0 d0 3):=by rw[s1.get hb oM,X.get hb g5];exact h7
   have a3:H1.get lb=some (.cells i0 d6 5):=by rw[s1.get lb oM,X.get lb g6];exact h8
   obtain⟨H2,S⟩:∃K,K=H1.push (.cells [iV 0,.string eB,.string eB,nS,.string eB] true 1):=⟨_,rfl⟩
   have n2:H2.next=H.next+2:=by rw[S,i5,n1]
   have x2:H2.get (H.next+1)=cE [iV 0,.string eB,.string eB,nS,.string eB] 1:=by rw[S,←n1];exact i7
   have y2:∀j,j<H.next+1→H2.get j=H1.get j:=fun j hj=>by rw[S,j6 oM]
   have g2:=(y2 H.next oM).trans g1;have b0:=(y2 hb oM).trans O;have b3:=(y2 lb oM).trans a3;obtain⟨H3,U⟩:∃K,K=H2.put (H.next+1) (.cells u true 1):=⟨_,rfl⟩
   have n3:H3.next=H.next+2:=by rw[U,j5,n2]
   have x3:H3.get (H.next+1)=cE u 1:=by rw[U];exact i8 oM
   have y3:∀j,j<H.next+1→H3.get j=H1.get j:=fun j hj=>by rw[U,i9 oM,y2 j hj]
   obtain⟨H4,W⟩:∃K,K=H3.push (.cells u true 5):=⟨_,rfl⟩
   have n4:H4.next=H.next+3:=by rw[W,i5,n3]
   have x4:H4.get (H.next+1)=cE u 1:=by rw[W,j6 oM];exact x3
   have y4:∀j,j<H.next+1→H4.get j=H1.get j:=fun j hj=>by rw[W,j6 oM,y3 j hj]
   have b4:H.next≤H4.low:=by rw[W,t5,U,A4,S,t5,d4];omega
   have g4:=(y4 H.next oM).trans g1;have a2:=(y4 hb oM).trans O;have s4:i4 H.next H H4:=⟨oM,fun k hk q=>oM,fun j hj=>by rw[y4 j oM,s1.get j hj]⟩
   have c4:bsA prog (some 51) H3 1 [(0,.agg u.toArray)]=some (.slice (some ⟨H3.next,0,none⟩) 1 1,H4):=by
    obtain⟨aa,ac,rfl⟩:=d1.slice;rw[W,a1];simp only[C7,aG,C8];rfl
   have O0:t7 H4 H.next 5 (EvF E (· <E.next)) (.slice (some ⟨H3.next,0,none⟩) 1 1) [e]:=by
    rw[W];exact t7.fresh rfl oM (D2.one a6 c7)
   have j2:=rI hg b8 (b+1) b;have j1:=rI hg b8 (a+1) a;have e9:∀i,r.size.getD i 0≤200:=fun i=>by
    rw[List.getD_eq_getElem?_getD];cases hq:r.size[i]? with
    |none=>decide
    |some x=>exact(b8 x (List.mem_of_getElem? hq)).2
   have zb:=e9 (b:Int).toNat;have za:=e9 (a:Int).toNat;have c5:∀(Hc:d9)(w:Value)(l:List EvD),i4 H.next H Hc→H.next≤Hc.low→t7 Hc H.next 5 (EvF E (· <E.next)) w l→l.length≤1000→
     ∃v h Hd v' h',CL prog t6 16 [.agg y.toArray,iV (b:Int)] Hc=dr v h∧h.getD Hc=Hd∧C3 prog Hd [35,35] w v=dr v' h'∧N5 (some (D4 v' H (h'.getD Hd))) H 5 (EvF E (· <E.next)) (l++eD r n b):=by
    intro Hc w l sc lc hO l2;have nc:=sc.next;obtain⟨v3,h3,H9,a7,z,O3,s9⟩:=ih b oM (b:Int) Hc (by rw[Int.toNat_natCast];exact lR) (X.trans (sc.weaken oM));have n9:=s9.next;obtain⟨v4,h4,j4,ra,i2,O4,w4⟩:=(hO.keep s9).appendF (P:=prog) (t:=35) (by exact uT.2.2.2.2.2.2) aG.1 aG.2.1 aG.2.2.1 oM oM O3.sl oM oM;have g9:eD r (b+1) b=eD r n b:=nR hg _ _ _ (by rw[Int.toNat_natCast];omega) (by rw[Int.toNat_natCast];omega);rw[g9]at O4;refine⟨v3,h3,H9,v4,h4,a7,z,ra,?_⟩;rw[i2];exact I4 O4 (sc.trans ((s9.weaken oM).trans w4.stay)) (w4.stay.lowAll _ lR (s9.lowAll _ oM lc))
   rcases bk:decide (e.kind=1)with _|_
   ·have b6:=dF bk;rw[if_neg b6,List.append_nil];obtain⟨v,h,Hd,v',h',a7,z,ra,J⟩:=c5 H4 _ [e] s4 b4 O0 (by simp);refine J30 I D.symm b1 b2 g1 q8 b9 n1 O a3 c0 a5 S.symm x2 g2 b0 b3 a6 a9 e8 U.symm x3 f0 c4 x4 d3 (And.intro bk g4) (And.intro a2 c2) (And.intro g0 a7) (And.intro z ra) ?_;exact J
   ·have b6:=dT bk;rw[if_pos b6];obtain⟨v1,h1,Ha,e4,c3,O1,a8⟩:=ih a oM (a:Int) H4 (by rw[Int.toNat_natCast];exact lR) (X.trans (s4.weaken oM));have na:=a8.next;obtain⟨v5,h5,Hq,i1,e6,O5,w5⟩:=(O0.keep a8).appendF (P:=prog) (t:=35) (by exact uT.2.2.2.2.2.2) aG.1 aG.2.1 aG.2.2.1 oM oM O1.sl (by rw[List.length_singleton];omega) oM;have nq:=w5.next;obtain⟨v6,h6,Hd,rc,e7,O6,w6⟩:=O5.push1F (P:=prog) (t:=35) (cs:=[iV 3,.string eB,.string eB,nS,.string eB]) (a:=zI) (by exact uT.2.2.2.2.2.2) aG.1 aG.2.1 aG.2.2.1 oM oM rfl ⟨_,rfl,.inl ⟨rfl,rfl⟩⟩ (by simp only[List.length_append,List.length_singleton];omega) oM;have nd:=w6.next;obtain⟨Hk,c6⟩:∃K,K=Hq.push (.cells [iV 3,.string eB,.string eB,nS,.string eB] true 5):=⟨_,rfl⟩
    rw[←c6]at rc e7;have g3:bsA prog (some 51) Hq 1 [(0,.agg #[iV 3,.string eB,.string eB,nS,.string eB])]=some (.slice (some ⟨Hq.next,0,none⟩) 1 1,Hk):=by
     rw[c6];simp only[C7,aG,C8];rfl
    have sd:i4 H.next H Hd:=s4.trans ((a8.weaken oM).trans (w5.stay.trans w6.stay));have d5:H.next≤Hd.low:=w6.stay.lowAll _ lR (w5.stay.lowAll _ lR (a8.lowAll _ oM b4));have yd:∀j,j<H.next+1→Hd.get j=H4.get j:=fun j hj=>by
     have e5:¬j9 v5 j:=fun q=>by
      rcases w5.new j q with q|q
      ·rw[I6]at q;omega
      ·omega
     rw[w6.but j oM e5,w5.but j oM (by rw[I6];omega),a8.get j oM]
    have gd:=(yd H.next oM).trans g4;have hd:=(yd hb oM).trans a2;obtain⟨v,h,He,v',h',a7,z,ra,J⟩:=c5 Hd v6 _ sd d5 O6 (by simp only[List.length_append,List.length_singleton];omega);have g8:eD r (a+1) a=eD r n a:=nR hg _ _ _ (by rw[Int.toNat_natCast];omega) (by rw[Int.toNat_natCast];omega);rw[g8,List.append_assoc [e]]at J;refine J30 I D.symm b1 b2 g1 q8 b9 n1 O a3 c0 a5 S.symm x2 g2 b0 (And.intro b3 a6) (And.intro a9 e8) (And.intro U.symm x3) (And.intro f0 c4) (And.intro x4 d3) (And.intro bk g4) (And.intro a2 c1) (And.intro c2 g0) (And.intro e4 c3) (And.intro i1 e6) (And.intro g3 rc) (And.intro e7 gd) (And.intro hd a7) (And.intro z ra) ?_;exact J
  ·rw[if_pos (.inr (by have:=dT b2;omega))];refine J6 I D.symm b1 b2 g1 b9 ?_;exact⟨_,none,H,rfl,rfl,⟨[],.inl ⟨rfl,rfl,rfl⟩,D2.nil⟩,i4.refl _ _⟩
 ·rw[if_pos (.inl (dT b1))];refine J3 I D.symm b1 ?_;exact⟨_,none,H,rfl,rfl,⟨[],.inl ⟨rfl,rfl,rfl⟩,D2.nil⟩,i4.refl _ _⟩
end Go.Proofs.YtofbhlhamfkljaaGreatDoor.Ve
namespace Go.Proofs.YtofbhlhamfkljaaGreatDoor.Ve
open Go Ab
open Go.Proofs.Tryz (prog)
set_option linter.unusedVariables false
set_option linter.unusedSimpArgs false
set_option maxRecDepth 1000000
set_option maxHeartbeats 0
abbrev YV:=cC (T 13) (cS (cO [N 14 (cf 9 #[] #[]),A 2 14]) .ret) .skip
abbrev YW:=cS (cO [M 25 4,M 26 6,N 27 (bo .eql 3 25 26 3),M 28 27,Y 28 29 (ld' 39 3),Y 28 30 (ld' 39 5),Y 28 31 (c2 13 29 30 39 39),N 32 (pa 28 31),A 2 32]) .ret
abbrev YX:=cS (cO [L 21 25 1,N 22 (c1 12 21 25),M 20 22,N 23 (ex 20 0),N 24 (ex 20 1),N 5 (.alloc 39),V (st' 39 5 23),A 6 24]) YW
abbrev YY:=cS (cO [L 16 25 1,N 17 (c1 11 16 25),M 15 17,N 18 (ex 15 0),N 19 (ex 15 1),N 3 (.alloc 39),V (st' 39 3 18),A 4 19]) YX
abbrev YZ:=cS (cS (cO [N 7 (cf 9 #[] #[]),N 8 (nt' 4 7),M 9 8,Z 9 10 (ld' 25 1),Z 9 11 (c1 10 10 25),Z 9 12 (nt' 4 11),N 13 (po 9 12)]) YV) YY
abbrev f3:=cS (cO [N 1 (bx 25 0),N 2 (.assign B0)]) YZ
abbrev Zc:=cC (T 15) (cS (cO [N 16 (cf 9 #[] #[]),A 2 16]) .ret) .skip
abbrev Zd:=cO [M 49 8,N 50 (bk .add 3 49 1 3),A 8 50]
abbrev Ze:=cS (cB 3 (cO [M 51 6,M 52 7,N 53 (ia 35 51 52),F 54 51 53 2,L 55 49 54,M 56 8,N 57 (ia 49 55 56),F 58 53 57 1,V (.store 9 (T 58) (.const (.string ⟨#[115,112,111,105,108,116]⟩)))])) Zd
abbrev Za:=cS (cS (cO [M 41 8,M 42 6,M 43 7,N 44 (ia 35 42 43),F 45 51 44 2,L 46 49 45,N 47 (ln 46 49),N 48 (bo .lss 3 41 47 3)]) (cC (T 48) .skip (.exit 2))) Ze
abbrev Zf:=cO [M 35 7,N 36 (bk .add 3 35 1 3),A 7 36]
abbrev Zg:=cS (cB 1 (cS (cO [M 37 6,M 38 7,N 39 (ia 35 37 38),F 40 51 39 3,V (.store 9 (T 40) (.const (.string ⟨#[115,112,111,105,108,116]⟩)))]) (cS (cO [N 8 (ak 0)]) (cW 2 Za)))) Zf
abbrev Zb:=cS (cS (cO [M 31 7,M 32 6,N 33 (ln 32 35),N 34 (bo .lss 3 31 33 3)]) (cC (T 34) .skip (.exit 0))) Zg
abbrev Zh:=cS (.mix [m1 (L 59 39 3),m0 (M 60 5),m3 (N 61 (c2 14 59 60 39 3)) 0 1,⟨L 62 39 3,false,true,0,1⟩,m2 (M 63 5) 0 1,m3 (N 64 (c2 16 62 63 39 3)) 1 2,m3 (N 65 (c2 15 61 64 35 35)) 2 3,m2 (A 2 65) 3 3]) .ret
abbrev Zi:=cS (cO [L 28 39 3,M 29 5,N 30 (c2 14 28 29 39 3),A 6 30]) (cS (cS (cO [N 7 (ak 0)]) (cW 0 Zb)) Zh)
abbrev Zj:=cS (cO [F 24 39 3 2,L 25 36 24,N 26 (ln 25 36),N 27 (bk .sub 3 26 1 3),A 5 27]) Zi
abbrev Zk:=cS (cS (cO [M 22 4,N 23 (bk .neq 40 22 0 40)]) (cC (T 23) (cS (cO [N 2 (.assign B1)]) .ret) .skip)) Zj
abbrev Zl:=cS (cO [L 18 25 1,N 19 (c1 11 18 25),M 17 19,N 20 (ex 17 0),N 21 (ex 17 1),N 3 (.alloc 39),V (st' 39 3 20),A 4 21]) Zk
abbrev RI:=cS (cS (cO [N 9 (cf 9 #[] #[]),N 10 (nt' 4 9),M 11 10,Z 11 12 (ld' 25 1),Z 11 13 (c1 10 12 25),Z 11 14 (nt' 4 13),N 15 (po 11 14)]) Zc) Zl
abbrev f4:=cS (cO [N 1 (bx 25 0),N 2 (.assign B0)]) RI
theorem fn4:fnL prog 4=some (f4,66,[ResultVar.tmp 2]):=kR
abbrev Zm:=cC (T 13) (cS (cO [N 14 (cf 9 #[] #[]),A 2 14]) .ret) .skip
abbrev Zn:=cS (.draw [(L 114 39 3,false),(F 115 39 3 1,false),(L 116 35 115,false),(F 117 56 6 0,false),(L 118 3 117,false),(N 119 (ia 35 116 118),false),(L 120 51 119,false),(F 121 56 6 1,false),(L 122 3 121,false),(F 123 56 6 2,false),(L 124 3 123,false),(N 125 (cf 18 #[T 114,T 120,T 122,T 124] #[39,51,3,3]),false),(M 126 5,false),(N 127 (bo .neq 3 125 126 3),true)]) (cC (T 127) (cS (cO [N 2 (.assign B0)]) .ret) .skip)
abbrev Zo:=cS (cS (.draw [(F 34 56 6 1,false),(L 35 3 34,false),(N 36 (bk .lss 3 35 0 3),false),(M 37 36,false),(Z 37 38 (fa 56 6 1),false),(Z 37 39 (ld' 3 38),false),(Z 37 40 (mv 5),false),(Z 37 41 (bo .geq 3 39 40 3),false),(N 42 (po 37 41),false),(M 43 42,false),(Z 43 44 (fa 56 6 2),false),(Z 43 45 (ld' 3 44),false),(Z 43 46 (bk .lss 3 45 0 3),false),(N 47 (po 43 46),false),(M 48 47,false),(Z 48 49 (fa 56 6 2),false),(Z 48 50 (ld' 3 49),false),(Z 48 51 (mv 5),false),(Z 48 52 (bo .geq 3 50 51 3),false),(N 53 (po 48 52),false),(M 54 53,false),(Z 54 55 (fa 56 6 0),false),(Z 54 56 (ld' 3 55),false),(Z 54 57 (bk .lss 3 56 0 3),false),(N 58 (po 54 57),false),(M 59 58,false),(Z 59 60 (fa 56 6 0),false),(Z 59 61 (ld' 3 60),false),(Z 59 62 (fa 39 3 1),false),(Z 59 63 (ld' 35 62),false),(Z 59 64 (ln 63 35),false),(Z 59 65 (bo .geq 3 61 64 3),false),(N 66 (po 59 65),false),(M 67 66,false),(Z 67 68 (fa 39 3 3),false),(Z 67 69 (ld' 29 68),false),(Z 67 70 (mv 5),false),(Z 67 71 (ia 29 69 70),false),(Z 67 72 (ld' 3 71),false),(Z 67 73 (fa 39 3 3),false),(Z 67 74 (ld' 29 73),false),(Z 67 75 (fa 56 6 1),false),(Z 67 76 (ld' 3 75),false),(Z 67 77 (ia 29 74 76),false),(Z 67 78 (ld' 3 77),false),(Z 67 79 (fa 39 3 3),false),(Z 67 80 (ld' 29 79),false),(Z 67 81 (fa 56 6 2),false),(Z 67 82 (ld' 3 81),false),(Z 67 83 (ia 29 80 82),false),(Z 67 84 (ld' 3 83),false),(Z 67 85 (bo .add 3 78 84 3),false),(Z 67 86 (bk .add 3 85 1 3),false),(Z 67 87 (bo .neq 3 72 86 3),false),(N 88 (po 67 87),false),(M 89 88,false),(Z 89 90 (fa 39 3 3),false),(Z 89 91 (ld' 29 90),false),(Z 89 92 (mv 5),false),(Z 89 93 (ia 29 91 92),false),(Z 89 94 (ld' 3 93),false),(Z 89 95 (fa 39 3 3),false),(Z 89 96 (ld' 29 95),false),(Z 89 97 (mv 5),false),(Z 89 98 (bk .sub 3 97 1 3),false),(Z 89 99 (ia 29 96 98),false),(Z 89 100 (ld' 3 99),false),(Z 89 101 (bo .lss 3 94 100 3),false),(N 102 (po 89 101),false),(M 103 102,false),(Z 103 104 (ld' 39 3),false),(Z 103 105 (fa 39 3 2),false),(Z 103 106 (ld' 36 105),false),(Z 103 107 (mv 5),false),(Z 103 108 (ia 36 106 107),false),(Z 103 109 (ld' 59 108),false),(Z 103 110 (c2 17 104 109 39 59),false),(Z 103 111 (mv 5),false),(Z 103 112 (bo .neq 3 110 111 3),true),(N 113 (po 103 112),true)]) (cC (T 113) (cS (cO [N 2 (.assign B0)]) .ret) .skip)) Zn
abbrev Zp:=cO [M 27 5,N 28 (bk .add 3 27 1 3),A 5 28]
abbrev Zq:=cS (cB 1 (cS (cO [F 29 39 3 4,L 30 37 29,M 31 5,N 32 (ia 37 30 31),L 33 56 32,N 6 (.alloc 56),V (st' 56 6 33)]) Zo)) Zp
abbrev SL:=cS (cS (cO [M 22 5,F 23 39 3 2,L 24 36 23,N 25 (ln 24 36),N 26 (bo .lss 3 22 25 3)]) (cC (T 26) .skip (.exit 0))) Zq
abbrev Zr:=cS (cO [F 128 39 3 2,L 129 36 128,N 130 (ln 129 36),N 131 (bk .leq 3 130 25 3),M 132 131,Y 132 133 (fa 39 3 2),Y 132 134 (ld' 36 133),Y 132 135 (.indexAddr 36 (T 134) (K 0)),Y 132 136 (ld' 59 135),Y 132 137 (.build 59 #[]),Y 132 138 (bo .eql 59 136 137 59),N 139 (pa 132 138),A 2 139]) .ret
abbrev Zs:=cS (cS (cO [M 20 4,N 21 (bk .neq 40 20 0 40)]) (cC (T 21) (cS (cO [N 2 (.assign B1)]) .ret) .skip)) (cS (cS (cO [N 5 (ak 1)]) (cW 0 SL)) Zr)
abbrev Zt:=cS (cO [L 16 25 1,N 17 (c1 11 16 25),M 15 17,N 18 (ex 15 0),N 19 (ex 15 1),N 3 (.alloc 39),V (st' 39 3 18),A 4 19]) Zs
abbrev Zu:=cS (cS (cO [N 7 (cf 9 #[] #[]),N 8 (nt' 4 7),M 9 8,Z 9 10 (ld' 25 1),Z 9 11 (c1 10 10 25),Z 9 12 (nt' 4 11),N 13 (po 9 12)]) Zm) Zt
abbrev f5:=cS (cO [N 1 (bx 25 0),N 2 (.assign B0)]) Zu
abbrev Zv:=cC (T 28) (cS (cO [N 29 (cf 9 #[] #[]),A 10 29]) .ret) .skip
abbrev Zw:=cS (cO [M 97 14,N 98 (bk .lss 3 97 0 3)]) (cC (T 98) (cS (cO [N 10 (.assign B0)]) .ret) .skip)
abbrev Zx:=cC (T 79) (cS (.mix [m2 (F 80 39 11 2) 0 1,⟨L 81 36 80,false,true,0,1⟩,m0 (F 82 39 11 0),m1 (L 83 34 82),m1 (L 84 51 6),m0 (F 85 39 11 2),m1 (L 86 36 85),m0 (M 87 2),m0 (N 88 (ia 36 86 87)),m1 (L 89 59 88),m0 (F 90 39 11 2),m1 (L 91 36 90),m0 (M 92 3),m0 (N 93 (ia 36 91 92)),m1 (L 94 59 93),m3 (N 95 (cf 21 #[T 83,T 84,T 89,T 94] #[34,51,59,59])) 0 1,m3 (N 96 (c2 20 81 95 36 59)) 1 2,m2 (A 14 96) 2 2]) Zw) .skip
abbrev Zy:=cS (.mix [m1 (L 100 39 11),m1 (L 101 51 6),m0 (M 102 2),m0 (M 103 3),m3 (N 104 (cf 18 #[T 100,T 101,T 102,T 103] #[39,51,3,3])) 0 1,m2 (M 105 14) 0 1,m2 (N 106 (bo .eql 3 104 105 3)) 1 1,m2 (M 107 106) 1 1,⟨Y 107 108 (ld' 39 11),false,true,1,1⟩,⟨Y 107 109 (ld' 51 6),false,true,1,1⟩,m2 (Y 107 110 (mv 3)) 1 1,m3 (Y 107 111 (cf 22 #[T 108,T 109,T 110] #[39,51,3])) 1 2,m2 (Y 107 112 (mv 15)) 1 2,m2 (Y 107 113 (bo .eql 4 111 112 4)) 2 2,m2 (N 114 (pa 107 113)) 2 2,m2 (M 115 114) 2 2,⟨Y 115 116 (ld' 39 11),false,true,2,2⟩,m2 (Y 115 117 (mv 4)) 2 2,m3 (Y 115 118 (c2 14 116 117 39 3)) 2 3,⟨Y 115 119 (ld' 39 11),false,true,2,3⟩,m2 (Y 115 120 (mv 4)) 2 3,m3 (Y 115 121 (c2 16 119 120 39 3)) 3 4,m3 (Y 115 122 (c2 15 118 121 35 35)) 4 5,m2 (N 123 (pa 115 122)) 5 5,m2 (M 124 123) 5 5,⟨Y 124 125 (ld' 39 11),false,true,5,5⟩,⟨Y 124 126 (ld' 59 16),false,true,5,5⟩,m3 (Y 124 127 (c2 17 125 126 39 59)) 5 6,m2 (Y 124 128 (fa 39 11 2)) 5 6,⟨Y 124 129 (ld' 36 128),false,true,5,6⟩,⟨Y 124 130 (ld' 59 16),false,true,5,6⟩,m3 (Y 124 131 (c2 20 129 130 36 59)) 6 7,m2 (Y 124 132 (bo .eql 3 127 131 3)) 7 7,m2 (N 133 (pa 124 132)) 7 7,m2 (A 10 133) 7 7]) .ret
abbrev Zz:=cS (cO [N 99 (.build 59 {toList:=[(0,B1),(2,.const (.string ⟨#[120]⟩))]}),N 16 (.alloc 59),V (st' 59 16 99)]) Zy
abbrev ZA:=cS (cS (cO [M 61 15,M 62 61,Y 62 63 (mv 2),Y 62 64 (bk .geq 3 63 0 3),N 65 (pa 62 64),M 66 65,Y 66 67 (mv 2),Y 66 68 (mv 13),Y 66 69 (bo .lss 3 67 68 3),N 70 (pa 66 69),M 71 70,Y 71 72 (fa 51 6 0),Y 71 73 (ld' 3 72),Y 71 74 (bk .eql 3 73 1 3),Y 71 75 (mv 74),Z 75 76 (mv 2),Z 75 77 (bk .eql 3 76 0 3),Y 71 78 (po 75 77),N 79 (pa 71 78)]) Zx) Zz
abbrev ZB:=cS (cO [M 40 3,N 41 (bk .geq 3 40 0 3),M 42 41,Y 42 43 (mv 3),Y 42 44 (mv 13),Y 42 45 (bo .lss 3 43 44 3),N 46 (pa 42 45),M 47 46,Y 47 48 (fa 51 6 0),Y 47 49 (ld' 3 48),Y 47 50 (bk .eql 3 49 1 3),Y 47 51 (mv 50),Z 51 52 (fa 39 11 2),Z 51 53 (ld' 36 52),Z 51 54 (mv 3),Z 51 55 (ia 36 53 54),Z 51 56 (fa 59 55 1),Z 51 57 (ld' 4 56),Z 51 58 (nt' 4 57),Y 47 59 (po 51 58),N 60 (pa 47 59),A 15 60]) ZA
abbrev ZC:=cS (cO [F 37 39 11 2,L 38 36 37,N 39 (ln 38 36),A 13 39]) (cS (cO [N 14 (ak (-1))]) ZB)
abbrev ZD:=cS (cS (cO [M 35 12,N 36 (bk .neq 40 35 0 40)]) (cC (T 36) (cS (cO [N 10 (.assign B1)]) .ret) .skip)) ZC
abbrev ZE:=cS (cO [L 31 25 5,N 32 (c1 11 31 25),M 30 32,N 33 (ex 30 0),N 34 (ex 30 1),N 11 (.alloc 39),V (st' 39 11 33),A 12 34]) ZD
abbrev Ty:=cS (cS (cO [N 17 (cf 9 #[] #[]),N 18 (nt' 4 17),M 19 18,Z 19 20 (ld' 25 5),Z 19 21 (c1 10 20 25),Z 19 22 (nt' 4 21),N 23 (po 19 22),M 24 23,Z 24 25 (ld' 51 6),Z 24 26 (c1 19 25 51),Z 24 27 (nt' 4 26),N 28 (po 24 27)]) Zv) ZE
abbrev f6:=cS (cO [N 5 (bx 25 0),N 6 (bx 51 1),N 10 (.assign B0)]) Ty
abbrev ZG:=cC (T 15) (cS (cO [N 16 (cf 9 #[] #[]),A 2 16]) .ret) .skip
abbrev ZH:=cC (T 23) (cS (cO [M 24 4,N 25 (bk .eql 40 24 13 40),M 26 25,Y 26 27 (fa 39 3 2),Y 26 28 (ld' 36 27),Y 26 29 (ln 28 36),Y 26 30 (bk .eql 3 29 0 3),N 31 (pa 26 30),A 2 31]) .ret) .skip
abbrev ZI:=cS (.draw [(M 75 5,false),(N 76 (bk .gtr 3 75 0 3),false),(M 77 76,false),(Y 77 78 (mv 8),false),(Y 77 79 (.indexAddr 36 (T 78) (K 1)),false),(Y 77 80 (ld' 59 79),false),(Y 77 81 (fa 39 3 2),false),(Y 77 82 (ld' 36 81),false),(Y 77 83 (mv 5),false),(Y 77 84 (ia 36 82 83),false),(Y 77 85 (ld' 59 84),false),(Y 77 86 (bo .neq 59 80 85 59),true),(N 87 (pa 77 86),true)]) (cC (T 87) (cS (cO [N 2 (.assign B0)]) .ret) .skip)
abbrev ZJ:=cS (cS (cO [M 58 8,N 59 (ln 58 36),F 60 39 3 3,L 61 29 60,M 62 5,N 63 (ia 29 61 62),L 64 3 63,N 65 (bk .add 3 64 1 3),N 66 (bo .neq 3 59 65 3),M 67 66,Z 67 68 (mv 5),Z 67 69 (bk .eql 3 68 0 3),Z 67 70 (mv 6),Z 67 71 (ln 70 35),Z 67 72 (bk .eql 3 71 0 3),Z 67 73 (bo .neq 4 69 72 4),N 74 (po 67 73)]) (cC (T 74) (cS (cO [N 2 (.assign B0)]) .ret) .skip)) ZI
abbrev ZK:=cS (cS (cO [F 52 39 3 3,L 53 29 52,M 54 5,N 55 (ia 29 53 54),L 56 3 55,N 57 (bk .gtr 3 56 40 3)]) (cC (T 57) (.exit 1) .skip)) ZJ
abbrev ZL:=cS (cO [F 48 39 3 0,L 49 34 48,M 50 7,N 51 (c2 24 49 50 34 35),A 8 51]) ZK
abbrev ZM:=cS (cO [M 46 6,N 47 (c1 23 46 35),A 7 47]) ZL
abbrev ZN:=cO [M 41 5,N 42 (bk .add 3 41 1 3),A 5 42]
abbrev ZO:=cS (cB 1 (cS (cO [L 43 39 3,M 44 5,N 45 (c2 14 43 44 39 3),A 6 45]) ZM)) ZN
abbrev ZF:=cS (cS (cO [M 32 5,F 33 39 3 2,L 34 36 33,N 35 (ln 34 36),N 36 (bo .lss 3 32 35 3),M 37 36,Y 37 38 (mv 5),Y 37 39 (bk .lss 3 38 12 3),N 40 (pa 37 39)]) (cC (T 40) .skip (.exit 0))) ZO
abbrev ZP:=cS (cS (cO [N 5 (ak 0)]) (cW 0 ZF)) (cS (cO [N 2 (.assign B1)]) .ret)
abbrev Uj:=cS (cS (cO [M 22 4,N 23 (bk .neq 40 22 0 40)]) ZH) ZP
abbrev Uk:=cS (cO [L 18 25 1,N 19 (c1 11 18 25),M 17 19,N 20 (ex 17 0),N 21 (ex 17 1),N 3 (.alloc 39),V (st' 39 3 20),A 4 21]) Uj
abbrev Ul:=cS (cS (cO [N 9 (cf 9 #[] #[]),N 10 (nt' 4 9),M 11 10,Z 11 12 (ld' 25 1),Z 11 13 (c1 10 12 25),Z 11 14 (nt' 4 13),N 15 (po 11 14)]) ZG) Uk
abbrev f7:=cS (cO [N 1 (bx 25 0),N 2 (.assign B0)]) Ul
abbrev ZR:=cC (T 35) (cS (cO [N 36 (cf 9 #[] #[]),A 4 36]) .ret) .skip
abbrev ZS:=cC (T 82) (.mix [⟨L 83 39 5,false,true,0,1⟩,m2 (M 84 7) 0 1,m0 (M 85 1),m0 (M 86 9),m0 (N 87 (bk .add 3 86 1 3)),m3 (N 88 (c2 27 85 87 35 3)) 0 1,m2 (N 89 (ia 36 84 88)) 1 1,⟨L 90 59 89,false,true,1,1⟩,m3 (N 91 (c2 17 83 90 39 59)) 1 2,m2 (A 10 91) 2 2]) .skip
abbrev ZT:=cC (T 104) (.mix [⟨L 105 39 5,false,true,0,1⟩,m2 (M 106 7) 0 1,m0 (M 107 1),m0 (M 108 12),m3 (N 109 (c2 27 107 108 35 3)) 0 1,m2 (N 110 (ia 36 106 109)) 1 1,⟨L 111 59 110,false,true,1,1⟩,m3 (N 112 (c2 17 105 111 39 59)) 1 2,m2 (A 11 112) 2 2]) .skip
abbrev ZU:=cS (.draw [(M 121 13,false),(N 122 (bk .lss 3 121 1 3),false),(M 123 122,false),(Z 123 124 (mv 10),false),(Z 123 125 (bk .lss 3 124 0 3),false),(N 126 (po 123 125),false),(M 127 126,false),(Z 127 128 (mv 11),false),(Z 127 129 (bk .lss 3 128 0 3),false),(N 130 (po 127 129),false),(M 131 130,false),(Z 131 132 (ld' 39 5),false),(Z 131 133 (mv 1),false),(Z 131 134 (mv 9),false),(Z 131 135 (ia 35 133 134),false),(Z 131 136 (ld' 51 135),false),(Z 131 137 (mv 10),false),(Z 131 138 (mv 11),false),(Z 131 139 (cf 18 #[T 132,T 136,T 137,T 138] #[39,51,3,3]),false),(Z 131 140 (mv 13),false),(Z 131 141 (bo .neq 3 139 140 3),true),(N 142 (po 131 141),true)]) (cC (T 142) (cS (cO [N 4 (.assign B0)]) .ret) .skip)
abbrev ZV:=cS (.mix [⟨L 113 39 5,false,true,0,1⟩,m2 (M 114 7) 0 1,m0 (M 115 1),m0 (M 116 9),m3 (N 117 (c2 27 115 116 35 3)) 0 1,m2 (N 118 (ia 36 114 117)) 1 1,⟨L 119 59 118,false,true,1,1⟩,m3 (N 120 (c2 17 113 119 39 59)) 1 2,m2 (A 13 120) 2 2]) ZU
abbrev ZW:=cS (cS (cO [M 95 9,N 96 (bk .gtr 3 95 0 3),M 97 96,Y 97 98 (mv 1),Y 97 99 (mv 12),Y 97 100 (ia 35 98 99),Y 97 101 (fa 51 100 0),Y 97 102 (ld' 3 101),Y 97 103 (bk .neq 3 102 3 3),N 104 (pa 97 103)]) ZT) ZV
abbrev ZX:=cS (cO [M 92 1,M 93 9,N 94 (c2 28 92 93 35 3),A 12 94]) ZW
abbrev ZY:=cS (cS (cO [M 68 1,M 69 9,N 70 (ia 35 68 69),F 71 51 70 0,L 72 3 71,N 73 (bk .eql 3 72 1 3),M 74 73,Y 74 75 (mv 1),Y 74 76 (mv 9),Y 74 77 (bk .add 3 76 1 3),Y 74 78 (ia 35 75 77),Y 74 79 (fa 51 78 0),Y 74 80 (ld' 3 79),Y 74 81 (bk .neq 3 80 3 3),N 82 (pa 74 81)]) ZS) (cS (cO [N 11 (ak 0)]) ZX)
abbrev ZZ:=cO [M 60 9,N 61 (bk .add 3 60 1 3),A 9 61]
abbrev aa0:=cS (cB 1 (cS (cS (cO [M 62 1,M 63 9,N 64 (ia 35 62 63),F 65 51 64 0,L 66 3 65,N 67 (bk .eql 3 66 3 3)]) (cC (T 67) (.exit 1) .skip)) (cS (cO [N 10 (ak 0)]) ZY))) ZZ
abbrev ZQ:=cS (cS (cO [M 56 9,M 57 1,N 58 (ln 57 35),N 59 (bo .lss 3 56 58 3)]) (cC (T 59) .skip (.exit 0))) aa0
abbrev Vf:=cS (cS (cO [N 9 (ak 0)]) (cW 0 ZQ)) (cS (cO [N 4 (.assign B1)]) .ret)
abbrev Vg:=cS (cS (cO [M 52 7,N 53 (ln 52 36),M 54 8,N 55 (bo .neq 3 53 54 3)]) (cC (T 55) (cS (cO [N 4 (.assign B0)]) .ret) .skip)) Vf
abbrev Vh:=cS (cO [M 48 1,M 49 1,N 50 (ln 49 35),N 51 (c2 27 48 50 35 3),A 8 51]) Vg
abbrev Vi:=cS (cO [F 44 39 5 0,L 45 34 44,M 46 1,N 47 (c2 24 45 46 34 35),A 7 47]) Vh
abbrev Vj:=cS (cS (cO [M 42 6,N 43 (bk .neq 40 42 0 40)]) (cC (T 43) (cS (cO [N 4 (.assign B1)]) .ret) .skip)) Vi
abbrev Vk:=cS (cO [L 38 25 2,N 39 (c1 11 38 25),M 37 39,N 40 (ex 37 0),N 41 (ex 37 1),N 5 (.alloc 39),V (st' 39 5 40),A 6 41]) Vj
abbrev Vl:=cS (cS (cO [N 14 (cf 9 #[] #[]),N 15 (nt' 4 14),M 16 15,Z 16 17 (ld' 25 2),Z 16 18 (c1 10 17 25),Z 16 19 (nt' 4 18),N 20 (po 16 19),M 21 20,Z 21 22 (mv 1),Z 21 23 (ln 22 35),Z 21 24 (bk .gtr 3 23 40 3),N 25 (po 21 24),M 26 25,Z 26 27 (mv 1),Z 26 28 (c1 25 27 35),Z 26 29 (nt' 4 28),N 30 (po 26 29),M 31 30,Z 31 32 (mv 1),Z 31 33 (c1 26 32 35),Z 31 34 (nt' 4 33),N 35 (po 31 34)]) ZR) Vk
abbrev f8:=cS (cO [N 2 (bx 25 0),N 4 (.assign B0)]) Vl
end Go.Proofs.YtofbhlhamfkljaaGreatDoor.Ve
namespace Go.Proofs.YtofbhlhamfkljaaGreatDoor.Ve
open Go Go.RowKit
open Go.Proofs.Tryz (prog)
set_option linter.unusedVariables false
set_option linter.unusedSimpArgs false
set_option maxRecDepth 1000000
set_option maxHeartbeats 0
def q0:Q:= .mk 1 eB eB eB [] []
noncomputable def l0:List EvD:=(S8 (spQ q0)).getD []
noncomputable def r0:ReD:=⟨D0 q0,l0,[(false,false,eB),(true,false,eB),(true,true,eB)],[0,1,1],[(0,0,0),(0,0,0),(1,0,0)]⟩
theorem GF:rg q0=some r0:=kR
theorem row0:(eD r0 2 1).length=2:=kR
theorem Wp:ixG (fun y=>fo soZ y) r0.sorts 0=0:=kR
theorem EX(H:d9)(lo k:Nat)(cs:LV)(q:Q)(W:lo≤H.next)(E:QR H lo k false cs q)(z:ey q=true→OkD false q∧nQ q≤1000):
  CL prog t6 10 [.agg cs.toArray] H=some (.bool (ey q&&jQ q),none):=by
 have O:=F0 E;have ldc:=M8 E;have l0:=E.len;simp only[qSz,Bool.false_eq_true,if_false]at l0;rw[l0]at ldc;obtain⟨y,h,n1,-⟩:=pushF H (.cells cs true 1);have s1:i4 H.next H y:=by rw[h];exact i4.first H _
 have S:y.get H.next=cE cs 1:=by rw[h];exact i7
 have U:y.low=H.next:=by rw[h];rfl
 have D:QR y lo k false cs q:=E.mono (fun j hj=>s1.get j oM) lR;have u:=uz y lo k cs q oM D;rw[j8 aa3 rfl _ (by simp)];rcases b:ey q with _|_
 ·rw[b]at u;exact J5 O h.symm S ldc u trivial
 ·rw[b]at u;obtain⟨J,X⟩:=z b;have I:=ux y lo k cs q oM D J X;exact J6 O h.symm S ldc u I trivial
theorem GW(H:d9):CL prog fK 9 [] H=some (.bool true,none):=by
 have hq:QR ⟨H.bs,H.next⟩ 0 1 false [iV 1,nS,nS] q0:=⟨_,_,rfl,.inl ⟨rfl,rfl⟩,.inl ⟨rfl,rfl⟩,by decide,by decide,by decide,by decide,by decide,fun _=>⟨rfl,rfl,rfl⟩⟩
 have f1:OkD false q0:=⟨1,kR⟩
 obtain⟨v,h,S,g5,c6,u,er,rfl,s1,a4⟩:=Bm 1 ⟨H.bs,H.next⟩ 0 _ q0 (Nat.zero_le _) hq f1 (by decide);rw[GF]at a4;rcases a4 with⟨h0,_⟩|⟨r,h0,rfl,a9,hR⟩
 ·cases h0
 cases h0;rw[j8 fn9 rfl _ (by simp)];have d3:=hR;obtain⟨rs,vl,w1,w2,w3,z,g2,e6,b6,g3,e5⟩:=hR;obtain⟨pa,pc,ga,gc,xa,xc,ea,ec,ta,tc,a8,_⟩:=N3 g2;have c5:rs.length=8:=by rw[a8];rfl
 have J:u.length=12:=by rw[z];simp [c5]
 obtain⟨a1,c1,rfl⟩:=b6.slice;obtain⟨a2,c2,rfl⟩:=g3.slice;obtain⟨a3,c3,rfl⟩:=e5.slice;obtain⟨la,lc,rfl⟩:=e6.slice;have y:u.all Value.oneCell'=true:=by rw[z,a8];rfl
 have q9:u[9]?=some (.slice a1 r0.sorts.length c1):=by rw[z,List.getElem?_append_right oM,c5];rfl
 have g7:splice [nS,nS,nS,iV 0,iV 0,iV 0,nS,nS,nS,nS,nS,nS] 0 u=u:=by rw[z,a8];rfl
 have g8:u.take 12=u:=List.take_of_length_le oM;have nn:H.next≤S.next:=s1.next;obtain⟨H2,a5,n2,x2⟩:=pushE S (.cells [nS,nS,nS,iV 0,iV 0,iV 0,nS,nS,nS,nS,nS,nS] true 1);obtain⟨U,E⟩:∃K,K=H2.put S.next (.cells u true 1):=⟨_,rfl⟩
 have n3:U.next=S.next+1:=by rw[E,j5,n2]
 have x3:U.get S.next=cE u 1:=by rw[E];exact i8 oM
 have y3:∀j,j<S.next→U.get j=S.get j:=fun j X=>by rw[E,i9 oM,a5,j6 oM]
 have b3:aD U (· <U.next) (QR ⟨H.bs,H.next⟩ 0 1 false) (QR ⟨H.bs,H.next⟩ 0 1 true) u r0:=d3.mono y3 (fun j X=>oM);obtain⟨⟨m,e4⟩,_,l,hl,h1⟩:=js GF;have i3:=gF q0 hl;obtain⟨j1,h9,D,g6,c7,⟨G,c8⟩,O⟩:=(XH _ _ r0 m e4 a9.sb a9.at_ 1 1 U u (by decide) b3 J y).one;have I:SlI U U.next 3 (v8 soE) (.slice a1 r0.sorts.length c1) r0.sorts:=b6.mono y3 (fun j X=>oM) iF;obtain⟨x1,g4,o1,b1,h4,d1,b8,_,e1,i0,b4,h2,a7,i2,g0⟩:=I.row (i:=1) (by decide);obtain⟨g9,j0,o2,h8,h5,d2,c0,_,e2,i1,b5,h3,f2,d5,g1⟩:=I.row (i:=2) (by decide);subst e1;cases e2;rw[b4]at b5;cases b5;have c9:=d5 1 (by decide);have b9:x1=(true,false,eB):=by have:r0.sorts[1]?=some (true,false,eB):=rfl;rw[this]at b8;cases b8;rfl
 have c4:g9=(true,true,eB):=by have:r0.sorts[2]?=some (true,true,eB):=rfl;rw[this]at c0;cases c0;rfl
 subst b9 c4;obtain rfl:d1=soE (true,false,eB):=g0;obtain rfl:d2=soE (true,true,eB):=g1;have l3:r0.sorts.length=3:=rfl;have W:ldC (some true) (some 3) (o1+3) b1=some (.agg (soE (true,false,eB)).toArray):=a7;have b0:b1[o1+6+1]?=some (.bool true):=c9;have n4:=O.next;have x4:=(O.get S.next oM).trans x3;have d4:aD D (· <D.next) (QR ⟨H.bs,H.next⟩ 0 1 false) (QR ⟨H.bs,H.next⟩ 0 1 true) u r0:=b3.mono (fun j X=>O.get j X) (fun j X=>oM);have b7:SlI D D.next 3 (v8 soE) (.slice (some ⟨g4,o1,none⟩) r0.sorts.length c1) r0.sorts:=I.mono (fun j X=>O.get j X) oM iF;have hf:=fx (tv D u r0.sorts _ b7 J y q9 (by decide) soZ);rw[Wp]at hf;have d6:EvF D (· <D.next) [iV 2,.string eB,.string eB,nS,.string ⟨#[120]⟩] ⟨2,eB,eB,[],⟨#[120]⟩⟩:=⟨_,rfl,.inl ⟨rfl,rfl⟩⟩
 have hn:=fx (Bv ⟨H.bs,H.next⟩ 0 1 r0 _ a9 D u d4 (Nat.zero_le _) (fun j X=>oM) y _ _ d6 (by decide) 0 2);have f0:rn r0 ⟨2,eB,eB,[],⟨#[120]⟩⟩ 0 2= -1:=kR;rw[f0]at hn;obtain⟨h6,h7,b2⟩:=c8.own.slice;rw[row0]at b2;subst b2;have e3:CL prog fK 17 [.agg u.toArray,.agg #[.bool false,.bool false,.string eB]] D=some (.int .i64 0,none):=hf;have e9:CL prog fK 18 [.agg u.toArray,.agg #[iV 2,.string eB,.string eB,nS,.string ⟨#[120]⟩],iV 0,iV 2] D=some (.int .i64 (-1),none):=hn;have d0:A0 [D1.bool,D1.bool,D1.str] (soE (true,false,eB)) [Value.bool true,Value.bool false,Value.string eB]=some true:=kR;have e7:H.next≤S.low:=by
  have:=s1.lowAll H.next lR lR;exact this
 have a6:H.next≤U.low:=by rw[E,A4,a5,t5];omega
 have e8:H.next≤D.low:=O.lowAll H.next oM a6;exact J21 g5 c6 J y g7 a5.symm x2 E.symm x3 q9 l3 b4 W b0 g8 g6 c7 x4 e3 e9 d0 trivial
theorem uP:∀(l:List Q)(n m:Int),n≤szL l n m
 |[],n,m=>by rw[szL];exact Int.le_refl _
 |x::l,n,m=>by
  rw[szL];split
  ·have:=iU x (m-n) oM;have:=uP l (n+szQ x (m-n)) m;omega
  ·exact Int.le_refl _
mutual
theorem vR:∀(q:Q)(m:Int),0≤m→szQ q m≤m→(nQ q:Int)≤szQ q m
 | .mk o s c v a b,m,hm,h=>by
  rw[szQ]at h ⊢;rw[nQ];have h1:=uP b (szL a 1 m) m;have h2:=pH a 1 m oM;have h3:=pH b (szL a 1 m) m h;omega
theorem pH:∀(l:List Q)(n m:Int),szL l n m≤m→n+(nL l:Int)≤szL l n m
 |[],n,m,h=>by rw[szL,nL];omega
 |x::l,n,m,h=>by
  rw[szL]at h ⊢;rw[nL];split at h
  ·rename_i hn;rw[if_pos hn];have h1:=uP l (n+szQ x (m-n)) m;have h2:=vR x (m-n) oM oM;have h3:=pH l (n+szQ x (m-n)) m h;omega
  ·omega
end
theorem fP{q:Q}(h:ey q=true):OkD false q∧nQ q≤64:=by
 simp only[ey,Bool.and_eq_true,decide_eq_true_eq]at h;have:=vR q 64 oM h.1;exact⟨⟨16,h.2⟩,oM⟩
def AtW(cs:LV)(a:AtD):Prop:=cs=[.string a.space,.string a.loc,.string a.val]
def EvW(H:d9)(lo:Nat)(cs:LV)(e:EvD):Prop:=∃v,cs=[iV e.kind,.string e.space,.string e.loc,v,.string e.text]∧SlI H lo 3 AtW v e.attrs∧e.attrs.length≤1048576
abbrev xW(H:d9)(lo:Nat)(v:Value)(l:List EvD):Prop:=SlI H lo 5 (EvW H lo) v l
theorem EvW.mono{H H':d9}{lo u:Nat}(I:∀j,j<lo→H'.get j=H.get j) (y:lo≤u) {cs:LV} {e:EvD} (h:EvW H lo cs e):EvW H' u cs e:=by
 obtain⟨v,z,D,E⟩:=h;exact⟨v,z,D.mono I y iF,E⟩
theorem xW.mono{H H':d9}{lo y:Nat}{v:Value}{l:List EvD}(h:xW H lo v l)(z:∀j,j<lo→H'.get j=H.get j) (u:lo≤y):xW H' y v l:=
 SlI.mono h z u fun _ _ q=>q.mono z u
def ag8(a b:AtD):Bool:=decide (a.space=b.space)&&(decide (a.loc=b.loc)&&decide (a.val=b.val))
def fb:List AtD→List AtD→Bool
 |a::l,b::m=>ag8 a b&&fb l m
 |_,_=>true
def ak6(a b:EvD):Bool:=decide (a.kind=b.kind)&&(decide (a.space=b.space)&&decide (a.loc=b.loc))&&decide (a.text=b.text)&&decide (a.attrs.length=b.attrs.length)&&fb a.attrs b.attrs
def xi:List EvD→List EvD→Bool
 |a::l,b::m=>ak6 a b&&xi l m
 |_,_=>true
theorem ak5(a:AtD):ag8 a a=true:=by simp [ag8]
theorem kb:∀l,fb l l=true
 |[]=>rfl
 |a::l=>by rw[fb,ak5,kb l];rfl
theorem ak7(a:EvD):ak6 a a=true:=by simp [ak6,kb]
theorem lx:∀l,xi l l=true
 |[]=>rfl
 |a::l=>by rw[xi,ak7,lx l];rfl
theorem al1{H:d9}{lo:Nat}{v:Value}{l:List AtD}(I:SlI H lo 3 AtW v l){i:Nat}{a:AtD}(E:l[i]?=some a):
  ∃b o c cs own,v= .slice (some ⟨b,o,none⟩) l.length c∧b<lo∧H.get b=some (.cells cs own 3)∧ldC (some true) (some 3) (o+i*3) cs=some (.agg #[.string a.space,.string a.loc,.string a.val]):=by
 obtain⟨b,o,c,cs,own,h,u,y,z,D⟩:=I.at_ E;exact⟨b,o,c,cs,own,h,u,y,pE z D⟩
theorem ak9(H0:d9)(lo:Nat)(W X:Option Addr)(c1 c2 b1 b2:Nat)(z l2:List AtD)(r1 r2:LV)(hl:z.length=l2.length)(hn:z.length≤1048576)(h1:SlI H0 lo 3 AtW (.slice W z.length c1) z)(h2:SlI H0 lo 3 AtW (.slice X l2.length c2) l2)
  (g1:H0.get b1=cE r1 1) (g2:H0.get b2=cE r2 1) (k1:r1[3]?=some (.slice W z.length c1)) (k2:r2[3]?=some (.slice X l2.length c2)) (r:Bool):
  ∀k e H2,(∃i:Nat,k=z.length-i∧i≤z.length∧e.get 2=pT b1∧e.get 3=pT b2∧e.get 5=iV i∧H2=H0∧fb (z.drop i) (l2.drop i)=r)→
  u9 (LE prog t6 (.loop al4) e H2) (fun o e H2=>H2=H0∧((o= .exit 0∧r=true)∨(o= .ret∧e.get 4= .bool false∧r=false))):=by
 refine j7 _ _ ?_;rintro k e H2 ⟨i,hk,hi,S,f3,f5,hH,I⟩;subst hH;rcases b:decide ((i:Int)<z.length)with _|_
 ·have a3:=dF b;have:z.drop i=[]:=dN oM;rw[this,fb]at I;refine J5 S f5 g1 k1 b ?_
  ·exact l7 ⟨rfl,.inl ⟨rfl,I.symm⟩⟩
  ·intro a q m s h;cases h
 ·have a3:=dT b;obtain⟨x,hx,a4⟩:=eS (l:=z) (i:=i) oM;obtain⟨y,hy,a5⟩:=eS (l:=l2) (i:=i) oM;rw[a4,a5,fb]at I;obtain⟨p1,o1,q1,a7,w1,e1,_,J,D⟩:=al1 h1 hx;obtain⟨p2,o2,q2,a8,w2,e2,_,O,E⟩:=al1 h2 hy;obtain⟨rfl,rfl⟩:W=some ⟨p1,o1,none⟩∧c1=q1:=by simpa using e1
  obtain⟨rfl,rfl⟩:X=some ⟨p2,o2,none⟩∧c2=q2:=by simpa using e2
  have a6:(i:Int)<l2.length:=oM;have nt:(i:Int).toNat=i:=tN i;rcases U:ag8 x y with _|_
  ·have u:=U;rw[ag8]at u;refine J13 S f3 f5 g1 g2 k1 k2 b J O D E u ?_;exact A6 ⟨rfl,.inr ⟨rfl,rfl,by rw[←I,U];rfl⟩⟩
  ·have u:=U;rw[ag8]at u;refine J14 S f3 f5 g1 g2 k1 k2 b J O D E u @wrap_small ?_;exact i6 (k-1) oM ⟨i+1,oM,oM,S,f3,rfl,rfl,by rw[←I,U];rfl⟩
theorem tF(H:d9)(lo:Nat)(x1 x2:LV)(a b:EvD)(a2:lo≤H.next)(h1:EvW H lo x1 a)(h2:EvW H lo x2 b):CL prog t6 38 [.agg x1.toArray,.agg x2.toArray] H=some (.bool (ak6 a b),none):=by
 obtain⟨v1,rfl,y,U⟩:=h1;obtain⟨v2,rfl,D,a3⟩:=h2;obtain⟨p1,c1,rfl⟩:=y.slice;obtain⟨p2,c2,rfl⟩:=D.slice;rw[j8 am4 rfl _ (by simp),ak6];rcases u:decide (a.kind=b.kind)with _|_
 ·exact J1 u trivial
 rcases E:(decide (a.space=b.space)&&decide (a.loc=b.loc))with _|_
 ·exact J2 u E trivial
 rcases I:decide (a.text=b.text)with _|_
 ·exact J3 u E I trivial
 have el:decide ((a.attrs.length:Int)=b.attrs.length)=decide (a.attrs.length=b.attrs.length):=decide_eq_decide.2 oM;rcases J:decide (a.attrs.length=b.attrs.length)with _|_
 ·exact J5 u E I el J trivial
 refine J5 u E I el J ?_;have hl:=dT J;obtain⟨H0,h⟩:∃H0,H0=(d9.push ⟨H.bs,H.next⟩ (.cells [iV a.kind,.string a.space,.string a.loc,.slice p1 a.attrs.length c1,.string a.text] true 1)).push (.cells [iV b.kind,.string b.space,.string b.loc,.slice p2 b.attrs.length c2,.string b.text] true 1):=⟨_,rfl⟩
 rw[←h];have X:i4 H.next H H0:=by rw[h];exact(i4.first H _).trans (i4.push (by rw[i5];show H.next≤H.next+1;omega))
 refine l9 (F:=fun z=>u5 _ _ _ (u7 (inBlock 0 z) _)=_) (ak9 H0 lo p1 p2 c1 c2 H.next (H.next+1) a.attrs b.attrs _ _ hl U (y.mono (fun j hj=>X.get j oM) lR iF) (D.mono (fun j hj=>X.get j oM) lR iF)
  (by rw[h,j6 (by rw[i5];show H.next<H.next+1;omega)];exact i7) (by rw[h];exact y7 (by rw[i5];show H.next+1≤H.next+1∧H.next+1≤H.next+1;omega)) rfl rfl (fb a.attrs b.attrs) a.attrs.length _ _ ⟨0,rfl,oM,rfl,rfl,rfl,rfl,rfl⟩) ?_
 have a1:H.next≤H0.low:=by rw[h,t5,t5];exact lR
 rintro o e' H' ⟨W,⟨O,S⟩|⟨O,h4,S⟩⟩
 ·exact J3 O S W trivial
 ·exact J4 O h4 S W trivial
theorem zo(H0:d9)(lo:Nat)(v1 v2:Value)(u l2:List EvD)(hl:u.length=l2.length)(a4:lo≤H0.next)(hn:u.length≤2000000)(h1:xW H0 lo v1 u)(h2:xW H0 lo v2 l2)(r:Bool):
  ∀k e H2,(∃i:Nat,k=u.length-i∧i≤u.length∧e.get 0=v1∧e.get 1=v2∧e.get 5=iV i∧H2=H0∧xi (u.drop i) (l2.drop i)=r)→
  u9 (LE prog t6 (.loop Pa) e H2) (fun o e H2=>H2=H0∧((o= .exit 0∧r=true)∨(o= .ret∧e.get 4= .bool false∧r=false))):=by
 refine j7 _ _ ?_;rintro k e H2 ⟨i,hk,hi,f0,f1,f5,hH,O⟩;subst hH;obtain⟨va,vc,a5⟩:=h1.slice;have J:=f0;rw[a5]at J;rcases b:decide ((i:Int)<u.length)with _|_
 ·have a1:=dF b;have:u.drop i=[]:=dN oM;rw[this,xi]at O;refine J3 J f5 b ?_
  ·exact l7 ⟨rfl,.inl ⟨rfl,O.symm⟩⟩
  ·intro a q m s h;cases h
 ·have a1:=dT b;obtain⟨x,hx,a2⟩:=eS (l:=u) (i:=i) oM;obtain⟨y,hy,a3⟩:=eS (l:=l2) (i:=i) oM;rw[a2,a3,xi]at O;obtain⟨p1,o1,q1,a7,w1,e1,_,S,W,R1⟩:=h1.at_ hx;obtain⟨p2,o2,q2,a8,w2,e2,_,U,X,R2⟩:=h2.at_ hy;have z:=pE W rfl;have D:=pE X rfl;have hc:=tF H2 lo _ _ x y a4 R1 R2;have E:=f0;have I:=f1;rw[e1]at E;rw[e2]at I;have a6:(i:Int)<l2.length:=oM;have nt:(i:Int).toNat=i:=tN i;rcases hq:ak6 x y with _|_
  ·rw[hq]at hc;refine J9 E I f5 b S U z D hc ?_;exact A6 ⟨rfl,.inr ⟨rfl,rfl,by rw[←O,hq];rfl⟩⟩
  ·rw[hq]at hc;refine J10 E I f5 b S U z D hc @wrap_small ?_;exact i6 (k-1) oM ⟨i+1,oM,oM,f0,f1,rfl,rfl,by rw[←O,hq];rfl⟩
theorem al2(H:d9)(lo:Nat)(I J:Value)(l:List EvD)(h:lo≤H.next)(S:l.length≤2000000)(u:xW H lo I l)(y:xW H lo J l):CL prog t6 15 [I,J] H=some (.bool true,none):=by
 obtain⟨U,c1,rfl⟩:=u.slice;obtain⟨W,c2,rfl⟩:=y.slice;have hz:d9.next ⟨H.bs,H.next⟩=H.next:=rfl;rw[j8 am2 rfl _ (by simp)];refine J1 uT ?_;refine l9 (F:=fun z=>u5 _ _ _ (u7 (inBlock 0 z) _)=_) (zo ⟨H.bs,H.next⟩ lo _ _ l l rfl h S (u.mono (fun _ _=>rfl) lR) (y.mono (fun _ _=>rfl) lR) true l.length _ _ ⟨0,rfl,oM,rfl,rfl,rfl,rfl,lx _⟩) ?_;rintro o e' H' ⟨O,⟨D,E⟩|⟨D,X,E⟩⟩
 ·exact J2 D O trivial
 ·cases E
def R3(cs:LV)(a:AtD):Prop:=cs.length=3∧∀x∈cs,∃s,x= .string s
def EvS(H:d9)(F:Nat→Prop)(cs:LV)(e:EvD):Prop:=∃k s l v t,cs=[iV k,.string s,.string l,v,.string t]∧SlO H F 3 R3 v e.attrs
theorem SlO.imp{H:d9}{F:Nat→Prop}{sz:Nat}{α:Type}{R u:LV→α→Prop}{v:Value}{l:List α}(h:SlO H F sz R v l)(I:∀cs a,R cs a→u cs a):SlO H F sz u v l:=by
 rcases h with h|⟨b,o,c,O,h⟩
 ·exact .inl h
 ·exact .inr ⟨b,o,c,O,h.imp id fun⟨cs,y,z,D,E⟩=>⟨cs,y,z,D,fun i a J=>I _ _ (E i a J)⟩⟩
theorem EvO.s{H:d9}{F:Nat→Prop}{cs:LV}{e:EvD}(h:EvO H F cs e):EvS H F cs e:=by
 obtain⟨v,y,z⟩:=h;refine⟨_,_,_,v,_,y,z.imp fun cs a q=>?_⟩;obtain rfl:cs=atE a:=q;exact⟨rfl,fun x u=>by simp [atE]at u;rcases u with rfl|rfl|rfl<;>exact⟨_,rfl⟩⟩
theorem EvS.mono{H H':d9}{F F':Nat→Prop}{cs:LV}{e:EvD}(h:EvS H F cs e)(D:∀j,F j→H'.get j=H.get j) (z:∀j,F j→F' j):EvS H' F' cs e:=by
 obtain⟨k,s,l,v,t,u,y⟩:=h;exact⟨k,s,l,v,t,u,y.mono D z⟩
theorem Bc{cs:LV}{q a n:Nat}{y:Value}:((cs.set q y).drop a).take n=if q<a then(cs.drop a).take n else((cs.drop a).take n).set (q-a) y:=by
 rw[List.drop_set];split
 ·rfl
 ·rw[List.take_set]
theorem R3.set{cs:LV}{q a:Nat}{s:ByteArray}{x:AtD}(h:R3 ((cs.drop a).take 3) x):R3 (((cs.set q (.string s)).drop a).take 3) x:=by
 rw[Bc];split
 ·exact h
 ·refine⟨by rw[List.length_set];exact h.1,fun y u=>?_⟩;rcases List.mem_or_eq_of_mem_set u with k|k
  ·exact h.2 y k
  ·exact⟨s,k⟩
theorem SlO.spoil{H:d9}{F:Nat→Prop}{v:Value}{l:List AtD}{u q:Nat}{cs:LV}{s:ByteArray}(h:SlO H F 3 R3 v l)(J:H.get u=cE cs 3):SlO (H.put u (.cells (cs.set q (.string s)) true 3)) F 3 R3 v l:=by
 rcases h with h|⟨b,o,c,S,h⟩
 ·exact .inl h
 ·refine .inr ⟨b,o,c,S,h.imp id fun⟨z,D,y,E,I⟩=>?_⟩;by_cases e:b=u
  ·subst e;obtain rfl:cs=z:=by rw[J]at y;cases y;rfl
   exact⟨_,D,i8 (u6 J),by rw[List.length_set];exact E,fun i a O=>(I i a O).set⟩
  ·exact⟨z,D,by rw[i9 (fun q=>e q.symm)];exact y,E,I⟩
structure dl(lo:Nat)(H:d9)(v:Value)(l:List EvD)(G:Nat→Prop):Prop where
 own:t7 H lo 5 (EvS H G) v l
 fr:∀j,G j→lo≤j∧j<H.next∧¬j9 v j
theorem jB.sp{lo:Nat}{H:d9}{v:Value}{l:List EvD}{G:Nat→Prop}(h:jB lo H v l G):dl lo H v l G:=⟨h.own.imp fun _ _ q=>q.s,h.fr⟩
theorem dl.attr{lo:Nat}{H:d9}{v:Value}{l:List EvD}{G:Nat→Prop}{u q:Nat}{cs:LV}{s:ByteArray}(h:dl lo H v l G)(D:G u)(J:H.get u=cE cs 3):dl lo (H.put u (.cells (cs.set q (.string s)) true 3)) v l G:=by
 have I:=h.fr u D;refine⟨(h.own.imp fun c e r=>?_).same fun b E=>i9 (fun e=>I.2.2 (e▸E)),fun j O=>by rw[j5];exact h.fr j O⟩;obtain⟨k,s,l,v,t,y,z⟩:=r;exact⟨k,s,l,v,t,y,z.spoil J⟩
theorem dl.text{lo:Nat}{H:d9}{v:Value}{l:List EvD}{G:Nat→Prop}{b c i:Nat}{cs:LV}{s:ByteArray}(h:dl lo H v l G)(D:v= .slice (some ⟨b,0,none⟩) l.length c)(S:H.get b=cE cs 5)(hi:i<l.length):dl lo (H.put b (.cells (cs.set (i*5+4) (.string s)) true 5)) v l G:=by
 have hb:j9 v b:=by rw[D];exact I6.2 rfl
 have I:∀j,G j→b≠j:=fun j y e=>(h.fr j y).2.2 (e▸hb);refine⟨?_,fun j y=>by rw[j5];exact h.fr j y⟩;obtain⟨ca,u,O⟩:=h.own;rcases u with⟨u,E,rfl⟩|⟨b',c',u,E,h4,h5⟩
 ·rw[D]at u;cases u
 ·rw[D]at u;cases u;obtain rfl:cs=ca:=by rw[S]at E;cases E;rfl
  refine⟨_,.inr ⟨b,c,D,i8 (u6 S),h4,by rw[List.length_set];exact h5⟩,by rw[List.length_set];exact O.1,fun j a ha=>?_⟩;have U:=(O.2 j a ha).mono (H':=H.put b (.cells (cs.set (i*5+4) (.string s)) true 5)) (fun j y=>i9 (I j y)) (fun _ h=>h);rw[Bc];split
  ·exact U
  ·obtain⟨k,s',X,w,t,e1,J⟩:=U;rw[e1];by_cases e:j=i
   ·subst e;rw[show j*5+4-j*5=4 from oM];exact⟨k,s',X,w,s,rfl,J⟩
   ·have W:∀z:LV,z.length=5→z.set (i*5+4-j*5) (.string s)=z:=fun z W=>List.set_eq_of_length_le oM;rw[W _ rfl];exact⟨k,s',X,w,t,rfl,J⟩
theorem dl.at_{lo:Nat}{H:d9}{v:Value}{l:List EvD}{G:Nat→Prop}(h:dl lo H v l G){i:Nat}(U:i<l.length):∃x b c cs u,l[i]?=some x∧v= .slice (some ⟨b,0,none⟩) l.length c∧lo≤b∧b<H.next∧H.get b=cE cs 5∧i*5+5≤cs.length∧cs[i*5+3]?=some u∧SlO H G 3 R3 u x.attrs:=by
 obtain⟨x,y,_⟩:=S4 (l:=l) (i:=i) U;obtain⟨b,c,cs,z,D,E,I,J,k,s,W,u,t,O,S⟩:=h.own.at_ y;exact⟨x,b,c,cs,u,y,z,D,E,I,J,by rw[lP (k:=3) oM O];rfl,S⟩
theorem al3(Hb:d9)(lo:Nat)(v p3 p5:Value)(l:List EvD)(G:Nat→Prop)(i:Nat)(x:EvD)(hx:l[i]?=some x)(hl:l.length≤1000000)(a8:x.attrs.length≤1000000):
  ∀X e H,(∃j:Nat,X=x.attrs.length-j∧j≤x.attrs.length∧e.get 3=p3∧e.get 5=p5∧e.get 6=v∧e.get 7=iV i∧e.get 8=iV j∧dl lo H v l G∧i4 lo Hb H)→
  u9 (LE prog fK (.loop Za) e H) (fun o e H=>o= .exit 2∧e.get 3=p3∧e.get 5=p5∧e.get 6=v∧e.get 7=iV i∧dl lo H v l G∧i4 lo Hb H):=by
 refine j7 _ _ ?_;rintro X e H ⟨j,hk,hj,f3,f5,f6,f7,f8,S,hS⟩;have hi:i<l.length:=(List.getElem?_eq_some_iff.1 hx).1;obtain⟨x',b,c,cs,va,J,hv,a6,a3,hg,a5,z,E⟩:=S.at_ hi;rw[hx]at J;cases J;obtain⟨aa,ac,I⟩:=E.slf.slice;have y:=f6;rw[hv]at y;have O:(i:Int).toNat=i:=tN i;have a1:(j:Int).toNat=j:=tN j;rw[I]at z;have a2:decide ((i:Int)<l.length)=true:=decide_eq_true oM;rcases U:decide ((j:Int)<x.attrs.length)with _|_
 ·refine J7 y f7 f8 hg O z U ?_;exact l7 ⟨rfl,f3,f5,f6,f7,S,hS⟩
 ·have u:=dT U;rcases E with⟨_,h⟩|⟨gb,o,c',e1,h|⟨ca,hG,D,a4,a7⟩⟩
  ·rw[h]at u;simp only[List.length_nil]at u;omega
  ·rw[h]at u;simp only[List.length_nil]at u;omega
  ·rw[I]at e1;cases e1;have hf:=S.fr gb hG;have W:(o+j*3+2+1≤ca.length)=True:=eq_true oM;refine J11 y f7 f8 hg O a1 z U D W @wrap_small ?_;exact i6 (X-1) oM ⟨j+1,oM,oM,f3,f5,f6,f7,by rw[show((j+1:Nat):Int)=(j:Int)+1 from oM];rfl,S.attr hG D,hS.trans (i4.put hf.1)⟩
theorem al0(E:d9)(lo:Nat)(v p3 p5:Value)(l:List EvD)(G:Nat→Prop)(hl:l.length≤1000000)(S:∀x∈l,x.attrs.length≤1000000):
  ∀kk e H,(∃i:Nat,kk=l.length-i∧i≤l.length∧e.get 3=p3∧e.get 5=p5∧e.get 6=v∧e.get 7=iV i∧dl lo H v l G∧i4 lo E H)→
  u9 (LE prog fK (.loop Zb) e H) (fun o e H=>o= .exit 0∧e.get 3=p3∧e.get 5=p5∧e.get 6=v∧dl lo H v l G∧i4 lo E H):=by
 refine j7 _ _ ?_;rintro kk e H ⟨i,hk,hi,f3,f5,f6,f7,D,hS⟩;obtain⟨va,vc,X⟩:=D.own.slice;have h:=f6;rw[X]at h;rcases I:decide ((i:Int)<l.length)with _|_
 ·refine J3 h f7 I ?_;exact l7 ⟨rfl,f3,f5,f6,D,hS⟩
 ·have y:i<l.length:=by have:=dT I;omega
  obtain⟨x,b,c,cs,wa,hx,hv,U,a2,hg,a4,a3,a5⟩:=D.at_ y;have u:=f6;rw[hv]at u;have a1:(i:Int).toNat=i:=tN i;have W:(i*5+4+1≤cs.length)=True:=eq_true oM;refine J6 u f7 hg a1 I W ?_;refine l9 (F:=fun z=>u9 (u7 (inBlock 1 (inBlock 2 z)) _) _) (al3 E lo v p3 p5 l G i x hx hl (S x (List.mem_of_getElem? hx)) (x.attrs.length-0) _ _ ⟨0,rfl,Nat.zero_le _,f3,f5,f6,f7,rfl,D.text hv hg y,hS.trans (i4.put U)⟩) ?_;rintro o' e' H' ⟨ho,g3,g5,g6,g7,J,O⟩;refine J3 ho g7 @wrap_small ?_;exact i6 (kk-1) oM ⟨i+1,oM,oM,g3,g5,g6,by rw[show((i+1:Nat):Int)=(i:Int)+1 from oM];rfl,J,O⟩
theorem SlI.mem{H:d9}{lo sz:Nat}{α:Type}{R u:LV→α→Prop}{v:Value}{l:List α}(h:SlI H lo sz R v l)(J:∀a∈l,∀cs,R cs a→u cs a):SlI H lo sz u v l:=by
 rcases h with h|⟨b,o,c,O,h⟩
 ·exact .inl h
 ·exact .inr ⟨b,o,c,O,h.imp id fun⟨cs,own,z,D,E,I⟩=>⟨cs,own,z,D,E,fun i a y=>J a (List.mem_of_getElem? y) _ (I i a y)⟩⟩
theorem ni(r:ReD)(u:∀e∈r.labels,e.attrs.length≤1000000):∀(n:Nat)(k:Int),∀e∈eD r n k,e.attrs.length≤1000000
 |0,k,e,h=>by cases h
 |n+1,k,e,h=>by
  rw[eD]at h;split at h
  ·cases h
  ·split at h
   ·split at h
    ·rename_i x y;simp only[List.mem_append,List.mem_singleton]at h;rcases h with(rfl|h)|h
     ·exact u _ (List.mem_of_getElem? y)
     ·split at h
      ·simp only[List.mem_append,List.mem_singleton]at h;rcases h with h|rfl
       ·exact ni r u n _ e h
       ·decide
      ·cases h
     ·exact ni r u n _ e h
    ·cases h
   ·cases h
theorem ak8(h y:d9)(l:List EvD)(S:Nat)(w2 w3:Value)(G:Nat→Prop)(z:∀e∈l,e.attrs.length≤1000000) (W:jB S h w2 l G) (hG:t7 y h.next 5 (EvF h (· <h.next)) w3 l) (D:i4 h.next h y) (hn:l.length≤2000000):
  CL prog t6 15 [w2,w3] y=some (.bool true,none):=by
 have U:=D.next;refine al2 y y.next w2 w3 l lR hn ?_ ?_
 ·have X:SlI y y.next 5 (EvO h G) w2 l:=W.own.sl.mono (fun j u=>D.get j u) U iF;refine X.mem fun e O cs J=>?_;obtain⟨v,E,I⟩:=J;exact⟨v,E,(I.slf.sl (lo:=h.next) fun j u=>(W.fr j u).2.1).mono (fun j u=>D.get j u) U iF,by have:=z e O;omega⟩
 ·refine hG.sl.mem fun e O cs J=>?_;obtain⟨v,E,I⟩:=J;exact⟨v,E,(I.sl (lo:=h.next) fun j u=>u).mono (fun j u=>D.get j u) U iF,by have:=z e O;omega⟩
theorem am5(K:Nat)(H:d9)(lo:Nat)(cs:LV)(q:Q)(g0:lo≤H.next)(hr:QR H lo K false cs q):
  CL prog fK 4 [.agg cs.toArray] H=some (.bool true,none):=by
 have ac:=F0 hr;have ldc:=M8 hr;have l0:=hr.len;simp only[qSz,Bool.false_eq_true,if_false]at l0;rw[l0]at ldc;obtain⟨H1,U,n1,-⟩:=pushF H (.cells cs true 1);have s1:i4 H.next H H1:=by rw[U];exact i4.first H _
 have g1:H1.get H.next=cE cs 1:=by rw[U];exact i7
 have e6:H1.low=H.next:=by rw[U];rfl
 have b3:QR H1 lo K false cs q:=hr.mono (fun j hj=>s1.get j oM) lR;have h9:=GW H1;have W:=fx (EX H1 lo K cs q oM b3 (fun h=>⟨(fP h).1,by have:=(fP h).2;omega⟩));rw[j8 fn4 rfl _ (by simp)];rcases b:(ey q&&jQ q)with _|_
 ·rw[b]at W;exact J6 ac U.symm g1 ldc h9 W trivial
 ·rw[b]at W;simp only[Bool.and_eq_true]at b;obtain⟨d1,hn⟩:=fP b.1;obtain⟨v,h,H2,a9,a6,u,er,rfl,s2,J⟩:=Bm K H1 lo cs q oM b3 d1 oM;have n2:=s2.next;have d0:H.next≤H2.low:=s2.lowAll H.next oM oM;obtain⟨H3,a4,n3,x3⟩:=pushE H2 (.cells [nS,nS,nS,iV 0,iV 0,iV 0,nS,nS,nS,nS,nS,nS] true 1);obtain⟨H4,E⟩:∃K,K=H3.put H2.next (.cells u true 1):=⟨_,rfl⟩
  have X:H.next≤H4.low:=by rw[E,A4,a4,t5];omega
  rcases J with⟨J,rfl,rfl⟩|⟨r,J,rfl,D,hR⟩
  ·have b8:splice z12 0 z12=z12:=rfl;simp only[z12]at E a9 b8;exact J12 ac U.symm g1 ldc h9 W a9 a6 a4.symm x3 b8 E.symm trivial
  ·have c6:=hR;obtain⟨rs,vl,w1,w2,w3,O,d3,c9,d2,d4,c8⟩:=hR;obtain⟨pa,pc,ga,gc,xa,xc,ea,ec,ta,tc,a8,_⟩:=N3 d3;have b6:rs.length=8:=by rw[a8];rfl
   have S:u.length=12:=by rw[O];simp [b6]
   obtain⟨a1,c1,rfl⟩:=d2.slice;obtain⟨a2,c2,rfl⟩:=d4.slice;obtain⟨a3,c3,rfl⟩:=c8.slice;obtain⟨la,lc,rfl⟩:=c9.slice;have I:u.all Value.oneCell'=true:=by rw[O,a8];rfl
   have q9:u[9]?=some (.slice a1 r.sorts.length c1):=by rw[O,List.getElem?_append_right oM,b6];rfl
   have d6:splice [nS,nS,nS,iV 0,iV 0,iV 0,nS,nS,nS,nS,nS,nS] 0 u=u:=by rw[O,a8];rfl
   have c4:u.take 12=u:=List.take_of_length_le oM;obtain⟨⟨m,a5⟩,_⟩:=js J;have x4:H4.get H2.next=cE u 1:=by rw[E];exact i8 oM
   have n4:H4.next=H2.next+1:=by rw[E,j5,n3]
   have y4:∀j,j<H2.next→H4.get j=H2.get j:=fun j hj=>by rw[E,i9 oM,a4,j6 oM]
   have b1:=c6.mono (F':=(· <H4.next)) y4 (fun j hj=>oM);have f2:=D.l1;have f1:=D.l0;have a7:((r.sorts.length:Int)-1).toNat≤r.sorts.length:=oM;obtain⟨e3,e9,H5,d5,b7,⟨G,O5⟩,s5⟩:=(XH _ _ r m a5 D.sb D.at_ r.sorts.length ((r.sorts.length:Int)-1) H4 u a7 b1 S I).one;obtain⟨L,hL⟩:∃L,L=eD r (r.sorts.length+1) ((r.sorts.length:Int)-1):=⟨_,rfl⟩
   have b0:∀e∈L,e.attrs.length≤1000000:=by rw[hL];exact ni r D.at_ _ _
   have f0:L.length≤400:=by
    have h1:=rI a5 D.sb (r.sorts.length+1) ((r.sorts.length:Int)-1);have h2:r.size.getD ((r.sorts.length:Int)-1).toNat 0≤200:=by
     rw[List.getD_eq_getElem?_getD];cases hq:r.size[((r.sorts.length:Int)-1).toNat]? with
     |none=>decide
     |some y=>exact(D.sb y (List.mem_of_getElem? hq)).2
    rw[←hL]at h1;omega
   rw[←hL]at O5;have n5:=s5.next;have x5:=(s5.get H2.next oM).trans x4;refine J20 ac U.symm g1 ldc h9 W a9 a6 a4.symm x3 d6 S I c4 E.symm x4 q9 d5 b7 @wrap_small ?_;refine l9 (F:=fun z=>u5 _ _ _ (u7 (inBlock 0 z) _)=_) (al0 H4 H4.next e3 _ _ L G oM b0 (L.length-0) _ _ ⟨0,rfl,Nat.zero_le _,rfl,rfl,rfl,rfl,O5.sp,s5⟩) ?_;rintro o' e' H6 ⟨ho,f3,f5,f6,g2,s6⟩;have n6:=s6.next;have x6:=(s6.get H2.next oM).trans x4;have b2:=b1.mono (F':=(· <H6.next)) (fun j hj=>s6.get j hj) (fun j hj=>oM);obtain⟨e4,g3,H7,e1,b9,⟨G7,O7⟩,s7⟩:=(XH _ _ r m a5 D.sb D.at_ r.sorts.length ((r.sorts.length:Int)-1) H6 u a7 b2 S I).one;have n7:=s7.next;have x7:=(s7.get H2.next oM).trans x6;have c7:=b2.mono (F':=(· <H7.next)) (fun j hj=>s7.get j hj) (fun j hj=>oM);obtain⟨e5,g4,H8,e2,c0,O8,s8⟩:=Ret.one (am1 _ _ r m a5 D.sb H7 u c7 S I r.sorts.length ((r.sorts.length:Int)-1) H7 a7 (i4.refl _ _));have c5:=fx (ak8 H7 H8 L H6.next e4 e5 G7 b0 (by rw[hL];exact O7) (by rw[hL];exact O8) s8 oM);have e7:H.next≤H5.low:=s5.lowAll _ oM X;have b4:H.next≤H6.low:=s6.lowAll _ oM X;have b5:H.next≤H7.low:=s7.lowAll _ oM b4;have e8:H.next≤H8.low:=s8.lowAll _ oM b5;exact J11 ho f3 f5 x6 c4 e1 b9 x7 e2 c0 c5 trivial
end Go.Proofs.YtofbhlhamfkljaaGreatDoor.Ve
namespace Go.Proofs.YtofbhlhamfkljaaGreatDoor.reachKeeps
open Go.ChangeShapes Go.WideShapes Go.ChangeAt Go.RowKit
open Go.Proofs.Tryz (prog)
open Go Ve card
set_option linter.unusedVariables false
set_option linter.unusedSimpArgs false
set_option maxRecDepth 1000000
set_option maxHeartbeats 0
theorem zO(H:Type)(enc:TypeId×Value→H)(W:World)(base:Nat)(args:Array Value)(ds gs:List (DataW H))(u:List MemPlace)
  (D:∀(j:Nat) t v,Tryz.f4.params[j]?=some t→args[j]?=some v→Value.okWide prog W .any base t v)
  (hW:DataW.Whole enc prog Tryz.f4.params.toList Rows.reachKeepsSpec.vars false W args.toList ds gs u) (hk:Rows.uptoSmall H (ds++gs)=true):
  Calls prog 4 args W fun e W'=>∃v,e= .returned v∧Rows.reachKeepsSpec.post enc prog Tryz.f4 false true false false W args v W':=by
 have X:=hW;obtain⟨p,q,I,hV,rfl,a5,a6⟩:=hW;have hA:DataW.TrodAll enc prog W 0 (fun _=>true) true Tryz.f4.params.toList args.toList ds p:=I;rw[Tryz.params4]at hA D;obtain⟨v0,a7,U,a4,p0,q0,a2,rfl,rfl,h0,r0⟩:=trodAll_cons hA;obtain⟨rfl,rfl,rfl⟩:=trodAll_nil r0;obtain rfl:args= #[v0]:=by cases args;simp_all
 obtain⟨rfl,rfl⟩:=trodVars_none hV;obtain⟨a0,rfl,_⟩:=okWide_struct Tryz.underlying25 (D 0 25 v0 rfl rfl);have k0:=h0;have a3:∀x∈p0,x.block<W.heap.size:=by obtain⟨m,hm⟩:=k0;exact DataW.trod_lt m _ _ _ hm
 have hb:Rows.uptoBulk U≤1048576:=by
  have h:Rows.uptoBulkAll ([U]++[])≤1048576:=dT hk;simp only[Rows.uptoBulkAll,List.cons_append,List.nil_append]at h;omega
 obtain⟨z,hf⟩:=h0;obtain⟨φ,S,ac,l,_,_,a1,O,_,hq⟩:=(pL (z+1)).1.2 enc W z oM _ U p0 hf hb [] [] (Ci W);have J:=am5 _ ⟨S,S.length⟩ S.length ac l lR (ah5 hq);have y:VRs φ [.agg ac.toArray] [.agg a0]:= .cons (.agg (by simpa [Value.cells] using O.1) (by simpa [Value.cells] using O.2)) (.nil φ);clear I;refine(xH kR En a1 y J).mono fun e W'⟨he,E⟩=>?_;subst he;exact⟨_,rfl,_,_,_,[],_,[],X,trodAll_mk1 (shut_bool Tryz.underlying4 _),(trodAll_cons_mk (Below.trod Eh kR (dT kR) k0 E a3) trodAll_mk0),rfl,E.frame _,fun h=>by cases h⟩
theorem Na(D:Os)(h:D.Started)(H:Type)(enc:TypeId×Value→H)(F:Stop.Interp):
  ReturnsInHanded {} Tryz.checked D 4 .any ((Rows.OpenSpec.upto Rows.reachKeepsSpec).preRow enc prog Tryz.f4 Rows.reachKeepsUptoRow.domain false Rows.reachKeepsUptoRow.laid) (((Rows.OpenSpec.upto Rows.reachKeepsSpec).at F).post enc prog Tryz.f4 false true false false):=by
 obtain⟨E,S⟩:=reads D enc;refine returnsInHanded_of_row (C:=Tryz.checked) (s:=Rows.OpenSpec.upto Rows.reachKeepsSpec) own h kR Tryz.func4
  (witness_row_at (enc:=enc) (C:=Tryz.checked) false (iG D) #[CG] rfl kR kR kR
   (OpenSpec.preRow_of_cond 8 S kR (fun k O=>by cases O;kernel_rfl) kR (Bf D))) ?_
 intro W base args ds I u z J _ y _ U _ _;exact zO H enc W base args ds I u z J (y _ rfl)
theorem ah7:Rows.ReachKeepsUptoSaid:=
 OpenClaim.holds_of_cond 4 Tryz.f4 rfl rfl rfl rfl rfl rfl rfl ⟨rfl,rfl,rfl,rfl,rfl⟩ rfl rfl rfl rfl rfl kR Tryz.func4 kR
  (dT kR) (by unfold Func.isWrapper;first|(rw[if_pos (by decide+kernel)];kernel_rfl)|(rw[if_neg (by decide+kernel)];exact⟨rfl,rfl⟩))
  (fun u h H enc _ F=>by rw[OpenClaim.pre_eq_preRow];exact Na u h H enc F)
theorem plain(f:FuncId)(h:Func)(z:Tryz.pinned.checked.prog.funcNamed "oriel/oriellaw21.ReachKeeps" =some f)(u:Tryz.pinned.checked.prog.funcs[f]?=some h):
  false=Tryz.pinned.checked.prog.looks []∧∀(j:Nat) t,h.params[j]?=some t→Tryz.pinned.checked.prog.wantsStandIn t=false:=by
 obtain rfl:f=4:=Option.some.inj ((show prog.funcNamed "oriel/oriellaw21.ReachKeeps" =some 4 from kR).symm.trans z) |>.symm;obtain rfl:h=Tryz.f4:=(Option.some.inj (Tryz.func4.symm.trans u)).symm;refine⟨kR,fun j t y=>?_⟩;rw[Tryz.params4]at y;obtain rfl:t=25:=by simpa using Array.mem_of_getElem? y
 exact(show prog.wantsStandIn 25=false from kR)
theorem cardUpto:Rows.ReachKeepsUptoCardSaid:=
 Claim7.holds_tied_plain_at .later [] _ _ _ _ ah7 (fun _ h=>by cases h) kR (fun _ h=>by cases h) reachKeepsUpto_row_tie rfl ⟨rfl,rfl⟩ kR rfl plain kR
end Go.Proofs.YtofbhlhamfkljaaGreatDoor.reachKeeps
namespace Go.Proofs.YtofbhlhamfkljaaGreatDoor
open Go Go.RowKit
open Go.Proofs.Tryz (prog)
set_option linter.unusedVariables false
set_option linter.unusedSimpArgs false
set_option maxRecDepth 1000000
set_option maxHeartbeats 0
theorem reachKeeps_holds:Rows.ReachKeepsUptoCardSaid:=reachKeeps.cardUpto
end Go.Proofs.YtofbhlhamfkljaaGreatDoor
