/- A part of the claim: the evaluator and the contracts. Conditions: none here. -/
import Derived.Test.YtbekeboballbgaaGreatDoorPc
import Derived.Test.YtbekeboballbgaaGreatDoorProg
import Derived.KernelRfl
set_option linter.unusedVariables false
set_option linter.unusedSimpArgs false
set_option linter.defProp false
set_option maxHeartbeats 0
set_option autoImplicit true
set_option relaxedAutoImplicit true
set_option maxRecDepth 1000000
namespace Go.Proofs.YtbekeboballbgaaGreatDoor
open Go Go.RowKit
def aaD:=@List.length_singleton
def aaZ:=@List.length_set
def abx:=@Nat.eq_zero_or_pos
def abH:=@List.set_append_right
def abI:=@List.length_replicate
def ab2:=@List.nodup_nil
def aci:=@List.mem_iff_getElem?
def acr:=@List.flatten_replicate_singleton
def acs:=@List.nodup_append
def acE:=@List.find?_cons
def acG:=@List.singleton_append
def acU:=@List.map_set
def acV:=@List.pairwise_iff_getElem
def adE:=@List.map_replicate
def adP:=@Nat.one_mul
def adQ:=@Nat.le_succ
def adW:=@Nat.le_mul_of_pos_right
def aef:=@List.length_filter_le
def aek:=@false_or
def ael:=@List.find?_nil
end Go.Proofs.YtbekeboballbgaaGreatDoor
namespace Go.Proofs.YtbekeboballbgaaGreatDoor.Ve
open Go Go.RowKit
def ql(H:d7)(b:Nat)(B:Blk)(j:Nat):(H.put b B).g j=if j=b then(if j<H.n then some B else none) else H.g j:=by
 by_cases h:j=b
 .subst h;rw[cA rfl];by_cases u:j<H.n
  .rw[cA u,i7 u]
  .rw[bt u];have:(H.put j B).n<=j:=by rw[j9];omega
   exact aaM this
 .rw[bt h,j6 (fun q=>h q.symm)]
def nF(H:d7)(B:Blk)(j:Nat):(H.push B).g j=if j=H.n then some B else H.g j:=by
 by_cases h:j=H.n
 .subst h;rw[cA rfl];exact j7
 .rw[bt h];by_cases E:j<H.n
  .exact i9 E
  .have u:(H.push B).n<=j:=by rw[i4];omega
   have z:H.n<=j:=oM;have D:(H.push B).g j=none:=aaM u;have I:H.g j=none:=aaM z;rw[D,I]
def xS{H K:d7}(h:H.low=K.low)(u:∀j,H.g j=K.g j):H=K:=by
 obtain⟨a,b⟩:=H;obtain⟨c,d⟩:=K;simp only at h;subst h
 congr 1
 exact abn u
def bT(w:aet)(H:d7):d7:=
 match w with
 | .slice (some a) n c=>if c=n then H else H.put a.block .dead
 |_=>H
def aJ(w:aet)(H:d7):(bT w H).n=H.n:=by
 unfold bT;split
 .split
  .rfl
  .rw[j9]
 .rfl
def pG{P:Program}{t e:TypeId}{bytes lo sz n k:Nat}{w:aet}{a:Option Addr}(ht:P.underlying t=some (.slice e))(S:D3 P e=some sz)(J:Q2 P e=some bytes)(U:N3 P e=some z)(h0:0<sz)(h1:0<bytes)
  (h:dH H lo sz w n cs) (hx:A6 H sz (.slice a 1 k)=some el) (O:(n+1)*bytes<=140737488355328):
  A8 P H [t,t] w (.slice a 1 k)=some (.slice (some ⟨H.n,0,none⟩) (n+1) (n+1+1),some ((bT w H).push (.cells (cs++el) true sz))):=by
 have E:F8 P t=some e:=by simp [F8,ht]
 have u:P5 P H sz z (some t) (.slice a 1 k)=some (1,el):=by
  simp only[P5,aas,ht,hx,aaU]
 have D:¬(sz=0\/bytes=0):=oM;rcases h with⟨rfl,rfl,rfl⟩|⟨b,c,rfl,X,a2,a1⟩
 .simp only[A8,aa1,aas,E,S,J,U,aap,aar,bt D,u,bT];rw[bt oM,cA (by simpa using O)];simp
 .have I:((cs.drop 0).take (n*sz))=cs:=by rw[aan,A2 oM]
  by_cases W:c=n
  .simp only[A8,aa1,aas,E,S,J,U,aap,aar,bt D,u,X,I,bT,cA W];rw[bt oM,cA O,cA (by simp;omega)]
  .simp only[A8,aa1,aas,E,S,J,U,aap,aar,bt D,u,X,I,bT,bt W];rw[bt oM,cA O,cA (by simp;omega),cA trivial]
def DS(H:d7)(w:aet)(h:Nat)(z c1 c2 E I B1 J N:Blk)(U:h<H.n)(X:∀b,j8 w b->b<H.n/\b≠h) (W:∀a n c,w= .slice (some a) n c->j8 w a.block):
  Q5 H.n (((bT w ((((H.push z).put H.n c1).put H.n c2).push E)).push B1).put h N)=Q5 H.n ((((bT w ((((H.push z).put H.n c2).put H.n c1).push I)).push J).put h N).put (H.n+2) B1):=by
 have key:(bT w=fun H=>H)\/∃b,b<H.n/\b≠h/\bT w=fun H=>H.put b .dead:=by
  cases w with
  |slice a n c=>
   cases a with
   |none=>left;rfl
   |some a=>
    by_cases D:c=n
    .left;funext H;simp [bT,D]
    .right
     have:=X _ (W a n c rfl);exact⟨a.block,this.1,this.2,by funext H;simp [bT,D]⟩
  |_=>left;rfl
 rcases key with u|⟨b,O,S,u⟩
 .rw[u];refine xS ?_ fun j=>?_
  .simp only[Q5,A5,l9];omega
  .simp only[Q5,ql,nF,j9,i4]
   repeat' split
   all_goals first|rfl|omega
 .rw[u];refine xS ?_ fun j=>?_
  .simp only[Q5,A5,l9];omega
  .simp only[Q5,ql,nF,j9,i4]
   repeat' split
   all_goals first|rfl|omega
end Go.Proofs.YtbekeboballbgaaGreatDoor.Ve
namespace Go.Proofs.YtbekeboballbgaaGreatDoor.Ve
open Go Go.RowKit
open Go.Proofs.Tryz (prog)
def QR.upTo(h:QR H lo k f cs q):∀{K:Nat},k<=K->QR H lo K f cs q:=by
 intro K;induction K with
 |zero=>
  intro D;have u:k=0:=oM;subst u;exact h
 |succ K I=>
  intro D;by_cases E:k<=K
  .exact(I E).up
  .have z:k=K+1:=oM;subst z;exact h
def dr(acc:List Q)(x:Q):List Q:=if acc.any (fun y=>P1 x y) then acc else acc++[x]
def UA(k:Nat)(H:d7)(lo W:Nat)(h el:LV)(x y:Q)(a2:lo<=H.n)(X:H.g W=cE h 1)(U:QR H lo k false h x)(I:QR H lo k false el y):
  CL prog l7 132 [.agg el.toArray,pT W] H=some (.bool (P1 x y),none):=by
 have a0:el.all oC=true:=I5 I;have u:=Q6 U;have z:=Q6 I;rw[U.len]at u;rw[I.len]at z;simp only[qSz,bF]at u z;obtain⟨J,D,-,g1,E⟩:=pushF H (bC el 1);have n1:=E.n;have S:=u5 X;have gx:J.g W=cE h 1:=(E.g _ S).trans X;have a1:H.n<=J.low:=by rw[D,l9];exact lR
 have O:=(jU k).1 J lo h el x y oM (U.mono (fun j hj=>E.g j oM) lR) (I.mono (fun j hj=>E.g j oM) lR);rw[i8 Tt rfl _ sM];exact J7 a0 D.symm g1 gx u z O trivial
structure jI(lo K pm:Nat)(w0:aet)(acc0:List Q)(H0 H:d7)(acc:List Q):Prop where
 ex:∃w,H.g pm=cE [w] 1/\t7 H (pm+1) 3 (QR H0 lo K false) w acc/\((acc=acc0/\w=w0)\/H.low<=pm)/\(∀j,j<H0.n->j≠pm->¬j8 w0 j->H.g j=H0.g j)/\(∀b,j8 w b->j8 w0 b\/H0.n<=b)
 stay:d9 pm H0 H
def ic(fn:Nat)(f:Bool)(k:Nat):Prop:=∀(H:d7)(lo pm K:Nat)(w:aet)(acc:List Q)(cs:LV)(q:Q),k<=K->lo<=pm->H.g pm=cE [w] 1->t7 H (pm+1) 3 (QR H lo K false) w acc->QR H lo k f cs q->OkD f q->acc.length+nQ q<=100000->
 Ret (CL prog l7 fn [pT pm,.agg cs.toArray] H) H fun v H1=>v=undef/\jI lo K pm w acc H H1 ((inQ f q).foldl dr acc)/\H1.low<=H.low
def pN(l:List Q):∀h:List Q,(l.foldl dr h).length<=h.length+l.length:=by
 induction l with
 |nil=>intro h;simp
 |cons x l u=>
  intro h;have:=u (dr h x);rw[aak,A1];have z:(dr h x).length<=h.length+1:=by unfold dr;split<;>simp
  omega
def qs(f:Bool)(l:List Q)(i:Nat)(x:Q)(h:l.drop i=x::l.drop (i+1)):inL f (l.drop i)=inQ f x++inL f (l.drop (i+1)):=by rw[h,inL]
def Qg(k:Nat)(ih:ic 64 false k)(H0:d7)(lo J K:Nat)(hk:k<=K)(b7:lo<=J)(w0:aet)(z:List Q)(va:Option Addr)(ca:Nat)(l:List Q)(hv:QsR H0 lo k false (.slice va l.length ca) l)(hn:l.length<=1048576)(hw:∀x∈l,OkD false x) (p3:aet) (a8:List Q):
  ∀kk e H2,(∃(i:Nat)(u:List Q),kk=l.length-i/\i<=l.length/\e.g 0=pT J/\e.g 3=p3/\e.g 9= .slice va l.length ca/\e.g 10=iV l.length/\e.g 11=iV i/\jI lo K J w0 z H0 H2 u/\u.length+nL (l.drop i)<=100000/\(inL false (l.drop i)).foldl dr u=a8)->
  u7 (LE prog l7 (.loop Sv) e H2) (fun o e H2=>o= .exit 0/\e.g 0=pT J/\e.g 3=p3/\jI lo K J w0 z H0 H2 a8):=by
 refine i5 _ _ ?_;rintro kk e H2 ⟨i,u,c4,hi,f0,f3,fL,fM,fJ,hM,D,fu⟩;rcases b:decide ((i:Int)<l.length)with _|_
 .have b2:=dF b;have:l.drop i=[]:=dN oM;rw[this,inL,aaT]at fu;refine J6 f0 f3 fL fM fJ b ?_;exact i6 ⟨rfl,f0,f3,by rw[<-fu];exact hM⟩
 have b2:=dT b;obtain⟨⟨w,a3,hO,b8,a2,E⟩,hS⟩:=hM;have c7:=hS.n;have c8:=u5 a3;obtain⟨x,nb,o,cs,own,el,hx,hd,rfl,c6,hg,b6,I,hr⟩:=hv.row (i:=i) oM;have a5:=mG hx;have nt:(i:Int).toNat=i:=tN i;simp only[qSz,aab,bF]at I hg b6;rw[qs _ _ _ _ hd,aaV]at fu;have b4:u.length+(nQ x+nL (l.drop (i+1)))<=100000:=by rw[hd,nL]at D;exact D
 have a1:el.all oC=true:=I5 hr;have e1:=hr.len;simp only[qSz,aab,bF]at e1;have a6:=Q6 hr;rw[e1]at a6;have gx:=(hS.g nb oM).trans hg;obtain⟨H3,X,n3,g3,s3⟩:=pushP H2 (bC [iV 0,nS,nS] 1) (bC el 1);have l3:H3.low<=H2.low:=by rw[X,A5,l9];omega
 have b9:splice [iV 0,nS,nS] 0 el=el:=y7 _ _ (by rw[e1];rfl);have O:∀j,j<lo->H3.g j=H0.g j:=fun j hj=>by rw[s3.g j oM,hS.g j oM]
 have c0:∀{cs:LV}{q:Q},QR H3 lo K false cs q->QR H0 lo K false cs q:=fun h=>h.mono (fun j hj=>(O j hj).symm) lR;obtain⟨v4,h4,H4,b3,b5,rfl,⟨⟨w4,a9,b0,a4,S,U⟩,b1⟩,c5⟩:=ih H3 lo J K w u el x hk b7 ((s3.g J oM).trans a3) ((hO.keep s3).imp fun cs q h=>h.mono O lR) (hr.mono O lR) (hw x a5) oM;have W:∀j,j<H0.n->j≠J->¬j8 w0 j->H4.g j=H0.g j:=fun j hj h1 h2=>by
  rw[S j oM h1 (fun q=>by rcases E j q with r|r;exact h2 r;omega),s3.g j oM,a2 j hj h1 h2]
 have a7:∀b,j8 w4 b->j8 w0 b\/H0.n<=b:=fun b hb=>by
  rcases U b hb with r|r
  .exact E b r
  .exact .inr oM
 have hl:=pN (inQ false x) u;have c3:=(du _ false x lR (hw x a5)).1;refine J18 f0 f3 fL fM fJ b gx nt I a1 e1 b9 X.symm g3 a6 b3 b5 @wrap_small ?_;refine d8 (kk-1) oM ⟨i+1,_,oM,oM,f0,f3,fL,fM,rfl,⟨⟨w4,a9,b0.imp fun cs q h=>c0 h,?_,W,a7⟩,(hS.trans (s3.wk oM)).trans b1⟩,oM,fu⟩;rcases a4 with⟨q1,q2⟩|q
 .rcases b8 with⟨q3,q4⟩|q
  .exact .inl ⟨by rw[q1,q3],by rw[q2,q4]⟩
  .exact .inr oM
 .exact .inr q
def Wau(Wae:Bool)(k:Nat)(ih:ic 99 true k)(H0:d7)(lo J K:Nat)(hk:k<=K)(b7:lo<=J)(w0:aet)(z:List Q)(va:Option Addr)(ca:Nat)(l:List Q)(hv:QsR H0 lo k true (.slice va l.length ca) l)(hn:l.length<=1048576)(hw:∀x∈l,OkD true x) (p3:aet) (a8:List Q):
  ∀kk e H2,(∃(i:Nat)(u:List Q),kk=l.length-i/\i<=l.length/\e.g 0=pT J/\e.g 3=p3/\e.g (Waa Wae 20 9)= .slice va l.length ca/\e.g (Waa Wae 21 10)=iV l.length/\e.g (Waa Wae 22 11)=iV i/\jI lo K J w0 z H0 H2 u/\u.length+nL (l.drop i)<=100000/\(inL true (l.drop i)).foldl dr u=a8)->
  u7 (LE prog l7 (.loop (Waa Wae YM SZ)) e H2) (fun o e H2=>o= .exit (Waa Wae 2 0)/\e.g 0=pT J/\e.g 3=p3/\jI lo K J w0 z H0 H2 a8):=by
 cases Wae
 all_goals
  simp only[Waa,Wab,Wac,cond_true,cond_false]at *
  refine i5 _ _ ?_;rintro kk e H2 ⟨i,u,c4,hi,f0,f3,fL,fM,fJ,hM,D,fu⟩;rcases b:decide ((i:Int)<l.length)with _|_
  .have b2:=dF b;have:l.drop i=[]:=dN oM;rw[this,inL,aaT]at fu;refine J6 f0 f3 fL fM fJ b ?_;exact i6 ⟨rfl,f0,f3,by rw[<-fu];exact hM⟩
  have b2:=dT b;obtain⟨⟨w,a3,hO,b8,a2,E⟩,hS⟩:=hM;have c7:=hS.n;have c8:=u5 a3;obtain⟨x,nb,o,cs,own,el,hx,hd,rfl,c6,hg,b6,I,hr⟩:=hv.row (i:=i) oM;have a5:=mG hx;have nt:(i:Int).toNat=i:=tN i;simp only[qSz,aab,bF]at I hg b6;rw[qs _ _ _ _ hd,aaV]at fu;have b4:u.length+(nQ x+nL (l.drop (i+1)))<=100000:=by rw[hd,nL]at D;exact D
  have a1:el.all oC=true:=I5 hr;have e1:=hr.len;simp only[qSz,aab,bF]at e1;have a6:=Q6 hr;rw[e1]at a6;have gx:=(hS.g nb oM).trans hg;obtain⟨H3,X,n3,g3,s3⟩:=pushP H2 (bC [iV 0,.string eB,.string eB,.string eB,nS,nS] 1) (bC el 1);have l3:H3.low<=H2.low:=by rw[X,A5,l9];omega
  have b9:splice [iV 0,.string eB,.string eB,.string eB,nS,nS] 0 el=el:=y7 _ _ (by rw[e1];rfl);have O:∀j,j<lo->H3.g j=H0.g j:=fun j hj=>by rw[s3.g j oM,hS.g j oM]
  have c0:∀{cs:LV}{q:Q},QR H3 lo K false cs q->QR H0 lo K false cs q:=fun h=>h.mono (fun j hj=>(O j hj).symm) lR;obtain⟨v4,h4,H4,b3,b5,rfl,⟨⟨w4,a9,b0,a4,S,U⟩,b1⟩,c5⟩:=ih H3 lo J K w u el x hk b7 ((s3.g J oM).trans a3) ((hO.keep s3).imp fun cs q h=>h.mono O lR) (hr.mono O lR) (hw x a5) oM;have W:∀j,j<H0.n->j≠J->¬j8 w0 j->H4.g j=H0.g j:=fun j hj h1 h2=>by
   rw[S j oM h1 (fun q=>by rcases E j q with r|r;exact h2 r;omega),s3.g j oM,a2 j hj h1 h2]
  have a7:∀b,j8 w4 b->j8 w0 b\/H0.n<=b:=fun b hb=>by
   rcases U b hb with r|r
   .exact E b r
   .exact .inr oM
  have hl:=pN (inQ true x) u;have c3:=(du _ true x lR (hw x a5)).1;refine J18 f0 f3 fL fM fJ b gx nt I a1 e1 b9 X.symm g3 a6 b3 b5 @wrap_small ?_;refine d8 (kk-1) oM ⟨i+1,_,oM,oM,f0,f3,fL,fM,rfl,⟨⟨w4,a9,b0.imp fun cs q h=>c0 h,?_,W,a7⟩,(hS.trans (s3.wk oM)).trans b1⟩,oM,fu⟩;rcases a4 with⟨q1,q2⟩|q
  .rcases b8 with⟨q3,q4⟩|q
   .exact .inl ⟨by rw[q1,q3],by rw[q2,q4]⟩
   .exact .inr oM
  .exact .inr q
def Qh:=Wad (@Wau true)
def Qi:=Wad (@Wau false)
def inB(l:List Q):List Q:=l.flatMap fun x=>inQ false x++[x]
def yW(cs:LV)(x y z a b c:aet):splice (cs++[x,y,z]) cs.length [a,b,c]=cs++[a,b,c]:=by
 simp only[splice];rw[abH _ _ oM,abH _ _ oM,abH _ _ oM];rw[show cs.length-cs.length=0 from oM,show cs.length+1-cs.length=1 from oM,show cs.length+1+1-cs.length=2 from oM];rfl
def Qj(k:Nat)(ih:ic 64 false k)(H0:d7)(lo D K:Nat)(hk:k<=K)(l1:lo<=D)(w0:aet)(a5:List Q)(va:Option Addr)(ca:Nat)(l:List Q)(hv:QsR H0 lo k false (.slice va l.length ca) l)(hn:l.length<=1048576)(hw:∀x∈l,OkD false x) (i3:List Q):
  ∀kk e H2,(∃(i:Nat)(U:List Q),kk=l.length-i/\i<=l.length/\e.g 0=pT D/\e.g 20= .slice va l.length ca/\e.g 21=iV l.length/\e.g 22=iV i/\jI lo K D w0 a5 H0 H2 U/\U.length+nL (l.drop i)<=100000/\(inB (l.drop i)).foldl dr U=i3)->
  u7 (LE prog l7 (.loop Ta) e H2) (fun o e H2=>o= .exit 2/\jI lo K D w0 a5 H0 H2 i3):=by
 refine i5 _ _ ?_;rintro kk e H2 ⟨i,U,n0,hi,f0,fL,fM,fJ,hM,c6,fu⟩;rcases b:decide ((i:Int)<l.length)with _|_
 .have k5:=dF b;have:l.drop i=[]:=dN oM;rw[this,inB,abu,aaT]at fu;refine J5 f0 fL fM fJ b ?_;exact i6 ⟨rfl,by rw[<-fu];exact hM⟩
 have k5:=dT b;obtain⟨⟨w,h3,hO,l4,g8,c7⟩,hS⟩:=hM;have n5:=hS.n;have n6:=u5 h3;obtain⟨x,nb,o,cs,own,el,hx,hd,rfl,n2,hg,k8,b6,hr⟩:=hv.row (i:=i) oM;have h9:=mG hx;have nt:(i:Int).toNat=i:=tN i;simp only[qSz,aab,bF]at b6 hg k8;rw[hd,inB,aaI,aaV,aaV,aak,aaT]at fu;have k6:U.length+(nQ x+nL (l.drop (i+1)))<=100000:=by rw[hd,nL]at c6;exact c6
 have a1:el.all oC=true:=I5 hr;have e1:=hr.len;simp only[qSz,aab,bF]at e1;have e3:=Q6 hr;rw[e1]at e3;have gx:=(hS.g nb oM).trans hg;obtain⟨H3,d3,n3,g3,s3⟩:=pushP H2 (bC [iV 0,nS,nS] 1) (bC el 1);have l3:H3.low<=H2.low:=by rw[d3,A5,l9];omega
 have j0:splice [iV 0,nS,nS] 0 el=el:=y7 _ _ (by rw[e1];rfl);have b7:∀j,j<lo->H3.g j=H0.g j:=fun j S=>by rw[s3.g j oM,hS.g j oM]
 have m7:∀{cs:LV}{q:Q},QR H3 lo K false cs q->QR H0 lo K false cs q:=fun h=>h.mono (fun j S=>(b7 j S).symm) lR;obtain⟨v4,h4,z,g9,h0,rfl,⟨⟨w4,O,g5,c8,b4,b5⟩,d4⟩,n1⟩:=ih H3 lo D K w U el x hk l1 ((s3.g D oM).trans h3) ((hO.keep s3).imp fun cs q h=>h.mono b7 lR) (hr.mono b7 lR) (hw x h9) oM;have c3:∀j,j<H0.n->j≠D->¬j8 w0 j->z.g j=H0.g j:=fun j S h1 h2=>by
  rw[b4 j oM h1 (fun q=>by rcases c7 j q with r|r;exact h2 r;omega),s3.g j oM,g8 j S h1 h2]
 have c9:∀b,j8 w4 b->j8 w0 b\/H0.n<=b:=fun b hb=>by
  rcases b5 b hb with r|r
  .exact c7 b r
  .exact .inr oM
 have hl:=pN (inQ false x) U;have m9:=(du _ false x lR (hw x h9)).1;obtain⟨u,d5⟩:=eY ((inQ false x).foldl dr U);rw[<-d5]at fu g5 c8 hl;have n4:=d4.n;have g4:z.g H2.n=cE el 1:=(b4 _ oM oM (fun q=>by have:=hO.lt q;omega)).trans g3;have e9:∀j,j<lo->z.g j=H0.g j:=fun j S=>by rw[d4.g j oM,b7 j S]
 have E:t7 z (D+1) 3 (QR H0 lo K false) w4 u:=g5.imp fun cs q h=>m7 h;have h6:(u=a5/\w4=w0)\/z.low<=D:=by
  rcases c8 with⟨q1,q2⟩|q
  .rcases l4 with⟨q3,q4⟩|q
   .exact .inl ⟨by rw[q1,q3],by rw[q2,q4]⟩
   .exact .inr oM
  .exact .inr q
 have c5:=(hS.trans (s3.wk oM)).trans d4;obtain⟨a4,c4,f1⟩:=E.slice;have X:=qp (α:=Q) z (· <z.n) (QR z lo K false) (.func (.func 132) #[] #[pT H2.n]) (fun y=>P1 x y) w4 u ((E.frz fun b hb=>(E.lt hb).2).mono (fun _ _=>rfl) (fun _ h=>h) (fun _ _ h=>h.mono e9 lR)) oM (fun i y j2 hy l5=>UA K _ lo H2.n el j2 x y (show lo<=z.n from oM) g4 ((hr.upTo hk).mono (H':=⟨z.bs,z.n⟩) (fun j S=>e9 j S) lR) (l5.mono (H:=z) (H':=⟨z.bs,z.n⟩) (fun _ _=>rfl) lR));rcases b2:u.any (fun y=>P1 x y)with _|_
 .rw[b2]at X;have b3:dr u x=u++[x]:=by rw[dr,b2];rfl
  rw[b3]at fu;have g6:=E;obtain⟨J,d2,g7⟩:=g6;obtain⟨K0,b0⟩:=eY (((z.push (bC [.bool false] 1)).put z.n (bC [.bool true] 1)).put z.n (bC [.bool false] 1));obtain⟨J0,a6⟩:=eY (((z.push (bC [.bool false] 1)).put z.n (bC [.bool false] 1)).put z.n (bC [.bool true] 1));have m1:K0.n=z.n+1:=by rw[b0,j9,j9,i4]
  have l8:J0.n=z.n+1:=by rw[a6,j9,j9,i4]
  have e7:d9 z.n z K0:=by rw[b0];exact((d9.push lR).trans (d9.put lR)).trans (d9.put lR)
  have e6:d9 z.n z J0:=by rw[a6];exact((d9.push lR).trans (d9.put lR)).trans (d9.put lR)
  have j4:K0.g z.n=cE [.bool false] 1:=by rw[b0];exact i7 (by rw[j9,i4];omega)
  have j3:J0.g z.n=cE [.bool true] 1:=by rw[a6];exact i7 (by rw[j9,i4];omega)
  have I:=u5 O;have f5:=(e7.g D I).trans O;have f2:=(e6.g D I).trans O;have g1:=(e7.g H2.n oM).trans g4;have f9:=(e6.g H2.n oM).trans g4;obtain⟨K1,b1⟩:=eY (K0.push (bC el 3));obtain⟨J1,a7⟩:=eY (J0.push (bC [iV 0,nS,nS] 3));have e5:K1.n=z.n+2:=by rw[b1,i4,m1]
  have e4:J1.n=z.n+2:=by rw[a7,i4,l8]
  have c0:d9 z.n z K1:=by rw[b1];exact e7.trans (d9.push oM)
  have b9:d9 z.n z J1:=by rw[a7];exact e6.trans (d9.push oM)
  have f6:=(c0.g D I).trans O;have f3:=(b9.g D I).trans O;have m8:=(b9.g H2.n oM).trans g4;have m5:A6 K1 3 (sL K0.n 1 1)=some el:=by
   have:K1.g K0.n=cE el 3:=by rw[b1];exact j7
   simp only[A6,this,e1];simp [A2 (by omega:el.length<=3)]
  have m4:A6 J1 3 (sL J0.n 1 1)=some [iV 0,nS,nS]:=by
   have:J1.g J0.n=cE [iV 0,nS,nS] 3:=by rw[a7];exact j7
   simp only[A6,this];simp
  have d1:=pG (P:=prog) (t:=22) (by exact oO.2.2.2.2.2.2) fS.1 fS.2.1 fS.2.2.1 oM oM (d2.mono (H':=K1) lR (fun j S=>c0.g j S)) m5 oM;have d0:=pG (P:=prog) (t:=22) (by exact oO.2.2.2.2.2.2) fS.1 fS.2.1 fS.2.2.1 oM oM (d2.mono (H':=J1) lR (fun j S=>b9.g j S)) m4 oM;obtain⟨K2,a3⟩:=eY ((bT w4 K1).push (bC (J++el) 3));obtain⟨J2,a8⟩:=eY ((bT w4 J1).push (bC (J++[iV 0,nS,nS]) 3));rw[<-a3,e5]at d1;rw[<-a8,e4]at d0;have a2:J.length=u.length*3:=g7.1;have h8:∀b,j8 w4 b->b<z.n/\b≠D:=fun b hb=>oN (E.lt hb);have e2:∀a n c,w4= .slice (some a) n c->j8 w4 a.block:=fun a n c h=>by
   rcases d2 with⟨q,_⟩|⟨b,c',q,_⟩
   .rw[q]at h;cases h
   .rw[q]at h ⊢;cases h;exact⟨_,_,rfl⟩
  have kW:∀(H:d7) j,j<H.n->¬j8 w4 j->(bT w4 H).g j=H.g j:=fun H j S hb=>by
   unfold bT;split
   .rename_i a n c;split
    .rfl
    .rw[j6 (fun q=>hb (by rw[<-q];exact e2 a n c rfl))]
   .rfl
  have m2:K2.n=z.n+3:=by rw[a3,i4,aJ,e5]
  have m0:J2.n=z.n+3:=by rw[a8,i4,aJ,e4]
  have i2:∀j,j<z.n->¬j8 w4 j->K2.g j=z.g j:=fun j S hb=>by rw[a3,i9 (by rw[aJ];omega),kW K1 j oM hb,c0.g j S]
  have i1:∀j,j<z.n->¬j8 w4 j->J2.g j=z.g j:=fun j S hb=>by rw[a8,i9 (by rw[aJ];omega),kW J1 j oM hb,b9.g j S]
  have i0:¬j8 w4 D:=fun q=>(h8 D q).2 rfl;have m3:¬j8 w4 H2.n:=fun q=>by
   rcases b5 _ q with r|r
   .have:=hO.lt r;omega
   .omega
  have f7:=(i2 D I i0).trans O;have f4:=(i1 D I i0).trans O;obtain⟨w5,d6⟩:=eY (Value.slice (sP (z.n+2)) (u.length+1) (u.length+1+1));obtain⟨K3,W⟩:=eY (K2.put D (bC [sL (z.n+2) (u.length+1) (u.length+1+1)] 1));obtain⟨J3,a9⟩:=eY (J2.put D (bC [sL (z.n+2) (u.length+1) (u.length+1+1)] 1));have n8:K3.n=z.n+3:=by rw[W,j9,m2]
  have n7:J3.n=z.n+3:=by rw[a9,j9,m0]
  have g0:J3.g H2.n=cE el 1:=by rw[a9,j6 oM,i1 _ oM m3];exact g4
  have f8:J3.g (z.n+2)=cE (J++[iV 0,nS,nS]) 3:=by
   rw[a9,j6 oM,a8,y9 (by rw[aJ,e4];omega)]
  have m6:splice (J++[iV 0,nS,nS]) (u.length*3) el=J++el:=by
   rw[<-a2]
   match el,e1 with
   |[a,b,c],_=>exact yW _ _ _ _ _ _ _
  obtain⟨J4,g2⟩:=eY (J3.put (z.n+2) (bC (J++el) 3));have k7:Q5 z.n K3=Q5 z.n J4:=by
   rw[W,a3,b1,b0,g2,a9,a8,a7,a6];exact DS z w4 D _ _ _ _ _ _ _ _ I h8 e2
  have h5:=eq_true k7;have nl:(u.length:Int).toNat=u.length:=aay _;have lz:(J++[iV 0,nS,nS]).length=u.length*3+3:=by simp [a2]
  have j1:decide ((u.length:Int)<((u.length+1:Nat):Int))=true:=yo oM;have l6:(0:Int)<=u.length:=oM;have e8:bsA prog (some 25) K0 1 [(0,.agg el.toArray)]=some (sL K0.n 1 1,K1):=by
   rw[b1];cases k with
   |zero=>exact hr.elim
   |succ k=>obtain⟨_,_,_,_,rfl,_⟩:=hr.path;simp only[E5,fS,E6];rfl
  rw[f1]at X d1 d0;refine J30 f0 fL fM fJ b gx nt b6 a1 e1 j0 d3.symm g3 (aI e3 g9) (aI h0 O) (aI X b0.symm) (aI a6.symm j4) (aI j3 f5) (aI f2 g1) (aI f9 a7.symm) (aI e8 f6) (aI f3 f1) (aI d1 d0) (aI f7 f4) (aI W.symm a9.symm) (aI g0 f8) (aI nl lz) (aI j1 l6) (aI m6 g2.symm) (aI h5 @wrap_small) ?_;obtain⟨Kf,b8⟩:=eY (Q5 z.n K3);rw[<-b8];have gf:∀j,j≠z.n->j≠z.n+1->Kf.g j=K3.g j:=fun j h1 h2=>by rw[b8,Q5,j6 (fun q=>h2 q.symm),j6 (fun q=>h1 q.symm)]
  have k0:∀j,j<z.n->j≠D->¬j8 w4 j->Kf.g j=z.g j:=fun j S h1 h2=>by rw[gf j oM oM,W,j6 (fun q=>h1 q.symm),i2 j S h2]
  have k2:Kf.g D=cE [w5] 1:=by rw[gf D oM oM,W,d6];exact i7 oM
  have k1:Kf.g (z.n+2)=cE (J++el) 3:=by
   rw[gf _ oM oM,W,j6 oM,a3,y9 (by rw[aJ,e5];omega)]
  have h7:d9 D K1 (bT w4 K1):=by
   unfold bT;split
   .rename_i a n c;split
    .exact d9.refl _ _
    .exact d9.put (oN (E.lt (e2 a n c rfl)))
   .exact d9.refl _ _
  have k4:d9 D z Kf:=by
   rw[b8,Q5,W,a3];exact(((((c0.wk oM).trans h7).trans (d9.push (by rw[aJ];omega))).trans (d9.put lR)).trans (d9.put oM)).trans (d9.put oM)
  have k9:Kf.low<=D:=by rw[b8,Q5,A5,A5,W,A5];omega
  have k3:t7 Kf (D+1) 3 (QR H0 lo K false) w5 (u++[x]):=⟨J++el,.inr ⟨z.n+2,u.length+1+1,by rw[d6];simp,k1,oM,by simp [a2,e1];omega⟩,g7.append (x9.one e1 (hr.upTo hk))⟩
  refine d8 (kk-1) oM ⟨i+1,u++[x],oM,oM,f0,fL,fM,rfl,⟨⟨w5,k2,k3,.inr k9,fun j S h1 h2=>?_,fun b hb=>?_⟩,c5.trans k4⟩,by rw[ib,aaD];omega,fu⟩
  .rw[k0 j oM h1 (fun q=>by rcases c9 j q with r|r;exact h2 r;omega),c3 j S h1 h2]
  .rw[d6,R0]at hb;exact .inr oM
 .rw[b2]at X;have b3:dr u x=u:=by rw[dr,b2];rfl
  rw[b3]at fu;refine J19 f0 fL fM fJ b gx nt b6 a1 e1 j0 d3.symm g3 e3 g9 h0 O X @wrap_small ?_;exact d8 (kk-1) oM ⟨i+1,u,oM,oM,f0,fL,fM,rfl,⟨⟨w4,O,E,h6,c3,c9⟩,c5⟩,oM,fu⟩
def jI.low{lo K E:Nat}(h:jI lo K E w0 u H0 H z)(n:Nat)(X:n<=H.low)(W:∀k,k<=E->k<=H0.low->k<=n):jI lo K E w0 u H0 ⟨H.bs,n⟩ z:=by
 obtain⟨⟨w,J,O,D,S,U⟩,I⟩:=h;refine⟨⟨w,J,O.low n,?_,S,U⟩,I.n,W,I.g⟩;rcases D with D|D
 .exact .inl D
 .exact .inr (abw X D)
def CK{lo K I:Nat}{w:aet}{H D H':d7}(u:d9 H.n H D)(W:H.n<=D.low)(a2:lo<=I)(a3:I<H.n)(hg:H.g I=cE [w] 1)(hO:t7 H (I+1) 3 (QR H lo K false) w E)(h:jI lo K I w E D H' z):
  Ret (some (E7 undef H H')) H fun v D=>v=undef/\jI lo K I w E H D z/\D.low<=H.low:=by
 have n1:=u.n;obtain⟨⟨w',h1,h2,J,h4,h5⟩,S⟩:=h;have a1:∀cs q,QR D lo K false cs q->QR H lo K false cs q:=fun _ _ h=>h.mono (fun j O=>(u.g j oM).symm) lR;refine F9 (fun _ hl=>⟨rfl,?_,lR⟩) ⟨rfl,?_,by show min H.low H'.low<=H.low;omega⟩
 .rcases J with⟨X,q2⟩|q
  .rw[X];exact⟨⟨w,hg,hO,.inl ⟨rfl,rfl⟩,fun _ _ _ _=>rfl,fun b U=> .inl U⟩,d9.refl _ _⟩
  .omega
 .have hn:=S.n;refine⟨⟨w',h1,(h2.imp a1).low _,?_,fun j O X q2=>?_,fun b U=>?_⟩,by show H.n<=H'.n;omega,fun k hk q=>?_,fun j O=>?_⟩
  .rcases J with J|J
   .exact .inl J
   .exact .inr (by show min H.low H'.low<=I;omega)
  .show H'.g j=H.g j;rw[h4 j oM X q2,u.g j O]
  .rcases h5 b U with r|r
   .exact .inl r
   .exact .inr oM
  .have:=S.lowAll k hk oM;show k<=min H.low H'.low;omega
  .show H'.g j=H.g j;rw[S.g j O,u.g j oM]
def Lz{l:List Q}(h:l.length<=1):inL false l++l=inB l:=by
 match l,h with
 |[],_=>rfl
 |[x],_=>simp [inB,inL]
def Uv(k:Nat)(a5:ic 64 false k)(a6:ic 99 true k):ic 64 false (k+1):=by
 intro H lo pm K w u cs q hk I E hO hr a4 a9;obtain⟨X,a7,_⟩:=a4.parts;have b4:=im q;have W:=u5 E;obtain⟨va,ca,wa,D,rfl,h1,h2,h3,h4⟩:=hr.path;obtain⟨J,O,-,hg,S⟩:=pushF H (bC [iV q.op,.slice va q.a.length ca,.slice wa q.b.length D] 1);have U:H.n<=J.low:=by rw[O,l9];exact lR
 have hn:=S.n;have b3:=u5 hg;have hm:∀j,j<lo->J.g j=H.g j:=fun j hj=>S.g j oM;have a8:jI lo K pm w u J J u:=⟨⟨w,(S.g pm W).trans E,(hO.keep S).imp fun _ _ h=>h.mono hm lR,.inl ⟨rfl,rfl⟩,fun _ _ _ _=>rfl,fun _ h=> .inl h⟩,d9.refl _ _⟩
 rw[i8 TZ rfl _ sM,qt];refine J2 O.symm hg ?_;refine j5 (F:=fun z=>Ret (t6 _ _ _ (u6 (inBlock 0 z) _)) _ _) (Qg k a5 J lo pm K oM I w u va ca q.a (h1.mono hm lR) h3 X (pT H.n) ((inL false q.a).foldl dr u) q.a.length _ _ ⟨0,u,rfl,oM,rfl,rfl,rfl,rfl,rfl,a8,by rw[aan];omega,rfl⟩) ?_;rintro o e' H2 ⟨ho,g0,g3,hM⟩;have a2:=hM.stay;have b2:=a2.n;have a3:H2.g H.n=cE [iV q.op,.slice va q.a.length ca,.slice wa q.b.length D] 1:=by
  obtain⟨w',_,_,_,hb,_⟩:=hM.ex;exact(hb H.n oM oM (fun q=>by have:=hO.lt q;omega)).trans hg
 have b1:=pN (inL false q.a) u;have b0:(inL false q.a).length<=nL q.a:=by
  have:=lJ q.a (inQ false) fun x hx=>(du _ false x lR (X x hx)).1;rw[gH];omega
 refine J4 ho g0 g3 a3 ?_;refine j5 (F:=fun z=>Ret (t6 _ _ _ (inBlock 2 z)) _ _) (Qh k a6 J lo pm K oM I w u wa D q.b (h2.mono hm lR) h4 a7 (pT H.n) ((inL false q.a++inL true q.b).foldl dr u) q.b.length _ _ ⟨0,_,rfl,oM,g0,g3,rfl,rfl,rfl,hM,by rw[aan];omega,by rw[aan,aaV]⟩) ?_;rintro o e' H3 ⟨ho,g0,g3,a1⟩;refine J1 ho ?_;exact CK S U I W E hO a1
def PS(q:Q)(h:OkD true q):inQ true q=inL true q.a++inB q.b:=by
 obtain⟨_,_,_,_,D⟩:=h.parts;have u:=(eW D).2.2;simp only[aab]at u;rw[kq];by_cases z:q.op=11
 .rw[cA z,Lz u.2]
 .rw[bt z];have:q.b=[]:=by
   have E:=u.2;have I:¬q.b.length=1:=fun r=>z (u.1.2 r);exact aag.1 oM
  rw[this];rfl
def Uw(k:Nat)(a7:ic 99 true k)(a8:ic 64 false k):ic 99 true (k+1):=by
 intro H lo pm K w u cs q hk O J hO hr a1 b1;rw[PS q a1];obtain⟨a3,a9,_⟩:=a1.parts;have b6:=im q;have a2:=u5 J;obtain⟨va,ca,wa,I,rfl,h1,h2,h3,h4,_⟩:=hr.filter;obtain⟨E,D⟩:=eY ([iV q.op,.string q.sp,.string q.lc,.string q.vl,.slice va q.a.length ca,.slice wa q.b.length I]:LV);obtain⟨S,U,-,hg,W⟩:=pushF H (bC E 1);have X:H.n<=S.low:=by rw[U,l9];exact lR
 have hn:=W.n;have b5:=u5 hg;have r4:E[4]?=some (.slice va q.a.length ca):=by rw[D];rfl
 have r5:E[5]?=some (.slice wa q.b.length I):=by rw[D];rfl
 have ar:E.all oC=true:=by rw[D];rfl
 have lr:E.length=6:=by rw[D];rfl
 rw[<-D];have hm:∀j,j<lo->S.g j=H.g j:=fun j hj=>W.g j oM;have b0:jI lo K pm w u S S u:=⟨⟨w,(W.g pm a2).trans J,(hO.keep W).imp fun _ _ h=>h.mono hm lR,.inl ⟨rfl,rfl⟩,fun _ _ _ _=>rfl,fun _ h=> .inl h⟩,d9.refl _ _⟩
 rw[i8 Py rfl _ sM];refine J6 ar U.symm hg r4 r5 lr ?_;refine j5 (F:=fun z=>Ret (t6 _ _ _ (u6 (inBlock 0 z) _)) _ _) (Qi k a7 S lo pm K oM O w u va ca q.a (h1.mono hm lR) h3 a3 (pT H.n) ((inL true q.a).foldl dr u) q.a.length _ _ ⟨0,u,rfl,oM,rfl,rfl,rfl,rfl,rfl,b0,by rw[aan];omega,rfl⟩) ?_;rintro o e' H2 ⟨ho,g0,g3,hM⟩;have a5:=hM.stay;have b4:=a5.n;have a6:H2.g H.n=cE E 1:=by
  obtain⟨w',_,_,_,hb,_⟩:=hM.ex;exact(hb H.n oM oM (fun q=>by have:=hO.lt q;omega)).trans hg
 have b3:=pN (inL true q.a) u;have b2:(inL true q.a).length<=nL q.a:=by
  have:=lJ q.a (inQ true) fun x hx=>(du _ true x lR (a3 x hx)).1;rw[gH];omega
 refine J7 ho g0 g3 a6 r4 r5 lr ?_;refine j5 (F:=fun z=>Ret (t6 _ _ _ (inBlock 2 z)) _ _) (Qj k a8 S lo pm K oM O w u wa I q.b (h2.mono hm lR) h4 a9 ((inL true q.a++inB q.b).foldl dr u) q.b.length _ _ ⟨0,_,rfl,oM,g0,rfl,rfl,rfl,hM,by rw[aan];omega,by rw[aan,aaV]⟩) ?_;rintro o e' H3 ⟨ho,a4⟩;refine J1 ho ?_;exact CK W X O a2 J hO a4
def LO:∀k,ic 64 false k/\ic 99 true k:=by
 intro k;induction k with
 |zero=>exact⟨fun H lo D K w u cs q _ _ _ _ z=>z.elim,fun H lo D K w u cs q _ _ _ _ z=>z.elim⟩
 |succ k h=>exact⟨Uv k h.1 h.2,Uw k h.2 h.1⟩
def Li(v:aet)(H H':d7)(h:H'.low<H.n):E7 v H H'=(v,some ⟨H'.bs,min H.low H'.low⟩):=by
 unfold E7;rw[bt];have:¬H.bs.length<=H'.low:=by have:H.n=H.bs.length:=rfl;omega
 simp [this]
def QQ(H:d7)(pm:Nat)(st:Int)(r:LV)(I:H.g pm=cE (.int .i64 st::r) 1)(S:r.length=4)(X:0<=st)(h1:st<=10000000):
  CL prog l7 137 [pT pm] H=some (.int .i64 st,some (H.put pm (.cells (.int .i64 (st+1)::r) true 1))):=by
 have E:=u5 I;have D:(⟨H.bs,H.n⟩:d7).g pm=cE (.int .i64 st::r) 1:=I;obtain⟨u,h⟩:=eY (d7.put ⟨H.bs,H.n⟩ pm (.cells (.int .i64 (st+1)::r) true 1));have O:u.g pm=some (.cells (.int .i64 (st+1)::r) true 1):=by rw[h];exact i7 E
 have U:u.low=pm:=by rw[h,A5];show min H.n pm=pm;omega
 have W:u.low<H.n:=oM;have z:(⟨u.bs,min H.low u.low⟩:d7)=H.put pm (.cells (.int .i64 (st+1)::r) true 1):=by rw[U,h];rfl
 have J:st+1-1=st:=oM;rw[i8 Tw rfl _ sM];exact J8 D S @wrap_small h.symm O J @Li z trivial
structure PgS(Rt:LV->Q->Prop)(pm:Nat)(H0:d7)(we0 wt0:aet)(H:d7)(p:PrD):Prop where
 ex:∃we wt,H.g pm=cE [iV p.st,iV p.sa,iV p.en,we,wt] 1/\t7 H (pm+1) 4 (u9 edE) we p.ed/\t7 H (pm+1) 6 Rt wt p.ts/\(∀b,j8 we b->¬j8 wt b)/\
  (∀j,j<H0.n->j≠pm->¬j8 we0 j->¬j8 wt0 j->H.g j=H0.g j)/\(∀b,j8 we b->j8 we0 b\/H0.n<=b)/\(∀b,j8 wt b->j8 wt0 b\/H0.n<=b)
 stay:d9 pm H0 H
section
variable{Rt:List Value->Q->Prop}{pm:Nat}{H0 H H':d7}{we0 wt0 we wt:Value}{p:PrD}
def PgS.lt(h:PgS Rt pm H0 we0 wt0 H p):pm<H.n:=by obtain⟨⟨_,_,u,_⟩,_⟩:=h;exact u5 u
def PgS.work(h:PgS Rt pm H0 we0 wt0 H p)(u:d9 H.n H H'):PgS Rt pm H0 we0 wt0 H' p:=by
 have X:=h.lt;obtain⟨⟨we,wt,D,E,I,J,O,S,U⟩,z⟩:=h;have hn:=z.n;exact⟨⟨we,wt,(u.g pm X).trans D,E.keep u,I.keep u,J,fun j W q1 q2 q3=>by rw[u.g j oM,O j W q1 q2 q3],S,U⟩,z.trans (u.wk oM)⟩
def PgS.start(E:H.g pm=cE [iV p.st,iV p.sa,iV p.en,we,wt] 1)(u:t7 H (pm+1) 4 (u9 edE) we p.ed)(z:t7 H (pm+1) 6 Rt wt p.ts)(D:∀b,j8 we b->¬j8 wt b):PgS Rt pm H we wt H p:=
 ⟨⟨we,wt,E,u,z,D,fun _ _ _ _ _=>rfl,fun _ h=> .inl h,fun _ h=> .inl h⟩,d9.refl _ _⟩
def PgS.trans(h:PgS Rt pm H0 we0 wt0 H p)(k:∀we wt,(H.g pm=cE [iV p.st,iV p.sa,iV p.en,we,wt] 1)->PgS Rt pm H we wt E p1):PgS Rt pm H0 we0 wt0 E p1:=by
 obtain⟨⟨we,wt,X,h2,h3,h4,h5,I,J⟩,O⟩:=h;obtain⟨⟨z,D,k1,k2,k3,k4,k5,k6,k7⟩,ks⟩:=k we wt X;have hn:=O.n;refine⟨⟨z,D,k1,k2,k3,k4,fun j hj S U W=>?_,fun b u=>?_,fun b u=>?_⟩,O.trans ks⟩
 .rw[k5 j oM S (fun q=>?_) (fun q=>?_),h5 j hj S U W]
  .rcases I j q with r|r
   .exact U r
   .omega
  .rcases J j q with r|r
   .exact W r
   .omega
 .rcases k6 b u with r|r
  .exact I b r
  .exact .inr oM
 .rcases k7 b u with r|r
  .exact J b r
  .exact .inr oM
end
def fI{Rt:LV->Q->Prop}{pm:Nat}{H0 H:d7}{we0 wt0:aet}{p:PrD}(h:PgS Rt pm H0 we0 wt0 H p)(W:0<=p.st)(X:p.st<=10000000):
  ∃H',CL prog l7 137 [pT pm] H=some (.int .i64 p.st,some H')/\PgS Rt pm H0 we0 wt0 H' {p with st:=p.st+1}/\H'.low<=pm/\H'.low<=H.low/\H'.n=H.n:=by
 have hp:=h.lt;obtain⟨⟨we,wt,I,z,D,J,O,S,U⟩,hs⟩:=h;refine⟨_,QQ H pm p.st _ I rfl W X,⟨⟨we,wt,i7 hp,z.same fun b u=>j6 (oN (z.lt u)),D.same fun b u=>j6 (oN (D.lt u)),J,fun j hj E q2 q3=>?_,S,U⟩,hs.trans (d9.put lR)⟩,?_,?_,?_⟩
 .rw[j6 (fun q=>E q.symm),O j hj E q2 q3]
 .rw[A5];omega
 .rw[A5];omega
 .rw[j9]
def Jf{Rt:LV->Q->Prop}{pm:Nat}{H0 H:d7}{we0 wt0:aet}{p:PrD}(h:PgS Rt pm H0 we0 wt0 H p)(lv:aet)(l:List (Int×Int×Int×Int))(hl:SlI H H.n 4 (u9 edE) lv l)(hn:p.ed.length+l.length<=1000000)(a4:l≠ []):
  Ret (CL prog l7 160 [pT pm,lv] H) H fun v H'=>v=undef/\PgS Rt pm H0 we0 wt0 H' {p with ed:=p.ed++l}/\H'.low<=pm/\H'.low<=H.low:=by
 have hp:=h.lt;obtain⟨⟨we,wt,g1,g2,S,g4,g5,g6,g7⟩,hs⟩:=h;have a5:=hs.n;obtain⟨Hb,D⟩:=eY (⟨H.bs,H.n⟩:d7);have sb:d9 H.n H Hb:=by rw[D];exact d9.start H
 have nb:Hb.n=H.n:=by rw[D];rfl
 have J:∀j,Hb.g j=H.g j:=fun j=>by rw[D];rfl
 obtain⟨z,h1,O,ha,a2,hO,E⟩:=(g2.keep sb).appendF (P:=prog) (t:=31) (n:=H.n) (l2:=l) (x:=lv) (by exact Wt.2.2.2.2.2.2) sO.1 sO.2.1 sO.2.2.1 oM oM (hl.mono (fun j _=>J j) lR iF) oM oM;have n1:=E.n;obtain⟨a7,a8,rfl⟩:=hl.slice;have a3:¬j8 we pm:=fun q=>oN (g2.lt q);have U:O.g pm=cE [iV p.st,iV p.sa,iV p.en,we,wt] 1:=by rw[E.but pm oM a3,J];exact g1
 obtain⟨a1,c1,e1⟩:=hO.slice;have cw:z.cells.toList=[z]:=by rw[e1];rfl
 have ow:Value.oneCell' z=true:=by rw[e1];rfl
 obtain⟨H2,u⟩:=eY (O.put pm (bC [iV p.st,iV p.sa,iV p.en,z,wt] 1));have l2:H2.low<=pm:=by rw[u,A5];omega
 have a6:H2.low<H.n:=oM;have W:Hb.g pm=cE [iV p.st,iV p.sa,iV p.en,we,wt] 1:=by rw[J];exact g1
 rw[i8 Zf rfl _ sM];rw[show(⟨H.bs,H.n⟩:d7)=Hb from D.symm];refine J7 W ha a2 U cw ow u.symm ?_;refine F9 (fun _ hl=>oM) ⟨rfl,?_,?_,?_⟩
 rotate_left
 .show min H.low H2.low<=pm;omega
 .show min H.low H2.low<=H.low;omega
 have kp:∀j,j≠pm->H2.g j=O.g j:=fun j hj=>by rw[u,j6 (fun q=>hj q.symm)]
 have X:H2.g pm=cE [iV p.st,iV p.sa,iV p.en,z,wt] 1:=by rw[u];exact i7 oM
 have sg:d9 pm H H2:=by rw[u];exact((sb.wk oM).trans (E.stay.wk oM)).trans (d9.put lR)
 refine⟨⟨z,wt,X,(hO.same (H':=⟨H2.bs,min H.low H2.low⟩) fun b I=>?_),(S.same (H':=⟨H2.bs,min H.low H2.low⟩) fun b I=>?_),fun b I=>?_,fun j hj q1 q2 q3=>?_,fun b I=>?_,g7⟩,hs.trans ⟨sg.n,fun k hk q=>?_,sg.g⟩⟩
 .exact kp b (oN (hO.lt I))
 .have:=S.lt I;show H2.g b=_;rw[kp b oM,E.but b oM (fun q=>g4 b q I),J]
 .rcases E.new b I with r|r
  .exact g4 b r
  .exact fun q=>oN (S.lt q)
 .show H2.g j=_;rw[kp j q1,E.but j oM (fun q=>?_),J,g5 j hj q1 q2 q3];rcases g6 j q with r|r
  .exact q2 r
  .omega
 .rcases E.new b I with r|r
  .exact g6 b r
  .exact .inr oM
 .have:k<=H2.low:=by
   rw[u,A5];have:=E.stay.lowAll k oM (by rw[D];show k<=H.n;omega);omega
  show k<=min H.low H2.low;omega
def PgC(Rt:LV->Q->Prop)(pm:Nat)(x:Option (aet×Option d7))(H:d7)(p p':PrD)(v:aet):Prop:=∀(H0:d7)(we0 wt0:aet),PgS Rt pm H0 we0 wt0 H p->Ret x H fun w H'=>w=v/\PgS Rt pm H0 we0 wt0 H' p'/\H'.low<=pm/\H'.low<=H.low
def lT{Rt:LV->Q->Prop}{pm:Nat}{H:d7}{p I:PrD}(h:∀we wt,pm<H.n->PgS Rt pm ⟨H.bs,H.n⟩ we wt ⟨H.bs,H.n⟩ p->∃H',x=some (E7 v H H')/\PgS Rt pm ⟨H.bs,H.n⟩ we wt H' I/\H'.low<=pm):PgC Rt pm x H p I v:=by
 intro H0 we0 wt0 D;have hp:=D.lt;obtain⟨⟨we,wt,S,U,W,X,g5,g6,g7⟩,hs⟩:=id D;obtain⟨H',hx,⟨⟨J,O,k1,k2,k3,k4,k5,k6,k7⟩,u⟩,hl⟩:=h we wt hp ⟨⟨we,wt,S,U.low _,W.low _,X,fun _ _ _ _ _=>rfl,fun _ h=> .inl h,fun _ h=> .inl h⟩,d9.refl _ _⟩;have nb:(⟨H.bs,H.n⟩:d7).n=H.n:=rfl;have lb:(⟨H.bs,H.n⟩:d7).low=H.n:=rfl;have hn:=u.n;have z:PgS Rt pm H we wt ⟨H'.bs,min H.low H'.low⟩ I:=⟨⟨J,O,k1,k2.low _,k3.low _,k4,k5,k6,k7⟩,u.n,fun k q1 q2=>(by have:=u.lowAll k q1 oM;show k<=min H.low H'.low;omega),u.g⟩
 rw[hx];refine F9 (fun _ q=>oM) ⟨rfl,D.trans fun a1 a2 E=>?_,?_,?_⟩
 .have:=S.symm.trans E;simp only[aaa,Blk.cells.injEq,acB,adV,aei]at this;obtain⟨rfl,rfl⟩:=this;exact z
 .show min H.low H'.low<=pm;omega
 .show min H.low H'.low<=H.low;omega
def lU(Rt:LV->Q->Prop)(pm:Nat)(H:d7)(p:PrD)(f t:Int)(W:p.ed.length+1<=1000000):
  PgC Rt pm (CL prog l7 138 [pT pm,iV f,iV t] H) H p (p.edge f t 0 0) undef:=by
 refine lT fun we wt hp h=>?_;obtain⟨E,u,n1,-⟩:=pushF H (.cells (edE (f,t,0,0)) true 4);have O:d9 H.n ⟨H.bs,H.n⟩ E:=by rw[u];exact d9.push lR
 have I:t7 E H.n 4 (u9 edE) (sL H.n 1 1) [(f,t,0,0)]:=by rw[u];exact t7.fresh rfl lR (x9.one rfl rfl)
 obtain⟨v,X,H2,S,z,rfl,J,D,U⟩:=Jf (h.work O) _ [(f,t,0,0)] I.sl (by simpa using W) sM;rw[i8 Tx rfl _ sM];refine J3 u.symm S z ?_;exact⟨H2,rfl,J,D⟩
def ph(Rt:LV->Q->Prop)(pm:Nat)(H:d7)(p:PrD)(k x:Int)(hn:p.ed.length+1<=1000000)(U:0<=p.st)(h1:p.st<=1000000):
  PgC Rt pm (CL prog l7 134 [pT pm,iV k,iV x] H) H p (({p with st:=p.st+2}:PrD).edge p.st (p.st+1) k x) (.tuple #[iV p.st,iV (p.st+1)]):=by
 refine lT fun we wt hp h=>?_;obtain⟨Ha,D,pa,a2,a3,na⟩:=fI h U oM;obtain⟨Hb,z,pb,a4,a5,nb⟩:=fI pa (by show 0<=p.st+1;omega) (by show p.st+1<=_;omega);have n0:(⟨H.bs,H.n⟩:d7).n=H.n:=rfl;obtain⟨J,u⟩:=eY (d7.push Hb (.cells (edE (p.st,p.st+1,k,x)) true 4));have X:d9 Hb.n Hb J:=by rw[u];exact d9.push lR
 have W:t7 J Hb.n 4 (u9 edE) (sL Hb.n 1 1) [(p.st,p.st+1,k,x)]:=by rw[u];exact t7.fresh rfl lR (x9.one rfl rfl)
 obtain⟨v,h2,H2,hc,E,rfl,S,I,a1⟩:=Jf (pb.work X) _ [(p.st,p.st+1,k,x)] W.sl (by simpa using hn) sM;have O:p.st+1+1=p.st+2:=oM;simp only[O]at S z;have ll:H2.low<H.n:=oM;rw[i8 Zb rfl _ sM];refine J6 D z u.symm hc E O ?_;exact⟨H2,rfl,S,I⟩
def PgS.trans'{H0 H J:d7}{p p1:PrD}(h:PgS E D H0 u z H p)(k:PgS E D H O S J p1)(U:H.g D=cE [iV p.st,iV p.sa,iV p.en,O,S] 1):PgS E D H0 u z J p1:=
 h.trans fun W X I=>by
  have:=U.symm.trans I;simp only[aaa,Blk.cells.injEq,acB,adV,aei]at this;obtain⟨rfl,rfl⟩:=this;exact k
def SlI.tail{P:Program}{H:d7}{α:Type}{R:LV->α->Prop}{l:List α}{t e:TypeId}(h:SlI H lo sz R (.slice S l.length u) l)(E:0<l.length)(ht:P.underlying t=some (.slice e))(hs:D3 P e=some sz)(h0:0<sz):
  ∃I z,(∀H',(∀j,j<lo->H'.g j=H.g j)->L5 P H' t (.slice S l.length u) (some (.int .i64 1)) none none=some (.slice I (l.drop 1).length z))/\SlI H lo sz R (.slice I (l.drop 1).length z) (l.drop 1):=by
 rcases h with⟨_,h⟩|⟨b,o,c,hv,h⟩
 .rw[h]at E;simp at E
 .rcases h with h|⟨cs,own,W,X,h3,h4⟩
  .rw[h]at E;simp at E
  .obtain⟨rfl,rfl⟩:S=some ⟨b,o,none⟩/\u=c:=by simpa using hv
   have D:(l.drop 1).length=l.length-1:=sM;have a1:(l.length-1)*sz+sz=l.length*sz:=by
    rw[<-adZ];congr 1;omega
   refine⟨some ⟨b,o+sz,none⟩,if u=l.length then l.length-1 else l.length-1+1,fun H' J=>?_,.inr ⟨b,o+sz,_,rfl,.inr ⟨cs,own,W,X,by rw[D];omega,fun i a hi=>?_⟩⟩⟩
   .have hg:H'.g b=some (.cells cs own sz):=by rw[J b W];exact X
    have O:mX H' b=some sz:=by simp only[mX,hg]
    simp only[L5,ht,hs,bnd,O,D];have U:(if(0:Int)<=1 then some (1:Int).toNat else none)=some 1:=rfl;have p1:¬sz=0:=oM;have p2:1<=l.length/\l.length<=l.length:=⟨E,lR⟩
    have p3:¬l.length=0:=oM;by_cases hc:u=l.length
    .simp only[U,bt p1,cA p2,bt p3,ne_eq,abU,acb,cA hc,aab,adP]
    .simp only[U,bt p1,cA p2,bt p3,ne_eq,abU,acb,bt hc,aab,adP]
   .rw[aaA]at hi;have:=h4 (1+i) a hi;rw[show o+sz+i*sz=o+(1+i)*sz by rw[aaP];omega];exact this
def zq(Hs:d7)(lo K k:Nat):Prop:=∀(H:d7)(pm:Nat)(cs:LV)(q:Q)(p:PrD),lo<=pm->(∀j,j<lo->H.g j=Hs.g j)->QR Hs lo k false cs q->OkD false q->mr (nQ q) p->
 PgC (QR Hs lo K true) pm (CL prog l7 100 [pT pm,.agg cs.toArray] H) H p (D1 q p).1 (.tuple #[iV (D1 q p).2.1,iV (D1 q p).2.2])
def AN(D:d7)(lo K k:Nat)(ih:zq D lo K k)(Hb:d7)(u:Nat)(b3:lo<=u)(a8:∀j,j<lo->Hb.g j=D.g j) (we wt:aet) (va:Option Addr) (ca:Nat) (l:List Q) (hv:QsR D lo k false (.slice va l.length ca) l) (hn:l.length<=1048576) (hw:∀x∈l,OkD false x) (s:Int) (r:PrD×Int×Int):
  ∀kk e H2,(∃(i:Nat)(y:PrD×Int×Int),kk=l.length-i/\i<=l.length/\e.g 0=pT u/\e.g 6=iV s/\e.g 7=iV y.2.2/\e.g 21= .slice va l.length ca/\e.g 22=iV l.length/\e.g 23=iV i/\PgS (QR D lo K true) u Hb we wt H2 y.1/\H2.low<=u/\mr (nL (l.drop i)) y.1/\y.2.1=s/\cV (l.drop i) y=r)->
  u7 (LE prog l7 (.loop Xy) e H2) (fun o e H2=>o= .exit 0/\e.g 6=iV r.2.1/\e.g 7=iV r.2.2/\PgS (QR D lo K true) u Hb we wt H2 r.1/\H2.low<=u):=by
 refine i5 _ _ ?_;rintro kk e H2 ⟨i,y,b8,hi,f0,f6,f7,E,I,S,hP,hl,X,hs,J⟩;rcases b:decide ((i:Int)<l.length)with _|_
 .have a6:=dF b;have:l.drop i=[]:=dN oM;rw[this,cV]at J;refine J5 f0 E I S b ?_;exact i6 ⟨rfl,by rw[<-J,hs];exact f6,by rw[<-J];exact f7,by rw[<-J];exact hP,hl⟩
 have a6:=dT b;have hS:=hP.stay;have c0:=hS.n;have c3:=hP.lt;obtain⟨x,nb,o,cs,own,el,hx,hd,rfl,b4,hg,b2,h,hr⟩:=hv.row (i:=i) oM;have b6:=mG hx;have nt:(i:Int).toNat=i:=tN i;simp only[qSz,bF]at h hg b2;have O:∀j,j<lo->H2.g j=D.g j:=fun j hj=>by rw[hS.g j oM,a8 j hj]
 have a1:el.all oC=true:=I5 hr;have e1:=hr.len;simp only[qSz,bF]at e1;have a3:=Q6 hr;rw[e1]at a3;have gx:=(O nb b4).trans hg;obtain⟨H3,a4,n3,g3,s3⟩:=pushP H2 (bC [iV 0,nS,nS] 1) (bC el 1);have b7:splice [iV 0,nS,nS] 0 el=el:=y7 _ _ (by rw[e1];rfl);have b5:nL (l.drop i)=nQ x+nL (l.drop (i+1)):=by rw[hd,nL]
 obtain⟨t0,t1,t2,t3⟩:=X;rw[b5]at t1 t2 t3;have a2:=I6 x y.1;obtain⟨v4,h4,H4,W,b0,rfl,U,b9,_⟩:=ih H3 u el x y.1 b3 (fun j hj=>by rw[s3.g j oM,O j hj]) hr (hw x b6) ⟨t0,oM,oM,oM⟩ Hb we wt (hP.work s3);rw[hd,cV]at J;obtain⟨z,hz⟩:=eY (D1 x y.1);rw[<-hz]at W U J a2;obtain⟨u0,u1,u2,u3⟩:=a2;obtain⟨v5,h5,H5,a7,a9,rfl,a5,b1,_⟩:=lU (QR D lo K true) u H4 z.1 y.2.2 z.2.1 oM Hb we wt U;refine J21 f0 f6 f7 E I S b gx nt h a1 e1 b7 a4.symm g3 a3 W b0 a7 a9 @wrap_small ?_;exact d8 (kk-1) oM ⟨i+1,(z.1.edge y.2.2 z.2.1 0 0,y.2.1,z.2.2),oM,oM,f0,f6,rfl,E,I,rfl,a5,b1,⟨by simp only[ay];omega,by simp only[ay];omega,by rw[S6];omega,by simp only[eR];omega⟩,hs,J⟩
def UB(D:d7)(lo K k:Nat)(ih:zq D lo K k)(H:d7)(O:Nat)(X:lo<=O)(a7:∀j,j<lo->H.g j=D.g j) (v:aet) (l:List Q) (hv:QsR D lo k false v l) (hn:l.length<=1048576) (a2:0<l.length) (hw:∀x∈l,OkD false x) (p:PrD) (U:mr (nL l) p):
  PgC (QR D lo K true) O (CL prog l7 135 [pT O,v] H) H p (fQ l p).1 (.tuple #[iV (fQ l p).2.1,iV (fQ l p).2.2]):=by
 refine lT fun we wt hp h=>?_;obtain⟨va,ca,rfl⟩:=hv.slice;obtain⟨b7,a3,b5,b6⟩:=SlI.tail (P:=prog) (t:=22) (e:=25) hv a2 (by exact oO.2.2.2.2.2.2) fS.1 (by decide);obtain⟨x,nb,o,cs,own,el,hx,hd,rfl,b3,hg,b2,E,hr⟩:=hv.row (i:=0) a2;simp only[qSz,bF,aa8,aaf]at E hg b2;have a1:l=x::l.drop 1:=by simpa using hd
 have b8:nL l=nQ x+nL (l.drop 1):=by conv=>lhs;rw[a1,nL]
 have I:fQ l p=cV (l.drop 1) (D1 x p):=by conv=>lhs;rw[a1,fQ]
 obtain⟨t0,t1,t2,t3⟩:=U;have W:=I6 x p;have u:∀j,j<lo->(⟨H.bs,H.n⟩:d7).g j=D.g j:=a7;have gx:(⟨H.bs,H.n⟩:d7).g nb=_:=(u nb b3).trans hg;obtain⟨v4,h4,H4,S,a8,rfl,J,b0,_⟩:=ih ⟨H.bs,H.n⟩ O el x p X u hr (hw x (mG hx)) ⟨t0,oM,oM,oM⟩ _ we wt h;have a6:=J.stay;have a4:∀j,j<lo->H4.g j=D.g j:=fun j hj=>by rw[a6.g j oM,u j hj]
 have b4:=b5 H4 a4;have a9:(0:Int)<l.length:=oM;obtain⟨y,hy⟩:=eY (D1 x p);rw[<-hy]at S J W I;obtain⟨u0,u1,u2,u3⟩:=W;rw[i8 Tu rfl _ sM];refine J6 a9 gx E S a8 b4 ?_;refine j5 (F:=fun z=>∃H',t6 _ _ _ (u6 (inBlock 0 z) _)=some (E7 _ H H')/\PgS (QR D lo K true) O _ we wt H' (fQ l p).1/\H'.low<=O) (AN D lo K k ih ⟨H.bs,H.n⟩ O X u we wt b7 a3 (l.drop 1) b6 (by simp;omega) (fun z hz=>hw z (acn hz)) y.2.1 (cV (l.drop 1) y) (l.drop 1).length _ _ ⟨0,y,rfl,oM,rfl,rfl,rfl,rfl,rfl,rfl,J,b0,⟨oM,by rw[aan];omega,by rw[aan];omega,by rw[aan];omega⟩,rfl,rfl⟩) ?_;rintro o' e' H5 ⟨ho,g6,g7,a5,b1⟩;rw[I];have ll:H5.low<H.n:=oM;refine J3 ho g6 g7 ?_;exact⟨H5,rfl,a5,b1⟩
structure PgW(Rt:LV->Q->Prop)(pm:Nat)(H:d7)(we wt:aet)(p:PrD):Prop where
 row:H.g pm=cE [iV p.st,iV p.sa,iV p.en,we,wt] 1
 e:t7 H (pm+1) 4 (u9 edE) we p.ed
 t:t7 H (pm+1) 6 Rt wt p.ts
 d:∀b,j8 we b->¬j8 wt b
def PgW.start{H:d7}{p:PrD}(h:PgW u z H D E p):PgS u z H D E H p:=PgS.start h.row h.e h.t h.d
def PgS.w{H0 H:d7}{p:PrD}(h:PgS J I H0 u z H p):∃D E,PgW J I H D E p/\(∀j,j<H0.n->j≠I->¬j8 u j->¬j8 z j->H.g j=H0.g j)/\(∀b,j8 D b->j8 u b\/H0.n<=b)/\(∀b,j8 E b->j8 z b\/H0.n<=b):=by
 obtain⟨⟨D,E,O,S,U,W,X,h6,h7⟩,_⟩:=h;exact⟨D,E,⟨O,S,U,W⟩,X,h6,h7⟩
def AP(I:d7)(lo K k:Nat)(ih:zq I lo K k)(Hb:d7)(E:Nat)(e3:lo<=E)(b9:E<Hb.n)(d2:∀j,j<lo->Hb.g j=I.g j) (we wt:aet) (va:Option Addr) (ca:Nat) (l:List Q) (hv:QsR I lo k false (.slice va l.length ca) l) (hn:l.length<=1048576) (hw:∀x∈l,OkD false x) (s:Int) (r:PrD×List Int) (g1:r.2.length<=1000000):
  ∀kk e H2,(∃(i:Nat)(p:PrD)(es:List Int)(w u D:aet),kk=l.length-i/\i<=l.length/\e.g 0=pT E/\e.g 6=iV s/\e.g 7=w/\e.g 17= .slice va l.length ca/\e.g 18=iV l.length/\e.g 19=iV i/\PgS (QR I lo K true) E Hb we wt H2 p/\PgW (QR I lo K true) E H2 u D p/\t7 H2 Hb.n 1 (u9 inE) w es/\(∀b,j8 w b->¬j8 u b/\¬j8 D b)/\mr (nL (l.drop i)) p/\M7 (l.drop i) s p es=r)->
  u7 (LE prog l7 (.loop Xz) e H2) (fun o e H2=>o= .exit 0/\e.g 0=pT E/\e.g 6=iV s/\∃(w u D:aet),e.g 7=w/\PgS (QR I lo K true) E Hb we wt H2 r.1/\PgW (QR I lo K true) E H2 u D r.1/\t7 H2 Hb.n 1 (u9 inE) w r.2/\(∀b,j8 w b->¬j8 u b/\¬j8 D b)):=by
 refine i5 _ _ ?_;rintro kk e H2 ⟨i,p,es,w,u,D,f3,hi,f0,f6,f7,a7,a8,b2,hP,hW,U,J,b6,fu⟩;rcases b:decide ((i:Int)<l.length)with _|_
 .have d0:=dF b;have:l.drop i=[]:=dN oM;rw[this,M7]at fu;subst fu;refine J5 f0 a7 a8 b2 b ?_;exact i6 ⟨rfl,f0,f6,w,u,D,f7,hP,hW,U,J⟩
 have d0:=dT b;have hS:=hP.stay;have f8:=hS.n;have g0:=hP.lt;have f9:E<Hb.n:=b9;obtain⟨x,nb,o,cs,own,el,hx,hd,rfl,e4,hg,e2,a6,hr⟩:=hv.row (i:=i) oM;have e6:=mG hx;have nt:(i:Int).toNat=i:=tN i;simp only[qSz,bF]at a6 hg e2;have b1:∀j,j<lo->H2.g j=I.g j:=fun j hj=>by rw[hS.g j oM,d2 j hj]
 have a1:el.all oC=true:=I5 hr;have e1:=hr.len;simp only[qSz,bF]at e1;have c3:=Q6 hr;rw[e1]at c3;have gx:=(b1 nb e4).trans hg;obtain⟨H3,c6,n3,g3,s3⟩:=pushP H2 (bC [iV 0,nS,nS] 1) (bC el 1);have f2:splice [iV 0,nS,nS] 0 el=el:=y7 _ _ (by rw[e1];rfl);have e5:nL (l.drop i)=nQ x+nL (l.drop (i+1)):=by rw[hd,nL]
 obtain⟨t0,t1,t2,t3⟩:=b6;rw[e5]at t1 t2 t3;have b8:=I6 x p;have W3:PgW (QR I lo K true) E H3 u D p:=⟨(s3.g E oM).trans hW.row,hW.e.keep s3,hW.t.keep s3,hW.d⟩
 obtain⟨v4,h4,H4,b5,d6,rfl,W,f4,_⟩:=ih H3 E el x p e3 (fun j hj=>by rw[s3.g j oM,b1 j hj]) hr (hw x e6) ⟨t0,oM,oM,oM⟩ H3 u D W3.start;have a5:=(hP.work s3).trans' W W3.row;rw[hd,M7]at fu;obtain⟨z,hz⟩:=eY (D1 x p);rw[<-hz]at b5 W a5 fu b8;obtain⟨u0,u1,u2,u3⟩:=b8;obtain⟨c4,c5,W4,a9,e7,e9⟩:=W.w;have n4:=W.stay.n;obtain⟨v5,h5,H5,d1,d3,rfl,X,f5,_⟩:=lU (QR I lo K true) E H4 z.1 s z.2.1 oM H4 c4 c5 W4.start;have b3:=a5.trans' X W4.row;obtain⟨a3,a4,O,b0,e8,f1⟩:=X.w;have n5:=X.stay.n;have d4:∀b,j8 w b->¬j8 c4 b/\¬j8 c5 b:=fun b h=>⟨fun q=>by rcases e7 b q with r|r;exact(J b h).1 r;have:=U.lt h;omega,fun q=>by rcases e9 b q with r|r;exact(J b h).2 r;have:=U.lt h;omega⟩
 have d5:∀b,j8 w b->¬j8 a3 b/\¬j8 a4 b:=fun b h=>⟨fun q=>by rcases e8 b q with r|r;exact(d4 b h).1 r;have:=U.lt h;omega,fun q=>by rcases f1 b q with r|r;exact(d4 b h).2 r;have:=U.lt h;omega⟩
 have c7:t7 H5 Hb.n 1 (u9 inE) w es:=U.same fun b h=>by
  have h1:=U.lt h;rw[b0 b oM oM (d4 b h).1 (d4 b h).2,a9 b oM oM (J b h).1 (J b h).2,s3.g b oM]
 obtain⟨w6,h6,H6,c9,b7,c8,S⟩:=c7.push1F (P:=prog) (t:=30) (cs:=inE z.2.2) (a:=z.2.2) (by exact OK.2.2.2.2.2.2) ty3.1 ty3.2.1 ty3.2.2.1 oM oM rfl rfl (by have h2:=(pO (l.drop (i+1)) s (z.1.edge s z.2.1 0 0) (es++[z.2.2])).2;rw[fu]at h2;simp at h2;omega) oM;have n6:=S.n;have c0:=X.lt;have a2:∀{b:Nat},b<H5.n->¬j8 w b->H6.g b=H5.g b:=fun h hw=>S.but _ h hw;have W6:PgW (QR I lo K true) E H6 a3 a4 (z.1.edge s z.2.1 0 0):=⟨(a2 c0 (fun q=>by have:=U.lt q;omega)).trans O.row,O.e.same fun b h=>a2 (O.e.lt h).2 (fun q=>(d5 b q).1 h),O.t.same fun b h=>a2 (O.t.lt h).2 (fun q=>(d5 b q).2 h),O.d⟩
 have b4:PgS (QR I lo K true) E Hb we wt H6 (z.1.edge s z.2.1 0 0):=by
  obtain⟨⟨g2,g4,k1,k2,k3,k4,k5,k6,k7⟩,ks⟩:=b3;have:=O.row.symm.trans k1;simp only[aaa,Blk.cells.injEq,acB,adV,aei]at this;obtain⟨rfl,rfl⟩:=this;exact⟨⟨a3,a4,W6.row,W6.e,W6.t,W6.d,fun j hj q1 q2 q3=>by rw[a2 oM (fun q=>by have:=U.lt q;omega)];exact k5 j hj q1 q2 q3,k6,k7⟩,ks.trans (S.stay.wk oM)⟩
 refine J23 f0 f6 f7 a7 a8 b2 b gx nt a6 a1 e1 f2 c6.symm g3 c3 b5 d6 d1 d3 c9 b7 @wrap_small ?_;refine d8 (kk-1) oM ⟨i+1,z.1.edge s z.2.1 0 0,es++[z.2.2],w6,a3,a4,oM,oM,f0,f6,rfl,a7,a8,rfl,b4,W6,c8,fun b h=>?_,⟨by simp only[ay];omega,by simp only[ay];omega,by rw[S6];omega,by simp only[eR];omega⟩,fu⟩;rcases S.new b h with r|r
 .exact d5 b r
 .exact⟨fun q=>by have:=O.e.lt q;omega,fun q=>by have:=O.t.lt q;omega⟩
def AO(Rt:LV->Q->Prop)(Hb:d7)(I:Nat)(b9:I<Hb.n)(we wt:aet)(wa:Option Addr)(wc:Nat)(h:List Int)(hn:h.length<=1000000)(s t:Int)(r:PrD):
  ∀kk e H2,(∃(i:Nat)(p:PrD)(z D:aet),kk=h.length-i/\i<=h.length/\e.g 0=pT I/\e.g 6=iV s/\e.g 12=iV t/\e.g 40= .slice wa h.length wc/\e.g 41=iV h.length/\e.g 42=iV i/\PgS Rt I Hb we wt H2 p/\PgW Rt I H2 z D p/\t7 H2 Hb.n 1 (u9 inE) (.slice wa h.length wc) h/\(∀b,j8 (.slice wa h.length wc) b->¬j8 z b/\¬j8 D b)/\H2.low<=I/\p.ed.length+(h.length-i)<=1000000/\(h.drop i).foldl (fun m x=>m.edge x t 0 0) p=r)->
  u7 (LE prog l7 (.loop XA) e H2) (fun o e H2=>o= .exit 2/\e.g 6=iV s/\e.g 12=iV t/\PgS Rt I Hb we wt H2 r/\H2.low<=I):=by
 refine i5 _ _ ?_;rintro kk e H2 ⟨i,p,z,D,b6,hi,f0,f6,J,O,S,W,hP,hW,X,u,hl,b4,fu⟩;rcases b:decide ((i:Int)<h.length)with _|_
 .have a6:=dF b;have:h.drop i=[]:=dN oM;rw[this,aaT]at fu;refine J5 f0 O S W b ?_;exact i6 ⟨rfl,f6,J,by rw[<-fu];exact hP,hl⟩
 have a6:=dT b;obtain⟨x,nb,o,cs,own,el,hx,hd,b1,b8,hg,b7,b5,hc,hR⟩:=X.sl.row (i:=i) oM;subst b1;have nt:(i:Int).toNat=i:=tN i;have a8:el=inE x:=hR;subst a8;have c0:=hc 0 oM;rw[aaf]at c0;rw[hd,aak]at fu;obtain⟨v5,h5,H5,a7,a9,rfl,a1,b0,_⟩:=lU Rt I H2 p x t oM H2 z D hW.start;have a2:=hP.trans' a1 hW.row;obtain⟨a3,a4,W5,U,b2,b3⟩:=a1.w;have d5:∀b,j8 (.slice (some ⟨nb,o,none⟩) h.length wc) b->¬j8 a3 b/\¬j8 a4 b:=fun b E=>⟨fun q=>by rcases b2 b q with r|r;exact(u b E).1 r;have:=X.lt E;omega,fun q=>by rcases b3 b q with r|r;exact(u b E).2 r;have:=X.lt E;omega⟩
 have a5:t7 H5 Hb.n 1 (u9 inE) (.slice (some ⟨nb,o,none⟩) h.length wc) h:=X.same fun b E=>by
  have h1:=X.lt E;rw[U b oM oM (u b E).1 (u b E).2]
 refine J13 f0 f6 J O S W b hg nt c0 a7 a9 @wrap_small ?_;exact d8 (kk-1) oM ⟨i+1,p.edge x t 0 0,a3,a4,oM,oM,f0,f6,J,O,S,rfl,a2,W5,a5,d5,b0,by rw[S6];omega,fu⟩
def UC(D:d7)(lo K k:Nat)(ih:zq D lo K k)(H:d7)(J:Nat)(b2:lo<=J)(a9:∀j,j<lo->H.g j=D.g j) (v:aet) (l:List Q) (hv:QsR D lo k false v l) (hn:l.length<=1048576) (hw:∀x∈l,OkD false x) (p:PrD) (a1:mr (1+nL l) p) (r:PrD×List Int) (hr:r=M7 l p.st {p with st:=p.st+1} []):
  PgC (QR D lo K true) J (CL prog l7 136 [pT J,v] H) H p (r.2.foldl (fun m x=>m.edge x r.1.st 0 0) {r.1 with st:=r.1.st+1}) (.tuple #[iV p.st,iV r.1.st]):=by
 refine lT fun we wt hp h=>?_;obtain⟨va,ca,rfl⟩:=hv.slice;obtain⟨t0,t1,t2,t3⟩:=a1;have c3:=vN l;obtain⟨⟨u0,u1,u2,u3⟩,u4⟩:=pO l p.st {p with st:=p.st+1} [];rw[<-hr]at u0 u1 u2 u3 u4;simp only[aaG]at u0 u1 u2 u3 u4;have a4:∀j,j<lo->(⟨H.bs,H.n⟩:d7).g j=D.g j:=a9;obtain⟨H1,a7,U,c0,_,n1⟩:=fI h t0 oM;obtain⟨b6,b7,W1,b8,c4,c5⟩:=U.w;rw[i8 Tv rfl _ sM];refine J1 a7 ?_;refine j5 (F:=fun z=>∃H',t6 _ _ _ (u6 (inBlock 0 z) _)=some (E7 _ H H')/\PgS (QR D lo K true) J _ we wt H' _/\H'.low<=J) (AP D lo K k ih ⟨H.bs,H.n⟩ J b2 hp a4 we wt va ca l hv hn hw p.st r oM l.length _ _ ⟨0,{p with st:=p.st+1},[],nS,b6,b7,rfl,oM,rfl,rfl,rfl,rfl,rfl,rfl,U,W1,t7.nil,fun b u=>(C2 b u).elim,⟨by show 0<=p.st+1;omega,by rw[aan];show p.st+1+_<=_;omega,by rw[aan];show p.ed.length+_<=_;omega,by rw[aan];show p.ts.length+_<=_;omega⟩,by rw[aan];exact hr.symm⟩) ?_;rintro o' e' H2 ⟨ho,g0,g6,w,c7,c8,g7,a5,W2,E,I⟩;obtain⟨H3,a8,W,b0,_,n3⟩:=fI W2.start oM oM;have X:=a5.trans' W W2.row;obtain⟨a2,a3,W3,S,b4,b5⟩:=W.w;have d3:∀b,j8 w b->¬j8 a2 b/\¬j8 a3 b:=fun b u=>⟨fun q=>by rcases b4 b q with r|r;exact(I b u).1 r;have:=E.lt u;omega,fun q=>by rcases b5 b q with r|r;exact(I b u).2 r;have:=E.lt u;omega⟩
 have n0:(⟨H.bs,H.n⟩:d7).n=H.n:=rfl;have O:t7 H3 (d7.n ⟨H.bs,H.n⟩) 1 (u9 inE) w r.2:=E.same fun b u=>by
  have h1:=E.lt u;rw[S b oM oM (I b u).1 (I b u).2]
 obtain⟨wa,wc,ew⟩:=O.slice;rw[ew]at g7 O d3;refine J5 ho g0 g6 g7 a8 ?_;refine j5 (F:=fun z=>∃H',t6 _ _ _ (u6 (inBlock 2 z) _)=some (E7 _ H H')/\PgS (QR D lo K true) J _ we wt H' _/\H'.low<=J) (AO (QR D lo K true) ⟨H.bs,H.n⟩ J hp we wt wa wc r.2 oM p.st r.1.st _ r.2.length _ _ ⟨0,{r.1 with st:=r.1.st+1},a2,a3,rfl,oM,g0,g6,rfl,rfl,rfl,rfl,X,W3,O,d3,b0,by show r.1.ed.length+_<=_;omega,rfl⟩) ?_;rintro c6 b9 H4 ⟨ho,k6,b3,a6,b1⟩;have ll:H4.low<H.n:=oM;refine J3 ho k6 b3 ?_;exact⟨H4,rfl,a6,b1⟩
def VU(X:d7)(lo K k:Nat)(hk:k<=K)(ih:zq X lo K k):zq X lo K (k+1):=by
 intro H O cs q p c4 f0 hr h8 f1;refine lT fun we wt hp h=>?_;obtain⟨t0,t1,t2,t3⟩:=f1;have k1:=im q;obtain⟨c6,_,o1,_,i1⟩:=h8.parts;obtain⟨l1,l2,o7,_⟩:=eW i1;simp only[bF]at o7;obtain⟨va,ca,wa,c9,a4,h1,h2,h3,j1⟩:=hr.path;have ac:cs.all oC=true:=by rw[a4];rfl
 have lc:cs.length=3:=by rw[a4];rfl
 have q0:cs[0]?=some (.int .i64 q.op):=by rw[a4];rfl
 have q1:cs[1]?=some (.slice va q.a.length ca):=by rw[a4];rfl
 have q2:cs[2]?=some (.slice wa q.b.length c9):=by rw[a4];rfl
 obtain⟨H1,U,n1,g1,-⟩:=pushF H (bC cs 1);have hS:d9 H.n ⟨H.bs,H.n⟩ H1:=by rw[U];exact d9.push lR
 have b0:∀j,j<lo->H1.g j=X.g j:=fun j hj=>by rw[hS.g j oM];exact f0 j hj
 have W:=h.work hS;have n0:(⟨H.bs,H.n⟩:d7).n=H.n:=rfl;obtain⟨a2,a8,W0,_⟩:=h.w;have W1:PgW (QR X lo K true) O H1 a2 a8 p:=⟨(hS.g O hp).trans W0.row,W0.e.keep hS,W0.t.keep hS,W0.d⟩
 rw[i8 Tb rfl _ sM];by_cases e2:q.op=2
 .rw[fw q p oM oM oM,bt oM,cA e2,bt oM];obtain⟨v5,h5,E,I,J,rfl,D,u,_⟩:=ph (QR X lo K true) O H1 p 1 0 oM t0 oM _ we wt W;have ll:E.low<H.n:=oM;refine J7 ac U.symm g1 q0 e2 I J ?_;exact⟨E,rfl,D,u⟩
 by_cases e3:q.op=3
 .rw[fw q p oM oM oM,bt oM,bt e2,cA e3,bt oM];obtain⟨v5,h5,E,I,J,rfl,D,u,_⟩:=ph (QR X lo K true) O H1 p 2 0 oM t0 oM _ we wt W;have ll:E.low<H.n:=oM;refine J7 ac U.symm g1 q0 e3 I J ?_;exact⟨E,rfl,D,u⟩
 have b2:decide (q.op=2)=false:=kA e2;have b3:decide (q.op=3)=false:=kA e3;by_cases e4:q.op=4
 .rw[wE q p e4];have e1:lst false q.op=2:=by rw[e4];decide
  rw[e1]at l1;obtain⟨v5,h5,E,I,J,rfl,D,u,_⟩:=UB X lo K k ih H1 O c4 b0 (.slice va q.a.length ca) q.a h1 h3 oM c6 p ⟨t0,oM,oM,oM⟩ _ we wt W;have ll:E.low<H.n:=oM;refine J8 ac U.symm g1 q0 q1 e4 I J ?_;exact⟨E,rfl,D,u⟩
 by_cases e5:q.op=5
 .rw[wC q p e5];obtain⟨v5,h5,E,I,J,rfl,D,u,_⟩:=UC X lo K k ih H1 O c4 b0 (.slice va q.a.length ca) q.a h1 h3 c6 p ⟨t0,oM,oM,oM⟩ _ rfl _ we wt W;have ll:E.low<H.n:=oM;refine J8 ac U.symm g1 q0 q1 e5 I J ?_;exact⟨E,rfl,D,u⟩
 by_cases e6:q.op=6
 .have e1:lst false q.op=1/\mst false q.op=1:=by rw[e6];decide
  rw[e1.1]at l1;rw[e1.2]at l2;obtain⟨x,nb,o,i2,own,el,hx,hd,rfl,h6,f6,h0,a9,hR⟩:=h1.row (i:=0) oM;simp only[qSz,bF,aa8,aaf]at a9 f6 h0;have c3:q.a=[x]:=by
   obtain⟨y,hy⟩:=aa2.1 (show q.a.length=1 from oM);rw[hy]at hx ⊢;simpa using hx
  have k0:nL q.a=nQ x:=by rw[c3,nL,nL];omega
  rw[sU q p e6 c3];obtain⟨H2,d6,d3,j2,_,n2⟩:=fI W t0 oM;have d1:∀j,j<O->H2.g j=(⟨H.bs,H.n⟩:d7).g j:=d3.stay.g;have d0:∀j,j<lo->H2.g j=X.g j:=fun j hj=>by rw[d1 j oM];exact f0 j hj
  have f9:=(d0 nb h6).trans f6;have g2:H2.g H.n=cE cs 1:=by
   obtain⟨f7,e8,d4,_⟩:=fI W1.start t0 oM;have:f7=H2:=by
    have:=e8.symm.trans d6
    simpa using this
   subst this;obtain⟨_,_,_,c8,_⟩:=d4.w;rw[c8 H.n oM oM (fun q=>by have:=W0.e.lt q;omega) (fun q=>by have:=W0.t.lt q;omega)];exact g1
  obtain⟨v3,j0,H3,e9,f2,rfl,d5,j3,_⟩:=ih H2 O el x {p with st:=p.st+1} c4 d0 hR (c6 x (by rw[c3];simp)) ⟨by show 0<=p.st+1;omega,by show p.st+1+_<=_;omega,by show p.ed.length+_<=_;omega,by show p.ts.length+_<=_;omega⟩ _ we wt d3;have f5:=I6 x {p with st:=p.st+1};obtain⟨z,hz⟩:∃z,z=D1 x {p with st:=p.st+1}:=eX;rw[<-hz]at e9 d5 f5 ⊢;obtain⟨u0,u1,u2,u3⟩:=f5;simp only at u0 u1 u2 u3;obtain⟨v4,h4,H4,g5,f3,rfl,g0,j4,_⟩:=lU (QR X lo K true) O H3 z.1 p.st z.2.1 oM _ we wt d5;obtain⟨v5,h5,E,g6,a6,rfl,D,u,_⟩:=lU (QR X lo K true) O H4 (z.1.edge p.st z.2.1 0 0) z.2.2 p.st (by rw[S6];omega) _ we wt g0;have ll:E.low<H.n:=oM;have g8:(0:Int)<q.a.length:=oM;refine J17 ac U.symm g1 q0 q1 e6 d6 g2 f9 a9 g8 e9 f2 g5 f3 g6 a6 ?_;exact⟨E,rfl,D,u⟩
 have b4:decide (q.op=4)=false:=kA e4;have b5:decide (q.op=5)=false:=kA e5;have b6:decide (q.op=6)=false:=kA e6;by_cases e7:q.op=7
 .rw[fw q p e4 e5 e6,cA e7,bt e2,bt e3,cA e7,cA e7];have h9:=o7.1 e7;obtain⟨a3,h5,E,b9,a6,b8,S⟩:=W1.t.appendF (P:=prog) (t:=23) (n:=lo) (l2:=q.b) (x:= .slice wa q.b.length c9) (by exact OJ.2.2.2.2.2.2) ch.1 ch.2.1 ch.2.2.1 oM oM (SlI.mono h2 (fun j hj=>b0 j hj) lR (fun _ _ h=>h.upTo hk)) oM oM;have n5:=S.n;have i0:¬j8 a8 O:=fun q=>oN (W1.t.lt q);have d2:E.g O=cE [iV p.st,iV p.sa,iV p.en,a2,a8] 1:=(S.but O oM i0).trans W1.row;obtain⟨a5,c5,a7⟩:=b8.slice;have cw:a3.cells.toList=[a3]:=by rw[a7];rfl
  have ow:Value.oneCell' a3=true:=by rw[a7];rfl
  obtain⟨a0,c0,f8⟩:=W1.t.slice;obtain⟨H6,a1⟩:=eY (E.put O (bC [iV p.st,iV p.sa,iV p.en,a2,a3] 1));have n6:H6.n=E.n:=by rw[a1,j9]
  have b1:H6.g O=cE [iV p.st,iV p.sa,iV p.en,a2,a3] 1:=by rw[a1];exact i7 oM
  have k6:∀j,j≠O->H6.g j=E.g j:=fun j hj=>by rw[a1,j6 (fun q=>hj q.symm)]
  have P6:PgS (QR X lo K true) O H1 a2 a8 H6 {p with ts:=p.ts++q.b}:=by
   refine⟨⟨a2,a3,b1,W1.e.same fun b hb=>?_,b8.same fun b hb=>k6 b (oN (b8.lt hb)),fun b hb q=>?_,fun j hj q1 q2 q3=>by rw[k6 j q1,S.but j hj q3],fun _ h=> .inl h,S.new⟩,?_⟩
   .have:=W1.e.lt hb;rw[k6 b oM,S.but b this.2 (W1.d b hb)]
   .have:=W1.e.lt hb;rcases S.new b q with r|r
    .exact W1.d b hb r
    .omega
   .rw[a1];exact(S.stay.wk oM).trans (d9.put lR)
  have g3:=W.trans' P6 W1.row;have u:(p.ts++q.b).length=p.ts.length+1:=by rw[ib,h9]
  have ei:(((p.ts++q.b).length:Nat):Int)-1=(p.ts.length:Int):=by rw[u];omega
  obtain⟨v7,h7,H7,g7,f4,rfl,g4,g9,_⟩:=ph (QR X lo K true) O H6 {p with ts:=p.ts++q.b} 3 p.ts.length (by show p.ed.length+1<=_;omega) t0 (by show p.st<=_;omega) _ we wt g3;have ll:H7.low<H.n:=oM;have i3:H6.g H.n=cE cs 1:=by rw[k6 _ oM,S.but _ oM (fun q=>by have:=W0.t.lt q;omega)];exact g1
  rw[a7]at cw ow b1 a1;have c7:=W1.row;rw[f8]at c7 d2 b9;rw[a7]at b9;refine J16 ac U.symm g1 q0 q2 e7 c7 b9 a6 d2 a1.symm b1 ei g7 f4 @wrap_small ?_;exact⟨H7,rfl,g4,g9⟩
 .have b7:decide (q.op=7)=false:=kA e7;rw[fw q p e4 e5 e6,bt e7,bt e2,bt e3,bt e7,bt e7];obtain⟨v5,h5,E,I,J,rfl,D,u,_⟩:=ph (QR X lo K true) O H1 p 0 0 oM t0 oM _ we wt W;have ll:E.low<H.n:=oM;refine J12 ac U.symm g1 q0 b2 b3 b4 b5 b6 b7 I J ?_;exact⟨E,rfl,D,u⟩
def Qm(h:d7)(lo K:Nat):∀k,k<=K+1->zq h lo K k:=by
 intro k;induction k with
 |zero=>intro _ H E cs q p _ _ u;exact u.elim
 |succ k z=>intro D;exact VU h lo K k oM (z oM)
def Cs(K:Nat)(H:d7)(lo:Nat)(cs:LV)(q:Q)(c0:lo<=H.n)(hr:QR H lo K false cs q)(b1:OkD false q)(b6:nQ q<=100000):
  Ret (CL prog l7 65 [.agg cs.toArray] H) H (FZ H (QR H lo K true) (C6 q)):=by
 have a0:=I5 hr;have l0:=hr.len;have S:=Q6 hr;rw[l0]at S;simp only[qSz,bF]at S l0;obtain⟨J,D⟩:=eY (((d7.push ⟨H.bs,H.n⟩ (bC cs 1)).push (bC z5 1)).push (bC z5 1));have n0:(d7.push ⟨H.bs,H.n⟩ (bC cs 1)).n=H.n+1:=by rw[i4];rfl
 have b4:((d7.push ⟨H.bs,H.n⟩ (bC cs 1)).push (bC z5 1)).n=H.n+2:=by rw[i4,n0]
 have n1:J.n=H.n+3:=by rw[D,i4,b4]
 have hS:d9 H.n H J:=by rw[D];exact((d9.first H _).trans (d9.push oM)).trans (d9.push oM)
 have g1:J.g H.n=cE cs 1:=by rw[D,i9 oM,i9 oM];exact j7
 have g2:J.g (H.n+1)=cE z5 1:=by rw[D,i9 oM];exact y9 oM
 have g3:J.g (H.n+2)=cE z5 1:=by rw[D];exact y9 oM
 have a3:H.n<=J.low:=by rw[D,l9,l9,l9];exact lR
 have U:PgS (QR H lo K true) (H.n+2) J (nS) (nS) J ⟨0,0,0,[],[]⟩:=PgS.start g3 t7.nil t7.nil (fun b O=>(C2 b O).elim);obtain⟨v3,b9,H2,a1,a2,rfl,hP,hl,_⟩:=Qm H lo K K oM J (H.n+2) cs q ⟨0,0,0,[],[]⟩ oM (fun j hj=>hS.g j oM) hr b1 ⟨by decide,by show(0:Int)+_<=_;omega,by simp;omega,by simp;omega⟩ _ _ _ U;obtain⟨y,hy⟩:=eY (D1 q ⟨0,0,0,[],[]⟩);rw[C6,<-hy];rw[<-hy]at a1 hP;obtain⟨we,wt,W,a4,ne,nt⟩:=hP.w;have n2:=hP.stay.n;obtain⟨ea,ec,e1⟩:=W.e.slice;obtain⟨ta,tc,e2⟩:=W.t.slice;have row0:=W.row;have a7:H2.g (H.n+1)=cE z5 1:=(a4 _ oM oM (C2 _) (C2 _)).trans g2;obtain⟨b7,b2⟩:=eY ([iV y.1.st,iV y.2.1,iV y.1.en,we,wt]:LV);obtain⟨u,z⟩:=eY ([iV y.1.st,iV y.2.1,iV y.2.2,we,wt]:LV);obtain⟨H3,E⟩:=eY ((H2.put (H.n+2) (bC [iV y.1.st,iV y.2.1,iV y.1.en,we,wt] 1)).put (H.n+2) (bC u 1));have n3:H3.n=H2.n:=by rw[E,j9,j9]
 have a9:H3.g (H.n+2)=cE u 1:=by rw[E];exact i7 (by rw[j9];omega)
 have a8:H3.g (H.n+1)=cE z5 1:=by rw[E,j6 oM,j6 oM];exact a7
 have a6:u.all oC=true:=by rw[z,e1,e2];rfl
 have l6:u.length=5:=by rw[z];rfl
 have b3:ldC (some true) (some 5) 0 u=some (.agg u.toArray):=by rw[z];rfl
 have b5:splice z5 0 u=u:=y7 _ _ (by rw[l6];rfl);obtain⟨X,I⟩:=eY (H3.put (H.n+1) (bC u 1));have n4:X.n=H3.n:=by rw[I,j9]
 have g4:X.g (H.n+1)=cE u 1:=by rw[I];exact i7 oM
 have s4:d9 H.n J X:=(hP.stay.wk oM).trans (by rw[I,E];exact((d9.put oM).trans (d9.put oM)).trans (d9.put oM));have b0:=s4.low a3;have k4:∀j,H.n+2<j->X.g j=H2.g j:=fun j hj=>by rw[I,j6 oM,E,j6 oM,j6 oM]
 have a5:PrF X (fun j=>H.n<=j/\j<X.n) (QR H lo K true) u {y.1 with sa:=y.2.1,en:=y.2.2}:=⟨we,wt,z,(W.e.same fun b O=>k4 b (oN (W.e.lt O))).frz fun b O=>by have:=W.e.lt O;omega,(W.t.same fun b O=>k4 b (oN (W.t.lt O))).frz fun b O=>by have:=W.t.lt O;omega⟩
 have b8:(some (Blk.cells [iV y.1.st,iV y.1.sa,iV y.1.en,we,wt] true 1))=cE [iV y.1.st,iV y.1.sa,iV y.1.en,we,wt] 1:=rfl;rw[i8 Pr rfl _ sM];rw[z]at E;refine J17 a0 l0 D.symm g1 S a1 a2 @row0 E.symm a9 b3 a8 a6 l6 b5 I.symm g4 ?_;exact OY a5 (hS.trans s4) b0 (fun h=>h)
def eP:List Q->Int->List Int
 |[],_=>[]
 |x::l,n=>n::eP l (n+(C6 x).st)
def jj(L:List Q)(m:PrD):StD:=⟨L,L.map C6,eP L 0,m⟩
def tR(l:List PrD):∀n:Int,l.foldl (fun n p=>n+p.st) n=n+A3 l:=by
 induction l with
 |nil=>intro n;simp [A3]
 |cons p l h=>
  intro n;rw[aak,h];show _=n+(p::l).foldl (fun n p=>n+p.st) 0;rw[aak,h (0+p.st)];omega
def vD(l l2:List PrD):A3 (l++l2)=A3 l+A3 l2:=by
 show(l++l2).foldl (fun n p=>n+p.st) 0=_;rw[aaV,tR];rfl
def xZ(p:PrD)(l:List PrD):A3 (p::l)=p.st+A3 l:=by
 show(p::l).foldl (fun n p=>n+p.st) 0=_;rw[aak,tR];omega
def pI(l:List Q)(x:Q):∀n,eP (l++[x]) n=eP l n++[n+A3 (l.map C6)]:=by
 induction l with
 |nil=>intro n;simp [eP,A3]
 |cons y l h=>
  intro n;rw[aax,eP,h,eP,aaQ,xZ,aax]
  congr 3;omega
def BF(x y:Q):P1 x y=P1 y x:=by
 rw[abW,mV,mV];exact eq_comm
def zb(L:List Q)(m:PrD)(x:Q):I2 (jj L m) x=jj (dr L x) m:=by
 have:(jj L m).paths.any (fun y=>P1 y x)=L.any (fun y=>P1 x y):=by
  show L.any _=_
  congr 1;funext y;exact BF y x
 rw[I2,this,dr];split
 .rfl
 .simp only[jj,abg,pI,abT];rfl
def FL(q:Q):C3 q=jj ((inQ false q).foldl dr []) (C6 q):=by
 have:∀(l L:List Q)(m:PrD),l.foldl I2 (jj L m)=jj (l.foldl dr L) m:=by
  intro l;induction l with
  |nil=>intro L m;rfl
  |cons x l h=>intro L m;rw[aak,zb,h,aak]
 exact this (inQ false q) [] (C6 q)
def Gk(l:List Q)(P:Q->Prop)(z:∀x∈l,P x):∀L:List Q,(∀x∈L,P x)->∀x∈l.foldl dr L,P x:=by
 induction l with
 |nil=>intro L h;exact h
 |cons y l D=>
  intro L h;rw[aak];refine D (fun x u=>z x (by simp [u])) _ fun x u=>?_;unfold dr at u;split at u
  .exact h x u
  .rcases ns.1 u with u|u
   .exact h x u
   .have:x=y:=by simpa using u
    rw[this];exact z y sM
def EP(K:Nat)(Hs:d7)(lo n0 z:Nat)(m5:lo<=n0)(m8:n0<=z)(X:aet)(l:List Q)(hl:l.length<=100000)(j3:∀x∈l,OkD false x/\nQ x<=1000) (ms:LV) (m:PrD) (H1:d7) (j0:∀j,j<lo->H1.g j=Hs.g j) (t2:aet):
  ∀kk e H2,(∃(i:Nat)(w2 w3:aet)(G:Nat->Prop),kk=l.length-i/\i<=l.length/\e.g 2=t2/\e.g 4=pT z/\e.g 5=iV (A3 ((l.take i).map C6))/\e.g 17=X/\e.g 18=iV l.length/\e.g 19=iV i/\0<=A3 ((l.take i).map C6)/\A3 ((l.take i).map C6)<=2000*i/\
    H2.g z=cE (X::w2::w3::ms) 1/\PrF H2 G (QR Hs lo K true) ms m/\SlF H2 G 3 (QR Hs lo K false) X l/\t7 H2 (z+1) 5 (PrF H2 G (QR Hs lo K true)) w2 ((l.take i).map C6)/\t7 H2 (z+1) 1 (u9 inE) w3 (eP (l.take i) 0)/\
    (∀j,G j->n0<=j/\j<H2.n/\j≠z/\¬j8 w2 j/\¬j8 w3 j)/\(∀j,j8 w2 j->¬j8 w3 j)/\d9 n0 H1 H2)->
  u7 (LE prog l7 (.loop Yw) e H2) (fun o e H2=>o= .exit 0/\e.g 2=t2/\e.g 4=pT z/\∃(w2 w3:aet)(G:Nat->Prop),H2.g z=cE (X::w2::w3::ms) 1/\PrF H2 G (QR Hs lo K true) ms m/\SlF H2 G 3 (QR Hs lo K false) X l/\t7 H2 (z+1) 5 (PrF H2 G (QR Hs lo K true)) w2 (l.map C6)/\t7 H2 (z+1) 1 (u9 inE) w3 (eP l 0)/\(∀j,G j->n0<=j/\j<H2.n/\j≠z)/\d9 n0 H1 H2):=by
 refine i5 _ _ ?_;rintro kk e H2 ⟨i,w2,w3,G,m3,hi,f2,f4,f5,c4,c5,e4,m1,m2,g4,d4,b5,a3,E,hG,d2,hS⟩;have m6:=hS.n;have g1:=u5 g4;rcases b:decide ((i:Int)<l.length)with _|_
 .have i2:=dF b;have:l.take i=l:=A2 oM;rw[this]at a3 E;refine J6 f2 f4 c4 c5 e4 b ?_;exact i6 ⟨rfl,f2,f4,w2,w3,G,g4,d4,b5,a3,E,fun j u=>⟨(hG j u).1,(hG j u).2.1,(hG j u).2.2.1⟩,hS⟩
 have i2:=dT b;have f9:=b5.slice;obtain⟨la,lc,c3⟩:=f9;have b9:=b5;rw[c3]at b9;obtain⟨x,nb,o,l1,own,el,hx,hd,j2,m0,j1,m4,g6,hc,hR⟩:=b9.row (i:=i) oM;subst j2;have nt:(i:Int).toNat=i:=tN i;obtain⟨g0,m7⟩:=j3 x (mG hx);have k8:=fy x;have d5:l.take (i+1)=l.take i++[x]:=by rw[abJ,hx];rfl
 have a1:=I5 hR;have e1:=hR.len;simp only[qSz,bF]at e1;have g7:=Q6 hR;rw[e1]at g7;have h7:∀j,j<lo->H2.g j=Hs.g j:=fun j u=>by rw[hS.g j oM,j0 j u]
 obtain⟨H3,i0,n3,g3,s3⟩:=pushP H2 (bC [iV 0,nS,nS] 1) (bC el 1);have k4:splice [iV 0,nS,nS] 0 el=el:=y7 _ _ (by rw[e1];rfl);have d6:∀j,j<lo->H3.g j=Hs.g j:=fun j u=>by rw[s3.g j oM,h7 j u]
 obtain⟨v3,l3,H4,i3,f8,D,rfl,a4,s4⟩:=Cs K H3 lo el x oM (hR.mono d6 lR) g0 oM;have n4:=s4.n;have a5:=jA a4;have l5:=dP a4;have g2:PrF H4 (fun j=>H3.n<=j/\j<H4.n) (QR Hs lo K true) D (C6 x):=a4.mono (fun _ _=>rfl) (fun _ h=>h) (fun _ _ h=>h.mono (fun j u=>(d6 j u).symm) lR);obtain⟨H5,i1,n5,g5,s5⟩:=pushP H4 (bC z5 1) (bC D 1);have k7:splice z5 0 D=D:=y7 _ _ (by rw[l5];rfl);have b2:d9 H2.n H2 H5:=(s3.trans (s4.wk oM)).trans (s5.wk oM);have b3:H5.g z=cE (X::w2::w3::ms) 1:=(b2.g z g1).trans g4;have g8:=dP d4;obtain⟨G2,c8⟩:=eY (fun j=>G j\/(H3.n<=j/\j<H4.n):Nat->Prop);have U:∀j,G j->G2 j:=fun j u=>by rw[c8];exact .inl u
 have b6:∀j,G2 j->n0<=j/\j<H4.n/\j≠z/\¬j8 w2 j/\¬j8 w3 j:=fun j u=>by
  rw[c8]at u;rcases u with u|u
  .have:=hG j u;exact⟨this.1,oM,this.2.2⟩
  .exact⟨oM,u.2,oM,fun q=>by have:=a3.lt q;omega,fun q=>by have:=E.lt q;omega⟩
 have b1:∀j,G j->H5.g j=H2.g j:=fun j u=>b2.g j (hG j u).2.1;have g9:∀j,(H3.n<=j/\j<H4.n)->H5.g j=H4.g j:=fun j u=>s5.g j u.2;have d3:PrF H5 G2 (QR Hs lo K true) D (C6 x):=g2.mono g9 (fun j u=>by rw[c8];exact .inr u) iF;have f1:t7 H5 (z+1) 5 (PrF H5 G2 (QR Hs lo K true)) w2 ((l.take i).map C6):=(a3.keep b2).imp fun cs p h=>h.mono b1 U iF;obtain⟨u2,l4,H7,f6,b7,a2,J⟩:=f1.push1F (P:=prog) (t:=29) (cs:=D) (a:=C6 x) (by exact de.2.2.2.2.2.2) oP.1 oP.2.1 oP.2.2.1 oM oM l5 d3 (by simp;omega) oM;have n7:=J.n;obtain⟨H6,d0,n6,-⟩:=pushE H5 (bC D 5);rw[<-d0]at f6 b7;have e8:H6.g z=cE (X::w2::w3::ms) 1:=by rw[d0,i9 oM];exact b3
 have b4:H7.g z=cE (X::w2::w3::ms) 1:=(J.but z oM (fun q=>by have:=a3.lt q;omega)).trans b3;have f3:t7 H7 (z+1) 1 (u9 inE) w3 (eP (l.take i) 0):=(E.keep b2).same fun b hb=>J.but b (oN (E.lt hb)) (fun q=>d2 b q hb);obtain⟨u3,l6,H9,f7,b8,a8,W⟩:=f3.push1F (P:=prog) (t:=30) (cs:=inE (A3 ((l.take i).map C6))) (a:=A3 ((l.take i).map C6)) (by exact OK.2.2.2.2.2.2) ty3.1 ty3.2.1 ty3.2.2.1 oM oM rfl rfl (by
  have:∀(l:List Q) n,(eP l n).length=l.length:=by
   intro l;induction l with
   |nil=>intro n;rfl
   |cons y l ih=>intro n;rw[eP,A1,ih,A1]
  rw[this];simp;omega) oM
 have n9:=W.n;obtain⟨H8,d1,n8,-⟩:=pushE H7 (.cells (inE (A3 ((l.take i).map C6))) true 1);rw[<-d1]at f7 b8;have e9:H8.g z=cE (X::w2::w3::ms) 1:=by rw[d1,i9 oM];exact b4
 have f0:H9.g z=cE (X::w2::w3::ms) 1:=(W.but z oM (fun q=>by have:=E.lt q;omega)).trans b4;obtain⟨ub,o0,e2⟩:=a2.slice;have k0:Value.oneCell' u2=true:=by rw[e2];rfl
 have h5:u2.cells.toList=[u2]:=by rw[e2];rfl
 obtain⟨n2,k9,e3⟩:=a8.slice;have k1:Value.oneCell' u3=true:=by rw[e3];rfl
 have h6:u3.cells.toList=[u3]:=by rw[e3];rfl
 obtain⟨R8,a9⟩:=eY (X::w2::w3::ms);rw[<-a9]at b3 e8 b4 e9 f0;have l8:R8.length=8:=by rw[a9];simp [g8]
 have k2:R8[1]?=some w2:=by rw[a9];rfl
 have k3:R8[2]?=some w3:=by rw[a9];rfl
 obtain⟨a7,b0⟩:=eY (X::u2::w3::ms);have k5:splice R8 1 [u2]=a7:=by rw[a9,b0];rfl
 have lb:a7.length=8:=by rw[b0];simp [g8]
 have k6:splice a7 2 [u3]=X::u2::u3::ms:=by rw[b0];rfl
 obtain⟨a6,O⟩:=eY (H9.put z (bC a7 1));have m9:a6.n=H9.n:=by rw[O,j9]
 have e6:a6.g z=cE a7 1:=by rw[O];exact i7 oM
 obtain⟨I,S⟩:=eY (a6.put z (bC (X::u2::u3::ms) 1));have n1:I.n=a6.n:=by rw[S,j9]
 have h8:I.g z=cE (X::u2::u3::ms) 1:=by rw[S];exact i7 oM
 have c6:∀j,j≠z->I.g j=H9.g j:=fun j u=>by rw[S,j6 (fun q=>u q.symm),O,j6 (fun q=>u q.symm)]
 have e5:∀j,j<H5.n->j≠z->¬j8 w2 j->¬j8 w3 j->I.g j=H5.g j:=fun j u h1 h2 h3=>by rw[c6 j h1,W.but j oM h3,J.but j u h2]
 have e7:I.g H4.n=cE D 1:=(e5 _ oM oM (fun q=>by have:=a3.lt q;omega) (fun q=>by have:=E.lt q;omega)).trans g5;have j4:ldC (some true) (some 5) 0 D=some (.agg D.toArray):=by obtain⟨_,_,_,_,rfl,_⟩:=E3 a4;rfl
 have h4:D[0]?=some (.int .i64 (C6 x).st):=by obtain⟨_,_,_,_,rfl,_⟩:=E3 a4;rfl
 have h0:bsA prog (some 33) H5 1 [(0,.agg D.toArray)]=some (sL H5.n 1 1,H6):=by
  rw[d0];obtain⟨_,_,_,_,rfl,_⟩:=E3 a4;simp only[E5,oP,E6];rfl
 have h9:=j1;have c9:I=a6.put z (.cells (.slice (some ⟨nb,o,none⟩) l.length lc::u2::u3::ms) true 1):=by rw[S,c3]
 refine J30 f2 f4 f5 c4 c5 e4 c3 b (aI h9 nt) (aI g6 a1) (aI e1 k4) (aI i0.symm g3) (aI g7 i3) (aI f8 a5) (aI l5 k7) (aI i1.symm g5) (aI b3 e8) (aI b4 e9) (aI f0 k2) (aI k3 j4) (aI h0 f6) (aI b7 d1.symm) (aI f7 b8) (aI l8 k0) (aI h5 k5) (aI O.symm e6) (aI lb k1) (aI h6 k6) (aI c9.symm e7) (aI h4 @wrap_small) ?_;have c7:∀j,G2 j->I.g j=H5.g j:=fun j u=>by
  obtain⟨q1,q2,q3,q4,q5⟩:=b6 j u;exact e5 j oM q3 q4 q5
 have c0:A3 ((l.take (i+1)).map C6)=A3 ((l.take i).map C6)+(C6 x).st:=by rw[d5,abg,vD,List.map_singleton];simp [A3]
 have eb:eP (l.take (i+1)) 0=eP (l.take i) 0++[A3 ((l.take i).map C6)]:=by rw[d5,pI,abT]
 have em:(l.take (i+1)).map C6=(l.take i).map C6++[C6 x]:=by rw[d5,abg];rfl
 refine d8 (kk-1) oM ⟨i+1,u2,u3,G2,oM,oM,f2,f4,by rw[c0];rfl,c4,c5,rfl,by rw[c0];omega,by rw[c0];omega,h8,?_,?_,?_,?_,?_,?_,?_⟩
 .exact d4.mono (fun j u=>by rw[c7 j (U j u),b1 j u]) U iF
 .exact b5.mono (fun j u=>by rw[c7 j (U j u),b1 j u]) U iF
 .rw[em];refine(a2.same (H':=I) fun b hb=>?_).imp fun cs p h=>h.mono c7 (fun _ h=>h) iF;have h1:=a2.lt hb;have h2:¬j8 w3 b:=by
   rcases J.new b hb with q|q
   .exact d2 b q
   .exact fun q=>oN (E.lt q)
  rw[c6 b oM,W.but b oM h2]
 .rw[eb];exact a8.same fun b hb=>c6 b (oN (a8.lt hb))
 .intro j u;obtain⟨q1,q2,q3,q4,q5⟩:=b6 j u;refine⟨q1,oM,q3,fun q=>?_,fun q=>?_⟩
  .rcases J.new j q with q|q
   .exact q4 q
   .omega
  .rcases W.new j q with q|q
   .exact q5 q
   .omega
 .intro j u q;have h1:=a2.lt u;rcases W.new j q with q|q
  .have:=E.lt q;rcases J.new j u with r|r
   .exact d2 j r q
   .omega
  .omega
 .exact(((hS.trans (b2.wk oM)).trans (J.stay.wk oM)).trans (W.stay.wk oM)).trans (by rw[S,O];exact(d9.put oM).trans (d9.put oM))
def BQ(K:Nat)(H:d7)(lo:Nat)(cs:LV)(q:Q)(h1:lo<=H.n)(hr:QR H lo K false cs q)(b3:OkD false q)(g8:nQ q<=1000):
  Ret (CL prog l7 32 [.agg cs.toArray] H) H (zr H (QR H lo K false) (QR H lo K true) (C3 q)):=by
 have a0:=I5 hr;have l0:=hr.len;have b4:=Q6 hr;rw[l0]at b4;simp only[qSz,bF]at b4 l0;obtain⟨X,O⟩:=eY (((d7.push ⟨H.bs,H.n⟩ (bC cs 1)).push (bC z8 1)).push (bC [nS] 1));have n0:(d7.push ⟨H.bs,H.n⟩ (bC cs 1)).n=H.n+1:=by rw[i4];rfl
 have f9:((d7.push ⟨H.bs,H.n⟩ (bC cs 1)).push (bC z8 1)).n=H.n+2:=by rw[i4,n0]
 have n1:X.n=H.n+3:=by rw[O,i4,f9]
 have hS:d9 H.n H X:=by rw[O];exact((d9.first H _).trans (d9.push oM)).trans (d9.push oM)
 have g1:X.g H.n=cE cs 1:=by rw[O,i9 oM,i9 oM];exact j7
 have g2:X.g (H.n+1)=cE z8 1:=by rw[O,i9 oM];exact y9 oM
 have g3:X.g (H.n+2)=cE [nS] 1:=by rw[O];exact y9 oM
 have c4:H.n<=X.low:=by rw[O,l9,l9,l9];exact lR
 have f7:QR X lo K false cs q:=hr.mono (fun j D=>hS.g j oM) lR;obtain⟨v2,h2,H2,f1,b9,rfl,⟨⟨w,gm,hO,_,b6,h4⟩,s2⟩,_⟩:=(LO K).1 X lo (H.n+2) K (nS) [] cs q lR oM g3 t7.nil f7 b3 (by simp;omega);have n2:=s2.n;have d6:H2.g H.n=cE cs 1:=(b6 _ oM oM (C2 _)).trans g1;have e1:H2.g (H.n+1)=cE z8 1:=(b6 _ oM oM (C2 _)).trans g2;obtain⟨h0,c6⟩:=du _ false q lR b3;obtain⟨L,hL⟩:=eY ((inQ false q).foldl dr []);have g9:L.length<=1000:=by have:=pN (inQ false q) [];rw[<-hL]at this;simp at this;omega
 have f0:∀x∈L,OkD false x/\nQ x<=1000:=by
  rw[hL];exact Gk _ _ (fun x hx=>by have:=c6 x hx;exact⟨this.1,oM⟩) [] sM
 rw[<-hL]at hO;rw[FL,<-hL];obtain⟨wa,wc,ew⟩:=hO.slice;have a9:∀j,j<lo->H2.g j=H.g j:=fun j D=>by rw[s2.g j oM,hS.g j oM]
 obtain⟨v3,h3,H3,f3,c0,I,rfl,a4,s3⟩:=Cs K H2 lo cs q oM (hr.mono a9 lR) b3 oM;have n3:=s3.n;have a5:=jA a4;have l5:=dP a4;have d0:PrF H3 (fun j=>H2.n<=j/\j<H3.n) (QR H lo K true) I (C6 q):=a4.mono (fun _ _=>rfl) (fun _ h=>h) (fun _ _ h=>h.mono (fun j D=>(a9 j D).symm) lR);obtain⟨ea,ec,ta,tc,c7,he,ht⟩:=E3 a4;have b0:H3.g (H.n+2)=cE [w] 1:=(s3.g _ oM).trans gm;obtain⟨H4,b1,n4,e4,-⟩:=pushE H3 (bC z8 1);have e8:H4.g (H.n+2)=cE [w] 1:=by rw[b1,i9 oM];exact b0
 obtain⟨J,S⟩:=eY (w::nS::nS::I:LV);have a8:J.length=8:=by rw[S];simp [l5]
 have ow:Value.oneCell' w=true:=by rw[ew];rfl
 have cw:w.cells.toList=[w]:=by rw[ew];rfl
 have b5:J.all oC=true:=by rw[S];simp only[aaE,a5,ow];rfl
 have g6:splice (splice z8 0 [w]) 3 I=J:=by rw[S,c7];rfl
 have d2:splice [w,nS,nS,iV 0,iV 0,iV 0,nS,nS] 3 I=J:=g6;have g7:splice z8 0 J=J:=y7 _ _ (by rw[a8];rfl);obtain⟨U,a1⟩:=eY (H4.put H3.n (bC J 1));have n5:U.n=H4.n:=by rw[a1,j9]
 have s5:d9 H3.n H3 U:=by rw[a1,b1];exact(d9.push lR).trans (d9.put lR)
 have g5:U.g H3.n=cE J 1:=by rw[a1];exact i7 oM
 have e9:U.g (H.n+2)=cE [w] 1:=(s5.g _ oM).trans b0;have a7:d9 H2.n H2 U:=s3.trans (s5.wk oM);have e5:U.g (H.n+1)=cE z8 1:=(a7.g _ oM).trans e1;have d3:∀j,j<lo->U.g j=H.g j:=fun j D=>by rw[a7.g j oM,a9 j D]
 obtain⟨G,hG⟩:=eY (fun j=>j8 w j\/(H2.n<=j/\j<H3.n):Nat->Prop);have f6:SlF U G 3 (QR H lo K false) w L:=((hO.keep a7).frz fun b hb=>by rw[hG];exact .inl hb).mono (fun _ _=>rfl) (fun _ h=>h) (fun _ _ h=>h.mono (fun j D=>(hS.g j oM).symm) lR);have c8:PrF U G (QR H lo K true) I (C6 q):=d0.mono (fun j D=>s5.g j D.2) (fun j D=>by rw[hG];exact .inr D) iF;have g0:d9 H.n X U:=(s2.wk oM).trans (a7.wk oM);have d4:w= .slice wa L.length wc:=ew;have c3:∀Hx:d7,D9 prog .len [22] [w] Hx=some (.int .i64 L.length,none):=fun Hx=>by
  rw[d4];exact J1 oO trivial
 rw[i8 Vn rfl _ sM];refine J26 a0 l0 O.symm g1 b4 f1 b9 gm d6 f3 c0 b0 b1.symm e8 ow cw l5 a5 d2 a8 b5 g7 e4 a1.symm e9 c3 ?_;refine j5 (F:=fun z=>Ret (t6 _ _ _ (u6 (inBlock 0 z) _)) _ _) (EP K H lo (H.n+3) H3.n oM oM w L oM f0 I (C6 q) U d3 (pT (H.n+1)) L.length _ _ ⟨0,nS,nS,G,rfl,oM,rfl,rfl,rfl,rfl,rfl,rfl,by simp [A3],by simp [A3],by rw[<-S];exact g5,c8,f6,t7.nil,t7.nil,fun j D=>?_,fun j D=>(C2 j D).elim,d9.refl _ _⟩) ?_
 .rw[hG]at D;rcases D with D|D
  .have:=hO.lt D;exact⟨oM,oM,oM,C2 j,C2 j⟩
  .exact⟨oM,oM,oM,C2 j,C2 j⟩
 rintro o e' H6 ⟨ho,f2,f4,w2,w3,G',b7,c9,c5,a2,a3,b8,b2⟩;have n6:=b2.n;have e6:H6.g (H.n+1)=cE z8 1:=(b2.g _ oM).trans e5;obtain⟨rb,rd,e2⟩:=a2.slice;obtain⟨re,rf,e3⟩:=a3.slice;obtain⟨u,E⟩:=eY (w::w2::w3::I:LV);rw[<-E]at b7;have f8:ldC (some true) (some 8) 0 u=some (.agg u.toArray):=by rw[E,e2,e3,c7];rfl
 have a6:u.all oC=true:=by rw[E,e2,e3];simp only[aaE,a5,ow];rfl
 have l6:u.length=8:=by rw[E];simp [l5]
 have g4:splice z8 0 u=u:=y7 _ _ (by rw[l6];rfl);obtain⟨H7,W⟩:=eY (H6.put (H.n+1) (bC u 1));have n7:H7.n=H6.n:=by rw[W,j9]
 have e7:H7.g (H.n+1)=cE u 1:=by rw[W];exact i7 oM
 have d1:d9 H.n X H7:=by rw[W];exact(g0.trans (b2.wk oM)).trans (d9.put oM)
 have s7:d9 H.n H H7:=hS.trans d1;have f5:H.n<=H7.low:=d1.low c4;have k7:∀j,H.n+2<=j->H7.g j=H6.g j:=fun j D=>by rw[W,j6 oM]
 have d5:StF H7 (fun j=>H.n<=j/\j<H7.n) (QR H lo K false) (QR H lo K true) u (jj L (C6 q)):=by
  have gg:∀j,G' j->H7.g j=H6.g j:=fun j D=>k7 j (oN (b8 j D));have gs:∀j,G' j->H.n<=j/\j<H7.n:=fun j D=>oN (b8 j D);refine⟨w,w2,w3,I,E,?_,?_,?_,?_⟩
  .exact c5.mono gg gs iF
  .exact((a2.same fun b hb=>k7 b (oN (a2.lt hb))).imp fun cs p h=>h.mono gg gs iF).frz fun b hb=>oN (a2.lt hb)
  .exact(a3.same fun b hb=>k7 b (oN (a3.lt hb))).frz fun b hb=>oN (a3.lt hb)
  .exact c9.mono gg gs iF
 refine J11 ho f2 f4 b7 f8 e6 a6 l6 g4 W.symm e7 ?_;exact uC d5 s7 f5 (fun h=>h)
def bw(b:Bool):aet:= .int .u8 (if b then 1 else 0)
def uQ(b:Bool):LV:=[bw b]
structure PWf(p:PrD):Prop where
 st:0<=p.st/\p.st<=1000000
 sa:0<=p.sa/\p.sa<p.st
 en:0<=p.en/\p.en<p.st
 ed:∀x∈p.ed,0<=x.1/\x.1<p.st/\0<=x.2.1/\x.2.1<p.st/\(x.2.2.1=3->0<=x.2.2.2/\x.2.2.2<p.ts.length)
structure WfS(s:StD)(n:Nat):Prop where
 l1:s.progs.length=s.paths.length
 l2:s.base.length=s.paths.length
 l0:s.paths.length<=100000
 nle:n<=1000000
 at_:∀(i:Nat) p b,s.progs[i]?=some p->s.base[i]?=some b->0<=b/\b+p.st<=n/\PWf p
def A9(k:Int)(nm:NmQ):List AtD->aes×Bool
 |[]=>(eB,false)
 |a::l=>if M8 (a.space,a.loc) nm then(a.val,decide (k=1)) else A9 k nm l
def bH(bs:List Bool)(n:Int):Bool:=bs.getD n.toNat false
def fj(s:StD)(bs:List Bool)(p:Q):Bool:=decide (0<=li s.paths p)&&bH bs (s.base.getD (li s.paths p).toNat 0+(s.progs.getD (li s.paths p).toNat ⟨0,0,0,[],[]⟩).sa)
mutual
def E1(s:StD)(e:EvD)(bs:List Bool):Q->Bool
 | .mk o sp lc vl a b=>if o=1 then true else if o=2 then decide (e.kind=1) else if o=3 then !decide (e.kind=1) else if o=4 then decide (e.kind=1)&&M8 (e.space,e.loc) (sp,lc) else
  if o=5 then(A9 e.kind (sp,lc) e.attrs).2 else if o=6 then(A9 e.kind (sp,lc) e.attrs).2&&decide ((A9 e.kind (sp,lc) e.attrs).1=vl) else if o=7 then !decide (e.kind=1)&&decide (e.text=vl) else
  if o=8\/o=9 then(anyF s e bs a==decide (o=8)) else if o=10 then anyH s e bs a else b.any (fj s bs)
def anyH(s:StD)(e:EvD)(bs:List Bool):List Q->Bool
 |[]=>false
 |x::l=>E1 s e bs x||anyH s e bs l
def anyF(s:StD)(e:EvD)(bs:List Bool):List Q->Bool
 |[]=>false
 |x::l=> !E1 s e bs x||anyF s e bs l
end
def Cl(s:StD)(e:EvD)(bs:List Bool):∀l,anyH s e bs l=l.any (E1 s e bs)
 |[]=>by rw[anyH];rfl
 |x::l=>by rw[anyH,Cl s e bs l,acf]
def Ck(s:StD)(e:EvD)(bs:List Bool):∀l,anyF s e bs l=l.any (fun x=> !E1 s e bs x)
 |[]=>by rw[anyF];rfl
 |x::l=>by rw[anyF,Ck s e bs l,acf]
def tO(s:StD)(e:EvD)(bs:List Bool)(q:Q):E1 s e bs q=if q.op=1 then true else if q.op=2 then decide (e.kind=1) else if q.op=3 then !decide (e.kind=1) else if q.op=4 then decide (e.kind=1)&&M8 (e.space,e.loc) (q.sp,q.lc) else
  if q.op=5 then(A9 e.kind (q.sp,q.lc) e.attrs).2 else if q.op=6 then(A9 e.kind (q.sp,q.lc) e.attrs).2&&decide ((A9 e.kind (q.sp,q.lc) e.attrs).1=q.vl) else if q.op=7 then !decide (e.kind=1)&&decide (e.text=q.vl) else
  if q.op=8\/q.op=9 then(q.a.any (fun x=> !E1 s e bs x)==decide (q.op=8)) else if q.op=10 then q.a.any (E1 s e bs) else q.b.any (fj s bs):=by
 cases q;rw[E1,Cl,Ck];rfl
def QW(k:Nat)(H:d7)(lo W:Nat)(h el:LV)(x y:Q)(a2:lo<=H.n)(X:H.g W=cE h 1)(U:QR H lo k false h x)(I:QR H lo k false el y):
  CL prog l7 179 [.agg el.toArray,pT W] H=some (.bool (P1 y x),none):=by
 have a0:el.all oC=true:=I5 I;have u:=Q6 U;have z:=Q6 I;rw[U.len]at u;rw[I.len]at z;simp only[qSz,bF]at u z;obtain⟨J,D,-,g1,E⟩:=pushF H (bC el 1);have n1:=E.n;have S:=u5 X;have gx:J.g W=cE h 1:=(E.g _ S).trans X;have a1:H.n<=J.low:=by rw[D,l9];exact lR
 have O:=(jU k).1 J lo el h y x oM (I.mono (fun j hj=>E.g j oM) lR) (U.mono (fun j hj=>E.g j oM) lR);rw[i8 Zl rfl _ sM];exact J7 a0 D.symm g1 gx u z O trivial
def BO(K:Nat)(H I:d7)(F:Nat->Prop)(lo:Nat)(Rt:LV->Q->Prop)(cs el:LV)(s:StD)(x:Q)(a5:lo<=H.n)(hF:∀j,F j->j<H.n) (W:∀j,j<lo->H.g j=I.g j) (hs:StF H F (QR I lo K false) Rt cs s) (hx:QR I lo K false el x) (hn:s.paths.length<=100000):
  CL prog l7 173 [.agg cs.toArray,.agg el.toArray] H=some (.int .i64 (li s.paths x),none):=by
 obtain⟨pa,pc,ga,gc,ba,bc,ea,ec,ta,tc,E,h1,h2,h3,h4,h5⟩:=E9 hs;have a0:cs.all oC=true:=by rw[E];rfl
 have r1:cs[0]?=some (.slice pa s.paths.length pc):=by rw[E];rfl
 have a1:=I5 hx;obtain⟨u,z⟩:=eY ((d7.push ⟨H.bs,H.n⟩ (bC cs 1)).push (bC el 1));have n0:(d7.push ⟨H.bs,H.n⟩ (bC cs 1)).n=H.n+1:=by rw[i4];rfl
 have S:d9 H.n H u:=by rw[z];exact(d9.first H _).trans (d9.push oM)
 have g1:u.g H.n=cE cs 1:=by rw[z,i9 oM];exact j7
 have g2:u.g (H.n+1)=cE el 1:=by rw[z];exact y9 oM
 have a4:H.n<=u.low:=by rw[z,l9,l9];exact lR
 have a6:=S.n;have D:∀j,j<lo->u.g j=I.g j:=fun j X=>by rw[S.g j oM,W j X]
 have O:SlF u F 3 (QR u lo K false) (.slice pa s.paths.length pc) s.paths:=h1.mono (fun j X=>S.g j (hF j X)) (fun _ h=>h) (fun _ _ h=>h.mono D lR);have a2:QR u lo K false el x:=hx.mono D lR;have U:=qq (α:=Q) u F (QR u lo K false) (.func (.func 179) #[] #[pT (H.n+1)]) (fun y=>P1 y x) (.slice pa s.paths.length pc) s.paths O oM (fun i y J hy a3=>QW K _ lo (H.n+1) el J x y (show lo<=u.n from oM) g2 (a2.mono (H:=u) (H':=⟨u.bs,u.n⟩) (fun _ _=>rfl) lR) (a3.mono (H:=u) (H':=⟨u.bs,u.n⟩) (fun _ _=>rfl) lR));rw[i8 Zk rfl _ sM];refine J6 a0 a1 z.symm g1 r1 U ?_;rfl
structure iy(Hs:d7)(lo K pn:Nat)(s:StD)(e:EvD)(bs:List Bool)(F:Nat->Prop)(H:d7):Prop where
 ex:∃rs re ba bc,H.g pn=some (.cells (rs++(re++[.slice ba bs.length bc])) true 1)/\StF H F (QR Hs lo K false) (QR Hs lo K true) rs s/\EvF H F re e/\SlF H F 1 (u9 uQ) (.slice ba bs.length bc) bs
 lt:∀j,F j->j<H.n
 eq:∀j,j<lo->H.g j=Hs.g j
 lo:lo<=H.n
def iy.work{lo K E:Nat}{s:StD}{F:Nat->Prop}{H H':d7}(h:iy I lo K E s e bs F H)(z:d9 H.n H H'):iy I lo K E s e bs F H':=by
 obtain⟨⟨rs,re,S,U,J,W,X,h4⟩,O,h6,h7⟩:=h;have hn:=z.n;have D:∀j,F j->H'.g j=H.g j:=fun j u=>z.g j (O j u);exact⟨⟨rs,re,S,U,(z.g E (u5 J)).trans J,W.mono D (fun _ h=>h) iF iF,A0 _ _ _ _ _ _ X D (fun _ h=>h),h4.mono D (fun _ h=>h) iF⟩,fun j u=>by have:=O j u;omega,fun j u=>by rw[z.g j oM];exact h6 j u,oM⟩
def iy.low{lo K z:Nat}{s:StD}{F:Nat->Prop}{H:d7}(h:iy u lo K z s e bs F H)(n:Nat):iy u lo K z s e bs F ⟨H.bs,n⟩:=by
 obtain⟨⟨rs,re,D,E,I,J,O,S⟩,U,W,X⟩:=h;exact⟨⟨rs,re,D,E,I,J.mono (fun _ _=>rfl) (fun _ h=>h) iF iF,A0 _ _ _ _ _ _ O (fun _ _=>rfl) (fun _ h=>h),S.mono (fun _ _=>rfl) (fun _ h=>h) iF⟩,U,W,X⟩
def DB(u:d7)(F:Nat->Prop)(hF:∀j,F j->j<u.n) (pn px:Nat) (X:LV) (g:u.g pn=cE X 1) (kd:Int) (r8:X[8]?=some (.int .i64 kd)) (nm:NmQ) (gx:u.g px=cE (nmE nm) 1) (va:Option Addr) (ca:Nat) (l:List AtD) (hv:SlF u F 3 (u9 atE) (.slice va l.length ca) l) (hn:l.length<=1000000) (r:aes×Bool):
  ∀kk e H2,(∃i:Nat,kk=l.length-i/\i<=l.length/\e.g 0=pT pn/\e.g 3=pT px/\e.g 12= .slice va l.length ca/\e.g 13=iV l.length/\e.g 14=iV i/\d9 u.n u H2/\A9 kd nm (l.drop i)=r)->
  u7 (LE prog l7 (.loop XP) e H2) (fun o e H2=>d9 u.n u H2/\((o= .exit 0/\r=(eB,false))\/(o= .ret/\e.g 4= .string r.1/\e.g 5= .bool r.2))):=by
 refine i5 _ _ ?_;rintro kk e H2 ⟨i,hk,hi,f0,f3,z,D,J,O,E⟩;rcases b:decide ((i:Int)<l.length)with _|_
 .have a4:=dF b;have:l.drop i=[]:=dN oM;rw[this,A9]at E;refine J6 f0 f3 z D J b ?_;exact i6 ⟨O,.inl ⟨rfl,E.symm⟩⟩
 have a4:=dT b;have a8:=O.n;have a5:=u5 g;have a6:=u5 gx;obtain⟨a,nb,o,cs,own,el,hx,hd,rfl,a3,hg,a7,W,hc,rfl⟩:=hv.row (i:=i) oM;have nt:(i:Int).toNat=i:=tN i;have g2:=(O.g nb (hF _ a3)).trans hg;obtain⟨H3,U,n3,g3,s3⟩:=pushP H2 (bC [.string eB,.string eB,.string eB] 1) (bC [.string a.space,.string a.loc,.string a.val] 1);have a2:=(s3.g pn oM).trans ((O.g pn a5).trans g);have S:=(s3.g px oM).trans ((O.g px a6).trans gx);have h:ldC (some true) (some 3) (o+i*3) cs=some (.agg #[.string a.space,.string a.loc,.string a.val]):=W;have a1:d9 u.n u H3:=O.trans (s3.wk oM);rw[hd,A9]at E;rcases b2:M8 (a.space,a.loc) nm with _|_
 .simp only[b2,bF]at E;have I:(decide (a.space=nm.1)&&decide (a.loc=nm.2))=false:=b2;refine J15 f0 f3 z D J @D4 b g2 nt h U.symm g3 S I @wrap_small ?_;exact d8 (kk-1) oM ⟨i+1,oM,oM,f0,f3,z,D,rfl,a1,E⟩
 .simp only[b2,aab]at E;have I:(decide (a.space=nm.1)&&decide (a.loc=nm.2))=true:=b2;refine J16 f0 f3 z D J @D4 b g2 nt h U.symm g3 S I a2 r8 ?_;exact w9 ⟨a1,.inr ⟨rfl,by rw[<-E];rfl,by rw[<-E];rfl⟩⟩
def QS(Hs:d7)(lo K pn:Nat)(s:StD)(e:EvD)(bs:List Bool)(F:Nat->Prop)(H:d7)(hN:iy Hs lo K pn s e bs F H)(nm:NmQ)(hl:e.attrs.length<=1000000):
  CL prog l7 162 [pT pn,.agg (nmE nm).toArray] H=some (.tuple #[.string (A9 e.kind nm e.attrs).1,.bool (A9 e.kind nm e.attrs).2],none):=by
 obtain⟨H1,J,-,gx,hS⟩:=pushF H (bC (nmE nm) 1);have u:H.n<=H1.low:=by rw[J,l9];exact lR
 have U:=hS.n;obtain⟨⟨rs,re,ba,bc,g,hs,⟨av,W,S⟩,hb⟩,hF,_,_⟩:=hN.work hS;obtain⟨pa,pc,ga,gc,xa,xc,ea,ec,ta,tc,X,_⟩:=E9 hs;obtain⟨E,I,rfl⟩:=S.slice;obtain⟨D,h⟩:=eY (rs++(re++[.slice ba bs.length bc]));rw[<-h]at g;have r8:D[8]?=some (.int .i64 e.kind):=by rw[h,X,W];rfl
 have a2:D[11]?=some (.slice E e.attrs.length I):=by rw[h,X,W];rfl
 rw[i8 TI rfl _ sM];refine J3 J.symm g a2 ?_;refine j5 (F:=fun z=>t6 _ _ _ (u6 (inBlock 0 z) _)=_) (DB H1 F hF pn H.n D g e.kind r8 nm gx E I e.attrs S hl (A9 e.kind nm e.attrs) e.attrs.length _ _ ⟨0,rfl,oM,rfl,rfl,rfl,rfl,rfl,d9.refl _ _,rfl⟩) ?_;rintro o e' H' ⟨O,⟨ho,hr⟩|⟨ho,h4,h5⟩⟩
 .have a1:=(O.wk U).low u;exact J2 ho hr trivial
 .have a1:=(O.wk U).low u;exact J3 ho h4 h5 trivial
def QU(Hs:d7)(lo K pn:Nat)(s:StD)(e:EvD)(bs:List Bool)(F:Nat->Prop)(H:d7)(hN:iy Hs lo K pn s e bs F H)(X:WfS s bs.length)(el:LV)(x:Q)(hx:QR Hs lo K false el x):
  CL prog l7 165 [pT pn,.agg el.toArray] H=some (.bool (fj s bs x),none):=by
 have a1:=I5 hx;have J:=Q6 hx;rw[hx.len]at J;simp only[qSz,bF]at J;obtain⟨H1,W,-,gx,hS⟩:=pushF H (bC el 1);have d6:H.n<=H1.low:=by rw[W,l9];exact lR
 have f2:=hS.n;obtain⟨⟨rs,re,ba,bc,g,hs,c3,hb⟩,hF,c0,c7⟩:=hN.work hS;have u:=BO K H1 Hs F lo _ rs el s x c7 hF c0 hs hx X.l0;obtain⟨pa,pc,ga,gc,xa,xc,ea,ec,ta,tc,E,h1,h2,h3,_⟩:=E9 hs;obtain⟨av,I,e8⟩:=c3;obtain⟨O,h⟩:=eY (rs++(re++[.slice ba bs.length bc]));rw[<-h]at g;have f6:rs.length=8:=by rw[E];rfl
 have U:ldC (some true) (some 8) 0 O=some (.agg rs.toArray):=by rw[h,E,I];rfl
 have r1:O[1]?=some (.slice ga s.progs.length gc):=by rw[h,E,I];rfl
 have r2:O[2]?=some (.slice xa s.base.length xc):=by rw[h,E,I];rfl
 have d2:O[13]?=some (.slice ba bs.length bc):=by rw[h,E,I];rfl
 rw[i8 TJ rfl _ sM,fj];have D:=dR (fun y=>P1 y x) s.paths 0;obtain⟨z,hz⟩:=eY (li s.paths x);rw[<-hz]at u ⊢;rw[show ixG (fun y=>P1 y x) s.paths 0=z from hz.symm]at D;rcases b:decide (0<=z)with _|_
 .exact J8 a1 W.symm gx g J U u b trivial
 have e9:=dT b;have a9:z.toNat<s.paths.length:=by rcases D with q|q<;>omega
 obtain⟨xb,nb,o,cs,own,b2,a7,_,rfl,e5,c4,d3,c8,b7,b4⟩:=h3.row (i:=z.toNat) (by rw[X.l2];exact a9);obtain⟨xp,np,op,cp,e2,e4,a8,_,rfl,e6,c5,d4,c9,b8,b5⟩:=h2.row (i:=z.toNat) (by rw[X.l1];exact a9);have a4:b2=inE xb:=b4;subst a4;obtain⟨_,_,_,_,a5,_⟩:=E3 b5;have a2:=b7 0 oM;have a3:=b8 1 oM;rw[a5]at a3;rw[aaf]at a2;obtain⟨w1,w2,w3⟩:=X.at_ z.toNat xp xb a8 a7;have f4:=w3.sa;have f5:=w3.st;have f3:=X.nle;have eb:s.base.getD z.toNat 0=xb:=by rw[ma,a7];rfl
 have ep:(s.progs.getD z.toNat ⟨0,0,0,[],[]⟩).sa=xp.sa:=by rw[ma,a8];rfl
 rw[eb,ep,bH];obtain⟨S,nv,ov,cv,e3,b3,d1,_,rfl,e7,c6,d5,d0,b9,b6⟩:=hb.row (i:=(xb+xp.sa).toNat) oM;have a6:b3=uQ S:=b6;subst a6;have b0:cv[ov+(xb+xp.sa).toNat*1]?=some (.int .u8 (if S=true then 1 else 0)):=by have:=b9 0 oM;rw[aaf]at this;exact this
 have b1:bs.getD (xb+xp.sa).toNat false=S:=by rw[ma,d1];rfl
 rw[b1];have f0:=X.l1;have f1:=X.l2;have e1:(if S=true then(1:Int) else 0)=if S then 1 else 0:=rfl;have db:decide ((if S=true then(1:Int) else 0)=1)=S:=by cases S<;>rfl
 exact J19 a1 W.symm gx g J U u b r1 r2 d2 c4 a2 c5 a3 c6 b0 db @wrap_small trivial
def QT(I:d7)(lo K O:Nat)(s:StD)(e:EvD)(bs:List Bool)(F:Nat->Prop)(k:Nat)(el:LV)(x:Q)(D:QR I lo k true el x)(H:d7)(a3:lo<=H.n)(a2:∀j,j<lo->H.g j=I.g j) (r:Bool) (z:∀H',d9 H.n H H'->CL prog l7 147 [pT O,.agg el.toArray] H'=some (.bool r,none)):
  CL prog l7 164 [pT O,.agg el.toArray] H=some (.bool (!r),none):=by
 have S:=I5 D;have h:=Q6 D;rw[D.len]at h;simp only[qSz,aab]at h;obtain⟨E,u,-,U,X⟩:=pushF H (bC el 1);have J:H.n<=E.low:=by rw[u,l9];exact lR
 have W:=z E X;rw[i8 Zh rfl _ sM];exact J5 S u.symm U h W trivial
def uK(Hs:d7)(lo K k:Nat):Prop:=∀(H:d7)(pn:Nat)(s:StD)(e:EvD)(bs:List Bool)(F:Nat->Prop)(cs:LV)(q:Q),iy Hs lo K pn s e bs F H->WfS s bs.length->e.attrs.length<=1000000->QR Hs lo k true cs q->
 CL prog l7 147 [pT pn,.agg cs.toArray] H=some (.bool (E1 s e bs q),none)
def Ay(Hs:d7)(lo K k:Nat)(hk:k<=K)(ih:uK Hs lo K k):uK Hs lo K (k+1):=by
 intro H pn s e bs F cs q hN hw a7 hr;have D:=I5 hr;have l6:=hr.len;simp only[qSz,aab]at l6;obtain⟨va,ca,wa,c8,U,h1,h2,h3,h4,_⟩:=hr.filter;have E:cs[0]?=some (.int .i64 q.op):=by rw[U];rfl
 have c3:cs[3]?=some (.string q.vl):=by rw[U];rfl
 have c4:cs[4]?=some (.slice va q.a.length ca):=by rw[U];rfl
 have c5:cs[5]?=some (.slice wa q.b.length c8):=by rw[U];rfl
 have X:ldC (some true) (some 2) 1 cs=some (.agg (nmE (q.sp,q.lc)).toArray):=by rw[U];rfl
 have a6:ldC (some true) (some 2) 1 cs=some (.agg #[.string q.sp,.string q.lc]):=X;obtain⟨W,u,-,I,hS⟩:=pushF H (bC cs 1);have d4:H.n<=W.low:=by rw[u,l9];exact lR
 have d6:=hS.n;have S:=hN.work hS;obtain⟨⟨rs,re,ba,bc,g,hs,⟨av,a8,d5⟩,hb⟩,hF,a3,d3⟩:=id S;obtain⟨pa,pc,ga,gc,xa,xc,ea,ec,ta,tc,a9,_⟩:=E9 hs;obtain⟨b0,J⟩:=eY (rs++(re++[.slice ba bs.length bc]));rw[<-J]at g;have O:b0[8]?=some (.int .i64 e.kind):=by rw[J,a9,a8];rfl
 have c9:b0[12]?=some (.string e.text):=by rw[J,a9,a8];rfl
 have d0:ldC (some true) (some 2) 9 b0=some (.agg #[.string e.space,.string e.loc]):=by rw[J,a9,a8];rfl
 have z:=QS Hs lo K pn s e bs F W S (q.sp,q.lc) a7;have a5:=fun a b=>uP (P:=prog) 4 a b ty4.2.2.2.2.2.2.1;have a4:=qr (α:=Q) W (· <lo) (QR Hs lo k true) (.func (.func 164) #[pT pn] #[]) (fun x=> !E1 s e bs x) (.slice va q.a.length ca) q.a (SlF.mono (SlI.slF h1) (fun j hj=>a3 j hj) (fun _ h=>h) iF) h3 (fun i x el hx hR=>QT Hs lo K pn s e bs F k el x hR ⟨W.bs,W.n⟩ d3 (fun j hj=>a3 j hj) _ (fun H' d2=>ih H' pn s e bs F el x ((S.low W.n).work d2) hw a7 hR));have c6:=qr (α:=Q) W (· <lo) (QR Hs lo k true) (.func (.func 147) #[pT pn] #[]) (E1 s e bs) (.slice va q.a.length ca) q.a (SlF.mono (SlI.slF h1) (fun j hj=>a3 j hj) (fun _ h=>h) iF) h3 (fun i x el hx hR=>ih _ pn s e bs F el x (S.low W.n) hw a7 hR);have c7:=qp (α:=Q) W (· <lo) (QR Hs lo k false) (.func (.func 165) #[pT pn] #[]) (fj s bs) (.slice wa q.b.length c8) q.b (SlF.mono (SlI.slF h2) (fun j hj=>a3 j hj) (fun _ h=>h) iF) h4 (fun i x el hx hR=>QU Hs lo K pn s e bs F _ (S.low W.n) hw el x (hR.upTo hk));rw[i8 Ns rfl _ sM,tO];by_cases e1:q.op=1
 .rw[cA e1];exact J7 D u.symm I g O E e1 trivial
 rw[bt e1];have b1:decide (q.op=1)=false:=kA e1;by_cases e2:q.op=2
 .rw[cA e2];exact J7 D u.symm I g O E e2 trivial
 rw[bt e2];have b2:decide (q.op=2)=false:=kA e2;by_cases e3:q.op=3
 .rw[cA e3];exact J7 D u.symm I g O E e3 trivial
 rw[bt e3];have b3:decide (q.op=3)=false:=kA e3;by_cases e4:q.op=4
 .rw[cA e4];rcases d:decide (e.kind=1)with _|_
  .exact J11 @D4 D u.symm I g O E e4 d d0 a6 trivial
  .exact J11 @D4 D u.symm I g O E e4 d d0 a6 trivial
 rw[bt e4];have b4:decide (q.op=4)=false:=kA e4;by_cases e5:q.op=5
 .rw[cA e5];exact J9 D u.symm I g O E e5 X z trivial
 rw[bt e5];have b5:decide (q.op=5)=false:=kA e5;by_cases e6:q.op=6
 .rw[cA e6];rcases d:(A9 e.kind (q.sp,q.lc) e.attrs).2 with _|_
  .rw[d]at z;exact J10 D u.symm I g O E e6 X z c3 trivial
  .rw[d]at z;exact J10 D u.symm I g O E e6 X z c3 trivial
 rw[bt e6];have b6:decide (q.op=6)=false:=kA e6;by_cases e7:q.op=7
 .rw[cA e7];rcases d:decide (e.kind=1)with _|_
  .exact J10 D u.symm I g O E e7 d c9 c3 trivial
  .exact J10 D u.symm I g O E e7 d c9 c3 trivial
 rw[bt e7];have b7:decide (q.op=7)=false:=kA e7;by_cases e8:q.op=8
 .rw[cA (.inl e8)];exact J10 D u.symm I g O E e8 c4 a4 a5 trivial
 have b8:decide (q.op=8)=false:=kA e8;by_cases e9:q.op=9
 .rw[cA (.inr e9)];exact J10 D u.symm I g O E e9 c4 a4 a5 trivial
 rw[bt (fun q=>q.elim e8 e9)];have b9:decide (q.op=9)=false:=kA e9;by_cases a2:q.op=10
 .rw[cA a2];exact J9 D u.symm I g O E a2 c4 c6 trivial
 rw[bt a2];have d1:decide (q.op=10)=false:=kA a2;exact J18 D u.symm I g O E b1 b2 b3 b4 b5 b6 b7 b8 b9 d1 c5 c7 trivial
def Ey(h:d7)(lo K:Nat):∀k,k<=K+1->uK h lo K k:=by
 intro k;induction k with
 |zero=>intro _ H E s e bs F cs q _ _ _ u;exact u.elim
 |succ k z=>intro D;exact Ay h lo K k oM (z oM)
def BV(Hs:d7)(lo K pn:Nat)(s:StD)(u:EvD)(bs:List Bool)(F:Nat->Prop)(h:d7)(hN:iy Hs lo K pn s u bs F h)(hw:WfS s bs.length)(a7:u.attrs.length<=1000000)(va:Option Addr)(ca:Nat)(l:List Q)(hv:SlF h F 6 (QR Hs lo K true) (.slice va l.length ca) l)(hn:l.length<=1000000):
  ∀kk e H2,(∃(i:Nat)(w:aet),kk=l.length-i/\i<=l.length/\e.g 9=pT pn/\e.g 10=w/\e.g 19= .slice va l.length ca/\e.g 20=iV l.length/\e.g 21=iV i/\d9 h.n h H2/\t7 H2 h.n 1 (u9 boE) w ((l.take i).map (E1 s u bs)))->
  u7 (LE prog l7 (.loop Xw) e H2) (fun o e H2=>o= .exit 0/\d9 h.n h H2/\∃w,e.g 10=w/\t7 H2 h.n 1 (u9 boE) w (l.map (E1 s u bs))):=by
 refine i5 _ _ ?_;rintro kk e H2 ⟨i,w,hk,hi,f9,z,D,E,I,hS,hO⟩;rcases b:decide ((i:Int)<l.length)with _|_
 .have a8:=dF b;have:l.take i=l:=A2 oM;rw[this]at hO;refine J6 f9 z D E I b ?_;exact i6 ⟨rfl,hS,w,z,hO⟩
 have a8:=dT b;have b3:=hS.n;obtain⟨x,nb,o,cs,own,el,hx,hd,rfl,a2,hg,b2,O,hc,X⟩:=hv.row (i:=i) oM;have nt:(i:Int).toNat=i:=tN i;have g2:=(hS.g nb (hN.lt _ a2)).trans hg;have a1:=I5 X;have W:=X.len;simp only[qSz,aab]at W;have S:=Q6 X;rw[W]at S;obtain⟨H3,a4,n3,g3,s3⟩:=pushP H2 (bC [iV 0,.string eB,.string eB,.string eB,nS,nS] 1) (bC el 1);have b1:splice [iV 0,.string eB,.string eB,.string eB,nS,nS] 0 el=el:=y7 _ _ (by rw[W];rfl);have U:d9 h.n h H3:=hS.trans (s3.wk oM);have a9:=Ey Hs lo K K oM H3 pn s u bs F el x (hN.work U) hw a7 X;have b0:(l.take (i+1)).map (E1 s u bs)=(l.take i).map (E1 s u bs)++[E1 s u bs x]:=by rw[abJ,hx,abg];rfl
 obtain⟨w4,h4,H4,a6,J,a5,a3⟩:=(hO.keep s3).push1F (P:=prog) (t:=67) (cs:=boE (E1 s u bs x)) (a:=E1 s u bs x) (by exact WQ.2.2.2.2.2.2) ty4.1 ty4.2.1 ty4.2.2.1 oM oM rfl rfl (by simp;omega) oM;refine J19 f9 z D E I b g2 nt O a1 W b1 a4.symm g3 S a9 a6 J @wrap_small ?_;exact d8 (kk-1) oM ⟨i+1,w4,oM,oM,f9,rfl,D,E,rfl,U.trans a3.stay,by rw[b0];exact a5⟩
def UM(Hs:d7)(lo K:Nat)(s:StD)(p:PrD)(ev:EvD)(bs:List Bool)(F:Nat->Prop)(H:d7)(D rp J:LV)(ba:Option Addr)(bc:Nat)(hs:StF H F (QR Hs lo K false) (QR Hs lo K true) D s)(hp:PrF H F (QR Hs lo K true) rp p)(he:EvF H F J ev)(hb:SlF H F 1 (u9 uQ) (.slice ba bs.length bc) bs)
  (hF:∀j,F j->j<H.n) (b7:∀j,j<lo->H.g j=Hs.g j) (c9:lo<=H.n) (hw:WfS s bs.length) (b5:ev.attrs.length<=1000000) (hn:p.ts.length<=1000000):
  P4 (CL prog l7 123 [.agg D.toArray,.agg rp.toArray,.agg J.toArray,.slice ba bs.length bc] H) H 1 (u9 boE) (p.ts.map (E1 s ev bs)):=by
 obtain⟨pa,pc,ga,gc,xa,xc,ea,ec,ta,tc,W,_⟩:=E9 hs;obtain⟨c7,c8,a4,a5,b1,d0,b9⟩:=E3 hp;obtain⟨av,U,b6⟩:=id he;obtain⟨c5,c6,rfl⟩:=b6.slice;have a7:D.all oC=true:=by rw[W];rfl
 have ap:rp.all oC=true:=by rw[b1];rfl
 have ae:J.all oC=true:=by rw[U];rfl
 have ls:D.length=8:=by rw[W];rfl
 have le:J.length=5:=by rw[U];rfl
 have c3:ldC (some true) (some 8) 0 D=some (.agg D.toArray):=by rw[W];rfl
 have c0:ldC (some true) (some 5) 0 J=some (.agg J.toArray):=by rw[U];rfl
 have p4:rp[4]?=some (.slice a4 p.ts.length a5):=by rw[b1];rfl
 obtain⟨S,u⟩:=eY (((d7.push ⟨H.bs,H.n⟩ (bC D 1)).push (bC rp 1)).push (bC J 1));have n0:(d7.push ⟨H.bs,H.n⟩ (bC D 1)).n=H.n+1:=by rw[i4];rfl
 have c4:((d7.push ⟨H.bs,H.n⟩ (bC D 1)).push (bC rp 1)).n=H.n+2:=by rw[i4,n0]
 have na:S.n=H.n+3:=by rw[u,i4,c4]
 have sa:d9 H.n H S:=by rw[u];exact((d9.first H _).trans (d9.push oM)).trans (d9.push oM)
 have g1:S.g H.n=cE D 1:=by rw[u,i9 oM,i9 oM];exact j7
 have g2:S.g (H.n+1)=cE rp 1:=by rw[u,i9 oM];exact y9 oM
 have g3:S.g (H.n+2)=cE J 1:=by rw[u];exact y9 oM
 have a9:H.n<=S.low:=by rw[u,l9,l9,l9];exact lR
 obtain⟨a3,I⟩:=eY (D++(J++[.slice ba bs.length bc]));have a6:a3.all oC=true:=by rw[I,abN,abN,a7,ae];rfl
 obtain⟨O,E,-,b4,-⟩:=pushE S (bC a3 1);have n1:O.n=H.n+4:=by rw[E,i4,na]
 have s1:d9 H.n H O:=by rw[E];exact sa.trans (d9.push oM)
 have a2:H.n<=O.low:=by rw[E,l9];exact a9
 have b3:O.g (H.n+1)=cE rp 1:=by rw[E,i9 oM];exact g2
 have hg:∀j,F j->O.g j=H.g j:=fun j hj=>s1.g j (hF j hj);have hN:iy Hs lo K S.n s ev bs F O:=⟨⟨D,J,ba,bc,by rw[<-I];exact b4,hs.mono hg (fun _ h=>h) iF iF,A0 _ _ _ _ _ _ he hg (fun _ h=>h),hb.mono hg (fun _ h=>h) iF⟩,fun j hj=>by have:=hF j hj;omega,fun j hj=>by rw[s1.g j oM];exact b7 j hj,oM⟩
 obtain⟨X,hA⟩:=eY (splice [nS,nS,nS,iV 0,iV 0,iV 0,nS,nS,iV 0,.string eB,.string eB,nS,.string eB,nS] 0 D);obtain⟨a1,hB⟩:=eY (splice X 8 J);have lA:X.length=14:=by rw[hA,D2];rfl
 have lB:a1.length=14:=by rw[hB,D2];exact lA
 have eC:a1.set 13 (.slice ba bs.length bc)=a3:=by rw[hB,hA,I,W,U];rfl
 rw[i8 To rfl _ sM];refine J20 a7 ap ae u.symm g1 g2 g3 c3 c0 ls le hA.symm lA hB.symm lB eC a6 E.symm b3 p4 ?_;have b0:SlF O F 6 (QR Hs lo K true) (.slice a4 p.ts.length a5) p.ts:=b9.mono hg (fun _ h=>h) iF;refine j5 (F:=fun z=>P4 (t6 _ _ _ (u6 (inBlock 0 z) _)) _ _ _ _) (BV Hs lo K S.n s ev bs F O hN hw b5 a4 a5 p.ts b0 hn p.ts.length _ _ ⟨0,nS,rfl,oM,rfl,rfl,rfl,rfl,rfl,d9.refl _ _,t7.nil⟩) ?_;rintro o e' H2 ⟨ho,a8,w,b2,hO⟩;refine J2 ho b2 ?_;have b8:=(a8.wk (show H.n<=O.n from oM)).low a2;exact I7 (hO.wk oM) (s1.trans (a8.wk oM)) b8
def vB(h:d7)(F:Nat->Prop)(hF:∀j,F j->j<h.n) (Rt:LV->Q->Prop) (va:Option Addr) (ca:Nat) (l:List PrD) (hv:SlF h F 5 (PrF h F Rt) (.slice va l.length ca) l) (hn:l.length<=100000) (hb:∀p∈l,0<=p.st/\p.st<=1000000) (r:Int):
  ∀X e H2,(∃(i:Nat)(n:Int),X=l.length-i/\i<=l.length/\0<=n/\n<=1000000*i/\e.g 3=iV n/\e.g 7= .slice va l.length ca/\e.g 8=iV l.length/\e.g 9=iV i/\d9 h.n h H2/\(l.drop i).foldl (fun n p=>n+p.st) n=r)->
  u7 (LE prog l7 (.loop OB) e H2) (fun o e H2=>d9 h.n h H2/\o= .exit 0/\e.g 3=iV r):=by
 refine i5 _ _ ?_;rintro X e H2 ⟨i,n,hk,hi,a5,a6,E,I,J,f9,D,z⟩;rcases b:decide ((i:Int)<l.length)with _|_
 .have W:=dF b;have:l.drop i=[]:=dN oM;rw[this,aaT]at z;refine J5 E I J f9 b ?_;exact i6 ⟨D,rfl,by rw[<-z];exact E⟩
 have W:=dT b;have a7:=D.n;obtain⟨x,nb,o,cs,own,el,hx,hd,rfl,O,hg,a4,u,hc,U⟩:=hv.row (i:=i) oM;have nt:(i:Int).toNat=i:=tN i;have a3:=hb x (mG hx);have g2:=(D.g nb (hF _ O)).trans hg;have a1:=jA U;have l1:=dP U;have e0:el[0]?=some (.int .i64 x.st):=by obtain⟨_,_,_,_,rfl,_⟩:=E3 U;rfl
 obtain⟨H3,S,n3,g3,s3⟩:=pushP H2 (bC z5 1) (bC el 1);have a2:splice z5 0 el=el:=y7 _ _ (by rw[l1];rfl);rw[hd,aak]at z;refine J15 E I J f9 b g2 nt u a1 l1 a2 S.symm g3 e0 @wrap_small ?_;exact d8 (X-1) oM ⟨i+1,n+x.st,oM,oM,oM,oM,rfl,I,J,rfl,D.trans (s3.wk oM),z⟩
def UI(H:d7)(F:Nat->Prop)(Rp O:LV->Q->Prop)(cs:LV)(s:StD)(X:∀j,F j->j<H.n) (hs:StF H F Rp O cs s) (hn:s.progs.length<=100000) (hb:∀p∈s.progs,0<=p.st/\p.st<=1000000):CL prog l7 104 [.agg cs.toArray] H=some (.int .i64 (A3 s.progs),none):=by
 obtain⟨pa,pc,S,U,ba,bc,ea,ec,ta,tc,D,h1,h2,h3,h4,h5⟩:=E9 hs;have a0:cs.all oC=true:=by rw[D];rfl
 have r1:cs[1]?=some (.slice S s.progs.length U):=by rw[D];rfl
 obtain⟨J,u,-,hg,hS⟩:=pushF H (bC cs 1);have I:H.n<=J.low:=by rw[u,l9];exact lR
 have a2:=hS.n;have W:SlF J F 5 (PrF J F O) (.slice S s.progs.length U) s.progs:=h2.mono (fun j E=>hS.g j (X j E)) (fun _ h=>h) (fun _ _ h=>h.mono (fun j E=>hS.g j (X j E)) (fun _ h=>h) iF);rw[i8 HJ rfl _ sM];refine J4 a0 u.symm hg r1 ?_;refine j5 (F:=fun z=>t6 _ _ _ (u6 (inBlock 0 z) _)=_) (vB J F (fun j E=>by have:=X j E;omega) O S U s.progs W hn hb (A3 s.progs) s.progs.length _ _ ⟨0,0,rfl,oM,oM,oM,rfl,rfl,rfl,rfl,d9.refl _ _,rfl⟩) ?_;rintro o e' H' ⟨a1,ho,h3⟩;have a3:=(a1.wk a2).low I;exact J2 ho h3 trivial
abbrev SoD:Type:=Bool×Bool×aes
def jQ(x:SoD)(n:Int):Bool:=x.1&&decide (A4 x.2.2 n.toNat=1)
def xE(x:SoD)(n:Nat):Prop:=x.1=true->x.2.2.size=n
def Jt(H:d7)(x:SoD)(n:Int)(m:Nat)(J:xE x m)(O:0<=n)(S:n<m):CL prog l7 161 [.agg (soE x).toArray,iV n] H=some (.bool (jQ x n),none):=by
 obtain⟨h,t,b⟩:=x;obtain⟨E,u,-,z,-⟩:=pushF H (bC [.bool h,.bool t,.string b] 1);have D:H.n<=E.low:=by rw[u,l9];exact lR
 rw[i8 Nu rfl _ sM,jQ];cases h with
 |false=>simp(maxSteps:=20000000) -dsimp (disch:=first|omega|(simp only[rH]<;>omega)|fail) only[↓jM,rQ,Q4,sevalprocAttr,tyA,<-u,z]
 |true=>
  have I:b.size=m:=J rfl;exact J2 u.symm z trivial
abbrev EdD:Type:=Int×Int×Int×Int
def mJ(fi ne:SoD)(hs bs:List Bool)(b:Int)(x:EdD):Bool:=if x.2.2.1=1 then jQ fi (b+x.2.1) else if x.2.2.1=2 then jQ ne (b+x.2.1) else if x.2.2.1=3 then hs.getD x.2.2.2.toNat false&&bH bs (b+x.2.1) else bH bs (b+x.2.1)
def V9(fi ne:SoD)(hs:List Bool)(b:Int):List EdD->List Bool×Bool->List Bool×Bool
 |[],z=>z
 |x::l,z=>V9 fi ne hs b l (if !bH z.1 (b+x.1)&&mJ fi ne hs z.1 b x then(z.1.set (b+x.1).toNat true,true) else z)
def itE(fi ne:SoD)(hs:List Bool)(b:Int)(l:List EdD):Nat->List Bool->List Bool
 |0,bs=>bs
 |n+1,bs=>if(V9 fi ne hs b l (bs,false)).2 then itE fi ne hs b l n (V9 fi ne hs b l (bs,false)).1 else(V9 fi ne hs b l (bs,false)).1
def bI(bs:List Bool):Nat:=(bs.filter (fun b=> !b)).length
def pP:∀(bs:List Bool)(i:Nat),i<bs.length->bs.getD i false=false->bI (bs.set i true)+1=bI bs
 |[],i,h,_=>by simp at h
 |b::bs,0,_,h=>by
  have:b=false:=by simpa using h
  subst this;simp [bI]
 |b::bs,i+1,h,h2=>by
  have:=pP bs i (by simpa using h) (by simpa using h2);cases b<;>simp [bI]at this ⊢ <;>omega
def fH(fi ne:SoD)(h:List Bool)(b:Int):∀(l:List EdD)(z:List Bool×Bool),(V9 fi ne h b l z).1.length=z.1.length
 |[],z=>rfl
 |x::l,z=>by
  rw[V9,fH fi ne h b l];split
  .simp
  .rfl
def fG(fi ne:SoD)(u:List Bool)(b:Int):∀(l:List EdD)(z:List Bool×Bool),(∀x∈l,0<=b+x.1/\b+x.1<z.1.length)->bI (V9 fi ne u b l z).1<=bI z.1/\((V9 fi ne u b l z).2=true->z.2=true\/bI (V9 fi ne u b l z).1<bI z.1)
 |[],z,_=>⟨lR,fun h=> .inl h⟩
 |x::l,z,h=>by
  rw[V9];have J:=h x sM;rcases E:(!bH z.1 (b+x.1)&&mJ fi ne u z.1 b x)with _|_
  .simp only[bF];exact fG fi ne u b l z fun y D=>h y (by simp [D])
  .simp only[aab];simp only[gk,abo]at E;have I:=pP z.1 (b+x.1).toNat oM E.1;have:=fG fi ne u b l (z.1.set (b+x.1).toNat true,true) fun y D=>by have:=h y (by simp [D]);simp;omega
   refine⟨by have:=this.1;simp only at this;omega,fun _=> .inr (by have:=this.1;simp only at this;omega)⟩
def vA(fi ne:SoD)(h:List Bool)(b:Int)(l:List EdD):∀(n:Nat)(bs:List Bool),(itE fi ne h b l n bs).length=bs.length
 |0,bs=>rfl
 |n+1,bs=>by
  rw[itE];split
  .rw[vA fi ne h b l n,fH]
  .rw[fH]
def bU(s:StD)(e:EvD)(fi ne:SoD)(p:PrD)(b:Int)(bs:List Bool):List Bool:=
 itE fi ne (p.ts.map (E1 s e bs)) b p.ed (bI (bs.set (b+p.en).toNat true)+1) (bs.set (b+p.en).toNat true)
def Z7(s:StD)(e:EvD)(fi ne:SoD):List (PrD×Int)->List Bool->List Bool
 |[],bs=>bs
 |x::l,bs=>Z7 s e fi ne l (bU s e fi ne x.1 x.2 bs)
def mW(bs:List Bool):aes:=⟨(bs.map fun b=>if b then(1:UInt8) else 0).toArray⟩
def L8(s:StD)(e:EvD)(fi ne:SoD):SoD:=(true,decide (e.kind=2),mW (Z7 s e fi ne (s.progs.zip s.base) (List.replicate (A3 s.progs).toNat false)))
structure S4(Hs:d7)(lo K pm pb:Nat)(s:StD)(e:EvD)(fi ne:SoD)(bs:List Bool)(F:Nat->Prop)(H:d7):Prop where
 ex:∃rs re bc,H.g pm=some (.cells (rs++(re++(soE fi++(soE ne++[.slice (some ⟨pb,0,none⟩) bs.length bc])))) true 1)/\StF H F (QR Hs lo K false) (QR Hs lo K true) rs s/\EvF H F re e
 bits:H.g pb=cE (bs.map bw) 1
 lt:∀j,F j->j<H.n/\j≠pb
 eq:∀j,j<lo->H.g j=Hs.g j
 lo:lo<=pb
 ne:pm≠pb
section
variable{Hs:d7}{lo K pm pb:Nat}{s:StD}{e:EvD}{fi ne:SoD}{bs:List Bool}{F:Nat->Prop}{H H':d7}
def S4.pbl(h:S4 Hs lo K pm pb s e fi ne bs F H):pb<H.n:=u5 h.bits
def S4.work(h:S4 Hs lo K pm pb s e fi ne bs F H)(u:d9 H.n H H'):S4 Hs lo K pm pb s e fi ne bs F H':=by
 have D:=h.pbl;obtain⟨⟨rs,re,O,E,S,U⟩,W,I,X,h7,h8⟩:=h;have hn:=u.n;have J:∀j,F j->H'.g j=H.g j:=fun j z=>u.g j (I j z).1;exact⟨⟨rs,re,O,(u.g pm (u5 E)).trans E,S.mono J (fun _ h=>h) iF iF,A0 _ _ _ _ _ _ U J (fun _ h=>h)⟩,(u.g pb D).trans W,fun j z=>by have:=I j z;omega,fun j z=>by rw[u.g j oM];exact X j z,h7,h8⟩
def S4.set(h:S4 Hs lo K pm pb s e fi ne bs F H)(i:Nat):S4 Hs lo K pm pb s e fi ne (bs.set i true) F (H.put pb (.cells ((bs.map bw).set i (bw true)) true 1)):=by
 have D:=h.pbl;obtain⟨⟨rs,re,J,O,S,U⟩,h4,z,W,X,E⟩:=h;have I:∀j,F j->(H.put pb (.cells ((bs.map bw).set i (bw true)) true 1)).g j=H.g j:=fun j u=>j6 (fun q=>(z j u).2 q.symm);refine⟨⟨rs,re,J,by rw[j6 (fun q=>E q.symm),aaZ];exact O,S.mono I (fun _ h=>h) iF iF,A0 _ _ _ _ _ _ U I (fun _ h=>h)⟩,by rw[i7 D,acU],fun j u=>⟨by rw[j9];exact(z j u).1,(z j u).2⟩,fun j u=>by rw[j6 oM];exact W j u,X,E⟩
def S4.row(h:S4 Hs lo K pm pb s e fi ne bs F H):∃E I J u,H.g pm=cE u 1/\u=E++(I++(soE fi++(soE ne++[sL pb bs.length J])))/\u.length=20/\StF H F (QR Hs lo K false) (QR Hs lo K true) E s/\EvF H F I e/\
  ldC (some true) (some 8) 0 u=some (.agg E.toArray)/\ldC (some true) (some 5) 8 u=some (.agg I.toArray)/\ldC (some true) (some 3) 13 u=some (.agg (soE fi).toArray)/\ldC (some true) (some 3) 16 u=some (.agg (soE ne).toArray)/\u[19]?=some (sL pb bs.length J)/\
  (∀k,k<8->u[k]?=E[k]?)/\u[8]?=some (.int .i64 e.kind):=by
 obtain⟨⟨E,I,J,U,O,S⟩,_⟩:=h;obtain⟨pa,pc,ga,gc,xa,xc,ea,ec,ta,tc,z,_⟩:=E9 O;obtain⟨X,D,_⟩:=id S;have W:E.length=8:=by rw[z];rfl
 refine⟨E,I,J,_,U,rfl,by rw[z,D];rfl,O,S,by rw[z,D];rfl,by rw[z,D];rfl,by rw[z,D];rfl,by rw[z,D];rfl,by rw[z,D];rfl,fun k hk=>xd oM,by rw[z,D];rfl⟩
def Cp(h:i<bs.length):(bs.map bw)[i*1]?=some (.int .u8 (if bs.getD i false=true then 1 else 0)):=by
 rw[aaK,aaS,yv h,ma,yv h];rfl
end
def Rz(b:Bool):decide ((if b=true then(1:Int) else 0)=1)=b:=by cases b<;>rfl
def UN(Hs:d7)(lo K pm pb:Nat)(s:StD)(e:EvD)(fi ne:SoD)(bs:List Bool)(F:Nat->Prop)(H:d7)(hK:S4 Hs lo K pm pb s e fi ne bs F H)(h1:xE fi bs.length)(h2:xE ne bs.length)(c0:bs.length<=1000000)(b:Int)(x:EdD)(ha:Option Addr)(hc:Nat)(J:List Bool)(F2:Nat->Prop)(a4:∀j,F2 j->j<H.n) (hh:SlF H F2 1 (u9 boE) (.slice ha J.length hc) J)
  (hb:0<=b/\b<=1000000) (hx:0<=x.2.1/\b+x.2.1<bs.length) (h3:x.2.2.1=3->0<=x.2.2.2/\x.2.2.2<J.length):
  CL prog l7 140 [pT pm,iV b,.agg (edE x).toArray,.slice ha J.length hc] H=some (.bool (mJ fi ne J bs b x),none):=by
 obtain⟨x0,x1,O,x3⟩:=x;simp only at hx h3;obtain⟨X,I⟩:=eY (edE (x0,x1,O,x3));rw[<-I];have U:X.all oC=true:=by rw[I];rfl
 have z:X[1]?=some (.int .i64 x1):=by rw[I];rfl
 have D:X[2]?=some (.int .i64 O):=by rw[I];rfl
 have E:X[3]?=some (.int .i64 x3):=by rw[I];rfl
 obtain⟨H1,u,-,hg,hS⟩:=pushF H (bC X 1);have b6:H.n<=H1.low:=by rw[u,l9];exact lR
 have a1:=hK.work hS;obtain⟨rs,re,bc,c5,g,b7,b8,c4,_,_,_,b4,b5,a3,_,_⟩:=a1.row;have gb:=a1.bits;have bg:=Cp (bs:=bs) (i:=(b+x1).toNat) oM;have g1:=Jt H1 fi (b+x1) bs.length h1 oM oM;have g2:=Jt H1 ne (b+x1) bs.length h2 oM oM;have bl:(bs.map bw).length=bs.length:=sM;rw[i8 Nq rfl _ sM,mJ];simp only;by_cases e1:O=1
 .rw[cA e1];exact J11 U z D E u.symm hg e1 g b4 g1 @wrap_small trivial
 rw[bt e1];have b1:decide (O=1)=false:=kA e1;by_cases e2:O=2
 .rw[cA e2];exact J11 U z D E u.symm hg e2 g b5 g2 @wrap_small trivial
 rw[bt e2];have b2:decide (O=2)=false:=kA e2;by_cases S:O=3
 .rw[cA S];obtain⟨t1,t2⟩:=h3 S;have a8:SlF H1 F2 1 (u9 boE) (.slice ha J.length hc) J:=hh.mono (fun j hj=>hS.g j (a4 j hj)) (fun _ h=>h) iF;obtain⟨v,nb,o,cs,own,el,b0,_,rfl,b9,a2,c3,a9,a6,a5⟩:=a8.row (i:=x3.toNat) oM;have a7:el=boE v:=a5;subst a7;have W:cs[o+x3.toNat*1]?=some (.bool v):=by have:=a6 0 oM;rw[aaf]at this;exact this
  have ev:J.getD x3.toNat false=v:=by rw[ma,b0];rfl
  rw[ev,bH];cases v with
  |false=>simp(maxSteps:=20000000) -dsimp (disch:=first|omega|(simp only[rH]<;>omega)|fail) only[↓jM,rQ,Q4,sevalprocAttr,tyA,U,z,D,E,<-u,hg,S,a2,W,wrap_small]
  |true=>
   exact J16 U z D E u.symm hg S a2 W g a3 gb bg bl @Rz @wrap_small trivial
 rw[bt S];have b3:decide (O=3)=false:=kA S;rw[bH];exact J16 U z D E u.symm hg b1 b2 b3 g a3 gb bg bl @Rz @wrap_small trivial
def P0(x:Operand):isCall (.nilCheck x)=false:=rT
def Ip(u D:SoD)(z:List Bool)(b:Int)(l:List EdD):∀(n m:Nat)(bs:List Bool),(∀x∈l,0<=b+x.1/\b+x.1<bs.length)->bI bs+1<=n->n<=m->itE u D z b l m bs=itE u D z b l n bs:=by
 intro n;induction n with
 |zero=>intro m bs _ h;omega
 |succ n W=>
  intro m bs I X h2;obtain⟨E,rfl⟩:∃E,m=E+1:=⟨m-1,oM⟩
  have O:=fG u D z b l (bs,false) I;rw[itE,itE];rcases S:(V9 u D z b l (bs,false)).2 with _|_
  .rfl
  .simp only[aab];have J:=O.2 S;simp only[abM,aek]at J;exact W E _ (fun x U=>by rw[fH];exact I x U) oM oM
structure Fr1(pb:Nat)(H H':d7):Prop where
 stay:d9 pb H H'
 but:∀j,j<H.n->j≠pb->H'.g j=H.g j
 low:H'.low<=H.low
def Fr1.refl(h:Nat)(H:d7):Fr1 h H H:=⟨d9.refl _ _,fun _ _ _=>rfl,lR⟩
def Fr1.trans{A B C:d7}(h:Fr1 u A B)(k:Fr1 u B C):Fr1 u A C:=⟨h.stay.trans k.stay,fun j D z=>by rw[k.but j (oN (h.stay.n)) z,h.but j D z],abw k.low h.low⟩
def Fr1.of{H H':d7}(h:d9 H.n H H')(E:u<=H.n)(D:H'.low<=H.low):Fr1 u H H':=⟨h.wk E,fun j z _=>h.g j z,D⟩
def Fr1.put{H:d7}:Fr1 h H (H.put h B):=⟨d9.put lR,fun j _ u=>j6 (fun q=>u q.symm),by rw[A5];omega⟩
def Fo(Hs:d7)(lo K pm I:Nat)(s:StD)(ev:EvD)(fi ne:SoD)(F:Nat->Prop)(U:d7)(n:Nat)(hn:n<=1000000)(b6:xE fi n)(b9:xE ne n)(b:Int)(hb:0<=b/\b<=1000000)(c3:I<U.n)(pc:Nat)(rp:LV)(c6:U.g pc=cE rp 1)(d1:pc≠I)
  (ha:Option Addr) (hc:Nat) (W:List Bool) (F2:Nat->Prop) (a6:∀j,F2 j->j<U.n/\j≠I) (hh:SlF U F2 1 (u9 boE) (.slice ha W.length hc) W)
  (va:Option Addr) (ca:Nat) (l:List EdD) (hv:SlF U F 4 (u9 edE) (.slice va l.length ca) l) (hF:∀j,F j->j<U.n/\j≠I) (hl:l.length<=1000000) (hw:∀x∈l,0<=x.1/\b+x.1<n/\0<=x.2.1/\b+x.2.1<n/\(x.2.2.1=3->0<=x.2.2.2/\x.2.2.2<W.length)) (r:List Bool×Bool):
  ∀kk e H2,(∃(j:Nat)(bs:List Bool)(m:Bool),kk=l.length-j/\j<=l.length/\e.g 0=pT pm/\e.g 4=pT pc/\e.g 5=iV b/\e.g 6= .slice ha W.length hc/\e.g 7= .bool m/\e.g 51= .slice va l.length ca/\e.g 52=iV l.length/\e.g 53=iV j/\bs.length=n/\S4 Hs lo K pm I s ev fi ne bs F H2/\Fr1 I U H2/\V9 fi ne W b (l.drop j) (bs,m)=r)->
  u7 (LE prog l7 (.loop OD) e H2) (fun o e H2=>o= .exit 2/\e.g 0=pT pm/\e.g 4=pT pc/\e.g 5=iV b/\e.g 6= .slice ha W.length hc/\e.g 7= .bool r.2/\r.1.length=n/\S4 Hs lo K pm I s ev fi ne r.1 F H2/\Fr1 I U H2):=by
 refine i5 _ _ ?_;rintro kk e H2 ⟨j,bs,m,hk,hj,f0,f4,f5,f6,f7,u,z,a3,E,hK,a4,J⟩;rcases bb:decide ((j:Int)<l.length)with _|_
 .have b5:=dF bb;have:l.drop j=[]:=dN oM;rw[this,V9]at J;refine J9 f0 f4 f5 f6 f7 u z a3 bb ?_;exact i6 ⟨rfl,f0,f4,f5,f6,by rw[<-J];exact f7,by rw[<-J];exact E,by rw[<-J];exact hK,a4⟩
 have b5:=dT bb;have d0:=a4.stay.n;have c4:=hK.pbl;obtain⟨x,nb,o,cs,own,el,hx,hd,rfl,b3,hg,c8,S,c7,D⟩:=hv.row (i:=j) oM;have D:el=edE x:=D;obtain⟨w1,w2,w3,w4,w5⟩:=hw x (mG hx);have nt:(j:Int).toNat=j:=tN j;have gx:=(a4.but nb (hF _ b3).1 (hF _ b3).2).trans hg;have a1:el.all oC=true:=by rw[D];rfl
 have l1:el.length=4:=by rw[D];rfl
 have e0:el[0]?=some (.int .i64 x.1):=by rw[D];rfl
 have a8:ldC (some true) (some 4) 0 el=some (.agg el.toArray):=by rw[D];rfl
 obtain⟨H3,a5,n3,g3,s3⟩:=pushP H2 (bC [iV 0,iV 0,iV 0,iV 0] 1) (bC el 1);have b2:splice [iV 0,iV 0,iV 0,iV 0] 0 el=el:=y7 _ _ (by rw[l1];rfl);have K3:=hK.work s3;have X:Fr1 I U H3:=a4.trans (Fr1.of s3 oM (by rw[a5,A5,l9];omega));obtain⟨rs,re,bc,d5,gp,c0,c5,d2,_,_,_,d3,d4,a9,_,_⟩:=K3.row;have gb:=K3.bits;have bg:=Cp (bs:=bs) (i:=(b+x.1).toNat) oM;have bl:(bs.map bw).length=bs.length:=sM;have b7:SlF H3 F2 1 (u9 boE) (.slice ha W.length hc) W:=hh.mono (fun j hj=>X.but j (a6 j hj).1 (a6 j hj).2) (fun _ h=>h) iF;have O:=UN Hs lo K pm I s ev fi ne bs F H3 K3 (by rw[E];exact b6) (by rw[E];exact b9) oM b x ha hc W F2 (fun j hj=>by have:=a6 j hj;omega) b7 hb ⟨w3,oM⟩ w5;rw[<-D]at O;rw[hd,V9]at J;have h0:0<=b+x.1:=oM;have c9:b+x.1<bs.length:=oM;rcases b0:bs.getD (b+x.1).toNat false with _|_
 .have a2:bH bs (b+x.1)=false:=b0;rw[b0]at bg;rcases b1:mJ fi ne W bs b x with _|_
  .rw[b1]at O;simp only[a2,b1,aby,aaL,bF]at J;refine J26 f0 f4 f5 f6 f7 u z a3 bb gx nt S a1 l1 b2 a5.symm g3 e0 gp a9 gb bg bl a8 O @wrap_small ?_;exact d8 (kk-1) oM ⟨j+1,bs,m,oM,oM,f0,f4,f5,f6,f7,u,z,rfl,E,K3,X,J⟩
  .rw[b1]at O;simp only[a2,b1,aby,ab7,aab]at J;obtain⟨H4,a7⟩:=eY (H3.put I (.cells ((bs.map bw).set ((b+x.1).toNat*1) (.int .u8 1)) true 1));have K4:S4 Hs lo K pm I s ev fi ne (bs.set (b+x.1).toNat true) F H4:=by rw[a7,aaK];exact K3.set (b+x.1).toNat
   have b8:(b+x.1).toNat*1+1<=bs.length:=oM;have b4:Fr1 I U H4:=X.trans (by rw[a7];exact Fr1.put);refine J29 f0 f4 f5 f6 f7 u z a3 bb gx nt S a1 l1 b2 a5.symm g3 e0 gp a9 gb bg bl a8 O b8 a7.symm @P0 @wrap_small ?_;exact d8 (kk-1) oM ⟨j+1,bs.set (b+x.1).toNat true,true,oM,oM,f0,f4,f5,f6,rfl,u,z,rfl,by simp [E],K4,b4,J⟩
 .have a2:bH bs (b+x.1)=true:=b0;rw[b0]at bg;simp only[a2,abd,abi,bF]at J;refine J25 f0 f4 f5 f6 f7 u z a3 bb gx nt S a1 l1 b2 a5.symm g3 e0 gp a9 gb bg bl a8 @wrap_small ?_;exact d8 (kk-1) oM ⟨j+1,bs,m,oM,oM,f0,f4,f5,f6,f7,u,z,rfl,E,K3,X,J⟩
def EX(Hs:d7)(lo K pm U:Nat)(s:StD)(ev:EvD)(J S:SoD)(F:Nat->Prop)(W:d7)(n:Nat)(hn:n<=1000000)(a8:xE J n)(a9:xE S n)(b:Int)(hb:0<=b/\b<=1000000)(b1:U<W.n)(pc:Nat)(rp:LV)(a3:W.g pc=cE rp 1)(a5:pc≠U)
  (ha:Option Addr) (hc:Nat) (I:List Bool) (F2:Nat->Prop) (a1:∀j,F2 j->j<W.n/\j≠U) (hh:SlF W F2 1 (u9 boE) (.slice ha I.length hc) I)
  (va:Option Addr) (ca:Nat) (l:List EdD) (b0:rp[3]?=some (.slice va l.length ca)) (hv:SlF W F 4 (u9 edE) (.slice va l.length ca) l) (hF:∀j,F j->j<W.n/\j≠U) (hl:l.length<=1000000) (hw:∀x∈l,0<=x.1/\b+x.1<n/\0<=x.2.1/\b+x.2.1<n/\(x.2.2.1=3->0<=x.2.2.2/\x.2.2.2<I.length)) (r:List Bool):
  ∀kk e H2,(∃(bs:List Bool)(m:Bool),kk=(if m then bI bs+1 else 0)/\e.g 0=pT pm/\e.g 4=pT pc/\e.g 5=iV b/\e.g 6= .slice ha I.length hc/\e.g 7= .bool m/\bs.length=n/\S4 Hs lo K pm U s ev J S bs F H2/\Fr1 U W H2/\(if m then itE J S I b l (bI bs+1) bs else bs)=r)->
  u7 (LE prog l7 (.loop UF) e H2) (fun o e H2=>o= .exit 0/\r.length=n/\S4 Hs lo K pm U s ev J S r F H2/\Fr1 U W H2):=by
 refine i5 _ _ ?_;rintro kk e H2 ⟨bs,m,hk,f0,f4,f5,f6,f7,a4,hK,u,E⟩;cases m with
 |false=>
  simp only[bF]at E;refine J1 f7 ?_;exact i6 ⟨rfl,by rw[<-E];exact a4,by rw[<-E];exact hK,u⟩
 |true=>
  simp only[aab]at E hk;have b2:=u.stay.n;have a6:=u5 a3;have g2:=(u.but pc a6 a5).trans a3;refine J7 f0 f4 f5 f6 f7 g2 b0 ?_;refine j5 (F:=fun z=>u7 (inBlock 1 (inBlock 2 z)) _) (Fo Hs lo K pm U s ev J S F H2 n hn a8 a9 b hb oM pc rp g2 a5 ha hc I F2 (fun j O=>by have:=a1 j O;exact⟨oM,this.2⟩) (hh.mono (fun j O=>u.but j (a1 j O).1 (a1 j O).2) (fun _ h=>h) iF) va ca l (hv.mono (fun j O=>u.but j (hF j O).1 (hF j O).2) (fun _ h=>h) iF) (fun j O=>by have:=hF j O;exact⟨oM,this.2⟩) hl hw (V9 J S I b l (bs,false)) l.length _ _ ⟨0,bs,false,rfl,oM,f0,f4,f5,f6,rfl,rfl,rfl,rfl,a4,hK,Fr1.refl _ _,rfl⟩) ?_;rintro o e' H3 ⟨ho,g0,g4,g5,g6,g7,a2,K3,F3⟩;have X:∀x∈l,0<=b+x.1/\b+x.1<bs.length:=fun x hx=>oN (hw x hx);have D:=fG J S I b l (bs,false) X;rw[itE]at E;obtain⟨z,hz⟩:=eY (V9 J S I b l (bs,false));have a7:z.1.length=bs.length:=by rw[hz,fH]
  rw[<-hz]at g7 a2 K3 E D;simp only[abM,aek]at D;refine J1 ho ?_;obtain⟨z1,z2⟩:=z;simp only at g7 a2 K3 E D a7;refine d8 (if z2 then bI z1+1 else 0) ?_ ⟨z1,z2,rfl,g0,g4,g5,g6,g7,a2,K3,u.trans F3,?_⟩
  .cases z2 with
   |false=>simp only[bF];omega
   |true=>have:=D.2 rfl;simp only[aab];omega
  .cases z2 with
   |false=>simpa using E
   |true=>
    simp only[aab]at E ⊢;rw[<-E];have:=D.2 rfl;exact(Ip J S I b l (bI z1+1) (bI bs) z1 (fun x hx=>by rw[a7];exact X x hx) lR oM).symm
def S4.low{lo K I E:Nat}{s:StD}{e:EvD}{bs:List Bool}{F:Nat->Prop}{H:d7}(h:S4 u lo K I E s e z D bs F H)(n:Nat):S4 u lo K I E s e z D bs F ⟨H.bs,n⟩:=by
 obtain⟨⟨rs,re,J,O,S,U⟩,W,X,h6,h7,h8⟩:=h;exact⟨⟨rs,re,J,O,S.mono (fun _ _=>rfl) (fun _ h=>h) iF iF,A0 _ _ _ _ _ _ U (fun _ _=>rfl) (fun _ h=>h)⟩,W,X,h6,h7,h8⟩
def NP(E:fnL P f=some (l,z,J))(D:X f=none)(args:LV)(I:args.length<=z)(H:d7){H':d7}(h:CL P X f args H=some (v,some H')):H'.low<=H.low:=by
 rw[i8 E D args I]at h;unfold t6 at h;split at h
 .cases h
 .obtain⟨O,_,u⟩:=ZZ.1 h;unfold E7 at u;split at u
  .simp at u
  .simp only[aah,aaa]at u;rw[<-u.2];show min H.low _<=H.low;omega
 .cases h
def UJ(Hs:d7)(lo K X D:Nat)(s:StD)(W:EvD)(fi ne:SoD)(bs:List Bool)(F:Nat->Prop)(H:d7)(hK:S4 Hs lo K X D s W fi ne bs F H)(k5:lo<=H.n)(hw:WfS s bs.length)(g4:xE fi bs.length)(h0:xE ne bs.length)(f6:W.attrs.length<=1000000)(i:Nat)(p:PrD)(b:Int)(hp:s.progs[i]?=some p)(hb:s.base[i]?=some b)(h7:p.ts.length<=1000000)(g0:p.ed.length<=1000000):
  Ret (CL prog l7 105 [pT X,iV i] H) H fun v H'=>v=undef/\S4 Hs lo K X D s W fi ne (bU s W fi ne p b bs) F H'/\Fr1 D H H':=by
 have l1:(⟨H.bs,H.n⟩:d7).n=H.n:=rfl;have Kb:S4 Hs lo K X D s W fi ne bs F ⟨H.bs,H.n⟩:=hK.work (d9.start H);obtain⟨w1,w2,w3⟩:=hw.at_ i p b hp hb;have k9:=w3.st;have k1:=w3.en;have h4:=hw.nle;obtain⟨K1,a1,n1,-⟩:=pushF H (bC z5 1);have s1:d9 H.n ⟨H.bs,H.n⟩ K1:=by rw[a1];exact d9.push lR
 obtain⟨rs,re,bc,c3,g,j1,j2,e7,f9,b0,a9,_,_,e9,rk,_⟩:=Kb.row;obtain⟨pa,l3,ga,gc,xa,xc,ea,ec,ta,tc,e6,h1,h2,h3,_⟩:=E9 e7;have e4:=u5 g;have k6:=Kb.pbl;have r1:c3[1]?=some (.slice ga s.progs.length gc):=by rw[rk 1 oM,e6];rfl
 have r2:c3[2]?=some (.slice xa s.base.length xc):=by rw[rk 2 oM,e6];rfl
 have g7:i<s.progs.length:=(gS hp).1;have g6:i<s.base.length:=(gS hb).1;obtain⟨p',np,op,cp,j3,J,i0,_,rfl,f4,b8,i3,a4,k0,a6⟩:=h2.row (i:=i) g7;obtain rfl:p=p':=aal (hp.symm.trans i0);obtain⟨b',nx,ox,cx,j4,f2,h9,_,rfl,d6,a7,j0,h6,f8,f5⟩:=h3.row (i:=i) g6;obtain rfl:b=b':=aal (hb.symm.trans h9);have e1:f2=inE b:=f5;subst e1;have c7:cx[ox+i*1]?=some (.int .i64 b):=by have:=f8 0 oM;rw[aaf]at this;exact this
 have ap:=jA a6;have lp:=dP a6;obtain⟨b2,b3,l6,l8,c0,h5,k7⟩:=E3 a6;have f0:J[2]?=some (.int .i64 p.en):=by rw[c0];rfl
 have i1:J[3]?=some (.slice b2 p.ed.length b3):=by rw[c0];rfl
 have e8:ldC (some true) (some 5) 0 J=some (.agg J.toArray):=by rw[c0];rfl
 obtain⟨K2,S⟩:=eY (K1.put H.n (bC J 1));have n2:K2.n=H.n+1:=by rw[S,j9,n1]
 have s2:d9 H.n ⟨H.bs,H.n⟩ K2:=by rw[S];exact s1.trans (d9.put lR)
 have g1:=(s1.g X e4).trans g;have g2:=(s2.g X e4).trans g;have d1:=(s1.g np (Kb.lt _ f4).1).trans b8;have d2:=(s1.g nx (Kb.lt _ d6).1).trans a7;have d3:=(s2.g nx (Kb.lt _ d6).1).trans a7;have d4:K1.g H.n=cE z5 1:=by rw[a1];exact j7
 have b5:K2.g H.n=cE J 1:=by rw[S];exact i7 oM
 have f1:splice z5 0 J=J:=y7 _ _ (by rw[lp];rfl);have nt:(i:Int).toNat=i:=tN i;have k4:(i:Int)<s.progs.length:=oM;have i2:(i:Int)<s.base.length:=oM;have b1:=Kb.work s2;obtain⟨F',b6⟩:=eY (fun j=>F j\/j=D:Nat->Prop);have c4:∀j,F j->F' j:=fun j u=>by rw[b6];exact .inl u
 have b7:∀j,F j->K2.g j=(⟨H.bs,H.n⟩:d7).g j:=fun j u=>s2.g j (Kb.lt j u).1;have f7:SlF K2 F' 1 (u9 uQ) (sL D bs.length bc) bs:=by
  refine .inr ⟨D,0,bc,rfl,.inr ⟨_,true,by rw[b6];exact .inr rfl,b1.bits,by simp,fun j v u=>?_⟩⟩;show((bs.map bw).drop (0+j*1)).take 1=uQ v;have g9:=(gS u).1;rw[aaH,aaK,aav (by simpa using g9)];have:=(gS u).2;simp [uQ,this]
 obtain⟨wv,d5,H3,a2,I,U,s3⟩:=UM Hs lo K s p W bs F' K2 rs J re (sP D) bc (e7.mono b7 c4 iF iF) (a6.mono b7 c4 iF) (A0 _ _ _ _ _ _ f9 b7 c4) f7 (fun j u=>by
  rw[b6]at u;rcases u with u|u
  .have:=Kb.lt j u;omega
  .omega) b1.eq oM hw f6 h7
 have n3:=s3.n;have g8:H3.low<=K2.low:=by
  rcases d5 with _|Hx
  .have e3:K2=H3:=I;rw[e3];exact lR
  .have e3:Hx=H3:=I;rw[<-e3];exact NP To rfl _ sM _ a2
 have c6:=b1.work s3;obtain⟨wa,wc,ew⟩:=U.slice;rw[ew]at a2 U;have g3:H3.g X=cE c3 1:=(s3.g X oM).trans g2;have d0:H3.g H.n=cE J 1:=(s3.g _ oM).trans b5;have k2:0<=b+p.en:=oM;have k3:b+p.en<bs.length:=oM;have bl:(bs.map bw).length=bs.length:=sM;have e2:(b+p.en).toNat*1+1<=bs.length:=oM;obtain⟨H4,O⟩:=eY (H3.put D (.cells ((bs.map bw).set ((b+p.en).toNat*1) (.int .u8 1)) true 1));have K4:S4 Hs lo K X D s W fi ne (bs.set (b+p.en).toNat true) F H4:=by rw[O,aaK];exact c6.set (b+p.en).toNat
 have n4:H4.n=H3.n:=by rw[O,j9]
 have c9:=c6.bits;have b4:Fr1 D H3 H4:=by rw[O];exact Fr1.put
 have c8:Fr1 D ⟨H.bs,H.n⟩ H4:=((Fr1.of s2 oM (by rw[S,A5,a1,l9];omega)).trans (Fr1.of s3 oM g8)).trans b4;have f3:H4.g H.n=cE J 1:=(b4.but _ oM oM).trans d0;have l4:H4.low<=D:=by rw[O,A5];omega
 obtain⟨E,b9⟩:=eY (p.ts.map (E1 s W bs));have lhs:E.length=p.ts.length:=by rw[b9,aa7]
 rw[<-b9]at a2 U;have g5:SlF H4 (fun j=>j8 (.slice wa E.length wc) j) 1 (u9 boE) (.slice wa E.length wc) E:=(U.same fun j u=>by have:=U.lt u;exact b4.but j this.2 oM).frz fun _ h=>h;have h8:SlF H4 F 4 (u9 edE) (.slice b2 p.ed.length b3) p.ed:=h5.mono (fun j u=>c8.but j (Kb.lt j u).1 (Kb.lt j u).2) (fun _ h=>h) iF;rw[i8 Nh rfl _ sM];have a8:∀(e5:Env),e5.g 0=pT X->e5.g 4=pT H.n->e5.g 5=iV b->e5.g 6= .slice wa E.length wc->e5.g 7= .bool true->
   Ret (t6 prog [] H (inBlock 0 (LE prog l7 UF.loop e5 H4))) H fun v H'=>v=undef/\S4 Hs lo K X D s W fi ne (bU s W fi ne p b bs) F H'/\Fr1 D H H':=by
  intro e5 q0 q4 q5 q6 q7;refine j5 (F:=fun z=>Ret (t6 _ _ _ (inBlock 0 z)) _ _) (EX Hs lo K X D s W fi ne F H4 bs.length h4 g4 h0 b oM oM H.n J f3 oM wa wc E _ (fun j u=>by have:=U.lt u;omega) g5 b2 b3 p.ed i1 h8 (fun j u=>by have:=Kb.lt j u;omega) g0 (fun x hx=>by have:=w3.ed x hx;rw[lhs];omega) (bU s W fi ne p b bs) _ _ _ ⟨bs.set (b+p.en).toNat true,true,rfl,q0,q4,q5,q6,q7,by simp,K4,Fr1.refl _ _,by rw[bU,<-b9];rfl⟩) ?_;rintro o e' H5 ⟨ho,k8,K5,c5⟩;have a5:=c8.trans c5;have l5:H5.low<=D:=abw c5.low l4;refine J1 ho ?_;refine F9 (fun _ hl=>oM) ⟨rfl,?_,?_⟩
  .exact K5.low _
  .exact⟨⟨a5.stay.n,fun k q1 q2=>(by have:=a5.stay.lowAll k q1 (show k<=H.n from oM);show k<=min H.low H5.low;omega),a5.stay.g⟩,a5.but,by show min H.low H5.low<=H.low;omega⟩
 rcases d5 with _|Hx
 .have e3:K2=H3:=I;subst e3;have a3:CL prog l7 123 [.agg rs.toArray,.agg J.toArray,.agg re.toArray,sL D bs.length bc] K2=some (.slice wa E.length wc,none):=a2;refine J30 g r1 r2 nt b8 a4 a7 c7 a1.symm g1 g2 d1 d2 d4 ap lp f1 S.symm d3 b0 b5 e8 a9 e9 a3 @P0 f0 c9 (aI bl e2) (aI O.symm @wrap_small) ?_;exact a8 _ rfl rfl rfl rfl rfl
 .have e3:Hx=H3:=I;subst e3;have a3:CL prog l7 123 [.agg rs.toArray,.agg J.toArray,.agg re.toArray,sL D bs.length bc] K2=some (.slice wa E.length wc,some Hx):=a2;refine J30 g r1 r2 nt b8 a4 a7 c7 a1.symm g1 g2 d1 d2 d4 ap lp f1 S.symm d3 b0 b5 e8 a9 e9 a3 @P0 (aI g3 d0) (aI f0 c9) (aI bl e2) (aI O.symm @wrap_small) ?_;exact a8 _ rfl rfl rfl rfl rfl
def tu(H:d7)(u:Nat)(bs:List Bool)(c:Nat)(z:H.g u=cE (bs.map bw) 1):aU prog H 177 9 (sL u bs.length c)=some (.string (mW bs),none):=by
 have key:∀l:List Bool,(l.map bw).mapM eu=some (l.map fun b=>if b then(1:UInt8) else 0):=by
  intro l;induction l with
  |nil=>rfl
  |cons b l E=>
   rw[aaQ,ab1,E];cases b<;>rfl
 have D:A6 H 1 (sL u bs.length c)=some (bs.map bw):=by
  simp only[A6];by_cases h:bs.length=0
  .rw[cA h];have:bs=[]:=aag.1 h;rw[this];rfl
  .rw[bt h,z];simp;exact A2 sM
 simp only[aU,Ld.2.2.2.2.2.2,ty9.2.2.2.2.2.2,ty5.2.2.2.2.2.2,D,aas,key];rfl
def FH(Hs:d7)(lo K U S:Nat)(s:StD)(u:EvD)(D I:SoD)(F:Nat->Prop)(H1:d7)(n:Nat)(X:WfS s n)(b3:lo<=H1.n)(a6:xE D n)(a9:xE I n)(a1:u.attrs.length<=1000000)(b0:∀p∈s.progs,p.ts.length<=1000000/\p.ed.length<=1000000) (r:List Bool) (p5 p8:aet):
  ∀kk e H2,(∃(i:Nat)(bs:List Bool),kk=s.progs.length-i/\i<=s.progs.length/\e.g 5=p5/\e.g 8=p8/\e.g 9=pT U/\e.g 22=iV s.progs.length/\e.g 23=iV i/\bs.length=n/\S4 Hs lo K U S s u D I bs F H2/\Fr1 S H1 H2/\Z7 s u D I ((s.progs.zip s.base).drop i) bs=r)->
  u7 (LE prog l7 (.loop YO) e H2) (fun o e H2=>o= .exit 0/\e.g 5=p5/\e.g 8=p8/\e.g 9=pT U/\r.length=n/\S4 Hs lo K U S s u D I r F H2/\Fr1 S H1 H2):=by
 refine i5 _ _ ?_;rintro kk e H2 ⟨i,bs,hk,hi,f5,f8,f9,z,J,h,hK,E,O⟩;rcases b:decide ((i:Int)<s.progs.length)with _|_
 .have a2:=dF b;have:(s.progs.zip s.base).drop i=[]:=dN (by rw[acD];omega);rw[this,Z7]at O;refine J3 z J b ?_;exact i6 ⟨rfl,f5,f8,f9,by rw[<-O];exact h,by rw[<-O];exact hK,E⟩
 have a2:=dT b;have b1:=X.l1;have b2:=X.l2;obtain⟨p,hp,a5⟩:=T4 (l:=s.progs) (i:=i) oM;obtain⟨W,a3,a4⟩:=T4 (l:=s.base) (i:=i) oM;have hz:(s.progs.zip s.base).drop i=(p,W)::(s.progs.zip s.base).drop (i+1):=by
  rw[jo,a5,a4,ac2,jo]
 rw[hz,Z7]at O;have b4:=E.stay.n;obtain⟨z1,z2⟩:=b0 p (mG hp);obtain⟨v,h3,H3,hc,a7,rfl,K3,F3⟩:=UJ Hs lo K U S s u D I bs F H2 hK oM (by rw[h];exact X) (by rw[h];exact a6) (by rw[h];exact a9) a1 i p W hp a3 z1 z2;have a8:(bU s u D I p W bs).length=n:=by rw[bU,vA];simp [h]
 have b5:=X.l0;refine J9 f5 f8 f9 z J b hc a7 @wrap_small ?_;exact d8 (kk-1) oM ⟨i+1,bU s u D I p W bs,oM,oM,f5,f8,f9,z,rfl,a8,K3,E.trans F3,O⟩
abbrev z20:LV:=[nS,nS,nS,iV 0,iV 0,iV 0,nS,nS,iV 0,.string eB,.string eB,nS,.string eB,.bool false,.bool false,.string eB,.bool false,.bool false,.string eB,nS]
def tT(Hs:d7)(lo K:Nat)(s:StD)(U:EvD)(fi ne:SoD)(F:Nat->Prop)(H:d7)(E S:LV)(hs:StF H F (QR Hs lo K false) (QR Hs lo K true) E s)(he:EvF H F S U)(hF:∀j,F j->j<H.n) (e4:∀j,j<lo->H.g j=Hs.g j) (h4:lo<=H.n) (n:Nat) (hn:(n:Int)=A3 s.progs) (hw:WfS s n) (e5:xE fi n) (e7:xE ne n)
  (d5:U.attrs.length<=1000000) (a9:∀p∈s.progs,p.ts.length<=1000000/\p.ed.length<=1000000/\0<=p.st/\p.st<=1000000):
  CL prog l7 70 [.agg E.toArray,.agg S.toArray,.agg (soE fi).toArray,.agg (soE ne).toArray] H=some (.agg (soE (L8 s U fi ne)).toArray,none):=by
 obtain⟨pa,pc,ga,gc,xa,xc,ea,ec,ta,tc,a2,_⟩:=E9 hs;obtain⟨av,X,d6⟩:=id he;obtain⟨g9,h0,rfl⟩:=d6.slice;have b6:E.all oC=true:=by rw[a2];rfl
 have ae:S.all oC=true:=by rw[X];rfl
 have ls:E.length=8:=by rw[a2];rfl
 have le:S.length=5:=by rw[X];rfl
 have f7:ldC (some true) (some 8) 0 E=some (.agg E.toArray):=by rw[a2];rfl
 have f4:ldC (some true) (some 5) 0 S=some (.agg S.toArray):=by rw[X];rfl
 have g0:S[0]?=some (.int .i64 U.kind):=by rw[X];rfl
 have g6:E[1]?=some (.slice ga s.progs.length gc):=by rw[a2];rfl
 have h5:=hw.nle;have h1:=hw.l0;have h2:=hw.l1;obtain⟨f1,f2,f3⟩:=fi;obtain⟨g1,g2,g3⟩:=ne;obtain⟨fe,I⟩:=eY (soE (f1,f2,f3));obtain⟨ge,J⟩:=eY (soE (g1,g2,g3));rw[<-I,<-J];have af:fe.all oC=true:=by rw[I];rfl
 have ag:ge.all oC=true:=by rw[J];rfl
 have lf:fe.length=3:=by rw[I];rfl
 have lg:ge.length=3:=by rw[J];rfl
 have f5:ldC (some true) (some 3) 0 fe=some (.agg fe.toArray):=by rw[I];rfl
 have f6:ldC (some true) (some 3) 0 ge=some (.agg ge.toArray):=by rw[J];rfl
 obtain⟨z3,b3⟩:=eY ([.bool false,.bool false,.string eB]:LV);obtain⟨u,D⟩:=eY (((((d7.push ⟨H.bs,H.n⟩ (bC E 1)).push (bC S 1)).push (bC fe 1)).push (bC ge 1)).push (bC z3 1));have O:(d7.push ⟨H.bs,H.n⟩ (bC E 1)).n=H.n+1:=by rw[i4];rfl
 have n1:u.n=H.n+5:=by rw[D,i4,i4,i4,i4,O]
 have s1:d9 H.n H u:=by rw[D];exact((((d9.first H _).trans (d9.push oM)).trans (d9.push (by rw[i4];omega))).trans (d9.push (by rw[i4,i4];omega))).trans (d9.push (by rw[i4,i4,i4];omega))
 have a6:u.g H.n=cE E 1:=by
  rw[D,i9 (by simp only[i4,O];omega),i9 (by simp only[i4,O];omega),i9 (by simp only[i4,O];omega),i9 oM];exact j7
 have a7:u.g (H.n+1)=cE S 1:=by
  rw[D,i9 (by simp only[i4,O];omega),i9 (by simp only[i4,O];omega),i9 (by simp only[i4,O];omega)];exact y9 oM
 have b0:u.g (H.n+2)=cE fe 1:=by
  rw[D,i9 (by simp only[i4,O];omega),i9 (by simp only[i4,O];omega)];exact y9 (by simp only[i4,O];omega)
 have b1:u.g (H.n+3)=cE ge 1:=by
  rw[D,i9 (by simp only[i4,O];omega)];exact y9 (by simp only[i4,O];omega)
 have b7:u.g (H.n+4)=cE z3 1:=by
  rw[D];exact y9 (by simp only[i4,O];omega)
 have c6:H.n<=u.low:=by rw[D];simp only[l9];exact lR
 have e6:∀j,F j->u.g j=H.g j:=fun j hj=>s1.g j (hF j hj);have c4:=UI u F _ _ E s (fun j hj=>by have:=hF j hj;omega) (hs.mono e6 (fun _ h=>h) iF iF) oM (fun p hp=>⟨(a9 p hp).2.2.1,(a9 p hp).2.2.2⟩);rw[<-hn]at c4;obtain⟨H2,a8,-,-,a3⟩:=pushE u (.cells ((List.replicate n false).map bw) true 1);have n2:H2.n=H.n+6:=by rw[a8,i4,n1]
 have c7:P9 prog u 177 (.int .i64 n) (.int .i64 n)=some (sL u.n n (n+1),H2):=by
  have e1:(List.replicate n [Value.int .u8 0]).flatten=(List.replicate n false).map bw:=by
   rw[acr,adE];rfl
  simp only[P9,Ld.2.2.2.2.2.1,ty5.2.2.1,ty5.2.1,aay,e1];rw[cA ⟨by decide,oM,abG _,oM,oM⟩,a8];rfl
 have b8:=(a3.g _ oM).trans a6;have b9:=(a3.g _ oM).trans a7;have c0:=(a3.g _ oM).trans b0;have c3:=(a3.g _ oM).trans b1;obtain⟨b4,a1⟩:=eY (E++(S++(fe++(ge++[sL u.n n (n+1)]))));obtain⟨rA,hA⟩:=eY (splice z20 0 E);obtain⟨rB,hB⟩:=eY (splice rA 8 S);obtain⟨rC,hC⟩:=eY (splice rB 13 fe);obtain⟨rD,hD⟩:=eY (splice rC 16 ge);have lA:rA.length=20:=by rw[hA,D2];rfl
 have lB:rB.length=20:=by rw[hB,D2];exact lA
 have lC:rC.length=20:=by rw[hC,D2];exact lB
 have lD:rD.length=20:=by rw[hD,D2];exact lC
 have eE:rD.set 19 (sL u.n n (n+1))=b4:=by rw[hD,hC,hB,hA,a1,a2,X,I,J];rfl
 have b5:b4.all oC=true:=by rw[a1];simp only[abN,b6,ae,af,ag];rfl
 obtain⟨H3,W,-,d4,-⟩:=pushE H2 (bC b4 1);have n3:H3.n=H.n+7:=by rw[W,i4,n2]
 have a4:d9 u.n u H3:=by rw[W];exact a3.trans (d9.push oM)
 have c9:d9 H.n H H3:=s1.trans (a4.wk oM);have gb:H3.g u.n=some (.cells ((List.replicate n false).map bw) true 1):=by rw[W,i9 oM,a8];exact j7
 have c5:∀j,F j->H3.g j=H.g j:=fun j hj=>c9.g j (hF j hj);have K3:S4 Hs lo K H2.n u.n s U (f1,f2,f3) (g1,g2,g3) (List.replicate n false) F H3:=⟨⟨E,S,n+1,by rw[<-I,<-J,abI,<-a1];exact d4,hs.mono c5 (fun _ h=>h) iF iF,A0 _ _ _ _ _ _ he c5 (fun _ h=>h)⟩,gb,fun j hj=>by have:=hF j hj;omega,fun j hj=>by rw[c9.g j oM];exact e4 j hj,oM,oM⟩
 have d1:=(a4.g _ oM).trans a6;have e8:(A3 s.progs).toNat=n:=oM;rw[i8 Vy rfl _ sM,L8,e8];refine J30 b6 ae af ag ls le lf lg b3.symm D.symm a6 a7 b0 b1 f7 f4 f5 f6 c4 c7 b8 b9 c0 (aI c3 hA.symm) (aI lA hB.symm) (aI lB hC.symm) (aI lC hD.symm) (aI lD eE) (aI b5 W.symm) (aI d1 g6) ?_;refine j5 (F:=fun z=>t6 _ _ _ (u6 (inBlock 0 z) _)=_) (FH Hs lo K H2.n u.n s U (f1,f2,f3) (g1,g2,g3) F H3 n hw oM e5 e7 d5 (fun p hp=>⟨(a9 p hp).1,(a9 p hp).2.1⟩) (Z7 s U (f1,f2,f3) (g1,g2,g3) (s.progs.zip s.base) (List.replicate n false)) (pT (H.n+1)) (pT (H.n+4)) s.progs.length _ _ ⟨0,List.replicate n false,rfl,oM,rfl,rfl,rfl,rfl,rfl,abI ..,K3,Fr1.refl _ _,rfl⟩) ?_;rintro o e' H4 ⟨ho,k5,k8,k9,e9,K4,a5⟩;obtain⟨bz,e2⟩:=eY (Z7 s U (f1,f2,f3) (g1,g2,g3) (s.progs.zip s.base) (List.replicate n false));rw[<-e2]at e9 K4 ⊢;have n4:=a5.stay.n;obtain⟨h7,h6,d0,g8,g4,f0,f8,_,_,_,_,_,_,c8,_,_⟩:=K4.row;have e3:=tu H4 u.n bz d0 K4.bits;have d2:H4.g (H.n+1)=cE S 1:=(a5.but _ oM oM).trans ((a4.g _ oM).trans a7);have d3:H4.g (H.n+4)=cE z3 1:=(a5.but _ oM oM).trans ((a4.g _ oM).trans b7);have g7:splice z3 0 [.bool true,.bool (decide (U.kind=2)),.string (mW bz)]=[.bool true,.bool (decide (U.kind=2)),.string (mW bz)]:=by rw[b3];rfl
 have f9:z3.length=3:=by rw[b3];rfl
 obtain⟨H5,b2⟩:=eY (H4.put (H.n+4) (bC [.bool true,.bool (decide (U.kind=2)),.string (mW bz)] 1));have g5:H5.g (H.n+4)=cE [.bool true,.bool (decide (U.kind=2)),.string (mW bz)] 1:=by rw[b2];exact i7 oM
 have h3:H.n<=H5.low:=by
  rw[b2,A5];have a:=(a4.wk (show H.n<=u.n from oM)).low c6;have b:=(a5.stay.wk (show H.n<=u.n from oM)).low a;omega
 clear a6 a7 b0 b1 b7 b8 b9 c0 c3 hA hB hC hD lA lB lC lD eE c7 D a8 W;exact J15 ho k5 k8 k9 d2 g0 g4 c8 e3 d3 f9 g7 b2.symm g5 @P0 trivial
abbrev boV(b:Bool):aet:= .bool b
def iY(hs:List Bool)(x:EdD):Bool:=decide (x.2.2.1=0)||(decide (x.2.2.1=3)&&hs.getD x.2.2.2.toNat false)
def KM{bs:List Bool}(h:i<bs.length):(bs.map boV)[i*1]?=some (.bool (bs.getD i false)):=by
 rw[aaK,aaS,yv h,ma,yv h];rfl
structure zl(Hs:d7)(lo K:Nat)(s:StD)(e:EvD)(bs:List Bool)(F:Nat->Prop)(H:d7)(rs re:LV)(ba:Option Addr)(bc:Nat):Prop where
 st:StF H F (QR Hs lo K false) (QR Hs lo K true) rs s
 ev:EvF H F re e
 bi:SlF H F 1 (u9 uQ) (.slice ba bs.length bc) bs
 lt:∀j,F j->j<H.n
 eq:∀j,j<lo->H.g j=Hs.g j
 lo:lo<=H.n
def zl.work{lo K:Nat}{s:StD}{e:EvD}{bs:List Bool}{F:Nat->Prop}{H H':d7}(h:zl E lo K s e bs F H S O I J)(z:d9 H.n H H'):zl E lo K s e bs F H' S O I J:=by
 have W:=z.n;have D:∀j,F j->H'.g j=H.g j:=fun j u=>z.g j (h.lt j u);have U:=h.lo;exact⟨h.st.mono D (fun _ h=>h) iF iF,A0 _ _ _ _ _ _ h.ev D (fun _ h=>h),h.bi.mono D (fun _ h=>h) iF,fun j u=>by have:=h.lt j u;omega,fun j u=>by rw[z.g j oM];exact h.eq j u,oM⟩
def qR(fi ne:SoD)(b:Int)(x:EdD):Bool:=(decide (x.2.2.1=1)&&jQ fi (b+x.2.1))||(decide (x.2.2.1=2)&&jQ ne (b+x.2.1))
structure Fr2(pb:Nat)(H H':d7):Prop where
 stay:d9 pb H H'
 but:∀j,j<H.n->j≠pb->H'.g j=H.g j
def Fr2.refl(h:Nat)(H:d7):Fr2 h H H:=⟨d9.refl _ _,fun _ _ _=>rfl⟩
def Fr2.trans{A B C:d7}(h:Fr2 u A B)(k:Fr2 u B C):Fr2 u A C:=⟨h.stay.trans k.stay,fun j D z=>by rw[k.but j (oN (h.stay.n)) z,h.but j D z]⟩
def Fr2.of{H H':d7}(h:d9 H.n H H')(D:u<=H.n):Fr2 u H H':=⟨h.wk D,fun j z _=>h.g j z⟩
def Fr2.put{H:d7}:Fr2 h H (H.put h B):=⟨d9.put lR,fun j _ u=>j6 (fun q=>u q.symm)⟩
inductive oq(fi ne:SoD)(hs:List Bool)(p:PrD)(b:Int):Nat->Prop
 |en:oq fi ne hs p b p.en.toNat
 |out (x:EdD) (hx:x∈p.ed) (h:qR fi ne b x=true):oq fi ne hs p b x.1.toNat
 |mv (x:EdD) (hx:x∈p.ed) (h:iY hs x=true) (k:oq fi ne hs p b x.2.1.toNat):oq fi ne hs p b x.1.toNat
inductive Rch(hs:List Bool)(p:PrD)(q:Nat):Nat->Prop
 |refl:Rch hs p q q
 |step (x:EdD) (hx:x∈p.ed) (h:iY hs x=true) (k:Rch hs p q x.1.toNat):Rch hs p q x.2.1.toNat
def Rch.lead{fi ne:SoD}{p:PrD}{b:Int}(h:Rch hs p q z):oq fi ne hs p b z->oq fi ne hs p b q:=by
 induction h with
 |refl=>exact id
 |step x u h k D=>exact fun l=>D (.mv x u h l)
def X5(c:List Bool)(i j:Nat)(u:i<c.length):(c.set i true).getD j false=(decide (i=j)||c.getD j false):=by
 simp only[ma,abb];by_cases h:i=j
 .subst h;simp [u]
 .simp [h]
def KT(c:List Bool):bI c<=c.length:=aef _ _
structure py(fi ne:SoD)(hs:List Bool)(p:PrD)(b:Int)(bs0 bs:List Bool):Prop where
 len:bs.length=bs0.length
 up:∀k,bs0.getD k false=true->bs.getD k false=true
 sound:∀k,bs.getD k false=true->bs0.getD k false=true\/∃q:Nat,(k:Int)=b+q/\(q:Int)<p.st/\oq fi ne hs p b q
 en:bs.getD (b+p.en).toNat false=true
structure zk(p:PrD)(b:Int)(bs0:List Bool):Prop where
 b0:0<=b
 st:b+p.st<=bs0.length
 sa:0<=p.st
 en:0<=p.en/\p.en<p.st
 ed:∀x∈p.ed,0<=x.1/\x.1<p.st/\0<=x.2.1/\x.2.1<p.st
 kd:∀x∈p.ed,x.2.2.1=0\/x.2.2.1=1\/x.2.2.1=2\/x.2.2.1=3
 zero:∀k:Nat,b<=k->bs0.getD k false=false
section
variable{fi ne:SoD}{hs:List Bool}{p:PrD}{b:Int}{bs0:List Bool}
def py.lead(u:zk p b bs0){bs:List Bool}(h:py fi ne hs p b bs0 bs)(E:0<=t)(z:bH bs (b+t)=true):oq fi ne hs p b t.toNat:=by
 have I:=u.b0;rcases h.sound _ z with k|⟨q,J,O,D⟩
 .rw[u.zero _ oM]at k;cases k
 .have:q=t.toNat:=oM;rw[<-this];exact D
def py.set(D:zk p b bs0){bs:List Bool}(h:py fi ne hs p b bs0 bs)(I:x∈p.ed)(u:mJ fi ne hs bs b x=true):py fi ne hs p b bs0 (bs.set (b+x.1).toNat true):=by
 have hb:=D.b0;have a1:=D.st;obtain⟨e1,e2,W,e4⟩:=D.ed x I;have X:=h.len;have z:(b+x.1).toNat<bs.length:=oM;have J:oq fi ne hs p b x.1.toNat:=by
  rw[mJ]at u;by_cases O:x.2.2.1=1
  .rw[cA O]at u;exact .out x I (by rw[qR,u,yo O];rfl)
  rw[bt O]at u;by_cases S:x.2.2.1=2
  .rw[cA S]at u;exact .out x I (by rw[qR,u,yo S,aaL,acq])
  rw[bt S]at u;by_cases U:x.2.2.1=3
  .rw[cA U,gk]at u;exact .mv x I (by rw[iY,u.1,yo U,aaL,acq]) (h.lead D W u.2)
  .rw[bt U]at u;have k0:x.2.2.1=0:=oN (D.kd x I);exact .mv x I (by rw[iY,yo k0,abR]) (h.lead D W u)
 refine⟨by rw[aaZ];exact h.len,fun k E=>by rw[X5 _ _ _ z,h.up k E,acq],fun k E=>?_,by rw[X5 _ _ _ z,h.en,acq]⟩;rw[X5 _ _ _ z,aa4,xo]at E;rcases E with rfl|E
 .exact .inr ⟨x.1.toNat,oM,oM,J⟩
 .exact h.sound k E
end
def mA(hs:List Bool):List EdD->List Bool×Bool->List Bool×Bool
 |[],z=>z
 |x::l,z=>mA hs l (if iY hs x&&z.1.getD x.2.1.toNat false&& !z.1.getD x.1.toNat false then(z.1.set x.1.toNat true,true) else z)
def itA(hs:List Bool)(l:List EdD):Nat->List Bool->List Bool
 |0,c=>c
 |n+1,c=>if(mA hs l (c,false)).2 then itA hs l n (mA hs l (c,false)).1 else(mA hs l (c,false)).1
def Ox(hs:List Bool)(l:List EdD)(good:List Bool):List Bool:=itA hs l (good.length+1) good
def rM(hs:List Bool):∀(l:List EdD)(z:List Bool×Bool),(mA hs l z).1.length=z.1.length
 |[],z=>rfl
 |x::l,z=>by
  rw[mA,rM hs l];split<;>simp
def Sc(hs:List Bool)(l:List EdD):∀(n:Nat)(c:List Bool),(itA hs l n c).length=c.length
 |0,c=>rfl
 |n+1,c=>by
  rw[itA];split
  .rw[Sc hs l n,rM]
  .rw[rM]
def OU(hs:List Bool)(l:List EdD)(good:List Bool):(Ox hs l good).length=good.length:=Sc hs l _ _
def xk(hs:List Bool):∀(l:List EdD)(z:List Bool×Bool),(∀x∈l,x.1.toNat<z.1.length)->bI (mA hs l z).1<=bI z.1/\((mA hs l z).2=true->z.2=true\/bI (mA hs l z).1<bI z.1)
 |[],z,_=>⟨lR,fun h=> .inl h⟩
 |x::l,z,hl=>by
  rw[mA];split
  next E=>simp only[gk,abo]at E;have I:=pP z.1 x.1.toNat (hl x sM) E.2;obtain⟨D,J⟩:=xk hs l (z.1.set x.1.toNat true,true) (fun y u=>by simpa using hl y (by simp [u]));exact⟨by simp only at D;omega,fun _=> .inr (by simp only at D;omega)⟩
  .exact xk hs l z (fun y u=>hl y (by simp [u]))
section
variable{hs:List Bool}{p:PrD}{good:List Bool}
end
abbrev MQ:aes:=⟨#[48,49,50,51,52,53,54,55,56,57,97,98,99,100,101,102,103,104,105,106,107,108,109,110,111,112,113,114,115,116,117,118,119,120,121,122]⟩
abbrev MR:aes:=⟨#[48,48,48,49,48,50,48,51,48,52,48,53,48,54,48,55,48,56,48,57,49,48,49,49,49,50,49,51,49,52,49,53,49,54,49,55,49,56,49,57,50,48,50,49,50,50,50,51,50,52,50,53,50,54,50,55,50,56,50,57,51,48,51,49,51,50,51,51,51,52,51,53,51,54,51,55,51,56,51,57,52,48,52,49,52,50,52,51,52,52,52,53,52,54,52,55,52,56,52,57,53,48,53,49,53,50,53,51,53,52,53,53,53,54,53,55,53,56,53,57,54,48,54,49,54,50,54,51,54,52,54,53,54,54,54,55,54,56,54,57,55,48,55,49,55,50,55,51,55,52,55,53,55,54,55,55,55,56,55,57,56,48,56,49,56,50,56,51,56,52,56,53,56,54,56,55,56,56,56,57,57,48,57,49,57,50,57,51,57,52,57,53,57,54,57,55,57,56,57,57]⟩
def De:((List.range 10).all fun n=>decide ((MQ.extract n (n+1)).data.toList=(dg1 n).data.toList))=true/\((List.range 100).all fun n=>decide ((MR.extract (n*2) (n*2+2)).data.toList=(dg1 (n / 10)).data.toList++(dg1 (n % 10)).data.toList))=true:=⟨kR,kR⟩
def uO{a b:aes}(h:a.data.toList=b.data.toList):a=b:=by
 obtain⟨a⟩:=a;obtain⟨b⟩:=b
 congr 1
 exact aaC.1 h
def MS(n:Nat)(h:n<10):MQ.extract n (n+1)=dg n:=by
 have:=aaB.1 De.1 n (aaz.2 h);rw[dg,ab0 h];exact uO (dT this)
def MT(n:Nat)(u:10<=n)(h:n<100):MR.extract (n*2) (n*2+2)=dg n:=by
 have:=aaB.1 De.2 n (aaz.2 h);rw[dg,ac1 oM,dg,ab0 oM,dg,ab0 oM];refine uO ((dT this).trans ?_);rw[Y9]
def QV(n:Nat)(h:n<100)(H:d7):CL prog l7 168 [iV n] H=some (.string (dg n),none):=by
 have O:n<10->∀H,L5 prog H 9 (.string MQ) (some (.int .i64 n)) (some (.int .i64 ((n:Int)+1))) none=some (.string (dg n)):=fun u H=>by
  have p1:(0:Int)<=n:=oM;have p2:(0:Int)<=(n:Int)+1:=oM;have E:((n:Int)+1).toNat=n+1:=oM;have J:n<=n+1/\n+1<=MQ.size:=⟨oM,by show n+1<=36;omega⟩
  simp only[L5,ty9.2.2.2.2.2.2,bnd,cA p1,cA p2,aay,E,cA J,MS n u]
 have S:10<=n->∀H,L5 prog H 9 (.string MR) (some (.int .i64 ((n:Int)*2))) (some (.int .i64 ((n:Int)*2+2))) none=some (.string (dg n)):=fun u H=>by
  have p1:(0:Int)<=(n:Int)*2:=oM;have p2:(0:Int)<=(n:Int)*2+2:=oM;have E:((n:Int)*2).toNat=n*2:=oM;have I:((n:Int)*2+2).toNat=n*2+2:=oM;have J:n*2<=n*2+2/\n*2+2<=MR.size:=⟨oM,by show n*2+2<=200;omega⟩
  simp only[L5,ty9.2.2.2.2.2.2,bnd,cA p1,cA p2,E,I,cA J,MT n u h]
 rw[i8 Zj rfl _ sM];rcases b:decide ((n:Int)<10)with _|_
 .have U:=dF b;have D:=S oM;exact J3 b D @wrap_small trivial
 .have U:=dT b;have z:=O oM;exact J3 b z @wrap_small trivial
def UK(n:Nat)(h:n<100)(H:d7):CL prog l7 98 [iV n] H=some (.string (dg n),none):=by
 have D:=fun H=>QV n h H;have z:∀H,CL prog l7 155 [iV n,iV 10] H=some (.string (dg n),none):=fun H=>by
  have E:decide ((0:Int)<=n)=true:=yo oM;have I:decide ((n:Int)<100)=true:=yo oM;rw[i8 TH rfl _ sM];exact J3 E I D trivial
 have u:∀H,CL prog l7 130 [iV n] H=some (.string (dg n),none):=fun H=>by
  rw[i8 Nn rfl _ sM];exact J1 z trivial
 rw[i8 Px rfl _ sM];exact J1 u trivial
def tM(l:List aes)(s:aes):(l.any fun y=>cN s y)=X2 l s:=by
 unfold X2;congr 1;funext y;exact aaR.2 ⟨Eq.symm,Eq.symm⟩
def frN(l:List aes)(stem:aes):Nat:=eD (fun n=>X2 l (stem++dg n)) (l.length+1) 0
def HV(l:List aes)(u:aes):X2 l (u++dg (frN l u))=false/\frN l u<l.length+1:=by
 obtain⟨m,D,z⟩:=vn (fun n=>u++dg n) (fun i j h=>vh (uN h)) l (fun n=>X2 l (u++dg n)) (fun i h=>qn h);have:=eS (fun n=>X2 l (u++dg n)) (l.length+1) 0 ⟨m,oM,oM,z⟩;exact⟨this.1,by have:=this.2;rw[frN];omega⟩
def frS(l:List aes)(stem:aes)(ah:List aes):aes:=match ah.find? (fun s=> !X2 l s)with|some s=>s|none=>stem++dg (frN l stem)
def xQ(H0:d7)(lo:Nat)(X:lo<=H0.n)(v v1:aet)(l:List aes)(hv:SlI H0 lo 1 (u9 stE) v l)(hn:l.length<=1000)(va:Option Addr)(ca:Nat)(h:List aes)(hw:SlI H0 H0.n 1 (u9 stE) (.slice va h.length ca) h)(a4:h.length<=1000):
  ∀kk e H2,(∃i:Nat,kk=h.length-i/\i<=h.length/\e.g 0=v/\e.g 1=v1/\e.g 11= .slice va h.length ca/\e.g 12=iV h.length/\e.g 13=iV i/\H2=H0/\(h.drop i).find? (fun s=> !X2 l s)=h.find? (fun s=> !X2 l s))->
  u7 (LE prog l7 (.loop YJ) e H2) (fun o e H2=>H2=H0/\e.g 0=v/\e.g 1=v1/\((o= .exit 0/\h.find? (fun s=> !X2 l s)=none)\/(o= .ret/\∃s,h.find? (fun s=> !X2 l s)=some s/\e.g 6= .string s))):=by
 refine i5 _ _ ?_;rintro kk e H2 ⟨i,hk,hi,I,J,u,z,D,hH,E⟩;subst hH;rcases b:decide ((i:Int)<h.length)with _|_
 .have W:=dF b;have:h.drop i=[]:=dN oM;rw[this,ael]at E;refine J6 I J u z D b ?_;exact i6 ⟨rfl,I,J,.inl ⟨rfl,E.symm⟩⟩
 have W:=dT b;obtain⟨y,nb,o,cs,own,el,hx,hd,rfl,a3,hg,a2,a1,hc,rfl⟩:=hw.row (i:=i) oM;have nt:(i:Int).toNat=i:=tN i;have U:=hc 0 oM;rw[aaf]at U;have O:=Ig H2 lo v l y X hv oM;rw[tM]at O;rw[hd,acE]at E;rcases S:X2 l y with _|_
 .simp only[S,aby]at E;rw[S]at O;refine J10 I J u z D b hg nt U O ?_;exact w9 ⟨rfl,I,J,.inr ⟨rfl,y,E.symm,rfl⟩⟩
 .simp only[S,abd]at E;rw[S]at O;refine J11 I J u z D b hg nt U O @wrap_small ?_;exact d8 (kk-1) oM ⟨i+1,oM,oM,I,J,u,z,rfl,rfl,E⟩
def Aq(H0:d7)(lo:Nat)(O:lo<=H0.n)(v:aet)(l:List aes)(h:aes)(hv:SlI H0 lo 1 (u9 stE) v l)(hn:l.length<99)(hs:h.size<=1000):
  ∀S e H2,(∃n:Nat,S=frN l h+1-n/\n<=frN l h/\e.g 0=v/\e.g 1= .string h/\e.g 9=iV n/\H2=H0)->
  u7 (LE prog l7 (.loop YK) e H2) (fun o e H2=>H2=H0/\o= .ret/\e.g 6= .string (h++dg (frN l h))):=by
 refine i5 _ _ ?_;rintro S e H2 ⟨n,hk,hi,E,I,U,X⟩;subst X;obtain⟨hf,a2⟩:=HV l h;have J:=(dQ (fun n=>X2 l (h++dg n)) (l.length+1) 0).2;have W:=fun H=>UK n oM H;have a1:=oS n;have z:=dq (P:=prog) 9 h (dg n) oM;have u:=Ig H2 lo v l (h++dg n) O hv oM;rw[tM]at u;by_cases D:n=frN l h
 .rw[D,hf,<-D]at u;refine J6 E I U W z u ?_;exact w9 ⟨rfl,rfl,by rw[<-D];rfl⟩
 .have hq:X2 l (h++dg n)=true:=J n oM (by rw[frN]at D hi;omega);rw[hq]at u;refine J7 E I U W z u @wrap_small ?_;exact d8 (S-1) oM ⟨n+1,oM,oM,E,I,rfl,rfl⟩
def fresh(H:d7)(lo:Nat)(v w:aet)(l:List aes)(h:aes)(u:List aes)(D:lo<=H.n)(X:SlI H lo 1 (u9 stE) v l)(hw:SlI H H.n 1 (u9 stE) w u)(hn:l.length<99)(hs:h.size<=1000)(I:u.length<=1000):
  CL prog l7 61 [v,.string h,w] H=some (.string (frS l h u),none):=by
 obtain⟨va,ca,rfl⟩:=hw.slice;rw[i8 Vt rfl _ sM];refine J1 bq ?_;refine j5 (F:=fun z=>t6 _ _ _ (u6 (inBlock 0 z) _)=_) (xQ ⟨H.bs,H.n⟩ lo D v (.string h) l (X.mono (fun _ _=>rfl) lR iF) oM va ca u (hw.mono (fun _ _=>rfl) lR iF) I u.length _ _ ⟨0,rfl,oM,rfl,rfl,rfl,rfl,rfl,rfl,rfl⟩) ?_;rintro o e' H' ⟨rfl,U,W,⟨J,S⟩|⟨J,s,S,E⟩⟩
 .refine J3 J U W ?_;refine j5 (F:=fun z=>t6 _ _ _ (inBlock 2 z)=_) (Aq ⟨H.bs,H.n⟩ lo D v l h (X.mono (fun _ _=>rfl) lR iF) hn hs (frN l h+1) _ _ ⟨0,rfl,oM,U,W,rfl,rfl⟩) ?_;rintro o e2 H2 ⟨rfl,O,E⟩;simp(maxSteps:=20000000) -dsimp (disch:=first|omega|(simp only[rH]<;>omega)|fail) only[↓jM,rQ,Q4,sevalprocAttr,tyA,O,E,frS,S]
 .simp(maxSteps:=20000000) -dsimp (disch:=first|omega|(simp only[rH]<;>omega)|fail) only[↓jM,rQ,Q4,sevalprocAttr,tyA,J,E,frS,S]
def dM(l:List (aes×aes)):List aes:=(l.filter fun n=>decide (n.1=eB)).map (·.2)
abbrev z0S:aes:=⟨#[122,48]⟩
def bK{s:aes}:X2 l s=true↔s∈l:=⟨qn,fun h=>aa3.2 ⟨s,h,yo rfl⟩⟩
def T1:S9 l x=true↔x∈l:=⟨tL,fun h=>aa3.2 ⟨x,h,F7.2 rfl⟩⟩
def yi(l:List (aes×aes))(s:aes):s∈dM l↔(eB,s)∈l:=by
 unfold dM;rw[aau]
 constructor
 .rintro⟨⟨a,b⟩,h,rfl⟩;obtain⟨u,z⟩:=abz.1 h;have:a=eB:=dT z;subst this;exact u
 .intro h;exact⟨_,abz.2 ⟨h,yo rfl⟩,rfl⟩
def NL:zS++dg 0=z0S:=by rw[dg,ab0 oM];decide
def Fk(l:List (aes×aes)):frS (dM l++[z0S]) zS [zS]=zN (T6 l):=by
 obtain⟨I,_⟩:=pd l;have u:=(dQ (fun n=>S9 l (zNm n)) (l.length+1) 0).2;have e0:S9 l (zNm 0)=X2 (dM l++[z0S]) zS:=by
  rw[abW,T1,bK,ns,yi];exact⟨.inl,fun h=>h.resolve_right fun q=>by have:=aad.1 q;revert this;decide⟩
 have en:∀n,0<n->S9 l (zNm n)=X2 (dM l++[z0S]) (zS++dg n):=fun n z=>by
  have O:zNm n=(eB,zS++dg n):=by rw[zNm,zN,bt oM]
  rw[abW,T1,bK,ns,yi,O];refine⟨.inl,fun h=>h.resolve_right fun q=>?_⟩;have S:=aad.1 q;have U:zS++dg n=zS++dg 0:=S.trans NL.symm;have:=vh (uN U);omega
 rcases b:X2 (dM l++[z0S]) zS with _|_
 .have z:T6 l=0:=by
   rcases abx (T6 l)with h|h
   .exact h
   .have:=u 0 oM (by rw[T6]at h;exact h);rw[e0,b]at this;cases this
  rw[frS,acE,b,z];rfl
 .have z:0<T6 l:=by
   rcases abx (T6 l)with h|h
   .rw[h,e0,b]at I;cases I
   .exact h
  obtain⟨D,_⟩:=HV (dM l++[z0S]) zS;have E:=(dQ (fun n=>X2 (dM l++[z0S]) (zS++dg n)) ((dM l++[z0S]).length+1) 0).2;have J:0<frN (dM l++[z0S]) zS:=by
   rcases abx (frN (dM l++[z0S]) zS)with h|h
   .rw[h]at D;have:X2 (dM l++[z0S]) (zS++dg 0)=true:=bK.2 (ns.2 (.inr (aad.2 NL)));rw[this]at D;cases D
   .exact h
  have:frN (dM l++[z0S]) zS=T6 l:=by
   rcases adO (frN (dM l++[z0S]) zS) (T6 l)with h|h|h
   .have:=u _ oM (by rw[T6]at h;exact h);rw[en _ J,D]at this;cases this
   .exact h
   .have:=E _ oM (by rw[frN]at h;exact h);rw[<-en _ z,I]at this;cases this
  rw[frS,acE,b];simp only[abd,ael,this];rw[zN,bt oM]
def EN(x:aes×aes)(l:List (aes×aes)):dM (x::l)=if decide (x.1=eB)=true then x.2::dM l else dM l:=by
 unfold dM;rw[adm];split<;>rfl
def Iz(l:List (aes×aes)):(dM l).length<=l.length:=by
 unfold dM;rw[aa7];exact aef _ _
def IZ(H1:d7)(lo p2:Nat)(b3:lo<=p2)(b7:p2<H1.n)(va:Option Addr)(ca:Nat)(l:List (aes×aes))(hv:SlI H1 lo 2 (u9 nmE) (.slice va l.length ca) l)(hn:l.length<=1000)(v2:aet)(r:List aes):
  ∀kk e H2,(∃(i:Nat)(h:List aes)(w:aet),kk=l.length-i/\i<=l.length/\h.length<=i/\e.g 2=v2/\e.g 3=w/\e.g 6= .slice va l.length ca/\e.g 7=iV l.length/\e.g 8=iV i/\t7 H2 (p2+1) 1 (u9 stE) w h/\d9 (p2+1) H1 H2/\h++dM (l.drop i)=r)->
  u7 (LE prog l7 (.loop YL) e H2) (fun o e H2=>o= .exit 0/\e.g 2=v2/\∃w,e.g 3=w/\t7 H2 (p2+1) 1 (u9 stE) w r/\d9 (p2+1) H1 H2):=by
 refine i5 _ _ ?_;rintro kk e H2 ⟨i,h,w,hk,hi,b0,O,U,W,X,f8,hO,hS,J⟩;have b5:=hS.n;rcases S:decide ((i:Int)<l.length)with _|_
 .have a6:=dF S;have:l.drop i=[]:=dN oM;rw[this]at J;refine J6 O U W X f8 S ?_;exact i6 ⟨rfl,O,w,U,by rw[<-J];simpa [dM] using hO,hS⟩
 have a6:=dT S;obtain⟨x,nb,o,cs,own,el,hx,hd,rfl,b4,hg,b2,I,hc,rfl⟩:=hv.row (i:=i) oM;have nt:(i:Int).toNat=i:=tN i;have E:=(hS.g nb oM).trans hg;obtain⟨Ha,D,a7,a2,-⟩:=pushE H2 (bC [.string eB,.string eB] 1);obtain⟨H3,u⟩:=eY (Ha.put H2.n (bC (nmE x) 1));have b6:H3.n=H2.n+1:=by rw[u,j9,a7]
 have z:d9 H2.n H2 H3:=by rw[u,D];exact(d9.push lR).trans (d9.put lR)
 have a1:H3.g H2.n=cE (nmE x) 1:=by rw[u];exact i7 oM
 have a8:H3.g nb=some (.cells cs own 2):=(z.g nb oM).trans E;have a9:Ha.g nb=some (.cells cs own 2):=by rw[D,i9 oM];exact E
 rw[hd,EN]at J;rcases b1:decide (x.1=eB)with _|_
 .rw[b1,bt (by decide)]at J;refine J15 O U W X f8 S D.symm a2 E nt I u.symm a1 b1 @wrap_small ?_;exact d8 (kk-1) oM ⟨i+1,h,w,oM,oM,oM,O,U,W,X,rfl,hO.keep z,hS.trans (z.wk oM),J⟩
 .rw[b1,cA rfl]at J;obtain⟨v',h',H4,ha,a3,a4,a5⟩:=(hO.keep z).push1 (P:=prog) (t:=119) (by exact bq.2.2.2.2.2.2) ty9.1 ty9.2.1 ty9.2.2.1 oM oM (cs:=[.string x.2]) (a:=x.2) rfl rfl oM oM;refine J17 O U W X f8 S D.symm a2 E nt I u.symm a1 b1 ha a3 @wrap_small ?_;exact d8 (kk-1) oM ⟨i+1,h++[x.2],v',oM,oM,by simp;omega,O,rfl,W,X,rfl,a4,(hS.trans (z.wk oM)).trans a5,by rw[<-J];simp⟩
def Mn(H:d7)(lo:Nat)(v:aet)(l:List (aes×aes))(a4:lo<=H.n)(hv:SlI H lo 2 (u9 nmE) v l)(hn:l.length<=90):CL prog l7 63 [v] H=some (.agg (nmE (zNm (T6 l))).toArray,none):=by
 obtain⟨va,ca,rfl⟩:=hv.slice;obtain⟨W,J,-,hg,hS⟩:=pushF H (bC [.string eB,.string eB] 1);have U:H.n<=W.low:=by rw[J,l9];exact lR
 rw[i8 Vu rfl _ sM];refine J1 J.symm ?_;refine j5 (F:=fun z=>t6 _ _ _ (u6 (inBlock 0 z) _)=_) (IZ W lo H.n a4 (u5 hg) va ca l (hv.mono (fun j hj=>hS.g j oM) lR iF) oM _ (dM l) l.length _ _ ⟨0,[],_,rfl,oM,by simp,rfl,rfl,rfl,rfl,rfl,t7.nil,d9.refl _ _,rfl⟩) ?_;rintro o e' H2 ⟨ho,h2,w,h3,hO,u⟩;have a9:=u.n;have a6:=u5 hg;have a7:=Iz l;have a2:=(u.g H.n oM).trans hg;obtain⟨v',h',E,ha,S,X,D⟩:=hO.push1 (P:=prog) (t:=119) (by exact bq.2.2.2.2.2.2) ty9.1 ty9.2.1 ty9.2.2.1 oM oM (cs:=[.string z0S]) (a:=z0S) rfl rfl oM oM;have b0:=D.n;obtain⟨I,O,-,-,h⟩:=pushE E (bC [.string zS] 1);have b1:=h.n;have a1:t7 I E.n 1 (u9 stE) (sL E.n 1 1) [zS]:=by rw[O];exact t7.fresh rfl lR (x9.one rfl rfl)
 have hf:=fresh I E.n v' (sL E.n 1 1) (dM l++[z0S]) zS [zS] oM (X.sl.mono (fun j hj=>h.g j hj) lR iF) a1.sl (by simp;omega) (by decide) (by decide);rw[Fk]at hf;have a3:I.g H.n=_:=(h.g H.n oM).trans ((D.g H.n oM).trans a2);have hz:(⟨#[122]⟩:aes)=zS:=rfl;have a5:ldC (some true) (some 2) 0 (nmE (zNm (T6 l)))=some (.agg (nmE (zNm (T6 l))).toArray):=rfl;have a8:H.n<=I.low:=((((u.wk oM).trans (D.wk oM)).trans (h.wk oM)):d9 H.n W I).low U;refine J10 ho h2 h3 ha S hz O.symm hf a3 a5 ?_;rfl
def sk:List (List aes)->Int->Int
 |[],n=>n
 |v::l,n=>sk l (min (n*(v.length+2)) 25)
def CT(s:SpD):Int:=sk s.vals (s.names.length+1)+s.texts.length+1
def LP(a b:Int):(if b<a then b else a)=min a b:=by split<;>omega
def GR(z:d7)(l:List (List aes))(va:Option Addr)(ca:Nat)(hv:SlI z z.n 1 (VlF z (· <z.n)) (.slice va l.length ca) l)(hn:l.length<=100000)(hl:∀x∈l,x.length<=100000) (v1:aet) (r:Int):
  ∀X e H2,(∃(i:Nat)(n:Int),X=l.length-i/\i<=l.length/\0<=n/\n<=1000001/\e.g 1=v1/\e.g 3=iV n/\e.g 11= .slice va l.length ca/\e.g 12=iV l.length/\e.g 13=iV i/\H2=z/\sk (l.drop i) n=r)->
  u7 (LE prog l7 (.loop Sp) e H2) (fun o e H2=>o= .exit 0/\e.g 1=v1/\e.g 3=iV r/\H2=z/\0<=r/\r<=1000001):=by
 refine i5 _ _ ?_;rintro X e H2 ⟨i,n,hk,hi,I,J,S,U,h,u,E,rfl,D⟩;rcases O:decide ((i:Int)<l.length)with _|_
 .have W:=dF O;have:l.drop i=[]:=dN oM;rw[this]at D;refine J6 S U h u E O ?_;exact i6 ⟨rfl,S,by rw[<-D];exact U,rfl,by rw[<-D];exact I,by rw[<-D];exact J⟩
 have W:=dT O;obtain⟨x,nb,o,cs,own,el,hx,hd,rfl,a3,hg,a2,a1,hc,w,rfl,hw⟩:=hv.row (i:=i) oM;have nt:(i:Int).toNat=i:=tN i;have c0:=hc 0 oM;rw[aaf]at c0;obtain⟨wa,wc,rfl⟩:=hw.slice;have a4:=hl x (mG hx);rw[hd,sk]at D;have p0:0<=n*((x.length:Int)+2):=Int.mul_nonneg I oM;have p1:n*((x.length:Int)+2)<=1000001*((x.length:Int)+2):=Int.mul_le_mul_of_nonneg_right J oM;have hm:∀Hx,D9 prog .min [3,3] [iV (n*((x.length:Int)+2)),iV 25] Hx=some (.int .i64 (min (n*((x.length:Int)+2)) 25),none):=fun Hx=>by
  rw[<-LP];simp [D9,kv]
 refine J11 S U h u E O hg nt c0 hm @wrap_small ?_;exact d8 (X-1) oM ⟨i+1,min (n*((x.length:Int)+2)) 25,oM,oM,oM,oM,S,rfl,h,u,rfl,rfl,D⟩
def KW(H:d7)(lo:Nat)(cs:LV)(s:SpD)(a5:lo<=H.n)(hs:SpR H lo cs s)(h1:s.names.length<=100000)(h2:s.vals.length<=100000)(h3:∀x∈s.vals,x.length<=100000) (h4:s.texts.length<=100000):CL prog l7 58 [.agg cs.toArray] H=some (.int .i64 (CT s),none):=by
 obtain⟨w1,w2,w3,w4,rfl,q1,q2,W,q4⟩:=hs;obtain⟨X,b1,rfl⟩:=q1.slice;obtain⟨a2,b2,rfl⟩:=q2.slice;obtain⟨E,I,rfl⟩:=W.slice;obtain⟨a4,b4,rfl⟩:=q4.slice;obtain⟨D,u,-,S,O⟩:=pushF H (bC [.slice X s.names.length b1,.slice a2 s.attrs.length b2,.slice E s.vals.length I,.slice a4 s.texts.length b4] 1);have U:H.n<=D.low:=by rw[u,l9];exact lR
 have a6:=O.n;have J:∀j,j<lo->D.g j=H.g j:=fun j hj=>O.g j oM;rw[i8 TX rfl _ sM];refine J3 u.symm S @wrap_small ?_;refine j5 (F:=fun z=>t6 _ _ _ (u6 (inBlock 0 z) _)=_) (GR D s.vals E I (W.mono J oM fun _ _ h=>h.mono J (fun _ hj=>oM)) h2 h3 _ (sk s.vals (s.names.length+1)) s.vals.length _ _ ⟨0,s.names.length+1,rfl,oM,oM,oM,rfl,rfl,rfl,rfl,rfl,rfl,rfl⟩) ?_;rintro o e' H2 ⟨ho,g1,g3,rfl,r0,r1⟩;simp(maxSteps:=20000000) -dsimp (disch:=first|omega|(simp only[rH]<;>omega)|fail) only[↓jM,rQ,Q4,sevalprocAttr,tyA,ho,g1,g3,S,wrap_small,CT]
def ru{α:Type}{P:List α->Prop}(u:P [])(z:∀l x,P l->P (l++[x])) (l:List α):P l:=by
 have:∀l:List α,P l.reverse:=by
  intro l;induction l with
  |nil=>exact u
  |cons x l D=>rw[List.reverse_cons];exact z _ _ D
 have h:=this l.reverse
 rwa [List.reverse_reverse]at h
def aQ(l:List (aes×aes))(x:aes×aes):List (aes×aes):=if S9 l x then l else l++[x]
def ef(l:List aes)(x:aes):List aes:=if X2 l x then l else l++[x]
def O8(s:SpD)(n:aes×aes):SpD:=if S9 s.attrs n then s else{s with attrs:=s.attrs++[n],vals:=s.vals++[[]]}
def ixN(l:List (aes×aes))(n:aes×aes):Nat:=(ixG (fun y=>M8 n y) l 0).toNat
def N7(s:SpD)(q:Q):SpD:=
 if q.op=4 then{s with names:=aQ s.names (qNm q)}
 else if q.op=5 then O8 s (qNm q)
 else if q.op=6 then{O8 s (qNm q)with vals:=(O8 s (qNm q)).vals.set (ixN (O8 s (qNm q)).attrs (qNm q)) (ef ((O8 s (qNm q)).vals.getD (ixN (O8 s (qNm q)).attrs (qNm q)) []) q.vl)}
 else if q.op=7 then{s with texts:=ef s.texts q.vl} else s
def spL(l:List Q):SpD:=⟨U3 4 4 l,U3 5 6 l,(U3 5 6 l).map fun n=>Q3 6 n l,Q3 7 (eB,eB) l⟩
def aW(a b:Int)(l:List Q)(x:Q):U3 a b (l++[x])=if aN a b x then aQ (U3 a b l) (qNm x) else U3 a b l:=by
 unfold U3 lQ;rw[aaV,aak,aaT];unfold aQ S9;cases aN a b x with
 |false=>rfl
 |true=>
  simp only[aaL,aab];generalize List.foldl _ _ l=acc;cases acc.any fun y=>M8 y (qNm x)<;>rfl
def dZ(a:Int)(n:aes×aes)(l:List Q)(x:Q):Q3 a n (l++[x])=if dx a n x then ef (Q3 a n l) x.vl else Q3 a n l:=by
 unfold Q3 lQ;rw[aaV,aak,aaT];unfold ef X2;cases dx a n x with
 |false=>rfl
 |true=>
  simp only[aaL,aab];generalize List.foldl _ _ l=acc;cases acc.any fun y=>cN y x.vl<;>rfl
def AW(a b:Int):∀l,(U3 a b l).Nodup:=by
 refine ru ab2 fun l x u=>?_;rw[aW];split
 .unfold aQ;split
  .exact u
  next h=>rw[acs];refine⟨u,by simp,fun y D z E q=>?_⟩;rw[aad.1 E]at q;exact h (T1.2 (q▸D))
 .exact u
def FV(n:aes×aes):∀l,n∉U3 5 6 l->Q3 6 n l=[]:=by
 refine ru (fun _=>rfl) fun l x J h=>?_;have u:n∈U3 5 6 l->n∈U3 5 6 (l++[x]):=fun h=>by
  rw[aW];split
  .unfold aQ;split
   .exact h
   .exact ns.2 (.inl h)
  .exact h
 rw[dZ,J (fun q=>h (u q))];split
 .rename_i z
  exfalso;apply h
  simp only[dx,gk,xo]at z;have E:qNm x=n:=ad2.2 z.2;have D:aN 5 6 x=true:=by simp [aN,z.1]
  rw[aW,D,cA rfl];unfold aQ;split
  next I=>rw[<-E];exact T1.1 I
  .rw[E];exact ns.2 (.inr (aad.2 rfl))
 .rfl
def CE:∀(l:List (aes×aes))(n:aes×aes)(k:Nat),n∈l->∃i:Nat,ixG (fun y=>M8 n y) l k=((k+i:Nat):Int)/\l[i]?=some n/\i<l.length
 |[],n,k,h=>by cases h
 |y::l,n,k,h=>by
  rw[ixG];by_cases e:n=y
  .rw[cA (F7.2 e)];exact⟨0,by simp,by rw[e];rfl,by simp⟩
  .rw[bt (fun q=>e (F7.1 q))];obtain⟨i,u,z,D⟩:=CE l n (k+1) (by simpa [e] using h);exact⟨i+1,by rw[u];omega,by simpa using z,by simp;omega⟩
def AI(l:List (aes×aes))(n:aes×aes)(h:n∈l):l[ixN l n]?=some n/\ixN l n<l.length/\ixG (fun y=>M8 n y) l 0=((ixN l n:Nat):Int):=by
 obtain⟨i,u,z,D⟩:=CE l n 0 h;have:ixN l n=i:=by unfold ixN;rw[u];omega
 rw[this];exact⟨z,D,by rw[u];omega⟩
def MH{α β:Type}[DecidableEq α](f g:α->β)(l:List α)(n:α)(i:Nat)(u:l[i]?=some n)(S:l.Nodup)(h:∀m,m≠n->g m=f m):(l.map f).set i (g n)=l.map g:=by
 apply abn;intro j;rw[abb];by_cases z:i=j
 .subst z;have D:i<l.length:=(gS u).1;rw[cA rfl,aaS,u,cA (by simpa using D)];rfl
 .rw[bt z,aaS,aaS];cases U:l[j]? with
  |none=>rfl
  |some m=>
   have:m≠n:=fun q=>by
    subst q;obtain⟨J,E⟩:=gS u;obtain⟨O,I⟩:=gS U;rcases adO i j with h|h|h
    .exact acV.1 S i j J O h (E.trans I.symm)
    .exact z h
    .exact acV.1 S j i O J h (I.trans E.symm)
   simp only[aaU,h m this]
def te(l:List Q)(n:aes×aes):O8 (spL l) n={spL l with attrs:=aQ (U3 5 6 l) n,vals:=(aQ (U3 5 6 l) n).map fun n=>Q3 6 n l}:=by
 unfold O8 aQ;by_cases h:S9 (U3 5 6 l) n=true
 .rw[cA h,cA (show S9 (spL l).attrs n=true from h)];rfl
 .rw[bt h,bt (show¬S9 (spL l).attrs n=true from h)];have:Q3 6 n l=[]:=FV n l (fun q=>h (T1.2 q));simp only[spL,abg,aaQ,acT,this]
def JK(l:List Q)(x:Q)(hx:x.op=7->qNm x=(eB,eB)):spL (l++[x])=N7 (spL l) x:=by
 have S:∀n,x.op≠6->Q3 6 n (l++[x])=Q3 6 n l:=fun n h=>by rw[dZ,bt (by simp [dx,h])]
 have U:x.op≠7->Q3 7 (eB,eB) (l++[x])=Q3 7 (eB,eB) l:=fun h=>by rw[dZ,bt (by simp [dx,h])]
 have O:x.op≠4->U3 4 4 (l++[x])=U3 4 4 l:=fun h=>by rw[aW,bt (by simp [aN];omega)]
 have n5:x.op≠5->x.op≠6->U3 5 6 (l++[x])=U3 5 6 l:=fun h h2=>by rw[aW,bt (by simp [aN];omega)]
 unfold N7;by_cases z:x.op=4
 .have D:aN 4 4 x=true:=by simp [aN,z]
  rw[cA z];simp only[spL,S _ oM,U oM,n5 oM oM,aW 4 4,D,aab]
 rw[bt z];by_cases E:x.op=5
 .have D:aN 5 6 x=true:=by simp [aN,E]
  rw[cA E,te];simp only[spL,S _ oM,U oM,O z,aW 5 6,D,aab]
 rw[bt E];by_cases u:x.op=6
 .have D:aN 5 6 x=true:=by simp [aN,u]
  rw[cA u,te];obtain⟨A,W⟩:=eY (aQ (U3 5 6 l) (qNm x));have J:U3 5 6 (l++[x])=A:=by rw[W,aW,D];rfl
  have X:A.Nodup:=by rw[<-J];exact AW 5 6 _
  have hm:qNm x∈A:=by
   rw[W];unfold aQ;split
   next h=>exact T1.1 h
   .exact ns.2 (.inr (aad.2 rfl))
  obtain⟨q1,q2,_⟩:=AI A (qNm x) hm;rw[<-W];simp only;have hg:(A.map fun n=>Q3 6 n l).getD (ixN A (qNm x)) []=Q3 6 (qNm x) l:=by
   rw[ma,aaS,q1];rfl
  have a1:ef (Q3 6 (qNm x) l) x.vl=(fun n=>Q3 6 n (l++[x])) (qNm x):=by
   simp only;rw[dZ,cA (by simp [dx,u])]
  rw[hg,a1,MH (fun n=>Q3 6 n l) (fun n=>Q3 6 n (l++[x])) A (qNm x) _ q1 X (fun m hm=>by
   rw[dZ,bt];simp only[dx,gk,xo];exact fun q=>hm (ad2.2 q.2).symm)]
  simp only[spL,U oM,O z,J]
 rw[bt u];by_cases I:x.op=7
 .rw[cA I];have D:dx 7 (eB,eB) x=true:=by rw[dx,hx I];simp [I]
  simp only[spL,S _ u,O z,n5 E u,dZ 7,D,aab]
 .rw[bt I];simp only[spL,S _ u,U I,O z,n5 E u]
def JJ(l:List Q)(u:∀x∈l,x.op=7->qNm x=(eB,eB)):l.foldl N7 ⟨[],[],[],[]⟩=spL l:=by
 have:∀l:List Q,(∀x∈l,x.op=7->qNm x=(eB,eB))->l.foldl N7 ⟨[],[],[],[]⟩=spL l:=by
  refine ru (fun _=>rfl) fun l x D h=>?_;rw[aaV,D (fun y z=>h y (by simp [z])),aak,aaT,JK _ _ (h x sM)]
 exact this l u
def HY:∀(n:Nat)(f:Bool)(q:Q),nQ q<=n->OkD f q->∀x∈fsQ f q,OkD true x:=by
 intro n;induction n with
 |zero=>intro f q I;cases q;rw[nQ]at I;omega
 |succ n J=>
  intro f q I h x D;obtain⟨p1,p2,_⟩:=h.parts;have O:nQ q=1+nL q.a+nL q.b:=by cases q;rw[nQ];rfl
  have mem:∀(l:List Q)(y:Q),y∈l->nQ y<=nL l:=by
   intro l;induction l with
   |nil=>intro y u;cases u
   |cons z l E=>
    intro y u;rw[nL];rcases aam.1 u with rfl|u
    .omega
    .have:=E y u;omega
  rw[iR,ns,ns,x8,x8,aaY,aaY]at D;rcases D with D|⟨y,u,D⟩|⟨y,u,D⟩
  .cases f with
   |false=>cases D
   |true=>rw[cA rfl]at D;rw[aad.1 D];exact h
  .exact J f y (oN (mem _ _ u)) (p1 y u) x D
  .exact J (!f) y (oN (mem _ _ u)) (p2 y u) x D
def BJ(q:Q)(h:OkD false q):(fsQ false q).foldl N7 ⟨[],[],[],[]⟩=spQ q:=by
 rw[JJ _ fun x I D=>?_];rfl;obtain⟨_,_,_,z,_⟩:=(HY _ false q lR h x I).parts;simp only[dv,aab,gk]at z;have:=z.1.2;simp only[ja,gk,vp,D]at this;have u:=this.1;have:(decide (x.sp=eB)&&decide (x.lc=eB))=true:=by
  cases E:(decide (x.sp=eB)&&decide (x.lc=eB))with
  |true=>rfl
  |false=>rw[E]at u;revert u;decide
 simp only[gk,xo]at this;exact ad2.2 this
def dy(L:LV):Prop:=∀(i j:Nat)(a b:aet),L[i]?=some a->L[j]?=some b->i≠j->∀x,j8 a x->¬j8 b x
def dy.set{L:LV}{k n:Nat}{w v:aet}(h:dy L)(U:L[k]?=some w)(W:∀b,j8 v b->j8 w b\/n<=b) (I:∀x∈L,∀b,j8 x b->b<n):dy (L.set k v):=by
 intro i j a b z u D x O S;rw[abb]at z u;by_cases J:k=i
 .have E:k≠j:=fun q=>D (J.symm.trans q);rw[cA J]at z;rw[bt E]at u;split at z
  .cases z;rcases W x O with q|q
   .exact h k j w b U u E x q S
   .have:=I b (mG u) x S;omega
  .cases z
 .rw[bt J]at z;by_cases E:k=j
  .rw[cA E]at u;split at u
   .cases u;rcases W x S with q|q
    .exact h i k a w z U (fun q=>J q.symm) x O q
    .have:=I a (mG z) x O;omega
   .cases u
  .rw[bt E]at u;exact h i j a b z u D x O S
def dy.nil{L:LV}(h:dy L):dy (L++[nS]):=by
 intro i j a b u J D x z I;have key:∀(i:Nat)(a:aet),(L++[nS])[i]?=some a->j8 a x->L[i]?=some a:=fun i a u z=>by
  rw[List.getElem?_append]at u;split at u
  .exact u
  .cases E:i-L.length with
   |zero=>rw[E]at u;simp at u;rw[<-u]at z;exact absurd z (C2 x)
   |succ n=>rw[E]at u;simp at u
 exact h i j a b (key i a u z) (key j b J I) D x z I
def Nz(h:x9 1 (u9 fun u=>[u]) cs us):cs=us:=by
 apply abn;intro i;by_cases z:i<us.length
 .have D:=h.2 i us[i] (yv z);have E:(cs.drop (i*1)).take 1=[us[i]]:=D;have:=congrArg (fun l=>l[0]?) E
  simpa [aaO,aaA,yv z] using this
 .have:=h.1;rw[aaM oM,aaM oM]
def Jr(us:LV):x9 1 (u9 fun u=>[u]) us us:=by
 have:=Js (enc:=fun u:aet=>[u]) (sz:=1) (fun _=>rfl) us;have e:us.flatMap (fun u=>[u])=us:=sM;rw[e]at this;exact this
structure dG(H:d7)(gb:Nat)(O:Nat->Prop)(s:SpD)(w1 w2 w3 w4:aet)(us:LV):Prop where
 g:H.g gb=cE [w1,w2,w3,w4] 1
 n:t7 H (gb+1) 2 (u9 nmE) w1 s.names
 a:t7 H (gb+1) 2 (u9 nmE) w2 s.attrs
 v:t7 H (gb+1) 1 (u9 fun u=>[u]) w3 us
 len:us.length=s.vals.length
 al:s.attrs.length=s.vals.length
 u:∀(i:Nat)(u:aet)(l:List aes),us[i]?=some u->s.vals[i]?=some l->t7 H (gb+1) 1 (u9 stE) u l
 t:t7 H (gb+1) 1 (u9 stE) w4 s.texts
 ap:dy (w1::w2::w3::w4::us)
 o:∀w∈w1::w2::w3::w4::us,∀b,j8 w b->O b
 lt:∀b,O b->gb<b/\b<H.n
def dG.keep{H H':d7}{s:SpD}(h:dG H E O s w1 w2 w3 w4 us)(D:∀j,j=E\/O j->H'.g j=H.g j) (U:∀b,O b->I b) (J:∀b,I b->E<b/\b<H'.n):dG H' E I s w1 w2 w3 w4 us:=
 ⟨(D E (.inl rfl)).trans h.g,h.n.same fun b z=>D b (.inr (h.o _ sM b z)),h.a.same fun b z=>D b (.inr (h.o _ sM b z)),h.v.same fun b z=>D b (.inr (h.o _ sM b z)),h.len,h.al,
  fun i u l S W=>(h.u i u l S W).same fun b z=>D b (.inr (h.o _ (by simp [mG S]) b z)),h.t.same fun b z=>D b (.inr (h.o _ sM b z)),h.ap,fun w X b z=>U b (h.o w X b z),J⟩
structure oo(gb:Nat)(O0:Nat->Prop)(s0:SpD)(H0:d7)(O:Nat->Prop)(H:d7)(s:SpD):Prop where
 sub:∀b,O b->O0 b\/H0.n<=b
 chg:(s=s0/\∀b,O b->O0 b)\/∃b,(b=gb\/O0 b)/\H.low<=b
 but:∀j,j<H0.n->j≠gb->¬O0 j->H.g j=H0.g j
 stay:d9 gb H0 H
 low:H.low<=H0.low
def iq(gb:Nat)(O0:Nat->Prop)(s0:SpD)(H0 H:d7)(s:SpD):Prop:=∃O w1 w2 w3 w4 us,dG H gb O s w1 w2 w3 w4 us/\oo gb O0 s0 H0 O H s
def oo.refl(u:Nat)(O:Nat->Prop)(s:SpD)(H:d7):oo u O s H O H s:=⟨fun _ h=> .inl h,.inl ⟨rfl,fun _ h=>h⟩,fun _ _ _ _=>rfl,d9.refl _ _,lR⟩
def oo.trans{H0 z u H2:d7}(h:oo D X s0 H0 O1 z s1)(E:d9 z.n z u)(hl:u.low<=z.low)(J:D<=z.n)(k:oo D O1 s1 u O2 H2 s2):oo D X s0 H0 O2 H2 s2:=by
 have n1:=h.stay.n;have n2:=E.n;have l2:=k.low;refine⟨fun b I=>?_,?_,fun j hj h1 h2=>?_,(h.stay.trans (E.wk J)).trans k.stay,by have:=h.low;omega⟩
 .rcases k.sub b I with q|q
  .exact h.sub b q
  .exact .inr oM
 .rcases h.chg with⟨O,S⟩|⟨b,O,S⟩
  .rcases k.chg with⟨U,W⟩|⟨b,U,W⟩
   .exact .inl ⟨U.trans O,fun b I=>S b (W b I)⟩
   .exact .inr ⟨b,U.imp id (S b),W⟩
  .exact .inr ⟨b,O,oM⟩
 .rw[k.but j oM h1 (fun q=>by rcases h.sub j q with r|r;exact h2 r;omega),E.g j oM,h.but j hj h1 h2]
def oX{s X:SpD}{H D H':d7}(z:d9 H.n H D)(S:H.n<=D.low)(I:dG H E O s w1 w2 w3 w4 us)(hQ:iq E O s D H' X):
  Ret (some (E7 v H H')) H fun v1 H2=>v1=v/\iq E O s H H2 X:=by
 have n1:=z.n;have a1:=u5 I.g;obtain⟨O',x1,x2,x3,x4,U,R,T⟩:=hQ;refine F9 (fun _ hl=>⟨rfl,?_⟩) ⟨rfl,?_⟩
 .rcases T.chg with⟨u,W⟩|⟨b,u,W⟩
  .rw[u];exact⟨O,w1,w2,w3,w4,us,I,oo.refl _ _ _ _⟩
  .have:b<H.n:=by
    rcases u with u|u
    .omega
    .exact(I.lt b u).2
   omega
 .refine⟨O',x1,x2,x3,x4,U,R.keep (fun _ _=>rfl) (fun _ h=>h) R.lt,fun b hb=>?_,?_,fun j J h1 h2=>?_,⟨?_,fun k hk q=>?_,fun j J=>?_⟩,ack _ _⟩
  .rcases T.sub b hb with q|q
   .exact .inl q
   .exact .inr oM
  .rcases T.chg with q|⟨b,u,W⟩
   .exact .inl q
   .exact .inr ⟨b,u,by show min H.low H'.low<=b;omega⟩
  .show H'.g j=H.g j;rw[T.but j oM h1 h2,z.g j J]
  .show H.n<=H'.n;have:=T.stay.n;omega
  .have:=T.stay.lowAll k hk oM;show k<=min H.low H'.low;omega
  .show H'.g j=H.g j;rw[T.stay.g j J,z.g j oM]
def qd{α:Type}{R:LV->α->Prop}{H H':d7}{lo sz:Nat}{l:List α}(D:t7 H' lo sz R v' l)(h:Z9 lo v H v' H'):Ret (some (E7 v' H H')) H fun E u=>t7 u lo sz R E l/\Z9 lo v H E u/\u.low<=H.low:=by
 refine F9 (fun z O=>⟨D.na z _ _,⟨d9.refl _ _,fun _ _ _=>rfl,fun b I=>?_⟩,lR⟩) ⟨D.low _,⟨⟨h.stay.n,fun k J q=>?_,h.stay.g⟩,h.but,h.new⟩,ack _ _⟩
 .obtain⟨n,c,e⟩:=I;rw[e]at z;cases z
 .have:=h.stay.lowAll k J q;show k<=min H.low H'.low;omega
def NY(H:d7)(lo:Nat)(v:aet)(l:List (aes×aes))(x:aes×aes)(U:lo<=H.n)(hO:t7 H lo 2 (u9 nmE) v l)(hl:l.length<=1000000):
  Ret (CL prog l7 152 [v,.agg (nmE x).toArray] H) H fun v' H'=>t7 H' lo 2 (u9 nmE) v' (aQ l x)/\Z9 lo v H v' H'/\H'.low<=H.low:=by
 obtain⟨J,u⟩:=eY (d7.push ⟨H.bs,H.n⟩ (bC (nmE x) 1):d7);have O:d9 H.n H J:=by rw[u];first|exact d9.first H _|exact d9.start H
 have a4:=O.n;have a3:H.n<=J.low:=by rw[u];exact lR
 have D:=hO.keep O;have S:=PM J J.n v l x lR D.sl oM;have W:ldC (some true) (some 2) 0 (nmE x)=some (.agg (nmE x).toArray):=rfl;have a2:(l.any fun y=>M8 x y)=S9 l x:=by unfold S9;congr 1;funext y;first|exact aaR.2 ⟨Eq.symm,Eq.symm⟩|(rw[abW,F7,F7];exact eq_comm)
 rw[a2]at S;rw[i8 Nt rfl _ sM];rcases b:S9 l x with _|_
 .rw[b]at S;have E:aQ l x=l++[x]:=by rw[aQ,b];rfl
  obtain⟨v',h',H4,ha,a1,X,z⟩:=D.push1F (P:=prog) (t:=117) (cs:=nmE x) (a:=x) (by exact AH.2.2.2.2.2.2) We.1 We.2.1 We.2.2.1 oM oM rfl rfl oM oM;have I:J.g H.n=cE (nmE x) 1:=by rw[u];exact j7
  refine J6 u.symm I S W ha a1 ?_;rw[E];exact qd X ⟨(O.wk U).trans z.stay,fun j hj h=>by rw[z.but j oM h,O.g j hj],fun b hb=>(z.new b hb).imp id fun q=>oM⟩
 .rw[b]at S;have E:aQ l x=l:=by rw[aQ,b];rfl
  have I:J.g H.n=cE (nmE x) 1:=by rw[u];exact j7
  refine J4 u.symm I S W ?_;rw[E];exact qd D (Z9.of v O U)
def Gi(H:d7)(lo:Nat)(v:aet)(l:List (aes))(x:aes)(O:lo<=H.n)(hO:t7 H lo 1 (u9 stE) v l)(hl:l.length<=1000000):
  Ret (CL prog l7 154 [v,.string x] H) H fun v' H'=>t7 H' lo 1 (u9 stE) v' (ef l x)/\Z9 lo v H v' H'/\H'.low<=H.low:=by
 obtain⟨W,u⟩:=eY (⟨H.bs,H.n⟩:d7);have I:d9 H.n H W:=by rw[u];first|exact d9.first H _|exact d9.start H
 have S:=I.n;have a3:H.n<=W.low:=by rw[u];exact lR
 have D:=hO.keep I;have J:=Ig W W.n v l x lR D.sl oM;have U:ldC (some true) (some 1) 0 (stE x)=some (.agg (stE x).toArray):=rfl;have a2:(l.any fun y=>cN x y)=X2 l x:=by unfold X2;congr 1;funext y;first|exact aaR.2 ⟨Eq.symm,Eq.symm⟩|(rw[abW,F7,F7];exact eq_comm)
 rw[a2]at J;rw[i8 TG rfl _ sM];rcases b:X2 l x with _|_
 .rw[b]at J;have E:ef l x=l++[x]:=by rw[ef,b];rfl
  obtain⟨v',h',H4,ha,a1,X,z⟩:=D.push1F (P:=prog) (t:=119) (cs:=stE x) (a:=x) (by exact bq.2.2.2.2.2.2) ty9.1 ty9.2.1 ty9.2.2.1 oM oM rfl rfl oM oM;have _:=S;refine J5 u.symm J U ha a1 ?_;rw[E];exact qd X ⟨(I.wk O).trans z.stay,fun j hj h=>by rw[z.but j oM h,I.g j hj],fun b hb=>(z.new b hb).imp id fun q=>oM⟩
 .rw[b]at J;have E:ef l x=l:=by rw[ef,b];rfl
  have _:=S;refine J3 u.symm J U ?_;rw[E];exact qd D (Z9.of v I O)
def qm(l:List (aes×aes))(n:aes×aes):(l.any fun y=>M8 n y)=S9 l n:=by
 unfold S9;congr 1;funext y;rw[abW,F7,F7];exact eq_comm
def LB(l:List (aes×aes))(n:aes×aes)(h:S9 l n=false):ixN (l++[n]) n=l.length:=by
 have:∀(l:List (aes×aes))(k:Nat),(l.any fun y=>M8 n y)=false->ixG (fun y=>M8 n y) (l++[n]) k=((k+l.length:Nat):Int):=by
  intro l;induction l with
  |nil=>intro k _;rw[aat,ixG,cA (F7.2 rfl)];simp
  |cons y l z=>
   intro k u;rw[acf,Bool.or_eq_false_iff]at u;rw[aax,ixG,bt (by rw[u.1];decide),z (k+1) u.2,A1];congr 1;omega
 unfold ixN;rw[this l 0 (by rw[qm];exact h)];omega
def dG.inl{H:d7}{u:Nat}{s:SpD}(h:dG H u O s w1 w2 w3 w4 us){w:aet}(D:w∈w1::w2::w3::w4::us){b:Nat}(z:j8 w b):u<b/\b<H.n:=h.lt b (h.o w D b z)
def Cn(H:d7)(E:Nat)(O:Nat->Prop)(s:SpD)(w1 w2 w3 w4:aet)(us:LV)(n:aes×aes)(hR:dG H E O s w1 w2 w3 w4 us)(hl:s.attrs.length<=100000):
  Ret (CL prog l7 153 [pT E,.agg (nmE n).toArray] H) H fun v I=>v=iV (ixN (O8 s n).attrs n)/\iq E O s H I (O8 s n):=by
 obtain⟨I,X⟩:=eY (d7.push ⟨H.bs,H.n⟩ (bC (nmE n) 1):d7);have hS:d9 H.n H I:=by rw[X];exact d9.first H _
 have e7:I.n=H.n+1:=by rw[X,i4];rfl
 have a5:H.n<=I.low:=by rw[X];exact lR
 have d4:=u5 hR.g;have g1:I.g H.n=cE (nmE n) 1:=by rw[X];exact j7
 have z:dG I E O s w1 w2 w3 w4 us:=hR.keep (fun j hj=>hS.g j (by rcases hj with rfl|hj;exact d4;exact(hR.lt j hj).2)) (fun _ h=>h) (fun b D=>by have:=hR.lt b D;omega);have a7:=z.g;have c7:ldC (some true) (some 2) 0 (nmE n)=some (.agg (nmE n).toArray):=rfl;have hh:=CA I I.n w2 s.attrs n lR z.a.sl oM;have r0:[w1,w2,w3,w4][1]?=some w2:=rfl;rw[i8 TF rfl _ sM];rcases b:S9 s.attrs n with _|_
 .have b2:ixG (fun y=>M8 n y) s.attrs 0= -1:=by
   rcases dR (fun y=>M8 n y) s.attrs 0 with q|q
   .exact q.2
   .have:=q.1;rw[qm,b]at this;cases this
  rw[b2]at hh;have b1:O8 s n={s with attrs:=s.attrs++[n],vals:=s.vals++[[]]}:=by rw[O8,b];rfl
  rw[b1];simp only;rw[LB _ _ b];obtain⟨W,h2,K2,b9,a9,a4,J⟩:=z.a.push1F (P:=prog) (t:=117) (cs:=nmE n) (a:=n) (by exact AH.2.2.2.2.2.2) We.1 We.2.1 We.2.2.1 oM oM rfl rfl oM oM;obtain⟨K1,b7,-,-,s1⟩:=pushE I (bC (nmE n) 2);rw[<-b7]at b9 a9;have c8:∀w∈w1::w2::w3::w4::us,∀b,j8 w b->b≠E:=fun w hw b D=>oN (z.inl hw D);have n2:=J.n;have g2:K2.g E=cE [w1,w2,w3,w4] 1:=(J.but E oM (fun q=>c8 w2 sM E q rfl)).trans a7;have d2:K1.g E=cE [w1,w2,w3,w4] 1:=(s1.g E oM).trans a7;have b5:∀b,j8 w3 b->¬j8 w2 b:=fun b h3 h2=>z.ap 1 2 w2 w3 rfl rfl oM b h2 h3;have d3:t7 K2 (E+1) 1 (u9 fun u=>[u]) w3 us:=z.v.same fun b D=>J.but b (z.inl sM D).2 (b5 b D);obtain⟨v3,h3,K4,c0,b0,a8,S⟩:=d3.push1F (P:=prog) (t:=118) (cs:=[nS]) (a:=nS) (by exact Wq.2.2.2.2.2.2) bq.1 bq.2.1 bq.2.2.1 oM oM rfl rfl (by have:=z.len;have:=z.al;omega) oM;obtain⟨K3,b8,-,-,s3⟩:=pushE K2 (bC [nS] 1);rw[<-b8]at c0 b0;have n4:=S.n;have g3:K3.g E=cE [w1,w2,w3,w4] 1:=(s3.g E oM).trans g2;have g4:K4.g E=cE [w1,w2,w3,w4] 1:=(S.but E oM (fun q=>c8 w3 sM E q rfl)).trans g2;obtain⟨a2,c2,e2⟩:=a4.slice;obtain⟨a3,c3,e3⟩:=a8.slice;have d0:W.cells.toList=[W]:=by rw[e2];rfl
  have e4:Value.oneCell' W=true:=by rw[e2];rfl
  have d1:v3.cells.toList=[v3]:=by rw[e3];rfl
  have e5:Value.oneCell' v3=true:=by rw[e3];rfl
  obtain⟨K5,a1⟩:=eY (K4.put E (bC [w1,W,w3,w4] 1));have g5:K5.g E=cE [w1,W,w3,w4] 1:=by rw[a1];exact i7 oM
  obtain⟨K6,U⟩:=eY (K5.put E (bC [w1,W,v3,w4] 1));have n6:K6.n=K4.n:=by rw[U,j9,a1,j9]
  have g6:K6.g E=cE [w1,W,v3,w4] 1:=by rw[U];exact i7 (by rw[a1,j9];omega)
  have c4:bsA prog (some 43) I 1 [(0,.agg (nmE n).toArray)]=some (sL I.n 1 1,K1):=by
   rw[b7];simp only[E5,We,E6];rfl
  have c5:bsA prog (some 119) K2 1 [(0,nS)]=some (sL K2.n 1 1,K3):=by
   rw[b8];simp only[E5,bq,E6];rfl
  have b3:∀Hx:d7,D9 prog .len [117] [W] Hx=some (.int .i64 ((s.attrs.length:Int)+1),none):=fun Hx=>by
   rw[e2,ib];refine J1 AH ?_;simp
  have e6:∀j,j≠E->K6.g j=K4.g j:=fun j hj=>by rw[U,j6 (fun q=>hj q.symm),a1,j6 (fun q=>hj q.symm)]
  refine J25 X.symm g1 a7 c7 hh c4 d2 b9 a9 g2 c5 g3 c0 b0 g4 d0 e4 a1.symm g5 d1 e5 U.symm g6 b3 @wrap_small ?_;have ew:(s.attrs.length:Int)+1-1=s.attrs.length:=oM;rw[ew];have b4:∀j,j<I.n->¬j8 w2 j->¬j8 w3 j->K4.g j=I.g j:=fun j hj h2 h3=>by rw[S.but j oM h3,J.but j hj h2]
  refine oX (w1:=w1) (w2:=w2) (w3:=w3) (w4:=w4) (us:=us) hS a5 hR ⟨U0 O I K6,w1,W,v3,w4,us++[nS],⟨g6,?_,?_,?_,?_,?_,?_,?_,?_,?_,?_⟩,?_,?_,?_,?_,?_⟩
  .exact z.n.same fun b D=>by
    have:=z.inl (w:=w1) sM D;rw[e6 b oM,b4 b this.2 (fun q=>z.ap 0 1 w1 w2 rfl rfl oM b D q) (fun q=>z.ap 0 2 w1 w3 rfl rfl oM b D q)]
  .exact a4.same fun b D=>by
    have d6:=a4.lt D;rw[e6 b oM,S.but b d6.2 fun q=>?_];rcases J.new b D with r|r
    .exact b5 b q r
    .have:=z.inl (w:=w3) sM q;omega
  .exact a8.same fun b D=>e6 b (oN (a8.lt D))
  .rw[ib,ib,z.len];rfl
  .rw[ib,ib,z.al];rfl
  .intro i u l hu hl;have c6:=z.len;by_cases hi:i<us.length
   .rw[xd hi]at hu;rw[xd oM]at hl;exact(z.u i u l hu hl).same fun b D=>by
     have:=z.inl (w:=u) (by simp [mG hu]) D;rw[e6 b oM,b4 b this.2 (fun q=>z.ap (i+4) 1 u w2 hu rfl oM b D q) (fun q=>z.ap (i+4) 2 u w3 hu rfl oM b D q)]
   .rw[aao oM]at hu hl;cases hm:i-us.length with
    |zero=>
     rw[hm]at hu;rw[<-c6,hm]at hl;simp at hu hl
     first|rw[<-hu,<-hl]|rw[<-hu,hl]
     exact t7.nil
    |succ m=>rw[hm]at hu;simp at hu
  .exact z.t.same fun b D=>by
    have:=z.inl (w:=w4) sM D;rw[e6 b oM,b4 b this.2 (fun q=>z.ap 3 1 w4 w2 rfl rfl oM b D q) (fun q=>z.ap 3 2 w4 w3 rfl rfl oM b D q)]
  .have p1:dy (w1::W::w3::w4::us):=z.ap.set (k:=1) (v:=W) (n:=I.n) rfl J.new (fun x hx b D=>(z.inl hx D).2);have p2:dy (w1::W::v3::w4::us):=p1.set (k:=2) (v:=v3) (n:=K2.n) rfl S.new (fun x hx b D=>by
    rcases aam.1 hx with rfl|hx
    .have:=z.inl (w:=x) sM D;omega
    rcases aam.1 hx with rfl|hx
    .exact(a4.lt D).2
    .have:=z.inl (w:=x) (abe _ (abe _ hx)) D;omega)
   exact p2.nil
  .intro w hw b D;have a6:∀w∈w1::w2::w3::w4::us,j8 w b->U0 O I K6 b:=fun w hw D=> .inl (z.o w hw b D);have e1:w=w1\/w=W\/w=v3\/w=w4\/w∈us\/w=nS:=by
    have:w∈w1::W::v3::w4::(us++[nS]):=hw;simp only[aam,ns,aad,abf,aco]at this;exact this
   rcases e1 with h|h|h|h|h|h
   .exact a6 w1 sM (h▸D)
   .rw[h]at D;rcases J.new b D with r|r
    .exact a6 w2 sM r
    .exact .inr ⟨r,by have:=a4.lt D;omega⟩
   .rw[h]at D;rcases S.new b D with r|r
    .exact a6 w3 sM r
    .exact .inr ⟨oM,by have:=a8.lt D;omega⟩
   .exact a6 w4 sM (h▸D)
   .exact a6 w (by simp [h]) D
   .rw[h]at D;exact absurd D (C2 b)
  .intro b D;rcases D with D|D
   .have:=z.lt b D;omega
   .omega
  .intro b D;exact D.imp id fun h=>h.1
  .exact .inr ⟨E,.inl rfl,by rw[U,A5];omega⟩
  .intro j hj h1 h2;rw[e6 j h1,b4 j hj (fun q=>h2 (z.o w2 sM j q)) (fun q=>h2 (z.o w3 sM j q))]
  .rw[U,a1];exact(((J.stay.wk oM).trans (S.stay.wk oM)).trans (d9.put lR)).trans (d9.put lR)
  .have:K6.low<=E:=by rw[U,A5];omega
   omega
 .have d5:=T1.1 b;obtain⟨_,_,b2⟩:=AI s.attrs n d5;rw[b2]at hh;have b1:O8 s n=s:=by rw[O8,b];rfl
  have c9:decide ((0:Int)<=(ixN s.attrs n:Nat))=true:=yo oM;rw[b1];refine J6 X.symm g1 a7 c7 hh c9 ?_;have b6:=oX (v:=iV (ixN s.attrs n)) hS a5 hR ⟨O,w1,w2,w3,w4,us,z,oo.refl _ _ _ _⟩;rw[qg _ _ _ _ a5]at b6;exact b6
def Ev{H H':d7}{s:SpD}(D:dG H E O s w1 w2 w3 w4 us)(hO:t7 H' (E+1) 2 (u9 nmE) v' l')(S:Z9 (E+1) w1 H v' H')(hl:H'.low<=H.low):
  iq E O s H (H'.put E (bC [v',w2,w3,w4] 1)) {s with names:=l'}:=by
 have hn:=S.n;have a1:=u5 D.g;obtain⟨K,I⟩:=eY (H'.put E (bC [v',w2,w3,w4] 1));have nK:K.n=H'.n:=by rw[I,j9]
 have gK:K.g E=cE [v',w2,w3,w4] 1:=by rw[I];exact i7 oM
 have X:∀j,j≠E->K.g j=H'.g j:=fun j hj=>by rw[I,j6 (fun q=>hj q.symm)]
 have sm:∀(i:Nat)(w:aet),(w1::w2::w3::w4::us)[i]?=some w->i≠0->∀b,j8 w b->K.g b=H.g b:=fun i w U hi b z=>by
  have:=D.inl (mG U) z;rw[X b oM,S.but b this.2 (fun q=>D.ap i 0 w w1 U rfl hi b z q)]
 have hs:t7 K (E+1) 2 (u9 nmE) v' l':=hO.same fun b z=>X b (oN (hO.lt z));have W:∀(w:aet)(i:Nat){α:Type}{sz:Nat}{R:LV->α->Prop}{l:List α},(w1::w2::w3::w4::us)[i]?=some w->i≠0->t7 H (E+1) sz R w l->t7 K (E+1) sz R w l:=fun w i _ _ _ _ U hi h=>h.same (sm i w U hi);rw[<-I];refine⟨U0 O H K,v',w2,w3,w4,us,⟨gK,?_,?_,W w3 2 rfl oM D.v,D.len,D.al,fun i u l hu hl=>W u (i+4) hu oM (D.u i u l hu hl),?_,D.ap.set (k:=0) (v:=v') (n:=H.n) rfl S.new (fun x hx b z=>(D.inl hx z).2),fun w U b z=>?_,fun b z=>?_⟩,fun b z=>z.imp id fun h=>h.1,.inr ⟨E,.inl rfl,by rw[I,A5];omega⟩,fun j hj h1 h2=>by rw[X j h1,S.but j hj (fun q=>h2 (D.o w1 sM j q))],by rw[I];exact(S.stay.wk oM).trans (d9.put lR),by rw[I,A5];omega⟩
 .first|exact hs|exact W w1 0 rfl oM D.n
 .exact W w2 1 rfl oM D.a
 .first|exact hs|exact W w4 3 rfl oM D.t
 .by_cases h:w∈w1::w2::w3::w4::us
  .exact .inl (D.o w h b z)
  .have:w=v':=by
    apply aaN;intro hv;have J:w∈v'::w2::w3::w4::us:=U;apply h;simp only[aam,hv,aek]at J ⊢
    first|exact .inr J|(rcases J with q|q|q|q;exact .inl q;exact .inr (.inl q);exact .inr (.inr (.inl q));exact .inr (.inr (.inr (.inr q))))
   rw[this]at z;rcases S.new b z with r|r
   .exact .inl (D.o w1 sM b r)
   .exact .inr ⟨r,by have:=hO.lt z;omega⟩
 .rcases z with z|z
  .have:=D.lt b z;omega
  .omega
def Ew{H H':d7}{s:SpD}(D:dG H E O s w1 w2 w3 w4 us)(hO:t7 H' (E+1) 1 (u9 stE) v' l')(S:Z9 (E+1) w4 H v' H')(hl:H'.low<=H.low):
  iq E O s H (H'.put E (bC [w1,w2,w3,v'] 1)) {s with texts:=l'}:=by
 have hn:=S.n;have a1:=u5 D.g;obtain⟨K,I⟩:=eY (H'.put E (bC [w1,w2,w3,v'] 1));have nK:K.n=H'.n:=by rw[I,j9]
 have gK:K.g E=cE [w1,w2,w3,v'] 1:=by rw[I];exact i7 oM
 have X:∀j,j≠E->K.g j=H'.g j:=fun j hj=>by rw[I,j6 (fun q=>hj q.symm)]
 have sm:∀(i:Nat)(w:aet),(w1::w2::w3::w4::us)[i]?=some w->i≠3->∀b,j8 w b->K.g b=H.g b:=fun i w U hi b z=>by
  have:=D.inl (mG U) z;rw[X b oM,S.but b this.2 (fun q=>D.ap i 3 w w4 U rfl hi b z q)]
 have hs:t7 K (E+1) 1 (u9 stE) v' l':=hO.same fun b z=>X b (oN (hO.lt z));have W:∀(w:aet)(i:Nat){α:Type}{sz:Nat}{R:LV->α->Prop}{l:List α},(w1::w2::w3::w4::us)[i]?=some w->i≠3->t7 H (E+1) sz R w l->t7 K (E+1) sz R w l:=fun w i _ _ _ _ U hi h=>h.same (sm i w U hi);rw[<-I];refine⟨U0 O H K,w1,w2,w3,v',us,⟨gK,?_,?_,W w3 2 rfl oM D.v,D.len,D.al,fun i u l hu hl=>W u (i+4) hu oM (D.u i u l hu hl),?_,D.ap.set (k:=3) (v:=v') (n:=H.n) rfl S.new (fun x hx b z=>(D.inl hx z).2),fun w U b z=>?_,fun b z=>?_⟩,fun b z=>z.imp id fun h=>h.1,.inr ⟨E,.inl rfl,by rw[I,A5];omega⟩,fun j hj h1 h2=>by rw[X j h1,S.but j hj (fun q=>h2 (D.o w4 sM j q))],by rw[I];exact(S.stay.wk oM).trans (d9.put lR),by rw[I,A5];omega⟩
 .first|exact hs|exact W w1 0 rfl oM D.n
 .exact W w2 1 rfl oM D.a
 .first|exact hs|exact W w4 3 rfl oM D.t
 .by_cases h:w∈w1::w2::w3::w4::us
  .exact .inl (D.o w h b z)
  .have:w=v':=by
    apply aaN;intro hv;have J:w∈w1::w2::w3::v'::us:=U;apply h;simp only[aam,hv,aek]at J ⊢
    first|exact .inr J|(rcases J with q|q|q|q;exact .inl q;exact .inr (.inl q);exact .inr (.inr (.inl q));exact .inr (.inr (.inr (.inr q))))
   rw[this]at z;rcases S.new b z with r|r
   .exact .inl (D.o w4 sM b r)
   .exact .inr ⟨r,by have:=hO.lt z;omega⟩
 .rcases z with z|z
  .have:=D.lt b z;omega
  .omega
def Lq{H H':d7}{s:SpD}{D n c i:Nat}(z:dG H S O s w1 w2 (sL D n c) w4 us)(hu:us[i]?=some u)(hO:t7 H' (S+1) 1 (u9 stE) I l')(W:Z9 (S+1) u H I H')(hl:H'.low<=H.low):
  iq S O s H (H'.put D (bC (us.set i I) 1)) {s with vals:=s.vals.set i l'}:=by
 have hn:=W.n;have a9:=u5 z.g;have J:j8 (sL D n c) D:=⟨_,_,rfl⟩
 have l3:=z.inl (w:=sL D n c) sM J;have a1:(w1::w2::sL D n c::w4::us)[i+4]?=some u:=hu;obtain⟨K,hK⟩:=eY (H'.put D (bC (us.set i I) 1));have nK:K.n=H'.n:=by rw[hK,j9]
 have gK:K.g D=cE (us.set i I) 1:=by rw[hK];exact i7 oM
 have eK:∀j,j≠D->K.g j=H'.g j:=fun j X=>by rw[hK,j6 (fun q=>X q.symm)]
 have sm:∀(j:Nat)(w:aet),(w1::w2::sL D n c::w4::us)[j]?=some w->j≠i+4->j≠2->∀b,j8 w b->K.g b=H.g b:=fun j w hw X a3 b E=>by
  have:=z.inl (mG hw) E;rw[eK b (fun q=>z.ap j 2 w _ hw rfl a3 b E (q▸J)),W.but b this.2 (fun q=>z.ap j (i+4) w u hw a1 X b E q)]
 have ho:∀(w:aet)(j:Nat){α:Type}{sz:Nat}{R:LV->α->Prop}{l:List α},(w1::w2::sL D n c::w4::us)[j]?=some w->j≠i+4->j≠2->t7 H (S+1) sz R w l->t7 K (S+1) sz R w l:=fun w j _ _ _ _ hw hi h2 h=>h.same (sm j w hw hi h2);have a8:∀b,j8 I b->b≠D:=fun b E q=>by
  rcases W.new b E with r|r
  .exact z.ap (i+4) 2 u _ a1 rfl oM b r (q▸J)
  .omega
 have a4:n=us.length:=by obtain⟨_,_,q⟩:=z.v.slice;cases q;rfl
 have a2:dy (w1::w2::sL D n c::w4::us.set i I):=z.ap.set (k:=i+4) (v:=I) (n:=H.n) a1 W.new (fun x U b E=>(z.inl U E).2);have a6:t7 K (S+1) 1 (u9 fun u=>[u]) (sL D n c) (us.set i I):=⟨us.set i I,.inr ⟨D,c,by rw[a4,aaZ],gK,oM,by simp⟩,Jr _⟩
 have a5:t7 K (S+1) 1 (u9 stE) I l':=hO.same fun b E=>eK b (a8 b E);rw[<-hK];refine⟨U0 O H K,w1,w2,sL D n c,w4,us.set i I,⟨?_,ho w1 0 rfl oM oM z.n,ho w2 1 rfl oM oM z.a,a6,by rw[aaZ,aaZ];exact z.len,by rw[aaZ];exact z.al,fun j x m U hm=>?_,ho w4 3 rfl oM oM z.t,a2,fun w hw b E=>?_,fun b E=>?_⟩,fun b E=>E.imp id fun h=>h.1,.inr ⟨D,.inr (z.o _ sM D J),by rw[hK,A5];omega⟩,fun j X h1 h2=>by rw[eK j (fun q=>h2 (q▸z.o _ sM D J)),W.but j X (fun q=>h2 (z.o u (by simp [mG hu]) j q))],by rw[hK];exact(W.stay.wk oM).trans (d9.put oM),by rw[hK,A5];omega⟩
 .rw[eK S oM,W.but S oM (fun q=>by have:=z.inl (w:=u) (by simp [mG hu]) q;omega)];exact z.g
 .simp only at hm;rw[abb]at U hm;by_cases X:i=j
  .rw[cA X]at U hm;split at U
   .split at hm
    .cases U;cases hm;exact a5
    .cases hm
   .cases U
  .rw[bt X]at U hm;exact ho x (j+4) U oM oM (z.u j x m U hm)
 .by_cases h:w∈w1::w2::sL D n c::w4::us
  .exact .inl (z.o w h b E)
  .have:w=I:=by
    apply aaN;intro hv;apply h;have a7:w=w1\/w=w2\/w=sL D n c\/w=w4\/w∈us.set i I:=by simpa only[aam] using hw
    rcases a7 with q|q|q|q|q
    .simp [q]
    .simp [q]
    .simp [q]
    .simp [q]
    .rcases acj q with q|q
     .simp [q]
     .exact absurd q hv
   rw[this]at E;rcases W.new b E with r|r
   .exact .inl (z.o u (by simp [mG hu]) b r)
   .exact .inr ⟨r,by have:=hO.lt E;omega⟩
 .rcases E with E|E
  .have:=z.lt b E;omega
  .omega
def Sm(s:SpD)(m:Nat):Prop:=s.names.length<=m/\s.attrs.length<=m/\(∀l∈s.vals,l.length<=m)/\s.texts.length<=m
def Dm(l:List (aes×aes))(x:aes×aes):(aQ l x).length<=l.length+1:=by unfold aQ;split<;>simp
def sV(l:List aes)(x:aes):(ef l x).length<=l.length+1:=by unfold ef;split<;>simp
def GC{s:SpD}(h:Sm s m)(n:aes×aes):Sm (O8 s n) (m+1):=by
 obtain⟨D,E,z,I⟩:=h;unfold O8;split
 .exact⟨oM,oM,fun l u=>by have:=z l u;omega,oM⟩
 .refine⟨by show s.names.length<=_;omega,by simp;omega,fun l u=>?_,by show s.texts.length<=_;omega⟩;rcases ns.1 u with u|u
  .have:=z l u;omega
  .rw[aad.1 u];simp
def td{s:SpD}(h:Sm s m)(n:aes×aes):(∀l∈(O8 s n).vals,l.length<=m)/\(O8 s n).names.length<=m/\(O8 s n).texts.length<=m/\(O8 s n).attrs.length<=m+1:=by
 obtain⟨z,I,D,E⟩:=h;unfold O8;split
 .exact⟨D,z,E,oM⟩
 .refine⟨fun l u=>?_,z,E,by simp;omega⟩;rcases ns.1 u with u|u
  .exact D l u
  .rw[aad.1 u];simp
def yY{s:SpD}(h:Sm s m)(q:Q):Sm (N7 s q) (m+1):=by
 have D:=h;obtain⟨S,U,I,W⟩:=h;have z:Sm s (m+1):=⟨oM,oM,fun l u=>by have:=I l u;omega,oM⟩
 unfold N7;split
 .exact⟨by have:=Dm s.names (qNm q);show(aQ s.names (qNm q)).length<=_;omega,z.2⟩
 split
 .exact GC D _
 split
 .obtain⟨E,X,k4,O⟩:=td D (qNm q);refine⟨by show(O8 s (qNm q)).names.length<=_;omega,O,fun l u=>?_,by show(O8 s (qNm q)).texts.length<=_;omega⟩;rcases acj u with u|u
  .have:=E l u;omega
  .rw[u];have:=sV ((O8 s (qNm q)).vals.getD (ixN (O8 s (qNm q)).attrs (qNm q)) []) q.vl;have:((O8 s (qNm q)).vals.getD (ixN (O8 s (qNm q)).attrs (qNm q)) []).length<=m:=by
    rw[ma];cases J:(O8 s (qNm q)).vals[ixN (O8 s (qNm q)).attrs (qNm q)]? with
    |none=>simp
    |some l=>exact E l (mG J)
   omega
 split
 .exact⟨z.1,z.2.1,z.2.2.1,by have:=sV s.texts q.vl;show(ef s.texts q.vl).length<=_;omega⟩
 .exact z
def eF(l:List Q):∀{s:SpD}{m:Nat},Sm s m->Sm (l.foldl N7 s) (m+l.length):=by
 induction l with
 |nil=>intro s m h;exact h
 |cons x l u=>intro s m h;rw[aak,A1,show m+(l.length+1)=m+1+l.length from oM];exact u (yY h x)
def DA(s:SpD)(n:aes×aes):n∈(O8 s n).attrs:=by
 unfold O8;split
 next h=>exact T1.1 h
 .exact ns.2 (.inr (aad.2 rfl))
def Av(H1:d7)(I p3:Nat)(O:Nat->Prop)(s:SpD)(w1 w2 w3 w4:aet)(us:LV)(q:Q)(va wa:Option Addr)(ca c6:Nat)(X:dG H1 I O s w1 w2 w3 w4 us)(hs:Sm s 100000)(hp:p3≠I)(d4:¬O p3)(a1:LV)(a5:a1=[iV q.op,.string q.sp,.string q.lc,.string q.vl,.slice va q.a.length ca,.slice wa q.b.length c6])(U:H1.g p3=cE a1 1)
  (e:Env) (f0:e.g 0=pT I) (f3:e.g 3=pT p3) (W:e.g 10=iV q.op):
  u7 (LE prog l7 RG e H1) (fun o e H2=>o= .normal/\e.g 0=pT I/\e.g 3=pT p3/\iq I O s H1 H2 (N7 s q)):=by
 unfold RG;obtain⟨s1,s2,s3,s4⟩:=hs;have e6:=u5 X.g;have d3:=u5 U;have gg:=X.g;have a7:ldC (some true) (some 2) 1 a1=some (.agg (nmE (qNm q)).toArray):=by rw[a5];rfl
 have r3:a1[3]?=some (.string q.vl):=by rw[a5];rfl
 rcases b4:decide (q.op=4)with _|_;rcases b5:decide (q.op=5)with _|_;rcases b6:decide (q.op=6)with _|_;rcases b7:decide (q.op=7)with _|_
 .have h:N7 s q=s:=by
   unfold N7;rw[bt (dF b4),bt (dF b5),bt (dF b6),bt (dF b7)]
  refine J7 f0 f3 W b4 b5 b6 b7 ?_;rw[h];exact⟨O,w1,w2,w3,w4,us,X,oo.refl _ _ _ _⟩
 .have h:N7 s q={s with texts:=ef s.texts q.vl}:=by
   unfold N7;rw[bt (dF b4),bt (dF b5),bt (dF b6),cA (dT b7)]
  obtain⟨v',h',H2,D,S,hO,hG,hl⟩:=Gi H1 (I+1) w4 s.texts q.vl oM X.t oM;have n2:=hG.n;have g2:H2.g I=cE [w1,w2,w3,w4] 1:=(hG.but I oM (fun q=>by have:=X.inl (w:=w4) sM q;omega)).trans gg;obtain⟨a',c',e'⟩:=hO.slice;have cu:v'.cells.toList=[v']:=by rw[e'];rfl
  have ou:Value.oneCell' v'=true:=by rw[e'];rfl
  refine J15 f0 f3 W b4 b5 b6 b7 gg U r3 D S g2 cu ou ?_;rw[h];exact Ew X hO hG hl
 .have h:N7 s q={O8 s (qNm q)with vals:=(O8 s (qNm q)).vals.set (ixN (O8 s (qNm q)).attrs (qNm q)) (ef ((O8 s (qNm q)).vals.getD (ixN (O8 s (qNm q)).attrs (qNm q)) []) q.vl)}:=by
   unfold N7;rw[bt (dF b4),bt (dF b5),cA (dT b6)]
  obtain⟨_,h',H2,D,S,rfl,O2,x1,x2,x3,x4,ys,z,a3⟩:=Cn H1 I O s w1 w2 w3 w4 us (qNm q) X oM;have b8:=DA s (qNm q);obtain⟨c5,_⟩:=td (m:=100000) ⟨s1,s2,s3,s4⟩ (qNm q);obtain⟨sA,d6⟩:=eY (O8 s (qNm q));rw[<-d6]at D z a3 h b8 c5;obtain⟨J,b9⟩:=eY (ixN sA.attrs (qNm q));have a4:J<sA.vals.length:=by rw[b9,<-z.al];exact(AI _ _ b8).2.1
  rw[<-b9]at D h;have e7:=a3.stay.n;have a9:=z.g;have c8:H2.g p3=cE a1 1:=(a3.but p3 d3 hp d4).trans U;have c0:sA.vals[J]?=some (sA.vals.getD J []):=by rw[ma,yv a4];rfl
  have e2:=c5 _ (mG c0);obtain⟨u,hu⟩:∃u,ys[J]?=some u:=⟨_,yv (by rw[z.len];exact a4)⟩
  have d0:=z.u J u _ hu c0;obtain⟨v',e4,H3,b1,b2,b0,a2,d1⟩:=Gi H2 (I+1) u (sA.vals.getD J []) q.vl oM d0 oM;have hv:=z.v;obtain⟨E,c9,d5⟩:=hv;have e3:=Nz d5;subst e3;have d2:=z.len;rcases c9 with⟨_,q0,_⟩|⟨b3,c3,rfl,a6,e5,_⟩
  .omega
  have h3:j8 (sL b3 E.length c3) b3:=⟨_,_,rfl⟩
  have e8:=a2.n;have g3:H3.g I=cE [x1,x2,sL b3 E.length c3,x4] 1:=(a2.but I oM (fun q=>by have:=z.inl (w:=u) (by simp [mG hu]) q;omega)).trans a9;have a8:H3.g b3=cE E 1:=(a2.but b3 (u5 a6) (fun q=>z.ap (J+4) 2 u _ hu rfl oM b3 q h3)).trans a6;obtain⟨a',c',e'⟩:=b0.slice;have cu:v'.cells.toList=[v']:=by rw[e'];rfl
  have ou:Value.oneCell' v'=true:=by rw[e'];rfl
  have nt:(J:Int).toNat=J:=tN J;have c4:J<E.length:=oM;have i0:(0:Int)<=J:=oM;have i1:(J:Int)<E.length:=oM;have c7:J+1<=E.length:=c4;have e1:splice E J [v']=E.set J v':=rfl;refine J27 f0 f3 W b4 b5 b6 a9 c8 a7 r3 U D S a6 nt i0 i1 hu b1 b2 g3 a8 cu ou c7 @aaK e1 ?_;rw[h];obtain⟨O3,y1,y2,y3,y4,zs,R3,T3⟩:=Lq z hu b0 a2 d1;exact⟨O3,y1,y2,y3,y4,zs,R3,a3.trans (d9.refl _ _) lR oM T3⟩
 .have h:N7 s q=O8 s (qNm q):=by
   unfold N7;rw[bt (dF b4),cA (dT b5)]
  obtain⟨_,h',H2,D,S,rfl,hQ⟩:=Cn H1 I O s w1 w2 w3 w4 us (qNm q) X oM;refine J10 f0 f3 W b4 b5 gg U a7 D S ?_;rw[h];exact hQ
 .have h:N7 s q={s with names:=aQ s.names (qNm q)}:=by
   unfold N7;rw[cA (dT b4)]
  obtain⟨v',h',H2,D,S,hO,hG,hl⟩:=NY H1 (I+1) w1 s.names (qNm q) oM X.n oM;have n2:=hG.n;have g2:H2.g I=cE [w1,w2,w3,w4] 1:=(hG.but I oM (fun q=>by have:=X.inl (w:=w1) sM q;omega)).trans gg;obtain⟨a',c',e'⟩:=hO.slice;have cu:v'.cells.toList=[v']:=by rw[e'];rfl
  have ou:Value.oneCell' v'=true:=by rw[e'];rfl
  refine J12 f0 f3 W b4 gg U a7 D S g2 cu ou ?_;rw[h];exact Ev X hO hG hl
def gZ(fn:Nat)(f:Bool)(k:Nat):Prop:=∀(H:d7)(lo gb:Nat)(O:Nat->Prop)(s:SpD)(w1 w2 w3 w4:aet)(us cs:LV)(q:Q)(m:Nat),lo<=gb->dG H gb O s w1 w2 w3 w4 us->QR H lo k f cs q->Sm s m->m+nQ q<=100000->
 Ret (CL prog l7 fn [pT gb,.agg cs.toArray] H) H fun v H1=>v=undef/\iq gb O s H H1 ((fsQ f q).foldl N7 s)
def iQ(f:Bool)(l:List Q)(i:Nat)(x:Q)(h:l.drop i=x::l.drop (i+1)):fsL f (l.drop i)=fsQ f x++fsL f (l.drop (i+1)):=by rw[h,fsL]
def Wav(Wae:Bool)(k:Nat)(ih:gZ 96 false k)(H0:d7)(lo u:Nat)(b2:lo<=u)(b4:u<H0.n)(O0:Nat->Prop)(s0:SpD)(va:Option Addr)(ca:Nat)(l:List Q)(hv:QsR H0 lo k false (.slice va l.length ca) l)(hn:l.length<=1048576)(p3:aet)(S:SpD):
  ∀kk e H2,(∃(i:Nat)(s:SpD)(m:Nat),kk=l.length-i/\i<=l.length/\e.g 0=pT u/\e.g 3=p3/\e.g (Waa Wae 9 81)= .slice va l.length ca/\e.g (Waa Wae 10 82)=iV l.length/\e.g (Waa Wae 11 83)=iV i/\iq u O0 s0 H0 H2 s/\Sm s m/\m+nL (l.drop i)<=100000/\(fsL false (l.drop i)).foldl N7 s=S)->
  u7 (LE prog l7 (.loop (Waa Wae YZ OS)) e H2) (fun o e H2=>o= .exit (Waa Wae 0 3)/\e.g 0=pT u/\e.g 3=p3/\iq u O0 s0 H0 H2 S):=by
 cases Wae
 all_goals
  simp only[Waa,Wab,Wac,cond_true,cond_false]at *
  refine i5 _ _ ?_;rintro kk e H2 ⟨i,s,m,b6,hi,X,f3,fL,fM,fJ,hQ,I,z,fu⟩;rcases b:decide ((i:Int)<l.length)with _|_
  .have a6:=dF b;have:l.drop i=[]:=dN oM;rw[this,fsL,aaT]at fu;refine J6 X f3 fL fM fJ b ?_;exact i6 ⟨rfl,X,f3,by rw[<-fu];exact hQ⟩
  have a6:=dT b;obtain⟨O,w1,w2,w3,w4,us,hR,hT⟩:=hQ;have hS:=hT.stay;have b8:=hS.n;have a9:=u5 hR.g;obtain⟨x,nb,o,cs,own,el,hx,hd,rfl,b7,hg,b1,D,hr⟩:=hv.row (i:=i) oM;have b9:=mG hx;have nt:(i:Int).toNat=i:=tN i;simp only[qSz,aab,bF]at D hg b1;rw[iQ _ _ _ _ hd,aaV]at fu;have a8:m+(nQ x+nL (l.drop (i+1)))<=100000:=by rw[hd,nL]at z;exact z
  have a1:el.all oC=true:=I5 hr;have W:=hr.len;simp only[qSz,aab,bF]at W;have J:=Q6 hr;rw[W]at J;have gx:=(hS.g nb oM).trans hg;obtain⟨U,E,n3,g3,s3⟩:=pushP H2 (bC [iV 0,nS,nS] 1) (bC el 1);have l3:U.low<=H2.low:=by rw[E,A5,l9];omega
  have b3:splice [iV 0,nS,nS] 0 el=el:=y7 _ _ (by rw[W];rfl);have a2:∀j,j<lo->U.g j=H0.g j:=fun j hj=>by rw[s3.g j oM,hS.g j oM]
  have a3:dG U u O s w1 w2 w3 w4 us:=hR.keep (fun j hj=>s3.g j (by rcases hj with rfl|hj;exact a9;exact(hR.lt j hj).2)) (fun _ h=>h) (fun b hb=>by have:=hR.lt b hb;omega);obtain⟨v4,h4,H4,a7,b0,rfl,O4,x1,x2,x3,x4,ys,a4,a5⟩:=ih U lo u O s w1 w2 w3 w4 us el x m b2 a3 (hr.mono a2 lR) I oM;refine J18 X f3 fL fM fJ b gx nt D a1 W b3 E.symm g3 J a7 b0 @wrap_small ?_;have b5:=dL false x;exact d8 (kk-1) oM ⟨i+1,_,m+(fsQ false x).length,oM,oM,X,f3,fL,fM,rfl,⟨O4,x1,x2,x3,x4,ys,a4,hT.trans s3 l3 oM a5⟩,eF _ I,oM,fu⟩
def PK:=Wad (@Wav true)
def Ls:=Wad (@Wav false)
def Waw(Wae:Bool)(k:Nat)(ih:gZ 128 true k)(H0:d7)(lo u:Nat)(b2:lo<=u)(b4:u<H0.n)(O0:Nat->Prop)(s0:SpD)(va:Option Addr)(ca:Nat)(l:List Q)(hv:QsR H0 lo k true (.slice va l.length ca) l)(hn:l.length<=1048576)(p3:aet)(S:SpD):
  ∀kk e H2,(∃(i:Nat)(s:SpD)(m:Nat),kk=l.length-i/\i<=l.length/\e.g 0=pT u/\e.g 3=p3/\e.g (Waa Wae 20 70)= .slice va l.length ca/\e.g (Waa Wae 21 71)=iV l.length/\e.g (Waa Wae 22 72)=iV i/\iq u O0 s0 H0 H2 s/\Sm s m/\m+nL (l.drop i)<=100000/\(fsL true (l.drop i)).foldl N7 s=S)->
  u7 (LE prog l7 (.loop (Waa Wae Za OQ)) e H2) (fun o e H2=>o= .exit (Waa Wae 2 1)/\e.g 0=pT u/\e.g 3=p3/\iq u O0 s0 H0 H2 S):=by
 cases Wae
 all_goals
  simp only[Waa,Wab,Wac,cond_true,cond_false]at *
  refine i5 _ _ ?_;rintro kk e H2 ⟨i,s,m,b6,hi,X,f3,fL,fM,fJ,hQ,I,z,fu⟩;rcases b:decide ((i:Int)<l.length)with _|_
  .have a6:=dF b;have:l.drop i=[]:=dN oM;rw[this,fsL,aaT]at fu;refine J6 X f3 fL fM fJ b ?_;exact i6 ⟨rfl,X,f3,by rw[<-fu];exact hQ⟩
  have a6:=dT b;obtain⟨O,w1,w2,w3,w4,us,hR,hT⟩:=hQ;have hS:=hT.stay;have b8:=hS.n;have a9:=u5 hR.g;obtain⟨x,nb,o,cs,own,el,hx,hd,rfl,b7,hg,b1,D,hr⟩:=hv.row (i:=i) oM;have b9:=mG hx;have nt:(i:Int).toNat=i:=tN i;simp only[qSz,aab,bF]at D hg b1;rw[iQ _ _ _ _ hd,aaV]at fu;have a8:m+(nQ x+nL (l.drop (i+1)))<=100000:=by rw[hd,nL]at z;exact z
  have a1:el.all oC=true:=I5 hr;have W:=hr.len;simp only[qSz,aab,bF]at W;have J:=Q6 hr;rw[W]at J;have gx:=(hS.g nb oM).trans hg;obtain⟨U,E,n3,g3,s3⟩:=pushP H2 (bC [iV 0,.string eB,.string eB,.string eB,nS,nS] 1) (bC el 1);have l3:U.low<=H2.low:=by rw[E,A5,l9];omega
  have b3:splice [iV 0,.string eB,.string eB,.string eB,nS,nS] 0 el=el:=y7 _ _ (by rw[W];rfl);have a2:∀j,j<lo->U.g j=H0.g j:=fun j hj=>by rw[s3.g j oM,hS.g j oM]
  have a3:dG U u O s w1 w2 w3 w4 us:=hR.keep (fun j hj=>s3.g j (by rcases hj with rfl|hj;exact a9;exact(hR.lt j hj).2)) (fun _ h=>h) (fun b hb=>by have:=hR.lt b hb;omega);obtain⟨v4,h4,H4,a7,b0,rfl,O4,x1,x2,x3,x4,ys,a4,a5⟩:=ih U lo u O s w1 w2 w3 w4 us el x m b2 a3 (hr.mono a2 lR) I oM;refine J18 X f3 fL fM fJ b gx nt D a1 W b3 E.symm g3 J a7 b0 @wrap_small ?_;have b5:=dL true x;exact d8 (kk-1) oM ⟨i+1,_,m+(fsQ true x).length,oM,oM,X,f3,fL,fM,rfl,⟨O4,x1,x2,x3,x4,ys,a4,hT.trans s3 l3 oM a5⟩,eF _ I,oM,fu⟩
def PL:=Wad (@Waw true)
def Lr:=Wad (@Waw false)
def Uo(k:Nat)(a6:gZ 96 false k)(a7:gZ 128 true k):gZ 96 false (k+1):=by
 intro H lo gb O s w1 w2 w3 w4 us cs q m J D hr U a8;have b2:=im q;have a5:=u5 D.g;obtain⟨va,ca,wa,u,rfl,h1,h2,h3,h4⟩:=hr.path;obtain⟨E,I,-,hg,W⟩:=pushF H (bC [iV q.op,.slice va q.a.length ca,.slice wa q.b.length u] 1);have S:H.n<=E.low:=by rw[I,l9];exact lR
 have hn:=W.n;have b1:=u5 hg;have hm:∀j,j<lo->E.g j=H.g j:=fun j X=>W.g j oM;have a3:dG E gb O s w1 w2 w3 w4 us:=D.keep (fun j X=>W.g j (by rcases X with rfl|X;exact a5;exact(D.lt j X).2)) (fun _ h=>h) (fun b hb=>by have:=D.lt b hb;omega);rw[i8 VI rfl _ sM,iR,bt (by decide),aat];refine J2 I.symm hg ?_;refine j5 (F:=fun z=>Ret (t6 _ _ _ (u6 (inBlock 0 z) _)) _ _) (PK k a6 E lo gb J oM O s va ca q.a (h1.mono hm lR) h3 (pT H.n) ((fsL false q.a).foldl N7 s) q.a.length _ _ ⟨0,s,m,rfl,oM,rfl,rfl,rfl,rfl,rfl,⟨O,w1,w2,w3,w4,us,a3,oo.refl _ _ _ _⟩,U,by rw[aan];omega,rfl⟩) ?_;rintro o e' H2 ⟨ho,g0,g3,hQ⟩;have a1:=hQ;obtain⟨_,_,_,_,_,_,_,T⟩:=a1;have b0:=T.stay.n;have a4:H2.g H.n=cE [iV q.op,.slice va q.a.length ca,.slice wa q.b.length u] 1:=(T.but H.n oM oM (fun q=>by have:=D.lt _ q;omega)).trans hg;have a9:=lu false q.a;refine J4 ho g0 g3 a4 ?_;refine j5 (F:=fun z=>Ret (t6 _ _ _ (inBlock 2 z)) _ _) (PL k a7 E lo gb J oM O s wa u q.b (h2.mono hm lR) h4 (pT H.n) ((fsL false q.a++fsL true q.b).foldl N7 s) q.b.length _ _ ⟨0,_,m+(fsL false q.a).length,rfl,oM,g0,g3,rfl,rfl,rfl,hQ,eF _ U,by rw[aan];omega,by rw[aan,aaV]⟩) ?_;rintro o e' H3 ⟨ho,g0,g3,a2⟩;refine J1 ho ?_;exact oX W S D a2
def PJ(k:Nat)(b1:gZ 128 true k)(b2:gZ 96 false k):gZ 128 true (k+1):=by
 intro H lo gb O s w1 w2 w3 w4 us cs q m a3 E hr D b3;have b7:=im q;have a8:=u5 E.g;obtain⟨va,ca,wa,J,u,h1,h2,h3,h4,_⟩:=hr.filter;obtain⟨U,a1,-,hg,hS⟩:=pushF H (bC cs 1);have a4:H.n<=U.low:=by rw[a1,l9];exact lR
 have hn:=hS.n;have b6:=u5 hg;have hm:∀j,j<lo->U.g j=H.g j:=fun j hj=>hS.g j oM;have a6:dG U gb O s w1 w2 w3 w4 us:=E.keep (fun j hj=>hS.g j (by rcases hj with rfl|hj;exact a8;exact(E.lt j hj).2)) (fun _ h=>h) (fun b hb=>by have:=E.lt b hb;omega);have al:cs.all oC=true:=by rw[u];rfl
 have r0:cs[0]?=some (.int .i64 q.op):=by rw[u];rfl
 have r4:cs[4]?=some (.slice va q.a.length ca):=by rw[u];rfl
 have r5:cs[5]?=some (.slice wa q.b.length J):=by rw[u];rfl
 have b0:Sm s 100000:=⟨by have:=D.1;omega,by have:=D.2.1;omega,fun l hl=>by have:=D.2.2.1 l hl;omega,by have:=D.2.2.2;omega⟩
 rw[i8 HN rfl _ sM,iR,cA rfl,acG,aak,abd];refine J4 al a1.symm hg r0 ?_;refine j5 (F:=fun z=>Ret (t6 _ _ _ (u6 z _)) _ _) (Av U gb H.n O s w1 w2 w3 w4 us q va wa ca J a6 b0 oM (fun h=>by have:=E.lt _ h;omega) cs u hg _ rfl rfl rfl) ?_;rintro o e1 Hs ⟨rfl,W,X,a2⟩;have I:=yY D q;have S:=a2;obtain⟨_,_,_,_,_,_,_,T0⟩:=S;have b8:=T0.stay.n;have a9:Hs.g H.n=cE cs 1:=(T0.but H.n oM oM (fun q=>by have:=E.lt _ q;omega)).trans hg;refine J4 W X a9 r4 ?_;refine j5 (F:=fun z=>Ret (t6 _ _ _ (u6 (inBlock 1 z) _)) _ _) (Lr k b1 U lo gb a3 oM O s va ca q.a (h1.mono hm lR) h3 (pT H.n) ((fsL true q.a).foldl N7 (N7 s q)) q.a.length _ _ ⟨0,N7 s q,m+1,rfl,oM,W,X,rfl,rfl,rfl,a2,I,by rw[aan];omega,rfl⟩) ?_;rintro o e' H2 ⟨ho,W,X,hQ⟩;have S:=hQ;obtain⟨_,_,_,_,_,_,_,T⟩:=S;have b5:=T.stay.n;have a7:H2.g H.n=cE cs 1:=(T.but H.n oM oM (fun q=>by have:=E.lt _ q;omega)).trans hg;have b4:=lu true q.a;refine J5 ho W X a7 r5 ?_;refine j5 (F:=fun z=>Ret (t6 _ _ _ (inBlock 3 z)) _ _) (Ls k b2 U lo gb a3 oM O s wa J q.b (h2.mono hm lR) h4 (pT H.n) ((fsL true q.a++fsL false q.b).foldl N7 (N7 s q)) q.b.length _ _ ⟨0,_,m+1+(fsL true q.a).length,rfl,oM,W,X,rfl,rfl,rfl,hQ,eF _ I,by rw[aan];omega,by rw[aan,aaV]⟩) ?_;rintro o e' H3 ⟨ho,W,X,a5⟩;refine J1 ho ?_;exact oX hS a4 E a5
def Lt:∀k,gZ 96 false k/\gZ 128 true k:=by
 intro k;induction k with
 |zero=>exact⟨fun H lo z O s w1 w2 w3 w4 us cs q m _ _ u=>u.elim,fun H lo z O s w1 w2 w3 w4 us cs q m _ _ u=>u.elim⟩
 |succ k h=>exact⟨Uo k h.1 h.2,PJ k h.2 h.1⟩
structure SpO(H:d7)(lo:Nat)(O:Nat->Prop)(s:SpD)(w1 w2 w3 w4:aet)(us:LV):Prop where
 n:t7 H lo 2 (u9 nmE) w1 s.names
 a:t7 H lo 2 (u9 nmE) w2 s.attrs
 v:t7 H lo 1 (u9 fun u=>[u]) w3 us
 len:us.length=s.vals.length
 u:∀(i:Nat)(u:aet)(l:List aes),us[i]?=some u->s.vals[i]?=some l->t7 H lo 1 (u9 stE) u l
 t:t7 H lo 1 (u9 stE) w4 s.texts
 ap:dy (w1::w2::w3::w4::us)
 o:∀w∈w1::w2::w3::w4::us,∀b,j8 w b->O b
 lt:∀b,O b->lo<=b/\b<H.n
def SpO.keep{H H':d7}{lo D:Nat}{s:SpD}(h:SpO H lo O s w1 w2 w3 w4 us)(E:∀j,O j->H'.g j=H.g j) (X:∀b,O b->J b) (U:∀b,J b->D<=b/\b<H'.n) (I:D<=lo):SpO H' D J s w1 w2 w3 w4 us:=
 ⟨(h.n.same fun b z=>E b (h.o _ sM b z)).wk I,(h.a.same fun b z=>E b (h.o _ sM b z)).wk I,(h.v.same fun b z=>E b (h.o _ sM b z)).wk I,h.len,
  fun i u l W S=>((h.u i u l W S).same fun b z=>E b (h.o _ (by simp [mG W]) b z)).wk I,(h.t.same fun b z=>E b (h.o _ sM b z)).wk I,h.ap,fun w hw b z=>X b (h.o w hw b z),U⟩
def dG.spo{H:d7}{s:SpD}(h:dG H z O s w1 w2 w3 w4 us):SpO H (z+1) O s w1 w2 w3 w4 us:=⟨h.n,h.a,h.v,h.len,h.u,h.t,h.ap,h.o,fun b D=>h.lt b D⟩
def yV(k:Nat)(H0:d7)(lo u:Nat)(b2:lo<=u)(b4:u<H0.n)(O0:Nat->Prop)(s0:SpD)(va:Option Addr)(ca:Nat)(l:List Q)(hv:QsR H0 lo k false (.slice va l.length ca) l)(hn:l.length<=1048576)(p2:aet)(S:SpD):
  ∀kk e H2,(∃(i:Nat)(s:SpD)(m:Nat),kk=l.length-i/\i<=l.length/\e.g 3=pT u/\e.g 2=p2/\e.g 6= .slice va l.length ca/\e.g 7=iV l.length/\e.g 8=iV i/\iq u O0 s0 H0 H2 s/\Sm s m/\m+nL (l.drop i)<=100000/\(fsL false (l.drop i)).foldl N7 s=S)->
  u7 (LE prog l7 (.loop Sj) e H2) (fun o e H2=>o= .exit 0/\e.g 3=pT u/\e.g 2=p2/\iq u O0 s0 H0 H2 S):=by
 refine i5 _ _ ?_;rintro kk e H2 ⟨i,s,m,b6,hi,X,f3,fL,fM,fJ,hQ,I,z,fu⟩;rcases b:decide ((i:Int)<l.length)with _|_
 .have a6:=dF b;have:l.drop i=[]:=dN oM;rw[this,fsL,aaT]at fu;refine J6 X f3 fL fM fJ b ?_;exact i6 ⟨rfl,X,f3,by rw[<-fu];exact hQ⟩
 have a6:=dT b;obtain⟨O,w1,w2,w3,w4,us,hR,hT⟩:=hQ;have hS:=hT.stay;have b8:=hS.n;have a9:=u5 hR.g;obtain⟨x,nb,o,cs,own,el,hx,hd,rfl,b7,hg,b1,D,hr⟩:=hv.row (i:=i) oM;have nt:(i:Int).toNat=i:=tN i;simp only[qSz,bF]at D hg b1;rw[iQ _ _ _ _ hd,aaV]at fu;have a8:m+(nQ x+nL (l.drop (i+1)))<=100000:=by rw[hd,nL]at z;exact z
 have a1:el.all oC=true:=I5 hr;have W:=hr.len;simp only[qSz,bF]at W;have J:=Q6 hr;rw[W]at J;have gx:=(hS.g nb oM).trans hg;obtain⟨U,E,n3,g3,s3⟩:=pushP H2 (bC [iV 0,nS,nS] 1) (bC el 1);have l3:U.low<=H2.low:=by rw[E,A5,l9];omega
 have b3:splice [iV 0,nS,nS] 0 el=el:=y7 _ _ (by rw[W];rfl);have a2:∀j,j<lo->U.g j=H0.g j:=fun j hj=>by rw[s3.g j oM,hS.g j oM]
 have a3:dG U u O s w1 w2 w3 w4 us:=hR.keep (fun j hj=>s3.g j (by rcases hj with rfl|hj;exact a9;exact(hR.lt j hj).2)) (fun _ h=>h) (fun b hb=>by have:=hR.lt b hb;omega);obtain⟨v4,h4,H4,a7,b0,rfl,O4,x1,x2,x3,x4,ys,a4,a5⟩:=(Lt k).1 U lo u O s w1 w2 w3 w4 us el x m b2 a3 (hr.mono a2 lR) I oM;refine J18 X f3 fL fM fJ b gx nt D a1 W b3 E.symm g3 J a7 b0 @wrap_small ?_;have b5:=dL false x;exact d8 (kk-1) oM ⟨i+1,_,m+(fsQ false x).length,oM,oM,X,f3,fL,fM,rfl,⟨O4,x1,x2,x3,x4,ys,a4,hT.trans s3 l3 oM a5⟩,eF _ I,oM,fu⟩
def Rc(H:d7)(lo k:Nat)(v:aet)(l:List Q)(b9:lo<=H.n)(hv:QsR H lo k false v l)(b7:nL l<=100000)(hn:l.length<=1048576):
  Ret (CL prog l7 57 [v] H) H fun w S=>∃w1 w2 w3 w4 us O,w= .agg #[w1,w2,w3,w4]/\SpO S H.n O ((fsL false l).foldl N7 ⟨[],[],[],[]⟩) w1 w2 w3 w4 us/\d9 H.n H S:=by
 obtain⟨va,ca,rfl⟩:=SlI.slice hv;obtain⟨W,a5⟩:=eY ([nS,nS,nS,nS]:LV);obtain⟨S,J⟩:=eY ((d7.push ⟨H.bs,H.n⟩ (bC W 1)).push (bC W 1));have n0:(d7.push ⟨H.bs,H.n⟩ (bC W 1)).n=H.n+1:=by rw[i4];rfl
 have n1:S.n=H.n+2:=by rw[J,i4,n0]
 have hS:d9 H.n H S:=by rw[J];exact(d9.first H _).trans (d9.push oM)
 have g1:S.g H.n=cE W 1:=by rw[J,i9 oM];exact j7
 have g2:S.g (H.n+1)=cE W 1:=by rw[J];exact y9 oM
 have a7:H.n<=S.low:=by rw[J,l9,l9];exact lR
 have hm:∀j,j<lo->S.g j=H.g j:=fun j hj=>hS.g j oM;have a6:dy ([nS,nS,nS,nS]:LV):=fun i j a b ha U b8 x hx hy=>by
  have:a=nS:=by
   have:=mG ha
   simpa using this
  rw[this]at hx;exact C2 x hx
 have a9:∀w∈([nS,nS,nS,nS]:LV),∀b,j8 w b->False:=fun w hw b U=>by
  have:w=nS:=by simpa using hw
  rw[this]at U;exact C2 b U
 have b3:dG S (H.n+1) (fun _=>False) ⟨[],[],[],[]⟩ (nS) (nS) (nS) (nS) []:=⟨by rw[g2,a5],t7.nil,t7.nil,t7.nil,rfl,rfl,fun i u l hu=>(by cases hu),t7.nil,a6,a9,fun b U=>U.elim⟩
 rw[i8 HQ rfl _ sM];refine J2 a5.symm J.symm ?_;refine j5 (F:=fun z=>Ret (t6 _ _ _ (u6 (inBlock 0 z) _)) _ _) (yV k S lo (H.n+1) oM oM (fun _=>False) ⟨[],[],[],[]⟩ va ca l (SlI.mono hv hm lR fun _ _ h=>h.mono hm lR) hn (pT H.n) _ l.length _ _ ⟨0,⟨[],[],[],[]⟩,0,rfl,oM,rfl,rfl,rfl,rfl,rfl,⟨_,_,_,_,_,_,b3,oo.refl _ _ _ _⟩,⟨lR,lR,fun l hl=>(by cases hl),lR⟩,by rw[aan];omega,rfl⟩) ?_;rintro o e' H2 ⟨ho,q3,q2,O,w1,w2,w3,w4,us,I,hT⟩;rw[aan]at I hT;have n2:=hT.stay.n;have gg:=I.g;have b2:H2.g H.n=cE W 1:=(hT.stay.g _ oM).trans g1;obtain⟨a1,c1,e1⟩:=I.n.slice;obtain⟨a2,c2,e2⟩:=I.a.slice;obtain⟨a3,c3,e3⟩:=I.v.slice;obtain⟨a4,c4,e4⟩:=I.t.slice;obtain⟨E,D⟩:∃r,r=[w1,w2,w3,w4]:=eX;rw[<-D]at gg;have b5:ldC (some true) (some 4) 0 E=some (.agg E.toArray):=by rw[D];rfl
 have b1:E.all oC=true:=by rw[D,e1,e2,e3,e4];rfl
 have l4:E.length=4:=by rw[D];rfl
 have lz:W.length=4:=by rw[a5];rfl
 have b6:splice W 0 E=E:=y7 _ _ (by rw[l4,lz]);obtain⟨H3,X⟩:=eY (H2.put H.n (bC E 1));have n3:H3.n=H2.n:=by rw[X,j9]
 have g3:H3.g H.n=cE E 1:=by rw[X];exact i7 oM
 have b0:d9 H.n S H3:=by rw[X];exact(hT.stay.wk oM).trans (d9.put lR)
 have b4:=b0.low a7;refine J12 ho q3 q2 gg b5 b2 l4 lz b1 b6 X.symm g3 ?_;have a8:SpO H3 H.n O _ w1 w2 w3 w4 us:=I.spo.keep (fun j hj=>by rw[X,j6 (oN (I.lt j hj))]) (fun _ h=>h) (fun b U=>by have:=I.lt b U;omega) oM;refine bG (fun hc=>?_) ?_
 .rw[D]at hc;simp only[aaE,abQ,aa9,gk]at hc;obtain⟨z1,y1⟩:=cD I.n hc.1;obtain⟨z2,y2⟩:=cD I.a hc.2.1;obtain⟨z3,y3⟩:=cD I.v hc.2.2.1;obtain⟨W,y4⟩:=cD I.t hc.2.2.2;have y5:=I.len;rw[y3]at y5;have y6:=aag.1 y5.symm;refine⟨w1,w2,w3,w4,[],fun _=>False,by rw[D],⟨?_,?_,?_,(by rw[y6];rfl),fun i u l hu=>(by cases hu),?_,(by rw[z1,z2,z3,W];exact a6),fun w hw b U=>?_,fun b U=>U.elim⟩,d9.refl _ _⟩
  .rw[y1,z1];exact t7.nil
  .rw[y2,z2];exact t7.nil
  .rw[z3];exact t7.nil
  .rw[y4,W];exact t7.nil
  .rw[z1,z2,z3,W]at hw;have:w=nS:=by simpa using hw
   rw[this]at U;exact C2 b U
 .exact⟨w1,w2,w3,w4,us,O,by rw[D],a8.keep (fun _ _=>rfl) (fun _ h=>h) a8.lt lR,(hS.trans b0).ret b4⟩
def S7:List (NmQ×List aes)->EvD->List EvD
 |[],e=>[e]
 |x::r,e=>S7 r e++(Q7 x.2).flatMap fun v=>S7 r (atV x.1 e v)
def HW(l:List aes):Q7 l=l++[frS l eB [eB]]:=by
 have u:∀n,eB++dg n=dg n:=fun n=>by
  have z:=Y9 eB (dg n);exact uO (by rw[z];rfl)
 have D:frN l eB=U5 l:=by unfold frN U5;simp only[u]
 rw[Q7,frS,acE];cases h:X2 l eB with
 |true=>simp [D,u]
 |false=>simp
structure zp(H:d7)(G:Nat->Prop)(pw pf:Nat)(fv:aet)(s:SpD)(w1 w2 w3 w4:aet):Prop where
 gw:H.g pw=cE [w1,w2,w3,w4] 1
 gf:H.g pf=cE [fv] 1
 iw:G pw
 jf:G pf
 a:SlF H G 2 (u9 nmE) w2 s.attrs
 v:SlF H G 1 (VlF H G) w3 s.vals
 len:s.vals.length=s.attrs.length
 al:s.attrs.length<=1000
 vl:∀x∈s.vals,x.length<=90
def zp.mono{H H':d7}{s:SpD}(h:zp H G pw D E s w1 w2 w3 w4)(z:∀j,G j->H'.g j=H.g j) (u:∀j,G j->G' j):zp H' G' pw D E s w1 w2 w3 w4:=
 ⟨(z pw h.iw).trans h.gw,(z D h.jf).trans h.gf,u _ h.iw,u _ h.jf,h.a.mono z u iF,h.v.mono z u (fun _ _ h=>h.mono z u),h.len,h.al,h.vl⟩
structure ir(H:d7)(po:Nat)(G:Nat->Prop)(w:aet)(l:List EvD):Prop where
 g:H.g po=cE [w] 1
 own:t7 H (po+1) 5 (EvF H G) w l
 ap:∀j,G j->j<H.n/\j≠po/\¬j8 w j
structure fd(po:Nat)(G0:Nat->Prop)(w0:aet)(H0:d7)(G:Nat->Prop)(w:aet)(H:d7):Prop where
 sub:∀j,G0 j->G j
 new:∀j,G j->G0 j\/H0.n<=j
 but:∀j,j<H0.n->j≠po->¬j8 w0 j->H.g j=H0.g j
 neww:∀b,j8 w b->j8 w0 b\/H0.n<=b
 stay:d9 po H0 H
def fd.refl(po:Nat)(G:Nat->Prop)(w:aet)(H:d7):fd po G w H G w H:=⟨fun _ h=>h,fun _ h=> .inl h,fun _ _ _ _=>rfl,fun _ h=> .inl h,d9.refl _ _⟩
def fd.trans{po:Nat}{H0 D H2:d7}(h:fd po z w0 H0 G1 w1 D)(k:fd po G1 w1 D G2 w2 H2):fd po z w0 H0 G2 w2 H2:=by
 have O:=h.stay.n;refine⟨fun j u=>k.sub j (h.sub j u),fun j u=>?_,fun j u E I=>?_,fun b J=>?_,h.stay.trans k.stay⟩
 .rcases k.new j u with q|q
  .exact h.new j q
  .exact .inr oM
 .rw[k.but j oM E (fun q=>by rcases h.neww j q with r|r;exact I r;omega),h.but j u E I]
 .rcases k.neww b J with q|q
  .exact h.neww b q
  .exact .inr oM
def ir.push{H D:d7}{po:Nat}{w:aet}(h:ir H po G w l)(z:d9 H.n H D)(I:∀j,G j->G1 j) (J:∀j,G1 j->G j\/(H.n<=j/\j<D.n)):ir D po G1 w l/\fd po G w H G1 w D:=by
 have S:=z.n;have E:=u5 h.g;refine⟨⟨(z.g po E).trans h.g,(h.own.keep z).imp fun cs a q=>A0 _ _ _ _ _ _ q (fun j u=>z.g j (h.ap j u).1) I,fun j u=>?_⟩,I,fun j u=>(J j u).imp id fun q=>q.1,fun j u _ _=>z.g j u,fun b O=> .inl O,z.wk oM⟩;rcases J j u with q|q
 .have:=h.ap j q;exact⟨oM,this.2⟩
 .exact⟨q.2,oM,fun r=>by have:=h.own.lt r;omega⟩
def ir.add{H:d7}{po:Nat}{w:aet}(h:ir H po G w l){e:EvD}(W:EvF H G u e)(hl:l.length<=1000000):
  ∃v' I H',A8 prog (H.push (bC u 5)) [26,26] w (sL H.n 1 1)=dw v' I/\I.getD (H.push (bC u 5))=H'/\H'.g po=cE [w] 1/\(∃a c,v'= .slice a (l++[e]).length c)/\
   ir (H'.put po (bC [v'] 1)) po G v' (l++[e])/\fd po G w H G v' (H'.put po (bC [v'] 1)):=by
 have O:=u5 h.g;have E:u.length=5:=by obtain⟨v,rfl,_⟩:=W;rfl
 obtain⟨v',I,H',r1,r2,J,z⟩:=h.own.push1F (P:=prog) (t:=26) (cs:=u) (a:=e) (by exact fq.2.2.2.2.2.2) mj.1 mj.2.1 mj.2.2.1 oM oM E W oM oM;have hn:=z.n;have nb:¬j8 w po:=fun q=>oN (h.own.lt q);have X:=(z.but po O nb).trans h.g;have nv:¬j8 v' po:=fun q=>oN (J.lt q);have S:∀j,j<H.n->j≠po->¬j8 w j->(H'.put po (bC [v'] 1)).g j=H.g j:=fun j D h1 h2=>by rw[j6 (fun q=>h1 q.symm),z.but j D h2]
 refine⟨v',I,H',r1,r2,X,J.slice,⟨i7 oM,(J.same fun b U=>j6 (fun q=>by rw[<-q]at U;exact nv U)).imp fun cs a q=>A0 _ _ _ _ _ _ q (fun j D=>by have:=h.ap j D;exact S j this.1 this.2.1 this.2.2) (fun _ h=>h),fun j D=>?_⟩,fun _ h=>h,fun _ h=> .inl h,S,z.new,(z.stay.wk oM).trans (d9.put lR)⟩;have:=h.ap j D;refine⟨by rw[j9];omega,this.2.1,fun q=>?_⟩;rcases z.new j q with r|r
 .exact this.2.2 r
 .omega
abbrev Eu(pw po pf:Nat):aet:= .func (.func 59) #[] #[pT pw,pT po,pT pf]
def pt(rest:List (NmQ×List aes)):Prop:=∀(H:d7)(pw po pf i:Nat)(G:Nat->Prop)(s:SpD)(w1 w2 w3 w4 w:aet)(l:List EvD)(row:LV)(e:EvD),
 zp H G pw pf (Eu pw po pf) s w1 w2 w3 w4->ir H po G w l->EvF H G row e->(s.attrs.zip s.vals).drop i=rest->i+rest.length=s.attrs.length->l.length+(S7 rest e).length<=1000000->e.attrs.length+rest.length<=1000->
 Ret (CL prog l7 59 [.agg row.toArray,iV i,pT pw,pT po,pT pf] H) H fun v H1=>v=undef/\∃G' w',ir H1 po G' w' (l++S7 rest e)/\fd po G w H G' w' H1/\H1.low<=po
def wS{H z H':d7}{po:Nat}{w D:aet}(X:po<H.n)(hw:∀b,j8 w b->po+1<=b/\b<H.n) (S:d9 H.n H z) (I:fd po G w H G1 w z)  (E:ir H' po G' D l) (U:fd po G1 w z G' D H') (O:H'.low<=po) (J:H.n<=z.low):
  Ret (some (E7 undef H H')) H fun v z=>v=undef/\∃G' D,ir z po G' D l/\fd po G w H G' D z/\z.low<=po:=by
 refine F9 (fun _ hl=>oM) ⟨rfl,G',D,⟨E.g,E.own.low _ |>.imp fun cs a q=>A0 _ _ _ _ _ _ q (fun _ _=>rfl) (fun _ h=>h),E.ap⟩,?_,by show min H.low H'.low<=po;omega⟩;have u:=I.trans U;refine⟨u.sub,u.new,u.but,u.neww,⟨u.stay.n,fun k W q=>?_,u.stay.g⟩⟩;have:=u.stay.lowAll k W q;show k<=min H.low H'.low;omega
def Rx:pt []:=by
 intro H pw po pf i G s w1 w2 w3 w4 w l u e hC O he hd hi hl b4;have b0:=u5 O.g;have a8:=he;obtain⟨av,z,a6⟩:=a8;obtain⟨b2,b3,rfl⟩:=a6.slice;obtain⟨aa,ac,rfl⟩:=hC.a.slice;have ar:u.all oC=true:=by rw[z];rfl
 have lr:u.length=5:=by rw[z];rfl
 have b1:ldC (some true) (some 5) 0 u=some (.agg u.toArray):=by rw[z];rfl
 obtain⟨E,I,n1,g1,hS⟩:=pushF H (bC u 1);have X:H.n<=E.low:=by rw[I];exact lR
 obtain⟨S,a5⟩:=O.push (G1:=G) hS (fun _ h=>h) (fun _ h=> .inl h);have a4:=hC.mono (H':=E) (fun j hj=>hS.g j (O.ap j hj).1) (fun _ h=>h);have a7:=A0 _ _ _ _ _ _ he (fun j hj=>hS.g j (O.ap j hj).1) (fun _ h=>h);obtain⟨v',h',H3,r1,r2,g3,⟨a',c',e'⟩,U,W⟩:=S.add a7 (by rw[S7]at hl;simp at hl;omega);obtain⟨H2,J⟩:=eY (E.push (bC u 5));rw[<-J]at r1 r2;have a1:bsA prog (some 46) E 1 [(0,.agg u.toArray)]=some (sL E.n 1 1,H2):=by
  rw[J];simp only[E5,mj,E6];rw[z];rfl
 obtain⟨H4,D⟩:=eY (H3.put po (bC [v'] 1));rw[<-D]at U W;have cu:v'.cells.toList=[v']:=by rw[e'];rfl
 have ou:Value.oneCell' v'=true:=by rw[e'];rfl
 have a9:H4.low<=po:=by rw[D,A5];omega
 have bi:decide ((i:Int)=s.attrs.length)=true:=yo (by simp at hi;omega);have a3:=a4.gw;have a2:=S.g;have q1:∀a b c d:aet,[a,b,c,d][1]?=some b:=fun _ _ _ _=>rfl;rw[i8 TY rfl _ sM];refine J15 ar I.symm a3 q1 bi g1 b1 a2 a1 r1 r2 g3 cu ou D.symm ?_;exact wS b0 (fun b hb=>O.own.lt hb) hS a5 U W a9 X
def It(n:NmQ)(l6:List aes)(rest:List (NmQ×List aes))(ih:pt rest)(H0:d7)(pw po pf pe i:Nat)(I:Nat->Prop)(s:SpD)(w1 w2 w3 w4 w0:aet)(u:LV)(e0:EvD)(va:Option Addr)(ca:Nat)(J:List aes)
  (E:zp H0 I pw pf (Eu pw po pf) s w1 w2 w3 w4) (c9:∀j,I j->j<H0.n/\j≠po/\¬j8 w0 j) (l3:po<H0.n) (he:EvF H0 I u e0) (d6:I pe) (g9:H0.g pe=cE u 1) (hv:SlF H0 I 1 (u9 stE) (.slice va J.length ca) J) (l5:J.length<=1000) (l4:1<=J.length)
  (hd:(s.attrs.zip s.vals).drop (i+1)=rest) (hi:i+1+rest.length=s.attrs.length) (hn:s.attrs[i]?=some n) (k4:e0.attrs.length+1+rest.length<=1000) (a4:List EvD):
  ∀kk e H2,(∃(j:Nat)(G:Nat->Prop)(w:aet)(l:List EvD),kk=J.length-j/\j<=J.length/\e.g 1=iV i/\e.g 2=pT pw/\e.g 4=pT pf/\e.g 5=pT pe/\e.g 40= .slice va J.length ca/\e.g 41=iV J.length/\e.g 42=iV j/\
    ir H2 po G w l/\fd po I w0 H0 G w H2/\(j=0\/H2.low<=po)/\l++((J.drop j).flatMap fun v=>S7 rest (atV n e0 v))=a4/\a4.length<=1000000)->
  u7 (LE prog l7 (.loop Sq) e H2) (fun o e H2=>o= .exit 0/\∃(G:Nat->Prop)(w:aet),ir H2 po G w a4/\fd po I w0 H0 G w H2/\H2.low<=po):=by
 refine i5 _ _ ?_;rintro kk e H2 ⟨j,G,w,l,k8,D,f1,f2,f4,f5,a7,a8,b6,hO,hT,l1,fu,e1⟩;rcases b:decide ((j:Int)<J.length)with _|_
 .have g4:=dF b;have:J.drop j=[]:=dN oM;rw[this,abu,aaq]at fu;refine J8 f1 f2 f4 f5 a7 a8 b6 b ?_;exact i6 ⟨rfl,G,w,by rw[<-fu];exact hO,hT,oM⟩
 have g4:=dT b;have fr:∀j,I j->H2.g j=H0.g j:=fun j D=>by have:=c9 j D;exact hT.but j this.1 this.2.1 this.2.2
 have nx:=hT.stay.n;obtain⟨v,nb,o,cs,own,k1,hx,g5,rfl,hF,hg,k9,j2,hc,rfl⟩:=hv.row (i:=j) oM;have c0:=hc 0 oM;rw[aaf]at c0;have h7:(j:Int).toNat=j:=tN j;rw[g5,aaI,<-aaX]at fu;have gv:=(fr nb hF).trans hg;have k2:=E.mono fr hT.sub;obtain⟨av,W,d0⟩:=A0 _ _ _ _ _ _ he fr hT.sub;obtain⟨b3,b4,rfl⟩:=d0.slice;have j1:po<H2.n:=oM;have ar:u.all oC=true:=by rw[W];rfl
 have lr:u.length=5:=by rw[W];rfl
 have h4:ldC (some true) (some 5) 0 u=some (.agg u.toArray):=by rw[W];rfl
 have r3:u[3]?=some (.slice b3 e0.attrs.length b4):=by rw[W];rfl
 have b9:=(fr pe d6).trans g9;obtain⟨Ha,c7,na,g8,-⟩:=pushE H2 (bC [iV 0,.string eB,.string eB,nS,.string eB] 1);obtain⟨H3,a2⟩:=eY (Ha.put H2.n (bC u 1));have n3:H3.n=H2.n+1:=by rw[a2,j9,na]
 have s3:d9 H2.n H2 H3:=by rw[a2,c7];exact(d9.push lR).trans (d9.put lR)
 have g3:H3.g H2.n=cE u 1:=by rw[a2];exact i7 oM
 have h9:splice [iV 0,.string eB,.string eB,nS,.string eB] 0 u=u:=y7 _ _ (by rw[lr];rfl);have b1:∀j,I j->j<H2.n:=fun j D=>oN (c9 j D);have a1:∀j,I j->H3.g j=H2.g j:=fun j D=>s3.g j (b1 j D);have e7:=(a1 pe d6).trans b9;have c4:=(a1 pw E.iw).trans ((fr pw E.iw).trans E.gw);have e8:=(a1 pf E.jf).trans ((fr pf E.jf).trans E.gf);obtain⟨cv,k6,H4,d1,d3,f8,s4⟩:=KR (α:=AtD) (u9 atE) H3 H3.n (.slice b3 e0.attrs.length b4) e0.attrs lR ((d0.mono (H':=H3) (F':=(· <H3.n)) (fun j D=>by have:=hO.ap j D;exact s3.g j this.1) (fun j D=>by have:=hO.ap j D;omega) iF).sl fun _ h=>h) oM;have n4:=s4.n;have b7:∀j,I j->H4.g j=H3.g j:=fun j D=>s4.g j (oN (b1 j D));obtain⟨aa,ac,e2⟩:=E.a.slice;obtain⟨nn,b2,oa,j4,j3,k0,h3,k7,e5,a9,d4,i3,b0,k5,rfl⟩:=(e2▸E.a).row (i:=i) (by have:=(gS hn).1;exact this);obtain rfl:n=nn:=aal (hn.symm.trans h3);have c3:=(a1 b2 a9).trans ((fr b2 a9).trans d4);have f0:=(b7 b2 a9).trans c3;have f3:=(b7 pw E.iw).trans c4;have h5:(i:Int).toNat=i:=tN i;have h1:(i:Int)<s.attrs.length:=oN ((gS hn).1);obtain⟨H5,c5⟩:=eY (H4.push (bC [.string n.1,.string n.2,.string v] 3));obtain⟨X,h6,H6,c8,a5,a3,s6⟩:=f8.push1 (P:=prog) (t:=44) (by exact Rg.2.2.2.2.2.2) Wh.1 Wh.2.1 Wh.2.2.1 oM oM (cs:=[.string n.1,.string n.2,.string v]) (a:=(⟨n.1,n.2,v⟩:AtD)) rfl rfl oM oM;rw[<-c5]at c8 a5;have n6:=s6.n;obtain⟨a6,c6,e6⟩:=a3.slice;have cu:X.cells.toList=[X]:=by rw[e6];rfl
 have ou:Value.oneCell' X=true:=by rw[e6];rfl
 have f6:H6.g H2.n=cE u 1:=by rw[s6.g _ oM,s4.g _ oM];exact g3
 obtain⟨z,U⟩:=eY (u.set 3 X);have O:z=[iV e0.kind,.string e0.space,.string e0.loc,X,.string e0.text]:=by rw[U,W];rfl
 have i1:splice u 3 [X]=z:=by rw[U];rfl
 obtain⟨H7,S⟩:=eY (H6.put H2.n (bC z 1));have n7:H7.n=H6.n:=by rw[S,j9]
 have g7:H7.g H2.n=cE z 1:=by rw[S];exact i7 oM
 have e3:ldC (some true) (some 5) 0 z=some (.agg z.toArray):=by rw[O];rfl
 have e4:d9 H2.n H2 H7:=by rw[S];exact((s3.trans (s4.wk oM)).trans (s6.wk oM)).trans (d9.put lR)
 obtain⟨f9,g1⟩:=hO.push (G1:=fun j=>G j\/j8 X j) e4 (fun _ h=> .inl h) (fun j D=>D.imp id fun q=>by have:=a3.lt q;omega);have g6:EvF H7 (fun j=>G j\/j8 X j) z (atV n e0 v):=⟨X,O,(a3.same (H':=H7) fun b hb=>by rw[S];exact j6 (fun q=>by have:=a3.lt hb;omega)).frz fun b hb=> .inr hb⟩
 have b8:∀j,I j->H7.g j=H2.g j:=fun j D=>e4.g j (b1 j D);have f7:=E.mono (H':=H7) (G':=fun j=>G j\/j8 X j) (fun j D=>(b8 j D).trans (fr j D)) (fun j D=> .inl (hT.sub j D));have e9:=(b8 pf E.jf).trans ((fr pf E.jf).trans E.gf);have i2:(atV n e0 v).attrs.length=e0.attrs.length+1:=by simp [atV]
 have j0:l.length+(S7 rest (atV n e0 v)).length+((J.drop (j+1)).flatMap fun v=>S7 rest (atV n e0 v)).length=a4.length:=by rw[<-fu,ib,ib]
 obtain⟨vv,h8,H8,d2,d5,rfl,G8,w8,g0,g2,h2⟩:=ih H7 pw po pf (i+1) _ s w1 w2 w3 w4 w l z (atV n e0 v) f7 f9 g6 hd hi oM oM;have h0:((i:Int)+1)=((i+1:Nat):Int):=oM;have q1:∀a b c d:aet,[a,b,c,d][1]?=some b:=fun _ _ _ _=>rfl;have i0:(0:Int)<=i:=oM;have b5:bsA prog (some 94) H4 1 [(0,.agg #[.string n.1,.string n.2,.string v])]=some (sL H4.n 1 1,H5):=by
  rw[c5];simp only[E5,Wh,E6];rfl
 have k3:=E.al;subst e5;refine J30 f1 f2 f4 f5 a7 a8 b6 b gv h7 (aI c0 b9) (aI h4 c7.symm) (aI g8 lr) (aI ar h9) (aI a2.symm g3) (aI r3 e7) (aI c4 e8) (aI d1 d3) (aI f3 q1) (aI e2 h5) (aI i0 h1) (aI c3 f0) (aI b0 b5) (aI c8 a5) (aI f6 cu) (aI ou i1) (aI S.symm g7) (aI e3 e9) (aI h0 d2) (aI d5 @wrap_small) ?_;exact d8 (kk-1) oM ⟨j+1,G8,w8,_,oM,oM,f1,f2,f4,f5,a7,a8,rfl,g0,(hT.trans g1).trans g2,.inr h2,fu,e1⟩
def Rm{α β:Type}:∀(a:List α)(b:List β)(i:Nat)(x:α×β)(r:List (α×β)),(a.zip b).drop i=x::r->a[i]?=some x.1/\b[i]?=some x.2/\(a.zip b).drop (i+1)=r:=by
 intro a b i x r h;have u:i<(a.zip b).length:=by
  apply aaN;intro q;rw[dN oM]at h;cases h
 rw[aav u]at h
 injection h with h1 h2
 rw[acD]at u;rw[List.getElem_zip]at h1;refine⟨?_,?_,h2⟩
 .rw[yv oM,<-h1]
 .rw[yv oM,<-h1]
def Ry(x:NmQ×List aes)(r:List (NmQ×List aes))(ih:pt r):pt (x::r):=by
 intro H pw po pf i G s w1 w2 w3 w4 w l I e hC hO he hd hi hl e4;obtain⟨hn,c4,b3⟩:=Rm _ _ _ _ _ hd;rw[A1]at hi e4;have g8:=hC.al;have h4:=hC.len;have h6:=hC.vl _ (mG c4);have f7:=u5 hO.g;have f2:=he;obtain⟨av,S,e5⟩:=f2;obtain⟨g4,g5,rfl⟩:=e5.slice;obtain⟨aa,ac,ea⟩:=hC.a.slice;have ar:I.all oC=true:=by rw[S];rfl
 have lr:I.length=5:=by rw[S];rfl
 have f8:ldC (some true) (some 5) 0 I=some (.agg I.toArray):=by rw[S];rfl
 obtain⟨H1,a9,n1,g1,hS⟩:=pushF H (bC I 1);have b9:H.n<=H1.low:=by rw[a9];exact lR
 obtain⟨b1,d5⟩:=hO.push (G1:=fun j=>G j\/j=H.n) hS (fun _ h=> .inl h) (fun j h=>h.imp id fun q=>oM);have a5:∀j,G j->H1.g j=H.g j:=fun j E=>hS.g j (hO.ap j E).1;have U:=hC.mono (H':=H1) (G':=fun j=>G j\/j=H.n) a5 (fun _ h=> .inl h);have b4:=A0 _ _ _ _ _ _ he a5 (fun j E=>(.inl E:G j\/j=H.n));have g0:(S7 (x::r) e).length=(S7 r e).length+((Q7 x.2).flatMap fun v=>S7 r (atV x.1 e v)).length:=by rw[S7,ib]
 obtain⟨_,h2,H2,e8,f4,rfl,G2,u2,O,D,h1⟩:=ih H1 pw po pf (i+1) _ s w1 w2 w3 w4 w l I e U b1 b4 b3 oM oM oM;have n2:=D.stay.n;have a1:∀j,(G j\/j=H.n)->H2.g j=H1.g j:=fun j E=>by have:=b1.ap j E;exact D.but j this.1 this.2.1 this.2.2
 have J:=U.mono (H':=H2) (G':=G2) a1 D.sub;have f0:=A0 _ _ _ _ _ _ b4 a1 D.sub;have g2:=(a1 H.n (.inr rfl)).trans g1;obtain⟨a3,c3,e3⟩:=J.v.slice;obtain⟨y,nb,o,cs,own,g7,hx,h0,c6,hF,hg,h3,h5,e9,u,rfl,hu⟩:=(e3▸J.v).row (i:=i) oM;obtain rfl:x.2=y:=aal (c4.symm.trans hx);have c0:=e9 0 oM;rw[aaf]at c0;have uF:SlI H2 H2.n 1 (u9 stE) u x.2:=hu.sl fun j E=>(O.ap j E).1;obtain⟨cv,g9,H3,b2,b7,d2,s3⟩:=KS (α:=aes) (u9 stE) H2 H2.n u x.2 lR uF oM;have n3:=s3.n;obtain⟨H4,b0,n4,-,s4⟩:=pushE H3 (bC [.string eB] 1);have d3:t7 H4 H3.n 1 (u9 stE) (sL H3.n 1 1) [eB]:=by rw[b0];exact t7.fresh rfl lR (x9.one rfl rfl)
 obtain⟨fs,b5⟩:=eY (frS x.2 eB [eB]);have hf:=fresh H4 H2.n u (sL H3.n 1 1) x.2 eB [eB] oM (uF.mono (fun j E=>by rw[s4.g j oM,s3.g j E]) lR iF) d3.sl oM (by decide) (by decide);rw[<-b5]at hf;obtain⟨v7,h7,H6,e2,b8,W,s6⟩:=(d2.keep s4).push1 (P:=prog) (t:=119) (by exact bq.2.2.2.2.2.2) ty9.1 ty9.2.1 ty9.2.2.1 oM oM (cs:=[.string fs]) (a:=fs) rfl rfl oM oM;have n6:=s6.n;rw[show x.2++[fs]=Q7 x.2 by rw[HW,b5]]at W;have c5:d9 H2.n H2 H6:=(s3.trans (s4.wk n3)).trans (s6.wk oM);obtain⟨X,d6⟩:=O.push (G1:=fun j=>G2 j\/j8 v7 j) c5 (fun _ h=> .inl h) (fun j E=>E.imp id fun q=>by have:=W.lt q;omega);have a2:∀j,G2 j->H6.g j=H2.g j:=fun j E=>c5.g j (O.ap j E).1;have d1:=J.mono (H':=H6) (G':=fun j=>G2 j\/j8 v7 j) a2 (fun _ h=> .inl h);have f1:=A0 _ _ _ _ _ _ f0 a2 (fun j E=>(.inl E:G2 j\/j8 v7 j));have g6:=(a2 H.n (D.sub _ (.inr rfl))).trans g2;obtain⟨a7,c7,e7⟩:=W.slice;have g3:(Q7 x.2).length=x.2.length+1:=by rw[Q7];simp
 have c9:=U.gw;have c8:=U.gf;have a6:=J.gw;have a8:H3.g pw=cE [w1,w2,w3,w4] 1:=(s3.g pw (O.ap pw J.iw).1).trans a6;have d0:H4.g pw=cE [w1,w2,w3,w4] 1:=(s4.g pw (oN ((O.ap pw J.iw).1))).trans a8;have e6:=(O.ap nb hF).1;have b6:=(s3.g nb e6).trans hg;have f3:=(s4.g nb oM).trans b6;have q1:∀a b c d:aet,[a,b,c,d][1]?=some b:=fun _ _ _ _=>rfl;have q2:∀a b c d:aet,[a,b,c,d][2]?=some c:=fun _ _ _ _=>rfl;have i0:(0:Int)<=i:=oM;have il:(i:Int)<s.vals.length:=oM;have f9:(i:Int).toNat=i:=tN i;have bi:decide ((i:Int)=s.attrs.length)=false:=kA oM;have f5:((i:Int)+1)=((i+1:Nat):Int):=oM;have a4:∀Hx:d7,D9 prog .len [119] [v7] Hx=some (.int .i64 ((Q7 x.2).length:Int),none):=fun Hx=>by
  rw[e7];exact J1 bq trivial
 subst c6;rw[i8 TY rfl _ sM];refine J30 ar a9.symm c9 q1 q2 ea e3 bi g1 f8 c8 f5 e8 f4 a6 f9 i0 il hg c0 b2 b7 a8 b6 b0.symm d0 f3 hf (aI e2 b8) (aI a4 @wrap_small) ?_;refine j5 (F:=fun z=>Ret (t6 _ _ _ (inBlock 0 z)) _ _) (It x.1 x.2 r ih H6 pw po pf H.n i (fun j=>G2 j\/j8 v7 j) s w1 w2 w3 w4 u2 I e a7 c7 (Q7 x.2) d1 X.ap oM f1 (.inl (D.sub _ (.inr rfl))) g6 (by rw[<-e7];exact W.frz fun b hb=> .inr hb) oM oM b3 oM hn oM (l++S7 (x::r) e) (Q7 x.2).length _ _ ⟨0,_,u2,l++S7 r e,rfl,oM,rfl,rfl,rfl,rfl,e7,rfl,rfl,X,fd.refl _ _ _ _,(.inl rfl),by rw[aan,S7,aaX],by rw[ib];omega⟩) ?_;rintro o e' H8 ⟨ho,G8,w8,d4,e1,f6⟩;refine J1 ho ?_;exact wS f7 (fun b hb=>hO.own.lt hb) hS d5 d4 ((D.trans d6).trans e1) f6 b9
def wR:∀r,pt r
 |[]=>Rx
 |x::r=>Ry x r (wR r)
def R2:List (List aes)->Nat
 |[]=>1
 |v::r=>(v.length+2)*R2 r
def dU:∀r,1<=R2 r
 |[]=>acl 1
 |v::r=>Nat.mul_pos oM (dU r)
def iM{α β:Type}(f:α->List β)(k:Nat)(l:List α)(h:∀x∈l,(f x).length=k):(l.flatMap f).length=l.length*k:=by
 induction l with
 |nil=>simp
 |cons x l z=>rw[aaI,ib,h x sM,z (fun y u=>h y (by simp [u])),A1,aaP];omega
def uI(v:List aes):(Q7 v).length=v.length+1:=by rw[Q7];simp
def kZ:∀(r:List (NmQ×List aes))(e:EvD),(S7 r e).length=R2 (r.map (·.2))
 |[],e=>rfl
 |x::r,e=>by
  rw[S7,ib,kZ r e,iM _ _ _ (fun v _=>kZ r (atV x.1 e v)),uI,aaQ,R2];rw[aaP,aaP,adP];omega
def Eh(x:NmQ×List aes)(r:List (NmQ×List aes))(l:List EvD):(cQ x.1 (Q7 x.2) l).flatMap (S7 r)=l.flatMap (S7 (x::r)):=by
 induction l with
 |nil=>rfl
 |cons e l h=>
  rw[cQ]at h ⊢;rw[aaI,List.flatMap_append,h,aaI]
  congr 1
  rw[yr,aaI,S7,List.flatMap_map]
def tg:∀(r:List (NmQ×List aes))(l:List EvD),l.length<=24->fX r l=if l.length*R2 (r.map (·.2))>24 then none else some (l.flatMap (S7 r))
 |[],l,h=>by
  rw[fX,acT,R2,aaK,bt oM]
  congr 1
  have:(S7 []:EvD->List EvD)=fun e=>[e]:=by funext e;rfl
  rw[this];simp
 |x::r,l,h=>by
  rw[fX,aaQ,R2,<-Nat.mul_assoc];have u:(cQ x.1 (Q7 x.2) l).length=l.length*(x.2.length+2):=by rw[mM,uI]
  have z:=dU (r.map (·.2));by_cases D:l.length*(x.2.length+2)>24
  .rw[cA oM,cA (oN (acu (l.length*(x.2.length+2)) z))]
  .rw[bt oM,tg r _ oM,u,Eh]
def jR(s:SpD):List EvD:=(s.names++[zNm (T6 s.names)]).flatMap (fun n=>S7 (s.attrs.zip s.vals) (Y3 n))++(s.texts++[dg (U5 s.texts)]).map cZ
def uf(s:SpD)(P:Nat)(D:R2 ((s.attrs.zip s.vals).map (·.2))=P):∀(z:List NmQ)(u:List EvD),gO s z u=if P>24 then(if z=[] then some u else none) else some (u++z.flatMap fun n=>S7 (s.attrs.zip s.vals) (Y3 n))
 |[],u=>by rw[gO,cA rfl,abu,aaq];split<;>rfl
 |n::r,u=>by
  rw[gO,tg _ _ sM,D];simp only[aaD,adP];by_cases h:P>24
  .rw[cA h,cA h,bt sM]
  .rw[bt h,bt h];simp only;rw[uf s P D r,bt h];simp
def kV:∀(u:List (List aes))(n:Nat),(n*R2 u<=24->sk u n=(n*R2 u:Nat))/\(24<n*R2 u->24<sk u n)
 |[],n=>by rw[R2,aaK,sk];exact⟨fun _=>rfl,fun h=>oM⟩
 |v::u,n=>by
  rw[R2,sk,<-Nat.mul_assoc];have z:=dU u;have e:(n:Int)*((v.length:Int)+2)=((n*(v.length+2):Nat):Int):=sM;rw[e];have I:=acu (n*(v.length+2)) z;obtain⟨D,E⟩:=kV u (n*(v.length+2));by_cases J:n*(v.length+2)<=25
  .have:min ((n*(v.length+2):Nat):Int) 25=((n*(v.length+2):Nat):Int):=oM;rw[this];exact⟨D,E⟩
  .have:min ((n*(v.length+2):Nat):Int) 25=((25:Nat):Int):=oM;rw[this];exact⟨fun q=>oM,fun _=>(kV u 25).2 oM⟩
def gI(s:SpD)(X:s.vals.length=s.attrs.length):V8 s=if 24<CT s then none else some (jR s):=by
 have I:(s.attrs.zip s.vals).map (·.2)=s.vals:=List.map_snd_zip oM;obtain⟨P,u⟩:=eY (R2 s.vals);have z:=uf s P (by rw[I,u]) (s.names++[zNm (T6 s.names)]) [];obtain⟨c1,c2⟩:=kV s.vals (s.names.length+1);rw[<-u]at c1 c2;have J:((s.names.length+1:Nat):Int)=(s.names.length:Int)+1:=oM;rw[J]at c1 c2;have W:=dU s.vals;rw[<-u]at W;have U:P<=(s.names.length+1)*P:=by rw[aaP];omega
 rw[V8,z];by_cases D:P>24
 .rw[cA D,bt sM];have:=c2 oM;rw[cA (by unfold CT;omega)]
 .rw[bt D];have h:((s.names++[zNm (T6 s.names)]).flatMap (fun n=>S7 (s.attrs.zip s.vals) (Y3 n))).length=(s.names.length+1)*P:=by
   rw[iM _ P _ (fun n _=>by rw[kZ,I,u])];simp
  simp only[aat,ib,aa7,aaD,h];by_cases S:(s.names.length+1)*P<=24
  .have:=c1 S;have O:CT s=(((s.names.length+1)*P+(s.texts.length+1):Nat):Int):=by unfold CT;rw[this];omega
   rw[O];by_cases E:(s.names.length+1)*P+(s.texts.length+1)>24
   .rw[cA E,cA oM]
   .rw[bt E,bt oM];rfl
  .have:=c2 oM;rw[cA oM,cA (by unfold CT;omega)]
def SpO.vals{H:d7}{lo:Nat}{s:SpD}(h:SpO H lo O s w1 w2 w3 w4 us)(z:∀w∈w3::us,∀b,j8 w b->G b):SlF H G 1 (VlF H G) w3 s.vals:=by
 obtain⟨cs,U,hr⟩:=h.v;have e:=Nz hr;subst e;have I:=h.len;rcases U with⟨S,h2,_⟩|⟨b,c,rfl,X,_,_⟩
 .exact .inl ⟨S,aag.1 oM⟩
 .refine .inr ⟨b,0,c,by rw[I],.inr ⟨cs,true,z (sL b cs.length c) (ac5 ..) b ⟨_,_,rfl⟩,X,oM,fun i a D=>?_⟩⟩;have E:i<cs.length:=by rw[I];exact(gS D).1
  have J:cs[i]?=some cs[i]:=yv E;refine⟨cs[i],?_,(h.u i _ a J D).frz fun b W=>z _ (by simp [mG J]) b W⟩;rw[aaH,aaK,aav E];rfl
def SpO.spr{H:d7}{lo:Nat}{s:SpD}(h:SpO H lo O s w1 w2 w3 w4 us):SpR H H.n [w1,w2,w3,w4] s:=
 ⟨w1,w2,w3,w4,rfl,h.n.sl,h.a.sl,h.vals fun w u b z=>(h.lt b (h.o w (by simp only[aam]at u ⊢;rcases u with q|q;exact .inr (.inr (.inl q));exact .inr (.inr (.inr (.inr q)))) b z)).2,h.t.sl⟩
def PU(H0:d7)(pw po pf:Nat)(I:Nat->Prop)(s:SpD)(w1 w2 w3 w4 w0:aet)(va:Option Addr)(ca:Nat)(u:List NmQ)(hC:zp H0 I pw pf (Eu pw po pf) s w1 w2 w3 w4)(a3:∀j,I j->j<H0.n/\j≠po/\¬j8 w0 j) (c9:po<H0.n) (hv:SlF H0 I 2 (u9 nmE) (.slice va u.length ca) u) (c8:u.length<=1000) (D:List EvD):
  ∀kk e H2,(∃(j:Nat)(G:Nat->Prop)(w:aet)(l:List EvD),kk=u.length-j/\j<=u.length/\e.g 4=pT pw/\e.g 5=pT po/\e.g 6=pT pf/\e.g 24= .slice va u.length ca/\e.g 25=iV u.length/\e.g 26=iV j/\
    ir H2 po G w l/\fd po I w0 H0 G w H2/\l++((u.drop j).flatMap fun n=>S7 (s.attrs.zip s.vals) (Y3 n))=D/\D.length<=1000000)->
  u7 (LE prog l7 (.loop Yu) e H2) (fun o e H2=>o= .exit 0/\e.g 4=pT pw/\e.g 5=pT po/\∃(G:Nat->Prop)(w:aet),ir H2 po G w D/\fd po I w0 H0 G w H2):=by
 refine i5 _ _ ?_;rintro kk e H2 ⟨j,G,w,l,c4,S,f4,f5,f6,J,O,W,hO,hT,X,a5⟩;rcases b:decide ((j:Int)<u.length)with _|_
 .have b2:=dF b;have:u.drop j=[]:=dN oM;rw[this,abu,aaq]at X;refine J7 f4 f5 f6 J O W b ?_;exact i6 ⟨rfl,f4,f5,G,w,by rw[<-X];exact hO,hT⟩
 have b2:=dT b;have fr:∀j,I j->H2.g j=H0.g j:=fun j S=>by have:=a3 j S;exact hT.but j this.1 this.2.1 this.2.2
 have nx:=hT.stay.n;have b7:∀j,I j->j<H2.n:=fun j S=>oN (a3 j S);obtain⟨n,nb,o,cs,own,c0,hx,b3,rfl,hF,hg,c6,a6,hc,rfl⟩:=hv.row (i:=j) oM;have b8:(j:Int).toNat=j:=tN j;rw[b3,aaI,<-aaX]at X;have gv:=(fr nb hF).trans hg;obtain⟨Ha,a2,na,b5,-⟩:=pushE H2 (bC [.string eB,.string eB] 1);obtain⟨U,z⟩:=eY (Ha.put H2.n (bC (nmE n) 1));have n3:U.n=H2.n+1:=by rw[z,j9,na]
 have s3:d9 H2.n H2 U:=by rw[z,a2];exact(d9.push lR).trans (d9.put lR)
 have g3:U.g H2.n=cE (nmE n) 1:=by rw[z];exact i7 oM
 obtain⟨a8,b0⟩:=hO.push (G1:=G) s3 (fun _ h=>h) (fun j h=> .inl h);have a1:=hC.mono (H':=U) (G':=G) (fun j S=>(s3.g j (b7 j S)).trans (fr j S)) hT.sub;have a7:=a1.gf;have b4:EvF U G [iV 1,.string n.1,.string n.2,nS,.string eB] (Y3 n):=⟨_,rfl,.inl ⟨rfl,rfl⟩⟩
 have c7:=hC.len;have c3:=hC.al;have b9:l.length+(S7 (s.attrs.zip s.vals) (Y3 n)).length+((u.drop (j+1)).flatMap fun n=>S7 (s.attrs.zip s.vals) (Y3 n)).length=D.length:=by rw[<-X,ib,ib]
 obtain⟨_,h8,H8,E,a4,rfl,G8,w8,a9,b1,c5⟩:=wR (s.attrs.zip s.vals) U pw po pf 0 G s w1 w2 w3 w4 w l _ (Y3 n) a1 a8 b4 rfl (by rw[acD];omega) oM (by show 0+_<=_;rw[acD];omega);have b6:ldC (some true) (some 2) 0 (nmE n)=some (.agg (nmE n).toArray):=rfl;have e0:((0:Nat):Int)=0:=rfl;rw[e0]at E;refine J19 f4 f5 f6 J O W b gv b8 a6 a2.symm b5 z.symm g3 b6 a7 E a4 @wrap_small ?_;exact d8 (kk-1) oM ⟨j+1,G8,w8,_,oM,oM,f4,f5,f6,J,O,rfl,a9,(hT.trans b0).trans b1,X,a5⟩
def PV(H0:d7)(po:Nat)(E:Nat->Prop)(w0:aet)(va:Option Addr)(ca:Nat)(ts:List aes)(a5:∀j,E j->j<H0.n/\j≠po/\¬j8 w0 j) (b5:po<H0.n) (hv:SlF H0 E 1 (u9 stE) (.slice va ts.length ca) ts) (b4:ts.length<=1000) (u:List EvD):
  ∀kk e H2,(∃(j:Nat)(G:Nat->Prop)(w:aet)(l:List EvD),kk=ts.length-j/\j<=ts.length/\e.g 5=pT po/\e.g 41= .slice va ts.length ca/\e.g 42=iV ts.length/\e.g 43=iV j/\
    ir H2 po G w l/\fd po E w0 H0 G w H2/\l++(ts.drop j).map cZ=u/\u.length<=1000000)->
  u7 (LE prog l7 (.loop Yv) e H2) (fun o e H2=>o= .exit 2/\e.g 5=pT po/\∃(G:Nat->Prop)(w:aet),ir H2 po G w u/\fd po E w0 H0 G w H2):=by
 refine i5 _ _ ?_;rintro kk e H2 ⟨j,G,w,l,b2,hj,X,z,D,J,hO,hT,O,S⟩;rcases b:decide ((j:Int)<ts.length)with _|_
 .have a6:=dF b;have:ts.drop j=[]:=dN oM;rw[this,acT,aaq]at O;refine J5 X z D J b ?_;exact i6 ⟨rfl,X,G,w,by rw[<-O];exact hO,hT⟩
 have a6:=dT b;have fr:∀j,E j->H2.g j=H0.g j:=fun j hj=>by have:=a5 j hj;exact hT.but j this.1 this.2.1 this.2.2
 have nx:=hT.stay.n;obtain⟨x,nb,o,cs,own,b1,hx,a7,rfl,hF,hg,b3,b0,hc,rfl⟩:=hv.row (i:=j) oM;have c0:=hc 0 oM;rw[aaf]at c0;have a8:(j:Int).toNat=j:=tN j;rw[a7,aaQ,adp]at O;have gv:=(fr nb hF).trans hg;have go:=hO.g;obtain⟨W,U⟩:=eY ([iV 2,.string eB,.string eB,nS,.string x]:LV);have he:EvF H2 G W (cZ x):=⟨_,U,.inl ⟨rfl,rfl⟩⟩
 have a9:l.length+1+(ts.drop (j+1)).length=u.length:=by rw[<-O];simp;omega
 obtain⟨v',h',H3,r1,r2,g3,⟨a',c',e'⟩,a3,a4⟩:=hO.add he oM;obtain⟨I,h⟩:=eY (H2.push (bC W 5));rw[<-h]at r1 r2;have a2:I.g po=cE [w] 1:=by rw[h,i9 (u5 go)];exact go
 have cu:v'.cells.toList=[v']:=by rw[e'];rfl
 have ou:Value.oneCell' v'=true:=by rw[e'];rfl
 have a1:bsA prog (some 46) H2 1 [(0,.agg #[iV 2,.string eB,.string eB,nS,.string x])]=some (sL H2.n 1 1,I):=by
  rw[h,U];simp only[E5,mj,E6];rfl
 refine J17 X z D J b gv a8 c0 go a1 a2 r1 r2 g3 cu ou @wrap_small ?_;exact d8 (kk-1) oM ⟨j+1,G,v',_,oM,oM,X,z,D,rfl,a3,hT.trans a4,O,S⟩
def pQ{s:SpD}(h:¬24<CT s)(hl:s.vals.length=s.attrs.length):s.names.length<=24/\s.texts.length<=24/\s.attrs.length<=24/\(∀x∈s.vals,x.length<=24)/\(jR s).length<=24:=by
 obtain⟨c1,c2⟩:=kV s.vals (s.names.length+1);have J:((s.names.length+1:Nat):Int)=(s.names.length:Int)+1:=oM;rw[J]at c1 c2;have U:(s.attrs.zip s.vals).map (·.2)=s.vals:=List.map_snd_zip oM;have E:=dU s.vals;have D:∀u:List (List aes),u.length<=R2 u/\∀x∈u,x.length<=R2 u:=by
  intro u;induction u with
  |nil=>exact⟨aaJ _,fun x z=>by cases z⟩
  |cons v u I=>
   have E:=dU u;rw[R2,A1];have X:v.length+2<=(v.length+2)*R2 u:=adW _ E;have h2:2*R2 u<=(v.length+2)*R2 u:=aaW _ oM;refine⟨by have:=I.1;omega,fun x z=>?_⟩;rcases aam.1 z with rfl|z
   .omega
   .have:=I.2 x z;omega
 obtain⟨W,O⟩:=D s.vals;have S:(s.names.length+1)*R2 s.vals<=24:=by
  apply aaN;intro q;have:=c2 oM;apply h;unfold CT;omega
 have h3:R2 s.vals<=(s.names.length+1)*R2 s.vals:=by rw[aaP];omega
 have h4:s.names.length+1<=(s.names.length+1)*R2 s.vals:=adW _ E;have h5:=c1 S;have h6:(s.names.length+1)*R2 s.vals+s.texts.length+1<=24:=by unfold CT at h;omega
 refine⟨oM,oM,oM,fun x z=>by have:=O x z;omega,?_⟩;rw[jR,ib,iM _ (R2 s.vals) _ (fun n _=>by rw[kZ,U])];simp only[ib,aa7,aaD];omega
def Es(l:List aes):frS l eB []=dg (U5 l):=by
 have h:∀n,eB++dg n=dg n:=fun n=>by
  have u:=Y9 eB (dg n);exact uO (by rw[u];rfl)
 have z:frN l eB=U5 l:=by unfold frN U5;simp only[h]
 rw[frS,ael];simp only[z,h]
def Is(H:d7)(lo k:Nat)(cs:LV)(q:Q)(p4:lo<=H.n)(hr:QR H lo k false cs q)(o1:OkD false q)(p3:nQ q<=1000):
  Ret (CL prog l7 31 [.agg cs.toArray] H) H (Rq H (spQ q)):=by
 obtain⟨s,hs⟩:=eY (spQ q);have a5:=gI s (by rw[hs];exact(mf q).2.2.1);obtain⟨z1,z2,z3,z4,z5⟩:=mf q;rw[<-hs]at z1 z2 z3 z4 z5;rw[<-hs];have ac:cs.all oC=true:=I5 hr;have ldc:=Q6 hr;have lc:=hr.len;rw[lc]at ldc;simp only[qSz,bF]at ldc lc;obtain⟨H1,f2,n1,g1,s1⟩:=pushF H (bC cs 1);have k3:H.n<=H1.low:=by rw[f2];exact lR
 obtain⟨H2,b0⟩:=eY (H1.push (bC cs 3));have n2:H2.n=H.n+2:=by rw[b0,i4,n1]
 have s2:d9 H.n H H2:=by rw[b0];exact s1.trans (d9.push oM)
 have m8:H.n<=H2.low:=by rw[b0];exact k3
 have d2:bsA prog (some 25) H1 1 [(0,.agg cs.toArray)]=some (sL H1.n 1 1,H2):=by
  rw[b0];cases k with
  |zero=>exact hr.elim
  |succ k=>obtain⟨_,_,_,_,rfl,_⟩:=hr.path;simp only[E5,fS,E6];rfl
 have o4:QsR H2 H2.n k false (sL H1.n 1 1) [q]:=by
  have hO:t7 H2 H1.n 3 (QR H2 H2.n k false) (sL H1.n 1 1) [q]:=by
   rw[b0];exact t7.fresh rfl lR (x9.one lc (by rw[<-b0];exact hr.mono (fun j u=>s2.g j oM) oM))
  exact hO.sl
 obtain⟨wv,h3,J,c3,d5,w1,w2,w3,w4,us,O,rfl,E,g8⟩:=Rc H2 H2.n k _ [q] lR o4 (by rw[nL,nL];omega) sM;have l5:(fsL false [q]).foldl N7 ⟨[],[],[],[]⟩=s:=by rw[fsL,fsL,aaq,BJ q o1,hs]
 rw[l5]at E;have n3:=g8.n;obtain⟨a1,b1,e1⟩:=E.n.slice;obtain⟨a2,b2,e2⟩:=E.a.slice;obtain⟨a3,b3,e3⟩:=E.v.slice;obtain⟨a4,b4,e4⟩:=E.t.slice;obtain⟨I,S⟩:∃r,r=[w1,w2,w3,w4]:=eX;have ar:I.all oC=true:=by rw[S,e1,e2,e3,e4];rfl
 have lr:I.length=4:=by rw[S];rfl
 have k7:ldC (some true) (some 4) 0 I=some (.agg I.toArray):=by rw[S];rfl
 have q0:I[0]?=some w1:=by rw[S];rfl
 have q3:I[3]?=some w4:=by rw[S];rfl
 have h8:(#[w1,w2,w3,w4]:Array aet)=I.toArray:=by rw[S]
 rw[h8]at c3;obtain⟨zz,g5⟩:=eY ([nS,nS,nS,nS]:LV);have lz:zz.length=4:=by rw[g5];rfl
 have k9:splice zz 0 I=I:=y7 _ _ (by rw[lr,lz]);obtain⟨K3,b9,-,j1,-⟩:=pushE J (bC zz 1);obtain⟨U,b7⟩:=eY (K3.put J.n (bC I 1));have n4:U.n=J.n+1:=by rw[b7,j9,b9,i4]
 have d0:d9 J.n J U:=by rw[b7,b9];exact(d9.push lR).trans (d9.put lR)
 have g4:U.g J.n=cE I 1:=by rw[b7];exact i7 (by rw[b9,i4];omega)
 have e7:=(E.spr).mono (H':=U) (fun j u=>d0.g j u) lR;rw[<-S]at e7;have k0:=KW U J.n I s oM e7 oM oM (fun x hx=>by have:=z4 x hx;omega) oM;have o8:d9 H.n H U:=(s2.trans (g8.wk oM)).trans (d0.wk oM);have m9:H.n<=U.low:=((g8.wk (show H.n<=H2.n from oM)).trans (d0.wk oM)).low m8;rw[i8 Vm rfl _ sM];rcases b:decide ((24:Int)<CT s)with _|_
 .have D:=dF b;rw[bt D]at a5;obtain⟨y1,y4,y2,y3,y5⟩:=pQ D z3;obtain⟨H5,c7⟩:=eY (U.push (bC [nS] 1));have n5:H5.n=J.n+2:=by rw[c7,i4,n4]
  obtain⟨H6,c8,-,l6,-⟩:=pushE H5 (bC [.nilFunc] 1);have n6:H6.n=J.n+3:=by rw[c8,i4,n5]
  obtain⟨X,b8⟩:=eY (H6.put H5.n (bC [Eu J.n U.n H5.n] 1));have n7:X.n=J.n+3:=by rw[b8,j9,n6]
  have d1:d9 U.n U X:=by rw[b8,c8,c7];exact((d9.push lR).trans (d9.push (by rw[i4];omega))).trans (d9.put (by rw[i4];omega))
  have f1:=(d1.g J.n oM).trans g4;have l8:X.g H5.n=cE [Eu J.n U.n H5.n] 1:=by rw[b8];exact i7 oM
  have m0:X.g U.n=cE [nS] 1:=by
   rw[b8,j6 oM,c8,i9 oM,c7];exact j7
  have o9:d9 J.n J X:=d0.trans (d1.wk oM);have c4:SpO X H2.n O s w1 w2 w3 w4 us:=E.keep (fun j u=>o9.g j (E.lt j u).2) (fun _ h=>h) (fun b D=>by have:=E.lt b D;omega) lR;have inl:∀w∈w1::w2::w3::w4::us,∀b,j8 w b->H2.n<=b/\b<J.n:=fun w W b D=>E.lt b (E.o w W b D);have e6:=Mn X X.n w1 s.names lR c4.n.sl oM;obtain⟨nm,g3⟩:=eY (zNm (T6 s.names));rw[<-g3]at e6;obtain⟨v9,h9,H9,j3,d6,f5,a7⟩:=c4.n.push1F (P:=prog) (t:=117) (cs:=nmE nm) (a:=nm) (by exact AH.2.2.2.2.2.2) We.1 We.2.1 We.2.2.1 oM oM rfl rfl oM oM;obtain⟨H8,f3⟩:=eY (X.push (bC (nmE nm) 2));rw[<-f3]at j3 d6;have m1:H8.g J.n=cE I 1:=by rw[f3,i9 oM];exact f1
  have n9:=a7.n;have h6:bsA prog (some 43) X 1 [(0,.agg (nmE nm).toArray)]=some (sL X.n 1 1,H8):=by
   rw[f3];simp only[E5,We,E6];rfl
  obtain⟨a9,c9,e9⟩:=f5.slice;have g0:∀Hx:d7,D9 prog .len [117] [v9] Hx=some (.int .i64 ((s.names++[nm]).length:Int),none):=fun Hx=>by
   rw[e9];exact J1 AH trivial
  have g7:∀j,¬(H2.n<=j/\j<J.n)->¬j8 w1 j:=fun j u q=>u (inl w1 sM j q);have c6:∀j,j<X.n->¬j8 w1 j->H9.g j=X.g j:=a7.but;have i1:H9.g J.n=cE I 1:=(c6 _ oM (g7 _ oM)).trans f1;have m2:=(c6 H5.n oM (g7 _ oM)).trans l8;have m3:=(c6 U.n oM (g7 _ oM)).trans m0;have l1:∀(i:Nat)(w:aet),(w1::w2::w3::w4::us)[i]?=some w->i≠0->∀j,j8 w j->¬j8 w1 j:=fun i w W hi j u q=>E.ap i 0 w w1 W rfl hi j u q;have o7:∀w∈w1::w2::w3::w4::us,∀b,j8 w b->b<X.n:=fun w W b D=>oN (inl w W b D);obtain⟨G0,a6⟩:=eY (fun j=>(∃w∈w2::w3::us,j8 w j)\/j=J.n\/j=H5.n\/j8 v9 j:Nat->Prop);have e8:∀b,j8 v9 b->b<H9.n/\b≠U.n/\¬(J.n<=b/\b<X.n):=fun b D=>by
   have h1:=f5.lt D;rcases a7.new b D with r|r
   .have:=inl w1 sM b r;omega
   .omega
  have h5:∀w∈w2::w3::us,w∈w1::w2::w3::w4::us:=fun w W=>by
   simp only[aam]at W ⊢;rcases W with h|h|h
   .exact .inr (.inl h)
   .exact .inr (.inr (.inl h))
   .exact .inr (.inr (.inr (.inr h)))
  have d4:∀j,G0 j->j<H9.n/\j≠U.n/\¬j8 (nS) j:=fun j u=>by
   rw[a6]at u;refine⟨?_,?_,C2 j⟩
   .rcases u with⟨w,W,u⟩|u|u|u
    .have:=inl w (h5 w W) j u;omega
    .omega
    .omega
    .exact(e8 j u).1
   .rcases u with⟨w,W,u⟩|u|u|u
    .have:=inl w (h5 w W) j u;omega
    .omega
    .omega
    .exact(e8 j u).2.1
  have g9:∀w∈w2::w3::w4::us,∀b,j8 w b->H9.g b=X.g b:=fun w W b D=>by
   have hm:w∈w1::w2::w3::w4::us:=abe _ W;obtain⟨i,hi⟩:=aci.1 W;exact c6 b (o7 w hm b D) (l1 (i+1) w hi oM b D)
  have o3:SlF H9 G0 2 (u9 nmE) w2 s.attrs:=(c4.a.same (g9 w2 sM)).frz fun b D=>by rw[a6];exact .inl ⟨w2,by simp,D⟩
  have o5:SlF H9 G0 1 (VlF H9 G0) w3 s.vals:=by
   have h0:=c4.vals (G:=fun j=>∃w∈w3::us,j8 w j) (fun w W b D=>⟨w,W,D⟩);have up:∀j,(∃w∈w3::us,j8 w j)->G0 j:=fun j⟨w,W,u⟩=>by rw[a6];exact .inl ⟨w,abe _ W,u⟩
   have sm:∀j,(∃w∈w3::us,j8 w j)->H9.g j=X.g j:=fun j⟨w,W,u⟩=>g9 w (by
    rcases aam.1 W with h|h
    .simp [h]
    .simp [h]) j u
   exact h0.mono sm up fun _ _ h=>h.mono sm up
  have m6:zp H9 G0 J.n H5.n (Eu J.n U.n H5.n) s w1 w2 w3 w4:=⟨by rw[i1,S],m2,by rw[a6];exact .inr (.inl rfl),by rw[a6];exact .inr (.inr (.inl rfl)),o3,o5,z3,oM,fun x hx=>by have:=y3 x hx;omega⟩
  have m7:ir H9 U.n G0 (nS) []:=⟨m3,t7.nil,d4⟩
  have n8:((s.names++[nm]).flatMap fun n=>S7 (s.attrs.zip s.vals) (Y3 n)).length<=24:=by
   rw[g3];have:=z5;have:=y5;rw[jR,ib]at this;omega
  refine J30 ac f2.symm g1 ldc d2 c3 d5 g5.symm b9.symm j1 lr lz ar k9 b7.symm g4 k7 k0 b c7.symm c8.symm l6 b8.symm f1 q0 e6 h6 m1 j3 (aI d6 g0) ?_;refine j5 (F:=fun z=>Ret (t6 _ _ _ (u6 (inBlock 0 z) _)) _ _) (PU H9 J.n U.n H5.n G0 s w1 w2 w3 w4 (nS) a9 c9 (s.names++[nm]) m6 d4 oM (by rw[<-e9];exact f5.frz fun b D=>by rw[a6];exact .inr (.inr (.inr D))) (by simp;omega) ((s.names++[nm]).flatMap fun n=>S7 (s.attrs.zip s.vals) (Y3 n)) (s.names++[nm]).length _ _ ⟨0,G0,nS,[],rfl,oM,rfl,rfl,rfl,e9,rfl,rfl,m7,fd.refl _ _ _ _,rfl,oM⟩) ?_;rintro o e' HA ⟨ho,k4,k5,GA,wA,c0,b6⟩;have nA:=b6.stay.n;have i0:∀j,j<H9.n->j≠U.n->HA.g j=H9.g j:=fun j u h=>b6.but j u h (C2 j);have j0:HA.g J.n=cE I 1:=(i0 _ oM oM).trans i1;have i3:=c0.g;have l4:∀b,j8 w4 b->H2.n<=b/\b<J.n:=fun b D=>inl w4 sM b D;have j2:t7 HA H2.n 1 (u9 stE) w4 s.texts:=(c4.t.same (g9 w4 sM)).same fun b D=>i0 b (oN (l4 b D)) (oN (l4 b D));have f8:=fresh HA HA.n w4 (nS) s.texts eB [] lR j2.sl (me ..) oM (by decide) (by decide);rw[Es]at f8;obtain⟨fs,k1⟩:=eY (dg (U5 s.texts));rw[<-k1]at f8;obtain⟨vC,hc,HC,j4,e5,f6,a8⟩:=j2.push1F (P:=prog) (t:=119) (cs:=[.string fs]) (a:=fs) (by exact bq.2.2.2.2.2.2) ty9.1 ty9.2.1 ty9.2.2.1 oM oM rfl rfl oM oM;obtain⟨HB,f4⟩:=eY (HA.push (bC [.string fs] 1));rw[<-f4]at j4 e5;have m4:HB.g J.n=cE I 1:=by rw[f4,i9 oM];exact j0
  have nC:=a8.n;have k6:=u5 i3;have g6:∀j,GA j->¬j8 w4 j:=fun j u q=>by
   have h4:=l4 j q;rcases b6.new j u with r|r
   .rw[a6]at r;rcases r with⟨w,W,r⟩|r|r|r
    .obtain⟨i,hi⟩:=aci.1 (h5 w W);by_cases k2:i=3
     .subst k2;have:w=w4:=(aal hi).symm;subst this;obtain⟨i2,f9⟩:=aci.1 W;rcases i2 with _|_|i2
      .exact E.ap 1 3 w2 w rfl rfl oM j (by rw[show w2=w from aal f9];exact r) q
      .exact E.ap 2 3 w3 w rfl rfl oM j (by rw[show w3=w from aal f9];exact r) q
      .exact E.ap (i2+4) 3 w w f9 rfl oM j r q
     .exact E.ap i 3 w w4 hi rfl k2 j r q
    .omega
    .omega
    .rcases a7.new j r with r|r
     .exact E.ap 0 3 w1 w4 rfl rfl oM j r q
     .omega
   .omega
  have f0:∀j,j<HA.n->¬j8 w4 j->HC.g j=HA.g j:=a8.but;have c5:∀b,j8 wA b->H9.n<=b/\b<HA.n:=fun b D=>by
   have h1:=c0.own.lt D;rcases b6.neww b D with r|r
   .exact(C2 b r).elim
   .omega
  have p0:∀b,j8 vC b->b<HC.n/\b≠U.n/\¬j8 wA b:=fun b D=>by
   have h1:=f6.lt D;refine⟨h1.2,?_,fun q=>?_⟩
   .rcases a8.new b D with r|r
    .have:=l4 b r;omega
    .omega
   .have h2:=c5 b q;rcases a8.new b D with r|r
    .have:=l4 b r;omega
    .omega
  have d3:ir HC U.n (fun j=>GA j\/j8 vC j) wA ((s.names++[nm]).flatMap fun n=>S7 (s.attrs.zip s.vals) (Y3 n)):=by
   refine⟨(f0 _ k6 (fun q=>by have:=l4 _ q;omega)).trans i3,(c0.own.same fun b D=>f0 b (c5 b D).2 (fun q=>by have:=l4 b q;have:=c5 b D;omega)).imp fun cs a h=>A0 _ _ _ _ _ _ h (fun j u=>f0 j (c0.ap j u).1 (g6 j u)) (fun _ h=> .inl h),fun j u=>?_⟩;rcases u with u|u
   .have:=c0.ap j u;exact⟨oM,this.2⟩
   .exact p0 j u
  obtain⟨aC,cC,eC⟩:=f6.slice;have g2:∀Hx:d7,D9 prog .len [119] [vC] Hx=some (.int .i64 ((s.texts++[fs]).length:Int),none):=fun Hx=>by
   rw[eC];exact J1 bq trivial
  have h7:bsA prog (some 9) HA 1 [(0,.string fs)]=some (sL HA.n 1 1,HB):=by
   rw[f4];simp only[E5,ty9,E6];rfl
  have l3:((s.names++[nm]).flatMap fun n=>S7 (s.attrs.zip s.vals) (Y3 n))++(s.texts++[fs]).map cZ=jR s:=by rw[jR,g3,k1]
  refine J11 ho k4 k5 j0 q3 f8 h7 m4 j4 e5 g2 ?_;refine j5 (F:=fun z=>Ret (t6 _ _ _ (u6 (inBlock 2 z) _)) _ _) (PV HC U.n (fun j=>GA j\/j8 vC j) wA aC cC (s.texts++[fs]) d3.ap oM (by rw[<-eC];exact f6.frz fun b D=> .inr D) (by simp;omega) (jR s) (s.texts++[fs]).length _ _ ⟨0,_,wA,_,rfl,oM,k5,eC,rfl,rfl,d3,fd.refl _ _ _ _,l3,oM⟩) ?_;rintro o2 e2 HD ⟨o0,o6,GD,wD,b5,f7⟩;have m5:=b5.g;have nD:=f7.stay.n;have k8:d9 H.n H HD:=((((o8.trans (d1.wk oM)).trans (a7.stay.wk oM)).trans (b6.stay.wk oM)).trans (a8.stay.wk oM)).trans (f7.stay.wk oM);have n0:H.n<=HD.low:=(((((d1.wk (show H.n<=U.n from oM)).trans (a7.stay.wk oM)).trans (b6.stay.wk oM)).trans (a8.stay.wk oM)).trans (f7.stay.wk oM)).low m9;refine J3 o0 o6 m5 ?_;refine bG (fun hc=>?_) ⟨_,_,rfl,.inr ⟨_,a5,rfl,SlF.mono (b5.own.frz fun b D=>(b5.own.lt D).2) (fun _ _=>rfl) (fun j u=>u) (fun _ _ h=>A0 _ _ _ _ _ _ h (fun _ _=>rfl) fun j u=>(b5.ap j u).1)⟩,k8.ret n0⟩;obtain⟨da,dc,ed⟩:=b5.own.slice;obtain⟨u1,u2⟩:=cD b5.own (by rw[ed]at hc ⊢;exact hc);exact⟨_,_,rfl,.inr ⟨_,a5,rfl,by rw[u1,u2];exact .inl ⟨rfl,rfl⟩⟩,d9.refl _ _⟩
 .have D:=dT b;rw[cA D]at a5;refine J19 ac f2.symm g1 ldc d2 c3 d5 g5.symm b9.symm j1 lr lz ar k9 b7.symm g4 k7 k0 b ?_;exact⟨_,none,H,rfl,rfl,_,_,rfl,.inl ⟨a5,rfl,rfl⟩,d9.refl _ _⟩
structure ReD where
 strat:StD
 labels:List EvD
 sorts:List SoD
 size:List Int
 how:List (Int×Int×Int)
def knB(n:Nat)(k:Int):Bool:=decide (0<=k)&&decide (k<n)
def eG(so:List SoD)(kind f n:Int):Bool:=knB so.length f&&knB so.length n&&(!decide (kind=2)||(decide (f=0)&& !((so.getD n.toNat (false,false,eB)).2.1)))
def CF(H:d7)(z:Nat)(h:LV)(own:Bool)(sz:Nat)(E:H.g z=some (.cells h own sz))(sa:Option Addr)(n c:Nat)(D:h[9]?=some (.slice sa n c))(k:Int):CL prog l7 102 [pT z,iV k] H=some (.bool (knB n k),none):=by
 have u:d7.g ⟨H.bs,H.n⟩ z=some (.cells h own sz):=E;rw[i8 Ng rfl _ sM,knB];rcases b:decide ((0:Int)<=k)with _|_
 .exact J1 b trivial
 .exact J3 b u D trivial
def Nw(H:d7)(rb:Nat)(I:LV)(own:Bool)(sz:Nat)(hg:H.g rb=some (.cells I own sz))(z:List SoD)(v:aet)(hv:SlI H H.n 3 (u9 soE) v z)(h9:I[9]?=some v)(el:LV)(e:EvD)(hl:el.length=5)(S:el.all oC=true)(O:el[0]?=some (.int .i64 e.kind))(f n:Int):
  CL prog l7 68 [pT rb,.agg el.toArray,iV f,iV n] H=some (.bool (eG z e.kind f n),none):=by
 obtain⟨sa,c,rfl⟩:=hv.slice;obtain⟨H1,h,-,J,hS⟩:=pushF H (bC el 1);have a3:H.n<=H1.low:=by rw[h];exact lR
 have U:=(hS.g rb (u5 hg)).trans hg;have u:=CF H1 rb I own sz U sa z.length c h9 f;have E:=CF H1 rb I own sz U sa z.length c h9 n;rw[i8 Vw rfl _ sM,eG];rcases b:decide (e.kind=2)with _|_
 .rcases X:knB z.length f with _|_
  .rw[X]at u;exact J6 S h.symm J O b u trivial
  .rw[X]at u;rcases W:knB z.length n with _|_
   .rw[W]at E;exact J7 S h.symm J O b u E trivial
   .rw[W]at E;exact J7 S h.symm J O b u E trivial
 .rcases X:knB z.length f with _|_
  .rw[X]at u;exact J6 S h.symm J O b u trivial
  .rw[X]at u;rcases W:knB z.length n with _|_
   .rw[W]at E;exact J7 S h.symm J O b u E trivial
   .have D:=W;simp only[knB,gk,xo]at D;rw[W]at E;rcases b3:decide (f=0)with _|_
    .exact J8 S h.symm J O b u E b3 trivial
    .have hn:(n.toNat:Int)=n:=abE D.1;have a2:n.toNat<z.length:=oM;obtain⟨y,nb,o,cs,ow,a5,hx,hd,e0,hF,a1,a6,a4,hc,rfl⟩:=hv.row (i:=n.toNat) a2;subst e0;have c1:=hc 1 oM;have gn:=(hS.g nb hF).trans a1;have hy:(z.getD n.toNat (false,false,eB)).2.1=y.2.1:=by rw[ma,hx];rfl
     have y1:(soE y)[1]?=some (.bool y.2.1):=rfl;rw[y1]at c1;have p0:(0:Int)<=n:=D.1;have p1:n<z.length:=D.2;exact J15 S h.symm J O b u E b3 U h9 p0 p1 gn c1 hy trivial
def mx2(a b:Int):Int:=if a<b then b else a
def mxL:List Int->Int
 |[]=>0
 |x::l=>l.foldl mx2 x
def IB(H0:d7)(U:Option Addr)(J:Nat)(l:List Int)(hv:SlI H0 H0.n 1 (u9 inE) (.slice U l.length J) l)(hn:l.length<=100000)(r:Int):
  ∀E e H2,(∃(i:Nat)(m:Int),E=l.length-i/\1<=i/\i<=l.length/\e.g 0= .slice U l.length J/\e.g 3=iV m/\e.g 4=iV i/\H2=H0/\(l.drop i).foldl mx2 m=r)->
  u7 (LE prog l7 (.loop YN) e H2) (fun o e H2=>H2=H0/\o= .exit 0/\e.g 3=iV r):=by
 refine i5 _ _ ?_;rintro E e H2 ⟨i,m,hk,a1,hi,u,z,O,rfl,h⟩;rcases b:decide ((i:Int)<l.length)with _|_
 .have D:=dF b;have:l.drop i=[]:=dN oM;rw[this,aaT]at h;refine J4 u z O b ?_;exact i6 ⟨rfl,rfl,by rw[<-h];exact z⟩
 have D:=dT b;obtain⟨y,nb,o,cs,own,el,hx,X,rfl,a3,hg,a2,S,W,rfl⟩:=hv.row (i:=i) oM;have nt:(i:Int).toNat=i:=tN i;have I:=W 0 oM;rw[aaf]at I;rw[X,aak]at h;have hm:∀Hx,D9 prog .max [3,3] [iV m,iV y] Hx=some (.int .i64 (mx2 m y),none):=fun Hx=>by
  simp [D9,kv,mx2]
 refine J9 u z O b hg nt I hm @wrap_small ?_;exact d8 (E-1) oM ⟨i+1,mx2 m y,oM,oM,oM,u,rfl,rfl,rfl,h⟩
def Ux(H:d7)(v:aet)(l:List Int)(u:SlI H H.n 1 (u9 inE) v l)(E:1<=l.length)(hn:l.length<=100000):CL prog l7 66 [v] H=some (.int .i64 (mxL l),none):=by
 obtain⟨va,S,rfl⟩:=u.slice;obtain⟨y,O,o,cs,own,el,J,hd,rfl,a2,hg,a1,I,hc,rfl⟩:=u.row (i:=0) oM;have D:=hc 0 oM;simp only[aa8,aaf]at D;have b:decide ((l.length:Int)<1)=false:=kA oM;have h:d7.g ⟨H.bs,H.n⟩ O=some (.cells cs own 1):=hg;have U:mxL l=(l.drop 1).foldl mx2 y:=by
  cases l with
  |nil=>simp at E
  |cons x l=>simp at J;rw[<-J];rfl
 rw[i8 Vv rfl _ sM];refine J3 b h D ?_;refine j5 (F:=fun z=>t6 _ _ _ (u6 (inBlock 0 z) _)=_) (IB ⟨H.bs,H.n⟩ (some ⟨O,o,none⟩) S l (u.mono (fun _ _=>rfl) lR iF) hn (mxL l) (l.length-1) _ _ ⟨1,y,rfl,lR,E,rfl,rfl,rfl,rfl,U.symm⟩) ?_;rintro o' e' H' ⟨X,ho,W⟩;exact J3 ho X W trivial
def Qy(H:d7)(D:Nat)(h:LV)(own:Bool)(sz:Nat)(O:H.g D=some (.cells h own sz))(v:aet)(l:List Int)(W:SlI H H.n 1 (u9 inE) v l)(u:h[10]?=some v)(E:1<=l.length)(U:l.length<=100000)(size:Int)(I:0<=mxL l)(J:mxL l<=1000):
  CL prog l7 33 [pT D,iV size] H=some (.bool (decide (size<=2*mxL l+1)),none):=by
 have S:=Ux ⟨H.bs,H.n⟩ v l (W.mono (fun _ _=>rfl) lR iF) E U;have z:d7.g ⟨H.bs,H.n⟩ D=some (.cells h own sz):=O;rw[i8 TO rfl _ sM];exact J4 z u S @wrap_small trivial
def Pi(H:d7)(h:LV)(D:List SoD)(v:aet)(hv:SlI H H.n 3 (u9 soE) v D)(hl:h.length=12)(X:h.all oC=true)(W:h[9]?=some v)(hn:D.length<=1000)(x:SoD):
  CL prog l7 122 [.agg h.toArray,.agg (soE x).toArray] H=some (.int .i64 (ixG (fun y=>bV x y) D 0),none):=by
 obtain⟨O,z,J,-⟩:=pushF H (bC h 1);obtain⟨H2,u⟩:=eY (O.push (bC (soE x) 1));have E:d9 H.n H H2:=by rw[u,z];exact(d9.first H _).trans (d9.push (by rw[i4];exact adQ _))
 have S:H2.g H.n=cE h 1:=by rw[u,i9 oM,z];exact j7
 have U:H2.g (H.n+1)=cE (soE x) 1:=by rw[u,<-J];exact j7
 have I:H.n<=H2.low:=by rw[u,z];exact lR
 have hr:ldC (some true) (some 3) 0 (soE x)=some (.agg (soE x).toArray):=rfl;have hf:=HG H2 H.n v D x (oN (E.n)) (hv.mono (fun j hj=>E.g j hj) lR iF) oM;rw[i8 Tn rfl _ sM];exact J9 X z.symm J u.symm S U W hr hf trivial
structure X4(Rp Rt:LV->Q->Prop)(H:d7)(rb lw:Nat)(G:Nat->Prop)(r:ReD)(rs:LV)(vl w1 w2 w3:aet):Prop where
 g:H.g rb=cE (rs++[vl,w1,w2,w3]) 1
 st:StF H G Rp Rt rs r.strat
 lb:SlF H G 5 (EvF H G) vl r.labels
 so:t7 H lw 3 (u9 soE) w1 r.sorts
 sz:t7 H lw 1 (u9 inE) w2 r.size
 ho:t7 H lw 3 (u9 hoE) w3 r.how
 ap:dy [w1,w2,w3]
 fr:∀j,G j->j<H.n/\j≠rb/\∀w∈ [w1,w2,w3],¬j8 w j
 nb:lw<=rb/\∀w∈ [w1,w2,w3],¬j8 w rb
structure bR(rb lw:Nat)(W0:LV)(H0:d7)(W:LV)(H:d7):Prop where
 but:∀j,j<H0.n->j≠rb->(∀w∈W0,¬j8 w j)->H.g j=H0.g j
 new:∀b,(∃w∈W,j8 w b)->(∃w∈W0,j8 w b)\/H0.n<=b
 stay:d9 lw H0 H
def bR.refl(rb lw:Nat)(W:LV)(H:d7):bR rb lw W H W H:=⟨fun _ _ _ _=>rfl,fun _ h=> .inl h,d9.refl _ _⟩
def bR.trans{H0 H1 H2:d7}(h:bR rb lw z H0 D H1)(k:bR rb lw D H1 E H2):bR rb lw z H0 E H2:=by
 have X:=h.stay.n;refine⟨fun j S I J=>?_,fun b O=>?_,h.stay.trans k.stay⟩
 .rw[k.but j oM I (fun w U q=>by
   rcases h.new j ⟨w,U,q⟩with⟨W,u,r⟩|r
   .exact J W u r
   .omega),h.but j S I J]
 .rcases k.new b O with q|q
  .exact h.new b q
  .exact .inr oM
def bR.of{H H1:d7}(u:d9 H.n H H1)(h:lw<=H.n):bR rb lw W H W H1:=⟨fun j z _ _=>u.g j z,fun _ h=> .inl h,u.wk h⟩
section
variable{Rp Rt:List Value->Q->Prop}{H H1:d7}{rb lw:Nat}{G:Nat->Prop}{r:ReD}{rs:List Value}{vl w1 w2 w3:Value}
def X4.inl(h:X4 Rp Rt H rb lw G r rs vl w1 w2 w3){w:aet}(D:w∈ [w1,w2,w3]){b:Nat}(u:j8 w b):lw<=b/\b≠rb/\b<H.n:=by
 have z:b≠rb:=fun q=>h.nb.2 w D (q▸u);simp only[aam,abf,aco]at D;rcases D with rfl|rfl|rfl
 .exact⟨(h.so.lt u).1,z,(h.so.lt u).2⟩
 .exact⟨(h.sz.lt u).1,z,(h.sz.lt u).2⟩
 .exact⟨(h.ho.lt u).1,z,(h.ho.lt u).2⟩
def X4.rsl(h:X4 Rp Rt H rb lw G r rs vl w1 w2 w3):rs.length=8:=by
 obtain⟨D,E,I,z,rfl,_,_,_,u⟩:=h.st;have:=dP u;simp [this]
def X4.at_(h:X4 Rp Rt H rb lw G r rs vl w1 w2 w3):(rs++[vl,w1,w2,w3])[8]?=some vl/\(rs++[vl,w1,w2,w3])[9]?=some w1/\(rs++[vl,w1,w2,w3])[10]?=some w2/\(rs++[vl,w1,w2,w3])[11]?=some w3:=by
 have:=h.rsl;refine⟨?_,?_,?_,?_⟩<;>rw[aao oM,this]<;>rfl
def X4.keep(h:X4 Rp Rt H rb lw G r rs vl w1 w2 w3)(u:d9 H.n H H1):X4 Rp Rt H1 rb lw G r rs vl w1 w2 w3:=by
 have D:=u5 h.g;have I:=u.n;have E:∀j,G j->H1.g j=H.g j:=fun j z=>u.g j (h.fr j z).1;exact⟨(u.g rb D).trans h.g,h.st.mono E (fun _ h=>h) iF iF,h.lb.mono E (fun _ h=>h) (fun _ _ q=>A0 _ _ _ _ _ _ q E (fun _ h=>h)),h.so.keep u,h.sz.keep u,h.ho.keep u,h.ap,fun j z=>by have:=h.fr j z;exact⟨oM,this.2⟩,h.nb⟩
end
def bu(r:ReD)(x:SoD)(size:Int)(how:Int×Int×Int):ReD×Bool:=
 if(r.sorts.any fun y=>bV x y) then(r,true) else if(decide (24<(r.sorts.length:Int))||decide (200<size)) then(r,false) else({r with sorts:=r.sorts++[x],size:=r.size++[size],how:=r.how++[how]},true)
def NM(Rp Rt:LV->Q->Prop)(rb lw:Nat)(G:Nat->Prop)(rs:LV)(vl w1 w2 w3:aet)(H:d7)(r':ReD)(b:Bool):aet->d7->Prop:=fun v H'=>v= .bool b/\∃x1 x2 x3,X4 Rp Rt H' rb lw G r' rs vl x1 x2 x3/\bR rb lw [w1,w2,w3] H [x1,x2,x3] H'
def Rv(Rp Rt:LV->Q->Prop)(H:d7)(rb lw:Nat)(G:Nat->Prop)(r:ReD)(rs:LV)(vl w1 w2 w3:aet)(hR:X4 Rp Rt H rb lw G r rs vl w1 w2 w3)(x:SoD)(size:Int)(how:Int×Int×Int)(j0:r.sorts.length<=1000)(j1:r.size.length<=1000)(j2:r.how.length<=1000):
  Ret (CL prog l7 69 [pT rb,.agg (soE x).toArray,iV size,.agg (hoE how).toArray] H) H (NM Rp Rt rb lw G rs vl w1 w2 w3 H (bu r x size how).1 (bu r x size how).2):=by
 obtain⟨H0,a5,n0,-⟩:=pushF H (bC (soE x) 1);obtain⟨H1,U⟩:=eY (H0.push (bC (hoE how) 1));have n1:H1.n=H.n+2:=by rw[U,i4,n0]
 have hS:d9 H.n H H1:=by rw[U,a5];exact(d9.first H _).trans (d9.push (by rw[i4];exact adQ _))
 have g1:H1.g H.n=cE (soE x) 1:=by rw[U,i9 oM,a5];exact j7
 have g2:H1.g (H.n+1)=cE (hoE how) 1:=by rw[U,<-n0];exact j7
 have i0:H.n<=H1.low:=by rw[U,a5];exact lR
 have j4:=u5 hR.g;have u:=hR.keep hS;have a4:=u.g;have b6:=u.nb.1;obtain⟨q8,q9,f8,f9⟩:=u.at_;have a8:=hR.rsl;obtain⟨X,b4⟩:=eY (rs++[vl,w1,w2,w3]);rw[<-b4]at a4 q8 q9 f8 f9;have b7:ldC (some true) (some 3) 0 (soE x)=some (.agg (soE x).toArray):=rfl;have f0:ldC (some true) (some 3) 0 (hoE how)=some (.agg (hoE how).toArray):=rfl;have hh:=Up H1 H1.n w1 r.sorts x lR u.so.sl oM;rw[i8 Vx rfl _ sM];rcases b:(r.sorts.any fun y=>bV x y)with _|_
 .rw[b]at hh;rcases b2:decide (24<(r.sorts.length:Int))with _|_
  .rcases b3:decide (200<size)with _|_
   .have ha:bu r x size how=({r with sorts:=r.sorts++[x],size:=r.size++[size],how:=r.how++[how]},true):=by rw[bu,b,b2,b3];rfl
    rw[ha];obtain⟨v1,i1,K2,e5,b8,b1,D⟩:=u.so.push1F (P:=prog) (t:=36) (cs:=soE x) (a:=x) (by exact bA.2.2.2.2.2.2) ml.1 ml.2.1 ml.2.2.1 oM oM rfl rfl oM oM;obtain⟨K1,d3,-,-,s1⟩:=pushE H1 (bC (soE x) 3);rw[<-d3]at e5 b8;have m2:=D.n;have c9:∀j,j8 w1 j->¬j8 w2 j:=u.ap 0 1 w1 w2 rfl rfl oM;have d0:∀j,j8 w1 j->¬j8 w3 j:=u.ap 0 2 w1 w3 rfl rfl oM;have d1:∀j,j8 w2 j->¬j8 w3 j:=u.ap 1 2 w2 w3 rfl rfl oM;have l1:∀j,j8 w1 j->lw<=j/\j≠rb/\j<H1.n:=fun j W=>u.inl sM W;have l2:∀j,j8 w2 j->lw<=j/\j≠rb/\j<H1.n:=fun j W=>u.inl sM W;have l3:∀j,j8 w3 j->lw<=j/\j≠rb/\j<H1.n:=fun j W=>u.inl sM W;have f5:t7 K2 lw 1 (u9 inE) w2 r.size:=u.sz.same fun b z=>D.but b (l2 b z).2.2 (fun q=>c9 b q z);obtain⟨v2,i2,K4,e6,b9,b5,E⟩:=f5.push1F (P:=prog) (t:=30) (cs:=inE size) (a:=size) (by exact OK.2.2.2.2.2.2) ty3.1 ty3.2.1 ty3.2.2.1 oM oM rfl rfl oM oM;obtain⟨K3,d4,-,-,s3⟩:=pushE K2 (bC (inE size) 1);rw[<-d4]at e6 b9;have m4:=E.n;have e8:t7 K4 lw 3 (u9 hoE) w3 r.how:=(u.ho.same (H':=K2) fun b z=>D.but b (l3 b z).2.2 (fun q=>d0 b q z)).same fun b z=>E.but b (oN (l3 b z)) (fun q=>d1 b q z);obtain⟨v3,i3,K6,e7,c0,d6,S⟩:=e8.push1F (P:=prog) (t:=37) (cs:=hoE how) (a:=how) (by exact Rf.2.2.2.2.2.2) SY.1 SY.2.1 SY.2.2.1 oM oM rfl rfl oM oM;obtain⟨K5,d5,-,-,s5⟩:=pushE K4 (bC (hoE how) 3);rw[<-d5]at e7 c0;have m6:=S.n;have k1:K1.g rb=cE X 1:=(s1.g rb oM).trans a4;have k2:K2.g rb=cE X 1:=(D.but rb oM (fun q=>by have:=l1 rb q;omega)).trans a4;have k3:K3.g rb=cE X 1:=(s3.g rb oM).trans k2;have k4:K4.g rb=cE X 1:=(E.but rb oM (fun q=>by have:=l2 rb q;omega)).trans k2;have k5:K5.g rb=cE X 1:=(s5.g rb oM).trans k4;have k6:K6.g rb=cE X 1:=(S.but rb oM (fun q=>by have:=l3 rb q;omega)).trans k4;have nH:∀w∈ [w1,w2,w3],¬j8 w (H.n+1):=fun w hw q=>oN (hR.inl hw q);have p1:=(s1.g (H.n+1) oM).trans g2;have p2:=(D.but (H.n+1) oM (nH w1 sM)).trans g2;have p3:=(s3.g (H.n+1) oM).trans p2;have p4:=(E.but (H.n+1) oM (nH w2 sM)).trans p2;obtain⟨a1,c1,e1⟩:=b1.slice;obtain⟨a2,c2,e2⟩:=b5.slice;obtain⟨a3,c3,e3⟩:=d6.slice;have g6:v1.cells.toList=[v1]:=by rw[e1];rfl
    have h4:Value.oneCell' v1=true:=by rw[e1];rfl
    have g7:v2.cells.toList=[v2]:=by rw[e2];rfl
    have h5:Value.oneCell' v2=true:=by rw[e2];rfl
    have g8:v3.cells.toList=[v3]:=by rw[e3];rfl
    have h6:Value.oneCell' v3=true:=by rw[e3];rfl
    have f6:X.length=12:=by rw[b4];simp [a8]
    obtain⟨I,c6⟩:=eY (rs++[vl,v1,w2,w3]);obtain⟨J,c7⟩:=eY (rs++[vl,v1,v2,w3]);obtain⟨a6,f4⟩:=eY (rs++[vl,v1,v2,v3]);have g9:I.length=12:=by rw[c6];simp [a8]
    have h0:J.length=12:=by rw[c7];simp [a8]
    have h7:splice X 9 [v1]=I:=by show X.set 9 v1=I;rw[b4,c6,abH _ _ oM,a8];rfl
    have h8:splice I 10 [v2]=J:=by show I.set 10 v2=J;rw[c6,c7,abH _ _ oM,a8];rfl
    have h9:splice J 11 [v3]=a6:=by show J.set 11 v3=a6;rw[c7,f4,abH _ _ oM,a8];rfl
    obtain⟨K7,a9⟩:=eY (K6.put rb (bC I 1));have k7:K7.g rb=cE I 1:=by rw[a9];exact i7 oM
    have m7:K7.n=K6.n:=by rw[a9,j9]
    obtain⟨K8,b0⟩:=eY (K7.put rb (bC J 1));have k8:K8.g rb=cE J 1:=by rw[b0];exact i7 oM
    have m8:K8.n=K6.n:=by rw[b0,j9,m7]
    obtain⟨K9,a7⟩:=eY (K8.put rb (bC a6 1));have k9:K9.g rb=cE a6 1:=by rw[a7];exact i7 oM
    have m9:K9.n=K6.n:=by rw[a7,j9,m8]
    have g4:bsA prog (some 88) H1 1 [(0,.agg (soE x).toArray)]=some (sL H1.n 1 1,K1):=by
     rw[d3];simp only[E5,ml,E6];rfl
    have g3:bsA prog (some 3) K2 1 [(0,iV size)]=some (sL K2.n 1 1,K3):=by
     rw[d4];simp only[E5,ty3,E6];rfl
    have g5:bsA prog (some 90) K4 1 [(0,.agg (hoE how).toArray)]=some (sL K4.n 1 1,K5):=by
     rw[d5];simp only[E5,SY,E6];rfl
    have c4:∀Hx:d7,D9 prog .len [36] [w1] Hx=some (.int .i64 (r.sorts.length:Int),none):=fun Hx=>by
     obtain⟨aa,cc,ee⟩:=u.so.slice;rw[ee];exact J1 bA trivial
    have e9:∀j,j≠rb->K9.g j=K6.g j:=fun j W=>by rw[a7,j6 (fun q=>W q.symm),b0,j6 (fun q=>W q.symm),a9,j6 (fun q=>W q.symm)]
    have d2:∀j,j<H1.n->j≠rb->(∀w∈ [w1,w2,w3],¬j8 w j)->K9.g j=H1.g j:=fun j W h1 h2=>by
     rw[e9 j h1,S.but j oM (h2 w3 sM),E.but j oM (h2 w2 sM),D.but j W (h2 w1 sM)]
    have f7:∀b,j8 v1 b->¬j8 w2 b/\¬j8 w3 b:=fun b z=>by
     rcases D.new b z with q|q
     .exact⟨c9 b q,d0 b q⟩
     .exact⟨fun r=>by have:=l2 b r;omega,fun r=>by have:=l3 b r;omega⟩
    have h3:∀b,j8 v2 b->¬j8 w3 b:=fun b z=>by
     rcases E.new b z with q|q
     .exact d1 b q
     .exact fun r=>oN (l3 b r)
    have e4:d9 lw H1 K9:=by
     rw[a7,b0,a9];exact(((((D.stay.wk oM).trans (E.stay.wk oM)).trans (S.stay.wk oM)).trans (d9.put b6)).trans (d9.put b6)).trans (d9.put b6)
    have f1:t7 K9 lw 3 (u9 soE) v1 (r.sorts++[x]):=b1.same fun b z=>by
     have:=b1.lt z;have c5:b≠rb:=by
      rcases D.new b z with q|q
      .exact(l1 b q).2.1
      .omega
     rw[e9 b c5,S.but b oM (f7 b z).2,E.but b oM (f7 b z).1]
    have f2:t7 K9 lw 1 (u9 inE) v2 (r.size++[size]):=b5.same fun b z=>by
     have:=b5.lt z;have c5:b≠rb:=by
      rcases E.new b z with q|q
      .exact(l2 b q).2.1
      .omega
     rw[e9 b c5,S.but b oM (h3 b z)]
    have f3:t7 K9 lw 3 (u9 hoE) v3 (r.how++[how]):=d6.same fun b z=>e9 b (by
      rcases S.new b z with q|q
      .exact(l3 b q).2.1
      .omega)
    have nw:∀b,(∃w∈ [v1,v2,v3],j8 w b)->(∃w∈ [w1,w2,w3],j8 w b)\/H1.n<=b:=fun b⟨w,hw,z⟩=>by
     simp only[aam,abf,aco]at hw;rcases hw with rfl|rfl|rfl
     .exact(D.new b z).imp (fun q=>⟨w1,by simp,q⟩) id
     .exact(E.new b z).imp (fun q=>⟨w2,by simp,q⟩) (fun q=>oM)
     .exact(S.new b z).imp (fun q=>⟨w3,by simp,q⟩) (fun q=>oM)
    have g0:dy [v1,v2,v3]:=by
     have t1:dy [v1,w2,w3]:=u.ap.set (k:=0) (v:=v1) (n:=H1.n) rfl D.new fun y hy b z=>(u.inl hy z).2.2;have t2:dy [v1,v2,w3]:=t1.set (k:=1) (v:=v2) (n:=K2.n) rfl E.new fun y hy b z=>by
      simp only[aam,abf,aco]at hy;rcases hy with rfl|rfl|rfl
      .exact(b1.lt z).2
      .have:=l2 b z;omega
      .have:=l3 b z;omega
     exact t2.set (k:=2) (v:=v3) (n:=K4.n) rfl S.new fun y hy b z=>by
      simp only[aam,abf,aco]at hy;rcases hy with rfl|rfl|rfl
      .have:=b1.lt z;omega
      .exact(b5.lt z).2
      .have:=l3 b z;omega
    have sG:∀j,G j->K9.g j=H1.g j:=fun j W=>by have:=u.fr j W;exact d2 j this.1 this.2.1 this.2.2
    have O:X4 Rp Rt K9 rb lw G {r with sorts:=r.sorts++[x],size:=r.size++[size],how:=r.how++[how]} rs vl v1 v2 v3:=
     ⟨by rw[k9,f4],u.st.mono sG (fun _ h=>h) iF iF,u.lb.mono sG (fun _ h=>h) (fun _ _ q=>A0 _ _ _ _ _ _ q sG (fun _ h=>h)),f1,f2,f3,g0,fun j W=>by
      have h:=u.fr j W;refine⟨oM,h.2.1,fun w hw q=>?_⟩;rcases nw j ⟨w,hw,q⟩with⟨w',c8,r⟩|r
      .exact h.2.2 w' c8 r
      .omega,b6,fun w hw q=>by
      rcases nw rb ⟨w,hw,q⟩with⟨w',c8,r⟩|r
      .exact u.nb.2 w' c8 r
      .omega⟩
    refine J30 a5.symm n0 U.symm g1 g2 a4 q9 f8 f9 (aI b7 f0) (aI hh c4) (aI b2 b3) (aI g4 k1) (aI e5 b8) (aI k2 g3) (aI k3 p1) (aI p2 p3) (aI p4 e6) (aI b9 k4) (aI g5 k5) (aI e7 c0) (aI k6 g6) (aI h4 g7) (aI h5 g8) (aI h6 f6) (aI g9 h0) (aI h7 a9.symm) (aI k7 h8) (aI b0.symm k8) (aI h9 a7.symm) ?_;have j3:K9.low<=rb:=by rw[a7,A5];omega
    refine F9 (fun _ hl=>oM) ⟨rfl,v1,v2,v3,⟨O.g,O.st.mono (fun _ _=>rfl) (fun _ h=>h) iF iF,O.lb.mono (fun _ _=>rfl) (fun _ h=>h) (fun _ _ q=>A0 _ _ _ _ _ _ q (fun _ _=>rfl) (fun _ h=>h)),O.so.low _,O.sz.low _,O.ho.low _,O.ap,O.fr,O.nb⟩,fun j W h1 h2=>?_,fun b z=>(nw b z).imp id fun q=>oM,⟨?_,fun k hk q=>?_,fun j W=>?_⟩⟩
    .show K9.g j=H.g j;rw[d2 j oM h1 h2,hS.g j W]
    .show H.n<=K9.n;omega
    .have:=e4.lowAll k hk oM;show k<=min H.low K9.low;omega
    .show K9.g j=H.g j;rw[e4.g j W,hS.g j oM]
   .have ha:bu r x size how=(r,false):=by rw[bu,b,b2,b3];rfl
    rw[ha];obtain⟨a1,c1,e1⟩:=u.so.slice;rw[e1]at hh q9;refine J11 a5.symm n0 U.symm g1 g2 a4 q9 b7 hh b2 b3 ?_;exact⟨_,none,H,rfl,rfl,rfl,w1,w2,w3,hR,bR.refl _ _ _ _⟩
  .have ha:bu r x size how=(r,false):=by rw[bu,b,b2];rfl
   rw[ha];obtain⟨a1,c1,e1⟩:=u.so.slice;rw[e1]at hh q9;refine J10 a5.symm n0 U.symm g1 g2 a4 q9 b7 hh b2 ?_;exact⟨_,none,H,rfl,rfl,rfl,w1,w2,w3,hR,bR.refl _ _ _ _⟩
 .rw[b]at hh;have ha:bu r x size how=(r,true):=by rw[bu,b];rfl
  rw[ha];refine J9 a5.symm n0 U.symm g1 g2 a4 q9 b7 hh ?_;exact⟨_,none,H,rfl,rfl,rfl,w1,w2,w3,hR,bR.refl _ _ _ _⟩
end Go.Proofs.YtbekeboballbgaaGreatDoor.Ve
namespace Go.Proofs.YtbekeboballbgaaGreatDoor.Ve
open Go Ve.Ab
open Go.Proofs.Tryz (prog)
noncomputable def p34:Code×Code×Code×Code×Code:=match Tryz.f34.body with
 |some (.seq a (.seq (.seq b (.block _ (.rangeFunc _ _ A B))) c))=>(a,b,A,B,c)
 |_=>(.skip,.skip,.skip,.skip,.skip)
def Og:Tryz.f34.body=some (.seq p34.1 (.seq (.seq p34.2.1 (.block 0 (.rangeFunc (.tmp 11) #[12,13] p34.2.2.1 p34.2.2.2.1))) p34.2.2.2.2)):=kR
abbrev RU:=cO [N 2 (bx 92 0),N 3 (bx 3 1),N 4 (.alloc 4)]
def ZR:T2 p34.1=some RU:=kR
abbrev RV:=cO [L 9 92 2,L 10 3 3,N 11 (c2 67 9 10 92 3)]
def ZS:T2 p34.2.1=some RV:=kR
abbrev Hw:=cX [A 5 12] (cO [A 6 13])
def Zr:T2 p34.2.2.1=some Hw:=kR
abbrev Yx:=cS (.mix [⟨L 30 92 2,false,true,0,1⟩,m1 (L 31 92 2),m0 (N 32 (nc 31)),m0 (F 33 39 32 0),m1 (L 34 35 33),m1 (L 35 46 8),m1 (L 36 92 2),m0 (N 37 (nc 36)),m0 (F 38 39 37 2),m1 (L 39 36 38),m0 (M 40 5),m0 (N 41 (ia 36 39 40)),m1 (L 42 88 41),m1 (L 43 92 2),m0 (N 44 (nc 43)),m0 (F 45 39 44 2),m1 (L 46 36 45),m0 (M 47 6),m0 (N 48 (ia 36 46 47)),m1 (L 49 88 48),m3 (N 50 (cf 70 #[T 34,T 35,T 42,T 49] #[35,46,88,88])) 0 1,⟨L 51 3 3,false,true,0,1⟩,m2 (M 52 7) 0 1,m2 (M 53 5) 0 1,m2 (M 54 6) 0 1,m2 (N 55 (.build 90 #[(0,T 52),(1,T 53),(2,T 54)])) 0 1,m3 (N 56 (cf 69 #[T 30,T 50,T 51,T 55] #[92,88,3,90])) 1 2,m2 (N 57 (nt' 4 56)) 2 2]) (cC (T 57) (cR [V (.store 4 (T 4) B0)]) .skip)
abbrev Yy:=cS (cX [L 24 92 2,L 25 46 8,M 26 5,M 27 6,N 28 (cf 68 #[T 24,T 25,T 26,T 27] #[92,46,3,3]),N 29 (nt' 4 28)] (cC (T 29) (.exit 3) .skip)) Yx
abbrev Yz:=cS (cB 3 (cX [M 21 19,N 22 (ia 26 17 19),L 23 46 22,N 8 (.alloc 46),A 7 21,V (st' 46 8 23)] Yy)) (cO [N 58 (iN 19),M 19 58])
abbrev WW:=cX [N 20 (bo .lss 3 19 18 3)] (cG 20 2 Yz)
abbrev Hy:=cB 1 (cX [L 14 92 2,N 15 (nc 14),F 16 39 15 1,L 17 26 16,N 18 (ln 17 26),N 19 (.move (K 0))] (cW 2 WW))
def Zs:T2 p34.2.2.2.1=some Hy:=kR
abbrev ND:=cR [V (.store 4 (T 4) B1)]
def ZT:T2 p34.2.2.2.2=some ND:=kR
def PA:prog.funcs[34]?=some Tryz.f34:=kR
def VW:(L3 Tryz.f34.ntmps p34.1&&L3 Tryz.f34.ntmps p34.2.1&&L3 Tryz.f34.ntmps p34.2.2.1&&L3 Tryz.f34.ntmps p34.2.2.2.1&&L3 Tryz.f34.ntmps p34.2.2.2.2&&I1 p34.2.2.1&&I1 p34.2.2.2.1&&decide (12<Tryz.f34.ntmps)&&decide (13<Tryz.f34.ntmps))=true:=kR
def Uk:fnA prog 34=none:=kR
def VV:Tryz.f34.ntmps=59:=kR
def Wa:Tryz.f34.results.toList=[.cell 4 4]:=kR
end Go.Proofs.YtbekeboballbgaaGreatDoor.Ve
