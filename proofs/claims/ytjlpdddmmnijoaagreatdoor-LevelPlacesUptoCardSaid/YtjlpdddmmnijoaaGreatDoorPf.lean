/- The law of the level returns true for every input whose readings are of bulk at most 1048576. Conditions: what comes in is of bulk at most 1048576. -/
import Derived.Test.YtjlpdddmmnijoaaGreatDoorPe
set_option linter.unusedVariables false
set_option linter.unusedSimpArgs false
set_option linter.defProp false
set_option maxHeartbeats 0
set_option maxRecDepth 1000000
namespace Go.Proofs.YtjlpdddmmnijoaaGreatDoor.Ve
open Go Go.RowKit
open Go.Proofs.Tryz (prog)
def vJ(x y:SoD):bZ x y=bZ y x:=by
 rw[Bool.eq_iff_iff];exact⟨fun h=>by have:=xM h;subst this;exact h,fun h=>by have:=xM h;subst this;exact h⟩
structure KdC(q:Q)(r:ReD):Prop where
 ok:OkD false q
 nq:nQ q<=400
 mkq:fY q=some r
 wf:WfR r (A5 (C7 q).progs).toNat
 lab:∀e∈r.labels,SmE e/\(e.kind=1\/e.kind=2)
def KdC.gr{q:Q}{r:ReD}(h:KdC q r):∃m,E0 r m:=(dR h.mkq).1
def KdC.strat{q:Q}{r:ReD}(h:KdC q r):r.strat=C7 q:=(dR h.mkq).2.1
structure RcR(Hs:d7)(lo K:Nat)(r:ReD)(H:d7)(row:LV):Prop where
 hR:fH H (· <H.n) (QR Hs lo K false) (QR Hs lo K true) row r
 l12:row.length=12
 one:row.all Value.oneCell'=true
 low:lo<=H.n
 eq:∀j,j<lo->H.g j=Hs.g j
section
variable{Hs:d7}{lo K:Nat}{r:ReD}{H H':d7}{row:List Value}
def RcR.stay(h:RcR Hs lo K r H row)(z:d9 H.n H H'):RcR Hs lo K r H' row:=by
 have E:=z.n;have D:=h.low;exact⟨h.hR.mono (fun j u=>z.g j u) (fun j u=>oM),h.l12,h.one,oM,fun j u=>by rw[z.g j oM,h.eq j u]⟩
def RcR.form(h:RcR Hs lo K r H row):∃S la lc U c1 W c2 X c3,row[8]?=some (.slice la r.labels.length lc)/\row[9]?=some (.slice U r.sorts.length c1)/\row[10]?=some (.slice W r.size.length c2)/\row[11]?=some (.slice X r.how.length c3)/\
  ldC (some true) (some 8) 0 row=some (.agg S.toArray)/\row.take 12=row/\StF H (· <H.n) (QR Hs lo K false) (QR Hs lo K true) S r.strat/\SlI H H.n 5 (EvF H (· <H.n)) (.slice la r.labels.length lc) r.labels/\SlI H H.n 3 (y7 soE) (.slice U r.sorts.length c1) r.sorts/\SlI H H.n 1 (y7 inE) (.slice W r.size.length c2) r.size/\SlI H H.n 3 (y7 hoE) (.slice X r.how.length c3) r.how:=by
 obtain⟨S,vl,w1,w2,w3,u,J,E,I,O,D⟩:=h.hR;obtain⟨pa,pc,ga,gc,xa,xc,ea,ec,ta,tc,a4,_⟩:=I0 J;have z:S.length=8:=by rw[a4];rfl
 obtain⟨U,c1,rfl⟩:=I.slice;obtain⟨W,c2,rfl⟩:=O.slice;obtain⟨X,c3,rfl⟩:=D.slice;obtain⟨la,lc,rfl⟩:=E.slice;have a5:=h.l12;refine⟨S,la,lc,U,c1,W,c2,X,c3,?_,?_,?_,?_,?_,List.take_of_length_le oM,J,E,I,O,D⟩
 .rw[u,List.getElem?_append_right oM,z];rfl
 .rw[u,List.getElem?_append_right oM,z];rfl
 .rw[u,List.getElem?_append_right oM,z];rfl
 .rw[u,List.getElem?_append_right oM,z];rfl
 .rw[iY _ _ _ oM,u,List.drop_zero,List.take_append_of_le_length oM,List.take_of_length_le oM]
end
def Tl{q:Q}{r:ReD}(D:KdC q r){Hs:d7}{lo K:Nat}{H:d7}{row:LV}(h:RcR Hs lo K r H row){el:LV}{e:EvD}(z:EvF H (· <H.n) el e)(u:e.attrs.length<=1000000)(f n:Int):
  CL prog l7 51 [.agg row.toArray,.agg el.toArray,iV f,iV n] H=some (.int .i64 (M0 r e f n),none):=
 Tk Hs lo K r _ D.wf H row h.hR h.low h.eq h.one el e z u f n
def Tm{q:Q}{r:ReD}(O:KdC q r){Hs:d7}{lo K:Nat}{H:d7}{row:LV}(hR:RcR Hs lo K r H row){el:LV}{e:EvD}(he:EvF H (· <H.n) el e)(b9:e.attrs.length<=1000000)(d0:e.kind=1\/e.kind=2)(f n:Nat)(hf:f<r.sorts.length)(hn:n<r.sorts.length)(h2:e.kind=2->f=0):
  CL prog l7 53 [.agg row.toArray,.agg el.toArray,iV f,iV n] H=some (.int .i64 (M0 r e f n),none):=by
 obtain⟨rs,la,lc,a1,c1,a2,c2,a3,c3,q8,q9,f7,f8,b4,f9,c9,f0,c7,f2,e8⟩:=hR.form;have e9:=O.wf.l1;have f1:=hR.low;have f3:=hR.l12;have z:=hR.one;obtain⟨av,a6,c6⟩:=id he;have f4:el.length=5:=by rw[a6];rfl
 have U:el.all oC=true:=by
  obtain⟨aa,ac,rfl⟩:=c6.slice;rw[a6];rfl
 have X:el[0]?=some (.int .i64 e.kind):=by rw[a6];rfl
 have b5:el.take 5=el:=List.take_of_length_le oM;obtain⟨H1,u,n1,-⟩:=pushF H (bC row 1);obtain⟨H2,h⟩:=eY (H1.push (bC el 1));have n2:H2.n=H.n+2:=by rw[h,i4,n1]
 have hS:d9 H.n H H2:=by rw[h,u];exact(d9.first H _).trans (d9.push (by rw[i4];exact Nat.le_succ _))
 have g1:H2.g H.n=cE row 1:=by rw[h,j5 oM,u];exact j6
 have g2:H2.g (H.n+1)=cE el 1:=by rw[h,<-n1];exact j6
 have d4:H2.low=H.n:=by rw[h,u];rfl
 have J:SlI H2 H2.n 3 (y7 soE) (.slice a1 r.sorts.length c1) r.sorts:=c7.mono (fun j D=>hS.g j D) oM iF;obtain⟨fi,f5,oa,e3,d5,b6,b2,_,e1,e5,S,d1,E,e7,c4⟩:=J.row (i:=f) hf;obtain⟨ne,f6,ob,e4,d6,b7,b3,_,e2,e6,b0,d3,I,c0,c5⟩:=J.row (i:=n) hn;obtain rfl:b6=soE fi:=c4;obtain rfl:b7=soE ne:=c5;subst e1;cases e2;rw[S]at b0;cases b0;have b8:r.sorts.getD f soZ=fi:=by rw[List.getD_eq_getElem?_getD,b2];rfl
 have a7:r.sorts.getD n soZ=ne:=by rw[List.getD_eq_getElem?_getD,b3];rfl
 have tf:((f:Nat):Int).toNat=f:=tN f;have tn:((n:Nat):Int).toNat=n:=tN n;have W:=c0 1 oM;have y1:(soE ne)[1]?=some (.bool ne.2.1):=rfl;rw[y1]at W;have b1:bG r.sorts e.kind f n= !(decide (e.kind=2)&&ne.2.1):=by
  have a8:r.sorts.getD ((n:Nat):Int).toNat (false,false,eB)=ne:=by rw[tn];exact a7
  have k1:knB r.sorts.length f=true:=by rw[knB,Bool.and_eq_true,decide_eq_true_eq,decide_eq_true_eq];omega
  have k2:knB r.sorts.length n=true:=by rw[knB,Bool.and_eq_true,decide_eq_true_eq,decide_eq_true_eq];omega
  rw[bG,k1,k2,a8];by_cases hk:e.kind=2
  .have d:decide ((f:Int)=0)=true:=decide_eq_true (oN (h2 hk));rw[decide_eq_true hk,d];simp
  .rw[decide_eq_false hk];simp
 have hN:M0 r e f n=if(decide (e.kind=2)&&ne.2.1)=true then -1 else ixG (fun y=>bZ (I9 r.strat e fi ne) y) r.sorts 0:=by
  rw[M0,b1,tf,tn,b8,a7];cases(decide (e.kind=2)&&ne.2.1)<;>rfl
 have a5:=Qx Hs lo K r.strat e fi ne (· <H2.n) H2 rs el (c9.mono (fun j D=>hS.g j D) (fun j D=>oM) iF iF) (A3 _ _ _ _ _ _ he (fun j D=>hS.g j D) (fun j D=>oM)) (fun j D=>D) (fun j D=>by rw[hS.g j oM];exact hR.eq j D) oM _ O.wf.n0 O.wf.st (O.wf.so fi (mG b2)) (O.wf.so ne (mG b3)) b9 O.wf.sz (by rw[O.strat];exact om q O.ok);have c8:wP r.strat e fi ne=I9 r.strat e fi ne:=by rw[O.strat];exact wQ q O.ok O.nq e fi ne
 rw[c8]at a5;have a4:=Kw H2 H2.n _ r.sorts (I9 r.strat e fi ne) lR J oM;have a9:(fun y=>bZ y (I9 r.strat e fi ne))=fun y=>bZ (I9 r.strat e fi ne) y:=by funext y;exact vJ _ _
 rw[a9]at a4;rw[i7 YG rfl _ sM,hN];rcases d2:decide (e.kind=2)with _|_
 .exact J19 z U u.symm n1 h.symm g1 g2 X d2 b5 q9 b4 S tf tn E I a5 a4 trivial
 .rcases dt:ne.2.1 with _|_
  .exact J21 z U u.symm n1 h.symm g1 g2 X d2 b5 q9 b4 S tf tn E I a5 a4 W dt trivial
  .exact J14 z U u.symm n1 h.symm g1 g2 X d2 q9 S tn W dt trivial
def LJ{r:ReD}{e:EvD}{f n:Int}(h:0<=M0 r e f n):M0 r e f n<r.sorts.length:=by
 rw[M0]at h ⊢;split
 .rename_i D;rcases fq (fun y=>bZ (I9 r.strat e (r.sorts.getD f.toNat soZ) (r.sorts.getD n.toNat soZ)) y) r.sorts 0 with⟨_,u⟩|⟨_,u,z⟩
  .rw[u];omega
  .omega
 .omega
def fG(r:ReD)(n:Nat)(o:OpD):Prop:=0<=o.1/\o.1<r.sorts.length/\o.2.length<=2 ^ n
def fG.up{r:ReD}{n m:Nat}{o:OpD}(h:fG r n o)(k:n<=m):fG r m o:=⟨h.1,h.2.1,Nat.le_trans h.2.2 (Nat.pow_le_pow_right oM k)⟩
def xh{r:ReD}{m:Int}(h:E0 r m)(n:Nat):∀o∈zO,fG r n o:=by
 have l0:0<r.sorts.length:=(gS h.s0).1;intro o u;have:o=(0,[]):=by simpa [zO] using u
 rw[this];exact⟨Int.le_refl _,by show(0:Int)<_;omega,Nat.zero_le _⟩
def Me{r:ReD}{e:EvD}{E bs:List OpD}{n:Nat}(J:∀o∈E,fG r n o) (I:∀o∈bs,fG r n o):∀o∈jt r e E bs [],fG r (n+1) o:=by
 intro o D;rcases fx _ _ D with D|⟨f,z,b,u,h,rfl⟩
 .cases D
 .have O:=(J f z).2.2;have S:=(I b u).2.2;refine⟨h,LJ h,?_⟩;show(f.2++b.2).length<=_;rw[List.length_append,Nat.pow_succ];omega
def fh{r:ReD}{m:Int}(z:E0 r m)(l:List EvD):∀(n a:Nat)(p:Int)(u:Bool),∀o∈V8 r l n a p u,fG r n o
 |0,a,p,u,o,h=>by cases h
 |n+1,a,p,u,o,h=>by
  rw[V8]at h;split at h
  .obtain⟨k,E,rfl⟩:=List.mem_map.1 h;have:=List.mem_range.1 E;have D:1<=2 ^ (n+1):=Nat.one_le_two_pow;exact⟨by show(0:Int)<=(k:Int);omega,by show(k:Int)<_;omega,by show 1<=_;exact D⟩
  .split at h
   .cases h
   .split at h
    .exact xh z _ o h
    .refine Me (fun o h=>?_) (fh z l n _ _ _) o h;split at h
     .exact xh z _ o h
     .exact fh z l n _ _ _ o h
def kK:∀{n:Nat}{l:List Int},l.Nodup->(∀x∈l,0<=x/\x<n)->l.length<=n
 |0,[],_,_=>lR
 |0,x::l,_,hb=>oN (hb x sM)
 |n+1,l,h,hb=>by
  by_cases z:(n:Int)∈l
  .have E:=List.length_erase_of_mem z;have I:=kK (n:=n) (l:=l.erase (n:Int)) (h.erase _) (fun x u=>by
    have D:=(List.Nodup.mem_erase_iff h).1 u;have:=hb x D.2;have:=D.1;omega)
   have:=List.length_pos_of_mem z;omega
  .have:=kK (n:=n) h (fun x u=>by
    have:=hb x u;have:x≠n:=fun q=>z (q▸u);omega)
   omega
def ij{r:ReD}{m:Int}(u:E0 r m)(l:List EvD)(n a:Nat)(p:Int)(h:Bool):(V8 r l n a p h).length<=r.sorts.length:=by
 have:=kK (to r l n a p h) (fun x z=>by obtain⟨o,ho,rfl⟩:=List.mem_map.1 z;have:=fh u l n a p h o ho;exact⟨this.1,this.2.1⟩)
 simpa using this
def Hw(u:d7)(W:Nat)(k:Int)(pv:Value)(hx:u.g W=cE [iV k,pv] 1)(F:Nat->Prop)(I:Option Addr)(J:Nat)(L:List OpD)(hv:SlF u F 2 (OpO u F) (.slice I L.length J) L)(hn:L.length<=1000000)(r:Bool):
  ∀U e H2,(∃i:Nat,U=L.length-i/\i<=L.length/\e.g 0= .slice I L.length J/\e.g 3=pT W/\e.g 5=iV i/\H2=u/\(L.drop i).any (fun y=>decide (y.1=k))=r)->
  u7 (LE prog l7 (.loop Vh) e H2) (fun o e H2=>H2=u/\((o= .exit 0/\r=false/\e.g 0= .slice I L.length J/\e.g 3=pT W)\/(o= .ret/\e.g 4= .slice I L.length J/\r=true))):=by
 refine i5 _ _ ?_;rintro U e H2 ⟨i,hk,hi,z,E,O,rfl,h⟩;rcases b:decide ((i:Int)<L.length)with _|_
 .have S:=dF b;rw[dN oM]at h;refine J3 z O b ?_;exact i6 ⟨rfl,.inl ⟨rfl,h.symm,z,E⟩⟩
 .have S:=dT b;obtain⟨y,nb,o,cs,own,el,a3,hd,rfl,hF,X,a2,a1,hc,v',rfl,_⟩:=hv.row (i:=i) oM;have D:=hc 0 oM;rw[Nat.add_zero]at D;have y0:([iV y.1,v']:LV)[0]?=some (.int .i64 y.1):=rfl;rw[y0]at D;rw[hd,List.any_cons]at h;have nt:(i:Int).toNat=i:=tN i;rcases d:decide (y.1=k)with _|_
  .rw[d,Bool.false_or]at h;refine J10 z E O b X hx nt D d @wrap_small ?_;exact d8 (U-1) oM ⟨i+1,oM,oM,z,E,rfl,rfl,h⟩
  .rw[d,Bool.true_or]at h;refine J9 z E O b X hx nt D d ?_;exact y9 ⟨rfl,.inr ⟨rfl,rfl,h.symm⟩⟩
def XN(H:d7)(lo:Nat)(w D:Value)(L:List OpD)(G G2:Nat->Prop)(o:OpD)(hO:L8 2 OpO lo H w L G)(hx:OpO H G2 [iV o.1,D] o)(O:∀j,G2 j->lo<=j/\j<H.n/\¬j8 w j) (hn:L.length<=1000000) (W:lo<=H.n):
  Ret (CL prog l7 54 [w,.agg #[iV o.1,D]] H) H (fun w' H'=>(∃G',L8 2 OpO lo H' w' (eI L o) G')/\Z2 lo w H w' H'):=by
 obtain⟨va,vc,rfl⟩:=hO.slice;obtain⟨H1,S,n1,g1,J⟩:=pushF H (bC [iV o.1,D] 1);have E:=hO.keep u9 J;have opv:D.oneCell'=true:=by
  obtain⟨v',e1,e2⟩:=hx;obtain rfl:D=v':=by simpa using e1
  obtain⟨a,c,rfl⟩:=e2.slf.slice;rfl
 have a6:H1.low=H.n:=by rw[S];rfl
 rw[i7 WZ rfl _ sM];refine J2 opv S.symm ?_;refine i8 (F:=fun z=>Ret (t6 _ _ _ (t7 (inBlock 0 z) _)) _ _) (Hw H1 H.n o.1 D g1 _ va vc L (E.slf u9) hn (L.any fun y=>decide (y.1=o.1)) L.length _ _ ⟨0,rfl,Nat.zero_le _,rfl,rfl,rfl,rfl,rfl⟩) ?_;rintro o' e' H' ⟨rfl,⟨ho,hr,f0,f3⟩|⟨ho,f4,hr⟩⟩
 .rw[eI,hr,if_neg sM];obtain⟨v',h',H3,ra,a5,U,u⟩:=E.push (P:=prog) (t:=51) (a:=o) (cs:=[iV o.1,D]) (G2:=G2) u9 (by exact IV.2.2.2.2.2.2) pE.1 pE.2.1 pE.2.2.1 oM oM rfl (u9 _ _ _ _ _ _ hx (fun j I=>J.g j (O j I).2.1) (fun _ h=>h)) (fun j I=>by have:=O j I;exact⟨this.1,oM,this.2.2⟩) oM oM;have a4:ldC (some true) (some 2) 0 [iV o.1,D]=some (.agg #[iV o.1,D]):=rfl;refine J8 ho f0 f3 g1 opv a4 ra a5 ?_;have n3:=u.n;have a2:d9 lo H H3:=(J.wk W).trans u.stay;have a1:lo<=H3.low:=u.stay.lowAll _ lR oM;refine E1 (fun X _=>?_) ⟨⟨_,U.low u9 _⟩,a2.ret a1,fun j I hq=>?_,fun b hb=>?_⟩
  .exfalso
   obtain⟨a7,a3,a8⟩:=U.own;rcases a3 with⟨_,h0,_⟩|⟨b',c',rfl,_⟩
   .simp at h0
   .cases X
  .show H3.g j=_;rw[u.but j oM hq,J.g j I]
  .rcases u.new b hb with q|q
   .exact .inl q
   .exact .inr oM
 .rw[eI,hr,if_pos rfl];refine J2 ho f4 ?_;refine E1 (fun X _=>⟨⟨_,hO⟩,Z2.refl _ _ _⟩) ⟨⟨_,E.low u9 _⟩,(J.wk W).ret (by show lo<=H'.low;omega),fun j I hq=>J.g j I,fun b hb=> .inl hb⟩
end Go.Proofs.YtjlpdddmmnijoaaGreatDoor.Ve
namespace Go.Proofs.YtjlpdddmmnijoaaGreatDoor.Ve
open Go Go.RowKit
def eO(v:Value):Prop:=∀a n c,v= .slice a n c->n=0\/c=n+1
def eO.mk{a:Option Addr}{n:Nat}:eO (.slice a n (n+1)):=fun a' z u h=>by cases h;exact .inr rfl
def eO.nil{a:Option Addr}{c:Nat}:eO (.slice a 0 c):=fun a' z u h=>by cases h;exact .inl rfl
def gl{P:Program}{H:d7}{lo sz:Nat}{α:Type}{R:LV->α->Prop}{v:Value}{l:List α}{t e:TypeId}(hv:SlI H lo sz R v l)(hc:eO v)(X:P.underlying t=some (.slice e))(hs:D5 P e=some sz)(h0:0<sz)
  {x y:Option Value} {i j:Nat} (hx:bnd x 0=some i) (E:bnd y l.length=some j) (J:i<=j) (S:j<=l.length):
  ∃u,(∀H',(∀k,k<lo->H'.g k=H.g k)->L9 P H' t v x y none=some u)/\SlI H lo sz R u ((l.drop i).take (j-i))/\eO u:=by
 have D:((l.drop i).take (j-i)).length=j-i:=by rw[List.length_take,List.length_drop];omega
 have z:¬sz=0:=oM;rcases hv with⟨rfl,rfl⟩|⟨b,o,c,rfl,h⟩
 .obtain rfl:j=0:=by simpa using S
  obtain rfl:i=0:=oM;refine⟨.slice none 0 0,fun H' _=>?_,.inl ⟨rfl,by simp⟩,eO.nil⟩;simp only[L9,X,hs,hx,if_neg z];rw[show bnd y 0=some 0 from E];simp [z]
 .by_cases W:l=[]
  .subst W;obtain rfl:j=0:=by simpa using S
   obtain rfl:i=0:=oM;refine⟨.slice (some ⟨b,o,none⟩) 0 c,fun H' _=>?_,.inr ⟨b,o,c,by simp,.inl sM⟩,eO.nil⟩;simp only[List.length_nil]at E;simp only[L9,X,hs,hx,if_neg z,List.length_nil,E];simp [z]
  .rcases h with h|⟨cs,own,h1,h2,h3,h4⟩
   .exact absurd h W
   have a1:=List.length_pos_iff.2 W;have I:c=l.length+1:=by
    rcases hc _ _ _ rfl with h|h
    .omega
    .exact h
   subst I;have hm:(l.length)*sz=j*sz+(l.length-j)*sz:=by rw[<-Nat.add_mul];congr 1;omega
   have a2:j*sz=i*sz+(j-i)*sz:=by rw[<-Nat.add_mul];congr 1;omega
   refine⟨.slice (some ⟨b,o+i*sz,none⟩) (j-i) (j-i+1),fun H' hH=>?_,.inr ⟨b,o+i*sz,j-i+1,by rw[D],.inr ⟨cs,own,h1,h2,by rw[D];omega,fun k a U=>?_⟩⟩,eO.mk⟩
   .have hz:oo H' b=some sz:=by simp only[oo,hH b h1,h2]
    simp only[L9,X,hs,hx,if_neg z,E,if_pos (aI J S),if_neg (show¬l.length=0 from oM),hz,ne_eq,not_true_eq_false,if_false,if_neg (show¬l.length+1=l.length from oM)]
   .have O:k<j-i:=by
     have:=(gS U).1;omega
    rw[List.getElem?_take,if_pos O,List.getElem?_drop]at U;have:=h4 (i+k) a U;rw[show o+i*sz+k*sz=o+(i+k)*sz by rw[Nat.add_mul];omega];exact this
def IK{P:Program}{H:d7}{lo sz:Nat}{α:Type}{R:LV->α->Prop}{v:Value}{l:List α}{t e:TypeId}(hv:SlI H lo sz R v l)(S:P.underlying t=some (.slice e))(hs:D5 P e=some sz)(h0:0<sz)
  {x y:Option Value} {i:Nat} (U:bnd x 0=some i) (E:bnd y l.length=some l.length) (O:i<=l.length):
  ∃u,(∀H',(∀k,k<lo->H'.g k=H.g k)->L9 P H' t v x y none=some u)/\SlI H lo sz R u (l.drop i):=by
 have z:¬sz=0:=oM;rcases hv with⟨rfl,rfl⟩|⟨b,o,c,rfl,h⟩
 .obtain rfl:i=0:=by simpa using O
  refine⟨.slice none 0 0,fun H' _=>?_,.inl ⟨rfl,by simp⟩⟩;simp only[L9,S,hs,U,if_neg z];rw[show bnd y 0=some 0 from E];simp [z]
 .by_cases X:l=[]
  .subst X;obtain rfl:i=0:=by simpa using O
   refine⟨.slice (some ⟨b,o,none⟩) 0 c,fun H' _=>?_,.inr ⟨b,o,c,by simp,.inl sM⟩⟩;simp only[List.length_nil]at E;simp only[L9,S,hs,U,if_neg z,List.length_nil,E];simp [z]
  .rcases h with h|⟨cs,own,I,J,h3,h4⟩
   .exact absurd h X
   have a1:=List.length_pos_iff.2 X;have D:(l.drop i).length=l.length-i:=List.length_drop;have hm:l.length*sz=i*sz+(l.length-i)*sz:=by rw[<-Nat.add_mul];congr 1;omega
   have rd:∀(k:Nat) a,(l.drop i)[k]?=some a->R ((cs.drop (o+i*sz+k*sz)).take sz) a:=fun k a hk=>by
    rw[List.getElem?_drop]at hk;have:=h4 (i+k) a hk;rw[show o+i*sz+k*sz=o+(i+k)*sz by rw[Nat.add_mul];omega];exact this
   by_cases hc:c=l.length
   .refine⟨.slice (some ⟨b,o+i*sz,none⟩) (l.length-i) (l.length-i),fun H' W=>?_,.inr ⟨b,o+i*sz,_,by rw[D],.inr ⟨cs,own,I,J,by rw[D];omega,rd⟩⟩⟩;have hz:oo H' b=some sz:=by simp only[oo,W b I,J]
    simp only[L9,S,hs,U,if_neg z,E,if_pos (aI O lR),if_neg (show¬l.length=0 from oM),hz,ne_eq,not_true_eq_false,if_false,if_pos hc,if_true]
   .refine⟨.slice (some ⟨b,o+i*sz,none⟩) (l.length-i) (l.length-i+1),fun H' W=>?_,.inr ⟨b,o+i*sz,_,by rw[D],.inr ⟨cs,own,I,J,by rw[D];omega,rd⟩⟩⟩;have hz:oo H' b=some sz:=by simp only[oo,W b I,J]
    simp only[L9,S,hs,U,if_neg z,E,if_pos (aI O lR),if_neg (show¬l.length=0 from oM),hz,ne_eq,not_true_eq_false,if_false,if_neg hc]
def mI(d:Nat):bnd none d=some d:=rfl
def gC(n d:Nat):bnd (some (.int .i64 (n:Int))) d=some n:=by
 simp only[bnd]
 first
  |simp
  |rfl
def fI{α:Type}(H:d7)(lo sz:Nat)(R:LV->α->Prop)(w:Value)(l:List α):Prop:=
 (w= .slice none 0 0/\l=[])\/∃b cs,w= .slice (some ⟨b,0,none⟩) l.length (l.length+1)/\lo<=b/\H.g b=some (.cells cs true sz)/\l.length*sz<=cs.length/\∀(i:Nat) a,l[i]?=some a->R ((cs.drop (i*sz)).take sz) a
section
variable{α:Type}{R:List Value->α->Prop}{H H':d7}{lo sz:Nat}{w:Value}{l:List α}
def fI.nil:fI H lo sz R (.slice none 0 0) ([]:List α):= .inl ⟨rfl,rfl⟩
def fI.slice(h:fI H lo sz R w l):∃a c,w= .slice a l.length c:=by
 rcases h with⟨rfl,rfl⟩|⟨b,cs,h,_⟩
 .exact⟨none,0,rfl⟩
 .exact⟨_,_,h⟩
def fI.sl(h:fI H lo sz R w l):SlI H H.n sz R w l:=by
 rcases h with h|⟨b,cs,z,I,u,J,D⟩
 .exact .inl h
 .exact .inr ⟨b,0,_,z,.inr ⟨cs,true,u6 u,u,oM,fun i a E=>by rw[Nat.zero_add];exact D i a E⟩⟩
def fI.slf(h:fI H lo sz R w l):SlF H (fun j=>lo<=j/\j<H.n) sz R w l:=by
 rcases h with h|⟨b,cs,z,D,u,J,E⟩
 .exact .inl h
 .exact .inr ⟨b,0,_,z,.inr ⟨cs,true,⟨D,u6 u⟩,u,oM,fun i a I=>by rw[Nat.zero_add];exact E i a I⟩⟩
def fI.keep(h:fI H lo sz R w l)(I:d9 H.n H H'):fI H' lo sz R w l:=by
 rcases h with h|⟨b,cs,z,D,u,E⟩
 .exact .inl h
 .exact .inr ⟨b,cs,z,D,(I.g b (u6 u)).trans u,E⟩
def fI.na(h:fI H lo sz R w l)(u:Q4 w=true):w= .slice none 0 0/\l=[]:=by
 rcases h with h|⟨b,cs,rfl,_⟩
 .exact h
 .cases u
def fI.push{P:Program}{t e:TypeId}{bytes:Nat}{z cs:LV}{a:α}(ht:P.underlying t=some (.slice e))(hs:D5 P e=some sz)(hb:T1 P e=some bytes)(hz:P8 P e=some z)(h0:0<sz)(h1:0<bytes)
  (h:fI H lo sz R w l) (D:cs.length=sz) (hR:R cs a) (hr:(l.length+1)*bytes<=140737488355328) (S:lo<=H.n):
  Ret (C2 P (H.push (.cells cs true sz)) [t,t] w (.slice (some ⟨H.n,0,none⟩) 1 1)) (H.push (.cells cs true sz)) fun v' H'=>fI H' lo sz R v' (l++[a])/\d9 lo H H':=by
 have J:(H.push (.cells cs true sz)).n=H.n+1:=i4;have X:d9 H.n H (H.push (.cells cs true sz)):=d9.push lR;have W:I3 P t=some e:=by simp [I3,ht]
 have a3:B9 (H.push (.cells cs true sz)) sz (.slice (some ⟨H.n,0,none⟩) 1 1)=some cs:=by
  have:cs.take sz=cs:=List.take_of_length_le oM;simp [B9,j6,D,this]
 have u:R7 P (H.push (.cells cs true sz)) sz z (some t) (.slice (some ⟨H.n,0,none⟩) 1 1)=some (1,cs):=by
  simp only[R7,Option.bind_some,ht,a3,Option.map_some]
 have U:¬(sz=0\/bytes=0):=oM;rcases h with⟨rfl,rfl⟩|⟨b,O,rfl,k1,k2,k3,k4⟩
 .refine⟨.slice (some ⟨H.n+1,0,none⟩) 1 2,some ((H.push (.cells cs true sz)).push (.cells cs true sz)),_,?_,rfl,.inr ⟨H.n+1,cs,rfl,oM,by rw[<-J];exact j6,by simp [D],fun i x I=>?_⟩,(X.wk S).trans (d9.push oM)⟩
  .simp only[C2,List.head?_cons,Option.bind_some,W,hs,hb,hz,List.getElem?_cons_succ,List.getElem?_cons_zero,if_neg U,u];rw[if_neg oM,if_pos (by simpa using hr),dk,J]
  .cases i with
   |zero=>
    have:a=x:=by simpa using I
    subst this;rw[Nat.zero_mul,List.drop_zero,List.take_of_length_le oM];exact hR
   |succ i=>simp at I
 .have a1:=u6 k2;have hg:(H.push (.cells cs true sz)).g b=some (.cells O true sz):=(X.g b a1).trans k2;have E:((O.drop 0).take (l.length*sz)).length=l.length*sz:=by rw[List.drop_zero,List.length_take];omega
  refine⟨.slice (some ⟨H.n+1,0,none⟩) (l.length+1) (l.length+1+1),some (((H.push (.cells cs true sz)).put b .dead).push (.cells ((O.drop 0).take (l.length*sz)++cs) true sz)),_,?_,rfl,.inr ⟨H.n+1,(O.drop 0).take (l.length*sz)++cs,by simp,oM,A4 ⟨by rw[j9,J];exact lR,by rw[j9,J];exact lR⟩,by rw[@List.length_append _ l _,List.length_append,E,D,List.length_singleton,Nat.add_mul];omega,fun i x I=>?_⟩,(X.wk S).trans ((d9.put k1).trans (d9.push (by rw[j9,J];omega)))⟩
  .simp only[C2,List.head?_cons,Option.bind_some,W,hs,hb,hz,List.getElem?_cons_succ,List.getElem?_cons_zero,if_neg U,u,hg];rw[if_neg oM,if_pos hr,if_pos ⟨oM,trivial⟩,if_neg oM,if_pos trivial,dk,J]
  .by_cases hi:i<l.length
   .rw[List.getElem?_append_left hi]at I;have hm:i*sz+sz<=l.length*sz:=by rw[<-Nat.succ_mul];exact Nat.mul_le_mul_right _ hi
    rw[List.drop_append_of_le_length oM,List.take_append_of_le_length (by rw[List.length_drop,E];omega),List.drop_zero,List.drop_take,List.take_take,Nat.min_eq_left oM];exact k4 i x I
   .have a2:i=l.length:=by
     have:=(gS I).1;simp at this;omega
    subst a2;have:a=x:=by simpa using I
    subst this;have e1:((O.drop 0).take (l.length*sz)++cs).drop (l.length*sz)=cs:=List.drop_left' E;rw[e1,List.take_of_length_le oM];exact hR
def fI.pop{P:Program}{t e:TypeId}(S:P.underlying t=some (.slice e))(hs:D5 P e=some sz)(X:0<sz)(h:fI H lo sz R w l)(E:l≠ []):
  ∃v',L9 P H t w none (some (.int .i64 ((l.length:Int)-1))) none=some v'/\fI H lo sz R v' l.dropLast:=by
 have hp:=List.length_pos_iff.2 E;rcases h with⟨_,rfl⟩|⟨b,cs,rfl,U,I,k3,W⟩
 .exact absurd rfl E
 .have J:bnd (some (Value.int .i64 ((l.length:Int)-1))) l.length=some (l.length-1):=by
   simp only[bnd];rw[if_pos oM]
   congr 1;omega
  have D:l.dropLast.length=l.length-1:=List.length_dropLast;have hm:(l.length-1)*sz<=l.length*sz:=Nat.mul_le_mul_right _ oM;refine⟨.slice (some ⟨b,0,none⟩) (l.length-1) (l.length-1+1),?_,.inr ⟨b,cs,by rw[D],U,I,by rw[D];omega,fun i a z=>?_⟩⟩
  .have u:bnd none 0=some 0:=rfl;simp only[L9,S,hs,J,u,oo,I];simp only[if_neg (show¬sz=0 from oM),if_neg (show¬l.length=0 from oM),ne_eq,not_true_eq_false,if_false,if_neg (show¬l.length+1=l.length from oM),if_pos (show 0<=l.length-1/\l.length-1<=l.length from oM),Nat.zero_mul,Nat.add_zero,Nat.sub_zero]
  .have O:i<l.length-1:=oN ((gS z).1);rw[List.getElem?_dropLast,if_pos oM]at z;exact W i a z
end
end Go.Proofs.YtjlpdddmmnijoaaGreatDoor.Ve
namespace Go.Proofs.YtjlpdddmmnijoaaGreatDoor.Ve
open Go Go.RowKit
open Go.Proofs.Tryz (prog)
abbrev ntE(n:Nat):LV:=[iV n]
def pA(l:List EvD)(n j:Nat)(h:j<=n)(D:n<=l.length):w9 (l.take n) j=w9 l j:=by
 have:∀(l T:List EvD) j,j<=l.length->w9 (l++T) j=w9 l j:=by
  intro l T j;induction j with
  |zero=>intro _;rfl
  |succ j z=>intro h;rw[w9,w9,z oM,List.getElem?_append_left oM]
 have u:=this (l.take n) (l.drop n) j (by rw[List.length_take];omega);rw[List.take_append_drop]at u;exact u.symm
def kV(l:List EvD):∀j,(w9 l j).length<=j
 |0=>lR
 |j+1=>by
  have h:=kV l j;rw[w9];split
  .omega
  .split
   .simp;omega
   .split
    .simp;omega
    .omega
def MR(H:d7)(lo:Nat)(v:Value)(l:List EvD)(b4:lo<=H.n)(hv:N8 H lo v l)(hn:l.length<=1000000)(hb:∀j,0<=dep 0 (l.take j)):
  ∀kk e H2,(∃(i:Nat)(w:Value),kk=l.length-i/\i<=l.length/\e.g 0=v/\e.g 3=w/\e.g 4=iV i/\fI H2 H.n 1 (y7 ntE) w (w9 l i)/\d9 H.n H H2/\H.n<=H2.low)->
  u7 (LE prog l7 (.loop UH) e H2) (fun o e H2=>o= .exit 0/\∃w:Value,e.g 3=w/\fI H2 H.n 1 (y7 ntE) w (w9 l l.length)/\d9 H.n H H2/\H.n<=H2.low):=by
 refine i5 _ _ ?_;rintro kk e H2 ⟨i,w,hk,hi,f0,f3,f4,J,I,hl⟩;obtain⟨va,vc,a7⟩:=hv.slice;have nHS:=I.n;rcases b:decide ((i:Int)<l.length)with _|_
 .have a2:=dF b;obtain rfl:i=l.length:=oM;subst a7;refine J3 f0 f4 b ?_;exact i6 ⟨rfl,w,f3,J,I,hl⟩
 .have a2:=dT b;obtain⟨ev,X,hd⟩:=B8 (l:=l) (i:=i) oM;obtain⟨be,oe,ce,b2,b1,aa,ac,z,a9,a3,b3,a5,_⟩:=iM hv X;have ke:=E7 (k:=0) oM a5;rw[Nat.add_zero]at ke;have u:=(I.g be oM).trans a3;have h:=f0;rw[z]at h;have b5:=kV l i;have b0:∀w',fI H2 H.n 1 (y7 ntE) w' (w9 l i)->True:=fun _ _=>trivial;by_cases E:ev.kind=1
  .have d1:decide (ev.kind=1)=true:=decide_eq_true E;have O:decide (ev.kind=3)=false:=decide_eq_false oM;have hq:w9 l (i+1)=w9 l i++[i]:=by rw[w9,X];simp only;rw[if_pos E]
   obtain⟨v',h',H3,ra,a8,W,D⟩:=J.push (P:=prog) (t:=38) (a:=i) (cs:=[iV i]) (by exact BE.2.2.2.2.2.2) ty3.1 ty3.2.1 ty3.2.2.1 oM oM rfl rfl oM nHS;rw[<-hq]at W;have a1:=(D.g be oM).trans u;refine J12 h f3 f4 b u ke d1 ra a8 a1 O @wrap_small ?_;exact d8 (kk-1) oM ⟨i+1,v',oM,oM,by rw[z];exact h,rfl,rfl,W,I.trans D,D.lowAll _ lR hl⟩
  .have d1:decide (ev.kind=1)=false:=decide_eq_false E;by_cases S:ev.kind=3
   .have O:decide (ev.kind=3)=true:=decide_eq_true S;have hq:w9 l (i+1)=(w9 l i).dropLast:=by rw[w9,X];simp only;rw[if_neg E,if_pos S]
    have a4:w9 l i≠ []:=by
     intro q;have q1:=U1 hb i oM;have q2:=hb (i+1);rw[mO X,A7,if_neg E,if_pos S,<-q1,q]at q2;simp at q2
    obtain⟨v',a6,U⟩:=J.pop (P:=prog) (t:=38) (by exact BE.2.2.2.2.2.2) ty3.1 oM a4;rw[<-hq]at U;obtain⟨wa,wc,rfl⟩:=J.slice;refine J10 h f3 f4 b u ke d1 O a6 @wrap_small ?_;exact d8 (kk-1) oM ⟨i+1,v',oM,oM,by rw[z];exact h,rfl,rfl,U,I,hl⟩
   .have O:decide (ev.kind=3)=false:=decide_eq_false S;have hq:w9 l (i+1)=w9 l i:=by rw[w9,X];simp only;rw[if_neg E,if_neg S]
    rw[<-hq]at J;refine J8 h f4 b u ke d1 O @wrap_small ?_;exact d8 (kk-1) oM ⟨i+1,w,oM,oM,by rw[z];exact h,f3,rfl,J,I,hl⟩
def QT(H:d7)(s:List Nat)(w:Value)(H':d7):Prop:=SlF H' (fun j=>H.n<=j/\j<H'.n) 1 (y7 ntE) w s/\d9 H.n H H'
def Bj(H:d7)(lo:Nat)(v:Value)(l:List EvD)(D:lo<=H.n)(J:N8 H lo v l)(W:l.length<=1000000)(U:∀j,0<=dep 0 (l.take j)):Ret (CL prog l7 30 [v] H) H (QT H (w9 l l.length)):=by
 obtain⟨va,vc,a1⟩:=J.slice;rw[i7 WO rfl _ sM];refine J1 ty3 ?_;refine i8 (F:=fun z=>Ret (t6 _ _ _ (t7 (inBlock 0 z) _)) _ _) (MR ⟨H.bs,H.n⟩ lo v l D (J.mono (fun _ _=>rfl) lR) W U l.length _ _ ⟨0,_,rfl,Nat.zero_le _,rfl,rfl,rfl,fI.nil,d9.refl _ _,lR⟩) ?_;rintro o' e' H' ⟨X,w,O,I,S,u⟩;refine J2 X O ?_;refine E1 (fun E _=>?_) ⟨?_,((d9.start H).trans S).ret u⟩
 .obtain⟨rfl,h⟩:=I.na E;exact⟨.inl ⟨rfl,h⟩,d9.refl _ _⟩
 .exact I.slf.mono (fun _ _=>rfl) (fun _ h=>h) iF
def LS(H0:d7)(W:Option Addr)(X:Nat)(s:List Nat)(hv:SlI H0 H0.n 1 (y7 ntE) (.slice W s.length X) s)(hn:s.length<=1000000)(a:Nat)(r:Bool):
  ∀J e H2,(∃(i:Nat),J=s.length-i/\i<=s.length/\e.g 1=iV a/\e.g 5= .slice W s.length X/\e.g 6=iV i/\H2=H0/\(s.drop i).any (fun x=>decide ((x:Int)=a))=r)->
  u7 (LE prog l7 (.loop Us) e H2) (fun o e H2=>H2=H0/\((o= .exit 0/\r=false)\/(o= .ret/\e.g 4= .bool true/\r=true))):=by
 refine i5 _ _ ?_;rintro J e H2 ⟨i,hk,hi,D,u,E,rfl,h⟩;rcases b:decide ((i:Int)<s.length)with _|_
 .have I:=dF b;rw[dN oM]at h;refine J3 u E b ?_;exact i6 ⟨rfl,.inl ⟨rfl,h.symm⟩⟩
 .have I:=dT b;obtain⟨y,nb,o,cs,own,el,hx,hd,rfl,a2,O,a1,S,hc,rfl⟩:=hv.row (i:=i) oM;have z:=hc 0 oM;rw[Nat.add_zero,Nat.mul_one]at z;rw[hd,List.any_cons]at h;have U:(i:Int).toNat=i:=tN i;rcases d:decide ((y:Int)=a)with _|_
  .rw[d,Bool.false_or]at h;refine J10 D u E b O U z d @Nat.mul_one @wrap_small ?_;exact d8 (J-1) oM ⟨i+1,oM,oM,D,u,rfl,rfl,h⟩
  .rw[d,Bool.true_or]at h;refine J9 D u E b O U z d @Nat.mul_one ?_;exact y9 ⟨rfl,.inr ⟨rfl,rfl,h.symm⟩⟩
def Mq(H:d7)(lo:Nat)(v:Value)(l:List EvD)(J:lo<=H.n)(hv:N8 H lo v l)(hn:l.length<=1000000)(hb:∀j,0<=dep 0 (l.take j)) (a:Nat):CL prog l7 11 [v,iV a] H=some (.bool (decide (a∈w9 l l.length)),none):=by
 obtain⟨va,vc,a2⟩:=hv.slice;obtain⟨w,h,W,U,I,E,s1⟩:=Bj ⟨H.bs,H.n⟩ lo v l J (hv.mono (fun _ _=>rfl) lR) hn hb;have D:=E.sl (fun j hj=>hj.2);have X:=kV l l.length;have u:(w9 l l.length).any (fun x=>decide ((x:Int)=a))=decide (a∈w9 l l.length):=by
  rw[Bool.eq_iff_iff];simp only[List.any_eq_true,decide_eq_true_eq]
  constructor
  .rintro⟨x,hx,q⟩;obtain rfl:x=a:=oM;exact hx
  .intro q;exact⟨a,q,rfl⟩
 obtain⟨wa,wc,rfl⟩:=D.slice;have a1:H.n<=W.low:=s1.lowAll _ lR lR;rw[i7 Wb rfl _ sM];refine J2 U I ?_;refine i8 (F:=fun z=>t6 _ _ _ (t7 (inBlock 0 z) _)=_) (LS W wa wc _ D oM a _ (w9 l l.length).length _ _ ⟨0,rfl,Nat.zero_le _,rfl,rfl,rfl,rfl,u⟩) ?_;rintro o' e' H' ⟨rfl,⟨O,S⟩|⟨O,h4,S⟩⟩
 .exact J2 O S trivial
 .exact J3 O h4 S trivial
def Qw(H:d7)(lo:Nat)(v:Value)(l:List EvD)(X:lo<=H.n)(hv:N8 H lo v l)(hc:eO v)(hn:l.length<=1000000)(hb:∀j,0<=dep 0 (l.take j)) (a:Nat) (U:a<=l.length):CL prog l7 15 [v,iV a] H=some (.int .i64 (di l a 0),none):=by
 obtain⟨va,vc,a4⟩:=hv.slice;have a3:N8 ⟨H.bs,H.n⟩ lo v l:=hv.mono (fun _ _=>rfl) lR;obtain⟨u,hu,O,b1⟩:=gl (P:=prog) (t:=22) (x:=none) (y:=some (.int .i64 (a:Nat))) (i:=0) (j:=a) a3 hc (by exact gV.2.2.2.2.2.2) Q9.1 oM (mI 0) (gC _ _) (Nat.zero_le _) U;rw[List.drop_zero,Nat.sub_zero]at O;have a1:(l.take a).length=a:=by rw[List.length_take];omega
 obtain⟨w,h,H1,S,D,I,s1⟩:=Bj ⟨H.bs,H.n⟩ lo u (l.take a) X O oM (fun j=>by rw[List.take_take];exact hb _);have E:=I.sl (fun j hj=>hj.2);rw[a1,pA l a a lR U]at E;have a8:=kV l a;have z:=jV hb a 0 U;have J:=hu ⟨H.bs,H.n⟩ (fun _ _=>rfl);have a9:H.n<=H1.low:=s1.lowAll _ lR lR;obtain⟨wa,wc,rfl⟩:=E.slice;rw[i7 Ys rfl _ sM];subst a4;by_cases hz:(w9 l a).length=0
 .have a5:w9 l a=[]:=List.length_eq_zero_iff.1 hz;rw[a5]at z;have d:decide (((w9 l a).length:Int)=0)=true:=decide_eq_true oM;refine J4 J S D d ?_;rw[z];rfl
 .have d:decide (((w9 l a).length:Int)=0)=false:=decide_eq_false oM;obtain⟨y,nb,o,cs,own,el,hx,hd,rfl,a6,hg,b0,a7,W,rfl⟩:=E.row (i:=(w9 l a).length-1) oM;have c0:=W 0 oM;rw[Nat.add_zero,Nat.mul_one]at c0;have nt:((((w9 l a).length:Nat):Int)-1).toNat=(w9 l a).length-1:=oM;have a2:di l a 0=y:=by
   rw[z,vX,List.getElem?_reverse oM,Nat.sub_zero,hx]
  refine J9 J S D d hg nt c0 @Nat.mul_one @wrap_small ?_;rw[a2]
def Cy(H:d7)(lo:Nat)(v:Value)(l:List EvD)(a5:lo<=H.n)(hv:N8 H lo v l)(hc:eO v)(hn:l.length<=1000000)(hb:∀j,0<=dep 0 (l.take j)) (n:Nat) (r lw:Nat) (a6:lw<=H.n):
  ∀kk e H2,(∃(i:Nat),kk=l.length+1-i/\i<=l.length+1/\e.g 0=v/\e.g 5=iV n/\e.g 6=iV i/\d9 H.n H H2/\lw<=H2.low/\Cz l n (l.length+1-i) i=r)->
  u7 (LE prog l7 (.loop Uu) e H2) (fun o e H2=>lw<=H2.low/\((o= .exit 0/\e.g 0=v/\r=l.length)\/(o= .ret/\e.g 4=iV r))):=by
 refine i5 _ _ ?_;rintro kk e H2 ⟨i,hk,hi,f0,f5,f6,hS,hl,I⟩;obtain⟨va,vc,O⟩:=hv.slice;have nHS:=hS.n;have z:=f0;rw[O]at z;rcases b:decide ((i:Int)<=l.length)with _|_
 .have a2:=dF b;rw[show l.length+1-i=0 from oM,Cz]at I;refine J3 z f6 b ?_;exact i6 ⟨hl,.inl ⟨rfl,f0,I.symm⟩⟩
 .have a2:=dT b;rw[show l.length+1-i=(l.length+1-(i+1))+1 from oM,Cz]at I;have a4:N8 H2 lo v l:=hv.mono (fun j hj=>hS.g j oM) lR;obtain⟨u,hu,W,a7⟩:=gl (P:=prog) (t:=22) (x:=none) (y:=some (.int .i64 (i:Nat))) (i:=0) (j:=i) a4 hc (by exact gV.2.2.2.2.2.2) Q9.1 oM (mI 0) (gC _ _) (Nat.zero_le _) oM;rw[List.drop_zero,Nat.sub_zero]at W;have a3:(l.take i).length=i:=by rw[List.length_take];omega
  obtain⟨w,h,H3,X,E,U,s3⟩:=Bj H2 lo u (l.take i) oM W oM (fun j=>by rw[List.take_take];exact hb _);have S:=U.sl (fun j hj=>hj.2);rw[a3,pA l i i lR oM]at S;have J:=hu H2 (fun _ _=>rfl);rw[O]at J;obtain⟨wa,wc,rfl⟩:=S.slice;have D:lw<=H3.low:=s3.lowAll _ oM hl;have a1:d9 H.n H H3:=hS.trans (s3.wk nHS);by_cases hq:(w9 l i).length=n
  .rw[if_pos hq]at I;have d:decide (((w9 l i).length:Int)=n)=true:=decide_eq_true oM;refine J8 z f5 f6 b J X E d ?_;exact y9 ⟨D,.inr ⟨rfl,by rw[<-I];rfl⟩⟩
  .rw[if_neg hq]at I;have d:decide (((w9 l i).length:Int)=n)=false:=decide_eq_false oM;refine J9 z f5 f6 b J X E d @wrap_small ?_;exact d8 (kk-1) oM ⟨i+1,oM,oM,by rw[O];exact z,f5,rfl,a1,D,I⟩
def Ms(H:d7)(lo:Nat)(v:Value)(l:List EvD)(a1:lo<=H.n)(hv:N8 H lo v l)(hc:eO v)(hn:l.length<=1000000)(X:∀j,0<=dep 0 (l.take j)) (a:Nat) (ha:a<l.length):CL prog l7 13 [v,iV a] H=some (.int .i64 (A6 l a:Nat),none):=by
 obtain⟨va,vc,D⟩:=hv.slice;have a3:N8 ⟨H.bs,H.n⟩ lo v l:=hv.mono (fun _ _=>rfl) lR;obtain⟨u,hu,O,a7⟩:=gl (P:=prog) (t:=22) (x:=none) (y:=some (.int .i64 (a:Nat))) (i:=0) (j:=a) a3 hc (by exact gV.2.2.2.2.2.2) Q9.1 oM (mI 0) (gC _ _) (Nat.zero_le _) oM;rw[List.drop_zero,Nat.sub_zero]at O;have a2:(l.take a).length=a:=by rw[List.length_take];omega
 obtain⟨w,h,W,a4,U,I,s1⟩:=Bj ⟨H.bs,H.n⟩ lo u (l.take a) a1 O oM (fun j=>by rw[List.take_take];exact X _);have E:=I.sl (fun j hj=>hj.2);rw[a2,pA l a a lR oM]at E;have J:=hu ⟨H.bs,H.n⟩ (fun _ _=>rfl);have n1:H.n<=W.n:=s1.n;have a5:d9 H.n H W:=(d9.start H).trans s1;have S:H.n<=W.low:=s1.lowAll _ lR lR;obtain⟨wa,wc,rfl⟩:=E.slice;have hE:=EU X ha (l.length-a) (a+1) oM oM (by rw[A6,List.drop_eq_getElem_cons ha,P4];split<;>omega);rw[i7 Wq rfl _ sM];rw[D]at J;rw[D];refine J4 J a4 U @wrap_small ?_;rw[<-D];refine i8 (F:=fun z=>t6 _ _ _ (t7 (inBlock 0 z) _)=_) (Cy W lo v l oM (hv.mono (fun j hj=>a5.g j oM) lR) hc hn X (w9 l a).length (A6 l a) H.n n1 (l.length-a) _ _ ⟨a+1,oM,oM,rfl,rfl,rfl,d9.refl _ _,S,by rw[show l.length+1-(a+1)=l.length-a from oM];exact hE⟩) ?_;rintro o' e' H' ⟨a6,⟨ho,f0,hr⟩|⟨ho,h4⟩⟩
 .rw[D]at f0;refine J2 ho f0 ?_;rw[hr]
 .exact J2 ho h4 trivial
structure DcR(lo:Nat)(l:List EvD)(H:d7)(v:Value):Prop where
 ev:N8 H lo v l
 cap:eO v\/l.length<=1
 n30:l.length<=30
 beg:C1 l=true
 low:lo<=H.n
def DcR.stay{lo:Nat}{l:List EvD}{H H':d7}{v:Value}(h:DcR lo l H v)(u:d9 H.n H H'):DcR lo l H' v:=by
 have E:=u.n;have D:=h.low;exact⟨h.ev.mono (fun j z=>u.g j oM) lR,h.cap,h.n30,h.beg,oM⟩
def CA{H:d7}{lo:Nat}{D:LV}{e:EvD}(h:EvR H lo D e)(F:Nat->Prop)(U:∀j,j<lo->F j):EvF H F D e/\e.attrs.length<=1048576:=by
 obtain⟨v,I,u,_,_,_,z⟩:=h;refine⟨⟨v,I,?_⟩,z⟩;rcases u with u|⟨b,o,c,X,u⟩
 .exact .inl u
 .exact .inr ⟨b,o,c,X,u.imp id fun⟨E,own,J,O,S,z⟩=>⟨E,own,U b J,O,S,fun i a W=>(z i a W).1⟩⟩
def DcR.row{lo:Nat}{l:List EvD}{H:d7}{v:Value}(h:DcR lo l H v){i:Nat}{ev:EvD}(E:l[i]?=some ev):
  ∃b o c cs own el,v= .slice (some ⟨b,o,none⟩) l.length c/\b<lo/\H.g b=some (.cells cs own 5)/\ldC (some true) (some 5) (o+i*5) cs=some (.agg el.toArray)/\cs[o+i*5]?=some (.int .i64 ev.kind)/\EvF H (· <H.n) el ev/\ev.attrs.length<=1000000/\(ev.kind=1\/ev.kind=2\/ev.kind=3):=by
 obtain⟨b,o,c,cs,own,W,S,U,z,I⟩:=h.ev.at_ E;have hl:=h.low;have J:=(Q0 h.beg E).2.1;obtain⟨O,_⟩:=CA I (· <H.n) (fun j hj=>oM);obtain⟨X,u,_⟩:=id I;have D:=E7 (k:=0) oM u;rw[Nat.add_zero]at D;exact⟨b,o,c,cs,own,_,W,S,U,aE z rfl,D,O,qj J,aq J⟩
def DcR.pos{lo:Nat}{l:List EvD}{H:d7}{v:Value}(h:DcR lo l H v):∀j,0<=dep 0 (l.take j):=fS h.beg
def OX{q:Q}{r:ReD}(kc:KdC q r){Hs:d7}{lo K:Nat}{H:d7}{z:LV}(S:RcR Hs lo K r H z){el:LV}{e:EvD}(U:EvF H (· <H.n) el e)(D:e.attrs.length<=1000000)(u:e.kind=1\/e.kind=2)(f n:Int)(E:0<=f)(X:f<r.sorts.length)(I:0<=n)(hn:n<r.sorts.length)(O:e.kind=2->f=0):
  CL prog l7 53 [.agg z.toArray,.agg el.toArray,iV f,iV n] H=some (.int .i64 (M0 r e f n),none):=by
 obtain⟨J,rfl⟩:=Int.eq_ofNat_of_zero_le E;obtain⟨W,rfl⟩:=Int.eq_ofNat_of_zero_le I;exact Tm kc S U D u J W oM oM (fun h=>by have:=O h;omega)
def pH(H:d7)(lo c:Nat)(h:lo<=H.n):L8 2 OpO lo (H.push (bC [iV 0,nS] 2)) (sL H.n 1 c) zO (fun _=>False):=
 L8.one u9 rfl ⟨_,rfl,.inl ⟨rfl,rfl⟩⟩ (fun j u=>u.elim) h
def tJ(r:ReD)(e:EvD)(h:List OpD)(f b:OpD):(gh r e h f b).length<=h.length+1:=by
 rw[gh];split
 .omega
 .rw[eI];split
  .omega
  .simp
def ml(r:ReD)(e:EvD)(f b:OpD)(bs h:List OpD):gM r e f (b::bs) h=gM r e f bs (gh r e h f b):=rfl
def tB(r:ReD)(e:EvD)(f:OpD)(u bs h:List OpD):jt r e (f::u) bs h=jt r e u bs (gM r e f bs h):=rfl
def pu(r:ReD)(e:EvD)(f:OpD):∀(bs h:List OpD),(gM r e f bs h).length<=h.length+bs.length
 |[],h=>lR
 |b::bs,h=>by
  have u:=pu r e f bs (gh r e h f b);have z:=tJ r e h f b;rw[ml,List.length_cons];omega
section
variable{q:Q}{r:ReD}(kc:KdC q r){Hs:d7}{lo K:Nat}
include kc
def Mk{u:d7}{c9:LV}(rc:RcR Hs lo K r u c9){rb:Nat}(gr:u.g rb=cE c9 1){l:List EvD}{v:Value}(dc:DcR lo l u v)(lw:Nat)(j3:lw<=u.n)(a:Nat)(ev:EvD)(ha:l[a]?=some ev)(c6:ev.kind=1\/ev.kind=2)
  (fs bs:List OpD) (fv bv:Value) (b9:SlI u u.n 2 (OpO u (· <u.n)) fv fs) (b7:SlI u u.n 2 (OpO u (· <u.n)) bv bs) (lf:fs.length<=25) (lb:bs.length<=25) (n:Nat) (hn:n<=30) (kf:∀o∈fs,fG r n o) (kb:∀o∈bs,fG r n o) (h2:ev.kind=2->∀o∈fs,o.1=0)
  (i:Nat) (f:OpD) (hi:fs[i]?=some f) (R:List OpD):
  ∀kk e H2,(∃(j:Nat)(w:Value)(L:List OpD)(G:Nat->Prop),kk=bs.length-j/\j<=bs.length/\e.g 1=v/\e.g 2=iV a/\e.g 5=pT rb/\e.g 11=w/\e.g 13=fv/\e.g 14=bv/\e.g 15=iV i/\e.g 16=iV j/\L8 2 OpO u.n H2 w L G/\d9 u.n u H2/\lw<=H2.low/\L.length<=i*25+j/\gM r ev f (bs.drop j) L=R)->
  u7 (LE prog l7 (.loop UN) e H2) (fun o e H2=>o= .exit 4/\∃(w:Value)(G:Nat->Prop),e.g 1=v/\e.g 2=iV a/\e.g 5=pT rb/\e.g 11=w/\e.g 13=fv/\e.g 14=bv/\e.g 15=iV i/\L8 2 OpO u.n H2 w R G/\d9 u.n u H2/\lw<=H2.low):=by
 refine i5 _ _ ?_;rintro kk e H2 ⟨j,w,L,G,hk,E,f1,f2,f5,a5,J,D,O,a6,hO,S,hl,hL,fu⟩;have nHS:=S.n;obtain⟨fa,fc,rfl⟩:=b9.slice;obtain⟨ba,bc,rfl⟩:=b7.slice;rcases b0:decide ((j:Int)<bs.length)with _|_
 .have e8:=dF b0;rw[dN oM]at fu;have e1:L=R:=fu;refine J3 D a6 b0 ?_;exact i6 ⟨rfl,w,G,f1,f2,f5,a5,J,D,O,by rw[<-e1];exact hO,S,hl⟩
 .have e8:=dT b0;have g5:=rc.stay S;have d5:=dc.stay S;have b4:=(S.g rb (u6 gr)).trans gr;have f8:=(gS hi).1;have j0:=(gS ha).1;obtain⟨eb,eo,ec,i1,g7,el,a7,g8,c5,W,j1,e2,e7,_⟩:=d5.row ha;obtain⟨f',nb,o,cs,own,i3,hx,_,rfl,hF,hg,j2,h1,hc,fp,rfl,f3⟩:=b9.row (i:=i) f8;rw[hi]at hx;cases hx;obtain⟨b,b1,ob,i0,h3,i2,g0,f0,rfl,e3,f7,g9,f9,b8,bp,rfl,e9⟩:=b7.row (i:=j) oM;have h0:=dc.low;have U:=(S.g nb hF).trans hg;have z:=(S.g b1 e3).trans f7;have c0:=hc 0 oM;have c1:=hc 1 oM;have a4:=b8 0 oM;have b3:=b8 1 oM;have y0:([iV f.1,fp]:LV)[0]?=some (.int .i64 f.1):=rfl;have y1:([iV f.1,fp]:LV)[1]?=some fp:=rfl;have z0:([iV b.1,bp]:LV)[0]?=some (.int .i64 b.1):=rfl;have z1:([iV b.1,bp]:LV)[1]?=some bp:=rfl;rw[y0,Nat.add_zero]at c0;rw[y1]at c1;rw[z0,Nat.add_zero]at a4;rw[z1]at b3;have a9:=kf f (mG hi);have a8:=kb b (mG g0);have b5:=OX kc g5 e2 e7 c6 f.1 b.1 a9.1 a9.2.1 a8.1 a8.2.1 (fun h=>h2 h f (mG hi));have j4:=rc.l12;have g6:=rc.one;obtain⟨rs,la,lc,a1,h7,a2,h8,a3,h9,q8,q9,k3,k4,k1,d1,_⟩:=rc.form;have ti:((i:Nat):Int).toNat=i:=tN i;have tj:((j:Nat):Int).toNat=j:=tN j;have ta:((a:Nat):Int).toNat=a:=tN a;have I:=f1;rw[a7]at I;rw[f0,ml]at fu;have c7:=tJ r ev L f b;rcases d0:decide (0<=M0 r ev f.1 b.1)with _|_
  .have d4:=dF d0;have hp:gh r ev L f b=L:=by rw[gh,if_pos oM]
   rw[hp]at fu;refine J22 I f2 f5 J D O a6 b0 b4 d1 c5 W ta U z ti tj c0 a4 b5 d0 @wrap_small ?_;exact d8 (kk-1) oM ⟨j+1,w,L,G,oM,oM,by rw[a7];exact I,f2,f5,a5,J,D,O,rfl,hO,S,hl,oM,fu⟩
  .have d4:=dT d0;have hp:gh r ev L f b=eI L (M0 r ev f.1 b.1,f.2++b.2):=by rw[gh,if_neg oM]
   rw[hp]at fu c7;obtain⟨H3,b6,n3,-,s3⟩:=pushE H2 (bC [] 2);have e4:u5 H3 H2.n 2 (y7 pkE) (sL H2.n 0 0) ([]:List (Int×Int)):=by rw[b6];exact u5.fresh rfl lR F1.nil
   have pw:2 ^ n<=2 ^ 30:=Nat.pow_le_pow_right oM hn;have pe:(2:Nat) ^ 30=1073741824:=by decide
   have k2:=a9.2.2;have k0:=a8.2.2;have d6:SlI H3 u.n 2 (y7 pkE) fp f.2:=(f3.slf.sl (lo:=u.n) (fun j E=>E)).mono (fun j E=>by rw[s3.g j oM,S.g j E]) lR iF;obtain⟨v4,h4,H4,r4,g2,O4,G4⟩:=e4.appendF (P:=prog) (t:=54) (by exact oz.2.2.2.2.2.2) du.1 du.2.1 du.2.2.1 oM oM d6 (by simp only[List.length_nil];omega) oM;have n4:=G4.n;rw[List.nil_append]at O4;have z4:∀j,j<H2.n->H4.g j=H2.g j:=fun j E=>by rw[G4.stay.g j E,s3.g j E]
   have d2:SlI H4 u.n 2 (y7 pkE) bp b.2:=(e9.slf.sl (lo:=u.n) (fun j E=>E)).mono (fun j E=>by rw[z4 j oM,S.g j E]) lR iF;obtain⟨v5,h5,H5,r5,g3,O5,G5⟩:=O4.appendF (P:=prog) (t:=54) (by exact oz.2.2.2.2.2.2) du.1 du.2.1 du.2.2.1 oM oM d2 oM oM;have n5:=G5.n;have b2:d9 H2.n H2 H5:=s3.trans (G4.stay.trans G5.stay);have f4:=(s3.g nb oM).trans U;have c3:=(s3.g b1 oM).trans z;have f6:=(z4 nb oM).trans U;have c4:=(z4 b1 oM).trans z;have e6:=hO.keep u9 b2;obtain⟨v6,h6,H6,r6,g4,⟨G6,O6⟩,X⟩:=XN H5 u.n w v5 L G (fun j=>H2.n<=j/\j<H5.n) (M0 r ev f.1 b.1,f.2++b.2) e6 ⟨v5,rfl,O5.slo⟩ (fun j E=>⟨oM,E.2,fun q=>by have:=(hO.lt q).2;omega⟩) oM oM;have n6:=X.n;obtain⟨k5,k6,e5⟩:=O5.slice;have d3:v5.cells.toList=[v5]:=by rw[e5];rfl
   have g1:v5.oneCell'=true:=by rw[e5];rfl
   have c8:lw<=H6.low:=X.stay.lowAll _ oM (b2.lowAll _ oM hl);refine J30 I f2 f5 a5 J D O a6 b0 b4 d1 c5 W ta U z ti tj c0 a4 b5 d0 (aI b6.symm f4) (aI c3 f6) (aI c4 c1) (aI b3 r4) (aI g2 r5) (aI g3 r6) (aI g4 d3) (aI g1 @wrap_small) ?_;exact d8 (kk-1) oM ⟨j+1,v6,_,G6,oM,oM,by rw[a7];exact I,f2,f5,rfl,J,D,O,rfl,O6,S.trans ((b2.wk nHS).trans X.stay),c8,oM,fu⟩
def IC{h:d7}{U:LV}(rc:RcR Hs lo K r h U){rb:Nat}(gr:h.g rb=cE U 1){l:List EvD}{v:Value}(dc:DcR lo l h v)(lw:Nat)(b4:lw<=h.n)(a:Nat)(ev:EvD)(ha:l[a]?=some ev)(S:ev.kind=1\/ev.kind=2)
  (D bs:List OpD) (fv bv:Value) (O:SlI h h.n 2 (OpO h (· <h.n)) fv D) (b1:SlI h h.n 2 (OpO h (· <h.n)) bv bs) (lf:D.length<=25) (lb:bs.length<=25) (n:Nat) (hn:n<=30) (kf:∀o∈D,fG r n o) (kb:∀o∈bs,fG r n o) (h2:ev.kind=2->∀o∈D,o.1=0) (R:List OpD):
  ∀kk e H2,(∃(i:Nat)(w:Value)(L:List OpD)(G:Nat->Prop),kk=D.length-i/\i<=D.length/\e.g 1=v/\e.g 2=iV a/\e.g 5=pT rb/\e.g 11=w/\e.g 13=fv/\e.g 14=bv/\e.g 15=iV i/\L8 2 OpO h.n H2 w L G/\d9 h.n h H2/\lw<=H2.low/\L.length<=i*25/\jt r ev (D.drop i) bs L=R)->
  u7 (LE prog l7 (.loop UO) e H2) (fun o e H2=>o= .exit 2/\∃(w:Value)(G:Nat->Prop),e.g 11=w/\L8 2 OpO h.n H2 w R G/\d9 h.n h H2/\lw<=H2.low):=by
 refine i5 _ _ ?_;rintro kk e H2 ⟨i,w,L,G,hk,hi,f1,f2,f5,I,J,a1,E,hO,hS,hl,hL,X⟩;have nHS:=hS.n;obtain⟨fa,fc,b2⟩:=O.slice;have u:=J;rw[b2]at u;rcases W:decide ((i:Int)<D.length)with _|_
 .have a9:=dF W;rw[dN oM]at X;have a2:L=R:=X;refine J3 u E W ?_;exact i6 ⟨rfl,w,G,I,by rw[<-a2];exact hO,hS,hl⟩
 .have a9:=dT W;obtain⟨f,hf,hd⟩:=B8 (l:=D) (i:=i) oM;rw[hd,tB]at X;have b5:=pu r ev f bs L;refine J3 u E W ?_;refine i8 (F:=fun z=>u7 (t7 (inBlock 3 (inBlock 4 z)) _) _) (Mk kc rc gr dc lw b4 a ev ha S D bs fv bv O b1 lf lb n hn kf kb h2 i f hf (gM r ev f bs L) bs.length _ _ ⟨0,w,L,G,rfl,Nat.zero_le _,f1,f2,f5,I,J,a1,E,rfl,hO,hS,hl,oM,rfl⟩) ?_;rintro o' e' H' ⟨ho,w',G',g1,g2,g5,a3,a4,a5,a6,a7,a8,b3⟩;refine J3 ho a6 @wrap_small ?_;exact d8 (kk-1) oM ⟨i+1,w',_,G',oM,oM,g1,g2,g5,a3,a4,a5,rfl,a7,a8,b3,oM,X⟩
end
def wC{h:d7}{rb:Nat}{O:LV}(gr:h.g rb=cE O 1){n:Nat}{a1:Option Addr}{c1:Nat}(q9:O[9]?=some (.slice a1 n c1))(p:Int)(hn:n<=1000000)(lw:Nat)(a6:lw<=h.n):
  ∀kk e H2,(∃(k:Nat)(w:Value)(G:Nat->Prop),kk=n-k/\k<=n/\e.g 3=iV p/\e.g 5=pT rb/\e.g 11=w/\e.g 12=iV k/\L8 2 OpO h.n H2 w (X1 p k) G/\d9 h.n h H2/\lw<=H2.low)->
  u7 (LE prog l7 (.loop UM) e H2) (fun o e H2=>o= .exit 0/\∃(w:Value)(G:Nat->Prop),e.g 11=w/\L8 2 OpO h.n H2 w (X1 p n) G/\d9 h.n h H2/\lw<=H2.low):=by
 refine i5 _ _ ?_;rintro kk e H2 ⟨k,w,G,hk,a4,f3,U,z,D,W,S,hl⟩;have nHS:=S.n;have E:=(S.g rb (u6 gr)).trans gr;rcases b:decide ((k:Int)<n)with _|_
 .have X:=dF b;obtain rfl:k=n:=oM;refine J5 U D E q9 b ?_;exact i6 ⟨rfl,w,G,z,W,S,hl⟩
 .have X:=dT b;obtain⟨H3,I,n3,-,s3⟩:=pushE H2 (bC [iV p,iV k] 2);have a2:SlO H3 (· =H2.n) 2 (y7 pkE) (sL H2.n 1 1) [(p,(k:Int))]:=by rw[I];exact wM H2 rfl rfl
  have a5:=ze p k;obtain⟨v',h',H4,ra,a3,J,u⟩:=(W.keep u9 s3).push (P:=prog) (t:=51) (a:=((k:Int),[(p,(k:Int))])) (cs:=[iV k,sL H2.n 1 1]) u9 (by exact IV.2.2.2.2.2.2) pE.1 pE.2.1 pE.2.2.1 oM oM rfl ⟨_,rfl,a2⟩ (fun j hj=>⟨oM,oM,fun q=>by have:=W.lt q;omega⟩) oM oM;have n4:=u.n;rw[<-fm]at J;refine J11 f3 U z D E q9 b I.symm ra a3 @wrap_small ?_;exact d8 (kk-1) oM ⟨k+1,v',_,oM,oM,f3,U,rfl,rfl,J,S.trans ((s3.wk oM).trans u.stay),u.stay.lowAll _ oM (s3.lowAll _ oM hl)⟩
section
variable{q:Q}{r:ReD}(kc:KdC q r){Hs:d7}{lo K:Nat}
def xj(r:ReD)(Hs:d7)(lo K n:Nat):Prop:=∀(H:d7)(row:LV)(l:List EvD)(v:Value),RcR Hs lo K r H row->DcR lo l H v->eO v->∀(a:Nat)(p:Int)(more:Bool),a<=l.length->l.length<a+n->n<=31->
 Ret (CL prog l7 36 [.agg row.toArray,v,iV a,iV p,.bool more] H) H (cj 2 OpO H (V8 r l n a p more))
def QN(r:ReD)(Hs:d7)(lo K n:Nat):Prop:=∀(H:d7)(row:LV)(l:List EvD)(v:Value),RcR Hs lo K r H row->DcR lo l H v->eO v->∀(a:Nat)(ev:EvD),l[a]?=some ev->ev.kind≠3->l.length<a+1+n->n<=31->
 Ret (CL prog l7 19 [.agg row.toArray,v,iV a] H) H (cj 2 OpO H (if ev.kind=2 then zO else V8 r l n (a+1) a false))
def KA{n:Nat}(ih:xj r Hs lo K n):QN r Hs lo K n:=by
 intro H U l v rc dc cu a ev ha b7 hn I;have b5:=(gS ha).1;obtain⟨eb,eo,ec,b3,a6,el,J,a7,a4,a8,E,b4,b6,_⟩:=dc.row ha;obtain⟨H1,z,n1,g1,W⟩:=pushF H (bC U 1);have a9:H1.low=H.n:=by rw[z];rfl
 have b8:=dc.low;have u:=(W.g eb oM).trans a4;have h:=rc.one;have b9:=rc.l12;obtain⟨rs,la,lc,a1,b0,a2,b1,a3,b2,q8,q9,c4,c5,c0,a5,_⟩:=rc.form;have ta:((a:Nat):Int).toNat=a:=tN a;have c3:=dc.n30;rw[i7 Yv rfl _ sM];rcases d2:decide (ev.kind=2)with _|_
 .rw[if_neg (dF d2)];obtain⟨v',h',H2,O,S,⟨G,O2⟩,X⟩:=ih H1 U l v (rc.stay W) (dc.stay W) cu (a+1) a false oM oM I;subst J;have e1:((a+1:Nat):Int)=(a:Int)+1:=oM;rw[e1]at O;refine J11 h z.symm g1 u ta E d2 a5 O S @wrap_small ?_;exact S8 u9 (O2.wk oM) (W.trans (X.wk oM)) (X.lowAll _ oM oM)
 .rw[if_pos (dT d2)];obtain⟨H2,D,-,-,X⟩:=pushE H1 (bC [iV 0,nS] 2);have hO:=pH H1 H.n 1 oM;rw[<-D]at hO;subst J;refine J7 h z.symm u ta E d2 D.symm ?_;exact kN u9 hO (W.trans (X.wk oM)) (X.lowAll _ oM oM)
include kc
def Bi{n:Nat}(ih:xj r Hs lo K n):xj r Hs lo K (n+1):=by
 intro H a8 l v rc dc cu a p a6 ha hn d6;obtain⟨m,hg⟩:=kc.gr;have f1:=kc.wf.l1;obtain⟨H1,I,n1,g1,s1⟩:=pushF H (bC a8 1);have e1:H1.low=H.n:=by rw[I];rfl
 have f2:=dc.low;have u:=rc.one;have f3:=rc.l12;have a7:=rc.stay s1;have W:=dc.stay s1;obtain⟨rs,la,lc,a1,e2,a2,e4,a3,e5,q8,q9,f6,f7,f4,c8,_⟩:=rc.form;have ta:((a:Nat):Int).toNat=a:=tN a;have f5:=dc.n30;obtain⟨va,vc,c3⟩:=dc.ev.slice;rw[i7 Oj rfl _ sM,V8];by_cases hm:(a6||decide (l.length<=a))=true
 .rw[if_pos hm];subst c3;cases a6 with
  |true=>
   refine J2 u I.symm ?_;refine i8 (F:=fun z=>Ret (t6 _ _ _ (t7 (t7 (inBlock 0 z) _) _)) _ _) (wC g1 q9 p oM H.n oM r.sorts.length _ _ ⟨0,_,_,rfl,Nat.zero_le _,rfl,rfl,rfl,rfl,L8.nil,d9.refl _ _,oM⟩) ?_;rintro o' e' H' ⟨ho,w,G,E,hO,hS,S⟩;refine J2 ho E ?_;exact S8 u9 (hO.wk oM) (s1.trans (hS.wk oM)) S
  |false=>
   have J:a=l.length:=by
    simp only[Bool.false_or,decide_eq_true_eq]at hm;omega
   have d:decide ((a:Int)=l.length)=true:=decide_eq_true oM;refine J3 u I.symm d ?_;refine i8 (F:=fun z=>Ret (t6 _ _ _ (t7 (t7 (inBlock 0 z) _) _)) _ _) (wC g1 q9 p oM H.n oM r.sorts.length _ _ ⟨0,_,_,rfl,Nat.zero_le _,rfl,rfl,rfl,rfl,L8.nil,d9.refl _ _,oM⟩) ?_;rintro o' e' H' ⟨ho,w,G,E,hO,hS,S⟩;refine J2 ho E ?_;exact S8 u9 (hO.wk oM) (s1.trans (hS.wk oM)) S
 .rw[if_neg hm];simp only[Bool.or_eq_true,decide_eq_true_eq,not_or,Nat.not_le,Bool.not_eq_true]at hm;obtain⟨rfl,J⟩:=hm;obtain⟨ev,he,hd⟩:=B8 J;obtain⟨eb,eo,ec,e6,d1,el,b4,d4,b2,d5,b3,e9,f0,c0⟩:=W.row he;have dl:decide ((a:Int)=l.length)=false:=decide_eq_false oM;rw[he];simp only;by_cases e3:ev.kind=3
  .rw[if_pos e3];have d3:decide (ev.kind=3)=true:=decide_eq_true e3;obtain⟨H2,b1,-,-,s2⟩:=pushE H1 (bC [iV 0,nS] 2);have hO:=pH H1 H.n 1 oM;rw[<-b1]at hO;subst b4;refine J8 u I.symm dl b2 ta b3 d3 b1.symm ?_;exact kN u9 hO (s1.trans (s2.wk oM)) (s2.lowAll _ oM oM)
  .rw[if_neg e3];have d3:decide (ev.kind=3)=false:=decide_eq_false e3;have a5:ev.kind=1\/ev.kind=2:=oM;obtain⟨c9,e7,H2,c4,b6,⟨Gf,Of⟩,s2⟩:=KA ih H1 a8 l v a7 W cu a ev he e3 oM oM;have n2:=s2.n;have c6:=a7.stay s2;have D:=W.stay s2;have hb:=dc.pos;have b0:=Ms H2 lo v l D.low D.ev cu oM hb a J;have a4:=Mq H2 lo v l D.low D.ev oM hb a;have b9:decide (a∈w9 l l.length)= !F8 l a:=by rw[(F6 dc.beg he a5).1,Bool.not_not]
   rw[b9]at a4;have a9:=T2 l (Nat.le_of_lt J);have d2:=aY J;obtain⟨d0,e8,H3,c5,b7,⟨Gb,Ob⟩,s3⟩:=ih H2 a8 l v c6 D cu (A6 l a) p (!F8 l a) a9 oM oM;have n3:=s3.n;have U:d9 H1.n H1 H3:=s2.trans (s3.wk oM);have c7:=a7.stay U;have b8:=W.stay U;have g2:=(s2.g H.n oM).trans g1;have g3:=(U.g H.n oM).trans g1;obtain⟨fs,O⟩:=eY ((if ev.kind=2 then zO else V8 r l n (a+1) a false));obtain⟨bs,X⟩:=eY (V8 r l n (A6 l a) p (!F8 l a));rw[<-O]at Of;rw[<-X]at Ob;rw[<-O,<-X];have lf:fs.length<=25:=by
    rw[O];split
    .decide
    .have:=ij hg l n (a+1) a false;omega
   have lb:bs.length<=25:=by have:=ij hg l n (A6 l a) p (!F8 l a);rw[X];omega
   have kf:∀o∈fs,fG r n o:=by
    rw[O];split
    .exact xh hg n
    .exact fh hg l n _ _ _
   have kb:∀o∈bs,fG r n o:=by rw[X];exact fh hg l n _ _ _
   have h2:ev.kind=2->∀o∈fs,o.1=0:=fun h o ho=>by
    rw[O,if_pos h]at ho;have:o=(0,[]):=by simpa [zO] using ho
    rw[this]
   have b5:H.n<=H3.low:=U.lowAll _ oM oM;subst b4;refine J16 u I.symm dl b2 ta b3 d3 g1 g2 c8 c4 b6 b0 a4 c5 b7 ?_;refine i8 (F:=fun z=>Ret (t6 _ _ _ (t7 (inBlock 2 z) _)) _ _) (IC kc c7 g3 b8 H.n oM a ev he a5 fs bs c9 d0 (Of.keep u9 s3 |>.sl u9) (Ob.sl u9) lf lb n oM kf kb h2 (jt r ev fs bs []) fs.length _ _ ⟨0,_,[],_,rfl,Nat.zero_le _,rfl,rfl,rfl,rfl,rfl,rfl,rfl,L8.nil,d9.refl _ _,b5,Nat.zero_le _,rfl⟩) ?_;rintro o' e' H' ⟨ho,w,G,E,hO,hS,S⟩;refine J2 ho E ?_;exact S8 u9 (hO.wk oM) (s1.trans ((U.wk oM).trans (hS.wk oM))) S
def DR:∀n,xj r Hs lo K n
 |0=>fun H u l v J D z a p h E I _=>oM
 |n+1=>Bi kc (DR n)
def XI{H:d7}{u:LV}{l:List EvD}{v:Value}(O:RcR Hs lo K r H u)(D:DcR lo l H v)(I:eO v){a:Nat}{ev:EvD}(E:l[a]?=some ev)(z:ev.kind≠3):
  Ret (CL prog l7 19 [.agg u.toArray,v,iV a] H) H (cj 2 OpO H (eD r l a)):=by
 have J:=D.n30;have h:=KA (DR kc (l.length+1)) H u l v O D I a ev E z oM oM;rw[eD,E];exact h
def Mu{H:d7}{u:LV}{l:List EvD}{v:Value}(rc:RcR Hs lo K r H u)(O:DcR lo l H v)(cu:eO v){a:Nat}{ev:EvD}(ha:l[a]?=some ev)(c5:ev.kind≠3):
  Ret (CL prog l7 21 [.agg u.toArray,v,iV a] H) H (cj 2 OpO H (ak r l a)):=by
 have X:=(gS ha).1;obtain⟨eb,eo,ec,b8,b1,el,c9,b2,c4,b3,c6,c0,c3,a7⟩:=O.row ha;have a4:ev.kind=1\/ev.kind=2:=oM;obtain⟨I,J,n1,g1,s1⟩:=pushF H (bC u 1);have b4:I.low=H.n:=by rw[J];rfl
 have z:=rc.one;have d1:=rc.l12;have a9:=rc.stay s1;have h:=O.stay s1;have d3:=O.n30;have hb:=O.pos;obtain⟨rs,la,lc,a1,b5,a2,b6,a3,b7,q8,q9,d4,d5,d2,b0,_⟩:=rc.form;rw[i7 Yx rfl _ sM];by_cases h0:a=0
 .subst h0;have hz:ak r l 0=zO:=by rw[ak,jW,if_pos oM]
  obtain⟨H2,W,-,-,s2⟩:=pushE I (bC [iV 0,nS] 2);have hO:=pH I H.n 1 oM;rw[<-W]at hO;have z0:((0:Nat):Int)=0:=rfl;refine J4 z J.symm W.symm z0 ?_;rw[hz];exact kN u9 hO (s1.trans (s2.wk oM)) (s2.lowAll _ oM oM)
 .obtain⟨p,hp,c7,c8⟩:=nI O.beg ha oM;have hz:ak r l a=V8 r l (l.length+1) (A6 l a) p (!F8 l a):=by rw[ak,hp,if_neg oM]
  have d0:decide ((a:Int)=0)=false:=decide_eq_false oM;have U:=Ms I lo v l h.low h.ev cu oM hb a X;have E:=Qw I lo v l h.low h.ev cu oM hb a oM;have D:=Mq I lo v l h.low h.ev oM hb a;have a6:decide (a∈w9 l l.length)= !F8 l a:=by rw[(F6 O.beg ha a4).1,Bool.not_not]
  rw[a6]at D;rw[hp]at E;have S:=T2 l (Nat.le_of_lt X);obtain⟨d6,b9,H3,a8,a5,⟨Gb,Ob⟩,s3⟩:=DR kc (l.length+1) I u l v a9 h cu (A6 l a) p (!F8 l a) S oM oM;refine J10 z J.symm d0 g1 b0 U E D a8 a5 ?_;rw[hz];exact S8 u9 (Ob.wk oM) (s1.trans (s3.wk oM)) (s3.lowAll _ oM oM)
end
def Bl(H0:d7)(lo:Nat)(v:Value)(l:List EvD)(hv:N8 H0 lo v l)(hn:l.length<=1000000)(r:Nat):
  ∀W e H2,(∃(i:Nat)(n:Int),W=l.length-i/\i<=l.length/\ -(i:Int)<=n/\n<=i/\e.g 0=v/\e.g 5=iV n/\e.g 6=iV i/\i+P4 (l.drop i) n=r/\H2=H0)->
  u7 (LE prog l7 (.loop Ut) e H2) (fun o e H2=>H2=H0/\((o= .exit 0/\e.g 0=v/\r=l.length)\/(o= .ret/\e.g 4=iV r))):=by
 refine i5 _ _ ?_;rintro W e H2 ⟨i,n,hk,hi,a9,b0,D,O,S,h,rfl⟩;obtain⟨va,vc,a4⟩:=hv.slice;subst a4;rcases b:decide ((i:Int)<l.length)with _|_
 .have a1:=dF b;rw[dN oM,P4]at h;refine J3 D S b ?_;exact i6 ⟨rfl,.inl ⟨rfl,D,oM⟩⟩
 .have a1:=dT b;obtain⟨ev,he,hd⟩:=B8 (l:=l) (i:=i) oM;rw[hd,P4]at h;obtain⟨be,oe,ce,a7,a6,aa,ac,a3,a5,u,a8,a2,_⟩:=iM hv he;cases a3;have U:=E7 (k:=0) oM a2;rw[Nat.add_zero]at U;rcases I:decide (ev.kind=1)with _|_
  .have X:=dF I;rcases J:decide (ev.kind=3)with _|_
   .have e3:=dF J;have E:A7 n ev.kind=n:=by rw[A7,if_neg X,if_neg e3]
    rw[E]at h;rcases z:decide (n=0)with _|_
    .rw[if_neg (dF z)]at h;refine J10 D O S b u U I J z @wrap_small ?_;exact d8 (W-1) oM ⟨i+1,n,oM,oM,oM,oM,D,O,rfl,oM,rfl⟩
    .rw[if_pos (dT z)]at h;refine J10 D O S b u U I J z @wrap_small ?_;exact y9 ⟨rfl,.inr ⟨rfl,by rw[<-h];rfl⟩⟩
   .have e3:=dT J;have E:A7 n ev.kind=n-1:=by rw[A7,if_neg X,if_pos e3]
    rw[E]at h;rcases z:decide (n-1=0)with _|_
    .rw[if_neg (dF z)]at h;refine J10 D O S b u U I J z @wrap_small ?_;exact d8 (W-1) oM ⟨i+1,n-1,oM,oM,oM,oM,D,rfl,rfl,oM,rfl⟩
    .rw[if_pos (dT z)]at h;refine J10 D O S b u U I J z @wrap_small ?_;exact y9 ⟨rfl,.inr ⟨rfl,by rw[<-h];rfl⟩⟩
  .have X:=dT I;have J:decide (ev.kind=3)=false:=decide_eq_false oM;have E:A7 n ev.kind=n+1:=by rw[A7,if_pos X]
   rw[E]at h;rcases z:decide (n+1=0)with _|_
   .rw[if_neg (dF z)]at h;refine J9 D O S b u U I z @wrap_small ?_;exact d8 (W-1) oM ⟨i+1,n+1,oM,oM,oM,oM,D,rfl,rfl,oM,rfl⟩
   .rw[if_pos (dT z)]at h;refine J9 D O S b u U I z @wrap_small ?_;exact y9 ⟨rfl,.inr ⟨rfl,by rw[<-h];rfl⟩⟩
def yH(H:d7)(lo:Nat)(v:Value)(l:List EvD)(O:lo<=H.n)(D:N8 H lo v l)(S:l.length<=1000000)(i:Nat)(J:i<=l.length):CL prog l7 12 [v,iV i] H=some (.int .i64 ((i+P4 (l.drop i) 0:Nat):Int),none):=by
 rw[i7 Wl rfl _ sM];obtain⟨W,X,u⟩:=D.slice;subst u;refine J1 ty3 ?_;refine i8 (F:=fun z=>t6 _ _ _ (t7 (inBlock 0 z) _)=_) (Bl ⟨H.bs,H.n⟩ lo _ l (D.mono (fun _ _=>rfl) lR) S (i+P4 (l.drop i) 0) (l.length-i) _ _ ⟨i,0,rfl,J,oM,oM,rfl,rfl,rfl,rfl,rfl⟩) ?_;rintro o e' H' ⟨rfl,⟨h,E,U⟩|⟨h,I⟩⟩
 .refine J2 h E ?_;rw[U]
 .exact J2 h I trivial
def Bn(H0:d7)(lo:Nat)(v:Value)(l:List EvD)(hv:N8 H0 lo v l)(hn:l.length<=1000000)(r:Int):
  ∀kk e H2,(∃(j d:Nat),kk=j/\j<=l.length/\d+j<=l.length/\e.g 0=v/\e.g 5=iV d/\e.g 6=iV ((j:Int)-1)/\di l j d=r/\H2=H0)->
  u7 (LE prog l7 (.loop Uv) e H2) (fun o e H2=>H2=H0/\((o= .exit 0/\r= -1)\/(o= .ret/\e.g 4=iV r))):=by
 refine i5 _ _ ?_;rintro kk e H2 ⟨j,d,hk,hj,hd,D,S,J,h,rfl⟩;rcases b:decide ((0:Int)<=(j:Int)-1)with _|_
 .have X:=dF b;obtain rfl:j=0:=oM;rw[di]at h;refine J1 J ?_;exact i6 ⟨rfl,.inl ⟨rfl,h.symm⟩⟩
 .have X:=dT b;obtain⟨i,rfl⟩:∃i,j=i+1:=⟨j-1,oM⟩
  have a1:((i+1:Nat):Int)-1=i:=oM;rw[a1]at J b;obtain⟨ev,he,a6⟩:=B8 (l:=l) (i:=i) oM;rw[di,he]at h;simp only at h;obtain⟨be,oe,ce,a5,a4,aa,ac,rfl,a3,u,a7,a2,_⟩:=iM hv he;have O:=E7 (k:=0) oM a2;rw[Nat.add_zero]at O;rcases I:decide (ev.kind=3)with _|_
  .have W:=dF I;rw[if_neg W]at h;rcases E:decide (ev.kind=1)with _|_
   .have U:=dF E;rw[if_neg U]at h;refine J8 D J b u O E I @wrap_small ?_;exact d8 i oM ⟨i,d,rfl,oM,oM,D,S,rfl,h,rfl⟩
   .have U:=dT E;rw[if_pos U]at h;rcases z:decide ((d:Int)=0)with _|_
    .have hz:=dF z;rw[if_neg oM]at h;refine J10 D S J b u O E I z @wrap_small ?_;exact d8 i oM ⟨i,d-1,rfl,oM,oM,D,by show iV _=iV _;congr 1;omega,rfl,h,rfl⟩
    .have hz:=dT z;rw[if_pos oM]at h;refine J9 D S J b u O E I z ?_;exact y9 ⟨rfl,.inr ⟨rfl,by rw[<-h];rfl⟩⟩
  .have W:=dT I;rw[if_pos W]at h;have E:decide (ev.kind=1)=false:=decide_eq_false oM;refine J8 D S J b u O I @wrap_small ?_;exact d8 i oM ⟨i,d+1,rfl,oM,oM,D,by show iV _=iV _;congr 1,rfl,h,rfl⟩
def DW(H:d7)(lo:Nat)(v:Value)(l:List EvD)(E:lo<=H.n)(O:N8 H lo v l)(I:l.length<=1000000)(i:Nat)(D:i<=l.length):CL prog l7 14 [v,iV i] H=some (.int .i64 (di l i 0),none):=by
 rw[i7 Wx rfl _ sM];refine J1 @wrap_small ?_;refine i8 (F:=fun z=>t6 _ _ _ (t7 (inBlock 0 z) _)=_) (Bn ⟨H.bs,H.n⟩ lo _ l (O.mono (fun _ _=>rfl) lR) I (di l i 0) i _ _ ⟨i,0,rfl,D,oM,rfl,rfl,rfl,rfl,rfl⟩) ?_;rintro o e' H' ⟨rfl,⟨h,J⟩|⟨h,u⟩⟩
 .refine J1 h ?_;rw[J]
 .exact J2 h u trivial
def JD(H:d7)(lo:Nat)(v:Value)(l:List EvD)(b2:lo<=H.n)(hv:N8 H lo v l)(hn:l.length<=2000000)(r:Int):
  ∀k e H2,(∃(i:Nat)(d:Int),k=l.length-i/\i<=l.length/\ -(i:Int)<=d/\d<=i/\e.g 6=v/\e.g 7=iV l.length/\e.g 8=iV i/\e.g 3=iV d/\d9 H.n H H2/\H.n<=H2.low/\dep d (l.drop i)=r)->
  u7 (LE prog l7 (.loop UG) e H2) (fun o e H2=>H.n<=H2.low/\o= .exit 0/\e.g 3=iV r):=by
 refine i5 _ _ ?_;rintro k e H2 ⟨i,d,hk,hi,b0,b1,X,u,h,W,hS,hl,fu⟩;refine J2 u h ?_;rcases hb:decide ((i:Int)<l.length)with _|_
 .have a3:=dF hb;have:l.drop i=[]:=dN oM;rw[this]at fu;refine J1 @if_true.{1} ?_;refine i6 ⟨hl,rfl,?_⟩;rw[<-fu];exact W
 .have a3:=dT hb;obtain⟨ev,ha,hd⟩:=B8 (l:=l) (i:=i) oM;rw[hd]at fu;obtain⟨b,o,c,cs,own,aa,ac,a6,a7,hg,a4,a5,a8,_⟩:=iM hv ha;have O:H2.g b=some (.cells cs own 5):=by rw[hS.g b oM];exact hg
  have a9:=u6 O;have J:=hS.n;have S:=aE a4 a5;have I:=X;rw[a6]at I;have hr:=gD d ev.kind;have D:∀(e':Env) B B',e'.g 6=v->e'.g 7=iV l.length->e'.g 8=iV ((i:Int)+1)->e'.g 3=iV (A7 d ev.kind)->
    ci k (fun k e H2=>∃(i:Nat)(d:Int),k=l.length-i/\i<=l.length/\ -(i:Int)<=d/\d<=i/\e.g 6=v/\e.g 7=iV l.length/\e.g 8=iV i/\e.g 3=iV d/\d9 H.n H H2/\H.n<=H2.low/\dep d (l.drop i)=r) (fun o e H2=>H.n<=H2.low/\o= .exit 0/\e.g 3=iV r) .normal e' ((H2.push B).put H2.n B'):=fun e' B B' g9 a1 a2 g3=>
   d8 (k-1) oM ⟨i+1,A7 d ev.kind,oM,oM,oM,oM,g9,a1,a2,g3,hS.trans ((d9.push J).trans (d9.put J)),by rw[A9,l9];omega,fu⟩
  refine J4 I h O S ?_;by_cases U:ev.kind=1
  .have z:decide (ev.kind=1)=true:=decide_eq_true U;refine J4 h W z @wrap_small ?_;exact D _ _ _ X u rfl (by rw[A7,if_pos U];rfl)
  have z:decide (ev.kind=1)=false:=decide_eq_false U;by_cases k3:ev.kind=3
  .have E:decide (ev.kind=3)=true:=decide_eq_true k3;refine J5 h W z E @wrap_small ?_;exact D _ _ _ X u rfl (by rw[A7,if_neg U,if_pos k3];rfl)
  have E:decide (ev.kind=3)=false:=decide_eq_false k3;refine J4 h z E @wrap_small ?_;exact D _ _ _ X u rfl (by rw[A7,if_neg U,if_neg k3];exact W)
def TR(H:d7)(lo:Nat)(v:Value)(l:List EvD)(u:lo<=H.n)(E:N8 H lo v l)(J:l.length<=2000000):CL prog l7 29 [v] H=some (.int .i64 (dep 0 l),none):=by
 obtain⟨a,c,h⟩:=E.slice;have D:N8 H lo (.slice a l.length c) l:=by rw[<-h];exact E
 rw[i7 WN rfl _ sM,h];refine J1 gV ?_;refine i8 (F:=fun z=>t6 _ _ _ (t7 (inBlock 0 z) _)=_) (JD H lo _ l u D J (dep 0 l) l.length _ _ ⟨0,0,rfl,oM,oM,oM,rfl,rfl,rfl,rfl,d9.start H,lR,rfl⟩) ?_;rintro o e' H' ⟨S,O,I⟩;exact J2 O I trivial
def Mp(H:d7)(lo:Nat)(v:Value)(l:List EvD)(W:lo<=H.n)(hv:N8 H lo v l)(hc:eO v\/l.length<=1)(hn:l.length<=1000000)(i:Nat)(hi:i<l.length):
  CL prog l7 10 [v,iV i] H=some (.bool (F8 l i),none):=by
 obtain⟨ev,he,hd⟩:=B8 (l:=l) (i:=i) hi;have E:N8 ⟨H.bs,H.n⟩ lo v l:=hv.mono (fun _ _=>rfl) lR;have h:=yH ⟨H.bs,H.n⟩ lo v l W E hn i oM;have hE:i+P4 (l.drop i) 0=A6 l i:=rfl;rw[hE]at h;have S:=T2 l (Nat.le_of_lt hi);have b7:i<A6 l i:=by rw[A6,hd,P4];split<;>omega
 obtain⟨u,hu,D⟩:∃u,(∀H',(∀k,k<lo->H'.g k=H.g k)->L9 prog H' 22 v (some (.int .i64 (i:Int))) (some (.int .i64 (A6 l i:Nat))) none=some u)/\N8 ⟨H.bs,H.n⟩ lo u ((l.drop i).take (A6 l i-i)):=by
  rcases hc with hc|hc
  .obtain⟨u,hu,D,_⟩:=gl (P:=prog) (t:=22) (x:=some (.int .i64 (i:Int))) (y:=some (.int .i64 (A6 l i:Nat))) (j:=A6 l i) E hc (by exact gV.2.2.2.2.2.2) Q9.1 oM (gC i 0) (gC _ _) oM S;exact⟨u,hu,D⟩
  .have a3:A6 l i=l.length:=oM;obtain⟨u,hu,D⟩:=IK (P:=prog) (t:=22) (x:=some (.int .i64 (i:Int))) (y:=some (.int .i64 (A6 l i:Nat))) E (by exact gV.2.2.2.2.2.2) Q9.1 oM (gC i 0) (by rw[a3];exact gC _ _) oM;exact⟨u,hu,by rw[List.take_of_length_le (by rw[List.length_drop];omega)];exact D⟩
 have a1:=hu ⟨H.bs,H.n⟩ (fun _ _=>rfl);have J:=TR ⟨H.bs,H.n⟩ lo u _ W D (by rw[List.length_take,List.length_drop];omega);obtain⟨el,U,_⟩:=B8 (l:=l) (i:=A6 l i-1) oM;obtain⟨be,oe,ce,b6,b1,aa,ac,a6,a9,z,b8,a5,_⟩:=iM E he;obtain⟨b4,b9,b5,a8,a7,b2,b3,a2,a4,O,b0,X,_⟩:=iM E U;subst a6;cases a2;rw[z]at O;cases O;have ke:=E7 (k:=0) oM a5;rw[Nat.add_zero]at ke;have I:=E7 (k:=0) oM X;rw[Nat.add_zero]at I;have k1:((A6 l i:Nat):Int)-1=((A6 l i-1:Nat):Int):=oM;have ntE:((A6 l i-1:Nat):Int).toNat=A6 l i-1:=Int.toNat_natCast _;rw[i7 Yr rfl _ sM,F8,he,U];simp only;rcases d2:decide (ev.kind=2)with _|_
 .rcases d3:decide (el.kind=3)with _|_
  .exact J9 z ke d2 h k1 ntE I d3 @wrap_small trivial
  .rcases d0:decide (dep 0 ((l.drop i).take (A6 l i-i))=0)with _|_
   .exact J12 z ke d2 h k1 ntE I d3 a1 J d0 @wrap_small trivial
   .exact J12 z ke d2 h k1 ntE I d3 a1 J d0 @wrap_small trivial
 .exact J3 z ke d2 trivial
def XS(H:d7)(n:Nat)(hn:n<=4294967296):Ret (CL prog l7 82 [nS,iV n] H) H (fun v H'=>d9 H.n H H'/\((n=0/\v=nS)\/(0<n/\∃cs,v=sL H.n 0 1/\H'.g H.n=cE cs 2))):=by
 have h:∀H,E6 prog .cap [54] [nS] H=some (.int .i64 0,none):=fun H=>by simp [E6,oz,goInt]
 have J:∀H,L9 prog H 54 (nS) none (some (.int .i64 0)) none=some (nS):=fun H=>by simp [L9,oz,du,bnd]
 rw[i7 YQ rfl _ sM];have W:decide ((n:Int)<0)=false:=decide_eq_false oM;have e1:(n:Int)-(0-0)=n:=oM;by_cases E:n=0
 .subst E;refine J2 h @wrap_small ?_;exact⟨_,none,_,rfl,rfl,d9.refl _ _,.inl rfl⟩
 .have X:decide ((0:Int)<n)=true:=decide_eq_true oM;have I:∀H,C2 prog H [54,3] (nS) (.int .i64 n)=some (sL H.n n (n+1),some (H.push (.cells (List.replicate n [iV (0),iV (0)]).flatten true 2))):=fun H=>by
   have z:R7 prog H 2 [iV (0),iV (0)] (some 3) (.int .i64 n)=some (n,(List.replicate n [iV (0),iV (0)]).flatten):=by
    simp only[R7,Option.bind_some,ty3,if_pos (show(0:Int)<=n from oM),Int.toNat_natCast]
   simp only[C2,List.head?_cons,Option.bind_some,oz,du,List.getElem?_cons_succ,List.getElem?_cons_zero,z];rw[if_neg oM,if_neg E,if_pos oM]
  have O:∀(H:d7) b cs,H.g b=cE cs 2->L9 prog H 54 (sL b n (n+1)) none (some (.int .i64 0)) none=some (sL b 0 1):=fun H b cs hg=>by
   simp [L9,oz,du,bnd,oo,hg,E]
  obtain⟨U,u,-,S,s1⟩:=pushF H (.cells (List.replicate n [iV (0),iV (0)]).flatten true 2);have D:=O U H.n _ S;have e2:(0:Int)-0=0:=rfl;have e3:(n:Int)-0=n:=oM;refine J10 h @wrap_small W X e2 e3 J I u.symm D ?_;exact⟨_,some _,_,rfl,rfl,s1.ret (by rw[u];exact lR),.inr ⟨oM,_,rfl,S⟩⟩
def mF{α:Type}{P:Program}{t e:TypeId}{bytes lo sz n b:Nat}{z cs:LV}{R:LV->α->Prop}{H:d7}{x:Value}{l:List α}(U:P.underlying t=some (.slice e))(hs:D5 P e=some sz)(O:T1 P e=some bytes)(W:P8 P e=some z)(h0:0<sz)(h1:0<bytes)
  (S:H.g b=some (.cells cs true sz)) (J:lo<=b) (hx:SlI H n sz R x l) (hr:l.length*bytes<=140737488355328):
  Ret (C2 P H [t,t] (sL b 0 1) x) H fun v' H'=>(l=[]/\v'=sL b 0 1/\H'=H)\/(l≠ []/\u5 H' lo sz R v' l/\d9 lo H H'):=by
 obtain⟨a,c,el,rfl,q1,X⟩:=hx.rows;have a1:=u6 S;have E:I3 P t=some e:=by simp [I3,U]
 have u:R7 P H sz z (some t) (.slice a l.length c)=some (l.length,el):=by
  simp only[R7,Option.bind_some,U,q1,Option.map_some]
 have D:¬(sz=0\/bytes=0):=oM;by_cases I:l.length=0
 .refine⟨_,none,H,?_,rfl,.inl ⟨List.length_eq_zero_iff.1 I,rfl,rfl⟩⟩;simp only[C2,List.head?_cons,Option.bind_some,E,hs,O,W,List.getElem?_cons_succ,List.getElem?_cons_zero,if_neg D,u];rw[if_pos I,dk]
 .refine⟨sL H.n (0+l.length) (0+l.length+1),some ((H.put b .dead).push (.cells ([]++el) true sz)),_,?_,rfl,.inr ⟨fun h=>I (by rw[h];rfl),⟨el,.inr ⟨H.n,_,by rw[Nat.zero_add],by show((H.put b .dead).push (.cells el true sz)).g H.n=some (.cells el true sz);exact A4 ⟨by rw[j9];exact lR,by rw[j9];exact lR⟩,oM,X.1⟩,X⟩,(d9.put J).trans (d9.push (by rw[j9];omega))⟩⟩;simp only[C2,List.head?_cons,Option.bind_some,E,hs,O,W,List.getElem?_cons_succ,List.getElem?_cons_zero,if_neg D,u,S];rw[if_neg I,if_pos (by simpa using hr),if_pos sM,if_neg oM,if_pos trivial,dk];simp
def XM(H:d7)(b c:Nat)(v1 v2:Value)(u l2:List (Int×Int))(hg:H.g b=cE [v1,v2] 1)(h1:SlI H H.n 2 (y7 pkE) v1 u)(h2:SlI H H.n 2 (y7 pkE) v2 l2)(hn:u.length+l2.length<=4294967296):
  Ret (CL prog l7 52 [sL b 2 c] H) H (fun v H'=>u5 H' H.n 2 (y7 pkE) v (u++l2)/\d9 H.n H H'):=by
 have a6:=u6 hg;have a8:d7.g ⟨H.bs,H.n⟩ b=cE [v1,v2] 1:=hg;obtain⟨U,c1,rfl⟩:=h1.slice;obtain⟨a2,c2,rfl⟩:=h2.slice;obtain⟨v8,k8,z,r8,c3,s8,a4⟩:=XS ⟨H.bs,H.n⟩ (u.length+l2.length) hn;have n8:=s8.n;have z8:d7.n ⟨H.bs,H.n⟩=H.n:=rfl;rw[z8]at s8 n8 a4;have es:(0:Int)+u.length+l2.length=((u.length+l2.length:Nat):Int):=oM;have d1:decide ((0:Int)+u.length<0)=false:=decide_eq_false oM;have d2:decide (((u.length+l2.length:Nat):Int)<0)=false:=decide_eq_false oM;have w1:IntKind.i64.wrap ((0:Int)+u.length)=0+u.length:=wrap_small oM oM;have w2:IntKind.i64.wrap (((u.length+l2.length:Nat):Int))=((u.length+l2.length:Nat):Int):=wrap_small oM oM;have W:SlI z H.n 2 (y7 pkE) (.slice U u.length c1) u:=h1.mono (fun j hj=>(s8.g j hj).trans rfl) lR iF;have g1:z.g b=cE [.slice U u.length c1,.slice a2 l2.length c2] 1:=(s8.g b a6).trans hg;obtain⟨v9,k9,H2,r9,c4,s9,b9⟩:∃v h H2,C2 prog z [54,54] v8 (.slice U u.length c1)=dk v h/\h.getD z=H2/\d9 H.n z H2/\((u=[]/\v=v8/\H2=z)\/(u≠ []/\u5 H2 H.n 2 (y7 pkE) v u)):=by
  rcases a4 with⟨hz,rfl⟩|⟨hp,b4,rfl,a3⟩
  .obtain⟨v,h,H2,E,I,D,S⟩:=(u5.nil (H:=z) (lo:=H.n) (sz:=2) (R:=y7 pkE)).append (P:=prog) (t:=54) (by exact oz.2.2.2.2.2.2) du.1 du.2.1 du.2.2.1 oM oM W (by simp;omega) n8;have b7:u=[]:=List.length_eq_zero_iff.1 oM;subst b7;obtain⟨v,h,H2,E,I,D⟩:∃v h H2,C2 prog z [54,54] (nS) (.slice U 0 c1)=dk v h/\h.getD z=H2/\(v=nS/\H2=z):=by
    refine⟨_,none,_,?_,rfl,rfl,rfl⟩;obtain⟨el,b6,c5⟩:=W.cells;have a5:R7 prog z 2 [iV (0),iV (0)] (some 54) (.slice U 0 c1)=some (0,el):=by
     simp only[R7,Option.bind_some,oz];have a7:B9 z 2 (.slice U 0 c1)=some el:=b6;rw[a7];rfl
    simp only[C2,List.head?_cons,Option.bind_some,oz,du,List.getElem?_cons_succ,List.getElem?_cons_zero,a5];rw[if_neg oM,if_pos trivial,dk]
   obtain⟨rfl,rfl⟩:=D;exact⟨_,_,_,E,I,d9.refl _ _,.inl ⟨rfl,rfl,rfl⟩⟩
  .obtain⟨v,h,H2,E,I,D⟩:=mF (P:=prog) (t:=54) (lo:=H.n) (by exact oz.2.2.2.2.2.2) du.1 du.2.1 du.2.2.1 oM oM a3 lR W oM;rcases D with⟨rfl,rfl,rfl⟩|⟨D,S,q5⟩
   .exact⟨_,_,_,E,I,d9.refl _ _,.inl ⟨rfl,rfl,rfl⟩⟩
   .exact⟨_,_,_,E,I,q5,.inr ⟨D,S⟩⟩
 have n9:=s9.n;have X:SlI H2 H.n 2 (y7 pkE) (.slice a2 l2.length c2) l2:=h2.mono (fun j hj=>by rw[s9.g j hj,s8.g j hj];rfl) lR iF;have g2:H2.g b=cE [.slice U u.length c1,.slice a2 l2.length c2] 1:=(s9.g b a6).trans g1;obtain⟨c8,c7,J,c0,b1,b2,O⟩:∃v h J,C2 prog H2 [54,54] v9 (.slice a2 l2.length c2)=dk v h/\h.getD H2=J/\d9 H.n H2 J/\u5 J H.n 2 (y7 pkE) v (u++l2):=by
  rcases b9 with⟨rfl,rfl,rfl⟩|⟨c6,b5⟩
  .rcases a4 with⟨hz,rfl⟩|⟨hp,b4,rfl,a3⟩
   .obtain⟨v,h,H2,E,I,D,S⟩:=(u5.nil (H:=H2) (lo:=H.n) (sz:=2) (R:=y7 pkE)).append (P:=prog) (t:=54) (by exact oz.2.2.2.2.2.2) du.1 du.2.1 du.2.2.1 oM oM X (by simp;omega) n8;exact⟨v,h,H2,E,I,S,D⟩
   .obtain⟨v,h,J,E,I,D⟩:=mF (P:=prog) (t:=54) (lo:=H.n) (by exact oz.2.2.2.2.2.2) du.1 du.2.1 du.2.2.1 oM oM a3 lR X oM;rcases D with⟨rfl,rfl,rfl⟩|⟨D,S,q5⟩
    .simp at hp
    .exact⟨_,_,_,E,I,q5,S⟩
  .obtain⟨v,h,J,E,I,D,S⟩:=b5.append (P:=prog) (t:=54) (by exact oz.2.2.2.2.2.2) du.1 du.2.1 du.2.2.1 oM oM X oM oM;exact⟨v,h,J,E,I,S,D⟩
 have a9:H.n<=z.low:=s8.lowAll _ lR lR;have b0:H.n<=J.low:=b2.lowAll _ lR (s9.lowAll _ lR a9);have b3:d9 H.n H J:=((d9.start H).trans s8).trans (s9.trans b2);rw[i7 YF rfl _ sM];have w3:IntKind.i64.wrap 1=1:=rfl;have w4:IntKind.i64.wrap 2=2:=rfl;refine J1 Ya ?_;rw[T8];refine J4 a8 d1 w1 w3 ?_;rw[T8];refine J5 a8 es w2 d2 w4 ?_;rw[T8];refine J2 r8 c3 ?_;rw[T8];refine J4 g1 r9 c4 w3 ?_;rw[T8];refine J4 g2 c0 b1 w4 ?_;rw[T8];refine J1 ty3 ?_;refine E1 (fun b8 _=>⟨O.na b8 _ _,d9.refl _ _⟩) ⟨O.low _,b3.ret b0⟩
end Go.Proofs.YtjlpdddmmnijoaaGreatDoor.Ve
namespace Go.Proofs.YtjlpdddmmnijoaaGreatDoor.Ve
open Go Go.RowKit
section
variable{P:Program}{K:Type}[DecidableEq K]
def Eu(P:Program)(kt:TypeId)(enc:K->Value):Prop:=(∀x y,sR P kt (enc x) (enc y)=some (decide (x=y)))/\∀x,bA P kt (enc x)=true
def yK(enc:K->Value)(l:List K):Blk:= .map (l.map fun x=>(enc x,.bool true))
def uP(k:K)(l:List K):Bool:=l.any fun x=>decide (k=x)
def ud{kt:TypeId}{enc:K->Value}(h:Eu P kt enc)(k:K):∀(l:List K)(i:Nat),∃q,lq P kt (enc k) (l.map fun x=>(enc x,.bool true)) i=some q/\((uP k l=true/\∃j,q=some (j,.bool true))\/(uP k l=false/\q=none))
 |[],i=>⟨none,rfl,.inr ⟨rfl,rfl⟩⟩
 |x::l,i=>by
  rw[List.map_cons,lq,h.1];by_cases u:k=x
  .simp only[u,decide_true];exact⟨_,rfl,.inl ⟨by simp [uP],_,rfl⟩⟩
  .simp only[u,decide_false];obtain⟨q,z,D⟩:=ud h k l (i+1);refine⟨q,z,?_⟩;have:uP k (x::l)=uP k l:=by simp [uP,u]
   rw[this];exact D
def ME{kt et:TypeId}{enc:K->Value}(h:Eu P kt enc)(D:ko P et=some (.bool false))(l:List K)(k:K):Fj P (some (kt,et)) (some (yK enc l)) (enc k) false=some (.bool (uP k l)):=by
 obtain⟨q,z,u⟩:=ud h k l 0;simp only[Fj,yK,h.2,if_true,z,D];rcases u with⟨u,j,rfl⟩|⟨u,rfl⟩<;>rw[u]<;>rfl
def PG{kt et:TypeId}{enc:K->Value}(h:Eu P kt enc)(l:List K)(k:K)(H:d7)(b:Nat)(D:uP k l=false):PT P (some (kt,et)) (some (yK enc l)) H b (enc k) (.bool true)=some (H.put b (yK enc (l++[k]))):=by
 obtain⟨q,z,u⟩:=ud h k l 0;rcases u with⟨u,j,rfl⟩|⟨u,rfl⟩
 .rw[D]at u;cases u
 .simp only[PT,yK,h.2,if_true,z,List.map_append,List.map_cons,List.map_nil]
def OD{kt:TypeId}(u:yR P kt=some [.int])(h:dX P kt=some false):Eu P kt (fun n:Int=>Value.int .i64 n):=by
 refine⟨fun x y=>?_,fun x=>?_⟩
 .have e:(x==y)=decide (x=y):=rfl;simp [sR,u,h,Q8,e]
 .simp [bA,u,h,aj,oX]
end
end Go.Proofs.YtjlpdddmmnijoaaGreatDoor.Ve
namespace Go.Proofs.YtjlpdddmmnijoaaGreatDoor.Ve
open Go Go.RowKit
open Go.Proofs.Tryz (prog)
def L8.same{α:Type}{sz lo:Nat}{E:d7->(Nat->Prop)->LV->α->Prop}{H H':d7}{v:Value}{l:List α}{G:Nat->Prop}(D:dK E)(h:L8 sz E lo H v l G)(J:H.n<=H'.n)(z:∀j,lo<=j->j<H.n->H'.g j=H.g j):L8 sz E lo H' v l G:=
 ⟨(h.own.imp fun cs e q=>D _ _ _ _ _ _ q (fun j u=>z j (h.fr j u).1 (h.fr j u).2.1) (fun _ h=>h)).same fun b I=>by have:=h.own.lt I;exact z b this.1 this.2,fun j u=>by have:=h.fr j u;exact⟨this.1,oM,this.2.2⟩⟩
structure Yi(mb:Nat)(Hb H:d7):Prop where
 n:Hb.n<=H.n
 g:∀j,j<Hb.n->j≠mb->H.g j=Hb.g j
abbrev kiE(n:Int):Value:=iV n
structure ROI(H0 Hb:d7)(mb lw:Nat)(H:d7)(w:Value)(L:List OpD)(G:Nat->Prop):Prop where
 out:L8 2 OpO Hb.n H w L G
 but:Yi mb Hb H
 st:d9 H0.n H0 H
 mp:H.g mb=some (yK kiE (L.map (·.1)))
 low:lw<=H.low
def vT(L:List OpD)(k:Int):uP k (L.map (·.1))=L.any (fun y=>decide (y.1=k)):=by
 rw[uP,List.any_map]
 congr 1
 funext y
 exact decide_eq_decide.2 ⟨fun h=>h.symm,fun h=>h.symm⟩
section
variable{q:Q}{r:ReD}(kc:KdC q r){Hs:d7}{lo K:Nat}
include kc
def Mc{H0 E:d7}{f6:LV}(rc:RcR Hs lo K r H0 f6){rb u:Nat}(gr:H0.g rb=cE f6 1)(m4:H0.n<=u)(k5:u<E.n)(lw:Nat)(m3:lw<=H0.n){l:List EvD}{v:Value}(dc:DcR lo l H0 v)(a:Nat)(ev:EvD)(ha:l[a]?=some ev)
  (fs bs:List OpD) (fv bv:Value) (e8:SlF E (fun j=>u<j/\j<E.n) 2 (OpO E (fun j=>u<j/\j<E.n)) bv bs) (lb:bs.length<=25) (n:Nat) (hn:n<=30) (kb:∀o∈bs,fG r n o)
  (i:Nat) (k3:i<=25) (f:OpD) (kf:fG r n f) (fp:Value) (d5:SlO E (fun j=>u<j/\j<E.n) 2 (y7 pkE) fp f.2) (fb:Nat) (m0:E.n<=fb) (R:List OpD):
  ∀kk e H2,(∃(j:Nat)(w:Value)(L:List OpD)(G:Nat->Prop),kk=bs.length-j/\j<=bs.length/\e.g 1=v/\e.g 2=iV a/\e.g 4=pT rb/\e.g 9=w/\e.g 10= .map (some u)/\e.g 11=bv/\e.g 13=pT fb/\e.g 42=fv/\e.g 43=iV fs.length/\e.g 44=iV i/\e.g 48=bv/\e.g 49=iV bs.length/\e.g 50=iV j/\
   ROI H0 E u lw H2 w L G/\H2.g fb=cE [iV f.1,fp] 1/\¬j8 w fb/\L.length<=i*25+j/\gM r ev f (bs.drop j) L=R)->
  u7 (LE prog l7 (.loop UK) e H2) (fun o e H2=>o= .exit 3/\∃(w:Value)(G:Nat->Prop),e.g 1=v/\e.g 2=iV a/\e.g 4=pT rb/\e.g 9=w/\e.g 10= .map (some u)/\e.g 11=bv/\e.g 42=fv/\e.g 43=iV fs.length/\e.g 44=iV i/\ROI H0 E u lw H2 w R G):=by
 refine i5 _ _ ?_;rintro kk e H2 ⟨j,w,L,G,hk,D,f1,f2,f4,f9,a4,b7,a5,b8,b9,c0,z,J,c3,hI,e9,c6,hL,fu⟩;have nHS:=hI.st.n;have nB:=hI.but.n;have n0:=hI.st.n;rcases b0:decide ((j:Int)<bs.length)with _|_
 .have h0:=dF b0;rw[dN oM]at fu;have g6:L=R:=fu;refine J3 J c3 b0 ?_;exact i6 ⟨rfl,w,G,f1,f2,f4,f9,a4,b7,b8,b9,c0,by rw[<-g6];exact hI⟩
 .have h0:=dT b0;obtain⟨ba,bc,U⟩:=e8.slice;have c9:=e8;rw[U]at c9;obtain⟨b,i3,ob,l1,k6,l4,i1,h4,h3,e6,h8,k4,W,l8,bp,h5,d4⟩:=c9.row (i:=j) oM;subst h3 h5;have i2:=kb b (mG i1);have l6:=e6.1;have b3:=(hI.but.g i3 e6.2 oM).trans h8;have tj:((j:Nat):Int).toNat=j:=tN j;have ta:((a:Nat):Int).toNat=a:=tN a;have l5:=(gS ha).1;obtain⟨va,vc,m6⟩:=dc.ev.slice;have i0:=u6 gr;obtain⟨H3,c4,n3,x3,-⟩:=pushE H2 (bC [iV 0,nS] 1);have e2:bp.oneCell'=true:=by
   obtain⟨aa,ac,rfl⟩:=d4.slf.slice;rfl
  obtain⟨H4,a6⟩:=eY (H3.put H2.n (bC [iV b.1,bp] 1));have n4:H4.n=H2.n+1:=by rw[a6,j9,n3]
  have x4:H4.g H2.n=cE [iV b.1,bp] 1:=by rw[a6];exact i9 oM
  have a9:d9 H2.n H2 H4:=by rw[a6,c4];exact(d9.push lR).trans (d9.put lR)
  have h6:=u6 e9;have O:=(a9.g fb h6).trans e9;have b1:=hI.st.trans (a9.wk n0);have j4:=rc.stay b1;have g2:=dc.stay b1;have d2:=(b1.g rb i0).trans gr;obtain⟨eb,eo,ec,l3,k1,el,c8,k2,d6,b4,m2,g7,g9,_⟩:=g2.row ha;have d3:=Tl kc j4 g7 g9 f.1 b.1;have m7:=rc.l12;have k0:=rc.one;obtain⟨rs,la,lc,a1,k7,a2,k8,a3,k9,q8,q9,n2,n8,m9,e4,_⟩:=rc.form;have I:=f1;rw[c8]at I;have e1:=(a9.g u oM).trans hI.mp;have f5:=OD (P:=prog) (kt:=3) ty3.2.2.2.2.2.1 ty3.2.2.2.2.1;have b5:=ME (P:=prog) (kt:=3) (et:=4) f5 ty4.2.2.2.1 (L.map (·.1)) (M0 r ev f.1 b.1);rw[h4,ml]at fu;have f3:=tJ r ev L f b;have e3:splice [iV 0,nS] 0 [iV b.1,bp]=[iV b.1,bp]:=rfl;have S:ROI H0 E u lw H4 w L G:=⟨hI.out.keep u9 a9,⟨oM,fun j D hm=>by rw[a9.g j oM];exact hI.but.g j D hm⟩,b1,e1,a9.lowAll _ oM hI.low⟩
  rcases d0:decide (M0 r ev f.1 b.1<0)with _|_
  .have e5:=dF d0;rw[vT]at b5;rcases b2:(L.any fun y=>decide (y.1=M0 r ev f.1 b.1))with _|_
   .have hp:gh r ev L f b=L++[(M0 r ev f.1 b.1,f.2++b.2)]:=by rw[gh,if_neg e5,eI];simp only;rw[b2,if_neg sM]
    rw[hp]at fu f3;rw[b2]at b5;obtain⟨H5,a8⟩:=eY (H4.put u (yK kiE (L.map (·.1)++[M0 r ev f.1 b.1])));have d1:=PG (P:=prog) (kt:=3) (et:=4) f5 (L.map (·.1)) (M0 r ev f.1 b.1) H4 u (by rw[vT];exact b2);rw[<-a8]at d1;have n5:H5.n=H4.n:=by rw[a8,j9]
    have z5:∀j,j≠u->H5.g j=H4.g j:=fun j D=>by rw[a8,j7 (fun q=>D q.symm)]
    have m5:H5.g u=some (yK kiE (L.map (·.1)++[M0 r ev f.1 b.1])):=by rw[a8];exact i9 oM
    have g3:=(z5 fb oM).trans O;have x5:=(z5 H2.n oM).trans x4;obtain⟨X,c5,n6,x6,-⟩:=pushE H5 (bC [fp,bp] 1);have z6:∀j,j<H5.n->X.g j=H5.g j:=fun j D=>by rw[c5];exact j5 D
    have b6:∀j,u<j/\j<E.n->X.g j=E.g j:=fun j D=>by rw[z6 j oM,z5 j oM];exact S.but.g j D.2 oM
    have pw:2 ^ n<=2 ^ 30:=Nat.pow_le_pow_right oM hn;have pe:(2:Nat) ^ 30=1073741824:=by decide
    have n1:=kf.2.2;have m8:=i2.2.2;have g5:SlI X X.n 2 (y7 pkE) fp f.2:=((d5.mono b6 (fun _ h=>h)).slf.sl (lo:=X.n) (fun j D=>oM))
    have f7:SlI X X.n 2 (y7 pkE) bp b.2:=((d4.mono b6 (fun _ h=>h)).slf.sl (lo:=X.n) (fun j D=>oM))
    obtain⟨v7,h7,H7,r7,j2,O7,s7⟩:=XM X H5.n 2 fp bp f.2 b.2 x6 g5 f7 oM;have n7:=s7.n;have O5:L8 2 OpO E.n H7 w L G:=(S.out.same (H':=X) u9 oM (fun j D m1=>by rw[z6 j oM,z5 j oM])).keep u9 s7;obtain⟨v9,h9,H9,r9,j3,O9,G9⟩:=O5.push (P:=prog) (t:=51) (a:=(M0 r ev f.1 b.1,f.2++b.2)) (cs:=[iV (M0 r ev f.1 b.1),v7]) (G2:=fun j=>X.n<=j/\j<H7.n) u9 (by exact IV.2.2.2.2.2.2) pE.1 pE.2.1 pE.2.2.1 oM oM rfl ⟨v7,rfl,O7.slo⟩ (fun j D=>⟨oM,D.2,fun q=>by have:=(S.out.lt q).2;omega⟩) oM oM;have n9:=G9.n;obtain⟨a7,c7,e7⟩:=O7.slice;have g1:v7.cells.toList=[v7]:=by rw[e7];rfl
    have j1:v7.oneCell'=true:=by rw[e7];rfl
    have z9:∀j,j<H2.n->j≠u->¬j8 w j->H9.g j=H4.g j:=fun j D hm hw=>by rw[G9.but j oM hw,s7.g j oM,z6 j oM,z5 j hm]
    have mw:¬j8 w u:=fun q=>oN (hI.out.lt q);have g8:ROI H0 E u lw H9 v9 (L++[(M0 r ev f.1 b.1,f.2++b.2)]) (fun j=>G j\/X.n<=j/\j<H7.n):=by
     refine⟨O9,⟨oM,fun j D hm=>?_⟩,⟨oM,fun k hk hq=>?_,fun j D=>?_⟩,?_,?_⟩
     .rw[z9 j oM hm (fun q=>by have:=hI.out.lt q;omega)];exact S.but.g j D hm
     .have h1:=b1.lowAll k hk hq;have h2:k<=X.low:=by rw[c5,l9,a8,A9];omega
      exact G9.stay.lowAll k oM (s7.lowAll k oM h2)
     .rw[z9 j oM oM (fun q=>by have:=hI.out.lt q;omega)];exact b1.g j D
     .rw[G9.but u oM mw,s7.g u oM,z6 u oM,m5,List.map_append];rfl
     .have h2:lw<=X.low:=by rw[c5,l9,a8,A9];have:=S.low;omega
      exact G9.stay.lowAll _ oM (s7.lowAll _ oM h2)
    have g4:H9.g fb=cE [iV f.1,fp] 1:=by rw[z9 fb oM oM c6];exact O
    have f0:¬j8 v9 fb:=fun q=>by
     rcases G9.new fb q with q|q
     .exact c6 q
     .omega
    have j0:fp.oneCell'=true:=by
     obtain⟨aa,ac,rfl⟩:=d5.slf.slice;rfl
    have g0:fp.cells.toList=[fp]:=by
     obtain⟨aa,ac,rfl⟩:=d5.slf.slice;rfl
    have f8:bp.cells.toList=[bp]:=by
     obtain⟨aa,ac,rfl⟩:=d4.slf.slice;rfl
    rw[U]at z;refine J30 I f2 f4 f9 a4 a5 z J c3 b0 tj ta b3 W e2 c4.symm x3 (aI e3 a6.symm) (aI x4 d2) (aI e4 d6) (aI b4 O) (aI d3 d0) (aI e1 b5) (aI d1 g3) (aI x5 c5.symm) (aI r7 j2) (aI j0 g0) (aI f8 g1) (aI j1 r9) (aI j3 @wrap_small) ?_;exact d8 (kk-1) oM ⟨j+1,v9,_,_,oM,oM,by rw[c8];exact I,f2,f4,rfl,a4,b7,a5,b8,b9,c0,by rw[U];exact z,J,rfl,g8,g4,f0,oM,fu⟩
   .have hp:gh r ev L f b=L:=by rw[gh,if_neg e5,eI];simp only;rw[b2,if_pos rfl]
    rw[hp]at fu;rw[b2]at b5;rw[U]at z;refine J29 I f2 f4 a4 a5 z J c3 b0 tj ta b3 W e2 c4.symm x3 e3 a6.symm x4 d2 e4 d6 b4 O d3 d0 e1 b5 @wrap_small ?_;exact d8 (kk-1) oM ⟨j+1,w,L,G,oM,oM,by rw[c8];exact I,f2,f4,f9,a4,b7,a5,b8,b9,c0,by rw[U];exact z,J,rfl,S,O,c6,oM,fu⟩
  .have hp:gh r ev L f b=L:=by rw[gh,if_pos (dT d0)]
   rw[hp]at fu;rw[U]at z;refine J26 I f2 f4 a5 z J c3 b0 tj ta b3 W e2 c4.symm x3 e3 a6.symm x4 d2 e4 d6 b4 O d3 d0 @wrap_small ?_;exact d8 (kk-1) oM ⟨j+1,w,L,G,oM,oM,by rw[c8];exact I,f2,f4,f9,a4,b7,a5,b8,b9,c0,by rw[U];exact z,J,rfl,S,O,c6,oM,fu⟩
end
section
variable{q:Q}{r:ReD}(kc:KdC q r){Hs:d7}{lo K:Nat}
section
include kc
def Ir{H0 h:d7}{b4:LV}(rc:RcR Hs lo K r H0 b4){rb u:Nat}(gr:H0.g rb=cE b4 1)(d3:H0.n<=u)(b3:u<h.n)(lw:Nat)(d2:lw<=H0.n){l:List EvD}{v:Value}(dc:DcR lo l H0 v)(a:Nat)(ev:EvD)(ha:l[a]?=some ev)
  (I bs:List OpD) (fv bv:Value) (a9:SlF h (fun j=>u<j/\j<h.n) 2 (OpO h (fun j=>u<j/\j<h.n)) fv I) (a6:SlF h (fun j=>u<j/\j<h.n) 2 (OpO h (fun j=>u<j/\j<h.n)) bv bs) (lf:I.length<=25) (lb:bs.length<=25) (n:Nat) (hn:n<=30) (kf:∀o∈I,fG r n o) (kb:∀o∈bs,fG r n o) (R:List OpD):
  ∀kk e H2,(∃(i:Nat)(w:Value)(L:List OpD)(G:Nat->Prop),kk=I.length-i/\i<=I.length/\e.g 1=v/\e.g 2=iV a/\e.g 4=pT rb/\e.g 9=w/\e.g 10= .map (some u)/\e.g 11=bv/\e.g 42=fv/\e.g 43=iV I.length/\e.g 44=iV i/\ROI H0 h u lw H2 w L G/\L.length<=i*25/\jt r ev (I.drop i) bs L=R)->
  u7 (LE prog l7 (.loop UL) e H2) (fun o e H2=>o= .exit 1/\∃(w:Value)(G:Nat->Prop),e.g 9=w/\ROI H0 h u lw H2 w R G):=by
 refine i5 _ _ ?_;rintro kk e H2 ⟨i,w,L,G,hk,hi,f1,f2,f4,f9,b5,a2,a3,W,X,E,hL,fu⟩;have n0:=E.st.n;have nB:=E.but.n;rcases b0:decide ((i:Int)<I.length)with _|_
 .have c6:=dF b0;rw[dN oM]at fu;have b6:L=R:=fu;refine J3 W X b0 ?_;exact i6 ⟨rfl,w,G,f9,by rw[<-b6];exact E⟩
 .have c6:=dT b0;obtain⟨fa,fc,b1⟩:=a9.slice;obtain⟨ba,bc,a7⟩:=a6.slice;have U:=a9;rw[b1]at U;obtain⟨f,d6,ob,e6,e5,e7,d4,c7,c9,a4,d1,e3,a1,e9,fp,c8,a8⟩:=U.row (i:=i) oM;subst c9 c8;have d5:=kf f (mG d4);have e8:=a4.1;have b2:=(E.but.g d6 a4.2 oM).trans d1;have ti:((i:Nat):Int).toNat=i:=tN i;obtain⟨H3,a5,n3,x3,-⟩:=pushE H2 (bC [iV 0,nS] 1);have e1:fp.oneCell'=true:=by
   obtain⟨aa,ac,rfl⟩:=a8.slf.slice;rfl
  obtain⟨H4,J⟩:=eY (H3.put H2.n (bC [iV f.1,fp] 1));have n4:H4.n=H2.n+1:=by rw[J,j9,n3]
  have x4:H4.g H2.n=cE [iV f.1,fp] 1:=by rw[J];exact i9 oM
  have D:d9 H2.n H2 H4:=by rw[J,a5];exact(d9.push lR).trans (d9.put lR)
  have e2:splice [iV 0,nS] 0 [iV f.1,fp]=[iV f.1,fp]:=rfl;have c5:ROI H0 h u lw H4 w L G:=⟨E.out.keep u9 D,⟨oM,fun j hj hm=>by rw[D.g j oM];exact E.but.g j hj hm⟩,E.st.trans (D.wk n0),(D.g u oM).trans E.mp,D.lowAll _ oM E.low⟩
  rw[c7,tB]at fu;have e4:=pu r ev f bs L;have d0:¬j8 w H2.n:=fun q=>oN (E.out.lt q);have S:=a3;rw[b1]at S;have O:=a2;rw[a7]at O;refine J13 O S W X b0 ti b2 a1 e1 a5.symm x3 e2 J.symm ?_;refine i8 (F:=fun z=>u7 (t7 (inBlock 2 (inBlock 3 z)) _) _) (Mc kc rc gr d3 b3 lw d2 dc a ev ha I bs fv bv a6 lb n hn kb i oM f d5 fp a8 H2.n nB (gM r ev f bs L) bs.length _ _ ⟨0,w,L,G,rfl,Nat.zero_le _,f1,f2,f4,f9,b5,a2,rfl,a3,W,X,a7.symm,rfl,rfl,c5,x4,d0,oM,rfl⟩) ?_;rintro o' e' H' ⟨ho,w',G',g1,g2,g4,g9,b7,b8,b9,c0,c3,c4⟩;refine J3 ho c3 @wrap_small ?_;exact d8 (kk-1) oM ⟨i+1,w',_,G',oM,oM,g1,g2,g4,g9,b7,b8,b9,c0,rfl,c4,oM,fu⟩
end
def rr(r:ReD)(Hs:d7)(lo K n:Nat):Prop:=∀(H:d7)(row:LV)(l:List EvD)(v:Value),RcR Hs lo K r H row->DcR lo l H v->∀(a p:Nat),a<=l.length->l.length<a+n->n<=31->(a<l.length->di l a 0=p)->
 Ret (CL prog l7 35 [.agg row.toArray,v,iV a,iV p] H) H (cj 2 OpO H (V8 r l n a p false))
def QM(r:ReD)(Hs:d7)(lo K n:Nat):Prop:=∀(H:d7)(row:LV)(l:List EvD)(v:Value),RcR Hs lo K r H row->DcR lo l H v->∀(a:Nat)(ev:EvD),l[a]?=some ev->ev.kind≠3->l.length<a+1+n->n<=31->
 Ret (CL prog l7 18 [.agg row.toArray,v,iV a] H) H (cj 2 OpO H (if ev.kind=2 then zO else V8 r l n (a+1) a false))
def QF(r:ReD)(Hs:d7)(lo K n:Nat):Prop:=∀(H:d7)(row:LV)(l:List EvD)(v:Value),RcR Hs lo K r H row->DcR lo l H v->∀(a:Nat)(ev:EvD),l[a]?=some ev->ev.kind≠3->l.length<a+1+n->1<=n->n<=31->
 Ret (CL prog l7 20 [.agg row.toArray,v,iV a] H) H (cj 2 OpO H (if di l a 0<0 then zO else V8 r l n (A6 l a) (di l a 0) (!F8 l a)))
def Kz{n:Nat}(ih:rr r Hs lo K n):QM r Hs lo K n:=by
 intro H U l v rc dc a ev ha a6 hn I;have b7:=(gS ha).1;obtain⟨eb,eo,ec,b5,a8,el,J,a9,a4,b0,E,b6,b8,a5⟩:=dc.row ha;obtain⟨H1,z,n1,g1,W⟩:=pushF H (bC U 1);have b1:H1.low=H.n:=by rw[z];rfl
 have b9:=dc.low;have u:=(W.g eb oM).trans a4;have h:=rc.one;have c0:=rc.l12;obtain⟨rs,la,lc,a1,b2,a2,b3,a3,b4,q8,q9,c5,c6,c3,a7,_⟩:=rc.form;have ta:((a:Nat):Int).toNat=a:=tN a;have c4:=dc.n30;rw[i7 Yu rfl _ sM];rcases d2:decide (ev.kind=2)with _|_
 .have e2:=dF d2;rw[if_neg e2];obtain⟨v',h',H2,O,S,⟨G,O2⟩,X⟩:=ih H1 U l v (rc.stay W) (dc.stay W) (a+1) a oM oM I (fun _=>by rw[di,ha];simp only;rw[if_neg a6,if_pos oM,if_pos trivial]);subst J;have e1:((a+1:Nat):Int)=(a:Int)+1:=oM;rw[e1]at O;refine J11 h z.symm g1 u ta E d2 a7 O S @wrap_small ?_;exact S8 u9 (O2.wk oM) (W.trans (X.wk oM)) (X.lowAll _ oM oM)
 .rw[if_pos (dT d2)];obtain⟨H2,D,-,-,X⟩:=pushE H1 (bC [iV 0,nS] 2);have hO:=pH H1 H.n 1 oM;rw[<-D]at hO;subst J;refine J7 h z.symm u ta E d2 D.symm ?_;exact kN u9 hO (W.trans (X.wk oM)) (X.lowAll _ oM oM)
include kc
def PX{n:Nat}(ih:rr r Hs lo K n):QF r Hs lo K n:=by
 intro H a5 l v rc dc a ev ha d1 hn d4 a8;have d3:=kc.wf.l1;have X:=(gS ha).1;obtain⟨eb,eo,ec,c7,b7,el,d6,b9,d0,c0,d2,c8,c9,b4⟩:=dc.row ha;have a7:ev.kind=1\/ev.kind=2:=oM;obtain⟨O,I,e3,g1,s1⟩:=pushF H (bC a5 1);have c3:O.low=H.n:=by rw[I];rfl
 have E:=rc.one;have e1:=rc.l12;have J:=rc.stay s1;have u:=dc.stay s1;have e4:=dc.n30;have hb:=dc.pos;obtain⟨rs,la,lc,a1,c4,a2,c5,a3,c6,q8,q9,e5,e6,e2,b1,_⟩:=rc.form;have D:=DW O lo v l u.low u.ev oM a oM;have z:=Mp O lo v l u.low u.ev u.cap oM a X;have U:=yH O lo v l u.low u.ev oM a oM;have hE:a+P4 (l.drop a) 0=A6 l a:=rfl;rw[hE]at U;have S:=T2 l (Nat.le_of_lt X);have b8:=aY X;rw[i7 Yw rfl _ sM];rcases dp:decide (di l a 0<0)with _|_
 .have b2:=dF dp;rw[if_neg b2];obtain⟨p,hp⟩:=Int.eq_ofNat_of_zero_le (show 0<=di l a 0 from oM);rw[hp]at D dp ⊢;obtain⟨_,b3,d5⟩:=F6 dc.beg ha a7;rcases a4:F8 l a with _|_
  .obtain⟨m,rfl⟩:∃m,n=m+1:=⟨n-1,oM⟩
   rw[a4]at z;obtain⟨v',h',H2,b6,b0,⟨G,O2⟩,W⟩:=Qz _ _ r O a5 J.hR J.l12 J.one oM p;refine J9 E I.symm D dp z g1 b1 b6 b0 ?_;have hz:V8 r l (m+1) (A6 l a) p true=Nt r p:=by rw[V8,Bool.true_or,if_pos rfl]
   rw[hz];exact S8 u9 (O2.wk oM) (s1.trans (W.wk oM)) (W.lowAll _ oM oM)
  .rw[a4]at z;have hS:=(b3 a4).1;obtain⟨v',h',H2,b5,a9,⟨G,O2⟩,W⟩:=ih O a5 l v J u (A6 l a) p S oM a8 (fun h=>by rw[jV hb _ 0 S,hS,<-jV hb a 0 oM,hp]);refine J10 E I.symm D dp z g1 b1 U b5 a9 ?_;exact S8 u9 (O2.wk oM) (s1.trans (W.wk oM)) (W.lowAll _ oM oM)
 .rw[if_pos (dT dp)];obtain⟨H2,a6,-,-,W⟩:=pushE O (bC [iV 0,nS] 2);have hO:=pH O H.n 1 oM;rw[<-a6]at hO;refine J5 E I.symm D dp a6.symm ?_;exact kN u9 hO (s1.trans (W.wk oM)) (W.lowAll _ oM oM)
def DQ{n:Nat}(ih:rr r Hs lo K n):rr r Hs lo K (n+1):=by
 intro H a4 l v rc dc a p ha hn e2 b5;obtain⟨m,hg⟩:=kc.gr;have f3:=kc.wf.l1;obtain⟨D,S,n1,g1,s1⟩:=pushF H (bC a4 1);have e4:D.low=H.n:=by rw[S];rfl
 have f4:=dc.low;have I:=rc.one;have f5:=rc.l12;have J:=rc.stay s1;have a7:=dc.stay s1;obtain⟨rs,la,lc,a1,e5,a2,e6,a3,e7,q8,q9,f8,f9,f6,c4,_⟩:=rc.form;have ta:((a:Nat):Int).toNat=a:=tN a;have f7:=dc.n30;obtain⟨va,vc,c7⟩:=dc.ev.slice;rw[i7 Sd rfl _ sM,V8];rw[Bool.false_or];by_cases hm:decide (l.length<=a)=true
 .rw[if_pos hm];have U:a=l.length:=oN (dT hm);have d:decide ((a:Int)=l.length)=true:=decide_eq_true oM;obtain⟨v',h',H2,d0,c0,⟨G,O2⟩,O⟩:=Qz _ _ r D a4 J.hR J.l12 J.one oM p;subst c7;refine J7 I S.symm d g1 c4 d0 c0 ?_;exact S8 u9 (O2.wk oM) (s1.trans (O.wk oM)) (O.lowAll _ oM oM)
 .rw[if_neg hm];have U:a<l.length:=by simpa using hm
  obtain⟨ev,he,hd⟩:=B8 U;obtain⟨eb,eo,ec,e8,d5,el,b6,d6,b3,e1,b4,f1,f2,c6⟩:=a7.row he;have dl:decide ((a:Int)=l.length)=false:=decide_eq_false oM;rw[he];simp only;by_cases e3:ev.kind=3
  .rw[if_pos e3];have d3:decide (ev.kind=3)=true:=decide_eq_true e3;obtain⟨H2,u,-,-,O⟩:=pushE D (bC [iV 0,nS] 2);have hO:=pH D H.n 1 oM;rw[<-u]at hO;subst b6;refine J8 I S.symm dl b3 ta b4 d3 u.symm ?_;exact kN u9 hO (s1.trans (O.wk oM)) (O.lowAll _ oM oM)
  .rw[if_neg e3];have d3:decide (ev.kind=3)=false:=decide_eq_false e3;have hp:=b5 U;obtain⟨H2,u,-,-,O⟩:=pushE D (.map []);have n2:H2.n=H.n+2:=by rw[u,i4,n1]
   have m2:H2.g D.n=some (yK kiE []):=by rw[u];exact j6
   have c3:=J.stay O;have b0:=a7.stay O;have hE:=aY U;cases n with
   |zero=>omega
   |succ n'=>
   obtain⟨d4,f0,H3,c9,b9,⟨Gb,Ob⟩,s3⟩:=PX kc ih H2 a4 l v c3 b0 a ev he e3 oM oM oM;rw[hp,if_neg oM]at Ob;have n3:=s3.n;have d1:=c3.stay s3;have c5:=b0.stay s3;obtain⟨d2,e9,E,c8,b8,⟨Gf,Of⟩,s4⟩:=Kz ih H3 a4 l v d1 c5 a ev he e3 oM oM;have n4:=s4.n;have g2:=(O.g H.n oM).trans g1;have g3:=(s3.g H.n oM).trans g2;have a9:d9 H2.n H2 E:=s3.trans (s4.wk oM);have m4:=(a9.g D.n oM).trans m2;have b7:H.n<=E.low:=a9.lowAll _ oM (O.lowAll _ oM oM);obtain⟨fs,X⟩:=eY ((if ev.kind=2 then zO else V8 r l (n'+1) (a+1) a false));obtain⟨bs,W⟩:=eY (V8 r l (n'+1) (A6 l a) p (!F8 l a));rw[<-X]at Of;rw[<-W]at Ob;rw[<-X,<-W];have lf:fs.length<=25:=by
    rw[X];split
    .decide
    .have:=ij hg l (n'+1) (a+1) a false;omega
   have lb:bs.length<=25:=by have:=ij hg l (n'+1) (A6 l a) p (!F8 l a);rw[W];omega
   have kf:∀o∈fs,fG r (n'+1) o:=by
    rw[X];split
    .exact xh hg _
    .exact fh hg l _ _ _ _
   have kb:∀o∈bs,fG r (n'+1) o:=by rw[W];exact fh hg l _ _ _ _
   have a6:∀{x:Value}{os:List OpD}{F:Nat->Prop},SlF E F 2 (OpO E F) x os->(∀j,F j->H2.n<=j/\j<E.n)->SlF E (fun j=>D.n<j/\j<E.n) 2 (OpO E (fun j=>D.n<j/\j<E.n)) x os:=fun h hF=>h.mono (fun _ _=>rfl) (fun j hj=>by have:=hF j hj;omega) (fun cs o q=>u9 _ _ _ _ _ _ q (fun _ _=>rfl) (fun j hj=>by have:=hF j hj;omega));have a5:=a6 (Of.slf u9) (fun j hj=>oM);have b1:=a6 ((Ob.keep u9 s4).slf u9) (fun j hj=>oM);have hI:ROI D E D.n H.n E (nS) [] (fun _=>False):=⟨L8.nil,⟨lR,fun _ _ _=>rfl⟩,O.trans (a9.wk oM),m4,b7⟩
   obtain⟨fa,fc,b2⟩:=a5.slice;subst b6;refine J16 I S.symm dl b3 ta b4 d3 u.symm g2 g3 c4 c9 b9 c8 b8 b2 ?_;refine i8 (F:=fun z=>Ret (t6 _ _ _ (t7 (inBlock 1 z) _)) _ _) (Ir kc J g1 lR oM H.n oM a7 a ev he fs bs d2 d4 a5 b1 lf lb (n'+1) oM kf kb (jt r ev fs bs []) fs.length _ _ ⟨0,_,[],_,rfl,Nat.zero_le _,rfl,rfl,rfl,rfl,rfl,rfl,b2.symm,rfl,rfl,hI,Nat.zero_le _,rfl⟩) ?_;rintro o' e' H' ⟨ho,w,G,h9,a8⟩;refine J2 ho h9 ?_;exact S8 u9 (a8.out.wk oM) (s1.trans (a8.st.wk oM)) a8.low
def Ml:∀n,rr r Hs lo K n
 |0=>fun H h l v E u a p z D _ _=>oM
 |n+1=>DQ kc (Ml n)
def Fv{H:d7}{u:LV}{l:List EvD}{v:Value}(J:RcR Hs lo K r H u)(D:DcR lo l H v){a:Nat}{ev:EvD}(E:l[a]?=some ev)(z:ev.kind≠3):
  Ret (CL prog l7 18 [.agg u.toArray,v,iV a] H) H (cj 2 OpO H (eD r l a)):=by
 have I:=D.n30;have h:=Kz (Ml kc (l.length+1)) H u l v J D a ev E z oM oM;rw[eD,E];exact h
def wJ{H:d7}{h:LV}{l:List EvD}{v:Value}(I:RcR Hs lo K r H h)(z:DcR lo l H v){a:Nat}{ev:EvD}(D:l[a]?=some ev)(u:ev.kind≠3):
  Ret (CL prog l7 20 [.agg h.toArray,v,iV a] H) H (cj 2 OpO H (ak r l a)):=by
 have E:=z.n30;exact PX kc (Ml kc (l.length+1)) H h l v I z a ev D u oM oM oM
end
abbrev FI(H:d7)(v:Value)(l:List OpD):Prop:=SlI H H.n 2 (OpO H (· <H.n)) v l
def XG(x:Int×Int):L3 prog .neq 65 (.agg (pkE x).toArray) (.agg (pkE x).toArray)=some (.bool false):=by
 rw[pK];have:qq prog 65=some [V7.int,V7.int]:=du.2.2.2.2.2.2.2.1;rw[this,zX];simp [pkE,Ra,JN]
def Md(H0:d7)(va vb:Option Addr)(O S:Nat)(l:List (Int×Int))(ha:SlI H0 H0.n 2 (y7 pkE) (.slice va l.length O) l)(hb:SlI H0 H0.n 2 (y7 pkE) (.slice vb l.length S) l)(hn:l.length<=4294967296):
  ∀J e H2,(∃i:Nat,J=l.length-i/\i<=l.length/\e.g 0= .slice va l.length O/\e.g 1= .slice vb l.length S/\e.g 5=iV i/\H2=H0)->
  u7 (LE prog l7 (.loop UJ) e H2) (fun o e H2=>H2=H0/\o= .exit 0):=by
 refine i5 _ _ ?_;rintro J e H2 ⟨i,hk,hi,z,U,W,rfl⟩;rcases b:decide ((i:Int)<l.length)with _|_
 .have D:=dF b;refine J3 z W b ?_;exact i6 ⟨rfl,rfl⟩
 .have D:=dT b;obtain⟨x,nb,o,cs,own,el,hx,hd,rfl,hF,hg,a7,u,hc,rfl⟩:=ha.row (i:=i) oM;obtain⟨y,a8,o2,a2,a1,a3,hy,a6,rfl,a4,E,X,h,a5,rfl⟩:=hb.row (i:=i) oM;rw[hx]at hy;cases hy;have nt:((i:Nat):Int).toNat=i:=tN i;have I:=XG x;refine J11 z U W b nt hg u E h I @wrap_small ?_;exact d8 (J-1) oM ⟨i+1,oM,oM,z,U,rfl,rfl⟩
def XK(H:d7)(D E:Value)(l:List (Int×Int))(h:SlI H H.n 2 (y7 pkE) D l)(u:SlI H H.n 2 (y7 pkE) E l)(U:l.length<=4294967296):CL prog l7 34 [D,E] H=some (.bool true,none):=by
 obtain⟨I,J,rfl⟩:=h.slice;obtain⟨O,S,rfl⟩:=u.slice;have d:decide ((l.length:Int)=l.length)=true:=decide_eq_true rfl;rw[i7 WQ rfl _ sM];refine J1 oz ?_;refine i8 (F:=fun z=>t6 _ _ _ (t7 (inBlock 0 z) _)=_) (Md ⟨H.bs,H.n⟩ I O J S l (h.mono (fun _ _=>rfl) lR iF) (u.mono (fun _ _=>rfl) lR iF) U l.length _ _ ⟨0,rfl,Nat.zero_le _,rfl,rfl,rfl,rfl⟩) ?_;rintro X e' H' ⟨rfl,W⟩;exact J1 W trivial
def II(H0:d7)(va vb:Option Addr)(ca cb:Nat)(l:List OpD)(ha:FI H0 (.slice va l.length ca) l)(hb:FI H0 (.slice vb l.length cb) l)(hn:l.length<=1000000)(hp:∀o∈l,o.2.length<=4294967296):
  ∀W e H2,(∃i:Nat,W=l.length-i/\i<=l.length/\e.g 0= .slice va l.length ca/\e.g 1= .slice vb l.length cb/\e.g 5=iV i/\H2=H0)->
  u7 (LE prog l7 (.loop Uw) e H2) (fun o e H2=>H2=H0/\o= .exit 0):=by
 refine i5 _ _ ?_;rintro W e H2 ⟨i,hk,hi,u,f1,f5,rfl⟩;rcases b:decide ((i:Int)<l.length)with _|_
 .have E:=dF b;refine J3 u f5 b ?_;exact i6 ⟨rfl,rfl⟩
 .have E:=dT b;obtain⟨x,nb,o,cs,own,el,hx,hd,rfl,hF,hg,a8,a2,hc,xp,rfl,S⟩:=ha.row (i:=i) oM;obtain⟨y,a9,o2,a4,a3,a5,hy,a7,rfl,a6,I,a1,O,h,yp,rfl,U⟩:=hb.row (i:=i) oM;rw[hx]at hy;cases hy;have nt:((i:Nat):Int).toNat=i:=tN i;have D:=XK H2 xp yp x.2 (S.slf.sl (fun j J=>J)) (U.slf.sl (fun j J=>J)) (hp x (mG hx));have X:=hc 0 oM;have c1:=hc 1 oM;have d0:=h 0 oM;have d1:=h 1 oM;have e0:∀z,([iV x.1,z]:LV)[0]?=some (.int .i64 x.1):=fun _=>rfl;have e1:∀z,([iV x.1,z]:LV)[1]?=some z:=fun _=>rfl;rw[e0,Nat.add_zero]at X d0;rw[e1]at c1 d1;have hd:decide (x.1=x.1)=true:=decide_eq_true rfl;refine J13 u f1 f5 b nt hg X I d0 c1 d1 D @wrap_small ?_;exact d8 (W-1) oM ⟨i+1,oM,oM,u,f1,rfl,rfl⟩
def Mt(H:d7)(E I:Value)(l:List OpD)(u:FI H E l)(D:FI H I l)(W:l.length<=1000000)(hp:∀o∈l,o.2.length<=4294967296):CL prog l7 17 [E,I] H=some (.bool true,none):=by
 obtain⟨J,O,rfl⟩:=u.slice;obtain⟨S,U,rfl⟩:=D.slice;have d:decide ((l.length:Int)=l.length)=true:=decide_eq_true rfl;rw[i7 WJ rfl _ sM];refine J1 IV ?_;refine i8 (F:=fun z=>t6 _ _ _ (t7 (inBlock 0 z) _)=_) (II ⟨H.bs,H.n⟩ J S O U l (u.mono (fun _ _=>rfl) lR (fun _ _ h=>u9 _ _ _ _ _ _ h (fun _ _=>rfl) (fun _ h=>h))) (D.mono (fun _ _=>rfl) lR (fun _ _ h=>u9 _ _ _ _ _ _ h (fun _ _=>rfl) (fun _ h=>h))) W hp l.length _ _ ⟨0,rfl,Nat.zero_le _,rfl,rfl,rfl,rfl⟩) ?_;rintro o' e' H' ⟨rfl,X⟩;exact J1 X trivial
def CC(r:ReD):Bool:=r.size.all (fun x=>decide (x<=15))&&decide (r.sorts.length<=9)
def Kt(z:d7)(W:Nat)(E:LV)(O:z.g W=cE E 1)(va:Option Addr)(X:Nat)(l:List Int)(u:E[10]?=some (.slice va l.length X))(hv:SlI z z.n 1 (y7 inE) (.slice va l.length X) l)(hn:l.length<=1000000)(r:Bool):
  ∀U e H2,(∃i:Nat,U=l.length-i/\i<=l.length/\e.g 1=pT W/\e.g 3=iV i/\H2=z/\(l.drop i).all (fun x=>decide (x<=15))=r)->
  u7 (LE prog l7 (.loop UI) e H2) (fun o e H2=>H2=z/\((o= .exit 0/\e.g 1=pT W/\r=true)\/(o= .ret/\e.g 2= .bool false/\r=false))):=by
 refine i5 _ _ ?_;rintro U e H2 ⟨i,hk,hi,D,J,rfl,h⟩;rcases b:decide ((i:Int)<l.length)with _|_
 .have S:=dF b;rw[dN oM]at h;refine J5 D J O u b ?_;exact i6 ⟨rfl,.inl ⟨rfl,D,h.symm⟩⟩
 .have S:=dT b;obtain⟨x,nb,o,cs,own,el,hx,hd,rfl,hF,hg,a2,a1,hc,rfl⟩:=hv.row (i:=i) oM;have nt:((i:Nat):Int).toNat=i:=tN i;have I:=hc 0 oM;rw[Nat.add_zero,Nat.mul_one]at I;rw[hd,List.all_cons]at h;rcases d:decide (15<x)with _|_
  .have d':=dF d;rw[decide_eq_true (show x<=15 from oM),Bool.true_and]at h;refine J11 D J O u b nt hg I d @Nat.mul_one @wrap_small ?_;exact d8 (U-1) oM ⟨i+1,oM,oM,D,rfl,rfl,h⟩
  .have d':=dT d;rw[decide_eq_false (show¬x<=15 from oM),Bool.false_and]at h;refine J10 D J O u b nt hg I d @Nat.mul_one ?_;exact y9 ⟨rfl,.inr ⟨rfl,rfl,h.symm⟩⟩
def XJ{Hs:d7}{lo K:Nat}{r:ReD}{H:d7}{h:LV}(rc:RcR Hs lo K r H h)(hn:r.sorts.length<=25)(a8:r.size.length<=25):CL prog l7 33 [.agg h.toArray] H=some (.bool (CC r),none):=by
 obtain⟨rs,la,lc,a1,a4,a2,I,a3,a5,q8,q9,S,b2,b1,b3,b0,a7,a9,O,a6⟩:=rc.form;obtain⟨U,D,n1,W,s1⟩:=pushF H (bC h 1);have X:H.n<=U.low:=by rw[D];exact lR
 have u:=rc.one;rw[i7 WP rfl _ sM,CC];refine J2 u D.symm ?_;refine i8 (F:=fun z=>t6 _ _ _ (t7 (inBlock 0 z) _)=_) (Kt U H.n h W a2 I r.size S (O.mono (fun j hj=>s1.g j hj) oM iF) oM _ r.size.length _ _ ⟨0,rfl,Nat.zero_le _,rfl,rfl,rfl,rfl⟩) ?_;rintro o' e' H' ⟨rfl,⟨J,f1,E⟩|⟨J,h2,E⟩⟩
 .rw[List.drop_zero]at E;have e9:decide ((r.sorts.length:Int)<=9)=decide (r.sorts.length<=9):=decide_eq_decide.2 oM;exact J6 J f1 E W q9 e9 trivial
 .rw[List.drop_zero]at E;exact J3 J h2 E trivial
def Mx(H:d7)(lo:Nat)(v:Value)(l:List EvD)(I:lo<=H.n)(W:N8 H lo v l)(hn:l.length<=1048576):∃t:Bool,CL prog l7 9 [v] H=some (.bool t,none)/\(t=true->0<l.length/\l.length<=30/\C1 l=true):=by
 obtain⟨va,vc,S⟩:=W.slice;have J:N8 ⟨H.bs,H.n⟩ lo v l:=W.mono (fun _ _=>rfl) lR;obtain⟨t,D⟩:=Pr ⟨H.bs,H.n⟩ lo v l I J oM;have z:=kQ ⟨H.bs,H.n⟩ lo v l I J oM;subst S;rw[i7 fn9 rfl _ sM];rcases E:decide ((0:Int)<l.length)with _|_
 .refine⟨false,?_,fun h=>by cases h⟩;exact J1 E trivial
 rcases u:decide ((l.length:Int)<=30)with _|_
 .refine⟨false,?_,fun h=>by cases h⟩;exact J2 E u trivial
 cases t with
 |false=>
  refine⟨false,?_,fun h=>by cases h⟩;exact J3 E u D trivial
 |true=>
  rcases O:C1 l with _|_
  .rw[O,if_neg sM]at z;refine⟨false,?_,fun h=>by cases h⟩;have d:decide ((0:Int)<= -1)=false:=rfl;exact J4 E u D z trivial
  .rw[O,if_pos rfl]at z;have d:decide ((0:Int)<=dep 0 l)=true:=decide_eq_true (kq O).1;have X:=dT E;have U:=dT u;refine⟨true,?_,fun _=>⟨oM,oM,rfl⟩⟩;exact J5 E u D z d trivial
def RcR.lowH{z:d7}{lo K:Nat}{r:ReD}{H:d7}{u:LV}(h:RcR z lo K r H u)(n:Nat):RcR z lo K r ⟨H.bs,n⟩ u:=
 ⟨h.hR.mono (fun _ _=>rfl) (fun _ h=>h),h.l12,h.one,h.low,h.eq⟩
def Yk(H:d7)(lo K:Nat)(q:Q)(v:Value)(H':d7):Prop:=∃row t,v= .tuple #[.agg row.toArray,.bool t]/\row.length=12/\row.all Value.oneCell'=true/\d9 H.n H H'/\(t=true->∃Hs r,KdC q r/\CC r=true/\RcR Hs lo K r H' row)
def yz{P:Program}(e:Env)(H:d7)(a:Nat)(t:TypeId)(b:Nat):[ResultVar.cell a t,ResultVar.tmp b].mapM (P2 P e H)=(ld P t H (e.g a)).map fun v=>[v,e.g b]:=by
 simp only[List.mapM_cons,List.mapM_nil,P2];cases ld P t H (e.g a)<;>rfl
def qX(K:Nat)(H:d7)(lo:Nat)(cs:LV)(q:Q)(e3:lo<=H.n)(hr:QR H lo K false cs q):
  Ret (CL prog gR 16 [.agg cs.toArray] H) H (Yk H lo K q):=by
 have ac:=I6 hr;have ldc:=Q6 hr;have l0:=hr.len;simp only[qSz,bF]at l0;rw[l0]at ldc;obtain⟨H1,a4,n1,g1,s1⟩:=pushF H (bC cs 1);obtain⟨H2,z⟩:=eY (H1.push (bC z12 1));have n2:H2.n=H.n+2:=by rw[z,i4,n1]
 have s2:d9 H.n H H2:=s1.trans (by rw[z];exact d9.push oM);have g2:H2.g H.n=cE cs 1:=by rw[z,j5 oM];exact g1
 have x2:H2.g (H.n+1)=cE z12 1:=by rw[z,<-n1];exact j6
 have d6:H2.low=H.n:=by rw[z,l9,a4];rfl
 have b6:QR H2 lo K false cs q:=hr.mono (fun j J=>s2.g j oM) lR;have U:=I4 (DN H2 lo K cs q oM b6);have zz:z12.length=12:=rfl;have b1:splice z12 0 z12=z12:=rfl;have e1:z12.all oC=true:=rfl;have b0:ldC (some true) (some 12) 0 z12=some (.agg z12.toArray):=rfl;obtain⟨H3,O⟩:=eY (H2.put (H.n+1) (bC z12 1));have n3:H3.n=H.n+2:=by rw[O,j9,n2]
 have x3:H3.g (H.n+1)=cE z12 1:=by rw[O];exact i9 oM
 have s3:d9 H.n H H3:=s2.trans (by rw[O];exact d9.put oM);have b2:H.n<=H3.low:=by rw[O,A9];omega
 simp only[z12]at z x2 O x3 b1 b0;rw[i7 Yt rfl _ sM];rcases b:jX q with _|_
 .rw[b]at U;refine J13 ac a4.symm n1 z.symm g2 ldc U x2 b1 O.symm x3 b0 @yz ?_;exact cn (fun _=>⟨z12,false,rfl,rfl,rfl,d9.refl _ _,fun h=>by cases h⟩) ⟨z12,false,rfl,rfl,rfl,s3.ret b2,fun h=>by cases h⟩
 obtain⟨b5,hn⟩:=mg b;have X:=I4 (DL H2 lo K cs q oM b6 b5 oM);rw[b]at U;rcases bl:ye q with _|_
 .rw[bl]at X;refine J14 ac a4.symm n1 z.symm g2 ldc U X x2 b1 O.symm x3 b0 @yz ?_;exact cn (fun _=>⟨z12,false,rfl,rfl,rfl,d9.refl _ _,fun h=>by cases h⟩) ⟨z12,false,rfl,rfl,rfl,s3.ret b2,fun h=>by cases h⟩
 rw[bl]at X;obtain⟨v,h,S,b9,b4,u,er,rfl,s4,E⟩:=Fl K H2 lo cs q oM b6 b5 oM;have n4:=s4.n;obtain⟨H5,a5,n5,x5,-⟩:=pushE S (bC z12 1);obtain⟨H6,W⟩:=eY (H5.put S.n (bC u 1));have n6:H6.n=S.n+1:=by rw[W,j9,n5]
 have x6:H6.g S.n=cE u 1:=by rw[W];exact i9 oM
 have a7:d9 S.n S H6:=by rw[W,a5];exact(d9.push lR).trans (d9.put lR)
 have y6:H6.g (H.n+1)=cE z12 1:=by rw[a7.g _ oM,s4.g _ oM];exact x2
 obtain⟨H7,D⟩:=eY (H6.put (H.n+1) (bC u 1));have n7:H7.n=S.n+1:=by rw[D,j9,n6]
 have x7:H7.g (H.n+1)=cE u 1:=by rw[D];exact i9 oM
 have c8:d9 H.n H H7:=s2.trans ((s4.wk oM).trans ((a7.wk oM).trans (by rw[D];exact d9.put oM)));have b3:H.n<=H7.low:=by
  have:H.n<=H6.low:=a7.lowAll _ oM (s4.lowAll _ oM oM);rw[D,A9];omega
 rcases E with⟨E,rfl,rfl⟩|⟨r,E,rfl,c7,hR⟩
 .simp only[z12]at a5 x5 W x6 D x7 y6 b9;refine J20 ac a4.symm n1 z.symm g2 ldc U X b9 b4 a5.symm x5 b1 W.symm x6 b0 y6 D.symm x7 @yz ?_;exact cn (fun _=>⟨z12,false,rfl,rfl,rfl,d9.refl _ _,fun h=>by cases h⟩) ⟨z12,false,rfl,rfl,rfl,c8.ret b3,fun h=>by cases h⟩
 .have kc:KdC q r:=by
   obtain⟨_,_,l,hl,a8⟩:=dR E;exact⟨b5,oM,E,c7,by rw[a8];exact mZ hr b hl⟩
  have d1:∀j,jx H2 j->j≠H.n+1:=fun j J q=>by
   rcases J with J|J
   .omega
   .exact J _ _ (q▸x2)
  have c4:fH S (· <S.n) (QR H2 lo K false) (QR H2 lo K true) u r:=hR.mono (fun _ _=>rfl) (fun j J=>J.1);have a6:u.length=12/\u.all oC=true/\u.all na0=false:=by
   obtain⟨rs,vl,w1,w2,w3,I,b8,a8,b7,c6,c5⟩:=id c4;obtain⟨pa,pc,ga,gc,xa,xc,ea,ec,ta,tc,a9,_⟩:=I0 b8;obtain⟨a1,c1,rfl⟩:=b7.slice;obtain⟨a2,c2,rfl⟩:=c6.slice;obtain⟨a3,c3,rfl⟩:=c5.slice;obtain⟨la,lc,rfl⟩:=a8.slice;have e2:=c7.l0;obtain⟨_,nb,o,_,_,_,_,_,q,_⟩:=(show SlI S S.n 3 (y7 soE) (.slice a1 r.sorts.length c1) r.sorts from b7).row (i:=0) oM;subst q;refine⟨by rw[I,a9];rfl,by rw[I,a9];rfl,?_⟩;rw[I];simp [na0]
  have c0:RcR H2 lo K r S u:=⟨c4,a6.1,a6.2.1,oM,fun j J=>s4.g j oM⟩
  have d3:=c0.stay a7;have z7:∀j,j<S.n->j≠H.n+1->H7.g j=S.g j:=fun j J hm=>by rw[D,j7 (fun q=>hm q.symm),a7.g j J]
  have d4:RcR H2 lo K r H7 u:=⟨hR.mono (fun j J=>z7 j J.1 (d1 j J.2)) (fun j J=>by have:=J.1;omega),a6.1,a6.2.1,oM,fun j J=>by rw[z7 j oM oM];exact s4.g j oM⟩
  have d0:=I4 (XJ d3 kc.wf.l1 (by rw[kc.wf.l2];exact kc.wf.l1));have lr:=c0.l12;have ar:=c0.one;have c9:splice z12 0 u=u:=by
   obtain⟨rs,vl,w1,w2,w3,I,b8,a8,b7,c6,c5⟩:=id hR;obtain⟨pa,pc,ga,gc,xa,xc,ea,ec,ta,tc,a9,_⟩:=I0 b8;rw[I,a9];rfl
  have d5:u.take 12=u:=List.take_of_length_le oM;simp only[z12]at a5 x5 c9 y6;refine J23 ac a4.symm n1 z.symm g2 ldc U X b9 b4 a5.symm x5 c9 lr ar d5 W.symm x6 d0 y6 D.symm x7 @yz ?_;refine cn (fun d2=>?_) ⟨u,CC r,rfl,lr,ar,c8.ret b3,fun hf=>⟨H2,r,kc,hf,d4.lowH _⟩⟩
  exfalso
  have h1:u.all na0=true:=d2;rw[a6.2.2]at h1;cases h1
def RcR.here{S:d7}{lo K:Nat}{r:ReD}{H:d7}{z:LV}(h:RcR S lo K r H z):RcR H H.n K r H z:=by
 obtain⟨X,vl,w1,w2,w3,u,J,E,I,O,D⟩:=h.hR;have U:∀f cs a,QR S lo K f cs a->QR H H.n K f cs a:=fun f cs a q=>q.mono (fun j W=>h.eq j W) h.low;exact⟨⟨X,vl,w1,w2,w3,u,J.mono (fun _ _=>rfl) (fun _ h=>h) (U false) (U true),E,I,O,D⟩,h.l12,h.one,lR,fun _ _=>rfl⟩
def RcR.of{D:d7}{lo K:Nat}{r:ReD}{H:d7}{z:LV}(X:fH H (· <H.n) (QR D lo K false) (QR D lo K true) z r)(a4:1<=r.sorts.length)(O:lo<=H.n)(E:∀j,j<lo->H.g j=D.g j):RcR D lo K r H z:=by
 obtain⟨rs,vl,w1,w2,w3,h,U,J,S,W,I⟩:=id X;obtain⟨pa,pc,ga,gc,xa,xc,ea,ec,ta,tc,u,_⟩:=I0 U;obtain⟨a1,c1,rfl⟩:=S.slice;obtain⟨a2,c2,rfl⟩:=W.slice;obtain⟨a3,c3,rfl⟩:=I.slice;obtain⟨la,lc,rfl⟩:=J.slice;exact⟨X,by rw[h,u];rfl,by rw[h,u];rfl,O,E⟩
def evA:EvD:=⟨1,eB,⟨#[97]⟩,[],eB⟩
def Yl:C1 [evA]=true:=kR
def Yq:eD r0 [evA] 0=[(0,[(0,0)]),(1,[(0,1)]),(2,[(0,2)])]:=kR
def Ym:ak r0 [evA] 0=[(0,[])]:=kR
def rz(H:d7):CL prog gR 8 [] H=some (.bool true,none):=by
 have hq:QR ⟨H.bs,H.n⟩ 0 1 false [iV 1,nS,nS] q0:=⟨_,_,rfl,.inl ⟨rfl,rfl⟩,.inl ⟨rfl,rfl⟩,by decide,by decide,by decide,by decide,by decide,fun _=>⟨rfl,rfl,rfl⟩⟩
 have b5:jX q0=true:=kR;obtain⟨b4,h7⟩:=mg b5;obtain⟨v,h,u,f0,c6,E,er,rfl,s1,S⟩:=Tb 1 ⟨H.bs,H.n⟩ 0 _ q0 (Nat.zero_le _) hq b4 (by decide);rw[Lx]at S;rcases S with⟨h0,_⟩|⟨r,h0,rfl,b6,hR⟩
 .cases h0
 cases h0;have f3:d9 H.n ⟨H.bs,H.n⟩ u:=s1;have nn:H.n<=u.n:=s1.n;have kc:KdC q0 r0:=by
  obtain⟨_,_,l,hl,b3⟩:=dR Lx;exact⟨b4,oM,Lx,b6,by rw[b3];exact mZ hq b5 hl⟩
 have f1:RcR ⟨H.bs,H.n⟩ 0 1 r0 u E:=RcR.of hR b6.l0 (Nat.zero_le _) (fun j hj=>oM);obtain⟨H2,W,n2,x2,-⟩:=pushE u (bC z12 1);obtain⟨O,I⟩:=eY (H2.put u.n (bC E 1));have n3:O.n=u.n+1:=by rw[I,j9,n2]
 have x3:O.g u.n=cE E 1:=by rw[I];exact i9 oM
 have c7:d9 u.n u O:=by rw[I,W];exact(d9.push lR).trans (d9.put lR)
 obtain⟨H4,X,-,-,a5⟩:=pushE O (.cells [iV 1,.string eB,.string ⟨#[97]⟩,nS,.string eB] true 5);have n4:H4.n=u.n+2:=by rw[X,i4,n3]
 have f4:d9 u.n u H4:=c7.trans (a5.wk oM);have D:=(f1.stay f4).here;have x4:=(a5.g u.n oM).trans x3;have d5:N8 H4 H4.n (sL O.n 1 1) [evA]:=by
  refine .inr ⟨O.n,0,1,rfl,.inr ⟨_,true,oM,by rw[X];exact j6,by decide,fun i a hi=>?_⟩⟩;cases i with
  |zero=>
   have:evA=a:=by simpa using hi
   subst this;exact⟨_,rfl,.inl ⟨rfl,rfl⟩,by decide,by decide,by decide,by decide⟩
  |succ i=>simp at hi
 have a7:DcR H4.n [evA] H4 (sL O.n 1 1):=⟨d5,.inr lR,by decide,Yl,lR⟩
 have z0:((0:Nat):Int)=0:=rfl;obtain⟨j2,g6,H5,b9,c3,⟨G5,O5⟩,s5⟩:=Ret.one (Fv kc D a7 (a:=0) (ev:=evA) rfl (by decide));rw[Yq]at O5;have n5:=s5.n;have f2:=D.stay s5;have a8:=a7.stay s5;obtain⟨j3,g7,H6,c4,c5,⟨G6,O6⟩,s6⟩:=Ret.one (wJ kc f2 a8 (a:=0) (ev:=evA) rfl (by decide));rw[Ym]at O6;have n6:=s6.n;have z:=a8.stay s6;rw[z0]at b9 c4;have a9:=I4 (Mp H6 _ _ _ z.low z.ev z.cap (by decide) 0 (by decide));have b1:=I4 (yH H6 _ _ _ z.low z.ev (by decide) 0 (by decide));have b2:=I4 (DW H6 _ _ _ z.low z.ev (by decide) 0 (by decide));have c9:F8 [evA] 0=false:=kR;have d0:((0+P4 ([evA].drop 0) 0:Nat):Int)=1:=kR;have d1:di [evA] 0 0= -1:=rfl;rw[c9,z0]at a9;rw[d0,z0]at b1;rw[d1,z0]at b2;have hf:=(O5.keep u9 s6).sl u9;obtain⟨fa,fc,rfl⟩:=O5.slice;obtain⟨x,nb,o,cs,own,el,hx,hd,rfl,hF,hg,h6,U,hc,xp,rfl,b7⟩:=hf.row (i:=2) (by decide);cases hx;have c0:=hc 0 oM;have c1:=hc 1 oM;have e0:([iV 2,xp]:LV)[0]?=some (.int .i64 2):=rfl;have e1:([iV 2,xp]:LV)[1]?=some xp:=rfl;rw[e0,Nat.add_zero]at c0;rw[e1]at c1;obtain⟨xa,xc,rfl⟩:=b7.slf.slice;obtain⟨y,i2,o2,d2,f9,g4,hy,h3,rfl,g8,d6,f6,a4,h2,rfl⟩:=b7.slf.row (i:=0) (by decide);cases hy;have e4:=O6.sl u9;obtain⟨ba,bc,rfl⟩:=O6.slice;obtain⟨y,i3,o3,d3,g0,g5,hy,h4,rfl,g9,e2,f7,e6,d4,yp,rfl,i0⟩:=e4.row (i:=0) (by decide);cases hy;have b0:=d4 0 oM;have e3:([iV 0,yp]:LV)[0]?=some (.int .i64 0):=rfl;rw[e3]at b0
 replace b0:d3[o3]?=some (.int .i64 0):=by simpa using b0
 have J:ldC (some true) (some 2) o2 d2=some (.agg #[iV 0,iV 2]):=by simpa using a4
 have e5:L3 prog .eql 65 (.agg #[iV 0,iV 2]) (.agg #[iV 0,iV 2])=some (.bool true):=kR;have b8:H.n<=O.low:=by
  have h1:H.n<=u.low:=f3.lowAll _ lR lR;exact c7.lowAll _ nn h1
 have f8:H.n<=H6.low:=s6.lowAll _ oM (s5.lowAll _ oM (a5.lowAll _ oM b8));obtain⟨rs,la,lc,a1,g1,a2,g2,a3,g3,q8,q9,j0,j1,i1,f5,_⟩:=D.form;have e9:=D.l12;have a6:=D.one;have c8:splice z12 0 E=E:=by
  obtain⟨rs,vl,w1,w2,w3,U,e8,b3,h8,h9,h5⟩:=D.hR;obtain⟨pa,pc,ga,gc,xa,xc,ea,ec,ta,tc,e7,_⟩:=I0 e8;rw[U,e7];rfl
 have l3:r0.sorts.length=3:=rfl;rw[l3]at q9;simp only[z12]at W x2 c8;have x5:=(s5.g u.n oM).trans x4;rw[i7 fn8 rfl _ sM];exact J29 f0 c6 e9 a6 c8 W.symm x2 I.symm x3 q9 X.symm x4 f5 b9 c3 x5 c4 c5 hg c0 c1 d6 J e5 e2 b0 a9 b1 b2 trivial
def gL(a n:Nat)(h:0<n):L3 prog .rem 3 (.int .i64 (a:Int)) (.int .i64 (n:Int))=some (.int .i64 ((a % n:Nat):Int)):=by
 simp only[L3,if_true];rw[if_neg oM,<-Int.ofNat_tmod]
def uv{a:Nat}(h:a<=255):IntKind.i64.wrap (a:Int)=a:=wrap_small oM oM
def Zg(H:d7)(v:Value)(l:List EvD)(z:Nat)(a6:z<=255)(hv:N8 H H.n v l)(X:eO v)(hn:l.length<=1048576):
  CL prog gR 3 [v,.int .u8 z] H=some (.bool true,none):=by
 obtain⟨va,vc,b6⟩:=hv.slice;have h:N8 ⟨H.bs,H.n⟩ H.n v l:=hv.mono (fun _ _=>rfl) lR;have h8:=rz ⟨H.bs,H.n⟩;obtain⟨t,J,ht⟩:=Mx ⟨H.bs,H.n⟩ H.n v l lR h hn
 replace J:=I4 J
 rw[i7 fn3 rfl _ sM];cases t with
 |false=>simp(maxSteps:=20000000) -dsimp (disch:=first|omega|(simp only[rH]<;>omega)|fail) only[↓fk,rQ,N1,sevalprocAttr,tyA,h8,J]
 |true=>
  obtain⟨h0,a5,hB⟩:=ht rfl;obtain⟨k,hk⟩:=eY (z % l.length);have D:k<l.length:=by rw[hk];exact Nat.mod_lt _ h0
  have u:=gL z l.length h0;rw[<-hk]at u;have hw:=uv a6;obtain⟨ev,he,hd⟩:=B8 D;have dc:DcR H.n l ⟨H.bs,H.n⟩ v:=⟨h,.inl X,a5,hB,lR⟩
  have hb:=dc.pos;obtain⟨eb,eo,ec,b4,b0,el,W,b2,O,b3,U,b5,b1,a9⟩:=dc.row he;have tk:((k:Nat):Int).toNat=k:=tN k;rcases d3:decide (ev.kind=3)with _|_
  .have e3:=dF d3;have S:ev.kind=1\/ev.kind=2:=oM;have a1:=I4 (Mp ⟨H.bs,H.n⟩ H.n v l lR h (.inl X) oM k D);have E:=I4 (Mq ⟨H.bs,H.n⟩ H.n v l lR h oM hb k);have I:=I4 (yH ⟨H.bs,H.n⟩ H.n v l lR h oM k oM);have a2:=I4 (Ms ⟨H.bs,H.n⟩ H.n v l lR h X oM hb k D);have a3:=I4 (DW ⟨H.bs,H.n⟩ H.n v l lR h oM k oM);have a4:=I4 (Qw ⟨H.bs,H.n⟩ H.n v l lR h X oM hb k oM);have hE:k+P4 (l.drop k) 0=A6 l k:=rfl;rw[hE]at I;have a8:decide (k∈w9 l l.length)= !F8 l k:=by rw[(F6 dc.beg he S).1,Bool.not_not]
   rw[a8]at E;have a7:∀b:Bool,L3 prog .eql 4 (.bool b) (.bool b)=some (.bool true):=fun b=>by cases b<;>kernel_rfl
   have hq:=a7 (F8 l k);have q1:decide (((A6 l k:Nat):Int)=((A6 l k:Nat):Int))=true:=decide_eq_true rfl;have q2:decide (di l k 0=di l k 0)=true:=decide_eq_true rfl;subst W;exact J16 h8 J hw u O tk U d3 a1 E I a2 a3 a4 Bool.not_not hq trivial
  .subst W;exact J8 h8 J hw u O tk U d3 trivial
def Jj(k:Nat):Q7 prog (k+2) 88 (fun _ cs a=>AtR cs a):=by
 have h:=aO (P:=prog) (t:=88) Tryz.underlying88 kR (D9 (k:=2) rfl kR (rt k) (D9 (k:=1) rfl kR (mB (k+1)) (dM _)));refine h.map (fun x=>⟨x.1.1,x.1.2,x.2.1⟩) ?_ (fun _ _ _ _ _ h=>h);rintro S cs ⟨a,b,u⟩ ⟨c1,c2,rfl,⟨rfl,D,z⟩,I,J,rfl,⟨rfl,E⟩,rfl⟩;exact⟨rfl,D,z,E⟩
def FK(k:Nat):Q7 prog (k+3) 27 (fun S cs(l:List AtD)=>∃v,cs=[v]/\Sl S 3 AtR v l/\l.length<=1048576):=eS (P:=prog) (t:=27) (e:=88) (sz:=3) Tryz.underlying27 kR oM (Jj k)
def EvG(S:List Blk)(cs:LV)(e:EvD):Prop:=
 ∃v,cs=[iV e.kind,.string e.space,.string e.loc,v,.string e.text]/\Sl S 3 AtR v e.attrs/\e.space.size<=1048576/\e.loc.size<=1048576/\e.text.size<=1048576/\e.attrs.length<=1048576
def FL(k:Nat):Q7 prog (k+4) 29 (fun S cs e=>EvG S cs e):=by
 have h:=aO (P:=prog) (t:=29) Tryz.underlying29 kR (D9 (k:=1) rfl kR (xk (k+3)) (D9 (k:=2) rfl kR (rt (k+2)) (D9 (k:=1) rfl kR (FK k) (D9 (k:=1) rfl kR (mB (k+3)) (dM _)))));refine h.map (fun x=>⟨x.1,x.2.1.1,x.2.1.2,x.2.2.1,x.2.2.2.1⟩) ?_ ?_
 .rintro S cs ⟨k,nm,O,tx,u⟩ ⟨c1,c2,rfl,⟨rfl,J⟩,c3,c4,rfl,⟨rfl,z,D⟩,c5,c6,rfl,⟨v,rfl,E,I⟩,c7,c8,rfl,⟨rfl,U⟩,rfl⟩;exact⟨v,rfl,E,z,D,U,I⟩
 .rintro S X cs e W ⟨v,J,z,E⟩;exact⟨v,J,z.mono W iF,E⟩
def Ur{S:List Blk}{cs:LV}{e:EvD}(h:EvG S cs e):EvR ⟨S,S.length⟩ S.length cs e:=by
 obtain⟨v,u,z,D⟩:=h;exact⟨v,u,yL z iF,D⟩
def fK(k:Nat):Q7 prog (k+5) 22 (fun S cs(l:List EvD)=>∃v,cs=[v]/\Sl S 5 (EvG S) v l/\l.length<=1048576):=eS (P:=prog) (t:=22) (e:=29) (sz:=5) Tryz.underlying22 kR oM (FL k)
def rS{S:List Blk}{v:Value}{l:List EvD}(h:Sl S 5 (EvG S) v l):N8 ⟨S,S.length⟩ S.length v l:=yL h (fun _ _ h=>Ur h)
def nY{S:List Blk}{sz:Nat}{α:Type}{R:LV->α->Prop}{v:Value}{l:List α}(h:Sl S sz R v l):eO v:=by
 intro a n c u;rcases h with⟨h,_⟩|⟨b,o,h,_⟩
 .rw[u]at h;cases h;exact .inl rfl
 .rw[u]at h;cases h;exact .inr rfl
end Go.Proofs.YtjlpdddmmnijoaaGreatDoor.Ve
namespace Go.Proofs.YtjlpdddmmnijoaaGreatDoor
open Go.ChangeShapes Go.WideShapes Go.ChangeAt Go.RowKit
open Go.Proofs.Tryz (prog)
open Go Ve card
def x8{H:Type}{enc:TypeId×Value->H}{W:World}{base:Nat}{args:Array Value}{ds gs:List (DataW H)}{S:List MemPlace}{N:FuncId}{F:Func}{s:ChangeSpec}(hP:F.params= #[36,22,5])(hR:F.resultTypes= #[4])(a9:s.vars=[])
  (hs:∀a b c:DataW H,s.fn H [a,b,c]={results:=[.lit (.bool true)],args:=[a,b,c]})
  (c0:∀(K:Nat)(H:d7)(lo:Nat)(cs:LV)(q:Q)(v:Value)(l:List EvD)(u:Nat),lo<=H.n->QR H lo K false cs q->N8 H lo v l->eO v->l.length<=1048576->u<=255->CL prog gR N [.agg cs.toArray,v,.int .u8 u] H=some (.bool true,none))
  (E:∀(j:Nat) t v,F.params[j]?=some t->args[j]?=some v->Value.okWide prog W .any base t v)
  (hW:DataW.Whole enc prog F.params.toList s.vars false W args.toList ds gs S) (hk:Rows.uptoSmall H (ds++gs)=true):
  Calls prog N args W fun e W'=>∃v,e= .returned v/\s.post enc prog F false true false false W args v W':=by
 have b4:=hW;obtain⟨p,q,hA,hV,rfl,d3,d4⟩:=hW;rw[hP]at hA E;rw[a9]at hV;obtain⟨v0,d5,d0,c5,p0,q0,b5,rfl,rfl,h0,r0⟩:=trodAll_cons hA;obtain⟨v1,d6,d1,c6,p1,q1,rfl,rfl,rfl,h1,r1⟩:=trodAll_cons r0;obtain⟨v2,e1,d2,c7,p2,q2,rfl,rfl,rfl,h2,r2⟩:=trodAll_cons r1;obtain⟨rfl,rfl,rfl⟩:=trodAll_nil r2;obtain rfl:args= #[v0,v1,v2]:=by cases args;simp_all
 obtain⟨rfl,rfl⟩:=trodVars_none hV;obtain⟨a0,rfl,_⟩:=okWide_struct Tryz.underlying36 (E 0 36 v0 rfl rfl);obtain⟨a1,I,D,rfl⟩:=okWide_slice Tryz.underlying22 (E 1 22 v1 rfl rfl);have k0:=h0;have c3:∀x∈p0,x.block<W.heap.size:=by obtain⟨m,hm⟩:=h0;exact DataW.trod_lt m _ _ _ hm
 have k1:=h1;have c4:∀x∈p1,x.block<W.heap.size:=by obtain⟨m,hm⟩:=h1;exact DataW.trod_lt m _ _ _ hm
 obtain⟨O,rfl,rfl,rfl,w2⟩:=open_int Tryz.underlying5 (E 2 5 v2 rfl rfl) h2;have b9:0<=O/\O<=255:=by simpa [Lit.wf,IntKind.min,IntKind.max,IntKind.signed,IntKind.bits] using w2
 have hb:Rows.uptoBulk d0<=1048576/\Rows.uptoBulk d1<=1048576:=by
  have h:Rows.uptoBulkAll ([d0,d1,.lit (.int .u8 O)]++[])<=1048576:=dT hk;simp only[Rows.uptoBulkAll,List.cons_append,List.nil_append]at h;omega
 obtain⟨z,b6⟩:=h0;obtain⟨φ0,S0,x0,q,c8,c9,a6,a3,_,b3⟩:=(cq (z+1)).1.2 enc W z oM _ d0 p0 b6 hb.1 [] [] (kl W);obtain⟨J,b7⟩:=h1;obtain⟨φ1,S1,x1,l,a5,b2,a7,b1,_,v,rfl,b0,a8⟩:=(fK J).2 enc W J oM _ d1 p1 b7 hb.2 φ0 S0 a6;have X:=c0 _ ⟨S1,S1.length⟩ S1.length x0 q v l O.toNat lR (Pn ((cq (z+1)).1.1 _ _ _ _ b2 b3)) (rS b0) (nY b0) a8 oM;rw[Int.toNat_of_nonneg b9.1]at X;have b8:VR φ1 v (.slice a1 I D):=by have:=b1.2 0 v (.slice a1 I D) rfl (by simp [Value.cells]);exact this
 have U:VRs φ1 [.agg x0.toArray,v,.int .u8 O] [.agg a0,.slice a1 I D,.int .u8 O]:= .cons (.agg (by simpa [Value.cells] using (a3.mono a5).1) (by simpa [Value.cells] using (a3.mono a5).2)) (.cons b8 (.cons (.int _ _) (.nil φ1)));refine(ic kR ng a7 U X).mono fun e W'⟨he,a4⟩=>?_;subst he;have e:s.fn H ([d0,d1,.lit (.int .u8 O)]++[])={results:=[.lit (.bool true)],args:=[d0,d1,.lit (.int .u8 O)]}:=hs _ _ _;have a:DataW.TrodAll enc prog W' 0 (fun b=>decide (b<W.heap.size)) true [36,22,5] [.agg a0,.slice a1 I D,.int .u8 O] [d0,d1,.lit (.int .u8 O)] _:=trodAll_cons_mk (Below.trod fd kR (dT kR) k0 a4 c3) (trodAll_cons_mk (Below.trod fd kR (dT kR) k1 a4 c4) (trodAll_cons_mk (shut_int Tryz.underlying5 w2) trodAll_mk0));exact⟨_,rfl,_,_,_,[],_,[],b4,by rw[hR,e];exact trodAll_mk1 (shut_bool Tryz.underlying4 _),by rw[hP,e];exact a,by rw[a9,e];rfl,a4.frame _,fun h=>by cases h⟩
def w7{nm:String}{N:FuncId}{F:Func}(z:prog.funcNamed nm=some N)(D:prog.funcs[N]?=some F)(E:F.params.toList.all (fun t=> !prog.wantsStandIn t)=true) (I:prog.looks []=false) (f:FuncId) (u:Func) (J:prog.funcNamed nm=some f) (h:prog.funcs[f]?=some u):
  false=prog.looks []/\∀(j:Nat) t,u.params[j]?=some t->prog.wantsStandIn t=false:=by
 obtain rfl:=Option.some.inj (z.symm.trans J);obtain rfl:=Option.some.inj (D.symm.trans h);refine⟨I.symm,fun j t O=>?_⟩
 simpa using List.all_eq_true.1 E t (by simpa using Array.mem_of_getElem? O)
end Go.Proofs.YtjlpdddmmnijoaaGreatDoor
namespace Go.Proofs.YtjlpdddmmnijoaaGreatDoor.levelPlaces
open Go.ChangeShapes Go.WideShapes Go.ChangeAt Go.RowKit
open Go.Proofs.Tryz (prog)
open Go Ve card
abbrev ED:Array Value:= #[.slice none 0 0,.int .u8 0]
def Hz(h:Os):laidMet prog AG ((M8 h).forCall (fun _ _=>0) ⟨#[],ED,[]⟩).memory:=
 laidMet_of_run' 8 kR kR
def TA(u:Os){H:Type}(enc:TypeId×Value->H):∃h,DataW.whole enc prog ((M8 u).forCall (fun _ _=>0) ⟨#[],ED,[]⟩).memory [22,5] [] false ED.toList 8=some ([.nil,.lit (.int .u8 0)],[],h):=
 ⟨[],kR⟩
def cD(H:Type)(enc:TypeId×Value->H)(W:World)(base:Nat)(args:Array Value)(ds gs:List (DataW H))(I:List MemPlace)
  (D:∀(j:Nat) t v,Tryz.f3.params[j]?=some t->args[j]?=some v->Value.okWide prog W .any base t v)
  (hW:DataW.Whole enc prog Tryz.f3.params.toList Rows.levelPlacesSpec.vars false W args.toList ds gs I) (hk:Rows.uptoSmall H (ds++gs)=true):
  Calls prog 3 args W fun e W'=>∃v,e= .returned v/\Rows.levelPlacesSpec.post enc prog Tryz.f3 false true false false W args v W':=by
 have a6:=hW;obtain⟨p,q,X,hV,rfl,b6,b7⟩:=hW;have hA:DataW.TrodAll enc prog W 0 (fun _=>true) true Tryz.f3.params.toList args.toList ds p:=X;rw[Tryz.params3]at hA D;obtain⟨v0,b8,d0,b2,p0,q0,a7,rfl,rfl,h0,r0⟩:=trodAll_cons hA;obtain⟨v1,b9,d1,b3,p1,q1,rfl,rfl,rfl,h1,r1⟩:=trodAll_cons r0;obtain⟨rfl,rfl,rfl⟩:=trodAll_nil r1;obtain rfl:args= #[v0,v1]:=by cases args;simp_all
 obtain⟨rfl,rfl⟩:=trodVars_none hV;obtain⟨a0,E,u,rfl⟩:=okWide_slice Tryz.underlying22 (D 0 22 v0 rfl rfl);have k0:=h0;have b1:∀x∈p0,x.block<W.heap.size:=by obtain⟨m,hm⟩:=h0;exact DataW.trod_lt m _ _ _ hm
 obtain⟨S,rfl,rfl,rfl,w1⟩:=open_int Tryz.underlying5 (D 1 5 v1 rfl rfl) h1;have b0:0<=S/\S<=255:=by simpa [Lit.wf,IntKind.min,IntKind.max,IntKind.signed,IntKind.bits] using w1
 have hb:Rows.uptoBulk d0<=1048576:=by
  have h:Rows.uptoBulkAll ([d0,.lit (.int .u8 S)]++[])<=1048576:=dT hk;simp only[Rows.uptoBulkAll,List.cons_append,List.nil_append]at h;omega
 obtain⟨z,a8⟩:=h0;obtain⟨φ0,S0,x0,l,b4,b5,a2,a5,_,v,rfl,a4,a3⟩:=(fK z).2 enc W z oM _ d0 p0 a8 hb [] [] (kl W);have O:=Zg ⟨S0,S0.length⟩ v l S.toNat oM (rS a4) (nY a4) a3;rw[Int.toNat_of_nonneg b0.1]at O;have a9:VR φ0 v (.slice a0 E u):=by have:=a5.2 0 v (.slice a0 E u) rfl (by simp [Value.cells]);exact this
 have J:VRs φ0 [v,.int .u8 S] [.slice a0 E u,.int .u8 S]:= .cons a9 (.cons (.int _ _) (.nil φ0));clear X;refine(ic kR ng a2 J O).mono fun e W'⟨he,U⟩=>?_;subst he;exact⟨_,rfl,_,_,_,[],_,[],a6,trodAll_mk1 (shut_bool Tryz.underlying4 _),(trodAll_cons_mk (Below.trod fd kR (dT kR) k0 U b1) (trodAll_cons_mk (shut_int Tryz.underlying5 w1) trodAll_mk0)),rfl,U.frame _,fun h=>by cases h⟩
def iZ(E:Os)(h:E.Started)(H:Type)(enc:TypeId×Value->H)(F:Stop.Interp):
  ReturnsInHanded {} Tryz.checked E 3 .any ((Rows.OpenSpec.upto Rows.levelPlacesSpec).preRow enc prog Tryz.f3 Rows.levelPlacesUptoRow.domain false Rows.levelPlacesUptoRow.laid) (((Rows.OpenSpec.upto Rows.levelPlacesSpec).at F).post enc prog Tryz.f3 false true false false):=by
 obtain⟨I,U⟩:=TA E enc;refine returnsInHanded_of_row (C:=Tryz.checked) (s:=Rows.OpenSpec.upto Rows.levelPlacesSpec) own h kR Tryz.func3
  (witness_row_at (enc:=enc) (C:=Tryz.checked) false (M8 E) ED rfl kR kR kR
   (OpenSpec.preRow_of_cond 8 U kR (fun k S=>by cases S;kernel_rfl) kR (Hz E))) ?_
 intro W base args ds J u D O _ z _ X _ _;exact cD H enc W base args ds J u D O (z _ rfl)
def yJ:Rows.LevelPlacesUptoSaid:=
 OpenClaim.holds_of_cond 3 Tryz.f3 rfl rfl rfl rfl rfl rfl rfl ⟨rfl,rfl,rfl,rfl,rfl⟩ rfl rfl rfl rfl rfl kR Tryz.func3 kR
  (dT kR) (by unfold Func.isWrapper;first|(rw[if_pos (by decide+kernel)];kernel_rfl)|(rw[if_neg (by decide+kernel)];exact⟨rfl,rfl⟩))
  (fun u h H enc _ F=>by rw[OpenClaim.pre_eq_preRow];exact iZ u h H enc F)
def cardUpto:Rows.LevelPlacesUptoCardSaid:=
 Claim7.holds_tied_plain_at .later [] _ _ _ _ yJ (fun _ h=>by cases h) kR (fun _ h=>by cases h) levelPlacesUpto_row_tie rfl ⟨rfl,rfl⟩ kR rfl (w7 kR Tryz.func3 kR kR) kR
end Go.Proofs.YtjlpdddmmnijoaaGreatDoor.levelPlaces
namespace Go.Proofs.YtjlpdddmmnijoaaGreatDoor
open Go Go.RowKit
open Go.Proofs.Tryz (prog)
theorem levelPlaces_holds:Rows.LevelPlacesUptoCardSaid:=levelPlaces.cardUpto
end Go.Proofs.YtjlpdddmmnijoaaGreatDoor
namespace Go.Proofs.YtjlpdddmmnijoaaGreatDoor.Ve
open Go Go.RowKit
open Go.Proofs.Tryz (prog)
def qS{r:ReD}{m:Int}(h:E0 r m)(l:List EvD)(a:Nat):(∀o∈eD r l a,fG r (l.length+1) o)/\(eD r l a).length<=25:=by
 have u:=h.l1;rw[eD];split
 .exact⟨fun o z=>(by cases z),by simp⟩
 .split
  .exact⟨xh h _,by decide⟩
  .exact⟨fh h l _ _ _ _,by have:=ij h l (l.length+1) (a+1) a false;omega⟩
def nz{r:ReD}{m:Int}(h:E0 r m)(l:List EvD)(a:Nat):(∀o∈ak r l a,fG r (l.length+1) o)/\(ak r l a).length<=25:=by
 have u:=h.l1;rw[ak];split
 .exact⟨xh h _,by decide⟩
 .exact⟨fh h l _ _ _ _,by have:=ij h l (l.length+1) (A6 l a) (di l a 0) (!F8 l a);omega⟩
def kE{r:ReD}{n:Nat}{L:List OpD}(h:∀o∈L,fG r n o) (u:n<=31):∀o∈L,o.2.length<=4294967296:=fun o z=>by
 have D:=(h o z).2.2;have I:2 ^ n<=2 ^ 31:=Nat.pow_le_pow_right oM u;have E:(2:Nat) ^ 31=2147483648:=by decide
 omega
def Zh(K:Nat)(H:d7)(lo:Nat)(cs:LV)(q:Q)(v:Value)(l:List EvD)(W:Nat)(g5:lo<=H.n)(hr:QR H lo K false cs q)(hv:N8 H lo v l)(hc:eO v)(hn:l.length<=1048576)(c8:W<=255):
  CL prog gR 4 [.agg cs.toArray,v,.int .u8 W] H=some (.bool true,none):=by
 have ac:=I6 hr;have ldc:=Q6 hr;have l0:=hr.len;simp only[qSz,bF]at l0;rw[l0]at ldc;obtain⟨va,vc,d2⟩:=hv.slice;obtain⟨U,J,n1,g1,s1⟩:=pushF H (bC cs 1);have f6:U.low=H.n:=by rw[J];rfl
 have d1:QR U lo K false cs q:=hr.mono (fun j hj=>s1.g j oM) lR;have b3:N8 U lo v l:=hv.mono (fun j hj=>s1.g j oM) lR;have h8:=rz U;obtain⟨t,h9,ht⟩:=Mx U lo v l oM b3 hn
 replace h9:=I4 h9
 rw[i7 fn4 rfl _ sM];cases t with
 |false=>simp(maxSteps:=20000000) -dsimp (disch:=first|omega|(simp only[rH]<;>omega)|fail) only[↓fk,rQ,N1,sevalprocAttr,tyA,ac,<-J,h8,h9]
 |true=>
  obtain⟨b2,c7,hB⟩:=ht rfl;obtain⟨vq,hq,H2,a3,S,u,t,rfl,X,I,s2,hk⟩:=qX K U lo cs q oM d1;have n2:=s2.n;obtain⟨H3,O,n3,x3,-⟩:=pushE H2 (bC z12 1);obtain⟨H4,E⟩:=eY (H3.put H2.n (bC u 1));have n4:H4.n=H2.n+1:=by rw[E,j9,n3]
  have x4:H4.g H2.n=cE u 1:=by rw[E];exact i9 oM
  have a4:d9 H2.n H2 H4:=by rw[E,O];exact(d9.push lR).trans (d9.put lR)
  have e5:d9 U.n U H4:=s2.trans (a4.wk oM);have a1:splice z12 0 u=u:=by
   have:∀(z u:LV),z.length=u.length->splice z 0 u=u:=by
    intro z u h;refine List.ext_getElem? fun i=>?_;rw[Q5 _ _ _ _ oM];by_cases hi:i<u.length
    .rw[if_pos ⟨Nat.zero_le _,oM⟩,Nat.sub_zero]
    .rw[if_neg oM,List.getElem?_eq_none oM,List.getElem?_eq_none oM]
   exact this z12 u (by rw[X];rfl)
  have e6:u.take 12=u:=List.take_of_length_le oM;obtain⟨k,b0⟩:=eY (W % l.length);have d0:k<l.length:=by rw[b0];exact Nat.mod_lt _ b2
  have D:=gL W l.length b2;rw[<-b0]at D;have hw:=uv c8;obtain⟨ev,he,hd⟩:=B8 d0;have c5:DcR lo l U v:=⟨b3,.inl hc,c7,hB,oM⟩
  have a2:=c5.stay e5;obtain⟨eb,eo,ec,f8,f1,el,b4,f3,a9,f5,b1,g4,f2,c9⟩:=a2.row he;have tk:((k:Nat):Int).toNat=k:=tN k;have b5:H.n<=H4.low:=a4.lowAll _ oM (s2.lowAll _ oM oM);simp only[z12]at O x3 a1;cases t with
  |false=>
   rw[d2]at h9 ⊢;exact J16 ac J.symm g1 ldc h8 h9 a3 S X I O.symm x3 a1 E.symm hw D trivial
  |true=>
  obtain⟨Hs,r,kc,f4,e2⟩:=hk rfl;obtain⟨m,hg⟩:=kc.gr;have c0:=e2.stay a4;rcases d3:decide (ev.kind=3)with _|_
  .have e3:=dF d3;obtain⟨e7,f9,H5,d4,b6,⟨G5,O5⟩,s5⟩:=Ret.one (Fv kc c0 a2 he e3);have n5:=s5.n;have c3:=c0.stay s5;have a5:=a2.stay s5;obtain⟨e8,g0,H6,d5,b7,⟨G6,O6⟩,s6⟩:=Ret.one (XI kc c3 a5 hc he e3);have n6:=s6.n;have c4:=c3.stay s6;have a6:=a5.stay s6;have a7:=I4 (Mt H6 e7 e8 (eD r l k) ((O5.keep u9 s6).sl u9) (O6.sl u9) (oN ((qS hg l k).2)) (kE (qS hg l k).1 oM));obtain⟨e9,g2,H7,d6,b8,⟨G7,O7⟩,s7⟩:=Ret.one (wJ kc c4 a6 he e3);have n7:=s7.n;have e4:=c4.stay s7;have c6:=a6.stay s7;obtain⟨f0,g3,H8,e1,b9,⟨G8,O8⟩,s8⟩:=Ret.one (Mu kc e4 c6 hc he e3);have n8:=s8.n;have a8:=I4 (Mt H8 e9 f0 (ak r l k) ((O7.keep u9 s8).sl u9) (O8.sl u9) (oN ((nz hg l k).2)) (kE (nz hg l k).1 oM));have x5:=(s5.g H2.n oM).trans x4;have x6:=(s6.g H2.n oM).trans x5;have x7:=(s7.g H2.n oM).trans x6;have f7:H.n<=H8.low:=s8.lowAll _ oM (s7.lowAll _ oM (s6.lowAll _ oM (s5.lowAll _ oM b5)));subst b4;exact J30 ac J.symm g1 ldc h8 h9 a3 S X I O.symm x3 a1 E.symm hw D a9 tk b1 d3 x4 e6 d4 b6 x5 (aI d5 b7) (aI a7 x6) (aI d6 b8) (aI x7 e1) (aI b9 a8) trivial
  .subst b4;exact J20 ac J.symm g1 ldc h8 h9 a3 S X I O.symm x3 a1 E.symm hw D a9 tk b1 d3 trivial
end Go.Proofs.YtjlpdddmmnijoaaGreatDoor.Ve
namespace Go.Proofs.YtjlpdddmmnijoaaGreatDoor.levelOptions
open Go.ChangeShapes Go.WideShapes Go.ChangeAt Go.RowKit
open Go.Proofs.Tryz (prog)
open Go Ve card
abbrev EE:Array Value:= #[FZ,.slice none 0 0,.int .u8 0]
def HE(h:Os):laidMet prog AG ((M8 h).forCall (fun _ _=>0) ⟨#[],EE,[]⟩).memory:=
 laidMet_of_run' 8 kR kR
def TB(u:Os){H:Type}(enc:TypeId×Value->H):∃h,DataW.whole enc prog ((M8 u).forCall (fun _ _=>0) ⟨#[],EE,[]⟩).memory [36,22,5] [] false EE.toList 8=some ([.agg [.lit (.int .i64 0),.nil,.nil],.nil,.lit (.int .u8 0)],[],h):=
 ⟨[],kR⟩
def iZ(D:Os)(h:D.Started)(H:Type)(enc:TypeId×Value->H)(F:Stop.Interp):
  ReturnsInHanded {} Tryz.checked D 4 .any ((Rows.OpenSpec.upto Rows.levelOptionsSpec).preRow enc prog Tryz.f4 Rows.levelOptionsUptoRow.domain false Rows.levelOptionsUptoRow.laid) (((Rows.OpenSpec.upto Rows.levelOptionsSpec).at F).post enc prog Tryz.f4 false true false false):=by
 obtain⟨I,S⟩:=TB D enc;refine returnsInHanded_of_row (C:=Tryz.checked) (s:=Rows.OpenSpec.upto Rows.levelOptionsSpec) own h kR Tryz.func4
  (witness_row_at (enc:=enc) (C:=Tryz.checked) false (M8 D) EE rfl kR kR kR
   (OpenSpec.preRow_of_cond 8 S kR (fun k O=>by cases O;kernel_rfl) kR (HE D))) ?_
 intro W base args ds U E z J _ u _ X _ _;exact x8 Tryz.params4 rfl rfl (fun _ _ _=>rfl) Zh z J (u _ rfl)
def yJ:Rows.LevelOptionsUptoSaid:=
 OpenClaim.holds_of_cond 4 Tryz.f4 rfl rfl rfl rfl rfl rfl rfl ⟨rfl,rfl,rfl,rfl,rfl⟩ rfl rfl rfl rfl rfl kR Tryz.func4 kR
  (dT kR) (by unfold Func.isWrapper;first|(rw[if_pos (by decide+kernel)];kernel_rfl)|(rw[if_neg (by decide+kernel)];exact⟨rfl,rfl⟩))
  (fun u h H enc _ F=>by rw[OpenClaim.pre_eq_preRow];exact iZ u h H enc F)
def cardUpto:Rows.LevelOptionsUptoCardSaid:=
 Claim7.holds_tied_plain_at .later [] _ _ _ _ yJ (fun _ h=>by cases h) kR (fun _ h=>by cases h) levelOptionsUpto_row_tie rfl ⟨rfl,rfl⟩ kR rfl (w7 kR Tryz.func4 kR kR) kR
end Go.Proofs.YtjlpdddmmnijoaaGreatDoor.levelOptions
namespace Go.Proofs.YtjlpdddmmnijoaaGreatDoor
open Go Go.RowKit
open Go.Proofs.Tryz (prog)
theorem levelOptions_holds:Rows.LevelOptionsUptoCardSaid:=levelOptions.cardUpto
end Go.Proofs.YtjlpdddmmnijoaaGreatDoor
namespace Go.Proofs.YtjlpdddmmnijoaaGreatDoor.Ve
open Go Go.RowKit
open Go.Proofs.Tryz (prog)
structure SrR(Hs:d7)(lo K:Nat)(s:StD)(H:d7)(rs:LV):Prop where
 st:StF H (· <H.n) (QR Hs lo K false) (QR Hs lo K true) rs s
 low:lo<=H.n
 eq:∀j,j<lo->H.g j=Hs.g j
def SrR.stay{Hs:d7}{lo K:Nat}{s:StD}{H H':d7}{D:LV}(h:SrR Hs lo K s H D)(z:d9 H.n H H'):SrR Hs lo K s H' D:=by
 have I:=z.n;have E:=h.low;exact⟨h.st.mono (fun j u=>z.g j u) (fun j u=>oM) iF iF,oM,fun j u=>by rw[z.g j oM,h.eq j u]⟩
section
variable{q:Q}{r:ReD}(kc:KdC q r){Hs:d7}{lo K:Nat}
include kc
end
def mq:∀(z u:LV),z.length=u.length->splice z 0 u=u:=by
 intro z u h;refine List.ext_getElem? fun i=>?_;rw[Q5 _ _ _ _ oM];by_cases D:i<u.length
 .rw[if_pos ⟨Nat.zero_le _,oM⟩,Nat.sub_zero]
 .rw[if_neg oM,List.getElem?_eq_none oM,List.getElem?_eq_none oM]
def R2(cs:LV)(a:Int×Int):Prop:=cs.length=2/\∀x∈cs,∃n,x=iV n
def OpS(H:d7)(F:Nat->Prop)(cs:LV)(o:OpD):Prop:=∃v,cs=[iV o.1,v]/\SlO H F 2 R2 v o.2
def OpO.s{H:d7}{F:Nat->Prop}{cs:LV}{o:OpD}(h:OpO H F cs o):OpS H F cs o:=by
 obtain⟨v,z,D⟩:=h;refine⟨v,z,D.imp fun cs a q=>?_⟩;obtain rfl:cs=pkE a:=q;exact⟨rfl,fun x u=>by simp [pkE]at u;rcases u with rfl|rfl<;>exact⟨_,rfl⟩⟩
def R2.set{cs:LV}{q a:Nat}{n:Int}{x:Int×Int}(h:R2 ((cs.drop a).take 2) x):R2 (((cs.set q (.int .i64 n)).drop a).take 2) x:=by
 rw[yE];split
 .exact h
 .refine⟨by rw[List.length_set];exact h.1,fun y u=>?_⟩;rcases List.mem_or_eq_of_mem_set u with k|k
  .exact h.2 y k
  .exact⟨n,k⟩
def SlO.spoil2{H:d7}{F:Nat->Prop}{v:Value}{l:List (Int×Int)}{u q:Nat}{cs:LV}{n:Int}(h:SlO H F 2 R2 v l)(O:H.g u=cE cs 2):SlO (H.put u (.cells (cs.set q (.int .i64 n)) true 2)) F 2 R2 v l:=by
 rcases h with h|⟨b,o,c,U,h⟩
 .exact .inl h
 .refine .inr ⟨b,o,c,U,h.imp id fun⟨D,E,z,I,J⟩=>?_⟩;by_cases e:b=u
  .subst e;obtain rfl:cs=D:=by rw[O]at z;cases z;rfl
   exact⟨_,E,i9 (u6 O),by rw[List.length_set];exact I,fun i a S=>(J i a S).set⟩
  .exact⟨D,E,by rw[j7 (fun q=>e q.symm)];exact z,I,J⟩
def PL{lo:Nat}{H:d7}{v:Value}{L:List OpD}{G:Nat->Prop}{u q:Nat}{cs:LV}{n:Int}(h:L8 2 OpS lo H v L G)(E:G u)(O:H.g u=cE cs 2):L8 2 OpS lo (H.put u (.cells (cs.set q (.int .i64 n)) true 2)) v L G:=by
 have J:=h.fr u E;refine⟨(h.own.imp fun c e r=>?_).same fun b I=>j7 (fun e=>J.2.2 (e▸I)),fun j S=>by rw[j9];exact h.fr j S⟩;obtain⟨w,z,D⟩:=r;exact⟨w,z,D.spoil2 O⟩
def Ee{lo:Nat}{H:d7}{v:Value}{L:List OpD}{G:Nat->Prop}(h:L8 2 OpS lo H v L G){i:Nat}(O:i<L.length):∃x b c cs w,L[i]?=some x/\v=sL b L.length c/\H.g b=cE cs 2/\cs[i*2]?=some (.int .i64 x.1)/\cs[i*2+1]?=some w/\SlO H G 2 R2 w x.2:=by
 obtain⟨x,D,_⟩:=P5 (l:=L) (i:=i) O;obtain⟨b,c,cs,E,S,U,I,W,w,z,J⟩:=h.own.at_ D;have u:=E7 (k:=0) oM z;rw[Nat.add_zero]at u;exact⟨x,b,c,cs,w,D,E,I,u,by rw[E7 (k:=1) oM z];rfl,J⟩
def Lo(Hb:d7)(lo:Nat)(v p1 p7 p9:Value)(L:List OpD)(G:Nat->Prop)(i:Nat)(x:OpD)(hx:L[i]?=some x)(hl:L.length<=1000000)(a7:x.2.length<=4294967296):
  ∀kk e H,(∃j:Nat,kk=x.2.length-j/\j<=x.2.length/\e.g 1=p1/\e.g 7=p7/\e.g 9=p9/\e.g 10=v/\e.g 11=iV i/\e.g 13=iV j/\L8 2 OpS lo H v L G/\d9 lo Hb H)->
  u7 (LE prog gR (.loop Yo) e H) (fun o e H=>o= .exit 4/\e.g 1=p1/\e.g 7=p7/\e.g 9=p9/\e.g 10=v/\e.g 11=iV i/\L8 2 OpS lo H v L G/\d9 lo Hb H):=by
 refine i5 _ _ ?_;rintro kk e H ⟨j,hk,hj,f1,f7,f9,E,z,J,hR,hS⟩;have hi:i<L.length:=(gS hx).1;obtain⟨x',b,c,cs,w,W,hv,hg,a4,I,S⟩:=Ee hR hi;rw[hx]at W;cases W;obtain⟨aa,ac,U⟩:=S.slf.slice;have u:=E;rw[hv]at u;have X:(i:Int).toNat=i:=tN i;have a2:(j:Int).toNat=j:=tN j;rw[U]at I;have a3:decide ((i:Int)<L.length)=true:=decide_eq_true oM;rcases b0:decide ((j:Int)<x.2.length)with _|_
 .refine J7 u z J hg X I b0 ?_;exact i6 ⟨rfl,f1,f7,f9,E,z,hR,hS⟩
 .have D:=dT b0;rcases S with⟨_,h⟩|⟨gb,o,c',e1,h|⟨ca,hG,O,a5,a6⟩⟩
  .rw[h]at D;simp only[List.length_nil]at D;omega
  .rw[h]at D;simp only[List.length_nil]at D;omega
  .rw[U]at e1;cases e1;have hf:=hR.fr gb hG;have a1:(o+j*2+1+1<=ca.length)=True:=eq_true oM;refine J11 u z J hg X a2 I b0 O a1 @wrap_small ?_;exact d8 (kk-1) oM ⟨j+1,oM,oM,f1,f7,f9,E,z,by rw[show((j+1:Nat):Int)=(j:Int)+1 from oM];rfl,PL hR hG O,hS.trans (d9.put hf.1)⟩
def Ln(H0:d7)(lo:Nat)(v p1 p7 p9:Value)(L:List OpD)(W:(L.map (·.1)).Nodup)(G:Nat->Prop)(i:Nat)(x:OpD)(hx:L[i]?=some x)(hl:L.length<=1000000)(hR:L8 2 OpS lo H0 v L G):
  ∀kk e H,(∃j:Nat,kk=i-j/\j<=i/\e.g 1=p1/\e.g 7=p7/\e.g 9=p9/\e.g 10=v/\e.g 11=iV i/\e.g 12=iV j/\H=H0)->
  u7 (LE prog gR (.loop Yn) e H) (fun o e H=>o= .exit 2/\e.g 1=p1/\e.g 7=p7/\e.g 9=p9/\e.g 10=v/\e.g 11=iV i/\H=H0):=by
 refine i5 _ _ ?_;rintro kk e H ⟨j,hk,hj,f1,f7,f9,z,h,D,rfl⟩;have hi:i<L.length:=(gS hx).1;rcases O:decide ((j:Int)<i)with _|_
 .refine J3 h D O ?_;exact i6 ⟨rfl,f1,f7,f9,z,h,rfl⟩
 .have a5:=dT O;obtain⟨x',b,c,cs,w,J,hv,hg,S,a4,a6⟩:=Ee hR hi;rw[hx]at J;cases J;obtain⟨y,b2,c2,a3,w2,hy,I,E,U,_,_⟩:=Ee hR (i:=j) oM;rw[hv]at I;cases I;rw[hg]at E;cases E;have u:=z;rw[hv]at u;have a1:(i:Int).toNat=i:=tN i;have a2:(j:Int).toNat=j:=tN j;have X:x.1≠y.1:=by
   intro q;have h1:(L.map (·.1))[i]?=some x.1:=by rw[List.getElem?_map,hx];rfl
   have h2:(L.map (·.1))[j]?=some x.1:=by rw[List.getElem?_map,hy,q];rfl
   have:=(List.getElem?_inj (by rw[List.length_map];omega) W).1 (h1.trans h2.symm);omega
  have dn:decide (x.1=y.1)=false:=decide_eq_false X;refine J11 u h D O hg a1 a2 S U dn @wrap_small ?_;exact d8 (kk-1) oM ⟨j+1,oM,oM,f1,f7,f9,z,h,by rw[show((j+1:Nat):Int)=(j:Int)+1 from oM];rfl,rfl⟩
def Hy(J:d7)(lo:Nat)(v p1 E I:Value)(L:List OpD)(a4:(L.map (·.1)).Nodup)(G:Nat->Prop)(hl:L.length<=1000000)(a3:∀x∈L,x.2.length<=4294967296):
  ∀kk e H,(∃i:Nat,kk=L.length-i/\i<=L.length/\e.g 1=p1/\e.g 7=E/\e.g 9=I/\e.g 10=v/\e.g 11=iV i/\L8 2 OpS lo H v L G/\d9 lo J H)->
  u7 (LE prog gR (.loop Yp) e H) (fun o e H=>o= .exit 0/\e.g 1=p1/\e.g 7=E/\e.g 9=I/\d9 lo J H):=by
 refine i5 _ _ ?_;rintro kk e H ⟨i,hk,hi,f1,f7,f9,D,u,W,hS⟩;obtain⟨va,vc,a6⟩:=W.own.slice;have h:=D;rw[a6]at h;rcases O:decide ((i:Int)<L.length)with _|_
 .refine J3 h u O ?_;exact i6 ⟨rfl,f1,f7,f9,hS⟩
 .have a2:i<L.length:=oN (dT O);obtain⟨x,hx,_⟩:=P5 (l:=L) (i:=i) a2;refine J3 h u O ?_;refine i8 (F:=fun z=>u7 (t7 (inBlock 1 (t7 (inBlock 2 z) _)) _) _) (Ln H lo v p1 E I L a4 G i x hx hl W i _ _ ⟨0,rfl,Nat.zero_le _,f1,f7,f9,D,u,rfl,rfl⟩) ?_;rintro o1 e1 H1 ⟨a5,g1,g7,g9,S,U,rfl⟩;refine J1 a5 ?_;refine i8 (F:=fun z=>u7 (t7 (inBlock 1 (inBlock 4 z)) _) _) (Lo J lo v p1 E I L G i x hx hl (a3 x (mG hx)) x.2.length _ _ ⟨0,rfl,Nat.zero_le _,g1,g7,g9,S,U,rfl,W,hS⟩) ?_;rintro o' e' H' ⟨ho,k1,k7,k9,a7,a8,X,a1⟩;refine J3 ho a8 @wrap_small ?_;exact d8 (kk-1) oM ⟨i+1,oM,oM,k1,k7,k9,a7,by rw[show((i+1:Nat):Int)=(i:Int)+1 from oM];rfl,X,a1⟩
def Zk(K:Nat)(H:d7)(lo:Nat)(cs:LV)(q:Q)(v:Value)(l:List EvD)(U:Nat)(g2:lo<=H.n)(hr:QR H lo K false cs q)(hv:N8 H lo v l)(hc:eO v)(hn:l.length<=1048576)(c6:U<=255):
  CL prog gR 7 [.agg cs.toArray,v,.int .u8 U] H=some (.bool true,none):=by
 have ac:=I6 hr;have ldc:=Q6 hr;have l0:=hr.len;simp only[qSz,bF]at l0;rw[l0]at ldc;obtain⟨va,vc,d1⟩:=hv.slice;obtain⟨S,I,n1,g1,s1⟩:=pushF H (bC cs 1);have f3:S.low=H.n:=by rw[I];rfl
 have c9:QR S lo K false cs q:=hr.mono (fun j hj=>s1.g j oM) lR;have b1:N8 S lo v l:=hv.mono (fun j hj=>s1.g j oM) lR;have h8:=rz S;obtain⟨t,h9,ht⟩:=Mx S lo v l oM b1 hn
 replace h9:=I4 h9
 rw[i7 fn7 rfl _ sM];cases t with
 |false=>simp(maxSteps:=20000000) -dsimp (disch:=first|omega|(simp only[rH]<;>omega)|fail) only[↓fk,rQ,N1,sevalprocAttr,tyA,ac,<-I,h8,h9]
 |true=>
  obtain⟨b0,c5,hB⟩:=ht rfl;obtain⟨vq,hq,H2,a3,O,h,t,rfl,W,E,s2,hk⟩:=qX K S lo cs q oM c9;have n2:=s2.n;obtain⟨H3,J,n3,x3,-⟩:=pushE H2 (bC z12 1);obtain⟨H4,D⟩:=eY (H3.put H2.n (bC h 1));have n4:H4.n=H2.n+1:=by rw[D,j9,n3]
  have x4:H4.g H2.n=cE h 1:=by rw[D];exact i9 oM
  have a4:d9 H2.n H2 H4:=by rw[D,J];exact(d9.push lR).trans (d9.put lR)
  have e1:d9 S.n S H4:=s2.trans (a4.wk oM);have X:splice z12 0 h=h:=mq z12 h (by rw[W];rfl);have b9:h.take 12=h:=List.take_of_length_le oM;obtain⟨k,a8⟩:=eY (U % l.length);have c8:k<l.length:=by rw[a8];exact Nat.mod_lt _ b0
  have u:=gL U l.length b0;rw[<-a8]at u;have hw:=uv c6;obtain⟨ev,he,hd⟩:=B8 c8;have c3:DcR lo l S v:=⟨b1,.inl hc,c5,hB,oM⟩
  have a1:=c3.stay e1;obtain⟨eb,eo,ec,f5,e6,el,a2,e8,a7,f0,a9,g0,e7,c7⟩:=a1.row he;have tk:((k:Nat):Int).toNat=k:=tN k;have b2:H.n<=H4.low:=a4.lowAll _ oM (s2.lowAll _ oM oM);simp only[z12]at J x3 X;cases t with
  |false=>
   rw[d1]at h9 ⊢;exact J16 ac I.symm g1 ldc h8 h9 a3 O W E J.symm x3 X D.symm hw u trivial
  |true=>
  obtain⟨Hs,r,kc,e9,d5⟩:=hk rfl;obtain⟨m,hg⟩:=kc.gr;have b6:=d5.stay a4;rcases d3:decide (ev.kind=3)with _|_
  .have e3:=dF d3;obtain⟨c0,f6,H5,d2,b4,⟨G5,O5⟩,s5⟩:=Ret.one (wJ kc b6 a1 he e3);have n5:=s5.n;obtain⟨b3,lB⟩:=nz hg l k;have d0:L8 2 OpS H4.n H5 c0 (ak r l k) G5:=⟨O5.own.imp fun _ _ q=>q.s,O5.fr⟩
   have f2:=a2;subst a2;refine J24 ac I.symm g1 ldc h8 h9 a3 O W E J.symm x3 X D.symm hw u a7 tk a9 d3 x4 b9 d2 b4 ?_;refine i8 (F:=fun z=>t6 _ _ _ (t7 (inBlock 0 z) _)=_) (Hy H4 H4.n c0 _ _ _ (ak r l k) (Dr r l k) G5 oM (kE b3 oM) (ak r l k).length _ _ ⟨0,rfl,Nat.zero_le _,rfl,rfl,rfl,rfl,rfl,d0,s5⟩) ?_;rintro o' e' H6 ⟨ho,f1,f7,f9,s6⟩;have n6:=s6.n;have b7:=b6.stay s6;have a5:=a1.stay s6;obtain⟨e5,g3,H7,e2,b8,⟨G7,O7⟩,s7⟩:=Ret.one (wJ kc b7 a5 he e3);have n7:=s7.n;have d6:=b7.stay s7;have c4:=a5.stay s7;obtain⟨e4,f8,H8,d4,b5,⟨G8,O8⟩,s8⟩:=Ret.one (Mu kc d6 c4 hc he e3);have n8:=s8.n;have a6:=I4 (Mt H8 e5 e4 (ak r l k) ((O7.keep u9 s8).sl u9) (O8.sl u9) oM (kE b3 oM));have x6:=(s6.g H2.n oM).trans x4;have x7:=(s7.g H2.n oM).trans x6;have f4:H.n<=H8.low:=s8.lowAll _ oM (s7.lowAll _ oM (s6.lowAll _ oM b2));exact J12 ho f1 f7 f9 x6 b9 e2 b8 x7 d4 b5 a6 trivial
  .subst a2;exact J20 ac I.symm g1 ldc h8 h9 a3 O W E J.symm x3 X D.symm hw u a7 tk a9 d3 trivial
end Go.Proofs.YtjlpdddmmnijoaaGreatDoor.Ve
namespace Go.Proofs.YtjlpdddmmnijoaaGreatDoor.levelKeeps
open Go.ChangeShapes Go.WideShapes Go.ChangeAt Go.RowKit
open Go.Proofs.Tryz (prog)
open Go Ve card
abbrev EH:Array Value:= #[FZ,.slice none 0 0,.int .u8 0]
def HH(h:Os):laidMet prog AG ((M8 h).forCall (fun _ _=>0) ⟨#[],EH,[]⟩).memory:=
 laidMet_of_run' 8 kR kR
def TE(u:Os){H:Type}(enc:TypeId×Value->H):∃h,DataW.whole enc prog ((M8 u).forCall (fun _ _=>0) ⟨#[],EH,[]⟩).memory [36,22,5] [] false EH.toList 8=some ([.agg [.lit (.int .i64 0),.nil,.nil],.nil,.lit (.int .u8 0)],[],h):=
 ⟨[],kR⟩
def iZ(D:Os)(h:D.Started)(H:Type)(enc:TypeId×Value->H)(F:Stop.Interp):
  ReturnsInHanded {} Tryz.checked D 7 .any ((Rows.OpenSpec.upto Rows.levelKeepsSpec).preRow enc prog Tryz.f7 Rows.levelKeepsUptoRow.domain false Rows.levelKeepsUptoRow.laid) (((Rows.OpenSpec.upto Rows.levelKeepsSpec).at F).post enc prog Tryz.f7 false true false false):=by
 obtain⟨I,S⟩:=TE D enc;refine returnsInHanded_of_row (C:=Tryz.checked) (s:=Rows.OpenSpec.upto Rows.levelKeepsSpec) own h kR Tryz.func7
  (witness_row_at (enc:=enc) (C:=Tryz.checked) false (M8 D) EH rfl kR kR kR
   (OpenSpec.preRow_of_cond 8 S kR (fun k O=>by cases O;kernel_rfl) kR (HH D))) ?_
 intro W base args ds U E z J _ u _ X _ _;exact x8 Tryz.params7 rfl rfl (fun _ _ _=>rfl) Zk z J (u _ rfl)
def yJ:Rows.LevelKeepsUptoSaid:=
 OpenClaim.holds_of_cond 7 Tryz.f7 rfl rfl rfl rfl rfl rfl rfl ⟨rfl,rfl,rfl,rfl,rfl⟩ rfl rfl rfl rfl rfl kR Tryz.func7 kR
  (dT kR) (by unfold Func.isWrapper;first|(rw[if_pos (by decide+kernel)];kernel_rfl)|(rw[if_neg (by decide+kernel)];exact⟨rfl,rfl⟩))
  (fun u h H enc _ F=>by rw[OpenClaim.pre_eq_preRow];exact iZ u h H enc F)
def cardUpto:Rows.LevelKeepsUptoCardSaid:=
 Claim7.holds_tied_plain_at .later [] _ _ _ _ yJ (fun _ h=>by cases h) kR (fun _ h=>by cases h) levelKeepsUpto_row_tie rfl ⟨rfl,rfl⟩ kR rfl (w7 kR Tryz.func7 kR kR) kR
end Go.Proofs.YtjlpdddmmnijoaaGreatDoor.levelKeeps
namespace Go.Proofs.YtjlpdddmmnijoaaGreatDoor
open Go Go.RowKit
open Go.Proofs.Tryz (prog)
theorem levelKeeps_holds:Rows.LevelKeepsUptoCardSaid:=levelKeeps.cardUpto
end Go.Proofs.YtjlpdddmmnijoaaGreatDoor
