/- The law of the view returns true for every input of bulk at most 1048576. Conditions: that bulk. -/
import Derived.Test.YtbekeboballbgaaGreatDoorPe
set_option linter.unusedVariables false
set_option linter.unusedSimpArgs false
set_option linter.defProp false
set_option linter.unusedSectionVars false
set_option maxHeartbeats 0
set_option autoImplicit true
set_option relaxedAutoImplicit true
set_option maxRecDepth 1000000
namespace Go.Proofs.YtbekeboballbgaaGreatDoor
open Go Go.RowKit
def ads:=@Nat.pow_le_pow_right
def ad5:=@List.length_pos_of_mem
def ad6:=@List.getElem?_set_self
def aec:=@trodAll_cons_mk
end Go.Proofs.YtbekeboballbgaaGreatDoor
namespace Go.Proofs.YtbekeboballbgaaGreatDoor.Ve
open Go Go.RowKit
open Go.Proofs.Tryz (prog)
abbrev pkE(x:Int×Int):LV:=[iV x.1,iV x.2]
def OpO(H:d7)(F:Nat->Prop)(cs:LV)(o:OpD):Prop:=∃v,cs=[iV o.1,v]/\SlO H F 2 (u9 pkE) v o.2
def C5:cJ OpO:=fun H H' G G' cs a h E D=>by
 obtain⟨v,u,z⟩:=h;exact⟨v,u,z.mono E D⟩
def FF(H:d7){α:Type}{R:LV->α->Prop}{cs:LV}{a:α}(h:cs.length=sz)(z:R cs a):SlO (H.push (.cells cs true sz)) (· =H.n) sz R (sL H.n 1 c) [a]:=by
 refine .inr ⟨H.n,0,c,rfl,.inr ⟨cs,rfl,j7,by simp [h],fun i x u=>?_⟩⟩;cases i with
 |zero=>
  have:a=x:=by simpa using u
  subst this;rw[aa8,aaf,aan,<-h,abZ];exact z
 |succ i=>simp at u
def S3.lt{α:Type}{E:d7->(Nat->Prop)->LV->α->Prop}{l:List α}(h:S3 sz E lo H v l G){b:Nat}(u:j8 v b):lo<=b/\b<H.n:=h.own.lt u
def X1(p:Int)(k:Nat):List OpD:=(List.range k).map fun(k:Nat)=>((k:Int),[(p,(k:Int))])
def Gq(p:Int)(k:Nat):(X1 p k).length=k:=by simp [X1]
def fx(p:Int)(k:Nat):X1 p (k+1)=X1 p k++[((k:Int),[(p,(k:Int))])]:=by simp [X1,acA]
def Dr(H:d7)(n:Nat)(p:Int)(hn:n<=1000000):
  ∀U e H2,(∃(k:Nat)(w:aet)(G:Nat->Prop),U=n-k/\k<=n/\e.g 1=iV p/\e.g 5=w/\e.g 9=iV n/\e.g 10=iV k/\S3 2 OpO H.n H2 w (X1 p k) G/\d9 H.n H H2/\H.n<=H2.low)->
  u7 (LE prog l7 (.loop SO) e H2) (fun o e H2=>o= .exit 0/\∃(w:aet)(G:Nat->Prop),e.g 5=w/\S3 2 OpO H.n H2 w (X1 p n) G/\d9 H.n H H2/\H.n<=H2.low):=by
 refine i5 _ _ ?_;rintro U e H2 ⟨k,w,G,hk,a1,f1,f5,E,u,I,J,hl⟩;rcases b:decide ((k:Int)<n)with _|_
 .have O:=dF b;obtain rfl:k=n:=oM;refine J3 E u b ?_;exact i6 ⟨rfl,w,G,f5,I,J,hl⟩
 .have O:=dT b;have a3:=J.n;obtain⟨H3,z,n3,-,X⟩:=pushE H2 (bC [iV p,iV k] 2);have S:SlO H3 (· =H2.n) 2 (u9 pkE) (sL H2.n 1 1) [(p,(k:Int))]:=by rw[z];exact FF H2 rfl rfl
  have a2:=Gq p k;obtain⟨v',h',H4,ra,W,D,h⟩:=(I.keep C5 X).push (P:=prog) (t:=100) (a:=((k:Int),[(p,(k:Int))])) (cs:=[iV k,sL H2.n 1 1]) C5 (by exact Wo.2.2.2.2.2.2) JS.1 JS.2.1 JS.2.2.1 oM oM rfl ⟨_,rfl,S⟩ (fun j hj=>⟨oM,oM,fun q=>by have:=I.lt q;omega⟩) oM oM;have n4:=h.n;rw[<-fx]at D;refine J9 f1 f5 E u b z.symm ra W @wrap_small ?_;exact d8 (U-1) oM ⟨k+1,v',_,oM,oM,f1,rfl,E,rfl,D,J.trans ((X.wk oM).trans h.stay),h.stay.lowAll _ lR (X.lowAll _ oM hl)⟩
def NG(U W:LV->Q->Prop)(r:ReD)(H:d7)(h:LV)(hR:fh H (· <H.n) U W h r)(D:h.length=12)(E:h.all oC=true)(hl:r.sorts.length<=1000000)(p:Int):
  Ret (CL prog l7 86 [.agg h.toArray,iV p] H) H (fg 2 OpO H (Kv r p)):=by
 obtain⟨rs,vl,w1,w2,w3,u,a4,a3,O,a5,a2⟩:=hR;have S:rs.length=8:=by rw[u]at D;simpa using D
 obtain⟨X,c1,rfl⟩:=O.slice;have q9:h[9]?=some (.slice X r.sorts.length c1):=by rw[u,aao oM,S];rfl
 obtain⟨H1,I,-,g1,s1⟩:=pushF H (bC h 1);rw[i8 Pu rfl _ sM];refine J4 E I.symm g1 q9 ?_;refine j5 (F:=fun z=>Ret (t6 _ _ _ (u6 (inBlock 0 z) _)) _ _) (Dr H r.sorts.length p hl r.sorts.length _ _ ⟨0,_,_,rfl,aaJ _,rfl,rfl,rfl,rfl,S3.nil,s1,by rw[I];exact lR⟩) ?_;rintro o' e' H' ⟨ho,w,G,h5,hO,hS,J⟩;refine J2 ho h5 ?_;exact cd C5 hO hS J
structure KdC(q:Q)(r:ReD):Prop where
 ok:OkD false q
 nq:nQ q<=400
 mkq:eU q=some r
 wf:WfR r (A3 (C3 q).progs).toNat
 lab:∀e∈r.labels,SmE e/\(e.kind=1\/e.kind=2)
 m24:(C6 q).st<=24
def KdC.gr(h:KdC q r):∃m,N1 r m:=(cP h.mkq).1
def KdC.strat(h:KdC q r):r.strat=C3 q:=(cP h.mkq).2.1
structure RcR(Hs:d7)(lo K:Nat)(r:ReD)(H:d7)(row:LV):Prop where
 hR:fh H (· <H.n) (QR Hs lo K false) (QR Hs lo K true) row r
 l12:row.length=12
 one:row.all Value.oneCell'=true
 low:lo<=H.n
 eq:∀j,j<lo->H.g j=Hs.g j
section
variable{Hs:d7}{lo K:Nat}{r:ReD}{H H':d7}{row:List Value}
def RcR.stay(h:RcR Hs lo K r H row)(z:d9 H.n H H'):RcR Hs lo K r H' row:=by
 have E:=z.n;have D:=h.low;exact⟨h.hR.mono (fun j u=>z.g j u) (fun j u=>oM),h.l12,h.one,oM,fun j u=>by rw[z.g j oM,h.eq j u]⟩
def RcR.form(h:RcR Hs lo K r H row):∃S la lc U c1 W c2 X c3,row[8]?=some (.slice la r.labels.length lc)/\row[9]?=some (.slice U r.sorts.length c1)/\row[10]?=some (.slice W r.size.length c2)/\row[11]?=some (.slice X r.how.length c3)/\
  ldC (some true) (some 8) 0 row=some (.agg S.toArray)/\row.take 12=row/\StF H (· <H.n) (QR Hs lo K false) (QR Hs lo K true) S r.strat/\SlI H H.n 5 (EvF H (· <H.n)) (.slice la r.labels.length lc) r.labels/\SlI H H.n 3 (u9 soE) (.slice U r.sorts.length c1) r.sorts/\SlI H H.n 1 (u9 inE) (.slice W r.size.length c2) r.size/\SlI H H.n 3 (u9 hoE) (.slice X r.how.length c3) r.how:=by
 obtain⟨S,vl,w1,w2,w3,u,J,E,I,O,D⟩:=h.hR;obtain⟨pa,pc,ga,gc,xa,xc,ea,ec,ta,tc,a4,_⟩:=E9 J;have z:S.length=8:=by rw[a4];rfl
 obtain⟨U,c1,rfl⟩:=I.slice;obtain⟨W,c2,rfl⟩:=O.slice;obtain⟨X,c3,rfl⟩:=D.slice;obtain⟨la,lc,rfl⟩:=E.slice;have a5:=h.l12;refine⟨S,la,lc,U,c1,W,c2,X,c3,?_,?_,?_,?_,?_,A2 oM,J,E,I,O,D⟩
 .rw[u,aao oM,z];rfl
 .rw[u,aao oM,z];rfl
 .rw[u,aao oM,z];rfl
 .rw[u,aao oM,z];rfl
 .rw[gJ _ _ _ oM,u,aan,aba oM,A2 oM]
end
def Qu{r:ReD}(D:KdC q r){Hs:d7}{lo K:Nat}{H:d7}{row:LV}(h:RcR Hs lo K r H row)(z:EvF H (· <H.n) el e)(u:e.attrs.length<=1000000)(f n:Int):
  CL prog l7 88 [.agg row.toArray,.agg el.toArray,iV f,iV n] H=some (.int .i64 (R4 r e f n),none):=
 Qt Hs lo K r _ D.wf H row h.hR h.low h.eq h.one el e z u f n
def IO{r:ReD}{f n:Int}(h:0<=R4 r e f n):R4 r e f n<r.sorts.length:=by
 rw[R4]at h ⊢;split
 .rename_i D;rcases dR (fun y=>bV (L8 r.strat e (r.sorts.getD f.toNat soZ) (r.sorts.getD n.toNat soZ)) y) r.sorts 0 with⟨_,u⟩|⟨_,u,z⟩
  .rw[u];omega
  .omega
 .omega
def jH(r:ReD)(n:Nat)(o:OpD):Prop:=0<=o.1/\o.1<r.sorts.length/\o.2.length<=2 ^ n
def jH.up{r:ReD}{n m:Nat}(h:jH r n o)(k:n<=m):jH r m o:=⟨h.1,h.2.1,abw h.2.2 (ads oM k)⟩
def zj{r:ReD}(h:N1 r m)(n:Nat):∀o∈zO,jH r n o:=by
 have l0:0<r.sorts.length:=(gS h.s0).1;intro o u;have:o=(0,[]):=by simpa [zO] using u
 rw[this];exact⟨abG _,by show(0:Int)<_;omega,aaJ _⟩
def Jj{r:ReD}{n:Nat}(J:∀o∈E,jH r n o) (I:∀o∈bs,jH r n o):∀o∈jV r e E bs [],jH r (n+1) o:=by
 intro o D;rcases ui _ _ D with D|⟨f,z,b,u,h,rfl⟩
 .cases D
 .have O:=(J f z).2.2;have S:=(I b u).2.2;refine⟨h,IO h,?_⟩;show(f.2++b.2).length<=_;rw[ib,Nat.pow_succ];omega
def gN{r:ReD}(z:N1 r m)(l:List EvD):∀(n a:Nat)(p:Int)(u:Bool),∀o∈dt r l n a p u,jH r n o
 |0,a,p,u,o,h=>by cases h
 |n+1,a,p,u,o,h=>by
  rw[dt]at h;split at h
  .obtain⟨k,E,rfl⟩:=aau.1 h;have:=aaz.1 E;have D:1<=2 ^ (n+1):=Nat.one_le_two_pow;exact⟨by show(0:Int)<=(k:Int);omega,by show(k:Int)<_;omega,by show 1<=_;exact D⟩
  .split at h
   .cases h
   .split at h
    .exact zj z _ o h
    .refine Jj (fun o h=>?_) (gN z l n _ _ _) o h;split at h
     .exact zj z _ o h
     .exact gN z l n _ _ _ o h
def mO:∀{n:Nat}{l:List Int},l.Nodup->(∀x∈l,0<=x/\x<n)->l.length<=n
 |0,[],_,_=>lR
 |0,x::l,_,hb=>oN (hb x sM)
 |n+1,l,h,hb=>by
  by_cases z:(n:Int)∈l
  .have E:=List.length_erase_of_mem z;have I:=mO (n:=n) (l:=l.erase (n:Int)) (h.erase _) (fun x u=>by
    have D:=(List.Nodup.mem_erase_iff h).1 u;have:=hb x D.2;have:=D.1;omega)
   have:=ad5 z;omega
  .have:=mO (n:=n) h (fun x u=>by
    have:=hb x u;have:x≠n:=fun q=>z (q▸u);omega)
   omega
def lP{r:ReD}(u:N1 r m)(l:List EvD)(n a:Nat)(p:Int)(h:Bool):(dt r l n a p h).length<=r.sorts.length:=by
 have:=mO (AX r l n a p h) (fun x z=>by obtain⟨o,ho,rfl⟩:=aau.1 z;have:=gN u l n a p h o ho;exact⟨this.1,this.2.1⟩)
 simpa using this
end Go.Proofs.YtbekeboballbgaaGreatDoor.Ve
namespace Go.Proofs.YtbekeboballbgaaGreatDoor.Ve
open Go Go.RowKit
def jK{α:Type}(H:d7)(lo sz:Nat)(R:LV->α->Prop)(w:aet)(l:List α):Prop:=
 (w= .slice none 0 0/\l=[])\/∃b cs,w= .slice (some ⟨b,0,none⟩) l.length (l.length+1)/\lo<=b/\H.g b=some (.cells cs true sz)/\l.length*sz<=cs.length/\∀(i:Nat) a,l[i]?=some a->R ((cs.drop (i*sz)).take sz) a
section
variable{α:Type}{R:List Value->α->Prop}{H H':d7}{lo sz:Nat}{w:Value}{l:List α}
def jK.nil:jK H lo sz R (.slice none 0 0) ([]:List α):= .inl ⟨rfl,rfl⟩
def jK.slice(h:jK H lo sz R w l):∃a c,w= .slice a l.length c:=by
 rcases h with⟨rfl,rfl⟩|⟨b,cs,h,_⟩
 .exact⟨none,0,rfl⟩
 .exact⟨_,_,h⟩
def jK.sl(h:jK H lo sz R w l):SlI H H.n sz R w l:=by
 rcases h with h|⟨b,cs,z,I,u,J,D⟩
 .exact .inl h
 .exact .inr ⟨b,0,_,z,.inr ⟨cs,true,u5 u,u,oM,fun i a E=>by rw[aaH];exact D i a E⟩⟩
def jK.slf(h:jK H lo sz R w l):SlF H (fun j=>lo<=j/\j<H.n) sz R w l:=by
 rcases h with h|⟨b,cs,z,D,u,J,E⟩
 .exact .inl h
 .exact .inr ⟨b,0,_,z,.inr ⟨cs,true,⟨D,u5 u⟩,u,oM,fun i a I=>by rw[aaH];exact E i a I⟩⟩
def jK.keep(h:jK H lo sz R w l)(I:d9 H.n H H'):jK H' lo sz R w l:=by
 rcases h with h|⟨b,cs,z,D,u,E⟩
 .exact .inl h
 .exact .inr ⟨b,cs,z,D,(I.g b (u5 u)).trans u,E⟩
def jK.na(h:jK H lo sz R w l)(u:N8 w=true):w= .slice none 0 0/\l=[]:=by
 rcases h with h|⟨b,cs,rfl,_⟩
 .exact h
 .cases u
def jK.push{P:Program}{t e:TypeId}{bytes:Nat}{z cs:LV}{a:α}(ht:P.underlying t=some (.slice e))(hs:D3 P e=some sz)(hb:Q2 P e=some bytes)(hz:N3 P e=some z)(h0:0<sz)(h1:0<bytes)
  (h:jK H lo sz R w l) (D:cs.length=sz) (hR:R cs a) (hr:(l.length+1)*bytes<=140737488355328) (S:lo<=H.n):
  Ret (A8 P (H.push (.cells cs true sz)) [t,t] w (.slice (some ⟨H.n,0,none⟩) 1 1)) (H.push (.cells cs true sz)) fun v' H'=>jK H' lo sz R v' (l++[a])/\d9 lo H H':=by
 have J:(H.push (.cells cs true sz)).n=H.n+1:=i4;have X:d9 H.n H (H.push (.cells cs true sz)):=d9.push lR;have W:F8 P t=some e:=by simp [F8,ht]
 have a3:A6 (H.push (.cells cs true sz)) sz (.slice (some ⟨H.n,0,none⟩) 1 1)=some cs:=by
  have:cs.take sz=cs:=A2 oM;simp [A6,j7,D,this]
 have u:P5 P (H.push (.cells cs true sz)) sz z (some t) (.slice (some ⟨H.n,0,none⟩) 1 1)=some (1,cs):=by
  simp only[P5,aas,ht,a3,aaU]
 have U:¬(sz=0\/bytes=0):=oM;rcases h with⟨rfl,rfl⟩|⟨b,O,rfl,k1,k2,k3,k4⟩
 .refine⟨.slice (some ⟨H.n+1,0,none⟩) 1 2,some ((H.push (.cells cs true sz)).push (.cells cs true sz)),_,?_,rfl,.inr ⟨H.n+1,cs,rfl,oM,by rw[<-J];exact j7,by simp [D],fun i x I=>?_⟩,(X.wk S).trans (d9.push oM)⟩
  .simp only[A8,aa1,aas,W,hs,hb,hz,aap,aar,bt U,u];rw[bt oM,cA (by simpa using hr),dw,J]
  .cases i with
   |zero=>
    have:a=x:=by simpa using I
    subst this;rw[aa8,aan,A2 oM];exact hR
   |succ i=>simp at I
 .have a1:=u5 k2;have hg:(H.push (.cells cs true sz)).g b=some (.cells O true sz):=(X.g b a1).trans k2;have E:((O.drop 0).take (l.length*sz)).length=l.length*sz:=by rw[aan,abC];omega
  refine⟨.slice (some ⟨H.n+1,0,none⟩) (l.length+1) (l.length+1+1),some (((H.push (.cells cs true sz)).put b .dead).push (.cells ((O.drop 0).take (l.length*sz)++cs) true sz)),_,?_,rfl,.inr ⟨H.n+1,(O.drop 0).take (l.length*sz)++cs,by simp,oM,y9 ⟨by rw[j9,J];exact lR,by rw[j9,J];exact lR⟩,by rw[@ib _ l _,ib,E,D,aaD,aaP];omega,fun i x I=>?_⟩,(X.wk S).trans ((d9.put k1).trans (d9.push (by rw[j9,J];omega)))⟩
  .simp only[A8,aa1,aas,W,hs,hb,hz,aap,aar,bt U,u,hg];rw[bt oM,cA hr,cA ⟨oM,trivial⟩,bt oM,cA trivial,dw,J]
  .by_cases hi:i<l.length
   .rw[xd hi]at I;have hm:i*sz+sz<=l.length*sz:=by rw[<-adZ];exact aaW _ hi
    rw[ab8 oM,aba (by rw[abc,E];omega),aan,List.drop_take,acL,adt oM];exact k4 i x I
   .have a2:i=l.length:=by
     have:=(gS I).1;simp at this;omega
    subst a2;have:a=x:=by simpa using I
    subst this;have e1:((O.drop 0).take (l.length*sz)++cs).drop (l.length*sz)=cs:=List.drop_left' E;rw[e1,A2 oM];exact hR
def jK.pop{P:Program}{t e:TypeId}(U:P.underlying t=some (.slice e))(S:D3 P e=some sz)(h0:0<sz)(h:jK H lo sz R w l)(E:l≠ []):
  ∃v',L5 P H t w none (some (.int .i64 ((l.length:Int)-1))) none=some v'/\jK H lo sz R v' l.dropLast:=by
 have hp:=acY.2 E;rcases h with⟨_,rfl⟩|⟨b,cs,rfl,W,I,k3,X⟩
 .exact absurd rfl E
 .have J:bnd (some (Value.int .i64 ((l.length:Int)-1))) l.length=some (l.length-1):=by
   simp only[bnd];rw[cA oM]
   congr 1;omega
  have D:l.dropLast.length=l.length-1:=act;have hm:(l.length-1)*sz<=l.length*sz:=aaW _ oM;refine⟨.slice (some ⟨b,0,none⟩) (l.length-1) (l.length-1+1),?_,.inr ⟨b,cs,by rw[D],W,I,by rw[D];omega,fun i a z=>?_⟩⟩
  .have u:bnd none 0=some 0:=rfl;simp only[L5,U,S,J,u,mX,I];simp only[bt (show¬sz=0 from oM),bt (show¬l.length=0 from oM),ne_eq,abU,acb,bt (show¬l.length+1=l.length from oM),cA (show 0<=l.length-1/\l.length-1<=l.length from oM),aa8,aaf,adY]
  .have O:i<l.length-1:=oN ((gS z).1);rw[List.getElem?_dropLast,cA oM]at z;exact X i a z
end
end Go.Proofs.YtbekeboballbgaaGreatDoor.Ve
namespace Go.Proofs.YtbekeboballbgaaGreatDoor.Ve
open Go Go.RowKit
open Go.Proofs.Tryz (prog)
abbrev ntE(n:Nat):LV:=[iV n]
def y8(l:List EvD):∀j,(E4 l j).length<=j
 |0=>lR
 |j+1=>by
  have h:=y8 l j;rw[E4];split
  .omega
  .split
   .simp;omega
   .split
    .simp;omega
    .omega
def lx(H:d7)(lo:Nat)(v:aet)(l:List EvD)(b6:lo<=H.n)(hv:Z6 H lo v l)(hn:l.length<=1000000)(hb:∀j,0<=dep 0 (l.take j)):
  ∀kk e H2,(∃(i:Nat)(w:aet),kk=l.length-i/\i<=l.length/\e.g 0=v/\e.g 3=w/\e.g 4=iV i/\jK H2 H.n 1 (u9 ntE) w (E4 l i)/\d9 H.n H H2/\H.n<=H2.low)->
  u7 (LE prog l7 (.loop Yt) e H2) (fun o e H2=>o= .exit 0/\∃w:aet,e.g 3=w/\jK H2 H.n 1 (u9 ntE) w (E4 l l.length)/\d9 H.n H H2/\H.n<=H2.low):=by
 refine i5 _ _ ?_;rintro kk e H2 ⟨i,w,hk,hi,f0,W,f4,O,J,hl⟩;obtain⟨va,vc,a8⟩:=hv.slice;have a9:=J.n;rcases b:decide ((i:Int)<l.length)with _|_
 .have a3:=dF b;obtain rfl:i=l.length:=oM;subst a8;refine J3 f0 f4 b ?_;exact i6 ⟨rfl,w,W,O,J,hl⟩
 .have a3:=dT b;obtain⟨D,he,hd⟩:=C7 (l:=l) (i:=i) oM;obtain⟨be,oe,ce,b4,b3,aa,ac,z,b1,a4,b5,a6,_⟩:=iL hv he;have ke:=F1 (k:=0) oM a6;rw[aaf]at ke;have u:=(J.g be oM).trans a4;have h:=f0;rw[z]at h;have b7:=y8 l i;have b2:∀w',jK H2 H.n 1 (u9 ntE) w' (E4 l i)->True:=fun _ _=>trivial;by_cases I:D.kind=1
  .have d1:decide (D.kind=1)=true:=yo I;have S:decide (D.kind=3)=false:=kA oM;have hq:E4 l (i+1)=E4 l i++[i]:=by rw[E4,he];simp only;rw[cA I]
   obtain⟨v',h',H3,ra,b0,a1,E⟩:=O.push (P:=prog) (t:=30) (a:=i) (cs:=[iV i]) (by exact OK.2.2.2.2.2.2) ty3.1 ty3.2.1 ty3.2.2.1 oM oM rfl rfl oM a9;rw[<-hq]at a1;have a2:=(E.g be oM).trans u;refine J12 h W f4 b u ke d1 ra b0 a2 S @wrap_small ?_;exact d8 (kk-1) oM ⟨i+1,v',oM,oM,by rw[z];exact h,rfl,rfl,a1,J.trans E,E.lowAll _ lR hl⟩
  .have d1:decide (D.kind=1)=false:=kA I;by_cases U:D.kind=3
   .have S:decide (D.kind=3)=true:=yo U;have hq:E4 l (i+1)=(E4 l i).dropLast:=by rw[E4,he];simp only;rw[bt I,cA U]
    have a5:E4 l i≠ []:=by
     intro q;have q1:=am hb i oM;have q2:=hb (i+1);rw[pU he,A7,bt I,cA U,<-q1,q]at q2;simp at q2
    obtain⟨v',a7,X⟩:=O.pop (P:=prog) (t:=30) (by exact OK.2.2.2.2.2.2) ty3.1 oM a5;rw[<-hq]at X;obtain⟨wa,wc,rfl⟩:=O.slice;refine J10 h W f4 b u ke d1 S a7 @wrap_small ?_;exact d8 (kk-1) oM ⟨i+1,v',oM,oM,by rw[z];exact h,rfl,rfl,X,J,hl⟩
   .have S:decide (D.kind=3)=false:=kA U;have hq:E4 l (i+1)=E4 l i:=by rw[E4,he];simp only;rw[bt I,bt U]
    rw[<-hq]at O;refine J9 h W f4 b u ke d1 S @wrap_small ?_;exact d8 (kk-1) oM ⟨i+1,w,oM,oM,by rw[z];exact h,W,rfl,O,J,hl⟩
def Xf(H:d7)(s:List Nat)(w:aet)(H':d7):Prop:=SlF H' (fun j=>H.n<=j/\j<H'.n) 1 (u9 ntE) w s/\d9 H.n H H'
def Zw(H:d7)(lo:Nat)(v:aet)(l:List EvD)(D:lo<=H.n)(J:Z6 H lo v l)(W:l.length<=1000000)(U:∀j,0<=dep 0 (l.take j)):Ret (CL prog l7 30 [v] H) H (Xf H (E4 l l.length)):=by
 obtain⟨va,vc,a1⟩:=J.slice;rw[i8 Zm rfl _ sM];refine J1 ty3 ?_;refine j5 (F:=fun z=>Ret (t6 _ _ _ (u6 (inBlock 0 z) _)) _ _) (lx ⟨H.bs,H.n⟩ lo v l D (J.mono (fun _ _=>rfl) lR) W U l.length _ _ ⟨0,_,rfl,aaJ _,rfl,rfl,rfl,jK.nil,d9.refl _ _,lR⟩) ?_;rintro o' e' H' ⟨X,w,O,I,S,u⟩;refine J2 X O ?_;refine F9 (fun E _=>?_) ⟨?_,((d9.start H).trans S).ret u⟩
 .obtain⟨rfl,h⟩:=I.na E;exact⟨.inl ⟨rfl,h⟩,d9.refl _ _⟩
 .exact I.slf.mono (fun _ _=>rfl) (fun _ h=>h) iF
def kz(H0:d7)(W:Option Addr)(X:Nat)(s:List Nat)(hv:SlI H0 H0.n 1 (u9 ntE) (.slice W s.length X) s)(hn:s.length<=1000000)(a:Nat)(r:Bool):
  ∀J e H2,(∃(i:Nat),J=s.length-i/\i<=s.length/\e.g 1=iV a/\e.g 5= .slice W s.length X/\e.g 6=iV i/\H2=H0/\(s.drop i).any (fun x=>decide ((x:Int)=a))=r)->
  u7 (LE prog l7 (.loop RE) e H2) (fun o e H2=>H2=H0/\((o= .exit 0/\r=false)\/(o= .ret/\e.g 4= .bool true/\r=true))):=by
 refine i5 _ _ ?_;rintro J e H2 ⟨i,hk,hi,D,u,E,rfl,h⟩;rcases b:decide ((i:Int)<s.length)with _|_
 .have I:=dF b;rw[dN oM]at h;refine J3 u E b ?_;exact i6 ⟨rfl,.inl ⟨rfl,h.symm⟩⟩
 .have I:=dT b;obtain⟨y,nb,o,cs,own,el,hx,hd,rfl,a2,O,a1,S,hc,rfl⟩:=hv.row (i:=i) oM;have z:=hc 0 oM;rw[aaf,aaK]at z;rw[hd,acf]at h;have U:(i:Int).toNat=i:=tN i;rcases d:decide ((y:Int)=a)with _|_
  .rw[d,abA]at h;refine J10 D u E b O U z d @aaK @wrap_small ?_;exact d8 (J-1) oM ⟨i+1,oM,oM,D,u,rfl,rfl,h⟩
  .rw[d,abR]at h;refine J10 D u E b O U z d @aaK @wrap_small ?_;exact w9 ⟨rfl,.inr ⟨rfl,rfl,h.symm⟩⟩
def Zv(H:d7)(lo:Nat)(v:aet)(l:List EvD)(J:lo<=H.n)(hv:Z6 H lo v l)(hn:l.length<=1000000)(hb:∀j,0<=dep 0 (l.take j)) (a:Nat):CL prog l7 14 [v,iV a] H=some (.bool (decide (a∈E4 l l.length)),none):=by
 obtain⟨va,vc,a2⟩:=hv.slice;obtain⟨w,h,W,U,I,E,s1⟩:=Zw ⟨H.bs,H.n⟩ lo v l J (hv.mono (fun _ _=>rfl) lR) hn hb;have D:=E.sl (fun j hj=>hj.2);have X:=y8 l l.length;have u:(E4 l l.length).any (fun x=>decide ((x:Int)=a))=decide (a∈E4 l l.length):=by
  rw[abW];simp only[aa3,xo]
  constructor
  .rintro⟨x,hx,q⟩;obtain rfl:x=a:=oM;exact hx
  .intro q;exact⟨a,q,rfl⟩
 obtain⟨wa,wc,rfl⟩:=D.slice;have a1:H.n<=W.low:=s1.lowAll _ lR lR;rw[i8 Ty rfl _ sM];refine J2 U I ?_;refine j5 (F:=fun z=>t6 _ _ _ (u6 (inBlock 0 z) _)=_) (kz W wa wc _ D oM a _ (E4 l l.length).length _ _ ⟨0,rfl,aaJ _,rfl,rfl,rfl,rfl,u⟩) ?_;rintro o' e' H' ⟨rfl,⟨O,S⟩|⟨O,h4,S⟩⟩
 .exact J2 O S trivial
 .exact J3 O h4 S trivial
structure DcR(lo:Nat)(l:List EvD)(H:d7)(v:aet):Prop where
 ev:Z6 H lo v l
 cap:Yb v l
 n30:l.length<=30
 beg:D8 l=true
 low:lo<=H.n
def DcR.stay{lo:Nat}{l:List EvD}{H H':d7}(h:DcR lo l H v)(u:d9 H.n H H'):DcR lo l H' v:=by
 have E:=u.n;have D:=h.low;exact⟨h.ev.mono (fun j z=>u.g j oM) lR,h.cap,h.n30,h.beg,oM⟩
def Xn{H:d7}{lo:Nat}(h:EvR H lo D e)(F:Nat->Prop)(U:∀j,j<lo->F j):EvF H F D e/\e.attrs.length<=1048576:=by
 obtain⟨v,I,u,_,_,_,z⟩:=h;refine⟨⟨v,I,?_⟩,z⟩;rcases u with u|⟨b,o,c,X,u⟩
 .exact .inl u
 .exact .inr ⟨b,o,c,X,u.imp id fun⟨E,own,J,O,S,z⟩=>⟨E,own,U b J,O,S,fun i a W=>(z i a W).1⟩⟩
def DcR.row{lo:Nat}{l:List EvD}{H:d7}(h:DcR lo l H v)(I:l[i]?=some u):
  ∃b o c cs own el,v= .slice (some ⟨b,o,none⟩) l.length c/\b<lo/\H.g b=some (.cells cs own 5)/\ldC (some true) (some 5) (o+i*5) cs=some (.agg el.toArray)/\cs[o+i*5]?=some (.int .i64 u.kind)/\EvF H (· <H.n) el u/\u.attrs.length<=1000000/\(u.kind=1\/u.kind=2\/u.kind=3):=by
 obtain⟨b,o,c,cs,own,X,U,W,D,J⟩:=h.ev.at_ I;have hl:=h.low;have O:=(U7 h.beg I).2.1;obtain⟨S,_⟩:=Xn J (· <H.n) (fun j hj=>oM);obtain⟨av,z,_⟩:=id J;have E:=F1 (k:=0) oM z;rw[aaf]at E;exact⟨b,o,c,cs,own,_,X,U,W,Z2 D rfl,E,S,nX O,gU O⟩
def DcR.pos{lo:Nat}{l:List EvD}{H:d7}(h:DcR lo l H v):∀j,0<=dep 0 (l.take j):=gd h.beg
def Ca(H:d7)(lo c:Nat)(h:lo<=H.n):S3 2 OpO lo (H.push (bC [iV 0,nS] 2)) (sL H.n 1 c) zO (fun _=>False):=
 S3.one C5 rfl ⟨_,rfl,.inl ⟨rfl,rfl⟩⟩ (fun j u=>u.elim) h
def yz(r:ReD)(e:EvD)(h:List OpD)(f b:OpD):(gQ r e h f b).length<=h.length+1:=by
 rw[gQ];split
 .omega
 .rw[ik];split
  .omega
  .simp
def rj(r:ReD)(e:EvD)(f b:OpD)(bs h:List OpD):ip r e f (b::bs) h=ip r e f bs (gQ r e h f b):=rfl
def Bh(r:ReD)(e:EvD)(f:OpD)(u bs h:List OpD):jV r e (f::u) bs h=jV r e u bs (ip r e f bs h):=rfl
def ur(r:ReD)(e:EvD)(f:OpD):∀(bs h:List OpD),(ip r e f bs h).length<=h.length+bs.length
 |[],h=>lR
 |b::bs,h=>by
  have u:=ur r e f bs (gQ r e h f b);have z:=yz r e h f b;rw[rj,A1];omega
section
variable{q:Q}{r:ReD}(kc:KdC q r){Hs:d7}{lo K:Nat}
include kc
end
section
variable{q:Q}{r:ReD}(kc:KdC q r){Hs:d7}{lo K:Nat}
include kc
end
def UL(H:d7)(n:Nat)(hn:n<=4398046511104):Ret (CL prog l7 91 [nS,iV n] H) H (fun v H'=>d9 H.n H H'/\((n=0/\v=nS)\/(0<n/\∃cs,v=sL H.n 0 1/\H'.g H.n=cE cs 2))):=by
 have h:∀H,D9 prog .cap [52] [nS] H=some (.int .i64 0,none):=fun H=>by simp [D9,DE,goInt]
 have J:∀H,L5 prog H 52 (nS) none (some (.int .i64 0)) none=some (nS):=fun H=>by simp [L5,DE,to,bnd]
 rw[i8 VF rfl _ sM];have S:decide ((n:Int)<0)=false:=kA oM;have e1:(n:Int)-(0-0)=n:=oM;by_cases E:n=0
 .subst E;refine J3 h @wrap_small S ?_;exact⟨_,none,_,rfl,rfl,d9.refl _ _,.inl rfl⟩
 .have X:decide ((0:Int)<n)=true:=yo oM;have I:∀H,A8 prog H [52,3] (nS) (.int .i64 n)=some (sL H.n n (n+1),some (H.push (.cells (List.replicate n [iV (0),iV (0)]).flatten true 2))):=fun H=>by
   have z:P5 prog H 2 [iV (0),iV (0)] (some 3) (.int .i64 n)=some (n,(List.replicate n [iV (0),iV (0)]).flatten):=by
    simp only[P5,aas,ty3,cA (show(0:Int)<=n from oM),aay]
   simp only[A8,aa1,aas,DE,to,aap,aar,z];rw[bt oM,bt E,cA oM]
  have O:∀(H:d7) b cs,H.g b=cE cs 2->L5 prog H 52 (sL b n (n+1)) none (some (.int .i64 0)) none=some (sL b 0 1):=fun H b cs hg=>by
   simp [L5,DE,to,bnd,mX,hg,E]
  obtain⟨W,u,-,U,s1⟩:=pushF H (.cells (List.replicate n [iV (0),iV (0)]).flatten true 2);have D:=O W H.n _ U;have e2:(0:Int)-0=0:=rfl;have e3:(n:Int)-0=n:=oM;refine J11 h @wrap_small S X e1 e2 e3 J I u.symm D ?_;exact⟨_,some _,_,rfl,rfl,s1.ret (by rw[u];exact lR),.inr ⟨oM,_,rfl,U⟩⟩
def kO{α:Type}{P:Program}{t e:TypeId}{bytes lo sz n b:Nat}{R:LV->α->Prop}{H:d7}{l:List α}(W:P.underlying t=some (.slice e))(U:D3 P e=some sz)(O:Q2 P e=some bytes)(X:N3 P e=some z)(h0:0<sz)(h1:0<bytes)
  (S:H.g b=some (.cells cs true sz)) (J:lo<=b) (hx:SlI H n sz R x l) (hr:l.length*bytes<=140737488355328):
  Ret (A8 P H [t,t] (sL b 0 1) x) H fun v' H'=>(l=[]/\v'=sL b 0 1/\H'=H)\/(l≠ []/\t7 H' lo sz R v' l/\d9 lo H H'):=by
 obtain⟨a,c,el,rfl,q1,q2⟩:=hx.rows;have a1:=u5 S;have E:F8 P t=some e:=by simp [F8,W]
 have u:P5 P H sz z (some t) (.slice a l.length c)=some (l.length,el):=by
  simp only[P5,aas,W,q1,aaU]
 have D:¬(sz=0\/bytes=0):=oM;by_cases I:l.length=0
 .refine⟨_,none,H,?_,rfl,.inl ⟨aag.1 I,rfl,rfl⟩⟩;simp only[A8,aa1,aas,E,U,O,X,aap,aar,bt D,u];rw[cA I,dw]
 .refine⟨sL H.n (0+l.length) (0+l.length+1),some ((H.put b .dead).push (.cells ([]++el) true sz)),_,?_,rfl,.inr ⟨fun h=>I (by rw[h];rfl),⟨el,.inr ⟨H.n,_,by rw[aaH],by show((H.put b .dead).push (.cells el true sz)).g H.n=some (.cells el true sz);exact y9 ⟨by rw[j9];exact lR,by rw[j9];exact lR⟩,oM,q2.1⟩,q2⟩,(d9.put J).trans (d9.push (by rw[j9];omega))⟩⟩;simp only[A8,aa1,aas,E,U,O,X,aap,aar,bt D,u,S];rw[bt I,cA (by simpa using hr),cA sM,bt oM,cA trivial,dw];simp
def UG(H:d7)(b c:Nat)(v1 v2:aet)(u l2:List (Int×Int))(hg:H.g b=cE [v1,v2] 1)(h1:SlI H H.n 2 (u9 pkE) v1 u)(h2:SlI H H.n 2 (u9 pkE) v2 l2)(hn:u.length+l2.length<=4398046511104):
  Ret (CL prog l7 50 [sL b 2 c] H) H (fun v H'=>t7 H' H.n 2 (u9 pkE) v (u++l2)/\d9 H.n H H'):=by
 have a7:=u5 hg;have a3:d7.g ⟨H.bs,H.n⟩ b=cE [v1,v2] 1:=hg;obtain⟨U,c1,rfl⟩:=h1.slice;obtain⟨a2,c2,rfl⟩:=h2.slice;obtain⟨v8,k8,z,r8,c3,s8,a5⟩:=UL ⟨H.bs,H.n⟩ (u.length+l2.length) hn;have n8:=s8.n;have z8:d7.n ⟨H.bs,H.n⟩=H.n:=rfl;rw[z8]at s8 n8 a5;have es:(0:Int)+u.length+l2.length=((u.length+l2.length:Nat):Int):=oM;have d1:decide ((0:Int)+u.length<0)=false:=kA oM;have d2:decide (((u.length+l2.length:Nat):Int)<0)=false:=kA oM;have w1:IntKind.i64.wrap ((0:Int)+u.length)=0+u.length:=wrap_small oM oM;have w2:IntKind.i64.wrap (((u.length+l2.length:Nat):Int))=((u.length+l2.length:Nat):Int):=wrap_small oM oM;have W:SlI z H.n 2 (u9 pkE) (.slice U u.length c1) u:=h1.mono (fun j hj=>(s8.g j hj).trans rfl) lR iF;have g1:z.g b=cE [.slice U u.length c1,.slice a2 l2.length c2] 1:=(s8.g b a7).trans hg;obtain⟨v9,k9,H2,r9,c4,s9,b9⟩:∃v h H2,A8 prog z [52,52] v8 (.slice U u.length c1)=dw v h/\h.getD z=H2/\d9 H.n z H2/\((u=[]/\v=v8/\H2=z)\/(u≠ []/\t7 H2 H.n 2 (u9 pkE) v u)):=by
  rcases a5 with⟨hz,rfl⟩|⟨hp,b4,rfl,a4⟩
  .obtain⟨v,h,H2,E,I,D,S⟩:=(t7.nil (H:=z) (lo:=H.n) (sz:=2) (R:=u9 pkE)).append (P:=prog) (t:=52) (by exact DE.2.2.2.2.2.2) to.1 to.2.1 to.2.2.1 oM oM W (by simp;omega) n8;have b7:u=[]:=aag.1 oM;subst b7;obtain⟨v,h,H2,E,I,D⟩:∃v h H2,A8 prog z [52,52] (nS) (.slice U 0 c1)=dw v h/\h.getD z=H2/\(v=nS/\H2=z):=by
    refine⟨_,none,_,?_,rfl,rfl,rfl⟩;obtain⟨el,b6,c5⟩:=W.cells;have a6:P5 prog z 2 [iV (0),iV (0)] (some 52) (.slice U 0 c1)=some (0,el):=by
     simp only[P5,aas,DE];have a8:A6 z 2 (.slice U 0 c1)=some el:=b6;rw[a8];rfl
    simp only[A8,aa1,aas,DE,to,aap,aar,a6];rw[bt oM,cA trivial,dw]
   obtain⟨rfl,rfl⟩:=D;exact⟨_,_,_,E,I,d9.refl _ _,.inl ⟨rfl,rfl,rfl⟩⟩
  .obtain⟨v,h,H2,E,I,D⟩:=kO (P:=prog) (t:=52) (lo:=H.n) (by exact DE.2.2.2.2.2.2) to.1 to.2.1 to.2.2.1 oM oM a4 lR W oM;rcases D with⟨rfl,rfl,rfl⟩|⟨D,S,q5⟩
   .exact⟨_,_,_,E,I,d9.refl _ _,.inl ⟨rfl,rfl,rfl⟩⟩
   .exact⟨_,_,_,E,I,q5,.inr ⟨D,S⟩⟩
 have n9:=s9.n;have X:SlI H2 H.n 2 (u9 pkE) (.slice a2 l2.length c2) l2:=h2.mono (fun j hj=>by rw[s9.g j hj,s8.g j hj];rfl) lR iF;have g2:H2.g b=cE [.slice U u.length c1,.slice a2 l2.length c2] 1:=(s9.g b a7).trans g1;obtain⟨c8,c7,J,c0,b1,b2,O⟩:∃v h J,A8 prog H2 [52,52] v9 (.slice a2 l2.length c2)=dw v h/\h.getD H2=J/\d9 H.n H2 J/\t7 J H.n 2 (u9 pkE) v (u++l2):=by
  rcases b9 with⟨rfl,rfl,rfl⟩|⟨c6,b5⟩
  .rcases a5 with⟨hz,rfl⟩|⟨hp,b4,rfl,a4⟩
   .obtain⟨v,h,H2,E,I,D,S⟩:=(t7.nil (H:=H2) (lo:=H.n) (sz:=2) (R:=u9 pkE)).append (P:=prog) (t:=52) (by exact DE.2.2.2.2.2.2) to.1 to.2.1 to.2.2.1 oM oM X (by simp;omega) n8;exact⟨v,h,H2,E,I,S,D⟩
   .obtain⟨v,h,J,E,I,D⟩:=kO (P:=prog) (t:=52) (lo:=H.n) (by exact DE.2.2.2.2.2.2) to.1 to.2.1 to.2.2.1 oM oM a4 lR X oM;rcases D with⟨rfl,rfl,rfl⟩|⟨D,S,q5⟩
    .simp at hp
    .exact⟨_,_,_,E,I,q5,S⟩
  .obtain⟨v,h,J,E,I,D,S⟩:=b5.append (P:=prog) (t:=52) (by exact DE.2.2.2.2.2.2) to.1 to.2.1 to.2.2.1 oM oM X oM oM;exact⟨v,h,J,E,I,S,D⟩
 have a9:H.n<=z.low:=s8.lowAll _ lR lR;have b0:H.n<=J.low:=b2.lowAll _ lR (s9.lowAll _ lR a9);have b3:d9 H.n H J:=((d9.start H).trans s8).trans (s9.trans b2);rw[i8 TV rfl _ sM];have w3:IntKind.i64.wrap 1=1:=rfl;have w4:IntKind.i64.wrap 2=2:=rfl;refine J1 ty3 ?_;rw[Q9];refine J5 a3 d1 w1 w3 w4 ?_;rw[Q9];refine J8 a3 d1 w1 es w2 d2 w3 w4 ?_;rw[Q9];refine J10 a3 d1 w1 es w2 d2 r8 c3 w3 w4 ?_;rw[Q9];refine J5 g1 r9 c4 w3 w4 ?_;rw[Q9];refine J5 g2 c0 b1 w3 w4 ?_;rw[Q9];refine J1 ty3 ?_;refine F9 (fun b8 _=>⟨O.na b8 _ _,d9.refl _ _⟩) ⟨O.low _,b3.ret b0⟩
end Go.Proofs.YtbekeboballbgaaGreatDoor.Ve
namespace Go.Proofs.YtbekeboballbgaaGreatDoor.Ve
open Go Go.RowKit
section
variable{P:Program}{K:Type}[DecidableEq K]
def Cd(P:Program)(kt:TypeId)(enc:K->aet):Prop:=(∀x y,qy P kt (enc x) (enc y)=some (decide (x=y)))/\∀x,aH P kt (enc x)=true
def vY(enc:K->aet)(l:List K):Blk:= .map (l.map fun x=>(enc x,.bool true))
def sw(k:K)(l:List K):Bool:=l.any fun x=>decide (k=x)
def rr{kt:TypeId}(h:Cd P kt enc)(k:K):∀(l:List K)(i:Nat),∃q,jO P kt (enc k) (l.map fun x=>(enc x,.bool true)) i=some q/\((sw k l=true/\∃j,q=some (j,.bool true))\/(sw k l=false/\q=none))
 |[],i=>⟨none,rfl,.inr ⟨rfl,rfl⟩⟩
 |x::l,i=>by
  rw[aaQ,jO,h.1];by_cases u:k=x
  .simp only[u,decide_true];exact⟨_,rfl,.inl ⟨by simp [sw],_,rfl⟩⟩
  .simp only[u,aeq];obtain⟨q,z,D⟩:=rr h k l (i+1);refine⟨q,z,?_⟩;have:sw k (x::l)=sw k l:=by simp [sw,u]
   rw[this];exact D
def JD{kt et:TypeId}(h:Cd P kt enc)(D:jk P et=some (.bool false))(l:List K)(k:K):CJ P (some (kt,et)) (some (vY enc l)) (enc k) false=some (.bool (sw k l)):=by
 obtain⟨q,z,u⟩:=rr h k l 0;simp only[CJ,vY,h.2,aab,z,D];rcases u with⟨u,j,rfl⟩|⟨u,rfl⟩<;>rw[u]<;>rfl
def MI{kt et:TypeId}(h:Cd P kt enc)(l:List K)(k:K)(H:d7)(b:Nat)(D:sw k l=false):MX P (some (kt,et)) (some (vY enc l)) H b (enc k) (.bool true)=some (H.put b (vY enc (l++[k]))):=by
 obtain⟨q,z,u⟩:=rr h k l 0;rcases u with⟨u,j,rfl⟩|⟨u,rfl⟩
 .rw[D]at u;cases u
 .simp only[MX,vY,h.2,aab,z,abg,aaQ,acT]
def LC{kt:TypeId}(u:wl P kt=some [.int])(h:cY P kt=some false):Cd P kt (fun n:Int=>Value.int .i64 n):=by
 refine⟨fun x y=>?_,fun x=>?_⟩
 .have e:(x==y)=decide (x=y):=rfl;simp [qy,u,h,P7,e]
 .simp [aH,u,h,Y2,mI]
end
end Go.Proofs.YtbekeboballbgaaGreatDoor.Ve
namespace Go.Proofs.YtbekeboballbgaaGreatDoor.Ve
open Go Go.RowKit
open Go.Proofs.Tryz (prog)
def S3.same{α:Type}{sz lo:Nat}{E:d7->(Nat->Prop)->LV->α->Prop}{H H':d7}{l:List α}(D:cJ E)(h:S3 sz E lo H v l G)(J:H.n<=H'.n)(z:∀j,lo<=j->j<H.n->H'.g j=H.g j):S3 sz E lo H' v l G:=
 ⟨(h.own.imp fun cs e q=>D _ _ _ _ _ _ q (fun j u=>z j (h.fr j u).1 (h.fr j u).2.1) (fun _ h=>h)).same fun b I=>by have:=h.own.lt I;exact z b this.1 this.2,fun j u=>by have:=h.fr j u;exact⟨this.1,oM,this.2.2⟩⟩
structure Va(mb:Nat)(Hb H:d7):Prop where
 n:Hb.n<=H.n
 g:∀j,j<Hb.n->j≠mb->H.g j=Hb.g j
abbrev kiE(n:Int):aet:=iV n
structure ROI(H0 Hb:d7)(mb lw:Nat)(H:d7)(w:aet)(L:List OpD)(G:Nat->Prop):Prop where
 out:S3 2 OpO Hb.n H w L G
 but:Va mb Hb H
 st:d9 H0.n H0 H
 mp:H.g mb=some (vY kiE (L.map (·.1)))
 low:lw<=H.low
def tQ(L:List OpD)(k:Int):sw k (L.map (·.1))=L.any (fun y=>decide (y.1=k)):=by
 rw[sw,aer]
 congr 1
 funext y
 exact aaR.2 ⟨fun h=>h.symm,fun h=>h.symm⟩
section
variable{q:Q}{r:ReD}(kc:KdC q r){Hs:d7}{lo K:Nat}
include kc
theorem Jh{H0 Hb:d7}(rc:RcR Hs lo K r H0 f6)(gr:H0.g rb=cE f6 1)(m4:H0.n<=u)(k5:u<Hb.n)(lw:Nat)(m3:lw<=H0.n){l:List EvD}(dc:DcR lo l H0 v)(a:Nat)(E:EvD)(ha:l[a]?=some E)
  (fs bs:List OpD) (fv bv:aet) (e8:SlF Hb (fun j=>u<j/\j<Hb.n) 2 (OpO Hb (fun j=>u<j/\j<Hb.n)) bv bs) (lb:bs.length<=25) (n:Nat) (hn:n<=30) (kb:∀o∈bs,jH r n o)
  (i:Nat) (k3:i<=25) (f:OpD) (kf:jH r n f) (fp:aet) (d4:SlO Hb (fun j=>u<j/\j<Hb.n) 2 (u9 pkE) fp f.2) (fb:Nat) (m0:Hb.n<=fb) (R:List OpD):
  ∀kk e H2,(∃(j:Nat)(w:aet)(L:List OpD)(G:Nat->Prop),kk=bs.length-j/\j<=bs.length/\e.g 1=v/\e.g 2=iV a/\e.g 4=pT rb/\e.g 9=w/\e.g 10= .map (some u)/\e.g 11=bv/\e.g 13=pT fb/\e.g 42=fv/\e.g 43=iV fs.length/\e.g 44=iV i/\e.g 48=bv/\e.g 49=iV bs.length/\e.g 50=iV j/\
   ROI H0 Hb u lw H2 w L G/\H2.g fb=cE [iV f.1,fp] 1/\¬j8 w fb/\L.length<=i*25+j/\ip r E f (bs.drop j) L=R)->
  u7 (LE prog l7 (.loop SQ) e H2) (fun o e H2=>o= .exit 3/\∃(w:aet)(G:Nat->Prop),e.g 1=v/\e.g 2=iV a/\e.g 4=pT rb/\e.g 9=w/\e.g 10= .map (some u)/\e.g 11=bv/\e.g 42=fv/\e.g 43=iV fs.length/\e.g 44=iV i/\ROI H0 Hb u lw H2 w R G):=by
 refine i5 _ _ ?_;rintro kk e H2 ⟨j,w,L,G,hk,D,f1,f2,f4,f9,J,b5,a5,b7,b8,b9,z,O,c0,hI,e9,c5,hL,fu⟩;have n1:=hI.st.n;have nB:=hI.but.n;have n0:=hI.st.n;rcases b0:decide ((j:Int)<bs.length)with _|_
 .have h0:=dF b0;rw[dN oM]at fu;have g6:L=R:=fu;refine J3 O c0 b0 ?_;exact i6 ⟨rfl,w,G,f1,f2,f4,f9,J,b5,b7,b8,b9,by rw[<-g6];exact hI⟩
 .have h0:=dT b0;obtain⟨ba,bc,X⟩:=e8.slice;have c8:=e8;rw[X]at c8;obtain⟨b,i3,ob,l1,k6,l4,i1,h4,h3,e6,h8,k4,a4,l8,bp,h5,d3⟩:=c8.row (i:=j) oM;subst h3 h5;have i2:=kb b (mG i1);have l6:=e6.1;have b2:=(hI.but.g i3 e6.2 oM).trans h8;have tj:((j:Nat):Int).toNat=j:=tN j;have ta:((a:Nat):Int).toNat=a:=tN a;have l5:=(gS ha).1;obtain⟨va,vc,m6⟩:=dc.ev.slice;have i0:=u5 gr;obtain⟨H3,c3,n3,x3,-⟩:=pushE H2 (bC [iV 0,nS] 1);have e2:bp.oneCell'=true:=by
   obtain⟨aa,ac,rfl⟩:=d3.slf.slice;rfl
  obtain⟨H4,a6⟩:=eY (H3.put H2.n (bC [iV b.1,bp] 1));have n4:H4.n=H2.n+1:=by rw[a6,j9,n3]
  have x4:H4.g H2.n=cE [iV b.1,bp] 1:=by rw[a6];exact i7 oM
  have a8:d9 H2.n H2 H4:=by rw[a6,c3];exact(d9.push lR).trans (d9.put lR)
  have h6:=u5 e9;have S:=(a8.g fb h6).trans e9;have a9:=hI.st.trans (a8.wk n0);have j4:=rc.stay a9;have g2:=dc.stay a9;have d1:=(a9.g rb i0).trans gr;obtain⟨eb,eo,ec,l3,k1,el,c6,k2,d5,b3,m2,g7,g9,_⟩:=g2.row ha;have d2:=Qu kc j4 g7 g9 f.1 b.1;have d6:=rc.l12;have k0:=rc.one;obtain⟨rs,la,lc,a1,k7,a2,k8,a3,k9,q8,q9,n2,n8,m8,e4,_⟩:=rc.form;have I:=f1;rw[c6]at I;have e1:=(a8.g u oM).trans hI.mp;have f5:=LC (P:=prog) (kt:=3) ty3.2.2.2.2.2.1 ty3.2.2.2.2.1;have b4:=JD (P:=prog) (kt:=3) (et:=4) f5 ty4.2.2.2.1 (L.map (·.1)) (R4 r E f.1 b.1);rw[h4,rj]at fu;have f3:=yz r E L f b;have e3:splice [iV 0,nS] 0 [iV b.1,bp]=[iV b.1,bp]:=rfl;have W:ROI H0 Hb u lw H4 w L G:=⟨hI.out.keep C5 a8,⟨oM,fun j D hm=>by rw[a8.g j oM];exact hI.but.g j D hm⟩,a9,e1,a8.lowAll _ oM hI.low⟩
  rcases d0:decide (R4 r E f.1 b.1<0)with _|_
  .have e5:=dF d0;rw[tQ]at b4;rcases b1:(L.any fun y=>decide (y.1=R4 r E f.1 b.1))with _|_
   .have hp:gQ r E L f b=L++[(R4 r E f.1 b.1,f.2++b.2)]:=by rw[gQ,bt e5,ik];simp only;rw[b1,bt sM]
    rw[hp]at fu f3;rw[b1]at b4;obtain⟨H5,U⟩:=eY (H4.put u (vY kiE (L.map (·.1)++[R4 r E f.1 b.1])));have c9:=MI (P:=prog) (kt:=3) (et:=4) f5 (L.map (·.1)) (R4 r E f.1 b.1) H4 u (by rw[tQ];exact b1);rw[<-U]at c9;have n5:H5.n=H4.n:=by rw[U,j9]
    have z5:∀j,j≠u->H5.g j=H4.g j:=fun j D=>by rw[U,j6 (fun q=>D q.symm)]
    have m5:H5.g u=some (vY kiE (L.map (·.1)++[R4 r E f.1 b.1])):=by rw[U];exact i7 oM
    have g3:=(z5 fb oM).trans S;have x5:=(z5 H2.n oM).trans x4;obtain⟨H6,c4,n6,x6,-⟩:=pushE H5 (bC [fp,bp] 1);have z6:∀j,j<H5.n->H6.g j=H5.g j:=fun j D=>by rw[c4];exact i9 D
    have b6:∀j,u<j/\j<Hb.n->H6.g j=Hb.g j:=fun j D=>by rw[z6 j oM,z5 j oM];exact W.but.g j D.2 oM
    have pw:2 ^ n<=2 ^ 30:=ads oM hn;have pe:(2:Nat) ^ 30=1073741824:=by decide
    have m9:=kf.2.2;have m7:=i2.2.2;have g5:SlI H6 H6.n 2 (u9 pkE) fp f.2:=((d4.mono b6 (fun _ h=>h)).slf.sl (lo:=H6.n) (fun j D=>oM))
    have f7:SlI H6 H6.n 2 (u9 pkE) bp b.2:=((d3.mono b6 (fun _ h=>h)).slf.sl (lo:=H6.n) (fun j D=>oM))
    obtain⟨v7,h7,H7,r7,j2,O7,s7⟩:=UG H6 H5.n 2 fp bp f.2 b.2 x6 g5 f7 oM;have n7:=s7.n;have O5:S3 2 OpO Hb.n H7 w L G:=(W.out.same (H':=H6) C5 oM (fun j D m1=>by rw[z6 j oM,z5 j oM])).keep C5 s7;obtain⟨v9,h9,H9,r9,j3,O9,G9⟩:=O5.push (P:=prog) (t:=100) (a:=(R4 r E f.1 b.1,f.2++b.2)) (cs:=[iV (R4 r E f.1 b.1),v7]) (G2:=fun j=>H6.n<=j/\j<H7.n) C5 (by exact Wo.2.2.2.2.2.2) JS.1 JS.2.1 JS.2.2.1 oM oM rfl ⟨v7,rfl,O7.slo⟩ (fun j D=>⟨oM,D.2,fun q=>by have:=(W.out.lt q).2;omega⟩) oM oM;have n9:=G9.n;obtain⟨a7,c7,e7⟩:=O7.slice;have g1:v7.cells.toList=[v7]:=by rw[e7];rfl
    have j1:v7.oneCell'=true:=by rw[e7];rfl
    have z9:∀j,j<H2.n->j≠u->¬j8 w j->H9.g j=H4.g j:=fun j D hm hw=>by rw[G9.but j oM hw,s7.g j oM,z6 j oM,z5 j hm]
    have mw:¬j8 w u:=fun q=>oN (hI.out.lt q);have g8:ROI H0 Hb u lw H9 v9 (L++[(R4 r E f.1 b.1,f.2++b.2)]) (fun j=>G j\/H6.n<=j/\j<H7.n):=by
     refine⟨O9,⟨oM,fun j D hm=>?_⟩,⟨oM,fun k hk hq=>?_,fun j D=>?_⟩,?_,?_⟩
     .rw[z9 j oM hm (fun q=>by have:=hI.out.lt q;omega)];exact W.but.g j D hm
     .have h1:=a9.lowAll k hk hq;have h2:k<=H6.low:=by rw[c4,l9,U,A5];omega
      exact G9.stay.lowAll k oM (s7.lowAll k oM h2)
     .rw[z9 j oM oM (fun q=>by have:=hI.out.lt q;omega)];exact a9.g j D
     .rw[G9.but u oM mw,s7.g u oM,z6 u oM,m5,abg];rfl
     .have h2:lw<=H6.low:=by rw[c4,l9,U,A5];have:=W.low;omega
      exact G9.stay.lowAll _ oM (s7.lowAll _ oM h2)
    have g4:H9.g fb=cE [iV f.1,fp] 1:=by rw[z9 fb oM oM c5];exact S
    have f0:¬j8 v9 fb:=fun q=>by
     rcases G9.new fb q with q|q
     .exact c5 q
     .omega
    have j0:fp.oneCell'=true:=by
     obtain⟨aa,ac,rfl⟩:=d4.slf.slice;rfl
    have g0:fp.cells.toList=[fp]:=by
     obtain⟨aa,ac,rfl⟩:=d4.slf.slice;rfl
    have f8:bp.cells.toList=[bp]:=by
     obtain⟨aa,ac,rfl⟩:=d3.slf.slice;rfl
    rw[X]at z;refine J30 I f2 f4 f9 J a5 z O c0 b0 tj ta b2 a4 e2 (aI c3.symm x3) (aI e3 a6.symm) (aI x4 d1) (aI d6 e4) (aI d5 b3) (aI S d2) (aI d0 e1) (aI b4 c9) (aI U.symm g3) (aI x5 c4.symm) (aI r7 j2) (aI j0 g0) (aI f8 g1) (aI j1 r9) (aI j3 @wrap_small) ?_;exact d8 (kk-1) oM ⟨j+1,v9,_,_,oM,oM,by rw[c6];exact I,f2,f4,rfl,J,b5,a5,b7,b8,b9,by rw[X];exact z,O,rfl,g8,g4,f0,oM,fu⟩
   .have hp:gQ r E L f b=L:=by rw[gQ,bt e5,ik];simp only;rw[b1,cA rfl]
    rw[hp]at fu;rw[b1]at b4;rw[X]at z;refine J30 I f2 f4 f9 J a5 z O c0 b0 tj ta b2 a4 e2 c3.symm x3 e3 a6.symm x4 d1 d6 e4 d5 b3 S d2 d0 e1 (aI b4 @wrap_small) ?_;exact d8 (kk-1) oM ⟨j+1,w,L,G,oM,oM,by rw[c6];exact I,f2,f4,f9,J,b5,a5,b7,b8,b9,by rw[X];exact z,O,rfl,W,S,c5,oM,fu⟩
  .have hp:gQ r E L f b=L:=by rw[gQ,cA (dT d0)]
   rw[hp]at fu;rw[X]at z;refine J29 I f2 f4 f9 J a5 z O c0 b0 tj ta b2 a4 e2 c3.symm x3 e3 a6.symm x4 d1 d6 e4 d5 b3 S d2 d0 @wrap_small ?_;exact d8 (kk-1) oM ⟨j+1,w,L,G,oM,oM,by rw[c6];exact I,f2,f4,f9,J,b5,a5,b7,b8,b9,by rw[X];exact z,O,rfl,W,S,c5,oM,fu⟩
end
def mvS(good:List Bool)(kind:Int)(out:List Bool)(x:EdD):List Bool:=if decide (x.2.2.1=kind)&&good.getD x.1.toNat false then out.set x.2.1.toNat true else out
def SM(ed:List EdD)(n:Nat)(good:List Bool)(kind:Int):List Bool:=ed.foldl (mvS good kind) (List.replicate n false)
def yE(x:EdD):EdD:=(x.2.1,x.1,x.2.2.1,x.2.2.2)
def Sk(p:PrD)(h:List Bool)(u:Int):Ax p h u=SM (p.ed.map yE) p.st.toNat h u:=by
 rw[SM,List.foldl_map];rfl
def WI(h:List Bool)(u:Int)(z:List Bool)(x:EdD):(mvS h u z x).length=z.length:=by
 rw[mvS];split<;>simp
def Vg(ed:List EdD)(n:Nat)(h:List Bool)(u:Int):(SM ed n h u).length=n:=by
 have:∀(ed:List EdD)(z:List Bool),(ed.foldl (mvS h u) z).length=z.length:=by
  intro ed;induction ed with
  |nil=>intro _;rfl
  |cons x ed D=>intro z;rw[aak,D,WI]
 rw[SM,this,abI]
def Ju(p:PrD)(h:List Bool)(u:Int):(Ax p h u).length=p.st.toNat:=by rw[Sk,Vg]
def RL{H:d7}{b lo c:Nat}{bs:List Bool}(h:H.g b=cE (bs.map boV) 1)(z:lo<=b):t7 H lo 1 (u9 boE) (sL b bs.length c) bs:=by
 refine⟨bs.map boV,.inr ⟨b,c,rfl,h,z,by simp⟩,by simp,fun i a u=>?_⟩;rw[aaK,aav (by simpa using (gS u).1),abl,acy];simp only[adU];rw[(gS u).2]
def Pg(H:d7)(n:Nat)(u:n<=1000000):P9 prog H 67 (.int .i64 n) (.int .i64 n)=some (sL H.n n (n+1),H.push (.cells ((List.replicate n false).map boV) true 1)):=by
 have h:(List.replicate n [Value.bool false]).flatten=(List.replicate n false).map boV:=by
  rw[acr,adE]
 simp only[P9,WQ.2.2.2.2.2.1,ty4.2.2.1,ty4.2.1,aay,h];rw[cA ⟨by decide,oM,abG _,oM,oM⟩];rfl
def Vk(X:d7)(D n:Nat)(c9:D<X.n)(F:Nat->Prop)(hF:∀j,F j->j<X.n/\j≠D) (va:Option Addr) (ca:Nat) (l:List EdD) (hv:SlF X F 4 (u9 edE) (.slice va l.length ca) l) (hl:l.length<=1000000)
  (ga:Option Addr) (gc:Nat) (g:List Bool) (hg:SlF X F 1 (u9 boE) (.slice ga g.length gc) g) (b0:g.length=n) (hw:∀x∈l,0<=x.1/\x.1<n/\0<=x.2.1/\x.2.1<n) (kd:Int) (r:List Bool):
  ∀kk e H2,(∃(j:Nat)(bs:List Bool),kk=l.length-j/\j<=l.length/\e.g 1= .slice ga g.length gc/\e.g 2=iV kd/\e.g 7=sL D n (n+1)/\e.g 14= .slice va l.length ca/\e.g 15=iV l.length/\e.g 16=iV j/\bs.length=n/\H2.g D=cE (bs.map boV) 1/\Fr1 D X H2/\(l.drop j).foldl (mvS g kd) bs=r)->
  u7 (LE prog l7 (.loop SV) e H2) (fun o e H2=>o= .exit 0/\e.g 7=sL D n (n+1)/\r.length=n/\H2.g D=cE (r.map boV) 1/\Fr1 D X H2):=by
 refine i5 _ _ ?_;rintro kk e H2 ⟨j,bs,hk,hj,f1,f2,f7,z,h,S,E,gb,U,J⟩;rcases bb:decide ((j:Int)<l.length)with _|_
 .have b5:=dF bb;rw[dN oM,aaT]at J;refine J3 h S bb ?_;exact i6 ⟨rfl,f7,by rw[<-J];exact E,by rw[<-J];exact gb,U⟩
 have b5:=dT bb;have c8:=U.stay.n;obtain⟨x,nb,o,cs,own,el,hx,hd,rfl,a8,b7,c7,I,c6,u⟩:=hv.row (i:=j) oM;have u:el=edE x:=u;obtain⟨w1,w2,w3,w4⟩:=hw x (mG hx);have nt:(j:Int).toNat=j:=tN j;have gx:=(U.but nb (hF _ a8).1 (hF _ a8).2).trans b7;have a1:el.all oC=true:=by rw[u];rfl
 have l1:el.length=4:=by rw[u];rfl
 have e0:el[0]?=some (.int .i64 x.1):=by rw[u];rfl
 have e1:el[1]?=some (.int .i64 x.2.1):=by rw[u];rfl
 have e2:el[2]?=some (.int .i64 x.2.2.1):=by rw[u];rfl
 obtain⟨H3,W,n3,a3,s3⟩:=pushP H2 (bC [iV 0,iV 0,iV 0,iV 0] 1) (bC el 1);have a5:splice [iV 0,iV 0,iV 0,iV 0] 0 el=el:=y7 _ _ (by rw[l1];rfl);have O:Fr1 D X H3:=U.trans (Fr1.of s3 oM (by rw[W,A5,l9];omega));have a2:=(s3.g D oM).trans gb;have c0:x.2.1.toNat*1+1<=n:=oM;have bl:(bs.map boV).length=bs.length:=sM;obtain⟨H4,a4⟩:=eY (H3.put D (.cells ((bs.map boV).set (x.2.1.toNat*1) (.bool true)) true 1));have b3:H4.g D=some (.cells ((bs.set x.2.1.toNat true).map boV) true 1):=by rw[a4,i7 oM,aaK,acU]
 have b1:Fr1 D X H4:=O.trans (by rw[a4];exact Fr1.put);obtain⟨v,nv,ov,cv,c5,b2,c3,_,rfl,a9,b8,c4,b9,b6,b4⟩:=hg.row (i:=x.1.toNat) oM;obtain rfl:b2=boE v:=b4;have a6:cv[ov+x.1.toNat*1]?=some (.bool v):=by have:=b6 0 oM;rw[aaf]at this;exact this
 have ev:g.getD x.1.toNat false=v:=by rw[ma,c3];rfl
 have a7:=(O.but nv (hF _ a9).1 (hF _ a9).2).trans b8;have d1:decide ((x.1.toNat:Int)<n)=true:=yo oM;rw[hd,aak,mvS,ev]at J;rcases k0:decide (x.2.2.1=kd)with _|_
 .simp only[k0,abi,bF]at J;refine J18 f1 f2 f7 z h S bb gx nt I a1 l1 a5 W.symm a3 e2 k0 @wrap_small ?_;exact d8 (kk-1) oM ⟨j+1,bs,oM,oM,f1,f2,f7,z,h,rfl,E,a2,O,J⟩
 .cases v with
  |false=>
   simp only[k0,aaL,bF]at J;refine J23 f1 f2 f7 z h S bb gx nt I a1 l1 a5 W.symm a3 e0 e2 k0 a7 a6 b0 d1 @wrap_small ?_;exact d8 (kk-1) oM ⟨j+1,bs,oM,oM,f1,f2,f7,z,h,rfl,E,a2,O,J⟩
  |true=>
   simp only[k0,aaL,aab]at J;refine J29 f1 f2 f7 z h S bb gx nt I a1 l1 a5 W.symm a3 e0 e1 e2 k0 a7 a6 b0 d1 a2 E bl c0 a4.symm @wrap_small ?_;exact d8 (kk-1) oM ⟨j+1,_,oM,oM,f1,f2,f7,z,h,rfl,by rw[aaZ];exact E,b3,b1,J⟩
def w92(H:d7)(F:Nat->Prop)(Rt:LV->Q->Prop)(cs:LV)(p:PrD)(hF:∀j,F j->j<H.n) (hp:PrF H F Rt cs p) (n:Nat) (a7:p.st=n) (hn:n<=1000000) (hl:p.ed.length<=1000000) (ga:Option Addr) (gc:Nat) (g:List Bool) (hg:SlF H F 1 (u9 boE) (.slice ga g.length gc) g) (a5:g.length=n) (hw:∀x∈p.ed,0<=x.1/\x.1<n/\0<=x.2.1/\x.2.1<n) (W:Int):
  P4 (CL prog l7 92 [.agg cs.toArray,.slice ga g.length gc,iV W] H) H 1 (u9 boE) (SM p.ed n g W):=by
 obtain⟨ea,ec,ta,tc,u,h1,h2⟩:=E3 hp;have ac:cs.all oC=true:=by rw[u];rfl
 have c0:cs[0]?=some (.int .i64 n):=by rw[u,a7];rfl
 have c3:cs[3]?=some (.slice ea p.ed.length ec):=by rw[u];rfl
 obtain⟨D,E,n1,g1,s1⟩:=pushF H (bC cs 1);obtain⟨H2,I,n2,a2,s2⟩:=pushE D (.cells ((List.replicate n false).map boV) true 1);have J:=Pg D n hn;rw[<-I]at J;have a1:H2.g H.n=cE cs 1:=(s2.g _ oM).trans g1;have U:d9 H.n H H2:=s1.trans (s2.wk oM);have a4:∀j,F j->j<H2.n/\j≠D.n:=fun j hj=>oN (hF j hj);have hm:∀j,F j->H2.g j=H.g j:=fun j hj=>U.g j (hF j hj);have O:H.n<=H2.low:=by rw[I,l9,E];exact lR
 rw[i8 Pw rfl _ sM];refine J7 ac E.symm g1 c0 J a1 c3 ?_;refine j5 (F:=fun z=>P4 (t6 _ _ _ (u6 (inBlock 0 z) _)) _ _ _ _) (Vk H2 D.n n oM F a4 ea ec p.ed (h1.mono hm (fun _ h=>h) iF) hl ga gc g (hg.mono hm (fun _ h=>h) iF) a5 hw W (SM p.ed n g W) p.ed.length _ _ ⟨0,_,rfl,aaJ _,rfl,rfl,rfl,rfl,rfl,rfl,by simp,a2,Fr1.refl _ _,rfl⟩) ?_;rintro o e' H3 ⟨ho,k7,a6,a3,X⟩;have n3:=X.stay.n;have s3:d9 H.n H H3:=U.trans (X.stay.wk oM);have S:H.n<=H3.low:=(X.stay.wk (show H.n<=D.n from oM)).low O;refine J2 ho k7 ?_;have hO:=RL a3 (lo:=H.n) (c:=n+1) oM;rw[a6]at hO;exact I7 hO s3 S
def Wg(H D:d7)(u:Nat)(b6:H.n<=u)(c3:u<D.n)(F:Nat->Prop)(hF:∀j,F j->j<D.n/\j≠u) (va:Option Addr) (ca:Nat) (l:List EdD) (hv:SlF D F 4 (u9 edE) (.slice va l.length ca) l) (hl:l.length<=1000000) (W c1 c2 X ga:aet) (kd:Int):
  ∀kk e H2,(∃(j:Nat)(w:aet),kk=l.length-j/\j<=l.length/\e.g 1=ga/\e.g 2=iV kd/\e.g 7=pT u/\e.g 13= .slice va l.length ca/\e.g 14=iV l.length/\e.g 15=iV j/\H2.g u=cE [W,c1,c2,w,X] 1/\t7 H2 D.n 4 (u9 edE) w ((l.take j).map yE)/\Va u D H2/\d9 H.n H H2/\H.n<=H2.low)->
  u7 (LE prog l7 (.loop YH) e H2) (fun o e H2=>o= .exit 0/\e.g 1=ga/\e.g 2=iV kd/\e.g 7=pT u/\∃w,H2.g u=cE [W,c1,c2,w,X] 1/\t7 H2 D.n 4 (u9 edE) w (l.map yE)/\Va u D H2/\d9 H.n H H2/\H.n<=H2.low):=by
 refine i5 _ _ ?_;rintro kk e H2 ⟨j,w,hk,hj,f1,f2,f7,a2,I,a3,gp,U,hB,hS,E⟩;have nB:=hB.n;have b7:=hS.n;rcases bb:decide ((j:Int)<l.length)with _|_
 .have b4:=dF bb;rw[A2 oM]at U;refine J3 I a3 bb ?_;exact i6 ⟨rfl,f1,f2,f7,w,gp,U,hB,hS,E⟩
 have b4:=dT bb;obtain⟨x,nb,o,cs,own,el,hx,hd,rfl,a4,b5,c6,a6,c5,h⟩:=hv.row (i:=j) oM;have h:el=edE x:=h;have nt:(j:Int).toNat=j:=tN j;have gx:=(hB.g nb (hF _ a4).1 (hF _ a4).2).trans b5;have a1:el.all oC=true:=by rw[h];rfl
 have l1:el.length=4:=by rw[h];rfl
 have e0:el[0]?=some (.int .i64 x.1):=by rw[h];rfl
 have e1:el[1]?=some (.int .i64 x.2.1):=by rw[h];rfl
 have e2:el[2]?=some (.int .i64 x.2.2.1):=by rw[h];rfl
 have e3:el[3]?=some (.int .i64 x.2.2.2):=by rw[h];rfl
 obtain⟨H3,b2,n3,b0,s3⟩:=pushP H2 (bC [iV 0,iV 0,iV 0,iV 0] 1) (bC el 1);have b9:splice [iV 0,iV 0,iV 0,iV 0] 0 el=el:=y7 _ _ (by rw[l1];rfl);have J:=(s3.g u oM).trans gp;have c7:((l.take j).map yE).length=j:=by rw[aa7,abC];omega
 obtain⟨v',h',H4,ra,b8,O,G4⟩:=(U.keep s3).push1F (P:=prog) (t:=31) (a:=yE x) (cs:=[iV x.2.1,iV x.1,iV x.2.2.1,iV x.2.2.2]) (by exact Wt.2.2.2.2.2.2) sO.1 sO.2.1 sO.2.2.1 oM oM rfl rfl oM oM;have hw:¬j8 w u:=fun q=>oN ((U.lt q).1);have n4:=G4.n;have a8:H4.g u=cE [W,c1,c2,w,X] 1:=(G4.but u oM hw).trans J;obtain⟨wa,wc,ew⟩:=U.slice;obtain⟨c8,c9,ev⟩:=O.slice;have ov:v'.oneCell'=true:=by rw[ev];rfl
 have cv:v'.cells.toList=[v']:=by rw[ev];rfl
 obtain⟨S,z⟩:=eY (H4.put u (bC [W,c1,c2,v',X] 1));have n5:S.n=H4.n:=by rw[z,j9]
 have a9:S.g u=cE [W,c1,c2,v',X] 1:=by rw[z];exact i7 oM
 have z5:∀j,j≠u->S.g j=H4.g j:=fun j hj=>by rw[z,j6 (fun q=>hj q.symm)]
 have b3:t7 S D.n 4 (u9 edE) v' ((l.take (j+1)).map yE):=by
  have:(l.take (j+1)).map yE=(l.take j).map yE++[yE x]:=by rw[abJ,hx];simp
  rw[this];exact O.same fun b hb=>z5 b (oN (O.lt hb))
 have s5:d9 H.n H2 S:=(s3.wk b7).trans ((G4.stay.wk oM).trans (by rw[z];exact d9.put b6));have b1:Va u D S:=⟨oM,fun i hi a5=>by rw[z5 i a5,G4.but i oM (fun q=>by have:=(U.lt q).1;omega),s3.g i oM];exact hB.g i hi a5⟩
 have a7:=ra;rw[ew]at a7;rw[ew]at J;refine J27 f1 f2 f7 a2 I a3 bb gx nt a6 a1 l1 b9 b2.symm b0 e0 e1 e2 e3 J a7 b8 a8 ov cv z.symm @wrap_small ?_;exact d8 (kk-1) oM ⟨j+1,v',oM,oM,f1,f2,f7,a2,I,rfl,a9,b3,b1,hS.trans s5,s5.lowAll _ lR E⟩
def w53(H:d7)(F:Nat->Prop)(Rt:LV->Q->Prop)(cs:LV)(p:PrD)(hF:∀j,F j->j<H.n) (hp:PrF H F Rt cs p) (n:Nat) (b6:p.st=n) (hn:n<=1000000) (hl:p.ed.length<=1000000) (ga:Option Addr) (gc:Nat) (g:List Bool) (hg:SlF H F 1 (u9 boE) (.slice ga g.length gc) g) (b3:g.length=n) (hw:∀x∈p.ed,0<=x.1/\x.1<n/\0<=x.2.1/\x.2.1<n) (kd:Int):
  P4 (CL prog l7 53 [.agg cs.toArray,.slice ga g.length gc,iV kd] H) H 1 (u9 boE) (Ax p g kd):=by
 obtain⟨ea,ec,ta,tc,D,h1,h2⟩:=E3 hp;have ac:cs.all oC=true:=by rw[D];rfl
 have lc:cs.length=5:=by rw[D];rfl
 have ldc:ldC (some true) (some 5) 0 cs=some (.agg cs.toArray):=by rw[D];rfl
 have c3:cs[3]?=some (.slice ea p.ed.length ec):=by rw[D];rfl
 obtain⟨J,W,n1,g1,s1⟩:=pushF H (bC cs 1);obtain⟨H2,b1,n2,g2,s2⟩:=pushP J (bC z5 1) (bC cs 1);have b7:splice z5 0 cs=cs:=y7 _ _ (by rw[lc];rfl);obtain⟨u,I⟩:=eY (H2.put J.n (bC [iV p.st,iV p.sa,iV p.en,nS,.slice ta p.ts.length tc] 1));have n3:u.n=H2.n:=by rw[I,j9]
 have g3:u.g J.n=cE [iV p.st,iV p.sa,iV p.en,nS,.slice ta p.ts.length tc] 1:=by rw[I];exact i7 oM
 have s3:d9 J.n J u:=s2.trans (by rw[I];exact d9.put lR);have a7:u.g H.n=cE cs 1:=(s3.g _ oM).trans g1;have a6:d9 H.n H u:=s1.trans (s3.wk oM);have a2:H.n<=u.low:=s3.lowAll _ oM (by rw[W];exact lR);have a9:∀j,F j->j<u.n/\j≠J.n:=fun j E=>oN (hF j E);have hm:∀j,F j->u.g j=H.g j:=fun j E=>a6.g j (hF j E);have a1:cs.set 3 (nS)=[iV p.st,iV p.sa,iV p.en,nS,.slice ta p.ts.length tc]:=by rw[D];rfl
 rw[i8 Zo rfl _ sM];refine J12 ac W.symm g1 ldc lc b7 b1.symm g2 a1 I.symm a7 c3 ?_;refine j5 (F:=fun z=>P4 (t6 _ _ _ (u6 (inBlock 0 z) _)) _ _ _ _) (Wg H u J.n oM oM F a9 ea ec p.ed (h1.mono hm (fun _ h=>h) iF) hl _ _ _ _ (.slice ga g.length gc) kd p.ed.length _ _ ⟨0,_,rfl,aaJ _,rfl,rfl,rfl,rfl,rfl,rfl,g3,t7.nil,⟨lR,fun _ _ _=>rfl⟩,a6,a2⟩) ?_;rintro o e' U ⟨ho,k1,k2,k7,w,g4,O,a8,s4,a3⟩;have n4:=a8.n;have S:=s4.n;obtain⟨wa,wc,ew⟩:=O.slice;have X:∀j,F j->U.g j=H.g j:=fun j E=>s4.g j (hF j E);have b0:∀j,(F j\/(u.n<=j/\j<U.n))->j<U.n:=fun j E=>by
  rcases E with E|E
  .have:=hF j E;omega
  .exact E.2
 have b5:PrF U (fun j=>F j\/(u.n<=j/\j<U.n)) Rt [iV p.st,iV p.sa,iV p.en,w,.slice ta p.ts.length tc] {p with ed:=p.ed.map yE}:=⟨w,_,rfl,O.frz fun b hb=> .inr (O.lt hb),h2.mono X (fun _=> .inl) iF⟩
 obtain⟨v5,k5,H5,a4,a5,b2,s5⟩:=w92 U _ Rt _ _ b0 b5 n b6 hn (by simpa using hl) ga gc g (hg.mono X (fun _=> .inl) iF) b3 (fun x hx=>by
  obtain⟨y,hy,rfl⟩:=aau.1 hx;have:=hw y hy;exact⟨this.2.2.1,this.2.2.2,this.1,this.2.1⟩) kd
 rw[ew]at g4 a4;refine J7 ho k1 k2 k7 g4 a4 a5 ?_;have b4:n=p.st.toNat:=oM;rw[Sk,<-b4];exact I7 (b2.wk S) (s4.trans (s5.wk S)) (s5.lowAll _ S a3)
def Pc(u:List Bool)(l:List EdD):∀(n m:Nat)(bs:List Bool),(∀x∈l,x.1.toNat<bs.length)->bI bs+1<=n->n<=m->itA u l m bs=itA u l n bs:=by
 intro n;induction n with
 |zero=>intro m bs _ h;omega
 |succ n S=>
  intro m bs D U W;obtain⟨z,rfl⟩:∃z,m=z+1:=⟨m-1,oM⟩
  have I:=xk u l (bs,false) D;rw[itA,itA];rcases J:(mA u l (bs,false)).2 with _|_
  .rfl
  .simp only[aab];have E:=I.2 J;simp only[abM,aek]at E;exact S z _ (fun x O=>by rw[rM];exact D x O) oM oM
def Uh(H1:d7)(ob p3 n:Nat)(d3:ob<H1.n)(F:Nat->Prop)(hF:∀j,F j->j<H1.n/\j≠ob) (va:Option Addr) (ca:Nat) (l:List EdD) (hv:SlF H1 F 4 (u9 edE) (.slice va l.length ca) l) (hl:l.length<=1000000)
  (ha:Option Addr) (hc oc:Nat) (hs:List Bool) (hh:SlF H1 F 1 (u9 boE) (.slice ha hs.length hc) hs) (hw:∀x∈l,0<=x.1/\x.1<n/\0<=x.2.1/\x.2.1<n/\(x.2.2.1=3->0<=x.2.2.2/\x.2.2.2<hs.length)) (r:List Bool×Bool):
  ∀kk e H2,(∃(j:Nat)(bs:List Bool)(m:Bool),kk=l.length-j/\j<=l.length/\e.g 6=pT p3/\e.g 11= .slice ha hs.length hc/\e.g 12=sL ob n oc/\e.g 13= .bool m/\e.g 29= .slice va l.length ca/\e.g 30=iV l.length/\e.g 31=iV j/\bs.length=n/\H2.g ob=cE (bs.map boV) 1/\Fr1 ob H1 H2/\mA hs (l.drop j) (bs,m)=r)->
  u7 (LE prog l7 (.loop YV) e H2) (fun o e H2=>o= .exit 2/\e.g 6=pT p3/\e.g 11= .slice ha hs.length hc/\e.g 12=sL ob n oc/\e.g 13= .bool r.2/\r.1.length=n/\H2.g ob=cE (r.1.map boV) 1/\Fr1 ob H1 H2):=by
 refine i5 _ _ ?_;rintro kk e H2 ⟨j,bs,m,hk,hj,f6,h,u,E,D,z,W,O,gb,a9,U⟩;rcases bb:decide ((j:Int)<l.length)with _|_
 .have b8:=dF bb;rw[dN oM,mA]at U;refine J3 z W bb ?_;exact i6 ⟨rfl,f6,h,u,by rw[<-U];exact E,by rw[<-U];exact O,by rw[<-U];exact gb,a9⟩
 have b8:=dT bb;have d2:=a9.stay.n;obtain⟨x,nb,o,cs,own,el,hx,hd,rfl,b3,c0,c9,I,c8,a5⟩:=hv.row (i:=j) oM;have a5:el=edE x:=a5;obtain⟨w1,w2,w3,w4,w5⟩:=hw x (mG hx);have nt:(j:Int).toNat=j:=tN j;have gx:=(a9.but nb (hF _ b3).1 (hF _ b3).2).trans c0;have a1:el.all oC=true:=by rw[a5];rfl
 have l1:el.length=4:=by rw[a5];rfl
 have e0:el[0]?=some (.int .i64 x.1):=by rw[a5];rfl
 have e1:el[1]?=some (.int .i64 x.2.1):=by rw[a5];rfl
 have e2:el[2]?=some (.int .i64 x.2.2.1):=by rw[a5];rfl
 have e3:el[3]?=some (.int .i64 x.2.2.2):=by rw[a5];rfl
 obtain⟨H3,X,n3,a4,s3⟩:=pushP H2 (bC [iV 0,iV 0,iV 0,iV 0] 1) (bC el 1);have a6:splice [iV 0,iV 0,iV 0,iV 0] 0 el=el:=y7 _ _ (by rw[l1];rfl);have a2:Fr1 ob H1 H3:=a9.trans (Fr1.of s3 oM (by rw[X,A5,l9];omega));have J:=(s3.g ob oM).trans gb;have S:=KM (bs:=bs) (i:=x.2.1.toNat) oM;have a3:=KM (bs:=bs) (i:=x.1.toNat) oM;have bl:(bs.map boV).length=bs.length:=sM;have b5:x.1.toNat*1+1<=n:=oM;have d0:decide ((x.1.toNat:Int)<n)=true:=yo oM;have d1:decide ((x.2.1.toNat:Int)<n)=true:=yo oM;obtain⟨H4,b0⟩:=eY (H3.put ob (.cells ((bs.map boV).set (x.1.toNat*1) (.bool true)) true 1));have b2:H4.g ob=some (.cells ((bs.set x.1.toNat true).map boV) true 1):=by rw[b0,i7 oM,aaK,acU]
 have b1:Fr1 ob H1 H4:=a2.trans (by rw[b0];exact Fr1.put);rw[hd,mA,iY]at U;rcases k0:decide (x.2.2.1=0)with _|_
 .rcases k3:decide (x.2.2.1=3)with _|_
  .simp only[k0,k3,abi,Bool.or_self,bF]at U;refine J19 h u E D z W bb gx nt I a1 l1 a6 X.symm a4 e2 k0 k3 @wrap_small ?_;exact d8 (kk-1) oM ⟨j+1,bs,m,oM,oM,f6,h,u,E,D,z,rfl,O,J,a2,U⟩
  .obtain⟨t1,t2⟩:=w5 (dT k3);obtain⟨v,nv,ov,cv,c7,b6,c5,_,rfl,b4,c3,c6,c4,b9,b7⟩:=hh.row (i:=x.2.2.2.toNat) oM;obtain rfl:b6=boE v:=b7;have a8:=(a2.but nv (hF _ b4).1 (hF _ b4).2).trans c3;have a7:cv[ov+x.2.2.2.toNat*1]?=some (.bool v):=by have:=b9 0 oM;rw[aaf]at this;exact this
   have ev:hs.getD x.2.2.2.toNat false=v:=by rw[ma,c5];rfl
   have dh:decide ((x.2.2.2.toNat:Int)<hs.length)=true:=yo oM;cases v with
   |false=>
    simp only[k0,k3,ev,abp,abi,Bool.or_self,bF]at U;refine J23 h u E D z W bb gx nt I a1 l1 a6 X.symm a4 e2 e3 k0 k3 a8 a7 dh @wrap_small ?_;exact d8 (kk-1) oM ⟨j+1,bs,m,oM,oM,f6,h,u,E,D,z,rfl,O,J,a2,U⟩
   |true=>
    rcases t1:bs.getD x.2.1.toNat false with _|_
    .rw[t1]at S;simp only[k0,k3,ev,t1,ab7,acq,abp,abi,bF]at U;refine J27 h u E D z W bb gx nt I a1 l1 a6 X.symm a4 e1 e2 e3 k0 k3 a8 a7 dh d1 J S @wrap_small ?_;exact d8 (kk-1) oM ⟨j+1,bs,m,oM,oM,f6,h,u,E,D,z,rfl,O,J,a2,U⟩
    .rw[t1]at S;rcases t0:bs.getD x.1.toNat false with _|_
     .rw[t0]at a3;simp only[k0,k3,ev,t0,t1,ab7,acq,aby,aab]at U;refine J30 h u E D z W bb gx nt I a1 l1 a6 X.symm a4 e0 e1 e2 e3 k0 k3 a8 a7 dh d0 d1 (aI J a3) (aI S bl) (aI O b5) (aI b0.symm @wrap_small) ?_;exact d8 (kk-1) oM ⟨j+1,_,true,oM,oM,f6,h,u,rfl,D,z,rfl,by rw[aaZ];exact O,b2,b1,U⟩
     .rw[t0]at a3;simp only[k0,k3,ev,t0,t1,ab7,acq,abd,abp,bF]at U;refine J30 h u E D z W bb gx nt I a1 l1 a6 X.symm a4 e0 e1 e2 e3 k0 k3 a8 a7 dh d0 d1 J a3 S @wrap_small ?_;exact d8 (kk-1) oM ⟨j+1,bs,m,oM,oM,f6,h,u,E,D,z,rfl,O,J,a2,U⟩
 .rcases t1:bs.getD x.2.1.toNat false with _|_
  .rw[t1]at S;simp only[k0,t1,abR,abp,abi,bF]at U;refine J22 h u E D z W bb gx nt I a1 l1 a6 X.symm a4 e1 e2 k0 d1 J S @wrap_small ?_;exact d8 (kk-1) oM ⟨j+1,bs,m,oM,oM,f6,h,u,E,D,z,rfl,O,J,a2,U⟩
  .rw[t1]at S;rcases t0:bs.getD x.1.toNat false with _|_
   .rw[t0]at a3;simp only[k0,t0,t1,abR,ab7,aby,aab]at U;refine J29 h u E D z W bb gx nt I a1 l1 a6 X.symm a4 e0 e1 e2 k0 d0 d1 J a3 S bl O b5 b0.symm @wrap_small ?_;exact d8 (kk-1) oM ⟨j+1,_,true,oM,oM,f6,h,u,rfl,D,z,rfl,by rw[aaZ];exact O,b2,b1,U⟩
   .rw[t0]at a3;simp only[k0,t0,t1,abR,ab7,abd,abp,bF]at U;refine J25 h u E D z W bb gx nt I a1 l1 a6 X.symm a4 e0 e1 e2 k0 d0 d1 J a3 S @wrap_small ?_;exact d8 (kk-1) oM ⟨j+1,bs,m,oM,oM,f6,h,u,E,D,z,rfl,O,J,a2,U⟩
def Ug(S:d7)(J p3 n:Nat)(b1:J<S.n)(F:Nat->Prop)(hF:∀j,F j->j<S.n/\j≠J) (va:Option Addr) (ca:Nat) (l:List EdD) (hv:SlF S F 4 (u9 edE) (.slice va l.length ca) l) (hl:l.length<=1000000) (rp:LV) (g3:S.g p3=cE rp 1) (a7:p3≠J) (r3:rp[3]?=some (.slice va l.length ca))
  (ha:Option Addr) (hc oc:Nat) (I:List Bool) (hh:SlF S F 1 (u9 boE) (.slice ha I.length hc) I) (hw:∀x∈l,0<=x.1/\x.1<n/\0<=x.2.1/\x.2.1<n/\(x.2.2.1=3->0<=x.2.2.2/\x.2.2.2<I.length)) (r:List Bool):
  ∀kk e H2,(∃(bs:List Bool)(m:Bool),kk=(if m then bI bs+1 else 0)/\e.g 6=pT p3/\e.g 11= .slice ha I.length hc/\e.g 12=sL J n oc/\e.g 13= .bool m/\bs.length=n/\H2.g J=cE (bs.map boV) 1/\Fr1 J S H2/\(if m then itA I l (bI bs+1) bs else bs)=r)->
  u7 (LE prog l7 (.loop YW) e H2) (fun o e H2=>o= .exit 0/\e.g 12=sL J n oc/\r.length=n/\H2.g J=cE (r.map boV) 1/\Fr1 J S H2):=by
 refine i5 _ _ ?_;rintro kk e H2 ⟨bs,m,hk,f6,a3,U,a4,a5,gb,u,E⟩;cases m with
 |false=>
  simp only[bF]at E;refine J1 a4 ?_;exact i6 ⟨rfl,U,by rw[<-E];exact a5,by rw[<-E];exact gb,u⟩
 |true=>
  simp only[aab]at E hk;have b0:=u.stay.n;have g2:=(u.but p3 (u5 g3) a7).trans g3;refine J6 f6 a3 U a4 g2 r3 ?_;refine j5 (F:=fun z=>u7 (inBlock 1 (inBlock 2 z)) _) (Uh H2 J p3 n oM F (fun j X=>by have:=hF j X;exact⟨oM,this.2⟩) va ca l (hv.mono (fun j X=>u.but j (hF j X).1 (hF j X).2) (fun _ h=>h) iF) hl ha hc oc I (hh.mono (fun j X=>u.but j (hF j X).1 (hF j X).2) (fun _ h=>h) iF) hw (mA I l (bs,false)) l.length _ _ ⟨0,bs,false,rfl,oM,f6,a3,U,rfl,rfl,rfl,rfl,a5,gb,Fr1.refl _ _,rfl⟩) ?_;rintro o e' H3 ⟨ho,k6,a8,a9,a2,a1,W,F3⟩;have O:∀x∈l,x.1.toNat<bs.length:=fun x hx=>oN (hw x hx);have D:=xk I l (bs,false) O;rw[itA]at E;obtain⟨z,hz⟩:=eY (mA I l (bs,false));have a6:z.1.length=bs.length:=by rw[hz,rM]
  rw[<-hz]at a2 a1 W E D;simp only[abM,aek]at D;refine J1 ho ?_;obtain⟨z1,z2⟩:=z;simp only at a2 a1 W E D a6;refine d8 (if z2 then bI z1+1 else 0) ?_ ⟨z1,z2,rfl,k6,a8,a9,a2,a1,W,u.trans F3,?_⟩
  .cases z2 with
   |false=>simp only[bF];omega
   |true=>have:=D.2 rfl;simp only[aab];omega
  .cases z2 with
   |false=>simpa using E
   |true=>
    simp only[aab]at E ⊢;rw[<-E];have:=D.2 rfl;exact(Pc I l (bI z1+1) (bI bs) z1 (fun x hx=>by rw[a6];exact O x hx) lR oM).symm
def RO(bs:List Bool):(mW bs).data.toList.map U2=bs.map bw:=by
 rw[mW];simp only[acQ];refine acd fun x _=>?_;cases x<;>rfl
def SX(bs:List Bool):(mW bs).size=bs.length:=by
 simp [mW,ByteArray.size]
def WM{H:d7}{lo:Nat}{w:aet}(h:t7 H lo 1 (u9 boE) w bs)(z:bs≠ []):∃b c,w=sL b bs.length c/\lo<=b/\H.g b=cE (bs.map boV) 1:=by
 obtain⟨cs,J,D⟩:=h;rcases J with⟨_,u,_⟩|⟨b,c,e,g,O,U⟩
 .exact absurd (aag.1 u) z
 .refine⟨b,c,e,O,?_⟩;have:cs=bs.map boV:=by
   refine abn fun i=>?_;have S:=D.1;by_cases I:i<bs.length
   .have u:=D.2 i _ (yv I);rw[aaS,yv I];have E:((cs.drop (i*1)).take 1)[0]?=some (.bool bs[i]):=by rw[u];rfl
    rw[aaO,cA oM,aaA]at E
    simpa using E
   .rw[aaM oM,aaM (by simp;omega)]
  rw[<-this];exact g
def w90(Hs:d7)(lo K:Nat)(s:StD)(p:PrD)(ev:EvD)(bs:List Bool)(a b:Bool)(F:Nat->Prop)(H:d7)(X J W:LV)(hs:StF H F (QR Hs lo K false) (QR Hs lo K true) X s)(hp:PrF H F (QR Hs lo K true) J p)(he:EvF H F W ev)
  (hF:∀j,F j->j<H.n) (d1:∀j,j<lo->H.g j=Hs.g j) (f5:lo<=H.n) (hw:WfS s bs.length) (U:PWf p) (c7:ev.attrs.length<=1000000) (hn:p.ts.length<=1000000) (d5:p.ed.length<=1000000) (ga:Option Addr) (gc:Nat) (g:List Bool) (hg:SlF H F 1 (u9 boE) (.slice ga g.length gc) g) (b2:(g.length:Int)=p.st):
  P4 (CL prog l7 90 [.agg X.toArray,.agg J.toArray,.agg W.toArray,.agg (soE (a,b,mW bs)).toArray,.slice ga g.length gc] H) H 1 (u9 boE) (Ox (p.ts.map (E1 s ev bs)) p.ed g):=by
 obtain⟨pa,pc,ka,kc,xa,xc,ea,ec,ta,tc,b5,_⟩:=E9 hs;obtain⟨a1,a2,g0,g1,a5,d6,f7⟩:=E3 hp;obtain⟨av,b4,c8⟩:=id he;obtain⟨f2,f3,rfl⟩:=c8.slice;have c0:X.all oC=true:=by rw[b5];rfl
 have ap:J.all oC=true:=by rw[a5];rfl
 have ae:W.all oC=true:=by rw[b4];rfl
 have e6:ldC (some true) (some 8) 0 X=some (.agg X.toArray):=by rw[b5];rfl
 have e5:ldC (some true) (some 5) 0 J=some (.agg J.toArray):=by rw[a5];rfl
 have e4:ldC (some true) (some 5) 0 W=some (.agg W.toArray):=by rw[b4];rfl
 have r3:J[3]?=some (.slice a1 p.ed.length a2):=by rw[a5];rfl
 have f9:=U.st;have f8:=U.sa;obtain⟨E,D⟩:=eY ((((d7.push ⟨H.bs,H.n⟩ (bC X 1)).push (bC J 1)).push (bC W 1)).push (.cells (soE (a,b,mW bs)) true 1));have n1:E.n=H.n+4:=by rw[D,i4,i4,i4,i4];rfl
 have s1:d9 H.n H E:=by
  rw[D];exact(((d9.first H _).trans (d9.push (by rw[i4];exact adQ _))).trans (d9.push (by rw[i4,i4];exact Nat.le_add_right _ 2))).trans (d9.push (by rw[i4,i4,i4];exact Nat.le_add_right _ 3))
 have u:(⟨H.bs,H.n⟩:d7).n=H.n:=rfl;have q0:E.g H.n=cE X 1:=by rw[D,i9 (by rw[i4,i4,i4,u];omega),i9 (by rw[i4,i4,u];omega),i9 (by rw[i4,u];omega)];exact j7
 have q1:E.g (H.n+1)=cE J 1:=by rw[D,i9 (by rw[i4,i4,i4,u];omega),i9 (by rw[i4,i4,u];omega)];exact y9 (by rw[i4,u];exact⟨lR,lR⟩)
 have q2:E.g (H.n+2)=cE W 1:=by rw[D,i9 (by rw[i4,i4,i4,u];omega)];exact y9 (by rw[i4,i4,u];exact⟨lR,lR⟩)
 have q3:E.g (H.n+3)=some (.cells (soE (a,b,mW bs)) true 1):=by rw[D];exact y9 (by rw[i4,i4,i4,u];exact⟨lR,lR⟩)
 have b6:H.n<=E.low:=by rw[D];exact lR
 obtain⟨H2,a8,n2,c3,s2⟩:=pushE E (bC (bs.map bw) 1);have a6:d9 H.n H H2:=s1.trans (s2.wk oM);have d0:aU prog E 9 177 (.string (mW bs))=some (sL E.n bs.length (bs.length+1),some H2):=by
  have:=pR E (mW bs);rw[RO,SX,<-a8]at this;exact this
 have c9:SlF H2 (fun j=>F j\/j=E.n) 1 (u9 uQ) (sL E.n bs.length (bs.length+1)) bs:=by
  refine .inr ⟨E.n,0,_,rfl,.inr ⟨_,true,.inr rfl,c3,by simp,fun j v h=>?_⟩⟩;show((bs.map bw).drop (0+j*1)).take 1=uQ v;have d4:=(gS h).1;rw[aaH,aaK,aav (by simpa using d4)];have:=(gS h).2;simp [uQ,this]
 have a4:∀j,F j->H2.g j=H.g j:=fun j h=>a6.g j (hF j h);obtain⟨wv,f4,S,b0,b1,O,s3⟩:=UM Hs lo K s p ev bs (fun j=>F j\/j=E.n) H2 X J W _ _ (hs.mono a4 (fun _=> .inl) iF iF) (hp.mono a4 (fun _=> .inl) iF) (A0 _ _ _ _ _ _ he a4 (fun _=> .inl)) c9 (fun j h=>by
  rcases h with h|h
  .have:=hF j h;omega
  .omega) (fun j h=>by rw[a6.g j oM];exact d1 j h) oM hw c7 hn
 have n3:=s3.n;obtain⟨I,b3⟩:=eY (p.ts.map (E1 s ev bs));have lhs:I.length=p.ts.length:=by rw[b3,aa7]
 rw[<-b3]at O ⊢;obtain⟨wa,wc,ew⟩:=O.slice;rw[ew]at b0 O;have f0:d9 H.n H S:=a6.trans (s3.wk oM);have e7:S.g (H.n+1)=cE J 1:=by rw[s3.g _ oM,s2.g _ oM];exact q1
 obtain⟨H4,a3,n4,-,s4⟩:=pushE S (bC [] 1);have c6:t7 H4 S.n 1 (u9 boE) (sL S.n 0 0) ([]:List Bool):=by rw[a3];exact t7.fresh rfl lR x9.nil
 have b8:d9 H.n H H4:=f0.trans (s4.wk oM);have d2:SlI H4 H.n 1 (u9 boE) (.slice ga g.length gc) g:=(hg.sl hF).mono (fun j h=>b8.g j h) lR iF;obtain⟨v5,h5,H5,r5,e9,O5,G5⟩:=c6.appendF (P:=prog) (t:=67) (by exact WQ.2.2.2.2.2.2) ty4.1 ty4.2.1 ty4.2.2.1 oM oM d2 (by simp only[aaG];omega) oM;rw[aat]at O5;have n5:=G5.n;have b9:d9 H.n H H5:=b8.trans (G5.stay.wk oM);have b7:H.n<=H5.low:=by
  have h2:H.n<=H2.low:=by rw[a8,l9];exact b6
  have h4:H.n<=H4.low:=by rw[a3,l9];exact s3.lowAll _ oM h2
  exact G5.stay.lowAll _ oM h4
 obtain⟨ob,oc,eo,f6,a7⟩:=WM O5 (fun q=>by rw[q]at b2;simp only[aaG]at b2;omega);have f1:=u5 a7;rw[eo]at r5;have e8:H5.g (H.n+1)=cE J 1:=by rw[G5.stay.g _ oM,s4.g _ oM];exact e7
 have c5:∀j,(F j\/(H2.n<=j/\j<S.n))->j<H5.n/\j≠ob:=fun j h=>by
  rcases h with h|h
  .have:=hF j h;omega
  .omega
 have e2:SlF H5 (fun j=>F j\/(H2.n<=j/\j<S.n)) 4 (u9 edE) (.slice a1 p.ed.length a2) p.ed:=d6.mono (fun j h=>b9.g j (hF j h)) (fun _=> .inl) iF;have d3:SlF H5 (fun j=>F j\/(H2.n<=j/\j<S.n)) 1 (u9 boE) (.slice wa I.length wc) I:=(O.frz (F:=fun j=>H2.n<=j/\j<S.n) fun b hb=>O.lt hb).mono (fun j h=>by rw[G5.stay.g j oM,s4.g j oM]) (fun _=> .inr) iF;rw[i8 VE rfl _ sM];refine J17 c0 ap ae D.symm q0 q1 q2 q3 e6 e5 e4 d0 b0 b1 a3.symm r5 e9 ?_;refine j5 (F:=fun z=>P4 (t6 _ _ _ (u6 (inBlock 0 z) _)) _ _ _ _) (Ug H5 ob (H.n+1) g.length oM _ c5 a1 a2 p.ed e2 d5 J e8 oM r3 wa wc oc I d3 (fun x hx=>by have:=U.ed x hx;rw[lhs];omega) (Ox I p.ed g) _ _ _ ⟨g,true,rfl,rfl,rfl,rfl,rfl,rfl,a7,Fr1.refl _ _,?_⟩) ?_
 .simp only[aab];rw[Ox];have:=KT g;exact(Pc I p.ed (bI g+1) (g.length+1) g (fun x hx=>by have:=U.ed x hx;omega) lR oM).symm
 .rintro o e' H6 ⟨ho,e3,e1,c4,F6⟩;refine J2 ho e3 ?_;have a9:=RL c4 (lo:=H.n) (c:=oc) oM;rw[e1]at a9;exact I7 a9 (b9.trans (F6.stay.wk oM)) ((F6.stay.wk (show H.n<=ob from oM)).low b7)
section
variable{q:Q}{r:ReD}(kc:KdC q r){Hs:d7}{lo K:Nat}
section
include kc
theorem Fp{H0 Hb:d7}(rc:RcR Hs lo K r H0 b3)(gr:H0.g rb=cE b3 1)(d2:H0.n<=h)(b2:h<Hb.n)(lw:Nat)(d1:lw<=H0.n){l:List EvD}(dc:DcR lo l H0 v)(a:Nat)(ev:EvD)(ha:l[a]?=some ev)
  (E bs:List OpD) (fv bv:aet) (a8:SlF Hb (fun j=>h<j/\j<Hb.n) 2 (OpO Hb (fun j=>h<j/\j<Hb.n)) fv E) (a5:SlF Hb (fun j=>h<j/\j<Hb.n) 2 (OpO Hb (fun j=>h<j/\j<Hb.n)) bv bs) (lf:E.length<=25) (lb:bs.length<=25) (n:Nat) (hn:n<=30) (kf:∀o∈E,jH r n o) (kb:∀o∈bs,jH r n o) (R:List OpD):
  ∀kk e H2,(∃(i:Nat)(w:aet)(L:List OpD)(G:Nat->Prop),kk=E.length-i/\i<=E.length/\e.g 1=v/\e.g 2=iV a/\e.g 4=pT rb/\e.g 9=w/\e.g 10= .map (some h)/\e.g 11=bv/\e.g 42=fv/\e.g 43=iV E.length/\e.g 44=iV i/\ROI H0 Hb h lw H2 w L G/\L.length<=i*25/\jV r ev (E.drop i) bs L=R)->
  u7 (LE prog l7 (.loop SR) e H2) (fun o e H2=>o= .exit 1/\∃(w:aet)(G:Nat->Prop),e.g 9=w/\ROI H0 Hb h lw H2 w R G):=by
 refine i5 _ _ ?_;rintro kk e H2 ⟨i,w,L,G,hk,hi,f1,f2,f4,f9,b4,a1,a2,U,W,D,hL,fu⟩;have n0:=D.st.n;have nB:=D.but.n;rcases b0:decide ((i:Int)<E.length)with _|_
 .have c5:=dF b0;rw[dN oM]at fu;have b5:L=R:=fu;refine J3 U W b0 ?_;exact i6 ⟨rfl,w,G,f9,by rw[<-b5];exact D⟩
 .have c5:=dT b0;obtain⟨fa,fc,a9⟩:=a8.slice;obtain⟨ba,bc,a6⟩:=a5.slice;have S:=a8;rw[a9]at S;obtain⟨f,d5,ob,e5,e4,e6,d3,c6,c8,a3,d0,e2,X,e8,fp,c7,a7⟩:=S.row (i:=i) oM;subst c8 c7;have d4:=kf f (mG d3);have e7:=a3.1;have b1:=(D.but.g d5 a3.2 oM).trans d0;have ti:((i:Nat):Int).toNat=i:=tN i;obtain⟨H3,a4,n3,x3,-⟩:=pushE H2 (bC [iV 0,nS] 1);have d6:fp.oneCell'=true:=by
   obtain⟨aa,ac,rfl⟩:=a7.slf.slice;rfl
  obtain⟨H4,I⟩:=eY (H3.put H2.n (bC [iV f.1,fp] 1));have n4:H4.n=H2.n+1:=by rw[I,j9,n3]
  have x4:H4.g H2.n=cE [iV f.1,fp] 1:=by rw[I];exact i7 oM
  have u:d9 H2.n H2 H4:=by rw[I,a4];exact(d9.push lR).trans (d9.put lR)
  have e1:splice [iV 0,nS] 0 [iV f.1,fp]=[iV f.1,fp]:=rfl;have c4:ROI H0 Hb h lw H4 w L G:=⟨D.out.keep C5 u,⟨oM,fun j hj hm=>by rw[u.g j oM];exact D.but.g j hj hm⟩,D.st.trans (u.wk n0),(u.g h oM).trans D.mp,u.lowAll _ oM D.low⟩
  rw[c6,Bh]at fu;have e3:=ur r ev f bs L;have c9:¬j8 w H2.n:=fun q=>oN (D.out.lt q);have O:=a2;rw[a9]at O;have J:=a1;rw[a6]at J;refine J13 J O U W b0 ti b1 X d6 a4.symm x3 e1 I.symm ?_;refine j5 (F:=fun z=>u7 (u6 (inBlock 2 (inBlock 3 z)) _) _) (Jh kc rc gr d2 b2 lw d1 dc a ev ha E bs fv bv a5 lb n hn kb i oM f d4 fp a7 H2.n nB (ip r ev f bs L) bs.length _ _ ⟨0,w,L,G,rfl,aaJ _,f1,f2,f4,f9,b4,a1,rfl,a2,U,W,a6.symm,rfl,rfl,c4,x4,c9,oM,rfl⟩) ?_;rintro o' e' H' ⟨ho,w',G',g1,g2,g4,g9,b6,b7,b8,b9,c0,c3⟩;refine J3 ho c0 @wrap_small ?_;exact d8 (kk-1) oM ⟨i+1,w',_,G',oM,oM,g1,g2,g4,g9,b6,b7,b8,b9,rfl,c3,oM,fu⟩
end
def pB(r:ReD)(Hs:d7)(lo K n:Nat):Prop:=∀(H:d7)(row:LV)(l:List EvD)(v:aet),RcR Hs lo K r H row->DcR lo l H v->∀(a p:Nat),a<=l.length->l.length<a+n->n<=31->(a<l.length->eI l a 0=p)->
 Ret (CL prog l7 87 [.agg row.toArray,v,iV a,iV p] H) H (fg 2 OpO H (dt r l n a p false))
def NT(r:ReD)(Hs:d7)(lo K n:Nat):Prop:=∀(H:d7)(row:LV)(l:List EvD)(v:aet),RcR Hs lo K r H row->DcR lo l H v->∀(a:Nat)(ev:EvD),l[a]?=some ev->ev.kind≠3->l.length<a+1+n->n<=31->
 Ret (CL prog l7 48 [.agg row.toArray,v,iV a] H) H (fg 2 OpO H (if ev.kind=2 then zO else dt r l n (a+1) a false))
def NN(r:ReD)(Hs:d7)(lo K n:Nat):Prop:=∀(H:d7)(row:LV)(l:List EvD)(v:aet),RcR Hs lo K r H row->DcR lo l H v->∀(a:Nat)(ev:EvD),l[a]?=some ev->ev.kind≠3->l.length<a+1+n->1<=n->n<=31->
 Ret (CL prog l7 47 [.agg row.toArray,v,iV a] H) H (fg 2 OpO H (if eI l a 0<0 then zO else dt r l n (C1 l a) (eI l a 0) (!V5 l a)))
def HH{n:Nat}(ih:pB r Hs lo K n):NT r Hs lo K n:=by
 intro H U l v rc dc a ev ha a6 hn I;have b8:=(gS ha).1;obtain⟨eb,eo,ec,b6,a9,el,J,b0,a4,b1,E,b7,b9,a5⟩:=dc.row ha;obtain⟨H1,z,n1,g1,W⟩:=pushF H (bC U 1);have b2:H1.low=H.n:=by rw[z];rfl
 have c0:=dc.low;have u:=(W.g eb oM).trans a4;have h:=rc.one;have a7:=rc.l12;obtain⟨rs,la,lc,a1,b3,a2,b4,a3,b5,q8,q9,c5,c6,c3,a8,_⟩:=rc.form;have ta:((a:Nat):Int).toNat=a:=tN a;have c4:=dc.n30;rw[i8 TU rfl _ sM];rcases d2:decide (ev.kind=2)with _|_
 .have e2:=dF d2;rw[bt e2];obtain⟨v',h',H2,O,S,⟨G,O2⟩,X⟩:=ih H1 U l v (rc.stay W) (dc.stay W) (a+1) a oM oM I (fun _=>by rw[eI,ha];simp only;rw[bt a6,cA oM,cA trivial]);subst J;have e1:((a+1:Nat):Int)=(a:Int)+1:=oM;rw[e1]at O;refine J12 h z.symm g1 u ta E d2 a7 a8 O S @wrap_small ?_;exact cd C5 (O2.wk oM) (W.trans (X.wk oM)) (X.lowAll _ oM oM)
 .rw[cA (dT d2)];obtain⟨H2,D,-,-,X⟩:=pushE H1 (bC [iV 0,nS] 2);have hO:=Ca H1 H.n 1 oM;rw[<-D]at hO;subst J;refine J8 h z.symm g1 u ta E d2 D.symm ?_;exact vS C5 hO (W.trans (X.wk oM)) (X.lowAll _ oM oM)
include kc
theorem Na{n:Nat}(ih:pB r Hs lo K n):NN r Hs lo K n:=by
 intro H a5 l v rc dc a ev ha d2 hn d5 a8;have d4:=kc.wf.l1;have X:=(gS ha).1;obtain⟨eb,eo,ec,c8,b8,el,e1,c0,d1,c3,d3,c9,d0,b5⟩:=dc.row ha;have a7:ev.kind=1\/ev.kind=2:=oM;obtain⟨O,I,e3,g1,s1⟩:=pushF H (bC a5 1);have c4:O.low=H.n:=by rw[I];rfl
 have E:=rc.one;have a9:=rc.l12;have J:=rc.stay s1;have u:=dc.stay s1;have e4:=dc.n30;have hb:=dc.pos;obtain⟨rs,la,lc,a1,c5,a2,c6,a3,c7,q8,q9,e5,e6,e2,b2,_⟩:=rc.form;have D:=Jy O lo v l u.low u.ev oM a oM;have z:=NA O lo v l u.low u.ev u.cap oM a X;have U:=BA O lo v l u.low u.ev oM a oM;have hE:a+w7 (l.drop a) 0=C1 l a:=rfl;rw[hE]at U;have S:=gu l (abK X);have b9:=oT X;rw[i8 TT rfl _ sM];rcases dp:decide (eI l a 0<0)with _|_
 .have b3:=dF dp;rw[bt b3];obtain⟨p,hp⟩:=Int.eq_ofNat_of_zero_le (show 0<=eI l a 0 from oM);rw[hp]at D dp ⊢;obtain⟨_,b4,d6⟩:=cM dc.beg ha a7;rcases a4:V5 l a with _|_
  .obtain⟨m,rfl⟩:∃m,n=m+1:=⟨n-1,oM⟩
   rw[a4]at z;obtain⟨v',h',H2,b7,b1,⟨G,O2⟩,W⟩:=NG _ _ r O a5 J.hR J.l12 J.one oM p;refine J10 E I.symm D dp z g1 a9 b2 b7 b1 ?_;have hz:dt r l (m+1) (C1 l a) p true=Kv r p:=by rw[dt,abR,cA rfl]
   rw[hz];exact cd C5 (O2.wk oM) (s1.trans (W.wk oM)) (W.lowAll _ oM oM)
  .rw[a4]at z;have hS:=(b4 a4).1;obtain⟨v',h',H2,b6,b0,⟨G,O2⟩,W⟩:=ih O a5 l v J u (C1 l a) p S oM a8 (fun h=>by rw[lS hb _ 0 S,hS,<-lS hb a 0 oM,hp]);refine J11 E I.symm D dp z g1 a9 b2 U b6 b0 ?_;exact cd C5 (O2.wk oM) (s1.trans (W.wk oM)) (W.lowAll _ oM oM)
 .rw[cA (dT dp)];obtain⟨H2,a6,-,-,W⟩:=pushE O (bC [iV 0,nS] 2);have hO:=Ca O H.n 1 oM;rw[<-a6]at hO;refine J5 E I.symm D dp a6.symm ?_;exact vS C5 hO (s1.trans (W.wk oM)) (W.lowAll _ oM oM)
theorem Bx{n:Nat}(ih:pB r Hs lo K n):pB r Hs lo K (n+1):=by
 intro H a4 l v rc dc a p ha hn e4 b5;obtain⟨m,hg⟩:=kc.gr;have f4:=kc.wf.l1;obtain⟨D,S,n1,g1,s1⟩:=pushF H (bC a4 1);have e5:D.low=H.n:=by rw[S];rfl
 have f5:=dc.low;have I:=rc.one;have b7:=rc.l12;have J:=rc.stay s1;have a7:=dc.stay s1;obtain⟨rs,la,lc,a1,e6,a2,e7,a3,e8,q8,q9,f8,f9,f6,c5,_⟩:=rc.form;have ta:((a:Nat):Int).toNat=a:=tN a;have f7:=dc.n30;obtain⟨va,vc,c8⟩:=dc.ev.slice;rw[i8 Ll rfl _ sM,dt];rw[abA];by_cases hm:decide (l.length<=a)=true
 .rw[cA hm];have U:a=l.length:=oN (dT hm);have d:decide ((a:Int)=l.length)=true:=yo oM;obtain⟨v',h',H2,d1,c3,⟨G,O2⟩,O⟩:=NG _ _ r D a4 J.hR J.l12 J.one oM p;subst c8;refine J8 I S.symm d g1 b7 c5 d1 c3 ?_;exact cd C5 (O2.wk oM) (s1.trans (O.wk oM)) (O.lowAll _ oM oM)
 .rw[bt hm];have U:a<l.length:=by simpa using hm
  obtain⟨ev,he,hd⟩:=C7 U;obtain⟨eb,eo,ec,e9,d6,el,b6,e1,b3,e2,b4,f2,f3,c7⟩:=a7.row he;have dl:decide ((a:Int)=l.length)=false:=kA oM;rw[he];simp only;by_cases e3:ev.kind=3
  .rw[cA e3];have d3:decide (ev.kind=3)=true:=yo e3;obtain⟨H2,u,-,-,O⟩:=pushE D (bC [iV 0,nS] 2);have hO:=Ca D H.n 1 oM;rw[<-u]at hO;subst b6;refine J8 I S.symm dl b3 ta b4 d3 u.symm ?_;exact vS C5 hO (s1.trans (O.wk oM)) (O.lowAll _ oM oM)
  .rw[bt e3];have d3:decide (ev.kind=3)=false:=kA e3;have hp:=b5 U;obtain⟨H2,u,-,-,O⟩:=pushE D (.map []);have n2:H2.n=H.n+2:=by rw[u,i4,n1]
   have m2:H2.g D.n=some (vY kiE []):=by rw[u];exact j7
   have c4:=J.stay O;have b0:=a7.stay O;have hE:=oT U;cases n with
   |zero=>omega
   |succ n'=>
   obtain⟨d5,f1,H3,d0,c0,⟨Gb,Ob⟩,s3⟩:=Na kc ih H2 a4 l v c4 b0 a ev he e3 oM oM oM;rw[hp,bt oM]at Ob;have n3:=s3.n;have d2:=c4.stay s3;have c6:=b0.stay s3;obtain⟨d4,f0,E,c9,b9,⟨Gf,Of⟩,s4⟩:=HH ih H3 a4 l v d2 c6 a ev he e3 oM oM;have n4:=s4.n;have g2:=(O.g H.n oM).trans g1;have g3:=(s3.g H.n oM).trans g2;have a9:d9 H2.n H2 E:=s3.trans (s4.wk oM);have m4:=(a9.g D.n oM).trans m2;have b8:H.n<=E.low:=a9.lowAll _ oM (O.lowAll _ oM oM);obtain⟨fs,X⟩:=eY ((if ev.kind=2 then zO else dt r l (n'+1) (a+1) a false));obtain⟨bs,W⟩:=eY (dt r l (n'+1) (C1 l a) p (!V5 l a));rw[<-X]at Of;rw[<-W]at Ob;rw[<-X,<-W];have lf:fs.length<=25:=by
    rw[X];split
    .decide
    .have:=lP hg l (n'+1) (a+1) a false;omega
   have lb:bs.length<=25:=by have:=lP hg l (n'+1) (C1 l a) p (!V5 l a);rw[W];omega
   have kf:∀o∈fs,jH r (n'+1) o:=by
    rw[X];split
    .exact zj hg _
    .exact gN hg l _ _ _ _
   have kb:∀o∈bs,jH r (n'+1) o:=by rw[W];exact gN hg l _ _ _ _
   have a6:∀{x:aet}{os:List OpD}{F:Nat->Prop},SlF E F 2 (OpO E F) x os->(∀j,F j->H2.n<=j/\j<E.n)->SlF E (fun j=>D.n<j/\j<E.n) 2 (OpO E (fun j=>D.n<j/\j<E.n)) x os:=fun h hF=>h.mono (fun _ _=>rfl) (fun j hj=>by have:=hF j hj;omega) (fun cs o q=>C5 _ _ _ _ _ _ q (fun _ _=>rfl) (fun j hj=>by have:=hF j hj;omega));have a5:=a6 (Of.slf C5) (fun j hj=>oM);have b1:=a6 ((Ob.keep C5 s4).slf C5) (fun j hj=>oM);have hI:ROI D E D.n H.n E (nS) [] (fun _=>False):=⟨S3.nil,⟨lR,fun _ _ _=>rfl⟩,O.trans (a9.wk oM),m4,b8⟩
   obtain⟨fa,fc,b2⟩:=a5.slice;subst b6;refine J17 I S.symm dl b3 ta b4 d3 u.symm g2 g3 b7 c5 d0 c0 c9 b9 b2 ?_;refine j5 (F:=fun z=>Ret (t6 _ _ _ (u6 (inBlock 1 z) _)) _ _) (Fp kc J g1 lR oM H.n oM a7 a ev he fs bs d4 d5 a5 b1 lf lb (n'+1) oM kf kb (jV r ev fs bs []) fs.length _ _ ⟨0,_,[],_,rfl,aaJ _,rfl,rfl,rfl,rfl,rfl,rfl,b2.symm,rfl,rfl,hI,aaJ _,rfl⟩) ?_;rintro o' e' H' ⟨ho,w,G,h9,a8⟩;refine J2 ho h9 ?_;exact cd C5 (a8.out.wk oM) (s1.trans (a8.st.wk oM)) a8.low
theorem Jp:∀n,pB r Hs lo K n
 |0=>fun H h l v E u a p z D _ _=>oM
 |n+1=>Bx kc (Jp n)
theorem NB{H:d7}{l:List EvD}(O:RcR Hs lo K r H u)(E:DcR lo l H v){a:Nat}(I:l[a]?=some z)(D:z.kind≠3):
  Ret (CL prog l7 48 [.agg u.toArray,v,iV a] H) H (fg 2 OpO H (qO r l a)):=by
 have J:=E.n30;have h:=HH (Jp kc (l.length+1)) H u l v O E a z I D oM oM;rw[qO,I];exact h
theorem NC{H:d7}{l:List EvD}(J:RcR Hs lo K r H h)(D:DcR lo l H v){a:Nat}(E:l[a]?=some u)(z:u.kind≠3):
  Ret (CL prog l7 47 [.agg h.toArray,v,iV a] H) H (fg 2 OpO H (sF r l a)):=by
 have I:=D.n30;exact Na kc (Jp kc (l.length+1)) H h l v J D a u E z oM oM oM
end
def Lh(r:ReD):Bool:=r.size.all (fun x=>decide (x<=15))&&decide (r.sorts.length<=9)
def Hz(z:d7)(W:Nat)(E:LV)(O:z.g W=cE E 1)(va:Option Addr)(X:Nat)(l:List Int)(u:E[10]?=some (.slice va l.length X))(hv:SlI z z.n 1 (u9 inE) (.slice va l.length X) l)(hn:l.length<=1000000)(r:Bool):
  ∀U e H2,(∃i:Nat,U=l.length-i/\i<=l.length/\e.g 1=pT W/\e.g 3=iV i/\H2=z/\(l.drop i).all (fun x=>decide (x<=15))=r)->
  u7 (LE prog l7 (.loop Yn) e H2) (fun o e H2=>H2=z/\((o= .exit 0/\e.g 1=pT W/\r=true)\/(o= .ret/\e.g 2= .bool false/\r=false))):=by
 refine i5 _ _ ?_;rintro U e H2 ⟨i,hk,hi,D,J,rfl,h⟩;rcases b:decide ((i:Int)<l.length)with _|_
 .have S:=dF b;rw[dN oM]at h;refine J5 D J O u b ?_;exact i6 ⟨rfl,.inl ⟨rfl,D,h.symm⟩⟩
 .have S:=dT b;obtain⟨x,nb,o,cs,own,el,hx,hd,rfl,hF,hg,a2,a1,hc,rfl⟩:=hv.row (i:=i) oM;have nt:((i:Nat):Int).toNat=i:=tN i;have I:=hc 0 oM;rw[aaf,aaK]at I;rw[hd,aaE]at h;rcases d:decide (15<x)with _|_
  .have d':=dF d;rw[yo (show x<=15 from oM),aaL]at h;refine J11 D J O u b nt hg I d @aaK @wrap_small ?_;exact d8 (U-1) oM ⟨i+1,oM,oM,D,rfl,rfl,h⟩
  .have d':=dT d;rw[kA (show¬x<=15 from oM),abi]at h;refine J11 D J O u b nt hg I d @aaK @wrap_small ?_;exact w9 ⟨rfl,.inr ⟨rfl,rfl,h.symm⟩⟩
def UE{Hs:d7}{lo K:Nat}{r:ReD}{H:d7}(rc:RcR Hs lo K r H h)(hn:r.sorts.length<=25)(a8:r.size.length<=25):CL prog l7 19 [.agg h.toArray] H=some (.bool (Lh r),none):=by
 obtain⟨rs,la,lc,a1,a4,a2,I,a3,a5,q8,q9,S,b2,b1,b3,b0,a7,a9,O,a6⟩:=rc.form;obtain⟨U,D,n1,W,s1⟩:=pushF H (bC h 1);have X:H.n<=U.low:=by rw[D];exact lR
 have u:=rc.one;rw[i8 wI rfl _ sM,Lh];refine J2 u D.symm ?_;refine j5 (F:=fun z=>t6 _ _ _ (u6 (inBlock 0 z) _)=_) (Hz U H.n h W a2 I r.size S (O.mono (fun j hj=>s1.g j hj) oM iF) oM _ r.size.length _ _ ⟨0,rfl,aaJ _,rfl,rfl,rfl,rfl⟩) ?_;rintro o' e' H' ⟨rfl,⟨J,f1,E⟩|⟨J,h2,E⟩⟩
 .rw[aan]at E;have e9:decide ((r.sorts.length:Int)<=9)=decide (r.sorts.length<=9):=aaR.2 oM;exact J6 J f1 E W q9 e9 trivial
 .rw[aan]at E;exact J3 J h2 E trivial
def Wb(H:d7)(lo:Nat)(v:aet)(l:List EvD)(I:lo<=H.n)(W:Z6 H lo v l)(hn:l.length<=1048576):∃t:Bool,CL prog l7 7 [v] H=some (.bool t,none)/\(t=true->0<l.length/\l.length<=30/\D8 l=true):=by
 obtain⟨va,vc,S⟩:=W.slice;have J:Z6 ⟨H.bs,H.n⟩ lo v l:=W.mono (fun _ _=>rfl) lR;obtain⟨t,D⟩:=Mu ⟨H.bs,H.n⟩ lo v l I J oM;have z:=um ⟨H.bs,H.n⟩ lo v l I J oM;subst S;rw[i8 fn7 rfl _ sM];rcases E:decide ((0:Int)<l.length)with _|_
 .refine⟨false,?_,fun h=>by cases h⟩;exact J1 E trivial
 rcases u:decide ((l.length:Int)<=30)with _|_
 .refine⟨false,?_,fun h=>by cases h⟩;exact J2 E u trivial
 cases t with
 |false=>
  refine⟨false,?_,fun h=>by cases h⟩;exact J3 E u D trivial
 |true=>
  rcases O:D8 l with _|_
  .rw[O,bt sM]at z;refine⟨false,?_,fun h=>by cases h⟩;have d:decide ((0:Int)<= -1)=false:=rfl;exact J5 E u D z d trivial
  .rw[O,cA rfl]at z;have d:decide ((0:Int)<=dep 0 l)=true:=yo (jl O).1;have X:=dT E;have U:=dT u;refine⟨true,?_,fun _=>⟨oM,oM,rfl⟩⟩;exact J5 E u D z d trivial
def RcR.lowH{lo K:Nat}{r:ReD}{H:d7}(h:RcR z lo K r H u)(n:Nat):RcR z lo K r ⟨H.bs,n⟩ u:=
 ⟨h.hR.mono (fun _ _=>rfl) (fun _ h=>h),h.l12,h.one,h.low,h.eq⟩
def Vc(H:d7)(lo K:Nat)(q:Q)(v:aet)(H':d7):Prop:=∃row t,v= .tuple #[.agg row.toArray,.bool t]/\row.length=12/\row.all Value.oneCell'=true/\d9 H.n H H'/\(t=true->∃Hs r,KdC q r/\Lh r=true/\RcR Hs lo K r H' row)
def vW{P:Program}(e:Env)(H:d7)(a:Nat)(t:TypeId)(b:Nat):[ResultVar.cell a t,ResultVar.tmp b].mapM (N0 P e H)=(ld P t H (e.g a)).map fun v=>[v,e.g b]:=by
 simp only[ab1,aeo,N0];cases ld P t H (e.g a)<;>rfl
def Mq(K:Nat)(H:d7)(lo:Nat)(cs:LV)(q:Q)(e3:lo<=H.n)(hr:QR H lo K false cs q):
  Ret (CL prog lG 8 [.agg cs.toArray] H) H (Vc H lo K q):=by
 have ac:=I5 hr;have ldc:=Q6 hr;have l0:=hr.len;simp only[qSz,bF]at l0;rw[l0]at ldc;obtain⟨H1,a4,n1,g1,s1⟩:=pushF H (bC cs 1);obtain⟨H2,z⟩:=eY (H1.push (bC z12 1));have n2:H2.n=H.n+2:=by rw[z,i4,n1]
 have s2:d9 H.n H H2:=s1.trans (by rw[z];exact d9.push oM);have g2:H2.g H.n=cE cs 1:=by rw[z,i9 oM];exact g1
 have x2:H2.g (H.n+1)=cE z12 1:=by rw[z,<-n1];exact j7
 have d6:H2.low=H.n:=by rw[z,l9,a4];rfl
 have b6:QR H2 lo K false cs q:=hr.mono (fun j J=>s2.g j oM) lR;have U:=aA (Bv H2 lo K cs q oM b6);have zz:z12.length=12:=rfl;have b1:splice z12 0 z12=z12:=rfl;have e1:z12.all oC=true:=rfl;have b0:ldC (some true) (some 12) 0 z12=some (.agg z12.toArray):=rfl;obtain⟨H3,O⟩:=eY (H2.put (H.n+1) (bC z12 1));have n3:H3.n=H.n+2:=by rw[O,j9,n2]
 have x3:H3.g (H.n+1)=cE z12 1:=by rw[O];exact i7 oM
 have s3:d9 H.n H H3:=s2.trans (by rw[O];exact d9.put oM);have b2:H.n<=H3.low:=by rw[O,A5];omega
 simp only[z12]at z x2 O x3 b1 b0;rw[i8 fn8 rfl _ sM];rcases b:jb q with _|_
 .rw[b]at U;refine J13 ac a4.symm n1 z.symm g2 ldc U x2 b1 O.symm x3 b0 @vW ?_;exact bG (fun _=>⟨z12,false,rfl,rfl,rfl,d9.refl _ _,fun h=>by cases h⟩) ⟨z12,false,rfl,rfl,rfl,s3.ret b2,fun h=>by cases h⟩
 obtain⟨b5,hn⟩:=ky b;have X:=aA (Bt H2 lo K cs q oM b6 b5 oM);rw[b]at U;rcases bl:vG q with _|_
 .rw[bl]at X;refine J14 ac a4.symm n1 z.symm g2 ldc U X x2 b1 O.symm x3 b0 @vW ?_;exact bG (fun _=>⟨z12,false,rfl,rfl,rfl,d9.refl _ _,fun h=>by cases h⟩) ⟨z12,false,rfl,rfl,rfl,s3.ret b2,fun h=>by cases h⟩
 rw[bl]at X;obtain⟨v,h,S,b9,b4,u,er,rfl,s4,E⟩:=CM K H2 lo cs q oM b6 b5 oM;have n4:=s4.n;obtain⟨H5,a5,n5,x5,-⟩:=pushE S (bC z12 1);obtain⟨H6,W⟩:=eY (H5.put S.n (bC u 1));have n6:H6.n=S.n+1:=by rw[W,j9,n5]
 have x6:H6.g S.n=cE u 1:=by rw[W];exact i7 oM
 have a7:d9 S.n S H6:=by rw[W,a5];exact(d9.push lR).trans (d9.put lR)
 have y6:H6.g (H.n+1)=cE z12 1:=by rw[a7.g _ oM,s4.g _ oM];exact x2
 obtain⟨H7,D⟩:=eY (H6.put (H.n+1) (bC u 1));have n7:H7.n=S.n+1:=by rw[D,j9,n6]
 have x7:H7.g (H.n+1)=cE u 1:=by rw[D];exact i7 oM
 have c8:d9 H.n H H7:=s2.trans ((s4.wk oM).trans ((a7.wk oM).trans (by rw[D];exact d9.put oM)));have b3:H.n<=H7.low:=by
  have:H.n<=H6.low:=a7.lowAll _ oM (s4.lowAll _ oM oM);rw[D,A5];omega
 rcases E with⟨E,rfl,rfl⟩|⟨r,E,rfl,c7,hR⟩
 .simp only[z12]at a5 x5 W x6 D x7 y6 b9;refine J20 ac a4.symm n1 z.symm g2 ldc U X b9 b4 a5.symm x5 b1 W.symm x6 b0 y6 D.symm x7 @vW ?_;exact bG (fun _=>⟨z12,false,rfl,rfl,rfl,d9.refl _ _,fun h=>by cases h⟩) ⟨z12,false,rfl,rfl,rfl,c8.ret b3,fun h=>by cases h⟩
 .have kc:KdC q r:=by
   obtain⟨_,_,l,hl,a8⟩:=cP E;rw[vG,gk,gk]at bl;exact⟨b5,oM,E,c7,by rw[a8];exact Ap hr b hl,dT bl.1.2⟩
  have d1:∀j,iv H2 j->j≠H.n+1:=fun j J q=>by
   rcases J with J|J
   .omega
   .exact J _ _ (q▸x2)
  have c4:fh S (· <S.n) (QR H2 lo K false) (QR H2 lo K true) u r:=hR.mono (fun _ _=>rfl) (fun j J=>J.1);have a6:u.length=12/\u.all oC=true/\u.all na0=false:=by
   obtain⟨rs,vl,w1,w2,w3,I,b8,a8,b7,c6,c5⟩:=id c4;obtain⟨pa,pc,ga,gc,xa,xc,ea,ec,ta,tc,a9,_⟩:=E9 b8;obtain⟨a1,c1,rfl⟩:=b7.slice;obtain⟨a2,c2,rfl⟩:=c6.slice;obtain⟨a3,c3,rfl⟩:=c5.slice;obtain⟨la,lc,rfl⟩:=a8.slice;have e2:=c7.l0;obtain⟨_,nb,o,_,_,_,_,_,q,_⟩:=(show SlI S S.n 3 (u9 soE) (.slice a1 r.sorts.length c1) r.sorts from b7).row (i:=0) oM;subst q;refine⟨by rw[I,a9];rfl,by rw[I,a9];rfl,?_⟩;rw[I];simp [na0]
  have c0:RcR H2 lo K r S u:=⟨c4,a6.1,a6.2.1,oM,fun j J=>s4.g j oM⟩
  have d3:=c0.stay a7;have z7:∀j,j<S.n->j≠H.n+1->H7.g j=S.g j:=fun j J hm=>by rw[D,j6 (fun q=>hm q.symm),a7.g j J]
  have d4:RcR H2 lo K r H7 u:=⟨hR.mono (fun j J=>z7 j J.1 (d1 j J.2)) (fun j J=>by have:=J.1;omega),a6.1,a6.2.1,oM,fun j J=>by rw[z7 j oM oM];exact s4.g j oM⟩
  have d0:=aA (UE d3 kc.wf.l1 (by rw[kc.wf.l2];exact kc.wf.l1));have lr:=c0.l12;have ar:=c0.one;have c9:splice z12 0 u=u:=by
   obtain⟨rs,vl,w1,w2,w3,I,b8,a8,b7,c6,c5⟩:=id hR;obtain⟨pa,pc,ga,gc,xa,xc,ea,ec,ta,tc,a9,_⟩:=E9 b8;rw[I,a9];rfl
  have d5:u.take 12=u:=A2 oM;simp only[z12]at a5 x5 c9 y6;refine J23 ac a4.symm n1 z.symm g2 ldc U X b9 b4 a5.symm x5 c9 lr ar d5 W.symm x6 d0 y6 D.symm x7 @vW ?_;refine bG (fun d2=>?_) ⟨u,Lh r,rfl,lr,ar,c8.ret b3,fun hf=>⟨H2,r,kc,hf,d4.lowH _⟩⟩
  exfalso
  have h1:u.all na0=true:=d2;rw[a6.2.2]at h1;cases h1
def RcR.here{lo K:Nat}{r:ReD}{H:d7}(h:RcR S lo K r H z):RcR H H.n K r H z:=by
 obtain⟨X,vl,w1,w2,w3,u,J,E,I,O,D⟩:=h.hR;have U:∀f cs a,QR S lo K f cs a->QR H H.n K f cs a:=fun f cs a q=>q.mono (fun j W=>h.eq j W) h.low;exact⟨⟨X,vl,w1,w2,w3,u,J.mono (fun _ _=>rfl) (fun _ h=>h) (U false) (U true),E,I,O,D⟩,h.l12,h.one,lR,fun _ _=>rfl⟩
def RcR.of{lo K:Nat}{r:ReD}{H:d7}(X:fh H (· <H.n) (QR D lo K false) (QR D lo K true) z r)(a4:1<=r.sorts.length)(O:lo<=H.n)(E:∀j,j<lo->H.g j=D.g j):RcR D lo K r H z:=by
 obtain⟨rs,vl,w1,w2,w3,h,U,J,S,W,I⟩:=id X;obtain⟨pa,pc,ga,gc,xa,xc,ea,ec,ta,tc,u,_⟩:=E9 U;obtain⟨a1,c1,rfl⟩:=S.slice;obtain⟨a2,c2,rfl⟩:=W.slice;obtain⟨a3,c3,rfl⟩:=I.slice;obtain⟨la,lc,rfl⟩:=J.slice;exact⟨X,by rw[h,u];rfl,by rw[h,u];rfl,O,E⟩
def evA:EvD:=⟨1,eB,⟨#[97]⟩,[],eB⟩
def CV(a n:Nat)(h:0<n):I3 prog .rem 3 (.int .i64 (a:Int)) (.int .i64 (n:Int))=some (.int .i64 ((a % n:Nat):Int)):=by
 simp only[I3,aab];rw[bt oM,<-Int.ofNat_tmod]
def NK{a:Nat}(h:a<=255):IntKind.i64.wrap (a:Int)=a:=wrap_small oM oM
def Md{r:ReD}(h:N1 r m)(l:List EvD)(a:Nat):(∀o∈qO r l a,jH r (l.length+1) o)/\(qO r l a).length<=25:=by
 have u:=h.l1;rw[qO];split
 .exact⟨fun o z=>(by cases z),by simp⟩
 .split
  .exact⟨zj h _,by decide⟩
  .exact⟨gN h l _ _ _ _,by have:=lP h l (l.length+1) (a+1) a false;omega⟩
def Mc{r:ReD}(h:N1 r m)(l:List EvD)(a:Nat):(∀o∈sF r l a,jH r (l.length+1) o)/\(sF r l a).length<=25:=by
 have u:=h.l1;rw[sF];split
 .exact⟨zj h _,by decide⟩
 .exact⟨gN h l _ _ _ _,by have:=lP h l (l.length+1) (C1 l a) (eI l a 0) (!V5 l a);omega⟩
structure SrR(Hs:d7)(lo K:Nat)(s:StD)(H:d7)(rs:LV):Prop where
 st:StF H (· <H.n) (QR Hs lo K false) (QR Hs lo K true) rs s
 low:lo<=H.n
 eq:∀j,j<lo->H.g j=Hs.g j
def SrR.stay{Hs:d7}{lo K:Nat}{s:StD}{H H':d7}(h:SrR Hs lo K s H D)(z:d9 H.n H H'):SrR Hs lo K s H' D:=by
 have I:=z.n;have E:=h.low;exact⟨h.st.mono (fun j u=>z.g j u) (fun j u=>oM) iF iF,oM,fun j u=>by rw[z.g j oM,h.eq j u]⟩
section
variable{q:Q}{r:ReD}(kc:KdC q r){Hs:d7}{lo K:Nat}
include kc
end
def SkK(S:Nat->Prop)(Hb H:d7)(w:aet):Prop:=∀j,S j->j<H.n/\H.g j=Hb.g j/\¬j8 w j
def SkK.stay{Hb H H':d7}{w:aet}(h:SkK S Hb H w)(u:d9 H.n H H'):SkK S Hb H' w:=fun j I=>by
 have J:=u.n;obtain⟨z,D,E⟩:=h j I;exact⟨oM,by rw[u.g j z,D],E⟩
section
variable{q:Q}{r:ReD}(kc:KdC q r){Hs:d7}{lo K:Nat}
include kc
end
def SS{l:List EvD}{o:List (Int×Int)}(u:(o.map (·.1)).Nodup)(z:∀x∈o,∃h:Nat,∃k:Nat,x=((h:Int),(k:Int))/\h∈E4 l l.length):o.length<=l.length:=by
 have:=mO (n:=l.length) u (fun x E=>by
  obtain⟨y,I,rfl⟩:=aau.1 E;obtain⟨h,k,rfl,D⟩:=z y I;have:=Da l l.length h D;show 0<=(h:Int)/\(h:Int)<_;omega)
 simpa using this
def RZ{r:ReD}{o:List (Int×Int)}(z:(o.map (·.1)).Nodup)(h:∀x∈o,0<=x.2) (u:∀n k,(QK r n k).length<=30):∀s:List Nat,(goT r o s).length<=31*s.length
 |[]=>lR
 |p::s=>by
  have:=RZ z h u s;rw[goT,xu p o z h,ib,A1,A1];have:=u (W8 o p+1) (W8 o p);omega
def NF{r:ReD}(hf:Lh r=true):∀k:Nat,r.size.getD k 0<=15:=fun k=>by
 simp only[Lh,gk,aaB,xo]at hf;rw[ma];cases h:r.size[k]? with
 |none=>decide
 |some x=>exact hf.1 x (mG h)
section
variable{q:Q}{r:ReD}(kc:KdC q r)(hf:Lh r=true)
include kc hf
theorem XV{l:List EvD}(h:D8 l=true)(h1:l≠ [])(hl:l.length<=30){o:List (Int×Int)}(E:(o.map (·.1)).Nodup)(I:∀x∈o,∃U k:Nat,x=((U:Int),(k:Int))/\k<r.sorts.length/\U∈E4 l l.length) (ht:∀e p,l.getLast?=some e->e.kind=2->(E4 l l.length).getLast?=some p->(r.sorts.getD (W8 o p) soZ).2.1=false):
  D8 (l++goT r o (E4 l l.length).reverse)=true/\dep 0 (l++goT r o (E4 l l.length).reverse)=0/\(l++goT r o (E4 l l.length).reverse).length<=1000/\o.length<=30/\Th r l (goT r o (E4 l l.length).reverse) o:=by
 obtain⟨m,O⟩:=kc.gr;have l0:0<r.sorts.length:=kc.wf.l0;have W:∀x∈o,0<=x.2:=fun x u=>by obtain⟨p,k,rfl,_⟩:=I x u;exact ac7 k
 have S:∀p,W8 o p<r.sorts.length:=fun p=>by
  rw[W8];cases hq:o.find? (fun x=>decide (x.1=(p:Int)))with
  |none=>exact l0
  |some x=>
   obtain⟨U,k,rfl,a1,_⟩:=I x (adH hq);show((k:Int)).toNat<_;omega
 have X:∀e∈r.labels,e.kind=1\/e.kind=2:=fun e J=>(kc.lab e J).2;have hr:∀e∈r.labels,eM e=true:=fun e J=>(kc.lab e J).1.1;obtain⟨b1,b2⟩:=SB O kc.wf.sb X hr h h1 hl E W S (fun k _=>NF hf k) ht;have D:∀n k,(QK r n k).length<=30:=fun n k=>by
  have:=Wk O kc.wf.sb n k;have:=NF hf k.toNat;omega
 have z:=RZ E W D (E4 l l.length).reverse;have a2:=y8 l l.length;rw[ab4]at z;refine⟨b1,b2,by rw[ib];omega,?_,Wm O X E (fun x u=>by obtain⟨p,k,e,e2,_⟩:=I x u;exact⟨p,k,e,e2⟩)⟩;have:=SS (l:=l) E (fun x u=>by obtain⟨p,k,e,_,e2⟩:=I x u;exact⟨p,k,e,e2⟩);omega
theorem WH{l:List EvD}(h:D8 l=true)(D:l≠ [])(I:l.length<=30):∃T,D8 (l++T)=true/\dep 0 (l++T)=0:=by
 obtain⟨m,E⟩:=kc.gr;obtain⟨u,z,_⟩:=XV kc hf h D I (o:=[]) ab2 (fun x J=>by cases J) (fun e p _ _ _=>by
  show(r.sorts.getD 0 soZ).2.1=false;rw[(uZ E).1];rfl)
 exact⟨_,u,z⟩
end
def SH(h:y∈gi u x):y∈u\/y=x:=by
 rw[gi]at h;split at h
 .exact .inl h
 .rcases ns.1 h with h|h
  .exact .inl h
  .exact .inr (aad.1 h)
def SE(u:List ChD)(x:ChD):∃y∈gi u x,y.1=x.1:=by
 rw[gi];split
 next h=>obtain⟨y,z,q⟩:=aa3.1 h;simp only[gk,xo]at q;exact⟨y,z,q.1⟩
 .exact⟨x,by simp,rfl⟩
def SI(h:y∈u):y∈gi u x:=by
 rw[gi];split
 .exact h
 .exact acp _ h
def Aw{r:ReD}{f b:Int}{g:List Bool}(h:y∈pZ r e u f b g p):y∈u\/(0<=R4 r e f b/\y=(R4 r e f b,OV r e (R4 r e f b) g,p)):=by
 rw[pZ]at h;split at h
 .exact .inl h
 .rcases SH h with h|h
  .exact .inl h
  .exact .inr ⟨oM,h⟩
def wi{r:ReD}{e:EvD}{u:List ChD}{f b:Int}{g:List Bool}{p:List (Int×Int)}{y:ChD}(h:y∈u):y∈pZ r e u f b g p:=by
 rw[pZ];split
 .exact h
 .exact SI h
def HT{r:ReD}(u:List ChD){f b:Int}(g:List Bool)(p:List (Int×Int))(h:0<=R4 r e f b):∃y∈pZ r e u f b g p,y.1=R4 r e f b:=by
 rw[pZ,bt oM];exact SE _ _
def qU{α:Type}{P:ChD->Prop}{g:List ChD->α->List ChD}:∀(xs:List α)(u:List ChD),(∀x∈xs,∀u,(∀y∈u,P y)->∀y∈g u x,P y)->(∀y∈u,P y)->∀y∈xs.foldl g u,P y
 |[],u,_,h=>h
 |x::xs,u,hg,h=>qU xs (g u x) (fun z D=>hg z (abe _ D)) (hg x sM u h)
def Ao{α:Type}{g:List ChD->α->List ChD}(z:∀x u y,y∈u->y∈g u x):∀(xs:List α)(u:List ChD)(y:ChD),y∈u->y∈xs.foldl g u
 |[],u,y,h=>h
 |x::xs,u,y,h=>Ao z xs (g u x) y (z x u y h)
def qW{α:Type}{P:ChD->Prop}{g:List ChD->α->List ChD}(D:∀x u y,y∈u->y∈g u x) {x:α} (E:∀u,∃y∈g u x,P y):∀(xs:List α)(u:List ChD),x∈xs->∃y∈xs.foldl g u,P y
 |[],u,h=>by cases h
 |z::xs,u,h=>by
  rcases aam.1 h with rfl|h
  .obtain⟨y,I,q⟩:=E u;exact⟨y,Ao D xs _ y I,q⟩
  .exact qW D E xs (g u z) h
def wd{α:Type}{g:List ChD->α->List ChD}(u:∀x,(g [] x).length<=1) {xs:List α} (z:xs.length<=1):(xs.foldl g []).length<=1:=by
 match xs,z with
 |[],_=>simp
 |[x],_=>exact u x
def Ii(r:ReD)(e:EvD)(f b:Int)(g:List Bool)(p:List (Int×Int)):(pZ r e [] f b g p).length<=1:=by
 rw[pZ];split
 .simp
 .simp [gi]
def VS{r:ReD}(f:OpD)(u:List ChD)(y:ChD)(h:y∈u):y∈OA r e f bs u:=by
 unfold OA;refine Ao (fun b u y h=>?_) bs u y h;exact @wi r e u f.1 b.1 (bN r) (f.2++b.2) y h
def TD{r:ReD}(x:ChD)(u:List ChD)(y:ChD)(h:y∈u):y∈FT r e x bs u:=by
 unfold FT;refine Ao (fun b u y h=>?_) bs u y h;exact @wi r e u x.1 b.1 _ (x.2.2++b.2) y h
def Po{P:ChD->Prop}{r:ReD}(h:∀f∈D,∀b∈bs,0<=R4 r e f.1 b.1->P (R4 r e f.1 b.1,OV r e (R4 r e f.1 b.1) (bN r),f.2++b.2)):∀y∈Iv r e D bs [],P y:=by
 unfold Iv;refine qU D [] (fun f O z E=>?_) (fun y u=>by cases u);unfold OA;refine qU bs z (fun b J z E y u=>?_) E;rcases Aw u with u|⟨I,q⟩
 .exact E y u
 .rw[q];exact h f O b J I
def OP{P:ChD->Prop}{r:ReD}(h:∀x∈c,0<=R4 r e k x.1->P (R4 r e k x.1,OV r e (R4 r e k x.1) (Ax r.strat.main x.2.1 2),x.2.2)):∀y∈GG r e k c [],P y:=by
 unfold GG;refine qU c [] (fun x E I D y u=>?_) (fun y u=>by cases u);rcases Aw u with u|⟨z,q⟩
 .exact D y u
 .rw[q];exact h x E z
def OL{P:ChD->Prop}{r:ReD}(h:∀x∈c,∀b∈bs,0<=R4 r e x.1 b.1->P (R4 r e x.1 b.1,OV r e (R4 r e x.1 b.1) (Ax r.strat.main x.2.1 1),x.2.2++b.2)):∀y∈FS r e c bs [],P y:=by
 unfold FS;refine qU c [] (fun x J z D=>?_) (fun y u=>by cases u);unfold FT;refine qU bs z (fun b I z D y u=>?_) D;rcases Aw u with u|⟨E,q⟩
 .exact D y u
 .rw[q];exact h x J b I E
def VK{r:ReD}{f b:OpD}(z:b∈bs)(h:0<=R4 r e f.1 b.1)(u:List ChD):∃y∈OA r e f bs u,y.1=R4 r e f.1 b.1:=by
 unfold OA;refine qW (P:=fun y=>y.1=R4 r e f.1 b.1) (fun b u y h=>?_) (x:=b) (fun u=>?_) bs u z
 .exact @wi r e u f.1 b.1 _ _ y h
 .exact HT u _ _ h
def Tk{r:ReD}{x:ChD}{b:OpD}(z:b∈bs)(h:0<=R4 r e x.1 b.1)(u:List ChD):∃y∈FT r e x bs u,y.1=R4 r e x.1 b.1:=by
 unfold FT;refine qW (P:=fun y=>y.1=R4 r e x.1 b.1) (fun b u y h=>?_) (x:=b) (fun u=>?_) bs u z
 .exact @wi r e u x.1 b.1 _ _ y h
 .exact HT u _ _ h
def VC{r:ReD}{f b:OpD}(E:f∈z)(D:b∈bs)(h:0<=R4 r e f.1 b.1):∃y∈Iv r e z bs [],y.1=R4 r e f.1 b.1:=by
 unfold Iv;exact qW (P:=fun y=>y.1=R4 r e f.1 b.1) (fun f u y h=>VS f u y h) (x:=f) (fun u=>VK D h u) z [] E
def TQ{r:ReD}(z:x∈c)(h:0<=R4 r e k x.1):∃y∈GG r e k c [],y.1=R4 r e k x.1:=by
 unfold GG;refine qW (P:=fun y=>y.1=R4 r e k x.1) (fun x u y h=>?_) (x:=x) (fun u=>?_) c [] z
 .exact @wi r e u k x.1 _ _ y h
 .exact HT u _ _ h
def Ti{r:ReD}{b:OpD}(D:x∈c)(z:b∈bs)(h:0<=R4 r e x.1 b.1):∃y∈FS r e c bs [],y.1=R4 r e x.1 b.1:=by
 unfold FS;exact qW (P:=fun y=>y.1=R4 r e x.1 b.1) (fun x u y h=>TD x u y h) (x:=x) (fun u=>Tk z h u) c [] D
def VL{r:ReD}{bs:List OpD}(f:OpD)(u:bs.length<=1):(OA r e f bs []).length<=1:=by
 unfold OA;exact wd (fun b=>Ii _ _ _ _ _ _) u
def Tl{r:ReD}{bs:List OpD}(x:ChD)(u:bs.length<=1):(FT r e x bs []).length<=1:=by
 unfold FT;exact wd (fun b=>Ii _ _ _ _ _ _) u
def VJ{r:ReD}{u bs:List OpD}(D:u.length<=1)(z:bs.length<=1):(Iv r e u bs []).length<=1:=by
 unfold Iv;exact wd (fun f=>VL f z) D
def TR{r:ReD}{c:List ChD}(u:c.length<=1):(GG r e k c []).length<=1:=by
 unfold GG;exact wd (fun x=>Ii _ _ _ _ _ _) u
def Tj{r:ReD}{bs:List OpD}{c:List ChD}(z:c.length<=1)(u:bs.length<=1):(FS r e c bs []).length<=1:=by
 unfold FS;exact wd (fun x=>Tl x u) z
def QI(l:List EvD)(a:Nat):Prop:=∃j,a<=j/\j<=l.length/\(E4 l j).length<(E4 l a).length
def SJ(x:OpD):(ik [] x).length<=1:=by simp [ik]
def SU{r:ReD}{u bs:List OpD}(D:u.length<=1)(z:bs.length<=1):(jV r e u bs []).length<=1:=by
 have E:∀f b,(gQ r e [] f b).length<=1:=fun f b=>by
  rw[gQ];split
  .simp
  .exact SJ _
 have I:∀f,(ip r e f bs []).length<=1:=fun f=>by
  match bs,z with
  |[],_=>simp [ip]
  |[b],_=>exact E f b
 match u,D with
 |[],_=>simp [jV]
 |[f],_=>exact I f
def FR{r:ReD}{l:List EvD}(h:D8 l=true):∀(n a:Nat)(p:Int),QI l a->(dt r l n a p false).length<=1
 |0,_,_,_=>by simp [dt]
 |n+1,a,p,⟨j,h1,h2,h3⟩=>by
  have u:a<j:=by
   by_cases q:a=j
   .subst q;omega
   .omega
  rw[dt,bt (by simp;omega)];obtain⟨e,E,_⟩:=C7 (l:=l) (i:=a) oM;rw[E];simp only;by_cases U:e.kind=3
  .rw[cA U];simp [zO]
  .rw[bt U];have D:e.kind=1\/e.kind=2:=by rcases gU (U7 h E).2.1 with q|q|q<;>omega
   obtain⟨_,I,S⟩:=cM h E D;have z:V5 l a=true:=by
    rcases q:V5 l a with _|_
    .have:=(S q).2.2 j u h2;omega
    .rfl
   obtain⟨W,J⟩:=I z;have a1:=oT (l:=l) (a:=a) oM;have O:C1 l a<=j:=by
    by_cases q:j<C1 l a
    .have:=J j u q;omega
    .omega
   rw[z,abd];refine SU ?_ (FR h n _ p ⟨j,O,h2,by rw[W];exact h3⟩);rcases D with X|e2
   .rw[bt oM];have s1:E4 l (a+1)=E4 l a++[a]:=by rw[E4,E];simp only;rw[cA X]
    exact FR h n _ _ ⟨C1 l a,oM,oM,by rw[W,s1];simp⟩
   .rw[cA e2];simp [zO]
def bj(l:List EvD)(a:Nat)(e:EvD):Prop:=l[a]?=some e/\(e.kind=1\/e.kind=2)
section
variable{r:ReD}{l:List EvD}(h:D8 l=true)
include h
theorem Ag{a:Nat}(u:bj l a e)(O:V5 l a=true):(qO r l a).length<=1/\∀o∈qO r l a,o.2=[]:=by
 obtain⟨u,U⟩:=u;have z:=(gS u).1;rw[qO,u];simp only;rcases U with D|I
 .rw[bt oM];have J:=((cM h u (.inl D)).2.1 O).1;have S:=oT z;have W:=gu l (abK z);have s1:E4 l (a+1)=E4 l a++[a]:=by rw[E4,u];simp only;rw[cA D]
  have E:(E4 l (C1 l a)).length<(E4 l (a+1)).length:=by rw[J,s1];simp
  exact⟨FR h _ _ _ ⟨C1 l a,oM,oM,E⟩,kG h _ _ _ (C1 l a) oM oM E⟩
 .rw[cA I];exact⟨by simp [zO],fun o X=>by have:o=(0,[]):=(by simpa [zO] using X);rw[this]⟩
theorem wu{a:Nat}(z:bj l a e)(E:QI l a):V5 l a=true:=by
 obtain⟨j,I,D,J⟩:=E;rcases q:V5 l a with _|_
 .have u:a<j:=by
   by_cases q:a=j
   .subst q;omega
   .omega
  have:=((cM h z.1 z.2).2.2 q).2.2 j u D;omega
 .rfl
theorem GW{a:Nat}(z:bj l a e)(W:QI l a):(sF r l a).length<=1/\∀o∈sF r l a,o.2=[]:=by
 have S:=wu h z W;obtain⟨j,h1,I,J⟩:=W;obtain⟨O,E⟩:=(cM h z.1 z.2).2.1 S;have u:C1 l a<=j:=by
  have D:a<j:=by
   by_cases q:a=j
   .subst q;omega
   .omega
  by_cases q:j<C1 l a
  .have:=E j D q;omega
  .omega
 rw[sF];split
 .exact⟨(by simp [zO]),fun o X=>by have:o=(0,[]):=(by simpa [zO] using X);rw[this]⟩
 .rename_i U;obtain⟨p,U⟩:∃p:Nat,eI l a 0=p:=⟨(eI l a 0).toNat,oM⟩
  rw[S,abd,U];exact⟨FR h _ _ _ ⟨j,u,I,by rw[O];exact J⟩,kG h _ _ _ j u I (by rw[O];exact J)⟩
theorem Hv{P:Nat->List ChD->Prop}(J:∀p s a e c,bj l s e->V5 l s=true->C1 l s=a->a<=l.length->E4 l a=E4 l p++[p]->E4 l s=E4 l p++[p]->p<s->s<a->P a c->P s (qT r l s c)) (O:∀p e c,l[p]?=some e->e.kind=1->p+1<=l.length->E4 l (p+1)=E4 l p++[p]->P (p+1) c->P p (xT r l p c)):
  ∀(n a:Nat)(c:List ChD)(e:EvD),bj l a e->a<=n->P a c->P 0 (Oz r l n a c)
 |0,a,c,e,ha,hn,hP=>by
  obtain rfl:a=0:=oM;exact hP
 |n+1,a,c,e,ha,hn,hP=>by
  rw[Oz];by_cases I:a=0
  .rw[cA I];subst I;exact hP
  .have a1:=(gS ha.1).1;obtain⟨p,X,_⟩:=Mo h ha.1 oM;have E:=zM h oM X;have D:p∈E4 l a:=by rw[E];simp
   have a2:=Da l _ p D;obtain⟨S,u,z⟩:=ck l _ p D;rw[bt I];by_cases hf:a=p+1
   .subst hf;rw[Cy h u z,bt oM,X,show((p:Int)).toNat=p from tN p];exact Hv J O n p _ S ⟨u,.inl z⟩ oM (O p S c u z oM E hP)
   .obtain⟨s,e',g1,g2,g3,U,W,g6,g7,g8,g9⟩:=Nc h oM E oM;rw[g8,cA oM,show((s:Int)).toNat=s from tN s];exact Hv J O n s _ e' ⟨U,W⟩ oM (J p s a e' c ⟨U,W⟩ g6 g7 oM E g3 g1 g2 hP)
end
structure ChI(r:ReD)(l:List EvD)(a:Nat)(y:ChD):Prop where
 nd:(y.2.2.map (·.1)).Nodup
 op:∀x∈y.2.2,∃p' k:Nat,x=((p':Int),(k:Int))/\k<r.sorts.length/\p'∈E4 l l.length/\eI l a 0<=p'
 sh:QI l a->y.2.2=[]
section
variable{r:ReD}{l:List EvD}(h:D8 l=true)
include h
theorem XS{a:Nat}(u:bj l a e)(z:o∈qO r l a):(o.2.map (·.1)).Nodup/\(∀x∈o.2,∃E k:Nat,x=((E:Int),(k:Int))/\k<r.sorts.length/\E∈E4 l l.length/\a<=E)/\(V5 l a=true->o.2=[]):=by
 refine⟨(Sx h u.1 u.2 z).1,?_,fun S=>(Ag h u S).2 o z⟩;obtain⟨u,D⟩:=u;have O:a<l.length:=(gS u).1;rw[qO,u]at z;simp only at z;rcases D with D|D
 .rw[bt oM]at z;have J:E4 l (a+1)=E4 l a++[a]:=by rw[E4,u];simp only;rw[cA D]
  obtain⟨W,U⟩:=jP h (l.length+1) (a+1) a false (E4 l a).length oM oM (by rw[J];simp) (fun _=>by rw[J];simp) (fun q=>by cases q) o z;exact fun x I=>by obtain⟨E,k,h1,h2,h3,h4⟩:=U x I;exact⟨E,k,h1,h2,h3,oM⟩
 .rw[cA D]at z;have:o=(0,[]):=(by simpa [zO] using z)
  rw[this];exact fun x I=>by cases I
theorem Ur{a:Nat}(D:bj l a e)(z:o∈sF r l a):(o.2.map (·.1)).Nodup/\(∀x∈o.2,∃I k:Nat,x=((I:Int),(k:Int))/\k<r.sorts.length/\I∈E4 l l.length/\eI l a 0<=I/\(V5 l a=false->(I:Int)=eI l a 0/\I<a))/\(QI l a->o.2=[]):=by
 refine⟨(Ss h D.1 D.2 z).1,?_,fun hs=>(GW h D hs).2 o z⟩;obtain⟨D,hk⟩:=D;have J:a<l.length:=(gS D).1;have a4:=oT J;have a5:=gu l (abK J);rcases abx a with U|U
 .subst U;rw[sF,Jd,cA oM]at z;have:o=(0,[]):=(by simpa [zO] using z)
  rw[this];exact fun x O=>by cases O
 .obtain⟨p,S,E,a3⟩:=Mo h D U;have a2:p<a:=Da l a p (mG E);rw[sF,S,bt oM]at z;obtain⟨_,W,a1⟩:=cM h D hk;rcases u:V5 l a with _|_
  .obtain⟨hE,⟨t,ht⟩,_⟩:=a1 u;rw[u,aby,dt,abR,cA rfl]at z;obtain⟨k,X,rfl⟩:=aau.1 z;refine fun x O=>⟨p,k,aad.1 O,aaz.1 X,?_,by rw[S];omega,fun _=>⟨S.symm,a2⟩⟩
   rw[ht];exact acp _ (mG E)
  .have hS:=(W u).1;rw[u,abd]at z;obtain⟨q1,q2⟩:=jP h (l.length+1) (C1 l a) p false ((E4 l a).length-1) oM oM (by rw[hS];exact E) (fun _=>by rw[hS];omega) (fun q=>by cases q) o z;exact fun x O=>by
    obtain⟨I,k,h1,h2,h3,h4⟩:=q2 x O;exact⟨I,k,h1,h2,h3,by rw[S];omega,fun q=>by cases q⟩
theorem Ov{a b:List (Int×Int)}(z:(a.map (·.1)).Nodup)(D:(b.map (·.1)).Nodup)(E:∀x∈a,∀y∈b,x.1≠y.1):((a++b).map (·.1)).Nodup:=by
 rw[abg,acs];refine⟨z,D,fun u I v J=>?_⟩;obtain⟨x,O,rfl⟩:=aau.1 I;obtain⟨y,S,rfl⟩:=aau.1 J;exact E x O y S
theorem WN{a:Nat}(z:bj l a e):∀y∈ownC r l a,ChI r l a y:=by
 have a1:eI l a 0<=a:=by
  rcases abx a with I|I
  .subst I;rw[Jd];omega
  .obtain⟨p,hp,O,_⟩:=Mo h z.1 I;have:=Da l a p (mG O);omega
 rw[ownC,z.1];refine Po fun f hf b hb I=>?_;obtain⟨f1,W,X⟩:=XS h z hf;obtain⟨S,U,b3⟩:=Ur h z hb;refine⟨?_,?_,?_⟩
 .rcases D:V5 l a with _|_
  .refine Ov h f1 S fun x u y hy=>?_;obtain⟨p1,k1,rfl,_,_,J⟩:=W x u;obtain⟨p2,k2,rfl,_,_,_,E⟩:=U y hy;have:=(E D).2;show(p1:Int)≠p2;omega
  .show((f.2++b.2).map (·.1)).Nodup;rw[X D];exact S
 .intro x u;rcases ns.1 u with u|u
  .obtain⟨p1,k1,rfl,J,E,q3⟩:=W x u;exact⟨p1,k1,rfl,J,E,oM⟩
  .obtain⟨p2,k2,rfl,J,E,q3,_⟩:=U x u;exact⟨p2,k2,rfl,J,E,q3⟩
 .intro hs;show f.2++b.2=[];rw[X (wu h z hs),b3 hs];rfl
theorem Wz{p s a:Nat}(hs:bj l s e)(D:a<=l.length)(I:E4 l a=E4 l p++[p])(u:E4 l s=E4 l p++[p])(a1:s<a)(W:∀y∈c,ChI r l a y):∀y∈qT r l s c,ChI r l s y:=by
 have J:=gj h D I;have O:=gj h oM u;rw[qT,hs.1];refine OP fun x hx h0=>?_;obtain⟨x1,x2,x3⟩:=W x hx;refine⟨x1,fun z hz=>?_,fun S=>x3 ?_⟩
 .obtain⟨p',k,q1,q2,q3,U⟩:=x2 z hz;exact⟨p',k,q1,q2,q3,by rw[O];rw[J]at U;exact U⟩
 .obtain⟨j,j1,j2,E⟩:=S;by_cases X:a<=j
  .exact⟨j,X,j2,by rw[I];rw[u]at E;exact E⟩
  .exfalso
   have hp:p∈E4 l a:=by rw[I];simp
   have:=(FI h hp D).2 j (by have:=Da l s p (by rw[u];simp);omega) oM;rw[u]at E;simp at E;omega
theorem Ww(W:l[p]?=some e)(hk:e.kind=1)(a1:p+1<=l.length)(J:E4 l (p+1)=E4 l p++[p])(hc:∀y∈c,ChI r l (p+1) y):∀y∈xT r l p c,ChI r l p y:=by
 have E:=gj h a1 J;have a3:eI l p 0<=p:=by
  rcases abx p with U|U
  .subst U;rw[Jd];omega
  .obtain⟨p',a2,X,_⟩:=Mo h W U;have:=Da l p p' (mG X);omega
 have hn:bj l p e:=⟨W,.inl hk⟩
 rw[xT,W];refine OL fun x hx b hb U=>?_;obtain⟨x1,x2,x3⟩:=hc x hx;obtain⟨b1,b2,b3⟩:=Ur h hn hb;have D:V5 l p=true->QI l (p+1):=fun u=>by
  have hS:=((cM h W (.inl hk)).2.1 u).1;exact⟨C1 l p,by have:=oT (l:=l) (a:=p) oM;omega,gu l oM,by rw[hS,J];simp⟩
 refine⟨?_,?_,?_⟩
 .rcases u:V5 l p with _|_
  .refine Ov h x1 b1 fun z I y hy=>?_;obtain⟨p1,k1,rfl,_,_,O⟩:=x2 z I;obtain⟨p2,k2,rfl,_,_,_,S⟩:=b2 y hy;have:=(S u).2;rw[E]at O;show(p1:Int)≠p2;omega
  .show((x.2.2++b.2).map (·.1)).Nodup;rw[x3 (D u)];exact b1
 .intro z I;rcases ns.1 I with I|I
  .obtain⟨p1,k1,rfl,O,S,q3⟩:=x2 z I;exact⟨p1,k1,rfl,O,S,by rw[E]at q3;omega⟩
  .obtain⟨p2,k2,rfl,O,S,q3,_⟩:=b2 z I;exact⟨p2,k2,rfl,O,S,q3⟩
 .intro hs;show x.2.2++b.2=[];rw[x3 (D (wu h hn hs)),b3 hs];rfl
end
def Wj(h:D8 D=true)(S:dep 0 D=0)(u:bj D 0 e):C1 D 0=D.length:=by
 have O:=(gS u.1).1;have W:=am (gd h) D.length lR;rw[abZ,S]at W;have hn:E4 D D.length=[]:=aag.1 oM;obtain⟨X,E,_⟩:=cM h u.1 u.2;have z:V5 D 0=true:=by rw[X,hn];rfl
 have hg:=oT O;have a1:=gu D (abK O);by_cases q:C1 D 0=D.length
 .exact q
 .exfalso
  obtain⟨e',I,_⟩:=C7 (l:=D) (i:=C1 D 0) oM;have U:=(U7 h I).2.2.2.1 oM;have J:=am (gd h) (C1 D 0) oM;rw[(E z).1]at J;exact U (by rw[<-J];rfl)
def OZ{l:List EvD}(h:D8 l=true)(D:dep 0 l=0){a:Nat}(u:bj l a e):V5 l a=true/\(0<a->QI l a):=by
 have O:=(gS u.1).1;have I:=am (gd h) l.length lR;rw[abZ,D]at I;have z:E4 l l.length=[]:=aag.1 oM;refine⟨by rw[(cM h u.1 u.2).1,z];rfl,fun J=>⟨l.length,oM,lR,?_⟩⟩;obtain⟨p,_,_,E⟩:=Mo h u.1 J;rw[z];exact E
section
variable{q:Q}{r:ReD}(kc:KdC q r)(hf:Lh r=true)
include kc hf
theorem Vp{l T:List EvD}(h:D8 (l++T)=true)(S:dep 0 (l++T)=0){a:Nat}(E:bj l a e):0<=kdX r (stA r.strat (l++T) a)/\R4 r e (if e.kind=1 then kdX r (stA r.strat (l++T) (a+1)) else 0) (kdX r (stA r.strat (l++T) (C1 (l++T) a)))=kdX r (stA r.strat (l++T) a):=by
 obtain⟨m,u⟩:=kc.gr;have J:=(gS E.1).1;have I:(l++T)[a]?=some e:=by rw[xd J];exact E.1
 have O:e.kind≠3:=by rcases E.2 with q|q<;>omega
 obtain⟨A,B,K,z,qB,qK,_,U⟩:=IQ kc.ok kc.mkq u h S I O;have X:kdX r (stA r.strat (l++T) (C1 (l++T) a))=B:=N5 u qB;have kK:kdX r (stA r.strat (l++T) a)=K:=N5 u qK;have W:(if e.kind=1 then kdX r (stA r.strat (l++T) (a+1)) else 0)=(A:Int):=by
  split
  next D=>rw[cA D]at z;exact N5 u z
  next D=>rw[bt D]at z;have h1:=N5 u z;have h2:=N5 u u.s0;omega
 rw[W,X,kK];exact⟨oM,U⟩
theorem US{l T:List EvD}(h:D8 (l++T)=true)(D:dep 0 (l++T)=0){a:Nat}(u:bj l a e):∃o∈qO r l a,o.1=if e.kind=1 then kdX r (stA r.strat (l++T) (a+1)) else 0:=by
 obtain⟨m,E⟩:=kc.gr;split
 next z=>exact Et kc.ok kc.mkq E h D u.1 z
 next z=>refine⟨(0,[]),?_,rfl⟩;rw[qO,u.1];simp only;rw[cA (by rcases u.2 with q|q<;>omega)];simp [zO]
theorem Us{l T:List EvD}(h:D8 (l++T)=true)(J:dep 0 (l++T)=0){a:Nat}(z:bj l a e):∃o∈sF r l a,o.1=kdX r (stA r.strat (l++T) (C1 (l++T) a)):=by
 obtain⟨m,I⟩:=kc.gr;rcases abx a with u|u
 .subst u;have E:=(gS z.1).1;have D:bj (l++T) 0 e:=⟨by rw[xd E];exact z.1,z.2⟩
  refine⟨(0,[]),by rw[sF,Jd,cA oM];simp [zO],?_⟩;rw[Wj h J D,jE _ _ lR];have:=N5 I I.s0;rw[kdX,this];rfl
 .exact Au kc.ok kc.mkq I h J z.1 z.2 u
def ChP(r:ReD)(l T:List EvD)(a:Nat)(c:List ChD):Prop:=(∀y∈c,ChI r l a y)/\(∃y∈c,y.1=kdX r (stA r.strat (l++T) a))/\(dep 0 l=0->c.length<=1)
theorem Zu{l T:List EvD}(h:D8 (l++T)=true)(E:dep 0 (l++T)=0){a:Nat}(u:bj l a e):ChP r l T a (ownC r l a):=by
 have D:=fZ h;refine⟨WN D u,?_,fun W=>?_⟩
 .obtain⟨k0,J⟩:=Vp kc hf h E u;obtain⟨f,I,qf⟩:=US kc hf h E u;obtain⟨b,U,X⟩:=Us kc hf h E u;rw[<-qf,<-X]at J;rw[ownC,u.1,<-J];exact VC I U oM
 .obtain⟨O,S⟩:=OZ D W u;rw[ownC,u.1];refine VJ (Ag D u O).1 ?_;rcases abx a with z|z
  .subst z;rw[sF,Jd,cA oM];simp [zO]
  .exact(GW D u (S z)).1
theorem Yd{l T:List EvD}(h:D8 (l++T)=true)(W:dep 0 (l++T)=0){p s a:Nat}(D:bj l s e)(E:V5 l s=true)(hE:C1 l s=a)(J:a<=l.length)(ha:E4 l a=E4 l p++[p])(U:E4 l s=E4 l p++[p])(S:s<a)(hc:ChP r l T a c):ChP r l T s (qT r l s c):=by
 have O:=fZ h;obtain⟨c1,⟨x,hx,qx⟩,c3⟩:=hc;refine⟨Wz O D J ha U S c1,?_,fun hd=>by rw[qT,D.1];exact TR (c3 hd)⟩;obtain⟨k0,X⟩:=Vp kc hf h W D;obtain⟨f,u,qf⟩:=US kc hf h W D;have I:=(Ag O D E (r:=r)).1;have hk:kdF (qO r l s)=f.1:=by
  match hq:qO r l s,u,I with
  |[y],u,_=>rw[aad.1 u];rfl
  |[],u,_=>cases u
  |y::z::t,_,I=>simp at I
 rw[<-qf,<-hk,xw (T:=T) O D.1 D.2 E,hE,<-qx]at X;rw[qT,D.1,<-X];exact TQ hx oM
theorem Yc{l T:List EvD}(h:D8 (l++T)=true)(S:dep 0 (l++T)=0)(D:l[p]?=some e)(E:e.kind=1)(J:p+1<=l.length)(O:E4 l (p+1)=E4 l p++[p])(hc:ChP r l T (p+1) c):ChP r l T p (xT r l p c):=by
 have I:=fZ h;have z:bj l p e:=⟨D,.inl E⟩
 obtain⟨c1,⟨x,hx,qx⟩,X⟩:=hc;refine⟨Ww I D E J O c1,?_,fun U=>?_⟩
 .obtain⟨k0,W⟩:=Vp kc hf h S z;obtain⟨b,hb,qb⟩:=Us kc hf h S z;rw[cA E,<-qx,<-qb]at W;rw[xT,D,<-W];exact Ti hx hb oM
 .obtain⟨d1,d2⟩:=OZ I U z;rw[xT,D];refine Tj (X U) ?_;rcases abx p with u|u
  .subst u;rw[sF,Jd,cA oM];simp [zO]
  .exact(GW I z (d2 u)).1
theorem Ye{l T:List EvD}(h:D8 (l++T)=true)(z:dep 0 (l++T)=0){a:Nat}(u:bj l a e):ChP r l T 0 (Rb r l a):=by
 have W:=fZ h;rw[Rb,<-OX W (r:=r) a a a a _ e lR u.1 u.2 lR lR];exact Hv W (P:=ChP r l T) (fun p s a e c hs I X D u S a1 O E=>Yd kc hf h z hs I X D u S O E) (fun p e c hp hk J U E=>Yc kc hf h z hp hk J U E) a a _ e u lR (Zu kc hf h z u)
end
def Ph{P:OcD->Prop}{r:ReD}:∀(c:List ChD)(u:List OcD),(∀y∈c,P (y.2.1.getD r.strat.main.sa.toNat false,y.2.2))->(∀o∈u,P o)->∀o∈c.foldl (qc r) u,P o
 |[],u,_,h=>h
 |x::c,u,hc,h=>by
  refine Ph c (qc r u x) (fun y D=>hc y (abe _ D)) fun o z=>?_;rw[qc]at z;split at z
  .exact h o z
  .rcases ns.1 z with z|z
   .exact h o z
   .rw[aad.1 z];exact hc x sM
def Sd{r:ReD}:∀(c:List ChD)(u:List OcD),u.length<=(c.foldl (qc r) u).length
 |[],u=>lR
 |x::c,u=>by
  refine abw ?_ (Sd c (qc r u x));rw[qc];split
  .exact lR
  .simp
def Se{r:ReD}:∀(c:List ChD)(u:List OcD),(c.foldl (qc r) u).length<=u.length+c.length
 |[],u=>by simp
 |x::c,u=>by
  have:=Se (r:=r) c (qc r u x);have z:(qc r u x).length<=u.length+1:=by
   rw[qc];split<;>simp
  rw[aak,A1];omega
def VB{r:ReD}{c:List ChD}(h:0<c.length):0<(c.foldl (qc r) []).length:=by
 match c,h with
 |x::c,_=>
  have:=Sd (r:=r) c (qc r [] x);rw[aak];have u:(qc r [] x).length=1:=by simp [qc]
  omega
def OcI(r:ReD)(l:List EvD)(o:OcD):Prop:=(o.2.map (·.1)).Nodup/\∀x∈o.2,∃p k:Nat,x=((p:Int),(k:Int))/\k<r.sorts.length/\p∈E4 l l.length
def UD{q:Q}{r:ReD}(kc:KdC q r)(hf:Lh r=true){l:List EvD}(h:D8 l=true)(W:l≠ [])(hl:l.length<=30){a:Nat}(ha:bj l a e):
  0<(pH r l a).length/\(dep 0 l=0->(pH r l a).length=1/\∀o∈pH r l a,o.2=[])/\∀o∈pH r l a,OcI r l o:=by
 obtain⟨T,O,S⟩:=WH kc hf h W hl;obtain⟨c1,⟨x,E,_⟩,U⟩:=Ye kc hf O S ha;have u:=ad5 E;have hp:=VB (r:=r) u;have I:∀o∈pH r l a,OcI r l o:=by
  unfold pH;refine Ph (P:=OcI r l) (Rb r l a) [] (fun y hy=>?_) (fun o z=>by cases z);obtain⟨i1,i2,_⟩:=c1 y hy;exact⟨i1,fun x E=>by obtain⟨p,k,q1,q2,q3,_⟩:=i2 x E;exact⟨p,k,q1,q2,q3⟩⟩
 refine⟨hp,fun J=>⟨?_,fun o z=>?_⟩,I⟩
 .have:=Se (r:=r) (Rb r l a) [];have:=U J;simp only[aaG]at*;show((Rb r l a).foldl (qc r) []).length=1;omega
 .obtain⟨_,o2⟩:=I o z;have X:=am (gd h) l.length lR;rw[abZ,J]at X;have hn:E4 l l.length=[]:=aag.1 oM;cases D:o.2 with
  |nil=>rfl
  |cons x t=>
   obtain⟨p,k,_,_,q⟩:=o2 x (by rw[D];simp);rw[hn]at q;cases q
def qI:List Bool->Nat
 |[]=>0
 |b::l=>2*qI l+if b then 1 else 0
def Ef:∀l:List Bool,qI l<2 ^ l.length
 |[]=>by simp [qI]
 |b::l=>by
  have:=Ef l;rw[qI,A1,Nat.pow_succ];split<;>omega
def Hu:∀a b:List Bool,a.length=b.length->qI a=qI b->a=b
 |[],[],_,_=>rfl
 |[],_::_,h,_=>by simp at h
 |_::_,[],h,_=>by simp at h
 |x::a,y::b,h,hn=>by
  rw[qI,qI]at hn;have u:a.length=b.length:=by simpa using h
  cases x<;>cases y<;>simp only[aab,bF]at hn
  .rw[Hu a b u oM]
  .omega
  .omega
  .rw[Hu a b u oM]
def ApC(out:List ChD):Prop:=out.Pairwise fun x y=>x.1≠y.1\/x.2.1≠y.2.1
def SC(h:ApC u):ApC (gi u x):=by
 rw[gi];split
 .exact h
 .rename_i I;rw[ApC,acP];refine⟨h,by simp,fun y J z O=>?_⟩;rw[aad.1 O];by_cases D:y.1=x.1
  .by_cases E:y.2.1=x.2.1
   .exfalso
    exact I (aa3.2 ⟨y,J,by simp [D,E]⟩)
   .exact .inr E
  .exact .inl D
def Vd{r:ReD}{f b:Int}{g:List Bool}(h:ApC u):ApC (pZ r e u f b g p):=by
 rw[pZ];split
 .exact h
 .exact SC h
def WA{n s:Nat}(h:ApC c)(W:∀y∈c,0<=y.1/\y.1<n) (J:∀y∈c,y.2.1.length=s):c.length<=n*2 ^ s:=by
 have key:∀y∈c,(y.1*2 ^ s+qI y.2.1:Int)<((n*2 ^ s:Nat):Int)/\0<=(y.1*2 ^ s+qI y.2.1:Int):=fun y z=>by
  obtain⟨k0,k1⟩:=W y z;have S:=Ef y.2.1;rw[J y z]at S;obtain⟨k,X⟩:∃k:Nat,y.1=k:=⟨y.1.toNat,oM⟩
  have a3:k+1<=n:=oM;have:=aaW (2 ^ s) a3;rw[aaP,adP]at this;have U:(y.1*2 ^ s+qI y.2.1:Int)=((k*2 ^ s+qI y.2.1:Nat):Int):=by rw[X];simp
  rw[U];omega
 have a4:(c.map fun y=>(y.1*2 ^ s+qI y.2.1:Int)).Nodup:=by
  rw[List.Nodup,adR];refine List.Pairwise.imp_of_mem ?_ h;intro x y O z u q;obtain⟨a0,a1⟩:=W x O;obtain⟨b0,b1⟩:=W y z;have ha:=Ef x.2.1;have S:=Ef y.2.1;rw[J x O]at ha;rw[J y z]at S;obtain⟨k,I⟩:∃k:Nat,x.1=k:=⟨x.1.toNat,oM⟩
  obtain⟨j,E⟩:∃j:Nat,y.1=j:=⟨y.1.toNat,oM⟩
  have q':k*2 ^ s+qI x.2.1=j*2 ^ s+qI y.2.1:=by
   have U:(x.1*2 ^ s+qI x.2.1:Int)=((k*2 ^ s+qI x.2.1:Nat):Int):=by rw[I];simp
   have e2:(y.1*2 ^ s+qI y.2.1:Int)=((j*2 ^ s+qI y.2.1:Nat):Int):=by rw[E];simp
   rw[U,e2]at q;omega
  have a2:k=j:=by
   have h1:(k*2 ^ s+qI x.2.1) / 2 ^ s=k:=by
    rw[adf,Nat.mul_add_div oM,Nat.div_eq_of_lt ha,aaf]
   have h2:(j*2 ^ s+qI y.2.1) / 2 ^ s=j:=by
    rw[adf,Nat.mul_add_div oM,Nat.div_eq_of_lt S,aaf]
   rw[<-h1,<-h2,q']
  subst a2;have D:x.2.1=y.2.1:=Hu _ _ (by rw[J x O,J y z]) oM;rcases u with u|u
  .exact u (by rw[I,E])
  .exact u D
 have:=mO a4 (n:=n*2 ^ s) (fun x O=>by
  obtain⟨y,z,rfl⟩:=aau.1 O;exact⟨(key y z).2,(key y z).1⟩)
 rw[aa7]at this;exact this
def ChO(H:d7)(F:Nat->Prop)(cs:LV)(y:ChD):Prop:=∃g p,cs=[iV y.1,g,p]/\SlF H F 1 (u9 boE) g y.2.1/\SlO H F 2 (u9 pkE) p y.2.2
def ax:cJ ChO:=fun H H' G G' cs a h z u=>by
 obtain⟨g,p,D,E,I⟩:=h;exact⟨g,p,D,E.mono z u iF,I.mono z u⟩
abbrev Df(y:ChD):Int×List Bool:=(y.1,y.2.1)
abbrev kgE(x:Int×List Bool):aet:= .agg #[iV x.1,.string (mW x.2)]
def Wn{a b:List Bool}(h:mW a=mW b):a=b:=by
 have u:=yZ false false a;rw[h,yZ]at u;exact u.symm
def XW{P:Program}{kt:TypeId}(z:wl P kt=some [.int,.str])(u:cY P kt=some true):Cd P kt kgE:=by
 refine⟨fun x y=>?_,fun x=>?_⟩
 .simp only[qy,z,u,Xk,D4,Oi,aaU,aaa,aa9];rw[abW];simp only[gk,xo];exact⟨fun⟨D,E⟩=>Prod.ext D (Wn E),fun h=>by rw[h];exact⟨rfl,rfl⟩⟩
 .simp [aH,z,u,Y2,mI]
def Sb(L:List ChD)(y:ChD):sw (Df y) (L.map Df)=L.any (fun z=>decide (z.1=y.1)&&decide (z.2.1=y.2.1)):=by
 rw[sw,aer]
 congr 1
 funext z
 rw[abW];simp only[Function.comp,gk,xo,aah];exact⟨fun h=>⟨h.1.symm,h.2.symm⟩,fun h=>⟨h.1.symm,h.2.symm⟩⟩
structure ChS(l0:Nat)(Hb:d7)(cb:Nat)(H:d7)(L:List ChD)(G:Nat->Prop)(w mv:aet):Prop where
 cell:H.g cb=cE [w,mv] 1
 own:t7 H Hb.n 3 (ChO H G) w L
 fr:∀j,G j->l0<=j/\j<H.n/\¬j8 w j
 but:Va cb Hb H
 gc:¬G cb
 mp:(mv= .map none/\L=[])\/∃mb,mv= .map (some mb)/\Hb.n<=mb/\H.g mb=some (vY kgE (L.map Df))/\¬j8 w mb/\¬G mb
structure ChB(cb:Nat)(w mv:aet)(H:d7)(w' mv':aet)(H':d7):Prop where
 n:H.n<=H'.n
 g:∀j,j<H.n->j≠cb->¬j8 w j->mv≠ .map (some j)->H'.g j=H.g j
 wn:∀j,j<H.n->j8 w' j->j8 w j
 mn:∀j,j<H.n->mv'= .map (some j)->mv= .map (some j)
 low:∀k,k<=cb->k<=H.low->k<=H'.low
def ChB.refl(cb:Nat)(w mv:aet)(H:d7):ChB cb w mv H w mv H:=⟨lR,fun _ _ _ _ _=>rfl,fun _ _ h=>h,fun _ _ h=>h,fun _ _ h=>h⟩
def ChB.trans{A B C:d7}(h:ChB cb w1 z A w2 D B)(k:ChB cb w2 D B w3 E C):ChB cb w1 z A w3 E C:=by
 have U:=h.n;exact⟨abw U k.n,fun j u I S O=>by rw[k.g j oM I (fun q=>S (h.wn j u q)) (fun q=>O (h.mn j u q)),h.g j u I S O],fun j u q=>h.wn j u (k.wn j oM q),fun j u q=>h.mn j u (k.mn j oM q),fun i J q=>k.low i J (h.low i J q)⟩
def ChB.of{w mv:aet}{H H':d7}(h:d9 H.n H H')(u:cb<=H.n):ChB cb w mv H w mv H':=⟨h.n,fun j z _ _ _=>h.g j z,fun _ _ q=>q,fun _ _ q=>q,fun k D q=>h.lowAll k oM q⟩
section
variable{l0:Nat}{Hb:d7}{cb:Nat}{H:d7}{L:List ChD}{G:Nat->Prop}{w mv:Value}
def ChS.wn(h:ChS l0 Hb cb H L G w mv):∀b,j8 w b->Hb.n<=b:=fun b u=>(h.own.lt u).1
def ChS.keep(h:ChS l0 Hb cb H L G w mv){H':d7}(u:d9 H.n H H'):ChS l0 Hb cb H' L G w mv:=by
 have J:=u.n;have E:=u5 h.cell;have I:=h.but.n;refine⟨(u.g cb E).trans h.cell,(h.own.imp fun cs a q=>ax _ _ _ _ _ _ q (fun j z=>u.g j (h.fr j z).2.1) (fun _ q=>q)).keep u,fun j z=>by have:=h.fr j z;exact⟨this.1,oM,this.2.2⟩,⟨oM,fun j z D=>by rw[u.g j oM];exact h.but.g j z D⟩,h.gc,h.mp.imp id fun⟨mb,h1,h2,h3,h4⟩=>⟨mb,h1,h2,(u.g mb (u5 h3)).trans h3,h4⟩⟩
def ChS.far(h:ChS l0 Hb cb H L G w mv)(D:j<Hb.n):¬j8 w j/\mv≠ .map (some j):=by
 refine⟨fun q=>by have:=h.wn j q;omega,fun q=>?_⟩;rcases h.mp with⟨u,_⟩|⟨E,u,z,_⟩
 .rw[u]at q;cases q
 .rw[u]at q;cases q;omega
end
def Sw(g:List Bool)(h:g[i]?=some v):g.take (i+1)++List.replicate (g.length-(i+1)) false=if v then(g.take i++List.replicate (g.length-i) false).set i true else g.take i++List.replicate (g.length-i) false:=by
 have D:=(gS h).1;have u:g.length-i=(g.length-(i+1))+1:=oM;have z:(g.take i).length=i:=by rw[abC];omega
 rw[abJ,h,u,List.replicate_succ];cases v with
 |true=>
  rw[cA rfl,abH _ _ oM,z,ace,ac9];simp
 |false=>rw[bt sM];simp
def Su(O:d7)(z:Nat)(b4:z<O.n)(F:Nat->Prop)(hF:∀j,F j->j<O.n/\j≠z) (ga:Option Addr) (gc:Nat) (g:List Bool) (hg:SlF O F 1 (u9 boE) (.slice ga g.length gc) g) (hn:g.length<=1000000) (v0 v3:aet):
  ∀kk e H2,(∃j:Nat,kk=g.length-j/\j<=g.length/\e.g 0=v0/\e.g 3=v3/\e.g 4=sL z g.length (g.length+1)/\e.g 13= .slice ga g.length gc/\e.g 14=iV g.length/\e.g 15=iV j/\H2.g z=some (.cells ((g.take j++List.replicate (g.length-j) false).map bw) true 1)/\Fr1 z O H2)->
  u7 (LE prog l7 (.loop ST) e H2) (fun o e H2=>o= .exit 0/\e.g 0=v0/\e.g 3=v3/\e.g 4=sL z g.length (g.length+1)/\H2.g z=cE (g.map bw) 1/\Fr1 z O H2):=by
 refine i5 _ _ ?_;rintro kk e H2 ⟨j,hk,hj,f0,f3,W,D,h,I,X,u⟩;rcases S:decide ((j:Int)<g.length)with _|_
 .have a5:=dF S;rw[A2 oM,show g.length-j=0 from oM,acX,aaq]at X;refine J3 h I S ?_;exact i6 ⟨rfl,f0,f3,W,X,u⟩
 have a5:=dT S;obtain⟨v,nv,ov,cv,b2,a2,b0,_,rfl,a1,a7,b1,a8,a6,a4⟩:=hg.row (i:=j) oM;obtain rfl:a2=boE v:=a4;have gv:=(u.but nv (hF _ a1).1 (hF _ a1).2).trans a7;have U:cv[ov+j*1]?=some (.bool v):=by have:=a6 0 oM;rw[aaf]at this;exact this
 have nt:(j:Int).toNat=j:=tN j;have E:=Sw g b0;have bl:((g.take j++List.replicate (g.length-j) false).map bw).length=g.length:=by simp;omega
 have a9:j*1+1<=g.length:=oM;have b3:=u.stay.n;cases v with
 |false=>
  rw[bt sM]at E;rw[<-E]at X;refine J9 W D h I S nt gv U @wrap_small ?_;exact d8 (kk-1) oM ⟨j+1,oM,oM,f0,f3,W,D,h,rfl,X,u⟩
 |true=>
  rw[cA rfl]at E;obtain⟨H3,J⟩:=eY (H2.put z (.cells (((g.take j++List.replicate (g.length-j) false).map bw).set (j*1) (.int .u8 1)) true 1));have a3:H3.g z=some (.cells ((g.take (j+1)++List.replicate (g.length-(j+1)) false).map bw) true 1):=by rw[J,i7 oM,aaK,E,acU];rfl
  refine J13 W D h I S nt gv U X bl a9 J.symm @wrap_small ?_;exact d8 (kk-1) oM ⟨j+1,oM,oM,f0,f3,W,D,h,rfl,a3,u.trans (by rw[J];exact Fr1.put)⟩
def ON{l0:Nat}{Hb:d7}{cb:Nat}{L:List ChD}{G G2:Nat->Prop}{w:aet}(e:Env)(H:d7)(h:ChS l0 Hb cb H L G w (.map (some D)))(c8:cb<Hb.n)(d0:l0<=Hb.n)(y:ChD)(X pv:aet)(hg:SlF H G2 1 (u9 boE) X y.2.1)(hp:SlO H G2 2 (u9 pkE) pv y.2.2)(S:∀j,G2 j->l0<=j/\j<H.n/\j≠cb/\¬j8 w j/\j≠D) (hL:L.length<=500000000) (p3 p7:Nat)
  (g3:H.g p3=cE [iV y.1,X,pv] 1) (g7:H.g p7=cE [iV y.1,.string (mW y.2.1)] 1) (h3:p3≠cb/\¬j8 w p3/\p3≠D) (h7:p7≠D)
  (f0:e.g 0=pT cb) (f3:e.g 3=pT p3) (f7:e.g 7=pT p7):
  u7 (LE prog l7 WG e H) (fun o e H'=>o= .normal/\∃w' G',ChS l0 Hb cb H' (gi L y) G' w' (.map (some D))/\ChB cb w (.map (some D)) H w' (.map (some D)) H'/\((H'=H/\gi L y=L)\/H'.low<=cb)):=by
 have hc:=h.cell;have c9:=u5 hc;have c7:=h.but.n;obtain⟨d2,hq,b8,a3,a4,a8⟩:=h.mp.resolve_left (by rintro⟨q,_⟩;cases q);cases hq;have d1:=u5 a3;have b0:=XW (P:=prog) (kt:=198) Ws.2.2.2.2.2.2.1 Ws.2.2.2.2.1;have U:=JD (P:=prog) (kt:=198) (et:=4) b0 ty4.2.2.2.1 (L.map Df) (Df y);rw[Sb]at U;have b1:ldC (some true) (some 2) 0 [iV y.1,.string (mW y.2.1)]=some (kgE (Df y)):=rfl;have c0:ldC (some true) (some 3) 0 [iV y.1,X,pv]=some (.agg #[iV y.1,X,pv]):=rfl;obtain⟨ga,gc,eg⟩:=hg.slice;obtain⟨pa,pc,ep⟩:=hp.slf.slice;have og:X.oneCell'=true:=by rw[eg];rfl
 have op:pv.oneCell'=true:=by rw[ep];rfl
 rcases O:(L.any fun z=>decide (z.1=y.1)&&decide (z.2.1=y.2.1))with _|_
 .rw[O]at U;have W:gi L y=L++[y]:=by rw[gi,O,bt sM]
  have a1:=MI (P:=prog) (kt:=198) (et:=4) b0 (L.map Df) (Df y) H D (by rw[Sb];exact O);obtain⟨H1,E⟩:=eY (H.put D (vY kgE (L.map Df++[Df y])));rw[<-E]at a1;have n1:H1.n=H.n:=by rw[E,j9]
  have z1:∀j,j≠D->H1.g j=H.g j:=fun j u=>by rw[E,j6 (fun q=>u q.symm)]
  have c4:H1.g D=some (vY kgE (L.map Df++[Df y])):=by rw[E];exact i7 oM
  have c1:=(z1 cb oM).trans hc;have b3:=(z1 p3 h3.2.2).trans g3;have c6:=u5 g3;obtain⟨H2,a6,-,-,c5⟩:=pushE H1 (bC [iV y.1,X,pv] 3);have c2:=(c5.g cb oM).trans c1;have b4:t7 H1 Hb.n 3 (ChO H1 (fun j=>G j\/G2 j)) w L:=(h.own.imp fun cs a q=>ax _ _ _ _ _ _ q (fun j u=>z1 j (fun k=>a8 (k▸u))) (fun _=> .inl)).same fun b hb=>z1 b (fun k=>a4 (k▸hb));obtain⟨v',k',H3,ra,b2,a7,J⟩:=b4.push1F (P:=prog) (t:=73) (a:=y) (cs:=[iV y.1,X,pv]) (by exact ZJ.2.2.2.2.2.2) WS.1 WS.2.1 WS.2.2.1 oM oM rfl ⟨X,pv,rfl,hg.mono (fun j u=>z1 j (S j u).2.2.2.2) (fun _=> .inr) (fun _ _ q=>q),hp.mono (fun j u=>z1 j (S j u).2.2.2.2) (fun _=> .inr)⟩ oM oM;rw[<-a6]at ra b2;have n3:=J.n;have b6:¬j8 w cb:=fun q=>oN (h.wn cb q);have c3:H3.g cb=cE [w,.map (some D)] 1:=(J.but cb oM b6).trans c1;obtain⟨wa,wc,ew⟩:=h.own.slice;obtain⟨va,vc,ev⟩:=a7.slice;have ov:v'.oneCell'=true:=by rw[ev];rfl
  have cv:v'.cells.toList=[v']:=by rw[ev];rfl
  obtain⟨H4,I⟩:=eY (H3.put cb (bC [v',.map (some D)] 1));have n4:H4.n=H3.n:=by rw[I,j9]
  have z4:∀j,j≠cb->H4.g j=H3.g j:=fun j u=>by rw[I,j6 (fun q=>u q.symm)]
  have b9:∀b,j8 v' b->Hb.n<=b:=fun b hb=>by
   rcases J.new b hb with q|q
   .exact h.wn b q
   .omega
  have a5:∀j,(G j\/G2 j)->j≠cb:=fun j u q=>by
   subst q;rcases u with u|u
   .exact h.gc u
   .exact(S _ u).2.2.1 rfl
  have a2:∀j,(G j\/G2 j)->l0<=j/\j<H.n/\¬j8 w j:=fun j u=>u.elim (h.fr j) fun k=>by have:=S j k;exact⟨this.1,this.2.1,this.2.2.2.1⟩
  have b5:ChS l0 Hb cb H4 (L++[y]) (fun j=>G j\/G2 j) v' (.map (some D)):=by
   refine⟨by rw[I];exact i7 oM,?_,fun j u=>?_,⟨oM,fun j u a9=>?_⟩,fun q=>a5 cb q rfl,.inr ⟨D,rfl,b8,?_,?_,?_⟩⟩
   .exact(a7.imp fun cs a q=>ax _ _ _ _ _ _ q (fun j u=>by rw[z4 j (a5 j u),J.but j (oN (a2 j u)) (a2 j u).2.2]) (fun _ q=>q)).same fun b hb=>z4 b (oN (b9 b hb))
   .obtain⟨q1,q2,q3⟩:=a2 j u;refine⟨q1,oM,fun q=>?_⟩;rcases J.new j q with q|q
    .exact q3 q
    .omega
   .rw[z4 j a9,J.but j oM (fun q=>by have:=h.wn j q;omega),z1 j oM];exact h.but.g j u a9
   .rw[z4 D oM,J.but D oM a4,c4,abg];rfl
   .intro q;rcases J.new D q with q|q
    .exact a4 q
    .omega
   .rintro(q|q)
    .exact a8 q
    .exact(S _ q).2.2.2.2 rfl
  have hB:ChB cb w (.map (some D)) H v' (.map (some D)) H4:=by
   refine⟨oM,fun j u h1 h2 h4=>?_,fun j u q=>?_,fun _ _ q=>q,fun k hk q=>?_⟩
   .have b7:j≠D:=fun q=>h4 (by rw[q]);rw[z4 j h1,J.but j oM h2,z1 j b7]
   .rcases J.new j q with q|q
    .exact q
    .omega
   .have e1:k<=H1.low:=by rw[E,A5];omega
    have e3:=J.stay.lowAll k oM e1;rw[I,A5];omega
  unfold WG;rw[ew]at ra c1 c2 hc c3;refine J24 f0 f3 f7 @P0 hc g7 b1 a3 U a1 E.symm c1 b3 c0 og op a6.symm c2 ra b2 c3 ov cv I.symm ?_;exact⟨v',_,by rw[W];exact b5,hB,.inr (by rw[I,A5];exact abB _ _)⟩
 .rw[O]at U;have W:gi L y=L:=by rw[gi,O,cA rfl]
  unfold WG;refine J9 f0 f3 f7 @P0 hc g7 b1 a3 U ?_;exact⟨w,G,by rw[W];exact h,ChB.refl _ _ _ _,.inl W⟩
def ChS.low{l0:Nat}{Hb:d7}{cb:Nat}{H:d7}{L:List ChD}{G:Nat->Prop}{w mv:aet}(h:ChS l0 Hb cb H L G w mv)(n:Nat):ChS l0 Hb cb ⟨H.bs,n⟩ L G w mv:=
 ⟨h.cell,(h.own.imp (R':=ChO ⟨H.bs,n⟩ G) fun cs a q=>ax _ _ _ _ _ _ q (fun _ _=>rfl) (fun _ q=>q)).low n,h.fr,⟨h.but.n,h.but.g⟩,h.gc,h.mp⟩
def WT(l0:Nat)(Hb:d7)(cb:Nat)(L0 L:List ChD)(w mv:aet)(H:d7)(v:aet)(H':d7):Prop:=v=undef/\∃w' mv' G',ChS l0 Hb cb H' L G' w' mv'/\ChB cb w mv H w' mv' H'/\(L=L0\/H'.low<=cb)
def w89{l0:Nat}{Hb:d7}{cb:Nat}{L:List ChD}{G G2:Nat->Prop}{w mv:aet}(H:d7)(h:ChS l0 Hb cb H L G w mv)(b0:cb<Hb.n)(b2:l0<=Hb.n)(y:ChD)(gv pv:aet)(hg:SlF H G2 1 (u9 boE) gv y.2.1)(hp:SlO H G2 2 (u9 pkE) pv y.2.2)(D:∀j,G2 j->l0<=j/\j<H.n/\j≠cb/\¬j8 w j/\mv≠ .map (some j)) (hL:L.length<=500000000) (c8:y.2.1.length<=1000000):
  Ret (CL prog l7 89 [pT cb,.agg #[iV y.1,gv,pv]] H) H (WT l0 Hb cb L (gi L y) w mv H):=by
 have d4:=u5 h.cell;have d2:=h.but.n;obtain⟨ga,gc,eg⟩:=hg.slice;obtain⟨pa,pc,ep⟩:=hp.slf.slice;have og:gv.oneCell'=true:=by rw[eg];rfl
 have op:pv.oneCell'=true:=by rw[ep];rfl
 obtain⟨n,hn⟩:=eY y.2.1.length;obtain⟨K1,a3,n1,g1,s1⟩:=pushF H (bC [iV y.1,gv,pv] 1);obtain⟨K2,a8,n2,g2,s2⟩:=pushE K1 (.cells ((List.replicate y.2.1.length false).map bw) true 1);have d0:P9 prog K1 177 (.int .i64 y.2.1.length) (.int .i64 y.2.1.length)=some (sL K1.n y.2.1.length (y.2.1.length+1),K2):=by
  have e1:(List.replicate y.2.1.length [Value.int IntKind.u8 (0)]).flatten=(List.replicate y.2.1.length false).map bw:=by
   rw[acr,adE];rfl
  simp only[P9,Ld.2.2.2.2.2.1,ty5.2.2.1,ty5.2.1,aay,e1];rw[cA ⟨by decide,oM,abG _,oM,oM⟩,a8];rfl
 have b9:d9 H.n H K2:=s1.trans (s2.wk oM);have c4:∀j,G2 j->j<K2.n/\j≠K1.n:=fun j u=>oN ((D j u).2.1);have c7:SlF K2 G2 1 (u9 boE) (.slice ga y.2.1.length gc) y.2.1:=by rw[<-eg];exact hg.mono (fun j u=>b9.g j (D j u).2.1) (fun _ q=>q) (fun _ _ q=>q)
 rw[i8 Pv rfl _ sM];rw[eg]at g1 og ⊢;rw[eg]at a3;have c0:=(s2.g H.n oM).trans g1;refine J6 og op a3.symm g1 d0 c0 ?_;refine j5 (F:=fun z=>Ret (t6 _ _ _ (u6 (inBlock 0 z) _)) _ _) (Su K2 K1.n oM G2 c4 ga gc y.2.1 c7 c8 (pT cb) (pT H.n) y.2.1.length _ _ ⟨0,rfl,aaJ _,rfl,rfl,rfl,rfl,rfl,rfl,by rw[acy,aat];exact g2,Fr1.refl _ _⟩) ?_;rintro o e' K3 ⟨ho,k0,k3,k4,c3,F3⟩;have n3:=F3.stay.n;have d1:d9 H.n H K3:=b9.trans (F3.stay.wk oM);have a2:K3.g H.n=cE [iV y.1,.slice ga y.2.1.length gc,pv] 1:=by rw[F3.but _ oM oM,s2.g _ oM];exact g1
 have b1:=tu K3 K1.n y.2.1 (y.2.1.length+1) c3;obtain⟨E,a9,n5,a6,a4⟩:=pushP K3 (bC [iV 0,.string eB] 1) (bC [iV y.1,.string (mW y.2.1)] 1);have W:d9 H.n H E:=d1.trans (a4.wk oM);have b7:d9 H.n ⟨H.bs,H.n⟩ E:=⟨W.n,fun k hk q=>by
  have e1:k<=K1.low:=by rw[a3];exact hk
  have e2:k<=K2.low:=by rw[a8,l9];exact e1
  exact a4.lowAll k oM (F3.stay.lowAll k oM e2),W.g⟩
 have a5:=(a4.g H.n oM).trans a2;have O:=h.keep W;have J:=O.cell;have b3:∀j,H.n<=j->¬j8 w j:=fun j u q=>oN ((h.own.lt q).2);have a7:SlF E G2 1 (u9 boE) (.slice ga y.2.1.length gc) y.2.1:=by rw[<-eg];exact hg.mono (fun j u=>W.g j (D j u).2.1) (fun _ q=>q) (fun _ _ q=>q)
 have b4:SlO E G2 2 (u9 pkE) pv y.2.2:=hp.mono (fun j u=>W.g j (D j u).2.1) (fun _ q=>q);obtain⟨wa,wc,ew⟩:=h.own.slice;rcases h.mp with⟨S,c5⟩|⟨mb,S,d6,c9,e3,e4⟩
 .have hq:I3 prog .eql 107 (.map none) (.map none)=some (.bool true):=by simp [I3,eqA,Wp]
  rw[S]at J O;obtain⟨K6,I⟩:=eY ((E.push (.map [])).put cb (bC [w,.map (some E.n)] 1));have n6:K6.n=E.n+1:=by rw[I,j9,i4]
  have z6:∀j,j<E.n->j≠cb->K6.g j=E.g j:=fun j u a1=>by rw[I,j6 (fun q=>a1 q.symm),i9 u]
  have c6:K6.g cb=cE [w,.map (some E.n)] 1:=by rw[I];exact i7 (by rw[i4];omega)
  have m6:K6.g E.n=some (.map []):=by rw[I,j6 oM];exact j7
  have h6:ChS l0 Hb cb K6 L G w (.map (some E.n)):=by
   refine⟨c6,(O.own.imp fun cs a q=>ax _ _ _ _ _ _ q (fun j u=>z6 j (O.fr j u).2.1 (fun q=>O.gc (q▸u))) (fun _ q=>q)).same fun b hb=>z6 b (O.own.lt hb).2 (oN ((O.own.lt hb).1)),fun j u=>by have:=O.fr j u;exact⟨this.1,oM,this.2.2⟩,⟨oM,fun j u a1=>by rw[z6 j oM a1];exact O.but.g j u a1⟩,O.gc,.inr ⟨E.n,rfl,oM,by rw[c5];exact m6,fun q=>by have:=(O.own.lt q).2;omega,fun q=>by have:=(O.fr _ q).2.1;omega⟩⟩
  have b6:ChB cb w (.map none) ⟨H.bs,H.n⟩ w (.map (some E.n)) K6:=(ChB.of (mv:= .map none) (w:=w) b7 (by show cb<=H.n;omega)).trans ⟨oM,fun j u h1 _ _=>z6 j u h1,fun _ _ q=>q,fun j u q=>by cases q;omega,fun k hk q=>by rw[I,A5,l9];omega⟩;have d3:=J;rw[ew]at J;refine J10 ho k0 k3 k4 a2 b1 a9.symm @P0 J hq ?_;rw[<-ew,<-I];refine j5 (F:=fun z=>Ret (t6 _ _ _ z) _ _) (ON (G2:=G2) _ K6 h6 b0 b2 y _ pv (a7.mono (fun j u=>z6 j (oN ((D j u).2.1)) (D j u).2.2.1) (fun _ q=>q) (fun _ _ q=>q)) (b4.mono (fun j u=>z6 j (oN ((D j u).2.1)) (D j u).2.2.1) (fun _ q=>q)) (fun j u=>by have:=D j u;exact⟨this.1,oM,this.2.2.1,this.2.2.2.1,oM⟩) hL H.n K3.n ((z6 _ oM oM).trans a5) ((z6 _ oM oM).trans a6) ⟨oM,b3 _ lR,oM⟩ oM k0 k3 rfl) ?_;rintro o2 e2 K8 ⟨rfl,w',G',h8,b8,X⟩;have U:=b6.trans b8;have d5:K8.low<=cb:=by
   rcases X with⟨rfl,_⟩|X
   .rw[I,A5];omega
   .exact X
  simp(maxSteps:=20000000) -dsimp (disch:=first|omega|(simp only[rH]<;>omega)|fail) only[↓jM,rQ,Q4,sevalprocAttr,tyA,];refine F9 (fun _ hl=>oM) ⟨rfl,w',_,G',h8.low _,?_,.inr (by show min H.low K8.low<=cb;omega)⟩;rw[S];exact⟨U.n,U.g,U.wn,U.mn,fun k hk q=>by have:=U.low k hk (show k<=H.n from oM);show k<=min H.low K8.low;omega⟩
 .have hq:I3 prog .eql 107 (.map (some mb)) (.map none)=some (.bool false):=by simp [I3,eqA,Wp]
  have e5:=u5 c9;rw[S]at J O;have b5:ChB cb w (.map (some mb)) ⟨H.bs,H.n⟩ w (.map (some mb)) E:=ChB.of b7 (by show cb<=H.n;omega);rw[ew]at J;refine J10 ho k0 k3 k4 a2 b1 a9.symm @P0 J hq ?_;refine j5 (F:=fun z=>Ret (t6 _ _ _ z) _ _) (ON (G2:=G2) _ E O b0 b2 y _ pv a7 b4 (fun j u=>by have:=D j u;exact⟨this.1,oM,this.2.2.1,this.2.2.2.1,fun q=>this.2.2.2.2 (by rw[S,q])⟩) hL H.n K3.n a5 a6 ⟨oM,b3 _ lR,oM⟩ oM k0 k3 rfl) ?_;rintro o2 e2 K8 ⟨rfl,w',G',h8,b8,X⟩;have U:=b5.trans b8;simp(maxSteps:=20000000) -dsimp (disch:=first|omega|(simp only[rH]<;>omega)|fail) only[↓jM,rQ,Q4,sevalprocAttr,tyA,];refine F9 (fun _ hl=>?_) ⟨rfl,w',_,G',h8.low _,?_,X.elim (fun k=> .inl k.2) fun k=> .inr (by show min H.low K8.low<=cb;omega)⟩
  .rcases X with⟨_,X⟩|X
   .exact⟨rfl,w,mv,G,by rw[X];exact h,ChB.refl _ _ _ _,.inl X⟩
   .omega
  .rw[S];exact⟨U.n,U.g,U.wn,U.mn,fun k hk q=>by have:=U.low k hk (show k<=H.n from oM);show k<=min H.low K8.low;omega⟩
def Pe{α:Type}(p:α->Bool):∀(l:List α)(i:Nat),0<=ixG p l i->∃j x,ixG p l i=((i+j:Nat):Int)/\l[j]?=some x/\p x=true
 |[],i,h=>by simp [ixG]at h
 |x::l,i,h=>by
  rw[ixG]at h ⊢;rcases u:p x with _|_
  .rw[u,bt sM]at h;rw[bt sM];obtain⟨j,y,z,D,E⟩:=Pe p l (i+1) h;exact⟨j+1,y,by rw[z];congr 1;omega,D,E⟩
  .rw[cA rfl];exact⟨0,x,rfl,rfl,u⟩
def SN{r:ReD}{n:Nat}(I:WfR r n){f b:Int}(h:0<=R4 r e f b):∃(k:Nat)(a:Bool)(bs:List Bool),R4 r e f b=(k:Int)/\r.sorts[k]?=some (true,a,mW bs)/\bs.length=n:=by
 rw[R4]at h ⊢;split at h
 next E=>rw[cA E];obtain⟨j,x,u,z,D⟩:=Pe _ _ _ h;have:=vj D;subst this;rw[aaH]at u;refine⟨j,_,_,u,z,?_⟩;rw[qV,abI];have:=I.n0;omega
 .omega
def KdC.main{q:Q}{r:ReD}(kc:KdC q r):PWf r.strat.main/\r.strat.main.ed.length<=1000000/\r.strat.main.ts.length<=1000000/\r.strat.main.st<=24:=by
 have h:=kc.nq;obtain⟨u,z⟩:=DT q;rw[kc.strat,zc];exact⟨GT q kc.ok oM,oM,oM,kc.m24⟩
def RcR.w13{Hs:d7}{lo K:Nat}{r:ReD}{H:d7}(h:RcR Hs lo K r H u){v:aet}(hv:v.oneCell'=true):∃(R z O:LV)(J:Option Addr)(c1:Nat),u++[v]=R/\R.length=13/\R.all oC=true/\R[12]?=some v/\R[9]?=some (.slice J r.sorts.length c1)/\R[3]?=some (.int .i64 r.strat.main.st)/\R[5]?=some (.int .i64 r.strat.main.en)/\
  ldC (some true) (some 13) 0 R=some (.agg R.toArray)/\ldC (some true) (some 12) 0 R=some (.agg u.toArray)/\ldC (some true) (some 8) 0 R=some (.agg z.toArray)/\ldC (some true) (some 5) 3 R=some (.agg O.toArray)/\SlI H H.n 3 (u9 soE) (.slice J r.sorts.length c1) r.sorts/\StF H (· <H.n) (QR Hs lo K false) (QR Hs lo K true) z r.strat/\PrF H (· <H.n) (QR Hs lo K true) O r.strat.main/\z.length=8/\z.all oC=true/\ldC (some true) (some 8) 0 z=some (.agg z.toArray)/\ldC (some true) (some 5) 3 z=some (.agg O.toArray):=by
 obtain⟨a5,vl,w1,w2,w3,D,I,U,E,a4,S⟩:=h.hR;obtain⟨v1,v2,v3,O,X,t1,t2,t3,hm⟩:=id I;obtain⟨J,c1,rfl⟩:=E.slice;obtain⟨pa,pc,rfl⟩:=t1.slice;obtain⟨ga,gc,rfl⟩:=t2.slice;obtain⟨xa,xc,rfl⟩:=t3.slice;obtain⟨ea,ec,ta,tc,W,_⟩:=E3 hm;obtain⟨la,lc,rfl⟩:=U.slice;obtain⟨a2,c2,rfl⟩:=a4.slice;obtain⟨a3,c3,rfl⟩:=S.slice;subst W X D;exact⟨_,_,_,J,c1,rfl,rfl,by rw[abN,aaE];exact Bool.and_eq_true_iff.2 ⟨rfl,Bool.and_eq_true_iff.2 ⟨hv,rfl⟩⟩,rfl,rfl,rfl,rfl,rfl,rfl,rfl,rfl,E,I,hm,rfl,rfl,rfl,rfl⟩
section
variable{q:Q}{r:ReD}(kc:KdC q r){Hs:d7}{lo K:Nat}
include kc
theorem w49{l0:Nat}{Hb:d7}{L:List ChD}{G G2:Nat->Prop}{w mv:aet}(H:d7)(rc:RcR Hs lo K r H c6){l:List EvD}(dc:DcR lo l H v)(h:ChS l0 Hb I H L G w mv)(e9:I<Hb.n)(f5:l0<=Hb.n)(a:Nat)(D:EvD)(ha:l[a]?=some D)(f b:Int)(J:List Bool)(pl:List (Int×Int))(gv pv:aet)(hg:SlF H G2 1 (u9 boE) gv J)(f1:(J.length:Int)=r.strat.main.st)(hp:SlO H G2 2 (u9 pkE) pv pl)(O:∀j,G2 j->l0<=j/\j<H.n/\j≠I/\¬j8 w j/\mv≠ .map (some j)) (hL:L.length<=500000000):
  Ret (CL prog l7 49 [.agg (c6++[v]).toArray,pT I,iV a,iV f,iV b,gv,pv] H) H (WT l0 Hb I L (pZ r D L f b J pl) w mv H):=by
 have h6:=u5 h.cell;have h5:=h.but.n;obtain⟨eb,eo,ec,h0,g6,el,b5,g7,b3,W,h8,b1,b2,f3⟩:=dc.row ha;obtain⟨R,rs,ms,a1,c1,hR,i3,aR,a8,r9,_,_,_,X,g3,_,g0,g2,f8,b9,d2,b7,b6⟩:=rc.w13 (v:=v) (by rw[b5];rfl);obtain⟨b4,f6,f7,i1⟩:=kc.main;have g9:=b4.st;rw[hR];obtain⟨K1,a4,n1,g1,s1⟩:=pushF H (bC R 1);have b8:K1.low=H.n:=by rw[a4];rfl
 have i0:=dc.low;have ta:((a:Nat):Int).toNat=a:=tN a;have h4:=(gS ha).1;have b0:=(s1.g eb oM).trans b3;have a3:=Qu kc (rc.stay s1) (A0 _ _ _ _ _ _ b1 (fun j u=>s1.g j u) (fun j u=>oM)) b2 f b;have c8:d9 H.n ⟨H.bs,H.n⟩ K1:=⟨s1.n,fun k hk _=>by rw[b8];exact hk,s1.g⟩
 rw[b5]at a8;rw[i8 Er rfl _ sM];rcases d0:decide (R4 r D f b<0)with _|_
 .have d6:=dF d0;obtain⟨k,a',bs,hk,a6,e8⟩:=SN kc.wf (e:=D) (f:=f) (b:=b) oM;have S:pZ r D L f b J pl=gi L (R4 r D f b,OV r D (R4 r D f b) J,pl):=by rw[pZ,bt d6]
  rw[hk]at a3 d0 S;rw[S];have tk:((k:Nat):Int).toNat=k:=tN k;have f4:=(gS a6).1;have e7:OV r D (k:Int) J=Ox (r.strat.main.ts.map (E1 r.strat D bs)) r.strat.main.ed J:=by
   rw[OV,tk,ma,a6,aa6,yZ]
  rw[e7];obtain⟨U,e6,n2,e3,s2⟩:=pushP K1 (bC [nS,nS,nS,iV 0,iV 0,iV 0,nS,nS] 1) (bC rs 1);have g5:splice [nS,nS,nS,iV 0,iV 0,iV 0,nS,nS] 0 rs=rs:=y7 _ _ (by rw[b9];rfl);have z:d9 H.n H U:=s1.trans (s2.wk oM);have c7:d9 H.n ⟨H.bs,H.n⟩ U:=c8.trans (s2.wk oM);have e2:=(s2.g H.n oM).trans g1;have e4:=(z.g eb oM).trans b3;obtain⟨x,nb,o,cs,own,xl,hx,_,e1,h2,f2,g8,a7,h7,f0⟩:=(g0.mono (H':=U) (fun j u=>z.g j u) (abK (by omega:H.n<U.n)) iF).row (i:=k) f4;rw[a6]at hx;cases hx;obtain rfl:xl=soE (true,a',mW bs):=f0;subst e1;obtain⟨ga,gc,eg⟩:=hg.slice;obtain⟨v9,k9,H9,c4,c5,a5,s9⟩:=w90 Hs lo K r.strat r.strat.main D bs true a' (· <U.n) U rs ms el (g2.mono (fun j u=>z.g j u) (fun j u=>oM) iF iF) (f8.mono (fun j u=>z.g j u) (fun j u=>oM) iF) (A0 _ _ _ _ _ _ b1 (fun j u=>z.g j u) (fun j u=>oM)) (fun j u=>u) (fun j u=>by rw[z.g j oM];exact rc.eq j u) oM (by rw[e8];exact kc.wf.st) b4 b2 f7 f6 ga gc J (by rw[<-eg];exact hg.mono (fun j u=>z.g j (O j u).2.1) (fun j u=>by have:=(O j u).2.1;omega) iF) f1;have n9:=s9.n;have c9:d9 H.n H H9:=z.trans (s9.wk oM);have d1:d9 H.n ⟨H.bs,H.n⟩ H9:=c7.trans (s9.wk oM);have h9:=h.keep c9;have f9:∀j,H.n<=j->mv≠ .map (some j):=fun j u q=>by
   rcases h.mp with⟨h1,_⟩|⟨mb,h1,_,h3,_⟩
   .rw[h1]at q;cases q
   .rw[h1]at q;cases q;have:=u5 h3;omega
  obtain⟨j0,i2,a2,g4,c3,rfl,w',c0,G',e5,d3,hz⟩:=w89 (G2:=fun j=>G2 j\/(U.n<=j/\j<H9.n)) H9 h9 e9 f5 ((k:Int),Ox (r.strat.main.ts.map (E1 r.strat D bs)) r.strat.main.ed J,pl) v9 pv ((a5.frz (F:=fun j=>G2 j\/(U.n<=j/\j<H9.n)) fun b hb=> .inr (a5.lt hb))) (hp.mono (fun j u=>c9.g j (O j u).2.1) (fun _=> .inl)) (fun j u=>by
   rcases u with u|u
   .have:=O j u;exact⟨this.1,oM,this.2.2⟩
   .exact⟨oM,u.2,oM,fun q=>by have:=(h.own.lt q).2;omega,f9 j oM⟩) hL (by
   show(Ox _ _ _).length<=_;rw[OU];omega)
  obtain⟨pa,pc,ep⟩:=hp.slf.slice;obtain⟨j1,j2,a9⟩:=a5.slice;have o9:v9.oneCell'=true:=by rw[a9];rfl
  have d5:v9.cells.toList=[v9]:=by rw[a9];rfl
  have opv:pv.oneCell'=true:=by rw[ep];rfl
  have d4:pv.cells.toList=[pv]:=by rw[ep];rfl
  rw[<-eg]at c4;refine J30 aR a4.symm g1 X a8 b0 ta W a3 d0 g3 b9 d2 g5 e6.symm e3 b7 b6 e2 e4 r9 tk f2 a7 c4 c5 d5 o9 (aI opv d4) (aI g4 c3) ?_;have E:ChB I w mv ⟨H.bs,H.n⟩ w' c0 a2:=(ChB.of d1 (by show I<=H.n;omega)).trans d3;refine F9 (fun _ hl=>?_) ⟨rfl,w',c0,G',e5.low _,⟨E.n,E.g,E.wn,E.mn,fun k hk q=>by have:=E.low k hk (show k<=H.n from oM);show k<=min H.low a2.low;omega⟩,hz.imp id fun k=>by show min H.low a2.low<=I;omega⟩;rcases hz with hz|hz
  .exact⟨rfl,w,mv,G,by rw[hz];exact h,ChB.refl _ _ _ _,.inl hz⟩
  .omega
 .have S:pZ r D L f b J pl=L:=by rw[pZ,cA (dT d0)]
  rw[S];refine J10 aR a4.symm g1 X a8 b0 ta W a3 d0 ?_;have E:ChB I w mv ⟨H.bs,H.n⟩ w mv K1:=ChB.of c8 (by show I<=H.n;omega);exact F9 (fun _ hl=>⟨rfl,w,mv,G,h,ChB.refl _ _ _ _,.inl rfl⟩) ⟨rfl,w,mv,G,(h.keep s1).low _,⟨E.n,E.g,E.wn,E.mn,fun k hk q=>by have:=E.low k hk (show k<=H.n from oM);show k<=min H.low K1.low;omega⟩,.inl rfl⟩
end
def OkC(r:ReD)(L:List ChD):Prop:=ApC L/\∀y∈L,0<=y.1/\y.1<r.sorts.length/\(y.2.1.length:Int)=r.strat.main.st
def OkC.nil{r:ReD}:OkC r []:=⟨List.Pairwise.nil,fun y h=>by cases h⟩
def OkC.lay{r:ReD}{L:List ChD}{f b:Int}{g:List Bool}(h:OkC r L)(D:(g.length:Int)=r.strat.main.st):OkC r (pZ r e L f b g p):=by
 refine⟨Vd h.1,fun y u=>?_⟩;rcases Aw u with u|⟨z,rfl⟩
 .exact h.2 y u
 .exact⟨z,IO z,by show((Ox _ _ g).length:Int)=_;rw[OU];exact D⟩
def OkC.len{q:Q}{r:ReD}(kc:KdC q r){L:List ChD}(h:OkC r L):L.length<=500000000:=by
 obtain⟨u,_,_,I⟩:=kc.main;have J:=u.st;have E:=kc.wf.l1;have:=WA (n:=r.sorts.length) (s:=r.strat.main.st.toNat) h.1 (fun y z=>by have:=h.2 y z;exact⟨this.1,this.2.1⟩) (fun y z=>by have:=(h.2 y z).2.2;omega);have D:2 ^ r.strat.main.st.toNat<=2 ^ 24:=ads oM oM;have O:r.sorts.length*2 ^ r.strat.main.st.toNat<=25*2 ^ 24:=Nat.mul_le_mul E D;have S:25*2 ^ 24=419430400:=by decide
 omega
def ChB.stay{l0:Nat}{Hb:d7}{L:List ChD}{G:Nat->Prop}{w mv E z:aet}{H H':d7}(b:ChB u w mv H E z H')(h:ChS l0 Hb u H L G w mv)(D:u<Hb.n){n:Nat}(S:n<=u):d9 n H H':=by
 have I:=u5 h.cell;exact⟨b.n,fun k O q=>b.low k oM q,fun j J=>b.g j oM oM (h.far oM).1 (h.far oM).2⟩
def ChS.out{l0:Nat}{Hb:d7}{L:List ChD}{G:Nat->Prop}{w mv:aet}{H:d7}(h:ChS l0 Hb u H L G w mv)(z:l0<=Hb.n):S3 3 ChO l0 H w L G:=⟨h.own.wk z,h.fr⟩
def ChS.new{l0:Nat}{Hb H:d7}(D:H.g u=cE [nS,.map none] 1)(z:Va u Hb H):ChS l0 Hb u H [] (fun _=>False) (nS) (.map none):=⟨D,t7.nil,fun _ h=>h.elim,z,fun h=>h,.inl ⟨rfl,rfl⟩⟩
def ChR(l0:Nat)(H:d7)(l:List ChD)(v:aet)(H':d7):Prop:=(∃G,S3 3 ChO l0 H' v l G)/\d9 H.n H H'
def BZ{l0:Nat}{H H':d7}{w:aet}{l:List ChD}{G:Nat->Prop}(h:S3 3 ChO l0 H' w l G)(E:d9 H.n H H')(I:H.n<=H'.low):Ret (some (E7 w H H')) H (ChR l0 H l):=by
 refine F9 (fun u _=>?_) ⟨⟨G,h.low ax _⟩,E.ret I⟩;obtain⟨cs,z,J⟩:=h.own;rcases z with⟨rfl,D,rfl⟩|⟨b,c,rfl,_⟩
 .obtain rfl:l=[]:=aag.1 D;exact⟨⟨_,S3.nil⟩,d9.refl _ _⟩
 .cases u
section
variable{q:Q}{r:ReD}(kc:KdC q r){Hs:d7}{lo K:Nat}
include kc
theorem XY{Hr Hb:d7}(rc:RcR Hs lo K r Hr e4){l:List EvD}(dc:DcR lo l Hr v)(hr:Hr.n<=U)(d2:U<Hb.n)(gw:Hr.g pw=cE (e4++[v]) 1)(a:Nat)(ev:EvD)(ha:l[a]?=some ev)
  (fs bs:List OpD) (fv bv:aet) (d1:SlF Hb (fun j=>U<j/\j<Hb.n) 2 (OpO Hb (fun j=>U<j/\j<Hb.n)) bv bs) (lb:bs.length<=25) (kb:∀o∈bs,jH r 31 o) (i:Nat) (f:OpD) (kf:jH r 31 f) (X:aet) (b1:SlO Hb (fun j=>U<j/\j<Hb.n) 2 (u9 pkE) X f.2) (D:Nat) (k4:Hb.n<=D)
  (l0:Nat) (k6:l0<=Hr.n) (eb:Nat) (d3:l0<=eb/\eb<Hr.n) (ge:Hr.g eb=some (.cells ((bN r).map boV) true 1)) (R:List ChD):
  ∀kk e H2,(∃(j:Nat)(w mv:aet)(L:List ChD)(G:Nat->Prop),kk=bs.length-j/\j<=bs.length/\e.g 1=iV a/\e.g 2=pT pw/\e.g 5=sL eb (bN r).length ((bN r).length+1)/\e.g 6=pT U/\e.g 7=bv/\e.g 9=pT D/\e.g 36=fv/\e.g 37=iV fs.length/\e.g 38=iV i/\e.g 42=bv/\e.g 43=iV bs.length/\e.g 44=iV j/\
   ChS l0 Hb U H2 L G w mv/\d9 Hr.n Hr H2/\OkC r L/\H2.g D=cE [iV f.1,X] 1/\¬j8 w D/\mv≠ .map (some D)/\(bs.drop j).foldl (fun i1 b=>pZ r ev i1 f.1 b.1 (bN r) (f.2++b.2)) L=R)->
  u7 (LE prog l7 (.loop Yo) e H2) (fun o e H2=>o= .exit 2/\∃(w mv:aet)(G:Nat->Prop),e.g 1=iV a/\e.g 2=pT pw/\e.g 5=sL eb (bN r).length ((bN r).length+1)/\e.g 6=pT U/\e.g 7=bv/\e.g 36=fv/\e.g 37=iV fs.length/\e.g 38=iV i/\ChS l0 Hb U H2 R G w mv/\d9 Hr.n Hr H2/\OkC r R):=by
 refine i5 _ _ ?_;rintro kk e H2 ⟨j,w,mv,L,G,hk,u,f1,f2,f5,f6,f7,f9,b6,b7,b8,a4,a5,b9,W,hS,hO,I,d5,d4,fu⟩;have h6:=hS.n;have nB:=W.but.n;rcases b0:decide ((j:Int)<bs.length)with _|_
 .have g4:=dF b0;rw[dN oM,aaT]at fu;refine J3 a5 b9 b0 ?_;exact i6 ⟨rfl,w,mv,G,f1,f2,f5,f6,f7,b6,b7,b8,by rw[<-fu];exact W,hS,by rw[<-fu];exact hO⟩
 have g4:=dT b0;obtain⟨ba,bc,a9⟩:=d1.slice;have a3:=d1;rw[a9]at a3;obtain⟨b,h8,ob,k0,j4,k2,h0,g6,g5,g0,g8,j2,b2,j1,S,g7,a8⟩:=a3.row (i:=j) oM;subst g5 g7;have h2:=kb b (mG h0);have d6:=(W.but.g h8 g0.2 oM).trans g8;have tj:((j:Nat):Int).toNat=j:=tN j;obtain⟨H4,g1,n4,x4,a2⟩:=pushP H2 (bC [iV 0,nS] 1) (bC [iV b.1,S] 1);have c3:=(a2.g D (u5 I)).trans I;obtain⟨O,g2,n5,x5,z⟩:=pushE H4 (bC [X,S] 1);have z5:∀j,j<H2.n->O.g j=H2.g j:=fun j u=>by rw[z.g j oM,a2.g j u]
 have b5:∀j,U<j/\j<Hb.n->O.g j=Hb.g j:=fun j u=>by rw[z5 j oM];exact W.but.g j u.2 oM
 have pe:(2:Nat) ^ 31=2147483648:=by decide
 have l4:=kf.2.2;have l1:=h2.2.2;have f3:SlI O O.n 2 (u9 pkE) X f.2:=((b1.mono b5 (fun _ h=>h)).slf.sl (lo:=O.n) (fun j u=>oM))
 have e6:SlI O O.n 2 (u9 pkE) S b.2:=((a8.mono b5 (fun _ h=>h)).slf.sl (lo:=O.n) (fun j u=>oM))
 obtain⟨v7,h7,H7,r7,i2,O7,s7⟩:=UG O H4.n 2 X S f.2 b.2 x5 f3 e6 oM;have n7:=s7.n;have b3:d9 H2.n H2 H7:=a2.trans ((z.wk oM).trans (s7.wk oM));have J:d9 Hr.n Hr H7:=hS.trans (b3.wk h6);have c9:=W.keep b3;have c4:=(b3.g D (u5 I)).trans I;have x7:H7.g H2.n=cE [iV b.1,S] 1:=by rw[s7.g _ oM,z.g _ oM];exact x4
 have f4:=(J.g eb d3.2).trans ge;have c6:=(J.g pw (u5 gw)).trans gw;have c5:=(hS.g pw (u5 gw)).trans gw;have a6:=(a2.g pw (oN (u5 gw))).trans c5;have k3:=u5 W.cell;have e1:((bN r).length:Int)=r.strat.main.st:=by
  have:=kc.main.1.st;rw[bN,aaZ,abI];omega
 have g9:∀j,H2.n<=j->mv≠ .map (some j):=fun j u q=>by
  rcases W.mp with⟨h1,_⟩|⟨mb,h1,_,h3,_⟩
  .rw[h1]at q;cases q
  .rw[h1]at q;cases q;have:=u5 h3;omega
 obtain⟨m0,k8,b4,e2,e3,rfl,w',h5,G',c8,E,_⟩:=w49 kc (G2:=fun j=>j=eb\/(O.n<=j/\j<H7.n)) H7 (rc.stay J) (dc.stay J) c9 d2 oM a ev ha f.1 b.1 (bN r) (f.2++b.2) _ v7 ((RL f4 (lo:=0) (c:=(bN r).length+1) (aaJ _)).frz fun j u=> .inl (R0.1 u)) e1 (O7.slo.mono (fun _ _=>rfl) fun j u=> .inr u) (fun j u=>by
  rcases u with rfl|u
  .exact⟨d3.1,oM,oM,(W.far oM).1,(W.far oM).2⟩
  .exact⟨oM,u.2,oM,fun q=>by have:=(W.own.lt q).2;omega,g9 j oM⟩) (hO.len kc)
 have d0:OkC r (pZ r ev L f.1 b.1 (bN r) (f.2++b.2)):=hO.lay e1;have e5:d9 Hr.n Hr b4:=J.trans (E.stay c9 d2 hr);have l5:=E.n;have k5:=u5 I;have c0:b4.g D=cE [iV f.1,X] 1:=by rw[E.g D oM oM d5 d4];exact c4
 obtain⟨a7,c7,e7⟩:=O7.slice;have k1:v7.cells.toList=[v7]:=by rw[e7];rfl
 have l6:v7.oneCell'=true:=by rw[e7];rfl
 have h9:S.oneCell'=true:=by
  obtain⟨aa,ac,rfl⟩:=a8.slf.slice;rfl
 have i0:X.oneCell'=true:=by
  obtain⟨aa,ac,rfl⟩:=b1.slf.slice;rfl
 have e9:X.cells.toList=[X]:=by
  obtain⟨aa,ac,rfl⟩:=b1.slf.slice;rfl
 have e8:S.cells.toList=[S]:=by
  obtain⟨aa,ac,rfl⟩:=a8.slf.slice;rfl
 obtain⟨_,_,_,k7,_⟩:=dc.row ha;obtain⟨R',rs,ms,a1,c1,g3,k9,aR,l8,r9,_,_,h4,j3,l3,_⟩:=rc.w13 (v:=v) (by rw[dc.ev.slice.choose_spec.choose_spec];rfl);rw[g3]at c5 a6 c6 e2;have f8:=(z.g pw (oN (u5 gw))).trans a6;have f0:=(z.g D oM).trans c3;have j0:=(z.g H2.n oM).trans x4;have i3:splice [iV 0,nS] 0 [iV b.1,S]=[iV b.1,S]:=rfl;rw[g6,aak]at fu;rw[a9]at a4;refine J30 f1 f2 f5 f6 f9 a4 a5 b9 b0 tj d6 b2 h9 i3 g1.symm a6 f8 c6 h4 c3 f0 c4 x4 j0 x7 i0 (aI e9 e8) (aI g2.symm r7) (aI i2 e2) (aI e3 @wrap_small) ?_;exact d8 (kk-1) oM ⟨j+1,w',h5,_,G',oM,oM,f1,f2,f5,f6,f7,f9,b6,b7,b8,by rw[a9];exact a4,a5,rfl,c8,e5,d0,c0,fun q=>d5 (E.wn D oM q),fun q=>d4 (E.mn D oM q),fu⟩
theorem WO{Hr Hb:d7}(rc:RcR Hs lo K r Hr a7){l:List EvD}(dc:DcR lo l Hr v){h:Nat}(hr:Hr.n<=h)(c0:h<Hb.n)(gw:Hr.g pw=cE (a7++[v]) 1)(a:Nat)(ev:EvD)(ha:l[a]?=some ev)
  (u bs:List OpD) (fv bv:aet) (a4:SlF Hb (fun j=>h<j/\j<Hb.n) 2 (OpO Hb (fun j=>h<j/\j<Hb.n)) fv u) (a1:SlF Hb (fun j=>h<j/\j<Hb.n) 2 (OpO Hb (fun j=>h<j/\j<Hb.n)) bv bs) (lf:u.length<=25) (lb:bs.length<=25) (kf:∀o∈u,jH r 31 o) (kb:∀o∈bs,jH r 31 o)
  (l0:Nat) (c8:l0<=Hr.n) (U:Nat) (c4:l0<=U/\U<Hr.n) (ge:Hr.g U=some (.cells ((bN r).map boV) true 1)) (R:List ChD):
  ∀kk e H2,(∃(i:Nat)(w mv:aet)(L:List ChD)(G:Nat->Prop),kk=u.length-i/\i<=u.length/\e.g 1=iV a/\e.g 2=pT pw/\e.g 5=sL U (bN r).length ((bN r).length+1)/\e.g 6=pT h/\e.g 7=bv/\e.g 36=fv/\e.g 37=iV u.length/\e.g 38=iV i/\
   ChS l0 Hb h H2 L G w mv/\d9 Hr.n Hr H2/\OkC r L/\Iv r ev (u.drop i) bs L=R)->
  u7 (LE prog l7 (.loop Yp) e H2) (fun o e H2=>o= .exit 0/\∃(w mv:aet)(G:Nat->Prop),e.g 6=pT h/\ChS l0 Hb h H2 R G w mv/\d9 Hr.n Hr H2):=by
 refine i5 _ _ ?_;rintro kk e H2 ⟨i,w,mv,L,G,hk,hi,f1,f2,f5,f6,f7,W,I,J,S,hS,hO,fu⟩;have d3:=hS.n;have nB:=S.but.n;rcases b0:decide ((i:Int)<u.length)with _|_
 .have b9:=dF b0;rw[dN oM]at fu;have a9:L=R:=fu;refine J3 I J b0 ?_;exact i6 ⟨rfl,w,mv,G,f6,by rw[<-a9];exact S,hS⟩
 have b9:=dT b0;obtain⟨fa,fc,a5⟩:=a4.slice;obtain⟨ba,bc,a2⟩:=a1.slice;have E:=a4;rw[a5]at E;obtain⟨f,d4,ob,e4,e3,e5,d0,c3,c6,b4,c7,e2,O,e1,fp,c5,a3⟩:=E.row (i:=i) oM;subst c6 c5;have d1:=kf f (mG d0);have a6:=(S.but.g d4 b4.2 oM).trans c7;have ti:((i:Nat):Int).toNat=i:=tN i;have d5:fp.oneCell'=true:=by
  obtain⟨aa,ac,rfl⟩:=a3.slf.slice;rfl
 obtain⟨H4,b5,n4,x4,a8⟩:=pushP H2 (bC [iV 0,nS] 1) (bC [iV f.1,fp] 1);have d6:splice [iV 0,nS] 0 [iV f.1,fp]=[iV f.1,fp]:=rfl;have c9:mv≠ .map (some H2.n):=fun q=>by
  rcases S.mp with⟨h1,_⟩|⟨mb,h1,_,h3,_⟩
  .rw[h1]at q;cases q
  .rw[h1]at q;cases q;have:=u5 h3;omega
 have D:=W;rw[a5]at D;have X:=f7;rw[a2]at X;rw[c3,Iv,aak]at fu;refine J11 X D I J b0 ti a6 O d5 d6 b5.symm ?_;refine j5 (F:=fun z=>u7 (u6 (inBlock 1 (inBlock 2 z)) _) _) (XY kc rc dc hr c0 gw a ev ha u bs fv bv a1 lb kb i f d1 fp a3 H2.n nB l0 c8 U c4 ge (OA r ev f bs L) bs.length _ _ ⟨0,w,mv,L,G,rfl,aaJ _,f1,f2,f5,f6,f7,rfl,W,I,J,a2.symm,rfl,rfl,S.keep a8,hS.trans (a8.wk d3),hO,x4,fun q=>by have:=(S.own.lt q).2;omega,c9,rfl⟩) ?_;rintro o' e' H' ⟨ho,w',d2,G',g1,g2,g5,g6,g7,b1,b2,b3,b6,b8,b7⟩;refine J3 ho b3 @wrap_small ?_;exact d8 (kk-1) oM ⟨i+1,w',d2,_,G',oM,oM,g1,g2,g5,g6,g7,b1,b2,rfl,b6,b8,b7,fu⟩
theorem w22(H:d7)(rc:RcR Hs lo K r H b8){l:List EvD}(dc:DcR lo l H v)(a:Nat)(ev:EvD)(ha:l[a]?=some ev)(a8:ev.kind≠3):
  Ret (CL prog l7 22 [.agg (b8++[v]).toArray,iV a] H) H (ChR H.n H (ownC r l a)):=by
 obtain⟨m,hg⟩:=kc.gr;have e7:=dc.n30;obtain⟨a9,_,_,e3⟩:=kc.main;have e4:=a9.st;have e2:=a9.en;obtain⟨n,hn⟩:∃n:Nat,r.strat.main.st=n:=⟨r.strat.main.st.toNat,oM⟩
 obtain⟨eb,eo,ec,e1,d3,el,c8,_⟩:=dc.row ha;obtain⟨R,rs,ms,a1,c1,hR,e5,aR,c9,r9,r3,r5,_,b2,e6,_⟩:=rc.w13 (v:=v) (by rw[c8];rfl);obtain⟨I,a3,n1,g1,s1⟩:=pushF H (bC R 1);have J:H.n<=I.low:=by rw[a3];exact lR
 have W:=Pg I n oM;obtain⟨h,U,n2,c5,s2⟩:=pushP I (.cells ((List.replicate n false).map boV) true 1) (.cells ((bN r).map boV) true 1);have c7:((List.replicate n false).map boV).set (r.strat.main.en.toNat*1) (.bool true)=(bN r).map boV:=by
  rw[bN,hn,aay,aaK,acU]
 have gl:(bN r).length=n:=by rw[bN,aaZ,abI,hn,aay]
 have E:d9 H.n H h:=s1.trans (s2.wk oM);have S:=(s2.g H.n oM).trans g1;obtain⟨K3,a5,n3,c3,s3⟩:=pushE h (bC [nS,.map none] 1);have a2:=(s3.g H.n oM).trans S;have X:d9 H.n H K3:=E.trans (s3.wk oM);obtain⟨bv,k4,K4,d1,b7,⟨Gb,Ob⟩,s4⟩:=NC kc (rc.stay X) (dc.stay X) ha a8;have n4:=s4.n;have c0:=(s4.g H.n oM).trans a2;have b9:d9 H.n H K4:=X.trans (s4.wk oM);obtain⟨fv,k5,u,d0,b6,⟨Gf,Of⟩,s5⟩:=NB kc (rc.stay b9) (dc.stay b9) ha a8;have n5:=s5.n;have d2:d9 h.n h u:=s3.trans ((s4.wk oM).trans (s5.wk oM));have c4:u.g h.n=cE [nS,.map none] 1:=by rw[s5.g _ oM,s4.g _ oM];exact c3
 have a6:SlF u (fun j=>h.n<j/\j<u.n) 2 (OpO u (fun j=>h.n<j/\j<u.n)) fv (qO r l a):=(Of.slf C5).mono (fun _ _=>rfl) (fun j D=>⟨oM,D.2⟩) fun cs o q=>C5 _ _ _ _ _ _ q (fun _ _=>rfl) (fun j D=>⟨oM,D.2⟩);have c6:SlF u (fun j=>h.n<j/\j<u.n) 2 (OpO u (fun j=>h.n<j/\j<u.n)) bv (sF r l a):=(Ob.slf C5).mono (fun j D=>s5.g j D.2) (fun j D=>⟨oM,oM⟩) fun cs o q=>C5 _ _ _ _ _ _ q (fun j D=>s5.g j D.2) (fun j D=>⟨oM,oM⟩);obtain⟨kf,lf⟩:=Md hg l a;obtain⟨kb,lb⟩:=Mc hg l a;obtain⟨fa,fc,a7⟩:=a6.slice;have z1:decide (r.strat.main.en<(n:Int))=true:=yo oM;have e0:((r.strat.main.en.toNat:Nat):Int)=r.strat.main.en:=oM;have b1:r.strat.main.en.toNat*1+1<=n:=oM;have b5:((List.replicate n false).map boV).length=n:=sM;have b4:H.n<=K4.low:=s4.lowAll _ oM (by rw[a5,l9];exact s2.lowAll _ oM J);have d5:H.n<=u.low:=s5.lowAll _ oM b4;have b0:ownC r l a=Iv r ev (qO r l a) (sF r l a) []:=by rw[ownC,ha]
 have d4:=W;rw[b0,hR];rw[hn]at r3;rw[i8 XU rfl _ sM];have O:=d0;rw[a7]at O;have q0:(I.push (.cells ((List.replicate n false).map boV) true 1)).g I.n=some (.cells ((List.replicate n false).map boV) true 1):=j7;have q1:(I.push (.cells ((List.replicate n false).map boV) true 1)).g H.n=cE R 1:=(i9 oM).trans g1;obtain⟨d6,a4⟩:=eY (I.push (.cells ((List.replicate n false).map boV) true 1));rw[<-a4]at W U q0 q1;rw[<-c7]at U;refine J22 aR a3.symm g1 r3 W q0 q1 r5 b5 b1 z1 U.symm a5.symm S a2 c0 b2 c9 d1 b7 O b6 ?_;refine j5 (F:=fun z=>Ret (t6 _ _ _ (u6 (inBlock 0 z) _)) _ _) (WO kc (Hr:=h) (rc.stay E) (dc.stay E) lR oM (pw:=H.n) (by rw[hR];exact S) a ev ha _ _ fv bv a6 c6 lf lb (fun o ho=>(kf o ho).up oM) (fun o ho=>(kb o ho).up oM) H.n oM I.n oM c5 (Iv r ev (qO r l a) (sF r l a) []) (qO r l a).length _ _ ⟨0,_,_,[],_,rfl,aaJ _,rfl,rfl,by rw[gl];rfl,rfl,rfl,a7.symm,rfl,rfl,ChS.new c4 ⟨lR,fun _ _ _=>rfl⟩,d2,OkC.nil,rfl⟩) ?_;rintro o' e' H' ⟨ho,w,mv,G,g6,hI,hS⟩;have gc:=hI.cell;obtain⟨wa,wc,ew⟩:=hI.own.slice;rw[ew]at gc;refine J3 ho g6 gc ?_;rw[<-ew];have nB:=hI.but.n;have b3:H.n<=h.low:=s2.lowAll _ oM J;exact BZ (hI.out oM) (E.trans (hS.wk oM)) (hS.lowAll _ oM b3)
end
def Sr(H0:d7)(fv:aet)(h:List OpD)(I:SlI H0 H0.n 2 (OpO H0 (· <H0.n)) fv h)(lf:h.length<=1)(v1 v2 v3 v7:aet):
  ∀kk e H2,(∃i:Nat,kk=h.length-i/\i<=h.length/\e.g 1=v1/\e.g 2=v2/\e.g 3=v3/\e.g 7=v7/\e.g 8=iV (if i=0 then 0 else kdF h)/\e.g 18=fv/\e.g 19=iV h.length/\e.g 20=iV i/\d9 H0.n H0 H2)->
  u7 (LE prog l7 (.loop RH) e H2) (fun o e H2=>o= .exit 0/\e.g 1=v1/\e.g 2=v2/\e.g 3=v3/\e.g 7=v7/\e.g 8=iV (kdF h)/\d9 H0.n H0 H2):=by
 refine i5 _ _ ?_;rintro kk e H2 ⟨i,hk,hi,f1,f2,f3,f7,f8,D,u,E,W⟩;have b1:=W.n;rcases S:decide ((i:Int)<h.length)with _|_
 .have a2:=dF S;have h8:(if i=0 then 0 else kdF h)=kdF h:=by
   split
   .have:h=[]:=aag.1 oM;rw[this];rfl
   .rfl
  rw[h8]at f8;refine J3 u E S ?_;exact i6 ⟨rfl,f1,f2,f3,f7,f8,W⟩
 have a2:=dT S;have a8:i=0:=oM;obtain⟨fa,fc,a6⟩:=I.slice;subst a6;obtain⟨f,b2,ob,b9,b8,c0,O,c3,a4,X,a7,b7,z,b6,U,a3,a5⟩:=I.row (i:=i) oM;subst a4 a3;have J:=(W.g b2 X).trans a7;have b3:U.oneCell'=true:=by
  obtain⟨aa,ac,rfl⟩:=a5.slf.slice;rfl
 have a9:kdF h=f.1:=by
  obtain⟨x,hx⟩:∃x,h=[x]:=aa2.1 oM;subst hx;rw[a8]at O;have:x=f:=by simpa using O
  rw[this];rfl
 obtain⟨H4,a1,-,x4,b4⟩:=pushP H2 (bC [iV 0,nS] 1) (bC [iV f.1,U] 1);have b5:splice [iV 0,nS] 0 [iV f.1,U]=[iV f.1,U]:=rfl;have t0:((i:Nat):Int).toNat=i:=tN i;refine J12 D u E S t0 J z b3 b5 a1.symm x4 @wrap_small ?_;exact d8 (kk-1) oM ⟨i+1,oM,oM,f1,f2,f3,f7,by rw[bt oM,a9];rfl,D,u,rfl,W.trans (b4.wk b1)⟩
section
variable{q:Q}{r:ReD}(kc:KdC q r){Hs:d7}{lo K:Nat}
include kc
theorem TS{Hr Hb:d7}(rc:RcR Hs lo K r Hr c0){l:List EvD}(dc:DcR lo l Hr v)(hr:Hr.n<=W)(a9:W<Hb.n)(gw:Hr.g pw=cE (c0++[v]) 1)(a:Nat)(ev:EvD)(ha:l[a]?=some ev)(fk:Int)
  (l0:Nat) (g6:l0<=Hr.n) (c:List ChD) (cv:aet) (hc:SlF Hr (fun j=>l0<=j/\j<Hr.n) 3 (ChO Hr (fun j=>l0<=j/\j<Hr.n)) cv c) (a8:OkC r c) (R:List ChD):
  ∀kk e H2,(∃(i:Nat)(w mv:aet)(L:List ChD)(G:Nat->Prop),kk=c.length-i/\i<=c.length/\e.g 1=iV a/\e.g 3=pT pw/\e.g 7=pT W/\e.g 8=iV fk/\e.g 27=cv/\e.g 28=iV c.length/\e.g 29=iV i/\
   ChS l0 Hb W H2 L G w mv/\d9 Hr.n Hr H2/\OkC r L/\GG r ev fk (c.drop i) L=R)->
  u7 (LE prog l7 (.loop Yr) e H2) (fun o e H2=>o= .exit 2/\∃(w mv:aet)(G:Nat->Prop),e.g 7=pT W/\ChS l0 Hb W H2 R G w mv/\d9 Hr.n Hr H2):=by
 refine i5 _ _ ?_;rintro kk e H2 ⟨i,w,mv,L,G,hk,hi,f1,f3,f7,f8,I,J,a2,E,hS,hO,fu⟩;have b5:=hS.n;have nB:=E.but.n;rcases b0:decide ((i:Int)<c.length)with _|_
 .have d3:=dF b0;rw[dN oM]at fu;have d0:L=R:=fu;refine J3 J a2 b0 ?_;exact i6 ⟨rfl,w,mv,G,f7,by rw[<-d0];exact E,hS⟩
 have d3:=dT b0;have f9:=a8.len kc;obtain⟨ca,cc,S⟩:=hc.slice;have a7:=hc;rw[S]at a7;obtain⟨x,f2,ob,g3,g2,g4,e6,d5,d4,d2,e1,g0,u,f6,xg,xp,d6,z,b4⟩:=a7.row (i:=i) oM;subst d4 d6;obtain⟨h0,h2,h4⟩:=a8.2 x (mG e6);have b1:=(hS.g f2 d2.2).trans e1;have ti:((i:Nat):Int).toNat=i:=tN i;obtain⟨b2,e2,g7,g8⟩:=kc.main;have g9:=b2.st;obtain⟨n,hn⟩:∃n:Nat,r.strat.main.st=n:=⟨r.strat.main.st.toNat,oM⟩
 have b6:xg.oneCell'=true:=by
  obtain⟨aa,ac,rfl⟩:=z.slice;rfl
 have f4:xp.oneCell'=true:=by
  obtain⟨aa,ac,rfl⟩:=b4.slf.slice;rfl
 obtain⟨X,a3,n4,x4,c3⟩:=pushP H2 (bC [iV 0,nS,nS] 1) (bC [iV x.1,xg,xp] 1);have c5:splice [iV 0,nS,nS] 0 [iV x.1,xg,xp]=[iV x.1,xg,xp]:=rfl;have U:d9 Hr.n Hr X:=hS.trans (c3.wk b5);obtain⟨R',rs,ms,a1,c1,a6,h6,aR,h8,r9,_,_,e8,g1,h7,e7,_,_,e3,_⟩:=(rc.stay U).w13 (v:=v) (by rw[dc.ev.slice.choose_spec.choose_spec];rfl);have O:=(U.g pw (u5 gw)).trans gw;rw[a6]at O;have f0:∀j,(l0<=j/\j<Hr.n)->X.g j=Hr.g j:=fun j h=>U.g j h.2;obtain⟨xa,xc,c9⟩:=z.slice;rw[c9]at z b6 x4 a3 c5 u;obtain⟨v5,k5,H5,f5,b9,O5,s5⟩:=w53 X (· <X.n) (QR Hs lo K true) ms r.strat.main (fun j h=>h) e3 n hn oM e2 xa xc x.2.1 (z.mono f0 (fun j h=>oM) iF) oM (fun y hy=>by have:=b2.ed y hy;omega) 2;have n5:=s5.n;have c4:d9 H2.n H2 H5:=c3.trans (s5.wk oM);have D:d9 Hr.n Hr H5:=hS.trans (c4.wk b5);have a5:=E.keep c4;have d1:=(s5.g pw (oN (u5 gw))).trans O;have x5:=(s5.g H2.n oM).trans x4;have e4:∀j,H2.n<=j->mv≠ .map (some j):=fun j h q=>by
  rcases E.mp with⟨h1,_⟩|⟨mb,h1,_,h3,_⟩
  .rw[h1]at q;cases q
  .rw[h1]at q;cases q;have:=u5 h3;omega
 have g5:=u5 E.cell;have b3:((Ax r.strat.main x.2.1 2).length:Int)=r.strat.main.st:=by rw[Ju];omega
 obtain⟨h9,h5,c7,b7,b8,rfl,w',e9,G',a4,c8,_⟩:=w49 kc (G2:=fun j=>(l0<=j/\j<Hr.n)\/(X.n<=j/\j<H5.n)) H5 (rc.stay D) (dc.stay D) a5 a9 oM a ev ha fk x.1 (Ax r.strat.main x.2.1 2) x.2.2 v5 xp (O5.frz fun j h=> .inr (O5.lt h)) b3 (b4.mono (fun j h=>D.g j h.2) (fun _=> .inl)) (fun j h=>by
  rcases h with h|h
  .exact⟨h.1,oM,oM,(E.far oM).1,(E.far oM).2⟩
  .exact⟨oM,h.2,oM,fun q=>by have:=(E.own.lt q).2;omega,e4 j oM⟩) (hO.len kc)
 rw[a6]at b7;have c6:d9 Hr.n Hr c7:=D.trans (c8.stay a5 a9 hr);obtain⟨i0,i1,e5⟩:=O5.slice;rw[d5,GG,aak]at fu;rw[S]at I;refine J26 f1 f3 f7 f8 I J a2 b0 ti b1 u b6 f4 c5 a3.symm O d1 e8 e7 x4 x5 f5 b9 b7 b8 @wrap_small ?_;exact d8 (kk-1) oM ⟨i+1,w',e9,_,G',oM,oM,f1,f3,f7,f8,by rw[S];exact I,J,rfl,a4,c6,hO.lay b3,fu⟩
theorem w25(H:d7)(rc:RcR Hs lo K r H a6){l:List EvD}(dc:DcR lo l H v)(a:Nat)(J:EvD)(ha:l[a]?=some J)(b4:J.kind≠3)(a2:(qO r l a).length<=1)(l0:Nat)(c3:l0<=H.n)(c:List ChD)(cv:aet)(G0:Nat->Prop)(hc:S3 3 ChO l0 H cv c G0)(S:OkC r c):
  Ret (CL prog l7 25 [.agg (a6++[v]).toArray,iV a,cv] H) H (ChR l0 H (qT r l a c)):=by
 have b9:=S.len kc;obtain⟨R,rs,ms,a1,c1,hR,c4,aR,b6,r9,r3,r5,_,a4,c5,_⟩:=rc.w13 (v:=v) (by rw[dc.ev.slice.choose_spec.choose_spec];rfl);obtain⟨h,O,n1,g1,I⟩:=pushF H (bC R 1);have u:H.n<=h.low:=by rw[O];exact lR
 obtain⟨K2,b2,n2,b0,s2⟩:=pushE h (bC [nS,.map none] 1);have a9:=(s2.g H.n oM).trans g1;have a7:d9 H.n H K2:=I.trans (s2.wk oM);obtain⟨fv,k3,K3,b7,a5,⟨Gf,Of⟩,s3⟩:=NB kc (rc.stay a7) (dc.stay a7) ha b4;have n3:=s3.n;have W:=Of.sl C5;obtain⟨fa,fc,X⟩:=W.slice;obtain⟨ca,cc,U⟩:=hc.slice;have a3:qT r l a c=GG r J (kdF (qO r l a)) c []:=by rw[qT,ha]
 have c0:H.n<=K3.low:=s3.lowAll _ oM (s2.lowAll _ oM u);have b3:SlF h (fun j=>l0<=j/\j<h.n) 3 (ChO h (fun j=>l0<=j/\j<h.n)) cv c:=(hc.slf ax).mono (fun j E=>I.g j E.2) (fun j E=>⟨E.1,oM⟩) fun cs o q=>ax _ _ _ _ _ _ q (fun j E=>I.g j E.2) (fun j E=>⟨E.1,oM⟩);rw[a3,hR];rw[i8 TK rfl _ sM];have D:=b7;rw[X]at D;refine J8 aR O.symm b2.symm a9 a4 b6 D a5 ?_;refine j5 (F:=fun z=>Ret (t6 _ _ _ (u6 (inBlock 0 z) _)) _ _) (Sr K3 fv _ W a2 (.int .i64 a) cv (pT H.n) (pT h.n) (qO r l a).length _ _ ⟨0,rfl,aaJ _,rfl,rfl,rfl,rfl,rfl,X.symm,rfl,rfl,d9.refl _ _⟩) ?_;rintro o1 e1 K4 ⟨ho,q1,q2,q3,q7,q8,s4⟩;have n4:=s4.n;have a8:d9 K2.n K2 K4:=s3.trans (s4.wk n3);have b1:=(a8.g h.n oM).trans b0;have b8:d9 h.n h K4:=s2.trans (a8.wk oM);rw[U]at q2;refine J2 ho q2 ?_;refine j5 (F:=fun z=>Ret (t6 _ _ _ (u6 (inBlock 2 z) _)) _ _) (TS kc (Hr:=h) (Hb:=K4) (rc.stay I) (dc.stay I) lR oM (pw:=H.n) (by rw[hR];exact g1) a J ha (kdF (qO r l a)) l0 oM c cv b3 S (GG r J (kdF (qO r l a)) c []) c.length _ _ ⟨0,_,_,[],_,rfl,aaJ _,q1,q3,q7,q8,U.symm,rfl,rfl,ChS.new b1 ⟨lR,fun _ _ _=>rfl⟩,b8,OkC.nil,rfl⟩) ?_;rintro o' e' H' ⟨b5,w,mv,G,g7,hI,hS⟩;have gc:=hI.cell;obtain⟨wa,wc,ew⟩:=hI.own.slice;rw[ew]at gc;refine J3 b5 g7 gc ?_;rw[<-ew];exact BZ (hI.out oM) (I.trans (hS.wk oM)) (hS.lowAll _ oM u)
end
section
variable{q:Q}{r:ReD}(kc:KdC q r){Hs:d7}{lo K:Nat}
include kc
theorem Xg{Hr Hb:d7}(rc:RcR Hs lo K r Hr f9){l:List EvD}(dc:DcR lo l Hr v)(hr:Hr.n<=O)(e2:O<Hb.n)(gw:Hr.g pw=cE (f9++[v]) 1)(a:Nat)(ev:EvD)(ha:l[a]?=some ev)
  (bs:List OpD) (bv:aet) (e1:SlF Hb (fun j=>O<j/\j<Hb.n) 2 (OpO Hb (fun j=>O<j/\j<Hb.n)) bv bs) (lb:bs.length<=25) (kb:∀o∈bs,jH r 31 o) (l0:Nat) (m4:l0<=Hr.n)
  (x:ChD) (xg U:aet) (b1:SlF Hr (fun j=>l0<=j/\j<Hr.n) 1 (u9 boE) xg x.2.1) (b2:SlO Hr (fun j=>l0<=j/\j<Hr.n) 2 (u9 pkE) U x.2.2) (n0:(x.2.1.length:Int)=r.strat.main.st) (m9:x.2.2.length<=1099511627776) (z:Nat) (m3:Hb.n<=z) (g2 g3 g4 v2:aet) (R:List ChD):
  ∀kk e H2,(∃(j:Nat)(w mv:aet)(L:List ChD)(G:Nat->Prop),kk=bs.length-j/\j<=bs.length/\e.g 1=iV a/\e.g 3=pT pw/\e.g 7=pT O/\e.g 8=bv/\e.g 10=pT z/\e.g 19=g2/\e.g 20=g3/\e.g 21=g4/\e.g 25=bv/\e.g 26=iV bs.length/\e.g 27=iV j/\
   ChS l0 Hb O H2 L G w mv/\d9 Hr.n Hr H2/\OkC r L/\H2.g z=cE [iV x.1,xg,U] 1/\¬j8 w z/\mv≠ .map (some z)/\FT r ev x (bs.drop j) L=R)->
  u7 (LE prog l7 (.loop RI) e H2) (fun o e H2=>o= .exit 2/\∃(w mv:aet)(G:Nat->Prop),e.g 1=iV a/\e.g 3=pT pw/\e.g 7=pT O/\e.g 8=bv/\e.g 19=g2/\e.g 20=g3/\e.g 21=g4/\ChS l0 Hb O H2 R G w mv/\d9 Hr.n Hr H2/\OkC r R):=by
 refine i5 _ _ ?_;rintro kk e H2 ⟨j,w,mv,L,G,hk,u,f1,f3,f7,f8,b8,b9,c0,c3,a2,a3,c4,W,hS,hO,e3,e5,e4,fu⟩;have f2:=hS.n;have nB:=W.but.n;rcases b0:decide ((j:Int)<bs.length)with _|_
 .have h5:=dF b0;rw[dN oM]at fu;have d0:L=R:=fu;refine J3 a3 c4 b0 ?_;exact i6 ⟨rfl,w,mv,G,f1,f3,f7,f8,b9,c0,c3,by rw[<-d0];exact W,hS,by rw[<-d0];exact hO⟩
 have h5:=dT b0;obtain⟨ba,bc,a8⟩:=e1.slice;have X:=e1;rw[a8]at X;obtain⟨b,k2,ob,l8,l6,m1,f0,h8,h6,h0,i1,l4,a9,l3,J,h9,a6⟩:=X.row (i:=j) oM;subst h6 h9;have j2:=kb b (mG f0);have e6:=(W.but.g k2 h0.2 oM).trans i1;have tj:((j:Nat):Int).toNat=j:=tN j;obtain⟨e8,i2,m5,m7⟩:=kc.main;have m8:=e8.st;obtain⟨n,hn⟩:∃n:Nat,r.strat.main.st=n:=⟨r.strat.main.st.toNat,oM⟩
 have m2:=u5 W.cell;have i0:=u5 e3;have j1:=u5 gw;obtain⟨H4,h2,n4,x4,S⟩:=pushP H2 (bC [iV 0,nS] 1) (bC [iV b.1,J] 1);have a4:=(S.g z i0).trans e3;have b3:d9 Hr.n Hr H4:=hS.trans (S.wk f2);obtain⟨R',rs,ms,a1,c1,d6,n2,aR,o1,r9,_,_,j4,l5,n8,j3,_,_,i3,_⟩:=(rc.stay b3).w13 (v:=v) (by rw[dc.ev.slice.choose_spec.choose_spec];rfl);have a5:=(b3.g pw j1).trans gw;rw[d6]at a5;have k1:∀j,(l0<=j/\j<Hr.n)->H4.g j=Hr.g j:=fun j u=>b3.g j u.2;obtain⟨xa,xc,b7⟩:=b1.slice;rw[b7]at b1 a4;obtain⟨v5,k5,H5,k6,f6,O5,s5⟩:=w53 H4 (· <H4.n) (QR Hs lo K true) ms r.strat.main (fun j u=>u) i3 n hn oM i2 xa xc x.2.1 (b1.mono k1 (fun j u=>oM) iF) oM (fun y hy=>by have:=e8.ed y hy;omega) 1;have n5:=s5.n;obtain⟨I,h4,n6,k9,D⟩:=pushE H5 (bC [U,J] 1);have z6:∀j,j<H2.n->I.g j=H2.g j:=fun j u=>by rw[D.g j oM,s5.g j oM,S.g j u]
 have b6:∀j,O<j/\j<Hb.n->I.g j=Hb.g j:=fun j u=>by rw[z6 j oM];exact W.but.g j u.2 oM
 have m6:∀j,(l0<=j/\j<Hr.n)->I.g j=Hr.g j:=fun j u=>by rw[z6 j oM];exact hS.g j u.2
 have pe:(2:Nat) ^ 31=2147483648:=by decide
 have n3:=j2.2.2;have l1:SlI I I.n 2 (u9 pkE) U x.2.2:=((b2.mono m6 (fun _ h=>h)).slf.sl (lo:=I.n) (fun j u=>oM))
 have g6:SlI I I.n 2 (u9 pkE) J b.2:=((a6.mono b6 (fun _ h=>h)).slf.sl (lo:=I.n) (fun j u=>oM))
 obtain⟨v7,h7,H7,r7,k7,O7,s7⟩:=UG I H5.n 2 U J x.2.2 b.2 k9 l1 g6 oM;have n7:=s7.n;have g0:d9 H2.n H2 H7:=S.trans ((s5.wk oM).trans ((D.wk oM).trans (s7.wk oM)));have b4:d9 Hr.n Hr H7:=hS.trans (g0.wk f2);have d4:=W.keep g0;have c6:=(s5.g z oM).trans a4;have c8:=(D.g z oM).trans c6;have c9:=(s7.g z oM).trans c8;have x5:=(s5.g H2.n oM).trans x4;have x6:=(D.g H2.n oM).trans x5;have x7:=(s7.g H2.n oM).trans x6;have d1:=(s5.g pw oM).trans a5;have d2:=(D.g pw oM).trans d1;have g9:=(s7.g pw oM).trans d2;have j0:∀j,H2.n<=j->mv≠ .map (some j):=fun j u q=>by
  rcases W.mp with⟨h1,_⟩|⟨mb,h1,_,h3,_⟩
  .rw[h1]at q;cases q
  .rw[h1]at q;cases q;have:=u5 h3;omega
 have e9:((Ax r.strat.main x.2.1 1).length:Int)=r.strat.main.st:=by rw[Ju];omega
 have g5:SlF H7 (fun j=>H4.n<=j/\j<H7.n) 1 (u9 boE) v5 (Ax r.strat.main x.2.1 1):=(O5.frz (F:=fun j=>H4.n<=j/\j<H5.n) fun j u=>O5.lt u).mono (fun j u=>by rw[s7.g j oM,D.g j oM]) (fun j u=>⟨u.1,oM⟩) iF;obtain⟨o2,n1,b5,f4,f5,rfl,w',k0,G',d3,E,_⟩:=w49 kc (G2:=fun j=>H4.n<=j/\j<H7.n) H7 (rc.stay b4) (dc.stay b4) d4 e2 oM a ev ha x.1 b.1 (Ax r.strat.main x.2.1 1) (x.2.2++b.2) v5 v7 g5 e9 (O7.slo.mono (fun _ _=>rfl) fun j u=>⟨oM,u.2⟩) (fun j u=>⟨oM,u.2,oM,fun q=>by have:=(W.own.lt q).2;omega,j0 j oM⟩) (hO.len kc);rw[d6]at f4;have d5:OkC r (pZ r ev L x.1 b.1 (Ax r.strat.main x.2.1 1) (x.2.2++b.2)):=hO.lay e9;have g1:d9 Hr.n Hr b5:=b4.trans (E.stay d4 e2 hr);have n9:=E.n;have c5:b5.g z=cE [iV x.1,xg,U] 1:=by rw[E.g z oM oM e5 e4,b7];exact c9
 obtain⟨a7,c7,e7⟩:=O7.slice;have m0:v7.cells.toList=[v7]:=by rw[e7];rfl
 have o0:v7.oneCell'=true:=by rw[e7];rfl
 have k3:J.oneCell'=true:=by
  obtain⟨aa,ac,rfl⟩:=a6.slf.slice;rfl
 have k4:U.oneCell'=true:=by
  obtain⟨aa,ac,rfl⟩:=b2.slf.slice;rfl
 have g8:U.cells.toList=[U]:=by
  obtain⟨aa,ac,rfl⟩:=b2.slf.slice;rfl
 have g7:J.cells.toList=[J]:=by
  obtain⟨aa,ac,rfl⟩:=a6.slf.slice;rfl
 have k8:splice [iV 0,nS] 0 [iV b.1,J]=[iV b.1,J]:=rfl;rw[h8,FT,aak]at fu;rw[a8]at a2;refine J30 f1 f3 f7 b8 a2 a3 c4 b0 tj e6 a9 k3 k8 h2.symm a5 d1 d2 g9 j4 j3 a4 (aI c6 c8) (aI c9 x4) (aI x5 x6) (aI x7 k4) (aI g8 g7) (aI k6 f6) (aI h4.symm r7) (aI k7 f4) (aI f5 @wrap_small) ?_;exact d8 (kk-1) oM ⟨j+1,w',k0,_,G',oM,oM,f1,f3,f7,f8,b8,b9,c0,c3,by rw[a8];exact a2,a3,rfl,d3,g1,d5,c5,fun q=>e5 (E.wn z oM q),fun q=>e4 (E.mn z oM q),fu⟩
theorem Wx{Hr Hb:d7}(rc:RcR Hs lo K r Hr a7){l:List EvD}(dc:DcR lo l Hr v){h:Nat}(hr:Hr.n<=h)(c3:h<Hb.n)(gw:Hr.g pw=cE (a7++[v]) 1)(a:Nat)(ev:EvD)(ha:l[a]?=some ev)
  (bs:List OpD) (bv:aet) (U:SlF Hb (fun j=>h<j/\j<Hb.n) 2 (OpO Hb (fun j=>h<j/\j<Hb.n)) bv bs) (lb:bs.length<=25) (kb:∀o∈bs,jH r 31 o) (l0:Nat) (c8:l0<=Hr.n) (c:List ChD) (cv:aet) (hc:SlF Hr (fun j=>l0<=j/\j<Hr.n) 3 (ChO Hr (fun j=>l0<=j/\j<Hr.n)) cv c) (a1:OkC r c) (c4:∀y∈c,y.2.2.length<=1099511627776) (R:List ChD):
  ∀kk e H2,(∃(i:Nat)(w mv:aet)(L:List ChD)(G:Nat->Prop),kk=c.length-i/\i<=c.length/\e.g 1=iV a/\e.g 3=pT pw/\e.g 7=pT h/\e.g 8=bv/\e.g 19=cv/\e.g 20=iV c.length/\e.g 21=iV i/\
   ChS l0 Hb h H2 L G w mv/\d9 Hr.n Hr H2/\OkC r L/\FS r ev (c.drop i) bs L=R)->
  u7 (LE prog l7 (.loop Ys) e H2) (fun o e H2=>o= .exit 0/\∃(w mv:aet)(G:Nat->Prop),e.g 7=pT h/\ChS l0 Hb h H2 R G w mv/\d9 Hr.n Hr H2):=by
 refine i5 _ _ ?_;rintro kk e H2 ⟨i,w,mv,L,G,hk,hi,f1,f3,f7,f8,J,D,E,S,hS,hO,fu⟩;have d2:=hS.n;have nB:=S.but.n;rcases b0:decide ((i:Int)<c.length)with _|_
 .have b9:=dF b0;rw[dN oM]at fu;have a9:L=R:=fu;refine J3 D E b0 ?_;exact i6 ⟨rfl,w,mv,G,f7,by rw[<-a9];exact S,hS⟩
 have b9:=dT b0;have e2:=a1.len kc;obtain⟨ca,cc,a2⟩:=hc.slice;obtain⟨ba,bc,W⟩:=U.slice;have X:=hc;rw[a2]at X;obtain⟨x,d3,ob,e5,e4,e6,a4,c5,c0,b4,c7,e3,I,e1,xg,xp,c6,a5,a6⟩:=X.row (i:=i) oM;subst c0 c6;obtain⟨e7,e8,d0⟩:=a1.2 x (mG a4);have a3:=(hS.g d3 b4.2).trans c7;have ti:((i:Nat):Int).toNat=i:=tN i;have d4:xg.oneCell'=true:=by
  obtain⟨aa,ac,rfl⟩:=a5.slice;rfl
 have d5:xp.oneCell'=true:=by
  obtain⟨aa,ac,rfl⟩:=a6.slf.slice;rfl
 obtain⟨H4,b5,n4,x4,a8⟩:=pushP H2 (bC [iV 0,nS,nS] 1) (bC [iV x.1,xg,xp] 1);have d6:splice [iV 0,nS,nS] 0 [iV x.1,xg,xp]=[iV x.1,xg,xp]:=rfl;have c9:mv≠ .map (some H2.n):=fun q=>by
  rcases S.mp with⟨h1,_⟩|⟨mb,h1,_,h3,_⟩
  .rw[h1]at q;cases q
  .rw[h1]at q;cases q;have:=u5 h3;omega
 have u:=J;rw[a2]at u;have O:=f8;rw[W]at O;rw[c5,FS,aak]at fu;refine J12 O u D E b0 ti a3 I d4 d5 d6 b5.symm ?_;refine j5 (F:=fun z=>u7 (u6 (inBlock 1 (inBlock 2 z)) _) _) (Xg kc rc dc hr c3 gw a ev ha bs bv U lb kb l0 c8 x xg xp a5 a6 d0 (c4 x (mG a4)) H2.n nB cv (.int .i64 c.length) (.int .i64 i) v (FT r ev x bs L) bs.length _ _ ⟨0,w,mv,L,G,rfl,aaJ _,f1,f3,f7,f8,rfl,J,D,E,W.symm,rfl,rfl,S.keep a8,hS.trans (a8.wk d2),hO,x4,fun q=>by have:=(S.own.lt q).2;omega,c9,rfl⟩) ?_;rintro o' e' H' ⟨ho,w',d1,G',g1,g3,g7,g8,b1,b2,b3,b6,b8,b7⟩;refine J3 ho b3 @wrap_small ?_;exact d8 (kk-1) oM ⟨i+1,w',d1,_,G',oM,oM,g1,g3,g7,g8,b1,b2,rfl,b6,b8,b7,fu⟩
theorem w26(H:d7)(rc:RcR Hs lo K r H a3){l:List EvD}(dc:DcR lo l H v)(a:Nat)(I:EvD)(ha:l[a]?=some I)(b2:I.kind≠3)(l0:Nat)(b9:l0<=H.n)(c:List ChD)(cv:aet)(G0:Nat->Prop)(hc:S3 3 ChO l0 H cv c G0)(O:OkC r c)(b1:∀y∈c,y.2.2.length<=1099511627776):
  Ret (CL prog l7 26 [.agg (a3++[v]).toArray,iV a,cv] H) H (ChR l0 H (xT r l a c)):=by
 obtain⟨m,hg⟩:=kc.gr;have c4:=dc.n30;have b7:=O.len kc;obtain⟨R,rs,ms,a1,c1,hR,c0,aR,b4,r9,r3,r5,_,W,c3,_⟩:=rc.w13 (v:=v) (by rw[dc.ev.slice.choose_spec.choose_spec];rfl);obtain⟨h,J,n1,g1,E⟩:=pushF H (bC R 1);have X:H.n<=h.low:=by rw[J];exact lR
 obtain⟨K2,a8,n2,a6,s2⟩:=pushE h (bC [nS,.map none] 1);have a5:=(s2.g H.n oM).trans g1;have a4:d9 H.n H K2:=E.trans (s2.wk oM);obtain⟨bv,k4,D,b5,a2,⟨Gb,Ob⟩,s4⟩:=NC kc (rc.stay a4) (dc.stay a4) ha b2;have n4:=s4.n;obtain⟨kb,lb⟩:=Mc hg l a;have a9:SlF D (fun j=>h.n<j/\j<D.n) 2 (OpO D (fun j=>h.n<j/\j<D.n)) bv (sF r l a):=(Ob.slf C5).mono (fun _ _=>rfl) (fun j u=>⟨oM,u.2⟩) fun cs o q=>C5 _ _ _ _ _ _ q (fun _ _=>rfl) (fun j u=>⟨oM,u.2⟩);obtain⟨ca,cc,S⟩:=hc.slice;have U:xT r l a c=FS r I c (sF r l a) []:=by rw[xT,ha]
 have a7:=(s4.g h.n oM).trans a6;have b6:d9 h.n h D:=s2.trans (s4.wk oM);have b0:SlF h (fun j=>l0<=j/\j<h.n) 3 (ChO h (fun j=>l0<=j/\j<h.n)) cv c:=(hc.slf ax).mono (fun j u=>E.g j u.2) (fun j u=>⟨u.1,oM⟩) fun cs o q=>ax _ _ _ _ _ _ q (fun j u=>E.g j u.2) (fun j u=>⟨u.1,oM⟩);rw[U,hR];rw[i8 TL rfl _ sM];have b8:=S;subst S;refine J8 aR J.symm a8.symm a5 W b4 b5 a2 ?_;refine j5 (F:=fun z=>Ret (t6 _ _ _ (u6 (inBlock 0 z) _)) _ _) (Wx kc (Hr:=h) (Hb:=D) (rc.stay E) (dc.stay E) lR oM (pw:=H.n) (by rw[hR];exact g1) a I ha _ bv a9 lb (fun o ho=>(kb o ho).up oM) l0 oM c _ b0 O b1 (FS r I c (sF r l a) []) c.length _ _ ⟨0,_,_,[],_,rfl,aaJ _,rfl,rfl,rfl,rfl,rfl,rfl,rfl,ChS.new a7 ⟨lR,fun _ _ _=>rfl⟩,b6,OkC.nil,rfl⟩) ?_;rintro o' e' H' ⟨b3,w,mv,G,g7,hI,hS⟩;have gc:=hI.cell;obtain⟨wa,wc,ew⟩:=hI.own.slice;rw[ew]at gc;refine J3 b3 g7 gc ?_;rw[<-ew];exact BZ (hI.out oM) (E.trans (hS.wk oM)) (hS.lowAll _ oM X)
end
abbrev ntV(n:Nat):aet:=iV n
def So(s t:List Nat)(k:Nat):Prop:=t.length=s.length/\∀x,x<s.length->t[x]?=if x<k\/s.length<=x+k then s[s.length-1-x]? else s[x]?
def So.step{s t:List Nat}(h:So s t k)(W:j+k+1=s.length)(X:k<j)(O:t[k]?=some u)(S:t[j]?=some v):So s ((t.set k v).set j u) (k+1):=by
 refine⟨by rw[aaZ,aaZ];exact h.1,fun x U=>?_⟩;have D:=h.2 k oM;have z:=h.2 j oM;rw[bt oM]at D z;rw[O]at D;rw[S]at z;by_cases E:x=j
 .subst E;rw[ad6 (by rw[aaZ,h.1];omega),cA oM,show s.length-1-x=k from oM];exact D
 .rw[List.getElem?_set_ne (fun q=>E q.symm)];by_cases I:x=k
  .subst I;rw[ad6 (by rw[h.1];omega),cA oM,show s.length-1-x=j from oM];exact z
  .rw[List.getElem?_set_ne (fun q=>I q.symm),h.2 x U];by_cases J:x<k\/s.length<=x+k
   .rw[cA J,cA oM]
   .rw[bt J,bt oM]
def So.done{s t:List Nat}(h:So s t k)(z:s.length<=k+k+1):t=s.reverse:=by
 refine abn fun x=>?_;by_cases u:x<s.length
 .rw[h.2 x u,adk u];split
  .rfl
  .rw[show s.length-1-x=x from oM]
 .rw[aaM (by rw[h.1];omega),aaM (by rw[ab4];omega)]
def Wi(b n c:Nat)(s:List Nat)(hn:s.length=n)(hb:n<=1000000)(D:d7):
  ∀kk e H2,(∃(k:Nat)(t:List Nat),kk=n-k/\k<=n/\e.g 0=sL b n c/\e.g 2=iV k/\e.g 3=iV ((n:Int)-1-k)/\H2.g b=cE (t.map ntV) 1/\So s t k/\Fr1 b D H2/\H2.n=D.n/\(k=0\/H2.low<=b))->
  u7 (LE prog l7 (.loop WX) e H2) (fun o e H2=>o= .exit 0/\H2.g b=cE (s.reverse.map ntV) 1/\Fr1 b D H2/\H2.n=D.n/\(n<=1\/H2.low<=b)):=by
 refine i5 _ _ ?_;rintro kk e H2 ⟨k,t,hk,a3,f0,f2,O,W,S,hF,hN,hZ⟩;rcases E:decide ((k:Int)<(n:Int)-1-k)with _|_
 .have U:=dF E;have ht:=S.done oM;refine J3 f2 O E ?_;exact i6 ⟨rfl,by rw[<-ht];exact W,hF,hN,hZ.imp (fun q=>oM) id⟩
 have U:=dT E;obtain⟨j,hj⟩:∃j:Nat,(n:Int)-1-k=j:=⟨n-1-k,oM⟩
 have tl:=S.1;obtain⟨u,hu⟩:∃u,t[k]?=some u:=⟨_,yv oM⟩
 obtain⟨v,hv⟩:∃v,t[j]?=some v:=⟨_,yv oM⟩
 have cu:(t.map ntV)[k*1]?=some (.int .i64 u):=by rw[aaK,aaS,hu];rfl
 have cv:(t.map ntV)[j*1]?=some (.int .i64 v):=by rw[aaK,aaS,hv];rfl
 have tk:((k:Nat):Int).toNat=k:=tN k;have tj:((j:Nat):Int).toNat=j:=tN j;rw[hj]at O E;have bl:=u5 W;have lm:(t.map ntV).length=n:=by rw[aa7];omega
 have a2:((t.map ntV).set (k*1) (.int .i64 v)).length=n:=by rw[aaZ];exact lm
 have dk:decide (((k:Nat):Int)<n)=true:=yo oM;have dj:decide (((j:Nat):Int)<n)=true:=yo oM;have a1:k*1+1<=n:=oM;have X:j*1+1<=n:=oM;obtain⟨I,h⟩:=eY (H2.put b (.cells ((t.map ntV).set (k*1) (.int .i64 v)) true 1));have g3:I.g b=some (.cells ((t.map ntV).set (k*1) (.int .i64 v)) true 1):=by rw[h];exact i7 bl
 obtain⟨J,z⟩:=eY (I.put b (.cells (((t.map ntV).set (k*1) (.int .i64 v)).set (j*1) (.int .i64 u)) true 1));have n4:J.n=H2.n:=by rw[z,j9,h,j9]
 have g4:J.g b=some (.cells (((t.set k v).set j u).map ntV) true 1):=by
  rw[z,i7 (by rw[h,j9];exact bl),aaK,aaK,acU,acU]
 have p3:Fr1 b H2 I:=by rw[h];exact Fr1.put
 have p4:Fr1 b I J:=by rw[z];exact Fr1.put
 have F4:Fr1 b D J:=hF.trans (p3.trans p4);have ek:(j:Int)-1=(n:Int)-1-((k+1:Nat):Int):=oM;refine J19 f0 f2 O E tk tj dk dj W cu cv lm a1 h.symm g3 a2 X z.symm @wrap_small ?_;exact d8 (n-(k+1)) oM ⟨k+1,_,rfl,oM,f0,rfl,by rw[<-ek];rfl,g4,S.step oM oM hu hv,F4,oM,.inr (by rw[z,A5];omega)⟩
def WP(h:d7):∀(I:Nat)(e:Env)(H2:d7),(e.g 2=iV 0/\e.g 3=iV (-1)/\H2=h)->u7 (LE prog l7 (.loop WX) e H2) (fun o e H2=>o= .exit 0/\H2=h):=by
 refine i5 _ _ ?_;rintro I e H2 ⟨z,D,E⟩;have u:decide ((0:Int)< -1)=false:=rfl;refine J3 z D u ?_;exact i6 ⟨rfl,E⟩
def w52(H:d7)(lo:Nat)(w:aet)(s:List Nat)(hw:t7 H lo 1 (u9 ntE) w s)(hn:s.length<=1000000)(a4:lo<=H.n):
  Ret (CL prog l7 52 [w] H) H (fun v H'=>v=undef/\t7 H' lo 1 (u9 ntE) w s.reverse/\d9 lo H H'):=by
 have I:=hw;obtain⟨cs,h1,O⟩:=I;rw[i8 Vr rfl _ sM];rcases h1 with⟨rfl,u,rfl⟩|⟨b,c,rfl,W,hb,hl⟩
 .obtain rfl:s=[]:=aag.1 u;refine J1 @wrap_small ?_;refine j5 (F:=fun z=>Ret (t6 _ _ _ (inBlock 0 z)) _ _) (WP ⟨H.bs,H.n⟩ 0 _ _ ⟨rfl,rfl,rfl⟩) ?_;rintro o e H2 ⟨E,hH⟩;subst hH;refine J1 E ?_;exact F9 (fun _ _=>⟨rfl,t7.nil,d9.refl _ _⟩) ⟨rfl,t7.nil,lR,fun k hk q=>by show k<=min H.low H.n;omega,fun _ _=>rfl⟩
 .have D:cs=s.map ntV:=by
   refine abn fun i=>?_;have a3:=O.1;by_cases X:i<s.length
   .have u:=O.2 i _ (yv X);rw[aaS,yv X];have S:((cs.drop (i*1)).take 1)[0]?=some (.int .i64 s[i]):=by rw[u];rfl
    rw[aaO,cA oM,aaA]at S
    simpa using S
   .rw[aaM oM,aaM (by simp;omega)]
  subst D;have a2:=u5 W;have e1:(s.length:Int)-1=(s.length:Int)-1-((0:Nat):Int):=oM;refine J1 @wrap_small ?_;refine j5 (F:=fun z=>Ret (t6 _ _ _ (inBlock 0 z)) _ _) (Wi b s.length c s rfl hn ⟨H.bs,H.n⟩ (s.length-0) _ _ ⟨0,s,rfl,aaJ _,rfl,rfl,by rw[<-e1];rfl,W,⟨rfl,fun x hx=>by rw[bt oM]⟩,Fr1.refl _ _,rfl,.inl rfl⟩) ?_;rintro o e H2 ⟨E,g2,J,N2,h⟩;refine J1 E ?_;have hO:∀n,t7 ⟨H2.bs,n⟩ lo 1 (u9 ntE) (sL b s.length c) s.reverse:=fun n=>by
   refine⟨s.reverse.map ntV,.inr ⟨b,c,by rw[ab4],g2,hb,by simp⟩,by simp,fun i a U=>?_⟩;rw[aaK,aav (by simpa using (gS U).1),abl,acy];simp only[adU];rw[(gS U).2]
  refine F9 (fun _ a1=>?_) ⟨rfl,hO _,⟨by show H.n<=H2.n;rw[N2];exact lR,fun k hk q=>?_,fun j hj=>J.stay.g j oM⟩⟩
  .rcases h with h|h
   .have:s.reverse=s:=by
     match s,h with
     |[],_=>rfl
     |[x],_=>rfl
    rw[this];exact⟨rfl,hw,d9.refl _ _⟩
   .omega
  .have:=J.stay.lowAll k oM (show k<=H.n from oM);show k<=min H.low H2.low;omega
def Wl(H:d7)(lo:Nat)(v:aet)(l:List EvD)(a9:lo<=H.n)(hv:Z6 H lo v l)(hn:l.length<=1000000){R:LV}(gw:H.g pw=cE R 1)(E:R[12]?=some v)(lw:Nat)(a4:lw<=H.n)(a:Nat)(ha:a<=l.length)(S:List Nat)(hS:S.length<=a):
  ∀kk e H2,(∃(i:Nat)(w:aet)(h:List Nat),kk=a-i/\i<=l.length/\e.g 2=iV a/\e.g 3=pT pw/\e.g 7=w/\e.g 8=iV i/\t7 H2 H.n 1 (u9 ntE) w h/\h++ej l a i a=S/\d9 H.n H H2/\lw<=H2.low)->
  u7 (LE prog l7 (.loop Yq) e H2) (fun o e H2=>o= .exit 0/\∃w,e.g 7=w/\t7 H2 H.n 1 (u9 ntE) w S/\d9 H.n H H2/\lw<=H2.low):=by
 refine i5 _ _ ?_;rintro kk e H2 ⟨i,w,h,hk,hi,W,f3,f7,f8,hO,D,u,hl⟩;have a7:=u.n;rcases I:decide ((i:Int)<a)with _|_
 .have a2:=dF I;have:ej l a i a=[]:=by
   cases a with
   |zero=>rfl
   |succ a=>rw[ej,bt oM]
  rw[this,aaq]at D;refine J3 W f8 I ?_;exact i6 ⟨rfl,w,f7,by rw[<-D];exact hO,u,hl⟩
 have a2:=dT I;obtain⟨a',rfl⟩:∃a',a=a'+1:=⟨a-1,oM⟩
 have hg:=oT (l:=l) (a:=i) oM;have a3:=gu l (i:=i) oM;have a5:ej l (a'+1) i (a'+1)=i::ej l (a'+1) (C1 l i) (a'+1):=by
  rw[ej,cA oM,sH l a' (a'+1) (C1 l i) (a'+1) ha oM oM]
 rw[a5]at D;have b1:h.length+1<=a'+1:=by
  have:=congrArg List.length D;simp only[ib,A1]at this;omega
 obtain⟨v4,k4,O,ra,a8,a1,J⟩:=hO.push1F (P:=prog) (t:=30) (a:=i) (cs:=[iV i]) (by exact OK.2.2.2.2.2.2) ty3.1 ty3.2.1 ty3.2.2.1 oM oM rfl rfl oM a7;have n4:=J.n;have s4:d9 H.n H O:=u.trans J.stay;have a6:Z6 O lo v l:=hv.mono (fun j hj=>s4.g j oM) lR;have hE:=BA O lo v l oM a6 hn i hi;have e1:i+w7 (l.drop i) 0=C1 l i:=rfl;rw[e1]at hE;have X:=(s4.g pw (u5 gw)).trans gw;obtain⟨wa,wc,ew⟩:=hO.slice;obtain⟨va,vc,U⟩:=hv.slice;have z:=f7;rw[ew]at z ra;rw[U]at hE E;refine J10 W f3 z f8 I ra a8 X E hE ?_;exact d8 (a'+1-C1 l i) oM ⟨C1 l i,v4,h++[i],rfl,a3,W,f3,rfl,rfl,a1,by rw[aaX];exact D,s4,J.stay.lowAll _ a4 hl⟩
def JR(l:List EvD):∀(n i a:Nat),(ej l n i a).length<=n
 |0,i,a=>lR
 |n+1,i,a=>by
  rw[ej];split
  .have:=JR l n (C1 l i) a;simp;omega
  .simp
def w24(H:d7)(lo:Nat)(v:aet)(l:List EvD)(a1:lo<=H.n)(hv:Z6 H lo v l)(hn:l.length<=1000000){R:LV}(a2:R.length=13)(aR:R.all oC=true)(S:R[12]?=some v)(p a:Nat)(ha:a<=l.length)(hp:p<l.length):
  Ret (CL prog l7 24 [.agg R.toArray,iV p,iV a] H) H (fun w H'=>t7 H' H.n 1 (u9 ntE) w (yp l p a)/\d9 H.n H H'):=by
 obtain⟨J,h,n1,g1,s1⟩:=pushF H (bC R 1);have D:H.n<=J.low:=by rw[h];exact lR
 have hU:=JR l a (p+1) a;have e1:((p+1:Nat):Int)=(p:Int)+1:=oM;rw[i8 Vl rfl _ sM];refine J3 aR h.symm @wrap_small ?_;refine j5 (F:=fun z=>Ret (t6 _ _ _ (u6 (inBlock 0 z) _)) _ _) (Wl J lo v l oM (hv.mono (fun j hj=>s1.g j oM) lR) hn g1 S H.n oM a ha (ej l a (p+1) a) hU (a-(p+1)) _ _ ⟨p+1,_,[],rfl,oM,rfl,rfl,rfl,by rw[e1];rfl,t7.nil,rfl,d9.refl _ _,D⟩) ?_;rintro o e' H2 ⟨ho,w,X,hO,hS,hl⟩;have n2:=hS.n;obtain⟨v3,k3,H3,E,I,rfl,u,U⟩:=w52 H2 J.n w _ hO oM n2;have n3:=U.n;obtain⟨wa,wc,W⟩:=hO.slice;rw[W]at X E;refine J4 ho X E I ?_;rw[<-W];refine F9 (fun O _=>⟨u.na O H H.n,d9.refl _ _⟩) ⟨(u.wk oM).low _,((s1.trans ((hS.wk oM).trans (U.wk oM))).ret (U.lowAll _ oM hl))⟩
def OcO(H:d7)(F:Nat->Prop)(cs:LV)(o:OcD):Prop:=∃p,cs=[.bool o.1,p]/\SlO H F 2 (u9 pkE) p o.2
def dd:cJ OcO:=fun H H' G G' cs a h E D=>by
 obtain⟨p,u,z⟩:=h;exact⟨p,u,z.mono E D⟩
def w28(H:d7)(F:Nat->Prop)(cs:LV)(o:OcD)(I:OcO H F cs o)(b:Nat)(h:Bool)(D:H.g b=cE [.bool h] 1):CL prog l7 28 [.agg cs.toArray,pT b] H=some (.bool (o.1==h),none):=by
 obtain⟨p,rfl,J⟩:=I;obtain⟨O,S,rfl⟩:=J.slf.slice;have u:=u5 D;have z:∀B,(d7.push ⟨H.bs,H.n⟩ B).g b=cE [.bool h] 1:=fun B=>(i9 (show b<(⟨H.bs,H.n⟩:d7).n from u)).trans D;have E:=uP (P:=prog) 4 o.1 h ty4.2.2.2.2.2.2.1;rw[i8 Pl rfl _ sM];exact J2 z E trivial
def Zq(H0:d7)(F:Nat->Prop)(b:Nat)(S:Bool)(gb:H0.g b=cE [.bool S] 1)(va:Option Addr)(ca:Nat)(l:List OcD)(hv:SlF H0 F 2 (OcO H0 F) (.slice va l.length ca) l)(hn:l.length<=1048576)(r:Int):
  ∀X e H2,(∃i:Nat,X=l.length-i/\i<=l.length/\e.g 0= .slice va l.length ca/\e.g 1= .func (.func 28) #[] #[pT b]/\e.g 7=iV l.length/\e.g 8=iV i/\H2=H0/\ixG (fun o=>o.1==S) (l.drop i) i=r)->
  u7 (LE prog l7 (.loop YI) e H2) (fun o e H2=>H2=H0/\((o= .exit 0/\r= -1)\/(o= .ret/\e.g 4=iV r))):=by
 refine i5 _ _ ?_;rintro X e H2 ⟨i,hk,hi,I,J,O,U,hH,z⟩;subst hH;rcases D:decide ((i:Int)<l.length)with _|_
 .have W:=dF D;rw[dN oM,ixG]at z;refine J5 I J O U D ?_;exact i6 ⟨rfl,.inl ⟨rfl,z.symm⟩⟩
 have W:=dT D;obtain⟨x,nb,o,cs,own,el,hx,hd,rfl,hF,hg,a1,u,hc,hR⟩:=hv.row (i:=i) oM;have nt:(i:Int).toNat=i:=tN i;have h:=w28 H2 F el x hR b S gb;rw[hd,ixG]at z;rcases E:x.1==S with _|_
 .simp only[E,bF]at z;rw[E]at h;refine J10 I J O U D hg nt u h @wrap_small ?_;exact d8 (X-1) oM ⟨i+1,oM,oM,I,J,O,rfl,rfl,z⟩
 .simp only[E,aab]at z;rw[E]at h;refine J10 I J O U D hg nt u h @wrap_small ?_;exact w9 ⟨rfl,.inr ⟨rfl,by rw[<-z];rfl⟩⟩
def w54(H:d7)(F:Nat->Prop)(b:Nat)(u:Bool)(O:H.g b=cE [.bool u] 1)(v:aet)(l:List OcD)(I:SlF H F 2 (OcO H F) v l)(U:l.length<=1048576):
  CL prog l7 54 [v,.func (.func 28) #[] #[pT b]] H=some (.int .i64 (ixG (fun o=>o.1==u) l 0),none):=by
 obtain⟨X,J,rfl⟩:=I.slice;rw[i8 Zp rfl _ sM];refine J1 Wf ?_;refine j5 (F:=fun z=>t6 _ _ _ (u6 (inBlock 0 z) _)=_) (Zq ⟨H.bs,H.n⟩ F b u O X J l (I.mono (fun _ _=>rfl) (fun _ h=>h) (fun _ _ h=>dd _ _ _ _ _ _ h (fun _ _=>rfl) (fun _ h=>h))) U (ixG (fun o=>o.1==u) l 0) l.length _ _ ⟨0,rfl,oM,rfl,rfl,rfl,rfl,rfl,rfl⟩) ?_;rintro o e' H' ⟨E,⟨D,W⟩|⟨D,S⟩⟩
 .exact J3 D E W trivial
 .exact J3 D E S trivial
def w27(H:d7)(F:Nat->Prop)(b:Nat)(z:Bool)(D:H.g b=cE [.bool z] 1)(v:aet)(l:List OcD)(I:SlF H F 2 (OcO H F) v l)(E:l.length<=1048576):
  CL prog l7 27 [v,.func (.func 28) #[] #[pT b]] H=some (.bool (l.any fun o=>o.1==z),none):=by
 have u:=w54 ⟨H.bs,H.n⟩ F b z D v l (I.mono (fun _ _=>rfl) (fun _ h=>h) (fun _ _ h=>dd _ _ _ _ _ _ h (fun _ _=>rfl) (fun _ h=>h))) E;rw[i8 TM rfl _ sM,<-jt];exact J1 u trivial
def Sn{l:List EvD}(h:D8 l=true){p a:Nat}(I:a<=l.length)(J:E4 l a=E4 l p++[p]):∀(n i:Nat),Kid l p a i->∀s∈ej l n i a,∃e,bj l s e/\V5 l s=true
 |0,i,hi,s,u=>by cases u
 |n+1,i,hi,s,u=>by
  rw[ej]at u;split at u
  .rename_i E;obtain⟨e,O,S,z,U,D,_⟩:=Pf h I J hi E;rcases aam.1 u with rfl|u
   .exact⟨e,⟨O,S⟩,z⟩
   .exact Sn h I J n _ D s u
  .cases u
def wQ{r:ReD}{α:Type}{g:List ChD->α->List ChD}(h:∀x u,OkC r u->OkC r (g u x)):∀(xs:List α)(u:List ChD),OkC r u->OkC r (xs.foldl g u)
 |[],u,ho=>ho
 |x::xs,u,ho=>wQ h xs _ (h x u ho)
def pkB(a:Nat):Nat:=4294967296+2147483648*(30-a)
section
variable{q:Q}{r:ReD}(kc:KdC q r){l:List EvD}
include kc
theorem UY:((bN r).length:Int)=r.strat.main.st:=by
 have:=kc.main.1.st;rw[bN,aaZ,abI];omega
theorem Sh(g:List Bool)(k:Int):((Ax r.strat.main g k).length:Int)=r.strat.main.st:=by
 have:=kc.main.1.st;rw[Ju];omega
theorem WL(a:Nat):OkC r (ownC r l a):=by
 rw[ownC];split
 .exact OkC.nil
 .exact wQ (fun x u h=>wQ (fun b u h=>h.lay (UY kc)) _ _ h) _ _ OkC.nil
theorem Wy(a:Nat)(c:List ChD):OkC r (qT r l a c):=by
 rw[qT];split
 .exact OkC.nil
 .exact wQ (fun x u h=>h.lay (Sh kc _ _)) _ _ OkC.nil
theorem Wv(a:Nat)(c:List ChD):OkC r (xT r l a c):=by
 rw[xT];split
 .exact OkC.nil
 .exact wQ (fun x u h=>wQ (fun b u h=>h.lay (Sh kc _ _)) _ _ h) _ _ OkC.nil
theorem XZ(E:l.length<=30)(a:Nat):∀y∈ownC r l a,y.2.2.length<=pkB a:=by
 obtain⟨m,h⟩:=kc.gr;have O:(2:Nat) ^ 31=2147483648:=by decide
 rw[ownC];split
 .intro y D;cases D
 .refine Po fun f z b u _=>?_;have I:=(((Md h l a).1 f z).up (show l.length+1<=31 from oM)).2.2;have J:=(((Mc h l a).1 b u).up (show l.length+1<=31 from oM)).2.2;show(f.2++b.2).length<=_;rw[ib,pkB];omega
theorem Xi(a:Nat)(c:List ChD)(h:∀y∈c,y.2.2.length<=B):∀y∈qT r l a c,y.2.2.length<=B:=by
 rw[qT];split
 .intro y z;cases z
 .exact OP fun x u _=>h x u
theorem Xh(O:l.length<=30){p a:Nat}(E:p<a)(U:a<=30)(c:List ChD)(z:∀y∈c,y.2.2.length<=pkB a):∀y∈xT r l p c,y.2.2.length<=pkB p:=by
 obtain⟨m,D⟩:=kc.gr;have W:(2:Nat) ^ 31=2147483648:=by decide
 rw[xT];split
 .intro y J;cases J
 .refine OL fun x I b u _=>?_;have h:=z x I;have S:=(((Mc D l p).1 b u).up (show l.length+1<=31 from oM)).2.2;show(x.2.2++b.2).length<=_;rw[pkB]at h ⊢;rw[ib];omega
end
def Pj:∀{l:List OcD},(l.map (·.1)).Nodup->l.length<=2
 |[],_=>by simp
 |[a],_=>by simp
 |[a,b],_=>by simp
 |a::b::c::t,h=>by
  exfalso
  simp only[aaQ,aca,aam,adB]at h;obtain⟨⟨u,z,_⟩,⟨D,_⟩,_⟩:=h;cases E:a.1<;>cases I:b.1<;>cases J:c.1<;>simp_all
def Sf{r:ReD}{u:List OcD}(x:ChD)(h:(u.map (·.1)).Nodup):((qc r u x).map (·.1)).Nodup:=by
 rw[qc];split
 .exact h
 .rename_i E;rw[abg,acs];refine⟨h,by simp,fun y J z O=>?_⟩;obtain⟨o,I,rfl⟩:=aau.1 J;have D:z=x.2.1.getD r.strat.main.sa.toNat false:=by simpa using O
  intro q;exact E (aa3.2 ⟨o,I,by rw[q,D];simp⟩)
def RN:∀(A B:LV)(x:aet),A.length=B.length+1->A.getLast?=some x->splice A 0 B=B++[x]:=by
 intro A B x h E;obtain⟨u,rfl⟩:∃u,A=u++[x]:=adI.1 E;have z:u.length=B.length:=by simpa using h
 have key:∀(B u:LV)(o:Nat),o+B.length<=u.length->splice (u++[x]) o B=splice u o B++[x]:=by
  intro B;induction B with
  |nil=>intro u o _;rfl
  |cons b B I=>
   intro u o D;simp only[A1]at D;rw[yX,yX,List.set_append_left _ _ oM,I _ _ (by rw[aaZ];omega)]
 rw[key B u 0 oM,y7 _ _ z]
def WK(r:ReD)(l:List EvD)(a:Nat):((pH r l a).map (·.1)).Nodup:=by
 have:∀(c:List ChD)(u:List OcD),(u.map (·.1)).Nodup->((c.foldl (qc r) u).map (·.1)).Nodup:=by
  intro c;induction c with
  |nil=>intro u h;exact h
  |cons x c z=>intro u h;exact z _ (Sf x h)
 exact this _ [] sM
def XX:List OcD->Bool
 |[]=>false
 |o::_=>o.1
section
variable{q:Q}{r:ReD}(kc:KdC q r){Hs:d7}{lo K:Nat}
include kc
theorem SW(rc:RcR Hs lo K r Hr a4){l:List EvD}(dc:DcR lo l Hr v)(gw:Hr.g pw=cE (a4++[v]) 1)(l0:Nat)(b9:l0<=Hr.n)(a p p3:Nat)(B:Nat)(u:List Nat)(sv:aet)(c5:u.length<=100)(b4:∀s∈u,∃e,bj l s e/\V5 l s=true) (h:d7) (W:d9 Hr.n Hr h) (X:SlI h h.n 1 (u9 ntE) sv u) (lw:Nat) (c4:lw<=h.n) (Cf:List ChD):
  ∀kk e H2,(∃(j:Nat)(cv:aet)(c:List ChD)(G:Nat->Prop),kk=u.length-j/\j<=u.length/\e.g 1=v/\e.g 2=iV a/\e.g 3=pT p3/\e.g 7=pT pw/\e.g 8=cv/\e.g 9=iV p/\e.g 30=sv/\e.g 31=iV u.length/\e.g 32=iV j/\
   S3 3 ChO l0 H2 cv c G/\OkC r c/\(∀y∈c,y.2.2.length<=B)/\d9 h.n h H2/\lw<=H2.low/\(u.drop j).foldl (fun c s=>qT r l s c) c=Cf)->
  u7 (LE prog l7 (.loop RD) e H2) (fun o e H2=>o= .exit 2/\∃(cv:aet)(G:Nat->Prop),e.g 1=v/\e.g 2=iV a/\e.g 3=pT p3/\e.g 7=pT pw/\e.g 8=cv/\e.g 9=iV p/\S3 3 ChO l0 H2 cv Cf G/\OkC r Cf/\(∀y∈Cf,y.2.2.length<=B)/\d9 h.n h H2/\lw<=H2.low):=by
 refine i5 _ _ ?_;rintro kk e H2 ⟨j,cv,c,G,hk,hj,f1,f2,f3,f7,f8,f9,E,z,I,hO,S,U,O,hl,D⟩;have b6:=O.n;have n1:=W.n;rcases b0:decide ((j:Int)<u.length)with _|_
 .have a6:=dF b0;rw[dN oM,aaT]at D;refine J3 z I b0 ?_;exact i6 ⟨rfl,cv,G,f1,f2,f3,f7,f8,f9,by rw[<-D];exact hO,by rw[<-D];exact S,by rw[<-D];exact U,O,hl⟩
 have a6:=dT b0;obtain⟨sa,sc,b3⟩:=X.slice;subst b3;obtain⟨s,nb,o,cs,own,el,hx,hd,b2,b1,hg,c3,b7,a8,rfl⟩:=X.row (i:=j) oM;subst b2;have c0:=a8 0 oM;rw[aaf,aaK]at c0;have a9:=(O.g nb b1).trans hg;have tj:((j:Nat):Int).toNat=j:=tN j;obtain⟨ev,hN,a7⟩:=b4 s (mG hx);have sr:d9 Hr.n Hr H2:=W.trans (O.wk n1);have J:=(sr.g pw (u5 gw)).trans gw;obtain⟨v5,k5,H5,a2,a3,⟨G5,O5⟩,s5⟩:=w25 kc H2 (rc.stay sr) (dc.stay sr) s ev hN.1 (oN (hN.2)) (Ag dc.beg hN a7).1 l0 oM c cv G hO S;obtain⟨ca,cc,b8⟩:=hO.slice;obtain⟨R',rs,ms,a1,c1,a5,c6,aR,c7,r9,_,_,b5,_⟩:=rc.w13 (v:=v) (by rw[dc.ev.slice.choose_spec.choose_spec];rfl);rw[a5]at J a2;rw[hd,aak]at D;refine J19 f1 f2 f3 f7 f8 f9 E z I b0 tj a9 c0 @aaK J b5 a2 a3 @wrap_small ?_;exact d8 (kk-1) oM ⟨j+1,v5,_,G5,oM,oM,f1,f2,f3,f7,rfl,f9,E,z,rfl,O5,Wy kc s c,Xi kc s c U,O.trans (s5.wk b6),s5.lowAll _ oM hl,D⟩
theorem Wu(rc:RcR Hs lo K r Hr b4){l:List EvD}(h:DcR lo l Hr v)(U:Hr.g pw=cE (b4++[v]) 1)(l0:Nat)(c4:l0<=Hr.n)(p3:Nat)(lw:Nat)(e1:lw<=Hr.n)(Cf:List ChD):
  ∀kk e H2,(∃(a f:Nat)(ev:EvD)(cv:aet)(c:List ChD)(G:Nat->Prop),kk=a/\a<=f/\bj l a ev/\e.g 1=v/\e.g 2=iV a/\e.g 3=pT p3/\e.g 7=pT pw/\e.g 8=cv/\
   S3 3 ChO l0 H2 cv c G/\OkC r c/\(∀y∈c,y.2.2.length<=pkB a)/\d9 Hr.n Hr H2/\lw<=H2.low/\Oy r l f a c=Cf)->
  u7 (LE prog l7 (.loop Yg) e H2) (fun o e H2=>o= .exit 0/\∃(cv:aet)(G:Nat->Prop),e.g 3=pT p3/\e.g 8=cv/\S3 3 ChO l0 H2 cv Cf G/\OkC r Cf/\d9 Hr.n Hr H2/\lw<=H2.low):=by
 refine i5 _ _ ?_;rintro kk e H2 ⟨a,f,ev,cv,c,G,hk,d5,hN,f1,f2,f3,f7,f8,hO,a5,c8,D,hl,S⟩;have d2:=D.n;have d1:=h.n30;have d6:=(gS hN.1).1;rcases b0:decide ((0:Int)<a)with _|_
 .have b9:=dF b0;obtain rfl:a=0:=oM;have:Oy r l f 0 c=c:=by
   cases f with
   |zero=>rfl
   |succ f=>rw[Oy,cA rfl]
  rw[this]at S;refine J2 f2 b0 ?_;exact i6 ⟨rfl,cv,G,f3,f8,by rw[<-S];exact hO,by rw[<-S];exact a5,D,hl⟩
 have b9:=dT b0;obtain⟨p,hp,_⟩:=Mo h.beg hN.1 oM;have J:=zM h.beg oM hp;have a7:p∈E4 l a:=by rw[J];simp
 have c6:=Da l a p a7;obtain⟨ep,a3,c3⟩:=ck l a p a7;obtain⟨_,a4,_⟩:=HS h.beg oM J;have hP:=Jy H2 lo v l (h.stay D).low (h.stay D).ev oM a oM;rw[hp]at hP;obtain⟨R',rs,ms,a1,c1,a2,d0,aR,d3,r9,_,_,a9,_⟩:=rc.w13 (v:=v) (by rw[h.ev.slice.choose_spec.choose_spec];rfl);obtain⟨sv,k3,H3,d4,b1,O3,s3⟩:=w24 H2 lo v l (h.stay D).low (h.stay D).ev oM d0 aR d3 p a oM oM;have n3:=s3.n;have b5:d9 Hr.n Hr H3:=D.trans (s3.wk d2);have W:=(D.g pw (u5 U)).trans U;have c7:(yp l p a).length<=100:=by
  rw[yp,ab4];have:=JR l a (p+1) a;omega
 have c9:∀s∈yp l p a,∃e,bj l s e/\V5 l s=true:=fun s hs=>by
  rw[yp,List.mem_reverse]at hs;exact Sn h.beg oM J a (p+1) a4 s hs
 obtain⟨va,vc,b7⟩:=h.ev.slice;obtain⟨sa,sc,a8⟩:=O3.slice;have O:=f1;rw[b7]at O hP;have I:=d4;rw[a8]at I;rw[a2]at W;obtain⟨f',rfl⟩:∃f',f=f'+1:=⟨f-1,oM⟩
 rw[Oy,bt oM,hp,aay]at S;refine J10 O f2 f7 f8 b0 hP W a9 I b1 ?_;refine j5 (F:=fun z=>u7 (inBlock 1 (u6 (inBlock 2 z) _)) _) (SW kc rc h U l0 c4 a p p3 (pkB a) (yp l p a) sv c7 c9 H3 b5 O3.sl lw oM ((yp l p a).foldl (fun c s=>qT r l s c) c) (yp l p a).length _ _ ⟨0,cv,c,G,rfl,aaJ _,f1,f2,f3,f7,f8,rfl,a8.symm,rfl,rfl,hO.keep ax s3,a5,c8,d9.refl _ _,s3.lowAll _ oM hl,rfl⟩) ?_;rintro o e' H4 ⟨ho,b6,G',g1,g2,g3,g7,g8,g9,b8,a6,E,s4,c5⟩;have n4:=s4.n;have u:d9 Hr.n Hr H4:=b5.trans (s4.wk oM);have X:=(u.g pw (u5 U)).trans U;have c0:∀y∈(yp l p a).foldl (fun c s=>qT r l s c) c,y.2.2.length<=1099511627776:=fun y hy=>by
  have:=E y hy;rw[pkB]at this;omega
 obtain⟨v5,k5,H5,b2,b3,⟨G5,O5⟩,s5⟩:=w26 kc H4 (rc.stay u) (h.stay u) p ep a3 oM l0 oM _ b6 G' b8 a6 c0;rw[a2]at X b2;refine J9 ho g2 g7 g8 g9 X a9 b2 b3 ?_;exact d8 p oM ⟨p,f',ep,v5,_,G5,rfl,oM,⟨a3,.inl c3⟩,g1,rfl,g3,g7,rfl,O5,Wv kc p _,Xh kc d1 c6 oM _ E,u.trans (s5.wk oM),s5.lowAll _ oM c5,S⟩
theorem VA{Hc:d7}(p3:Nat)(g3:Hc.g p3=cE c0 1)(q4:c0[4]?=some (.int .i64 r.strat.main.sa))(l0:Nat)(c:List ChD)(cv:aet)(hc:SlF Hc (fun j=>l0<=j/\j<Hc.n) 3 (ChO Hc (fun j=>l0<=j/\j<Hc.n)) cv c) (b8:OkC r c) (lw:Nat) (e3:lw<=Hc.n) (R:List OcD):
  ∀kk e H2,(∃(i:Nat)(w:aet)(z:List OcD),kk=c.length-i/\i<=c.length/\e.g 3=pT p3/\e.g 12=w/\e.g 46=cv/\e.g 47=iV c.length/\e.g 48=iV i/\t7 H2 Hc.n 2 (OcO Hc (fun j=>l0<=j/\j<Hc.n)) w z/\(z.map (·.1)).Nodup/\d9 Hc.n Hc H2/\lw<=H2.low/\(c.drop i).foldl (qc r) z=R)->
  u7 (LE prog l7 (.loop Yh) e H2) (fun o e H2=>o= .exit 4/\∃(w:aet),e.g 12=w/\t7 H2 Hc.n 2 (OcO Hc (fun j=>l0<=j/\j<Hc.n)) w R/\d9 Hc.n Hc H2/\lw<=H2.low):=by
 refine i5 _ _ ?_;rintro kk e H2 ⟨i,w,z,hk,hi,f3,D,E,I,a3,hO,b7,hS,hl,O⟩;have e8:=hS.n;rcases b0:decide ((i:Int)<c.length)with _|_
 .have d2:=dF b0;rw[dN oM,aaT]at O;refine J3 I a3 b0 ?_;exact i6 ⟨rfl,w,D,by rw[<-O];exact hO,hS,hl⟩
 have d2:=dT b0;have f5:=b8.len kc;obtain⟨ca,cc,U⟩:=hc.slice;have b5:=hc;rw[U]at b5;obtain⟨x,e9,ob,g0,f8,g1,e6,d5,d3,c8,e1,f6,u,f4,xg,xp,d6,W,a4⟩:=b5.row (i:=i) oM;subst d3 d6;obtain⟨_,_,g4⟩:=b8.2 x (mG e6);have a1:=(hS.g e9 c8.2).trans e1;have ti:((i:Nat):Int).toNat=i:=tN i;have g2:=kc.main.1.sa;have a5:xg.oneCell'=true:=by
  obtain⟨aa,ac,rfl⟩:=W.slice;rfl
 have b9:xp.oneCell'=true:=by
  obtain⟨aa,ac,rfl⟩:=a4.slf.slice;rfl
 have c5:xp.cells.toList=[xp]:=by
  obtain⟨aa,ac,rfl⟩:=a4.slf.slice;rfl
 obtain⟨xa,xc,c7⟩:=W.slice;rw[c7]at W a5 u;obtain⟨t,nt,ot,ct,f9,c6,e7,_,e5,c9,e2,f7,e4,d4,d1⟩:=W.row (i:=r.strat.main.sa.toNat) oM;subst e5;obtain rfl:c6=boE t:=d1;have a8:ct[ot+r.strat.main.sa.toNat*1]?=some (.bool t):=by have:=d4 0 oM;rw[aaf]at this;exact this
 have b6:=(hS.g nt c9.2).trans e2;have et:x.2.1.getD r.strat.main.sa.toNat false=t:=by rw[ma,e7];rfl
 have a9:decide ((r.strat.main.sa.toNat:Int)<x.2.1.length)=true:=yo oM;have f0:=u5 g3;obtain⟨H4,b3,n4,x4,a6⟩:=pushP H2 (bC [iV 0,nS,nS] 1) (bC [iV x.1,.slice (some ⟨nt,ot,none⟩) x.2.1.length xc,xp] 1);have c4:splice [iV 0,nS,nS] 0 [iV x.1,.slice (some ⟨nt,ot,none⟩) x.2.1.length xc,xp]=[iV x.1,.slice (some ⟨nt,ot,none⟩) x.2.1.length xc,xp]:=rfl;have b1:=(a6.g p3 oM).trans ((hS.g p3 f0).trans g3);have a2:=(a6.g nt oM).trans b6;obtain⟨H5,b4,n5,x5,c3⟩:=pushP H4 (bC [.bool false] 1) (bC [.bool t] 1);have X:d9 H2.n H2 H5:=a6.trans (c3.wk oM);have a7:d9 Hc.n Hc H5:=hS.trans (X.wk e8);have f2:=(c3.g H2.n oM).trans x4;have S:=hO.keep X;have o2:=Pj b7;have J:=w27 H5 (fun j=>j<H5.n) H4.n t x5 w z ((S.imp (R':=OcO H5 (fun j=>j<H5.n)) fun cs o q=>dd _ _ _ _ _ _ q (fun j hj=>a7.g j hj.2) (fun j hj=>oM)).frz fun b hb=>(S.lt hb).2) oM;rw[d5,aak,qc,et]at O;have h:=Sf (r:=r) x b7;rw[qc,et]at h;rw[U]at E;obtain⟨wa,wc,ew⟩:=hO.slice;rw[ew]at D J;rcases b2:(z.any fun o=>o.1==t)with _|_
 .rw[b2]at J O h;rw[bt sM]at O h;obtain⟨v6,k6,H6,ra,f1,d0,G6⟩:=S.push1F (P:=prog) (t:=47) (a:=(t,x.2.2)) (cs:=[.bool t,xp]) (by exact Wf.2.2.2.2.2.2) oQ.1 oQ.2.1 oQ.2.2.1 oM oM rfl ⟨xp,rfl,a4⟩ oM oM;have n6:=G6.n;rw[ew]at ra;refine J27 f3 D E I a3 b0 ti a1 u a5 b9 c4 b3.symm x4 b1 q4 a9 a2 a8 b4.symm x5 J f2 c5 ra f1 @wrap_small ?_;exact d8 (kk-1) oM ⟨i+1,v6,_,oM,oM,f3,rfl,by rw[U];exact E,I,rfl,d0,h,a7.trans G6.stay,G6.stay.lowAll _ e3 (X.lowAll _ oM hl),O⟩
 .rw[b2]at J O h;rw[cA rfl]at O h;refine J23 f3 D E I a3 b0 ti a1 u a5 b9 c4 b3.symm x4 b1 q4 a9 a2 a8 b4.symm x5 J @wrap_small ?_;exact d8 (kk-1) oM ⟨i+1,w,z,oM,oM,f3,by rw[ew];exact D,by rw[U];exact E,I,rfl,S,h,a7,X.lowAll _ oM hl,O⟩
theorem w12(H:d7){h:LV}(J:RcR Hs lo K r H h){l:List EvD}(dc:DcR lo l H v)(a:Nat)(ev:EvD)(hN:bj l a ev):
  Ret (CL prog l7 12 [.agg h.toArray,v,iV a] H) H (fg 2 OcO H (pH r l a)):=by
 have c3:=dc.n30;obtain⟨va,vc,S⟩:=dc.ev.slice;have ov:v.oneCell'=true:=by rw[S];rfl
 have cv:v.cells.toList=[v]:=by rw[S];rfl
 have O:=J.one;have D:=J.l12;obtain⟨R,rs,ms,a1,c1,hR,a3,aR,d0,r9,r3,r5,c0,c7,c8,_⟩:=J.w13 (v:=v) ov;have I:ldC (some true) (some 12) 0 h=some (.agg h.toArray):=by rw[gJ _ _ _ oM,aan,A2 oM]
 obtain⟨K1,U,n1,g1,s1⟩:=pushF H (bC h 1);have a4:H.n<=K1.low:=by rw[U];exact lR
 obtain⟨E,b2,n2,g7,s2⟩:=pushP K1 (bC [nS,nS,nS,iV 0,iV 0,iV 0,nS,nS,nS,nS,nS,nS,nS] 1) (bC R 1);have g3:=(s2.g H.n oM).trans g1;have u:d9 H.n H E:=s1.trans (s2.wk oM);have a5:H.n<=E.low:=s2.lowAll _ oM a4;have c4:splice [nS,nS,nS,iV 0,iV 0,iV 0,nS,nS,nS,nS,nS,nS,nS] 0 h=h++[nS]:=RN _ _ _ (by rw[D];rfl) rfl;have c5:splice (h++[nS]) 12 [v]=R:=by
  rw[<-hR,yX,BL,<-D,abH _ _ lR,ace];rfl
 have lA:(h++[nS]).length=13:=by rw[ib,D];rfl
 have c6:splice [nS,nS,nS,iV 0,iV 0,iV 0,nS,nS,nS,nS,nS,nS,nS] 0 R=R:=y7 _ _ (by rw[a3];rfl);obtain⟨a9,k3,K3,a7,a8,⟨G3,O3⟩,s3⟩:=w22 kc E (J.stay u) (dc.stay u) a ev hN.1 (oN (hN.2));have n3:=s3.n;rw[hR]at a7;rw[i8 Tm rfl _ sM];refine J18 O U.symm g1 I D c4 c5 lA cv ov a3 aR c6 b2.symm g7 c0 a7 a8 ?_;refine j5 (F:=fun z=>Ret (t6 _ _ _ (u6 (inBlock 0 z) _)) _ _) (Wu kc (Hr:=E) (J.stay u) (dc.stay u) (pw:=K1.n) (by rw[hR];exact g7) E.n lR H.n H.n oM (Rb r l a) a _ _ ⟨a,a,ev,a9,_,G3,rfl,lR,hN,rfl,rfl,rfl,rfl,rfl,O3,WL kc a,XZ kc c3 a,s3,s3.lowAll _ oM a5,rfl⟩) ?_;rintro o e' H4 ⟨ho,b0,G4,q3,q8,O4,X,s4,b3⟩;have n4:=s4.n;have b1:=(s4.g H.n oM).trans g3;obtain⟨ca,cc,W⟩:=O4.slice;have q4:h[4]?=some (.int .i64 r.strat.main.sa):=by
  obtain⟨d1,vl,w1,w2,w3,a2,b8,_⟩:=J.hR;obtain⟨v1,v2,v3,c9,b7,_,_,_,hm⟩:=b8;obtain⟨ea,ec,ta,tc,b5,_⟩:=E3 hm;rw[a2,b7,b5];rfl
 have a6:=q8;rw[W]at a6;refine J2 ho a6 ?_;refine j5 (F:=fun z=>Ret (t6 _ _ _ (u6 (inBlock 4 z) _)) _ _) (VA kc (Hc:=H4) H.n b1 q4 E.n _ b0 (O4.slf ax) X H.n oM (pH r l a) _ _ _ ⟨0,_,[],rfl,aaJ _,q3,rfl,W.symm,rfl,rfl,t7.nil,by simp,d9.refl _ _,b3,rfl⟩) ?_;rintro o2 e2 H5 ⟨b6,w,b9,O5,s5,b4⟩;have n5:=s5.n;refine J2 b6 b9 ?_;refine cd dd (G:=fun j=>E.n<=j/\j<H4.n) ⟨(O5.imp fun cs o q=>dd _ _ _ _ _ _ q (fun j hj=>s5.g j hj.2) (fun _ q=>q)).wk oM,fun j hj=>⟨oM,oM,fun q=>by have:=(O5.lt q).1;omega⟩⟩ (u.trans ((s4.wk oM).trans (s5.wk oM))) b4
theorem w10(H:d7)(rc:RcR Hs lo K r H D){l:List EvD}(dc:DcR lo l H v)(a:Nat)(ev:EvD)(hN:bj l a ev):
  CL prog l7 10 [.agg D.toArray,v,iV a] H=some (.tuple #[.bool (decide ((pH r l a).length=1)&&XX (pH r l a)),.bool (decide ((pH r l a).length=1))],none):=by
 have E:=rc.one;have a7:=rc.l12;have h:ldC (some true) (some 12) 0 D=some (.agg D.toArray):=by rw[gJ _ _ _ oM,aan,A2 oM]
 obtain⟨K1,O,n1,g1,s1⟩:=pushF H (bC D 1);have U:H.n<=K1.low:=by rw[O];exact lR
 obtain⟨w,k2,K2,u,J,⟨G2,O2⟩,s2⟩:=w12 kc K1 (rc.stay s1) (dc.stay s1) a ev hN;have S:=O2.sl dd;obtain⟨wa,wc,ew⟩:=S.slice;rw[ew]at u S;have I:H.n<=K2.low:=s2.lowAll _ oM U;rw[i8 Vh rfl _ sM];rcases d:decide (((pH r l a).length:Int)=1)with _|_
 .have d':=dF d;have W:decide ((pH r l a).length=1)=false:=kA oM;rw[W];exact J8 E O.symm g1 h u J d I trivial
 .have d':=dT d;have W:decide ((pH r l a).length=1)=true:=yo oM;rw[W];obtain⟨x,nb,o,cs,own,el,hx,hd,a1,a5,hg,a4,a3,hc,xp,X,a6⟩:=S.row (i:=0) oM;subst a1 X;have c0:=hc 0 oM;have e0:∀z,([Value.bool x.1,z]:LV)[0]?=some (.bool x.1):=fun _=>rfl;rw[e0,aa8,aaf]at c0;obtain⟨y,hy⟩:∃y,pH r l a=[y]:=aa2.1 oM;rw[hy]at hx ⊢;have a2:y=x:=by simpa using hx
  subst a2;have dl:decide ((0:Int)<1)=true:=rfl;rw[hy]at u d;simp only[A1,aaG]at u d;have e2:XX [y]=y.1:=rfl;rw[e2];exact J10 E O.symm g1 h u J d hg c0 I trivial
end
def qF:Q:= .mk 2 eB eB eB [] []
def qS:Q:= .mk 6 eB eB eB [qF] []
noncomputable def rS:ReD:=⟨C3 qS,(V8 (spQ qS)).getD [],r0.sorts,r0.size,r0.how⟩
def Vf:eU qS=some rS:=kR
def evT:EvD:=⟨2,eB,eB,[],⟨#[116]⟩⟩
def ZL:D8 [evA,evT]=true:=kR
def ZV:(decide ((pH rS [evA,evT] 1).length=1)&&XX (pH rS [evA,evT] 1))=true:=kR
def Zt:decide ((pH rS [evA,evT] 1).length=1)=true:=kR
def Xe:(pH rS [evA,evT] 0).map (·.1)=[true]:=kR
def Xj(H:d7):CL prog lG 6 [] H=some (.bool true,none):=by
 obtain⟨D,a7,n1,g1,s1⟩:=pushF H (bC [iV 2,nS,nS] 3);have b2:H.n<=D.low:=by rw[a7];exact lR
 have c5:QR D D.n 1 false [iV 2,nS,nS] qF:=⟨_,_,rfl,.inl ⟨rfl,rfl⟩,.inl ⟨rfl,rfl⟩,by decide,by decide,by decide,by decide,by decide,fun _=>⟨rfl,rfl,rfl⟩⟩
 have hq:QR D D.n 2 false [iV 6,sL H.n 1 1,nS] qS:=⟨_,_,rfl,.inr ⟨H.n,0,1,rfl,.inr ⟨_,true,oM,g1,by decide,fun i a E=>by
  cases i with
  |zero=>
   have:qF=a:=by simpa [qS,Q.a] using E
   subst this;exact c5
  |succ i=>simp [qS,Q.a]at E⟩⟩,.inl ⟨rfl,rfl⟩,by decide,by decide,by decide,by decide,by decide,fun _=>⟨rfl,rfl,rfl⟩⟩
 have a9:jb qS=true:=kR;obtain⟨a8,d5⟩:=ky a9;obtain⟨v,h,H2,c8,b5,u,er,rfl,s2,U⟩:=Qk 2 D D.n _ qS lR hq a8 (by decide);rw[Vf]at U;rcases U with⟨h0,_⟩|⟨r,h0,rfl,b0,hR⟩
 .cases h0
 cases h0;have n2:D.n<=H2.n:=s2.n;have kc:KdC qS rS:=by
  obtain⟨_,_,l,hl,c4⟩:=cP Vf;exact⟨a8,oM,Vf,b0,by rw[c4];exact Ap hq a9 hl,by decide⟩
 have c9:RcR D D.n 2 rS H2 u:=RcR.of hR b0.l0 n2 (fun j hj=>s2.g j hj);obtain⟨H3,a1,n3,x3,-⟩:=pushE H2 (bC z12 1);obtain⟨W,I⟩:=eY (H3.put H2.n (bC u 1));have n4:W.n=H2.n+1:=by rw[I,j9,n3]
 have x4:W.g H2.n=cE u 1:=by rw[I];exact i7 oM
 have b6:d9 H2.n H2 W:=by rw[I,a1];exact(d9.push lR).trans (d9.put lR)
 obtain⟨S,a2,-,-,a4⟩:=pushE W (.cells [iV 1,.string eB,.string ⟨#[97]⟩,nS,.string eB,iV 2,.string eB,.string eB,nS,.string ⟨#[116]⟩] true 5);have n5:S.n=H2.n+2:=by rw[a2,i4,n4]
 have d0:d9 H2.n H2 S:=b6.trans (a4.wk oM);have O:=(c9.stay d0).here;have x5:=(a4.g H2.n oM).trans x4;have b9:Z6 S S.n (sL W.n 2 2) [evA,evT]:=by
  refine .inr ⟨W.n,0,2,rfl,.inr ⟨_,true,oM,by rw[a2];exact j7,by decide,fun i a E=>?_⟩⟩
  match i,E with
  |0,E=>
   have:evA=a:=by simpa using E
   subst this;exact⟨_,rfl,.inl ⟨rfl,rfl⟩,by decide,by decide,by decide,by decide⟩
  |1,E=>
   have:evT=a:=by simpa using E
   subst this;exact⟨_,rfl,.inl ⟨rfl,rfl⟩,by decide,by decide,by decide,by decide⟩
  |i+2,E=>simp at E
 have a6:DcR S.n [evA,evT] S (sL W.n 2 2):=⟨b9,.inr fun a e h k=>(match a,h with|0,_=>rfl|1,h=>absurd (by have:evT=e:=(by simpa using h);rw[<-this];rfl) k|_+2,h=>by simp at h),by decide,ZL,lR⟩
 have X:=aA (w10 kc S O a6 1 evT ⟨rfl,.inr rfl⟩);rw[ZV,Zt]at X;obtain⟨e2,e1,H6,J,b4,⟨G6,O6⟩,s6⟩:=Ret.one (w12 kc S O a6 0 evA ⟨rfl,.inl rfl⟩);have z0:((0:Nat):Int)=0:=rfl;have z1:((1:Nat):Int)=1:=rfl;rw[z0]at J;rw[z1]at X;have c3:(pH rS [evA,evT] 0).length=1:=by have:=congrArg List.length Xe;simpa using this
 have a3:=O6.sl dd;obtain⟨wa,wc,ew⟩:=a3.slice;rw[ew]at J a3;obtain⟨x,nb,o,cs,own,el,hx,hd,c6,d4,hg,d3,d2,hc,xp,b8,d6⟩:=a3.row (i:=0) oM;subst c6 b8;have c7:x.1=true:=by
  have:=congrArg (fun l:List Bool=>l[0]?) Xe;simp only[aaS,hx]at this
  simpa using this
 have c0:=hc 0 oM;have e0:∀z,([Value.bool x.1,z]:LV)[0]?=some (.bool x.1):=fun _=>rfl;rw[e0,aa8,aaf,c7]at c0;have b3:H.n<=H6.low:=s6.lowAll _ oM (a4.lowAll _ oM (b6.lowAll _ oM (s2.lowAll _ oM b2)));have b1:=O.l12;have a5:=O.one;have d1:u.take 12=u:=A2 oM;have b7:splice z12 0 u=u:=y7 _ _ (by rw[b1];rfl);simp only[z12]at a1 x3 b7;rw[c3]at J;rw[i8 fn6 rfl _ sM];exact J18 a7.symm c8 b5 b1 a5 b7 a1.symm x3 I.symm a2.symm x5 d1 X J b4 hg c0 b3 trivial
def Vo{l:List (Int×Int)}(h:(l.map (·.1)).Nodup){i j:Nat}{x y:Int×Int}(E:l[i]?=some x)(I:l[j]?=some y)(u:i<j):x.1≠y.1:=by
 have J:=adR.1 h;have z:=(gS E)
 have D:=(gS I)
 have:=acV.1 J i j z.1 D.1 u;rw[z.2,D.2]at this;exact this
def Yf(H0:d7)(oa:Option Addr)(oc:Nat)(O:List OcD)(ho:SlI H0 H0.n 2 (OcO H0 (· <H0.n)) (.slice oa O.length oc) O)(c4:O.length<=1000)(i:Nat)(x:OcD)(hx:O[i]?=some x)(a7:(x.2.map (·.1)).Nodup)(c5:x.2.length<=1000)(j:Nat)(y:Int×Int)(hy:x.2[j]?=some y)(U:Nat)(a1:H0.g U=cE [iV y.1,iV y.2] 1)(v1 v7:aet):
  ∀kk e H2,(∃m:Nat,kk=j-m/\m<=j/\e.g 1=v1/\e.g 7=v7/\e.g 10= .slice oa O.length oc/\e.g 11=iV i/\e.g 12=iV j/\e.g 13=pT U/\e.g 14=iV m/\H2=H0)->
  u7 (LE prog lG (.loop ZM) e H2) (fun o e H2=>o= .exit 4/\e.g 1=v1/\e.g 7=v7/\e.g 10= .slice oa O.length oc/\e.g 11=iV i/\e.g 12=iV j/\H2=H0):=by
 refine i5 _ _ ?_;rintro kk e H2 ⟨m,hk,hm,f1,f7,u,D,h,E,I,rfl⟩;rcases W:decide ((m:Int)<j)with _|_
 .refine J3 h I W ?_;exact i6 ⟨rfl,f1,f7,u,D,h,rfl⟩
 have b7:=dT W;have a6:=(gS hx).1;have b9:=(gS hy).1;obtain⟨x',nb,o,cs,own,el,J,hd,b1,c3,hg,c0,b4,hc,xp,a4,S⟩:=ho.row (i:=i) a6;rw[hx]at J;cases J;subst b1 a4;have c1:=hc 1 oM;have e1:∀z,([z,xp]:LV)[1]?=some xp:=fun _=>rfl;rw[e1]at c1;obtain⟨xa,xc,rfl⟩:=S.slf.slice;obtain⟨z,nz,oz,cz,b5,X,hz,b8,b2,b6,a5,b3,a9,a3,a2⟩:=S.slf.row (i:=m) oM;subst b2;obtain rfl:X=pkE z:=a2;have z0:=a3 0 oM;have e0:(pkE z)[0]?=some (.int .i64 z.1):=rfl;rw[e0,aaf]at z0;have a8:=Vo a7 hz hy oM;have dn:decide (z.1=y.1)=false:=kA a8;have ti:((i:Nat):Int).toNat=i:=tN i;have tm:((m:Nat):Int).toNat=m:=tN m;have di:decide (((i:Nat):Int)<O.length)=true:=yo oM;have dm:decide (((m:Nat):Int)<x.2.length)=true:=yo oM;refine J17 u D h E I W ti tm di dm hg c1 a5 z0 a1 dn @wrap_small ?_;exact d8 (kk-1) oM ⟨m+1,oM,oM,f1,f7,u,D,h,E,rfl,rfl⟩
section
variable{q:Q}{r:ReD}(kc:KdC q r){Hs:d7}{lo K:Nat}
include kc
theorem Xl{Hb:d7}(rc:RcR Hs lo K r Hb b4){l:List EvD}(dc:DcR lo l Hb v)(g7:Hb.g p7=cE b4 1)(oa:Option Addr)(oc:Nat)(O:List OcD)(ho:SlI Hb Hb.n 2 (OcO Hb (· <Hb.n)) (.slice oa O.length oc) O)(d2:O.length<=1000)(i:Nat)(x:OcD)(hx:O[i]?=some x)(hI:OcI r l x)(d5:x.2.length<=1000)(lw:Nat)(f8:lw<=Hb.n):
  ∀kk e H2,(∃j:Nat,kk=x.2.length-j/\j<=x.2.length/\e.g 1=v/\e.g 7=pT p7/\e.g 10= .slice oa O.length oc/\e.g 11=iV i/\e.g 12=iV j/\d9 Hb.n Hb H2/\lw<=H2.low)->
  u7 (LE prog lG (.loop ZN) e H2) (fun o e H2=>o= .exit 2/\e.g 1=v/\e.g 7=pT p7/\e.g 10= .slice oa O.length oc/\e.g 11=iV i/\d9 Hb.n Hb H2/\lw<=H2.low):=by
 refine i5 _ _ ?_;rintro kk e H2 ⟨j,hk,hj,f1,f7,D,E,W,hS,hl⟩;have e2:=hS.n;have c7:=(gS hx).1;obtain⟨x',nb,o,cs,own,el,a8,hd,d4,c9,hg,f6,e6,hc,xp,c5,a9⟩:=ho.row (i:=i) c7;rw[hx]at a8;cases a8;subst d4 c5;have c1:=hc 1 oM;have e1:∀z,([z,xp]:LV)[1]?=some xp:=fun _=>rfl;rw[e1]at c1;have a6:=(hS.g nb c9).trans hg;have ti:((i:Nat):Int).toNat=i:=tN i;have di:decide (((i:Nat):Int)<O.length)=true:=yo oM;obtain⟨xa,xc,S⟩:=a9.slf.slice;rw[S]at c1;rcases b0:decide ((j:Int)<x.2.length)with _|_
 .refine J8 D E W b0 ti di a6 c1 ?_;exact i6 ⟨rfl,f1,f7,D,E,hS,hl⟩
 have f2:=dT b0;have U:=a9.slf;rw[S]at U;obtain⟨y,ny,oy,cy,e7,b8,hy,f4,d6,c0,c6,e5,X,f3,c4⟩:=U.row (i:=j) oM;subst d6;obtain rfl:b8=pkE y:=c4;obtain⟨p,k,b1,f5,d3⟩:=hI.2 y (mG hy);have a7:=(hS.g ny c0).trans c6;have tj:((j:Nat):Int).toNat=j:=tN j;obtain⟨J,c3,n4,x4,b5⟩:=pushP H2 (bC [iV 0,iV 0] 1) (bC [iV y.1,iV y.2] 1);have u:d9 Hb.n Hb J:=hS.trans (b5.wk e2);have e4:splice [iV 0,iV 0] 0 [iV y.1,iV y.2]=[iV y.1,iV y.2]:=rfl;have I:=aA (Zv J lo v l (dc.stay u).low (dc.stay u).ev (oN (dc.n30)) (gd dc.beg) p);rw[yo d3]at I;have b9:=(u.g p7 (u5 g7)).trans g7;obtain⟨rs,la,lc,a1,e8,a2,e9,a3,f0,q8,q9,g0,g1,f9,g2,_⟩:=rc.form;have d1:SlI J J.n 2 (OcO J (· <J.n)) (.slice (some ⟨nb,o,none⟩) O.length oc) O:=ho.mono (fun j hj=>u.g j hj) oM (fun _ _ h=>dd _ _ _ _ _ _ h (fun j hj=>u.g j hj) (fun j hj=>oM));have c8:lw<=J.low:=b5.lowAll _ oM hl;have ep:y.1=(p:Int):=by rw[b1]
 have ek:y.2=(k:Int):=by rw[b1]
 rw[<-ep]at I;have b6:decide (y.2<0)=false:=kA oM;have b7:decide ((r.sorts.length:Int)<=y.2)=false:=kA oM;obtain⟨va,vc,a4⟩:=dc.ev.slice;rw[a4]at I;have a5:=f1;rw[a4]at a5;refine J21 a5 f7 D E W b0 ti di a6 c1 tj a7 X e4 c3.symm x4 I b6 b9 q9 b7 ?_;refine j5 (F:=fun z=>u7 (u6 (inBlock 3 (inBlock 4 z)) _) _) (Yf J _ oc O d1 d2 i x hx hI.1 d5 j y hy H2.n x4 v (pT p7) j _ _ ⟨0,rfl,aaJ _,f1,f7,D,E,W,rfl,rfl,rfl⟩) ?_;rintro o' e' H' ⟨d0,q1,q7,b2,b3,e3,rfl⟩;refine J3 d0 e3 @wrap_small ?_;exact d8 (kk-1) oM ⟨j+1,oM,oM,q1,q7,b2,b3,rfl,u,c8⟩
theorem Xm{Hb:d7}(rc:RcR Hs lo K r Hb D){l:List EvD}(dc:DcR lo l Hb v)(g7:Hb.g p7=cE D 1)(I:Option Addr)(J:Nat)(O:List OcD)(ho:SlI Hb Hb.n 2 (OcO Hb (· <Hb.n)) (.slice I O.length J) O)(a2:O.length<=1000)(hI:∀x∈O,OcI r l x) (a3:∀x∈O,x.2.length<=1000) (E:Nat) (X:E<=Hb.n):
  ∀kk e H2,(∃i:Nat,kk=O.length-i/\i<=O.length/\e.g 1=v/\e.g 7=pT p7/\e.g 10= .slice I O.length J/\e.g 11=iV i/\d9 Hb.n Hb H2/\E<=H2.low)->
  u7 (LE prog lG (.loop ZO) e H2) (fun o e H2=>o= .exit 0/\e.g 10= .slice I O.length J/\d9 Hb.n Hb H2/\E<=H2.low):=by
 refine i5 _ _ ?_;rintro kk e H2 ⟨i,hk,hi,f1,f7,h,u,hS,hl⟩;rcases S:decide ((i:Int)<O.length)with _|_
 .refine J3 h u S ?_;exact i6 ⟨rfl,h,hS,hl⟩
 have a6:=dT S;obtain⟨x,hx,_⟩:=T4 (l:=O) (i:=i) oM;have hm:=mG hx;refine J3 h u S ?_;refine j5 (F:=fun z=>u7 (u6 (inBlock 1 (inBlock 2 z)) _) _) (Xl kc rc dc g7 I J O ho a2 i x hx (hI x hm) (a3 x hm) E X x.2.length _ _ ⟨0,rfl,aaJ _,f1,f7,h,u,rfl,hS,hl⟩) ?_;rintro o' e' H' ⟨a1,q1,q7,a4,a5,U,W⟩;refine J3 a1 a5 @wrap_small ?_;exact d8 (kk-1) oM ⟨i+1,oM,oM,q1,q7,a4,rfl,U,W⟩
end
def WJ{r:ReD}{l:List EvD}(h:OcI r l o):o.2.length<=l.length:=by
 have u:∀(m:Nat){L:List Int},L.Nodup->(∀x∈L,0<=x/\x<m)->L.length<=m:=fun m L a b=>mO a b;have:=u l.length h.1 (fun x D=>by
  obtain⟨y,E,rfl⟩:=aau.1 D;obtain⟨p,k,rfl,_,z⟩:=h.2 y E;have:=Da l l.length p z;show(0:Int)<=(p:Int)/\(p:Int)<_;omega)
 simpa using this
def ZU(K:Nat)(H:d7)(lo:Nat)(cs:LV)(q:Q)(v:aet)(l:List EvD)(a1:Nat)(g6:lo<=H.n)(hr:QR H lo K false cs q)(hv:Z6 H lo v l)(hc:mq v)(hn:l.length<=1048576)(c5:a1<=255):
  CL prog lG 5 [.agg cs.toArray,v,.int .u8 a1] H=some (.bool true,none):=by
 have ac:=I5 hr;have ldc:=Q6 hr;have l0:=hr.len;simp only[qSz,bF]at l0;rw[l0]at ldc;obtain⟨va,vc,e2⟩:=hv.slice;obtain⟨X,I,n1,g1,s1⟩:=pushF H (bC cs 1);have f5:X.low=H.n:=by rw[I];rfl
 have d5:QR X lo K false cs q:=hr.mono (fun j hj=>s1.g j oM) lR;have b7:Z6 X lo v l:=hv.mono (fun j hj=>s1.g j oM) lR;have h8:=Xj X;obtain⟨t,h9,ht⟩:=Wb X lo v l oM b7 hn
 replace h9:=aA h9
 rw[i8 fn5 rfl _ sM];cases t with
 |false=>simp(maxSteps:=20000000) -dsimp (disch:=first|omega|(simp only[rH]<;>omega)|fail) only[↓jM,rQ,Q4,sevalprocAttr,tyA,ac,<-I,h8,h9]
 |true=>
  obtain⟨a2,b4,hB⟩:=ht rfl;obtain⟨vq,hq,H2,a5,E,O,t,rfl,S,D,s2,hk⟩:=Mq K X lo cs q oM d5;have n2:=s2.n;obtain⟨H3,J,n3,x3,-⟩:=pushE H2 (bC z12 1);obtain⟨H4,u⟩:=eY (H3.put H2.n (bC O 1));have n4:H4.n=H2.n+1:=by rw[u,j9,n3]
  have x4:H4.g H2.n=cE O 1:=by rw[u];exact i7 oM
  have b3:d9 H2.n H2 H4:=by rw[u,J];exact(d9.push lR).trans (d9.put lR)
  have e9:d9 X.n X H4:=s2.trans (b3.wk oM);have W:splice z12 0 O=O:=y7 _ _ (by rw[S];rfl);have c0:O.take 12=O:=A2 oM;obtain⟨k,b6⟩:=eY (a1 % l.length);have c9:k<l.length:=by rw[b6];exact Nat.mod_lt _ a2
  have h:=CV a1 l.length a2;rw[<-b6]at h;have hw:=NK c5;obtain⟨ev,he,hd⟩:=C7 c9;have c3:DcR lo l X v:=⟨b7,.inl hc,b4,hB,oM⟩
  have a8:=c3.stay e9;obtain⟨eb,eo,ec,f8,f0,el,b8,f2,b1,f3,b2,g0,f1,c8⟩:=a8.row he;have tk:((k:Nat):Int).toNat=k:=tN k;have U:H.n<=H4.low:=b3.lowAll _ oM (s2.lowAll _ oM oM);simp only[z12]at J x3 W;cases t with
  |false=>
   rw[e2]at h9 ⊢;exact J17 ac I.symm g1 ldc h8 h9 a5 E S D J.symm x3 W u.symm hw h U trivial
  |true=>
  obtain⟨Hs,r,kc,b5,e7⟩:=hk rfl;have b9:=e7.stay b3;rcases d3:decide (ev.kind=3)with _|_
  .have e3:=dF d3;have hN:bj l k ev:=⟨he,oM⟩
   obtain⟨o1,o2,o3⟩:=UD kc b5 hB (fun q=>by rw[q]at a2;simp at a2) b4 hN;obtain⟨g9,g8,H5,a4,a7,⟨G5,O5⟩,s5⟩:=Ret.one (w12 kc H4 b9 a8 k ev hN);have n5:=s5.n;have a9:=a8.stay s5;have e8:=b9.stay s5;have x5:=(s5.g H2.n oM).trans x4;have a6:H.n<=H5.low:=s5.lowAll _ oM U;have b0:=aA (um H5 lo v l a9.low a9.ev oM);rw[hB,cA rfl]at b0;have a3:=O5.sl dd;obtain⟨oa,oc,c4⟩:=a3.slice;rw[c4]at a4 a3;have g2:(pH r l k).length<=2:=Pj (WK _ _ _);subst b8;rcases dz:decide (dep 0 l=0)with _|_
   .refine J26 ac I.symm g1 ldc h8 h9 a5 E S D J.symm x3 W u.symm hw h b1 tk b2 d3 x4 c0 a4 a7 b0 dz ?_;refine j5 (F:=fun z=>t6 _ _ _ (u6 (inBlock 0 z) _)=_) (Xm kc e8 a9 x5 oa oc _ a3 oM o3 (fun x hx=>by have:=WJ (o3 x hx);omega) H.n oM (pH r l k).length _ _ ⟨0,rfl,aaJ _,rfl,rfl,rfl,rfl,d9.refl _ _,a6⟩) ?_;rintro o' e' H' ⟨d4,e6,g3,d0⟩;have dp:decide ((0:Int)<(pH r l k).length)=true:=yo oM;exact J4 d4 e6 dp d0 trivial
   .obtain⟨d1,d2⟩:=o2 (dT dz);obtain⟨x,nb,o,cs',own,f9,hx,g4,d6,g7,hg,g5,f4,c6,xp,c7,e5⟩:=a3.row (i:=0) oM;subst d6 c7;have e4:=d2 x (mG hx);have c1:=c6 1 oM;have e1:∀z,([z,xp]:LV)[1]?=some xp:=fun _=>rfl;rw[e1,aa8,aaf]at c1;obtain⟨xa,xc,rfl⟩:=e5.slf.slice;rw[e4]at c1;rw[d1]at a4;have f7:decide (((1:Nat):Int)=1)=true:=rfl;have f6:decide ((([]:List (Int×Int)).length:Int)=0)=true:=rfl;exact J29 ac I.symm g1 ldc h8 h9 a5 E S D J.symm x3 W u.symm hw h b1 tk b2 d3 x4 c0 a4 a7 b0 dz hg c1 a6 trivial
  .subst b8;exact J21 ac I.symm g1 ldc h8 h9 a5 E S D J.symm x3 W u.symm hw h b1 tk b2 d3 U trivial
def Gh(k:Nat):N9 prog (k+2) 94 (fun _ cs a=>AtR cs a):=by
 have h:=ai (P:=prog) (t:=94) Tryz.underlying94 kR (D6 (k:=2) rfl kR (pC k) (D6 (k:=1) rfl kR (zP (k+1)) (cL _)));refine h.map (fun x=>⟨x.1.1,x.1.2,x.2.1⟩) ?_ (fun _ _ _ _ _ h=>h);rintro S cs ⟨a,b,u⟩ ⟨c1,c2,rfl,⟨rfl,D,z⟩,I,J,rfl,⟨rfl,E⟩,rfl⟩;exact⟨rfl,D,z,E⟩
def Dk(k:Nat):N9 prog (k+3) 44 (fun S cs(l:List AtD)=>∃v,cs=[v]/\Sl S 3 AtR v l/\l.length<=1048576):=dI (P:=prog) (t:=44) (e:=94) (sz:=3) Tryz.underlying44 kR oM (Gh k)
def EvG(S:List Blk)(cs:LV)(e:EvD):Prop:=
 ∃v,cs=[iV e.kind,.string e.space,.string e.loc,v,.string e.text]/\Sl S 3 AtR v e.attrs/\e.space.size<=1048576/\e.loc.size<=1048576/\e.text.size<=1048576/\e.attrs.length<=1048576
def Dl(k:Nat):N9 prog (k+4) 46 (fun S cs e=>EvG S cs e):=by
 have h:=ai (P:=prog) (t:=46) Tryz.underlying46 kR (D6 (k:=1) rfl kR (uL (k+3)) (D6 (k:=2) rfl kR (pC (k+2)) (D6 (k:=1) rfl kR (Dk k) (D6 (k:=1) rfl kR (zP (k+3)) (cL _)))));refine h.map (fun x=>⟨x.1,x.2.1.1,x.2.1.2,x.2.2.1,x.2.2.2.1⟩) ?_ ?_
 .rintro S cs ⟨k,nm,O,tx,u⟩ ⟨c1,c2,rfl,⟨rfl,J⟩,c3,c4,rfl,⟨rfl,z,D⟩,c5,c6,rfl,⟨v,rfl,E,I⟩,c7,c8,rfl,⟨rfl,U⟩,rfl⟩;exact⟨v,rfl,E,z,D,U,I⟩
 .rintro S X cs e W ⟨v,J,z,E⟩;exact⟨v,J,z.mono W iF,E⟩
def RC(h:EvG S cs e):EvR ⟨S,S.length⟩ S.length cs e:=by
 obtain⟨v,u,z,D⟩:=h;exact⟨v,u,vZ z iF,D⟩
def zt(k:Nat):N9 prog (k+5) 26 (fun S cs(l:List EvD)=>∃v,cs=[v]/\Sl S 5 (EvG S) v l/\l.length<=1048576):=dI (P:=prog) (t:=26) (e:=46) (sz:=5) Tryz.underlying26 kR oM (Dl k)
def Ou{l:List EvD}(h:Sl S 5 (EvG S) v l):Z6 ⟨S,S.length⟩ S.length v l:=vZ h (fun _ _ h=>RC h)
def MO{sz:Nat}{α:Type}{R:LV->α->Prop}{l:List α}(h:Sl S sz R v l):mq v:=by
 intro a n c u;rcases h with⟨h,_⟩|⟨b,o,h,_⟩
 .rw[u]at h;cases h;exact .inl rfl
 .rw[u]at h;cases h;exact .inr rfl
end Go.Proofs.YtbekeboballbgaaGreatDoor.Ve
namespace Go.Proofs.YtbekeboballbgaaGreatDoor
open Go.ChangeShapes Go.WideShapes Go.ChangeAt Go.RowKit
open Go.Proofs.Tryz (prog)
open Go Ve card
def SP{H:Type}{enc:TypeId×aet->H}{args:Array aet}{ds gs:List (DataW H)}{N:FuncId}{F:Func}{s:ChangeSpec}(hP:F.params= #[25,26,5])(hR:F.resultTypes= #[4])(a9:s.vars=[])
  (hs:∀a b c:DataW H,s.fn H [a,b,c]={results:=[.lit (.bool true)],args:=[a,b,c]})
  (c0:∀(K:Nat)(H:d7)(lo:Nat)(cs:LV)(q:Q)(v:aet)(l:List EvD)(u:Nat),lo<=H.n->QR H lo K false cs q->Z6 H lo v l->mq v->l.length<=1048576->u<=255->CL prog lG N [.agg cs.toArray,v,.int .u8 u] H=some (.bool true,none))
  (E:∀(j:Nat) t v,F.params[j]?=some t->args[j]?=some v->Value.okWide prog W .any base t v)
  (hW:DataW.Whole enc prog F.params.toList s.vars false W args.toList ds gs S) (hk:Rows.uptoSmall H (ds++gs)=true):
  Calls prog N args W fun e W'=>∃v,e= .returned v/\s.post enc prog F false true false false W args v W':=by
 have b4:=hW;obtain⟨p,q,hA,hV,rfl,d3,d4⟩:=hW;rw[hP]at hA E;rw[a9]at hV;obtain⟨v0,d5,d0,c5,p0,q0,b5,rfl,rfl,h0,r0⟩:=trodAll_cons hA;obtain⟨v1,d6,d1,c6,p1,q1,rfl,rfl,rfl,h1,r1⟩:=trodAll_cons r0;obtain⟨v2,e1,d2,c7,p2,q2,rfl,rfl,rfl,h2,r2⟩:=trodAll_cons r1;obtain⟨rfl,rfl,rfl⟩:=trodAll_nil r2;obtain rfl:args= #[v0,v1,v2]:=by cases args;simp_all
 obtain⟨rfl,rfl⟩:=trodVars_none hV;obtain⟨a0,rfl,_⟩:=okWide_struct Tryz.underlying25 (E 0 25 v0 rfl rfl);obtain⟨a1,I,D,rfl⟩:=okWide_slice Tryz.underlying26 (E 1 26 v1 rfl rfl);have k0:=h0;have c3:∀x∈p0,x.block<W.heap.size:=by obtain⟨m,hm⟩:=h0;exact DataW.trod_lt m _ _ _ hm
 have k1:=h1;have c4:∀x∈p1,x.block<W.heap.size:=by obtain⟨m,hm⟩:=h1;exact DataW.trod_lt m _ _ _ hm
 obtain⟨O,rfl,rfl,rfl,w2⟩:=open_int Tryz.underlying5 (E 2 5 v2 rfl rfl) h2;have b9:0<=O/\O<=255:=by simpa [Lit.wf,IntKind.min,IntKind.max,IntKind.signed,IntKind.bits] using w2
 have hb:Rows.uptoBulk d0<=1048576/\Rows.uptoBulk d1<=1048576:=by
  have h:Rows.uptoBulkAll ([d0,d1,.lit (.int .u8 O)]++[])<=1048576:=dT hk;simp only[Rows.uptoBulkAll,aax,aat]at h;omega
 obtain⟨z,b6⟩:=h0;obtain⟨φ0,S0,x0,q,c8,c9,a6,a3,_,b3⟩:=(pD (z+1)).1.2 enc W z oM _ d0 p0 b6 hb.1 [] [] (JM W);obtain⟨J,b7⟩:=h1;obtain⟨φ1,S1,x1,l,a5,b2,a7,b1,_,v,rfl,b0,a8⟩:=(zt J).2 enc W J oM _ d1 p1 b7 hb.2 φ0 S0 a6;have X:=c0 _ ⟨S1,S1.length⟩ S1.length x0 q v l O.toNat lR (VZ ((pD (z+1)).1.1 _ _ _ _ b2 b3)) (Ou b0) (MO b0) a8 oM;rw[abE b9.1]at X;have b8:VR φ1 v (.slice a1 I D):=by have:=b1.2 0 v (.slice a1 I D) rfl (by simp [Value.cells]);exact this
 have U:VRs φ1 [.agg x0.toArray,v,.int .u8 O] [.agg a0,.slice a1 I D,.int .u8 O]:= .cons (.agg (by simpa [Value.cells] using (a3.mono a5).1) (by simpa [Value.cells] using (a3.mono a5).2)) (.cons b8 (.cons (.int _ _) (.nil φ1)));refine(EI kR LJ a7 U X).mono fun e W'⟨he,a4⟩=>?_;subst he;have e:s.fn H ([d0,d1,.lit (.int .u8 O)]++[])={results:=[.lit (.bool true)],args:=[d0,d1,.lit (.int .u8 O)]}:=hs _ _ _;have a:DataW.TrodAll enc prog W' 0 (fun b=>decide (b<W.heap.size)) true [25,26,5] [.agg a0,.slice a1 I D,.int .u8 O] [d0,d1,.lit (.int .u8 O)] _:=aec (Below.trod CG kR (dT kR) k0 a4 c3) (aec (Below.trod CG kR (dT kR) k1 a4 c4) (aec (shut_int Tryz.underlying5 w2) trodAll_mk0));exact⟨_,rfl,_,_,_,[],_,[],b4,by rw[hR,e];exact trodAll_mk1 (shut_bool Tryz.underlying4 _),by rw[hP,e];exact a,by rw[a9,e];rfl,a4.frame _,fun h=>by cases h⟩
def Ji{nm:String}{N:FuncId}{F:Func}(z:prog.funcNamed nm=some N)(D:prog.funcs[N]?=some F)(E:F.params.toList.all (fun t=> !prog.wantsStandIn t)=true) (I:prog.looks []=false) (f:FuncId) (u:Func) (J:prog.funcNamed nm=some f) (h:prog.funcs[f]?=some u):
  false=prog.looks []/\∀(j:Nat) t,u.params[j]?=some t->prog.wantsStandIn t=false:=by
 obtain rfl:=aal (z.symm.trans J);obtain rfl:=aal (D.symm.trans h);refine⟨I.symm,fun j t O=>?_⟩
 simpa using List.all_eq_true.1 E t (by simpa using Array.mem_of_getElem? O)
end Go.Proofs.YtbekeboballbgaaGreatDoor
namespace Go.Proofs.YtbekeboballbgaaGreatDoor.viewDone
open Go.ChangeShapes Go.WideShapes Go.ChangeAt Go.RowKit
open Go.Proofs.Tryz (prog)
open Go Ve card
abbrev RS:Array aet:= #[Oc,.slice none 0 0,.int .u8 0]
def SL(h:Os):laidMet prog Ut ((ju h).forCall (fun _ _=>0) ⟨#[],RS,[]⟩).memory:=
 laidMet_of_run' 8 kR kR
def Ya(u:Os){H:Type}(enc:TypeId×aet->H):∃h,DataW.whole enc prog ((ju u).forCall (fun _ _=>0) ⟨#[],RS,[]⟩).memory [25,26,5] [] false RS.toList 8=some ([.agg [.lit (.int .i64 0),.nil,.nil],.nil,.lit (.int .u8 0)],[],h):=
 ⟨[],kR⟩
def Qc(D:Os)(h:D.Started)(H:Type)(enc:TypeId×aet->H)(F:Stop.Interp):
  ReturnsInHanded {} Tryz.checked D 5 .any ((Rows.OpenSpec.upto Rows.viewDoneSpec).preRow enc prog Tryz.f5 Rows.viewDoneUptoRow.domain false Rows.viewDoneUptoRow.laid) (((Rows.OpenSpec.upto Rows.viewDoneSpec).at F).post enc prog Tryz.f5 false true false false):=by
 obtain⟨I,S⟩:=Ya D enc;refine returnsInHanded_of_row (C:=Tryz.checked) (s:=Rows.OpenSpec.upto Rows.viewDoneSpec) own h kR Tryz.func5
  (witness_row_at (enc:=enc) (C:=Tryz.checked) false (ju D) RS rfl kR kR kR
   (OpenSpec.preRow_of_cond 8 S kR (fun k O=>by cases O;kernel_rfl) kR (SL D))) ?_
 intro W base args ds U E z J _ u _ X _ _;exact SP Tryz.params5 rfl rfl (fun _ _ _=>rfl) ZU z J (u _ rfl)
def Wc:Rows.ViewDoneUptoSaid:=
 OpenClaim.holds_of_cond 5 Tryz.f5 rfl rfl rfl rfl rfl rfl rfl ⟨rfl,rfl,rfl,rfl,rfl⟩ rfl rfl rfl rfl rfl kR Tryz.func5 kR
  (dT kR) (by unfold Func.isWrapper;first|(rw[cA (by decide+kernel)];kernel_rfl)|(rw[bt (by decide+kernel)];exact⟨rfl,rfl⟩))
  (fun u h H enc _ F=>by rw[OpenClaim.pre_eq_preRow];exact Qc u h H enc F)
def cardUpto:Rows.ViewDoneUptoCardSaid:=
 Claim7.holds_tied_plain_at .later [] _ _ _ _ Wc (fun _ h=>by cases h) kR (fun _ h=>by cases h) viewDoneUpto_row_tie rfl ⟨rfl,rfl⟩ kR rfl (Ji kR Tryz.func5 kR kR) kR
end Go.Proofs.YtbekeboballbgaaGreatDoor.viewDone
namespace Go.Proofs.YtbekeboballbgaaGreatDoor
open Go Go.RowKit
open Go.Proofs.Tryz (prog)
theorem viewDone_holds:Rows.ViewDoneUptoCardSaid:=viewDone.cardUpto
end Go.Proofs.YtbekeboballbgaaGreatDoor
