/- A part of the claim: the evaluator and the contracts. Conditions: none here. -/
import Derived.Test.YtbekeboballbgaaGreatDoorPb
set_option linter.unusedVariables false
set_option linter.unusedSimpArgs false
set_option linter.defProp false
set_option maxHeartbeats 0
set_option autoImplicit true
set_option relaxedAutoImplicit true
set_option maxRecDepth 1000000
namespace Go.Proofs.YtbekeboballbgaaGreatDoor
open Go Go.RowKit
def aat:=@List.nil_append
def aaT:=@List.foldl_nil
def aaV:=@List.foldl_append
def aaX:=@List.append_assoc
def aaY:=@List.mem_flatMap
def aa3:=@List.any_eq_true
def abu:=@List.flatMap_nil
def abF:=@List.drop_succ_cons
def abG:=@Int.le_refl
def aca:=@List.nodup_cons
def acf:=@List.any_cons
def acy:=@List.take_zero
def acD:=@List.length_zip
def acT:=@List.map_nil
def ac1:=@dif_neg
def adp:=@List.append_cons
def ad1:=@List.any_nil
def ad2:=@Prod.ext_iff
end Go.Proofs.YtbekeboballbgaaGreatDoor
namespace Go.Proofs.YtbekeboballbgaaGreatDoor.Ve
open Go Go.RowKit
open Go.Proofs.Tryz (prog)
def M6(s:aes)(i n:Nat):Int:=if n=1 then A4 s i else oK s i n
def mS(s:aes)(i n:Nat):Bool:=decide ((P3 (M6 s i n)).length=n)&&Bj s i (P3 (M6 s i n))
def QD(h:(P3 r).length=1):0<=r/\r<128/\P3 r=[r]:=by
 unfold P3 at h ⊢;split at h
 .simp at h
 .rename_i c;rw[bt c];split at h
  next c1=>rw[cA c1];exact⟨oM,c1,rfl⟩
  .split at h
   .simp at h
   .split at h<;>simp at h
def QE(h:(P3 r).length=2):128<=r/\r<2048/\P3 r=[192+r / 64,128+r % 64]:=by
 unfold P3 at h ⊢;split at h
 .simp at h
 .rename_i c;rw[bt c];split at h
  .simp at h
  .rename_i c1;rw[bt c1];split at h
   next c2=>rw[cA c2];exact⟨oM,c2,rfl⟩
   .split at h<;>simp at h
def QF(h:(P3 r).length=3):2048<=r/\r<65536/\¬(55296<=r/\r<=57343)/\P3 r=[224+r / 4096,128+r / 64 % 64,128+r % 64]:=by
 unfold P3 at h ⊢;split at h
 .simp at h
 .rename_i c;rw[bt c];split at h
  .simp at h
  .rename_i c1;rw[bt c1];split at h
   .simp at h
   .rename_i c2;rw[bt c2];split at h
    next u=>rw[cA u];exact⟨oM,u,oM,rfl⟩
    .simp at h
def QH(h:(P3 r).length=4):65536<=r/\r<=1114111/\P3 r=[240+r / 262144,128+r / 4096 % 64,128+r / 64 % 64,128+r % 64]:=by
 unfold P3 at h ⊢;split at h
 .simp at h
 .rename_i c;rw[bt c];split at h
  .simp at h
  .rename_i c1;rw[bt c1];split at h
   .simp at h
   .rename_i c2;rw[bt c2];split at h
    .simp at h
    next u=>rw[bt u];exact⟨oM,oM,rfl⟩
def yC{s:aes}:Bj s i l=true↔l≠ []/\i+l.length<=s.size/\iB s i l=true:=by simp [Bj,and_assoc]
def E0{s:aes}{b:Int}:iB s k (b::r)=true↔A4 s k=b/\iB s (k+1) r=true:=by
 rw[iB];split
 next h=>simp [h]
 next h=>simp [h]
def Mr(s:aes)(i n:Nat)(h1:1<=n)(h4:n<=4)(h:mS s i n=true):0<=M6 s i n/\i+n<=s.size/\dec s i=some ((M6 s i n).toNat,n):=by
 rw[mS,gk,xo]at h;obtain⟨D,u⟩:=h;rw[yC,D]at u;obtain⟨_,I,u⟩:=u;have q0:=aB s i;have q1:=aB s (i+1);have q2:=aB s (i+2);have q3:=aB s (i+3);have e0:=an s i;have e1:=an s (i+1);have e2:=an s (i+2);have e3:=an s (i+3);obtain rfl|rfl|rfl|rfl:n=1\/n=2\/n=3\/n=4:=oM
 .obtain⟨E,O,z⟩:=QD D;have J:M6 s i 1=A4 s i:=rfl;rw[J]at E O ⊢;refine⟨E,I,?_⟩;rw[dec,cA oM,e0,aay]
 .obtain⟨E,O,z⟩:=QE D;rw[z,E0,E0]at u;obtain⟨U,p1,_⟩:=u;have J:M6 s i 2=(A4 s i-192)*64+(A4 s (i+1)-128):=rfl;generalize M6 s i 2=v at*;have c1:V6 s (i+1)=true:=L9.2 ⟨oM,oM⟩;refine⟨oM,I,?_⟩;rw[dec,bt oM,cA oM,cA ⟨c1,oM⟩]
  congr 2;omega
 .obtain⟨E,O,X,z⟩:=QF D;rw[z,E0,E0,E0]at u;obtain⟨U,p1,p2,_⟩:=u;have S:A4 s (i+2)=128+M6 s i 3 % 64:=p2;have J:M6 s i 3=((A4 s i-224)*64+(A4 s (i+1)-128))*64+(A4 s (i+2)-128):=rfl;generalize M6 s i 3=v at*;have c1:V6 s (i+1)=true:=L9.2 ⟨oM,oM⟩;have c2:V6 s (i+2)=true:=L9.2 ⟨oM,oM⟩;refine⟨oM,I,?_⟩;rw[dec,bt oM,bt oM,cA oM,cA ⟨c1,c2,oM,oM⟩]
  congr 2;omega
 .obtain⟨E,O,z⟩:=QH D;rw[z,E0,E0,E0,E0]at u;obtain⟨U,p1,p2,p3,_⟩:=u;have S:A4 s (i+2)=128+M6 s i 4 / 64 % 64:=p2;have a1:A4 s (i+3)=128+M6 s i 4 % 64:=p3;have J:M6 s i 4=(((A4 s i-240)*64+(A4 s (i+1)-128))*64+(A4 s (i+2)-128))*64+(A4 s (i+3)-128):=rfl;generalize M6 s i 4=v at*;have c1:V6 s (i+1)=true:=L9.2 ⟨oM,oM⟩;have c2:V6 s (i+2)=true:=L9.2 ⟨oM,oM⟩;have W:V6 s (i+3)=true:=L9.2 ⟨oM,oM⟩;refine⟨oM,I,?_⟩;rw[dec,bt oM,bt oM,bt oM,cA oM,cA ⟨c1,c2,W,oM,oM⟩]
  congr 2;omega
def vd(s:aes)(i c n:Nat)(hi:i<s.size)(h:dec s i=some (c,n)):1<=n/\n<=4/\i+n<=s.size/\mS s i n=true/\M6 s i n=(c:Int):=by
 have q0:=aB s i;have q1:=aB s (i+1);have q2:=aB s (i+2);have q3:=aB s (i+3);have e0:=an s i;have e1:=an s (i+1);have e2:=an s (i+2);have e3:=an s (i+3);have ok:∀(n:Nat)(l:List Int),P3 (M6 s i n)=l->l≠ []->l.length=n->i+n<=s.size->iB s i l=true->mS s i n=true:=by
  intro n l O S U W z;rw[mS,O,gk,xo,yC,U];exact⟨rfl,S,W,z⟩
 unfold dec at h;split at h
 .cases h;rename_i O;have E:M6 s i 1=A4 s i:=rfl;refine⟨oM,oM,oM,ok 1 [A4 s i] ?_ sM rfl oM (E0.2 ⟨rfl,rfl⟩),by rw[E,e0]⟩;rw[E,P3,bt oM,cA oM]
 .rename_i O;split at h
  .rename_i S;split at h
   next U=>cases h;obtain⟨X,u⟩:=L9.1 U.1;have E:M6 s i 2=(A4 s i-192)*64+(A4 s (i+1)-128):=rfl;have D:M6 s i 2=((bAt s i % 32*64+bAt s (i+1) % 64:Nat):Int):=oM;generalize hw:M6 s i 2=v at*;refine⟨oM,oM,oM,ok 2 [192+v / 64,128+v % 64] ?_ sM rfl oM (E0.2 ⟨oM,E0.2 ⟨oM,rfl⟩⟩),D⟩;rw[hw,P3,bt oM,bt oM,cA oM]
   .cases h
  .rename_i S;split at h
   .rename_i W;split at h
    next z=>cases h;obtain⟨X,u⟩:=L9.1 z.1;obtain⟨g2,J⟩:=L9.1 z.2.1;have E:M6 s i 3=((A4 s i-224)*64+(A4 s (i+1)-128))*64+(A4 s (i+2)-128):=rfl;have D:M6 s i 3=((bAt s i % 16*4096+bAt s (i+1) % 64*64+bAt s (i+2) % 64:Nat):Int):=oM;have a2:=z.2.2;generalize hw:M6 s i 3=v at*;refine⟨oM,oM,oM,ok 3 [224+v / 4096,128+v / 64 % 64,128+v % 64] ?_ sM rfl oM (E0.2 ⟨oM,E0.2 ⟨oM,E0.2 ⟨by show A4 s (i+2)=_;omega,rfl⟩⟩⟩),D⟩;rw[hw,P3,bt oM,bt oM,bt oM,cA oM]
    .cases h
   .rename_i W;split at h
    .rename_i h6;split at h
     next I=>cases h;obtain⟨X,u⟩:=L9.1 I.1;obtain⟨g2,J⟩:=L9.1 I.2.1;obtain⟨g3,a1⟩:=L9.1 I.2.2.1;have a3:=I.2.2.2;have E:M6 s i 4=(((A4 s i-240)*64+(A4 s (i+1)-128))*64+(A4 s (i+2)-128))*64+(A4 s (i+3)-128):=rfl;have D:M6 s i 4=((bAt s i % 8*262144+bAt s (i+1) % 64*4096+bAt s (i+2) % 64*64+bAt s (i+3) % 64:Nat):Int):=oM;generalize hw:M6 s i 4=v at*;refine⟨oM,oM,oM,ok 4 [240+v / 262144,128+v / 4096 % 64,128+v / 64 % 64,128+v % 64] ?_ sM rfl oM (E0.2 ⟨oM,E0.2 ⟨oM,E0.2 ⟨by show A4 s (i+2)=_;omega,E0.2 ⟨by show A4 s (i+3)=_;omega,rfl⟩⟩⟩⟩),D⟩;rw[hw,P3,bt oM,bt oM,bt oM,bt oM]
     .cases h
    .cases h
def Jz(H:d7)(s:aes)(i:Nat)(o:Out)(e:Env)(H2:d7):Prop:=
 H.n<=H2.low/\d9 H.n H H2/\((o= .exit 0/\dec s i=none/\e.g 0= .string s/\e.g 1=iV i)\/(o= .ret/\∃c n:Nat,dec s i=some (c,n)/\e.g 4=iV c/\e.g 5=iV n/\e.g 6=iV 0))
def FD(H:d7)(s:aes)(i:Nat)(hi:i<s.size)(hz:s.size<=1048576):∀k e H2,(∃n:Nat,k=5-n/\1<=n/\n<=5/\(∀m,1<=m->m<n->i+m<=s.size->mS s i m=false)/\e.g 0= .string s/\e.g 1=iV i/\e.g 7=iV n/\d9 H.n H H2/\H.n<=H2.low)->
  u7 (LE prog l7 (.loop OO) e H2) (Jz H s i):=by
 refine i5 _ _ ?_;rintro k e H2 ⟨n,hk,h1,h5,S,D,E,X,hS,hl⟩;have u:(∀m,1<=m->m<=4->i+m<=s.size->mS s i m=false)->dec s i=none:=by
  intro a3;cases hd:dec s i with
  |none=>rfl
  |some q=>
   obtain⟨c,m⟩:=q;obtain⟨m1,m4,ms,mo,_⟩:=vd s i c m hi hd;rw[a3 m m1 m4 ms]at mo;cases mo
 rcases U:decide ((n:Int)<=4)with _|_
 .have hb:=dF U;refine J4 D E X U ?_;exact i6 ⟨hl,hS,.inl ⟨rfl,u fun m a b c=>S m a oM c,D,E⟩⟩
 have a8:=dT U;rcases b2:decide ((i:Int)+n<=s.size)with _|_
 .have hb:=dF b2;refine J6 D E X U b2 @wrap_small ?_;exact i6 ⟨hl,hS,.inl ⟨rfl,u fun m a b c=>S m a oM c,D,E⟩⟩
 have a9:=dT b2;have nt:(i:Int).toNat=i:=tN i;have q0:=R5 s i;have a2:=hS.n;have qv:=Bk s i n;have O:∀e':Env,e'.g 0= .string s->e'.g 1=iV i->e'.g 7=iV n->e'.g 8=iV (M6 s i n)->u7 (u6 (inBlock 1 (LE prog l7 UO e' H2)) (LE prog l7 Xx)) (bD k (fun k e H2=>∃n:Nat,k=5-n/\1<=n/\n<=5/\(∀m,1<=m->m<n->i+m<=s.size->mS s i m=false)/\e.g 0= .string s/\e.g 1=iV i/\e.g 7=iV n/\d9 H.n H H2/\H.n<=H2.low) (Jz H s i)):=by
  intro e' g0 g1 g7 g8;obtain⟨w,h,H3,hc,hh,hO,I⟩:=CU H2 (M6 s i n);have a1:d9 H.n H H3:=hS.trans (I.wk a2);have a4:H.n<=H3.low:=I.lowAll _ a2 hl;have b0:(P3 (M6 s i n)).length<=4:=by unfold P3;split<;>(try split)<;>(try split)<;>(try split)<;>simp
  have z:=rg H3 H2.n s i (P3 (M6 s i n)) w hO oM oM oM;obtain⟨a,c,rfl⟩:=hO.slice;have en:decide (((P3 (M6 s i n)).length:Int)=n)=decide ((P3 (M6 s i n)).length=n):=aaR.2 oM;have J:mS s i n=false->∀e2:Env,e2.g 0= .string s->e2.g 1=iV i->e2.g 7=iV ((n:Int)+1)->bD k (fun k e H2=>∃n:Nat,k=5-n/\1<=n/\n<=5/\(∀m,1<=m->m<n->i+m<=s.size->mS s i m=false)/\e.g 0= .string s/\e.g 1=iV i/\e.g 7=iV n/\d9 H.n H H2/\H.n<=H2.low) (Jz H s i) .normal e2 H3:=fun a5 e2 k0 k1 k7=>
   d8 (k-1) oM ⟨n+1,oM,oM,oM,fun m a b c=>by
    by_cases hm:m=n
    .rw[hm];exact a5
    .exact S m a oM c,k0,k1,k7,a1,a4⟩
  rw[UO];rcases W:decide ((P3 (M6 s i n)).length=n)with _|_
  .refine J9 g0 g1 g7 g8 hc hh en W @wrap_small ?_;exact J (by rw[mS,W];rfl) _ g0 g1 rfl
  .rcases b4:Bj s i (P3 (M6 s i n))with _|_
   .rw[b4]at z;refine J10 g0 g1 g7 g8 hc hh en W z @wrap_small ?_;exact J (by rw[mS,W,b4];rfl) _ g0 g1 rfl
   .rw[b4]at z;obtain⟨r0,_,rd⟩:=Mr s i n h1 oM (by rw[mS,W,b4];rfl);refine J10 g0 g1 g7 g8 hc hh en W z @wrap_small ?_;refine w9 ⟨a4,a1,.inr ⟨rfl,_,n,rd,?_,rfl,rfl⟩⟩;rw[abE r0];rfl
 rcases b5:decide (1<(n:Int))with _|_
 .have a6:=dF b5;have a7:n=1:=oM;refine J8 D E X U b2 b5 @wrap_small nt ?_;exact O _ D E X (by rw[M6,cA a7];rfl)
 .have a6:=dT b5;have hv:=mT H2 s i n oM oM oM oM;refine J9 D E X U b2 b5 @wrap_small nt hv ?_;exact O _ D E X (by rw[M6,bt oM];rfl)
def Jm(H:d7)(s:aes)(i:Nat)(hi:i<s.size)(O:s.size<=1048576):(∀c n,dec s i=some (c,n)->CL prog l7 124 [.string s,iV i] H=some (.tuple #[iV c,iV n,iV 0],none))/\(dec s i=none->∃q:Int,q≠0/\CL prog l7 124 [.string s,iV i] H=some (.tuple #[iV 0,iV 0,iV q],none)):=by
 have S:decide ((i:Int)<0)=false:=kA oM;have U:decide ((s.size:Int)<=i)=false:=kA oM;rw[i8 HM rfl _ sM];refine J2 S U ?_;refine j5 (F:=fun z=>(∀c n,dec s i=some (c,n)->t6 _ _ _ (u6 (inBlock 0 z) _)=some (.tuple #[iV c,iV n,iV 0],none))/\(dec s i=none->∃q:Int,q≠0/\t6 _ _ _ (u6 (inBlock 0 z) _)=some (.tuple #[iV 0,iV 0,iV q],none))) (FD H s i hi O 4 _ _ ⟨1,rfl,oM,oM,fun m a b=>oM,rfl,rfl,rfl,d9.start H,lR⟩) ?_;rintro o e' H' ⟨hl,hS,⟨D,u,E,I⟩|⟨D,c,n,u,W,X,h6⟩⟩
 .refine⟨fun c n h=>(by rw[u]at h;cases h),fun _=>?_⟩;obtain⟨t,J⟩:=Mt H' s i oM O;cases t with
  |true=>
   refine⟨7,by decide,?_⟩;exact J4 D E I J trivial
  |false=>
   refine⟨2,by decide,?_⟩;exact J4 D E I J trivial
 .refine⟨fun c' n' h=>?_,fun h=>(by rw[u]at h;cases h)⟩;rw[u]at h;cases h;exact J4 D W X h6 trivial
def jr{s:aes}{i c n:Nat}(u:i<s.size)(h:dec s i=some (c,n)):1<=n/\i+n<=s.size:=⟨(vd s i c n u h).1,(vd s i c n u h).2.2.1⟩
def tz{s:aes}{i c n:Nat}(h:dec s i=some (c,n)):c<=2097152:=by
 have:=aB s i;unfold dec at h;split at h
 .cases h;omega
 .split at h
  .split at h
   .cases h;omega
   .cases h
  .split at h
   .split at h
    .cases h;omega
    .cases h
   .split at h
    .split at h
     .cases h;omega
     .cases h
    .cases h
def rLs(s:aes)(i:Nat):List Int:=
 if h:i<s.size then
  match hd:dec s i with
  |some (c,n)=>(c:Int)::rLs s (i+n)
  |none=>[]
 else []
termination_by s.size-i
decreasing_by have:=jr h hd;omega
def ze(s:aes)(i:Nat):Bool:=
 if h:i<s.size then
  match hd:dec s i with
  |some (c,n)=>ze s (i+n)
  |none=>false
 else true
termination_by s.size-i
decreasing_by have:=jr h hd;omega
def qZ{s:aes}{i c n:Nat}(z:i<s.size)(h:dec s i=some (c,n)):rLs s i=(c:Int)::rLs s (i+n):=by
 rw[rLs,ab0 z];split
 next D E u=>rw[h]at u;cases u;rfl
 next u=>rw[h]at u;cases u
def jc{s:aes}(h:i<s.size->dec s i=none):rLs s i=[]:=by
 rw[rLs];split
 .rename_i z;split
  next D E u=>rw[h z]at u;cases u
  .rfl
 .rfl
def mR{s:aes}{i c n:Nat}(z:i<s.size)(h:dec s i=some (c,n)):ze s i=ze s (i+n):=by
 rw[ze,ab0 z];split
 next D E u=>rw[h]at u;cases u;rfl
 next u=>rw[h]at u;cases u
def mQ{s:aes}(z:i<s.size)(h:dec s i=none):ze s i=false:=by
 rw[ze,ab0 z];split
 next D E u=>rw[h]at u;cases u
 .rfl
def yB{s:aes}(h:s.size<=i):ze s i=true:=by rw[ze,ac1 oM]
def JU(s:aes):∀k i,s.size-i=k->(ww s i=0↔ze s i=true):=by
 intro k;induction k using Nat.strongRecOn with
 |ind k E=>
  intro i I;by_cases u:i<s.size
  .rw[ww,ab0 u];obtain⟨D,z⟩:=FU s i u;cases h:dec s i with
   |none=>
    rw[ac1 (z h),mQ u h];have:=z h;simp [this]
   |some q=>
    obtain⟨c,n⟩:=q;have e:=D c n h;obtain⟨p1,p2⟩:=jr u h;rw[ab0 (by rw[e]),e,mR u h];simp only[aay];exact E (s.size-(i+n)) oM (i+n) rfl
  .rw[ww,ac1 u,yB oM];simp
def GN(f:Int->Bool)(s:aes):∀k i,s.size-i=k->ze s i=true->xf f s i=(rLs s i).all f:=by
 intro k;induction k using Nat.strongRecOn with
 |ind k D=>
  intro i E h;by_cases u:i<s.size
  .cases z:dec s i with
   |none=>rw[mQ u z]at h;cases h
   |some q=>
    obtain⟨c,n⟩:=q;obtain⟨p1,p2⟩:=jr u z;rw[mR u z]at h;rw[xf,ab0 u,Ru s i u c n z,qZ u z,aaE,<-D (s.size-(i+n)) oM (i+n) rfl h];simp only;cases f c<;>simp
  .rw[xf,ac1 u,jc (fun q=>absurd q u)];rfl
def FW(s:aes):X0 s=((rLs s 0).all kS&&ze s 0):=by
 rw[X0];have h:=JU s _ 0 rfl;cases u:ze s 0 with
 |true=>rw[yo (h.2 u),GN kS s _ 0 rfl u];simp
 |false=>
  have:¬ww s 0=0:=fun q=>by rw[h.1 q]at u;cases u
  rw[kA this];simp
def iu(n:Int):aet:= .int .i32 n
def vV(s:aes)(H:d7)(hs:s.size<=1048576)(L:List Int)(t:Bool):∀k e H2,(∃(i:Nat)(v:aet)(l:List Int),k=s.size-i/\i<=s.size/\l.length<=i/\e.g 0= .string s/\e.g 5=v/\e.g 6=iV i/\aP H2 H.n 1 v l.length (l.map iu)/\d9 H.n H H2/\H.n<=H2.low/\l++rLs s i=L/\ze s i=t)->
  u7 (LE prog l7 (.loop YX) e H2) (fun o e H2=>∃(a:Int)(v:aet),aP H2 H.n 1 v L.length (L.map iu)/\d9 H.n H H2/\H.n<=H2.low/\((o= .exit 0/\t=true/\e.g 5=v/\e.g 6=iV a)\/(o= .ret/\t=false/\e.g 2=v/\e.g 3=iV a/\∃q:Int,q≠0/\e.g 4=iV q))):=by
 refine i5 _ _ ?_;rintro k e H2 ⟨i,v,l,hk,hi,a5,O,U,S,W,E,hl,D,z⟩;rcases J:decide ((i:Int)<s.size)with _|_
 .have a2:=dF J;refine J3 O S J ?_;rw[jc (fun q=>oM),aaq]at D;rw[yB oM]at z;exact i6 ⟨i,v,by rw[<-D];exact W,E,hl,.inl ⟨rfl,z.symm,U,S⟩⟩
 .have a2:=dT J;have h:i<s.size:=oM;obtain⟨r1,r2⟩:=Jm H2 s i h hs;cases u:dec s i with
  |none=>
   obtain⟨q,hq,hc⟩:=r2 u;have a3:decide (q=0)=false:=kA hq;refine J6 O U S J hc a3 ?_;rw[jc (fun _=>u),aaq]at D;rw[mQ h u]at z;exact w9 ⟨i,v,by rw[<-D];exact W,E,hl,.inr ⟨rfl,z.symm,rfl,rfl,q,hq,rfl⟩⟩
  |some q=>
   obtain⟨c,n⟩:=q;obtain⟨p1,p2⟩:=jr h u;have a4:=tz u;have hc:=r1 c n u;have hw:IntKind.wrap .i32 (c:Int)=c:=eN oM oM;obtain⟨v',H3,ha,X,I⟩:=zC (P:=prog) (t:=161) Wr.2.2.2.2.2.2 JT.1 JT.2.1 JT.2.2.1 oM oM (W.push (bC [.int .i32 c] 1)) (c:=H2.n) (m:=1) (k:=1) (el:=[.int .i32 c]) j7 oM sM oM (by rw[i4];have:=E.n;omega);have a1:=(E.trans (d9.push (B:= .cells [.int .i32 c] true 1) E.n)).trans I;refine J8 O U S J hc hw ha @wrap_small ?_;rw[qZ h u]at D;rw[mR h u]at z;refine d8 (k-n) oM ⟨i+n,v',l++[(c:Int)],oM,oM,by simp;omega,O,rfl,rfl,?_,a1,I.low hl,by rw[<-D];simp,z⟩;have e1:(l++[(c:Int)]).length=l.length+1:=sM;have e2:(l++[(c:Int)]).map iu=l.map iu++[.int .i32 c]:=by simp [iu]
   rw[e1,e2];exact X
def Ms(H:d7)(s:aes)(hs:s.size<=1048576):Ret (CL prog l7 93 [.string s] H) H fun w I=>∃(v:aet)(a q:Int),w= .tuple #[v,iV a,iV q]/\decide (q=0)=ze s 0/\aP I H.n 1 v (rLs s 0).length ((rLs s 0).map iu)/\d9 H.n H I:=by
 rw[i8 VG rfl _ sM];refine J1 @if_true.{1} ?_;refine j5 (F:=fun z=>Ret (t6 _ _ _ (u6 (inBlock 0 z) _)) _ _) (vV s H hs (rLs s 0) (ze s 0) s.size _ _ ⟨0,_,[],rfl,oM,by simp,rfl,rfl,rfl,.inl ⟨rfl,rfl,rfl⟩,d9.start H,lR,rfl,rfl⟩) ?_;rintro o e' H' ⟨a,v,h,J,O,⟨D,E,h5,h6⟩|⟨D,E,U,W,q,S,X⟩⟩
 .refine J3 D h5 h6 ?_;rw[E];exact bG (fun u=>⟨v,a,0,rfl,rfl,h.na (by simpa using u),d9.refl _ _⟩) ⟨v,a,0,rfl,rfl,h.low _,J.ret O⟩
 .refine J4 D U W X ?_;rw[E];exact bG (fun u=>⟨v,a,q,rfl,kA S,h.na (by simpa using u),d9.refl _ _⟩) ⟨v,a,q,rfl,kA S,h.low _,J.ret O⟩
def FO(H0:d7)(lo:Nat)(a:Option Addr)(c:Nat)(q:Int)(l:List Int)(hn:l.length<=1048576)(hr:∀x∈l,-2147483648<=x/\x<=2147483647) (hv:aP H0 lo 1 (.slice a l.length c) l.length (l.map iu)) (r:Bool):
  ∀k e H2,(∃i:Nat,k=l.length-i/\i<=l.length/\e.g 3= .slice a l.length c/\e.g 5=iV q/\e.g 6=iV i/\H2=H0/\(l.drop i).all kS=r)->
  u7 (LE prog l7 (.loop Si) e H2) (fun o e H2=>H2=H0/\((o= .exit 0/\r=true/\e.g 5=iV q)\/(o= .ret/\e.g 2= .bool false/\r=false))):=by
 refine i5 _ _ ?_;rintro k e H2 ⟨i,hk,hi,u,I,D,W,h⟩;subst W;rcases b:decide ((i:Int)<l.length)with _|_
 .have E:=dF b;have:l.drop i=[]:=dN oM;rw[this,abQ]at h;refine J3 u D b ?_;exact i6 ⟨rfl,.inl ⟨rfl,h.symm,I⟩⟩
 .have E:=dT b;rcases hv with⟨_,h0,_⟩|⟨nb,U,O,_,_⟩
  .omega
  obtain⟨rfl,rfl⟩:a=some ⟨nb,0,none⟩/\c=l.length+1:=by simpa using U
  obtain⟨x,S,X⟩:=C7 (l:=l) (i:=i) oM;have a1:=hr x (mG S);rw[X,aaE]at h;have nt:(i:Int).toNat=i:=tN i;have J:(l.map iu)[i]?=some (.int .i32 x):=by rw[aaS,S];rfl
  rcases z:kS x with _|_
  .rw[z]at h;refine J9 u D b O @wrap_small @aaK J @yH z ?_;exact w9 ⟨rfl,.inr ⟨rfl,rfl,by rw[<-h];rfl⟩⟩
  .rw[z]at h;refine J9 u D b O @wrap_small @aaK J @yH z ?_;exact d8 (k-1) oM ⟨i+1,oM,oM,u,I,rfl,rfl,by rw[<-h];rfl⟩
def Fu(s:aes):∀k i,s.size-i=k->(rLs s i).length<=s.size-i/\∀x∈rLs s i,-2147483648<=x/\x<=2147483647:=by
 intro k;induction k using Nat.strongRecOn with
 |ind k I=>
  intro i O;by_cases u:i<s.size
  .cases h:dec s i with
   |none=>rw[jc (fun _=>h)];simp
   |some q=>
    obtain⟨c,n⟩:=q;obtain⟨p1,p2⟩:=jr u h;have E:=tz h;obtain⟨J,D⟩:=I (s.size-(i+n)) oM (i+n) rfl;rw[qZ u h];refine⟨by rw[A1];omega,fun x z=>?_⟩;rcases aam.1 z with rfl|z
    .omega
    .exact D x z
  .rw[jc (fun q=>absurd q u)];simp
def I4(H:d7)(s:aes)(hs:s.size<=1048576):CL prog l7 55 [.string s] H=some (.bool (X0 s),none):=by
 obtain⟨w,h,I,hc,hh,v,a,q,rfl,hq,O,hS⟩:=Ms ⟨H.bs,H.n⟩ s hs;have u:=O;obtain⟨S,cv,rfl⟩:=O.ownC.slice;have a1:H.n<=I.low:=hS.low lR;obtain⟨f1,U⟩:=Fu s _ 0 rfl;rw[i8 TW rfl _ sM,FW];refine J2 hc hh ?_;refine j5 (F:=fun z=>t6 _ _ _ (u6 (inBlock 0 z) _)=_) (FO I H.n S cv q (rLs s 0) oM U u ((rLs s 0).all kS) (rLs s 0).length _ _ ⟨0,rfl,oM,rfl,rfl,rfl,rfl,rfl⟩) ?_;rintro o e' H' ⟨J,⟨D,E,X⟩|⟨D,W,E⟩⟩
 .exact J5 D J X hq E trivial
 .exact J4 D J W E trivial
def dLs(s:aes)(i:Nat):List Int:=
 if h:i<s.size then((Utf8.decode s i).1:Int)::dLs s (i+(Utf8.decode s i).2) else []
termination_by s.size-i
decreasing_by have:=aE s i;omega
def vg(s:aes)(i:Nat):(Utf8.decode s i).1<=2097152:=by
 unfold Utf8.decode;simp only;split
 .omega
 .split
  .split
   .simp only;omega
   .simp [Utf8.runeError]
  .split
   .split
    .simp only;omega
    .simp [Utf8.runeError]
   .split
    .split
     .simp only;omega
     .simp [Utf8.runeError]
    .simp [Utf8.runeError]
def Ec(s:aes):∀k i,s.size-i=k->(dLs s i).length<=s.size-i/\∀x∈dLs s i,-2147483648<=x/\x<=2147483647:=by
 intro k;induction k using Nat.strongRecOn with
 |ind k z=>
  intro i I;rw[dLs];split
  .rename_i E;have J:=aE s i;have O:=vg s i;obtain⟨D,u⟩:=z (s.size-(i+(Utf8.decode s i).2)) oM (i+(Utf8.decode s i).2) rfl;refine⟨by rw[A1];omega,fun x h=>?_⟩;rcases aam.1 h with rfl|h
   .omega
   .exact u x h
  .simp
def BE(s:aes):∀b i(h:Array aet),s.size-i<=b->(Conv.runesFrom s b i h).toList=h.toList++(dLs s i).map iu:=by
 intro b;induction b with
 |zero=>
  intro i h z;rw[dLs,ac1 oM];simp [Conv.runesFrom]
 |succ b D=>
  intro i h z;rw[Conv.runesFrom,dLs];by_cases u:i<s.size
  .have E:=aE s i;rw[cA u,ab0 u];simp only;rw[D _ _ oM];simp [iu]
  .rw[bt u,ac1 u];simp
def zY(H:d7)(s:aes):aU prog H 9 161 (.string s)=some (sL H.n (dLs s 0).length ((dLs s 0).length+1),some (H.push (.cells ((dLs s 0).map iu) true 1))):=by
 have h:=BE s s.size 0 #[] oM;have u:(Conv.runesFrom s s.size 0 #[]).size=(dLs s 0).length:=by rw[<-ab3,h];simp
 simp only[aU,Wr,ty9,JT,u,h];simp
def yu(s:aes):∀k i,s.size-i=k->0<i->iZ s i=(dLs s i).all jN:=by
 intro k;induction k using Nat.strongRecOn with
 |ind k u=>
  intro i D h;rw[iZ,dLs];split
  next z=>have E:=aE s i;rw[aaE,<-u (s.size-(i+(Utf8.decode s i).2)) oM (i+(Utf8.decode s i).2) rfl oM,kA (show¬i=0 from oM)];cases jN (Utf8.decode s i).1<;>simp
  .rfl
def uv{s:aes}:s.size=0↔s=eB:=by
 constructor
 .intro h;obtain⟨d⟩:=s;have:d= #[]:=Array.size_eq_zero_iff.1 h;rw[this];rfl
 .intro h;rw[h];rfl
def aG:List Int->Bool
 |[]=>false
 |x::_=>gh x
def zh(s:aes):jm s=(aG (dLs s 0)&&(dLs s 0).all jN):=by
 rw[jm];by_cases u:s.size=0
 .have h:=uv.1 u;rw[dLs,ac1 oM,yo h];simp [aG]
 .have h:¬s=eB:=fun q=>u (uv.2 q);have z:=aE s 0;rw[dLs,ab0 oM,iZ,ab0 oM,kA h,aaE,aG,<-yu s _ (0+(Utf8.decode s 0).2) rfl oM];cases gh (Utf8.decode s 0).1<;>cases jN (Utf8.decode s 0).1<;>simp
def Bg(H0:d7)(S:Nat)(l:List Int)(hn:l.length<=1048576)(X:∀x∈l,-2147483648<=x/\x<=2147483647) (J:H0.g S=cE (l.map iu) 1) (r:Bool):
  ∀k e H2,(∃i:Nat,k=l.length-i/\i<=l.length/\e.g 3=sL S l.length (l.length+1)/\e.g 4=iV i/\H2=H0/\(l.drop i).all jN=r)->
  u7 (LE prog l7 (.loop YY) e H2) (fun o e H2=>H2=H0/\((o= .exit 0/\r=true)\/(o= .ret/\e.g 2= .bool false/\r=false))):=by
 refine i5 _ _ ?_;rintro k e H2 ⟨i,hk,hi,u,D,U,h⟩;subst U;rcases b:decide ((i:Int)<l.length)with _|_
 .have E:=dF b;have:l.drop i=[]:=dN oM;rw[this,abQ]at h;refine J3 u D b ?_;exact i6 ⟨rfl,.inl ⟨rfl,h.symm⟩⟩
 .have E:=dT b;obtain⟨x,O,W⟩:=C7 (l:=l) (i:=i) oM;have a1:=X x (mG O);rw[W,aaE]at h;have nt:(i:Int).toNat=i:=tN i;have I:(l.map iu)[i]?=some (.int .i32 x):=by rw[aaS,O];rfl
  rcases z:jN x with _|_
  .rw[z]at h;refine J9 u D b J @wrap_small @aaK I @yI z ?_;exact w9 ⟨rfl,.inr ⟨rfl,rfl,by rw[<-h];rfl⟩⟩
  .rw[z]at h;refine J9 u D b J @wrap_small @aaK I @yI z ?_;exact d8 (k-1) oM ⟨i+1,oM,oM,u,rfl,rfl,by rw[<-h];rfl⟩
def U8(H:d7)(s:aes)(hs:s.size<=1048576):CL prog l7 95 [.string s] H=some (.bool (jm s),none):=by
 obtain⟨f1,W⟩:=Ec s _ 0 rfl;have hz:d7.n ⟨H.bs,H.n⟩=H.n:=rfl;rw[i8 VH rfl _ sM,zh];have I:d7.g (d7.push ⟨H.bs,H.n⟩ (.cells ((dLs s 0).map iu) true 1)) H.n=some (.cells ((dLs s 0).map iu) true 1):=j7;have cv:aU prog ⟨H.bs,H.n⟩ 9 161 (.string s)=some (sL H.n (dLs s 0).length ((dLs s 0).length+1),some (d7.push ⟨H.bs,H.n⟩ (.cells ((dLs s 0).map iu) true 1))):=zY ⟨H.bs,H.n⟩ s;generalize dLs s 0=l at*;have u:decide ((l.length:Int)=0)=decide (l=[]):=aaR.2 (by rw[<-aag];omega);rcases D:decide (l=[])with _|_
 .have J:=dF D;obtain⟨x,m,E⟩:=List.exists_cons_of_ne_nil J;have a3:=W x (by rw[E];simp);have a2:(0:Int)<(l.length:Int):=by rw[E];simp only[A1];omega
  have hc:(l.map iu)[0]?=some (.int .i32 x):=by rw[E];rfl
  have h:aG l=gh x:=by rw[E,aG]
  rw[h];rcases U:gh x with _|_
  .exact J8 cv u D I hc @wrap_small @I9 U trivial
  .refine J8 cv u D I hc @wrap_small @I9 U ?_;refine j5 (F:=fun z=>t6 _ _ _ (u6 (inBlock 0 z) _)=_) (Bg _ H.n l oM W I (l.all jN) l.length _ _ ⟨0,rfl,oM,rfl,rfl,rfl,rfl⟩) ?_;have a1:H.n<=(d7.push ⟨H.bs,H.n⟩ (bC (l.map iu) 1)).low:=lR;rintro o e' H' ⟨X,⟨O,S⟩|⟨O,h2,S⟩⟩
   .exact J3 O S X trivial
   .exact J4 O h2 S X trivial
 .have he:=dT D;have h:aG l=false:=by rw[he,aG]
  rw[h];exact J3 cv u D trivial
def Q8(H:d7)(a b:aes)(D:a.size<=1048576)(E:b.size<=1048576):CL prog l7 56 [.agg #[.string a,.string b]] H=some (.bool (cn a b),none):=by
 rw[i8 Vs rfl _ sM];rw[cn];rcases h:jm b with _|_
 .exact J3 @U8 @I4 h trivial
 rcases u:X0 b with _|_
 .exact J4 @U8 @I4 h u trivial
 rcases z:X0 a with _|_
 .exact J5 @U8 @I4 h u z trivial
 refine J5 @U8 @I4 h u z ?_;rfl
def lj(s x:aes)(i:Nat):Int:=
 if h:i+x.size<=s.size/\i<=s.size then(if s.extract i (i+x.size)=x then(i:Int) else lj s x (i+1)) else -1
termination_by s.size+1-i
def BH{P:Program}(H:d7)(t:TypeId)(s:aes)(i j:Nat)(z:P.underlying t=some .string)(h:i<=j)(u:j<=s.size):L5 P H t (.string s) (some (.int .i64 i)) (some (.int .i64 j)) none=some (.string (s.extract i j)):=by
 simp only[L5,z,bnd,ac7,aab,aay];rw[cA ⟨h,u⟩]
def En(H0:d7)(s x:aes)(hs:s.size<=1048576)(hx:x.size<=1048576)(r:Int):
  ∀k e H2,(∃i:Nat,k=s.size+1-i/\i<=s.size+1/\e.g 0= .string s/\e.g 2= .string x/\e.g 7=iV i/\H2=H0/\lj s x i=r)->
  u7 (LE prog l7 (.loop Pd) e H2) (fun o e H2=>H2=H0/\((o= .exit 0/\r= -1)\/(o= .ret/\e.g 6=iV r))):=by
 refine i5 _ _ ?_;rintro k e H2 ⟨i,X,W,D,E,I,O,h⟩;have U:H0=H0:=rfl;subst O;rcases b:decide ((i:Int)+x.size<=s.size)with _|_
 .have S:=dF b;rw[lj,ac1 oM]at h;refine J5 D E I @wrap_small b ?_;exact i6 ⟨rfl,.inl ⟨rfl,h.symm⟩⟩
 have S:=dT b;rw[lj,ab0 oM]at h;have u:=BH (P:=prog) H2 9 s i (i+x.size) (by simp [ty9]) oM oM;have J:((i+x.size:Nat):Int)=(i:Int)+x.size:=oM;rw[J]at u;rcases z:decide (s.extract i (i+x.size)=x)with _|_
 .rw[bt (dF z)]at h;refine J7 D E I @wrap_small b u z ?_;exact d8 (k-1) oM ⟨i+1,oM,oM,D,E,rfl,rfl,h⟩
 .rw[cA (dT z)]at h;refine J7 D E I @wrap_small b u z ?_;exact w9 ⟨rfl,.inr ⟨rfl,by rw[<-h];rfl⟩⟩
def fN(H:d7)(s x:aes)(I:s.size<=1048576)(J:x.size<=1048576):CL prog l7 141 [.string s,iV 0,.string x] H=some (.int .i64 (lj s x 0),none):=by
 rw[i8 Nr rfl _ sM];refine J1 ty3 ?_;refine j5 (F:=fun z=>t6 _ _ _ (u6 (inBlock 0 z) _)=_) (En ⟨H.bs,H.n⟩ s x I J (lj s x 0) (s.size+1) _ _ ⟨0,rfl,oM,rfl,rfl,rfl,rfl,rfl⟩) ?_;rintro o e' H' ⟨u,⟨h,E⟩|⟨h,D⟩⟩
 .exact J3 h u E trivial
 .exact J3 h u D trivial
def om:aes:=⟨#[104,116,116,112,58,47,47,119,119,119,46,119,51,46,111,114,103,47,50,48,48,48,47,120,109,108,110,115,47]⟩
def qNamed(sp lc:aes):Bool:= !decide (sp=om)&&jm lc&&X0 lc&&X0 sp&&decide (lj sp ⟨#[123]⟩ 0<0)&&decide (lj sp ⟨#[125]⟩ 0<0)
def Bu(H:d7)(a b:aes)(J:a.size<=1048576)(O:b.size<=1048576):CL prog l7 107 [.agg #[.string a,.string b]] H=some (.bool (qNamed a b),none):=by
 have S:(⟨#[123]⟩:aes).size<=1048576:=by decide
 have U:(⟨#[125]⟩:aes).size<=1048576:=by decide
 rw[i8 Tc rfl _ sM];rw[qNamed];rcases u:decide (a=om)with _|_
 .rcases z:jm b with _|_
  .have h:=u;rw[om]at h;exact J5 @U8 @I4 @fN h z trivial
  rcases D:X0 b with _|_
  .have h:=u;rw[om]at h;exact J6 @U8 @I4 @fN h z D trivial
  rcases E:X0 a with _|_
  .have h:=u;rw[om]at h;exact J7 @U8 @I4 @fN h z D E trivial
  rcases I:decide (lj a ⟨#[123]⟩ 0<0)with _|_
  .have h:=u;rw[om]at h;exact J8 @U8 @I4 @fN h z D E I trivial
  have h:=u;rw[om]at h;exact J8 @U8 @I4 @fN h z D E I trivial
 .have h:=u;rw[om]at h;exact J4 @U8 @I4 @fN h trivial
def lst(f:Bool)(o:Int):Int:=if f then(if o=8 then 1 else if o=9\/o=10 then 2 else 0) else(if o=4\/o=5 then 2 else if o=6 then 1 else 0)
def mst(f:Bool)(o:Int):Int:=if f then(if o=8 then 1 else if o=9\/o=10 then 64 else 0) else(if o=4\/o=5 then 64 else if o=6 then 1 else 0)
def okN(op s least most:Int)(na nb:Nat):Bool:=decide (least<=na)&&decide ((na:Int)<=most)&&(decide (op=s)==decide (nb=1))&&decide (nb<=1)
def vp(op:Int):Bool:=decide (4<=op)&&decide (op<=6)
def Ih(op:Int):Bool:=decide (op=6)||decide (op=7)
def ja(hn:Bool)(sp lc:aes):Bool:=(hn== !(decide (sp=eB)&&decide (lc=eB)))&&(!hn||qNamed sp lc)
def qP(hv:Bool)(op:Int)(vl:aes):Bool:=(hv||decide (vl=eB))&& !(decide (op=7)&&decide (vl=eB))&&X0 vl
def dv(f:Bool)(q:Q):Bool:=if f then decide (q.op<=11)&&ja (vp q.op) q.sp q.lc&&qP (Ih q.op) q.op q.vl else decide (q.op<=7)
def okQ:Nat->Bool->Q->Bool
 |0,_,_=>false
 |d+1,f,q=>decide (1<=q.op)&&dv f q&&okN q.op (if f then 11 else 7) (lst f q.op) (mst f q.op) q.a.length q.b.length&&q.a.all (okQ d f)&&q.b.all (okQ d !f)
def kI(fn:Nat)(f:Bool)(d:Nat):Prop:=∀(k:Nat)(H:d7)(lo:Nat)(cs:LV)(q:Q),lo<=H.n->QR H lo k f cs q->CL prog l7 fn [.agg cs.toArray,iV d] H=some (.bool (okQ d f q),none)
def IS(d:Nat)(a2:d<=64)(ih:kI 36 false d)(k:Nat)(H0:d7)(lo:Nat)(va:Option Addr)(ca:Nat)(l:List Q)(a1:lo<=H0.n)(hv:QsR H0 lo k false (.slice va l.length ca) l)(hn:l.length<=1048576)(J:Nat)(cl:LV)(S:H0.g J=cE cl 1)(W:cl[1]?=some (.slice va l.length ca))(r:Bool):
  ∀kk e H2,(∃i:Nat,kk=l.length-i/\i<=l.length/\e.g 1=iV ((d:Int)+1)/\e.g 2=pT J/\e.g 7=iV i/\H2=H0/\(l.drop i).all (okQ d false)=r)->
  u7 (LE prog l7 (.loop YA) e H2) (fun o e H2=>H2=H0/\((o= .exit 0/\e.g 1=iV ((d:Int)+1)/\e.g 2=pT J/\r=true)\/(o= .ret/\e.g 4= .bool false/\r=false))):=by
 refine i5 _ _ ?_;rintro kk e H2 ⟨i,hk,hi,D,E,O,hH,z⟩;subst hH;rcases b:decide ((i:Int)<l.length)with _|_
 .have U:=dF b;have:l.drop i=[]:=dN oM;rw[this]at z;refine J6 D E O S W b ?_;exact i6 ⟨rfl,.inl ⟨rfl,D,E,z.symm⟩⟩
 have U:=dT b;obtain⟨x,nb,o,cs,own,el,hx,hd,rfl,a4,X,a3,h,hr⟩:=hv.row (i:=i) oM;have nt:(i:Int).toNat=i:=tN i;rw[hd,aaE]at z;simp only[qSz,aab,bF]at h X;have u:=ih k H2 lo el x a1 hr;have I:(d:Int)+1-1=d:=oM;rcases b2:okQ d false x with _|_
 .rw[b2]at u z;refine J12 D E O S W b X nt h @wrap_small I u ?_;exact w9 ⟨rfl,.inr ⟨rfl,rfl,by rw[<-z];rfl⟩⟩
 .rw[b2]at u z;refine J12 D E O S W b X nt h @wrap_small I u ?_;exact d8 (kk-1) oM ⟨i+1,oM,oM,D,E,rfl,rfl,z⟩
def IT(d:Nat)(a2:d<=64)(ih:kI 72 true d)(k:Nat)(H0:d7)(lo:Nat)(va:Option Addr)(ca:Nat)(l:List Q)(a1:lo<=H0.n)(hv:QsR H0 lo k true (.slice va l.length ca) l)(hn:l.length<=1048576)(J:Nat)(cl:LV)(S:H0.g J=cE cl 1)(W:cl[4]?=some (.slice va l.length ca))(r:Bool):
  ∀kk e H2,(∃i:Nat,kk=l.length-i/\i<=l.length/\e.g 1=iV ((d:Int)+1)/\e.g 2=pT J/\e.g 9=iV i/\H2=H0/\(l.drop i).all (okQ d true)=r)->
  u7 (LE prog l7 (.loop SA) e H2) (fun o e H2=>H2=H0/\((o= .exit 0/\e.g 1=iV ((d:Int)+1)/\e.g 2=pT J/\r=true)\/(o= .ret/\e.g 4= .bool false/\r=false))):=by
 refine i5 _ _ ?_;rintro kk e H2 ⟨i,hk,hi,D,E,O,hH,z⟩;subst hH;rcases b:decide ((i:Int)<l.length)with _|_
 .have U:=dF b;have:l.drop i=[]:=dN oM;rw[this]at z;refine J6 D E O S W b ?_;exact i6 ⟨rfl,.inl ⟨rfl,D,E,z.symm⟩⟩
 have U:=dT b;obtain⟨x,nb,o,cs,own,el,hx,hd,rfl,a4,X,a3,h,hr⟩:=hv.row (i:=i) oM;have nt:(i:Int).toNat=i:=tN i;rw[hd,aaE]at z;simp only[qSz,aab,bF]at h X;have u:=ih k H2 lo el x a1 hr;have I:(d:Int)+1-1=d:=oM;rcases b2:okQ d true x with _|_
 .rw[b2]at u z;refine J12 D E O S W b X nt h @wrap_small I u ?_;exact w9 ⟨rfl,.inr ⟨rfl,rfl,by rw[<-z];rfl⟩⟩
 .rw[b2]at u z;refine J12 D E O S W b X nt h @wrap_small I u ?_;exact d8 (kk-1) oM ⟨i+1,oM,oM,D,E,rfl,rfl,z⟩
def IU(d:Nat)(a6:d<=64)(b7:kI 36 false d)(b8:kI 72 true d)(k:Nat)(H0:d7)(lo:Nat)(va wa:Option Addr)(ca a4:Nat)(a b:List Q)(a7:lo<=H0.n)(h1:QsR H0 lo k false (.slice va a.length ca) a)(h2:QsR H0 lo k true (.slice wa b.length a4) b)(b0:a.length<=1048576)(c4:b.length<=1048576)
  (bl:Nat) (cl:LV) (S:H0.g bl=cE cl 1) (op:Int) (O:cl[0]?=some (.int .i64 op)) (U:cl[1]?=some (.slice va a.length ca)) (D:cl[2]?=some (.slice wa b.length a4)) (h u:Int) (e:Env) (f1:e.g 1=iV ((d:Int)+1)) (f2:e.g 2=pT bl) (fL:e.g 5=iV h) (fM:e.g 6=iV u):
  u7 (LE prog l7 WE e H0) (fun o e H2=>H2=H0/\o= .ret/\e.g 4= .bool (okN op 7 h u a.length b.length&&a.all (okQ d false)&&b.all (okQ d true))):=by
 have a2:∀x y:Bool,I3 prog .neq 4 (.bool x) (.bool y)=some (.bool (!(x==y))):=fun x y=>dJ 4 x y ty4.2.2.2.2.2.2.1;rw[WE,okN];rcases b1:decide (h<=a.length)with _|_
 .have E:decide ((a.length:Int)<h)=true:=by have:=dF b1;exact yo oM
  exact J8 f1 f2 fL fM S U D E trivial
 have E:decide ((a.length:Int)<h)=false:=by have:=dT b1;exact kA oM
 rcases b2:decide ((a.length:Int)<=u)with _|_
 .have I:decide (u<(a.length:Int))=true:=by have:=dF b2;exact yo oM
  exact J9 f1 f2 fL fM S U D E I trivial
 have I:decide (u<(a.length:Int))=false:=by have:=dT b2;exact kA oM
 have e1:decide ((b.length:Int)=1)=decide (b.length=1):=aaR.2 oM;rcases b3:(decide (op=7)==decide (b.length=1))with _|_
 .exact J13 f1 f2 fL fM S O U D E I a2 e1 b3 trivial
 rcases b4:decide (b.length<=1)with _|_
 .have X:decide ((1:Int)<b.length)=true:=by have:=dF b4;exact yo oM
  exact J14 f1 f2 fL fM S O U D E I a2 e1 b3 X trivial
 have X:decide ((1:Int)<b.length)=false:=by have:=dT b4;exact kA oM
 have b9:=dT b4;refine J14 f1 f2 fL fM S O U D E I a2 e1 b3 X ?_;refine j5 (F:=fun z=>u7 (u6 (inBlock 0 z) _) _) (IS d a6 b7 k H0 lo va ca a a7 h1 b0 bl cl S U (a.all (okQ d false)) a.length _ _ ⟨0,rfl,oM,f1,f2,rfl,rfl,rfl⟩) ?_;rintro o e' H' ⟨rfl,⟨ho,g1,g2,hr⟩|⟨ho,g4,hr⟩⟩
 .have b6:(d:Int)+1-1=d:=oM;rcases b5:decide (b.length=0)with _|_
  .have a5:=dF b5;have a1:decide ((b.length:Int)=0)=false:=kA oM;have a9:b.length=1:=oM;obtain⟨x,nb,o,cs,own,el,hx,hd,rfl,c3,hg,c0,W,hR⟩:=h2.row (i:=0) oM;have a3:b=[x]:=by
    obtain⟨y,rfl⟩:=aa2.1 a9
    simpa using hx
   simp only[qSz,aab,bF,aby,abd,aa8,aaf]at W hg;have a8:=b8 k H' lo el x a7 hR;have J:b.all (okQ d true)=okQ d true x:=by rw[a3];simp
   rw[hr,J];exact J13 ho g1 g2 S O U D a1 hg W @wrap_small b6 a8 trivial
  .have a5:=dT b5;have a1:decide ((b.length:Int)=0)=true:=yo oM;have a3:b=[]:=aag.1 a5;have J:b.all (okQ d true)=true:=by rw[a3];rfl
   rw[hr,J];exact J8 ho g1 g2 S O U D a1 trivial
 .rw[hr];exact J2 ho g4 trivial
def IV(d:Nat)(a6:d<=64)(b7:kI 72 true d)(b8:kI 36 false d)(k:Nat)(H0:d7)(lo:Nat)(va wa:Option Addr)(ca a4:Nat)(a b:List Q)(a7:lo<=H0.n)(h1:QsR H0 lo k true (.slice va a.length ca) a)(h2:QsR H0 lo k false (.slice wa b.length a4) b)(b0:a.length<=1048576)(c4:b.length<=1048576)
  (bl:Nat) (cl:LV) (S:H0.g bl=cE cl 1) (op:Int) (O:cl[0]?=some (.int .i64 op)) (U:cl[4]?=some (.slice va a.length ca)) (D:cl[5]?=some (.slice wa b.length a4)) (h u:Int) (e:Env) (f1:e.g 1=iV ((d:Int)+1)) (f2:e.g 2=pT bl) (fL:e.g 7=iV h) (fM:e.g 8=iV u):
  u7 (LE prog l7 WF e H0) (fun o e H2=>H2=H0/\o= .ret/\e.g 4= .bool (okN op 11 h u a.length b.length&&a.all (okQ d true)&&b.all (okQ d false))):=by
 have a2:∀x y:Bool,I3 prog .neq 4 (.bool x) (.bool y)=some (.bool (!(x==y))):=fun x y=>dJ 4 x y ty4.2.2.2.2.2.2.1;rw[WF,okN];rcases b1:decide (h<=a.length)with _|_
 .have E:decide ((a.length:Int)<h)=true:=by have:=dF b1;exact yo oM
  exact J8 f1 f2 fL fM S U D E trivial
 have E:decide ((a.length:Int)<h)=false:=by have:=dT b1;exact kA oM
 rcases b2:decide ((a.length:Int)<=u)with _|_
 .have I:decide (u<(a.length:Int))=true:=by have:=dF b2;exact yo oM
  exact J9 f1 f2 fL fM S U D E I trivial
 have I:decide (u<(a.length:Int))=false:=by have:=dT b2;exact kA oM
 have e1:decide ((b.length:Int)=1)=decide (b.length=1):=aaR.2 oM;rcases b3:(decide (op=11)==decide (b.length=1))with _|_
 .exact J13 f1 f2 fL fM S O U D E I a2 e1 b3 trivial
 rcases b4:decide (b.length<=1)with _|_
 .have X:decide ((1:Int)<b.length)=true:=by have:=dF b4;exact yo oM
  exact J14 f1 f2 fL fM S O U D E I a2 e1 b3 X trivial
 have X:decide ((1:Int)<b.length)=false:=by have:=dT b4;exact kA oM
 have b9:=dT b4;refine J14 f1 f2 fL fM S O U D E I a2 e1 b3 X ?_;refine j5 (F:=fun z=>u7 (u6 (inBlock 0 z) _) _) (IT d a6 b7 k H0 lo va ca a a7 h1 b0 bl cl S U (a.all (okQ d true)) a.length _ _ ⟨0,rfl,oM,f1,f2,rfl,rfl,rfl⟩) ?_;rintro o e' H' ⟨rfl,⟨ho,g1,g2,hr⟩|⟨ho,g4,hr⟩⟩
 .have b6:(d:Int)+1-1=d:=oM;rcases b5:decide (b.length=0)with _|_
  .have a5:=dF b5;have a1:decide ((b.length:Int)=0)=false:=kA oM;have a9:b.length=1:=oM;obtain⟨x,nb,o,cs,own,el,hx,hd,rfl,c3,hg,c0,W,hR⟩:=h2.row (i:=0) oM;have a3:b=[x]:=by
    obtain⟨y,rfl⟩:=aa2.1 a9
    simpa using hx
   simp only[qSz,aab,bF,aby,abd,aa8,aaf]at W hg;have a8:=b8 k H' lo el x a7 hR;have J:b.all (okQ d false)=okQ d false x:=by rw[a3];simp
   rw[hr,J];exact J13 ho g1 g2 S O U D a1 hg W @wrap_small b6 a8 trivial
  .have a5:=dT b5;have a1:decide ((b.length:Int)=0)=true:=yo oM;have a3:b=[]:=aag.1 a5;have J:b.all (okQ d false)=true:=by rw[a3];rfl
   rw[hr,J];exact J8 ho g1 g2 S O U D a1 trivial
 .rw[hr];exact J2 ho g4 trivial
def AY(d:Int)(sp lc:aes)(a2:sp.size<=1048576)(a1:lc.size<=1048576)(z:d7)(X:Nat)(cl:LV)(U:z.g X=cE cl 1)(W:ldC (some true) (some 2) 1 cl=some (.agg #[.string sp,.string lc]))(J hv:Bool)(e:Env)(D:e.g 1=iV d)(E:e.g 2=pT X)(S:e.g 5= .bool J)(I:e.g 6= .bool hv):
  (ja J sp lc=false/\∃e',LE prog l7 UQ e z=some (.ret,e',z)/\e'.g 4= .bool false)\/(ja J sp lc=true/\∃e',LE prog l7 UQ e z=LE prog l7 Pa e' z/\e'.g 1=iV d/\e'.g 2=pT X/\e'.g 6= .bool hv):=by
 have h:∀x y:Bool,I3 prog .neq 4 (.bool x) (.bool y)=some (.bool (!(x==y))):=fun x y=>dJ 4 x y ty4.2.2.2.2.2.2.1;rw[UQ,ja];rcases O:(J== !(decide (sp=eB)&&decide (lc=eB)))with _|_
 .refine J9 D E S I @D4 U W h O ?_;exact .inl ⟨_,rfl,rfl⟩
 rcases J with _|_
 .refine J9 D E S I @D4 U W h O ?_;exact .inr ⟨_,rfl,D,E,I⟩
 have u:=Bu z sp lc a2 a1;rcases b2:qNamed sp lc with _|_
 .rw[b2]at u;refine J10 D E S I @D4 U W h O u ?_;exact .inl ⟨_,rfl,rfl⟩
 .rw[b2]at u;refine J10 D E S I @D4 U W h O u ?_;exact .inr ⟨_,rfl,D,E,I⟩
def Ff(d op:Int)(vl:aes)(hq:vl.size<=1048576)(u:d7)(E:Nat)(J:LV)(hb:u.g E=cE J 1)(O:J[0]?=some (.int .i64 op))(S:J[3]?=some (.string vl))(I:Bool)(e:Env)(U:e.g 1=iV d)(W:e.g 2=pT E)(f6:e.g 6= .bool I):
  (qP I op vl=false/\∃e',LE prog l7 Pa e u=some (.ret,e',u)/\e'.g 4= .bool false)\/(qP I op vl=true/\∃e',LE prog l7 Pa e u=LE prog l7 UR e' u/\e'.g 1=iV d/\e'.g 2=pT E):=by
 rw[Pa,qP];have X:=I4 u vl hq;have key:∀(t:Bool),X0 vl=t->∀(z:Bool),decide (vl=eB)=z->∀(D:Bool),decide (op=7)=D->∀h:Bool,h=I->
   (((h||z)&& !(D&&z)&&t)=false/\∃e',LE prog l7 Pa e u=some (.ret,e',u)/\e'.g 4= .bool false)\/(((h||z)&& !(D&&z)&&t)=true/\∃e',LE prog l7 Pa e u=LE prog l7 UR e' u/\e'.g 1=iV d/\e'.g 2=pT E):=by
  intro t h1 z h2 D h3 h h4;subst h4;rw[h1]at X;rw[Pa];cases h<;>cases z<;>cases D<;>cases t<;>(simp(maxSteps:=20000000) -dsimp (disch:=first|omega|(simp only[rH]<;>omega)|fail) only[↓jM,rQ,Q4,sevalprocAttr,tyA,U,W,f6,hb,O,S,h2,h3,X])<;>first|exact .inl ⟨_,rfl,rfl⟩|exact .inr ⟨_,rfl,U,W⟩
 exact key _ rfl _ rfl _ rfl _ rfl
def VX(d:Nat)(a1:d<=64)(a4:kI 36 false d)(a5:kI 72 true d):kI 36 false (d+1):=by
 intro k H lo cs q a7 hr;cases k with
 |zero=>exact hr.elim
 |succ k=>
 obtain⟨va,ca,wa,O,rfl,h1,h2,h3,h4⟩:=hr.path;have e1:((d+1:Nat):Int)=(d:Int)+1:=oM;rw[i8 Zn rfl _ sM,okQ,dv,e1];have U:decide ((d:Int)+1=0)=false:=kA oM;obtain⟨W,u,-,S,hS⟩:=pushF H (bC [iV q.op,.slice va q.a.length ca,.slice wa q.b.length O] 1);have a6:H.n<=W.low:=by rw[u,l9];exact lR
 have hn:=hS.n;have a2:QsR W lo k false (.slice va q.a.length ca) q.a:=h1.mono (fun j hj=>hS.g j oM) lR;have a3:QsR W lo k true (.slice wa q.b.length O) q.b:=h2.mono (fun j hj=>hS.g j oM) lR;rcases b1:decide (1<=q.op)with _|_
 .have h:decide (q.op<1)=true:=by have:=dF b1;exact yo oM
  exact J4 u.symm S U h trivial
 have h:decide (q.op<1)=false:=by have:=dT b1;exact kA oM
 rcases b2:decide (q.op<=7)with _|_
 .have D:decide (7<q.op)=true:=by have:=dF b2;exact yo oM
  exact J7 u.symm S U h D @abp @abi trivial
 have D:decide (7<q.op)=false:=by have:=dT b2;exact kA oM
 have I:∀(e:Env),e.g 1=iV ((d:Int)+1)->e.g 2=pT H.n->e.g 5=iV (lst false q.op)->e.g 6=iV (mst false q.op)->
   t6 prog [.tmp 4] H (LE prog l7 WE e W)=some (.bool (okN q.op 7 (lst false q.op) (mst false q.op) q.a.length q.b.length&&q.a.all (okQ d false)&&q.b.all (okQ d !false)),none):=by
  intro e f1 f2 f5 f6;refine j5 (F:=fun z=>t6 _ _ _ z=_) (IU d a1 a4 a5 k W lo va wa ca O q.a q.b oM a2 a3 h3 h4 H.n _ S q.op rfl rfl rfl _ _ e f1 f2 f5 f6) ?_;rintro o e' H' ⟨hH,ho,g4⟩;exact J3 ho hH g4 trivial
 by_cases o4:q.op=4
 .have E:lst false q.op=2/\mst false q.op=64:=by rw[o4];decide
  have X:decide (q.op=4)=true:=yo o4;have J:decide (q.op=6)=false:=kA oM;refine J7 u.symm S U h D X J ?_;exact I _ rfl rfl (by rw[E.1];rfl) (by rw[E.2];rfl)
 have X:decide (q.op=4)=false:=kA o4;by_cases o5:q.op=5
 .have E:lst false q.op=2/\mst false q.op=64:=by rw[o5];decide
  have c5:decide (q.op=5)=true:=yo o5;have J:decide (q.op=6)=false:=kA oM;refine J8 u.symm S U h D X c5 J ?_;exact I _ rfl rfl (by rw[E.1];rfl) (by rw[E.2];rfl)
 have c5:decide (q.op=5)=false:=kA o5;by_cases o6:q.op=6
 .have E:lst false q.op=1/\mst false q.op=1:=by rw[o6];decide
  have J:decide (q.op=6)=true:=yo o6;refine J8 u.symm S U h D X c5 J ?_;exact I _ rfl rfl (by rw[E.1];rfl) (by rw[E.2];rfl)
 have J:decide (q.op=6)=false:=kA o6;have E:lst false q.op=0/\mst false q.op=0:=by simp [lst,mst,o4,o5,o6]
 refine J8 u.symm S U h D X c5 J ?_;exact I _ rfl rfl (by rw[E.1];rfl) (by rw[E.2];rfl)
def VY(d:Nat)(a4:d<=64)(a7:kI 72 true d)(a8:kI 36 false d):kI 72 true (d+1):=by
 intro k H lo cs q b5 hr;cases k with
 |zero=>exact hr.elim
 |succ k=>
 obtain⟨va,ca,wa,a2,rfl,h1,h2,h3,h4,z1,z2,z3⟩:=hr.filter;have e1:((d+1:Nat):Int)=(d:Int)+1:=oM;rw[i8 Ps rfl _ sM,okQ,dv,e1,cA rfl];have b0:decide ((d:Int)+1=0)=false:=kA oM;obtain⟨O,W,-,J,hS⟩:=pushF H (bC [iV q.op,.string q.sp,.string q.lc,.string q.vl,.slice va q.a.length ca,.slice wa q.b.length a2] 1);have b4:H.n<=O.low:=by rw[W,l9];exact lR
 have hn:=hS.n;have a5:QsR O lo k true (.slice va q.a.length ca) q.a:=h1.mono (fun j hj=>hS.g j oM) lR;have a6:QsR O lo k false (.slice wa q.b.length a2) q.b:=h2.mono (fun j hj=>hS.g j oM) lR;rcases b1:decide (1<=q.op)with _|_
 .have S:decide (q.op<1)=true:=by have:=dF b1;exact yo oM
  exact J4 W.symm J b0 S trivial
 have S:decide (q.op<1)=false:=by have:=dT b1;exact kA oM
 rcases b2:decide (q.op<=11)with _|_
 .have a1:decide (11<q.op)=true:=by have:=dF b2;exact yo oM
  exact J5 W.symm J b0 S a1 trivial
 have a1:decide (11<q.op)=false:=by have:=dT b2;exact kA oM
 have U:∀(e:Env),e.g 1=iV ((d:Int)+1)->e.g 2=pT H.n->e.g 7=iV (lst true q.op)->e.g 8=iV (mst true q.op)->
   t6 prog [.tmp 4] H (LE prog l7 WF e O)=some (.bool (okN q.op 11 (lst true q.op) (mst true q.op) q.a.length q.b.length&&q.a.all (okQ d true)&&q.b.all (okQ d !true)),none):=by
  intro e u D f5 f6;refine j5 (F:=fun z=>t6 _ _ _ z=_) (IV d a4 a7 a8 k O lo va wa ca a2 q.a q.b oM a5 a6 h3 h4 H.n _ J q.op rfl rfl rfl _ _ e u D f5 f6) ?_;rintro o e' H' ⟨hH,ho,g4⟩;exact J3 ho hH g4 trivial
 have a9:∀(e:Env),e.g 1=iV ((d:Int)+1)->e.g 2=pT H.n->
   t6 prog [.tmp 4] H (LE prog l7 UR e O)=some (.bool (okN q.op 11 (lst true q.op) (mst true q.op) q.a.length q.b.length&&q.a.all (okQ d true)&&q.b.all (okQ d !true)),none):=by
  intro e u D;rw[UR];by_cases o8:q.op=8
  .have I:lst true q.op=1/\mst true q.op=1:=by rw[o8];decide
   have c8:decide (q.op=8)=true:=yo o8;have c9:decide (q.op=9)=false:=kA oM;have E:decide (q.op=10)=false:=kA oM;refine J6 u D J c8 c9 E ?_;exact U _ u D (by rw[I.1];rfl) (by rw[I.2];rfl)
  have c8:decide (q.op=8)=false:=kA o8;by_cases o9:q.op=9
  .have I:lst true q.op=2/\mst true q.op=64:=by rw[o9];decide
   have c9:decide (q.op=9)=true:=yo o9;refine J5 u D J c8 c9 ?_;exact U _ u D (by rw[I.1];rfl) (by rw[I.2];rfl)
  have c9:decide (q.op=9)=false:=kA o9;by_cases X:q.op=10
  .have I:lst true q.op=2/\mst true q.op=64:=by rw[X];decide
   have E:decide (q.op=10)=true:=yo X;refine J6 u D J c8 c9 E ?_;exact U _ u D (by rw[I.1];rfl) (by rw[I.2];rfl)
  have E:decide (q.op=10)=false:=kA X;have I:lst true q.op=0/\mst true q.op=0:=by simp [lst,mst,o8,o9,X]
  refine J6 u D J c8 c9 E ?_;exact U _ u D (by rw[I.1];rfl) (by rw[I.2];rfl)
 have b3:∀(e:Env),e.g 1=iV ((d:Int)+1)->e.g 2=pT H.n->e.g 5= .bool (vp q.op)->e.g 6= .bool (Ih q.op)->
   t6 prog [.tmp 4] H (LE prog l7 UQ e O)=some (.bool (ja (vp q.op) q.sp q.lc&&qP (Ih q.op) q.op q.vl&&okN q.op 11 (lst true q.op) (mst true q.op) q.a.length q.b.length&&q.a.all (okQ d true)&&q.b.all (okQ d !true)),none):=by
  intro e u D f5 f6;rcases AY _ q.sp q.lc z1 z2 O H.n _ J rfl _ _ e u D f5 f6 with⟨hA,e',hE,g4⟩|⟨hA,e',hE,g1,g2,g6⟩
  .rw[hE,hA];exact J1 g4 trivial
  rw[hE,hA];rcases Ff _ q.op q.vl z3 O H.n _ J rfl rfl _ e' g1 g2 g6 with⟨hB,e2,a3,k4⟩|⟨hB,e2,a3,k1,k2⟩
  .rw[a3,hB];exact J1 k4 trivial
  rw[a3,hB,a9 e2 k1 k2];simp only[aaL]
 have hN:∀a b:Bool,decide (4<=q.op)=a->decide (q.op<=6)=b->vp q.op=(a&&b):=by intro a b h h';rw[vp,h,h']
 have hV:∀a b:Bool,decide (q.op=6)=a->decide (q.op=7)=b->Ih q.op=(a||b):=by intro a b h h';rw[Ih,h,h']
 rcases h4:decide (4<=q.op)with _|_<;>rcases h6:decide (q.op<=6)with _|_<;>rcases k6:decide (q.op=6)with _|_<;>rcases k7:decide (q.op=7)with _|_<;>(simp(maxSteps:=20000000) -dsimp (disch:=first|omega|(simp only[rH]<;>omega)|fail) only[↓jM,rQ,Q4,sevalprocAttr,tyA,<-W,J,b0,S,a1,h4,h6,k6,k7,b1,b2,aaL])<;>exact b3 _ rfl rfl (by rw[hN _ _ h4 h6];rfl) (by rw[hV _ _ k6 k7];rfl)
def Qw:∀d,d<=64->kI 36 false d/\kI 72 true d:=by
 intro d;induction d with
 |zero=>
  intro _
  constructor
  .intro k H lo cs q D u;cases k with
   |zero=>exact u.elim
   |succ k=>
   obtain⟨W,E,X,z,rfl,I,J,O,S⟩:=u.path;rw[i8 Zn rfl _ sM,okQ];exact J1 @Int.natCast_zero trivial
  .intro k H lo cs q D u;cases k with
   |zero=>exact u.elim
   |succ k=>
   obtain⟨W,E,X,z,rfl,I,J,O,S,z1,z2,z3⟩:=u.filter;rw[i8 Ps rfl _ sM,okQ];exact J1 @Int.natCast_zero trivial
 |succ d U=>
  intro h;obtain⟨a,b⟩:=U oM;exact⟨VX d oM a b,VY d oM b a⟩
def jb(q:Q):Bool:=decide (szQ q 64<=64)&&okQ 16 false q
def Bv(H:d7)(lo k:Nat)(cs:LV)(q:Q)(a2:lo<=H.n)(O:QR H lo k false cs q):CL prog l7 17 [.agg cs.toArray] H=some (.bool (jb q),none):=by
 cases k with
 |zero=>exact O.elim
 |succ k=>
 have S:=O;obtain⟨U,I,W,u,rfl,h1,h2,h3,h4⟩:=O.path;obtain⟨E,z,-,hg,X⟩:=pushF H (bC [iV q.op,.slice U q.a.length I,.slice W q.b.length u] 1);have a1:H.n<=E.low:=by rw[z,l9];exact lR
 have hn:=X.n;have h:ldC (some true) (some 3) 0 [iV q.op,.slice U q.a.length I,.slice W q.b.length u]=some (.agg [iV q.op,.slice U q.a.length I,.slice W q.b.length u].toArray):=rfl;have D:QR E lo (k+1) false _ q:=S.mono (fun j hj=>X.g j oM) lR;have c1:=Jn E lo (k+1) _ q oM D;have c2:=(Qw 16 oM).1 (k+1) E lo _ q oM D;have J:((16:Nat):Int)=16:=rfl;rw[J]at c2;rw[i8 ZP rfl _ sM,jb];rcases b:decide (szQ q 64<=64)with _|_
 .exact J5 z.symm hg h c1 b trivial
 .exact J6 z.symm hg h c1 c2 b trivial
mutual
def P1:Q->Q->Bool
 | .mk o s c v a b,y=>decide (o=y.op)&&(decide (s=y.sp)&&decide (c=y.lc))&&decide (v=y.vl)&&decide (a.length=y.a.length)&&decide (b.length=y.b.length)&&Q0 a y.a&&Q0 b y.b
def Q0:List Q->List Q->Bool
 |[],_=>true
 |x::l,m=>(match m with|[]=>true|y::m=>P1 x y&&Q0 l m)
end
def jd(x y:Q):P1 x y=(decide (x.op=y.op)&&(decide (x.sp=y.sp)&&decide (x.lc=y.lc))&&decide (x.vl=y.vl)&&decide (x.a.length=y.a.length)&&decide (x.b.length=y.b.length)&&Q0 x.a y.a&&Q0 x.b y.b):=by cases x;rw[P1];rfl
def aO(x y:Q)(l m:List Q):Q0 (x::l) (y::m)=(P1 x y&&Q0 l m):=by rw[Q0]
mutual
def mV:∀(x y:Q),P1 x y=true↔x=y
 | .mk o s c v a b,.mk o' s' c' v' a' b'=>by
  rw[jd];simp only[gk,xo];simp only[Q.op,Q.sp,Q.lc,Q.vl,Q.a,Q.b,Q.mk.injEq]
  constructor
  .rintro⟨⟨⟨⟨⟨⟨h1,h2,h3⟩,h4⟩,h5⟩,h6⟩,h7⟩,h8⟩;exact⟨h1,h2,h3,h4,(fP a a' h5).1 h7,(fP b b' h6).1 h8⟩
  .rintro⟨rfl,rfl,rfl,rfl,rfl,rfl⟩;exact⟨⟨⟨⟨⟨⟨rfl,rfl,rfl⟩,rfl⟩,rfl⟩,rfl⟩,(fP a a rfl).2 rfl⟩,(fP b b rfl).2 rfl⟩
def fP:∀(l m:List Q),l.length=m.length->(Q0 l m=true↔l=m)
 |[],m,h=>by
  have:m=[]:=aag.1 (by simpa using h.symm);subst this;simp [Q0]
 |x::l,[],h=>by simp at h
 |x::l,y::m,h=>by
  rw[aO,gk,acB,mV x y,fP l m (by simpa using h)]
end
def S5(fn:Nat)(f:Bool)(k:Nat):Prop:=∀(H:d7)(lo:Nat)(c1 c2:LV)(x y:Q),lo<=H.n->QR H lo k f c1 x->QR H lo k f c2 y->CL prog l7 fn [.agg c1.toArray,.agg c2.toArray] H=some (.bool (P1 x y),none)
def War(Wae Waf:Bool)(k:Nat)(ih:S5 (Wab Wae Waf 110 143 143 110) (Wab Wae Waf false true true false) k)(H0:d7)(lo:Nat)(va vb:Option Addr)(ca cb:Nat)(l m:List Q)(b3:l.length=m.length)(a4:lo<=H0.n)(hv:QsR H0 lo k (Wab Wae Waf false true true false) (.slice va l.length ca) l)(hw:QsR H0 lo k (Wab Wae Waf false true true false) (.slice vb m.length cb) m)(hn:l.length<=1048576)(b1 U:Nat)(cl cm:LV)(E:H0.g b1=cE cl 1)(I:H0.g U=cE cm 1)(J:cl[(Wab Wae Waf 1 2 4 5)]?=some (.slice va l.length ca))(O:cm[(Wab Wae Waf 1 2 4 5)]?=some (.slice vb m.length cb))(r:Bool):
  ∀kk e H2,(∃i:Nat,kk=l.length-i/\i<=l.length/\e.g 2=pT b1/\e.g 3=pT U/\e.g (Wab Wae Waf 5 6 5 6)=iV i/\H2=H0/\Q0 (l.drop i) (m.drop i)=r)->
  u7 (LE prog l7 (.loop (Wab Wae Waf Xr Xs XC XD)) e H2) (fun o e H2=>H2=H0/\((o= .exit (Wab Wae Waf 0 2 0 2)/\e.g 2=pT b1/\e.g 3=pT U/\r=true)\/(o= .ret/\e.g 4= .bool false/\r=false))):=by
 cases Wae<;>cases Waf
 all_goals
  simp only[Waa,Wab,Wac,cond_true,cond_false]at *
  refine i5 _ _ ?_;rintro kk e H2 ⟨i,hk,hi,W,X,f6,hH,D⟩;subst hH;rcases b:decide ((i:Int)<l.length)with _|_
  .have a2:=dF b;have:l.drop i=[]:=dN oM;rw[this,Q0]at D;refine J8 W X f6 E I J O b ?_;exact i6 ⟨rfl,.inl ⟨rfl,W,X,D.symm⟩⟩
  have a2:=dT b;obtain⟨x,nb,o,cs,own,el,hx,hd,rfl,b4,hg,b0,u,hr⟩:=hv.row (i:=i) oM;obtain⟨y,b6,o',cs',a9,a1,b5,a3,rfl,a7,S,a6,h,a5⟩:=hw.row (i:=i) oM;have nt:(i:Int).toNat=i:=tN i;have a8:(i:Int)<m.length:=oM;rw[hd,a3,aO]at D;simp only[qSz,aab,bF]at u hg h S;have z:=ih H2 lo el a1 x y a4 hr a5;rcases U:P1 x y with _|_
  .rw[U]at z D;refine J15 W X f6 E I J O b hg S nt u h @wrap_small z ?_;exact w9 ⟨rfl,.inr ⟨rfl,rfl,by rw[<-D];rfl⟩⟩
  .rw[U]at z D;refine J15 W X f6 E I J O b hg S nt u h @wrap_small z ?_;exact d8 (kk-1) oM ⟨i+1,oM,oM,W,X,rfl,rfl,D⟩
def Gn:=Wad (@War true true)
def Gp:=Wad (@War true false)
def Dp:=Wad (@War false true)
def Dq:=Wad (@War false false)
def QY(k:Nat)(a3:S5 110 false k)(a4:S5 143 true k):S5 110 false (k+1):=by
 intro H lo c1 c2 x y a8 hx hy;have sx:=fun h:false=false=>hx.plain h;have sy:=fun h:false=false=>hy.plain h;obtain⟨va,ca,wa,J,rfl,h1,h2,h3,h4⟩:=hx.path;obtain⟨vb,cb,wb,O,rfl,k1,k2,k3,k4⟩:=hy.path;obtain⟨I,u⟩:=eY ((d7.push ⟨H.bs,H.n⟩ (bC [iV x.op,.slice va x.a.length ca,.slice wa x.b.length J] 1)).push (bC [iV y.op,.slice vb y.a.length cb,.slice wb y.b.length O] 1));have X:d9 H.n H I:=by rw[u];exact(d9.first H _).trans (d9.push (by rw[i4];show H.n<=H.n+1;omega))
 have D:I.g H.n=cE [iV x.op,.slice va x.a.length ca,.slice wa x.b.length J] 1:=by rw[u,i9 (by rw[i4];show H.n<H.n+1;omega)];exact j7
 have E:I.g (H.n+1)=cE [iV y.op,.slice vb y.a.length cb,.slice wb y.b.length O] 1:=by rw[u];exact y9 (by rw[i4];show H.n+1<=H.n+1/\H.n+1<=H.n+1;omega)
 have a7:H.n<=I.low:=by rw[u,l9,l9];exact lR
 have hn:=X.n;have a1:=h1.mono (H':=I) (fun j hj=>X.g j oM) lR;have a2:=h2.mono (H':=I) (fun j hj=>X.g j oM) lR;have a5:=k1.mono (H':=I) (fun j hj=>X.g j oM) lR;have a6:=k2.mono (H':=I) (fun j hj=>X.g j oM) lR;rw[i8 Td rfl _ sM,jd];rcases b1:decide (x.op=y.op)with _|_
 .exact J4 u.symm D E b1 trivial
 obtain⟨s1,s2,s3⟩:=sx rfl;obtain⟨u1,u2,u3⟩:=sy rfl;have b2:(decide (x.sp=y.sp)&&decide (x.lc=y.lc))=true:=by rw[s1,s2,u1,u2];rfl
 have b3:decide (x.vl=y.vl)=true:=by rw[s3,u3];rfl
 rw[b2,b3];have el:decide ((x.a.length:Int)=y.a.length)=decide (x.a.length=y.a.length):=aaR.2 oM;rcases b4:decide (x.a.length=y.a.length)with _|_
 .exact J6 u.symm D E b1 el b4 trivial
 have W:decide ((x.b.length:Int)=y.b.length)=decide (x.b.length=y.b.length):=aaR.2 oM;rcases b5:decide (x.b.length=y.b.length)with _|_
 .exact J8 u.symm D E b1 el b4 W b5 trivial
 refine J8 u.symm D E b1 el b4 W b5 ?_;refine j5 (F:=fun z=>t6 _ _ _ (u6 (inBlock 0 z) _)=_) (Gn k a3 I lo va vb ca cb x.a y.a (dT b4) oM a1 a5 h3 H.n (H.n+1) _ _ D E rfl rfl (Q0 x.a y.a) x.a.length _ _ ⟨0,rfl,oM,rfl,rfl,rfl,rfl,rfl⟩) ?_;rintro o e' H' ⟨rfl,⟨S,g2,g3,U⟩|⟨S,g4,U⟩⟩
 .refine J4 S g2 g3 U ?_;refine j5 (F:=fun z=>t6 _ _ _ (u6 (inBlock 2 z) _)=_) (Gp k a4 H' lo wa wb J O x.b y.b (dT b5) oM a2 a6 h4 H.n (H.n+1) _ _ D E rfl rfl (Q0 x.b y.b) x.b.length _ _ ⟨0,rfl,oM,g2,g3,rfl,rfl,rfl⟩) ?_;rintro o e' H2 ⟨rfl,⟨S,g2,g3,U⟩|⟨S,g4,U⟩⟩
  .exact J2 S U trivial
  .exact J3 S g4 U trivial
 .exact J3 S g4 U trivial
def MC(k:Nat)(a4:S5 143 true k)(a5:S5 110 false k):S5 143 true (k+1):=by
 intro H lo c1 c2 x y a9 hx hy;have sx:=fun h:true=false=>hx.plain h;have sy:=fun h:true=false=>hy.plain h;obtain⟨va,ca,wa,J,rfl,h1,h2,h3,h4,_⟩:=hx.filter;obtain⟨vb,cb,wb,O,rfl,k1,k2,k3,k4,_⟩:=hy.filter;obtain⟨I,u⟩:=eY ((d7.push ⟨H.bs,H.n⟩ (bC [iV x.op,.string x.sp,.string x.lc,.string x.vl,.slice va x.a.length ca,.slice wa x.b.length J] 1)).push (bC [iV y.op,.string y.sp,.string y.lc,.string y.vl,.slice vb y.a.length cb,.slice wb y.b.length O] 1));have hS:d9 H.n H I:=by rw[u];exact(d9.first H _).trans (d9.push (by rw[i4];show H.n<=H.n+1;omega))
 have D:I.g H.n=cE [iV x.op,.string x.sp,.string x.lc,.string x.vl,.slice va x.a.length ca,.slice wa x.b.length J] 1:=by rw[u,i9 (by rw[i4];show H.n<H.n+1;omega)];exact j7
 have E:I.g (H.n+1)=cE [iV y.op,.string y.sp,.string y.lc,.string y.vl,.slice vb y.a.length cb,.slice wb y.b.length O] 1:=by rw[u];exact y9 (by rw[i4];show H.n+1<=H.n+1/\H.n+1<=H.n+1;omega)
 have a8:H.n<=I.low:=by rw[u,l9,l9];exact lR
 have hn:=hS.n;have a2:=h1.mono (H':=I) (fun j hj=>hS.g j oM) lR;have a3:=h2.mono (H':=I) (fun j hj=>hS.g j oM) lR;have a6:=k1.mono (H':=I) (fun j hj=>hS.g j oM) lR;have a7:=k2.mono (H':=I) (fun j hj=>hS.g j oM) lR;rw[i8 TA rfl _ sM,jd];rcases W:decide (x.op=y.op)with _|_
 .exact J4 u.symm D E W trivial
 rcases X:(decide (x.sp=y.sp)&&decide (x.lc=y.lc))with _|_
 .exact J6 @D4 u.symm D E W X trivial
 rcases b3:decide (x.vl=y.vl)with _|_
 .exact J7 @D4 u.symm D E W X b3 trivial
 have el:decide ((x.a.length:Int)=y.a.length)=decide (x.a.length=y.a.length):=aaR.2 oM;rcases b4:decide (x.a.length=y.a.length)with _|_
 .exact J9 u.symm D E W @D4 X b3 el b4 trivial
 have a1:decide ((x.b.length:Int)=y.b.length)=decide (x.b.length=y.b.length):=aaR.2 oM;rcases b5:decide (x.b.length=y.b.length)with _|_
 .exact J11 u.symm D E W @D4 X b3 el b4 a1 b5 trivial
 refine J11 u.symm D E W @D4 X b3 el b4 a1 b5 ?_;refine j5 (F:=fun z=>t6 _ _ _ (u6 (inBlock 0 z) _)=_) (Dp k a4 I lo va vb ca cb x.a y.a (dT b4) oM a2 a6 h3 H.n (H.n+1) _ _ D E rfl rfl (Q0 x.a y.a) x.a.length _ _ ⟨0,rfl,oM,rfl,rfl,rfl,rfl,rfl⟩) ?_;rintro o e' H' ⟨rfl,⟨S,g2,g3,U⟩|⟨S,g4,U⟩⟩
 .refine J4 S g2 g3 U ?_;refine j5 (F:=fun z=>t6 _ _ _ (u6 (inBlock 2 z) _)=_) (Dq k a5 H' lo wa wb J O x.b y.b (dT b5) oM a3 a7 h4 H.n (H.n+1) _ _ D E rfl rfl (Q0 x.b y.b) x.b.length _ _ ⟨0,rfl,oM,g2,g3,rfl,rfl,rfl⟩) ?_;rintro o e' H2 ⟨rfl,⟨S,g2,g3,U⟩|⟨S,g4,U⟩⟩
  .exact J2 S U trivial
  .exact J3 S g4 U trivial
 .exact J3 S g4 U trivial
def JA:∀k,S5 110 false k/\S5 143 true k:=by
 intro k;induction k with
 |zero=>exact⟨fun H lo c1 c2 x y u z D=>z.elim,fun H lo c1 c2 x y u z D=>z.elim⟩
 |succ k h=>exact⟨QY k h.1 h.2,MC k h.2 h.1⟩
end Go.Proofs.YtbekeboballbgaaGreatDoor.Ve
namespace Go.Proofs.YtbekeboballbgaaGreatDoor.Ve
open Go Go.RowKit
def t7(H:d7)(lo sz:Nat){α:Type}(R:LV->α->Prop)(w:aet)(l:List α):Prop:=∃cs,dH H lo sz w l.length cs/\x9 sz R cs l
section
variable{α:Type}{R R':List Value->α->Prop}{H H':d7}{lo lo' sz:Nat}{w:Value}{l l2:List α}
def x9.nil:x9 sz R [] ([]:List α):=⟨by simp,fun i a h=>by simp at h⟩
def x9.one{cs:LV}{a:α}(h:cs.length=sz)(z:R cs a):x9 sz R cs [a]:=by
 refine⟨by simp [h],fun i b u=>?_⟩;cases i with
 |zero=>
  have:a=b:=by simpa using u
  subst this;rw[aa8,aan,<-h,abZ];exact z
 |succ i=>simp at u
def t7.nil:t7 H lo sz R (.slice none 0 0) ([]:List α):=⟨[],.inl ⟨rfl,rfl,rfl⟩,x9.nil⟩
def t7.slice(h:t7 H lo sz R w l):∃a c,w= .slice a l.length c:=by obtain⟨cs,u,z⟩:=h;exact u.slice
def t7.mono(h:t7 H lo sz R w l)(E:lo'<=lo)(D:∀j,j<H.n->H'.g j=H.g j):t7 H' lo' sz R w l:=by obtain⟨cs,u,z⟩:=h;exact⟨cs,u.mono E D,z⟩
def t7.keep(h:t7 H lo sz R w l)(u:d9 H.n H H'):t7 H' lo sz R w l:=h.mono lR fun j z=>u.g j z
def t7.wk(h:t7 H lo sz R w l)(u:lo'<=lo):t7 H lo' sz R w l:=h.mono u fun _ _=>rfl
def t7.imp(h:t7 H lo sz R w l)(D:∀cs a,R cs a->R' cs a):t7 H lo sz R' w l:=by obtain⟨cs,u,z⟩:=h;exact⟨cs,u,z.mono D⟩
def t7.low(h:t7 H lo sz R w l)(n:Nat):t7 ⟨H.bs,n⟩ lo sz R w l:=h.mono lR fun _ _=>rfl
def t7.sl(h:t7 H lo sz R w l):SlI H H.n sz R w l:=by obtain⟨cs,u,z⟩:=h;exact u.sl z
def t7.na(h:t7 H lo sz R w l)(D:N8 w=true)(H0:d7)(z:Nat):t7 H0 z sz R w l:=by
 obtain⟨cs,u,E⟩:=h;rcases u with u|⟨b,c,I,_⟩
 .exact⟨cs,.inl u,E⟩
 .rw[I]at D;cases D
def t7.fresh{n c:Nat}(z:n=l.length)(h:lo<=H.n)(u:x9 sz R cs l):t7 (H.push (.cells cs true sz)) lo sz R (.slice (some ⟨H.n,0,none⟩) n c) l:=by
 subst z;exact⟨cs,.inr ⟨H.n,c,rfl,j7,h,u.1⟩,u⟩
def t7.at_(h:t7 H lo sz R w l){a:α}(z:l[i]?=some a):∃b c cs,w= .slice (some ⟨b,0,none⟩) l.length c/\lo<=b/\b<H.n/\H.g b=some (.cells cs true sz)/\i*sz+sz<=cs.length/\R ((cs.drop (i*sz)).take sz) a:=by
 obtain⟨cs,D,E⟩:=h;have O:i<l.length:=(gS z).1;rcases D with⟨_,S,_⟩|⟨b,c,I,u,J,U⟩
 .omega
 .refine⟨b,c,cs,I,J,u5 u,u,?_,E.2 i a z⟩;have:(i+1)*sz<=l.length*sz:=aaW _ O;rw[aaP]at this;omega
def SlI.rows{n:Nat}(h:SlI H n sz R v l):∃a c el,v= .slice a l.length c/\A6 H sz (.slice a l.length c)=some el/\x9 sz R el l:=by
 obtain⟨a,c,rfl⟩:=h.slice;obtain⟨el,u,z⟩:=h.cells;exact⟨a,c,el,rfl,u,z⟩
def t7.append{P:Program}{t e:TypeId}{bytes n:Nat}(X:P.underlying t=some (.slice e))(W:D3 P e=some sz)(S:Q2 P e=some bytes)(hz:N3 P e=some z)(J:0<sz)(O:0<bytes)
  (h:t7 H lo sz R w l) (hx:SlI H n sz R x l2) (U:(l.length+l2.length)*bytes<=140737488355328) (u:lo<=H.n):
  Ret (A8 P H [t,t] w x) H fun v' H'=>t7 H' lo sz R v' (l++l2)/\d9 lo H H':=by
 obtain⟨cs,k1,k2⟩:=h;obtain⟨a,c,el,rfl,q1,D⟩:=hx.rows;obtain⟨v',I,E,r1,r2,r3,r4⟩:=wN (m:=l2.length) X W S hz J O k1 q1 D.1 U u;exact⟨v',I,E,r1,r2,⟨cs++el,by rw[ib];exact r3,k2.append D⟩,r4⟩
end
def P4(x:Option (aet×Option d7))(H:d7)(sz:Nat){α:Type}(R:LV->α->Prop)(l:List α):Prop:=Ret x H fun w H1=>t7 H1 H.n sz R w l/\d9 H.n H H1
def I7{H H':d7}{sz:Nat}{α:Type}{R:LV->α->Prop}{w:aet}{l:List α}(h:t7 H' H.n sz R w l)(z:d9 H.n H H')(D:H.n<=H'.low):P4 (some (E7 w H H')) H sz R l:=
 F9 (fun u _=>⟨h.na u _ _,d9.refl _ _⟩) ⟨h.low _,z.ret D⟩
def P4.imp{H:d7}{sz:Nat}{α:Type}{R R':LV->α->Prop}{l:List α}(h:P4 x H sz R l)(O:∀cs a,R cs a->R' cs a):P4 x H sz R' l:=by
 obtain⟨v,z,u,D,E,I,J⟩:=h;exact⟨v,z,u,D,E,I.imp O,J⟩
def aw(h:List V1)(a b:Bool)(xs u:LV):B8 (.bool::h) (.bool a::xs) (.bool b::u)=(B8 h xs u).map ((a==b)&& ·):=by
 simp only[B8,P7];cases B8 h xs u<;>rfl
def Xk(h:List V1)(k:IntKind)(a b:Int)(xs u:LV):B8 (.int::h) (.int k a::xs) (.int k b::u)=(B8 h xs u).map (decide (a=b)&& ·):=by
 have e:(a==b)=decide (a=b):=rfl;simp only[B8,P7,aab,e];cases B8 h xs u<;>rfl
abbrev u9{α:Type}(enc:α->LV):LV->α->Prop:=fun cs a=>cs=enc a
abbrev nmE(x:aes×aes):LV:=[.string x.1,.string x.2]
abbrev stE(s:aes):LV:=[.string s]
abbrev soE(x:Bool×Bool×aes):LV:=[.bool x.1,.bool x.2.1,.string x.2.2]
abbrev inE(n:Int):LV:=[.int .i64 n]
abbrev boE(b:Bool):LV:=[.bool b]
abbrev hoE(x:Int×Int×Int):LV:=[.int .i64 x.1,.int .i64 x.2.1,.int .i64 x.2.2]
abbrev edE(x:Int×Int×Int×Int):LV:=[.int .i64 x.1,.int .i64 x.2.1,.int .i64 x.2.2.1,.int .i64 x.2.2.2]
def ixG{α:Type}(p:α->Bool):List α->Nat->Int
 |[],_=> -1
 |a::l,i=>if p a then(i:Int) else ixG p l (i+1)
def dR{α:Type}(p:α->Bool):∀(l:List α)(i:Nat),(l.any p=false/\ixG p l i= -1)\/(l.any p=true/\(i:Int)<=ixG p l i/\ixG p l i<i+l.length)
 |[],i=> .inl ⟨rfl,rfl⟩
 |a::l,i=>by
  rw[ixG,acf,A1];cases h:p a with
  |true=>exact .inr ⟨rfl,by rw[cA rfl];omega,by rw[cA rfl];omega⟩
  |false=>
   rw[bt acz];rcases dR p l (i+1)with⟨u,z⟩|⟨u,z,D⟩
   .exact .inl ⟨by rw[u];rfl,z⟩
   .exact .inr ⟨by rw[u];rfl,oM,oM⟩
def jt{α:Type}(p:α->Bool)(l:List α):decide (0<=ixG p l 0)=l.any p:=by
 rcases dR p l 0 with⟨h,u⟩|⟨h,u,z⟩
 .rw[h,u];rfl
 .rw[h];exact yo oM
def T4{α:Type}{l:List α}(h:i<l.length):∃a,l[i]?=some a/\l.drop i=a::l.drop (i+1):=
 ⟨l[i],yv h,aav h⟩
def SlI.row{H:d7}{lo sz:Nat}{α:Type}{R:LV->α->Prop}{n D:Nat}{l:List α}(h:SlI H lo sz R (.slice z n D) l)(S:i<l.length):
  ∃x b o cs own el,l[i]?=some x/\l.drop i=x::l.drop (i+1)/\z=some ⟨b,o,none⟩/\b<lo/\H.g b=some (.cells cs own sz)/\o+i*sz+sz<=cs.length/\ldC (some true) (some sz) (o+i*sz) cs=some (.agg el.toArray)/\(∀k,k<sz->cs[o+i*sz+k]?=el[k]?)/\R el x:=by
 obtain⟨x,E,J⟩:=T4 (l:=l) (i:=i) S;obtain⟨b,o,c,cs,own,X,I,O,u,W⟩:=h.at_ E;obtain⟨rfl,rfl,rfl⟩:z=some ⟨b,o,none⟩/\n=l.length/\D=c:=by simpa using X
 exact⟨x,b,o,cs,own,_,E,J,rfl,I,O,u,Z2 u rfl,fun k U=>F1 U rfl,W⟩
def wj{cs el:LV}{a sz j m:Nat}(h:∀k,k<sz->cs[a+k]?=el[k]?) (u:a+sz<=cs.length) (z:j+m<=sz):ldC (some true) (some m) (a+j) cs=some (.agg ((el.drop j).take m).toArray):=by
 rw[gJ _ _ _ oM]
 congr 3
 refine abn fun i=>?_;rw[aaO,aaO];split
 .rw[aaA,aaA,aa5,h _ oM]
 .rfl
def t7.push1{P:Program}{t e:TypeId}{bytes sz lo:Nat}{α:Type}{R:LV->α->Prop}{H:d7}{w:aet}{l:List α}(ht:P.underlying t=some (.slice e))(hs:D3 P e=some sz)(W:Q2 P e=some bytes)(hz:N3 P e=some z)(J:0<sz)(O:0<bytes)
  (h:t7 H lo sz R w l) {cs:LV} {a:α} (u:cs.length=sz) (U:R cs a) (X:(l.length+1)*bytes<=140737488355328) (D:lo<=H.n):
  Ret (A8 P (H.push (.cells cs true sz)) [t,t] w (.slice (some ⟨H.n,0,none⟩) 1 1)) (H.push (.cells cs true sz)) fun v' H'=>t7 H' lo sz R v' (l++[a])/\d9 lo H H':=by
 have S:=t7.fresh (H:=H) (lo:=H.n) (l:=[a]) (n:=1) (c:=1) rfl lR (x9.one u U);have hn:(H.push (.cells cs true sz)).n=H.n+1:=i4;have E:d9 H.n H (H.push (.cells cs true sz)):=d9.push lR;obtain⟨v',I,H',r1,r2,r3,r4⟩:=(h.keep E).append ht hs W hz J O S.sl (by simpa using X) oM;exact⟨v',I,H',r1,r2,r3,(E.wk D).trans r4⟩
end Go.Proofs.YtbekeboballbgaaGreatDoor.Ve
namespace Go.Proofs.YtbekeboballbgaaGreatDoor.Ve
open Go Go.RowKit
open Go.Proofs.Tryz (prog)
def QR.up{H:d7}{lo:Nat}:∀{k:Nat}{f:Bool}{cs:LV}{q:Q},QR H lo k f cs q->QR H lo (k+1) f cs q:=by
 intro k;induction k with
 |zero=>intro f cs q h;exact h.elim
 |succ k u=>
  intro f cs q h;obtain⟨v,w,z,D,E,I⟩:=h;exact⟨v,w,z,SlI.mono D (fun _ _=>rfl) lR (fun _ _ h=>u h),SlI.mono E (fun _ _=>rfl) lR (fun _ _ h=>u h),I⟩
mutual
def fsQ:Bool->Q->List Q
 |f,.mk o s c v a b=>(if f then [.mk o s c v a b] else [])++(fsL f a++fsL (!f) b)
def fsL:Bool->List Q->List Q
 |_,[]=>[]
 |f,x::l=>fsQ f x++fsL f l
end
def iR(f:Bool)(q:Q):fsQ f q=(if f then [q] else [])++(fsL f q.a++fsL (!f) q.b):=by cases q;rw[fsQ];rfl
def x8(f:Bool):∀l,fsL f l=l.flatMap (fsQ f)
 |[]=>by rw[fsL];rfl
 |x::l=>by rw[fsL,x8 f l,aaI]
mutual
def inQ:Bool->Q->List Q
 |f,.mk o s c v a b=>inL f a++(if f then(if o=11 then inL false b++b else []) else inL true b)
def inL:Bool->List Q->List Q
 |_,[]=>[]
 |f,x::l=>inQ f x++inL f l
end
def qt(q:Q):inQ false q=inL false q.a++inL true q.b:=by cases q;rw[inQ];rfl
def kq(q:Q):inQ true q=inL true q.a++(if q.op=11 then inL false q.b++q.b else []):=by cases q;rw[inQ];rfl
def gH(f:Bool):∀l,inL f l=l.flatMap (inQ f)
 |[]=>by rw[inL];rfl
 |x::l=>by rw[inL,gH f l,aaI]
def OkD(f:Bool)(q:Q):Prop:=∃d,okQ d f q=true
def OkD.parts(h:OkD f q):(∀x∈q.a,OkD f x)/\(∀x∈q.b,OkD (!f) x)/\1<=q.op/\dv f q=true/\okN q.op (if f then 11 else 7) (lst f q.op) (mst f q.op) q.a.length q.b.length=true:=by
 obtain⟨d,h⟩:=h;cases d with
 |zero=>cases h
 |succ d=>
  rw[okQ]at h;simp only[gk,xo,aaB]at h;obtain⟨⟨⟨⟨z,D⟩,E⟩,I⟩,J⟩:=h;exact⟨fun x u=>⟨d,I x u⟩,fun x u=>⟨d,J x u⟩,z,D,E⟩
def eW{op s u z:Int}(h:okN op s u z D E=true):u<=D/\(D:Int)<=z/\(op=s↔E=1)/\E<=1:=by
 simp only[okN,gk,xo,acK]at h;obtain⟨⟨⟨I,J⟩,O⟩,S⟩:=h;exact⟨I,J,by simpa using O,S⟩
def X3(fn:Nat)(f:Bool)(sz:Nat)(rf:Bool)(F:Q->List Q)(k:Nat):Prop:=∀(H:d7)(lo:Nat)(cs:LV)(q:Q),lo<=H.n->QR H lo k f cs q->(F q).length<=1000000->OkD f q->P4 (CL prog l7 fn [.agg cs.toArray] H) H sz (QR H lo k rf) (F q)
def Was(Wae Waf Wag:Bool){Wah:TypeId}(Wak:prog.underlying (Wac Wae Waf Wag 23 23 23 23 22 22 22 22)=some (.slice Wah))(Wal:D3 prog Wah=some (Wac Wae Waf Wag 6 6 6 6 3 3 3 3))(Wam:Q2 prog Wah=some Wai)(Wan:N3 prog Wah=some Waj)(Wao:0<Wai)(Wap:Wai<=140737488)(F:Q->List Q)(k:Nat)(ih:X3 (Wac Wae Waf Wag 111 144 144 111 74 109 109 109) (Wac Wae Waf Wag false true true false false true true true) (Wac Wae Waf Wag 6 6 6 6 3 3 3 3) (Wac Wae Waf Wag true true true true false false false false) F k)(D:d7)(lo z:Nat)(b1:lo<=z)(a9:z<D.n)(va:Option Addr)(ca:Nat)(l:List Q)(hv:QsR D lo k (Wac Wae Waf Wag false true true false false true true true) (.slice va l.length ca) l)(hn:l.length<=1048576)(cl:LV)(hb:D.g z=cE cl 1)(hc:cl[(Wac Wae Waf Wag 1 2 4 5 1 2 4 4)]?=some (.slice va l.length ca))(r:List Q)(hr:r.length<=1000000)(hw:∀x∈l,OkD (Wac Wae Waf Wag false true true false false true true true) x):
  ∀kk e H2,(∃(i:Nat)(u:List Q)(w:aet),kk=l.length-i/\i<=l.length/\e.g 1=pT z/\e.g 3=w/\e.g (Wac Wae Waf Wag 4 5 4 5 4 5 4 4)=iV i/\t7 H2 (z+1) (Wac Wae Waf Wag 6 6 6 6 3 3 3 3) (QR D lo (k+1) (Wac Wae Waf Wag true true true true false false false false)) w u/\d9 (z+1) D H2/\u++(l.drop i).flatMap F=r)->
  u7 (LE prog l7 (.loop (Wac Wae Waf Wag Xt Xu XE XF YQ YR OG OG)) e H2) (fun o e H2=>o= .exit (Wac Wae Waf Wag 0 2 0 2 0 2 0 0)/\e.g 1=pT z/\∃w,e.g 3=w/\t7 H2 (z+1) (Wac Wae Waf Wag 6 6 6 6 3 3 3 3) (QR D lo (k+1) (Wac Wae Waf Wag true true true true false false false false)) w r/\d9 (z+1) D H2):=by
 cases Wae<;>cases Waf<;>cases Wag
 all_goals
  simp only[Waa,Wab,Wac,cond_true,cond_false]at *
  refine i5 _ _ ?_;rintro kk e H2 ⟨i,u,w,hk,hi,X,f3,f6,hO,I,O⟩;have U:H2.g z=cE cl 1:=by rw[I.g z oM];exact hb
  have b3:=I.n;rcases b:decide ((i:Int)<l.length)with _|_
  .have a4:=dF b;have:l.drop i=[]:=dN oM;rw[this,abu,aaq]at O;refine J6 X f3 f6 U hc b ?_;exact i6 ⟨rfl,X,w,f3,by rw[<-O];exact hO,I⟩
  have a4:=dT b;obtain⟨x,nb,o,cs,own,el,hx,hd,rfl,b2,hg,b0,E,hR⟩:=hv.row (i:=i) oM;have nt:(i:Int).toNat=i:=tN i;simp only[qSz,aab,bF]at E hg;have a6:=(I.g nb oM).trans hg;rw[hd,aaI,<-aaX]at O;have a8:u.length+(F x).length<=1000000:=by
   have:r.length=u.length+(F x).length+((l.drop (i+1)).flatMap F).length:=by rw[<-O,ib,ib]
   omega
  obtain⟨v,h,H3,a5,a7,a1,J⟩:=ih H2 lo el x oM (hR.mono (fun j hj=>I.g j oM) lR) oM (hw x (mG hx));have S:t7 H3 H2.n _ (QR D lo (k+1) _) v (F x):=a1.imp fun cs q h=>(h.mono (fun j hj=>(I.g j oM).symm) lR).up;have b4:=J.n;obtain⟨v',h',H4,ha,W,a2,a3⟩:=(hO.keep J).append (P:=prog) (n:=H3.n) Wak Wal Wam Wan oM Wao S.sl (Nat.le_trans (Nat.mul_le_mul oM Wap) (by decide:1000000*140737488≤140737488355328)) oM;refine J14 X f3 f6 U hc b a6 nt E @wrap_small a5 a7 ha W ?_;refine d8 (kk-1) oM ⟨i+1,u++F x,v',oM,oM,X,rfl,rfl,a2,(I.trans (J.wk oM)).trans a3,O⟩
def PF:=Wad (Was true true true (by exact OJ.2.2.2.2.2.2) ch.1 ch.2.1 ch.2.2.1 oM oM)
def PG:=Wad (Was true true false (by exact OJ.2.2.2.2.2.2) ch.1 ch.2.1 ch.2.2.1 oM oM)
def Lo:=Wad (Was true false true (by exact OJ.2.2.2.2.2.2) ch.1 ch.2.1 ch.2.2.1 oM oM)
def Lp:=Wad (Was true false false (by exact OJ.2.2.2.2.2.2) ch.1 ch.2.1 ch.2.2.1 oM oM)
def PC:=Wad (Was false true true (by exact oO.2.2.2.2.2.2) fS.1 fS.2.1 fS.2.2.1 oM oM)
def PD:=Wad (Was false true false (by exact oO.2.2.2.2.2.2) fS.1 fS.2.1 fS.2.2.1 oM oM)
def PH:=Wad (Was false false true (by exact oO.2.2.2.2.2.2) fS.1 fS.2.1 fS.2.2.1 oM oM)
def Um(k:Nat)(a7:X3 111 false 6 true (fsQ false) k)(a8:X3 144 true 6 true (fsQ true) k):X3 111 false 6 true (fsQ false) (k+1):=by
 intro H lo cs q U hr hl a6;obtain⟨a9,b0,_⟩:=a6.parts;obtain⟨va,ca,wa,E,rfl,h1,h2,h3,h4⟩:=hr.path;obtain⟨D,J,-,hg,hS⟩:=pushF H (bC [iV q.op,.slice va q.a.length ca,.slice wa q.b.length E] 1);have W:H.n<=D.low:=by rw[J,l9];exact lR
 have a4:=u5 hg;have hs:fsQ false q=(fsL false q.a)++fsL true q.b:=by rw[iR false q,bt acz,aat]<;>rfl
 have a1:=h1.mono (H':=D) (fun j hj=>hS.g j oM) lR;have a2:=h2.mono (H':=D) (fun j hj=>hS.g j oM) lR;rw[hs]at hl ⊢;have a5:(fsL false q.a).length<=1000000:=by rw[ib]at hl;omega
 rw[i8 Te rfl _ sM];refine J1 J.symm ?_;refine j5 (F:=fun z=>P4 (t6 _ _ _ (u6 (inBlock 0 z) _)) _ _ _ _) (PF (fsQ false) k a7 D lo H.n U a4 va ca q.a a1 h3 _ hg rfl (fsL false q.a) a5 a9 q.a.length _ _ ⟨0,[],_,rfl,oM,rfl,rfl,rfl,t7.nil,d9.refl _ _,by rw[x8];rfl⟩) ?_;rintro o e' H2 ⟨ho,g1,w,X,hO,u⟩;have b1:=u.n;have S:H2.g H.n=_:=(u.g H.n oM).trans hg;have I:=a2.mono (H':=H2) (fun j hj=>u.g j oM) lR;refine J3 ho g1 X ?_;refine j5 (F:=fun z=>P4 (t6 _ _ _ (u6 (inBlock 2 z) _)) _ _ _ _) (PG (fsQ true) k a8 H2 lo H.n U (u5 S) wa E q.b I h4 _ S rfl (fsL false q.a++fsL true q.b) hl b0 q.b.length _ _ ⟨0,fsL false q.a,w,rfl,oM,g1,X,rfl,hO.imp fun cs q h=>h.mono (fun j hj=>u.g j oM) lR,d9.refl _ _,by rw[x8 true];rfl⟩) ?_;rintro o e' H3 ⟨ho,g1,w,X,hO,a3⟩;have O:d9 (H.n+1) D H3:=u.trans a3;refine J2 ho X ?_;exact I7 ((hO.wk oM).imp fun cs q h=>h.mono (fun j hj=>by rw[<-hS.g j oM,<-u.g j oM]) lR) (hS.trans (O.wk oM)) ((O.wk oM).low W)
def Ul(k:Nat)(a7:X3 74 false 3 false (inQ false) k)(a8:X3 109 true 3 false (inQ true) k):X3 74 false 3 false (inQ false) (k+1):=by
 intro H lo cs q U hr hl a6;obtain⟨a9,b0,_⟩:=a6.parts;obtain⟨va,ca,wa,E,rfl,h1,h2,h3,h4⟩:=hr.path;obtain⟨D,J,-,hg,hS⟩:=pushF H (bC [iV q.op,.slice va q.a.length ca,.slice wa q.b.length E] 1);have W:H.n<=D.low:=by rw[J,l9];exact lR
 have a4:=u5 hg;have hs:inQ false q=(inL false q.a)++inL true q.b:=by rw[qt q]<;>rfl
 have a1:=h1.mono (H':=D) (fun j hj=>hS.g j oM) lR;have a2:=h2.mono (H':=D) (fun j hj=>hS.g j oM) lR;rw[hs]at hl ⊢;have a5:(inL false q.a).length<=1000000:=by rw[ib]at hl;omega
 rw[i8 Vz rfl _ sM];refine J1 J.symm ?_;refine j5 (F:=fun z=>P4 (t6 _ _ _ (u6 (inBlock 0 z) _)) _ _ _ _) (PC (inQ false) k a7 D lo H.n U a4 va ca q.a a1 h3 _ hg rfl (inL false q.a) a5 a9 q.a.length _ _ ⟨0,[],_,rfl,oM,rfl,rfl,rfl,t7.nil,d9.refl _ _,by rw[gH];rfl⟩) ?_;rintro o e' H2 ⟨ho,g1,w,X,hO,u⟩;have b1:=u.n;have S:H2.g H.n=_:=(u.g H.n oM).trans hg;have I:=a2.mono (H':=H2) (fun j hj=>u.g j oM) lR;refine J3 ho g1 X ?_;refine j5 (F:=fun z=>P4 (t6 _ _ _ (u6 (inBlock 2 z) _)) _ _ _ _) (PD (inQ true) k a8 H2 lo H.n U (u5 S) wa E q.b I h4 _ S rfl (inL false q.a++inL true q.b) hl b0 q.b.length _ _ ⟨0,inL false q.a,w,rfl,oM,g1,X,rfl,hO.imp fun cs q h=>h.mono (fun j hj=>u.g j oM) lR,d9.refl _ _,by rw[gH true];rfl⟩) ?_;rintro o e' H3 ⟨ho,g1,w,X,hO,a3⟩;have O:d9 (H.n+1) D H3:=u.trans a3;refine J2 ho X ?_;exact I7 ((hO.wk oM).imp fun cs q h=>h.mono (fun j hj=>by rw[<-hS.g j oM,<-u.g j oM]) lR) (hS.trans (O.wk oM)) ((O.wk oM).low W)
def PB(k:Nat)(b7:X3 144 true 6 true (fsQ true) k)(b8:X3 111 false 6 true (fsQ false) k):X3 144 true 6 true (fsQ true) (k+1):=by
 intro H lo cs q a4 hr hl b6;obtain⟨b9,c0,_⟩:=b6.parts;have a6:=hr;obtain⟨va,ca,wa,O,rfl,h1,h2,h3,h4,_⟩:=hr.filter;obtain⟨D,u⟩:=eY ([iV q.op,.string q.sp,.string q.lc,.string q.vl,.slice va q.a.length ca,.slice wa q.b.length O]:LV);obtain⟨J,X,-,hg,hS⟩:=pushF H (bC D 1);have a5:H.n<=J.low:=by rw[X,l9];exact lR
 have c3:=u5 hg;have b4:ldC (some true) (some 6) 0 D=some (.agg D.toArray):=by rw[u];rfl
 obtain⟨H2,S⟩:=eY (J.push (bC D 6));have E:d9 (H.n+1) J H2:=by rw[S];exact d9.push oM
 have c4:=E.n;have U:H2.g H.n=_:=(E.g H.n oM).trans hg;rw[<-u]at a6;have hO:t7 H2 (H.n+1) 6 (QR H2 lo (k+1) true) (sL J.n 1 1) [q]:=by
  rw[S];refine t7.fresh rfl oM (x9.one (by rw[u];rfl) (a6.mono (fun j hj=>?_) lR));rw[i9 oM,hS.g j oM]
 have hs:fsQ true q=[q]++(fsL true q.a++fsL false q.b):=by rw[iR true q,cA rfl];rfl
 have a8:=h1.mono (H':=H2) (fun j hj=>by rw[E.g j oM,hS.g j oM]) lR;rw[hs,<-aaX]at hl ⊢;have b3:([q]++fsL true q.a).length<=1000000:=by rw[ib]at hl;omega
 have b1:D[4]?=some (.slice va q.a.length ca):=by rw[u];rfl
 have b2:D[5]?=some (.slice wa q.b.length O):=by rw[u];rfl
 have a2:D.all oC=true:=by rw[u];rfl
 have b0:(Value.agg D.toArray).cells.toList=D:=rfl;have b5:D.length=6:=by rw[u];rfl
 rw[i8 TB rfl _ sM,<-u];have a7:bsA prog (some 143) J 1 [(0,.agg D.toArray)]=some (sL J.n 1 1,H2):=by
  rw[u,S,u];simp only[E5,ch,E6];rfl
 refine J5 a2 X.symm hg b4 a7 ?_;refine j5 (F:=fun z=>P4 (t6 _ _ _ (u6 (inBlock 0 z) _)) _ _ _ _) (Lo (fsQ true) k b7 H2 lo H.n a4 (u5 U) va ca q.a a8 h3 _ U b1 ([q]++fsL true q.a) b3 b9 q.a.length _ _ ⟨0,[q],_,rfl,oM,rfl,rfl,rfl,hO,d9.refl _ _,by rw[x8];rfl⟩) ?_;rintro o e' H3 ⟨ho,g1,w,g3,hO,I⟩;have c5:=I.n;have a3:H3.g H.n=_:=(I.g H.n oM).trans U;have W:=h2.mono (H':=H3) (fun j hj=>by rw[I.g j oM,E.g j oM,hS.g j oM]) lR;refine J3 ho g1 g3 ?_;refine j5 (F:=fun z=>P4 (t6 _ _ _ (u6 (inBlock 2 z) _)) _ _ _ _) (Lp (fsQ false) k b8 H3 lo H.n a4 (u5 a3) wa O q.b W h4 _ a3 b2 ([q]++fsL true q.a++fsL false q.b) hl c0 q.b.length _ _ ⟨0,[q]++fsL true q.a,w,rfl,oM,g1,g3,rfl,hO.imp fun cs q h=>h.mono (fun j hj=>I.g j oM) lR,d9.refl _ _,by rw[x8 false];rfl⟩) ?_;rintro o e' H4 ⟨ho,g1,w,g3,hO,a9⟩;have a1:d9 (H.n+1) J H4:=(E.trans I).trans a9;refine J2 ho g3 ?_;exact I7 ((hO.wk oM).imp fun cs q h=>h.mono (fun j hj=>by rw[<-hS.g j oM,<-E.g j oM,<-I.g j oM]) lR) (hS.trans (a1.wk oM)) ((a1.wk oM).low a5)
def Pz:∀k,X3 111 false 6 true (fsQ false) k/\X3 144 true 6 true (fsQ true) k:=by
 intro k;induction k with
 |zero=>exact⟨fun H lo cs q u z=>z.elim,fun H lo cs q u z=>z.elim⟩
 |succ k h=>exact⟨Um k h.1 h.2,PB k h.2 h.1⟩
def Un(k:Nat)(d2:X3 109 true 3 false (inQ true) k)(d3:X3 74 false 3 false (inQ false) k):X3 109 true 3 false (inQ true) (k+1):=by
 intro H lo cs q d0 hr hl d1;obtain⟨d4,d5,_,_,d6⟩:=d1.parts;have a5:=(eW d6).2.2.1;simp only[aab]at a5;obtain⟨va,ca,wa,b4,rfl,h1,h2,h3,h4,_⟩:=hr.filter;obtain⟨H1,a6,-,hg,X⟩:=pushF H (bC [iV q.op,.string q.sp,.string q.lc,.string q.vl,.slice va q.a.length ca,.slice wa q.b.length b4] 1);have S:H.n<=H1.low:=by rw[a6,l9];exact lR
 have c8:=u5 hg;have b5:=h1.mono (H':=H1) (fun j hj=>X.g j oM) lR;rw[kq]at hl ⊢;have a4:(inL true q.a).length<=1000000:=by rw[ib]at hl;omega
 rw[i8 HK rfl _ sM];refine J1 a6.symm ?_;refine j5 (F:=fun z=>P4 (t6 _ _ _ (u6 (inBlock 0 z) _)) _ _ _ _) (PH (inQ true) k d2 H1 lo H.n d0 c8 va ca q.a b5 h3 _ hg rfl (inL true q.a) a4 d4 q.a.length _ _ ⟨0,[],_,rfl,oM,rfl,rfl,rfl,t7.nil,d9.refl _ _,by rw[gH];rfl⟩) ?_;rintro o e' H2 ⟨ho,g1,w,g3,hO,u⟩;have e2:=u.n;have a3:H2.g H.n=_:=(u.g H.n oM).trans hg;rcases b:decide (q.op=11)with _|_
 .have hb:=dF b;rw[bt hb,aaq];refine J5 ho g1 g3 a3 b ?_;exact I7 ((hO.wk oM).imp fun cs q h=>h.mono (fun j hj=>by rw[<-X.g j oM]) lR) (X.trans (u.wk oM)) ((u.wk oM).low S)
 have hb:=dT b;rw[cA hb]at hl ⊢;have a4:=a5.1 hb;obtain⟨x,nb,o,cs,own,el,hx,hd,rfl,e1,b1,c9,U,hR⟩:=h2.row (i:=0) oM;have a2:q.b=[x]:=by
  obtain⟨y,hy⟩:=aa2.1 a4;rw[hy]at hx ⊢;simpa using hx
 have c5:inL false q.b=inQ false x:=by rw[a2,gH];simp
 rw[c5,a2]at hl ⊢;simp only[ib,A1,aaG]at hl;simp only[qSz,aab,bF,aby,abd,aa8,aaf]at U b1 c9;have O:H2.g nb=_:=(u.g nb oM).trans ((X.g nb oM).trans b1);have D:QR H2 lo k false el x:=hR.mono (fun j hj=>by rw[u.g j oM,X.g j oM]) lR;obtain⟨v,h,H3,c4,c7,b6,E⟩:=d3 H2 lo el x oM D oM (d5 x (by rw[a2];simp));have a7:t7 H3 H2.n 3 (QR H1 lo (k+1) false) v (inQ false x):=b6.imp fun cs q h=>(h.mono (fun j hj=>(u.g j oM).symm) lR).up;have e4:=E.n;obtain⟨v',h',I,ha,a9,b7,J⟩:=(hO.keep E).append (P:=prog) (t:=22) (n:=H3.n) (by exact oO.2.2.2.2.2.2) fS.1 fS.2.1 fS.2.2.1 oM oM a7.sl oM oM;have e5:=J.n;have c6:I.g H.n=_:=(J.g H.n oM).trans ((E.g H.n oM).trans a3);have b2:I.g nb=_:=(J.g nb oM).trans ((E.g nb oM).trans O);obtain⟨H5,W⟩:=eY (I.push (bC el 3));have a1:d9 I.n I H5:=by rw[W];exact d9.push oM
 have e6:=a1.n;have b8:t7 H5 I.n 3 (QR H1 lo (k+1) false) (sL I.n 1 1) [x]:=by
  rw[W];refine t7.fresh rfl oM (x9.one hR.len (D.up.mono (fun j hj=>(u.g j oM).symm) lR))
 obtain⟨v6,h6,H6,c3,b0,b9,c0⟩:=(b7.keep a1).append (P:=prog) (t:=22) (n:=H5.n) (by exact oO.2.2.2.2.2.2) fS.1 fS.2.1 fS.2.2.1 oM oM b8.sl (by simp only[ib,A1,aaG];omega) oM;have b3:bsA prog (some 25) I 1 [(0,.agg el.toArray)]=some (sL I.n 1 1,H5):=by
  have e3:el=[iV x.op,el[1]?.getD undef,el[2]?.getD undef]:=by
   cases k with
   |zero=>exact D.elim
   |succ k=>obtain⟨_,_,_,_,rfl,_⟩:=D.path;rfl
  rw[W];cases k with
  |zero=>exact D.elim
  |succ k=>
   obtain⟨_,_,_,_,rfl,_⟩:=D.path;simp only[E5,fS,E6];rfl
 refine J16 ho g1 g3 a3 b O U c4 c7 ha a9 c6 b2 b3 c3 b0 ?_;have a8:d9 (H.n+1) H1 H6:=(((u.trans (E.wk oM)).trans J).trans (a1.wk oM)).trans c0;rw[<-aaX];exact I7 ((b9.wk oM).imp fun cs q h=>h.mono (fun j hj=>by rw[<-X.g j oM]) lR) (X.trans (a8.wk oM)) ((a8.wk oM).low S)
def PT:∀k,X3 74 false 3 false (inQ false) k/\X3 109 true 3 false (inQ true) k:=by
 intro k;induction k with
 |zero=>exact⟨fun H lo cs q u z=>z.elim,fun H lo cs q u z=>z.elim⟩
 |succ k h=>exact⟨Ul k h.1 h.2,Un k h.2 h.1⟩
abbrev M8(x y:aes×aes):Bool:=decide (x.1=y.1)&&decide (x.2=y.2)
abbrev cN(x y:aes):Bool:=decide (x=y)
abbrev bV(x y:Bool×Bool×aes):Bool:=(x.1==y.1)&&((x.2.1==y.2.1)&&decide (x.2.2=y.2.2))
def LM(H0:d7)(lo:Nat)(va:Option Addr)(U:Nat)(l:List (aes×aes))(x:aes×aes)(hv:SlI H0 lo 2 (u9 nmE) (.slice va l.length U) l)(hn:l.length<=1048576)(bx:Nat)(W:H0.g bx=cE (nmE x) 1)(r:Bool):
  ∀S e H2,(∃i:Nat,S=l.length-i/\i<=l.length/\e.g 0= .slice va l.length U/\e.g 3=pT bx/\e.g 5=iV i/\H2=H0/\(l.drop i).any (fun y=>M8 y x)=r)->
  u7 (LE prog l7 (.loop XG) e H2) (fun o e H2=>H2=H0/\((o= .exit 0/\r=false)\/(o= .ret/\e.g 4= .bool true/\r=true))):=by
 refine i5 _ _ ?_;rintro S e H2 ⟨i,hk,hi,D,E,J,hH,u⟩;subst hH;rcases b:decide ((i:Int)<l.length)with _|_
 .have O:=dF b;have:l.drop i=[]:=dN oM;rw[this,ad1]at u;refine J4 D E J b ?_;exact i6 ⟨rfl,.inl ⟨rfl,u.symm⟩⟩
 have O:=dT b;obtain⟨y,nb,o,cs,own,el,hx,hd,rfl,a2,X,a1,h,hc,rfl⟩:=hv.row (i:=i) oM;have nt:(i:Int).toNat=i:=tN i;have I:=hc 0 oM;rw[aaf]at I;rw[hd,acf]at u;rcases z:(M8 y x:Bool)with _|_
 .simp only[z,bF,abA]at u;refine J13 D E J @D4 @aw b W X nt h I @wrap_small z ?_;exact d8 (S-1) oM ⟨i+1,oM,oM,D,E,rfl,rfl,u⟩
 .simp only[z,aab,abR]at u;refine J13 D E J @D4 @aw b W X nt h I @wrap_small z ?_;exact w9 ⟨rfl,.inr ⟨rfl,rfl,u.symm⟩⟩
def Qf(H0:d7)(lo:Nat)(va:Option Addr)(U:Nat)(l:List (aes))(x:aes)(hv:SlI H0 lo 1 (u9 stE) (.slice va l.length U) l)(hn:l.length<=1048576)(r:Bool):
  ∀S e H2,(∃i:Nat,S=l.length-i/\i<=l.length/\e.g 0= .slice va l.length U/\e.g 1= .string x/\e.g 5=iV i/\H2=H0/\(l.drop i).any (fun y=>cN y x)=r)->
  u7 (LE prog l7 (.loop Nd) e H2) (fun o e H2=>H2=H0/\((o= .exit 0/\r=false)\/(o= .ret/\e.g 4= .bool true/\r=true))):=by
 refine i5 _ _ ?_;rintro S e H2 ⟨i,hk,hi,D,E,J,hH,u⟩;subst hH;rcases b:decide ((i:Int)<l.length)with _|_
 .have O:=dF b;have:l.drop i=[]:=dN oM;rw[this,ad1]at u;refine J4 D E J b ?_;exact i6 ⟨rfl,.inl ⟨rfl,u.symm⟩⟩
 have O:=dT b;obtain⟨y,nb,o,cs,own,el,hx,hd,rfl,a2,W,a1,h,hc,rfl⟩:=hv.row (i:=i) oM;have X:(i:Int).toNat=i:=tN i;have I:=hc 0 oM;rw[aaf]at I;rw[hd,acf]at u;rcases z:(cN y x:Bool)with _|_
 .simp only[z,bF,abA]at u;refine J12 D E J @D4 @aw b W X h I @wrap_small z ?_;exact d8 (S-1) oM ⟨i+1,oM,oM,D,E,rfl,rfl,u⟩
 .simp only[z,aab,abR]at u;refine J12 D E J @D4 @aw b W X h I @wrap_small z ?_;exact w9 ⟨rfl,.inr ⟨rfl,rfl,u.symm⟩⟩
def Qe(H0:d7)(lo:Nat)(va:Option Addr)(W:Nat)(l:List (Bool×Bool×aes))(x:Bool×Bool×aes)(hv:SlI H0 lo 3 (u9 soE) (.slice va l.length W) l)(hn:l.length<=1048576)(bx:Nat)(X:H0.g bx=cE (soE x) 1)(r:Int):
  ∀U e H2,(∃i:Nat,U=l.length-i/\i<=l.length/\e.g 0= .slice va l.length W/\e.g 3=pT bx/\e.g 7=iV l.length/\e.g 8=iV i/\H2=H0/\ixG (fun y=>bV x y) (l.drop i) i=r)->
  u7 (LE prog l7 (.loop Pb) e H2) (fun o e H2=>H2=H0/\((o= .exit 0/\r= -1)\/(o= .ret/\e.g 4=iV r))):=by
 refine i5 _ _ ?_;rintro U e H2 ⟨i,hk,hi,D,E,I,O,hH,u⟩;subst hH;rcases b:decide ((i:Int)<l.length)with _|_
 .have S:=dF b;have:l.drop i=[]:=dN oM;rw[this,ixG]at u;refine J5 D E I O b ?_;exact i6 ⟨rfl,.inl ⟨rfl,u.symm⟩⟩
 have S:=dT b;obtain⟨y,nb,o,cs,own,el,hx,hd,rfl,a2,hg,a1,h,hc,rfl⟩:=hv.row (i:=i) oM;have nt:(i:Int).toNat=i:=tN i;have J:=hc 0 oM;rw[aaf]at J;rw[hd,ixG]at u;rcases z:(bV x y:Bool)with _|_
 .simp only[z,bF,abA]at u;refine J14 D E I O @D4 @aw b X hg nt h J @wrap_small z ?_;exact d8 (U-1) oM ⟨i+1,oM,oM,D,E,I,rfl,rfl,u⟩
 .simp only[z,aab,abR]at u;refine J14 D E I O @D4 @aw b X hg nt h J @wrap_small z ?_;exact w9 ⟨rfl,.inr ⟨rfl,by rw[<-u];rfl⟩⟩
def LL(H0:d7)(lo:Nat)(va:Option Addr)(W:Nat)(l:List (aes))(x:aes)(hv:SlI H0 lo 1 (u9 stE) (.slice va l.length W) l)(hn:l.length<=1048576)(r:Int):
  ∀U e H2,(∃i:Nat,U=l.length-i/\i<=l.length/\e.g 0= .slice va l.length W/\e.g 1= .string x/\e.g 7=iV l.length/\e.g 8=iV i/\H2=H0/\ixG (fun y=>cN x y) (l.drop i) i=r)->
  u7 (LE prog l7 (.loop OT) e H2) (fun o e H2=>H2=H0/\((o= .exit 0/\r= -1)\/(o= .ret/\e.g 4=iV r))):=by
 refine i5 _ _ ?_;rintro U e H2 ⟨i,hk,hi,D,E,I,O,hH,u⟩;subst hH;rcases b:decide ((i:Int)<l.length)with _|_
 .have S:=dF b;have:l.drop i=[]:=dN oM;rw[this,ixG]at u;refine J5 D E I O b ?_;exact i6 ⟨rfl,.inl ⟨rfl,u.symm⟩⟩
 have S:=dT b;obtain⟨y,nb,o,cs,own,el,hx,hd,rfl,a2,X,a1,h,hc,rfl⟩:=hv.row (i:=i) oM;have nt:(i:Int).toNat=i:=tN i;have J:=hc 0 oM;rw[aaf]at J;rw[hd,ixG]at u;rcases z:(cN x y:Bool)with _|_
 .simp only[z,bF,abA]at u;refine J13 D E I O @D4 @aw b X nt h J @wrap_small z ?_;exact d8 (U-1) oM ⟨i+1,oM,oM,D,E,I,rfl,rfl,u⟩
 .simp only[z,aab,abR]at u;refine J13 D E I O @D4 @aw b X nt h J @wrap_small z ?_;exact w9 ⟨rfl,.inr ⟨rfl,by rw[<-u];rfl⟩⟩
def LN(H0:d7)(lo:Nat)(va:Option Addr)(W:Nat)(l:List (aes×aes))(x:aes×aes)(hv:SlI H0 lo 2 (u9 nmE) (.slice va l.length W) l)(hn:l.length<=1048576)(bx:Nat)(X:H0.g bx=cE (nmE x) 1)(r:Int):
  ∀U e H2,(∃i:Nat,U=l.length-i/\i<=l.length/\e.g 0= .slice va l.length W/\e.g 3=pT bx/\e.g 7=iV l.length/\e.g 8=iV i/\H2=H0/\ixG (fun y=>M8 x y) (l.drop i) i=r)->
  u7 (LE prog l7 (.loop XQ) e H2) (fun o e H2=>H2=H0/\((o= .exit 0/\r= -1)\/(o= .ret/\e.g 4=iV r))):=by
 refine i5 _ _ ?_;rintro U e H2 ⟨i,hk,hi,D,E,I,O,hH,u⟩;subst hH;rcases b:decide ((i:Int)<l.length)with _|_
 .have S:=dF b;have:l.drop i=[]:=dN oM;rw[this,ixG]at u;refine J5 D E I O b ?_;exact i6 ⟨rfl,.inl ⟨rfl,u.symm⟩⟩
 have S:=dT b;obtain⟨y,nb,o,cs,own,el,hx,hd,rfl,a2,hg,a1,h,hc,rfl⟩:=hv.row (i:=i) oM;have nt:(i:Int).toNat=i:=tN i;have J:=hc 0 oM;rw[aaf]at J;rw[hd,ixG]at u;rcases z:(M8 x y:Bool)with _|_
 .simp only[z,bF,abA]at u;refine J14 D E I O @D4 @aw b X hg nt h J @wrap_small z ?_;exact d8 (U-1) oM ⟨i+1,oM,oM,D,E,I,rfl,rfl,u⟩
 .simp only[z,aab,abR]at u;refine J14 D E I O @D4 @aw b X hg nt h J @wrap_small z ?_;exact w9 ⟨rfl,.inr ⟨rfl,by rw[<-u];rfl⟩⟩
def Lk(H:d7)(lo:Nat)(v:aet)(l:List (aes×aes))(x:aes×aes)(a1:lo<=H.n)(O:SlI H lo 2 (u9 nmE) v l)(hn:l.length<=1048576):CL prog l7 145 [v,.agg (nmE x).toArray] H=some (.bool (l.any (fun y=>M8 y x)),none):=by
 obtain⟨va,S,rfl⟩:=O.slice;obtain⟨E,h,-,X,W⟩:=pushF H (bC (nmE x) 1);have J:H.n<=E.low:=by rw[h,l9];exact lR
 rw[i8 TC rfl _ sM];refine J1 h.symm ?_;refine j5 (F:=fun z=>t6 _ _ _ (u6 (inBlock 0 z) _)=_) (LM E lo va S l x (O.mono (fun j hj=>W.g j oM) lR iF) hn H.n X (l.any (fun y=>M8 y x)) l.length _ _ ⟨0,rfl,oM,rfl,rfl,rfl,rfl,rfl⟩) ?_;rintro o e' H' ⟨I,⟨u,D⟩|⟨u,U,D⟩⟩
 .exact J3 u I D trivial
 .exact J4 u I U D trivial
def HG(H:d7)(lo:Nat)(v:aet)(l:List (Bool×Bool×aes))(x:Bool×Bool×aes)(X:lo<=H.n)(J:SlI H lo 3 (u9 soE) v l)(hn:l.length<=1048576):CL prog l7 139 [v,.agg (soE x).toArray] H=some (.int .i64 (ixG (fun y=>bV x y) l 0),none):=by
 obtain⟨va,O,rfl⟩:=J.slice;obtain⟨D,h,-,W,U⟩:=pushF H (bC (soE x) 1);have I:H.n<=D.low:=by rw[h,l9];exact lR
 rw[i8 Np rfl _ sM];refine J1 h.symm ?_;refine j5 (F:=fun z=>t6 _ _ _ (u6 (inBlock 0 z) _)=_) (Qe D lo va O l x (J.mono (fun j hj=>U.g j oM) lR iF) hn H.n W (ixG (fun y=>bV x y) l 0) l.length _ _ ⟨0,rfl,oM,rfl,rfl,rfl,rfl,rfl,rfl⟩) ?_;rintro o e' H' ⟨E,⟨u,hr⟩|⟨u,S⟩⟩
 .exact J3 u E hr trivial
 .exact J3 u E S trivial
def CA(H:d7)(lo:Nat)(v:aet)(l:List (aes×aes))(x:aes×aes)(X:lo<=H.n)(J:SlI H lo 2 (u9 nmE) v l)(hn:l.length<=1048576):CL prog l7 167 [v,.agg (nmE x).toArray] H=some (.int .i64 (ixG (fun y=>M8 x y) l 0),none):=by
 obtain⟨va,O,rfl⟩:=J.slice;obtain⟨D,h,-,W,U⟩:=pushF H (bC (nmE x) 1);have I:H.n<=D.low:=by rw[h,l9];exact lR
 rw[i8 Xc rfl _ sM];refine J1 h.symm ?_;refine j5 (F:=fun z=>t6 _ _ _ (u6 (inBlock 0 z) _)=_) (LN D lo va O l x (J.mono (fun j hj=>U.g j oM) lR iF) hn H.n W (ixG (fun y=>M8 x y) l 0) l.length _ _ ⟨0,rfl,oM,rfl,rfl,rfl,rfl,rfl,rfl⟩) ?_;rintro o e' H' ⟨E,⟨u,hr⟩|⟨u,S⟩⟩
 .exact J3 u E hr trivial
 .exact J3 u E S trivial
def Aj(H:d7)(lo:Nat)(v:aet)(l:List (aes))(x:aes)(O:lo<=H.n)(E:SlI H lo 1 (u9 stE) v l)(S:l.length<=1048576):CL prog l7 78 [v,.string x] H=some (.bool (l.any (fun y=>cN y x)),none):=by
 obtain⟨U,I,rfl⟩:=E.slice;rw[i8 HU rfl _ sM];refine J1 bq ?_;refine j5 (F:=fun z=>t6 _ _ _ (u6 (inBlock 0 z) _)=_) (Qf ⟨H.bs,H.n⟩ lo U I l x (E.mono (fun _ _=>rfl) lR iF) S (l.any (fun y=>cN y x)) l.length _ _ ⟨0,rfl,oM,rfl,rfl,rfl,rfl,rfl⟩) ?_;rintro o e' H' ⟨D,⟨h,u⟩|⟨h,J,u⟩⟩
 .exact J3 h D u trivial
 .exact J4 h D J u trivial
def Lj(H:d7)(lo:Nat)(v:aet)(l:List (aes))(x:aes)(J:lo<=H.n)(D:SlI H lo 1 (u9 stE) v l)(O:l.length<=1048576):CL prog l7 129 [v,.string x] H=some (.int .i64 (ixG (fun y=>cN x y) l 0),none):=by
 obtain⟨U,E,rfl⟩:=D.slice;rw[i8 HO rfl _ sM];refine J1 bq ?_;refine j5 (F:=fun z=>t6 _ _ _ (u6 (inBlock 0 z) _)=_) (LL ⟨H.bs,H.n⟩ lo U E l x (D.mono (fun _ _=>rfl) lR iF) O (ixG (fun y=>cN x y) l 0) l.length _ _ ⟨0,rfl,oM,rfl,rfl,rfl,rfl,rfl,rfl⟩) ?_;rintro o e' H' ⟨u,⟨h,S⟩|⟨h,I⟩⟩
 .exact J3 h u S trivial
 .exact J3 h u I trivial
def Ig(H:d7)(lo:Nat)(v:aet)(l:List (aes))(x:aes)(h:lo<=H.n)(D:SlI H lo 1 (u9 stE) v l)(z:l.length<=1048576):CL prog l7 97 [v,.string x] H=some (.bool (l.any fun y=>cN x y),none):=by
 have u:=Lj ⟨H.bs,H.n⟩ lo v l x h (D.mono (fun _ _=>rfl) lR iF) z;rw[i8 Uj rfl _ sM,<-jt];exact J1 u trivial
def Up(H:d7)(lo:Nat)(v:aet)(l:List (Bool×Bool×aes))(x:Bool×Bool×aes)(O:lo<=H.n)(W:SlI H lo 3 (u9 soE) v l)(S:l.length<=1048576):CL prog l7 103 [v,.agg (soE x).toArray] H=some (.bool (l.any fun y=>bV x y),none):=by
 obtain⟨z,h,-,J,D⟩:=pushF H (bC (soE x) 1);have E:H.n<=z.low:=by rw[h,l9];exact lR
 have U:=D.n;have I:=HG z lo v l x oM (W.mono (fun j X=>D.g j oM) lR iF) S;have u:ldC (some true) (some 3) 0 (soE x)=some (.agg (soE x).toArray):=rfl;rw[i8 HI rfl _ sM,<-jt];exact J4 h.symm J u I trivial
def PM(H:d7)(lo:Nat)(v:aet)(l:List (aes×aes))(x:aes×aes)(O:lo<=H.n)(W:SlI H lo 2 (u9 nmE) v l)(S:l.length<=1048576):CL prog l7 166 [v,.agg (nmE x).toArray] H=some (.bool (l.any fun y=>M8 x y),none):=by
 obtain⟨z,h,-,J,D⟩:=pushF H (bC (nmE x) 1);have E:H.n<=z.low:=by rw[h,l9];exact lR
 have U:=D.n;have I:=CA z lo v l x oM (W.mono (fun j X=>D.g j oM) lR iF) S;have u:ldC (some true) (some 2) 0 (nmE x)=some (.agg (nmE x).toArray):=rfl;rw[i8 Zi rfl _ sM,<-jt];exact J4 h.symm J u I trivial
def lQ{α:Type}(p:Q->Bool)(g:Q->α)(eq:α->α->Bool)(acc:List α)(l:List Q):List α:=l.foldl (fun acc f=>if p f&& !acc.any (fun y=>eq y (g f)) then acc++[g f] else acc) acc
def fD{α:Type}(p:Q->Bool)(g:Q->α)(u:α->α->Bool)(h:List α)(x:Q)(l:List Q):lQ p g u h (x::l)=lQ p g u (if p x&& !h.any (fun y=>u y (g x)) then h++[g x] else h) l:=rfl
def cT{α:Type}(p:Q->Bool)(g:Q->α)(u:α->α->Bool):∀(l:List Q)(h:List α),(lQ p g u h l).length<=h.length+l.length
 |[],h=>lR
 |x::l,h=>by
  rw[fD,A1];have:=cT p g u l (if p x&& !h.any (fun y=>u y (g x)) then h++[g x] else h);have z:(if p x&& !h.any (fun y=>u y (g x)) then h++[g x] else h).length<=h.length+1:=by split<;>simp
  omega
abbrev qNm(f:Q):aes×aes:=(f.sp,f.lc)
def aN(from_ to_:Int)(f:Q):Bool:=decide (from_<=f.op)&&decide (f.op<=to_)
def dx(op:Int)(n:aes×aes)(f:Q):Bool:=decide (f.op=op)&&M8 (qNm f) n
def AU(k:Nat)(O:d7)(lo:Nat)(b0:lo<=O.n)(va:Option Addr)(ca:Nat)(l:List Q)(hv:QsR O lo k true (.slice va l.length ca) l)(hn:l.length<=1000000)(a b:Int)(r:List (aes×aes)):
  ∀kk e H2,(∃(i:Nat)(h:List (aes×aes))(w:aet),kk=l.length-i/\i<=l.length/\h.length<=i/\e.g 0= .slice va l.length ca/\e.g 1=iV a/\e.g 2=iV b/\e.g 7=w/\e.g 8=iV i/\t7 H2 O.n 2 (u9 nmE) w h/\d9 O.n O H2/\lQ (aN a b) qNm M8 h (l.drop i)=r)->
  u7 (LE prog l7 (.loop Xv) e H2) (fun o e H2=>o= .exit 0/\∃w,e.g 7=w/\t7 H2 O.n 2 (u9 nmE) w r/\d9 O.n O H2):=by
 refine i5 _ _ ?_;rintro kk e H2 ⟨i,h,w,hk,hi,a9,D,E,I,J,f8,hO,W,u⟩;have b5:=W.n;rcases U:decide ((i:Int)<l.length)with _|_
 .have a4:=dF U;have:l.drop i=[]:=dN oM;rw[this]at u;refine J6 D E I J f8 U ?_;exact i6 ⟨rfl,w,J,by rw[<-u];exact hO,W⟩
 have a4:=dT U;obtain⟨x,nb,o,cs,own,el,hx,hd,rfl,b4,hg,a5,a7,hc,hR⟩:=SlI.row hv (i:=i) oM;have nt:(i:Int).toNat=i:=tN i;cases k with
 |zero=>exact hR.elim
 |succ k=>
 obtain⟨b6,a8,wa,a6,rfl,_⟩:=hR.filter;have z:=(W.g nb oM).trans hg;have X:=hc 0 (by simp [qSz]);rw[aaf]at X;have c1:=wj (j:=1) (m:=2) hc a5 (by simp [qSz]);simp only[qSz,aab,abF,aan,abl,acy,aar]at X c1 z;rw[hd,fD]at u;have hh:=Lk H2 H2.n w h (qNm x) lR hO.sl oM;rcases S:decide (a<=x.op)with _|_
 .have hp:aN a b x=false:=by rw[aN,S];rfl
  rw[hp]at u;refine J12 D E I J f8 U z nt X c1 S @wrap_small ?_;exact d8 (kk-1) oM ⟨i+1,h,w,oM,oM,oM,D,E,I,J,rfl,hO,W,u⟩
 rcases b2:decide (x.op<=b)with _|_
 .have hp:aN a b x=false:=by rw[aN,S,b2];rfl
  rw[hp]at u;refine J13 D E I J f8 U z nt X c1 S b2 @wrap_small ?_;exact d8 (kk-1) oM ⟨i+1,h,w,oM,oM,oM,D,E,I,J,rfl,hO,W,u⟩
 have hp:aN a b x=true:=by rw[aN,S,b2];rfl
 rw[hp]at u;rcases b3:h.any (fun y=>M8 y (qNm x))with _|_
 .rw[b3]at u hh;obtain⟨v',h',H4,ha,a1,a2,a3⟩:=hO.push1 (P:=prog) (t:=117) (by exact AH.2.2.2.2.2.2) We.1 We.2.1 We.2.2.1 oM oM (cs:=[.string x.sp,.string x.lc]) (a:=qNm x) rfl rfl oM oM;refine J16 D E I J f8 U z nt X c1 S b2 hh ha a1 @wrap_small ?_;refine d8 (kk-1) oM ⟨i+1,h++[qNm x],v',oM,oM,by simp;omega,D,E,I,rfl,rfl,a2,W.trans a3,u⟩
 .rw[b3]at u hh;refine J14 D E I J f8 U z nt X c1 S b2 hh @wrap_small ?_;exact d8 (kk-1) oM ⟨i+1,h,w,oM,oM,oM,D,E,I,J,rfl,hO,W,u⟩
def U3(a b:Int)(l:List Q):List (aes×aes):=lQ (aN a b) qNm M8 [] l
def uo(H:d7)(lo k:Nat)(v:aet)(l:List Q)(a b:Int)(h:lo<=H.n)(I:QsR H lo k true v l)(U:l.length<=1000000):P4 (CL prog l7 112 [v,iV a,iV b] H) H 2 (u9 nmE) (U3 a b l):=by
 obtain⟨J,D,rfl⟩:=SlI.slice I;rw[i8 Tf rfl _ sM];refine J1 ty3 ?_;have u:QsR ⟨H.bs,H.n⟩ lo k true (.slice J l.length D) l:=I.mono (fun _ _=>rfl) lR;refine j5 (F:=fun z=>P4 (t6 _ _ _ (u6 (inBlock 0 z) _)) _ _ _ _) (AU k ⟨H.bs,H.n⟩ lo h J D l u U a b (U3 a b l) l.length _ _ ⟨0,[],_,rfl,oM,by simp,rfl,rfl,rfl,rfl,rfl,t7.nil,d9.refl _ _,rfl⟩) ?_;rintro o e' X ⟨W,w,O,S,E⟩;refine J2 W O ?_;exact I7 S ((d9.start H).trans E) (E.low lR)
def zg(k:Nat)(H1:d7)(lo E:Nat)(b4:lo<=E)(b0:E<H1.n)(va:Option Addr)(ca:Nat)(l:List Q)(hv:QsR H1 lo k true (.slice va l.length ca) l)(hn:l.length<=1000000)(a:Int)(n:aes×aes)(hb:H1.g E=cE (nmE n) 1)(r:List aes):
  ∀kk e H2,(∃(i:Nat)(h:List aes)(w:aet),kk=l.length-i/\i<=l.length/\h.length<=i/\e.g 0= .slice va l.length ca/\e.g 1=iV a/\e.g 5=pT E/\e.g 7=w/\e.g 8=iV i/\t7 H2 (E+1) 1 (u9 stE) w h/\d9 (E+1) H1 H2/\lQ (dx a n) Q.vl cN h (l.drop i)=r)->
  u7 (LE prog l7 (.loop OI) e H2) (fun o e H2=>o= .exit 0/\∃w,e.g 7=w/\t7 H2 (E+1) 1 (u9 stE) w r/\d9 (E+1) H1 H2):=by
 refine i5 _ _ ?_;rintro kk e H2 ⟨i,h,w,hk,hi,a9,I,J,O,S,f8,hO,W,z⟩;have b6:=W.n;have U:=(W.g E oM).trans hb;have u:ldC (some true) (some 2) 0 (nmE n)=some (.agg (nmE n).toArray):=rfl;rcases bb:decide ((i:Int)<l.length)with _|_
 .have a4:=dF bb;have:l.drop i=[]:=dN oM;rw[this]at z;refine J6 I J O S f8 bb ?_;exact i6 ⟨rfl,w,S,by rw[<-z];exact hO,W⟩
 have a4:=dT bb;obtain⟨x,nb,o,cs,own,el,hx,hd,rfl,b5,hg,a5,a7,hc,hR⟩:=SlI.row hv (i:=i) oM;have nt:(i:Int).toNat=i:=tN i;cases k with
 |zero=>exact hR.elim
 |succ k=>
 obtain⟨b7,a8,wa,a6,rfl,_⟩:=hR.filter;have D:=(W.g nb oM).trans hg;have c0:=hc 0 (by simp [qSz]);rw[aaf]at c0;have c1:=wj (j:=1) (m:=2) hc a5 (by simp [qSz]);have c3:=hc 3 (by simp [qSz]);simp only[qSz,aab,abF,aan,abl,acy,aar,aap]at c0 c1 c3 D;rw[hd,fD]at z;have hh:=Aj H2 H2.n w h x.vl lR hO.sl oM;rcases X:decide (x.op=a)with _|_
 .have hp:dx a n x=false:=by rw[dx,X];rfl
  rw[hp]at z;refine J16 I J O S f8 @D4 bb U u D nt c0 c1 c3 X @wrap_small ?_;exact d8 (kk-1) oM ⟨i+1,h,w,oM,oM,oM,I,J,O,S,rfl,hO,W,z⟩
 rcases b2:(decide (x.sp=n.1)&&decide (x.lc=n.2))with _|_
 .have hp:dx a n x=false:=by rw[dx,X,M8,b2];rfl
  rw[hp]at z;refine J17 I J O S f8 @D4 bb U u D nt c0 c1 c3 X b2 @wrap_small ?_;exact d8 (kk-1) oM ⟨i+1,h,w,oM,oM,oM,I,J,O,S,rfl,hO,W,z⟩
 have hp:dx a n x=true:=by rw[dx,X,M8,b2];rfl
 rw[hp]at z;rcases b3:h.any (fun y=>cN y x.vl)with _|_
 .rw[b3]at z hh;obtain⟨v',h',H4,ha,a1,a2,a3⟩:=hO.push1 (P:=prog) (t:=119) (by exact bq.2.2.2.2.2.2) ty9.1 ty9.2.1 ty9.2.2.1 oM oM (cs:=[.string x.vl]) (a:=x.vl) rfl rfl oM oM;refine J20 I J O S f8 @D4 bb U u D nt c0 c1 c3 X b2 hh ha a1 @wrap_small ?_;refine d8 (kk-1) oM ⟨i+1,h++[x.vl],v',oM,oM,by simp;omega,I,J,O,rfl,rfl,a2,W.trans a3,z⟩
 .rw[b3]at z hh;refine J18 I J O S f8 @D4 bb U u D nt c0 c1 c3 X b2 hh @wrap_small ?_;exact d8 (kk-1) oM ⟨i+1,h,w,oM,oM,oM,I,J,O,S,rfl,hO,W,z⟩
def Q3(a:Int)(n:aes×aes)(l:List Q):List aes:=lQ (dx a n) Q.vl cN [] l
def rh(H:d7)(lo k:Nat)(v:aet)(l:List Q)(a:Int)(n:aes×aes)(I:lo<=H.n)(W:QsR H lo k true v l)(hn:l.length<=1000000):P4 (CL prog l7 113 [v,iV a,.agg (nmE n).toArray] H) H 1 (u9 stE) (Q3 a n l):=by
 obtain⟨X,O,rfl⟩:=SlI.slice W;obtain⟨E,h,-,U,S⟩:=pushF H (bC (nmE n) 1);have D:H.n<=E.low:=by rw[h,l9];exact lR
 rw[i8 Tg rfl _ sM];refine J1 h.symm ?_;have J:QsR E lo k true (.slice X l.length O) l:=W.mono (fun j hj=>S.g j oM) lR;refine j5 (F:=fun z=>P4 (t6 _ _ _ (u6 (inBlock 0 z) _)) _ _ _ _) (zg k E lo H.n I (u5 U) X O l J hn a n U (Q3 a n l) l.length _ _ ⟨0,[],_,rfl,oM,by simp,rfl,rfl,rfl,rfl,rfl,t7.nil,d9.refl _ _,rfl⟩) ?_;rintro o e' H3 ⟨ho,w,g7,hO,u⟩;refine J2 ho g7 ?_;exact I7 (hO.wk oM) (S.trans (u.wk oM)) ((u.wk oM).low D)
def dg1(n:Nat):aes:=⟨#[UInt8.ofNat (48+n)]⟩
def dg(n:Nat):aes:=if h:n<10 then dg1 n else dg (n / 10)++dg (n % 10)
termination_by n
decreasing_by all_goals omega
def dgV(l:List UInt8):Nat:=l.foldl (fun a b=>10*a+(b.toNat-48)) 0
def Y9(a b:aes):(a++b).data.toList=a.data.toList++b.data.toList:=by simp
def Hi:∀n,dgV (dg n).data.toList=n:=by
 intro n;induction n using Nat.strongRecOn with
 |ind n I=>
  rw[dg];split
  .rename_i h;have:∀m:Fin 10,dgV (dg1 m.1).data.toList=m.1:=by decide
   exact this ⟨n,h⟩
  .rename_i h;have u:=I (n / 10) oM;have z:dg (n % 10)=dg1 (n % 10):=by rw[dg,ab0 oM]
   have D:∀m:Fin 10,((UInt8.ofNat (48+m.1)).toNat-48)=m.1:=by decide
   rw[z,Y9,dgV,aaV];rw[dgV]at u;rw[u];show 10*(n / 10)+((UInt8.ofNat (48+n % 10)).toNat-48)=n;have E:((UInt8.ofNat (48+n % 10)).toNat-48)=n % 10:=D ⟨n % 10,oM⟩;rw[E];omega
def vh{n m:Nat}(h:dg n=dg m):n=m:=by rw[<-Hi n,h,Hi]
def oS:∀n,(dg n).size<=n+1:=by
 intro n;induction n using Nat.strongRecOn with
 |ind n u=>
  rw[dg];split
  .show 1<=n+1;omega
  .rename_i h;have D:=u (n / 10) oM;have E:=u (n % 10) oM;have z:(dg (n % 10)).size=1:=by rw[dg,ab0 oM];rfl
   rw[abk,z];omega
def QA{α:Type}(f:Nat->α)(J:∀i j,f i=f j->i=j):∀(l:List α)(u:List Nat),u.Nodup->(∀i∈u,f i∈l)->u.length<=l.length:=by
 intro l u;induction u generalizing l with
 |nil=>intro _ _;simp
 |cons n u O=>
  intro I E;obtain⟨s,t,rfl⟩:=List.append_of_mem (E n sM);have:=O (s++t) (aca.1 I).2 (fun i D=>by
   have h:=E i (by simp [D]);have z:i≠n:=fun q=>(aca.1 I).1 (q▸D);simp only[ns,aam]at h ⊢;rcases h with h|h|h
   .exact .inl h
   .exact absurd (J _ _ h) z
   .exact .inr h)
  simp only[ib,A1]at this ⊢;omega
def eD(p:Nat->Bool):Nat->Nat->Nat
 |0,n=>n
 |k+1,n=>if p n then eD p k (n+1) else n
def eS(p:Nat->Bool):∀k n,(∃m,n<=m/\m<n+k/\p m=false)->p (eD p k n)=false/\eD p k n<n+k
 |0,n,h=>by obtain⟨m,D,E,_⟩:=h;omega
 |k+1,n,h=>by
  rw[eD];split
  .rename_i z;obtain⟨m,D,E,u⟩:=h;have I:m≠n:=fun q=>by rw[q,z]at u;cases u
   have:=eS p k (n+1) ⟨m,oM,oM,u⟩;exact⟨this.1,oM⟩
  next z=>exact⟨by simpa using z,oM⟩
def vn{α:Type}(f:Nat->α)(z:∀i j,f i=f j->i=j) (l:List α) (p:Nat->Bool) (E:∀i,p i=true->f i∈l):∃m,m<l.length+1/\p m=false:=by
 apply aaN;intro h;have u:∀i∈List.range (l.length+1),f i∈l:=fun i D=>E i (by
  cases I:p i with
  |true=>rfl
  |false=>exact absurd ⟨i,aaz.1 D,I⟩ h)
 have:=QA f z l _ adn u;rw[acJ]at this;omega
def KX(n:Nat)(h:n<10):IntKind.wrap .u8 (48+(n:Int))=48+(n:Int):=by
 have:∀m:Fin 10,IntKind.wrap .u8 (48+(m.1:Int))=48+(m.1:Int):=by decide
 exact this ⟨n,h⟩
def GY(H:d7)(b:Nat)(n:Int)(h:H.g b=cE [.int .u8 n] 1)(c:Nat):aU prog H 177 9 (sL b 1 c)=some (.string ⟨#[UInt8.ofNat n.toNat]⟩,none):=by
 have:A6 H 1 (sL b 1 c)=some [.int .u8 n]:=by simp [A6,h]
 simp only[aU,Ld,ty9,ty5,this,aas];rfl
def zL:∀(n:Nat)(H:d7),n<=1000000->CL prog l7 114 [iV n] H=some (.string (dg n),none):=by
 intro n;induction n using Nat.strongRecOn with
 |ind n E=>
  intro H hn;rw[i8 Nk rfl _ sM];rcases b:decide ((n:Int)<10)with _|_
  .have S:=dF b;have J:=E (n / 10) oM;have O:=E (n % 10) oM;have q1:((n:Int).tdiv 10)=((n / 10:Nat):Int):=by rw[adC oM];omega
   have q2:((n:Int).tmod 10)=((n % 10:Nat):Int):=by rw[adD oM];omega
   have z1:=oS (n / 10);have z2:=oS (n % 10);have D:dg n=dg (n / 10)++dg (n % 10):=by rw[dg,ac1 oM]
   have U:∀a:Int,I3 prog .quo 3 (.int .i64 a) (.int .i64 10)=some (.int .i64 (IntKind.wrap .i64 (a.tdiv 10))):=fun a=>vT 3 a 10 oM;have W:∀a:Int,I3 prog .rem 3 (.int .i64 a) (.int .i64 10)=some (.int .i64 (a.tmod 10)):=fun a=>KI 3 .i64 a 10 oM;have X:=dq (P:=prog) 9 (dg (n / 10)) (dg (n % 10)) oM;have u:∀H,CL prog l7 114 [iV ((n / 10:Nat):Int)] H=some (.string (dg (n / 10)),none):=fun H=>J H oM;have z:∀H,CL prog l7 114 [iV ((n % 10:Nat):Int)] H=some (.string (dg (n % 10)),none):=fun H=>O H oM;exact J10 b U W q1 q2 @wrap_small u z X D trivial
  .have S:=dT b;have D:dg n=dg1 n:=by rw[dg,ab0 oM]
   have w1:=KX n oM;have h:=GY (d7.push ⟨H.bs,H.n⟩ (bC [.int .u8 (48+(n:Int))] 1)) H.n (48+n) j7 1;have I:(48+(n:Int)).toNat=48+n:=oM;rw[I]at h;simp(maxSteps:=20000000) -dsimp (disch:=first|omega|(simp only[rH]<;>omega)|fail) only[↓jM,rQ,Q4,sevalprocAttr,tyA,b,wrap_small,w1,h,D,dg1]
def X2(l:List aes)(s:aes):Bool:=l.any fun y=>cN y s
def qn{l:List aes}{s:aes}(h:X2 l s=true):s∈l:=by
 obtain⟨y,u,z⟩:=aa3.1 h;have:=dT z;exact this▸u
def U5(l:List aes):Nat:=eD (fun n=>X2 l (dg n)) (l.length+1) 0
def jy(l:List aes):X2 l (dg (U5 l))=false/\U5 l<l.length+1:=by
 obtain⟨m,z,u⟩:=vn dg (fun i j=>vh) l (fun n=>X2 l (dg n)) (fun i h=>qn h);have:=eS (fun n=>X2 l (dg n)) (l.length+1) 0 ⟨m,oM,oM,u⟩;exact⟨this.1,by have:=this.2;rw[U5];omega⟩
def dQ(p:Nat->Bool):∀k n,n<=eD p k n/\∀m,n<=m->m<eD p k n->p m=true
 |0,n=>⟨lR,fun m u h=>by rw[eD]at h;omega⟩
 |k+1,n=>by
  rw[eD];split
  .rename_i E;obtain⟨u,h⟩:=dQ p k (n+1);exact⟨oM,fun m I z=>by
    by_cases D:m=n
    .rw[D];exact E
    .exact h m oM z⟩
  .exact⟨lR,fun m u h=>oM⟩
def sD(H0:d7)(lo:Nat)(E:lo<=H0.n)(v:aet)(l:List aes)(hv:SlI H0 lo 1 (u9 stE) v l)(hn:l.length<=100000):
  ∀O e H2,(∃n:Nat,O=U5 l+1-n/\n<=U5 l/\e.g 0=v/\e.g 3=iV n/\H2=H0)->
  u7 (LE prog l7 (.loop SK) e H2) (fun o e H2=>H2=H0/\o= .exit 0/\e.g 3=iV (U5 l)):=by
 refine i5 _ _ ?_;rintro O e H2 ⟨n,hk,X,u,z,U⟩;subst U;obtain⟨W,a1⟩:=jy l;have D:=(dQ (fun n=>X2 l (dg n)) (l.length+1) 0).2;have S:=zL n H2 oM;have h:=Aj H2 lo v l (dg n) E hv oM;by_cases I:n=U5 l
 .have J:(l.any fun y=>cN y (dg n))=false:=by rw[I];exact W
  rw[J]at h;refine J4 u z S h ?_;exact i6 ⟨rfl,rfl,by rw[<-I];exact z⟩
 .have J:(l.any fun y=>cN y (dg n))=true:=D n oM (by rw[U5]at I X;omega);rw[J]at h;refine J5 u z S h @wrap_small ?_;exact d8 (O-1) oM ⟨n+1,oM,oM,u,rfl,rfl⟩
def lW(H:d7)(lo:Nat)(v:aet)(l:List aes)(h:lo<=H.n)(S:SlI H lo 1 (u9 stE) v l)(J:l.length<=100000):CL prog l7 79 [v] H=some (.string (dg (U5 l)),none):=by
 obtain⟨U,I⟩:=jy l;have E:∀H,CL prog l7 114 [iV (U5 l:Int)] H=some (.string (dg (U5 l)),none):=fun H=>zL (U5 l) H oM;rw[i8 Uf rfl _ sM];refine J1 ty3 ?_;refine j5 (F:=fun z=>t6 _ _ _ (u6 (inBlock 0 z) _)=_) (sD ⟨H.bs,H.n⟩ lo h v l (S.mono (fun _ _=>rfl) lR iF) J (U5 l+1) _ _ ⟨0,rfl,oM,rfl,rfl,rfl⟩) ?_;rintro o e' H' ⟨D,O,u⟩;exact J4 O D u E trivial
def zS:aes:=⟨#[122]⟩
def zN(n:Nat):aes:=if n=0 then zS else zS++dg n
def Hh(n:Nat):1<=(dg n).size:=by
 rw[dg];split
 .exact acl 1
 .rename_i h;have u:(dg (n % 10)).size=1:=by rw[dg,ab0 oM];rfl
  rw[abk,u];omega
def uN{a b c:aes}(h:a++b=a++c):b=c:=by
 have u:(a++b).data.toList=(a++c).data.toList:=by rw[h]
 rw[Y9,Y9]at u;have z:=List.append_cancel_left u;obtain⟨b⟩:=b;obtain⟨c⟩:=c;have D:b=c:=aaC.1 z;rw[D]
def Rl(i j:Nat)(h:zN i=zN j):i=j:=by
 unfold zN at h;have u:∀n,(zS++dg n).size≠zS.size:=fun n=>by have:=Hh n;rw[abk];omega
 split at h<;>split at h
 .omega
 .exact absurd (congrArg ByteArray.size h).symm (u _)
 .exact absurd (congrArg ByteArray.size h) (u _)
 .exact vh (uN h)
def S9(l:List (aes×aes))(x:aes×aes):Bool:=l.any fun y=>M8 y x
def F7:M8 x y=true↔x=y:=by
 simp only[M8,gk,xo];exact ad2.symm
def tL{l:List (aes×aes)}(h:S9 l x=true):x∈l:=by
 obtain⟨y,u,z⟩:=aa3.1 h;exact(F7.1 z)▸u
def zNm(n:Nat):aes×aes:=(eB,zN n)
def T6(l:List (aes×aes)):Nat:=eD (fun n=>S9 l (zNm n)) (l.length+1) 0
def pd(l:List (aes×aes)):S9 l (zNm (T6 l))=false/\T6 l<l.length+1:=by
 obtain⟨m,z,u⟩:=vn zNm (fun i j h=>Rl i j (congrArg Prod.snd h)) l (fun n=>S9 l (zNm n)) (fun i h=>tL h);have:=eS (fun n=>S9 l (zNm n)) (l.length+1) 0 ⟨m,oM,oM,u⟩;exact⟨this.1,by have:=this.2;rw[T6];omega⟩
def Ja(H0:d7)(lo:Nat)(va:Option Addr)(U:Nat)(l:List (aes×aes))(x:aes×aes)(hv:SlI H0 lo 2 (u9 nmE) (.slice va l.length U) l)(hn:l.length<=100000)(pb:Nat)(hb:H0.g pb=cE (nmE x) 1)(p2:aet)(n3:aet)(r:Bool):
  ∀S e H2,(∃(i:Nat)(f:Bool),S=l.length-i/\i<=l.length/\e.g 0= .slice va l.length U/\e.g 2=p2/\e.g 3=n3/\e.g 4=pT pb/\e.g 5= .bool f/\e.g 6=iV i/\H2=H0/\(f||(l.drop i).any fun y=>M8 y x)=r)->
  u7 (LE prog l7 (.loop SG) e H2) (fun o e H2=>H2=H0/\o= .exit 2/\e.g 0= .slice va l.length U/\e.g 2=p2/\e.g 3=n3/\e.g 4=pT pb/\e.g 5= .bool r):=by
 refine i5 _ _ ?_;rintro S e H2 ⟨i,f,hk,hi,u,z,D,E,O,W,hH,I⟩;subst hH;have J:ldC (some true) (some 2) 0 (nmE x)=some (.agg (nmE x).toArray):=rfl;rcases b:decide ((i:Int)<l.length)with _|_
 .have X:=dF b;have:l.drop i=[]:=dN oM;rw[this,ad1,aen]at I;refine J7 u z D E O W b ?_;exact i6 ⟨rfl,rfl,u,z,D,E,by rw[<-I];exact O⟩
 have X:=dT b;obtain⟨y,nb,o,cs,own,el,hx,hd,rfl,a2,hg,a1,h,hc,rfl⟩:=hv.row (i:=i) oM;have nt:(i:Int).toNat=i:=tN i;rw[hd,acf,<-Bool.or_assoc]at I;rcases f with _|_
 .refine J14 u z D E O W @D4 b hb hg nt h J @wrap_small ?_;exact d8 (S-1) oM ⟨i+1,M8 y x,oM,oM,u,z,D,E,rfl,rfl,rfl,by rw[<-I];rfl⟩
 .refine J14 u z D E O W @D4 b hb hg nt h J @wrap_small ?_;exact d8 (S-1) oM ⟨i+1,true,oM,oM,u,z,D,E,rfl,rfl,rfl,by rw[<-I];rfl⟩
def Bc(D:d7)(lo p2:Nat)(a4:lo<=p2)(a8:p2<D.n)(W:Option Addr)(J:Nat)(l:List (aes×aes))(hv:SlI D lo 2 (u9 nmE) (.slice W l.length J) l)(hn:l.length<=100000)(hb:D.g p2=cE [.string eB,.string eB] 1):
  ∀I e H2,(∃n:Nat,I=T6 l+1-n/\n<=T6 l/\e.g 0= .slice W l.length J/\e.g 2=pT p2/\e.g 3=iV n/\d9 (p2+1) D H2)->
  u7 (LE prog l7 (.loop YS) e H2) (fun o e H2=>o= .ret/\e.g 2=pT p2/\H2.g p2=some (.cells (nmE (zNm (T6 l))) true 1)/\d9 p2 D H2):=by
 refine i5 _ _ ?_;rintro I e H2 ⟨n,hk,hi,X,f2,f3,O⟩;obtain⟨hf,a5⟩:=pd l;have a1:=(dQ (fun n=>S9 l (zNm n)) (l.length+1) 0).2;have a6:=O.n;have hd:=fun H=>zL n H oM;have a3:=oS n;have hs:=dq (P:=prog) 9 ⟨#[122]⟩ (dg n) (by show 1+_<=_;omega);have key:∀(E:d7)(u:Env),d9 (p2+1) H2 E->E.g H2.n=some (.cells (nmE (zNm n)) true 1)->u.g 0= .slice W l.length J->u.g 2=pT p2->u.g 3=iV n->u.g 4=pT H2.n->u.g 5= .bool false->u.g 6=iV 0->
   u7 (inBlock 1 (u6 (inBlock 2 (LE prog l7 SG.loop u E)) (LE prog l7 (((t5.ops [⟨some 29,.move (.tmp 5),none⟩,⟨some 30,.unOp .not 4 (.tmp 29),none⟩]).seq YT).seq YU)))) (bD I (fun I e H2=>∃n:Nat,I=T6 l+1-n/\n<=T6 l/\e.g 0= .slice W l.length J/\e.g 2=pT p2/\e.g 3=iV n/\d9 (p2+1) D H2) (fun o e H2=>o= .ret/\e.g 2=pT p2/\H2.g p2=some (.cells (nmE (zNm (T6 l))) true 1)/\d9 p2 D H2)):=by
  intro E u h U g0 g2 g3 g4 g5 g6;have a7:=h.n;have S:E.g p2=_:=(h.g p2 oM).trans ((O.g p2 oM).trans hb);refine j5 (F:=fun z=>u7 (inBlock 1 (u6 (inBlock 2 z) _)) _) (Ja E lo W J l (zNm n) (hv.mono (fun j hj=>by rw[h.g j oM,O.g j oM]) lR iF) hn H2.n U _ _ (S9 l (zNm n)) l.length _ _ ⟨0,false,rfl,oM,g0,g2,g3,g4,g5,g6,rfl,rfl⟩) ?_;rintro o e4 H4 ⟨rfl,ho,k0,k2,k3,k4,k5⟩;have a2:ldC (some true) (some 2) 0 (nmE (zNm n))=some (.agg (nmE (zNm n)).toArray):=rfl;by_cases hm:n=T6 l
  .have hq:S9 l (zNm n)=false:=by rw[hm];exact hf
   rw[hq]at k5;refine J9 ho k0 k2 k3 k4 k5 U a2 S ?_;refine w9 ⟨rfl,k2,?_,(O.wk oM).trans ((h.wk oM).trans (d9.put lR))⟩;rw[i7 (u5 S),hm]
  .have hq:S9 l (zNm n)=true:=a1 n oM (by rw[T6]at hm hi;omega);rw[hq]at k5;refine J7 ho k0 k2 k3 k4 k5 @wrap_small ?_;exact d8 (I-1) oM ⟨n+1,oM,oM,k0,k2,rfl,O.trans h⟩
 by_cases h0:n=0
 .have b0:decide ((0:Int)<n)=false:=kA oM;refine J4 X f2 f3 b0 ?_;refine key _ _ ((d9.push oM).trans (d9.put oM)) ?_ X f2 f3 rfl rfl rfl;rw[i7 (by rw[i4];omega),zNm,zN,cA h0];rfl
 .have b0:decide ((0:Int)<n)=true:=yo oM;refine J6 X f2 f3 b0 hd hs ?_;refine key _ _ (((d9.push oM).trans (d9.put oM)).trans (d9.put oM)) ?_ X f2 f3 rfl rfl rfl;rw[i7 (by rw[j9,i4];omega),zNm,zN,bt h0];rfl
def Fv(H:d7)(lo:Nat)(v:aet)(l:List (aes×aes))(I:lo<=H.n)(U:SlI H lo 2 (u9 nmE) v l)(hn:l.length<=100000):CL prog l7 77 [v] H=some (.agg (nmE (zNm (T6 l))).toArray,none):=by
 obtain⟨va,W,rfl⟩:=U.slice;obtain⟨O,h,-,S,hS⟩:=pushF H (bC [.string eB,.string eB] 1);have u:H.n<=O.low:=by rw[h,l9];exact lR
 rw[i8 Ue rfl _ sM];refine J1 h.symm ?_;refine j5 (F:=fun z=>t6 _ _ _ (inBlock 0 z)=_) (Bc O lo H.n I (u5 S) va W l (U.mono (fun j hj=>hS.g j oM) lR iF) hn S (T6 l+1) _ _ ⟨0,rfl,oM,rfl,rfl,rfl,d9.refl _ _⟩) ?_;rintro o e' H' ⟨ho,X,E,D⟩;have hl:=D.low u;have J:ldC (some true) (some 2) 0 (nmE (zNm (T6 l)))=some (.agg (nmE (zNm (T6 l))).toArray):=rfl;exact J4 ho X E J trivial
end Go.Proofs.YtbekeboballbgaaGreatDoor.Ve
namespace Go.Proofs.YtbekeboballbgaaGreatDoor.Ve
open Go Go.RowKit
def j8(w:aet)(b:Nat):Prop:=∃n c,w= .slice (some ⟨b,0,none⟩) n c
def C2(b:Nat):¬j8 (.slice none 0 0) b:=fun⟨_,_,h⟩=>by cases h
def R0{b u n c:Nat}:j8 (.slice (some ⟨b,0,none⟩) n c) u↔u=b:=⟨fun⟨_,_,h⟩=>by cases h;rfl,fun h=>⟨n,c,by rw[h]⟩⟩
def SlF(H:d7)(F:Nat->Prop)(sz:Nat){α:Type}(R:LV->α->Prop)(v:aet)(l:List α):Prop:=
 (v= .slice none 0 0/\l=[])\/
 ∃b o c,v= .slice (some ⟨b,o,none⟩) l.length c/\
  (l=[]\/∃cs own,F b/\H.g b=some (.cells cs own sz)/\o+l.length*sz<=cs.length/\∀(i:Nat) a,l[i]?=some a->R ((cs.drop (o+i*sz)).take sz) a)
section
variable{α:Type}{R R':List Value->α->Prop}{H H':d7}{F F':Nat->Prop}{lo sz:Nat}{v w:Value}{l l2:List α}
def SlI.slF(h:SlI H lo sz R v l):SlF H (· <lo) sz R v l:=h
def SlF.mono(h:SlF H F sz R v l)(O:∀j,F j->H'.g j=H.g j) (I:∀j,F j->F' j) (J:∀cs a,R cs a->R' cs a):SlF H' F' sz R' v l:=by
 rcases h with h|⟨b,o,c,U,h⟩
 .exact .inl h
 .refine .inr ⟨b,o,c,U,?_⟩;rcases h with h|⟨cs,own,u,z,D,E⟩
  .exact .inl h
  .exact .inr ⟨cs,own,I _ u,by rw[O b u];exact z,D,fun i a S=>J _ _ (E i a S)⟩
def SlF.sl(h:SlF H F sz R v l)(u:∀j,F j->j<lo):SlI H lo sz R v l:=h.mono (fun _ _=>rfl) u iF
def SlF.slice(h:SlF H F sz R v l):∃a c,v= .slice a l.length c:=by
 rcases h with⟨h,u⟩|⟨b,o,c,z,h⟩
 .exact⟨none,0,by rw[h,u];rfl⟩
 .exact⟨_,_,z⟩
def t7.frz(h:t7 H lo sz R w l)(J:∀b,j8 w b->F b):SlF H F sz R w l:=by
 obtain⟨cs,D,E⟩:=h;rcases D with⟨h,z,_⟩|⟨b,c,u,I,S,U⟩
 .exact .inl ⟨h,aag.1 z⟩
 .refine .inr ⟨b,0,c,u,.inr ⟨cs,true,J b ⟨_,_,u⟩,I,oM,fun i a O=>?_⟩⟩;rw[aaH];exact E.2 i a O
def t7.lt(h:t7 H lo sz R w l){b:Nat}(I:j8 w b):lo<=b/\b<H.n:=by
 obtain⟨cs,u,S⟩:=h;obtain⟨n,c,rfl⟩:=I;rcases u with⟨h,_⟩|⟨J,O,z,D,E,U⟩
 .cases h
 .cases z;exact⟨E,u5 D⟩
def t7.same(h:t7 H lo sz R w l)(O:∀b,j8 w b->H'.g b=H.g b):t7 H' lo sz R w l:=by
 obtain⟨cs,z,D⟩:=h;refine⟨cs,?_,D⟩;rcases z with h|⟨b,c,u,E,I,J⟩
 .exact .inl h
 .exact .inr ⟨b,c,u,by rw[O b ⟨_,_,u⟩];exact E,I,J⟩
def Kz{P:Program}{t e:TypeId}{bytes n m k:Nat}{a:Option Addr}(ht:P.underlying t=some (.slice e))(hs:D3 P e=some sz)(E:Q2 P e=some bytes)(hz:N3 P e=some z)(h0:0<sz)(h1:0<bytes)
  (h:dH H lo sz v n cs) (hx:A6 H sz (.slice a m k)=some el) (S:el.length=m*sz) (hr:(n+m)*bytes<=140737488355328) (D:lo<=H.n):
  Ret (A8 P H [t,t] v (.slice a m k)) H fun v' H'=>dH H' lo sz v' (n+m) (cs++el)/\d9 lo H H'/\(∀j,j<H.n->¬j8 v j->H'.g j=H.g j)/\((v'=v/\H'=H)\/∀b,j8 v' b->H.n<=b):=by
 have O:F8 P t=some e:=by simp [F8,ht]
 have u:P5 P H sz z (some t) (.slice a m k)=some (m,el):=by
  simp only[P5,aas,ht,hx,aaU]
 have J:¬(sz=0\/bytes=0):=oM;by_cases hm:m=0
 .subst hm;have he:el=[]:=aag.1 oM;subst he;rw[aaf,aaq];refine⟨v,none,H,?_,rfl,h,d9.refl _ _,fun _ _ _=>rfl,.inl ⟨rfl,rfl⟩⟩;rcases h with⟨rfl,rfl,rfl⟩|⟨b,c,rfl,hg,X,I⟩
  .simp [A8,O,hs,E,hz,J,u,dw]
  .simp [A8,O,hs,E,hz,J,u,dw]
 .rcases h with⟨rfl,rfl,rfl⟩|⟨b,c,rfl,hg,X,I⟩
  .refine⟨.slice (some ⟨H.n,0,none⟩) m (m+1),some (H.push (.cells el true sz)),_,?_,rfl,.inr ⟨H.n,_,by rw[aaH],j7,D,by simpa using S⟩,d9.push D,fun j W _=>i9 W,.inr fun b E=>by rw[R0]at E;omega⟩;simp only[A8,aa1,aas,O,hs,E,hz,aap,aar,bt J,u];rw[bt hm,cA (by simpa using hr),dw]
  .have a1:=u5 hg;have U:((cs.drop 0).take (n*sz))=cs:=by rw[aan,A2 oM]
   by_cases hc:c=n
   .refine⟨.slice (some ⟨H.n,0,none⟩) (n+m) (n+m+1),some (H.push (.cells (cs++el) true sz)),_,?_,rfl,.inr ⟨H.n,_,rfl,j7,D,by rw[ib,I,S,aaP]⟩,d9.push D,fun j W _=>i9 W,.inr fun b E=>by rw[R0]at E;omega⟩;simp only[A8,aa1,aas,O,hs,E,hz,aap,aar,bt J,u,hg,U];rw[bt hm,cA hr,cA (by simp;omega),cA hc,dw]
   .refine⟨.slice (some ⟨H.n,0,none⟩) (n+m) (n+m+1),some ((H.put b .dead).push (.cells (cs++el) true sz)),_,?_,rfl,.inr ⟨H.n,_,rfl,y9 ⟨by simp [j9],by simp [j9]⟩,D,by rw[ib,I,S,aaP]⟩,(d9.put X).trans (d9.push (by rw[j9];exact D)),fun j W hn=>?_,.inr fun b E=>by rw[R0]at E;omega⟩
    .simp only[A8,aa1,aas,O,hs,E,hz,aap,aar,bt J,u,hg,U];rw[bt hm,cA hr,cA (by simp;omega),bt hc,cA trivial,dw]
    .show((H.put b .dead).push (.cells (cs++el) true sz)).g j=H.g j;rw[i9 (by rw[j9];exact W),j6 (fun q=>hn (by rw[<-q];exact⟨_,_,rfl⟩))]
structure Z9(lo:Nat)(w:aet)(H:d7)(v':aet)(H':d7):Prop where
 stay:d9 lo H H'
 but:∀j,j<H.n->¬j8 w j->H'.g j=H.g j
 new:∀b,j8 v' b->j8 w b\/H.n<=b
def Z9.n{w v':aet}(h:Z9 lo w H v' H'):H.n<=H'.n:=h.stay.n
def t7.appendF{P:Program}{t e:TypeId}{bytes:Nat}{n:Nat}(ht:P.underlying t=some (.slice e))(X:D3 P e=some sz)(u:Q2 P e=some bytes)(hz:N3 P e=some z)(S:0<sz)(U:0<bytes)
  (h:t7 H lo sz R w l) (hx:SlI H n sz R x l2) (W:(l.length+l2.length)*bytes<=140737488355328) (D:lo<=H.n):
  Ret (A8 P H [t,t] w x) H fun v' H'=>t7 H' lo sz R v' (l++l2)/\Z9 lo w H v' H':=by
 obtain⟨cs,k1,k2⟩:=h;obtain⟨a,c,el,rfl,q1,I⟩:=hx.rows;obtain⟨v',O,J,r1,r2,r3,r4,r5,E⟩:=Kz (m:=l2.length) ht X u hz S U k1 q1 I.1 W D;refine⟨v',O,J,r1,r2,⟨cs++el,by rw[ib];exact r3,k2.append I⟩,r4,r5,fun b u=>?_⟩;rcases E with⟨rfl,_⟩|E
 .exact .inl u
 .exact .inr (E b u)
def t7.push1F{P:Program}{t e:TypeId}{bytes:Nat}{z cs:LV}{a:α}(ht:P.underlying t=some (.slice e))(hs:D3 P e=some sz)(D:Q2 P e=some bytes)(hz:N3 P e=some z)(S:0<sz)(U:0<bytes)
  (h:t7 H lo sz R w l) (E:cs.length=sz) (X:R cs a) (hr:(l.length+1)*bytes<=140737488355328) (I:lo<=H.n):
  Ret (A8 P (H.push (.cells cs true sz)) [t,t] w (.slice (some ⟨H.n,0,none⟩) 1 1)) (H.push (.cells cs true sz)) fun v' H'=>t7 H' lo sz R v' (l++[a])/\Z9 lo w H v' H':=by
 have W:=t7.fresh (H:=H) (lo:=H.n) (l:=[a]) (n:=1) (c:=1) rfl lR (x9.one E X);have hn:(H.push (.cells cs true sz)).n=H.n+1:=i4;have u:d9 H.n H (H.push (.cells cs true sz)):=d9.push lR;obtain⟨v',O,H',r1,r2,r3,r4,r5,r6⟩:=(h.keep u).appendF ht hs D hz S U W.sl (by simpa using hr) oM;refine⟨v',O,H',r1,r2,r3,(u.wk I).trans r4,fun j hj J=>?_,fun b D=>?_⟩
 .rw[r5 j oM J,u.g j hj]
 .rcases r6 b D with r|r
  .exact .inl r
  .exact .inr oM
end
end Go.Proofs.YtbekeboballbgaaGreatDoor.Ve
namespace Go.Proofs.YtbekeboballbgaaGreatDoor.Ve
open Go Go.RowKit
open Go.Proofs.Tryz (prog)
structure SpD where
 names:List (aes×aes)
 attrs:List (aes×aes)
 vals:List (List aes)
 texts:List aes
def spQ(q:Q):SpD:=⟨U3 4 4 (fsQ false q),U3 5 6 (fsQ false q),(U3 5 6 (fsQ false q)).map fun n=>Q3 6 n (fsQ false q),Q3 7 (eB,eB) (fsQ false q)⟩
def VlF(H:d7)(F:Nat->Prop)(cs:LV)(l:List aes):Prop:=∃v,cs=[v]/\SlF H F 1 (u9 stE) v l
def VlF.mono{H H':d7}{F F':Nat->Prop}{l:List aes}(h:VlF H F cs l)(E:∀j,F j->H'.g j=H.g j) (D:∀j,F j->F' j):VlF H' F' cs l:=by
 obtain⟨v,u,z⟩:=h;exact⟨v,u,z.mono E D iF⟩
def SpR(H:d7)(lo:Nat)(cs:LV)(d:SpD):Prop:=∃v1 v2 v3 v4,cs=[v1,v2,v3,v4]/\SlI H lo 2 (u9 nmE) v1 d.names/\SlI H lo 2 (u9 nmE) v2 d.attrs/\SlI H lo 1 (VlF H (· <lo)) v3 d.vals/\SlI H lo 1 (u9 stE) v4 d.texts
def SpR.mono{H H':d7}{lo D:Nat}(h:SpR H lo cs d)(z:∀j,j<lo->H'.g j=H.g j) (u:lo<=D):SpR H' D cs d:=by
 obtain⟨U,W,X,v4,E,I,J,O,S⟩:=h;exact⟨U,W,X,v4,E,I.mono z u iF,J.mono z u iF,O.mono z u (fun _ _ h=>h.mono z (fun j hj=>oM)),S.mono z u iF⟩
def BI(k:Nat)(H1:d7)(z:Nat)(e1:z<H1.n)(vf va v1 v4 p2:aet)(l:List Q)(u:List (aes×aes))(hl:l.length<=1000000)(ha:u.length<=1000000)(c8:QsR H1 z k true vf l)(a9:SlI H1 z 2 (u9 nmE) va u):
  ∀kk e H2,(∃(i:Nat)(w:aet)(F:Nat->Prop),kk=u.length-i/\i<=u.length/\e.g 2=p2/\e.g 3=vf/\e.g 4=pT z/\e.g 5=iV i/\H2.g z=cE [v1,va,w,v4] 1/\t7 H2 (z+1) 1 (VlF H2 F) w ((u.take i).map fun n=>Q3 6 n l)/\(∀b,j8 w b->¬F b)/\(∀j,F j->z<j/\j<H2.n)/\d9 z H1 H2)->
  u7 (LE prog l7 (.loop SF) e H2) (fun o e H2=>o= .exit 0/\e.g 2=p2/\e.g 4=pT z/\∃(w:aet)(F:Nat->Prop),H2.g z=cE [v1,va,w,v4] 1/\t7 H2 (z+1) 1 (VlF H2 F) w (u.map fun n=>Q3 6 n l)/\(∀j,F j->z<j/\j<H2.n)/\d9 z H1 H2):=by
 obtain⟨aa,ac,d0⟩:=a9.slice;subst d0;refine i5 _ _ ?_;rintro kk e H2 ⟨i,w,F,hk,hi,f2,f3,f4,f5,O,hO,c5,hF,hS⟩;have d3:=hS.n;have d1:([v1,.slice aa u.length ac,w,v4]:LV)[1]?=some (.slice aa u.length ac):=rfl;rcases b:decide ((i:Int)<u.length)with _|_
 .have b8:=dF b;have:u.take i=u:=A2 oM;rw[this]at hO;refine J6 f2 f3 f4 f5 O b ?_;exact i6 ⟨rfl,f2,f4,w,F,O,hO,hF,hS⟩
 have b8:=dT b;obtain⟨x,nb,o,cs,own,el,hx,hd,b0,c4,hg,d2,a8,hc,rfl⟩:=a9.row (i:=i) oM;subst b0;have nt:(i:Int).toNat=i:=tN i;have c0:=(hS.g nb c4).trans hg;have b1:QsR H2 z k true vf l:=c8.mono (fun j D=>hS.g j D) lR;obtain⟨v,h,H3,b9,c3,J,E⟩:=rh H2 z k vf l 6 x oM b1 hl;have d4:=E.n;have d6:z<H3.n:=oM;have W:H3.g z=cE [v1,.slice (some ⟨nb,o,none⟩) u.length ac,w,v4] 1:=(E.g z oM).trans O;obtain⟨F',I⟩:=eY (fun j=>F j\/j8 v j:Nat->Prop);have a3:∀j,F' j->z<j/\j<H3.n:=fun j D=>by
  rw[I]at D;rcases D with D|D
  .have:=hF j D;omega
  .have:=J.lt D;omega
 have b6:t7 H3 (z+1) 1 (VlF H3 F') w ((u.take i).map fun n=>Q3 6 n l):=(hO.keep E).imp fun cs a h=>h.mono (fun j D=>E.g j (hF j D).2) (fun j D=>by rw[I];exact .inl D);have b2:∀b,j8 w b->¬F' b:=fun b U S=>by
  rw[I]at S;rcases S with S|S
  .exact c5 b U S
  .have h1:=hO.lt U;have h2:=J.lt S;omega
 have c9:VlF H3 F' [v] (Q3 6 x l):=⟨v,rfl,J.frz fun b U=>by rw[I];exact .inr U⟩
 have a6:((u.take i).map fun n=>Q3 6 n l).length=i:=by simp;omega
 obtain⟨v',h',H4,b7,a5,a4,hG⟩:=b6.push1F (P:=prog) (t:=118) (cs:=[v]) (a:=Q3 6 x l) (by exact Wq.2.2.2.2.2.2) bq.1 bq.2.1 bq.2.2.1 oM oM rfl c9 (by rw[a6];omega) oM;have d5:=hG.n;have X:H4.g z=cE [v1,.slice (some ⟨nb,o,none⟩) u.length ac,w,v4] 1:=(hG.stay.g z oM).trans W;have a7:=u5 X;obtain⟨wa,wc,e2⟩:=hO.slice;obtain⟨e3,e4,a1⟩:=a4.slice;obtain⟨vv,e5,a2⟩:=J.slice;have b3:Value.oneCell' v'=true:=by rw[a1];rfl
 have b4:Value.oneCell' v=true:=by rw[a2];rfl
 have cv:v.cells.toList=[v]:=by rw[a2];rfl
 have b5:v'.cells.toList=[v']:=by rw[a1];rfl
 refine J20 f2 f3 f4 f5 O b c0 nt a8 b9 c3 W b4 cv b7 a5 X b3 b5 @wrap_small ?_;have c7:(u.take (i+1)).map (fun n=>Q3 6 n l)=((u.take i).map fun n=>Q3 6 n l)++[Q3 6 x l]:=by
  rw[abJ,hx];simp
 have c6:∀(B:Blk),d9 z H1 (H4.put z B):=fun B=>(hS.trans ((E.wk oM).trans (hG.stay.wk oM))).trans (d9.put lR);refine d8 (kk-1) oM ⟨i+1,v',F',oM,oM,f2,f3,f4,rfl,i7 a7,?_,fun b U S=>?_,fun j D=>?_,c6 _⟩
 .rw[c7];refine(a4.same fun b U=>j6 ?_).imp fun cs a h=>h.mono (fun j D=>?_) (fun _ h=>h)
  .have:=a4.lt U;omega
  .have:=a3 j D;rw[j6 oM,hG.but j oM (fun q=>b2 j q D)]
 .rcases hG.new b U with r|r
  .exact b2 b r S
  .have:=a3 b S;omega
 .have:=a3 j D;rw[j9];omega
def cD{α:Type}{R:LV->α->Prop}{H:d7}{lo sz:Nat}{w:aet}{l:List α}(h:t7 H lo sz R w l)(z:na0 w=true):w=nS/\l=[]:=by
 obtain⟨cs,u,I⟩:=h;rcases u with⟨u,D,_⟩|⟨b,c,E,_⟩
 .exact⟨u,aag.1 D⟩
 .rw[E]at z;cases z
def me{α:Type}(R:LV->α->Prop)(H:d7)(lo sz:Nat):SlI H lo sz R (nS) ([]:List α):= .inl ⟨rfl,rfl⟩
def Fx(H:d7)(lo k:Nat)(cs:LV)(q:Q)(h8:lo<=H.n)(hr:QR H lo k false cs q)(g9:OkD false q)(hl:(fsQ false q).length<=100000):
  Ret (CL prog l7 76 [.agg cs.toArray] H) H fun w H1=>∃cs',w= .agg cs'.toArray/\SpR H1 H1.n cs' (spQ q)/\d9 H.n H H1:=by
 cases k with
 |zero=>exact hr.elim
 |succ k=>
 have d3:=hr;obtain⟨va,ca,wa,e7,rfl,h1,h2,h3,h4⟩:=hr.path;obtain⟨W,U⟩:=eY ([iV q.op,.slice va q.a.length ca,.slice wa q.b.length e7]:LV);obtain⟨H1,a5⟩:=eY ((d7.push ⟨H.bs,H.n⟩ (bC W 1)).push (bC [nS,nS,nS,nS] 1));have g8:(d7.push ⟨H.bs,H.n⟩ (bC W 1)).n=H.n+1:=by rw[i4];rfl
 have hS:d9 H.n H H1:=by rw[a5];exact(d9.first H _).trans (d9.push oM)
 have f7:H1.g H.n=cE W 1:=by rw[a5,i9 oM];exact j7
 have f8:H1.g (H.n+1)=cE [nS,nS,nS,nS] 1:=by rw[a5];exact y9 oM
 have d2:H.n<=H1.low:=by rw[a5,l9,l9];exact lR
 have h9:H1.n=H.n+2:=by rw[a5,i4,g8]
 have g6:ldC (some true) (some 3) 0 W=some (.agg W.toArray):=by rw[U];rfl
 rw[<-U]at d3 ⊢;have c5:W.all oC=true:=by rw[U];rfl
 obtain⟨vf,hf,Hf,f6,g3,f2,b2⟩:=(Pz (k+1)).1 H1 lo W q oM (d3.mono (fun j S=>hS.g j oM) lR) oM g9;have j2:=b2.n;have b4:QsR Hf Hf.n (k+1) true vf (fsQ false q):=f2.sl.mono (fun _ _=>rfl) lR fun cs x h=>h.mono (fun j S=>(b2.g j oM)) oM;obtain⟨v1,h5,Ha,f3,c8,a9,D⟩:=uo Hf Hf.n (k+1) vf (fsQ false q) 4 4 lR b4 oM;have i2:=D.n;obtain⟨X,h6,Hb,f4,c9,a6,E⟩:=uo Ha Hf.n (k+1) vf (fsQ false q) 5 6 oM (b4.mono (fun j S=>D.g j S) lR) oM;have i3:=E.n;obtain⟨v4,h7,Hc,f5,d0,b0,I⟩:=rh Hb Hf.n (k+1) vf (fsQ false q) 7 (eB,eB) oM (b4.mono (fun j S=>by rw[E.g j oM,D.g j S]) lR) oM;have j0:=I.n;obtain⟨a1,c1,e1⟩:=a9.slice;obtain⟨a2,c2,e2⟩:=a6.slice;obtain⟨a4,c4,e4⟩:=b0.slice;have e8:v1.cells.toList=[v1]:=by rw[e1];rfl
 have e9:X.cells.toList=[X]:=by rw[e2];rfl
 have f0:v4.cells.toList=[v4]:=by rw[e4];rfl
 have d6:Value.oneCell' v1=true:=by rw[e1];rfl
 have e5:Value.oneCell' X=true:=by rw[e2];rfl
 have e6:Value.oneCell' v4=true:=by rw[e4];rfl
 obtain⟨Hd,f1,j1,g1,O⟩:=pushP Hc (bC [nS,nS,nS,nS] 1) (bC [v1,X,nS,v4] 1);rw[i8 Ud rfl _ sM];refine J19 c5 a5.symm f7 g6 f6 g3 f3 c8 f4 c9 f5 d0 e8 e9 f0 d6 e5 e6 f1.symm ?_;have b8:t7 Hd Hf.n 2 (u9 nmE) v1 (U3 4 4 (fsQ false q)):=((a9.keep E).keep I).keep O;have b6:t7 Hd Ha.n 2 (u9 nmE) X (U3 5 6 (fsQ false q)):=(a6.keep I).keep O;have b9:t7 Hd Hb.n 1 (u9 stE) v4 (Q3 7 (eB,eB) (fsQ false q)):=b0.keep O;have j3:∀{sz:Nat}{α:Type}{R:LV->α->Prop}{lo:Nat}{w:aet}{l:List α}(H:d7),t7 H lo sz R w l->H.n<=Hc.n->SlI H Hc.n sz R w l:=fun H h g7=>h.sl.mono (fun _ _=>rfl) g7 iF;have d5:QsR Hd Hc.n (k+1) true vf (fsQ false q):=b4.mono (fun j S=>by rw[O.g j oM,I.g j oM,E.g j oM,D.g j S]) oM;have c6:(U3 5 6 (fsQ false q)).length<=1000000:=by have:=cT (aN 5 6) qNm M8 (fsQ false q) [];rw[U3];simp at this;omega
 have d4:SlI Hd Hc.n 2 (u9 nmE) X (U3 5 6 (fsQ false q)):=b6.frz fun b u=>oN (a6.lt u);refine j5 (F:=fun z=>Ret (t6 _ _ _ (u6 (inBlock 0 z) _)) _ _) (BI (k+1) Hd Hc.n oM vf X v1 v4 _ (fsQ false q) (U3 5 6 (fsQ false q)) oM c6 d5 d4 (U3 5 6 (fsQ false q)).length _ _ ⟨0,nS,fun _=>False,rfl,oM,rfl,rfl,rfl,rfl,g1,t7.nil,fun b u=>(C2 b u).elim,fun j S=>S.elim,d9.refl _ _⟩) ?_;rintro o e' H5 ⟨ho,g2,g4,w,F,f9,b1,hF,J⟩;have i0:=J.n;have c7:H5.g (H.n+1)=cE [nS,nS,nS,nS] 1:=by
  rw[J.g _ oM,O.g _ oM,I.g _ oM,E.g _ oM,D.g _ oM,b2.g _ oM];exact f8
 obtain⟨a3,c3,e3⟩:=b1.slice;have h0:Value.oneCell' w=true:=by rw[e3];rfl
 have d1:ldC (some true) (some 4) 0 [v1,X,w,v4]=some (.agg [v1,X,w,v4].toArray):=rfl;obtain⟨H6,a8⟩:=eY (H5.put (H.n+1) (bC [v1,X,w,v4] 1));have g0:H6.g (H.n+1)=cE [v1,X,w,v4] 1:=by rw[a8];exact i7 oM
 have i1:H6.n=H5.n:=by rw[a8,j9]
 have c0:d9 (H.n+1) H5 H6:=by rw[a8];exact d9.put lR
 have b7:d9 H.n H H6:=(((((((hS.trans (b2.wk oM)).trans (D.wk oM)).trans (E.wk oM)).trans (I.wk oM)).trans (O.wk oM)).trans (J.wk oM)).trans (c0.wk oM))
 have g5:H.n<=H6.low:=((((((b2.wk (show H.n<=H1.n from oM)).trans (D.wk oM)).trans (E.wk oM)).trans (I.wk oM)).trans (O.wk oM)).trans (J.wk oM)).trans (c0.wk oM) |>.low d2
 have a7:∀b,H.n+1<b->H6.g b=H5.g b:=fun b u=>by rw[a8];exact j6 oM
 refine J12 ho g2 g4 f9 d1 c7 d6 e5 h0 e6 a8.symm g0 ?_;refine bG (fun hc=>?_) ?_
 .simp only[aaE,abQ,aa9,gk]at hc;obtain⟨z1,z2⟩:=cD a9 hc.1;obtain⟨z3,z4⟩:=cD a6 hc.2.1;obtain⟨z5,z6⟩:=cD b1 hc.2.2.1;obtain⟨z7,z8⟩:=cD b0 hc.2.2.2;refine⟨[v1,X,w,v4],rfl,⟨v1,X,w,v4,rfl,?_,?_,?_,?_⟩,d9.refl _ _⟩
  .rw[z1,spQ,z2];exact me ..
  .rw[z3,spQ,z4];exact me ..
  .rw[z5,spQ,z6];exact me ..
  .rw[z7,spQ,z8];exact me ..
 .have b5:∀{sz:Nat}{α:Type}{R:LV->α->Prop}{v:aet}{l:List α}(n:Nat),SlI H6 n sz R v l->SlI ⟨H6.bs,min H.low H6.low⟩ n sz R v l:=fun n h=>SlI.mono h (fun _ _=>rfl) lR iF;have b3:d7.n ⟨H6.bs,min H.low H6.low⟩=H6.n:=rfl;refine⟨[v1,X,w,v4],rfl,⟨v1,X,w,v4,rfl,b5 _ ?_,b5 _ ?_,b5 _ ?_,b5 _ ?_⟩,b7.ret g5⟩
  .exact(b8.same fun b u=>by have:=a9.lt u;rw[a7 b oM,J.g b oM]).frz fun b u=>by have:=a9.lt u;rw[b3];omega
  .exact(b6.same fun b u=>by have:=a6.lt u;rw[a7 b oM,J.g b oM]).frz fun b u=>by have:=a6.lt u;rw[b3];omega
  .refine SlF.mono ((b1.same (H':=H6) fun b u=>by have:=b1.lt u;rw[a7 b oM]).frz (F:=fun j=>j<H6.n) fun b u=>by have:=b1.lt u;omega) (fun _ _=>rfl) (fun j S=>S) fun cs a h=>h.mono (fun j S=>?_) fun j S=>?_
   .have:=hF j S;exact a7 j oM
   .have:=hF j S;rw[b3];omega
  .exact(b9.same fun b u=>by have:=b0.lt u;rw[a7 b oM,J.g b oM]).frz fun b u=>by have:=b0.lt u;rw[b3];omega
structure PrD where
 st:Int
 sa:Int
 en:Int
 ed:List (Int×Int×Int×Int)
 ts:List Q
def PrD.edge(p:PrD)(f t k x:Int):PrD:={p with ed:=p.ed++[(f,t,k,x)]}
mutual
def D1:Q->PrD->PrD×Int×Int
 | .mk o _ _ _ a b,p=>
  if o=4 then fQ a p
  else if o=5 then(((M7 a p.st {p with st:=p.st+1} []).2.foldl (fun m x=>m.edge x (M7 a p.st {p with st:=p.st+1} []).1.st 0 0) {(M7 a p.st {p with st:=p.st+1} []).1 with st:=(M7 a p.st {p with st:=p.st+1} []).1.st+1}),p.st,(M7 a p.st {p with st:=p.st+1} []).1.st)
  else if o=6 then(((fF a {p with st:=p.st+1}).1.edge p.st (fF a {p with st:=p.st+1}).2.1 0 0).edge (fF a {p with st:=p.st+1}).2.2 p.st 0 0,p.st,p.st)
  else(({p with st:=p.st+2,ts:=if o=7 then p.ts++b else p.ts}:PrD).edge p.st (p.st+1) (if o=2 then 1 else if o=3 then 2 else if o=7 then 3 else 0) (if o=7 then(p.ts.length:Int) else 0),p.st,p.st+1)
def fQ:List Q->PrD->PrD×Int×Int
 |[],p=>(p,0,0)
 |x::l,p=>cV l (D1 x p)
def cV:List Q->PrD×Int×Int->PrD×Int×Int
 |[],x=>x
 |q::l,x=>cV l ((D1 q x.1).1.edge x.2.2 (D1 q x.1).2.1 0 0,x.2.1,(D1 q x.1).2.2)
def M7:List Q->Int->PrD->List Int->PrD×List Int
 |[],_,p,es=>(p,es)
 |x::l,n,p,es=>M7 l n ((D1 x p).1.edge n (D1 x p).2.1 0 0) (es++[(D1 x p).2.2])
def fF:List Q->PrD->PrD×Int×Int
 |[],p=>(p,0,0)
 |x::_,p=>D1 x p
end
mutual
def nQ:Q->Nat
 | .mk _ _ _ _ a b=>1+nL a+nL b
def nL:List Q->Nat
 |[]=>0
 |x::l=>nQ x+nL l
end
def im(q:Q):nQ q=1+nL q.a+nL q.b:=by cases q;rw[nQ];rfl
def vN:∀l:List Q,l.length<=nL l
 |[]=>aaJ _
 |x::l=>by
  have:=vN l;have h:=im x;rw[nL,A1];omega
def bB(n c:Nat)(p r:PrD):Prop:=p.st<=r.st/\r.st<=p.st+2*n/\r.ed.length+c<=p.ed.length+4*n/\r.ts.length<=p.ts.length+n
def S6(p:PrD)(f t k x:Int):(p.edge f t k x).ed.length=p.ed.length+1:=by simp [PrD.edge]
def ay(p:PrD)(f t k x:Int):(p.edge f t k x).st=p.st:=rfl
def eR(p:PrD)(f t k x:Int):(p.edge f t k x).ts=p.ts:=rfl
def mE(e:Int):∀(l:List Int)(p:PrD),(l.foldl (fun m x=>m.edge x e 0 0) p).st=p.st/\(l.foldl (fun m x=>m.edge x e 0 0) p).ts=p.ts/\(l.foldl (fun m x=>m.edge x e 0 0) p).ed.length=p.ed.length+l.length
 |[],p=>⟨rfl,rfl,rfl⟩
 |x::l,p=>by
  obtain⟨h,u,z⟩:=mE e l (p.edge x e 0 0);rw[aak];refine⟨h,u,?_⟩;rw[z,S6,A1];omega
mutual
def I6:∀(q:Q)(p:PrD),bB (nQ q) 2 p (D1 q p).1
 | .mk o s c v a b,p=>by
  rw[D1,nQ];have hb:=vN b;split
  .have:=BG a p;unfold bB at*;omega
  .split
   .obtain⟨h1,h2⟩:=pO a p.st {p with st:=p.st+1} [];obtain⟨k1,k2,k3⟩:=mE (M7 a p.st {p with st:=p.st+1} []).1.st (M7 a p.st {p with st:=p.st+1} []).2 {(M7 a p.st {p with st:=p.st+1} []).1 with st:=(M7 a p.st {p with st:=p.st+1} []).1.st+1};unfold bB at*;simp only[aaG]at h2;rw[k1,k2,k3];simp only at h1 ⊢;omega
   .split
    .have h:=Ba a {p with st:=p.st+1};unfold bB at*;simp only[S6,ay,eR];simp only at h;omega
    .unfold bB;simp only[S6,ay,eR];split
     .rw[ib];omega
     .omega
def BG:∀(l:List Q)(p:PrD),bB (nL l) 0 p (fQ l p).1
 |[],p=>by rw[fQ];unfold bB;simp [nL]
 |x::l,p=>by
  rw[fQ,nL];have h1:=I6 x p;have h2:=rq l (D1 x p);unfold bB at*;omega
def rq:∀(l:List Q)(x:PrD×Int×Int),bB (nL l) l.length x.1 (cV l x).1
 |[],x=>by rw[cV];unfold bB;simp [nL]
 |q::l,x=>by
  rw[cV,nL];have h1:=I6 q x.1;have h2:=rq l ((D1 q x.1).1.edge x.2.2 (D1 q x.1).2.1 0 0,x.2.1,(D1 q x.1).2.2);unfold bB at*;simp only[S6,ay,eR]at h2;rw[A1];omega
def pO:∀(l:List Q)(n:Int)(p:PrD)(es:List Int),bB (nL l) l.length p (M7 l n p es).1/\(M7 l n p es).2.length=es.length+l.length
 |[],n,p,es=>by rw[M7];unfold bB;simp [nL]
 |x::l,n,p,es=>by
  rw[M7,nL];have h1:=I6 x p;obtain⟨h2,h3⟩:=pO l n ((D1 x p).1.edge n (D1 x p).2.1 0 0) (es++[(D1 x p).2.2]);unfold bB at*;simp only[S6,ay,eR]at h2;rw[ib]at h3;simp only[A1,aaG]at h3 ⊢;omega
def Ba:∀(l:List Q)(p:PrD),bB (nL l) 0 p (fF l p).1
 |[],p=>by rw[fF];unfold bB;simp [nL]
 |x::l,p=>by
  rw[fF,nL];have h1:=I6 x p;unfold bB at*;omega
end
def PrF(H:d7)(F:Nat->Prop)(Rt:LV->Q->Prop)(cs:LV)(p:PrD):Prop:=∃ve vt,cs=[iV p.st,iV p.sa,iV p.en,ve,vt]/\SlF H F 4 (u9 edE) ve p.ed/\SlF H F 6 Rt vt p.ts
def PrF.mono{H H':d7}{F F':Nat->Prop}(h:PrF H F z cs p)(D:∀j,F j->H'.g j=H.g j) (E:∀j,F j->F' j) (S:∀cs a,z cs a->u cs a):PrF H' F' u cs p:=by
 obtain⟨U,W,I,J,O⟩:=h;exact⟨U,W,I,J.mono D E iF,O.mono D E S⟩
abbrev U0(F:Nat->Prop)(H H1:d7):Nat->Prop:=fun j=>F j\/(H.n<=j/\j<H1.n)
def fK(H:d7)(F:Nat->Prop)(Rt:LV->Q->Prop)(b4:LV)(p:PrD)(f t k x:Int)(hF:∀j,F j->j<H.n) (hp:PrF H F Rt b4 p) (he:p.ed.length<=1000000):
  Ret (CL prog l7 142 [.agg b4.toArray,iV f,iV t,iV k,iV x] H) H fun w J=>∃cs',w= .agg cs'.toArray/\PrF J (U0 F H J) Rt cs' (p.edge f t k x)/\d9 H.n H J:=by
 obtain⟨ve,vt,rfl,h1,h2⟩:=hp;obtain⟨ea,ec,rfl⟩:=h1.slice;obtain⟨ta,tc,rfl⟩:=h2.slice;obtain⟨E,D⟩:=eY ([iV p.st,iV p.sa,iV p.en,.slice ea p.ed.length ec,.slice ta p.ts.length tc]:LV);obtain⟨Z,hZ⟩:=eY ([iV 0,iV 0,iV 0,nS,nS]:LV);obtain⟨J,S⟩:=eY ((d7.push ⟨H.bs,H.n⟩ (bC E 1)).push (bC Z 1));have d2:(d7.push ⟨H.bs,H.n⟩ (bC E 1)).n=H.n+1:=by rw[i4];rfl
 have hS:d9 H.n H J:=by rw[S];exact(d9.first H _).trans (d9.push oM)
 have a2:J.g H.n=cE E 1:=by rw[S,i9 oM];exact j7
 have c8:J.g (H.n+1)=cE Z 1:=by rw[S];exact y9 oM
 have b2:H.n<=J.low:=by rw[S,l9,l9];exact lR
 have d5:J.n=H.n+2:=by rw[S,i4,d2]
 obtain⟨H2,a5,d6,-,I⟩:=pushE J (bC [] 4);have b7:t7 H2 J.n 4 (u9 edE) (sL J.n 0 0) ([]:List (Int×Int×Int×Int)):=by rw[a5];exact t7.fresh rfl lR x9.nil
 have b6:SlI H2 H.n 4 (u9 edE) (.slice ea p.ed.length ec) p.ed:=SlF.sl (h1.mono (fun j hj=>by have:=hF j hj;rw[I.g j oM,hS.g j oM]) (fun _ h=>h) iF) hF;obtain⟨v3,h3,H3,c0,b0,b8,O⟩:=b7.appendF (P:=prog) (t:=31) (by exact Wt.2.2.2.2.2.2) sO.1 sO.2.1 sO.2.2.1 oM oM b6 (by simp;omega) oM;have e1:=O.n;obtain⟨v4,h4,H4,c5,b1,a1,W⟩:=b8.push1F (P:=prog) (t:=31) (cs:=edE (f,t,k,x)) (a:=(f,t,k,x)) (by exact Wt.2.2.2.2.2.2) sO.1 sO.2.1 sO.2.2.1 oM oM rfl rfl (by simp;omega) oM;have e2:=W.n;have c6:H4.g H.n=cE E 1:=by rw[W.stay.g _ oM,O.stay.g _ oM,I.g _ oM];exact a2
 have d4:H3.g H.n=cE E 1:=by rw[O.stay.g _ oM,I.g _ oM];exact a2
 have a9:H2.g H.n=cE E 1:=by rw[I.g _ oM];exact a2
 have c7:H4.g (H.n+1)=cE Z 1:=by rw[W.stay.g _ oM,O.stay.g _ oM,I.g _ oM];exact c8
 obtain⟨a4,c4,e4⟩:=a1.slice;have b3:Value.oneCell' v4=true:=by rw[e4];rfl
 have b5:v4.cells.toList=[v4]:=by rw[e4];rfl
 obtain⟨u,z⟩:=eY ([iV p.st,iV p.sa,iV p.en,v4,.slice ta p.ts.length tc]:LV);obtain⟨X,U⟩:=eY ((H4.put H.n (bC u 1)).put (H.n+1) (bC u 1));have d3:splice E 3 [v4]=u:=by rw[D,z];rfl
 have c3:E[3]?=some (.slice ea p.ed.length ec):=by rw[D];rfl
 have l5:E.length=5:=by rw[D];rfl
 have d1:ldC (some true) (some 5) 0 u=some (.agg u.toArray):=by rw[z];rfl
 have b9:splice Z 0 u=u:=by rw[hZ,z];rfl
 have lz:Z.length=5:=by rw[hZ];rfl
 have l2:u.length=5:=by rw[z];rfl
 have a8:E.all oC=true:=by rw[D];rfl
 have a3:u.all oC=true:=by rw[z];simp [b3];exact⟨rfl,rfl,rfl,rfl⟩
 rw[i8 Tz rfl _ sM,<-D];have c9:X.g (H.n+1)=cE u 1:=by rw[U];exact i7 (by rw[j9];omega)
 have a7:d9 H.n H X:=by rw[U];exact((((hS.trans (I.wk oM)).trans (O.stay.wk oM)).trans (W.stay.wk oM)).trans (d9.put lR)).trans (d9.put oM)
 have d0:H.n<=X.low:=by rw[U,A5,A5];have:=(((I.wk (show H.n<=J.n from oM)).trans (O.stay.wk oM)).trans (W.stay.wk oM)).low b2;omega
 have e6:N3 prog 33=some Z:=by rw[hZ];exact oP.2.2.1
 refine J24 a8 hZ.symm S.symm a2 a5.symm a9 c3 c0 b0 c5 b1 c6 c7 l5 b3 b5 d3 d1 l2 lz a3 b9 U.symm c9 ?_;refine bG (fun hc=>?_) ?_
 .rw[z]at hc;simp only[aaE,gk]at hc;have:=(cD a1 hc.2.2.2.1).2;simp at this
 .have e5:d7.n ⟨X.bs,min H.low X.low⟩=X.n:=rfl;have e3:X.n=H4.n:=by rw[U,j9,j9]
  have a6:t7 X J.n 4 (u9 edE) v4 (p.ed++[(f,t,k,x)]):=by
   have:=a1.same (H':=X) fun b hb=>by have:=a1.lt hb;rw[U,j6 oM,j6 oM]
   simpa using this
  refine⟨u,rfl,⟨v4,.slice ta p.ts.length tc,z,?_,?_⟩,a7.ret d0⟩
  .exact SlF.mono (a6.frz (F:=fun j=>H.n<=j/\j<X.n) fun b hb=>by have:=a6.lt hb;omega) (fun _ _=>rfl) (fun j hj=> .inr hj) iF
  .exact SlF.mono (H:=H) h2 (fun j hj=>(a7.g j (hF j hj))) (fun j hj=> .inl hj) iF
abbrev se(s e:Int):LV:=[iV s,iV e]
def mr(n:Nat)(p:PrD):Prop:=0<=p.st/\p.st+2*n<=1000000/\p.ed.length+4*n<=900000/\p.ts.length+n<=900000
def Dh(H:d7)(F:Nat->Prop)(Rt:LV->Q->Prop)(r:PrD×Int×Int)(w:aet)(H1:d7):Prop:=∃cs',w= .agg (cs'++se r.2.1 r.2.2).toArray/\PrF H1 (U0 F H H1) Rt cs' r.1/\d9 H.n H H1
def pq(K k:Nat):Prop:=∀(H:d7)(lo:Nat)(F:Nat->Prop)(Rt:LV->Q->Prop)(cs pcs:LV)(q:Q)(p:PrD),lo<=H.n->(∀j,F j->j<H.n)->QR H lo k false cs q->
 (∀k' el x,k'<=K->QR H lo k' true el x->Rt el x)->PrF H F Rt pcs p->OkD false q->mr (nQ q) p->Ret (CL prog l7 108 [.agg pcs.toArray,.agg cs.toArray] H) H (Dh H F Rt (D1 q p))
def CD(H:d7)(A B C:LV):∃h,h=((d7.push ⟨H.bs,H.n⟩ (bC A 1)).push (bC B 1)).push (bC C 1)/\d9 H.n H h/\h.g H.n=cE A 1/\h.g (H.n+1)=cE B 1/\h.g (H.n+2)=cE C 1/\H.n<=h.low/\h.n=H.n+3:=by
 have u:(d7.push ⟨H.bs,H.n⟩ (bC A 1)).n=H.n+1:=by rw[i4];rfl
 have z:((d7.push ⟨H.bs,H.n⟩ (bC A 1)).push (bC B 1)).n=H.n+2:=by rw[i4,u]
 refine⟨_,rfl,((d9.first H _).trans (d9.push oM)).trans (d9.push oM),?_,?_,?_,?_,?_⟩
 .rw[i9 oM,i9 oM];exact j7
 .rw[i9 oM];exact y9 oM
 .exact y9 oM
 .rw[l9,l9,l9];exact lR
 .rw[i4,z]
abbrev z7:LV:=[iV 0,iV 0,iV 0,nS,nS,iV 0,iV 0]
def fw(q:Q)(p:PrD)(h:q.op≠4)(u:q.op≠5)(z:q.op≠6):D1 q p=(({p with st:=p.st+2,ts:=if q.op=7 then p.ts++q.b else p.ts}:PrD).edge p.st (p.st+1) (if q.op=2 then 1 else if q.op=3 then 2 else if q.op=7 then 3 else 0) (if q.op=7 then(p.ts.length:Int) else 0),p.st,p.st+1):=by
 cases q;simp only[Q.op]at h u z;rw[D1,bt h,bt u,bt z];rfl
def E3{H:d7}{F:Nat->Prop}(h:PrF H F I cs p):∃u z D E,cs=[iV p.st,iV p.sa,iV p.en,.slice u p.ed.length z,.slice D p.ts.length E]/\SlF H F 4 (u9 edE) (.slice u p.ed.length z) p.ed/\SlF H F 6 I (.slice D p.ts.length E) p.ts:=by
 obtain⟨S,U,rfl,J,O⟩:=h;obtain⟨u,z,rfl⟩:=J.slice;obtain⟨D,E,rfl⟩:=O.slice;exact⟨u,z,D,E,rfl,J,O⟩
def eZ{α:Type}{R:LV->α->Prop}{H H':d7}{F F':Nat->Prop}{sz:Nat}{v:aet}{l:List α}(h:SlF H F sz R v l)(u:na0 v=true):SlF H' F' sz R v l:=by
 rcases h with h|⟨b,o,c,z,_⟩
 .exact .inl h
 .rw[z]at u;cases u
def fW{H H':d7}{F:Nat->Prop}{r:PrD×Int×Int}(U:PrF H' (U0 F H H') z cs' r.1)(O:d9 H.n H H')(S:H.n<=H'.low)(u:c=true->(cs'++se r.2.1 r.2.2).all na0=true):
  Ret (some (br c (.agg (cs'++se r.2.1 r.2.2).toArray,none) (.agg (cs'++se r.2.1 r.2.2).toArray,some ⟨H'.bs,min H.low H'.low⟩))) H (Dh H F z r):=by
 obtain⟨I,J,rfl,D,E⟩:=U;refine bG (fun h=>?_) ⟨_,rfl,⟨I,J,rfl,D,E⟩,O.ret S⟩;have h:=u h;simp only[aax,aat,aaE,gk]at h;exact⟨_,rfl,⟨I,J,rfl,eZ D h.2.2.2.1,eZ E h.2.2.2.2.1⟩,d9.refl _ _⟩
def tA(F:Nat->Prop)(Rt:LV->Q->Prop){H Hx:d7}(b:Nat)(D:LV)(h:PrD)(f t z E s e:Int)(zz:LV)(a9:h.ed.length<=1000000)(hF:∀j,F j->j<Hx.n) (b0:PrF Hx F Rt D h) (hz:Hx.g b=cE zz 1) (hb:¬F b):
  ∃h5 U O na I S nb J X,CL prog l7 142 [.agg D.toArray,iV f,iV t,iV z,iV E] Hx=dw (.agg #[iV h.st,iV h.sa,iV h.en,.slice O na I,.slice S nb J]) h5/\h5.getD Hx=U/\U.g b=cE zz 1/\
   X=U.put b (bC ([iV h.st,iV h.sa,iV h.en,.slice O na I,.slice S nb J]++se s e) 1)/\X.g b=cE ([iV h.st,iV h.sa,iV h.en,.slice O na I,.slice S nb J]++se s e) 1/\
   d9 Hx.n Hx U/\X.n=U.n/\PrF X (U0 F Hx X) Rt [iV h.st,iV h.sa,iV h.en,.slice O na I,.slice S nb J] (h.edge f t z E):=by
 obtain⟨v5,a6,U,a8,a1,b3,rfl,a2,W⟩:=fK Hx F Rt D h f t z E hF b0 a9;have b5:=W.n;obtain⟨a4,a5,b1,b2,rfl,b4,b6⟩:=E3 a2;have a7:=u5 hz;have a3:U.g b=cE zz 1:=(W.g _ a7).trans hz;refine⟨a6,U,a4,_,a5,b1,_,b2,_,a8,a1,a3,rfl,i7 oM,W,by rw[j9],?_⟩;refine a2.mono (fun j u=>j6 fun q=>?_) (fun j u=>?_) iF
 .subst q;rcases u with u|u
  .exact hb u
  .omega
 .rcases u with u|u
  .exact .inl u
  .exact .inr ⟨u.1,by rw[j9];exact u.2⟩
def Gl(K k:Nat)(hk:k<=K)(q:Q)(h4:q.op≠4)(h5:q.op≠5)(h6:q.op≠6)(H:d7)(lo:Nat)(F:Nat->Prop)(Rt:LV->Q->Prop)(cs g4:LV)(p:PrD)(n2:lo<=H.n)(hF:∀j,F j->j<H.n) (hr:QR H lo (k+1) false cs q)
  (k6:∀k' el x,k'<=K->QR H lo k' true el x->Rt el x) (hp:PrF H F Rt g4 p) (l6:OkD false q) (f8:mr (nQ q) p):
  Ret (CL prog l7 108 [.agg g4.toArray,.agg cs.toArray] H) H (Dh H F Rt (D1 q p)):=by
 obtain⟨f0,f1,f2,f3⟩:=f8;have o0:=im q;obtain⟨_,_,o1,_,m5⟩:=l6.parts;have o7:=(eW m5).2.2.1;simp only[bF]at o7;obtain⟨va,ca,wa,f4,rfl,h1,h2,h3,j2⟩:=hr.path;obtain⟨ea,ec,ta,tc,rfl,he,ht⟩:=E3 hp;rw[fw q p h4 h5 h6];obtain⟨b8,z⟩:=eY ([iV p.st,iV p.sa,iV p.en,.slice ea p.ed.length ec,.slice ta p.ts.length tc]:LV);obtain⟨U,D⟩:=eY ([iV q.op,.slice va q.a.length ca,.slice wa q.b.length f4]:LV);obtain⟨H1,c0,hS,c8,b4,b6,d0,n7⟩:=CD H b8 U z7;have a1:b8.all oC=true:=by rw[z];rfl
 have a2:U.all oC=true:=by rw[D];rfl
 have r0:b8[0]?=some (.int .i64 p.st):=by rw[z];rfl
 have q0:U[0]?=some (.int .i64 q.op):=by rw[D];rfl
 have q2:U[2]?=some (.slice wa q.b.length f4):=by rw[D];rfl
 have lr:b8.length=5:=by rw[z];rfl
 obtain⟨u,J⟩:=eY ([iV (p.st+2),iV p.sa,iV p.en,.slice ea p.ed.length ec,.slice ta p.ts.length tc]:LV);have c9:splice b8 0 [iV (p.st+2)]=u:=by rw[z,J];rfl
 have m7:u[4]?=some (.slice ta p.ts.length tc):=by rw[J];rfl
 have m4:u.length=5:=by rw[J];rfl
 obtain⟨H2,a3⟩:=eY (H1.put H.n (bC u 1));have e3:d9 H.n H1 H2:=by rw[a3];exact d9.put lR
 have n8:H2.n=H1.n:=by rw[a3,j9]
 have a6:H2.g H.n=cE u 1:=by rw[a3];exact i7 oM
 have b1:H2.g (H.n+1)=cE U 1:=by rw[a3,j6 oM];exact b4
 have b2:H2.g (H.n+2)=cE z7 1:=by rw[a3,j6 oM];exact b6
 have c4:decide (q.op=4)=false:=kA h4;have c5:decide (q.op=5)=false:=kA h5;have c6:decide (q.op=6)=false:=kA h6;have e5:ldC (some true) (some 5) 0 u=some (.agg u.toArray):=by rw[J];rfl
 have X:d9 H.n H H2:=hS.trans e3;have f5:∀i,¬F (H.n+i):=fun i q=>oN (hF _ q);by_cases h7:q.op=7
 .have c7:decide (q.op=7)=true:=yo h7;have c2:decide (q.op=2)=false:=kA oM;have c3:decide (q.op=3)=false:=kA oM;rw[cA h7,bt oM,bt oM,cA h7,cA h7];have l1:=o7.1 h7;obtain⟨x,nb,o,m9,own,el,hx,hd,rfl,n6,g1,l5,d1,hR⟩:=h2.row (i:=0) oM;have l3:q.b=[x]:=by
   obtain⟨y,hy⟩:=aa2.1 l1;rw[hy]at hx ⊢;simpa using hx
  simp only[qSz,aab,aa8,aaf]at d1 g1 l5;have d5:H2.g nb=_:=(X.g nb oM).trans g1;obtain⟨K1,f6,o4,-,b3⟩:=pushE H2 (bC [] 6);have k1:t7 K1 H2.n 6 Rt (sL H2.n 0 0) ([]:List Q):=by rw[f6];exact t7.fresh rfl lR x9.nil
  have m2:SlI K1 H.n 6 Rt (.slice ta p.ts.length tc) p.ts:=SlF.sl (ht.mono (fun j E=>by have:=hF j E;rw[b3.g j oM,X.g j this]) (fun _ h=>h) iF) hF;obtain⟨v3,n0,H3,k7,f9,k2,d6⟩:=k1.appendF (P:=prog) (t:=23) (by exact OJ.2.2.2.2.2.2) ch.1 ch.2.1 ch.2.2.1 oM oM m2 (by simp;omega) oM;have n3:=d6.n;obtain⟨v4,j2,H4,k8,g0,e2,e1⟩:=k2.push1F (P:=prog) (t:=23) (cs:=el) (a:=x) (by exact OJ.2.2.2.2.2.2) ch.1 ch.2.1 ch.2.2.1 oM oM hR.len (k6 k el x hk hR) (by simp;omega) oM;have n4:=e1.n;have k3:∀j,j<H2.n->H3.g j=H2.g j:=fun j E=>by rw[d6.stay.g j oM,b3.g j E]
  have k4:∀j,j<H2.n->H4.g j=H2.g j:=fun j E=>by rw[e1.stay.g j oM,k3 j E]
  have g8:K1.g H.n=cE u 1:=(b3.g _ oM).trans a6;have g9:K1.g (H.n+1)=cE U 1:=(b3.g _ oM).trans b1;have h0:=(b3.g nb oM).trans d5;have h8:H3.g H.n=cE u 1:=(k3 _ oM).trans a6;have h9:H3.g (H.n+1)=cE U 1:=(k3 _ oM).trans b1;have i0:=(k3 nb oM).trans d5;have i1:H4.g H.n=cE u 1:=(k4 _ oM).trans a6;have i2:H4.g (H.n+2)=cE z7 1:=(k4 _ oM).trans b2;obtain⟨a4,m8,e4⟩:=e2.slice;have m6:Value.oneCell' v4=true:=by rw[e4];rfl
  have j1:v4.cells.toList=[v4]:=by rw[e4];rfl
  obtain⟨S,b0⟩:=eY ([iV (p.st+2),iV p.sa,iV p.en,.slice ea p.ed.length ec,v4]:LV);have g3:splice u 4 [v4]=S:=by rw[J,b0];rfl
  have m3:ldC (some true) (some 5) 0 S=some (.agg S.toArray):=by rw[b0];rfl
  obtain⟨I,a7⟩:=eY (H4.put H.n (bC S 1));have n5:I.n=H4.n:=by rw[a7,j9]
  have g5:I.g H.n=cE S 1:=by rw[a7];exact i7 oM
  have i3:I.g (H.n+2)=cE z7 1:=by rw[a7,j6 oM];exact i2
  have k5:∀j,j<H.n->I.g j=H.g j:=fun j E=>by rw[a7,j6 oM,k4 j oM,X.g j E]
  have f7:t7 I H2.n 6 Rt v4 (p.ts++[x]):=by
   have:=e2.same (H':=I) fun b hb=>by have:=e2.lt hb;rw[a7,j6 oM]
   simpa using this
  have m0:PrF I (U0 F H2 I) Rt S {p with st:=p.st+2,ts:=p.ts++q.b}:=by
   refine⟨_,_,b0,he.mono (fun j E=>k5 j (hF j E)) (fun _ h=> .inl h) iF,?_⟩;rw[l3];exact SlF.mono (f7.frz (F:=fun j=>H2.n<=j/\j<I.n) fun b hb=>by have:=f7.lt hb;omega) (fun _ _=>rfl) (fun j E=> .inr E) iF
  have j3:∀j,U0 F H2 I j->j<I.n:=by
   rintro j (E|E)
   .have:=hF j E;omega
   .exact E.2
  have j4:¬U0 F H2 I (H.n+2):=by
   rintro(q|q)
   .exact f5 2 q
   .omega
  obtain⟨n1,H6,e8,na,d2,e9,o5,d3,H7,a8,O,b5,e7,g7,W,n9,m1⟩:=tA (U0 F H2 I) Rt (H:=H) (Hx:=I) (H.n+2) S {p with st:=p.st+2,ts:=p.ts++q.b} p.st (p.st+1) 3 p.ts.length p.st (p.st+1) z7 (by show p.ed.length<=_;omega) j3 m0 i3 j4;have s5:d9 H.n H1 I:=(((e3.trans (b3.wk oM)).trans (d6.stay.wk oM)).trans (e1.stay.wk oM)).trans (by rw[a7];exact d9.put lR);have s7:d9 H.n H1 H7:=(s5.trans (W.wk oM)).trans (by rw[e7];exact d9.put oM);have k0:∀j,U0 (U0 F H2 I) I H7 j->U0 F H H7 j:=by
   have:=W.n;rintro j ((E|E)|E)
   .exact .inl E
   .exact .inr ⟨oM,oM⟩
   .exact .inr ⟨oM,E.2⟩
  have q3:PrF H7 (U0 F H H7) Rt _ _:=m1.mono (fun _ _=>rfl) k0 iF;have l4:=s7.low d0;simp only[aax,aat]at e7 g7;rw[i8 Nj rfl _ sM,<-z,<-D];have k9:el.all oC=true:=by
   cases k with
   |zero=>exact hR.elim
   |succ k=>obtain⟨_,_,_,_,rfl,_⟩:=hR.filter;rfl
  have j0:bsA prog (some 143) H3 1 [(0,.agg el.toArray)]=some (sL H3.n 1 1,H3.push (bC el 6)):=by
   cases k with
   |zero=>exact hR.elim
   |succ k=>
    obtain⟨_,_,_,_,rfl,_⟩:=hR.filter;simp only[E5,ch,E6];rfl
  refine J30 a1 a2 c0.symm c8 b4 b6 r0 q0 q2 lr (aI c9 a3.symm) (aI a6 b1) (aI b2 c4) (aI c5 c6) (aI c7 c2) (aI c3 m7) (aI @wrap_small f6.symm) (aI d5 g8) (aI g9 h0) (aI d1 k7) (aI f9 h8) (aI h9 i0) (aI j0 k8) (aI g0 i1) (aI m4 m6) (aI j1 g3) (aI a7.symm g5) (aI m3 a8) (aI O b5) (aI e7.symm g7) ?_;exact fW (r:=(_,p.st,p.st+1)) q3 (hS.trans s7) l4 (fun h=>by simpa only[aax,aat,aaE,abQ,lM,aaL,aa9] using h)
 .have c7:decide (q.op=7)=false:=kA h7;simp only[bt h7];have l8:PrF H2 F Rt u {p with st:=p.st+2}:=⟨_,_,J,he.mono (fun j E=>X.g j (hF j E)) (fun _ h=>h) iF,ht.mono (fun j E=>X.g j (hF j E)) (fun _ h=>h) iF⟩
  have ed:=fun a5=>tA F Rt (H:=H) (H.n+2) u {p with st:=p.st+2} p.st (p.st+1) a5 0 p.st (p.st+1) z7 (by show p.ed.length<=_;omega) (fun j E=>by have:=hF j E;omega) l8 b2 (f5 2);have d4:∀(a5:Int)(I H6:d7)(b9:LV),H6=I.put (H.n+2) (.cells (b9++se p.st (p.st+1)) true 1)->d9 H2.n H2 I->PrF H6 (U0 F H2 H6) Rt b9 (({p with st:=p.st+2}:PrD).edge p.st (p.st+1) a5 0)->d9 H.n H H6/\H.n<=H6.low/\PrF H6 (U0 F H H6) Rt b9 (({p with st:=p.st+2}:PrD).edge p.st (p.st+1) a5 0):=by
   intro a5 I H6 b9 e6 W a9;have s6:d9 H.n H2 H6:=(W.wk oM).trans (by rw[e6];exact d9.put oM);exact⟨X.trans s6,(e3.trans s6).low d0,a9.mono (fun _ _=>rfl) (fun j E=>E.imp id fun h=>⟨oM,h.2⟩) iF⟩
  by_cases o2:q.op=2
  .have c2:decide (q.op=2)=true:=yo o2;have c3:decide (q.op=3)=false:=kA oM;rw[cA o2];obtain⟨h5,I,e8,na,d2,e9,nb,d3,H6,a8,O,b5,e6,g6,W,g2,a9⟩:=ed 1;obtain⟨q1,b7,q3⟩:=d4 1 I H6 _ e6 W a9;simp only[aax,aat]at e6 g6;rw[i8 Nj rfl _ sM,<-z,<-D];refine J27 a1 a2 c0.symm c8 b4 b6 r0 q0 lr c9 a3.symm a6 b1 b2 c4 c5 c6 c7 c2 c3 @wrap_small e5 a8 O b5 e6.symm g6 ?_;exact fW (r:=(_,p.st,p.st+1)) q3 q1 b7 (fun h=>by simpa only[aax,aat,aaE,abQ,lM,aaL,aa9] using h)
  .have c2:decide (q.op=2)=false:=kA o2;rw[bt o2];by_cases o3:q.op=3
   .have c3:decide (q.op=3)=true:=yo o3;rw[cA o3];obtain⟨h5,I,e8,na,d2,e9,nb,d3,H6,a8,O,b5,e6,g6,W,g2,a9⟩:=ed 2;obtain⟨q1,b7,q3⟩:=d4 2 I H6 _ e6 W a9;simp only[aax,aat]at e6 g6;rw[i8 Nj rfl _ sM,<-z,<-D];refine J27 a1 a2 c0.symm c8 b4 b6 r0 q0 lr c9 a3.symm a6 b1 b2 c4 c5 c6 c7 c2 c3 @wrap_small e5 a8 O b5 e6.symm g6 ?_;exact fW (r:=(_,p.st,p.st+1)) q3 q1 b7 (fun h=>by simpa only[aax,aat,aaE,abQ,lM,aaL,aa9] using h)
   .have c3:decide (q.op=3)=false:=kA o3;rw[bt o3];obtain⟨h5,I,e8,na,d2,e9,nb,d3,H6,a8,O,b5,e6,g6,W,g2,a9⟩:=ed 0;obtain⟨q1,b7,q3⟩:=d4 0 I H6 _ e6 W a9;simp only[aax,aat]at e6 g6;rw[i8 Nj rfl _ sM,<-z,<-D];refine J27 a1 a2 c0.symm c8 b4 b6 r0 q0 lr c9 a3.symm a6 b1 b2 c4 c5 c6 c7 c2 c3 @wrap_small e5 a8 O b5 e6.symm g6 ?_;exact fW (r:=(_,p.st,p.st+1)) q3 q1 b7 (fun h=>by simpa only[aax,aat,aaE,abQ,lM,aaL,aa9] using h)
def sU(q:Q)(p:PrD)(h:q.op=6)(u:q.a=[x]):D1 q p=(((D1 x {p with st:=p.st+1}).1.edge p.st (D1 x {p with st:=p.st+1}).2.1 0 0).edge (D1 x {p with st:=p.st+1}).2.2 p.st 0 0,p.st,p.st):=by
 cases q;simp only[Q.op]at h;simp only[Q.a]at u;subst h;subst u;rw[D1,bt (by decide),bt (by decide),cA rfl,fF]
def Gm(K k:Nat)(hk:k<=K)(ih:pq K k)(q:Q)(h6:q.op=6)(H:d7)(lo:Nat)(F:Nat->Prop)(Rt:LV->Q->Prop)(cs e6:LV)(p:PrD)(n5:lo<=H.n)(hF:∀j,F j->j<H.n) (hr:QR H lo (k+1) false cs q)
  (h9:∀k' el x,k'<=K->QR H lo k' true el x->Rt el x) (hp:PrF H F Rt e6 p) (j2:OkD false q) (d2:mr (nQ q) p):
  Ret (CL prog l7 108 [.agg e6.toArray,.agg cs.toArray] H) H (Dh H F Rt (D1 q p)):=by
 obtain⟨f0,f1,f2,f3⟩:=d2;have j1:=im q;obtain⟨l3,_,o1,_,l4⟩:=j2.parts;obtain⟨l1,l2,_,_⟩:=eW l4;have e1:lst false q.op=1/\mst false q.op=1:=by rw[h6];decide
 rw[e1.1]at l1;rw[e1.2]at l2;obtain⟨va,ca,wa,f9,rfl,h1,h2,h3,m7⟩:=hr.path;obtain⟨ea,ec,ta,tc,rfl,he,ht⟩:=E3 hp;obtain⟨x,nb,o,m5,own,el,hx,hd,rfl,n6,e4,j0,b5,hR⟩:=h1.row (i:=0) oM;have b7:q.a=[x]:=by
  obtain⟨y,hy⟩:=aa2.1 (show q.a.length=1 from oM);rw[hy]at hx ⊢;simpa using hx
 simp only[qSz,bF,aa8,aaf]at b5 e4 j0;have o5:nQ x+1<=nQ q:=by rw[j1,b7,nL,nL];omega
 rw[sU q p h6 b7];obtain⟨a9,J⟩:=eY ([iV p.st,iV p.sa,iV p.en,.slice ea p.ed.length ec,.slice ta p.ts.length tc]:LV);obtain⟨U,O⟩:=eY ([iV q.op,.slice (some ⟨nb,o,none⟩) q.a.length ca,.slice wa q.b.length f9]:LV);obtain⟨H1,h7,hS,i1,d3,d4,e5,n7⟩:=CD H a9 U z7;have a1:a9.all oC=true:=by rw[J];rfl
 have a2:U.all oC=true:=by rw[O];rfl
 have r0:a9[0]?=some (.int .i64 p.st):=by rw[J];rfl
 have q0:U[0]?=some (.int .i64 q.op):=by rw[O];rfl
 have q1:U[1]?=some (.slice (some ⟨nb,o,none⟩) q.a.length ca):=by rw[O];rfl
 have lr:a9.length=5:=by rw[J];rfl
 have n3:(0:Int)<q.a.length:=oM;obtain⟨D,I⟩:=eY ([iV (p.st+1),iV p.sa,iV p.en,.slice ea p.ed.length ec,.slice ta p.ts.length tc]:LV);have k3:splice a9 0 [iV (p.st+1)]=D:=by rw[J,I];rfl
 have k9:D.length=5:=by rw[I];rfl
 obtain⟨H2,a3⟩:=eY (H1.put H.n (bC D 1));have d0:d9 H.n H1 H2:=by rw[a3];exact d9.put lR
 have n9:H2.n=H1.n:=by rw[a3,j9]
 have c7:H2.g H.n=cE D 1:=by rw[a3];exact i7 oM
 have h4:H2.g (H.n+1)=cE U 1:=by rw[a3,j6 oM];exact d3
 have c8:H2.g (H.n+2)=cE z7 1:=by rw[a3,j6 oM];exact d4
 have c4:decide (q.op=4)=false:=kA oM;have c5:decide (q.op=5)=false:=kA oM;have c6:decide (q.op=6)=true:=yo h6;have k5:ldC (some true) (some 5) 0 D=some (.agg D.toArray):=by rw[I];rfl
 have S:d9 H.n H H2:=hS.trans d0;have n0:∀i,¬F (H.n+i):=fun i q=>oN (hF _ q);have h0:H2.g nb=_:=(S.g nb oM).trans e4;have j3:PrF H2 F Rt D {p with st:=p.st+1}:=⟨_,_,I,he.mono (fun j z=>S.g j (hF j z)) (fun _ h=>h) iF,ht.mono (fun j z=>S.g j (hF j z)) (fun _ h=>h) iF⟩
 obtain⟨v3,m6,H3,b2,d5,m4,rfl,b3,b6⟩:=ih H2 lo F Rt el D x {p with st:=p.st+1} oM (fun j z=>by have:=hF j z;omega) (hR.mono (fun j z=>S.g j oM) lR)
  (fun k' el x i2 h=>h9 k' el x i2 (h.mono (fun j z=>(S.g j oM).symm) lR)) j3 (l3 x (by rw[b7];simp)) ⟨by show 0<=p.st+1;omega,by show p.st+1+2*_<=_;omega,by show p.ed.length+_<=_;omega,by show p.ts.length+_<=_;omega⟩
 have e3:=I6 x {p with st:=p.st+1};obtain⟨r,k2⟩:∃r,r=D1 x {p with st:=p.st+1}:=eX;rw[<-k2]at b3 e3 b2 ⊢;obtain⟨g1,g2,g3,g4⟩:=e3;simp only at g1 g2 g3 g4;obtain⟨b9,c0,e7,e8,rfl,n1,o6⟩:=E3 b3;have o0:=b6.n;obtain⟨K,X⟩:=eY ([iV r.1.st,iV r.1.sa,iV r.1.en,.slice b9 r.1.ed.length c0,.slice e7 r.1.ts.length e8,iV r.2.1,iV r.2.2]:LV);obtain⟨b0,a7⟩:=eY ([iV r.1.st,iV r.1.sa,iV r.1.en,.slice b9 r.1.ed.length c0,.slice e7 r.1.ts.length e8]:LV);simp only[aax,aat]at b2;rw[<-X]at b2;rw[<-a7]at b3;have aK:K.all oC=true:=by rw[X];rfl
 have lK:K.length=7:=by rw[X];rfl
 have m1:splice z7 0 K=K:=by rw[X];rfl
 obtain⟨H4,h8,n4,c3,b4⟩:=pushP H3 (bC z7 1) (bC K 1);have k4:∀j,j<H2.n->H4.g j=H2.g j:=fun j z=>by rw[b4.g j oM,b6.g j z]
 have f4:H4.g (H.n+2)=cE z7 1:=(k4 _ oM).trans c8;have e9:H4.g H.n=cE D 1:=(k4 _ oM).trans c7;have k8:ldC (some true) (some 5) 0 K=some (.agg b0.toArray):=by rw[X,a7];rfl
 have K5:K[5]?=some (.int .i64 r.2.1):=by rw[X];rfl
 have K6:K[6]?=some (.int .i64 r.2.2):=by rw[X];rfl
 have j4:PrF H4 (U0 F H2 H3) Rt b0 r.1:=b3.mono (fun j z=>by
  rcases z with z|z
  .have:=hF j z;exact b4.g j oM
  .exact b4.g j z.2) (fun _ h=>h) iF
 have c9:∀j,U0 F H2 H3 j->j<H3.n:=by
  rintro j (z|z)
  .have:=hF j z;omega
  .exact z.2
 obtain⟨v5,m8,H5,i0,d6,g0,rfl,k0,a5⟩:=fK H4 (U0 F H2 H3) Rt b0 r.1 p.st r.2.1 0 0 (fun j z=>by have:=c9 j z;omega) j4 oM;have o2:=a5.n;have f5:H5.g H3.n=cE K 1:=(a5.g _ oM).trans c3;have h5:∀j,U0 (U0 F H2 H3) H4 H5 j->j<H5.n:=by
  rintro j (z|z)
  .have:=c9 j z;omega
  .exact z.2
 obtain⟨v6,m9,H6,d1,e2,u,rfl,b8,b1⟩:=fK H5 _ Rt g0 _ r.2.2 p.st 0 0 h5 k0 (by rw[S6];omega);have o3:=b1.n;obtain⟨g5,g6,m2,m3,rfl,n2,o7⟩:=E3 b8;obtain⟨u,E⟩:=eY ([iV ((r.1.edge p.st r.2.1 0 0).edge r.2.2 p.st 0 0).st,iV ((r.1.edge p.st r.2.1 0 0).edge r.2.2 p.st 0 0).sa,iV ((r.1.edge p.st r.2.1 0 0).edge r.2.2 p.st 0 0).en,.slice g5 ((r.1.edge p.st r.2.1 0 0).edge r.2.2 p.st 0 0).ed.length g6,.slice m2 ((r.1.edge p.st r.2.1 0 0).edge r.2.2 p.st 0 0).ts.length m3]:LV);rw[<-E]at b8 d1;have l6:u.length=5:=by rw[E];rfl
 have a6:u.all oC=true:=by rw[E];rfl
 have l5:splice D 0 u=u:=by rw[E,I];rfl
 have k6:ldC (some true) (some 5) 0 u=some (.agg u.toArray):=by rw[E];rfl
 have f8:V7 (fun i=>([(0,5),(5,1),(6,1)]:List (Nat×Nat))[i]?) z7 [(0,.agg u.toArray),(1,iV p.st),(2,iV p.st)]=some (u++se p.st p.st):=by rw[E];rfl
 have f6:H6.g H.n=cE D 1:=(b1.g _ oM).trans ((a5.g _ oM).trans e9);have f7:H6.g (H.n+2)=cE z7 1:=(b1.g _ oM).trans ((a5.g _ oM).trans f4);obtain⟨H7,W⟩:=eY (H6.put H.n (bC u 1));have g7:H7.g H.n=cE u 1:=by rw[W];exact i7 oM
 have g9:H7.g (H.n+2)=cE z7 1:=by rw[W,j6 oM];exact f7
 have a8:(u++se p.st p.st).all oC=true:=by rw[E];rfl
 have l8:(u++se p.st p.st).length=7:=by rw[E];rfl
 have m0:splice z7 0 (u++se p.st p.st)=u++se p.st p.st:=by rw[E];rfl
 have k7:ldC (some true) (some 7) 0 (u++se p.st p.st)=some (.agg (u++se p.st p.st).toArray):=by rw[E];rfl
 obtain⟨H8,a4⟩:=eY (H7.put (H.n+2) (bC (u++se p.st p.st) 1));have g8:H8.g (H.n+2)=cE (u++se p.st p.st) 1:=by rw[a4];exact i7 (by rw[W,j9];omega)
 have s8:d9 H.n H1 H8:=(((((d0.trans (b6.wk oM)).trans (b4.wk oM)).trans (a5.wk oM)).trans (b1.wk oM)).trans (show d9 H.n H6 H7 by rw[W];exact d9.put lR)).trans (show d9 H.n H7 H8 by rw[a4];exact d9.put oM);have n8:H8.n=H6.n:=by rw[a4,j9,W,j9]
 have i3:=s8.low e5;have k1:PrF H8 (U0 F H H8) Rt u ((r.1.edge p.st r.2.1 0 0).edge r.2.2 p.st 0 0):=b8.mono (fun j z=>by
  have o4:j≠H.n/\j≠H.n+2:=by
   rcases z with((z|z)|z)|z
   .have:=hF j z;omega
   .omega
   .omega
   .omega
  rw[a4,j6 oM,W,j6 oM]) (fun j z=>by
  rcases z with((z|z)|z)|z
  .exact .inl z
  .exact .inr ⟨oM,oM⟩
  .exact .inr ⟨oM,oM⟩
  .exact .inr ⟨oM,oM⟩) iF
 rw[i8 Nj rfl _ sM,<-J,<-O];refine J30 a1 a2 h7.symm i1 d3 d4 r0 (aI q0 q1) (aI lr k3) (aI a3.symm c7) (aI h4 c8) (aI c4 c5) (aI c6 @wrap_small) (aI k5 h0) (aI b5 b2) (aI d5 aK) (aI lK m1) (aI h8.symm c3) (aI k8 K5) (aI K6 i0) (aI d6 f5) (aI d1 e2) (aI f6 k9) (aI l6 a6) (aI l5 W.symm) (aI g7 k6) (aI g9 f8) (aI a8 l8) (aI m0 a4.symm) (aI g8 k7) ?_;exact fW (r:=(_,p.st,p.st)) k1 (hS.trans s8) i3 (fun h=>h)
structure MZ(Kc row4:LV)(r:PrD×Int×Int):Prop where
 all:Kc.all Value.oneCell'=true
 len:Kc.length=7
 spl:splice z7 0 Kc=Kc
 ld5:ldC (some true) (some 5) 0 Kc=some (.agg row4.toArray)
 ld7:ldC (some true) (some 7) 0 Kc=some (.agg Kc.toArray)
 c5:Kc[5]?=some (.int .i64 r.2.1)
 c6:Kc[6]?=some (.int .i64 r.2.2)
 row:Kc=row4++se r.2.1 r.2.2
 len4:row4.length=5
 all4:row4.all Value.oneCell'=true
 spl7:∀K2:LV,K2.length=7->splice K2 0 Kc=Kc
 spl5:∀R:LV,R.length=5->splice R 0 row4=row4
 bld:∀s e:Int,V7 (fun i=>([(0,5),(5,1),(6,1)]:List (Nat×Nat))[i]?) z7 [(0,.agg row4.toArray),(1,iV s),(2,iV e)]=some (row4++se s e)
 ld:ldC (some true) (some 5) 0 row4=some (.agg row4.toArray)
def y7:∀(A B:LV),A.length=B.length->splice A 0 B=B:=by
 intro A B h;apply abn;intro i;rw[Q1 B A 0 i oM];split
 .simp
 .rw[aaM oM,aaM oM]
def mc{H:d7}{F:Nat->Prop}{r:PrD×Int×Int}(h:PrF H F D u r.1):MZ (u++se r.2.1 r.2.2) u r:=by
 obtain⟨I,J,O,S,rfl,_,_⟩:=E3 h;exact⟨rfl,rfl,rfl,rfl,rfl,rfl,rfl,rfl,rfl,rfl,fun E z=>y7 _ _ (by rw[z];rfl),fun R z=>y7 _ _ (by rw[z];rfl),fun s e=>rfl,rfl⟩
def pg(K k:Nat)(ih:pq K k)(lo:Nat)(F:Nat->Prop)(Rt:LV->Q->Prop)(Hx:d7)(el E:LV)(x:Q)(D:PrD)(a7:lo<=Hx.n)(hF:∀j,F j->j<Hx.n) (hr:QR Hx lo k false el x)
  (a5:∀k' el x,k'<=K->QR Hx lo k' true el x->Rt el x) (hp:PrF Hx F Rt E D) (a8:OkD false x) (U:mr (nQ x) D):
  ∃h3 z I u,CL prog l7 108 [.agg E.toArray,.agg el.toArray] Hx=dw (.agg (u++se (D1 x D).2.1 (D1 x D).2.2).toArray) h3/\h3.getD Hx=z/\I=(z.push (bC z7 1)).put z.n (.cells (u++se (D1 x D).2.1 (D1 x D).2.2) true 1)/\
   I.n=z.n+1/\I.g z.n=some (.cells (u++se (D1 x D).2.1 (D1 x D).2.2) true 1)/\Hx.n<=z.n/\d9 Hx.n Hx I/\PrF I (U0 F Hx z) Rt u (D1 x D).1/\MZ (u++se (D1 x D).2.1 (D1 x D).2.2) u (D1 x D)/\(∀j,U0 F Hx z j->j<z.n):=by
 obtain⟨v3,a4,z,a6,W,J,rfl,a2,S⟩:=ih Hx lo F Rt el E x D a7 hF hr a5 hp a8 U;have a1:=S.n;have O:∀j,U0 F Hx z j->j<z.n:=by
  rintro j (X|X)
  .have:=hF j X;omega
  .exact X.2
 have a3:d9 z.n z ((z.push (bC z7 1)).put z.n (.cells (J++se (D1 x D).2.1 (D1 x D).2.2) true 1)):=(d9.push lR).trans (d9.put lR);exact⟨a4,z,_,J,a6,W,rfl,by rw[j9,i4],i7 (by rw[i4];omega),a1,S.trans (a3.wk a1),a2.mono (fun j X=>a3.g j (O j X)) (fun _ h=>h) iF,mc a2,O⟩
def JC(K k:Nat)(hk:k<=K)(ih:pq K k)(H0:d7)(lo I:Nat)(F:Nat->Prop)(Rt:LV->Q->Prop)(e8:lo<=I)(hF:∀j,F j->j<I) (d0:∀k' el x,k'<=K->QR H0 lo k' true el x->Rt el x) (e5:I+3<=H0.n)
  (va:Option Addr) (ca:Nat) (l:List Q) (hv:QsR H0 lo k false (.slice va l.length ca) l) (hn:l.length<=1048576) (d5:∀x∈l,OkD false x) (a3:LV) (hq:H0.g (I+1)=cE a3 1) (b8:a3[1]?=some (.slice va l.length ca)) (g4:H0.g (I+2)=cE z7 1) (W:PrD×Int×Int):
  ∀kk e H2,(∃(i E:Nat)(r:PrD×Int×Int)(u:LV)(G:Nat->Prop),kk=l.length-i/\i<=l.length/\e.g 3=pT (I+1)/\e.g 4=pT (I+2)/\e.g 6=pT E/\e.g 7=iV r.2.1/\e.g 8=iV i/\
    H2.g E=cE (u++se r.2.1 r.2.2) 1/\I+3<=E/\E<H2.n/\PrF H2 G Rt u r.1/\(∀j,G j->(F j\/I+3<=j)/\j<H2.n/\j≠E)/\d9 (I+3) H0 H2/\mr (nL (l.drop i)) r.1/\cV (l.drop i) r=W)->
  u7 (LE prog l7 (.loop OF) e H2) (fun o e H2=>o= .exit 0/\e.g 4=pT (I+2)/\∃(E:Nat)(u:LV)(G:Nat->Prop),e.g 6=pT E/\H2.g E=cE (u++se W.2.1 W.2.2) 1/\PrF H2 G Rt u W.1/\(∀j,G j->(F j\/I+3<=j)/\j<H2.n)/\d9 (I+3) H0 H2):=by
 refine i5 _ _ ?_;rintro kk e H2 ⟨i,E,r,u,G,e6,hi,f3,f4,f6,f7,f8,g6,d6,b7,hp,hG,hS,O,fu⟩;have f0:=hS.n;have b9:=(hS.g (I+1) oM).trans hq;have h7:=mc hp;obtain⟨Kc,a7⟩:=eY (u++se r.2.1 r.2.2);rw[<-a7]at h7 g6;rcases b:decide ((i:Int)<l.length)with _|_
 .have d1:=dF b;have:l.drop i=[]:=dN oM;rw[this,cV]at fu;refine J8 f3 f4 f6 f7 f8 b9 b8 b ?_;exact i6 ⟨rfl,f4,E,u,G,f6,by rw[<-fu,<-a7];exact g6,by rw[<-fu];exact hp,fun j D=>⟨(hG j D).1,(hG j D).2.1⟩,hS⟩
 have d1:=dT b;obtain⟨x,nb,o,e1,own,el,hx,hd,rfl,e9,b4,e7,a1,hR⟩:=hv.row (i:=i) oM;have nt:(i:Int).toNat=i:=tN i;simp only[qSz,bF]at a1 b4;have c7:=(hS.g nb oM).trans b4;rw[hd]at fu O;rw[cV]at fu;rw[nL]at O;obtain⟨t0,t1,t2,t3⟩:=O;have b3:=I6 x r.1;obtain⟨e2,H3,H4,a2,a4,b1,e4,n4,S,n3,a9,b5,z,c8⟩:=pg K k ih lo G Rt H2 el u x r.1 oM (fun j D=>(hG j D).2.1) (hR.mono (fun j D=>hS.g j oM) lR) (fun k' el x d3 h=>d0 k' el x d3 (h.mono (fun j D=>(hS.g j oM).symm) lR)) hp (d5 x (mG hx)) ⟨t0,oM,oM,oM⟩;obtain⟨y,hy⟩:=eY (D1 x r.1);rw[<-hy]at a4 e4 S b5 z b3 fu;obtain⟨w0,w1,w2,w3⟩:=b3;obtain⟨Kd,c9⟩:=eY (a2++se y.2.1 y.2.2);rw[<-c9]at a4 e4 S z;have a6:H4.g E=cE Kc 1:=(a9.g E b7).trans g6;have d4:¬U0 G H2 H3 E:=by
  rintro(q|q)
  .exact(hG E q).2.2 rfl
  .omega
 obtain⟨v5,e3,H5,d2,b2,a5,rfl,b6,U⟩:=fK H4 (U0 G H2 H3) Rt a2 y.1 r.2.2 y.2.1 0 0 (fun j D=>by have:=c8 j D;omega) b5 oM;have n5:=U.n;have J:=mc (r:=(y.1.edge r.2.2 y.2.1 0 0,r.2.1,y.2.2)) b6;have c4:H5.g H3.n=cE Kd 1:=(U.g _ oM).trans S;have c3:H5.g E=cE Kc 1:=(U.g _ oM).trans a6;obtain⟨Ke,a8⟩:=eY (a5++se r.2.1 y.2.2);have X:=J.bld r.2.1 y.2.2;simp only at J;rw[<-a8]at J X;have c0:=J.spl7 Kc h7.len;refine J30 f3 f4 f6 f7 f8 b9 b8 b c7 nt a1 g6 h7.ld5 h7.len a4 b1 z.all z.len z.spl e4.symm S z.ld5 z.c5 z.c6 a6 (aI h7.c6 d2) (aI b2 c4) (aI c3 X) (aI J.all J.len) (aI c0 @wrap_small) ?_;refine d8 (kk-1) oM ⟨i+1,E,(y.1.edge r.2.2 y.2.1 0 0,r.2.1,y.2.2),a5,U0 (U0 G H2 H3) H4 H5,oM,oM,f3,f4,f6,f7,rfl,by rw[<-a8];exact i7 oM,d6,by rw[j9];omega,b6.mono (fun j D=>j6 ?_) (fun _ h=>h) iF,?_,?_,?_,fu⟩
 .rintro rfl;rcases D with D|D
  .exact d4 D
  .omega
 .rintro j ((D|D)|D)
  .have:=hG j D;exact⟨this.1,by rw[j9];omega,this.2.2⟩
  .exact⟨.inr oM,by rw[j9];omega,oM⟩
  .exact⟨.inr oM,by rw[j9];omega,oM⟩
 .exact((hS.trans (a9.wk oM)).trans (U.wk oM)).trans (d9.put oM)
 .refine⟨by simp only[ay];omega,by simp only[ay];omega,by rw[S6];omega,by simp only[eR];omega⟩
def wE(q:Q)(p:PrD)(h:q.op=4):D1 q p=fQ q.a p:=by
 cases q;simp only[Q.op]at h;subst h;rw[D1,cA rfl];rfl
def Ku(K k:Nat)(hk:k<=K)(ih:pq K k)(q:Q)(h4:q.op=4)(H:d7)(lo:Nat)(F:Nat->Prop)(Rt:LV->Q->Prop)(cs c8:LV)(p:PrD)(e3:lo<=H.n)(hF:∀j,F j->j<H.n) (hr:QR H lo (k+1) false cs q)
  (b3:∀k' el x,k'<=K->QR H lo k' true el x->Rt el x) (hp:PrF H F Rt c8 p) (e5:OkD false q) (b4:mr (nQ q) p):
  Ret (CL prog l7 108 [.agg c8.toArray,.agg cs.toArray] H) H (Dh H F Rt (D1 q p)):=by
 obtain⟨f0,f1,f2,f3⟩:=b4;have g2:=im q;obtain⟨c7,_,o1,_,e9⟩:=e5.parts;obtain⟨l1,l2,_,_⟩:=eW e9;have e1:lst false q.op=2:=by rw[h4];decide
 rw[e1]at l1;obtain⟨va,ca,wa,d0,rfl,h1,h2,h3,f6⟩:=hr.path;obtain⟨ea,ec,ta,tc,rfl,he,ht⟩:=E3 hp;obtain⟨x,nb,o,f4,own,el,hx,hd,rfl,f9,b8,e2,a3,hR⟩:=h1.row (i:=0) oM;simp only[qSz,bF,aa8,aaf]at a3 b8 e2;have a7:q.a=x::q.a.drop 1:=by simpa using hd
 have g1:nL q.a=nQ x+nL (q.a.drop 1):=by rw[a7,nL];rfl
 have c6:D1 q p=cV (q.a.drop 1) (D1 x p):=by rw[wE q p h4,a7,fQ];rfl
 rw[c6];obtain⟨J,u⟩:=eY ([iV p.st,iV p.sa,iV p.en,.slice ea p.ed.length ec,.slice ta p.ts.length tc]:LV);obtain⟨I,D⟩:=eY ([iV q.op,.slice (some ⟨nb,o,none⟩) q.a.length ca,.slice wa q.b.length d0]:LV);obtain⟨H1,d4,hS,d5,b5,a9,b9,g0⟩:=CD H J I z7;have a1:J.all oC=true:=by rw[u];rfl
 have a2:I.all oC=true:=by rw[D];rfl
 have r0:J[0]?=some (.int .i64 p.st):=by rw[u];rfl
 have q0:I[0]?=some (.int .i64 q.op):=by rw[D];rfl
 have q1:I[1]?=some (.slice (some ⟨nb,o,none⟩) q.a.length ca):=by rw[D];rfl
 have e8:ldC (some true) (some 5) 0 J=some (.agg J.toArray):=by rw[u];rfl
 have f8:(0:Int)<q.a.length:=oM;have c4:decide (q.op=4)=true:=yo h4;have d3:H1.g nb=_:=(hS.g nb oM).trans b8;have e6:PrF H1 F Rt J p:=⟨_,_,u,he.mono (fun j E=>hS.g j (hF j E)) (fun _ h=>h) iF,ht.mono (fun j E=>hS.g j (hF j E)) (fun _ h=>h) iF⟩
 obtain⟨f5,H3,H4,a4,a8,b6,e4,n4,W,n3,a5,c0,O,f7⟩:=pg K k ih lo F Rt H1 el J x p oM (fun j E=>by have:=hF j E;omega) (hR.mono (fun j E=>hS.g j oM) lR) (fun k' el x b0 h=>b3 k' el x b0 (h.mono (fun j E=>(hS.g j oM).symm) lR)) e6 (c7 x (by rw[a7];simp)) ⟨f0,oM,oM,oM⟩;have b7:=I6 x p;obtain⟨y,hy⟩:=eY (D1 x p);rw[<-hy]at a8 e4 W c0 O b7 ⊢;obtain⟨w0,w1,w2,w3⟩:=b7;obtain⟨Kd,b1⟩:=eY (a4++se y.2.1 y.2.2);rw[<-b1]at a8 e4 W O;have k4:∀j,j<H1.n->H4.g j=H1.g j:=a5.g;have X:d9 H.n H H4:=hS.trans (a5.wk oM);rw[i8 Nj rfl _ sM,<-u,<-D];refine J22 a1 a2 d4.symm d5 b5 a9 r0 q0 q1 c4 e8 d3 a3 a8 b6 O.all O.len O.spl e4.symm W O.c5 @wrap_small ?_;refine j5 (F:=fun z=>Ret (t6 _ _ _ (u6 (u6 (inBlock 0 z) _) _)) _ _) (JC K k hk ih H4 lo H.n F Rt e3 hF (fun k' el x b0 h=>b3 k' el x b0 (h.mono (fun j E=>(X.g j oM).symm) lR)) oM (some ⟨nb,o,none⟩) ca q.a (h1.mono (fun j E=>X.g j oM) lR) h3 c7 I ((k4 _ oM).trans b5) q1 ((k4 _ oM).trans a9) (cV (q.a.drop 1) y) (q.a.length-1) _ _
  ⟨1,H3.n,y,a4,U0 F H1 H3,rfl,oM,rfl,rfl,rfl,rfl,by rfl,by rw[<-b1];exact W,oM,oM,c0,?_,d9.refl _ _,⟨oM,oM,oM,oM⟩,rfl⟩) ?_
 .rintro j (E|E)
  .have:=hF j E;exact⟨.inl E,oM,oM⟩
  .exact⟨.inr oM,oM,oM⟩
 rintro o' e' H5 ⟨ho,e7,p6,c9,G,k6,g6,c3,hG,a6⟩;have n5:=a6.n;have S:=mc c3;obtain⟨Ke,b2⟩:=eY (c9++se (cV (q.a.drop 1) y).2.1 (cV (q.a.drop 1) y).2.2);rw[<-b2]at g6 S;have d1:H5.g (H.n+2)=cE z7 1:=(a6.g _ oM).trans ((k4 _ oM).trans a9);obtain⟨H6,U⟩:=eY (H5.put (H.n+2) (bC Ke 1));have d2:H6.g (H.n+2)=cE Ke 1:=by rw[U];exact i7 oM
 have s6:d9 H.n H1 H6:=((a5.wk oM).trans (a6.wk oM)).trans (show d9 H.n H5 H6 by rw[U];exact d9.put oM);have d6:=s6.low b9;refine J11 ho e7 k6 g6 S.ld7 d1 S.all S.len S.spl U.symm d2 ?_;rw[b2];refine fW (c3.mono (fun j E=>?_) (fun j E=>?_) iF) (hS.trans s6) d6 (fun h=>h)
 .rw[U];refine j6 ?_;rcases(hG j E).1 with q|q
  .have:=hF j q;omega
  .omega
 .rcases(hG j E).1 with q|q
  .exact .inl q
  .exact .inr ⟨oM,by rw[U,j9];exact(hG j E).2⟩
def Gr(K k:Nat)(hk:k<=K)(ih:pq K k)(H0:d7)(lo D:Nat)(F:Nat->Prop)(Rt:LV->Q->Prop)(g1:lo<=D)(hF:∀j,F j->j<D) (d6:∀k' el x,k'<=K->QR H0 lo k' true el x->Rt el x) (f6:D+3<=H0.n)
  (va:Option Addr) (ca:Nat) (l:List Q) (hv:QsR H0 lo k false (.slice va l.length ca) l) (hn:l.length<=1048576) (e6:∀x∈l,OkD false x) (X:LV) (hq:H0.g (D+1)=cE X 1) (c4:X[1]?=some (.slice va l.length ca)) (z:Blk) (g4:H0.g (D+2)=some z) (n:Int) (a8:PrD×List Int):
  ∀kk e H2,(∃(i:Nat)(p:PrD)(es:List Int)(w:aet)(u:LV)(G:Nat->Prop),kk=l.length-i/\i<=l.length/\es.length=i/\e.g 2=pT D/\e.g 3=pT (D+1)/\e.g 4=pT (D+2)/\e.g 5=iV n/\e.g 10=w/\e.g 11=iV i/\
    H2.g D=cE u 1/\H2.g (D+1)=cE X 1/\H2.g (D+2)=some z/\PrF H2 G Rt u p/\(∀j,G j->(F j\/D+3<=j)/\j<H2.n/\¬j8 w j)/\t7 H2 (D+3) 1 (u9 inE) w es/\d9 D H0 H2/\mr (nL (l.drop i)) p/\M7 (l.drop i) n p es=a8)->
  u7 (LE prog l7 (.loop Xp) e H2) (fun o e H2=>o= .exit 2/\e.g 2=pT D/\e.g 4=pT (D+2)/\e.g 5=iV n/\∃(w:aet)(u:LV)(G:Nat->Prop),e.g 10=w/\H2.g D=cE u 1/\H2.g (D+2)=some z/\PrF H2 G Rt u a8.1/\(∀j,G j->(F j\/D+3<=j)/\j<H2.n)/\t7 H2 (D+3) 1 (u9 inE) w a8.2/\d9 D H0 H2):=by
 refine i5 _ _ ?_;rintro kk e H2 ⟨i,p,es,w,u,G,f8,hi,f7,f2,f3,f4,f5,a5,a9,g0,gq,gz,hp,hG,hO,hS,W,fu⟩;have g2:=hS.n;have b2:=u5 g0;have b3:=u5 gz;have h7:=mc (r:=(p,0,0)) hp;rcases b:decide ((i:Int)<l.length)with _|_
 .have e2:=dF b;have:l.drop i=[]:=dN oM;rw[this,M7]at fu;refine J9 f2 f3 f4 f5 a5 a9 gq c4 b ?_;exact i6 ⟨rfl,f2,f4,f5,w,u,G,a5,g0,gz,by rw[<-fu];exact hp,fun j E=>⟨(hG j E).1,(hG j E).2.1⟩,by rw[<-fu];exact hO,hS⟩
 have e2:=dT b;obtain⟨x,nb,o,e8,own,el,hx,hd,rfl,b9,b8,f9,a3,hR⟩:=hv.row (i:=i) oM;have nt:(i:Int).toNat=i:=tN i;simp only[qSz,bF]at a3 b8;have d1:=(hS.g nb oM).trans b8;rw[hd]at fu W;rw[M7]at fu;rw[nL]at W;obtain⟨t0,t1,t2,t3⟩:=W;have b7:=I6 x p;obtain⟨e9,H3,H4,a4,a7,b4,e4,n4,a1,n3,b1,c0,I,d2⟩:=pg K k ih lo G Rt H2 el u x p oM (fun j E=>(hG j E).2.1) (hR.mono (fun j E=>hS.g j oM) lR) (fun k' el x e5 h=>d6 k' el x e5 (h.mono (fun j E=>(hS.g j oM).symm) lR)) hp (e6 x (mG hx)) ⟨t0,oM,oM,oM⟩;obtain⟨y,hy⟩:=eY (D1 x p);rw[<-hy]at a7 e4 a1 c0 I b7 fu;obtain⟨w0,w1,w2,w3⟩:=b7;obtain⟨Kd,d3⟩:=eY (a4++se y.2.1 y.2.2);rw[<-d3]at a7 e4 a1 I;obtain⟨v5,f0,H5,e3,b5,U,rfl,c3,a2⟩:=fK H4 (U0 G H2 H3) Rt a4 y.1 n y.2.1 0 0 (fun j E=>by have:=d2 j E;omega) c0 oM;have n5:=a2.n;have a6:=mc (r:=(y.1.edge n y.2.1 0 0,0,0)) c3;have c8:H5.g H3.n=cE Kd 1:=(a2.g _ oM).trans a1;have k5:∀j,j<H2.n->H5.g j=H2.g j:=fun j E=>by rw[a2.g j oM,b1.g j E]
 have c7:H5.g D=cE u 1:=(k5 _ b2).trans g0;have e7:splice u 0 U=U:=a6.spl5 u h7.len4;obtain⟨H6,J⟩:=eY (H5.put D (bC U 1));have n6:H6.n=H5.n:=by rw[J,j9]
 have c9:H6.g H3.n=cE Kd 1:=by rw[J,j6 oM];exact c8
 have k6:∀j,j<H2.n->j≠D->H6.g j=H2.g j:=fun j E O=>by rw[J,j6 (fun q=>O q.symm)];exact k5 j E
 have d4:t7 H6 (D+3) 1 (u9 inE) w es:=hO.same fun b hb=>by have:=hO.lt hb;exact k6 b this.2 oM
 obtain⟨v7,f1,H7,e1,b6,d5,S⟩:=d4.push1F (P:=prog) (t:=30) (cs:=inE y.2.2) (a:=y.2.2) (by exact OK.2.2.2.2.2.2) ty3.1 ty3.2.1 ty3.2.2.1 oM oM rfl rfl oM oM;have n7:=S.n;have nw:∀j,j<D+3->¬j8 w j:=fun j E q=>oN (hO.lt q);have k7:∀j,j<D+3->j≠D->j<H2.n->H7.g j=H2.g j:=fun j E O b9=>by rw[S.but j oM (nw j E),k6 j b9 O]
 have d0:H7.g D=cE U 1:=by rw[S.but D oM (nw D oM),J];exact i7 oM
 refine J30 f2 f3 f4 f5 a5 a9 gq c4 b d1 nt a3 g0 h7.ld a7 b4 I.all I.len I.spl e4.symm a1 I.ld5 I.c5 I.c6 (aI e3 b5) (aI c7 a6.all4) (aI a6.len4 h7.len4) (aI e7 J.symm) (aI c9 e1) (aI b6 @wrap_small) ?_;refine d8 (kk-1) oM ⟨i+1,y.1.edge n y.2.1 0 0,es++[y.2.2],v7,U,U0 (U0 G H2 H3) H4 H5,oM,oM,by simp;omega,f2,f3,f4,f5,rfl,rfl,d0,(k7 _ oM oM (oN (u5 gq))).trans gq,(k7 _ oM oM b3).trans gz,?_,?_,d5,?_,?_,fu⟩
 .refine c3.mono (fun j E=>?_) (fun _ h=>h) iF;have O:j≠D/\j<H6.n/\¬j8 w j:=by
   rcases E with(E|E)|E
   .have:=hG j E;refine⟨?_,oM,this.2.2⟩;rcases this.1 with q|q
    .have:=hF j q;omega
    .omega
   .exact⟨oM,oM,fun q=>by have:=hO.lt q;omega⟩
   .exact⟨oM,oM,fun q=>by have:=hO.lt q;omega⟩
  rw[S.but j O.2.1 O.2.2,J,j6 (fun q=>O.1 q.symm)]
 .rintro j E;have nv:∀b,j8 v7 b->j8 w b\/H6.n<=b:=S.new;rcases E with(E|E)|E
  .have:=hG j E;exact⟨this.1,oM,fun q=>(nv j q).elim this.2.2 (fun q=>oM)⟩
  .exact⟨.inr oM,oM,fun q=>(nv j q).elim (fun q=>by have:=hO.lt q;omega) (fun q=>oM)⟩
  .exact⟨.inr oM,oM,fun q=>(nv j q).elim (fun q=>by have:=hO.lt q;omega) (fun q=>oM)⟩
 .exact(((hS.trans (b1.wk oM)).trans (a2.wk oM)).trans (show d9 D H5 H6 by rw[J];exact d9.put lR)).trans (S.stay.wk oM)
 .refine⟨by simp only[ay];omega,by simp only[ay];omega,by rw[S6];omega,by simp only[eR];omega⟩
def Ee(H0:d7)(D:Nat)(F:Nat->Prop)(Rt:LV->Q->Prop)(hF:∀j,F j->j<D) (b8:D+3<=H0.n) (w:aet) (O:List Int) (hO:t7 H0 (D+3) 1 (u9 inE) w O) (hl:O.length<=900000) (z:Blk) (gz:H0.g (D+2)=some z) (n t:Int) (a8:PrD):
  ∀kk e H2,(∃(i:Nat)(p:PrD)(u:LV)(G:Nat->Prop),kk=O.length-i/\i<=O.length/\e.g 2=pT D/\e.g 4=pT (D+2)/\e.g 5=iV n/\e.g 10=w/\e.g 13=iV t/\e.g 14=iV i/\
    H2.g D=cE u 1/\PrF H2 G Rt u p/\(∀j,G j->(F j\/D+3<=j)/\j<H2.n)/\(∀j,D<j->j<H0.n->H2.g j=H0.g j)/\d9 D H0 H2/\p.ed.length+O.length<=900000+i/\(O.drop i).foldl (fun m x=>m.edge x t 0 0) p=a8)->
  u7 (LE prog l7 (.loop Xq) e H2) (fun o e H2=>o= .exit 4/\e.g 2=pT D/\e.g 4=pT (D+2)/\e.g 5=iV n/\e.g 13=iV t/\∃(u:LV)(G:Nat->Prop),H2.g D=cE u 1/\H2.g (D+2)=some z/\PrF H2 G Rt u a8/\(∀j,G j->(F j\/D+3<=j)/\j<H2.n)/\d9 D H0 H2):=by
 refine i5 _ _ ?_;rintro kk e H2 ⟨i,p,u,G,b9,hi,f2,f4,f5,a1,S,a2,g0,hp,hG,E,hS,b6,fu⟩;have c4:=hS.n;have a3:=u5 g0;have h7:=mc (r:=(p,0,0)) hp;have b1:=(E (D+2) oM (u5 gz)).trans gz;obtain⟨wa,wc,a7⟩:=hO.slice;have I:=a1;rw[a7]at I;rcases b:decide ((i:Int)<O.length)with _|_
 .have b2:=dF b;have:O.drop i=[]:=dN oM;rw[this,aaT]at fu;refine J7 f2 f4 f5 I S a2 b ?_;exact i6 ⟨rfl,f2,f4,f5,S,u,G,g0,b1,by rw[<-fu];exact hp,hG,hS⟩
 have b2:=dT b;obtain⟨x,hx,hd⟩:=T4 (l:=O) (i:=i) oM;obtain⟨nb,c,cs,hv,c5,a5,hg,c3,hR⟩:=hO.at_ hx;rw[a7]at hv;obtain⟨rfl,rfl⟩:wa=some ⟨nb,0,none⟩/\wc=c:=by simpa using hv
 have nt:(i:Int).toNat=i:=tN i;have b4:=(E nb oM a5).trans hg;have c0:cs[i]?=some (.int .i64 x):=by
  have:(cs.drop (i*1)).take 1=[iV x]:=hR;have:=F1 (k:=0) oM this
  simpa using this
 rw[hd,aak]at fu;obtain⟨v5,b7,H5,b3,a4,W,rfl,a6,U⟩:=fK H2 G Rt u p x t 0 0 (fun j J=>(hG j J).2) hp oM;have n5:=U.n;have X:=mc (r:=(p.edge x t 0 0,0,0)) a6;have a9:H5.g D=cE u 1:=(U.g _ a3).trans g0;have b5:splice u 0 W=W:=X.spl5 u h7.len4;refine J21 f2 f4 f5 I S a2 b g0 h7.ld b4 nt @aaK c0 b3 a4 a9 X.all4 X.len4 h7.len4 b5 @wrap_small ?_;refine d8 (kk-1) oM ⟨i+1,p.edge x t 0 0,W,U0 G H2 H5,oM,oM,f2,f4,f5,a1,S,rfl,i7 oM,a6.mono (fun j J=>j6 ?_) (fun _ h=>h) iF,?_,fun j h1 h2=>?_,(hS.trans (U.wk oM)).trans (d9.put lR),by rw[S6];omega,fu⟩
 .rintro rfl;rcases J with J|J
  .rcases(hG _ J).1 with q|q
   .have:=hF _ q;omega
   .omega
  .omega
 .rintro j (J|J)
  .have:=hG j J;exact⟨this.1,by rw[j9];omega⟩
  .exact⟨.inr oM,by rw[j9];exact J.2⟩
 .rw[j6 oM,U.g j oM,E j h1 h2]
def wC(q:Q)(p:PrD)(h:q.op=5):D1 q p=(((M7 q.a p.st {p with st:=p.st+1} []).2.foldl (fun m x=>m.edge x (M7 q.a p.st {p with st:=p.st+1} []).1.st 0 0) {(M7 q.a p.st {p with st:=p.st+1} []).1 with st:=(M7 q.a p.st {p with st:=p.st+1} []).1.st+1}),p.st,(M7 q.a p.st {p with st:=p.st+1} []).1.st):=by
 cases q;simp only[Q.op]at h;subst h;rw[D1,bt (by decide),cA rfl];rfl
def Kt(K k:Nat)(hk:k<=K)(ih:pq K k)(q:Q)(h5:q.op=5)(H:d7)(lo:Nat)(F:Nat->Prop)(Rt:LV->Q->Prop)(cs d5:LV)(p:PrD)(g3:lo<=H.n)(hF:∀j,F j->j<H.n) (hr:QR H lo (k+1) false cs q)
  (f8:∀k' el x,k'<=K->QR H lo k' true el x->Rt el x) (hp:PrF H F Rt d5 p) (g5:OkD false q) (c0:mr (nQ q) p):
  Ret (CL prog l7 108 [.agg d5.toArray,.agg cs.toArray] H) H (Dh H F Rt (D1 q p)):=by
 obtain⟨f0,f1,f2,f3⟩:=c0;have i3:=im q;have i0:=vN q.a;obtain⟨h6,_,o1,_,j0⟩:=g5.parts;obtain⟨va,ca,wa,e1,rfl,h1,h2,h3,h9⟩:=hr.path;obtain⟨ea,ec,ta,tc,rfl,he,ht⟩:=E3 hp;rw[wC q p h5];obtain⟨a7,u⟩:=eY ([iV p.st,iV p.sa,iV p.en,.slice ea p.ed.length ec,.slice ta p.ts.length tc]:LV);obtain⟨E,I⟩:=eY ([iV q.op,.slice va q.a.length ca,.slice wa q.b.length e1]:LV);obtain⟨H1,f6,hS,g0,c3,c6,c7,i1⟩:=CD H a7 E z7;have a1:a7.all oC=true:=by rw[u];rfl
 have a2:E.all oC=true:=by rw[I];rfl
 have r0:a7[0]?=some (.int .i64 p.st):=by rw[u];rfl
 have q0:E[0]?=some (.int .i64 q.op):=by rw[I];rfl
 have q1:E[1]?=some (.slice va q.a.length ca):=by rw[I];rfl
 have lr:a7.length=5:=by rw[u];rfl
 obtain⟨S,a5⟩:=eY ([iV (p.st+1),iV p.sa,iV p.en,.slice ea p.ed.length ec,.slice ta p.ts.length tc]:LV);have g9:splice a7 0 [iV (p.st+1)]=S:=by rw[u,a5];rfl
 obtain⟨H2,a3⟩:=eY (H1.put H.n (bC S 1));have b7:d9 H.n H1 H2:=by rw[a3];exact d9.put lR
 have i2:H2.n=H1.n:=by rw[a3,j9]
 have f5:H2.g H.n=cE S 1:=by rw[a3];exact i7 oM
 have b3:H2.g (H.n+1)=cE E 1:=by rw[a3,j6 oM];exact c3
 have b4:H2.g (H.n+2)=cE z7 1:=by rw[a3,j6 oM];exact c6
 have c4:decide (q.op=4)=false:=kA oM;have c5:decide (q.op=5)=true:=yo h5;have X:d9 H.n H H2:=hS.trans b7;have g6:PrF H2 F Rt S {p with st:=p.st+1}:=⟨_,_,a5,he.mono (fun j D=>X.g j (hF j D)) (fun _ h=>h) iF,ht.mono (fun j D=>X.g j (hF j D)) (fun _ h=>h) iF⟩
 obtain⟨⟨w0,w1,w2,w3⟩,w4⟩:=pO q.a p.st {p with st:=p.st+1} [];obtain⟨r,c9⟩:∃r,r=M7 q.a p.st {p with st:=p.st+1} []:=eX;rw[<-c9]at w0 w1 w2 w3 w4 ⊢;simp only[aaG]at w0 w1 w2 w3 w4;rw[i8 Nj rfl _ sM,<-u,<-I];refine J15 a1 a2 f6.symm g0 c3 c6 r0 q0 q1 lr g9 a3.symm c4 c5 @wrap_small ?_;refine j5 (F:=fun z=>Ret (t6 _ _ _ (u6 (u6 (inBlock 2 z) _) _)) _ _) (Gr K k hk ih H2 lo H.n F Rt g3 hF (fun k' el x g1 h=>f8 k' el x g1 (h.mono (fun j D=>(X.g j oM).symm) lR)) oM va ca q.a (h1.mono (fun j D=>X.g j oM) lR) h3 h6 E b3 q1 _ b4 p.st r q.a.length _ _
  ⟨0,{p with st:=p.st+1},[],nS,S,F,rfl,oM,rfl,rfl,rfl,rfl,rfl,rfl,rfl,f5,b3,b4,g6,fun j D=>⟨.inl D,by have:=hF j D;omega,C2 j⟩,t7.nil,d9.refl _ _,⟨by show 0<=p.st+1;omega,by show p.st+1+2*_<=_;simp;omega,by show p.ed.length+_<=_;simp;omega,by show p.ts.length+_<=_;simp;omega⟩,c9.symm⟩) ?_
 rintro o' e' H5 ⟨ho,k2,d2,d3,w,a8,G,d1,e5,e6,g7,b0,b6,b8⟩;have n5:=b8.n;obtain⟨e3,e4,h7,h8,W,f9,h0⟩:=E3 g7;have s0:a8[0]?=some (.int .i64 r.1.st):=by rw[W];rfl
 have l4:a8.length=5:=by rw[W];rfl
 obtain⟨U,a6⟩:=eY ([iV (r.1.st+1),iV r.1.sa,iV r.1.en,.slice e3 r.1.ed.length e4,.slice h7 r.1.ts.length h8]:LV);have d0:splice a8 0 [iV (r.1.st+1)]=U:=by rw[W,a6];rfl
 obtain⟨H6,O⟩:=eY (H5.put H.n (bC U 1));have n6:H6.n=H5.n:=by rw[O,j9]
 have e7:H6.g H.n=cE U 1:=by rw[O];exact i7 oM
 have e8:H6.g (H.n+2)=cE z7 1:=by rw[O,j6 oM];exact e6
 have d4:∀j,G j->j≠H.n:=fun j D=>by
  rcases(b0 j D).1 with q|q
  .have:=hF j q;omega
  .omega
 have g8:PrF H6 G Rt U {r.1 with st:=r.1.st+1}:=⟨_,_,a6,f9.mono (fun j D=>by rw[O,j6 (fun q=>d4 j D q.symm)]) (fun _ h=>h) iF,h0.mono (fun j D=>by rw[O,j6 (fun q=>d4 j D q.symm)]) (fun _ h=>h) iF⟩
 have f7:t7 H6 (H.n+3) 1 (u9 inE) w r.2:=b6.same fun b hb=>by have:=b6.lt hb;rw[O,j6 oM]
 refine J11 ho k2 d2 d3 d1 e5 s0 l4 d0 O.symm @wrap_small ?_;refine j5 (F:=fun z=>Ret (t6 _ _ _ (u6 (u6 (inBlock 4 z) _) _)) _ _) (Ee H6 H.n F Rt hF oM w r.2 f7 oM _ e8 p.st r.1.st _ r.2.length _ _
  ⟨0,{r.1 with st:=r.1.st+1},U,G,rfl,oM,k2,d2,d3,d1,rfl,rfl,e7,g8,fun j D=>⟨(b0 j D).1,by rw[n6];exact(b0 j D).2⟩,fun j _ _=>rfl,d9.refl _ _,by show r.1.ed.length+_<=_;omega,rfl⟩) ?_
 rintro o2 e2 H7 ⟨g4,m2,m4,m5,h4,d6,G7,e9,b2,c8,b1,b9⟩;have n7:=b9.n;have J:=mc (r:=(r.2.foldl (fun m x=>m.edge x r.1.st 0 0) {r.1 with st:=r.1.st+1},p.st,r.1.st)) c8;have a9:=J.bld p.st r.1.st;obtain⟨Ke,b5⟩:=eY (d6++se p.st r.1.st);simp only at J;rw[<-b5]at J a9;obtain⟨H8,a4⟩:=eY (H7.put (H.n+2) (bC Ke 1));have f4:H8.g (H.n+2)=cE Ke 1:=by rw[a4];exact i7 (u5 b2)
 have s8:d9 H.n H1 H8:=(((b7.trans b8).trans (show d9 H.n H5 H6 by rw[O];exact d9.put lR)).trans b9).trans (show d9 H.n H7 H8 by rw[a4];exact d9.put oM);have g2:=s8.low c7;refine J15 g4 m2 m4 m5 h4 e9 J.ld a9 b2 J.all J.len J.spl a4.symm f4 J.ld7 ?_;rw[b5];refine fW (r:=(_,p.st,r.1.st)) (c8.mono (fun j D=>?_) (fun j D=>?_) iF) (hS.trans s8) g2 (fun h=>h)
 .rw[a4];refine j6 ?_;rcases(b1 j D).1 with q|q
  .have:=hF j q;omega
  .omega
 .rcases(b1 j D).1 with q|q
  .exact .inl q
  .exact .inr ⟨oM,by rw[a4,j9];exact(b1 j D).2⟩
def Kr(K:Nat):∀k,k<=K+1->pq K k:=by
 intro k;induction k with
 |zero=>intro _ H lo F J cs z q p u O I;exact I.elim
 |succ k U=>
  intro hk H lo F J cs z q p u O I D S E h;by_cases W:q.op=4
  .exact Ku K k oM (U oM) q W H lo F J cs z p u O I D S E h
  .by_cases X:q.op=5
   .exact Kt K k oM (U oM) q X H lo F J cs z p u O I D S E h
   .by_cases h6:q.op=6
    .exact Gm K k oM (U oM) q h6 H lo F J cs z p u O I D S E h
    .exact Gl K k oM q W X h6 H lo F J cs z p u O I D S E h
def C6(q:Q):PrD:={(D1 q ⟨0,0,0,[],[]⟩).1 with sa:=(D1 q ⟨0,0,0,[],[]⟩).2.1,en:=(D1 q ⟨0,0,0,[],[]⟩).2.2}
def fy(q:Q):0<=(C6 q).st/\(C6 q).st<=2*nQ q:=by
 have:=I6 q ⟨0,0,0,[],[]⟩;unfold bB at this;simp only[C6];simp only at this;omega
def PrF.sub{H:d7}{F F':Nat->Prop}(h:PrF H F u cs p)(z:∀j,F j->F' j):PrF H F' u cs p:=h.mono (fun _ _=>rfl) z iF
def dP{H:d7}{F:Nat->Prop}(h:PrF H F u cs p):cs.length=5:=by obtain⟨z,D,E,I,rfl,_⟩:=E3 h;rfl
def jA{H:d7}{F:Nat->Prop}(h:PrF H F u cs p):cs.all oC=true:=by obtain⟨z,D,E,I,rfl,_⟩:=E3 h;rfl
def FZ(H:d7)(Rt:LV->Q->Prop)(p:PrD)(w:aet)(H1:d7):Prop:=∃cs',w= .agg cs'.toArray/\PrF H1 (fun j=>H.n<=j/\j<H1.n) Rt cs' p/\d9 H.n H H1
def OY{H H':d7}(U:PrF H' (fun j=>H.n<=j/\j<H'.n) z cs' p) (O:d9 H.n H H') (S:H.n<=H'.low)  (u:c=true->cs'.all na0=true):
  Ret (some (br c (.agg cs'.toArray,none) (.agg cs'.toArray,some ⟨H'.bs,min H.low H'.low⟩))) H (FZ H z p):=by
 obtain⟨I,J,rfl,D,E⟩:=U;refine bG (fun h=>?_) ⟨_,rfl,⟨I,J,rfl,D,E⟩,O.ret S⟩;have h:=u h;simp only[aaE,gk]at h;exact⟨_,rfl,⟨I,J,rfl,eZ D h.2.2.2.1,eZ E h.2.2.2.2.1⟩,d9.refl _ _⟩
abbrev z5:LV:=[iV 0,iV 0,iV 0,nS,nS]
def nU(K k:Nat)(hk:k<=K+1)(H:d7)(lo:Nat)(Rt:LV->Q->Prop)(cs:LV)(q:Q)(d0:lo<=H.n)(hr:QR H lo k false cs q)(b3:∀k' el x,k'<=K->QR H lo k' true el x->Rt el x) (b6:OkD false q) (c6:nQ q<=100000):
  Ret (CL prog l7 73 [.agg cs.toArray] H) H (FZ H Rt (C6 q)):=by
 have b7:=hr;cases k with
 |zero=>exact hr.elim
 |succ k=>
 obtain⟨va,ca,wa,c7,a7,h1,h2,h3,h4⟩:=hr.path;have a0:cs.all oC=true:=by rw[a7];rfl
 have b9:ldC (some true) (some 3) 0 cs=some (.agg cs.toArray):=by rw[a7];rfl
 obtain⟨J,E⟩:=eY ((d7.push ⟨H.bs,H.n⟩ (bC cs 1)).push (bC z5 1));have n0:(d7.push ⟨H.bs,H.n⟩ (bC cs 1)).n=H.n+1:=by rw[i4];rfl
 have hS:d9 H.n H J:=by rw[E];exact(d9.first H _).trans (d9.push oM)
 have g1:J.g H.n=cE cs 1:=by rw[E,i9 oM];exact j7
 have g2:J.g (H.n+1)=cE z5 1:=by rw[E];exact y9 oM
 have a9:H.n<=J.low:=by rw[E,l9,l9];exact lR
 have n1:J.n=H.n+2:=by rw[E,i4,n0]
 have hz:PrF J (fun _=>False) Rt z5 ⟨0,0,0,[],[]⟩:=⟨nS,nS,rfl,.inl ⟨rfl,rfl⟩,.inl ⟨rfl,rfl⟩⟩
 obtain⟨c8,W,H4,b1,a2,a8,e4,n4,X,n3,a5,b0,D,c9⟩:=pg K (k+1) (Kr K (k+1) hk) lo (fun _=>False) Rt J cs z5 q ⟨0,0,0,[],[]⟩ oM (fun j hj=>hj.elim) (b7.mono (fun j hj=>hS.g j oM) lR) (fun k' el x b4 h=>b3 k' el x b4 (h.mono (fun j hj=>(hS.g j oM).symm) lR)) hz b6 ⟨abG _,by show(0:Int)+2*_<=_;omega,by simp;omega,by simp;omega⟩;obtain⟨y,hy⟩:=eY (D1 q ⟨0,0,0,[],[]⟩);rw[C6,<-hy];rw[<-hy]at a2 e4 X b0 D;obtain⟨ea,ec,ta,tc,S,he,ht⟩:=E3 b0;obtain⟨Kd,a1⟩:=eY (b1++se y.2.1 y.2.2);rw[<-a1]at a2 e4 X D;obtain⟨Ke,U⟩:=eY (splice Kd 1 [iV y.2.1]);obtain⟨Kf,a4⟩:=eY (splice Ke 2 [iV y.2.2]);obtain⟨u,z⟩:=eY ([iV y.1.st,iV y.2.1,iV y.2.2,.slice ea y.1.ed.length ec,.slice ta y.1.ts.length tc]:LV);have b8:Ke.length=7:=by rw[U,D2];exact D.len
 have e6:Ke[6]?=some (.int .i64 y.2.2):=by rw[U,a1,S];rfl
 have c3:ldC (some true) (some 5) 0 Kf=some (.agg u.toArray):=by rw[a4,U,a1,S,z];rfl
 have a6:u.all oC=true:=by rw[z];rfl
 have l6:u.length=5:=by rw[z];rfl
 have c0:ldC (some true) (some 5) 0 u=some (.agg u.toArray):=by rw[z];rfl
 have c4:splice z5 0 u=u:=y7 _ _ (by rw[l6];rfl);obtain⟨H5,I⟩:=eY ((H4.put W.n (bC Ke 1)).put W.n (bC Kf 1));have b2:H5.g W.n=cE Kf 1:=by rw[I];exact i7 (by rw[j9];omega)
 have a3:H5.g (H.n+1)=cE z5 1:=by rw[I,j6 oM,j6 oM,a5.g _ oM];exact g2
 obtain⟨H6,O⟩:=eY (H5.put (H.n+1) (bC u 1));have n6:H6.n=H4.n:=by rw[O,j9,I,j9,j9]
 have g6:H6.g (H.n+1)=cE u 1:=by rw[O];exact i7 (u5 a3)
 have s6:d9 H.n J H6:=(a5.wk oM).trans (show d9 H.n H4 H6 by rw[O,I];exact((d9.put oM).trans (d9.put oM)).trans (d9.put oM));have b5:=s6.low a9;have k6:∀j,U0 (fun _=>False) J W j->H6.g j=H4.g j:=fun j hj=>by
  have:J.n<=j/\j<W.n:=hj.elim (fun q=>q.elim) id;rw[O,j6 oM,I,j6 oM,j6 oM]
 have k7:∀j,U0 (fun _=>False) J W j->H.n<=j/\j<H6.n:=fun j hj=>by
  have:J.n<=j/\j<W.n:=hj.elim (fun q=>q.elim) id;omega
 rw[i8 Uc rfl _ sM];refine J27 a0 E.symm g1 g2 b9 a2 a8 D.all D.len D.spl e4.symm X D.c5 U.symm b8 e6 a4.symm I.symm b2 c3 a3 a6 l6 c4 O.symm g6 c0 ?_;exact OY (p:={y.1 with sa:=y.2.1,en:=y.2.2}) ⟨_,_,z,he.mono k6 k7 iF,ht.mono k6 k7 iF⟩ (hS.trans s6) b5 (fun h=>h)
structure StD where
 paths:List Q
 progs:List PrD
 base:List Int
 main:PrD
def StF(H:d7)(F:Nat->Prop)(Rp Rt:LV->Q->Prop)(cs:LV)(s:StD):Prop:=∃v1 v2 v3 ms,cs=[v1,v2,v3]++ms/\SlF H F 3 Rp v1 s.paths/\SlF H F 5 (PrF H F Rt) v2 s.progs/\SlF H F 1 (u9 inE) v3 s.base/\PrF H F Rt ms s.main
def StF.mono{H H':d7}{F F':Nat->Prop}{s:StD}(h:StF H F O S cs s)(I:∀j,F j->H'.g j=H.g j) (D:∀j,F j->F' j) (J:∀cs a,O cs a->u cs a) (E:∀cs a,S cs a->z cs a):StF H' F' u z cs s:=by
 obtain⟨v1,v2,v3,ms,U,W,X,h3,h4⟩:=h;exact⟨v1,v2,v3,ms,U,W.mono I D J,X.mono I D (fun _ _ h=>h.mono I D E),h3.mono I D iF,h4.mono I D E⟩
def E9{H:d7}{F:Nat->Prop}{s:StD}(h:StF H F X W cs s):∃pa O I J u z D E S U,cs=[.slice pa s.paths.length O,.slice I s.progs.length J,.slice u s.base.length z,iV s.main.st,iV s.main.sa,iV s.main.en,.slice D s.main.ed.length E,.slice S s.main.ts.length U]/\
  SlF H F 3 X (.slice pa s.paths.length O) s.paths/\SlF H F 5 (PrF H F W) (.slice I s.progs.length J) s.progs/\SlF H F 1 (u9 inE) (.slice u s.base.length z) s.base/\SlF H F 4 (u9 edE) (.slice D s.main.ed.length E) s.main.ed/\SlF H F 6 W (.slice S s.main.ts.length U) s.main.ts:=by
 obtain⟨v1,v2,v3,ms,rfl,h1,h2,h3,h4⟩:=h;obtain⟨pa,O,rfl⟩:=h1.slice;obtain⟨I,J,rfl⟩:=h2.slice;obtain⟨u,z,rfl⟩:=h3.slice;obtain⟨D,E,S,U,rfl,h5,h6⟩:=E3 h4;exact⟨pa,O,I,J,u,z,D,E,S,U,rfl,h1,h2,h3,h5,h6⟩
def SlF.row{H:d7}{F:Nat->Prop}{sz:Nat}{α:Type}{R:LV->α->Prop}{n D:Nat}{l:List α}(h:SlF H F sz R (.slice z n D) l)(u:i<l.length):
  ∃x b o cs own el,l[i]?=some x/\l.drop i=x::l.drop (i+1)/\z=some ⟨b,o,none⟩/\F b/\H.g b=some (.cells cs own sz)/\o+i*sz+sz<=cs.length/\ldC (some true) (some sz) (o+i*sz) cs=some (.agg el.toArray)/\(∀k,k<sz->cs[o+i*sz+k]?=el[k]?)/\R el x:=by
 obtain⟨x,E,S⟩:=T4 (l:=l) (i:=i) u;rcases h with⟨_,h⟩|⟨b,o,c,W,h⟩
 .subst h;simp at u
 .rcases h with h|⟨cs,own,I,J,X,O⟩
  .subst h;simp at u
  .obtain⟨rfl,rfl,rfl⟩:z=some ⟨b,o,none⟩/\n=l.length/\D=c:=by simpa using W
   have:(i+1)*sz<=l.length*sz:=aaW _ u;rw[aaP]at this;exact⟨x,b,o,cs,own,_,E,S,rfl,I,J,oM,Z2 oM rfl,fun k U=>F1 U rfl,O i x E⟩
def A3(l:List PrD):Int:=l.foldl (fun n p=>n+p.st) 0
def AG(H0:d7)(F:Nat->Prop)(Rt:LV->Q->Prop)(J:Nat)(W:Option Addr)(X:Nat)(l:List PrD)(hv:SlF H0 F 5 (PrF H0 F Rt) (.slice W l.length X) l)(hn:l.length<=100000)(hb:∀p∈l,0<=p.st/\p.st<=1000000) (h:LV) (U:H0.g J=cE h 1) (r1:h[1]?=some (.slice W l.length X)) (r:Int):
  ∀I e H2,(∃(i:Nat)(n:Int),I=l.length-i/\i<=l.length/\0<=n/\n<=1000000*i/\e.g 1=pT J/\e.g 3=iV n/\e.g 4=iV i/\H2=H0/\(l.drop i).foldl (fun n p=>n+p.st) n=r)->
  u7 (LE prog l7 (.loop RR) e H2) (fun o e H2=>H2=H0/\o= .exit 0/\e.g 3=iV r):=by
 refine i5 _ _ ?_;rintro I e H2 ⟨i,n,hk,hi,a4,a5,z,D,S,hH,u⟩;subst hH;rcases b:decide ((i:Int)<l.length)with _|_
 .have E:=dF b;have:l.drop i=[]:=dN oM;rw[this,aaT]at u;refine J6 z D S U r1 b ?_;exact i6 ⟨rfl,rfl,by rw[<-u];exact D⟩
 have E:=dT b;obtain⟨x,nb,o,cs,own,el,hx,hd,rfl,hF,hg,a3,a1,hc,hR⟩:=hv.row (i:=i) oM;have nt:(i:Int).toNat=i:=tN i;have a2:=hb x (mG hx);obtain⟨ea,ec,ta,tc,rfl,_,_⟩:=E3 hR;have O:=hc 0 oM;rw[aaf]at O;rw[hd,aak]at u;refine J10 z D S U r1 b hg nt O @wrap_small ?_;exact d8 (I-1) oM ⟨i+1,n+x.st,oM,oM,oM,oM,z,rfl,rfl,rfl,u⟩
def un(H:d7)(F:Nat->Prop)(Rp I:LV->Q->Prop)(cs:LV)(s:StD)(X:∀j,F j->j<H.n) (hs:StF H F Rp I cs s) (hn:s.progs.length<=100000) (hb:∀p∈s.progs,0<=p.st/\p.st<=1000000):CL prog l7 39 [.agg cs.toArray] H=some (.int .i64 (A3 s.progs),none):=by
 obtain⟨pa,pc,J,O,ba,bc,ea,ec,ta,tc,D,h1,h2,W,h4,h5⟩:=E9 hs;have a0:cs.all oC=true:=by rw[D];rfl
 have r1:cs[1]?=some (.slice J s.progs.length O):=by rw[D];rfl
 obtain⟨E,u,-,hg,hS⟩:=pushF H (bC cs 1);have a1:H.n<=E.low:=by rw[u,l9];exact lR
 have S:SlF E F 5 (PrF E F I) (.slice J s.progs.length O) s.progs:=h2.mono (fun j U=>hS.g j (X j U)) (fun _ h=>h) (fun _ _ h=>h.mono (fun j U=>hS.g j (X j U)) (fun _ h=>h) iF);rw[i8 Pn rfl _ sM];refine J2 a0 u.symm ?_;refine j5 (F:=fun z=>t6 _ _ _ (u6 (inBlock 0 z) _)=_) (AG E F I H.n J O s.progs S hn hb cs hg r1 (A3 s.progs) s.progs.length _ _ ⟨0,0,rfl,oM,oM,oM,rfl,rfl,rfl,rfl,rfl⟩) ?_;rintro o e' H' ⟨hH,ho,W⟩;exact J3 ho hH W trivial
def li(l:List Q)(x:Q):Int:=ixG (fun y=>P1 y x) l 0
def qe(k:Nat)(H0:d7)(F:Nat->Prop)(lo I:Nat)(a2:lo<=H0.n)(pa:Option Addr)(pc:Nat)(l:List Q)(hv:SlF H0 F 3 (QR H0 lo k false) (.slice pa l.length pc) l)(hn:l.length<=100000)(E el:LV)(x:Q)(hx:QR H0 lo k false el x)(X:H0.g I=cE E 1)(r0:E[0]?=some (.slice pa l.length pc))(g1:H0.g (I+1)=cE el 1)(r:Int):
  ∀kk e H2,(∃i:Nat,kk=l.length-i/\i<=l.length/\e.g 2=pT I/\e.g 3=pT (I+1)/\e.g 5=iV i/\H2=H0/\ixG (fun y=>P1 y x) (l.drop i) i=r)->
  u7 (LE prog l7 (.loop SD) e H2) (fun o e H2=>H2=H0/\((o= .exit 0/\r= -1)\/(o= .ret/\e.g 4=iV r))):=by
 refine i5 _ _ ?_;rintro kk e H2 ⟨i,hk,hi,O,S,W,hH,z⟩;subst hH;rcases b:decide ((i:Int)<l.length)with _|_
 .have a1:=dF b;have:l.drop i=[]:=dN oM;rw[this,ixG]at z;refine J6 O S W X r0 b ?_;exact i6 ⟨rfl,.inl ⟨rfl,z.symm⟩⟩
 have a1:=dT b;obtain⟨y,nb,o,cs,own,U,hy,hd,rfl,hF,hg,a3,u,hc,hR⟩:=hv.row (i:=i) oM;have nt:(i:Int).toNat=i:=tN i;have D:ldC (some true) (some 3) 0 el=some (.agg el.toArray):=by
  cases k with
  |zero=>exact hx.elim
  |succ k=>obtain⟨_,_,_,_,rfl,_⟩:=hx.path;rfl
 have h:=(JA k).1 H2 lo U el y x a2 hR hx;rw[hd,ixG]at z;rcases J:P1 y x with _|_
 .simp only[J,bF]at z;rw[J]at h;refine J13 O S W X r0 b hg nt u g1 D h @wrap_small ?_;exact d8 (kk-1) oM ⟨i+1,oM,oM,O,S,rfl,rfl,z⟩
 .simp only[J,aab]at z;rw[J]at h;refine J13 O S W X r0 b hg nt u g1 D h @wrap_small ?_;exact w9 ⟨rfl,.inr ⟨rfl,by rw[<-z];rfl⟩⟩
def jW(k:Nat)(H:d7)(F:Nat->Prop)(lo:Nat)(Rt:LV->Q->Prop)(cs el:LV)(s:StD)(x:Q)(a3:lo<=H.n)(hF:∀j,F j->j<H.n) (hs:StF H F (QR H lo k false) Rt cs s) (S:QR H lo k false el x) (hn:s.paths.length<=100000):
  CL prog l7 75 [.agg cs.toArray,.agg el.toArray] H=some (.int .i64 (li s.paths x),none):=by
 obtain⟨pa,U,ga,gc,ba,bc,ea,ec,ta,tc,E,h1,h2,h3,W,h5⟩:=E9 hs;have a0:cs.all oC=true:=by rw[E];rfl
 have r1:cs[0]?=some (.slice pa s.paths.length U):=by rw[E];rfl
 have a1:el.all oC=true:=by
  cases k with
  |zero=>exact S.elim
  |succ k=>obtain⟨_,_,_,_,rfl,_⟩:=S.path;rfl
 obtain⟨D,u⟩:=eY ((d7.push ⟨H.bs,H.n⟩ (bC cs 1)).push (bC el 1));have n0:(d7.push ⟨H.bs,H.n⟩ (bC cs 1)).n=H.n+1:=by rw[i4];rfl
 have J:d9 H.n H D:=by rw[u];exact(d9.first H _).trans (d9.push oM)
 have g1:D.g H.n=cE cs 1:=by rw[u,i9 oM];exact j7
 have g2:D.g (H.n+1)=cE el 1:=by rw[u];exact y9 oM
 have a2:H.n<=D.low:=by rw[u,l9,l9];exact lR
 have a4:=J.n;have q1:∀cs a,QR H lo k false cs a->QR D lo k false cs a:=fun _ _ h=>h.mono (fun j hj=>J.g j oM) lR;have I:SlF D F 3 (QR D lo k false) (.slice pa s.paths.length U) s.paths:=h1.mono (fun j hj=>J.g j (hF j hj)) (fun _ h=>h) q1;rw[i8 Pt rfl _ sM];refine J3 a0 a1 u.symm ?_;refine j5 (F:=fun z=>t6 _ _ _ (u6 (inBlock 0 z) _)=_) (qe k D F lo H.n oM pa U s.paths I hn cs el x (q1 _ _ S) g1 r1 g2 (li s.paths x) s.paths.length _ _ ⟨0,rfl,oM,rfl,rfl,rfl,rfl,rfl⟩) ?_;rintro o e' H' ⟨X,⟨O,hr⟩|⟨O,W⟩⟩
 .exact J3 O X hr trivial
 .exact J3 O X W trivial
def I2(s:StD)(x:Q):StD:=if s.paths.any (fun y=>P1 y x) then s else⟨s.paths++[x],s.progs++[C6 x],s.base++[A3 s.progs],s.main⟩
def C3(q:Q):StD:=(inQ false q).foldl I2 ⟨[],[],[],C6 q⟩
def Y0(l:List PrD)(p:PrD):A3 (l++[p])=A3 l+p.st:=by simp [A3]
def BP(K:Nat)(H:d7)(lo b0 E:Nat)(h9:lo<=b0)(m2:b0=H.n)(r3:b0+2<=E)(Rt:LV->Q->Prop)(l4:∀k' el x,k'<=K->QR H lo k' true el x->Rt el x) (lv:aet) (l:List Q) (hl:l.length<=100000) (m7:∀x∈l,OkD false x/\nQ x<=100000) (ms:LV) (z:Blk) (H1:d7) (e8:d9 b0 H H1) (hz:H1.g (b0+1)=some z) (d3:StD):
  ∀kk e H2,(∃(i:Nat)(s:StD)(w1 w2 w3:aet)(G:Nat->Prop),kk=l.length-i/\i<=l.length/\s.progs.length<=i/\s.paths.length=s.progs.length/\s.base.length=s.progs.length/\0<=A3 s.progs/\A3 s.progs<=200000*i/\
    e.g 2=pT (b0+1)/\e.g 3=pT E/\e.g 4=lv/\e.g 5=iV (A3 s.progs)/\e.g 6=iV i/\
    H2.g E=cE (w1::w2::w3::ms) 1/\PrF H2 G Rt ms s.main/\SlF H2 G 3 (QR H lo K false) lv l/\t7 H2 (E+1) 3 (QR H lo K false) w1 s.paths/\t7 H2 (E+1) 5 (PrF H2 G Rt) w2 s.progs/\t7 H2 (E+1) 1 (u9 inE) w3 s.base/\
    (∀j,G j->b0+2<=j/\j<H2.n/\j≠E/\¬j8 w1 j/\¬j8 w2 j/\¬j8 w3 j)/\(∀j,j8 w1 j->¬j8 w2 j/\¬j8 w3 j)/\(∀j,j8 w2 j->¬j8 w3 j)/\d9 (b0+2) H1 H2/\(l.drop i).foldl I2 s=d3)->
  u7 (LE prog l7 (.loop RQ) e H2) (fun o e H2=>o= .exit 0/\e.g 2=pT (b0+1)/\e.g 3=pT E/\∃(w1 w2 w3:aet)(G:Nat->Prop),H2.g E=cE (w1::w2::w3::ms) 1/\PrF H2 G Rt ms d3.main/\t7 H2 (E+1) 3 (QR H lo K false) w1 d3.paths/\t7 H2 (E+1) 5 (PrF H2 G Rt) w2 d3.progs/\t7 H2 (E+1) 1 (u9 inE) w3 d3.base/\(∀j,G j->b0+2<=j/\j<H2.n/\j≠E)/\d9 (b0+2) H1 H2):=by
 subst m2;refine i5 _ _ ?_;rintro kk e H2 ⟨i,s,w1,w2,w3,G,q7,hi,r4,i3,h4,m4,p9,f2,f3,f4,f5,f6,g3,c5,e4,U,O,I,hG,d1,d2,hS,fu⟩;have r2:=hS.n;have p8:=e8.n;have r5:=u5 hz;have i2:=u5 g3;obtain⟨la,lc,i0⟩:=e4.slice;subst i0;rcases b:decide ((i:Int)<l.length)with _|_
 .have m1:=dF b;have:l.drop i=[]:=dN oM;rw[this,aaT]at fu;refine J6 f2 f3 f4 f5 f6 b ?_;exact i6 ⟨rfl,f2,f3,w1,w2,w3,G,g3,by rw[<-fu];exact c5,by rw[<-fu];exact U,by rw[<-fu];exact O,by rw[<-fu];exact I,fun j D=>⟨(hG j D).1,(hG j D).2.1,(hG j D).2.2.1⟩,hS⟩
 have m1:=dT b;obtain⟨x,nb,o,p0,own,el,hx,hd,rfl,g8,f0,q8,e6,hc,hR⟩:=e4.row (i:=i) oM;have nt:(i:Int).toNat=i:=tN i;obtain⟨i1,m6⟩:=m7 x (mG hx);have o7:=fy x;rw[hd,aak]at fu;have d4:∀cs a,QR H lo K false cs a->QR H2 lo K false cs a:=fun _ _ h=>h.mono (fun j D=>by rw[hS.g j oM,e8.g j oM]) lR;obtain⟨pa,pc,e1⟩:=U.slice;obtain⟨ga,gc,e2⟩:=O.slice;obtain⟨ba,bc,e3⟩:=I.slice;obtain⟨ea,ec,ta,tc,k3,q9,r1⟩:=E3 c5;have m8:StF H2 (fun j=>G j\/j8 w1 j\/j8 w2 j\/j8 w3 j) (QR H2 lo K false) Rt (w1::w2::w3::ms) s:=⟨w1,w2,w3,ms,rfl,(U.frz fun b S=> .inr (.inl S)).mono (fun _ _=>rfl) (fun _ h=>h) d4,(O.frz fun b S=> .inr (.inr (.inl S))).mono (fun _ _=>rfl) (fun _ h=>h) (fun _ _ h=>h.sub fun j D=> .inl D),I.frz fun b S=> .inr (.inr (.inr S)),c5.sub fun j D=> .inl D⟩
 have j0:∀j,(G j\/j8 w1 j\/j8 w2 j\/j8 w3 j)->j<H2.n:=by
  rintro j (q|q|q|q)
  .exact(hG j q).2.1
  .exact(U.lt q).2
  .exact(O.lt q).2
  .exact(I.lt q).2
 have a9:=jW K H2 _ lo Rt (w1::w2::w3::ms) el s x oM j0 m8 (d4 _ _ hR) oM;have b1:ldC (some true) (some 8) 0 (w1::w2::w3::ms)=some (.agg (w1::w2::w3::ms).toArray):=by rw[e1,e2,e3,k3];rfl
 obtain⟨R8,c9⟩:=eY (w1::w2::w3::ms);rw[<-c9]at g3 a9 b1;have f1:=dP c5;have l8:R8.length=8:=by rw[c9];simp [f1]
 have o0:R8[0]?=some w1:=by rw[c9];rfl
 have b9:decide (0<=li s.paths x)=s.paths.any (fun y=>P1 y x):=jt _ _;rcases b2:s.paths.any (fun y=>P1 y x)with _|_
 .rw[b2]at b9;have b3:I2 s x=⟨s.paths++[x],s.progs++[C6 x],s.base++[A3 s.progs],s.main⟩:=by rw[I2,b2];rfl
  rw[b3]at fu;obtain⟨v3,p4,H3,m3,h5,J,rfl,X,d6⟩:=nU K K oM H2 lo Rt el x oM (d4 _ _ hR) (fun k' el x m5 h=>l4 k' el x m5 (h.mono (fun j D=>by rw[hS.g j oM,e8.g j oM]) lR)) i1 m6;have n3:=d6.n;have a3:=jA X;have l3:=dP X;obtain⟨H4,l1,n4,k5,e5⟩:=pushP H3 (bC z5 1) (bC J 1);have o6:splice z5 0 J=J:=y7 _ _ (by rw[l3];rfl);have k4:∀j,j<H2.n->H4.g j=H2.g j:=fun j D=>by rw[e5.g j oM,d6.g j D]
  have g2:H4.g E=cE R8 1:=(k4 _ i2).trans g3;have g4:=(k4 nb (hG nb g8).2.1).trans f0;have g9:t7 H4 (E+1) 3 (QR H lo K false) w1 s.paths:=U.same fun b S=>k4 b (U.lt S).2;have j1:el.all oC=true:=by
   cases K with
   |zero=>exact hR.elim
   |succ k=>obtain⟨_,_,_,_,rfl,_⟩:=hR.path;rfl
  have j3:∀Hx:d7,bsA prog (some 25) Hx 1 [(0,.agg el.toArray)]=some (sL Hx.n 1 1,Hx.push (bC el 3)):=fun Hx=>by
   cases K with
   |zero=>exact hR.elim
   |succ k=>obtain⟨_,_,_,_,rfl,_⟩:=hR.path;simp only[E5,fS,E6];rfl
  obtain⟨u1,p5,H5,l5,h6,b6,a1⟩:=g9.push1F (P:=prog) (t:=22) (cs:=el) (a:=x) (by exact oO.2.2.2.2.2.2) fS.1 fS.2.1 fS.2.2.1 oM oM hR.len hR oM oM;have n5:=a1.n;have f7:∀j,j<=E->¬j8 w1 j/\¬j8 w2 j/\¬j8 w3 j:=fun j D=>⟨fun q=>by have:=U.lt q;omega,fun q=>by have:=O.lt q;omega,fun q=>by have:=I.lt q;omega⟩
  have k6:H5.g E=cE R8 1:=(a1.but E oM (f7 E lR).1).trans g2;have k9:(H4.push (bC el 3)).g nb=_:=(i9 (oN (hG nb g8))).trans g4;obtain⟨a6,b7⟩:=eY (u1::w2::w3::ms);obtain⟨ua,uc,f8⟩:=b6.slice;have n0:Value.oneCell' u1=true:=by rw[f8];rfl
  have k0:u1.cells.toList=[u1]:=by rw[f8];rfl
  have o3:splice R8 0 [u1]=a6:=by rw[c9,b7];rfl
  have la:a6.length=8:=by rw[b7];simp [f1]
  have o1:a6[1]?=some w2:=by rw[b7];rfl
  obtain⟨H6,c3⟩:=eY (H5.put E (bC a6 1));have n6:H6.n=H5.n:=by rw[c3,j9]
  have g5:H6.g E=cE a6 1:=by rw[c3];exact i7 oM
  have c7:∀j,j<H4.n->¬j8 w1 j->j≠E->H6.g j=H4.g j:=fun j D h1 h2=>by rw[c3,j6 (fun q=>h2 q.symm)];exact a1.but j D h1
  have g6:H6.g H3.n=cE J 1:=(c7 _ oM (fun q=>by have:=U.lt q;omega) oM).trans k5;have m9:ldC (some true) (some 5) 0 J=some (.agg J.toArray):=by obtain⟨_,_,_,_,rfl,_⟩:=E3 X;rfl
  obtain⟨G2,c0⟩:=eY (fun j=>G j\/(H2.n<=j/\j<H3.n):Nat->Prop);have b5:∀j,G2 j->H6.g j=H3.g j/\j≠E/\j<H3.n/\¬j8 w1 j/\¬j8 w2 j/\¬j8 w3 j:=fun j D=>by
   rw[c0]at D;rcases D with D|D
   .have:=hG j D;exact⟨by rw[c7 j oM this.2.2.2.1 this.2.2.1,e5.g j oM],this.2.2.1,oM,this.2.2.2⟩
   .have e:¬j8 w1 j/\¬j8 w2 j/\¬j8 w3 j:=⟨fun q=>by have:=U.lt q;omega,fun q=>by have:=O.lt q;omega,fun q=>by have:=I.lt q;omega⟩
    exact⟨by rw[c7 j oM e.1 oM,e5.g j oM],oM,oM,e⟩
  have e9:PrF H6 G2 Rt J (C6 x):=X.mono (fun j D=>(b5 j (by rw[c0];exact .inr D)).1) (fun j D=>by rw[c0];exact .inr D) iF;have d0:∀j,G j->H6.g j=H2.g j:=fun j D=>by rw[(b5 j (by rw[c0];exact .inl D)).1,d6.g j (hG j D).2.1]
  have a5:∀j,G j->G2 j:=fun j D=>by rw[c0];exact .inl D
  have h0:t7 H6 (E+1) 5 (PrF H6 G2 Rt) w2 s.progs:=(O.same (H':=H6) fun b S=>by have:=O.lt S;rw[c7 b oM (fun q=>(d1 b q).1 S) oM,k4 b this.2]).imp fun cs p h=>h.mono d0 a5 iF;obtain⟨u2,p6,H7,l6,h7,a4,a2⟩:=h0.push1F (P:=prog) (t:=29) (cs:=J) (a:=C6 x) (by exact de.2.2.2.2.2.2) oP.1 oP.2.1 oP.2.2.1 oM oM l3 e9 oM oM;have n7:=a2.n;have j2:∀Hx:d7,bsA prog (some 33) Hx 1 [(0,.agg J.toArray)]=some (sL Hx.n 1 1,Hx.push (bC J 5)):=fun Hx=>by
   obtain⟨_,_,_,_,rfl,_⟩:=E3 X;simp only[E5,oP,E6];rfl
  have k7:H7.g E=cE a6 1:=(a2.but E oM (f7 E lR).2.1).trans g5;obtain⟨a7,b8⟩:=eY (u1::u2::w3::ms);obtain⟨ub,r8,f9⟩:=a4.slice;have n1:Value.oneCell' u2=true:=by rw[f9];rfl
  have k1:u2.cells.toList=[u2]:=by rw[f9];rfl
  have o4:splice a6 1 [u2]=a7:=by rw[b7,b8];rfl
  have lb:a7.length=8:=by rw[b8];simp [f1]
  have o2:a7[2]?=some w3:=by rw[b8];rfl
  obtain⟨H8,c4⟩:=eY (H7.put E (bC a7 1));have n8:H8.n=H7.n:=by rw[c4,j9]
  have g7:H8.g E=cE a7 1:=by rw[c4];exact i7 oM
  have d5:∀j,j<H6.n->¬j8 w2 j->j≠E->H8.g j=H6.g j:=fun j D h1 h2=>by rw[c4,j6 (fun q=>h2 q.symm)];exact a2.but j D h1
  have h3:t7 H8 (E+1) 1 (u9 inE) w3 s.base:=I.same (H':=H8) fun b S=>by
   have:=I.lt S;rw[d5 b oM (fun q=>d2 b q S) oM,c7 b oM (fun q=>(d1 b q).2 S) oM,k4 b this.2]
  obtain⟨u3,p7,H9,m0,h8,c8,a8⟩:=h3.push1F (P:=prog) (t:=30) (cs:=inE (A3 s.progs)) (a:=A3 s.progs) (by exact OK.2.2.2.2.2.2) ty3.1 ty3.2.1 ty3.2.2.1 oM oM rfl rfl oM oM;have n9:=a8.n;have k8:H9.g E=cE a7 1:=(a8.but E oM (f7 E lR).2.2).trans g7;obtain⟨r7,o9,g0⟩:=c8.slice;have n2:Value.oneCell' u3=true:=by rw[g0];rfl
  have k2:u3.cells.toList=[u3]:=by rw[g0];rfl
  have o5:splice a7 2 [u3]=u1::u2::u3::ms:=by rw[b8];rfl
  obtain⟨c6,W⟩:=eY (H9.put E (bC (u1::u2::u3::ms) 1));have r6:c6.n=H9.n:=by rw[W,j9]
  have b4:∀j,j<H8.n->¬j8 w3 j->j≠E->c6.g j=H8.g j:=fun j D h1 h2=>by rw[W,j6 (fun q=>h2 q.symm)];exact a8.but j D h1
  have g1:c6.g H3.n=cE J 1:=by
   rw[b4 _ oM (fun q=>by have:=I.lt q;omega) oM,d5 _ oM (fun q=>by have:=O.lt q;omega) oM];exact g6
  have j4:J[0]?=some (.int .i64 (C6 x).st):=by obtain⟨_,_,_,_,rfl,_⟩:=E3 X;rfl
  refine J30 f2 f3 (aI f4 f5) (aI f6 b) (aI g3 b1) (aI f0 nt) (aI e6 a9) (aI b9 m3) (aI h5 a3) (aI l3 o6) (aI l1.symm g2) (aI o0 g4) (aI k9 j3) (aI l5 h6) (aI k6 l8) (aI n0 k0) (aI o3 c3.symm) (aI g5 o1) (aI g6 m9) (aI j2 l6) (aI h7 k7) (aI la n1) (aI k1 o4) (aI c4.symm g7) (aI o2 m0) (aI h8 k8) (aI lb n2) (aI k2 o5) (aI W.symm g1) (aI j4 @wrap_small) ?_;have e7:∀j,G2 j->c6.g j=H6.g j:=fun j D=>by
   obtain⟨q1,q2,q3,q4,q5,q6⟩:=b5 j D;rw[b4 j oM q6 q2,d5 j oM q5 q2]
  have o8:∀{w u:aet}{Ha Hb:d7}{lo:Nat},Z9 lo w Ha u Hb->∀b,j8 u b->j8 w b\/Ha.n<=b:=fun h=>h.new;refine d8 (kk-1) oM ⟨i+1,⟨s.paths++[x],s.progs++[C6 x],s.base++[A3 s.progs],s.main⟩,u1,u2,u3,G2,oM,oM,by simp;omega,by simp [i3],by simp [h4],by show 0<=A3 (s.progs++[C6 x]);rw[Y0];omega,by show A3 (s.progs++[C6 x])<=_;rw[Y0];omega,f2,f3,f4,by show Env.g _ 5=iV (A3 (s.progs++[C6 x]));rw[Y0];rfl,rfl,by rw[W];exact i7 oM,?_,?_,?_,?_,?_,?_,?_,?_,?_,fu⟩
  .exact c5.mono (fun j D=>by rw[e7 j (a5 j D),d0 j D]) a5 iF
  .exact e4.mono (fun j D=>by rw[e7 j (a5 j D),d0 j D]) a5 iF
  .refine b6.same fun b S=>?_;have h1:=b6.lt S;have h2:¬j8 w2 b/\¬j8 w3 b:=by
    rcases a1.new b S with q|q
    .exact d1 b q
    .exact⟨fun q=>by have:=O.lt q;omega,fun q=>by have:=I.lt q;omega⟩
   rw[b4 b oM h2.2 oM,d5 b oM h2.1 oM,c3,j6 oM]
  .refine(a4.same (H':=c6) fun b S=>?_).imp fun cs p h=>h.mono e7 (fun _ h=>h) iF;have h1:=a4.lt S;have h2:¬j8 w3 b:=by
    rcases a2.new b S with q|q
    .exact d2 b q
    .exact fun q=>oN (I.lt q)
   rw[b4 b oM h2 oM,c4,j6 oM]
  .refine c8.same fun b S=>?_;have h1:=c8.lt S;rw[W,j6 oM]
  .intro j D;obtain⟨q1,q2,q3,q4,q5,q6⟩:=b5 j D;have h9:H.n+2<=j:=by
    rw[c0]at D;rcases D with D|D
    .exact(hG j D).1
    .omega
   refine⟨h9,oM,q2,fun q=>?_,fun q=>?_,fun q=>?_⟩
   .rcases a1.new j q with q|q
    .exact q4 q
    .omega
   .rcases a2.new j q with q|q
    .exact q5 q
    .omega
   .rcases a8.new j q with q|q
    .exact q6 q
    .omega
  .intro j D;have h1:=b6.lt D;refine⟨fun q=>?_,fun q=>?_⟩
   .have h2:=a4.lt q;rcases a2.new j q with q|q
    .have:=O.lt q;rcases a1.new j D with r|r
     .exact(d1 j r).1 q
     .omega
    .omega
   .rcases a8.new j q with q|q
    .have:=I.lt q;rcases a1.new j D with r|r
     .exact(d1 j r).2 q
     .omega
    .omega
  .intro j D q;have h1:=a4.lt D;rcases a8.new j q with q|q
   .have:=I.lt q;rcases a2.new j D with r|r
    .exact d2 j r q
    .omega
   .omega
  .refine((((((hS.trans (d6.wk oM)).trans (e5.wk oM)).trans (a1.stay.wk oM)).trans ?_).trans (a2.stay.wk oM)).trans ?_).trans ((a8.stay.wk oM).trans ?_)
   .rw[c3];exact d9.put oM
   .rw[c4];exact d9.put oM
   .rw[W];exact d9.put oM
 .rw[b2]at b9;have b3:I2 s x=s:=by rw[I2,b2];rfl
  rw[b3]at fu;refine J14 f2 f3 f4 f5 f6 b g3 b1 f0 nt e6 a9 b9 @wrap_small ?_;exact d8 (kk-1) oM ⟨i+1,s,w1,w2,w3,G,oM,oM,oM,i3,h4,m4,oM,f2,f3,f4,f5,rfl,by rw[<-c9];exact g3,c5,e4,U,O,I,hG,d1,d2,hS,fu⟩
def lJ:∀(l:List Q)(F:Q->List Q),(∀x∈l,(F x).length+1<=nQ x)->(l.flatMap F).length+l.length<=nL l
 |[],F,_=>by simp [nL]
 |x::l,F,h=>by
  have z:=h x sM;have D:=lJ l F fun y u=>h y (by simp [u]);rw[nL,aaI,ib,A1];omega
def mN:∀(l:List Q)(x:Q),x∈l->nQ x<=nL l
 |y::l,x,h=>by
  rw[nL];rcases aam.1 h with rfl|h
  .omega
  .have:=mN l x h;omega
def du:∀(n:Nat)(f:Bool)(q:Q),nQ q<=n->OkD f q->(inQ f q).length+1<=nQ q/\∀x∈inQ f q,OkD false x/\nQ x<=nQ q:=by
 intro n;induction n with
 |zero=>intro f q h;have:=im q;omega
 |succ n O=>
  intro f q h X;have hq:=im q;obtain⟨I,D,_⟩:=X.parts;have ia:∀g,(∀x∈q.a,OkD g x)->(inL g q.a).length+q.a.length<=nL q.a/\∀x∈inL g q.a,OkD false x/\nQ x<=nL q.a:=by
   intro g E;have e:∀x∈q.a,nQ x<=n:=fun x u=>oN (mN _ _ u);rw[gH];refine⟨lJ _ _ fun x u=>(O g x (e x u) (E x u)).1,fun x u=>?_⟩;obtain⟨y,z,u⟩:=aaY.1 u;have:=(O g y (e y z) (E y z)).2 x u;have W:=mN _ _ z;exact⟨this.1,oM⟩
  have U:∀g,(∀x∈q.b,OkD g x)->(inL g q.b).length+q.b.length<=nL q.b/\∀x∈inL g q.b,OkD false x/\nQ x<=nL q.b:=by
   intro g E;have e:∀x∈q.b,nQ x<=n:=fun x u=>oN (mN _ _ u);rw[gH];refine⟨lJ _ _ fun x u=>(O g x (e x u) (E x u)).1,fun x u=>?_⟩;obtain⟨y,z,u⟩:=aaY.1 u;have:=(O g y (e y z) (E y z)).2 x u;have W:=mN _ _ z;exact⟨this.1,oM⟩
  cases f
  .rw[qt];have J:=ia false I;have S:=U true D;refine⟨by rw[ib];omega,fun x u=>?_⟩;rcases ns.1 u with u|u
   .have:=J.2 x u;exact⟨this.1,oM⟩
   .have:=S.2 x u;exact⟨this.1,oM⟩
  .rw[kq];have J:=ia true I;have S:=U false D;split
   .refine⟨by simp only[ib];omega,fun x u=>?_⟩;rcases ns.1 u with u|u
    .have:=J.2 x u;exact⟨this.1,oM⟩
    .rcases ns.1 u with u|u
     .have:=S.2 x u;exact⟨this.1,oM⟩
     .have:=mN _ _ u;exact⟨D x u,oM⟩
   .rw[aaq];refine⟨oM,fun x u=>?_⟩;have:=J.2 x u;exact⟨this.1,oM⟩
def zr(H:d7)(Rp Rt:LV->Q->Prop)(s:StD)(w:aet)(H1:d7):Prop:=∃cs',w= .agg cs'.toArray/\StF H1 (fun j=>H.n<=j/\j<H1.n) Rp Rt cs' s/\d9 H.n H H1
def uC{H H':d7}{s:StD}(hp:StF H' (fun j=>H.n<=j/\j<H'.n) J O cs' s) (hS:d9 H.n H H') (hl:H.n<=H'.low)  (E:c=true->cs'.all na0=true):
  Ret (some (br c (.agg cs'.toArray,none) (.agg cs'.toArray,some ⟨H'.bs,min H.low H'.low⟩))) H (zr H J O s):=by
 obtain⟨v1,I,v3,ms,rfl,S,z,U,ve,vt,rfl,W,X⟩:=hp;refine bG (fun u=>?_) ⟨_,rfl,⟨v1,I,v3,_,rfl,S,z,U,ve,vt,rfl,W,X⟩,hS.ret hl⟩;have u:=E u;simp only[aax,aat,aaE,gk]at u;have n2:s.progs=[]:=by
  rcases z with⟨_,h⟩|⟨b,o,c,D,_⟩
  .exact h
  .rw[D]at u;simp [na0]at u
 have e2:I=nS:=by
  rcases z with⟨h,_⟩|⟨b,o,c,D,_⟩
  .exact h
  .rw[D]at u;simp [na0]at u
 exact⟨_,rfl,⟨v1,I,v3,_,rfl,eZ S u.1,.inl ⟨e2,n2⟩,eZ U u.2.2.1,ve,vt,rfl,eZ W u.2.2.2.2.2.2.1,eZ X u.2.2.2.2.2.2.2.1⟩,d9.refl _ _⟩
abbrev z8:LV:=[nS,nS,nS,iV 0,iV 0,iV 0,nS,nS]
def Fy(K:Nat)(H:d7)(lo:Nat)(Rt:LV->Q->Prop)(cs:LV)(q:Q)(e4:lo<=H.n)(hr:QR H lo K false cs q)(b6:∀k' el x,k'<=K->QR H lo k' true el x->Rt el x) (b2:OkD false q) (f5:nQ q<=1000):
  Ret (CL prog l7 37 [.agg cs.toArray] H) H (zr H (QR H lo K false) Rt (C3 q)):=by
 have a0:cs.all oC=true:=by
  cases K with
  |zero=>exact hr.elim
  |succ k=>obtain⟨_,_,_,_,rfl,_⟩:=hr.path;rfl
 have e7:ldC (some true) (some 3) 0 cs=some (.agg cs.toArray):=by
  cases K with
  |zero=>exact hr.elim
  |succ k=>obtain⟨_,_,_,_,rfl,_⟩:=hr.path;rfl
 obtain⟨W,O⟩:=eY ((d7.push ⟨H.bs,H.n⟩ (bC cs 1)).push (bC z8 1));have n0:(d7.push ⟨H.bs,H.n⟩ (bC cs 1)).n=H.n+1:=by rw[i4];rfl
 have hS:d9 H.n H W:=by rw[O];exact(d9.first H _).trans (d9.push oM)
 have g1:W.g H.n=cE cs 1:=by rw[O,i9 oM];exact j7
 have g2:W.g (H.n+1)=cE z8 1:=by rw[O];exact y9 oM
 have b9:H.n<=W.low:=by rw[O,l9,l9];exact lR
 have n1:W.n=H.n+2:=by rw[O,i4,n0]
 obtain⟨v3,f7,H3,d2,b7,ms,rfl,a9,a5⟩:=nU K K oM W lo Rt cs q oM (hr.mono (fun j D=>hS.g j oM) lR) (fun k' el x d4 h=>b6 k' el x d4 (h.mono (fun j D=>(hS.g j oM).symm) lR)) b2 oM;have n3:=a5.n;have a3:=jA a9;have l3:=dP a9;obtain⟨ea,ec,ta,tc,c3,he,ht⟩:=E3 a9;obtain⟨I,J⟩:=eY (nS::nS::nS::ms:LV);have e9:splice z8 3 ms=I:=by rw[J,c3];rfl
 have b0:I.length=8:=by rw[J];simp [l3]
 have b3:I.all oC=true:=by rw[J];simp only[aaE,a3];rfl
 obtain⟨H4,d1,n4,c6,s4⟩:=pushP H3 (bC z8 1) (bC I 1);have c7:H4.g H.n=cE cs 1:=by rw[s4.g _ oM,a5.g _ oM];exact g1
 have f1:splice z8 0 I=I:=y7 _ _ (by rw[b0];rfl);have k4:∀j,j<H.n->H4.g j=H.g j:=fun j D=>by rw[s4.g j oM,a5.g j oM,hS.g j D]
 obtain⟨f9,c0⟩:=du _ false q lR b2;obtain⟨v5,f8,H5,d3,b8,b5,a7⟩:=(PT K).1 H4 lo cs q oM (hr.mono (fun j D=>k4 j oM) lR) oM b2;have n5:=a7.n;rw[i8 TP rfl _ sM];refine J16 a0 O.symm g1 e7 d2 b7 l3 a3 e9 b0 b3 f1 d1.symm c7 d3 b8 ?_;have c4:d9 W.n W H5:=(a5.trans (s4.wk oM)).trans (a7.wk oM);have f6:H5.g (H.n+1)=cE z8 1:=(c4.g _ oM).trans g2;have c8:H5.g H3.n=cE I 1:=(a7.g _ oM).trans c6;have f4:∀cs a,QR H4 lo K false cs a->QR H lo K false cs a:=fun _ _ h=>h.mono (fun j D=>(k4 j oM).symm) lR;obtain⟨G,hG⟩:=eY (fun j=>(W.n<=j/\j<H3.n)\/(H4.n<=j/\j<H5.n):Nat->Prop);have d5:SlF H5 G 3 (QR H lo K false) v5 (inQ false q):=(b5.frz fun b U=>by rw[hG];exact .inr (b5.lt U)).mono (fun _ _=>rfl) (fun _ h=>h) f4;have e5:PrF H5 G Rt ms (C6 q):=a9.mono (fun j D=>by rw[a7.g j oM,s4.g j oM]) (fun j D=>by rw[hG];exact .inl D) iF;have b1:=BP K H lo H.n H3.n e4 rfl oM Rt b6 v5 (inQ false q) oM (fun x hx=>by have:=c0 x hx;exact⟨this.1,oM⟩) ms (bC z8 1) W hS g2 (C3 q) (inQ false q).length;refine j5 (F:=fun z=>Ret (t6 _ _ _ (u6 (inBlock 0 z) _)) _ _) (b1 _ _ ⟨0,⟨[],[],[],C6 q⟩,nS,nS,nS,G,rfl,oM,by simp,rfl,rfl,by simp [A3],by simp [A3],rfl,rfl,rfl,rfl,rfl,by rw[<-J];exact c8,e5,d5,t7.nil,t7.nil,t7.nil,fun j D=>?_,fun j D=>(C2 j D).elim,fun j D=>(C2 j D).elim,c4.wk oM,rfl⟩) ?_
 .rw[hG]at D;refine⟨oM,oM,oM,C2 j,C2 j,C2 j⟩
 rintro o e' H6 ⟨ho,f2,f3,w1,w2,w3,G',b4,e6,a1,a2,a4,X,a8⟩;have n6:=a8.n;have c9:H6.g (H.n+1)=cE z8 1:=(a8.g _ oM).trans g2;obtain⟨ra,rc,e1⟩:=a1.slice;obtain⟨rb,rd,e2⟩:=a2.slice;obtain⟨re,rf,e3⟩:=a4.slice;obtain⟨u,E⟩:=eY (w1::w2::w3::ms:LV);rw[<-E]at b4;have e8:ldC (some true) (some 8) 0 u=some (.agg u.toArray):=by rw[E,e1,e2,e3,c3];rfl
 have a6:u.all oC=true:=by rw[E,e1,e2,e3];simp only[aaE,a3];rfl
 have l6:u.length=8:=by rw[E];simp [l3]
 have f0:splice z8 0 u=u:=y7 _ _ (by rw[l6];rfl);obtain⟨H7,S⟩:=eY (H6.put (H.n+1) (bC u 1));have n7:H7.n=H6.n:=by rw[S,j9]
 have d0:H7.g (H.n+1)=cE u 1:=by rw[S];exact i7 oM
 have s7:d9 H.n H H7:=by rw[S];exact(hS.trans (a8.wk oM)).trans (d9.put oM)
 have d6:H.n<=H7.low:=by rw[S];exact((a8.wk oM).trans (d9.put oM)).low b9
 have k7:∀j,H.n+2<=j->H7.g j=H6.g j:=fun j D=>by rw[S,j6 oM]
 have c5:StF H7 (fun j=>H.n<=j/\j<H7.n) (QR H lo K false) Rt u (C3 q):=by
  refine⟨w1,w2,w3,ms,E,?_,?_,?_,?_⟩
  .exact(a1.same fun b U=>k7 b (oN (a1.lt U))).frz fun b U=>oN (a1.lt U)
  .exact(((a2.same fun b U=>k7 b (oN (a2.lt U))).imp fun cs p h=>h.mono (fun j D=>k7 j (X j D).1) (fun j D=>by have:=X j D;omega) iF)).frz fun b U=>oN (a2.lt U)
  .exact(a4.same fun b U=>k7 b (oN (a4.lt U))).frz fun b U=>oN (a4.lt U)
  .exact e6.mono (fun j D=>k7 j (X j D).1) (fun j D=>by have:=X j D;omega) iF
 refine J11 ho f2 f3 b4 e8 c9 a6 l6 f0 S.symm d0 ?_;exact uC c5 s7 d6 (fun h=>h)
end Go.Proofs.YtbekeboballbgaaGreatDoor.Ve
namespace Go.Proofs.YtbekeboballbgaaGreatDoor.Ve
open Go Go.RowKit
def Z9.refl(lo:Nat)(w:aet)(H:d7):Z9 lo w H w H:=⟨d9.refl _ _,fun _ _ _=>rfl,fun _ h=> .inl h⟩
def Z9.trans{lo:Nat}{w w1 w2:aet}{H u H2:d7}(h:Z9 lo w H w1 u)(k:Z9 lo w1 u w2 H2):Z9 lo w H w2 H2:=by
 have J:=h.n;refine⟨h.stay.trans k.stay,fun j I z=>?_,fun b D=>?_⟩
 .rw[k.but j oM (fun q=>by rcases h.new j q with r|r;exact z r;omega),h.but j I z]
 .rcases k.new b D with r|r
  .exact h.new b r
  .exact .inr oM
def Z9.of{lo:Nat}(w:aet){H z:d7}(h:d9 H.n H z)(u:lo<=H.n):Z9 lo w H w z:=⟨h.wk u,fun j D _=>h.g j D,fun _ h=> .inl h⟩
def Z9.wk{lo u:Nat}{w v:aet}{H z:d7}(h:Z9 lo w H v z)(k:u<=lo):Z9 u w H v z:=⟨h.stay.wk k,h.but,h.new⟩
def cJ{α:Type}(E:d7->(Nat->Prop)->LV->α->Prop):Prop:=∀(H H':d7)(G G':Nat->Prop)(cs:LV)(a:α),E H G cs a->(∀j,G j->H'.g j=H.g j)->(∀j,G j->G' j)->E H' G' cs a
abbrev pls(G:Nat->Prop)(H H3:d7)(j:Nat):Prop:=G j\/(H.n<=j/\j<H3.n)
structure Buf{α:Type}(sz:Nat)(E:d7->(Nat->Prop)->LV->α->Prop)(lo:Nat)(G0:Nat->Prop)(H0:d7)(w0:aet)(G:Nat->Prop)(H:d7)(w:aet)(l:List α):Prop where
 own:t7 H lo sz (E H G) w l
 up:∀j,G0 j->G j
 new:∀j,G j->G0 j\/H0.n<=j
 lt:∀j,G j->j<H.n/\¬j8 w j
 gr:Z9 lo w0 H0 w H
section
variable{α:Type}{sz:Nat}{E:d7->(Nat->Prop)->List Value->α->Prop}{lo:Nat}{G0 G:Nat->Prop}{H0 H H3:d7}{w0 w:Value}{l l2:List α}
def Buf.n(B:Buf sz E lo G0 H0 w0 G H w l):H0.n<=H.n:=B.gr.n
def Buf.g(B:Buf sz E lo G0 H0 w0 G H w l)(h:∀j,G0 j->j<H0.n/\¬j8 w0 j) (j:Nat) (u:G0 j):H.g j=H0.g j:=B.gr.but j (h j u).1 (h j u).2
def Buf.stay(I:cJ E)(B:Buf sz E lo G0 H0 w0 G H w l)(z:d9 H.n H H3)(D:lo<=H.n):Buf sz E lo G0 H0 w0 (pls G H H3) H3 w l:=by
 have O:=z.n;have J:=B.n;refine⟨(B.own.keep z).imp fun cs a h=>I _ _ _ _ _ _ h (fun j u=>z.g j (B.lt j u).1) (fun j u=> .inl u),fun j u=> .inl (B.up j u),fun j u=>?_,fun j u=>?_,B.gr.trans (Z9.of w z D)⟩
 .rcases u with u|u
  .exact B.new j u
  .exact .inr oM
 .rcases u with u|u
  .have:=B.lt j u;exact⟨oM,this.2⟩
  .exact⟨u.2,fun q=>by have:=B.own.lt q;omega⟩
def Buf.grown(J:cJ E){H':d7}(B:Buf sz E lo G0 H0 w0 G H w l)(O:t7 H' lo sz (E H G) D I)(z:Z9 lo w H D H'):Buf sz E lo G0 H0 w0 G H' D I:=by
 have S:=z.n;refine⟨O.imp fun cs a h=>J _ _ _ _ _ _ h (fun j u=>z.but j (B.lt j u).1 (B.lt j u).2) (fun j u=>u),B.up,B.new,fun j u=>⟨by have:=B.lt j u;omega,fun q=>?_⟩,B.gr.trans z⟩;rcases z.new j q with r|r
 .exact(B.lt j u).2 r
 .have:=B.lt j u;omega
def Buf.push{P:Program}{t e:TypeId}{bytes:Nat}{z cs:LV}{a:α}(O:cJ E)(ht:P.underlying t=some (.slice e))(X:D3 P e=some sz)(U:Q2 P e=some bytes)(hz:N3 P e=some z)(I:0<sz)(J:0<bytes)
  (B:Buf sz E lo G0 H0 w0 G H w l) (h:cs.length=sz) (S:E H G cs a) (W:(l.length+1)*bytes<=140737488355328) (u:lo<=H.n):
  Ret (A8 P (H.push (.cells cs true sz)) [t,t] w (.slice (some ⟨H.n,0,none⟩) 1 1)) (H.push (.cells cs true sz)) fun v' H'=>Buf sz E lo G0 H0 w0 G H' v' (l++[a]):=by
 obtain⟨v',D,H',r1,r2,r3,r4⟩:=B.own.push1F ht X U hz I J h S W u;exact⟨v',D,H',r1,r2,B.grown O r3 r4⟩
def Buf.append{P:Program}{t e:TypeId}{bytes:Nat}(J:cJ E)(X:P.underlying t=some (.slice e))(W:D3 P e=some sz)(O:Q2 P e=some bytes)(hz:N3 P e=some z)(D:0<sz)(I:0<bytes)
  (B:Buf sz E lo G0 H0 w0 G H w l) (hx:SlF H G sz (E H G) x l2) (U:(l.length+l2.length)*bytes<=140737488355328) (h:lo<=H.n):
  Ret (A8 P H [t,t] w x) H fun v' H'=>Buf sz E lo G0 H0 w0 G H' v' (l++l2):=by
 obtain⟨v',u,H',r1,r2,r3,r4⟩:=B.own.appendF X W O hz D I (hx.sl fun j S=>(B.lt j S).1) U h;exact⟨v',u,H',r1,r2,B.grown J r3 r4⟩
def Buf.frz(u:cJ E)(B:Buf sz E lo G0 H0 w0 G H w l):SlF H (fun j=>G j\/j8 w j) sz (E H (fun j=>G j\/j8 w j)) w l:=
 (B.own.imp fun cs a h=>u _ _ _ _ _ _ h (fun _ _=>rfl) fun j D=> .inl D).frz fun b z=> .inr z
def Buf.start(u:∀j,G0 j->j<H0.n/\¬j8 w0 j) (z:t7 H0 lo sz (E H0 G0) w0 l):Buf sz E lo G0 H0 w0 G0 H0 w0 l:=⟨z,fun _ h=>h,fun _ h=> .inl h,u,Z9.refl _ _ _⟩
def Buf.trans(B:Buf sz E lo G0 H0 w0 G H w l)(C:Buf sz E lo G H w G1 u w1 z):Buf sz E lo G0 H0 w0 G1 u w1 z:=by
 have D:=B.n;refine⟨C.own,fun j h=>C.up j (B.up j h),fun j h=>?_,C.lt,B.gr.trans C.gr⟩;rcases C.new j h with r|r
 .exact B.new j r
 .exact .inr oM
end
end Go.Proofs.YtbekeboballbgaaGreatDoor.Ve
namespace Go.Proofs.YtbekeboballbgaaGreatDoor.Ve
open Go Go.RowKit
open Go.Proofs.Tryz (prog)
abbrev NmQ:Type:=aes×aes
def atE(a:AtD):LV:=[.string a.space,.string a.loc,.string a.val]
def EvF(H:d7)(F:Nat->Prop)(cs:LV)(e:EvD):Prop:=∃v,cs=[iV e.kind,.string e.space,.string e.loc,v,.string e.text]/\SlF H F 3 (u9 atE) v e.attrs
def A0:cJ EvF:=fun H H' G G' cs a h z u=>by obtain⟨v,h1,h2⟩:=h;exact⟨v,h1,h2.mono z u iF⟩
def atV(n:NmQ)(e:EvD)(v:aes):EvD:={e with attrs:=e.attrs++[⟨n.1,n.2,v⟩]}
def yr(n:NmQ)(vs:List aes)(e:EvD):List EvD:=e::vs.map (atV n e)
def cQ(n:NmQ)(vs:List aes)(l:List EvD):List EvD:=l.flatMap (yr n vs)
def Q7(vs:List aes):List aes:=vs++[if X2 vs eB then dg (U5 vs) else eB]
def fX:List (NmQ×List aes)->List EvD->Option (List EvD)
 |[],l=>some l
 |x::r,l=>if(cQ x.1 (Q7 x.2) l).length>24 then none else fX r (cQ x.1 (Q7 x.2) l)
def Y3(n:NmQ):EvD:=⟨1,n.1,n.2,[],eB⟩
def cZ(s:aes):EvD:=⟨2,eB,eB,[],s⟩
def gO(s:SpD):List NmQ->List EvD->Option (List EvD)
 |[],acc=>some acc
 |n::r,acc=>match fX (s.attrs.zip s.vals) [Y3 n]with
  |none=>none
  |some l=>gO s r (acc++l)
def V8(s:SpD):Option (List EvD):=match gO s (s.names++[zNm (T6 s.names)]) []with
 |none=>none
 |some l=>if(l++(s.texts++[dg (U5 s.texts)]).map cZ).length>24 then none else some (l++(s.texts++[dg (U5 s.texts)]).map cZ)
def VM(J:Nat->Prop)(H0:d7)(lo b4:Nat)(w0:aet)(m2:lo<=H0.n)(U:∀j,J j->j<H0.n/\¬j8 w0 j) (v1 v3 v4:aet) (aa:Option Addr) (I:List NmQ) (ac:Nat) (b2:H0.g b4=cE [v1,.slice aa I.length ac,v3,v4] 1) (gG:J b4) (g6:SlF H0 J 2 (u9 nmE) (.slice aa I.length ac) I) (k:Nat) (hk:k<I.length) (n:NmQ) (hn:I[k]?=some n) (k9:I.length<=100000)
  (va:Option Addr) (vc:Nat) (vs:List aes) (g7:SlF H0 J 1 (u9 stE) (.slice va vs.length vc) vs) (m3:vs.length<=100000) (la:Option Addr) (l:List EvD) (lc:Nat) (hl:SlF H0 J 5 (EvF H0 J) (.slice la l.length lc) l) (j:Nat) (e0:EvD) (E:l[j]?=some e0) (m1:l.length<=100000) (l6:e0.attrs.length<=100000) (p5 p6 p7:aet) (c0:List EvD) (k0:c0.length<=10000000):
  ∀kk e H2,(∃(i:Nat)(w:aet)(G:Nat->Prop)(es:List EvD),kk=vs.length-i/\i<=vs.length/\e.g 4=pT b4/\e.g 5=p5/\e.g 6=p6/\e.g 7=p7/\e.g 8= .slice la l.length lc/\e.g 9=iV k/\e.g 10= .slice va vs.length vc/\e.g 11=w/\e.g 12=iV j/\e.g 13=iV i/\Buf 5 EvF lo J H0 w0 G H2 w es/\es++(vs.drop i).map (atV n e0)=c0)->
  u7 (LE prog l7 (.loop YB) e H2) (fun o e H2=>o= .exit 6/\e.g 4=pT b4/\e.g 5=p5/\e.g 6=p6/\e.g 7=p7/\e.g 8= .slice la l.length lc/\e.g 9=iV k/\e.g 10= .slice va vs.length vc/\e.g 12=iV j/\∃(w:aet)(G:Nat->Prop),e.g 11=w/\Buf 5 EvF lo J H0 w0 G H2 w c0):=by
 refine i5 _ _ ?_;rintro kk e H2 ⟨i,w,G,es,l8,hi,f4,f5,f6,f7,f8,f9,a4,d0,b1,d1,B,fu⟩;rcases b:decide ((i:Int)<vs.length)with _|_
 .have g3:=dF b;have:vs.drop i=[]:=dN oM;rw[this,acT,aaq]at fu;subst fu;refine J3 a4 d1 b ?_;exact i6 ⟨rfl,f4,f5,f6,f7,f8,f9,a4,b1,w,G,d0,B⟩
 have g3:=dT b;have g5:j<l.length:=(gS E).1;have B0:=fun j E=>B.g U j E;have nx:=B.n;have e2:lo<=H2.n:=oM;obtain⟨v,nb,o,cs,own,k8,hx,hd,rfl,hF,hg,m0,k1,hc,rfl⟩:=g7.row (i:=i) oM;obtain⟨e',m4,ol,k5,k3,k7,g9,l5,rfl,f1,g4,j4,X,l3,g0⟩:=hl.row (i:=j) g5;obtain rfl:e0=e':=aal (E.symm.trans g9);obtain⟨n',b9,oa,k4,k2,k6,g8,l4,rfl,b3,b7,j3,b8,l1,rfl⟩:=g6.row (i:=k) hk;obtain rfl:n=n':=aal (hn.symm.trans g8);have h3:(i:Int).toNat=i:=tN i;have h4:(j:Int).toNat=j:=tN j;have h5:(k:Int).toNat=k:=tN k;rw[hd,aaQ,adp]at fu;obtain⟨av,rfl,d5⟩:=g0;obtain⟨c4,c5,rfl⟩:=d5.slice;obtain⟨u,D⟩:=eY ([iV e0.kind,.string e0.space,.string e0.loc,.slice c4 e0.attrs.length c5,.string e0.text]:LV);rw[<-D]at X;have e9:=(B0 _ f1).trans g4;have e8:u[3]?=some (.slice c4 e0.attrs.length c5):=by rw[D];rfl
 have e5:u.all oC=true:=by rw[D];rfl
 have e3:u.length=5:=by rw[D];rfl
 obtain⟨K0,f2,n0,a6,s0⟩:=pushP H2 (bC [iV 0,.string eB,.string eB,nS,.string eB] 1) (bC u 1);have c3:splice [iV 0,.string eB,.string eB,nS,.string eB] 0 u=u:=y7 _ _ (by rw[e3];rfl);obtain⟨K1,d2,n1,-,s1⟩:=pushE K0 (bC [] 3);have a1:∀j,J j->K0.g j=H0.g j:=fun j E=>by rw[s0.g j (oN (U j E)),B0 j E]
 have O:∀j,J j->K1.g j=H0.g j:=fun j E=>by rw[s1.g j (oN (U j E)),a1 j E]
 have f3:t7 K1 K0.n 3 (u9 atE) (sL K0.n 0 0) []:=by rw[d2];exact t7.fresh rfl lR x9.nil
 obtain⟨w1,h1,K2,g1,d6,d3,s2⟩:=f3.append (P:=prog) (t:=44) (n:=K1.n) (by exact Rg.2.2.2.2.2.2) Wh.1 Wh.2.1 Wh.2.2.1 oM oM (d5.mono (F':=(· <K1.n)) O (fun j E=>by have:=U j E;omega) iF) (by simp;omega) oM;have n2:=s2.n;have b0:∀j,J j->K2.g j=H0.g j:=fun j E=>by rw[s2.g j (oN (U j E)),O j E]
 obtain⟨w2,h2,K4,d4,a8,a5,b5⟩:=d3.push1F (P:=prog) (t:=44) (cs:=[.string n.1,.string n.2,.string v]) (a:=⟨n.1,n.2,v⟩) (by exact Rg.2.2.2.2.2.2) Wh.1 Wh.2.1 Wh.2.2.1 oM oM rfl rfl (by simp;omega) oM;have n4:=b5.n;obtain⟨K3,b6⟩:=eY (K2.push (bC [.string n.1,.string n.2,.string v] 3));rw[<-b6]at d4 a8;have a7:K1.g H2.n=cE u 1:=(s1.g _ oM).trans a6;have S:K2.g H2.n=cE u 1:=(s2.g _ oM).trans a7;have c7:K3.g H2.n=cE u 1:=by rw[b6,i9 oM];exact S
 have c8:K4.g H2.n=cE u 1:=(b5.but _ oM (fun q=>by have:=d3.lt q;omega)).trans S;have i1:=(a1 b4 gG).trans b2;have i2:=(O b4 gG).trans b2;have i3:=(b0 b4 gG).trans b2;have h8:=(a1 b9 b3).trans b7;have h9:=(O b9 b3).trans b7;have i0:=(b0 b9 b3).trans b7;have j0:=(a1 nb hF).trans hg;have j1:=(O nb hF).trans hg;have j2:=(b0 nb hF).trans hg;have c6:=hc 0 oM;rw[aaf]at c6;obtain⟨a2,c2,a3⟩:=a5.slice;have e7:w2.cells.toList=[w2]:=by rw[a3];rfl
 have h7:Value.oneCell' w2=true:=by rw[a3];rfl
 obtain⟨h,z⟩:=eY ([iV e0.kind,.string e0.space,.string e0.loc,w2,.string e0.text]:LV);have e4:splice u 3 [w2]=h:=by rw[D,z];rfl
 have a9:h.length=5:=by rw[z];rfl
 have h0:ldC (some true) (some 5) 0 h=some (.agg h.toArray):=by rw[z,a3];rfl
 obtain⟨K5,W⟩:=eY (K4.put H2.n (bC h 1));have n5:K5.n=K4.n:=by rw[W,j9]
 have c9:K5.g H2.n=cE h 1:=by rw[W];exact i7 oM
 have s5:d9 H2.n H2 K5:=((s0.trans (s1.wk oM)).trans (s2.wk oM)).trans ((b5.stay.wk oM).trans (by rw[W];exact d9.put oM));have B5:=B.stay A0 s5 e2;have f0:EvF K5 (pls G H2 K5) h (atV n e0 v):=⟨w2,z,((a5.same (H':=K5) fun b hb=>by have:=a5.lt hb;rw[W,j6 oM]).frz fun b hb=>by have:=a5.lt hb;exact .inr oM)⟩
 obtain⟨w6,h6,H6,g2,e1,B6⟩:=B5.push (P:=prog) (t:=26) A0 (by exact fq.2.2.2.2.2.2) mj.1 mj.2.1 mj.2.2.1 oM oM a9 f0 (by have:=congrArg List.length fu;simp at this;omega) oM;have n6:=B6.n;have e6:∀Hx:d7,bsA prog (some 46) Hx 1 [(0,.agg h.toArray)]=some (sL Hx.n 1 1,Hx.push (bC h 5)):=fun Hx=>by
  rw[z,a3];simp only[E5,mj,E6];rfl
 refine J30 f4 f5 f6 f7 f8 f9 (aI a4 d0) (aI b1 d1) (aI b e9) (aI h3 h4) (aI h5 X) (aI e5 e3) (aI c3 f2.symm) (aI d2.symm a6) (aI a7 S) (aI c7 c8) (aI e8 g1) (aI d6 i1) (aI i2 i3) (aI h8 h9) (aI i0 j0) (aI j1 j2) (aI b8 c6) (aI b6.symm d4) (aI a8 e7) (aI h7 e4) (aI a9 W.symm) (aI c9 h0) (aI e6 g2) (aI e1 @wrap_small) ?_;exact d8 (kk-1) oM ⟨i+1,w6,_,es++[atV n e0 v],oM,oM,f4,f5,f6,f7,f8,f9,a4,rfl,b1,rfl,B6,fu⟩
def VN(I:Nat->Prop)(H0:d7)(lo W:Nat)(w0:aet)(d2:lo<=H0.n)(a3:∀j,I j->j<H0.n/\¬j8 w0 j) (v1 v3 v4:aet) (aa:Option Addr) (u:List NmQ) (ac:Nat) (b2:H0.g W=cE [v1,.slice aa u.length ac,v3,v4] 1) (gG:I W) (c0:SlF H0 I 2 (u9 nmE) (.slice aa u.length ac) u) (k:Nat) (hk:k<u.length) (n:NmQ) (hn:u[k]?=some n) (b6:u.length<=100000)
  (va:Option Addr) (vc:Nat) (J:List aes) (c4:SlF H0 I 1 (u9 stE) (.slice va J.length vc) J) (c3:J.length<=100000) (la:Option Addr) (l:List EvD) (lc:Nat) (hl:SlF H0 I 5 (EvF H0 I) (.slice la l.length lc) l) (b9:l.length<=100000) (b8:∀x∈l,x.attrs.length<=100000) (p5 p6 p7:aet) (U:List EvD) (c7:U.length<=10000000):
  ∀kk e H2,(∃(j:Nat)(w:aet)(G:Nat->Prop)(es:List EvD),kk=l.length-j/\j<=l.length/\e.g 4=pT W/\e.g 5=p5/\e.g 6=p6/\e.g 7=p7/\e.g 8= .slice la l.length lc/\e.g 9=iV k/\e.g 10= .slice va J.length vc/\e.g 11=w/\e.g 12=iV j/\Buf 5 EvF lo I H0 w0 G H2 w es/\es++cQ n J (l.drop j)=U)->
  u7 (LE prog l7 (.loop YC) e H2) (fun o e H2=>o= .exit 4/\e.g 4=pT W/\e.g 5=p5/\e.g 6=p6/\e.g 7=p7/\e.g 9=iV k/\∃(w:aet)(G:Nat->Prop),e.g 11=w/\Buf 5 EvF lo I H0 w0 G H2 w U):=by
 refine i5 _ _ ?_;rintro kk e H2 ⟨j,w,G,es,d0,hi,f4,f5,f6,f7,f8,f9,a1,a2,O,B,X⟩;rcases b:decide ((j:Int)<l.length)with _|_
 .have b7:=dF b;have:l.drop j=[]:=dN oM;rw[this,cQ,abu,aaq]at X;subst X;refine J3 f8 O b ?_;exact i6 ⟨rfl,f4,f5,f6,f7,f9,w,G,a2,B⟩
 have b7:=dT b;have B0:=fun j hj=>B.g a3 j hj;have nx:=B.n;obtain⟨e0,nb,o,cs,own,D,hx,hd,rfl,hF,hg,d1,a6,hc,hR⟩:=hl.row (i:=j) oM;have c6:(j:Int).toNat=j:=tN j;rw[hd,cQ,aaI,yr,aax,adp]at X;have g2:=(B0 _ hF).trans hg;have b3:EvF H2 G D e0:=A0 _ _ _ _ _ _ hR B0 B.up;obtain⟨av,S,a4⟩:=b3;obtain⟨c8,c9,a8⟩:=a4.slice;have c5:D.length=5:=by rw[S];rfl
 obtain⟨w1,h1,H3,b5,a5,B1⟩:=B.push (P:=prog) (t:=26) A0 (by exact fq.2.2.2.2.2.2) mj.1 mj.2.1 mj.2.2.1 oM oM c5 ⟨av,S,a4⟩ (by have:=congrArg List.length X;simp at this;omega) oM;have a7:∀Hx:d7,bsA prog (some 46) Hx 1 [(0,.agg D.toArray)]=some (sL Hx.n 1 1,Hx.push (bC D 5)):=fun Hx=>by
  rw[S,a8];simp only[E5,mj,E6];rfl
 have n1:=B1.gr.n;have G1:∀j,G j->j<H3.n/\¬j8 w1 j:=B1.lt;have E:=fun j(hj:I j)=>(B1.g a3 j hj)
 refine J16 f4 f5 f6 f7 f8 f9 a1 a2 O b g2 c6 a6 a7 b5 a5 ?_;refine j5 (F:=fun z=>u7 (u6 (inBlock 5 (inBlock 6 z)) _) _) (VM G H3 lo W w1 oM G1 v1 v3 v4 aa u ac ((E W gG).trans b2) (B.up _ gG) (c0.mono E B.up iF) k hk n hn b6 va vc J (c4.mono E B.up iF) c3 _ l lc (hl.mono E B.up (fun _ _ h=>A0 _ _ _ _ _ _ h E B.up)) j e0 hx b9 (b8 e0 (mG hx)) p5 p6 p7 (es++[e0]++J.map (atV n e0)) (by have:=congrArg List.length X;simp at this ⊢;omega) J.length _ _ ⟨0,w1,G,es++[e0],rfl,oM,f4,f5,f6,f7,f8,f9,a1,rfl,O,rfl,Buf.start G1 B1.own,rfl⟩) ?_;rintro o' e' H4 ⟨ho,g4,g5,g6,g7,g8,g9,a9,b1,w4,G4,b0,B4⟩;refine J3 ho b1 @wrap_small ?_;exact d8 (kk-1) oM ⟨j+1,w4,G4,_,oM,oM,g4,g5,g6,g7,g8,g9,a9,b0,rfl,B1.trans B4,by rw[<-X,cQ];simp⟩
def mM(n:NmQ)(h:List aes):∀l:List EvD,(cQ n h l).length=l.length*(h.length+1)
 |[]=>by simp [cQ]
 |x::l=>by
  have:=mM n h l;rw[cQ]at this ⊢;rw[aaI,ib,this,yr,A1,aa7,A1,adZ];omega
def IH(n:NmQ)(D:List aes)(k:Nat)(l:List EvD)(h:∀x∈l,x.attrs.length<=k):∀x∈cQ n D l,x.attrs.length<=k+1:=by
 intro x u;rw[cQ]at u;obtain⟨y,z,u⟩:=aaY.1 u;have:=h y z;rw[yr,aam]at u;rcases u with rfl|u
 .omega
 .obtain⟨v,_,rfl⟩:=aau.1 u;simp [atV];omega
def jo{α β:Type}:∀(a:List α)(b:List β)(k:Nat),(a.zip b).drop k=(a.drop k).zip (b.drop k)
 |a,b,0=>rfl
 |[],b,k+1=>by simp
 |x::a,[],k+1=>by simp
 |x::a,y::b,k+1=>by simpa using jo a b k
def VO(J:Nat->Prop)(H0:d7)(b4:Nat)(I:∀j,J j->j<H0.n) (v1 v4:aet) (aa:Option Addr) (D:List NmQ) (ac:Nat) (ba:Option Addr) (vals:List (List aes)) (bc:Nat) (h3:vals.length=D.length) (a4:H0.g b4=cE [v1,.slice aa D.length ac,.slice ba vals.length bc,v4] 1) (gG:J b4) (c7:SlF H0 J 2 (u9 nmE) (.slice aa D.length ac) D) (e9:SlF H0 J 1 (VlF H0 J) (.slice ba vals.length bc) vals) (i3:D.length<=1000) (e8:∀x∈vals,x.length<=10000)
  (p5 p6 p7:aet) (a6:Option (List EvD)):
  ∀kk e H2,(∃(k:Nat)(l:List EvD)(w8:aet)(G:Nat->Prop),kk=D.length-k/\k<=D.length/\e.g 4=pT b4/\e.g 5=p5/\e.g 6=p6/\e.g 7=p7/\e.g 8=w8/\e.g 9=iV k/\d9 H0.n H0 H2/\(∀j,J j->G j)/\(∀j,G j->J j\/H0.n<=j)/\(∀j,G j->j<H2.n)/\SlF H2 G 5 (EvF H2 G) w8 l/\l.length<=24/\(∀x∈l,x.attrs.length<=k)/\fX ((D.zip vals).drop k) l=a6)->
  u7 (LE prog l7 (.loop YD) e H2) (fun o e H2=>d9 H0.n H0 H2/\((o= .exit 2/\e.g 4=pT b4/\e.g 5=p5/\e.g 6=p6/\e.g 7=p7/\∃(l:List EvD)(w8:aet)(G:Nat->Prop),a6=some l/\l.length<=24/\e.g 8=w8/\(∀j,J j->G j)/\(∀j,G j->J j\/H0.n<=j)/\(∀j,G j->j<H2.n)/\SlF H2 G 5 (EvF H2 G) w8 l)\/(o= .ret/\a6=none/\e.g 2=nS/\e.g 3=iV 13))):=by
 refine i5 _ _ ?_;rintro kk e H2 ⟨k,l,w8,G,j2,hi,f4,f5,f6,f7,f8,f9,hS,b6,b7,a5,hl,c5,c4,fu⟩;have b5:=(hS.g b4 (I _ gG)).trans a4;rcases b:decide ((k:Int)<D.length)with _|_
 .have d5:=dF b;have:(D.zip vals).drop k=[]:=dN (by rw[acD];omega);rw[this,fX]at fu;refine J4 f4 f9 b5 b ?_;exact i6 ⟨hS,.inl ⟨rfl,f4,f5,f6,f7,l,w8,G,fu.symm,c5,f8,b6,b7,a5,hl⟩⟩
 have d5:=dT b;have j3:=hS.n;obtain⟨n,k0,oa,h8,h6,i0,f0,e2,rfl,i2,j1,h0,e6,j0,rfl⟩:=c7.row (i:=k) oM;obtain⟨E,g0,ov,h9,h7,i1,f1,e3,rfl,d1,e5,h4,e7,e1,⟨vv,rfl,c8⟩⟩:=e9.row (i:=k) oM;have g1:(k:Int).toNat=k:=tN k;have h5:=e8 E (mG f1);have e4:(D.zip vals).drop k=(n,E)::(D.zip vals).drop (k+1):=by
  rw[jo,e2,e3,ac2,jo]
 rw[e4,fX]at fu
 dsimp only at fu
 have a9:=e1 0 oM;rw[aaf]at a9;obtain⟨k1,k2,rfl⟩:=c8.slice;obtain⟨la,lc,rfl⟩:=hl.slice;obtain⟨K1,b9,n1,-,s1⟩:=pushE H2 (bC [] 1);have a2:∀j,J j->K1.g j=H0.g j:=fun j u=>by rw[s1.g j (oN (I j u)),hS.g j (I j u)]
 have d2:t7 K1 H2.n 1 (u9 stE) (sL H2.n 0 0) []:=by rw[b9];exact t7.fresh rfl lR x9.nil
 obtain⟨w1,h1,K2,d3,c0,W,s2⟩:=d2.append (P:=prog) (t:=119) (n:=K1.n) (by exact bq.2.2.2.2.2.2) ty9.1 ty9.2.1 ty9.2.2.1 oM oM (c8.mono (F':=(· <K1.n)) a2 (fun j u=>by have:=I j u;omega) iF) (by simp;omega) oM;have n2:=s2.n;rw[aat]at W;have O:=Aj K2 K2.n w1 E eB lR W.sl oM;have c6:=lW K2 K2.n w1 E lR W.sl oM;rw[show(E.any fun y=>cN y eB)=X2 E eB from rfl]at O;obtain⟨x,hx⟩:∃x,x=if X2 E eB then dg (U5 E) else eB:=eX;obtain⟨w2,h2,S,d4,c3,X,b8⟩:=W.push1F (P:=prog) (t:=119) (cs:=[.string x]) (a:=x) (by exact bq.2.2.2.2.2.2) ty9.1 ty9.2.1 ty9.2.2.1 oM oM rfl rfl oM oM;rw[show E++[x]=Q7 E by rw[hx];rfl]at X;have n4:=b8.n;have s4:d9 H2.n H2 S:=(s1.trans s2).trans b8.stay;have f3:(Q7 E).length=E.length+1:=by simp [Q7]
 have d0:=(a2 b4 gG).trans a4;have g8:=(a2 g0 d1).trans e5;have j4:H2.n<=S.n:=oM;obtain⟨g2,g3,b0⟩:=X.slice;have lm:=mM n (Q7 E) l;have f2:(cQ n (Q7 E) l).length<=10000000:=by
  rw[lm,f3];have:=Nat.mul_le_mul c5 (show E.length+1+1<=10002 from oM);omega
 have a8:∀j,J j->S.g j=H0.g j:=fun j u=>by rw[s4.g j (oN (I j u)),hS.g j (I j u)]
 have a1:∀j,pls G H2 S j->j<S.n/\¬j8 (nS) j:=fun j u=>⟨by
  rcases u with u|u
  .have:=a5 j u;omega
  .exact u.2,C2 j⟩
 have a7:∀j,J j->pls G H2 S j:=fun j u=> .inl (b6 j u);have c9:∀j,G j->S.g j=H2.g j:=fun j u=>s4.g j (a5 j u);rcases b2:X2 E eB with _|_
 all_goals
  rw[b2]at O;simp only[b2,aab,bF]at hx;subst hx;refine J19 f4 f5 f6 f7 f8 f9 b5 b b9.symm d0 g8 g1 a9 d3 c0 O c6 d4 c3 ?_;refine j5 (F:=fun z=>u7 (u6 (inBlock 3 (u6 (inBlock 4 z) _)) _) _) (VN (pls G H2 S) S S.n b4 (nS) lR a1 v1 _ v4 _ D ac ((a8 b4 gG).trans a4) (a7 _ gG) (c7.mono a8 a7 iF) k oM n f0 oM g2 g3 (Q7 E) (by rw[<-b0];exact X.frz fun b hb=>by have:=X.lt hb;exact .inr oM) oM la l lc (hl.mono c9 (fun j u=> .inl u) (fun _ _ h=>A0 _ _ _ _ _ _ h c9 (fun j u=> .inl u))) oM (fun x hx=>by have:=c4 x hx;omega) p5 p6 p7 (cQ n (Q7 E) l) f2 l.length _ _ ⟨0,nS,_,[],rfl,oM,f4,f5,f6,f7,f8,f9,b0,rfl,rfl,Buf.start a1 t7.nil,rfl⟩) ?_;rintro o' e' H5 ⟨ho,g4,g5,g6,g7,g9,w5,G5,a3,U⟩;obtain⟨wa,wc,b1⟩:=U.own.slice;have n5:=U.n;have s5:d9 H0.n H0 H5:=(hS.trans (s4.wk oM)).trans (U.gr.stay.wk oM);rw[b1]at a3;rcases b3:decide ((24:Int)<((cQ n (Q7 E) l).length:Nat))with _|_
  .have d6:=dF b3;rw[bt oM]at fu;refine J9 ho g4 g5 g6 g7 g9 a3 b3 @wrap_small ?_;refine d8 (kk-1) oM ⟨k+1,_,w5,_,oM,oM,g4,g5,g6,g7,b1.symm,rfl,s5,fun j u=> .inl (U.up j (a7 j u)),fun j u=>?_,fun j u=>?_,U.frz A0,oM,IH n _ k l c4,fu⟩
   .rcases u with u|u
    .rcases U.new j u with r|r
     .rcases r with r|r
      .exact b7 j r
      .exact .inr oM
     .exact .inr oM
    .have:=U.own.lt u;exact .inr oM
   .rcases u with u|u
    .exact(U.lt j u).1
    .exact(U.own.lt u).2
  .have d6:=dT b3;rw[cA oM]at fu;refine J8 ho g4 g5 g6 g7 g9 a3 b3 ?_;exact w9 ⟨s5,.inr ⟨rfl,fu.symm,rfl,rfl⟩⟩
def VP(J:Nat->Prop)(H0:d7)(b4:Nat)(a6:∀j,J j->j<H0.n) (s:SpD) (v1 v4:aet) (aa:Option Addr) (ac:Nat) (ba:Option Addr) (bc:Nat) (b2:s.vals.length=s.attrs.length) (b6:H0.g b4=cE [v1,.slice aa s.attrs.length ac,.slice ba s.vals.length bc,v4] 1) (gG:J b4) (c5:SlF H0 J 2 (u9 nmE) (.slice aa s.attrs.length ac) s.attrs) (c7:SlF H0 J 1 (VlF H0 J) (.slice ba s.vals.length bc) s.vals) (b8:s.attrs.length<=1000) (c6:∀x∈s.vals,x.length<=10000)
  (na:Option Addr) (nc:Nat) (S:List NmQ) (c4:SlF H0 J 2 (u9 nmE) (.slice na S.length nc) S) (e1:S.length<=10000) (a3:Option (List EvD)):
  ∀kk e H2,(∃(i:Nat)(w:aet)(D:List EvD)(G:Nat->Prop),kk=S.length-i/\i<=S.length/\e.g 4=pT b4/\e.g 5=w/\e.g 6= .slice na S.length nc/\e.g 7=iV i/\Buf 5 EvF H0.n J H0 (nS) G H2 w D/\D.length<=24*i/\gO s (S.drop i) D=a3)->
  u7 (LE prog l7 (.loop YE) e H2) (fun o e H2=>(o= .exit 0/\e.g 4=pT b4/\∃(w:aet)(D:List EvD)(G:Nat->Prop),a3=some D/\D.length<=24*S.length/\e.g 5=w/\Buf 5 EvF H0.n J H0 (nS) G H2 w D)\/(d9 H0.n H0 H2/\o= .ret/\a3=none/\e.g 2=nS/\e.g 3=iV 13)):=by
 refine i5 _ _ ?_;rintro kk e H2 ⟨i,w,D,G,d5,hi,f4,f5,f6,f7,B,d1,U⟩;have a7:∀j,J j->j<H0.n/\¬j8 (nS) j:=fun j E=>⟨a6 j E,C2 j⟩
 have B0:=fun j E=>B.g a7 j E;have nx:=B.n;rcases b:decide ((i:Int)<S.length)with _|_
 .have b9:=dF b;have:S.drop i=[]:=dN oM;rw[this,gO]at U;refine J3 f6 f7 b ?_;exact i6 (.inl ⟨rfl,f4,w,D,G,U.symm,oM,f5,B⟩)
 have b9:=dT b;obtain⟨n,nb,o,cs,own,el,hx,hd,rfl,hF,hg,d6,b3,hc,rfl⟩:=c4.row (i:=i) oM;have c8:(i:Int).toNat=i:=tN i;have g2:=(B0 _ hF).trans hg;rw[hd,gO]at U;obtain⟨W,u⟩:=eY ([iV 1,.string n.1,.string n.2,nS,.string eB]:LV);obtain⟨I,a8,n3,-,s3⟩:=pushE H2 (bC W 5);have d3:splice [iV 1,Value.string eB,Value.string eB,nS,Value.string eB] 1 (nmE n)=W:=by rw[u];rfl
 have b5:W.length=5:=by rw[u];rfl
 have d0:W.all oC=true:=by rw[u];rfl
 have d4:(nmE n).all oC=true:=rfl;have a9:I=H2.push (bC [iV 1,.string n.1,.string n.2,nS,.string eB] 5):=by rw[a8,u]
 have B3:=fun j(E:J j)=>(s3.g j (oN (a6 j E))).trans (B0 j E);have X:∀j,J j->pls G H2 I j:=fun j E=> .inl (B.up j E);have a1:∀j,pls G H2 I j->j<I.n:=fun j E=>by
  rcases E with E|E
  .have:=B.lt j E;omega
  .exact E.2
 have b0:t7 I H2.n 5 (EvF I (pls G H2 I)) (sL H2.n 1 1) [Y3 n]:=by
  rw[a8];exact t7.fresh rfl lR (x9.one b5 ⟨nS,u,.inl ⟨rfl,rfl⟩⟩)
 have c0:SlF I (pls G H2 I) 5 (EvF I (pls G H2 I)) (sL H2.n 1 1) [Y3 n]:=b0.frz fun b hb=>by have:=b0.lt hb;exact .inr this
 refine J9 f4 f5 f6 f7 b g2 c8 b3 a9.symm ?_;refine j5 (F:=fun z=>u7 (u6 (inBlock 1 (u6 (inBlock 2 z) _)) _) _) (VO (pls G H2 I) I b4 a1 v1 v4 aa s.attrs ac ba s.vals bc b2 ((B3 b4 gG).trans b6) (X _ gG) (c5.mono B3 X iF) (c7.mono B3 X (fun _ _ h=>h.mono B3 X)) b8 c6 w _ _ (fX (s.attrs.zip s.vals) [Y3 n]) s.attrs.length _ _ ⟨0,[Y3 n],_,_,rfl,oM,f4,f5,f6,f7,rfl,rfl,d9.refl _ _,fun _ h=>h,fun _ h=> .inl h,a1,c0,by simp,by simp [Y3],rfl⟩) ?_;rintro o' e' H5 ⟨s5,⟨ho,g4,g5,g6,g7,l,w8,G5,O,d2,g8,h1,h2,h3,c3⟩|⟨ho,O,a4,a5⟩⟩
 .rw[O]at U
  dsimp only at U
  have n5:=s5.n;have c9:d9 H2.n H2 H5:=s3.trans (s5.wk oM);have B5:=B.stay A0 c9 nx;have a2:∀j,G5 j->pls G H2 H5 j:=fun j E=>by
   have:=h3 j E;rcases h2 j E with r|r
   .rcases r with r|r
    .exact .inl r
    .exact .inr ⟨r.1,this⟩
   .exact .inr ⟨oM,this⟩
  obtain⟨w6,h6,H6,b7,b1,B6⟩:=B5.append (P:=prog) (t:=26) A0 (by exact fq.2.2.2.2.2.2) mj.1 mj.2.1 mj.2.2.1 oM oM (c3.mono (fun _ _=>rfl) a2 (fun _ _ h=>A0 _ _ _ _ _ _ h (fun _ _=>rfl) a2)) oM oM;refine J9 ho g4 g5 g6 g7 g8 b7 b1 @wrap_small ?_;exact d8 (kk-1) oM ⟨i+1,w6,D++l,_,oM,oM,g4,rfl,g6,rfl,B6,by rw[ib];omega,U⟩
 .rw[O]at U
  dsimp only at U
  refine J3 ho a4 a5 ?_;have n5:=s5.n;exact w9 (.inr ⟨((B.gr.stay).trans (s3.wk nx)).trans (s5.wk oM),rfl,U.symm,a4,a5⟩)
def VQ(O:Nat->Prop)(H0:d7)(w0:aet)(lo:Nat)(a6:lo<=H0.n)(S:∀j,O j->j<H0.n/\¬j8 w0 j) (ta:Option Addr) (tc:Nat) (ts:List aes) (X:SlF H0 O 1 (u9 stE) (.slice ta ts.length tc) ts) (a7:ts.length<=100000) (z:List EvD) (a2:z.length<=10000000):
  ∀kk e H2,(∃(i:Nat)(w:aet)(h:List EvD)(G:Nat->Prop),kk=ts.length-i/\i<=ts.length/\e.g 5=w/\e.g 15= .slice ta ts.length tc/\e.g 16=iV i/\Buf 5 EvF lo O H0 w0 G H2 w h/\h++(ts.drop i).map cZ=z)->
  u7 (LE prog l7 (.loop YF) e H2) (fun o e H2=>o= .exit 8/\∃(w:aet)(G:Nat->Prop),e.g 5=w/\Buf 5 EvF lo O H0 w0 G H2 w z):=by
 refine i5 _ _ ?_;rintro kk e H2 ⟨i,w,h,G,a4,hi,f5,u,E,B,I⟩;have B0:=fun j hj=>B.g S j hj;have nx:=B.n;rcases b:decide ((i:Int)<ts.length)with _|_
 .have W:=dF b;have:ts.drop i=[]:=dN oM;rw[this,acT,aaq]at I;subst I;refine J3 u E b ?_;exact i6 ⟨rfl,w,G,f5,B⟩
 have W:=dT b;obtain⟨v,nb,o,cs,own,el,hx,hd,rfl,hF,hg,a5,a3,hc,rfl⟩:=X.row (i:=i) oM;have a1:(i:Int).toNat=i:=tN i;have g2:=(B0 _ hF).trans hg;rw[hd,aaQ,adp]at I;have D:=hc 0 oM;rw[aaf]at D;obtain⟨w6,h6,H6,U,J,B6⟩:=B.push (P:=prog) (t:=26) A0 (by exact fq.2.2.2.2.2.2) mj.1 mj.2.1 mj.2.2.1 oM oM (cs:=[iV 2,.string eB,.string eB,nS,.string v]) (a:=cZ v) rfl ⟨nS,rfl,.inl ⟨rfl,rfl⟩⟩ (by have:=congrArg List.length I;simp at this;omega) oM;refine J10 f5 u E b g2 a1 D U J @wrap_small ?_;exact d8 (kk-1) oM ⟨i+1,w6,h++[cZ v],G,oM,oM,rfl,u,rfl,B6,I⟩
mutual
def dL:∀(f:Bool)(q:Q),(fsQ f q).length<=nQ q
 |f,.mk o s c v a b=>by
  have h1:=lu f a;have h2:=lu (!f) b;rw[fsQ,nQ,ib,ib];split<;>simp<;>omega
def lu:∀(f:Bool)(l:List Q),(fsL f l).length<=nL l
 |_,[]=>by simp [fsL]
 |f,x::l=>by
  have h1:=dL f x;have h2:=lu f l;rw[fsL,nL,ib];omega
end
def mf(q:Q):(spQ q).names.length<=nQ q/\(spQ q).attrs.length<=nQ q/\(spQ q).vals.length=(spQ q).attrs.length/\(∀x∈(spQ q).vals,x.length<=nQ q)/\(spQ q).texts.length<=nQ q:=by
 have h:=dL false q;refine⟨?_,?_,by simp [spQ],?_,?_⟩
 .have:=cT (aN 4 4) qNm M8 (fsQ false q) [];simp [spQ,U3]at this ⊢;omega
 .have:=cT (aN 5 6) qNm M8 (fsQ false q) [];simp [spQ,U3]at this ⊢;omega
 .intro x u;simp only[spQ,aau]at u;obtain⟨n,_,rfl⟩:=u;have:=cT (dx 6 n) Q.vl cN (fsQ false q) [];simp [Q3]at this ⊢;omega
 .have:=cT (dx 7 (eB,eB)) Q.vl cN (fsQ false q) [];simp [spQ,Q3]at this ⊢;omega
def Rq(H:d7)(s:SpD)(w:aet)(H1:d7):Prop:=∃v er,w= .tuple #[v,iV er]/\((V8 s=none/\v=nS/\er=13)\/∃l,V8 s=some l/\er=0/\SlF H1 (· <H1.n) 5 (EvF H1 (· <H1.n)) v l)/\d9 H.n H H1
def Br(H:d7)(lo k:Nat)(cs:LV)(q:Q)(h5:lo<=H.n)(hr:QR H lo k false cs q)(e9:OkD false q)(g1:nQ q<=1000):
  Ret (CL prog l7 38 [.agg cs.toArray] H) H (Rq H (spQ q)):=by
 obtain⟨f2,f1,d1,S,f3⟩:=mf q;obtain⟨s,hs⟩:=eY (spQ q);rw[<-hs]at f2 f1 d1 S f3 ⊢;have a0:cs.all oC=true:=by
  cases k with
  |zero=>exact hr.elim
  |succ k=>obtain⟨_,_,_,_,rfl,_⟩:=hr.path;rfl
 have f4:ldC (some true) (some 3) 0 cs=some (.agg cs.toArray):=by
  cases k with
  |zero=>exact hr.elim
  |succ k=>obtain⟨_,_,_,_,rfl,_⟩:=hr.path;rfl
 obtain⟨H1,b6,-,hg,hS⟩:=pushF H (bC cs 1);have c8:H.n<=H1.low:=by rw[b6,l9];exact lR
 have n1:=hS.n;have h8:=u5 hg;obtain⟨v2,h2,H2,e6,c3,g6,rfl,c0,s2⟩:=Fx H1 lo k cs q oM (hr.mono (fun j u=>hS.g j oM) lR) e9 (oN (dL false q));have n2:=s2.n;rw[<-hs]at c0;obtain⟨v1,va,vb,v4,rfl,a5,d2,d3,a6⟩:=c0;obtain⟨aa,ac,rfl⟩:=d2.slice;obtain⟨ba,bc,rfl⟩:=d3.slice;obtain⟨na,nc,rfl⟩:=a5.slice;obtain⟨ta,tc,rfl⟩:=a6.slice;obtain⟨K0,d4,m0,b0,t0⟩:=pushP H2 (bC [nS,nS,nS,nS] 1) (bC [.slice na s.names.length nc,.slice aa s.attrs.length ac,.slice ba s.vals.length bc,.slice ta s.texts.length tc] 1);obtain⟨K1,b7,m1,-,t1⟩:=pushE K0 (bC [] 2);have q1:∀j,j<H2.n->K1.g j=H2.g j:=fun j u=>by rw[t1.g j oM,t0.g j u]
 have b1:=(t1.g _ oM).trans b0;have d5:t7 K1 K0.n 2 (u9 nmE) (sL K0.n 0 0) []:=by rw[b7];exact t7.fresh rfl lR x9.nil
 obtain⟨w2,g8,K2,e1,a4,X,t2⟩:=d5.append (P:=prog) (t:=117) (n:=H2.n) (by exact AH.2.2.2.2.2.2) We.1 We.2.1 We.2.2.1 oM oM (a5.mono q1 lR iF) (by simp;omega) oM;rw[aat]at X;have m2:=t2.n;have b2:=(t2.g _ oM).trans b1;have q2:∀j,j<H2.n->K2.g j=H2.g j:=fun j u=>by rw[t2.g j oM,q1 j u]
 have e8:=Fv K2 H2.n (.slice na s.names.length nc) s.names oM (a5.mono q2 lR iF) oM;obtain⟨w4,h4,E,e2,c4,a1,W⟩:=X.push1F (P:=prog) (t:=117) (cs:=nmE (zNm (T6 s.names))) (a:=zNm (T6 s.names)) (by exact AH.2.2.2.2.2.2) We.1 We.2.1 We.2.2.1 oM oM rfl rfl oM oM;have m4:=W.n;have t4:d9 H2.n H2 E:=(t0.trans (t1.wk oM)).trans ((t2.wk oM).trans (W.stay.wk oM));have b4:E.g H2.n=_:=(W.but _ oM (fun q=>by have:=X.lt q;omega)).trans b2;have q4:∀j,j<H2.n->E.g j=H2.g j:=fun j u=>t4.g j u;rw[i8 Sy rfl _ sM];refine J16 a0 b6.symm hg f4 e6 c3 d4.symm b0 b7.symm b1 e1 a4 b2 e8 e2 c4 ?_;obtain⟨f5,f6,a7⟩:=a1.slice;have h6:(s.names++[zNm (T6 s.names)]).length=s.names.length+1:=sM;have f0:d9 H.n H E:=(hS.trans (s2.wk oM)).trans (t4.wk oM);have c7:H.n<=E.low:=((s2.wk oM).trans (t4.wk oM)).low c8;have f9:∀x∈s.vals,x.length<=10000:=fun x hx=>oN (S x hx);refine j5 (F:=fun z=>Ret (t6 _ _ _ (u6 (inBlock 0 z) _)) _ _) (VP (· <E.n) E H2.n (fun _ h=>h) s _ _ aa ac ba bc d1 b4 (by show _<_;omega) (d2.mono q4 (show H2.n<=E.n from oM) iF) (SlI.slF (d3.mono q4 (show H2.n<=E.n from oM) (fun _ _ h=>h.mono q4 (fun j u=>oM)))) oM f9 f5 f6 _ (by rw[<-a7];exact a1.frz fun b hb=>(a1.lt hb).2) oM (gO s (s.names++[zNm (T6 s.names)]) []) (s.names++[zNm (T6 s.names)]).length _ _ ⟨0,_,[],_,rfl,oM,rfl,rfl,a7,rfl,Buf.start (fun j u=>⟨u,C2 j⟩) t7.nil,by simp,rfl⟩) ?_;rintro o' e' O (⟨ho,g4,w,I,G,J,g0,g5,B⟩|⟨s5,ho,J,g2,g3⟩)
 .have n5:=B.n;have s5:d9 E.n E O:=B.gr.stay;have b5:=(s5.g _ oM).trans b4;have q5:∀j,j<H2.n->O.g j=H2.g j:=fun j u=>by rw[s5.g j oM,q4 j u]
  obtain⟨L1,b8,l1,-,u1⟩:=pushE O (bC [] 1);have c1:=(u1.g _ oM).trans b5;have r1:∀j,j<H2.n->L1.g j=H2.g j:=fun j u=>by rw[u1.g j oM,q5 j u]
  have d6:t7 L1 O.n 1 (u9 stE) (sL O.n 0 0) []:=by rw[b8];exact t7.fresh rfl lR x9.nil
  obtain⟨x2,g9,L2,e3,c5,b9,u2⟩:=d6.append (P:=prog) (t:=119) (n:=H2.n) (by exact bq.2.2.2.2.2.2) ty9.1 ty9.2.1 ty9.2.2.1 oM oM (a6.mono r1 lR iF) (by simp;omega) oM;rw[aat]at b9;have l2:=u2.n;have c2:=(u2.g _ oM).trans c1;have r2:∀j,j<H2.n->L2.g j=H2.g j:=fun j u=>by rw[u2.g j oM,r1 j u]
  have c9:=lW L2 H2.n (.slice ta s.texts.length tc) s.texts oM (a6.mono r2 lR iF) oM;obtain⟨x4,h0,L4,e4,c6,a2,a9⟩:=b9.push1F (P:=prog) (t:=119) (cs:=[.string (dg (U5 s.texts))]) (a:=dg (U5 s.texts)) (by exact bq.2.2.2.2.2.2) ty9.1 ty9.2.1 ty9.2.2.1 oM oM rfl rfl oM oM;have l4:=a9.n;have u4:d9 O.n O L4:=(u1.trans u2).trans a9.stay;have B4:=B.stay A0 u4 n5;obtain⟨f7,f8,a8⟩:=a2.slice;have h7:(s.texts++[dg (U5 s.texts)]).length=s.texts.length+1:=sM;refine J12 ho g4 g5 b5 b8.symm c1 e3 c5 c2 c9 e4 c6 ?_;refine j5 (F:=fun z=>Ret (t6 _ _ _ (u6 (inBlock 8 z) _)) _ _) (VQ (pls G O L4) L4 w E.n oM B4.lt f7 f8 (s.texts++[dg (U5 s.texts)]) (by rw[<-a8];exact a2.frz fun b hb=> .inr (a2.lt hb)) oM (I++(s.texts++[dg (U5 s.texts)]).map cZ) (by rw[ib,aa7];omega) (s.texts++[dg (U5 s.texts)]).length _ _ ⟨0,w,I,_,rfl,oM,g5,a8,rfl,Buf.start B4.lt B4.own,rfl⟩) ?_;rintro h9 g7 H6 ⟨d0,w6,G6,k5,U⟩;have B7:=B4.trans U;have n6:=B7.n;have s6:d9 H.n H H6:=f0.trans (B7.gr.stay.wk oM);have e7:H.n<=H6.low:=(B7.gr.stay.wk oM).low c7;obtain⟨wa,wc,ew⟩:=U.own.slice;have a3:=U.frz A0;rw[ew]at k5 a3;have D:V8 s=if(I++(s.texts++[dg (U5 s.texts)]).map cZ).length>24 then none else some (I++(s.texts++[dg (U5 s.texts)]).map cZ):=by rw[V8,J]
  rcases b3:decide ((24:Int)<((I++(s.texts++[dg (U5 s.texts)]).map cZ).length:Nat))with _|_
  .have e5:=dF b3;rw[bt oM]at D;refine J3 d0 k5 b3 ?_;refine bG (fun hc=>?_) ⟨_,_,rfl,.inr ⟨_,D,rfl,SlF.mono a3 (fun _ _=>rfl) (fun j u=>?_) (fun _ _ h=>A0 _ _ _ _ _ _ h (fun _ _=>rfl) fun j u=>?_)⟩,s6.ret e7⟩
   .rcases a3 with⟨h1,h2⟩|⟨b,o,c,h,_⟩
    .exact⟨_,_,rfl,.inr ⟨_,D,rfl,.inl ⟨h1,h2⟩⟩,d9.refl _ _⟩
    .rw[h]at hc;cases hc
   .rcases u with u|u
    .exact(U.lt j u).1
    .rw[<-ew]at u;exact(U.own.lt u).2
   .rcases u with u|u
    .exact(U.lt j u).1
    .rw[<-ew]at u;exact(U.own.lt u).2
  .have e5:=dT b3;rw[cA oM]at D;refine J3 d0 k5 b3 ?_;exact⟨_,none,H,rfl,rfl,_,_,rfl,.inl ⟨D,rfl,rfl⟩,d9.refl _ _⟩
 .have D:V8 s=none:=by rw[V8,J]
  have h3:=(s5.wk (show H.n<=E.n from oM)).low c7;refine J3 ho g2 g3 ?_;exact⟨_,none,H,rfl,rfl,_,_,rfl,.inl ⟨D,rfl,rfl⟩,d9.refl _ _⟩
def vG(q:Q):Bool:=decide (A3 (C3 q).progs<=24)&&decide ((C6 q).st<=24)&&(match V8 (spQ q)with|none=>true|some l=>decide (l.length<=14))
def zc(q:Q):(C3 q).main=C6 q:=by
 have:∀(l:List Q)(s:StD),(l.foldl I2 s).main=s.main:=by
  intro l;induction l with
  |nil=>intro s;rfl
  |cons x l h=>
   intro s;rw[aak,h,I2];split<;>rfl
 rw[C3,this]
def mh(q:Q)(I:OkD false q):(C3 q).progs.length=(C3 q).paths.length/\(C3 q).base.length=(C3 q).paths.length/\(C3 q).paths.length<=nQ q/\∀p∈(C3 q).progs,0<=p.st/\p.st<=2*nQ q:=by
 obtain⟨z,h⟩:=du _ false q lR I;have:∀(l:List Q)(s:StD),(∀x∈l,nQ x<=nQ q)->s.progs.length=s.paths.length->s.base.length=s.paths.length->(∀p∈s.progs,0<=p.st/\p.st<=2*nQ q)->(l.foldl I2 s).progs.length=(l.foldl I2 s).paths.length/\(l.foldl I2 s).base.length=(l.foldl I2 s).paths.length/\(l.foldl I2 s).paths.length<=s.paths.length+l.length/\∀p∈(l.foldl I2 s).progs,0<=p.st/\p.st<=2*nQ q:=by
  intro l;induction l with
  |nil=>intro s z h D E;exact⟨h,D,by simp,E⟩
  |cons x l S=>
   intro s z h D E;have U:=fy x;have J:=z x sM;rw[aak];have key:(I2 s x).progs.length=(I2 s x).paths.length/\(I2 s x).base.length=(I2 s x).paths.length/\(I2 s x).paths.length<=s.paths.length+1/\∀p∈(I2 s x).progs,0<=p.st/\p.st<=2*nQ q:=by
    rw[I2];split
    .exact⟨h,D,oM,E⟩
    .refine⟨by simp [h],by simp [D],by simp,fun p u=>?_⟩;rcases ns.1 u with u|u
     .exact E p u
     .have:p=C6 x:=by simpa using u
      subst this;omega
   have:=S (I2 s x) (fun y O=>z y (by simp [O])) key.1 key.2.1 key.2.2.2;rw[A1];exact⟨this.1,this.2.1,oM,this.2.2.2⟩
 have:=this (inQ false q) ⟨[],[],[],C6 q⟩ (fun x J=>(h x J).2) rfl rfl sM;rw[<-C3]at this;exact⟨this.1,this.2.1,by have:=this.2.2.1;simp at this;omega,this.2.2.2⟩
def Bt(H:d7)(lo k:Nat)(cs:LV)(q:Q)(b4:lo<=H.n)(hr:QR H lo k false cs q)(a5:OkD false q)(a4:nQ q<=1000):
  CL prog l7 18 [.agg cs.toArray] H=some (.bool (vG q),none):=by
 have a0:cs.all oC=true:=by
  cases k with
  |zero=>exact hr.elim
  |succ k=>obtain⟨_,_,_,_,rfl,_⟩:=hr.path;rfl
 have W:ldC (some true) (some 3) 0 cs=some (.agg cs.toArray):=by
  cases k with
  |zero=>exact hr.elim
  |succ k=>obtain⟨_,_,_,_,rfl,_⟩:=hr.path;rfl
 obtain⟨H1,E,-,hg,hS⟩:=pushF H (bC cs 1);have a9:H.n<=H1.low:=by rw[E,l9];exact lR
 have n1:=hS.n;have b5:=u5 hg;obtain⟨v2,h2,H2,O,z,u,rfl,a6,s2⟩:=Fy k H1 lo (fun _ _=>True) cs q oM (hr.mono (fun j hj=>hS.g j oM) lR) (fun _ _ _ _ _=>trivial) a5 a4;have n2:=s2.n;obtain⟨pa,pc,ga,gc,ba,bc,ea,ec,ta,tc,a3,_⟩:=E9 a6;have l8:u.length=8:=by rw[a3];rfl
 have a8:u.all oC=true:=by rw[a3];rfl
 have X:ldC (some true) (some 8) 0 u=some (.agg u.toArray):=by rw[a3];rfl
 have a2:u[3]?=some (.int .i64 (C3 q).main.st):=by rw[a3];rfl
 rw[zc]at a2;obtain⟨H3,J,n3,g3,s3⟩:=pushP H2 (bC z8 1) (bC u 1);have a1:splice z8 0 u=u:=y7 _ _ (by rw[l8];rfl);have I:H3.g H.n=cE cs 1:=by rw[s3.g _ oM,s2.g _ oM];exact hg
 obtain⟨v4,h4,H4,S,D,lv,er,rfl,a7,s4⟩:=Br H3 lo k cs q oM (hr.mono (fun j hj=>by rw[s3.g j oM,s2.g j oM,hS.g j oM]) lR) a5 a4;have n4:=s4.n;have g4:H4.g H2.n=cE u 1:=(s4.g _ oM).trans g3;obtain⟨p1,p2,p3,p4⟩:=mh q a5;have U:=un H4 (fun j=>H1.n<=j/\j<H2.n) (QR H1 lo k false) (fun _ _=>True) u (C3 q) (fun j hj=>oM) (a6.mono (fun j hj=>by rw[s4.g j oM,s3.g j oM]) (fun _ h=>h) iF iF) oM (fun p hp=>by have:=p4 p hp;omega);have b3:H.n<=H4.low:=((s2.wk (show H.n<=H1.n from oM)).trans ((s3.wk oM).trans (s4.wk oM))).low a9;rw[i8 Vj rfl _ sM,vG];rcases a7 with⟨h1,rfl,rfl⟩|⟨l,h1,rfl,hl⟩
 .rw[h1];rcases b1:decide (A3 (C3 q).progs<=24)with _|_
  .exact J17 a0 E.symm hg W O z a8 l8 a1 J.symm I S D g4 X U b1 trivial
  rcases b2:decide ((C6 q).st<=24)with _|_
  .exact J19 a0 E.symm hg W O z a8 l8 a1 J.symm I S D g4 X U a2 b1 b2 trivial
  .exact J19 a0 E.symm hg W O z a8 l8 a1 J.symm I S D g4 X U a2 b1 b2 trivial
 .rw[h1];obtain⟨la,lc,rfl⟩:=hl.slice;have b0:decide ((l.length:Int)<=14)=decide (l.length<=14):=aaR.2 oM;rcases b1:decide (A3 (C3 q).progs<=24)with _|_
  .exact J17 a0 E.symm hg W O z a8 l8 a1 J.symm I S D g4 X U b1 trivial
  rcases b2:decide ((C6 q).st<=24)with _|_
  .exact J19 a0 E.symm hg W O z a8 l8 a1 J.symm I S D g4 X U a2 b1 b2 trivial
  .exact J20 a0 E.symm hg W O z a8 l8 a1 J.symm I S D g4 X U a2 b1 b2 b0 trivial
def pJ(t:TypeId)(a:Option Addr)(n c:Nat)(h:(F8 P t).isSome=true):I3 P .eql t (.slice a n c) (nS)=some (.bool a.isNone):=by
 cases a<;>simp [I3,eqA,h]
def KR{α:Type}(R:LV->α->Prop)(H:d7)(n:Nat)(v:aet)(l:List α)(hn:n<=H.n)(U:SlI H n 3 R v l)(hl:l.length<=1000000):P4 (CL prog l7 62 [v] H) H 3 R l:=by
 obtain⟨va,ca,rfl⟩:=U.slice;have X:=fun a n c=>pJ (P:=prog) 44 a n c (by rw[Rg.2.2.2.2.2.1];rfl);rw[i8 Pq rfl _ sM];rcases b:va.isNone with _|_
 .obtain⟨E,u⟩:=eY (d7.push ⟨H.bs,H.n⟩ (bC [] 3));have hS:d9 H.n H E:=by rw[u];exact d9.first H _
  have n1:E.n=H.n+1:=by rw[u,i4];rfl
  have D:H.n<=E.low:=by rw[u,l9];exact lR
  have I:t7 E H.n 3 R (sL H.n 0 0) []:=by rw[u];exact t7.fresh rfl lR x9.nil
  obtain⟨w1,h1,K2,O,z,J,s2⟩:=I.append (P:=prog) (t:=44) (n:=n) (by exact Rg.2.2.2.2.2.2) Wh.1 Wh.2.1 Wh.2.2.1 oM oM (U.mono (fun j hj=>hS.g j oM) lR iF) (by simp;omega) oM;refine J5 X b u.symm O z ?_;exact I7 J (hS.trans s2) (s2.low D)
 .have W:va=none:=by simpa using b
  subst W;have S:l=[]:=by
   rcases U with⟨_,h⟩|⟨b,o,c,h,_⟩
   .exact h
   .cases h
  subst S;refine J2 X b ?_;exact⟨_,none,H,rfl,rfl,t7.nil,d9.refl _ _⟩
def KS{α:Type}(R:LV->α->Prop)(H:d7)(n:Nat)(v:aet)(l:List α)(hn:n<=H.n)(U:SlI H n 1 R v l)(hl:l.length<=1000000):P4 (CL prog l7 60 [v] H) H 1 R l:=by
 obtain⟨va,ca,rfl⟩:=U.slice;have X:=fun a n c=>pJ (P:=prog) 119 a n c (by rw[bq.2.2.2.2.2.1];rfl);rw[i8 Pp rfl _ sM];rcases b:va.isNone with _|_
 .obtain⟨E,u⟩:=eY (d7.push ⟨H.bs,H.n⟩ (bC [] 1));have hS:d9 H.n H E:=by rw[u];exact d9.first H _
  have n1:E.n=H.n+1:=by rw[u,i4];rfl
  have D:H.n<=E.low:=by rw[u,l9];exact lR
  have I:t7 E H.n 1 R (sL H.n 0 0) []:=by rw[u];exact t7.fresh rfl lR x9.nil
  obtain⟨w1,h1,K2,O,z,J,s2⟩:=I.append (P:=prog) (t:=119) (n:=n) (by exact bq.2.2.2.2.2.2) ty9.1 ty9.2.1 ty9.2.2.1 oM oM (U.mono (fun j hj=>hS.g j oM) lR iF) (by simp;omega) oM;refine J5 X b u.symm O z ?_;exact I7 J (hS.trans s2) (s2.low D)
 .have W:va=none:=by simpa using b
  subst W;have S:l=[]:=by
   rcases U with⟨_,h⟩|⟨b,o,c,h,_⟩
   .exact h
   .cases h
  subst S;refine J2 X b ?_;exact⟨_,none,H,rfl,rfl,t7.nil,d9.refl _ _⟩
def Wat(Wae:Bool){α:Type}(H0:d7)(F:Nat->Prop)(R:LV->α->Prop)(X:aet)(p:α->Bool)(va:Option Addr)(W:Nat)(l:List α)(hv:SlF H0 F (Waa Wae 3 6) R (.slice va l.length W) l)(hn:l.length<=1048576)(hf:∀(i:Nat)(x:α)(el:LV),l[i]?=some x->R el x->iz (CL prog l7) X [.agg el.toArray] H0=some (.bool (p x),none)) (r:Int):
  ∀U e H2,(∃i:Nat,U=l.length-i/\i<=l.length/\e.g 0= .slice va l.length W/\e.g 1=X/\e.g 7=iV l.length/\e.g 8=iV i/\H2=H0/\ixG p (l.drop i) i=r)->
  u7 (LE prog l7 (.loop (Waa Wae XM XR)) e H2) (fun o e H2=>H2=H0/\((o= .exit 0/\r= -1)\/(o= .ret/\e.g 4=iV r))):=by
 cases Wae
 all_goals
  simp only[Waa,Wab,Wac,cond_true,cond_false]at *
  refine i5 _ _ ?_;rintro U e H2 ⟨i,hk,hi,E,I,J,O,hH,z⟩;subst hH;rcases b:decide ((i:Int)<l.length)with _|_
  .have S:=dF b;have:l.drop i=[]:=dN oM;rw[this,ixG]at z;refine J5 E I J O b ?_;exact i6 ⟨rfl,.inl ⟨rfl,z.symm⟩⟩
  have S:=dT b;obtain⟨x,nb,o,cs,own,el,hx,hd,rfl,hF,hg,a1,u,hc,hR⟩:=hv.row (i:=i) oM;have nt:(i:Int).toNat=i:=tN i;have h:=hf i x el hx hR;rw[hd,ixG]at z;rcases D:p x with _|_
  .simp only[D,bF]at z;rw[D]at h;refine J10 E I J O b hg nt u h @wrap_small ?_;exact d8 (U-1) oM ⟨i+1,oM,oM,E,I,J,rfl,rfl,z⟩
  .simp only[D,aab]at z;rw[D]at h;refine J10 E I J O b hg nt u h @wrap_small ?_;exact w9 ⟨rfl,.inr ⟨rfl,by rw[<-z];rfl⟩⟩
def PQ:=Wad (@Wat true)
def PR:=Wad (@Wat false)
def qq{α:Type}(H:d7)(F:Nat->Prop)(R:LV->α->Prop)(u:aet)(p:α->Bool)(v:aet)(l:List α)(I:SlF H F 3 R v l)(U:l.length<=1048576)(S:∀(i:Nat)(x:α)(el:LV),l[i]?=some x->R el x->iz (CL prog l7) u [.agg el.toArray] ⟨H.bs,H.n⟩=some (.bool (p x),none)):
  CL prog l7 156 [v,u] H=some (.int .i64 (ixG p l 0),none):=by
 obtain⟨X,J,rfl⟩:=I.slice;have hl:(⟨H.bs,H.n⟩:d7).low=H.n:=rfl;rw[i8 WZ rfl _ sM];refine J1 oO ?_;refine j5 (F:=fun z=>t6 _ _ _ (u6 (inBlock 0 z) _)=_) (PQ ⟨H.bs,H.n⟩ F R u p X J l (I.mono (fun _ _=>rfl) (fun _ h=>h) iF) U S (ixG p l 0) l.length _ _ ⟨0,rfl,oM,rfl,rfl,rfl,rfl,rfl,rfl⟩) ?_;rintro o e' H' ⟨E,⟨D,W⟩|⟨D,O⟩⟩
 .exact J3 D E W trivial
 .exact J3 D E O trivial
def qp{α:Type}(H:d7)(F:Nat->Prop)(R:LV->α->Prop)(u:aet)(p:α->Bool)(v:aet)(l:List α)(I:SlF H F 3 R v l)(E:l.length<=1048576)(D:∀(i:Nat)(x:α)(el:LV),l[i]?=some x->R el x->iz (CL prog l7) u [.agg el.toArray] ⟨H.bs,H.n⟩=some (.bool (p x),none)):
  CL prog l7 131 [v,u] H=some (.bool (l.any p),none):=by
 have z:=qq ⟨H.bs,H.n⟩ F R u p v l (I.mono (fun _ _=>rfl) (fun _ h=>h) iF) E D;rw[i8 Ts rfl _ sM,<-jt];exact J1 z trivial
def AC{α:Type}(H:d7)(F:Nat->Prop)(R:LV->α->Prop)(u:aet)(p:α->Bool)(v:aet)(l:List α)(I:SlF H F 6 R v l)(U:l.length<=1048576)(S:∀(i:Nat)(x:α)(el:LV),l[i]?=some x->R el x->iz (CL prog l7) u [.agg el.toArray] ⟨H.bs,H.n⟩=some (.bool (p x),none)):
  CL prog l7 172 [v,u] H=some (.int .i64 (ixG p l 0),none):=by
 obtain⟨X,J,rfl⟩:=I.slice;have hl:(⟨H.bs,H.n⟩:d7).low=H.n:=rfl;rw[i8 Xd rfl _ sM];refine J1 OJ ?_;refine j5 (F:=fun z=>t6 _ _ _ (u6 (inBlock 0 z) _)=_) (PR ⟨H.bs,H.n⟩ F R u p X J l (I.mono (fun _ _=>rfl) (fun _ h=>h) iF) U S (ixG p l 0) l.length _ _ ⟨0,rfl,oM,rfl,rfl,rfl,rfl,rfl,rfl⟩) ?_;rintro o e' H' ⟨E,⟨D,W⟩|⟨D,O⟩⟩
 .exact J3 D E W trivial
 .exact J3 D E O trivial
def qr{α:Type}(H:d7)(F:Nat->Prop)(R:LV->α->Prop)(u:aet)(p:α->Bool)(v:aet)(l:List α)(I:SlF H F 6 R v l)(E:l.length<=1048576)(D:∀(i:Nat)(x:α)(el:LV),l[i]?=some x->R el x->iz (CL prog l7) u [.agg el.toArray] ⟨H.bs,H.n⟩=some (.bool (p x),none)):
  CL prog l7 163 [v,u] H=some (.bool (l.any p),none):=by
 have z:=AC ⟨H.bs,H.n⟩ F R u p v l (I.mono (fun _ _=>rfl) (fun _ h=>h) iF) E D;rw[i8 Zg rfl _ sM,<-jt];exact J1 z trivial
def I5{H:d7}{lo k:Nat}(h:QR H lo k f cs q):cs.all oC=true:=by
 cases k with
 |zero=>exact h.elim
 |succ k=>
  cases f
  .obtain⟨_,_,_,_,rfl,_⟩:=h.path;rfl
  .obtain⟨_,_,_,_,rfl,_⟩:=h.filter;rfl
def Q6{H:d7}{lo k:Nat}(h:QR H lo k f cs q):ldC (some true) (some cs.length) 0 cs=some (.agg cs.toArray):=by
 cases k with
 |zero=>exact h.elim
 |succ k=>
  cases f
  .obtain⟨_,_,_,_,rfl,_⟩:=h.path;rfl
  .obtain⟨_,_,_,_,rfl,_⟩:=h.filter;rfl
def sR(fn g:Nat)(f:Bool)(k:Nat):Prop:=∀(H:d7)(lo:Nat)(va vb:aet)(l m:List Q),lo<=H.n->QsR H lo k f va l->QsR H lo k f vb m->l.length<=1048576->m.length<=1048576->CL prog l7 fn [va,vb,.func (.func g) #[] #[]] H=some (.bool (decide (l.length=m.length)&&Q0 l m),none)
def xB(k:Nat)(ih:S5 133 false k)(H0:d7)(lo:Nat)(va vb:Option Addr)(ca cb:Nat)(l m:List Q)(b9:l.length=m.length)(c0:lo<=H0.n)(hv:QsR H0 lo k false (.slice va l.length ca) l)(hw:QsR H0 lo k false (.slice vb m.length cb) m)(hn:l.length<=1048576)(r:Bool):
  ∀kk e H2,(∃i:Nat,kk=l.length-i/\i<=l.length/\e.g 1= .slice vb m.length cb/\e.g 2= .func (.func 133) #[] #[]/\e.g 15= .slice va l.length ca/\e.g 16=iV l.length/\e.g 17=iV i/\d9 H0.n H0 H2/\Q0 (l.drop i) (m.drop i)=r)->
  u7 (LE prog l7 (.loop XN) e H2) (fun o e H2=>d9 H0.n H0 H2/\((o= .exit 0/\r=true)\/(o= .ret/\e.g 6= .bool false/\r=false))):=by
 refine i5 _ _ ?_;rintro kk e H2 ⟨i,hk,hi,f1,f2,D,E,O,X,S⟩;rcases b:decide ((i:Int)<l.length)with _|_
 .have b1:=dF b;have:l.drop i=[]:=dN oM;rw[this,Q0]at S;refine J6 f1 f2 D E O b ?_;exact i6 ⟨X,.inl ⟨rfl,S.symm⟩⟩
 have b1:=dT b;have c4:=X.n;obtain⟨x,nb,o,cs,own,el,hx,hd,rfl,c3,hg,b4,z,hr⟩:=hv.row (i:=i) oM;obtain⟨y,b5,o',cs',b8,h,c5,b3,rfl,b6,a6,a7,u,J⟩:=hw.row (i:=i) oM;have nt:(i:Int).toNat=i:=tN i;have b7:(i:Int)<m.length:=oM;rw[hd,b3,aO]at S;simp only[qSz,aab,bF]at z hg u a6 b4 a7;have e1:=hr.len;have e2:=J.len;simp only[qSz,aab,bF]at e1 e2;have a1:el.all oC=true:=I5 hr;have a2:h.all oC=true:=I5 J;obtain⟨H3,a4,n3,g3,s3⟩:=pushP H2 (bC [iV 0,nS,nS] 1) (bC el 1);have a9:splice [iV 0,nS,nS] 0 el=el:=y7 _ _ (by rw[e1];rfl);have b0:splice [iV 0,nS,nS] 0 h=h:=y7 _ _ (by rw[e2];rfl);obtain⟨H4,a5,n4,g4,s4⟩:=pushP H3 (bC [iV 0,nS,nS] 1) (bC h 1);have a3:H4.g H2.n=cE el 1:=(s4.g _ oM).trans g3;have gx:H2.g nb=_:=(X.g _ oM).trans hg;have gy:H3.g b5=_:=(s3.g _ oM).trans ((X.g _ oM).trans a6);have U:ldC (some true) (some el.length) 0 el=some (.agg el.toArray):=Q6 hr;have W:ldC (some true) (some h.length) 0 h=some (.agg h.toArray):=Q6 J;rw[e1]at U;rw[e2]at W;have k4:∀j,j<lo->H4.g j=H0.g j:=fun j hj=>by rw[s4.g _ oM,s3.g _ oM,X.g _ oM]
 have I:=ih H4 lo el h x y oM (hr.mono k4 lR) (J.mono k4 lR);have a8:d9 H0.n H0 H4:=(X.trans (s3.wk oM)).trans (s4.wk oM);rcases b2:P1 x y with _|_
 .rw[b2]at I S;refine J24 f1 f2 D E O b gx nt z a1 e1 a9 a4.symm gy u a2 e2 b0 a5.symm a3 g4 U W I ?_;exact w9 ⟨a8,.inr ⟨rfl,rfl,by rw[<-S];rfl⟩⟩
 .rw[b2]at I S;refine J25 f1 f2 D E O b gx nt z a1 e1 a9 a4.symm gy u a2 e2 b0 a5.symm a3 g4 U W I @wrap_small ?_;exact d8 (kk-1) oM ⟨i+1,oM,oM,f1,f2,D,E,rfl,a8,S⟩
def Hp(k:Nat)(ih:S5 133 false k):sR 157 133 false k:=by
 intro H lo va vb l m D O S hn hm;obtain⟨U,W,rfl⟩:=O.slice;obtain⟨X,bc,rfl⟩:=S.slice;have el:decide ((l.length:Int)=m.length)=decide (l.length=m.length):=aaR.2 oM;rw[i8 Xa rfl _ sM];rcases b:decide (l.length=m.length)with _|_
 .exact J2 el b trivial
 .refine J2 el b ?_;refine j5 (F:=fun z=>t6 _ _ _ (u6 (inBlock 0 z) _)=_) (xB k ih ⟨H.bs,H.n⟩ lo U X W bc l m (dT b) D (O.mono (fun _ _=>rfl) lR) (S.mono (fun _ _=>rfl) lR) hn (Q0 l m) l.length _ _ ⟨0,rfl,oM,rfl,rfl,rfl,rfl,rfl,d9.refl _ _,rfl⟩) ?_;rintro o e' H' ⟨J,⟨E,I⟩|⟨E,h4,I⟩⟩
  .have h:=J.low lR;have u:H.n<=H'.low:=h;exact J2 E I trivial
  .have h:=J.low lR;have u:H.n<=H'.low:=h;exact J3 E h4 I trivial
def xC(k:Nat)(ih:S5 159 true k)(H0:d7)(lo:Nat)(va vb:Option Addr)(ca cb:Nat)(l m:List Q)(b9:l.length=m.length)(c0:lo<=H0.n)(hv:QsR H0 lo k true (.slice va l.length ca) l)(hw:QsR H0 lo k true (.slice vb m.length cb) m)(hn:l.length<=1048576)(r:Bool):
  ∀kk e H2,(∃i:Nat,kk=l.length-i/\i<=l.length/\e.g 1= .slice vb m.length cb/\e.g 2= .func (.func 159) #[] #[]/\e.g 15= .slice va l.length ca/\e.g 16=iV l.length/\e.g 17=iV i/\d9 H0.n H0 H2/\Q0 (l.drop i) (m.drop i)=r)->
  u7 (LE prog l7 (.loop XO) e H2) (fun o e H2=>d9 H0.n H0 H2/\((o= .exit 0/\r=true)\/(o= .ret/\e.g 6= .bool false/\r=false))):=by
 refine i5 _ _ ?_;rintro kk e H2 ⟨i,hk,hi,f1,f2,D,E,O,X,S⟩;rcases b:decide ((i:Int)<l.length)with _|_
 .have b1:=dF b;have:l.drop i=[]:=dN oM;rw[this,Q0]at S;refine J6 f1 f2 D E O b ?_;exact i6 ⟨X,.inl ⟨rfl,S.symm⟩⟩
 have b1:=dT b;have c4:=X.n;obtain⟨x,nb,o,cs,own,el,hx,hd,rfl,c3,hg,b4,z,hr⟩:=hv.row (i:=i) oM;obtain⟨y,b5,o',cs',b8,h,c5,b3,rfl,b6,a6,a7,u,J⟩:=hw.row (i:=i) oM;have nt:(i:Int).toNat=i:=tN i;have b7:(i:Int)<m.length:=oM;rw[hd,b3,aO]at S;simp only[qSz,aab,bF]at z hg u a6 b4 a7;have e1:=hr.len;have e2:=J.len;simp only[qSz,aab,bF]at e1 e2;have a1:el.all oC=true:=I5 hr;have a2:h.all oC=true:=I5 J;obtain⟨H3,a4,n3,g3,s3⟩:=pushP H2 (bC [iV 0,.string eB,.string eB,.string eB,nS,nS] 1) (bC el 1);have a9:splice [iV 0,.string eB,.string eB,.string eB,nS,nS] 0 el=el:=y7 _ _ (by rw[e1];rfl);have b0:splice [iV 0,.string eB,.string eB,.string eB,nS,nS] 0 h=h:=y7 _ _ (by rw[e2];rfl);obtain⟨H4,a5,n4,g4,s4⟩:=pushP H3 (bC [iV 0,.string eB,.string eB,.string eB,nS,nS] 1) (bC h 1);have a3:H4.g H2.n=cE el 1:=(s4.g _ oM).trans g3;have gx:H2.g nb=_:=(X.g _ oM).trans hg;have gy:H3.g b5=_:=(s3.g _ oM).trans ((X.g _ oM).trans a6);have U:ldC (some true) (some el.length) 0 el=some (.agg el.toArray):=Q6 hr;have W:ldC (some true) (some h.length) 0 h=some (.agg h.toArray):=Q6 J;rw[e1]at U;rw[e2]at W;have k4:∀j,j<lo->H4.g j=H0.g j:=fun j hj=>by rw[s4.g _ oM,s3.g _ oM,X.g _ oM]
 have I:=ih H4 lo el h x y oM (hr.mono k4 lR) (J.mono k4 lR);have a8:d9 H0.n H0 H4:=(X.trans (s3.wk oM)).trans (s4.wk oM);rcases b2:P1 x y with _|_
 .rw[b2]at I S;refine J24 f1 f2 D E O b gx nt z a1 e1 a9 a4.symm gy u a2 e2 b0 a5.symm a3 g4 U W I ?_;exact w9 ⟨a8,.inr ⟨rfl,rfl,by rw[<-S];rfl⟩⟩
 .rw[b2]at I S;refine J25 f1 f2 D E O b gx nt z a1 e1 a9 a4.symm gy u a2 e2 b0 a5.symm a3 g4 U W I @wrap_small ?_;exact d8 (kk-1) oM ⟨i+1,oM,oM,f1,f2,D,E,rfl,a8,S⟩
def Hq(k:Nat)(ih:S5 159 true k):sR 158 159 true k:=by
 intro H lo va vb l m D O S hn hm;obtain⟨U,W,rfl⟩:=O.slice;obtain⟨X,bc,rfl⟩:=S.slice;have el:decide ((l.length:Int)=m.length)=decide (l.length=m.length):=aaR.2 oM;rw[i8 Xb rfl _ sM];rcases b:decide (l.length=m.length)with _|_
 .exact J2 el b trivial
 .refine J2 el b ?_;refine j5 (F:=fun z=>t6 _ _ _ (u6 (inBlock 0 z) _)=_) (xC k ih ⟨H.bs,H.n⟩ lo U X W bc l m (dT b) D (O.mono (fun _ _=>rfl) lR) (S.mono (fun _ _=>rfl) lR) hn (Q0 l m) l.length _ _ ⟨0,rfl,oM,rfl,rfl,rfl,rfl,rfl,d9.refl _ _,rfl⟩) ?_;rintro o e' H' ⟨J,⟨E,I⟩|⟨E,h4,I⟩⟩
  .have h:=J.low lR;have u:H.n<=H'.low:=h;exact J2 E I trivial
  .have h:=J.low lR;have u:H.n<=H'.low:=h;exact J3 E h4 I trivial
def MB(k:Nat)(a1:sR 157 133 false k)(a2:sR 158 159 true k):S5 133 false (k+1):=by
 intro H lo c1 c2 x y a4 hx hy;obtain⟨s1,s2,s3⟩:=hx.plain rfl;obtain⟨u1,u2,u3⟩:=hy.plain rfl;obtain⟨va,W,wa,E,rfl,h1,h2,h3,h4⟩:=hx.path;obtain⟨vb,X,wb,I,rfl,k1,k2,k3,k4⟩:=hy.path;obtain⟨D,h⟩:=eY ((d7.push ⟨H.bs,H.n⟩ (bC [iV x.op,.slice va x.a.length W,.slice wa x.b.length E] 1)).push (bC [iV y.op,.slice vb y.a.length X,.slice wb y.b.length I] 1));have hS:d9 H.n H D:=by rw[h];exact(d9.first H _).trans (d9.push (by rw[i4];show H.n<=H.n+1;omega))
 have u:D.g H.n=cE [iV x.op,.slice va x.a.length W,.slice wa x.b.length E] 1:=by rw[h,i9 (by rw[i4];show H.n<H.n+1;omega)];exact j7
 have z:D.g (H.n+1)=cE [iV y.op,.slice vb y.a.length X,.slice wb y.b.length I] 1:=by rw[h];exact y9 (by rw[i4];show H.n+1<=H.n+1/\H.n+1<=H.n+1;omega)
 have a3:H.n<=D.low:=by rw[h,l9,l9];exact lR
 have hn:=hS.n;have S:∀j,j<lo->D.g j=H.g j:=fun j hj=>hS.g j oM;have J:=a1 D lo (.slice va x.a.length W) (.slice vb y.a.length X) x.a y.a oM (h1.mono S lR) (k1.mono S lR) h3 k3;have e2:=a2 D lo (.slice wa x.b.length E) (.slice wb y.b.length I) x.b y.b oM (h2.mono S lR) (k2.mono S lR) h4 k4;rw[i8 No rfl _ sM,jd];have p1:(decide (x.sp=y.sp)&&decide (x.lc=y.lc))=true:=by rw[s1,s2,u1,u2];rfl
 have p2:decide (x.vl=y.vl)=true:=by rw[s3,u3];rfl
 rw[p1,p2];rcases O:decide (x.op=y.op)with _|_
 .exact J4 h.symm u z O trivial
 rcases U:decide (x.a.length=y.a.length)with _|_
 .rw[U]at J;exact J5 h.symm u z O J trivial
 rcases b5:Q0 x.a y.a with _|_
 .rw[U,b5]at J;exact J5 h.symm u z O J trivial
 rw[U,b5]at J;exact J6 h.symm u z O J e2 trivial
def MD(k:Nat)(a1:sR 158 159 true k)(a2:sR 157 133 false k):S5 159 true (k+1):=by
 intro H lo c1 c2 x y a4 hx hy;obtain⟨va,W,wa,E,rfl,h1,h2,h3,h4,_⟩:=hx.filter;obtain⟨vb,X,wb,I,rfl,k1,k2,k3,k4,_⟩:=hy.filter;obtain⟨D,h⟩:=eY ((d7.push ⟨H.bs,H.n⟩ (bC [iV x.op,.string x.sp,.string x.lc,.string x.vl,.slice va x.a.length W,.slice wa x.b.length E] 1)).push (bC [iV y.op,.string y.sp,.string y.lc,.string y.vl,.slice vb y.a.length X,.slice wb y.b.length I] 1));have hS:d9 H.n H D:=by rw[h];exact(d9.first H _).trans (d9.push (by rw[i4];show H.n<=H.n+1;omega))
 have u:D.g H.n=cE [iV x.op,.string x.sp,.string x.lc,.string x.vl,.slice va x.a.length W,.slice wa x.b.length E] 1:=by rw[h,i9 (by rw[i4];show H.n<H.n+1;omega)];exact j7
 have z:D.g (H.n+1)=cE [iV y.op,.string y.sp,.string y.lc,.string y.vl,.slice vb y.a.length X,.slice wb y.b.length I] 1:=by rw[h];exact y9 (by rw[i4];show H.n+1<=H.n+1/\H.n+1<=H.n+1;omega)
 have a3:H.n<=D.low:=by rw[h,l9,l9];exact lR
 have hn:=hS.n;have S:∀j,j<lo->D.g j=H.g j:=fun j hj=>hS.g j oM;have O:=a1 D lo (.slice va x.a.length W) (.slice vb y.a.length X) x.a y.a oM (h1.mono S lR) (k1.mono S lR) h3 k3;have e2:=a2 D lo (.slice wa x.b.length E) (.slice wb y.b.length I) x.b y.b oM (h2.mono S lR) (k2.mono S lR) h4 k4;rw[i8 Ze rfl _ sM,jd];rcases J:decide (x.op=y.op)with _|_
 .exact J5 @D4 h.symm u z J trivial
 rcases p1:(decide (x.sp=y.sp)&&decide (x.lc=y.lc))with _|_
 .exact J6 @D4 h.symm u z J p1 trivial
 rcases p2:decide (x.vl=y.vl)with _|_
 .exact J7 @D4 h.symm u z J p1 p2 trivial
 rcases U:decide (x.a.length=y.a.length)with _|_
 .rw[U]at O;exact J8 @D4 h.symm u z J p1 p2 O trivial
 rcases b5:Q0 x.a y.a with _|_
 .rw[U,b5]at O;exact J8 @D4 h.symm u z J p1 p2 O trivial
 rw[U,b5]at O;exact J9 @D4 h.symm u z J p1 p2 O e2 trivial
def jU:∀k,S5 133 false k/\S5 159 true k:=by
 intro k;induction k with
 |zero=>exact⟨fun H lo c1 c2 x y u z D=>z.elim,fun H lo c1 c2 x y u z D=>z.elim⟩
 |succ k h=>exact⟨MB k (Hp k h.1) (Hq k h.2),MD k (Hq k h.2) (Hp k h.1)⟩
def Vv:=nfF 66 Tryz.f66 []
abbrev YN:t5:=ptA Vv [1,1,1,0,1,0,0]
def Py:=nfF 99 Tryz.f99 [0]
abbrev SZ:t5:=ptA Py [1,0,1,0,0]
abbrev Ta:t5:=ptA Py [1,1,1,0,0]
def Zj:=nfF 168 Tryz.f168 []
end Go.Proofs.YtbekeboballbgaaGreatDoor.Ve
