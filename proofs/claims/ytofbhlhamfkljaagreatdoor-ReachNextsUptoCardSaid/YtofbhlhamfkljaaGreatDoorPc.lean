/- A part of the claim: the evaluator and the contracts. Conditions: none here. -/
import Derived.Test.YtofbhlhamfkljaaGreatDoorPb
set_option linter.unusedVariables false
set_option linter.unusedSimpArgs false
set_option linter.defProp false
set_option maxHeartbeats 0
set_option maxRecDepth 1000000
namespace Go.Proofs.YtofbhlhamfkljaaGreatDoor.Ve
open Go Go.RowKit
open Go.Proofs.Tryz (prog)
def I8(s:ByteArray)(i n:Nat):Int:=if n=1 then A3 s i else lN s i n
def kw(s:ByteArray)(i n:Nat):Bool:=decide ((M8 (I8 s i n)).length=n)&&ya s i (M8 (I8 s i n))
theorem Mh{r:Int}(h:(M8 r).length=1):0<=r/\r<128/\M8 r=[r]:=by
 unfold M8 at h ⊢;split at h
 .simp at h
 .rename_i c;rw[if_neg c];split at h
  .rename_i c1;rw[if_pos c1];exact⟨oM,c1,rfl⟩
  .split at h
   .simp at h
   .split at h<;>simp at h
theorem Mi{r:Int}(h:(M8 r).length=2):128<=r/\r<2048/\M8 r=[192+r / 64,128+r % 64]:=by
 unfold M8 at h ⊢;split at h
 .simp at h
 .rename_i c;rw[if_neg c];split at h
  .simp at h
  .rename_i c1;rw[if_neg c1];split at h
   .rename_i c2;rw[if_pos c2];exact⟨oM,c2,rfl⟩
   .split at h<;>simp at h
theorem Mj{r:Int}(h:(M8 r).length=3):2048<=r/\r<65536/\¬(55296<=r/\r<=57343)/\M8 r=[224+r / 4096,128+r / 64 % 64,128+r % 64]:=by
 unfold M8 at h ⊢;split at h
 .simp at h
 .rename_i c;rw[if_neg c];split at h
  .simp at h
  .rename_i c1;rw[if_neg c1];split at h
   .simp at h
   .rename_i c2;rw[if_neg c2];split at h
    .rename_i u;rw[if_pos u];exact⟨oM,u,oM,rfl⟩
    .simp at h
theorem Mk{r:Int}(h:(M8 r).length=4):65536<=r/\r<=1114111/\M8 r=[240+r / 262144,128+r / 4096 % 64,128+r / 64 % 64,128+r % 64]:=by
 unfold M8 at h ⊢;split at h
 .simp at h
 .rename_i c;rw[if_neg c];split at h
  .simp at h
  .rename_i c1;rw[if_neg c1];split at h
   .simp at h
   .rename_i c2;rw[if_neg c2];split at h
    .simp at h
    .rename_i u;rw[if_neg u];exact⟨oM,oM,rfl⟩
theorem vh{s:ByteArray}{i:Nat}{l:List Int}:ya s i l=true↔l≠ []/\i+l.length<=s.size/\fF s i l=true:=by simp [ya,and_assoc]
theorem D3{s:ByteArray}{k:Nat}{b:Int}{r:List Int}:fF s k (b::r)=true↔A3 s k=b/\fF s (k+1) r=true:=by
 rw[fF];split
 .rename_i h;simp [h]
 .rename_i h;simp [h]
theorem Iv(s:ByteArray)(i n:Nat)(h1:1<=n)(h4:n<=4)(h:kw s i n=true):0<=I8 s i n/\i+n<=s.size/\dec s i=some ((I8 s i n).toNat,n):=by
 rw[kw,Bool.and_eq_true,decide_eq_true_eq]at h;obtain⟨z,u⟩:=h;rw[vh,z]at u;obtain⟨_,hs,u⟩:=u;have q0:=Y1 s i;have q1:=Y1 s (i+1);have q2:=Y1 s (i+2);have q3:=Y1 s (i+3);have e0:=X6 s i;have e1:=X6 s (i+1);have e2:=X6 s (i+2);have e3:=X6 s (i+3);obtain rfl|rfl|rfl|rfl:n=1\/n=2\/n=3\/n=4:=oM
 .obtain⟨D,I,y⟩:=Mh z;have E:I8 s i 1=A3 s i:=rfl;rw[E]at D I ⊢;refine⟨D,hs,?_⟩;rw[dec,if_pos oM,e0,Int.toNat_natCast]
 .obtain⟨D,I,y⟩:=Mi z;rw[y,D3,D3]at u;obtain⟨O,p1,_⟩:=u;have E:I8 s i 2=(A3 s i-192)*64+(A3 s (i+1)-128):=rfl;generalize I8 s i 2=v at*;have c1:T2 s (i+1)=true:=I6.2 ⟨oM,oM⟩;refine⟨oM,hs,?_⟩;rw[dec,if_neg oM,if_pos oM,if_pos ⟨c1,oM⟩]
  congr 2;omega
 .obtain⟨D,I,U,y⟩:=Mj z;rw[y,D3,D3,D3]at u;obtain⟨O,p1,p2,_⟩:=u;have J:A3 s (i+2)=128+I8 s i 3 % 64:=p2;have E:I8 s i 3=((A3 s i-224)*64+(A3 s (i+1)-128))*64+(A3 s (i+2)-128):=rfl;generalize I8 s i 3=v at*;have c1:T2 s (i+1)=true:=I6.2 ⟨oM,oM⟩;have c2:T2 s (i+2)=true:=I6.2 ⟨oM,oM⟩;refine⟨oM,hs,?_⟩;rw[dec,if_neg oM,if_neg oM,if_pos oM,if_pos ⟨c1,c2,oM,oM⟩]
  congr 2;omega
 .obtain⟨D,I,y⟩:=Mk z;rw[y,D3,D3,D3,D3]at u;obtain⟨O,p1,p2,W,_⟩:=u;have J:A3 s (i+2)=128+I8 s i 4 / 64 % 64:=p2;have X:A3 s (i+3)=128+I8 s i 4 % 64:=W;have E:I8 s i 4=(((A3 s i-240)*64+(A3 s (i+1)-128))*64+(A3 s (i+2)-128))*64+(A3 s (i+3)-128):=rfl;generalize I8 s i 4=v at*;have c1:T2 s (i+1)=true:=I6.2 ⟨oM,oM⟩;have c2:T2 s (i+2)=true:=I6.2 ⟨oM,oM⟩;have S:T2 s (i+3)=true:=I6.2 ⟨oM,oM⟩;refine⟨oM,hs,?_⟩;rw[dec,if_neg oM,if_neg oM,if_neg oM,if_pos oM,if_pos ⟨c1,c2,S,oM,oM⟩]
  congr 2;omega
theorem rG(s:ByteArray)(i c n:Nat)(hi:i<s.size)(h:dec s i=some (c,n)):1<=n/\n<=4/\i+n<=s.size/\kw s i n=true/\I8 s i n=(c:Int):=by
 have q0:=Y1 s i;have q1:=Y1 s (i+1);have q2:=Y1 s (i+2);have q3:=Y1 s (i+3);have e0:=X6 s i;have e1:=X6 s (i+1);have e2:=X6 s (i+2);have e3:=X6 s (i+3);have ok:∀(n:Nat)(l:List Int),M8 (I8 s i n)=l->l≠ []->l.length=n->i+n<=s.size->fF s i l=true->kw s i n=true:=by
  intro n l J O S U y;rw[kw,J,Bool.and_eq_true,decide_eq_true_eq,vh,S];exact⟨rfl,O,U,y⟩
 unfold dec at h;split at h
 .cases h;rename_i J;have D:I8 s i 1=A3 s i:=rfl;refine⟨oM,oM,oM,ok 1 [A3 s i] ?_ sM rfl oM (D3.2 ⟨rfl,rfl⟩),by rw[D,e0]⟩;rw[D,M8,if_neg oM,if_pos oM]
 .rename_i J;split at h
  .rename_i O;split at h
   .rename_i S;cases h;obtain⟨W,u⟩:=I6.1 S.1;have D:I8 s i 2=(A3 s i-192)*64+(A3 s (i+1)-128):=rfl;have z:I8 s i 2=((bAt s i % 32*64+bAt s (i+1) % 64:Nat):Int):=oM;generalize hw:I8 s i 2=v at*;refine⟨oM,oM,oM,ok 2 [192+v / 64,128+v % 64] ?_ sM rfl oM (D3.2 ⟨oM,D3.2 ⟨oM,rfl⟩⟩),z⟩;rw[hw,M8,if_neg oM,if_neg oM,if_pos oM]
   .cases h
  .rename_i O;split at h
   .rename_i U;split at h
    .rename_i y;cases h;obtain⟨W,u⟩:=I6.1 y.1;obtain⟨X,I⟩:=I6.1 y.2.1;have D:I8 s i 3=((A3 s i-224)*64+(A3 s (i+1)-128))*64+(A3 s (i+2)-128):=rfl;have z:I8 s i 3=((bAt s i % 16*4096+bAt s (i+1) % 64*64+bAt s (i+2) % 64:Nat):Int):=oM;have a2:=y.2.2;generalize hw:I8 s i 3=v at*;refine⟨oM,oM,oM,ok 3 [224+v / 4096,128+v / 64 % 64,128+v % 64] ?_ sM rfl oM (D3.2 ⟨oM,D3.2 ⟨oM,D3.2 ⟨by show A3 s (i+2)=_;omega,rfl⟩⟩⟩),z⟩;rw[hw,M8,if_neg oM,if_neg oM,if_neg oM,if_pos oM]
    .cases h
   .rename_i U;split at h
    .rename_i h6;split at h
     .rename_i E;cases h;obtain⟨W,u⟩:=I6.1 E.1;obtain⟨X,I⟩:=I6.1 E.2.1;obtain⟨g3,a1⟩:=I6.1 E.2.2.1;have a3:=E.2.2.2;have D:I8 s i 4=(((A3 s i-240)*64+(A3 s (i+1)-128))*64+(A3 s (i+2)-128))*64+(A3 s (i+3)-128):=rfl;have z:I8 s i 4=((bAt s i % 8*262144+bAt s (i+1) % 64*4096+bAt s (i+2) % 64*64+bAt s (i+3) % 64:Nat):Int):=oM;generalize hw:I8 s i 4=v at*;refine⟨oM,oM,oM,ok 4 [240+v / 262144,128+v / 4096 % 64,128+v / 64 % 64,128+v % 64] ?_ sM rfl oM (D3.2 ⟨oM,D3.2 ⟨oM,D3.2 ⟨by show A3 s (i+2)=_;omega,D3.2 ⟨by show A3 s (i+3)=_;omega,rfl⟩⟩⟩⟩),z⟩;rw[hw,M8,if_neg oM,if_neg oM,if_neg oM,if_neg oM]
     .cases h
    .cases h
def FG(H:d8)(s:ByteArray)(i:Nat)(o:Out)(e:Env)(H2:d8):Prop:=
 H.next<=H2.low/\i6 H.next H H2/\((o= .exit 0/\dec s i=none/\e.get 0= .string s/\e.get 1=iV i)\/(o= .ret/\∃c n:Nat,dec s i=some (c,n)/\e.get 4=iV c/\e.get 5=iV n/\e.get 6=iV 0))
theorem Cs(H:d8)(s:ByteArray)(i:Nat)(hi:i<s.size)(hz:s.size<=1048576):∀k e H2,(∃n:Nat,k=5-n/\1<=n/\n<=5/\(∀m,1<=m->m<n->i+m<=s.size->kw s i m=false)/\e.get 0= .string s/\e.get 1=iV i/\e.get 7=iV n/\i6 H.next H H2/\H.next<=H2.low)->
  w7 (LE prog t6 (.loop Kz) e H2) (FG H s i):=by
 refine i8 _ _ ?_;rintro k e H2 ⟨n,hk,h1,h5,O,I,J,W,hS,hl⟩;have u:(∀m,1<=m->m<=4->i+m<=s.size->kw s i m=false)->dec s i=none:=by
  intro a3;cases hd:dec s i with
  |none=>rfl
  |some q=>
   obtain⟨c,m⟩:=q;obtain⟨m1,m4,ms,mo,_⟩:=rG s i c m hi hd;rw[a3 m m1 m4 ms]at mo;cases mo
 rcases S:decide ((n:Int)<=4)with _|_
 .have hb:=dF S;refine J2 W S ?_;exact i9 ⟨hl,hS,.inl ⟨rfl,u fun m a b c=>O m a oM c,I,J⟩⟩
 have a8:=dT S;rcases X:decide ((i:Int)+n<=s.size)with _|_
 .have hb:=dF X;refine J6 I J W S X @wrap_small ?_;exact i9 ⟨hl,hS,.inl ⟨rfl,u fun m a b c=>O m a oM c,I,J⟩⟩
 have a9:=dT X;have nt:(i:Int).toNat=i:=tN i;have q0:=O8 s i;have a2:=hS.next;have qv:=yb s i n;have E:∀e':Env,e'.get 0= .string s->e'.get 1=iV i->e'.get 7=iV n->e'.get 8=iV (I8 s i n)->w7 (u9 (inBlock 1 (LE prog t6 DU e' H2)) (LE prog t6 KA)) (cQ k (fun k e H2=>∃n:Nat,k=5-n/\1<=n/\n<=5/\(∀m,1<=m->m<n->i+m<=s.size->kw s i m=false)/\e.get 0= .string s/\e.get 1=iV i/\e.get 7=iV n/\i6 H.next H H2/\H.next<=H2.low) (FG H s i)):=by
  intro e' g0 g1 g7 g8;obtain⟨w,h,H3,hc,hh,hO,z⟩:=zL H2 (I8 s i n);have a1:i6 H.next H H3:=hS.trans (z.weaken a2);have a4:H.next<=H3.low:=z.lowAll _ a2 hl;have b0:(M8 (I8 s i n)).length<=4:=by unfold M8;split<;>(try split)<;>(try split)<;>(try split)<;>simp
  have y:=oF H3 H2.next s i (M8 (I8 s i n)) w hO oM oM oM;obtain⟨a,c,rfl⟩:=hO.slice;have en:decide (((M8 (I8 s i n)).length:Int)=n)=decide ((M8 (I8 s i n)).length=n):=decide_eq_decide.2 oM;have D:kw s i n=false->∀e2:Env,e2.get 0= .string s->e2.get 1=iV i->e2.get 7=iV ((n:Int)+1)->cQ k (fun k e H2=>∃n:Nat,k=5-n/\1<=n/\n<=5/\(∀m,1<=m->m<n->i+m<=s.size->kw s i m=false)/\e.get 0= .string s/\e.get 1=iV i/\e.get 7=iV n/\i6 H.next H H2/\H.next<=H2.low) (FG H s i) .normal e2 H3:=fun a5 e2 k0 k1 k7=>
   i4 (k-1) oM ⟨n+1,oM,oM,oM,fun m a b c=>by
    by_cases hm:m=n
    .rw[hm];exact a5
    .exact O m a oM c,k0,k1,k7,a1,a4⟩
  rw[DU];rcases U:decide ((M8 (I8 s i n)).length=n)with _|_
  .refine J7 g7 g8 hc hh en U @wrap_small ?_;exact D (by rw[kw,U];rfl) _ g0 g1 rfl
  .rcases b4:ya s i (M8 (I8 s i n))with _|_
   .rw[b4]at y;refine J10 g0 g1 g7 g8 hc hh en U y @wrap_small ?_;exact D (by rw[kw,U,b4];rfl) _ g0 g1 rfl
   .rw[b4]at y;obtain⟨r0,_,rd⟩:=Iv s i n h1 oM (by rw[kw,U,b4];rfl);refine J9 g0 g1 g7 g8 hc hh en U y ?_;refine z9 ⟨a4,a1,.inr ⟨rfl,_,n,rd,?_,rfl,rfl⟩⟩;rw[Int.toNat_of_nonneg r0];rfl
 rcases b5:decide (1<(n:Int))with _|_
 .have a6:=dF b5;have a7:n=1:=oM;refine J8 I J W S X b5 @wrap_small nt ?_;exact E _ I J W (by rw[I8,if_pos a7];rfl)
 .have a6:=dT b5;have hv:=kx H2 s i n oM oM oM oM;refine J9 I J W S X b5 @wrap_small nt hv ?_;exact E _ I J W (by rw[I8,if_neg oM];rfl)
theorem Fw(H:d8)(s:ByteArray)(i:Nat)(hi:i<s.size)(J:s.size<=1048576):(∀c n,dec s i=some (c,n)->CL prog t6 118 [.string s,iV i] H=some (.tuple #[iV c,iV n,iV 0],none))/\(dec s i=none->∃q:Int,q≠0/\CL prog t6 118 [.string s,iV i] H=some (.tuple #[iV 0,iV 0,iV q],none)):=by
 have O:decide ((i:Int)<0)=false:=decide_eq_false oM;have S:decide ((s.size:Int)<=i)=false:=decide_eq_false oM;rw[j7 Ef rfl _ sM];refine J2 O S ?_;refine j8 (F:=fun z=>(∀c n,dec s i=some (c,n)->u5 _ _ _ (u9 (inBlock 0 z) _)=some (.tuple #[iV c,iV n,iV 0],none))/\(dec s i=none->∃q:Int,q≠0/\u5 _ _ _ (u9 (inBlock 0 z) _)=some (.tuple #[iV 0,iV 0,iV q],none))) (Cs H s i hi J 4 _ _ ⟨1,rfl,oM,oM,fun m a b=>oM,rfl,rfl,rfl,i6.start H,lR⟩) ?_;rintro o e' H' ⟨hl,hS,⟨y,u,D,E⟩|⟨y,c,n,u,U,W,X⟩⟩
 .refine⟨fun c n h=>(by rw[u]at h;cases h),fun _=>?_⟩;obtain⟨t,I⟩:=Ix H' s i oM J;cases t with
  |true=>
   refine⟨7,by decide,?_⟩;exact J4 y D E I trivial
  |false=>
   refine⟨2,by decide,?_⟩;exact J4 y D E I trivial
 .refine⟨fun c' n' h=>?_,fun h=>(by rw[u]at h;cases h)⟩;rw[u]at h;cases h;exact J4 y U W X trivial
theorem gM{s:ByteArray}{i c n:Nat}(u:i<s.size)(h:dec s i=some (c,n)):1<=n/\i+n<=s.size:=⟨(rG s i c n u h).1,(rG s i c n u h).2.2.1⟩
theorem qk{s:ByteArray}{i c n:Nat}(h:dec s i=some (c,n)):c<=2097152:=by
 have:=Y1 s i;unfold dec at h;split at h
 .cases h;omega
 .split at h
  .split at h
   .cases h;omega
   .cases h
  .split at h
   .split at h
    .cases h;omega
    .cases h
   .split at h
    .split at h
     .cases h;omega
     .cases h
    .cases h
def rLs(s:ByteArray)(i:Nat):List Int:=
 if h:i<s.size then
  match hd:dec s i with
  |some (c,n)=>(c:Int)::rLs s (i+n)
  |none=>[]
 else []
termination_by s.size-i
decreasing_by have:=gM h hd;omega
def iK(s:ByteArray)(i:Nat):Bool:=
 if h:i<s.size then
  match hd:dec s i with
  |some (c,n)=>iK s (i+n)
  |none=>false
 else true
termination_by s.size-i
decreasing_by have:=gM h hd;omega
theorem oE{s:ByteArray}{i c n:Nat}(y:i<s.size)(h:dec s i=some (c,n)):rLs s i=(c:Int)::rLs s (i+n):=by
 rw[rLs,dif_pos y];split
 .rename_i z D u;rw[h]at u;cases u;rfl
 .rename_i u;rw[h]at u;cases u
theorem gt{s:ByteArray}{i:Nat}(h:i<s.size->dec s i=none):rLs s i=[]:=by
 rw[rLs];split
 .rename_i y;split
  .rename_i z D u;rw[h y]at u;cases u
  .rfl
 .rfl
theorem kv{s:ByteArray}{i c n:Nat}(y:i<s.size)(h:dec s i=some (c,n)):iK s i=iK s (i+n):=by
 rw[iK,dif_pos y];split
 .rename_i z D u;rw[h]at u;cases u;rfl
 .rename_i u;rw[h]at u;cases u
theorem ku{s:ByteArray}{i:Nat}(y:i<s.size)(h:dec s i=none):iK s i=false:=by
 rw[iK,dif_pos y];split
 .rename_i z D u;rw[h]at u;cases u
 .rfl
theorem vg{s:ByteArray}{i:Nat}(h:s.size<=i):iK s i=true:=by rw[iK,dif_neg oM]
theorem FX(s:ByteArray):∀k i,s.size-i=k->(CI s i=0↔iK s i=true):=by
 intro k;induction k using Nat.strongRecOn with
 |ind k D=>
  intro i E;by_cases u:i<s.size
  .rw[CI,dif_pos u];obtain⟨z,y⟩:=CJ s i u;cases h:dec s i with
   |none=>
    rw[dif_neg (y h),ku u h];have:=y h;simp [this]
   |some q=>
    obtain⟨c,n⟩:=q;have e:=z c n h;obtain⟨p1,p2⟩:=gM u h;rw[dif_pos (by rw[e]),e,kv u h];simp only[Int.toNat_natCast];exact D (s.size-(i+n)) oM (i+n) rfl
  .rw[CI,dif_neg u,vg oM];simp
theorem Dv(f:Int->Bool)(s:ByteArray):∀k i,s.size-i=k->iK s i=true->Du f s i=(rLs s i).all f:=by
 intro k;induction k using Nat.strongRecOn with
 |ind k z=>
  intro i D h;by_cases u:i<s.size
  .cases y:dec s i with
   |none=>rw[ku u y]at h;cases h
   |some q=>
    obtain⟨c,n⟩:=q;obtain⟨p1,p2⟩:=gM u y;rw[kv u y]at h;rw[Du,dif_pos u,wQ s i u c n y,oE u y,List.all_cons,<-z (s.size-(i+n)) oM (i+n) rfl h];simp only;cases f c<;>simp
  .rw[Du,dif_neg u,gt (fun q=>absurd q u)];rfl
theorem CM(s:ByteArray):aW s=((rLs s 0).all kD&&iK s 0):=by
 rw[aW];have h:=FX s _ 0 rfl;cases u:iK s 0 with
 |true=>rw[decide_eq_true (h.2 u),Dv kD s _ 0 rfl u];simp
 |false=>
  have:¬CI s 0=0:=fun q=>by rw[h.1 q]at u;cases u
  rw[decide_eq_false this];simp
def fA(n:Int):Value:= .int .i32 n
theorem sJ(s:ByteArray)(H:d8)(hs:s.size<=1048576)(L:List Int)(t:Bool):∀k e H2,(∃(i:Nat)(v:Value)(l:List Int),k=s.size-i/\i<=s.size/\l.length<=i/\e.get 0= .string s/\e.get 5=v/\e.get 6=iV i/\Z1 H2 H.next 1 v l.length (l.map fA)/\i6 H.next H H2/\H.next<=H2.low/\l++rLs s i=L/\iK s i=t)->
  w7 (LE prog t6 (.loop Ox) e H2) (fun o e H2=>∃(a:Int)(v:Value),Z1 H2 H.next 1 v L.length (L.map fA)/\i6 H.next H H2/\H.next<=H2.low/\((o= .exit 0/\t=true/\e.get 5=v/\e.get 6=iV a)\/(o= .ret/\t=false/\e.get 2=v/\e.get 3=iV a/\∃q:Int,q≠0/\e.get 4=iV q))):=by
 refine i8 _ _ ?_;rintro k e H2 ⟨i,v,l,hk,hi,a4,J,S,O,U,D,hl,z,y⟩;rcases I:decide ((i:Int)<s.size)with _|_
 .have a1:=dF I;refine J3 J O I ?_;rw[gt (fun q=>oM),List.append_nil]at z;rw[vg oM]at y;exact i9 ⟨i,v,by rw[<-z];exact U,D,hl,.inl ⟨rfl,y.symm,S,O⟩⟩
 .have a1:=dT I;have h:i<s.size:=oM;obtain⟨r1,r2⟩:=Fw H2 s i h hs;cases u:dec s i with
  |none=>
   obtain⟨q,hq,hc⟩:=r2 u;have a2:decide (q=0)=false:=decide_eq_false hq;refine J6 J S O I hc a2 ?_;rw[gt (fun _=>u),List.append_nil]at z;rw[ku h u]at y;exact z9 ⟨i,v,by rw[<-z];exact U,D,hl,.inr ⟨rfl,y.symm,rfl,rfl,q,hq,rfl⟩⟩
  |some q=>
   obtain⟨c,n⟩:=q;obtain⟨p1,p2⟩:=gM h u;have a3:=qk u;have hc:=r1 c n u;have hw:IntKind.wrap .i32 (c:Int)=c:=du oM oM;obtain⟨v',H3,ha,W,E⟩:=wk (P:=prog) (t:=150) FV.2.2.2.2.2.2 FW.1 FW.2.1 FW.2.2.1 oM oM (U.push (bC [.int .i32 c] 1)) (c:=H2.next) (m:=1) (k:=1) (el:=[.int .i32 c]) j9 oM sM oM (by rw[i5];have:=D.next;omega);have X:=(D.trans (i6.push (B:= .cells [.int .i32 c] true 1) D.next)).trans E;refine J8 J S O I hc hw ha @wrap_small ?_;rw[oE h u]at z;rw[kv h u]at y;refine i4 (k-n) oM ⟨i+n,v',l++[(c:Int)],oM,oM,by simp;omega,J,rfl,rfl,?_,X,E.low hl,by rw[<-z];simp,y⟩;have e1:(l++[(c:Int)]).length=l.length+1:=sM;have e2:(l++[(c:Int)]).map fA=l.map fA++[.int .i32 c]:=by simp [fA]
   rw[e1,e2];exact W
theorem Iw(H:d8)(s:ByteArray)(hs:s.size<=1048576):Ret (CL prog t6 95 [.string s] H) H fun w E=>∃(v:Value)(a q:Int),w= .tuple #[v,iV a,iV q]/\decide (q=0)=iK s 0/\Z1 E H.next 1 v (rLs s 0).length ((rLs s 0).map fA)/\i6 H.next H E:=by
 rw[j7 PG rfl _ sM];refine J1 @if_true.{1} ?_;refine j8 (F:=fun z=>Ret (u5 _ _ _ (u9 (inBlock 0 z) _)) _ _) (sJ s H hs (rLs s 0) (iK s 0) s.size _ _ ⟨0,_,[],rfl,oM,by simp,rfl,rfl,rfl,.inl ⟨rfl,rfl,rfl⟩,i6.start H,lR,rfl,rfl⟩) ?_;rintro o e' H' ⟨a,v,h,I,J,⟨y,D,X,h6⟩|⟨y,D,S,U,q,O,W⟩⟩
 .refine J3 y X h6 ?_;rw[D];exact dI (fun u=>⟨v,a,0,rfl,rfl,h.na (by simpa using u),i6.refl _ _⟩) ⟨v,a,0,rfl,rfl,h.low _,I.ret J⟩
 .refine J4 y S U W ?_;rw[D];exact dI (fun u=>⟨v,a,q,rfl,decide_eq_false O,h.na (by simpa using u),i6.refl _ _⟩) ⟨v,a,q,rfl,decide_eq_false O,h.low _,I.ret J⟩
theorem CC(H0:d8)(lo:Nat)(a:Option Addr)(c:Nat)(q:Int)(l:List Int)(hn:l.length<=1048576)(X:∀x∈l,-2147483648<=x/\x<=2147483647) (hv:Z1 H0 lo 1 (.slice a l.length c) l.length (l.map fA)) (r:Bool):
  ∀k e H2,(∃i:Nat,k=l.length-i/\i<=l.length/\e.get 3= .slice a l.length c/\e.get 5=iV q/\e.get 6=iV i/\H2=H0/\(l.drop i).all kD=r)->
  w7 (LE prog t6 (.loop NZ) e H2) (fun o e H2=>H2=H0/\((o= .exit 0/\r=true/\e.get 5=iV q)\/(o= .ret/\e.get 2= .bool false/\r=false))):=by
 refine i8 _ _ ?_;rintro k e H2 ⟨i,hk,hi,u,E,z,U,h⟩;subst U;rcases b:decide ((i:Int)<l.length)with _|_
 .have D:=dF b;have:l.drop i=[]:=dN oM;rw[this,List.all_nil]at h;refine J3 u z b ?_;exact i9 ⟨rfl,.inl ⟨rfl,h.symm,E⟩⟩
 .have D:=dT b;rcases hv with⟨_,h0,_⟩|⟨nb,S,J,_,_⟩
  .omega
  obtain⟨rfl,rfl⟩:a=some ⟨nb,0,none⟩/\c=l.length+1:=by simpa using S
  obtain⟨x,O,W⟩:=S6 (l:=l) (i:=i) oM;have a1:=X x (mG O);rw[W,List.all_cons]at h;have nt:(i:Int).toNat=i:=tN i;have I:(l.map fA)[i]?=some (.int .i32 x):=by rw[List.getElem?_map,O];rfl
  rcases y:kD x with _|_
  .rw[y]at h;refine J9 u z b J @wrap_small @Nat.mul_one I @vm y ?_;exact z9 ⟨rfl,.inr ⟨rfl,rfl,by rw[<-h];rfl⟩⟩
  .rw[y]at h;refine J9 u z b J @wrap_small @Nat.mul_one I @vm y ?_;exact i4 (k-1) oM ⟨i+1,oM,oM,u,E,rfl,rfl,by rw[<-h];rfl⟩
theorem Ch(s:ByteArray):∀k i,s.size-i=k->(rLs s i).length<=s.size-i/\∀x∈rLs s i,-2147483648<=x/\x<=2147483647:=by
 intro k;induction k using Nat.strongRecOn with
 |ind k E=>
  intro i J;by_cases u:i<s.size
  .cases h:dec s i with
   |none=>rw[gt (fun _=>h)];simp
   |some q=>
    obtain⟨c,n⟩:=q;obtain⟨p1,p2⟩:=gM u h;have D:=qk h;obtain⟨I,z⟩:=E (s.size-(i+n)) oM (i+n) rfl;rw[oE u h];refine⟨by rw[List.length_cons];omega,fun x y=>?_⟩;rcases List.mem_cons.1 y with rfl|y
    .omega
    .exact z x y
  .rw[gt (fun q=>absurd q u)];simp
theorem S5(H:d8)(s:ByteArray)(hs:s.size<=1048576):CL prog t6 73 [.string s] H=some (.bool (aW s),none):=by
 obtain⟨w,h,E,hc,hh,v,a,q,rfl,hq,J,X⟩:=Iw ⟨H.bs,H.next⟩ s hs;have u:=J;obtain⟨O,cv,rfl⟩:=J.ownC.slice;have a1:H.next<=E.low:=X.low lR;obtain⟨f1,S⟩:=Ch s _ 0 rfl;rw[j7 PA rfl _ sM,CM];refine J2 hc hh ?_;refine j8 (F:=fun z=>u5 _ _ _ (u9 (inBlock 0 z) _)=_) (CC E H.next O cv q (rLs s 0) oM S u ((rLs s 0).all kD) (rLs s 0).length _ _ ⟨0,rfl,oM,rfl,rfl,rfl,rfl,rfl⟩) ?_;rintro o e' H' ⟨I,⟨y,D,W⟩|⟨y,U,D⟩⟩
 .exact J5 y I W hq D trivial
 .exact J4 y I U D trivial
def dLs(s:ByteArray)(i:Nat):List Int:=
 if h:i<s.size then((Utf8.decode s i).1:Int)::dLs s (i+(Utf8.decode s i).2) else []
termination_by s.size-i
decreasing_by have:=Y3 s i;omega
theorem rI(s:ByteArray)(i:Nat):(Utf8.decode s i).1<=2097152:=by
 unfold Utf8.decode;simp only;split
 .omega
 .split
  .split
   .simp only;omega
   .simp [Utf8.runeError]
  .split
   .split
    .simp only;omega
    .simp [Utf8.runeError]
   .split
    .split
     .simp only;omega
     .simp [Utf8.runeError]
    .simp [Utf8.runeError]
theorem AV(s:ByteArray):∀k i,s.size-i=k->(dLs s i).length<=s.size-i/\∀x∈dLs s i,-2147483648<=x/\x<=2147483647:=by
 intro k;induction k using Nat.strongRecOn with
 |ind k y=>
  intro i E;rw[dLs];split
  .rename_i D;have I:=Y3 s i;have hs:=rI s i;obtain⟨z,u⟩:=y (s.size-(i+(Utf8.decode s i).2)) oM (i+(Utf8.decode s i).2) rfl;refine⟨by rw[List.length_cons];omega,fun x h=>?_⟩;rcases List.mem_cons.1 h with rfl|h
   .omega
   .exact u x h
  .simp
theorem yw(s:ByteArray):∀b i(h:Array Value),s.size-i<=b->(Conv.runesFrom s b i h).toList=h.toList++(dLs s i).map fA:=by
 intro b;induction b with
 |zero=>
  intro i h y;rw[dLs,dif_neg oM];simp [Conv.runesFrom]
 |succ b z=>
  intro i h y;rw[Conv.runesFrom,dLs];by_cases u:i<s.size
  .have D:=Y3 s i;rw[if_pos u,dif_pos u];simp only;rw[z _ _ oM];simp [fA]
  .rw[if_neg u,dif_neg u];simp
theorem wP(H:d8)(s:ByteArray):Z4 prog H 9 150 (.string s)=some (sL H.next (dLs s 0).length ((dLs s 0).length+1),some (H.push (.cells ((dLs s 0).map fA) true 1))):=by
 have h:=yw s s.size 0 #[] oM;have u:(Conv.runesFrom s s.size 0 #[]).size=(dLs s 0).length:=by rw[<-Array.length_toList,h];simp
 simp only[Z4,FV,ty9,FW,u,h];simp
theorem uX(s:ByteArray):∀k i,s.size-i=k->0<i->od s i=(dLs s i).all je:=by
 intro k;induction k using Nat.strongRecOn with
 |ind k u=>
  intro i z h;rw[od,dLs];split
  .rename_i y;have D:=Y3 s i;rw[List.all_cons,<-u (s.size-(i+(Utf8.decode s i).2)) oM (i+(Utf8.decode s i).2) rfl oM,decide_eq_false (show¬i=0 from oM)];cases je (Utf8.decode s i).1<;>simp
  .rfl
theorem qK{s:ByteArray}:s.size=0↔s=eB:=by
 constructor
 .intro h;obtain⟨d⟩:=s;have:d= #[]:=Array.size_eq_zero_iff.1 h;rw[this];rfl
 .intro h;rw[h];rfl
def Y5:List Int->Bool
 |[]=>false
 |x::_=>fH x
theorem vO(s:ByteArray):iR s=(Y5 (dLs s 0)&&(dLs s 0).all je):=by
 rw[iR];by_cases u:s.size=0
 .have h:=qK.1 u;rw[dLs,dif_neg oM,decide_eq_true h];simp [Y5]
 .have h:¬s=eB:=fun q=>u (qK.2 q);have y:=Y3 s 0;rw[dLs,dif_pos oM,od,dif_pos oM,decide_eq_false h,List.all_cons,Y5,<-uX s _ (0+(Utf8.decode s 0).2) rfl oM];cases fH (Utf8.decode s 0).1<;>cases je (Utf8.decode s 0).1<;>simp
theorem xZ(H0:d8)(O:Nat)(l:List Int)(hn:l.length<=1048576)(W:∀x∈l,-2147483648<=x/\x<=2147483647) (I:H0.get O=cE (l.map fA) 1) (r:Bool):
  ∀k e H2,(∃i:Nat,k=l.length-i/\i<=l.length/\e.get 3=sL O l.length (l.length+1)/\e.get 4=iV i/\H2=H0/\(l.drop i).all je=r)->
  w7 (LE prog t6 (.loop Oy) e H2) (fun o e H2=>H2=H0/\((o= .exit 0/\r=true)\/(o= .ret/\e.get 2= .bool false/\r=false))):=by
 refine i8 _ _ ?_;rintro k e H2 ⟨i,hk,hi,u,z,S,h⟩;subst S;rcases b:decide ((i:Int)<l.length)with _|_
 .have D:=dF b;have:l.drop i=[]:=dN oM;rw[this,List.all_nil]at h;refine J3 u z b ?_;exact i9 ⟨rfl,.inl ⟨rfl,h.symm⟩⟩
 .have D:=dT b;obtain⟨x,J,U⟩:=S6 (l:=l) (i:=i) oM;have X:=W x (mG J);rw[U,List.all_cons]at h;have nt:(i:Int).toNat=i:=tN i;have E:(l.map fA)[i]?=some (.int .i32 x):=by rw[List.getElem?_map,J];rfl
  rcases y:je x with _|_
  .rw[y]at h;refine J9 u z b I @wrap_small @Nat.mul_one E @vo y ?_;exact z9 ⟨rfl,.inr ⟨rfl,rfl,by rw[<-h];rfl⟩⟩
  .rw[y]at h;refine J9 u z b I @wrap_small @Nat.mul_one E @vo y ?_;exact i4 (k-1) oM ⟨i+1,oM,oM,u,rfl,rfl,by rw[<-h];rfl⟩
theorem V7(H:d8)(s:ByteArray)(hs:s.size<=1048576):CL prog t6 97 [.string s] H=some (.bool (iR s),none):=by
 obtain⟨f1,U⟩:=AV s _ 0 rfl;have hz:d8.next ⟨H.bs,H.next⟩=H.next:=rfl;rw[j7 PH rfl _ sM,vO];have E:d8.get (d8.push ⟨H.bs,H.next⟩ (.cells ((dLs s 0).map fA) true 1)) H.next=some (.cells ((dLs s 0).map fA) true 1):=j9;have cv:Z4 prog ⟨H.bs,H.next⟩ 9 150 (.string s)=some (sL H.next (dLs s 0).length ((dLs s 0).length+1),some (d8.push ⟨H.bs,H.next⟩ (.cells ((dLs s 0).map fA) true 1))):=wP ⟨H.bs,H.next⟩ s;generalize dLs s 0=l at*;have u:decide ((l.length:Int)=0)=decide (l=[]):=decide_eq_decide.2 (by rw[<-List.length_eq_zero_iff];omega);rcases y:decide (l=[])with _|_
 .have I:=dF y;obtain⟨x,m,D⟩:=List.exists_cons_of_ne_nil I;have a3:=U x (by rw[D];simp);have a2:(0:Int)<(l.length:Int):=by rw[D];simp only[List.length_cons];omega
  have X:(l.map fA)[0]?=some (.int .i32 x):=by rw[D];rfl
  have h:Y5 l=fH x:=by rw[D,Y5]
  rw[h];rcases S:fH x with _|_
  .exact J8 cv u y E X @wrap_small @G9 S trivial
  .refine J8 cv u y E X @wrap_small @G9 S ?_;refine j8 (F:=fun z=>u5 _ _ _ (u9 (inBlock 0 z) _)=_) (xZ _ H.next l oM U E (l.all je) l.length _ _ ⟨0,rfl,oM,rfl,rfl,rfl,rfl⟩) ?_;have a1:H.next<=(d8.push ⟨H.bs,H.next⟩ (bC (l.map fA) 1)).low:=lR;rintro o e' H' ⟨W,⟨J,O⟩|⟨J,h2,O⟩⟩
   .exact J3 J O W trivial
   .exact J4 J h2 O W trivial
 .have he:=dT y;have h:Y5 l=false:=by rw[he,Y5]
  rw[h];exact J3 cv u y trivial
theorem N7(H:d8)(a b:ByteArray)(z:a.size<=1048576)(D:b.size<=1048576):CL prog t6 74 [.agg #[.string a,.string b]] H=some (.bool (iQ a b),none):=by
 rw[j7 QV rfl _ sM];rw[iQ];rcases h:iR b with _|_
 .exact J2 @V7 h trivial
 rcases u:aW b with _|_
 .exact J4 @V7 @S5 h u trivial
 rcases y:aW a with _|_
 .exact J5 @V7 @S5 h u y trivial
 refine J5 @V7 @S5 h u y ?_;rfl
def jm(s x:ByteArray)(i:Nat):Int:=
 if h:i+x.size<=s.size/\i<=s.size then(if s.extract i (i+x.size)=x then(i:Int) else jm s x (i+1)) else -1
termination_by s.size+1-i
theorem yB{P:Program}(H:d8)(t:TypeId)(s:ByteArray)(i j:Nat)(y:P.underlying t=some .string)(h:i<=j)(u:j<=s.size):aH P H t (.string s) (some (.int .i64 i)) (some (.int .i64 j)) none=some (.string (s.extract i j)):=by
 simp only[aH,y,bnd,Int.natCast_nonneg,if_true,Int.toNat_natCast];rw[if_pos ⟨h,u⟩]
theorem Bh(H0:d8)(s x:ByteArray)(hs:s.size<=1048576)(X:x.size<=1048576)(r:Int):
  ∀k e H2,(∃i:Nat,k=s.size+1-i/\i<=s.size+1/\e.get 0= .string s/\e.get 2= .string x/\e.get 7=iV i/\H2=H0/\jm s x i=r)->
  w7 (LE prog t6 (.loop KB) e H2) (fun o e H2=>H2=H0/\((o= .exit 0/\r= -1)\/(o= .ret/\e.get 6=iV r))):=by
 refine i8 _ _ ?_;rintro k e H2 ⟨i,W,U,z,D,E,J,h⟩;have S:H0=H0:=rfl;subst J;rcases b:decide ((i:Int)+x.size<=s.size)with _|_
 .have O:=dF b;rw[jm,dif_neg oM]at h;refine J5 z D E @wrap_small b ?_;exact i9 ⟨rfl,.inl ⟨rfl,h.symm⟩⟩
 have O:=dT b;rw[jm,dif_pos oM]at h;have u:=yB (P:=prog) H2 9 s i (i+x.size) (by simp [ty9]) oM oM;have I:((i+x.size:Nat):Int)=(i:Int)+x.size:=oM;rw[I]at u;rcases y:decide (s.extract i (i+x.size)=x)with _|_
 .rw[if_neg (dF y)]at h;refine J7 z D E @wrap_small b u y ?_;exact i4 (k-1) oM ⟨i+1,oM,oM,z,D,rfl,rfl,h⟩
 .rw[if_pos (dT y)]at h;refine J7 z D E @wrap_small b u y ?_;exact z9 ⟨rfl,.inr ⟨rfl,by rw[<-h];rfl⟩⟩
theorem vn(H:d8)(s x:ByteArray)(hs:s.size<=1048576)(E:x.size<=1048576):CL prog t6 125 [.string s,iV 0,.string x] H=some (.int .i64 (jm s x 0),none):=by
 rw[j7 Jm rfl _ sM];refine J1 ty3 ?_;refine j8 (F:=fun z=>u5 _ _ _ (u9 (inBlock 0 z) _)=_) (Bh ⟨H.bs,H.next⟩ s x hs E (jm s x 0) (s.size+1) _ _ ⟨0,rfl,oM,rfl,rfl,rfl,rfl,rfl⟩) ?_;rintro o e' H' ⟨u,⟨h,D⟩|⟨h,y⟩⟩
 .exact J3 h u D trivial
 .exact J3 h u y trivial
def lq:ByteArray:=⟨#[104,116,116,112,58,47,47,119,119,119,46,119,51,46,111,114,103,47,50,48,48,48,47,120,109,108,110,115,47]⟩
def qNamed(sp lc:ByteArray):Bool:= !decide (sp=lq)&&iR lc&&aW lc&&aW sp&&decide (jm sp ⟨#[123]⟩ 0<0)&&decide (jm sp ⟨#[125]⟩ 0<0)
theorem ym(H:d8)(a b:ByteArray)(I:a.size<=1048576)(J:b.size<=1048576):CL prog t6 100 [.agg #[.string a,.string b]] H=some (.bool (qNamed a b),none):=by
 have O:(⟨#[123]⟩:ByteArray).size<=1048576:=by decide
 have S:(⟨#[125]⟩:ByteArray).size<=1048576:=by decide
 rw[j7 OC rfl _ sM];rw[qNamed];rcases u:decide (a=lq)with _|_
 .rcases y:iR b with _|_
  .have h:=u;rw[lq]at h;exact J3 @V7 h y trivial
  rcases z:aW b with _|_
  .have h:=u;rw[lq]at h;exact J5 @V7 @S5 h y z trivial
  rcases D:aW a with _|_
  .have h:=u;rw[lq]at h;exact J6 @V7 @S5 h y z D trivial
  rcases E:decide (jm a ⟨#[123]⟩ 0<0)with _|_
  .have h:=u;rw[lq]at h;exact J8 @V7 @S5 @vn h y z D E trivial
  have h:=u;rw[lq]at h;exact J8 @V7 @S5 @vn h y z D E trivial
 .have h:=u;rw[lq]at h;exact J1 h trivial
def lst(f:Bool)(o:Int):Int:=if f then(if o=8 then 1 else if o=9\/o=10 then 2 else 0) else(if o=4\/o=5 then 2 else if o=6 then 1 else 0)
def mst(f:Bool)(o:Int):Int:=if f then(if o=8 then 1 else if o=9\/o=10 then 64 else 0) else(if o=4\/o=5 then 64 else if o=6 then 1 else 0)
def okN(op s least most:Int)(na nb:Nat):Bool:=decide (least<=na)&&decide ((na:Int)<=most)&&(decide (op=s)==decide (nb=1))&&decide (nb<=1)
def xn(op:Int):Bool:=decide (4<=op)&&decide (op<=6)
def Ex(op:Int):Bool:=decide (op=6)||decide (op=7)
def iH(hn:Bool)(sp lc:ByteArray):Bool:=(hn== !(decide (sp=eB)&&decide (lc=eB)))&&(!hn||qNamed sp lc)
def uY(hv:Bool)(op:Int)(vl:ByteArray):Bool:=(hv||decide (vl=eB))&& !(decide (op=7)&&decide (vl=eB))&&aW vl
def iG(f:Bool)(q:Q):Bool:=if f then decide (q.op<=11)&&iH (xn q.op) q.sp q.lc&&uY (Ex q.op) q.op q.vl else decide (q.op<=7)
def okQ:Nat->Bool->Q->Bool
 |0,_,_=>false
 |d+1,f,q=>decide (1<=q.op)&&iG f q&&okN q.op (if f then 11 else 7) (lst f q.op) (mst f q.op) q.a.length q.b.length&&q.a.all (okQ d f)&&q.b.all (okQ d !f)
def iX(fn:Nat)(f:Bool)(d:Nat):Prop:=∀(k:Nat)(H:d8)(lo:Nat)(cs:LV)(q:Q),lo<=H.next->QR H lo k f cs q->CL prog t6 fn [.agg cs.toArray,iV d] H=some (.bool (okQ d f q),none)
theorem Fg(d:Nat)(a1:d<=64)(ih:iX 51 false d)(k:Nat)(H0:d8)(lo:Nat)(va:Option Addr)(ca:Nat)(l:List Q)(X:lo<=H0.next)(hv:QsR H0 lo k false (.slice va l.length ca) l)(hn:l.length<=1048576)(I:Nat)(cl:LV)(O:H0.get I=cE cl 1)(U:cl[1]?=some (.slice va l.length ca))(r:Bool):
  ∀kk e H2,(∃i:Nat,kk=l.length-i/\i<=l.length/\e.get 1=iV ((d:Int)+1)/\e.get 2=pT I/\e.get 7=iV i/\H2=H0/\(l.drop i).all (okQ d false)=r)->
  w7 (LE prog t6 (.loop ND) e H2) (fun o e H2=>H2=H0/\((o= .exit 0/\e.get 1=iV ((d:Int)+1)/\e.get 2=pT I/\r=true)\/(o= .ret/\e.get 4= .bool false/\r=false))):=by
 refine i8 _ _ ?_;rintro kk e H2 ⟨i,hk,hi,E,z,J,hH,y⟩;subst hH;rcases b:decide ((i:Int)<l.length)with _|_
 .have S:=dF b;have:l.drop i=[]:=dN oM;rw[this]at y;refine J5 z J O U b ?_;exact i9 ⟨rfl,.inl ⟨rfl,E,z,y.symm⟩⟩
 have S:=dT b;obtain⟨x,nb,o,cs,own,el,hx,hd,rfl,a3,W,a2,h,hr⟩:=hv.row (i:=i) oM;have nt:(i:Int).toNat=i:=tN i;rw[hd,List.all_cons]at y;simp only[qSz,if_true,bF]at h W;have u:=ih k H2 lo el x X hr;have D:(d:Int)+1-1=d:=oM;rcases b2:okQ d false x with _|_
 .rw[b2]at u y;refine J12 E z J O U b W nt h @wrap_small D u ?_;exact z9 ⟨rfl,.inr ⟨rfl,rfl,by rw[<-y];rfl⟩⟩
 .rw[b2]at u y;refine J12 E z J O U b W nt h @wrap_small D u ?_;exact i4 (kk-1) oM ⟨i+1,oM,oM,E,z,rfl,rfl,y⟩
theorem Fh(d:Nat)(a1:d<=64)(ih:iX 78 true d)(k:Nat)(H0:d8)(lo:Nat)(va:Option Addr)(ca:Nat)(l:List Q)(X:lo<=H0.next)(hv:QsR H0 lo k true (.slice va l.length ca) l)(hn:l.length<=1048576)(I:Nat)(cl:LV)(O:H0.get I=cE cl 1)(U:cl[4]?=some (.slice va l.length ca))(r:Bool):
  ∀kk e H2,(∃i:Nat,kk=l.length-i/\i<=l.length/\e.get 1=iV ((d:Int)+1)/\e.get 2=pT I/\e.get 9=iV i/\H2=H0/\(l.drop i).all (okQ d true)=r)->
  w7 (LE prog t6 (.loop Oc) e H2) (fun o e H2=>H2=H0/\((o= .exit 0/\e.get 1=iV ((d:Int)+1)/\e.get 2=pT I/\r=true)\/(o= .ret/\e.get 4= .bool false/\r=false))):=by
 refine i8 _ _ ?_;rintro kk e H2 ⟨i,hk,hi,E,z,J,hH,y⟩;subst hH;rcases b:decide ((i:Int)<l.length)with _|_
 .have S:=dF b;have:l.drop i=[]:=dN oM;rw[this]at y;refine J5 z J O U b ?_;exact i9 ⟨rfl,.inl ⟨rfl,E,z,y.symm⟩⟩
 have S:=dT b;obtain⟨x,nb,o,cs,own,el,hx,hd,rfl,a3,W,a2,h,hr⟩:=hv.row (i:=i) oM;have nt:(i:Int).toNat=i:=tN i;rw[hd,List.all_cons]at y;simp only[qSz,if_true,bF]at h W;have u:=ih k H2 lo el x X hr;have D:(d:Int)+1-1=d:=oM;rcases b2:okQ d true x with _|_
 .rw[b2]at u y;refine J12 E z J O U b W nt h @wrap_small D u ?_;exact z9 ⟨rfl,.inr ⟨rfl,rfl,by rw[<-y];rfl⟩⟩
 .rw[b2]at u y;refine J12 E z J O U b W nt h @wrap_small D u ?_;exact i4 (kk-1) oM ⟨i+1,oM,oM,E,z,rfl,rfl,y⟩
theorem Fi(d:Nat)(a5:d<=64)(b6:iX 51 false d)(b7:iX 78 true d)(k:Nat)(H0:d8)(lo:Nat)(va wa:Option Addr)(ca a3:Nat)(a b:List Q)(a6:lo<=H0.next)(h1:QsR H0 lo k false (.slice va a.length ca) a)(h2:QsR H0 lo k true (.slice wa b.length a3) b)(a9:a.length<=1048576)(c3:b.length<=1048576)
  (bl:Nat) (cl:LV) (O:H0.get bl=cE cl 1) (op:Int) (a2:cl[0]?=some (.int .i64 op)) (hc:cl[1]?=some (.slice va a.length ca)) (J:cl[2]?=some (.slice wa b.length a3)) (h u:Int) (e:Env) (f1:e.get 1=iV ((d:Int)+1)) (f2:e.get 2=pT bl) (fL:e.get 5=iV h) (fM:e.get 6=iV u):
  w7 (LE prog t6 GZ e H0) (fun o e H2=>H2=H0/\o= .ret/\e.get 4= .bool (okN op 7 h u a.length b.length&&a.all (okQ d false)&&b.all (okQ d true))):=by
 have X:∀x y:Bool,F6 prog .neq 4 (.bool x) (.bool y)=some (.bool (!(x==y))):=fun x y=>eI 4 x y ty4.2.2.2.2.2.2.1;rw[GZ,okN];rcases b1:decide (h<=a.length)with _|_
 .have D:decide ((a.length:Int)<h)=true:=by have:=dF b1;exact decide_eq_true oM
  exact J5 f2 fL O hc D trivial
 have D:decide ((a.length:Int)<h)=false:=by have:=dT b1;exact decide_eq_false oM
 rcases b2:decide ((a.length:Int)<=u)with _|_
 .have E:decide (u<(a.length:Int))=true:=by have:=dF b2;exact decide_eq_true oM
  exact J7 f2 fL fM O hc D E trivial
 have E:decide (u<(a.length:Int))=false:=by have:=dT b2;exact decide_eq_false oM
 have e1:decide ((b.length:Int)=1)=decide (b.length=1):=decide_eq_decide.2 oM;rcases b3:(decide (op=7)==decide (b.length=1))with _|_
 .exact J12 f2 fL fM O a2 hc J D E X e1 b3 trivial
 rcases b4:decide (b.length<=1)with _|_
 .have U:decide ((1:Int)<b.length)=true:=by have:=dF b4;exact decide_eq_true oM
  exact J13 f2 fL fM O a2 hc J D E X e1 b3 U trivial
 have U:decide ((1:Int)<b.length)=false:=by have:=dT b4;exact decide_eq_false oM
 have b8:=dT b4;refine J13 f2 fL fM O a2 hc J D E X e1 b3 U ?_;refine j8 (F:=fun z=>w7 (u9 (inBlock 0 z) _) _) (Fg d a5 b6 k H0 lo va ca a a6 h1 a9 bl cl O hc (a.all (okQ d false)) a.length _ _ ⟨0,rfl,oM,f1,f2,rfl,rfl,rfl⟩) ?_;rintro o e' H' ⟨rfl,⟨ho,g1,g2,hr⟩|⟨ho,g4,hr⟩⟩
 .have b0:(d:Int)+1-1=d:=oM;rcases b5:decide (b.length=0)with _|_
  .have a4:=dF b5;have W:decide ((b.length:Int)=0)=false:=decide_eq_false oM;have a8:b.length=1:=oM;obtain⟨x,nb,o,cs,own,el,hx,hd,rfl,c0,hg,b9,S,hR⟩:=h2.row (i:=0) oM;have a1:b=[x]:=by
    obtain⟨y,rfl⟩:=List.length_eq_one_iff.1 a8
    simpa using hx
   simp only[qSz,if_true,bF,Bool.not_false,Bool.not_true,Nat.zero_mul,Nat.add_zero]at S hg;have a7:=b7 k H' lo el x a6 hR;have I:b.all (okQ d true)=okQ d true x:=by rw[a1];simp
   rw[hr,I];exact J11 ho g1 g2 O J W hg S @wrap_small b0 a7 trivial
  .have a4:=dT b5;have W:decide ((b.length:Int)=0)=true:=decide_eq_true oM;have a1:b=[]:=List.length_eq_zero_iff.1 a4;have I:b.all (okQ d true)=true:=by rw[a1];rfl
   rw[hr,I];exact J5 ho g2 O J W trivial
 .rw[hr];exact J2 ho g4 trivial
theorem Fj(d:Nat)(a5:d<=64)(b6:iX 78 true d)(b7:iX 51 false d)(k:Nat)(H0:d8)(lo:Nat)(va wa:Option Addr)(ca a3:Nat)(a b:List Q)(a6:lo<=H0.next)(h1:QsR H0 lo k true (.slice va a.length ca) a)(h2:QsR H0 lo k false (.slice wa b.length a3) b)(a9:a.length<=1048576)(c3:b.length<=1048576)
  (bl:Nat) (cl:LV) (O:H0.get bl=cE cl 1) (op:Int) (a2:cl[0]?=some (.int .i64 op)) (hc:cl[4]?=some (.slice va a.length ca)) (J:cl[5]?=some (.slice wa b.length a3)) (h u:Int) (e:Env) (f1:e.get 1=iV ((d:Int)+1)) (f2:e.get 2=pT bl) (fL:e.get 7=iV h) (fM:e.get 8=iV u):
  w7 (LE prog t6 Hg e H0) (fun o e H2=>H2=H0/\o= .ret/\e.get 4= .bool (okN op 11 h u a.length b.length&&a.all (okQ d true)&&b.all (okQ d false))):=by
 have X:∀x y:Bool,F6 prog .neq 4 (.bool x) (.bool y)=some (.bool (!(x==y))):=fun x y=>eI 4 x y ty4.2.2.2.2.2.2.1;rw[Hg,okN];rcases b1:decide (h<=a.length)with _|_
 .have D:decide ((a.length:Int)<h)=true:=by have:=dF b1;exact decide_eq_true oM
  exact J5 f2 fL O hc D trivial
 have D:decide ((a.length:Int)<h)=false:=by have:=dT b1;exact decide_eq_false oM
 rcases b2:decide ((a.length:Int)<=u)with _|_
 .have E:decide (u<(a.length:Int))=true:=by have:=dF b2;exact decide_eq_true oM
  exact J7 f2 fL fM O hc D E trivial
 have E:decide (u<(a.length:Int))=false:=by have:=dT b2;exact decide_eq_false oM
 have e1:decide ((b.length:Int)=1)=decide (b.length=1):=decide_eq_decide.2 oM;rcases b3:(decide (op=11)==decide (b.length=1))with _|_
 .exact J12 f2 fL fM O a2 hc J D E X e1 b3 trivial
 rcases b4:decide (b.length<=1)with _|_
 .have U:decide ((1:Int)<b.length)=true:=by have:=dF b4;exact decide_eq_true oM
  exact J13 f2 fL fM O a2 hc J D E X e1 b3 U trivial
 have U:decide ((1:Int)<b.length)=false:=by have:=dT b4;exact decide_eq_false oM
 have b8:=dT b4;refine J13 f2 fL fM O a2 hc J D E X e1 b3 U ?_;refine j8 (F:=fun z=>w7 (u9 (inBlock 0 z) _) _) (Fh d a5 b6 k H0 lo va ca a a6 h1 a9 bl cl O hc (a.all (okQ d true)) a.length _ _ ⟨0,rfl,oM,f1,f2,rfl,rfl,rfl⟩) ?_;rintro o e' H' ⟨rfl,⟨ho,g1,g2,hr⟩|⟨ho,g4,hr⟩⟩
 .have b0:(d:Int)+1-1=d:=oM;rcases b5:decide (b.length=0)with _|_
  .have a4:=dF b5;have W:decide ((b.length:Int)=0)=false:=decide_eq_false oM;have a8:b.length=1:=oM;obtain⟨x,nb,o,cs,own,el,hx,hd,rfl,c0,hg,b9,S,hR⟩:=h2.row (i:=0) oM;have a1:b=[x]:=by
    obtain⟨y,rfl⟩:=List.length_eq_one_iff.1 a8
    simpa using hx
   simp only[qSz,if_true,bF,Bool.not_false,Bool.not_true,Nat.zero_mul,Nat.add_zero]at S hg;have a7:=b7 k H' lo el x a6 hR;have I:b.all (okQ d false)=okQ d false x:=by rw[a1];simp
   rw[hr,I];exact J11 ho g1 g2 O J W hg S @wrap_small b0 a7 trivial
  .have a4:=dT b5;have W:decide ((b.length:Int)=0)=true:=decide_eq_true oM;have a1:b=[]:=List.length_eq_zero_iff.1 a4;have I:b.all (okQ d false)=true:=by rw[a1];rfl
   rw[hr,I];exact J5 ho g2 O J W trivial
 .rw[hr];exact J2 ho g4 trivial
theorem xS(d:Int)(sp lc:ByteArray)(X:sp.size<=1048576)(W:lc.size<=1048576)(z:d8)(U:Nat)(cl:LV)(O:z.get U=cE cl 1)(S:ldC (some true) (some 2) 1 cl=some (.agg #[.string sp,.string lc]))(E hv:Bool)(e:Env)(f1:e.get 1=iV d)(D:e.get 2=pT U)(J:e.get 5= .bool E)(f6:e.get 6= .bool hv):
  (iH E sp lc=false/\∃e',LE prog t6 DW e z=some (.ret,e',z)/\e'.get 4= .bool false)\/(iH E sp lc=true/\∃e',LE prog t6 DW e z=LE prog t6 uk e' z/\e'.get 1=iV d/\e'.get 2=pT U/\e'.get 6= .bool hv):=by
 have h:∀x y:Bool,F6 prog .neq 4 (.bool x) (.bool y)=some (.bool (!(x==y))):=fun x y=>eI 4 x y ty4.2.2.2.2.2.2.1;rw[DW,iH];rcases I:(E== !(decide (sp=eB)&&decide (lc=eB)))with _|_
 .refine J6 D J O S h I ?_;exact .inl ⟨_,rfl,rfl⟩
 rcases E with _|_
 .refine J6 D J O S h I ?_;exact .inr ⟨_,rfl,f1,D,f6⟩
 have u:=ym z sp lc X W;rcases b2:qNamed sp lc with _|_
 .rw[b2]at u;refine J7 D J O S h I u ?_;exact .inl ⟨_,rfl,rfl⟩
 .rw[b2]at u;refine J7 D J O S h I u ?_;exact .inr ⟨_,rfl,f1,D,f6⟩
theorem BT(d op:Int)(vl:ByteArray)(hq:vl.size<=1048576)(u:d8)(D:Nat)(I:LV)(hb:u.get D=cE I 1)(J:I[0]?=some (.int .i64 op))(O:I[3]?=some (.string vl))(E:Bool)(e:Env)(W:e.get 1=iV d)(S:e.get 2=pT D)(X:e.get 6= .bool E):
  (uY E op vl=false/\∃e',LE prog t6 uk e u=some (.ret,e',u)/\e'.get 4= .bool false)\/(uY E op vl=true/\∃e',LE prog t6 uk e u=LE prog t6 DX e' u/\e'.get 1=iV d/\e'.get 2=pT D):=by
 rw[uk,uY];have U:=S5 u vl hq;have key:∀(t:Bool),aW vl=t->∀(y:Bool),decide (vl=eB)=y->∀(z:Bool),decide (op=7)=z->∀h:Bool,h=E->
   (((h||y)&& !(z&&y)&&t)=false/\∃e',LE prog t6 uk e u=some (.ret,e',u)/\e'.get 4= .bool false)\/(((h||y)&& !(z&&y)&&t)=true/\∃e',LE prog t6 uk e u=LE prog t6 DX e' u/\e'.get 1=iV d/\e'.get 2=pT D):=by
  intro t h1 y h2 z h3 h h4;subst h4;rw[h1]at U;rw[uk];cases h<;>cases y<;>cases z<;>cases t<;>(simp(maxSteps:=20000000) -dsimp (disch:=first|omega|(simp only[rH]<;>omega)|fail) only[↓ig,rQ,N3,sevalprocAttr,tyA,S,X,hb,J,O,h2,h3,U])<;>first|exact .inl ⟨_,rfl,rfl⟩|exact .inr ⟨_,rfl,W,S⟩
 exact key _ rfl _ rfl _ rfl _ rfl
theorem Rr(d:Nat)(X:d<=64)(a3:iX 51 false d)(a4:iX 78 true d):iX 51 false (d+1):=by
 intro k H lo cs q a6 hr;cases k with
 |zero=>exact hr.elim
 |succ k=>
 obtain⟨va,ca,wa,J,rfl,h1,h2,h3,h4⟩:=hr.path;have e1:((d+1:Nat):Int)=(d:Int)+1:=oM;rw[j7 Pq rfl _ sM,okQ,iG,e1];have S:decide ((d:Int)+1=0)=false:=decide_eq_false oM;obtain⟨U,u,-,O,hS⟩:=pushF H (bC [iV q.op,.slice va q.a.length ca,.slice wa q.b.length J] 1);have a5:H.next<=U.low:=by rw[u,l9];exact lR
 have hn:=hS.next;have a1:QsR U lo k false (.slice va q.a.length ca) q.a:=h1.mono (fun j hj=>hS.get j oM) lR;have a2:QsR U lo k true (.slice wa q.b.length J) q.b:=h2.mono (fun j hj=>hS.get j oM) lR;rcases b1:decide (1<=q.op)with _|_
 .have h:decide (q.op<1)=true:=by have:=dF b1;exact decide_eq_true oM
  exact J4 u.symm O S h trivial
 have h:decide (q.op<1)=false:=by have:=dT b1;exact decide_eq_false oM
 rcases b2:decide (q.op<=7)with _|_
 .have y:decide (7<q.op)=true:=by have:=dF b2;exact decide_eq_true oM
  exact J5 u.symm O S h y trivial
 have y:decide (7<q.op)=false:=by have:=dT b2;exact decide_eq_false oM
 have E:∀(e:Env),e.get 1=iV ((d:Int)+1)->e.get 2=pT H.next->e.get 5=iV (lst false q.op)->e.get 6=iV (mst false q.op)->
   u5 prog [.tmp 4] H (LE prog t6 GZ e U)=some (.bool (okN q.op 7 (lst false q.op) (mst false q.op) q.a.length q.b.length&&q.a.all (okQ d false)&&q.b.all (okQ d !false)),none):=by
  intro e f1 f2 f5 f6;refine j8 (F:=fun z=>u5 _ _ _ z=_) (Fi d X a3 a4 k U lo va wa ca J q.a q.b oM a1 a2 h3 h4 H.next _ O q.op rfl rfl rfl _ _ e f1 f2 f5 f6) ?_;rintro o e' H' ⟨hH,ho,g4⟩;exact J3 ho hH g4 trivial
 by_cases o4:q.op=4
 .have D:lst false q.op=2/\mst false q.op=64:=by rw[o4];decide
  have W:decide (q.op=4)=true:=decide_eq_true o4;have I:decide (q.op=6)=false:=decide_eq_false oM;refine J7 u.symm O S h y W I ?_;exact E _ rfl rfl (by rw[D.1];rfl) (by rw[D.2];rfl)
 have W:decide (q.op=4)=false:=decide_eq_false o4;by_cases o5:q.op=5
 .have D:lst false q.op=2/\mst false q.op=64:=by rw[o5];decide
  have c5:decide (q.op=5)=true:=decide_eq_true o5;have I:decide (q.op=6)=false:=decide_eq_false oM;refine J8 u.symm O S h y W c5 I ?_;exact E _ rfl rfl (by rw[D.1];rfl) (by rw[D.2];rfl)
 have c5:decide (q.op=5)=false:=decide_eq_false o5;by_cases o6:q.op=6
 .have D:lst false q.op=1/\mst false q.op=1:=by rw[o6];decide
  have I:decide (q.op=6)=true:=decide_eq_true o6;refine J8 u.symm O S h y W c5 I ?_;exact E _ rfl rfl (by rw[D.1];rfl) (by rw[D.2];rfl)
 have I:decide (q.op=6)=false:=decide_eq_false o6;have D:lst false q.op=0/\mst false q.op=0:=by simp [lst,mst,o4,o5,o6]
 refine J8 u.symm O S h y W c5 I ?_;exact E _ rfl rfl (by rw[D.1];rfl) (by rw[D.2];rfl)
theorem Rs(d:Nat)(a3:d<=64)(a6:iX 78 true d)(a7:iX 51 false d):iX 78 true (d+1):=by
 intro k H lo cs q b4 hr;cases k with
 |zero=>exact hr.elim
 |succ k=>
 obtain⟨va,ca,wa,a1,rfl,h1,h2,h3,h4,z1,z2,z3⟩:=hr.filter;have e1:((d+1:Nat):Int)=(d:Int)+1:=oM;rw[j7 PB rfl _ sM,okQ,iG,e1,if_pos rfl];have b0:decide ((d:Int)+1=0)=false:=decide_eq_false oM;obtain⟨I,S,-,E,hS⟩:=pushF H (bC [iV q.op,.string q.sp,.string q.lc,.string q.vl,.slice va q.a.length ca,.slice wa q.b.length a1] 1);have b3:H.next<=I.low:=by rw[S,l9];exact lR
 have hn:=hS.next;have a4:QsR I lo k true (.slice va q.a.length ca) q.a:=h1.mono (fun j hj=>hS.get j oM) lR;have a5:QsR I lo k false (.slice wa q.b.length a1) q.b:=h2.mono (fun j hj=>hS.get j oM) lR;rcases b1:decide (1<=q.op)with _|_
 .have J:decide (q.op<1)=true:=by have:=dF b1;exact decide_eq_true oM
  exact J4 S.symm E b0 J trivial
 have J:decide (q.op<1)=false:=by have:=dT b1;exact decide_eq_false oM
 rcases b2:decide (q.op<=11)with _|_
 .have X:decide (11<q.op)=true:=by have:=dF b2;exact decide_eq_true oM
  exact J5 S.symm E b0 J X trivial
 have X:decide (11<q.op)=false:=by have:=dT b2;exact decide_eq_false oM
 have O:∀(e:Env),e.get 1=iV ((d:Int)+1)->e.get 2=pT H.next->e.get 7=iV (lst true q.op)->e.get 8=iV (mst true q.op)->
   u5 prog [.tmp 4] H (LE prog t6 Hg e I)=some (.bool (okN q.op 11 (lst true q.op) (mst true q.op) q.a.length q.b.length&&q.a.all (okQ d true)&&q.b.all (okQ d !true)),none):=by
  intro e W u f5 f6;refine j8 (F:=fun z=>u5 _ _ _ z=_) (Fj d a3 a6 a7 k I lo va wa ca a1 q.a q.b oM a4 a5 h3 h4 H.next _ E q.op rfl rfl rfl _ _ e W u f5 f6) ?_;rintro o e' H' ⟨hH,ho,g4⟩;exact J3 ho hH g4 trivial
 have a8:∀(e:Env),e.get 1=iV ((d:Int)+1)->e.get 2=pT H.next->
   u5 prog [.tmp 4] H (LE prog t6 DX e I)=some (.bool (okN q.op 11 (lst true q.op) (mst true q.op) q.a.length q.b.length&&q.a.all (okQ d true)&&q.b.all (okQ d !true)),none):=by
  intro e W u;rw[DX];by_cases o8:q.op=8
  .have D:lst true q.op=1/\mst true q.op=1:=by rw[o8];decide
   have c8:decide (q.op=8)=true:=decide_eq_true o8;have c9:decide (q.op=9)=false:=decide_eq_false oM;have y:decide (q.op=10)=false:=decide_eq_false oM;refine J5 u E c8 c9 y ?_;exact O _ W u (by rw[D.1];rfl) (by rw[D.2];rfl)
  have c8:decide (q.op=8)=false:=decide_eq_false o8;by_cases o9:q.op=9
  .have D:lst true q.op=2/\mst true q.op=64:=by rw[o9];decide
   have c9:decide (q.op=9)=true:=decide_eq_true o9;refine J4 u E c8 c9 ?_;exact O _ W u (by rw[D.1];rfl) (by rw[D.2];rfl)
  have c9:decide (q.op=9)=false:=decide_eq_false o9;by_cases U:q.op=10
  .have D:lst true q.op=2/\mst true q.op=64:=by rw[U];decide
   have y:decide (q.op=10)=true:=decide_eq_true U;refine J5 u E c8 c9 y ?_;exact O _ W u (by rw[D.1];rfl) (by rw[D.2];rfl)
  have y:decide (q.op=10)=false:=decide_eq_false U;have D:lst true q.op=0/\mst true q.op=0:=by simp [lst,mst,o8,o9,U]
  refine J5 u E c8 c9 y ?_;exact O _ W u (by rw[D.1];rfl) (by rw[D.2];rfl)
 have a9:∀(e:Env),e.get 1=iV ((d:Int)+1)->e.get 2=pT H.next->e.get 5= .bool (xn q.op)->e.get 6= .bool (Ex q.op)->
   u5 prog [.tmp 4] H (LE prog t6 DW e I)=some (.bool (iH (xn q.op) q.sp q.lc&&uY (Ex q.op) q.op q.vl&&okN q.op 11 (lst true q.op) (mst true q.op) q.a.length q.b.length&&q.a.all (okQ d true)&&q.b.all (okQ d !true)),none):=by
  intro e W u f5 f6;rcases xS _ q.sp q.lc z1 z2 I H.next _ E rfl _ _ e W u f5 f6 with⟨hA,e',hE,g4⟩|⟨hA,e',hE,g1,g2,g6⟩
  .rw[hE,hA];exact J1 g4 trivial
  rw[hE,hA];rcases BT _ q.op q.vl z3 I H.next _ E rfl rfl _ e' g1 g2 g6 with⟨hB,e2,a2,k4⟩|⟨hB,e2,a2,k1,k2⟩
  .rw[a2,hB];exact J1 k4 trivial
  rw[a2,hB,a8 e2 k1 k2];simp only[Bool.true_and]
 have hN:∀a b:Bool,decide (4<=q.op)=a->decide (q.op<=6)=b->xn q.op=(a&&b):=by intro a b h h';rw[xn,h,h']
 have hV:∀a b:Bool,decide (q.op=6)=a->decide (q.op=7)=b->Ex q.op=(a||b):=by intro a b h h';rw[Ex,h,h']
 rcases h4:decide (4<=q.op)with _|_<;>rcases h6:decide (q.op<=6)with _|_<;>rcases k6:decide (q.op=6)with _|_<;>rcases k7:decide (q.op=7)with _|_<;>(simp(maxSteps:=20000000) -dsimp (disch:=first|omega|(simp only[rH]<;>omega)|fail) only[↓ig,rQ,N3,sevalprocAttr,tyA,<-S,E,b0,J,X,h4,h6,k6,k7])<;>exact a9 _ rfl rfl (by rw[hN _ _ h4 h6];rfl) (by rw[hV _ _ k6 k7];rfl)
theorem Mb:∀d,d<=64->iX 51 false d/\iX 78 true d:=by
 intro d;induction d with
 |zero=>
  intro _
  constructor
  .intro k H lo cs q z u;cases k with
   |zero=>exact u.elim
   |succ k=>
   obtain⟨U,D,W,y,rfl,E,I,J,O⟩:=u.path;rw[j7 Pq rfl _ sM,okQ];exact J1 @Int.natCast_zero trivial
  .intro k H lo cs q z u;cases k with
   |zero=>exact u.elim
   |succ k=>
   obtain⟨U,D,W,y,rfl,E,I,J,O,X,z2,z3⟩:=u.filter;rw[j7 PB rfl _ sM,okQ];exact J1 @Int.natCast_zero trivial
 |succ d S=>
  intro h;obtain⟨a,b⟩:=S oM;exact⟨Rr d oM a b,Rs d oM b a⟩
def gl(q:Q):Bool:=decide (szQ q 64<=64)&&okQ 16 false q
theorem yn(H:d8)(lo k:Nat)(cs:LV)(q:Q)(a2:lo<=H.next)(J:QR H lo k false cs q):CL prog t6 29 [.agg cs.toArray] H=some (.bool (gl q),none):=by
 cases k with
 |zero=>exact J.elim
 |succ k=>
 have O:=J;obtain⟨S,E,U,u,rfl,h1,h2,h3,h4⟩:=J.path;obtain⟨D,y,-,X,W⟩:=pushF H (bC [iV q.op,.slice S q.a.length E,.slice U q.b.length u] 1);have a1:H.next<=D.low:=by rw[y,l9];exact lR
 have hn:=W.next;have h:ldC (some true) (some 3) 0 [iV q.op,.slice S q.a.length E,.slice U q.b.length u]=some (.agg [iV q.op,.slice S q.a.length E,.slice U q.b.length u].toArray):=rfl;have z:QR D lo (k+1) false _ q:=O.mono (fun j hj=>W.get j oM) lR;have c1:=Fy D lo (k+1) _ q oM z;have c2:=(Mb 16 oM).1 (k+1) D lo _ q oM z;have I:((16:Nat):Int)=16:=rfl;rw[I]at c2;rw[j7 QH rfl _ sM,gl];rcases b:decide (szQ q 64<=64)with _|_
 .exact J5 y.symm X h c1 b trivial
 .exact J6 y.symm X h c1 c2 b trivial
mutual
def M6:Q->Q->Bool
 | .mk o s c v a b,y=>decide (o=y.op)&&(decide (s=y.sp)&&decide (c=y.lc))&&decide (v=y.vl)&&decide (a.length=y.a.length)&&decide (b.length=y.b.length)&&N1 a y.a&&N1 b y.b
def N1:List Q->List Q->Bool
 |[],_=>true
 |x::l,m=>(match m with|[]=>true|y::m=>M6 x y&&N1 l m)
end
theorem gB(x y:Q):M6 x y=(decide (x.op=y.op)&&(decide (x.sp=y.sp)&&decide (x.lc=y.lc))&&decide (x.vl=y.vl)&&decide (x.a.length=y.a.length)&&decide (x.b.length=y.b.length)&&N1 x.a y.a&&N1 x.b y.b):=by cases x;rw[M6];rfl
theorem Y8(x y:Q)(l m:List Q):N1 (x::l) (y::m)=(M6 x y&&N1 l m):=by rw[N1]
mutual
theorem ky:∀(x y:Q),M6 x y=true↔x=y
 | .mk o s c v a b,.mk o' s' c' v' a' b'=>by
  rw[gB];simp only[Bool.and_eq_true,decide_eq_true_eq];simp only[Q.op,Q.sp,Q.lc,Q.vl,Q.a,Q.b,Q.mk.injEq]
  constructor
  .rintro⟨⟨⟨⟨⟨⟨h1,h2,h3⟩,h4⟩,h5⟩,h6⟩,h7⟩,h8⟩;exact⟨h1,h2,h3,h4,(eo a a' h5).1 h7,(eo b b' h6).1 h8⟩
  .rintro⟨rfl,rfl,rfl,rfl,rfl,rfl⟩;exact⟨⟨⟨⟨⟨⟨rfl,rfl,rfl⟩,rfl⟩,rfl⟩,rfl⟩,(eo a a rfl).2 rfl⟩,(eo b b rfl).2 rfl⟩
theorem eo:∀(l m:List Q),l.length=m.length->(N1 l m=true↔l=m)
 |[],m,h=>by
  have:m=[]:=List.length_eq_zero_iff.1 (by simpa using h.symm);subst this;simp [N1]
 |x::l,[],h=>by simp at h
 |x::l,y::m,h=>by
  rw[Y8,Bool.and_eq_true,List.cons.injEq,ky x y,eo l m (by simpa using h)]
end
def P4(fn:Nat)(f:Bool)(k:Nat):Prop:=∀(H:d8)(lo:Nat)(c1 c2:LV)(x y:Q),lo<=H.next->QR H lo k f c1 x->QR H lo k f c2 y->CL prog t6 fn [.agg c1.toArray,.agg c2.toArray] H=some (.bool (M6 x y),none)
theorem Da(k:Nat)(ih:P4 92 false k)(H0:d8)(lo:Nat)(va vb:Option Addr)(ca cb:Nat)(l m:List Q)(b3:l.length=m.length)(a4:lo<=H0.next)(hv:QsR H0 lo k false (.slice va l.length ca) l)(hw:QsR H0 lo k false (.slice vb m.length cb) m)(hn:l.length<=1048576)(b1 O:Nat)(cl cm:LV)(E:H0.get b1=cE cl 1)(U:H0.get O=cE cm 1)(I:cl[1]?=some (.slice va l.length ca))(W:cm[1]?=some (.slice vb m.length cb))(r:Bool):
  ∀kk e H2,(∃i:Nat,kk=l.length-i/\i<=l.length/\e.get 2=pT b1/\e.get 3=pT O/\e.get 5=iV i/\H2=H0/\N1 (l.drop i) (m.drop i)=r)->
  w7 (LE prog t6 (.loop Ou) e H2) (fun o e H2=>H2=H0/\((o= .exit 0/\e.get 2=pT b1/\e.get 3=pT O/\r=true)\/(o= .ret/\e.get 4= .bool false/\r=false))):=by
 refine i8 _ _ ?_;rintro kk e H2 ⟨i,hk,hi,S,X,f6,hH,D⟩;subst hH;rcases b:decide ((i:Int)<l.length)with _|_
 .have a2:=dF b;have:l.drop i=[]:=dN oM;rw[this,N1]at D;refine J5 S f6 E I b ?_;exact i9 ⟨rfl,.inl ⟨rfl,S,X,D.symm⟩⟩
 have a2:=dT b;obtain⟨x,nb,o,cs,own,el,hx,hd,rfl,b4,hg,b0,u,hr⟩:=hv.row (i:=i) oM;obtain⟨y,b6,o',cs',a9,a1,b5,a3,rfl,a7,J,a6,h,a5⟩:=hw.row (i:=i) oM;have nt:(i:Int).toNat=i:=tN i;have a8:(i:Int)<m.length:=oM;rw[hd,a3,Y8]at D;simp only[qSz,if_true,bF]at u hg h J;have z:=ih H2 lo el a1 x y a4 hr a5;rcases O:M6 x y with _|_
 .rw[O]at z D;refine J14 S X f6 E U I W b hg J nt u h z ?_;exact z9 ⟨rfl,.inr ⟨rfl,rfl,by rw[<-D];rfl⟩⟩
 .rw[O]at z D;refine J15 S X f6 E U I W b hg J nt u h @wrap_small z ?_;exact i4 (kk-1) oM ⟨i+1,oM,oM,S,X,rfl,rfl,D⟩
theorem Db(k:Nat)(ih:P4 115 true k)(H0:d8)(lo:Nat)(va vb:Option Addr)(ca cb:Nat)(l m:List Q)(b3:l.length=m.length)(a4:lo<=H0.next)(hv:QsR H0 lo k true (.slice va l.length ca) l)(hw:QsR H0 lo k true (.slice vb m.length cb) m)(hn:l.length<=1048576)(b1 O:Nat)(cl cm:LV)(E:H0.get b1=cE cl 1)(U:H0.get O=cE cm 1)(I:cl[2]?=some (.slice va l.length ca))(W:cm[2]?=some (.slice vb m.length cb))(r:Bool):
  ∀kk e H2,(∃i:Nat,kk=l.length-i/\i<=l.length/\e.get 2=pT b1/\e.get 3=pT O/\e.get 6=iV i/\H2=H0/\N1 (l.drop i) (m.drop i)=r)->
  w7 (LE prog t6 (.loop Ov) e H2) (fun o e H2=>H2=H0/\((o= .exit 2/\e.get 2=pT b1/\e.get 3=pT O/\r=true)\/(o= .ret/\e.get 4= .bool false/\r=false))):=by
 refine i8 _ _ ?_;rintro kk e H2 ⟨i,hk,hi,S,X,f6,hH,D⟩;subst hH;rcases b:decide ((i:Int)<l.length)with _|_
 .have a2:=dF b;have:l.drop i=[]:=dN oM;rw[this,N1]at D;refine J5 S f6 E I b ?_;exact i9 ⟨rfl,.inl ⟨rfl,S,X,D.symm⟩⟩
 have a2:=dT b;obtain⟨x,nb,o,cs,own,el,hx,hd,rfl,b4,hg,b0,u,hr⟩:=hv.row (i:=i) oM;obtain⟨y,b6,o',cs',a9,a1,b5,a3,rfl,a7,J,a6,h,a5⟩:=hw.row (i:=i) oM;have nt:(i:Int).toNat=i:=tN i;have a8:(i:Int)<m.length:=oM;rw[hd,a3,Y8]at D;simp only[qSz,if_true,bF]at u hg h J;have z:=ih H2 lo el a1 x y a4 hr a5;rcases O:M6 x y with _|_
 .rw[O]at z D;refine J14 S X f6 E U I W b hg J nt u h z ?_;exact z9 ⟨rfl,.inr ⟨rfl,rfl,by rw[<-D];rfl⟩⟩
 .rw[O]at z D;refine J15 S X f6 E U I W b hg J nt u h @wrap_small z ?_;exact i4 (kk-1) oM ⟨i+1,oM,oM,S,X,rfl,rfl,D⟩
theorem Ag(k:Nat)(ih:P4 115 true k)(H0:d8)(lo:Nat)(va vb:Option Addr)(ca cb:Nat)(l m:List Q)(b3:l.length=m.length)(a4:lo<=H0.next)(hv:QsR H0 lo k true (.slice va l.length ca) l)(hw:QsR H0 lo k true (.slice vb m.length cb) m)(hn:l.length<=1048576)(b1 O:Nat)(cl cm:LV)(E:H0.get b1=cE cl 1)(U:H0.get O=cE cm 1)(I:cl[4]?=some (.slice va l.length ca))(W:cm[4]?=some (.slice vb m.length cb))(r:Bool):
  ∀kk e H2,(∃i:Nat,kk=l.length-i/\i<=l.length/\e.get 2=pT b1/\e.get 3=pT O/\e.get 5=iV i/\H2=H0/\N1 (l.drop i) (m.drop i)=r)->
  w7 (LE prog t6 (.loop Kx) e H2) (fun o e H2=>H2=H0/\((o= .exit 0/\e.get 2=pT b1/\e.get 3=pT O/\r=true)\/(o= .ret/\e.get 4= .bool false/\r=false))):=by
 refine i8 _ _ ?_;rintro kk e H2 ⟨i,hk,hi,S,X,f6,hH,D⟩;subst hH;rcases b:decide ((i:Int)<l.length)with _|_
 .have a2:=dF b;have:l.drop i=[]:=dN oM;rw[this,N1]at D;refine J5 S f6 E I b ?_;exact i9 ⟨rfl,.inl ⟨rfl,S,X,D.symm⟩⟩
 have a2:=dT b;obtain⟨x,nb,o,cs,own,el,hx,hd,rfl,b4,hg,b0,u,hr⟩:=hv.row (i:=i) oM;obtain⟨y,b6,o',cs',a9,a1,b5,a3,rfl,a7,J,a6,h,a5⟩:=hw.row (i:=i) oM;have nt:(i:Int).toNat=i:=tN i;have a8:(i:Int)<m.length:=oM;rw[hd,a3,Y8]at D;simp only[qSz,if_true,bF]at u hg h J;have z:=ih H2 lo el a1 x y a4 hr a5;rcases O:M6 x y with _|_
 .rw[O]at z D;refine J14 S X f6 E U I W b hg J nt u h z ?_;exact z9 ⟨rfl,.inr ⟨rfl,rfl,by rw[<-D];rfl⟩⟩
 .rw[O]at z D;refine J15 S X f6 E U I W b hg J nt u h @wrap_small z ?_;exact i4 (kk-1) oM ⟨i+1,oM,oM,S,X,rfl,rfl,D⟩
theorem Ah(k:Nat)(ih:P4 92 false k)(H0:d8)(lo:Nat)(va vb:Option Addr)(ca cb:Nat)(l m:List Q)(b3:l.length=m.length)(a4:lo<=H0.next)(hv:QsR H0 lo k false (.slice va l.length ca) l)(hw:QsR H0 lo k false (.slice vb m.length cb) m)(hn:l.length<=1048576)(b1 O:Nat)(cl cm:LV)(E:H0.get b1=cE cl 1)(U:H0.get O=cE cm 1)(I:cl[5]?=some (.slice va l.length ca))(W:cm[5]?=some (.slice vb m.length cb))(r:Bool):
  ∀kk e H2,(∃i:Nat,kk=l.length-i/\i<=l.length/\e.get 2=pT b1/\e.get 3=pT O/\e.get 6=iV i/\H2=H0/\N1 (l.drop i) (m.drop i)=r)->
  w7 (LE prog t6 (.loop Ky) e H2) (fun o e H2=>H2=H0/\((o= .exit 2/\e.get 2=pT b1/\e.get 3=pT O/\r=true)\/(o= .ret/\e.get 4= .bool false/\r=false))):=by
 refine i8 _ _ ?_;rintro kk e H2 ⟨i,hk,hi,S,X,f6,hH,D⟩;subst hH;rcases b:decide ((i:Int)<l.length)with _|_
 .have a2:=dF b;have:l.drop i=[]:=dN oM;rw[this,N1]at D;refine J5 S f6 E I b ?_;exact i9 ⟨rfl,.inl ⟨rfl,S,X,D.symm⟩⟩
 have a2:=dT b;obtain⟨x,nb,o,cs,own,el,hx,hd,rfl,b4,hg,b0,u,hr⟩:=hv.row (i:=i) oM;obtain⟨y,b6,o',cs',a9,a1,b5,a3,rfl,a7,J,a6,h,a5⟩:=hw.row (i:=i) oM;have nt:(i:Int).toNat=i:=tN i;have a8:(i:Int)<m.length:=oM;rw[hd,a3,Y8]at D;simp only[qSz,if_true,bF]at u hg h J;have z:=ih H2 lo el a1 x y a4 hr a5;rcases O:M6 x y with _|_
 .rw[O]at z D;refine J14 S X f6 E U I W b hg J nt u h z ?_;exact z9 ⟨rfl,.inr ⟨rfl,rfl,by rw[<-D];rfl⟩⟩
 .rw[O]at z D;refine J15 S X f6 E U I W b hg J nt u h @wrap_small z ?_;exact i4 (kk-1) oM ⟨i+1,oM,oM,S,X,rfl,rfl,D⟩
theorem My(k:Nat)(a3:P4 92 false k)(a4:P4 115 true k):P4 92 false (k+1):=by
 intro H lo c1 c2 x y a8 hx hy;have sx:=fun h:false=false=>hx.plain h;have sy:=fun h:false=false=>hy.plain h;obtain⟨va,ca,wa,J,rfl,h1,h2,h3,h4⟩:=hx.path;obtain⟨vb,cb,wb,O,rfl,k1,k2,k3,k4⟩:=hy.path;obtain⟨I,u⟩:=eY ((d8.push ⟨H.bs,H.next⟩ (bC [iV x.op,.slice va x.a.length ca,.slice wa x.b.length J] 1)).push (bC [iV y.op,.slice vb y.a.length cb,.slice wb y.b.length O] 1));have X:i6 H.next H I:=by rw[u];exact(i6.first H _).trans (i6.push (by rw[i5];show H.next<=H.next+1;omega))
 have D:I.get H.next=cE [iV x.op,.slice va x.a.length ca,.slice wa x.b.length J] 1:=by rw[u,i7 (by rw[i5];show H.next<H.next+1;omega)];exact j9
 have E:I.get (H.next+1)=cE [iV y.op,.slice vb y.a.length cb,.slice wb y.b.length O] 1:=by rw[u];exact y7 (by rw[i5];show H.next+1<=H.next+1/\H.next+1<=H.next+1;omega)
 have a7:H.next<=I.low:=by rw[u,l9,l9];exact lR
 have hn:=X.next;have a1:=h1.mono (H':=I) (fun j hj=>X.get j oM) lR;have a2:=h2.mono (H':=I) (fun j hj=>X.get j oM) lR;have a5:=k1.mono (H':=I) (fun j hj=>X.get j oM) lR;have a6:=k2.mono (H':=I) (fun j hj=>X.get j oM) lR;rw[j7 Lc rfl _ sM,gB];rcases b1:decide (x.op=y.op)with _|_
 .exact J4 u.symm D E b1 trivial
 obtain⟨s1,s2,s3⟩:=sx rfl;obtain⟨u1,u2,u3⟩:=sy rfl;have b2:(decide (x.sp=y.sp)&&decide (x.lc=y.lc))=true:=by rw[s1,s2,u1,u2];rfl
 have b3:decide (x.vl=y.vl)=true:=by rw[s3,u3];rfl
 rw[b2,b3];have el:decide ((x.a.length:Int)=y.a.length)=decide (x.a.length=y.a.length):=decide_eq_decide.2 oM;rcases b4:decide (x.a.length=y.a.length)with _|_
 .exact J6 u.symm D E b1 el b4 trivial
 have W:decide ((x.b.length:Int)=y.b.length)=decide (x.b.length=y.b.length):=decide_eq_decide.2 oM;rcases b5:decide (x.b.length=y.b.length)with _|_
 .exact J8 u.symm D E b1 el b4 W b5 trivial
 refine J8 u.symm D E b1 el b4 W b5 ?_;refine j8 (F:=fun z=>u5 _ _ _ (u9 (inBlock 0 z) _)=_) (Da k a3 I lo va vb ca cb x.a y.a (dT b4) oM a1 a5 h3 H.next (H.next+1) _ _ D E rfl rfl (N1 x.a y.a) x.a.length _ _ ⟨0,rfl,oM,rfl,rfl,rfl,rfl,rfl⟩) ?_;rintro o e' H' ⟨rfl,⟨S,g2,g3,U⟩|⟨S,g4,U⟩⟩
 .refine J2 S U ?_;refine j8 (F:=fun z=>u5 _ _ _ (u9 (inBlock 2 z) _)=_) (Db k a4 H' lo wa wb J O x.b y.b (dT b5) oM a2 a6 h4 H.next (H.next+1) _ _ D E rfl rfl (N1 x.b y.b) x.b.length _ _ ⟨0,rfl,oM,g2,g3,rfl,rfl,rfl⟩) ?_;rintro o e' H2 ⟨rfl,⟨S,g2,g3,U⟩|⟨S,g4,U⟩⟩
  .exact J2 S U trivial
  .exact J3 S g4 U trivial
 .exact J3 S g4 U trivial
theorem IJ(k:Nat)(a4:P4 115 true k)(a5:P4 92 false k):P4 115 true (k+1):=by
 intro H lo c1 c2 x y a9 hx hy;have sx:=fun h:true=false=>hx.plain h;have sy:=fun h:true=false=>hy.plain h;obtain⟨va,ca,wa,J,rfl,h1,h2,h3,h4,_⟩:=hx.filter;obtain⟨vb,cb,wb,O,rfl,k1,k2,k3,k4,_⟩:=hy.filter;obtain⟨I,u⟩:=eY ((d8.push ⟨H.bs,H.next⟩ (bC [iV x.op,.string x.sp,.string x.lc,.string x.vl,.slice va x.a.length ca,.slice wa x.b.length J] 1)).push (bC [iV y.op,.string y.sp,.string y.lc,.string y.vl,.slice vb y.a.length cb,.slice wb y.b.length O] 1));have hS:i6 H.next H I:=by rw[u];exact(i6.first H _).trans (i6.push (by rw[i5];show H.next<=H.next+1;omega))
 have D:I.get H.next=cE [iV x.op,.string x.sp,.string x.lc,.string x.vl,.slice va x.a.length ca,.slice wa x.b.length J] 1:=by rw[u,i7 (by rw[i5];show H.next<H.next+1;omega)];exact j9
 have E:I.get (H.next+1)=cE [iV y.op,.string y.sp,.string y.lc,.string y.vl,.slice vb y.a.length cb,.slice wb y.b.length O] 1:=by rw[u];exact y7 (by rw[i5];show H.next+1<=H.next+1/\H.next+1<=H.next+1;omega)
 have a8:H.next<=I.low:=by rw[u,l9,l9];exact lR
 have hn:=hS.next;have a2:=h1.mono (H':=I) (fun j hj=>hS.get j oM) lR;have a3:=h2.mono (H':=I) (fun j hj=>hS.get j oM) lR;have a6:=k1.mono (H':=I) (fun j hj=>hS.get j oM) lR;have a7:=k2.mono (H':=I) (fun j hj=>hS.get j oM) lR;rw[j7 Ee rfl _ sM,gB];rcases W:decide (x.op=y.op)with _|_
 .exact J4 u.symm D E W trivial
 rcases X:(decide (x.sp=y.sp)&&decide (x.lc=y.lc))with _|_
 .exact J5 u.symm D E W X trivial
 rcases b3:decide (x.vl=y.vl)with _|_
 .exact J6 u.symm D E W X b3 trivial
 have el:decide ((x.a.length:Int)=y.a.length)=decide (x.a.length=y.a.length):=decide_eq_decide.2 oM;rcases b4:decide (x.a.length=y.a.length)with _|_
 .exact J8 u.symm D E W X b3 el b4 trivial
 have a1:decide ((x.b.length:Int)=y.b.length)=decide (x.b.length=y.b.length):=decide_eq_decide.2 oM;rcases b5:decide (x.b.length=y.b.length)with _|_
 .exact J10 u.symm D E W X b3 el b4 a1 b5 trivial
 refine J10 u.symm D E W X b3 el b4 a1 b5 ?_;refine j8 (F:=fun z=>u5 _ _ _ (u9 (inBlock 0 z) _)=_) (Ag k a4 I lo va vb ca cb x.a y.a (dT b4) oM a2 a6 h3 H.next (H.next+1) _ _ D E rfl rfl (N1 x.a y.a) x.a.length _ _ ⟨0,rfl,oM,rfl,rfl,rfl,rfl,rfl⟩) ?_;rintro o e' H' ⟨rfl,⟨S,g2,g3,U⟩|⟨S,g4,U⟩⟩
 .refine J2 S U ?_;refine j8 (F:=fun z=>u5 _ _ _ (u9 (inBlock 2 z) _)=_) (Ah k a5 H' lo wa wb J O x.b y.b (dT b5) oM a3 a7 h4 H.next (H.next+1) _ _ D E rfl rfl (N1 x.b y.b) x.b.length _ _ ⟨0,rfl,oM,g2,g3,rfl,rfl,rfl⟩) ?_;rintro o e' H2 ⟨rfl,⟨S,g2,g3,U⟩|⟨S,g4,U⟩⟩
  .exact J2 S U trivial
  .exact J3 S g4 U trivial
 .exact J3 S g4 U trivial
theorem FH:∀k,P4 92 false k/\P4 115 true k:=by
 intro k;induction k with
 |zero=>exact⟨fun H lo c1 c2 x y u z D=>z.elim,fun H lo c1 c2 x y u z D=>z.elim⟩
 |succ k h=>exact⟨My k h.1 h.2,IJ k h.2 h.1⟩
end Go.Proofs.YtofbhlhamfkljaaGreatDoor.Ve
namespace Go.Proofs.YtofbhlhamfkljaaGreatDoor.Ve
open Go Go.RowKit
def u6(H:d8)(lo sz:Nat){α:Type}(R:LV->α->Prop)(w:Value)(l:List α):Prop:=∃cs,cg H lo sz w l.length cs/\D2 sz R cs l
section
variable{α:Type}{R R':List Value->α->Prop}{H H':d8}{lo lo' sz:Nat}{w:Value}{l l2:List α}
theorem D2.nil:D2 sz R [] ([]:List α):=⟨by simp,fun i a h=>by simp at h⟩
theorem D2.one{cs:LV}{a:α}(h:cs.length=sz)(y:R cs a):D2 sz R cs [a]:=by
 refine⟨by simp [h],fun i b u=>?_⟩;cases i with
 |zero=>
  have:a=b:=by simpa using u
  subst this;rw[Nat.zero_mul,List.drop_zero,<-h,List.take_length];exact y
 |succ i=>simp at u
theorem u6.nil:u6 H lo sz R (.slice none 0 0) ([]:List α):=⟨[],.inl ⟨rfl,rfl,rfl⟩,D2.nil⟩
theorem u6.slice(h:u6 H lo sz R w l):∃a c,w= .slice a l.length c:=by obtain⟨cs,u,y⟩:=h;exact u.slice
theorem u6.mono(h:u6 H lo sz R w l)(D:lo'<=lo)(z:∀j,j<H.next->H'.get j=H.get j):u6 H' lo' sz R w l:=by obtain⟨cs,u,y⟩:=h;exact⟨cs,u.mono D z,y⟩
theorem u6.keep(h:u6 H lo sz R w l)(u:i6 H.next H H'):u6 H' lo sz R w l:=h.mono lR fun j y=>u.get j y
theorem u6.weaken(h:u6 H lo sz R w l)(u:lo'<=lo):u6 H lo' sz R w l:=h.mono u fun _ _=>rfl
theorem u6.imp(h:u6 H lo sz R w l)(z:∀cs a,R cs a->R' cs a):u6 H lo sz R' w l:=by obtain⟨cs,u,y⟩:=h;exact⟨cs,u,y.mono z⟩
theorem u6.low(h:u6 H lo sz R w l)(n:Nat):u6 ⟨H.bs,n⟩ lo sz R w l:=h.mono lR fun _ _=>rfl
theorem u6.sl(h:u6 H lo sz R w l):SlI H H.next sz R w l:=by obtain⟨cs,u,y⟩:=h;exact u.sl y
theorem u6.na(h:u6 H lo sz R w l)(z:L9 w=true)(H0:d8)(y:Nat):u6 H0 y sz R w l:=by
 obtain⟨cs,u,D⟩:=h;rcases u with u|⟨b,c,E,_⟩
 .exact⟨cs,.inl u,D⟩
 .rw[E]at z;cases z
theorem u6.fresh{cs:LV}{n c:Nat}(y:n=l.length)(h:lo<=H.next)(u:D2 sz R cs l):u6 (H.push (.cells cs true sz)) lo sz R (.slice (some ⟨H.next,0,none⟩) n c) l:=by
 subst y;exact⟨cs,.inr ⟨H.next,c,rfl,j9,h,u.1⟩,u⟩
theorem u6.at_(h:u6 H lo sz R w l){i:Nat}{a:α}(y:l[i]?=some a):∃b c cs,w= .slice (some ⟨b,0,none⟩) l.length c/\lo<=b/\b<H.next/\H.get b=some (.cells cs true sz)/\i*sz+sz<=cs.length/\R ((cs.drop (i*sz)).take sz) a:=by
 obtain⟨cs,z,D⟩:=h;have J:i<l.length:=(gS y).1;rcases z with⟨_,O,_⟩|⟨b,c,E,u,I,S⟩
 .omega
 .refine⟨b,c,cs,E,I,u7 u,u,?_,D.2 i a y⟩;have:(i+1)*sz<=l.length*sz:=Nat.mul_le_mul_right _ J;rw[Nat.add_mul]at this;omega
theorem SlI.rows{v:Value}{n:Nat}(h:SlI H n sz R v l):∃a c el,v= .slice a l.length c/\A5 H sz (.slice a l.length c)=some el/\D2 sz R el l:=by
 obtain⟨a,c,rfl⟩:=h.slice;obtain⟨el,u,y⟩:=h.cells;exact⟨a,c,el,rfl,u,y⟩
theorem u6.append{P:Program}{t e:TypeId}{bytes n:Nat}{z:LV}{x:Value}(U:P.underlying t=some (.slice e))(hs:D8 P e=some sz)(O:V0 P e=some bytes)(X:O9 P e=some z)(I:0<sz)(J:0<bytes)
  (h:u6 H lo sz R w l) (W:SlI H n sz R x l2) (S:(l.length+l2.length)*bytes<=140737488355328) (u:lo<=H.next):
  Ret (C2 P H [t,t] w x) H fun v' H'=>u6 H' lo sz R v' (l++l2)/\i6 lo H H':=by
 obtain⟨cs,k1,k2⟩:=h;obtain⟨a,c,el,rfl,q1,y⟩:=W.rows;obtain⟨v',E,D,r1,r2,r3,r4⟩:=tp (m:=l2.length) U hs O X I J k1 q1 y.1 S u;exact⟨v',E,D,r1,r2,⟨cs++el,by rw[List.length_append];exact r3,k2.append y⟩,r4⟩
end
def L8(x:Option (Value×Option d8))(H:d8)(sz:Nat){α:Type}(R:LV->α->Prop)(l:List α):Prop:=Ret x H fun w H1=>u6 H1 H.next sz R w l/\i6 H.next H H1
theorem F0{H H':d8}{sz:Nat}{α:Type}{R:LV->α->Prop}{w:Value}{l:List α}(h:u6 H' H.next sz R w l)(y:i6 H.next H H')(z:H.next<=H'.low):L8 (some (D6 w H H')) H sz R l:=
 E1 (fun u _=>⟨h.na u _ _,i6.refl _ _⟩) ⟨h.low _,y.ret z⟩
theorem L8.imp{x:Option (Value×Option d8)}{H:d8}{sz:Nat}{α:Type}{R R':LV->α->Prop}{l:List α}(h:L8 x H sz R l)(J:∀cs a,R cs a->R' cs a):L8 x H sz R' l:=by
 obtain⟨v,y,u,z,D,E,I⟩:=h;exact⟨v,y,u,z,D,E.imp J,I⟩
theorem lS(h:List Q5)(a b:Bool)(xs u:LV):A6 (.bool::h) (.bool a::xs) (.bool b::u)=(A6 h xs u).map ((a==b)&& ·):=by
 simp only[A6,N6];cases A6 h xs u<;>rfl
abbrev w9{α:Type}(enc:α->LV):LV->α->Prop:=fun cs a=>cs=enc a
abbrev nmE(x:ByteArray×ByteArray):LV:=[.string x.1,.string x.2]
abbrev stE(s:ByteArray):LV:=[.string s]
abbrev soE(x:Bool×Bool×ByteArray):LV:=[.bool x.1,.bool x.2.1,.string x.2.2]
abbrev inE(n:Int):LV:=[.int .i64 n]
abbrev boE(b:Bool):LV:=[.bool b]
abbrev hoE(x:Int×Int×Int):LV:=[.int .i64 x.1,.int .i64 x.2.1,.int .i64 x.2.2]
abbrev edE(x:Int×Int×Int×Int):LV:=[.int .i64 x.1,.int .i64 x.2.1,.int .i64 x.2.2.1,.int .i64 x.2.2.2]
def ixG{α:Type}(p:α->Bool):List α->Nat->Int
 |[],_=> -1
 |a::l,i=>if p a then(i:Int) else ixG p l (i+1)
theorem dS{α:Type}(p:α->Bool):∀(l:List α)(i:Nat),(l.any p=false/\ixG p l i= -1)\/(l.any p=true/\(i:Int)<=ixG p l i/\ixG p l i<i+l.length)
 |[],i=> .inl ⟨rfl,rfl⟩
 |a::l,i=>by
  rw[ixG,List.any_cons,List.length_cons];cases h:p a with
  |true=>exact .inr ⟨rfl,by rw[if_pos rfl];omega,by rw[if_pos rfl];omega⟩
  |false=>
   rw[if_neg Bool.false_ne_true];rcases dS p l (i+1)with⟨u,y⟩|⟨u,y,z⟩
   .exact .inl ⟨by rw[u];rfl,y⟩
   .exact .inr ⟨by rw[u];rfl,oM,oM⟩
theorem gN{α:Type}(p:α->Bool)(l:List α):decide (0<=ixG p l 0)=l.any p:=by
 rcases dS p l 0 with⟨h,u⟩|⟨h,u,y⟩
 .rw[h,u];rfl
 .rw[h];exact decide_eq_true oM
theorem Q1{α:Type}{l:List α}{i:Nat}(h:i<l.length):∃a,l[i]?=some a/\l.drop i=a::l.drop (i+1):=
 ⟨l[i],List.getElem?_eq_getElem h,List.drop_eq_getElem_cons h⟩
theorem SlI.row{H:d8}{lo sz:Nat}{α:Type}{R:LV->α->Prop}{y:Option Addr}{n z:Nat}{l:List α}(h:SlI H lo sz R (.slice y n z) l){i:Nat}(O:i<l.length):
  ∃x b o cs own el,l[i]?=some x/\l.drop i=x::l.drop (i+1)/\y=some ⟨b,o,none⟩/\b<lo/\H.get b=some (.cells cs own sz)/\o+i*sz+sz<=cs.length/\ldC (some true) (some sz) (o+i*sz) cs=some (.agg el.toArray)/\(∀k,k<sz->cs[o+i*sz+k]?=el[k]?)/\R el x:=by
 obtain⟨x,D,I⟩:=Q1 (l:=l) (i:=i) O;obtain⟨b,o,c,cs,own,W,E,J,u,U⟩:=h.at_ D;obtain⟨rfl,rfl,rfl⟩:y=some ⟨b,o,none⟩/\n=l.length/\z=c:=by simpa using W
 exact⟨x,b,o,cs,own,_,D,I,rfl,E,J,u,cq u rfl,fun k S=>Q3 S rfl,U⟩
theorem sR{cs el:LV}{a sz j m:Nat}(h:∀k,k<sz->cs[a+k]?=el[k]?) (u:a+sz<=cs.length) (y:j+m<=sz):ldC (some true) (some m) (a+j) cs=some (.agg ((el.drop j).take m).toArray):=by
 rw[eW _ _ _ oM]
 congr 3
 refine List.ext_getElem? fun i=>?_;rw[List.getElem?_take,List.getElem?_take];split
 .rw[List.getElem?_drop,List.getElem?_drop,Nat.add_assoc,h _ oM]
 .rfl
theorem u6.push1{P:Program}{t e:TypeId}{bytes sz lo:Nat}{z:LV}{α:Type}{R:LV->α->Prop}{H:d8}{w:Value}{l:List α}(X:P.underlying t=some (.slice e))(hs:D8 P e=some sz)(U:V0 P e=some bytes)(hz:O9 P e=some z)(I:0<sz)(J:0<bytes)
  (h:u6 H lo sz R w l) {cs:LV} {a:α} (u:cs.length=sz) (S:R cs a) (W:(l.length+1)*bytes<=140737488355328) (y:lo<=H.next):
  Ret (C2 P (H.push (.cells cs true sz)) [t,t] w (.slice (some ⟨H.next,0,none⟩) 1 1)) (H.push (.cells cs true sz)) fun v' H'=>u6 H' lo sz R v' (l++[a])/\i6 lo H H':=by
 have O:=u6.fresh (H:=H) (lo:=H.next) (l:=[a]) (n:=1) (c:=1) rfl lR (D2.one u S);have hn:(H.push (.cells cs true sz)).next=H.next+1:=i5;have D:i6 H.next H (H.push (.cells cs true sz)):=i6.push lR;obtain⟨v',E,H',r1,r2,r3,r4⟩:=(h.keep D).append X hs U hz I J O.sl (by simpa using W) oM;exact⟨v',E,H',r1,r2,r3,(D.weaken y).trans r4⟩
end Go.Proofs.YtofbhlhamfkljaaGreatDoor.Ve
namespace Go.Proofs.YtofbhlhamfkljaaGreatDoor.Ve
open Go Go.RowKit
open Go.Proofs.Tryz (prog)
theorem QR.up{H:d8}{lo:Nat}:∀{k:Nat}{f:Bool}{cs:LV}{q:Q},QR H lo k f cs q->QR H lo (k+1) f cs q:=by
 intro k;induction k with
 |zero=>intro f cs q h;exact h.elim
 |succ k u=>
  intro f cs q h;obtain⟨v,w,y,z,D,E⟩:=h;exact⟨v,w,y,SlI.mono z (fun _ _=>rfl) lR (fun _ _ h=>u h),SlI.mono D (fun _ _=>rfl) lR (fun _ _ h=>u h),E⟩
mutual
def fsQ:Bool->Q->List Q
 |f,.mk o s c v a b=>(if f then [.mk o s c v a b] else [])++(fsL f a++fsL (!f) b)
def fsL:Bool->List Q->List Q
 |_,[]=>[]
 |f,x::l=>fsQ f x++fsL f l
end
theorem kg(f:Bool)(q:Q):fsQ f q=(if f then [q] else [])++(fsL f q.a++fsL (!f) q.b):=by cases q;rw[fsQ];rfl
theorem eR(f:Bool):∀l,fsL f l=l.flatMap (fsQ f)
 |[]=>by rw[fsL];rfl
 |x::l=>by rw[fsL,eR f l,List.flatMap_cons]
mutual
def inQ:Bool->Q->List Q
 |f,.mk o s c v a b=>inL f a++(if f then(if o=11 then inL false b++b else []) else inL true b)
def inL:Bool->List Q->List Q
 |_,[]=>[]
 |f,x::l=>inQ f x++inL f l
end
theorem nz(q:Q):inQ false q=inL false q.a++inL true q.b:=by cases q;rw[inQ];rfl
theorem iB(q:Q):inQ true q=inL true q.a++(if q.op=11 then inL false q.b++q.b else []):=by cases q;rw[inQ];rfl
theorem eU(f:Bool):∀l,inL f l=l.flatMap (inQ f)
 |[]=>by rw[inL];rfl
 |x::l=>by rw[inL,eU f l,List.flatMap_cons]
def OkD(f:Bool)(q:Q):Prop:=∃d,okQ d f q=true
theorem OkD.parts{f:Bool}{q:Q}(h:OkD f q):(∀x∈q.a,OkD f x)/\(∀x∈q.b,OkD (!f) x)/\1<=q.op/\iG f q=true/\okN q.op (if f then 11 else 7) (lst f q.op) (mst f q.op) q.a.length q.b.length=true:=by
 obtain⟨d,h⟩:=h;cases d with
 |zero=>cases h
 |succ d=>
  rw[okQ]at h;simp only[Bool.and_eq_true,decide_eq_true_eq,List.all_eq_true]at h;obtain⟨⟨⟨⟨y,z⟩,D⟩,E⟩,I⟩:=h;exact⟨fun x u=>⟨d,E x u⟩,fun x u=>⟨d,I x u⟩,y,z,D⟩
theorem dE{op s u y:Int}{z D:Nat}(h:okN op s u y z D=true):u<=z/\(z:Int)<=y/\(op=s↔D=1)/\D<=1:=by
 simp only[okN,Bool.and_eq_true,decide_eq_true_eq,beq_iff_eq]at h;obtain⟨⟨⟨E,I⟩,J⟩,O⟩:=h;exact⟨E,I,by simpa using J,O⟩
def T9(fn:Nat)(f:Bool)(sz:Nat)(rf:Bool)(F:Q->List Q)(k:Nat):Prop:=∀(H:d8)(lo:Nat)(cs:LV)(q:Q),lo<=H.next->QR H lo k f cs q->(F q).length<=1000000->OkD f q->L8 (CL prog t6 fn [.agg cs.toArray] H) H sz (QR H lo k rf) (F q)
theorem Ll(F:Q->List Q)(k:Nat)(ih:T9 86 false 6 true F k)(z:d8)(lo y:Nat)(b1:lo<=y)(a9:y<z.next)(va:Option Addr)(ca:Nat)(l:List Q)(hv:QsR z lo k false (.slice va l.length ca) l)(hn:l.length<=1048576)(X:LV)(hb:z.get y=cE X 1)(hc:X[1]?=some (.slice va l.length ca))(r:List Q)(hr:r.length<=1000000)(hw:∀x∈l,OkD false x):
  ∀kk e H2,(∃(i:Nat)(u:List Q)(w:Value),kk=l.length-i/\i<=l.length/\e.get 1=pT y/\e.get 3=w/\e.get 4=iV i/\u6 H2 (y+1) 6 (QR z lo (k+1) true) w u/\i6 (y+1) z H2/\u++(l.drop i).flatMap F=r)->
  w7 (LE prog t6 (.loop Oi) e H2) (fun o e H2=>o= .exit 0/\e.get 1=pT y/\∃w,e.get 3=w/\u6 H2 (y+1) 6 (QR z lo (k+1) true) w r/\i6 (y+1) z H2):=by
 refine i8 _ _ ?_;rintro kk e H2 ⟨i,u,w,hk,hi,W,f3,f6,hO,E,J⟩;have S:H2.get y=cE X 1:=by rw[E.get y oM];exact hb
 have b3:=E.next;rcases b:decide ((i:Int)<l.length)with _|_
 .have a4:=dF b;have:l.drop i=[]:=dN oM;rw[this,List.flatMap_nil,List.append_nil]at J;refine J5 W f6 S hc b ?_;exact i9 ⟨rfl,W,w,f3,by rw[<-J];exact hO,E⟩
 have a4:=dT b;obtain⟨x,nb,o,cs,own,el,hx,hd,rfl,b2,hg,b0,D,hR⟩:=hv.row (i:=i) oM;have nt:(i:Int).toNat=i:=tN i;simp only[qSz,if_true,bF]at D hg;have a6:=(E.get nb oM).trans hg;rw[hd,List.flatMap_cons,<-List.append_assoc]at J;have a8:u.length+(F x).length<=1000000:=by
  have:r.length=u.length+(F x).length+((l.drop (i+1)).flatMap F).length:=by rw[<-J,List.length_append,List.length_append]
  omega
 obtain⟨v,h,H3,a5,a7,a1,I⟩:=ih H2 lo el x oM (hR.mono (fun j hj=>E.get j oM) lR) oM (hw x (mG hx));have O:u6 H3 H2.next 6 (QR z lo (k+1) true) v (F x):=a1.imp fun cs q h=>(h.mono (fun j hj=>(E.get j oM).symm) lR).up;have b4:=I.next;obtain⟨v',h',H4,ha,U,a2,a3⟩:=(hO.keep I).append (P:=prog) (t:=23) (n:=H3.next) (by exact sU.2.2.2.2.2.2) cr.1 cr.2.1 cr.2.2.1 oM oM O.sl oM oM;refine J14 W f3 f6 S hc b a6 nt D @wrap_small a5 a7 ha U ?_;refine i4 (kk-1) oM ⟨i+1,u++F x,v',oM,oM,W,rfl,rfl,a2,(E.trans (I.weaken oM)).trans a3,J⟩
theorem Ln(F:Q->List Q)(k:Nat)(ih:T9 112 true 6 true F k)(z:d8)(lo y:Nat)(b1:lo<=y)(a9:y<z.next)(va:Option Addr)(ca:Nat)(l:List Q)(hv:QsR z lo k true (.slice va l.length ca) l)(hn:l.length<=1048576)(X:LV)(hb:z.get y=cE X 1)(hc:X[2]?=some (.slice va l.length ca))(r:List Q)(hr:r.length<=1000000)(hw:∀x∈l,OkD true x):
  ∀kk e H2,(∃(i:Nat)(u:List Q)(w:Value),kk=l.length-i/\i<=l.length/\e.get 1=pT y/\e.get 3=w/\e.get 5=iV i/\u6 H2 (y+1) 6 (QR z lo (k+1) true) w u/\i6 (y+1) z H2/\u++(l.drop i).flatMap F=r)->
  w7 (LE prog t6 (.loop Oj) e H2) (fun o e H2=>o= .exit 2/\e.get 1=pT y/\∃w,e.get 3=w/\u6 H2 (y+1) 6 (QR z lo (k+1) true) w r/\i6 (y+1) z H2):=by
 refine i8 _ _ ?_;rintro kk e H2 ⟨i,u,w,hk,hi,W,f3,f6,hO,E,J⟩;have S:H2.get y=cE X 1:=by rw[E.get y oM];exact hb
 have b3:=E.next;rcases b:decide ((i:Int)<l.length)with _|_
 .have a4:=dF b;have:l.drop i=[]:=dN oM;rw[this,List.flatMap_nil,List.append_nil]at J;refine J5 W f6 S hc b ?_;exact i9 ⟨rfl,W,w,f3,by rw[<-J];exact hO,E⟩
 have a4:=dT b;obtain⟨x,nb,o,cs,own,el,hx,hd,rfl,b2,hg,b0,D,hR⟩:=hv.row (i:=i) oM;have nt:(i:Int).toNat=i:=tN i;simp only[qSz,if_true,bF]at D hg;have a6:=(E.get nb oM).trans hg;rw[hd,List.flatMap_cons,<-List.append_assoc]at J;have a8:u.length+(F x).length<=1000000:=by
  have:r.length=u.length+(F x).length+((l.drop (i+1)).flatMap F).length:=by rw[<-J,List.length_append,List.length_append]
  omega
 obtain⟨v,h,H3,a5,a7,a1,I⟩:=ih H2 lo el x oM (hR.mono (fun j hj=>E.get j oM) lR) oM (hw x (mG hx));have O:u6 H3 H2.next 6 (QR z lo (k+1) true) v (F x):=a1.imp fun cs q h=>(h.mono (fun j hj=>(E.get j oM).symm) lR).up;have b4:=I.next;obtain⟨v',h',H4,ha,U,a2,a3⟩:=(hO.keep I).append (P:=prog) (t:=23) (n:=H3.next) (by exact sU.2.2.2.2.2.2) cr.1 cr.2.1 cr.2.2.1 oM oM O.sl oM oM;refine J14 W f3 f6 S hc b a6 nt D @wrap_small a5 a7 ha U ?_;refine i4 (kk-1) oM ⟨i+1,u++F x,v',oM,oM,W,rfl,rfl,a2,(E.trans (I.weaken oM)).trans a3,J⟩
theorem Hp(F:Q->List Q)(k:Nat)(ih:T9 112 true 6 true F k)(z:d8)(lo y:Nat)(b1:lo<=y)(a9:y<z.next)(va:Option Addr)(ca:Nat)(l:List Q)(hv:QsR z lo k true (.slice va l.length ca) l)(hn:l.length<=1048576)(X:LV)(hb:z.get y=cE X 1)(hc:X[4]?=some (.slice va l.length ca))(r:List Q)(hr:r.length<=1000000)(hw:∀x∈l,OkD true x):
  ∀kk e H2,(∃(i:Nat)(u:List Q)(w:Value),kk=l.length-i/\i<=l.length/\e.get 1=pT y/\e.get 3=w/\e.get 4=iV i/\u6 H2 (y+1) 6 (QR z lo (k+1) true) w u/\i6 (y+1) z H2/\u++(l.drop i).flatMap F=r)->
  w7 (LE prog t6 (.loop Ku) e H2) (fun o e H2=>o= .exit 0/\e.get 1=pT y/\∃w,e.get 3=w/\u6 H2 (y+1) 6 (QR z lo (k+1) true) w r/\i6 (y+1) z H2):=by
 refine i8 _ _ ?_;rintro kk e H2 ⟨i,u,w,hk,hi,W,f3,f6,hO,E,J⟩;have S:H2.get y=cE X 1:=by rw[E.get y oM];exact hb
 have b3:=E.next;rcases b:decide ((i:Int)<l.length)with _|_
 .have a4:=dF b;have:l.drop i=[]:=dN oM;rw[this,List.flatMap_nil,List.append_nil]at J;refine J5 W f6 S hc b ?_;exact i9 ⟨rfl,W,w,f3,by rw[<-J];exact hO,E⟩
 have a4:=dT b;obtain⟨x,nb,o,cs,own,el,hx,hd,rfl,b2,hg,b0,D,hR⟩:=hv.row (i:=i) oM;have nt:(i:Int).toNat=i:=tN i;simp only[qSz,if_true,bF]at D hg;have a6:=(E.get nb oM).trans hg;rw[hd,List.flatMap_cons,<-List.append_assoc]at J;have a8:u.length+(F x).length<=1000000:=by
  have:r.length=u.length+(F x).length+((l.drop (i+1)).flatMap F).length:=by rw[<-J,List.length_append,List.length_append]
  omega
 obtain⟨v,h,H3,a5,a7,a1,I⟩:=ih H2 lo el x oM (hR.mono (fun j hj=>E.get j oM) lR) oM (hw x (mG hx));have O:u6 H3 H2.next 6 (QR z lo (k+1) true) v (F x):=a1.imp fun cs q h=>(h.mono (fun j hj=>(E.get j oM).symm) lR).up;have b4:=I.next;obtain⟨v',h',H4,ha,U,a2,a3⟩:=(hO.keep I).append (P:=prog) (t:=23) (n:=H3.next) (by exact sU.2.2.2.2.2.2) cr.1 cr.2.1 cr.2.2.1 oM oM O.sl oM oM;refine J14 W f3 f6 S hc b a6 nt D @wrap_small a5 a7 ha U ?_;refine i4 (kk-1) oM ⟨i+1,u++F x,v',oM,oM,W,rfl,rfl,a2,(E.trans (I.weaken oM)).trans a3,J⟩
theorem Hr(F:Q->List Q)(k:Nat)(ih:T9 86 false 6 true F k)(z:d8)(lo y:Nat)(b1:lo<=y)(a9:y<z.next)(va:Option Addr)(ca:Nat)(l:List Q)(hv:QsR z lo k false (.slice va l.length ca) l)(hn:l.length<=1048576)(X:LV)(hb:z.get y=cE X 1)(hc:X[5]?=some (.slice va l.length ca))(r:List Q)(hr:r.length<=1000000)(hw:∀x∈l,OkD false x):
  ∀kk e H2,(∃(i:Nat)(u:List Q)(w:Value),kk=l.length-i/\i<=l.length/\e.get 1=pT y/\e.get 3=w/\e.get 5=iV i/\u6 H2 (y+1) 6 (QR z lo (k+1) true) w u/\i6 (y+1) z H2/\u++(l.drop i).flatMap F=r)->
  w7 (LE prog t6 (.loop Kv) e H2) (fun o e H2=>o= .exit 2/\e.get 1=pT y/\∃w,e.get 3=w/\u6 H2 (y+1) 6 (QR z lo (k+1) true) w r/\i6 (y+1) z H2):=by
 refine i8 _ _ ?_;rintro kk e H2 ⟨i,u,w,hk,hi,W,f3,f6,hO,E,J⟩;have S:H2.get y=cE X 1:=by rw[E.get y oM];exact hb
 have b3:=E.next;rcases b:decide ((i:Int)<l.length)with _|_
 .have a4:=dF b;have:l.drop i=[]:=dN oM;rw[this,List.flatMap_nil,List.append_nil]at J;refine J5 W f6 S hc b ?_;exact i9 ⟨rfl,W,w,f3,by rw[<-J];exact hO,E⟩
 have a4:=dT b;obtain⟨x,nb,o,cs,own,el,hx,hd,rfl,b2,hg,b0,D,hR⟩:=hv.row (i:=i) oM;have nt:(i:Int).toNat=i:=tN i;simp only[qSz,if_true,bF]at D hg;have a6:=(E.get nb oM).trans hg;rw[hd,List.flatMap_cons,<-List.append_assoc]at J;have a8:u.length+(F x).length<=1000000:=by
  have:r.length=u.length+(F x).length+((l.drop (i+1)).flatMap F).length:=by rw[<-J,List.length_append,List.length_append]
  omega
 obtain⟨v,h,H3,a5,a7,a1,I⟩:=ih H2 lo el x oM (hR.mono (fun j hj=>E.get j oM) lR) oM (hw x (mG hx));have O:u6 H3 H2.next 6 (QR z lo (k+1) true) v (F x):=a1.imp fun cs q h=>(h.mono (fun j hj=>(E.get j oM).symm) lR).up;have b4:=I.next;obtain⟨v',h',H4,ha,U,a2,a3⟩:=(hO.keep I).append (P:=prog) (t:=23) (n:=H3.next) (by exact sU.2.2.2.2.2.2) cr.1 cr.2.1 cr.2.2.1 oM oM O.sl oM oM;refine J14 W f3 f6 S hc b a6 nt D @wrap_small a5 a7 ha U ?_;refine i4 (kk-1) oM ⟨i+1,u++F x,v',oM,oM,W,rfl,rfl,a2,(E.trans (I.weaken oM)).trans a3,J⟩
theorem Lj(F:Q->List Q)(k:Nat)(ih:T9 68 false 3 false F k)(z:d8)(lo y:Nat)(b1:lo<=y)(a9:y<z.next)(va:Option Addr)(ca:Nat)(l:List Q)(hv:QsR z lo k false (.slice va l.length ca) l)(hn:l.length<=1048576)(X:LV)(hb:z.get y=cE X 1)(hc:X[1]?=some (.slice va l.length ca))(r:List Q)(hr:r.length<=1000000)(hw:∀x∈l,OkD false x):
  ∀kk e H2,(∃(i:Nat)(u:List Q)(w:Value),kk=l.length-i/\i<=l.length/\e.get 1=pT y/\e.get 3=w/\e.get 4=iV i/\u6 H2 (y+1) 3 (QR z lo (k+1) false) w u/\i6 (y+1) z H2/\u++(l.drop i).flatMap F=r)->
  w7 (LE prog t6 (.loop NU) e H2) (fun o e H2=>o= .exit 0/\e.get 1=pT y/\∃w,e.get 3=w/\u6 H2 (y+1) 3 (QR z lo (k+1) false) w r/\i6 (y+1) z H2):=by
 refine i8 _ _ ?_;rintro kk e H2 ⟨i,u,w,hk,hi,W,f3,f6,hO,E,J⟩;have S:H2.get y=cE X 1:=by rw[E.get y oM];exact hb
 have b3:=E.next;rcases b:decide ((i:Int)<l.length)with _|_
 .have a4:=dF b;have:l.drop i=[]:=dN oM;rw[this,List.flatMap_nil,List.append_nil]at J;refine J5 W f6 S hc b ?_;exact i9 ⟨rfl,W,w,f3,by rw[<-J];exact hO,E⟩
 have a4:=dT b;obtain⟨x,nb,o,cs,own,el,hx,hd,rfl,b2,hg,b0,D,hR⟩:=hv.row (i:=i) oM;have nt:(i:Int).toNat=i:=tN i;simp only[qSz,if_true,bF]at D hg;have a6:=(E.get nb oM).trans hg;rw[hd,List.flatMap_cons,<-List.append_assoc]at J;have a8:u.length+(F x).length<=1000000:=by
  have:r.length=u.length+(F x).length+((l.drop (i+1)).flatMap F).length:=by rw[<-J,List.length_append,List.length_append]
  omega
 obtain⟨v,h,H3,a5,a7,a1,I⟩:=ih H2 lo el x oM (hR.mono (fun j hj=>E.get j oM) lR) oM (hw x (mG hx));have O:u6 H3 H2.next 3 (QR z lo (k+1) false) v (F x):=a1.imp fun cs q h=>(h.mono (fun j hj=>(E.get j oM).symm) lR).up;have b4:=I.next;obtain⟨v',h',H4,ha,U,a2,a3⟩:=(hO.keep I).append (P:=prog) (t:=22) (n:=H3.next) (by exact lP.2.2.2.2.2.2) aq.1 aq.2.1 aq.2.2.1 oM oM O.sl oM oM;refine J14 W f3 f6 S hc b a6 nt D @wrap_small a5 a7 ha U ?_;refine i4 (kk-1) oM ⟨i+1,u++F x,v',oM,oM,W,rfl,rfl,a2,(E.trans (I.weaken oM)).trans a3,J⟩
theorem Lk(F:Q->List Q)(k:Nat)(ih:T9 91 true 3 false F k)(z:d8)(lo y:Nat)(b1:lo<=y)(a9:y<z.next)(va:Option Addr)(ca:Nat)(l:List Q)(hv:QsR z lo k true (.slice va l.length ca) l)(hn:l.length<=1048576)(X:LV)(hb:z.get y=cE X 1)(hc:X[2]?=some (.slice va l.length ca))(r:List Q)(hr:r.length<=1000000)(hw:∀x∈l,OkD true x):
  ∀kk e H2,(∃(i:Nat)(u:List Q)(w:Value),kk=l.length-i/\i<=l.length/\e.get 1=pT y/\e.get 3=w/\e.get 5=iV i/\u6 H2 (y+1) 3 (QR z lo (k+1) false) w u/\i6 (y+1) z H2/\u++(l.drop i).flatMap F=r)->
  w7 (LE prog t6 (.loop NV) e H2) (fun o e H2=>o= .exit 2/\e.get 1=pT y/\∃w,e.get 3=w/\u6 H2 (y+1) 3 (QR z lo (k+1) false) w r/\i6 (y+1) z H2):=by
 refine i8 _ _ ?_;rintro kk e H2 ⟨i,u,w,hk,hi,W,f3,f6,hO,E,J⟩;have S:H2.get y=cE X 1:=by rw[E.get y oM];exact hb
 have b3:=E.next;rcases b:decide ((i:Int)<l.length)with _|_
 .have a4:=dF b;have:l.drop i=[]:=dN oM;rw[this,List.flatMap_nil,List.append_nil]at J;refine J5 W f6 S hc b ?_;exact i9 ⟨rfl,W,w,f3,by rw[<-J];exact hO,E⟩
 have a4:=dT b;obtain⟨x,nb,o,cs,own,el,hx,hd,rfl,b2,hg,b0,D,hR⟩:=hv.row (i:=i) oM;have nt:(i:Int).toNat=i:=tN i;simp only[qSz,if_true,bF]at D hg;have a6:=(E.get nb oM).trans hg;rw[hd,List.flatMap_cons,<-List.append_assoc]at J;have a8:u.length+(F x).length<=1000000:=by
  have:r.length=u.length+(F x).length+((l.drop (i+1)).flatMap F).length:=by rw[<-J,List.length_append,List.length_append]
  omega
 obtain⟨v,h,H3,a5,a7,a1,I⟩:=ih H2 lo el x oM (hR.mono (fun j hj=>E.get j oM) lR) oM (hw x (mG hx));have O:u6 H3 H2.next 3 (QR z lo (k+1) false) v (F x):=a1.imp fun cs q h=>(h.mono (fun j hj=>(E.get j oM).symm) lR).up;have b4:=I.next;obtain⟨v',h',H4,ha,U,a2,a3⟩:=(hO.keep I).append (P:=prog) (t:=22) (n:=H3.next) (by exact lP.2.2.2.2.2.2) aq.1 aq.2.1 aq.2.2.1 oM oM O.sl oM oM;refine J14 W f3 f6 S hc b a6 nt D @wrap_small a5 a7 ha U ?_;refine i4 (kk-1) oM ⟨i+1,u++F x,v',oM,oM,W,rfl,rfl,a2,(E.trans (I.weaken oM)).trans a3,J⟩
theorem Lo(F:Q->List Q)(k:Nat)(ih:T9 91 true 3 false F k)(z:d8)(lo y:Nat)(b1:lo<=y)(a9:y<z.next)(va:Option Addr)(ca:Nat)(l:List Q)(hv:QsR z lo k true (.slice va l.length ca) l)(hn:l.length<=1048576)(X:LV)(hb:z.get y=cE X 1)(hc:X[4]?=some (.slice va l.length ca))(r:List Q)(hr:r.length<=1000000)(hw:∀x∈l,OkD true x):
  ∀kk e H2,(∃(i:Nat)(u:List Q)(w:Value),kk=l.length-i/\i<=l.length/\e.get 1=pT y/\e.get 3=w/\e.get 4=iV i/\u6 H2 (y+1) 3 (QR z lo (k+1) false) w u/\i6 (y+1) z H2/\u++(l.drop i).flatMap F=r)->
  w7 (LE prog t6 (.loop Ot) e H2) (fun o e H2=>o= .exit 0/\e.get 1=pT y/\∃w,e.get 3=w/\u6 H2 (y+1) 3 (QR z lo (k+1) false) w r/\i6 (y+1) z H2):=by
 refine i8 _ _ ?_;rintro kk e H2 ⟨i,u,w,hk,hi,W,f3,f6,hO,E,J⟩;have S:H2.get y=cE X 1:=by rw[E.get y oM];exact hb
 have b3:=E.next;rcases b:decide ((i:Int)<l.length)with _|_
 .have a4:=dF b;have:l.drop i=[]:=dN oM;rw[this,List.flatMap_nil,List.append_nil]at J;refine J5 W f6 S hc b ?_;exact i9 ⟨rfl,W,w,f3,by rw[<-J];exact hO,E⟩
 have a4:=dT b;obtain⟨x,nb,o,cs,own,el,hx,hd,rfl,b2,hg,b0,D,hR⟩:=hv.row (i:=i) oM;have nt:(i:Int).toNat=i:=tN i;simp only[qSz,if_true,bF]at D hg;have a6:=(E.get nb oM).trans hg;rw[hd,List.flatMap_cons,<-List.append_assoc]at J;have a8:u.length+(F x).length<=1000000:=by
  have:r.length=u.length+(F x).length+((l.drop (i+1)).flatMap F).length:=by rw[<-J,List.length_append,List.length_append]
  omega
 obtain⟨v,h,H3,a5,a7,a1,I⟩:=ih H2 lo el x oM (hR.mono (fun j hj=>E.get j oM) lR) oM (hw x (mG hx));have O:u6 H3 H2.next 3 (QR z lo (k+1) false) v (F x):=a1.imp fun cs q h=>(h.mono (fun j hj=>(E.get j oM).symm) lR).up;have b4:=I.next;obtain⟨v',h',H4,ha,U,a2,a3⟩:=(hO.keep I).append (P:=prog) (t:=22) (n:=H3.next) (by exact lP.2.2.2.2.2.2) aq.1 aq.2.1 aq.2.2.1 oM oM O.sl oM oM;refine J14 W f3 f6 S hc b a6 nt D @wrap_small a5 a7 ha U ?_;refine i4 (kk-1) oM ⟨i+1,u++F x,v',oM,oM,W,rfl,rfl,a2,(E.trans (I.weaken oM)).trans a3,J⟩
theorem PK(k:Nat)(a7:T9 86 false 6 true (fsQ false) k)(a8:T9 112 true 6 true (fsQ true) k):T9 86 false 6 true (fsQ false) (k+1):=by
 intro H lo cs q S hr hl a6;obtain⟨a9,b0,_⟩:=a6.parts;obtain⟨va,ca,wa,D,rfl,h1,h2,h3,h4⟩:=hr.path;obtain⟨y,I,-,hg,W⟩:=pushF H (bC [iV q.op,.slice va q.a.length ca,.slice wa q.b.length D] 1);have U:H.next<=y.low:=by rw[I,l9];exact lR
 have a4:=u7 hg;have hs:fsQ false q=(fsL false q.a)++fsL true q.b:=by rw[kg false q,if_neg Bool.false_ne_true,List.nil_append]<;>rfl
 have a1:=h1.mono (H':=y) (fun j X=>W.get j oM) lR;have a2:=h2.mono (H':=y) (fun j X=>W.get j oM) lR;rw[hs]at hl ⊢;have a5:(fsL false q.a).length<=1000000:=by rw[List.length_append]at hl;omega
 rw[j7 Lb rfl _ sM];refine J1 I.symm ?_;refine j8 (F:=fun z=>L8 (u5 _ _ _ (u9 (inBlock 0 z) _)) _ _ _ _) (Ll (fsQ false) k a7 y lo H.next S a4 va ca q.a a1 h3 _ hg rfl (fsL false q.a) a5 a9 q.a.length _ _ ⟨0,[],_,rfl,oM,rfl,rfl,rfl,u6.nil,i6.refl _ _,by rw[eR];rfl⟩) ?_;rintro o e' H2 ⟨ho,g1,w,g3,hO,u⟩;have b1:=u.next;have O:H2.get H.next=_:=(u.get H.next oM).trans hg;have E:=a2.mono (H':=H2) (fun j X=>u.get j oM) lR;refine J1 ho ?_;refine j8 (F:=fun z=>L8 (u5 _ _ _ (u9 (inBlock 2 z) _)) _ _ _ _) (Ln (fsQ true) k a8 H2 lo H.next S (u7 O) wa D q.b E h4 _ O rfl (fsL false q.a++fsL true q.b) hl b0 q.b.length _ _ ⟨0,fsL false q.a,w,rfl,oM,g1,g3,rfl,hO.imp fun cs q h=>h.mono (fun j X=>u.get j oM) lR,i6.refl _ _,by rw[eR true];rfl⟩) ?_;rintro o e' H3 ⟨ho,g1,w,g3,hO,a3⟩;have J:i6 (H.next+1) y H3:=u.trans a3;refine J2 ho g3 ?_;exact F0 ((hO.weaken oM).imp fun cs q h=>h.mono (fun j X=>by rw[<-W.get j oM,<-u.get j oM]) lR) (W.trans (J.weaken oM)) ((J.weaken oM).low U)
theorem PJ(k:Nat)(a7:T9 68 false 3 false (inQ false) k)(a8:T9 91 true 3 false (inQ true) k):T9 68 false 3 false (inQ false) (k+1):=by
 intro H lo cs q S hr hl a6;obtain⟨a9,b0,_⟩:=a6.parts;obtain⟨va,ca,wa,D,rfl,h1,h2,h3,h4⟩:=hr.path;obtain⟨y,I,-,hg,W⟩:=pushF H (bC [iV q.op,.slice va q.a.length ca,.slice wa q.b.length D] 1);have U:H.next<=y.low:=by rw[I,l9];exact lR
 have a4:=u7 hg;have hs:inQ false q=(inL false q.a)++inL true q.b:=by rw[nz q]<;>rfl
 have a1:=h1.mono (H':=y) (fun j X=>W.get j oM) lR;have a2:=h2.mono (H':=y) (fun j X=>W.get j oM) lR;rw[hs]at hl ⊢;have a5:(inL false q.a).length<=1000000:=by rw[List.length_append]at hl;omega
 rw[j7 KW rfl _ sM];refine J1 I.symm ?_;refine j8 (F:=fun z=>L8 (u5 _ _ _ (u9 (inBlock 0 z) _)) _ _ _ _) (Lj (inQ false) k a7 y lo H.next S a4 va ca q.a a1 h3 _ hg rfl (inL false q.a) a5 a9 q.a.length _ _ ⟨0,[],_,rfl,oM,rfl,rfl,rfl,u6.nil,i6.refl _ _,by rw[eU];rfl⟩) ?_;rintro o e' H2 ⟨ho,g1,w,g3,hO,u⟩;have b1:=u.next;have O:H2.get H.next=_:=(u.get H.next oM).trans hg;have E:=a2.mono (H':=H2) (fun j X=>u.get j oM) lR;refine J1 ho ?_;refine j8 (F:=fun z=>L8 (u5 _ _ _ (u9 (inBlock 2 z) _)) _ _ _ _) (Lk (inQ true) k a8 H2 lo H.next S (u7 O) wa D q.b E h4 _ O rfl (inL false q.a++inL true q.b) hl b0 q.b.length _ _ ⟨0,inL false q.a,w,rfl,oM,g1,g3,rfl,hO.imp fun cs q h=>h.mono (fun j X=>u.get j oM) lR,i6.refl _ _,by rw[eU true];rfl⟩) ?_;rintro o e' H3 ⟨ho,g1,w,g3,hO,a3⟩;have J:i6 (H.next+1) y H3:=u.trans a3;refine J2 ho g3 ?_;exact F0 ((hO.weaken oM).imp fun cs q h=>h.mono (fun j X=>by rw[<-W.get j oM,<-u.get j oM]) lR) (W.trans (J.weaken oM)) ((J.weaken oM).low U)
theorem Li(k:Nat)(b7:T9 112 true 6 true (fsQ true) k)(b8:T9 86 false 6 true (fsQ false) k):T9 112 true 6 true (fsQ true) (k+1):=by
 intro H lo cs q a4 hr hl b6;obtain⟨b9,c0,_⟩:=b6.parts;have a6:=hr;obtain⟨va,ca,wa,J,rfl,h1,h2,h3,h4,_⟩:=hr.filter;obtain⟨y,u⟩:=eY ([iV q.op,.string q.sp,.string q.lc,.string q.vl,.slice va q.a.length ca,.slice wa q.b.length J]:LV);obtain⟨I,W,-,hg,hS⟩:=pushF H (bC y 1);have a5:H.next<=I.low:=by rw[W,l9];exact lR
 have c3:=u7 hg;have b4:ldC (some true) (some 6) 0 y=some (.agg y.toArray):=by rw[u];rfl
 obtain⟨H2,O⟩:=eY (I.push (bC y 6));have D:i6 (H.next+1) I H2:=by rw[O];exact i6.push oM
 have c4:=D.next;have S:H2.get H.next=_:=(D.get H.next oM).trans hg;rw[<-u]at a6;have X:u6 H2 (H.next+1) 6 (QR H2 lo (k+1) true) (sL I.next 1 1) [q]:=by
  rw[O];refine u6.fresh rfl oM (D2.one (by rw[u];rfl) (a6.mono (fun j hj=>?_) lR));rw[i7 oM,hS.get j oM]
 have hs:fsQ true q=[q]++(fsL true q.a++fsL false q.b):=by rw[kg true q,if_pos rfl];rfl
 have a8:=h1.mono (H':=H2) (fun j hj=>by rw[D.get j oM,hS.get j oM]) lR;rw[hs,<-List.append_assoc]at hl ⊢;have b3:([q]++fsL true q.a).length<=1000000:=by rw[List.length_append]at hl;omega
 have b1:y[4]?=some (.slice va q.a.length ca):=by rw[u];rfl
 have b2:y[5]?=some (.slice wa q.b.length J):=by rw[u];rfl
 have a2:y.all oC=true:=by rw[u];rfl
 have b0:(Value.agg y.toArray).cells.toList=y:=rfl;have b5:y.length=6:=by rw[u];rfl
 rw[j7 Ed rfl _ sM,<-u];have a7:bsA prog (some 86) I 1 [(0,.agg y.toArray)]=some (sL I.next 1 1,H2):=by
  rw[u,O,u];simp only[C7,cr,C8];rfl
 refine J5 a2 W.symm hg b4 a7 ?_;refine j8 (F:=fun z=>L8 (u5 _ _ _ (u9 (inBlock 0 z) _)) _ _ _ _) (Hp (fsQ true) k b7 H2 lo H.next a4 (u7 S) va ca q.a a8 h3 _ S b1 ([q]++fsL true q.a) b3 b9 q.a.length _ _ ⟨0,[q],_,rfl,oM,rfl,rfl,rfl,X,i6.refl _ _,by rw[eR];rfl⟩) ?_;rintro o e' H3 ⟨ho,g1,w,g3,X,E⟩;have c5:=E.next;have a3:H3.get H.next=_:=(E.get H.next oM).trans S;have U:=h2.mono (H':=H3) (fun j hj=>by rw[E.get j oM,D.get j oM,hS.get j oM]) lR;refine J1 ho ?_;refine j8 (F:=fun z=>L8 (u5 _ _ _ (u9 (inBlock 2 z) _)) _ _ _ _) (Hr (fsQ false) k b8 H3 lo H.next a4 (u7 a3) wa J q.b U h4 _ a3 b2 ([q]++fsL true q.a++fsL false q.b) hl c0 q.b.length _ _ ⟨0,[q]++fsL true q.a,w,rfl,oM,g1,g3,rfl,X.imp fun cs q h=>h.mono (fun j hj=>E.get j oM) lR,i6.refl _ _,by rw[eR false];rfl⟩) ?_;rintro o e' H4 ⟨ho,g1,w,g3,X,a9⟩;have a1:i6 (H.next+1) I H4:=(D.trans E).trans a9;refine J2 ho g3 ?_;exact F0 ((X.weaken oM).imp fun cs q h=>h.mono (fun j hj=>by rw[<-hS.get j oM,<-D.get j oM,<-E.get j oM]) lR) (hS.trans (a1.weaken oM)) ((a1.weaken oM).low a5)
theorem Lg:∀k,T9 86 false 6 true (fsQ false) k/\T9 112 true 6 true (fsQ true) k:=by
 intro k;induction k with
 |zero=>exact⟨fun H lo cs q u y=>y.elim,fun H lo cs q u y=>y.elim⟩
 |succ k h=>exact⟨PK k h.1 h.2,Li k h.2 h.1⟩
theorem PL(k:Nat)(d2:T9 91 true 3 false (inQ true) k)(d3:T9 68 false 3 false (inQ false) k):T9 91 true 3 false (inQ true) (k+1):=by
 intro H lo cs q d0 hr hl d1;obtain⟨d4,d5,_,_,d6⟩:=d1.parts;have a5:=(dE d6).2.2.1;simp only[if_true]at a5;obtain⟨va,ca,wa,b4,rfl,h1,h2,h3,h4,_⟩:=hr.filter;obtain⟨H1,a6,-,hg,X⟩:=pushF H (bC [iV q.op,.string q.sp,.string q.lc,.string q.vl,.slice va q.a.length ca,.slice wa q.b.length b4] 1);have S:H.next<=H1.low:=by rw[a6,l9];exact lR
 have c8:=u7 hg;have b5:=h1.mono (H':=H1) (fun j hj=>X.get j oM) lR;rw[iB]at hl ⊢;have a4:(inL true q.a).length<=1000000:=by rw[List.length_append]at hl;omega
 rw[j7 PF rfl _ sM];refine J1 a6.symm ?_;refine j8 (F:=fun z=>L8 (u5 _ _ _ (u9 (inBlock 0 z) _)) _ _ _ _) (Lo (inQ true) k d2 H1 lo H.next d0 c8 va ca q.a b5 h3 _ hg rfl (inL true q.a) a4 d4 q.a.length _ _ ⟨0,[],_,rfl,oM,rfl,rfl,rfl,u6.nil,i6.refl _ _,by rw[eU];rfl⟩) ?_;rintro o e' H2 ⟨ho,g1,w,g3,hO,u⟩;have d9:=u.next;have a3:H2.get H.next=_:=(u.get H.next oM).trans hg;rcases b:decide (q.op=11)with _|_
 .have hb:=dF b;rw[if_neg hb,List.append_nil];refine J5 ho g1 g3 a3 b ?_;exact F0 ((hO.weaken oM).imp fun cs q h=>h.mono (fun j hj=>by rw[<-X.get j oM]) lR) (X.trans (u.weaken oM)) ((u.weaken oM).low S)
 have hb:=dT b;rw[if_pos hb]at hl ⊢;have a4:=a5.1 hb;obtain⟨x,nb,o,cs,own,el,hx,hd,rfl,d7,b1,c9,U,hR⟩:=h2.row (i:=0) oM;have a2:q.b=[x]:=by
  obtain⟨y,hy⟩:=List.length_eq_one_iff.1 a4;rw[hy]at hx ⊢;simpa using hx
 have c5:inL false q.b=inQ false x:=by rw[a2,eU];simp
 rw[c5,a2]at hl ⊢;simp only[List.length_append,List.length_cons,List.length_nil]at hl;simp only[qSz,if_true,bF,Bool.not_false,Bool.not_true,Nat.zero_mul,Nat.add_zero]at U b1 c9;have O:H2.get nb=_:=(u.get nb oM).trans ((X.get nb oM).trans b1);have D:QR H2 lo k false el x:=hR.mono (fun j hj=>by rw[u.get j oM,X.get j oM]) lR;obtain⟨v,h,H3,c4,c7,b6,E⟩:=d3 H2 lo el x oM D oM (d5 x (by rw[a2];simp));have a7:u6 H3 H2.next 3 (QR H1 lo (k+1) false) v (inQ false x):=b6.imp fun cs q h=>(h.mono (fun j hj=>(u.get j oM).symm) lR).up;have e1:=E.next;obtain⟨v',h',I,ha,a9,b7,J⟩:=(hO.keep E).append (P:=prog) (t:=22) (n:=H3.next) (by exact lP.2.2.2.2.2.2) aq.1 aq.2.1 aq.2.2.1 oM oM a7.sl oM oM;have e2:=J.next;have c6:I.get H.next=_:=(J.get H.next oM).trans ((E.get H.next oM).trans a3);have b2:I.get nb=_:=(J.get nb oM).trans ((E.get nb oM).trans O);obtain⟨H5,W⟩:=eY (I.push (bC el 3));have a1:i6 I.next I H5:=by rw[W];exact i6.push oM
 have e4:=a1.next;have b8:u6 H5 I.next 3 (QR H1 lo (k+1) false) (sL I.next 1 1) [x]:=by
  rw[W];refine u6.fresh rfl oM (D2.one hR.len (D.up.mono (fun j hj=>(u.get j oM).symm) lR))
 obtain⟨v6,h6,H6,c3,b0,b9,c0⟩:=(b7.keep a1).append (P:=prog) (t:=22) (n:=H5.next) (by exact lP.2.2.2.2.2.2) aq.1 aq.2.1 aq.2.2.1 oM oM b8.sl (by simp only[List.length_append,List.length_cons,List.length_nil];omega) oM;have b3:bsA prog (some 25) I 1 [(0,.agg el.toArray)]=some (sL I.next 1 1,H5):=by
  have e3:el=[iV x.op,el[1]?.getD undef,el[2]?.getD undef]:=by
   cases k with
   |zero=>exact D.elim
   |succ k=>obtain⟨_,_,_,_,rfl,_⟩:=D.path;rfl
  rw[W];cases k with
  |zero=>exact D.elim
  |succ k=>
   obtain⟨_,_,_,_,rfl,_⟩:=D.path;simp only[C7,aq,C8];rfl
 refine J16 ho g1 g3 a3 b O U c4 c7 ha a9 c6 b2 b3 c3 b0 ?_;have a8:i6 (H.next+1) H1 H6:=(((u.trans (E.weaken oM)).trans J).trans (a1.weaken oM)).trans c0;rw[<-List.append_assoc];exact F0 ((b9.weaken oM).imp fun cs q h=>h.mono (fun j hj=>by rw[<-X.get j oM]) lR) (X.trans (a8.weaken oM)) ((a8.weaken oM).low S)
theorem LA:∀k,T9 68 false 3 false (inQ false) k/\T9 91 true 3 false (inQ true) k:=by
 intro k;induction k with
 |zero=>exact⟨fun H lo cs q u y=>y.elim,fun H lo cs q u y=>y.elim⟩
 |succ k h=>exact⟨PJ k h.1 h.2,PL k h.2 h.1⟩
abbrev L3(x y:ByteArray×ByteArray):Bool:=decide (x.1=y.1)&&decide (x.2=y.2)
abbrev cj(x y:ByteArray):Bool:=decide (x=y)
abbrev aP(x y:Bool×Bool×ByteArray):Bool:=(x.1==y.1)&&((x.2.1==y.2.1)&&decide (x.2.2=y.2.2))
theorem HS(H0:d8)(lo:Nat)(va:Option Addr)(S:Nat)(l:List (ByteArray×ByteArray))(x:ByteArray×ByteArray)(hv:SlI H0 lo 2 (w9 nmE) (.slice va l.length S) l)(hn:l.length<=1048576)(bx:Nat)(U:H0.get bx=cE (nmE x) 1)(r:Bool):
  ∀O e H2,(∃i:Nat,O=l.length-i/\i<=l.length/\e.get 0= .slice va l.length S/\e.get 3=pT bx/\e.get 5=iV i/\H2=H0/\(l.drop i).any (fun y=>L3 y x)=r)->
  w7 (LE prog t6 (.loop Kw) e H2) (fun o e H2=>H2=H0/\((o= .exit 0/\r=false)\/(o= .ret/\e.get 4= .bool true/\r=true))):=by
 refine i8 _ _ ?_;rintro O e H2 ⟨i,hk,hi,D,E,I,hH,u⟩;subst hH;rcases b:decide ((i:Int)<l.length)with _|_
 .have J:=dF b;have:l.drop i=[]:=dN oM;rw[this,List.any_nil]at u;refine J3 D I b ?_;exact i9 ⟨rfl,.inl ⟨rfl,u.symm⟩⟩
 have J:=dT b;obtain⟨y,nb,o,cs,own,el,hx,hd,rfl,a2,W,a1,h,hc,rfl⟩:=hv.row (i:=i) oM;have X:(i:Int).toNat=i:=tN i;have c0:=hc 0 oM;rw[Nat.add_zero]at c0;rw[hd,List.any_cons]at u;rcases z:(L3 y x:Bool)with _|_
 .simp only[z,bF,Bool.false_or]at u;refine J10 D E I b U W X h @wrap_small z ?_;exact i4 (O-1) oM ⟨i+1,oM,oM,D,E,rfl,rfl,u⟩
 .simp only[z,if_true,Bool.true_or]at u;refine J9 D E I b U W X h z ?_;exact z9 ⟨rfl,.inr ⟨rfl,rfl,u.symm⟩⟩
theorem LK(H0:d8)(lo:Nat)(va:Option Addr)(S:Nat)(l:List (Bool×Bool×ByteArray))(x:Bool×Bool×ByteArray)(hv:SlI H0 lo 3 (w9 soE) (.slice va l.length S) l)(hn:l.length<=1048576)(bx:Nat)(U:H0.get bx=cE (soE x) 1)(r:Int):
  ∀O e H2,(∃i:Nat,O=l.length-i/\i<=l.length/\e.get 0= .slice va l.length S/\e.get 3=pT bx/\e.get 5=iV i/\H2=H0/\ixG (fun y=>aP y x) (l.drop i) i=r)->
  w7 (LE prog t6 (.loop MZ) e H2) (fun o e H2=>H2=H0/\((o= .exit 0/\r= -1)\/(o= .ret/\e.get 4=iV r))):=by
 refine i8 _ _ ?_;rintro O e H2 ⟨i,hk,hi,D,E,I,hH,u⟩;subst hH;rcases b:decide ((i:Int)<l.length)with _|_
 .have J:=dF b;have:l.drop i=[]:=dN oM;rw[this,ixG]at u;refine J3 D I b ?_;exact i9 ⟨rfl,.inl ⟨rfl,u.symm⟩⟩
 have J:=dT b;obtain⟨y,nb,o,cs,own,el,hx,hd,rfl,a2,W,a1,h,hc,rfl⟩:=hv.row (i:=i) oM;have X:(i:Int).toNat=i:=tN i;have c0:=hc 0 oM;rw[Nat.add_zero]at c0;rw[hd,ixG]at u;rcases z:(aP y x:Bool)with _|_
 .simp only[z,bF,Bool.false_or]at u;refine J11 D E I @lS b U W X h @wrap_small z ?_;exact i4 (O-1) oM ⟨i+1,oM,oM,D,E,rfl,rfl,u⟩
 .simp only[z,if_true,Bool.true_or]at u;refine J10 D E I @lS b U W X h z ?_;exact z9 ⟨rfl,.inr ⟨rfl,by rw[<-u];rfl⟩⟩
theorem LM(H0:d8)(lo:Nat)(va:Option Addr)(S:Nat)(l:List (ByteArray))(x:ByteArray)(hv:SlI H0 lo 1 (w9 stE) (.slice va l.length S) l)(hn:l.length<=1048576)(r:Bool):
  ∀O e H2,(∃i:Nat,O=l.length-i/\i<=l.length/\e.get 0= .slice va l.length S/\e.get 1= .string x/\e.get 5=iV i/\H2=H0/\(l.drop i).any (fun y=>cj y x)=r)->
  w7 (LE prog t6 (.loop NS) e H2) (fun o e H2=>H2=H0/\((o= .exit 0/\r=false)\/(o= .ret/\e.get 4= .bool true/\r=true))):=by
 refine i8 _ _ ?_;rintro O e H2 ⟨i,hk,hi,z,E,I,hH,h⟩;subst hH;rcases b:decide ((i:Int)<l.length)with _|_
 .have J:=dF b;have:l.drop i=[]:=dN oM;rw[this,List.any_nil]at h;refine J3 z I b ?_;exact i9 ⟨rfl,.inl ⟨rfl,h.symm⟩⟩
 have J:=dT b;obtain⟨y,nb,o,cs,own,el,hx,hd,rfl,a2,U,a1,W,hc,rfl⟩:=hv.row (i:=i) oM;have X:(i:Int).toNat=i:=tN i;have D:=hc 0 oM;rw[Nat.add_zero]at D;rw[hd,List.any_cons]at h;rcases u:(cj y x:Bool)with _|_
 .simp only[u,bF,Bool.false_or]at h;refine J9 z E I b U X D @wrap_small u ?_;exact i4 (O-1) oM ⟨i+1,oM,oM,z,E,rfl,rfl,h⟩
 .simp only[u,if_true,Bool.true_or]at h;refine J8 z E I b U X D u ?_;exact z9 ⟨rfl,.inr ⟨rfl,rfl,h.symm⟩⟩
theorem LL(H0:d8)(lo:Nat)(va:Option Addr)(U:Nat)(l:List (Bool×Bool×ByteArray))(x:Bool×Bool×ByteArray)(hv:SlI H0 lo 3 (w9 soE) (.slice va l.length U) l)(hn:l.length<=1048576)(bx:Nat)(W:H0.get bx=cE (soE x) 1)(r:Int):
  ∀S e H2,(∃i:Nat,S=l.length-i/\i<=l.length/\e.get 0= .slice va l.length U/\e.get 3=pT bx/\e.get 7=iV l.length/\e.get 8=iV i/\H2=H0/\ixG (fun y=>aP x y) (l.drop i) i=r)->
  w7 (LE prog t6 (.loop Nu) e H2) (fun o e H2=>H2=H0/\((o= .exit 0/\r= -1)\/(o= .ret/\e.get 4=iV r))):=by
 refine i8 _ _ ?_;rintro S e H2 ⟨i,hk,hi,E,I,D,J,hH,u⟩;subst hH;rcases b:decide ((i:Int)<l.length)with _|_
 .have O:=dF b;have:l.drop i=[]:=dN oM;rw[this,ixG]at u;refine J3 D J b ?_;exact i9 ⟨rfl,.inl ⟨rfl,u.symm⟩⟩
 have O:=dT b;obtain⟨y,nb,o,cs,own,el,hx,hd,rfl,a2,X,a1,h,hc,rfl⟩:=hv.row (i:=i) oM;have nt:(i:Int).toNat=i:=tN i;have c0:=hc 0 oM;rw[Nat.add_zero]at c0;rw[hd,ixG]at u;rcases z:(aP x y:Bool)with _|_
 .simp only[z,bF,Bool.false_or]at u;refine J12 E I D J @lS b W X nt h @wrap_small z ?_;exact i4 (S-1) oM ⟨i+1,oM,oM,E,I,D,rfl,rfl,u⟩
 .simp only[z,if_true,Bool.true_or]at u;refine J11 E I D J @lS b W X nt h z ?_;exact z9 ⟨rfl,.inr ⟨rfl,by rw[<-u];rfl⟩⟩
theorem HR(H0:d8)(lo:Nat)(va:Option Addr)(U:Nat)(l:List (ByteArray))(x:ByteArray)(hv:SlI H0 lo 1 (w9 stE) (.slice va l.length U) l)(hn:l.length<=1048576)(r:Int):
  ∀S e H2,(∃i:Nat,S=l.length-i/\i<=l.length/\e.get 0= .slice va l.length U/\e.get 1= .string x/\e.get 7=iV l.length/\e.get 8=iV i/\H2=H0/\ixG (fun y=>cj x y) (l.drop i) i=r)->
  w7 (LE prog t6 (.loop Kp) e H2) (fun o e H2=>H2=H0/\((o= .exit 0/\r= -1)\/(o= .ret/\e.get 4=iV r))):=by
 refine i8 _ _ ?_;rintro S e H2 ⟨i,hk,hi,E,I,z,J,hH,h⟩;subst hH;rcases b:decide ((i:Int)<l.length)with _|_
 .have O:=dF b;have:l.drop i=[]:=dN oM;rw[this,ixG]at h;refine J3 z J b ?_;exact i9 ⟨rfl,.inl ⟨rfl,h.symm⟩⟩
 have O:=dT b;obtain⟨y,nb,o,cs,own,el,hx,hd,rfl,a2,W,a1,X,hc,rfl⟩:=hv.row (i:=i) oM;have nt:(i:Int).toNat=i:=tN i;have D:=hc 0 oM;rw[Nat.add_zero]at D;rw[hd,ixG]at h;rcases u:(cj x y:Bool)with _|_
 .simp only[u,bF,Bool.false_or]at h;refine J10 E I z J b W nt D @wrap_small u ?_;exact i4 (S-1) oM ⟨i+1,oM,oM,E,I,z,rfl,rfl,h⟩
 .simp only[u,if_true,Bool.true_or]at h;refine J9 E I z J b W nt D u ?_;exact z9 ⟨rfl,.inr ⟨rfl,by rw[<-h];rfl⟩⟩
theorem HT(H0:d8)(lo:Nat)(va:Option Addr)(U:Nat)(l:List (ByteArray×ByteArray))(x:ByteArray×ByteArray)(hv:SlI H0 lo 2 (w9 nmE) (.slice va l.length U) l)(hn:l.length<=1048576)(bx:Nat)(W:H0.get bx=cE (nmE x) 1)(r:Int):
  ∀S e H2,(∃i:Nat,S=l.length-i/\i<=l.length/\e.get 0= .slice va l.length U/\e.get 3=pT bx/\e.get 7=iV l.length/\e.get 8=iV i/\H2=H0/\ixG (fun y=>L3 x y) (l.drop i) i=r)->
  w7 (LE prog t6 (.loop KM) e H2) (fun o e H2=>H2=H0/\((o= .exit 0/\r= -1)\/(o= .ret/\e.get 4=iV r))):=by
 refine i8 _ _ ?_;rintro S e H2 ⟨i,hk,hi,E,I,D,J,hH,u⟩;subst hH;rcases b:decide ((i:Int)<l.length)with _|_
 .have O:=dF b;have:l.drop i=[]:=dN oM;rw[this,ixG]at u;refine J3 D J b ?_;exact i9 ⟨rfl,.inl ⟨rfl,u.symm⟩⟩
 have O:=dT b;obtain⟨y,nb,o,cs,own,el,hx,hd,rfl,a2,X,a1,h,hc,rfl⟩:=hv.row (i:=i) oM;have nt:(i:Int).toNat=i:=tN i;have c0:=hc 0 oM;rw[Nat.add_zero]at c0;rw[hd,ixG]at u;rcases z:(L3 x y:Bool)with _|_
 .simp only[z,bF,Bool.false_or]at u;refine J11 E I D J b W X nt h @wrap_small z ?_;exact i4 (S-1) oM ⟨i+1,oM,oM,E,I,D,rfl,rfl,u⟩
 .simp only[z,if_true,Bool.true_or]at u;refine J10 E I D J b W X nt h z ?_;exact z9 ⟨rfl,.inr ⟨rfl,by rw[<-u];rfl⟩⟩
theorem Hj(H:d8)(lo:Nat)(v:Value)(l:List (ByteArray×ByteArray))(x:ByteArray×ByteArray)(a1:lo<=H.next)(O:SlI H lo 2 (w9 nmE) v l)(hn:l.length<=1048576):CL prog t6 113 [v,.agg (nmE x).toArray] H=some (.bool (l.any (fun y=>L3 y x)),none):=by
 obtain⟨va,S,rfl⟩:=O.slice;obtain⟨E,h,-,X,W⟩:=pushF H (bC (nmE x) 1);have J:H.next<=E.low:=by rw[h,l9];exact lR
 rw[j7 Jl rfl _ sM];refine J1 h.symm ?_;refine j8 (F:=fun z=>u5 _ _ _ (u9 (inBlock 0 z) _)=_) (HS E lo va S l x (O.mono (fun j hj=>W.get j oM) lR iF) hn H.next X (l.any (fun y=>L3 y x)) l.length _ _ ⟨0,rfl,oM,rfl,rfl,rfl,rfl,rfl⟩) ?_;rintro o e' H' ⟨I,⟨u,D⟩|⟨u,U,D⟩⟩
 .exact J3 u I D trivial
 .exact J4 u I U D trivial
theorem Ea(H:d8)(lo:Nat)(v:Value)(l:List (Bool×Bool×ByteArray))(x:Bool×Bool×ByteArray)(X:lo<=H.next)(J:SlI H lo 3 (w9 soE) v l)(hn:l.length<=1048576):CL prog t6 20 [v,.agg (soE x).toArray] H=some (.int .i64 (ixG (fun y=>aP y x) l 0),none):=by
 obtain⟨va,O,rfl⟩:=J.slice;obtain⟨D,h,-,W,U⟩:=pushF H (bC (soE x) 1);have I:H.next<=D.low:=by rw[h,l9];exact lR
 rw[j7 Pj rfl _ sM];refine J1 h.symm ?_;refine j8 (F:=fun z=>u5 _ _ _ (u9 (inBlock 0 z) _)=_) (LK D lo va O l x (J.mono (fun j hj=>U.get j oM) lR iF) hn H.next W (ixG (fun y=>aP y x) l 0) l.length _ _ ⟨0,rfl,oM,rfl,rfl,rfl,rfl,rfl⟩) ?_;rintro o e' H' ⟨E,⟨u,hr⟩|⟨u,S⟩⟩
 .exact J3 u E hr trivial
 .exact J3 u E S trivial
theorem Eb(H:d8)(lo:Nat)(v:Value)(l:List (Bool×Bool×ByteArray))(x:Bool×Bool×ByteArray)(X:lo<=H.next)(J:SlI H lo 3 (w9 soE) v l)(hn:l.length<=1048576):CL prog t6 39 [v,.agg (soE x).toArray] H=some (.int .i64 (ixG (fun y=>aP x y) l 0),none):=by
 obtain⟨va,O,rfl⟩:=J.slice;obtain⟨D,h,-,W,U⟩:=pushF H (bC (soE x) 1);have I:H.next<=D.low:=by rw[h,l9];exact lR
 rw[j7 Pn rfl _ sM];refine J1 h.symm ?_;refine j8 (F:=fun z=>u5 _ _ _ (u9 (inBlock 0 z) _)=_) (LL D lo va O l x (J.mono (fun j hj=>U.get j oM) lR iF) hn H.next W (ixG (fun y=>aP x y) l 0) l.length _ _ ⟨0,rfl,oM,rfl,rfl,rfl,rfl,rfl,rfl⟩) ?_;rintro o e' H' ⟨E,⟨u,hr⟩|⟨u,S⟩⟩
 .exact J3 u E hr trivial
 .exact J3 u E S trivial
theorem zr(H:d8)(lo:Nat)(v:Value)(l:List (ByteArray×ByteArray))(x:ByteArray×ByteArray)(X:lo<=H.next)(J:SlI H lo 2 (w9 nmE) v l)(hn:l.length<=1048576):CL prog t6 148 [v,.agg (nmE x).toArray] H=some (.int .i64 (ixG (fun y=>L3 x y) l 0),none):=by
 obtain⟨va,O,rfl⟩:=J.slice;obtain⟨D,h,-,W,U⟩:=pushF H (bC (nmE x) 1);have I:H.next<=D.low:=by rw[h,l9];exact lR
 rw[j7 Js rfl _ sM];refine J1 h.symm ?_;refine j8 (F:=fun z=>u5 _ _ _ (u9 (inBlock 0 z) _)=_) (HT D lo va O l x (J.mono (fun j hj=>U.get j oM) lR iF) hn H.next W (ixG (fun y=>L3 x y) l 0) l.length _ _ ⟨0,rfl,oM,rfl,rfl,rfl,rfl,rfl,rfl⟩) ?_;rintro o e' H' ⟨E,⟨u,hr⟩|⟨u,S⟩⟩
 .exact J3 u E hr trivial
 .exact J3 u E S trivial
theorem wY(H:d8)(lo:Nat)(v:Value)(l:List (ByteArray))(x:ByteArray)(O:lo<=H.next)(E:SlI H lo 1 (w9 stE) v l)(S:l.length<=1048576):CL prog t6 65 [v,.string x] H=some (.bool (l.any (fun y=>cj y x)),none):=by
 obtain⟨U,I,rfl⟩:=E.slice;rw[j7 Pw rfl _ sM];refine J1 bU ?_;refine j8 (F:=fun z=>u5 _ _ _ (u9 (inBlock 0 z) _)=_) (LM ⟨H.bs,H.next⟩ lo U I l x (E.mono (fun _ _=>rfl) lR iF) S (l.any (fun y=>cj y x)) l.length _ _ ⟨0,rfl,oM,rfl,rfl,rfl,rfl,rfl⟩) ?_;rintro o e' H' ⟨D,⟨h,u⟩|⟨h,J,u⟩⟩
 .exact J3 h D u trivial
 .exact J4 h D J u trivial
theorem Hi(H:d8)(lo:Nat)(v:Value)(l:List (ByteArray))(x:ByteArray)(J:lo<=H.next)(D:SlI H lo 1 (w9 stE) v l)(O:l.length<=1048576):CL prog t6 102 [v,.string x] H=some (.int .i64 (ixG (fun y=>cj x y) l 0),none):=by
 obtain⟨U,E,rfl⟩:=D.slice;rw[j7 Jj rfl _ sM];refine J1 bU ?_;refine j8 (F:=fun z=>u5 _ _ _ (u9 (inBlock 0 z) _)=_) (HR ⟨H.bs,H.next⟩ lo U E l x (D.mono (fun _ _=>rfl) lR iF) O (ixG (fun y=>cj x y) l 0) l.length _ _ ⟨0,rfl,oM,rfl,rfl,rfl,rfl,rfl,rfl⟩) ?_;rintro o e' H' ⟨u,⟨h,S⟩|⟨h,I⟩⟩
 .exact J3 h u S trivial
 .exact J3 h u I trivial
theorem Ew(H:d8)(lo:Nat)(v:Value)(l:List (ByteArray))(x:ByteArray)(h:lo<=H.next)(D:SlI H lo 1 (w9 stE) v l)(z:l.length<=1048576):CL prog t6 80 [v,.string x] H=some (.bool (l.any fun y=>cj x y),none):=by
 have u:=Hi ⟨H.bs,H.next⟩ lo v l x h (D.mono (fun _ _=>rfl) lR iF) z;rw[j7 QW rfl _ sM,<-gN];exact J1 u trivial
theorem PN(H:d8)(lo:Nat)(v:Value)(l:List (Bool×Bool×ByteArray))(x:Bool×Bool×ByteArray)(O:lo<=H.next)(W:SlI H lo 3 (w9 soE) v l)(S:l.length<=1048576):CL prog t6 85 [v,.agg (soE x).toArray] H=some (.bool (l.any fun y=>aP x y),none):=by
 obtain⟨z,h,-,J,D⟩:=pushF H (bC (soE x) 1);have E:H.next<=z.low:=by rw[h,l9];exact lR
 have U:=D.next;have I:=Eb z lo v l x oM (W.mono (fun j X=>D.get j oM) lR iF) S;have u:ldC (some true) (some 3) 0 (soE x)=some (.agg (soE x).toArray):=rfl;rw[j7 QZ rfl _ sM,<-gN];exact J4 h.symm J u I trivial
theorem Lt(H:d8)(lo:Nat)(v:Value)(l:List (ByteArray×ByteArray))(x:ByteArray×ByteArray)(O:lo<=H.next)(W:SlI H lo 2 (w9 nmE) v l)(S:l.length<=1048576):CL prog t6 147 [v,.agg (nmE x).toArray] H=some (.bool (l.any fun y=>L3 x y),none):=by
 obtain⟨z,h,-,J,D⟩:=pushF H (bC (nmE x) 1);have E:H.next<=z.low:=by rw[h,l9];exact lR
 have U:=D.next;have I:=zr z lo v l x oM (W.mono (fun j X=>D.get j oM) lR iF) S;have u:ldC (some true) (some 2) 0 (nmE x)=some (.agg (nmE x).toArray):=rfl;rw[j7 Pe rfl _ sM,<-gN];exact J4 h.symm J u I trivial
def lM{α:Type}(p:Q->Bool)(g:Q->α)(eq:α->α->Bool)(acc:List α)(l:List Q):List α:=l.foldl (fun acc f=>if p f&& !acc.any (fun y=>eq y (g f)) then acc++[g f] else acc) acc
theorem gR{α:Type}(p:Q->Bool)(g:Q->α)(u:α->α->Bool)(h:List α)(x:Q)(l:List Q):lM p g u h (x::l)=lM p g u (if p x&& !h.any (fun y=>u y (g x)) then h++[g x] else h) l:=rfl
theorem dW{α:Type}(p:Q->Bool)(g:Q->α)(u:α->α->Bool):∀(l:List Q)(h:List α),(lM p g u h l).length<=h.length+l.length
 |[],h=>lR
 |x::l,h=>by
  rw[gR,List.length_cons];have:=dW p g u l (if p x&& !h.any (fun y=>u y (g x)) then h++[g x] else h);have z:(if p x&& !h.any (fun y=>u y (g x)) then h++[g x] else h).length<=h.length+1:=by split<;>simp
  omega
abbrev qNm(f:Q):ByteArray×ByteArray:=(f.sp,f.lc)
def aQ(from_ to_:Int)(f:Q):Bool:=decide (from_<=f.op)&&decide (f.op<=to_)
def dt(op:Int)(n:ByteArray×ByteArray)(f:Q):Bool:=decide (f.op=op)&&L3 (qNm f) n
theorem xP(k:Nat)(E:d8)(lo:Nat)(b0:lo<=E.next)(va:Option Addr)(ca:Nat)(l:List Q)(hv:QsR E lo k true (.slice va l.length ca) l)(hn:l.length<=1000000)(a b:Int)(r:List (ByteArray×ByteArray)):
  ∀kk e H2,(∃(i:Nat)(h:List (ByteArray×ByteArray))(w:Value),kk=l.length-i/\i<=l.length/\h.length<=i/\e.get 0= .slice va l.length ca/\e.get 1=iV a/\e.get 2=iV b/\e.get 7=w/\e.get 8=iV i/\u6 H2 E.next 2 (w9 nmE) w h/\i6 E.next E H2/\lM (aQ a b) qNm L3 h (l.drop i)=r)->
  w7 (LE prog t6 (.loop Ol) e H2) (fun o e H2=>o= .exit 0/\∃w,e.get 7=w/\u6 H2 E.next 2 (w9 nmE) w r/\i6 E.next E H2):=by
 refine i8 _ _ ?_;rintro kk e H2 ⟨i,h,w,hk,hi,a9,D,I,S,X,f8,hO,U,u⟩;have b5:=U.next;rcases O:decide ((i:Int)<l.length)with _|_
 .have a4:=dF O;have:l.drop i=[]:=dN oM;rw[this]at u;refine J3 D f8 O ?_;exact i9 ⟨rfl,w,X,by rw[<-u];exact hO,U⟩
 have a4:=dT O;obtain⟨x,nb,o,cs,own,el,hx,hd,rfl,b4,hg,a5,a7,hc,hR⟩:=SlI.row hv (i:=i) oM;have nt:(i:Int).toNat=i:=tN i;cases k with
 |zero=>exact hR.elim
 |succ k=>
 obtain⟨b6,a8,wa,a6,rfl,_⟩:=hR.filter;have z:=(U.get nb oM).trans hg;have W:=hc 0 (by simp [qSz]);rw[Nat.add_zero]at W;have c1:=sR (j:=1) (m:=2) hc a5 (by simp [qSz]);simp only[qSz,if_true,List.drop_succ_cons,List.drop_zero,List.take_succ_cons,List.take_zero,List.getElem?_cons_zero]at W c1 z;rw[hd,gR]at u;have hh:=Hj H2 H2.next w h (qNm x) lR hO.sl oM;rcases J:decide (a<=x.op)with _|_
 .have hp:aQ a b x=false:=by rw[aQ,J];rfl
  rw[hp]at u;refine J9 D I f8 O z nt W J @wrap_small ?_;exact i4 (kk-1) oM ⟨i+1,h,w,oM,oM,oM,D,I,S,X,rfl,hO,U,u⟩
 rcases b2:decide (x.op<=b)with _|_
 .have hp:aQ a b x=false:=by rw[aQ,J,b2];rfl
  rw[hp]at u;refine J11 D I S f8 O z nt W J b2 @wrap_small ?_;exact i4 (kk-1) oM ⟨i+1,h,w,oM,oM,oM,D,I,S,X,rfl,hO,U,u⟩
 have hp:aQ a b x=true:=by rw[aQ,J,b2];rfl
 rw[hp]at u;rcases b3:h.any (fun y=>L3 y (qNm x))with _|_
 .rw[b3]at u hh;obtain⟨v',h',H4,ha,a1,a2,a3⟩:=hO.push1 (P:=prog) (t:=95) (by exact sV.2.2.2.2.2.2) dP.1 dP.2.1 dP.2.2.1 oM oM (cs:=[.string x.sp,.string x.lc]) (a:=qNm x) rfl rfl oM oM;refine J16 D I S X f8 O z nt W c1 J b2 hh ha a1 @wrap_small ?_;refine i4 (kk-1) oM ⟨i+1,h++[qNm x],v',oM,oM,by simp;omega,D,I,S,rfl,rfl,a2,U.trans a3,u⟩
 .rw[b3]at u hh;refine J14 D I S X f8 O z nt W c1 J b2 hh @wrap_small ?_;exact i4 (kk-1) oM ⟨i+1,h,w,oM,oM,oM,D,I,S,X,rfl,hO,U,u⟩
def V5(a b:Int)(l:List Q):List (ByteArray×ByteArray):=lM (aQ a b) qNm L3 [] l
theorem qI(H:d8)(lo k:Nat)(v:Value)(l:List Q)(a b:Int)(h:lo<=H.next)(E:QsR H lo k true v l)(S:l.length<=1000000):L8 (CL prog t6 87 [v,iV a,iV b] H) H 2 (w9 nmE) (V5 a b l):=by
 obtain⟨I,y,rfl⟩:=SlI.slice E;rw[j7 PC rfl _ sM];refine J1 ty3 ?_;have u:QsR ⟨H.bs,H.next⟩ lo k true (.slice I l.length y) l:=E.mono (fun _ _=>rfl) lR;refine j8 (F:=fun z=>L8 (u5 _ _ _ (u9 (inBlock 0 z) _)) _ _ _ _) (xP k ⟨H.bs,H.next⟩ lo h I y l u S a b (V5 a b l) l.length _ _ ⟨0,[],_,rfl,oM,by simp,rfl,rfl,rfl,rfl,rfl,u6.nil,i6.refl _ _,rfl⟩) ?_;rintro o e' W ⟨U,w,J,O,D⟩;refine J2 U J ?_;exact F0 O ((i6.start H).trans D) (D.low lR)
theorem vN(k:Nat)(H1:d8)(lo E:Nat)(b4:lo<=E)(b0:E<H1.next)(va:Option Addr)(ca:Nat)(l:List Q)(hv:QsR H1 lo k true (.slice va l.length ca) l)(hn:l.length<=1000000)(a:Int)(n:ByteArray×ByteArray)(hb:H1.get E=cE (nmE n) 1)(r:List ByteArray):
  ∀kk e H2,(∃(i:Nat)(h:List ByteArray)(w:Value),kk=l.length-i/\i<=l.length/\h.length<=i/\e.get 0= .slice va l.length ca/\e.get 1=iV a/\e.get 5=pT E/\e.get 7=w/\e.get 8=iV i/\u6 H2 (E+1) 1 (w9 stE) w h/\i6 (E+1) H1 H2/\lM (dt a n) Q.vl cj h (l.drop i)=r)->
  w7 (LE prog t6 (.loop Om) e H2) (fun o e H2=>o= .exit 0/\∃w,e.get 7=w/\u6 H2 (E+1) 1 (w9 stE) w r/\i6 (E+1) H1 H2):=by
 refine i8 _ _ ?_;rintro kk e H2 ⟨i,h,w,hk,hi,a9,I,J,W,f7,f8,hO,O,z⟩;have b6:=O.next;have X:=(O.get E oM).trans hb;have u:ldC (some true) (some 2) 0 (nmE n)=some (.agg (nmE n).toArray):=rfl;rcases U:decide ((i:Int)<l.length)with _|_
 .have a4:=dF U;have:l.drop i=[]:=dN oM;rw[this]at z;refine J3 I f8 U ?_;exact i9 ⟨rfl,w,f7,by rw[<-z];exact hO,O⟩
 have a4:=dT U;obtain⟨x,nb,o,cs,own,el,hx,hd,rfl,b5,hg,a5,a7,hc,hR⟩:=SlI.row hv (i:=i) oM;have nt:(i:Int).toNat=i:=tN i;cases k with
 |zero=>exact hR.elim
 |succ k=>
 obtain⟨b7,a8,wa,a6,rfl,_⟩:=hR.filter;have D:=(O.get nb oM).trans hg;have c0:=hc 0 (by simp [qSz]);rw[Nat.add_zero]at c0;have c1:=sR (j:=1) (m:=2) hc a5 (by simp [qSz]);have c3:=hc 3 (by simp [qSz]);simp only[qSz,if_true,List.drop_succ_cons,List.drop_zero,List.take_succ_cons,List.take_zero,List.getElem?_cons_zero,List.getElem?_cons_succ]at c0 c1 c3 D;rw[hd,gR]at z;have hh:=wY H2 H2.next w h x.vl lR hO.sl oM;rcases S:decide (x.op=a)with _|_
 .have hp:dt a n x=false:=by rw[dt,S];rfl
  rw[hp]at z;refine J9 I J f8 U D nt c0 S @wrap_small ?_;exact i4 (kk-1) oM ⟨i+1,h,w,oM,oM,oM,I,J,W,f7,rfl,hO,O,z⟩
 rcases b2:(decide (x.sp=n.1)&&decide (x.lc=n.2))with _|_
 .have hp:dt a n x=false:=by rw[dt,S,L3,b2];rfl
  rw[hp]at z;refine J14 I J W f8 U X u D nt c0 c1 S b2 @wrap_small ?_;exact i4 (kk-1) oM ⟨i+1,h,w,oM,oM,oM,I,J,W,f7,rfl,hO,O,z⟩
 have hp:dt a n x=true:=by rw[dt,S,L3,b2];rfl
 rw[hp]at z;rcases b3:h.any (fun y=>cj y x.vl)with _|_
 .rw[b3]at z hh;obtain⟨v',h',H4,ha,a1,a2,a3⟩:=hO.push1 (P:=prog) (t:=97) (by exact bU.2.2.2.2.2.2) ty9.1 ty9.2.1 ty9.2.2.1 oM oM (cs:=[.string x.vl]) (a:=x.vl) rfl rfl oM oM;refine J19 I J W f7 f8 U X u D nt c0 c1 c3 S b2 hh ha a1 @wrap_small ?_;refine i4 (kk-1) oM ⟨i+1,h++[x.vl],v',oM,oM,by simp;omega,I,J,W,rfl,rfl,a2,O.trans a3,z⟩
 .rw[b3]at z hh;refine J17 I J W f7 f8 U X u D nt c0 c1 c3 S b2 hh @wrap_small ?_;exact i4 (kk-1) oM ⟨i+1,h,w,oM,oM,oM,I,J,W,f7,rfl,hO,O,z⟩
def R9(a:Int)(n:ByteArray×ByteArray)(l:List Q):List ByteArray:=lM (dt a n) Q.vl cj [] l
theorem oG(H:d8)(lo k:Nat)(v:Value)(l:List Q)(a:Int)(n:ByteArray×ByteArray)(E:lo<=H.next)(U:QsR H lo k true v l)(hn:l.length<=1000000):L8 (CL prog t6 88 [v,iV a,.agg (nmE n).toArray] H) H 1 (w9 stE) (R9 a n l):=by
 obtain⟨W,J,rfl⟩:=SlI.slice U;obtain⟨D,h,-,S,O⟩:=pushF H (bC (nmE n) 1);have y:H.next<=D.low:=by rw[h,l9];exact lR
 rw[j7 PD rfl _ sM];refine J1 h.symm ?_;have I:QsR D lo k true (.slice W l.length J) l:=U.mono (fun j hj=>O.get j oM) lR;refine j8 (F:=fun z=>L8 (u5 _ _ _ (u9 (inBlock 0 z) _)) _ _ _ _) (vN k D lo H.next E (u7 S) W J l I hn a n S (R9 a n l) l.length _ _ ⟨0,[],_,rfl,oM,by simp,rfl,rfl,rfl,rfl,rfl,u6.nil,i6.refl _ _,rfl⟩) ?_;rintro o e' H3 ⟨ho,w,X,hO,u⟩;refine J2 ho X ?_;exact F0 (hO.weaken oM) (O.trans (u.weaken oM)) ((u.weaken oM).low y)
def dg1(n:Nat):ByteArray:=⟨#[UInt8.ofNat (48+n)]⟩
def dg(n:Nat):ByteArray:=if h:n<10 then dg1 n else dg (n / 10)++dg (n % 10)
termination_by n
decreasing_by all_goals omega
def dgV(l:List UInt8):Nat:=l.foldl (fun a b=>10*a+(b.toNat-48)) 0
theorem ct(a b:ByteArray):(a++b).data.toList=a.data.toList++b.data.toList:=by simp
theorem DK:∀n,dgV (dg n).data.toList=n:=by
 intro n;induction n using Nat.strongRecOn with
 |ind n E=>
  rw[dg];split
  .rename_i h;have:∀m:Fin 10,dgV (dg1 m.1).data.toList=m.1:=by decide
   exact this ⟨n,h⟩
  .rename_i h;have u:=E (n / 10) oM;have y:dg (n % 10)=dg1 (n % 10):=by rw[dg,dif_pos oM]
   have z:∀m:Fin 10,((UInt8.ofNat (48+m.1)).toNat-48)=m.1:=by decide
   rw[y,ct,dgV,List.foldl_append];rw[dgV]at u;rw[u];show 10*(n / 10)+((UInt8.ofNat (48+n % 10)).toNat-48)=n;have D:((UInt8.ofNat (48+n % 10)).toNat-48)=n % 10:=z ⟨n % 10,oM⟩;rw[D];omega
theorem rJ{n m:Nat}(h:dg n=dg m):n=m:=by rw[<-DK n,h,DK]
theorem lU:∀n,(dg n).size<=n+1:=by
 intro n;induction n using Nat.strongRecOn with
 |ind n u=>
  rw[dg];split
  .show 1<=n+1;omega
  .rename_i h;have z:=u (n / 10) oM;have D:=u (n % 10) oM;have y:(dg (n % 10)).size=1:=by rw[dg,dif_pos oM];rfl
   rw[ByteArray.size_append,y];omega
theorem Me{α:Type}(f:Nat->α)(I:∀i j,f i=f j->i=j):∀(l:List α)(u:List Nat),u.Nodup->(∀i∈u,f i∈l)->u.length<=l.length:=by
 intro l u;induction u generalizing l with
 |nil=>intro _ _;simp
 |cons n u J=>
  intro E D;obtain⟨s,t,rfl⟩:=List.append_of_mem (D n sM);have:=J (s++t) (List.nodup_cons.1 E).2 (fun i z=>by
   have h:=D i (by simp [z]);have y:i≠n:=fun q=>(List.nodup_cons.1 E).1 (q▸z);simp only[List.mem_append,List.mem_cons]at h ⊢;rcases h with h|h|h
   .exact .inl h
   .exact absurd (I _ _ h) y
   .exact .inr h)
  simp only[List.length_append,List.length_cons]at this ⊢;omega
def di(p:Nat->Bool):Nat->Nat->Nat
 |0,n=>n
 |k+1,n=>if p n then di p k (n+1) else n
theorem dy(p:Nat->Bool):∀k n,(∃m,n<=m/\m<n+k/\p m=false)->p (di p k n)=false/\di p k n<n+k
 |0,n,h=>by obtain⟨m,z,D,_⟩:=h;omega
 |k+1,n,h=>by
  rw[di];split
  .rename_i y;obtain⟨m,z,D,u⟩:=h;have E:m≠n:=fun q=>by rw[q,y]at u;cases u
   have:=dy p k (n+1) ⟨m,oM,oM,u⟩;exact⟨this.1,oM⟩
  .rename_i y;exact⟨by simpa using y,oM⟩
theorem rO{α:Type}(f:Nat->α)(y:∀i j,f i=f j->i=j) (l:List α) (p:Nat->Bool) (D:∀i,p i=true->f i∈l):∃m,m<l.length+1/\p m=false:=by
 apply Classical.byContradiction;intro h;have u:∀i∈List.range (l.length+1),f i∈l:=fun i z=>D i (by
  cases E:p i with
  |true=>rfl
  |false=>exact absurd ⟨i,List.mem_range.1 z,E⟩ h)
 have:=Me f y l _ List.nodup_range u;rw[List.length_range]at this;omega
theorem GS(n:Nat)(h:n<10):IntKind.wrap .u8 (48+(n:Int))=48+(n:Int):=by
 have:∀m:Fin 10,IntKind.wrap .u8 (48+(m.1:Int))=48+(m.1:Int):=by decide
 exact this ⟨n,h⟩
theorem DG(H:d8)(b:Nat)(n:Int)(h:H.get b=cE [.int .u8 n] 1)(c:Nat):Z4 prog H 81 9 (sL b 1 c)=some (.string ⟨#[UInt8.ofNat n.toNat]⟩,none):=by
 have:A5 H 1 (sL b 1 c)=some [.int .u8 n]:=by simp [A5,h]
 simp only[Z4,yR,ty9,ty5,this,Option.bind_some];rfl
theorem iL:∀(n:Nat)(H:d8),n<=1000000->CL prog t6 89 [iV n] H=some (.string (dg n),none):=by
 intro n;induction n using Nat.strongRecOn with
 |ind n D=>
  intro H hn;rw[j7 Ra rfl _ sM];rcases b:decide ((n:Int)<10)with _|_
  .have O:=dF b;have I:=D (n / 10) oM;have J:=D (n % 10) oM;have W:((n:Int).tdiv 10)=((n / 10:Nat):Int):=by rw[Int.tdiv_eq_ediv_of_nonneg oM];omega
   have X:((n:Int).tmod 10)=((n % 10:Nat):Int):=by rw[Int.tmod_eq_emod_of_nonneg oM];omega
   have z1:=lU (n / 10);have z2:=lU (n % 10);have z:dg n=dg (n / 10)++dg (n % 10):=by rw[dg,dif_neg oM]
   have S:∀a:Int,F6 prog .quo 3 (.int .i64 a) (.int .i64 10)=some (.int .i64 (IntKind.wrap .i64 (a.tdiv 10))):=fun a=>sH 3 a 10 oM;have U:∀a:Int,F6 prog .rem 3 (.int .i64 a) (.int .i64 10)=some (.int .i64 (a.tmod 10)):=fun a=>GE 3 .i64 a 10 oM;have hs:=Z3 (P:=prog) 9 (dg (n / 10)) (dg (n % 10)) oM;have u:∀H,CL prog t6 89 [iV ((n / 10:Nat):Int)] H=some (.string (dg (n / 10)),none):=fun H=>I H oM;have y:∀H,CL prog t6 89 [iV ((n % 10:Nat):Int)] H=some (.string (dg (n % 10)),none):=fun H=>J H oM;exact J10 b S U W X @wrap_small u y hs z trivial
  .have O:=dT b;have z:dg n=dg1 n:=by rw[dg,dif_pos oM]
   have w1:=GS n oM;have h:=DG (d8.push ⟨H.bs,H.next⟩ (bC [.int .u8 (48+(n:Int))] 1)) H.next (48+n) j9 1;have E:(48+(n:Int)).toNat=48+n:=oM;rw[E]at h;simp(maxSteps:=20000000) -dsimp (disch:=first|omega|(simp only[rH]<;>omega)|fail) only[↓ig,rQ,N3,sevalprocAttr,tyA,b,wrap_small,w1,h,z,dg1]
def T7(l:List ByteArray)(s:ByteArray):Bool:=l.any fun y=>cj y s
theorem ni{l:List ByteArray}{s:ByteArray}(h:T7 l s=true):s∈l:=by
 obtain⟨y,u,z⟩:=List.any_eq_true.1 h;have:=dT z;exact this▸u
def T8(l:List ByteArray):Nat:=di (fun n=>T7 l (dg n)) (l.length+1) 0
theorem me(l:List ByteArray):T7 l (dg (T8 l))=false/\T8 l<l.length+1:=by
 obtain⟨m,y,u⟩:=rO dg (fun i j=>rJ) l (fun n=>T7 l (dg n)) (fun i h=>ni h);have:=dy (fun n=>T7 l (dg n)) (l.length+1) 0 ⟨m,oM,oM,u⟩;exact⟨this.1,by have:=this.2;rw[T8];omega⟩
theorem cD(p:Nat->Bool):∀k n,n<=di p k n/\∀m,n<=m->m<di p k n->p m=true
 |0,n=>⟨lR,fun m u h=>by rw[di]at h;omega⟩
 |k+1,n=>by
  rw[di];split
  .rename_i D;obtain⟨u,h⟩:=cD p k (n+1);exact⟨oM,fun m E y=>by
    by_cases z:m=n
    .rw[z];exact D
    .exact h m oM y⟩
  .exact⟨lR,fun m u h=>oM⟩
theorem pE(H0:d8)(lo:Nat)(E:lo<=H0.next)(v:Value)(l:List ByteArray)(hv:SlI H0 lo 1 (w9 stE) v l)(hn:l.length<=100000):
  ∀O e H2,(∃n:Nat,O=T8 l+1-n/\n<=T8 l/\e.get 0=v/\e.get 3=iV n/\H2=H0)->
  w7 (LE prog t6 (.loop NT) e H2) (fun o e H2=>H2=H0/\o= .exit 0/\e.get 3=iV (T8 l)):=by
 refine i8 _ _ ?_;rintro O e H2 ⟨n,hk,X,u,z,U⟩;subst U;obtain⟨W,a1⟩:=me l;have D:=(cD (fun n=>T7 l (dg n)) (l.length+1) 0).2;have S:=iL n H2 oM;have h:=wY H2 lo v l (dg n) E hv oM;by_cases I:n=T8 l
 .have J:(l.any fun y=>cj y (dg n))=false:=by rw[I];exact W
  rw[J]at h;refine J4 u z S h ?_;exact i9 ⟨rfl,rfl,by rw[<-I];exact z⟩
 .have J:(l.any fun y=>cj y (dg n))=true:=D n oM (by rw[T8]at I X;omega);rw[J]at h;refine J5 u z S h @wrap_small ?_;exact i4 (O-1) oM ⟨n+1,oM,oM,u,rfl,rfl⟩
theorem jH(H:d8)(lo:Nat)(v:Value)(l:List ByteArray)(h:lo<=H.next)(O:SlI H lo 1 (w9 stE) v l)(I:l.length<=100000):CL prog t6 66 [v] H=some (.string (dg (T8 l)),none):=by
 obtain⟨S,E⟩:=me l;have D:∀H,CL prog t6 89 [iV (T8 l:Int)] H=some (.string (dg (T8 l)),none):=fun H=>iL (T8 l) H oM;rw[j7 Px rfl _ sM];refine J1 ty3 ?_;refine j8 (F:=fun z=>u5 _ _ _ (u9 (inBlock 0 z) _)=_) (pE ⟨H.bs,H.next⟩ lo h v l (O.mono (fun _ _=>rfl) lR iF) I (T8 l+1) _ _ ⟨0,rfl,oM,rfl,rfl,rfl⟩) ?_;rintro o e' H' ⟨y,J,u⟩;exact J4 J y u D trivial
def zS:ByteArray:=⟨#[122]⟩
def zN(n:Nat):ByteArray:=if n=0 then zS else zS++dg n
theorem Kl(n:Nat):1<=(dg n).size:=by
 rw[dg];split
 .exact Nat.le_refl 1
 .rename_i h;have u:(dg (n % 10)).size=1:=by rw[dg,dif_pos oM];rfl
  rw[ByteArray.size_append,u];omega
theorem ri{a b c:ByteArray}(h:a++b=a++c):b=c:=by
 have u:(a++b).data.toList=(a++c).data.toList:=by rw[h]
 rw[ct,ct]at u;have y:=List.append_cancel_left u;obtain⟨b⟩:=b;obtain⟨c⟩:=c;have z:b=c:=Array.toList_inj.1 y;rw[z]
theorem MK(i j:Nat)(h:zN i=zN j):i=j:=by
 unfold zN at h;have hs:∀n,(zS++dg n).size≠zS.size:=fun n=>by have:=Kl n;rw[ByteArray.size_append];omega
 split at h<;>split at h
 .omega
 .exact absurd (congrArg ByteArray.size h).symm (hs _)
 .exact absurd (congrArg ByteArray.size h) (hs _)
 .exact rJ (ri h)
def P8(l:List (ByteArray×ByteArray))(x:ByteArray×ByteArray):Bool:=l.any fun y=>L3 y x
theorem E9{x y:ByteArray×ByteArray}:L3 x y=true↔x=y:=by
 simp only[L3,Bool.and_eq_true,decide_eq_true_eq];exact Prod.ext_iff.symm
theorem qr{l:List (ByteArray×ByteArray)}{x:ByteArray×ByteArray}(h:P8 l x=true):x∈l:=by
 obtain⟨y,u,z⟩:=List.any_eq_true.1 h;exact(E9.1 z)▸u
def zNm(n:Nat):ByteArray×ByteArray:=(eB,zN n)
def Q6(l:List (ByteArray×ByteArray)):Nat:=di (fun n=>P8 l (zNm n)) (l.length+1) 0
theorem sF(l:List (ByteArray×ByteArray)):P8 l (zNm (Q6 l))=false/\Q6 l<l.length+1:=by
 obtain⟨m,y,u⟩:=rO zNm (fun i j h=>MK i j (congrArg Prod.snd h)) l (fun n=>P8 l (zNm n)) (fun i h=>qr h);have:=dy (fun n=>P8 l (zNm n)) (l.length+1) 0 ⟨m,oM,oM,u⟩;exact⟨this.1,by have:=this.2;rw[Q6];omega⟩
theorem Fo(H0:d8)(lo:Nat)(va:Option Addr)(I:Nat)(l:List (ByteArray×ByteArray))(x:ByteArray×ByteArray)(hv:SlI H0 lo 2 (w9 nmE) (.slice va l.length I) l)(hn:l.length<=100000)(pb:Nat)(hb:H0.get pb=cE (nmE x) 1)(p2:Value)(n3:Value)(r:Bool):
  ∀E e H2,(∃(i:Nat)(f:Bool),E=l.length-i/\i<=l.length/\e.get 0= .slice va l.length I/\e.get 2=p2/\e.get 3=n3/\e.get 4=pT pb/\e.get 5= .bool f/\e.get 6=iV i/\H2=H0/\(f||(l.drop i).any fun y=>L3 y x)=r)->
  w7 (LE prog t6 (.loop Jh) e H2) (fun o e H2=>H2=H0/\o= .exit 2/\e.get 0= .slice va l.length I/\e.get 2=p2/\e.get 3=n3/\e.get 4=pT pb/\e.get 5= .bool r):=by
 refine i8 _ _ ?_;rintro E e H2 ⟨i,f,hk,hi,h,J,O,D,S,U,hH,u⟩;subst hH;have X:ldC (some true) (some 2) 0 (nmE x)=some (.agg (nmE x).toArray):=rfl;rcases b:decide ((i:Int)<l.length)with _|_
 .have W:=dF b;have:l.drop i=[]:=dN oM;rw[this,List.any_nil,Bool.or_false]at u;refine J3 h U b ?_;exact i9 ⟨rfl,rfl,h,J,O,D,by rw[<-u];exact S⟩
 have W:=dT b;obtain⟨y,nb,o,cs,own,el,hx,hd,rfl,a2,hg,a1,z,hc,rfl⟩:=hv.row (i:=i) oM;have nt:(i:Int).toNat=i:=tN i;rw[hd,List.any_cons,<-Bool.or_assoc]at u;rcases f with _|_
 .refine J11 h D S U b hb hg nt z X @wrap_small ?_;exact i4 (E-1) oM ⟨i+1,L3 y x,oM,oM,h,J,O,D,rfl,rfl,rfl,by rw[<-u];rfl⟩
 .refine J5 h S U b @wrap_small ?_;exact i4 (E-1) oM ⟨i+1,true,oM,oM,h,J,O,D,rfl,rfl,rfl,by rw[<-u];rfl⟩
theorem xV(y:d8)(lo p2:Nat)(a4:lo<=p2)(a8:p2<y.next)(U:Option Addr)(I:Nat)(l:List (ByteArray×ByteArray))(hv:SlI y lo 2 (w9 nmE) (.slice U l.length I) l)(hn:l.length<=100000)(hb:y.get p2=cE [.string eB,.string eB] 1):
  ∀E e H2,(∃n:Nat,E=Q6 l+1-n/\n<=Q6 l/\e.get 0= .slice U l.length I/\e.get 2=pT p2/\e.get 3=iV n/\i6 (p2+1) y H2)->
  w7 (LE prog t6 (.loop NP) e H2) (fun o e H2=>o= .ret/\e.get 2=pT p2/\H2.get p2=some (.cells (nmE (zNm (Q6 l))) true 1)/\i6 p2 y H2):=by
 refine i8 _ _ ?_;rintro E e H2 ⟨n,hk,hi,f0,f2,W,J⟩;obtain⟨hf,a5⟩:=sF l;have a1:=(cD (fun n=>P8 l (zNm n)) (l.length+1) 0).2;have a6:=J.next;have hd:=fun H=>iL n H oM;have a3:=lU n;have hs:=Z3 (P:=prog) 9 ⟨#[122]⟩ (dg n) (by show 1+_<=_;omega);have key:∀(D:d8)(u:Env),i6 (p2+1) H2 D->D.get H2.next=some (.cells (nmE (zNm n)) true 1)->u.get 0= .slice U l.length I->u.get 2=pT p2->u.get 3=iV n->u.get 4=pT H2.next->u.get 5= .bool false->u.get 6=iV 0->
   w7 (inBlock 1 (u9 (inBlock 2 (LE prog t6 Jh.loop u D)) (LE prog t6 (((t7.ops [⟨some 29,.move (.tmp 5),none⟩,⟨some 30,.unOp .not 4 (.tmp 29),none⟩]).seq NQ).seq NR)))) (cQ E (fun E e H2=>∃n:Nat,E=Q6 l+1-n/\n<=Q6 l/\e.get 0= .slice U l.length I/\e.get 2=pT p2/\e.get 3=iV n/\i6 (p2+1) y H2) (fun o e H2=>o= .ret/\e.get 2=pT p2/\H2.get p2=some (.cells (nmE (zNm (Q6 l))) true 1)/\i6 p2 y H2)):=by
  intro D u h S g0 g2 g3 g4 g5 g6;have a7:=h.next;have O:D.get p2=_:=(h.get p2 oM).trans ((J.get p2 oM).trans hb);refine j8 (F:=fun z=>w7 (inBlock 1 (u9 (inBlock 2 z) _)) _) (Fo D lo U I l (zNm n) (hv.mono (fun j hj=>by rw[h.get j oM,J.get j oM]) lR iF) hn H2.next S _ _ (P8 l (zNm n)) l.length _ _ ⟨0,false,rfl,oM,g0,g2,g3,g4,g5,g6,rfl,rfl⟩) ?_;rintro o e4 H4 ⟨rfl,ho,k0,k2,k3,k4,X⟩;have a2:ldC (some true) (some 2) 0 (nmE (zNm n))=some (.agg (nmE (zNm n)).toArray):=rfl;by_cases hm:n=Q6 l
  .have hq:P8 l (zNm n)=false:=by rw[hm];exact hf
   rw[hq]at X;refine J7 ho k2 k4 X S a2 O ?_;refine z9 ⟨rfl,k2,?_,(J.weaken oM).trans ((h.weaken oM).trans (i6.put lR))⟩;rw[j5 (u7 O),hm]
  .have hq:P8 l (zNm n)=true:=a1 n oM (by rw[Q6]at hm hi;omega);rw[hq]at X;refine J4 ho k3 X @wrap_small ?_;exact i4 (E-1) oM ⟨n+1,oM,oM,k0,k2,rfl,J.trans h⟩
 by_cases h0:n=0
 .have b0:decide ((0:Int)<n)=false:=decide_eq_false oM;refine J2 W b0 ?_;refine key _ _ ((i6.push oM).trans (i6.put oM)) ?_ f0 f2 W rfl rfl rfl;rw[j5 (by rw[i5];omega),zNm,zN,if_pos h0];rfl
 .have b0:decide ((0:Int)<n)=true:=decide_eq_true oM;refine J4 W b0 hd hs ?_;refine key _ _ (((i6.push oM).trans (i6.put oM)).trans (i6.put oM)) ?_ f0 f2 W rfl rfl rfl;rw[j5 (by rw[t5,i5];omega),zNm,zN,if_neg h0];rfl
theorem Cj(H:d8)(lo:Nat)(v:Value)(l:List (ByteArray×ByteArray))(E:lo<=H.next)(S:SlI H lo 2 (w9 nmE) v l)(hn:l.length<=100000):CL prog t6 64 [v] H=some (.agg (nmE (zNm (Q6 l))).toArray,none):=by
 obtain⟨va,U,rfl⟩:=S.slice;obtain⟨J,h,-,O,X⟩:=pushF H (bC [.string eB,.string eB] 1);have u:H.next<=J.low:=by rw[h,l9];exact lR
 rw[j7 Eh rfl _ sM];refine J1 h.symm ?_;refine j8 (F:=fun z=>u5 _ _ _ (inBlock 0 z)=_) (xV J lo H.next E (u7 O) va U l (S.mono (fun j hj=>X.get j oM) lR iF) hn O (Q6 l+1) _ _ ⟨0,rfl,oM,rfl,rfl,rfl,i6.refl _ _⟩) ?_;rintro o e' H' ⟨ho,W,D,y⟩;have hl:=y.low u;have I:ldC (some true) (some 2) 0 (nmE (zNm (Q6 l)))=some (.agg (nmE (zNm (Q6 l))).toArray):=rfl;exact J4 ho W D I trivial
end Go.Proofs.YtofbhlhamfkljaaGreatDoor.Ve
namespace Go.Proofs.YtofbhlhamfkljaaGreatDoor.Ve
open Go Go.RowKit
def l7(w:Value)(b:Nat):Prop:=∃n c,w= .slice (some ⟨b,0,none⟩) n c
theorem B8(b:Nat):¬l7 (.slice none 0 0) b:=fun⟨_,_,h⟩=>by cases h
theorem E6{b u n c:Nat}:l7 (.slice (some ⟨b,0,none⟩) n c) u↔u=b:=⟨fun⟨_,_,h⟩=>by cases h;rfl,fun h=>⟨n,c,by rw[h]⟩⟩
def SlF(H:d8)(F:Nat->Prop)(sz:Nat){α:Type}(R:LV->α->Prop)(v:Value)(l:List α):Prop:=
 (v= .slice none 0 0/\l=[])\/
 ∃b o c,v= .slice (some ⟨b,o,none⟩) l.length c/\
  (l=[]\/∃cs own,F b/\H.get b=some (.cells cs own sz)/\o+l.length*sz<=cs.length/\∀(i:Nat) a,l[i]?=some a->R ((cs.drop (o+i*sz)).take sz) a)
section
variable{α:Type}{R R':List Value->α->Prop}{H H':d8}{F F':Nat->Prop}{lo sz:Nat}{v w:Value}{l l2:List α}
theorem SlI.slF(h:SlI H lo sz R v l):SlF H (· <lo) sz R v l:=h
theorem SlF.mono(h:SlF H F sz R v l)(J:∀j,F j->H'.get j=H.get j) (E:∀j,F j->F' j) (I:∀cs a,R cs a->R' cs a):SlF H' F' sz R' v l:=by
 rcases h with h|⟨b,o,c,S,h⟩
 .exact .inl h
 .refine .inr ⟨b,o,c,S,?_⟩;rcases h with h|⟨cs,own,u,y,z,D⟩
  .exact .inl h
  .exact .inr ⟨cs,own,E _ u,by rw[J b u];exact y,z,fun i a O=>I _ _ (D i a O)⟩
theorem SlF.sl(h:SlF H F sz R v l)(u:∀j,F j->j<lo):SlI H lo sz R v l:=h.mono (fun _ _=>rfl) u iF
theorem SlF.slice(h:SlF H F sz R v l):∃a c,v= .slice a l.length c:=by
 rcases h with⟨h,u⟩|⟨b,o,c,y,h⟩
 .exact⟨none,0,by rw[h,u];rfl⟩
 .exact⟨_,_,y⟩
theorem u6.frz(h:u6 H lo sz R w l)(I:∀b,l7 w b->F b):SlF H F sz R w l:=by
 obtain⟨cs,z,D⟩:=h;rcases z with⟨h,y,_⟩|⟨b,c,u,E,O,S⟩
 .exact .inl ⟨h,List.length_eq_zero_iff.1 y⟩
 .refine .inr ⟨b,0,c,u,.inr ⟨cs,true,I b ⟨_,_,u⟩,E,oM,fun i a J=>?_⟩⟩;rw[Nat.zero_add];exact D.2 i a J
theorem u6.lt(h:u6 H lo sz R w l){b:Nat}(E:l7 w b):lo<=b/\b<H.next:=by
 obtain⟨cs,u,O⟩:=h;obtain⟨n,c,rfl⟩:=E;rcases u with⟨h,_⟩|⟨I,J,y,z,D,S⟩
 .cases h
 .cases y;exact⟨D,u7 z⟩
theorem u6.same(h:u6 H lo sz R w l)(J:∀b,l7 w b->H'.get b=H.get b):u6 H' lo sz R w l:=by
 obtain⟨cs,y,z⟩:=h;refine⟨cs,?_,z⟩;rcases y with h|⟨b,c,u,D,E,I⟩
 .exact .inl h
 .exact .inr ⟨b,c,u,by rw[J b ⟨_,_,u⟩];exact D,E,I⟩
theorem Gu{P:Program}{t e:TypeId}{bytes n m k:Nat}{z cs el:LV}{a:Option Addr}(ht:P.underlying t=some (.slice e))(hs:D8 P e=some sz)(D:V0 P e=some bytes)(X:O9 P e=some z)(h0:0<sz)(h1:0<bytes)
  (h:cg H lo sz v n cs) (hx:A5 H sz (.slice a m k)=some el) (O:el.length=m*sz) (hr:(n+m)*bytes<=140737488355328) (y:lo<=H.next):
  Ret (C2 P H [t,t] v (.slice a m k)) H fun v' H'=>cg H' lo sz v' (n+m) (cs++el)/\i6 lo H H'/\(∀j,j<H.next->¬l7 v j->H'.get j=H.get j)/\((v'=v/\H'=H)\/∀b,l7 v' b->H.next<=b):=by
 have J:I5 P t=some e:=by simp [I5,ht]
 have u:aY P H sz (some t) (.slice a m k)=some (m,el):=by
  simp only[aY,Option.bind_some,ht,hx,Option.map_some]
 have I:¬(sz=0\/bytes=0):=oM;by_cases hm:m=0
 .subst hm;have he:el=[]:=List.length_eq_zero_iff.1 oM;subst he;rw[Nat.add_zero,List.append_nil];refine⟨v,none,H,?_,rfl,h,i6.refl _ _,fun _ _ _=>rfl,.inl ⟨rfl,rfl⟩⟩;rcases h with⟨rfl,rfl,rfl⟩|⟨b,c,rfl,hg,W,E⟩
  .simp [C2,J,hs,D,X,I,u,dL]
  .simp [C2,J,hs,D,X,I,u,dL]
 .rcases h with⟨rfl,rfl,rfl⟩|⟨b,c,rfl,hg,W,E⟩
  .refine⟨.slice (some ⟨H.next,0,none⟩) m (m+1),some (H.push (.cells el true sz)),_,?_,rfl,.inr ⟨H.next,_,by rw[Nat.zero_add],j9,y,by simpa using O⟩,i6.push y,fun j U _=>i7 U,.inr fun b D=>by rw[E6]at D;omega⟩;simp only[C2,List.head?_cons,Option.bind_some,J,hs,D,X,List.getElem?_cons_succ,List.getElem?_cons_zero,if_neg I,u];rw[if_neg hm,if_pos (by simpa using hr),dL]
  .have a1:=u7 hg;have S:((cs.drop 0).take (n*sz))=cs:=by rw[List.drop_zero,List.take_of_length_le oM]
   by_cases hc:c=n
   .refine⟨.slice (some ⟨H.next,0,none⟩) (n+m) (n+m+1),some (H.push (.cells (cs++el) true sz)),_,?_,rfl,.inr ⟨H.next,_,rfl,j9,y,by rw[List.length_append,E,O,Nat.add_mul]⟩,i6.push y,fun j U _=>i7 U,.inr fun b D=>by rw[E6]at D;omega⟩;simp only[C2,List.head?_cons,Option.bind_some,J,hs,D,X,List.getElem?_cons_succ,List.getElem?_cons_zero,if_neg I,u,hg,S];rw[if_neg hm,if_pos hr,if_pos (by simp;omega),if_pos hc,dL]
   .refine⟨.slice (some ⟨H.next,0,none⟩) (n+m) (n+m+1),some ((H.put b .dead).push (.cells (cs++el) true sz)),_,?_,rfl,.inr ⟨H.next,_,rfl,y7 ⟨by simp [t5],by simp [t5]⟩,y,by rw[List.length_append,E,O,Nat.add_mul]⟩,(i6.put W).trans (i6.push (by rw[t5];exact y)),fun j U hn=>?_,.inr fun b D=>by rw[E6]at D;omega⟩
    .simp only[C2,List.head?_cons,Option.bind_some,J,hs,D,X,List.getElem?_cons_succ,List.getElem?_cons_zero,if_neg I,u,hg,S];rw[if_neg hm,if_pos hr,if_pos (by simp;omega),if_neg hc,if_pos trivial,dL]
    .show((H.put b .dead).push (.cells (cs++el) true sz)).get j=H.get j;rw[i7 (by rw[t5];exact U),j6 (fun q=>hn (by rw[<-q];exact⟨_,_,rfl⟩))]
structure ak(lo:Nat)(w:Value)(H:d8)(v':Value)(H':d8):Prop where
 stay:i6 lo H H'
 but:∀j,j<H.next->¬l7 w j->H'.get j=H.get j
 new:∀b,l7 v' b->l7 w b\/H.next<=b
theorem ak.next{w v':Value}(h:ak lo w H v' H'):H.next<=H'.next:=h.stay.next
theorem u6.appendF{P:Program}{t e:TypeId}{bytes:Nat}{z:LV}{x:Value}{n:Nat}(W:P.underlying t=some (.slice e))(hs:D8 P e=some sz)(u:V0 P e=some bytes)(hz:O9 P e=some z)(O:0<sz)(S:0<bytes)
  (h:u6 H lo sz R w l) (X:SlI H n sz R x l2) (U:(l.length+l2.length)*bytes<=140737488355328) (y:lo<=H.next):
  Ret (C2 P H [t,t] w x) H fun v' H'=>u6 H' lo sz R v' (l++l2)/\ak lo w H v' H':=by
 obtain⟨cs,k1,k2⟩:=h;obtain⟨a,c,el,rfl,q1,E⟩:=X.rows;obtain⟨v',J,I,r1,r2,r3,r4,r5,D⟩:=Gu (m:=l2.length) W hs u hz O S k1 q1 E.1 U y;refine⟨v',J,I,r1,r2,⟨cs++el,by rw[List.length_append];exact r3,k2.append E⟩,r4,r5,fun b u=>?_⟩;rcases D with⟨rfl,_⟩|D
 .exact .inl u
 .exact .inr (D b u)
theorem u6.push1F{P:Program}{t e:TypeId}{bytes:Nat}{z cs:LV}{a:α}(ht:P.underlying t=some (.slice e))(hs:D8 P e=some sz)(y:V0 P e=some bytes)(hz:O9 P e=some z)(O:0<sz)(S:0<bytes)
  (h:u6 H lo sz R w l) (D:cs.length=sz) (W:R cs a) (hr:(l.length+1)*bytes<=140737488355328) (E:lo<=H.next):
  Ret (C2 P (H.push (.cells cs true sz)) [t,t] w (.slice (some ⟨H.next,0,none⟩) 1 1)) (H.push (.cells cs true sz)) fun v' H'=>u6 H' lo sz R v' (l++[a])/\ak lo w H v' H':=by
 have U:=u6.fresh (H:=H) (lo:=H.next) (l:=[a]) (n:=1) (c:=1) rfl lR (D2.one D W);have hn:(H.push (.cells cs true sz)).next=H.next+1:=i5;have u:i6 H.next H (H.push (.cells cs true sz)):=i6.push lR;obtain⟨v',J,H',r1,r2,r3,r4,r5,r6⟩:=(h.keep u).appendF ht hs y hz O S U.sl (by simpa using hr) oM;refine⟨v',J,H',r1,r2,r3,(u.weaken E).trans r4,fun j X I=>?_,fun b y=>?_⟩
 .rw[r5 j oM I,u.get j X]
 .rcases r6 b y with r|r
  .exact .inl r
  .exact .inr oM
end
end Go.Proofs.YtofbhlhamfkljaaGreatDoor.Ve
namespace Go.Proofs.YtofbhlhamfkljaaGreatDoor.Ve
open Go Go.RowKit
open Go.Proofs.Tryz (prog)
structure SpD where
 names:List (ByteArray×ByteArray)
 attrs:List (ByteArray×ByteArray)
 vals:List (List ByteArray)
 texts:List ByteArray
def spQ(q:Q):SpD:=⟨V5 4 4 (fsQ false q),V5 5 6 (fsQ false q),(V5 5 6 (fsQ false q)).map fun n=>R9 6 n (fsQ false q),R9 7 (eB,eB) (fsQ false q)⟩
def VlF(H:d8)(F:Nat->Prop)(cs:LV)(l:List ByteArray):Prop:=∃v,cs=[v]/\SlF H F 1 (w9 stE) v l
theorem VlF.mono{H H':d8}{F F':Nat->Prop}{cs:LV}{l:List ByteArray}(h:VlF H F cs l)(D:∀j,F j->H'.get j=H.get j) (z:∀j,F j->F' j):VlF H' F' cs l:=by
 obtain⟨v,u,y⟩:=h;exact⟨v,u,y.mono D z iF⟩
def SpR(H:d8)(lo:Nat)(cs:LV)(d:SpD):Prop:=∃v1 v2 v3 v4,cs=[v1,v2,v3,v4]/\SlI H lo 2 (w9 nmE) v1 d.names/\SlI H lo 2 (w9 nmE) v2 d.attrs/\SlI H lo 1 (VlF H (· <lo)) v3 d.vals/\SlI H lo 1 (w9 stE) v4 d.texts
theorem SpR.mono{H H':d8}{lo z:Nat}{cs:LV}{d:SpD}(h:SpR H lo cs d)(y:∀j,j<lo->H'.get j=H.get j) (u:lo<=z):SpR H' z cs d:=by
 obtain⟨S,U,W,X,D,E,I,J,O⟩:=h;exact⟨S,U,W,X,D,E.mono y u iF,I.mono y u iF,J.mono y u (fun _ _ h=>h.mono y (fun j hj=>oM)),O.mono y u iF⟩
theorem yC(k:Nat)(H1:d8)(y:Nat)(d6:y<H1.next)(vf va v1 v4 p2:Value)(l:List Q)(u:List (ByteArray×ByteArray))(hl:l.length<=1000000)(ha:u.length<=1000000)(c7:QsR H1 y k true vf l)(a8:SlI H1 y 2 (w9 nmE) va u):
  ∀kk e H2,(∃(i:Nat)(w:Value)(F:Nat->Prop),kk=u.length-i/\i<=u.length/\e.get 2=p2/\e.get 3=vf/\e.get 4=pT y/\e.get 5=iV i/\H2.get y=cE [v1,va,w,v4] 1/\u6 H2 (y+1) 1 (VlF H2 F) w ((u.take i).map fun n=>R9 6 n l)/\(∀b,l7 w b->¬F b)/\(∀j,F j->y<j/\j<H2.next)/\i6 y H1 H2)->
  w7 (LE prog t6 (.loop NO) e H2) (fun o e H2=>o= .exit 0/\e.get 2=p2/\e.get 4=pT y/\∃(w:Value)(F:Nat->Prop),H2.get y=cE [v1,va,w,v4] 1/\u6 H2 (y+1) 1 (VlF H2 F) w (u.map fun n=>R9 6 n l)/\(∀j,F j->y<j/\j<H2.next)/\i6 y H1 H2):=by
 obtain⟨aa,ac,c9⟩:=a8.slice;subst c9;refine i8 _ _ ?_;rintro kk e H2 ⟨i,w,F,hk,hi,f2,f3,f4,f5,J,hO,c4,hF,hS⟩;have d2:=hS.next;have d0:([v1,.slice aa u.length ac,w,v4]:LV)[1]?=some (.slice aa u.length ac):=rfl;rcases b:decide ((i:Int)<u.length)with _|_
 .have b7:=dF b;have:u.take i=u:=List.take_of_length_le oM;rw[this]at hO;refine J4 f4 f5 J b ?_;exact i9 ⟨rfl,f2,f4,w,F,J,hO,hF,hS⟩
 have b7:=dT b;obtain⟨x,nb,o,cs,own,el,hx,hd,a9,c3,hg,d1,a7,hc,rfl⟩:=a8.row (i:=i) oM;subst a9;have nt:(i:Int).toNat=i:=tN i;have b9:=(hS.get nb c3).trans hg;have b0:QsR H2 y k true vf l:=c7.mono (fun j z=>hS.get j z) lR;obtain⟨v,h,H3,b8,c0,I,D⟩:=oG H2 y k vf l 6 x oM b0 hl;have d3:=D.next;have d5:y<H3.next:=oM;have U:H3.get y=cE [v1,.slice (some ⟨nb,o,none⟩) u.length ac,w,v4] 1:=(D.get y oM).trans J;obtain⟨F',E⟩:=eY (fun j=>F j\/l7 v j:Nat->Prop);have a2:∀j,F' j->y<j/\j<H3.next:=fun j z=>by
  rw[E]at z;rcases z with z|z
  .have:=hF j z;omega
  .have:=I.lt z;omega
 have b5:u6 H3 (y+1) 1 (VlF H3 F') w ((u.take i).map fun n=>R9 6 n l):=(hO.keep D).imp fun cs a h=>h.mono (fun j z=>D.get j (hF j z).2) (fun j z=>by rw[E];exact .inl z);have b1:∀b,l7 w b->¬F' b:=fun b S O=>by
  rw[E]at O;rcases O with O|O
  .exact c4 b S O
  .have h1:=hO.lt S;have h2:=I.lt O;omega
 have c8:VlF H3 F' [v] (R9 6 x l):=⟨v,rfl,I.frz fun b S=>by rw[E];exact .inr S⟩
 have a5:((u.take i).map fun n=>R9 6 n l).length=i:=by simp;omega
 obtain⟨v',h',H4,b6,a4,a3,hG⟩:=b5.push1F (P:=prog) (t:=96) (cs:=[v]) (a:=R9 6 x l) (by exact MF.2.2.2.2.2.2) bU.1 bU.2.1 bU.2.2.1 oM oM rfl c8 (by rw[a5];omega) oM;have d4:=hG.next;have W:H4.get y=cE [v1,.slice (some ⟨nb,o,none⟩) u.length ac,w,v4] 1:=(hG.stay.get y oM).trans U;have a6:=u7 W;obtain⟨wa,wc,d7⟩:=hO.slice;obtain⟨d9,e1,X⟩:=a3.slice;obtain⟨vv,e2,a1⟩:=I.slice;have b2:Value.oneCell' v'=true:=by rw[X];rfl
 have b3:Value.oneCell' v=true:=by rw[a1];rfl
 have cv:v.cells.toList=[v]:=by rw[a1];rfl
 have b4:v'.cells.toList=[v']:=by rw[X];rfl
 refine J19 f3 f4 f5 J b b9 nt a7 b8 c0 U b3 cv b6 a4 W b2 b4 @wrap_small ?_;have c6:(u.take (i+1)).map (fun n=>R9 6 n l)=((u.take i).map fun n=>R9 6 n l)++[R9 6 x l]:=by
  rw[List.take_add_one,hx];simp
 have c5:∀(B:Blk),i6 y H1 (H4.put y B):=fun B=>(hS.trans ((D.weaken oM).trans (hG.stay.weaken oM))).trans (i6.put lR);refine i4 (kk-1) oM ⟨i+1,v',F',oM,oM,f2,f3,f4,rfl,j5 a6,?_,fun b S O=>?_,fun j z=>?_,c5 _⟩
 .rw[c6];refine(a3.same fun b S=>j6 ?_).imp fun cs a h=>h.mono (fun j z=>?_) (fun _ h=>h)
  .have:=a3.lt S;omega
  .have:=a2 j z;rw[j6 oM,hG.but j oM (fun q=>b1 j q z)]
 .rcases hG.new b S with r|r
  .exact b1 b r O
  .have:=a2 b O;omega
 .have:=a2 j z;rw[t5];omega
theorem bG{α:Type}{R:LV->α->Prop}{H:d8}{lo sz:Nat}{w:Value}{l:List α}(h:u6 H lo sz R w l)(y:na0 w=true):w=nS/\l=[]:=by
 obtain⟨cs,u,E⟩:=h;rcases u with⟨u,z,_⟩|⟨b,c,D,_⟩
 .exact⟨u,List.length_eq_zero_iff.1 z⟩
 .rw[D]at y;cases y
theorem jL{α:Type}(R:LV->α->Prop)(H:d8)(lo sz:Nat):SlI H lo sz R (nS) ([]:List α):= .inl ⟨rfl,rfl⟩
theorem Cl(H:d8)(lo k:Nat)(cs:LV)(q:Q)(h6:lo<=H.next)(hr:QR H lo k false cs q)(g7:OkD false q)(hl:(fsQ false q).length<=100000):
  Ret (CL prog t6 63 [.agg cs.toArray] H) H fun w H1=>∃cs',w= .agg cs'.toArray/\SpR H1 H1.next cs' (spQ q)/\i6 H.next H H1:=by
 cases k with
 |zero=>exact hr.elim
 |succ k=>
 have d3:=hr;obtain⟨va,ca,wa,e5,rfl,h1,h2,h3,h4⟩:=hr.path;obtain⟨U,S⟩:=eY ([iV q.op,.slice va q.a.length ca,.slice wa q.b.length e5]:LV);obtain⟨H1,a5⟩:=eY ((d8.push ⟨H.bs,H.next⟩ (bC U 1)).push (bC [nS,nS,nS,nS] 1));have g6:(d8.push ⟨H.bs,H.next⟩ (bC U 1)).next=H.next+1:=by rw[i5];rfl
 have hS:i6 H.next H H1:=by rw[a5];exact(i6.first H _).trans (i6.push oM)
 have f5:H1.get H.next=cE U 1:=by rw[a5,i7 oM];exact j9
 have f6:H1.get (H.next+1)=cE [nS,nS,nS,nS] 1:=by rw[a5];exact y7 oM
 have d2:H.next<=H1.low:=by rw[a5,l9,l9];exact lR
 have h7:H1.next=H.next+2:=by rw[a5,i5,g6]
 have g3:ldC (some true) (some 3) 0 U=some (.agg U.toArray):=by rw[S];rfl
 rw[<-S]at d3 ⊢;have c5:U.all oC=true:=by rw[S];rfl
 obtain⟨vf,hf,Hf,f4,g0,f0,b2⟩:=(Lg (k+1)).1 H1 lo U q oM (d3.mono (fun j O=>hS.get j oM) lR) oM g7;have j0:=b2.next;have b4:QsR Hf Hf.next (k+1) true vf (fsQ false q):=f0.sl.mono (fun _ _=>rfl) lR fun cs x h=>h.mono (fun j O=>(b2.get j oM)) oM;obtain⟨v1,g9,Ha,f1,c8,a9,y⟩:=qI Hf Hf.next (k+1) vf (fsQ false q) 4 4 lR b4 oM;have i0:=y.next;obtain⟨W,h0,Hb,f2,c9,a6,D⟩:=qI Ha Hf.next (k+1) vf (fsQ false q) 5 6 oM (b4.mono (fun j O=>y.get j O) lR) oM;have i1:=D.next;obtain⟨v4,h5,Hc,f3,d0,b0,E⟩:=oG Hb Hf.next (k+1) vf (fsQ false q) 7 (eB,eB) oM (b4.mono (fun j O=>by rw[D.get j oM,y.get j O]) lR) oM;have i2:=E.next;obtain⟨a1,c1,e1⟩:=a9.slice;obtain⟨a2,c2,e2⟩:=a6.slice;obtain⟨a4,c4,e4⟩:=b0.slice;have e6:v1.cells.toList=[v1]:=by rw[e1];rfl
 have e7:W.cells.toList=[W]:=by rw[e2];rfl
 have e8:v4.cells.toList=[v4]:=by rw[e4];rfl
 have d6:Value.oneCell' v1=true:=by rw[e1];rfl
 have d7:Value.oneCell' W=true:=by rw[e2];rfl
 have d9:Value.oneCell' v4=true:=by rw[e4];rfl
 obtain⟨Hd,e9,i3,f9,J⟩:=pushP Hc (bC [nS,nS,nS,nS] 1) (bC [v1,W,nS,v4] 1);rw[j7 Pv rfl _ sM];refine J19 c5 a5.symm f5 g3 f4 g0 f1 c8 f2 c9 f3 d0 e6 e7 e8 d6 d7 d9 e9.symm ?_;have b8:u6 Hd Hf.next 2 (w9 nmE) v1 (V5 4 4 (fsQ false q)):=((a9.keep D).keep E).keep J;have b6:u6 Hd Ha.next 2 (w9 nmE) W (V5 5 6 (fsQ false q)):=(a6.keep E).keep J;have b9:u6 Hd Hb.next 1 (w9 stE) v4 (R9 7 (eB,eB) (fsQ false q)):=b0.keep J;have j1:∀{sz:Nat}{α:Type}{R:LV->α->Prop}{lo:Nat}{w:Value}{l:List α}(H:d8),u6 H lo sz R w l->H.next<=Hc.next->SlI H Hc.next sz R w l:=fun H h g5=>h.sl.mono (fun _ _=>rfl) g5 iF;have d5:QsR Hd Hc.next (k+1) true vf (fsQ false q):=b4.mono (fun j O=>by rw[J.get j oM,E.get j oM,D.get j oM,y.get j O]) oM;have c6:(V5 5 6 (fsQ false q)).length<=1000000:=by have:=dW (aQ 5 6) qNm L3 (fsQ false q) [];rw[V5];simp at this;omega
 have d4:SlI Hd Hc.next 2 (w9 nmE) W (V5 5 6 (fsQ false q)):=b6.frz fun b u=>oN (a6.lt u);refine j8 (F:=fun z=>Ret (u5 _ _ _ (u9 (inBlock 0 z) _)) _ _) (yC (k+1) Hd Hc.next oM vf W v1 v4 _ (fsQ false q) (V5 5 6 (fsQ false q)) oM c6 d5 d4 (V5 5 6 (fsQ false q)).length _ _ ⟨0,nS,fun _=>False,rfl,oM,rfl,rfl,rfl,rfl,f9,u6.nil,fun b u=>(B8 b u).elim,fun j O=>O.elim,i6.refl _ _⟩) ?_;rintro o e' H5 ⟨ho,g2,g4,w,F,f7,b1,hF,I⟩;have h8:=I.next;have c7:H5.get (H.next+1)=cE [nS,nS,nS,nS] 1:=by
  rw[I.get _ oM,J.get _ oM,E.get _ oM,D.get _ oM,y.get _ oM,b2.get _ oM];exact f6
 obtain⟨a3,c3,e3⟩:=b1.slice;have g8:Value.oneCell' w=true:=by rw[e3];rfl
 have d1:ldC (some true) (some 4) 0 [v1,W,w,v4]=some (.agg [v1,W,w,v4].toArray):=rfl;obtain⟨X,a8⟩:=eY (H5.put (H.next+1) (bC [v1,W,w,v4] 1));have f8:X.get (H.next+1)=cE [v1,W,w,v4] 1:=by rw[a8];exact j5 oM
 have h9:X.next=H5.next:=by rw[a8,t5]
 have c0:i6 (H.next+1) H5 X:=by rw[a8];exact i6.put lR
 have b7:i6 H.next H X:=(((((((hS.trans (b2.weaken oM)).trans (y.weaken oM)).trans (D.weaken oM)).trans (E.weaken oM)).trans (J.weaken oM)).trans (I.weaken oM)).trans (c0.weaken oM))
 have g1:H.next<=X.low:=((((((b2.weaken (show H.next<=H1.next from oM)).trans (y.weaken oM)).trans (D.weaken oM)).trans (E.weaken oM)).trans (J.weaken oM)).trans (I.weaken oM)).trans (c0.weaken oM) |>.low d2
 have a7:∀b,H.next+1<b->X.get b=H5.get b:=fun b u=>by rw[a8];exact j6 oM
 refine J12 ho g2 g4 f7 d1 c7 d6 d7 g8 d9 a8.symm f8 ?_;refine dI (fun hc=>?_) ?_
 .simp only[List.all_cons,List.all_nil,Bool.and_true,Bool.and_eq_true]at hc;obtain⟨z1,z2⟩:=bG a9 hc.1;obtain⟨z3,z4⟩:=bG a6 hc.2.1;obtain⟨z5,z6⟩:=bG b1 hc.2.2.1;obtain⟨z7,z8⟩:=bG b0 hc.2.2.2;refine⟨[v1,W,w,v4],rfl,⟨v1,W,w,v4,rfl,?_,?_,?_,?_⟩,i6.refl _ _⟩
  .rw[z1,spQ,z2];exact jL ..
  .rw[z3,spQ,z4];exact jL ..
  .rw[z5,spQ,z6];exact jL ..
  .rw[z7,spQ,z8];exact jL ..
 .have b5:∀{sz:Nat}{α:Type}{R:LV->α->Prop}{v:Value}{l:List α}(n:Nat),SlI X n sz R v l->SlI ⟨X.bs,min H.low X.low⟩ n sz R v l:=fun n h=>SlI.mono h (fun _ _=>rfl) lR iF;have b3:d8.next ⟨X.bs,min H.low X.low⟩=X.next:=rfl;refine⟨[v1,W,w,v4],rfl,⟨v1,W,w,v4,rfl,b5 _ ?_,b5 _ ?_,b5 _ ?_,b5 _ ?_⟩,b7.ret g1⟩
  .exact(b8.same fun b u=>by have:=a9.lt u;rw[a7 b oM,I.get b oM]).frz fun b u=>by have:=a9.lt u;rw[b3];omega
  .exact(b6.same fun b u=>by have:=a6.lt u;rw[a7 b oM,I.get b oM]).frz fun b u=>by have:=a6.lt u;rw[b3];omega
  .refine SlF.mono ((b1.same (H':=X) fun b u=>by have:=b1.lt u;rw[a7 b oM]).frz (F:=fun j=>j<X.next) fun b u=>by have:=b1.lt u;omega) (fun _ _=>rfl) (fun j O=>O) fun cs a h=>h.mono (fun j O=>?_) fun j O=>?_
   .have:=hF j O;exact a7 j oM
   .have:=hF j O;rw[b3];omega
  .exact(b9.same fun b u=>by have:=b0.lt u;rw[a7 b oM,I.get b oM]).frz fun b u=>by have:=b0.lt u;rw[b3];omega
structure PrD where
 st:Int
 sa:Int
 en:Int
 ed:List (Int×Int×Int×Int)
 ts:List Q
def PrD.edge(p:PrD)(f t k x:Int):PrD:={p with ed:=p.ed++[(f,t,k,x)]}
mutual
def C6:Q->PrD->PrD×Int×Int
 | .mk o _ _ _ a b,p=>
  if o=4 then eu a p
  else if o=5 then(((I9 a p.st {p with st:=p.st+1} []).2.foldl (fun m x=>m.edge x (I9 a p.st {p with st:=p.st+1} []).1.st 0 0) {(I9 a p.st {p with st:=p.st+1} []).1 with st:=(I9 a p.st {p with st:=p.st+1} []).1.st+1}),p.st,(I9 a p.st {p with st:=p.st+1} []).1.st)
  else if o=6 then(((dY a {p with st:=p.st+1}).1.edge p.st (dY a {p with st:=p.st+1}).2.1 0 0).edge (dY a {p with st:=p.st+1}).2.2 p.st 0 0,p.st,p.st)
  else(({p with st:=p.st+2,ts:=if o=7 then p.ts++b else p.ts}:PrD).edge p.st (p.st+1) (if o=2 then 1 else if o=3 then 2 else if o=7 then 3 else 0) (if o=7 then(p.ts.length:Int) else 0),p.st,p.st+1)
def eu:List Q->PrD->PrD×Int×Int
 |[],p=>(p,0,0)
 |x::l,p=>bO l (C6 x p)
def bO:List Q->PrD×Int×Int->PrD×Int×Int
 |[],x=>x
 |q::l,x=>bO l ((C6 q x.1).1.edge x.2.2 (C6 q x.1).2.1 0 0,x.2.1,(C6 q x.1).2.2)
def I9:List Q->Int->PrD->List Int->PrD×List Int
 |[],_,p,es=>(p,es)
 |x::l,n,p,es=>I9 l n ((C6 x p).1.edge n (C6 x p).2.1 0 0) (es++[(C6 x p).2.2])
def dY:List Q->PrD->PrD×Int×Int
 |[],p=>(p,0,0)
 |x::_,p=>C6 x p
end
mutual
def nQ:Q->Nat
 | .mk _ _ _ _ a b=>1+nL a+nL b
def nL:List Q->Nat
 |[]=>0
 |x::l=>nQ x+nL l
end
theorem fq(q:Q):nQ q=1+nL q.a+nL q.b:=by cases q;rw[nQ];rfl
theorem sw:∀l:List Q,l.length<=nL l
 |[]=>Nat.zero_le _
 |x::l=>by
  have:=sw l;have h:=fq x;rw[nL,List.length_cons];omega
def au(n c:Nat)(p r:PrD):Prop:=p.st<=r.st/\r.st<=p.st+2*n/\r.ed.length+c<=p.ed.length+4*n/\r.ts.length<=p.ts.length+n
theorem P5(p:PrD)(f t k x:Int):(p.edge f t k x).ed.length=p.ed.length+1:=by simp [PrD.edge]
theorem X9(p:PrD)(f t k x:Int):(p.edge f t k x).st=p.st:=rfl
theorem dx(p:PrD)(f t k x:Int):(p.edge f t k x).ts=p.ts:=rfl
theorem kf(e:Int):∀(l:List Int)(p:PrD),(l.foldl (fun m x=>m.edge x e 0 0) p).st=p.st/\(l.foldl (fun m x=>m.edge x e 0 0) p).ts=p.ts/\(l.foldl (fun m x=>m.edge x e 0 0) p).ed.length=p.ed.length+l.length
 |[],p=>⟨rfl,rfl,rfl⟩
 |x::l,p=>by
  obtain⟨h,u,y⟩:=kf e l (p.edge x e 0 0);rw[List.foldl_cons];refine⟨h,u,?_⟩;rw[y,P5,List.length_cons];omega
mutual
theorem F8:∀(q:Q)(p:PrD),au (nQ q) 2 p (C6 q p).1
 | .mk o s c v a b,p=>by
  rw[C6,nQ];have hb:=sw b;split
  .have:=yz a p;unfold au at*;omega
  .split
   .obtain⟨h1,h2⟩:=cZ a p.st {p with st:=p.st+1} [];obtain⟨k1,k2,k3⟩:=kf (I9 a p.st {p with st:=p.st+1} []).1.st (I9 a p.st {p with st:=p.st+1} []).2 {(I9 a p.st {p with st:=p.st+1} []).1 with st:=(I9 a p.st {p with st:=p.st+1} []).1.st+1};unfold au at*;simp only[List.length_nil]at h2;rw[k1,k2,k3];simp only at h1 ⊢;omega
   .split
    .have h:=xT a {p with st:=p.st+1};unfold au at*;simp only[P5,X9,dx];simp only at h;omega
    .unfold au;simp only[P5,X9,dx];split
     .rw[List.length_append];omega
     .omega
theorem yz:∀(l:List Q)(p:PrD),au (nL l) 0 p (eu l p).1
 |[],p=>by rw[eu];unfold au;simp [nL]
 |x::l,p=>by
  rw[eu,nL];have h1:=F8 x p;have h2:=oO l (C6 x p);unfold au at*;omega
theorem oO:∀(l:List Q)(x:PrD×Int×Int),au (nL l) l.length x.1 (bO l x).1
 |[],x=>by rw[bO];unfold au;simp [nL]
 |q::l,x=>by
  rw[bO,nL];have h1:=F8 q x.1;have h2:=oO l ((C6 q x.1).1.edge x.2.2 (C6 q x.1).2.1 0 0,x.2.1,(C6 q x.1).2.2);unfold au at*;simp only[P5,X9,dx]at h2;rw[List.length_cons];omega
theorem cZ:∀(l:List Q)(n:Int)(p:PrD)(es:List Int),au (nL l) l.length p (I9 l n p es).1/\(I9 l n p es).2.length=es.length+l.length
 |[],n,p,es=>by rw[I9];unfold au;simp [nL]
 |x::l,n,p,es=>by
  rw[I9,nL];have h1:=F8 x p;obtain⟨h2,h3⟩:=cZ l n ((C6 x p).1.edge n (C6 x p).2.1 0 0) (es++[(C6 x p).2.2]);unfold au at*;simp only[P5,X9,dx]at h2;rw[List.length_append]at h3;simp only[List.length_cons,List.length_nil]at h3 ⊢;omega
theorem xT:∀(l:List Q)(p:PrD),au (nL l) 0 p (dY l p).1
 |[],p=>by rw[dY];unfold au;simp [nL]
 |x::l,p=>by
  rw[dY,nL];have h1:=F8 x p;unfold au at*;omega
end
def PrF(H:d8)(F:Nat->Prop)(Rt:LV->Q->Prop)(cs:LV)(p:PrD):Prop:=∃ve vt,cs=[iV p.st,iV p.sa,iV p.en,ve,vt]/\SlF H F 4 (w9 edE) ve p.ed/\SlF H F 6 Rt vt p.ts
theorem PrF.mono{H H':d8}{F F':Nat->Prop}{y u:LV->Q->Prop}{cs:LV}{p:PrD}(h:PrF H F y cs p)(z:∀j,F j->H'.get j=H.get j) (D:∀j,F j->F' j) (O:∀cs a,y cs a->u cs a):PrF H' F' u cs p:=by
 obtain⟨S,U,E,I,J⟩:=h;exact⟨S,U,E,I.mono z D iF,J.mono z D O⟩
abbrev R6(F:Nat->Prop)(H H1:d8):Nat->Prop:=fun j=>F j\/(H.next<=j/\j<H1.next)
theorem eh(H:d8)(F:Nat->Prop)(Rt:LV->Q->Prop)(b3:LV)(p:PrD)(f t k x:Int)(hF:∀j,F j->j<H.next) (hp:PrF H F Rt b3 p) (he:p.ed.length<=1000000):
  Ret (CL prog t6 114 [.agg b3.toArray,iV f,iV t,iV k,iV x] H) H fun w I=>∃cs',w= .agg cs'.toArray/\PrF I (R6 F H I) Rt cs' (p.edge f t k x)/\i6 H.next H I:=by
 obtain⟨ve,vt,rfl,h1,h2⟩:=hp;obtain⟨ea,ec,rfl⟩:=h1.slice;obtain⟨ta,tc,rfl⟩:=h2.slice;obtain⟨D,z⟩:=eY ([iV p.st,iV p.sa,iV p.en,.slice ea p.ed.length ec,.slice ta p.ts.length tc]:LV);obtain⟨Z,hZ⟩:=eY ([iV 0,iV 0,iV 0,nS,nS]:LV);obtain⟨I,O⟩:=eY ((d8.push ⟨H.bs,H.next⟩ (bC D 1)).push (bC Z 1));have d1:(d8.push ⟨H.bs,H.next⟩ (bC D 1)).next=H.next+1:=by rw[i5];rfl
 have hS:i6 H.next H I:=by rw[O];exact(i6.first H _).trans (i6.push oM)
 have a2:I.get H.next=cE D 1:=by rw[O,i7 oM];exact j9
 have c7:I.get (H.next+1)=cE Z 1:=by rw[O];exact y7 oM
 have b1:H.next<=I.low:=by rw[O,l9,l9];exact lR
 have d4:I.next=H.next+2:=by rw[O,i5,d1]
 obtain⟨H2,a3,d5,-,E⟩:=pushE I (bC [] 4);have b6:u6 H2 I.next 4 (w9 edE) (sL I.next 0 0) ([]:List (Int×Int×Int×Int)):=by rw[a3];exact u6.fresh rfl lR D2.nil
 have b5:SlI H2 H.next 4 (w9 edE) (.slice ea p.ed.length ec) p.ed:=SlF.sl (h1.mono (fun j hj=>by have:=hF j hj;rw[E.get j oM,hS.get j oM]) (fun _ h=>h) iF) hF;obtain⟨v3,h3,H3,b9,a9,b7,J⟩:=b6.appendF (P:=prog) (t:=30) (by exact IZ.2.2.2.2.2.2) pM.1 pM.2.1 pM.2.2.1 oM oM b5 (by simp;omega) oM;have d6:=J.next;obtain⟨v4,h4,H4,c0,b0,X,U⟩:=b7.push1F (P:=prog) (t:=30) (cs:=edE (f,t,k,x)) (a:=(f,t,k,x)) (by exact IZ.2.2.2.2.2.2) pM.1 pM.2.1 pM.2.2.1 oM oM rfl rfl (by simp;omega) oM;have d7:=U.next;have c5:H4.get H.next=cE D 1:=by rw[U.stay.get _ oM,J.stay.get _ oM,E.get _ oM];exact a2
 have d3:H3.get H.next=cE D 1:=by rw[J.stay.get _ oM,E.get _ oM];exact a2
 have a8:H2.get H.next=cE D 1:=by rw[E.get _ oM];exact a2
 have c6:H4.get (H.next+1)=cE Z 1:=by rw[U.stay.get _ oM,J.stay.get _ oM,E.get _ oM];exact c7
 obtain⟨a4,c4,e4⟩:=X.slice;have b2:Value.oneCell' v4=true:=by rw[e4];rfl
 have b4:v4.cells.toList=[v4]:=by rw[e4];rfl
 obtain⟨u,y⟩:=eY ([iV p.st,iV p.sa,iV p.en,v4,.slice ta p.ts.length tc]:LV);obtain⟨W,S⟩:=eY ((H4.put H.next (bC u 1)).put (H.next+1) (bC u 1));have d2:splice D 3 [v4]=u:=by rw[z,y];rfl
 have c3:D[3]?=some (.slice ea p.ed.length ec):=by rw[z];rfl
 have l5:D.length=5:=by rw[z];rfl
 have d0:ldC (some true) (some 5) 0 u=some (.agg u.toArray):=by rw[y];rfl
 have b8:splice Z 0 u=u:=by rw[hZ,y];rfl
 have lz:Z.length=5:=by rw[hZ];rfl
 have l2:u.length=5:=by rw[y];rfl
 have a7:D.all oC=true:=by rw[z];rfl
 have a1:u.all oC=true:=by rw[y];simp [b2];exact⟨rfl,rfl,rfl,rfl⟩
 rw[j7 OM rfl _ sM,<-z];have c8:W.get (H.next+1)=cE u 1:=by rw[S];exact j5 (by rw[t5];omega)
 have a6:i6 H.next H W:=by rw[S];exact((((hS.trans (E.weaken oM)).trans (J.stay.weaken oM)).trans (U.stay.weaken oM)).trans (i6.put lR)).trans (i6.put oM)
 have c9:H.next<=W.low:=by rw[S,A4,A4];have:=(((E.weaken (show H.next<=I.next from oM)).trans (J.stay.weaken oM)).trans (U.stay.weaken oM)).low b1;omega
 have e2:O9 prog 32=some Z:=by rw[hZ];exact pL.2.2.1
 refine J23 a7 hZ.symm O.symm a3.symm a8 c3 b9 a9 c0 b0 c5 c6 l5 b2 b4 d2 d0 l2 lz a1 b8 S.symm c8 ?_;refine dI (fun hc=>?_) ?_
 .rw[y]at hc;simp only[List.all_cons,Bool.and_eq_true]at hc;have:=(bG X hc.2.2.2.1).2;simp at this
 .have e1:d8.next ⟨W.bs,min H.low W.low⟩=W.next:=rfl;have d9:W.next=H4.next:=by rw[S,t5,t5]
  have a5:u6 W I.next 4 (w9 edE) v4 (p.ed++[(f,t,k,x)]):=by
   have:=X.same (H':=W) fun b hb=>by have:=X.lt hb;rw[S,j6 oM,j6 oM]
   simpa using this
  refine⟨u,rfl,⟨v4,.slice ta p.ts.length tc,y,?_,?_⟩,a6.ret c9⟩
  .exact SlF.mono (a5.frz (F:=fun j=>H.next<=j/\j<W.next) fun b hb=>by have:=a5.lt hb;omega) (fun _ _=>rfl) (fun j hj=> .inr hj) iF
  .exact SlF.mono (H:=H) h2 (fun j hj=>(a6.get j (hF j hj))) (fun j hj=> .inl hj) iF
abbrev se(s e:Int):LV:=[iV s,iV e]
def jT(n:Nat)(p:PrD):Prop:=0<=p.st/\p.st+2*n<=1000000/\p.ed.length+4*n<=900000/\p.ts.length+n<=900000
def zY(H:d8)(F:Nat->Prop)(Rt:LV->Q->Prop)(r:PrD×Int×Int)(w:Value)(H1:d8):Prop:=∃cs',w= .agg (cs'++se r.2.1 r.2.2).toArray/\PrF H1 (R6 F H H1) Rt cs' r.1/\i6 H.next H H1
def ml(K k:Nat):Prop:=∀(H:d8)(lo:Nat)(F:Nat->Prop)(Rt:LV->Q->Prop)(cs pcs:LV)(q:Q)(p:PrD),lo<=H.next->(∀j,F j->j<H.next)->QR H lo k false cs q->
 (∀k' el x,k'<=K->QR H lo k' true el x->Rt el x)->PrF H F Rt pcs p->OkD false q->jT (nQ q) p->Ret (CL prog t6 90 [.agg pcs.toArray,.agg cs.toArray] H) H (zY H F Rt (C6 q p))
theorem zw(H:d8)(A B C:LV):∃h,h=((d8.push ⟨H.bs,H.next⟩ (bC A 1)).push (bC B 1)).push (bC C 1)/\i6 H.next H h/\h.get H.next=cE A 1/\h.get (H.next+1)=cE B 1/\h.get (H.next+2)=cE C 1/\H.next<=h.low/\h.next=H.next+3:=by
 have u:(d8.push ⟨H.bs,H.next⟩ (bC A 1)).next=H.next+1:=by rw[i5];rfl
 have y:((d8.push ⟨H.bs,H.next⟩ (bC A 1)).push (bC B 1)).next=H.next+2:=by rw[i5,u]
 refine⟨_,rfl,((i6.first H _).trans (i6.push oM)).trans (i6.push oM),?_,?_,?_,?_,?_⟩
 .rw[i7 oM,i7 oM];exact j9
 .rw[i7 oM];exact y7 oM
 .exact y7 oM
 .rw[l9,l9,l9];exact lR
 .rw[i5,y]
abbrev z7:LV:=[iV 0,iV 0,iV 0,nS,nS,iV 0,iV 0]
theorem dQ(q:Q)(p:PrD)(h:q.op≠4)(u:q.op≠5)(y:q.op≠6):C6 q p=(({p with st:=p.st+2,ts:=if q.op=7 then p.ts++q.b else p.ts}:PrD).edge p.st (p.st+1) (if q.op=2 then 1 else if q.op=3 then 2 else if q.op=7 then 3 else 0) (if q.op=7 then(p.ts.length:Int) else 0),p.st,p.st+1):=by
 cases q;simp only[Q.op]at h u y;rw[C6,if_neg h,if_neg u,if_neg y];rfl
theorem D5{H:d8}{F:Nat->Prop}{E:LV->Q->Prop}{cs:LV}{p:PrD}(h:PrF H F E cs p):∃u y z D,cs=[iV p.st,iV p.sa,iV p.en,.slice u p.ed.length y,.slice z p.ts.length D]/\SlF H F 4 (w9 edE) (.slice u p.ed.length y) p.ed/\SlF H F 6 E (.slice z p.ts.length D) p.ts:=by
 obtain⟨O,S,rfl,I,J⟩:=h;obtain⟨u,y,rfl⟩:=I.slice;obtain⟨z,D,rfl⟩:=J.slice;exact⟨u,y,z,D,rfl,I,J⟩
theorem dG{α:Type}{R:LV->α->Prop}{H H':d8}{F F':Nat->Prop}{sz:Nat}{v:Value}{l:List α}(h:SlF H F sz R v l)(u:na0 v=true):SlF H' F' sz R v l:=by
 rcases h with h|⟨b,o,c,y,_⟩
 .exact .inl h
 .rw[y]at u;cases u
theorem eG{H H':d8}{F:Nat->Prop}{y:LV->Q->Prop}{cs':LV}{r:PrD×Int×Int}(S:PrF H' (R6 F H H') y cs' r.1)(J:i6 H.next H H')(O:H.next<=H'.low){c:Bool}(u:c=true->(cs'++se r.2.1 r.2.2).all na0=true):
  Ret (some (br c (.agg (cs'++se r.2.1 r.2.2).toArray,none) (.agg (cs'++se r.2.1 r.2.2).toArray,some ⟨H'.bs,min H.low H'.low⟩))) H (zY H F y r):=by
 obtain⟨E,I,rfl,z,D⟩:=S;refine dI (fun h=>?_) ⟨_,rfl,⟨E,I,rfl,z,D⟩,J.ret O⟩;have h:=u h;simp only[List.cons_append,List.nil_append,List.all_cons,Bool.and_eq_true]at h;exact⟨_,rfl,⟨E,I,rfl,dG z h.2.2.2.1,dG D h.2.2.2.2.1⟩,i6.refl _ _⟩
theorem ql(F:Nat->Prop)(Rt:LV->Q->Prop){H Hx:d8}(b:Nat)(z:LV)(h:PrD)(f t y D s e:Int)(zz:LV)(a8:h.ed.length<=1000000)(hF:∀j,F j->j<Hx.next) (a9:PrF Hx F Rt z h) (hz:Hx.get b=cE zz 1) (hb:¬F b):
  ∃h5 S J na E O nb I W,CL prog t6 114 [.agg z.toArray,iV f,iV t,iV y,iV D] Hx=dL (.agg #[iV h.st,iV h.sa,iV h.en,.slice J na E,.slice O nb I]) h5/\h5.getD Hx=S/\S.get b=cE zz 1/\
   W=S.put b (bC ([iV h.st,iV h.sa,iV h.en,.slice J na E,.slice O nb I]++se s e) 1)/\W.get b=cE ([iV h.st,iV h.sa,iV h.en,.slice J na E,.slice O nb I]++se s e) 1/\
   i6 Hx.next Hx S/\W.next=S.next/\PrF W (R6 F Hx W) Rt [iV h.st,iV h.sa,iV h.en,.slice J na E,.slice O nb I] (h.edge f t y D):=by
 obtain⟨v5,a5,S,a7,X,b2,rfl,a1,U⟩:=eh Hx F Rt z h f t y D hF a9 a8;have b4:=U.next;obtain⟨a3,a4,b0,b1,rfl,b3,b5⟩:=D5 a1;have a6:=u7 hz;have a2:S.get b=cE zz 1:=(U.get _ a6).trans hz;refine⟨a5,S,a3,_,a4,b0,_,b1,_,a7,X,a2,rfl,j5 oM,U,by rw[t5],?_⟩;refine a1.mono (fun j u=>j6 fun q=>?_) (fun j u=>?_) iF
 .subst q;rcases u with u|u
  .exact hb u
  .omega
 .rcases u with u|u
  .exact .inl u
  .exact .inr ⟨u.1,by rw[t5];exact u.2⟩
theorem CY(K k:Nat)(hk:k<=K)(q:Q)(h4:q.op≠4)(h5:q.op≠5)(h6:q.op≠6)(H:d8)(lo:Nat)(F:Nat->Prop)(Rt:LV->Q->Prop)(cs g1:LV)(p:PrD)(n0:lo<=H.next)(hF:∀j,F j->j<H.next) (hr:QR H lo (k+1) false cs q)
  (k0:∀k' el x,k'<=K->QR H lo k' true el x->Rt el x) (hp:PrF H F Rt g1 p) (l4:OkD false q) (f5:jT (nQ q) p):
  Ret (CL prog t6 90 [.agg g1.toArray,.agg cs.toArray] H) H (zY H F Rt (C6 q p)):=by
 obtain⟨f0,f1,f2,f3⟩:=f5;have n8:=fq q;obtain⟨_,_,o1,_,m3⟩:=l4.parts;have o7:=(dE m3).2.2.1;simp only[bF]at o7;obtain⟨va,ca,wa,e3,rfl,h1,h2,h3,i3⟩:=hr.path;obtain⟨ea,ec,ta,tc,rfl,he,ht⟩:=D5 hp;rw[dQ q p h4 h5 h6];obtain⟨b6,z⟩:=eY ([iV p.st,iV p.sa,iV p.en,.slice ea p.ed.length ec,.slice ta p.ts.length tc]:LV);obtain⟨U,D⟩:=eY ([iV q.op,.slice va q.a.length ca,.slice wa q.b.length e3]:LV);obtain⟨H1,b8,hS,b9,b3,k9,c8,n2⟩:=zw H b6 U z7;have a1:b6.all oC=true:=by rw[z];rfl
 have a2:U.all oC=true:=by rw[D];rfl
 have r0:b6[0]?=some (.int .i64 p.st):=by rw[z];rfl
 have q0:U[0]?=some (.int .i64 q.op):=by rw[D];rfl
 have q2:U[2]?=some (.slice wa q.b.length e3):=by rw[D];rfl
 have lr:b6.length=5:=by rw[z];rfl
 obtain⟨u,J⟩:=eY ([iV (p.st+2),iV p.sa,iV p.en,.slice ea p.ed.length ec,.slice ta p.ts.length tc]:LV);have c0:splice b6 0 [iV (p.st+2)]=u:=by rw[z,J];rfl
 have m5:u[4]?=some (.slice ta p.ts.length tc):=by rw[J];rfl
 have m2:u.length=5:=by rw[J];rfl
 obtain⟨H2,a3⟩:=eY (H1.put H.next (bC u 1));have d7:i6 H.next H1 H2:=by rw[a3];exact i6.put lR
 have n6:H2.next=H1.next:=by rw[a3,t5]
 have a6:H2.get H.next=cE u 1:=by rw[a3];exact j5 oM
 have b1:H2.get (H.next+1)=cE U 1:=by rw[a3,j6 oM];exact b3
 have e5:H2.get (H.next+2)=cE z7 1:=by rw[a3,j6 oM];exact k9
 have c4:decide (q.op=4)=false:=decide_eq_false h4;have c5:decide (q.op=5)=false:=decide_eq_false h5;have c6:decide (q.op=6)=false:=decide_eq_false h6;have d9:ldC (some true) (some 5) 0 u=some (.agg u.toArray):=by rw[J];rfl
 have X:i6 H.next H H2:=hS.trans d7;have e8:∀i,¬F (H.next+i):=fun i q=>oN (hF _ q);by_cases h7:q.op=7
 .have c7:decide (q.op=7)=true:=decide_eq_true h7;have c2:decide (q.op=2)=false:=decide_eq_false oM;have c3:decide (q.op=3)=false:=decide_eq_false oM;rw[if_pos h7,if_neg oM,if_neg oM,if_pos h7,if_pos h7];have k7:=o7.1 h7;obtain⟨x,nb,o,m7,own,el,hx,hd,rfl,n1,f8,l3,c9,hR⟩:=h2.row (i:=0) oM;have k8:q.b=[x]:=by
   obtain⟨y,hy⟩:=List.length_eq_one_iff.1 k7;rw[hy]at hx ⊢;simpa using hx
  simp only[qSz,if_true,Nat.zero_mul,Nat.add_zero]at c9 f8 l3;have d3:H2.get nb=_:=(X.get nb oM).trans f8;obtain⟨K1,e9,n9,-,b2⟩:=pushE H2 (bC [] 6);have j3:u6 K1 H2.next 6 Rt (sL H2.next 0 0) ([]:List Q):=by rw[e9];exact u6.fresh rfl lR D2.nil
  have m0:SlI K1 H.next 6 Rt (.slice ta p.ts.length tc) p.ts:=SlF.sl (ht.mono (fun j E=>by have:=hF j E;rw[b2.get j oM,X.get j this]) (fun _ h=>h) iF) hF;obtain⟨v3,m8,H3,k1,f6,j4,d4⟩:=j3.appendF (P:=prog) (t:=23) (by exact sU.2.2.2.2.2.2) cr.1 cr.2.1 cr.2.2.1 oM oM m0 (by simp;omega) oM;have n3:=d4.next;obtain⟨v4,i3,H4,k2,f7,d6,d5⟩:=j4.push1F (P:=prog) (t:=23) (cs:=el) (a:=x) (by exact sU.2.2.2.2.2.2) cr.1 cr.2.1 cr.2.2.1 oM oM hR.len (k0 k el x hk hR) (by simp;omega) oM;have n4:=d5.next;have k3:∀j,j<H2.next->H3.get j=H2.get j:=fun j E=>by rw[d4.stay.get j oM,b2.get j E]
  have k4:∀j,j<H2.next->H4.get j=H2.get j:=fun j E=>by rw[d5.stay.get j oM,k3 j E]
  have g2:K1.get H.next=cE u 1:=(b2.get _ oM).trans a6;have g3:K1.get (H.next+1)=cE U 1:=(b2.get _ oM).trans b1;have g4:=(b2.get nb oM).trans d3;have g8:H3.get H.next=cE u 1:=(k3 _ oM).trans a6;have g9:H3.get (H.next+1)=cE U 1:=(k3 _ oM).trans b1;have h0:=(k3 nb oM).trans d3;have h8:H4.get H.next=cE u 1:=(k4 _ oM).trans a6;have h9:H4.get (H.next+2)=cE z7 1:=(k4 _ oM).trans e5;obtain⟨a4,m6,e4⟩:=d6.slice;have m4:Value.oneCell' v4=true:=by rw[e4];rfl
  have i2:v4.cells.toList=[v4]:=by rw[e4];rfl
  obtain⟨S,b0⟩:=eY ([iV (p.st+2),iV p.sa,iV p.en,.slice ea p.ed.length ec,v4]:LV);have g0:splice u 4 [v4]=S:=by rw[J,b0];rfl
  have m1:ldC (some true) (some 5) 0 S=some (.agg S.toArray):=by rw[b0];rfl
  obtain⟨I,a7⟩:=eY (H4.put H.next (bC S 1));have n5:I.next=H4.next:=by rw[a7,t5]
  have g5:I.get H.next=cE S 1:=by rw[a7];exact j5 oM
  have i0:I.get (H.next+2)=cE z7 1:=by rw[a7,j6 oM];exact h9
  have k5:∀j,j<H.next->I.get j=H.get j:=fun j E=>by rw[a7,j6 oM,k4 j oM,X.get j E]
  have f4:u6 I H2.next 6 Rt v4 (p.ts++[x]):=by
   have:=d6.same (H':=I) fun b hb=>by have:=d6.lt hb;rw[a7,j6 oM]
   simpa using this
  have l6:PrF I (R6 F H2 I) Rt S {p with st:=p.st+2,ts:=p.ts++q.b}:=by
   refine⟨_,_,b0,he.mono (fun j E=>k5 j (hF j E)) (fun _ h=> .inl h) iF,?_⟩;rw[k8];exact SlF.mono (f4.frz (F:=fun j=>H2.next<=j/\j<I.next) fun b hb=>by have:=f4.lt hb;omega) (fun _ _=>rfl) (fun j E=> .inr E) iF
  have j0:∀j,R6 F H2 I j->j<I.next:=by
   rintro j (E|E)
   .have:=hF j E;omega
   .exact E.2
  have j1:¬R6 F H2 I (H.next+2):=by
   rintro(q|q)
   .exact e8 2 q
   .omega
  obtain⟨m9,H6,e1,na,d0,e2,o0,d1,H7,a8,O,b5,e7,g7,W,n7,l8⟩:=ql (R6 F H2 I) Rt (H:=H) (Hx:=I) (H.next+2) S {p with st:=p.st+2,ts:=p.ts++q.b} p.st (p.st+1) 3 p.ts.length p.st (p.st+1) z7 (by show p.ed.length<=_;omega) j0 l6 i0 j1;have s5:i6 H.next H1 I:=(((d7.trans (b2.weaken oM)).trans (d4.stay.weaken oM)).trans (d5.stay.weaken oM)).trans (by rw[a7];exact i6.put lR);have s7:i6 H.next H1 H7:=(s5.trans (W.weaken oM)).trans (by rw[e7];exact i6.put oM);have j2:∀j,R6 (R6 F H2 I) I H7 j->R6 F H H7 j:=by
   have:=W.next;rintro j ((E|E)|E)
   .exact .inl E
   .exact .inr ⟨oM,oM⟩
   .exact .inr ⟨oM,E.2⟩
  have q3:PrF H7 (R6 F H H7) Rt _ _:=l8.mono (fun _ _=>rfl) j2 iF;have l1:=s7.low c8;simp only[List.cons_append,List.nil_append]at e7 g7;rw[j7 pz rfl _ sM,<-z,<-D];have k6:el.all oC=true:=by
   cases k with
   |zero=>exact hR.elim
   |succ k=>obtain⟨_,_,_,_,rfl,_⟩:=hR.filter;rfl
  have i1:bsA prog (some 86) H3 1 [(0,.agg el.toArray)]=some (sL H3.next 1 1,H3.push (bC el 6)):=by
   cases k with
   |zero=>exact hR.elim
   |succ k=>
    obtain⟨_,_,_,_,rfl,_⟩:=hR.filter;simp only[C7,cr,C8];rfl
  refine J30 a1 a2 b8.symm b9 b3 r0 q0 q2 lr c0 a3.symm a6 (aI b1 c4) (aI c5 c6) (aI c7 c2) (aI c3 m5) (aI @wrap_small e9.symm) (aI d3 g2) (aI g3 g4) (aI c9 k1) (aI f6 g8) (aI g9 h0) (aI i1 k2) (aI f7 h8) (aI m2 m4) (aI i2 g0) (aI a7.symm g5) (aI m1 a8) (aI O b5) (aI e7.symm g7) ?_;exact eG (r:=(_,p.st,p.st+1)) q3 (hS.trans s7) l1 (fun h=>by simpa only[List.cons_append,List.nil_append,List.all_cons,List.all_nil,jz,Bool.true_and,Bool.and_true] using h)
 .have c7:decide (q.op=7)=false:=decide_eq_false h7;simp only[if_neg h7];have l5:PrF H2 F Rt u {p with st:=p.st+2}:=⟨_,_,J,he.mono (fun j E=>X.get j (hF j E)) (fun _ h=>h) iF,ht.mono (fun j E=>X.get j (hF j E)) (fun _ h=>h) iF⟩
  have ed:=fun a5=>ql F Rt (H:=H) (H.next+2) u {p with st:=p.st+2} p.st (p.st+1) a5 0 p.st (p.st+1) z7 (by show p.ed.length<=_;omega) (fun j E=>by have:=hF j E;omega) l5 e5 (e8 2);have d2:∀(a5:Int)(I H6:d8)(b7:LV),H6=I.put (H.next+2) (.cells (b7++se p.st (p.st+1)) true 1)->i6 H2.next H2 I->PrF H6 (R6 F H2 H6) Rt b7 (({p with st:=p.st+2}:PrD).edge p.st (p.st+1) a5 0)->i6 H.next H H6/\H.next<=H6.low/\PrF H6 (R6 F H H6) Rt b7 (({p with st:=p.st+2}:PrD).edge p.st (p.st+1) a5 0):=by
   intro a5 I H6 b7 e6 W a9;have s6:i6 H.next H2 H6:=(W.weaken oM).trans (by rw[e6];exact i6.put oM);exact⟨X.trans s6,(d7.trans s6).low c8,a9.mono (fun _ _=>rfl) (fun j E=>E.imp id fun h=>⟨oM,h.2⟩) iF⟩
  by_cases o2:q.op=2
  .have c2:decide (q.op=2)=true:=decide_eq_true o2;have c3:decide (q.op=3)=false:=decide_eq_false oM;rw[if_pos o2];obtain⟨h5,I,e1,na,d0,e2,nb,d1,H6,a8,O,b5,e6,g6,W,f9,a9⟩:=ed 1;obtain⟨q1,b4,q3⟩:=d2 1 I H6 _ e6 W a9;simp only[List.cons_append,List.nil_append]at e6 g6;rw[j7 pz rfl _ sM,<-z,<-D];refine J25 a1 a2 b8.symm b9 b3 r0 q0 lr c0 a3.symm a6 b1 c4 c5 c6 c7 c2 c3 @wrap_small d9 a8 O b5 e6.symm g6 ?_;exact eG (r:=(_,p.st,p.st+1)) q3 q1 b4 (fun h=>by simpa only[List.cons_append,List.nil_append,List.all_cons,List.all_nil,jz,Bool.true_and,Bool.and_true] using h)
  .have c2:decide (q.op=2)=false:=decide_eq_false o2;rw[if_neg o2];by_cases o3:q.op=3
   .have c3:decide (q.op=3)=true:=decide_eq_true o3;rw[if_pos o3];obtain⟨h5,I,e1,na,d0,e2,nb,d1,H6,a8,O,b5,e6,g6,W,f9,a9⟩:=ed 2;obtain⟨q1,b4,q3⟩:=d2 2 I H6 _ e6 W a9;simp only[List.cons_append,List.nil_append]at e6 g6;rw[j7 pz rfl _ sM,<-z,<-D];refine J25 a1 a2 b8.symm b9 b3 r0 q0 lr c0 a3.symm a6 b1 c4 c5 c6 c7 c2 c3 @wrap_small d9 a8 O b5 e6.symm g6 ?_;exact eG (r:=(_,p.st,p.st+1)) q3 q1 b4 (fun h=>by simpa only[List.cons_append,List.nil_append,List.all_cons,List.all_nil,jz,Bool.true_and,Bool.and_true] using h)
   .have c3:decide (q.op=3)=false:=decide_eq_false o3;rw[if_neg o3];obtain⟨h5,I,e1,na,d0,e2,nb,d1,H6,a8,O,b5,e6,g6,W,f9,a9⟩:=ed 0;obtain⟨q1,b4,q3⟩:=d2 0 I H6 _ e6 W a9;simp only[List.cons_append,List.nil_append]at e6 g6;rw[j7 pz rfl _ sM,<-z,<-D];refine J25 a1 a2 b8.symm b9 b3 r0 q0 lr c0 a3.symm a6 b1 c4 c5 c6 c7 c2 c3 @wrap_small d9 a8 O b5 e6.symm g6 ?_;exact eG (r:=(_,p.st,p.st+1)) q3 q1 b4 (fun h=>by simpa only[List.cons_append,List.nil_append,List.all_cons,List.all_nil,jz,Bool.true_and,Bool.and_true] using h)
theorem pR(q:Q)(p:PrD)(h:q.op=6){x:Q}(u:q.a=[x]):C6 q p=(((C6 x {p with st:=p.st+1}).1.edge p.st (C6 x {p with st:=p.st+1}).2.1 0 0).edge (C6 x {p with st:=p.st+1}).2.2 p.st 0 0,p.st,p.st):=by
 cases q;simp only[Q.op]at h;simp only[Q.a]at u;subst h;subst u;rw[C6,if_neg (by decide),if_neg (by decide),if_pos rfl,dY]
theorem CZ(K k:Nat)(hk:k<=K)(ih:ml K k)(q:Q)(h6:q.op=6)(H:d8)(lo:Nat)(F:Nat->Prop)(Rt:LV->Q->Prop)(cs e2:LV)(p:PrD)(n2:lo<=H.next)(hF:∀j,F j->j<H.next) (hr:QR H lo (k+1) false cs q)
  (h5:∀k' el x,k'<=K->QR H lo k' true el x->Rt el x) (hp:PrF H F Rt e2 p) (j0:OkD false q) (d1:jT (nQ q) p):
  Ret (CL prog t6 90 [.agg e2.toArray,.agg cs.toArray] H) H (zY H F Rt (C6 q p)):=by
 obtain⟨f0,f1,f2,f3⟩:=d1;have i3:=fq q;obtain⟨k8,_,o1,_,k9⟩:=j0.parts;obtain⟨l1,l2,_,_⟩:=dE k9;have e1:lst false q.op=1/\mst false q.op=1:=by rw[h6];decide
 rw[e1.1]at l1;rw[e1.2]at l2;obtain⟨va,ca,wa,f5,rfl,h1,h2,h3,m5⟩:=hr.path;obtain⟨ea,ec,ta,tc,rfl,he,ht⟩:=D5 hp;obtain⟨x,nb,o,m3,own,el,hx,hd,rfl,n3,d7,i2,b5,hR⟩:=h1.row (i:=0) oM;have b7:q.a=[x]:=by
  obtain⟨y,hy⟩:=List.length_eq_one_iff.1 (show q.a.length=1 from oM);rw[hy]at hx ⊢;simpa using hx
 simp only[qSz,bF,Nat.zero_mul,Nat.add_zero]at b5 d7 i2;have o3:nQ x+1<=nQ q:=by rw[i3,b7,nL,nL];omega
 rw[pR q p h6 b7];obtain⟨a9,J⟩:=eY ([iV p.st,iV p.sa,iV p.en,.slice ea p.ed.length ec,.slice ta p.ts.length tc]:LV);obtain⟨U,O⟩:=eY ([iV q.op,.slice (some ⟨nb,o,none⟩) q.a.length ca,.slice wa q.b.length f5]:LV);obtain⟨H1,h0,hS,h8,d2,h9,d9,n5⟩:=zw H a9 U z7;have a1:a9.all oC=true:=by rw[J];rfl
 have a2:U.all oC=true:=by rw[O];rfl
 have r0:a9[0]?=some (.int .i64 p.st):=by rw[J];rfl
 have q0:U[0]?=some (.int .i64 q.op):=by rw[O];rfl
 have q1:U[1]?=some (.slice (some ⟨nb,o,none⟩) q.a.length ca):=by rw[O];rfl
 have lr:a9.length=5:=by rw[J];rfl
 have n1:(0:Int)<q.a.length:=oM;obtain⟨D,I⟩:=eY ([iV (p.st+1),iV p.sa,iV p.en,.slice ea p.ed.length ec,.slice ta p.ts.length tc]:LV);have k1:splice a9 0 [iV (p.st+1)]=D:=by rw[J,I];rfl
 have k7:D.length=5:=by rw[I];rfl
 obtain⟨H2,a3⟩:=eY (H1.put H.next (bC D 1));have c9:i6 H.next H1 H2:=by rw[a3];exact i6.put lR
 have n6:H2.next=H1.next:=by rw[a3,t5]
 have c7:H2.get H.next=cE D 1:=by rw[a3];exact j5 oM
 have g6:H2.get (H.next+1)=cE U 1:=by rw[a3,j6 oM];exact d2
 have g7:H2.get (H.next+2)=cE z7 1:=by rw[a3,j6 oM];exact h9
 have c4:decide (q.op=4)=false:=decide_eq_false oM;have c5:decide (q.op=5)=false:=decide_eq_false oM;have c6:decide (q.op=6)=true:=decide_eq_true h6;have k2:ldC (some true) (some 5) 0 D=some (.agg D.toArray):=by rw[I];rfl
 have S:i6 H.next H H2:=hS.trans c9;have m8:∀i,¬F (H.next+i):=fun i q=>oN (hF _ q);have g5:H2.get nb=_:=(S.get nb oM).trans d7;have j1:PrF H2 F Rt D {p with st:=p.st+1}:=⟨_,_,I,he.mono (fun j z=>S.get j (hF j z)) (fun _ h=>h) iF,ht.mono (fun j z=>S.get j (hF j z)) (fun _ h=>h) iF⟩
 obtain⟨v3,m4,H3,b2,d3,m2,rfl,b3,b6⟩:=ih H2 lo F Rt el D x {p with st:=p.st+1} oM (fun j z=>by have:=hF j z;omega) (hR.mono (fun j z=>S.get j oM) lR)
  (fun k' el x i0 h=>h5 k' el x i0 (h.mono (fun j z=>(S.get j oM).symm) lR)) j1 (k8 x (by rw[b7];simp)) ⟨by show 0<=p.st+1;omega,by show p.st+1+2*_<=_;omega,by show p.ed.length+_<=_;omega,by show p.ts.length+_<=_;omega⟩
 have d6:=F8 x {p with st:=p.st+1};obtain⟨r,k0⟩:∃r,r=C6 x {p with st:=p.st+1}:=eX;rw[<-k0]at b3 d6 b2 ⊢;obtain⟨g1,g2,g3,g4⟩:=d6;simp only at g1 g2 g3 g4;obtain⟨b9,c0,e3,e4,rfl,m9,o4⟩:=D5 b3;have n7:=b6.next;obtain⟨K,X⟩:=eY ([iV r.1.st,iV r.1.sa,iV r.1.en,.slice b9 r.1.ed.length c0,.slice e3 r.1.ts.length e4,iV r.2.1,iV r.2.2]:LV);obtain⟨b0,a7⟩:=eY ([iV r.1.st,iV r.1.sa,iV r.1.en,.slice b9 r.1.ed.length c0,.slice e3 r.1.ts.length e4]:LV);simp only[List.cons_append,List.nil_append]at b2;rw[<-X]at b2;rw[<-a7]at b3;have aK:K.all oC=true:=by rw[X];rfl
 have lK:K.length=7:=by rw[X];rfl
 have l5:splice z7 0 K=K:=by rw[X];rfl
 obtain⟨H4,h4,n4,c3,b4⟩:=pushP H3 (bC z7 1) (bC K 1);have k4:∀j,j<H2.next->H4.get j=H2.get j:=fun j z=>by rw[b4.get j oM,b6.get j z]
 have e6:H4.get (H.next+2)=cE z7 1:=(k4 _ oM).trans g7;have e5:H4.get H.next=cE D 1:=(k4 _ oM).trans c7;have k6:ldC (some true) (some 5) 0 K=some (.agg b0.toArray):=by rw[X,a7];rfl
 have K5:K[5]?=some (.int .i64 r.2.1):=by rw[X];rfl
 have K6:K[6]?=some (.int .i64 r.2.2):=by rw[X];rfl
 have j2:PrF H4 (R6 F H2 H3) Rt b0 r.1:=b3.mono (fun j z=>by
  rcases z with z|z
  .have:=hF j z;exact b4.get j oM
  .exact b4.get j z.2) (fun _ h=>h) iF
 have c8:∀j,R6 F H2 H3 j->j<H3.next:=by
  rintro j (z|z)
  .have:=hF j z;omega
  .exact z.2
 obtain⟨v5,m6,H5,h7,d4,f6,rfl,j3,a5⟩:=eh H4 (R6 F H2 H3) Rt b0 r.1 p.st r.2.1 0 0 (fun j z=>by have:=c8 j z;omega) j2 oM;have n9:=a5.next;have e7:H5.get H3.next=cE K 1:=(a5.get _ oM).trans c3;have g9:∀j,R6 (R6 F H2 H3) H4 H5 j->j<H5.next:=by
  rintro j (z|z)
  .have:=c8 j z;omega
  .exact z.2
 obtain⟨v6,m7,H6,d0,d5,u,rfl,b8,b1⟩:=eh H5 _ Rt f6 _ r.2.2 p.st 0 0 g9 j3 (by rw[P5];omega);have o0:=b1.next;obtain⟨f7,f8,m0,m1,rfl,n0,o5⟩:=D5 b8;obtain⟨u,E⟩:=eY ([iV ((r.1.edge p.st r.2.1 0 0).edge r.2.2 p.st 0 0).st,iV ((r.1.edge p.st r.2.1 0 0).edge r.2.2 p.st 0 0).sa,iV ((r.1.edge p.st r.2.1 0 0).edge r.2.2 p.st 0 0).en,.slice f7 ((r.1.edge p.st r.2.1 0 0).edge r.2.2 p.st 0 0).ed.length f8,.slice m0 ((r.1.edge p.st r.2.1 0 0).edge r.2.2 p.st 0 0).ts.length m1]:LV);rw[<-E]at b8 d0;have l6:u.length=5:=by rw[E];rfl
 have a6:u.all oC=true:=by rw[E];rfl
 have l3:splice D 0 u=u:=by rw[E,I];rfl
 have k3:ldC (some true) (some 5) 0 u=some (.agg u.toArray):=by rw[E];rfl
 have f4:T4 (fun i=>([(0,5),(5,1),(6,1)]:List (Nat×Nat))[i]?) z7 [(0,.agg u.toArray),(1,iV p.st),(2,iV p.st)]=some (u++se p.st p.st):=by rw[E];rfl
 have e8:H6.get H.next=cE D 1:=(b1.get _ oM).trans ((a5.get _ oM).trans e5);have e9:H6.get (H.next+2)=cE z7 1:=(b1.get _ oM).trans ((a5.get _ oM).trans e6);obtain⟨H7,W⟩:=eY (H6.put H.next (bC u 1));have f9:H7.get H.next=cE u 1:=by rw[W];exact j5 oM
 have g0:H7.get (H.next+2)=cE z7 1:=by rw[W,j6 oM];exact e9
 have a8:(u++se p.st p.st).all oC=true:=by rw[E];rfl
 have l8:(u++se p.st p.st).length=7:=by rw[E];rfl
 have l4:splice z7 0 (u++se p.st p.st)=u++se p.st p.st:=by rw[E];rfl
 have k5:ldC (some true) (some 7) 0 (u++se p.st p.st)=some (.agg (u++se p.st p.st).toArray):=by rw[E];rfl
 obtain⟨H8,a4⟩:=eY (H7.put (H.next+2) (bC (u++se p.st p.st) 1));have g8:H8.get (H.next+2)=cE (u++se p.st p.st) 1:=by rw[a4];exact j5 (by rw[W,t5];omega)
 have s8:i6 H.next H1 H8:=(((((c9.trans (b6.weaken oM)).trans (b4.weaken oM)).trans (a5.weaken oM)).trans (b1.weaken oM)).trans (show i6 H.next H6 H7 by rw[W];exact i6.put lR)).trans (show i6 H.next H7 H8 by rw[a4];exact i6.put oM);have n8:H8.next=H6.next:=by rw[a4,t5,W,t5]
 have i1:=s8.low d9;have j4:PrF H8 (R6 F H H8) Rt u ((r.1.edge p.st r.2.1 0 0).edge r.2.2 p.st 0 0):=b8.mono (fun j z=>by
  have o2:j≠H.next/\j≠H.next+2:=by
   rcases z with((z|z)|z)|z
   .have:=hF j z;omega
   .omega
   .omega
   .omega
  rw[a4,j6 oM,W,j6 oM]) (fun j z=>by
  rcases z with((z|z)|z)|z
  .exact .inl z
  .exact .inr ⟨oM,oM⟩
  .exact .inr ⟨oM,oM⟩
  .exact .inr ⟨oM,oM⟩) iF
 rw[j7 pz rfl _ sM,<-J,<-O];refine J30 a1 a2 h0.symm h8 d2 r0 q0 q1 lr (aI k1 a3.symm) (aI c7 g6) (aI c4 c5) (aI c6 @wrap_small) (aI k2 g5) (aI b5 b2) (aI d3 aK) (aI lK l5) (aI h4.symm c3) (aI k6 K5) (aI K6 h7) (aI d4 e7) (aI d0 d5) (aI e8 k7) (aI l6 a6) (aI l3 W.symm) (aI f9 k3) (aI g0 f4) (aI a8 l8) (aI l4 a4.symm) (aI g8 k5) ?_;exact eG (r:=(_,p.st,p.st)) j4 (hS.trans s8) i1 (fun h=>h)
structure Jd(Kc row4:LV)(r:PrD×Int×Int):Prop where
 all:Kc.all Value.oneCell'=true
 len:Kc.length=7
 spl:splice z7 0 Kc=Kc
 ld5:ldC (some true) (some 5) 0 Kc=some (.agg row4.toArray)
 ld7:ldC (some true) (some 7) 0 Kc=some (.agg Kc.toArray)
 c5:Kc[5]?=some (.int .i64 r.2.1)
 c6:Kc[6]?=some (.int .i64 r.2.2)
 row:Kc=row4++se r.2.1 r.2.2
 len4:row4.length=5
 all4:row4.all Value.oneCell'=true
 spl7:∀K2:LV,K2.length=7->splice K2 0 Kc=Kc
 spl5:∀R:LV,R.length=5->splice R 0 row4=row4
 bld:∀s e:Int,T4 (fun i=>([(0,5),(5,1),(6,1)]:List (Nat×Nat))[i]?) z7 [(0,.agg row4.toArray),(1,iV s),(2,iV e)]=some (row4++se s e)
 ld:ldC (some true) (some 5) 0 row4=some (.agg row4.toArray)
theorem x9:∀(A B:LV),A.length=B.length->splice A 0 B=B:=by
 intro A B h;apply List.ext_getElem?;intro i;rw[Y9 B A 0 i oM];split
 .simp
 .rw[List.getElem?_eq_none oM,List.getElem?_eq_none oM]
theorem jK{H:d8}{F:Nat->Prop}{z:LV->Q->Prop}{u:LV}{r:PrD×Int×Int}(h:PrF H F z u r.1):Jd (u++se r.2.1 r.2.2) u r:=by
 obtain⟨E,I,J,O,rfl,_,_⟩:=D5 h;exact⟨rfl,rfl,rfl,rfl,rfl,rfl,rfl,rfl,rfl,rfl,fun D y=>x9 _ _ (by rw[y];rfl),fun R y=>x9 _ _ (by rw[y];rfl),fun s e=>rfl,rfl⟩
theorem mf(K k:Nat)(ih:ml K k)(lo:Nat)(F:Nat->Prop)(Rt:LV->Q->Prop)(Hx:d8)(el D:LV)(x:Q)(z:PrD)(a6:lo<=Hx.next)(hF:∀j,F j->j<Hx.next) (hr:QR Hx lo k false el x)
  (a4:∀k' el x,k'<=K->QR Hx lo k' true el x->Rt el x) (hp:PrF Hx F Rt D z) (a7:OkD false x) (S:jT (nQ x) z):
  ∃h3 y E u,CL prog t6 90 [.agg D.toArray,.agg el.toArray] Hx=dL (.agg (u++se (C6 x z).2.1 (C6 x z).2.2).toArray) h3/\h3.getD Hx=y/\E=(y.push (bC z7 1)).put y.next (.cells (u++se (C6 x z).2.1 (C6 x z).2.2) true 1)/\
   E.next=y.next+1/\E.get y.next=some (.cells (u++se (C6 x z).2.1 (C6 x z).2.2) true 1)/\Hx.next<=y.next/\i6 Hx.next Hx E/\PrF E (R6 F Hx y) Rt u (C6 x z).1/\Jd (u++se (C6 x z).2.1 (C6 x z).2.2) u (C6 x z)/\(∀j,R6 F Hx y j->j<y.next):=by
 obtain⟨v3,a3,y,a5,U,I,rfl,a1,O⟩:=ih Hx lo F Rt el D x z a6 hF hr a4 hp a7 S;have X:=O.next;have J:∀j,R6 F Hx y j->j<y.next:=by
  rintro j (W|W)
  .have:=hF j W;omega
  .exact W.2
 have a2:i6 y.next y ((y.push (bC z7 1)).put y.next (.cells (I++se (C6 x z).2.1 (C6 x z).2.2) true 1)):=(i6.push lR).trans (i6.put lR);exact⟨a3,y,_,I,a5,U,rfl,by rw[t5,i5],j5 (by rw[i5];omega),X,O.trans (a2.weaken X),a1.mono (fun j W=>a2.get j (J j W)) (fun _ h=>h) iF,jK a1,J⟩
theorem FJ(K k:Nat)(hk:k<=K)(ih:ml K k)(H0:d8)(lo I:Nat)(F:Nat->Prop)(Rt:LV->Q->Prop)(e6:lo<=I)(hF:∀j,F j->j<I) (d0:∀k' el x,k'<=K->QR H0 lo k' true el x->Rt el x) (e2:I+3<=H0.next)
  (va:Option Addr) (ca:Nat) (l:List Q) (hv:QsR H0 lo k false (.slice va l.length ca) l) (hn:l.length<=1048576) (d5:∀x∈l,OkD false x) (a3:LV) (hq:H0.get (I+1)=cE a3 1) (b8:a3[1]?=some (.slice va l.length ca)) (g4:H0.get (I+2)=cE z7 1) (W:PrD×Int×Int):
  ∀kk e H2,(∃(i E:Nat)(r:PrD×Int×Int)(u:LV)(G:Nat->Prop),kk=l.length-i/\i<=l.length/\e.get 3=pT (I+1)/\e.get 4=pT (I+2)/\e.get 6=pT E/\e.get 7=iV r.2.1/\e.get 8=iV i/\
    H2.get E=cE (u++se r.2.1 r.2.2) 1/\I+3<=E/\E<H2.next/\PrF H2 G Rt u r.1/\(∀j,G j->(F j\/I+3<=j)/\j<H2.next/\j≠E)/\i6 (I+3) H0 H2/\jT (nL (l.drop i)) r.1/\bO (l.drop i) r=W)->
  w7 (LE prog t6 (.loop On) e H2) (fun o e H2=>o= .exit 0/\e.get 4=pT (I+2)/\∃(E:Nat)(u:LV)(G:Nat->Prop),e.get 6=pT E/\H2.get E=cE (u++se W.2.1 W.2.2) 1/\PrF H2 G Rt u W.1/\(∀j,G j->(F j\/I+3<=j)/\j<H2.next)/\i6 (I+3) H0 H2):=by
 refine i8 _ _ ?_;rintro kk e H2 ⟨i,E,r,u,G,e3,hi,f3,f4,f6,f7,f8,g6,d6,b7,hp,hG,hS,O,fu⟩;have e8:=hS.next;have b9:=(hS.get (I+1) oM).trans hq;have h7:=jK hp;obtain⟨Kc,a7⟩:=eY (u++se r.2.1 r.2.2);rw[<-a7]at h7 g6;rcases b:decide ((i:Int)<l.length)with _|_
 .have d1:=dF b;have:l.drop i=[]:=dN oM;rw[this,bO]at fu;refine J5 f3 f8 b9 b8 b ?_;exact i9 ⟨rfl,f4,E,u,G,f6,by rw[<-fu,<-a7];exact g6,by rw[<-fu];exact hp,fun j D=>⟨(hG j D).1,(hG j D).2.1⟩,hS⟩
 have d1:=dT b;obtain⟨x,nb,o,d7,own,el,hx,hd,rfl,e7,b4,e5,a1,hR⟩:=hv.row (i:=i) oM;have nt:(i:Int).toNat=i:=tN i;simp only[qSz,bF]at a1 b4;have c7:=(hS.get nb oM).trans b4;rw[hd]at fu O;rw[bO]at fu;rw[nL]at O;obtain⟨t0,t1,t2,t3⟩:=O;have b3:=F8 x r.1;obtain⟨d9,H3,H4,a2,a4,b1,e4,n4,S,n3,a9,b5,z,c8⟩:=mf K k ih lo G Rt H2 el u x r.1 oM (fun j D=>(hG j D).2.1) (hR.mono (fun j D=>hS.get j oM) lR) (fun k' el x d3 h=>d0 k' el x d3 (h.mono (fun j D=>(hS.get j oM).symm) lR)) hp (d5 x (mG hx)) ⟨t0,oM,oM,oM⟩;obtain⟨y,hy⟩:=eY (C6 x r.1);rw[<-hy]at a4 e4 S b5 z b3 fu;obtain⟨w0,w1,w2,w3⟩:=b3;obtain⟨Kd,c9⟩:=eY (a2++se y.2.1 y.2.2);rw[<-c9]at a4 e4 S z;have a6:H4.get E=cE Kc 1:=(a9.get E b7).trans g6;have d4:¬R6 G H2 H3 E:=by
  rintro(q|q)
  .exact(hG E q).2.2 rfl
  .omega
 obtain⟨v5,e1,H5,d2,b2,a5,rfl,b6,U⟩:=eh H4 (R6 G H2 H3) Rt a2 y.1 r.2.2 y.2.1 0 0 (fun j D=>by have:=c8 j D;omega) b5 oM;have n5:=U.next;have J:=jK (r:=(y.1.edge r.2.2 y.2.1 0 0,r.2.1,y.2.2)) b6;have c4:H5.get H3.next=cE Kd 1:=(U.get _ oM).trans S;have c3:H5.get E=cE Kc 1:=(U.get _ oM).trans a6;obtain⟨Ke,a8⟩:=eY (a5++se r.2.1 y.2.2);have X:=J.bld r.2.1 y.2.2;simp only at J;rw[<-a8]at J X;have c0:=J.spl7 Kc h7.len;refine J30 f3 f6 f7 f8 b9 b8 b c7 nt a1 g6 h7.ld5 h7.len a4 b1 z.all z.len z.spl e4.symm S z.ld5 z.c5 z.c6 a6 h7.c6 d2 (aI b2 c4) (aI c3 X) (aI J.all J.len) (aI c0 @wrap_small) ?_;refine i4 (kk-1) oM ⟨i+1,E,(y.1.edge r.2.2 y.2.1 0 0,r.2.1,y.2.2),a5,R6 (R6 G H2 H3) H4 H5,oM,oM,f3,f4,f6,f7,rfl,by rw[<-a8];exact j5 oM,d6,by rw[t5];omega,b6.mono (fun j D=>j6 ?_) (fun _ h=>h) iF,?_,?_,?_,fu⟩
 .rintro rfl;rcases D with D|D
  .exact d4 D
  .omega
 .rintro j ((D|D)|D)
  .have:=hG j D;exact⟨this.1,by rw[t5];omega,this.2.2⟩
  .exact⟨.inr oM,by rw[t5];omega,oM⟩
  .exact⟨.inr oM,by rw[t5];omega,oM⟩
 .exact((hS.trans (a9.weaken oM)).trans (U.weaken oM)).trans (i6.put oM)
 .refine⟨by simp only[X9];omega,by simp only[X9];omega,by rw[P5];omega,by simp only[dx];omega⟩
theorem sZ(q:Q)(p:PrD)(h:q.op=4):C6 q p=eu q.a p:=by
 cases q;simp only[Q.op]at h;subst h;rw[C6,if_pos rfl];rfl
theorem Gq(K k:Nat)(hk:k<=K)(ih:ml K k)(q:Q)(h4:q.op=4)(H:d8)(lo:Nat)(F:Nat->Prop)(Rt:LV->Q->Prop)(cs c8:LV)(p:PrD)(d9:lo<=H.next)(hF:∀j,F j->j<H.next) (hr:QR H lo (k+1) false cs q)
  (b2:∀k' el x,k'<=K->QR H lo k' true el x->Rt el x) (hp:PrF H F Rt c8 p) (e2:OkD false q) (b3:jT (nQ q) p):
  Ret (CL prog t6 90 [.agg c8.toArray,.agg cs.toArray] H) H (zY H F Rt (C6 q p)):=by
 obtain⟨f0,f1,f2,f3⟩:=b3;have g0:=fq q;obtain⟨c7,_,o1,_,e7⟩:=e2.parts;obtain⟨l1,l2,_,_⟩:=dE e7;have e1:lst false q.op=2:=by rw[h4];decide
 rw[e1]at l1;obtain⟨va,ca,wa,d0,rfl,h1,h2,h3,f4⟩:=hr.path;obtain⟨ea,ec,ta,tc,rfl,he,ht⟩:=D5 hp;obtain⟨x,nb,o,e8,own,el,hx,hd,rfl,f7,b8,d7,a3,hR⟩:=h1.row (i:=0) oM;simp only[qSz,bF,Nat.zero_mul,Nat.add_zero]at a3 b8 d7;have a7:q.a=x::q.a.drop 1:=by simpa using hd
 have f9:nL q.a=nQ x+nL (q.a.drop 1):=by rw[a7,nL];rfl
 have c6:C6 q p=bO (q.a.drop 1) (C6 x p):=by rw[sZ q p h4,a7,eu];rfl
 rw[c6];obtain⟨J,u⟩:=eY ([iV p.st,iV p.sa,iV p.en,.slice ea p.ed.length ec,.slice ta p.ts.length tc]:LV);obtain⟨I,D⟩:=eY ([iV q.op,.slice (some ⟨nb,o,none⟩) q.a.length ca,.slice wa q.b.length d0]:LV);obtain⟨H1,d4,hS,d5,b4,b5,b9,f8⟩:=zw H J I z7;have a1:J.all oC=true:=by rw[u];rfl
 have a2:I.all oC=true:=by rw[D];rfl
 have r0:J[0]?=some (.int .i64 p.st):=by rw[u];rfl
 have q0:I[0]?=some (.int .i64 q.op):=by rw[D];rfl
 have q1:I[1]?=some (.slice (some ⟨nb,o,none⟩) q.a.length ca):=by rw[D];rfl
 have e6:ldC (some true) (some 5) 0 J=some (.agg J.toArray):=by rw[u];rfl
 have f6:(0:Int)<q.a.length:=oM;have c4:decide (q.op=4)=true:=decide_eq_true h4;have d3:H1.get nb=_:=(hS.get nb oM).trans b8;have e3:PrF H1 F Rt J p:=⟨_,_,u,he.mono (fun j E=>hS.get j (hF j E)) (fun _ h=>h) iF,ht.mono (fun j E=>hS.get j (hF j E)) (fun _ h=>h) iF⟩
 obtain⟨e9,H3,H4,a4,a8,b6,e4,n4,W,n3,a5,c0,O,f5⟩:=mf K k ih lo F Rt H1 el J x p oM (fun j E=>by have:=hF j E;omega) (hR.mono (fun j E=>hS.get j oM) lR) (fun k' el x a9 h=>b2 k' el x a9 (h.mono (fun j E=>(hS.get j oM).symm) lR)) e3 (c7 x (by rw[a7];simp)) ⟨f0,oM,oM,oM⟩;have b7:=F8 x p;obtain⟨y,hy⟩:=eY (C6 x p);rw[<-hy]at a8 e4 W c0 O b7 ⊢;obtain⟨w0,w1,w2,w3⟩:=b7;obtain⟨Kd,b0⟩:=eY (a4++se y.2.1 y.2.2);rw[<-b0]at a8 e4 W O;have k4:∀j,j<H1.next->H4.get j=H1.get j:=a5.get;have X:i6 H.next H H4:=hS.trans (a5.weaken oM);rw[j7 pz rfl _ sM,<-u,<-D];refine J20 a1 a2 d4.symm d5 b4 r0 q0 q1 c4 e6 d3 a3 a8 b6 O.all O.len O.spl e4.symm W O.c5 ?_;refine j8 (F:=fun z=>Ret (u5 _ _ _ (u9 (u9 (inBlock 0 z) _) _)) _ _) (FJ K k hk ih H4 lo H.next F Rt d9 hF (fun k' el x a9 h=>b2 k' el x a9 (h.mono (fun j E=>(X.get j oM).symm) lR)) oM (some ⟨nb,o,none⟩) ca q.a (h1.mono (fun j E=>X.get j oM) lR) h3 c7 I ((k4 _ oM).trans b4) q1 ((k4 _ oM).trans b5) (bO (q.a.drop 1) y) (q.a.length-1) _ _
  ⟨1,H3.next,y,a4,R6 F H1 H3,rfl,oM,rfl,rfl,rfl,rfl,by rfl,by rw[<-b0];exact W,oM,oM,c0,?_,i6.refl _ _,⟨oM,oM,oM,oM⟩,rfl⟩) ?_
 .rintro j (E|E)
  .have:=hF j E;exact⟨.inl E,oM,oM⟩
  .exact⟨.inr oM,oM,oM⟩
 rintro o' e' H5 ⟨ho,e5,p6,c9,G,k6,g6,c3,hG,a6⟩;have n5:=a6.next;have S:=jK c3;obtain⟨Ke,b1⟩:=eY (c9++se (bO (q.a.drop 1) y).2.1 (bO (q.a.drop 1) y).2.2);rw[<-b1]at g6 S;have d1:H5.get (H.next+2)=cE z7 1:=(a6.get _ oM).trans ((k4 _ oM).trans b5);obtain⟨H6,U⟩:=eY (H5.put (H.next+2) (bC Ke 1));have d2:H6.get (H.next+2)=cE Ke 1:=by rw[U];exact j5 oM
 have s6:i6 H.next H1 H6:=((a5.weaken oM).trans (a6.weaken oM)).trans (show i6 H.next H5 H6 by rw[U];exact i6.put oM);have d6:=s6.low b9;refine J11 ho e5 k6 g6 S.ld7 d1 S.all S.len S.spl U.symm d2 ?_;rw[b1];refine eG (c3.mono (fun j E=>?_) (fun j E=>?_) iF) (hS.trans s6) d6 (fun h=>h)
 .rw[U];refine j6 ?_;rcases(hG j E).1 with q|q
  .have:=hF j q;omega
  .omega
 .rcases(hG j E).1 with q|q
  .exact .inl q
  .exact .inr ⟨oM,by rw[U,t5];exact(hG j E).2⟩
theorem Dc(K k:Nat)(hk:k<=K)(ih:ml K k)(H0:d8)(lo D:Nat)(F:Nat->Prop)(Rt:LV->Q->Prop)(f8:lo<=D)(hF:∀j,F j->j<D) (d6:∀k' el x,k'<=K->QR H0 lo k' true el x->Rt el x) (f0:D+3<=H0.next)
  (va:Option Addr) (ca:Nat) (l:List Q) (hv:QsR H0 lo k false (.slice va l.length ca) l) (hn:l.length<=1048576) (e3:∀x∈l,OkD false x) (X:LV) (hq:H0.get (D+1)=cE X 1) (c4:X[1]?=some (.slice va l.length ca)) (z:Blk) (g4:H0.get (D+2)=some z) (n:Int) (a7:PrD×List Int):
  ∀kk e H2,(∃(i:Nat)(p:PrD)(es:List Int)(w:Value)(u:LV)(G:Nat->Prop),kk=l.length-i/\i<=l.length/\es.length=i/\e.get 2=pT D/\e.get 3=pT (D+1)/\e.get 4=pT (D+2)/\e.get 5=iV n/\e.get 10=w/\e.get 11=iV i/\
    H2.get D=cE u 1/\H2.get (D+1)=cE X 1/\H2.get (D+2)=some z/\PrF H2 G Rt u p/\(∀j,G j->(F j\/D+3<=j)/\j<H2.next/\¬l7 w j)/\u6 H2 (D+3) 1 (w9 inE) w es/\i6 D H0 H2/\jT (nL (l.drop i)) p/\I9 (l.drop i) n p es=a7)->
  w7 (LE prog t6 (.loop Oo) e H2) (fun o e H2=>o= .exit 2/\e.get 2=pT D/\e.get 4=pT (D+2)/\e.get 5=iV n/\∃(w:Value)(u:LV)(G:Nat->Prop),e.get 10=w/\H2.get D=cE u 1/\H2.get (D+2)=some z/\PrF H2 G Rt u a7.1/\(∀j,G j->(F j\/D+3<=j)/\j<H2.next)/\u6 H2 (D+3) 1 (w9 inE) w a7.2/\i6 D H0 H2):=by
 refine i8 _ _ ?_;rintro kk e H2 ⟨i,p,es,w,u,G,f6,hi,f1,f2,f3,f4,f5,a8,a9,g0,gq,gz,hp,hG,hO,hS,W,fu⟩;have f9:=hS.next;have b2:=u7 g0;have b3:=u7 gz;have h7:=jK (r:=(p,0,0)) hp;rcases b:decide ((i:Int)<l.length)with _|_
 .have d9:=dF b;have:l.drop i=[]:=dN oM;rw[this,I9]at fu;refine J5 f3 a9 gq c4 b ?_;exact i9 ⟨rfl,f2,f4,f5,w,u,G,a8,g0,gz,by rw[<-fu];exact hp,fun j E=>⟨(hG j E).1,(hG j E).2.1⟩,by rw[<-fu];exact hO,hS⟩
 have d9:=dT b;obtain⟨x,nb,o,e6,own,el,hx,hd,rfl,b9,b8,f7,a3,hR⟩:=hv.row (i:=i) oM;have nt:(i:Int).toNat=i:=tN i;simp only[qSz,bF]at a3 b8;have d1:=(hS.get nb oM).trans b8;rw[hd]at fu W;rw[I9]at fu;rw[nL]at W;obtain⟨t0,t1,t2,t3⟩:=W;have b7:=F8 x p;obtain⟨e7,H3,H4,a4,a6,b4,e4,n4,a1,n3,b1,c0,I,d2⟩:=mf K k ih lo G Rt H2 el u x p oM (fun j E=>(hG j E).2.1) (hR.mono (fun j E=>hS.get j oM) lR) (fun k' el x e2 h=>d6 k' el x e2 (h.mono (fun j E=>(hS.get j oM).symm) lR)) hp (e3 x (mG hx)) ⟨t0,oM,oM,oM⟩;obtain⟨y,hy⟩:=eY (C6 x p);rw[<-hy]at a6 e4 a1 c0 I b7 fu;obtain⟨w0,w1,w2,w3⟩:=b7;obtain⟨Kd,d3⟩:=eY (a4++se y.2.1 y.2.2);rw[<-d3]at a6 e4 a1 I;obtain⟨v5,e8,H5,e1,b5,U,rfl,c3,a2⟩:=eh H4 (R6 G H2 H3) Rt a4 y.1 n y.2.1 0 0 (fun j E=>by have:=d2 j E;omega) c0 oM;have n5:=a2.next;have a5:=jK (r:=(y.1.edge n y.2.1 0 0,0,0)) c3;have c8:H5.get H3.next=cE Kd 1:=(a2.get _ oM).trans a1;have k5:∀j,j<H2.next->H5.get j=H2.get j:=fun j E=>by rw[a2.get j oM,b1.get j E]
 have c7:H5.get D=cE u 1:=(k5 _ b2).trans g0;have e5:splice u 0 U=U:=a5.spl5 u h7.len4;obtain⟨H6,J⟩:=eY (H5.put D (bC U 1));have n6:H6.next=H5.next:=by rw[J,t5]
 have c9:H6.get H3.next=cE Kd 1:=by rw[J,j6 oM];exact c8
 have k6:∀j,j<H2.next->j≠D->H6.get j=H2.get j:=fun j E O=>by rw[J,j6 (fun q=>O q.symm)];exact k5 j E
 have d4:u6 H6 (D+3) 1 (w9 inE) w es:=hO.same fun b hb=>by have:=hO.lt hb;exact k6 b this.2 oM
 obtain⟨v7,e9,H7,d7,b6,d5,S⟩:=d4.push1F (P:=prog) (t:=29) (cs:=inE y.2.2) (a:=y.2.2) (by exact CE.2.2.2.2.2.2) ty3.1 ty3.2.1 ty3.2.2.1 oM oM rfl rfl oM oM;have n7:=S.next;have nw:∀j,j<D+3->¬l7 w j:=fun j E q=>oN (hO.lt q);have k7:∀j,j<D+3->j≠D->j<H2.next->H7.get j=H2.get j:=fun j E O b9=>by rw[S.but j oM (nw j E),k6 j b9 O]
 have d0:H7.get D=cE U 1:=by rw[S.but D oM (nw D oM),J];exact j5 oM
 refine J30 f2 f3 f5 a8 a9 gq c4 b d1 nt a3 g0 h7.ld a6 b4 I.all I.len I.spl e4.symm a1 I.ld5 I.c5 I.c6 e1 b5 (aI c7 a5.all4) (aI a5.len4 h7.len4) (aI e5 J.symm) (aI c9 d7) (aI b6 @wrap_small) ?_;refine i4 (kk-1) oM ⟨i+1,y.1.edge n y.2.1 0 0,es++[y.2.2],v7,U,R6 (R6 G H2 H3) H4 H5,oM,oM,by simp;omega,f2,f3,f4,f5,rfl,rfl,d0,(k7 _ oM oM (oN (u7 gq))).trans gq,(k7 _ oM oM b3).trans gz,?_,?_,d5,?_,?_,fu⟩
 .refine c3.mono (fun j E=>?_) (fun _ h=>h) iF;have O:j≠D/\j<H6.next/\¬l7 w j:=by
   rcases E with(E|E)|E
   .have:=hG j E;refine⟨?_,oM,this.2.2⟩;rcases this.1 with q|q
    .have:=hF j q;omega
    .omega
   .exact⟨oM,oM,fun q=>by have:=hO.lt q;omega⟩
   .exact⟨oM,oM,fun q=>by have:=hO.lt q;omega⟩
  rw[S.but j O.2.1 O.2.2,J,j6 (fun q=>O.1 q.symm)]
 .rintro j E;have nv:∀b,l7 v7 b->l7 w b\/H6.next<=b:=S.new;rcases E with(E|E)|E
  .have:=hG j E;exact⟨this.1,oM,fun q=>(nv j q).elim this.2.2 (fun q=>oM)⟩
  .exact⟨.inr oM,oM,fun q=>(nv j q).elim (fun q=>by have:=hO.lt q;omega) (fun q=>oM)⟩
  .exact⟨.inr oM,oM,fun q=>(nv j q).elim (fun q=>by have:=hO.lt q;omega) (fun q=>oM)⟩
 .exact(((hS.trans (b1.weaken oM)).trans (a2.weaken oM)).trans (show i6 D H5 H6 by rw[J];exact i6.put lR)).trans (S.stay.weaken oM)
 .refine⟨by simp only[X9];omega,by simp only[X9];omega,by rw[P5];omega,by simp only[dx];omega⟩
theorem AX(H0:d8)(y:Nat)(F:Nat->Prop)(Rt:LV->Q->Prop)(hF:∀j,F j->j<y) (b7:y+3<=H0.next) (w:Value) (J:List Int) (hO:u6 H0 (y+3) 1 (w9 inE) w J) (hl:J.length<=900000) (z:Blk) (gz:H0.get (y+2)=some z) (n t:Int) (a7:PrD):
  ∀kk e H2,(∃(i:Nat)(p:PrD)(u:LV)(G:Nat->Prop),kk=J.length-i/\i<=J.length/\e.get 2=pT y/\e.get 4=pT (y+2)/\e.get 5=iV n/\e.get 10=w/\e.get 13=iV t/\e.get 14=iV i/\
    H2.get y=cE u 1/\PrF H2 G Rt u p/\(∀j,G j->(F j\/y+3<=j)/\j<H2.next)/\(∀j,y<j->j<H0.next->H2.get j=H0.get j)/\i6 y H0 H2/\p.ed.length+J.length<=900000+i/\(J.drop i).foldl (fun m x=>m.edge x t 0 0) p=a7)->
  w7 (LE prog t6 (.loop Oq) e H2) (fun o e H2=>o= .exit 4/\e.get 2=pT y/\e.get 4=pT (y+2)/\e.get 5=iV n/\e.get 13=iV t/\∃(u:LV)(G:Nat->Prop),H2.get y=cE u 1/\H2.get (y+2)=some z/\PrF H2 G Rt u a7/\(∀j,G j->(F j\/y+3<=j)/\j<H2.next)/\i6 y H0 H2):=by
 refine i8 _ _ ?_;rintro kk e H2 ⟨i,p,u,G,b8,hi,f2,f4,f5,X,U,a1,g0,hp,hG,D,hS,b5,fu⟩;have c3:=hS.next;have a2:=u7 g0;have h7:=jK (r:=(p,0,0)) hp;have a9:=(D (y+2) oM (u7 gz)).trans gz;obtain⟨wa,wc,a6⟩:=hO.slice;have E:=X;rw[a6]at E;rcases b:decide ((i:Int)<J.length)with _|_
 .have b1:=dF b;have:J.drop i=[]:=dN oM;rw[this,List.foldl_nil]at fu;refine J3 E a1 b ?_;exact i9 ⟨rfl,f2,f4,f5,U,u,G,g0,a9,by rw[<-fu];exact hp,hG,hS⟩
 have b1:=dT b;obtain⟨x,hx,hd⟩:=Q1 (l:=J) (i:=i) oM;obtain⟨nb,c,cs,hv,c4,a4,hg,b9,hR⟩:=hO.at_ hx;rw[a6]at hv;obtain⟨rfl,rfl⟩:wa=some ⟨nb,0,none⟩/\wc=c:=by simpa using hv
 have nt:(i:Int).toNat=i:=tN i;have b3:=(D nb oM a4).trans hg;have c0:cs[i]?=some (.int .i64 x):=by
  have:(cs.drop (i*1)).take 1=[iV x]:=hR;have:=Q3 (k:=0) oM this
  simpa using this
 rw[hd,List.foldl_cons]at fu;obtain⟨v5,b6,H5,b2,a3,S,rfl,a5,O⟩:=eh H2 G Rt u p x t 0 0 (fun j I=>(hG j I).2) hp oM;have n5:=O.next;have W:=jK (r:=(p.edge x t 0 0,0,0)) a5;have a8:H5.get y=cE u 1:=(O.get _ a2).trans g0;have b4:splice u 0 S=S:=W.spl5 u h7.len4;refine J19 f2 E U a1 b g0 h7.ld b3 nt @Nat.mul_one c0 b2 a3 a8 W.all4 W.len4 h7.len4 b4 @wrap_small ?_;refine i4 (kk-1) oM ⟨i+1,p.edge x t 0 0,S,R6 G H2 H5,oM,oM,f2,f4,f5,X,U,rfl,j5 oM,a5.mono (fun j I=>j6 ?_) (fun _ h=>h) iF,?_,fun j h1 h2=>?_,(hS.trans (O.weaken oM)).trans (i6.put lR),by rw[P5];omega,fu⟩
 .rintro rfl;rcases I with I|I
  .rcases(hG _ I).1 with q|q
   .have:=hF _ q;omega
   .omega
  .omega
 .rintro j (I|I)
  .have:=hG j I;exact⟨this.1,by rw[t5];omega⟩
  .exact⟨.inr oM,by rw[t5];exact I.2⟩
 .rw[j6 oM,O.get j oM,D j h1 h2]
theorem sY(q:Q)(p:PrD)(h:q.op=5):C6 q p=(((I9 q.a p.st {p with st:=p.st+1} []).2.foldl (fun m x=>m.edge x (I9 q.a p.st {p with st:=p.st+1} []).1.st 0 0) {(I9 q.a p.st {p with st:=p.st+1} []).1 with st:=(I9 q.a p.st {p with st:=p.st+1} []).1.st+1}),p.st,(I9 q.a p.st {p with st:=p.st+1} []).1.st):=by
 cases q;simp only[Q.op]at h;subst h;rw[C6,if_neg (by decide),if_pos rfl];rfl
theorem Gp(K k:Nat)(hk:k<=K)(ih:ml K k)(q:Q)(h5:q.op=5)(H:d8)(lo:Nat)(F:Nat->Prop)(Rt:LV->Q->Prop)(cs d0:LV)(p:PrD)(f7:lo<=H.next)(hF:∀j,F j->j<H.next) (hr:QR H lo (k+1) false cs q)
  (e7:∀k' el x,k'<=K->QR H lo k' true el x->Rt el x) (hp:PrF H F Rt d0 p) (f9:OkD false q) (b9:jT (nQ q) p):
  Ret (CL prog t6 90 [.agg d0.toArray,.agg cs.toArray] H) H (zY H F Rt (C6 q p)):=by
 obtain⟨f0,f1,f2,f3⟩:=b9;have i0:=fq q;have h7:=sw q.a;obtain⟨g9,_,o1,_,i1⟩:=f9.parts;obtain⟨va,ca,wa,d2,rfl,h1,h2,h3,h6⟩:=hr.path;obtain⟨ea,ec,ta,tc,rfl,he,ht⟩:=D5 hp;rw[sY q p h5];obtain⟨a6,u⟩:=eY ([iV p.st,iV p.sa,iV p.en,.slice ea p.ed.length ec,.slice ta p.ts.length tc]:LV);obtain⟨D,E⟩:=eY ([iV q.op,.slice va q.a.length ca,.slice wa q.b.length d2]:LV);obtain⟨H1,e5,hS,e9,c0,f4,c3,h8⟩:=zw H a6 D z7;have a1:a6.all oC=true:=by rw[u];rfl
 have a2:D.all oC=true:=by rw[E];rfl
 have r0:a6[0]?=some (.int .i64 p.st):=by rw[u];rfl
 have q0:D[0]?=some (.int .i64 q.op):=by rw[E];rfl
 have q1:D[1]?=some (.slice va q.a.length ca):=by rw[E];rfl
 have lr:a6.length=5:=by rw[u];rfl
 obtain⟨O,a4⟩:=eY ([iV (p.st+1),iV p.sa,iV p.en,.slice ea p.ed.length ec,.slice ta p.ts.length tc]:LV);have g3:splice a6 0 [iV (p.st+1)]=O:=by rw[u,a4];rfl
 obtain⟨H2,X⟩:=eY (H1.put H.next (bC O 1));have b6:i6 H.next H1 H2:=by rw[X];exact i6.put lR
 have h9:H2.next=H1.next:=by rw[X,t5]
 have e4:H2.get H.next=cE O 1:=by rw[X];exact j5 oM
 have b2:H2.get (H.next+1)=cE D 1:=by rw[X,j6 oM];exact c0
 have b3:H2.get (H.next+2)=cE z7 1:=by rw[X,j6 oM];exact f4
 have c4:decide (q.op=4)=false:=decide_eq_false oM;have c5:decide (q.op=5)=true:=decide_eq_true h5;have W:i6 H.next H H2:=hS.trans b6;have g0:PrF H2 F Rt O {p with st:=p.st+1}:=⟨_,_,a4,he.mono (fun j y=>W.get j (hF j y)) (fun _ h=>h) iF,ht.mono (fun j y=>W.get j (hF j y)) (fun _ h=>h) iF⟩
 obtain⟨⟨w0,w1,w2,w3⟩,w4⟩:=cZ q.a p.st {p with st:=p.st+1} [];obtain⟨r,c7⟩:∃r,r=I9 q.a p.st {p with st:=p.st+1} []:=eX;rw[<-c7]at w0 w1 w2 w3 w4 ⊢;simp only[List.length_nil]at w0 w1 w2 w3 w4;rw[j7 pz rfl _ sM,<-u,<-E];refine J13 a1 a2 e5.symm e9 c0 r0 q0 lr g3 X.symm c4 c5 @wrap_small ?_;refine j8 (F:=fun z=>Ret (u5 _ _ _ (u9 (u9 (inBlock 2 z) _) _)) _ _) (Dc K k hk ih H2 lo H.next F Rt f7 hF (fun k' el x f5 h=>e7 k' el x f5 (h.mono (fun j y=>(W.get j oM).symm) lR)) oM va ca q.a (h1.mono (fun j y=>W.get j oM) lR) h3 g9 D b2 q1 _ b3 p.st r q.a.length _ _
  ⟨0,{p with st:=p.st+1},[],nS,O,F,rfl,oM,rfl,rfl,rfl,rfl,rfl,rfl,rfl,e4,b2,b3,g0,fun j y=>⟨.inl y,by have:=hF j y;omega,B8 j⟩,u6.nil,i6.refl _ _,⟨by show 0<=p.st+1;omega,by show p.st+1+2*_<=_;simp;omega,by show p.ed.length+_<=_;simp;omega,by show p.ts.length+_<=_;simp;omega⟩,c7.symm⟩) ?_
 rintro o' e' H5 ⟨ho,k2,g6,g7,w,a7,G,g5,d5,d6,g1,a9,b5,b7⟩;have n5:=b7.next;obtain⟨d3,d4,h0,h4,U,e8,g4⟩:=D5 g1;have s0:a7[0]?=some (.int .i64 r.1.st):=by rw[U];rfl
 have l4:a7.length=5:=by rw[U];rfl
 obtain⟨S,a5⟩:=eY ([iV (r.1.st+1),iV r.1.sa,iV r.1.en,.slice d3 r.1.ed.length d4,.slice h0 r.1.ts.length h4]:LV);have c8:splice a7 0 [iV (r.1.st+1)]=S:=by rw[U,a5];rfl
 obtain⟨H6,J⟩:=eY (H5.put H.next (bC S 1));have n6:H6.next=H5.next:=by rw[J,t5]
 have d7:H6.get H.next=cE S 1:=by rw[J];exact j5 oM
 have d9:H6.get (H.next+2)=cE z7 1:=by rw[J,j6 oM];exact d6
 have c9:∀j,G j->j≠H.next:=fun j y=>by
  rcases(a9 j y).1 with q|q
  .have:=hF j q;omega
  .omega
 have g2:PrF H6 G Rt S {r.1 with st:=r.1.st+1}:=⟨_,_,a5,e8.mono (fun j y=>by rw[J,j6 (fun q=>c9 j y q.symm)]) (fun _ h=>h) iF,g4.mono (fun j y=>by rw[J,j6 (fun q=>c9 j y q.symm)]) (fun _ h=>h) iF⟩
 have e6:u6 H6 (H.next+3) 1 (w9 inE) w r.2:=b5.same fun b hb=>by have:=b5.lt hb;rw[J,j6 oM]
 refine J8 ho k2 d5 s0 l4 c8 J.symm @wrap_small ?_;refine j8 (F:=fun z=>Ret (u5 _ _ _ (u9 (u9 (inBlock 4 z) _) _)) _ _) (AX H6 H.next F Rt hF oM w r.2 e6 oM _ d9 p.st r.1.st _ r.2.length _ _
  ⟨0,{r.1 with st:=r.1.st+1},S,G,rfl,oM,k2,g6,g7,g5,rfl,rfl,d7,g2,fun j y=>⟨(a9 j y).1,by rw[n6];exact(a9 j y).2⟩,fun j _ _=>rfl,i6.refl _ _,by show r.1.ed.length+_<=_;omega,rfl⟩) ?_
 rintro o2 e2 H7 ⟨f8,m2,m4,m5,g8,d1,G7,e1,b1,c6,b0,b8⟩;have n7:=b8.next;have I:=jK (r:=(r.2.foldl (fun m x=>m.edge x r.1.st 0 0) {r.1 with st:=r.1.st+1},p.st,r.1.st)) c6;have a8:=I.bld p.st r.1.st;obtain⟨Ke,b4⟩:=eY (d1++se p.st r.1.st);simp only at I;rw[<-b4]at I a8;obtain⟨H8,a3⟩:=eY (H7.put (H.next+2) (bC Ke 1));have e3:H8.get (H.next+2)=cE Ke 1:=by rw[a3];exact j5 (u7 b1)
 have s8:i6 H.next H1 H8:=(((b6.trans b7).trans (show i6 H.next H5 H6 by rw[J];exact i6.put lR)).trans b8).trans (show i6 H.next H7 H8 by rw[a3];exact i6.put oM);have f6:=s8.low c3;refine J15 f8 m2 m4 m5 g8 e1 I.ld a8 b1 I.all I.len I.spl a3.symm e3 I.ld7 ?_;rw[b4];refine eG (r:=(_,p.st,r.1.st)) (c6.mono (fun j y=>?_) (fun j y=>?_) iF) (hS.trans s8) f6 (fun h=>h)
 .rw[a3];refine j6 ?_;rcases(b0 j y).1 with q|q
  .have:=hF j q;omega
  .omega
 .rcases(b0 j y).1 with q|q
  .exact .inl q
  .exact .inr ⟨oM,by rw[a3,t5];exact(b0 j y).2⟩
theorem Gn(K:Nat):∀k,k<=K+1->ml K k:=by
 intro k;induction k with
 |zero=>intro _ H lo F I cs y q p u J E;exact E.elim
 |succ k S=>
  intro hk H lo F I cs y q p u J E z O D h;by_cases U:q.op=4
  .exact Gq K k oM (S oM) q U H lo F I cs y p u J E z O D h
  .by_cases W:q.op=5
   .exact Gp K k oM (S oM) q W H lo F I cs y p u J E z O D h
   .by_cases X:q.op=6
    .exact CZ K k oM (S oM) q X H lo F I cs y p u J E z O D h
    .exact CY K k oM q U W X H lo F I cs y p u J E z O D h
def B9(q:Q):PrD:={(C6 q ⟨0,0,0,[],[]⟩).1 with sa:=(C6 q ⟨0,0,0,[],[]⟩).2.1,en:=(C6 q ⟨0,0,0,[],[]⟩).2.2}
theorem dR(q:Q):0<=(B9 q).st/\(B9 q).st<=2*nQ q:=by
 have:=F8 q ⟨0,0,0,[],[]⟩;unfold au at this;simp only[B9];simp only at this;omega
theorem PrF.sub{H:d8}{F F':Nat->Prop}{u:LV->Q->Prop}{cs:LV}{p:PrD}(h:PrF H F u cs p)(y:∀j,F j->F' j):PrF H F' u cs p:=h.mono (fun _ _=>rfl) y iF
theorem co{H:d8}{F:Nat->Prop}{u:LV->Q->Prop}{cs:LV}{p:PrD}(h:PrF H F u cs p):cs.length=5:=by obtain⟨y,z,D,E,rfl,_⟩:=D5 h;rfl
theorem gU{H:d8}{F:Nat->Prop}{u:LV->Q->Prop}{cs:LV}{p:PrD}(h:PrF H F u cs p):cs.all oC=true:=by obtain⟨y,z,D,E,rfl,_⟩:=D5 h;rfl
def CO(H:d8)(Rt:LV->Q->Prop)(p:PrD)(w:Value)(H1:d8):Prop:=∃cs',w= .agg cs'.toArray/\PrF H1 (fun j=>H.next<=j/\j<H1.next) Rt cs' p/\i6 H.next H H1
theorem tV{H H':d8}{y:LV->Q->Prop}{cs':LV}{p:PrD}(S:PrF H' (fun j=>H.next<=j/\j<H'.next) y cs' p) (J:i6 H.next H H') (O:H.next<=H'.low) {c:Bool} (u:c=true->cs'.all na0=true):
  Ret (some (br c (.agg cs'.toArray,none) (.agg cs'.toArray,some ⟨H'.bs,min H.low H'.low⟩))) H (CO H y p):=by
 obtain⟨E,I,rfl,z,D⟩:=S;refine dI (fun h=>?_) ⟨_,rfl,⟨E,I,rfl,z,D⟩,J.ret O⟩;have h:=u h;simp only[List.all_cons,Bool.and_eq_true]at h;exact⟨_,rfl,⟨E,I,rfl,dG z h.2.2.2.1,dG D h.2.2.2.2.1⟩,i6.refl _ _⟩
abbrev z5:LV:=[iV 0,iV 0,iV 0,nS,nS]
theorem kZ(K k:Nat)(hk:k<=K+1)(H:d8)(lo:Nat)(Rt:LV->Q->Prop)(cs:LV)(q:Q)(d0:lo<=H.next)(hr:QR H lo k false cs q)(b3:∀k' el x,k'<=K->QR H lo k' true el x->Rt el x) (b6:OkD false q) (c6:nQ q<=100000):
  Ret (CL prog t6 67 [.agg cs.toArray] H) H (CO H Rt (B9 q)):=by
 have b7:=hr;cases k with
 |zero=>exact hr.elim
 |succ k=>
 obtain⟨va,ca,wa,c7,a7,h1,h2,h3,h4⟩:=hr.path;have a0:cs.all oC=true:=by rw[a7];rfl
 have b9:ldC (some true) (some 3) 0 cs=some (.agg cs.toArray):=by rw[a7];rfl
 obtain⟨J,E⟩:=eY ((d8.push ⟨H.bs,H.next⟩ (bC cs 1)).push (bC z5 1));have n0:(d8.push ⟨H.bs,H.next⟩ (bC cs 1)).next=H.next+1:=by rw[i5];rfl
 have hS:i6 H.next H J:=by rw[E];exact(i6.first H _).trans (i6.push oM)
 have g1:J.get H.next=cE cs 1:=by rw[E,i7 oM];exact j9
 have g2:J.get (H.next+1)=cE z5 1:=by rw[E];exact y7 oM
 have a9:H.next<=J.low:=by rw[E,l9,l9];exact lR
 have n1:J.next=H.next+2:=by rw[E,i5,n0]
 have hz:PrF J (fun _=>False) Rt z5 ⟨0,0,0,[],[]⟩:=⟨nS,nS,rfl,.inl ⟨rfl,rfl⟩,.inl ⟨rfl,rfl⟩⟩
 obtain⟨c8,W,H4,b1,a2,a8,e4,n4,X,n3,a5,b0,D,c9⟩:=mf K (k+1) (Gn K (k+1) hk) lo (fun _=>False) Rt J cs z5 q ⟨0,0,0,[],[]⟩ oM (fun j hj=>hj.elim) (b7.mono (fun j hj=>hS.get j oM) lR) (fun k' el x b4 h=>b3 k' el x b4 (h.mono (fun j hj=>(hS.get j oM).symm) lR)) hz b6 ⟨Int.le_refl _,by show(0:Int)+2*_<=_;omega,by simp;omega,by simp;omega⟩;obtain⟨y,hy⟩:=eY (C6 q ⟨0,0,0,[],[]⟩);rw[B9,<-hy];rw[<-hy]at a2 e4 X b0 D;obtain⟨ea,ec,ta,tc,S,he,ht⟩:=D5 b0;obtain⟨Kd,a1⟩:=eY (b1++se y.2.1 y.2.2);rw[<-a1]at a2 e4 X D;obtain⟨Ke,U⟩:=eY (splice Kd 1 [iV y.2.1]);obtain⟨Kf,a4⟩:=eY (splice Ke 2 [iV y.2.2]);obtain⟨u,z⟩:=eY ([iV y.1.st,iV y.2.1,iV y.2.2,.slice ea y.1.ed.length ec,.slice ta y.1.ts.length tc]:LV);have b8:Ke.length=7:=by rw[U,E3];exact D.len
 have e6:Ke[6]?=some (.int .i64 y.2.2):=by rw[U,a1,S];rfl
 have c3:ldC (some true) (some 5) 0 Kf=some (.agg u.toArray):=by rw[a4,U,a1,S,z];rfl
 have a6:u.all oC=true:=by rw[z];rfl
 have l6:u.length=5:=by rw[z];rfl
 have c0:ldC (some true) (some 5) 0 u=some (.agg u.toArray):=by rw[z];rfl
 have c4:splice z5 0 u=u:=x9 _ _ (by rw[l6];rfl);obtain⟨H5,I⟩:=eY ((H4.put W.next (bC Ke 1)).put W.next (bC Kf 1));have b2:H5.get W.next=cE Kf 1:=by rw[I];exact j5 (by rw[t5];omega)
 have a3:H5.get (H.next+1)=cE z5 1:=by rw[I,j6 oM,j6 oM,a5.get _ oM];exact g2
 obtain⟨H6,O⟩:=eY (H5.put (H.next+1) (bC u 1));have n6:H6.next=H4.next:=by rw[O,t5,I,t5,t5]
 have g6:H6.get (H.next+1)=cE u 1:=by rw[O];exact j5 (u7 a3)
 have s6:i6 H.next J H6:=(a5.weaken oM).trans (show i6 H.next H4 H6 by rw[O,I];exact((i6.put oM).trans (i6.put oM)).trans (i6.put oM));have b5:=s6.low a9;have k6:∀j,R6 (fun _=>False) J W j->H6.get j=H4.get j:=fun j hj=>by
  have:J.next<=j/\j<W.next:=hj.elim (fun q=>q.elim) id;rw[O,j6 oM,I,j6 oM,j6 oM]
 have k7:∀j,R6 (fun _=>False) J W j->H.next<=j/\j<H6.next:=fun j hj=>by
  have:J.next<=j/\j<W.next:=hj.elim (fun q=>q.elim) id;omega
 rw[j7 QT rfl _ sM];refine J26 a0 E.symm g1 b9 a2 a8 D.all D.len D.spl e4.symm X D.c5 U.symm b8 e6 a4.symm I.symm b2 c3 a3 a6 l6 c4 O.symm g6 c0 ?_;exact tV (p:={y.1 with sa:=y.2.1,en:=y.2.2}) ⟨_,_,z,he.mono k6 k7 iF,ht.mono k6 k7 iF⟩ (hS.trans s6) b5 (fun h=>h)
structure StD where
 paths:List Q
 progs:List PrD
 base:List Int
 main:PrD
def StF(H:d8)(F:Nat->Prop)(Rp Rt:LV->Q->Prop)(cs:LV)(s:StD):Prop:=∃v1 v2 v3 ms,cs=[v1,v2,v3]++ms/\SlF H F 3 Rp v1 s.paths/\SlF H F 5 (PrF H F Rt) v2 s.progs/\SlF H F 1 (w9 inE) v3 s.base/\PrF H F Rt ms s.main
theorem StF.mono{H H':d8}{F F':Nat->Prop}{J O u y:LV->Q->Prop}{cs:LV}{s:StD}(h:StF H F J O cs s)(E:∀j,F j->H'.get j=H.get j) (z:∀j,F j->F' j) (I:∀cs a,J cs a->u cs a) (D:∀cs a,O cs a->y cs a):StF H' F' u y cs s:=by
 obtain⟨v1,v2,v3,ms,S,U,W,X,h4⟩:=h;exact⟨v1,v2,v3,ms,S,U.mono E z I,W.mono E z (fun _ _ h=>h.mono E z D),X.mono E z iF,h4.mono E z D⟩
theorem F1{H:d8}{F:Nat->Prop}{W U:LV->Q->Prop}{cs:LV}{s:StD}(h:StF H F W U cs s):∃pa J E I u y z D O S,cs=[.slice pa s.paths.length J,.slice E s.progs.length I,.slice u s.base.length y,iV s.main.st,iV s.main.sa,iV s.main.en,.slice z s.main.ed.length D,.slice O s.main.ts.length S]/\
  SlF H F 3 W (.slice pa s.paths.length J) s.paths/\SlF H F 5 (PrF H F U) (.slice E s.progs.length I) s.progs/\SlF H F 1 (w9 inE) (.slice u s.base.length y) s.base/\SlF H F 4 (w9 edE) (.slice z s.main.ed.length D) s.main.ed/\SlF H F 6 U (.slice O s.main.ts.length S) s.main.ts:=by
 obtain⟨v1,v2,v3,ms,rfl,X,h2,h3,h4⟩:=h;obtain⟨pa,J,rfl⟩:=X.slice;obtain⟨E,I,rfl⟩:=h2.slice;obtain⟨u,y,rfl⟩:=h3.slice;obtain⟨z,D,O,S,rfl,h5,h6⟩:=D5 h4;exact⟨pa,J,E,I,u,y,z,D,O,S,rfl,X,h2,h3,h5,h6⟩
theorem SlF.row{H:d8}{F:Nat->Prop}{sz:Nat}{α:Type}{R:LV->α->Prop}{y:Option Addr}{n z:Nat}{l:List α}(h:SlF H F sz R (.slice y n z) l){i:Nat}(u:i<l.length):
  ∃x b o cs own el,l[i]?=some x/\l.drop i=x::l.drop (i+1)/\y=some ⟨b,o,none⟩/\F b/\H.get b=some (.cells cs own sz)/\o+i*sz+sz<=cs.length/\ldC (some true) (some sz) (o+i*sz) cs=some (.agg el.toArray)/\(∀k,k<sz->cs[o+i*sz+k]?=el[k]?)/\R el x:=by
 obtain⟨x,D,O⟩:=Q1 (l:=l) (i:=i) u;rcases h with⟨_,h⟩|⟨b,o,c,U,h⟩
 .subst h;simp at u
 .rcases h with h|⟨cs,own,E,I,W,J⟩
  .subst h;simp at u
  .obtain⟨rfl,rfl,rfl⟩:y=some ⟨b,o,none⟩/\n=l.length/\z=c:=by simpa using U
   have:(i+1)*sz<=l.length*sz:=Nat.mul_le_mul_right _ u;rw[Nat.add_mul]at this;exact⟨x,b,o,cs,own,_,D,O,rfl,E,I,oM,cq oM rfl,fun k S=>Q3 S rfl,J i x D⟩
def A0(l:List PrD):Int:=l.foldl (fun n p=>n+p.st) 0
theorem xD(H0:d8)(F:Nat->Prop)(Rt:LV->Q->Prop)(E:Nat)(U:Option Addr)(W:Nat)(l:List PrD)(hv:SlF H0 F 5 (PrF H0 F Rt) (.slice U l.length W) l)(hn:l.length<=100000)(hb:∀p∈l,0<=p.st/\p.st<=1000000) (h:LV) (S:H0.get E=cE h 1) (r1:h[1]?=some (.slice U l.length W)) (r:Int):
  ∀D e H2,(∃(i:Nat)(n:Int),D=l.length-i/\i<=l.length/\0<=n/\n<=1000000*i/\e.get 1=pT E/\e.get 3=iV n/\e.get 4=iV i/\H2=H0/\(l.drop i).foldl (fun n p=>n+p.st) n=r)->
  w7 (LE prog t6 (.loop Nx) e H2) (fun o e H2=>H2=H0/\o= .exit 0/\e.get 3=iV r):=by
 refine i8 _ _ ?_;rintro D e H2 ⟨i,n,hk,hi,a3,a4,y,J,O,hH,u⟩;subst hH;rcases b:decide ((i:Int)<l.length)with _|_
 .have z:=dF b;have:l.drop i=[]:=dN oM;rw[this,List.foldl_nil]at u;refine J5 y O S r1 b ?_;exact i9 ⟨rfl,rfl,by rw[<-u];exact J⟩
 have z:=dT b;obtain⟨x,nb,o,cs,own,el,hx,hd,rfl,hF,hg,a2,X,hc,hR⟩:=hv.row (i:=i) oM;have nt:(i:Int).toNat=i:=tN i;have a1:=hb x (mG hx);obtain⟨ea,ec,ta,tc,rfl,_,_⟩:=D5 hR;have I:=hc 0 oM;rw[Nat.add_zero]at I;rw[hd,List.foldl_cons]at u;refine J10 y J O S r1 b hg nt I @wrap_small ?_;exact i4 (D-1) oM ⟨i+1,n+x.st,oM,oM,oM,oM,y,rfl,rfl,rfl,u⟩
theorem qH(H:d8)(F:Nat->Prop)(Rp E:LV->Q->Prop)(cs:LV)(s:StD)(W:∀j,F j->j<H.next) (hs:StF H F Rp E cs s) (hn:s.progs.length<=100000) (hb:∀p∈s.progs,0<=p.st/\p.st<=1000000):CL prog t6 43 [.agg cs.toArray] H=some (.int .i64 (A0 s.progs),none):=by
 obtain⟨pa,pc,I,J,ba,bc,ea,ec,ta,tc,y,h1,h2,U,h4,h5⟩:=F1 hs;have a0:cs.all oC=true:=by rw[y];rfl
 have r1:cs[1]?=some (.slice I s.progs.length J):=by rw[y];rfl
 obtain⟨D,u,-,hg,X⟩:=pushF H (bC cs 1);have a1:H.next<=D.low:=by rw[u,l9];exact lR
 have O:SlF D F 5 (PrF D F E) (.slice I s.progs.length J) s.progs:=h2.mono (fun j S=>X.get j (W j S)) (fun _ h=>h) (fun _ _ h=>h.mono (fun j S=>X.get j (W j S)) (fun _ h=>h) iF);rw[j7 Pp rfl _ sM];refine J2 a0 u.symm ?_;refine j8 (F:=fun z=>u5 _ _ _ (u9 (inBlock 0 z) _)=_) (xD D F E H.next I J s.progs O hn hb cs hg r1 (A0 s.progs) s.progs.length _ _ ⟨0,0,rfl,oM,oM,oM,rfl,rfl,rfl,rfl,rfl⟩) ?_;rintro o e' H' ⟨hH,ho,U⟩;exact J3 ho hH U trivial
def jl(l:List Q)(x:Q):Int:=ixG (fun y=>M6 y x) l 0
theorem mW(k:Nat)(H0:d8)(F:Nat->Prop)(lo I:Nat)(a2:lo<=H0.next)(pa:Option Addr)(pc:Nat)(l:List Q)(hv:SlF H0 F 3 (QR H0 lo k false) (.slice pa l.length pc) l)(hn:l.length<=100000)(E el:LV)(x:Q)(hx:QR H0 lo k false el x)(X:H0.get I=cE E 1)(r0:E[0]?=some (.slice pa l.length pc))(g1:H0.get (I+1)=cE el 1)(r:Int):
  ∀kk e H2,(∃i:Nat,kk=l.length-i/\i<=l.length/\e.get 2=pT I/\e.get 3=pT (I+1)/\e.get 5=iV i/\H2=H0/\ixG (fun y=>M6 y x) (l.drop i) i=r)->
  w7 (LE prog t6 (.loop NW) e H2) (fun o e H2=>H2=H0/\((o= .exit 0/\r= -1)\/(o= .ret/\e.get 4=iV r))):=by
 refine i8 _ _ ?_;rintro kk e H2 ⟨i,hk,hi,O,U,W,hH,z⟩;subst hH;rcases b:decide ((i:Int)<l.length)with _|_
 .have a1:=dF b;have:l.drop i=[]:=dN oM;rw[this,ixG]at z;refine J5 O W X r0 b ?_;exact i9 ⟨rfl,.inl ⟨rfl,z.symm⟩⟩
 have a1:=dT b;obtain⟨y,nb,o,cs,own,S,hy,hd,rfl,hF,hg,a3,u,hc,hR⟩:=hv.row (i:=i) oM;have nt:(i:Int).toNat=i:=tN i;have D:ldC (some true) (some 3) 0 el=some (.agg el.toArray):=by
  cases k with
  |zero=>exact hx.elim
  |succ k=>obtain⟨_,_,_,_,rfl,_⟩:=hx.path;rfl
 have h:=(FH k).1 H2 lo S el y x a2 hR hx;rw[hd,ixG]at z;rcases J:M6 y x with _|_
 .simp only[J,bF]at z;rw[J]at h;refine J13 O U W X r0 b hg nt u g1 D h @wrap_small ?_;exact i4 (kk-1) oM ⟨i+1,oM,oM,O,U,rfl,rfl,z⟩
 .simp only[J,if_true]at z;rw[J]at h;refine J12 O U W X r0 b hg nt u g1 D h ?_;exact z9 ⟨rfl,.inr ⟨rfl,by rw[<-z];rfl⟩⟩
theorem io(k:Nat)(H:d8)(F:Nat->Prop)(lo:Nat)(Rt:LV->Q->Prop)(cs el:LV)(s:StD)(x:Q)(a3:lo<=H.next)(hF:∀j,F j->j<H.next) (hs:StF H F (QR H lo k false) Rt cs s) (O:QR H lo k false el x) (hn:s.paths.length<=100000):
  CL prog t6 69 [.agg cs.toArray,.agg el.toArray] H=some (.int .i64 (jl s.paths x),none):=by
 obtain⟨pa,S,ga,gc,ba,bc,ea,ec,ta,tc,D,h1,h2,h3,U,h5⟩:=F1 hs;have a0:cs.all oC=true:=by rw[D];rfl
 have r1:cs[0]?=some (.slice pa s.paths.length S):=by rw[D];rfl
 have a1:el.all oC=true:=by
  cases k with
  |zero=>exact O.elim
  |succ k=>obtain⟨_,_,_,_,rfl,_⟩:=O.path;rfl
 obtain⟨y,u⟩:=eY ((d8.push ⟨H.bs,H.next⟩ (bC cs 1)).push (bC el 1));have n0:(d8.push ⟨H.bs,H.next⟩ (bC cs 1)).next=H.next+1:=by rw[i5];rfl
 have I:i6 H.next H y:=by rw[u];exact(i6.first H _).trans (i6.push oM)
 have g1:y.get H.next=cE cs 1:=by rw[u,i7 oM];exact j9
 have g2:y.get (H.next+1)=cE el 1:=by rw[u];exact y7 oM
 have a2:H.next<=y.low:=by rw[u,l9,l9];exact lR
 have a4:=I.next;have q1:∀cs a,QR H lo k false cs a->QR y lo k false cs a:=fun _ _ h=>h.mono (fun j X=>I.get j oM) lR;have E:SlF y F 3 (QR y lo k false) (.slice pa s.paths.length S) s.paths:=h1.mono (fun j X=>I.get j (hF j X)) (fun _ h=>h) q1;rw[j7 Py rfl _ sM];refine J3 a0 a1 u.symm ?_;refine j8 (F:=fun z=>u5 _ _ _ (u9 (inBlock 0 z) _)=_) (mW k y F lo H.next oM pa S s.paths E hn cs el x (q1 _ _ O) g1 r1 g2 (jl s.paths x) s.paths.length _ _ ⟨0,rfl,oM,rfl,rfl,rfl,rfl,rfl⟩) ?_;rintro o e' H' ⟨W,⟨J,hr⟩|⟨J,U⟩⟩
 .exact J3 J W hr trivial
 .exact J3 J W U trivial
def E8(s:StD)(x:Q):StD:=if s.paths.any (fun y=>M6 y x) then s else⟨s.paths++[x],s.progs++[B9 x],s.base++[A0 s.progs],s.main⟩
def C0(q:Q):StD:=(inQ false q).foldl E8 ⟨[],[],[],B9 q⟩
theorem U6(l:List PrD)(p:PrD):A0 (l++[p])=A0 l+p.st:=by simp [A0]
theorem yJ(K:Nat)(H:d8)(lo b0 E:Nat)(h7:lo<=b0)(m0:b0=H.next)(r1:b0+2<=E)(Rt:LV->Q->Prop)(k9:∀k' el x,k'<=K->QR H lo k' true el x->Rt el x) (lv:Value) (l:List Q) (hl:l.length<=100000) (m5:∀x∈l,OkD false x/\nQ x<=100000) (ms:LV) (z:Blk) (H1:d8) (e6:i6 b0 H H1) (hz:H1.get (b0+1)=some z) (d3:StD):
  ∀kk e H2,(∃(i:Nat)(s:StD)(w1 w2 w3:Value)(G:Nat->Prop),kk=l.length-i/\i<=l.length/\s.progs.length<=i/\s.paths.length=s.progs.length/\s.base.length=s.progs.length/\0<=A0 s.progs/\A0 s.progs<=200000*i/\
    e.get 2=pT (b0+1)/\e.get 3=pT E/\e.get 4=lv/\e.get 5=iV (A0 s.progs)/\e.get 6=iV i/\
    H2.get E=cE (w1::w2::w3::ms) 1/\PrF H2 G Rt ms s.main/\SlF H2 G 3 (QR H lo K false) lv l/\u6 H2 (E+1) 3 (QR H lo K false) w1 s.paths/\u6 H2 (E+1) 5 (PrF H2 G Rt) w2 s.progs/\u6 H2 (E+1) 1 (w9 inE) w3 s.base/\
    (∀j,G j->b0+2<=j/\j<H2.next/\j≠E/\¬l7 w1 j/\¬l7 w2 j/\¬l7 w3 j)/\(∀j,l7 w1 j->¬l7 w2 j/\¬l7 w3 j)/\(∀j,l7 w2 j->¬l7 w3 j)/\i6 (b0+2) H1 H2/\(l.drop i).foldl E8 s=d3)->
  w7 (LE prog t6 (.loop Ns) e H2) (fun o e H2=>o= .exit 0/\e.get 2=pT (b0+1)/\e.get 3=pT E/\∃(w1 w2 w3:Value)(G:Nat->Prop),H2.get E=cE (w1::w2::w3::ms) 1/\PrF H2 G Rt ms d3.main/\u6 H2 (E+1) 3 (QR H lo K false) w1 d3.paths/\u6 H2 (E+1) 5 (PrF H2 G Rt) w2 d3.progs/\u6 H2 (E+1) 1 (w9 inE) w3 d3.base/\(∀j,G j->b0+2<=j/\j<H2.next/\j≠E)/\i6 (b0+2) H1 H2):=by
 subst m0;refine i8 _ _ ?_;rintro kk e H2 ⟨i,s,w1,w2,w3,G,p8,hi,r2,i1,h0,m2,p7,f2,f3,f4,f5,f6,g3,c5,d7,U,O,I,hG,d1,d2,hS,fu⟩;have q9:=hS.next;have p6:=e6.next;have r3:=u7 hz;have i0:=u7 g3;obtain⟨la,lc,h8⟩:=d7.slice;subst h8;rcases b:decide ((i:Int)<l.length)with _|_
 .have l6:=dF b;have:l.drop i=[]:=dN oM;rw[this,List.foldl_nil]at fu;refine J3 f4 f6 b ?_;exact i9 ⟨rfl,f2,f3,w1,w2,w3,G,g3,by rw[<-fu];exact c5,by rw[<-fu];exact U,by rw[<-fu];exact O,by rw[<-fu];exact I,fun j D=>⟨(hG j D).1,(hG j D).2.1,(hG j D).2.2.1⟩,hS⟩
 have l6:=dT b;obtain⟨x,nb,o,o8,own,el,hx,hd,rfl,g6,e8,p9,e4,hc,hR⟩:=d7.row (i:=i) oM;have nt:(i:Int).toNat=i:=tN i;obtain⟨h9,m4⟩:=m5 x (mG hx);have o5:=dR x;rw[hd,List.foldl_cons]at fu;have d4:∀cs a,QR H lo K false cs a->QR H2 lo K false cs a:=fun _ _ h=>h.mono (fun j D=>by rw[hS.get j oM,e6.get j oM]) lR;obtain⟨pa,pc,e1⟩:=U.slice;obtain⟨ga,gc,e2⟩:=O.slice;obtain⟨ba,bc,e3⟩:=I.slice;obtain⟨ea,ec,ta,tc,k1,q7,q8⟩:=D5 c5;have m6:StF H2 (fun j=>G j\/l7 w1 j\/l7 w2 j\/l7 w3 j) (QR H2 lo K false) Rt (w1::w2::w3::ms) s:=⟨w1,w2,w3,ms,rfl,(U.frz fun b S=> .inr (.inl S)).mono (fun _ _=>rfl) (fun _ h=>h) d4,(O.frz fun b S=> .inr (.inr (.inl S))).mono (fun _ _=>rfl) (fun _ h=>h) (fun _ _ h=>h.sub fun j D=> .inl D),I.frz fun b S=> .inr (.inr (.inr S)),c5.sub fun j D=> .inl D⟩
 have i2:∀j,(G j\/l7 w1 j\/l7 w2 j\/l7 w3 j)->j<H2.next:=by
  rintro j (q|q|q|q)
  .exact(hG j q).2.1
  .exact(U.lt q).2
  .exact(O.lt q).2
  .exact(I.lt q).2
 have a9:=io K H2 _ lo Rt (w1::w2::w3::ms) el s x oM i2 m6 (d4 _ _ hR) oM;have b1:ldC (some true) (some 8) 0 (w1::w2::w3::ms)=some (.agg (w1::w2::w3::ms).toArray):=by rw[e1,e2,e3,k1];rfl
 obtain⟨R8,c9⟩:=eY (w1::w2::w3::ms);rw[<-c9]at g3 a9 b1;have e9:=co c5;have l8:R8.length=8:=by rw[c9];simp [e9]
 have n1:R8[0]?=some w1:=by rw[c9];rfl
 have b9:decide (0<=jl s.paths x)=s.paths.any (fun y=>M6 y x):=gN _ _;rcases b2:s.paths.any (fun y=>M6 y x)with _|_
 .rw[b2]at b9;have b3:E8 s x=⟨s.paths++[x],s.progs++[B9 x],s.base++[A0 s.progs],s.main⟩:=by rw[E8,b2];rfl
  rw[b3]at fu;obtain⟨v3,o9,H3,m1,h3,J,rfl,X,d6⟩:=kZ K K oM H2 lo Rt el x oM (d4 _ _ hR) (fun k' el x m3 h=>k9 k' el x m3 (h.mono (fun j D=>by rw[hS.get j oM,e6.get j oM]) lR)) h9 m4;have n3:=d6.next;have a3:=gU X;have l3:=co X;obtain⟨H4,k8,n4,k2,d9⟩:=pushP H3 (bC z5 1) (bC J 1);have o4:splice z5 0 J=J:=x9 _ _ (by rw[l3];rfl);have k4:∀j,j<H2.next->H4.get j=H2.get j:=fun j D=>by rw[d9.get j oM,d6.get j D]
  have g0:H4.get E=cE R8 1:=(k4 _ i0).trans g3;have g1:=(k4 nb (hG nb g6).2.1).trans e8;have g7:u6 H4 (E+1) 3 (QR H lo K false) w1 s.paths:=U.same fun b S=>k4 b (U.lt S).2;have i3:el.all oC=true:=by
   cases K with
   |zero=>exact hR.elim
   |succ k=>obtain⟨_,_,_,_,rfl,_⟩:=hR.path;rfl
  have j1:∀Hx:d8,bsA prog (some 25) Hx 1 [(0,.agg el.toArray)]=some (sL Hx.next 1 1,Hx.push (bC el 3)):=fun Hx=>by
   cases K with
   |zero=>exact hR.elim
   |succ k=>obtain⟨_,_,_,_,rfl,_⟩:=hR.path;simp only[C7,aq,C8];rfl
  obtain⟨u1,p0,H5,l1,h4,b6,a1⟩:=g7.push1F (P:=prog) (t:=22) (cs:=el) (a:=x) (by exact lP.2.2.2.2.2.2) aq.1 aq.2.1 aq.2.2.1 oM oM hR.len hR oM oM;have n5:=a1.next;have f0:∀j,j<=E->¬l7 w1 j/\¬l7 w2 j/\¬l7 w3 j:=fun j D=>⟨fun q=>by have:=U.lt q;omega,fun q=>by have:=O.lt q;omega,fun q=>by have:=I.lt q;omega⟩
  have k3:H5.get E=cE R8 1:=(a1.but E oM (f0 E lR).1).trans g0;have k7:(H4.push (bC el 3)).get nb=_:=(i7 (oN (hG nb g6))).trans g1;obtain⟨a6,b7⟩:=eY (u1::w2::w3::ms);obtain⟨ua,uc,f1⟩:=b6.slice;have m8:Value.oneCell' u1=true:=by rw[f1];rfl
  have j3:u1.cells.toList=[u1]:=by rw[f1];rfl
  have o1:splice R8 0 [u1]=a6:=by rw[c9,b7];rfl
  have la:a6.length=8:=by rw[b7];simp [e9]
  have n2:a6[1]?=some w2:=by rw[b7];rfl
  obtain⟨H6,c3⟩:=eY (H5.put E (bC a6 1));have n6:H6.next=H5.next:=by rw[c3,t5]
  have g2:H6.get E=cE a6 1:=by rw[c3];exact j5 oM
  have c7:∀j,j<H4.next->¬l7 w1 j->j≠E->H6.get j=H4.get j:=fun j D h1 h2=>by rw[c3,j6 (fun q=>h2 q.symm)];exact a1.but j D h1
  have g4:H6.get H3.next=cE J 1:=(c7 _ oM (fun q=>by have:=U.lt q;omega) oM).trans k2;have m7:ldC (some true) (some 5) 0 J=some (.agg J.toArray):=by obtain⟨_,_,_,_,rfl,_⟩:=D5 X;rfl
  obtain⟨G2,c0⟩:=eY (fun j=>G j\/(H2.next<=j/\j<H3.next):Nat->Prop);have b5:∀j,G2 j->H6.get j=H3.get j/\j≠E/\j<H3.next/\¬l7 w1 j/\¬l7 w2 j/\¬l7 w3 j:=fun j D=>by
   rw[c0]at D;rcases D with D|D
   .have:=hG j D;exact⟨by rw[c7 j oM this.2.2.2.1 this.2.2.1,d9.get j oM],this.2.2.1,oM,this.2.2.2⟩
   .have e:¬l7 w1 j/\¬l7 w2 j/\¬l7 w3 j:=⟨fun q=>by have:=U.lt q;omega,fun q=>by have:=O.lt q;omega,fun q=>by have:=I.lt q;omega⟩
    exact⟨by rw[c7 j oM e.1 oM,d9.get j oM],oM,oM,e⟩
  have e7:PrF H6 G2 Rt J (B9 x):=X.mono (fun j D=>(b5 j (by rw[c0];exact .inr D)).1) (fun j D=>by rw[c0];exact .inr D) iF;have d0:∀j,G j->H6.get j=H2.get j:=fun j D=>by rw[(b5 j (by rw[c0];exact .inl D)).1,d6.get j (hG j D).2.1]
  have a5:∀j,G j->G2 j:=fun j D=>by rw[c0];exact .inl D
  have g8:u6 H6 (E+1) 5 (PrF H6 G2 Rt) w2 s.progs:=(O.same (H':=H6) fun b S=>by have:=O.lt S;rw[c7 b oM (fun q=>(d1 b q).1 S) oM,k4 b this.2]).imp fun cs p h=>h.mono d0 a5 iF;obtain⟨u2,p4,H7,l4,h5,a4,a2⟩:=g8.push1F (P:=prog) (t:=28) (cs:=J) (a:=B9 x) (by exact MD.2.2.2.2.2.2) pL.1 pL.2.1 pL.2.2.1 oM oM l3 e7 oM oM;have n7:=a2.next;have j0:∀Hx:d8,bsA prog (some 32) Hx 1 [(0,.agg J.toArray)]=some (sL Hx.next 1 1,Hx.push (bC J 5)):=fun Hx=>by
   obtain⟨_,_,_,_,rfl,_⟩:=D5 X;simp only[C7,pL,C8];rfl
  have k5:H7.get E=cE a6 1:=(a2.but E oM (f0 E lR).2.1).trans g2;obtain⟨a7,b8⟩:=eY (u1::u2::w3::ms);obtain⟨ub,r6,f7⟩:=a4.slice;have m9:Value.oneCell' u2=true:=by rw[f7];rfl
  have j4:u2.cells.toList=[u2]:=by rw[f7];rfl
  have o2:splice a6 1 [u2]=a7:=by rw[b7,b8];rfl
  have lb:a7.length=8:=by rw[b8];simp [e9]
  have o0:a7[2]?=some w3:=by rw[b8];rfl
  obtain⟨H8,c4⟩:=eY (H7.put E (bC a7 1));have n8:H8.next=H7.next:=by rw[c4,t5]
  have g5:H8.get E=cE a7 1:=by rw[c4];exact j5 oM
  have d5:∀j,j<H6.next->¬l7 w2 j->j≠E->H8.get j=H6.get j:=fun j D h1 h2=>by rw[c4,j6 (fun q=>h2 q.symm)];exact a2.but j D h1
  have g9:u6 H8 (E+1) 1 (w9 inE) w3 s.base:=I.same (H':=H8) fun b S=>by
   have:=I.lt S;rw[d5 b oM (fun q=>d2 b q S) oM,c7 b oM (fun q=>(d1 b q).2 S) oM,k4 b this.2]
  obtain⟨u3,p5,H9,l5,h6,c8,a8⟩:=g9.push1F (P:=prog) (t:=29) (cs:=inE (A0 s.progs)) (a:=A0 s.progs) (by exact CE.2.2.2.2.2.2) ty3.1 ty3.2.1 ty3.2.2.1 oM oM rfl rfl oM oM;have n9:=a8.next;have k6:H9.get E=cE a7 1:=(a8.but E oM (f0 E lR).2.2).trans g5;obtain⟨r5,o7,f8⟩:=c8.slice;have n0:Value.oneCell' u3=true:=by rw[f8];rfl
  have k0:u3.cells.toList=[u3]:=by rw[f8];rfl
  have o3:splice a7 2 [u3]=u1::u2::u3::ms:=by rw[b8];rfl
  obtain⟨c6,W⟩:=eY (H9.put E (bC (u1::u2::u3::ms) 1));have r4:c6.next=H9.next:=by rw[W,t5]
  have b4:∀j,j<H8.next->¬l7 w3 j->j≠E->c6.get j=H8.get j:=fun j D h1 h2=>by rw[W,j6 (fun q=>h2 q.symm)];exact a8.but j D h1
  have f9:c6.get H3.next=cE J 1:=by
   rw[b4 _ oM (fun q=>by have:=I.lt q;omega) oM,d5 _ oM (fun q=>by have:=O.lt q;omega) oM];exact g4
  have j2:J[0]?=some (.int .i64 (B9 x).st):=by obtain⟨_,_,_,_,rfl,_⟩:=D5 X;rfl
  refine J30 f3 f4 f5 (aI f6 b) (aI g3 b1) (aI e8 nt) (aI e4 a9) (aI b9 m1) (aI h3 a3) (aI l3 o4) (aI k8.symm g0) (aI n1 g1) (aI k7 j1) (aI l1 h4) (aI k3 l8) (aI m8 j3) (aI o1 c3.symm) (aI g2 n2) (aI g4 m7) (aI j0 l4) (aI h5 k5) (aI la m9) (aI j4 o2) (aI c4.symm g5) (aI o0 l5) (aI h6 k6) (aI lb n0) (aI k0 o3) (aI W.symm f9) (aI j2 @wrap_small) ?_;have e5:∀j,G2 j->c6.get j=H6.get j:=fun j D=>by
   obtain⟨q1,q2,q3,q4,q5,q6⟩:=b5 j D;rw[b4 j oM q6 q2,d5 j oM q5 q2]
  have o6:∀{w u:Value}{Ha Hb:d8}{lo:Nat},ak lo w Ha u Hb->∀b,l7 u b->l7 w b\/Ha.next<=b:=fun h=>h.new;refine i4 (kk-1) oM ⟨i+1,⟨s.paths++[x],s.progs++[B9 x],s.base++[A0 s.progs],s.main⟩,u1,u2,u3,G2,oM,oM,by simp;omega,by simp [i1],by simp [h0],by show 0<=A0 (s.progs++[B9 x]);rw[U6];omega,by show A0 (s.progs++[B9 x])<=_;rw[U6];omega,f2,f3,f4,by show Env.get _ 5=iV (A0 (s.progs++[B9 x]));rw[U6];rfl,rfl,by rw[W];exact j5 oM,?_,?_,?_,?_,?_,?_,?_,?_,?_,fu⟩
  .exact c5.mono (fun j D=>by rw[e5 j (a5 j D),d0 j D]) a5 iF
  .exact d7.mono (fun j D=>by rw[e5 j (a5 j D),d0 j D]) a5 iF
  .refine b6.same fun b S=>?_;have h1:=b6.lt S;have h2:¬l7 w2 b/\¬l7 w3 b:=by
    rcases a1.new b S with q|q
    .exact d1 b q
    .exact⟨fun q=>by have:=O.lt q;omega,fun q=>by have:=I.lt q;omega⟩
   rw[b4 b oM h2.2 oM,d5 b oM h2.1 oM,c3,j6 oM]
  .refine(a4.same (H':=c6) fun b S=>?_).imp fun cs p h=>h.mono e5 (fun _ h=>h) iF;have h1:=a4.lt S;have h2:¬l7 w3 b:=by
    rcases a2.new b S with q|q
    .exact d2 b q
    .exact fun q=>oN (I.lt q)
   rw[b4 b oM h2 oM,c4,j6 oM]
  .refine c8.same fun b S=>?_;have h1:=c8.lt S;rw[W,j6 oM]
  .intro j D;obtain⟨q1,q2,q3,q4,q5,q6⟩:=b5 j D;have h7:H.next+2<=j:=by
    rw[c0]at D;rcases D with D|D
    .exact(hG j D).1
    .omega
   refine⟨h7,oM,q2,fun q=>?_,fun q=>?_,fun q=>?_⟩
   .rcases a1.new j q with q|q
    .exact q4 q
    .omega
   .rcases a2.new j q with q|q
    .exact q5 q
    .omega
   .rcases a8.new j q with q|q
    .exact q6 q
    .omega
  .intro j D;have h1:=b6.lt D;refine⟨fun q=>?_,fun q=>?_⟩
   .have h2:=a4.lt q;rcases a2.new j q with q|q
    .have:=O.lt q;rcases a1.new j D with r|r
     .exact(d1 j r).1 q
     .omega
    .omega
   .rcases a8.new j q with q|q
    .have:=I.lt q;rcases a1.new j D with r|r
     .exact(d1 j r).2 q
     .omega
    .omega
  .intro j D q;have h1:=a4.lt D;rcases a8.new j q with q|q
   .have:=I.lt q;rcases a2.new j D with r|r
    .exact d2 j r q
    .omega
   .omega
  .refine((((((hS.trans (d6.weaken oM)).trans (d9.weaken oM)).trans (a1.stay.weaken oM)).trans ?_).trans (a2.stay.weaken oM)).trans ?_).trans ((a8.stay.weaken oM).trans ?_)
   .rw[c3];exact i6.put oM
   .rw[c4];exact i6.put oM
   .rw[W];exact i6.put oM
 .rw[b2]at b9;have b3:E8 s x=s:=by rw[E8,b2];rfl
  rw[b3]at fu;refine J12 f3 f4 f6 b g3 b1 e8 nt e4 a9 b9 @wrap_small ?_;exact i4 (kk-1) oM ⟨i+1,s,w1,w2,w3,G,oM,oM,oM,i1,h0,m2,oM,f2,f3,f4,f5,rfl,by rw[<-c9];exact g3,c5,d7,U,O,I,hG,d1,d2,hS,fu⟩
theorem jx:∀(l:List Q)(F:Q->List Q),(∀x∈l,(F x).length+1<=nQ x)->(l.flatMap F).length+l.length<=nL l
 |[],F,_=>by simp [nL]
 |x::l,F,h=>by
  have z:=h x sM;have D:=jx l F fun y u=>h y (by simp [u]);rw[nL,List.flatMap_cons,List.length_append,List.length_cons];omega
theorem kq:∀(l:List Q)(x:Q),x∈l->nQ x<=nL l
 |y::l,x,h=>by
  rw[nL];rcases List.mem_cons.1 h with rfl|h
  .omega
  .have:=kq l x h;omega
theorem bS:∀(n:Nat)(f:Bool)(q:Q),nQ q<=n->OkD f q->(inQ f q).length+1<=nQ q/\∀x∈inQ f q,OkD false x/\nQ x<=nQ q:=by
 intro n;induction n with
 |zero=>intro f q h;have:=fq q;omega
 |succ n O=>
  intro f q h X;have hq:=fq q;obtain⟨I,D,_⟩:=X.parts;have ia:∀g,(∀x∈q.a,OkD g x)->(inL g q.a).length+q.a.length<=nL q.a/\∀x∈inL g q.a,OkD false x/\nQ x<=nL q.a:=by
   intro g E;have e:∀x∈q.a,nQ x<=n:=fun x u=>oN (kq _ _ u);rw[eU];refine⟨jx _ _ fun x u=>(O g x (e x u) (E x u)).1,fun x u=>?_⟩;obtain⟨y,z,u⟩:=List.mem_flatMap.1 u;have:=(O g y (e y z) (E y z)).2 x u;have W:=kq _ _ z;exact⟨this.1,oM⟩
  have U:∀g,(∀x∈q.b,OkD g x)->(inL g q.b).length+q.b.length<=nL q.b/\∀x∈inL g q.b,OkD false x/\nQ x<=nL q.b:=by
   intro g E;have e:∀x∈q.b,nQ x<=n:=fun x u=>oN (kq _ _ u);rw[eU];refine⟨jx _ _ fun x u=>(O g x (e x u) (E x u)).1,fun x u=>?_⟩;obtain⟨y,z,u⟩:=List.mem_flatMap.1 u;have:=(O g y (e y z) (E y z)).2 x u;have W:=kq _ _ z;exact⟨this.1,oM⟩
  cases f
  .rw[nz];have J:=ia false I;have S:=U true D;refine⟨by rw[List.length_append];omega,fun x u=>?_⟩;rcases List.mem_append.1 u with u|u
   .have:=J.2 x u;exact⟨this.1,oM⟩
   .have:=S.2 x u;exact⟨this.1,oM⟩
  .rw[iB];have J:=ia true I;have S:=U false D;split
   .refine⟨by simp only[List.length_append];omega,fun x u=>?_⟩;rcases List.mem_append.1 u with u|u
    .have:=J.2 x u;exact⟨this.1,oM⟩
    .rcases List.mem_append.1 u with u|u
     .have:=S.2 x u;exact⟨this.1,oM⟩
     .have:=kq _ _ u;exact⟨D x u,oM⟩
   .rw[List.append_nil];refine⟨oM,fun x u=>?_⟩;have:=J.2 x u;exact⟨this.1,oM⟩
def vZ(H:d8)(Rp Rt:LV->Q->Prop)(s:StD)(w:Value)(H1:d8):Prop:=∃cs',w= .agg cs'.toArray/\StF H1 (fun j=>H.next<=j/\j<H1.next) Rp Rt cs' s/\i6 H.next H H1
theorem qQ{H H':d8}{I J:LV->Q->Prop}{cs':LV}{s:StD}(hp:StF H' (fun j=>H.next<=j/\j<H'.next) I J cs' s) (hS:i6 H.next H H') (hl:H.next<=H'.low) {c:Bool} (D:c=true->cs'.all na0=true):
  Ret (some (br c (.agg cs'.toArray,none) (.agg cs'.toArray,some ⟨H'.bs,min H.low H'.low⟩))) H (vZ H I J s):=by
 obtain⟨X,E,v3,ms,rfl,O,y,S,ve,vt,rfl,U,W⟩:=hp;refine dI (fun u=>?_) ⟨_,rfl,⟨X,E,v3,_,rfl,O,y,S,ve,vt,rfl,U,W⟩,hS.ret hl⟩;have u:=D u;simp only[List.cons_append,List.nil_append,List.all_cons,Bool.and_eq_true]at u;have n2:s.progs=[]:=by
  rcases y with⟨_,h⟩|⟨b,o,c,z,_⟩
  .exact h
  .rw[z]at u;simp [na0]at u
 have e2:E=nS:=by
  rcases y with⟨h,_⟩|⟨b,o,c,z,_⟩
  .exact h
  .rw[z]at u;simp [na0]at u
 exact⟨_,rfl,⟨X,E,v3,_,rfl,dG O u.1,.inl ⟨e2,n2⟩,dG S u.2.2.1,ve,vt,rfl,dG U u.2.2.2.2.2.2.1,dG W u.2.2.2.2.2.2.2.1⟩,i6.refl _ _⟩
abbrev z8:LV:=[nS,nS,nS,iV 0,iV 0,iV 0,nS,nS]
theorem Cm(K:Nat)(H:d8)(lo:Nat)(Rt:LV->Q->Prop)(cs:LV)(q:Q)(d6:lo<=H.next)(hr:QR H lo K false cs q)(b5:∀k' el x,k'<=K->QR H lo k' true el x->Rt el x) (b1:OkD false q) (f0:nQ q<=1000):
  Ret (CL prog t6 36 [.agg cs.toArray] H) H (vZ H (QR H lo K false) Rt (C0 q)):=by
 have a0:cs.all oC=true:=by
  cases K with
  |zero=>exact hr.elim
  |succ k=>obtain⟨_,_,_,_,rfl,_⟩:=hr.path;rfl
 have e4:ldC (some true) (some 3) 0 cs=some (.agg cs.toArray):=by
  cases K with
  |zero=>exact hr.elim
  |succ k=>obtain⟨_,_,_,_,rfl,_⟩:=hr.path;rfl
 obtain⟨U,J⟩:=eY ((d8.push ⟨H.bs,H.next⟩ (bC cs 1)).push (bC z8 1));have n0:(d8.push ⟨H.bs,H.next⟩ (bC cs 1)).next=H.next+1:=by rw[i5];rfl
 have hS:i6 H.next H U:=by rw[J];exact(i6.first H _).trans (i6.push oM)
 have g1:U.get H.next=cE cs 1:=by rw[J,i7 oM];exact j9
 have g2:U.get (H.next+1)=cE z8 1:=by rw[J];exact y7 oM
 have b8:H.next<=U.low:=by rw[J,l9,l9];exact lR
 have n1:U.next=H.next+2:=by rw[J,i5,n0]
 obtain⟨v3,f4,H3,d1,b6,ms,rfl,a8,a4⟩:=kZ K K oM U lo Rt cs q oM (hr.mono (fun j y=>hS.get j oM) lR) (fun k' el x d3 h=>b5 k' el x d3 (h.mono (fun j y=>(hS.get j oM).symm) lR)) b1 oM;have n3:=a4.next;have a3:=gU a8;have l3:=co a8;obtain⟨ea,ec,ta,tc,c0,he,ht⟩:=D5 a8;obtain⟨E,I⟩:=eY (nS::nS::nS::ms:LV);have e6:splice z8 3 ms=E:=by rw[I,c0];rfl
 have a9:E.length=8:=by rw[I];simp [l3]
 have b2:E.all oC=true:=by rw[I];simp only[List.all_cons,a3];rfl
 obtain⟨H4,d0,n4,c5,s4⟩:=pushP H3 (bC z8 1) (bC E 1);have c6:H4.get H.next=cE cs 1:=by rw[s4.get _ oM,a4.get _ oM];exact g1
 have e8:splice z8 0 E=E:=x9 _ _ (by rw[a9];rfl);have k4:∀j,j<H.next->H4.get j=H.get j:=fun j y=>by rw[s4.get j oM,a4.get j oM,hS.get j y]
 obtain⟨f6,b9⟩:=bS _ false q lR b1;obtain⟨v5,f5,H5,d2,b7,b4,a5⟩:=(LA K).1 H4 lo cs q oM (hr.mono (fun j y=>k4 j oM) lR) oM b1;have n5:=a5.next;rw[j7 Pl rfl _ sM];refine J16 a0 J.symm g1 e4 d1 b6 l3 a3 e6 a9 b2 e8 d0.symm c6 d2 b7 ?_;have c3:i6 U.next U H5:=(a4.trans (s4.weaken oM)).trans (a5.weaken oM);have f1:H5.get (H.next+1)=cE z8 1:=(c3.get _ oM).trans g2;have c7:H5.get H3.next=cE E 1:=(a5.get _ oM).trans c5;have e9:∀cs a,QR H4 lo K false cs a->QR H lo K false cs a:=fun _ _ h=>h.mono (fun j y=>(k4 j oM).symm) lR;obtain⟨G,hG⟩:=eY (fun j=>(U.next<=j/\j<H3.next)\/(H4.next<=j/\j<H5.next):Nat->Prop);have d4:SlF H5 G 3 (QR H lo K false) v5 (inQ false q):=(b4.frz fun b S=>by rw[hG];exact .inr (b4.lt S)).mono (fun _ _=>rfl) (fun _ h=>h) e9;have d7:PrF H5 G Rt ms (B9 q):=a8.mono (fun j y=>by rw[a5.get j oM,s4.get j oM]) (fun j y=>by rw[hG];exact .inl y) iF;have b0:=yJ K H lo H.next H3.next d6 rfl oM Rt b5 v5 (inQ false q) oM (fun x hx=>by have:=b9 x hx;exact⟨this.1,oM⟩) ms (bC z8 1) U hS g2 (C0 q) (inQ false q).length;refine j8 (F:=fun z=>Ret (u5 _ _ _ (u9 (inBlock 0 z) _)) _ _) (b0 _ _ ⟨0,⟨[],[],[],B9 q⟩,nS,nS,nS,G,rfl,oM,by simp,rfl,rfl,by simp [A0],by simp [A0],rfl,rfl,rfl,rfl,rfl,by rw[<-I];exact c7,d7,d4,u6.nil,u6.nil,u6.nil,fun j y=>?_,fun j y=>(B8 j y).elim,fun j y=>(B8 j y).elim,c3.weaken oM,rfl⟩) ?_
 .rw[hG]at y;refine⟨oM,oM,oM,B8 j,B8 j,B8 j⟩
 rintro o e' H6 ⟨ho,f2,f3,w1,w2,w3,G',b3,d9,X,a1,a2,W,a7⟩;have n6:=a7.next;have c8:H6.get (H.next+1)=cE z8 1:=(a7.get _ oM).trans g2;obtain⟨ra,rc,e1⟩:=X.slice;obtain⟨rb,rd,e2⟩:=a1.slice;obtain⟨re,rf,e3⟩:=a2.slice;obtain⟨u,D⟩:=eY (w1::w2::w3::ms:LV);rw[<-D]at b3;have e5:ldC (some true) (some 8) 0 u=some (.agg u.toArray):=by rw[D,e1,e2,e3,c0];rfl
 have a6:u.all oC=true:=by rw[D,e1,e2,e3];simp only[List.all_cons,a3];rfl
 have l6:u.length=8:=by rw[D];simp [l3]
 have e7:splice z8 0 u=u:=x9 _ _ (by rw[l6];rfl);obtain⟨H7,O⟩:=eY (H6.put (H.next+1) (bC u 1));have n7:H7.next=H6.next:=by rw[O,t5]
 have c9:H7.get (H.next+1)=cE u 1:=by rw[O];exact j5 oM
 have s7:i6 H.next H H7:=by rw[O];exact(hS.trans (a7.weaken oM)).trans (i6.put oM)
 have d5:H.next<=H7.low:=by rw[O];exact((a7.weaken oM).trans (i6.put oM)).low b8
 have k7:∀j,H.next+2<=j->H7.get j=H6.get j:=fun j y=>by rw[O,j6 oM]
 have c4:StF H7 (fun j=>H.next<=j/\j<H7.next) (QR H lo K false) Rt u (C0 q):=by
  refine⟨w1,w2,w3,ms,D,?_,?_,?_,?_⟩
  .exact(X.same fun b S=>k7 b (oN (X.lt S))).frz fun b S=>oN (X.lt S)
  .exact(((a1.same fun b S=>k7 b (oN (a1.lt S))).imp fun cs p h=>h.mono (fun j y=>k7 j (W j y).1) (fun j y=>by have:=W j y;omega) iF)).frz fun b S=>oN (a1.lt S)
  .exact(a2.same fun b S=>k7 b (oN (a2.lt S))).frz fun b S=>oN (a2.lt S)
  .exact d9.mono (fun j y=>k7 j (W j y).1) (fun j y=>by have:=W j y;omega) iF
 refine J11 ho f2 f3 b3 e5 c8 a6 l6 e7 O.symm c9 ?_;exact qQ c4 s7 d5 (fun h=>h)
end Go.Proofs.YtofbhlhamfkljaaGreatDoor.Ve
namespace Go.Proofs.YtofbhlhamfkljaaGreatDoor.Ve
open Go Go.RowKit
theorem ak.refl(lo:Nat)(w:Value)(H:d8):ak lo w H w H:=⟨i6.refl _ _,fun _ _ _=>rfl,fun _ h=> .inl h⟩
theorem ak.trans{lo:Nat}{w w1 w2:Value}{H u H2:d8}(h:ak lo w H w1 u)(k:ak lo w1 u w2 H2):ak lo w H w2 H2:=by
 have I:=h.next;refine⟨h.stay.trans k.stay,fun j D y=>?_,fun b z=>?_⟩
 .rw[k.but j oM (fun q=>by rcases h.new j q with r|r;exact y r;omega),h.but j D y]
 .rcases k.new b z with r|r
  .exact h.new b r
  .exact .inr oM
theorem ak.of{lo:Nat}(w:Value){H y:d8}(h:i6 H.next H y)(u:lo<=H.next):ak lo w H w y:=⟨h.weaken u,fun j z _=>h.get j z,fun _ h=> .inl h⟩
theorem ak.weaken{lo u:Nat}{w v:Value}{H y:d8}(h:ak lo w H v y)(k:u<=lo):ak u w H v y:=⟨h.stay.weaken k,h.but,h.new⟩
def pO{α:Type}(E:d8->(Nat->Prop)->LV->α->Prop):Prop:=∀(H H':d8)(G G':Nat->Prop)(cs:LV)(a:α),E H G cs a->(∀j,G j->H'.get j=H.get j)->(∀j,G j->G' j)->E H' G' cs a
abbrev pls(G:Nat->Prop)(H H3:d8)(j:Nat):Prop:=G j\/(H.next<=j/\j<H3.next)
structure Buf{α:Type}(sz:Nat)(E:d8->(Nat->Prop)->LV->α->Prop)(lo:Nat)(G0:Nat->Prop)(H0:d8)(w0:Value)(G:Nat->Prop)(H:d8)(w:Value)(l:List α):Prop where
 own:u6 H lo sz (E H G) w l
 up:∀j,G0 j->G j
 new:∀j,G j->G0 j\/H0.next<=j
 lt:∀j,G j->j<H.next/\¬l7 w j
 gr:ak lo w0 H0 w H
section
variable{α:Type}{sz:Nat}{E:d8->(Nat->Prop)->List Value->α->Prop}{lo:Nat}{G0 G:Nat->Prop}{H0 H H3:d8}{w0 w:Value}{l l2:List α}
theorem Buf.next(B:Buf sz E lo G0 H0 w0 G H w l):H0.next<=H.next:=B.gr.next
theorem Buf.get(B:Buf sz E lo G0 H0 w0 G H w l)(h:∀j,G0 j->j<H0.next/\¬l7 w0 j) (j:Nat) (u:G0 j):H.get j=H0.get j:=B.gr.but j (h j u).1 (h j u).2
theorem Buf.stay(D:pO E)(B:Buf sz E lo G0 H0 w0 G H w l)(y:i6 H.next H H3)(z:lo<=H.next):Buf sz E lo G0 H0 w0 (pls G H H3) H3 w l:=by
 have J:=y.next;have I:=B.next;refine⟨(B.own.keep y).imp fun cs a h=>D _ _ _ _ _ _ h (fun j u=>y.get j (B.lt j u).1) (fun j u=> .inl u),fun j u=> .inl (B.up j u),fun j u=>?_,fun j u=>?_,B.gr.trans (ak.of w y z)⟩
 .rcases u with u|u
  .exact B.new j u
  .exact .inr oM
 .rcases u with u|u
  .have:=B.lt j u;exact⟨oM,this.2⟩
  .exact⟨u.2,fun q=>by have:=B.own.lt q;omega⟩
theorem Buf.grown(I:pO E){z:Value}{H':d8}{D:List α}(B:Buf sz E lo G0 H0 w0 G H w l)(J:u6 H' lo sz (E H G) z D)(y:ak lo w H z H'):Buf sz E lo G0 H0 w0 G H' z D:=by
 have O:=y.next;refine⟨J.imp fun cs a h=>I _ _ _ _ _ _ h (fun j u=>y.but j (B.lt j u).1 (B.lt j u).2) (fun j u=>u),B.up,B.new,fun j u=>⟨by have:=B.lt j u;omega,fun q=>?_⟩,B.gr.trans y⟩;rcases y.new j q with r|r
 .exact(B.lt j u).2 r
 .have:=B.lt j u;omega
theorem Buf.push{P:Program}{t e:TypeId}{bytes:Nat}{z cs:LV}{a:α}(J:pO E)(W:P.underlying t=some (.slice e))(hs:D8 P e=some sz)(S:V0 P e=some bytes)(X:O9 P e=some z)(D:0<sz)(I:0<bytes)
  (B:Buf sz E lo G0 H0 w0 G H w l) (h:cs.length=sz) (O:E H G cs a) (U:(l.length+1)*bytes<=140737488355328) (u:lo<=H.next):
  Ret (C2 P (H.push (.cells cs true sz)) [t,t] w (.slice (some ⟨H.next,0,none⟩) 1 1)) (H.push (.cells cs true sz)) fun v' H'=>Buf sz E lo G0 H0 w0 G H' v' (l++[a]):=by
 obtain⟨v',y,H',r1,r2,r3,r4⟩:=B.own.push1F W hs S X D I h O U u;exact⟨v',y,H',r1,r2,B.grown J r3 r4⟩
theorem Buf.append{P:Program}{t e:TypeId}{bytes:Nat}{z:LV}{x:Value}(I:pO E)(U:P.underlying t=some (.slice e))(hs:D8 P e=some sz)(J:V0 P e=some bytes)(X:O9 P e=some z)(y:0<sz)(D:0<bytes)
  (B:Buf sz E lo G0 H0 w0 G H w l) (W:SlF H G sz (E H G) x l2) (S:(l.length+l2.length)*bytes<=140737488355328) (h:lo<=H.next):
  Ret (C2 P H [t,t] w x) H fun v' H'=>Buf sz E lo G0 H0 w0 G H' v' (l++l2):=by
 obtain⟨v',u,H',r1,r2,r3,r4⟩:=B.own.appendF U hs J X y D (W.sl fun j O=>(B.lt j O).1) S h;exact⟨v',u,H',r1,r2,B.grown I r3 r4⟩
theorem Buf.frz(u:pO E)(B:Buf sz E lo G0 H0 w0 G H w l):SlF H (fun j=>G j\/l7 w j) sz (E H (fun j=>G j\/l7 w j)) w l:=
 (B.own.imp fun cs a h=>u _ _ _ _ _ _ h (fun _ _=>rfl) fun j z=> .inl z).frz fun b y=> .inr y
theorem Buf.start(u:∀j,G0 j->j<H0.next/\¬l7 w0 j) (y:u6 H0 lo sz (E H0 G0) w0 l):Buf sz E lo G0 H0 w0 G0 H0 w0 l:=⟨y,fun _ h=>h,fun _ h=> .inl h,u,ak.refl _ _ _⟩
theorem Buf.trans{G1:Nat->Prop}{u:d8}{w1:Value}{y:List α}(B:Buf sz E lo G0 H0 w0 G H w l)(C:Buf sz E lo G H w G1 u w1 y):Buf sz E lo G0 H0 w0 G1 u w1 y:=by
 have z:=B.next;refine⟨C.own,fun j h=>C.up j (B.up j h),fun j h=>?_,C.lt,B.gr.trans C.gr⟩;rcases C.new j h with r|r
 .exact B.new j r
 .exact .inr oM
end
end Go.Proofs.YtofbhlhamfkljaaGreatDoor.Ve
namespace Go.Proofs.YtofbhlhamfkljaaGreatDoor.Ve
open Go Go.RowKit
open Go.Proofs.Tryz (prog)
abbrev NmQ:Type:=ByteArray×ByteArray
def atE(a:AtD):LV:=[.string a.space,.string a.loc,.string a.val]
def EvF(H:d8)(F:Nat->Prop)(cs:LV)(e:EvD):Prop:=∃v,cs=[iV e.kind,.string e.space,.string e.loc,v,.string e.text]/\SlF H F 3 (w9 atE) v e.attrs
theorem y9:pO EvF:=fun H H' G G' cs a h y u=>by obtain⟨v,h1,h2⟩:=h;exact⟨v,h1,h2.mono y u iF⟩
def atV(n:NmQ)(e:EvD)(v:ByteArray):EvD:={e with attrs:=e.attrs++[⟨n.1,n.2,v⟩]}
def uW(n:NmQ)(vs:List ByteArray)(e:EvD):List EvD:=e::vs.map (atV n e)
def bM(n:NmQ)(vs:List ByteArray)(l:List EvD):List EvD:=l.flatMap (uW n vs)
def Q4(vs:List ByteArray):List ByteArray:=vs++[if T7 vs eB then dg (T8 vs) else eB]
def eH:List (NmQ×List ByteArray)->List EvD->Option (List EvD)
 |[],l=>some l
 |x::r,l=>if(bM x.1 (Q4 x.2) l).length>24 then none else eH r (bM x.1 (Q4 x.2) l)
def X5(n:NmQ):EvD:=⟨1,n.1,n.2,[],eB⟩
def dp(s:ByteArray):EvD:=⟨2,eB,eB,[],s⟩
def fb(s:SpD):List NmQ->List EvD->Option (List EvD)
 |[],acc=>some acc
 |n::r,acc=>match eH (s.attrs.zip s.vals) [X5 n]with
  |none=>none
  |some l=>fb s r (acc++l)
def V4(s:SpD):Option (List EvD):=match fb s (s.names++[zNm (Q6 s.names)]) []with
 |none=>none
 |some l=>if(l++(s.texts++[dg (T8 s.texts)]).map dp).length>24 then none else some (l++(s.texts++[dg (T8 s.texts)]).map dp)
theorem Rh(I:Nat->Prop)(H0:d8)(lo b4:Nat)(w0:Value)(m0:lo<=H0.next)(S:∀j,I j->j<H0.next/\¬l7 w0 j) (v1 v3 v4:Value) (aa:Option Addr) (E:List NmQ) (ac:Nat) (b1:H0.get b4=cE [v1,.slice aa E.length ac,v3,v4] 1) (gG:I b4) (g4:SlF H0 I 2 (w9 nmE) (.slice aa E.length ac) E) (k:Nat) (hk:k<E.length) (n:NmQ) (hn:E[k]?=some n) (k7:E.length<=100000)
  (va:Option Addr) (vc:Nat) (X:List ByteArray) (g5:SlF H0 I 1 (w9 stE) (.slice va X.length vc) X) (m1:X.length<=100000) (la:Option Addr) (l:List EvD) (lc:Nat) (hl:SlF H0 I 5 (EvF H0 I) (.slice la l.length lc) l) (j:Nat) (e0:EvD) (D:l[j]?=some e0) (l8:l.length<=100000) (l4:e0.attrs.length<=100000) (p5 p6 p7:Value) (b9:List EvD) (j3:b9.length<=10000000):
  ∀kk e H2,(∃(i:Nat)(w:Value)(G:Nat->Prop)(es:List EvD),kk=X.length-i/\i<=X.length/\e.get 4=pT b4/\e.get 5=p5/\e.get 6=p6/\e.get 7=p7/\e.get 8= .slice la l.length lc/\e.get 9=iV k/\e.get 10= .slice va X.length vc/\e.get 11=w/\e.get 12=iV j/\e.get 13=iV i/\Buf 5 EvF lo I H0 w0 G H2 w es/\es++(X.drop i).map (atV n e0)=b9)->
  w7 (LE prog t6 (.loop Nn) e H2) (fun o e H2=>o= .exit 6/\e.get 4=pT b4/\e.get 5=p5/\e.get 6=p6/\e.get 7=p7/\e.get 8= .slice la l.length lc/\e.get 9=iV k/\e.get 10= .slice va X.length vc/\e.get 12=iV j/\∃(w:Value)(G:Nat->Prop),e.get 11=w/\Buf 5 EvF lo I H0 w0 G H2 w b9):=by
 refine i8 _ _ ?_;rintro kk e H2 ⟨i,w,G,es,l5,hi,f4,f5,f6,f7,f8,f9,a4,c9,b0,d0,B,fu⟩;rcases b:decide ((i:Int)<X.length)with _|_
 .have g1:=dF b;have:X.drop i=[]:=dN oM;rw[this,List.map_nil,List.append_nil]at fu;subst fu;refine J3 a4 d0 b ?_;exact i9 ⟨rfl,f4,f5,f6,f7,f8,f9,a4,b0,w,G,c9,B⟩
 have g1:=dT b;have g3:j<l.length:=(gS D).1;have B0:=fun j D=>B.get S j D;have nx:=B.next;have d7:lo<=H2.next:=oM;obtain⟨v,nb,o,cs,own,k6,hx,hd,rfl,hF,hg,l6,j4,hc,rfl⟩:=g5.row (i:=i) oM;obtain⟨e',m2,ol,k3,k1,k5,g7,l3,rfl,e9,g2,j2,W,k9,f2⟩:=hl.row (i:=j) g3;obtain rfl:e0=e':=Option.some.inj (D.symm.trans g7);obtain⟨n',b8,oa,k2,k0,k4,g6,l1,rfl,b2,b6,j1,b7,k8,rfl⟩:=g4.row (i:=k) hk;obtain rfl:n=n':=Option.some.inj (hn.symm.trans g6);have g9:(i:Int).toNat=i:=tN i;have h0:(j:Int).toNat=j:=tN j;have h3:(k:Int).toNat=k:=tN k;rw[hd,List.map_cons,List.append_cons]at fu;obtain⟨av,rfl,d4⟩:=f2;obtain⟨c3,c4,rfl⟩:=d4.slice;obtain⟨u,z⟩:=eY ([iV e0.kind,.string e0.space,.string e0.loc,.slice c3 e0.attrs.length c4,.string e0.text]:LV);rw[<-z]at W;have e7:=(B0 _ e9).trans g2;have e6:u[3]?=some (.slice c3 e0.attrs.length c4):=by rw[z];rfl
 have e3:u.all oC=true:=by rw[z];rfl
 have d9:u.length=5:=by rw[z];rfl
 obtain⟨K0,f0,n0,a6,s0⟩:=pushP H2 (bC [iV 0,.string eB,.string eB,nS,.string eB] 1) (bC u 1);have c0:splice [iV 0,.string eB,.string eB,nS,.string eB] 0 u=u:=x9 _ _ (by rw[d9];rfl);obtain⟨K1,d1,n1,-,s1⟩:=pushE K0 (bC [] 3);have a1:∀j,I j->K0.get j=H0.get j:=fun j D=>by rw[s0.get j (oN (S j D)),B0 j D]
 have J:∀j,I j->K1.get j=H0.get j:=fun j D=>by rw[s1.get j (oN (S j D)),a1 j D]
 have f1:u6 K1 K0.next 3 (w9 atE) (sL K0.next 0 0) []:=by rw[d1];exact u6.fresh rfl lR D2.nil
 obtain⟨w1,h1,K2,f3,d5,d2,s2⟩:=f1.append (P:=prog) (t:=49) (n:=K1.next) (by exact CF.2.2.2.2.2.2) jQ.1 jQ.2.1 jQ.2.2.1 oM oM (d4.mono (F':=(· <K1.next)) J (fun j D=>by have:=S j D;omega) iF) (by simp;omega) oM;have n2:=s2.next;have a9:∀j,I j->K2.get j=H0.get j:=fun j D=>by rw[s2.get j (oN (S j D)),J j D]
 obtain⟨w2,h2,K4,d3,a8,a5,b3⟩:=d2.push1F (P:=prog) (t:=49) (cs:=[.string n.1,.string n.2,.string v]) (a:=⟨n.1,n.2,v⟩) (by exact CF.2.2.2.2.2.2) jQ.1 jQ.2.1 jQ.2.2.1 oM oM rfl rfl (by simp;omega) oM;have n4:=b3.next;obtain⟨K3,b5⟩:=eY (K2.push (bC [.string n.1,.string n.2,.string v] 3));rw[<-b5]at d3 a8;have a7:K1.get H2.next=cE u 1:=(s1.get _ oM).trans a6;have O:K2.get H2.next=cE u 1:=(s2.get _ oM).trans a7;have c6:K3.get H2.next=cE u 1:=by rw[b5,i7 oM];exact O
 have c7:K4.get H2.next=cE u 1:=(b3.but _ oM (fun q=>by have:=d2.lt q;omega)).trans O;have h9:=(a1 b4 gG).trans b1;have i0:=(J b4 gG).trans b1;have i1:=(a9 b4 gG).trans b1;have h5:=(a1 b8 b2).trans b6;have h7:=(J b8 b2).trans b6;have h8:=(a9 b8 b2).trans b6;have i2:=(a1 nb hF).trans hg;have i3:=(J nb hF).trans hg;have j0:=(a9 nb hF).trans hg;have c5:=hc 0 oM;rw[Nat.add_zero]at c5;obtain⟨a2,c2,a3⟩:=a5.slice;have e5:w2.cells.toList=[w2]:=by rw[a3];rfl
 have h4:Value.oneCell' w2=true:=by rw[a3];rfl
 obtain⟨h,y⟩:=eY ([iV e0.kind,.string e0.space,.string e0.loc,w2,.string e0.text]:LV);have e2:splice u 3 [w2]=h:=by rw[z,y];rfl
 have e1:h.length=5:=by rw[y];rfl
 have g8:ldC (some true) (some 5) 0 h=some (.agg h.toArray):=by rw[y,a3];rfl
 obtain⟨K5,U⟩:=eY (K4.put H2.next (bC h 1));have n5:K5.next=K4.next:=by rw[U,t5]
 have c8:K5.get H2.next=cE h 1:=by rw[U];exact j5 oM
 have s5:i6 H2.next H2 K5:=((s0.trans (s1.weaken oM)).trans (s2.weaken oM)).trans ((b3.stay.weaken oM).trans (by rw[U];exact i6.put oM));have B5:=B.stay y9 s5 d7;have e8:EvF K5 (pls G H2 K5) h (atV n e0 v):=⟨w2,y,((a5.same (H':=K5) fun b hb=>by have:=a5.lt hb;rw[U,j6 oM]).frz fun b hb=>by have:=a5.lt hb;exact .inr oM)⟩
 obtain⟨w6,h6,H6,g0,d6,B6⟩:=B5.push (P:=prog) (t:=35) y9 (by exact lQ.2.2.2.2.2.2) S9.1 S9.2.1 S9.2.2.1 oM oM e1 e8 (by have:=congrArg List.length fu;simp at this;omega) oM;have n6:=B6.next;have e4:∀Hx:d8,bsA prog (some 51) Hx 1 [(0,.agg h.toArray)]=some (sL Hx.next 1 1,Hx.push (bC h 5)):=fun Hx=>by
  rw[y,a3];simp only[C7,S9,C8];rfl
 refine J30 f4 f8 f9 a4 c9 b0 d0 b e7 g9 (aI h0 h3) (aI W e3) (aI d9 c0) (aI f0.symm d1.symm) (aI a6 a7) (aI O c6) (aI c7 e6) (aI f3 d5) (aI h9 i0) (aI i1 h5) (aI h7 h8) (aI i2 i3) (aI j0 b7) (aI c5 b5.symm) (aI d3 a8) (aI e5 h4) (aI e2 U.symm) (aI c8 g8) (aI e4 g0) (aI d6 @wrap_small) ?_;exact i4 (kk-1) oM ⟨i+1,w6,_,es++[atV n e0 v],oM,oM,f4,f5,f6,f7,f8,f9,a4,rfl,b0,rfl,B6,fu⟩
theorem Ri(E:Nat->Prop)(H0:d8)(lo U:Nat)(w0:Value)(d2:lo<=H0.next)(a2:∀j,E j->j<H0.next/\¬l7 w0 j) (v1 v3 v4:Value) (aa:Option Addr) (u:List NmQ) (ac:Nat) (b2:H0.get U=cE [v1,.slice aa u.length ac,v3,v4] 1) (gG:E U) (c0:SlF H0 E 2 (w9 nmE) (.slice aa u.length ac) u) (k:Nat) (hk:k<u.length) (n:NmQ) (hn:u[k]?=some n) (b6:u.length<=100000)
  (va:Option Addr) (vc:Nat) (I:List ByteArray) (c4:SlF H0 E 1 (w9 stE) (.slice va I.length vc) I) (c3:I.length<=100000) (la:Option Addr) (l:List EvD) (lc:Nat) (hl:SlF H0 E 5 (EvF H0 E) (.slice la l.length lc) l) (b9:l.length<=100000) (b8:∀x∈l,x.attrs.length<=100000) (p5 p6 p7:Value) (S:List EvD) (c7:S.length<=10000000):
  ∀kk e H2,(∃(j:Nat)(w:Value)(G:Nat->Prop)(X:List EvD),kk=l.length-j/\j<=l.length/\e.get 4=pT U/\e.get 5=p5/\e.get 6=p6/\e.get 7=p7/\e.get 8= .slice la l.length lc/\e.get 9=iV k/\e.get 10= .slice va I.length vc/\e.get 11=w/\e.get 12=iV j/\Buf 5 EvF lo E H0 w0 G H2 w X/\X++bM n I (l.drop j)=S)->
  w7 (LE prog t6 (.loop No) e H2) (fun o e H2=>o= .exit 4/\e.get 4=pT U/\e.get 5=p5/\e.get 6=p6/\e.get 7=p7/\e.get 9=iV k/\∃(w:Value)(G:Nat->Prop),e.get 11=w/\Buf 5 EvF lo E H0 w0 G H2 w S):=by
 refine i8 _ _ ?_;rintro kk e H2 ⟨j,w,G,X,d0,hi,f4,f5,f6,f7,f8,f9,a8,a1,J,B,W⟩;rcases b:decide ((j:Int)<l.length)with _|_
 .have b7:=dF b;have:l.drop j=[]:=dN oM;rw[this,bM,List.flatMap_nil,List.append_nil]at W;subst W;refine J3 f8 J b ?_;exact i9 ⟨rfl,f4,f5,f6,f7,f9,w,G,a1,B⟩
 have b7:=dT b;have B0:=fun j hj=>B.get a2 j hj;have nx:=B.next;obtain⟨e0,nb,o,cs,own,y,hx,hd,rfl,hF,hg,d1,a5,hc,hR⟩:=hl.row (i:=j) oM;have c6:(j:Int).toNat=j:=tN j;rw[hd,bM,List.flatMap_cons,uW,List.cons_append,List.append_cons]at W;have g2:=(B0 _ hF).trans hg;have b3:EvF H2 G y e0:=y9 _ _ _ _ _ _ hR B0 B.up;obtain⟨av,O,a3⟩:=b3;obtain⟨c8,c9,a7⟩:=a3.slice;have c5:y.length=5:=by rw[O];rfl
 obtain⟨w1,h1,H3,b5,a4,B1⟩:=B.push (P:=prog) (t:=35) y9 (by exact lQ.2.2.2.2.2.2) S9.1 S9.2.1 S9.2.2.1 oM oM c5 ⟨av,O,a3⟩ (by have:=congrArg List.length W;simp at this;omega) oM;have a6:∀Hx:d8,bsA prog (some 51) Hx 1 [(0,.agg y.toArray)]=some (sL Hx.next 1 1,Hx.push (bC y 5)):=fun Hx=>by
  rw[O,a7];simp only[C7,S9,C8];rfl
 have n1:=B1.gr.next;have G1:∀j,G j->j<H3.next/\¬l7 w1 j:=B1.lt;have D:=fun j(hj:E j)=>(B1.get a2 j hj)
 refine J10 f8 a1 J b g2 c6 a5 a6 b5 a4 ?_;refine j8 (F:=fun z=>w7 (u9 (inBlock 5 (inBlock 6 z)) _) _) (Rh G H3 lo U w1 oM G1 v1 v3 v4 aa u ac ((D U gG).trans b2) (B.up _ gG) (c0.mono D B.up iF) k hk n hn b6 va vc I (c4.mono D B.up iF) c3 _ l lc (hl.mono D B.up (fun _ _ h=>y9 _ _ _ _ _ _ h D B.up)) j e0 hx b9 (b8 e0 (mG hx)) p5 p6 p7 (X++[e0]++I.map (atV n e0)) (by have:=congrArg List.length W;simp at this ⊢;omega) I.length _ _ ⟨0,w1,G,X++[e0],rfl,oM,f4,f5,f6,f7,f8,f9,a8,rfl,J,rfl,Buf.start G1 B1.own,rfl⟩) ?_;rintro o' e' H4 ⟨ho,g4,g5,g6,g7,g8,g9,a9,b1,w4,G4,b0,B4⟩;refine J3 ho b1 @wrap_small ?_;exact i4 (kk-1) oM ⟨j+1,w4,G4,_,oM,oM,g4,g5,g6,g7,g8,g9,a9,b0,rfl,B1.trans B4,by rw[<-W,bM];simp⟩
theorem ko(n:NmQ)(h:List ByteArray):∀l:List EvD,(bM n h l).length=l.length*(h.length+1)
 |[]=>by simp [bM]
 |x::l=>by
  have:=ko n h l;rw[bM]at this ⊢;rw[List.flatMap_cons,List.length_append,this,uW,List.length_cons,List.length_map,List.length_cons,Nat.succ_mul];omega
theorem EX(n:NmQ)(D:List ByteArray)(k:Nat)(l:List EvD)(h:∀x∈l,x.attrs.length<=k):∀x∈bM n D l,x.attrs.length<=k+1:=by
 intro x u;rw[bM]at u;obtain⟨y,z,u⟩:=List.mem_flatMap.1 u;have:=h y z;rw[uW,List.mem_cons]at u;rcases u with rfl|u
 .omega
 .obtain⟨v,_,rfl⟩:=List.mem_map.1 u;simp [atV];omega
theorem gJ{α β:Type}:∀(a:List α)(b:List β)(k:Nat),(a.zip b).drop k=(a.drop k).zip (b.drop k)
 |a,b,0=>rfl
 |[],b,k+1=>by simp
 |x::a,[],k+1=>by simp
 |x::a,y::b,k+1=>by simpa using gJ a b k
theorem Rj(J:Nat->Prop)(H0:d8)(b4:Nat)(I:∀j,J j->j<H0.next) (v1 v4:Value) (aa:Option Addr) (D:List NmQ) (ac:Nat) (ba:Option Addr) (vals:List (List ByteArray)) (bc:Nat) (g8:vals.length=D.length) (a4:H0.get b4=cE [v1,.slice aa D.length ac,.slice ba vals.length bc,v4] 1) (gG:J b4) (c7:SlF H0 J 2 (w9 nmE) (.slice aa D.length ac) D) (e7:SlF H0 J 1 (VlF H0 J) (.slice ba vals.length bc) vals) (i1:D.length<=1000) (e6:∀x∈vals,x.length<=10000)
  (p5 p6 p7:Value) (a6:Option (List EvD)):
  ∀kk e H2,(∃(k:Nat)(l:List EvD)(w8:Value)(G:Nat->Prop),kk=D.length-k/\k<=D.length/\e.get 4=pT b4/\e.get 5=p5/\e.get 6=p6/\e.get 7=p7/\e.get 8=w8/\e.get 9=iV k/\i6 H0.next H0 H2/\(∀j,J j->G j)/\(∀j,G j->J j\/H0.next<=j)/\(∀j,G j->j<H2.next)/\SlF H2 G 5 (EvF H2 G) w8 l/\l.length<=24/\(∀x∈l,x.attrs.length<=k)/\eH ((D.zip vals).drop k) l=a6)->
  w7 (LE prog t6 (.loop Np) e H2) (fun o e H2=>i6 H0.next H0 H2/\((o= .exit 2/\e.get 4=pT b4/\e.get 5=p5/\e.get 6=p6/\e.get 7=p7/\∃(l:List EvD)(w8:Value)(G:Nat->Prop),a6=some l/\l.length<=24/\e.get 8=w8/\(∀j,J j->G j)/\(∀j,G j->J j\/H0.next<=j)/\(∀j,G j->j<H2.next)/\SlF H2 G 5 (EvF H2 G) w8 l)\/(o= .ret/\a6=none/\e.get 2=nS/\e.get 3=iV 13))):=by
 refine i8 _ _ ?_;rintro kk e H2 ⟨k,l,w8,G,j0,hi,f4,f5,f6,f7,f8,f9,hS,b6,b7,a5,hl,c5,c4,fu⟩;have b5:=(hS.get b4 (I _ gG)).trans a4;rcases b:decide ((k:Int)<D.length)with _|_
 .have d5:=dF b;have:(D.zip vals).drop k=[]:=dN (by rw[List.length_zip];omega);rw[this,eH]at fu;refine J4 f4 f9 b5 b ?_;exact i9 ⟨hS,.inl ⟨rfl,f4,f5,f6,f7,l,w8,G,fu.symm,c5,f8,b6,b7,a5,hl⟩⟩
 have d5:=dT b;have j1:=hS.next;obtain⟨n,j3,oa,h6,h4,h8,e8,d9,rfl,i0,i3,g3,e4,i2,rfl⟩:=c7.row (i:=k) oM;obtain⟨E,f2,ov,h7,h5,h9,e9,e1,rfl,d1,e3,h0,e5,d7,⟨vv,rfl,c8⟩⟩:=e7.row (i:=k) oM;have f3:(k:Int).toNat=k:=tN k;have h3:=e6 E (mG e9);have e2:(D.zip vals).drop k=(n,E)::(D.zip vals).drop (k+1):=by
  rw[gJ,d9,e1,List.zip_cons_cons,gJ]
 rw[e2,eH]at fu
 dsimp only at fu
 have a9:=d7 0 oM;rw[Nat.add_zero]at a9;obtain⟨j4,k0,rfl⟩:=c8.slice;obtain⟨la,lc,rfl⟩:=hl.slice;obtain⟨K1,b9,n1,-,s1⟩:=pushE H2 (bC [] 1);have a2:∀j,J j->K1.get j=H0.get j:=fun j u=>by rw[s1.get j (oN (I j u)),hS.get j (I j u)]
 have d2:u6 K1 H2.next 1 (w9 stE) (sL H2.next 0 0) []:=by rw[b9];exact u6.fresh rfl lR D2.nil
 obtain⟨w1,h1,K2,d3,c0,W,s2⟩:=d2.append (P:=prog) (t:=97) (n:=K1.next) (by exact bU.2.2.2.2.2.2) ty9.1 ty9.2.1 ty9.2.2.1 oM oM (c8.mono (F':=(· <K1.next)) a2 (fun j u=>by have:=I j u;omega) iF) (by simp;omega) oM;have n2:=s2.next;rw[List.nil_append]at W;have O:=wY K2 K2.next w1 E eB lR W.sl oM;have c6:=jH K2 K2.next w1 E lR W.sl oM;rw[show(E.any fun y=>cj y eB)=T7 E eB from rfl]at O;obtain⟨x,hx⟩:∃x,x=if T7 E eB then dg (T8 E) else eB:=eX;obtain⟨w2,h2,S,d4,c3,X,b8⟩:=W.push1F (P:=prog) (t:=97) (cs:=[.string x]) (a:=x) (by exact bU.2.2.2.2.2.2) ty9.1 ty9.2.1 ty9.2.2.1 oM oM rfl rfl oM oM;rw[show E++[x]=Q4 E by rw[hx];rfl]at X;have n4:=b8.next;have s4:i6 H2.next H2 S:=(s1.trans s2).trans b8.stay;have f1:(Q4 E).length=E.length+1:=by simp [Q4]
 have d0:=(a2 b4 gG).trans a4;have g2:=(a2 f2 d1).trans e3;have j2:H2.next<=S.next:=oM;obtain⟨g0,g1,b0⟩:=X.slice;have lm:=ko n (Q4 E) l;have f0:(bM n (Q4 E) l).length<=10000000:=by
  rw[lm,f1];have:=Nat.mul_le_mul c5 (show E.length+1+1<=10002 from oM);omega
 have a8:∀j,J j->S.get j=H0.get j:=fun j u=>by rw[s4.get j (oN (I j u)),hS.get j (I j u)]
 have a1:∀j,pls G H2 S j->j<S.next/\¬l7 (nS) j:=fun j u=>⟨by
  rcases u with u|u
  .have:=a5 j u;omega
  .exact u.2,B8 j⟩
 have a7:∀j,J j->pls G H2 S j:=fun j u=> .inl (b6 j u);have c9:∀j,G j->S.get j=H2.get j:=fun j u=>s4.get j (a5 j u);rcases b2:T7 E eB with _|_
 all_goals
  rw[b2]at O;simp only[b2,if_true,bF]at hx;subst hx;refine J15 f4 f9 b5 b b9.symm d0 g2 f3 a9 d3 c0 O c6 d4 c3 ?_;refine j8 (F:=fun z=>w7 (u9 (inBlock 3 (u9 (inBlock 4 z) _)) _) _) (Ri (pls G H2 S) S S.next b4 (nS) lR a1 v1 _ v4 _ D ac ((a8 b4 gG).trans a4) (a7 _ gG) (c7.mono a8 a7 iF) k oM n e8 oM g0 g1 (Q4 E) (by rw[<-b0];exact X.frz fun b hb=>by have:=X.lt hb;exact .inr oM) oM la l lc (hl.mono c9 (fun j u=> .inl u) (fun _ _ h=>y9 _ _ _ _ _ _ h c9 (fun j u=> .inl u))) oM (fun x hx=>by have:=c4 x hx;omega) p5 p6 p7 (bM n (Q4 E) l) f0 l.length _ _ ⟨0,nS,_,[],rfl,oM,f4,f5,f6,f7,f8,f9,b0,rfl,rfl,Buf.start a1 u6.nil,rfl⟩) ?_;rintro o' e' H5 ⟨ho,g4,g5,g6,g7,g9,w5,G5,a3,U⟩;obtain⟨wa,wc,b1⟩:=U.own.slice;have n5:=U.next;have s5:i6 H0.next H0 H5:=(hS.trans (s4.weaken oM)).trans (U.gr.stay.weaken oM);rw[b1]at a3;rcases b3:decide ((24:Int)<((bM n (Q4 E) l).length:Nat))with _|_
  .have d6:=dF b3;rw[if_neg oM]at fu;refine J5 ho g9 a3 b3 @wrap_small ?_;refine i4 (kk-1) oM ⟨k+1,_,w5,_,oM,oM,g4,g5,g6,g7,b1.symm,rfl,s5,fun j u=> .inl (U.up j (a7 j u)),fun j u=>?_,fun j u=>?_,U.frz y9,oM,EX n _ k l c4,fu⟩
   .rcases u with u|u
    .rcases U.new j u with r|r
     .rcases r with r|r
      .exact b7 j r
      .exact .inr oM
     .exact .inr oM
    .have:=U.own.lt u;exact .inr oM
   .rcases u with u|u
    .exact(U.lt j u).1
    .exact(U.own.lt u).2
  .have d6:=dT b3;rw[if_pos oM]at fu;refine J3 ho a3 b3 ?_;exact z9 ⟨s5,.inr ⟨rfl,fu.symm,rfl,rfl⟩⟩
theorem Rk(I:Nat->Prop)(H0:d8)(b4:Nat)(a3:∀j,I j->j<H0.next) (s:SpD) (v1 v4:Value) (aa:Option Addr) (ac:Nat) (ba:Option Addr) (bc:Nat) (a9:s.vals.length=s.attrs.length) (b5:H0.get b4=cE [v1,.slice aa s.attrs.length ac,.slice ba s.vals.length bc,v4] 1) (gG:I b4) (c4:SlF H0 I 2 (w9 nmE) (.slice aa s.attrs.length ac) s.attrs) (c6:SlF H0 I 1 (VlF H0 I) (.slice ba s.vals.length bc) s.vals) (b7:s.attrs.length<=1000) (c5:∀x∈s.vals,x.length<=10000)
  (na:Option Addr) (nc:Nat) (O:List NmQ) (c3:SlF H0 I 2 (w9 nmE) (.slice na O.length nc) O) (d6:O.length<=10000) (a2:Option (List EvD)):
  ∀kk e H2,(∃(i:Nat)(w:Value)(y:List EvD)(G:Nat->Prop),kk=O.length-i/\i<=O.length/\e.get 4=pT b4/\e.get 5=w/\e.get 6= .slice na O.length nc/\e.get 7=iV i/\Buf 5 EvF H0.next I H0 (nS) G H2 w y/\y.length<=24*i/\fb s (O.drop i) y=a2)->
  w7 (LE prog t6 (.loop Nq) e H2) (fun o e H2=>(o= .exit 0/\e.get 4=pT b4/\∃(w:Value)(y:List EvD)(G:Nat->Prop),a2=some y/\y.length<=24*O.length/\e.get 5=w/\Buf 5 EvF H0.next I H0 (nS) G H2 w y)\/(i6 H0.next H0 H2/\o= .ret/\a2=none/\e.get 2=nS/\e.get 3=iV 13)):=by
 refine i8 _ _ ?_;rintro kk e H2 ⟨i,w,y,G,d4,hi,f4,f5,f6,f7,B,d0,S⟩;have a4:∀j,I j->j<H0.next/\¬l7 (nS) j:=fun j D=>⟨a3 j D,B8 j⟩
 have B0:=fun j D=>B.get a4 j D;have nx:=B.next;rcases b:decide ((i:Int)<O.length)with _|_
 .have b8:=dF b;have:O.drop i=[]:=dN oM;rw[this,fb]at S;refine J3 f6 f7 b ?_;exact i9 (.inl ⟨rfl,f4,w,y,G,S.symm,oM,f5,B⟩)
 have b8:=dT b;obtain⟨n,nb,o,cs,own,el,hx,hd,rfl,hF,hg,d5,b0,hc,rfl⟩:=c3.row (i:=i) oM;have c7:(i:Int).toNat=i:=tN i;have g2:=(B0 _ hF).trans hg;rw[hd,fb]at S;obtain⟨U,u⟩:=eY ([iV 1,.string n.1,.string n.2,nS,.string eB]:LV);obtain⟨E,a5,n3,-,s3⟩:=pushE H2 (bC U 5);have d2:splice [iV 1,Value.string eB,Value.string eB,nS,Value.string eB] 1 (nmE n)=U:=by rw[u];rfl
 have b1:U.length=5:=by rw[u];rfl
 have c9:U.all oC=true:=by rw[u];rfl
 have d3:(nmE n).all oC=true:=rfl;have a6:E=H2.push (bC [iV 1,.string n.1,.string n.2,nS,.string eB] 5):=by rw[a5,u]
 have B3:=fun j(D:I j)=>(s3.get j (oN (a3 j D))).trans (B0 j D);have W:∀j,I j->pls G H2 E j:=fun j D=> .inl (B.up j D);have X:∀j,pls G H2 E j->j<E.next:=fun j D=>by
  rcases D with D|D
  .have:=B.lt j D;omega
  .exact D.2
 have a7:u6 E H2.next 5 (EvF E (pls G H2 E)) (sL H2.next 1 1) [X5 n]:=by
  rw[a5];exact u6.fresh rfl lR (D2.one b1 ⟨nS,u,.inl ⟨rfl,rfl⟩⟩)
 have b9:SlF E (pls G H2 E) 5 (EvF E (pls G H2 E)) (sL H2.next 1 1) [X5 n]:=a7.frz fun b hb=>by have:=a7.lt hb;exact .inr this
 refine J7 f6 f7 b g2 c7 b0 a6.symm ?_;refine j8 (F:=fun z=>w7 (u9 (inBlock 1 (u9 (inBlock 2 z) _)) _) _) (Rj (pls G H2 E) E b4 X v1 v4 aa s.attrs ac ba s.vals bc a9 ((B3 b4 gG).trans b5) (W _ gG) (c4.mono B3 W iF) (c6.mono B3 W (fun _ _ h=>h.mono B3 W)) b7 c5 w _ _ (eH (s.attrs.zip s.vals) [X5 n]) s.attrs.length _ _ ⟨0,[X5 n],_,_,rfl,oM,f4,f5,f6,f7,rfl,rfl,i6.refl _ _,fun _ h=>h,fun _ h=> .inl h,X,b9,by simp,by simp [X5],rfl⟩) ?_;rintro o' e' H5 ⟨s5,⟨ho,g4,g5,g6,g7,l,w8,G5,J,d1,g8,h1,h2,h3,c0⟩|⟨ho,J,b2,b3⟩⟩
 .rw[J]at S
  dsimp only at S
  have n5:=s5.next;have c8:i6 H2.next H2 H5:=s3.trans (s5.weaken oM);have B5:=B.stay y9 c8 nx;have a1:∀j,G5 j->pls G H2 H5 j:=fun j D=>by
   have:=h3 j D;rcases h2 j D with r|r
   .rcases r with r|r
    .exact .inl r
    .exact .inr ⟨r.1,this⟩
   .exact .inr ⟨oM,this⟩
  obtain⟨w6,h6,H6,b6,a8,B6⟩:=B5.append (P:=prog) (t:=35) y9 (by exact lQ.2.2.2.2.2.2) S9.1 S9.2.1 S9.2.2.1 oM oM (c0.mono (fun _ _=>rfl) a1 (fun _ _ h=>y9 _ _ _ _ _ _ h (fun _ _=>rfl) a1)) oM oM;refine J7 ho g5 g7 g8 b6 a8 @wrap_small ?_;exact i4 (kk-1) oM ⟨i+1,w6,y++l,_,oM,oM,g4,rfl,g6,rfl,B6,by rw[List.length_append];omega,S⟩
 .rw[J]at S
  dsimp only at S
  refine J1 ho ?_;have n5:=s5.next;exact z9 (.inr ⟨((B.gr.stay).trans (s3.weaken nx)).trans (s5.weaken oM),rfl,S.symm,b2,b3⟩)
theorem Rl(J:Nat->Prop)(H0:d8)(w0:Value)(lo:Nat)(a6:lo<=H0.next)(O:∀j,J j->j<H0.next/\¬l7 w0 j) (ta:Option Addr) (tc:Nat) (ts:List ByteArray) (W:SlF H0 J 1 (w9 stE) (.slice ta ts.length tc) ts) (a7:ts.length<=100000) (y:List EvD) (a2:y.length<=10000000):
  ∀X e H2,(∃(i:Nat)(w:Value)(h:List EvD)(G:Nat->Prop),X=ts.length-i/\i<=ts.length/\e.get 5=w/\e.get 15= .slice ta ts.length tc/\e.get 16=iV i/\Buf 5 EvF lo J H0 w0 G H2 w h/\h++(ts.drop i).map dp=y)->
  w7 (LE prog t6 (.loop Nr) e H2) (fun o e H2=>o= .exit 8/\∃(w:Value)(G:Nat->Prop),e.get 5=w/\Buf 5 EvF lo J H0 w0 G H2 w y):=by
 refine i8 _ _ ?_;rintro X e H2 ⟨i,w,h,G,a4,hi,f5,u,D,B,E⟩;have B0:=fun j hj=>B.get O j hj;have nx:=B.next;rcases b:decide ((i:Int)<ts.length)with _|_
 .have U:=dF b;have:ts.drop i=[]:=dN oM;rw[this,List.map_nil,List.append_nil]at E;subst E;refine J3 u D b ?_;exact i9 ⟨rfl,w,G,f5,B⟩
 have U:=dT b;obtain⟨v,nb,o,cs,own,el,hx,hd,rfl,hF,hg,a5,a3,hc,rfl⟩:=W.row (i:=i) oM;have a1:(i:Int).toNat=i:=tN i;have g2:=(B0 _ hF).trans hg;rw[hd,List.map_cons,List.append_cons]at E;have z:=hc 0 oM;rw[Nat.add_zero]at z;obtain⟨w6,h6,H6,S,I,B6⟩:=B.push (P:=prog) (t:=35) y9 (by exact lQ.2.2.2.2.2.2) S9.1 S9.2.1 S9.2.2.1 oM oM (cs:=[iV 2,.string eB,.string eB,nS,.string v]) (a:=dp v) rfl ⟨nS,rfl,.inl ⟨rfl,rfl⟩⟩ (by have:=congrArg List.length E;simp at this;omega) oM;refine J10 f5 u D b g2 a1 z S I @wrap_small ?_;exact i4 (X-1) oM ⟨i+1,w6,h++[dp v],G,oM,oM,rfl,u,rfl,B6,E⟩
mutual
theorem dz:∀(f:Bool)(q:Q),(fsQ f q).length<=nQ q
 |f,.mk o s c v a b=>by
  have h1:=jp f a;have h2:=jp (!f) b;rw[fsQ,nQ,List.length_append,List.length_append];split<;>simp<;>omega
theorem jp:∀(f:Bool)(l:List Q),(fsL f l).length<=nL l
 |_,[]=>by simp [fsL]
 |f,x::l=>by
  have h1:=dz f x;have h2:=jp f l;rw[fsL,nL,List.length_append];omega
end
theorem jM(q:Q):(spQ q).names.length<=nQ q/\(spQ q).attrs.length<=nQ q/\(spQ q).vals.length=(spQ q).attrs.length/\(∀x∈(spQ q).vals,x.length<=nQ q)/\(spQ q).texts.length<=nQ q:=by
 have h:=dz false q;refine⟨?_,?_,by simp [spQ],?_,?_⟩
 .have:=dW (aQ 4 4) qNm L3 (fsQ false q) [];simp [spQ,V5]at this ⊢;omega
 .have:=dW (aQ 5 6) qNm L3 (fsQ false q) [];simp [spQ,V5]at this ⊢;omega
 .intro x u;simp only[spQ,List.mem_map]at u;obtain⟨n,_,rfl⟩:=u;have:=dW (dt 6 n) Q.vl cj (fsQ false q) [];simp [R9]at this ⊢;omega
 .have:=dW (dt 7 (eB,eB)) Q.vl cj (fsQ false q) [];simp [spQ,R9]at this ⊢;omega
def MP(H:d8)(s:SpD)(w:Value)(H1:d8):Prop:=∃v er,w= .tuple #[v,iV er]/\((V4 s=none/\v=nS/\er=13)\/∃l,V4 s=some l/\er=0/\SlF H1 (· <H1.next) 5 (EvF H1 (· <H1.next)) v l)/\i6 H.next H H1
theorem yj(H:d8)(lo k:Nat)(cs:LV)(q:Q)(g9:lo<=H.next)(hr:QR H lo k false cs q)(e6:OkD false q)(f8:nQ q<=1000):
  Ret (CL prog t6 35 [.agg cs.toArray] H) H (MP H (spQ q)):=by
 obtain⟨e9,e8,d0,O,f0⟩:=jM q;obtain⟨s,hs⟩:=eY (spQ q);rw[<-hs]at e9 e8 d0 O f0 ⊢;have a0:cs.all oC=true:=by
  cases k with
  |zero=>exact hr.elim
  |succ k=>obtain⟨_,_,_,_,rfl,_⟩:=hr.path;rfl
 have f1:ldC (some true) (some 3) 0 cs=some (.agg cs.toArray):=by
  cases k with
  |zero=>exact hr.elim
  |succ k=>obtain⟨_,_,_,_,rfl,_⟩:=hr.path;rfl
 obtain⟨H1,a9,-,hg,hS⟩:=pushF H (bC cs 1);have c7:H.next<=H1.low:=by rw[a9,l9];exact lR
 have n1:=hS.next;have h5:=u7 hg;obtain⟨v2,h2,H2,e3,c0,f9,rfl,b9,s2⟩:=Cl H1 lo k cs q oM (hr.mono (fun j u=>hS.get j oM) lR) e6 (oN (dz false q));have n2:=s2.next;rw[<-hs]at b9;obtain⟨v1,va,vb,v4,rfl,a4,d1,d2,a5⟩:=b9;obtain⟨aa,ac,rfl⟩:=d1.slice;obtain⟨ba,bc,rfl⟩:=d2.slice;obtain⟨na,nc,rfl⟩:=a4.slice;obtain⟨ta,tc,rfl⟩:=a5.slice;obtain⟨K0,d3,m0,b0,t0⟩:=pushP H2 (bC [nS,nS,nS,nS] 1) (bC [.slice na s.names.length nc,.slice aa s.attrs.length ac,.slice ba s.vals.length bc,.slice ta s.texts.length tc] 1);obtain⟨K1,b6,m1,-,t1⟩:=pushE K0 (bC [] 2);have q1:∀j,j<H2.next->K1.get j=H2.get j:=fun j u=>by rw[t1.get j oM,t0.get j u]
 have b1:=(t1.get _ oM).trans b0;have d4:u6 K1 K0.next 2 (w9 nmE) (sL K0.next 0 0) []:=by rw[b6];exact u6.fresh rfl lR D2.nil
 obtain⟨w2,g1,K2,d6,a3,W,t2⟩:=d4.append (P:=prog) (t:=95) (n:=H2.next) (by exact sV.2.2.2.2.2.2) dP.1 dP.2.1 dP.2.2.1 oM oM (a4.mono q1 lR iF) (by simp;omega) oM;rw[List.nil_append]at W;have m2:=t2.next;have b2:=(t2.get _ oM).trans b1;have q2:∀j,j<H2.next->K2.get j=H2.get j:=fun j u=>by rw[t2.get j oM,q1 j u]
 have e5:=Cj K2 H2.next (.slice na s.names.length nc) s.names oM (a4.mono q2 lR iF) oM;obtain⟨w4,h4,D,d7,c3,X,U⟩:=W.push1F (P:=prog) (t:=95) (cs:=nmE (zNm (Q6 s.names))) (a:=zNm (Q6 s.names)) (by exact sV.2.2.2.2.2.2) dP.1 dP.2.1 dP.2.2.1 oM oM rfl rfl oM oM;have m4:=U.next;have t4:i6 H2.next H2 D:=(t0.trans (t1.weaken oM)).trans ((t2.weaken oM).trans (U.stay.weaken oM));have b4:D.get H2.next=_:=(U.but _ oM (fun q=>by have:=W.lt q;omega)).trans b2;have q4:∀j,j<H2.next->D.get j=H2.get j:=fun j u=>t4.get j u;rw[j7 Bk rfl _ sM];refine J16 a0 a9.symm hg f1 e3 c0 d3.symm b0 b6.symm b1 d6 a3 b2 e5 d7 c3 ?_;obtain⟨f2,f3,a6⟩:=X.slice;have h0:(s.names++[zNm (Q6 s.names)]).length=s.names.length+1:=sM;have e7:i6 H.next H D:=(hS.trans (s2.weaken oM)).trans (t4.weaken oM);have c6:H.next<=D.low:=((s2.weaken oM).trans (t4.weaken oM)).low c7;have f6:∀x∈s.vals,x.length<=10000:=fun x hx=>oN (O x hx);refine j8 (F:=fun z=>Ret (u5 _ _ _ (u9 (inBlock 0 z) _)) _ _) (Rk (· <D.next) D H2.next (fun _ h=>h) s _ _ aa ac ba bc d0 b4 (by show _<_;omega) (d1.mono q4 (show H2.next<=D.next from oM) iF) (SlI.slF (d2.mono q4 (show H2.next<=D.next from oM) (fun _ _ h=>h.mono q4 (fun j u=>oM)))) oM f6 f2 f3 _ (by rw[<-a6];exact X.frz fun b hb=>(X.lt hb).2) oM (fb s (s.names++[zNm (Q6 s.names)]) []) (s.names++[zNm (Q6 s.names)]).length _ _ ⟨0,_,[],_,rfl,oM,rfl,rfl,a6,rfl,Buf.start (fun j u=>⟨u,B8 j⟩) u6.nil,by simp,rfl⟩) ?_;rintro o' e' J (⟨ho,g4,w,E,G,I,f7,g5,B⟩|⟨s5,ho,I,g2,g3⟩)
 .have n5:=B.next;have s5:i6 D.next D J:=B.gr.stay;have b5:=(s5.get _ oM).trans b4;have q5:∀j,j<H2.next->J.get j=H2.get j:=fun j u=>by rw[s5.get j oM,q4 j u]
  obtain⟨L1,b7,l1,-,u1⟩:=pushE J (bC [] 1);have c1:=(u1.get _ oM).trans b5;have r1:∀j,j<H2.next->L1.get j=H2.get j:=fun j u=>by rw[u1.get j oM,q5 j u]
  have d5:u6 L1 J.next 1 (w9 stE) (sL J.next 0 0) []:=by rw[b7];exact u6.fresh rfl lR D2.nil
  obtain⟨x2,g6,L2,d9,c4,b8,u2⟩:=d5.append (P:=prog) (t:=97) (n:=H2.next) (by exact bU.2.2.2.2.2.2) ty9.1 ty9.2.1 ty9.2.2.1 oM oM (a5.mono r1 lR iF) (by simp;omega) oM;rw[List.nil_append]at b8;have l2:=u2.next;have c2:=(u2.get _ oM).trans c1;have r2:∀j,j<H2.next->L2.get j=H2.get j:=fun j u=>by rw[u2.get j oM,r1 j u]
  have c8:=jH L2 H2.next (.slice ta s.texts.length tc) s.texts oM (a5.mono r2 lR iF) oM;obtain⟨x4,g7,L4,e1,c5,a1,a8⟩:=b8.push1F (P:=prog) (t:=97) (cs:=[.string (dg (T8 s.texts))]) (a:=dg (T8 s.texts)) (by exact bU.2.2.2.2.2.2) ty9.1 ty9.2.1 ty9.2.2.1 oM oM rfl rfl oM oM;have l4:=a8.next;have u4:i6 J.next J L4:=(u1.trans u2).trans a8.stay;have B4:=B.stay y9 u4 n5;obtain⟨f4,f5,a7⟩:=a1.slice;have h3:(s.texts++[dg (T8 s.texts)]).length=s.texts.length+1:=sM;refine J11 ho g4 b5 b7.symm c1 d9 c4 c2 c8 e1 c5 ?_;refine j8 (F:=fun z=>Ret (u5 _ _ _ (u9 (inBlock 8 z) _)) _ _) (Rl (pls G J L4) L4 w D.next oM B4.lt f4 f5 (s.texts++[dg (T8 s.texts)]) (by rw[<-a7];exact a1.frz fun b hb=> .inr (a1.lt hb)) oM (E++(s.texts++[dg (T8 s.texts)]).map dp) (by rw[List.length_append,List.length_map];omega) (s.texts++[dg (T8 s.texts)]).length _ _ ⟨0,w,E,_,rfl,oM,g5,a7,rfl,Buf.start B4.lt B4.own,rfl⟩) ?_;rintro h6 g0 H6 ⟨c9,w6,G6,k5,S⟩;have B7:=B4.trans S;have n6:=B7.next;have s6:i6 H.next H H6:=e7.trans (B7.gr.stay.weaken oM);have e4:H.next<=H6.low:=(B7.gr.stay.weaken oM).low c6;obtain⟨wa,wc,ew⟩:=S.own.slice;have a2:=S.frz y9;rw[ew]at k5 a2;have y:V4 s=if(E++(s.texts++[dg (T8 s.texts)]).map dp).length>24 then none else some (E++(s.texts++[dg (T8 s.texts)]).map dp):=by rw[V4,I]
  rcases b3:decide ((24:Int)<((E++(s.texts++[dg (T8 s.texts)]).map dp).length:Nat))with _|_
  .have e2:=dF b3;rw[if_neg oM]at y;refine J3 c9 k5 b3 ?_;refine dI (fun hc=>?_) ⟨_,_,rfl,.inr ⟨_,y,rfl,SlF.mono a2 (fun _ _=>rfl) (fun j u=>?_) (fun _ _ h=>y9 _ _ _ _ _ _ h (fun _ _=>rfl) fun j u=>?_)⟩,s6.ret e4⟩
   .rcases a2 with⟨h1,h2⟩|⟨b,o,c,h,_⟩
    .exact⟨_,_,rfl,.inr ⟨_,y,rfl,.inl ⟨h1,h2⟩⟩,i6.refl _ _⟩
    .rw[h]at hc;cases hc
   .rcases u with u|u
    .exact(S.lt j u).1
    .rw[<-ew]at u;exact(S.own.lt u).2
   .rcases u with u|u
    .exact(S.lt j u).1
    .rw[<-ew]at u;exact(S.own.lt u).2
  .have e2:=dT b3;rw[if_pos oM]at y;refine J3 c9 k5 b3 ?_;exact⟨_,none,H,rfl,rfl,_,_,rfl,.inl ⟨y,rfl,rfl⟩,i6.refl _ _⟩
 .have y:V4 s=none:=by rw[V4,I]
  have g8:=(s5.weaken (show H.next<=D.next from oM)).low c6;refine J3 ho g2 g3 ?_;exact⟨_,none,H,rfl,rfl,_,_,rfl,.inl ⟨y,rfl,rfl⟩,i6.refl _ _⟩
def lZ(q:Q):Bool:=decide (A0 (C0 q).progs<=24)&&decide ((B9 q).st<=24)&&(match V4 (spQ q)with|none=>true|some l=>decide (l.length<=14))
theorem vH(q:Q):(C0 q).main=B9 q:=by
 have:∀(l:List Q)(s:StD),(l.foldl E8 s).main=s.main:=by
  intro l;induction l with
  |nil=>intro s;rfl
  |cons x l h=>
   intro s;rw[List.foldl_cons,h,E8];split<;>rfl
 rw[C0,this]
theorem jO(q:Q)(I:OkD false q):(C0 q).progs.length=(C0 q).paths.length/\(C0 q).base.length=(C0 q).paths.length/\(C0 q).paths.length<=nQ q/\∀p∈(C0 q).progs,0<=p.st/\p.st<=2*nQ q:=by
 obtain⟨z,h⟩:=bS _ false q lR I;have:∀(l:List Q)(s:StD),(∀x∈l,nQ x<=nQ q)->s.progs.length=s.paths.length->s.base.length=s.paths.length->(∀p∈s.progs,0<=p.st/\p.st<=2*nQ q)->(l.foldl E8 s).progs.length=(l.foldl E8 s).paths.length/\(l.foldl E8 s).base.length=(l.foldl E8 s).paths.length/\(l.foldl E8 s).paths.length<=s.paths.length+l.length/\∀p∈(l.foldl E8 s).progs,0<=p.st/\p.st<=2*nQ q:=by
  intro l;induction l with
  |nil=>intro s z h D E;exact⟨h,D,by simp,E⟩
  |cons x l S=>
   intro s z h D E;have U:=dR x;have J:=z x sM;rw[List.foldl_cons];have key:(E8 s x).progs.length=(E8 s x).paths.length/\(E8 s x).base.length=(E8 s x).paths.length/\(E8 s x).paths.length<=s.paths.length+1/\∀p∈(E8 s x).progs,0<=p.st/\p.st<=2*nQ q:=by
    rw[E8];split
    .exact⟨h,D,oM,E⟩
    .refine⟨by simp [h],by simp [D],by simp,fun p u=>?_⟩;rcases List.mem_append.1 u with u|u
     .exact E p u
     .have:p=B9 x:=by simpa using u
      subst this;omega
   have:=S (E8 s x) (fun y O=>z y (by simp [O])) key.1 key.2.1 key.2.2.2;rw[List.length_cons];exact⟨this.1,this.2.1,oM,this.2.2.2⟩
 have:=this (inQ false q) ⟨[],[],[],B9 q⟩ (fun x J=>(h x J).2) rfl rfl sM;rw[<-C0]at this;exact⟨this.1,this.2.1,by have:=this.2.2.1;simp at this;omega,this.2.2.2⟩
theorem yk(H:d8)(lo k:Nat)(cs:LV)(q:Q)(b3:lo<=H.next)(hr:QR H lo k false cs q)(a4:OkD false q)(a3:nQ q<=1000):
  CL prog t6 30 [.agg cs.toArray] H=some (.bool (lZ q),none):=by
 have a0:cs.all oC=true:=by
  cases k with
  |zero=>exact hr.elim
  |succ k=>obtain⟨_,_,_,_,rfl,_⟩:=hr.path;rfl
 have U:ldC (some true) (some 3) 0 cs=some (.agg cs.toArray):=by
  cases k with
  |zero=>exact hr.elim
  |succ k=>obtain⟨_,_,_,_,rfl,_⟩:=hr.path;rfl
 obtain⟨H1,D,-,hg,hS⟩:=pushF H (bC cs 1);have a7:H.next<=H1.low:=by rw[D,l9];exact lR
 have n1:=hS.next;have b4:=u7 hg;obtain⟨v2,h2,H2,J,y,u,rfl,a5,s2⟩:=Cm k H1 lo (fun _ _=>True) cs q oM (hr.mono (fun j hj=>hS.get j oM) lR) (fun _ _ _ _ _=>trivial) a4 a3;have n2:=s2.next;obtain⟨pa,pc,ga,gc,ba,bc,ea,ec,ta,tc,a2,_⟩:=F1 a5;have l8:u.length=8:=by rw[a2];rfl
 have a8:u.all oC=true:=by rw[a2];rfl
 have W:ldC (some true) (some 8) 0 u=some (.agg u.toArray):=by rw[a2];rfl
 have a1:u[3]?=some (.int .i64 (C0 q).main.st):=by rw[a2];rfl
 rw[vH]at a1;obtain⟨H3,I,n3,g3,s3⟩:=pushP H2 (bC z8 1) (bC u 1);have X:splice z8 0 u=u:=x9 _ _ (by rw[l8];rfl);have E:H3.get H.next=cE cs 1:=by rw[s3.get _ oM,s2.get _ oM];exact hg
 obtain⟨v4,h4,H4,O,z,lv,er,rfl,a6,s4⟩:=yj H3 lo k cs q oM (hr.mono (fun j hj=>by rw[s3.get j oM,s2.get j oM,hS.get j oM]) lR) a4 a3;have n4:=s4.next;have g4:H4.get H2.next=cE u 1:=(s4.get _ oM).trans g3;obtain⟨p1,p2,p3,p4⟩:=jO q a4;have S:=qH H4 (fun j=>H1.next<=j/\j<H2.next) (QR H1 lo k false) (fun _ _=>True) u (C0 q) (fun j hj=>oM) (a5.mono (fun j hj=>by rw[s4.get j oM,s3.get j oM]) (fun _ h=>h) iF iF) oM (fun p hp=>by have:=p4 p hp;omega);have b0:H.next<=H4.low:=((s2.weaken (show H.next<=H1.next from oM)).trans ((s3.weaken oM).trans (s4.weaken oM))).low a7;rw[j7 QI rfl _ sM,lZ];rcases a6 with⟨h1,rfl,rfl⟩|⟨l,h1,rfl,hl⟩
 .rw[h1];rcases b1:decide (A0 (C0 q).progs<=24)with _|_
  .exact J17 a0 D.symm hg U J y a8 l8 X I.symm E O z g4 W S b1 trivial
  rcases b2:decide ((B9 q).st<=24)with _|_
  .exact J19 a0 D.symm hg U J y a8 l8 X I.symm E O z g4 W S a1 b1 b2 trivial
  .exact J19 a0 D.symm hg U J y a8 l8 X I.symm E O z g4 W S a1 b1 b2 trivial
 .rw[h1];obtain⟨la,lc,rfl⟩:=hl.slice;have a9:decide ((l.length:Int)<=14)=decide (l.length<=14):=decide_eq_decide.2 oM;rcases b1:decide (A0 (C0 q).progs<=24)with _|_
  .exact J17 a0 D.symm hg U J y a8 l8 X I.symm E O z g4 W S b1 trivial
  rcases b2:decide ((B9 q).st<=24)with _|_
  .exact J19 a0 D.symm hg U J y a8 l8 X I.symm E O z g4 W S a1 b1 b2 trivial
  .exact J20 a0 D.symm hg U J y a8 l8 X I.symm E O z g4 W S a1 b1 b2 a9 trivial
end Go.Proofs.YtofbhlhamfkljaaGreatDoor.Ve
