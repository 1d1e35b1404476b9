/- A part of the claim: the evaluator and the contracts. Conditions: none here. -/
import Derived.Test.YtjlpdddmmnijoaaGreatDoorSb
set_option linter.unusedVariables false
set_option linter.unusedSimpArgs false
set_option linter.defProp false
set_option maxHeartbeats 0
set_option maxRecDepth 1000000
namespace Go.Proofs.YtjlpdddmmnijoaaGreatDoor
open Go Go.RowKit
def sB:=@List.nil_append
def wG:=@decide_eq_decide
def xo:=@List.foldl_append
def xB:=@List.mem_flatMap
def yo:=@List.append_assoc
def yA:=@List.foldl_nil
def AH:=@List.any_eq_true
def Dr:=@ByteArray.size_append
def Fc:=@List.flatMap_nil
def Hk:=@List.drop_succ_cons
def JE:=@Int.le_refl
def MQ:=@List.length_zip
def Uy:=@Int.zero_add
def WQ:=@List.take_zero
def XN:=@List.any_nil
def XV:=@List.map_nil
def Yv:=@dif_neg
def Yx:=@List.nodup_cons
def ZH:=@List.append_cons
def aab:=@Int.tdiv_eq_ediv_of_nonneg
def aac:=@Int.tmod_eq_emod_of_nonneg
def aaC:=@Prod.ext_iff
end Go.Proofs.YtjlpdddmmnijoaaGreatDoor
namespace Go.Proofs.YtjlpdddmmnijoaaGreatDoor.Ve
open Go Go.RowKit
open Go.Proofs.Tryz (prog)
def qH(s:aa2)(i n:Nat):Int:=
 if n=2 then(A8 s i-192)*64+(A8 s (i+1)-128)
 else if n=3 then((A8 s i-224)*64+(A8 s (i+1)-128))*64+(A8 s (i+2)-128)
 else(((A8 s i-240)*64+(A8 s (i+1)-128))*64+(A8 s (i+2)-128))*64+(A8 s (i+3)-128)
def U2(s:aa2)(i:Nat):0<=A8 s i/\A8 s i<=255:=by rw[aR];have:=bf s i;omega
def DD(s:aa2)(i n:Nat): -100000000<=qH s i n/\qH s i n<=100000000:=by
 have h:=U2 s i;have u:=U2 s (i+1);have z:=U2 s (i+2);have D:=U2 s (i+3);unfold qH;split
 .omega
 .split<;>omega
def pq(H:d7)(s:aa2)(i n:Nat)(E:2<=n)(I:n<=4)(hs:i+n<=s.size)(J:s.size<=2000000):CL prog l7 131 [.string s,iV i,iV n] H=some (.int .i64 (qH s i n),none):=by
 have q0:=U2 s i;have O:=U2 s (i+1);have S:=U2 s (i+2);have U:=U2 s (i+3);have h:((i:Int)+1).toNat=i+1:=oM;have u:((i:Int)+2).toNat=i+2:=oM;have z:((i:Int)+3).toNat=i+3:=oM;have D:(i:Int)+0=i:=oM;rw[i7 Wr rfl _ sM];refine J1 @wrap_small ?_;rw[T8];refine J3 @wrap_small @dl1 D ?_;obtain rfl|rfl|rfl:n=2\/n=3\/n=4:=oM
 .refine J2 @wrap_small @Uy ?_;rw[T8];refine J2 @wrap_small h ?_;rw[T8];refine J7 @wrap_small D h u z @Uy dlB ?_;rw[qH,bJ rfl]
 .refine J2 @wrap_small @Uy ?_;rw[T8];refine J2 @wrap_small h ?_;rw[T8];refine J2 @wrap_small u ?_;rw[T8];refine J7 @wrap_small D h u z @Uy dlB ?_;rw[qH,bt oM,bJ rfl]
 .refine J2 @wrap_small @Uy ?_;rw[T8];refine J2 @wrap_small h ?_;rw[T8];refine J2 @wrap_small u ?_;rw[T8];refine J2 @wrap_small z ?_;rw[T8];refine J7 @wrap_small D h u z @Uy dlB ?_;rw[qH,bt oM,bt oM]
def qY{P:Program}(t:TypeId)(a b:Int)(h:0<=a)(u:0<b):L3 P .quo t (.int .i64 a) (.int .i64 b)=some (.int .i64 (IntKind.wrap .i64 (a / b))):=by
 simp only[L3,jd];rw[bt oM,aab h]
def rg{P:Program}(t:TypeId)(a b:Int)(h:0<=a)(u:0<b):L3 P .rem t (.int .i64 a) (.int .i64 b)=some (.int .i64 (a % b)):=by
 simp only[L3,jd];rw[bt oM,aac h]
def oF{n:Int}(h:0<=n)(u:n<=255):IntKind.wrap .u8 n=n:=by
 simp [IntKind.wrap,IntKind.min,IntKind.max,IntKind.signed,IntKind.bits];omega
def u8V(n:Int):aa3:= .int .u8 n
def R5(r:Int):List Int:=
 if r<0\/1114111<r\/(55296<=r/\r<=57343) then []
 else if r<128 then [r]
 else if r<2048 then [192+r / 64,128+r % 64]
 else if r<65536 then [224+r / 4096,128+r / 64 % 64,128+r % 64]
 else [240+r / 262144,128+r / 4096 % 64,128+r / 64 % 64,128+r % 64]
def Fu(H:d7)(r:Int):Ret (CL prog l7 132 [iV r] H) H fun w D=>eR D H.n 1 w (R5 r).length ((R5 r).map u8V)/\d9 H.n H D:=by
 have nil:∀l,l=[]->eR H H.n 1 (nS) l.length (l.map u8V):=fun l h=>by rw[h];exact .inl ⟨rfl,rfl,rfl⟩
 have z:∀cs:LV,cs.length=cs.length->∀l:List Int,l.map u8V=cs->Ret (some (Value.slice (sP H.n) cs.length cs.length,some ⟨(d7.push ⟨H.bs,H.n⟩ (bC cs 1)).bs,min H.low H.n⟩)) H fun w D=>eR D H.n 1 w l.length (l.map u8V)/\d9 H.n H D:=by
  intro cs _ l J;have I:l.length=cs.length:=by rw[<-J,ED]
  refine⟨_,_,_,rfl,rfl,.inr ⟨H.n,cs.length,by rw[I],?_,lR,by rw[J,I];omega⟩,(d9.first H _).ret lR⟩;rw[J];exact j6
 rw[i7 Ws rfl _ sM];by_cases u:r<0\/1114111<r\/(55296<=r/\r<=57343)
 .have hp:R5 r=[]:=by rw[R5,bJ u]
  have E:Ret (some (nS,(none:Option d7))) H fun w D=>eR D H.n 1 w (R5 r).length ((R5 r).map u8V)/\d9 H.n H D:=⟨_,none,H,rfl,rfl,nil _ hp,d9.refl _ _⟩
  rcases iW r 0 with S|S
  .refine J1 @dl1 ?_;exact E
  rcases iW 1114111 r with X|X
  .refine J1 dlB ?_;exact E
  .have h3:55296<=r/\r<=57343:=oM;refine J1 dlB ?_;exact E
 .have S:0<=r/\r<=1114111:=oM;rcases iW r 128 with U|U
  .refine J2 @oF dlB ?_;exact z _ rfl (R5 r) (by rw[R5,bt u,bJ U])
  rcases iW r 2048 with W|W
  .refine J5 @oF @wrap_small @qY @rg dlB ?_;exact z _ rfl (R5 r) (by rw[R5,bt u,bt oM,bJ W])
  rcases iW r 65536 with O|O
  .rcases iW r 55296 with k4|k4
   .refine J5 @oF @wrap_small @qY @rg dlB ?_;exact z _ rfl (R5 r) (by rw[R5,bt u,bt oM,bt oM,bJ O])
   .have k5:57343<r:=oM;refine J5 @oF @wrap_small @qY @rg dlB ?_;exact z _ rfl (R5 r) (by rw[R5,bt u,bt oM,bt oM,bJ O])
  .refine J5 @oF @wrap_small @qY @rg dlB ?_;exact z _ rfl (R5 r) (by rw[R5,bt u,bt oM,bt oM,bt oM])
def jB(s:aa2):Nat->List Int->Bool
 |_,[]=>true
 |k,b::r=>if A8 s k=b then jB s (k+1) r else false
def DC(s:aa2)(i:Nat)(b:List Int):Bool:= !decide (b=[])&&decide (i+b.length<=s.size)&&jB s i b
def Gd(H0:d7)(lo:Nat)(s:aa2)(i:Nat)(l:List Int)(a:Option Addr)(c:Nat)(hv:eR H0 lo 1 (.slice a l.length c) l.length (l.map u8V))(hs:i+l.length<=s.size)(hz:s.size<=2000000)(r:Bool):
  ∀k e H2,(∃j:Nat,k=l.length-j/\j<=l.length/\e.g 0= .string s/\e.g 1=iV i/\e.g 2= .slice a l.length c/\e.g 7=iV j/\H2=H0/\jB s (i+j) (l.drop j)=r)->
  u7 (LE prog l7 (.loop RM) e H2) (fun o e H2=>H2=H0/\((o= .exit 0/\r=true)\/(o= .ret/\e.g 6= .bool false/\r=false))):=by
 refine i5 _ _ ?_;rintro k e H2 ⟨j,hk,hj,I,J,D,O,hH,h⟩;subst hH;rcases b:decide ((j:Int)<l.length)with _|_
 .have S:=dF b;have:l.drop j=[]:=dN oM;rw[this,jB]at h;refine J3 D O b ?_;exact i6 ⟨rfl,.inl ⟨rfl,h.symm⟩⟩
 .have S:=dT b;rcases hv with⟨_,h0,_⟩|⟨nb,X,h1,W,_,_⟩
  .omega
  obtain⟨rfl,_⟩:a=some ⟨nb,0,none⟩/\c=X:=by simpa using h1
  obtain⟨x,hx,hd⟩:=B8 (l:=l) (i:=j) oM;rw[hd,jB]at h;have nt:(j:Int).toNat=j:=tN j;have z:((i:Int)+j).toNat=i+j:=oM;have U:(l.map u8V)[j]?=some (.int .u8 x):=by rw[Aa,hx];rfl
  rcases E:decide (A8 s (i+j)=x)with _|_
  .have u:=dF E;rw[bt u]at h;refine J11 I J D O b W @wrap_small z @yD U E ?_;exact y9 ⟨rfl,.inr ⟨rfl,rfl,h.symm⟩⟩
  .have u:=dT E;rw[bJ u]at h;refine J11 I J D O b W @wrap_small z @yD U E ?_;exact d8 (k-1) oM ⟨j+1,oM,oM,I,J,D,rfl,rfl,h⟩
def tO(H:d7)(lo:Nat)(s:aa2)(i:Nat)(l:List Int)(v:aa3)(O:eR H lo 1 v l.length (l.map u8V))(W:i<=2000000)(X:l.length<=2000000)(U:s.size<=2000000):CL prog l7 133 [.string s,iV i,v] H=some (.bool (DC s i l),none):=by
 obtain⟨a,c,rfl⟩:=O.slice;have e0:decide ((l.length:Int)=0)=decide (l=[]):=wG.2 (by rw[<-pF];omega);have I:decide ((s.size:Int)<(i:Int)+l.length)= !decide (i+l.length<=s.size):=by
  rw[<-decide_not];exact wG.2 oM
 rw[i7 Qk rfl _ sM,DC];rcases h:decide (l=[])with _|_
 .rcases u:decide (i+l.length<=s.size)with _|_
  .exact J5 e0 I h u @wrap_small trivial
  .refine J5 e0 I h u @wrap_small ?_;refine i8 (F:=fun z=>t6 _ _ _ (t7 (inBlock 0 z) _)=_) (Gd ⟨H.bs,H.n⟩ lo s i l a c (O.mono lR (fun _ _=>rfl)) (dT u) U (jB s i l) l.length _ _ ⟨0,rfl,oM,rfl,rfl,rfl,rfl,rfl,rfl⟩) ?_;rintro o e' H' ⟨J,⟨D,E⟩|⟨D,S,E⟩⟩
   .exact J3 D E J trivial
   .exact J4 D S E J trivial
 .exact J2 e0 h trivial
def tq(b:UInt8):(⟨#[b]⟩:aa2).size=1:=rfl
def Re(H0:d7)(s u:aa2)(D n h:Nat)(ht:h<=4)(r:Unit):∀k e H2,(∃lo z:aa2,k=h-lo.size/\lo.size<=h/\z.size=lo.size/\e.g 0= .string s/\e.g 1=iV D/\e.g 5=iV n/\e.g 6=iV h/\e.g 7= .string u/\e.g 8= .string lo/\e.g 9= .string z/\H2=H0)->
  u7 (LE prog l7 (.loop RN) e H2) (fun o e H2=>o= .exit 2/\H2=H0/\e.g 0= .string s/\e.g 1=iV D/\e.g 5=iV n/\e.g 6=iV h/\e.g 7= .string u/\∃lo z:aa2,lo.size=h/\z.size=h/\e.g 8= .string lo/\e.g 9= .string z):=by
 refine i5 _ _ ?_;rintro k e H2 ⟨lo,z,hk,hl,hh,S,U,W,E,X,I,f9,hH⟩;rcases b:decide ((lo.size:Int)<h)with _|_
 .have J:=dF b;refine J3 E I b ?_;exact i6 ⟨rfl,hH,S,U,W,E,X,lo,z,oM,oM,I,f9⟩
 .have J:=dT b;have O:=tq 128;have z2:=tq 191;refine J5 E I f9 b @bM ?_;exact d8 (k-1) oM ⟨lo++⟨#[128]⟩,z++⟨#[191]⟩,by rw[Dr,O];omega,by rw[Dr,O];omega,by rw[Dr,Dr,O,z2];omega,S,U,W,E,X,rfl,rfl,hH⟩
def Rf(H0:d7)(s O:aa2)(h n u:Nat)(va vb:Int)(hs:h+n=s.size)(hz:s.size<=1048576):∀k e H2,(∃(i:Nat)(t:Bool),k=n-i/\1<=i/\i<=n/\e.g 0= .string s/\e.g 1=iV h/\e.g 5=iV n/\e.g 6=iV u/\e.g 7= .string O/\e.g 10=iV va/\e.g 11=iV vb/\e.g 12= .bool t/\e.g 13=iV i/\H2=H0)->
  u7 (LE prog l7 (.loop RO) e H2) (fun o e H2=>o= .exit 4/\H2=H0/\e.g 0= .string s/\e.g 1=iV h/\e.g 5=iV n/\e.g 6=iV u/\e.g 7= .string O/\e.g 10=iV va/\e.g 11=iV vb/\∃t:Bool,e.g 12= .bool t):=by
 refine i5 _ _ ?_;rintro k e H2 ⟨i,t,hk,a2,hi,S,U,J,W,X,z,D,E,I,hH⟩;rcases b:decide ((i:Int)<n)with _|_
 .refine J3 J I b ?_;exact i6 ⟨rfl,hH,S,U,J,W,X,z,D,t,E⟩
 .have a1:=dT b;have nt:((h:Int)+i).toNat=h+i:=oM;cases t with
  |false=>
   refine J5 J E I b @wrap_small ?_;exact d8 (k-1) oM ⟨i+1,_,oM,oM,oM,S,U,J,W,X,z,D,rfl,rfl,hH⟩
  |true=>
   rcases b2:decide ((128:Int)<=A8 s (h+i))with _|_
   .refine J9 S U J E I b @wrap_small nt b2 ?_;exact d8 (k-1) oM ⟨i+1,_,oM,oM,oM,S,U,J,W,X,z,D,rfl,rfl,hH⟩
   .refine J9 S U J E I b @wrap_small nt b2 ?_;exact d8 (k-1) oM ⟨i+1,_,oM,oM,oM,S,U,J,W,X,z,D,rfl,rfl,hH⟩
def te:∀l:List Int,((l.map u8V).mapM fT)=some (l.map fun n=>UInt8.ofNat n.toNat)
 |[]=>rfl
 |n::l=>by
  rw[xC,KW,te l];rfl
def GB(H:d7)(lo:Nat)(l:List Int)(a:Option Addr)(c:Nat)(h:eR H lo 1 (.slice a l.length c) l.length (l.map u8V)):∃z:aa2,z.size=l.length/\bN prog H 140 9 (.slice a l.length c)=some (.string z,none):=by
 obtain⟨a',u,e,D⟩:=h.cells oM;obtain⟨rfl,rfl⟩:a=a'/\c=u:=by simpa using e
 refine⟨⟨(l.map fun n=>UInt8.ofNat n.toNat).toArray⟩,by simp [ByteArray.size],?_⟩;simp only[bN,uq,ty9,ty5,D,pB,te]
def rO(H:d7)(z:aa2):bN prog H 9 140 (.string z)=some (sL H.n z.size (z.size+1),some (H.push (bC (z.data.toList.map X2) 1))):=by
 simp only[bN,uq,ty9,ty5]
def JL(z:aa2):z.data.toList.map X2=(z.data.toList.map fun b=>(b.toNat:Int)).map u8V:=by
 rw[ZV];rfl
def yw{P:Program}(t:TypeId)(a b:Int)(h:b≠0):L3 P .quo t (.int .i64 a) (.int .i64 b)=some (.int .i64 (IntKind.wrap .i64 (a.tdiv b))):=by
 simp only[L3,jd];rw[bt h]
def Rg(H:d7)(s u:aa2)(I n D:Nat)(va vb:Int)(hf:u.size<=1048576):∀k e H2,(∃i:Nat,k=64-i/\i<=64/\e.g 0= .string s/\e.g 1=iV I/\e.g 5=iV n/\e.g 6=iV D/\e.g 7= .string u/\e.g 10=iV va/\e.g 11=iV vb/\e.g 15=iV i/\d9 H.n H H2/\H.n<=H2.low)->
  u7 (LE prog l7 (.loop Kp) e H2) (fun o e H2=>d9 H.n H H2/\H.n<=H2.low/\((o= .exit 6/\e.g 0= .string s/\e.g 1=iV I/\e.g 5=iV n/\e.g 6=iV D)\/(o= .ret/\e.g 4= .bool true))):=by
 refine i5 _ _ ?_;rintro k e H2 ⟨i,hk,hi,f0,f1,f5,f6,f7,O,S,J,hS,hl⟩;rcases b:decide ((i:Int)<64)with _|_
 .refine J2 J b ?_;exact i6 ⟨hS,hl,.inl ⟨rfl,f0,f1,f5,f6⟩⟩
 have b6:=dT b;have a8:=hS.n;have b1:∀(r:Int),∃w h E,CL prog l7 132 [iV r] H2=dk w h/\h.getD H2=E/\eR E H2.n 1 w (R5 r).length ((R5 r).map u8V)/\d9 H2.n H2 E:=fun r=>by
  obtain⟨w,h,E,h1,h2,h3,h4⟩:=Fu H2 r;exact⟨w,h,E,h1,h2,h3,h4⟩
 have body:∀(r:Int)(e':Env),e'.g 16=iV r->e'.g 0= .string s->e'.g 1=iV I->e'.g 5=iV n->e'.g 6=iV D->e'.g 7= .string u->e'.g 10=iV va->e'.g 11=iV vb->e'.g 15=iV i->
   u7 (t7 (inBlock 7 (LE prog l7 EV e' H2)) (LE prog l7 RQ)) (ci k (fun k e H2=>∃i:Nat,k=64-i/\i<=64/\e.g 0= .string s/\e.g 1=iV I/\e.g 5=iV n/\e.g 6=iV D/\e.g 7= .string u/\e.g 10=iV va/\e.g 11=iV vb/\e.g 15=iV i/\d9 H.n H H2/\H.n<=H2.low) (fun o e H2=>d9 H.n H H2/\H.n<=H2.low/\((o= .exit 6/\e.g 0= .string s/\e.g 1=iV I/\e.g 5=iV n/\e.g 6=iV D)\/(o= .ret/\e.g 4= .bool true)))):=by
  intro r e' X g0 g1 g5 g6 g7 a4 a5 a6;obtain⟨w,h,E,hc,hh,hO,U⟩:=b1 r;obtain⟨a,c,rfl⟩:=hO.slice;have a1:d9 H.n H E:=hS.trans (U.wk a8);have b5:=a1.n;have a2:H.n<=E.low:=U.lowAll _ a8 hl;rcases b2:decide (((R5 r).length:Int)=D)with _|_
  .rw[EV];refine J7 g6 a6 X hc hh b2 @wrap_small ?_;exact d8 (k-1) oM ⟨i+1,oM,oM,g0,g1,g5,g6,g7,a4,a5,rfl,a1,a2⟩
  .obtain⟨z,hz,a9⟩:=GB E H2.n (R5 r) a c hO;have b7:(R5 r).length<=4:=by unfold R5;split<;>(try split)<;>(try split)<;>(try split)<;>simp
   have zx:=tq 120;have b0:(u.data.toList.map fun b=>(b.toNat:Int)).length=u.size:=by rw[ED,KX];rfl
   have b4:=tO (E.push (bC (u.data.toList.map X2) 1)) E.n (z++⟨#[120]⟩) 0 (u.data.toList.map fun b=>(b.toNat:Int)) (sL E.n u.size (u.size+1)) (.inr ⟨E.n,u.size+1,by rw[b0],by rw[<-JL];exact j6,lR,by rw[ED,yD]⟩) oM (by rw[b0];omega) (by rw[Dr];omega);have W:CL prog l7 133 [.string (z++⟨#[120]⟩),iV 0,sL E.n u.size (u.size+1)] (E.push (bC (u.data.toList.map X2) 1))=_:=b4;have a7:d9 H.n H (E.push (bC (u.data.toList.map X2) 1)):=a1.trans (d9.push b5);rw[EV];rcases b3:DC (z++⟨#[120]⟩) 0 (u.data.toList.map fun b=>(b.toNat:Int))with _|_
   .refine J13 g6 g7 a6 X hc hh b2 @wrap_small a9 @bM @rO W b3 ?_;exact d8 (k-1) oM ⟨i+1,oM,oM,g0,g1,g5,g6,g7,a4,a5,rfl,a7,a2⟩
   .refine J11 g6 g7 X hc hh b2 a9 @bM @rO W b3 ?_;exact y9 ⟨a7,a2,.inr ⟨rfl,rfl⟩⟩
 rcases a3:decide ((i:Int)=63)with _|_
 .refine J6 O S J b @yw a3 ?_;exact body _ _ rfl f0 f1 f5 f6 f7 O S J
 .refine J6 O S J b @yw a3 ?_;exact body _ _ rfl f0 f1 f5 f6 f7 O S J
def Br{P:Program}(H:d7)(t:TypeId)(s:aa2)(i:Nat)(u:P.underlying t=some .string)(h:i<=s.size):L9 P H t (.string s) (some (.int .i64 i)) none none=some (.string (s.extract i s.size)):=by
 simp only[L9,u,bnd,Int.natCast_nonneg,jd,xA];rw[bJ ⟨h,lR⟩]
def JY(H:d7)(s:aa2)(at_ n:Nat)(k:Nat)(e:Env)(H2:d7):Prop:=
 ∃total:Nat,k=5-total/\n+1<=total/\total<=5/\e.g 0= .string s/\e.g 1=iV at_/\e.g 5=iV n/\e.g 6=iV total/\d9 H.n H H2/\H.n<=H2.low
def Ka(H:d7)(o:Out)(e:Env)(H2:d7):Prop:=H.n<=H2.low/\(o= .exit 0\/(o= .ret/\e.g 4= .bool true))
def zP{H:d7}{s:aa2}{u n k h:Nat}(W:k=5-h)(S:n+1<=h)(U:h<=4){e:Env}{H2:d7}(z:e.g 0= .string s)(D:e.g 1=iV u)(E:e.g 5=iV n)(I:e.g 6=iV h)(J:d9 H.n H H2)(O:H.n<=H2.low):
  u7 (LE prog l7 qN e H2) (ci k (JY H s u n) (Ka H)):=by
 refine J2 I @wrap_small ?_;exact d8 (k-1) oM ⟨h+1,oM,oM,oM,z,D,E,rfl,J,O⟩
def GH{H:d7}{s:aa2}{E n k W:Nat}{va vb:Int}{a1:aa2}{t:Bool}(hs:E+n=s.size)(a7:1<=n)(hf:a1.size<=1048576)(hz:s.size<=1048576)(hk:k=5-W)(h1:n+1<=W)(h4:W<=4){e:Env}{H2:d7}(u:e.g 0= .string s)(D:e.g 1=iV E)(S:e.g 5=iV n)(U:e.g 6=iV W)
  (f7:e.g 7= .string a1) (I:e.g 10=iV va) (J:e.g 11=iV vb) (O:e.g 12= .bool t) (X:d9 H.n H H2) (hl:H.n<=H2.low):
  u7 (t7 (inBlock 1 (LE prog l7 Oc e H2)) (LE prog l7 qN)) (ci k (JY H s E n) (Ka H)):=by
 have nt:(E:Int).toNat=E:=tN E;have h:∀e':Env,e'.g 0= .string s->e'.g 1=iV E->e'.g 5=iV n->e'.g 6=iV W->e'.g 7= .string a1->e'.g 10=iV va->e'.g 11=iV vb->e'.g 15=iV 0->
   u7 (t7 (inBlock 1 (inBlock 6 (LE prog l7 (.loop Kp) e' H2))) (LE prog l7 qN)) (ci k (JY H s E n) (Ka H)):=by
  intro e' g0 g1 g5 g6 g7 a3 a4 a5;refine fP (F:=fun z=>t7 (inBlock 1 (inBlock 6 z)) _) (Rg H s a1 E n W va vb hf 64 e' H2 ⟨0,rfl,oM,g0,g1,g5,g6,g7,a3,a4,a5,X,hl⟩) ?_;rintro o e3 H3 ⟨a6,a2,⟨ho,q0,q1,q5,q6⟩|⟨ho,q4⟩⟩
  .simp only[ho,iS,jd,jP,gU];exact zP hk h1 h4 q0 q1 q5 q6 a6 a2
  .simp only[ho,pW,uo,iB];exact y9 ⟨a2,.inr ⟨rfl,q4⟩⟩
 have skip:∀e':Env,e'.g 0= .string s->e'.g 1=iV E->e'.g 5=iV n->e'.g 6=iV W->u7 (LE prog l7 qN e' H2) (ci k (JY H s E n) (Ka H)):=fun e' g0 g1 g5 g6=>zP hk h1 h4 g0 g1 g5 g6 X hl;obtain rfl|rfl|rfl:W=2\/W=3\/W=4:=oM
 .cases t
  .skip
   rcases iW (A8 s E) 192 with k0|k0
   .refine J7 u D U O nt @de0 @wrap_small ?_
    first|exact d8 (k-1) oM ⟨3,oM,oM,oM,u,D,S,rfl,X,hl⟩|exact h _ u D S U f7 I J rfl
   rcases iW (A8 s E) 224 with k1|k1
   .refine J7 u D U O nt @wrap_small dlB ?_
    first|exact d8 (k-1) oM ⟨3,oM,oM,oM,u,D,S,rfl,X,hl⟩|exact h _ u D S U f7 I J rfl
   rcases iW (A8 s E) 240 with k2|k2
   .refine J7 u D U O nt @wrap_small dlB ?_
    first|exact d8 (k-1) oM ⟨3,oM,oM,oM,u,D,S,rfl,X,hl⟩|exact h _ u D S U f7 I J rfl
   rcases iW (A8 s E) 248 with k3|k3
   .refine J7 u D U O nt @wrap_small dlB ?_
    first|exact d8 (k-1) oM ⟨3,oM,oM,oM,u,D,S,rfl,X,hl⟩|exact h _ u D S U f7 I J rfl
   refine J7 u D U O nt @wrap_small dlB ?_
   first|exact d8 (k-1) oM ⟨3,oM,oM,oM,u,D,S,rfl,X,hl⟩|exact h _ u D S U f7 I J rfl
  .skip
   rcases iW (A8 s E) 192 with k0|k0
   .refine J7 u D U O nt @de0 @wrap_small ?_
    first|exact d8 (k-1) oM ⟨3,oM,oM,oM,u,D,S,rfl,X,hl⟩|exact h _ u D S U f7 I J rfl
   rcases iW (A8 s E) 224 with k1|k1
   .refine J6 u D U O nt dlB ?_
    first|exact d8 (k-1) oM ⟨3,oM,oM,oM,u,D,S,rfl,X,hl⟩|exact h _ u D S U f7 I J rfl
   rcases iW (A8 s E) 240 with k2|k2
   .refine J7 u D U O nt @wrap_small dlB ?_
    first|exact d8 (k-1) oM ⟨3,oM,oM,oM,u,D,S,rfl,X,hl⟩|exact h _ u D S U f7 I J rfl
   rcases iW (A8 s E) 248 with k3|k3
   .refine J7 u D U O nt @wrap_small dlB ?_
    first|exact d8 (k-1) oM ⟨3,oM,oM,oM,u,D,S,rfl,X,hl⟩|exact h _ u D S U f7 I J rfl
   refine J7 u D U O nt @wrap_small dlB ?_
   first|exact d8 (k-1) oM ⟨3,oM,oM,oM,u,D,S,rfl,X,hl⟩|exact h _ u D S U f7 I J rfl
 .cases t
  .skip
   rcases iW (A8 s E) 192 with k0|k0
   .refine J7 u D U O nt @de0 @wrap_small ?_
    first|exact d8 (k-1) oM ⟨4,oM,oM,oM,u,D,S,rfl,X,hl⟩|exact h _ u D S U f7 I J rfl
   rcases iW (A8 s E) 224 with k1|k1
   .refine J7 u D U O nt @de0 @wrap_small ?_
    first|exact d8 (k-1) oM ⟨4,oM,oM,oM,u,D,S,rfl,X,hl⟩|exact h _ u D S U f7 I J rfl
   rcases iW (A8 s E) 240 with k2|k2
   .refine J7 u D U O nt @wrap_small dlB ?_
    first|exact d8 (k-1) oM ⟨4,oM,oM,oM,u,D,S,rfl,X,hl⟩|exact h _ u D S U f7 I J rfl
   rcases iW (A8 s E) 248 with k3|k3
   .refine J7 u D U O nt @wrap_small dlB ?_
    first|exact d8 (k-1) oM ⟨4,oM,oM,oM,u,D,S,rfl,X,hl⟩|exact h _ u D S U f7 I J rfl
   refine J7 u D U O nt @wrap_small dlB ?_
   first|exact d8 (k-1) oM ⟨4,oM,oM,oM,u,D,S,rfl,X,hl⟩|exact h _ u D S U f7 I J rfl
  .skip
   rcases iW (A8 s E) 192 with k0|k0
   .refine J7 u D U O nt @de0 @wrap_small ?_
    first|exact d8 (k-1) oM ⟨4,oM,oM,oM,u,D,S,rfl,X,hl⟩|exact h _ u D S U f7 I J rfl
   rcases iW (A8 s E) 224 with k1|k1
   .refine J7 u D U O nt @de0 @wrap_small ?_
    first|exact d8 (k-1) oM ⟨4,oM,oM,oM,u,D,S,rfl,X,hl⟩|exact h _ u D S U f7 I J rfl
   rcases iW (A8 s E) 240 with k2|k2
   .refine J6 u D U O nt dlB ?_
    first|exact d8 (k-1) oM ⟨4,oM,oM,oM,u,D,S,rfl,X,hl⟩|exact h _ u D S U f7 I J rfl
   rcases iW (A8 s E) 248 with k3|k3
   .refine J7 u D U O nt @wrap_small dlB ?_
    first|exact d8 (k-1) oM ⟨4,oM,oM,oM,u,D,S,rfl,X,hl⟩|exact h _ u D S U f7 I J rfl
   refine J7 u D U O nt @wrap_small dlB ?_
   first|exact d8 (k-1) oM ⟨4,oM,oM,oM,u,D,S,rfl,X,hl⟩|exact h _ u D S U f7 I J rfl
 .cases t
  .skip
   rcases iW (A8 s E) 192 with k0|k0
   .refine J7 u D U O nt @de0 @wrap_small ?_
    first|exact d8 (k-1) oM ⟨5,oM,oM,oM,u,D,S,rfl,X,hl⟩|exact h _ u D S U f7 I J rfl
   rcases iW (A8 s E) 224 with k1|k1
   .refine J7 u D U O nt @de0 @wrap_small ?_
    first|exact d8 (k-1) oM ⟨5,oM,oM,oM,u,D,S,rfl,X,hl⟩|exact h _ u D S U f7 I J rfl
   rcases iW (A8 s E) 240 with k2|k2
   .refine J7 u D U O nt @de0 @wrap_small ?_
    first|exact d8 (k-1) oM ⟨5,oM,oM,oM,u,D,S,rfl,X,hl⟩|exact h _ u D S U f7 I J rfl
   rcases iW (A8 s E) 248 with k3|k3
   .refine J7 u D U O nt @wrap_small dlB ?_
    first|exact d8 (k-1) oM ⟨5,oM,oM,oM,u,D,S,rfl,X,hl⟩|exact h _ u D S U f7 I J rfl
   refine J7 u D U O nt @wrap_small dlB ?_
   first|exact d8 (k-1) oM ⟨5,oM,oM,oM,u,D,S,rfl,X,hl⟩|exact h _ u D S U f7 I J rfl
  .skip
   rcases iW (A8 s E) 192 with k0|k0
   .refine J7 u D U O nt @de0 @wrap_small ?_
    first|exact d8 (k-1) oM ⟨5,oM,oM,oM,u,D,S,rfl,X,hl⟩|exact h _ u D S U f7 I J rfl
   rcases iW (A8 s E) 224 with k1|k1
   .refine J7 u D U O nt @de0 @wrap_small ?_
    first|exact d8 (k-1) oM ⟨5,oM,oM,oM,u,D,S,rfl,X,hl⟩|exact h _ u D S U f7 I J rfl
   rcases iW (A8 s E) 240 with k2|k2
   .refine J7 u D U O nt @de0 @wrap_small ?_
    first|exact d8 (k-1) oM ⟨5,oM,oM,oM,u,D,S,rfl,X,hl⟩|exact h _ u D S U f7 I J rfl
   rcases iW (A8 s E) 248 with k3|k3
   .refine J6 u D U O nt dlB ?_
    first|exact d8 (k-1) oM ⟨5,oM,oM,oM,u,D,S,rfl,X,hl⟩|exact h _ u D S U f7 I J rfl
   refine J7 u D U O nt @wrap_small dlB ?_
   first|exact d8 (k-1) oM ⟨5,oM,oM,oM,u,D,S,rfl,X,hl⟩|exact h _ u D S U f7 I J rfl
def Pq(H:d7)(s:aa2)(u:Nat)(ha:u<=s.size)(hz:s.size<=1048576):∃t:Bool,CL prog l7 134 [.string s,iV u] H=some (.bool t,none):=by
 obtain⟨n,hn⟩:=eY (s.size-u);have D:(s.size:Int)-u=n:=oM;rw[i7 pS rfl _ sM];by_cases h1:n<1
 .refine J3 D @wrap_small @dl1 ?_;exact⟨_,rfl⟩
 by_cases h3:3<n
 .refine J3 D @wrap_small dlB ?_;exact⟨_,rfl⟩
 refine J3 D @wrap_small @dl0 ?_;have hx:(s.extract u s.size).size=n:=by rw[ByteArray.size_extract];omega
 have E:∀k e H2,JY H s u n k e H2->u7 (LE prog l7 (.loop RP) e H2) (Ka H):=by
  refine i5 _ _ ?_;rintro k e H2 ⟨h,hk,a1,b0,f0,f1,f5,O,hS,U⟩;rcases b:decide ((h:Int)<=4)with _|_
  .refine J2 O b ?_;exact i6 ⟨U,.inl rfl⟩
  have a7:=dT b;have X:=Br (P:=prog) H2 9 s u ty9.2.2.2.2.2.2 ha;refine J5 f0 f1 O b X ?_;refine fP (F:=fun z=>t7 (inBlock 1 (t7 (inBlock 2 z) _)) _) (Re H2 s (s.extract u s.size) u n h oM () (h-n) _ _ ⟨s.extract u s.size,s.extract u s.size,by rw[hx],oM,rfl,f0,f1,f5,O,rfl,rfl,rfl,rfl⟩) ?_;rintro o e1 H3 ⟨I,hH,g0,g1,g5,g6,g7,lo,J,a9,a8,g8,g9⟩;have v1:=pq H2 lo 0 h oM oM oM oM;have v2:=pq H2 J 0 h oM oM oM oM;have a5:CL prog l7 131 [.string lo,iV 0,iV h] H2=some (.int .i64 (qH lo 0 h),none):=v1;have a6:CL prog l7 131 [.string J,iV 0,iV h] H2=some (.int .i64 (qH J 0 h),none):=v2;refine J7 I hH g6 g8 g9 a5 a6 ?_;refine fP (F:=fun z=>t7 (inBlock 1 (t7 (inBlock 4 z) _)) _) (Rf H2 s (s.extract u s.size) u n h (qH lo 0 h) (qH J 0 h) oM hz (n-1) _ _ ⟨1,true,rfl,oM,oM,g0,g1,g5,g6,g7,rfl,rfl,rfl,rfl,rfl⟩) ?_;rintro o e2 H4 ⟨W,S,q0,q1,q5,q6,q7,a2,a3,t,a4⟩;simp only[W,S,iS,jd,gU];exact GH oM oM oM hz hk a1 oM q0 q1 q5 q6 q7 a2 a3 a4 hS U
 refine i8 (F:=fun z=>∃t:Bool,t6 _ _ _ (t7 (inBlock 0 z) _)=some (.bool t,none)) (E (5-(n+1)) _ _ ⟨n+1,rfl,oM,oM,rfl,rfl,rfl,rfl,d9.start H,lR⟩) ?_;rintro o e' H' ⟨U,I|⟨I,h4⟩⟩
 .refine J1 I ?_;exact⟨_,rfl⟩
 .refine J2 I h4 ?_;exact⟨_,rfl⟩
def N7(s:aa2)(i n:Nat):Int:=if n=1 then A8 s i else qH s i n
def pp(s:aa2)(i n:Nat):Bool:=decide ((R5 (N7 s i n)).length=n)&&DC s i (R5 (N7 s i n))
def Tw{r:Int}(h:(R5 r).length=1):0<=r/\r<128/\R5 r=[r]:=by
 unfold R5 at h ⊢;split at h
 .simp at h
 .rename_i c;rw[bt c];split at h
  next c1=>rw[bJ c1];exact⟨oM,c1,rfl⟩
  .split at h
   .simp at h
   .split at h<;>simp at h
def Tx{r:Int}(h:(R5 r).length=2):128<=r/\r<2048/\R5 r=[192+r / 64,128+r % 64]:=by
 unfold R5 at h ⊢;split at h
 .simp at h
 .rename_i c;rw[bt c];split at h
  .simp at h
  .rename_i c1;rw[bt c1];split at h
   next c2=>rw[bJ c2];exact⟨oM,c2,rfl⟩
   .split at h<;>simp at h
def Ty{r:Int}(h:(R5 r).length=3):2048<=r/\r<65536/\¬(55296<=r/\r<=57343)/\R5 r=[224+r / 4096,128+r / 64 % 64,128+r % 64]:=by
 unfold R5 at h ⊢;split at h
 .simp at h
 .rename_i c;rw[bt c];split at h
  .simp at h
  .rename_i c1;rw[bt c1];split at h
   .simp at h
   .rename_i c2;rw[bt c2];split at h
    next u=>rw[bJ u];exact⟨oM,u,oM,rfl⟩
    .simp at h
def Tz{r:Int}(h:(R5 r).length=4):65536<=r/\r<=1114111/\R5 r=[240+r / 262144,128+r / 4096 % 64,128+r / 64 % 64,128+r % 64]:=by
 unfold R5 at h ⊢;split at h
 .simp at h
 .rename_i c;rw[bt c];split at h
  .simp at h
  .rename_i c1;rw[bt c1];split at h
   .simp at h
   .rename_i c2;rw[bt c2];split at h
    .simp at h
    next u=>rw[bt u];exact⟨oM,oM,rfl⟩
def Ba{s:aa2}{i:Nat}{l:List Int}:DC s i l=true↔l≠ []/\i+l.length<=s.size/\jB s i l=true:=by simp [DC,and_assoc]
def E8{s:aa2}{k:Nat}{b:Int}{r:List Int}:jB s k (b::r)=true↔A8 s k=b/\jB s (k+1) r=true:=by
 rw[jB];split
 next h=>simp [h]
 next h=>simp [h]
def Po(s:aa2)(i n:Nat)(h1:1<=n)(h4:n<=4)(h:pp s i n=true):0<=N7 s i n/\i+n<=s.size/\dec s i=some ((N7 s i n).toNat,n):=by
 rw[pp,cA,eT]at h;obtain⟨D,u⟩:=h;rw[Ba,D]at u;obtain⟨_,hs,u⟩:=u;have q0:=bf s i;have q1:=bf s (i+1);have q2:=bf s (i+2);have q3:=bf s (i+3);have e0:=aR s i;have e1:=aR s (i+1);have e2:=aR s (i+2);have e3:=aR s (i+3);obtain rfl|rfl|rfl|rfl:n=1\/n=2\/n=3\/n=4:=oM
 .obtain⟨E,J,z⟩:=Tw D;have I:N7 s i 1=A8 s i:=rfl;rw[I]at E J ⊢;refine⟨E,hs,?_⟩;rw[dec,bJ oM,e0,xA]
 .obtain⟨E,J,z⟩:=Tx D;rw[z,E8,E8]at u;obtain⟨S,p1,_⟩:=u;have I:N7 s i 2=(A8 s i-192)*64+(A8 s (i+1)-128):=rfl;generalize N7 s i 2=v at*;have c1:Y2 s (i+1)=true:=N5.2 ⟨oM,oM⟩;refine⟨oM,hs,?_⟩;rw[dec,bt oM,bJ oM,bJ ⟨c1,oM⟩]
  congr 2;omega
 .obtain⟨E,J,W,z⟩:=Ty D;rw[z,E8,E8,E8]at u;obtain⟨S,p1,p2,_⟩:=u;have O:A8 s (i+2)=128+N7 s i 3 % 64:=p2;have I:N7 s i 3=((A8 s i-224)*64+(A8 s (i+1)-128))*64+(A8 s (i+2)-128):=rfl;generalize N7 s i 3=v at*;have c1:Y2 s (i+1)=true:=N5.2 ⟨oM,oM⟩;have c2:Y2 s (i+2)=true:=N5.2 ⟨oM,oM⟩;refine⟨oM,hs,?_⟩;rw[dec,bt oM,bt oM,bJ oM,bJ ⟨c1,c2,oM,oM⟩]
  congr 2;omega
 .obtain⟨E,J,z⟩:=Tz D;rw[z,E8,E8,E8,E8]at u;obtain⟨S,p1,p2,X,_⟩:=u;have O:A8 s (i+2)=128+N7 s i 4 / 64 % 64:=p2;have a1:A8 s (i+3)=128+N7 s i 4 % 64:=X;have I:N7 s i 4=(((A8 s i-240)*64+(A8 s (i+1)-128))*64+(A8 s (i+2)-128))*64+(A8 s (i+3)-128):=rfl;generalize N7 s i 4=v at*;have c1:Y2 s (i+1)=true:=N5.2 ⟨oM,oM⟩;have c2:Y2 s (i+2)=true:=N5.2 ⟨oM,oM⟩;have U:Y2 s (i+3)=true:=N5.2 ⟨oM,oM⟩;refine⟨oM,hs,?_⟩;rw[dec,bt oM,bt oM,bt oM,bJ oM,bJ ⟨c1,c2,U,oM,oM⟩]
  congr 2;omega
def xH(s:aa2)(i c n:Nat)(hi:i<s.size)(h:dec s i=some (c,n)):1<=n/\n<=4/\i+n<=s.size/\pp s i n=true/\N7 s i n=(c:Int):=by
 have q0:=bf s i;have q1:=bf s (i+1);have q2:=bf s (i+2);have q3:=bf s (i+3);have e0:=aR s i;have e1:=aR s (i+1);have e2:=aR s (i+2);have e3:=aR s (i+3);have ok:∀(n:Nat)(l:List Int),R5 (N7 s i n)=l->l≠ []->l.length=n->i+n<=s.size->jB s i l=true->pp s i n=true:=by
  intro n l O S U W z;rw[pp,O,cA,eT,Ba,U];exact⟨rfl,S,W,z⟩
 unfold dec at h;split at h
 .cases h;rename_i O;have E:N7 s i 1=A8 s i:=rfl;refine⟨oM,oM,oM,ok 1 [A8 s i] ?_ sM rfl oM (E8.2 ⟨rfl,rfl⟩),by rw[E,e0]⟩;rw[E,R5,bt oM,bJ oM]
 .rename_i O;split at h
  .rename_i S;split at h
   next U=>cases h;obtain⟨X,u⟩:=N5.1 U.1;have E:N7 s i 2=(A8 s i-192)*64+(A8 s (i+1)-128):=rfl;have D:N7 s i 2=((bAt s i % 32*64+bAt s (i+1) % 64:Nat):Int):=oM;generalize hw:N7 s i 2=v at*;refine⟨oM,oM,oM,ok 2 [192+v / 64,128+v % 64] ?_ sM rfl oM (E8.2 ⟨oM,E8.2 ⟨oM,rfl⟩⟩),D⟩;rw[hw,R5,bt oM,bt oM,bJ oM]
   .cases h
  .rename_i S;split at h
   .rename_i W;split at h
    next z=>cases h;obtain⟨X,u⟩:=N5.1 z.1;obtain⟨g2,J⟩:=N5.1 z.2.1;have E:N7 s i 3=((A8 s i-224)*64+(A8 s (i+1)-128))*64+(A8 s (i+2)-128):=rfl;have D:N7 s i 3=((bAt s i % 16*4096+bAt s (i+1) % 64*64+bAt s (i+2) % 64:Nat):Int):=oM;have a2:=z.2.2;generalize hw:N7 s i 3=v at*;refine⟨oM,oM,oM,ok 3 [224+v / 4096,128+v / 64 % 64,128+v % 64] ?_ sM rfl oM (E8.2 ⟨oM,E8.2 ⟨oM,E8.2 ⟨by show A8 s (i+2)=_;omega,rfl⟩⟩⟩),D⟩;rw[hw,R5,bt oM,bt oM,bt oM,bJ oM]
    .cases h
   .rename_i W;split at h
    .rename_i h6;split at h
     next I=>cases h;obtain⟨X,u⟩:=N5.1 I.1;obtain⟨g2,J⟩:=N5.1 I.2.1;obtain⟨g3,a1⟩:=N5.1 I.2.2.1;have a3:=I.2.2.2;have E:N7 s i 4=(((A8 s i-240)*64+(A8 s (i+1)-128))*64+(A8 s (i+2)-128))*64+(A8 s (i+3)-128):=rfl;have D:N7 s i 4=((bAt s i % 8*262144+bAt s (i+1) % 64*4096+bAt s (i+2) % 64*64+bAt s (i+3) % 64:Nat):Int):=oM;generalize hw:N7 s i 4=v at*;refine⟨oM,oM,oM,ok 4 [240+v / 262144,128+v / 4096 % 64,128+v / 64 % 64,128+v % 64] ?_ sM rfl oM (E8.2 ⟨oM,E8.2 ⟨oM,E8.2 ⟨by show A8 s (i+2)=_;omega,E8.2 ⟨by show A8 s (i+3)=_;omega,rfl⟩⟩⟩⟩),D⟩;rw[hw,R5,bt oM,bt oM,bt oM,bt oM]
     .cases h
    .cases h
def MA(H:d7)(s:aa2)(i:Nat)(o:Out)(e:Env)(H2:d7):Prop:=
 H.n<=H2.low/\d9 H.n H H2/\((o= .exit 0/\dec s i=none/\e.g 0= .string s/\e.g 1=iV i)\/(o= .ret/\∃c n:Nat,dec s i=some (c,n)/\e.g 4=iV c/\e.g 5=iV n/\e.g 6=iV 0))
def IH(H:d7)(s:aa2)(i:Nat)(hi:i<s.size)(hz:s.size<=1048576):∀k e H2,(∃n:Nat,k=5-n/\1<=n/\n<=5/\(∀m,1<=m->m<n->i+m<=s.size->pp s i m=false)/\e.g 0= .string s/\e.g 1=iV i/\e.g 7=iV n/\d9 H.n H H2/\H.n<=H2.low)->
  u7 (LE prog l7 (.loop Rx) e H2) (MA H s i):=by
 refine i5 _ _ ?_;rintro k e H2 ⟨n,hk,h1,h5,S,J,O,X,hS,hl⟩;have u:(∀m,1<=m->m<=4->i+m<=s.size->pp s i m=false)->dec s i=none:=by
  intro a3;cases hd:dec s i with
  |none=>rfl
  |some q=>
   obtain⟨c,m⟩:=q;obtain⟨m1,m4,ms,mo,_⟩:=xH s i c m hi hd;rw[a3 m m1 m4 ms]at mo;cases mo
 rcases U:decide ((n:Int)<=4)with _|_
 .have hb:=dF U;refine J2 X U ?_;exact i6 ⟨hl,hS,.inl ⟨rfl,u fun m a b c=>S m a oM c,J,O⟩⟩
 have a8:=dT U;rcases b2:decide ((i:Int)+n<=s.size)with _|_
 .have hb:=dF b2;refine J6 J O X U b2 @wrap_small ?_;exact i6 ⟨hl,hS,.inl ⟨rfl,u fun m a b c=>S m a oM c,J,O⟩⟩
 have a9:=dT b2;have nt:(i:Int).toNat=i:=tN i;have q0:=U2 s i;have a2:=hS.n;have qv:=DD s i n;have I:∀e':Env,e'.g 0= .string s->e'.g 1=iV i->e'.g 7=iV n->e'.g 8=iV (N7 s i n)->u7 (t7 (inBlock 1 (LE prog l7 Ko e' H2)) (LE prog l7 Ry)) (ci k (fun k e H2=>∃n:Nat,k=5-n/\1<=n/\n<=5/\(∀m,1<=m->m<n->i+m<=s.size->pp s i m=false)/\e.g 0= .string s/\e.g 1=iV i/\e.g 7=iV n/\d9 H.n H H2/\H.n<=H2.low) (MA H s i)):=by
  intro e' g0 g1 g7 g8;obtain⟨w,h,H3,hc,hh,hO,D⟩:=Fu H2 (N7 s i n);have a1:d9 H.n H H3:=hS.trans (D.wk a2);have a4:H.n<=H3.low:=D.lowAll _ a2 hl;have b0:(R5 (N7 s i n)).length<=4:=by unfold R5;split<;>(try split)<;>(try split)<;>(try split)<;>simp
  have z:=tO H3 H2.n s i (R5 (N7 s i n)) w hO oM oM oM;obtain⟨a,c,rfl⟩:=hO.slice;have en:decide (((R5 (N7 s i n)).length:Int)=n)=decide ((R5 (N7 s i n)).length=n):=wG.2 oM;have E:pp s i n=false->∀e2:Env,e2.g 0= .string s->e2.g 1=iV i->e2.g 7=iV ((n:Int)+1)->ci k (fun k e H2=>∃n:Nat,k=5-n/\1<=n/\n<=5/\(∀m,1<=m->m<n->i+m<=s.size->pp s i m=false)/\e.g 0= .string s/\e.g 1=iV i/\e.g 7=iV n/\d9 H.n H H2/\H.n<=H2.low) (MA H s i) .normal e2 H3:=fun a5 e2 k0 k1 k7=>
   d8 (k-1) oM ⟨n+1,oM,oM,oM,fun m a b c=>by
    by_cases hm:m=n
    .rw[hm];exact a5
    .exact S m a oM c,k0,k1,k7,a1,a4⟩
  rw[Ko];rcases W:decide ((R5 (N7 s i n)).length=n)with _|_
  .refine J7 g7 g8 hc hh en W @wrap_small ?_;exact E (by rw[pp,W];rfl) _ g0 g1 rfl
  .rcases b4:DC s i (R5 (N7 s i n))with _|_
   .rw[b4]at z;refine J10 g0 g1 g7 g8 hc hh en W z @wrap_small ?_;exact E (by rw[pp,W,b4];rfl) _ g0 g1 rfl
   .rw[b4]at z;obtain⟨r0,_,rd⟩:=Po s i n h1 oM (by rw[pp,W,b4];rfl);refine J9 g0 g1 g7 g8 hc hh en W z ?_;refine y9 ⟨a4,a1,.inr ⟨rfl,_,n,rd,?_,rfl,rfl⟩⟩;rw[DR r0];rfl
 rcases b5:decide (1<(n:Int))with _|_
 .have a6:=dF b5;have a7:n=1:=oM;refine J8 J O X U b2 b5 @wrap_small nt ?_;exact I _ J O X (by rw[N7,bJ a7];rfl)
 .have a6:=dT b5;have hv:=pq H2 s i n oM oM oM oM;refine J9 J O X U b2 b5 @wrap_small nt hv ?_;exact I _ J O X (by rw[N7,bt oM];rfl)
def Mh(H:d7)(s:aa2)(i:Nat)(hi:i<s.size)(O:s.size<=1048576):(∀c n,dec s i=some (c,n)->CL prog l7 109 [.string s,iV i] H=some (.tuple #[iV c,iV n,iV 0],none))/\(dec s i=none->∃q:Int,q≠0/\CL prog l7 109 [.string s,iV i] H=some (.tuple #[iV 0,iV 0,iV q],none)):=by
 have S:decide ((i:Int)<0)=false:=dt oM;have U:decide ((s.size:Int)<=i)=false:=dt oM;rw[i7 KD rfl _ sM];refine J2 S U ?_;refine i8 (F:=fun z=>(∀c n,dec s i=some (c,n)->t6 _ _ _ (t7 (inBlock 0 z) _)=some (.tuple #[iV c,iV n,iV 0],none))/\(dec s i=none->∃q:Int,q≠0/\t6 _ _ _ (t7 (inBlock 0 z) _)=some (.tuple #[iV 0,iV 0,iV q],none))) (IH H s i hi O 4 _ _ ⟨1,rfl,oM,oM,fun m a b=>oM,rfl,rfl,rfl,d9.start H,lR⟩) ?_;rintro o e' H' ⟨hl,hS,⟨D,u,E,I⟩|⟨D,c,n,u,W,X,h6⟩⟩
 .refine⟨fun c n h=>(by rw[u]at h;cases h),fun _=>?_⟩;obtain⟨t,J⟩:=Pq H' s i oM O;cases t with
  |true=>
   refine⟨7,by decide,?_⟩;exact J4 D E I J trivial
  |false=>
   refine⟨2,by decide,?_⟩;exact J4 D E I J trivial
 .refine⟨fun c' n' h=>?_,fun h=>(by rw[u]at h;cases h)⟩;rw[u]at h;cases h;exact J4 D W X h6 trivial
def kD{s:aa2}{i c n:Nat}(u:i<s.size)(h:dec s i=some (c,n)):1<=n/\i+n<=s.size:=⟨(xH s i c n u h).1,(xH s i c n u h).2.2.1⟩
def vF{s:aa2}{i c n:Nat}(h:dec s i=some (c,n)):c<=2097152:=by
 have:=bf s i;unfold dec at h;split at h
 .cases h;omega
 .split at h
  .split at h
   .cases h;omega
   .cases h
  .split at h
   .split at h
    .cases h;omega
    .cases h
   .split at h
    .split at h
     .cases h;omega
     .cases h
    .cases h
def rLs(s:aa2)(i:Nat):List Int:=
 if h:i<s.size then
  match hd:dec s i with
  |some (c,n)=>(c:Int)::rLs s (i+n)
  |none=>[]
 else []
termination_by s.size-i
decreasing_by have:=kD h hd;omega
def mh(s:aa2)(i:Nat):Bool:=
 if h:i<s.size then
  match hd:dec s i with
  |some (c,n)=>mh s (i+n)
  |none=>false
 else true
termination_by s.size-i
decreasing_by have:=kD h hd;omega
def tM{s:aa2}{i c n:Nat}(z:i<s.size)(h:dec s i=some (c,n)):rLs s i=(c:Int)::rLs s (i+n):=by
 rw[rLs,Ky z];split
 next D E u=>rw[h]at u;cases u;rfl
 next u=>rw[h]at u;cases u
def jY{s:aa2}{i:Nat}(h:i<s.size->dec s i=none):rLs s i=[]:=by
 rw[rLs];split
 .rename_i z;split
  next D E u=>rw[h z]at u;cases u
  .rfl
 .rfl
def pl{s:aa2}{i c n:Nat}(z:i<s.size)(h:dec s i=some (c,n)):mh s i=mh s (i+n):=by
 rw[mh,Ky z];split
 next D E u=>rw[h]at u;cases u;rfl
 next u=>rw[h]at u;cases u
def pj{s:aa2}{i:Nat}(z:i<s.size)(h:dec s i=none):mh s i=false:=by
 rw[mh,Ky z];split
 next D E u=>rw[h]at u;cases u
 .rfl
def AZ{s:aa2}{i:Nat}(h:s.size<=i):mh s i=true:=by rw[mh,Yv oM]
def MX(s:aa2):∀k i,s.size-i=k->(yW s i=0↔mh s i=true):=by
 intro k;induction k using Nat.strongRecOn with
 |ind k E=>
  intro i I;by_cases u:i<s.size
  .rw[yW,Ky u];obtain⟨D,z⟩:=IY s i u;cases h:dec s i with
   |none=>
    rw[Yv (z h),pj u h];have:=z h;simp [this]
   |some q=>
    obtain⟨c,n⟩:=q;have e:=D c n h;obtain⟨p1,p2⟩:=kD u h;rw[Ky (by rw[e]),e,pl u h];simp only[xA];exact E (s.size-(i+n)) oM (i+n) rfl
  .rw[yW,Yv u,AZ oM];simp
def JM(f:Int->Bool)(s:aa2):∀k i,s.size-i=k->mh s i=true->zG f s i=(rLs s i).all f:=by
 intro k;induction k using Nat.strongRecOn with
 |ind k D=>
  intro i E h;by_cases u:i<s.size
  .cases z:dec s i with
   |none=>rw[pj u z]at h;cases h
   |some q=>
    obtain⟨c,n⟩:=q;obtain⟨p1,p2⟩:=kD u z;rw[pl u z]at h;rw[zG,Ky u,Ct s i u c n z,tM u z,sS,<-D (s.size-(i+n)) oM (i+n) rfl h];simp only;cases f c<;>simp
  .rw[zG,Yv u,jY (fun q=>absurd q u)];rfl
def Ja(s:aa2):Y9 s=((rLs s 0).all mJ&&mh s 0):=by
 rw[Y9];have h:=MX s _ 0 rfl;cases u:mh s 0 with
 |true=>rw[ib (h.2 u),JM mJ s _ 0 rfl u];simp
 |false=>
  have:¬yW s 0=0:=fun q=>by rw[h.1 q]at u;cases u
  rw[dt this];simp
def jw(n:Int):aa3:= .int .i32 n
def yy(s:aa2)(H:d7)(hs:s.size<=1048576)(L:List Int)(t:Bool):∀k e H2,(∃(i:Nat)(v:aa3)(l:List Int),k=s.size-i/\i<=s.size/\l.length<=i/\e.g 0= .string s/\e.g 5=v/\e.g 6=iV i/\bK H2 H.n 1 v l.length (l.map jw)/\d9 H.n H H2/\H.n<=H2.low/\l++rLs s i=L/\mh s i=t)->
  u7 (LE prog l7 (.loop VJ) e H2) (fun o e H2=>∃(a:Int)(v:aa3),bK H2 H.n 1 v L.length (L.map jw)/\d9 H.n H H2/\H.n<=H2.low/\((o= .exit 0/\t=true/\e.g 5=v/\e.g 6=iV a)\/(o= .ret/\t=false/\e.g 2=v/\e.g 3=iV a/\∃q:Int,q≠0/\e.g 4=iV q))):=by
 refine i5 _ _ ?_;rintro k e H2 ⟨i,v,l,hk,hi,a5,O,U,S,W,E,hl,D,z⟩;rcases J:decide ((i:Int)<s.size)with _|_
 .have a2:=dF J;refine J3 O S J ?_;rw[jY (fun q=>oM),su]at D;rw[AZ oM]at z;exact i6 ⟨i,v,by rw[<-D];exact W,E,hl,.inl ⟨rfl,z.symm,U,S⟩⟩
 .have a2:=dT J;have h:i<s.size:=oM;obtain⟨r1,r2⟩:=Mh H2 s i h hs;cases u:dec s i with
  |none=>
   obtain⟨q,hq,hc⟩:=r2 u;have a3:decide (q=0)=false:=dt hq;refine J6 O U S J hc a3 ?_;rw[jY (fun _=>u),su]at D;rw[pj h u]at z;exact y9 ⟨i,v,by rw[<-D];exact W,E,hl,.inr ⟨rfl,z.symm,rfl,rfl,q,hq,rfl⟩⟩
  |some q=>
   obtain⟨c,n⟩:=q;obtain⟨p1,p2⟩:=kD h u;have a4:=vF u;have hc:=r1 c n u;have hw:IntKind.wrap .i32 (c:Int)=c:=gt oM oM;obtain⟨v',H3,ha,X,I⟩:=BW (P:=prog) (t:=136) MV.2.2.2.2.2.2 MW.1 MW.2.1 MW.2.2.1 oM oM (W.push (bC [.int .i32 c] 1)) (c:=H2.n) (m:=1) (k:=1) (el:=[.int .i32 c]) j6 oM sM oM (by rw[i4];have:=E.n;omega);have a1:=(E.trans (d9.push (B:= .cells [.int .i32 c] true 1) E.n)).trans I;refine J8 O U S J hc hw ha @wrap_small ?_;rw[tM h u]at D;rw[pl h u]at z;refine d8 (k-n) oM ⟨i+n,v',l++[(c:Int)],oM,oM,by simp;omega,O,rfl,rfl,?_,a1,I.low hl,by rw[<-D];simp,z⟩;have e1:(l++[(c:Int)]).length=l.length+1:=sM;have e2:(l++[(c:Int)]).map jw=l.map jw++[.int .i32 c]:=by simp [jw]
   rw[e1,e2];exact X
def Pp(H:d7)(s:aa2)(hs:s.size<=1048576):Ret (CL prog l7 83 [.string s] H) H fun w I=>∃(v:aa3)(a q:Int),w= .tuple #[v,iV a,iV q]/\decide (q=0)=mh s 0/\bK I H.n 1 v (rLs s 0).length ((rLs s 0).map jw)/\d9 H.n H I:=by
 rw[i7 Xl rfl _ sM];refine J1 @if_true.{1} ?_;refine i8 (F:=fun z=>Ret (t6 _ _ _ (t7 (inBlock 0 z) _)) _ _) (yy s H hs (rLs s 0) (mh s 0) s.size _ _ ⟨0,_,[],rfl,oM,by simp,rfl,rfl,rfl,.inl ⟨rfl,rfl,rfl⟩,d9.start H,lR,rfl,rfl⟩) ?_;rintro o e' H' ⟨a,v,h,J,O,⟨D,E,h5,h6⟩|⟨D,E,U,W,q,S,X⟩⟩
 .refine J3 D h5 h6 ?_;rw[E];exact cn (fun u=>⟨v,a,0,rfl,rfl,h.na (by simpa using u),d9.refl _ _⟩) ⟨v,a,0,rfl,rfl,h.low _,J.ret O⟩
 .refine J4 D U W X ?_;rw[E];exact cn (fun u=>⟨v,a,q,rfl,dt S,h.na (by simpa using u),d9.refl _ _⟩) ⟨v,a,q,rfl,dt S,h.low _,J.ret O⟩
def IS(H0:d7)(lo:Nat)(a:Option Addr)(c:Nat)(q:Int)(l:List Int)(hn:l.length<=1048576)(hr:∀x∈l,-2147483648<=x/\x<=2147483647) (hv:bK H0 lo 1 (.slice a l.length c) l.length (l.map jw)) (r:Bool):
  ∀k e H2,(∃i:Nat,k=l.length-i/\i<=l.length/\e.g 3= .slice a l.length c/\e.g 5=iV q/\e.g 6=iV i/\H2=H0/\(l.drop i).all mJ=r)->
  u7 (LE prog l7 (.loop Vi) e H2) (fun o e H2=>H2=H0/\((o= .exit 0/\r=true/\e.g 5=iV q)\/(o= .ret/\e.g 2= .bool false/\r=false))):=by
 refine i5 _ _ ?_;rintro k e H2 ⟨i,hk,hi,u,I,D,W,h⟩;subst W;rcases b:decide ((i:Int)<l.length)with _|_
 .have E:=dF b;have:l.drop i=[]:=dN oM;rw[this,Hm]at h;refine J3 u D b ?_;exact i6 ⟨rfl,.inl ⟨rfl,h.symm,I⟩⟩
 .have E:=dT b;rcases hv with⟨_,h0,_⟩|⟨nb,U,O,_,_⟩
  .omega
  obtain⟨rfl,rfl⟩:a=some ⟨nb,0,none⟩/\c=l.length+1:=by simpa using U
  obtain⟨x,S,X⟩:=B8 (l:=l) (i:=i) oM;have a1:=hr x (mG S);rw[X,sS]at h;have nt:(i:Int).toNat=i:=tN i;have J:(l.map jw)[i]?=some (.int .i32 x):=by rw[Aa,S];rfl
  rcases z:mJ x with _|_
  .rw[z]at h;refine J9 u D b O @wrap_small @yD J @Be z ?_;exact y9 ⟨rfl,.inr ⟨rfl,rfl,by rw[<-h];rfl⟩⟩
  .rw[z]at h;refine J9 u D b O @wrap_small @yD J @Be z ?_;exact d8 (k-1) oM ⟨i+1,oM,oM,u,I,rfl,rfl,by rw[<-h];rfl⟩
def Iv(s:aa2):∀k i,s.size-i=k->(rLs s i).length<=s.size-i/\∀x∈rLs s i,-2147483648<=x/\x<=2147483647:=by
 intro k;induction k using Nat.strongRecOn with
 |ind k I=>
  intro i O;by_cases u:i<s.size
  .cases h:dec s i with
   |none=>rw[jY (fun _=>h)];simp
   |some q=>
    obtain⟨c,n⟩:=q;obtain⟨p1,p2⟩:=kD u h;have E:=vF h;obtain⟨J,D⟩:=I (s.size-(i+n)) oM (i+n) rfl;rw[tM u h];refine⟨by rw[kO];omega,fun x z=>?_⟩;rcases nd.1 z with rfl|z
    .omega
    .exact D x z
  .rw[jY (fun q=>absurd q u)];simp
def L7(H:d7)(s:aa2)(hs:s.size<=1048576):CL prog l7 55 [.string s] H=some (.bool (Y9 s),none):=by
 obtain⟨w,h,I,hc,hh,v,a,q,rfl,hq,O,hS⟩:=Pp ⟨H.bs,H.n⟩ s hs;have u:=O;obtain⟨S,cv,rfl⟩:=O.ownC.slice;have a1:H.n<=I.low:=hS.low lR;obtain⟨f1,U⟩:=Iv s _ 0 rfl;rw[i7 Xa rfl _ sM,Ja];refine J2 hc hh ?_;refine i8 (F:=fun z=>t6 _ _ _ (t7 (inBlock 0 z) _)=_) (IS I H.n S cv q (rLs s 0) oM U u ((rLs s 0).all mJ) (rLs s 0).length _ _ ⟨0,rfl,oM,rfl,rfl,rfl,rfl,rfl⟩) ?_;rintro o e' H' ⟨J,⟨D,E,X⟩|⟨D,W,E⟩⟩
 .exact J5 D J X hq E trivial
 .exact J4 D J W E trivial
def dLs(s:aa2)(i:Nat):List Int:=
 if h:i<s.size then((Utf8.decode s i).1:Int)::dLs s (i+(Utf8.decode s i).2) else []
termination_by s.size-i
decreasing_by have:=bn s i;omega
def xI(s:aa2)(i:Nat):(Utf8.decode s i).1<=2097152:=by
 unfold Utf8.decode;simp only;split
 .omega
 .split
  .split
   .simp only;omega
   .simp [Utf8.runeError]
  .split
   .split
    .simp only;omega
    .simp [Utf8.runeError]
   .split
    .split
     .simp only;omega
     .simp [Utf8.runeError]
    .simp [Utf8.runeError]
def GI(s:aa2):∀k i,s.size-i=k->(dLs s i).length<=s.size-i/\∀x∈dLs s i,-2147483648<=x/\x<=2147483647:=by
 intro k;induction k using Nat.strongRecOn with
 |ind k z=>
  intro i I;rw[dLs];split
  .rename_i E;have J:=bn s i;have hs:=xI s i;obtain⟨D,u⟩:=z (s.size-(i+(Utf8.decode s i).2)) oM (i+(Utf8.decode s i).2) rfl;refine⟨by rw[kO];omega,fun x h=>?_⟩;rcases nd.1 h with rfl|h
   .omega
   .exact u x h
  .simp
def DX(s:aa2):∀b i(h:Array aa3),s.size-i<=b->(Conv.runesFrom s b i h).toList=h.toList++(dLs s i).map jw:=by
 intro b;induction b with
 |zero=>
  intro i h z;rw[dLs,Yv oM];simp [Conv.runesFrom]
 |succ b D=>
  intro i h z;rw[Conv.runesFrom,dLs];by_cases u:i<s.size
  .have E:=bn s i;rw[bJ u,Ky u];simp only;rw[D _ _ oM];simp [jw]
  .rw[bt u,Yv u];simp
def Cr(H:d7)(s:aa2):bN prog H 9 136 (.string s)=some (sL H.n (dLs s 0).length ((dLs s 0).length+1),some (H.push (.cells ((dLs s 0).map jw) true 1))):=by
 have h:=DX s s.size 0 #[] oM;have u:(Conv.runesFrom s s.size 0 #[]).size=(dLs s 0).length:=by rw[<-KX,h];simp
 simp only[bN,MV,ty9,MW,u,h];simp
def AU(s:aa2):∀k i,s.size-i=k->0<i->jT s i=(dLs s i).all lk:=by
 intro k;induction k using Nat.strongRecOn with
 |ind k u=>
  intro i D h;rw[jT,dLs];split
  next z=>have E:=bn s i;rw[sS,<-u (s.size-(i+(Utf8.decode s i).2)) oM (i+(Utf8.decode s i).2) rfl oM,dt (show¬i=0 from oM)];cases lk (Utf8.decode s i).1<;>simp
  .rfl
def wL{s:aa2}:s.size=0↔s=eB:=by
 constructor
 .intro h;obtain⟨d⟩:=s;have:d= #[]:=Array.size_eq_zero_iff.1 h;rw[this];rfl
 .intro h;rw[h];rfl
def bw:List Int->Bool
 |[]=>false
 |x::_=>iI x
def BG(s:aa2):ku s=(bw (dLs s 0)&&(dLs s 0).all lk):=by
 rw[ku];by_cases u:s.size=0
 .have h:=wL.1 u;rw[dLs,Yv oM,ib h];simp [bw]
 .have h:¬s=eB:=fun q=>u (wL.2 q);have z:=bn s 0;rw[dLs,Ky oM,jT,Ky oM,dt h,sS,bw,<-AU s _ (0+(Utf8.decode s 0).2) rfl oM];cases iI (Utf8.decode s 0).1<;>cases lk (Utf8.decode s 0).1<;>simp
def DA(H0:d7)(S:Nat)(l:List Int)(hn:l.length<=1048576)(X:∀x∈l,-2147483648<=x/\x<=2147483647) (J:H0.g S=cE (l.map jw) 1) (r:Bool):
  ∀k e H2,(∃i:Nat,k=l.length-i/\i<=l.length/\e.g 3=sL S l.length (l.length+1)/\e.g 4=iV i/\H2=H0/\(l.drop i).all lk=r)->
  u7 (LE prog l7 (.loop VK) e H2) (fun o e H2=>H2=H0/\((o= .exit 0/\r=true)\/(o= .ret/\e.g 2= .bool false/\r=false))):=by
 refine i5 _ _ ?_;rintro k e H2 ⟨i,hk,hi,u,D,U,h⟩;subst U;rcases b:decide ((i:Int)<l.length)with _|_
 .have E:=dF b;have:l.drop i=[]:=dN oM;rw[this,Hm]at h;refine J3 u D b ?_;exact i6 ⟨rfl,.inl ⟨rfl,h.symm⟩⟩
 .have E:=dT b;obtain⟨x,O,W⟩:=B8 (l:=l) (i:=i) oM;have a1:=X x (mG O);rw[W,sS]at h;have nt:(i:Int).toNat=i:=tN i;have I:(l.map jw)[i]?=some (.int .i32 x):=by rw[Aa,O];rfl
  rcases z:lk x with _|_
  .rw[z]at h;refine J9 u D b J @wrap_small @yD I @Bf z ?_;exact y9 ⟨rfl,.inr ⟨rfl,rfl,by rw[<-h];rfl⟩⟩
  .rw[z]at h;refine J9 u D b J @wrap_small @yD I @Bf z ?_;exact d8 (k-1) oM ⟨i+1,oM,oM,u,rfl,rfl,by rw[<-h];rfl⟩
def X7(H:d7)(s:aa2)(hs:s.size<=1048576):CL prog l7 85 [.string s] H=some (.bool (ku s),none):=by
 obtain⟨f1,W⟩:=GI s _ 0 rfl;have hz:d7.n ⟨H.bs,H.n⟩=H.n:=rfl;rw[i7 Xm rfl _ sM,BG];have I:d7.g (d7.push ⟨H.bs,H.n⟩ (.cells ((dLs s 0).map jw) true 1)) H.n=some (.cells ((dLs s 0).map jw) true 1):=j6;have cv:bN prog ⟨H.bs,H.n⟩ 9 136 (.string s)=some (sL H.n (dLs s 0).length ((dLs s 0).length+1),some (d7.push ⟨H.bs,H.n⟩ (.cells ((dLs s 0).map jw) true 1))):=Cr ⟨H.bs,H.n⟩ s;generalize dLs s 0=l at*;have u:decide ((l.length:Int)=0)=decide (l=[]):=wG.2 (by rw[<-pF];omega);rcases D:decide (l=[])with _|_
 .have J:=dF D;obtain⟨x,m,E⟩:=List.exists_cons_of_ne_nil J;have a3:=W x (by rw[E];simp);have a2:(0:Int)<(l.length:Int):=by rw[E];simp only[kO];omega
  have hc:(l.map jw)[0]?=some (.int .i32 x):=by rw[E];rfl
  have h:bw l=iI x:=by rw[E,bw]
  rw[h];rcases U:iI x with _|_
  .exact J8 cv u D I hc @wrap_small @M9 U trivial
  .refine J8 cv u D I hc @wrap_small @M9 U ?_;refine i8 (F:=fun z=>t6 _ _ _ (t7 (inBlock 0 z) _)=_) (DA _ H.n l oM W I (l.all lk) l.length _ _ ⟨0,rfl,oM,rfl,rfl,rfl,rfl⟩) ?_;have a1:H.n<=(d7.push ⟨H.bs,H.n⟩ (bC (l.map jw) 1)).low:=lR;rintro o e' H' ⟨X,⟨O,S⟩|⟨O,h2,S⟩⟩
   .exact J3 O S X trivial
   .exact J4 O h2 S X trivial
 .have he:=dT D;have h:bw l=false:=by rw[he,bw]
  rw[h];exact J3 cv u D trivial
def T7(H:d7)(a b:aa2)(D:a.size<=1048576)(E:b.size<=1048576):CL prog l7 56 [.agg #[.string a,.string b]] H=some (.bool (dw a b),none):=by
 rw[i7 YH rfl _ sM];rw[dw];rcases h:ku b with _|_
 .exact J2 @X7 h trivial
 rcases u:Y9 b with _|_
 .exact J4 @X7 @L7 h u trivial
 rcases z:Y9 a with _|_
 .exact J5 @X7 @L7 h u z trivial
 refine J5 @X7 @L7 h u z ?_;rfl
def mU(s x:aa2)(i:Nat):Int:=
 if h:i+x.size<=s.size/\i<=s.size then(if s.extract i (i+x.size)=x then(i:Int) else mU s x (i+1)) else -1
termination_by s.size+1-i
def Ea{P:Program}(H:d7)(t:TypeId)(s:aa2)(i j:Nat)(z:P.underlying t=some .string)(h:i<=j)(u:j<=s.size):L9 P H t (.string s) (some (.int .i64 i)) (some (.int .i64 j)) none=some (.string (s.extract i j)):=by
 simp only[L9,z,bnd,Int.natCast_nonneg,jd,xA];rw[bJ ⟨h,u⟩]
def GR(H0:d7)(s x:aa2)(hs:s.size<=1048576)(hx:x.size<=1048576)(r:Int):
  ∀k e H2,(∃i:Nat,k=s.size+1-i/\i<=s.size+1/\e.g 0= .string s/\e.g 2= .string x/\e.g 7=iV i/\H2=H0/\mU s x i=r)->
  u7 (LE prog l7 (.loop RG) e H2) (fun o e H2=>H2=H0/\((o= .exit 0/\r= -1)\/(o= .ret/\e.g 6=iV r))):=by
 refine i5 _ _ ?_;rintro k e H2 ⟨i,X,W,D,E,I,O,h⟩;have U:H0=H0:=rfl;subst O;rcases b:decide ((i:Int)+x.size<=s.size)with _|_
 .have S:=dF b;rw[mU,Yv oM]at h;refine J5 D E I @wrap_small b ?_;exact i6 ⟨rfl,.inl ⟨rfl,h.symm⟩⟩
 have S:=dT b;rw[mU,Ky oM]at h;have u:=Ea (P:=prog) H2 9 s i (i+x.size) (by simp [ty9]) oM oM;have J:((i+x.size:Nat):Int)=(i:Int)+x.size:=oM;rw[J]at u;rcases z:decide (s.extract i (i+x.size)=x)with _|_
 .rw[bt (dF z)]at h;refine J7 D E I @wrap_small b u z ?_;exact d8 (k-1) oM ⟨i+1,oM,oM,D,E,rfl,rfl,h⟩
 .rw[bJ (dT z)]at h;refine J7 D E I @wrap_small b u z ?_;exact y9 ⟨rfl,.inr ⟨rfl,by rw[<-h];rfl⟩⟩
def iu(H:d7)(s x:aa2)(hs:s.size<=1048576)(I:x.size<=1048576):CL prog l7 126 [.string s,iV 0,.string x] H=some (.int .i64 (mU s x 0),none):=by
 rw[i7 Qi rfl _ sM];refine J1 ty3 ?_;refine i8 (F:=fun z=>t6 _ _ _ (t7 (inBlock 0 z) _)=_) (GR ⟨H.bs,H.n⟩ s x hs I (mU s x 0) (s.size+1) _ _ ⟨0,rfl,oM,rfl,rfl,rfl,rfl,rfl⟩) ?_;rintro o e' H' ⟨u,⟨h,E⟩|⟨h,D⟩⟩
 .exact J3 h u E trivial
 .exact J3 h u D trivial
def qs:aa2:=⟨#[104,116,116,112,58,47,47,119,119,119,46,119,51,46,111,114,103,47,50,48,48,48,47,120,109,108,110,115,47]⟩
def qNamed(sp lc:aa2):Bool:= !decide (sp=qs)&&ku lc&&Y9 lc&&Y9 sp&&decide (mU sp ⟨#[123]⟩ 0<0)&&decide (mU sp ⟨#[125]⟩ 0<0)
def DM(H:d7)(a b:aa2)(J:a.size<=1048576)(O:b.size<=1048576):CL prog l7 100 [.agg #[.string a,.string b]] H=some (.bool (qNamed a b),none):=by
 have S:(⟨#[123]⟩:aa2).size<=1048576:=by decide
 have U:(⟨#[125]⟩:aa2).size<=1048576:=by decide
 rw[i7 VZ rfl _ sM];rw[qNamed];rcases u:decide (a=qs)with _|_
 .rcases z:ku b with _|_
  .have h:=u;rw[qs]at h;exact J3 @X7 h z trivial
  rcases D:Y9 b with _|_
  .have h:=u;rw[qs]at h;exact J5 @X7 @L7 h z D trivial
  rcases E:Y9 a with _|_
  .have h:=u;rw[qs]at h;exact J6 @X7 @L7 h z D E trivial
  rcases I:decide (mU a ⟨#[123]⟩ 0<0)with _|_
  .have h:=u;rw[qs]at h;exact J8 @X7 @L7 @iu h z D E I trivial
  have h:=u;rw[qs]at h;exact J8 @X7 @L7 @iu h z D E I trivial
 .have h:=u;rw[qs]at h;exact J1 h trivial
def lst(f:Bool)(o:Int):Int:=if f then(if o=8 then 1 else if o=9\/o=10 then 2 else 0) else(if o=4\/o=5 then 2 else if o=6 then 1 else 0)
def mst(f:Bool)(o:Int):Int:=if f then(if o=8 then 1 else if o=9\/o=10 then 64 else 0) else(if o=4\/o=5 then 64 else if o=6 then 1 else 0)
def okN(op s least most:Int)(na nb:Nat):Bool:=decide (least<=na)&&decide ((na:Int)<=most)&&(decide (op=s)==decide (nb=1))&&decide (nb<=1)
def xR(op:Int):Bool:=decide (4<=op)&&decide (op<=6)
def Lb(op:Int):Bool:=decide (op=6)||decide (op=7)
def jU(hn:Bool)(sp lc:aa2):Bool:=(hn== !(decide (sp=eB)&&decide (lc=eB)))&&(!hn||qNamed sp lc)
def tp(hv:Bool)(op:Int)(vl:aa2):Bool:=(hv||decide (vl=eB))&& !(decide (op=7)&&decide (vl=eB))&&Y9 vl
def eF(f:Bool)(q:Q):Bool:=if f then decide (q.op<=11)&&jU (xR q.op) q.sp q.lc&&tp (Lb q.op) q.op q.vl else decide (q.op<=7)
def okQ:Nat->Bool->Q->Bool
 |0,_,_=>false
 |d+1,f,q=>decide (1<=q.op)&&eF f q&&okN q.op (if f then 11 else 7) (lst f q.op) (mst f q.op) q.a.length q.b.length&&q.a.all (okQ d f)&&q.b.all (okQ d !f)
def mz(fn:Nat)(f:Bool)(d:Nat):Prop:=∀(k:Nat)(H:d7)(lo:Nat)(cs:LV)(q:Q),lo<=H.n->QR H lo k f cs q->CL prog l7 fn [.agg cs.toArray,iV d] H=some (.bool (okQ d f q),none)
def LM(d:Nat)(a2:d<=64)(ih:mz 47 false d)(k:Nat)(H0:d7)(lo:Nat)(va:Option Addr)(ca:Nat)(l:List Q)(a1:lo<=H0.n)(hv:QsR H0 lo k false (.slice va l.length ca) l)(hn:l.length<=1048576)(J:Nat)(cl:LV)(S:H0.g J=cE cl 1)(W:cl[1]?=some (.slice va l.length ca))(r:Bool):
  ∀kk e H2,(∃i:Nat,kk=l.length-i/\i<=l.length/\e.g 1=iV ((d:Int)+1)/\e.g 2=pT J/\e.g 7=iV i/\H2=H0/\(l.drop i).all (okQ d false)=r)->
  u7 (LE prog l7 (.loop UY) e H2) (fun o e H2=>H2=H0/\((o= .exit 0/\e.g 1=iV ((d:Int)+1)/\e.g 2=pT J/\r=true)\/(o= .ret/\e.g 4= .bool false/\r=false))):=by
 refine i5 _ _ ?_;rintro kk e H2 ⟨i,hk,hi,I,D,O,hH,z⟩;subst hH;rcases b:decide ((i:Int)<l.length)with _|_
 .have U:=dF b;have:l.drop i=[]:=dN oM;rw[this]at z;refine J5 D O S W b ?_;exact i6 ⟨rfl,.inl ⟨rfl,I,D,z.symm⟩⟩
 have U:=dT b;obtain⟨x,nb,o,cs,own,el,hx,hd,rfl,a4,X,a3,h,hr⟩:=hv.row (i:=i) oM;have nt:(i:Int).toNat=i:=tN i;rw[hd,sS]at z;simp only[qSz,jd,bF]at h X;have u:=ih k H2 lo el x a1 hr;have E:(d:Int)+1-1=d:=oM;rcases b2:okQ d false x with _|_
 .rw[b2]at u z;refine J12 I D O S W b X nt h @wrap_small E u ?_;exact y9 ⟨rfl,.inr ⟨rfl,rfl,by rw[<-z];rfl⟩⟩
 .rw[b2]at u z;refine J12 I D O S W b X nt h @wrap_small E u ?_;exact d8 (kk-1) oM ⟨i+1,oM,oM,I,D,rfl,rfl,z⟩
def LN(d:Nat)(a2:d<=64)(ih:mz 73 true d)(k:Nat)(H0:d7)(lo:Nat)(va:Option Addr)(ca:Nat)(l:List Q)(a1:lo<=H0.n)(hv:QsR H0 lo k true (.slice va l.length ca) l)(hn:l.length<=1048576)(J:Nat)(cl:LV)(S:H0.g J=cE cl 1)(W:cl[4]?=some (.slice va l.length ca))(r:Bool):
  ∀kk e H2,(∃i:Nat,kk=l.length-i/\i<=l.length/\e.g 1=iV ((d:Int)+1)/\e.g 2=pT J/\e.g 9=iV i/\H2=H0/\(l.drop i).all (okQ d true)=r)->
  u7 (LE prog l7 (.loop Vz) e H2) (fun o e H2=>H2=H0/\((o= .exit 0/\e.g 1=iV ((d:Int)+1)/\e.g 2=pT J/\r=true)\/(o= .ret/\e.g 4= .bool false/\r=false))):=by
 refine i5 _ _ ?_;rintro kk e H2 ⟨i,hk,hi,I,D,O,hH,z⟩;subst hH;rcases b:decide ((i:Int)<l.length)with _|_
 .have U:=dF b;have:l.drop i=[]:=dN oM;rw[this]at z;refine J5 D O S W b ?_;exact i6 ⟨rfl,.inl ⟨rfl,I,D,z.symm⟩⟩
 have U:=dT b;obtain⟨x,nb,o,cs,own,el,hx,hd,rfl,a4,X,a3,h,hr⟩:=hv.row (i:=i) oM;have nt:(i:Int).toNat=i:=tN i;rw[hd,sS]at z;simp only[qSz,jd,bF]at h X;have u:=ih k H2 lo el x a1 hr;have E:(d:Int)+1-1=d:=oM;rcases b2:okQ d true x with _|_
 .rw[b2]at u z;refine J12 I D O S W b X nt h @wrap_small E u ?_;exact y9 ⟨rfl,.inr ⟨rfl,rfl,by rw[<-z];rfl⟩⟩
 .rw[b2]at u z;refine J12 I D O S W b X nt h @wrap_small E u ?_;exact d8 (kk-1) oM ⟨i+1,oM,oM,I,D,rfl,rfl,z⟩
def LO(d:Nat)(a5:d<=64)(b6:mz 47 false d)(b7:mz 73 true d)(k:Nat)(H0:d7)(lo:Nat)(va wa:Option Addr)(ca a3:Nat)(a b:List Q)(a6:lo<=H0.n)(h1:QsR H0 lo k false (.slice va a.length ca) a)(h2:QsR H0 lo k true (.slice wa b.length a3) b)(a9:a.length<=1048576)(c3:b.length<=1048576)
  (bl:Nat) (cl:LV) (O:H0.g bl=cE cl 1) (op:Int) (a2:cl[0]?=some (.int .i64 op)) (hc:cl[1]?=some (.slice va a.length ca)) (J:cl[2]?=some (.slice wa b.length a3)) (h u:Int) (e:Env) (f1:e.g 1=iV ((d:Int)+1)) (f2:e.g 2=pT bl) (fL:e.g 5=iV h) (fM:e.g 6=iV u):
  u7 (LE prog l7 Od e H0) (fun o e H2=>H2=H0/\o= .ret/\e.g 4= .bool (okN op 7 h u a.length b.length&&a.all (okQ d false)&&b.all (okQ d true))):=by
 have X:∀x y:Bool,L3 prog .neq 4 (.bool x) (.bool y)=some (.bool (!(x==y))):=fun x y=>eU 4 x y ty4.2.2.2.2.2.2.1;rw[Od,okN];rcases b1:decide (h<=a.length)with _|_
 .have D:decide ((a.length:Int)<h)=true:=by have:=dF b1;exact ib oM
  exact J5 f2 fL O hc D trivial
 have D:decide ((a.length:Int)<h)=false:=by have:=dT b1;exact dt oM
 rcases b2:decide ((a.length:Int)<=u)with _|_
 .have E:decide (u<(a.length:Int))=true:=by have:=dF b2;exact ib oM
  exact J7 f2 fL fM O hc D E trivial
 have E:decide (u<(a.length:Int))=false:=by have:=dT b2;exact dt oM
 have e1:decide ((b.length:Int)=1)=decide (b.length=1):=wG.2 oM;rcases b3:(decide (op=7)==decide (b.length=1))with _|_
 .exact J12 f2 fL fM O a2 hc J D E X e1 b3 trivial
 rcases b4:decide (b.length<=1)with _|_
 .have U:decide ((1:Int)<b.length)=true:=by have:=dF b4;exact ib oM
  exact J13 f2 fL fM O a2 hc J D E X e1 b3 U trivial
 have U:decide ((1:Int)<b.length)=false:=by have:=dT b4;exact dt oM
 have b8:=dT b4;refine J13 f2 fL fM O a2 hc J D E X e1 b3 U ?_;refine i8 (F:=fun z=>u7 (t7 (inBlock 0 z) _) _) (LM d a5 b6 k H0 lo va ca a a6 h1 a9 bl cl O hc (a.all (okQ d false)) a.length _ _ ⟨0,rfl,oM,f1,f2,rfl,rfl,rfl⟩) ?_;rintro o e' H' ⟨rfl,⟨ho,g1,g2,hr⟩|⟨ho,g4,hr⟩⟩
 .have b0:(d:Int)+1-1=d:=oM;rcases b5:decide (b.length=0)with _|_
  .have a4:=dF b5;have W:decide ((b.length:Int)=0)=false:=dt oM;have a8:b.length=1:=oM;obtain⟨x,nb,o,cs,own,el,hx,hd,rfl,c0,hg,b9,S,hR⟩:=h2.row (i:=0) oM;have a1:b=[x]:=by
    obtain⟨y,rfl⟩:=Bj.1 a8
    simpa using hx
   simp only[qSz,jd,bF,Md,G3,Ck,ly]at S hg;have a7:=b7 k H' lo el x a6 hR;have I:b.all (okQ d true)=okQ d true x:=by rw[a1];simp
   rw[hr,I];exact J11 ho g1 g2 O J W hg S @wrap_small b0 a7 trivial
  .have a4:=dT b5;have W:decide ((b.length:Int)=0)=true:=ib oM;have a1:b=[]:=pF.1 a4;have I:b.all (okQ d true)=true:=by rw[a1];rfl
   rw[hr,I];exact J5 ho g2 O J W trivial
 .rw[hr];exact J2 ho g4 trivial
def LP(d:Nat)(a5:d<=64)(b6:mz 73 true d)(b7:mz 47 false d)(k:Nat)(H0:d7)(lo:Nat)(va wa:Option Addr)(ca a3:Nat)(a b:List Q)(a6:lo<=H0.n)(h1:QsR H0 lo k true (.slice va a.length ca) a)(h2:QsR H0 lo k false (.slice wa b.length a3) b)(a9:a.length<=1048576)(c3:b.length<=1048576)
  (bl:Nat) (cl:LV) (O:H0.g bl=cE cl 1) (op:Int) (a2:cl[0]?=some (.int .i64 op)) (hc:cl[4]?=some (.slice va a.length ca)) (J:cl[5]?=some (.slice wa b.length a3)) (h u:Int) (e:Env) (f1:e.g 1=iV ((d:Int)+1)) (f2:e.g 2=pT bl) (fL:e.g 7=iV h) (fM:e.g 8=iV u):
  u7 (LE prog l7 Oe e H0) (fun o e H2=>H2=H0/\o= .ret/\e.g 4= .bool (okN op 11 h u a.length b.length&&a.all (okQ d true)&&b.all (okQ d false))):=by
 have X:∀x y:Bool,L3 prog .neq 4 (.bool x) (.bool y)=some (.bool (!(x==y))):=fun x y=>eU 4 x y ty4.2.2.2.2.2.2.1;rw[Oe,okN];rcases b1:decide (h<=a.length)with _|_
 .have D:decide ((a.length:Int)<h)=true:=by have:=dF b1;exact ib oM
  exact J5 f2 fL O hc D trivial
 have D:decide ((a.length:Int)<h)=false:=by have:=dT b1;exact dt oM
 rcases b2:decide ((a.length:Int)<=u)with _|_
 .have E:decide (u<(a.length:Int))=true:=by have:=dF b2;exact ib oM
  exact J7 f2 fL fM O hc D E trivial
 have E:decide (u<(a.length:Int))=false:=by have:=dT b2;exact dt oM
 have e1:decide ((b.length:Int)=1)=decide (b.length=1):=wG.2 oM;rcases b3:(decide (op=11)==decide (b.length=1))with _|_
 .exact J12 f2 fL fM O a2 hc J D E X e1 b3 trivial
 rcases b4:decide (b.length<=1)with _|_
 .have U:decide ((1:Int)<b.length)=true:=by have:=dF b4;exact ib oM
  exact J13 f2 fL fM O a2 hc J D E X e1 b3 U trivial
 have U:decide ((1:Int)<b.length)=false:=by have:=dT b4;exact dt oM
 have b8:=dT b4;refine J13 f2 fL fM O a2 hc J D E X e1 b3 U ?_;refine i8 (F:=fun z=>u7 (t7 (inBlock 0 z) _) _) (LN d a5 b6 k H0 lo va ca a a6 h1 a9 bl cl O hc (a.all (okQ d true)) a.length _ _ ⟨0,rfl,oM,f1,f2,rfl,rfl,rfl⟩) ?_;rintro o e' H' ⟨rfl,⟨ho,g1,g2,hr⟩|⟨ho,g4,hr⟩⟩
 .have b0:(d:Int)+1-1=d:=oM;rcases b5:decide (b.length=0)with _|_
  .have a4:=dF b5;have W:decide ((b.length:Int)=0)=false:=dt oM;have a8:b.length=1:=oM;obtain⟨x,nb,o,cs,own,el,hx,hd,rfl,c0,hg,b9,S,hR⟩:=h2.row (i:=0) oM;have a1:b=[x]:=by
    obtain⟨y,rfl⟩:=Bj.1 a8
    simpa using hx
   simp only[qSz,jd,bF,Md,G3,Ck,ly]at S hg;have a7:=b7 k H' lo el x a6 hR;have I:b.all (okQ d false)=okQ d false x:=by rw[a1];simp
   rw[hr,I];exact J11 ho g1 g2 O J W hg S @wrap_small b0 a7 trivial
  .have a4:=dT b5;have W:decide ((b.length:Int)=0)=true:=ib oM;have a1:b=[]:=pF.1 a4;have I:b.all (okQ d false)=true:=by rw[a1];rfl
   rw[hr,I];exact J5 ho g2 O J W trivial
 .rw[hr];exact J2 ho g4 trivial
def Ds(d:Int)(sp lc:aa2)(X:sp.size<=1048576)(W:lc.size<=1048576)(z:d7)(U:Nat)(cl:LV)(O:z.g U=cE cl 1)(S:ldC (some true) (some 2) 1 cl=some (.agg #[.string sp,.string lc]))(E hv:Bool)(e:Env)(f1:e.g 1=iV d)(D:e.g 2=pT U)(J:e.g 5= .bool E)(f6:e.g 6= .bool hv):
  (jU E sp lc=false/\∃e',LE prog l7 Kq e z=some (.ret,e',z)/\e'.g 4= .bool false)\/(jU E sp lc=true/\∃e',LE prog l7 Kq e z=LE prog l7 Af e' z/\e'.g 1=iV d/\e'.g 2=pT U/\e'.g 6= .bool hv):=by
 have h:∀x y:Bool,L3 prog .neq 4 (.bool x) (.bool y)=some (.bool (!(x==y))):=fun x y=>eU 4 x y ty4.2.2.2.2.2.2.1;rw[Kq,jU];rcases I:(E== !(decide (sp=eB)&&decide (lc=eB)))with _|_
 .refine J6 D J O S h I ?_;exact .inl ⟨_,rfl,rfl⟩
 rcases E with _|_
 .refine J6 D J O S h I ?_;exact .inr ⟨_,rfl,f1,D,f6⟩
 have u:=DM z sp lc X W;rcases b2:qNamed sp lc with _|_
 .rw[b2]at u;refine J7 D J O S h I u ?_;exact .inl ⟨_,rfl,rfl⟩
 .rw[b2]at u;refine J7 D J O S h I u ?_;exact .inr ⟨_,rfl,f1,D,f6⟩
def Ie(d op:Int)(vl:aa2)(hq:vl.size<=1048576)(u:d7)(E:Nat)(J:LV)(hb:u.g E=cE J 1)(O:J[0]?=some (.int .i64 op))(S:J[3]?=some (.string vl))(I:Bool)(e:Env)(X:e.g 1=iV d)(U:e.g 2=pT E)(f6:e.g 6= .bool I):
  (tp I op vl=false/\∃e',LE prog l7 Af e u=some (.ret,e',u)/\e'.g 4= .bool false)\/(tp I op vl=true/\∃e',LE prog l7 Af e u=LE prog l7 Kr e' u/\e'.g 1=iV d/\e'.g 2=pT E):=by
 rw[Af,tp];have W:=L7 u vl hq;have key:∀(t:Bool),Y9 vl=t->∀(z:Bool),decide (vl=eB)=z->∀(D:Bool),decide (op=7)=D->∀h:Bool,h=I->
   (((h||z)&& !(D&&z)&&t)=false/\∃e',LE prog l7 Af e u=some (.ret,e',u)/\e'.g 4= .bool false)\/(((h||z)&& !(D&&z)&&t)=true/\∃e',LE prog l7 Af e u=LE prog l7 Kr e' u/\e'.g 1=iV d/\e'.g 2=pT E):=by
  intro t h1 z h2 D h3 h h4;subst h4;rw[h1]at W;rw[Af];cases h<;>cases z<;>cases D<;>cases t<;>(simp(maxSteps:=20000000) -dsimp (disch:=first|omega|(simp only[rH]<;>omega)|fail) only[↓fk,rQ,N1,sevalprocAttr,tyA,U,f6,hb,O,S,h2,h3,W])<;>first|exact .inl ⟨_,rfl,rfl⟩|exact .inr ⟨_,rfl,X,U⟩
 exact key _ rfl _ rfl _ rfl _ rfl
def Zp(d:Nat)(a1:d<=64)(a4:mz 47 false d)(a5:mz 73 true d):mz 47 false (d+1):=by
 intro k H lo cs q a7 hr;cases k with
 |zero=>exact hr.elim
 |succ k=>
 obtain⟨va,ca,wa,O,rfl,h1,h2,h3,h4⟩:=hr.path;have e1:((d+1:Nat):Int)=(d:Int)+1:=oM;rw[i7 WW rfl _ sM,okQ,eF,e1];have U:decide ((d:Int)+1=0)=false:=dt oM;obtain⟨W,u,-,S,hS⟩:=pushF H (bC [iV q.op,.slice va q.a.length ca,.slice wa q.b.length O] 1);have a6:H.n<=W.low:=by rw[u,l9];exact lR
 have hn:=hS.n;have a2:QsR W lo k false (.slice va q.a.length ca) q.a:=h1.mono (fun j hj=>hS.g j oM) lR;have a3:QsR W lo k true (.slice wa q.b.length O) q.b:=h2.mono (fun j hj=>hS.g j oM) lR;rcases b1:decide (1<=q.op)with _|_
 .have h:decide (q.op<1)=true:=by have:=dF b1;exact ib oM
  exact J4 u.symm S U h trivial
 have h:decide (q.op<1)=false:=by have:=dT b1;exact dt oM
 rcases b2:decide (q.op<=7)with _|_
 .have D:decide (7<q.op)=true:=by have:=dF b2;exact ib oM
  exact J5 u.symm S U h D trivial
 have D:decide (7<q.op)=false:=by have:=dT b2;exact dt oM
 have I:∀(e:Env),e.g 1=iV ((d:Int)+1)->e.g 2=pT H.n->e.g 5=iV (lst false q.op)->e.g 6=iV (mst false q.op)->
   t6 prog [.tmp 4] H (LE prog l7 Od e W)=some (.bool (okN q.op 7 (lst false q.op) (mst false q.op) q.a.length q.b.length&&q.a.all (okQ d false)&&q.b.all (okQ d !false)),none):=by
  intro e f1 f2 f5 f6;refine i8 (F:=fun z=>t6 _ _ _ z=_) (LO d a1 a4 a5 k W lo va wa ca O q.a q.b oM a2 a3 h3 h4 H.n _ S q.op rfl rfl rfl _ _ e f1 f2 f5 f6) ?_;rintro o e' H' ⟨hH,ho,g4⟩;exact J3 ho hH g4 trivial
 by_cases o4:q.op=4
 .have E:lst false q.op=2/\mst false q.op=64:=by rw[o4];decide
  have X:decide (q.op=4)=true:=ib o4;have J:decide (q.op=6)=false:=dt oM;refine J7 u.symm S U h D X J ?_;exact I _ rfl rfl (by rw[E.1];rfl) (by rw[E.2];rfl)
 have X:decide (q.op=4)=false:=dt o4;by_cases o5:q.op=5
 .have E:lst false q.op=2/\mst false q.op=64:=by rw[o5];decide
  have c5:decide (q.op=5)=true:=ib o5;have J:decide (q.op=6)=false:=dt oM;refine J8 u.symm S U h D X c5 J ?_;exact I _ rfl rfl (by rw[E.1];rfl) (by rw[E.2];rfl)
 have c5:decide (q.op=5)=false:=dt o5;by_cases o6:q.op=6
 .have E:lst false q.op=1/\mst false q.op=1:=by rw[o6];decide
  have J:decide (q.op=6)=true:=ib o6;refine J8 u.symm S U h D X c5 J ?_;exact I _ rfl rfl (by rw[E.1];rfl) (by rw[E.2];rfl)
 have J:decide (q.op=6)=false:=dt o6;have E:lst false q.op=0/\mst false q.op=0:=by simp [lst,mst,o4,o5,o6]
 refine J8 u.symm S U h D X c5 J ?_;exact I _ rfl rfl (by rw[E.1];rfl) (by rw[E.2];rfl)
def Zq(d:Nat)(a4:d<=64)(a7:mz 73 true d)(a8:mz 47 false d):mz 73 true (d+1):=by
 intro k H lo cs q b5 hr;cases k with
 |zero=>exact hr.elim
 |succ k=>
 obtain⟨va,ca,wa,a2,rfl,h1,h2,h3,h4,z1,z2,z3⟩:=hr.filter;have e1:((d+1:Nat):Int)=(d:Int)+1:=oM;rw[i7 Xg rfl _ sM,okQ,eF,e1,bJ rfl];have b0:decide ((d:Int)+1=0)=false:=dt oM;obtain⟨J,U,-,I,hS⟩:=pushF H (bC [iV q.op,.string q.sp,.string q.lc,.string q.vl,.slice va q.a.length ca,.slice wa q.b.length a2] 1);have b4:H.n<=J.low:=by rw[U,l9];exact lR
 have hn:=hS.n;have a5:QsR J lo k true (.slice va q.a.length ca) q.a:=h1.mono (fun j hj=>hS.g j oM) lR;have a6:QsR J lo k false (.slice wa q.b.length a2) q.b:=h2.mono (fun j hj=>hS.g j oM) lR;rcases b1:decide (1<=q.op)with _|_
 .have O:decide (q.op<1)=true:=by have:=dF b1;exact ib oM
  exact J4 U.symm I b0 O trivial
 have O:decide (q.op<1)=false:=by have:=dT b1;exact dt oM
 rcases b2:decide (q.op<=11)with _|_
 .have a1:decide (11<q.op)=true:=by have:=dF b2;exact ib oM
  exact J5 U.symm I b0 O a1 trivial
 have a1:decide (11<q.op)=false:=by have:=dT b2;exact dt oM
 have S:∀(e:Env),e.g 1=iV ((d:Int)+1)->e.g 2=pT H.n->e.g 7=iV (lst true q.op)->e.g 8=iV (mst true q.op)->
   t6 prog [.tmp 4] H (LE prog l7 Oe e J)=some (.bool (okN q.op 11 (lst true q.op) (mst true q.op) q.a.length q.b.length&&q.a.all (okQ d true)&&q.b.all (okQ d !true)),none):=by
  intro e X u f5 f6;refine i8 (F:=fun z=>t6 _ _ _ z=_) (LP d a4 a7 a8 k J lo va wa ca a2 q.a q.b oM a5 a6 h3 h4 H.n _ I q.op rfl rfl rfl _ _ e X u f5 f6) ?_;rintro o e' H' ⟨hH,ho,g4⟩;exact J3 ho hH g4 trivial
 have a9:∀(e:Env),e.g 1=iV ((d:Int)+1)->e.g 2=pT H.n->
   t6 prog [.tmp 4] H (LE prog l7 Kr e J)=some (.bool (okN q.op 11 (lst true q.op) (mst true q.op) q.a.length q.b.length&&q.a.all (okQ d true)&&q.b.all (okQ d !true)),none):=by
  intro e X u;rw[Kr];by_cases o8:q.op=8
  .have E:lst true q.op=1/\mst true q.op=1:=by rw[o8];decide
   have c8:decide (q.op=8)=true:=ib o8;have c9:decide (q.op=9)=false:=dt oM;have D:decide (q.op=10)=false:=dt oM;refine J5 u I c8 c9 D ?_;exact S _ X u (by rw[E.1];rfl) (by rw[E.2];rfl)
  have c8:decide (q.op=8)=false:=dt o8;by_cases o9:q.op=9
  .have E:lst true q.op=2/\mst true q.op=64:=by rw[o9];decide
   have c9:decide (q.op=9)=true:=ib o9;refine J4 u I c8 c9 ?_;exact S _ X u (by rw[E.1];rfl) (by rw[E.2];rfl)
  have c9:decide (q.op=9)=false:=dt o9;by_cases W:q.op=10
  .have E:lst true q.op=2/\mst true q.op=64:=by rw[W];decide
   have D:decide (q.op=10)=true:=ib W;refine J5 u I c8 c9 D ?_;exact S _ X u (by rw[E.1];rfl) (by rw[E.2];rfl)
  have D:decide (q.op=10)=false:=dt W;have E:lst true q.op=0/\mst true q.op=0:=by simp [lst,mst,o8,o9,W]
  refine J5 u I c8 c9 D ?_;exact S _ X u (by rw[E.1];rfl) (by rw[E.2];rfl)
 have b3:∀(e:Env),e.g 1=iV ((d:Int)+1)->e.g 2=pT H.n->e.g 5= .bool (xR q.op)->e.g 6= .bool (Lb q.op)->
   t6 prog [.tmp 4] H (LE prog l7 Kq e J)=some (.bool (jU (xR q.op) q.sp q.lc&&tp (Lb q.op) q.op q.vl&&okN q.op 11 (lst true q.op) (mst true q.op) q.a.length q.b.length&&q.a.all (okQ d true)&&q.b.all (okQ d !true)),none):=by
  intro e X u f5 f6;rcases Ds _ q.sp q.lc z1 z2 J H.n _ I rfl _ _ e X u f5 f6 with⟨hA,e',hE,g4⟩|⟨hA,e',hE,g1,g2,g6⟩
  .rw[hE,hA];exact J1 g4 trivial
  rw[hE,hA];rcases Ie _ q.op q.vl z3 J H.n _ I rfl rfl _ e' g1 g2 g6 with⟨hB,e2,a3,k4⟩|⟨hB,e2,a3,k1,k2⟩
  .rw[a3,hB];exact J1 k4 trivial
  rw[a3,hB,a9 e2 k1 k2];simp only[tT]
 have hN:∀a b:Bool,decide (4<=q.op)=a->decide (q.op<=6)=b->xR q.op=(a&&b):=by intro a b h h';rw[xR,h,h']
 have hV:∀a b:Bool,decide (q.op=6)=a->decide (q.op=7)=b->Lb q.op=(a||b):=by intro a b h h';rw[Lb,h,h']
 rcases h4:decide (4<=q.op)with _|_<;>rcases h6:decide (q.op<=6)with _|_<;>rcases k6:decide (q.op=6)with _|_<;>rcases k7:decide (q.op=7)with _|_<;>(simp(maxSteps:=20000000) -dsimp (disch:=first|omega|(simp only[rH]<;>omega)|fail) only[↓fk,rQ,N1,sevalprocAttr,tyA,<-U,I,b0,O,a1,h4,h6,k6,k7])<;>exact b3 _ rfl rfl (by rw[hN _ _ h4 h6];rfl) (by rw[hV _ _ k6 k7];rfl)
def To:∀d,d<=64->mz 47 false d/\mz 73 true d:=by
 intro d;induction d with
 |zero=>
  intro _
  constructor
  .intro k H lo cs q D u;cases k with
   |zero=>exact u.elim
   |succ k=>
   obtain⟨W,E,X,z,rfl,I,J,O,S⟩:=u.path;rw[i7 WW rfl _ sM,okQ];exact J1 @Int.natCast_zero trivial
  .intro k H lo cs q D u;cases k with
   |zero=>exact u.elim
   |succ k=>
   obtain⟨W,E,X,z,rfl,I,J,O,S,z1,z2,z3⟩:=u.filter;rw[i7 Xg rfl _ sM,okQ];exact J1 @Int.natCast_zero trivial
 |succ d U=>
  intro h;obtain⟨a,b⟩:=U oM;exact⟨Zp d oM a b,Zq d oM b a⟩
def jX(q:Q):Bool:=decide (szQ q 64<=64)&&okQ 16 false q
def DN(H:d7)(lo k:Nat)(cs:LV)(q:Q)(a2:lo<=H.n)(O:QR H lo k false cs q):CL prog l7 31 [.agg cs.toArray] H=some (.bool (jX q),none):=by
 cases k with
 |zero=>exact O.elim
 |succ k=>
 have S:=O;obtain⟨U,I,W,u,rfl,h1,h2,h3,h4⟩:=O.path;obtain⟨E,z,-,hg,X⟩:=pushF H (bC [iV q.op,.slice U q.a.length I,.slice W q.b.length u] 1);have a1:H.n<=E.low:=by rw[z,l9];exact lR
 have hn:=X.n;have h:ldC (some true) (some 3) 0 [iV q.op,.slice U q.a.length I,.slice W q.b.length u]=some (.agg [iV q.op,.slice U q.a.length I,.slice W q.b.length u].toArray):=rfl;have D:QR E lo (k+1) false _ q:=S.mono (fun j hj=>X.g j oM) lR;have c1:=Mi E lo (k+1) _ q oM D;have c2:=(To 16 oM).1 (k+1) E lo _ q oM D;have J:((16:Nat):Int)=16:=rfl;rw[J]at c2;rw[i7 Yz rfl _ sM,jX];rcases b:decide (szQ q 64<=64)with _|_
 .exact J5 z.symm hg h c1 b trivial
 .exact J6 z.symm hg h c1 c2 b trivial
mutual
def R1:Q->Q->Bool
 | .mk o s c v a b,y=>decide (o=y.op)&&(decide (s=y.sp)&&decide (c=y.lc))&&decide (v=y.vl)&&decide (a.length=y.a.length)&&decide (b.length=y.b.length)&&S9 a y.a&&S9 b y.b
def S9:List Q->List Q->Bool
 |[],_=>true
 |x::l,m=>(match m with|[]=>true|y::m=>R1 x y&&S9 l m)
end
def jZ(x y:Q):R1 x y=(decide (x.op=y.op)&&(decide (x.sp=y.sp)&&decide (x.lc=y.lc))&&decide (x.vl=y.vl)&&decide (x.a.length=y.a.length)&&decide (x.b.length=y.b.length)&&S9 x.a y.a&&S9 x.b y.b):=by cases x;rw[R1];rfl
def bI(x y:Q)(l m:List Q):S9 (x::l) (y::m)=(R1 x y&&S9 l m):=by rw[S9]
mutual
def pz:∀(x y:Q),R1 x y=true↔x=y
 | .mk o s c v a b,.mk o' s' c' v' a' b'=>by
  rw[jZ];simp only[cA,eT];simp only[Q.op,Q.sp,Q.lc,Q.vl,Q.a,Q.b,Q.mk.injEq]
  constructor
  .rintro⟨⟨⟨⟨⟨⟨h1,h2,h3⟩,h4⟩,h5⟩,h6⟩,h7⟩,h8⟩;exact⟨h1,h2,h3,h4,(iy a a' h5).1 h7,(iy b b' h6).1 h8⟩
  .rintro⟨rfl,rfl,rfl,rfl,rfl,rfl⟩;exact⟨⟨⟨⟨⟨⟨rfl,rfl,rfl⟩,rfl⟩,rfl⟩,rfl⟩,(iy a a rfl).2 rfl⟩,(iy b b rfl).2 rfl⟩
def iy:∀(l m:List Q),l.length=m.length->(S9 l m=true↔l=m)
 |[],m,h=>by
  have:m=[]:=pF.1 (by simpa using h.symm);subst this;simp [S9]
 |x::l,[],h=>by simp at h
 |x::l,y::m,h=>by
  rw[bI,cA,UJ,pz x y,iy l m (by simpa using h)]
end
def U7(fn:Nat)(f:Bool)(k:Nat):Prop:=∀(H:d7)(lo:Nat)(c1 c2:LV)(x y:Q),lo<=H.n->QR H lo k f c1 x->QR H lo k f c2 y->CL prog l7 fn [.agg c1.toArray,.agg c2.toArray] H=some (.bool (R1 x y),none)
def Jp(k:Nat)(ih:U7 103 false k)(H0:d7)(lo:Nat)(va vb:Option Addr)(ca cb:Nat)(l m:List Q)(b3:l.length=m.length)(a4:lo<=H0.n)(hv:QsR H0 lo k false (.slice va l.length ca) l)(hw:QsR H0 lo k false (.slice vb m.length cb) m)(hn:l.length<=1048576)(b1 O:Nat)(cl cm:LV)(E:H0.g b1=cE cl 1)(U:H0.g O=cE cm 1)(I:cl[1]?=some (.slice va l.length ca))(W:cm[1]?=some (.slice vb m.length cb))(r:Bool):
  ∀kk e H2,(∃i:Nat,kk=l.length-i/\i<=l.length/\e.g 2=pT b1/\e.g 3=pT O/\e.g 5=iV i/\H2=H0/\S9 (l.drop i) (m.drop i)=r)->
  u7 (LE prog l7 (.loop Rn) e H2) (fun o e H2=>H2=H0/\((o= .exit 0/\e.g 2=pT b1/\e.g 3=pT O/\r=true)\/(o= .ret/\e.g 4= .bool false/\r=false))):=by
 refine i5 _ _ ?_;rintro kk e H2 ⟨i,hk,hi,S,X,f6,hH,D⟩;subst hH;rcases b:decide ((i:Int)<l.length)with _|_
 .have a2:=dF b;have:l.drop i=[]:=dN oM;rw[this,S9]at D;refine J5 S f6 E I b ?_;exact i6 ⟨rfl,.inl ⟨rfl,S,X,D.symm⟩⟩
 have a2:=dT b;obtain⟨x,nb,o,cs,own,el,hx,hd,rfl,b4,hg,b0,u,hr⟩:=hv.row (i:=i) oM;obtain⟨y,b6,o',cs',a9,a1,b5,a3,rfl,a7,J,a6,h,a5⟩:=hw.row (i:=i) oM;have nt:(i:Int).toNat=i:=tN i;have a8:(i:Int)<m.length:=oM;rw[hd,a3,bI]at D;simp only[qSz,jd,bF]at u hg h J;have z:=ih H2 lo el a1 x y a4 hr a5;rcases O:R1 x y with _|_
 .rw[O]at z D;refine J14 S X f6 E U I W b hg J nt u h z ?_;exact y9 ⟨rfl,.inr ⟨rfl,rfl,by rw[<-D];rfl⟩⟩
 .rw[O]at z D;refine J15 S X f6 E U I W b hg J nt u h @wrap_small z ?_;exact d8 (kk-1) oM ⟨i+1,oM,oM,S,X,rfl,rfl,D⟩
def Jq(k:Nat)(ih:U7 128 true k)(H0:d7)(lo:Nat)(va vb:Option Addr)(ca cb:Nat)(l m:List Q)(b3:l.length=m.length)(a4:lo<=H0.n)(hv:QsR H0 lo k true (.slice va l.length ca) l)(hw:QsR H0 lo k true (.slice vb m.length cb) m)(hn:l.length<=1048576)(b1 O:Nat)(cl cm:LV)(E:H0.g b1=cE cl 1)(U:H0.g O=cE cm 1)(I:cl[2]?=some (.slice va l.length ca))(W:cm[2]?=some (.slice vb m.length cb))(r:Bool):
  ∀kk e H2,(∃i:Nat,kk=l.length-i/\i<=l.length/\e.g 2=pT b1/\e.g 3=pT O/\e.g 6=iV i/\H2=H0/\S9 (l.drop i) (m.drop i)=r)->
  u7 (LE prog l7 (.loop Ro) e H2) (fun o e H2=>H2=H0/\((o= .exit 2/\e.g 2=pT b1/\e.g 3=pT O/\r=true)\/(o= .ret/\e.g 4= .bool false/\r=false))):=by
 refine i5 _ _ ?_;rintro kk e H2 ⟨i,hk,hi,S,X,f6,hH,D⟩;subst hH;rcases b:decide ((i:Int)<l.length)with _|_
 .have a2:=dF b;have:l.drop i=[]:=dN oM;rw[this,S9]at D;refine J5 S f6 E I b ?_;exact i6 ⟨rfl,.inl ⟨rfl,S,X,D.symm⟩⟩
 have a2:=dT b;obtain⟨x,nb,o,cs,own,el,hx,hd,rfl,b4,hg,b0,u,hr⟩:=hv.row (i:=i) oM;obtain⟨y,b6,o',cs',a9,a1,b5,a3,rfl,a7,J,a6,h,a5⟩:=hw.row (i:=i) oM;have nt:(i:Int).toNat=i:=tN i;have a8:(i:Int)<m.length:=oM;rw[hd,a3,bI]at D;simp only[qSz,jd,bF]at u hg h J;have z:=ih H2 lo el a1 x y a4 hr a5;rcases O:R1 x y with _|_
 .rw[O]at z D;refine J14 S X f6 E U I W b hg J nt u h z ?_;exact y9 ⟨rfl,.inr ⟨rfl,rfl,by rw[<-D];rfl⟩⟩
 .rw[O]at z D;refine J15 S X f6 E U I W b hg J nt u h @wrap_small z ?_;exact d8 (kk-1) oM ⟨i+1,oM,oM,S,X,rfl,rfl,D⟩
def FO(k:Nat)(ih:U7 128 true k)(H0:d7)(lo:Nat)(va vb:Option Addr)(ca cb:Nat)(l m:List Q)(b3:l.length=m.length)(a4:lo<=H0.n)(hv:QsR H0 lo k true (.slice va l.length ca) l)(hw:QsR H0 lo k true (.slice vb m.length cb) m)(hn:l.length<=1048576)(b1 O:Nat)(cl cm:LV)(E:H0.g b1=cE cl 1)(U:H0.g O=cE cm 1)(I:cl[4]?=some (.slice va l.length ca))(W:cm[4]?=some (.slice vb m.length cb))(r:Bool):
  ∀kk e H2,(∃i:Nat,kk=l.length-i/\i<=l.length/\e.g 2=pT b1/\e.g 3=pT O/\e.g 5=iV i/\H2=H0/\S9 (l.drop i) (m.drop i)=r)->
  u7 (LE prog l7 (.loop RH) e H2) (fun o e H2=>H2=H0/\((o= .exit 0/\e.g 2=pT b1/\e.g 3=pT O/\r=true)\/(o= .ret/\e.g 4= .bool false/\r=false))):=by
 refine i5 _ _ ?_;rintro kk e H2 ⟨i,hk,hi,S,X,f6,hH,D⟩;subst hH;rcases b:decide ((i:Int)<l.length)with _|_
 .have a2:=dF b;have:l.drop i=[]:=dN oM;rw[this,S9]at D;refine J5 S f6 E I b ?_;exact i6 ⟨rfl,.inl ⟨rfl,S,X,D.symm⟩⟩
 have a2:=dT b;obtain⟨x,nb,o,cs,own,el,hx,hd,rfl,b4,hg,b0,u,hr⟩:=hv.row (i:=i) oM;obtain⟨y,b6,o',cs',a9,a1,b5,a3,rfl,a7,J,a6,h,a5⟩:=hw.row (i:=i) oM;have nt:(i:Int).toNat=i:=tN i;have a8:(i:Int)<m.length:=oM;rw[hd,a3,bI]at D;simp only[qSz,jd,bF]at u hg h J;have z:=ih H2 lo el a1 x y a4 hr a5;rcases O:R1 x y with _|_
 .rw[O]at z D;refine J14 S X f6 E U I W b hg J nt u h z ?_;exact y9 ⟨rfl,.inr ⟨rfl,rfl,by rw[<-D];rfl⟩⟩
 .rw[O]at z D;refine J15 S X f6 E U I W b hg J nt u h @wrap_small z ?_;exact d8 (kk-1) oM ⟨i+1,oM,oM,S,X,rfl,rfl,D⟩
def FP(k:Nat)(ih:U7 103 false k)(H0:d7)(lo:Nat)(va vb:Option Addr)(ca cb:Nat)(l m:List Q)(b3:l.length=m.length)(a4:lo<=H0.n)(hv:QsR H0 lo k false (.slice va l.length ca) l)(hw:QsR H0 lo k false (.slice vb m.length cb) m)(hn:l.length<=1048576)(b1 O:Nat)(cl cm:LV)(E:H0.g b1=cE cl 1)(U:H0.g O=cE cm 1)(I:cl[5]?=some (.slice va l.length ca))(W:cm[5]?=some (.slice vb m.length cb))(r:Bool):
  ∀kk e H2,(∃i:Nat,kk=l.length-i/\i<=l.length/\e.g 2=pT b1/\e.g 3=pT O/\e.g 6=iV i/\H2=H0/\S9 (l.drop i) (m.drop i)=r)->
  u7 (LE prog l7 (.loop RI) e H2) (fun o e H2=>H2=H0/\((o= .exit 2/\e.g 2=pT b1/\e.g 3=pT O/\r=true)\/(o= .ret/\e.g 4= .bool false/\r=false))):=by
 refine i5 _ _ ?_;rintro kk e H2 ⟨i,hk,hi,S,X,f6,hH,D⟩;subst hH;rcases b:decide ((i:Int)<l.length)with _|_
 .have a2:=dF b;have:l.drop i=[]:=dN oM;rw[this,S9]at D;refine J5 S f6 E I b ?_;exact i6 ⟨rfl,.inl ⟨rfl,S,X,D.symm⟩⟩
 have a2:=dT b;obtain⟨x,nb,o,cs,own,el,hx,hd,rfl,b4,hg,b0,u,hr⟩:=hv.row (i:=i) oM;obtain⟨y,b6,o',cs',a9,a1,b5,a3,rfl,a7,J,a6,h,a5⟩:=hw.row (i:=i) oM;have nt:(i:Int).toNat=i:=tN i;have a8:(i:Int)<m.length:=oM;rw[hd,a3,bI]at D;simp only[qSz,jd,bF]at u hg h J;have z:=ih H2 lo el a1 x y a4 hr a5;rcases O:R1 x y with _|_
 .rw[O]at z D;refine J14 S X f6 E U I W b hg J nt u h z ?_;exact y9 ⟨rfl,.inr ⟨rfl,rfl,by rw[<-D];rfl⟩⟩
 .rw[O]at z D;refine J15 S X f6 E U I W b hg J nt u h @wrap_small z ?_;exact d8 (kk-1) oM ⟨i+1,oM,oM,S,X,rfl,rfl,D⟩
def TS(k:Nat)(a3:U7 103 false k)(a4:U7 128 true k):U7 103 false (k+1):=by
 intro H lo c1 c2 x y a8 hx hy;have sx:=fun h:false=false=>hx.plain h;have sy:=fun h:false=false=>hy.plain h;obtain⟨va,ca,wa,J,rfl,h1,h2,h3,h4⟩:=hx.path;obtain⟨vb,cb,wb,O,rfl,k1,k2,k3,k4⟩:=hy.path;obtain⟨I,u⟩:=eY ((d7.push ⟨H.bs,H.n⟩ (bC [iV x.op,.slice va x.a.length ca,.slice wa x.b.length J] 1)).push (bC [iV y.op,.slice vb y.a.length cb,.slice wb y.b.length O] 1));have X:d9 H.n H I:=by rw[u];exact(d9.first H _).trans (d9.push (by rw[i4];show H.n<=H.n+1;omega))
 have D:I.g H.n=cE [iV x.op,.slice va x.a.length ca,.slice wa x.b.length J] 1:=by rw[u,j5 (by rw[i4];show H.n<H.n+1;omega)];exact j6
 have E:I.g (H.n+1)=cE [iV y.op,.slice vb y.a.length cb,.slice wb y.b.length O] 1:=by rw[u];exact A4 (by rw[i4];show H.n+1<=H.n+1/\H.n+1<=H.n+1;omega)
 have a7:H.n<=I.low:=by rw[u,l9,l9];exact lR
 have hn:=X.n;have a1:=h1.mono (H':=I) (fun j hj=>X.g j oM) lR;have a2:=h2.mono (H':=I) (fun j hj=>X.g j oM) lR;have a5:=k1.mono (H':=I) (fun j hj=>X.g j oM) lR;have a6:=k2.mono (H':=I) (fun j hj=>X.g j oM) lR;rw[i7 KB rfl _ sM,jZ];rcases b1:decide (x.op=y.op)with _|_
 .exact J4 u.symm D E b1 trivial
 obtain⟨s1,s2,s3⟩:=sx rfl;obtain⟨u1,u2,u3⟩:=sy rfl;have b2:(decide (x.sp=y.sp)&&decide (x.lc=y.lc))=true:=by rw[s1,s2,u1,u2];rfl
 have b3:decide (x.vl=y.vl)=true:=by rw[s3,u3];rfl
 rw[b2,b3];have el:decide ((x.a.length:Int)=y.a.length)=decide (x.a.length=y.a.length):=wG.2 oM;rcases b4:decide (x.a.length=y.a.length)with _|_
 .exact J6 u.symm D E b1 el b4 trivial
 have W:decide ((x.b.length:Int)=y.b.length)=decide (x.b.length=y.b.length):=wG.2 oM;rcases b5:decide (x.b.length=y.b.length)with _|_
 .exact J8 u.symm D E b1 el b4 W b5 trivial
 refine J8 u.symm D E b1 el b4 W b5 ?_;refine i8 (F:=fun z=>t6 _ _ _ (t7 (inBlock 0 z) _)=_) (Jp k a3 I lo va vb ca cb x.a y.a (dT b4) oM a1 a5 h3 H.n (H.n+1) _ _ D E rfl rfl (S9 x.a y.a) x.a.length _ _ ⟨0,rfl,oM,rfl,rfl,rfl,rfl,rfl⟩) ?_;rintro o e' H' ⟨rfl,⟨S,g2,g3,U⟩|⟨S,g4,U⟩⟩
 .refine J2 S U ?_;refine i8 (F:=fun z=>t6 _ _ _ (t7 (inBlock 2 z) _)=_) (Jq k a4 H' lo wa wb J O x.b y.b (dT b5) oM a2 a6 h4 H.n (H.n+1) _ _ D E rfl rfl (S9 x.b y.b) x.b.length _ _ ⟨0,rfl,oM,g2,g3,rfl,rfl,rfl⟩) ?_;rintro o e' H2 ⟨rfl,⟨S,g2,g3,U⟩|⟨S,g4,U⟩⟩
  .exact J2 S U trivial
  .exact J3 S g4 U trivial
 .exact J3 S g4 U trivial
def Pz(k:Nat)(a4:U7 128 true k)(a5:U7 103 false k):U7 128 true (k+1):=by
 intro H lo c1 c2 x y a9 hx hy;have sx:=fun h:true=false=>hx.plain h;have sy:=fun h:true=false=>hy.plain h;obtain⟨va,ca,wa,J,rfl,h1,h2,h3,h4,_⟩:=hx.filter;obtain⟨vb,cb,wb,O,rfl,k1,k2,k3,k4,_⟩:=hy.filter;obtain⟨I,u⟩:=eY ((d7.push ⟨H.bs,H.n⟩ (bC [iV x.op,.string x.sp,.string x.lc,.string x.vl,.slice va x.a.length ca,.slice wa x.b.length J] 1)).push (bC [iV y.op,.string y.sp,.string y.lc,.string y.vl,.slice vb y.a.length cb,.slice wb y.b.length O] 1));have hS:d9 H.n H I:=by rw[u];exact(d9.first H _).trans (d9.push (by rw[i4];show H.n<=H.n+1;omega))
 have D:I.g H.n=cE [iV x.op,.string x.sp,.string x.lc,.string x.vl,.slice va x.a.length ca,.slice wa x.b.length J] 1:=by rw[u,j5 (by rw[i4];show H.n<H.n+1;omega)];exact j6
 have E:I.g (H.n+1)=cE [iV y.op,.string y.sp,.string y.lc,.string y.vl,.slice vb y.a.length cb,.slice wb y.b.length O] 1:=by rw[u];exact A4 (by rw[i4];show H.n+1<=H.n+1/\H.n+1<=H.n+1;omega)
 have a8:H.n<=I.low:=by rw[u,l9,l9];exact lR
 have hn:=hS.n;have a2:=h1.mono (H':=I) (fun j hj=>hS.g j oM) lR;have a3:=h2.mono (H':=I) (fun j hj=>hS.g j oM) lR;have a6:=k1.mono (H':=I) (fun j hj=>hS.g j oM) lR;have a7:=k2.mono (H':=I) (fun j hj=>hS.g j oM) lR;rw[i7 KH rfl _ sM,jZ];rcases W:decide (x.op=y.op)with _|_
 .exact J4 u.symm D E W trivial
 rcases X:(decide (x.sp=y.sp)&&decide (x.lc=y.lc))with _|_
 .exact J5 u.symm D E W X trivial
 rcases b3:decide (x.vl=y.vl)with _|_
 .exact J6 u.symm D E W X b3 trivial
 have el:decide ((x.a.length:Int)=y.a.length)=decide (x.a.length=y.a.length):=wG.2 oM;rcases b4:decide (x.a.length=y.a.length)with _|_
 .exact J8 u.symm D E W X b3 el b4 trivial
 have a1:decide ((x.b.length:Int)=y.b.length)=decide (x.b.length=y.b.length):=wG.2 oM;rcases b5:decide (x.b.length=y.b.length)with _|_
 .exact J10 u.symm D E W X b3 el b4 a1 b5 trivial
 refine J10 u.symm D E W X b3 el b4 a1 b5 ?_;refine i8 (F:=fun z=>t6 _ _ _ (t7 (inBlock 0 z) _)=_) (FO k a4 I lo va vb ca cb x.a y.a (dT b4) oM a2 a6 h3 H.n (H.n+1) _ _ D E rfl rfl (S9 x.a y.a) x.a.length _ _ ⟨0,rfl,oM,rfl,rfl,rfl,rfl,rfl⟩) ?_;rintro o e' H' ⟨rfl,⟨S,g2,g3,U⟩|⟨S,g4,U⟩⟩
 .refine J2 S U ?_;refine i8 (F:=fun z=>t6 _ _ _ (t7 (inBlock 2 z) _)=_) (FP k a5 H' lo wa wb J O x.b y.b (dT b5) oM a3 a7 h4 H.n (H.n+1) _ _ D E rfl rfl (S9 x.b y.b) x.b.length _ _ ⟨0,rfl,oM,g2,g3,rfl,rfl,rfl⟩) ?_;rintro o e' H2 ⟨rfl,⟨S,g2,g3,U⟩|⟨S,g4,U⟩⟩
  .exact J2 S U trivial
  .exact J3 S g4 U trivial
 .exact J3 S g4 U trivial
def MB:∀k,U7 103 false k/\U7 128 true k:=by
 intro k;induction k with
 |zero=>exact⟨fun H lo c1 c2 x y u z D=>z.elim,fun H lo c1 c2 x y u z D=>z.elim⟩
 |succ k h=>exact⟨TS k h.1 h.2,Pz k h.2 h.1⟩
def QR.up{H:d7}{lo:Nat}:∀{k:Nat}{f:Bool}{cs:LV}{q:Q},QR H lo k f cs q->QR H lo (k+1) f cs q:=by
 intro k;induction k with
 |zero=>intro f cs q h;exact h.elim
 |succ k u=>
  intro f cs q h;obtain⟨v,w,z,D,E,I⟩:=h;exact⟨v,w,z,SlI.mono D (fun _ _=>rfl) lR (fun _ _ h=>u h),SlI.mono E (fun _ _=>rfl) lR (fun _ _ h=>u h),I⟩
mutual
def fsQ:Bool->Q->List Q
 |f,.mk o s c v a b=>(if f then [.mk o s c v a b] else [])++(fsL f a++fsL (!f) b)
def fsL:Bool->List Q->List Q
 |_,[]=>[]
 |f,x::l=>fsQ f x++fsL f l
end
def jM(f:Bool)(q:Q):fsQ f q=(if f then [q] else [])++(fsL f q.a++fsL (!f) q.b):=by cases q;rw[fsQ];rfl
def ez(f:Bool):∀l,fsL f l=l.flatMap (fsQ f)
 |[]=>by rw[fsL];rfl
 |x::l=>by rw[fsL,ez f l,vM]
mutual
def inQ:Bool->Q->List Q
 |f,.mk o s c v a b=>inL f a++(if f then(if o=11 then inL false b++b else []) else inL true b)
def inL:Bool->List Q->List Q
 |_,[]=>[]
 |f,x::l=>inQ f x++inL f l
end
def sK(q:Q):inQ false q=inL false q.a++inL true q.b:=by cases q;rw[inQ];rfl
def lZ(q:Q):inQ true q=inL true q.a++(if q.op=11 then inL false q.b++q.b else []):=by cases q;rw[inQ];rfl
def iT(f:Bool):∀l,inL f l=l.flatMap (inQ f)
 |[]=>by rw[inL];rfl
 |x::l=>by rw[inL,iT f l,vM]
def OkD(f:Bool)(q:Q):Prop:=∃d,okQ d f q=true
def OkD.parts{f:Bool}{q:Q}(h:OkD f q):(∀x∈q.a,OkD f x)/\(∀x∈q.b,OkD (!f) x)/\1<=q.op/\eF f q=true/\okN q.op (if f then 11 else 7) (lst f q.op) (mst f q.op) q.a.length q.b.length=true:=by
 obtain⟨d,h⟩:=h;cases d with
 |zero=>cases h
 |succ d=>
  rw[okQ]at h;simp only[cA,eT,tA]at h;obtain⟨⟨⟨⟨z,D⟩,E⟩,I⟩,J⟩:=h;exact⟨fun x u=>⟨d,I x u⟩,fun x u=>⟨d,J x u⟩,z,D,E⟩
def gJ{op s u z:Int}{D E:Nat}(h:okN op s u z D E=true):u<=D/\(D:Int)<=z/\(op=s↔E=1)/\E<=1:=by
 simp only[okN,cA,eT,Wq]at h;obtain⟨⟨⟨I,J⟩,O⟩,S⟩:=h;exact⟨I,J,by simpa using O,S⟩
def Z1(fn:Nat)(f:Bool)(sz:Nat)(rf:Bool)(F:Q->List Q)(k:Nat):Prop:=∀(H:d7)(lo:Nat)(cs:LV)(q:Q),lo<=H.n->QR H lo k f cs q->(F q).length<=1000000->OkD f q->Q3 (CL prog l7 fn [.agg cs.toArray] H) H sz (QR H lo k rf) (F q)
def Sy(F:Q->List Q)(k:Nat)(ih:Z1 104 false 6 true F k)(D:d7)(lo z:Nat)(b1:lo<=z)(a9:z<D.n)(va:Option Addr)(ca:Nat)(l:List Q)(hv:QsR D lo k false (.slice va l.length ca) l)(hn:l.length<=1048576)(cl:LV)(hb:D.g z=cE cl 1)(hc:cl[1]?=some (.slice va l.length ca))(r:List Q)(hr:r.length<=1000000)(hw:∀x∈l,OkD false x):
  ∀kk e H2,(∃(i:Nat)(u:List Q)(w:aa3),kk=l.length-i/\i<=l.length/\e.g 1=pT z/\e.g 3=w/\e.g 4=iV i/\u5 H2 (z+1) 6 (QR D lo (k+1) true) w u/\d9 (z+1) D H2/\u++(l.drop i).flatMap F=r)->
  u7 (LE prog l7 (.loop Rq) e H2) (fun o e H2=>o= .exit 0/\e.g 1=pT z/\∃w,e.g 3=w/\u5 H2 (z+1) 6 (QR D lo (k+1) true) w r/\d9 (z+1) D H2):=by
 refine i5 _ _ ?_;rintro kk e H2 ⟨i,u,w,hk,hi,X,f3,f6,hO,I,O⟩;have U:H2.g z=cE cl 1:=by rw[I.g z oM];exact hb
 have b3:=I.n;rcases b:decide ((i:Int)<l.length)with _|_
 .have a4:=dF b;have:l.drop i=[]:=dN oM;rw[this,Fc,su]at O;refine J5 X f6 U hc b ?_;exact i6 ⟨rfl,X,w,f3,by rw[<-O];exact hO,I⟩
 have a4:=dT b;obtain⟨x,nb,o,cs,own,el,hx,hd,rfl,b2,hg,b0,E,hR⟩:=hv.row (i:=i) oM;have nt:(i:Int).toNat=i:=tN i;simp only[qSz,jd,bF]at E hg;have a6:=(I.g nb oM).trans hg;rw[hd,vM,<-yo]at O;have a8:u.length+(F x).length<=1000000:=by
  have:r.length=u.length+(F x).length+((l.drop (i+1)).flatMap F).length:=by rw[<-O,dx,dx]
  omega
 obtain⟨v,h,H3,a5,a7,a1,J⟩:=ih H2 lo el x oM (hR.mono (fun j hj=>I.g j oM) lR) oM (hw x (mG hx));have S:u5 H3 H2.n 6 (QR D lo (k+1) true) v (F x):=a1.imp fun cs q h=>(h.mono (fun j hj=>(I.g j oM).symm) lR).up;have b4:=J.n;obtain⟨v',h',H4,ha,W,a2,a3⟩:=(hO.keep J).append (P:=prog) (t:=34) (n:=H3.n) (by exact yV.2.2.2.2.2.2) Y7.1 Y7.2.1 Y7.2.2.1 oM oM S.sl oM oM;refine J14 X f3 f6 U hc b a6 nt E @wrap_small a5 a7 ha W ?_;refine d8 (kk-1) oM ⟨i+1,u++F x,v',oM,oM,X,rfl,rfl,a2,(I.trans (J.wk oM)).trans a3,O⟩
def Sz(F:Q->List Q)(k:Nat)(ih:Z1 129 true 6 true F k)(D:d7)(lo z:Nat)(b1:lo<=z)(a9:z<D.n)(va:Option Addr)(ca:Nat)(l:List Q)(hv:QsR D lo k true (.slice va l.length ca) l)(hn:l.length<=1048576)(cl:LV)(hb:D.g z=cE cl 1)(hc:cl[2]?=some (.slice va l.length ca))(r:List Q)(hr:r.length<=1000000)(hw:∀x∈l,OkD true x):
  ∀kk e H2,(∃(i:Nat)(u:List Q)(w:aa3),kk=l.length-i/\i<=l.length/\e.g 1=pT z/\e.g 3=w/\e.g 5=iV i/\u5 H2 (z+1) 6 (QR D lo (k+1) true) w u/\d9 (z+1) D H2/\u++(l.drop i).flatMap F=r)->
  u7 (LE prog l7 (.loop Rr) e H2) (fun o e H2=>o= .exit 2/\e.g 1=pT z/\∃w,e.g 3=w/\u5 H2 (z+1) 6 (QR D lo (k+1) true) w r/\d9 (z+1) D H2):=by
 refine i5 _ _ ?_;rintro kk e H2 ⟨i,u,w,hk,hi,X,f3,f6,hO,I,O⟩;have U:H2.g z=cE cl 1:=by rw[I.g z oM];exact hb
 have b3:=I.n;rcases b:decide ((i:Int)<l.length)with _|_
 .have a4:=dF b;have:l.drop i=[]:=dN oM;rw[this,Fc,su]at O;refine J5 X f6 U hc b ?_;exact i6 ⟨rfl,X,w,f3,by rw[<-O];exact hO,I⟩
 have a4:=dT b;obtain⟨x,nb,o,cs,own,el,hx,hd,rfl,b2,hg,b0,E,hR⟩:=hv.row (i:=i) oM;have nt:(i:Int).toNat=i:=tN i;simp only[qSz,jd,bF]at E hg;have a6:=(I.g nb oM).trans hg;rw[hd,vM,<-yo]at O;have a8:u.length+(F x).length<=1000000:=by
  have:r.length=u.length+(F x).length+((l.drop (i+1)).flatMap F).length:=by rw[<-O,dx,dx]
  omega
 obtain⟨v,h,H3,a5,a7,a1,J⟩:=ih H2 lo el x oM (hR.mono (fun j hj=>I.g j oM) lR) oM (hw x (mG hx));have S:u5 H3 H2.n 6 (QR D lo (k+1) true) v (F x):=a1.imp fun cs q h=>(h.mono (fun j hj=>(I.g j oM).symm) lR).up;have b4:=J.n;obtain⟨v',h',H4,ha,W,a2,a3⟩:=(hO.keep J).append (P:=prog) (t:=34) (n:=H3.n) (by exact yV.2.2.2.2.2.2) Y7.1 Y7.2.1 Y7.2.2.1 oM oM S.sl oM oM;refine J14 X f3 f6 U hc b a6 nt E @wrap_small a5 a7 ha W ?_;refine d8 (kk-1) oM ⟨i+1,u++F x,v',oM,oM,X,rfl,rfl,a2,(I.trans (J.wk oM)).trans a3,O⟩
def Om(F:Q->List Q)(k:Nat)(ih:Z1 129 true 6 true F k)(D:d7)(lo z:Nat)(b1:lo<=z)(a9:z<D.n)(va:Option Addr)(ca:Nat)(l:List Q)(hv:QsR D lo k true (.slice va l.length ca) l)(hn:l.length<=1048576)(cl:LV)(hb:D.g z=cE cl 1)(hc:cl[4]?=some (.slice va l.length ca))(r:List Q)(hr:r.length<=1000000)(hw:∀x∈l,OkD true x):
  ∀kk e H2,(∃(i:Nat)(u:List Q)(w:aa3),kk=l.length-i/\i<=l.length/\e.g 1=pT z/\e.g 3=w/\e.g 4=iV i/\u5 H2 (z+1) 6 (QR D lo (k+1) true) w u/\d9 (z+1) D H2/\u++(l.drop i).flatMap F=r)->
  u7 (LE prog l7 (.loop RJ) e H2) (fun o e H2=>o= .exit 0/\e.g 1=pT z/\∃w,e.g 3=w/\u5 H2 (z+1) 6 (QR D lo (k+1) true) w r/\d9 (z+1) D H2):=by
 refine i5 _ _ ?_;rintro kk e H2 ⟨i,u,w,hk,hi,X,f3,f6,hO,I,O⟩;have U:H2.g z=cE cl 1:=by rw[I.g z oM];exact hb
 have b3:=I.n;rcases b:decide ((i:Int)<l.length)with _|_
 .have a4:=dF b;have:l.drop i=[]:=dN oM;rw[this,Fc,su]at O;refine J5 X f6 U hc b ?_;exact i6 ⟨rfl,X,w,f3,by rw[<-O];exact hO,I⟩
 have a4:=dT b;obtain⟨x,nb,o,cs,own,el,hx,hd,rfl,b2,hg,b0,E,hR⟩:=hv.row (i:=i) oM;have nt:(i:Int).toNat=i:=tN i;simp only[qSz,jd,bF]at E hg;have a6:=(I.g nb oM).trans hg;rw[hd,vM,<-yo]at O;have a8:u.length+(F x).length<=1000000:=by
  have:r.length=u.length+(F x).length+((l.drop (i+1)).flatMap F).length:=by rw[<-O,dx,dx]
  omega
 obtain⟨v,h,H3,a5,a7,a1,J⟩:=ih H2 lo el x oM (hR.mono (fun j hj=>I.g j oM) lR) oM (hw x (mG hx));have S:u5 H3 H2.n 6 (QR D lo (k+1) true) v (F x):=a1.imp fun cs q h=>(h.mono (fun j hj=>(I.g j oM).symm) lR).up;have b4:=J.n;obtain⟨v',h',H4,ha,W,a2,a3⟩:=(hO.keep J).append (P:=prog) (t:=34) (n:=H3.n) (by exact yV.2.2.2.2.2.2) Y7.1 Y7.2.1 Y7.2.2.1 oM oM S.sl oM oM;refine J14 X f3 f6 U hc b a6 nt E @wrap_small a5 a7 ha W ?_;refine d8 (kk-1) oM ⟨i+1,u++F x,v',oM,oM,X,rfl,rfl,a2,(I.trans (J.wk oM)).trans a3,O⟩
def On(F:Q->List Q)(k:Nat)(ih:Z1 104 false 6 true F k)(D:d7)(lo z:Nat)(b1:lo<=z)(a9:z<D.n)(va:Option Addr)(ca:Nat)(l:List Q)(hv:QsR D lo k false (.slice va l.length ca) l)(hn:l.length<=1048576)(cl:LV)(hb:D.g z=cE cl 1)(hc:cl[5]?=some (.slice va l.length ca))(r:List Q)(hr:r.length<=1000000)(hw:∀x∈l,OkD false x):
  ∀kk e H2,(∃(i:Nat)(u:List Q)(w:aa3),kk=l.length-i/\i<=l.length/\e.g 1=pT z/\e.g 3=w/\e.g 5=iV i/\u5 H2 (z+1) 6 (QR D lo (k+1) true) w u/\d9 (z+1) D H2/\u++(l.drop i).flatMap F=r)->
  u7 (LE prog l7 (.loop RK) e H2) (fun o e H2=>o= .exit 2/\e.g 1=pT z/\∃w,e.g 3=w/\u5 H2 (z+1) 6 (QR D lo (k+1) true) w r/\d9 (z+1) D H2):=by
 refine i5 _ _ ?_;rintro kk e H2 ⟨i,u,w,hk,hi,X,f3,f6,hO,I,O⟩;have U:H2.g z=cE cl 1:=by rw[I.g z oM];exact hb
 have b3:=I.n;rcases b:decide ((i:Int)<l.length)with _|_
 .have a4:=dF b;have:l.drop i=[]:=dN oM;rw[this,Fc,su]at O;refine J5 X f6 U hc b ?_;exact i6 ⟨rfl,X,w,f3,by rw[<-O];exact hO,I⟩
 have a4:=dT b;obtain⟨x,nb,o,cs,own,el,hx,hd,rfl,b2,hg,b0,E,hR⟩:=hv.row (i:=i) oM;have nt:(i:Int).toNat=i:=tN i;simp only[qSz,jd,bF]at E hg;have a6:=(I.g nb oM).trans hg;rw[hd,vM,<-yo]at O;have a8:u.length+(F x).length<=1000000:=by
  have:r.length=u.length+(F x).length+((l.drop (i+1)).flatMap F).length:=by rw[<-O,dx,dx]
  omega
 obtain⟨v,h,H3,a5,a7,a1,J⟩:=ih H2 lo el x oM (hR.mono (fun j hj=>I.g j oM) lR) oM (hw x (mG hx));have S:u5 H3 H2.n 6 (QR D lo (k+1) true) v (F x):=a1.imp fun cs q h=>(h.mono (fun j hj=>(I.g j oM).symm) lR).up;have b4:=J.n;obtain⟨v',h',H4,ha,W,a2,a3⟩:=(hO.keep J).append (P:=prog) (t:=34) (n:=H3.n) (by exact yV.2.2.2.2.2.2) Y7.1 Y7.2.1 Y7.2.2.1 oM oM S.sl oM oM;refine J14 X f3 f6 U hc b a6 nt E @wrap_small a5 a7 ha W ?_;refine d8 (kk-1) oM ⟨i+1,u++F x,v',oM,oM,X,rfl,rfl,a2,(I.trans (J.wk oM)).trans a3,O⟩
def Sw(F:Q->List Q)(k:Nat)(ih:Z1 75 false 3 false F k)(D:d7)(lo z:Nat)(b1:lo<=z)(a9:z<D.n)(va:Option Addr)(ca:Nat)(l:List Q)(hv:QsR D lo k false (.slice va l.length ca) l)(hn:l.length<=1048576)(cl:LV)(hb:D.g z=cE cl 1)(hc:cl[1]?=some (.slice va l.length ca))(r:List Q)(hr:r.length<=1000000)(hw:∀x∈l,OkD false x):
  ∀kk e H2,(∃(i:Nat)(u:List Q)(w:aa3),kk=l.length-i/\i<=l.length/\e.g 1=pT z/\e.g 3=w/\e.g 4=iV i/\u5 H2 (z+1) 3 (QR D lo (k+1) false) w u/\d9 (z+1) D H2/\u++(l.drop i).flatMap F=r)->
  u7 (LE prog l7 (.loop VA) e H2) (fun o e H2=>o= .exit 0/\e.g 1=pT z/\∃w,e.g 3=w/\u5 H2 (z+1) 3 (QR D lo (k+1) false) w r/\d9 (z+1) D H2):=by
 refine i5 _ _ ?_;rintro kk e H2 ⟨i,u,w,hk,hi,X,f3,f6,hO,I,O⟩;have U:H2.g z=cE cl 1:=by rw[I.g z oM];exact hb
 have b3:=I.n;rcases b:decide ((i:Int)<l.length)with _|_
 .have a4:=dF b;have:l.drop i=[]:=dN oM;rw[this,Fc,su]at O;refine J5 X f6 U hc b ?_;exact i6 ⟨rfl,X,w,f3,by rw[<-O];exact hO,I⟩
 have a4:=dT b;obtain⟨x,nb,o,cs,own,el,hx,hd,rfl,b2,hg,b0,E,hR⟩:=hv.row (i:=i) oM;have nt:(i:Int).toNat=i:=tN i;simp only[qSz,jd,bF]at E hg;have a6:=(I.g nb oM).trans hg;rw[hd,vM,<-yo]at O;have a8:u.length+(F x).length<=1000000:=by
  have:r.length=u.length+(F x).length+((l.drop (i+1)).flatMap F).length:=by rw[<-O,dx,dx]
  omega
 obtain⟨v,h,H3,a5,a7,a1,J⟩:=ih H2 lo el x oM (hR.mono (fun j hj=>I.g j oM) lR) oM (hw x (mG hx));have S:u5 H3 H2.n 3 (QR D lo (k+1) false) v (F x):=a1.imp fun cs q h=>(h.mono (fun j hj=>(I.g j oM).symm) lR).up;have b4:=J.n;obtain⟨v',h',H4,ha,W,a2,a3⟩:=(hO.keep J).append (P:=prog) (t:=33) (n:=H3.n) (by exact qJ.2.2.2.2.2.2) cd.1 cd.2.1 cd.2.2.1 oM oM S.sl oM oM;refine J14 X f3 f6 U hc b a6 nt E @wrap_small a5 a7 ha W ?_;refine d8 (kk-1) oM ⟨i+1,u++F x,v',oM,oM,X,rfl,rfl,a2,(I.trans (J.wk oM)).trans a3,O⟩
def Sx(F:Q->List Q)(k:Nat)(ih:Z1 102 true 3 false F k)(D:d7)(lo z:Nat)(b1:lo<=z)(a9:z<D.n)(va:Option Addr)(ca:Nat)(l:List Q)(hv:QsR D lo k true (.slice va l.length ca) l)(hn:l.length<=1048576)(cl:LV)(hb:D.g z=cE cl 1)(hc:cl[2]?=some (.slice va l.length ca))(r:List Q)(hr:r.length<=1000000)(hw:∀x∈l,OkD true x):
  ∀kk e H2,(∃(i:Nat)(u:List Q)(w:aa3),kk=l.length-i/\i<=l.length/\e.g 1=pT z/\e.g 3=w/\e.g 5=iV i/\u5 H2 (z+1) 3 (QR D lo (k+1) false) w u/\d9 (z+1) D H2/\u++(l.drop i).flatMap F=r)->
  u7 (LE prog l7 (.loop VB) e H2) (fun o e H2=>o= .exit 2/\e.g 1=pT z/\∃w,e.g 3=w/\u5 H2 (z+1) 3 (QR D lo (k+1) false) w r/\d9 (z+1) D H2):=by
 refine i5 _ _ ?_;rintro kk e H2 ⟨i,u,w,hk,hi,X,f3,f6,hO,I,O⟩;have U:H2.g z=cE cl 1:=by rw[I.g z oM];exact hb
 have b3:=I.n;rcases b:decide ((i:Int)<l.length)with _|_
 .have a4:=dF b;have:l.drop i=[]:=dN oM;rw[this,Fc,su]at O;refine J5 X f6 U hc b ?_;exact i6 ⟨rfl,X,w,f3,by rw[<-O];exact hO,I⟩
 have a4:=dT b;obtain⟨x,nb,o,cs,own,el,hx,hd,rfl,b2,hg,b0,E,hR⟩:=hv.row (i:=i) oM;have nt:(i:Int).toNat=i:=tN i;simp only[qSz,jd,bF]at E hg;have a6:=(I.g nb oM).trans hg;rw[hd,vM,<-yo]at O;have a8:u.length+(F x).length<=1000000:=by
  have:r.length=u.length+(F x).length+((l.drop (i+1)).flatMap F).length:=by rw[<-O,dx,dx]
  omega
 obtain⟨v,h,H3,a5,a7,a1,J⟩:=ih H2 lo el x oM (hR.mono (fun j hj=>I.g j oM) lR) oM (hw x (mG hx));have S:u5 H3 H2.n 3 (QR D lo (k+1) false) v (F x):=a1.imp fun cs q h=>(h.mono (fun j hj=>(I.g j oM).symm) lR).up;have b4:=J.n;obtain⟨v',h',H4,ha,W,a2,a3⟩:=(hO.keep J).append (P:=prog) (t:=33) (n:=H3.n) (by exact qJ.2.2.2.2.2.2) cd.1 cd.2.1 cd.2.2.1 oM oM S.sl oM oM;refine J14 X f3 f6 U hc b a6 nt E @wrap_small a5 a7 ha W ?_;refine d8 (kk-1) oM ⟨i+1,u++F x,v',oM,oM,X,rfl,rfl,a2,(I.trans (J.wk oM)).trans a3,O⟩
def SA(F:Q->List Q)(k:Nat)(ih:Z1 102 true 3 false F k)(D:d7)(lo z:Nat)(b1:lo<=z)(a9:z<D.n)(va:Option Addr)(ca:Nat)(l:List Q)(hv:QsR D lo k true (.slice va l.length ca) l)(hn:l.length<=1048576)(cl:LV)(hb:D.g z=cE cl 1)(hc:cl[4]?=some (.slice va l.length ca))(r:List Q)(hr:r.length<=1000000)(hw:∀x∈l,OkD true x):
  ∀kk e H2,(∃(i:Nat)(u:List Q)(w:aa3),kk=l.length-i/\i<=l.length/\e.g 1=pT z/\e.g 3=w/\e.g 4=iV i/\u5 H2 (z+1) 3 (QR D lo (k+1) false) w u/\d9 (z+1) D H2/\u++(l.drop i).flatMap F=r)->
  u7 (LE prog l7 (.loop Rm) e H2) (fun o e H2=>o= .exit 0/\e.g 1=pT z/\∃w,e.g 3=w/\u5 H2 (z+1) 3 (QR D lo (k+1) false) w r/\d9 (z+1) D H2):=by
 refine i5 _ _ ?_;rintro kk e H2 ⟨i,u,w,hk,hi,X,f3,f6,hO,I,O⟩;have U:H2.g z=cE cl 1:=by rw[I.g z oM];exact hb
 have b3:=I.n;rcases b:decide ((i:Int)<l.length)with _|_
 .have a4:=dF b;have:l.drop i=[]:=dN oM;rw[this,Fc,su]at O;refine J5 X f6 U hc b ?_;exact i6 ⟨rfl,X,w,f3,by rw[<-O];exact hO,I⟩
 have a4:=dT b;obtain⟨x,nb,o,cs,own,el,hx,hd,rfl,b2,hg,b0,E,hR⟩:=hv.row (i:=i) oM;have nt:(i:Int).toNat=i:=tN i;simp only[qSz,jd,bF]at E hg;have a6:=(I.g nb oM).trans hg;rw[hd,vM,<-yo]at O;have a8:u.length+(F x).length<=1000000:=by
  have:r.length=u.length+(F x).length+((l.drop (i+1)).flatMap F).length:=by rw[<-O,dx,dx]
  omega
 obtain⟨v,h,H3,a5,a7,a1,J⟩:=ih H2 lo el x oM (hR.mono (fun j hj=>I.g j oM) lR) oM (hw x (mG hx));have S:u5 H3 H2.n 3 (QR D lo (k+1) false) v (F x):=a1.imp fun cs q h=>(h.mono (fun j hj=>(I.g j oM).symm) lR).up;have b4:=J.n;obtain⟨v',h',H4,ha,W,a2,a3⟩:=(hO.keep J).append (P:=prog) (t:=33) (n:=H3.n) (by exact qJ.2.2.2.2.2.2) cd.1 cd.2.1 cd.2.2.1 oM oM S.sl oM oM;refine J14 X f3 f6 U hc b a6 nt E @wrap_small a5 a7 ha W ?_;refine d8 (kk-1) oM ⟨i+1,u++F x,v',oM,oM,X,rfl,rfl,a2,(I.trans (J.wk oM)).trans a3,O⟩
def Xq(k:Nat)(a7:Z1 104 false 6 true (fsQ false) k)(a8:Z1 129 true 6 true (fsQ true) k):Z1 104 false 6 true (fsQ false) (k+1):=by
 intro H lo cs q U hr hl a6;obtain⟨a9,b0,_⟩:=a6.parts;obtain⟨va,ca,wa,E,rfl,h1,h2,h3,h4⟩:=hr.path;obtain⟨D,J,-,hg,X⟩:=pushF H (bC [iV q.op,.slice va q.a.length ca,.slice wa q.b.length E] 1);have W:H.n<=D.low:=by rw[J,l9];exact lR
 have a4:=u6 hg;have hs:fsQ false q=(fsL false q.a)++fsL true q.b:=by rw[jM false q,bt Ux,sB]<;>rfl
 have a1:=h1.mono (H':=D) (fun j hj=>X.g j oM) lR;have a2:=h2.mono (H':=D) (fun j hj=>X.g j oM) lR;rw[hs]at hl ⊢;have a5:(fsL false q.a).length<=1000000:=by rw[dx]at hl;omega
 rw[i7 KC rfl _ sM];refine J1 J.symm ?_;refine i8 (F:=fun z=>Q3 (t6 _ _ _ (t7 (inBlock 0 z) _)) _ _ _ _) (Sy (fsQ false) k a7 D lo H.n U a4 va ca q.a a1 h3 _ hg rfl (fsL false q.a) a5 a9 q.a.length _ _ ⟨0,[],_,rfl,oM,rfl,rfl,rfl,u5.nil,d9.refl _ _,by rw[ez];rfl⟩) ?_;rintro o e' H2 ⟨ho,g1,w,g3,hO,u⟩;have b1:=u.n;have S:H2.g H.n=_:=(u.g H.n oM).trans hg;have I:=a2.mono (H':=H2) (fun j hj=>u.g j oM) lR;refine J1 ho ?_;refine i8 (F:=fun z=>Q3 (t6 _ _ _ (t7 (inBlock 2 z) _)) _ _ _ _) (Sz (fsQ true) k a8 H2 lo H.n U (u6 S) wa E q.b I h4 _ S rfl (fsL false q.a++fsL true q.b) hl b0 q.b.length _ _ ⟨0,fsL false q.a,w,rfl,oM,g1,g3,rfl,hO.imp fun cs q h=>h.mono (fun j hj=>u.g j oM) lR,d9.refl _ _,by rw[ez true];rfl⟩) ?_;rintro o e' H3 ⟨ho,g1,w,g3,hO,a3⟩;have O:d9 (H.n+1) D H3:=u.trans a3;refine J2 ho g3 ?_;exact L5 ((hO.wk oM).imp fun cs q h=>h.mono (fun j hj=>by rw[<-X.g j oM,<-u.g j oM]) lR) (X.trans (O.wk oM)) ((O.wk oM).low W)
def Xp(k:Nat)(a7:Z1 75 false 3 false (inQ false) k)(a8:Z1 102 true 3 false (inQ true) k):Z1 75 false 3 false (inQ false) (k+1):=by
 intro H lo cs q U hr hl a6;obtain⟨a9,b0,_⟩:=a6.parts;obtain⟨va,ca,wa,E,rfl,h1,h2,h3,h4⟩:=hr.path;obtain⟨D,J,-,hg,X⟩:=pushF H (bC [iV q.op,.slice va q.a.length ca,.slice wa q.b.length E] 1);have W:H.n<=D.low:=by rw[J,l9];exact lR
 have a4:=u6 hg;have hs:inQ false q=(inL false q.a)++inL true q.b:=by rw[sK q]<;>rfl
 have a1:=h1.mono (H':=D) (fun j hj=>X.g j oM) lR;have a2:=h2.mono (H':=D) (fun j hj=>X.g j oM) lR;rw[hs]at hl ⊢;have a5:(inL false q.a).length<=1000000:=by rw[dx]at hl;omega
 rw[i7 Sk rfl _ sM];refine J1 J.symm ?_;refine i8 (F:=fun z=>Q3 (t6 _ _ _ (t7 (inBlock 0 z) _)) _ _ _ _) (Sw (inQ false) k a7 D lo H.n U a4 va ca q.a a1 h3 _ hg rfl (inL false q.a) a5 a9 q.a.length _ _ ⟨0,[],_,rfl,oM,rfl,rfl,rfl,u5.nil,d9.refl _ _,by rw[iT];rfl⟩) ?_;rintro o e' H2 ⟨ho,g1,w,g3,hO,u⟩;have b1:=u.n;have S:H2.g H.n=_:=(u.g H.n oM).trans hg;have I:=a2.mono (H':=H2) (fun j hj=>u.g j oM) lR;refine J1 ho ?_;refine i8 (F:=fun z=>Q3 (t6 _ _ _ (t7 (inBlock 2 z) _)) _ _ _ _) (Sx (inQ true) k a8 H2 lo H.n U (u6 S) wa E q.b I h4 _ S rfl (inL false q.a++inL true q.b) hl b0 q.b.length _ _ ⟨0,inL false q.a,w,rfl,oM,g1,g3,rfl,hO.imp fun cs q h=>h.mono (fun j hj=>u.g j oM) lR,d9.refl _ _,by rw[iT true];rfl⟩) ?_;rintro o e' H3 ⟨ho,g1,w,g3,hO,a3⟩;have O:d9 (H.n+1) D H3:=u.trans a3;refine J2 ho g3 ?_;exact L5 ((hO.wk oM).imp fun cs q h=>h.mono (fun j hj=>by rw[<-X.g j oM,<-u.g j oM]) lR) (X.trans (O.wk oM)) ((O.wk oM).low W)
def Sv(k:Nat)(b7:Z1 129 true 6 true (fsQ true) k)(b8:Z1 104 false 6 true (fsQ false) k):Z1 129 true 6 true (fsQ true) (k+1):=by
 intro H lo cs q a4 hr hl b6;obtain⟨b9,c0,_⟩:=b6.parts;have a6:=hr;obtain⟨va,ca,wa,O,rfl,h1,h2,h3,h4,_⟩:=hr.filter;obtain⟨D,u⟩:=eY ([iV q.op,.string q.sp,.string q.lc,.string q.vl,.slice va q.a.length ca,.slice wa q.b.length O]:LV);obtain⟨J,X,-,hg,hS⟩:=pushF H (bC D 1);have a5:H.n<=J.low:=by rw[X,l9];exact lR
 have c3:=u6 hg;have b4:ldC (some true) (some 6) 0 D=some (.agg D.toArray):=by rw[u];rfl
 obtain⟨H2,S⟩:=eY (J.push (bC D 6));have E:d9 (H.n+1) J H2:=by rw[S];exact d9.push oM
 have c4:=E.n;have U:H2.g H.n=_:=(E.g H.n oM).trans hg;rw[<-u]at a6;have hO:u5 H2 (H.n+1) 6 (QR H2 lo (k+1) true) (sL J.n 1 1) [q]:=by
  rw[S];refine u5.fresh rfl oM (F1.one (by rw[u];rfl) (a6.mono (fun j hj=>?_) lR));rw[j5 oM,hS.g j oM]
 have hs:fsQ true q=[q]++(fsL true q.a++fsL false q.b):=by rw[jM true q,bJ rfl];rfl
 have a8:=h1.mono (H':=H2) (fun j hj=>by rw[E.g j oM,hS.g j oM]) lR;rw[hs,<-yo]at hl ⊢;have b3:([q]++fsL true q.a).length<=1000000:=by rw[dx]at hl;omega
 have b1:D[4]?=some (.slice va q.a.length ca):=by rw[u];rfl
 have b2:D[5]?=some (.slice wa q.b.length O):=by rw[u];rfl
 have a2:D.all oC=true:=by rw[u];rfl
 have b0:(Value.agg D.toArray).cells.toList=D:=rfl;have b5:D.length=6:=by rw[u];rfl
 rw[i7 KI rfl _ sM,<-u];have a7:bsA prog (some 126) J 1 [(0,.agg D.toArray)]=some (sL J.n 1 1,H2):=by
  rw[u,S,u];simp only[E4,Y7,E5];rfl
 refine J5 a2 X.symm hg b4 a7 ?_;refine i8 (F:=fun z=>Q3 (t6 _ _ _ (t7 (inBlock 0 z) _)) _ _ _ _) (Om (fsQ true) k b7 H2 lo H.n a4 (u6 U) va ca q.a a8 h3 _ U b1 ([q]++fsL true q.a) b3 b9 q.a.length _ _ ⟨0,[q],_,rfl,oM,rfl,rfl,rfl,hO,d9.refl _ _,by rw[ez];rfl⟩) ?_;rintro o e' H3 ⟨ho,g1,w,g3,hO,I⟩;have c5:=I.n;have a3:H3.g H.n=_:=(I.g H.n oM).trans U;have W:=h2.mono (H':=H3) (fun j hj=>by rw[I.g j oM,E.g j oM,hS.g j oM]) lR;refine J1 ho ?_;refine i8 (F:=fun z=>Q3 (t6 _ _ _ (t7 (inBlock 2 z) _)) _ _ _ _) (On (fsQ false) k b8 H3 lo H.n a4 (u6 a3) wa O q.b W h4 _ a3 b2 ([q]++fsL true q.a++fsL false q.b) hl c0 q.b.length _ _ ⟨0,[q]++fsL true q.a,w,rfl,oM,g1,g3,rfl,hO.imp fun cs q h=>h.mono (fun j hj=>I.g j oM) lR,d9.refl _ _,by rw[ez false];rfl⟩) ?_;rintro o e' H4 ⟨ho,g1,w,g3,hO,a9⟩;have a1:d9 (H.n+1) J H4:=(E.trans I).trans a9;refine J2 ho g3 ?_;exact L5 ((hO.wk oM).imp fun cs q h=>h.mono (fun j hj=>by rw[<-hS.g j oM,<-E.g j oM,<-I.g j oM]) lR) (hS.trans (a1.wk oM)) ((a1.wk oM).low a5)
def Ss:∀k,Z1 104 false 6 true (fsQ false) k/\Z1 129 true 6 true (fsQ true) k:=by
 intro k;induction k with
 |zero=>exact⟨fun H lo cs q u z=>z.elim,fun H lo cs q u z=>z.elim⟩
 |succ k h=>exact⟨Xq k h.1 h.2,Sv k h.2 h.1⟩
def Xr(k:Nat)(d2:Z1 102 true 3 false (inQ true) k)(d3:Z1 75 false 3 false (inQ false) k):Z1 102 true 3 false (inQ true) (k+1):=by
 intro H lo cs q d0 hr hl d1;obtain⟨d4,d5,_,_,d6⟩:=d1.parts;have a5:=(gJ d6).2.2.1;simp only[jd]at a5;obtain⟨va,ca,wa,b4,rfl,h1,h2,h3,h4,_⟩:=hr.filter;obtain⟨H1,a6,-,hg,X⟩:=pushF H (bC [iV q.op,.string q.sp,.string q.lc,.string q.vl,.slice va q.a.length ca,.slice wa q.b.length b4] 1);have S:H.n<=H1.low:=by rw[a6,l9];exact lR
 have c8:=u6 hg;have b5:=h1.mono (H':=H1) (fun j hj=>X.g j oM) lR;rw[lZ]at hl ⊢;have a4:(inL true q.a).length<=1000000:=by rw[dx]at hl;omega
 rw[i7 Qc rfl _ sM];refine J1 a6.symm ?_;refine i8 (F:=fun z=>Q3 (t6 _ _ _ (t7 (inBlock 0 z) _)) _ _ _ _) (SA (inQ true) k d2 H1 lo H.n d0 c8 va ca q.a b5 h3 _ hg rfl (inL true q.a) a4 d4 q.a.length _ _ ⟨0,[],_,rfl,oM,rfl,rfl,rfl,u5.nil,d9.refl _ _,by rw[iT];rfl⟩) ?_;rintro o e' H2 ⟨ho,g1,w,g3,hO,u⟩;have e2:=u.n;have a3:H2.g H.n=_:=(u.g H.n oM).trans hg;rcases b:decide (q.op=11)with _|_
 .have hb:=dF b;rw[bt hb,su];refine J5 ho g1 g3 a3 b ?_;exact L5 ((hO.wk oM).imp fun cs q h=>h.mono (fun j hj=>by rw[<-X.g j oM]) lR) (X.trans (u.wk oM)) ((u.wk oM).low S)
 have hb:=dT b;rw[bJ hb]at hl ⊢;have a4:=a5.1 hb;obtain⟨x,nb,o,cs,own,el,hx,hd,rfl,e1,b1,c9,U,hR⟩:=h2.row (i:=0) oM;have a2:q.b=[x]:=by
  obtain⟨y,hy⟩:=Bj.1 a4;rw[hy]at hx ⊢;simpa using hx
 have c5:inL false q.b=inQ false x:=by rw[a2,iT];simp
 rw[c5,a2]at hl ⊢;simp only[dx,kO,yd]at hl;simp only[qSz,jd,bF,Md,G3,Ck,ly]at U b1 c9;have O:H2.g nb=_:=(u.g nb oM).trans ((X.g nb oM).trans b1);have D:QR H2 lo k false el x:=hR.mono (fun j hj=>by rw[u.g j oM,X.g j oM]) lR;obtain⟨v,h,H3,c4,c7,b6,E⟩:=d3 H2 lo el x oM D oM (d5 x (by rw[a2];simp));have a7:u5 H3 H2.n 3 (QR H1 lo (k+1) false) v (inQ false x):=b6.imp fun cs q h=>(h.mono (fun j hj=>(u.g j oM).symm) lR).up;have e4:=E.n;obtain⟨v',h',I,ha,a9,b7,J⟩:=(hO.keep E).append (P:=prog) (t:=33) (n:=H3.n) (by exact qJ.2.2.2.2.2.2) cd.1 cd.2.1 cd.2.2.1 oM oM a7.sl oM oM;have e5:=J.n;have c6:I.g H.n=_:=(J.g H.n oM).trans ((E.g H.n oM).trans a3);have b2:I.g nb=_:=(J.g nb oM).trans ((E.g nb oM).trans O);obtain⟨H5,W⟩:=eY (I.push (bC el 3));have a1:d9 I.n I H5:=by rw[W];exact d9.push oM
 have e6:=a1.n;have b8:u5 H5 I.n 3 (QR H1 lo (k+1) false) (sL I.n 1 1) [x]:=by
  rw[W];refine u5.fresh rfl oM (F1.one hR.len (D.up.mono (fun j hj=>(u.g j oM).symm) lR))
 obtain⟨v6,h6,H6,c3,b0,b9,c0⟩:=(b7.keep a1).append (P:=prog) (t:=33) (n:=H5.n) (by exact qJ.2.2.2.2.2.2) cd.1 cd.2.1 cd.2.2.1 oM oM b8.sl (by simp only[dx,kO,yd];omega) oM;have b3:bsA prog (some 36) I 1 [(0,.agg el.toArray)]=some (sL I.n 1 1,H5):=by
  have e3:el=[iV x.op,el[1]?.getD undef,el[2]?.getD undef]:=by
   cases k with
   |zero=>exact D.elim
   |succ k=>obtain⟨_,_,_,_,rfl,_⟩:=D.path;rfl
  rw[W];cases k with
  |zero=>exact D.elim
  |succ k=>
   obtain⟨_,_,_,_,rfl,_⟩:=D.path;simp only[E4,cd,E5];rfl
 refine J16 ho g1 g3 a3 b O U c4 c7 ha a9 c6 b2 b3 c3 b0 ?_;have a8:d9 (H.n+1) H1 H6:=(((u.trans (E.wk oM)).trans J).trans (a1.wk oM)).trans c0;rw[<-yo];exact L5 ((b9.wk oM).imp fun cs q h=>h.mono (fun j hj=>by rw[<-X.g j oM]) lR) (X.trans (a8.wk oM)) ((a8.wk oM).low S)
def SM:∀k,Z1 75 false 3 false (inQ false) k/\Z1 102 true 3 false (inQ true) k:=by
 intro k;induction k with
 |zero=>exact⟨fun H lo cs q u z=>z.elim,fun H lo cs q u z=>z.elim⟩
 |succ k h=>exact⟨Xp k h.1 h.2,Xr k h.2 h.1⟩
abbrev P0(x y:aa2×aa2):Bool:=decide (x.1=y.1)&&decide (x.2=y.2)
abbrev dP(x y:aa2):Bool:=decide (x=y)
abbrev bZ(x y:Bool×Bool×aa2):Bool:=(x.1==y.1)&&((x.2.1==y.2.1)&&decide (x.2.2=y.2.2))
def OL(H0:d7)(lo:Nat)(va:Option Addr)(S:Nat)(l:List (aa2×aa2))(x:aa2×aa2)(hv:SlI H0 lo 2 (y7 nmE) (.slice va l.length S) l)(hn:l.length<=1048576)(bx:Nat)(U:H0.g bx=cE (nmE x) 1)(r:Bool):
  ∀O e H2,(∃i:Nat,O=l.length-i/\i<=l.length/\e.g 0= .slice va l.length S/\e.g 3=pT bx/\e.g 5=iV i/\H2=H0/\(l.drop i).any (fun y=>P0 y x)=r)->
  u7 (LE prog l7 (.loop RL) e H2) (fun o e H2=>H2=H0/\((o= .exit 0/\r=false)\/(o= .ret/\e.g 4= .bool true/\r=true))):=by
 refine i5 _ _ ?_;rintro O e H2 ⟨i,hk,hi,D,E,I,hH,u⟩;subst hH;rcases b:decide ((i:Int)<l.length)with _|_
 .have J:=dF b;have:l.drop i=[]:=dN oM;rw[this,XN]at u;refine J3 D I b ?_;exact i6 ⟨rfl,.inl ⟨rfl,u.symm⟩⟩
 have J:=dT b;obtain⟨y,nb,o,cs,own,el,hx,hd,rfl,a2,W,a1,h,hc,rfl⟩:=hv.row (i:=i) oM;have X:(i:Int).toNat=i:=tN i;have c0:=hc 0 oM;rw[ly]at c0;rw[hd,Ic]at u;rcases z:(P0 y x:Bool)with _|_
 .simp only[z,bF,za]at u;refine J10 D E I b U W X h @wrap_small z ?_;exact d8 (O-1) oM ⟨i+1,oM,oM,D,E,rfl,rfl,u⟩
 .simp only[z,jd,EF]at u;refine J9 D E I b U W X h z ?_;exact y9 ⟨rfl,.inr ⟨rfl,rfl,u.symm⟩⟩
def SU(H0:d7)(lo:Nat)(va:Option Addr)(S:Nat)(l:List (Bool×Bool×aa2))(x:Bool×Bool×aa2)(hv:SlI H0 lo 3 (y7 soE) (.slice va l.length S) l)(hn:l.length<=1048576)(bx:Nat)(U:H0.g bx=cE (soE x) 1)(r:Int):
  ∀O e H2,(∃i:Nat,O=l.length-i/\i<=l.length/\e.g 0= .slice va l.length S/\e.g 3=pT bx/\e.g 5=iV i/\H2=H0/\ixG (fun y=>bZ y x) (l.drop i) i=r)->
  u7 (LE prog l7 (.loop UR) e H2) (fun o e H2=>H2=H0/\((o= .exit 0/\r= -1)\/(o= .ret/\e.g 4=iV r))):=by
 refine i5 _ _ ?_;rintro O e H2 ⟨i,hk,hi,D,E,I,hH,u⟩;subst hH;rcases b:decide ((i:Int)<l.length)with _|_
 .have J:=dF b;have:l.drop i=[]:=dN oM;rw[this,ixG]at u;refine J3 D I b ?_;exact i6 ⟨rfl,.inl ⟨rfl,u.symm⟩⟩
 have J:=dT b;obtain⟨y,nb,o,cs,own,el,hx,hd,rfl,a2,W,a1,h,hc,rfl⟩:=hv.row (i:=i) oM;have X:(i:Int).toNat=i:=tN i;have c0:=hc 0 oM;rw[ly]at c0;rw[hd,ixG]at u;rcases z:(bZ y x:Bool)with _|_
 .simp only[z,bF,za]at u;refine J11 D E I @aW b U W X h @wrap_small z ?_;exact d8 (O-1) oM ⟨i+1,oM,oM,D,E,rfl,rfl,u⟩
 .simp only[z,jd,EF]at u;refine J10 D E I @aW b U W X h z ?_;exact y9 ⟨rfl,.inr ⟨rfl,by rw[<-u];rfl⟩⟩
def SW(H0:d7)(lo:Nat)(va:Option Addr)(S:Nat)(l:List (aa2))(x:aa2)(hv:SlI H0 lo 1 (y7 stE) (.slice va l.length S) l)(hn:l.length<=1048576)(r:Bool):
  ∀O e H2,(∃i:Nat,O=l.length-i/\i<=l.length/\e.g 0= .slice va l.length S/\e.g 1= .string x/\e.g 5=iV i/\H2=H0/\(l.drop i).any (fun y=>dP y x)=r)->
  u7 (LE prog l7 (.loop VH) e H2) (fun o e H2=>H2=H0/\((o= .exit 0/\r=false)\/(o= .ret/\e.g 4= .bool true/\r=true))):=by
 refine i5 _ _ ?_;rintro O e H2 ⟨i,hk,hi,z,E,I,hH,h⟩;subst hH;rcases b:decide ((i:Int)<l.length)with _|_
 .have J:=dF b;have:l.drop i=[]:=dN oM;rw[this,XN]at h;refine J3 z I b ?_;exact i6 ⟨rfl,.inl ⟨rfl,h.symm⟩⟩
 have J:=dT b;obtain⟨y,nb,o,cs,own,el,hx,hd,rfl,a2,U,a1,W,hc,rfl⟩:=hv.row (i:=i) oM;have X:(i:Int).toNat=i:=tN i;have D:=hc 0 oM;rw[ly]at D;rw[hd,Ic]at h;rcases u:(dP y x:Bool)with _|_
 .simp only[u,bF,za]at h;refine J9 z E I b U X D @wrap_small u ?_;exact d8 (O-1) oM ⟨i+1,oM,oM,z,E,rfl,rfl,h⟩
 .simp only[u,jd,EF]at h;refine J8 z E I b U X D u ?_;exact y9 ⟨rfl,.inr ⟨rfl,rfl,h.symm⟩⟩
def SV(H0:d7)(lo:Nat)(va:Option Addr)(U:Nat)(l:List (Bool×Bool×aa2))(x:Bool×Bool×aa2)(hv:SlI H0 lo 3 (y7 soE) (.slice va l.length U) l)(hn:l.length<=1048576)(bx:Nat)(W:H0.g bx=cE (soE x) 1)(r:Int):
  ∀S e H2,(∃i:Nat,S=l.length-i/\i<=l.length/\e.g 0= .slice va l.length U/\e.g 3=pT bx/\e.g 7=iV l.length/\e.g 8=iV i/\H2=H0/\ixG (fun y=>bZ x y) (l.drop i) i=r)->
  u7 (LE prog l7 (.loop Rv) e H2) (fun o e H2=>H2=H0/\((o= .exit 0/\r= -1)\/(o= .ret/\e.g 4=iV r))):=by
 refine i5 _ _ ?_;rintro S e H2 ⟨i,hk,hi,E,I,D,J,hH,u⟩;subst hH;rcases b:decide ((i:Int)<l.length)with _|_
 .have O:=dF b;have:l.drop i=[]:=dN oM;rw[this,ixG]at u;refine J3 D J b ?_;exact i6 ⟨rfl,.inl ⟨rfl,u.symm⟩⟩
 have O:=dT b;obtain⟨y,nb,o,cs,own,el,hx,hd,rfl,a2,X,a1,h,hc,rfl⟩:=hv.row (i:=i) oM;have nt:(i:Int).toNat=i:=tN i;have c0:=hc 0 oM;rw[ly]at c0;rw[hd,ixG]at u;rcases z:(bZ x y:Bool)with _|_
 .simp only[z,bF,za]at u;refine J12 E I D J @aW b W X nt h @wrap_small z ?_;exact d8 (S-1) oM ⟨i+1,oM,oM,E,I,D,rfl,rfl,u⟩
 .simp only[z,jd,EF]at u;refine J11 E I D J @aW b W X nt h z ?_;exact y9 ⟨rfl,.inr ⟨rfl,by rw[<-u];rfl⟩⟩
def OK(H0:d7)(lo:Nat)(va:Option Addr)(U:Nat)(l:List (aa2))(x:aa2)(hv:SlI H0 lo 1 (y7 stE) (.slice va l.length U) l)(hn:l.length<=1048576)(r:Int):
  ∀S e H2,(∃i:Nat,S=l.length-i/\i<=l.length/\e.g 0= .slice va l.length U/\e.g 1= .string x/\e.g 7=iV l.length/\e.g 8=iV i/\H2=H0/\ixG (fun y=>dP x y) (l.drop i) i=r)->
  u7 (LE prog l7 (.loop RB) e H2) (fun o e H2=>H2=H0/\((o= .exit 0/\r= -1)\/(o= .ret/\e.g 4=iV r))):=by
 refine i5 _ _ ?_;rintro S e H2 ⟨i,hk,hi,E,I,z,J,hH,h⟩;subst hH;rcases b:decide ((i:Int)<l.length)with _|_
 .have O:=dF b;have:l.drop i=[]:=dN oM;rw[this,ixG]at h;refine J3 z J b ?_;exact i6 ⟨rfl,.inl ⟨rfl,h.symm⟩⟩
 have O:=dT b;obtain⟨y,nb,o,cs,own,el,hx,hd,rfl,a2,W,a1,X,hc,rfl⟩:=hv.row (i:=i) oM;have nt:(i:Int).toNat=i:=tN i;have D:=hc 0 oM;rw[ly]at D;rw[hd,ixG]at h;rcases u:(dP x y:Bool)with _|_
 .simp only[u,bF,za]at h;refine J10 E I z J b W nt D @wrap_small u ?_;exact d8 (S-1) oM ⟨i+1,oM,oM,E,I,z,rfl,rfl,h⟩
 .simp only[u,jd,EF]at h;refine J9 E I z J b W nt D u ?_;exact y9 ⟨rfl,.inr ⟨rfl,by rw[<-h];rfl⟩⟩
def OM(H0:d7)(lo:Nat)(va:Option Addr)(U:Nat)(l:List (aa2×aa2))(x:aa2×aa2)(hv:SlI H0 lo 2 (y7 nmE) (.slice va l.length U) l)(hn:l.length<=1048576)(bx:Nat)(W:H0.g bx=cE (nmE x) 1)(r:Int):
  ∀S e H2,(∃i:Nat,S=l.length-i/\i<=l.length/\e.g 0= .slice va l.length U/\e.g 3=pT bx/\e.g 7=iV l.length/\e.g 8=iV i/\H2=H0/\ixG (fun y=>P0 x y) (l.drop i) i=r)->
  u7 (LE prog l7 (.loop RU) e H2) (fun o e H2=>H2=H0/\((o= .exit 0/\r= -1)\/(o= .ret/\e.g 4=iV r))):=by
 refine i5 _ _ ?_;rintro S e H2 ⟨i,hk,hi,E,I,D,J,hH,u⟩;subst hH;rcases b:decide ((i:Int)<l.length)with _|_
 .have O:=dF b;have:l.drop i=[]:=dN oM;rw[this,ixG]at u;refine J3 D J b ?_;exact i6 ⟨rfl,.inl ⟨rfl,u.symm⟩⟩
 have O:=dT b;obtain⟨y,nb,o,cs,own,el,hx,hd,rfl,a2,X,a1,h,hc,rfl⟩:=hv.row (i:=i) oM;have nt:(i:Int).toNat=i:=tN i;have c0:=hc 0 oM;rw[ly]at c0;rw[hd,ixG]at u;rcases z:(P0 x y:Bool)with _|_
 .simp only[z,bF,za]at u;refine J11 E I D J b W X nt h @wrap_small z ?_;exact d8 (S-1) oM ⟨i+1,oM,oM,E,I,D,rfl,rfl,u⟩
 .simp only[z,jd,EF]at u;refine J10 E I D J b W X nt h z ?_;exact y9 ⟨rfl,.inr ⟨rfl,by rw[<-u];rfl⟩⟩
def Oi(H:d7)(lo:Nat)(v:aa3)(l:List (aa2×aa2))(x:aa2×aa2)(a1:lo<=H.n)(O:SlI H lo 2 (y7 nmE) v l)(hn:l.length<=1048576):CL prog l7 130 [v,.agg (nmE x).toArray] H=some (.bool (l.any (fun y=>P0 y x)),none):=by
 obtain⟨va,S,rfl⟩:=O.slice;obtain⟨E,h,-,X,W⟩:=pushF H (bC (nmE x) 1);have J:H.n<=E.low:=by rw[h,l9];exact lR
 rw[i7 Qj rfl _ sM];refine J1 h.symm ?_;refine i8 (F:=fun z=>t6 _ _ _ (t7 (inBlock 0 z) _)=_) (OL E lo va S l x (O.mono (fun j hj=>W.g j oM) lR iF) hn H.n X (l.any (fun y=>P0 y x)) l.length _ _ ⟨0,rfl,oM,rfl,rfl,rfl,rfl,rfl⟩) ?_;rintro o e' H' ⟨I,⟨u,D⟩|⟨u,U,D⟩⟩
 .exact J3 u I D trivial
 .exact J4 u I U D trivial
def Kw(H:d7)(lo:Nat)(v:aa3)(l:List (Bool×Bool×aa2))(x:Bool×Bool×aa2)(X:lo<=H.n)(J:SlI H lo 3 (y7 soE) v l)(hn:l.length<=1048576):CL prog l7 40 [v,.agg (soE x).toArray] H=some (.int .i64 (ixG (fun y=>bZ y x) l 0),none):=by
 obtain⟨va,O,rfl⟩:=J.slice;obtain⟨D,h,-,W,U⟩:=pushF H (bC (soE x) 1);have I:H.n<=D.low:=by rw[h,l9];exact lR
 rw[i7 WT rfl _ sM];refine J1 h.symm ?_;refine i8 (F:=fun z=>t6 _ _ _ (t7 (inBlock 0 z) _)=_) (SU D lo va O l x (J.mono (fun j hj=>U.g j oM) lR iF) hn H.n W (ixG (fun y=>bZ y x) l 0) l.length _ _ ⟨0,rfl,oM,rfl,rfl,rfl,rfl,rfl⟩) ?_;rintro o e' H' ⟨E,⟨u,hr⟩|⟨u,S⟩⟩
 .exact J3 u E hr trivial
 .exact J3 u E S trivial
def Kx(H:d7)(lo:Nat)(v:aa3)(l:List (Bool×Bool×aa2))(x:Bool×Bool×aa2)(X:lo<=H.n)(J:SlI H lo 3 (y7 soE) v l)(hn:l.length<=1048576):CL prog l7 108 [v,.agg (soE x).toArray] H=some (.int .i64 (ixG (fun y=>bZ x y) l 0),none):=by
 obtain⟨va,O,rfl⟩:=J.slice;obtain⟨D,h,-,W,U⟩:=pushF H (bC (soE x) 1);have I:H.n<=D.low:=by rw[h,l9];exact lR
 rw[i7 Qf rfl _ sM];refine J1 h.symm ?_;refine i8 (F:=fun z=>t6 _ _ _ (t7 (inBlock 0 z) _)=_) (SV D lo va O l x (J.mono (fun j hj=>U.g j oM) lR iF) hn H.n W (ixG (fun y=>bZ x y) l 0) l.length _ _ ⟨0,rfl,oM,rfl,rfl,rfl,rfl,rfl,rfl⟩) ?_;rintro o e' H' ⟨E,⟨u,hr⟩|⟨u,S⟩⟩
 .exact J3 u E hr trivial
 .exact J3 u E S trivial
def EY(H:d7)(lo:Nat)(v:aa3)(l:List (aa2×aa2))(x:aa2×aa2)(X:lo<=H.n)(J:SlI H lo 2 (y7 nmE) v l)(hn:l.length<=1048576):CL prog l7 147 [v,.agg (nmE x).toArray] H=some (.int .i64 (ixG (fun y=>P0 x y) l 0),none):=by
 obtain⟨va,O,rfl⟩:=J.slice;obtain⟨D,h,-,W,U⟩:=pushF H (bC (nmE x) 1);have I:H.n<=D.low:=by rw[h,l9];exact lR
 rw[i7 Qo rfl _ sM];refine J1 h.symm ?_;refine i8 (F:=fun z=>t6 _ _ _ (t7 (inBlock 0 z) _)=_) (OM D lo va O l x (J.mono (fun j hj=>U.g j oM) lR iF) hn H.n W (ixG (fun y=>P0 x y) l 0) l.length _ _ ⟨0,rfl,oM,rfl,rfl,rfl,rfl,rfl,rfl⟩) ?_;rintro o e' H' ⟨E,⟨u,hr⟩|⟨u,S⟩⟩
 .exact J3 u E hr trivial
 .exact J3 u E S trivial
def CF(H:d7)(lo:Nat)(v:aa3)(l:List (aa2))(x:aa2)(O:lo<=H.n)(E:SlI H lo 1 (y7 stE) v l)(S:l.length<=1048576):CL prog l7 79 [v,.string x] H=some (.bool (l.any (fun y=>dP y x)),none):=by
 obtain⟨U,I,rfl⟩:=E.slice;rw[i7 Xj rfl _ sM];refine J1 X6 ?_;refine i8 (F:=fun z=>t6 _ _ _ (t7 (inBlock 0 z) _)=_) (SW ⟨H.bs,H.n⟩ lo U I l x (E.mono (fun _ _=>rfl) lR iF) S (l.any (fun y=>dP y x)) l.length _ _ ⟨0,rfl,oM,rfl,rfl,rfl,rfl,rfl⟩) ?_;rintro o e' H' ⟨D,⟨h,u⟩|⟨h,J,u⟩⟩
 .exact J3 h D u trivial
 .exact J4 h D J u trivial
def Oh(H:d7)(lo:Nat)(v:aa3)(l:List (aa2))(x:aa2)(J:lo<=H.n)(D:SlI H lo 1 (y7 stE) v l)(O:l.length<=1048576):CL prog l7 114 [v,.string x] H=some (.int .i64 (ixG (fun y=>dP x y) l 0),none):=by
 obtain⟨U,E,rfl⟩:=D.slice;rw[i7 Qg rfl _ sM];refine J1 X6 ?_;refine i8 (F:=fun z=>t6 _ _ _ (t7 (inBlock 0 z) _)=_) (OK ⟨H.bs,H.n⟩ lo U E l x (D.mono (fun _ _=>rfl) lR iF) O (ixG (fun y=>dP x y) l 0) l.length _ _ ⟨0,rfl,oM,rfl,rfl,rfl,rfl,rfl,rfl⟩) ?_;rintro o e' H' ⟨u,⟨h,S⟩|⟨h,I⟩⟩
 .exact J3 h u S trivial
 .exact J3 h u I trivial
def La(H:d7)(lo:Nat)(v:aa3)(l:List (aa2))(x:aa2)(h:lo<=H.n)(D:SlI H lo 1 (y7 stE) v l)(z:l.length<=1048576):CL prog l7 90 [v,.string x] H=some (.bool (l.any fun y=>dP x y),none):=by
 have u:=Oh ⟨H.bs,H.n⟩ lo v l x h (D.mono (fun _ _=>rfl) lR iF) z;rw[i7 YT rfl _ sM,<-kG];exact J1 u trivial
def Xt(H:d7)(lo:Nat)(v:aa3)(l:List (Bool×Bool×aa2))(x:Bool×Bool×aa2)(O:lo<=H.n)(W:SlI H lo 3 (y7 soE) v l)(S:l.length<=1048576):CL prog l7 96 [v,.agg (soE x).toArray] H=some (.bool (l.any fun y=>bZ x y),none):=by
 obtain⟨z,h,-,J,D⟩:=pushF H (bC (soE x) 1);have E:H.n<=z.low:=by rw[h,l9];exact lR
 have U:=D.n;have I:=Kx z lo v l x oM (W.mono (fun j X=>D.g j oM) lR iF) S;have u:ldC (some true) (some 3) 0 (soE x)=some (.agg (soE x).toArray):=rfl;rw[i7 YX rfl _ sM,<-kG];exact J4 h.symm J u I trivial
def SF(H:d7)(lo:Nat)(v:aa3)(l:List (aa2×aa2))(x:aa2×aa2)(O:lo<=H.n)(W:SlI H lo 2 (y7 nmE) v l)(S:l.length<=1048576):CL prog l7 146 [v,.agg (nmE x).toArray] H=some (.bool (l.any fun y=>P0 x y),none):=by
 obtain⟨z,h,-,J,D⟩:=pushF H (bC (nmE x) 1);have E:H.n<=z.low:=by rw[h,l9];exact lR
 have U:=D.n;have I:=EY z lo v l x oM (W.mono (fun j X=>D.g j oM) lR iF) S;have u:ldC (some true) (some 2) 0 (nmE x)=some (.agg (nmE x).toArray):=rfl;rw[i7 WC rfl _ sM,<-kG];exact J4 h.symm J u I trivial
def nF{α:Type}(p:Q->Bool)(g:Q->α)(eq:α->α->Bool)(acc:List α)(l:List Q):List α:=l.foldl (fun acc f=>if p f&& !acc.any (fun y=>eq y (g f)) then acc++[g f] else acc) acc
def ik{α:Type}(p:Q->Bool)(g:Q->α)(u:α->α->Bool)(h:List α)(x:Q)(l:List Q):nF p g u h (x::l)=nF p g u (if p x&& !h.any (fun y=>u y (g x)) then h++[g x] else h) l:=rfl
def dU{α:Type}(p:Q->Bool)(g:Q->α)(u:α->α->Bool):∀(l:List Q)(h:List α),(nF p g u h l).length<=h.length+l.length
 |[],h=>lR
 |x::l,h=>by
  rw[ik,kO];have:=dU p g u l (if p x&& !h.any (fun y=>u y (g x)) then h++[g x] else h);have z:(if p x&& !h.any (fun y=>u y (g x)) then h++[g x] else h).length<=h.length+1:=by split<;>simp
  omega
abbrev qNm(f:Q):aa2×aa2:=(f.sp,f.lc)
def bH(from_ to_:Int)(f:Q):Bool:=decide (from_<=f.op)&&decide (f.op<=to_)
def eG(op:Int)(n:aa2×aa2)(f:Q):Bool:=decide (f.op=op)&&P0 (qNm f) n
def Dn(k:Nat)(E:d7)(lo:Nat)(b0:lo<=E.n)(va:Option Addr)(ca:Nat)(l:List Q)(hv:QsR E lo k true (.slice va l.length ca) l)(hn:l.length<=1000000)(a b:Int)(r:List (aa2×aa2)):
  ∀kk e H2,(∃(i:Nat)(h:List (aa2×aa2))(w:aa3),kk=l.length-i/\i<=l.length/\h.length<=i/\e.g 0= .slice va l.length ca/\e.g 1=iV a/\e.g 2=iV b/\e.g 7=w/\e.g 8=iV i/\u5 H2 E.n 2 (y7 nmE) w h/\d9 E.n E H2/\nF (bH a b) qNm P0 h (l.drop i)=r)->
  u7 (LE prog l7 (.loop Rs) e H2) (fun o e H2=>o= .exit 0/\∃w,e.g 7=w/\u5 H2 E.n 2 (y7 nmE) w r/\d9 E.n E H2):=by
 refine i5 _ _ ?_;rintro kk e H2 ⟨i,h,w,hk,hi,a9,D,I,S,X,f8,hO,U,u⟩;have b5:=U.n;rcases O:decide ((i:Int)<l.length)with _|_
 .have a4:=dF O;have:l.drop i=[]:=dN oM;rw[this]at u;refine J3 D f8 O ?_;exact i6 ⟨rfl,w,X,by rw[<-u];exact hO,U⟩
 have a4:=dT O;obtain⟨x,nb,o,cs,own,el,hx,hd,rfl,b4,hg,a5,a7,hc,hR⟩:=SlI.row hv (i:=i) oM;have nt:(i:Int).toNat=i:=tN i;cases k with
 |zero=>exact hR.elim
 |succ k=>
 obtain⟨b6,a8,wa,a6,rfl,_⟩:=hR.filter;have z:=(U.g nb oM).trans hg;have W:=hc 0 (by simp [qSz]);rw[ly]at W;have c1:=yP (j:=1) (m:=2) hc a5 (by simp [qSz]);simp only[qSz,jd,Hk,lP,Ee,WQ,pA]at W c1 z;rw[hd,ik]at u;have hh:=Oi H2 H2.n w h (qNm x) lR hO.sl oM;rcases J:decide (a<=x.op)with _|_
 .have hp:bH a b x=false:=by rw[bH,J];rfl
  rw[hp]at u;refine J9 D I f8 O z nt W J @wrap_small ?_;exact d8 (kk-1) oM ⟨i+1,h,w,oM,oM,oM,D,I,S,X,rfl,hO,U,u⟩
 rcases b2:decide (x.op<=b)with _|_
 .have hp:bH a b x=false:=by rw[bH,J,b2];rfl
  rw[hp]at u;refine J11 D I S f8 O z nt W J b2 @wrap_small ?_;exact d8 (kk-1) oM ⟨i+1,h,w,oM,oM,oM,D,I,S,X,rfl,hO,U,u⟩
 have hp:bH a b x=true:=by rw[bH,J,b2];rfl
 rw[hp]at u;rcases b3:h.any (fun y=>P0 y (qNm x))with _|_
 .rw[b3]at u hh;obtain⟨v',h',H4,ha,a1,a2,a3⟩:=hO.push1 (P:=prog) (t:=101) (by exact ot.2.2.2.2.2.2) gW.1 gW.2.1 gW.2.2.1 oM oM (cs:=[.string x.sp,.string x.lc]) (a:=qNm x) rfl rfl oM oM;refine J16 D I S X f8 O z nt W c1 J b2 hh ha a1 @wrap_small ?_;refine d8 (kk-1) oM ⟨i+1,h++[qNm x],v',oM,oM,by simp;omega,D,I,S,rfl,rfl,a2,U.trans a3,u⟩
 .rw[b3]at u hh;refine J14 D I S X f8 O z nt W c1 J b2 hh @wrap_small ?_;exact d8 (kk-1) oM ⟨i+1,h,w,oM,oM,oM,D,I,S,X,rfl,hO,U,u⟩
def X3(a b:Int)(l:List Q):List (aa2×aa2):=nF (bH a b) qNm P0 [] l
def wF(H:d7)(lo k:Nat)(v:aa3)(l:List Q)(a b:Int)(h:lo<=H.n)(I:QsR H lo k true v l)(U:l.length<=1000000):Q3 (CL prog l7 105 [v,iV a,iV b] H) H 2 (y7 nmE) (X3 a b l):=by
 obtain⟨J,D,rfl⟩:=SlI.slice I;rw[i7 Qd rfl _ sM];refine J1 ty3 ?_;have u:QsR ⟨H.bs,H.n⟩ lo k true (.slice J l.length D) l:=I.mono (fun _ _=>rfl) lR;refine i8 (F:=fun z=>Q3 (t6 _ _ _ (t7 (inBlock 0 z) _)) _ _ _ _) (Dn k ⟨H.bs,H.n⟩ lo h J D l u U a b (X3 a b l) l.length _ _ ⟨0,[],_,rfl,oM,by simp,rfl,rfl,rfl,rfl,rfl,u5.nil,d9.refl _ _,rfl⟩) ?_;rintro o e' X ⟨W,w,O,S,E⟩;refine J2 W O ?_;exact L5 S ((d9.start H).trans E) (E.low lR)
def BF(k:Nat)(H1:d7)(lo E:Nat)(b4:lo<=E)(b0:E<H1.n)(va:Option Addr)(ca:Nat)(l:List Q)(hv:QsR H1 lo k true (.slice va l.length ca) l)(hn:l.length<=1000000)(a:Int)(n:aa2×aa2)(hb:H1.g E=cE (nmE n) 1)(r:List aa2):
  ∀kk e H2,(∃(i:Nat)(h:List aa2)(w:aa3),kk=l.length-i/\i<=l.length/\h.length<=i/\e.g 0= .slice va l.length ca/\e.g 1=iV a/\e.g 5=pT E/\e.g 7=w/\e.g 8=iV i/\u5 H2 (E+1) 1 (y7 stE) w h/\d9 (E+1) H1 H2/\nF (eG a n) Q.vl dP h (l.drop i)=r)->
  u7 (LE prog l7 (.loop Ru) e H2) (fun o e H2=>o= .exit 0/\∃w,e.g 7=w/\u5 H2 (E+1) 1 (y7 stE) w r/\d9 (E+1) H1 H2):=by
 refine i5 _ _ ?_;rintro kk e H2 ⟨i,h,w,hk,hi,a9,I,J,W,f7,f8,hO,O,z⟩;have b6:=O.n;have X:=(O.g E oM).trans hb;have u:ldC (some true) (some 2) 0 (nmE n)=some (.agg (nmE n).toArray):=rfl;rcases U:decide ((i:Int)<l.length)with _|_
 .have a4:=dF U;have:l.drop i=[]:=dN oM;rw[this]at z;refine J3 I f8 U ?_;exact i6 ⟨rfl,w,f7,by rw[<-z];exact hO,O⟩
 have a4:=dT U;obtain⟨x,nb,o,cs,own,el,hx,hd,rfl,b5,hg,a5,a7,hc,hR⟩:=SlI.row hv (i:=i) oM;have nt:(i:Int).toNat=i:=tN i;cases k with
 |zero=>exact hR.elim
 |succ k=>
 obtain⟨b7,a8,wa,a6,rfl,_⟩:=hR.filter;have D:=(O.g nb oM).trans hg;have c0:=hc 0 (by simp [qSz]);rw[ly]at c0;have c1:=yP (j:=1) (m:=2) hc a5 (by simp [qSz]);have c3:=hc 3 (by simp [qSz]);simp only[qSz,jd,Hk,lP,Ee,WQ,pA,pt]at c0 c1 c3 D;rw[hd,ik]at z;have hh:=CF H2 H2.n w h x.vl lR hO.sl oM;rcases S:decide (x.op=a)with _|_
 .have hp:eG a n x=false:=by rw[eG,S];rfl
  rw[hp]at z;refine J9 I J f8 U D nt c0 S @wrap_small ?_;exact d8 (kk-1) oM ⟨i+1,h,w,oM,oM,oM,I,J,W,f7,rfl,hO,O,z⟩
 rcases b2:(decide (x.sp=n.1)&&decide (x.lc=n.2))with _|_
 .have hp:eG a n x=false:=by rw[eG,S,P0,b2];rfl
  rw[hp]at z;refine J14 I J W f8 U X u D nt c0 c1 S b2 @wrap_small ?_;exact d8 (kk-1) oM ⟨i+1,h,w,oM,oM,oM,I,J,W,f7,rfl,hO,O,z⟩
 have hp:eG a n x=true:=by rw[eG,S,P0,b2];rfl
 rw[hp]at z;rcases b3:h.any (fun y=>dP y x.vl)with _|_
 .rw[b3]at z hh;obtain⟨v',h',H4,ha,a1,a2,a3⟩:=hO.push1 (P:=prog) (t:=103) (by exact X6.2.2.2.2.2.2) ty9.1 ty9.2.1 ty9.2.2.1 oM oM (cs:=[.string x.vl]) (a:=x.vl) rfl rfl oM oM;refine J19 I J W f7 f8 U X u D nt c0 c1 c3 S b2 hh ha a1 @wrap_small ?_;refine d8 (kk-1) oM ⟨i+1,h++[x.vl],v',oM,oM,by simp;omega,I,J,W,rfl,rfl,a2,O.trans a3,z⟩
 .rw[b3]at z hh;refine J17 I J W f7 f8 U X u D nt c0 c1 c3 S b2 hh @wrap_small ?_;exact d8 (kk-1) oM ⟨i+1,h,w,oM,oM,oM,I,J,W,f7,rfl,hO,O,z⟩
def T4(a:Int)(n:aa2×aa2)(l:List Q):List aa2:=nF (eG a n) Q.vl dP [] l
def tQ(H:d7)(lo k:Nat)(v:aa3)(l:List Q)(a:Int)(n:aa2×aa2)(I:lo<=H.n)(W:QsR H lo k true v l)(hn:l.length<=1000000):Q3 (CL prog l7 106 [v,iV a,.agg (nmE n).toArray] H) H 1 (y7 stE) (T4 a n l):=by
 obtain⟨X,O,rfl⟩:=SlI.slice W;obtain⟨E,h,-,U,S⟩:=pushF H (bC (nmE n) 1);have D:H.n<=E.low:=by rw[h,l9];exact lR
 rw[i7 Qe rfl _ sM];refine J1 h.symm ?_;have J:QsR E lo k true (.slice X l.length O) l:=W.mono (fun j hj=>S.g j oM) lR;refine i8 (F:=fun z=>Q3 (t6 _ _ _ (t7 (inBlock 0 z) _)) _ _ _ _) (BF k E lo H.n I (u6 U) X O l J hn a n U (T4 a n l) l.length _ _ ⟨0,[],_,rfl,oM,by simp,rfl,rfl,rfl,rfl,rfl,u5.nil,d9.refl _ _,rfl⟩) ?_;rintro o e' H3 ⟨ho,w,g7,hO,u⟩;refine J2 ho g7 ?_;exact L5 (hO.wk oM) (S.trans (u.wk oM)) ((u.wk oM).low D)
def dg1(n:Nat):aa2:=⟨#[UInt8.ofNat (48+n)]⟩
def dg(n:Nat):aa2:=if h:n<10 then dg1 n else dg (n / 10)++dg (n % 10)
termination_by n
decreasing_by all_goals omega
def dgV(l:List UInt8):Nat:=l.foldl (fun a b=>10*a+(b.toNat-48)) 0
def aA(a b:aa2):(a++b).data.toList=a.data.toList++b.data.toList:=by simp
def Kh:∀n,dgV (dg n).data.toList=n:=by
 intro n;induction n using Nat.strongRecOn with
 |ind n I=>
  rw[dg];split
  .rename_i h;have:∀m:Fin 10,dgV (dg1 m.1).data.toList=m.1:=by decide
   exact this ⟨n,h⟩
  .rename_i h;have u:=I (n / 10) oM;have z:dg (n % 10)=dg1 (n % 10):=by rw[dg,Ky oM]
   have D:∀m:Fin 10,((UInt8.ofNat (48+m.1)).toNat-48)=m.1:=by decide
   rw[z,aA,dgV,xo];rw[dgV]at u;rw[u];show 10*(n / 10)+((UInt8.ofNat (48+n % 10)).toNat-48)=n;have E:((UInt8.ofNat (48+n % 10)).toNat-48)=n % 10:=D ⟨n % 10,oM⟩;rw[E];omega
def xJ{n m:Nat}(h:dg n=dg m):n=m:=by rw[<-Kh n,h,Kh]
def qL:∀n,(dg n).size<=n+1:=by
 intro n;induction n using Nat.strongRecOn with
 |ind n u=>
  rw[dg];split
  .show 1<=n+1;omega
  .rename_i h;have D:=u (n / 10) oM;have E:=u (n % 10) oM;have z:(dg (n % 10)).size=1:=by rw[dg,Ky oM];rfl
   rw[Dr,z];omega
def Tt{α:Type}(f:Nat->α)(J:∀i j,f i=f j->i=j):∀(l:List α)(u:List Nat),u.Nodup->(∀i∈u,f i∈l)->u.length<=l.length:=by
 intro l u;induction u generalizing l with
 |nil=>intro _ _;simp
 |cons n u O=>
  intro I E;obtain⟨s,t,rfl⟩:=List.append_of_mem (E n sM);have:=O (s++t) (Yx.1 I).2 (fun i D=>by
   have h:=E i (by simp [D]);have z:i≠n:=fun q=>(Yx.1 I).1 (q▸D);simp only[gd,nd]at h ⊢;rcases h with h|h|h
   .exact .inl h
   .exact absurd (J _ _ h) z
   .exact .inr h)
  simp only[dx,kO]at this ⊢;omega
def fW(p:Nat->Bool):Nat->Nat->Nat
 |0,n=>n
 |k+1,n=>if p n then fW p k (n+1) else n
def gF(p:Nat->Bool):∀k n,(∃m,n<=m/\m<n+k/\p m=false)->p (fW p k n)=false/\fW p k n<n+k
 |0,n,h=>by obtain⟨m,D,E,_⟩:=h;omega
 |k+1,n,h=>by
  rw[fW];split
  .rename_i z;obtain⟨m,D,E,u⟩:=h;have I:m≠n:=fun q=>by rw[q,z]at u;cases u
   have:=gF p k (n+1) ⟨m,oM,oM,u⟩;exact⟨this.1,oM⟩
  next z=>exact⟨by simpa using z,oM⟩
def xP{α:Type}(f:Nat->α)(z:∀i j,f i=f j->i=j) (l:List α) (p:Nat->Bool) (E:∀i,p i=true->f i∈l):∃m,m<l.length+1/\p m=false:=by
 apply wh;intro h;have u:∀i∈List.range (l.length+1),f i∈l:=fun i D=>E i (by
  cases I:p i with
  |true=>rfl
  |false=>exact absurd ⟨i,vK.1 D,I⟩ h)
 have:=Tt f z l _ ZE u;rw[Wb]at this;omega
def NV(n:Nat)(h:n<10):IntKind.wrap .u8 (48+(n:Int))=48+(n:Int):=by
 have:∀m:Fin 10,IntKind.wrap .u8 (48+(m.1:Int))=48+(m.1:Int):=by decide
 exact this ⟨n,h⟩
def JX(H:d7)(b:Nat)(n:Int)(h:H.g b=cE [.int .u8 n] 1)(c:Nat):bN prog H 140 9 (sL b 1 c)=some (.string ⟨#[UInt8.ofNat n.toNat]⟩,none):=by
 have:B9 H 1 (sL b 1 c)=some [.int .u8 n]:=by simp [B9,h]
 simp only[bN,uq,ty9,ty5,this,pB];rfl
def mi:∀(n:Nat)(H:d7),n<=1000000->CL prog l7 107 [iV n] H=some (.string (dg n),none):=by
 intro n;induction n using Nat.strongRecOn with
 |ind n E=>
  intro H hn;rw[i7 Wa rfl _ sM];rcases b:decide ((n:Int)<10)with _|_
  .have S:=dF b;have J:=E (n / 10) oM;have O:=E (n % 10) oM;have X:((n:Int).tdiv 10)=((n / 10:Nat):Int):=by rw[aab oM];omega
   have q2:((n:Int).tmod 10)=((n % 10:Nat):Int):=by rw[aac oM];omega
   have z1:=qL (n / 10);have z2:=qL (n % 10);have D:dg n=dg (n / 10)++dg (n % 10):=by rw[dg,Yv oM]
   have U:∀a:Int,L3 prog .quo 3 (.int .i64 a) (.int .i64 10)=some (.int .i64 (IntKind.wrap .i64 (a.tdiv 10))):=fun a=>yw 3 a 10 oM;have W:∀a:Int,L3 prog .rem 3 (.int .i64 a) (.int .i64 10)=some (.int .i64 (a.tmod 10)):=fun a=>NG 3 .i64 a 10 oM;have hs:=bM (P:=prog) 9 (dg (n / 10)) (dg (n % 10)) oM;have u:∀H,CL prog l7 107 [iV ((n / 10:Nat):Int)] H=some (.string (dg (n / 10)),none):=fun H=>J H oM;have z:∀H,CL prog l7 107 [iV ((n % 10:Nat):Int)] H=some (.string (dg (n % 10)),none):=fun H=>O H oM;exact J10 b U W X q2 @wrap_small u z hs D trivial
  .have S:=dT b;have D:dg n=dg1 n:=by rw[dg,Ky oM]
   have w1:=NV n oM;have h:=JX (d7.push ⟨H.bs,H.n⟩ (bC [.int .u8 (48+(n:Int))] 1)) H.n (48+n) j6 1;have I:(48+(n:Int)).toNat=48+n:=oM;rw[I]at h;simp(maxSteps:=20000000) -dsimp (disch:=first|omega|(simp only[rH]<;>omega)|fail) only[↓fk,rQ,N1,sevalprocAttr,tyA,b,wrap_small,w1,h,D,dg1]
def Z0(l:List aa2)(s:aa2):Bool:=l.any fun y=>dP y s
def sD{l:List aa2}{s:aa2}(h:Z0 l s=true):s∈l:=by
 obtain⟨y,u,z⟩:=AH.1 h;have:=dT z;exact this▸u
def X5(l:List aa2):Nat:=fW (fun n=>Z0 l (dg n)) (l.length+1) 0
def kL(l:List aa2):Z0 l (dg (X5 l))=false/\X5 l<l.length+1:=by
 obtain⟨m,z,u⟩:=xP dg (fun i j=>xJ) l (fun n=>Z0 l (dg n)) (fun i h=>sD h);have:=gF (fun n=>Z0 l (dg n)) (l.length+1) 0 ⟨m,oM,oM,u⟩;exact⟨this.1,by have:=this.2;rw[X5];omega⟩
def fo(p:Nat->Bool):∀k n,n<=fW p k n/\∀m,n<=m->m<fW p k n->p m=true
 |0,n=>⟨lR,fun m u h=>by rw[fW]at h;omega⟩
 |k+1,n=>by
  rw[fW];split
  .rename_i E;obtain⟨u,h⟩:=fo p k (n+1);exact⟨oM,fun m I z=>by
    by_cases D:m=n
    .rw[D];exact E
    .exact h m oM z⟩
  .exact⟨lR,fun m u h=>oM⟩
def uS(H0:d7)(lo:Nat)(E:lo<=H0.n)(v:aa3)(l:List aa2)(hv:SlI H0 lo 1 (y7 stE) v l)(hn:l.length<=100000):
  ∀O e H2,(∃n:Nat,O=X5 l+1-n/\n<=X5 l/\e.g 0=v/\e.g 3=iV n/\H2=H0)->
  u7 (LE prog l7 (.loop VI) e H2) (fun o e H2=>H2=H0/\o= .exit 0/\e.g 3=iV (X5 l)):=by
 refine i5 _ _ ?_;rintro O e H2 ⟨n,hk,X,u,z,U⟩;subst U;obtain⟨W,a1⟩:=kL l;have D:=(fo (fun n=>Z0 l (dg n)) (l.length+1) 0).2;have S:=mi n H2 oM;have h:=CF H2 lo v l (dg n) E hv oM;by_cases I:n=X5 l
 .have J:(l.any fun y=>dP y (dg n))=false:=by rw[I];exact W
  rw[J]at h;refine J4 u z S h ?_;exact i6 ⟨rfl,rfl,by rw[<-I];exact z⟩
 .have J:(l.any fun y=>dP y (dg n))=true:=D n oM (by rw[X5]at I X;omega);rw[J]at h;refine J5 u z S h @wrap_small ?_;exact d8 (O-1) oM ⟨n+1,oM,oM,u,rfl,rfl⟩
def nO(H:d7)(lo:Nat)(v:aa3)(l:List aa2)(h:lo<=H.n)(S:SlI H lo 1 (y7 stE) v l)(J:l.length<=100000):CL prog l7 80 [v] H=some (.string (dg (X5 l)),none):=by
 obtain⟨U,I⟩:=kL l;have E:∀H,CL prog l7 107 [iV (X5 l:Int)] H=some (.string (dg (X5 l)),none):=fun H=>mi (X5 l) H oM;rw[i7 Xk rfl _ sM];refine J1 ty3 ?_;refine i8 (F:=fun z=>t6 _ _ _ (t7 (inBlock 0 z) _)=_) (uS ⟨H.bs,H.n⟩ lo h v l (S.mono (fun _ _=>rfl) lR iF) J (X5 l+1) _ _ ⟨0,rfl,oM,rfl,rfl,rfl⟩) ?_;rintro o e' H' ⟨D,O,u⟩;exact J4 O D u E trivial
def zS:aa2:=⟨#[122]⟩
def zN(n:Nat):aa2:=if n=0 then zS else zS++dg n
def Kg(n:Nat):1<=(dg n).size:=by
 rw[dg];split
 .exact R2 1
 .rename_i h;have u:(dg (n % 10)).size=1:=by rw[dg,Ky oM];rfl
  rw[Dr,u];omega
def xm{a b c:aa2}(h:a++b=a++c):b=c:=by
 have u:(a++b).data.toList=(a++c).data.toList:=by rw[h]
 rw[aA,aA]at u;have z:=List.append_cancel_left u;obtain⟨b⟩:=b;obtain⟨c⟩:=c;have D:b=c:=sC.1 z;rw[D]
def Ue(i j:Nat)(h:zN i=zN j):i=j:=by
 unfold zN at h;have hs:∀n,(zS++dg n).size≠zS.size:=fun n=>by have:=Kg n;rw[Dr];omega
 split at h<;>split at h
 .omega
 .exact absurd (congrArg ByteArray.size h).symm (hs _)
 .exact absurd (congrArg ByteArray.size h) (hs _)
 .exact xJ (xm h)
def V1(l:List (aa2×aa2))(x:aa2×aa2):Bool:=l.any fun y=>P0 y x
def I2{x y:aa2×aa2}:P0 x y=true↔x=y:=by
 simp only[P0,cA,eT];exact aaC.symm
def vQ{l:List (aa2×aa2)}{x:aa2×aa2}(h:V1 l x=true):x∈l:=by
 obtain⟨y,u,z⟩:=AH.1 h;exact(I2.1 z)▸u
def zNm(n:Nat):aa2×aa2:=(eB,zN n)
def V6(l:List (aa2×aa2)):Nat:=fW (fun n=>V1 l (zNm n)) (l.length+1) 0
def qU(l:List (aa2×aa2)):V1 l (zNm (V6 l))=false/\V6 l<l.length+1:=by
 obtain⟨m,z,u⟩:=xP zNm (fun i j h=>Ue i j (congrArg Prod.snd h)) l (fun n=>V1 l (zNm n)) (fun i h=>vQ h);have:=gF (fun n=>V1 l (zNm n)) (l.length+1) 0 ⟨m,oM,oM,u⟩;exact⟨this.1,by have:=this.2;rw[V6];omega⟩
def LW(H0:d7)(lo:Nat)(va:Option Addr)(I:Nat)(l:List (aa2×aa2))(x:aa2×aa2)(hv:SlI H0 lo 2 (y7 nmE) (.slice va l.length I) l)(hn:l.length<=100000)(pb:Nat)(hb:H0.g pb=cE (nmE x) 1)(p2:aa3)(n3:aa3)(r:Bool):
  ∀E e H2,(∃(i:Nat)(f:Bool),E=l.length-i/\i<=l.length/\e.g 0= .slice va l.length I/\e.g 2=p2/\e.g 3=n3/\e.g 4=pT pb/\e.g 5= .bool f/\e.g 6=iV i/\H2=H0/\(f||(l.drop i).any fun y=>P0 y x)=r)->
  u7 (LE prog l7 (.loop Qa) e H2) (fun o e H2=>H2=H0/\o= .exit 2/\e.g 0= .slice va l.length I/\e.g 2=p2/\e.g 3=n3/\e.g 4=pT pb/\e.g 5= .bool r):=by
 refine i5 _ _ ?_;rintro E e H2 ⟨i,f,hk,hi,h,J,O,D,S,U,hH,u⟩;subst hH;have X:ldC (some true) (some 2) 0 (nmE x)=some (.agg (nmE x).toArray):=rfl;rcases b:decide ((i:Int)<l.length)with _|_
 .have W:=dF b;have:l.drop i=[]:=dN oM;rw[this,XN,TB]at u;refine J3 h U b ?_;exact i6 ⟨rfl,rfl,h,J,O,D,by rw[<-u];exact S⟩
 have W:=dT b;obtain⟨y,nb,o,cs,own,el,hx,hd,rfl,a2,hg,a1,z,hc,rfl⟩:=hv.row (i:=i) oM;have nt:(i:Int).toNat=i:=tN i;rw[hd,Ic,<-Bool.or_assoc]at u;rcases f with _|_
 .refine J11 h D S U b hb hg nt z X @wrap_small ?_;exact d8 (E-1) oM ⟨i+1,P0 y x,oM,oM,h,J,O,D,rfl,rfl,rfl,by rw[<-u];rfl⟩
 .refine J5 h S U b @wrap_small ?_;exact d8 (E-1) oM ⟨i+1,true,oM,oM,h,J,O,D,rfl,rfl,rfl,by rw[<-u];rfl⟩
def Dw(D:d7)(lo p2:Nat)(a4:lo<=p2)(a8:p2<D.n)(W:Option Addr)(J:Nat)(l:List (aa2×aa2))(hv:SlI D lo 2 (y7 nmE) (.slice W l.length J) l)(hn:l.length<=100000)(hb:D.g p2=cE [.string eB,.string eB] 1):
  ∀I e H2,(∃n:Nat,I=V6 l+1-n/\n<=V6 l/\e.g 0= .slice W l.length J/\e.g 2=pT p2/\e.g 3=iV n/\d9 (p2+1) D H2)->
  u7 (LE prog l7 (.loop VE) e H2) (fun o e H2=>o= .ret/\e.g 2=pT p2/\H2.g p2=some (.cells (nmE (zNm (V6 l))) true 1)/\d9 p2 D H2):=by
 refine i5 _ _ ?_;rintro I e H2 ⟨n,hk,hi,f0,f2,X,O⟩;obtain⟨hf,a5⟩:=qU l;have a1:=(fo (fun n=>V1 l (zNm n)) (l.length+1) 0).2;have a6:=O.n;have hd:=fun H=>mi n H oM;have a3:=qL n;have hs:=bM (P:=prog) 9 ⟨#[122]⟩ (dg n) (by show 1+_<=_;omega);have key:∀(E:d7)(u:Env),d9 (p2+1) H2 E->E.g H2.n=some (.cells (nmE (zNm n)) true 1)->u.g 0= .slice W l.length J->u.g 2=pT p2->u.g 3=iV n->u.g 4=pT H2.n->u.g 5= .bool false->u.g 6=iV 0->
   u7 (inBlock 1 (t7 (inBlock 2 (LE prog l7 Qa.loop u E)) (LE prog l7 (((t5.ops [⟨some 29,.move (.tmp 5),none⟩,⟨some 30,.unOp .not 4 (.tmp 29),none⟩]).seq VF).seq VG)))) (ci I (fun I e H2=>∃n:Nat,I=V6 l+1-n/\n<=V6 l/\e.g 0= .slice W l.length J/\e.g 2=pT p2/\e.g 3=iV n/\d9 (p2+1) D H2) (fun o e H2=>o= .ret/\e.g 2=pT p2/\H2.g p2=some (.cells (nmE (zNm (V6 l))) true 1)/\d9 p2 D H2)):=by
  intro E u h U g0 g2 g3 g4 g5 g6;have a7:=h.n;have S:E.g p2=_:=(h.g p2 oM).trans ((O.g p2 oM).trans hb);refine i8 (F:=fun z=>u7 (inBlock 1 (t7 (inBlock 2 z) _)) _) (LW E lo W J l (zNm n) (hv.mono (fun j hj=>by rw[h.g j oM,O.g j oM]) lR iF) hn H2.n U _ _ (V1 l (zNm n)) l.length _ _ ⟨0,false,rfl,oM,g0,g2,g3,g4,g5,g6,rfl,rfl⟩) ?_;rintro o e4 H4 ⟨rfl,ho,k0,k2,k3,k4,k5⟩;have a2:ldC (some true) (some 2) 0 (nmE (zNm n))=some (.agg (nmE (zNm n)).toArray):=rfl;by_cases hm:n=V6 l
  .have hq:V1 l (zNm n)=false:=by rw[hm];exact hf
   rw[hq]at k5;refine J7 ho k2 k4 k5 U a2 S ?_;refine y9 ⟨rfl,k2,?_,(O.wk oM).trans ((h.wk oM).trans (d9.put lR))⟩;rw[i9 (u6 S),hm]
  .have hq:V1 l (zNm n)=true:=a1 n oM (by rw[V6]at hm hi;omega);rw[hq]at k5;refine J4 ho k3 k5 @wrap_small ?_;exact d8 (I-1) oM ⟨n+1,oM,oM,k0,k2,rfl,O.trans h⟩
 by_cases h0:n=0
 .have b0:decide ((0:Int)<n)=false:=dt oM;refine J2 X b0 ?_;refine key _ _ ((d9.push oM).trans (d9.put oM)) ?_ f0 f2 X rfl rfl rfl;rw[i9 (by rw[i4];omega),zNm,zN,bJ h0];rfl
 .have b0:decide ((0:Int)<n)=true:=ib oM;refine J4 X b0 hd hs ?_;refine key _ _ (((d9.push oM).trans (d9.put oM)).trans (d9.put oM)) ?_ f0 f2 X rfl rfl rfl;rw[i9 (by rw[j9,i4];omega),zNm,zN,bt h0];rfl
def Iw(H:d7)(lo:Nat)(v:aa3)(l:List (aa2×aa2))(I:lo<=H.n)(U:SlI H lo 2 (y7 nmE) v l)(hn:l.length<=100000):CL prog l7 78 [v] H=some (.agg (nmE (zNm (V6 l))).toArray,none):=by
 obtain⟨va,W,rfl⟩:=U.slice;obtain⟨O,h,-,S,hS⟩:=pushF H (bC [.string eB,.string eB] 1);have u:H.n<=O.low:=by rw[h,l9];exact lR
 rw[i7 KO rfl _ sM];refine J1 h.symm ?_;refine i8 (F:=fun z=>t6 _ _ _ (inBlock 0 z)=_) (Dw O lo H.n I (u6 S) va W l (U.mono (fun j hj=>hS.g j oM) lR iF) hn S (V6 l+1) _ _ ⟨0,rfl,oM,rfl,rfl,rfl,d9.refl _ _⟩) ?_;rintro o e' H' ⟨ho,X,E,D⟩;have hl:=D.low u;have J:ldC (some true) (some 2) 0 (nmE (zNm (V6 l)))=some (.agg (nmE (zNm (V6 l))).toArray):=rfl;exact J4 ho X E J trivial
structure SpD where
 names:List (aa2×aa2)
 attrs:List (aa2×aa2)
 vals:List (List aa2)
 texts:List aa2
def spQ(q:Q):SpD:=⟨X3 4 4 (fsQ false q),X3 5 6 (fsQ false q),(X3 5 6 (fsQ false q)).map fun n=>T4 6 n (fsQ false q),T4 7 (eB,eB) (fsQ false q)⟩
def VlF(H:d7)(F:Nat->Prop)(cs:LV)(l:List aa2):Prop:=∃v,cs=[v]/\SlF H F 1 (y7 stE) v l
def VlF.mono{H H':d7}{F F':Nat->Prop}{cs:LV}{l:List aa2}(h:VlF H F cs l)(E:∀j,F j->H'.g j=H.g j) (D:∀j,F j->F' j):VlF H' F' cs l:=by
 obtain⟨v,u,z⟩:=h;exact⟨v,u,z.mono E D iF⟩
def SpR(H:d7)(lo:Nat)(cs:LV)(d:SpD):Prop:=∃v1 v2 v3 v4,cs=[v1,v2,v3,v4]/\SlI H lo 2 (y7 nmE) v1 d.names/\SlI H lo 2 (y7 nmE) v2 d.attrs/\SlI H lo 1 (VlF H (· <lo)) v3 d.vals/\SlI H lo 1 (y7 stE) v4 d.texts
def SpR.mono{H H':d7}{lo D:Nat}{cs:LV}{d:SpD}(h:SpR H lo cs d)(z:∀j,j<lo->H'.g j=H.g j) (u:lo<=D):SpR H' D cs d:=by
 obtain⟨U,W,X,v4,E,I,J,O,S⟩:=h;exact⟨U,W,X,v4,E,I.mono z u iF,J.mono z u iF,O.mono z u (fun _ _ h=>h.mono z (fun j hj=>oM)),S.mono z u iF⟩
def Eb(k:Nat)(H1:d7)(z:Nat)(e1:z<H1.n)(vf va v1 v4 p2:aa3)(l:List Q)(u:List (aa2×aa2))(hl:l.length<=1000000)(ha:u.length<=1000000)(c8:QsR H1 z k true vf l)(a9:SlI H1 z 2 (y7 nmE) va u):
  ∀kk e H2,(∃(i:Nat)(w:aa3)(F:Nat->Prop),kk=u.length-i/\i<=u.length/\e.g 2=p2/\e.g 3=vf/\e.g 4=pT z/\e.g 5=iV i/\H2.g z=cE [v1,va,w,v4] 1/\u5 H2 (z+1) 1 (VlF H2 F) w ((u.take i).map fun n=>T4 6 n l)/\(∀b,j8 w b->¬F b)/\(∀j,F j->z<j/\j<H2.n)/\d9 z H1 H2)->
  u7 (LE prog l7 (.loop VD) e H2) (fun o e H2=>o= .exit 0/\e.g 2=p2/\e.g 4=pT z/\∃(w:aa3)(F:Nat->Prop),H2.g z=cE [v1,va,w,v4] 1/\u5 H2 (z+1) 1 (VlF H2 F) w (u.map fun n=>T4 6 n l)/\(∀j,F j->z<j/\j<H2.n)/\d9 z H1 H2):=by
 obtain⟨aa,ac,d0⟩:=a9.slice;subst d0;refine i5 _ _ ?_;rintro kk e H2 ⟨i,w,F,hk,hi,f2,f3,f4,f5,O,hO,c5,hF,hS⟩;have d3:=hS.n;have d1:([v1,.slice aa u.length ac,w,v4]:LV)[1]?=some (.slice aa u.length ac):=rfl;rcases b:decide ((i:Int)<u.length)with _|_
 .have b8:=dF b;have:u.take i=u:=kC oM;rw[this]at hO;refine J4 f4 f5 O b ?_;exact i6 ⟨rfl,f2,f4,w,F,O,hO,hF,hS⟩
 have b8:=dT b;obtain⟨x,nb,o,cs,own,el,hx,hd,b0,c4,hg,d2,a8,hc,rfl⟩:=a9.row (i:=i) oM;subst b0;have nt:(i:Int).toNat=i:=tN i;have c0:=(hS.g nb c4).trans hg;have b1:QsR H2 z k true vf l:=c8.mono (fun j D=>hS.g j D) lR;obtain⟨v,h,H3,b9,c3,J,E⟩:=tQ H2 z k vf l 6 x oM b1 hl;have d4:=E.n;have d6:z<H3.n:=oM;have W:H3.g z=cE [v1,.slice (some ⟨nb,o,none⟩) u.length ac,w,v4] 1:=(E.g z oM).trans O;obtain⟨F',I⟩:=eY (fun j=>F j\/j8 v j:Nat->Prop);have a3:∀j,F' j->z<j/\j<H3.n:=fun j D=>by
  rw[I]at D;rcases D with D|D
  .have:=hF j D;omega
  .have:=J.lt D;omega
 have b6:u5 H3 (z+1) 1 (VlF H3 F') w ((u.take i).map fun n=>T4 6 n l):=(hO.keep E).imp fun cs a h=>h.mono (fun j D=>E.g j (hF j D).2) (fun j D=>by rw[I];exact .inl D);have b2:∀b,j8 w b->¬F' b:=fun b U S=>by
  rw[I]at S;rcases S with S|S
  .exact c5 b U S
  .have h1:=hO.lt U;have h2:=J.lt S;omega
 have c9:VlF H3 F' [v] (T4 6 x l):=⟨v,rfl,J.frz fun b U=>by rw[I];exact .inr U⟩
 have a6:((u.take i).map fun n=>T4 6 n l).length=i:=by simp;omega
 obtain⟨v',h',H4,b7,a5,a4,hG⟩:=b6.push1F (P:=prog) (t:=102) (cs:=[v]) (a:=T4 6 x l) (by exact MU.2.2.2.2.2.2) X6.1 X6.2.1 X6.2.2.1 oM oM rfl c9 (by rw[a6];omega) oM;have d5:=hG.n;have X:H4.g z=cE [v1,.slice (some ⟨nb,o,none⟩) u.length ac,w,v4] 1:=(hG.stay.g z oM).trans W;have a7:=u6 X;obtain⟨wa,wc,e2⟩:=hO.slice;obtain⟨e3,e4,a1⟩:=a4.slice;obtain⟨vv,e5,a2⟩:=J.slice;have b3:Value.oneCell' v'=true:=by rw[a1];rfl
 have b4:Value.oneCell' v=true:=by rw[a2];rfl
 have cv:v.cells.toList=[v]:=by rw[a2];rfl
 have b5:v'.cells.toList=[v']:=by rw[a1];rfl
 refine J19 f3 f4 f5 O b c0 nt a8 b9 c3 W b4 cv b7 a5 X b3 b5 @wrap_small ?_;have c7:(u.take (i+1)).map (fun n=>T4 6 n l)=((u.take i).map fun n=>T4 6 n l)++[T4 6 x l]:=by
  rw[Hq,hx];simp
 have c6:∀(B:Blk),d9 z H1 (H4.put z B):=fun B=>(hS.trans ((E.wk oM).trans (hG.stay.wk oM))).trans (d9.put lR);refine d8 (kk-1) oM ⟨i+1,v',F',oM,oM,f2,f3,f4,rfl,i9 a7,?_,fun b U S=>?_,fun j D=>?_,c6 _⟩
 .rw[c7];refine(a4.same fun b U=>j7 ?_).imp fun cs a h=>h.mono (fun j D=>?_) (fun _ h=>h)
  .have:=a4.lt U;omega
  .have:=a3 j D;rw[j7 oM,hG.but j oM (fun q=>b2 j q D)]
 .rcases hG.new b U with r|r
  .exact b2 b r S
  .have:=a3 b S;omega
 .have:=a3 j D;rw[j9];omega
def dG{α:Type}{R:LV->α->Prop}{H:d7}{lo sz:Nat}{w:aa3}{l:List α}(h:u5 H lo sz R w l)(z:na0 w=true):w=nS/\l=[]:=by
 obtain⟨cs,u,I⟩:=h;rcases u with⟨u,D,_⟩|⟨b,c,E,_⟩
 .exact⟨u,pF.1 D⟩
 .rw[E]at z;cases z
def nX{α:Type}(R:LV->α->Prop)(H:d7)(lo sz:Nat):SlI H lo sz R (nS) ([]:List α):= .inl ⟨rfl,rfl⟩
def Iy(H:d7)(lo k:Nat)(cs:LV)(q:Q)(h8:lo<=H.n)(hr:QR H lo k false cs q)(g9:OkD false q)(hl:(fsQ false q).length<=100000):
  Ret (CL prog l7 77 [.agg cs.toArray] H) H fun w H1=>∃cs',w= .agg cs'.toArray/\SpR H1 H1.n cs' (spQ q)/\d9 H.n H H1:=by
 cases k with
 |zero=>exact hr.elim
 |succ k=>
 have d3:=hr;obtain⟨va,ca,wa,e7,rfl,h1,h2,h3,h4⟩:=hr.path;obtain⟨W,U⟩:=eY ([iV q.op,.slice va q.a.length ca,.slice wa q.b.length e7]:LV);obtain⟨H1,a5⟩:=eY ((d7.push ⟨H.bs,H.n⟩ (bC W 1)).push (bC [nS,nS,nS,nS] 1));have g8:(d7.push ⟨H.bs,H.n⟩ (bC W 1)).n=H.n+1:=by rw[i4];rfl
 have hS:d9 H.n H H1:=by rw[a5];exact(d9.first H _).trans (d9.push oM)
 have f7:H1.g H.n=cE W 1:=by rw[a5,j5 oM];exact j6
 have f8:H1.g (H.n+1)=cE [nS,nS,nS,nS] 1:=by rw[a5];exact A4 oM
 have d2:H.n<=H1.low:=by rw[a5,l9,l9];exact lR
 have h9:H1.n=H.n+2:=by rw[a5,i4,g8]
 have g6:ldC (some true) (some 3) 0 W=some (.agg W.toArray):=by rw[U];rfl
 rw[<-U]at d3 ⊢;have c5:W.all oC=true:=by rw[U];rfl
 obtain⟨vf,hf,Hf,f6,g3,f2,b2⟩:=(Ss (k+1)).1 H1 lo W q oM (d3.mono (fun j S=>hS.g j oM) lR) oM g9;have j2:=b2.n;have b4:QsR Hf Hf.n (k+1) true vf (fsQ false q):=f2.sl.mono (fun _ _=>rfl) lR fun cs x h=>h.mono (fun j S=>(b2.g j oM)) oM;obtain⟨v1,h5,Ha,f3,c8,a9,D⟩:=wF Hf Hf.n (k+1) vf (fsQ false q) 4 4 lR b4 oM;have i2:=D.n;obtain⟨X,h6,Hb,f4,c9,a6,E⟩:=wF Ha Hf.n (k+1) vf (fsQ false q) 5 6 oM (b4.mono (fun j S=>D.g j S) lR) oM;have i3:=E.n;obtain⟨v4,h7,Hc,f5,d0,b0,I⟩:=tQ Hb Hf.n (k+1) vf (fsQ false q) 7 (eB,eB) oM (b4.mono (fun j S=>by rw[E.g j oM,D.g j S]) lR) oM;have j0:=I.n;obtain⟨a1,c1,e1⟩:=a9.slice;obtain⟨a2,c2,e2⟩:=a6.slice;obtain⟨a4,c4,e4⟩:=b0.slice;have e8:v1.cells.toList=[v1]:=by rw[e1];rfl
 have e9:X.cells.toList=[X]:=by rw[e2];rfl
 have f0:v4.cells.toList=[v4]:=by rw[e4];rfl
 have d6:Value.oneCell' v1=true:=by rw[e1];rfl
 have e5:Value.oneCell' X=true:=by rw[e2];rfl
 have e6:Value.oneCell' v4=true:=by rw[e4];rfl
 obtain⟨Hd,f1,j1,g1,O⟩:=pushP Hc (bC [nS,nS,nS,nS] 1) (bC [v1,X,nS,v4] 1);rw[i7 Xi rfl _ sM];refine J19 c5 a5.symm f7 g6 f6 g3 f3 c8 f4 c9 f5 d0 e8 e9 f0 d6 e5 e6 f1.symm ?_;have b8:u5 Hd Hf.n 2 (y7 nmE) v1 (X3 4 4 (fsQ false q)):=((a9.keep E).keep I).keep O;have b6:u5 Hd Ha.n 2 (y7 nmE) X (X3 5 6 (fsQ false q)):=(a6.keep I).keep O;have b9:u5 Hd Hb.n 1 (y7 stE) v4 (T4 7 (eB,eB) (fsQ false q)):=b0.keep O;have j3:∀{sz:Nat}{α:Type}{R:LV->α->Prop}{lo:Nat}{w:aa3}{l:List α}(H:d7),u5 H lo sz R w l->H.n<=Hc.n->SlI H Hc.n sz R w l:=fun H h g7=>h.sl.mono (fun _ _=>rfl) g7 iF;have d5:QsR Hd Hc.n (k+1) true vf (fsQ false q):=b4.mono (fun j S=>by rw[O.g j oM,I.g j oM,E.g j oM,D.g j S]) oM;have c6:(X3 5 6 (fsQ false q)).length<=1000000:=by have:=dU (bH 5 6) qNm P0 (fsQ false q) [];rw[X3];simp at this;omega
 have d4:SlI Hd Hc.n 2 (y7 nmE) X (X3 5 6 (fsQ false q)):=b6.frz fun b u=>oN (a6.lt u);refine i8 (F:=fun z=>Ret (t6 _ _ _ (t7 (inBlock 0 z) _)) _ _) (Eb (k+1) Hd Hc.n oM vf X v1 v4 _ (fsQ false q) (X3 5 6 (fsQ false q)) oM c6 d5 d4 (X3 5 6 (fsQ false q)).length _ _ ⟨0,nS,fun _=>False,rfl,oM,rfl,rfl,rfl,rfl,g1,u5.nil,fun b u=>(C6 b u).elim,fun j S=>S.elim,d9.refl _ _⟩) ?_;rintro o e' H5 ⟨ho,g2,g4,w,F,f9,b1,hF,J⟩;have i0:=J.n;have c7:H5.g (H.n+1)=cE [nS,nS,nS,nS] 1:=by
  rw[J.g _ oM,O.g _ oM,I.g _ oM,E.g _ oM,D.g _ oM,b2.g _ oM];exact f8
 obtain⟨a3,c3,e3⟩:=b1.slice;have h0:Value.oneCell' w=true:=by rw[e3];rfl
 have d1:ldC (some true) (some 4) 0 [v1,X,w,v4]=some (.agg [v1,X,w,v4].toArray):=rfl;obtain⟨H6,a8⟩:=eY (H5.put (H.n+1) (bC [v1,X,w,v4] 1));have g0:H6.g (H.n+1)=cE [v1,X,w,v4] 1:=by rw[a8];exact i9 oM
 have i1:H6.n=H5.n:=by rw[a8,j9]
 have c0:d9 (H.n+1) H5 H6:=by rw[a8];exact d9.put lR
 have b7:d9 H.n H H6:=(((((((hS.trans (b2.wk oM)).trans (D.wk oM)).trans (E.wk oM)).trans (I.wk oM)).trans (O.wk oM)).trans (J.wk oM)).trans (c0.wk oM))
 have g5:H.n<=H6.low:=((((((b2.wk (show H.n<=H1.n from oM)).trans (D.wk oM)).trans (E.wk oM)).trans (I.wk oM)).trans (O.wk oM)).trans (J.wk oM)).trans (c0.wk oM) |>.low d2
 have a7:∀b,H.n+1<b->H6.g b=H5.g b:=fun b u=>by rw[a8];exact j7 oM
 refine J12 ho g2 g4 f9 d1 c7 d6 e5 h0 e6 a8.symm g0 ?_;refine cn (fun hc=>?_) ?_
 .simp only[sS,Hm,zb,cA]at hc;obtain⟨z1,z2⟩:=dG a9 hc.1;obtain⟨z3,z4⟩:=dG a6 hc.2.1;obtain⟨z5,z6⟩:=dG b1 hc.2.2.1;obtain⟨z7,z8⟩:=dG b0 hc.2.2.2;refine⟨[v1,X,w,v4],rfl,⟨v1,X,w,v4,rfl,?_,?_,?_,?_⟩,d9.refl _ _⟩
  .rw[z1,spQ,z2];exact nX ..
  .rw[z3,spQ,z4];exact nX ..
  .rw[z5,spQ,z6];exact nX ..
  .rw[z7,spQ,z8];exact nX ..
 .have b5:∀{sz:Nat}{α:Type}{R:LV->α->Prop}{v:aa3}{l:List α}(n:Nat),SlI H6 n sz R v l->SlI ⟨H6.bs,min H.low H6.low⟩ n sz R v l:=fun n h=>SlI.mono h (fun _ _=>rfl) lR iF;have b3:d7.n ⟨H6.bs,min H.low H6.low⟩=H6.n:=rfl;refine⟨[v1,X,w,v4],rfl,⟨v1,X,w,v4,rfl,b5 _ ?_,b5 _ ?_,b5 _ ?_,b5 _ ?_⟩,b7.ret g5⟩
  .exact(b8.same fun b u=>by have:=a9.lt u;rw[a7 b oM,J.g b oM]).frz fun b u=>by have:=a9.lt u;rw[b3];omega
  .exact(b6.same fun b u=>by have:=a6.lt u;rw[a7 b oM,J.g b oM]).frz fun b u=>by have:=a6.lt u;rw[b3];omega
  .refine SlF.mono ((b1.same (H':=H6) fun b u=>by have:=b1.lt u;rw[a7 b oM]).frz (F:=fun j=>j<H6.n) fun b u=>by have:=b1.lt u;omega) (fun _ _=>rfl) (fun j S=>S) fun cs a h=>h.mono (fun j S=>?_) fun j S=>?_
   .have:=hF j S;exact a7 j oM
   .have:=hF j S;rw[b3];omega
  .exact(b9.same fun b u=>by have:=b0.lt u;rw[a7 b oM,J.g b oM]).frz fun b u=>by have:=b0.lt u;rw[b3];omega
structure PrD where
 st:Int
 sa:Int
 en:Int
 ed:List (Int×Int×Int×Int)
 ts:List Q
def PrD.edge(p:PrD)(f t k x:Int):PrD:={p with ed:=p.ed++[(f,t,k,x)]}
mutual
def D4:Q->PrD->PrD×Int×Int
 | .mk o _ _ _ a b,p=>
  if o=4 then iz a p
  else if o=5 then(((N9 a p.st {p with st:=p.st+1} []).2.foldl (fun m x=>m.edge x (N9 a p.st {p with st:=p.st+1} []).1.st 0 0) {(N9 a p.st {p with st:=p.st+1} []).1 with st:=(N9 a p.st {p with st:=p.st+1} []).1.st+1}),p.st,(N9 a p.st {p with st:=p.st+1} []).1.st)
  else if o=6 then(((im a {p with st:=p.st+1}).1.edge p.st (im a {p with st:=p.st+1}).2.1 0 0).edge (im a {p with st:=p.st+1}).2.2 p.st 0 0,p.st,p.st)
  else(({p with st:=p.st+2,ts:=if o=7 then p.ts++b else p.ts}:PrD).edge p.st (p.st+1) (if o=2 then 1 else if o=3 then 2 else if o=7 then 3 else 0) (if o=7 then(p.ts.length:Int) else 0),p.st,p.st+1)
def iz:List Q->PrD->PrD×Int×Int
 |[],p=>(p,0,0)
 |x::l,p=>dW l (D4 x p)
def dW:List Q->PrD×Int×Int->PrD×Int×Int
 |[],x=>x
 |q::l,x=>dW l ((D4 q x.1).1.edge x.2.2 (D4 q x.1).2.1 0 0,x.2.1,(D4 q x.1).2.2)
def N9:List Q->Int->PrD->List Int->PrD×List Int
 |[],_,p,es=>(p,es)
 |x::l,n,p,es=>N9 l n ((D4 x p).1.edge n (D4 x p).2.1 0 0) (es++[(D4 x p).2.2])
def im:List Q->PrD->PrD×Int×Int
 |[],p=>(p,0,0)
 |x::_,p=>D4 x p
end
mutual
def nQ:Q->Nat
 | .mk _ _ _ _ a b=>1+nL a+nL b
def nL:List Q->Nat
 |[]=>0
 |x::l=>nQ x+nL l
end
def jr(q:Q):nQ q=1+nL q.a+nL q.b:=by cases q;rw[nQ];rfl
def ym:∀l:List Q,l.length<=nL l
 |[]=>wi _
 |x::l=>by
  have:=ym l;have h:=jr x;rw[nL,kO];omega
def cg(n c:Nat)(p r:PrD):Prop:=p.st<=r.st/\r.st<=p.st+2*n/\r.ed.length+c<=p.ed.length+4*n/\r.ts.length<=p.ts.length+n
def U8(p:PrD)(f t k x:Int):(p.edge f t k x).ed.length=p.ed.length+1:=by simp [PrD.edge]
def aX(p:PrD)(f t k x:Int):(p.edge f t k x).st=p.st:=rfl
def gE(p:PrD)(f t k x:Int):(p.edge f t k x).ts=p.ts:=rfl
def oT(e:Int):∀(l:List Int)(p:PrD),(l.foldl (fun m x=>m.edge x e 0 0) p).st=p.st/\(l.foldl (fun m x=>m.edge x e 0 0) p).ts=p.ts/\(l.foldl (fun m x=>m.edge x e 0 0) p).ed.length=p.ed.length+l.length
 |[],p=>⟨rfl,rfl,rfl⟩
 |x::l,p=>by
  obtain⟨h,u,z⟩:=oT e l (p.edge x e 0 0);rw[sd];refine⟨h,u,?_⟩;rw[z,U8,kO];omega
mutual
def M6:∀(q:Q)(p:PrD),cg (nQ q) 2 p (D4 q p).1
 | .mk o s c v a b,p=>by
  rw[D4,nQ];have hb:=ym b;split
  .have:=DZ a p;unfold cg at*;omega
  .split
   .obtain⟨h1,h2⟩:=fQ a p.st {p with st:=p.st+1} [];obtain⟨k1,k2,k3⟩:=oT (N9 a p.st {p with st:=p.st+1} []).1.st (N9 a p.st {p with st:=p.st+1} []).2 {(N9 a p.st {p with st:=p.st+1} []).1 with st:=(N9 a p.st {p with st:=p.st+1} []).1.st+1};unfold cg at*;simp only[yd]at h2;rw[k1,k2,k3];simp only at h1 ⊢;omega
   .split
    .have h:=Du a {p with st:=p.st+1};unfold cg at*;simp only[U8,aX,gE];simp only at h;omega
    .unfold cg;simp only[U8,aX,gE];split
     .rw[dx];omega
     .omega
def DZ:∀(l:List Q)(p:PrD),cg (nL l) 0 p (iz l p).1
 |[],p=>by rw[iz];unfold cg;simp [nL]
 |x::l,p=>by
  rw[iz,nL];have h1:=M6 x p;have h2:=tZ l (D4 x p);unfold cg at*;omega
def tZ:∀(l:List Q)(x:PrD×Int×Int),cg (nL l) l.length x.1 (dW l x).1
 |[],x=>by rw[dW];unfold cg;simp [nL]
 |q::l,x=>by
  rw[dW,nL];have h1:=M6 q x.1;have h2:=tZ l ((D4 q x.1).1.edge x.2.2 (D4 q x.1).2.1 0 0,x.2.1,(D4 q x.1).2.2);unfold cg at*;simp only[U8,aX,gE]at h2;rw[kO];omega
def fQ:∀(l:List Q)(n:Int)(p:PrD)(es:List Int),cg (nL l) l.length p (N9 l n p es).1/\(N9 l n p es).2.length=es.length+l.length
 |[],n,p,es=>by rw[N9];unfold cg;simp [nL]
 |x::l,n,p,es=>by
  rw[N9,nL];have h1:=M6 x p;obtain⟨h2,h3⟩:=fQ l n ((D4 x p).1.edge n (D4 x p).2.1 0 0) (es++[(D4 x p).2.2]);unfold cg at*;simp only[U8,aX,gE]at h2;rw[dx]at h3;simp only[kO,yd]at h3 ⊢;omega
def Du:∀(l:List Q)(p:PrD),cg (nL l) 0 p (im l p).1
 |[],p=>by rw[im];unfold cg;simp [nL]
 |x::l,p=>by
  rw[im,nL];have h1:=M6 x p;unfold cg at*;omega
end
def PrF(H:d7)(F:Nat->Prop)(Rt:LV->Q->Prop)(cs:LV)(p:PrD):Prop:=∃ve vt,cs=[iV p.st,iV p.sa,iV p.en,ve,vt]/\SlF H F 4 (y7 edE) ve p.ed/\SlF H F 6 Rt vt p.ts
def PrF.mono{H H':d7}{F F':Nat->Prop}{z u:LV->Q->Prop}{cs:LV}{p:PrD}(h:PrF H F z cs p)(D:∀j,F j->H'.g j=H.g j) (E:∀j,F j->F' j) (S:∀cs a,z cs a->u cs a):PrF H' F' u cs p:=by
 obtain⟨U,W,I,J,O⟩:=h;exact⟨U,W,I,J.mono D E iF,O.mono D E S⟩
abbrev W9(F:Nat->Prop)(H H1:d7):Nat->Prop:=fun j=>F j\/(H.n<=j/\j<H1.n)
def ir(H:d7)(F:Nat->Prop)(Rt:LV->Q->Prop)(b4:LV)(p:PrD)(f t k x:Int)(hF:∀j,F j->j<H.n) (hp:PrF H F Rt b4 p) (he:p.ed.length<=1000000):
  Ret (CL prog l7 127 [.agg b4.toArray,iV f,iV t,iV k,iV x] H) H fun w J=>∃cs',w= .agg cs'.toArray/\PrF J (W9 F H J) Rt cs' (p.edge f t k x)/\d9 H.n H J:=by
 obtain⟨ve,vt,rfl,h1,h2⟩:=hp;obtain⟨ea,ec,rfl⟩:=h1.slice;obtain⟨ta,tc,rfl⟩:=h2.slice;obtain⟨E,D⟩:=eY ([iV p.st,iV p.sa,iV p.en,.slice ea p.ed.length ec,.slice ta p.ts.length tc]:LV);obtain⟨Z,hZ⟩:=eY ([iV 0,iV 0,iV 0,nS,nS]:LV);obtain⟨J,S⟩:=eY ((d7.push ⟨H.bs,H.n⟩ (bC E 1)).push (bC Z 1));have d2:(d7.push ⟨H.bs,H.n⟩ (bC E 1)).n=H.n+1:=by rw[i4];rfl
 have hS:d9 H.n H J:=by rw[S];exact(d9.first H _).trans (d9.push oM)
 have a3:J.g H.n=cE E 1:=by rw[S,j5 oM];exact j6
 have c8:J.g (H.n+1)=cE Z 1:=by rw[S];exact A4 oM
 have b2:H.n<=J.low:=by rw[S,l9,l9];exact lR
 have d5:J.n=H.n+2:=by rw[S,i4,d2]
 obtain⟨H2,a5,d6,-,I⟩:=pushE J (bC [] 4);have b7:u5 H2 J.n 4 (y7 edE) (sL J.n 0 0) ([]:List (Int×Int×Int×Int)):=by rw[a5];exact u5.fresh rfl lR F1.nil
 have b6:SlI H2 H.n 4 (y7 edE) (.slice ea p.ed.length ec) p.ed:=SlF.sl (h1.mono (fun j hj=>by have:=hF j hj;rw[I.g j oM,hS.g j oM]) (fun _ h=>h) iF) hF;obtain⟨v3,h3,H3,c0,b0,b8,O⟩:=b7.appendF (P:=prog) (t:=39) (by exact PR.2.2.2.2.2.2) lN.1 lN.2.1 lN.2.2.1 oM oM b6 (by simp;omega) oM;have e1:=O.n;obtain⟨v4,h4,H4,c5,b1,a1,W⟩:=b8.push1F (P:=prog) (t:=39) (cs:=edE (f,t,k,x)) (a:=(f,t,k,x)) (by exact PR.2.2.2.2.2.2) lN.1 lN.2.1 lN.2.2.1 oM oM rfl rfl (by simp;omega) oM;have e2:=W.n;have c6:H4.g H.n=cE E 1:=by rw[W.stay.g _ oM,O.stay.g _ oM,I.g _ oM];exact a3
 have d4:H3.g H.n=cE E 1:=by rw[O.stay.g _ oM,I.g _ oM];exact a3
 have a9:H2.g H.n=cE E 1:=by rw[I.g _ oM];exact a3
 have c7:H4.g (H.n+1)=cE Z 1:=by rw[W.stay.g _ oM,O.stay.g _ oM,I.g _ oM];exact c8
 obtain⟨a4,c4,e4⟩:=a1.slice;have b3:Value.oneCell' v4=true:=by rw[e4];rfl
 have b5:v4.cells.toList=[v4]:=by rw[e4];rfl
 obtain⟨u,z⟩:=eY ([iV p.st,iV p.sa,iV p.en,v4,.slice ta p.ts.length tc]:LV);obtain⟨X,U⟩:=eY ((H4.put H.n (bC u 1)).put (H.n+1) (bC u 1));have d3:splice E 3 [v4]=u:=by rw[D,z];rfl
 have c3:E[3]?=some (.slice ea p.ed.length ec):=by rw[D];rfl
 have l5:E.length=5:=by rw[D];rfl
 have d1:ldC (some true) (some 5) 0 u=some (.agg u.toArray):=by rw[z];rfl
 have b9:splice Z 0 u=u:=by rw[hZ,z];rfl
 have lz:Z.length=5:=by rw[hZ];rfl
 have l2:u.length=5:=by rw[z];rfl
 have a8:E.all oC=true:=by rw[D];rfl
 have a2:u.all oC=true:=by rw[z];simp [b3];exact⟨rfl,rfl,rfl,rfl⟩
 rw[i7 Wp rfl _ sM,<-D];have c9:X.g (H.n+1)=cE u 1:=by rw[U];exact i9 (by rw[j9];omega)
 have a7:d9 H.n H X:=by rw[U];exact((((hS.trans (I.wk oM)).trans (O.stay.wk oM)).trans (W.stay.wk oM)).trans (d9.put lR)).trans (d9.put oM)
 have d0:H.n<=X.low:=by rw[U,A9,A9];have:=(((I.wk (show H.n<=J.n from oM)).trans (O.stay.wk oM)).trans (W.stay.wk oM)).low b2;omega
 have e6:P8 prog 41=some Z:=by rw[hZ];exact uY.2.2.1
 refine J23 a8 hZ.symm S.symm a5.symm a9 c3 c0 b0 c5 b1 c6 c7 l5 b3 b5 d3 d1 l2 lz a2 b9 U.symm c9 ?_;refine cn (fun hc=>?_) ?_
 .rw[z]at hc;simp only[sS,cA]at hc;have:=(dG a1 hc.2.2.2.1).2;simp at this
 .have e5:d7.n ⟨X.bs,min H.low X.low⟩=X.n:=rfl;have e3:X.n=H4.n:=by rw[U,j9,j9]
  have a6:u5 X J.n 4 (y7 edE) v4 (p.ed++[(f,t,k,x)]):=by
   have:=a1.same (H':=X) fun b hb=>by have:=a1.lt hb;rw[U,j7 oM,j7 oM]
   simpa using this
  refine⟨u,rfl,⟨v4,.slice ta p.ts.length tc,z,?_,?_⟩,a7.ret d0⟩
  .exact SlF.mono (a6.frz (F:=fun j=>H.n<=j/\j<X.n) fun b hb=>by have:=a6.lt hb;omega) (fun _ _=>rfl) (fun j hj=> .inr hj) iF
  .exact SlF.mono (H:=H) h2 (fun j hj=>(a7.g j (hF j hj))) (fun j hj=> .inl hj) iF
abbrev se(s e:Int):LV:=[iV s,iV e]
def oG(n:Nat)(p:PrD):Prop:=0<=p.st/\p.st+2*n<=1000000/\p.ed.length+4*n<=900000/\p.ts.length+n<=900000
def FG(H:d7)(F:Nat->Prop)(Rt:LV->Q->Prop)(r:PrD×Int×Int)(w:aa3)(H1:d7):Prop:=∃cs',w= .agg (cs'++se r.2.1 r.2.2).toArray/\PrF H1 (W9 F H H1) Rt cs' r.1/\d9 H.n H H1
def ri(K k:Nat):Prop:=∀(H:d7)(lo:Nat)(F:Nat->Prop)(Rt:LV->Q->Prop)(cs pcs:LV)(q:Q)(p:PrD),lo<=H.n->(∀j,F j->j<H.n)->QR H lo k false cs q->
 (∀k' el x,k'<=K->QR H lo k' true el x->Rt el x)->PrF H F Rt pcs p->OkD false q->oG (nQ q) p->Ret (CL prog l7 101 [.agg pcs.toArray,.agg cs.toArray] H) H (FG H F Rt (D4 q p))
def Fe(H:d7)(A B C:LV):∃h,h=((d7.push ⟨H.bs,H.n⟩ (bC A 1)).push (bC B 1)).push (bC C 1)/\d9 H.n H h/\h.g H.n=cE A 1/\h.g (H.n+1)=cE B 1/\h.g (H.n+2)=cE C 1/\H.n<=h.low/\h.n=H.n+3:=by
 have u:(d7.push ⟨H.bs,H.n⟩ (bC A 1)).n=H.n+1:=by rw[i4];rfl
 have z:((d7.push ⟨H.bs,H.n⟩ (bC A 1)).push (bC B 1)).n=H.n+2:=by rw[i4,u]
 refine⟨_,rfl,((d9.first H _).trans (d9.push oM)).trans (d9.push oM),?_,?_,?_,?_,?_⟩
 .rw[j5 oM,j5 oM];exact j6
 .rw[j5 oM];exact A4 oM
 .exact A4 oM
 .rw[l9,l9,l9];exact lR
 .rw[i4,z]
abbrev z7:LV:=[iV 0,iV 0,iV 0,nS,nS,iV 0,iV 0]
def gX(q:Q)(p:PrD)(h:q.op≠4)(u:q.op≠5)(z:q.op≠6):D4 q p=(({p with st:=p.st+2,ts:=if q.op=7 then p.ts++q.b else p.ts}:PrD).edge p.st (p.st+1) (if q.op=2 then 1 else if q.op=3 then 2 else if q.op=7 then 3 else 0) (if q.op=7 then(p.ts.length:Int) else 0),p.st,p.st+1):=by
 cases q;simp only[Q.op]at h u z;rw[D4,bt h,bt u,bt z];rfl
def F0{H:d7}{F:Nat->Prop}{I:LV->Q->Prop}{cs:LV}{p:PrD}(h:PrF H F I cs p):∃u z D E,cs=[iV p.st,iV p.sa,iV p.en,.slice u p.ed.length z,.slice D p.ts.length E]/\SlF H F 4 (y7 edE) (.slice u p.ed.length z) p.ed/\SlF H F 6 I (.slice D p.ts.length E) p.ts:=by
 obtain⟨S,U,rfl,J,O⟩:=h;obtain⟨u,z,rfl⟩:=J.slice;obtain⟨D,E,rfl⟩:=O.slice;exact⟨u,z,D,E,rfl,J,O⟩
def gN{α:Type}{R:LV->α->Prop}{H H':d7}{F F':Nat->Prop}{sz:Nat}{v:aa3}{l:List α}(h:SlF H F sz R v l)(u:na0 v=true):SlF H' F' sz R v l:=by
 rcases h with h|⟨b,o,c,z,_⟩
 .exact .inl h
 .rw[z]at u;cases u
def iG{H H':d7}{F:Nat->Prop}{z:LV->Q->Prop}{cs':LV}{r:PrD×Int×Int}(U:PrF H' (W9 F H H') z cs' r.1)(O:d9 H.n H H')(S:H.n<=H'.low){c:Bool}(u:c=true->(cs'++se r.2.1 r.2.2).all na0=true):
  Ret (some (br c (.agg (cs'++se r.2.1 r.2.2).toArray,none) (.agg (cs'++se r.2.1 r.2.2).toArray,some ⟨H'.bs,min H.low H'.low⟩))) H (FG H F z r):=by
 obtain⟨I,J,rfl,D,E⟩:=U;refine cn (fun h=>?_) ⟨_,rfl,⟨I,J,rfl,D,E⟩,O.ret S⟩;have h:=u h;simp only[vG,sB,sS,cA]at h;exact⟨_,rfl,⟨I,J,rfl,gN D h.2.2.2.1,gN E h.2.2.2.2.1⟩,d9.refl _ _⟩
def vH(F:Nat->Prop)(Rt:LV->Q->Prop){H Hx:d7}(b:Nat)(D:LV)(h:PrD)(f t z E s e:Int)(zz:LV)(a9:h.ed.length<=1000000)(hF:∀j,F j->j<Hx.n) (b0:PrF Hx F Rt D h) (hz:Hx.g b=cE zz 1) (hb:¬F b):
  ∃h5 U O na I S nb J X,CL prog l7 127 [.agg D.toArray,iV f,iV t,iV z,iV E] Hx=dk (.agg #[iV h.st,iV h.sa,iV h.en,.slice O na I,.slice S nb J]) h5/\h5.getD Hx=U/\U.g b=cE zz 1/\
   X=U.put b (bC ([iV h.st,iV h.sa,iV h.en,.slice O na I,.slice S nb J]++se s e) 1)/\X.g b=cE ([iV h.st,iV h.sa,iV h.en,.slice O na I,.slice S nb J]++se s e) 1/\
   d9 Hx.n Hx U/\X.n=U.n/\PrF X (W9 F Hx X) Rt [iV h.st,iV h.sa,iV h.en,.slice O na I,.slice S nb J] (h.edge f t z E):=by
 obtain⟨v5,a6,U,a8,a1,b3,rfl,a2,W⟩:=ir Hx F Rt D h f t z E hF b0 a9;have b5:=W.n;obtain⟨a4,a5,b1,b2,rfl,b4,b6⟩:=F0 a2;have a7:=u6 hz;have a3:U.g b=cE zz 1:=(W.g _ a7).trans hz;refine⟨a6,U,a4,_,a5,b1,_,b2,_,a8,a1,a3,rfl,i9 oM,W,by rw[j9],?_⟩;refine a2.mono (fun j u=>j7 fun q=>?_) (fun j u=>?_) iF
 .subst q;rcases u with u|u
  .exact hb u
  .omega
 .rcases u with u|u
  .exact .inl u
  .exact .inr ⟨u.1,by rw[j9];exact u.2⟩
def Jn(K k:Nat)(hk:k<=K)(q:Q)(h4:q.op≠4)(h5:q.op≠5)(h6:q.op≠6)(H:d7)(lo:Nat)(F:Nat->Prop)(Rt:LV->Q->Prop)(cs g3:LV)(p:PrD)(n2:lo<=H.n)(hF:∀j,F j->j<H.n) (hr:QR H lo (k+1) false cs q)
  (k2:∀k' el x,k'<=K->QR H lo k' true el x->Rt el x) (hp:PrF H F Rt g3 p) (l6:OkD false q) (f7:oG (nQ q) p):
  Ret (CL prog l7 101 [.agg g3.toArray,.agg cs.toArray] H) H (FG H F Rt (D4 q p)):=by
 obtain⟨f0,f1,f2,f3⟩:=f7;have o0:=jr q;obtain⟨_,_,o1,_,m5⟩:=l6.parts;have o7:=(gJ m5).2.2.1;simp only[bF]at o7;obtain⟨va,ca,wa,e8,rfl,h1,h2,h3,j1⟩:=hr.path;obtain⟨ea,ec,ta,tc,rfl,he,ht⟩:=F0 hp;rw[gX q p h4 h5 h6];obtain⟨b6,z⟩:=eY ([iV p.st,iV p.sa,iV p.en,.slice ea p.ed.length ec,.slice ta p.ts.length tc]:LV);obtain⟨U,D⟩:=eY ([iV q.op,.slice va q.a.length ca,.slice wa q.b.length e8]:LV);obtain⟨H1,b8,hS,b9,b3,l3,c8,n7⟩:=Fe H b6 U z7;have a1:b6.all oC=true:=by rw[z];rfl
 have a2:U.all oC=true:=by rw[D];rfl
 have r0:b6[0]?=some (.int .i64 p.st):=by rw[z];rfl
 have q0:U[0]?=some (.int .i64 q.op):=by rw[D];rfl
 have q2:U[2]?=some (.slice wa q.b.length e8):=by rw[D];rfl
 have lr:b6.length=5:=by rw[z];rfl
 obtain⟨u,J⟩:=eY ([iV (p.st+2),iV p.sa,iV p.en,.slice ea p.ed.length ec,.slice ta p.ts.length tc]:LV);have c0:splice b6 0 [iV (p.st+2)]=u:=by rw[z,J];rfl
 have m7:u[4]?=some (.slice ta p.ts.length tc):=by rw[J];rfl
 have m4:u.length=5:=by rw[J];rfl
 obtain⟨H2,a3⟩:=eY (H1.put H.n (bC u 1));have e1:d9 H.n H1 H2:=by rw[a3];exact d9.put lR
 have n8:H2.n=H1.n:=by rw[a3,j9]
 have a6:H2.g H.n=cE u 1:=by rw[a3];exact i9 oM
 have b1:H2.g (H.n+1)=cE U 1:=by rw[a3,j7 oM];exact b3
 have e9:H2.g (H.n+2)=cE z7 1:=by rw[a3,j7 oM];exact l3
 have c4:decide (q.op=4)=false:=dt h4;have c5:decide (q.op=5)=false:=dt h5;have c6:decide (q.op=6)=false:=dt h6;have e2:ldC (some true) (some 5) 0 u=some (.agg u.toArray):=by rw[J];rfl
 have X:d9 H.n H H2:=hS.trans e1;have f4:∀i,¬F (H.n+i):=fun i q=>oN (hF _ q);by_cases h7:q.op=7
 .have c7:decide (q.op=7)=true:=ib h7;have c2:decide (q.op=2)=false:=dt oM;have c3:decide (q.op=3)=false:=dt oM;rw[bJ h7,bt oM,bt oM,bJ h7,bJ h7];have k9:=o7.1 h7;obtain⟨x,nb,o,m9,own,el,hx,hd,rfl,n6,g0,l5,c9,hR⟩:=h2.row (i:=0) oM;have l1:q.b=[x]:=by
   obtain⟨y,hy⟩:=Bj.1 k9;rw[hy]at hx ⊢;simpa using hx
  simp only[qSz,jd,Ck,ly]at c9 g0 l5;have d3:H2.g nb=_:=(X.g nb oM).trans g0;obtain⟨K1,f5,o4,-,b2⟩:=pushE H2 (bC [] 6);have k0:u5 K1 H2.n 6 Rt (sL H2.n 0 0) ([]:List Q):=by rw[f5];exact u5.fresh rfl lR F1.nil
  have m2:SlI K1 H.n 6 Rt (.slice ta p.ts.length tc) p.ts:=SlF.sl (ht.mono (fun j E=>by have:=hF j E;rw[b2.g j oM,X.g j this]) (fun _ h=>h) iF) hF;obtain⟨v3,n0,H3,k6,f8,k1,d4⟩:=k0.appendF (P:=prog) (t:=34) (by exact yV.2.2.2.2.2.2) Y7.1 Y7.2.1 Y7.2.2.1 oM oM m2 (by simp;omega) oM;have n3:=d4.n;obtain⟨v4,j1,H4,k7,f9,d6,d5⟩:=k1.push1F (P:=prog) (t:=34) (cs:=el) (a:=x) (by exact yV.2.2.2.2.2.2) Y7.1 Y7.2.1 Y7.2.2.1 oM oM hR.len (k2 k el x hk hR) (by simp;omega) oM;have n4:=d5.n;have k3:∀j,j<H2.n->H3.g j=H2.g j:=fun j E=>by rw[d4.stay.g j oM,b2.g j E]
  have k4:∀j,j<H2.n->H4.g j=H2.g j:=fun j E=>by rw[d5.stay.g j oM,k3 j E]
  have g4:K1.g H.n=cE u 1:=(b2.g _ oM).trans a6;have g8:K1.g (H.n+1)=cE U 1:=(b2.g _ oM).trans b1;have g9:=(b2.g nb oM).trans d3;have h0:H3.g H.n=cE u 1:=(k3 _ oM).trans a6;have h8:H3.g (H.n+1)=cE U 1:=(k3 _ oM).trans b1;have h9:=(k3 nb oM).trans d3;have i0:H4.g H.n=cE u 1:=(k4 _ oM).trans a6;have i1:H4.g (H.n+2)=cE z7 1:=(k4 _ oM).trans e9;obtain⟨a4,m8,e4⟩:=d6.slice;have m6:Value.oneCell' v4=true:=by rw[e4];rfl
  have j0:v4.cells.toList=[v4]:=by rw[e4];rfl
  obtain⟨S,b0⟩:=eY ([iV (p.st+2),iV p.sa,iV p.en,.slice ea p.ed.length ec,v4]:LV);have g2:splice u 4 [v4]=S:=by rw[J,b0];rfl
  have m3:ldC (some true) (some 5) 0 S=some (.agg S.toArray):=by rw[b0];rfl
  obtain⟨I,a7⟩:=eY (H4.put H.n (bC S 1));have n5:I.n=H4.n:=by rw[a7,j9]
  have g5:I.g H.n=cE S 1:=by rw[a7];exact i9 oM
  have i2:I.g (H.n+2)=cE z7 1:=by rw[a7,j7 oM];exact i1
  have k5:∀j,j<H.n->I.g j=H.g j:=fun j E=>by rw[a7,j7 oM,k4 j oM,X.g j E]
  have f6:u5 I H2.n 6 Rt v4 (p.ts++[x]):=by
   have:=d6.same (H':=I) fun b hb=>by have:=d6.lt hb;rw[a7,j7 oM]
   simpa using this
  have m0:PrF I (W9 F H2 I) Rt S {p with st:=p.st+2,ts:=p.ts++q.b}:=by
   refine⟨_,_,b0,he.mono (fun j E=>k5 j (hF j E)) (fun _ h=> .inl h) iF,?_⟩;rw[l1];exact SlF.mono (f6.frz (F:=fun j=>H2.n<=j/\j<I.n) fun b hb=>by have:=f6.lt hb;omega) (fun _ _=>rfl) (fun j E=> .inr E) iF
  have j2:∀j,W9 F H2 I j->j<I.n:=by
   rintro j (E|E)
   .have:=hF j E;omega
   .exact E.2
  have j3:¬W9 F H2 I (H.n+2):=by
   rintro(q|q)
   .exact f4 2 q
   .omega
  obtain⟨n1,H6,e3,na,d0,e5,o5,d1,H7,a8,O,b5,e7,g7,W,n9,m1⟩:=vH (W9 F H2 I) Rt (H:=H) (Hx:=I) (H.n+2) S {p with st:=p.st+2,ts:=p.ts++q.b} p.st (p.st+1) 3 p.ts.length p.st (p.st+1) z7 (by show p.ed.length<=_;omega) j2 m0 i2 j3;have s5:d9 H.n H1 I:=(((e1.trans (b2.wk oM)).trans (d4.stay.wk oM)).trans (d5.stay.wk oM)).trans (by rw[a7];exact d9.put lR);have s7:d9 H.n H1 H7:=(s5.trans (W.wk oM)).trans (by rw[e7];exact d9.put oM);have j4:∀j,W9 (W9 F H2 I) I H7 j->W9 F H H7 j:=by
   have:=W.n;rintro j ((E|E)|E)
   .exact .inl E
   .exact .inr ⟨oM,oM⟩
   .exact .inr ⟨oM,E.2⟩
  have q3:PrF H7 (W9 F H H7) Rt _ _:=m1.mono (fun _ _=>rfl) j4 iF;have l4:=s7.low c8;simp only[vG,sB]at e7 g7;rw[i7 lu rfl _ sM,<-z,<-D];have k8:el.all oC=true:=by
   cases k with
   |zero=>exact hR.elim
   |succ k=>obtain⟨_,_,_,_,rfl,_⟩:=hR.filter;rfl
  have i3:bsA prog (some 126) H3 1 [(0,.agg el.toArray)]=some (sL H3.n 1 1,H3.push (bC el 6)):=by
   cases k with
   |zero=>exact hR.elim
   |succ k=>
    obtain⟨_,_,_,_,rfl,_⟩:=hR.filter;simp only[E4,Y7,E5];rfl
  refine J30 a1 a2 b8.symm b9 b3 r0 q0 q2 lr c0 a3.symm a6 (aI b1 c4) (aI c5 c6) (aI c7 c2) (aI c3 m7) (aI @wrap_small f5.symm) (aI d3 g4) (aI g8 g9) (aI c9 k6) (aI f8 h0) (aI h8 h9) (aI i3 k7) (aI f9 i0) (aI m4 m6) (aI j0 g2) (aI a7.symm g5) (aI m3 a8) (aI O b5) (aI e7.symm g7) ?_;exact iG (r:=(_,p.st,p.st+1)) q3 (hS.trans s7) l4 (fun h=>by simpa only[vG,sB,sS,Hm,nr,tT,zb] using h)
 .have c7:decide (q.op=7)=false:=dt h7;simp only[bt h7];have l8:PrF H2 F Rt u {p with st:=p.st+2}:=⟨_,_,J,he.mono (fun j E=>X.g j (hF j E)) (fun _ h=>h) iF,ht.mono (fun j E=>X.g j (hF j E)) (fun _ h=>h) iF⟩
  have ed:=fun a5=>vH F Rt (H:=H) (H.n+2) u {p with st:=p.st+2} p.st (p.st+1) a5 0 p.st (p.st+1) z7 (by show p.ed.length<=_;omega) (fun j E=>by have:=hF j E;omega) l8 e9 (f4 2);have d2:∀(a5:Int)(I H6:d7)(b7:LV),H6=I.put (H.n+2) (.cells (b7++se p.st (p.st+1)) true 1)->d9 H2.n H2 I->PrF H6 (W9 F H2 H6) Rt b7 (({p with st:=p.st+2}:PrD).edge p.st (p.st+1) a5 0)->d9 H.n H H6/\H.n<=H6.low/\PrF H6 (W9 F H H6) Rt b7 (({p with st:=p.st+2}:PrD).edge p.st (p.st+1) a5 0):=by
   intro a5 I H6 b7 e6 W a9;have s6:d9 H.n H2 H6:=(W.wk oM).trans (by rw[e6];exact d9.put oM);exact⟨X.trans s6,(e1.trans s6).low c8,a9.mono (fun _ _=>rfl) (fun j E=>E.imp id fun h=>⟨oM,h.2⟩) iF⟩
  by_cases o2:q.op=2
  .have c2:decide (q.op=2)=true:=ib o2;have c3:decide (q.op=3)=false:=dt oM;rw[bJ o2];obtain⟨h5,I,e3,na,d0,e5,nb,d1,H6,a8,O,b5,e6,g6,W,g1,a9⟩:=ed 1;obtain⟨q1,b4,q3⟩:=d2 1 I H6 _ e6 W a9;simp only[vG,sB]at e6 g6;rw[i7 lu rfl _ sM,<-z,<-D];refine J25 a1 a2 b8.symm b9 b3 r0 q0 lr c0 a3.symm a6 b1 c4 c5 c6 c7 c2 c3 @wrap_small e2 a8 O b5 e6.symm g6 ?_;exact iG (r:=(_,p.st,p.st+1)) q3 q1 b4 (fun h=>by simpa only[vG,sB,sS,Hm,nr,tT,zb] using h)
  .have c2:decide (q.op=2)=false:=dt o2;rw[bt o2];by_cases o3:q.op=3
   .have c3:decide (q.op=3)=true:=ib o3;rw[bJ o3];obtain⟨h5,I,e3,na,d0,e5,nb,d1,H6,a8,O,b5,e6,g6,W,g1,a9⟩:=ed 2;obtain⟨q1,b4,q3⟩:=d2 2 I H6 _ e6 W a9;simp only[vG,sB]at e6 g6;rw[i7 lu rfl _ sM,<-z,<-D];refine J25 a1 a2 b8.symm b9 b3 r0 q0 lr c0 a3.symm a6 b1 c4 c5 c6 c7 c2 c3 @wrap_small e2 a8 O b5 e6.symm g6 ?_;exact iG (r:=(_,p.st,p.st+1)) q3 q1 b4 (fun h=>by simpa only[vG,sB,sS,Hm,nr,tT,zb] using h)
   .have c3:decide (q.op=3)=false:=dt o3;rw[bt o3];obtain⟨h5,I,e3,na,d0,e5,nb,d1,H6,a8,O,b5,e6,g6,W,g1,a9⟩:=ed 0;obtain⟨q1,b4,q3⟩:=d2 0 I H6 _ e6 W a9;simp only[vG,sB]at e6 g6;rw[i7 lu rfl _ sM,<-z,<-D];refine J25 a1 a2 b8.symm b9 b3 r0 q0 lr c0 a3.symm a6 b1 c4 c5 c6 c7 c2 c3 @wrap_small e2 a8 O b5 e6.symm g6 ?_;exact iG (r:=(_,p.st,p.st+1)) q3 q1 b4 (fun h=>by simpa only[vG,sB,sS,Hm,nr,tT,zb] using h)
def vi(q:Q)(p:PrD)(h:q.op=6){x:Q}(u:q.a=[x]):D4 q p=(((D4 x {p with st:=p.st+1}).1.edge p.st (D4 x {p with st:=p.st+1}).2.1 0 0).edge (D4 x {p with st:=p.st+1}).2.2 p.st 0 0,p.st,p.st):=by
 cases q;simp only[Q.op]at h;simp only[Q.a]at u;subst h;subst u;rw[D4,bt (by decide),bt (by decide),bJ rfl,im]
def Jo(K k:Nat)(hk:k<=K)(ih:ri K k)(q:Q)(h6:q.op=6)(H:d7)(lo:Nat)(F:Nat->Prop)(Rt:LV->Q->Prop)(cs e4:LV)(p:PrD)(n5:lo<=H.n)(hF:∀j,F j->j<H.n) (hr:QR H lo (k+1) false cs q)
  (h8:∀k' el x,k'<=K->QR H lo k' true el x->Rt el x) (hp:PrF H F Rt e4 p) (j2:OkD false q) (d1:oG (nQ q) p):
  Ret (CL prog l7 101 [.agg e4.toArray,.agg cs.toArray] H) H (FG H F Rt (D4 q p)):=by
 obtain⟨f0,f1,f2,f3⟩:=d1;have j1:=jr q;obtain⟨l3,_,o1,_,l4⟩:=j2.parts;obtain⟨l1,l2,_,_⟩:=gJ l4;have e1:lst false q.op=1/\mst false q.op=1:=by rw[h6];decide
 rw[e1.1]at l1;rw[e1.2]at l2;obtain⟨va,ca,wa,f7,rfl,h1,h2,h3,m7⟩:=hr.path;obtain⟨ea,ec,ta,tc,rfl,he,ht⟩:=F0 hp;obtain⟨x,nb,o,m5,own,el,hx,hd,rfl,n6,e2,j0,b5,hR⟩:=h1.row (i:=0) oM;have b7:q.a=[x]:=by
  obtain⟨y,hy⟩:=Bj.1 (show q.a.length=1 from oM);rw[hy]at hx ⊢;simpa using hx
 simp only[qSz,bF,Ck,ly]at b5 e2 j0;have o5:nQ x+1<=nQ q:=by rw[j1,b7,nL,nL];omega
 rw[vi q p h6 b7];obtain⟨a9,J⟩:=eY ([iV p.st,iV p.sa,iV p.en,.slice ea p.ed.length ec,.slice ta p.ts.length tc]:LV);obtain⟨U,O⟩:=eY ([iV q.op,.slice (some ⟨nb,o,none⟩) q.a.length ca,.slice wa q.b.length f7]:LV);obtain⟨H1,h5,hS,i0,d2,i1,e3,n7⟩:=Fe H a9 U z7;have a1:a9.all oC=true:=by rw[J];rfl
 have a2:U.all oC=true:=by rw[O];rfl
 have r0:a9[0]?=some (.int .i64 p.st):=by rw[J];rfl
 have q0:U[0]?=some (.int .i64 q.op):=by rw[O];rfl
 have q1:U[1]?=some (.slice (some ⟨nb,o,none⟩) q.a.length ca):=by rw[O];rfl
 have lr:a9.length=5:=by rw[J];rfl
 have n3:(0:Int)<q.a.length:=oM;obtain⟨D,I⟩:=eY ([iV (p.st+1),iV p.sa,iV p.en,.slice ea p.ed.length ec,.slice ta p.ts.length tc]:LV);have k3:splice a9 0 [iV (p.st+1)]=D:=by rw[J,I];rfl
 have k9:D.length=5:=by rw[I];rfl
 obtain⟨H2,a3⟩:=eY (H1.put H.n (bC D 1));have c9:d9 H.n H1 H2:=by rw[a3];exact d9.put lR
 have n9:H2.n=H1.n:=by rw[a3,j9]
 have c7:H2.g H.n=cE D 1:=by rw[a3];exact i9 oM
 have g9:H2.g (H.n+1)=cE U 1:=by rw[a3,j7 oM];exact d2
 have h0:H2.g (H.n+2)=cE z7 1:=by rw[a3,j7 oM];exact i1
 have c4:decide (q.op=4)=false:=dt oM;have c5:decide (q.op=5)=false:=dt oM;have c6:decide (q.op=6)=true:=ib h6;have k5:ldC (some true) (some 5) 0 D=some (.agg D.toArray):=by rw[I];rfl
 have S:d9 H.n H H2:=hS.trans c9;have n0:∀i,¬F (H.n+i):=fun i q=>oN (hF _ q);have g7:H2.g nb=_:=(S.g nb oM).trans e2;have j3:PrF H2 F Rt D {p with st:=p.st+1}:=⟨_,_,I,he.mono (fun j z=>S.g j (hF j z)) (fun _ h=>h) iF,ht.mono (fun j z=>S.g j (hF j z)) (fun _ h=>h) iF⟩
 obtain⟨v3,m6,H3,b2,d3,m4,rfl,b3,b6⟩:=ih H2 lo F Rt el D x {p with st:=p.st+1} oM (fun j z=>by have:=hF j z;omega) (hR.mono (fun j z=>S.g j oM) lR)
  (fun k' el x i2 h=>h8 k' el x i2 (h.mono (fun j z=>(S.g j oM).symm) lR)) j3 (l3 x (by rw[b7];simp)) ⟨by show 0<=p.st+1;omega,by show p.st+1+2*_<=_;omega,by show p.ed.length+_<=_;omega,by show p.ts.length+_<=_;omega⟩
 have d6:=M6 x {p with st:=p.st+1};obtain⟨r,k2⟩:∃r,r=D4 x {p with st:=p.st+1}:=eX;rw[<-k2]at b3 d6 b2 ⊢;obtain⟨g1,g2,g3,g4⟩:=d6;simp only at g1 g2 g3 g4;obtain⟨b9,c0,e5,e6,rfl,n1,o6⟩:=F0 b3;have o0:=b6.n;obtain⟨K,X⟩:=eY ([iV r.1.st,iV r.1.sa,iV r.1.en,.slice b9 r.1.ed.length c0,.slice e5 r.1.ts.length e6,iV r.2.1,iV r.2.2]:LV);obtain⟨b0,a7⟩:=eY ([iV r.1.st,iV r.1.sa,iV r.1.en,.slice b9 r.1.ed.length c0,.slice e5 r.1.ts.length e6]:LV);simp only[vG,sB]at b2;rw[<-X]at b2;rw[<-a7]at b3;have aK:K.all oC=true:=by rw[X];rfl
 have lK:K.length=7:=by rw[X];rfl
 have m1:splice z7 0 K=K:=by rw[X];rfl
 obtain⟨H4,h7,n4,c3,b4⟩:=pushP H3 (bC z7 1) (bC K 1);have k4:∀j,j<H2.n->H4.g j=H2.g j:=fun j z=>by rw[b4.g j oM,b6.g j z]
 have e8:H4.g (H.n+2)=cE z7 1:=(k4 _ oM).trans h0;have e7:H4.g H.n=cE D 1:=(k4 _ oM).trans c7;have k8:ldC (some true) (some 5) 0 K=some (.agg b0.toArray):=by rw[X,a7];rfl
 have K5:K[5]?=some (.int .i64 r.2.1):=by rw[X];rfl
 have K6:K[6]?=some (.int .i64 r.2.2):=by rw[X];rfl
 have j4:PrF H4 (W9 F H2 H3) Rt b0 r.1:=b3.mono (fun j z=>by
  rcases z with z|z
  .have:=hF j z;exact b4.g j oM
  .exact b4.g j z.2) (fun _ h=>h) iF
 have c8:∀j,W9 F H2 H3 j->j<H3.n:=by
  rintro j (z|z)
  .have:=hF j z;omega
  .exact z.2
 obtain⟨v5,m8,H5,h9,d4,f8,rfl,k0,a5⟩:=ir H4 (W9 F H2 H3) Rt b0 r.1 p.st r.2.1 0 0 (fun j z=>by have:=c8 j z;omega) j4 oM;have o2:=a5.n;have e9:H5.g H3.n=cE K 1:=(a5.g _ oM).trans c3;have h4:∀j,W9 (W9 F H2 H3) H4 H5 j->j<H5.n:=by
  rintro j (z|z)
  .have:=c8 j z;omega
  .exact z.2
 obtain⟨v6,m9,H6,d0,d5,u,rfl,b8,b1⟩:=ir H5 _ Rt f8 _ r.2.2 p.st 0 0 h4 k0 (by rw[U8];omega);have o3:=b1.n;obtain⟨f9,g0,m2,m3,rfl,n2,o7⟩:=F0 b8;obtain⟨u,E⟩:=eY ([iV ((r.1.edge p.st r.2.1 0 0).edge r.2.2 p.st 0 0).st,iV ((r.1.edge p.st r.2.1 0 0).edge r.2.2 p.st 0 0).sa,iV ((r.1.edge p.st r.2.1 0 0).edge r.2.2 p.st 0 0).en,.slice f9 ((r.1.edge p.st r.2.1 0 0).edge r.2.2 p.st 0 0).ed.length g0,.slice m2 ((r.1.edge p.st r.2.1 0 0).edge r.2.2 p.st 0 0).ts.length m3]:LV);rw[<-E]at b8 d0;have l6:u.length=5:=by rw[E];rfl
 have a6:u.all oC=true:=by rw[E];rfl
 have l5:splice D 0 u=u:=by rw[E,I];rfl
 have k6:ldC (some true) (some 5) 0 u=some (.agg u.toArray):=by rw[E];rfl
 have f6:Y3 (fun i=>([(0,5),(5,1),(6,1)]:List (Nat×Nat))[i]?) z7 [(0,.agg u.toArray),(1,iV p.st),(2,iV p.st)]=some (u++se p.st p.st):=by rw[E];rfl
 have f4:H6.g H.n=cE D 1:=(b1.g _ oM).trans ((a5.g _ oM).trans e7);have f5:H6.g (H.n+2)=cE z7 1:=(b1.g _ oM).trans ((a5.g _ oM).trans e8);obtain⟨H7,W⟩:=eY (H6.put H.n (bC u 1));have g5:H7.g H.n=cE u 1:=by rw[W];exact i9 oM
 have g6:H7.g (H.n+2)=cE z7 1:=by rw[W,j7 oM];exact f5
 have a8:(u++se p.st p.st).all oC=true:=by rw[E];rfl
 have l8:(u++se p.st p.st).length=7:=by rw[E];rfl
 have m0:splice z7 0 (u++se p.st p.st)=u++se p.st p.st:=by rw[E];rfl
 have k7:ldC (some true) (some 7) 0 (u++se p.st p.st)=some (.agg (u++se p.st p.st).toArray):=by rw[E];rfl
 obtain⟨H8,a4⟩:=eY (H7.put (H.n+2) (bC (u++se p.st p.st) 1));have g8:H8.g (H.n+2)=cE (u++se p.st p.st) 1:=by rw[a4];exact i9 (by rw[W,j9];omega)
 have s8:d9 H.n H1 H8:=(((((c9.trans (b6.wk oM)).trans (b4.wk oM)).trans (a5.wk oM)).trans (b1.wk oM)).trans (show d9 H.n H6 H7 by rw[W];exact d9.put lR)).trans (show d9 H.n H7 H8 by rw[a4];exact d9.put oM);have n8:H8.n=H6.n:=by rw[a4,j9,W,j9]
 have i3:=s8.low e3;have k1:PrF H8 (W9 F H H8) Rt u ((r.1.edge p.st r.2.1 0 0).edge r.2.2 p.st 0 0):=b8.mono (fun j z=>by
  have o4:j≠H.n/\j≠H.n+2:=by
   rcases z with((z|z)|z)|z
   .have:=hF j z;omega
   .omega
   .omega
   .omega
  rw[a4,j7 oM,W,j7 oM]) (fun j z=>by
  rcases z with((z|z)|z)|z
  .exact .inl z
  .exact .inr ⟨oM,oM⟩
  .exact .inr ⟨oM,oM⟩
  .exact .inr ⟨oM,oM⟩) iF
 rw[i7 lu rfl _ sM,<-J,<-O];refine J30 a1 a2 h5.symm i0 d2 r0 q0 q1 lr (aI k3 a3.symm) (aI c7 g9) (aI c4 c5) (aI c6 @wrap_small) (aI k5 g7) (aI b5 b2) (aI d3 aK) (aI lK m1) (aI h7.symm c3) (aI k8 K5) (aI K6 h9) (aI d4 e9) (aI d0 d5) (aI f4 k9) (aI l6 a6) (aI l5 W.symm) (aI g5 k6) (aI g6 f6) (aI a8 l8) (aI m0 a4.symm) (aI g8 k7) ?_;exact iG (r:=(_,p.st,p.st)) k1 (hS.trans s8) i3 (fun h=>h)
structure PV(Kc row4:LV)(r:PrD×Int×Int):Prop where
 all:Kc.all Value.oneCell'=true
 len:Kc.length=7
 spl:splice z7 0 Kc=Kc
 ld5:ldC (some true) (some 5) 0 Kc=some (.agg row4.toArray)
 ld7:ldC (some true) (some 7) 0 Kc=some (.agg Kc.toArray)
 c5:Kc[5]?=some (.int .i64 r.2.1)
 c6:Kc[6]?=some (.int .i64 r.2.2)
 row:Kc=row4++se r.2.1 r.2.2
 len4:row4.length=5
 all4:row4.all Value.oneCell'=true
 spl7:∀K2:LV,K2.length=7->splice K2 0 Kc=Kc
 spl5:∀R:LV,R.length=5->splice R 0 row4=row4
 bld:∀s e:Int,Y3 (fun i=>([(0,5),(5,1),(6,1)]:List (Nat×Nat))[i]?) z7 [(0,.agg row4.toArray),(1,iV s),(2,iV e)]=some (row4++se s e)
 ld:ldC (some true) (some 5) 0 row4=some (.agg row4.toArray)
def A0:∀(A B:LV),A.length=B.length->splice A 0 B=B:=by
 intro A B h;apply Fd;intro i;rw[Q5 B A 0 i oM];split
 .simp
 .rw[yB oM,yB oM]
def nV{H:d7}{F:Nat->Prop}{D:LV->Q->Prop}{u:LV}{r:PrD×Int×Int}(h:PrF H F D u r.1):PV (u++se r.2.1 r.2.2) u r:=by
 obtain⟨I,J,O,S,rfl,_,_⟩:=F0 h;exact⟨rfl,rfl,rfl,rfl,rfl,rfl,rfl,rfl,rfl,rfl,fun E z=>A0 _ _ (by rw[z];rfl),fun R z=>A0 _ _ (by rw[z];rfl),fun s e=>rfl,rfl⟩
def qV(K k:Nat)(ih:ri K k)(lo:Nat)(F:Nat->Prop)(Rt:LV->Q->Prop)(Hx:d7)(el E:LV)(x:Q)(D:PrD)(a7:lo<=Hx.n)(hF:∀j,F j->j<Hx.n) (hr:QR Hx lo k false el x)
  (a5:∀k' el x,k'<=K->QR Hx lo k' true el x->Rt el x) (hp:PrF Hx F Rt E D) (a8:OkD false x) (U:oG (nQ x) D):
  ∃h3 z I u,CL prog l7 101 [.agg E.toArray,.agg el.toArray] Hx=dk (.agg (u++se (D4 x D).2.1 (D4 x D).2.2).toArray) h3/\h3.getD Hx=z/\I=(z.push (bC z7 1)).put z.n (.cells (u++se (D4 x D).2.1 (D4 x D).2.2) true 1)/\
   I.n=z.n+1/\I.g z.n=some (.cells (u++se (D4 x D).2.1 (D4 x D).2.2) true 1)/\Hx.n<=z.n/\d9 Hx.n Hx I/\PrF I (W9 F Hx z) Rt u (D4 x D).1/\PV (u++se (D4 x D).2.1 (D4 x D).2.2) u (D4 x D)/\(∀j,W9 F Hx z j->j<z.n):=by
 obtain⟨v3,a4,z,a6,W,J,rfl,a2,S⟩:=ih Hx lo F Rt el E x D a7 hF hr a5 hp a8 U;have a1:=S.n;have O:∀j,W9 F Hx z j->j<z.n:=by
  rintro j (X|X)
  .have:=hF j X;omega
  .exact X.2
 have a3:d9 z.n z ((z.push (bC z7 1)).put z.n (.cells (J++se (D4 x D).2.1 (D4 x D).2.2) true 1)):=(d9.push lR).trans (d9.put lR);exact⟨a4,z,_,J,a6,W,rfl,by rw[j9,i4],i9 (by rw[i4];omega),a1,S.trans (a3.wk a1),a2.mono (fun j X=>a3.g j (O j X)) (fun _ h=>h) iF,nV a2,O⟩
def MD(K k:Nat)(hk:k<=K)(ih:ri K k)(H0:d7)(lo I:Nat)(F:Nat->Prop)(Rt:LV->Q->Prop)(e8:lo<=I)(hF:∀j,F j->j<I) (d0:∀k' el x,k'<=K->QR H0 lo k' true el x->Rt el x) (e5:I+3<=H0.n)
  (va:Option Addr) (ca:Nat) (l:List Q) (hv:QsR H0 lo k false (.slice va l.length ca) l) (hn:l.length<=1048576) (d5:∀x∈l,OkD false x) (a3:LV) (hq:H0.g (I+1)=cE a3 1) (b8:a3[1]?=some (.slice va l.length ca)) (g4:H0.g (I+2)=cE z7 1) (W:PrD×Int×Int):
  ∀kk e H2,(∃(i E:Nat)(r:PrD×Int×Int)(u:LV)(G:Nat->Prop),kk=l.length-i/\i<=l.length/\e.g 3=pT (I+1)/\e.g 4=pT (I+2)/\e.g 6=pT E/\e.g 7=iV r.2.1/\e.g 8=iV i/\
    H2.g E=cE (u++se r.2.1 r.2.2) 1/\I+3<=E/\E<H2.n/\PrF H2 G Rt u r.1/\(∀j,G j->(F j\/I+3<=j)/\j<H2.n/\j≠E)/\d9 (I+3) H0 H2/\oG (nL (l.drop i)) r.1/\dW (l.drop i) r=W)->
  u7 (LE prog l7 (.loop Rj) e H2) (fun o e H2=>o= .exit 0/\e.g 4=pT (I+2)/\∃(E:Nat)(u:LV)(G:Nat->Prop),e.g 6=pT E/\H2.g E=cE (u++se W.2.1 W.2.2) 1/\PrF H2 G Rt u W.1/\(∀j,G j->(F j\/I+3<=j)/\j<H2.n)/\d9 (I+3) H0 H2):=by
 refine i5 _ _ ?_;rintro kk e H2 ⟨i,E,r,u,G,e6,hi,f3,f4,f6,f7,f8,g6,d6,b7,hp,hG,hS,O,fu⟩;have f0:=hS.n;have b9:=(hS.g (I+1) oM).trans hq;have h7:=nV hp;obtain⟨Kc,a7⟩:=eY (u++se r.2.1 r.2.2);rw[<-a7]at h7 g6;rcases b:decide ((i:Int)<l.length)with _|_
 .have d1:=dF b;have:l.drop i=[]:=dN oM;rw[this,dW]at fu;refine J5 f3 f8 b9 b8 b ?_;exact i6 ⟨rfl,f4,E,u,G,f6,by rw[<-fu,<-a7];exact g6,by rw[<-fu];exact hp,fun j D=>⟨(hG j D).1,(hG j D).2.1⟩,hS⟩
 have d1:=dT b;obtain⟨x,nb,o,e1,own,el,hx,hd,rfl,e9,b4,e7,a1,hR⟩:=hv.row (i:=i) oM;have nt:(i:Int).toNat=i:=tN i;simp only[qSz,bF]at a1 b4;have c7:=(hS.g nb oM).trans b4;rw[hd]at fu O;rw[dW]at fu;rw[nL]at O;obtain⟨t0,t1,t2,t3⟩:=O;have b3:=M6 x r.1;obtain⟨e2,H3,H4,a2,a4,b1,e4,n4,S,n3,a9,b5,z,c8⟩:=qV K k ih lo G Rt H2 el u x r.1 oM (fun j D=>(hG j D).2.1) (hR.mono (fun j D=>hS.g j oM) lR) (fun k' el x d3 h=>d0 k' el x d3 (h.mono (fun j D=>(hS.g j oM).symm) lR)) hp (d5 x (mG hx)) ⟨t0,oM,oM,oM⟩;obtain⟨y,hy⟩:=eY (D4 x r.1);rw[<-hy]at a4 e4 S b5 z b3 fu;obtain⟨w0,w1,w2,w3⟩:=b3;obtain⟨Kd,c9⟩:=eY (a2++se y.2.1 y.2.2);rw[<-c9]at a4 e4 S z;have a6:H4.g E=cE Kc 1:=(a9.g E b7).trans g6;have d4:¬W9 G H2 H3 E:=by
  rintro(q|q)
  .exact(hG E q).2.2 rfl
  .omega
 obtain⟨v5,e3,H5,d2,b2,a5,rfl,b6,U⟩:=ir H4 (W9 G H2 H3) Rt a2 y.1 r.2.2 y.2.1 0 0 (fun j D=>by have:=c8 j D;omega) b5 oM;have n5:=U.n;have J:=nV (r:=(y.1.edge r.2.2 y.2.1 0 0,r.2.1,y.2.2)) b6;have c4:H5.g H3.n=cE Kd 1:=(U.g _ oM).trans S;have c3:H5.g E=cE Kc 1:=(U.g _ oM).trans a6;obtain⟨Ke,a8⟩:=eY (a5++se r.2.1 y.2.2);have X:=J.bld r.2.1 y.2.2;simp only at J;rw[<-a8]at J X;have c0:=J.spl7 Kc h7.len;refine J30 f3 f6 f7 f8 b9 b8 b c7 nt a1 g6 h7.ld5 h7.len a4 b1 z.all z.len z.spl e4.symm S z.ld5 z.c5 z.c6 a6 h7.c6 d2 (aI b2 c4) (aI c3 X) (aI J.all J.len) (aI c0 @wrap_small) ?_;refine d8 (kk-1) oM ⟨i+1,E,(y.1.edge r.2.2 y.2.1 0 0,r.2.1,y.2.2),a5,W9 (W9 G H2 H3) H4 H5,oM,oM,f3,f4,f6,f7,rfl,by rw[<-a8];exact i9 oM,d6,by rw[j9];omega,b6.mono (fun j D=>j7 ?_) (fun _ h=>h) iF,?_,?_,?_,fu⟩
 .rintro rfl;rcases D with D|D
  .exact d4 D
  .omega
 .rintro j ((D|D)|D)
  .have:=hG j D;exact⟨this.1,by rw[j9];omega,this.2.2⟩
  .exact⟨.inr oM,by rw[j9];omega,oM⟩
  .exact⟨.inr oM,by rw[j9];omega,oM⟩
 .exact((hS.trans (a9.wk oM)).trans (U.wk oM)).trans (d9.put oM)
 .refine⟨by simp only[aX];omega,by simp only[aX];omega,by rw[U8];omega,by simp only[gE];omega⟩
def zc(q:Q)(p:PrD)(h:q.op=4):D4 q p=iz q.a p:=by
 cases q;simp only[Q.op]at h;subst h;rw[D4,bJ rfl];rfl
def Ns(K k:Nat)(hk:k<=K)(ih:ri K k)(q:Q)(h4:q.op=4)(H:d7)(lo:Nat)(F:Nat->Prop)(Rt:LV->Q->Prop)(cs c8:LV)(p:PrD)(e3:lo<=H.n)(hF:∀j,F j->j<H.n) (hr:QR H lo (k+1) false cs q)
  (b2:∀k' el x,k'<=K->QR H lo k' true el x->Rt el x) (hp:PrF H F Rt c8 p) (e5:OkD false q) (b3:oG (nQ q) p):
  Ret (CL prog l7 101 [.agg c8.toArray,.agg cs.toArray] H) H (FG H F Rt (D4 q p)):=by
 obtain⟨f0,f1,f2,f3⟩:=b3;have g2:=jr q;obtain⟨c7,_,o1,_,e9⟩:=e5.parts;obtain⟨l1,l2,_,_⟩:=gJ e9;have e1:lst false q.op=2:=by rw[h4];decide
 rw[e1]at l1;obtain⟨va,ca,wa,d0,rfl,h1,h2,h3,f6⟩:=hr.path;obtain⟨ea,ec,ta,tc,rfl,he,ht⟩:=F0 hp;obtain⟨x,nb,o,f4,own,el,hx,hd,rfl,f9,b8,e2,a3,hR⟩:=h1.row (i:=0) oM;simp only[qSz,bF,Ck,ly]at a3 b8 e2;have a7:q.a=x::q.a.drop 1:=by simpa using hd
 have g1:nL q.a=nQ x+nL (q.a.drop 1):=by rw[a7,nL];rfl
 have c6:D4 q p=dW (q.a.drop 1) (D4 x p):=by rw[zc q p h4,a7,iz];rfl
 rw[c6];obtain⟨J,u⟩:=eY ([iV p.st,iV p.sa,iV p.en,.slice ea p.ed.length ec,.slice ta p.ts.length tc]:LV);obtain⟨I,D⟩:=eY ([iV q.op,.slice (some ⟨nb,o,none⟩) q.a.length ca,.slice wa q.b.length d0]:LV);obtain⟨H1,d4,hS,d5,b4,b5,b9,g0⟩:=Fe H J I z7;have a1:J.all oC=true:=by rw[u];rfl
 have a2:I.all oC=true:=by rw[D];rfl
 have r0:J[0]?=some (.int .i64 p.st):=by rw[u];rfl
 have q0:I[0]?=some (.int .i64 q.op):=by rw[D];rfl
 have q1:I[1]?=some (.slice (some ⟨nb,o,none⟩) q.a.length ca):=by rw[D];rfl
 have e8:ldC (some true) (some 5) 0 J=some (.agg J.toArray):=by rw[u];rfl
 have f8:(0:Int)<q.a.length:=oM;have c4:decide (q.op=4)=true:=ib h4;have d3:H1.g nb=_:=(hS.g nb oM).trans b8;have e6:PrF H1 F Rt J p:=⟨_,_,u,he.mono (fun j E=>hS.g j (hF j E)) (fun _ h=>h) iF,ht.mono (fun j E=>hS.g j (hF j E)) (fun _ h=>h) iF⟩
 obtain⟨f5,H3,H4,a4,a8,b6,e4,n4,W,n3,a5,c0,O,f7⟩:=qV K k ih lo F Rt H1 el J x p oM (fun j E=>by have:=hF j E;omega) (hR.mono (fun j E=>hS.g j oM) lR) (fun k' el x a9 h=>b2 k' el x a9 (h.mono (fun j E=>(hS.g j oM).symm) lR)) e6 (c7 x (by rw[a7];simp)) ⟨f0,oM,oM,oM⟩;have b7:=M6 x p;obtain⟨y,hy⟩:=eY (D4 x p);rw[<-hy]at a8 e4 W c0 O b7 ⊢;obtain⟨w0,w1,w2,w3⟩:=b7;obtain⟨Kd,b0⟩:=eY (a4++se y.2.1 y.2.2);rw[<-b0]at a8 e4 W O;have k4:∀j,j<H1.n->H4.g j=H1.g j:=a5.g;have X:d9 H.n H H4:=hS.trans (a5.wk oM);rw[i7 lu rfl _ sM,<-u,<-D];refine J20 a1 a2 d4.symm d5 b4 r0 q0 q1 c4 e8 d3 a3 a8 b6 O.all O.len O.spl e4.symm W O.c5 ?_;refine i8 (F:=fun z=>Ret (t6 _ _ _ (t7 (t7 (inBlock 0 z) _) _)) _ _) (MD K k hk ih H4 lo H.n F Rt e3 hF (fun k' el x a9 h=>b2 k' el x a9 (h.mono (fun j E=>(X.g j oM).symm) lR)) oM (some ⟨nb,o,none⟩) ca q.a (h1.mono (fun j E=>X.g j oM) lR) h3 c7 I ((k4 _ oM).trans b4) q1 ((k4 _ oM).trans b5) (dW (q.a.drop 1) y) (q.a.length-1) _ _
  ⟨1,H3.n,y,a4,W9 F H1 H3,rfl,oM,rfl,rfl,rfl,rfl,by rfl,by rw[<-b0];exact W,oM,oM,c0,?_,d9.refl _ _,⟨oM,oM,oM,oM⟩,rfl⟩) ?_
 .rintro j (E|E)
  .have:=hF j E;exact⟨.inl E,oM,oM⟩
  .exact⟨.inr oM,oM,oM⟩
 rintro o' e' H5 ⟨ho,e7,p6,c9,G,k6,g6,c3,hG,a6⟩;have n5:=a6.n;have S:=nV c3;obtain⟨Ke,b1⟩:=eY (c9++se (dW (q.a.drop 1) y).2.1 (dW (q.a.drop 1) y).2.2);rw[<-b1]at g6 S;have d1:H5.g (H.n+2)=cE z7 1:=(a6.g _ oM).trans ((k4 _ oM).trans b5);obtain⟨H6,U⟩:=eY (H5.put (H.n+2) (bC Ke 1));have d2:H6.g (H.n+2)=cE Ke 1:=by rw[U];exact i9 oM
 have s6:d9 H.n H1 H6:=((a5.wk oM).trans (a6.wk oM)).trans (show d9 H.n H5 H6 by rw[U];exact d9.put oM);have d6:=s6.low b9;refine J11 ho e7 k6 g6 S.ld7 d1 S.all S.len S.spl U.symm d2 ?_;rw[b1];refine iG (c3.mono (fun j E=>?_) (fun j E=>?_) iF) (hS.trans s6) d6 (fun h=>h)
 .rw[U];refine j7 ?_;rcases(hG j E).1 with q|q
  .have:=hF j q;omega
  .omega
 .rcases(hG j E).1 with q|q
  .exact .inl q
  .exact .inr ⟨oM,by rw[U,j9];exact(hG j E).2⟩
def Jr(K k:Nat)(hk:k<=K)(ih:ri K k)(H0:d7)(lo D:Nat)(F:Nat->Prop)(Rt:LV->Q->Prop)(g1:lo<=D)(hF:∀j,F j->j<D) (d6:∀k' el x,k'<=K->QR H0 lo k' true el x->Rt el x) (f6:D+3<=H0.n)
  (va:Option Addr) (ca:Nat) (l:List Q) (hv:QsR H0 lo k false (.slice va l.length ca) l) (hn:l.length<=1048576) (e6:∀x∈l,OkD false x) (X:LV) (hq:H0.g (D+1)=cE X 1) (c4:X[1]?=some (.slice va l.length ca)) (z:Blk) (g4:H0.g (D+2)=some z) (n:Int) (a7:PrD×List Int):
  ∀kk e H2,(∃(i:Nat)(p:PrD)(es:List Int)(w:aa3)(u:LV)(G:Nat->Prop),kk=l.length-i/\i<=l.length/\es.length=i/\e.g 2=pT D/\e.g 3=pT (D+1)/\e.g 4=pT (D+2)/\e.g 5=iV n/\e.g 10=w/\e.g 11=iV i/\
    H2.g D=cE u 1/\H2.g (D+1)=cE X 1/\H2.g (D+2)=some z/\PrF H2 G Rt u p/\(∀j,G j->(F j\/D+3<=j)/\j<H2.n/\¬j8 w j)/\u5 H2 (D+3) 1 (y7 inE) w es/\d9 D H0 H2/\oG (nL (l.drop i)) p/\N9 (l.drop i) n p es=a7)->
  u7 (LE prog l7 (.loop Rk) e H2) (fun o e H2=>o= .exit 2/\e.g 2=pT D/\e.g 4=pT (D+2)/\e.g 5=iV n/\∃(w:aa3)(u:LV)(G:Nat->Prop),e.g 10=w/\H2.g D=cE u 1/\H2.g (D+2)=some z/\PrF H2 G Rt u a7.1/\(∀j,G j->(F j\/D+3<=j)/\j<H2.n)/\u5 H2 (D+3) 1 (y7 inE) w a7.2/\d9 D H0 H2):=by
 refine i5 _ _ ?_;rintro kk e H2 ⟨i,p,es,w,u,G,f8,hi,f7,f2,f3,f4,f5,a8,a9,g0,gq,gz,hp,hG,hO,hS,W,fu⟩;have g2:=hS.n;have b2:=u6 g0;have b3:=u6 gz;have h7:=nV (r:=(p,0,0)) hp;rcases b:decide ((i:Int)<l.length)with _|_
 .have e2:=dF b;have:l.drop i=[]:=dN oM;rw[this,N9]at fu;refine J5 f3 a9 gq c4 b ?_;exact i6 ⟨rfl,f2,f4,f5,w,u,G,a8,g0,gz,by rw[<-fu];exact hp,fun j E=>⟨(hG j E).1,(hG j E).2.1⟩,by rw[<-fu];exact hO,hS⟩
 have e2:=dT b;obtain⟨x,nb,o,e8,own,el,hx,hd,rfl,b9,b8,f9,a3,hR⟩:=hv.row (i:=i) oM;have nt:(i:Int).toNat=i:=tN i;simp only[qSz,bF]at a3 b8;have d1:=(hS.g nb oM).trans b8;rw[hd]at fu W;rw[N9]at fu;rw[nL]at W;obtain⟨t0,t1,t2,t3⟩:=W;have b7:=M6 x p;obtain⟨e9,H3,H4,a4,a6,b4,e4,n4,a1,n3,b1,c0,I,d2⟩:=qV K k ih lo G Rt H2 el u x p oM (fun j E=>(hG j E).2.1) (hR.mono (fun j E=>hS.g j oM) lR) (fun k' el x e5 h=>d6 k' el x e5 (h.mono (fun j E=>(hS.g j oM).symm) lR)) hp (e6 x (mG hx)) ⟨t0,oM,oM,oM⟩;obtain⟨y,hy⟩:=eY (D4 x p);rw[<-hy]at a6 e4 a1 c0 I b7 fu;obtain⟨w0,w1,w2,w3⟩:=b7;obtain⟨Kd,d3⟩:=eY (a4++se y.2.1 y.2.2);rw[<-d3]at a6 e4 a1 I;obtain⟨v5,f0,H5,e3,b5,U,rfl,c3,a2⟩:=ir H4 (W9 G H2 H3) Rt a4 y.1 n y.2.1 0 0 (fun j E=>by have:=d2 j E;omega) c0 oM;have n5:=a2.n;have a5:=nV (r:=(y.1.edge n y.2.1 0 0,0,0)) c3;have c8:H5.g H3.n=cE Kd 1:=(a2.g _ oM).trans a1;have k5:∀j,j<H2.n->H5.g j=H2.g j:=fun j E=>by rw[a2.g j oM,b1.g j E]
 have c7:H5.g D=cE u 1:=(k5 _ b2).trans g0;have e7:splice u 0 U=U:=a5.spl5 u h7.len4;obtain⟨H6,J⟩:=eY (H5.put D (bC U 1));have n6:H6.n=H5.n:=by rw[J,j9]
 have c9:H6.g H3.n=cE Kd 1:=by rw[J,j7 oM];exact c8
 have k6:∀j,j<H2.n->j≠D->H6.g j=H2.g j:=fun j E O=>by rw[J,j7 (fun q=>O q.symm)];exact k5 j E
 have d4:u5 H6 (D+3) 1 (y7 inE) w es:=hO.same fun b hb=>by have:=hO.lt hb;exact k6 b this.2 oM
 obtain⟨v7,f1,H7,e1,b6,d5,S⟩:=d4.push1F (P:=prog) (t:=38) (cs:=inE y.2.2) (a:=y.2.2) (by exact BE.2.2.2.2.2.2) ty3.1 ty3.2.1 ty3.2.2.1 oM oM rfl rfl oM oM;have n7:=S.n;have nw:∀j,j<D+3->¬j8 w j:=fun j E q=>oN (hO.lt q);have k7:∀j,j<D+3->j≠D->j<H2.n->H7.g j=H2.g j:=fun j E O b9=>by rw[S.but j oM (nw j E),k6 j b9 O]
 have d0:H7.g D=cE U 1:=by rw[S.but D oM (nw D oM),J];exact i9 oM
 refine J30 f2 f3 f5 a8 a9 gq c4 b d1 nt a3 g0 h7.ld a6 b4 I.all I.len I.spl e4.symm a1 I.ld5 I.c5 I.c6 e3 b5 (aI c7 a5.all4) (aI a5.len4 h7.len4) (aI e7 J.symm) (aI c9 e1) (aI b6 @wrap_small) ?_;refine d8 (kk-1) oM ⟨i+1,y.1.edge n y.2.1 0 0,es++[y.2.2],v7,U,W9 (W9 G H2 H3) H4 H5,oM,oM,by simp;omega,f2,f3,f4,f5,rfl,rfl,d0,(k7 _ oM oM (oN (u6 gq))).trans gq,(k7 _ oM oM b3).trans gz,?_,?_,d5,?_,?_,fu⟩
 .refine c3.mono (fun j E=>?_) (fun _ h=>h) iF;have O:j≠D/\j<H6.n/\¬j8 w j:=by
   rcases E with(E|E)|E
   .have:=hG j E;refine⟨?_,oM,this.2.2⟩;rcases this.1 with q|q
    .have:=hF j q;omega
    .omega
   .exact⟨oM,oM,fun q=>by have:=hO.lt q;omega⟩
   .exact⟨oM,oM,fun q=>by have:=hO.lt q;omega⟩
  rw[S.but j O.2.1 O.2.2,J,j7 (fun q=>O.1 q.symm)]
 .rintro j E;have nv:∀b,j8 v7 b->j8 w b\/H6.n<=b:=S.new;rcases E with(E|E)|E
  .have:=hG j E;exact⟨this.1,oM,fun q=>(nv j q).elim this.2.2 (fun q=>oM)⟩
  .exact⟨.inr oM,oM,fun q=>(nv j q).elim (fun q=>by have:=hO.lt q;omega) (fun q=>oM)⟩
  .exact⟨.inr oM,oM,fun q=>(nv j q).elim (fun q=>by have:=hO.lt q;omega) (fun q=>oM)⟩
 .exact(((hS.trans (b1.wk oM)).trans (a2.wk oM)).trans (show d9 D H5 H6 by rw[J];exact d9.put lR)).trans (S.stay.wk oM)
 .refine⟨by simp only[aX];omega,by simp only[aX];omega,by rw[U8];omega,by simp only[gE];omega⟩
def GK(H0:d7)(D:Nat)(F:Nat->Prop)(Rt:LV->Q->Prop)(hF:∀j,F j->j<D) (b8:D+3<=H0.n) (w:aa3) (O:List Int) (hO:u5 H0 (D+3) 1 (y7 inE) w O) (hl:O.length<=900000) (z:Blk) (gz:H0.g (D+2)=some z) (n t:Int) (a8:PrD):
  ∀kk e H2,(∃(i:Nat)(p:PrD)(u:LV)(G:Nat->Prop),kk=O.length-i/\i<=O.length/\e.g 2=pT D/\e.g 4=pT (D+2)/\e.g 5=iV n/\e.g 10=w/\e.g 13=iV t/\e.g 14=iV i/\
    H2.g D=cE u 1/\PrF H2 G Rt u p/\(∀j,G j->(F j\/D+3<=j)/\j<H2.n)/\(∀j,D<j->j<H0.n->H2.g j=H0.g j)/\d9 D H0 H2/\p.ed.length+O.length<=900000+i/\(O.drop i).foldl (fun m x=>m.edge x t 0 0) p=a8)->
  u7 (LE prog l7 (.loop Rl) e H2) (fun o e H2=>o= .exit 4/\e.g 2=pT D/\e.g 4=pT (D+2)/\e.g 5=iV n/\e.g 13=iV t/\∃(u:LV)(G:Nat->Prop),H2.g D=cE u 1/\H2.g (D+2)=some z/\PrF H2 G Rt u a8/\(∀j,G j->(F j\/D+3<=j)/\j<H2.n)/\d9 D H0 H2):=by
 refine i5 _ _ ?_;rintro kk e H2 ⟨i,p,u,G,b9,hi,f2,f4,f5,a1,W,a2,g0,hp,hG,E,hS,b6,fu⟩;have c4:=hS.n;have a3:=u6 g0;have h7:=nV (r:=(p,0,0)) hp;have b1:=(E (D+2) oM (u6 gz)).trans gz;obtain⟨wa,wc,a7⟩:=hO.slice;have I:=a1;rw[a7]at I;rcases b:decide ((i:Int)<O.length)with _|_
 .have b2:=dF b;have:O.drop i=[]:=dN oM;rw[this,yA]at fu;refine J3 I a2 b ?_;exact i6 ⟨rfl,f2,f4,f5,W,u,G,g0,b1,by rw[<-fu];exact hp,hG,hS⟩
 have b2:=dT b;obtain⟨x,hx,hd⟩:=P5 (l:=O) (i:=i) oM;obtain⟨nb,c,cs,hv,c5,a5,hg,c3,hR⟩:=hO.at_ hx;rw[a7]at hv;obtain⟨rfl,rfl⟩:wa=some ⟨nb,0,none⟩/\wc=c:=by simpa using hv
 have nt:(i:Int).toNat=i:=tN i;have b4:=(E nb oM a5).trans hg;have c0:cs[i]?=some (.int .i64 x):=by
  have:(cs.drop (i*1)).take 1=[iV x]:=hR;have:=E7 (k:=0) oM this
  simpa using this
 rw[hd,sd]at fu;obtain⟨v5,b7,H5,b3,a4,U,rfl,a6,S⟩:=ir H2 G Rt u p x t 0 0 (fun j J=>(hG j J).2) hp oM;have n5:=S.n;have X:=nV (r:=(p.edge x t 0 0,0,0)) a6;have a9:H5.g D=cE u 1:=(S.g _ a3).trans g0;have b5:splice u 0 U=U:=X.spl5 u h7.len4;refine J19 f2 I W a2 b g0 h7.ld b4 nt @yD c0 b3 a4 a9 X.all4 X.len4 h7.len4 b5 @wrap_small ?_;refine d8 (kk-1) oM ⟨i+1,p.edge x t 0 0,U,W9 G H2 H5,oM,oM,f2,f4,f5,a1,W,rfl,i9 oM,a6.mono (fun j J=>j7 ?_) (fun _ h=>h) iF,?_,fun j h1 h2=>?_,(hS.trans (S.wk oM)).trans (d9.put lR),by rw[U8];omega,fu⟩
 .rintro rfl;rcases J with J|J
  .rcases(hG _ J).1 with q|q
   .have:=hF _ q;omega
   .omega
  .omega
 .rintro j (J|J)
  .have:=hG j J;exact⟨this.1,by rw[j9];omega⟩
  .exact⟨.inr oM,by rw[j9];exact J.2⟩
 .rw[j7 oM,S.g j oM,E j h1 h2]
def yZ(q:Q)(p:PrD)(h:q.op=5):D4 q p=(((N9 q.a p.st {p with st:=p.st+1} []).2.foldl (fun m x=>m.edge x (N9 q.a p.st {p with st:=p.st+1} []).1.st 0 0) {(N9 q.a p.st {p with st:=p.st+1} []).1 with st:=(N9 q.a p.st {p with st:=p.st+1} []).1.st+1}),p.st,(N9 q.a p.st {p with st:=p.st+1} []).1.st):=by
 cases q;simp only[Q.op]at h;subst h;rw[D4,bt (by decide),bJ rfl];rfl
def Nr(K k:Nat)(hk:k<=K)(ih:ri K k)(q:Q)(h5:q.op=5)(H:d7)(lo:Nat)(F:Nat->Prop)(Rt:LV->Q->Prop)(cs d1:LV)(p:PrD)(g0:lo<=H.n)(hF:∀j,F j->j<H.n) (hr:QR H lo (k+1) false cs q)
  (f4:∀k' el x,k'<=K->QR H lo k' true el x->Rt el x) (hp:PrF H F Rt d1 p) (g2:OkD false q) (c0:oG (nQ q) p):
  Ret (CL prog l7 101 [.agg d1.toArray,.agg cs.toArray] H) H (FG H F Rt (D4 q p)):=by
 obtain⟨f0,f1,f2,f3⟩:=c0;have i3:=jr q;have i0:=ym q.a;obtain⟨h6,_,o1,_,j0⟩:=g2.parts;obtain⟨va,ca,wa,d3,rfl,h1,h2,h3,h9⟩:=hr.path;obtain⟨ea,ec,ta,tc,rfl,he,ht⟩:=F0 hp;rw[yZ q p h5];obtain⟨a7,u⟩:=eY ([iV p.st,iV p.sa,iV p.en,.slice ea p.ed.length ec,.slice ta p.ts.length tc]:LV);obtain⟨E,I⟩:=eY ([iV q.op,.slice va q.a.length ca,.slice wa q.b.length d3]:LV);obtain⟨H1,e8,hS,f6,c3,f7,c6,i1⟩:=Fe H a7 E z7;have a1:a7.all oC=true:=by rw[u];rfl
 have a2:E.all oC=true:=by rw[I];rfl
 have r0:a7[0]?=some (.int .i64 p.st):=by rw[u];rfl
 have q0:E[0]?=some (.int .i64 q.op):=by rw[I];rfl
 have q1:E[1]?=some (.slice va q.a.length ca):=by rw[I];rfl
 have lr:a7.length=5:=by rw[u];rfl
 obtain⟨S,a5⟩:=eY ([iV (p.st+1),iV p.sa,iV p.en,.slice ea p.ed.length ec,.slice ta p.ts.length tc]:LV);have g6:splice a7 0 [iV (p.st+1)]=S:=by rw[u,a5];rfl
 obtain⟨H2,a3⟩:=eY (H1.put H.n (bC S 1));have b7:d9 H.n H1 H2:=by rw[a3];exact d9.put lR
 have i2:H2.n=H1.n:=by rw[a3,j9]
 have e7:H2.g H.n=cE S 1:=by rw[a3];exact i9 oM
 have b3:H2.g (H.n+1)=cE E 1:=by rw[a3,j7 oM];exact c3
 have b4:H2.g (H.n+2)=cE z7 1:=by rw[a3,j7 oM];exact f7
 have c4:decide (q.op=4)=false:=dt oM;have c5:decide (q.op=5)=true:=ib h5;have X:d9 H.n H H2:=hS.trans b7;have g3:PrF H2 F Rt S {p with st:=p.st+1}:=⟨_,_,a5,he.mono (fun j D=>X.g j (hF j D)) (fun _ h=>h) iF,ht.mono (fun j D=>X.g j (hF j D)) (fun _ h=>h) iF⟩
 obtain⟨⟨w0,w1,w2,w3⟩,w4⟩:=fQ q.a p.st {p with st:=p.st+1} [];obtain⟨r,c8⟩:∃r,r=N9 q.a p.st {p with st:=p.st+1} []:=eX;rw[<-c8]at w0 w1 w2 w3 w4 ⊢;simp only[yd]at w0 w1 w2 w3 w4;rw[i7 lu rfl _ sM,<-u,<-I];refine J13 a1 a2 e8.symm f6 c3 r0 q0 lr g6 a3.symm c4 c5 @wrap_small ?_;refine i8 (F:=fun z=>Ret (t6 _ _ _ (t7 (t7 (inBlock 2 z) _) _)) _ _) (Jr K k hk ih H2 lo H.n F Rt g0 hF (fun k' el x f8 h=>f4 k' el x f8 (h.mono (fun j D=>(X.g j oM).symm) lR)) oM va ca q.a (h1.mono (fun j D=>X.g j oM) lR) h3 h6 E b3 q1 _ b4 p.st r q.a.length _ _
  ⟨0,{p with st:=p.st+1},[],nS,S,F,rfl,oM,rfl,rfl,rfl,rfl,rfl,rfl,rfl,e7,b3,b4,g3,fun j D=>⟨.inl D,by have:=hF j D;omega,C6 j⟩,u5.nil,d9.refl _ _,⟨by show 0<=p.st+1;omega,by show p.st+1+2*_<=_;simp;omega,by show p.ed.length+_<=_;simp;omega,by show p.ts.length+_<=_;simp;omega⟩,c8.symm⟩) ?_
 rintro o' e' H5 ⟨ho,k2,g9,h0,w,a8,G,g8,d6,e1,g4,b0,b6,b8⟩;have n5:=b8.n;obtain⟨d4,d5,h7,h8,W,f5,g7⟩:=F0 g4;have s0:a8[0]?=some (.int .i64 r.1.st):=by rw[W];rfl
 have l4:a8.length=5:=by rw[W];rfl
 obtain⟨U,a6⟩:=eY ([iV (r.1.st+1),iV r.1.sa,iV r.1.en,.slice d4 r.1.ed.length d5,.slice h7 r.1.ts.length h8]:LV);have c9:splice a8 0 [iV (r.1.st+1)]=U:=by rw[W,a6];rfl
 obtain⟨H6,O⟩:=eY (H5.put H.n (bC U 1));have n6:H6.n=H5.n:=by rw[O,j9]
 have e3:H6.g H.n=cE U 1:=by rw[O];exact i9 oM
 have e4:H6.g (H.n+2)=cE z7 1:=by rw[O,j7 oM];exact e1
 have d0:∀j,G j->j≠H.n:=fun j D=>by
  rcases(b0 j D).1 with q|q
  .have:=hF j q;omega
  .omega
 have g5:PrF H6 G Rt U {r.1 with st:=r.1.st+1}:=⟨_,_,a6,f5.mono (fun j D=>by rw[O,j7 (fun q=>d0 j D q.symm)]) (fun _ h=>h) iF,g7.mono (fun j D=>by rw[O,j7 (fun q=>d0 j D q.symm)]) (fun _ h=>h) iF⟩
 have e9:u5 H6 (H.n+3) 1 (y7 inE) w r.2:=b6.same fun b hb=>by have:=b6.lt hb;rw[O,j7 oM]
 refine J8 ho k2 d6 s0 l4 c9 O.symm @wrap_small ?_;refine i8 (F:=fun z=>Ret (t6 _ _ _ (t7 (t7 (inBlock 4 z) _) _)) _ _) (GK H6 H.n F Rt hF oM w r.2 e9 oM _ e4 p.st r.1.st _ r.2.length _ _
  ⟨0,{r.1 with st:=r.1.st+1},U,G,rfl,oM,k2,g9,h0,g8,rfl,rfl,e3,g5,fun j D=>⟨(b0 j D).1,by rw[n6];exact(b0 j D).2⟩,fun j _ _=>rfl,d9.refl _ _,by show r.1.ed.length+_<=_;omega,rfl⟩) ?_
 rintro o2 e2 H7 ⟨g1,m2,m4,m5,h4,d2,G7,e5,b2,c7,b1,b9⟩;have n7:=b9.n;have J:=nV (r:=(r.2.foldl (fun m x=>m.edge x r.1.st 0 0) {r.1 with st:=r.1.st+1},p.st,r.1.st)) c7;have a9:=J.bld p.st r.1.st;obtain⟨Ke,b5⟩:=eY (d2++se p.st r.1.st);simp only at J;rw[<-b5]at J a9;obtain⟨H8,a4⟩:=eY (H7.put (H.n+2) (bC Ke 1));have e6:H8.g (H.n+2)=cE Ke 1:=by rw[a4];exact i9 (u6 b2)
 have s8:d9 H.n H1 H8:=(((b7.trans b8).trans (show d9 H.n H5 H6 by rw[O];exact d9.put lR)).trans b9).trans (show d9 H.n H7 H8 by rw[a4];exact d9.put oM);have f9:=s8.low c6;refine J15 g1 m2 m4 m5 h4 e5 J.ld a9 b2 J.all J.len J.spl a4.symm e6 J.ld7 ?_;rw[b5];refine iG (r:=(_,p.st,r.1.st)) (c7.mono (fun j D=>?_) (fun j D=>?_) iF) (hS.trans s8) f9 (fun h=>h)
 .rw[a4];refine j7 ?_;rcases(b1 j D).1 with q|q
  .have:=hF j q;omega
  .omega
 .rcases(b1 j D).1 with q|q
  .exact .inl q
  .exact .inr ⟨oM,by rw[a4,j9];exact(b1 j D).2⟩
def Nq(K:Nat):∀k,k<=K+1->ri K k:=by
 intro k;induction k with
 |zero=>intro _ H lo F J cs z q p u O I;exact I.elim
 |succ k U=>
  intro hk H lo F J cs z q p u O I D S E h;by_cases W:q.op=4
  .exact Ns K k oM (U oM) q W H lo F J cs z p u O I D S E h
  .by_cases X:q.op=5
   .exact Nr K k oM (U oM) q X H lo F J cs z p u O I D S E h
   .by_cases h6:q.op=6
    .exact Jo K k oM (U oM) q h6 H lo F J cs z p u O I D S E h
    .exact Jn K k oM q W X h6 H lo F J cs z p u O I D S E h
def C9(q:Q):PrD:={(D4 q ⟨0,0,0,[],[]⟩).1 with sa:=(D4 q ⟨0,0,0,[],[]⟩).2.1,en:=(D4 q ⟨0,0,0,[],[]⟩).2.2}
def gY(q:Q):0<=(C9 q).st/\(C9 q).st<=2*nQ q:=by
 have:=M6 q ⟨0,0,0,[],[]⟩;unfold cg at this;simp only[C9];simp only at this;omega
def PrF.sub{H:d7}{F F':Nat->Prop}{u:LV->Q->Prop}{cs:LV}{p:PrD}(h:PrF H F u cs p)(z:∀j,F j->F' j):PrF H F' u cs p:=h.mono (fun _ _=>rfl) z iF
def fj{H:d7}{F:Nat->Prop}{u:LV->Q->Prop}{cs:LV}{p:PrD}(h:PrF H F u cs p):cs.length=5:=by obtain⟨z,D,E,I,rfl,_⟩:=F0 h;rfl
def kP{H:d7}{F:Nat->Prop}{u:LV->Q->Prop}{cs:LV}{p:PrD}(h:PrF H F u cs p):cs.all oC=true:=by obtain⟨z,D,E,I,rfl,_⟩:=F0 h;rfl
def Jd(H:d7)(Rt:LV->Q->Prop)(p:PrD)(w:aa3)(H1:d7):Prop:=∃cs',w= .agg cs'.toArray/\PrF H1 (fun j=>H.n<=j/\j<H1.n) Rt cs' p/\d9 H.n H H1
def zL{H H':d7}{z:LV->Q->Prop}{cs':LV}{p:PrD}(U:PrF H' (fun j=>H.n<=j/\j<H'.n) z cs' p) (O:d9 H.n H H') (S:H.n<=H'.low) {c:Bool} (u:c=true->cs'.all na0=true):
  Ret (some (br c (.agg cs'.toArray,none) (.agg cs'.toArray,some ⟨H'.bs,min H.low H'.low⟩))) H (Jd H z p):=by
 obtain⟨I,J,rfl,D,E⟩:=U;refine cn (fun h=>?_) ⟨_,rfl,⟨I,J,rfl,D,E⟩,O.ret S⟩;have h:=u h;simp only[sS,cA]at h;exact⟨_,rfl,⟨I,J,rfl,gN D h.2.2.2.1,gN E h.2.2.2.2.1⟩,d9.refl _ _⟩
abbrev z5:LV:=[iV 0,iV 0,iV 0,nS,nS]
def qh(K k:Nat)(hk:k<=K+1)(H:d7)(lo:Nat)(Rt:LV->Q->Prop)(cs:LV)(q:Q)(d0:lo<=H.n)(hr:QR H lo k false cs q)(b3:∀k' el x,k'<=K->QR H lo k' true el x->Rt el x) (b6:OkD false q) (c6:nQ q<=100000):
  Ret (CL prog l7 74 [.agg cs.toArray] H) H (Jd H Rt (C9 q)):=by
 have b7:=hr;cases k with
 |zero=>exact hr.elim
 |succ k=>
 obtain⟨va,ca,wa,c7,a7,h1,h2,h3,h4⟩:=hr.path;have a0:cs.all oC=true:=by rw[a7];rfl
 have b9:ldC (some true) (some 3) 0 cs=some (.agg cs.toArray):=by rw[a7];rfl
 obtain⟨J,E⟩:=eY ((d7.push ⟨H.bs,H.n⟩ (bC cs 1)).push (bC z5 1));have n0:(d7.push ⟨H.bs,H.n⟩ (bC cs 1)).n=H.n+1:=by rw[i4];rfl
 have hS:d9 H.n H J:=by rw[E];exact(d9.first H _).trans (d9.push oM)
 have g1:J.g H.n=cE cs 1:=by rw[E,j5 oM];exact j6
 have g2:J.g (H.n+1)=cE z5 1:=by rw[E];exact A4 oM
 have a9:H.n<=J.low:=by rw[E,l9,l9];exact lR
 have n1:J.n=H.n+2:=by rw[E,i4,n0]
 have hz:PrF J (fun _=>False) Rt z5 ⟨0,0,0,[],[]⟩:=⟨nS,nS,rfl,.inl ⟨rfl,rfl⟩,.inl ⟨rfl,rfl⟩⟩
 obtain⟨c8,W,H4,b1,a2,a8,e4,n4,X,n3,a5,b0,D,c9⟩:=qV K (k+1) (Nq K (k+1) hk) lo (fun _=>False) Rt J cs z5 q ⟨0,0,0,[],[]⟩ oM (fun j hj=>hj.elim) (b7.mono (fun j hj=>hS.g j oM) lR) (fun k' el x b4 h=>b3 k' el x b4 (h.mono (fun j hj=>(hS.g j oM).symm) lR)) hz b6 ⟨JE _,by show(0:Int)+2*_<=_;omega,by simp;omega,by simp;omega⟩;obtain⟨y,hy⟩:=eY (D4 q ⟨0,0,0,[],[]⟩);rw[C9,<-hy];rw[<-hy]at a2 e4 X b0 D;obtain⟨ea,ec,ta,tc,S,he,ht⟩:=F0 b0;obtain⟨Kd,a1⟩:=eY (b1++se y.2.1 y.2.2);rw[<-a1]at a2 e4 X D;obtain⟨Ke,U⟩:=eY (splice Kd 1 [iV y.2.1]);obtain⟨Kf,a4⟩:=eY (splice Ke 2 [iV y.2.2]);obtain⟨u,z⟩:=eY ([iV y.1.st,iV y.2.1,iV y.2.2,.slice ea y.1.ed.length ec,.slice ta y.1.ts.length tc]:LV);have b8:Ke.length=7:=by rw[U,D6];exact D.len
 have e6:Ke[6]?=some (.int .i64 y.2.2):=by rw[U,a1,S];rfl
 have c3:ldC (some true) (some 5) 0 Kf=some (.agg u.toArray):=by rw[a4,U,a1,S,z];rfl
 have a6:u.all oC=true:=by rw[z];rfl
 have l6:u.length=5:=by rw[z];rfl
 have c0:ldC (some true) (some 5) 0 u=some (.agg u.toArray):=by rw[z];rfl
 have c4:splice z5 0 u=u:=A0 _ _ (by rw[l6];rfl);obtain⟨H5,I⟩:=eY ((H4.put W.n (bC Ke 1)).put W.n (bC Kf 1));have b2:H5.g W.n=cE Kf 1:=by rw[I];exact i9 (by rw[j9];omega)
 have a3:H5.g (H.n+1)=cE z5 1:=by rw[I,j7 oM,j7 oM,a5.g _ oM];exact g2
 obtain⟨H6,O⟩:=eY (H5.put (H.n+1) (bC u 1));have n6:H6.n=H4.n:=by rw[O,j9,I,j9,j9]
 have g6:H6.g (H.n+1)=cE u 1:=by rw[O];exact i9 (u6 a3)
 have s6:d9 H.n J H6:=(a5.wk oM).trans (show d9 H.n H4 H6 by rw[O,I];exact((d9.put oM).trans (d9.put oM)).trans (d9.put oM));have b5:=s6.low a9;have k6:∀j,W9 (fun _=>False) J W j->H6.g j=H4.g j:=fun j hj=>by
  have:J.n<=j/\j<W.n:=hj.elim (fun q=>q.elim) id;rw[O,j7 oM,I,j7 oM,j7 oM]
 have k7:∀j,W9 (fun _=>False) J W j->H.n<=j/\j<H6.n:=fun j hj=>by
  have:J.n<=j/\j<W.n:=hj.elim (fun q=>q.elim) id;omega
 rw[i7 YO rfl _ sM];refine J26 a0 E.symm g1 b9 a2 a8 D.all D.len D.spl e4.symm X D.c5 U.symm b8 e6 a4.symm I.symm b2 c3 a3 a6 l6 c4 O.symm g6 c0 ?_;exact zL (p:={y.1 with sa:=y.2.1,en:=y.2.2}) ⟨_,_,z,he.mono k6 k7 iF,ht.mono k6 k7 iF⟩ (hS.trans s6) b5 (fun h=>h)
structure StD where
 paths:List Q
 progs:List PrD
 base:List Int
 main:PrD
def StF(H:d7)(F:Nat->Prop)(Rp Rt:LV->Q->Prop)(cs:LV)(s:StD):Prop:=∃v1 v2 v3 ms,cs=[v1,v2,v3]++ms/\SlF H F 3 Rp v1 s.paths/\SlF H F 5 (PrF H F Rt) v2 s.progs/\SlF H F 1 (y7 inE) v3 s.base/\PrF H F Rt ms s.main
def StF.mono{H H':d7}{F F':Nat->Prop}{O S u z:LV->Q->Prop}{cs:LV}{s:StD}(h:StF H F O S cs s)(I:∀j,F j->H'.g j=H.g j) (D:∀j,F j->F' j) (J:∀cs a,O cs a->u cs a) (E:∀cs a,S cs a->z cs a):StF H' F' u z cs s:=by
 obtain⟨v1,v2,v3,ms,U,W,X,h3,h4⟩:=h;exact⟨v1,v2,v3,ms,U,W.mono I D J,X.mono I D (fun _ _ h=>h.mono I D E),h3.mono I D iF,h4.mono I D E⟩
def I0{H:d7}{F:Nat->Prop}{X W:LV->Q->Prop}{cs:LV}{s:StD}(h:StF H F X W cs s):∃pa O I J u z D E S U,cs=[.slice pa s.paths.length O,.slice I s.progs.length J,.slice u s.base.length z,iV s.main.st,iV s.main.sa,iV s.main.en,.slice D s.main.ed.length E,.slice S s.main.ts.length U]/\
  SlF H F 3 X (.slice pa s.paths.length O) s.paths/\SlF H F 5 (PrF H F W) (.slice I s.progs.length J) s.progs/\SlF H F 1 (y7 inE) (.slice u s.base.length z) s.base/\SlF H F 4 (y7 edE) (.slice D s.main.ed.length E) s.main.ed/\SlF H F 6 W (.slice S s.main.ts.length U) s.main.ts:=by
 obtain⟨v1,v2,v3,ms,rfl,h1,h2,h3,h4⟩:=h;obtain⟨pa,O,rfl⟩:=h1.slice;obtain⟨I,J,rfl⟩:=h2.slice;obtain⟨u,z,rfl⟩:=h3.slice;obtain⟨D,E,S,U,rfl,h5,h6⟩:=F0 h4;exact⟨pa,O,I,J,u,z,D,E,S,U,rfl,h1,h2,h3,h5,h6⟩
def SlF.row{H:d7}{F:Nat->Prop}{sz:Nat}{α:Type}{R:LV->α->Prop}{z:Option Addr}{n D:Nat}{l:List α}(h:SlF H F sz R (.slice z n D) l){i:Nat}(u:i<l.length):
  ∃x b o cs own el,l[i]?=some x/\l.drop i=x::l.drop (i+1)/\z=some ⟨b,o,none⟩/\F b/\H.g b=some (.cells cs own sz)/\o+i*sz+sz<=cs.length/\ldC (some true) (some sz) (o+i*sz) cs=some (.agg el.toArray)/\(∀k,k<sz->cs[o+i*sz+k]?=el[k]?)/\R el x:=by
 obtain⟨x,E,S⟩:=P5 (l:=l) (i:=i) u;rcases h with⟨_,h⟩|⟨b,o,c,W,h⟩
 .subst h;simp at u
 .rcases h with h|⟨cs,own,I,J,X,O⟩
  .subst h;simp at u
  .obtain⟨rfl,rfl,rfl⟩:z=some ⟨b,o,none⟩/\n=l.length/\D=c:=by simpa using W
   have:(i+1)*sz<=l.length*sz:=yG _ u;rw[wS]at this;exact⟨x,b,o,cs,own,_,E,S,rfl,I,J,oM,aE oM rfl,fun k U=>E7 U rfl,O i x E⟩
def A5(l:List PrD):Int:=l.foldl (fun n p=>n+p.st) 0
def Db(H0:d7)(F:Nat->Prop)(Rt:LV->Q->Prop)(I:Nat)(W:Option Addr)(X:Nat)(l:List PrD)(hv:SlF H0 F 5 (PrF H0 F Rt) (.slice W l.length X) l)(hn:l.length<=100000)(hb:∀p∈l,0<=p.st/\p.st<=1000000) (h:LV) (U:H0.g I=cE h 1) (r1:h[1]?=some (.slice W l.length X)) (r:Int):
  ∀E e H2,(∃(i:Nat)(n:Int),E=l.length-i/\i<=l.length/\0<=n/\n<=1000000*i/\e.g 1=pT I/\e.g 3=iV n/\e.g 4=iV i/\H2=H0/\(l.drop i).foldl (fun n p=>n+p.st) n=r)->
  u7 (LE prog l7 (.loop Vg) e H2) (fun o e H2=>H2=H0/\o= .exit 0/\e.g 3=iV r):=by
 refine i5 _ _ ?_;rintro E e H2 ⟨i,n,hk,hi,a4,a5,z,O,S,hH,u⟩;subst hH;rcases b:decide ((i:Int)<l.length)with _|_
 .have D:=dF b;have:l.drop i=[]:=dN oM;rw[this,yA]at u;refine J5 z S U r1 b ?_;exact i6 ⟨rfl,rfl,by rw[<-u];exact O⟩
 have D:=dT b;obtain⟨x,nb,o,cs,own,el,hx,hd,rfl,hF,hg,a3,a1,hc,hR⟩:=hv.row (i:=i) oM;have nt:(i:Int).toNat=i:=tN i;have a2:=hb x (mG hx);obtain⟨ea,ec,ta,tc,rfl,_,_⟩:=F0 hR;have J:=hc 0 oM;rw[ly]at J;rw[hd,sd]at u;refine J10 z O S U r1 b hg nt J @wrap_small ?_;exact d8 (E-1) oM ⟨i+1,n+x.st,oM,oM,oM,oM,z,rfl,rfl,rfl,u⟩
def wE(H:d7)(F:Nat->Prop)(Rp I:LV->Q->Prop)(cs:LV)(s:StD)(X:∀j,F j->j<H.n) (hs:StF H F Rp I cs s) (hn:s.progs.length<=100000) (hb:∀p∈s.progs,0<=p.st/\p.st<=1000000):CL prog l7 50 [.agg cs.toArray] H=some (.int .i64 (A5 s.progs),none):=by
 obtain⟨pa,pc,J,O,ba,bc,ea,ec,ta,tc,D,h1,h2,W,h4,h5⟩:=I0 hs;have a0:cs.all oC=true:=by rw[D];rfl
 have r1:cs[1]?=some (.slice J s.progs.length O):=by rw[D];rfl
 obtain⟨E,u,-,hg,hS⟩:=pushF H (bC cs 1);have a1:H.n<=E.low:=by rw[u,l9];exact lR
 have S:SlF E F 5 (PrF E F I) (.slice J s.progs.length O) s.progs:=h2.mono (fun j U=>hS.g j (X j U)) (fun _ h=>h) (fun _ _ h=>h.mono (fun j U=>hS.g j (X j U)) (fun _ h=>h) iF);rw[i7 WY rfl _ sM];refine J2 a0 u.symm ?_;refine i8 (F:=fun z=>t6 _ _ _ (t7 (inBlock 0 z) _)=_) (Db E F I H.n J O s.progs S hn hb cs hg r1 (A5 s.progs) s.progs.length _ _ ⟨0,0,rfl,oM,oM,oM,rfl,rfl,rfl,rfl,rfl⟩) ?_;rintro o e' H' ⟨hH,ho,W⟩;exact J3 ho hH W trivial
def mT(l:List Q)(x:Q):Int:=ixG (fun y=>R1 y x) l 0
def sf(k:Nat)(H0:d7)(F:Nat->Prop)(lo I:Nat)(a2:lo<=H0.n)(pa:Option Addr)(pc:Nat)(l:List Q)(hv:SlF H0 F 3 (QR H0 lo k false) (.slice pa l.length pc) l)(hn:l.length<=100000)(E el:LV)(x:Q)(hx:QR H0 lo k false el x)(X:H0.g I=cE E 1)(r0:E[0]?=some (.slice pa l.length pc))(g1:H0.g (I+1)=cE el 1)(r:Int):
  ∀kk e H2,(∃i:Nat,kk=l.length-i/\i<=l.length/\e.g 2=pT I/\e.g 3=pT (I+1)/\e.g 5=iV i/\H2=H0/\ixG (fun y=>R1 y x) (l.drop i) i=r)->
  u7 (LE prog l7 (.loop VC) e H2) (fun o e H2=>H2=H0/\((o= .exit 0/\r= -1)\/(o= .ret/\e.g 4=iV r))):=by
 refine i5 _ _ ?_;rintro kk e H2 ⟨i,hk,hi,O,U,W,hH,z⟩;subst hH;rcases b:decide ((i:Int)<l.length)with _|_
 .have a1:=dF b;have:l.drop i=[]:=dN oM;rw[this,ixG]at z;refine J5 O W X r0 b ?_;exact i6 ⟨rfl,.inl ⟨rfl,z.symm⟩⟩
 have a1:=dT b;obtain⟨y,nb,o,cs,own,S,hy,hd,rfl,hF,hg,a3,u,hc,hR⟩:=hv.row (i:=i) oM;have nt:(i:Int).toNat=i:=tN i;have D:ldC (some true) (some 3) 0 el=some (.agg el.toArray):=by
  cases k with
  |zero=>exact hx.elim
  |succ k=>obtain⟨_,_,_,_,rfl,_⟩:=hx.path;rfl
 have h:=(MB k).1 H2 lo S el y x a2 hR hx;rw[hd,ixG]at z;rcases J:R1 y x with _|_
 .simp only[J,bF]at z;rw[J]at h;refine J13 O U W X r0 b hg nt u g1 D h @wrap_small ?_;exact d8 (kk-1) oM ⟨i+1,oM,oM,O,U,rfl,rfl,z⟩
 .simp only[J,jd]at z;rw[J]at h;refine J12 O U W X r0 b hg nt u g1 D h ?_;exact y9 ⟨rfl,.inr ⟨rfl,by rw[<-z];rfl⟩⟩
def lM(k:Nat)(H:d7)(F:Nat->Prop)(lo:Nat)(Rt:LV->Q->Prop)(cs el:LV)(s:StD)(x:Q)(a3:lo<=H.n)(hF:∀j,F j->j<H.n) (hs:StF H F (QR H lo k false) Rt cs s) (S:QR H lo k false el x) (hn:s.paths.length<=100000):
  CL prog l7 76 [.agg cs.toArray,.agg el.toArray] H=some (.int .i64 (mT s.paths x),none):=by
 obtain⟨pa,U,ga,gc,ba,bc,ea,ec,ta,tc,E,h1,h2,h3,W,h5⟩:=I0 hs;have a0:cs.all oC=true:=by rw[E];rfl
 have r1:cs[0]?=some (.slice pa s.paths.length U):=by rw[E];rfl
 have a1:el.all oC=true:=by
  cases k with
  |zero=>exact S.elim
  |succ k=>obtain⟨_,_,_,_,rfl,_⟩:=S.path;rfl
 obtain⟨D,u⟩:=eY ((d7.push ⟨H.bs,H.n⟩ (bC cs 1)).push (bC el 1));have n0:(d7.push ⟨H.bs,H.n⟩ (bC cs 1)).n=H.n+1:=by rw[i4];rfl
 have J:d9 H.n H D:=by rw[u];exact(d9.first H _).trans (d9.push oM)
 have g1:D.g H.n=cE cs 1:=by rw[u,j5 oM];exact j6
 have g2:D.g (H.n+1)=cE el 1:=by rw[u];exact A4 oM
 have a2:H.n<=D.low:=by rw[u,l9,l9];exact lR
 have a4:=J.n;have q1:∀cs a,QR H lo k false cs a->QR D lo k false cs a:=fun _ _ h=>h.mono (fun j hj=>J.g j oM) lR;have I:SlF D F 3 (QR D lo k false) (.slice pa s.paths.length U) s.paths:=h1.mono (fun j hj=>J.g j (hF j hj)) (fun _ h=>h) q1;rw[i7 Xh rfl _ sM];refine J3 a0 a1 u.symm ?_;refine i8 (F:=fun z=>t6 _ _ _ (t7 (inBlock 0 z) _)=_) (sf k D F lo H.n oM pa U s.paths I hn cs el x (q1 _ _ S) g1 r1 g2 (mT s.paths x) s.paths.length _ _ ⟨0,rfl,oM,rfl,rfl,rfl,rfl,rfl⟩) ?_;rintro o e' H' ⟨X,⟨O,hr⟩|⟨O,W⟩⟩
 .exact J3 O X hr trivial
 .exact J3 O X W trivial
def L0(s:StD)(x:Q):StD:=if s.paths.any (fun y=>R1 y x) then s else⟨s.paths++[x],s.progs++[C9 x],s.base++[A5 s.progs],s.main⟩
def C7(q:Q):StD:=(inQ false q).foldl L0 ⟨[],[],[],C9 q⟩
def Z9(l:List PrD)(p:PrD):A5 (l++[p])=A5 l+p.st:=by simp [A5]
def Ej(K:Nat)(H:d7)(lo b0 E:Nat)(h9:lo<=b0)(m2:b0=H.n)(r3:b0+2<=E)(Rt:LV->Q->Prop)(l4:∀k' el x,k'<=K->QR H lo k' true el x->Rt el x) (lv:aa3) (l:List Q) (hl:l.length<=100000) (m7:∀x∈l,OkD false x/\nQ x<=100000) (ms:LV) (z:Blk) (H1:d7) (e8:d9 b0 H H1) (hz:H1.g (b0+1)=some z) (d3:StD):
  ∀kk e H2,(∃(i:Nat)(s:StD)(w1 w2 w3:aa3)(G:Nat->Prop),kk=l.length-i/\i<=l.length/\s.progs.length<=i/\s.paths.length=s.progs.length/\s.base.length=s.progs.length/\0<=A5 s.progs/\A5 s.progs<=200000*i/\
    e.g 2=pT (b0+1)/\e.g 3=pT E/\e.g 4=lv/\e.g 5=iV (A5 s.progs)/\e.g 6=iV i/\
    H2.g E=cE (w1::w2::w3::ms) 1/\PrF H2 G Rt ms s.main/\SlF H2 G 3 (QR H lo K false) lv l/\u5 H2 (E+1) 3 (QR H lo K false) w1 s.paths/\u5 H2 (E+1) 5 (PrF H2 G Rt) w2 s.progs/\u5 H2 (E+1) 1 (y7 inE) w3 s.base/\
    (∀j,G j->b0+2<=j/\j<H2.n/\j≠E/\¬j8 w1 j/\¬j8 w2 j/\¬j8 w3 j)/\(∀j,j8 w1 j->¬j8 w2 j/\¬j8 w3 j)/\(∀j,j8 w2 j->¬j8 w3 j)/\d9 (b0+2) H1 H2/\(l.drop i).foldl L0 s=d3)->
  u7 (LE prog l7 (.loop UZ) e H2) (fun o e H2=>o= .exit 0/\e.g 2=pT (b0+1)/\e.g 3=pT E/\∃(w1 w2 w3:aa3)(G:Nat->Prop),H2.g E=cE (w1::w2::w3::ms) 1/\PrF H2 G Rt ms d3.main/\u5 H2 (E+1) 3 (QR H lo K false) w1 d3.paths/\u5 H2 (E+1) 5 (PrF H2 G Rt) w2 d3.progs/\u5 H2 (E+1) 1 (y7 inE) w3 d3.base/\(∀j,G j->b0+2<=j/\j<H2.n/\j≠E)/\d9 (b0+2) H1 H2):=by
 subst m2;refine i5 _ _ ?_;rintro kk e H2 ⟨i,s,w1,w2,w3,G,q7,hi,r4,i3,h4,m4,p9,f2,f3,f4,f5,f6,g3,c5,e4,U,O,I,hG,d1,d2,hS,fu⟩;have r2:=hS.n;have p8:=e8.n;have r5:=u6 hz;have i2:=u6 g3;obtain⟨la,lc,i0⟩:=e4.slice;subst i0;rcases b:decide ((i:Int)<l.length)with _|_
 .have m1:=dF b;have:l.drop i=[]:=dN oM;rw[this,yA]at fu;refine J3 f4 f6 b ?_;exact i6 ⟨rfl,f2,f3,w1,w2,w3,G,g3,by rw[<-fu];exact c5,by rw[<-fu];exact U,by rw[<-fu];exact O,by rw[<-fu];exact I,fun j D=>⟨(hG j D).1,(hG j D).2.1,(hG j D).2.2.1⟩,hS⟩
 have m1:=dT b;obtain⟨x,nb,o,p0,own,el,hx,hd,rfl,g8,f0,q8,e6,hc,hR⟩:=e4.row (i:=i) oM;have nt:(i:Int).toNat=i:=tN i;obtain⟨i1,m6⟩:=m7 x (mG hx);have o7:=gY x;rw[hd,sd]at fu;have d4:∀cs a,QR H lo K false cs a->QR H2 lo K false cs a:=fun _ _ h=>h.mono (fun j D=>by rw[hS.g j oM,e8.g j oM]) lR;obtain⟨pa,pc,e1⟩:=U.slice;obtain⟨ga,gc,e2⟩:=O.slice;obtain⟨ba,bc,e3⟩:=I.slice;obtain⟨ea,ec,ta,tc,k3,q9,r1⟩:=F0 c5;have m8:StF H2 (fun j=>G j\/j8 w1 j\/j8 w2 j\/j8 w3 j) (QR H2 lo K false) Rt (w1::w2::w3::ms) s:=⟨w1,w2,w3,ms,rfl,(U.frz fun b S=> .inr (.inl S)).mono (fun _ _=>rfl) (fun _ h=>h) d4,(O.frz fun b S=> .inr (.inr (.inl S))).mono (fun _ _=>rfl) (fun _ h=>h) (fun _ _ h=>h.sub fun j D=> .inl D),I.frz fun b S=> .inr (.inr (.inr S)),c5.sub fun j D=> .inl D⟩
 have j0:∀j,(G j\/j8 w1 j\/j8 w2 j\/j8 w3 j)->j<H2.n:=by
  rintro j (q|q|q|q)
  .exact(hG j q).2.1
  .exact(U.lt q).2
  .exact(O.lt q).2
  .exact(I.lt q).2
 have a9:=lM K H2 _ lo Rt (w1::w2::w3::ms) el s x oM j0 m8 (d4 _ _ hR) oM;have b1:ldC (some true) (some 8) 0 (w1::w2::w3::ms)=some (.agg (w1::w2::w3::ms).toArray):=by rw[e1,e2,e3,k3];rfl
 obtain⟨R8,c9⟩:=eY (w1::w2::w3::ms);rw[<-c9]at g3 a9 b1;have f1:=fj c5;have l8:R8.length=8:=by rw[c9];simp [f1]
 have o0:R8[0]?=some w1:=by rw[c9];rfl
 have b9:decide (0<=mT s.paths x)=s.paths.any (fun y=>R1 y x):=kG _ _;rcases b2:s.paths.any (fun y=>R1 y x)with _|_
 .rw[b2]at b9;have b3:L0 s x=⟨s.paths++[x],s.progs++[C9 x],s.base++[A5 s.progs],s.main⟩:=by rw[L0,b2];rfl
  rw[b3]at fu;obtain⟨v3,p4,H3,m3,h5,J,rfl,X,d6⟩:=qh K K oM H2 lo Rt el x oM (d4 _ _ hR) (fun k' el x m5 h=>l4 k' el x m5 (h.mono (fun j D=>by rw[hS.g j oM,e8.g j oM]) lR)) i1 m6;have n3:=d6.n;have a3:=kP X;have l3:=fj X;obtain⟨H4,l1,n4,k5,e5⟩:=pushP H3 (bC z5 1) (bC J 1);have o6:splice z5 0 J=J:=A0 _ _ (by rw[l3];rfl);have k4:∀j,j<H2.n->H4.g j=H2.g j:=fun j D=>by rw[e5.g j oM,d6.g j D]
  have g2:H4.g E=cE R8 1:=(k4 _ i2).trans g3;have g4:=(k4 nb (hG nb g8).2.1).trans f0;have g9:u5 H4 (E+1) 3 (QR H lo K false) w1 s.paths:=U.same fun b S=>k4 b (U.lt S).2;have j1:el.all oC=true:=by
   cases K with
   |zero=>exact hR.elim
   |succ k=>obtain⟨_,_,_,_,rfl,_⟩:=hR.path;rfl
  have j3:∀Hx:d7,bsA prog (some 36) Hx 1 [(0,.agg el.toArray)]=some (sL Hx.n 1 1,Hx.push (bC el 3)):=fun Hx=>by
   cases K with
   |zero=>exact hR.elim
   |succ k=>obtain⟨_,_,_,_,rfl,_⟩:=hR.path;simp only[E4,cd,E5];rfl
  obtain⟨u1,p5,H5,l5,h6,b6,a1⟩:=g9.push1F (P:=prog) (t:=33) (cs:=el) (a:=x) (by exact qJ.2.2.2.2.2.2) cd.1 cd.2.1 cd.2.2.1 oM oM hR.len hR oM oM;have n5:=a1.n;have f7:∀j,j<=E->¬j8 w1 j/\¬j8 w2 j/\¬j8 w3 j:=fun j D=>⟨fun q=>by have:=U.lt q;omega,fun q=>by have:=O.lt q;omega,fun q=>by have:=I.lt q;omega⟩
  have k6:H5.g E=cE R8 1:=(a1.but E oM (f7 E lR).1).trans g2;have k9:(H4.push (bC el 3)).g nb=_:=(j5 (oN (hG nb g8))).trans g4;obtain⟨a6,b7⟩:=eY (u1::w2::w3::ms);obtain⟨ua,uc,f8⟩:=b6.slice;have n0:Value.oneCell' u1=true:=by rw[f8];rfl
  have k0:u1.cells.toList=[u1]:=by rw[f8];rfl
  have o3:splice R8 0 [u1]=a6:=by rw[c9,b7];rfl
  have la:a6.length=8:=by rw[b7];simp [f1]
  have o1:a6[1]?=some w2:=by rw[b7];rfl
  obtain⟨H6,c3⟩:=eY (H5.put E (bC a6 1));have n6:H6.n=H5.n:=by rw[c3,j9]
  have g5:H6.g E=cE a6 1:=by rw[c3];exact i9 oM
  have c7:∀j,j<H4.n->¬j8 w1 j->j≠E->H6.g j=H4.g j:=fun j D h1 h2=>by rw[c3,j7 (fun q=>h2 q.symm)];exact a1.but j D h1
  have g6:H6.g H3.n=cE J 1:=(c7 _ oM (fun q=>by have:=U.lt q;omega) oM).trans k5;have m9:ldC (some true) (some 5) 0 J=some (.agg J.toArray):=by obtain⟨_,_,_,_,rfl,_⟩:=F0 X;rfl
  obtain⟨G2,c0⟩:=eY (fun j=>G j\/(H2.n<=j/\j<H3.n):Nat->Prop);have b5:∀j,G2 j->H6.g j=H3.g j/\j≠E/\j<H3.n/\¬j8 w1 j/\¬j8 w2 j/\¬j8 w3 j:=fun j D=>by
   rw[c0]at D;rcases D with D|D
   .have:=hG j D;exact⟨by rw[c7 j oM this.2.2.2.1 this.2.2.1,e5.g j oM],this.2.2.1,oM,this.2.2.2⟩
   .have e:¬j8 w1 j/\¬j8 w2 j/\¬j8 w3 j:=⟨fun q=>by have:=U.lt q;omega,fun q=>by have:=O.lt q;omega,fun q=>by have:=I.lt q;omega⟩
    exact⟨by rw[c7 j oM e.1 oM,e5.g j oM],oM,oM,e⟩
  have e9:PrF H6 G2 Rt J (C9 x):=X.mono (fun j D=>(b5 j (by rw[c0];exact .inr D)).1) (fun j D=>by rw[c0];exact .inr D) iF;have d0:∀j,G j->H6.g j=H2.g j:=fun j D=>by rw[(b5 j (by rw[c0];exact .inl D)).1,d6.g j (hG j D).2.1]
  have a5:∀j,G j->G2 j:=fun j D=>by rw[c0];exact .inl D
  have h0:u5 H6 (E+1) 5 (PrF H6 G2 Rt) w2 s.progs:=(O.same (H':=H6) fun b S=>by have:=O.lt S;rw[c7 b oM (fun q=>(d1 b q).1 S) oM,k4 b this.2]).imp fun cs p h=>h.mono d0 a5 iF;obtain⟨u2,p6,H7,l6,h7,a4,a2⟩:=h0.push1F (P:=prog) (t:=37) (cs:=J) (a:=C9 x) (by exact TY.2.2.2.2.2.2) uY.1 uY.2.1 uY.2.2.1 oM oM l3 e9 oM oM;have n7:=a2.n;have j2:∀Hx:d7,bsA prog (some 41) Hx 1 [(0,.agg J.toArray)]=some (sL Hx.n 1 1,Hx.push (bC J 5)):=fun Hx=>by
   obtain⟨_,_,_,_,rfl,_⟩:=F0 X;simp only[E4,uY,E5];rfl
  have k7:H7.g E=cE a6 1:=(a2.but E oM (f7 E lR).2.1).trans g5;obtain⟨a7,b8⟩:=eY (u1::u2::w3::ms);obtain⟨ub,r8,f9⟩:=a4.slice;have n1:Value.oneCell' u2=true:=by rw[f9];rfl
  have k1:u2.cells.toList=[u2]:=by rw[f9];rfl
  have o4:splice a6 1 [u2]=a7:=by rw[b7,b8];rfl
  have lb:a7.length=8:=by rw[b8];simp [f1]
  have o2:a7[2]?=some w3:=by rw[b8];rfl
  obtain⟨H8,c4⟩:=eY (H7.put E (bC a7 1));have n8:H8.n=H7.n:=by rw[c4,j9]
  have g7:H8.g E=cE a7 1:=by rw[c4];exact i9 oM
  have d5:∀j,j<H6.n->¬j8 w2 j->j≠E->H8.g j=H6.g j:=fun j D h1 h2=>by rw[c4,j7 (fun q=>h2 q.symm)];exact a2.but j D h1
  have h3:u5 H8 (E+1) 1 (y7 inE) w3 s.base:=I.same (H':=H8) fun b S=>by
   have:=I.lt S;rw[d5 b oM (fun q=>d2 b q S) oM,c7 b oM (fun q=>(d1 b q).2 S) oM,k4 b this.2]
  obtain⟨u3,p7,H9,m0,h8,c8,a8⟩:=h3.push1F (P:=prog) (t:=38) (cs:=inE (A5 s.progs)) (a:=A5 s.progs) (by exact BE.2.2.2.2.2.2) ty3.1 ty3.2.1 ty3.2.2.1 oM oM rfl rfl oM oM;have n9:=a8.n;have k8:H9.g E=cE a7 1:=(a8.but E oM (f7 E lR).2.2).trans g7;obtain⟨r7,o9,g0⟩:=c8.slice;have n2:Value.oneCell' u3=true:=by rw[g0];rfl
  have k2:u3.cells.toList=[u3]:=by rw[g0];rfl
  have o5:splice a7 2 [u3]=u1::u2::u3::ms:=by rw[b8];rfl
  obtain⟨c6,W⟩:=eY (H9.put E (bC (u1::u2::u3::ms) 1));have r6:c6.n=H9.n:=by rw[W,j9]
  have b4:∀j,j<H8.n->¬j8 w3 j->j≠E->c6.g j=H8.g j:=fun j D h1 h2=>by rw[W,j7 (fun q=>h2 q.symm)];exact a8.but j D h1
  have g1:c6.g H3.n=cE J 1:=by
   rw[b4 _ oM (fun q=>by have:=I.lt q;omega) oM,d5 _ oM (fun q=>by have:=O.lt q;omega) oM];exact g6
  have j4:J[0]?=some (.int .i64 (C9 x).st):=by obtain⟨_,_,_,_,rfl,_⟩:=F0 X;rfl
  refine J30 f3 f4 f5 (aI f6 b) (aI g3 b1) (aI f0 nt) (aI e6 a9) (aI b9 m3) (aI h5 a3) (aI l3 o6) (aI l1.symm g2) (aI o0 g4) (aI k9 j3) (aI l5 h6) (aI k6 l8) (aI n0 k0) (aI o3 c3.symm) (aI g5 o1) (aI g6 m9) (aI j2 l6) (aI h7 k7) (aI la n1) (aI k1 o4) (aI c4.symm g7) (aI o2 m0) (aI h8 k8) (aI lb n2) (aI k2 o5) (aI W.symm g1) (aI j4 @wrap_small) ?_;have e7:∀j,G2 j->c6.g j=H6.g j:=fun j D=>by
   obtain⟨q1,q2,q3,q4,q5,q6⟩:=b5 j D;rw[b4 j oM q6 q2,d5 j oM q5 q2]
  have o8:∀{w u:aa3}{Ha Hb:d7}{lo:Nat},Z2 lo w Ha u Hb->∀b,j8 u b->j8 w b\/Ha.n<=b:=fun h=>h.new;refine d8 (kk-1) oM ⟨i+1,⟨s.paths++[x],s.progs++[C9 x],s.base++[A5 s.progs],s.main⟩,u1,u2,u3,G2,oM,oM,by simp;omega,by simp [i3],by simp [h4],by show 0<=A5 (s.progs++[C9 x]);rw[Z9];omega,by show A5 (s.progs++[C9 x])<=_;rw[Z9];omega,f2,f3,f4,by show Env.g _ 5=iV (A5 (s.progs++[C9 x]));rw[Z9];rfl,rfl,by rw[W];exact i9 oM,?_,?_,?_,?_,?_,?_,?_,?_,?_,fu⟩
  .exact c5.mono (fun j D=>by rw[e7 j (a5 j D),d0 j D]) a5 iF
  .exact e4.mono (fun j D=>by rw[e7 j (a5 j D),d0 j D]) a5 iF
  .refine b6.same fun b S=>?_;have h1:=b6.lt S;have h2:¬j8 w2 b/\¬j8 w3 b:=by
    rcases a1.new b S with q|q
    .exact d1 b q
    .exact⟨fun q=>by have:=O.lt q;omega,fun q=>by have:=I.lt q;omega⟩
   rw[b4 b oM h2.2 oM,d5 b oM h2.1 oM,c3,j7 oM]
  .refine(a4.same (H':=c6) fun b S=>?_).imp fun cs p h=>h.mono e7 (fun _ h=>h) iF;have h1:=a4.lt S;have h2:¬j8 w3 b:=by
    rcases a2.new b S with q|q
    .exact d2 b q
    .exact fun q=>oN (I.lt q)
   rw[b4 b oM h2 oM,c4,j7 oM]
  .refine c8.same fun b S=>?_;have h1:=c8.lt S;rw[W,j7 oM]
  .intro j D;obtain⟨q1,q2,q3,q4,q5,q6⟩:=b5 j D;have h9:H.n+2<=j:=by
    rw[c0]at D;rcases D with D|D
    .exact(hG j D).1
    .omega
   refine⟨h9,oM,q2,fun q=>?_,fun q=>?_,fun q=>?_⟩
   .rcases a1.new j q with q|q
    .exact q4 q
    .omega
   .rcases a2.new j q with q|q
    .exact q5 q
    .omega
   .rcases a8.new j q with q|q
    .exact q6 q
    .omega
  .intro j D;have h1:=b6.lt D;refine⟨fun q=>?_,fun q=>?_⟩
   .have h2:=a4.lt q;rcases a2.new j q with q|q
    .have:=O.lt q;rcases a1.new j D with r|r
     .exact(d1 j r).1 q
     .omega
    .omega
   .rcases a8.new j q with q|q
    .have:=I.lt q;rcases a1.new j D with r|r
     .exact(d1 j r).2 q
     .omega
    .omega
  .intro j D q;have h1:=a4.lt D;rcases a8.new j q with q|q
   .have:=I.lt q;rcases a2.new j D with r|r
    .exact d2 j r q
    .omega
   .omega
  .refine((((((hS.trans (d6.wk oM)).trans (e5.wk oM)).trans (a1.stay.wk oM)).trans ?_).trans (a2.stay.wk oM)).trans ?_).trans ((a8.stay.wk oM).trans ?_)
   .rw[c3];exact d9.put oM
   .rw[c4];exact d9.put oM
   .rw[W];exact d9.put oM
 .rw[b2]at b9;have b3:L0 s x=s:=by rw[L0,b2];rfl
  rw[b3]at fu;refine J12 f3 f4 f6 b g3 b1 f0 nt e6 a9 b9 @wrap_small ?_;exact d8 (kk-1) oM ⟨i+1,s,w1,w2,w3,G,oM,oM,oM,i3,h4,m4,oM,f2,f3,f4,f5,rfl,by rw[<-c9];exact g3,c5,e4,U,O,I,hG,d1,d2,hS,fu⟩
def nj:∀(l:List Q)(F:Q->List Q),(∀x∈l,(F x).length+1<=nQ x)->(l.flatMap F).length+l.length<=nL l
 |[],F,_=>by simp [nL]
 |x::l,F,h=>by
  have z:=h x sM;have D:=nj l F fun y u=>h y (by simp [u]);rw[nL,vM,dx,kO];omega
def ph:∀(l:List Q)(x:Q),x∈l->nQ x<=nL l
 |y::l,x,h=>by
  rw[nL];rcases nd.1 h with rfl|h
  .omega
  .have:=ph l x h;omega
def eA:∀(n:Nat)(f:Bool)(q:Q),nQ q<=n->OkD f q->(inQ f q).length+1<=nQ q/\∀x∈inQ f q,OkD false x/\nQ x<=nQ q:=by
 intro n;induction n with
 |zero=>intro f q h;have:=jr q;omega
 |succ n O=>
  intro f q h X;have hq:=jr q;obtain⟨I,D,_⟩:=X.parts;have ia:∀g,(∀x∈q.a,OkD g x)->(inL g q.a).length+q.a.length<=nL q.a/\∀x∈inL g q.a,OkD false x/\nQ x<=nL q.a:=by
   intro g E;have e:∀x∈q.a,nQ x<=n:=fun x u=>oN (ph _ _ u);rw[iT];refine⟨nj _ _ fun x u=>(O g x (e x u) (E x u)).1,fun x u=>?_⟩;obtain⟨y,z,u⟩:=xB.1 u;have:=(O g y (e y z) (E y z)).2 x u;have W:=ph _ _ z;exact⟨this.1,oM⟩
  have U:∀g,(∀x∈q.b,OkD g x)->(inL g q.b).length+q.b.length<=nL q.b/\∀x∈inL g q.b,OkD false x/\nQ x<=nL q.b:=by
   intro g E;have e:∀x∈q.b,nQ x<=n:=fun x u=>oN (ph _ _ u);rw[iT];refine⟨nj _ _ fun x u=>(O g x (e x u) (E x u)).1,fun x u=>?_⟩;obtain⟨y,z,u⟩:=xB.1 u;have:=(O g y (e y z) (E y z)).2 x u;have W:=ph _ _ z;exact⟨this.1,oM⟩
  cases f
  .rw[sK];have J:=ia false I;have S:=U true D;refine⟨by rw[dx];omega,fun x u=>?_⟩;rcases gd.1 u with u|u
   .have:=J.2 x u;exact⟨this.1,oM⟩
   .have:=S.2 x u;exact⟨this.1,oM⟩
  .rw[lZ];have J:=ia true I;have S:=U false D;split
   .refine⟨by simp only[dx];omega,fun x u=>?_⟩;rcases gd.1 u with u|u
    .have:=J.2 x u;exact⟨this.1,oM⟩
    .rcases gd.1 u with u|u
     .have:=S.2 x u;exact⟨this.1,oM⟩
     .have:=ph _ _ u;exact⟨D x u,oM⟩
   .rw[su];refine⟨oM,fun x u=>?_⟩;have:=J.2 x u;exact⟨this.1,oM⟩
def BP(H:d7)(Rp Rt:LV->Q->Prop)(s:StD)(w:aa3)(H1:d7):Prop:=∃cs',w= .agg cs'.toArray/\StF H1 (fun j=>H.n<=j/\j<H1.n) Rp Rt cs' s/\d9 H.n H H1
def wV{H H':d7}{J O:LV->Q->Prop}{cs':LV}{s:StD}(hp:StF H' (fun j=>H.n<=j/\j<H'.n) J O cs' s) (hS:d9 H.n H H') (hl:H.n<=H'.low) {c:Bool} (E:c=true->cs'.all na0=true):
  Ret (some (br c (.agg cs'.toArray,none) (.agg cs'.toArray,some ⟨H'.bs,min H.low H'.low⟩))) H (BP H J O s):=by
 obtain⟨v1,I,v3,ms,rfl,S,z,U,ve,vt,rfl,W,X⟩:=hp;refine cn (fun u=>?_) ⟨_,rfl,⟨v1,I,v3,_,rfl,S,z,U,ve,vt,rfl,W,X⟩,hS.ret hl⟩;have u:=E u;simp only[vG,sB,sS,cA]at u;have n2:s.progs=[]:=by
  rcases z with⟨_,h⟩|⟨b,o,c,D,_⟩
  .exact h
  .rw[D]at u;simp [na0]at u
 have e2:I=nS:=by
  rcases z with⟨h,_⟩|⟨b,o,c,D,_⟩
  .exact h
  .rw[D]at u;simp [na0]at u
 exact⟨_,rfl,⟨v1,I,v3,_,rfl,gN S u.1,.inl ⟨e2,n2⟩,gN U u.2.2.1,ve,vt,rfl,gN W u.2.2.2.2.2.2.1,gN X u.2.2.2.2.2.2.2.1⟩,d9.refl _ _⟩
abbrev z8:LV:=[nS,nS,nS,iV 0,iV 0,iV 0,nS,nS]
def Iz(K:Nat)(H:d7)(lo:Nat)(Rt:LV->Q->Prop)(cs:LV)(q:Q)(e4:lo<=H.n)(hr:QR H lo K false cs q)(b6:∀k' el x,k'<=K->QR H lo k' true el x->Rt el x) (b2:OkD false q) (f5:nQ q<=1000):
  Ret (CL prog l7 48 [.agg cs.toArray] H) H (BP H (QR H lo K false) Rt (C7 q)):=by
 have a0:cs.all oC=true:=by
  cases K with
  |zero=>exact hr.elim
  |succ k=>obtain⟨_,_,_,_,rfl,_⟩:=hr.path;rfl
 have e7:ldC (some true) (some 3) 0 cs=some (.agg cs.toArray):=by
  cases K with
  |zero=>exact hr.elim
  |succ k=>obtain⟨_,_,_,_,rfl,_⟩:=hr.path;rfl
 obtain⟨W,O⟩:=eY ((d7.push ⟨H.bs,H.n⟩ (bC cs 1)).push (bC z8 1));have n0:(d7.push ⟨H.bs,H.n⟩ (bC cs 1)).n=H.n+1:=by rw[i4];rfl
 have hS:d9 H.n H W:=by rw[O];exact(d9.first H _).trans (d9.push oM)
 have g1:W.g H.n=cE cs 1:=by rw[O,j5 oM];exact j6
 have g2:W.g (H.n+1)=cE z8 1:=by rw[O];exact A4 oM
 have b9:H.n<=W.low:=by rw[O,l9,l9];exact lR
 have n1:W.n=H.n+2:=by rw[O,i4,n0]
 obtain⟨v3,f7,H3,d2,b7,ms,rfl,a9,a5⟩:=qh K K oM W lo Rt cs q oM (hr.mono (fun j D=>hS.g j oM) lR) (fun k' el x d4 h=>b6 k' el x d4 (h.mono (fun j D=>(hS.g j oM).symm) lR)) b2 oM;have n3:=a5.n;have a3:=kP a9;have l3:=fj a9;obtain⟨ea,ec,ta,tc,c3,he,ht⟩:=F0 a9;obtain⟨I,J⟩:=eY (nS::nS::nS::ms:LV);have e9:splice z8 3 ms=I:=by rw[J,c3];rfl
 have b0:I.length=8:=by rw[J];simp [l3]
 have b3:I.all oC=true:=by rw[J];simp only[sS,a3];rfl
 obtain⟨H4,d1,n4,c6,s4⟩:=pushP H3 (bC z8 1) (bC I 1);have c7:H4.g H.n=cE cs 1:=by rw[s4.g _ oM,a5.g _ oM];exact g1
 have f1:splice z8 0 I=I:=A0 _ _ (by rw[b0];rfl);have k4:∀j,j<H.n->H4.g j=H.g j:=fun j D=>by rw[s4.g j oM,a5.g j oM,hS.g j D]
 obtain⟨f9,c0⟩:=eA _ false q lR b2;obtain⟨v5,f8,H5,d3,b8,b5,a7⟩:=(SM K).1 H4 lo cs q oM (hr.mono (fun j D=>k4 j oM) lR) oM b2;have n5:=a7.n;rw[i7 WX rfl _ sM];refine J16 a0 O.symm g1 e7 d2 b7 l3 a3 e9 b0 b3 f1 d1.symm c7 d3 b8 ?_;have c4:d9 W.n W H5:=(a5.trans (s4.wk oM)).trans (a7.wk oM);have f6:H5.g (H.n+1)=cE z8 1:=(c4.g _ oM).trans g2;have c8:H5.g H3.n=cE I 1:=(a7.g _ oM).trans c6;have f4:∀cs a,QR H4 lo K false cs a->QR H lo K false cs a:=fun _ _ h=>h.mono (fun j D=>(k4 j oM).symm) lR;obtain⟨G,hG⟩:=eY (fun j=>(W.n<=j/\j<H3.n)\/(H4.n<=j/\j<H5.n):Nat->Prop);have d5:SlF H5 G 3 (QR H lo K false) v5 (inQ false q):=(b5.frz fun b U=>by rw[hG];exact .inr (b5.lt U)).mono (fun _ _=>rfl) (fun _ h=>h) f4;have e5:PrF H5 G Rt ms (C9 q):=a9.mono (fun j D=>by rw[a7.g j oM,s4.g j oM]) (fun j D=>by rw[hG];exact .inl D) iF;have b1:=Ej K H lo H.n H3.n e4 rfl oM Rt b6 v5 (inQ false q) oM (fun x hx=>by have:=c0 x hx;exact⟨this.1,oM⟩) ms (bC z8 1) W hS g2 (C7 q) (inQ false q).length;refine i8 (F:=fun z=>Ret (t6 _ _ _ (t7 (inBlock 0 z) _)) _ _) (b1 _ _ ⟨0,⟨[],[],[],C9 q⟩,nS,nS,nS,G,rfl,oM,by simp,rfl,rfl,by simp [A5],by simp [A5],rfl,rfl,rfl,rfl,rfl,by rw[<-J];exact c8,e5,d5,u5.nil,u5.nil,u5.nil,fun j D=>?_,fun j D=>(C6 j D).elim,fun j D=>(C6 j D).elim,c4.wk oM,rfl⟩) ?_
 .rw[hG]at D;refine⟨oM,oM,oM,C6 j,C6 j,C6 j⟩
 rintro o e' H6 ⟨ho,f2,f3,w1,w2,w3,G',b4,e6,a1,a2,a4,X,a8⟩;have n6:=a8.n;have c9:H6.g (H.n+1)=cE z8 1:=(a8.g _ oM).trans g2;obtain⟨ra,rc,e1⟩:=a1.slice;obtain⟨rb,rd,e2⟩:=a2.slice;obtain⟨re,rf,e3⟩:=a4.slice;obtain⟨u,E⟩:=eY (w1::w2::w3::ms:LV);rw[<-E]at b4;have e8:ldC (some true) (some 8) 0 u=some (.agg u.toArray):=by rw[E,e1,e2,e3,c3];rfl
 have a6:u.all oC=true:=by rw[E,e1,e2,e3];simp only[sS,a3];rfl
 have l6:u.length=8:=by rw[E];simp [l3]
 have f0:splice z8 0 u=u:=A0 _ _ (by rw[l6];rfl);obtain⟨H7,S⟩:=eY (H6.put (H.n+1) (bC u 1));have n7:H7.n=H6.n:=by rw[S,j9]
 have d0:H7.g (H.n+1)=cE u 1:=by rw[S];exact i9 oM
 have s7:d9 H.n H H7:=by rw[S];exact(hS.trans (a8.wk oM)).trans (d9.put oM)
 have d6:H.n<=H7.low:=by rw[S];exact((a8.wk oM).trans (d9.put oM)).low b9
 have k7:∀j,H.n+2<=j->H7.g j=H6.g j:=fun j D=>by rw[S,j7 oM]
 have c5:StF H7 (fun j=>H.n<=j/\j<H7.n) (QR H lo K false) Rt u (C7 q):=by
  refine⟨w1,w2,w3,ms,E,?_,?_,?_,?_⟩
  .exact(a1.same fun b U=>k7 b (oN (a1.lt U))).frz fun b U=>oN (a1.lt U)
  .exact(((a2.same fun b U=>k7 b (oN (a2.lt U))).imp fun cs p h=>h.mono (fun j D=>k7 j (X j D).1) (fun j D=>by have:=X j D;omega) iF)).frz fun b U=>oN (a2.lt U)
  .exact(a4.same fun b U=>k7 b (oN (a4.lt U))).frz fun b U=>oN (a4.lt U)
  .exact e6.mono (fun j D=>k7 j (X j D).1) (fun j D=>by have:=X j D;omega) iF
 refine J11 ho f2 f3 b4 e8 c9 a6 l6 f0 S.symm d0 ?_;exact wV c5 s7 d6 (fun h=>h)
abbrev NmQ:Type:=aa2×aa2
def atE(a:AtD):LV:=[.string a.space,.string a.loc,.string a.val]
def EvF(H:d7)(F:Nat->Prop)(cs:LV)(e:EvD):Prop:=∃v,cs=[iV e.kind,.string e.space,.string e.loc,v,.string e.text]/\SlF H F 3 (y7 atE) v e.attrs
def A3:dK EvF:=fun H H' G G' cs a h z u=>by obtain⟨v,h1,h2⟩:=h;exact⟨v,h1,h2.mono z u iF⟩
def atV(n:NmQ)(e:EvD)(v:aa2):EvD:={e with attrs:=e.attrs++[⟨n.1,n.2,v⟩]}
def AR(n:NmQ)(vs:List aa2)(e:EvD):List EvD:=e::vs.map (atV n e)
def dS(n:NmQ)(vs:List aa2)(l:List EvD):List EvD:=l.flatMap (AR n vs)
def T6(vs:List aa2):List aa2:=vs++[if Z0 vs eB then dg (X5 vs) else eB]
def iH:List (NmQ×List aa2)->List EvD->Option (List EvD)
 |[],l=>some l
 |x::r,l=>if(dS x.1 (T6 x.2) l).length>24 then none else iH r (dS x.1 (T6 x.2) l)
def am(n:NmQ):EvD:=⟨1,n.1,n.2,[],eB⟩
def dY(s:aa2):EvD:=⟨2,eB,eB,[],s⟩
def jc(s:SpD):List NmQ->List EvD->Option (List EvD)
 |[],acc=>some acc
 |n::r,acc=>match iH (s.attrs.zip s.vals) [am n]with
  |none=>none
  |some l=>jc s r (acc++l)
def Y4(s:SpD):Option (List EvD):=match jc s (s.names++[zNm (V6 s.names)]) []with
 |none=>none
 |some l=>if(l++(s.texts++[dg (X5 s.texts)]).map dY).length>24 then none else some (l++(s.texts++[dg (X5 s.texts)]).map dY)
def Zb(J:Nat->Prop)(H0:d7)(lo b4:Nat)(w0:aa3)(m2:lo<=H0.n)(U:∀j,J j->j<H0.n/\¬j8 w0 j) (v1 v3 v4:aa3) (aa:Option Addr) (I:List NmQ) (ac:Nat) (b1:H0.g b4=cE [v1,.slice aa I.length ac,v3,v4] 1) (gG:J b4) (g6:SlF H0 J 2 (y7 nmE) (.slice aa I.length ac) I) (k:Nat) (hk:k<I.length) (n:NmQ) (hn:I[k]?=some n) (k9:I.length<=100000)
  (va:Option Addr) (vc:Nat) (vs:List aa2) (g7:SlF H0 J 1 (y7 stE) (.slice va vs.length vc) vs) (m3:vs.length<=100000) (la:Option Addr) (l:List EvD) (lc:Nat) (hl:SlF H0 J 5 (EvF H0 J) (.slice la l.length lc) l) (j:Nat) (e0:EvD) (E:l[j]?=some e0) (m1:l.length<=100000) (l6:e0.attrs.length<=100000) (p5 p6 p7:aa3) (b9:List EvD) (k0:b9.length<=10000000):
  ∀kk e H2,(∃(i:Nat)(w:aa3)(G:Nat->Prop)(es:List EvD),kk=vs.length-i/\i<=vs.length/\e.g 4=pT b4/\e.g 5=p5/\e.g 6=p6/\e.g 7=p7/\e.g 8= .slice la l.length lc/\e.g 9=iV k/\e.g 10= .slice va vs.length vc/\e.g 11=w/\e.g 12=iV j/\e.g 13=iV i/\Buf 5 EvF lo J H0 w0 G H2 w es/\es++(vs.drop i).map (atV n e0)=b9)->
  u7 (LE prog l7 (.loop Va) e H2) (fun o e H2=>o= .exit 6/\e.g 4=pT b4/\e.g 5=p5/\e.g 6=p6/\e.g 7=p7/\e.g 8= .slice la l.length lc/\e.g 9=iV k/\e.g 10= .slice va vs.length vc/\e.g 12=iV j/\∃(w:aa3)(G:Nat->Prop),e.g 11=w/\Buf 5 EvF lo J H0 w0 G H2 w b9):=by
 refine i5 _ _ ?_;rintro kk e H2 ⟨i,w,G,es,l8,hi,f4,f5,f6,f7,f8,f9,a4,c9,b0,d0,B,fu⟩;rcases b:decide ((i:Int)<vs.length)with _|_
 .have g3:=dF b;have:vs.drop i=[]:=dN oM;rw[this,XV,su]at fu;subst fu;refine J3 a4 d0 b ?_;exact i6 ⟨rfl,f4,f5,f6,f7,f8,f9,a4,b0,w,G,c9,B⟩
 have g3:=dT b;have g5:j<l.length:=(gS E).1;have B0:=fun j E=>B.g U j E;have nx:=B.n;have e1:lo<=H2.n:=oM;obtain⟨v,nb,o,cs,own,k8,hx,hd,rfl,hF,hg,m0,k1,hc,rfl⟩:=g7.row (i:=i) oM;obtain⟨e',m4,ol,k5,k3,k7,g9,l5,rfl,f1,g4,j4,X,l3,g0⟩:=hl.row (i:=j) g5;obtain rfl:e0=e':=oU (E.symm.trans g9);obtain⟨n',b8,oa,k4,k2,k6,g8,l4,rfl,b2,b6,j3,b7,l1,rfl⟩:=g6.row (i:=k) hk;obtain rfl:n=n':=oU (hn.symm.trans g8);have h3:(i:Int).toNat=i:=tN i;have h4:(j:Int).toNat=j:=tN j;have h5:(k:Int).toNat=k:=tN k;rw[hd,xC,ZH]at fu;obtain⟨av,rfl,d4⟩:=g0;obtain⟨c3,c4,rfl⟩:=d4.slice;obtain⟨u,D⟩:=eY ([iV e0.kind,.string e0.space,.string e0.loc,.slice c3 e0.attrs.length c4,.string e0.text]:LV);rw[<-D]at X;have e9:=(B0 _ f1).trans g4;have e8:u[3]?=some (.slice c3 e0.attrs.length c4):=by rw[D];rfl
 have e5:u.all oC=true:=by rw[D];rfl
 have e2:u.length=5:=by rw[D];rfl
 obtain⟨K0,f2,n0,a6,s0⟩:=pushP H2 (bC [iV 0,.string eB,.string eB,nS,.string eB] 1) (bC u 1);have c0:splice [iV 0,.string eB,.string eB,nS,.string eB] 0 u=u:=A0 _ _ (by rw[e2];rfl);obtain⟨K1,d1,n1,-,s1⟩:=pushE K0 (bC [] 3);have a1:∀j,J j->K0.g j=H0.g j:=fun j E=>by rw[s0.g j (oN (U j E)),B0 j E]
 have O:∀j,J j->K1.g j=H0.g j:=fun j E=>by rw[s1.g j (oN (U j E)),a1 j E]
 have f3:u5 K1 K0.n 3 (y7 atE) (sL K0.n 0 0) []:=by rw[d1];exact u5.fresh rfl lR F1.nil
 obtain⟨w1,h1,K2,g1,d5,d2,s2⟩:=f3.append (P:=prog) (t:=27) (n:=K1.n) (by exact IU.2.2.2.2.2.2) oD.1 oD.2.1 oD.2.2.1 oM oM (d4.mono (F':=(· <K1.n)) O (fun j E=>by have:=U j E;omega) iF) (by simp;omega) oM;have n2:=s2.n;have a9:∀j,J j->K2.g j=H0.g j:=fun j E=>by rw[s2.g j (oN (U j E)),O j E]
 obtain⟨w2,h2,K4,d3,a8,a5,b3⟩:=d2.push1F (P:=prog) (t:=27) (cs:=[.string n.1,.string n.2,.string v]) (a:=⟨n.1,n.2,v⟩) (by exact IU.2.2.2.2.2.2) oD.1 oD.2.1 oD.2.2.1 oM oM rfl rfl (by simp;omega) oM;have n4:=b3.n;obtain⟨K3,b5⟩:=eY (K2.push (bC [.string n.1,.string n.2,.string v] 3));rw[<-b5]at d3 a8;have a7:K1.g H2.n=cE u 1:=(s1.g _ oM).trans a6;have S:K2.g H2.n=cE u 1:=(s2.g _ oM).trans a7;have c6:K3.g H2.n=cE u 1:=by rw[b5,j5 oM];exact S
 have c7:K4.g H2.n=cE u 1:=(b3.but _ oM (fun q=>by have:=d2.lt q;omega)).trans S;have i1:=(a1 b4 gG).trans b1;have i2:=(O b4 gG).trans b1;have i3:=(a9 b4 gG).trans b1;have h8:=(a1 b8 b2).trans b6;have h9:=(O b8 b2).trans b6;have i0:=(a9 b8 b2).trans b6;have j0:=(a1 nb hF).trans hg;have j1:=(O nb hF).trans hg;have j2:=(a9 nb hF).trans hg;have c5:=hc 0 oM;rw[ly]at c5;obtain⟨a2,c2,a3⟩:=a5.slice;have e7:w2.cells.toList=[w2]:=by rw[a3];rfl
 have h7:Value.oneCell' w2=true:=by rw[a3];rfl
 obtain⟨h,z⟩:=eY ([iV e0.kind,.string e0.space,.string e0.loc,w2,.string e0.text]:LV);have e4:splice u 3 [w2]=h:=by rw[D,z];rfl
 have e3:h.length=5:=by rw[z];rfl
 have h0:ldC (some true) (some 5) 0 h=some (.agg h.toArray):=by rw[z,a3];rfl
 obtain⟨K5,W⟩:=eY (K4.put H2.n (bC h 1));have n5:K5.n=K4.n:=by rw[W,j9]
 have c8:K5.g H2.n=cE h 1:=by rw[W];exact i9 oM
 have s5:d9 H2.n H2 K5:=((s0.trans (s1.wk oM)).trans (s2.wk oM)).trans ((b3.stay.wk oM).trans (by rw[W];exact d9.put oM));have B5:=B.stay A3 s5 e1;have f0:EvF K5 (pls G H2 K5) h (atV n e0 v):=⟨w2,z,((a5.same (H':=K5) fun b hb=>by have:=a5.lt hb;rw[W,j7 oM]).frz fun b hb=>by have:=a5.lt hb;exact .inr oM)⟩
 obtain⟨w6,h6,H6,g2,d6,B6⟩:=B5.push (P:=prog) (t:=22) A3 (by exact gV.2.2.2.2.2.2) Q9.1 Q9.2.1 Q9.2.2.1 oM oM e3 f0 (by have:=congrArg List.length fu;simp at this;omega) oM;have n6:=B6.n;have e6:∀Hx:d7,bsA prog (some 29) Hx 1 [(0,.agg h.toArray)]=some (sL Hx.n 1 1,Hx.push (bC h 5)):=fun Hx=>by
  rw[z,a3];simp only[E4,Q9,E5];rfl
 refine J30 f4 f8 f9 a4 c9 b0 d0 b e9 h3 (aI h4 h5) (aI X e5) (aI e2 c0) (aI f2.symm d1.symm) (aI a6 a7) (aI S c6) (aI c7 e8) (aI g1 d5) (aI i1 i2) (aI i3 h8) (aI h9 i0) (aI j0 j1) (aI j2 b7) (aI c5 b5.symm) (aI d3 a8) (aI e7 h7) (aI e4 W.symm) (aI c8 h0) (aI e6 g2) (aI d6 @wrap_small) ?_;exact d8 (kk-1) oM ⟨i+1,w6,_,es++[atV n e0 v],oM,oM,f4,f5,f6,f7,f8,f9,a4,rfl,b0,rfl,B6,fu⟩
def Zc(I:Nat->Prop)(H0:d7)(lo W:Nat)(w0:aa3)(d2:lo<=H0.n)(a2:∀j,I j->j<H0.n/\¬j8 w0 j) (v1 v3 v4:aa3) (aa:Option Addr) (u:List NmQ) (ac:Nat) (b2:H0.g W=cE [v1,.slice aa u.length ac,v3,v4] 1) (gG:I W) (c0:SlF H0 I 2 (y7 nmE) (.slice aa u.length ac) u) (k:Nat) (hk:k<u.length) (n:NmQ) (hn:u[k]?=some n) (b6:u.length<=100000)
  (va:Option Addr) (vc:Nat) (J:List aa2) (c4:SlF H0 I 1 (y7 stE) (.slice va J.length vc) J) (c3:J.length<=100000) (la:Option Addr) (l:List EvD) (lc:Nat) (hl:SlF H0 I 5 (EvF H0 I) (.slice la l.length lc) l) (b9:l.length<=100000) (b8:∀x∈l,x.attrs.length<=100000) (p5 p6 p7:aa3) (U:List EvD) (c7:U.length<=10000000):
  ∀kk e H2,(∃(j:Nat)(w:aa3)(G:Nat->Prop)(es:List EvD),kk=l.length-j/\j<=l.length/\e.g 4=pT W/\e.g 5=p5/\e.g 6=p6/\e.g 7=p7/\e.g 8= .slice la l.length lc/\e.g 9=iV k/\e.g 10= .slice va J.length vc/\e.g 11=w/\e.g 12=iV j/\Buf 5 EvF lo I H0 w0 G H2 w es/\es++dS n J (l.drop j)=U)->
  u7 (LE prog l7 (.loop Vb) e H2) (fun o e H2=>o= .exit 4/\e.g 4=pT W/\e.g 5=p5/\e.g 6=p6/\e.g 7=p7/\e.g 9=iV k/\∃(w:aa3)(G:Nat->Prop),e.g 11=w/\Buf 5 EvF lo I H0 w0 G H2 w U):=by
 refine i5 _ _ ?_;rintro kk e H2 ⟨j,w,G,es,d0,hi,f4,f5,f6,f7,f8,f9,a8,a1,O,B,X⟩;rcases b:decide ((j:Int)<l.length)with _|_
 .have b7:=dF b;have:l.drop j=[]:=dN oM;rw[this,dS,Fc,su]at X;subst X;refine J3 f8 O b ?_;exact i6 ⟨rfl,f4,f5,f6,f7,f9,w,G,a1,B⟩
 have b7:=dT b;have B0:=fun j hj=>B.g a2 j hj;have nx:=B.n;obtain⟨e0,nb,o,cs,own,D,hx,hd,rfl,hF,hg,d1,a5,hc,hR⟩:=hl.row (i:=j) oM;have c6:(j:Int).toNat=j:=tN j;rw[hd,dS,vM,AR,vG,ZH]at X;have g2:=(B0 _ hF).trans hg;have b3:EvF H2 G D e0:=A3 _ _ _ _ _ _ hR B0 B.up;obtain⟨av,S,a3⟩:=b3;obtain⟨c8,c9,a7⟩:=a3.slice;have c5:D.length=5:=by rw[S];rfl
 obtain⟨w1,h1,H3,b5,a4,B1⟩:=B.push (P:=prog) (t:=22) A3 (by exact gV.2.2.2.2.2.2) Q9.1 Q9.2.1 Q9.2.2.1 oM oM c5 ⟨av,S,a3⟩ (by have:=congrArg List.length X;simp at this;omega) oM;have a6:∀Hx:d7,bsA prog (some 29) Hx 1 [(0,.agg D.toArray)]=some (sL Hx.n 1 1,Hx.push (bC D 5)):=fun Hx=>by
  rw[S,a7];simp only[E4,Q9,E5];rfl
 have n1:=B1.gr.n;have G1:∀j,G j->j<H3.n/\¬j8 w1 j:=B1.lt;have E:=fun j(hj:I j)=>(B1.g a2 j hj)
 refine J10 f8 a1 O b g2 c6 a5 a6 b5 a4 ?_;refine i8 (F:=fun z=>u7 (t7 (inBlock 5 (inBlock 6 z)) _) _) (Zb G H3 lo W w1 oM G1 v1 v3 v4 aa u ac ((E W gG).trans b2) (B.up _ gG) (c0.mono E B.up iF) k hk n hn b6 va vc J (c4.mono E B.up iF) c3 _ l lc (hl.mono E B.up (fun _ _ h=>A3 _ _ _ _ _ _ h E B.up)) j e0 hx b9 (b8 e0 (mG hx)) p5 p6 p7 (es++[e0]++J.map (atV n e0)) (by have:=congrArg List.length X;simp at this ⊢;omega) J.length _ _ ⟨0,w1,G,es++[e0],rfl,oM,f4,f5,f6,f7,f8,f9,a8,rfl,O,rfl,Buf.start G1 B1.own,rfl⟩) ?_;rintro o' e' H4 ⟨ho,g4,g5,g6,g7,g8,g9,a9,b1,w4,G4,b0,B4⟩;refine J3 ho b1 @wrap_small ?_;exact d8 (kk-1) oM ⟨j+1,w4,G4,_,oM,oM,g4,g5,g6,g7,g8,g9,a9,b0,rfl,B1.trans B4,by rw[<-X,dS];simp⟩
def pg(n:NmQ)(h:List aa2):∀l:List EvD,(dS n h l).length=l.length*(h.length+1)
 |[]=>by simp [dS]
 |x::l=>by
  have:=pg n h l;rw[dS]at this ⊢;rw[vM,dx,this,AR,kO,ED,kO,aay];omega
def LC(n:NmQ)(D:List aa2)(k:Nat)(l:List EvD)(h:∀x∈l,x.attrs.length<=k):∀x∈dS n D l,x.attrs.length<=k+1:=by
 intro x u;rw[dS]at u;obtain⟨y,z,u⟩:=xB.1 u;have:=h y z;rw[AR,nd]at u;rcases u with rfl|u
 .omega
 .obtain⟨v,_,rfl⟩:=wC.1 u;simp [atV];omega
def kw{α β:Type}:∀(a:List α)(b:List β)(k:Nat),(a.zip b).drop k=(a.drop k).zip (b.drop k)
 |a,b,0=>rfl
 |[],b,k+1=>by simp
 |x::a,[],k+1=>by simp
 |x::a,y::b,k+1=>by simpa using kw a b k
def Zd(J:Nat->Prop)(H0:d7)(b4:Nat)(I:∀j,J j->j<H0.n) (v1 v4:aa3) (aa:Option Addr) (D:List NmQ) (ac:Nat) (ba:Option Addr) (vals:List (List aa2)) (bc:Nat) (h3:vals.length=D.length) (a4:H0.g b4=cE [v1,.slice aa D.length ac,.slice ba vals.length bc,v4] 1) (gG:J b4) (c7:SlF H0 J 2 (y7 nmE) (.slice aa D.length ac) D) (e9:SlF H0 J 1 (VlF H0 J) (.slice ba vals.length bc) vals) (i3:D.length<=1000) (e8:∀x∈vals,x.length<=10000)
  (p5 p6 p7:aa3) (a6:Option (List EvD)):
  ∀kk e H2,(∃(k:Nat)(l:List EvD)(w8:aa3)(G:Nat->Prop),kk=D.length-k/\k<=D.length/\e.g 4=pT b4/\e.g 5=p5/\e.g 6=p6/\e.g 7=p7/\e.g 8=w8/\e.g 9=iV k/\d9 H0.n H0 H2/\(∀j,J j->G j)/\(∀j,G j->J j\/H0.n<=j)/\(∀j,G j->j<H2.n)/\SlF H2 G 5 (EvF H2 G) w8 l/\l.length<=24/\(∀x∈l,x.attrs.length<=k)/\iH ((D.zip vals).drop k) l=a6)->
  u7 (LE prog l7 (.loop Vc) e H2) (fun o e H2=>d9 H0.n H0 H2/\((o= .exit 2/\e.g 4=pT b4/\e.g 5=p5/\e.g 6=p6/\e.g 7=p7/\∃(l:List EvD)(w8:aa3)(G:Nat->Prop),a6=some l/\l.length<=24/\e.g 8=w8/\(∀j,J j->G j)/\(∀j,G j->J j\/H0.n<=j)/\(∀j,G j->j<H2.n)/\SlF H2 G 5 (EvF H2 G) w8 l)\/(o= .ret/\a6=none/\e.g 2=nS/\e.g 3=iV 13))):=by
 refine i5 _ _ ?_;rintro kk e H2 ⟨k,l,w8,G,j2,hi,f4,f5,f6,f7,f8,f9,hS,b6,b7,a5,hl,c5,c4,fu⟩;have b5:=(hS.g b4 (I _ gG)).trans a4;rcases b:decide ((k:Int)<D.length)with _|_
 .have d5:=dF b;have:(D.zip vals).drop k=[]:=dN (by rw[MQ];omega);rw[this,iH]at fu;refine J4 f4 f9 b5 b ?_;exact i6 ⟨hS,.inl ⟨rfl,f4,f5,f6,f7,l,w8,G,fu.symm,c5,f8,b6,b7,a5,hl⟩⟩
 have d5:=dT b;have j3:=hS.n;obtain⟨n,k0,oa,h8,h6,i0,f0,e2,rfl,i2,j1,h0,e6,j0,rfl⟩:=c7.row (i:=k) oM;obtain⟨E,g0,ov,h9,h7,i1,f1,e3,rfl,d1,e5,h4,e7,e1,⟨vv,rfl,c8⟩⟩:=e9.row (i:=k) oM;have g1:(k:Int).toNat=k:=tN k;have h5:=e8 E (mG f1);have e4:(D.zip vals).drop k=(n,E)::(D.zip vals).drop (k+1):=by
  rw[kw,e2,e3,YB,kw]
 rw[e4,iH]at fu
 dsimp only at fu
 have a9:=e1 0 oM;rw[ly]at a9;obtain⟨k1,k2,rfl⟩:=c8.slice;obtain⟨la,lc,rfl⟩:=hl.slice;obtain⟨K1,b9,n1,-,s1⟩:=pushE H2 (bC [] 1);have a2:∀j,J j->K1.g j=H0.g j:=fun j u=>by rw[s1.g j (oN (I j u)),hS.g j (I j u)]
 have d2:u5 K1 H2.n 1 (y7 stE) (sL H2.n 0 0) []:=by rw[b9];exact u5.fresh rfl lR F1.nil
 obtain⟨w1,h1,K2,d3,c0,W,s2⟩:=d2.append (P:=prog) (t:=103) (n:=K1.n) (by exact X6.2.2.2.2.2.2) ty9.1 ty9.2.1 ty9.2.2.1 oM oM (c8.mono (F':=(· <K1.n)) a2 (fun j u=>by have:=I j u;omega) iF) (by simp;omega) oM;have n2:=s2.n;rw[sB]at W;have O:=CF K2 K2.n w1 E eB lR W.sl oM;have c6:=nO K2 K2.n w1 E lR W.sl oM;rw[show(E.any fun y=>dP y eB)=Z0 E eB from rfl]at O;obtain⟨x,hx⟩:∃x,x=if Z0 E eB then dg (X5 E) else eB:=eX;obtain⟨w2,h2,S,d4,c3,X,b8⟩:=W.push1F (P:=prog) (t:=103) (cs:=[.string x]) (a:=x) (by exact X6.2.2.2.2.2.2) ty9.1 ty9.2.1 ty9.2.2.1 oM oM rfl rfl oM oM;rw[show E++[x]=T6 E by rw[hx];rfl]at X;have n4:=b8.n;have s4:d9 H2.n H2 S:=(s1.trans s2).trans b8.stay;have f3:(T6 E).length=E.length+1:=by simp [T6]
 have d0:=(a2 b4 gG).trans a4;have g8:=(a2 g0 d1).trans e5;have j4:H2.n<=S.n:=oM;obtain⟨g2,g3,b0⟩:=X.slice;have lm:=pg n (T6 E) l;have f2:(dS n (T6 E) l).length<=10000000:=by
  rw[lm,f3];have:=Nat.mul_le_mul c5 (show E.length+1+1<=10002 from oM);omega
 have a8:∀j,J j->S.g j=H0.g j:=fun j u=>by rw[s4.g j (oN (I j u)),hS.g j (I j u)]
 have a1:∀j,pls G H2 S j->j<S.n/\¬j8 (nS) j:=fun j u=>⟨by
  rcases u with u|u
  .have:=a5 j u;omega
  .exact u.2,C6 j⟩
 have a7:∀j,J j->pls G H2 S j:=fun j u=> .inl (b6 j u);have c9:∀j,G j->S.g j=H2.g j:=fun j u=>s4.g j (a5 j u);rcases b2:Z0 E eB with _|_
 all_goals
  rw[b2]at O;simp only[b2,jd,bF]at hx;subst hx;refine J15 f4 f9 b5 b b9.symm d0 g8 g1 a9 d3 c0 O c6 d4 c3 ?_;refine i8 (F:=fun z=>u7 (t7 (inBlock 3 (t7 (inBlock 4 z) _)) _) _) (Zc (pls G H2 S) S S.n b4 (nS) lR a1 v1 _ v4 _ D ac ((a8 b4 gG).trans a4) (a7 _ gG) (c7.mono a8 a7 iF) k oM n f0 oM g2 g3 (T6 E) (by rw[<-b0];exact X.frz fun b hb=>by have:=X.lt hb;exact .inr oM) oM la l lc (hl.mono c9 (fun j u=> .inl u) (fun _ _ h=>A3 _ _ _ _ _ _ h c9 (fun j u=> .inl u))) oM (fun x hx=>by have:=c4 x hx;omega) p5 p6 p7 (dS n (T6 E) l) f2 l.length _ _ ⟨0,nS,_,[],rfl,oM,f4,f5,f6,f7,f8,f9,b0,rfl,rfl,Buf.start a1 u5.nil,rfl⟩) ?_;rintro o' e' H5 ⟨ho,g4,g5,g6,g7,g9,w5,G5,a3,U⟩;obtain⟨wa,wc,b1⟩:=U.own.slice;have n5:=U.n;have s5:d9 H0.n H0 H5:=(hS.trans (s4.wk oM)).trans (U.gr.stay.wk oM);rw[b1]at a3;rcases b3:decide ((24:Int)<((dS n (T6 E) l).length:Nat))with _|_
  .have d6:=dF b3;rw[bt oM]at fu;refine J5 ho g9 a3 b3 @wrap_small ?_;refine d8 (kk-1) oM ⟨k+1,_,w5,_,oM,oM,g4,g5,g6,g7,b1.symm,rfl,s5,fun j u=> .inl (U.up j (a7 j u)),fun j u=>?_,fun j u=>?_,U.frz A3,oM,LC n _ k l c4,fu⟩
   .rcases u with u|u
    .rcases U.new j u with r|r
     .rcases r with r|r
      .exact b7 j r
      .exact .inr oM
     .exact .inr oM
    .have:=U.own.lt u;exact .inr oM
   .rcases u with u|u
    .exact(U.lt j u).1
    .exact(U.own.lt u).2
  .have d6:=dT b3;rw[bJ oM]at fu;refine J3 ho a3 b3 ?_;exact y9 ⟨s5,.inr ⟨rfl,fu.symm,rfl,rfl⟩⟩
def Ze(J:Nat->Prop)(H0:d7)(b4:Nat)(a4:∀j,J j->j<H0.n) (s:SpD) (v1 v4:aa3) (aa:Option Addr) (ac:Nat) (ba:Option Addr) (bc:Nat) (b0:s.vals.length=s.attrs.length) (b6:H0.g b4=cE [v1,.slice aa s.attrs.length ac,.slice ba s.vals.length bc,v4] 1) (gG:J b4) (c5:SlF H0 J 2 (y7 nmE) (.slice aa s.attrs.length ac) s.attrs) (c7:SlF H0 J 1 (VlF H0 J) (.slice ba s.vals.length bc) s.vals) (b8:s.attrs.length<=1000) (c6:∀x∈s.vals,x.length<=10000)
  (na:Option Addr) (nc:Nat) (S:List NmQ) (c4:SlF H0 J 2 (y7 nmE) (.slice na S.length nc) S) (e1:S.length<=10000) (a3:Option (List EvD)):
  ∀kk e H2,(∃(i:Nat)(w:aa3)(D:List EvD)(G:Nat->Prop),kk=S.length-i/\i<=S.length/\e.g 4=pT b4/\e.g 5=w/\e.g 6= .slice na S.length nc/\e.g 7=iV i/\Buf 5 EvF H0.n J H0 (nS) G H2 w D/\D.length<=24*i/\jc s (S.drop i) D=a3)->
  u7 (LE prog l7 (.loop Vd) e H2) (fun o e H2=>(o= .exit 0/\e.g 4=pT b4/\∃(w:aa3)(D:List EvD)(G:Nat->Prop),a3=some D/\D.length<=24*S.length/\e.g 5=w/\Buf 5 EvF H0.n J H0 (nS) G H2 w D)\/(d9 H0.n H0 H2/\o= .ret/\a3=none/\e.g 2=nS/\e.g 3=iV 13)):=by
 refine i5 _ _ ?_;rintro kk e H2 ⟨i,w,D,G,d5,hi,f4,f5,f6,f7,B,d1,U⟩;have a5:∀j,J j->j<H0.n/\¬j8 (nS) j:=fun j E=>⟨a4 j E,C6 j⟩
 have B0:=fun j E=>B.g a5 j E;have nx:=B.n;rcases b:decide ((i:Int)<S.length)with _|_
 .have b9:=dF b;have:S.drop i=[]:=dN oM;rw[this,jc]at U;refine J3 f6 f7 b ?_;exact i6 (.inl ⟨rfl,f4,w,D,G,U.symm,oM,f5,B⟩)
 have b9:=dT b;obtain⟨n,nb,o,cs,own,el,hx,hd,rfl,hF,hg,d6,b1,hc,rfl⟩:=c4.row (i:=i) oM;have c8:(i:Int).toNat=i:=tN i;have g2:=(B0 _ hF).trans hg;rw[hd,jc]at U;obtain⟨W,u⟩:=eY ([iV 1,.string n.1,.string n.2,nS,.string eB]:LV);obtain⟨I,a6,n3,-,s3⟩:=pushE H2 (bC W 5);have d3:splice [iV 1,Value.string eB,Value.string eB,nS,Value.string eB] 1 (nmE n)=W:=by rw[u];rfl
 have b2:W.length=5:=by rw[u];rfl
 have d0:W.all oC=true:=by rw[u];rfl
 have d4:(nmE n).all oC=true:=rfl;have a7:I=H2.push (bC [iV 1,.string n.1,.string n.2,nS,.string eB] 5):=by rw[a6,u]
 have B3:=fun j(E:J j)=>(s3.g j (oN (a4 j E))).trans (B0 j E);have X:∀j,J j->pls G H2 I j:=fun j E=> .inl (B.up j E);have a1:∀j,pls G H2 I j->j<I.n:=fun j E=>by
  rcases E with E|E
  .have:=B.lt j E;omega
  .exact E.2
 have a8:u5 I H2.n 5 (EvF I (pls G H2 I)) (sL H2.n 1 1) [am n]:=by
  rw[a6];exact u5.fresh rfl lR (F1.one b2 ⟨nS,u,.inl ⟨rfl,rfl⟩⟩)
 have c0:SlF I (pls G H2 I) 5 (EvF I (pls G H2 I)) (sL H2.n 1 1) [am n]:=a8.frz fun b hb=>by have:=a8.lt hb;exact .inr this
 refine J7 f6 f7 b g2 c8 b1 a7.symm ?_;refine i8 (F:=fun z=>u7 (t7 (inBlock 1 (t7 (inBlock 2 z) _)) _) _) (Zd (pls G H2 I) I b4 a1 v1 v4 aa s.attrs ac ba s.vals bc b0 ((B3 b4 gG).trans b6) (X _ gG) (c5.mono B3 X iF) (c7.mono B3 X (fun _ _ h=>h.mono B3 X)) b8 c6 w _ _ (iH (s.attrs.zip s.vals) [am n]) s.attrs.length _ _ ⟨0,[am n],_,_,rfl,oM,f4,f5,f6,f7,rfl,rfl,d9.refl _ _,fun _ h=>h,fun _ h=> .inl h,a1,c0,by simp,by simp [am],rfl⟩) ?_;rintro o' e' H5 ⟨s5,⟨ho,g4,g5,g6,g7,l,w8,G5,O,d2,g8,h1,h2,h3,c3⟩|⟨ho,O,b3,b5⟩⟩
 .rw[O]at U
  dsimp only at U
  have n5:=s5.n;have c9:d9 H2.n H2 H5:=s3.trans (s5.wk oM);have B5:=B.stay A3 c9 nx;have a2:∀j,G5 j->pls G H2 H5 j:=fun j E=>by
   have:=h3 j E;rcases h2 j E with r|r
   .rcases r with r|r
    .exact .inl r
    .exact .inr ⟨r.1,this⟩
   .exact .inr ⟨oM,this⟩
  obtain⟨w6,h6,H6,b7,a9,B6⟩:=B5.append (P:=prog) (t:=22) A3 (by exact gV.2.2.2.2.2.2) Q9.1 Q9.2.1 Q9.2.2.1 oM oM (c3.mono (fun _ _=>rfl) a2 (fun _ _ h=>A3 _ _ _ _ _ _ h (fun _ _=>rfl) a2)) oM oM;refine J7 ho g5 g7 g8 b7 a9 @wrap_small ?_;exact d8 (kk-1) oM ⟨i+1,w6,D++l,_,oM,oM,g4,rfl,g6,rfl,B6,by rw[dx];omega,U⟩
 .rw[O]at U
  dsimp only at U
  refine J1 ho ?_;have n5:=s5.n;exact y9 (.inr ⟨((B.gr.stay).trans (s3.wk nx)).trans (s5.wk oM),rfl,U.symm,b3,b5⟩)
def Zf(O:Nat->Prop)(H0:d7)(w0:aa3)(lo:Nat)(a6:lo<=H0.n)(S:∀j,O j->j<H0.n/\¬j8 w0 j) (ta:Option Addr) (tc:Nat) (ts:List aa2) (X:SlF H0 O 1 (y7 stE) (.slice ta ts.length tc) ts) (a7:ts.length<=100000) (z:List EvD) (a2:z.length<=10000000):
  ∀kk e H2,(∃(i:Nat)(w:aa3)(h:List EvD)(G:Nat->Prop),kk=ts.length-i/\i<=ts.length/\e.g 5=w/\e.g 15= .slice ta ts.length tc/\e.g 16=iV i/\Buf 5 EvF lo O H0 w0 G H2 w h/\h++(ts.drop i).map dY=z)->
  u7 (LE prog l7 (.loop Vf) e H2) (fun o e H2=>o= .exit 8/\∃(w:aa3)(G:Nat->Prop),e.g 5=w/\Buf 5 EvF lo O H0 w0 G H2 w z):=by
 refine i5 _ _ ?_;rintro kk e H2 ⟨i,w,h,G,a4,hi,f5,u,E,B,I⟩;have B0:=fun j hj=>B.g S j hj;have nx:=B.n;rcases b:decide ((i:Int)<ts.length)with _|_
 .have W:=dF b;have:ts.drop i=[]:=dN oM;rw[this,XV,su]at I;subst I;refine J3 u E b ?_;exact i6 ⟨rfl,w,G,f5,B⟩
 have W:=dT b;obtain⟨v,nb,o,cs,own,el,hx,hd,rfl,hF,hg,a5,a3,hc,rfl⟩:=X.row (i:=i) oM;have a1:(i:Int).toNat=i:=tN i;have g2:=(B0 _ hF).trans hg;rw[hd,xC,ZH]at I;have D:=hc 0 oM;rw[ly]at D;obtain⟨w6,h6,H6,U,J,B6⟩:=B.push (P:=prog) (t:=22) A3 (by exact gV.2.2.2.2.2.2) Q9.1 Q9.2.1 Q9.2.2.1 oM oM (cs:=[iV 2,.string eB,.string eB,nS,.string v]) (a:=dY v) rfl ⟨nS,rfl,.inl ⟨rfl,rfl⟩⟩ (by have:=congrArg List.length I;simp at this;omega) oM;refine J10 f5 u E b g2 a1 D U J @wrap_small ?_;exact d8 (kk-1) oM ⟨i+1,w6,h++[dY v],G,oM,oM,rfl,u,rfl,B6,I⟩
mutual
def eZ:∀(f:Bool)(q:Q),(fsQ f q).length<=nQ q
 |f,.mk o s c v a b=>by
  have h1:=mX f a;have h2:=mX (!f) b;rw[fsQ,nQ,dx,dx];split<;>simp<;>omega
def mX:∀(f:Bool)(l:List Q),(fsL f l).length<=nL l
 |_,[]=>by simp [fsL]
 |f,x::l=>by
  have h1:=eZ f x;have h2:=mX f l;rw[fsL,nL,dx];omega
end
def nZ(q:Q):(spQ q).names.length<=nQ q/\(spQ q).attrs.length<=nQ q/\(spQ q).vals.length=(spQ q).attrs.length/\(∀x∈(spQ q).vals,x.length<=nQ q)/\(spQ q).texts.length<=nQ q:=by
 have h:=eZ false q;refine⟨?_,?_,by simp [spQ],?_,?_⟩
 .have:=dU (bH 4 4) qNm P0 (fsQ false q) [];simp [spQ,X3]at this ⊢;omega
 .have:=dU (bH 5 6) qNm P0 (fsQ false q) [];simp [spQ,X3]at this ⊢;omega
 .intro x u;simp only[spQ,wC]at u;obtain⟨n,_,rfl⟩:=u;have:=dU (eG 6 n) Q.vl dP (fsQ false q) [];simp [T4]at this ⊢;omega
 .have:=dU (eG 7 (eB,eB)) Q.vl dP (fsQ false q) [];simp [spQ,T4]at this ⊢;omega
def Ui(H:d7)(s:SpD)(w:aa3)(H1:d7):Prop:=∃v er,w= .tuple #[v,iV er]/\((Y4 s=none/\v=nS/\er=13)\/∃l,Y4 s=some l/\er=0/\SlF H1 (· <H1.n) 5 (EvF H1 (· <H1.n)) v l)/\d9 H.n H H1
def DK(H:d7)(lo k:Nat)(cs:LV)(q:Q)(h5:lo<=H.n)(hr:QR H lo k false cs q)(e9:OkD false q)(g1:nQ q<=1000):
  Ret (CL prog l7 49 [.agg cs.toArray] H) H (Ui H (spQ q)):=by
 obtain⟨f2,f1,d1,S,f3⟩:=nZ q;obtain⟨s,hs⟩:=eY (spQ q);rw[<-hs]at f2 f1 d1 S f3 ⊢;have a0:cs.all oC=true:=by
  cases k with
  |zero=>exact hr.elim
  |succ k=>obtain⟨_,_,_,_,rfl,_⟩:=hr.path;rfl
 have f4:ldC (some true) (some 3) 0 cs=some (.agg cs.toArray):=by
  cases k with
  |zero=>exact hr.elim
  |succ k=>obtain⟨_,_,_,_,rfl,_⟩:=hr.path;rfl
 obtain⟨H1,b6,-,hg,hS⟩:=pushF H (bC cs 1);have c8:H.n<=H1.low:=by rw[b6,l9];exact lR
 have n1:=hS.n;have h8:=u6 hg;obtain⟨v2,h2,H2,e6,c3,g6,rfl,c0,s2⟩:=Iy H1 lo k cs q oM (hr.mono (fun j u=>hS.g j oM) lR) e9 (oN (eZ false q));have n2:=s2.n;rw[<-hs]at c0;obtain⟨v1,va,vb,v4,rfl,a5,d2,d3,a6⟩:=c0;obtain⟨aa,ac,rfl⟩:=d2.slice;obtain⟨ba,bc,rfl⟩:=d3.slice;obtain⟨na,nc,rfl⟩:=a5.slice;obtain⟨ta,tc,rfl⟩:=a6.slice;obtain⟨K0,d4,m0,b0,t0⟩:=pushP H2 (bC [nS,nS,nS,nS] 1) (bC [.slice na s.names.length nc,.slice aa s.attrs.length ac,.slice ba s.vals.length bc,.slice ta s.texts.length tc] 1);obtain⟨K1,b7,m1,-,t1⟩:=pushE K0 (bC [] 2);have q1:∀j,j<H2.n->K1.g j=H2.g j:=fun j u=>by rw[t1.g j oM,t0.g j u]
 have b1:=(t1.g _ oM).trans b0;have d5:u5 K1 K0.n 2 (y7 nmE) (sL K0.n 0 0) []:=by rw[b7];exact u5.fresh rfl lR F1.nil
 obtain⟨w2,g8,K2,e1,a4,X,t2⟩:=d5.append (P:=prog) (t:=101) (n:=H2.n) (by exact ot.2.2.2.2.2.2) gW.1 gW.2.1 gW.2.2.1 oM oM (a5.mono q1 lR iF) (by simp;omega) oM;rw[sB]at X;have m2:=t2.n;have b2:=(t2.g _ oM).trans b1;have q2:∀j,j<H2.n->K2.g j=H2.g j:=fun j u=>by rw[t2.g j oM,q1 j u]
 have e8:=Iw K2 H2.n (.slice na s.names.length nc) s.names oM (a5.mono q2 lR iF) oM;obtain⟨w4,h4,E,e2,c4,a1,W⟩:=X.push1F (P:=prog) (t:=101) (cs:=nmE (zNm (V6 s.names))) (a:=zNm (V6 s.names)) (by exact ot.2.2.2.2.2.2) gW.1 gW.2.1 gW.2.2.1 oM oM rfl rfl oM oM;have m4:=W.n;have t4:d9 H2.n H2 E:=(t0.trans (t1.wk oM)).trans ((t2.wk oM).trans (W.stay.wk oM));have b4:E.g H2.n=_:=(W.but _ oM (fun q=>by have:=X.lt q;omega)).trans b2;have q4:∀j,j<H2.n->E.g j=H2.g j:=fun j u=>t4.g j u;rw[i7 GV rfl _ sM];refine J16 a0 b6.symm hg f4 e6 c3 d4.symm b0 b7.symm b1 e1 a4 b2 e8 e2 c4 ?_;obtain⟨f5,f6,a7⟩:=a1.slice;have h6:(s.names++[zNm (V6 s.names)]).length=s.names.length+1:=sM;have f0:d9 H.n H E:=(hS.trans (s2.wk oM)).trans (t4.wk oM);have c7:H.n<=E.low:=((s2.wk oM).trans (t4.wk oM)).low c8;have f9:∀x∈s.vals,x.length<=10000:=fun x hx=>oN (S x hx);refine i8 (F:=fun z=>Ret (t6 _ _ _ (t7 (inBlock 0 z) _)) _ _) (Ze (· <E.n) E H2.n (fun _ h=>h) s _ _ aa ac ba bc d1 b4 (by show _<_;omega) (d2.mono q4 (show H2.n<=E.n from oM) iF) (SlI.slF (d3.mono q4 (show H2.n<=E.n from oM) (fun _ _ h=>h.mono q4 (fun j u=>oM)))) oM f9 f5 f6 _ (by rw[<-a7];exact a1.frz fun b hb=>(a1.lt hb).2) oM (jc s (s.names++[zNm (V6 s.names)]) []) (s.names++[zNm (V6 s.names)]).length _ _ ⟨0,_,[],_,rfl,oM,rfl,rfl,a7,rfl,Buf.start (fun j u=>⟨u,C6 j⟩) u5.nil,by simp,rfl⟩) ?_;rintro o' e' O (⟨ho,g4,w,I,G,J,g0,g5,B⟩|⟨s5,ho,J,g2,g3⟩)
 .have n5:=B.n;have s5:d9 E.n E O:=B.gr.stay;have b5:=(s5.g _ oM).trans b4;have q5:∀j,j<H2.n->O.g j=H2.g j:=fun j u=>by rw[s5.g j oM,q4 j u]
  obtain⟨L1,b8,l1,-,u1⟩:=pushE O (bC [] 1);have c1:=(u1.g _ oM).trans b5;have r1:∀j,j<H2.n->L1.g j=H2.g j:=fun j u=>by rw[u1.g j oM,q5 j u]
  have d6:u5 L1 O.n 1 (y7 stE) (sL O.n 0 0) []:=by rw[b8];exact u5.fresh rfl lR F1.nil
  obtain⟨x2,g9,L2,e3,c5,b9,u2⟩:=d6.append (P:=prog) (t:=103) (n:=H2.n) (by exact X6.2.2.2.2.2.2) ty9.1 ty9.2.1 ty9.2.2.1 oM oM (a6.mono r1 lR iF) (by simp;omega) oM;rw[sB]at b9;have l2:=u2.n;have c2:=(u2.g _ oM).trans c1;have r2:∀j,j<H2.n->L2.g j=H2.g j:=fun j u=>by rw[u2.g j oM,r1 j u]
  have c9:=nO L2 H2.n (.slice ta s.texts.length tc) s.texts oM (a6.mono r2 lR iF) oM;obtain⟨x4,h0,L4,e4,c6,a2,a9⟩:=b9.push1F (P:=prog) (t:=103) (cs:=[.string (dg (X5 s.texts))]) (a:=dg (X5 s.texts)) (by exact X6.2.2.2.2.2.2) ty9.1 ty9.2.1 ty9.2.2.1 oM oM rfl rfl oM oM;have l4:=a9.n;have u4:d9 O.n O L4:=(u1.trans u2).trans a9.stay;have B4:=B.stay A3 u4 n5;obtain⟨f7,f8,a8⟩:=a2.slice;have h7:(s.texts++[dg (X5 s.texts)]).length=s.texts.length+1:=sM;refine J11 ho g4 b5 b8.symm c1 e3 c5 c2 c9 e4 c6 ?_;refine i8 (F:=fun z=>Ret (t6 _ _ _ (t7 (inBlock 8 z) _)) _ _) (Zf (pls G O L4) L4 w E.n oM B4.lt f7 f8 (s.texts++[dg (X5 s.texts)]) (by rw[<-a8];exact a2.frz fun b hb=> .inr (a2.lt hb)) oM (I++(s.texts++[dg (X5 s.texts)]).map dY) (by rw[dx,ED];omega) (s.texts++[dg (X5 s.texts)]).length _ _ ⟨0,w,I,_,rfl,oM,g5,a8,rfl,Buf.start B4.lt B4.own,rfl⟩) ?_;rintro h9 g7 H6 ⟨d0,w6,G6,k5,U⟩;have B7:=B4.trans U;have n6:=B7.n;have s6:d9 H.n H H6:=f0.trans (B7.gr.stay.wk oM);have e7:H.n<=H6.low:=(B7.gr.stay.wk oM).low c7;obtain⟨wa,wc,ew⟩:=U.own.slice;have a3:=U.frz A3;rw[ew]at k5 a3;have D:Y4 s=if(I++(s.texts++[dg (X5 s.texts)]).map dY).length>24 then none else some (I++(s.texts++[dg (X5 s.texts)]).map dY):=by rw[Y4,J]
  rcases b3:decide ((24:Int)<((I++(s.texts++[dg (X5 s.texts)]).map dY).length:Nat))with _|_
  .have e5:=dF b3;rw[bt oM]at D;refine J3 d0 k5 b3 ?_;refine cn (fun hc=>?_) ⟨_,_,rfl,.inr ⟨_,D,rfl,SlF.mono a3 (fun _ _=>rfl) (fun j u=>?_) (fun _ _ h=>A3 _ _ _ _ _ _ h (fun _ _=>rfl) fun j u=>?_)⟩,s6.ret e7⟩
   .rcases a3 with⟨h1,h2⟩|⟨b,o,c,h,_⟩
    .exact⟨_,_,rfl,.inr ⟨_,D,rfl,.inl ⟨h1,h2⟩⟩,d9.refl _ _⟩
    .rw[h]at hc;cases hc
   .rcases u with u|u
    .exact(U.lt j u).1
    .rw[<-ew]at u;exact(U.own.lt u).2
   .rcases u with u|u
    .exact(U.lt j u).1
    .rw[<-ew]at u;exact(U.own.lt u).2
  .have e5:=dT b3;rw[bJ oM]at D;refine J3 d0 k5 b3 ?_;exact⟨_,none,H,rfl,rfl,_,_,rfl,.inl ⟨D,rfl,rfl⟩,d9.refl _ _⟩
 .have D:Y4 s=none:=by rw[Y4,J]
  have h3:=(s5.wk (show H.n<=E.n from oM)).low c7;refine J3 ho g2 g3 ?_;exact⟨_,none,H,rfl,rfl,_,_,rfl,.inl ⟨D,rfl,rfl⟩,d9.refl _ _⟩
def ye(q:Q):Bool:=decide (A5 (C7 q).progs<=24)&&decide ((C9 q).st<=24)&&(match Y4 (spQ q)with|none=>true|some l=>decide (l.length<=14))
def BA(q:Q):(C7 q).main=C9 q:=by
 have:∀(l:List Q)(s:StD),(l.foldl L0 s).main=s.main:=by
  intro l;induction l with
  |nil=>intro s;rfl
  |cons x l h=>
   intro s;rw[sd,h,L0];split<;>rfl
 rw[C7,this]
def oh(q:Q)(I:OkD false q):(C7 q).progs.length=(C7 q).paths.length/\(C7 q).base.length=(C7 q).paths.length/\(C7 q).paths.length<=nQ q/\∀p∈(C7 q).progs,0<=p.st/\p.st<=2*nQ q:=by
 obtain⟨z,h⟩:=eA _ false q lR I;have:∀(l:List Q)(s:StD),(∀x∈l,nQ x<=nQ q)->s.progs.length=s.paths.length->s.base.length=s.paths.length->(∀p∈s.progs,0<=p.st/\p.st<=2*nQ q)->(l.foldl L0 s).progs.length=(l.foldl L0 s).paths.length/\(l.foldl L0 s).base.length=(l.foldl L0 s).paths.length/\(l.foldl L0 s).paths.length<=s.paths.length+l.length/\∀p∈(l.foldl L0 s).progs,0<=p.st/\p.st<=2*nQ q:=by
  intro l;induction l with
  |nil=>intro s z h D E;exact⟨h,D,by simp,E⟩
  |cons x l S=>
   intro s z h D E;have U:=gY x;have J:=z x sM;rw[sd];have key:(L0 s x).progs.length=(L0 s x).paths.length/\(L0 s x).base.length=(L0 s x).paths.length/\(L0 s x).paths.length<=s.paths.length+1/\∀p∈(L0 s x).progs,0<=p.st/\p.st<=2*nQ q:=by
    rw[L0];split
    .exact⟨h,D,oM,E⟩
    .refine⟨by simp [h],by simp [D],by simp,fun p u=>?_⟩;rcases gd.1 u with u|u
     .exact E p u
     .have:p=C9 x:=by simpa using u
      subst this;omega
   have:=S (L0 s x) (fun y O=>z y (by simp [O])) key.1 key.2.1 key.2.2.2;rw[kO];exact⟨this.1,this.2.1,oM,this.2.2.2⟩
 have:=this (inQ false q) ⟨[],[],[],C9 q⟩ (fun x J=>(h x J).2) rfl rfl sM;rw[<-C7]at this;exact⟨this.1,this.2.1,by have:=this.2.2.1;simp at this;omega,this.2.2.2⟩
def DL(H:d7)(lo k:Nat)(cs:LV)(q:Q)(b4:lo<=H.n)(hr:QR H lo k false cs q)(a5:OkD false q)(a4:nQ q<=1000):
  CL prog l7 32 [.agg cs.toArray] H=some (.bool (ye q),none):=by
 have a0:cs.all oC=true:=by
  cases k with
  |zero=>exact hr.elim
  |succ k=>obtain⟨_,_,_,_,rfl,_⟩:=hr.path;rfl
 have W:ldC (some true) (some 3) 0 cs=some (.agg cs.toArray):=by
  cases k with
  |zero=>exact hr.elim
  |succ k=>obtain⟨_,_,_,_,rfl,_⟩:=hr.path;rfl
 obtain⟨H1,E,-,hg,hS⟩:=pushF H (bC cs 1);have a9:H.n<=H1.low:=by rw[E,l9];exact lR
 have n1:=hS.n;have b5:=u6 hg;obtain⟨v2,h2,H2,O,z,u,rfl,a6,s2⟩:=Iz k H1 lo (fun _ _=>True) cs q oM (hr.mono (fun j hj=>hS.g j oM) lR) (fun _ _ _ _ _=>trivial) a5 a4;have n2:=s2.n;obtain⟨pa,pc,ga,gc,ba,bc,ea,ec,ta,tc,a3,_⟩:=I0 a6;have l8:u.length=8:=by rw[a3];rfl
 have a8:u.all oC=true:=by rw[a3];rfl
 have X:ldC (some true) (some 8) 0 u=some (.agg u.toArray):=by rw[a3];rfl
 have a2:u[3]?=some (.int .i64 (C7 q).main.st):=by rw[a3];rfl
 rw[BA]at a2;obtain⟨H3,J,n3,g3,s3⟩:=pushP H2 (bC z8 1) (bC u 1);have a1:splice z8 0 u=u:=A0 _ _ (by rw[l8];rfl);have I:H3.g H.n=cE cs 1:=by rw[s3.g _ oM,s2.g _ oM];exact hg
 obtain⟨v4,h4,H4,S,D,lv,er,rfl,a7,s4⟩:=DK H3 lo k cs q oM (hr.mono (fun j hj=>by rw[s3.g j oM,s2.g j oM,hS.g j oM]) lR) a5 a4;have n4:=s4.n;have g4:H4.g H2.n=cE u 1:=(s4.g _ oM).trans g3;obtain⟨p1,p2,p3,p4⟩:=oh q a5;have U:=wE H4 (fun j=>H1.n<=j/\j<H2.n) (QR H1 lo k false) (fun _ _=>True) u (C7 q) (fun j hj=>oM) (a6.mono (fun j hj=>by rw[s4.g j oM,s3.g j oM]) (fun _ h=>h) iF iF) oM (fun p hp=>by have:=p4 p hp;omega);have b3:H.n<=H4.low:=((s2.wk (show H.n<=H1.n from oM)).trans ((s3.wk oM).trans (s4.wk oM))).low a9;rw[i7 YA rfl _ sM,ye];rcases a7 with⟨h1,rfl,rfl⟩|⟨l,h1,rfl,hl⟩
 .rw[h1];rcases b1:decide (A5 (C7 q).progs<=24)with _|_
  .exact J17 a0 E.symm hg W O z a8 l8 a1 J.symm I S D g4 X U b1 trivial
  rcases b2:decide ((C9 q).st<=24)with _|_
  .exact J19 a0 E.symm hg W O z a8 l8 a1 J.symm I S D g4 X U a2 b1 b2 trivial
  .exact J19 a0 E.symm hg W O z a8 l8 a1 J.symm I S D g4 X U a2 b1 b2 trivial
 .rw[h1];obtain⟨la,lc,rfl⟩:=hl.slice;have b0:decide ((l.length:Int)<=14)=decide (l.length<=14):=wG.2 oM;rcases b1:decide (A5 (C7 q).progs<=24)with _|_
  .exact J17 a0 E.symm hg W O z a8 l8 a1 J.symm I S D g4 X U b1 trivial
  rcases b2:decide ((C9 q).st<=24)with _|_
  .exact J19 a0 E.symm hg W O z a8 l8 a1 J.symm I S D g4 X U a2 b1 b2 trivial
  .exact J20 a0 E.symm hg W O z a8 l8 a1 J.symm I S D g4 X U a2 b1 b2 b0 trivial
end Go.Proofs.YtjlpdddmmnijoaaGreatDoor.Ve
