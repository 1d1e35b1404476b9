/- A part of the claim: the evaluator and the contracts. Conditions: none here. -/
import Derived.Test.YtofbhlhamfkljaaGreatDoorPb
import Derived.Test.YtofbhlhamfkljaaGreatDoorCards
import Derived.Test.YtofbhlhamfkljaaGreatDoorTie
import Derived.WalkKit
import Derived.ProofKit
import Derived.OpenShut
import Derived.JoinedCond
import Derived.ChangeOld
import Derived.Below
import Derived.Deep.DeepHandedRow
import Derived.Lib.LaidTab
set_option linter.unusedVariables false
set_option linter.unusedSimpArgs false
set_option linter.defProp false
set_option maxHeartbeats 0
set_option maxRecDepth 1000000
namespace Go.Proofs.YtofbhlhamfkljaaGreatDoor.Ve
open Go Go.RowKit
open Go.Proofs.Tryz (prog)
def bQ(fn:Nat)(f:Bool)(k:Nat):Prop:=∀(H:N7)(lo:Nat)(cs:LV)(q:Q)(m:Int),lo<=H.next->QR H lo k f cs q->0<=m->m<=64->CL prog t6 fn [.agg cs.toArray,iV m] H=some (.int .i64 (szQ q m),none)
theorem IQ(k:Nat)(ih:bQ 77 false k)(H0:N7)(lo:Nat)(va:Option Addr)(ca:Nat)(l:List Q)(a3:lo<=H0.next)(hv:QsR H0 lo k false (.slice va l.length ca) l)(hn:l.length<=1048576)(U:Nat)(cl:LV)(X:H0.get U=cE cl 1)(hc:cl[1]?=some (.slice va l.length ca))(m:Int)(a6:0<=m)(hm:m<=64)(r:Int):
  ∀kk e H2,(∃(i:Nat)(n:Int),kk=l.length-i/\i<=l.length/\1<=n/\n<=m+1/\e.get 1=iV m/\e.get 2=pT U/\e.get 5=iV n/\e.get 6=iV i/\H2=H0/\szL (l.drop i) n m=r)->
  w7 (LE prog t6 (.loop Oa) e H2) (fun o e H2=>H2=H0/\o= .exit 0/\e.get 1=iV m/\e.get 2=pT U/\e.get 5=iV r):=by
 refine i8 _ _ ?_;rintro kk e H2 ⟨i,n,hk,hi,a7,a8,E,z,S,W,hH,D⟩;subst hH;rcases b:decide ((i:Int)<l.length)with _|_
 .have a1:=dF b;have:l.drop i=[]:=dN oM;rw[this,szL]at D;refine J5 z W X hc b ?_;exact i9 ⟨rfl,rfl,E,z,by rw[<-D];exact S⟩
 have a1:=dT b;rcases O:decide (n<=m)with _|_
 .have J:=dF O;rw[jP _ _ _ oM]at D;refine J8 E z S W X hc b O ?_;exact i9 ⟨rfl,rfl,E,z,by rw[<-D];exact S⟩
 have J:=dT O;obtain⟨x,nb,o,cs,own,el,hx,hd,rfl,a5,hg,a4,u,hr⟩:=hv.row (i:=i) oM;have nt:(i:Int).toNat=i:=tN i;have hs:=kA x (m-n) oM;rw[hd,szL,if_pos J]at D;simp only[qSz,if_true,bF]at u hg;have a2:=ih H2 lo el x (m-n) a3 hr oM oM;refine J13 E z S W X hc b O hg nt u @wrap_small a2 ?_;refine i4 (kk-1) oM ⟨i+1,n+szQ x (m-n),oM,oM,oM,oM,E,z,rfl,rfl,rfl,D⟩
theorem IR(k:Nat)(ih:bQ 99 true k)(H0:N7)(lo:Nat)(va:Option Addr)(ca:Nat)(l:List Q)(a3:lo<=H0.next)(hv:QsR H0 lo k true (.slice va l.length ca) l)(hn:l.length<=1048576)(U:Nat)(cl:LV)(X:H0.get U=cE cl 1)(hc:cl[2]?=some (.slice va l.length ca))(m:Int)(a6:0<=m)(hm:m<=64)(r:Int):
  ∀kk e H2,(∃(i:Nat)(n:Int),kk=l.length-i/\i<=l.length/\1<=n/\n<=m+1/\e.get 1=iV m/\e.get 2=pT U/\e.get 5=iV n/\e.get 7=iV i/\H2=H0/\szL (l.drop i) n m=r)->
  w7 (LE prog t6 (.loop Ob) e H2) (fun o e H2=>H2=H0/\o= .exit 2/\e.get 1=iV m/\e.get 2=pT U/\e.get 5=iV r):=by
 refine i8 _ _ ?_;rintro kk e H2 ⟨i,n,hk,hi,a7,a8,E,z,S,W,hH,D⟩;subst hH;rcases b:decide ((i:Int)<l.length)with _|_
 .have a1:=dF b;have:l.drop i=[]:=dN oM;rw[this,szL]at D;refine J5 z W X hc b ?_;exact i9 ⟨rfl,rfl,E,z,by rw[<-D];exact S⟩
 have a1:=dT b;rcases O:decide (n<=m)with _|_
 .have J:=dF O;rw[jP _ _ _ oM]at D;refine J8 E z S W X hc b O ?_;exact i9 ⟨rfl,rfl,E,z,by rw[<-D];exact S⟩
 have J:=dT O;obtain⟨x,nb,o,cs,own,el,hx,hd,rfl,a5,hg,a4,u,hr⟩:=hv.row (i:=i) oM;have nt:(i:Int).toNat=i:=tN i;have hs:=kA x (m-n) oM;rw[hd,szL,if_pos J]at D;simp only[qSz,if_true,bF]at u hg;have a2:=ih H2 lo el x (m-n) a3 hr oM oM;refine J13 E z S W X hc b O hg nt u @wrap_small a2 ?_;refine i4 (kk-1) oM ⟨i+1,n+szQ x (m-n),oM,oM,oM,oM,E,z,rfl,rfl,rfl,D⟩
theorem IS(k:Nat)(ih:bQ 99 true k)(H0:N7)(lo:Nat)(va:Option Addr)(ca:Nat)(l:List Q)(a3:lo<=H0.next)(hv:QsR H0 lo k true (.slice va l.length ca) l)(hn:l.length<=1048576)(U:Nat)(cl:LV)(X:H0.get U=cE cl 1)(hc:cl[4]?=some (.slice va l.length ca))(m:Int)(a6:0<=m)(hm:m<=64)(r:Int):
  ∀kk e H2,(∃(i:Nat)(n:Int),kk=l.length-i/\i<=l.length/\1<=n/\n<=m+1/\e.get 1=iV m/\e.get 2=pT U/\e.get 5=iV n/\e.get 6=iV i/\H2=H0/\szL (l.drop i) n m=r)->
  w7 (LE prog t6 (.loop Oz) e H2) (fun o e H2=>H2=H0/\o= .exit 0/\e.get 1=iV m/\e.get 2=pT U/\e.get 5=iV r):=by
 refine i8 _ _ ?_;rintro kk e H2 ⟨i,n,hk,hi,a7,a8,E,z,S,W,hH,D⟩;subst hH;rcases b:decide ((i:Int)<l.length)with _|_
 .have a1:=dF b;have:l.drop i=[]:=dN oM;rw[this,szL]at D;refine J5 z W X hc b ?_;exact i9 ⟨rfl,rfl,E,z,by rw[<-D];exact S⟩
 have a1:=dT b;rcases O:decide (n<=m)with _|_
 .have J:=dF O;rw[jP _ _ _ oM]at D;refine J8 E z S W X hc b O ?_;exact i9 ⟨rfl,rfl,E,z,by rw[<-D];exact S⟩
 have J:=dT O;obtain⟨x,nb,o,cs,own,el,hx,hd,rfl,a5,hg,a4,u,hr⟩:=hv.row (i:=i) oM;have nt:(i:Int).toNat=i:=tN i;have hs:=kA x (m-n) oM;rw[hd,szL,if_pos J]at D;simp only[qSz,if_true,bF]at u hg;have a2:=ih H2 lo el x (m-n) a3 hr oM oM;refine J13 E z S W X hc b O hg nt u @wrap_small a2 ?_;refine i4 (kk-1) oM ⟨i+1,n+szQ x (m-n),oM,oM,oM,oM,E,z,rfl,rfl,rfl,D⟩
theorem IT(k:Nat)(ih:bQ 77 false k)(H0:N7)(lo:Nat)(va:Option Addr)(ca:Nat)(l:List Q)(a3:lo<=H0.next)(hv:QsR H0 lo k false (.slice va l.length ca) l)(hn:l.length<=1048576)(U:Nat)(cl:LV)(X:H0.get U=cE cl 1)(hc:cl[5]?=some (.slice va l.length ca))(m:Int)(a6:0<=m)(hm:m<=64)(r:Int):
  ∀kk e H2,(∃(i:Nat)(n:Int),kk=l.length-i/\i<=l.length/\1<=n/\n<=m+1/\e.get 1=iV m/\e.get 2=pT U/\e.get 5=iV n/\e.get 7=iV i/\H2=H0/\szL (l.drop i) n m=r)->
  w7 (LE prog t6 (.loop OA) e H2) (fun o e H2=>H2=H0/\o= .exit 2/\e.get 1=iV m/\e.get 2=pT U/\e.get 5=iV r):=by
 refine i8 _ _ ?_;rintro kk e H2 ⟨i,n,hk,hi,a7,a8,E,z,S,W,hH,D⟩;subst hH;rcases b:decide ((i:Int)<l.length)with _|_
 .have a1:=dF b;have:l.drop i=[]:=dN oM;rw[this,szL]at D;refine J5 z W X hc b ?_;exact i9 ⟨rfl,rfl,E,z,by rw[<-D];exact S⟩
 have a1:=dT b;rcases O:decide (n<=m)with _|_
 .have J:=dF O;rw[jP _ _ _ oM]at D;refine J8 E z S W X hc b O ?_;exact i9 ⟨rfl,rfl,E,z,by rw[<-D];exact S⟩
 have J:=dT O;obtain⟨x,nb,o,cs,own,el,hx,hd,rfl,a5,hg,a4,u,hr⟩:=hv.row (i:=i) oM;have nt:(i:Int).toNat=i:=tN i;have hs:=kA x (m-n) oM;rw[hd,szL,if_pos J]at D;simp only[qSz,if_true,bF]at u hg;have a2:=ih H2 lo el x (m-n) a3 hr oM oM;refine J13 E z S W X hc b O hg nt u @wrap_small a2 ?_;refine i4 (kk-1) oM ⟨i+1,n+szQ x (m-n),oM,oM,oM,oM,E,z,rfl,rfl,rfl,D⟩
theorem Mz(k:Nat)(a1:bQ 77 false k)(a2:bQ 99 (!false) k):bQ 77 false (k+1):=by
 intro H lo cs q m a4 hr u hm;obtain⟨va,ca,wa,D,rfl,h1,h2,h3,h4⟩:=hr.path;rw[j7 KY rfl _ sM,FT];obtain⟨J,E,-,hg,X⟩:=pushF H (bC [iV q.op,.slice va q.a.length ca,.slice wa q.b.length D] 1);have a3:H.next<=J.low:=by rw[E,l9];exact lR
 have hn:=X.next;have S:=h1.mono (H':=J) (fun j hj=>X.get j oM) lR;have U:=h2.mono (H':=J) (fun j hj=>X.get j oM) lR;have hz:=oV q.a 1 m oM oM u;refine J1 E.symm ?_;refine j8 (F:=fun z=>u5 _ _ _ (u9 (inBlock 0 z) _)=_) (IQ k a1 J lo va ca q.a oM S h3 H.next _ hg rfl m u hm (szL q.a 1 m) q.a.length _ _ ⟨0,1,rfl,oM,oM,oM,rfl,rfl,rfl,rfl,rfl,rfl⟩) ?_;rintro o e' H' ⟨W,ho,g1,g2,O⟩;subst W;refine J1 ho ?_;refine j8 (F:=fun z=>u5 _ _ _ (u9 (inBlock 2 z) _)=_) (IR k a2 H' lo wa D q.b oM U h4 H.next _ hg rfl m u hm (szL q.b (szL q.a 1 m) m) q.b.length _ _ ⟨0,szL q.a 1 m,rfl,oM,hz.1,hz.2,g1,g2,O,rfl,rfl,rfl⟩) ?_;rintro o e' H2 ⟨W,ho,g1,g2,O⟩;exact J3 ho O W trivial
theorem MA(k:Nat)(a1:bQ 99 true k)(a2:bQ 77 (!true) k):bQ 99 true (k+1):=by
 intro H lo cs q m a4 hr u hm;obtain⟨va,ca,wa,D,rfl,h1,h2,h3,h4,_⟩:=hr.filter;rw[j7 Lf rfl _ sM,FT];obtain⟨J,E,-,hg,X⟩:=pushF H (bC [iV q.op,.string q.sp,.string q.lc,.string q.vl,.slice va q.a.length ca,.slice wa q.b.length D] 1);have a3:H.next<=J.low:=by rw[E,l9];exact lR
 have hn:=X.next;have S:=h1.mono (H':=J) (fun j hj=>X.get j oM) lR;have U:=h2.mono (H':=J) (fun j hj=>X.get j oM) lR;have hz:=oV q.a 1 m oM oM u;refine J1 E.symm ?_;refine j8 (F:=fun z=>u5 _ _ _ (u9 (inBlock 0 z) _)=_) (IS k a1 J lo va ca q.a oM S h3 H.next _ hg rfl m u hm (szL q.a 1 m) q.a.length _ _ ⟨0,1,rfl,oM,oM,oM,rfl,rfl,rfl,rfl,rfl,rfl⟩) ?_;rintro o e' H' ⟨W,ho,g1,g2,O⟩;subst W;refine J1 ho ?_;refine j8 (F:=fun z=>u5 _ _ _ (u9 (inBlock 2 z) _)=_) (IT k a2 H' lo wa D q.b oM U h4 H.next _ hg rfl m u hm (szL q.b (szL q.a 1 m) m) q.b.length _ _ ⟨0,szL q.a 1 m,rfl,oM,hz.1,hz.2,g1,g2,O,rfl,rfl,rfl⟩) ?_;rintro o e' H2 ⟨W,ho,g1,g2,O⟩;exact J3 ho O W trivial
theorem FM:∀k,bQ 77 false k/\bQ 99 true k:=by
 intro k;induction k with
 |zero=>exact⟨fun H lo cs q m z D=>D.elim,fun H lo cs q m z D=>D.elim⟩
 |succ k u=>exact⟨Mz k u.1 u.2,MA k u.2 u.1⟩
theorem Fy(H:N7)(lo k:Nat)(cs:LV)(q:Q)(a2:lo<=H.next)(J:QR H lo k false cs q):CL prog t6 50 [.agg cs.toArray] H=some (.int .i64 (szQ q 64),none):=by
 cases k with
 |zero=>exact J.elim
 |succ k=>
 have O:=J;obtain⟨U,ca,W,u,rfl,h1,h2,h3,h4⟩:=J.path;obtain⟨E,z,-,hg,X⟩:=pushF H (bC [iV q.op,.slice U q.a.length ca,.slice W q.b.length u] 1);have a1:H.next<=E.low:=by rw[z,l9];exact lR
 have hn:=X.next;have D:ldC (some true) (some 3) 0 [iV q.op,.slice U q.a.length ca,.slice W q.b.length u]=some (.agg [iV q.op,.slice U q.a.length ca,.slice W q.b.length u].toArray):=rfl;have S:QR E lo (k+1) false _ q:=O.mono (fun j hj=>X.get j oM) lR;have c1:=(FM (k+1)).1 E lo _ q 64 oM S oM oM;rw[j7 QN rfl _ sM];exact J4 z.symm hg D c1 trivial
theorem yA{S:List Blk}{sz:Nat}{α:Type}{R u:LV->α->Prop}{v:Value}{l:List α}(h:Sl S sz R v l)(J:∀cs a,R cs a->u cs a):SlI ⟨S,S.length⟩ S.length sz u v l:=by
 rcases h with h|⟨b,o,U,h⟩
 .exact .inl h
 .refine .inr ⟨b,o,_,U,?_⟩;rcases h with h|⟨c,z,D,E⟩
  .exact .inl h
  .exact .inr ⟨c,false,(gS z).1,z,D,fun i a O=>J _ _ (E i a O)⟩
theorem iZ(k:Nat):N2 prog k 9 (fun _ cs(s:ByteArray)=>cs=[.string s]/\s.size<=1048576):=pj Tryz.underlying9
theorem rg(k:Nat):N2 prog k 3 (fun _ cs(n:Int)=>cs=[iV n]/\(Lit.int .i64 n).wf=true):=wd Tryz.underlying3
def NmR(cs:LV)(x:ByteArray×ByteArray):Prop:=cs=[.string x.1,.string x.2]/\x.1.size<=1048576/\x.2.size<=1048576
theorem mt(k:Nat):N2 prog (k+1) 48 (fun _ cs x=>NmR cs x):=by
 have h:=X1 (P:=prog) (t:=48) Tryz.underlying48 kR (D0 (k:=1) rfl kR (iZ k) (D0 (k:=1) rfl kR (iZ k) (bL _)));refine h.map (fun x=>(x.1,x.2.1)) ?_ (fun _ _ _ _ _ h=>h);rintro S cs ⟨a,b,u⟩ ⟨c1,c2,rfl,⟨rfl,z⟩,E,J,rfl,⟨rfl,D⟩,rfl⟩;exact⟨rfl,z,D⟩
def QG(S:List Blk):Nat->Bool->LV->Q->Prop
 |0,_,_,_=>False
 |k+1,f,cs,q=>∃v w,cs=(if f then [iV q.op,.string q.sp,.string q.lc,.string q.vl,v,w] else [iV q.op,v,w])/\
   Sl S (qSz f) (QG S k f) v q.a/\Sl S (qSz !f) (QG S k !f) w q.b/\q.a.length<=1048576/\q.b.length<=1048576/\q.sp.size<=1048576/\q.lc.size<=1048576/\q.vl.size<=1048576/\(f=false->q.sp=eB/\q.lc=eB/\q.vl=eB)
theorem QG.mono{S u:List Blk}(z:Old S u):∀{k:Nat}{f:Bool}{cs:LV}{q:Q},QG S k f cs q->QG u k f cs q:=by
 intro k;induction k with
 |zero=>intro f cs q h;exact h.elim
 |succ k D=>
  intro f cs q h;obtain⟨v,w,E,J,O,U⟩:=h;exact⟨v,w,E,J.mono z (fun _ _ h=>D h),O.mono z (fun _ _ h=>D h),U⟩
theorem mu:∀k,N2 prog (2*k) 25 (fun S cs q=>QG S k false cs q)/\N2 prog (2*k) 86 (fun S cs q=>QG S k true cs q)
 |0=>⟨⟨fun _ _ _ _ E h=>h.mono E,fun _ _ _ h=>absurd h oM⟩,⟨fun _ _ _ _ E h=>h.mono E,fun _ _ _ h=>absurd h oM⟩⟩
 |k+1=>by
  obtain⟨W,X⟩:=mu k;have s1:=eD (P:=prog) (t:=22) (e:=25) (sz:=3) Tryz.underlying22 kR oM W;have s2:=eD (P:=prog) (t:=23) (e:=86) (sz:=6) Tryz.underlying23 kR oM X
  constructor
  .have h:=X1 (P:=prog) (t:=25) Tryz.underlying25 kR (D0 (k:=1) rfl kR (rg (2*k+1)) (D0 (k:=1) rfl kR s1 (D0 (k:=1) rfl kR s2 (bL _))));refine h.map (fun x=> .mk x.1 eB eB eB x.2.1 x.2.2.1) ?_ (fun _ _ _ _ E h=>h.mono E);rintro S cs ⟨o,a,b,u⟩ ⟨c1,c2,rfl,⟨rfl,h1⟩,c3,c4,rfl,⟨v,rfl,J,z⟩,c5,c6,rfl,⟨w,rfl,O,D⟩,rfl⟩;have U:eB.size<=1048576:=by decide
   exact⟨v,w,rfl,J,O,z,D,U,U,U,fun _=>⟨rfl,rfl,rfl⟩⟩
  .have h:=X1 (P:=prog) (t:=86) Tryz.underlying86 kR (D0 (k:=1) rfl kR (rg (2*k+1)) (D0 (k:=2) rfl kR (mt (2*k)) (D0 (k:=1) rfl kR (iZ (2*k+1)) (D0 (k:=1) rfl kR s2 (D0 (k:=1) rfl kR s1 (bL _))))));refine h.map (fun x=> .mk x.1 x.2.1.1 x.2.1.2 x.2.2.1 x.2.2.2.1 x.2.2.2.2.1) ?_ (fun _ _ _ _ E h=>h.mono E);rintro S cs ⟨o,nm,vl,a,b,u⟩ ⟨c1,c2,rfl,⟨rfl,h1⟩,c3,c4,rfl,⟨rfl,n1,n2⟩,c7,c8,rfl,⟨rfl,n3⟩,c9,a1,rfl,⟨v,rfl,J,z⟩,c5,c6,rfl,⟨w,rfl,O,D⟩,rfl⟩;exact⟨v,w,rfl,J,O,z,D,n1,n2,n3,fun h=>by cases h⟩
theorem Ru{S:List Blk}:∀{k:Nat}{f:Bool}{cs:LV}{q:Q},QG S k f cs q->QR ⟨S,S.length⟩ S.length k f cs q:=by
 intro k;induction k with
 |zero=>intro f cs q h;exact h.elim
 |succ k u=>
  intro f cs q h;obtain⟨v,w,z,D,E,J⟩:=h;exact⟨v,w,z,yA D (fun _ _ h=>u h),yA E (fun _ _ h=>u h),J⟩
end Go.Proofs.YtofbhlhamfkljaaGreatDoor.Ve
namespace Go.Proofs.YtofbhlhamfkljaaGreatDoor.card
open Go.ChangeShapes Go.WideShapes Go.ChangeAt Go.RowKit
open Go.Proofs.Tryz (prog)
open Go Ve
theorem own:ownKnob prog.godebug=none:=kR
theorem jt:laidOutB prog=true:=kR
def PT:DataW Unit->Value
 | .lit (.int k n)=> .int k n
 |_=> .nilIface
def Ka:DataW Unit->Array Value
 | .agg l=>(l.map PT).toArray
 |_=> #[]
def LD(d:DataW Unit):Obj->Obj
 | .cells _ t frozen=> .cells (Ka d) t frozen
 |o=>o
noncomputable def gO(os:Os):World:=
 {World.holding prog os ⟨#[],#[],[]⟩with heap:=(((World.holding prog os ⟨#[],#[],[]⟩).heap.modify 0 (LD Rows.laid_internal_strconv_uint64pow10)).modify 1 (LD Rows.laid_math_bits_deBruijn32tab)).modify 2 (LD Rows.laid_math_bits_deBruijn64tab)}
abbrev PR:List (String×DataW Unit):=[("math/bits.deBruijn32tab",Rows.laid_math_bits_deBruijn32tab),("math/bits.deBruijn64tab",Rows.laid_math_bits_deBruijn64tab),("internal/strconv.uint64pow10",Rows.laid_internal_strconv_uint64pow10)]
abbrev JT:Value:= .agg #[.int .i64 0,.slice none 0 0,.slice none 0 0]
theorem TW(u:Os):laidMet prog PR ((gO u).forCall (fun _ _=>0) ⟨#[],#[JT],[]⟩).memory:=
 laidMet_of_run' 8 kR kR
theorem reads(z:Os){H:Type}(enc:TypeId×Value->H):∃u,DataW.whole enc prog ((gO z).forCall (fun _ _=>0) ⟨#[],#[JT],[]⟩).memory [25] [] false #[JT].toList 8=some ([.agg [.lit (.int .i64 0),.nil,.nil]],[],u):=
 ⟨[],kR⟩
end Go.Proofs.YtofbhlhamfkljaaGreatDoor.card
namespace Go.Proofs.YtofbhlhamfkljaaGreatDoor.Ve
open Go Go.RowKit
open Go.Proofs.Tryz (prog)
def bAt(s:ByteArray)(i:Nat):Nat:=(s.data.toList.getD i 0).toNat
theorem X6(s:ByteArray)(i:Nat):A3 s i=(bAt s i:Int):=rfl
theorem Y1(s:ByteArray)(i:Nat):bAt s i<256:=by
 have:=(s.data.toList.getD i 0).toNat_lt
 simpa [bAt] using this
theorem Et(s:ByteArray)(i:Nat)(h:i<s.size):(s.get! i).toNat=bAt s i:=by
 have u:i<s.data.toList.length:=by simpa using h
 have:s.get! i=s.data[i]!:=by cases s;rfl
 rw[this,bAt,List.getD_eq_getElem?_getD,List.getElem?_eq_getElem u,getElem!_pos _ _ (by simpa using h)];simp
def T2(s:ByteArray)(i:Nat):Bool:=decide (i<s.size)&&decide (bAt s i / 64=2)
def dec(s:ByteArray)(i:Nat):Option (Nat×Nat):=
 if bAt s i<128 then some (bAt s i,1)
 else if bAt s i / 32=6 then
  if T2 s (i+1)=true/\128<=bAt s i % 32*64+bAt s (i+1) % 64 then some (bAt s i % 32*64+bAt s (i+1) % 64,2) else none
 else if bAt s i / 16=14 then
  if T2 s (i+1)=true/\T2 s (i+2)=true/\2048<=bAt s i % 16*4096+bAt s (i+1) % 64*64+bAt s (i+2) % 64/\¬(55296<=bAt s i % 16*4096+bAt s (i+1) % 64*64+bAt s (i+2) % 64/\bAt s i % 16*4096+bAt s (i+1) % 64*64+bAt s (i+2) % 64<=57343)
   then some (bAt s i % 16*4096+bAt s (i+1) % 64*64+bAt s (i+2) % 64,3) else none
 else if bAt s i / 8=30 then
  if T2 s (i+1)=true/\T2 s (i+2)=true/\T2 s (i+3)=true/\65536<=bAt s i % 8*262144+bAt s (i+1) % 64*4096+bAt s (i+2) % 64*64+bAt s (i+3) % 64/\bAt s i % 8*262144+bAt s (i+1) % 64*4096+bAt s (i+2) % 64*64+bAt s (i+3) % 64<=1114111
   then some (bAt s i % 8*262144+bAt s (i+1) % 64*4096+bAt s (i+2) % 64*64+bAt s (i+3) % 64,4) else none
 else none
theorem I6{s:ByteArray}{i:Nat}:T2 s i=true↔i<s.size/\bAt s i / 64=2:=by simp [T2]
theorem wQ(s:ByteArray)(i:Nat)(hi:i<s.size)(c n:Nat)(h:dec s i=some (c,n)):Utf8.decode s i=(c,n):=by
 have g0:=Et s i hi;have E:∀k,T2 s (i+k)=true->(s.get! (i+k)).toNat=bAt s (i+k)/\(decide (i+k<s.size)&&(s.get! (i+k)).toNat / 64==2)=true:=by
  intro k U;rw[I6]at U;have:=Et s (i+k) U.1;refine⟨this,?_⟩;rw[this,U.2];simp [U.1]
 unfold dec at h;unfold Utf8.decode;simp only[Nat.add_zero,g0];split at h
 .rename_i h1;rw[if_pos h1];cases h;rfl
 .rename_i h1;rw[if_neg h1];split at h
  .rename_i h2;split at h
   .rename_i h3;obtain⟨O,u⟩:=E 1 h3.1;have W:(bAt s i / 32==6)=true:=by simp [h2]
    rw[W,u];simp only[Bool.and_self,if_true,O];rw[if_pos h3.2];cases h;rfl
   .cases h
  .rename_i h2;have W:(bAt s i / 32==6)=false:=by simp [h2]
   rw[W];simp only[Bool.false_and,bF];split at h
   .rename_i h4;split at h
    .rename_i S;obtain⟨O,u⟩:=E 1 S.1;obtain⟨k2,D⟩:=E 2 S.2.1;have X:(bAt s i / 16==14)=true:=by simp [h4]
     rw[X,u,D];simp only[Bool.and_self,if_true,O,k2];have hv:Utf8.valid ((bAt s i % 16*4096+bAt s (i+1) % 64*64+bAt s (i+2) % 64:Nat):Int)=true:=by
      have:=S.2.2.2;have b0:=Y1 s i;simp only[Utf8.valid,Bool.or_eq_true,Bool.and_eq_true,decide_eq_true_eq];omega
     have z:(decide (2048<=bAt s i % 16*4096+bAt s (i+1) % 64*64+bAt s (i+2) % 64)&&Utf8.valid ((bAt s i % 16*4096+bAt s (i+1) % 64*64+bAt s (i+2) % 64:Nat):Int))=true:=by rw[hv];simp [S.2.2.1]
     rw[if_pos (by simpa using z)];cases h;rfl
    .cases h
   .rename_i h4;have X:(bAt s i / 16==14)=false:=by simp [h4]
    rw[X];simp only[Bool.false_and,bF];split at h
    .rename_i h6;split at h
     .rename_i J;obtain⟨O,u⟩:=E 1 J.1;obtain⟨k2,D⟩:=E 2 J.2.1;obtain⟨k3,a1⟩:=E 3 J.2.2.1;have e6:(bAt s i / 8==30)=true:=by simp [h6]
      rw[e6,u,D,a1];simp only[Bool.and_self,if_true,O,k2,k3];have hv:Utf8.valid ((bAt s i % 8*262144+bAt s (i+1) % 64*4096+bAt s (i+2) % 64*64+bAt s (i+3) % 64:Nat):Int)=true:=by
       have:=J.2.2.2;simp only[Utf8.valid,Bool.or_eq_true,Bool.and_eq_true,decide_eq_true_eq];omega
      have z:(decide (65536<=bAt s i % 8*262144+bAt s (i+1) % 64*4096+bAt s (i+2) % 64*64+bAt s (i+3) % 64)&&Utf8.valid ((bAt s i % 8*262144+bAt s (i+1) % 64*4096+bAt s (i+2) % 64*64+bAt s (i+3) % 64:Nat):Int))=true:=by rw[hv];simp [J.2.2.2.1]
      rw[if_pos (by simpa using z)];cases h;rfl
     .cases h
    .cases h
theorem AB:∀b:Fin 256,(Go.bits .and .u8 (b.val:Int) 128=0↔b.val<128)/\(Go.bits .and .u8 (b.val:Int) 224=192↔b.val / 32=6)/\(Go.bits .and .u8 (b.val:Int) 240=224↔b.val / 16=14)/\(Go.bits .and .u8 (b.val:Int) 248=240↔b.val / 8=30):=by decide
theorem AC:∀b:Fin 256,Go.bits .andNot .u8 (b.val:Int) 128=(b.val % 128:Nat)/\Go.bits .andNot .u8 (b.val:Int) 224=(b.val % 32:Nat)/\Go.bits .andNot .u8 (b.val:Int) 240=(b.val % 16:Nat)/\Go.bits .andNot .u8 (b.val:Int) 248=(b.val % 8:Nat):=by decide
theorem AA:∀b:Fin 256,(Go.bits .and .u8 (b.val:Int) 192=128↔b.val / 64=2)/\Go.bits .and .u8 (b.val:Int) 63=(b.val % 64:Nat):=by decide
theorem du{n:Int}(u: -2147483648<=n)(z:n<=2147483647):IntKind.wrap .i32 n=n:=by
 simp [IntKind.wrap,IntKind.min,IntKind.max,IntKind.signed,IntKind.bits];omega
theorem GH(a b:Nat)(J:a<16777216)(O:b<64):Go.bits .or .i32 ((a*64:Nat):Int) (b:Int)=((a*64+b:Nat):Int):=by
 have z:(BitVec.ofInt 32 ((a*64:Nat):Int))=BitVec.ofNat 32 (a*64):=BitVec.ofInt_natCast _ _;have D:(BitVec.ofInt 32 (b:Int))=BitVec.ofNat 32 b:=BitVec.ofInt_natCast _ _;have E:(BitVec.ofNat 32 (a*64)|||BitVec.ofNat 32 b).toNat=a*64+b:=by
  rw[BitVec.toNat_or,BitVec.toNat_ofNat,BitVec.toNat_ofNat,Nat.mod_eq_of_lt oM,Nat.mod_eq_of_lt oM];have:=Nat.two_pow_add_eq_or_of_lt (i:=6) (b:=b) oM a;have u:(2:Nat) ^ 6*a=a*64:=by rw[Nat.mul_comm]
  rw[u]at this;omega
 show IntKind.wrap .i32 (((BitVec.ofInt 32 ((a*64:Nat):Int))|||(BitVec.ofInt 32 (b:Int))).toNat:Int)=_;rw[z,D,E];exact du oM oM
theorem Dm(v:Nat)(E:v<2147483648):Go.bits .or .i32 (v:Int) 0=(v:Int):=by
 have u:(BitVec.ofInt 32 (v:Int))=BitVec.ofNat 32 v:=BitVec.ofInt_natCast _ _;have z:(BitVec.ofInt 32 (0:Int))=BitVec.ofNat 32 0:=by decide
 have D:(BitVec.ofNat 32 v|||BitVec.ofNat 32 0).toNat=v:=by
  rw[BitVec.toNat_or,BitVec.toNat_ofNat,BitVec.toNat_ofNat,Nat.mod_eq_of_lt oM];simp
 show IntKind.wrap .i32 (((BitVec.ofInt 32 (v:Int))|||(BitVec.ofInt 32 (0:Int))).toNat:Int)=_;rw[u,z,D];exact du oM oM
theorem bw(s:ByteArray)(u n k v h:Nat)(O:v<16777216):aL s u n (k+1) (v:Int) h=if T2 s (u+h)=true then aL s u n k ((v*64+bAt s (u+h) % 64:Nat):Int) (h+1) else((v:Int),h):=by
 have J:=Y1 s (u+h);obtain⟨c1,c2⟩:=AA ⟨bAt s (u+h),J⟩;simp only at c1 c2;rw[aL,X6,c2];have D:IntKind.wrap .i32 ((v:Int)*2 ^ min (Int.toNat 6) 32)=((v*64:Nat):Int):=by
  have:(v:Int)*2 ^ min (Int.toNat 6) 32=((v*64:Nat):Int):=by
   rw[Int.natCast_mul];rfl
  rw[this];exact du oM oM
 have E:IntKind.wrap .i32 ((bAt s (u+h) % 64:Nat):Int)=((bAt s (u+h) % 64:Nat):Int):=du oM oM;rw[D,E,GH v _ O (Nat.mod_lt _ oM)];by_cases z:T2 s (u+h)=true
 .rw[if_pos z,if_pos];rw[I6]at z;exact⟨z.1,c1.2 z.2⟩
 .rw[if_neg z,if_neg];intro q;exact z (I6.2 ⟨q.1,c1.1 q.2⟩)
theorem Jb(v:Nat)(D:v<2147483648):qV (v:Int) 0=((v:Int),(v:Int)):=by
 have u:IntKind.wrap .i32 ((v:Int)*2 ^ min (6*(0:Int)).toNat 32)=(v:Int):=by
  have:(v:Int)*2 ^ min (6*(0:Int)).toNat 32=(v:Int):=sM;rw[this];exact du oM oM
 have z:IntKind.wrap .i32 (IntKind.wrap .i32 (1*2 ^ min (6*(0:Int)).toNat 32)-1)=0:=by decide
 rw[qV,u,z,Dm v D]
theorem gX(s:ByteArray)(z n v:Nat)(u:Int)(D:v<2147483648):sX s z n u (v:Int) (n+1)=if(v:Int)<u\/(1114111:Int)<v\/((55296:Int)<=v/\(v:Int)<=57343) then(0,0,2) else((v:Int),((n+1:Nat):Int),0):=by
 have e:((n:Int)+1-((n+1:Nat):Int))=0:=oM;rw[sX,e,Jb v D];simp only[if_true]
theorem cN(s:ByteArray)(z n h:Nat)(u v:Int)(D:h≠n+1):(sX s z n u v h).2.2≠0:=by
 rw[sX];split
 .decide
 .split<;>(try decide)
theorem Dd(s:ByteArray)(i:Nat):(Go.bits .and .u8 (A3 s i) 128=0↔bAt s i<128)/\(Go.bits .and .u8 (A3 s i) 224=192↔bAt s i / 32=6)/\(Go.bits .and .u8 (A3 s i) 240=224↔bAt s i / 16=14)/\(Go.bits .and .u8 (A3 s i) 248=240↔bAt s i / 8=30):=AB ⟨bAt s i,Y1 s i⟩
theorem Co(s:ByteArray)(i:Nat):Go.bits .andNot .u8 (A3 s i) 128=(bAt s i % 128:Nat)/\Go.bits .andNot .u8 (A3 s i) 224=(bAt s i % 32:Nat)/\Go.bits .andNot .u8 (A3 s i) 240=(bAt s i % 16:Nat)/\Go.bits .andNot .u8 (A3 s i) 248=(bAt s i % 8:Nat):=AC ⟨bAt s i,Y1 s i⟩
theorem CJ(s:ByteArray)(i:Nat)(hi:i<s.size):(∀c n,dec s i=some (c,n)->dr s i=((c:Int),(n:Int),0))/\(dec s i=none->(dr s i).2.2≠0):=by
 have hb:=Y1 s i;obtain⟨f1,f2,f3,f4⟩:=Dd s i;obtain⟨r1,r2,r3,r4⟩:=Co s i;have w:∀n:Nat,n<256->IntKind.wrap .i32 (n:Int)=(n:Int):=fun n h=>du oM oM;have W:dr s i=W8 s i 4 0:=by rw[dr,if_pos hi]
 by_cases z:bAt s i<128
 .have e:dr s i=((bAt s i:Int),1,0):=by
   rw[W,W8,ai,if_pos (f1.2 z)];simp only;rw[r1,w _ oM,aL,Nat.mod_eq_of_lt z];rw[gX s i 0 _ 0 oM,if_neg oM];rfl
  have d:dec s i=some (bAt s i,1):=by rw[dec,if_pos z]
  rw[d,e];refine⟨fun c n h=>?_,fun h=>by cases h⟩;cases h;rfl
 have X:¬Go.bits .and .u8 (A3 s i) 128=0:=fun q=>z (f1.1 q);by_cases E:bAt s i / 32=6
 .have e:dr s i=sX s i 1 128 (aL s i 1 1 ((bAt s i % 32:Nat):Int) 1).1 (aL s i 1 1 ((bAt s i % 32:Nat):Int) 1).2:=by
   rw[W,W8,ai,if_neg X,W8,ai,if_pos (f2.2 E)];simp only;rw[r2,w _ oM]
  have d:dec s i=if T2 s (i+1)=true/\128<=bAt s i % 32*64+bAt s (i+1) % 64 then some (bAt s i % 32*64+bAt s (i+1) % 64,2) else none:=by rw[dec,if_neg z,if_pos E]
  rw[bw _ _ _ _ _ _ oM]at e;by_cases D:T2 s (i+1)=true
  .rw[if_pos D,aL]at e;simp only at e;rw[gX s i 1 _ 128 oM]at e;by_cases O:128<=bAt s i % 32*64+bAt s (i+1) % 64
   .rw[if_neg oM]at e;rw[if_pos ⟨D,O⟩]at d;rw[d,e];exact⟨fun c n h=>by cases h;rfl,fun h=>by cases h⟩
   .rw[if_pos oM]at e;rw[if_neg (fun q=>O q.2)]at d;rw[d,e];exact⟨fun c n h=>(by cases h),fun _=>by decide⟩
  .rw[if_neg D]at e;rw[if_neg (fun q=>D q.1)]at d;rw[d,e];exact⟨fun c n h=>(by cases h),fun _=>cN _ _ _ _ _ _ oM⟩
 have g2:¬Go.bits .and .u8 (A3 s i) 224=192:=fun q=>E (f2.1 q);by_cases J:bAt s i / 16=14
 .have e:dr s i=sX s i 2 2048 (aL s i 2 2 ((bAt s i % 16:Nat):Int) 1).1 (aL s i 2 2 ((bAt s i % 16:Nat):Int) 1).2:=by
   rw[W,W8,ai,if_neg X,W8,ai,if_neg g2,W8,ai,if_pos (f3.2 J)];simp only;rw[r3,w _ oM]
  rw[bw _ _ _ _ _ _ oM]at e;by_cases D:T2 s (i+1)=true
  .rw[if_pos D,bw _ _ _ _ _ _ oM]at e;by_cases u:T2 s (i+2)=true
   .rw[if_pos u,aL]at e;simp only at e;have ev:(bAt s i % 16*64+bAt s (i+1) % 64)*64+bAt s (i+1+1) % 64=bAt s i % 16*4096+bAt s (i+1) % 64*64+bAt s (i+2) % 64:=by
     show(bAt s i % 16*64+bAt s (i+1) % 64)*64+bAt s (i+2) % 64=_;omega
    rw[show i+(1+1)=i+1+1 from rfl,ev,gX s i 2 _ 2048 oM]at e;by_cases O:2048<=bAt s i % 16*4096+bAt s (i+1) % 64*64+bAt s (i+2) % 64/\¬(55296<=bAt s i % 16*4096+bAt s (i+1) % 64*64+bAt s (i+2) % 64/\bAt s i % 16*4096+bAt s (i+1) % 64*64+bAt s (i+2) % 64<=57343)
    .rw[if_neg oM]at e;have d:dec s i=some (bAt s i % 16*4096+bAt s (i+1) % 64*64+bAt s (i+2) % 64,3):=by rw[dec,if_neg z,if_neg E,if_pos J,if_pos ⟨D,u,O.1,O.2⟩]
     rw[d,e];exact⟨fun c n h=>by cases h;rfl,fun h=>by cases h⟩
    .rw[if_pos oM]at e;have d:dec s i=none:=by rw[dec,if_neg z,if_neg E,if_pos J,if_neg (fun q=>O q.2.2)]
     rw[d,e];exact⟨fun c n h=>(by cases h),fun _=>by decide⟩
   .rw[if_neg u]at e;have d:dec s i=none:=by rw[dec,if_neg z,if_neg E,if_pos J,if_neg (fun q=>u q.2.1)]
    rw[d,e];exact⟨fun c n h=>(by cases h),fun _=>cN _ _ _ _ _ _ oM⟩
  .rw[if_neg D]at e;have d:dec s i=none:=by rw[dec,if_neg z,if_neg E,if_pos J,if_neg (fun q=>D q.1)]
   rw[d,e];exact⟨fun c n h=>(by cases h),fun _=>cN _ _ _ _ _ _ oM⟩
 have g3:¬Go.bits .and .u8 (A3 s i) 240=224:=fun q=>J (f3.1 q);by_cases U:bAt s i / 8=30
 .have e:dr s i=sX s i 3 65536 (aL s i 3 3 ((bAt s i % 8:Nat):Int) 1).1 (aL s i 3 3 ((bAt s i % 8:Nat):Int) 1).2:=by
   rw[W,W8,ai,if_neg X,W8,ai,if_neg g2,W8,ai,if_neg g3,W8,ai,if_pos (f4.2 U)];simp only;rw[r4,w _ oM]
   all_goals (intro q;omega)
  rw[bw _ _ _ _ _ _ oM]at e;by_cases D:T2 s (i+1)=true
  .rw[if_pos D,bw _ _ _ _ _ _ oM]at e;by_cases u:T2 s (i+2)=true
   .rw[if_pos u,bw _ _ _ _ _ _ oM]at e;by_cases S:T2 s (i+3)=true
    .rw[if_pos S,aL]at e;simp only at e;have ev:((bAt s i % 8*64+bAt s (i+1) % 64)*64+bAt s (i+(1+1)) % 64)*64+bAt s (i+(1+1+1)) % 64=bAt s i % 8*262144+bAt s (i+1) % 64*4096+bAt s (i+2) % 64*64+bAt s (i+3) % 64:=by
      show((bAt s i % 8*64+bAt s (i+1) % 64)*64+bAt s (i+2) % 64)*64+bAt s (i+3) % 64=_;omega
     rw[ev,gX s i 3 _ 65536 oM]at e;by_cases O:65536<=bAt s i % 8*262144+bAt s (i+1) % 64*4096+bAt s (i+2) % 64*64+bAt s (i+3) % 64/\bAt s i % 8*262144+bAt s (i+1) % 64*4096+bAt s (i+2) % 64*64+bAt s (i+3) % 64<=1114111
     .rw[if_neg oM]at e;have d:dec s i=some (bAt s i % 8*262144+bAt s (i+1) % 64*4096+bAt s (i+2) % 64*64+bAt s (i+3) % 64,4):=by rw[dec,if_neg z,if_neg E,if_neg J,if_pos U,if_pos ⟨D,u,S,O.1,O.2⟩]
      rw[d,e];exact⟨fun c n h=>by cases h;rfl,fun h=>by cases h⟩
     .rw[if_pos oM]at e;have d:dec s i=none:=by rw[dec,if_neg z,if_neg E,if_neg J,if_pos U,if_neg (fun q=>O q.2.2.2)]
      rw[d,e];exact⟨fun c n h=>(by cases h),fun _=>by decide⟩
    .rw[if_neg S]at e;have d:dec s i=none:=by rw[dec,if_neg z,if_neg E,if_neg J,if_pos U,if_neg (fun q=>S q.2.2.1)]
     rw[d,e];exact⟨fun c n h=>(by cases h),fun _=>cN _ _ _ _ _ _ oM⟩
   .rw[if_neg u]at e;have d:dec s i=none:=by rw[dec,if_neg z,if_neg E,if_neg J,if_pos U,if_neg (fun q=>u q.2.1)]
    rw[d,e];exact⟨fun c n h=>(by cases h),fun _=>cN _ _ _ _ _ _ oM⟩
  .rw[if_neg D]at e;have d:dec s i=none:=by rw[dec,if_neg z,if_neg E,if_neg J,if_pos U,if_neg (fun q=>D q.1)]
   rw[d,e];exact⟨fun c n h=>(by cases h),fun _=>cN _ _ _ _ _ _ oM⟩
 have g4:¬Go.bits .and .u8 (A3 s i) 248=240:=fun q=>U (f4.1 q);have e:dr s i=(0,0,2):=by
  rw[W,W8,ai,if_neg X,W8,ai,if_neg g2,W8,ai,if_neg g3,W8,ai,if_neg g4,W8]
  all_goals (intro q;omega)
 have d:dec s i=none:=by rw[dec,if_neg z,if_neg E,if_neg J,if_neg U]
 rw[d,e];exact⟨fun c n h=>(by cases h),fun _=>by decide⟩
theorem dl1{a b:Int}(h:a<b):decide (a<b)=true:=decide_eq_true h
theorem dl0{a b:Int}(h:b<=a):decide (a<b)=false:=decide_eq_false oM
theorem de1{a b:Int}(h:a<=b):decide (a<=b)=true:=decide_eq_true h
theorem de0{a b:Int}(h:b<a):decide (a<=b)=false:=decide_eq_false oM
theorem dq1{a b:Int}(h:a=b):decide (a=b)=true:=decide_eq_true h
theorem dq0{a b:Int}(h:a<b\/b<a):decide (a=b)=false:=decide_eq_false oM
theorem dlB:ly (aI (aI (aI @dl0 @dl1) (aI @dq0 @dq1)) (aI @de0 @de1)):=stOf _
theorem Ci(H:N7)(r:Int):CL prog t6 119 [iV r] H=some (.bool (mF r),none):=by
 rw[j7 OP rfl _ sM,mF];rcases u:decide (r=9)with _|_
 .rcases z:decide (r=10)with _|_
  .rcases D:decide (r=13)with _|_
   .exact J3 u z D trivial
   .exact J3 u z D trivial
  .exact J2 u z trivial
 .exact J1 u trivial
theorem vm(H:N7)(r:Int):CL prog t6 96 [iV r] H=some (.bool (kD r),none):=by
 rw[j7 Rc rfl _ sM,kD,inSpans,qd];rcases Int.lt_or_le r 32 with z|z
 .exact J3 @Ci anB dlB trivial
 have u:mF r=decide (r=32):=by
  rw[mF,dq0 oM,dq0 oM,dq0 oM];rfl
 rw[u];rcases Int.lt_or_le r 55296 with D|D
 .exact J2 anB dlB trivial
 rcases Int.lt_or_le r 57344 with E|E
 .exact J2 anB dlB trivial
 rcases Int.lt_or_le r 65534 with J|J
 .exact J2 anB dlB trivial
 rcases Int.lt_or_le r 65535 with O|O
 .exact J2 anB dlB trivial
 rcases Int.lt_or_le r 65536 with S|S
 .exact J2 anB dlB trivial
 rcases Int.lt_or_le r 1114112 with U|U
 .exact J2 anB dlB trivial
 .exact J2 anB dlB trivial
theorem G9(H:N7)(r:Int):CL prog t6 120 [iV r] H=some (.bool (fH r),none):=by
 revert r
 intro r;rw[j7 OQ rfl _ sM,fH,inSpans,oQ];rcases Int.lt_or_le r 65 with k0|k0
 .exact J2 anB dlB trivial
 rcases Int.lt_or_le r 91 with k1|k1
 .exact J2 anB dlB trivial
 clear k0;rcases Int.lt_or_le r 95 with k2|k2
 .exact J2 anB dlB trivial
 clear k1;rcases Int.lt_or_le r 96 with k3|k3
 .exact J2 anB dlB trivial
 clear k2;rcases Int.lt_or_le r 97 with k4|k4
 .exact J2 anB dlB trivial
 clear k3;rcases Int.lt_or_le r 123 with k5|k5
 .exact J2 anB dlB trivial
 clear k4;rcases Int.lt_or_le r 128 with k6|k6
 .exact J2 anB dlB trivial
 clear k5;rcases Int.lt_or_le r 192 with k7|k7
 .exact J2 anB dlB trivial
 clear k6;rcases Int.lt_or_le r 215 with k8|k8
 .exact J2 anB dlB trivial
 clear k7;rcases Int.lt_or_le r 216 with k9|k9
 .exact J2 anB dlB trivial
 clear k8;rcases Int.lt_or_le r 247 with u|u
 .exact J2 anB dlB trivial
 clear k9;rcases Int.lt_or_le r 248 with z|z
 .exact J2 anB dlB trivial
 clear u;rcases Int.lt_or_le r 768 with D|D
 .exact J2 anB dlB trivial
 clear z;rcases Int.lt_or_le r 880 with E|E
 .exact J2 anB dlB trivial
 clear D;rcases Int.lt_or_le r 894 with J|J
 .exact J2 anB dlB trivial
 clear E;rcases Int.lt_or_le r 895 with O|O
 .exact J2 anB dlB trivial
 clear J;rcases Int.lt_or_le r 8192 with S|S
 .exact J2 anB dlB trivial
 clear O;rcases Int.lt_or_le r 8204 with U|U
 .exact J2 anB dlB trivial
 clear S;rcases Int.lt_or_le r 8205 with W|W
 .exact J2 anB dlB trivial
 clear U;rcases Int.lt_or_le r 8206 with X|X
 .exact J2 anB dlB trivial
 clear W;rcases Int.lt_or_le r 8304 with a1|a1
 .exact J2 anB dlB trivial
 clear X;rcases Int.lt_or_le r 8592 with a2|a2
 .exact J2 anB dlB trivial
 clear a1;rcases Int.lt_or_le r 11264 with a3|a3
 .exact J2 anB dlB trivial
 clear a2;rcases Int.lt_or_le r 12272 with a4|a4
 .exact J2 anB dlB trivial
 clear a3;rcases Int.lt_or_le r 12289 with a5|a5
 .exact J2 anB dlB trivial
 clear a4;rcases Int.lt_or_le r 55296 with a6|a6
 .exact J2 anB dlB trivial
 clear a5;rcases Int.lt_or_le r 63744 with a7|a7
 .exact J2 anB dlB trivial
 clear a6;rcases Int.lt_or_le r 64976 with a8|a8
 .exact J2 anB dlB trivial
 clear a7;rcases Int.lt_or_le r 65008 with a9|a9
 .exact J2 anB dlB trivial
 clear a8;rcases Int.lt_or_le r 65534 with b0|b0
 .exact J2 anB dlB trivial
 clear a9;rcases Int.lt_or_le r 65536 with b1|b1
 .exact J2 anB dlB trivial
 clear b0;rcases Int.lt_or_le r 983040 with b2|b2
 .exact J2 anB dlB trivial
 clear b1;exact J2 anB dlB trivial
theorem vo(H:N7)(r:Int):CL prog t6 121 [iV r] H=some (.bool (je r),none):=by
 rw[j7 OS rfl _ sM,je,inSpans,qF];rcases u:fH r with _|_
 .skip
  rcases Int.lt_or_le r 45 with E|E
  .exact J4 @G9 u anB dlB trivial
  rcases Int.lt_or_le r 46 with J|J
  .exact J4 @G9 u anB dlB trivial
  clear E;rcases Int.lt_or_le r 47 with O|O
  .exact J4 @G9 u anB dlB trivial
  clear J;rcases Int.lt_or_le r 48 with S|S
  .exact J4 @G9 u anB dlB trivial
  clear O;rcases Int.lt_or_le r 58 with U|U
  .exact J4 @G9 u anB dlB trivial
  clear S;rcases Int.lt_or_le r 183 with W|W
  .exact J4 @G9 u anB dlB trivial
  clear U;rcases Int.lt_or_le r 184 with X|X
  .exact J4 @G9 u anB dlB trivial
  clear W;rcases Int.lt_or_le r 768 with k7|k7
  .exact J4 @G9 u anB dlB trivial
  clear X;rcases Int.lt_or_le r 880 with k8|k8
  .exact J4 @G9 u anB dlB trivial
  clear k7;rcases Int.lt_or_le r 8255 with k9|k9
  .exact J4 @G9 u anB dlB trivial
  clear k8;rcases Int.lt_or_le r 8256 with z|z
  .exact J4 @G9 u anB dlB trivial
  clear k9;rcases Int.lt_or_le r 8257 with D|D
  .exact J4 @G9 u anB dlB trivial
  clear z;exact J4 @G9 u anB dlB trivial
 .exact J2 @G9 u trivial
def lN(s:ByteArray)(i n:Nat):Int:=
 if n=2 then(A3 s i-192)*64+(A3 s (i+1)-128)
 else if n=3 then((A3 s i-224)*64+(A3 s (i+1)-128))*64+(A3 s (i+2)-128)
 else(((A3 s i-240)*64+(A3 s (i+1)-128))*64+(A3 s (i+2)-128))*64+(A3 s (i+3)-128)
theorem O8(s:ByteArray)(i:Nat):0<=A3 s i/\A3 s i<=255:=by rw[X6];have:=Y1 s i;omega
theorem yb(s:ByteArray)(i n:Nat): -100000000<=lN s i n/\lN s i n<=100000000:=by
 have u:=O8 s i;have z:=O8 s (i+1);have D:=O8 s (i+2);have E:=O8 s (i+3);unfold lN;split
 .omega
 .split<;>omega
theorem kx(H:N7)(s:ByteArray)(i n:Nat)(J:2<=n)(O:n<=4)(S:i+n<=s.size)(U:s.size<=2000000):CL prog t6 139 [.string s,iV i,iV n] H=some (.int .i64 (lN s i n),none):=by
 have q0:=O8 s i;have W:=O8 s (i+1);have X:=O8 s (i+2);have q3:=O8 s (i+3);have u:((i:Int)+1).toNat=i+1:=oM;have z:((i:Int)+2).toNat=i+2:=oM;have D:((i:Int)+3).toNat=i+3:=oM;have E:(i:Int)+0=i:=oM;rw[j7 Pc rfl _ sM];refine J1 @wrap_small ?_;rw[aw];refine J3 @wrap_small @dl1 E ?_;obtain rfl|rfl|rfl:n=2\/n=3\/n=4:=oM
 .refine J2 @wrap_small @Int.zero_add ?_;rw[aw];refine J2 @wrap_small u ?_;rw[aw];refine J7 @wrap_small E u z D @Int.zero_add dlB ?_;rw[lN,if_pos rfl]
 .refine J2 @wrap_small @Int.zero_add ?_;rw[aw];refine J2 @wrap_small u ?_;rw[aw];refine J2 @wrap_small z ?_;rw[aw];refine J7 @wrap_small E u z D @Int.zero_add dlB ?_;rw[lN,if_neg oM,if_pos rfl]
 .refine J2 @wrap_small @Int.zero_add ?_;rw[aw];refine J2 @wrap_small u ?_;rw[aw];refine J2 @wrap_small z ?_;rw[aw];refine J2 @wrap_small D ?_;rw[aw];refine J7 @wrap_small E u z D @Int.zero_add dlB ?_;rw[lN,if_neg oM,if_neg oM]
theorem mh{P:Program}(t:TypeId)(a b:Int)(u:0<=a)(z:0<b):F6 P .quo t (.int .i64 a) (.int .i64 b)=some (.int .i64 (IntKind.wrap .i64 (a / b))):=by
 simp only[F6,if_true];rw[if_neg oM,Int.tdiv_eq_ediv_of_nonneg u]
theorem mj{P:Program}(t:TypeId)(a b:Int)(u:0<=a)(z:0<b):F6 P .rem t (.int .i64 a) (.int .i64 b)=some (.int .i64 (a % b)):=by
 simp only[F6,if_true];rw[if_neg oM,Int.tmod_eq_emod_of_nonneg u]
theorem jS{n:Int}(u:0<=n)(z:n<=255):IntKind.wrap .u8 n=n:=by
 simp [IntKind.wrap,IntKind.min,IntKind.max,IntKind.signed,IntKind.bits];omega
def u8V(n:Int):Value:= .int .u8 n
def M8(r:Int):List Int:=
 if r<0\/1114111<r\/(55296<=r/\r<=57343) then []
 else if r<128 then [r]
 else if r<2048 then [192+r / 64,128+r % 64]
 else if r<65536 then [224+r / 4096,128+r / 64 % 64,128+r % 64]
 else [240+r / 262144,128+r / 4096 % 64,128+r / 64 % 64,128+r % 64]
theorem zL(H:N7)(r:Int):Ret (CL prog t6 140 [iV r] H) H fun w D=>cg D H.next 1 w (M8 r).length ((M8 r).map u8V)/\i6 H.next H D:=by
 have nil:∀l,l=[]->cg H H.next 1 (nS) l.length (l.map u8V):=fun l h=>by rw[h];exact .inl ⟨rfl,rfl,rfl⟩
 have z:∀cs:LV,cs.length=cs.length->∀l:List Int,l.map u8V=cs->Ret (some (Value.slice (sP H.next) cs.length cs.length,some ⟨(N7.push ⟨H.bs,H.next⟩ (bC cs 1)).bs,min H.low H.next⟩)) H fun w D=>cg D H.next 1 w l.length (l.map u8V)/\i6 H.next H D:=by
  intro cs _ l O;have J:l.length=cs.length:=by rw[<-O,List.length_map]
  refine⟨_,_,_,rfl,rfl,.inr ⟨H.next,cs.length,by rw[J],?_,lR,by rw[O,J];omega⟩,(i6.first H _).ret lR⟩;rw[O];exact j9
 rw[j7 Pd rfl _ sM];by_cases u:r<0\/1114111<r\/(55296<=r/\r<=57343)
 .have hp:M8 r=[]:=by rw[M8,if_pos u]
  have E:Ret (some (nS,(none:Option N7))) H fun w D=>cg D H.next 1 w (M8 r).length ((M8 r).map u8V)/\i6 H.next H D:=⟨_,none,H,rfl,rfl,nil _ hp,i6.refl _ _⟩
  rcases Int.lt_or_le r 0 with U|U
  .refine J1 @dl1 ?_;exact E
  rcases Int.lt_or_le 1114111 r with h2|h2
  .refine J1 dlB ?_;exact E
  .have h3:55296<=r/\r<=57343:=oM;refine J1 dlB ?_;exact E
 .have U:0<=r/\r<=1114111:=oM;rcases Int.lt_or_le r 128 with W|W
  .refine J2 @jS dlB ?_;exact z _ rfl (M8 r) (by rw[M8,if_neg u,if_pos W])
  rcases Int.lt_or_le r 2048 with X|X
  .refine J5 @jS @wrap_small @mh @mj dlB ?_;exact z _ rfl (M8 r) (by rw[M8,if_neg u,if_neg oM,if_pos X])
  rcases Int.lt_or_le r 65536 with S|S
  .rcases Int.lt_or_le r 55296 with k4|k4
   .refine J5 @jS @wrap_small @mh @mj dlB ?_;exact z _ rfl (M8 r) (by rw[M8,if_neg u,if_neg oM,if_neg oM,if_pos S])
   .have k5:57343<r:=oM;refine J5 @jS @wrap_small @mh @mj dlB ?_;exact z _ rfl (M8 r) (by rw[M8,if_neg u,if_neg oM,if_neg oM,if_pos S])
  .refine J5 @jS @wrap_small @mh @mj dlB ?_;exact z _ rfl (M8 r) (by rw[M8,if_neg u,if_neg oM,if_neg oM,if_neg oM])
def fF(s:ByteArray):Nat->List Int->Bool
 |_,[]=>true
 |k,b::r=>if A3 s k=b then fF s (k+1) r else false
def ya(s:ByteArray)(i:Nat)(b:List Int):Bool:= !decide (b=[])&&decide (i+b.length<=s.size)&&fF s i b
theorem Au(H0:N7)(lo:Nat)(s:ByteArray)(i:Nat)(l:List Int)(a:Option Addr)(c:Nat)(hv:cg H0 lo 1 (.slice a l.length c) l.length (l.map u8V))(hs:i+l.length<=s.size)(hz:s.size<=2000000)(r:Bool):
  ∀k e H2,(∃j:Nat,k=l.length-j/\j<=l.length/\e.get 0= .string s/\e.get 1=iV i/\e.get 2= .slice a l.length c/\e.get 7=iV j/\H2=H0/\fF s (i+j) (l.drop j)=r)->
  w7 (LE prog t6 (.loop KH) e H2) (fun o e H2=>H2=H0/\((o= .exit 0/\r=true)\/(o= .ret/\e.get 6= .bool false/\r=false))):=by
 refine i8 _ _ ?_;rintro k e H2 ⟨j,hk,hj,O,S,E,U,hH,u⟩;subst hH;rcases b:decide ((j:Int)<l.length)with _|_
 .have W:=dF b;have:l.drop j=[]:=dN oM;rw[this,fF]at u;refine J3 E U b ?_;exact i9 ⟨rfl,.inl ⟨rfl,u.symm⟩⟩
 .have W:=dT b;rcases hv with⟨_,h0,_⟩|⟨nb,c',h1,hg,_,_⟩
  .omega
  obtain⟨rfl,_⟩:a=some ⟨nb,0,none⟩/\c=c':=by simpa using h1
  obtain⟨x,hx,hd⟩:=S6 (l:=l) (i:=j) oM;rw[hd,fF]at u;have nt:(j:Int).toNat=j:=tN j;have D:((i:Int)+j).toNat=i+j:=oM;have X:(l.map u8V)[j]?=some (.int .u8 x):=by rw[List.getElem?_map,hx];rfl
  rcases J:decide (A3 s (i+j)=x)with _|_
  .have z:=dF J;rw[if_neg z]at u;refine J11 O S E U b hg @wrap_small D @Nat.mul_one X J ?_;exact z9 ⟨rfl,.inr ⟨rfl,rfl,u.symm⟩⟩
  .have z:=dT J;rw[if_pos z]at u;refine J11 O S E U b hg @wrap_small D @Nat.mul_one X J ?_;exact i4 (k-1) oM ⟨j+1,oM,oM,O,S,E,rfl,rfl,u⟩
theorem oF(H:N7)(lo:Nat)(s:ByteArray)(i:Nat)(l:List Int)(v:Value)(U:cg H lo 1 v l.length (l.map u8V))(hi:i<=2000000)(hl:l.length<=2000000)(X:s.size<=2000000):CL prog t6 141 [.string s,iV i,v] H=some (.bool (ya s i l),none):=by
 obtain⟨a,c,rfl⟩:=U.slice;have e0:decide ((l.length:Int)=0)=decide (l=[]):=decide_eq_decide.2 (by rw[<-List.length_eq_zero_iff];omega);have O:decide ((s.size:Int)<(i:Int)+l.length)= !decide (i+l.length<=s.size):=by
  rw[<-decide_not];exact decide_eq_decide.2 oM
 rw[j7 Jr rfl _ sM,ya];rcases u:decide (l=[])with _|_
 .rcases D:decide (i+l.length<=s.size)with _|_
  .exact J5 e0 O u D @wrap_small trivial
  .refine J5 e0 O u D @wrap_small ?_;refine j8 (F:=fun z=>u5 _ _ _ (u9 (inBlock 0 z) _)=_) (Au ⟨H.bs,H.next⟩ lo s i l a c (U.mono lR (fun _ _=>rfl)) (dT D) X (fF s i l) l.length _ _ ⟨0,rfl,oM,rfl,rfl,rfl,rfl,rfl,rfl⟩) ?_;rintro o e' H' ⟨S,⟨E,J⟩|⟨E,W,J⟩⟩
   .exact J3 E J S trivial
   .exact J4 E W J S trivial
 .exact J2 e0 u trivial
theorem ud(b:UInt8):(⟨#[b]⟩:ByteArray).size=1:=rfl
theorem Kh(H0:N7)(s z:ByteArray)(E n u:Nat)(ht:u<=4)(r:Unit):∀k e H2,(∃lo D:ByteArray,k=u-lo.size/\lo.size<=u/\D.size=lo.size/\e.get 0= .string s/\e.get 1=iV E/\e.get 5=iV n/\e.get 6=iV u/\e.get 7= .string z/\e.get 8= .string lo/\e.get 9= .string D/\H2=H0)->
  w7 (LE prog t6 (.loop KI) e H2) (fun o e H2=>o= .exit 2/\H2=H0/\e.get 0= .string s/\e.get 1=iV E/\e.get 5=iV n/\e.get 6=iV u/\e.get 7= .string z/\∃lo D:ByteArray,lo.size=u/\D.size=u/\e.get 8= .string lo/\e.get 9= .string D):=by
 refine i8 _ _ ?_;rintro k e H2 ⟨lo,D,hk,hl,hh,W,X,f5,J,f7,O,f9,hH⟩;rcases b:decide ((lo.size:Int)<u)with _|_
 .have S:=dF b;refine J3 J O b ?_;exact i9 ⟨rfl,hH,W,X,f5,J,f7,lo,D,oM,oM,O,f9⟩
 .have S:=dT b;have U:=ud 128;have z2:=ud 191;refine J5 J O f9 b @Z3 ?_;exact i4 (k-1) oM ⟨lo++⟨#[128]⟩,D++⟨#[191]⟩,by rw[ByteArray.size_append,U];omega,by rw[ByteArray.size_append,U];omega,by rw[ByteArray.size_append,ByteArray.size_append,U,z2];omega,W,X,f5,J,f7,rfl,rfl,hH⟩
theorem Ki(H0:N7)(s U:ByteArray)(u n z:Nat)(va vb:Int)(hs:u+n=s.size)(hz:s.size<=1048576):∀k e H2,(∃(i:Nat)(t:Bool),k=n-i/\1<=i/\i<=n/\e.get 0= .string s/\e.get 1=iV u/\e.get 5=iV n/\e.get 6=iV z/\e.get 7= .string U/\e.get 10=iV va/\e.get 11=iV vb/\e.get 12= .bool t/\e.get 13=iV i/\H2=H0)->
  w7 (LE prog t6 (.loop KJ) e H2) (fun o e H2=>o= .exit 4/\H2=H0/\e.get 0= .string s/\e.get 1=iV u/\e.get 5=iV n/\e.get 6=iV z/\e.get 7= .string U/\e.get 10=iV va/\e.get 11=iV vb/\∃t:Bool,e.get 12= .bool t):=by
 refine i8 _ _ ?_;rintro k e H2 ⟨i,t,hk,a2,hi,W,X,S,f6,f7,D,E,J,O,hH⟩;rcases b:decide ((i:Int)<n)with _|_
 .refine J3 S O b ?_;exact i9 ⟨rfl,hH,W,X,S,f6,f7,D,E,t,J⟩
 .have a1:=dT b;have nt:((u:Int)+i).toNat=u+i:=oM;cases t with
  |false=>
   refine J5 S J O b @wrap_small ?_;exact i4 (k-1) oM ⟨i+1,_,oM,oM,oM,W,X,S,f6,f7,D,E,rfl,rfl,hH⟩
  |true=>
   rcases b2:decide ((128:Int)<=A3 s (u+i))with _|_
   .refine J9 W X S J O b @wrap_small nt b2 ?_;exact i4 (k-1) oM ⟨i+1,_,oM,oM,oM,W,X,S,f6,f7,D,E,rfl,rfl,hH⟩
   .refine J9 W X S J O b @wrap_small nt b2 ?_;exact i4 (k-1) oM ⟨i+1,_,oM,oM,oM,W,X,S,f6,f7,D,E,rfl,rfl,hH⟩
theorem nV:∀l:List Int,((l.map u8V).mapM dd)=some (l.map fun n=>UInt8.ofNat n.toNat)
 |[]=>rfl
 |n::l=>by
  rw[List.map_cons,List.mapM_cons,nV l];rfl
theorem AN(H:N7)(lo:Nat)(l:List Int)(a:Option Addr)(c:Nat)(h:cg H lo 1 (.slice a l.length c) l.length (l.map u8V)):∃z:ByteArray,z.size=l.length/\Z4 prog H 81 9 (.slice a l.length c)=some (.string z,none):=by
 obtain⟨a',u,e,D⟩:=h.cells oM;obtain⟨rfl,rfl⟩:a=a'/\c=u:=by simpa using e
 refine⟨⟨(l.map fun n=>UInt8.ofNat n.toNat).toArray⟩,by simp [ByteArray.size],?_⟩;simp only[Z4,yR,ty9,ty5,D,Option.bind_some,nV]
theorem mM(H:N7)(z:ByteArray):Z4 prog H 9 81 (.string z)=some (sL H.next z.size (z.size+1),some (H.push (bC (z.data.toList.map S0) 1))):=by
 simp only[Z4,yR,ty9,ty5]
theorem Dt(z:ByteArray):z.data.toList.map S0=(z.data.toList.map fun b=>(b.toNat:Int)).map u8V:=by
 rw[List.map_map];rfl
theorem sH{P:Program}(t:TypeId)(a b:Int)(h:b≠0):F6 P .quo t (.int .i64 a) (.int .i64 b)=some (.int .i64 (IntKind.wrap .i64 (a.tdiv b))):=by
 simp only[F6,if_true];rw[if_neg h]
theorem Kj(H:N7)(s u:ByteArray)(J n D:Nat)(va vb:Int)(hf:u.size<=1048576):∀k e H2,(∃i:Nat,k=64-i/\i<=64/\e.get 0= .string s/\e.get 1=iV J/\e.get 5=iV n/\e.get 6=iV D/\e.get 7= .string u/\e.get 10=iV va/\e.get 11=iV vb/\e.get 15=iV i/\i6 H.next H H2/\H.next<=H2.low)->
  w7 (LE prog t6 (.loop DV) e H2) (fun o e H2=>i6 H.next H H2/\H.next<=H2.low/\((o= .exit 6/\e.get 0= .string s/\e.get 1=iV J/\e.get 5=iV n/\e.get 6=iV D)\/(o= .ret/\e.get 4= .bool true))):=by
 refine i8 _ _ ?_;rintro k e H2 ⟨i,hk,hi,f0,f1,f5,f6,f7,S,U,O,hS,hl⟩;rcases b:decide ((i:Int)<64)with _|_
 .refine J2 O b ?_;exact i9 ⟨hS,hl,.inl ⟨rfl,f0,f1,f5,f6⟩⟩
 have b7:=dT b;have a9:=hS.next;have b4:∀(r:Int),∃w h E,CL prog t6 140 [iV r] H2=dL w h/\h.getD H2=E/\cg E H2.next 1 w (M8 r).length ((M8 r).map u8V)/\i6 H2.next H2 E:=fun r=>by
  obtain⟨w,h,E,h1,h2,h3,h4⟩:=zL H2 r;exact⟨w,h,E,h1,h2,h3,h4⟩
 have body:∀(r:Int)(e':Env),e'.get 16=iV r->e'.get 0= .string s->e'.get 1=iV J->e'.get 5=iV n->e'.get 6=iV D->e'.get 7= .string u->e'.get 10=iV va->e'.get 11=iV vb->e'.get 15=iV i->
   w7 (u9 (inBlock 7 (LE prog t6 TR e' H2)) (LE prog t6 KL)) (cQ k (fun k e H2=>∃i:Nat,k=64-i/\i<=64/\e.get 0= .string s/\e.get 1=iV J/\e.get 5=iV n/\e.get 6=iV D/\e.get 7= .string u/\e.get 10=iV va/\e.get 11=iV vb/\e.get 15=iV i/\i6 H.next H H2/\H.next<=H2.low) (fun o e H2=>i6 H.next H H2/\H.next<=H2.low/\((o= .exit 6/\e.get 0= .string s/\e.get 1=iV J/\e.get 5=iV n/\e.get 6=iV D)\/(o= .ret/\e.get 4= .bool true)))):=by
  intro r e' a1 g0 g1 g5 g6 g7 a5 a6 a7;obtain⟨w,h,E,hc,hh,hO,W⟩:=b4 r;obtain⟨a,c,rfl⟩:=hO.slice;have a2:i6 H.next H E:=hS.trans (W.weaken a9);have b6:=a2.next;have a3:H.next<=E.low:=W.lowAll _ a9 hl;rcases b2:decide (((M8 r).length:Int)=D)with _|_
  .rw[TR];refine J7 g6 a7 a1 hc hh b2 @wrap_small ?_;exact i4 (k-1) oM ⟨i+1,oM,oM,g0,g1,g5,g6,g7,a5,a6,rfl,a2,a3⟩
  .obtain⟨z,hz,b0⟩:=AN E H2.next (M8 r) a c hO;have b8:(M8 r).length<=4:=by unfold M8;split<;>(try split)<;>(try split)<;>(try split)<;>simp
   have zx:=ud 120;have b1:(u.data.toList.map fun b=>(b.toNat:Int)).length=u.size:=by rw[List.length_map,Array.length_toList];rfl
   have b5:=oF (E.push (bC (u.data.toList.map S0) 1)) E.next (z++⟨#[120]⟩) 0 (u.data.toList.map fun b=>(b.toNat:Int)) (sL E.next u.size (u.size+1)) (.inr ⟨E.next,u.size+1,by rw[b1],by rw[<-Dt];exact j9,lR,by rw[List.length_map,Nat.mul_one]⟩) oM (by rw[b1];omega) (by rw[ByteArray.size_append];omega);have X:CL prog t6 141 [.string (z++⟨#[120]⟩),iV 0,sL E.next u.size (u.size+1)] (E.push (bC (u.data.toList.map S0) 1))=_:=b5;have a8:i6 H.next H (E.push (bC (u.data.toList.map S0) 1)):=a2.trans (i6.push b6);rw[TR];rcases b3:ya (z++⟨#[120]⟩) 0 (u.data.toList.map fun b=>(b.toNat:Int))with _|_
   .refine J13 g6 g7 a7 a1 hc hh b2 @wrap_small b0 @Z3 @mM X b3 ?_;exact i4 (k-1) oM ⟨i+1,oM,oM,g0,g1,g5,g6,g7,a5,a6,rfl,a8,a3⟩
   .refine J11 g6 g7 a1 hc hh b2 b0 @Z3 @mM X b3 ?_;exact z9 ⟨a8,a3,.inr ⟨rfl,rfl⟩⟩
 rcases a4:decide ((i:Int)=63)with _|_
 .refine J6 S U O b @sH a4 ?_;exact body _ _ rfl f0 f1 f5 f6 f7 S U O
 .refine J6 S U O b @sH a4 ?_;exact body _ _ rfl f0 f1 f5 f6 f7 S U O
theorem vz{P:Program}(H:N7)(t:TypeId)(s:ByteArray)(i:Nat)(z:P.underlying t=some .string)(u:i<=s.size):aH P H t (.string s) (some (.int .i64 i)) none none=some (.string (s.extract i s.size)):=by
 simp only[aH,z,bnd,Int.natCast_nonneg,if_true,Int.toNat_natCast];rw[if_pos ⟨u,lR⟩]
def DH(H:N7)(s:ByteArray)(at_ n:Nat)(k:Nat)(e:Env)(H2:N7):Prop:=
 ∃total:Nat,k=5-total/\n+1<=total/\total<=5/\e.get 0= .string s/\e.get 1=iV at_/\e.get 5=iV n/\e.get 6=iV total/\i6 H.next H H2/\H.next<=H2.low
def DJ(H:N7)(o:Out)(e:Env)(H2:N7):Prop:=H.next<=H2.low/\(o= .exit 0\/(o= .ret/\e.get 4= .bool true))
theorem tX{H:N7}{s:ByteArray}{z n k u:Nat}(hk:k=5-u)(W:n+1<=u)(X:u<=4){e:Env}{H2:N7}(D:e.get 0= .string s)(E:e.get 1=iV z)(J:e.get 5=iV n)(O:e.get 6=iV u)(S:i6 H.next H H2)(U:H.next<=H2.low):
  w7 (LE prog t6 lW e H2) (cQ k (DH H s z n) (DJ H)):=by
 refine J2 O @wrap_small ?_;exact i4 (k-1) oM ⟨u+1,oM,oM,oM,D,E,J,rfl,S,U⟩
theorem AU{H:N7}{s:ByteArray}{J n k a1:Nat}{va vb:Int}{a2:ByteArray}{t:Bool}(hs:J+n=s.size)(a8:1<=n)(hf:a2.size<=1048576)(hz:s.size<=1048576)(hk:k=5-a1)(h1:n+1<=a1)(h4:a1<=4){e:Env}{H2:N7}(D:e.get 0= .string s)(E:e.get 1=iV J)(W:e.get 5=iV n)(X:e.get 6=iV a1)
  (f7:e.get 7= .string a2) (O:e.get 10=iV va) (S:e.get 11=iV vb) (U:e.get 12= .bool t) (hS:i6 H.next H H2) (hl:H.next<=H2.low):
  w7 (u9 (inBlock 1 (LE prog t6 GY e H2)) (LE prog t6 lW)) (cQ k (DH H s J n) (DJ H)):=by
 have nt:(J:Int).toNat=J:=tN J;have u:∀e':Env,e'.get 0= .string s->e'.get 1=iV J->e'.get 5=iV n->e'.get 6=iV a1->e'.get 7= .string a2->e'.get 10=iV va->e'.get 11=iV vb->e'.get 15=iV 0->
   w7 (u9 (inBlock 1 (inBlock 6 (LE prog t6 (.loop DV) e' H2))) (LE prog t6 lW)) (cQ k (DH H s J n) (DJ H)):=by
  intro e' g0 g1 g5 g6 g7 a4 a5 a6;refine cY (F:=fun z=>u9 (inBlock 1 (inBlock 6 z)) _) (Kj H s a2 J n a1 va vb hf 64 e' H2 ⟨0,rfl,oM,g0,g1,g5,g6,g7,a4,a5,a6,hS,hl⟩) ?_;rintro o e3 H3 ⟨a7,a3,⟨ho,q0,q1,q5,q6⟩|⟨ho,q4⟩⟩
  .simp only[ho,eT,if_true,fX,dM];exact tX hk h1 h4 q0 q1 q5 q6 a7 a3
  .simp only[ho,kQ,oZ,ez];exact z9 ⟨a3,.inr ⟨rfl,q4⟩⟩
 have skip:∀e':Env,e'.get 0= .string s->e'.get 1=iV J->e'.get 5=iV n->e'.get 6=iV a1->w7 (LE prog t6 lW e' H2) (cQ k (DH H s J n) (DJ H)):=fun e' g0 g1 g5 g6=>tX hk h1 h4 g0 g1 g5 g6 hS hl;obtain rfl|rfl|rfl:a1=2\/a1=3\/a1=4:=oM
 .cases t
  .skip
   rcases Int.lt_or_le (A3 s J) 192 with k0|k0
   .refine J7 D E X U nt @de0 @wrap_small ?_
    first|exact i4 (k-1) oM ⟨3,oM,oM,oM,D,E,W,rfl,hS,hl⟩|exact u _ D E W X f7 O S rfl
   rcases Int.lt_or_le (A3 s J) 224 with k1|k1
   .refine J7 D E X U nt @wrap_small dlB ?_
    first|exact i4 (k-1) oM ⟨3,oM,oM,oM,D,E,W,rfl,hS,hl⟩|exact u _ D E W X f7 O S rfl
   rcases Int.lt_or_le (A3 s J) 240 with k2|k2
   .refine J7 D E X U nt @wrap_small dlB ?_
    first|exact i4 (k-1) oM ⟨3,oM,oM,oM,D,E,W,rfl,hS,hl⟩|exact u _ D E W X f7 O S rfl
   rcases Int.lt_or_le (A3 s J) 248 with k3|k3
   .refine J7 D E X U nt @wrap_small dlB ?_
    first|exact i4 (k-1) oM ⟨3,oM,oM,oM,D,E,W,rfl,hS,hl⟩|exact u _ D E W X f7 O S rfl
   refine J7 D E X U nt @wrap_small dlB ?_
   first|exact i4 (k-1) oM ⟨3,oM,oM,oM,D,E,W,rfl,hS,hl⟩|exact u _ D E W X f7 O S rfl
  .skip
   rcases Int.lt_or_le (A3 s J) 192 with k0|k0
   .refine J7 D E X U nt @de0 @wrap_small ?_
    first|exact i4 (k-1) oM ⟨3,oM,oM,oM,D,E,W,rfl,hS,hl⟩|exact u _ D E W X f7 O S rfl
   rcases Int.lt_or_le (A3 s J) 224 with k1|k1
   .refine J6 D E X U nt dlB ?_
    first|exact i4 (k-1) oM ⟨3,oM,oM,oM,D,E,W,rfl,hS,hl⟩|exact u _ D E W X f7 O S rfl
   rcases Int.lt_or_le (A3 s J) 240 with k2|k2
   .refine J7 D E X U nt @wrap_small dlB ?_
    first|exact i4 (k-1) oM ⟨3,oM,oM,oM,D,E,W,rfl,hS,hl⟩|exact u _ D E W X f7 O S rfl
   rcases Int.lt_or_le (A3 s J) 248 with k3|k3
   .refine J7 D E X U nt @wrap_small dlB ?_
    first|exact i4 (k-1) oM ⟨3,oM,oM,oM,D,E,W,rfl,hS,hl⟩|exact u _ D E W X f7 O S rfl
   refine J7 D E X U nt @wrap_small dlB ?_
   first|exact i4 (k-1) oM ⟨3,oM,oM,oM,D,E,W,rfl,hS,hl⟩|exact u _ D E W X f7 O S rfl
 .cases t
  .skip
   rcases Int.lt_or_le (A3 s J) 192 with k0|k0
   .refine J7 D E X U nt @de0 @wrap_small ?_
    first|exact i4 (k-1) oM ⟨4,oM,oM,oM,D,E,W,rfl,hS,hl⟩|exact u _ D E W X f7 O S rfl
   rcases Int.lt_or_le (A3 s J) 224 with k1|k1
   .refine J7 D E X U nt @de0 @wrap_small ?_
    first|exact i4 (k-1) oM ⟨4,oM,oM,oM,D,E,W,rfl,hS,hl⟩|exact u _ D E W X f7 O S rfl
   rcases Int.lt_or_le (A3 s J) 240 with k2|k2
   .refine J7 D E X U nt @wrap_small dlB ?_
    first|exact i4 (k-1) oM ⟨4,oM,oM,oM,D,E,W,rfl,hS,hl⟩|exact u _ D E W X f7 O S rfl
   rcases Int.lt_or_le (A3 s J) 248 with k3|k3
   .refine J7 D E X U nt @wrap_small dlB ?_
    first|exact i4 (k-1) oM ⟨4,oM,oM,oM,D,E,W,rfl,hS,hl⟩|exact u _ D E W X f7 O S rfl
   refine J7 D E X U nt @wrap_small dlB ?_
   first|exact i4 (k-1) oM ⟨4,oM,oM,oM,D,E,W,rfl,hS,hl⟩|exact u _ D E W X f7 O S rfl
  .skip
   rcases Int.lt_or_le (A3 s J) 192 with k0|k0
   .refine J7 D E X U nt @de0 @wrap_small ?_
    first|exact i4 (k-1) oM ⟨4,oM,oM,oM,D,E,W,rfl,hS,hl⟩|exact u _ D E W X f7 O S rfl
   rcases Int.lt_or_le (A3 s J) 224 with k1|k1
   .refine J7 D E X U nt @de0 @wrap_small ?_
    first|exact i4 (k-1) oM ⟨4,oM,oM,oM,D,E,W,rfl,hS,hl⟩|exact u _ D E W X f7 O S rfl
   rcases Int.lt_or_le (A3 s J) 240 with k2|k2
   .refine J6 D E X U nt dlB ?_
    first|exact i4 (k-1) oM ⟨4,oM,oM,oM,D,E,W,rfl,hS,hl⟩|exact u _ D E W X f7 O S rfl
   rcases Int.lt_or_le (A3 s J) 248 with k3|k3
   .refine J7 D E X U nt @wrap_small dlB ?_
    first|exact i4 (k-1) oM ⟨4,oM,oM,oM,D,E,W,rfl,hS,hl⟩|exact u _ D E W X f7 O S rfl
   refine J7 D E X U nt @wrap_small dlB ?_
   first|exact i4 (k-1) oM ⟨4,oM,oM,oM,D,E,W,rfl,hS,hl⟩|exact u _ D E W X f7 O S rfl
 .cases t
  .skip
   rcases Int.lt_or_le (A3 s J) 192 with k0|k0
   .refine J7 D E X U nt @de0 @wrap_small ?_
    first|exact i4 (k-1) oM ⟨5,oM,oM,oM,D,E,W,rfl,hS,hl⟩|exact u _ D E W X f7 O S rfl
   rcases Int.lt_or_le (A3 s J) 224 with k1|k1
   .refine J7 D E X U nt @de0 @wrap_small ?_
    first|exact i4 (k-1) oM ⟨5,oM,oM,oM,D,E,W,rfl,hS,hl⟩|exact u _ D E W X f7 O S rfl
   rcases Int.lt_or_le (A3 s J) 240 with k2|k2
   .refine J7 D E X U nt @de0 @wrap_small ?_
    first|exact i4 (k-1) oM ⟨5,oM,oM,oM,D,E,W,rfl,hS,hl⟩|exact u _ D E W X f7 O S rfl
   rcases Int.lt_or_le (A3 s J) 248 with k3|k3
   .refine J7 D E X U nt @wrap_small dlB ?_
    first|exact i4 (k-1) oM ⟨5,oM,oM,oM,D,E,W,rfl,hS,hl⟩|exact u _ D E W X f7 O S rfl
   refine J7 D E X U nt @wrap_small dlB ?_
   first|exact i4 (k-1) oM ⟨5,oM,oM,oM,D,E,W,rfl,hS,hl⟩|exact u _ D E W X f7 O S rfl
  .skip
   rcases Int.lt_or_le (A3 s J) 192 with k0|k0
   .refine J7 D E X U nt @de0 @wrap_small ?_
    first|exact i4 (k-1) oM ⟨5,oM,oM,oM,D,E,W,rfl,hS,hl⟩|exact u _ D E W X f7 O S rfl
   rcases Int.lt_or_le (A3 s J) 224 with k1|k1
   .refine J7 D E X U nt @de0 @wrap_small ?_
    first|exact i4 (k-1) oM ⟨5,oM,oM,oM,D,E,W,rfl,hS,hl⟩|exact u _ D E W X f7 O S rfl
   rcases Int.lt_or_le (A3 s J) 240 with k2|k2
   .refine J7 D E X U nt @de0 @wrap_small ?_
    first|exact i4 (k-1) oM ⟨5,oM,oM,oM,D,E,W,rfl,hS,hl⟩|exact u _ D E W X f7 O S rfl
   rcases Int.lt_or_le (A3 s J) 248 with k3|k3
   .refine J6 D E X U nt dlB ?_
    first|exact i4 (k-1) oM ⟨5,oM,oM,oM,D,E,W,rfl,hS,hl⟩|exact u _ D E W X f7 O S rfl
   refine J7 D E X U nt @wrap_small dlB ?_
   first|exact i4 (k-1) oM ⟨5,oM,oM,oM,D,E,W,rfl,hS,hl⟩|exact u _ D E W X f7 O S rfl
theorem Ix(H:N7)(s:ByteArray)(D:Nat)(ha:D<=s.size)(hz:s.size<=1048576):∃t:Bool,CL prog t6 142 [.string s,iV D] H=some (.bool t,none):=by
 obtain⟨n,hn⟩:=eY (s.size-D);have E:(s.size:Int)-D=n:=oM;rw[j7 kN rfl _ sM];by_cases h1:n<1
 .refine J3 E @wrap_small @dl1 ?_;exact⟨_,rfl⟩
 by_cases h3:3<n
 .refine J3 E @wrap_small dlB ?_;exact⟨_,rfl⟩
 refine J3 E @wrap_small @dl0 ?_;have hx:(s.extract D s.size).size=n:=by rw[ByteArray.size_extract];omega
 have J:∀k e H2,DH H s D n k e H2->w7 (LE prog t6 (.loop KK) e H2) (DJ H):=by
  refine i8 _ _ ?_;rintro k e H2 ⟨u,hk,a3,b2,f0,f1,f5,U,hS,X⟩;rcases b:decide ((u:Int)<=4)with _|_
  .refine J2 U b ?_;exact i9 ⟨X,.inl rfl⟩
  have a9:=dT b;have a2:=vz (P:=prog) H2 9 s D ty9.2.2.2.2.2.2 ha;refine J5 f0 f1 U b a2 ?_;refine cY (F:=fun z=>u9 (inBlock 1 (u9 (inBlock 2 z) _)) _) (Kh H2 s (s.extract D s.size) D n u oM () (u-n) _ _ ⟨s.extract D s.size,s.extract D s.size,by rw[hx],oM,rfl,f0,f1,f5,U,rfl,rfl,rfl,rfl⟩) ?_;rintro o e1 H3 ⟨O,hH,g0,g1,g5,g6,g7,lo,S,b1,b0,g8,g9⟩;have v1:=kx H2 lo 0 u oM oM oM oM;have v2:=kx H2 S 0 u oM oM oM oM;have a7:CL prog t6 139 [.string lo,iV 0,iV u] H2=some (.int .i64 (lN lo 0 u),none):=v1;have a8:CL prog t6 139 [.string S,iV 0,iV u] H2=some (.int .i64 (lN S 0 u),none):=v2;refine J7 O hH g6 g8 g9 a7 a8 ?_;refine cY (F:=fun z=>u9 (inBlock 1 (u9 (inBlock 4 z) _)) _) (Ki H2 s (s.extract D s.size) D n u (lN lo 0 u) (lN S 0 u) oM hz (n-1) _ _ ⟨1,true,rfl,oM,oM,g0,g1,g5,g6,g7,rfl,rfl,rfl,rfl,rfl⟩) ?_;rintro o e2 H4 ⟨a1,W,q0,q1,q5,q6,q7,a4,a5,t,a6⟩;simp only[a1,W,eT,if_true,dM];exact AU oM oM oM hz hk a3 oM q0 q1 q5 q6 q7 a4 a5 a6 hS X
 refine j8 (F:=fun z=>∃t:Bool,u5 _ _ _ (u9 (inBlock 0 z) _)=some (.bool t,none)) (J (5-(n+1)) _ _ ⟨n+1,rfl,oM,oM,rfl,rfl,rfl,rfl,i6.start H,lR⟩) ?_;rintro o e' H' ⟨X,O|⟨O,h4⟩⟩
 .refine J1 O ?_;exact⟨_,rfl⟩
 .refine J2 O h4 ?_;exact⟨_,rfl⟩
def I8(s:ByteArray)(i n:Nat):Int:=if n=1 then A3 s i else lN s i n
def kw(s:ByteArray)(i n:Nat):Bool:=decide ((M8 (I8 s i n)).length=n)&&ya s i (M8 (I8 s i n))
theorem Mh{r:Int}(h:(M8 r).length=1):0<=r/\r<128/\M8 r=[r]:=by
 unfold M8 at h ⊢;split at h
 .simp at h
 .rename_i c;rw[if_neg c];split at h
  .rename_i c1;rw[if_pos c1];exact⟨oM,c1,rfl⟩
  .split at h
   .simp at h
   .split at h<;>simp at h
theorem Mi{r:Int}(h:(M8 r).length=2):128<=r/\r<2048/\M8 r=[192+r / 64,128+r % 64]:=by
 unfold M8 at h ⊢;split at h
 .simp at h
 .rename_i c;rw[if_neg c];split at h
  .simp at h
  .rename_i c1;rw[if_neg c1];split at h
   .rename_i c2;rw[if_pos c2];exact⟨oM,c2,rfl⟩
   .split at h<;>simp at h
theorem Mj{r:Int}(h:(M8 r).length=3):2048<=r/\r<65536/\¬(55296<=r/\r<=57343)/\M8 r=[224+r / 4096,128+r / 64 % 64,128+r % 64]:=by
 unfold M8 at h ⊢;split at h
 .simp at h
 .rename_i c;rw[if_neg c];split at h
  .simp at h
  .rename_i c1;rw[if_neg c1];split at h
   .simp at h
   .rename_i c2;rw[if_neg c2];split at h
    .rename_i u;rw[if_pos u];exact⟨oM,u,oM,rfl⟩
    .simp at h
theorem Mk{r:Int}(h:(M8 r).length=4):65536<=r/\r<=1114111/\M8 r=[240+r / 262144,128+r / 4096 % 64,128+r / 64 % 64,128+r % 64]:=by
 unfold M8 at h ⊢;split at h
 .simp at h
 .rename_i c;rw[if_neg c];split at h
  .simp at h
  .rename_i c1;rw[if_neg c1];split at h
   .simp at h
   .rename_i c2;rw[if_neg c2];split at h
    .simp at h
    .rename_i u;rw[if_neg u];exact⟨oM,oM,rfl⟩
theorem vh{s:ByteArray}{i:Nat}{l:List Int}:ya s i l=true↔l≠ []/\i+l.length<=s.size/\fF s i l=true:=by simp [ya,and_assoc]
theorem D3{s:ByteArray}{k:Nat}{b:Int}{r:List Int}:fF s k (b::r)=true↔A3 s k=b/\fF s (k+1) r=true:=by
 rw[fF];split
 .rename_i h;simp [h]
 .rename_i h;simp [h]
theorem Iv(s:ByteArray)(i n:Nat)(h1:1<=n)(h4:n<=4)(h:kw s i n=true):0<=I8 s i n/\i+n<=s.size/\dec s i=some ((I8 s i n).toNat,n):=by
 rw[kw,Bool.and_eq_true,decide_eq_true_eq]at h;obtain⟨D,u⟩:=h;rw[vh,D]at u;obtain⟨_,J,u⟩:=u;have q0:=Y1 s i;have q1:=Y1 s (i+1);have q2:=Y1 s (i+2);have q3:=Y1 s (i+3);have e0:=X6 s i;have e1:=X6 s (i+1);have e2:=X6 s (i+2);have e3:=X6 s (i+3);obtain rfl|rfl|rfl|rfl:n=1\/n=2\/n=3\/n=4:=oM
 .obtain⟨E,S,z⟩:=Mh D;have O:I8 s i 1=A3 s i:=rfl;rw[O]at E S ⊢;refine⟨E,J,?_⟩;rw[dec,if_pos oM,e0,Int.toNat_natCast]
 .obtain⟨E,S,z⟩:=Mi D;rw[z,D3,D3]at u;obtain⟨W,p1,_⟩:=u;have O:I8 s i 2=(A3 s i-192)*64+(A3 s (i+1)-128):=rfl;generalize I8 s i 2=v at*;have c1:T2 s (i+1)=true:=I6.2 ⟨oM,oM⟩;refine⟨oM,J,?_⟩;rw[dec,if_neg oM,if_pos oM,if_pos ⟨c1,oM⟩]
  congr 2;omega
 .obtain⟨E,S,a1,z⟩:=Mj D;rw[z,D3,D3,D3]at u;obtain⟨W,p1,p2,_⟩:=u;have U:A3 s (i+2)=128+I8 s i 3 % 64:=p2;have O:I8 s i 3=((A3 s i-224)*64+(A3 s (i+1)-128))*64+(A3 s (i+2)-128):=rfl;generalize I8 s i 3=v at*;have c1:T2 s (i+1)=true:=I6.2 ⟨oM,oM⟩;have c2:T2 s (i+2)=true:=I6.2 ⟨oM,oM⟩;refine⟨oM,J,?_⟩;rw[dec,if_neg oM,if_neg oM,if_pos oM,if_pos ⟨c1,c2,oM,oM⟩]
  congr 2;omega
 .obtain⟨E,S,z⟩:=Mk D;rw[z,D3,D3,D3,D3]at u;obtain⟨W,p1,p2,p3,_⟩:=u;have U:A3 s (i+2)=128+I8 s i 4 / 64 % 64:=p2;have a2:A3 s (i+3)=128+I8 s i 4 % 64:=p3;have O:I8 s i 4=(((A3 s i-240)*64+(A3 s (i+1)-128))*64+(A3 s (i+2)-128))*64+(A3 s (i+3)-128):=rfl;generalize I8 s i 4=v at*;have c1:T2 s (i+1)=true:=I6.2 ⟨oM,oM⟩;have c2:T2 s (i+2)=true:=I6.2 ⟨oM,oM⟩;have X:T2 s (i+3)=true:=I6.2 ⟨oM,oM⟩;refine⟨oM,J,?_⟩;rw[dec,if_neg oM,if_neg oM,if_neg oM,if_pos oM,if_pos ⟨c1,c2,X,oM,oM⟩]
  congr 2;omega
theorem rG(s:ByteArray)(i c n:Nat)(hi:i<s.size)(h:dec s i=some (c,n)):1<=n/\n<=4/\i+n<=s.size/\kw s i n=true/\I8 s i n=(c:Int):=by
 have q0:=Y1 s i;have q1:=Y1 s (i+1);have q2:=Y1 s (i+2);have q3:=Y1 s (i+3);have e0:=X6 s i;have e1:=X6 s (i+1);have e2:=X6 s (i+2);have e3:=X6 s (i+3);have ok:∀(n:Nat)(l:List Int),M8 (I8 s i n)=l->l≠ []->l.length=n->i+n<=s.size->fF s i l=true->kw s i n=true:=by
  intro n l S U W X z;rw[kw,S,Bool.and_eq_true,decide_eq_true_eq,vh,W];exact⟨rfl,U,X,z⟩
 unfold dec at h;split at h
 .cases h;rename_i S;have E:I8 s i 1=A3 s i:=rfl;refine⟨oM,oM,oM,ok 1 [A3 s i] ?_ sM rfl oM (D3.2 ⟨rfl,rfl⟩),by rw[E,e0]⟩;rw[E,M8,if_neg oM,if_pos oM]
 .rename_i S;split at h
  .rename_i U;split at h
   .rename_i W;cases h;obtain⟨g1,u⟩:=I6.1 W.1;have E:I8 s i 2=(A3 s i-192)*64+(A3 s (i+1)-128):=rfl;have D:I8 s i 2=((bAt s i % 32*64+bAt s (i+1) % 64:Nat):Int):=oM;generalize hw:I8 s i 2=v at*;refine⟨oM,oM,oM,ok 2 [192+v / 64,128+v % 64] ?_ sM rfl oM (D3.2 ⟨oM,D3.2 ⟨oM,rfl⟩⟩),D⟩;rw[hw,M8,if_neg oM,if_neg oM,if_pos oM]
   .cases h
  .rename_i U;split at h
   .rename_i X;split at h
    .rename_i z;cases h;obtain⟨g1,u⟩:=I6.1 z.1;obtain⟨g2,O⟩:=I6.1 z.2.1;have E:I8 s i 3=((A3 s i-224)*64+(A3 s (i+1)-128))*64+(A3 s (i+2)-128):=rfl;have D:I8 s i 3=((bAt s i % 16*4096+bAt s (i+1) % 64*64+bAt s (i+2) % 64:Nat):Int):=oM;have a2:=z.2.2;generalize hw:I8 s i 3=v at*;refine⟨oM,oM,oM,ok 3 [224+v / 4096,128+v / 64 % 64,128+v % 64] ?_ sM rfl oM (D3.2 ⟨oM,D3.2 ⟨oM,D3.2 ⟨by show A3 s (i+2)=_;omega,rfl⟩⟩⟩),D⟩;rw[hw,M8,if_neg oM,if_neg oM,if_neg oM,if_pos oM]
    .cases h
   .rename_i X;split at h
    .rename_i h6;split at h
     .rename_i J;cases h;obtain⟨g1,u⟩:=I6.1 J.1;obtain⟨g2,O⟩:=I6.1 J.2.1;obtain⟨g3,a1⟩:=I6.1 J.2.2.1;have a3:=J.2.2.2;have E:I8 s i 4=(((A3 s i-240)*64+(A3 s (i+1)-128))*64+(A3 s (i+2)-128))*64+(A3 s (i+3)-128):=rfl;have D:I8 s i 4=((bAt s i % 8*262144+bAt s (i+1) % 64*4096+bAt s (i+2) % 64*64+bAt s (i+3) % 64:Nat):Int):=oM;generalize hw:I8 s i 4=v at*;refine⟨oM,oM,oM,ok 4 [240+v / 262144,128+v / 4096 % 64,128+v / 64 % 64,128+v % 64] ?_ sM rfl oM (D3.2 ⟨oM,D3.2 ⟨oM,D3.2 ⟨by show A3 s (i+2)=_;omega,D3.2 ⟨by show A3 s (i+3)=_;omega,rfl⟩⟩⟩⟩),D⟩;rw[hw,M8,if_neg oM,if_neg oM,if_neg oM,if_neg oM]
     .cases h
    .cases h
def FG(H:N7)(s:ByteArray)(i:Nat)(o:Out)(e:Env)(H2:N7):Prop:=
 H.next<=H2.low/\i6 H.next H H2/\((o= .exit 0/\dec s i=none/\e.get 0= .string s/\e.get 1=iV i)\/(o= .ret/\∃c n:Nat,dec s i=some (c,n)/\e.get 4=iV c/\e.get 5=iV n/\e.get 6=iV 0))
theorem Cs(H:N7)(s:ByteArray)(i:Nat)(hi:i<s.size)(hz:s.size<=1048576):∀k e H2,(∃n:Nat,k=5-n/\1<=n/\n<=5/\(∀m,1<=m->m<n->i+m<=s.size->kw s i m=false)/\e.get 0= .string s/\e.get 1=iV i/\e.get 7=iV n/\i6 H.next H H2/\H.next<=H2.low)->
  w7 (LE prog t6 (.loop Kz) e H2) (FG H s i):=by
 refine i8 _ _ ?_;rintro k e H2 ⟨n,hk,h1,h5,U,O,S,f7,hS,hl⟩;have u:(∀m,1<=m->m<=4->i+m<=s.size->kw s i m=false)->dec s i=none:=by
  intro a3;cases hd:dec s i with
  |none=>rfl
  |some q=>
   obtain⟨c,m⟩:=q;obtain⟨m1,m4,ms,mo,_⟩:=rG s i c m hi hd;rw[a3 m m1 m4 ms]at mo;cases mo
 rcases W:decide ((n:Int)<=4)with _|_
 .have hb:=dF W;refine J2 f7 W ?_;exact i9 ⟨hl,hS,.inl ⟨rfl,u fun m a b c=>U m a oM c,O,S⟩⟩
 have a8:=dT W;rcases b2:decide ((i:Int)+n<=s.size)with _|_
 .have hb:=dF b2;refine J6 O S f7 W b2 @wrap_small ?_;exact i9 ⟨hl,hS,.inl ⟨rfl,u fun m a b c=>U m a oM c,O,S⟩⟩
 have a9:=dT b2;have nt:(i:Int).toNat=i:=tN i;have q0:=O8 s i;have a2:=hS.next;have qv:=yb s i n;have J:∀e':Env,e'.get 0= .string s->e'.get 1=iV i->e'.get 7=iV n->e'.get 8=iV (I8 s i n)->w7 (u9 (inBlock 1 (LE prog t6 DU e' H2)) (LE prog t6 KA)) (cQ k (fun k e H2=>∃n:Nat,k=5-n/\1<=n/\n<=5/\(∀m,1<=m->m<n->i+m<=s.size->kw s i m=false)/\e.get 0= .string s/\e.get 1=iV i/\e.get 7=iV n/\i6 H.next H H2/\H.next<=H2.low) (FG H s i)):=by
  intro e' g0 g1 g7 g8;obtain⟨w,h,H3,hc,hh,hO,D⟩:=zL H2 (I8 s i n);have a1:i6 H.next H H3:=hS.trans (D.weaken a2);have a4:H.next<=H3.low:=D.lowAll _ a2 hl;have b0:(M8 (I8 s i n)).length<=4:=by unfold M8;split<;>(try split)<;>(try split)<;>(try split)<;>simp
  have z:=oF H3 H2.next s i (M8 (I8 s i n)) w hO oM oM oM;obtain⟨a,c,rfl⟩:=hO.slice;have en:decide (((M8 (I8 s i n)).length:Int)=n)=decide ((M8 (I8 s i n)).length=n):=decide_eq_decide.2 oM;have E:kw s i n=false->∀e2:Env,e2.get 0= .string s->e2.get 1=iV i->e2.get 7=iV ((n:Int)+1)->cQ k (fun k e H2=>∃n:Nat,k=5-n/\1<=n/\n<=5/\(∀m,1<=m->m<n->i+m<=s.size->kw s i m=false)/\e.get 0= .string s/\e.get 1=iV i/\e.get 7=iV n/\i6 H.next H H2/\H.next<=H2.low) (FG H s i) .normal e2 H3:=fun a5 e2 k0 k1 k7=>
   i4 (k-1) oM ⟨n+1,oM,oM,oM,fun m a b c=>by
    by_cases hm:m=n
    .rw[hm];exact a5
    .exact U m a oM c,k0,k1,k7,a1,a4⟩
  rw[DU];rcases X:decide ((M8 (I8 s i n)).length=n)with _|_
  .refine J7 g7 g8 hc hh en X @wrap_small ?_;exact E (by rw[kw,X];rfl) _ g0 g1 rfl
  .rcases b4:ya s i (M8 (I8 s i n))with _|_
   .rw[b4]at z;refine J10 g0 g1 g7 g8 hc hh en X z @wrap_small ?_;exact E (by rw[kw,X,b4];rfl) _ g0 g1 rfl
   .rw[b4]at z;obtain⟨r0,_,rd⟩:=Iv s i n h1 oM (by rw[kw,X,b4];rfl);refine J9 g0 g1 g7 g8 hc hh en X z ?_;refine z9 ⟨a4,a1,.inr ⟨rfl,_,n,rd,?_,rfl,rfl⟩⟩;rw[Int.toNat_of_nonneg r0];rfl
 rcases b5:decide (1<(n:Int))with _|_
 .have a6:=dF b5;have a7:n=1:=oM;refine J8 O S f7 W b2 b5 @wrap_small nt ?_;exact J _ O S f7 (by rw[I8,if_pos a7];rfl)
 .have a6:=dT b5;have hv:=kx H2 s i n oM oM oM oM;refine J9 O S f7 W b2 b5 @wrap_small nt hv ?_;exact J _ O S f7 (by rw[I8,if_neg oM];rfl)
theorem Fw(H:N7)(s:ByteArray)(i:Nat)(hi:i<s.size)(S:s.size<=1048576):(∀c n,dec s i=some (c,n)->CL prog t6 118 [.string s,iV i] H=some (.tuple #[iV c,iV n,iV 0],none))/\(dec s i=none->∃q:Int,q≠0/\CL prog t6 118 [.string s,iV i] H=some (.tuple #[iV 0,iV 0,iV q],none)):=by
 have U:decide ((i:Int)<0)=false:=decide_eq_false oM;have W:decide ((s.size:Int)<=i)=false:=decide_eq_false oM;rw[j7 Ef rfl _ sM];refine J2 U W ?_;refine j8 (F:=fun z=>(∀c n,dec s i=some (c,n)->u5 _ _ _ (u9 (inBlock 0 z) _)=some (.tuple #[iV c,iV n,iV 0],none))/\(dec s i=none->∃q:Int,q≠0/\u5 _ _ _ (u9 (inBlock 0 z) _)=some (.tuple #[iV 0,iV 0,iV q],none))) (Cs H s i hi S 4 _ _ ⟨1,rfl,oM,oM,fun m a b=>oM,rfl,rfl,rfl,i6.start H,lR⟩) ?_;rintro o e' H' ⟨hl,hS,⟨D,u,E,J⟩|⟨D,c,n,u,X,h5,h6⟩⟩
 .refine⟨fun c n h=>(by rw[u]at h;cases h),fun _=>?_⟩;obtain⟨t,O⟩:=Ix H' s i oM S;cases t with
  |true=>
   refine⟨7,by decide,?_⟩;exact J4 D E J O trivial
  |false=>
   refine⟨2,by decide,?_⟩;exact J4 D E J O trivial
 .refine⟨fun c' n' h=>?_,fun h=>(by rw[u]at h;cases h)⟩;rw[u]at h;cases h;exact J4 D X h5 h6 trivial
theorem gM{s:ByteArray}{i c n:Nat}(u:i<s.size)(h:dec s i=some (c,n)):1<=n/\i+n<=s.size:=⟨(rG s i c n u h).1,(rG s i c n u h).2.2.1⟩
theorem xq{s:ByteArray}{i c n:Nat}(h:dec s i=some (c,n)):c<=2097152:=by
 have:=Y1 s i;unfold dec at h;split at h
 .cases h;omega
 .split at h
  .split at h
   .cases h;omega
   .cases h
  .split at h
   .split at h
    .cases h;omega
    .cases h
   .split at h
    .split at h
     .cases h;omega
     .cases h
    .cases h
def rLs(s:ByteArray)(i:Nat):List Int:=
 if h:i<s.size then
  match hd:dec s i with
  |some (c,n)=>(c:Int)::rLs s (i+n)
  |none=>[]
 else []
termination_by s.size-i
decreasing_by have:=gM h hd;omega
def iK(s:ByteArray)(i:Nat):Bool:=
 if h:i<s.size then
  match hd:dec s i with
  |some (c,n)=>iK s (i+n)
  |none=>false
 else true
termination_by s.size-i
decreasing_by have:=gM h hd;omega
theorem oE{s:ByteArray}{i c n:Nat}(z:i<s.size)(h:dec s i=some (c,n)):rLs s i=(c:Int)::rLs s (i+n):=by
 rw[rLs,dif_pos z];split
 .rename_i D E u;rw[h]at u;cases u;rfl
 .rename_i u;rw[h]at u;cases u
theorem gt{s:ByteArray}{i:Nat}(h:i<s.size->dec s i=none):rLs s i=[]:=by
 rw[rLs];split
 .rename_i z;split
  .rename_i D E u;rw[h z]at u;cases u
  .rfl
 .rfl
theorem kv{s:ByteArray}{i c n:Nat}(z:i<s.size)(h:dec s i=some (c,n)):iK s i=iK s (i+n):=by
 rw[iK,dif_pos z];split
 .rename_i D E u;rw[h]at u;cases u;rfl
 .rename_i u;rw[h]at u;cases u
theorem ku{s:ByteArray}{i:Nat}(z:i<s.size)(h:dec s i=none):iK s i=false:=by
 rw[iK,dif_pos z];split
 .rename_i D E u;rw[h]at u;cases u
 .rfl
theorem vg{s:ByteArray}{i:Nat}(u:s.size<=i):iK s i=true:=by rw[iK,dif_neg oM]
theorem FX(s:ByteArray):∀k i,s.size-i=k->(CI s i=0↔iK s i=true):=by
 intro k;induction k using Nat.strongRecOn with
 |ind k J=>
  intro i O;by_cases z:i<s.size
  .rw[CI,dif_pos z];obtain⟨E,D⟩:=CJ s i z;cases u:dec s i with
   |none=>
    rw[dif_neg (D u),ku z u];have:=D u;simp [this]
   |some q=>
    obtain⟨c,n⟩:=q;have e:=E c n u;obtain⟨p1,p2⟩:=gM z u;rw[dif_pos (by rw[e]),e,kv z u];simp only[Int.toNat_natCast];exact J (s.size-(i+n)) oM (i+n) rfl
  .rw[CI,dif_neg z,vg oM];simp
theorem Dv(f:Int->Bool)(s:ByteArray):∀k i,s.size-i=k->iK s i=true->Du f s i=(rLs s i).all f:=by
 intro k;induction k using Nat.strongRecOn with
 |ind k D=>
  intro i E h;by_cases u:i<s.size
  .cases z:dec s i with
   |none=>rw[ku u z]at h;cases h
   |some q=>
    obtain⟨c,n⟩:=q;obtain⟨p1,p2⟩:=gM u z;rw[kv u z]at h;rw[Du,dif_pos u,wQ s i u c n z,oE u z,List.all_cons,<-D (s.size-(i+n)) oM (i+n) rfl h];simp only;cases f c<;>simp
  .rw[Du,dif_neg u,gt (fun q=>absurd q u)];rfl
theorem CM(s:ByteArray):aW s=((rLs s 0).all kD&&iK s 0):=by
 rw[aW];have h:=FX s _ 0 rfl;cases u:iK s 0 with
 |true=>rw[decide_eq_true (h.2 u),Dv kD s _ 0 rfl u];simp
 |false=>
  have:¬CI s 0=0:=fun q=>by rw[h.1 q]at u;cases u
  rw[decide_eq_false this];simp
def fA(n:Int):Value:= .int .i32 n
theorem sJ(s:ByteArray)(H:N7)(hs:s.size<=1048576)(L:List Int)(t:Bool):∀k e H2,(∃(i:Nat)(v:Value)(l:List Int),k=s.size-i/\i<=s.size/\l.length<=i/\e.get 0= .string s/\e.get 5=v/\e.get 6=iV i/\Z1 H2 H.next 1 v l.length (l.map fA)/\i6 H.next H H2/\H.next<=H2.low/\l++rLs s i=L/\iK s i=t)->
  w7 (LE prog t6 (.loop Ox) e H2) (fun o e H2=>∃(a:Int)(v:Value),Z1 H2 H.next 1 v L.length (L.map fA)/\i6 H.next H H2/\H.next<=H2.low/\((o= .exit 0/\t=true/\e.get 5=v/\e.get 6=iV a)\/(o= .ret/\t=false/\e.get 2=v/\e.get 3=iV a/\∃q:Int,q≠0/\e.get 4=iV q))):=by
 refine i8 _ _ ?_;rintro k e H2 ⟨i,v,l,hk,hi,a6,U,X,W,hO,J,hl,E,D⟩;rcases S:decide ((i:Int)<s.size)with _|_
 .have a3:=dF S;refine J3 U W S ?_;rw[gt (fun q=>oM),List.append_nil]at E;rw[vg oM]at D;exact i9 ⟨i,v,by rw[<-E];exact hO,J,hl,.inl ⟨rfl,D.symm,X,W⟩⟩
 .have a3:=dT S;have u:i<s.size:=oM;obtain⟨r1,r2⟩:=Fw H2 s i u hs;cases z:dec s i with
  |none=>
   obtain⟨q,hq,hc⟩:=r2 z;have a4:decide (q=0)=false:=decide_eq_false hq;refine J6 U X W S hc a4 ?_;rw[gt (fun _=>z),List.append_nil]at E;rw[ku u z]at D;exact z9 ⟨i,v,by rw[<-E];exact hO,J,hl,.inr ⟨rfl,D.symm,rfl,rfl,q,hq,rfl⟩⟩
  |some q=>
   obtain⟨c,n⟩:=q;obtain⟨p1,p2⟩:=gM u z;have a5:=xq z;have hc:=r1 c n z;have hw:IntKind.wrap .i32 (c:Int)=c:=du oM oM;obtain⟨v',H3,ha,a1,O⟩:=wk (P:=prog) (t:=150) FV.2.2.2.2.2.2 FW.1 FW.2.1 FW.2.2.1 oM oM (hO.push (bC [.int .i32 c] 1)) (c:=H2.next) (m:=1) (k:=1) (el:=[.int .i32 c]) j9 oM sM oM (by rw[i5];have:=J.next;omega);have a2:=(J.trans (i6.push (B:= .cells [.int .i32 c] true 1) J.next)).trans O;refine J8 U X W S hc hw ha @wrap_small ?_;rw[oE u z]at E;rw[kv u z]at D;refine i4 (k-n) oM ⟨i+n,v',l++[(c:Int)],oM,oM,by simp;omega,U,rfl,rfl,?_,a2,O.low hl,by rw[<-E];simp,D⟩;have e1:(l++[(c:Int)]).length=l.length+1:=sM;have e2:(l++[(c:Int)]).map fA=l.map fA++[.int .i32 c]:=by simp [fA]
   rw[e1,e2];exact a1
theorem Iw(H:N7)(s:ByteArray)(hs:s.size<=1048576):Ret (CL prog t6 95 [.string s] H) H fun w O=>∃(v:Value)(a q:Int),w= .tuple #[v,iV a,iV q]/\decide (q=0)=iK s 0/\Z1 O H.next 1 v (rLs s 0).length ((rLs s 0).map fA)/\i6 H.next H O:=by
 rw[j7 PG rfl _ sM];refine J1 @if_true.{1} ?_;refine j8 (F:=fun z=>Ret (u5 _ _ _ (u9 (inBlock 0 z) _)) _ _) (sJ s H hs (rLs s 0) (iK s 0) s.size _ _ ⟨0,_,[],rfl,oM,by simp,rfl,rfl,rfl,.inl ⟨rfl,rfl,rfl⟩,i6.start H,lR,rfl,rfl⟩) ?_;rintro o e' H' ⟨a,v,u,S,U,⟨E,J,h5,h6⟩|⟨E,J,X,h3,q,W,h4⟩⟩
 .refine J3 E h5 h6 ?_;rw[J];exact dI (fun D=>⟨v,a,0,rfl,rfl,u.na (by simpa using D),i6.refl _ _⟩) ⟨v,a,0,rfl,rfl,u.low _,S.ret U⟩
 .refine J4 E X h3 h4 ?_;rw[J];exact dI (fun D=>⟨v,a,q,rfl,decide_eq_false W,u.na (by simpa using D),i6.refl _ _⟩) ⟨v,a,q,rfl,decide_eq_false W,u.low _,S.ret U⟩
theorem CC(H0:N7)(lo:Nat)(a:Option Addr)(c:Nat)(q:Int)(l:List Int)(hn:l.length<=1048576)(hr:∀x∈l,-2147483648<=x/\x<=2147483647) (hv:Z1 H0 lo 1 (.slice a l.length c) l.length (l.map fA)) (r:Bool):
  ∀k e H2,(∃i:Nat,k=l.length-i/\i<=l.length/\e.get 3= .slice a l.length c/\e.get 5=iV q/\e.get 6=iV i/\H2=H0/\(l.drop i).all kD=r)->
  w7 (LE prog t6 (.loop NZ) e H2) (fun o e H2=>H2=H0/\((o= .exit 0/\r=true/\e.get 5=iV q)\/(o= .ret/\e.get 2= .bool false/\r=false))):=by
 refine i8 _ _ ?_;rintro k e H2 ⟨i,hk,hi,z,O,E,hH,u⟩;subst hH;rcases b:decide ((i:Int)<l.length)with _|_
 .have J:=dF b;have:l.drop i=[]:=dN oM;rw[this,List.all_nil]at u;refine J3 z E b ?_;exact i9 ⟨rfl,.inl ⟨rfl,u.symm,O⟩⟩
 .have J:=dT b;rcases hv with⟨_,h0,_⟩|⟨nb,X,U,_,_⟩
  .omega
  obtain⟨rfl,rfl⟩:a=some ⟨nb,0,none⟩/\c=l.length+1:=by simpa using X
  obtain⟨x,W,hd⟩:=S6 (l:=l) (i:=i) oM;have a1:=hr x (mG W);rw[hd,List.all_cons]at u;have nt:(i:Int).toNat=i:=tN i;have S:(l.map fA)[i]?=some (.int .i32 x):=by rw[List.getElem?_map,W];rfl
  rcases D:kD x with _|_
  .rw[D]at u;refine J9 z E b U @wrap_small @Nat.mul_one S @vm D ?_;exact z9 ⟨rfl,.inr ⟨rfl,rfl,by rw[<-u];rfl⟩⟩
  .rw[D]at u;refine J9 z E b U @wrap_small @Nat.mul_one S @vm D ?_;exact i4 (k-1) oM ⟨i+1,oM,oM,z,O,rfl,rfl,by rw[<-u];rfl⟩
theorem Ch(s:ByteArray):∀k i,s.size-i=k->(rLs s i).length<=s.size-i/\∀x∈rLs s i,-2147483648<=x/\x<=2147483647:=by
 intro k;induction k using Nat.strongRecOn with
 |ind k O=>
  intro i U;by_cases z:i<s.size
  .cases u:dec s i with
   |none=>rw[gt (fun _=>u)];simp
   |some q=>
    obtain⟨c,n⟩:=q;obtain⟨p1,p2⟩:=gM z u;have J:=xq u;obtain⟨S,E⟩:=O (s.size-(i+n)) oM (i+n) rfl;rw[oE z u];refine⟨by rw[List.length_cons];omega,fun x D=>?_⟩;rcases List.mem_cons.1 D with rfl|D
    .omega
    .exact E x D
  .rw[gt (fun q=>absurd q z)];simp
theorem S5(H:N7)(s:ByteArray)(hs:s.size<=1048576):CL prog t6 73 [.string s] H=some (.bool (aW s),none):=by
 obtain⟨w,h,J,hc,hh,v,a,q,rfl,hq,S,hS⟩:=Iw ⟨H.bs,H.next⟩ s hs;have u:=S;obtain⟨U,cv,rfl⟩:=S.ownC.slice;have a1:H.next<=J.low:=hS.low lR;obtain⟨f1,W⟩:=Ch s _ 0 rfl;rw[j7 PA rfl _ sM,CM];refine J2 hc hh ?_;refine j8 (F:=fun z=>u5 _ _ _ (u9 (inBlock 0 z) _)=_) (CC J H.next U cv q (rLs s 0) oM W u ((rLs s 0).all kD) (rLs s 0).length _ _ ⟨0,rfl,oM,rfl,rfl,rfl,rfl,rfl⟩) ?_;rintro o e' H' ⟨O,⟨D,E,h5⟩|⟨D,X,E⟩⟩
 .exact J5 D O h5 hq E trivial
 .exact J4 D O X E trivial
def dLs(s:ByteArray)(i:Nat):List Int:=
 if h:i<s.size then((Utf8.decode s i).1:Int)::dLs s (i+(Utf8.decode s i).2) else []
termination_by s.size-i
decreasing_by have:=Y3 s i;omega
theorem rI(s:ByteArray)(i:Nat):(Utf8.decode s i).1<=2097152:=by
 unfold Utf8.decode;simp only;split
 .omega
 .split
  .split
   .simp only;omega
   .simp [Utf8.runeError]
  .split
   .split
    .simp only;omega
    .simp [Utf8.runeError]
   .split
    .split
     .simp only;omega
     .simp [Utf8.runeError]
    .simp [Utf8.runeError]
theorem AV(s:ByteArray):∀k i,s.size-i=k->(dLs s i).length<=s.size-i/\∀x∈dLs s i,-2147483648<=x/\x<=2147483647:=by
 intro k;induction k using Nat.strongRecOn with
 |ind k D=>
  intro i O;rw[dLs];split
  .rename_i J;have S:=Y3 s i;have U:=rI s i;obtain⟨E,z⟩:=D (s.size-(i+(Utf8.decode s i).2)) oM (i+(Utf8.decode s i).2) rfl;refine⟨by rw[List.length_cons];omega,fun x u=>?_⟩;rcases List.mem_cons.1 u with rfl|u
   .omega
   .exact z x u
  .simp
theorem yw(s:ByteArray):∀b i(u:Array Value),s.size-i<=b->(Conv.runesFrom s b i u).toList=u.toList++(dLs s i).map fA:=by
 intro b;induction b with
 |zero=>
  intro i u D;rw[dLs,dif_neg oM];simp [Conv.runesFrom]
 |succ b E=>
  intro i u D;rw[Conv.runesFrom,dLs];by_cases z:i<s.size
  .have J:=Y3 s i;rw[if_pos z,dif_pos z];simp only;rw[E _ _ oM];simp [fA]
  .rw[if_neg z,dif_neg z];simp
theorem wP(H:N7)(s:ByteArray):Z4 prog H 9 150 (.string s)=some (sL H.next (dLs s 0).length ((dLs s 0).length+1),some (H.push (.cells ((dLs s 0).map fA) true 1))):=by
 have h:=yw s s.size 0 #[] oM;have u:(Conv.runesFrom s s.size 0 #[]).size=(dLs s 0).length:=by rw[<-Array.length_toList,h];simp
 simp only[Z4,FV,ty9,FW,u,h];simp
theorem uX(s:ByteArray):∀k i,s.size-i=k->0<i->od s i=(dLs s i).all je:=by
 intro k;induction k using Nat.strongRecOn with
 |ind k z=>
  intro i E u;rw[od,dLs];split
  .rename_i D;have J:=Y3 s i;rw[List.all_cons,<-z (s.size-(i+(Utf8.decode s i).2)) oM (i+(Utf8.decode s i).2) rfl oM,decide_eq_false (show¬i=0 from oM)];cases je (Utf8.decode s i).1<;>simp
  .rfl
theorem qK{s:ByteArray}:s.size=0↔s=eB:=by
 constructor
 .intro h;obtain⟨d⟩:=s;have:d= #[]:=Array.size_eq_zero_iff.1 h;rw[this];rfl
 .intro h;rw[h];rfl
def Y5:List Int->Bool
 |[]=>false
 |x::_=>fH x
theorem vO(s:ByteArray):iR s=(Y5 (dLs s 0)&&(dLs s 0).all je):=by
 rw[iR];by_cases z:s.size=0
 .have u:=qK.1 z;rw[dLs,dif_neg oM,decide_eq_true u];simp [Y5]
 .have u:¬s=eB:=fun q=>z (qK.2 q);have D:=Y3 s 0;rw[dLs,dif_pos oM,od,dif_pos oM,decide_eq_false u,List.all_cons,Y5,<-uX s _ (0+(Utf8.decode s 0).2) rfl oM];cases fH (Utf8.decode s 0).1<;>cases je (Utf8.decode s 0).1<;>simp
theorem xZ(H0:N7)(W:Nat)(l:List Int)(hn:l.length<=1048576)(hr:∀x∈l,-2147483648<=x/\x<=2147483647) (S:H0.get W=cE (l.map fA) 1) (r:Bool):
  ∀k e H2,(∃i:Nat,k=l.length-i/\i<=l.length/\e.get 3=sL W l.length (l.length+1)/\e.get 4=iV i/\H2=H0/\(l.drop i).all je=r)->
  w7 (LE prog t6 (.loop Oy) e H2) (fun o e H2=>H2=H0/\((o= .exit 0/\r=true)\/(o= .ret/\e.get 2= .bool false/\r=false))):=by
 refine i8 _ _ ?_;rintro k e H2 ⟨i,hk,hi,z,E,X,u⟩;subst X;rcases b:decide ((i:Int)<l.length)with _|_
 .have J:=dF b;have:l.drop i=[]:=dN oM;rw[this,List.all_nil]at u;refine J3 z E b ?_;exact i9 ⟨rfl,.inl ⟨rfl,u.symm⟩⟩
 .have J:=dT b;obtain⟨x,U,hd⟩:=S6 (l:=l) (i:=i) oM;have a1:=hr x (mG U);rw[hd,List.all_cons]at u;have nt:(i:Int).toNat=i:=tN i;have O:(l.map fA)[i]?=some (.int .i32 x):=by rw[List.getElem?_map,U];rfl
  rcases D:je x with _|_
  .rw[D]at u;refine J9 z E b S @wrap_small @Nat.mul_one O @vo D ?_;exact z9 ⟨rfl,.inr ⟨rfl,rfl,by rw[<-u];rfl⟩⟩
  .rw[D]at u;refine J9 z E b S @wrap_small @Nat.mul_one O @vo D ?_;exact i4 (k-1) oM ⟨i+1,oM,oM,z,rfl,rfl,by rw[<-u];rfl⟩
theorem V7(H:N7)(s:ByteArray)(hs:s.size<=1048576):CL prog t6 97 [.string s] H=some (.bool (iR s),none):=by
 obtain⟨f1,f2⟩:=AV s _ 0 rfl;have hz:N7.next ⟨H.bs,H.next⟩=H.next:=rfl;rw[j7 PH rfl _ sM,vO];have O:N7.get (N7.push ⟨H.bs,H.next⟩ (.cells ((dLs s 0).map fA) true 1)) H.next=some (.cells ((dLs s 0).map fA) true 1):=j9;have cv:Z4 prog ⟨H.bs,H.next⟩ 9 150 (.string s)=some (sL H.next (dLs s 0).length ((dLs s 0).length+1),some (N7.push ⟨H.bs,H.next⟩ (.cells ((dLs s 0).map fA) true 1))):=wP ⟨H.bs,H.next⟩ s;generalize dLs s 0=l at*;have D:decide ((l.length:Int)=0)=decide (l=[]):=decide_eq_decide.2 (by rw[<-List.length_eq_zero_iff];omega);rcases E:decide (l=[])with _|_
 .have S:=dF E;obtain⟨x,m,J⟩:=List.exists_cons_of_ne_nil S;have a3:=f2 x (by rw[J];simp);have a2:(0:Int)<(l.length:Int):=by rw[J];simp only[List.length_cons];omega
  have hc:(l.map fA)[0]?=some (.int .i32 x):=by rw[J];rfl
  have u:Y5 l=fH x:=by rw[J,Y5]
  rw[u];rcases X:fH x with _|_
  .exact J8 cv D E O hc @wrap_small @G9 X trivial
  .refine J8 cv D E O hc @wrap_small @G9 X ?_;refine j8 (F:=fun z=>u5 _ _ _ (u9 (inBlock 0 z) _)=_) (xZ _ H.next l oM f2 O (l.all je) l.length _ _ ⟨0,rfl,oM,rfl,rfl,rfl,rfl⟩) ?_;have a1:H.next<=(N7.push ⟨H.bs,H.next⟩ (bC (l.map fA) 1)).low:=lR;rintro o e' H' ⟨hH,⟨U,W⟩|⟨U,h2,W⟩⟩
   .exact J3 U W hH trivial
   .exact J4 U h2 W hH trivial
 .have he:=dT E;have u:Y5 l=false:=by rw[he,Y5]
  rw[u];exact J3 cv D E trivial
theorem To(H:N7)(a b:ByteArray)(E:a.size<=1048576)(J:b.size<=1048576):CL prog t6 74 [.agg #[.string a,.string b]] H=some (.bool (iQ a b),none):=by
 rw[j7 QV rfl _ sM];rw[iQ];rcases u:iR b with _|_
 .exact J2 @V7 u trivial
 rcases z:aW b with _|_
 .exact J4 @V7 @S5 u z trivial
 rcases D:aW a with _|_
 .exact J5 @V7 @S5 u z D trivial
 refine J5 @V7 @S5 u z D ?_;rfl
def jm(s x:ByteArray)(i:Nat):Int:=
 if h:i+x.size<=s.size/\i<=s.size then(if s.extract i (i+x.size)=x then(i:Int) else jm s x (i+1)) else -1
termination_by s.size+1-i
theorem yB{P:Program}(H:N7)(t:TypeId)(s:ByteArray)(i j:Nat)(D:P.underlying t=some .string)(u:i<=j)(z:j<=s.size):aH P H t (.string s) (some (.int .i64 i)) (some (.int .i64 j)) none=some (.string (s.extract i j)):=by
 simp only[aH,D,bnd,Int.natCast_nonneg,if_true,Int.toNat_natCast];rw[if_pos ⟨u,z⟩]
theorem Bh(H0:N7)(s x:ByteArray)(hs:s.size<=1048576)(hx:x.size<=1048576)(r:Int):
  ∀k e H2,(∃i:Nat,k=s.size+1-i/\i<=s.size+1/\e.get 0= .string s/\e.get 2= .string x/\e.get 7=iV i/\H2=H0/\jm s x i=r)->
  w7 (LE prog t6 (.loop KB) e H2) (fun o e H2=>H2=H0/\((o= .exit 0/\r= -1)\/(o= .ret/\e.get 6=iV r))):=by
 refine i8 _ _ ?_;rintro k e H2 ⟨i,hk,hi,E,J,O,U,u⟩;have X:H0=H0:=rfl;subst U;rcases b:decide ((i:Int)+x.size<=s.size)with _|_
 .have W:=dF b;rw[jm,dif_neg oM]at u;refine J5 E J O @wrap_small b ?_;exact i9 ⟨rfl,.inl ⟨rfl,u.symm⟩⟩
 have W:=dT b;rw[jm,dif_pos oM]at u;have z:=yB (P:=prog) H2 9 s i (i+x.size) (by simp [ty9]) oM oM;have S:((i+x.size:Nat):Int)=(i:Int)+x.size:=oM;rw[S]at z;rcases D:decide (s.extract i (i+x.size)=x)with _|_
 .rw[if_neg (dF D)]at u;refine J7 E J O @wrap_small b z D ?_;exact i4 (k-1) oM ⟨i+1,oM,oM,E,J,rfl,rfl,u⟩
 .rw[if_pos (dT D)]at u;refine J7 E J O @wrap_small b z D ?_;exact z9 ⟨rfl,.inr ⟨rfl,by rw[<-u];rfl⟩⟩
theorem vn(H:N7)(s x:ByteArray)(O:s.size<=1048576)(S:x.size<=1048576):CL prog t6 125 [.string s,iV 0,.string x] H=some (.int .i64 (jm s x 0),none):=by
 rw[j7 Jm rfl _ sM];refine J1 ty3 ?_;refine j8 (F:=fun z=>u5 _ _ _ (u9 (inBlock 0 z) _)=_) (Bh ⟨H.bs,H.next⟩ s x O S (jm s x 0) (s.size+1) _ _ ⟨0,rfl,oM,rfl,rfl,rfl,rfl,rfl⟩) ?_;rintro o e' H' ⟨D,⟨u,J⟩|⟨u,E⟩⟩
 .exact J3 u D J trivial
 .exact J3 u D E trivial
def lq:ByteArray:=⟨#[104,116,116,112,58,47,47,119,119,119,46,119,51,46,111,114,103,47,50,48,48,48,47,120,109,108,110,115,47]⟩
def qNamed(sp lc:ByteArray):Bool:= !decide (sp=lq)&&iR lc&&aW lc&&aW sp&&decide (jm sp ⟨#[123]⟩ 0<0)&&decide (jm sp ⟨#[125]⟩ 0<0)
theorem ym(H:N7)(a b:ByteArray)(S:a.size<=1048576)(U:b.size<=1048576):CL prog t6 100 [.agg #[.string a,.string b]] H=some (.bool (qNamed a b),none):=by
 have W:(⟨#[123]⟩:ByteArray).size<=1048576:=by decide
 have X:(⟨#[125]⟩:ByteArray).size<=1048576:=by decide
 rw[j7 OC rfl _ sM];rw[qNamed];rcases z:decide (a=lq)with _|_
 .rcases D:iR b with _|_
  .have u:=z;rw[lq]at u;exact J3 @V7 u D trivial
  rcases E:aW b with _|_
  .have u:=z;rw[lq]at u;exact J5 @V7 @S5 u D E trivial
  rcases J:aW a with _|_
  .have u:=z;rw[lq]at u;exact J6 @V7 @S5 u D E J trivial
  rcases O:decide (jm a ⟨#[123]⟩ 0<0)with _|_
  .have u:=z;rw[lq]at u;exact J8 @V7 @S5 @vn u D E J O trivial
  have u:=z;rw[lq]at u;exact J8 @V7 @S5 @vn u D E J O trivial
 .have u:=z;rw[lq]at u;exact J1 u trivial
def lst(f:Bool)(o:Int):Int:=if f then(if o=8 then 1 else if o=9\/o=10 then 2 else 0) else(if o=4\/o=5 then 2 else if o=6 then 1 else 0)
def mst(f:Bool)(o:Int):Int:=if f then(if o=8 then 1 else if o=9\/o=10 then 64 else 0) else(if o=4\/o=5 then 64 else if o=6 then 1 else 0)
def okN(op s least most:Int)(na nb:Nat):Bool:=decide (least<=na)&&decide ((na:Int)<=most)&&(decide (op=s)==decide (nb=1))&&decide (nb<=1)
def xn(op:Int):Bool:=decide (4<=op)&&decide (op<=6)
def Ex(op:Int):Bool:=decide (op=6)||decide (op=7)
def iH(hn:Bool)(sp lc:ByteArray):Bool:=(hn== !(decide (sp=eB)&&decide (lc=eB)))&&(!hn||qNamed sp lc)
def uY(hv:Bool)(op:Int)(vl:ByteArray):Bool:=(hv||decide (vl=eB))&& !(decide (op=7)&&decide (vl=eB))&&aW vl
def iG(f:Bool)(q:Q):Bool:=if f then decide (q.op<=11)&&iH (xn q.op) q.sp q.lc&&uY (Ex q.op) q.op q.vl else decide (q.op<=7)
def okQ:Nat->Bool->Q->Bool
 |0,_,_=>false
 |d+1,f,q=>decide (1<=q.op)&&iG f q&&okN q.op (if f then 11 else 7) (lst f q.op) (mst f q.op) q.a.length q.b.length&&q.a.all (okQ d f)&&q.b.all (okQ d !f)
def iX(fn:Nat)(f:Bool)(d:Nat):Prop:=∀(k:Nat)(H:N7)(lo:Nat)(cs:LV)(q:Q),lo<=H.next->QR H lo k f cs q->CL prog t6 fn [.agg cs.toArray,iV d] H=some (.bool (okQ d f q),none)
theorem Fg(d:Nat)(a2:d<=64)(ih:iX 51 false d)(k:Nat)(H0:N7)(lo:Nat)(va:Option Addr)(ca:Nat)(l:List Q)(a1:lo<=H0.next)(hv:QsR H0 lo k false (.slice va l.length ca) l)(hn:l.length<=1048576)(S:Nat)(cl:LV)(W:H0.get S=cE cl 1)(hc:cl[1]?=some (.slice va l.length ca))(r:Bool):
  ∀kk e H2,(∃i:Nat,kk=l.length-i/\i<=l.length/\e.get 1=iV ((d:Int)+1)/\e.get 2=pT S/\e.get 7=iV i/\H2=H0/\(l.drop i).all (okQ d false)=r)->
  w7 (LE prog t6 (.loop ND) e H2) (fun o e H2=>H2=H0/\((o= .exit 0/\e.get 1=iV ((d:Int)+1)/\e.get 2=pT S/\r=true)\/(o= .ret/\e.get 4= .bool false/\r=false))):=by
 refine i8 _ _ ?_;rintro kk e H2 ⟨i,hk,hi,O,E,U,hH,D⟩;subst hH;rcases b:decide ((i:Int)<l.length)with _|_
 .have X:=dF b;have:l.drop i=[]:=dN oM;rw[this]at D;refine J5 E U W hc b ?_;exact i9 ⟨rfl,.inl ⟨rfl,O,E,D.symm⟩⟩
 have X:=dT b;obtain⟨x,nb,o,cs,own,el,hx,hd,rfl,a4,hg,a3,u,hr⟩:=hv.row (i:=i) oM;have nt:(i:Int).toNat=i:=tN i;rw[hd,List.all_cons]at D;simp only[qSz,if_true,bF]at u hg;have z:=ih k H2 lo el x a1 hr;have J:(d:Int)+1-1=d:=oM;rcases b2:okQ d false x with _|_
 .rw[b2]at z D;refine J12 O E U W hc b hg nt u @wrap_small J z ?_;exact z9 ⟨rfl,.inr ⟨rfl,rfl,by rw[<-D];rfl⟩⟩
 .rw[b2]at z D;refine J12 O E U W hc b hg nt u @wrap_small J z ?_;exact i4 (kk-1) oM ⟨i+1,oM,oM,O,E,rfl,rfl,D⟩
theorem Fh(d:Nat)(a2:d<=64)(ih:iX 78 true d)(k:Nat)(H0:N7)(lo:Nat)(va:Option Addr)(ca:Nat)(l:List Q)(a1:lo<=H0.next)(hv:QsR H0 lo k true (.slice va l.length ca) l)(hn:l.length<=1048576)(S:Nat)(cl:LV)(W:H0.get S=cE cl 1)(hc:cl[4]?=some (.slice va l.length ca))(r:Bool):
  ∀kk e H2,(∃i:Nat,kk=l.length-i/\i<=l.length/\e.get 1=iV ((d:Int)+1)/\e.get 2=pT S/\e.get 9=iV i/\H2=H0/\(l.drop i).all (okQ d true)=r)->
  w7 (LE prog t6 (.loop Oc) e H2) (fun o e H2=>H2=H0/\((o= .exit 0/\e.get 1=iV ((d:Int)+1)/\e.get 2=pT S/\r=true)\/(o= .ret/\e.get 4= .bool false/\r=false))):=by
 refine i8 _ _ ?_;rintro kk e H2 ⟨i,hk,hi,O,E,U,hH,D⟩;subst hH;rcases b:decide ((i:Int)<l.length)with _|_
 .have X:=dF b;have:l.drop i=[]:=dN oM;rw[this]at D;refine J5 E U W hc b ?_;exact i9 ⟨rfl,.inl ⟨rfl,O,E,D.symm⟩⟩
 have X:=dT b;obtain⟨x,nb,o,cs,own,el,hx,hd,rfl,a4,hg,a3,u,hr⟩:=hv.row (i:=i) oM;have nt:(i:Int).toNat=i:=tN i;rw[hd,List.all_cons]at D;simp only[qSz,if_true,bF]at u hg;have z:=ih k H2 lo el x a1 hr;have J:(d:Int)+1-1=d:=oM;rcases b2:okQ d true x with _|_
 .rw[b2]at z D;refine J12 O E U W hc b hg nt u @wrap_small J z ?_;exact z9 ⟨rfl,.inr ⟨rfl,rfl,by rw[<-D];rfl⟩⟩
 .rw[b2]at z D;refine J12 O E U W hc b hg nt u @wrap_small J z ?_;exact i4 (kk-1) oM ⟨i+1,oM,oM,O,E,rfl,rfl,D⟩
theorem Fi(d:Nat)(a7:d<=64)(b8:iX 51 false d)(b9:iX 78 true d)(k:Nat)(H0:N7)(lo:Nat)(va wa:Option Addr)(ca a5:Nat)(a b:List Q)(a8:lo<=H0.next)(h1:QsR H0 lo k false (.slice va a.length ca) a)(h2:QsR H0 lo k true (.slice wa b.length a5) b)(b6:a.length<=1048576)(c5:b.length<=1048576)
  (bl:Nat) (cl:LV) (U:H0.get bl=cE cl 1) (op:Int) (a4:cl[0]?=some (.int .i64 op)) (hc:cl[1]?=some (.slice va a.length ca)) (S:cl[2]?=some (.slice wa b.length a5)) (u D:Int) (e:Env) (f1:e.get 1=iV ((d:Int)+1)) (f2:e.get 2=pT bl) (fL:e.get 5=iV u) (fM:e.get 6=iV D):
  w7 (LE prog t6 GZ e H0) (fun o e H2=>H2=H0/\o= .ret/\e.get 4= .bool (okN op 7 u D a.length b.length&&a.all (okQ d false)&&b.all (okQ d true))):=by
 have a2:∀x y:Bool,F6 prog .neq 4 (.bool x) (.bool y)=some (.bool (!(x==y))):=fun x y=>eI 4 x y ty4.2.2.2.2.2.2.1;rw[GZ,okN];rcases b1:decide (u<=a.length)with _|_
 .have E:decide ((a.length:Int)<u)=true:=by have:=dF b1;exact decide_eq_true oM
  exact J5 f2 fL U hc E trivial
 have E:decide ((a.length:Int)<u)=false:=by have:=dT b1;exact decide_eq_false oM
 rcases b2:decide ((a.length:Int)<=D)with _|_
 .have J:decide (D<(a.length:Int))=true:=by have:=dF b2;exact decide_eq_true oM
  exact J7 f2 fL fM U hc E J trivial
 have J:decide (D<(a.length:Int))=false:=by have:=dT b2;exact decide_eq_false oM
 have e1:decide ((b.length:Int)=1)=decide (b.length=1):=decide_eq_decide.2 oM;rcases b3:(decide (op=7)==decide (b.length=1))with _|_
 .exact J12 f2 fL fM U a4 hc S E J a2 e1 b3 trivial
 rcases b4:decide (b.length<=1)with _|_
 .have X:decide ((1:Int)<b.length)=true:=by have:=dF b4;exact decide_eq_true oM
  exact J13 f2 fL fM U a4 hc S E J a2 e1 b3 X trivial
 have X:decide ((1:Int)<b.length)=false:=by have:=dT b4;exact decide_eq_false oM
 have c0:=dT b4;refine J13 f2 fL fM U a4 hc S E J a2 e1 b3 X ?_;refine j8 (F:=fun z=>w7 (u9 (inBlock 0 z) _) _) (Fg d a7 b8 k H0 lo va ca a a8 h1 b6 bl cl U hc (a.all (okQ d false)) a.length _ _ ⟨0,rfl,oM,f1,f2,rfl,rfl,rfl⟩) ?_;rintro o e' H' ⟨rfl,⟨ho,g1,g2,hr⟩|⟨ho,g4,hr⟩⟩
 .have b7:(d:Int)+1-1=d:=oM;rcases b5:decide (b.length=0)with _|_
  .have a6:=dF b5;have a1:decide ((b.length:Int)=0)=false:=decide_eq_false oM;have b0:b.length=1:=oM;obtain⟨x,nb,o,cs,own,el,hx,hd,rfl,c4,hg,c3,W,hR⟩:=h2.row (i:=0) oM;have a3:b=[x]:=by
    obtain⟨y,rfl⟩:=List.length_eq_one_iff.1 b0
    simpa using hx
   simp only[qSz,if_true,bF,Bool.not_false,Bool.not_true,Nat.zero_mul,Nat.add_zero]at W hg;have a9:=b9 k H' lo el x a8 hR;have O:b.all (okQ d true)=okQ d true x:=by rw[a3];simp
   rw[hr,O];exact J11 ho g1 g2 U S a1 hg W @wrap_small b7 a9 trivial
  .have a6:=dT b5;have a1:decide ((b.length:Int)=0)=true:=decide_eq_true oM;have a3:b=[]:=List.length_eq_zero_iff.1 a6;have O:b.all (okQ d true)=true:=by rw[a3];rfl
   rw[hr,O];exact J5 ho g2 U S a1 trivial
 .rw[hr];exact J2 ho g4 trivial
theorem Fj(d:Nat)(a7:d<=64)(b8:iX 78 true d)(b9:iX 51 false d)(k:Nat)(H0:N7)(lo:Nat)(va wa:Option Addr)(ca a5:Nat)(a b:List Q)(a8:lo<=H0.next)(h1:QsR H0 lo k true (.slice va a.length ca) a)(h2:QsR H0 lo k false (.slice wa b.length a5) b)(b6:a.length<=1048576)(c5:b.length<=1048576)
  (bl:Nat) (cl:LV) (U:H0.get bl=cE cl 1) (op:Int) (a4:cl[0]?=some (.int .i64 op)) (hc:cl[4]?=some (.slice va a.length ca)) (S:cl[5]?=some (.slice wa b.length a5)) (u D:Int) (e:Env) (f1:e.get 1=iV ((d:Int)+1)) (f2:e.get 2=pT bl) (fL:e.get 7=iV u) (fM:e.get 8=iV D):
  w7 (LE prog t6 Hg e H0) (fun o e H2=>H2=H0/\o= .ret/\e.get 4= .bool (okN op 11 u D a.length b.length&&a.all (okQ d true)&&b.all (okQ d false))):=by
 have a2:∀x y:Bool,F6 prog .neq 4 (.bool x) (.bool y)=some (.bool (!(x==y))):=fun x y=>eI 4 x y ty4.2.2.2.2.2.2.1;rw[Hg,okN];rcases b1:decide (u<=a.length)with _|_
 .have E:decide ((a.length:Int)<u)=true:=by have:=dF b1;exact decide_eq_true oM
  exact J5 f2 fL U hc E trivial
 have E:decide ((a.length:Int)<u)=false:=by have:=dT b1;exact decide_eq_false oM
 rcases b2:decide ((a.length:Int)<=D)with _|_
 .have J:decide (D<(a.length:Int))=true:=by have:=dF b2;exact decide_eq_true oM
  exact J7 f2 fL fM U hc E J trivial
 have J:decide (D<(a.length:Int))=false:=by have:=dT b2;exact decide_eq_false oM
 have e1:decide ((b.length:Int)=1)=decide (b.length=1):=decide_eq_decide.2 oM;rcases b3:(decide (op=11)==decide (b.length=1))with _|_
 .exact J12 f2 fL fM U a4 hc S E J a2 e1 b3 trivial
 rcases b4:decide (b.length<=1)with _|_
 .have X:decide ((1:Int)<b.length)=true:=by have:=dF b4;exact decide_eq_true oM
  exact J13 f2 fL fM U a4 hc S E J a2 e1 b3 X trivial
 have X:decide ((1:Int)<b.length)=false:=by have:=dT b4;exact decide_eq_false oM
 have c0:=dT b4;refine J13 f2 fL fM U a4 hc S E J a2 e1 b3 X ?_;refine j8 (F:=fun z=>w7 (u9 (inBlock 0 z) _) _) (Fh d a7 b8 k H0 lo va ca a a8 h1 b6 bl cl U hc (a.all (okQ d true)) a.length _ _ ⟨0,rfl,oM,f1,f2,rfl,rfl,rfl⟩) ?_;rintro o e' H' ⟨rfl,⟨ho,g1,g2,hr⟩|⟨ho,g4,hr⟩⟩
 .have b7:(d:Int)+1-1=d:=oM;rcases b5:decide (b.length=0)with _|_
  .have a6:=dF b5;have a1:decide ((b.length:Int)=0)=false:=decide_eq_false oM;have b0:b.length=1:=oM;obtain⟨x,nb,o,cs,own,el,hx,hd,rfl,c4,hg,c3,W,hR⟩:=h2.row (i:=0) oM;have a3:b=[x]:=by
    obtain⟨y,rfl⟩:=List.length_eq_one_iff.1 b0
    simpa using hx
   simp only[qSz,if_true,bF,Bool.not_false,Bool.not_true,Nat.zero_mul,Nat.add_zero]at W hg;have a9:=b9 k H' lo el x a8 hR;have O:b.all (okQ d false)=okQ d false x:=by rw[a3];simp
   rw[hr,O];exact J11 ho g1 g2 U S a1 hg W @wrap_small b7 a9 trivial
  .have a6:=dT b5;have a1:decide ((b.length:Int)=0)=true:=decide_eq_true oM;have a3:b=[]:=List.length_eq_zero_iff.1 a6;have O:b.all (okQ d false)=true:=by rw[a3];rfl
   rw[hr,O];exact J5 ho g2 U S a1 trivial
 .rw[hr];exact J2 ho g4 trivial
theorem xS(d:Int)(sp lc:ByteArray)(a2:sp.size<=1048576)(a1:lc.size<=1048576)(D:N7)(X:Nat)(cl:LV)(U:D.get X=cE cl 1)(W:ldC (some true) (some 2) 1 cl=some (.agg #[.string sp,.string lc]))(J hv:Bool)(e:Env)(f1:e.get 1=iV d)(E:e.get 2=pT X)(S:e.get 5= .bool J)(f6:e.get 6= .bool hv):
  (iH J sp lc=false/\∃e',LE prog t6 DW e D=some (.ret,e',D)/\e'.get 4= .bool false)\/(iH J sp lc=true/\∃e',LE prog t6 DW e D=LE prog t6 uk e' D/\e'.get 1=iV d/\e'.get 2=pT X/\e'.get 6= .bool hv):=by
 have u:∀x y:Bool,F6 prog .neq 4 (.bool x) (.bool y)=some (.bool (!(x==y))):=fun x y=>eI 4 x y ty4.2.2.2.2.2.2.1;rw[DW,iH];rcases O:(J== !(decide (sp=eB)&&decide (lc=eB)))with _|_
 .refine J6 E S U W u O ?_;exact .inl ⟨_,rfl,rfl⟩
 rcases J with _|_
 .refine J6 E S U W u O ?_;exact .inr ⟨_,rfl,f1,E,f6⟩
 have z:=ym D sp lc a2 a1;rcases b2:qNamed sp lc with _|_
 .rw[b2]at z;refine J7 E S U W u O z ?_;exact .inl ⟨_,rfl,rfl⟩
 .rw[b2]at z;refine J7 E S U W u O z ?_;exact .inr ⟨_,rfl,f1,E,f6⟩
theorem BT(d op:Int)(vl:ByteArray)(hq:vl.size<=1048576)(z:N7)(J:Nat)(S:LV)(hb:z.get J=cE S 1)(U:S[0]?=some (.int .i64 op))(W:S[3]?=some (.string vl))(O:Bool)(e:Env)(f1:e.get 1=iV d)(X:e.get 2=pT J)(f6:e.get 6= .bool O):
  (uY O op vl=false/\∃e',LE prog t6 uk e z=some (.ret,e',z)/\e'.get 4= .bool false)\/(uY O op vl=true/\∃e',LE prog t6 uk e z=LE prog t6 DX e' z/\e'.get 1=iV d/\e'.get 2=pT J):=by
 rw[uk,uY];have ht:=S5 z vl hq;have key:∀(t:Bool),aW vl=t->∀(D:Bool),decide (vl=eB)=D->∀(E:Bool),decide (op=7)=E->∀u:Bool,u=O->
   (((u||D)&& !(E&&D)&&t)=false/\∃e',LE prog t6 uk e z=some (.ret,e',z)/\e'.get 4= .bool false)\/(((u||D)&& !(E&&D)&&t)=true/\∃e',LE prog t6 uk e z=LE prog t6 DX e' z/\e'.get 1=iV d/\e'.get 2=pT J):=by
  intro t h1 D h2 E h3 u h4;subst h4;rw[h1]at ht;rw[uk];cases u<;>cases D<;>cases E<;>cases t<;>(simp(maxSteps:=20000000) -dsimp (disch:=first|omega|(simp only[rH]<;>omega)|fail) only[↓ig,rQ,N3,sevalprocAttr,tyA,X,f6,hb,U,W,h2,h3,ht])<;>first|exact .inl ⟨_,rfl,rfl⟩|exact .inr ⟨_,rfl,f1,X⟩
 exact key _ rfl _ rfl _ rfl _ rfl
theorem Rr(d:Nat)(a1:d<=64)(a4:iX 51 false d)(a5:iX 78 true d):iX 51 false (d+1):=by
 intro k H lo cs q a7 hr;cases k with
 |zero=>exact hr.elim
 |succ k=>
 obtain⟨va,ca,wa,U,rfl,h1,h2,h3,h4⟩:=hr.path;have e1:((d+1:Nat):Int)=(d:Int)+1:=oM;rw[j7 Pq rfl _ sM,okQ,iG,e1];have X:decide ((d:Int)+1=0)=false:=decide_eq_false oM;obtain⟨H1,D,-,W,hS⟩:=pushF H (bC [iV q.op,.slice va q.a.length ca,.slice wa q.b.length U] 1);have a6:H.next<=H1.low:=by rw[D,l9];exact lR
 have hn:=hS.next;have a2:QsR H1 lo k false (.slice va q.a.length ca) q.a:=h1.mono (fun j hj=>hS.get j oM) lR;have a3:QsR H1 lo k true (.slice wa q.b.length U) q.b:=h2.mono (fun j hj=>hS.get j oM) lR;rcases b1:decide (1<=q.op)with _|_
 .have u:decide (q.op<1)=true:=by have:=dF b1;exact decide_eq_true oM
  exact J4 D.symm W X u trivial
 have u:decide (q.op<1)=false:=by have:=dT b1;exact decide_eq_false oM
 rcases b2:decide (q.op<=7)with _|_
 .have E:decide (7<q.op)=true:=by have:=dF b2;exact decide_eq_true oM
  exact J5 D.symm W X u E trivial
 have E:decide (7<q.op)=false:=by have:=dT b2;exact decide_eq_false oM
 have O:∀(e:Env),e.get 1=iV ((d:Int)+1)->e.get 2=pT H.next->e.get 5=iV (lst false q.op)->e.get 6=iV (mst false q.op)->
   u5 prog [.tmp 4] H (LE prog t6 GZ e H1)=some (.bool (okN q.op 7 (lst false q.op) (mst false q.op) q.a.length q.b.length&&q.a.all (okQ d false)&&q.b.all (okQ d !false)),none):=by
  intro e f1 f2 f5 f6;refine j8 (F:=fun z=>u5 _ _ _ z=_) (Fi d a1 a4 a5 k H1 lo va wa ca U q.a q.b oM a2 a3 h3 h4 H.next _ W q.op rfl rfl rfl _ _ e f1 f2 f5 f6) ?_;rintro o e' H' ⟨hH,ho,g4⟩;exact J3 ho hH g4 trivial
 by_cases o4:q.op=4
 .have J:lst false q.op=2/\mst false q.op=64:=by rw[o4];decide
  have c4:decide (q.op=4)=true:=decide_eq_true o4;have S:decide (q.op=6)=false:=decide_eq_false oM;refine J7 D.symm W X u E c4 S ?_;exact O _ rfl rfl (by rw[J.1];rfl) (by rw[J.2];rfl)
 have c4:decide (q.op=4)=false:=decide_eq_false o4;by_cases o5:q.op=5
 .have J:lst false q.op=2/\mst false q.op=64:=by rw[o5];decide
  have c5:decide (q.op=5)=true:=decide_eq_true o5;have S:decide (q.op=6)=false:=decide_eq_false oM;refine J8 D.symm W X u E c4 c5 S ?_;exact O _ rfl rfl (by rw[J.1];rfl) (by rw[J.2];rfl)
 have c5:decide (q.op=5)=false:=decide_eq_false o5;by_cases o6:q.op=6
 .have J:lst false q.op=1/\mst false q.op=1:=by rw[o6];decide
  have S:decide (q.op=6)=true:=decide_eq_true o6;refine J8 D.symm W X u E c4 c5 S ?_;exact O _ rfl rfl (by rw[J.1];rfl) (by rw[J.2];rfl)
 have S:decide (q.op=6)=false:=decide_eq_false o6;have J:lst false q.op=0/\mst false q.op=0:=by simp [lst,mst,o4,o5,o6]
 refine J8 D.symm W X u E c4 c5 S ?_;exact O _ rfl rfl (by rw[J.1];rfl) (by rw[J.2];rfl)
theorem Rs(d:Nat)(a4:d<=64)(a7:iX 78 true d)(a8:iX 51 false d):iX 78 true (d+1):=by
 intro k H lo cs q b5 hr;cases k with
 |zero=>exact hr.elim
 |succ k=>
 obtain⟨va,ca,wa,a2,rfl,h1,h2,h3,h4,z1,z2,z3⟩:=hr.filter;have e1:((d+1:Nat):Int)=(d:Int)+1:=oM;rw[j7 PB rfl _ sM,okQ,iG,e1,if_pos rfl];have b0:decide ((d:Int)+1=0)=false:=decide_eq_false oM;obtain⟨O,W,-,J,hS⟩:=pushF H (bC [iV q.op,.string q.sp,.string q.lc,.string q.vl,.slice va q.a.length ca,.slice wa q.b.length a2] 1);have b4:H.next<=O.low:=by rw[W,l9];exact lR
 have hn:=hS.next;have a5:QsR O lo k true (.slice va q.a.length ca) q.a:=h1.mono (fun j hj=>hS.get j oM) lR;have a6:QsR O lo k false (.slice wa q.b.length a2) q.b:=h2.mono (fun j hj=>hS.get j oM) lR;rcases b1:decide (1<=q.op)with _|_
 .have S:decide (q.op<1)=true:=by have:=dF b1;exact decide_eq_true oM
  exact J4 W.symm J b0 S trivial
 have S:decide (q.op<1)=false:=by have:=dT b1;exact decide_eq_false oM
 rcases b2:decide (q.op<=11)with _|_
 .have a1:decide (11<q.op)=true:=by have:=dF b2;exact decide_eq_true oM
  exact J5 W.symm J b0 S a1 trivial
 have a1:decide (11<q.op)=false:=by have:=dT b2;exact decide_eq_false oM
 have U:∀(e:Env),e.get 1=iV ((d:Int)+1)->e.get 2=pT H.next->e.get 7=iV (lst true q.op)->e.get 8=iV (mst true q.op)->
   u5 prog [.tmp 4] H (LE prog t6 Hg e O)=some (.bool (okN q.op 11 (lst true q.op) (mst true q.op) q.a.length q.b.length&&q.a.all (okQ d true)&&q.b.all (okQ d !true)),none):=by
  intro e f1 u f5 f6;refine j8 (F:=fun z=>u5 _ _ _ z=_) (Fj d a4 a7 a8 k O lo va wa ca a2 q.a q.b oM a5 a6 h3 h4 H.next _ J q.op rfl rfl rfl _ _ e f1 u f5 f6) ?_;rintro o e' H' ⟨hH,ho,g4⟩;exact J3 ho hH g4 trivial
 have a9:∀(e:Env),e.get 1=iV ((d:Int)+1)->e.get 2=pT H.next->
   u5 prog [.tmp 4] H (LE prog t6 DX e O)=some (.bool (okN q.op 11 (lst true q.op) (mst true q.op) q.a.length q.b.length&&q.a.all (okQ d true)&&q.b.all (okQ d !true)),none):=by
  intro e f1 u;rw[DX];by_cases o8:q.op=8
  .have E:lst true q.op=1/\mst true q.op=1:=by rw[o8];decide
   have c8:decide (q.op=8)=true:=decide_eq_true o8;have c9:decide (q.op=9)=false:=decide_eq_false oM;have D:decide (q.op=10)=false:=decide_eq_false oM;refine J5 u J c8 c9 D ?_;exact U _ f1 u (by rw[E.1];rfl) (by rw[E.2];rfl)
  have c8:decide (q.op=8)=false:=decide_eq_false o8;by_cases o9:q.op=9
  .have E:lst true q.op=2/\mst true q.op=64:=by rw[o9];decide
   have c9:decide (q.op=9)=true:=decide_eq_true o9;refine J4 u J c8 c9 ?_;exact U _ f1 u (by rw[E.1];rfl) (by rw[E.2];rfl)
  have c9:decide (q.op=9)=false:=decide_eq_false o9;by_cases X:q.op=10
  .have E:lst true q.op=2/\mst true q.op=64:=by rw[X];decide
   have D:decide (q.op=10)=true:=decide_eq_true X;refine J5 u J c8 c9 D ?_;exact U _ f1 u (by rw[E.1];rfl) (by rw[E.2];rfl)
  have D:decide (q.op=10)=false:=decide_eq_false X;have E:lst true q.op=0/\mst true q.op=0:=by simp [lst,mst,o8,o9,X]
  refine J5 u J c8 c9 D ?_;exact U _ f1 u (by rw[E.1];rfl) (by rw[E.2];rfl)
 have b3:∀(e:Env),e.get 1=iV ((d:Int)+1)->e.get 2=pT H.next->e.get 5= .bool (xn q.op)->e.get 6= .bool (Ex q.op)->
   u5 prog [.tmp 4] H (LE prog t6 DW e O)=some (.bool (iH (xn q.op) q.sp q.lc&&uY (Ex q.op) q.op q.vl&&okN q.op 11 (lst true q.op) (mst true q.op) q.a.length q.b.length&&q.a.all (okQ d true)&&q.b.all (okQ d !true)),none):=by
  intro e f1 u f5 f6;rcases xS _ q.sp q.lc z1 z2 O H.next _ J rfl _ _ e f1 u f5 f6 with⟨hA,e',hE,g4⟩|⟨hA,e',hE,g1,g2,g6⟩
  .rw[hE,hA];exact J1 g4 trivial
  rw[hE,hA];rcases BT _ q.op q.vl z3 O H.next _ J rfl rfl _ e' g1 g2 g6 with⟨hB,e2,a3,k4⟩|⟨hB,e2,a3,k1,k2⟩
  .rw[a3,hB];exact J1 k4 trivial
  rw[a3,hB,a9 e2 k1 k2];simp only[Bool.true_and]
 have hN:∀a b:Bool,decide (4<=q.op)=a->decide (q.op<=6)=b->xn q.op=(a&&b):=by intro a b h h';rw[xn,h,h']
 have hV:∀a b:Bool,decide (q.op=6)=a->decide (q.op=7)=b->Ex q.op=(a||b):=by intro a b h h';rw[Ex,h,h']
 rcases h4:decide (4<=q.op)with _|_<;>rcases h6:decide (q.op<=6)with _|_<;>rcases k6:decide (q.op=6)with _|_<;>rcases k7:decide (q.op=7)with _|_<;>(simp(maxSteps:=20000000) -dsimp (disch:=first|omega|(simp only[rH]<;>omega)|fail) only[↓ig,rQ,N3,sevalprocAttr,tyA,<-W,J,b0,S,a1,h4,h6,k6,k7])<;>exact b3 _ rfl rfl (by rw[hN _ _ h4 h6];rfl) (by rw[hV _ _ k6 k7];rfl)
theorem Mb:∀d,d<=64->iX 51 false d/\iX 78 true d:=by
 intro d;induction d with
 |zero=>
  intro _
  constructor
  .intro k H lo cs q D u;cases k with
   |zero=>exact u.elim
   |succ k=>
   obtain⟨W,ca,X,z,rfl,E,J,O,S⟩:=u.path;rw[j7 Pq rfl _ sM,okQ];exact J1 @Int.natCast_zero trivial
  .intro k H lo cs q D u;cases k with
   |zero=>exact u.elim
   |succ k=>
   obtain⟨W,ca,X,z,rfl,E,J,O,S,z1,z2,z3⟩:=u.filter;rw[j7 PB rfl _ sM,okQ];exact J1 @Int.natCast_zero trivial
 |succ d U=>
  intro h;obtain⟨a,b⟩:=U oM;exact⟨Rr d oM a b,Rs d oM b a⟩
def gl(q:Q):Bool:=decide (szQ q 64<=64)&&okQ 16 false q
theorem yn(H:N7)(lo k:Nat)(cs:LV)(q:Q)(a2:lo<=H.next)(S:QR H lo k false cs q):CL prog t6 29 [.agg cs.toArray] H=some (.bool (gl q),none):=by
 cases k with
 |zero=>exact S.elim
 |succ k=>
 have U:=S;obtain⟨W,ca,X,z,rfl,h1,h2,h3,h4⟩:=S.path;obtain⟨J,D,-,hg,hS⟩:=pushF H (bC [iV q.op,.slice W q.a.length ca,.slice X q.b.length z] 1);have a1:H.next<=J.low:=by rw[D,l9];exact lR
 have hn:=hS.next;have u:ldC (some true) (some 3) 0 [iV q.op,.slice W q.a.length ca,.slice X q.b.length z]=some (.agg [iV q.op,.slice W q.a.length ca,.slice X q.b.length z].toArray):=rfl;have E:QR J lo (k+1) false _ q:=U.mono (fun j hj=>hS.get j oM) lR;have c1:=Fy J lo (k+1) _ q oM E;have c2:=(Mb 16 oM).1 (k+1) J lo _ q oM E;have O:((16:Nat):Int)=16:=rfl;rw[O]at c2;rw[j7 QH rfl _ sM,gl];rcases b:decide (szQ q 64<=64)with _|_
 .exact J5 D.symm hg u c1 b trivial
 .exact J6 D.symm hg u c1 c2 b trivial
mutual
def M6:Q->Q->Bool
 | .mk o s c v a b,y=>decide (o=y.op)&&(decide (s=y.sp)&&decide (c=y.lc))&&decide (v=y.vl)&&decide (a.length=y.a.length)&&decide (b.length=y.b.length)&&N1 a y.a&&N1 b y.b
def N1:List Q->List Q->Bool
 |[],_=>true
 |x::l,m=>(match m with|[]=>true|y::m=>M6 x y&&N1 l m)
end
theorem gB(x y:Q):M6 x y=(decide (x.op=y.op)&&(decide (x.sp=y.sp)&&decide (x.lc=y.lc))&&decide (x.vl=y.vl)&&decide (x.a.length=y.a.length)&&decide (x.b.length=y.b.length)&&N1 x.a y.a&&N1 x.b y.b):=by cases x;rw[M6];rfl
theorem Y8(x y:Q)(l m:List Q):N1 (x::l) (y::m)=(M6 x y&&N1 l m):=by rw[N1]
mutual
theorem ky:∀(x y:Q),M6 x y=true↔x=y
 | .mk o s c v a b,.mk o' s' c' v' a' b'=>by
  rw[gB];simp only[Bool.and_eq_true,decide_eq_true_eq];simp only[Q.op,Q.sp,Q.lc,Q.vl,Q.a,Q.b,Q.mk.injEq]
  constructor
  .rintro⟨⟨⟨⟨⟨⟨h1,h2,h3⟩,h4⟩,h5⟩,h6⟩,h7⟩,h8⟩;exact⟨h1,h2,h3,h4,(eo a a' h5).1 h7,(eo b b' h6).1 h8⟩
  .rintro⟨rfl,rfl,rfl,rfl,rfl,rfl⟩;exact⟨⟨⟨⟨⟨⟨rfl,rfl,rfl⟩,rfl⟩,rfl⟩,rfl⟩,(eo a a rfl).2 rfl⟩,(eo b b rfl).2 rfl⟩
theorem eo:∀(l m:List Q),l.length=m.length->(N1 l m=true↔l=m)
 |[],m,h=>by
  have:m=[]:=List.length_eq_zero_iff.1 (by simpa using h.symm);subst this;simp [N1]
 |x::l,[],h=>by simp at h
 |x::l,y::m,h=>by
  rw[Y8,Bool.and_eq_true,List.cons.injEq,ky x y,eo l m (by simpa using h)]
end
def P4(fn:Nat)(f:Bool)(k:Nat):Prop:=∀(H:N7)(lo:Nat)(c1 c2:LV)(x y:Q),lo<=H.next->QR H lo k f c1 x->QR H lo k f c2 y->CL prog t6 fn [.agg c1.toArray,.agg c2.toArray] H=some (.bool (M6 x y),none)
theorem Da(k:Nat)(ih:P4 92 false k)(H0:N7)(lo:Nat)(va vb:Option Addr)(ca cb:Nat)(l m:List Q)(b4:l.length=m.length)(a5:lo<=H0.next)(hv:QsR H0 lo k false (.slice va l.length ca) l)(hw:QsR H0 lo k false (.slice vb m.length cb) m)(hn:l.length<=1048576)(b1 U:Nat)(cl cm:LV)(J:H0.get b1=cE cl 1)(X:H0.get U=cE cm 1)(O:cl[1]?=some (.slice va l.length ca))(a1:cm[1]?=some (.slice vb m.length cb))(r:Bool):
  ∀kk e H2,(∃i:Nat,kk=l.length-i/\i<=l.length/\e.get 2=pT b1/\e.get 3=pT U/\e.get 5=iV i/\H2=H0/\N1 (l.drop i) (m.drop i)=r)->
  w7 (LE prog t6 (.loop Ou) e H2) (fun o e H2=>H2=H0/\((o= .exit 0/\e.get 2=pT b1/\e.get 3=pT U/\r=true)\/(o= .ret/\e.get 4= .bool false/\r=false))):=by
 refine i8 _ _ ?_;rintro kk e H2 ⟨i,hk,hi,W,f3,f6,hH,E⟩;subst hH;rcases b:decide ((i:Int)<l.length)with _|_
 .have a3:=dF b;have:l.drop i=[]:=dN oM;rw[this,N1]at E;refine J5 W f6 J O b ?_;exact i9 ⟨rfl,.inl ⟨rfl,W,f3,E.symm⟩⟩
 have a3:=dT b;obtain⟨x,nb,o,cs,own,el,hx,hd,rfl,b5,hg,b3,z,hr⟩:=hv.row (i:=i) oM;obtain⟨y,b7,o',cs',b0,a2,b6,a4,rfl,a8,S,a7,u,a6⟩:=hw.row (i:=i) oM;have nt:(i:Int).toNat=i:=tN i;have a9:(i:Int)<m.length:=oM;rw[hd,a4,Y8]at E;simp only[qSz,if_true,bF]at z hg u S;have D:=ih H2 lo el a2 x y a5 hr a6;rcases U:M6 x y with _|_
 .rw[U]at D E;refine J14 W f3 f6 J X O a1 b hg S nt z u D ?_;exact z9 ⟨rfl,.inr ⟨rfl,rfl,by rw[<-E];rfl⟩⟩
 .rw[U]at D E;refine J15 W f3 f6 J X O a1 b hg S nt z u @wrap_small D ?_;exact i4 (kk-1) oM ⟨i+1,oM,oM,W,f3,rfl,rfl,E⟩
theorem Db(k:Nat)(ih:P4 115 true k)(H0:N7)(lo:Nat)(va vb:Option Addr)(ca cb:Nat)(l m:List Q)(b4:l.length=m.length)(a5:lo<=H0.next)(hv:QsR H0 lo k true (.slice va l.length ca) l)(hw:QsR H0 lo k true (.slice vb m.length cb) m)(hn:l.length<=1048576)(b1 U:Nat)(cl cm:LV)(J:H0.get b1=cE cl 1)(X:H0.get U=cE cm 1)(O:cl[2]?=some (.slice va l.length ca))(a1:cm[2]?=some (.slice vb m.length cb))(r:Bool):
  ∀kk e H2,(∃i:Nat,kk=l.length-i/\i<=l.length/\e.get 2=pT b1/\e.get 3=pT U/\e.get 6=iV i/\H2=H0/\N1 (l.drop i) (m.drop i)=r)->
  w7 (LE prog t6 (.loop Ov) e H2) (fun o e H2=>H2=H0/\((o= .exit 2/\e.get 2=pT b1/\e.get 3=pT U/\r=true)\/(o= .ret/\e.get 4= .bool false/\r=false))):=by
 refine i8 _ _ ?_;rintro kk e H2 ⟨i,hk,hi,W,f3,f6,hH,E⟩;subst hH;rcases b:decide ((i:Int)<l.length)with _|_
 .have a3:=dF b;have:l.drop i=[]:=dN oM;rw[this,N1]at E;refine J5 W f6 J O b ?_;exact i9 ⟨rfl,.inl ⟨rfl,W,f3,E.symm⟩⟩
 have a3:=dT b;obtain⟨x,nb,o,cs,own,el,hx,hd,rfl,b5,hg,b3,z,hr⟩:=hv.row (i:=i) oM;obtain⟨y,b7,o',cs',b0,a2,b6,a4,rfl,a8,S,a7,u,a6⟩:=hw.row (i:=i) oM;have nt:(i:Int).toNat=i:=tN i;have a9:(i:Int)<m.length:=oM;rw[hd,a4,Y8]at E;simp only[qSz,if_true,bF]at z hg u S;have D:=ih H2 lo el a2 x y a5 hr a6;rcases U:M6 x y with _|_
 .rw[U]at D E;refine J14 W f3 f6 J X O a1 b hg S nt z u D ?_;exact z9 ⟨rfl,.inr ⟨rfl,rfl,by rw[<-E];rfl⟩⟩
 .rw[U]at D E;refine J15 W f3 f6 J X O a1 b hg S nt z u @wrap_small D ?_;exact i4 (kk-1) oM ⟨i+1,oM,oM,W,f3,rfl,rfl,E⟩
theorem Ag(k:Nat)(ih:P4 115 true k)(H0:N7)(lo:Nat)(va vb:Option Addr)(ca cb:Nat)(l m:List Q)(b4:l.length=m.length)(a5:lo<=H0.next)(hv:QsR H0 lo k true (.slice va l.length ca) l)(hw:QsR H0 lo k true (.slice vb m.length cb) m)(hn:l.length<=1048576)(b1 U:Nat)(cl cm:LV)(J:H0.get b1=cE cl 1)(X:H0.get U=cE cm 1)(O:cl[4]?=some (.slice va l.length ca))(a1:cm[4]?=some (.slice vb m.length cb))(r:Bool):
  ∀kk e H2,(∃i:Nat,kk=l.length-i/\i<=l.length/\e.get 2=pT b1/\e.get 3=pT U/\e.get 5=iV i/\H2=H0/\N1 (l.drop i) (m.drop i)=r)->
  w7 (LE prog t6 (.loop Kx) e H2) (fun o e H2=>H2=H0/\((o= .exit 0/\e.get 2=pT b1/\e.get 3=pT U/\r=true)\/(o= .ret/\e.get 4= .bool false/\r=false))):=by
 refine i8 _ _ ?_;rintro kk e H2 ⟨i,hk,hi,W,f3,f6,hH,E⟩;subst hH;rcases b:decide ((i:Int)<l.length)with _|_
 .have a3:=dF b;have:l.drop i=[]:=dN oM;rw[this,N1]at E;refine J5 W f6 J O b ?_;exact i9 ⟨rfl,.inl ⟨rfl,W,f3,E.symm⟩⟩
 have a3:=dT b;obtain⟨x,nb,o,cs,own,el,hx,hd,rfl,b5,hg,b3,z,hr⟩:=hv.row (i:=i) oM;obtain⟨y,b7,o',cs',b0,a2,b6,a4,rfl,a8,S,a7,u,a6⟩:=hw.row (i:=i) oM;have nt:(i:Int).toNat=i:=tN i;have a9:(i:Int)<m.length:=oM;rw[hd,a4,Y8]at E;simp only[qSz,if_true,bF]at z hg u S;have D:=ih H2 lo el a2 x y a5 hr a6;rcases U:M6 x y with _|_
 .rw[U]at D E;refine J14 W f3 f6 J X O a1 b hg S nt z u D ?_;exact z9 ⟨rfl,.inr ⟨rfl,rfl,by rw[<-E];rfl⟩⟩
 .rw[U]at D E;refine J15 W f3 f6 J X O a1 b hg S nt z u @wrap_small D ?_;exact i4 (kk-1) oM ⟨i+1,oM,oM,W,f3,rfl,rfl,E⟩
theorem Ah(k:Nat)(ih:P4 92 false k)(H0:N7)(lo:Nat)(va vb:Option Addr)(ca cb:Nat)(l m:List Q)(b4:l.length=m.length)(a5:lo<=H0.next)(hv:QsR H0 lo k false (.slice va l.length ca) l)(hw:QsR H0 lo k false (.slice vb m.length cb) m)(hn:l.length<=1048576)(b1 U:Nat)(cl cm:LV)(J:H0.get b1=cE cl 1)(X:H0.get U=cE cm 1)(O:cl[5]?=some (.slice va l.length ca))(a1:cm[5]?=some (.slice vb m.length cb))(r:Bool):
  ∀kk e H2,(∃i:Nat,kk=l.length-i/\i<=l.length/\e.get 2=pT b1/\e.get 3=pT U/\e.get 6=iV i/\H2=H0/\N1 (l.drop i) (m.drop i)=r)->
  w7 (LE prog t6 (.loop Ky) e H2) (fun o e H2=>H2=H0/\((o= .exit 2/\e.get 2=pT b1/\e.get 3=pT U/\r=true)\/(o= .ret/\e.get 4= .bool false/\r=false))):=by
 refine i8 _ _ ?_;rintro kk e H2 ⟨i,hk,hi,W,f3,f6,hH,E⟩;subst hH;rcases b:decide ((i:Int)<l.length)with _|_
 .have a3:=dF b;have:l.drop i=[]:=dN oM;rw[this,N1]at E;refine J5 W f6 J O b ?_;exact i9 ⟨rfl,.inl ⟨rfl,W,f3,E.symm⟩⟩
 have a3:=dT b;obtain⟨x,nb,o,cs,own,el,hx,hd,rfl,b5,hg,b3,z,hr⟩:=hv.row (i:=i) oM;obtain⟨y,b7,o',cs',b0,a2,b6,a4,rfl,a8,S,a7,u,a6⟩:=hw.row (i:=i) oM;have nt:(i:Int).toNat=i:=tN i;have a9:(i:Int)<m.length:=oM;rw[hd,a4,Y8]at E;simp only[qSz,if_true,bF]at z hg u S;have D:=ih H2 lo el a2 x y a5 hr a6;rcases U:M6 x y with _|_
 .rw[U]at D E;refine J14 W f3 f6 J X O a1 b hg S nt z u D ?_;exact z9 ⟨rfl,.inr ⟨rfl,rfl,by rw[<-E];rfl⟩⟩
 .rw[U]at D E;refine J15 W f3 f6 J X O a1 b hg S nt z u @wrap_small D ?_;exact i4 (kk-1) oM ⟨i+1,oM,oM,W,f3,rfl,rfl,E⟩
theorem My(k:Nat)(a3:P4 92 false k)(a4:P4 115 true k):P4 92 false (k+1):=by
 intro H lo c1 c2 x y a8 hx hy;have sx:=fun h:false=false=>hx.plain h;have sy:=fun h:false=false=>hy.plain h;obtain⟨va,ca,wa,O,rfl,h1,h2,h3,h4⟩:=hx.path;obtain⟨vb,cb,wb,S,rfl,k1,k2,k3,k4⟩:=hy.path;obtain⟨J,u⟩:=eY ((N7.push ⟨H.bs,H.next⟩ (bC [iV x.op,.slice va x.a.length ca,.slice wa x.b.length O] 1)).push (bC [iV y.op,.slice vb y.a.length cb,.slice wb y.b.length S] 1));have hS:i6 H.next H J:=by rw[u];exact(i6.first H _).trans (i6.push (by rw[i5];show H.next<=H.next+1;omega))
 have D:J.get H.next=cE [iV x.op,.slice va x.a.length ca,.slice wa x.b.length O] 1:=by rw[u,i7 (by rw[i5];show H.next<H.next+1;omega)];exact j9
 have E:J.get (H.next+1)=cE [iV y.op,.slice vb y.a.length cb,.slice wb y.b.length S] 1:=by rw[u];exact y7 (by rw[i5];show H.next+1<=H.next+1/\H.next+1<=H.next+1;omega)
 have a7:H.next<=J.low:=by rw[u,l9,l9];exact lR
 have hn:=hS.next;have a1:=h1.mono (H':=J) (fun j hj=>hS.get j oM) lR;have a2:=h2.mono (H':=J) (fun j hj=>hS.get j oM) lR;have a5:=k1.mono (H':=J) (fun j hj=>hS.get j oM) lR;have a6:=k2.mono (H':=J) (fun j hj=>hS.get j oM) lR;rw[j7 Lc rfl _ sM,gB];rcases b1:decide (x.op=y.op)with _|_
 .exact J4 u.symm D E b1 trivial
 obtain⟨s1,s2,s3⟩:=sx rfl;obtain⟨u1,u2,u3⟩:=sy rfl;have b2:(decide (x.sp=y.sp)&&decide (x.lc=y.lc))=true:=by rw[s1,s2,u1,u2];rfl
 have b3:decide (x.vl=y.vl)=true:=by rw[s3,u3];rfl
 rw[b2,b3];have el:decide ((x.a.length:Int)=y.a.length)=decide (x.a.length=y.a.length):=decide_eq_decide.2 oM;rcases b4:decide (x.a.length=y.a.length)with _|_
 .exact J6 u.symm D E b1 el b4 trivial
 have X:decide ((x.b.length:Int)=y.b.length)=decide (x.b.length=y.b.length):=decide_eq_decide.2 oM;rcases b5:decide (x.b.length=y.b.length)with _|_
 .exact J8 u.symm D E b1 el b4 X b5 trivial
 refine J8 u.symm D E b1 el b4 X b5 ?_;refine j8 (F:=fun z=>u5 _ _ _ (u9 (inBlock 0 z) _)=_) (Da k a3 J lo va vb ca cb x.a y.a (dT b4) oM a1 a5 h3 H.next (H.next+1) _ _ D E rfl rfl (N1 x.a y.a) x.a.length _ _ ⟨0,rfl,oM,rfl,rfl,rfl,rfl,rfl⟩) ?_;rintro o e' H' ⟨rfl,⟨U,g2,g3,W⟩|⟨U,g4,W⟩⟩
 .refine J2 U W ?_;refine j8 (F:=fun z=>u5 _ _ _ (u9 (inBlock 2 z) _)=_) (Db k a4 H' lo wa wb O S x.b y.b (dT b5) oM a2 a6 h4 H.next (H.next+1) _ _ D E rfl rfl (N1 x.b y.b) x.b.length _ _ ⟨0,rfl,oM,g2,g3,rfl,rfl,rfl⟩) ?_;rintro o e' H2 ⟨rfl,⟨U,g2,g3,W⟩|⟨U,g4,W⟩⟩
  .exact J2 U W trivial
  .exact J3 U g4 W trivial
 .exact J3 U g4 W trivial
theorem IJ(k:Nat)(a4:P4 115 true k)(a5:P4 92 false k):P4 115 true (k+1):=by
 intro H lo c1 c2 x y a9 hx hy;have sx:=fun h:true=false=>hx.plain h;have sy:=fun h:true=false=>hy.plain h;obtain⟨va,ca,wa,O,rfl,h1,h2,h3,h4,_⟩:=hx.filter;obtain⟨vb,cb,wb,S,rfl,k1,k2,k3,k4,_⟩:=hy.filter;obtain⟨J,u⟩:=eY ((N7.push ⟨H.bs,H.next⟩ (bC [iV x.op,.string x.sp,.string x.lc,.string x.vl,.slice va x.a.length ca,.slice wa x.b.length O] 1)).push (bC [iV y.op,.string y.sp,.string y.lc,.string y.vl,.slice vb y.a.length cb,.slice wb y.b.length S] 1));have hS:i6 H.next H J:=by rw[u];exact(i6.first H _).trans (i6.push (by rw[i5];show H.next<=H.next+1;omega))
 have D:J.get H.next=cE [iV x.op,.string x.sp,.string x.lc,.string x.vl,.slice va x.a.length ca,.slice wa x.b.length O] 1:=by rw[u,i7 (by rw[i5];show H.next<H.next+1;omega)];exact j9
 have E:J.get (H.next+1)=cE [iV y.op,.string y.sp,.string y.lc,.string y.vl,.slice vb y.a.length cb,.slice wb y.b.length S] 1:=by rw[u];exact y7 (by rw[i5];show H.next+1<=H.next+1/\H.next+1<=H.next+1;omega)
 have a8:H.next<=J.low:=by rw[u,l9,l9];exact lR
 have hn:=hS.next;have a2:=h1.mono (H':=J) (fun j hj=>hS.get j oM) lR;have a3:=h2.mono (H':=J) (fun j hj=>hS.get j oM) lR;have a6:=k1.mono (H':=J) (fun j hj=>hS.get j oM) lR;have a7:=k2.mono (H':=J) (fun j hj=>hS.get j oM) lR;rw[j7 Ee rfl _ sM,gB];rcases X:decide (x.op=y.op)with _|_
 .exact J4 u.symm D E X trivial
 rcases b2:(decide (x.sp=y.sp)&&decide (x.lc=y.lc))with _|_
 .exact J5 u.symm D E X b2 trivial
 rcases b3:decide (x.vl=y.vl)with _|_
 .exact J6 u.symm D E X b2 b3 trivial
 have el:decide ((x.a.length:Int)=y.a.length)=decide (x.a.length=y.a.length):=decide_eq_decide.2 oM;rcases b4:decide (x.a.length=y.a.length)with _|_
 .exact J8 u.symm D E X b2 b3 el b4 trivial
 have a1:decide ((x.b.length:Int)=y.b.length)=decide (x.b.length=y.b.length):=decide_eq_decide.2 oM;rcases b5:decide (x.b.length=y.b.length)with _|_
 .exact J10 u.symm D E X b2 b3 el b4 a1 b5 trivial
 refine J10 u.symm D E X b2 b3 el b4 a1 b5 ?_;refine j8 (F:=fun z=>u5 _ _ _ (u9 (inBlock 0 z) _)=_) (Ag k a4 J lo va vb ca cb x.a y.a (dT b4) oM a2 a6 h3 H.next (H.next+1) _ _ D E rfl rfl (N1 x.a y.a) x.a.length _ _ ⟨0,rfl,oM,rfl,rfl,rfl,rfl,rfl⟩) ?_;rintro o e' H' ⟨rfl,⟨U,g2,g3,W⟩|⟨U,g4,W⟩⟩
 .refine J2 U W ?_;refine j8 (F:=fun z=>u5 _ _ _ (u9 (inBlock 2 z) _)=_) (Ah k a5 H' lo wa wb O S x.b y.b (dT b5) oM a3 a7 h4 H.next (H.next+1) _ _ D E rfl rfl (N1 x.b y.b) x.b.length _ _ ⟨0,rfl,oM,g2,g3,rfl,rfl,rfl⟩) ?_;rintro o e' H2 ⟨rfl,⟨U,g2,g3,W⟩|⟨U,g4,W⟩⟩
  .exact J2 U W trivial
  .exact J3 U g4 W trivial
 .exact J3 U g4 W trivial
theorem FH:∀k,P4 92 false k/\P4 115 true k:=by
 intro k;induction k with
 |zero=>exact⟨fun H lo c1 c2 x y z D E=>D.elim,fun H lo c1 c2 x y z D E=>D.elim⟩
 |succ k u=>exact⟨My k u.1 u.2,IJ k u.2 u.1⟩
end Go.Proofs.YtofbhlhamfkljaaGreatDoor.Ve
namespace Go.Proofs.YtofbhlhamfkljaaGreatDoor.Ve
open Go Go.RowKit
def u6(H:N7)(lo sz:Nat){α:Type}(R:LV->α->Prop)(w:Value)(l:List α):Prop:=∃cs,cg H lo sz w l.length cs/\D2 sz R cs l
section
variable{α:Type}{R R':List Value->α->Prop}{H H':N7}{lo lo' sz:Nat}{w:Value}{l l2:List α}
theorem D2.nil:D2 sz R [] ([]:List α):=⟨by simp,fun i a u=>by simp at u⟩
theorem D2.one{cs:LV}{a:α}(h:cs.length=sz)(z:R cs a):D2 sz R cs [a]:=by
 refine⟨by simp [h],fun i b u=>?_⟩;cases i with
 |zero=>
  have:a=b:=by simpa using u
  subst this;rw[Nat.zero_mul,List.drop_zero,<-h,List.take_length];exact z
 |succ i=>simp at u
theorem u6.nil:u6 H lo sz R (.slice none 0 0) ([]:List α):=⟨[],.inl ⟨rfl,rfl,rfl⟩,D2.nil⟩
theorem u6.slice(h:u6 H lo sz R w l):∃a c,w= .slice a l.length c:=by obtain⟨cs,u,z⟩:=h;exact u.slice
theorem u6.mono(h:u6 H lo sz R w l)(E:lo'<=lo)(D:∀j,j<H.next->H'.get j=H.get j):u6 H' lo' sz R w l:=by obtain⟨cs,u,z⟩:=h;exact⟨cs,u.mono E D,z⟩
theorem u6.keep(h:u6 H lo sz R w l)(u:i6 H.next H H'):u6 H' lo sz R w l:=h.mono lR fun j z=>u.get j z
theorem u6.weaken(h:u6 H lo sz R w l)(u:lo'<=lo):u6 H lo' sz R w l:=h.mono u fun _ _=>rfl
theorem u6.imp(h:u6 H lo sz R w l)(D:∀cs a,R cs a->R' cs a):u6 H lo sz R' w l:=by obtain⟨cs,u,z⟩:=h;exact⟨cs,u,z.mono D⟩
theorem u6.low(h:u6 H lo sz R w l)(n:Nat):u6 ⟨H.bs,n⟩ lo sz R w l:=h.mono lR fun _ _=>rfl
theorem u6.sl(h:u6 H lo sz R w l):SlI H H.next sz R w l:=by obtain⟨cs,u,z⟩:=h;exact u.sl z
theorem u6.na(h:u6 H lo sz R w l)(D:L9 w=true)(H0:N7)(z:Nat):u6 H0 z sz R w l:=by
 obtain⟨cs,u,E⟩:=h;rcases u with u|⟨b,c,J,_⟩
 .exact⟨cs,.inl u,E⟩
 .rw[J]at D;cases D
theorem u6.fresh{cs:LV}{n c:Nat}(D:n=l.length)(u:lo<=H.next)(z:D2 sz R cs l):u6 (H.push (.cells cs true sz)) lo sz R (.slice (some ⟨H.next,0,none⟩) n c) l:=by
 subst D;exact⟨cs,.inr ⟨H.next,c,rfl,j9,u,z.1⟩,z⟩
theorem u6.at_(h:u6 H lo sz R w l){i:Nat}{a:α}(z:l[i]?=some a):∃b c cs,w= .slice (some ⟨b,0,none⟩) l.length c/\lo<=b/\b<H.next/\H.get b=some (.cells cs true sz)/\i*sz+sz<=cs.length/\R ((cs.drop (i*sz)).take sz) a:=by
 obtain⟨cs,D,E⟩:=h;have S:i<l.length:=(gS z).1;rcases D with⟨_,U,_⟩|⟨b,c,J,u,O,W⟩
 .omega
 .refine⟨b,c,cs,J,O,u7 u,u,?_,E.2 i a z⟩;have:(i+1)*sz<=l.length*sz:=Nat.mul_le_mul_right _ S;rw[Nat.add_mul]at this;omega
theorem SlI.rows{v:Value}{n:Nat}(h:SlI H n sz R v l):∃a c el,v= .slice a l.length c/\A5 H sz (.slice a l.length c)=some el/\D2 sz R el l:=by
 obtain⟨a,c,rfl⟩:=h.slice;obtain⟨el,u,z⟩:=h.cells;exact⟨a,c,el,rfl,u,z⟩
theorem u6.append{P:Program}{t e:TypeId}{bytes n:Nat}{z:LV}{x:Value}(ht:P.underlying t=some (.slice e))(X:D8 P e=some sz)(U:V0 P e=some bytes)(hz:O9 P e=some z)(O:0<sz)(S:0<bytes)
  (h:u6 H lo sz R w l) (hx:SlI H n sz R x l2) (W:(l.length+l2.length)*bytes<=140737488355328) (u:lo<=H.next):
  Ret (C2 P H [t,t] w x) H fun v' H'=>u6 H' lo sz R v' (l++l2)/\i6 lo H H':=by
 obtain⟨cs,k1,k2⟩:=h;obtain⟨a,c,el,rfl,q1,D⟩:=hx.rows;obtain⟨v',J,E,r1,r2,r3,r4⟩:=tp (m:=l2.length) ht X U hz O S k1 q1 D.1 W u;exact⟨v',J,E,r1,r2,⟨cs++el,by rw[List.length_append];exact r3,k2.append D⟩,r4⟩
end
def L8(x:Option (Value×Option N7))(H:N7)(sz:Nat){α:Type}(R:LV->α->Prop)(l:List α):Prop:=Ret x H fun w H1=>u6 H1 H.next sz R w l/\i6 H.next H H1
theorem F0{H H':N7}{sz:Nat}{α:Type}{R:LV->α->Prop}{w:Value}{l:List α}(h:u6 H' H.next sz R w l)(z:i6 H.next H H')(D:H.next<=H'.low):L8 (some (D6 w H H')) H sz R l:=
 E1 (fun u _=>⟨h.na u _ _,i6.refl _ _⟩) ⟨h.low _,z.ret D⟩
theorem L8.imp{x:Option (Value×Option N7)}{H:N7}{sz:Nat}{α:Type}{R R':LV->α->Prop}{l:List α}(h:L8 x H sz R l)(S:∀cs a,R cs a->R' cs a):L8 x H sz R' l:=by
 obtain⟨v,z,u,D,E,J,O⟩:=h;exact⟨v,z,u,D,E,J.imp S,O⟩
theorem lS(u:List Q5)(a b:Bool)(xs z:LV):A6 (.bool::u) (.bool a::xs) (.bool b::z)=(A6 u xs z).map ((a==b)&& ·):=by
 simp only[A6,N6];cases A6 u xs z<;>rfl
abbrev w9{α:Type}(enc:α->LV):LV->α->Prop:=fun cs a=>cs=enc a
abbrev nmE(x:ByteArray×ByteArray):LV:=[.string x.1,.string x.2]
abbrev stE(s:ByteArray):LV:=[.string s]
abbrev soE(x:Bool×Bool×ByteArray):LV:=[.bool x.1,.bool x.2.1,.string x.2.2]
abbrev inE(n:Int):LV:=[.int .i64 n]
abbrev boE(b:Bool):LV:=[.bool b]
abbrev hoE(x:Int×Int×Int):LV:=[.int .i64 x.1,.int .i64 x.2.1,.int .i64 x.2.2]
abbrev edE(x:Int×Int×Int×Int):LV:=[.int .i64 x.1,.int .i64 x.2.1,.int .i64 x.2.2.1,.int .i64 x.2.2.2]
def ixG{α:Type}(p:α->Bool):List α->Nat->Int
 |[],_=> -1
 |a::l,i=>if p a then(i:Int) else ixG p l (i+1)
theorem dS{α:Type}(p:α->Bool):∀(l:List α)(i:Nat),(l.any p=false/\ixG p l i= -1)\/(l.any p=true/\(i:Int)<=ixG p l i/\ixG p l i<i+l.length)
 |[],i=> .inl ⟨rfl,rfl⟩
 |a::l,i=>by
  rw[ixG,List.any_cons,List.length_cons];cases h:p a with
  |true=>exact .inr ⟨rfl,by rw[if_pos rfl];omega,by rw[if_pos rfl];omega⟩
  |false=>
   rw[if_neg Bool.false_ne_true];rcases dS p l (i+1)with⟨u,z⟩|⟨u,z,D⟩
   .exact .inl ⟨by rw[u];rfl,z⟩
   .exact .inr ⟨by rw[u];rfl,oM,oM⟩
theorem gN{α:Type}(p:α->Bool)(l:List α):decide (0<=ixG p l 0)=l.any p:=by
 rcases dS p l 0 with⟨u,z⟩|⟨u,z,D⟩
 .rw[u,z];rfl
 .rw[u];exact decide_eq_true oM
theorem Q1{α:Type}{l:List α}{i:Nat}(u:i<l.length):∃a,l[i]?=some a/\l.drop i=a::l.drop (i+1):=
 ⟨l[i],List.getElem?_eq_getElem u,List.drop_eq_getElem_cons u⟩
theorem SlI.row{H:N7}{lo sz:Nat}{α:Type}{R:LV->α->Prop}{z:Option Addr}{n ca:Nat}{l:List α}(h:SlI H lo sz R (.slice z n ca) l){i:Nat}(S:i<l.length):
  ∃x b o cs own el,l[i]?=some x/\l.drop i=x::l.drop (i+1)/\z=some ⟨b,o,none⟩/\b<lo/\H.get b=some (.cells cs own sz)/\o+i*sz+sz<=cs.length/\ldC (some true) (some sz) (o+i*sz) cs=some (.agg el.toArray)/\(∀k,k<sz->cs[o+i*sz+k]?=el[k]?)/\R el x:=by
 obtain⟨x,D,J⟩:=Q1 (l:=l) (i:=i) S;obtain⟨b,o,c,cs,own,X,E,O,u,W⟩:=h.at_ D;obtain⟨rfl,rfl,rfl⟩:z=some ⟨b,o,none⟩/\n=l.length/\ca=c:=by simpa using X
 exact⟨x,b,o,cs,own,_,D,J,rfl,E,O,u,cq u rfl,fun k U=>Q3 U rfl,W⟩
theorem sR{cs el:LV}{a sz j m:Nat}(u:∀k,k<sz->cs[a+k]?=el[k]?) (z:a+sz<=cs.length) (D:j+m<=sz):ldC (some true) (some m) (a+j) cs=some (.agg ((el.drop j).take m).toArray):=by
 rw[eW _ _ _ oM]
 congr 3
 refine List.ext_getElem? fun i=>?_;rw[List.getElem?_take,List.getElem?_take];split
 .rw[List.getElem?_drop,List.getElem?_drop,Nat.add_assoc,u _ oM]
 .rfl
theorem u6.push1{P:Program}{t e:TypeId}{bytes sz lo:Nat}{z:LV}{α:Type}{R:LV->α->Prop}{H:N7}{w:Value}{l:List α}(ht:P.underlying t=some (.slice e))(hs:D8 P e=some sz)(X:V0 P e=some bytes)(hz:O9 P e=some z)(O:0<sz)(S:0<bytes)
  (h:u6 H lo sz R w l) {cs:LV} {a:α} (u:cs.length=sz) (W:R cs a) (hr:(l.length+1)*bytes<=140737488355328) (D:lo<=H.next):
  Ret (C2 P (H.push (.cells cs true sz)) [t,t] w (.slice (some ⟨H.next,0,none⟩) 1 1)) (H.push (.cells cs true sz)) fun v' H'=>u6 H' lo sz R v' (l++[a])/\i6 lo H H':=by
 have U:=u6.fresh (H:=H) (lo:=H.next) (l:=[a]) (n:=1) (c:=1) rfl lR (D2.one u W);have hn:(H.push (.cells cs true sz)).next=H.next+1:=i5;have E:i6 H.next H (H.push (.cells cs true sz)):=i6.push lR;obtain⟨v',J,H',r1,r2,r3,r4⟩:=(h.keep E).append ht hs X hz O S U.sl (by simpa using hr) oM;exact⟨v',J,H',r1,r2,r3,(E.weaken D).trans r4⟩
end Go.Proofs.YtofbhlhamfkljaaGreatDoor.Ve
namespace Go.Proofs.YtofbhlhamfkljaaGreatDoor.Ve
open Go Go.RowKit
open Go.Proofs.Tryz (prog)
theorem QR.up{H:N7}{lo:Nat}:∀{k:Nat}{f:Bool}{cs:LV}{q:Q},QR H lo k f cs q->QR H lo (k+1) f cs q:=by
 intro k;induction k with
 |zero=>intro f cs q h;exact h.elim
 |succ k u=>
  intro f cs q h;obtain⟨v,w,z,D,E,J⟩:=h;exact⟨v,w,z,SlI.mono D (fun _ _=>rfl) lR (fun _ _ h=>u h),SlI.mono E (fun _ _=>rfl) lR (fun _ _ h=>u h),J⟩
mutual
def fsQ:Bool->Q->List Q
 |f,.mk o s c v a b=>(if f then [.mk o s c v a b] else [])++(fsL f a++fsL (!f) b)
def fsL:Bool->List Q->List Q
 |_,[]=>[]
 |f,x::l=>fsQ f x++fsL f l
end
theorem kg(f:Bool)(q:Q):fsQ f q=(if f then [q] else [])++(fsL f q.a++fsL (!f) q.b):=by cases q;rw[fsQ];rfl
theorem eR(f:Bool):∀l,fsL f l=l.flatMap (fsQ f)
 |[]=>by rw[fsL];rfl
 |x::l=>by rw[fsL,eR f l,List.flatMap_cons]
mutual
def inQ:Bool->Q->List Q
 |f,.mk o s c v a b=>inL f a++(if f then(if o=11 then inL false b++b else []) else inL true b)
def inL:Bool->List Q->List Q
 |_,[]=>[]
 |f,x::l=>inQ f x++inL f l
end
theorem nz(q:Q):inQ false q=inL false q.a++inL true q.b:=by cases q;rw[inQ];rfl
theorem iB(q:Q):inQ true q=inL true q.a++(if q.op=11 then inL false q.b++q.b else []):=by cases q;rw[inQ];rfl
theorem eU(f:Bool):∀l,inL f l=l.flatMap (inQ f)
 |[]=>by rw[inL];rfl
 |x::l=>by rw[inL,eU f l,List.flatMap_cons]
def OkD(f:Bool)(q:Q):Prop:=∃d,okQ d f q=true
theorem OkD.parts{f:Bool}{q:Q}(h:OkD f q):(∀x∈q.a,OkD f x)/\(∀x∈q.b,OkD (!f) x)/\1<=q.op/\iG f q=true/\okN q.op (if f then 11 else 7) (lst f q.op) (mst f q.op) q.a.length q.b.length=true:=by
 obtain⟨d,h⟩:=h;cases d with
 |zero=>cases h
 |succ d=>
  rw[okQ]at h;simp only[Bool.and_eq_true,decide_eq_true_eq,List.all_eq_true]at h;obtain⟨⟨⟨⟨z,D⟩,E⟩,J⟩,O⟩:=h;exact⟨fun x u=>⟨d,J x u⟩,fun x u=>⟨d,O x u⟩,z,D,E⟩
theorem Tt{op s u z:Int}{D E:Nat}(h:okN op s u z D E=true):u<=D/\(D:Int)<=z/\(op=s↔E=1)/\E<=1:=by
 simp only[okN,Bool.and_eq_true,decide_eq_true_eq,beq_iff_eq]at h;obtain⟨⟨⟨J,O⟩,S⟩,U⟩:=h;exact⟨J,O,by simpa using S,U⟩
def T9(fn:Nat)(f:Bool)(sz:Nat)(rf:Bool)(F:Q->List Q)(k:Nat):Prop:=∀(H:N7)(lo:Nat)(cs:LV)(q:Q),lo<=H.next->QR H lo k f cs q->(F q).length<=1000000->OkD f q->L8 (CL prog t6 fn [.agg cs.toArray] H) H sz (QR H lo k rf) (F q)
theorem Ll(F:Q->List Q)(k:Nat)(ih:T9 86 false 6 true F k)(D:N7)(lo z:Nat)(b1:lo<=z)(a9:z<D.next)(va:Option Addr)(ca:Nat)(l:List Q)(hv:QsR D lo k false (.slice va l.length ca) l)(hn:l.length<=1048576)(cl:LV)(hb:D.get z=cE cl 1)(hc:cl[1]?=some (.slice va l.length ca))(r:List Q)(hr:r.length<=1000000)(hw:∀x∈l,OkD false x):
  ∀kk e H2,(∃(i:Nat)(u:List Q)(w:Value),kk=l.length-i/\i<=l.length/\e.get 1=pT z/\e.get 3=w/\e.get 4=iV i/\u6 H2 (z+1) 6 (QR D lo (k+1) true) w u/\i6 (z+1) D H2/\u++(l.drop i).flatMap F=r)->
  w7 (LE prog t6 (.loop Oi) e H2) (fun o e H2=>o= .exit 0/\e.get 1=pT z/\∃w,e.get 3=w/\u6 H2 (z+1) 6 (QR D lo (k+1) true) w r/\i6 (z+1) D H2):=by
 refine i8 _ _ ?_;rintro kk e H2 ⟨i,u,w,hk,hi,f1,f3,f6,hO,J,S⟩;have W:H2.get z=cE cl 1:=by rw[J.get z oM];exact hb
 have b3:=J.next;rcases b:decide ((i:Int)<l.length)with _|_
 .have a4:=dF b;have:l.drop i=[]:=dN oM;rw[this,List.flatMap_nil,List.append_nil]at S;refine J5 f1 f6 W hc b ?_;exact i9 ⟨rfl,f1,w,f3,by rw[<-S];exact hO,J⟩
 have a4:=dT b;obtain⟨x,nb,o,cs,own,el,hx,hd,rfl,b2,hg,b0,E,hR⟩:=hv.row (i:=i) oM;have nt:(i:Int).toNat=i:=tN i;simp only[qSz,if_true,bF]at E hg;have a6:=(J.get nb oM).trans hg;rw[hd,List.flatMap_cons,<-List.append_assoc]at S;have a8:u.length+(F x).length<=1000000:=by
  have:r.length=u.length+(F x).length+((l.drop (i+1)).flatMap F).length:=by rw[<-S,List.length_append,List.length_append]
  omega
 obtain⟨v,h,H3,a5,a7,a1,O⟩:=ih H2 lo el x oM (hR.mono (fun j hj=>J.get j oM) lR) oM (hw x (mG hx));have U:u6 H3 H2.next 6 (QR D lo (k+1) true) v (F x):=a1.imp fun cs q h=>(h.mono (fun j hj=>(J.get j oM).symm) lR).up;have b4:=O.next;obtain⟨v',h',H4,ha,X,a2,a3⟩:=(hO.keep O).append (P:=prog) (t:=23) (n:=H3.next) (by exact sU.2.2.2.2.2.2) cr.1 cr.2.1 cr.2.2.1 oM oM U.sl oM oM;refine J14 f1 f3 f6 W hc b a6 nt E @wrap_small a5 a7 ha X ?_;refine i4 (kk-1) oM ⟨i+1,u++F x,v',oM,oM,f1,rfl,rfl,a2,(J.trans (O.weaken oM)).trans a3,S⟩
theorem Ln(F:Q->List Q)(k:Nat)(ih:T9 112 true 6 true F k)(D:N7)(lo z:Nat)(b1:lo<=z)(a9:z<D.next)(va:Option Addr)(ca:Nat)(l:List Q)(hv:QsR D lo k true (.slice va l.length ca) l)(hn:l.length<=1048576)(cl:LV)(hb:D.get z=cE cl 1)(hc:cl[2]?=some (.slice va l.length ca))(r:List Q)(hr:r.length<=1000000)(hw:∀x∈l,OkD true x):
  ∀kk e H2,(∃(i:Nat)(u:List Q)(w:Value),kk=l.length-i/\i<=l.length/\e.get 1=pT z/\e.get 3=w/\e.get 5=iV i/\u6 H2 (z+1) 6 (QR D lo (k+1) true) w u/\i6 (z+1) D H2/\u++(l.drop i).flatMap F=r)->
  w7 (LE prog t6 (.loop Oj) e H2) (fun o e H2=>o= .exit 2/\e.get 1=pT z/\∃w,e.get 3=w/\u6 H2 (z+1) 6 (QR D lo (k+1) true) w r/\i6 (z+1) D H2):=by
 refine i8 _ _ ?_;rintro kk e H2 ⟨i,u,w,hk,hi,f1,f3,f6,hO,J,S⟩;have W:H2.get z=cE cl 1:=by rw[J.get z oM];exact hb
 have b3:=J.next;rcases b:decide ((i:Int)<l.length)with _|_
 .have a4:=dF b;have:l.drop i=[]:=dN oM;rw[this,List.flatMap_nil,List.append_nil]at S;refine J5 f1 f6 W hc b ?_;exact i9 ⟨rfl,f1,w,f3,by rw[<-S];exact hO,J⟩
 have a4:=dT b;obtain⟨x,nb,o,cs,own,el,hx,hd,rfl,b2,hg,b0,E,hR⟩:=hv.row (i:=i) oM;have nt:(i:Int).toNat=i:=tN i;simp only[qSz,if_true,bF]at E hg;have a6:=(J.get nb oM).trans hg;rw[hd,List.flatMap_cons,<-List.append_assoc]at S;have a8:u.length+(F x).length<=1000000:=by
  have:r.length=u.length+(F x).length+((l.drop (i+1)).flatMap F).length:=by rw[<-S,List.length_append,List.length_append]
  omega
 obtain⟨v,h,H3,a5,a7,a1,O⟩:=ih H2 lo el x oM (hR.mono (fun j hj=>J.get j oM) lR) oM (hw x (mG hx));have U:u6 H3 H2.next 6 (QR D lo (k+1) true) v (F x):=a1.imp fun cs q h=>(h.mono (fun j hj=>(J.get j oM).symm) lR).up;have b4:=O.next;obtain⟨v',h',H4,ha,X,a2,a3⟩:=(hO.keep O).append (P:=prog) (t:=23) (n:=H3.next) (by exact sU.2.2.2.2.2.2) cr.1 cr.2.1 cr.2.2.1 oM oM U.sl oM oM;refine J14 f1 f3 f6 W hc b a6 nt E @wrap_small a5 a7 ha X ?_;refine i4 (kk-1) oM ⟨i+1,u++F x,v',oM,oM,f1,rfl,rfl,a2,(J.trans (O.weaken oM)).trans a3,S⟩
theorem Hp(F:Q->List Q)(k:Nat)(ih:T9 112 true 6 true F k)(D:N7)(lo z:Nat)(b1:lo<=z)(a9:z<D.next)(va:Option Addr)(ca:Nat)(l:List Q)(hv:QsR D lo k true (.slice va l.length ca) l)(hn:l.length<=1048576)(cl:LV)(hb:D.get z=cE cl 1)(hc:cl[4]?=some (.slice va l.length ca))(r:List Q)(hr:r.length<=1000000)(hw:∀x∈l,OkD true x):
  ∀kk e H2,(∃(i:Nat)(u:List Q)(w:Value),kk=l.length-i/\i<=l.length/\e.get 1=pT z/\e.get 3=w/\e.get 4=iV i/\u6 H2 (z+1) 6 (QR D lo (k+1) true) w u/\i6 (z+1) D H2/\u++(l.drop i).flatMap F=r)->
  w7 (LE prog t6 (.loop Ku) e H2) (fun o e H2=>o= .exit 0/\e.get 1=pT z/\∃w,e.get 3=w/\u6 H2 (z+1) 6 (QR D lo (k+1) true) w r/\i6 (z+1) D H2):=by
 refine i8 _ _ ?_;rintro kk e H2 ⟨i,u,w,hk,hi,f1,f3,f6,hO,J,S⟩;have W:H2.get z=cE cl 1:=by rw[J.get z oM];exact hb
 have b3:=J.next;rcases b:decide ((i:Int)<l.length)with _|_
 .have a4:=dF b;have:l.drop i=[]:=dN oM;rw[this,List.flatMap_nil,List.append_nil]at S;refine J5 f1 f6 W hc b ?_;exact i9 ⟨rfl,f1,w,f3,by rw[<-S];exact hO,J⟩
 have a4:=dT b;obtain⟨x,nb,o,cs,own,el,hx,hd,rfl,b2,hg,b0,E,hR⟩:=hv.row (i:=i) oM;have nt:(i:Int).toNat=i:=tN i;simp only[qSz,if_true,bF]at E hg;have a6:=(J.get nb oM).trans hg;rw[hd,List.flatMap_cons,<-List.append_assoc]at S;have a8:u.length+(F x).length<=1000000:=by
  have:r.length=u.length+(F x).length+((l.drop (i+1)).flatMap F).length:=by rw[<-S,List.length_append,List.length_append]
  omega
 obtain⟨v,h,H3,a5,a7,a1,O⟩:=ih H2 lo el x oM (hR.mono (fun j hj=>J.get j oM) lR) oM (hw x (mG hx));have U:u6 H3 H2.next 6 (QR D lo (k+1) true) v (F x):=a1.imp fun cs q h=>(h.mono (fun j hj=>(J.get j oM).symm) lR).up;have b4:=O.next;obtain⟨v',h',H4,ha,X,a2,a3⟩:=(hO.keep O).append (P:=prog) (t:=23) (n:=H3.next) (by exact sU.2.2.2.2.2.2) cr.1 cr.2.1 cr.2.2.1 oM oM U.sl oM oM;refine J14 f1 f3 f6 W hc b a6 nt E @wrap_small a5 a7 ha X ?_;refine i4 (kk-1) oM ⟨i+1,u++F x,v',oM,oM,f1,rfl,rfl,a2,(J.trans (O.weaken oM)).trans a3,S⟩
theorem Hr(F:Q->List Q)(k:Nat)(ih:T9 86 false 6 true F k)(D:N7)(lo z:Nat)(b1:lo<=z)(a9:z<D.next)(va:Option Addr)(ca:Nat)(l:List Q)(hv:QsR D lo k false (.slice va l.length ca) l)(hn:l.length<=1048576)(cl:LV)(hb:D.get z=cE cl 1)(hc:cl[5]?=some (.slice va l.length ca))(r:List Q)(hr:r.length<=1000000)(hw:∀x∈l,OkD false x):
  ∀kk e H2,(∃(i:Nat)(u:List Q)(w:Value),kk=l.length-i/\i<=l.length/\e.get 1=pT z/\e.get 3=w/\e.get 5=iV i/\u6 H2 (z+1) 6 (QR D lo (k+1) true) w u/\i6 (z+1) D H2/\u++(l.drop i).flatMap F=r)->
  w7 (LE prog t6 (.loop Kv) e H2) (fun o e H2=>o= .exit 2/\e.get 1=pT z/\∃w,e.get 3=w/\u6 H2 (z+1) 6 (QR D lo (k+1) true) w r/\i6 (z+1) D H2):=by
 refine i8 _ _ ?_;rintro kk e H2 ⟨i,u,w,hk,hi,f1,f3,f6,hO,J,S⟩;have W:H2.get z=cE cl 1:=by rw[J.get z oM];exact hb
 have b3:=J.next;rcases b:decide ((i:Int)<l.length)with _|_
 .have a4:=dF b;have:l.drop i=[]:=dN oM;rw[this,List.flatMap_nil,List.append_nil]at S;refine J5 f1 f6 W hc b ?_;exact i9 ⟨rfl,f1,w,f3,by rw[<-S];exact hO,J⟩
 have a4:=dT b;obtain⟨x,nb,o,cs,own,el,hx,hd,rfl,b2,hg,b0,E,hR⟩:=hv.row (i:=i) oM;have nt:(i:Int).toNat=i:=tN i;simp only[qSz,if_true,bF]at E hg;have a6:=(J.get nb oM).trans hg;rw[hd,List.flatMap_cons,<-List.append_assoc]at S;have a8:u.length+(F x).length<=1000000:=by
  have:r.length=u.length+(F x).length+((l.drop (i+1)).flatMap F).length:=by rw[<-S,List.length_append,List.length_append]
  omega
 obtain⟨v,h,H3,a5,a7,a1,O⟩:=ih H2 lo el x oM (hR.mono (fun j hj=>J.get j oM) lR) oM (hw x (mG hx));have U:u6 H3 H2.next 6 (QR D lo (k+1) true) v (F x):=a1.imp fun cs q h=>(h.mono (fun j hj=>(J.get j oM).symm) lR).up;have b4:=O.next;obtain⟨v',h',H4,ha,X,a2,a3⟩:=(hO.keep O).append (P:=prog) (t:=23) (n:=H3.next) (by exact sU.2.2.2.2.2.2) cr.1 cr.2.1 cr.2.2.1 oM oM U.sl oM oM;refine J14 f1 f3 f6 W hc b a6 nt E @wrap_small a5 a7 ha X ?_;refine i4 (kk-1) oM ⟨i+1,u++F x,v',oM,oM,f1,rfl,rfl,a2,(J.trans (O.weaken oM)).trans a3,S⟩
theorem Lj(F:Q->List Q)(k:Nat)(ih:T9 68 false 3 false F k)(D:N7)(lo z:Nat)(b1:lo<=z)(a9:z<D.next)(va:Option Addr)(ca:Nat)(l:List Q)(hv:QsR D lo k false (.slice va l.length ca) l)(hn:l.length<=1048576)(cl:LV)(hb:D.get z=cE cl 1)(hc:cl[1]?=some (.slice va l.length ca))(r:List Q)(hr:r.length<=1000000)(hw:∀x∈l,OkD false x):
  ∀kk e H2,(∃(i:Nat)(u:List Q)(w:Value),kk=l.length-i/\i<=l.length/\e.get 1=pT z/\e.get 3=w/\e.get 4=iV i/\u6 H2 (z+1) 3 (QR D lo (k+1) false) w u/\i6 (z+1) D H2/\u++(l.drop i).flatMap F=r)->
  w7 (LE prog t6 (.loop NU) e H2) (fun o e H2=>o= .exit 0/\e.get 1=pT z/\∃w,e.get 3=w/\u6 H2 (z+1) 3 (QR D lo (k+1) false) w r/\i6 (z+1) D H2):=by
 refine i8 _ _ ?_;rintro kk e H2 ⟨i,u,w,hk,hi,f1,f3,f6,hO,J,S⟩;have W:H2.get z=cE cl 1:=by rw[J.get z oM];exact hb
 have b3:=J.next;rcases b:decide ((i:Int)<l.length)with _|_
 .have a4:=dF b;have:l.drop i=[]:=dN oM;rw[this,List.flatMap_nil,List.append_nil]at S;refine J5 f1 f6 W hc b ?_;exact i9 ⟨rfl,f1,w,f3,by rw[<-S];exact hO,J⟩
 have a4:=dT b;obtain⟨x,nb,o,cs,own,el,hx,hd,rfl,b2,hg,b0,E,hR⟩:=hv.row (i:=i) oM;have nt:(i:Int).toNat=i:=tN i;simp only[qSz,if_true,bF]at E hg;have a6:=(J.get nb oM).trans hg;rw[hd,List.flatMap_cons,<-List.append_assoc]at S;have a8:u.length+(F x).length<=1000000:=by
  have:r.length=u.length+(F x).length+((l.drop (i+1)).flatMap F).length:=by rw[<-S,List.length_append,List.length_append]
  omega
 obtain⟨v,h,H3,a5,a7,a1,O⟩:=ih H2 lo el x oM (hR.mono (fun j hj=>J.get j oM) lR) oM (hw x (mG hx));have U:u6 H3 H2.next 3 (QR D lo (k+1) false) v (F x):=a1.imp fun cs q h=>(h.mono (fun j hj=>(J.get j oM).symm) lR).up;have b4:=O.next;obtain⟨v',h',H4,ha,X,a2,a3⟩:=(hO.keep O).append (P:=prog) (t:=22) (n:=H3.next) (by exact lP.2.2.2.2.2.2) aq.1 aq.2.1 aq.2.2.1 oM oM U.sl oM oM;refine J14 f1 f3 f6 W hc b a6 nt E @wrap_small a5 a7 ha X ?_;refine i4 (kk-1) oM ⟨i+1,u++F x,v',oM,oM,f1,rfl,rfl,a2,(J.trans (O.weaken oM)).trans a3,S⟩
theorem Lk(F:Q->List Q)(k:Nat)(ih:T9 91 true 3 false F k)(D:N7)(lo z:Nat)(b1:lo<=z)(a9:z<D.next)(va:Option Addr)(ca:Nat)(l:List Q)(hv:QsR D lo k true (.slice va l.length ca) l)(hn:l.length<=1048576)(cl:LV)(hb:D.get z=cE cl 1)(hc:cl[2]?=some (.slice va l.length ca))(r:List Q)(hr:r.length<=1000000)(hw:∀x∈l,OkD true x):
  ∀kk e H2,(∃(i:Nat)(u:List Q)(w:Value),kk=l.length-i/\i<=l.length/\e.get 1=pT z/\e.get 3=w/\e.get 5=iV i/\u6 H2 (z+1) 3 (QR D lo (k+1) false) w u/\i6 (z+1) D H2/\u++(l.drop i).flatMap F=r)->
  w7 (LE prog t6 (.loop NV) e H2) (fun o e H2=>o= .exit 2/\e.get 1=pT z/\∃w,e.get 3=w/\u6 H2 (z+1) 3 (QR D lo (k+1) false) w r/\i6 (z+1) D H2):=by
 refine i8 _ _ ?_;rintro kk e H2 ⟨i,u,w,hk,hi,f1,f3,f6,hO,J,S⟩;have W:H2.get z=cE cl 1:=by rw[J.get z oM];exact hb
 have b3:=J.next;rcases b:decide ((i:Int)<l.length)with _|_
 .have a4:=dF b;have:l.drop i=[]:=dN oM;rw[this,List.flatMap_nil,List.append_nil]at S;refine J5 f1 f6 W hc b ?_;exact i9 ⟨rfl,f1,w,f3,by rw[<-S];exact hO,J⟩
 have a4:=dT b;obtain⟨x,nb,o,cs,own,el,hx,hd,rfl,b2,hg,b0,E,hR⟩:=hv.row (i:=i) oM;have nt:(i:Int).toNat=i:=tN i;simp only[qSz,if_true,bF]at E hg;have a6:=(J.get nb oM).trans hg;rw[hd,List.flatMap_cons,<-List.append_assoc]at S;have a8:u.length+(F x).length<=1000000:=by
  have:r.length=u.length+(F x).length+((l.drop (i+1)).flatMap F).length:=by rw[<-S,List.length_append,List.length_append]
  omega
 obtain⟨v,h,H3,a5,a7,a1,O⟩:=ih H2 lo el x oM (hR.mono (fun j hj=>J.get j oM) lR) oM (hw x (mG hx));have U:u6 H3 H2.next 3 (QR D lo (k+1) false) v (F x):=a1.imp fun cs q h=>(h.mono (fun j hj=>(J.get j oM).symm) lR).up;have b4:=O.next;obtain⟨v',h',H4,ha,X,a2,a3⟩:=(hO.keep O).append (P:=prog) (t:=22) (n:=H3.next) (by exact lP.2.2.2.2.2.2) aq.1 aq.2.1 aq.2.2.1 oM oM U.sl oM oM;refine J14 f1 f3 f6 W hc b a6 nt E @wrap_small a5 a7 ha X ?_;refine i4 (kk-1) oM ⟨i+1,u++F x,v',oM,oM,f1,rfl,rfl,a2,(J.trans (O.weaken oM)).trans a3,S⟩
theorem Lo(F:Q->List Q)(k:Nat)(ih:T9 91 true 3 false F k)(D:N7)(lo z:Nat)(b1:lo<=z)(a9:z<D.next)(va:Option Addr)(ca:Nat)(l:List Q)(hv:QsR D lo k true (.slice va l.length ca) l)(hn:l.length<=1048576)(cl:LV)(hb:D.get z=cE cl 1)(hc:cl[4]?=some (.slice va l.length ca))(r:List Q)(hr:r.length<=1000000)(hw:∀x∈l,OkD true x):
  ∀kk e H2,(∃(i:Nat)(u:List Q)(w:Value),kk=l.length-i/\i<=l.length/\e.get 1=pT z/\e.get 3=w/\e.get 4=iV i/\u6 H2 (z+1) 3 (QR D lo (k+1) false) w u/\i6 (z+1) D H2/\u++(l.drop i).flatMap F=r)->
  w7 (LE prog t6 (.loop Ot) e H2) (fun o e H2=>o= .exit 0/\e.get 1=pT z/\∃w,e.get 3=w/\u6 H2 (z+1) 3 (QR D lo (k+1) false) w r/\i6 (z+1) D H2):=by
 refine i8 _ _ ?_;rintro kk e H2 ⟨i,u,w,hk,hi,f1,f3,f6,hO,J,S⟩;have W:H2.get z=cE cl 1:=by rw[J.get z oM];exact hb
 have b3:=J.next;rcases b:decide ((i:Int)<l.length)with _|_
 .have a4:=dF b;have:l.drop i=[]:=dN oM;rw[this,List.flatMap_nil,List.append_nil]at S;refine J5 f1 f6 W hc b ?_;exact i9 ⟨rfl,f1,w,f3,by rw[<-S];exact hO,J⟩
 have a4:=dT b;obtain⟨x,nb,o,cs,own,el,hx,hd,rfl,b2,hg,b0,E,hR⟩:=hv.row (i:=i) oM;have nt:(i:Int).toNat=i:=tN i;simp only[qSz,if_true,bF]at E hg;have a6:=(J.get nb oM).trans hg;rw[hd,List.flatMap_cons,<-List.append_assoc]at S;have a8:u.length+(F x).length<=1000000:=by
  have:r.length=u.length+(F x).length+((l.drop (i+1)).flatMap F).length:=by rw[<-S,List.length_append,List.length_append]
  omega
 obtain⟨v,h,H3,a5,a7,a1,O⟩:=ih H2 lo el x oM (hR.mono (fun j hj=>J.get j oM) lR) oM (hw x (mG hx));have U:u6 H3 H2.next 3 (QR D lo (k+1) false) v (F x):=a1.imp fun cs q h=>(h.mono (fun j hj=>(J.get j oM).symm) lR).up;have b4:=O.next;obtain⟨v',h',H4,ha,X,a2,a3⟩:=(hO.keep O).append (P:=prog) (t:=22) (n:=H3.next) (by exact lP.2.2.2.2.2.2) aq.1 aq.2.1 aq.2.2.1 oM oM U.sl oM oM;refine J14 f1 f3 f6 W hc b a6 nt E @wrap_small a5 a7 ha X ?_;refine i4 (kk-1) oM ⟨i+1,u++F x,v',oM,oM,f1,rfl,rfl,a2,(J.trans (O.weaken oM)).trans a3,S⟩
theorem PK(k:Nat)(a7:T9 86 false 6 true (fsQ false) k)(a8:T9 112 true 6 true (fsQ true) k):T9 86 false 6 true (fsQ false) (k+1):=by
 intro H lo cs q W hr hl a6;obtain⟨a9,b0,_⟩:=a6.parts;obtain⟨va,ca,wa,E,rfl,h1,h2,h3,h4⟩:=hr.path;obtain⟨D,O,-,hg,hS⟩:=pushF H (bC [iV q.op,.slice va q.a.length ca,.slice wa q.b.length E] 1);have X:H.next<=D.low:=by rw[O,l9];exact lR
 have a4:=u7 hg;have hs:fsQ false q=(fsL false q.a)++fsL true q.b:=by rw[kg false q,if_neg Bool.false_ne_true,List.nil_append]<;>rfl
 have a1:=h1.mono (H':=D) (fun j hj=>hS.get j oM) lR;have a2:=h2.mono (H':=D) (fun j hj=>hS.get j oM) lR;rw[hs]at hl ⊢;have a5:(fsL false q.a).length<=1000000:=by rw[List.length_append]at hl;omega
 rw[j7 Lb rfl _ sM];refine J1 O.symm ?_;refine j8 (F:=fun z=>L8 (u5 _ _ _ (u9 (inBlock 0 z) _)) _ _ _ _) (Ll (fsQ false) k a7 D lo H.next W a4 va ca q.a a1 h3 _ hg rfl (fsL false q.a) a5 a9 q.a.length _ _ ⟨0,[],_,rfl,oM,rfl,rfl,rfl,u6.nil,i6.refl _ _,by rw[eR];rfl⟩) ?_;rintro o e' H2 ⟨ho,g1,w,g3,hO,u⟩;have b1:=u.next;have U:H2.get H.next=_:=(u.get H.next oM).trans hg;have J:=a2.mono (H':=H2) (fun j hj=>u.get j oM) lR;refine J1 ho ?_;refine j8 (F:=fun z=>L8 (u5 _ _ _ (u9 (inBlock 2 z) _)) _ _ _ _) (Ln (fsQ true) k a8 H2 lo H.next W (u7 U) wa E q.b J h4 _ U rfl (fsL false q.a++fsL true q.b) hl b0 q.b.length _ _ ⟨0,fsL false q.a,w,rfl,oM,g1,g3,rfl,hO.imp fun cs q h=>h.mono (fun j hj=>u.get j oM) lR,i6.refl _ _,by rw[eR true];rfl⟩) ?_;rintro o e' H3 ⟨ho,g1,w,g3,hO,a3⟩;have S:i6 (H.next+1) D H3:=u.trans a3;refine J2 ho g3 ?_;exact F0 ((hO.weaken oM).imp fun cs q h=>h.mono (fun j hj=>by rw[<-hS.get j oM,<-u.get j oM]) lR) (hS.trans (S.weaken oM)) ((S.weaken oM).low X)
theorem PJ(k:Nat)(a7:T9 68 false 3 false (inQ false) k)(a8:T9 91 true 3 false (inQ true) k):T9 68 false 3 false (inQ false) (k+1):=by
 intro H lo cs q W hr hl a6;obtain⟨a9,b0,_⟩:=a6.parts;obtain⟨va,ca,wa,E,rfl,h1,h2,h3,h4⟩:=hr.path;obtain⟨D,O,-,hg,hS⟩:=pushF H (bC [iV q.op,.slice va q.a.length ca,.slice wa q.b.length E] 1);have X:H.next<=D.low:=by rw[O,l9];exact lR
 have a4:=u7 hg;have hs:inQ false q=(inL false q.a)++inL true q.b:=by rw[nz q]<;>rfl
 have a1:=h1.mono (H':=D) (fun j hj=>hS.get j oM) lR;have a2:=h2.mono (H':=D) (fun j hj=>hS.get j oM) lR;rw[hs]at hl ⊢;have a5:(inL false q.a).length<=1000000:=by rw[List.length_append]at hl;omega
 rw[j7 KW rfl _ sM];refine J1 O.symm ?_;refine j8 (F:=fun z=>L8 (u5 _ _ _ (u9 (inBlock 0 z) _)) _ _ _ _) (Lj (inQ false) k a7 D lo H.next W a4 va ca q.a a1 h3 _ hg rfl (inL false q.a) a5 a9 q.a.length _ _ ⟨0,[],_,rfl,oM,rfl,rfl,rfl,u6.nil,i6.refl _ _,by rw[eU];rfl⟩) ?_;rintro o e' H2 ⟨ho,g1,w,g3,hO,u⟩;have b1:=u.next;have U:H2.get H.next=_:=(u.get H.next oM).trans hg;have J:=a2.mono (H':=H2) (fun j hj=>u.get j oM) lR;refine J1 ho ?_;refine j8 (F:=fun z=>L8 (u5 _ _ _ (u9 (inBlock 2 z) _)) _ _ _ _) (Lk (inQ true) k a8 H2 lo H.next W (u7 U) wa E q.b J h4 _ U rfl (inL false q.a++inL true q.b) hl b0 q.b.length _ _ ⟨0,inL false q.a,w,rfl,oM,g1,g3,rfl,hO.imp fun cs q h=>h.mono (fun j hj=>u.get j oM) lR,i6.refl _ _,by rw[eU true];rfl⟩) ?_;rintro o e' H3 ⟨ho,g1,w,g3,hO,a3⟩;have S:i6 (H.next+1) D H3:=u.trans a3;refine J2 ho g3 ?_;exact F0 ((hO.weaken oM).imp fun cs q h=>h.mono (fun j hj=>by rw[<-hS.get j oM,<-u.get j oM]) lR) (hS.trans (S.weaken oM)) ((S.weaken oM).low X)
theorem Li(k:Nat)(b8:T9 112 true 6 true (fsQ true) k)(b9:T9 86 false 6 true (fsQ false) k):T9 112 true 6 true (fsQ true) (k+1):=by
 intro H lo cs q a5 hr hl b7;obtain⟨c0,c3,_⟩:=b7.parts;have a7:=hr;obtain⟨va,ca,wa,S,rfl,h1,h2,h3,h4,_⟩:=hr.filter;obtain⟨D,u⟩:=eY ([iV q.op,.string q.sp,.string q.lc,.string q.vl,.slice va q.a.length ca,.slice wa q.b.length S]:LV);obtain⟨O,a1,-,hg,hS⟩:=pushF H (bC D 1);have a6:H.next<=O.low:=by rw[a1,l9];exact lR
 have c4:=u7 hg;have b5:ldC (some true) (some 6) 0 D=some (.agg D.toArray):=by rw[u];rfl
 obtain⟨H2,U⟩:=eY (O.push (bC D 6));have E:i6 (H.next+1) O H2:=by rw[U];exact i6.push oM
 have c5:=E.next;have W:H2.get H.next=_:=(E.get H.next oM).trans hg;rw[<-u]at a7;have hO:u6 H2 (H.next+1) 6 (QR H2 lo (k+1) true) (sL O.next 1 1) [q]:=by
  rw[U];refine u6.fresh rfl oM (D2.one (by rw[u];rfl) (a7.mono (fun j hj=>?_) lR));rw[i7 oM,hS.get j oM]
 have hs:fsQ true q=[q]++(fsL true q.a++fsL false q.b):=by rw[kg true q,if_pos rfl];rfl
 have a9:=h1.mono (H':=H2) (fun j hj=>by rw[E.get j oM,hS.get j oM]) lR;rw[hs,<-List.append_assoc]at hl ⊢;have b4:([q]++fsL true q.a).length<=1000000:=by rw[List.length_append]at hl;omega
 have b2:D[4]?=some (.slice va q.a.length ca):=by rw[u];rfl
 have b3:D[5]?=some (.slice wa q.b.length S):=by rw[u];rfl
 have a3:D.all oC=true:=by rw[u];rfl
 have b1:(Value.agg D.toArray).cells.toList=D:=rfl;have b6:D.length=6:=by rw[u];rfl
 rw[j7 Ed rfl _ sM,<-u];have a8:bsA prog (some 86) O 1 [(0,.agg D.toArray)]=some (sL O.next 1 1,H2):=by
  rw[u,U,u];simp only[C7,cr,C8];rfl
 refine J5 a3 a1.symm hg b5 a8 ?_;refine j8 (F:=fun z=>L8 (u5 _ _ _ (u9 (inBlock 0 z) _)) _ _ _ _) (Hp (fsQ true) k b8 H2 lo H.next a5 (u7 W) va ca q.a a9 h3 _ W b2 ([q]++fsL true q.a) b4 c0 q.a.length _ _ ⟨0,[q],_,rfl,oM,rfl,rfl,rfl,hO,i6.refl _ _,by rw[eR];rfl⟩) ?_;rintro o e' H3 ⟨ho,g1,w,g3,hO,J⟩;have c6:=J.next;have a4:H3.get H.next=_:=(J.get H.next oM).trans W;have X:=h2.mono (H':=H3) (fun j hj=>by rw[J.get j oM,E.get j oM,hS.get j oM]) lR;refine J1 ho ?_;refine j8 (F:=fun z=>L8 (u5 _ _ _ (u9 (inBlock 2 z) _)) _ _ _ _) (Hr (fsQ false) k b9 H3 lo H.next a5 (u7 a4) wa S q.b X h4 _ a4 b3 ([q]++fsL true q.a++fsL false q.b) hl c3 q.b.length _ _ ⟨0,[q]++fsL true q.a,w,rfl,oM,g1,g3,rfl,hO.imp fun cs q h=>h.mono (fun j hj=>J.get j oM) lR,i6.refl _ _,by rw[eR false];rfl⟩) ?_;rintro o e' H4 ⟨ho,g1,w,g3,hO,b0⟩;have a2:i6 (H.next+1) O H4:=(E.trans J).trans b0;refine J2 ho g3 ?_;exact F0 ((hO.weaken oM).imp fun cs q h=>h.mono (fun j hj=>by rw[<-hS.get j oM,<-E.get j oM,<-J.get j oM]) lR) (hS.trans (a2.weaken oM)) ((a2.weaken oM).low a6)
theorem Lg:∀k,T9 86 false 6 true (fsQ false) k/\T9 112 true 6 true (fsQ true) k:=by
 intro k;induction k with
 |zero=>exact⟨fun H lo cs q z D=>D.elim,fun H lo cs q z D=>D.elim⟩
 |succ k u=>exact⟨PK k u.1 u.2,Li k u.2 u.1⟩
theorem PL(k:Nat)(d2:T9 91 true 3 false (inQ true) k)(d3:T9 68 false 3 false (inQ false) k):T9 91 true 3 false (inQ true) (k+1):=by
 intro H lo cs q d0 hr hl d1;obtain⟨d4,d5,_,_,d6⟩:=d1.parts;have a5:=(Tt d6).2.2.1;simp only[if_true]at a5;obtain⟨va,ca,wa,b4,rfl,h1,h2,h3,h4,_⟩:=hr.filter;obtain⟨H1,a6,-,hg,hS⟩:=pushF H (bC [iV q.op,.string q.sp,.string q.lc,.string q.vl,.slice va q.a.length ca,.slice wa q.b.length b4] 1);have U:H.next<=H1.low:=by rw[a6,l9];exact lR
 have c8:=u7 hg;have b5:=h1.mono (H':=H1) (fun j hj=>hS.get j oM) lR;rw[iB]at hl ⊢;have a4:(inL true q.a).length<=1000000:=by rw[List.length_append]at hl;omega
 rw[j7 PF rfl _ sM];refine J1 a6.symm ?_;refine j8 (F:=fun z=>L8 (u5 _ _ _ (u9 (inBlock 0 z) _)) _ _ _ _) (Lo (inQ true) k d2 H1 lo H.next d0 c8 va ca q.a b5 h3 _ hg rfl (inL true q.a) a4 d4 q.a.length _ _ ⟨0,[],_,rfl,oM,rfl,rfl,rfl,u6.nil,i6.refl _ _,by rw[eU];rfl⟩) ?_;rintro o e' H2 ⟨ho,g1,w,g3,hO,u⟩;have d9:=u.next;have a3:H2.get H.next=_:=(u.get H.next oM).trans hg;rcases b:decide (q.op=11)with _|_
 .have hb:=dF b;rw[if_neg hb,List.append_nil];refine J5 ho g1 g3 a3 b ?_;exact F0 ((hO.weaken oM).imp fun cs q h=>h.mono (fun j hj=>by rw[<-hS.get j oM]) lR) (hS.trans (u.weaken oM)) ((u.weaken oM).low U)
 have hb:=dT b;rw[if_pos hb]at hl ⊢;have a4:=a5.1 hb;obtain⟨x,nb,o,cs,own,el,hx,hd,rfl,d8,b1,c9,W,hR⟩:=h2.row (i:=0) oM;have a2:q.b=[x]:=by
  obtain⟨y,hy⟩:=List.length_eq_one_iff.1 a4;rw[hy]at hx ⊢;simpa using hx
 have c5:inL false q.b=inQ false x:=by rw[a2,eU];simp
 rw[c5,a2]at hl ⊢;simp only[List.length_append,List.length_cons,List.length_nil]at hl;simp only[qSz,if_true,bF,Bool.not_false,Bool.not_true,Nat.zero_mul,Nat.add_zero]at W b1 c9;have S:H2.get nb=_:=(u.get nb oM).trans ((hS.get nb oM).trans b1);have D:QR H2 lo k false el x:=hR.mono (fun j hj=>by rw[u.get j oM,hS.get j oM]) lR;obtain⟨v,h,H3,c4,c7,b6,E⟩:=d3 H2 lo el x oM D oM (d5 x (by rw[a2];simp));have a7:u6 H3 H2.next 3 (QR H1 lo (k+1) false) v (inQ false x):=b6.imp fun cs q h=>(h.mono (fun j hj=>(u.get j oM).symm) lR).up;have e1:=E.next;obtain⟨v',h',J,ha,a9,b7,O⟩:=(hO.keep E).append (P:=prog) (t:=22) (n:=H3.next) (by exact lP.2.2.2.2.2.2) aq.1 aq.2.1 aq.2.2.1 oM oM a7.sl oM oM;have e2:=O.next;have c6:J.get H.next=_:=(O.get H.next oM).trans ((E.get H.next oM).trans a3);have b2:J.get nb=_:=(O.get nb oM).trans ((E.get nb oM).trans S);obtain⟨H5,X⟩:=eY (J.push (bC el 3));have a1:i6 J.next J H5:=by rw[X];exact i6.push oM
 have e4:=a1.next;have b8:u6 H5 J.next 3 (QR H1 lo (k+1) false) (sL J.next 1 1) [x]:=by
  rw[X];refine u6.fresh rfl oM (D2.one hR.len (D.up.mono (fun j hj=>(u.get j oM).symm) lR))
 obtain⟨v6,h6,H6,c3,b0,b9,c0⟩:=(b7.keep a1).append (P:=prog) (t:=22) (n:=H5.next) (by exact lP.2.2.2.2.2.2) aq.1 aq.2.1 aq.2.2.1 oM oM b8.sl (by simp only[List.length_append,List.length_cons,List.length_nil];omega) oM;have b3:bsA prog (some 25) J 1 [(0,.agg el.toArray)]=some (sL J.next 1 1,H5):=by
  have e3:el=[iV x.op,el[1]?.getD undef,el[2]?.getD undef]:=by
   cases k with
   |zero=>exact D.elim
   |succ k=>obtain⟨_,_,_,_,rfl,_⟩:=D.path;rfl
  rw[X];cases k with
  |zero=>exact D.elim
  |succ k=>
   obtain⟨_,_,_,_,rfl,_⟩:=D.path;simp only[C7,aq,C8];rfl
 refine J16 ho g1 g3 a3 b S W c4 c7 ha a9 c6 b2 b3 c3 b0 ?_;have a8:i6 (H.next+1) H1 H6:=(((u.trans (E.weaken oM)).trans O).trans (a1.weaken oM)).trans c0;rw[<-List.append_assoc];exact F0 ((b9.weaken oM).imp fun cs q h=>h.mono (fun j hj=>by rw[<-hS.get j oM]) lR) (hS.trans (a8.weaken oM)) ((a8.weaken oM).low U)
theorem LA:∀k,T9 68 false 3 false (inQ false) k/\T9 91 true 3 false (inQ true) k:=by
 intro k;induction k with
 |zero=>exact⟨fun H lo cs q z D=>D.elim,fun H lo cs q z D=>D.elim⟩
 |succ k u=>exact⟨PJ k u.1 u.2,PL k u.2 u.1⟩
abbrev L3(x y:ByteArray×ByteArray):Bool:=decide (x.1=y.1)&&decide (x.2=y.2)
abbrev cj(x y:ByteArray):Bool:=decide (x=y)
abbrev aP(x y:Bool×Bool×ByteArray):Bool:=(x.1==y.1)&&((x.2.1==y.2.1)&&decide (x.2.2=y.2.2))
theorem HS(H0:N7)(lo:Nat)(va:Option Addr)(ca:Nat)(l:List (ByteArray×ByteArray))(x:ByteArray×ByteArray)(hv:SlI H0 lo 2 (w9 nmE) (.slice va l.length ca) l)(hn:l.length<=1048576)(bx:Nat)(W:H0.get bx=cE (nmE x) 1)(r:Bool):
  ∀U e H2,(∃i:Nat,U=l.length-i/\i<=l.length/\e.get 0= .slice va l.length ca/\e.get 3=pT bx/\e.get 5=iV i/\H2=H0/\(l.drop i).any (fun y=>L3 y x)=r)->
  w7 (LE prog t6 (.loop Kw) e H2) (fun o e H2=>H2=H0/\((o= .exit 0/\r=false)\/(o= .ret/\e.get 4= .bool true/\r=true))):=by
 refine i8 _ _ ?_;rintro U e H2 ⟨i,hk,hi,E,J,O,hH,z⟩;subst hH;rcases b:decide ((i:Int)<l.length)with _|_
 .have S:=dF b;have:l.drop i=[]:=dN oM;rw[this,List.any_nil]at z;refine J3 E O b ?_;exact i9 ⟨rfl,.inl ⟨rfl,z.symm⟩⟩
 have S:=dT b;obtain⟨y,nb,o,cs,own,el,hx,hd,rfl,a2,X,a1,u,hc,rfl⟩:=hv.row (i:=i) oM;have nt:(i:Int).toNat=i:=tN i;have c0:=hc 0 oM;rw[Nat.add_zero]at c0;rw[hd,List.any_cons]at z;rcases D:(L3 y x:Bool)with _|_
 .simp only[D,bF,Bool.false_or]at z;refine J10 E J O b W X nt u @wrap_small D ?_;exact i4 (U-1) oM ⟨i+1,oM,oM,E,J,rfl,rfl,z⟩
 .simp only[D,if_true,Bool.true_or]at z;refine J9 E J O b W X nt u D ?_;exact z9 ⟨rfl,.inr ⟨rfl,rfl,z.symm⟩⟩
theorem LM(H0:N7)(lo:Nat)(va:Option Addr)(ca:Nat)(l:List (ByteArray))(x:ByteArray)(hv:SlI H0 lo 1 (w9 stE) (.slice va l.length ca) l)(hn:l.length<=1048576)(r:Bool):
  ∀U e H2,(∃i:Nat,U=l.length-i/\i<=l.length/\e.get 0= .slice va l.length ca/\e.get 1= .string x/\e.get 5=iV i/\H2=H0/\(l.drop i).any (fun y=>cj y x)=r)->
  w7 (LE prog t6 (.loop NS) e H2) (fun o e H2=>H2=H0/\((o= .exit 0/\r=false)\/(o= .ret/\e.get 4= .bool true/\r=true))):=by
 refine i8 _ _ ?_;rintro U e H2 ⟨i,hk,hi,D,J,O,hH,u⟩;subst hH;rcases b:decide ((i:Int)<l.length)with _|_
 .have S:=dF b;have:l.drop i=[]:=dN oM;rw[this,List.any_nil]at u;refine J3 D O b ?_;exact i9 ⟨rfl,.inl ⟨rfl,u.symm⟩⟩
 have S:=dT b;obtain⟨y,nb,o,cs,own,el,hx,hd,rfl,a2,W,a1,X,hc,rfl⟩:=hv.row (i:=i) oM;have nt:(i:Int).toNat=i:=tN i;have E:=hc 0 oM;rw[Nat.add_zero]at E;rw[hd,List.any_cons]at u;rcases z:(cj y x:Bool)with _|_
 .simp only[z,bF,Bool.false_or]at u;refine J9 D J O b W nt E @wrap_small z ?_;exact i4 (U-1) oM ⟨i+1,oM,oM,D,J,rfl,rfl,u⟩
 .simp only[z,if_true,Bool.true_or]at u;refine J8 D J O b W nt E z ?_;exact z9 ⟨rfl,.inr ⟨rfl,rfl,u.symm⟩⟩
theorem LL(H0:N7)(lo:Nat)(va:Option Addr)(ca:Nat)(l:List (Bool×Bool×ByteArray))(x:Bool×Bool×ByteArray)(hv:SlI H0 lo 3 (w9 soE) (.slice va l.length ca) l)(hn:l.length<=1048576)(bx:Nat)(X:H0.get bx=cE (soE x) 1)(r:Int):
  ∀W e H2,(∃i:Nat,W=l.length-i/\i<=l.length/\e.get 0= .slice va l.length ca/\e.get 3=pT bx/\e.get 7=iV l.length/\e.get 8=iV i/\H2=H0/\ixG (fun y=>aP x y) (l.drop i) i=r)->
  w7 (LE prog t6 (.loop Nu) e H2) (fun o e H2=>H2=H0/\((o= .exit 0/\r= -1)\/(o= .ret/\e.get 4=iV r))):=by
 refine i8 _ _ ?_;rintro W e H2 ⟨i,hk,hi,J,O,E,S,hH,z⟩;subst hH;rcases b:decide ((i:Int)<l.length)with _|_
 .have U:=dF b;have:l.drop i=[]:=dN oM;rw[this,ixG]at z;refine J3 E S b ?_;exact i9 ⟨rfl,.inl ⟨rfl,z.symm⟩⟩
 have U:=dT b;obtain⟨y,nb,o,cs,own,el,hx,hd,rfl,a2,hg,a1,u,hc,rfl⟩:=hv.row (i:=i) oM;have nt:(i:Int).toNat=i:=tN i;have c0:=hc 0 oM;rw[Nat.add_zero]at c0;rw[hd,ixG]at z;rcases D:(aP x y:Bool)with _|_
 .simp only[D,bF,Bool.false_or]at z;refine J12 J O E S @lS b X hg nt u @wrap_small D ?_;exact i4 (W-1) oM ⟨i+1,oM,oM,J,O,E,rfl,rfl,z⟩
 .simp only[D,if_true,Bool.true_or]at z;refine J11 J O E S @lS b X hg nt u D ?_;exact z9 ⟨rfl,.inr ⟨rfl,by rw[<-z];rfl⟩⟩
theorem HR(H0:N7)(lo:Nat)(va:Option Addr)(ca:Nat)(l:List (ByteArray))(x:ByteArray)(hv:SlI H0 lo 1 (w9 stE) (.slice va l.length ca) l)(hn:l.length<=1048576)(r:Int):
  ∀W e H2,(∃i:Nat,W=l.length-i/\i<=l.length/\e.get 0= .slice va l.length ca/\e.get 1= .string x/\e.get 7=iV l.length/\e.get 8=iV i/\H2=H0/\ixG (fun y=>cj x y) (l.drop i) i=r)->
  w7 (LE prog t6 (.loop Kp) e H2) (fun o e H2=>H2=H0/\((o= .exit 0/\r= -1)\/(o= .ret/\e.get 4=iV r))):=by
 refine i8 _ _ ?_;rintro W e H2 ⟨i,hk,hi,J,O,D,S,hH,u⟩;subst hH;rcases b:decide ((i:Int)<l.length)with _|_
 .have U:=dF b;have:l.drop i=[]:=dN oM;rw[this,ixG]at u;refine J3 D S b ?_;exact i9 ⟨rfl,.inl ⟨rfl,u.symm⟩⟩
 have U:=dT b;obtain⟨y,nb,o,cs,own,el,hx,hd,rfl,a3,X,a2,a1,hc,rfl⟩:=hv.row (i:=i) oM;have nt:(i:Int).toNat=i:=tN i;have E:=hc 0 oM;rw[Nat.add_zero]at E;rw[hd,ixG]at u;rcases z:(cj x y:Bool)with _|_
 .simp only[z,bF,Bool.false_or]at u;refine J10 J O D S b X nt E @wrap_small z ?_;exact i4 (W-1) oM ⟨i+1,oM,oM,J,O,D,rfl,rfl,u⟩
 .simp only[z,if_true,Bool.true_or]at u;refine J9 J O D S b X nt E z ?_;exact z9 ⟨rfl,.inr ⟨rfl,by rw[<-u];rfl⟩⟩
theorem HT(H0:N7)(lo:Nat)(va:Option Addr)(ca:Nat)(l:List (ByteArray×ByteArray))(x:ByteArray×ByteArray)(hv:SlI H0 lo 2 (w9 nmE) (.slice va l.length ca) l)(hn:l.length<=1048576)(bx:Nat)(X:H0.get bx=cE (nmE x) 1)(r:Int):
  ∀W e H2,(∃i:Nat,W=l.length-i/\i<=l.length/\e.get 0= .slice va l.length ca/\e.get 3=pT bx/\e.get 7=iV l.length/\e.get 8=iV i/\H2=H0/\ixG (fun y=>L3 x y) (l.drop i) i=r)->
  w7 (LE prog t6 (.loop KM) e H2) (fun o e H2=>H2=H0/\((o= .exit 0/\r= -1)\/(o= .ret/\e.get 4=iV r))):=by
 refine i8 _ _ ?_;rintro W e H2 ⟨i,hk,hi,J,O,E,S,hH,z⟩;subst hH;rcases b:decide ((i:Int)<l.length)with _|_
 .have U:=dF b;have:l.drop i=[]:=dN oM;rw[this,ixG]at z;refine J3 E S b ?_;exact i9 ⟨rfl,.inl ⟨rfl,z.symm⟩⟩
 have U:=dT b;obtain⟨y,nb,o,cs,own,el,hx,hd,rfl,a2,hg,a1,u,hc,rfl⟩:=hv.row (i:=i) oM;have nt:(i:Int).toNat=i:=tN i;have c0:=hc 0 oM;rw[Nat.add_zero]at c0;rw[hd,ixG]at z;rcases D:(L3 x y:Bool)with _|_
 .simp only[D,bF,Bool.false_or]at z;refine J11 J O E S b X hg nt u @wrap_small D ?_;exact i4 (W-1) oM ⟨i+1,oM,oM,J,O,E,rfl,rfl,z⟩
 .simp only[D,if_true,Bool.true_or]at z;refine J10 J O E S b X hg nt u D ?_;exact z9 ⟨rfl,.inr ⟨rfl,by rw[<-z];rfl⟩⟩
theorem Hj(H:N7)(lo:Nat)(v:Value)(l:List (ByteArray×ByteArray))(x:ByteArray×ByteArray)(a1:lo<=H.next)(U:SlI H lo 2 (w9 nmE) v l)(hn:l.length<=1048576):CL prog t6 113 [v,.agg (nmE x).toArray] H=some (.bool (l.any (fun y=>L3 y x)),none):=by
 obtain⟨va,ca,rfl⟩:=U.slice;obtain⟨J,u,-,hg,X⟩:=pushF H (bC (nmE x) 1);have S:H.next<=J.low:=by rw[u,l9];exact lR
 rw[j7 Jl rfl _ sM];refine J1 u.symm ?_;refine j8 (F:=fun z=>u5 _ _ _ (u9 (inBlock 0 z) _)=_) (HS J lo va ca l x (U.mono (fun j hj=>X.get j oM) lR iF) hn H.next hg (l.any (fun y=>L3 y x)) l.length _ _ ⟨0,rfl,oM,rfl,rfl,rfl,rfl,rfl⟩) ?_;rintro o e' H' ⟨O,⟨D,E⟩|⟨D,W,E⟩⟩
 .exact J3 D O E trivial
 .exact J4 D O W E trivial
theorem Eb(H:N7)(lo:Nat)(v:Value)(l:List (Bool×Bool×ByteArray))(x:Bool×Bool×ByteArray)(a1:lo<=H.next)(S:SlI H lo 3 (w9 soE) v l)(hn:l.length<=1048576):CL prog t6 39 [v,.agg (soE x).toArray] H=some (.int .i64 (ixG (fun y=>aP x y) l 0),none):=by
 obtain⟨va,ca,rfl⟩:=S.slice;obtain⟨E,u,-,X,W⟩:=pushF H (bC (soE x) 1);have O:H.next<=E.low:=by rw[u,l9];exact lR
 rw[j7 Pn rfl _ sM];refine J1 u.symm ?_;refine j8 (F:=fun z=>u5 _ _ _ (u9 (inBlock 0 z) _)=_) (LL E lo va ca l x (S.mono (fun j hj=>W.get j oM) lR iF) hn H.next X (ixG (fun y=>aP x y) l 0) l.length _ _ ⟨0,rfl,oM,rfl,rfl,rfl,rfl,rfl,rfl⟩) ?_;rintro o e' H' ⟨J,⟨D,hr⟩|⟨D,U⟩⟩
 .exact J3 D J hr trivial
 .exact J3 D J U trivial
theorem zr(H:N7)(lo:Nat)(v:Value)(l:List (ByteArray×ByteArray))(x:ByteArray×ByteArray)(a1:lo<=H.next)(S:SlI H lo 2 (w9 nmE) v l)(hn:l.length<=1048576):CL prog t6 148 [v,.agg (nmE x).toArray] H=some (.int .i64 (ixG (fun y=>L3 x y) l 0),none):=by
 obtain⟨va,ca,rfl⟩:=S.slice;obtain⟨E,u,-,X,W⟩:=pushF H (bC (nmE x) 1);have O:H.next<=E.low:=by rw[u,l9];exact lR
 rw[j7 Js rfl _ sM];refine J1 u.symm ?_;refine j8 (F:=fun z=>u5 _ _ _ (u9 (inBlock 0 z) _)=_) (HT E lo va ca l x (S.mono (fun j hj=>W.get j oM) lR iF) hn H.next X (ixG (fun y=>L3 x y) l 0) l.length _ _ ⟨0,rfl,oM,rfl,rfl,rfl,rfl,rfl,rfl⟩) ?_;rintro o e' H' ⟨J,⟨D,hr⟩|⟨D,U⟩⟩
 .exact J3 D J hr trivial
 .exact J3 D J U trivial
theorem wY(H:N7)(lo:Nat)(v:Value)(l:List (ByteArray))(x:ByteArray)(S:lo<=H.next)(J:SlI H lo 1 (w9 stE) v l)(U:l.length<=1048576):CL prog t6 65 [v,.string x] H=some (.bool (l.any (fun y=>cj y x)),none):=by
 obtain⟨W,ca,rfl⟩:=J.slice;rw[j7 Pw rfl _ sM];refine J1 bU ?_;refine j8 (F:=fun z=>u5 _ _ _ (u9 (inBlock 0 z) _)=_) (LM ⟨H.bs,H.next⟩ lo W ca l x (J.mono (fun _ _=>rfl) lR iF) U (l.any (fun y=>cj y x)) l.length _ _ ⟨0,rfl,oM,rfl,rfl,rfl,rfl,rfl⟩) ?_;rintro o e' H' ⟨E,⟨u,D⟩|⟨u,O,D⟩⟩
 .exact J3 u E D trivial
 .exact J4 u E O D trivial
theorem Hi(H:N7)(lo:Nat)(v:Value)(l:List (ByteArray))(x:ByteArray)(O:lo<=H.next)(E:SlI H lo 1 (w9 stE) v l)(S:l.length<=1048576):CL prog t6 102 [v,.string x] H=some (.int .i64 (ixG (fun y=>cj x y) l 0),none):=by
 obtain⟨W,ca,rfl⟩:=E.slice;rw[j7 Jj rfl _ sM];refine J1 bU ?_;refine j8 (F:=fun z=>u5 _ _ _ (u9 (inBlock 0 z) _)=_) (HR ⟨H.bs,H.next⟩ lo W ca l x (E.mono (fun _ _=>rfl) lR iF) S (ixG (fun y=>cj x y) l 0) l.length _ _ ⟨0,rfl,oM,rfl,rfl,rfl,rfl,rfl,rfl⟩) ?_;rintro o e' H' ⟨D,⟨u,U⟩|⟨u,J⟩⟩
 .exact J3 u D U trivial
 .exact J3 u D J trivial
theorem Ew(H:N7)(lo:Nat)(v:Value)(l:List (ByteArray))(x:ByteArray)(u:lo<=H.next)(E:SlI H lo 1 (w9 stE) v l)(D:l.length<=1048576):CL prog t6 80 [v,.string x] H=some (.bool (l.any fun y=>cj x y),none):=by
 have z:=Hi ⟨H.bs,H.next⟩ lo v l x u (E.mono (fun _ _=>rfl) lR iF) D;rw[j7 QW rfl _ sM,<-gN];exact J1 z trivial
theorem PN(H:N7)(lo:Nat)(v:Value)(l:List (Bool×Bool×ByteArray))(x:Bool×Bool×ByteArray)(U:lo<=H.next)(hv:SlI H lo 3 (w9 soE) v l)(W:l.length<=1048576):CL prog t6 85 [v,.agg (soE x).toArray] H=some (.bool (l.any fun y=>aP x y),none):=by
 obtain⟨D,u,-,S,E⟩:=pushF H (bC (soE x) 1);have J:H.next<=D.low:=by rw[u,l9];exact lR
 have X:=E.next;have O:=Eb D lo v l x oM (hv.mono (fun j hj=>E.get j oM) lR iF) W;have z:ldC (some true) (some 3) 0 (soE x)=some (.agg (soE x).toArray):=rfl;rw[j7 QZ rfl _ sM,<-gN];exact J4 u.symm S z O trivial
theorem Lt(H:N7)(lo:Nat)(v:Value)(l:List (ByteArray×ByteArray))(x:ByteArray×ByteArray)(U:lo<=H.next)(hv:SlI H lo 2 (w9 nmE) v l)(W:l.length<=1048576):CL prog t6 147 [v,.agg (nmE x).toArray] H=some (.bool (l.any fun y=>L3 x y),none):=by
 obtain⟨D,u,-,S,E⟩:=pushF H (bC (nmE x) 1);have J:H.next<=D.low:=by rw[u,l9];exact lR
 have X:=E.next;have O:=zr D lo v l x oM (hv.mono (fun j hj=>E.get j oM) lR iF) W;have z:ldC (some true) (some 2) 0 (nmE x)=some (.agg (nmE x).toArray):=rfl;rw[j7 Pe rfl _ sM,<-gN];exact J4 u.symm S z O trivial
def lM{α:Type}(p:Q->Bool)(g:Q->α)(eq:α->α->Bool)(acc:List α)(l:List Q):List α:=l.foldl (fun acc f=>if p f&& !acc.any (fun y=>eq y (g f)) then acc++[g f] else acc) acc
theorem gR{α:Type}(p:Q->Bool)(g:Q->α)(z:α->α->Bool)(u:List α)(x:Q)(l:List Q):lM p g z u (x::l)=lM p g z (if p x&& !u.any (fun y=>z y (g x)) then u++[g x] else u) l:=rfl
theorem dW{α:Type}(p:Q->Bool)(g:Q->α)(z:α->α->Bool):∀(l:List Q)(u:List α),(lM p g z u l).length<=u.length+l.length
 |[],u=>lR
 |x::l,u=>by
  rw[gR,List.length_cons];have:=dW p g z l (if p x&& !u.any (fun y=>z y (g x)) then u++[g x] else u);have D:(if p x&& !u.any (fun y=>z y (g x)) then u++[g x] else u).length<=u.length+1:=by split<;>simp
  omega
abbrev qNm(f:Q):ByteArray×ByteArray:=(f.sp,f.lc)
def aQ(from_ to_:Int)(f:Q):Bool:=decide (from_<=f.op)&&decide (f.op<=to_)
def dt(op:Int)(n:ByteArray×ByteArray)(f:Q):Bool:=decide (f.op=op)&&L3 (qNm f) n
theorem xP(k:Nat)(J:N7)(lo:Nat)(b0:lo<=J.next)(va:Option Addr)(ca:Nat)(l:List Q)(hv:QsR J lo k true (.slice va l.length ca) l)(hn:l.length<=1000000)(a b:Int)(r:List (ByteArray×ByteArray)):
  ∀kk e H2,(∃(i:Nat)(u:List (ByteArray×ByteArray))(w:Value),kk=l.length-i/\i<=l.length/\u.length<=i/\e.get 0= .slice va l.length ca/\e.get 1=iV a/\e.get 2=iV b/\e.get 7=w/\e.get 8=iV i/\u6 H2 J.next 2 (w9 nmE) w u/\i6 J.next J H2/\lM (aQ a b) qNm L3 u (l.drop i)=r)->
  w7 (LE prog t6 (.loop Ol) e H2) (fun o e H2=>o= .exit 0/\∃w,e.get 7=w/\u6 H2 J.next 2 (w9 nmE) w r/\i6 J.next J H2):=by
 refine i8 _ _ ?_;rintro kk e H2 ⟨i,u,w,hk,hi,a9,E,O,W,f7,f8,hO,X,z⟩;have b5:=X.next;rcases U:decide ((i:Int)<l.length)with _|_
 .have a4:=dF U;have:l.drop i=[]:=dN oM;rw[this]at z;refine J3 E f8 U ?_;exact i9 ⟨rfl,w,f7,by rw[<-z];exact hO,X⟩
 have a4:=dT U;obtain⟨x,nb,o,cs,own,el,hx,hd,rfl,b4,hg,a5,a7,hc,hR⟩:=SlI.row hv (i:=i) oM;have nt:(i:Int).toNat=i:=tN i;cases k with
 |zero=>exact hR.elim
 |succ k=>
 obtain⟨b6,a8,wa,a6,rfl,_⟩:=hR.filter;have D:=(X.get nb oM).trans hg;have c0:=hc 0 (by simp [qSz]);rw[Nat.add_zero]at c0;have c1:=sR (j:=1) (m:=2) hc a5 (by simp [qSz]);simp only[qSz,if_true,List.drop_succ_cons,List.drop_zero,List.take_succ_cons,List.take_zero,List.getElem?_cons_zero]at c0 c1 D;rw[hd,gR]at z;have hh:=Hj H2 H2.next w u (qNm x) lR hO.sl oM;rcases S:decide (a<=x.op)with _|_
 .have hp:aQ a b x=false:=by rw[aQ,S];rfl
  rw[hp]at z;refine J9 E O f8 U D nt c0 S @wrap_small ?_;exact i4 (kk-1) oM ⟨i+1,u,w,oM,oM,oM,E,O,W,f7,rfl,hO,X,z⟩
 rcases b2:decide (x.op<=b)with _|_
 .have hp:aQ a b x=false:=by rw[aQ,S,b2];rfl
  rw[hp]at z;refine J11 E O W f8 U D nt c0 S b2 @wrap_small ?_;exact i4 (kk-1) oM ⟨i+1,u,w,oM,oM,oM,E,O,W,f7,rfl,hO,X,z⟩
 have hp:aQ a b x=true:=by rw[aQ,S,b2];rfl
 rw[hp]at z;rcases b3:u.any (fun y=>L3 y (qNm x))with _|_
 .rw[b3]at z hh;obtain⟨v',h',H4,ha,a1,a2,a3⟩:=hO.push1 (P:=prog) (t:=95) (by exact sV.2.2.2.2.2.2) dP.1 dP.2.1 dP.2.2.1 oM oM (cs:=[.string x.sp,.string x.lc]) (a:=qNm x) rfl rfl oM oM;refine J16 E O W f7 f8 U D nt c0 c1 S b2 hh ha a1 @wrap_small ?_;refine i4 (kk-1) oM ⟨i+1,u++[qNm x],v',oM,oM,by simp;omega,E,O,W,rfl,rfl,a2,X.trans a3,z⟩
 .rw[b3]at z hh;refine J14 E O W f7 f8 U D nt c0 c1 S b2 hh @wrap_small ?_;exact i4 (kk-1) oM ⟨i+1,u,w,oM,oM,oM,E,O,W,f7,rfl,hO,X,z⟩
def V5(a b:Int)(l:List Q):List (ByteArray×ByteArray):=lM (aQ a b) qNm L3 [] l
theorem qI(H:N7)(lo k:Nat)(v:Value)(l:List Q)(a b:Int)(u:lo<=H.next)(J:QsR H lo k true v l)(W:l.length<=1000000):L8 (CL prog t6 87 [v,iV a,iV b] H) H 2 (w9 nmE) (V5 a b l):=by
 obtain⟨O,ca,rfl⟩:=SlI.slice J;rw[j7 PC rfl _ sM];refine J1 ty3 ?_;have D:QsR ⟨H.bs,H.next⟩ lo k true (.slice O l.length ca) l:=J.mono (fun _ _=>rfl) lR;refine j8 (F:=fun z=>L8 (u5 _ _ _ (u9 (inBlock 0 z) _)) _ _ _ _) (xP k ⟨H.bs,H.next⟩ lo u O ca l D W a b (V5 a b l) l.length _ _ ⟨0,[],_,rfl,oM,by simp,rfl,rfl,rfl,rfl,rfl,u6.nil,i6.refl _ _,rfl⟩) ?_;rintro o e' H3 ⟨X,w,S,U,E⟩;refine J2 X S ?_;exact F0 U ((i6.start H).trans E) (E.low lR)
theorem vN(k:Nat)(H1:N7)(lo J:Nat)(b5:lo<=J)(b4:J<H1.next)(va:Option Addr)(ca:Nat)(l:List Q)(hv:QsR H1 lo k true (.slice va l.length ca) l)(hn:l.length<=1000000)(a:Int)(n:ByteArray×ByteArray)(hb:H1.get J=cE (nmE n) 1)(r:List ByteArray):
  ∀kk e H2,(∃(i:Nat)(u:List ByteArray)(w:Value),kk=l.length-i/\i<=l.length/\u.length<=i/\e.get 0= .slice va l.length ca/\e.get 1=iV a/\e.get 5=pT J/\e.get 7=w/\e.get 8=iV i/\u6 H2 (J+1) 1 (w9 stE) w u/\i6 (J+1) H1 H2/\lM (dt a n) Q.vl cj u (l.drop i)=r)->
  w7 (LE prog t6 (.loop Om) e H2) (fun o e H2=>o= .exit 0/\∃w,e.get 7=w/\u6 H2 (J+1) 1 (w9 stE) w r/\i6 (J+1) H1 H2):=by
 refine i8 _ _ ?_;rintro kk e H2 ⟨i,u,w,hk,hi,b0,O,S,f5,f7,f8,hO,U,D⟩;have b7:=U.next;have a1:=(U.get J oM).trans hb;have z:ldC (some true) (some 2) 0 (nmE n)=some (.agg (nmE n).toArray):=rfl;rcases X:decide ((i:Int)<l.length)with _|_
 .have a5:=dF X;have:l.drop i=[]:=dN oM;rw[this]at D;refine J3 O f8 X ?_;exact i9 ⟨rfl,w,f7,by rw[<-D];exact hO,U⟩
 have a5:=dT X;obtain⟨x,nb,o,cs,own,el,hx,hd,rfl,b6,hg,a6,a8,hc,hR⟩:=SlI.row hv (i:=i) oM;have nt:(i:Int).toNat=i:=tN i;cases k with
 |zero=>exact hR.elim
 |succ k=>
 obtain⟨b8,a9,wa,a7,rfl,_⟩:=hR.filter;have E:=(U.get nb oM).trans hg;have c0:=hc 0 (by simp [qSz]);rw[Nat.add_zero]at c0;have c1:=sR (j:=1) (m:=2) hc a6 (by simp [qSz]);have c3:=hc 3 (by simp [qSz]);simp only[qSz,if_true,List.drop_succ_cons,List.drop_zero,List.take_succ_cons,List.take_zero,List.getElem?_cons_zero,List.getElem?_cons_succ]at c0 c1 c3 E;rw[hd,gR]at D;have hh:=wY H2 H2.next w u x.vl lR hO.sl oM;rcases W:decide (x.op=a)with _|_
 .have hp:dt a n x=false:=by rw[dt,W];rfl
  rw[hp]at D;refine J9 O S f8 X E nt c0 W @wrap_small ?_;exact i4 (kk-1) oM ⟨i+1,u,w,oM,oM,oM,O,S,f5,f7,rfl,hO,U,D⟩
 rcases b2:(decide (x.sp=n.1)&&decide (x.lc=n.2))with _|_
 .have hp:dt a n x=false:=by rw[dt,W,L3,b2];rfl
  rw[hp]at D;refine J14 O S f5 f8 X a1 z E nt c0 c1 W b2 @wrap_small ?_;exact i4 (kk-1) oM ⟨i+1,u,w,oM,oM,oM,O,S,f5,f7,rfl,hO,U,D⟩
 have hp:dt a n x=true:=by rw[dt,W,L3,b2];rfl
 rw[hp]at D;rcases b3:u.any (fun y=>cj y x.vl)with _|_
 .rw[b3]at D hh;obtain⟨v',h',H4,ha,a2,a3,a4⟩:=hO.push1 (P:=prog) (t:=97) (by exact bU.2.2.2.2.2.2) ty9.1 ty9.2.1 ty9.2.2.1 oM oM (cs:=[.string x.vl]) (a:=x.vl) rfl rfl oM oM;refine J19 O S f5 f7 f8 X a1 z E nt c0 c1 c3 W b2 hh ha a2 @wrap_small ?_;refine i4 (kk-1) oM ⟨i+1,u++[x.vl],v',oM,oM,by simp;omega,O,S,f5,rfl,rfl,a3,U.trans a4,D⟩
 .rw[b3]at D hh;refine J17 O S f5 f7 f8 X a1 z E nt c0 c1 c3 W b2 hh @wrap_small ?_;exact i4 (kk-1) oM ⟨i+1,u,w,oM,oM,oM,O,S,f5,f7,rfl,hO,U,D⟩
def R9(a:Int)(n:ByteArray×ByteArray)(l:List Q):List ByteArray:=lM (dt a n) Q.vl cj [] l
theorem oG(H:N7)(lo k:Nat)(v:Value)(l:List Q)(a:Int)(n:ByteArray×ByteArray)(O:lo<=H.next)(X:QsR H lo k true v l)(hn:l.length<=1000000):L8 (CL prog t6 88 [v,iV a,.agg (nmE n).toArray] H) H 1 (w9 stE) (R9 a n l):=by
 obtain⟨va,ca,rfl⟩:=SlI.slice X;obtain⟨J,u,-,W,U⟩:=pushF H (bC (nmE n) 1);have E:H.next<=J.low:=by rw[u,l9];exact lR
 rw[j7 PD rfl _ sM];refine J1 u.symm ?_;have S:QsR J lo k true (.slice va l.length ca) l:=X.mono (fun j hj=>U.get j oM) lR;refine j8 (F:=fun z=>L8 (u5 _ _ _ (u9 (inBlock 0 z) _)) _ _ _ _) (vN k J lo H.next O (u7 W) va ca l S hn a n W (R9 a n l) l.length _ _ ⟨0,[],_,rfl,oM,by simp,rfl,rfl,rfl,rfl,rfl,u6.nil,i6.refl _ _,rfl⟩) ?_;rintro o e' H3 ⟨ho,w,g7,hO,D⟩;refine J2 ho g7 ?_;exact F0 (hO.weaken oM) (U.trans (D.weaken oM)) ((D.weaken oM).low E)
def dg1(n:Nat):ByteArray:=⟨#[UInt8.ofNat (48+n)]⟩
def dg(n:Nat):ByteArray:=if h:n<10 then dg1 n else dg (n / 10)++dg (n % 10)
termination_by n
decreasing_by all_goals omega
def dgV(l:List UInt8):Nat:=l.foldl (fun a b=>10*a+(b.toNat-48)) 0
theorem ct(a b:ByteArray):(a++b).data.toList=a.data.toList++b.data.toList:=by simp
theorem DK:∀n,dgV (dg n).data.toList=n:=by
 intro n;induction n using Nat.strongRecOn with
 |ind n J=>
  rw[dg];split
  .rename_i h;have:∀m:Fin 10,dgV (dg1 m.1).data.toList=m.1:=by decide
   exact this ⟨n,h⟩
  .rename_i h;have u:=J (n / 10) oM;have z:dg (n % 10)=dg1 (n % 10):=by rw[dg,dif_pos oM]
   have D:∀m:Fin 10,((UInt8.ofNat (48+m.1)).toNat-48)=m.1:=by decide
   rw[z,ct,dgV,List.foldl_append];rw[dgV]at u;rw[u];show 10*(n / 10)+((UInt8.ofNat (48+n % 10)).toNat-48)=n;have E:((UInt8.ofNat (48+n % 10)).toNat-48)=n % 10:=D ⟨n % 10,oM⟩;rw[E];omega
theorem rJ{n m:Nat}(h:dg n=dg m):n=m:=by rw[<-DK n,h,DK]
theorem lU:∀n,(dg n).size<=n+1:=by
 intro n;induction n using Nat.strongRecOn with
 |ind n u=>
  rw[dg];split
  .show 1<=n+1;omega
  .rename_i h;have D:=u (n / 10) oM;have E:=u (n % 10) oM;have z:(dg (n % 10)).size=1:=by rw[dg,dif_pos oM];rfl
   rw[ByteArray.size_append,z];omega
theorem Me{α:Type}(f:Nat->α)(S:∀i j,f i=f j->i=j):∀(l:List α)(z:List Nat),z.Nodup->(∀i∈z,f i∈l)->z.length<=l.length:=by
 intro l z;induction z generalizing l with
 |nil=>intro _ _;simp
 |cons n z U=>
  intro O J;obtain⟨s,t,rfl⟩:=List.append_of_mem (J n sM);have:=U (s++t) (List.nodup_cons.1 O).2 (fun i E=>by
   have u:=J i (by simp [E]);have D:i≠n:=fun q=>(List.nodup_cons.1 O).1 (q▸E);simp only[List.mem_append,List.mem_cons]at u ⊢;rcases u with u|u|u
   .exact .inl u
   .exact absurd (S _ _ u) D
   .exact .inr u)
  simp only[List.length_append,List.length_cons]at this ⊢;omega
def di(p:Nat->Bool):Nat->Nat->Nat
 |0,n=>n
 |k+1,n=>if p n then di p k (n+1) else n
theorem dy(p:Nat->Bool):∀k n,(∃m,n<=m/\m<n+k/\p m=false)->p (di p k n)=false/\di p k n<n+k
 |0,n,h=>by obtain⟨m,D,E,_⟩:=h;omega
 |k+1,n,h=>by
  rw[di];split
  .rename_i z;obtain⟨m,D,E,u⟩:=h;have J:m≠n:=fun q=>by rw[q,z]at u;cases u
   have:=dy p k (n+1) ⟨m,oM,oM,u⟩;exact⟨this.1,oM⟩
  .rename_i z;exact⟨by simpa using z,oM⟩
theorem rO{α:Type}(f:Nat->α)(z:∀i j,f i=f j->i=j) (l:List α) (p:Nat->Bool) (E:∀i,p i=true->f i∈l):∃m,m<l.length+1/\p m=false:=by
 apply Classical.byContradiction;intro h;have u:∀i∈List.range (l.length+1),f i∈l:=fun i D=>E i (by
  cases J:p i with
  |true=>rfl
  |false=>exact absurd ⟨i,List.mem_range.1 D,J⟩ h)
 have:=Me f z l _ List.nodup_range u;rw[List.length_range]at this;omega
theorem GS(n:Nat)(h:n<10):IntKind.wrap .u8 (48+(n:Int))=48+(n:Int):=by
 have:∀m:Fin 10,IntKind.wrap .u8 (48+(m.1:Int))=48+(m.1:Int):=by decide
 exact this ⟨n,h⟩
theorem DG(H:N7)(b:Nat)(n:Int)(u:H.get b=cE [.int .u8 n] 1)(c:Nat):Z4 prog H 81 9 (sL b 1 c)=some (.string ⟨#[UInt8.ofNat n.toNat]⟩,none):=by
 have:A5 H 1 (sL b 1 c)=some [.int .u8 n]:=by simp [A5,u]
 simp only[Z4,yR,ty9,ty5,this,Option.bind_some];rfl
theorem iL:∀(n:Nat)(H:N7),n<=1000000->CL prog t6 89 [iV n] H=some (.string (dg n),none):=by
 intro n;induction n using Nat.strongRecOn with
 |ind n J=>
  intro H hn;rw[j7 Ra rfl _ sM];rcases b:decide ((n:Int)<10)with _|_
  .have W:=dF b;have S:=J (n / 10) oM;have U:=J (n % 10) oM;have q1:((n:Int).tdiv 10)=((n / 10:Nat):Int):=by rw[Int.tdiv_eq_ediv_of_nonneg oM];omega
   have q2:((n:Int).tmod 10)=((n % 10:Nat):Int):=by rw[Int.tmod_eq_emod_of_nonneg oM];omega
   have z1:=lU (n / 10);have z2:=lU (n % 10);have E:dg n=dg (n / 10)++dg (n % 10):=by rw[dg,dif_neg oM]
   have X:∀a:Int,F6 prog .quo 3 (.int .i64 a) (.int .i64 10)=some (.int .i64 (IntKind.wrap .i64 (a.tdiv 10))):=fun a=>sH 3 a 10 oM;have hr:∀a:Int,F6 prog .rem 3 (.int .i64 a) (.int .i64 10)=some (.int .i64 (a.tmod 10)):=fun a=>GE 3 .i64 a 10 oM;have hs:=Z3 (P:=prog) 9 (dg (n / 10)) (dg (n % 10)) oM;have z:∀H,CL prog t6 89 [iV ((n / 10:Nat):Int)] H=some (.string (dg (n / 10)),none):=fun H=>S H oM;have D:∀H,CL prog t6 89 [iV ((n % 10:Nat):Int)] H=some (.string (dg (n % 10)),none):=fun H=>U H oM;exact J10 b X hr q1 q2 @wrap_small z D hs E trivial
  .have W:=dT b;have E:dg n=dg1 n:=by rw[dg,dif_pos oM]
   have w1:=GS n oM;have u:=DG (N7.push ⟨H.bs,H.next⟩ (bC [.int .u8 (48+(n:Int))] 1)) H.next (48+n) j9 1;have O:(48+(n:Int)).toNat=48+n:=oM;rw[O]at u;simp(maxSteps:=20000000) -dsimp (disch:=first|omega|(simp only[rH]<;>omega)|fail) only[↓ig,rQ,N3,sevalprocAttr,tyA,b,wrap_small,w1,u,E,dg1]
def T7(l:List ByteArray)(s:ByteArray):Bool:=l.any fun y=>cj y s
theorem ni{l:List ByteArray}{s:ByteArray}(h:T7 l s=true):s∈l:=by
 obtain⟨y,u,z⟩:=List.any_eq_true.1 h;have:=dT z;exact this▸u
def T8(l:List ByteArray):Nat:=di (fun n=>T7 l (dg n)) (l.length+1) 0
theorem me(l:List ByteArray):T7 l (dg (T8 l))=false/\T8 l<l.length+1:=by
 obtain⟨m,z,u⟩:=rO dg (fun i j=>rJ) l (fun n=>T7 l (dg n)) (fun i h=>ni h);have:=dy (fun n=>T7 l (dg n)) (l.length+1) 0 ⟨m,oM,oM,u⟩;exact⟨this.1,by have:=this.2;rw[T8];omega⟩
theorem cD(p:Nat->Bool):∀k n,n<=di p k n/\∀m,n<=m->m<di p k n->p m=true
 |0,n=>⟨lR,fun m z u=>by rw[di]at u;omega⟩
 |k+1,n=>by
  rw[di];split
  .rename_i J;obtain⟨z,u⟩:=cD p k (n+1);exact⟨oM,fun m O D=>by
    by_cases E:m=n
    .rw[E];exact J
    .exact u m oM D⟩
  .exact⟨lR,fun m z u=>oM⟩
theorem pE(H0:N7)(lo:Nat)(J:lo<=H0.next)(v:Value)(l:List ByteArray)(hv:SlI H0 lo 1 (w9 stE) v l)(hn:l.length<=100000):
  ∀U e H2,(∃n:Nat,U=T8 l+1-n/\n<=T8 l/\e.get 0=v/\e.get 3=iV n/\H2=H0)->
  w7 (LE prog t6 (.loop NT) e H2) (fun o e H2=>H2=H0/\o= .exit 0/\e.get 3=iV (T8 l)):=by
 refine i8 _ _ ?_;rintro U e H2 ⟨n,hk,hi,z,D,X⟩;subst X;obtain⟨hf,a1⟩:=me l;have E:=(cD (fun n=>T7 l (dg n)) (l.length+1) 0).2;have W:=iL n H2 oM;have u:=wY H2 lo v l (dg n) J hv oM;by_cases O:n=T8 l
 .have S:(l.any fun y=>cj y (dg n))=false:=by rw[O];exact hf
  rw[S]at u;refine J4 z D W u ?_;exact i9 ⟨rfl,rfl,by rw[<-O];exact D⟩
 .have S:(l.any fun y=>cj y (dg n))=true:=E n oM (by rw[T8]at O hi;omega);rw[S]at u;refine J5 z D W u @wrap_small ?_;exact i4 (U-1) oM ⟨n+1,oM,oM,z,rfl,rfl⟩
theorem jH(H:N7)(lo:Nat)(v:Value)(l:List ByteArray)(u:lo<=H.next)(W:SlI H lo 1 (w9 stE) v l)(S:l.length<=100000):CL prog t6 66 [v] H=some (.string (dg (T8 l)),none):=by
 obtain⟨X,O⟩:=me l;have J:∀H,CL prog t6 89 [iV (T8 l:Int)] H=some (.string (dg (T8 l)),none):=fun H=>iL (T8 l) H oM;rw[j7 Px rfl _ sM];refine J1 ty3 ?_;refine j8 (F:=fun z=>u5 _ _ _ (u9 (inBlock 0 z) _)=_) (pE ⟨H.bs,H.next⟩ lo u v l (W.mono (fun _ _=>rfl) lR iF) S (T8 l+1) _ _ ⟨0,rfl,oM,rfl,rfl,rfl⟩) ?_;rintro o e' H' ⟨E,U,D⟩;exact J4 U E D J trivial
def zS:ByteArray:=⟨#[122]⟩
def zN(n:Nat):ByteArray:=if n=0 then zS else zS++dg n
theorem Kl(n:Nat):1<=(dg n).size:=by
 rw[dg];split
 .exact Nat.le_refl 1
 .rename_i h;have u:(dg (n % 10)).size=1:=by rw[dg,dif_pos oM];rfl
  rw[ByteArray.size_append,u];omega
theorem ri{a b c:ByteArray}(h:a++b=a++c):b=c:=by
 have u:(a++b).data.toList=(a++c).data.toList:=by rw[h]
 rw[ct,ct]at u;have z:=List.append_cancel_left u;obtain⟨b⟩:=b;obtain⟨c⟩:=c;have D:b=c:=Array.toList_inj.1 z;rw[D]
theorem MK(i j:Nat)(h:zN i=zN j):i=j:=by
 unfold zN at h;have u:∀n,(zS++dg n).size≠zS.size:=fun n=>by have:=Kl n;rw[ByteArray.size_append];omega
 split at h<;>split at h
 .omega
 .exact absurd (congrArg ByteArray.size h).symm (u _)
 .exact absurd (congrArg ByteArray.size h) (u _)
 .exact rJ (ri h)
def P8(l:List (ByteArray×ByteArray))(x:ByteArray×ByteArray):Bool:=l.any fun y=>L3 y x
theorem E9{x y:ByteArray×ByteArray}:L3 x y=true↔x=y:=by
 simp only[L3,Bool.and_eq_true,decide_eq_true_eq];exact Prod.ext_iff.symm
theorem qr{l:List (ByteArray×ByteArray)}{x:ByteArray×ByteArray}(h:P8 l x=true):x∈l:=by
 obtain⟨y,u,z⟩:=List.any_eq_true.1 h;exact(E9.1 z)▸u
def zNm(n:Nat):ByteArray×ByteArray:=(eB,zN n)
def Q6(l:List (ByteArray×ByteArray)):Nat:=di (fun n=>P8 l (zNm n)) (l.length+1) 0
theorem sF(l:List (ByteArray×ByteArray)):P8 l (zNm (Q6 l))=false/\Q6 l<l.length+1:=by
 obtain⟨m,z,u⟩:=rO zNm (fun i j h=>MK i j (congrArg Prod.snd h)) l (fun n=>P8 l (zNm n)) (fun i h=>qr h);have:=dy (fun n=>P8 l (zNm n)) (l.length+1) 0 ⟨m,oM,oM,u⟩;exact⟨this.1,by have:=this.2;rw[Q6];omega⟩
theorem Fo(H0:N7)(lo:Nat)(va:Option Addr)(ca:Nat)(l:List (ByteArray×ByteArray))(x:ByteArray×ByteArray)(hv:SlI H0 lo 2 (w9 nmE) (.slice va l.length ca) l)(hn:l.length<=100000)(pb:Nat)(hb:H0.get pb=cE (nmE x) 1)(p2:Value)(n3:Value)(r:Bool):
  ∀J e H2,(∃(i:Nat)(f:Bool),J=l.length-i/\i<=l.length/\e.get 0= .slice va l.length ca/\e.get 2=p2/\e.get 3=n3/\e.get 4=pT pb/\e.get 5= .bool f/\e.get 6=iV i/\H2=H0/\(f||(l.drop i).any fun y=>L3 y x)=r)->
  w7 (LE prog t6 (.loop Jh) e H2) (fun o e H2=>H2=H0/\o= .exit 2/\e.get 0= .slice va l.length ca/\e.get 2=p2/\e.get 3=n3/\e.get 4=pT pb/\e.get 5= .bool r):=by
 refine i8 _ _ ?_;rintro J e H2 ⟨i,f,hk,hi,u,O,S,E,U,W,hH,z⟩;subst hH;have a1:ldC (some true) (some 2) 0 (nmE x)=some (.agg (nmE x).toArray):=rfl;rcases b:decide ((i:Int)<l.length)with _|_
 .have X:=dF b;have:l.drop i=[]:=dN oM;rw[this,List.any_nil,Bool.or_false]at z;refine J3 u W b ?_;exact i9 ⟨rfl,rfl,u,O,S,E,by rw[<-z];exact U⟩
 have X:=dT b;obtain⟨y,nb,o,cs,own,el,hx,hd,rfl,a3,hg,a2,D,hc,rfl⟩:=hv.row (i:=i) oM;have nt:(i:Int).toNat=i:=tN i;rw[hd,List.any_cons,<-Bool.or_assoc]at z;rcases f with _|_
 .refine J11 u E U W b hb hg nt D a1 @wrap_small ?_;exact i4 (J-1) oM ⟨i+1,L3 y x,oM,oM,u,O,S,E,rfl,rfl,rfl,by rw[<-z];rfl⟩
 .refine J5 u U W b @wrap_small ?_;exact i4 (J-1) oM ⟨i+1,true,oM,oM,u,O,S,E,rfl,rfl,rfl,by rw[<-z];rfl⟩
theorem xV(E:N7)(lo p2:Nat)(a4:lo<=p2)(a8:p2<E.next)(X:Option Addr)(ca:Nat)(l:List (ByteArray×ByteArray))(hv:SlI E lo 2 (w9 nmE) (.slice X l.length ca) l)(hn:l.length<=100000)(hb:E.get p2=cE [.string eB,.string eB] 1):
  ∀O e H2,(∃n:Nat,O=Q6 l+1-n/\n<=Q6 l/\e.get 0= .slice X l.length ca/\e.get 2=pT p2/\e.get 3=iV n/\i6 (p2+1) E H2)->
  w7 (LE prog t6 (.loop NP) e H2) (fun o e H2=>o= .ret/\e.get 2=pT p2/\H2.get p2=some (.cells (nmE (zNm (Q6 l))) true 1)/\i6 p2 E H2):=by
 refine i8 _ _ ?_;rintro O e H2 ⟨n,hk,hi,f0,f2,f3,S⟩;obtain⟨hf,a5⟩:=sF l;have a1:=(cD (fun n=>P8 l (zNm n)) (l.length+1) 0).2;have a6:=S.next;have hd:=fun H=>iL n H oM;have a3:=lU n;have hs:=Z3 (P:=prog) 9 ⟨#[122]⟩ (dg n) (by show 1+_<=_;omega);have key:∀(J:N7)(D:Env),i6 (p2+1) H2 J->J.get H2.next=some (.cells (nmE (zNm n)) true 1)->D.get 0= .slice X l.length ca->D.get 2=pT p2->D.get 3=iV n->D.get 4=pT H2.next->D.get 5= .bool false->D.get 6=iV 0->
   w7 (inBlock 1 (u9 (inBlock 2 (LE prog t6 Jh.loop D J)) (LE prog t6 (((t7.ops [⟨some 29,.move (.tmp 5),none⟩,⟨some 30,.unOp .not 4 (.tmp 29),none⟩]).seq NQ).seq NR)))) (cQ O (fun O e H2=>∃n:Nat,O=Q6 l+1-n/\n<=Q6 l/\e.get 0= .slice X l.length ca/\e.get 2=pT p2/\e.get 3=iV n/\i6 (p2+1) E H2) (fun o e H2=>o= .ret/\e.get 2=pT p2/\H2.get p2=some (.cells (nmE (zNm (Q6 l))) true 1)/\i6 p2 E H2)):=by
  intro J D u W g0 g2 g3 g4 g5 g6;have a7:=u.next;have U:J.get p2=_:=(u.get p2 oM).trans ((S.get p2 oM).trans hb);refine j8 (F:=fun z=>w7 (inBlock 1 (u9 (inBlock 2 z) _)) _) (Fo J lo X ca l (zNm n) (hv.mono (fun j hj=>by rw[u.get j oM,S.get j oM]) lR iF) hn H2.next W _ _ (P8 l (zNm n)) l.length _ _ ⟨0,false,rfl,oM,g0,g2,g3,g4,g5,g6,rfl,rfl⟩) ?_;rintro o e4 H4 ⟨rfl,ho,k0,k2,k3,k4,k5⟩;have a2:ldC (some true) (some 2) 0 (nmE (zNm n))=some (.agg (nmE (zNm n)).toArray):=rfl;by_cases hm:n=Q6 l
  .have hq:P8 l (zNm n)=false:=by rw[hm];exact hf
   rw[hq]at k5;refine J7 ho k2 k4 k5 W a2 U ?_;refine z9 ⟨rfl,k2,?_,(S.weaken oM).trans ((u.weaken oM).trans (i6.put lR))⟩;rw[j5 (u7 U),hm]
  .have hq:P8 l (zNm n)=true:=a1 n oM (by rw[Q6]at hm hi;omega);rw[hq]at k5;refine J4 ho k3 k5 @wrap_small ?_;exact i4 (O-1) oM ⟨n+1,oM,oM,k0,k2,rfl,S.trans u⟩
 by_cases h0:n=0
 .have b0:decide ((0:Int)<n)=false:=decide_eq_false oM;refine J2 f3 b0 ?_;refine key _ _ ((i6.push oM).trans (i6.put oM)) ?_ f0 f2 f3 rfl rfl rfl;rw[j5 (by rw[i5];omega),zNm,zN,if_pos h0];rfl
 .have b0:decide ((0:Int)<n)=true:=decide_eq_true oM;refine J4 f3 b0 hd hs ?_;refine key _ _ (((i6.push oM).trans (i6.put oM)).trans (i6.put oM)) ?_ f0 f2 f3 rfl rfl rfl;rw[j5 (by rw[t5,i5];omega),zNm,zN,if_neg h0];rfl
theorem Cj(H:N7)(lo:Nat)(v:Value)(l:List (ByteArray×ByteArray))(O:lo<=H.next)(X:SlI H lo 2 (w9 nmE) v l)(hn:l.length<=100000):CL prog t6 64 [v] H=some (.agg (nmE (zNm (Q6 l))).toArray,none):=by
 obtain⟨va,ca,rfl⟩:=X.slice;obtain⟨U,u,-,W,hS⟩:=pushF H (bC [.string eB,.string eB] 1);have D:H.next<=U.low:=by rw[u,l9];exact lR
 rw[j7 Eh rfl _ sM];refine J1 u.symm ?_;refine j8 (F:=fun z=>u5 _ _ _ (inBlock 0 z)=_) (xV U lo H.next O (u7 W) va ca l (X.mono (fun j hj=>hS.get j oM) lR iF) hn W (Q6 l+1) _ _ ⟨0,rfl,oM,rfl,rfl,rfl,i6.refl _ _⟩) ?_;rintro o e' H' ⟨ho,h2,J,E⟩;have hl:=E.low D;have S:ldC (some true) (some 2) 0 (nmE (zNm (Q6 l)))=some (.agg (nmE (zNm (Q6 l))).toArray):=rfl;exact J4 ho h2 J S trivial
end Go.Proofs.YtofbhlhamfkljaaGreatDoor.Ve
namespace Go.Proofs.YtofbhlhamfkljaaGreatDoor.Ve
open Go Go.RowKit
def l7(w:Value)(b:Nat):Prop:=∃n c,w= .slice (some ⟨b,0,none⟩) n c
theorem B8(b:Nat):¬l7 (.slice none 0 0) b:=fun⟨_,_,h⟩=>by cases h
theorem E6{b u n c:Nat}:l7 (.slice (some ⟨b,0,none⟩) n c) u↔u=b:=⟨fun⟨_,_,h⟩=>by cases h;rfl,fun h=>⟨n,c,by rw[h]⟩⟩
def SlF(H:N7)(F:Nat->Prop)(sz:Nat){α:Type}(R:LV->α->Prop)(v:Value)(l:List α):Prop:=
 (v= .slice none 0 0/\l=[])\/
 ∃b o c,v= .slice (some ⟨b,o,none⟩) l.length c/\
  (l=[]\/∃cs own,F b/\H.get b=some (.cells cs own sz)/\o+l.length*sz<=cs.length/\∀(i:Nat) a,l[i]?=some a->R ((cs.drop (o+i*sz)).take sz) a)
section
variable{α:Type}{R R':List Value->α->Prop}{H H':N7}{F F':Nat->Prop}{lo sz:Nat}{v w:Value}{l l2:List α}
theorem SlI.slF(h:SlI H lo sz R v l):SlF H (· <lo) sz R v l:=h
theorem SlF.mono(h:SlF H F sz R v l)(S:∀j,F j->H'.get j=H.get j) (J:∀j,F j->F' j) (O:∀cs a,R cs a->R' cs a):SlF H' F' sz R' v l:=by
 rcases h with h|⟨b,o,c,W,h⟩
 .exact .inl h
 .refine .inr ⟨b,o,c,W,?_⟩;rcases h with h|⟨cs,own,u,z,D,E⟩
  .exact .inl h
  .exact .inr ⟨cs,own,J _ u,by rw[S b u];exact z,D,fun i a U=>O _ _ (E i a U)⟩
theorem SlF.sl(h:SlF H F sz R v l)(u:∀j,F j->j<lo):SlI H lo sz R v l:=h.mono (fun _ _=>rfl) u iF
theorem SlF.slice(h:SlF H F sz R v l):∃a c,v= .slice a l.length c:=by
 rcases h with⟨h,u⟩|⟨b,o,c,z,h⟩
 .exact⟨none,0,by rw[h,u];rfl⟩
 .exact⟨_,_,z⟩
theorem u6.frz(h:u6 H lo sz R w l)(O:∀b,l7 w b->F b):SlF H F sz R w l:=by
 obtain⟨cs,D,E⟩:=h;rcases D with⟨h,z,_⟩|⟨b,c,u,J,U,W⟩
 .exact .inl ⟨h,List.length_eq_zero_iff.1 z⟩
 .refine .inr ⟨b,0,c,u,.inr ⟨cs,true,O b ⟨_,_,u⟩,J,oM,fun i a S=>?_⟩⟩;rw[Nat.zero_add];exact E.2 i a S
theorem u6.lt(h:u6 H lo sz R w l){b:Nat}(J:l7 w b):lo<=b/\b<H.next:=by
 obtain⟨cs,u,U⟩:=h;obtain⟨n,c,rfl⟩:=J;rcases u with⟨h,_⟩|⟨O,S,z,D,E,W⟩
 .cases h
 .cases z;exact⟨E,u7 D⟩
theorem u6.same(h:u6 H lo sz R w l)(S:∀b,l7 w b->H'.get b=H.get b):u6 H' lo sz R w l:=by
 obtain⟨cs,z,D⟩:=h;refine⟨cs,?_,D⟩;rcases z with h|⟨b,c,u,E,J,O⟩
 .exact .inl h
 .exact .inr ⟨b,c,u,by rw[S b ⟨_,_,u⟩];exact E,J,O⟩
theorem Gu{P:Program}{t e:TypeId}{bytes n m k:Nat}{z cs el:LV}{a:Option Addr}(ht:P.underlying t=some (.slice e))(hs:D8 P e=some sz)(E:V0 P e=some bytes)(hz:O9 P e=some z)(h0:0<sz)(h1:0<bytes)
  (h:cg H lo sz v n cs) (hx:A5 H sz (.slice a m k)=some el) (U:el.length=m*sz) (hr:(n+m)*bytes<=140737488355328) (D:lo<=H.next):
  Ret (C2 P H [t,t] v (.slice a m k)) H fun v' H'=>cg H' lo sz v' (n+m) (cs++el)/\i6 lo H H'/\(∀j,j<H.next->¬l7 v j->H'.get j=H.get j)/\((v'=v/\H'=H)\/∀b,l7 v' b->H.next<=b):=by
 have S:I5 P t=some e:=by simp [I5,ht]
 have u:aY P H sz (some t) (.slice a m k)=some (m,el):=by
  simp only[aY,Option.bind_some,ht,hx,Option.map_some]
 have O:¬(sz=0\/bytes=0):=oM;by_cases hm:m=0
 .subst hm;have he:el=[]:=List.length_eq_zero_iff.1 oM;subst he;rw[Nat.add_zero,List.append_nil];refine⟨v,none,H,?_,rfl,h,i6.refl _ _,fun _ _ _=>rfl,.inl ⟨rfl,rfl⟩⟩;rcases h with⟨rfl,rfl,rfl⟩|⟨b,c,rfl,hg,a1,J⟩
  .simp [C2,S,hs,E,hz,O,u,dL]
  .simp [C2,S,hs,E,hz,O,u,dL]
 .rcases h with⟨rfl,rfl,rfl⟩|⟨b,c,rfl,hg,a1,J⟩
  .refine⟨.slice (some ⟨H.next,0,none⟩) m (m+1),some (H.push (.cells el true sz)),_,?_,rfl,.inr ⟨H.next,_,by rw[Nat.zero_add],j9,D,by simpa using U⟩,i6.push D,fun j X _=>i7 X,.inr fun b E=>by rw[E6]at E;omega⟩;simp only[C2,List.head?_cons,Option.bind_some,S,hs,E,hz,List.getElem?_cons_succ,List.getElem?_cons_zero,if_neg O,u];rw[if_neg hm,if_pos (by simpa using hr),dL]
  .have a2:=u7 hg;have W:((cs.drop 0).take (n*sz))=cs:=by rw[List.drop_zero,List.take_of_length_le oM]
   by_cases hc:c=n
   .refine⟨.slice (some ⟨H.next,0,none⟩) (n+m) (n+m+1),some (H.push (.cells (cs++el) true sz)),_,?_,rfl,.inr ⟨H.next,_,rfl,j9,D,by rw[List.length_append,J,U,Nat.add_mul]⟩,i6.push D,fun j X _=>i7 X,.inr fun b E=>by rw[E6]at E;omega⟩;simp only[C2,List.head?_cons,Option.bind_some,S,hs,E,hz,List.getElem?_cons_succ,List.getElem?_cons_zero,if_neg O,u,hg,W];rw[if_neg hm,if_pos hr,if_pos (by simp;omega),if_pos hc,dL]
   .refine⟨.slice (some ⟨H.next,0,none⟩) (n+m) (n+m+1),some ((H.put b .dead).push (.cells (cs++el) true sz)),_,?_,rfl,.inr ⟨H.next,_,rfl,y7 ⟨by simp [t5],by simp [t5]⟩,D,by rw[List.length_append,J,U,Nat.add_mul]⟩,(i6.put a1).trans (i6.push (by rw[t5];exact D)),fun j X hn=>?_,.inr fun b E=>by rw[E6]at E;omega⟩
    .simp only[C2,List.head?_cons,Option.bind_some,S,hs,E,hz,List.getElem?_cons_succ,List.getElem?_cons_zero,if_neg O,u,hg,W];rw[if_neg hm,if_pos hr,if_pos (by simp;omega),if_neg hc,if_pos trivial,dL]
    .show((H.put b .dead).push (.cells (cs++el) true sz)).get j=H.get j;rw[i7 (by rw[t5];exact X),j6 (fun q=>hn (by rw[<-q];exact⟨_,_,rfl⟩))]
structure ak(lo:Nat)(w:Value)(H:N7)(v':Value)(H':N7):Prop where
 stay:i6 lo H H'
 but:∀j,j<H.next->¬l7 w j->H'.get j=H.get j
 new:∀b,l7 v' b->l7 w b\/H.next<=b
theorem ak.next{w v':Value}(h:ak lo w H v' H'):H.next<=H'.next:=h.stay.next
theorem u6.appendF{P:Program}{t e:TypeId}{bytes:Nat}{z:LV}{x:Value}{n:Nat}(ht:P.underlying t=some (.slice e))(hs:D8 P e=some sz)(u:V0 P e=some bytes)(hz:O9 P e=some z)(U:0<sz)(W:0<bytes)
  (h:u6 H lo sz R w l) (hx:SlI H n sz R x l2) (X:(l.length+l2.length)*bytes<=140737488355328) (D:lo<=H.next):
  Ret (C2 P H [t,t] w x) H fun v' H'=>u6 H' lo sz R v' (l++l2)/\ak lo w H v' H':=by
 obtain⟨cs,k1,k2⟩:=h;obtain⟨a,c,el,rfl,q1,J⟩:=hx.rows;obtain⟨v',S,O,r1,r2,r3,r4,r5,E⟩:=Gu (m:=l2.length) ht hs u hz U W k1 q1 J.1 X D;refine⟨v',S,O,r1,r2,⟨cs++el,by rw[List.length_append];exact r3,k2.append J⟩,r4,r5,fun b u=>?_⟩;rcases E with⟨rfl,_⟩|E
 .exact .inl u
 .exact .inr (E b u)
theorem u6.push1F{P:Program}{t e:TypeId}{bytes:Nat}{z cs:LV}{a:α}(ht:P.underlying t=some (.slice e))(hs:D8 P e=some sz)(D:V0 P e=some bytes)(hz:O9 P e=some z)(U:0<sz)(W:0<bytes)
  (h:u6 H lo sz R w l) (E:cs.length=sz) (hR:R cs a) (hr:(l.length+1)*bytes<=140737488355328) (J:lo<=H.next):
  Ret (C2 P (H.push (.cells cs true sz)) [t,t] w (.slice (some ⟨H.next,0,none⟩) 1 1)) (H.push (.cells cs true sz)) fun v' H'=>u6 H' lo sz R v' (l++[a])/\ak lo w H v' H':=by
 have X:=u6.fresh (H:=H) (lo:=H.next) (l:=[a]) (n:=1) (c:=1) rfl lR (D2.one E hR);have hn:(H.push (.cells cs true sz)).next=H.next+1:=i5;have u:i6 H.next H (H.push (.cells cs true sz)):=i6.push lR;obtain⟨v',S,H',r1,r2,r3,r4,r5,r6⟩:=(h.keep u).appendF ht hs D hz U W X.sl (by simpa using hr) oM;refine⟨v',S,H',r1,r2,r3,(u.weaken J).trans r4,fun j hj O=>?_,fun b D=>?_⟩
 .rw[r5 j oM O,u.get j hj]
 .rcases r6 b D with r|r
  .exact .inl r
  .exact .inr oM
end
end Go.Proofs.YtofbhlhamfkljaaGreatDoor.Ve
namespace Go.Proofs.YtofbhlhamfkljaaGreatDoor.Ve
open Go Go.RowKit
open Go.Proofs.Tryz (prog)
structure SpD where
 names:List (ByteArray×ByteArray)
 attrs:List (ByteArray×ByteArray)
 vals:List (List ByteArray)
 texts:List ByteArray
def spQ(q:Q):SpD:=⟨V5 4 4 (fsQ false q),V5 5 6 (fsQ false q),(V5 5 6 (fsQ false q)).map fun n=>R9 6 n (fsQ false q),R9 7 (eB,eB) (fsQ false q)⟩
def VlF(H:N7)(F:Nat->Prop)(cs:LV)(l:List ByteArray):Prop:=∃v,cs=[v]/\SlF H F 1 (w9 stE) v l
theorem VlF.mono{H H':N7}{F F':Nat->Prop}{cs:LV}{l:List ByteArray}(h:VlF H F cs l)(E:∀j,F j->H'.get j=H.get j) (D:∀j,F j->F' j):VlF H' F' cs l:=by
 obtain⟨v,u,z⟩:=h;exact⟨v,u,z.mono E D iF⟩
def SpR(H:N7)(lo:Nat)(cs:LV)(d:SpD):Prop:=∃v1 v2 v3 v4,cs=[v1,v2,v3,v4]/\SlI H lo 2 (w9 nmE) v1 d.names/\SlI H lo 2 (w9 nmE) v2 d.attrs/\SlI H lo 1 (VlF H (· <lo)) v3 d.vals/\SlI H lo 1 (w9 stE) v4 d.texts
theorem SpR.mono{H H':N7}{lo D:Nat}{cs:LV}{d:SpD}(h:SpR H lo cs d)(z:∀j,j<lo->H'.get j=H.get j) (u:lo<=D):SpR H' D cs d:=by
 obtain⟨W,X,v3,v4,E,J,O,S,U⟩:=h;exact⟨W,X,v3,v4,E,J.mono z u iF,O.mono z u iF,S.mono z u (fun _ _ h=>h.mono z (fun j hj=>oM)),U.mono z u iF⟩
theorem yC(k:Nat)(H1:N7)(z:Nat)(d9:z<H1.next)(vf va v1 v4 p2:Value)(l:List Q)(u:List (ByteArray×ByteArray))(hl:l.length<=1000000)(ha:u.length<=1000000)(c9:QsR H1 z k true vf l)(b0:SlI H1 z 2 (w9 nmE) va u):
  ∀kk e H2,(∃(i:Nat)(w:Value)(F:Nat->Prop),kk=u.length-i/\i<=u.length/\e.get 2=p2/\e.get 3=vf/\e.get 4=pT z/\e.get 5=iV i/\H2.get z=cE [v1,va,w,v4] 1/\u6 H2 (z+1) 1 (VlF H2 F) w ((u.take i).map fun n=>R9 6 n l)/\(∀b,l7 w b->¬F b)/\(∀j,F j->z<j/\j<H2.next)/\i6 z H1 H2)->
  w7 (LE prog t6 (.loop NO) e H2) (fun o e H2=>o= .exit 0/\e.get 2=p2/\e.get 4=pT z/\∃(w:Value)(F:Nat->Prop),H2.get z=cE [v1,va,w,v4] 1/\u6 H2 (z+1) 1 (VlF H2 F) w (u.map fun n=>R9 6 n l)/\(∀j,F j->z<j/\j<H2.next)/\i6 z H1 H2):=by
 obtain⟨aa,ac,d1⟩:=b0.slice;subst d1;refine i8 _ _ ?_;rintro kk e H2 ⟨i,w,F,hk,hi,f2,f3,f4,f5,S,hO,c6,hF,hS⟩;have d4:=hS.next;have d2:([v1,.slice aa u.length ac,w,v4]:LV)[1]?=some (.slice aa u.length ac):=rfl;rcases b:decide ((i:Int)<u.length)with _|_
 .have b9:=dF b;have:u.take i=u:=List.take_of_length_le oM;rw[this]at hO;refine J4 f4 f5 S b ?_;exact i9 ⟨rfl,f2,f4,w,F,S,hO,hF,hS⟩
 have b9:=dT b;obtain⟨x,nb,o,cs,own,el,hx,hd,b1,c5,hg,d3,a9,hc,rfl⟩:=b0.row (i:=i) oM;subst b1;have nt:(i:Int).toNat=i:=tN i;have c3:=(hS.get nb c5).trans hg;have b2:QsR H2 z k true vf l:=c9.mono (fun j D=>hS.get j D) lR;obtain⟨v,h,H3,c0,c4,O,E⟩:=oG H2 z k vf l 6 x oM b2 hl;have d5:=E.next;have d8:z<H3.next:=oM;have X:H3.get z=cE [v1,.slice (some ⟨nb,o,none⟩) u.length ac,w,v4] 1:=(E.get z oM).trans S;obtain⟨F',J⟩:=eY (fun j=>F j\/l7 v j:Nat->Prop);have a4:∀j,F' j->z<j/\j<H3.next:=fun j D=>by
  rw[J]at D;rcases D with D|D
  .have:=hF j D;omega
  .have:=O.lt D;omega
 have b7:u6 H3 (z+1) 1 (VlF H3 F') w ((u.take i).map fun n=>R9 6 n l):=(hO.keep E).imp fun cs a h=>h.mono (fun j D=>E.get j (hF j D).2) (fun j D=>by rw[J];exact .inl D);have b3:∀b,l7 w b->¬F' b:=fun b W U=>by
  rw[J]at U;rcases U with U|U
  .exact c6 b W U
  .have h1:=hO.lt W;have h2:=O.lt U;omega
 have d0:VlF H3 F' [v] (R9 6 x l):=⟨v,rfl,O.frz fun b W=>by rw[J];exact .inr W⟩
 have a7:((u.take i).map fun n=>R9 6 n l).length=i:=by simp;omega
 obtain⟨v',h',H4,b8,a6,a5,hG⟩:=b7.push1F (P:=prog) (t:=96) (cs:=[v]) (a:=R9 6 x l) (by exact MF.2.2.2.2.2.2) bU.1 bU.2.1 bU.2.2.1 oM oM rfl d0 (by rw[a7];omega) oM;have d6:=hG.next;have a1:H4.get z=cE [v1,.slice (some ⟨nb,o,none⟩) u.length ac,w,v4] 1:=(hG.stay.get z oM).trans X;have a8:=u7 a1;obtain⟨wa,wc,e1⟩:=hO.slice;obtain⟨e2,e3,a2⟩:=a5.slice;obtain⟨vv,e4,a3⟩:=O.slice;have b4:Value.oneCell' v'=true:=by rw[a2];rfl
 have b5:Value.oneCell' v=true:=by rw[a3];rfl
 have cv:v.cells.toList=[v]:=by rw[a3];rfl
 have b6:v'.cells.toList=[v']:=by rw[a2];rfl
 refine J19 f3 f4 f5 S b c3 nt a9 c0 c4 X b5 cv b8 a6 a1 b4 b6 @wrap_small ?_;have c8:(u.take (i+1)).map (fun n=>R9 6 n l)=((u.take i).map fun n=>R9 6 n l)++[R9 6 x l]:=by
  rw[List.take_add_one,hx];simp
 have c7:∀(B:Blk),i6 z H1 (H4.put z B):=fun B=>(hS.trans ((E.weaken oM).trans (hG.stay.weaken oM))).trans (i6.put lR);refine i4 (kk-1) oM ⟨i+1,v',F',oM,oM,f2,f3,f4,rfl,j5 a8,?_,fun b W U=>?_,fun j D=>?_,c7 _⟩
 .rw[c8];refine(a5.same fun b W=>j6 ?_).imp fun cs a h=>h.mono (fun j D=>?_) (fun _ h=>h)
  .have:=a5.lt W;omega
  .have:=a4 j D;rw[j6 oM,hG.but j oM (fun q=>b3 j q D)]
 .rcases hG.new b W with r|r
  .exact b3 b r U
  .have:=a4 b U;omega
 .have:=a4 j D;rw[t5];omega
theorem bG{α:Type}{R:LV->α->Prop}{H:N7}{lo sz:Nat}{w:Value}{l:List α}(h:u6 H lo sz R w l)(z:na0 w=true):w=nS/\l=[]:=by
 obtain⟨cs,u,J⟩:=h;rcases u with⟨u,D,_⟩|⟨b,c,E,_⟩
 .exact⟨u,List.length_eq_zero_iff.1 D⟩
 .rw[E]at z;cases z
theorem jL{α:Type}(R:LV->α->Prop)(H:N7)(lo sz:Nat):SlI H lo sz R (nS) ([]:List α):= .inl ⟨rfl,rfl⟩
theorem Cl(H:N7)(lo k:Nat)(cs:LV)(q:Q)(h6:lo<=H.next)(hr:QR H lo k false cs q)(g7:OkD false q)(hl:(fsQ false q).length<=100000):
  Ret (CL prog t6 63 [.agg cs.toArray] H) H fun w H1=>∃cs',w= .agg cs'.toArray/\SpR H1 H1.next cs' (spQ q)/\i6 H.next H H1:=by
 cases k with
 |zero=>exact hr.elim
 |succ k=>
 have d3:=hr;obtain⟨va,ca,wa,e5,rfl,h1,h2,h3,h4⟩:=hr.path;obtain⟨X,W⟩:=eY ([iV q.op,.slice va q.a.length ca,.slice wa q.b.length e5]:LV);obtain⟨H1,a5⟩:=eY ((N7.push ⟨H.bs,H.next⟩ (bC X 1)).push (bC [nS,nS,nS,nS] 1));have g6:(N7.push ⟨H.bs,H.next⟩ (bC X 1)).next=H.next+1:=by rw[i5];rfl
 have hS:i6 H.next H H1:=by rw[a5];exact(i6.first H _).trans (i6.push oM)
 have f5:H1.get H.next=cE X 1:=by rw[a5,i7 oM];exact j9
 have f6:H1.get (H.next+1)=cE [nS,nS,nS,nS] 1:=by rw[a5];exact y7 oM
 have d2:H.next<=H1.low:=by rw[a5,l9,l9];exact lR
 have h7:H1.next=H.next+2:=by rw[a5,i5,g6]
 have g3:ldC (some true) (some 3) 0 X=some (.agg X.toArray):=by rw[W];rfl
 rw[<-W]at d3 ⊢;have c5:X.all oC=true:=by rw[W];rfl
 obtain⟨vf,hf,Hf,f4,g0,f0,b2⟩:=(Lg (k+1)).1 H1 lo X q oM (d3.mono (fun j U=>hS.get j oM) lR) oM g7;have j0:=b2.next;have b4:QsR Hf Hf.next (k+1) true vf (fsQ false q):=f0.sl.mono (fun _ _=>rfl) lR fun cs x h=>h.mono (fun j U=>(b2.get j oM)) oM;obtain⟨v1,g9,Ha,f1,c8,a9,D⟩:=qI Hf Hf.next (k+1) vf (fsQ false q) 4 4 lR b4 oM;have i0:=D.next;obtain⟨v2,h0,Hb,f2,c9,a6,E⟩:=qI Ha Hf.next (k+1) vf (fsQ false q) 5 6 oM (b4.mono (fun j U=>D.get j U) lR) oM;have i1:=E.next;obtain⟨v4,h5,Hc,f3,d0,b0,J⟩:=oG Hb Hf.next (k+1) vf (fsQ false q) 7 (eB,eB) oM (b4.mono (fun j U=>by rw[E.get j oM,D.get j U]) lR) oM;have i2:=J.next;obtain⟨a1,c1,e1⟩:=a9.slice;obtain⟨a2,c2,e2⟩:=a6.slice;obtain⟨a4,c4,e4⟩:=b0.slice;have e6:v1.cells.toList=[v1]:=by rw[e1];rfl
 have e7:v2.cells.toList=[v2]:=by rw[e2];rfl
 have e8:v4.cells.toList=[v4]:=by rw[e4];rfl
 have d6:Value.oneCell' v1=true:=by rw[e1];rfl
 have d8:Value.oneCell' v2=true:=by rw[e2];rfl
 have d9:Value.oneCell' v4=true:=by rw[e4];rfl
 obtain⟨Hd,e9,i3,f9,S⟩:=pushP Hc (bC [nS,nS,nS,nS] 1) (bC [v1,v2,nS,v4] 1);rw[j7 Pv rfl _ sM];refine J19 c5 a5.symm f5 g3 f4 g0 f1 c8 f2 c9 f3 d0 e6 e7 e8 d6 d8 d9 e9.symm ?_;have b8:u6 Hd Hf.next 2 (w9 nmE) v1 (V5 4 4 (fsQ false q)):=((a9.keep E).keep J).keep S;have b6:u6 Hd Ha.next 2 (w9 nmE) v2 (V5 5 6 (fsQ false q)):=(a6.keep J).keep S;have b9:u6 Hd Hb.next 1 (w9 stE) v4 (R9 7 (eB,eB) (fsQ false q)):=b0.keep S;have j1:∀{sz:Nat}{α:Type}{R:LV->α->Prop}{lo:Nat}{w:Value}{l:List α}(H:N7),u6 H lo sz R w l->H.next<=Hc.next->SlI H Hc.next sz R w l:=fun H h g5=>h.sl.mono (fun _ _=>rfl) g5 iF;have d5:QsR Hd Hc.next (k+1) true vf (fsQ false q):=b4.mono (fun j U=>by rw[S.get j oM,J.get j oM,E.get j oM,D.get j U]) oM;have c6:(V5 5 6 (fsQ false q)).length<=1000000:=by have:=dW (aQ 5 6) qNm L3 (fsQ false q) [];rw[V5];simp at this;omega
 have d4:SlI Hd Hc.next 2 (w9 nmE) v2 (V5 5 6 (fsQ false q)):=b6.frz fun b u=>oN (a6.lt u);refine j8 (F:=fun z=>Ret (u5 _ _ _ (u9 (inBlock 0 z) _)) _ _) (yC (k+1) Hd Hc.next oM vf v2 v1 v4 _ (fsQ false q) (V5 5 6 (fsQ false q)) oM c6 d5 d4 (V5 5 6 (fsQ false q)).length _ _ ⟨0,nS,fun _=>False,rfl,oM,rfl,rfl,rfl,rfl,f9,u6.nil,fun b u=>(B8 b u).elim,fun j U=>U.elim,i6.refl _ _⟩) ?_;rintro o e' H5 ⟨ho,g2,g4,w,F,f7,b1,hF,O⟩;have h8:=O.next;have c7:H5.get (H.next+1)=cE [nS,nS,nS,nS] 1:=by
  rw[O.get _ oM,S.get _ oM,J.get _ oM,E.get _ oM,D.get _ oM,b2.get _ oM];exact f6
 obtain⟨a3,c3,e3⟩:=b1.slice;have g8:Value.oneCell' w=true:=by rw[e3];rfl
 have d1:ldC (some true) (some 4) 0 [v1,v2,w,v4]=some (.agg [v1,v2,w,v4].toArray):=rfl;obtain⟨H6,a8⟩:=eY (H5.put (H.next+1) (bC [v1,v2,w,v4] 1));have f8:H6.get (H.next+1)=cE [v1,v2,w,v4] 1:=by rw[a8];exact j5 oM
 have h9:H6.next=H5.next:=by rw[a8,t5]
 have c0:i6 (H.next+1) H5 H6:=by rw[a8];exact i6.put lR
 have b7:i6 H.next H H6:=(((((((hS.trans (b2.weaken oM)).trans (D.weaken oM)).trans (E.weaken oM)).trans (J.weaken oM)).trans (S.weaken oM)).trans (O.weaken oM)).trans (c0.weaken oM))
 have g1:H.next<=H6.low:=((((((b2.weaken (show H.next<=H1.next from oM)).trans (D.weaken oM)).trans (E.weaken oM)).trans (J.weaken oM)).trans (S.weaken oM)).trans (O.weaken oM)).trans (c0.weaken oM) |>.low d2
 have a7:∀b,H.next+1<b->H6.get b=H5.get b:=fun b u=>by rw[a8];exact j6 oM
 refine J12 ho g2 g4 f7 d1 c7 d6 d8 g8 d9 a8.symm f8 ?_;refine dI (fun hc=>?_) ?_
 .simp only[List.all_cons,List.all_nil,Bool.and_true,Bool.and_eq_true]at hc;obtain⟨z1,z2⟩:=bG a9 hc.1;obtain⟨z3,z4⟩:=bG a6 hc.2.1;obtain⟨z5,z6⟩:=bG b1 hc.2.2.1;obtain⟨z7,z8⟩:=bG b0 hc.2.2.2;refine⟨[v1,v2,w,v4],rfl,⟨v1,v2,w,v4,rfl,?_,?_,?_,?_⟩,i6.refl _ _⟩
  .rw[z1,spQ,z2];exact jL ..
  .rw[z3,spQ,z4];exact jL ..
  .rw[z5,spQ,z6];exact jL ..
  .rw[z7,spQ,z8];exact jL ..
 .have b5:∀{sz:Nat}{α:Type}{R:LV->α->Prop}{v:Value}{l:List α}(n:Nat),SlI H6 n sz R v l->SlI ⟨H6.bs,min H.low H6.low⟩ n sz R v l:=fun n h=>SlI.mono h (fun _ _=>rfl) lR iF;have b3:N7.next ⟨H6.bs,min H.low H6.low⟩=H6.next:=rfl;refine⟨[v1,v2,w,v4],rfl,⟨v1,v2,w,v4,rfl,b5 _ ?_,b5 _ ?_,b5 _ ?_,b5 _ ?_⟩,b7.ret g1⟩
  .exact(b8.same fun b u=>by have:=a9.lt u;rw[a7 b oM,O.get b oM]).frz fun b u=>by have:=a9.lt u;rw[b3];omega
  .exact(b6.same fun b u=>by have:=a6.lt u;rw[a7 b oM,O.get b oM]).frz fun b u=>by have:=a6.lt u;rw[b3];omega
  .refine SlF.mono ((b1.same (H':=H6) fun b u=>by have:=b1.lt u;rw[a7 b oM]).frz (F:=fun j=>j<H6.next) fun b u=>by have:=b1.lt u;omega) (fun _ _=>rfl) (fun j U=>U) fun cs a h=>h.mono (fun j U=>?_) fun j U=>?_
   .have:=hF j U;exact a7 j oM
   .have:=hF j U;rw[b3];omega
  .exact(b9.same fun b u=>by have:=b0.lt u;rw[a7 b oM,O.get b oM]).frz fun b u=>by have:=b0.lt u;rw[b3];omega
structure PrD where
 st:Int
 sa:Int
 en:Int
 ed:List (Int×Int×Int×Int)
 ts:List Q
def PrD.edge(p:PrD)(f t k x:Int):PrD:={p with ed:=p.ed++[(f,t,k,x)]}
mutual
def C6:Q->PrD->PrD×Int×Int
 | .mk o _ _ _ a b,p=>
  if o=4 then eu a p
  else if o=5 then(((I9 a p.st {p with st:=p.st+1} []).2.foldl (fun m x=>m.edge x (I9 a p.st {p with st:=p.st+1} []).1.st 0 0) {(I9 a p.st {p with st:=p.st+1} []).1 with st:=(I9 a p.st {p with st:=p.st+1} []).1.st+1}),p.st,(I9 a p.st {p with st:=p.st+1} []).1.st)
  else if o=6 then(((dY a {p with st:=p.st+1}).1.edge p.st (dY a {p with st:=p.st+1}).2.1 0 0).edge (dY a {p with st:=p.st+1}).2.2 p.st 0 0,p.st,p.st)
  else(({p with st:=p.st+2,ts:=if o=7 then p.ts++b else p.ts}:PrD).edge p.st (p.st+1) (if o=2 then 1 else if o=3 then 2 else if o=7 then 3 else 0) (if o=7 then(p.ts.length:Int) else 0),p.st,p.st+1)
def eu:List Q->PrD->PrD×Int×Int
 |[],p=>(p,0,0)
 |x::l,p=>bO l (C6 x p)
def bO:List Q->PrD×Int×Int->PrD×Int×Int
 |[],x=>x
 |q::l,x=>bO l ((C6 q x.1).1.edge x.2.2 (C6 q x.1).2.1 0 0,x.2.1,(C6 q x.1).2.2)
def I9:List Q->Int->PrD->List Int->PrD×List Int
 |[],_,p,es=>(p,es)
 |x::l,n,p,es=>I9 l n ((C6 x p).1.edge n (C6 x p).2.1 0 0) (es++[(C6 x p).2.2])
def dY:List Q->PrD->PrD×Int×Int
 |[],p=>(p,0,0)
 |x::_,p=>C6 x p
end
mutual
def nQ:Q->Nat
 | .mk _ _ _ _ a b=>1+nL a+nL b
def nL:List Q->Nat
 |[]=>0
 |x::l=>nQ x+nL l
end
theorem fq(q:Q):nQ q=1+nL q.a+nL q.b:=by cases q;rw[nQ];rfl
theorem sw:∀l:List Q,l.length<=nL l
 |[]=>Nat.zero_le _
 |x::l=>by
  have:=sw l;have h:=fq x;rw[nL,List.length_cons];omega
def au(n c:Nat)(p r:PrD):Prop:=p.st<=r.st/\r.st<=p.st+2*n/\r.ed.length+c<=p.ed.length+4*n/\r.ts.length<=p.ts.length+n
theorem P5(p:PrD)(f t k x:Int):(p.edge f t k x).ed.length=p.ed.length+1:=by simp [PrD.edge]
theorem X9(p:PrD)(f t k x:Int):(p.edge f t k x).st=p.st:=rfl
theorem dx(p:PrD)(f t k x:Int):(p.edge f t k x).ts=p.ts:=rfl
theorem kf(e:Int):∀(l:List Int)(p:PrD),(l.foldl (fun m x=>m.edge x e 0 0) p).st=p.st/\(l.foldl (fun m x=>m.edge x e 0 0) p).ts=p.ts/\(l.foldl (fun m x=>m.edge x e 0 0) p).ed.length=p.ed.length+l.length
 |[],p=>⟨rfl,rfl,rfl⟩
 |x::l,p=>by
  obtain⟨u,z,D⟩:=kf e l (p.edge x e 0 0);rw[List.foldl_cons];refine⟨u,z,?_⟩;rw[D,P5,List.length_cons];omega
mutual
theorem F8:∀(q:Q)(p:PrD),au (nQ q) 2 p (C6 q p).1
 | .mk o s c v a b,p=>by
  rw[C6,nQ];have hb:=sw b;split
  .have:=yz a p;unfold au at*;omega
  .split
   .obtain⟨h1,h2⟩:=cZ a p.st {p with st:=p.st+1} [];obtain⟨k1,k2,k3⟩:=kf (I9 a p.st {p with st:=p.st+1} []).1.st (I9 a p.st {p with st:=p.st+1} []).2 {(I9 a p.st {p with st:=p.st+1} []).1 with st:=(I9 a p.st {p with st:=p.st+1} []).1.st+1};unfold au at*;simp only[List.length_nil]at h2;rw[k1,k2,k3];simp only at h1 ⊢;omega
   .split
    .have h:=xT a {p with st:=p.st+1};unfold au at*;simp only[P5,X9,dx];simp only at h;omega
    .unfold au;simp only[P5,X9,dx];split
     .rw[List.length_append];omega
     .omega
theorem yz:∀(l:List Q)(p:PrD),au (nL l) 0 p (eu l p).1
 |[],p=>by rw[eu];unfold au;simp [nL]
 |x::l,p=>by
  rw[eu,nL];have h1:=F8 x p;have h2:=oO l (C6 x p);unfold au at*;omega
theorem oO:∀(l:List Q)(x:PrD×Int×Int),au (nL l) l.length x.1 (bO l x).1
 |[],x=>by rw[bO];unfold au;simp [nL]
 |q::l,x=>by
  rw[bO,nL];have h1:=F8 q x.1;have h2:=oO l ((C6 q x.1).1.edge x.2.2 (C6 q x.1).2.1 0 0,x.2.1,(C6 q x.1).2.2);unfold au at*;simp only[P5,X9,dx]at h2;rw[List.length_cons];omega
theorem cZ:∀(l:List Q)(n:Int)(p:PrD)(es:List Int),au (nL l) l.length p (I9 l n p es).1/\(I9 l n p es).2.length=es.length+l.length
 |[],n,p,es=>by rw[I9];unfold au;simp [nL]
 |x::l,n,p,es=>by
  rw[I9,nL];have h1:=F8 x p;obtain⟨h2,h3⟩:=cZ l n ((C6 x p).1.edge n (C6 x p).2.1 0 0) (es++[(C6 x p).2.2]);unfold au at*;simp only[P5,X9,dx]at h2;rw[List.length_append]at h3;simp only[List.length_cons,List.length_nil]at h3 ⊢;omega
theorem xT:∀(l:List Q)(p:PrD),au (nL l) 0 p (dY l p).1
 |[],p=>by rw[dY];unfold au;simp [nL]
 |x::l,p=>by
  rw[dY,nL];have h1:=F8 x p;unfold au at*;omega
end
def PrF(H:N7)(F:Nat->Prop)(Rt:LV->Q->Prop)(cs:LV)(p:PrD):Prop:=∃ve vt,cs=[iV p.st,iV p.sa,iV p.en,ve,vt]/\SlF H F 4 (w9 edE) ve p.ed/\SlF H F 6 Rt vt p.ts
theorem PrF.mono{H H':N7}{F F':Nat->Prop}{z u:LV->Q->Prop}{cs:LV}{p:PrD}(h:PrF H F z cs p)(D:∀j,F j->H'.get j=H.get j) (E:∀j,F j->F' j) (U:∀cs a,z cs a->u cs a):PrF H' F' u cs p:=by
 obtain⟨W,X,J,O,S⟩:=h;exact⟨W,X,J,O.mono D E iF,S.mono D E U⟩
abbrev R6(F:Nat->Prop)(H H1:N7):Nat->Prop:=fun j=>F j\/(H.next<=j/\j<H1.next)
theorem eh(H:N7)(F:Nat->Prop)(Rt:LV->Q->Prop)(b4:LV)(p:PrD)(f t k x:Int)(hF:∀j,F j->j<H.next) (hp:PrF H F Rt b4 p) (he:p.ed.length<=1000000):
  Ret (CL prog t6 114 [.agg b4.toArray,iV f,iV t,iV k,iV x] H) H fun w O=>∃cs',w= .agg cs'.toArray/\PrF O (R6 F H O) Rt cs' (p.edge f t k x)/\i6 H.next H O:=by
 obtain⟨ve,vt,rfl,h1,h2⟩:=hp;obtain⟨ea,ec,rfl⟩:=h1.slice;obtain⟨ta,tc,rfl⟩:=h2.slice;obtain⟨E,D⟩:=eY ([iV p.st,iV p.sa,iV p.en,.slice ea p.ed.length ec,.slice ta p.ts.length tc]:LV);obtain⟨Z,hZ⟩:=eY ([iV 0,iV 0,iV 0,nS,nS]:LV);obtain⟨O,U⟩:=eY ((N7.push ⟨H.bs,H.next⟩ (bC E 1)).push (bC Z 1));have d2:(N7.push ⟨H.bs,H.next⟩ (bC E 1)).next=H.next+1:=by rw[i5];rfl
 have hS:i6 H.next H O:=by rw[U];exact(i6.first H _).trans (i6.push oM)
 have a3:O.get H.next=cE E 1:=by rw[U,i7 oM];exact j9
 have c8:O.get (H.next+1)=cE Z 1:=by rw[U];exact y7 oM
 have b2:H.next<=O.low:=by rw[U,l9,l9];exact lR
 have d5:O.next=H.next+2:=by rw[U,i5,d2]
 obtain⟨H2,a5,d6,-,J⟩:=pushE O (bC [] 4);have b7:u6 H2 O.next 4 (w9 edE) (sL O.next 0 0) ([]:List (Int×Int×Int×Int)):=by rw[a5];exact u6.fresh rfl lR D2.nil
 have b6:SlI H2 H.next 4 (w9 edE) (.slice ea p.ed.length ec) p.ed:=SlF.sl (h1.mono (fun j hj=>by have:=hF j hj;rw[J.get j oM,hS.get j oM]) (fun _ h=>h) iF) hF;obtain⟨v3,h3,H3,c0,b0,b8,S⟩:=b7.appendF (P:=prog) (t:=30) (by exact IZ.2.2.2.2.2.2) pM.1 pM.2.1 pM.2.2.1 oM oM b6 (by simp;omega) oM;have d8:=S.next;obtain⟨v4,h4,H4,c5,b1,a1,X⟩:=b8.push1F (P:=prog) (t:=30) (cs:=edE (f,t,k,x)) (a:=(f,t,k,x)) (by exact IZ.2.2.2.2.2.2) pM.1 pM.2.1 pM.2.2.1 oM oM rfl rfl (by simp;omega) oM;have d9:=X.next;have c6:H4.get H.next=cE E 1:=by rw[X.stay.get _ oM,S.stay.get _ oM,J.get _ oM];exact a3
 have d4:H3.get H.next=cE E 1:=by rw[S.stay.get _ oM,J.get _ oM];exact a3
 have a9:H2.get H.next=cE E 1:=by rw[J.get _ oM];exact a3
 have c7:H4.get (H.next+1)=cE Z 1:=by rw[X.stay.get _ oM,S.stay.get _ oM,J.get _ oM];exact c8
 obtain⟨a4,c4,e4⟩:=a1.slice;have b3:Value.oneCell' v4=true:=by rw[e4];rfl
 have b5:v4.cells.toList=[v4]:=by rw[e4];rfl
 obtain⟨u,z⟩:=eY ([iV p.st,iV p.sa,iV p.en,v4,.slice ta p.ts.length tc]:LV);obtain⟨H5,W⟩:=eY ((H4.put H.next (bC u 1)).put (H.next+1) (bC u 1));have d3:splice E 3 [v4]=u:=by rw[D,z];rfl
 have c3:E[3]?=some (.slice ea p.ed.length ec):=by rw[D];rfl
 have l5:E.length=5:=by rw[D];rfl
 have d1:ldC (some true) (some 5) 0 u=some (.agg u.toArray):=by rw[z];rfl
 have b9:splice Z 0 u=u:=by rw[hZ,z];rfl
 have lz:Z.length=5:=by rw[hZ];rfl
 have l2:u.length=5:=by rw[z];rfl
 have a8:E.all oC=true:=by rw[D];rfl
 have a2:u.all oC=true:=by rw[z];simp [b3];exact⟨rfl,rfl,rfl,rfl⟩
 rw[j7 OM rfl _ sM,<-D];have c9:H5.get (H.next+1)=cE u 1:=by rw[W];exact j5 (by rw[t5];omega)
 have a7:i6 H.next H H5:=by rw[W];exact((((hS.trans (J.weaken oM)).trans (S.stay.weaken oM)).trans (X.stay.weaken oM)).trans (i6.put lR)).trans (i6.put oM)
 have d0:H.next<=H5.low:=by rw[W,A4,A4];have:=(((J.weaken (show H.next<=O.next from oM)).trans (S.stay.weaken oM)).trans (X.stay.weaken oM)).low b2;omega
 have e3:O9 prog 32=some Z:=by rw[hZ];exact pL.2.2.1
 refine J23 a8 hZ.symm U.symm a5.symm a9 c3 c0 b0 c5 b1 c6 c7 l5 b3 b5 d3 d1 l2 lz a2 b9 W.symm c9 ?_;refine dI (fun hc=>?_) ?_
 .rw[z]at hc;simp only[List.all_cons,Bool.and_eq_true]at hc;have:=(bG a1 hc.2.2.2.1).2;simp at this
 .have e2:N7.next ⟨H5.bs,min H.low H5.low⟩=H5.next:=rfl;have e1:H5.next=H4.next:=by rw[W,t5,t5]
  have a6:u6 H5 O.next 4 (w9 edE) v4 (p.ed++[(f,t,k,x)]):=by
   have:=a1.same (H':=H5) fun b hb=>by have:=a1.lt hb;rw[W,j6 oM,j6 oM]
   simpa using this
  refine⟨u,rfl,⟨v4,.slice ta p.ts.length tc,z,?_,?_⟩,a7.ret d0⟩
  .exact SlF.mono (a6.frz (F:=fun j=>H.next<=j/\j<H5.next) fun b hb=>by have:=a6.lt hb;omega) (fun _ _=>rfl) (fun j hj=> .inr hj) iF
  .exact SlF.mono (H:=H) h2 (fun j hj=>(a7.get j (hF j hj))) (fun j hj=> .inl hj) iF
abbrev se(s e:Int):LV:=[iV s,iV e]
def jT(n:Nat)(p:PrD):Prop:=0<=p.st/\p.st+2*n<=1000000/\p.ed.length+4*n<=900000/\p.ts.length+n<=900000
def zY(H:N7)(F:Nat->Prop)(Rt:LV->Q->Prop)(r:PrD×Int×Int)(w:Value)(H1:N7):Prop:=∃cs',w= .agg (cs'++se r.2.1 r.2.2).toArray/\PrF H1 (R6 F H H1) Rt cs' r.1/\i6 H.next H H1
def ml(K k:Nat):Prop:=∀(H:N7)(lo:Nat)(F:Nat->Prop)(Rt:LV->Q->Prop)(cs pcs:LV)(q:Q)(p:PrD),lo<=H.next->(∀j,F j->j<H.next)->QR H lo k false cs q->
 (∀k' el x,k'<=K->QR H lo k' true el x->Rt el x)->PrF H F Rt pcs p->OkD false q->jT (nQ q) p->Ret (CL prog t6 90 [.agg pcs.toArray,.agg cs.toArray] H) H (zY H F Rt (C6 q p))
theorem zw(H:N7)(A B C:LV):∃u,u=((N7.push ⟨H.bs,H.next⟩ (bC A 1)).push (bC B 1)).push (bC C 1)/\i6 H.next H u/\u.get H.next=cE A 1/\u.get (H.next+1)=cE B 1/\u.get (H.next+2)=cE C 1/\H.next<=u.low/\u.next=H.next+3:=by
 have z:(N7.push ⟨H.bs,H.next⟩ (bC A 1)).next=H.next+1:=by rw[i5];rfl
 have D:((N7.push ⟨H.bs,H.next⟩ (bC A 1)).push (bC B 1)).next=H.next+2:=by rw[i5,z]
 refine⟨_,rfl,((i6.first H _).trans (i6.push oM)).trans (i6.push oM),?_,?_,?_,?_,?_⟩
 .rw[i7 oM,i7 oM];exact j9
 .rw[i7 oM];exact y7 oM
 .exact y7 oM
 .rw[l9,l9,l9];exact lR
 .rw[i5,D]
abbrev z7:LV:=[iV 0,iV 0,iV 0,nS,nS,iV 0,iV 0]
theorem dQ(q:Q)(p:PrD)(u:q.op≠4)(z:q.op≠5)(D:q.op≠6):C6 q p=(({p with st:=p.st+2,ts:=if q.op=7 then p.ts++q.b else p.ts}:PrD).edge p.st (p.st+1) (if q.op=2 then 1 else if q.op=3 then 2 else if q.op=7 then 3 else 0) (if q.op=7 then(p.ts.length:Int) else 0),p.st,p.st+1):=by
 cases q;simp only[Q.op]at u z D;rw[C6,if_neg u,if_neg z,if_neg D];rfl
theorem D5{H:N7}{F:Nat->Prop}{J:LV->Q->Prop}{cs:LV}{p:PrD}(h:PrF H F J cs p):∃u z D E,cs=[iV p.st,iV p.sa,iV p.en,.slice u p.ed.length z,.slice D p.ts.length E]/\SlF H F 4 (w9 edE) (.slice u p.ed.length z) p.ed/\SlF H F 6 J (.slice D p.ts.length E) p.ts:=by
 obtain⟨U,W,rfl,O,S⟩:=h;obtain⟨u,z,rfl⟩:=O.slice;obtain⟨D,E,rfl⟩:=S.slice;exact⟨u,z,D,E,rfl,O,S⟩
theorem dG{α:Type}{R:LV->α->Prop}{H H':N7}{F F':Nat->Prop}{sz:Nat}{v:Value}{l:List α}(h:SlF H F sz R v l)(u:na0 v=true):SlF H' F' sz R v l:=by
 rcases h with h|⟨b,o,c,z,_⟩
 .exact .inl h
 .rw[z]at u;cases u
theorem eG{H H':N7}{F:Nat->Prop}{D:LV->Q->Prop}{cs':LV}{r:PrD×Int×Int}(X:PrF H' (R6 F H H') D cs' r.1)(U:i6 H.next H H')(W:H.next<=H'.low){c:Bool}(z:c=true->(cs'++se r.2.1 r.2.2).all na0=true):
  Ret (some (br c (.agg (cs'++se r.2.1 r.2.2).toArray,none) (.agg (cs'++se r.2.1 r.2.2).toArray,some ⟨H'.bs,min H.low H'.low⟩))) H (zY H F D r):=by
 obtain⟨O,S,rfl,E,J⟩:=X;refine dI (fun u=>?_) ⟨_,rfl,⟨O,S,rfl,E,J⟩,U.ret W⟩;have u:=z u;simp only[List.cons_append,List.nil_append,List.all_cons,Bool.and_eq_true]at u;exact⟨_,rfl,⟨O,S,rfl,dG E u.2.2.2.1,dG J u.2.2.2.2.1⟩,i6.refl _ _⟩
theorem ql(F:Nat->Prop)(Rt:LV->Q->Prop){H Hx:N7}(b:Nat)(E:LV)(u:PrD)(f t D J s e:Int)(zz:LV)(b0:u.ed.length<=1000000)(hF:∀j,F j->j<Hx.next) (b1:PrF Hx F Rt E u) (hz:Hx.get b=cE zz 1) (hb:¬F b):
  ∃h5 X U na O W nb S H6,CL prog t6 114 [.agg E.toArray,iV f,iV t,iV D,iV J] Hx=dL (.agg #[iV u.st,iV u.sa,iV u.en,.slice U na O,.slice W nb S]) h5/\h5.getD Hx=X/\X.get b=cE zz 1/\
   H6=X.put b (bC ([iV u.st,iV u.sa,iV u.en,.slice U na O,.slice W nb S]++se s e) 1)/\H6.get b=cE ([iV u.st,iV u.sa,iV u.en,.slice U na O,.slice W nb S]++se s e) 1/\
   i6 Hx.next Hx X/\H6.next=X.next/\PrF H6 (R6 F Hx H6) Rt [iV u.st,iV u.sa,iV u.en,.slice U na O,.slice W nb S] (u.edge f t D J):=by
 obtain⟨v5,a7,X,a9,a2,b4,rfl,a3,a1⟩:=eh Hx F Rt E u f t D J hF b1 b0;have b6:=a1.next;obtain⟨a5,a6,b2,b3,rfl,b5,b7⟩:=D5 a3;have a8:=u7 hz;have a4:X.get b=cE zz 1:=(a1.get _ a8).trans hz;refine⟨a7,X,a5,_,a6,b2,_,b3,_,a9,a2,a4,rfl,j5 oM,a1,by rw[t5],?_⟩;refine a3.mono (fun j z=>j6 fun q=>?_) (fun j z=>?_) iF
 .subst q;rcases z with z|z
  .exact hb z
  .omega
 .rcases z with z|z
  .exact .inl z
  .exact .inr ⟨z.1,by rw[t5];exact z.2⟩
theorem CY(K k:Nat)(hk:k<=K)(q:Q)(h4:q.op≠4)(h5:q.op≠5)(h6:q.op≠6)(H:N7)(lo:Nat)(F:Nat->Prop)(Rt:LV->Q->Prop)(cs g2:LV)(p:PrD)(n1:lo<=H.next)(hF:∀j,F j->j<H.next) (hr:QR H lo (k+1) false cs q)
  (k1:∀k' el x,k'<=K->QR H lo k' true el x->Rt el x) (hp:PrF H F Rt g2 p) (l5:OkD false q) (f6:jT (nQ q) p):
  Ret (CL prog t6 90 [.agg g2.toArray,.agg cs.toArray] H) H (zY H F Rt (C6 q p)):=by
 obtain⟨f0,f1,f2,f3⟩:=f6;have n9:=fq q;obtain⟨_,_,o1,_,m4⟩:=l5.parts;have o7:=(Tt m4).2.2.1;simp only[bF]at o7;obtain⟨va,ca,wa,e5,rfl,h1,h2,h3,j0⟩:=hr.path;obtain⟨ea,ec,ta,tc,rfl,he,ht⟩:=D5 hp;rw[dQ q p h4 h5 h6];obtain⟨b7,z⟩:=eY ([iV p.st,iV p.sa,iV p.en,.slice ea p.ed.length ec,.slice ta p.ts.length tc]:LV);obtain⟨W,D⟩:=eY ([iV q.op,.slice va q.a.length ca,.slice wa q.b.length e5]:LV);obtain⟨H1,b9,hS,c0,b4,l1,c9,n6⟩:=zw H b7 W z7;have a1:b7.all oC=true:=by rw[z];rfl
 have a2:W.all oC=true:=by rw[D];rfl
 have r0:b7[0]?=some (.int .i64 p.st):=by rw[z];rfl
 have q0:W[0]?=some (.int .i64 q.op):=by rw[D];rfl
 have q2:W[2]?=some (.slice wa q.b.length e5):=by rw[D];rfl
 have lr:b7.length=5:=by rw[z];rfl
 obtain⟨u,O⟩:=eY ([iV (p.st+2),iV p.sa,iV p.en,.slice ea p.ed.length ec,.slice ta p.ts.length tc]:LV);have c8:splice b7 0 [iV (p.st+2)]=u:=by rw[z,O];rfl
 have m6:u[4]?=some (.slice ta p.ts.length tc):=by rw[O];rfl
 have m3:u.length=5:=by rw[O];rfl
 obtain⟨H2,a5⟩:=eY (H1.put H.next (bC u 1));have d9:i6 H.next H1 H2:=by rw[a5];exact i6.put lR
 have n7:H2.next=H1.next:=by rw[a5,t5]
 have a7:H2.get H.next=cE u 1:=by rw[a5];exact j5 oM
 have b2:H2.get (H.next+1)=cE W 1:=by rw[a5,j6 oM];exact b4
 have e8:H2.get (H.next+2)=cE z7 1:=by rw[a5,j6 oM];exact l1
 have c4:decide (q.op=4)=false:=decide_eq_false h4;have c5:decide (q.op=5)=false:=decide_eq_false h5;have c6:decide (q.op=6)=false:=decide_eq_false h6;have e1:ldC (some true) (some 5) 0 u=some (.agg u.toArray):=by rw[O];rfl
 have a3:i6 H.next H H2:=hS.trans d9;have e9:∀i,¬F (H.next+i):=fun i q=>oN (hF _ q);by_cases h7:q.op=7
 .have c7:decide (q.op=7)=true:=decide_eq_true h7;have c2:decide (q.op=2)=false:=decide_eq_false oM;have c3:decide (q.op=3)=false:=decide_eq_false oM;rw[if_pos h7,if_neg oM,if_neg oM,if_pos h7,if_pos h7];have k8:=o7.1 h7;obtain⟨x,nb,o,m8,own,el,hx,hd,rfl,n2,f9,l4,d0,hR⟩:=h2.row (i:=0) oM;have k9:q.b=[x]:=by
   obtain⟨y,hy⟩:=List.length_eq_one_iff.1 k8;rw[hy]at hx ⊢;simpa using hx
  simp only[qSz,if_true,Nat.zero_mul,Nat.add_zero]at d0 f9 l4;have d4:H2.get nb=_:=(a3.get nb oM).trans f9;obtain⟨K1,f4,o0,-,b3⟩:=pushE H2 (bC [] 6);have j4:u6 K1 H2.next 6 Rt (sL H2.next 0 0) ([]:List Q):=by rw[f4];exact u6.fresh rfl lR D2.nil
  have m1:SlI K1 H.next 6 Rt (.slice ta p.ts.length tc) p.ts:=SlF.sl (ht.mono (fun j E=>by have:=hF j E;rw[b3.get j oM,a3.get j this]) (fun _ h=>h) iF) hF;obtain⟨v3,m9,H3,k2,f7,k0,d5⟩:=j4.appendF (P:=prog) (t:=23) (by exact sU.2.2.2.2.2.2) cr.1 cr.2.1 cr.2.2.1 oM oM m1 (by simp;omega) oM;have n3:=d5.next;obtain⟨v4,j0,H4,k6,f8,d8,d6⟩:=k0.push1F (P:=prog) (t:=23) (cs:=el) (a:=x) (by exact sU.2.2.2.2.2.2) cr.1 cr.2.1 cr.2.2.1 oM oM hR.len (k1 k el x hk hR) (by simp;omega) oM;have n4:=d6.next;have k3:∀j,j<H2.next->H3.get j=H2.get j:=fun j E=>by rw[d5.stay.get j oM,b3.get j E]
  have k4:∀j,j<H2.next->H4.get j=H2.get j:=fun j E=>by rw[d6.stay.get j oM,k3 j E]
  have g3:K1.get H.next=cE u 1:=(b3.get _ oM).trans a7;have g4:K1.get (H.next+1)=cE W 1:=(b3.get _ oM).trans b2;have g8:=(b3.get nb oM).trans d4;have g9:H3.get H.next=cE u 1:=(k3 _ oM).trans a7;have h0:H3.get (H.next+1)=cE W 1:=(k3 _ oM).trans b2;have h8:=(k3 nb oM).trans d4;have h9:H4.get H.next=cE u 1:=(k4 _ oM).trans a7;have i0:H4.get (H.next+2)=cE z7 1:=(k4 _ oM).trans e8;obtain⟨a4,m7,e4⟩:=d8.slice;have m5:Value.oneCell' v4=true:=by rw[e4];rfl
  have i3:v4.cells.toList=[v4]:=by rw[e4];rfl
  obtain⟨U,b1⟩:=eY ([iV (p.st+2),iV p.sa,iV p.en,.slice ea p.ed.length ec,v4]:LV);have g1:splice u 4 [v4]=U:=by rw[O,b1];rfl
  have m2:ldC (some true) (some 5) 0 U=some (.agg U.toArray):=by rw[b1];rfl
  obtain⟨J,a8⟩:=eY (H4.put H.next (bC U 1));have n5:J.next=H4.next:=by rw[a8,t5]
  have g5:J.get H.next=cE U 1:=by rw[a8];exact j5 oM
  have i1:J.get (H.next+2)=cE z7 1:=by rw[a8,j6 oM];exact i0
  have k5:∀j,j<H.next->J.get j=H.get j:=fun j E=>by rw[a8,j6 oM,k4 j oM,a3.get j E]
  have f5:u6 J H2.next 6 Rt v4 (p.ts++[x]):=by
   have:=d8.same (H':=J) fun b hb=>by have:=d8.lt hb;rw[a8,j6 oM]
   simpa using this
  have l8:PrF J (R6 F H2 J) Rt U {p with st:=p.st+2,ts:=p.ts++q.b}:=by
   refine⟨_,_,b1,he.mono (fun j E=>k5 j (hF j E)) (fun _ h=> .inl h) iF,?_⟩;rw[k9];exact SlF.mono (f5.frz (F:=fun j=>H2.next<=j/\j<J.next) fun b hb=>by have:=f5.lt hb;omega) (fun _ _=>rfl) (fun j E=> .inr E) iF
  have j1:∀j,R6 F H2 J j->j<J.next:=by
   rintro j (E|E)
   .have:=hF j E;omega
   .exact E.2
  have j2:¬R6 F H2 J (H.next+2):=by
   rintro(q|q)
   .exact e9 2 q
   .omega
  obtain⟨n0,H6,e2,na,d1,e3,o4,d2,H7,a9,S,b5,e7,g7,X,n8,m0⟩:=ql (R6 F H2 J) Rt (H:=H) (Hx:=J) (H.next+2) U {p with st:=p.st+2,ts:=p.ts++q.b} p.st (p.st+1) 3 p.ts.length p.st (p.st+1) z7 (by show p.ed.length<=_;omega) j1 l8 i1 j2;have s5:i6 H.next H1 J:=(((d9.trans (b3.weaken oM)).trans (d5.stay.weaken oM)).trans (d6.stay.weaken oM)).trans (by rw[a8];exact i6.put lR);have s7:i6 H.next H1 H7:=(s5.trans (X.weaken oM)).trans (by rw[e7];exact i6.put oM);have j3:∀j,R6 (R6 F H2 J) J H7 j->R6 F H H7 j:=by
   have:=X.next;rintro j ((E|E)|E)
   .exact .inl E
   .exact .inr ⟨oM,oM⟩
   .exact .inr ⟨oM,E.2⟩
  have q3:PrF H7 (R6 F H H7) Rt _ _:=m0.mono (fun _ _=>rfl) j3 iF;have l3:=s7.low c9;simp only[List.cons_append,List.nil_append]at e7 g7;rw[j7 pz rfl _ sM,<-z,<-D];have k7:el.all oC=true:=by
   cases k with
   |zero=>exact hR.elim
   |succ k=>obtain⟨_,_,_,_,rfl,_⟩:=hR.filter;rfl
  have i2:bsA prog (some 86) H3 1 [(0,.agg el.toArray)]=some (sL H3.next 1 1,H3.push (bC el 6)):=by
   cases k with
   |zero=>exact hR.elim
   |succ k=>
    obtain⟨_,_,_,_,rfl,_⟩:=hR.filter;simp only[C7,cr,C8];rfl
  refine J30 a1 a2 b9.symm c0 b4 r0 q0 q2 lr c8 a5.symm a7 (aI b2 c4) (aI c5 c6) (aI c7 c2) (aI c3 m6) (aI @wrap_small f4.symm) (aI d4 g3) (aI g4 g8) (aI d0 k2) (aI f7 g9) (aI h0 h8) (aI i2 k6) (aI f8 h9) (aI m3 m5) (aI i3 g1) (aI a8.symm g5) (aI m2 a9) (aI S b5) (aI e7.symm g7) ?_;exact eG (r:=(_,p.st,p.st+1)) q3 (hS.trans s7) l3 (fun h=>by simpa only[List.cons_append,List.nil_append,List.all_cons,List.all_nil,jz,Bool.true_and,Bool.and_true] using h)
 .have c7:decide (q.op=7)=false:=decide_eq_false h7;simp only[if_neg h7];have l6:PrF H2 F Rt u {p with st:=p.st+2}:=⟨_,_,O,he.mono (fun j E=>a3.get j (hF j E)) (fun _ h=>h) iF,ht.mono (fun j E=>a3.get j (hF j E)) (fun _ h=>h) iF⟩
  have ed:=fun a6=>ql F Rt (H:=H) (H.next+2) u {p with st:=p.st+2} p.st (p.st+1) a6 0 p.st (p.st+1) z7 (by show p.ed.length<=_;omega) (fun j E=>by have:=hF j E;omega) l6 e8 (e9 2);have d3:∀(a6:Int)(J H6:N7)(b8:LV),H6=J.put (H.next+2) (.cells (b8++se p.st (p.st+1)) true 1)->i6 H2.next H2 J->PrF H6 (R6 F H2 H6) Rt b8 (({p with st:=p.st+2}:PrD).edge p.st (p.st+1) a6 0)->i6 H.next H H6/\H.next<=H6.low/\PrF H6 (R6 F H H6) Rt b8 (({p with st:=p.st+2}:PrD).edge p.st (p.st+1) a6 0):=by
   intro a6 J H6 b8 e6 X b0;have s6:i6 H.next H2 H6:=(X.weaken oM).trans (by rw[e6];exact i6.put oM);exact⟨a3.trans s6,(d9.trans s6).low c9,b0.mono (fun _ _=>rfl) (fun j E=>E.imp id fun h=>⟨oM,h.2⟩) iF⟩
  by_cases o2:q.op=2
  .have c2:decide (q.op=2)=true:=decide_eq_true o2;have c3:decide (q.op=3)=false:=decide_eq_false oM;rw[if_pos o2];obtain⟨h5,J,e2,na,d1,e3,nb,d2,H6,a9,S,b5,e6,g6,X,g0,b0⟩:=ed 1;obtain⟨q1,b6,q3⟩:=d3 1 J H6 _ e6 X b0;simp only[List.cons_append,List.nil_append]at e6 g6;rw[j7 pz rfl _ sM,<-z,<-D];refine J25 a1 a2 b9.symm c0 b4 r0 q0 lr c8 a5.symm a7 b2 c4 c5 c6 c7 c2 c3 @wrap_small e1 a9 S b5 e6.symm g6 ?_;exact eG (r:=(_,p.st,p.st+1)) q3 q1 b6 (fun h=>by simpa only[List.cons_append,List.nil_append,List.all_cons,List.all_nil,jz,Bool.true_and,Bool.and_true] using h)
  .have c2:decide (q.op=2)=false:=decide_eq_false o2;rw[if_neg o2];by_cases o3:q.op=3
   .have c3:decide (q.op=3)=true:=decide_eq_true o3;rw[if_pos o3];obtain⟨h5,J,e2,na,d1,e3,nb,d2,H6,a9,S,b5,e6,g6,X,g0,b0⟩:=ed 2;obtain⟨q1,b6,q3⟩:=d3 2 J H6 _ e6 X b0;simp only[List.cons_append,List.nil_append]at e6 g6;rw[j7 pz rfl _ sM,<-z,<-D];refine J25 a1 a2 b9.symm c0 b4 r0 q0 lr c8 a5.symm a7 b2 c4 c5 c6 c7 c2 c3 @wrap_small e1 a9 S b5 e6.symm g6 ?_;exact eG (r:=(_,p.st,p.st+1)) q3 q1 b6 (fun h=>by simpa only[List.cons_append,List.nil_append,List.all_cons,List.all_nil,jz,Bool.true_and,Bool.and_true] using h)
   .have c3:decide (q.op=3)=false:=decide_eq_false o3;rw[if_neg o3];obtain⟨h5,J,e2,na,d1,e3,nb,d2,H6,a9,S,b5,e6,g6,X,g0,b0⟩:=ed 0;obtain⟨q1,b6,q3⟩:=d3 0 J H6 _ e6 X b0;simp only[List.cons_append,List.nil_append]at e6 g6;rw[j7 pz rfl _ sM,<-z,<-D];refine J25 a1 a2 b9.symm c0 b4 r0 q0 lr c8 a5.symm a7 b2 c4 c5 c6 c7 c2 c3 @wrap_small e1 a9 S b5 e6.symm g6 ?_;exact eG (r:=(_,p.st,p.st+1)) q3 q1 b6 (fun h=>by simpa only[List.cons_append,List.nil_append,List.all_cons,List.all_nil,jz,Bool.true_and,Bool.and_true] using h)
theorem pR(q:Q)(p:PrD)(u:q.op=6){x:Q}(z:q.a=[x]):C6 q p=(((C6 x {p with st:=p.st+1}).1.edge p.st (C6 x {p with st:=p.st+1}).2.1 0 0).edge (C6 x {p with st:=p.st+1}).2.2 p.st 0 0,p.st,p.st):=by
 cases q;simp only[Q.op]at u;simp only[Q.a]at z;subst u;subst z;rw[C6,if_neg (by decide),if_neg (by decide),if_pos rfl,dY]
theorem CZ(K k:Nat)(hk:k<=K)(ih:ml K k)(q:Q)(h6:q.op=6)(H:N7)(lo:Nat)(F:Nat->Prop)(Rt:LV->Q->Prop)(cs e3:LV)(p:PrD)(n3:lo<=H.next)(hF:∀j,F j->j<H.next) (hr:QR H lo (k+1) false cs q)
  (h7:∀k' el x,k'<=K->QR H lo k' true el x->Rt el x) (hp:PrF H F Rt e3 p) (j1:OkD false q) (d2:jT (nQ q) p):
  Ret (CL prog t6 90 [.agg e3.toArray,.agg cs.toArray] H) H (zY H F Rt (C6 q p)):=by
 obtain⟨f0,f1,f2,f3⟩:=d2;have j0:=fq q;obtain⟨k9,_,o1,_,l3⟩:=j1.parts;obtain⟨l1,l2,_,_⟩:=Tt l3;have e1:lst false q.op=1/\mst false q.op=1:=by rw[h6];decide
 rw[e1.1]at l1;rw[e1.2]at l2;obtain⟨va,ca,wa,f6,rfl,h1,h2,h3,m6⟩:=hr.path;obtain⟨ea,ec,ta,tc,rfl,he,ht⟩:=D5 hp;obtain⟨x,nb,o,m4,own,el,hx,hd,rfl,n5,d9,i3,b6,hR⟩:=h1.row (i:=0) oM;have b8:q.a=[x]:=by
  obtain⟨y,hy⟩:=List.length_eq_one_iff.1 (show q.a.length=1 from oM);rw[hy]at hx ⊢;simpa using hx
 simp only[qSz,bF,Nat.zero_mul,Nat.add_zero]at b6 d9 i3;have o4:nQ x+1<=nQ q:=by rw[j0,b8,nL,nL];omega
 rw[pR q p h6 b8];obtain⟨b0,O⟩:=eY ([iV p.st,iV p.sa,iV p.en,.slice ea p.ed.length ec,.slice ta p.ts.length tc]:LV);obtain⟨W,S⟩:=eY ([iV q.op,.slice (some ⟨nb,o,none⟩) q.a.length ca,.slice wa q.b.length f6]:LV);obtain⟨H1,h4,hS,h9,d3,i0,e2,n6⟩:=zw H b0 W z7;have a1:b0.all oC=true:=by rw[O];rfl
 have a2:W.all oC=true:=by rw[S];rfl
 have r0:b0[0]?=some (.int .i64 p.st):=by rw[O];rfl
 have q0:W[0]?=some (.int .i64 q.op):=by rw[S];rfl
 have q1:W[1]?=some (.slice (some ⟨nb,o,none⟩) q.a.length ca):=by rw[S];rfl
 have lr:b0.length=5:=by rw[O];rfl
 have n2:(0:Int)<q.a.length:=oM;obtain⟨D,J⟩:=eY ([iV (p.st+1),iV p.sa,iV p.en,.slice ea p.ed.length ec,.slice ta p.ts.length tc]:LV);have k2:splice b0 0 [iV (p.st+1)]=D:=by rw[O,J];rfl
 have k8:D.length=5:=by rw[J];rfl
 obtain⟨H2,a4⟩:=eY (H1.put H.next (bC D 1));have d0:i6 H.next H1 H2:=by rw[a4];exact i6.put lR
 have n7:H2.next=H1.next:=by rw[a4,t5]
 have c8:H2.get H.next=cE D 1:=by rw[a4];exact j5 oM
 have g7:H2.get (H.next+1)=cE W 1:=by rw[a4,j6 oM];exact d3
 have g9:H2.get (H.next+2)=cE z7 1:=by rw[a4,j6 oM];exact i0
 have c4:decide (q.op=4)=false:=decide_eq_false oM;have c5:decide (q.op=5)=false:=decide_eq_false oM;have c6:decide (q.op=6)=true:=decide_eq_true h6;have k3:ldC (some true) (some 5) 0 D=some (.agg D.toArray):=by rw[J];rfl
 have U:i6 H.next H H2:=hS.trans d0;have m9:∀i,¬F (H.next+i):=fun i q=>oN (hF _ q);have g6:H2.get nb=_:=(U.get nb oM).trans d9;have j2:PrF H2 F Rt D {p with st:=p.st+1}:=⟨_,_,J,he.mono (fun j z=>U.get j (hF j z)) (fun _ h=>h) iF,ht.mono (fun j z=>U.get j (hF j z)) (fun _ h=>h) iF⟩
 obtain⟨v3,m5,H3,b3,d4,m3,rfl,b4,b7⟩:=ih H2 lo F Rt el D x {p with st:=p.st+1} oM (fun j z=>by have:=hF j z;omega) (hR.mono (fun j z=>U.get j oM) lR)
  (fun k' el x i1 h=>h7 k' el x i1 (h.mono (fun j z=>(U.get j oM).symm) lR)) j2 (k9 x (by rw[b8];simp)) ⟨by show 0<=p.st+1;omega,by show p.st+1+2*_<=_;omega,by show p.ed.length+_<=_;omega,by show p.ts.length+_<=_;omega⟩
 have d8:=F8 x {p with st:=p.st+1};obtain⟨r,k1⟩:∃r,r=C6 x {p with st:=p.st+1}:=eX;rw[<-k1]at b4 d8 b3 ⊢;obtain⟨g1,g2,g3,g4⟩:=d8;simp only at g1 g2 g3 g4;obtain⟨c0,c3,e4,e5,rfl,n0,o5⟩:=D5 b4;have n9:=b7.next;obtain⟨K,a3⟩:=eY ([iV r.1.st,iV r.1.sa,iV r.1.en,.slice c0 r.1.ed.length c3,.slice e4 r.1.ts.length e5,iV r.2.1,iV r.2.2]:LV);obtain⟨b1,a9⟩:=eY ([iV r.1.st,iV r.1.sa,iV r.1.en,.slice c0 r.1.ed.length c3,.slice e4 r.1.ts.length e5]:LV);simp only[List.cons_append,List.nil_append]at b3;rw[<-a3]at b3;rw[<-a9]at b4;have aK:K.all oC=true:=by rw[a3];rfl
 have lK:K.length=7:=by rw[a3];rfl
 have m0:splice z7 0 K=K:=by rw[a3];rfl
 obtain⟨H4,h5,n4,c7,b5⟩:=pushP H3 (bC z7 1) (bC K 1);have k4:∀j,j<H2.next->H4.get j=H2.get j:=fun j z=>by rw[b5.get j oM,b7.get j z]
 have e7:H4.get (H.next+2)=cE z7 1:=(k4 _ oM).trans g9;have e6:H4.get H.next=cE D 1:=(k4 _ oM).trans c8;have k7:ldC (some true) (some 5) 0 K=some (.agg b1.toArray):=by rw[a3,a9];rfl
 have K5:K[5]?=some (.int .i64 r.2.1):=by rw[a3];rfl
 have K6:K[6]?=some (.int .i64 r.2.2):=by rw[a3];rfl
 have j3:PrF H4 (R6 F H2 H3) Rt b1 r.1:=b4.mono (fun j z=>by
  rcases z with z|z
  .have:=hF j z;exact b5.get j oM
  .exact b5.get j z.2) (fun _ h=>h) iF
 have c9:∀j,R6 F H2 H3 j->j<H3.next:=by
  rintro j (z|z)
  .have:=hF j z;omega
  .exact z.2
 obtain⟨v5,m7,H5,h8,d5,f7,rfl,j4,a7⟩:=eh H4 (R6 F H2 H3) Rt b1 r.1 p.st r.2.1 0 0 (fun j z=>by have:=c9 j z;omega) j3 oM;have o0:=a7.next;have e8:H5.get H3.next=cE K 1:=(a7.get _ oM).trans c7;have h0:∀j,R6 (R6 F H2 H3) H4 H5 j->j<H5.next:=by
  rintro j (z|z)
  .have:=c9 j z;omega
  .exact z.2
 obtain⟨v6,m8,H6,d1,d6,u,rfl,b9,b2⟩:=eh H5 _ Rt f7 _ r.2.2 p.st 0 0 h0 j4 (by rw[P5];omega);have o2:=b2.next;obtain⟨f8,f9,m1,m2,rfl,n1,o6⟩:=D5 b9;obtain⟨u,E⟩:=eY ([iV ((r.1.edge p.st r.2.1 0 0).edge r.2.2 p.st 0 0).st,iV ((r.1.edge p.st r.2.1 0 0).edge r.2.2 p.st 0 0).sa,iV ((r.1.edge p.st r.2.1 0 0).edge r.2.2 p.st 0 0).en,.slice f8 ((r.1.edge p.st r.2.1 0 0).edge r.2.2 p.st 0 0).ed.length f9,.slice m1 ((r.1.edge p.st r.2.1 0 0).edge r.2.2 p.st 0 0).ts.length m2]:LV);rw[<-E]at b9 d1;have l6:u.length=5:=by rw[E];rfl
 have a6:u.all oC=true:=by rw[E];rfl
 have l4:splice D 0 u=u:=by rw[E,J];rfl
 have k5:ldC (some true) (some 5) 0 u=some (.agg u.toArray):=by rw[E];rfl
 have f5:T4 (fun i=>([(0,5),(5,1),(6,1)]:List (Nat×Nat))[i]?) z7 [(0,.agg u.toArray),(1,iV p.st),(2,iV p.st)]=some (u++se p.st p.st):=by rw[E];rfl
 have e9:H6.get H.next=cE D 1:=(b2.get _ oM).trans ((a7.get _ oM).trans e6);have f4:H6.get (H.next+2)=cE z7 1:=(b2.get _ oM).trans ((a7.get _ oM).trans e7);obtain⟨H7,X⟩:=eY (H6.put H.next (bC u 1));have g0:H7.get H.next=cE u 1:=by rw[X];exact j5 oM
 have g5:H7.get (H.next+2)=cE z7 1:=by rw[X,j6 oM];exact f4
 have a8:(u++se p.st p.st).all oC=true:=by rw[E];rfl
 have l8:(u++se p.st p.st).length=7:=by rw[E];rfl
 have l5:splice z7 0 (u++se p.st p.st)=u++se p.st p.st:=by rw[E];rfl
 have k6:ldC (some true) (some 7) 0 (u++se p.st p.st)=some (.agg (u++se p.st p.st).toArray):=by rw[E];rfl
 obtain⟨H8,a5⟩:=eY (H7.put (H.next+2) (bC (u++se p.st p.st) 1));have g8:H8.get (H.next+2)=cE (u++se p.st p.st) 1:=by rw[a5];exact j5 (by rw[X,t5];omega)
 have s8:i6 H.next H1 H8:=(((((d0.trans (b7.weaken oM)).trans (b5.weaken oM)).trans (a7.weaken oM)).trans (b2.weaken oM)).trans (show i6 H.next H6 H7 by rw[X];exact i6.put lR)).trans (show i6 H.next H7 H8 by rw[a5];exact i6.put oM);have n8:H8.next=H6.next:=by rw[a5,t5,X,t5]
 have i2:=s8.low e2;have k0:PrF H8 (R6 F H H8) Rt u ((r.1.edge p.st r.2.1 0 0).edge r.2.2 p.st 0 0):=b9.mono (fun j z=>by
  have o3:j≠H.next/\j≠H.next+2:=by
   rcases z with((z|z)|z)|z
   .have:=hF j z;omega
   .omega
   .omega
   .omega
  rw[a5,j6 oM,X,j6 oM]) (fun j z=>by
  rcases z with((z|z)|z)|z
  .exact .inl z
  .exact .inr ⟨oM,oM⟩
  .exact .inr ⟨oM,oM⟩
  .exact .inr ⟨oM,oM⟩) iF
 rw[j7 pz rfl _ sM,<-O,<-S];refine J30 a1 a2 h4.symm h9 d3 r0 q0 q1 lr (aI k2 a4.symm) (aI c8 g7) (aI c4 c5) (aI c6 @wrap_small) (aI k3 g6) (aI b6 b3) (aI d4 aK) (aI lK m0) (aI h5.symm c7) (aI k7 K5) (aI K6 h8) (aI d5 e8) (aI d1 d6) (aI e9 k8) (aI l6 a6) (aI l4 X.symm) (aI g0 k5) (aI g5 f5) (aI a8 l8) (aI l5 a5.symm) (aI g8 k6) ?_;exact eG (r:=(_,p.st,p.st)) k0 (hS.trans s8) i2 (fun h=>h)
structure Jd(Kc row4:LV)(r:PrD×Int×Int):Prop where
 all:Kc.all Value.oneCell'=true
 len:Kc.length=7
 spl:splice z7 0 Kc=Kc
 ld5:ldC (some true) (some 5) 0 Kc=some (.agg row4.toArray)
 ld7:ldC (some true) (some 7) 0 Kc=some (.agg Kc.toArray)
 c5:Kc[5]?=some (.int .i64 r.2.1)
 c6:Kc[6]?=some (.int .i64 r.2.2)
 row:Kc=row4++se r.2.1 r.2.2
 len4:row4.length=5
 all4:row4.all Value.oneCell'=true
 spl7:∀K2:LV,K2.length=7->splice K2 0 Kc=Kc
 spl5:∀R:LV,R.length=5->splice R 0 row4=row4
 bld:∀s e:Int,T4 (fun i=>([(0,5),(5,1),(6,1)]:List (Nat×Nat))[i]?) z7 [(0,.agg row4.toArray),(1,iV s),(2,iV e)]=some (row4++se s e)
 ld:ldC (some true) (some 5) 0 row4=some (.agg row4.toArray)
theorem x9:∀(A B:LV),A.length=B.length->splice A 0 B=B:=by
 intro A B h;apply List.ext_getElem?;intro i;rw[Y9 B A 0 i oM];split
 .simp
 .rw[List.getElem?_eq_none oM,List.getElem?_eq_none oM]
theorem jK{H:N7}{F:Nat->Prop}{D:LV->Q->Prop}{u:LV}{r:PrD×Int×Int}(h:PrF H F D u r.1):Jd (u++se r.2.1 r.2.2) u r:=by
 obtain⟨J,O,S,U,rfl,_,_⟩:=D5 h;exact⟨rfl,rfl,rfl,rfl,rfl,rfl,rfl,rfl,rfl,rfl,fun E z=>x9 _ _ (by rw[z];rfl),fun R z=>x9 _ _ (by rw[z];rfl),fun s e=>rfl,rfl⟩
theorem mf(K k:Nat)(ih:ml K k)(lo:Nat)(F:Nat->Prop)(Rt:LV->Q->Prop)(Hx:N7)(el E:LV)(x:Q)(D:PrD)(a7:lo<=Hx.next)(hF:∀j,F j->j<Hx.next) (hr:QR Hx lo k false el x)
  (a5:∀k' el x,k'<=K->QR Hx lo k' true el x->Rt el x) (hp:PrF Hx F Rt E D) (a8:OkD false x) (W:jT (nQ x) D):
  ∃h3 z J u,CL prog t6 90 [.agg E.toArray,.agg el.toArray] Hx=dL (.agg (u++se (C6 x D).2.1 (C6 x D).2.2).toArray) h3/\h3.getD Hx=z/\J=(z.push (bC z7 1)).put z.next (.cells (u++se (C6 x D).2.1 (C6 x D).2.2) true 1)/\
   J.next=z.next+1/\J.get z.next=some (.cells (u++se (C6 x D).2.1 (C6 x D).2.2) true 1)/\Hx.next<=z.next/\i6 Hx.next Hx J/\PrF J (R6 F Hx z) Rt u (C6 x D).1/\Jd (u++se (C6 x D).2.1 (C6 x D).2.2) u (C6 x D)/\(∀j,R6 F Hx z j->j<z.next):=by
 obtain⟨v3,a4,z,a6,X,O,rfl,a2,U⟩:=ih Hx lo F Rt el E x D a7 hF hr a5 hp a8 W;have a1:=U.next;have S:∀j,R6 F Hx z j->j<z.next:=by
  rintro j (hj|hj)
  .have:=hF j hj;omega
  .exact hj.2
 have a3:i6 z.next z ((z.push (bC z7 1)).put z.next (.cells (O++se (C6 x D).2.1 (C6 x D).2.2) true 1)):=(i6.push lR).trans (i6.put lR);exact⟨a4,z,_,O,a6,X,rfl,by rw[t5,i5],j5 (by rw[i5];omega),a1,U.trans (a3.weaken a1),a2.mono (fun j hj=>a3.get j (S j hj)) (fun _ h=>h) iF,jK a2,S⟩
theorem FJ(K k:Nat)(hk:k<=K)(ih:ml K k)(H0:N7)(lo J:Nat)(F:Nat->Prop)(Rt:LV->Q->Prop)(e7:lo<=J)(hF:∀j,F j->j<J) (d1:∀k' el x,k'<=K->QR H0 lo k' true el x->Rt el x) (e3:J+3<=H0.next)
  (va:Option Addr) (ca:Nat) (l:List Q) (hv:QsR H0 lo k false (.slice va l.length ca) l) (hn:l.length<=1048576) (d6:∀x∈l,OkD false x) (a4:LV) (hq:H0.get (J+1)=cE a4 1) (b9:a4[1]?=some (.slice va l.length ca)) (g4:H0.get (J+2)=cE z7 1) (X:PrD×Int×Int):
  ∀kk e H2,(∃(i E:Nat)(r:PrD×Int×Int)(u:LV)(G:Nat->Prop),kk=l.length-i/\i<=l.length/\e.get 3=pT (J+1)/\e.get 4=pT (J+2)/\e.get 6=pT E/\e.get 7=iV r.2.1/\e.get 8=iV i/\
    H2.get E=cE (u++se r.2.1 r.2.2) 1/\J+3<=E/\E<H2.next/\PrF H2 G Rt u r.1/\(∀j,G j->(F j\/J+3<=j)/\j<H2.next/\j≠E)/\i6 (J+3) H0 H2/\jT (nL (l.drop i)) r.1/\bO (l.drop i) r=X)->
  w7 (LE prog t6 (.loop On) e H2) (fun o e H2=>o= .exit 0/\e.get 4=pT (J+2)/\∃(E:Nat)(u:LV)(G:Nat->Prop),e.get 6=pT E/\H2.get E=cE (u++se X.2.1 X.2.2) 1/\PrF H2 G Rt u X.1/\(∀j,G j->(F j\/J+3<=j)/\j<H2.next)/\i6 (J+3) H0 H2):=by
 refine i8 _ _ ?_;rintro kk e H2 ⟨i,E,r,u,G,e5,hi,f3,f4,f6,f7,f8,g6,d8,b8,hp,hG,hS,S,fu⟩;have e9:=hS.next;have c0:=(hS.get (J+1) oM).trans hq;have h7:=jK hp;obtain⟨Kc,a8⟩:=eY (u++se r.2.1 r.2.2);rw[<-a8]at h7 g6;rcases b:decide ((i:Int)<l.length)with _|_
 .have d2:=dF b;have:l.drop i=[]:=dN oM;rw[this,bO]at fu;refine J5 f3 f8 c0 b9 b ?_;exact i9 ⟨rfl,f4,E,u,G,f6,by rw[<-fu,<-a8];exact g6,by rw[<-fu];exact hp,fun j D=>⟨(hG j D).1,(hG j D).2.1⟩,hS⟩
 have d2:=dT b;obtain⟨x,nb,o,d9,own,el,hx,hd,rfl,e8,b5,e6,a2,hR⟩:=hv.row (i:=i) oM;have nt:(i:Int).toNat=i:=tN i;simp only[qSz,bF]at a2 b5;have c8:=(hS.get nb oM).trans b5;rw[hd]at fu S;rw[bO]at fu;rw[nL]at S;obtain⟨t0,t1,t2,t3⟩:=S;have b4:=F8 x r.1;obtain⟨e1,H3,H4,a3,a5,b2,e4,n4,U,n3,b1,b6,z,c9⟩:=mf K k ih lo G Rt H2 el u x r.1 oM (fun j D=>(hG j D).2.1) (hR.mono (fun j D=>hS.get j oM) lR) (fun k' el x d4 h=>d1 k' el x d4 (h.mono (fun j D=>(hS.get j oM).symm) lR)) hp (d6 x (mG hx)) ⟨t0,oM,oM,oM⟩;obtain⟨y,hy⟩:=eY (C6 x r.1);rw[<-hy]at a5 e4 U b6 z b4 fu;obtain⟨w0,w1,w2,w3⟩:=b4;obtain⟨Kd,d0⟩:=eY (a3++se y.2.1 y.2.2);rw[<-d0]at a5 e4 U z;have a7:H4.get E=cE Kc 1:=(b1.get E b8).trans g6;have d5:¬R6 G H2 H3 E:=by
  rintro(q|q)
  .exact(hG E q).2.2 rfl
  .omega
 obtain⟨v5,e2,H5,d3,b3,a6,rfl,b7,W⟩:=eh H4 (R6 G H2 H3) Rt a3 y.1 r.2.2 y.2.1 0 0 (fun j D=>by have:=c9 j D;omega) b6 oM;have n5:=W.next;have O:=jK (r:=(y.1.edge r.2.2 y.2.1 0 0,r.2.1,y.2.2)) b7;have c7:H5.get H3.next=cE Kd 1:=(W.get _ oM).trans U;have c4:H5.get E=cE Kc 1:=(W.get _ oM).trans a7;obtain⟨Ke,a9⟩:=eY (a6++se r.2.1 y.2.2);have a1:=O.bld r.2.1 y.2.2;simp only at O;rw[<-a9]at O a1;have c3:=O.spl7 Kc h7.len;refine J30 f3 f6 f7 f8 c0 b9 b c8 nt a2 g6 h7.ld5 h7.len a5 b2 z.all z.len z.spl e4.symm U z.ld5 z.c5 z.c6 a7 h7.c6 d3 (aI b3 c7) (aI c4 a1) (aI O.all O.len) (aI c3 @wrap_small) ?_;refine i4 (kk-1) oM ⟨i+1,E,(y.1.edge r.2.2 y.2.1 0 0,r.2.1,y.2.2),a6,R6 (R6 G H2 H3) H4 H5,oM,oM,f3,f4,f6,f7,rfl,by rw[<-a9];exact j5 oM,d8,by rw[t5];omega,b7.mono (fun j D=>j6 ?_) (fun _ h=>h) iF,?_,?_,?_,fu⟩
 .rintro rfl;rcases D with D|D
  .exact d5 D
  .omega
 .rintro j ((D|D)|D)
  .have:=hG j D;exact⟨this.1,by rw[t5];omega,this.2.2⟩
  .exact⟨.inr oM,by rw[t5];omega,oM⟩
  .exact⟨.inr oM,by rw[t5];omega,oM⟩
 .exact((hS.trans (b1.weaken oM)).trans (W.weaken oM)).trans (i6.put oM)
 .refine⟨by simp only[X9];omega,by simp only[X9];omega,by rw[P5];omega,by simp only[dx];omega⟩
theorem sZ(q:Q)(p:PrD)(u:q.op=4):C6 q p=eu q.a p:=by
 cases q;simp only[Q.op]at u;subst u;rw[C6,if_pos rfl];rfl
theorem Gq(K k:Nat)(hk:k<=K)(ih:ml K k)(q:Q)(h4:q.op=4)(H:N7)(lo:Nat)(F:Nat->Prop)(Rt:LV->Q->Prop)(cs c9:LV)(p:PrD)(e2:lo<=H.next)(hF:∀j,F j->j<H.next) (hr:QR H lo (k+1) false cs q)
  (b3:∀k' el x,k'<=K->QR H lo k' true el x->Rt el x) (hp:PrF H F Rt c9 p) (e3:OkD false q) (b4:jT (nQ q) p):
  Ret (CL prog t6 90 [.agg c9.toArray,.agg cs.toArray] H) H (zY H F Rt (C6 q p)):=by
 obtain⟨f0,f1,f2,f3⟩:=b4;have g1:=fq q;obtain⟨c8,_,o1,_,e8⟩:=e3.parts;obtain⟨l1,l2,_,_⟩:=Tt e8;have e1:lst false q.op=2:=by rw[h4];decide
 rw[e1]at l1;obtain⟨va,ca,wa,d1,rfl,h1,h2,h3,f5⟩:=hr.path;obtain⟨ea,ec,ta,tc,rfl,he,ht⟩:=D5 hp;obtain⟨x,nb,o,e9,own,el,hx,hd,rfl,f8,b9,d9,a4,hR⟩:=h1.row (i:=0) oM;simp only[qSz,bF,Nat.zero_mul,Nat.add_zero]at a4 b9 d9;have a8:q.a=x::q.a.drop 1:=by simpa using hd
 have g0:nL q.a=nQ x+nL (q.a.drop 1):=by rw[a8,nL];rfl
 have c7:C6 q p=bO (q.a.drop 1) (C6 x p):=by rw[sZ q p h4,a8,eu];rfl
 rw[c7];obtain⟨O,u⟩:=eY ([iV p.st,iV p.sa,iV p.en,.slice ea p.ed.length ec,.slice ta p.ts.length tc]:LV);obtain⟨J,D⟩:=eY ([iV q.op,.slice (some ⟨nb,o,none⟩) q.a.length ca,.slice wa q.b.length d1]:LV);obtain⟨H1,d5,hS,d6,b5,b6,c0,f9⟩:=zw H O J z7;have a1:O.all oC=true:=by rw[u];rfl
 have a2:J.all oC=true:=by rw[D];rfl
 have r0:O[0]?=some (.int .i64 p.st):=by rw[u];rfl
 have q0:J[0]?=some (.int .i64 q.op):=by rw[D];rfl
 have q1:J[1]?=some (.slice (some ⟨nb,o,none⟩) q.a.length ca):=by rw[D];rfl
 have e7:ldC (some true) (some 5) 0 O=some (.agg O.toArray):=by rw[u];rfl
 have f7:(0:Int)<q.a.length:=oM;have c4:decide (q.op=4)=true:=decide_eq_true h4;have d4:H1.get nb=_:=(hS.get nb oM).trans b9;have e5:PrF H1 F Rt O p:=⟨_,_,u,he.mono (fun j E=>hS.get j (hF j E)) (fun _ h=>h) iF,ht.mono (fun j E=>hS.get j (hF j E)) (fun _ h=>h) iF⟩
 obtain⟨f4,H3,H4,a5,a9,b7,e4,n4,X,n3,a6,c3,S,f6⟩:=mf K k ih lo F Rt H1 el O x p oM (fun j E=>by have:=hF j E;omega) (hR.mono (fun j E=>hS.get j oM) lR) (fun k' el x b0 h=>b3 k' el x b0 (h.mono (fun j E=>(hS.get j oM).symm) lR)) e5 (c8 x (by rw[a8];simp)) ⟨f0,oM,oM,oM⟩;have b8:=F8 x p;obtain⟨y,hy⟩:=eY (C6 x p);rw[<-hy]at a9 e4 X c3 S b8 ⊢;obtain⟨w0,w1,w2,w3⟩:=b8;obtain⟨Kd,b1⟩:=eY (a5++se y.2.1 y.2.2);rw[<-b1]at a9 e4 X S;have k4:∀j,j<H1.next->H4.get j=H1.get j:=a6.get;have a3:i6 H.next H H4:=hS.trans (a6.weaken oM);rw[j7 pz rfl _ sM,<-u,<-D];refine J20 a1 a2 d5.symm d6 b5 r0 q0 q1 c4 e7 d4 a4 a9 b7 S.all S.len S.spl e4.symm X S.c5 ?_;refine j8 (F:=fun z=>Ret (u5 _ _ _ (u9 (u9 (inBlock 0 z) _) _)) _ _) (FJ K k hk ih H4 lo H.next F Rt e2 hF (fun k' el x b0 h=>b3 k' el x b0 (h.mono (fun j E=>(a3.get j oM).symm) lR)) oM (some ⟨nb,o,none⟩) ca q.a (h1.mono (fun j E=>a3.get j oM) lR) h3 c8 J ((k4 _ oM).trans b5) q1 ((k4 _ oM).trans b6) (bO (q.a.drop 1) y) (q.a.length-1) _ _
  ⟨1,H3.next,y,a5,R6 F H1 H3,rfl,oM,rfl,rfl,rfl,rfl,by rfl,by rw[<-b1];exact X,oM,oM,c3,?_,i6.refl _ _,⟨oM,oM,oM,oM⟩,rfl⟩) ?_
 .rintro j (E|E)
  .have:=hF j E;exact⟨.inl E,oM,oM⟩
  .exact⟨.inr oM,oM,oM⟩
 rintro o' e' H5 ⟨ho,e6,p6,d0,G,k6,g6,c6,hG,a7⟩;have n5:=a7.next;have U:=jK c6;obtain⟨Ke,b2⟩:=eY (d0++se (bO (q.a.drop 1) y).2.1 (bO (q.a.drop 1) y).2.2);rw[<-b2]at g6 U;have d2:H5.get (H.next+2)=cE z7 1:=(a7.get _ oM).trans ((k4 _ oM).trans b6);obtain⟨H6,W⟩:=eY (H5.put (H.next+2) (bC Ke 1));have d3:H6.get (H.next+2)=cE Ke 1:=by rw[W];exact j5 oM
 have s6:i6 H.next H1 H6:=((a6.weaken oM).trans (a7.weaken oM)).trans (show i6 H.next H5 H6 by rw[W];exact i6.put oM);have d8:=s6.low c0;refine J11 ho e6 k6 g6 U.ld7 d2 U.all U.len U.spl W.symm d3 ?_;rw[b2];refine eG (c6.mono (fun j E=>?_) (fun j E=>?_) iF) (hS.trans s6) d8 (fun h=>h)
 .rw[W];refine j6 ?_;rcases(hG j E).1 with q|q
  .have:=hF j q;omega
  .omega
 .rcases(hG j E).1 with q|q
  .exact .inl q
  .exact .inr ⟨oM,by rw[W,t5];exact(hG j E).2⟩
theorem Dc(K k:Nat)(hk:k<=K)(ih:ml K k)(H0:N7)(lo D:Nat)(F:Nat->Prop)(Rt:LV->Q->Prop)(f9:lo<=D)(hF:∀j,F j->j<D) (d8:∀k' el x,k'<=K->QR H0 lo k' true el x->Rt el x) (f1:D+3<=H0.next)
  (va:Option Addr) (ca:Nat) (l:List Q) (hv:QsR H0 lo k false (.slice va l.length ca) l) (hn:l.length<=1048576) (e5:∀x∈l,OkD false x) (a1:LV) (hq:H0.get (D+1)=cE a1 1) (c7:a1[1]?=some (.slice va l.length ca)) (z:Blk) (g4:H0.get (D+2)=some z) (n:Int) (a8:PrD×List Int):
  ∀kk e H2,(∃(i:Nat)(p:PrD)(es:List Int)(w:Value)(u:LV)(G:Nat->Prop),kk=l.length-i/\i<=l.length/\es.length=i/\e.get 2=pT D/\e.get 3=pT (D+1)/\e.get 4=pT (D+2)/\e.get 5=iV n/\e.get 10=w/\e.get 11=iV i/\
    H2.get D=cE u 1/\H2.get (D+1)=cE a1 1/\H2.get (D+2)=some z/\PrF H2 G Rt u p/\(∀j,G j->(F j\/D+3<=j)/\j<H2.next/\¬l7 w j)/\u6 H2 (D+3) 1 (w9 inE) w es/\i6 D H0 H2/\jT (nL (l.drop i)) p/\I9 (l.drop i) n p es=a8)->
  w7 (LE prog t6 (.loop Oo) e H2) (fun o e H2=>o= .exit 2/\e.get 2=pT D/\e.get 4=pT (D+2)/\e.get 5=iV n/\∃(w:Value)(u:LV)(G:Nat->Prop),e.get 10=w/\H2.get D=cE u 1/\H2.get (D+2)=some z/\PrF H2 G Rt u a8.1/\(∀j,G j->(F j\/D+3<=j)/\j<H2.next)/\u6 H2 (D+3) 1 (w9 inE) w a8.2/\i6 D H0 H2):=by
 refine i8 _ _ ?_;rintro kk e H2 ⟨i,p,es,w,u,G,f7,hi,f6,f2,f3,f4,f5,a9,b1,g0,gq,gz,hp,hG,hO,hS,X,fu⟩;have g1:=hS.next;have b3:=u7 g0;have b4:=u7 gz;have h7:=jK (r:=(p,0,0)) hp;rcases b:decide ((i:Int)<l.length)with _|_
 .have e1:=dF b;have:l.drop i=[]:=dN oM;rw[this,I9]at fu;refine J5 f3 b1 gq c7 b ?_;exact i9 ⟨rfl,f2,f4,f5,w,u,G,a9,g0,gz,by rw[<-fu];exact hp,fun j E=>⟨(hG j E).1,(hG j E).2.1⟩,by rw[<-fu];exact hO,hS⟩
 have e1:=dT b;obtain⟨x,nb,o,e7,own,el,hx,hd,rfl,c0,b9,f8,a4,hR⟩:=hv.row (i:=i) oM;have nt:(i:Int).toNat=i:=tN i;simp only[qSz,bF]at a4 b9;have d2:=(hS.get nb oM).trans b9;rw[hd]at fu X;rw[I9]at fu;rw[nL]at X;obtain⟨t0,t1,t2,t3⟩:=X;have b8:=F8 x p;obtain⟨e8,H3,H4,a5,a7,b5,e4,n4,a2,n3,b2,c3,J,d3⟩:=mf K k ih lo G Rt H2 el u x p oM (fun j E=>(hG j E).2.1) (hR.mono (fun j E=>hS.get j oM) lR) (fun k' el x e3 h=>d8 k' el x e3 (h.mono (fun j E=>(hS.get j oM).symm) lR)) hp (e5 x (mG hx)) ⟨t0,oM,oM,oM⟩;obtain⟨y,hy⟩:=eY (C6 x p);rw[<-hy]at a7 e4 a2 c3 J b8 fu;obtain⟨w0,w1,w2,w3⟩:=b8;obtain⟨Kd,d4⟩:=eY (a5++se y.2.1 y.2.2);rw[<-d4]at a7 e4 a2 J;obtain⟨v5,e9,H5,e2,b6,W,rfl,c4,a3⟩:=eh H4 (R6 G H2 H3) Rt a5 y.1 n y.2.1 0 0 (fun j E=>by have:=d3 j E;omega) c3 oM;have n5:=a3.next;have a6:=jK (r:=(y.1.edge n y.2.1 0 0,0,0)) c4;have c9:H5.get H3.next=cE Kd 1:=(a3.get _ oM).trans a2;have k5:∀j,j<H2.next->H5.get j=H2.get j:=fun j E=>by rw[a3.get j oM,b2.get j E]
 have c8:H5.get D=cE u 1:=(k5 _ b3).trans g0;have e6:splice u 0 W=W:=a6.spl5 u h7.len4;obtain⟨H6,O⟩:=eY (H5.put D (bC W 1));have n6:H6.next=H5.next:=by rw[O,t5]
 have d0:H6.get H3.next=cE Kd 1:=by rw[O,j6 oM];exact c9
 have k6:∀j,j<H2.next->j≠D->H6.get j=H2.get j:=fun j E S=>by rw[O,j6 (fun q=>S q.symm)];exact k5 j E
 have d5:u6 H6 (D+3) 1 (w9 inE) w es:=hO.same fun b hb=>by have:=hO.lt hb;exact k6 b this.2 oM
 obtain⟨v7,f0,H7,d9,b7,d6,U⟩:=d5.push1F (P:=prog) (t:=29) (cs:=inE y.2.2) (a:=y.2.2) (by exact CE.2.2.2.2.2.2) ty3.1 ty3.2.1 ty3.2.2.1 oM oM rfl rfl oM oM;have n7:=U.next;have nw:∀j,j<D+3->¬l7 w j:=fun j E q=>oN (hO.lt q);have k7:∀j,j<D+3->j≠D->j<H2.next->H7.get j=H2.get j:=fun j E S c0=>by rw[U.but j oM (nw j E),k6 j c0 S]
 have d1:H7.get D=cE W 1:=by rw[U.but D oM (nw D oM),O];exact j5 oM
 refine J30 f2 f3 f5 a9 b1 gq c7 b d2 nt a4 g0 h7.ld a7 b5 J.all J.len J.spl e4.symm a2 J.ld5 J.c5 J.c6 e2 b6 (aI c8 a6.all4) (aI a6.len4 h7.len4) (aI e6 O.symm) (aI d0 d9) (aI b7 @wrap_small) ?_;refine i4 (kk-1) oM ⟨i+1,y.1.edge n y.2.1 0 0,es++[y.2.2],v7,W,R6 (R6 G H2 H3) H4 H5,oM,oM,by simp;omega,f2,f3,f4,f5,rfl,rfl,d1,(k7 _ oM oM (oN (u7 gq))).trans gq,(k7 _ oM oM b4).trans gz,?_,?_,d6,?_,?_,fu⟩
 .refine c4.mono (fun j E=>?_) (fun _ h=>h) iF;have S:j≠D/\j<H6.next/\¬l7 w j:=by
   rcases E with(E|E)|E
   .have:=hG j E;refine⟨?_,oM,this.2.2⟩;rcases this.1 with q|q
    .have:=hF j q;omega
    .omega
   .exact⟨oM,oM,fun q=>by have:=hO.lt q;omega⟩
   .exact⟨oM,oM,fun q=>by have:=hO.lt q;omega⟩
  rw[U.but j S.2.1 S.2.2,O,j6 (fun q=>S.1 q.symm)]
 .rintro j E;have nv:∀b,l7 v7 b->l7 w b\/H6.next<=b:=U.new;rcases E with(E|E)|E
  .have:=hG j E;exact⟨this.1,oM,fun q=>(nv j q).elim this.2.2 (fun q=>oM)⟩
  .exact⟨.inr oM,oM,fun q=>(nv j q).elim (fun q=>by have:=hO.lt q;omega) (fun q=>oM)⟩
  .exact⟨.inr oM,oM,fun q=>(nv j q).elim (fun q=>by have:=hO.lt q;omega) (fun q=>oM)⟩
 .exact(((hS.trans (b2.weaken oM)).trans (a3.weaken oM)).trans (show i6 D H5 H6 by rw[O];exact i6.put lR)).trans (U.stay.weaken oM)
 .refine⟨by simp only[X9];omega,by simp only[X9];omega,by rw[P5];omega,by simp only[dx];omega⟩
theorem AX(H0:N7)(D:Nat)(F:Nat->Prop)(Rt:LV->Q->Prop)(hF:∀j,F j->j<D) (b9:D+3<=H0.next) (w:Value) (S:List Int) (hO:u6 H0 (D+3) 1 (w9 inE) w S) (hl:S.length<=900000) (z:Blk) (gz:H0.get (D+2)=some z) (n t:Int) (a9:PrD):
  ∀kk e H2,(∃(i:Nat)(p:PrD)(u:LV)(G:Nat->Prop),kk=S.length-i/\i<=S.length/\e.get 2=pT D/\e.get 4=pT (D+2)/\e.get 5=iV n/\e.get 10=w/\e.get 13=iV t/\e.get 14=iV i/\
    H2.get D=cE u 1/\PrF H2 G Rt u p/\(∀j,G j->(F j\/D+3<=j)/\j<H2.next)/\(∀j,D<j->j<H0.next->H2.get j=H0.get j)/\i6 D H0 H2/\p.ed.length+S.length<=900000+i/\(S.drop i).foldl (fun m x=>m.edge x t 0 0) p=a9)->
  w7 (LE prog t6 (.loop Oq) e H2) (fun o e H2=>o= .exit 4/\e.get 2=pT D/\e.get 4=pT (D+2)/\e.get 5=iV n/\e.get 13=iV t/\∃(u:LV)(G:Nat->Prop),H2.get D=cE u 1/\H2.get (D+2)=some z/\PrF H2 G Rt u a9/\(∀j,G j->(F j\/D+3<=j)/\j<H2.next)/\i6 D H0 H2):=by
 refine i8 _ _ ?_;rintro kk e H2 ⟨i,p,u,G,c3,hi,f2,f4,f5,a2,X,a3,g0,hp,hG,E,hS,b7,fu⟩;have c5:=hS.next;have a4:=u7 g0;have h7:=jK (r:=(p,0,0)) hp;have b2:=(E (D+2) oM (u7 gz)).trans gz;obtain⟨wa,wc,a8⟩:=hO.slice;have J:=a2;rw[a8]at J;rcases b:decide ((i:Int)<S.length)with _|_
 .have b3:=dF b;have:S.drop i=[]:=dN oM;rw[this,List.foldl_nil]at fu;refine J3 J a3 b ?_;exact i9 ⟨rfl,f2,f4,f5,X,u,G,g0,b2,by rw[<-fu];exact hp,hG,hS⟩
 have b3:=dT b;obtain⟨x,hx,hd⟩:=Q1 (l:=S) (i:=i) oM;obtain⟨nb,c,cs,hv,c6,a6,hg,c4,hR⟩:=hO.at_ hx;rw[a8]at hv;obtain⟨rfl,rfl⟩:wa=some ⟨nb,0,none⟩/\wc=c:=by simpa using hv
 have nt:(i:Int).toNat=i:=tN i;have b5:=(E nb oM a6).trans hg;have c0:cs[i]?=some (.int .i64 x):=by
  have:(cs.drop (i*1)).take 1=[iV x]:=hR;have:=Q3 (k:=0) oM this
  simpa using this
 rw[hd,List.foldl_cons]at fu;obtain⟨v5,b8,H5,b4,a5,W,rfl,a7,U⟩:=eh H2 G Rt u p x t 0 0 (fun j O=>(hG j O).2) hp oM;have n5:=U.next;have a1:=jK (r:=(p.edge x t 0 0,0,0)) a7;have b1:H5.get D=cE u 1:=(U.get _ a4).trans g0;have b6:splice u 0 W=W:=a1.spl5 u h7.len4;refine J19 f2 J X a3 b g0 h7.ld b5 nt @Nat.mul_one c0 b4 a5 b1 a1.all4 a1.len4 h7.len4 b6 @wrap_small ?_;refine i4 (kk-1) oM ⟨i+1,p.edge x t 0 0,W,R6 G H2 H5,oM,oM,f2,f4,f5,a2,X,rfl,j5 oM,a7.mono (fun j O=>j6 ?_) (fun _ h=>h) iF,?_,fun j h1 h2=>?_,(hS.trans (U.weaken oM)).trans (i6.put lR),by rw[P5];omega,fu⟩
 .rintro rfl;rcases O with O|O
  .rcases(hG _ O).1 with q|q
   .have:=hF _ q;omega
   .omega
  .omega
 .rintro j (O|O)
  .have:=hG j O;exact⟨this.1,by rw[t5];omega⟩
  .exact⟨.inr oM,by rw[t5];exact O.2⟩
 .rw[j6 oM,U.get j oM,E j h1 h2]
theorem sY(q:Q)(p:PrD)(u:q.op=5):C6 q p=(((I9 q.a p.st {p with st:=p.st+1} []).2.foldl (fun m x=>m.edge x (I9 q.a p.st {p with st:=p.st+1} []).1.st 0 0) {(I9 q.a p.st {p with st:=p.st+1} []).1 with st:=(I9 q.a p.st {p with st:=p.st+1} []).1.st+1}),p.st,(I9 q.a p.st {p with st:=p.st+1} []).1.st):=by
 cases q;simp only[Q.op]at u;subst u;rw[C6,if_neg (by decide),if_pos rfl];rfl
theorem Gp(K k:Nat)(hk:k<=K)(ih:ml K k)(q:Q)(h5:q.op=5)(H:N7)(lo:Nat)(F:Nat->Prop)(Rt:LV->Q->Prop)(cs d2:LV)(p:PrD)(f9:lo<=H.next)(hF:∀j,F j->j<H.next) (hr:QR H lo (k+1) false cs q)
  (e9:∀k' el x,k'<=K->QR H lo k' true el x->Rt el x) (hp:PrF H F Rt d2 p) (g1:OkD false q) (c3:jT (nQ q) p):
  Ret (CL prog t6 90 [.agg d2.toArray,.agg cs.toArray] H) H (zY H F Rt (C6 q p)):=by
 obtain⟨f0,f1,f2,f3⟩:=c3;have i2:=fq q;have h9:=sw q.a;obtain⟨h4,_,o1,_,i3⟩:=g1.parts;obtain⟨va,ca,wa,d4,rfl,h1,h2,h3,h8⟩:=hr.path;obtain⟨ea,ec,ta,tc,rfl,he,ht⟩:=D5 hp;rw[sY q p h5];obtain⟨a8,u⟩:=eY ([iV p.st,iV p.sa,iV p.en,.slice ea p.ed.length ec,.slice ta p.ts.length tc]:LV);obtain⟨E,J⟩:=eY ([iV q.op,.slice va q.a.length ca,.slice wa q.b.length d4]:LV);obtain⟨H1,e7,hS,f5,c6,f6,c7,i0⟩:=zw H a8 E z7;have a1:a8.all oC=true:=by rw[u];rfl
 have a2:E.all oC=true:=by rw[J];rfl
 have r0:a8[0]?=some (.int .i64 p.st):=by rw[u];rfl
 have q0:E[0]?=some (.int .i64 q.op):=by rw[J];rfl
 have q1:E[1]?=some (.slice va q.a.length ca):=by rw[J];rfl
 have lr:a8.length=5:=by rw[u];rfl
 obtain⟨U,a6⟩:=eY ([iV (p.st+1),iV p.sa,iV p.en,.slice ea p.ed.length ec,.slice ta p.ts.length tc]:LV);have g5:splice a8 0 [iV (p.st+1)]=U:=by rw[u,a6];rfl
 obtain⟨H2,a4⟩:=eY (H1.put H.next (bC U 1));have b8:i6 H.next H1 H2:=by rw[a4];exact i6.put lR
 have i1:H2.next=H1.next:=by rw[a4,t5]
 have e6:H2.get H.next=cE U 1:=by rw[a4];exact j5 oM
 have b4:H2.get (H.next+1)=cE E 1:=by rw[a4,j6 oM];exact c6
 have b5:H2.get (H.next+2)=cE z7 1:=by rw[a4,j6 oM];exact f6
 have c4:decide (q.op=4)=false:=decide_eq_false oM;have c5:decide (q.op=5)=true:=decide_eq_true h5;have a3:i6 H.next H H2:=hS.trans b8;have g2:PrF H2 F Rt U {p with st:=p.st+1}:=⟨_,_,a6,he.mono (fun j D=>a3.get j (hF j D)) (fun _ h=>h) iF,ht.mono (fun j D=>a3.get j (hF j D)) (fun _ h=>h) iF⟩
 obtain⟨⟨w0,w1,w2,w3⟩,w4⟩:=cZ q.a p.st {p with st:=p.st+1} [];obtain⟨r,c9⟩:∃r,r=I9 q.a p.st {p with st:=p.st+1} []:=eX;rw[<-c9]at w0 w1 w2 w3 w4 ⊢;simp only[List.length_nil]at w0 w1 w2 w3 w4;rw[j7 pz rfl _ sM,<-u,<-J];refine J13 a1 a2 e7.symm f5 c6 r0 q0 lr g5 a4.symm c4 c5 @wrap_small ?_;refine j8 (F:=fun z=>Ret (u5 _ _ _ (u9 (u9 (inBlock 2 z) _) _)) _ _) (Dc K k hk ih H2 lo H.next F Rt f9 hF (fun k' el x f7 h=>e9 k' el x f7 (h.mono (fun j D=>(a3.get j oM).symm) lR)) oM va ca q.a (h1.mono (fun j D=>a3.get j oM) lR) h3 h4 E b4 q1 _ b5 p.st r q.a.length _ _
  ⟨0,{p with st:=p.st+1},[],nS,U,F,rfl,oM,rfl,rfl,rfl,rfl,rfl,rfl,rfl,e6,b4,b5,g2,fun j D=>⟨.inl D,by have:=hF j D;omega,B8 j⟩,u6.nil,i6.refl _ _,⟨by show 0<=p.st+1;omega,by show p.st+1+2*_<=_;simp;omega,by show p.ed.length+_<=_;simp;omega,by show p.ts.length+_<=_;simp;omega⟩,c9.symm⟩) ?_
 rintro o' e' H5 ⟨ho,k2,g8,g9,w,a9,G,g7,d8,d9,g3,b1,b7,b9⟩;have n5:=b9.next;obtain⟨d5,d6,h6,h7,X,f4,g6⟩:=D5 g3;have s0:a9[0]?=some (.int .i64 r.1.st):=by rw[X];rfl
 have l4:a9.length=5:=by rw[X];rfl
 obtain⟨W,a7⟩:=eY ([iV (r.1.st+1),iV r.1.sa,iV r.1.en,.slice d5 r.1.ed.length d6,.slice h6 r.1.ts.length h7]:LV);have d0:splice a9 0 [iV (r.1.st+1)]=W:=by rw[X,a7];rfl
 obtain⟨H6,S⟩:=eY (H5.put H.next (bC W 1));have n6:H6.next=H5.next:=by rw[S,t5]
 have e1:H6.get H.next=cE W 1:=by rw[S];exact j5 oM
 have e3:H6.get (H.next+2)=cE z7 1:=by rw[S,j6 oM];exact d9
 have d1:∀j,G j->j≠H.next:=fun j D=>by
  rcases(b1 j D).1 with q|q
  .have:=hF j q;omega
  .omega
 have g4:PrF H6 G Rt W {r.1 with st:=r.1.st+1}:=⟨_,_,a7,f4.mono (fun j D=>by rw[S,j6 (fun q=>d1 j D q.symm)]) (fun _ h=>h) iF,g6.mono (fun j D=>by rw[S,j6 (fun q=>d1 j D q.symm)]) (fun _ h=>h) iF⟩
 have e8:u6 H6 (H.next+3) 1 (w9 inE) w r.2:=b7.same fun b hb=>by have:=b7.lt hb;rw[S,j6 oM]
 refine J8 ho k2 d8 s0 l4 d0 S.symm @wrap_small ?_;refine j8 (F:=fun z=>Ret (u5 _ _ _ (u9 (u9 (inBlock 4 z) _) _)) _ _) (AX H6 H.next F Rt hF oM w r.2 e8 oM _ e3 p.st r.1.st _ r.2.length _ _
  ⟨0,{r.1 with st:=r.1.st+1},W,G,rfl,oM,k2,g8,g9,g7,rfl,rfl,e1,g4,fun j D=>⟨(b1 j D).1,by rw[n6];exact(b1 j D).2⟩,fun j _ _=>rfl,i6.refl _ _,by show r.1.ed.length+_<=_;omega,rfl⟩) ?_
 rintro o2 e2 H7 ⟨g0,m2,m4,m5,h0,d3,G7,e4,b3,c8,b2,c0⟩;have n7:=c0.next;have O:=jK (r:=(r.2.foldl (fun m x=>m.edge x r.1.st 0 0) {r.1 with st:=r.1.st+1},p.st,r.1.st)) c8;have b0:=O.bld p.st r.1.st;obtain⟨Ke,b6⟩:=eY (d3++se p.st r.1.st);simp only at O;rw[<-b6]at O b0;obtain⟨H8,a5⟩:=eY (H7.put (H.next+2) (bC Ke 1));have e5:H8.get (H.next+2)=cE Ke 1:=by rw[a5];exact j5 (u7 b3)
 have s8:i6 H.next H1 H8:=(((b8.trans b9).trans (show i6 H.next H5 H6 by rw[S];exact i6.put lR)).trans c0).trans (show i6 H.next H7 H8 by rw[a5];exact i6.put oM);have f8:=s8.low c7;refine J15 g0 m2 m4 m5 h0 e4 O.ld b0 b3 O.all O.len O.spl a5.symm e5 O.ld7 ?_;rw[b6];refine eG (r:=(_,p.st,r.1.st)) (c8.mono (fun j D=>?_) (fun j D=>?_) iF) (hS.trans s8) f8 (fun h=>h)
 .rw[a5];refine j6 ?_;rcases(b2 j D).1 with q|q
  .have:=hF j q;omega
  .omega
 .rcases(b2 j D).1 with q|q
  .exact .inl q
  .exact .inr ⟨oM,by rw[a5,t5];exact(b2 j D).2⟩
theorem Gn(K:Nat):∀k,k<=K+1->ml K k:=by
 intro k;induction k with
 |zero=>intro _ H lo F S cs D q p z U O;exact O.elim
 |succ k X=>
  intro hk H lo F S cs D q p z U O E W J u;by_cases h4:q.op=4
  .exact Gq K k oM (X oM) q h4 H lo F S cs D p z U O E W J u
  .by_cases h5:q.op=5
   .exact Gp K k oM (X oM) q h5 H lo F S cs D p z U O E W J u
   .by_cases h6:q.op=6
    .exact CZ K k oM (X oM) q h6 H lo F S cs D p z U O E W J u
    .exact CY K k oM q h4 h5 h6 H lo F S cs D p z U O E W J u
def B9(q:Q):PrD:={(C6 q ⟨0,0,0,[],[]⟩).1 with sa:=(C6 q ⟨0,0,0,[],[]⟩).2.1,en:=(C6 q ⟨0,0,0,[],[]⟩).2.2}
theorem dR(q:Q):0<=(B9 q).st/\(B9 q).st<=2*nQ q:=by
 have:=F8 q ⟨0,0,0,[],[]⟩;unfold au at this;simp only[B9];simp only at this;omega
theorem PrF.sub{H:N7}{F F':Nat->Prop}{u:LV->Q->Prop}{cs:LV}{p:PrD}(h:PrF H F u cs p)(z:∀j,F j->F' j):PrF H F' u cs p:=h.mono (fun _ _=>rfl) z iF
theorem Tq{H:N7}{F:Nat->Prop}{u:LV->Q->Prop}{cs:LV}{p:PrD}(h:PrF H F u cs p):cs.length=5:=by obtain⟨z,D,E,J,rfl,_⟩:=D5 h;rfl
theorem gU{H:N7}{F:Nat->Prop}{u:LV->Q->Prop}{cs:LV}{p:PrD}(h:PrF H F u cs p):cs.all oC=true:=by obtain⟨z,D,E,J,rfl,_⟩:=D5 h;rfl
def CO(H:N7)(Rt:LV->Q->Prop)(p:PrD)(w:Value)(H1:N7):Prop:=∃cs',w= .agg cs'.toArray/\PrF H1 (fun j=>H.next<=j/\j<H1.next) Rt cs' p/\i6 H.next H H1
theorem tV{H H':N7}{D:LV->Q->Prop}{cs':LV}{p:PrD}(X:PrF H' (fun j=>H.next<=j/\j<H'.next) D cs' p) (U:i6 H.next H H') (W:H.next<=H'.low) {c:Bool} (z:c=true->cs'.all na0=true):
  Ret (some (br c (.agg cs'.toArray,none) (.agg cs'.toArray,some ⟨H'.bs,min H.low H'.low⟩))) H (CO H D p):=by
 obtain⟨O,S,rfl,E,J⟩:=X;refine dI (fun u=>?_) ⟨_,rfl,⟨O,S,rfl,E,J⟩,U.ret W⟩;have u:=z u;simp only[List.all_cons,Bool.and_eq_true]at u;exact⟨_,rfl,⟨O,S,rfl,dG E u.2.2.2.1,dG J u.2.2.2.2.1⟩,i6.refl _ _⟩
abbrev z5:LV:=[iV 0,iV 0,iV 0,nS,nS]
theorem kZ(K k:Nat)(hk:k<=K+1)(H:N7)(lo:Nat)(Rt:LV->Q->Prop)(cs:LV)(q:Q)(d1:lo<=H.next)(hr:QR H lo k false cs q)(b4:∀k' el x,k'<=K->QR H lo k' true el x->Rt el x) (b7:OkD false q) (c7:nQ q<=100000):
  Ret (CL prog t6 67 [.agg cs.toArray] H) H (CO H Rt (B9 q)):=by
 have b8:=hr;cases k with
 |zero=>exact hr.elim
 |succ k=>
 obtain⟨va,ca,wa,c8,a8,h1,h2,h3,h4⟩:=hr.path;have a0:cs.all oC=true:=by rw[a8];rfl
 have c0:ldC (some true) (some 3) 0 cs=some (.agg cs.toArray):=by rw[a8];rfl
 obtain⟨O,E⟩:=eY ((N7.push ⟨H.bs,H.next⟩ (bC cs 1)).push (bC z5 1));have n0:(N7.push ⟨H.bs,H.next⟩ (bC cs 1)).next=H.next+1:=by rw[i5];rfl
 have hS:i6 H.next H O:=by rw[E];exact(i6.first H _).trans (i6.push oM)
 have g1:O.get H.next=cE cs 1:=by rw[E,i7 oM];exact j9
 have g2:O.get (H.next+1)=cE z5 1:=by rw[E];exact y7 oM
 have b0:H.next<=O.low:=by rw[E,l9,l9];exact lR
 have n1:O.next=H.next+2:=by rw[E,i5,n0]
 have hz:PrF O (fun _=>False) Rt z5 ⟨0,0,0,[],[]⟩:=⟨nS,nS,rfl,.inl ⟨rfl,rfl⟩,.inl ⟨rfl,rfl⟩⟩
 obtain⟨c9,X,H4,b2,a3,a9,e4,n4,a1,n3,a7,b1,D,d0⟩:=mf K (k+1) (Gn K (k+1) hk) lo (fun _=>False) Rt O cs z5 q ⟨0,0,0,[],[]⟩ oM (fun j hj=>hj.elim) (b8.mono (fun j hj=>hS.get j oM) lR) (fun k' el x b5 h=>b4 k' el x b5 (h.mono (fun j hj=>(hS.get j oM).symm) lR)) hz b7 ⟨Int.le_refl _,by show(0:Int)+2*_<=_;omega,by simp;omega,by simp;omega⟩;obtain⟨y,hy⟩:=eY (C6 q ⟨0,0,0,[],[]⟩);rw[B9,<-hy];rw[<-hy]at a3 e4 a1 b1 D;obtain⟨ea,ec,ta,tc,U,he,ht⟩:=D5 b1;obtain⟨Kd,a2⟩:=eY (b2++se y.2.1 y.2.2);rw[<-a2]at a3 e4 a1 D;obtain⟨Ke,W⟩:=eY (splice Kd 1 [iV y.2.1]);obtain⟨Kf,a5⟩:=eY (splice Ke 2 [iV y.2.2]);obtain⟨u,z⟩:=eY ([iV y.1.st,iV y.2.1,iV y.2.2,.slice ea y.1.ed.length ec,.slice ta y.1.ts.length tc]:LV);have b9:Ke.length=7:=by rw[W,E3];exact D.len
 have e6:Ke[6]?=some (.int .i64 y.2.2):=by rw[W,a2,U];rfl
 have c4:ldC (some true) (some 5) 0 Kf=some (.agg u.toArray):=by rw[a5,W,a2,U,z];rfl
 have a6:u.all oC=true:=by rw[z];rfl
 have l6:u.length=5:=by rw[z];rfl
 have c3:ldC (some true) (some 5) 0 u=some (.agg u.toArray):=by rw[z];rfl
 have c6:splice z5 0 u=u:=x9 _ _ (by rw[l6];rfl);obtain⟨H5,J⟩:=eY ((H4.put X.next (bC Ke 1)).put X.next (bC Kf 1));have b3:H5.get X.next=cE Kf 1:=by rw[J];exact j5 (by rw[t5];omega)
 have a4:H5.get (H.next+1)=cE z5 1:=by rw[J,j6 oM,j6 oM,a7.get _ oM];exact g2
 obtain⟨H6,S⟩:=eY (H5.put (H.next+1) (bC u 1));have n6:H6.next=H4.next:=by rw[S,t5,J,t5,t5]
 have g6:H6.get (H.next+1)=cE u 1:=by rw[S];exact j5 (u7 a4)
 have s6:i6 H.next O H6:=(a7.weaken oM).trans (show i6 H.next H4 H6 by rw[S,J];exact((i6.put oM).trans (i6.put oM)).trans (i6.put oM));have b6:=s6.low b0;have k6:∀j,R6 (fun _=>False) O X j->H6.get j=H4.get j:=fun j hj=>by
  have:O.next<=j/\j<X.next:=hj.elim (fun q=>q.elim) id;rw[S,j6 oM,J,j6 oM,j6 oM]
 have k7:∀j,R6 (fun _=>False) O X j->H.next<=j/\j<H6.next:=fun j hj=>by
  have:O.next<=j/\j<X.next:=hj.elim (fun q=>q.elim) id;omega
 rw[j7 QT rfl _ sM];refine J26 a0 E.symm g1 c0 a3 a9 D.all D.len D.spl e4.symm a1 D.c5 W.symm b9 e6 a5.symm J.symm b3 c4 a4 a6 l6 c6 S.symm g6 c3 ?_;exact tV (p:={y.1 with sa:=y.2.1,en:=y.2.2}) ⟨_,_,z,he.mono k6 k7 iF,ht.mono k6 k7 iF⟩ (hS.trans s6) b6 (fun h=>h)
structure StD where
 paths:List Q
 progs:List PrD
 base:List Int
 main:PrD
def StF(H:N7)(F:Nat->Prop)(Rp Rt:LV->Q->Prop)(cs:LV)(s:StD):Prop:=∃v1 v2 v3 ms,cs=[v1,v2,v3]++ms/\SlF H F 3 Rp v1 s.paths/\SlF H F 5 (PrF H F Rt) v2 s.progs/\SlF H F 1 (w9 inE) v3 s.base/\PrF H F Rt ms s.main
theorem StF.mono{H H':N7}{F F':Nat->Prop}{S U u z:LV->Q->Prop}{cs:LV}{s:StD}(h:StF H F S U cs s)(J:∀j,F j->H'.get j=H.get j) (D:∀j,F j->F' j) (O:∀cs a,S cs a->u cs a) (E:∀cs a,U cs a->z cs a):StF H' F' u z cs s:=by
 obtain⟨v1,v2,v3,ms,W,X,h2,h3,h4⟩:=h;exact⟨v1,v2,v3,ms,W,X.mono J D O,h2.mono J D (fun _ _ h=>h.mono J D E),h3.mono J D iF,h4.mono J D E⟩
theorem F1{H:N7}{F:Nat->Prop}{Rp X:LV->Q->Prop}{cs:LV}{s:StD}(h:StF H F Rp X cs s):∃pa S J O u z D E U W,cs=[.slice pa s.paths.length S,.slice J s.progs.length O,.slice u s.base.length z,iV s.main.st,iV s.main.sa,iV s.main.en,.slice D s.main.ed.length E,.slice U s.main.ts.length W]/\
  SlF H F 3 Rp (.slice pa s.paths.length S) s.paths/\SlF H F 5 (PrF H F X) (.slice J s.progs.length O) s.progs/\SlF H F 1 (w9 inE) (.slice u s.base.length z) s.base/\SlF H F 4 (w9 edE) (.slice D s.main.ed.length E) s.main.ed/\SlF H F 6 X (.slice U s.main.ts.length W) s.main.ts:=by
 obtain⟨v1,v2,v3,ms,rfl,h1,h2,h3,h4⟩:=h;obtain⟨pa,S,rfl⟩:=h1.slice;obtain⟨J,O,rfl⟩:=h2.slice;obtain⟨u,z,rfl⟩:=h3.slice;obtain⟨D,E,U,W,rfl,h5,h6⟩:=D5 h4;exact⟨pa,S,J,O,u,z,D,E,U,W,rfl,h1,h2,h3,h5,h6⟩
theorem SlF.row{H:N7}{F:Nat->Prop}{sz:Nat}{α:Type}{R:LV->α->Prop}{z:Option Addr}{n ca:Nat}{l:List α}(h:SlF H F sz R (.slice z n ca) l){i:Nat}(u:i<l.length):
  ∃x b o cs own el,l[i]?=some x/\l.drop i=x::l.drop (i+1)/\z=some ⟨b,o,none⟩/\F b/\H.get b=some (.cells cs own sz)/\o+i*sz+sz<=cs.length/\ldC (some true) (some sz) (o+i*sz) cs=some (.agg el.toArray)/\(∀k,k<sz->cs[o+i*sz+k]?=el[k]?)/\R el x:=by
 obtain⟨x,D,S⟩:=Q1 (l:=l) (i:=i) u;rcases h with⟨_,h⟩|⟨b,o,c,W,h⟩
 .subst h;simp at u
 .rcases h with h|⟨cs,own,E,J,X,O⟩
  .subst h;simp at u
  .obtain⟨rfl,rfl,rfl⟩:z=some ⟨b,o,none⟩/\n=l.length/\ca=c:=by simpa using W
   have:(i+1)*sz<=l.length*sz:=Nat.mul_le_mul_right _ u;rw[Nat.add_mul]at this;exact⟨x,b,o,cs,own,_,D,S,rfl,E,J,oM,cq oM rfl,fun k U=>Q3 U rfl,O i x D⟩
def A0(l:List PrD):Int:=l.foldl (fun n p=>n+p.st) 0
theorem xD(H0:N7)(F:Nat->Prop)(Rt:LV->Q->Prop)(O:Nat)(ga:Option Addr)(gc:Nat)(l:List PrD)(hv:SlF H0 F 5 (PrF H0 F Rt) (.slice ga l.length gc) l)(hn:l.length<=100000)(hb:∀p∈l,0<=p.st/\p.st<=1000000) (u:LV) (X:H0.get O=cE u 1) (r1:u[1]?=some (.slice ga l.length gc)) (r:Int):
  ∀J e H2,(∃(i:Nat)(n:Int),J=l.length-i/\i<=l.length/\0<=n/\n<=1000000*i/\e.get 1=pT O/\e.get 3=iV n/\e.get 4=iV i/\H2=H0/\(l.drop i).foldl (fun n p=>n+p.st) n=r)->
  w7 (LE prog t6 (.loop Nx) e H2) (fun o e H2=>H2=H0/\o= .exit 0/\e.get 3=iV r):=by
 refine i8 _ _ ?_;rintro J e H2 ⟨i,n,hk,hi,a4,a5,D,U,W,hH,z⟩;subst hH;rcases b:decide ((i:Int)<l.length)with _|_
 .have E:=dF b;have:l.drop i=[]:=dN oM;rw[this,List.foldl_nil]at z;refine J5 D W X r1 b ?_;exact i9 ⟨rfl,rfl,by rw[<-z];exact U⟩
 have E:=dT b;obtain⟨x,nb,o,cs,own,el,hx,hd,rfl,hF,hg,a3,a1,hc,hR⟩:=hv.row (i:=i) oM;have nt:(i:Int).toNat=i:=tN i;have a2:=hb x (mG hx);obtain⟨ea,ec,ta,tc,rfl,_,_⟩:=D5 hR;have S:=hc 0 oM;rw[Nat.add_zero]at S;rw[hd,List.foldl_cons]at z;refine J10 D U W X r1 b hg nt S @wrap_small ?_;exact i4 (J-1) oM ⟨i+1,n+x.st,oM,oM,oM,oM,D,rfl,rfl,rfl,z⟩
theorem qH(H:N7)(F:Nat->Prop)(Rp J:LV->Q->Prop)(cs:LV)(s:StD)(hF:∀j,F j->j<H.next) (hs:StF H F Rp J cs s) (hn:s.progs.length<=100000) (hb:∀p∈s.progs,0<=p.st/\p.st<=1000000):CL prog t6 43 [.agg cs.toArray] H=some (.int .i64 (A0 s.progs),none):=by
 obtain⟨pa,pc,O,S,ba,bc,ea,ec,ta,tc,D,h1,h2,X,h4,h5⟩:=F1 hs;have a0:cs.all oC=true:=by rw[D];rfl
 have r1:cs[1]?=some (.slice O s.progs.length S):=by rw[D];rfl
 obtain⟨E,u,-,hg,hS⟩:=pushF H (bC cs 1);have a1:H.next<=E.low:=by rw[u,l9];exact lR
 have U:SlF E F 5 (PrF E F J) (.slice O s.progs.length S) s.progs:=h2.mono (fun j W=>hS.get j (hF j W)) (fun _ h=>h) (fun _ _ h=>h.mono (fun j W=>hS.get j (hF j W)) (fun _ h=>h) iF);rw[j7 Pp rfl _ sM];refine J2 a0 u.symm ?_;refine j8 (F:=fun z=>u5 _ _ _ (u9 (inBlock 0 z) _)=_) (xD E F J H.next O S s.progs U hn hb cs hg r1 (A0 s.progs) s.progs.length _ _ ⟨0,0,rfl,oM,oM,oM,rfl,rfl,rfl,rfl,rfl⟩) ?_;rintro o e' H' ⟨hH,ho,X⟩;exact J3 ho hH X trivial
def jl(l:List Q)(x:Q):Int:=ixG (fun y=>M6 y x) l 0
theorem mW(k:Nat)(H0:N7)(F:Nat->Prop)(lo O:Nat)(a2:lo<=H0.next)(pa:Option Addr)(pc:Nat)(l:List Q)(hv:SlF H0 F 3 (QR H0 lo k false) (.slice pa l.length pc) l)(hn:l.length<=100000)(J el:LV)(x:Q)(hx:QR H0 lo k false el x)(g0:H0.get O=cE J 1)(r0:J[0]?=some (.slice pa l.length pc))(g1:H0.get (O+1)=cE el 1)(r:Int):
  ∀kk e H2,(∃i:Nat,kk=l.length-i/\i<=l.length/\e.get 2=pT O/\e.get 3=pT (O+1)/\e.get 5=iV i/\H2=H0/\ixG (fun y=>M6 y x) (l.drop i) i=r)->
  w7 (LE prog t6 (.loop NW) e H2) (fun o e H2=>H2=H0/\((o= .exit 0/\r= -1)\/(o= .ret/\e.get 4=iV r))):=by
 refine i8 _ _ ?_;rintro kk e H2 ⟨i,hk,hi,U,X,f5,hH,D⟩;subst hH;rcases b:decide ((i:Int)<l.length)with _|_
 .have a1:=dF b;have:l.drop i=[]:=dN oM;rw[this,ixG]at D;refine J5 U f5 g0 r0 b ?_;exact i9 ⟨rfl,.inl ⟨rfl,D.symm⟩⟩
 have a1:=dT b;obtain⟨y,nb,o,cs,own,W,hy,hd,rfl,hF,hg,a3,z,hc,hR⟩:=hv.row (i:=i) oM;have nt:(i:Int).toNat=i:=tN i;have E:ldC (some true) (some 3) 0 el=some (.agg el.toArray):=by
  cases k with
  |zero=>exact hx.elim
  |succ k=>obtain⟨_,_,_,_,rfl,_⟩:=hx.path;rfl
 have u:=(FH k).1 H2 lo W el y x a2 hR hx;rw[hd,ixG]at D;rcases S:M6 y x with _|_
 .simp only[S,bF]at D;rw[S]at u;refine J13 U X f5 g0 r0 b hg nt z g1 E u @wrap_small ?_;exact i4 (kk-1) oM ⟨i+1,oM,oM,U,X,rfl,rfl,D⟩
 .simp only[S,if_true]at D;rw[S]at u;refine J12 U X f5 g0 r0 b hg nt z g1 E u ?_;exact z9 ⟨rfl,.inr ⟨rfl,by rw[<-D];rfl⟩⟩
theorem io(k:Nat)(H:N7)(F:Nat->Prop)(lo:Nat)(Rt:LV->Q->Prop)(cs el:LV)(s:StD)(x:Q)(a3:lo<=H.next)(hF:∀j,F j->j<H.next) (hs:StF H F (QR H lo k false) Rt cs s) (U:QR H lo k false el x) (hn:s.paths.length<=100000):
  CL prog t6 69 [.agg cs.toArray,.agg el.toArray] H=some (.int .i64 (jl s.paths x),none):=by
 obtain⟨pa,W,ga,gc,ba,bc,ea,ec,ta,tc,E,h1,h2,h3,X,h5⟩:=F1 hs;have a0:cs.all oC=true:=by rw[E];rfl
 have r1:cs[0]?=some (.slice pa s.paths.length W):=by rw[E];rfl
 have a1:el.all oC=true:=by
  cases k with
  |zero=>exact U.elim
  |succ k=>obtain⟨_,_,_,_,rfl,_⟩:=U.path;rfl
 obtain⟨D,u⟩:=eY ((N7.push ⟨H.bs,H.next⟩ (bC cs 1)).push (bC el 1));have n0:(N7.push ⟨H.bs,H.next⟩ (bC cs 1)).next=H.next+1:=by rw[i5];rfl
 have O:i6 H.next H D:=by rw[u];exact(i6.first H _).trans (i6.push oM)
 have g1:D.get H.next=cE cs 1:=by rw[u,i7 oM];exact j9
 have g2:D.get (H.next+1)=cE el 1:=by rw[u];exact y7 oM
 have a2:H.next<=D.low:=by rw[u,l9,l9];exact lR
 have a4:=O.next;have q1:∀cs a,QR H lo k false cs a->QR D lo k false cs a:=fun _ _ h=>h.mono (fun j hj=>O.get j oM) lR;have J:SlF D F 3 (QR D lo k false) (.slice pa s.paths.length W) s.paths:=h1.mono (fun j hj=>O.get j (hF j hj)) (fun _ h=>h) q1;rw[j7 Py rfl _ sM];refine J3 a0 a1 u.symm ?_;refine j8 (F:=fun z=>u5 _ _ _ (u9 (inBlock 0 z) _)=_) (mW k D F lo H.next oM pa W s.paths J hn cs el x (q1 _ _ U) g1 r1 g2 (jl s.paths x) s.paths.length _ _ ⟨0,rfl,oM,rfl,rfl,rfl,rfl,rfl⟩) ?_;rintro o e' H' ⟨hH,⟨S,hr⟩|⟨S,X⟩⟩
 .exact J3 S hH hr trivial
 .exact J3 S hH X trivial
end Go.Proofs.YtofbhlhamfkljaaGreatDoor.Ve
