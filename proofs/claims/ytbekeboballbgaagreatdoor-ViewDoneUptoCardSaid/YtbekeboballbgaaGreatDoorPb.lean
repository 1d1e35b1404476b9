/- A part of the claim: the evaluator and the contracts. Conditions: none here. -/
import Derived.Test.YtbekeboballbgaaGreatDoorPa
import Derived.LoopNIn
import Derived.OwnWalkIn
import Derived.RangeFuncCalls
import Derived.Scope
import Derived.LoopN
import Derived.RangeFuncSeq
import Derived.RangeFuncIn
import Derived.Test.YtbekeboballbgaaGreatDoorRows
import Derived.ChangeArms
import Derived.ChangeOld
import Derived.KernelRfl
import Derived.Test.YtbekeboballbgaaGreatDoorProg
import Derived.Test.YtbekeboballbgaaGreatDoorCards
import Derived.Test.YtbekeboballbgaaGreatDoorTie
import Derived.WalkKit
import Derived.ProofKit
import Derived.OpenShut
import Derived.JoinedCond
import Derived.Below
import Derived.Deep.DeepHandedRow
import Derived.Lib.LaidTab
set_option linter.unusedVariables false
set_option linter.unusedSimpArgs false
set_option linter.defProp false
set_option maxHeartbeats 0
set_option autoImplicit true
set_option relaxedAutoImplicit true
set_option maxRecDepth 1000000
namespace Go.Proofs.YtbekeboballbgaaGreatDoor
open Go Go.RowKit
def kA:=@decide_eq_false
def Hm:=@Int.lt_or_le
def aad:=@List.mem_singleton
def aan:=@List.drop_zero
def aaI:=@List.flatMap_cons
def aaR:=@decide_eq_decide
def aa1:=@List.head?_cons
def aba:=@List.take_append_of_le_length
def abi:=@Bool.false_and
def abk:=@ByteArray.size_append
def abl:=@List.take_succ_cons
def abp:=@Bool.and_false
def abD:=@Nat.le_max_right
def abL:=@World.putObj_heap_other
def abO:=@Nat.le_max_left
def abR:=@Bool.true_or
def abT:=@Int.zero_add
def abW:=@Bool.eq_iff_iff
def abZ:=@List.take_length
def ab7:=@Bool.and_self
def ab8:=@List.drop_append_of_le_length
def ach:=@Classical.choose_spec
def acq:=@Bool.or_true
def acB:=@List.cons.injEq
def acR:=@Nat.add_comm
def acS:=@Bool.not_eq_true
def acY:=@List.length_pos_iff
def ac6:=@BitVec.toNat_ofNat
def ac7:=@Int.natCast_nonneg
def ade:=@List.drop_left
def adf:=@Nat.mul_comm
def ado:=@wpIn_wide
def adr:=@BitVec.ofInt_natCast
def adB:=@not_or
def adC:=@Int.tdiv_eq_ediv_of_nonneg
def adD:=@Int.tmod_eq_emod_of_nonneg
def ad0:=@World.putObj_heap_same
def aen:=@Bool.or_false
def aeo:=@List.mapM_nil
end Go.Proofs.YtbekeboballbgaaGreatDoor
namespace Go.Proofs.YtbekeboballbgaaGreatDoor.Ve
open Go Go.RowKit
section
variable{P:Program}{base:Bs}{w0:World}{φ:List Loc}{S:List Blk}{w:World}{nt:Nat}{e:Env}{a:Act}
def cg(J:lV P base w0 C):∀{l:List Oper}{e e':Env}{H H':d7},D7 P C ops l e H=some (e',H')->Le H H':=by
 intro l;induction l with
 |nil=>intro e e' H H' h;cases h;exact Le.refl _
 |cons o l E=>
  intro e e' H H' h;simp only[D7]at h;split at h
  .cases h
  split at h
  .split at h
   .exact E h
   .rename_i v H2 D;refine Le.trans ?_ (E h);cases I:isCall o.op with
    |false=>exact nN I D
    |true=>
     obtain⟨c,f,g,first,z,_,_,_,u⟩:=aD I D;exact(J _ _ _ _ _ u).2.1 _ rfl
   .cases h
  .exact E h
def Z3(hC:lV P base w0 C)(b0:io nt ops=true){Q:Exit->Act->World->Prop}:∀{l:List Oper}(hl:∀o∈l,o∈ops.toList) {φ:List Loc} {e e':Env} {H H':d7} {a:Act} {w:World},
  D7 P C ops l e H=some (e',H')->ER φ nt e a->WR base w0 φ H.bs w->jJ base w0 φ H w nt a.defers e' H' (Q .normal)->wpList P ops Q l a w:=by
 intro l;induction l with
 |nil=>
  intro hl φ e e' H H' a w h hE hW hp;cases h;exact hp φ a w (Ext.refl φ) hE hW (lq H) rfl
 |cons o l ih=>
  intro hl φ e e' H H' a w h hE hW hp;obtain⟨a7,a9⟩:=aX b0 (hl o sM);have b9:∀o∈l,o∈ops.toList:=fun o ho=>hl o (by simp [ho]);simp only[D7]at h;split at h
  .cases h
  rename_i c3;rw[hE.wanted ops o (Z1 b0) (by simpa using c3)]at h;unfold wpList;have b1:∀v,(a.put o.dst v).defers=a.defers:=fun v=>by unfold Act.put;split<;>rfl
  split at h
  .rename_i hw;rw[cA hw]
   left
   have E:∀(v:aet)(H2:d7)(v':aet)(w':World)(φ':List Loc),Le H H2->D7 P C ops l (L7 e o.dst v) H2=some (e',H')->Ext φ φ'->VR φ' v v'->WR base w0 φ' H2.bs w'->Fr φ H.bs H2.low w w'->
     wpList P ops Q l (a.put o.dst v') w':=by
    intro v H2 v' w' φ' b7 hr hx hv a1 a3;refine ih b9 hr ((hE.mono hx).put a9 hv) a1 ?_;intro φ2 a2 w2 b8 b2 b3 a5 b4;exact hp φ2 a2 w2 (hx.trans b8) b2 b3 (Fr.trans hx b7 (cg hC hr) hW.len a3 a5) (by rw[b4,b1])
   cases hc:isCall o.op with
   |false=>
    split at h
    next v z=>obtain⟨v',hv,u⟩:=jz hW hE a7 hc z;unfold Oper.wp;rw[u w hW.cls,ab9];exact E v H v' w φ (Le.refl H) h (Ext.refl φ) hv hW (lq H)
    .rename_i v H2 z;obtain⟨v',w',φ',u,hx,hv,a1,a3⟩:=vQ hW hE a7 hc z;unfold Oper.wp;rcases u with u|⟨u,rfl⟩
     .rw[u,ab9];exact E v H2 v' w' φ' (nN hc z) h hx hv a1 a3
     .rw[u,aej];exact E v H2 undef w' φ' (nN hc z) h hx hv a1 a3
    .cases h
   |true=>
    split at h
    next v z=>obtain⟨c,f,g,first,X,ho,D,hf,O⟩:=aD hc z;obtain⟨a6,I,b6,J⟩:=jq hE a7 ho D hf;obtain⟨b5,_,c0,W⟩:=hC _ _ _ _ _ O;have a4:=W φ w _ J hW;unfold Oper.wp;rw[dK D (ty:=o.type) b6 b5 ho,aeb];simp only[aa0]at a4;refine a4.mono fun en w' U=>?_;obtain⟨rfl,a8⟩:=U;exact E v H v w' φ (Le.refl H) h (Ext.refl φ) (VR.na (c0 rfl)) a8.wr (fun b B l _ hB hd hl=>a8.same b B l hB hd hl)
    next v H2 z=>obtain⟨c,f,g,first,X,ho,D,hf,O⟩:=aD hc z;obtain⟨a6,I,b6,J⟩:=jq hE a7 ho D hf;obtain⟨b5,b7,_,W⟩:=hC _ _ _ _ _ O;have a4:=W φ w _ J hW;unfold Oper.wp;rw[dK D (ty:=o.type) b6 b5 ho,aeb];simp only[aa0]at a4;refine a4.mono fun en w' U=>?_;obtain⟨v',φ',rfl,hx,hv,a1,a3⟩:=U;exact E v H2 v' w' φ' (b7 H2 rfl) h hx hv a1 a3
    .cases h
  next hw=>rw[bt hw];refine ih b9 h (hE.put a9 (VR.undef' φ)) hW ?_;intro φ2 a2 w2 b8 b2 b3 a5 b4;exact hp φ2 a2 w2 b8 b2 b3 a5 (by rw[b4,b1])
def Cls.trans(h:Cls base w0 φ S w z)(k:Cls base w0 φ S z u):Cls base w0 φ S w u:=
 ⟨k.wr,fun b B l p q r=>(k.same b B l p q r).trans (h.same b B l p q r)⟩
def jG(P:Program)(ops:Array Oper):List Oper->Act->(Act->Prop)->Prop
 |[],a,Q=>Q a
 |o::l,a,Q=>∃v,Yields P ops o v a/\jG P ops l (a.put o.dst v) Q
def gY{Q Q':Act->Prop}(h:∀a,Q a->Q' a):∀(l:List Oper)(a:Act),jG P ops l a Q->jG P ops l a Q'
 |[],a,hq=>h a hq
 |o::l,a,⟨v,h1,h2⟩=>⟨v,h1,gY h l _ h2⟩
def Mk{o:Oper}{H:d7}(W:WR base w0 φ H.bs w)(D:ER φ nt e a)(z:o.op.operands.toList.all D0=true)(J:qX o.op=true)(h:aop P C o.op e H=some (v,r)):
  ∃v',VR φ v v'/\∀E,(execOp a.eval o).run P E= .ok (.value v') E:=by
 unfold aop at h;unfold execOp;unfold qX at J;split at J<;>rename_i I<;>simp only[I]at h ⊢
 all_goals first|(cases J;done)|simp only[I,Op.operands,aaE,abQ,aa9,gk]at z
 .cases h;exact⟨_,D.op z,fun E=>rfl⟩
 .cases h;exact⟨_,D.op z,fun E=>rfl⟩
 .rename_i t x lo X mx;obtain⟨h,_⟩:=E8 h;have u:D0 x=true/\lo.toList.all D0=true/\X.toList.all D0=true/\mx.toList.all D0=true:=by
   simp only[abr,abN,gk,adh,aaE,abQ,aa9]at z
   simpa [and_assoc] using z
  obtain⟨v',O,U⟩:=CC W h (D.op u.1) (D.opt u.2.1) (D.opt u.2.2.1) (D.opt u.2.2.2);exact⟨v',O,fun E=>by simp [U E]⟩
def rO{g:Nat}{Q:Exit->Act->World->Prop}{w:World}(O:Region.noSelect ops=true)(J:∀c a w,¬Q (.panic c) a w):
  ∀(l:List Oper)(k:Nat)(u:Array Bool)(a:Act),(∀j,j<l.length->l[j]?=ops[k+j]?)->Region.lexHead md ops g l.length k u=true->
   jG P ops l a (fun I=>∀z,Region.seqB md ops g (k+l.length) z=true->wpAny P md ops Q g z I w)->wpAny P md ops Q (l.length+g) u a w
 |[],k,u,a,_,hB,h=>by
  rw[aaG,aaH];exact h u (by simpa [Region.lexHead] using hB)
 |o::l,k,u,a,hl,hB,⟨v,hy,h⟩=>by
  have U:ops[k]?=some o:=by simpa using (hl 0 sM).symm
  simp only[A1,Region.lexHead,gk]at hB;obtain⟨⟨hr,W⟩,D⟩:=hB;rw[A1,show l.length+1+g=(l.length+g)+1 from oM];refine wpAny_take U O W hr (fun c a w q=>absurd q (J c _ w)) hy ?_;refine rO O J l (k+1) _ _ (fun j hj=>by have:=hl (j+1) (by simp;omega);simpa [aa5,acR 1 j] using this) D ?_;refine gY (fun I X z E=>X z ?_) l _ h;rw[A1,show k+(l.length+1)=k+1+l.length from oM];exact E
def rP{id:Nat}{Q:Exit->Act->World->Prop}{a:Act}{w:World}{l:List Oper}(n:Nat)(hm:P.follows .mixedOrders=true)(O:pureTailB l.toArray n=true)(hQ:∀c a w,¬Q (.panic c) a w)
  (h:jG P l.toArray (l.take n) a (fun a'=>wpList P l.toArray Q (l.drop n) a' {w with drawn:=w.drawn+1})):(Code.region id l.toArray true).wp P Q a w:=by
 simp only[pureTailB,gk,xo]at O;obtain⟨⟨⟨I,hn⟩,_⟩,E⟩:=O;have a1:n<l.length:=by simpa using hn
 have z:(l.take n).length=n:=by simp;omega
 have D:(l.drop n).length=l.toArray.size-n:=sM;refine aem hm ?_;have:=rO (P:=P) (md:= .any) (g:=l.toArray.size-n) (Q:=Q) (w:={w with drawn:=w.drawn+1}) I hQ (l.take n) 0 (Array.replicate l.toArray.size false) a (fun j W=>by
  have J:j<n:=by rw[z]at W;exact W
  simp [J]) (by rw[z];exact E) (by
  refine gY (fun a' X u U=>?_) _ _ h;have:=wpAny_of_seq (md:= .any) (Q':=Q) (l.drop n) n u a' {w with drawn:=w.drawn+1} (fun j=>by simp [aaA]) (by rw[D];rw[aaH,z]at U;exact U) X
  rwa [D]at this)
 rw[z,show n+(l.toArray.size-n)=l.toArray.size from oM]at this;exact this
def Af(hC:lV P base w0 C)(z:io nt ops=true){H:d7}(hW:WR base w0 φ H.bs w):∀{l:List Oper}(hl:∀o∈l,o∈ops.toList) {i:Nat} {q:Bool} {e e':Env} {H':d7},
  L6 P C ops i q l e H=some (e',H')->
  (Region.lexB .any ops=true/\H'=H/\∀a,ER φ nt e a->∀Q:Act->Prop,(∀a',ER φ nt e' a'->a'.defers=a.defers->Q a')->wpQuiet P ops (Cls base w0 φ H.bs w) Q l a)\/
  (∃m e1,q=false/\Dc ops (i+m)=true/\D7 P C ops (l.drop m) e1 H=some (e',H')/\
   (∀a,ER φ nt e a->(∀o∈l.take m,o.guard=none/\qX o.op=true)->∀Q:Act->Prop,(∀a1,ER φ nt e1 a1->a1.defers=a.defers->Q a1)->jG P ops (l.take m) a Q)/\
   ∀w1,Cls base w0 φ H.bs w w1->∀a,ER φ nt e a->∀Q:Act->Prop,(∀a1,ER φ nt e1 a1->a1.defers=a.defers->Q a1)->wpStill P ops w1 Q (l.take m) a):=by
 intro l;induction l with
 |nil=>
  intro hl i q e e' H' h;simp only[L6]at h;split at h
  next hB=>cases h;exact .inl ⟨hB,rfl,fun a u Q J=>J a u rfl⟩
  .cases h
 |cons o l ih=>
  intro hl i q e e' H' h;obtain⟨a4,D⟩:=aX z (hl o sM);have b0:∀o∈l,o∈ops.toList:=fun o ho=>hl o (by simp [ho]);have c4:=h;simp only[L6]at h;split at h
  .cases h
  rename_i b5;have E:ak ops e o=false:=by simpa using b5
  split at h
  .rename_i hw;split at h
   .rename_i v W;cases hc:isCall o.op with
    |false=>
     rw[hc,aen]at h;rcases ih b0 h with⟨hB,hH,hq⟩|⟨m,e1,a3,hB,hr,b6,b2⟩
     .refine .inl ⟨hB,hH,fun a u Q J=>?_⟩;obtain⟨v',hv,O⟩:=jz hW u a4 hc W;unfold wpQuiet;rw[cA (by rw[<-u.wanted ops o (Z1 z) E];exact hw)];refine⟨v',fun w1 I=>?_,hq _ (u.put D hv) Q (fun a' X h2=>J a' X (by rw[h2,R6]))⟩;unfold Oper.quietAt;rw[O w1 I];exact⟨rfl,rfl⟩
     .refine .inr ⟨m+1,e1,a3,by rw[show i+(m+1)=i+1+m from oM];exact hB,by simpa using hr,fun a u hP Q J=>?_,fun w1 I a u Q J=>?_⟩
      .have a7:=hP o sM;obtain⟨v',hv,O⟩:=Mk hW u a4 a7.2 W;simp only[abl];refine⟨v',.inl ⟨by rw[<-u.wanted ops o (Z1 z) E];exact hw,O⟩,?_⟩;exact b6 _ (u.put D hv) (fun o' c3=>hP o' (by simp [c3])) Q (fun a' X h2=>J a' X (by rw[h2,R6]))
      obtain⟨v',hv,O⟩:=jz hW u a4 hc W;simp only[abl];unfold wpStill;rw[cA (by rw[<-u.wanted ops o (Z1 z) E];exact hw)];unfold Oper.still;rw[O w1 I,Oper.stillUpon_value];exact b2 w1 I _ (u.put D hv) Q (fun a' X h2=>J a' X (by rw[h2,R6]))
    |true=>
     rw[hc,acq]at h;rcases ih b0 h with⟨hB,hH,hq⟩|⟨m,e1,a3,_⟩
     .refine .inl ⟨hB,hH,fun a u Q J=>?_⟩;obtain⟨c,f,g,first,b3,ho,a5,hf,a9⟩:=aD hc W;obtain⟨b7,a6,b9,a8⟩:=jq u a4 ho a5 hf;obtain⟨b8,_,c0,b1⟩:=hC _ _ _ _ _ a9;unfold wpQuiet;rw[cA (by rw[<-u.wanted ops o (Z1 z) E];exact hw)];refine⟨v,fun w1 I=>?_,hq _ (u.put D (VR.na (c0 rfl))) Q (fun a' X h2=>J a' X (by rw[h2,R6]))⟩;unfold Oper.quietAt;rw[dK a5 (ty:=o.type) b9 b8 ho];have b4:=b1 φ w1 _ a8 I.wr;simp only[aa0]at b4;exact⟨rfl,b4.mono fun en w2 a2=>⟨a2.1,I.trans a2.2⟩⟩
     .cases a3
   .rename_i v H2 W;split at h
    next U=>simp only[gk,abo]at U;refine .inr ⟨0,e,U.1,U.2,?_,fun a u _ Q J=>J a u rfl,fun w1 _ a u Q J=>J a u rfl⟩;simp only[aan,D7,bt b5,hw,aab,W];exact h
    .cases h
   .cases h
  .rename_i hw;rcases ih b0 h with⟨hB,hH,hq⟩|⟨m,e1,a3,hB,hr,b6,b2⟩
   .refine .inl ⟨hB,hH,fun a u Q J=>?_⟩;unfold wpQuiet;rw[bt (by rw[<-u.wanted ops o (Z1 z) E];exact hw)];exact hq _ (u.put D (VR.undef' φ)) Q (fun a' X h2=>J a' X (by rw[h2,R6]))
   .refine .inr ⟨m+1,e1,a3,by rw[show i+(m+1)=i+1+m from oM];exact hB,by simpa using hr,fun a u hP Q J=>?_,fun w1 I a u Q J=>?_⟩
    .have a7:=hP o sM;exact absurd (by simp [F0,a7.1]) hw
    simp only[abl];unfold wpStill;rw[bt (by rw[<-u.wanted ops o (Z1 z) E];exact hw)];exact b2 w1 I _ (u.put D (VR.undef' φ)) Q (fun a' X h2=>J a' X (by rw[h2,R6]))
def KY(E:lV P base w0 C):∀{l:List Oper}{i:Nat}{q:Bool}{e e':Env}{H H':d7},L6 P C ops i q l e H=some (e',H')->Le H H':=by
 intro l;induction l with
 |nil=>
  intro i q e e' H H' h;simp only[L6]at h;split at h
  .cases h;exact Le.refl _
  .cases h
 |cons o l J=>
  intro i q e e' H H' h;simp only[L6]at h;split at h
  .cases h
  split at h
  .split at h
   .exact J h
   .rename_i v H2 D;split at h
    .refine Le.trans ?_ (cg E h);cases I:isCall o.op with
     |false=>exact nN I D
     |true=>
      obtain⟨c,f,g,first,z,_,_,_,u⟩:=aD I D;exact(E _ _ _ _ _ u).2.1 _ rfl
    .cases h
   .cases h
  .exact J h
def Ae(hm:P.follows .mixedOrders=true)(hC:lV P base w0 C)(J:io nt ops=true){Q:Exit->Act->World->Prop}{e e':Env}(id:Nat)
  (h:L6 P C ops 0 false ops.toList e H=some (e',H')) (hE:ER φ nt e a) (hW:WR base w0 φ H.bs w) (hp:jJ base w0 φ H w nt a.defers e' H' (Q .normal)):(Code.region id ops true).wp P Q a w:=by
 have E:Cls base w0 φ H.bs w {w with drawn:=w.drawn+1}:=hW.cls.drew;rcases Af hC J hW (fun o ho=>ho) h with⟨O,rfl,hq⟩|⟨m,e1,_,O,hr,a8,a9⟩
 .refine wp_region_quiet (C:=Cls base w0 φ H'.bs w) hm O E (hq a hE _ fun a' a7 hd w' hc=>?_);exact hp φ a' w' (Ext.refl φ) a7 hc.wr (fun b B l _ u z D=>hc.same b B l u z D) hd
 .have D:ops=ops.toList.toArray:=sM;rw[aaH,Dc,aa4]at O;rcases O with O|O
  .have:=wp_region_still_tail (P:=P) (id:=id) (Q:=Q) (a:=a) (w:=w) (l:=ops.toList) m hm (by rw[<-D];exact O) (by
    rw[<-D];refine a9 _ E a hE _ fun a1 U a3=>?_;refine Z3 hC J (fun o ho=>acn ho) hr U E.wr ?_;intro φ2 a2 w2 a5 W X I a4;exact hp φ2 a2 w2 a5 W X (fun b B l hb u z D=>(I b B l hb u z D).trans (E.same b B l u z D)) (a4.trans a3))
   rw[<-D]at this;exact this
  .have a6:∀o∈ops.toList.take m,o.guard=none/\qX o.op=true:=by
    have:=O;simp only[pureTailB,gk,aaB]at this;intro o ho;have:=this.1.2 o ho;exact⟨by simpa using this.1,this.2⟩
   have:=rP (P:=P) (id:=id) (Q:=fun x a w=>x= .normal/\Q .normal a w) (a:=a) (w:=w) (l:=ops.toList) m hm (by rw[<-D];exact O) (fun c a w q=>by cases q.1) (by
    rw[<-D];refine a8 a hE a6 _ fun a1 U a3=>?_;refine Z3 hC J (fun o ho=>acn ho) hr U E.wr ?_;intro φ2 a2 w2 a5 W X I a4;exact⟨rfl,hp φ2 a2 w2 a5 W X (fun b B l hb u z D=>(I b B l hb u z D).trans (E.same b B l u z D)) (a4.trans a3)⟩)
   rw[<-D]at this;exact Code.wp_mono (fun x a w q=>by obtain⟨rfl,q⟩:=q;exact q) this
def PZ(E:lV P base w0 C){o:Oper}(h:aop P C o.op e H=some (v,r)):Le H (r.getD H):=by
 cases r with
 |none=>exact Le.refl _
 |some H2=>
  cases D:isCall o.op with
  |false=>exact nN D h
  |true=>
   obtain⟨c,f,g,first,z,_,_,_,u⟩:=aD D h;exact(E _ _ _ _ _ u).2.1 _ rfl
def FC(I:lV P base w0 C):∀{l:List (Oper×Nat×Nat)}{t:Nat}{D:List (Nat×d7)}{u:List (Op×Env×aet×Nat)}{e e':Env}{H H':d7},M0 P C ops t D u l e H=some (e',H')->Le H H':=by
 intro l;induction l with
 |nil=>intro t D u e e' H H' h;simp only[M0,aaa,aah]at h;rw[h.2];exact Le.refl _
 |cons o l z=>
  obtain⟨o,lo,J⟩:=o;intro t D u e e' H H' h;simp only[M0]at h;split at h
  .cases h
  split at h
  .split at h
   .split at h
    .rename_i v r E;split at h
     .exact(PZ I E).trans (z h)
     .cases h
    .cases h
   .split at h
    .split at h
     .split at h
      .exact z h
      .cases h
     .exact z h
    .cases h
  .split at h
   .exact z h
   .exact z h
def Hj(u:lV P base w0 C){e e':Env}(h:bS P C ops e H=some (e',H')):Le H H':=by
 unfold bS at h;split at h
 .split at h
  .exact FC u h
  .cases h
 .exact KY u h
def xq(J:P.follows .mixedOrders=true)(D:au P C)(u:io nt ops=true){Q:Exit->Act->World->Prop}{e e':Env}(id:Nat)
  (h:bS P C ops e H=some (e',H')) (E:ER φ nt e a) (I:WR base w0 φ H.bs w) (O:jJ base w0 φ H w nt a.defers e' H' (Q .normal)):(Code.region id ops true).wp P Q a w:=by
 unfold bS at h;split at h
 .split at h
  next z=>exact EU J D u z id h E I O
  .cases h
 .exact Ae J (D base w0) u id h E I O
def Le.kill(H:d7)(b:Nat):Le H (H.put b .dead):=Le.put _ _ _
def GO(ops:Array Oper):List Nat->Array Bool->Prop
 |[],listed=>Region.ready .any ops listed=[]
 |i::is,listed=>Region.ready .any ops listed=[i]/\GO ops is (listed.setIfInBounds i true)
def kE{Q:Exit->Act->World->Prop}:∀(is:List Nat)(i:Nat)(o:Oper)(z:List Oper)(u:Array Bool)(a:Act)(w:World),ops[i]?=some o->is.map (ops[·]?)=z.map some->GO ops is u->wpList P ops Q (o::z) a w->wpOp P ops Q i (wpAny P .any ops Q is.length u) a w
 |is,i,o,z,u,a,w,ho,hos,hc,h=>by
  have key:∀a w,wpList P ops Q z a w->wpAny P .any ops Q is.length u a w:=fun a w I=>by
   cases is with
   |nil=>
    cases z with
    |nil=>exact⟨hc,I⟩
    |cons J z=>simp at hos
   |cons j is=>
    cases z with
    |nil=>simp at hos
    |cons J z=>
     simp only[aaQ,acB]at hos;refine⟨fun q=>(by rw[hc.1]at q;cases q),fun k E=>?_⟩;rw[hc.1,aad]at E;subst E;exact kE is k J z _ a w hos.1 hos.2 hc.2 I
  unfold wpOp;simp only[ho];unfold wpList at h;split
  next D=>rw[cA D]at h;exact h.imp (Oper.wp_mono key) id
  next D=>rw[bt D]at h;exact key _ _ h
def M9(h:gR ops l u=true):Region.ready .any ops l.toArray=u:=dT h
def zQ(hm:P.follows .mixedOrders=true)(hC:lV P base w0 C){ops:Array Oper}(E:ops.toList=[D,U,W,X])(hB:Cr ops=true)(I:io nt ops=true){Q:Exit->Act->World->Prop}{e e1 e2:Env}(id:Nat)
  (h1:D7 P C ops [D,U,W,X] e H=some (e1,H1)) (h2:D7 P C ops [D,W,U,X] e H=some (e2,H2)) (hE:ER φ nt e a) (hW:WR base w0 φ H.bs w)
  (b9:jJ base w0 φ H w nt a.defers e1 H1 (Q .normal)) (c0:jJ base w0 φ H w nt a.defers e2 H2 (Q .normal)):(Code.region id ops true).wp P Q a w:=by
 have c3:ops.size=4:=by have:=congrArg List.length E;simpa using this
 have g0:ops[0]?=some D:=by rw[<-abj,E];rfl
 have g1:ops[1]?=some U:=by rw[<-abj,E];rfl
 have g2:ops[2]?=some W:=by rw[<-abj,E];rfl
 have g3:ops[3]?=some X:=by rw[<-abj,E];rfl
 unfold Cr at hB;rw[E]at hB;simp only[gk,xo]at hB;obtain⟨⟨⟨⟨⟨⟨⟨⟨⟨⟨k0,k1⟩,k2⟩,k3⟩,hg⟩,r0⟩,r1⟩,r2⟩,r3⟩,r4⟩,r5⟩:=hB;have m0:D∈ops.toList:=by rw[E];simp
 obtain⟨b0,a8⟩:=aX I m0;have hc:isCall D.op=false:=by
  cases hq:D.op with
  |alloc t=>rfl
  |_=>rw[hq]at k0;cases k0
 have a5:Cls base w0 φ H.bs w {w with drawn:=w.drawn+1}:=hW.cls.drew;have b1:ak ops e D=false:=by simp [ak,hg]
 have b2:F0 ops e D=true:=by simp [F0,hg]
 refine aem hm ?_;rw[c3];refine⟨fun q=>?_,fun i hi=>?_⟩
 .have:=M9 r0;rw[show(Array.replicate 4 false:Array Bool)=[false,false,false,false].toArray from rfl,this]at q;cases q
 rw[show(Array.replicate 4 false:Array Bool)=[false,false,false,false].toArray from rfl,M9 r0,aad]at hi;subst hi;rw[show((Array.replicate 4 false:Array Bool).setIfInBounds 0 true)=[true,false,false,false].toArray from rfl];simp only[D7,b1,b2,aab,bF]at h1 h2;have rest:∀(v:aet)(Hx:d7)(v':aet)(w':World)(φ':List Loc),Le H Hx->D7 P C ops [U,W,X] (L7 e D.dst v) Hx=some (e1,H1)->D7 P C ops [W,U,X] (L7 e D.dst v) Hx=some (e2,H2)->Ext φ φ'->VR φ' v v'->WR base w0 φ' Hx.bs w'->Fr φ H.bs Hx.low w w'->
   wpAny P .any ops Q 3 [true,false,false,false].toArray (a.put D.dst v') w':=by
  intro v Hx v' w' φ' b8 q1 q2 hx hv O a6;have a7:=(hE.mono hx).put a8 hv;have b6:(a.put D.dst v').defers=a.defers:=R6 _ _ _;have a4:∀{e3:Env}{H3:d7}{l:List Oper},D7 P C ops l (L7 e D.dst v) Hx=some (e3,H3)->jJ base w0 φ H w nt a.defers e3 H3 (Q .normal)->jJ base w0 φ' Hx w' nt (a.put D.dst v').defers e3 H3 (Q .normal):=by
   intro e3 H3 l hr hp φ2 a2 w2 c4 b4 b5 a9 b7;exact hp φ2 a2 w2 (hx.trans c4) b4 b5 (Fr.trans hx b8 (cg hC hr) hW.len a6 a9) (b7.trans b6)
  have L1:=Z3 hC I (Q:=Q) (l:=[U,W,X]) (fun o ho=>by rw[E];simp only[aam,abf,aco]at ho ⊢;exact .inr ho) q1 a7 O (a4 q1 b9);have L2:=Z3 hC I (Q:=Q) (l:=[W,U,X]) (fun o ho=>by rw[E];simp only[aam,abf,aco]at ho ⊢;rcases ho with h|h|h<;>simp [h]) q2 a7 O (a4 q2 c0);refine⟨fun q=>(by rw[M9 r1]at q;cases q),fun i hi=>?_⟩;rw[M9 r1]at hi;simp only[aam,abf,aco]at hi;rcases hi with rfl|rfl
  .exact kE [2,3] 1 U [W,X] _ _ _ g1 (by simp [g2,g3]) ⟨M9 r2,M9 r4,M9 r5⟩ L1
  .exact kE [1,3] 2 W [U,X] _ _ _ g2 (by simp [g1,g3]) ⟨M9 r3,M9 r4,M9 r5⟩ L2
 have b3:Region.wanted D (yielded ops a.tmps)=true:=by rw[<-hE.wanted ops D (Z1 I) b1];exact b2
 unfold wpOp;simp only[g0,b3,aab]
 left
 have a1:=a5.wr;cases J:aop P C D.op e H with
 |none=>rw[J]at h1;cases h1
 |some z=>
  obtain⟨v,r⟩:=z;rw[J]at h1 h2;cases r with
  |none=>
   obtain⟨v',hv,u⟩:=jz a1 hE b0 hc J;unfold Oper.wp;rw[u _ a1.cls,ab9];exact rest v H v' _ φ (Le.refl H) h1 h2 (Ext.refl φ) hv a1 (fun b B l _ hB hd E=>a5.same b B l hB hd E)
  |some H3=>
   obtain⟨v',w',φ',u,hx,hv,O,a6⟩:=vQ a1 hE b0 hc J;have a3:Fr φ H.bs H3.low w w':=fun b B l hb hB hd E=>(a6 b B l hb hB hd E).trans (a5.same b B l hB hd E);unfold Oper.wp;rcases u with u|⟨u,rfl⟩
   .rw[u,ab9];exact rest v H3 v' w' φ' (nN hc J) h1 h2 hx hv O a3
   .rw[u,aej];exact rest v H3 undef w' φ' (nN hc J) h1 h2 hx hv O a3
def Out.exit':Out->Exit
 | .normal=> .normal
 | .exit id=> .exit id
 | .ret=> .ret
def no{a b:Code}(h:tp a b=some z):∃id ops u D E I,a= .region id ops true/\ops.toList=[u,D,E,I]/\Cr ops=true/\z=⟨ops,[u,D,E,I],[u,E,D,I],ops.toList.filterMap (·.dst)++eA b⟩:=by
 unfold tp at h;split at h
 .rename_i id ops;split at h
  .rename_i u D E I O;split at h
   next J=>exact⟨id,ops,u,D,E,I,rfl,O,J,(aal h).symm⟩
   .cases h
  .cases h
 .cases h
def KU{a b:Code}(h:tp a b=some z):z.ds=eA a++eA b:=by
 obtain⟨id,ops,u,D,E,I,rfl,_,_,rfl⟩:=no h;rfl
def Y1{n:Nat}(h:HR ds e n x y=some (o,e',H')):
  ∃z u D H2,x=some (.normal,z,u)/\y=some (.normal,D,H2)/\Q5 n u=Q5 n H2/\o= .normal/\e'=ds.map (fun d=>(d,lost))++e/\H'=Q5 n u:=by
 unfold HR at h;split at h
 .rename_i z u D H2;split at h
  next E=>simp only[aaa,aah]at h;exact⟨z,u,D,H2,rfl,rfl,E,h.1.symm,h.2.1.symm,h.2.2.symm⟩
  .cases h
 .cases h
def lF(n:Nat)(H:d7):Le H (Q5 n H):=(Le.kill H n).trans (Le.kill _ _)
def Kg{H:d7}(h:WR base w0 φ H.bs w)(n:Nat):WR base w0 φ (Q5 n H).bs w:=(h.kill n).kill (n+1)
def X8{e:Env}(h:d≠some t):(L7 e d v).g t=e.g t:=by
 cases d with
 |none=>rfl
 |some d=>simp only[L7,Env.g];rw[bt (fun q=>h (by rw[q]))]
def kC:∀{l:List Oper}{e e':Env}{H H':d7},(∀o∈l,o.dst≠some t)->D7 P C ops l e H=some (e',H')->e'.g t=e.g t:=by
 intro l;induction l with
 |nil=>intro e e' H H' _ h;cases h;rfl
 |cons o l D=>
  intro e e' H H' E h;have z:=E o sM;have u:∀o∈l,o.dst≠some t:=fun o I=>E o (by simp [I]);simp only[D7]at h;split at h
  .cases h
  split at h
  .split at h
   .rw[D u h,X8 z]
   .rw[D u h,X8 z]
   .cases h
  .rw[D u h,X8 z]
def yM:∀{l:List Oper}{i:Nat}{q:Bool}{e e':Env}{H H':d7},(∀o∈l,o.dst≠some t)->L6 P C ops i q l e H=some (e',H')->e'.g t=e.g t:=by
 intro l;induction l with
 |nil=>
  intro i q e e' H H' _ h;simp only[L6]at h;split at h
  .cases h;rfl
  .cases h
 |cons o l E=>
  intro i q e e' H H' D h;have z:=D o sM;have u:∀o∈l,o.dst≠some t:=fun o I=>D o (by simp [I]);simp only[L6]at h;split at h
  .cases h
  split at h
  .split at h
   .rw[E u h,X8 z]
   .split at h
    .rw[kC u h,X8 z]
    .cases h
   .cases h
  .rw[E u h,X8 z]
def BD:∀{l:List (Oper×Nat×Nat)}{i:Nat}{I:List (Nat×d7)}{z:List (Op×Env×aet×Nat)}{e e':Env}{H H':d7},(∀o∈l,o.1.dst≠some t)->M0 P C ops i I z l e H=some (e',H')->e'.g t=e.g t:=by
 intro l;induction l with
 |nil=>intro i I z e e' H H' _ h;simp only[M0,aaa,aah]at h;rw[h.1]
 |cons o l E=>
  obtain⟨o,lo,O⟩:=o;intro i I z e e' H H' J h;have D:o.dst≠some t:=J (o,lo,O) sM;have u:∀o∈l,o.1.dst≠some t:=fun o U=>J o (by simp [U]);simp only[M0]at h;split at h
  .cases h
  split at h
  .split at h
   .split at h
    .split at h
     .rw[E u h,X8 D]
     .cases h
    .cases h
   .split at h
    .split at h
     .split at h
      .rw[E u h,X8 D]
      .cases h
     .rw[E u h,X8 D]
    .cases h
  .split at h
   .rw[E u h,X8 D]
   .rw[E u h,X8 D]
def Ed{ops:Array Oper}{e e':Env}(u:∀o∈ops.toList,o.dst≠some t) (h:bS P C ops e H=some (e',H')):e'.g t=e.g t:=by
 unfold bS at h;split at h
 .split at h
  .refine BD (fun o z=>?_) h;obtain⟨q,D,rfl⟩:=aau.1 z;exact u q.1 (List.fst_mem_of_mem_zipIdx D)
  .cases h
 .exact yM u h
def pV{α:Type}(v:aet):∀(ds:List Nat)(e:Env)(t:Nat),Env.g (ds.map (fun d=>(d,v))++e) t=if t∈ds then v else e.g t
 |[],e,t=>by simp
 |d::ds,e,t=>by
  simp only[aaQ,aax,Env.g,pV (α:=α) v ds e t,aam];by_cases h:d=t
  .subst h;simp
  .rw[bt h];have:¬t=d:=fun q=>h q.symm;simp [this]
def Ht:∀{k:Nat}{c:Code}{e e':Env}{H H':d7}{o:Out},t∉eA c->N4 P C k c e H=some (o,e',H')->e'.g t=e.g t:=by
 intro k;induction k with
 |zero=>intro c e e' H H' o _ h;cases h
 |succ k E=>
  intro c e e' H H' o u h;cases c<;>simp only[N4]at h
  case skip=>cases h;rfl
  case ret=>cases h;rfl
  case exit=>cases h;rfl
  case region id ops I=>
   have D:∀o∈ops.toList,o.dst≠some t:=fun o W q=>u (adA.2 ⟨o,W,q⟩);cases I
   .simp only[bF]at h;split at h
    next O=>cases h;exact kC D O
    .cases h
   .simp only[aab]at h;split at h
    next O=>cases h;exact Ed D O
    .cases h
  case seq x y=>
   simp only[eA,ns,adB]at u;split at h
   .rename_i z X;split at h
    .obtain⟨e3,H3,e4,H4,q1,q2,q3,rfl,rfl,rfl⟩:=Y1 h;rw[pV (α:=Nat),bt];rw[KU X];exact fun q=>(ns.1 q).elim u.1 u.2
    .cases h
   .split at h
    next U H2 J=>rw[E u.2 h,E u.1 J]
    .exact E u.1 h
  case cond x y z=>
   simp only[eA,ns,adB]at u;split at h
   .rename_i b _;cases b
    .exact E u.2 h
    .exact E u.1 h
   .cases h
  case block id x=>
   simp only[eA]at u;split at h
   next i U H2 J=>split at h<;>(cases h;exact E u J)
   .exact E u h
  case loop x=>
   have D:t∉eA x:=u;split at h
   next U H2 J=>rw[E (c:= .loop x) u h,E D J]
   .exact E D h
  case scope x=>exact E (c:=x) u h
  all_goals cases h
def R1(J:lV P base w0 C):∀{k:Nat}{c:Code}{e e':Env}{H H':d7}{o:Out},N4 P C k c e H=some (o,e',H')->Le H H':=by
 intro k;induction k with
 |zero=>intro c e e' H H' o h;cases h
 |succ k u=>
  intro c e e' H H' o h;cases c<;>simp only[N4]at h
  case skip=>cases h;exact Le.refl _
  case ret=>cases h;exact Le.refl _
  case exit=>cases h;exact Le.refl _
  case region id ops D=>
   cases D
   .simp only[bF]at h;split at h
    next O=>cases h;exact cg J O
    .cases h
   .simp only[aab]at h;split at h
    next O=>cases h;exact Hj J O
    .cases h
  case seq x y=>
   split at h
   .split at h
    next z hz _ e1 H1 I H2 U W=>obtain⟨e3,H3,e4,H4,X,q2,q3,rfl,rfl,rfl⟩:=Y1 h;exact(cg J U).trans ((u X).trans (lF _ _))
    .cases h
   .split at h
    next I H2 E=>exact(u E).trans (u h)
    .exact u h
  case cond x y z=>
   split at h
   .exact u h
   .cases h
  case block id x=>
   split at h
   next i I H2 E=>split at h<;>(cases h;exact u E)
   .exact u h
  case loop x=>
   split at h
   next I H2 E=>exact(u E).trans (u h)
   .exact u h
  case scope x=>exact u h
  all_goals cases h
def uJ(r:Option Nat):Fence:={Fence.wide with round:=r}
def CS{o:Oper}{l n:Nat}{K:Act->World->Prop}{Q:Exit->Act->World->Prop}{a:Act}{w:World}(u:lO o.op=true)(h:o.wp P a w K Q):o.wpIn (uJ (some l)) n P a w K Q:=by
 refine⟨fun _ _=>trivial,?_⟩;rw[Oper.semAt_plain _ _ _ (fun c E=>by rw[E]at u;cases u)];unfold Oper.wp at h;generalize (execOp a.eval o).run P w=r at h;cases r with
 |ok x J=>
  cases x<;>simp only[Oper.upon,Oper.uponIn]at h ⊢ <;>first|exact h|skip
  .exact⟨fun q=>(by cases q),(CallsIn.inRound l (callsIn_wide.2 h)).mono fun e w2 I=>by cases e<;>exact I⟩
  .refine⟨fun q=>(by cases q),fun c cs _=>?_⟩;obtain⟨v,w2,z,D⟩:=h c cs;exact⟨v,w2,z,stepsIn_wide.2 D⟩
 |halt x J=>cases x<;>simp only[Oper.upon,Oper.uponIn]at h ⊢ <;>exact h
def Cx{l n:Nat}{Q:Exit->Act->World->Prop}(D:¬LetsOut Q):∀{z:List Oper}{a:Act}{w:World},(∀o∈z,lO o.op=true)->wpList P ops Q z a w->wpListIn (uJ (some l)) n P ops Q z a w
 |[],a,w,_,h=>h
 |o::z,a,w,hd,h=>by
  unfold wpList at h;unfold wpListIn;have u:∀o∈z,lO o.op=true:=fun o I=>hd o (by simp [I]);split
  .rename_i E;rw[cA E]at h;rcases h with h|h
   .exact Oper.wpIn_mono (fun a w q=>Cx D u q) (CS (hd o sM) h)
   .exact absurd h.2 D
  next E=>rw[bt E]at h;exact⟨fun _ _=>trivial,Cx D u h⟩
def mm{ops:Array Oper}{l n:Nat}{Q:Exit->Act->World->Prop}(E:¬LetsOut Q)(D:∀o∈ops.toList,lO o.op=true):∀(u:Nat)(z:Array Bool)(a:Act)(w:World),wpAny P .any ops Q u z a w->wpAnyIn (uJ (some l)) n P .any ops Q u z a w
 |0,_,_,_,h=>h
 |u+1,z,a,w,h=>by
  refine⟨h.1,fun i O=>?_⟩;have:=h.2 i O;unfold wpOp at this;unfold wpOpIn;cases I:ops[i]? with
  |none=>rw[I]at this;exact mm E D u _ _ _ this
  |some o=>
   rw[I]at this;simp only at this ⊢;split
   .rename_i J;rw[cA J]at this;rcases this with h|h
    .exact Oper.wpIn_mono (fun a w q=>mm E D u _ _ _ q) (CS (D o (Array.mem_toList_iff.2 (Array.mem_of_getElem? I))) h)
    .exact absurd h.2 E
   next J=>rw[bt J]at this;exact⟨fun _ _=>trivial,mm E D u _ _ _ this⟩
def Cz(hm:P.follows .mixedOrders=true)(hC:au P C){r:Option Nat}{n:Nat}:∀{k:Nat}{c:Code}{φ:List Loc}{e e':Env}{H H':d7}{o:Out}{a:Act}{w:World}{Q:Exit->Act->World->Prop},
  (r.isSome=true->I1 c=true)->L3 nt c=true->N4 P C k c e H=some (o,e',H')->ER φ nt e a->WR base w0 φ H.bs w->jJ base w0 φ H w nt a.defers e' H' (Q o.exit')->c.wpIn (uJ r) n P Q a w/\∀x,c= .loop x->Code.roundsIn (uJ r) n P x Q k a w:=by
 intro k;induction k with
 |zero=>intro c φ e e' H H' o a w Q a1 u h;cases h
 |succ k d1=>
  intro c φ e e' H H' o a w Q a1 u h W hW U;have ih:=fun{c φ e e' H H' o a w Q}(h0:r.isSome=true->I1 c=true)(h1:L3 nt c=true) h2(h3:ER φ nt e a)(h4:WR base w0 φ H.bs w) h5=>(d1 (c:=c) (e:=e) (e':=e') (H:=H) (H':=H') (o:=o) (Q:=Q) h0 h1 h2 h3 h4 h5).1;by_cases a7:∃x,c= .loop x
  .obtain⟨x,rfl⟩:=a7;have c8:=u;simp only[L3]at u;simp only[N4]at h;have b4:r.isSome=true->I1 x=true:=a1;have a6:Code.roundsIn (uJ r) n P x Q (k+1) a w:=by
    rw[roundsIn_succ];split at h
    next e2 H2 h1=>refine ih b4 u h1 W hW ?_;intro φ' a' w' O E I D hd;refine(d1 (c:= .loop x) (Q:=Q) a1 c8 h E I ?_).2 x rfl;intro φ2 a2 w2 a5 X a3 J a4;exact U φ2 a2 w2 (O.trans a5) X a3 (Fr.trans O (R1 (hC base w0) h1) (R1 (hC base w0) h) hW.len D J) (a4.trans hd)
    .rename_i a9;refine ih b4 u h W hW ?_;intro φ' a' w' O E I D hd;have:=U φ' a' w' O E I D hd;cases o with
     |normal=>exact absurd h (a9 e' H')
     |exit id=>exact this
     |ret=>exact this
   exact⟨wpIn_loop_rounds (k+1) a6,fun y hy=>by cases hy;exact a6⟩
  refine⟨?_,fun x O=>absurd ⟨x,O⟩ a7⟩;have b0:∀{o:Out}{e:Env},jJ base w0 φ H w nt a.defers e H (Q o.exit')->ER φ nt e a->Q o.exit' a w:=fun U W=>U φ a w (Ext.refl φ) W hW (lq H) rfl;have b1:∀{H2:d7}{φ':List Loc}{a':Act}{w':World}{K:Act->World->Prop},Le H H2->Le H2 H'->Ext φ φ'->Fr φ H.bs H2.low w w'->a'.defers=a.defers->jJ base w0 φ H w nt a.defers e' H' K->jJ base w0 φ' H2 w' nt a'.defers e' H' K:=by
   intro H2 φ' a' w' K d6 e7 O D hd U φ2 a2 w2 a5 X a3 J a4;exact U φ2 a2 w2 (O.trans a5) X a3 (Fr.trans O d6 e7 hW.len D J) (a4.trans hd)
  cases c<;>simp only[N4]at h
  case skip=>cases h;exact wpIn_skip (b0 (o:= .normal) U W)
  case ret=>cases h;exact wpIn_ret (b0 (o:= .ret) U W)
  case exit id=>cases h;exact wpIn_exit (b0 (o:= .exit id) U W)
  case region id ops b3=>
   simp only[L3]at u;cases r with
   |none=>
    refine ado.2 ?_;cases b3
    .simp only[bF]at h;split at h
     next hr=>cases h;exact wp_region_list (Z3 (hC base w0) u (fun o ho=>ho) hr W hW U)
     .cases h
    .simp only[aab]at h;split at h
     next hr=>cases h;exact xq hm hC u id hr W hW U
     .cases h
   |some l=>
    have b2:=a1 rfl;simp only[I1,gk,aaB]at b2;refine Code.wpIn_mono (Q:=fun x a w=>x= .normal/\Q .normal a w) (fun x a w q=>by obtain⟨rfl,q⟩:=q;exact q) ?_;have c7:¬LetsOut (fun x(a:Act) w=>x=Exit.normal/\Q .normal a w):=fun⟨_,_,q⟩=>by cases q.1
    cases b3
    .simp only[bF]at h;split at h
     next hr=>cases h;exact wpIn_region_list (Cx c7 b2.1 (Z3 (hC base w0) u (fun o ho=>ho) hr W hW fun φ2 a2 w2 a5 X a3 J a4=>⟨rfl,U φ2 a2 w2 a5 X a3 J a4⟩))
     .cases h
    .simp only[aab]at h;have a8:=b2.2;simp only[abd,abA,gk]at a8;split at h
     next hr=>cases h;unfold bS at hr;rw[cA a8.1,cA a8.2]at hr;exact wpIn_region_any hm (mm c7 b2.1 _ _ _ _ (CN hC u a8.2 hr W hW fun φ2 a2 w2 a5 X a3 J a4=>⟨rfl,U φ2 a2 w2 a5 X a3 J a4⟩))
     .cases h
  case seq x y=>
   simp only[L3,gk]at u;split at h
   .rename_i z hz;have b8:r=none:=by
     cases r with
     |none=>rfl
     |some l=>
      have:=a1 rfl;simp only[I1,hz,Option.isNone_some,abi]at this;cases this
    subst b8;refine ado.2 (wp_seq ?_);obtain⟨id,ops,o0,o1,o2,o3,rfl,hl,hB,rfl⟩:=no hz;split at h
    .rename_i e1 H1 e2 H2 b6 b7;obtain⟨e3,H3,e4,H4,q1,q2,q3,rfl,rfl,rfl⟩:=Y1 h;have l1:=cg (hC base w0) b6;have l2:=cg (hC base w0) b7;have b9:∀{e5 e6:Env}{H5 H6:d7}{l:List Oper},(∀o∈l,o∈ops.toList)->Le H H5->Le H5 (Q5 H.n H3)->(∀t,t∉ops.toList.filterMap (·.dst)->e5.g t=e.g t)->N4 P C k y e5 H5=some (.normal,e6,H6)->Q5 H.n H3=Q5 H.n H6->jJ base w0 φ H w nt a.defers e5 H5 (fun a' w'=>y.wp P Q a' w'):=by
      intro e5 e6 H5 H6 l c6 e8 c5 c4 O hk φ' a' w' d0 E I D hd;refine ado.1 (ih (fun h=>by cases h) u.2 O E I ?_);intro φ2 a2 w2 a5 X a3 J a4;refine U φ2 a2 w2 (d0.trans a5) ⟨X.size,fun t=>?_⟩ (by rw[hk];exact Kg a3 _) ?_ (a4.trans hd)
      .rw[pV (α:=Nat)];by_cases ht:t∈ops.toList.filterMap (·.dst)++eA y
       .rw[cA ht];exact .lost _
       .rw[bt ht];simp only[ns,adB]at ht;rw[<-c4 t ht.1,<-Ht ht.2 O];exact X.val t
      .rw[hk];have c3:Fr φ' H5.bs (Q5 H.n H6).low w' w2:=fun b B l hb d3 d4 d5=>J b B l (aaF hb (lF H.n H6).low) d3 d4 d5;exact Fr.trans d0 e8 (by rw[<-hk];exact c5) hW.len D c3
     have c0:∀{l:List Oper}{e5:Env}{H5:d7},(∀o∈l,o∈ops.toList)->D7 P C ops l e H=some (e5,H5)->∀t,t∉ops.toList.filterMap (·.dst)->e5.g t=e.g t:=fun c6 hr t ht=>kC (fun o ho q=>ht (adA.2 ⟨o,c6 o ho,q⟩)) hr;have m1:∀o∈ [o0,o1,o2,o3],o∈ops.toList:=fun o ho=>by rw[hl];exact ho
     have m2:∀o∈ [o0,o2,o1,o3],o∈ops.toList:=fun o ho=>by rw[hl];simp only[aam,abf,aco]at ho ⊢;rcases ho with h|h|h|h<;>simp [h]
     have c9:io nt ops=true:=u.1;refine zQ hm (hC base w0) hl hB c9 id b6 b7 W hW (b9 m1 l1 ((R1 (hC base w0) q1).trans (lF _ _)) (c0 m1 b6) q1 rfl) (b9 m2 l2 (by rw[q3];exact(R1 (hC base w0) q2).trans (lF _ _)) (c0 m2 b7) q2 q3)
    .cases h
   .rename_i hz;have d2:r.isSome=true->I1 x=true:=fun q=>by have:=a1 q;simp only[I1,gk]at this;exact this.1.2
    have e9:r.isSome=true->I1 y=true:=fun q=>by have:=a1 q;simp only[I1,gk]at this;exact this.2
    refine wpIn_seq ?_;split at h
    next e2 H2 h1=>refine ih d2 u.1 h1 W hW ?_;intro φ' a' w' O E I D hd;exact ih e9 u.2 h E I (b1 (R1 (hC base w0) h1) (R1 (hC base w0) h) O D hd U)
    .rename_i a9;refine ih d2 u.1 h W hW ?_;intro φ' a' w' O E I D hd;have:=U φ' a' w' O E I D hd;cases o with
     |normal=>exact absurd h (a9 e' H')
     |exit id=>exact this
     |ret=>exact this
  case cond x y z=>
   simp only[L3,gk]at u;split at h
   .rename_i t ht;have hv:=W.op u.1.1;rw[ht]at hv;generalize hz:a.eval x=zz at hv;cases hv;have ro:r.isSome=true->I1 y=true/\I1 z=true:=fun q=>by have:=a1 q;simpa only[I1,gk] using this
    refine wpIn_cond hz ?_;cases t
    .exact ih (fun q=>(ro q).2) u.2 h W hW U
    .exact ih (fun q=>(ro q).1) u.1.2 h W hW U
   .cases h
  case block id x=>
   simp only[L3]at u;have ro:r.isSome=true->I1 x=true:=a1;refine wpIn_block ?_;split at h
   .rename_i i e2 H2 h1;split at h
    next b5=>cases h;refine ih ro u h1 W hW ?_;intro φ' a' w' O E I D hd;have:=U φ' a' w' O E I D hd;simp only[Out.exit',Exit.inBlock,cA b5];exact this
    next b5=>cases h;refine ih ro u h1 W hW ?_;intro φ' a' w' O E I D hd;have:=U φ' a' w' O E I D hd;simp only[Out.exit',Exit.inBlock,bt b5];exact this
   .rename_i a9;refine ih ro u h W hW ?_;intro φ' a' w' O E I D hd;have:=U φ' a' w' O E I D hd;cases o with
    |exit id=>exact absurd h (a9 id e' H')
    |normal=>exact this
    |ret=>exact this
  case loop x=>exact absurd ⟨x,rfl⟩ a7
  case scope x=>
   simp only[L3]at u;have b8:r=none:=by
    cases r with
    |none=>rfl
    |some l=>have:=a1 rfl;simp only[I1]at this;cases this
   subst b8;refine ado.2 (wp_scope_straight (ado.1 (ih (fun h=>by cases h) u h W hW ?_)));intro φ' a' w' O E I D hd;have:=U φ' a' w' O E I D hd;cases o<;>exact this
  all_goals cases h
def gB(I:P.follows .mixedOrders=true)(z:au P C){e e':Env}{Q:Exit->Act->World->Prop}
  (u:L3 nt c=true) (h:N4 P C k c e H=some (o,e',H')) (D:ER φ nt e a) (E:WR base w0 φ H.bs w) (J:jJ base w0 φ H w nt a.defers e' H' (Q o.exit')):c.wp P Q a w:=
 ado.1 (Cz (r:=none) (n:=0) I z (fun h=>by cases h) u h D E J).1
def ki(I:P.follows .mixedOrders=true)(z:au P C)(l n:Nat){e e':Env}{Q:Exit->Act->World->Prop}
  (O:I1 c=true) (u:L3 nt c=true) (h:N4 P C k c e H=some (o,e',H')) (D:ER φ nt e a) (E:WR base w0 φ H.bs w) (J:jJ base w0 φ H w nt a.defers e' H' (Q o.exit')):c.wpIn (Fence.wide.inRound l) n P Q a w:=
 (Cz (r:=some l) I z (fun _=>O) u h D E J).1
def tC:∀(u:LV)(i t:Nat),(Q4 i u).g t=if i<=t then(u[t-i]?).getD undef else undef
 |[],i,t=>by simp [Q4,Env.g]
 |v::u,i,t=>by
  simp only[Q4,Env.g];by_cases h:i=t
  .subst h;simp
  .rw[bt h,tC u (i+1) t];by_cases z:i<=t
   .rw[cA z,cA oM,show t-i=(t-(i+1))+1 from oM];simp
   .rw[bt z,bt oM]
def xy{args u:LV}(z:VRs φ args u)(J:args.length<=nt):ER φ nt (Q4 0 args) {tmps:=u.toArray++Array.replicate (nt-u.toArray.size) undef,defers:=[]}:=by
 refine⟨by have:=z.1;simp;omega,fun t=>?_⟩;rw[tC];simp only[aaJ,aab,adY,sW];by_cases h:t<args.length
 .obtain⟨y,I,E⟩:=z.g (i:=t) (x:=args[t]) (by simp [h]);have D:t<u.length:=by rw[<-z.1];exact h
  rw[Array.getElem?_append_left (by simpa using D)];simp only[ab5,I,aa6,yv h];exact E
 .rw[aaM oM];rw[Array.getElem?_append_right (by have:=z.1;simp;omega)];simp only[Option.getD_none,abq];split<;>exact VR.undef' φ
def yJ(tmps:Array aet):ResultVar->Sem aet
 | .tmp t=>pure (tmps.getD t undef)
 | .cell x t=>do loadVar t (<-asAddr (tmps.getD x undef))
def Bw(z:Func)(tmps:Array aet):results z tmps=(z.results.mapM (yJ tmps))>>=fun u=>pure (if h:u.size=1 then u[0] else .tuple u):=by
 unfold results
 congr 1
def yR{H:d7}(hW:WR base w0 φ H.bs w)(hE:ER φ nt e a):∀{I:List ResultVar}{U:LV},I.mapM (N0 P e H)=some U->
  ∃D,VRs φ U D/\(I.mapM (yJ a.tmps)).run P w= .ok D w:=by
 intro I;induction I with
 |nil=>intro U h;simp at h;subst h;exact⟨[],.nil φ,rfl⟩
 |cons r I ih=>
  intro U h;simp only[ab1,adu,ad7]at h;cases u:N0 P e H r with
  |none=>simp [u]at h
  |some v=>
   cases E:I.mapM (N0 P e H)with
   |none=>simp [u,E]at h
   |some a1=>
    simp [u,E]at h;subst h;obtain⟨D,hv,O⟩:=ih E;have J:∃v',VR φ v v'/\(yJ a.tmps r).run P w= .ok v' w:=by
     cases r with
     |tmp t=>simp only[N0,aaa]at u;subst u;exact⟨_,hE.val t,rfl⟩
     |cell x t=>
      simp only[N0]at u;obtain⟨v',W,X⟩:=yf (P:=P) hW u (hE.val x);refine⟨v',W,?_⟩;have h3:=X w hW.cls;have hx:=hE.val x;unfold ld at u;split at u
      next b o hg=>rw[hg]at hx;simp only[yJ];generalize a.tmps.getD x undef=z at hx h3 ⊢;cases hx;simp only[Instr.loadAt,Instr.sureAddr,aac,aai,kB]at h3;simp only[asAddr,aac,aai,kB];exact h3
      .cases u
    obtain⟨v',W,X⟩:=J;refine⟨v'::D,.cons W hv,?_⟩;rw[ab1,aac,X,kB,aac,O,kB];rfl
def nV{E:Func}{H:d7}(X:WR base w0 φ H.bs w)(W:ER φ nt e a)(h:E.results.toList.mapM (N0 P e H)=some O):
  ∃v',VR φ (cU O) v'/\(results E a.tmps).run P w= .ok v' w:=by
 obtain⟨u,J,D⟩:=yR X W h;have hr:(E.results.mapM (yJ a.tmps)).run P w= .ok u.toArray w:=by
  rw[Array.mapM_eq_mapM_toList,Sem.run_map,D];rfl
 refine⟨cU u,?_,?_⟩
 .unfold cU;split
  .obtain⟨y,ys,rfl,I,U⟩:=J.of_cons;rw[U.of_nil];exact I
  .rename_i z;split
   .rename_i v'
    exfalso
    have:=J.1;cases O with
    |nil=>simp at this
    |cons x xs=>cases xs with
     |nil=>exact z x rfl
     |cons _ _=>simp at this
   .exact VR.toTuple J
 .rw[Bw,aac,hr,kB];split
  next I=>obtain⟨v,rfl⟩:=aa2.1 (by simpa using I:u.length=1);rfl
  .rename_i z;have:cU u= .tuple u.toArray:=by
    unfold cU;split
    .exact absurd rfl z
    .rfl
   rw[this];rfl
def WR.back(h:WR base w0 φ S w)(W:WR base w0 φ' X O)(U:Fr φ S E w O)(D:S.length<=E):Cls base w0 φ S w O:=by
 have u:∀(b:Nat) B l,S[b]?=some B->B≠ .dead->φ[b]?=some l->O.heap[l.blk]?=w.heap[l.blk]?:=fun b B l z I J=>
  U b B l (aaF (gS z).1 D) z I J
 refine⟨⟨h.len,W.below,W.size,fun b B l z J=>?_,h.sep⟩,u⟩;by_cases I:B= .dead
 .subst I;trivial
 .exact(h.blk b B l z J).mono (Ext.refl φ) (u b B l z I J)
def LK(g:FuncId)(f:LV->d7->Option (aet×Option d7)):B9:=fun g' args H=>if g'=g then f args H else none
def sS(P:Program)(X:Lib):Prop:=∀g f,X g=some f->au P (LK g f)
def KP(hm:P.follows .mixedOrders=true)(hX:sS P X):∀k,au P (call P X k):=by
 intro k;induction k with
 |zero=>intro base w0 g args H v r h;cases h
 |succ k ih=>
  intro base w0 g args H v r h;simp only[call]at h;split at h
  next f hf=>exact hX g f hf base w0 g args H v r (by simp only[LK,cA];exact h)
  .rename_i a9;unfold body at h;split at h
   rotate_left
   .cases h
   rename_i c nt rs z;unfold fnA at z;split at z
   rotate_left
   .cases z
   rename_i fn U;split at z
   rotate_left
   .cases z
   rename_i c' J;split at z
   rotate_left
   .cases z
   rename_i D;cases z;simp only[gk,bne_iff_ne,ne_eq]at D;split at h
   rotate_left
   .cases h
   rename_i a5;have a2:eO P g:=⟨fn,U,by simpa using D.2,by rw[J];rfl⟩
   split at h
   .cases h
   .rename_i o e' H' a7 a3;split at h
    rotate_left
    .cases h
    rename_i vs a8;have a4:=R1 (ih base w0) a3;unfold E7 at h;have a1:∀(φ:List Loc)(w:World)(u:LV),VRs φ args u->WR base w0 φ H.bs w->Calls P g u.toArray w fun en w'=>∃v' I,en= .returned v'/\Ext φ I/\VR I (cU vs) v'/\WR base w0 I H'.bs w'/\Fr φ H.bs H'.low w w':=by
     intro φ w u ha hW;refine calls_of_wp U J ?_;refine gB (H:=⟨H.bs,H.bs.length⟩) hm ih D.1 a3 (xy ha a5) hW ?_;intro I a' w' hx hE E O hd;obtain⟨v',hv,a6⟩:=nV E hE a8;have:bodyPost P fn (fun en w'=>∃v' I,en= .returned v'/\Ext φ I/\VR I (cU vs) v'/\WR base w0 I H'.bs w'/\Fr φ H.bs H'.low w w') .normal a' w':=⟨hd,v',a6,v',I,rfl,hx,hv,E,O⟩
     cases o with
     |normal=>exact this
     |ret=>exact this
     |exit id=>exact(a7 id rfl).elim
    split at h
    next W=>simp only[aaa,aah]at h;obtain⟨rfl,rfl⟩:=h;simp only[gk,xo]at W;refine⟨a2,fun H' h=>(by cases h),fun _=>W.1,fun φ w u ha hW=>(a1 φ w u ha hW).mono fun en w' hq=>?_⟩;obtain⟨v',I,rfl,hx,hv,E,O⟩:=hq;exact⟨by rw[hv.eq_na W.1],hW.back E O W.2⟩
    .simp only[aaa,aah]at h;obtain⟨rfl,rfl⟩:=h;refine⟨a2,fun H2 h2=>?_,fun h=>(by cases h),fun φ w u ha hW=>(a1 φ w u ha hW).mono fun en w' hq=>?_⟩
     .cases h2;exact⟨ack _ _,a4.len,fun b hb hl=>a4.same b (aaF hb (abB _ _)) hl⟩
     .obtain⟨v',I,h1,hx,hv,E,O⟩:=hq;exact⟨v',I,h1,hx,hv,E,fun b B l hb=>O b B l (aaF hb (abB _ _))⟩
   .cases h
end
def LeO{α:Type}(x y:Option α):Prop:=∀r,x=some r->y=some r
def LeC(C D:B9):Prop:=∀f args H,LeO (C f args H) (D f args H)
def LeO.refl{α:Type}(x:Option α):LeO x x:=fun _ h=>h
section
variable{P:Program}
def zG(h:LeC C D)(e:Env)(c:Call)(H:d7):LeO (iE P C e c H) (iE P D e c H):=by
 intro r z;unfold iE at z ⊢;split
 next b E=>rw[E]at z;exact z
 .rename_i f O;rw[O]at z;simp only at z ⊢;split
  next g first u I=>rw[I]at z;exact h _ _ _ _ z
  .rename_i J;split at z
   next g first u I=>exact absurd I (J _ _ _)
   .exact z
 next E=>rw[E]at z;exact z
def aj(h:LeC C D)(o:Op)(e:Env)(H:d7):LeO (aop P C o e H) (aop P D o e H):=by
 intro r z;by_cases u:∃c,o= .call c
 .obtain⟨c,rfl⟩:=u;exact zG h e c H r z
 .rw[<-z];cases o<;>first|rfl|(exact absurd ⟨_,rfl⟩ u)|(rename_i x;cases x<;>rfl)
def T9(h:LeC C D):∀(l:List Oper)(e:Env)(H:d7),LeO (D7 P C ops l e H) (D7 P D ops l e H):=by
 intro l;induction l with
 |nil=>intro e H r u;exact u
 |cons o l J=>
  intro e H r u;simp only[D7]at u ⊢;by_cases z:ak ops e o=true
  .rw[cA z]at u;cases u
  simp only[bt z]at u ⊢;split
  .rename_i I;rw[cA I]at u;cases E:aop P C o.op e H with
   |none=>simp [E]at u
   |some q=>
    rw[aj h _ _ _ _ E];rw[E]at u;obtain⟨v,q⟩:=q;cases q with
    |none=>exact J _ _ _ u
    |some H'=>exact J _ _ _ u
  next I=>rw[bt I]at u;exact J _ _ _ u
def lY(h:LeC C D):∀(l:List Oper)(i:Nat)(q:Bool)(e:Env)(H:d7),LeO (L6 P C ops i q l e H) (L6 P D ops i q l e H):=by
 intro l;induction l with
 |nil=>intro i q e H r u;exact u
 |cons o l O=>
  intro i q e H r u;simp only[L6]at u ⊢;by_cases z:ak ops e o=true
  .rw[cA z]at u;cases u
  simp only[bt z]at u ⊢;split
  .rename_i J;rw[cA J]at u;cases I:aop P C o.op e H with
   |none=>simp [I]at u
   |some x=>
    rw[aj h _ _ _ _ I];rw[I]at u;obtain⟨v,x⟩:=x;cases x with
    |none=>exact O _ _ _ _ _ u
    |some H'=>
     simp only at u ⊢;split
     next E=>rw[cA E]at u;exact T9 h _ _ _ _ u
     next E=>rw[bt E]at u;exact u
  next J=>rw[bt J]at u;exact O _ _ _ _ _ u
def od(h:LeC C D):∀(l:List (Oper×Nat×Nat))(t:Nat)(O:List (Nat×d7))(z:List (Op×Env×aet×Nat))(e:Env)(H:d7),LeO (M0 P C ops t O z l e H) (M0 P D ops t O z l e H):=by
 intro l;induction l with
 |nil=>intro t O z e H r u;exact u
 |cons o l J=>
  obtain⟨o,lo,hi⟩:=o;intro t O z e H r u;simp only[M0]at u ⊢;by_cases I:ak ops e o=true
  .rw[cA I]at u;cases u
  simp only[bt I]at u ⊢;split
  .rename_i hw;rw[cA hw]at u;split
   .rename_i E;rw[cA E]at u;cases W:aop P C o.op e H with
    |none=>simp [W]at u
    |some x=>
     rw[aj h _ _ _ _ W];rw[W]at u;obtain⟨v,x⟩:=x;simp only at u ⊢;split
     next S=>rw[cA S]at u;exact J _ _ _ _ _ _ u
     next S=>rw[bt S]at u;exact u
   .rename_i E;rw[bt E]at u;split at u
    .rename_i v hv;split at u
     .rename_i U;rw[cA U];split at u
      next hc=>rw[cA hc];exact J _ _ _ _ _ _ u
      .cases u
     next U=>rw[bt U];exact J _ _ _ _ _ _ u
    .cases u
  .rename_i hw;rw[bt hw]at u;split
   next E=>rw[cA E]at u;exact J _ _ _ _ _ _ u
   next E=>rw[bt E]at u;exact J _ _ _ _ _ _ u
def Ad(h:LeC C D)(e:Env)(H:d7):LeO (bS P C ops e H) (bS P D ops e H):=by
 intro r u;unfold bS at u ⊢;split
 .rename_i z;rw[cA z]at u;split
  next E=>rw[cA E]at u;exact od h _ _ _ _ _ _ _ u
  next E=>rw[bt E]at u;exact u
 next z=>rw[bt z]at u;exact lY h _ _ _ _ _ _ u
def iX{e u z:Env}{n:Nat}(E:x=some (.normal,u,h))(I:y=some (.normal,z,H2))(D:Q5 n h=Q5 n H2):
  HR ds e n x y=some (.normal,ds.map (fun d=>(d,lost))++e,Q5 n h):=by
 subst E I;exact cA D
def bW(h:LeC C D):∀(k J:Nat),k<=J->∀(c:Code)(e:Env)(H:d7),LeO (N4 P C k c e H) (N4 P D J c e H):=by
 intro k;induction k with
 |zero=>intro J _ c e H r u;cases u
 |succ k ih=>
  intro J hk c e H r u;obtain⟨J,rfl⟩:∃m,J=m+1:=⟨J-1,oM⟩
  have I:=fun c e H r(u:N4 P C k c e H=some r)=>ih J oM c e H r u;cases c<;>simp only[N4]at u ⊢ <;>try exact u
  case region id ops O=>
   cases O
   .simp only[bF]at u ⊢;cases E:D7 P C ops ops.toList e H with
    |none=>simp [E]at u
    |some x=>rw[T9 h _ _ _ _ E];rw[E]at u;exact u
   .simp only[aab]at u ⊢;cases E:bS P C ops e H with
    |none=>simp [E]at u
    |some x=>rw[Ad h _ _ _ E];rw[E]at u;exact u
  case seq x y=>
   cases hz:tp x y with
   |some z=>
    simp only[hz]at u ⊢;cases S:D7 P C z.ops z.l1 e H with
    |none=>simp [S]at u
    |some q1=>
     cases U:D7 P C z.ops z.l2 e H with
     |none=>simp [S,U]at u
     |some q2=>
      obtain⟨e1,H1⟩:=q1;obtain⟨e2,H2⟩:=q2;rw[S,U]at u;rw[T9 h _ _ _ _ S,T9 h _ _ _ _ U];obtain⟨o,e',H'⟩:=r;obtain⟨e3,H3,e4,H4,g1,g2,g3,rfl,rfl,rfl⟩:=Y1 u;exact iX (I _ _ _ _ g1) (I _ _ _ _ g2) g3
   |none=>
   simp only[hz]at u ⊢;cases E:N4 P C k x e H with
   |none=>simp [E]at u
   |some z=>
    rw[I _ _ _ _ E];rw[E]at u;obtain⟨o,e',H'⟩:=z;cases o with
    |normal=>exact I _ _ _ _ u
    |exit id=>exact u
    |ret=>exact u
  case cond x y z=>
   split
   next t ht=>rw[ht]at u;exact I _ _ _ _ u
   .rename_i W;split at u
    next t ht=>exact absurd ht (W t)
    .exact u
  case block id x=>
   cases E:N4 P C k x e H with
   |none=>simp [E]at u
   |some z=>rw[I _ _ _ _ E];rw[E]at u;exact u
  case loop x=>
   cases E:N4 P C k x e H with
   |none=>simp [E]at u
   |some z=>
    rw[I _ _ _ _ E];rw[E]at u;obtain⟨o,e',H'⟩:=z;cases o with
    |normal=>exact I _ _ _ _ u
    |exit id=>exact u
    |ret=>exact u
  case scope x=>exact I _ _ _ _ u
def mt{ex D:Code->Env->d7->Option (Out×Env×d7)}(h:∀c e H,LeO (ex c e H) (D c e H)) (f:FuncId) (args:LV) (H:d7):LeO (body P ex f args H) (body P D f args H):=by
 intro r u;unfold body at u ⊢;split
 .rename_i c O S E;rw[E]at u;simp only at u ⊢;split
  .rename_i I;rw[cA I]at u;cases J:ex c (Q4 0 args) ⟨H.bs,H.bs.length⟩with
   |none=>simp [J]at u
   |some z=>rw[h _ _ _ _ J];rw[J]at u;exact u
  next I=>rw[bt I]at u;exact u
 next E=>rw[E]at u;exact u
def P2:∀(k h:Nat),k<=h->LeC (call P X k) (call P X h):=by
 intro k;induction k with
 |zero=>intro h _ f args H r u;cases u
 |succ k D=>
  intro h E f args H r u;obtain⟨h,rfl⟩:∃m,h=m+1:=⟨h-1,oM⟩
  simp only[call]at u ⊢;split
  next g z=>rw[z]at u;exact u
  next z=>rw[z]at u;exact mt (bW (D h oM) k h oM) f args H r u
open Classical in
noncomputable def lim{α:Type}(x:Nat->Option α):Option α:=if h:∃k r,x k=some r then some (Classical.choose (ach h)) else none
def Iu{α:Type}{x:Nat->Option α}(E:∀k I,k<=I->LeO (x k) (x I)) {r:α}:lim x=some r↔∃k,x k=some r:=by
 unfold lim
 constructor
 .intro h;split at h
  next z=>cases h;exact⟨_,ach (ach z)⟩
  .cases h
 .rintro⟨k,z⟩;have u:∃k r,x k=some r:=⟨k,r,z⟩
  rw[ab0 u];have J:=ach (ach u);have O:=E _ (max k (Classical.choose u)) (abD _ _) _ J;have D:=E _ (max k (Classical.choose u)) (abO _ _) _ z;rw[O]at D;exact D
noncomputable def CL(P:Program)(X:Lib):B9:=fun f args H=>lim fun k=>call P X k f args H
noncomputable def EL(P:Program)(X:Lib)(c:Code)(e:Env)(H:d7):Option (Out×Env×d7):=lim fun k=>N4 P (CL P X) k c e H
def oW{args:LV}:CL P X f args H=some r↔∃k,call P X k f args H=some r:=
 Iu fun k u h=>P2 k u h f args H
def Cc{e:Env}:EL P X c e H=some r↔∃k,N4 P (CL P X) k c e H=some r:=
 Iu fun k u h=>bW (fun _ _ _=>LeO.refl _) k u h c e H
def vR{α:Type}{x y:Option α}(h:∀r,x=some r↔y=some r):x=y:=by
 cases x with
 |some a=>exact((h a).1 rfl).symm
 |none=>cases y with
  |none=>rfl
  |some b=>exact(h b).2 rfl
variable{X:Lib}
def U4(x:Option (Env×d7)):Option (Out×Env×d7):=x.map fun(e,H)=>(.normal,e,H)
abbrev Of{β:Sort _}(_:β)(α:Type _):Type _:=α
def u6(x:Option (Out×Env×d7))(f:Env->d7->Option (Out×Env×d7)):Of f (Option (Out×Env×d7)):=
 match x with
 |some (.normal,e,H)=>f e H
 |r=>r
@[simp] theorem fo (e:Env) (H:d7) (f:Env->d7->Option (Out×Env×d7)):u6 (some (.normal,e,H)) f=f e H:=rT
@[simp] theorem rL (e:Env) (H:d7) (f:Env->d7->Option (Out×Env×d7)):u6 (some (.ret,e,H)) f=some (.ret,e,H):=rT
@[simp] theorem zf (i:Nat) (e:Env) (H:d7) (f:Env->d7->Option (Out×Env×d7)):u6 (some (.exit i,e,H)) f=some (.exit i,e,H):=rT
def inBlock(id:Nat)(x:Option (Out×Env×d7)):Option (Out×Env×d7):=
 match x with
 |some (.exit i,e,H)=>if i=id then some (.normal,e,H) else some (.exit i,e,H)
 |r=>r
@[simp] theorem iU (id:Nat) (e:Env) (H:d7):inBlock id (some (.normal,e,H))=some (.normal,e,H):=rT
@[simp] theorem nI (id:Nat) (e:Env) (H:d7):inBlock id (some (.ret,e,H))=some (.ret,e,H):=rT
@[simp] theorem gF (id i:Nat) (e:Env) (H:d7):inBlock id (some (.exit i,e,H))=if i=id then some (.normal,e,H) else some (.exit i,e,H):=rT
def jZ{e:Env}(h:aop P (CL P X) o e H=some r):∃k,aop P (call P X k) o e H=some r:=by
 by_cases u:∃c,o= .call c
 .obtain⟨c,rfl⟩:=u;simp only[aop,iE]at h ⊢;split at h
  next b D=>exact⟨0,h⟩
  .rename_i f E;split at h
   .obtain⟨k,z⟩:=oW.1 h;exact⟨k,z⟩
   .cases h
  .cases h
 .refine⟨0,?_⟩;rw[<-h];cases o<;>first|rfl|(exact absurd ⟨_,rfl⟩ u)|(rename_i x;cases x<;>rfl)
def cI:∀(l:List Oper){e:Env}{H:d7}{r:Env×d7},D7 P (CL P X) ops l e H=some r->∃k,D7 P (call P X k) ops l e H=some r:=by
 intro l;induction l with
 |nil=>intro e H r h;exact⟨0,h⟩
 |cons o l W=>
  intro e H r h;simp only[D7]at h ⊢;by_cases D:ak ops e o=true
  .rw[cA D]at h;cases h
  simp only[bt D]at h ⊢;split at h
  .rename_i E;cases U:aop P (CL P X) o.op e H with
   |none=>simp [U]at h
   |some z=>
    rw[U]at h;obtain⟨k1,O⟩:=jZ U;obtain⟨v,z⟩:=z;have u:∀H',D7 P (CL P X) ops l (L7 e o.dst v) H'=some r->∃k,D7 P (call P X k) ops l (L7 e o.dst v) H'=some r/\aop P (call P X k) o.op e H=some (v,z):=by
     intro H' h';obtain⟨k2,S⟩:=W h';exact⟨max k1 k2,T9 (P2 _ _ (abD _ _)) _ _ _ _ S,aj (P2 _ _ (abO _ _)) _ _ _ _ O⟩
    cases z with
    |none=>obtain⟨k,I,J⟩:=u _ h;exact⟨k,by rw[cA E,J];exact I⟩
    |some H'=>obtain⟨k,I,J⟩:=u _ h;exact⟨k,by rw[cA E,J];exact I⟩
  next E=>obtain⟨k,hk⟩:=W h;exact⟨k,by rw[bt E];exact hk⟩
def rl:∀(l:List Oper){i:Nat}{q:Bool}{e:Env}{H:d7}{r:Env×d7},L6 P (CL P X) ops i q l e H=some r->∃k,L6 P (call P X k) ops i q l e H=some r:=by
 intro l;induction l with
 |nil=>intro i q e H r h;exact⟨0,h⟩
 |cons o l S=>
  intro i q e H r h;simp only[L6]at h ⊢;by_cases E:ak ops e o=true
  .rw[cA E]at h;cases h
  simp only[bt E]at h ⊢;split at h
  .rename_i I;cases J:aop P (CL P X) o.op e H with
   |none=>simp [J]at h
   |some z=>
    rw[J]at h;obtain⟨U,D⟩:=jZ J;obtain⟨v,z⟩:=z;cases z with
    |none=>
     obtain⟨O,u⟩:=S h;exact⟨max U O,by rw[cA I,aj (P2 _ _ (abO _ _)) _ _ _ _ D];exact lY (P2 _ _ (abD _ _)) _ _ _ _ _ _ u⟩
    |some H'=>
     simp only at h;split at h
     .obtain⟨O,u⟩:=cI _ h;refine⟨max U O,?_⟩;rw[cA I,aj (P2 _ _ (abO _ _)) _ _ _ _ D];simp only;rw[cA (by assumption)];exact T9 (P2 _ _ (abD _ _)) _ _ _ _ u
     .cases h
  next I=>obtain⟨k,W⟩:=S h;exact⟨k,by rw[bt I];exact W⟩
def sI:∀(l:List (Oper×Nat×Nat)){t:Nat}{O:List (Nat×d7)}{u:List (Op×Env×aet×Nat)}{e:Env}{H:d7}{r:Env×d7},M0 P (CL P X) ops t O u l e H=some r->∃k,M0 P (call P X k) ops t O u l e H=some r:=by
 intro l;induction l with
 |nil=>intro t O u e H r h;exact⟨0,h⟩
 |cons o l J=>
  obtain⟨o,lo,hi⟩:=o;intro t O u e H r h;simp only[M0]at h ⊢;by_cases I:ak ops e o=true
  .rw[cA I]at h;cases h
  simp only[bt I]at h ⊢;split at h
  .rename_i E;split at h
   .rename_i D;cases hq:aop P (CL P X) o.op e H with
    |none=>simp [hq]at h
    |some z=>
     rw[hq]at h;obtain⟨k1,U⟩:=jZ hq;obtain⟨v,z⟩:=z;simp only at h;split at h
     next hb=>obtain⟨k2,W⟩:=J h;exact⟨max k1 k2,by rw[cA E,cA D,aj (P2 _ _ (abO _ _)) _ _ _ _ U];simp only;rw[cA hb];exact od (P2 _ _ (abD _ _)) _ _ _ _ _ _ _ W⟩
     .cases h
   .rename_i D;split at h
    .rename_i v hv;split at h
     .rename_i S;split at h
      next hc=>obtain⟨k,q⟩:=J h;exact⟨k,by rw[cA E,bt D,cA S,cA hc];exact q⟩
      .cases h
     next S=>obtain⟨k,q⟩:=J h;exact⟨k,by rw[cA E,bt D,bt S];exact q⟩
    .cases h
  .rename_i E;split at h
   next D=>obtain⟨k,q⟩:=J h;exact⟨k,by rw[bt E,cA D];exact q⟩
   next D=>obtain⟨k,q⟩:=J h;exact⟨k,by rw[bt E,bt D];exact q⟩
def vi{e:Env}(h:bS P (CL P X) ops e H=some r):∃k,bS P (call P X k) ops e H=some r:=by
 unfold bS at h ⊢;split at h
 .rename_i u;split at h
  next z=>obtain⟨k,q⟩:=sI _ h;exact⟨k,by rw[cA u,cA z];exact q⟩
  .cases h
 next u=>obtain⟨k,q⟩:=rl _ h;exact⟨k,by rw[bt u];exact q⟩
def xD:∀(k:Nat){c:Code}{e:Env}{H:d7}{r:Out×Env×d7},N4 P (CL P X) k c e H=some r->∃j,N4 P (call P X j) k c e H=some r:=by
 intro k;induction k with
 |zero=>intro c e H r h;cases h
 |succ k O=>
  intro c e H r h;have u:∀{j J:Nat}{c:Code}{e:Env}{H:d7}{r},j<=J->N4 P (call P X j) k c e H=some r->N4 P (call P X J) k c e H=some r:=fun D h=>bW (P2 _ _ D) _ _ lR _ _ _ _ h;cases c<;>simp only[N4]at h ⊢ <;>try exact⟨0,h⟩
  case region id ops S=>
   cases S
   .simp only[bF]at h ⊢;cases E:D7 P (CL P X) ops ops.toList e H with
    |none=>simp [E]at h
    |some z=>obtain⟨j,D⟩:=cI _ E;rw[E]at h;exact⟨j,by rw[D];exact h⟩
   .simp only[aab]at h ⊢;cases E:bS P (CL P X) ops e H with
    |none=>simp [E]at h
    |some z=>obtain⟨j,D⟩:=vi E;rw[E]at h;exact⟨j,by rw[D];exact h⟩
  case seq x y=>
   cases hz:tp x y with
   |some z=>
    simp only[hz]at h ⊢;cases U:D7 P (CL P X) z.ops z.l1 e H with
    |none=>simp [U]at h
    |some q1=>
     cases h2:D7 P (CL P X) z.ops z.l2 e H with
     |none=>simp [U,h2]at h
     |some q2=>
      obtain⟨e1,H1⟩:=q1;obtain⟨e2,H2⟩:=q2;rw[U,h2]at h;obtain⟨o,e',H'⟩:=r;obtain⟨e3,H3,e4,H4,g1,g2,g3,rfl,rfl,rfl⟩:=Y1 h;obtain⟨W,a1⟩:=cI _ U;obtain⟨J,I⟩:=cI _ h2;obtain⟨j3,a2⟩:=O g1;obtain⟨j4,a3⟩:=O g2;refine⟨max (max W J) (max j3 j4),?_⟩;rw[T9 (P2 _ _ (by omega:W<=max (max W J) (max j3 j4))) _ _ _ _ a1,T9 (P2 _ _ (by omega:J<=max (max W J) (max j3 j4))) _ _ _ _ I];exact iX (u oM a2) (u oM a3) g3
   |none=>
   simp only[hz]at h ⊢;cases E:N4 P (CL P X) k x e H with
   |none=>simp [E]at h
   |some z=>
    obtain⟨j,D⟩:=O E;rw[E]at h;obtain⟨o,e',H'⟩:=z;cases o with
    |normal=>
     obtain⟨J,I⟩:=O h;exact⟨max j J,by rw[u (abO _ _) D];exact u (abD _ _) I⟩
    |exit i=>exact⟨j,by rw[D];exact h⟩
    |ret=>exact⟨j,by rw[D];exact h⟩
  case cond x y z=>
   split at h
   next ht=>obtain⟨j,D⟩:=O h;exact⟨j,D⟩
   .cases h
  case block id x=>
   cases E:N4 P (CL P X) k x e H with
   |none=>simp [E]at h
   |some z=>obtain⟨j,D⟩:=O E;rw[E]at h;exact⟨j,by rw[D];exact h⟩
  case loop x=>
   cases E:N4 P (CL P X) k x e H with
   |none=>simp [E]at h
   |some z=>
    obtain⟨j,D⟩:=O E;rw[E]at h;obtain⟨o,e',H'⟩:=z;cases o with
    |normal=>
     obtain⟨J,I⟩:=O h;exact⟨max j J,by rw[u (abO _ _) D];exact u (abD _ _) I⟩
    |exit i=>exact⟨j,by rw[D];exact h⟩
    |ret=>exact⟨j,by rw[D];exact h⟩
  case scope x=>obtain⟨j,D⟩:=O h;exact⟨j,D⟩
def Ki(I:X f=none)(args:LV)(H:d7):CL P X f args H=body P (EL P X) f args H:=by
 refine vR fun r=>⟨fun h=>?_,fun h=>?_⟩
 .obtain⟨k,u⟩:=oW.1 h;cases k with
  |zero=>cases u
  |succ k=>
   simp only[call,I]at u;refine mt (fun c e H r E=>?_) f args H r u;exact Cc.2 ⟨k,bW (fun f args H r E=>oW.2 ⟨k,E⟩) k k lR c e H r E⟩
 .unfold body at h;split at h
  rotate_left
  .cases h
  rename_i c U W J;split at h
  rotate_left
  .cases h
  rename_i S;cases D:EL P X c (Q4 0 args) ⟨H.bs,H.bs.length⟩with
  |none=>simp [D]at h
  |some z=>
   obtain⟨k,u⟩:=Cc.1 D;obtain⟨j,O⟩:=xD k u;refine oW.2 ⟨max j k+1,?_⟩;simp only[call,I,body,J,cA S];rw[bW (P2 j (max j k) (abO _ _)) k (max j k) (abD _ _) _ _ _ _ O];rw[D]at h;exact h
def NO{g:LV->d7->Option (aet×Option d7)}(z:X f=some g)(args:LV)(H:d7):CL P X f args H=g args H:=by
 refine vR fun r=>⟨fun h=>?_,fun h=>oW.2 ⟨1,by simp only[call,z];exact h⟩⟩
 obtain⟨k,u⟩:=oW.1 h;cases k with
 |zero=>cases u
 |succ k=>simp only[call,z]at u;exact u
def DL{X Y:Lib}(h:∀f,X f=Y f\/(X f=none/\fnA P f=none)):∀k,LeC (call P X k) (call P Y k):=by
 intro k;induction k with
 |zero=>intro f args H r u;cases u
 |succ k E=>
  intro f args H r u;simp only[call]at u ⊢;rcases h f with e|⟨e,D⟩
  .rw[<-e];split
   next g z=>rw[z]at u;exact u
   next z=>rw[z]at u;exact mt (bW E k k lR) f args H r u
  .rw[e]at u;simp only[body,D]at u;cases u
def Kj{X Y:Lib}(h:∀f,X f=Y f\/(X f=none/\fnA P f=none)):LeC (CL P X) (CL P Y):=by
 intro f args H r z;obtain⟨k,u⟩:=oW.1 z;exact oW.2 ⟨k,DL h k f args H r u⟩
end
def iI(r:Option (aet×Option d7))(H:d7)(f:aet->d7->Option (Env×d7)):Of f (Option (Env×d7)):=
 match r with
 |some (v,none)=>f v H
 |some (v,some H')=>f v H'
 |none=>none
def Ie(ops:Array Oper)(j:Nat)(b:Bool)(e:Env):Bool:=
 match(ops[j]?).bind (·.dst)with
 |some d=>isB (e.g d) b
 |none=>false
def GU{α:Type}(v:aet)(x y:Option α):Of x (Of y (Option α)):=
 match v with
 | .bool t=>if t then x else y
 |_=>none
def t6(P:Program)(rs:List ResultVar)(H:d7)(x:Option (Out×Env×d7)):Option (aet×Option d7):=
 match x with
 |some (.exit _,_,_)=>none
 |some (_,e,H')=>(rs.mapM (N0 P e H')).map fun vs=>E7 (cU vs) H H'
 |none=>none
section
variable{P:Program}{X:Lib}
def NQ(E:fnA P f=some (c,u,h))(D:X f=none)(args:LV)(I:args.length<=u)(H:d7):
  CL P X f args H=t6 P h H (EL P X c (Q4 0 args) ⟨H.bs,H.bs.length⟩):=by
 rw[Ki D,body,E];simp only[cA I,t6];cases EL P X c (Q4 0 args) ⟨H.bs,H.bs.length⟩with
 |none=>rfl
 |some z=>
  obtain⟨o,e,H'⟩:=z;cases o with
  |exit i=>rfl
  |normal=>simp only;cases List.mapM (N0 P e H') h<;>rfl
  |ret=>simp only;cases List.mapM (N0 P e H') h<;>rfl
def zV(v:aet)(H:d7)(f:aet->d7->Option (Env×d7)):iI (some (v,none)) H f=f v H:=rT
def zW(v:aet)(H H':d7)(f:aet->d7->Option (Env×d7)):iI (some (v,some H')) H f=f v H':=rT
def sC(e:Env)(H:d7):U4 (some (e,H))=some (.normal,e,H):=rT
def Ia(k:Nat)(v:aet)(e:Env)(t:Nat):Env.g ((k,v)::e) t=if k=t then v else Env.g e t:=rT
def Ft(e:Env)(d:Nat)(v:aet):L7 e (some d) v=(d,v)::e:=rT
def Fs(e:Env)(v:aet):L7 e none v=e:=rT
def Mm(e:Env)(t:Nat):opv e (.tmp t)=e.g t:=rT
def Fi(e:Env)(v:aet):opv e (.const v)=v:=rT
def IY(e:Env)(f:FuncId):opv e (.func f)= .func (.func f) #[] #[]:=rT
def kp(v:Option aet):Option (aet×Option d7):=keep v
def LD(v:aet):kp (some v)=some (v,none):=rT
def Jg(c x y:aet):Option aet:=
 match c with
 | .bool t=>some (if t then x else y)
 |_=>none
def Be(t:Bool)(x y:aet):Jg (.bool t) x y=some (if t=true then x else y):=by cases t<;>rfl
section
variable(C:B9)(e:Env)(H:d7)
def Gx(x:Operand):aop P C (.move x) e H=kp (some (opv e x)):=rT
def zy(x:Operand):aop P C (.assign x) e H=kp (some (opv e x)):=rT
def Gz(c x y:Operand):aop P C (.pick c x y) e H=kp (Jg (opv e c) (opv e x) (opv e y)):=by
 simp only[aop,Jg,kp];cases opv e c<;>rfl
def Ds(t:TypeId):aop P C (.alloc t) e H=turn ((N3 P t).map fun z=>(.pointer (some ⟨H.n,0,none⟩),H.push (.cells z true 1))):=rT
def Kx(t:TypeId)(x:Operand):aop P C (.box t x) e H=if(opv e x).cells.toList.all oC=true then some (.pointer (some ⟨H.n,0,none⟩),some (H.push (.cells (opv e x).cells.toList true 1))) else none:=rT
def Dt(t:TypeId)(h:Array (Nat×Operand)):aop P C (.build t h) e H=kp (pL P t (h.toList.map fun p=>(p.1,opv e p.2))):=rT
def pF(t:TypeId)(n:Nat)(h:Array (Nat×Operand)):aop P C (.buildSlice t n h) e H=turn (T7 P H t n (h.toList.map fun p=>(p.1,opv e p.2))):=rT
def Gv(t:TypeId)(a:Operand):aop P C (.load t a) e H=kp (ld P t H (opv e a)):=rT
def Dz(t:TypeId)(a x:Operand):aop P C (.store t a x) e H=turn ((sto P t H (opv e a) (opv e x)).map fun H'=>(undef,H')):=rT
def LY(v:aet):Option aet:=
 match v with
 | .pointer (some a)=>some (.pointer (some a))
 | .func (.func g) f c=>some (.func (.func g) f c)
 |_=>none
def uM(x:Operand):aop P C (.nilCheck x) e H=kp (LY (opv e x)):=by
 simp only[aop,LY,kp];split<;>first|rfl|(split<;>first|rfl|simp_all)
def Kw(op:BinOp)(t:TypeId)(x y:Operand)(h:TypeId):aop P C (.binOp op t x y h) e H=kp (I3 P op t (opv e x) (opv e y)):=rT
def Oa(op:UnOp)(t:TypeId)(x:Operand):aop P C (.unOp op t x) e H=kp (unA op (opv e x)):=rT
def wK(s d:TypeId)(x:Operand):aop P C (.convert s d x) e H=aU P H s d (opv e x):=rT
def Gu(g:FuncId)(f c:Array Operand):aop P C (.makeFunc (.func g) f c) e H=some (.func (.func g) (f.toList.map (opv e)).toArray (c.toList.map (opv e)).toArray,none):=rT
def Ky(t:TypeId):aop P C (.makeMap t none) e H=some (.map (some H.n),some (H.push (.map []))):=rT
def Gw(t:TypeId)(l c:Operand):aop P C (.makeSlice t l c) e H=turn (P9 P H t (opv e l) (opv e c)):=rT
def Dy(t:TypeId)(x:Operand)(lo h u:Option Operand):aop P C (.slice t x lo h u) e H=kp (L5 P H t (opv e x) (lo.map (opv e)) (h.map (opv e)) (u.map (opv e))):=rT
def rZ(t:TypeId)(x:Operand)(i:Nat):aop P C (.fieldAddr t x i) e H=kp (bZ P t (opv e x) i):=rT
def Dv(t:TypeId)(x:Operand)(i:Nat):aop P C (.field t x i) e H=kp (mD P t (opv e x) i):=rT
def sd(t:TypeId)(x i:Operand):aop P C (.indexAddr t x i) e H=kp (X9 P t (opv e x) (opv e i)):=rT
def Dw(t:TypeId)(x i:Operand):aop P C (.index t x i) e H=kp (iW P t (opv e x) (opv e i)):=rT
def zA(t:TypeId)(m k:Operand)(ok:Bool):aop P C (.lookup t m k ok) e H=kp (jv P H t (opv e m) (opv e k) ok):=rT
def sf(t:TypeId)(m k v:Operand):aop P C (.mapUpdate t m k v) e H=turn ((aL P H t (opv e m) (opv e k) (opv e v)).map fun H'=>(undef,H')):=rT
def Bl(P:Program)(t:TypeId)(H:d7)(v:aet):Option (aet×Option d7):=
 match P.underlying t,v with
 |some .string,.string s=>some (.pointer (some ⟨H.n,0,none⟩),some (H.push (.iter s 0)))
 |_,_=>none
def Dx(t:TypeId)(x:Operand):aop P C (.range t x) e H=Bl P t H (opv e x):=rT
def Gy(it:Operand):aop P C (.next it true) e H=lN H (opv e it):=rT
def pX(v:aet)(i:Nat):Option aet:=
 match v with
 | .tuple vs=>if vs.toList.length<9 then vs.toList[i]? else none
 |_=>none
def pY(h:Array aet)(i:Nat):pX (.tuple h) i=if h.toList.length<9 then h.toList[i]? else none:=rT
def wL(x:Operand)(i:Nat):aop P C (.extract x i) e H=kp (pX (opv e x) i):=by
 simp only[aop,pX,kp];cases opv e x with
 |tuple u=>by_cases h:u.toList.length<9<;>simp only[h,aab,acb]<;>rfl
 |_=>rfl
def wJ(b:Builtin)(xs:Array Operand)(ts:Array TypeId):aop P C (.call ⟨.builtin b,xs,ts⟩) e H=D9 P b ts.toList (xs.toList.map (opv e)) H:=rT
def iz(C:B9)(f:aet)(args:LV)(H:d7):Option (aet×Option d7):=
 match f with
 | .func (.func g) first captured=>C g (first.toList++args++captured.toList) H
 |_=>none
def wP(g:FuncId)(f c:Array aet)(args:LV):iz C (.func (.func g) f c) args H=C g (f.toList++args++c.toList) H:=rT
def Gt(f:Operand)(xs:Array Operand)(ts:Array TypeId):aop P C (.call ⟨.value f,xs,ts⟩) e H=iz C (opv e f) (xs.toList.map (opv e)) H:=rT
def FP(v:aet)(H':d7):turn (some (v,H'))=some (v,some H'):=rT
def KA(t:TypeId)(k:IntKind)(a b:Int):I3 P .add t (.int k a) (.int k b)=some (.int k (k.wrap (a+b))):=by simp [I3]
def KJ(t:TypeId)(k:IntKind)(a b:Int):I3 P .sub t (.int k a) (.int k b)=some (.int k (k.wrap (a-b))):=by simp [I3]
def KH(t:TypeId)(k:IntKind)(a b:Int):I3 P .mul t (.int k a) (.int k b)=some (.int k (k.wrap (a*b))):=by simp [I3]
def KI(t:TypeId)(k:IntKind)(a b:Int)(h:b≠0):I3 P .rem t (.int k a) (.int k b)=some (.int k (a.tmod b)):=by simp [I3,h]
def KB(t:TypeId)(k:IntKind)(a b:Int):I3 P .and t (.int k a) (.int k b)=some (.int k (Go.bits .and k a b)):=by simp [I3]
def Oe(t:TypeId)(k:IntKind)(a b:Int):I3 P .or t (.int k a) (.int k b)=some (.int k (Go.bits .or k a b)):=by simp [I3]
def KK(t:TypeId)(k:IntKind)(a b:Int):I3 P .xor t (.int k a) (.int k b)=some (.int k (Go.bits .xor k a b)):=by simp [I3]
def zD(t:TypeId)(k:IntKind)(a b:Int):I3 P .andNot t (.int k a) (.int k b)=some (.int k (Go.bits .andNot k a b)):=by simp [I3]
def KF(t:TypeId)(k:IntKind)(a b:Int):I3 P .lss t (.int k a) (.int k b)=some (.bool (decide (a<b))):=by simp [I3]
def KE(t:TypeId)(k:IntKind)(a b:Int):I3 P .leq t (.int k a) (.int k b)=some (.bool (decide (a<=b))):=by simp [I3]
def KD(t:TypeId)(k:IntKind)(a b:Int):I3 P .gtr t (.int k a) (.int k b)=some (.bool (decide (b<a))):=by simp [I3]
def KC(t:TypeId)(k:IntKind)(a b:Int):I3 P .geq t (.int k a) (.int k b)=some (.bool (decide (b<=a))):=by simp [I3]
def wU(t:TypeId)(k:IntKind)(a b:Int):I3 P .eql t (.int k a) (.int k b)=some (.bool (decide (a=b))):=by simp [I3,eqA];rfl
def wX(t:TypeId)(k:IntKind)(a b:Int):I3 P .neq t (.int k a) (.int k b)=some (.bool (!decide (a=b))):=by simp [I3,eqA];rfl
def wh(a b:aes):(a==b)=decide (a=b):=by
 rw[abW,decide_eq_true_iff]
 constructor
 .intro h;rw[ac0,acK,acW,acW]at h;have u:=aaC.1 h;obtain⟨a⟩:=a;obtain⟨b⟩:=b;simp only at u;rw[u]
 .rintro rfl;exact my _
def wV(t:TypeId)(a b:aes):I3 P .eql t (.string a) (.string b)=some (.bool (decide (a=b))):=by simp [I3,eqA,wh]
def wY(t:TypeId)(a b:aes):I3 P .neq t (.string a) (.string b)=some (.bool (!decide (a=b))):=by simp [I3,eqA,wh]
def uP(t:TypeId)(a b:Bool)(h:zd P t=true):I3 P .eql t (.bool a) (.bool b)=some (.bool (a==b)):=by simp [I3,eqA,h]
def dJ(t:TypeId)(a b:Bool)(h:zd P t=true):I3 P .neq t (.bool a) (.bool b)=some (.bool (!(a==b))):=by simp [I3,eqA,h]
def dq(t:TypeId)(a b:aes)(h:a.size+b.size<=9223372036854775807):I3 P .add t (.string a) (.string b)=some (.string (a++b)):=by simp [I3,h]
def Ri(b:Bool):unA .not (.bool b)=some (.bool !b):=rT
def Rh(k:IntKind)(n:Int):unA .neg (.int k n)=some (.int k (k.wrap (0-n))):=rT
def bap(ts:List TypeId)(s x:aet):D9 P .append ts [s,x] H=A8 P H ts s x:=rT
def bcp(ts:List TypeId)(s x:aet):D9 P .copy ts [s,x] H=nr P H ts s x:=rT
end
def LX(b:Bool):N8 (.bool b)=true:=rT
def Qp(k:IntKind)(n:Int):N8 (.int k n)=true:=rT
def Fa(s:aes):N8 (.string s)=true:=rT
def Jb(v:aet):cU [v]=v:=rT
def Jc(a b:aet):cU [a,b]= .tuple #[a,b]:=rT
def Bd(a b c:aet):cU [a,b,c]= .tuple #[a,b,c]:=rT
def tZ(a b:aet):N8 (.tuple #[a,b])=(na1 a&&na1 b):=by simp [N8]
def ud(a b c:aet):N8 (.tuple #[a,b,c])=(na1 a&&(na1 b&&na1 c)):=by simp [N8]
def IK(b:Bool):na1 (.bool b)=true:=rT
def LU(k:IntKind)(n:Int):na1 (.int k n)=true:=rT
def AR(s:aes):na1 (.string s)=true:=rT
def EZ(a:Addr)(n c:Nat):na1 (.slice (some a) n c)=false:=rT
def LW:na1 (.slice none 0 0)=true:=rT
def IL(a:Addr)(n c:Nat):N8 (.slice (some a) n c)=false:=rT
def Qq:N8 (.slice none 0 0)=true:=rT
def pK(h:List ResultVar)(H:d7)(e:Env)(H':d7):t6 P h H (some (.normal,e,H'))=(h.mapM (N0 P e H')).map fun u=>E7 (cU u) H H':=rT
def wZ(h:List ResultVar)(H:d7)(e:Env)(H':d7):t6 P h H (some (.ret,e,H'))=(h.mapM (N0 P e H')).map fun u=>E7 (cU u) H H':=rT
def Mw(e:Env)(H:d7)(t:Nat):[ResultVar.tmp t].mapM (N0 P e H)=some [e.g t]:=rT
def Mx(e:Env)(H:d7)(t u:Nat):[ResultVar.tmp t,.tmp u].mapM (N0 P e H)=some [e.g t,e.g u]:=rT
def Fz(e:Env)(H:d7)(t u v:Nat):[ResultVar.tmp t,.tmp u,.tmp v].mapM (N0 P e H)=some [e.g t,e.g u,e.g v]:=rT
end
def br{α:Type}(t:Bool)(x y:α):Of x (Of y α):=if t=true then x else y
def KN{α:Type}(x y:α):br true x y=x:=rT
def GH{α:Type}(x y:α):br false x y=y:=rT
def Oh{α:Type}(t:Bool)(x y:α):br (!t) x y=br t y x:=by cases t<;>rfl
section
variable{P:Program}{X:Lib}
@[congr] theorem Rn {c:Code} {e e':Env} {H H':d7} (he:e=e') (hH:H=H'):EL P X c e H=EL P X c e' H':=by rw[he,hH]
@[congr] theorem MA {C:B9} {ops:Array Oper} {l:List Oper} {e e':Env} {H H':d7} (he:e=e') (hH:H=H'):D7 P C ops l e H=D7 P C ops l e' H':=by rw[he,hH]
@[congr] theorem Lu {ops:Array Oper} {j:Nat} {b:Bool} {e e':Env} (he:e=e'):Ie ops j b e=Ie ops j b e':=by rw[he]
end
def GV{α:Type}(t:Bool)(x y:Option α):GU (.bool t) x y=br t x y:=by cases t<;>rfl
section
variable{P:Program}{X:Lib}
def tq(r:Option (aet×Option d7))(f:aet->Option (Env×d7))(g:aet->d7->Option (Env×d7)):Of f (Of g (Option (Env×d7))):=
 match r with
 |some (v,none)=>f v
 |some (v,some H')=>g v H'
 |none=>none
def zR(v:aet)(f:aet->Option (Env×d7))(g:aet->d7->Option (Env×d7)):tq (some (v,none)) f g=f v:=rT
def zT(v:aet)(H':d7)(f:aet->Option (Env×d7))(g:aet->d7->Option (Env×d7)):tq (some (v,some H')) f g=g v H':=rT
def ED(f:Operand)(a:Array Operand)(t:Array TypeId):isCall (.call ⟨.value f,a,t⟩)=true:=rT
def EC(f:Builtin)(a:Array Operand)(t:Array TypeId):isCall (.call ⟨.builtin f,a,t⟩)=false:=rT
def xW(x:Operand):isCall (.move x)=false:=rT
def su(x:Operand):isCall (.assign x)=false:=rT
def xX(x y z:Operand):isCall (.pick x y z)=false:=rT
def AE(o:BinOp)(t:TypeId)(x y:Operand)(u:TypeId):isCall (.binOp o t x y u)=false:=rT
def EE(o:UnOp)(t:TypeId)(x:Operand):isCall (.unOp o t x)=false:=rT
def xV(t:TypeId)(x:Operand):isCall (.load t x)=false:=rT
def vw(t:TypeId)(x:Operand)(i:Nat):isCall (.field t x i)=false:=rT
def mF(t:TypeId)(x:Operand)(i:Nat):isCall (.fieldAddr t x i)=false:=rT
def vx(t:TypeId)(x i:Operand):isCall (.index t x i)=false:=rT
def mH(t:TypeId)(x i:Operand):isCall (.indexAddr t x i)=false:=rT
def qu(s t:TypeId)(x:Operand):isCall (.convert s t x)=false:=rT
def qw(x:Operand)(i:Nat):isCall (.extract x i)=false:=rT
def vu(t:TypeId)(p:Array (Nat×Operand)):isCall (.build t p)=false:=rT
def vy(t:TypeId)(x:Operand)(a b c:Option Operand):isCall (.slice t x a b c)=false:=rT
def Nb(t:TypeId)(x y:Operand)(b:Bool):isCall (.lookup t x y b)=false:=rT
def brl{α:Type}(v:aet)(b:Bool)(x y:Option α):Of x (Of y (Option α)):=if AF v=true then none else if isB v b=true then x else y
def GI{α:Type}(t:Bool)(x y:Option α):brl (.bool t) true x y=br t x y:=by cases t<;>rfl
def DG{α:Type}(t:Bool)(x y:Option α):brl (.bool t) false x y=br t y x:=by cases t<;>rfl
def KO{α:Type}(b:Bool)(x y:Option α):brl undef b x y=y:=by cases b<;>rfl
end
section
variable{H:d7}{B:Blk}{b c:Nat}
def i4:(H.push B).n=H.n+1:=by simp [d7.n,d7.push]
def j9:(H.put b B).n=H.n:=by simp [d7.n,d7.put]
def j7:(H.push B).g H.n=some B:=by simp [d7.g,d7.push,d7.n]
def y9(h:b<=H.n/\H.n<=b):(H.push B).g b=some B:=by
 obtain rfl:b=H.n:=oM;exact j7
def i9(h:b<H.n):(H.push B).g b=H.g b:=by
 simp only[d7.g,d7.push];exact xd h
def i7(h:b<H.n):(H.put b B).g b=some B:=by
 simp only[d7.g,d7.put,abb];simp;exact h
def j6(h:b≠c):(H.put b B).g c=H.g c:=by
 simp only[d7.g,d7.put,abb,bt h]
def u5(h:H.g b=some B):b<H.n:=(gS h).1
def l9:(H.push B).low=H.low:=rT
def A5:(H.put b B).low=min H.low b:=rT
def CP(bs:List Blk)(n:Nat):(⟨bs,n⟩:d7).n=bs.length:=rT
def yh(H:d7):H.bs.length=H.n:=rT
end
section
variable{P:Program}
def ldB(P:Program)(t:TypeId)(o:Nat)(B:Option Blk):Option aet:=
 match B with
 |some (.cells c _ _)=>
  match cY P t with
  |some true=>
   match D3 P t with
   |some s=>if o+s<=c.length then some (.agg ((c.drop o).take s).toArray) else none
   |none=>none
  |some false=>c[o]?
  |none=>none
 |_=>none
def PY(t:TypeId)(H:d7)(b o:Nat):ld P t H (.pointer (some ⟨b,o,none⟩))=ldB P t o (H.g b):=by
 simp only[ld,ldB];cases H.g b with
 |none=>rfl
 |some B=>cases B<;>rfl
def ldC(a:Option Bool)(s:Option Nat)(o:Nat)(c:LV):Option aet:=
 match a with
 |some true=>
  match s with
  |some s=>if o+s<=c.length then some (.agg ((c.drop o).take s).toArray) else none
  |none=>none
 |some false=>c[o]?
 |none=>none
def EJ(t:TypeId)(o:Nat)(c:LV)(own:Bool)(sz:Nat):ldB P t o (some (.cells c own sz))=ldC (cY P t) (D3 P t) o c:=rT
def gJ(s o:Nat)(c:LV)(h:o+s<=c.length):ldC (some true) (some s) o c=some (.agg ((c.drop o).take s).toArray):=by simp [ldC,h]
def qh{α:Type}{enc:α->LV}(u:∀a,(enc a).length=sz):∀{l:List α}{i:Nat}{a:α},l[i]?=some a->i*sz+sz<=(l.flatMap enc).length/\((l.flatMap enc).drop (i*sz)).take sz=enc a
 |[],i,a,h=>by simp at h
 |x::l,0,a,h=>by
  simp at h;subst h;have:=u x;simp only[aaI,aa8,aan,ib,this,aaH];refine⟨oM,?_⟩;rw[<-this,aba lR,abZ]
 |x::l,i+1,a,h=>by
  have D:=u x;obtain⟨E,z⟩:=qh u (l:=l) (i:=i) (a:=a) (by simpa using h);have e:(i+1)*sz=(enc x).length+i*sz:=by rw[D,aaP];omega
  rw[aaI,e];refine⟨by rw[ib];omega,?_⟩;rw[<-abm,ade];exact z
def LF(s:Option Nat)(o:Nat)(c:LV):ldC (some false) s o c=c[o]?:=rT
def Jo(e:Env)(H:d7)(a:Nat)(t:TypeId):[ResultVar.cell a t].mapM (N0 P e H)=(ld P t H (e.g a)).map fun v=>[v]:=by
 simp only[ab1,aeo,N0];cases ld P t H (e.g a)<;>rfl
def A4(s:aes)(i:Nat):Int:=(s.data.toList.getD i 0).toNat
def PP(d:Option TypeDesc)(s:aes)(i:Nat):Option aet:=
 match d with
 |some .string=>some (.int .u8 (A4 s i))
 |_=>none
def Ik(s:aes)(i:Nat):PP (some .string) s i=some (.int .u8 (A4 s i)):=rT
def AD(t:TypeId)(s:aes)(k:IntKind)(i:Int)(h:0<=i)(u:i<s.size):iW P t (.string s) (.int k i)=PP (P.underlying t) s i.toNat:=by
 simp only[iW,PP];cases P.underlying t with
 |none=>rfl
 |some d=>cases d<;>first|rfl|(simp [h,u,A4])
def Lw(P:Program)(d:Option TypeDesc)(cs:LV)(i:Int):Option aet:=
 match d with
 |some (.array n e)=>match D3 P e with
  |some size=>if 0<=i/\i<n then jT P e cs (i.toNat*size) else none
  |none=>none
 |_=>none
def EB(t:TypeId)(a:Array aet)(k:IntKind)(i:Int):iW P t (.agg a) (.int k i)=Lw P (P.underlying t) a.toList i:=by
 simp only[iW,Lw];cases P.underlying t with
 |none=>rfl
 |some d=>cases d<;>rfl
def PO(P:Program)(e:TypeId)(s:Option Nat)(cs:LV)(i:Int):Option aet:=
 match s with
 |some size=>jT P e cs (i.toNat*size)
 |none=>none
def Ij(n:Nat)(e:TypeId)(cs:LV)(i:Int)(h:0<=i)(u:i<n):Lw P (some (.array n e)) cs i=PO P e (D3 P e) cs i:=by simp [Lw,PO,h,u]
def EA(e:TypeId)(s:Nat)(cs:LV)(i:Int):PO P e (some s) cs i=jT P e cs (i.toNat*s):=rT
def Re(P:Program)(t:TypeId)(H:d7)(b o:Nat)(x:LV)(B:Option Blk):Option d7:=
 match B with
 |some (.cells c true sz)=>if D3 P t=some x.length/\o+x.length<=c.length/\x.all Value.oneCell'=true then some (H.put b (.cells (splice c o x) true sz)) else none
 |_=>none
def MP(t:TypeId)(H:d7)(b o:Nat)(x:aet):sto P t H (.pointer (some ⟨b,o,none⟩)) x=Re P t H b o x.cells.toList (H.g b):=by
 simp only[sto,Re];cases H.g b with
 |none=>rfl
 |some B=>cases B with
  |cells c own sz=>cases own<;>rfl
  |_=>rfl
def FJ(t:TypeId)(H:d7)(b o:Nat)(x:LV)(c:LV)(sz:Nat):Re P t H b o x (some (.cells c true sz))=
  if D3 P t=some x.length/\o+x.length<=c.length/\x.all oC=true then some (H.put b (.cells (splice c o x) true sz)) else none:=rT
def DM(a:Array aet):(Value.agg a).cells.toList=a.toList:=rT
def DN(k:IntKind)(n:Int):(Value.int k n).cells.toList=[.int k n]:=rT
def zJ(b:Bool):(Value.bool b).cells.toList=[.bool b]:=rT
def uV(s:aes):(Value.string s).cells.toList=[.string s]:=rT
def xh(a:Option Addr)(n c:Nat):(Value.slice a n c).cells.toList=[.slice a n c]:=rT
def sj(a:Option Addr):(Value.pointer a).cells.toList=[.pointer a]:=rT
def DP(a:Option Nat):(Value.map a).cells.toList=[.map a]:=rT
def zK(a c:Array aet):(Value.func f a c).cells.toList=[.func f a c]:=rT
def Mh(k:IntKind)(n:Int):Value.oneCell' (.int k n)=true:=rT
def IW(b:Bool):Value.oneCell' (.bool b)=true:=rT
def Bb(s:aes):Value.oneCell' (.string s)=true:=rT
def Fh(a:Option Addr)(n c:Nat):Value.oneCell' (.slice a n c)=true:=rT
def yw(a:Option Addr):Value.oneCell' (.pointer a)=true:=rT
def Mi(a:Option Nat):Value.oneCell' (.map a)=true:=rT
def IX(a c:Array aet):Value.oneCell' (.func f a c)=true:=rT
def BL(c:LV)(o:Nat):splice c o []=c:=rT
def yX(c:LV)(o:Nat)(x:aet)(xs:LV):splice c o (x::xs)=splice (c.set o x) (o+1) xs:=rT
def JF(x y:aet)(l:LV):(x::l).set 0 y=y::l:=rT
def JE(x y:aet)(l:LV)(n:Nat):(x::l).set (n+1) y=x::l.set n y:=rT
def kl(P:Program)(q:Option (Nat×TypeId))(b o:Nat):Option aet:=
 match q with
 |some (off,ft)=>match D3 P ft with
  |some s=>if s=0 then none else some (.pointer (some ⟨b,o+off,none⟩))
  |none=>none
 |none=>none
def sq(t:TypeId)(i b o:Nat):bZ P t (.pointer (some ⟨b,o,none⟩)) i=kl P (wo P t i) b o:=by
 simp only[bZ,kl];cases wo P t i<;>rfl
def NI(s:Option Nat)(b o off:Nat):Option aet:=
 match s with
 |some s=>if s=0 then none else some (.pointer (some ⟨b,o+off,none⟩))
 |none=>none
def oD(h:Nat)(u:TypeId)(b o:Nat):kl P (some (h,u)) b o=NI (D3 P u) b o h:=rT
def BT(s b o h:Nat):NI (some s) b o h=if s=0 then none else some (.pointer (some ⟨b,o+h,none⟩)):=rT
def Je(a:Option Bool)(s:Option Nat)(cs:LV)(off:Nat):Option aet:=
 match a,s with
 |some true,some s=>some (.agg ((cs.drop off).take s).toArray)
 |some false,_=>cs[off]?
 |_,_=>none
def Mp(t:TypeId)(cs:LV)(h:Nat):jT P t cs h=Je (cY P t) (D3 P t) cs h:=rT
def Fm(s:Nat)(cs:LV)(h:Nat):Je (some true) (some s) cs h=some (.agg ((cs.drop h).take s).toArray):=rT
def Fn(s:Option Nat)(cs:LV)(h:Nat):Je (some false) s cs h=cs[h]?:=rT
def Ah(P:Program)(q:Option (Nat×TypeId))(a:LV):Option aet:=
 match q with
 |some (off,ft)=>jT P ft a off
 |none=>none
def El(t:TypeId)(i:Nat)(a:Array aet):mD P t (.agg a) i=Ah P (wo P t i) a.toList:=by
 simp only[mD,Ah];cases wo P t i<;>rfl
def xF(h:Nat)(u:TypeId)(a:LV):Ah P (some (h,u)) a=jT P u a h:=rT
def Az(s:Option Nat)(b o:Nat)(i:Int):Option aet:=
 match s with
 |some s=>some (.pointer (some ⟨b,o+i.toNat*s,none⟩))
 |none=>none
def Ez(s b o:Nat)(i:Int):Az (some s) b o i=some (.pointer (some ⟨b,o+i.toNat*s,none⟩)):=rT
def PN(P:Program)(d:Option TypeDesc)(b o:Nat)(i:Int):Option aet:=
 match d with
 |some (.slice e)=>Az (D3 P e) b o i
 |_=>none
def AA(e:TypeId)(b o:Nat)(i:Int):PN P (some (.slice e)) b o i=Az (D3 P e) b o i:=rT
def oG(t:TypeId)(b o n c:Nat)(k:IntKind)(i:Int)(u:0<=i)(z:i<n):
  X9 P t (.slice (some ⟨b,o,none⟩) n c) (.int k i)=PN P (P.underlying t) b o i:=by
 simp only[X9,PN];cases h:P.underlying t with
 |none=>rfl
 |some d=>
  cases d<;>first|rfl|skip
  rename_i e;simp only[Az];cases D3 P e with
  |none=>rfl
  |some s=>simp [u,z]
def Lv(P:Program)(d:Option TypeDesc)(b o:Nat)(i:Int):Option aet:=
 match d with
 |some (.array m e)=>if 0<=i/\i<m then Az (D3 P e) b o i else none
 |_=>none
def AB(m:Nat)(e:TypeId)(b o:Nat)(i:Int)(h:0<=i)(u:i<m):Lv P (some (.array m e)) b o i=Az (D3 P e) b o i:=by simp [Lv,h,u]
def oF(t:TypeId)(b o:Nat)(k:IntKind)(i:Int):X9 P t (.pointer (some ⟨b,o,none⟩)) (.int k i)=Lv P (P.underlying t) b o i:=by
 simp only[X9,Lv];cases h:P.underlying t with
 |none=>rfl
 |some d=>
  cases d<;>first|rfl|skip
  rename_i m e;simp only[Az];cases D3 P e with
  |none=>simp
  |some s=>rfl
def Ma(a:Addr):LY (.pointer (some a))=some (.pointer (some a)):=rT
def LZ(g:FuncId)(f c:Array aet):LY (.func (.func g) f c)=some (.func (.func g) f c):=rT
def zE(z:Option (LV))(q:Option (List (Nat×Nat)⊕Nat))(parts:List (Nat×aet)):Option aet:=
 match z,q with
 |some z,some (.inl ps)=>(V7 (fun i=>ps[i]?) z parts).map fun l=> .agg l.toArray
 |some z,some (.inr s)=>(V7 (fun i=>some (i*s,s)) z parts).map fun l=> .agg l.toArray
 |_,_=>none
def GJ(t:TypeId)(h:List (Nat×aet)):pL P t h=zE (N3 P t) (JQ P t) h:=rT
def Lg(z:LV)(u:List (Nat×Nat))(h:List (Nat×aet)):zE (some z) (some (.inl u)) h=(V7 (fun i=>u[i]?) z h).map fun l=> .agg l.toArray:=rT
def uR(z:LV)(s:Nat)(h:List (Nat×aet)):zE (some z) (some (.inr s)) h=(V7 (fun i=>some (i*s,s)) z h).map fun l=> .agg l.toArray:=rT
def HF(h:Nat->Option (Nat×Nat))(cs:LV):V7 h cs []=some cs:=rT
def HE(place:Nat->Option (Nat×Nat))(cs:LV)(v:LV)(rest:List (Nat×aet))(q:Option (Nat×Nat)):Option (LV):=
 match q with
 |none=>none
 |some (off,size)=>if v.length=size/\off+size<=cs.length/\v.all Value.oneCell'=true then V7 place (splice cs off v) rest else none
def Em(u:Nat->Option (Nat×Nat))(cs:LV)(i:Nat)(v:aet)(rest:List (Nat×aet)):V7 u cs ((i,v)::rest)=HE u cs v.cells.toList rest (u i):=by
 simp only[V7,HE];cases u i with
 |none=>rfl
 |some q=>
  simp only;cases D:v.cells.toList.all oC with
  |true=>
   by_cases h:v.cells.toList.length=q.2/\q.1+q.2<=cs.length
   .rw[bt (fun k=>by rcases k with k|k|k;exact k h.1;omega;cases k),cA ⟨h.1,h.2,rfl⟩]
   .rw[cA (by by_cases z:v.cells.toList.length=q.2;exact .inr (.inl oM);exact .inl z),bt (fun k=>h ⟨k.1,k.2.1⟩)]
  |false=>rw[cA (.inr (.inr rfl)),bt (fun k=>by cases k.2.2)]
def Ai(h:Nat->Option (Nat×Nat))(cs:LV)(v:LV)(rest:List (Nat×aet))(u size:Nat):
  HE h cs v rest (some (u,size))=if v.length=size/\u+size<=cs.length/\v.all oC=true then V7 h (splice cs u v) rest else none:=rT
def bsB(z:Option (LV))(H:d7)(len:Nat)(parts:List (Nat×aet)):Option (aet×d7):=
 match z with
 |some z=>
  if z.length≠0/\len*z.length<=16777216/\(parts.all fun p=>p.2.cells.toList.all Value.oneCell')=true then
   (V7 (fun i=>some (i*z.length,z.length)) (List.replicate len z).flatten parts).map fun cs=>(.slice (some ⟨H.n,0,none⟩) len len,H.push (.cells cs true z.length))
  else none
 |none=>none
def bsA(P:Program)(e:Option TypeId)(H:d7)(len:Nat)(parts:List (Nat×aet)):Option (aet×d7):=
 match e with
 |some e=>bsB (N3 P e) H len parts
 |none=>none
def si(t:TypeId)(H:d7)(D:Nat)(u:List (Nat×aet)):T7 P H t D u=bsA P (F8 P t) H D u:=by
 simp only[T7,bsA];cases F8 P t with
 |none=>rfl
 |some e=>
  simp only[bsB];cases N3 P e with
  |none=>rfl
  |some z=>
   simp only;by_cases h:z.length≠0/\D*z.length<=16777216/\(u.all fun p=>p.2.cells.toList.all oC)=true
   .rw[cA h,bt (by rw[h.2.2];simp only[ac4,aco];omega)];cases V7 (fun i=>some (i*z.length,z.length)) (List.replicate D z).flatten u<;>rfl
   .rw[bt h,cA];by_cases E:(u.all fun p=>p.2.cells.toList.all oC)=true
    .rw[E]at h ⊢;simp only[adV,ac4,aco]at h ⊢;omega
    .exact .inr (.inr (by simpa using E))
def E5(e:TypeId)(H:d7)(u:Nat)(h:List (Nat×aet)):bsA P (some e) H u h=bsB (N3 P e) H u h:=rT
def E6(z:LV)(H:d7)(u:Nat)(h:List (Nat×aet)):bsB (some z) H u h=
  if z.length≠0/\u*z.length<=16777216/\(h.all fun p=>p.2.cells.toList.all oC)=true then
   (V7 (fun i=>some (i*z.length,z.length)) (List.replicate u z).flatten h).map fun cs=>(.slice (some ⟨H.n,0,none⟩) u u,H.push (.cells cs true z.length))
  else none:=rT
def GX(s d:Option TypeDesc)(n:Int):Option (aet×Option d7):=
 match s,d with
 |some _,some (.int k)=>some (.int k (k.wrap n),none)
 |_,_=>none
def KV(H:d7)(s d:TypeId)(k:IntKind)(n:Int):aU P H s d (.int k n)=GX (P.underlying s) (P.underlying d) n:=by
 simp only[aU,GX];cases P.underlying s with
 |none=>rfl
 |some a=>cases P.underlying d with
  |none=>cases a<;>rfl
  |some b=>cases a<;>cases b<;>rfl
def zX(a:TypeDesc)(k:IntKind)(n:Int):GX (some a) (some (.int k)) n=some (.int k (k.wrap n),none):=rT
def Qa(d:Option TypeDesc)(s:aes):Option (aet×Option d7):=
 match d with
 |some .string=>some (.int .i64 s.size,none)
 |some (.array n _)=>some (.int .i64 n,none)
 |_=>none
def LH(H:d7)(t:TypeId)(s:aes):D9 P .len [t] [.string s] H=Qa (P.underlying t) s:=by
 simp only[D9,Iw,Qa,aa1,aas];cases P.underlying t with
 |none=>rfl
 |some d=>cases d<;>rfl
def Ix(s:aes):Qa (some .string) s=some (.int .i64 s.size,none):=rT
def Qb(d:Option TypeDesc)(n:Nat):Option (aet×Option d7):=
 match d with
 |some (.slice _)=>some (.int .i64 n,none)
 |some (.array m _)=>some (.int .i64 m,none)
 |_=>none
def LI(H:d7)(t:TypeId)(a:Option Addr)(n c:Nat):D9 P .len [t] [.slice a n c] H=Qb (P.underlying t) n:=by
 simp only[D9,Iw,Qb,aa1,aas];cases P.underlying t with
 |none=>rfl
 |some d=>cases d<;>rfl
def AM(e:TypeId)(n:Nat):Qb (some (.slice e)) n=some (.int .i64 n,none):=rT
def wrap_small{n:Int}(h: -9223372036854775808<=n)(u:n<=9223372036854775807):IntKind.wrap .i64 n=n:=by
 simp [IntKind.wrap,IntKind.min,IntKind.max,IntKind.signed,IntKind.bits];omega
def gD(v:aet)(H H':d7)(u:N8 v=true)(h:H.n<=H'.low):E7 v H H'=(v,none):=by
 unfold E7;rw[u];simp only[aaL,xo];exact cA h
def xI(b:Bool)(H H':d7)(h:H.n<=H'.low):E7 (.bool b) H H'=(.bool b,none):=gD _ _ _ rfl h
def qg(k:IntKind)(n:Int)(H H':d7)(h:H.n<=H'.low):E7 (.int k n) H H'=(.int k n,none):=gD _ _ _ rfl h
def MV(s:aes)(H H':d7)(h:H.n<=H'.low):E7 (.string s) H H'=(.string s,none):=gD _ _ _ rfl h
def Am(H H':d7)(h:H.n<=H'.low):E7 (.slice none 0 0) H H'=(.slice none 0 0,none):=gD _ _ _ rfl h
def xK(a b:aet)(H H':d7)(u:H.n<=H'.low):E7 (.tuple #[a,b]) H H'=br (na1 a&&na1 b) (.tuple #[a,b],none) (.tuple #[a,b],some ⟨H'.bs,min H.low H'.low⟩):=by
 unfold E7 br;rw[tZ];by_cases h:(na1 a&&na1 b)=true
 .rw[cA h,h];simp only[aaL,xo];exact cA u
 .rw[bt h];simp only[acS]at h;rw[h];rfl
def xL(a b c:aet)(H H':d7)(u:H.n<=H'.low):E7 (.tuple #[a,b,c]) H H'=br (na1 a&&(na1 b&&na1 c)) (.tuple #[a,b,c],none) (.tuple #[a,b,c],some ⟨H'.bs,min H.low H'.low⟩):=by
 unfold E7 br;rw[ud];by_cases h:(na1 a&&(na1 b&&na1 c))=true
 .rw[cA h,h];simp only[aaL,xo];exact cA u
 .rw[bt h];simp only[acS]at h;rw[h];rfl
def vk(a:Addr)(n c:Nat)(H H':d7):E7 (.slice (some a) n c) H H'=(.slice (some a) n c,some ⟨H'.bs,min H.low H'.low⟩):=rT
def Al(u:Array aet)(H H':d7)(z:H.n<=H'.low):E7 (.agg u) H H'=br (u.toList.all na0) (.agg u,none) (.agg u,some ⟨H'.bs,min H.low H'.low⟩):=by
 unfold E7 br;have e:N8 (.agg u)=u.toList.all na0:=rT;rw[e];by_cases h:u.toList.all na0=true
 .rw[cA h,h];simp only[aaL,xo];exact cA z
 .rw[bt h];simp only[acS]at h;rw[h];rfl
def IJ(b:Bool):na0 (.bool b)=true:=rT
def lM(k:IntKind)(n:Int):na0 (.int k n)=true:=rT
def AQ(s:aes):na0 (.string s)=true:=rT
def EY(a:Addr)(n c:Nat):na0 (.slice (some a) n c)=false:=rT
def LT:na0 (.slice none 0 0)=true:=rT
def u7(x:Option (Out×Env×d7))(G:Out->Env->d7->Prop):Of G Prop:=∃o e H,x=some (o,e,H)/\G o e H
def fT(o:Out)(e:Env)(H:d7)(G:Out->Env->d7->Prop):u7 (some (o,e,H)) G=G o e H:=by
 refine propext ⟨?_,fun h=>⟨o,e,H,rfl,h⟩⟩;rintro⟨z,e',H',h,u⟩;cases h;exact u
def bD(n:Nat)(I:Nat->Env->d7->Prop)(Q:Out->Env->d7->Prop)(o:Out)(e:Env)(H:d7):Of n (Of I (Of Q Prop)):=
 match o with
 | .normal=>∃m,m<n/\I m e H
 | .exit i=>Q (.exit i) e H
 | .ret=>Q .ret e H
def d8{n:Nat}{Q:Out->Env->d7->Prop}{e:Env}{H:d7}(m:Nat)(u:m<n)(h:I m e H):bD n I Q .normal e H:=⟨m,u,h⟩
def i6{n:Nat}{Q:Out->Env->d7->Prop}{e:Env}{H:d7}(h:Q (.exit i) e H):bD n I Q (.exit i) e H:=h
def w9{n:Nat}{Q:Out->Env->d7->Prop}{e:Env}{H:d7}(h:Q .ret e H):bD n I Q .ret e H:=h
end
structure LOp where
 dst:Option Tmp
 op:Op
 guard:Option (Tmp×Bool)
structure ML where
 o:LOp
 turn:Bool
 rd:Bool
 lo:Nat
 hi:Nat
inductive t5 where
 |skip
 |ret
 |exit (id:Nat)
 |ops (l:List LOp)
 |draw (l:List (LOp×Bool))
 |mix (l:List ML)
 |seq (a b:t5)
 |cond (x:Operand) (a b:t5)
 |block (id:Nat) (a:t5)
 |loop (a:t5)
 |scope (a:t5)
 |coin (l1 l2:List LOp) (ds:List Nat) (b:t5)
def lop(ops:Array Oper)(o:Oper):Option LOp:=
 match o.guard with
 |none=>some ⟨o.dst,o.op,none⟩
 |some (j,b)=>match(ops[j]?).bind (·.dst)with
  |some d=>some ⟨o.dst,o.op,some (d,b)⟩
  |none=>none
def vI(ops:Array Oper):List Oper->Option (List LOp)
 |[]=>some []
 |o::r=>match lop ops o,vI ops r with
  |some x,some xs=>some (x::xs)
  |_,_=>none
def nM(ops:Array Oper):Nat->List Oper->Option (List (LOp×Bool))
 |_,[]=>some []
 |i,o::r=>match lop ops o,nM ops (i+1) r with
  |some x,some xs=>some ((x,Dc ops i)::xs)
  |_,_=>none
def Iy(ops:Array Oper):List (Oper×Nat×Nat)->Option (List ML)
 |[]=>some []
 |(o,lo,hi)::r=>match lop ops o,Iy ops r with
  |some x,some xs=>some (⟨x,C0 o.op,rdK o.op,lo,hi⟩::xs)
  |_,_=>none
def T2:Code->Option t5
 | .skip=>some .skip
 | .ret=>some .ret
 | .exit id=>some (.exit id)
 | .region _ ops draw=>
  if draw then(if vL ops then(if nO ops (F5 ops.toList []) then(Iy ops (lI ops)).map .mix else none) else if Region.lexB .any ops then(nM ops 0 ops.toList).map .draw else none) else(vI ops ops.toList).map .ops
 | .seq a b=>match tp a b with
  |some z=>match vI z.ops z.l1,vI z.ops z.l2,T2 b with
   |some x,some y,some b'=>some (.coin x y z.ds b')
   |_,_,_=>none
  |none=>match T2 a,T2 b with
   |some x,some y=>some (.seq x y)
   |_,_=>none
 | .cond c a b=>match T2 a,T2 b with
  |some x,some y=>some (.cond c x y)
  |_,_=>none
 | .block id a=>(T2 a).map (.block id)
 | .loop a=>(T2 a).map .loop
 | .scope a=>(T2 a).map .scope
 |_=>none
section
variable{P:Program}
def dC(e:Env):Option (Tmp×Bool)->Bool
 |none=>true
 |some (d,b)=>isB (e.g d) b
def bM(e:Env):Option (Tmp×Bool)->Bool
 |none=>false
 |some (d,_)=>AF (e.g d)
def Z8(P:Program)(C:B9):List LOp->Env->d7->Option (Env×d7)
 |[],e,H=>some (e,H)
 |o::rest,e,H=>
  if bM e o.guard then none else if dC e o.guard then
   match aop P C o.op e H with
   |some (v,none)=>Z8 P C rest (L7 e o.dst v) H
   |some (v,some H')=>Z8 P C rest (L7 e o.dst v) H'
   |none=>none
  else Z8 P C rest (L7 e o.dst undef) H
def bf(P:Program)(C:B9):Bool->List (LOp×Bool)->Env->d7->Option (Env×d7)
 |_,[],e,H=>some (e,H)
 |q,(o,t)::rest,e,H=>
  if bM e o.guard then none else if dC e o.guard then
   match aop P C o.op e H with
   |some (v,none)=>bf P C (q||isCall o.op) rest (L7 e o.dst v) H
   |some (v,some H')=>if !q&&t then Z8 P C (rest.map (·.1)) (L7 e o.dst v) H' else none
   |none=>none
  else bf P C q rest (L7 e o.dst undef) H
open Classical in
noncomputable def C9(P:Program)(C:B9):Nat->List (Nat×d7)->List (Op×Env×aet×Nat)->List ML->Env->d7->Option (Env×d7)
 |_,_,_,[],e,H=>some (e,H)
 |t,Ks,obs,⟨o,tn,rd,lo,hi⟩::rest,e,H=>
  if bM e o.guard then none else if dC e o.guard then
   if tn then
    match aop P C o.op e H with
    |some (v,r)=>if uY P obs (t+1) (r.getD H) then C9 P C (t+1) ((t,H)::Ks) obs rest (L7 e o.dst v) (r.getD H) else none
    |none=>none
   else
    match aop P noC o.op e H with
    |some (v,none)=>if rd then(if uX P o.op e v lo Ks then C9 P C t Ks ((o.op,e,v,hi)::obs) rest (L7 e o.dst v) H else none) else C9 P C t Ks obs rest (L7 e o.dst v) H
    |_=>none
  else if tn then C9 P C (t+1) ((t,H)::Ks) obs rest (L7 e o.dst undef) H
  else C9 P C t Ks obs rest (L7 e o.dst undef) H
noncomputable def D5(P:Program)(C:B9):Nat->t5->Env->d7->Option (Out×Env×d7)
 |0,_,_,_=>none
 |k+1,c,e,H=>
  match c with
  | .skip=>some (.normal,e,H)
  | .ret=>some (.ret,e,H)
  | .exit id=>some (.exit id,e,H)
  | .ops l=>
   match Z8 P C l e H with
   |some (e',H')=>some (.normal,e',H')
   |none=>none
  | .draw l=>
   match bf P C false l e H with
   |some (e',H')=>some (.normal,e',H')
   |none=>none
  | .mix l=>
   match C9 P C 0 [] [] l e H with
   |some (e',H')=>some (.normal,e',H')
   |none=>none
  | .seq a b=>
   match D5 P C k a e H with
   |some (.normal,e',H')=>D5 P C k b e' H'
   |r=>r
  | .cond x a b=>
   match opv e x with
   | .bool t=>D5 P C k (if t then a else b) e H
   |_=>none
  | .block id a=>
   match D5 P C k a e H with
   |some (.exit i,e',H')=>if i=id then some (.normal,e',H') else some (.exit i,e',H')
   |r=>r
  | .loop a=>
   match D5 P C k a e H with
   |some (.normal,e',H')=>D5 P C k (.loop a) e' H'
   |r=>r
  | .scope a=>D5 P C k a e H
  | .coin l1 l2 ds b=>
   match Z8 P C l1 e H,Z8 P C l2 e H with
   |some (e1,H1),some (e2,H2)=>HR ds e H.n (D5 P C k b e1 H1) (D5 P C k b e2 H2)
   |_,_=>none
def qH(h:lop ops o=some x)(e:Env):F0 ops e o=dC e x.guard/\x.op=o.op/\x.dst=o.dst/\ak ops e o=bM e x.guard:=by
 unfold lop at h;unfold F0 ak;split at h
 next u=>cases h;simp [u,dC,bM]
 .rename_i j b u;split at h
  next d z=>cases h;simp [u,z,dC,bM]
  .cases h
def fB(C:B9):∀{l:List Oper}{u:List LOp},vI ops l=some u->∀e H,D7 P C ops l e H=Z8 P C u e H
 |[],u,h,e,H=>by simp only[vI,aaa]at h;subst h;rfl
 |o::r,u,h,e,H=>by
  simp only[vI]at h;split at h
  next x xs O z=>cases h;obtain⟨D,E,I,J⟩:=qH O e;simp only[D7,Z8,D,E,I,J,fB C z];rfl
  .cases h
def tV:∀{l:List Oper}{i:Nat}{u:List (LOp×Bool)},nM ops i l=some u->vI ops l=some (u.map (·.1))
 |[],i,u,h=>by simp only[nM,aaa]at h;subst h;rfl
 |o::r,i,u,h=>by
  simp only[nM]at h;split at h
  next x xs D z=>cases h;simp only[vI,D,tV z,aaQ]
  .cases h
def qC(u:Region.lexB .any ops=true)(C:B9):∀{l:List Oper}{i:Nat}{D:List (LOp×Bool)},nM ops i l=some D->∀q e H,L6 P C ops i q l e H=bf P C q D e H
 |[],i,D,h,q,e,H=>by simp only[nM,aaa]at h;subst h;simp [L6,bf,u]
 |o::r,i,D,h,q,e,H=>by
  simp only[nM]at h;split at h
  next x xs S z=>cases h;obtain⟨E,I,J,O⟩:=qH S e;simp only[L6,bf,E,I,J,O,qC u C z,fB C (tV z)];rfl
  .cases h
def tY(C:B9):∀{l:List (Oper×Nat×Nat)}{u:List ML},Iy ops l=some u->∀t Ks obs e H,M0 P C ops t Ks obs l e H=C9 P C t Ks obs u e H
 |[],u,h,t,Ks,obs,e,H=>by simp only[Iy,aaa]at h;subst h;rfl
 |(o,lo,hi)::r,u,h,t,Ks,obs,e,H=>by
  simp only[Iy]at h;split at h
  next x xs O z=>cases h;obtain⟨D,E,I,J⟩:=qH O e;obtain⟨S,W,U⟩:=x;simp only at D E I J;subst E I;simp only[M0,C9,D,J,tY C z];rcases aop P noC o.op e H with _|⟨v,_|H2⟩<;>rcases aop P C o.op e H with _|⟨v2,H3⟩<;>rfl
  .cases h
def qE(C:B9):∀(k:Nat){c:Code}{l:t5},T2 c=some l->∀e H,N4 P C k c e H=D5 P C k l e H:=by
 intro k;induction k with
 |zero=>intro c l _ e H;rfl
 |succ k D=>
  intro c l h e H;cases c<;>simp only[T2]at h<;>try (cases h;done)
  case skip=>cases h;rfl
  case ret=>cases h;rfl
  case exit id=>cases h;rfl
  case region id ops I=>
   split at h
   .rename_i U;subst U;split at h
    .rename_i W;split at h
     next a1=>obtain⟨E,u,rfl⟩:=ZZ.1 h;simp only[N4,D5,aab,bS,cA W,cA a1,tY C u];rfl
     .cases h
    .rename_i W;split at h
     next J=>obtain⟨E,u,rfl⟩:=ZZ.1 h;simp only[N4,D5,aab,bS,bt W,qC J C u];rfl
     .cases h
   .rename_i U;obtain⟨E,u,rfl⟩:=ZZ.1 h;have:I=false:=by simpa using U
    subst this;simp only[N4,D5,bF,fB C u];rfl
  case seq a b=>
   split at h
   .rename_i z S;split at h
    next x y b' hx O hb=>cases h;simp only[N4,S,D5,fB C hx,fB C O,D hb];rfl
    .cases h
   .rename_i S;split at h
    next x y hx O=>cases h;simp only[N4,S,D5,D hx,D O];rfl
    .cases h
  case cond x a b=>
   split at h
   .rename_i y z O S;cases h;simp only[N4,D5];cases opv e x<;>first|rfl|skip
    rename_i t;cases t<;>simp [D O,D S]
   .cases h
  case block id a=>obtain⟨E,u,rfl⟩:=ZZ.1 h;simp only[N4,D5,D u];rfl
  case loop a=>
   obtain⟨E,u,rfl⟩:=ZZ.1 h;have h2:T2 (.loop a)=some (.loop E):=by simp [T2,u]
   simp only[N4,D5,D u,D h2];rfl
  case scope a=>obtain⟨E,u,rfl⟩:=ZZ.1 h;simp only[N4,D5,D u]
noncomputable def LE(P:Program)(X:Lib)(c:t5)(e:Env)(H:d7):Of c (Option (Out×Env×d7)):=lim fun k=>D5 P (CL P X) k c e H
def jB{C D:B9}(h:LeC C D):∀(l:List LOp)(e:Env)(H:d7),LeO (Z8 P C l e H) (Z8 P D l e H):=by
 intro l;induction l with
 |nil=>intro e H r u;exact u
 |cons o l J=>
  intro e H r u;simp only[Z8]at u ⊢;by_cases z:bM e o.guard=true
  .rw[cA z]at u;cases u
  simp only[bt z]at u ⊢;split
  .rename_i I;rw[cA I]at u;cases E:aop P C o.op e H with
   |none=>simp [E]at u
   |some q=>
    rw[aj h _ _ _ _ E];rw[E]at u;obtain⟨v,q⟩:=q;cases q with
    |none=>exact J _ _ _ u
    |some H'=>exact J _ _ _ u
  next I=>rw[bt I]at u;exact J _ _ _ u
def BB{C D:B9}(h:LeC C D):∀(l:List (LOp×Bool))(q:Bool)(e:Env)(H:d7),LeO (bf P C q l e H) (bf P D q l e H):=by
 intro l;induction l with
 |nil=>intro q e H r u;exact u
 |cons o l O=>
  intro q e H r u;obtain⟨o,t⟩:=o;simp only[bf]at u ⊢;by_cases z:bM e o.guard=true
  .rw[cA z]at u;cases u
  simp only[bt z]at u ⊢;split
  .rename_i J;rw[cA J]at u;cases I:aop P C o.op e H with
   |none=>simp [I]at u
   |some x=>
    rw[aj h _ _ _ _ I];rw[I]at u;obtain⟨v,x⟩:=x;cases x with
    |none=>exact O _ _ _ _ u
    |some H'=>
     simp only at u ⊢;split
     next E=>rw[cA E]at u;exact jB h _ _ _ _ u
     next E=>rw[bt E]at u;exact u
  next J=>rw[bt J]at u;exact O _ _ _ _ u
def vX{C D:B9}(h:LeC C D):∀(l:List ML)(t:Nat)(Ks:List (Nat×d7))(obs:List (Op×Env×aet×Nat))(e:Env)(H:d7),LeO (C9 P C t Ks obs l e H) (C9 P D t Ks obs l e H):=by
 intro l;induction l with
 |nil=>intro t Ks obs e H r u;exact u
 |cons o l I=>
  obtain⟨o,tn,rd,lo,hi⟩:=o;intro t Ks obs e H r u;simp only[C9]at u ⊢;by_cases E:bM e o.guard=true
  .rw[cA E]at u;cases u
  simp only[bt E]at u ⊢;split
  .rename_i U;rw[cA U]at u;split
   .rename_i z;rw[cA z]at u;cases S:aop P C o.op e H with
    |none=>simp [S]at u
    |some x=>
     rw[aj h _ _ _ _ S];rw[S]at u;obtain⟨v,x⟩:=x;simp only at u ⊢;split
     next J=>rw[cA J]at u;exact I _ _ _ _ _ _ u
     next J=>rw[bt J]at u;exact u
   .rename_i z;rw[bt z]at u;split at u
    .rename_i v hv;split at u
     .rename_i O;rw[cA O];split at u
      next W=>rw[cA W];exact I _ _ _ _ _ _ u
      .cases u
     next O=>rw[bt O];exact I _ _ _ _ _ _ u
    .cases u
  .rename_i U;rw[bt U]at u;split
   next z=>rw[cA z]at u;exact I _ _ _ _ _ _ u
   next z=>rw[bt z]at u;exact I _ _ _ _ _ _ u
def aF{C D:B9}(h:LeC C D):∀(k J:Nat),k<=J->∀(c:t5)(e:Env)(H:d7),LeO (D5 P C k c e H) (D5 P D J c e H):=by
 intro k;induction k with
 |zero=>intro J _ c e H r u;cases u
 |succ k ih=>
  intro J hk c e H r u;obtain⟨J,rfl⟩:∃m,J=m+1:=⟨J-1,oM⟩
  have I:=fun c e H r(u:D5 P C k c e H=some r)=>ih J oM c e H r u;cases c<;>simp only[D5]at u ⊢ <;>try exact u
  case ops l=>
   cases E:Z8 P C l e H with
   |none=>simp [E]at u
   |some x=>rw[jB h _ _ _ _ E];rw[E]at u;exact u
  case draw l=>
   cases E:bf P C false l e H with
   |none=>simp [E]at u
   |some x=>rw[BB h _ _ _ _ _ E];rw[E]at u;exact u
  case mix l=>
   cases E:C9 P C 0 [] [] l e H with
   |none=>simp [E]at u
   |some x=>rw[vX h _ _ _ _ _ _ _ E];rw[E]at u;exact u
  case seq x y=>
   cases E:D5 P C k x e H with
   |none=>simp [E]at u
   |some z=>
    rw[I _ _ _ _ E];rw[E]at u;obtain⟨o,e',H'⟩:=z;cases o with
    |normal=>exact I _ _ _ _ u
    |exit id=>exact u
    |ret=>exact u
  case cond x y z=>
   split
   next t W=>rw[W]at u;exact I _ _ _ _ u
   .rename_i U;split at u
    next t W=>exact absurd W (U t)
    .exact u
  case block id x=>
   cases E:D5 P C k x e H with
   |none=>simp [E]at u
   |some z=>rw[I _ _ _ _ E];rw[E]at u;exact u
  case loop x=>
   cases E:D5 P C k x e H with
   |none=>simp [E]at u
   |some z=>
    rw[I _ _ _ _ E];rw[E]at u;obtain⟨o,e',H'⟩:=z;cases o with
    |normal=>exact I _ _ _ _ u
    |exit id=>exact u
    |ret=>exact u
  case scope x=>exact I _ _ _ _ u
  case coin l1 l2 ds b=>
   cases O:Z8 P C l1 e H with
   |none=>simp [O]at u
   |some q1=>
    cases S:Z8 P C l2 e H with
    |none=>simp [O,S]at u
    |some q2=>
     obtain⟨e1,H1⟩:=q1;obtain⟨e2,H2⟩:=q2;rw[O,S]at u;rw[jB h _ _ _ _ O,jB h _ _ _ _ S];obtain⟨o,e',H'⟩:=r;obtain⟨e3,H3,e4,H4,g1,g2,g3,rfl,rfl,rfl⟩:=Y1 u;exact iX (I _ _ _ _ g1) (I _ _ _ _ g2) g3
def V4{X:Lib}{c:t5}{e:Env}{H:d7}:LE P X c e H=some r↔∃k,D5 P (CL P X) k c e H=some r:=
 Iu fun k u h=>aF (fun _ _ _=>LeO.refl _) k u h c e H
variable{X:Lib}
def Y8{c:t5}{e:Env}{H:d7}(z:∀k r,D5 P (CL P X) (k+1) c e H=some r->y=some r) (D:∀r,y=some r->∃k,D5 P (CL P X) k c e H=some r):LE P X c e H=y:=by
 refine vR fun r=>⟨fun h=>?_,fun h=>V4.2 (D r h)⟩
 obtain⟨k,u⟩:=V4.1 h;cases k with
 |zero=>cases u
 |succ k=>exact z k r u
def Z0{c:t5}{e:Env}{H:d7}:LeO (D5 P (CL P X) k c e H) (LE P X c e H):=fun r h=>V4.2 ⟨k,h⟩
def Kp(e:Env)(H:d7):LE P X .skip e H=some (.normal,e,H):=Y8 (fun k r h=>h) fun r h=>⟨1,h⟩
def NW(e:Env)(H:d7):LE P X .ret e H=some (.ret,e,H):=Y8 (fun k r h=>h) fun r h=>⟨1,h⟩
def Ko(id:Nat)(e:Env)(H:d7):LE P X (.exit id) e H=some (.exit id,e,H):=Y8 (fun k r h=>h) fun r h=>⟨1,h⟩
def NX(a b:t5)(e:Env)(H:d7):LE P X (.seq a b) e H=u6 (LE P X a e H) (LE P X b):=by
 refine Y8 (fun k r h=>?_) fun r h=>?_
 .simp only[D5]at h;cases u:D5 P (CL P X) k a e H with
  |none=>simp [u]at h
  |some z=>
   rw[u]at h;rw[Z0 _ u];obtain⟨o,e',H'⟩:=z;cases o with
   |normal=>exact Z0 _ h
   |exit i=>exact h
   |ret=>exact h
 .cases u:LE P X a e H with
  |none=>simp [u,u6]at h
  |some z=>
   rw[u]at h;obtain⟨I,E⟩:=V4.1 u;obtain⟨o,e',H'⟩:=z;have D:o≠ .normal->some (o,e',H')=some r->∃k,D5 P (CL P X) k (.seq a b) e H=some r:=by
    intro U S;refine⟨I+1,?_⟩;simp only[D5,E];cases o<;>first|exact absurd rfl U|exact S
   cases o with
   |normal=>
    obtain⟨J,O⟩:=V4.1 h;refine⟨max I J+1,?_⟩;simp only[D5,aF (fun _ _ _=>LeO.refl _) I (max I J) (abO _ _) _ _ _ _ E];exact aF (fun _ _ _=>LeO.refl _) J (max I J) (abD _ _) _ _ _ _ O
   |exit i=>exact D sM h
   |ret=>exact D sM h
def Q9(a:t5)(e:Env)(H:d7):LE P X (.loop a) e H=u6 (LE P X a e H) (LE P X (.loop a)):=by
 refine Y8 (fun k r h=>?_) fun r h=>?_
 .simp only[D5]at h;cases u:D5 P (CL P X) k a e H with
  |none=>simp [u]at h
  |some z=>
   rw[u]at h;rw[Z0 _ u];obtain⟨o,e',H'⟩:=z;cases o with
   |normal=>exact Z0 _ h
   |exit i=>exact h
   |ret=>exact h
 .cases u:LE P X a e H with
  |none=>simp [u,u6]at h
  |some z=>
   rw[u]at h;obtain⟨I,E⟩:=V4.1 u;obtain⟨o,e',H'⟩:=z;have D:o≠ .normal->some (o,e',H')=some r->∃k,D5 P (CL P X) k (.loop a) e H=some r:=by
    intro U S;refine⟨I+1,?_⟩;simp only[D5,E];cases o<;>first|exact absurd rfl U|exact S
   cases o with
   |normal=>
    obtain⟨J,O⟩:=V4.1 h;refine⟨max I J+1,?_⟩;simp only[D5,aF (fun _ _ _=>LeO.refl _) I (max I J) (abO _ _) _ _ _ _ E];exact aF (fun _ _ _=>LeO.refl _) J (max I J) (abD _ _) _ _ _ _ O
   |exit i=>exact D sM h
   |ret=>exact D sM h
def Km(x:Operand)(a b:t5)(e:Env)(H:d7)(h:opv e x= .bool t):LE P X (.cond x a b) e H=if t then LE P X a e H else LE P X b e H:=by
 refine Y8 (fun k r u=>?_) fun r u=>?_
 .simp only[D5,h]at u;cases t<;>exact Z0 _ u
 .cases t
  .obtain⟨k,z⟩:=V4.1 u;exact⟨k+1,by simp only[D5,h];exact z⟩
  .obtain⟨k,z⟩:=V4.1 u;exact⟨k+1,by simp only[D5,h];exact z⟩
def Gc(id:Nat)(a:t5)(e:Env)(H:d7):LE P X (.block id a) e H=inBlock id (LE P X a e H):=by
 refine Y8 (fun k r h=>?_) fun r h=>?_
 .simp only[D5]at h;cases u:D5 P (CL P X) k a e H with
  |none=>simp [u]at h
  |some z=>rw[u]at h;rw[Z0 _ u];exact h
 .cases u:LE P X a e H with
  |none=>simp [u,inBlock]at h
  |some z=>
   rw[u]at h;obtain⟨E,D⟩:=V4.1 u;exact⟨E+1,by simp only[D5,D];exact h⟩
def Ge(a:t5)(e:Env)(H:d7):LE P X (.scope a) e H=LE P X a e H:=by
 refine Y8 (fun k r h=>?_) fun r h=>?_
 .exact Z0 _ h
 .obtain⟨z,u⟩:=V4.1 h;exact⟨z+1,u⟩
def NV(l:List LOp)(e:Env)(H:d7):LE P X (.ops l) e H=U4 (Z8 P (CL P X) l e H):=by
 refine Y8 (fun k r h=>?_) fun r h=>⟨1,?_⟩
 .simp only[D5]at h;unfold U4;split at h
  next u=>rw[u];exact h
  .cases h
 .simp only[D5];unfold U4 at h;cases u:Z8 P (CL P X) l e H with
  |none=>simp [u]at h
  |some z=>simp only[u,aaU]at h;exact h
def Kn(l:List (LOp×Bool))(e:Env)(H:d7):LE P X (.draw l) e H=U4 (bf P (CL P X) false l e H):=by
 refine Y8 (fun k r h=>?_) fun r h=>⟨1,?_⟩
 .simp only[D5]at h;unfold U4;split at h
  next u=>rw[u];exact h
  .cases h
 .simp only[D5];unfold U4 at h;cases u:bf P (CL P X) false l e H with
  |none=>simp [u]at h
  |some z=>simp only[u,aaU]at h;exact h
def Ga{c:Code}(h:T2 c=some l)(e:Env)(H:d7):EL P X c e H=LE P X l e H:=by
 unfold EL LE
 congr 1
 funext k
 exact qE (CL P X) k h e H
def fnL(P:Program)(f:FuncId):Option (t5×Nat×List ResultVar):=
 match fnA P f with
 |some (c,nt,rs)=>match T2 c with
  |some l=>some (l,nt,rs)
  |none=>none
 |none=>none
def i8(h:fnL P f=some (l,u,z))(D:X f=none)(args:LV)(J:args.length<=u)(H:d7):
  CL P X f args H=t6 P z H (LE P X l (Q4 0 args) ⟨H.bs,H.n⟩):=by
 unfold fnL at h;split at h
 .rename_i c nt' O E;split at h
  next S I=>cases h;rw[NQ E D args J H,Ga I];rfl
  .cases h
 .cases h
def Gd(x:Operand)(a b:t5)(e:Env)(H:d7):LE P X (.cond x a b) e H=GU (opv e x) (LE P X a e H) (LE P X b e H):=by
 cases h:opv e x with
 |bool t=>rw[Km x a b e H h];rfl
 |_=>
  refine Y8 (fun k r u=>?_) fun r u=>?_
  .simp only[D5,h]at u;cases u
  .simp only[GU]at u;cases u
def Jw(C:B9)(e:Env)(H:d7):Z8 P C [] e H=some (e,H):=rT
def BC(dst:Option Tmp)(op:Op)(rest:List LOp)(e:Env)(H:d7):
  Z8 P (CL P X) (⟨dst,op,none⟩::rest) e H=iI (aop P (CL P X) op e H) H fun v H'=>Z8 P (CL P X) rest (L7 e dst v) H':=by
 simp only[Z8,dC,bM,aab,bF,iI]
 all_goals rfl
def Mz(dst:Option Tmp)(op:Op)(d:Tmp)(b:Bool)(rest:List LOp)(e:Env)(H:d7):
  Z8 P (CL P X) (⟨dst,op,some (d,b)⟩::rest) e H=
   brl (e.g d) b (iI (aop P (CL P X) op e H) H fun v H'=>Z8 P (CL P X) rest (L7 e dst v) H') (Z8 P (CL P X) rest (L7 e dst undef) H):=by
 simp only[Z8,dC,bM,iI,brl];rfl
def xr(q t:Bool)(x:Option (Env×d7)):Of x (Option (Env×d7)):=if(!q&&t)=true then x else none
def Hk(x:Option (Env×d7)):xr false true x=x:=rT
def FB(C:B9)(q:Bool)(e:Env)(H:d7):bf P C q [] e H=some (e,H):=rT
def yO(q t:Bool)(dst:Option Tmp)(op:Op)(rest:List (LOp×Bool))(e:Env)(H:d7):
  bf P (CL P X) q ((⟨dst,op,none⟩,t)::rest) e H=
   tq (aop P (CL P X) op e H) (fun v=>bf P (CL P X) (q||isCall op) rest (L7 e dst v) H) fun v H'=>xr q t (Z8 P (CL P X) (rest.map (·.1)) (L7 e dst v) H'):=by
 simp only[bf,dC,bM,aab,bF,tq,xr]
 all_goals rfl
def Jv(q t:Bool)(dst:Option Tmp)(op:Op)(d:Tmp)(b:Bool)(rest:List (LOp×Bool))(e:Env)(H:d7):
  bf P (CL P X) q ((⟨dst,op,some (d,b)⟩,t)::rest) e H=
   brl (e.g d) b (tq (aop P (CL P X) op e H) (fun v=>bf P (CL P X) (q||isCall op) rest (L7 e dst v) H) fun v H'=>xr q t (Z8 P (CL P X) (rest.map (·.1)) (L7 e dst v) H'))
    (bf P (CL P X) q rest (L7 e dst undef) H):=by
 simp only[bf,dC,bM,tq,xr,brl]
 all_goals rfl
def Kl(O l2:List LOp)(ds:List Nat)(b:t5)(e:Env)(H:d7):LE P X (.coin O l2 ds b) e H=HR ds e H.n (u6 (U4 (Z8 P (CL P X) O e H)) (LE P X b)) (u6 (U4 (Z8 P (CL P X) l2 e H)) (LE P X b)):=by
 refine Y8 (fun k r h=>?_) fun r h=>?_
 .simp only[D5]at h;cases u:Z8 P (CL P X) O e H with
  |none=>simp [u]at h
  |some q1=>
   cases E:Z8 P (CL P X) l2 e H with
   |none=>simp [u,E]at h
   |some q2=>
    obtain⟨e1,H1⟩:=q1;obtain⟨e2,H2⟩:=q2;rw[u,E]at h;obtain⟨o,e',H'⟩:=r;obtain⟨e3,H3,e4,H4,z,D,S,rfl,rfl,rfl⟩:=Y1 h;exact iX (Z0 _ z) (Z0 _ D) S
 .obtain⟨o,e',H'⟩:=r;obtain⟨e3,H3,e4,H4,z,D,S,rfl,rfl,rfl⟩:=Y1 h;cases u:Z8 P (CL P X) O e H with
  |none=>rw[u]at z;cases z
  |some q1=>
   cases E:Z8 P (CL P X) l2 e H with
   |none=>rw[E]at D;cases D
   |some q2=>
    rw[u]at z;rw[E]at D;obtain⟨I,U⟩:=V4.1 z;obtain⟨J,W⟩:=V4.1 D;refine⟨max I J+1,?_⟩;simp only[D5,u,E];exact iX (aF (fun _ _ _=>LeO.refl _) I (max I J) (abO _ _) _ _ _ _ U) (aF (fun _ _ _=>LeO.refl _) J (max I J) (abD _ _) _ _ _ _ W) S
def NU(l:List ML)(e:Env)(H:d7):LE P X (.mix l) e H=U4 (C9 P (CL P X) 0 [] [] l e H):=by
 refine Y8 (fun k r h=>?_) fun r h=>⟨1,?_⟩
 .simp only[D5]at h;unfold U4;split at h
  next u=>rw[u];exact h
  .cases h
 .simp only[D5];unfold U4 at h;cases u:C9 P (CL P X) 0 [] [] l e H with
  |none=>simp [u]at h
  |some z=>simp only[u,aaU]at h;exact h
open Classical in
noncomputable def need{α:Type}(p:Prop)(x:Option α):Of x (Option α):=if p then x else none
def Fb{α:Type}(x:Option α):need True x=x:=by unfold need;exact cA trivial
def AJ(ds:List Nat)(e u z:Env)(n:Nat)(h H2:d7):HR ds e n (some (.normal,u,h)) (some (.normal,z,H2))=need (Q5 n h=Q5 n H2) (some (.normal,ds.map (fun d=>(d,lost))++e,Q5 n h)):=rT
def kX(r:Option (aet×Option d7))(f:aet->Option (Env×d7)):Of f (Option (Env×d7)):=
 match r with
 |some (v,none)=>f v
 |_=>none
def zU(v:aet)(f:aet->Option (Env×d7)):kX (some (v,none)) f=f v:=rT
def okV(x:Option (aet×Option d7))(v:aet):Prop:=x=some (v,none)
def IR(v:aet):okV (some (v,none)) v=True:=by simp [okV]
def Lx(n m:Nat)(p:Prop):Prop:=n<=m->p
def Il{n m:Nat}(p:Prop)(h:n<=m):Lx n m p=p:=propext ⟨fun q=>q h,fun q _=>q⟩
def Ly{n m:Nat}(p:Prop)(h:m<n):Lx n m p=True:=propext ⟨fun _=>trivial,fun _ q=>absurd q oM⟩
def GQ(j:Nat)(H:d7):uY P [] j H=True:=rT
def DR(o:Op)(e:Env)(v:aet)(hi:Nat)(r:List (Op×Env×aet×Nat))(j:Nat)(H:d7):uY P ((o,e,v,hi)::r) j H=(Lx j hi (okV (aop P noC o e H) v)/\uY P r j H):=rT
def GP(o:Op)(e:Env)(v:aet)(lo:Nat):uX P o e v lo []=True:=rT
def DQ(o:Op)(e:Env)(v:aet)(lo j:Nat)(K:d7)(r:List (Nat×d7)):uX P o e v lo ((j,K)::r)=(Lx lo j (okV (aop P noC o e K) v)/\uX P o e v lo r):=rT
section
variable(t:Nat)(Ks:List (Nat×d7))(obs:List (Op×Env×Value×Nat))(dst:Option Tmp)(op:Op)(d:Tmp)(b:Bool)(lo hi:Nat)(rest:List ML)(e:Env)(H:d7)
def LQ:C9 P (CL P X) t Ks obs [] e H=some (e,H):=rT
def IG(h:Bool):C9 P (CL P X) t Ks obs (⟨⟨dst,op,none⟩,true,h,lo,hi⟩::rest) e H=
  iI (aop P (CL P X) op e H) H fun v H'=>need (uY P obs (t+1) H') (C9 P (CL P X) (t+1) ((t,H)::Ks) obs rest (L7 e dst v) H'):=by
 simp only[C9,dC,bM,aab,bF,iI,need];cases aop P (CL P X) op e H with
 |none=>rfl
 |some z=>obtain⟨v,r⟩:=z;cases r<;>rfl
def EW(h:Bool):C9 P (CL P X) t Ks obs (⟨⟨dst,op,some (d,b)⟩,true,h,lo,hi⟩::rest) e H=
  brl (e.g d) b (iI (aop P (CL P X) op e H) H fun v H'=>need (uY P obs (t+1) H') (C9 P (CL P X) (t+1) ((t,H)::Ks) obs rest (L7 e dst v) H')) (C9 P (CL P X) (t+1) ((t,H)::Ks) obs rest (L7 e dst undef) H):=by
 simp only[C9,dC,bM,aab,iI,need,brl];cases aop P (CL P X) op e H with
 |none=>rfl
 |some z=>obtain⟨v,r⟩:=z;cases r<;>rfl
def Ql:C9 P (CL P X) t Ks obs (⟨⟨dst,op,none⟩,false,true,lo,hi⟩::rest) e H=
  kX (aop P noC op e H) fun v=>need (uX P op e v lo Ks) (C9 P (CL P X) t Ks ((op,e,v,hi)::obs) rest (L7 e dst v) H):=by
 simp only[C9,dC,bM,aab,kX,need,bF]
def LR:C9 P (CL P X) t Ks obs (⟨⟨dst,op,some (d,b)⟩,false,true,lo,hi⟩::rest) e H=
  brl (e.g d) b (kX (aop P noC op e H) fun v=>need (uX P op e v lo Ks) (C9 P (CL P X) t Ks ((op,e,v,hi)::obs) rest (L7 e dst v) H)) (C9 P (CL P X) t Ks obs rest (L7 e dst undef) H):=by
 simp only[C9,dC,bM,aab,kX,need,bF,brl]
def IE:C9 P (CL P X) t Ks obs (⟨⟨dst,op,none⟩,false,false,lo,hi⟩::rest) e H=
  kX (aop P noC op e H) fun v=>C9 P (CL P X) t Ks obs rest (L7 e dst v) H:=by
 simp only[C9,dC,bM,aab,kX,bF]
def ET:C9 P (CL P X) t Ks obs (⟨⟨dst,op,some (d,b)⟩,false,false,lo,hi⟩::rest) e H=
  brl (e.g d) b (kX (aop P noC op e H) fun v=>C9 P (CL P X) t Ks obs rest (L7 e dst v) H) (C9 P (CL P X) t Ks obs rest (L7 e dst undef) H):=by
 simp only[C9,dC,bM,aab,kX,bF,brl]
end
def i5{B:t5}(I:Nat->Env->d7->Prop)(Q:Out->Env->d7->Prop)
  (u:∀n e H,I n e H->u7 (LE P X B e H) (bD n I Q)):∀n e H,I n e H->u7 (LE P X (.loop B) e H) Q:=by
 intro n;induction n using Nat.strongRecOn with
 |ind n O=>
  intro e H h;obtain⟨o,e',H',D,z⟩:=u n e H h;unfold u7;rw[Q9,D];cases o with
  |normal=>
   obtain⟨m,J,E⟩:=z;exact O m J e' H' E
  |exit i=>exact⟨_,_,_,rfl,z⟩
  |ret=>exact⟨_,_,_,rfl,z⟩
def eh(F:Option (Out×Env×d7)->Option (Out×Env×d7)){Q G:Out->Env->d7->Prop}(h:u7 x Q)(u:∀o e H,Q o e H->u7 (F (some (o,e,H))) G):u7 (F x) G:=by
 obtain⟨o,e,H,E,D⟩:=h;have z:=u o e H D;unfold u7 at z ⊢;rw[E];exact z
end
structure d9(lo:Nat)(H H':d7):Prop where
 n:H.n<=H'.n
 lowAll:∀k,k<=lo->k<=H.low->k<=H'.low
 g:∀j,j<lo->H'.g j=H.g j
def d9.low{lo:Nat}{H H':d7}(h:d9 lo H H')(q:lo<=H.low):lo<=H'.low:=h.lowAll lo lR q
def d9.wk{lo u:Nat}{H H':d7}(h:d9 lo H H')(k:u<=lo):d9 u H H':=⟨h.n,fun j z=>h.lowAll j oM,fun j z=>h.g j oM⟩
def d9.refl(lo:Nat)(H:d7):d9 lo H H:=⟨lR,fun _ _ h=>h,fun _ _=>rfl⟩
def d9.trans{lo:Nat}{a b c:d7}(h:d9 lo a b)(k:d9 lo b c):d9 lo a c:=⟨abw h.n k.n,fun j u q=>k.lowAll j u (h.lowAll j u q),fun j u=>by rw[k.g j u,h.g j u]⟩
def d9.push{lo:Nat}{H:d7}{B:Blk}(h:lo<=H.n):d9 lo H (H.push B):=⟨by rw[i4];omega,fun _ _ q=>q,fun j u=>i9 oM⟩
def d9.put{lo b:Nat}{H:d7}{B:Blk}(h:lo<=b):d9 lo H (H.put b B):=⟨acl _ |> fun q=>by rw[j9];exact q,fun k z q=>by rw[A5];omega,fun j u=>j6 oM⟩
def d9.start(H:d7):d9 H.n H ⟨H.bs,H.n⟩:=⟨lR,fun _ h _=>h,fun _ _=>rfl⟩
def d9.ret{lo:Nat}{H H':d7}(h:d9 lo H H')(z:lo<=H'.low):d9 lo H ⟨H'.bs,min H.low H'.low⟩:=⟨h.n,fun k u q=>by simp only;omega,h.g⟩
def aP(H:d7)(lo sz:Nat)(v:aet)(n:Nat)(cs:LV):Prop:=
 (v= .slice none 0 0/\n=0/\cs=[])\/∃b,v= .slice (some ⟨b,0,none⟩) n (n+1)/\H.g b=some (.cells cs true sz)/\lo<=b/\cs.length=n*sz
def aP.push{H:d7}{lo sz:Nat}{n:Nat}(h:aP H lo sz v n cs)(B:Blk):aP (H.push B) lo sz v n cs:=by
 rcases h with h|⟨b,z,u,D⟩
 .exact .inl h
 .exact .inr ⟨b,z,by rw[i9 (u5 u)];exact u,D⟩
def aP.put{H:d7}{lo sz:Nat}{n:Nat}(h:aP H lo sz v n cs){b:Nat}(B:Blk)(E:∀c,v= .slice (some ⟨c,0,none⟩) n (n+1)->b≠c):aP (H.put b B) lo sz v n cs:=by
 rcases h with h|⟨c,u,z,D⟩
 .exact .inl h
 .exact .inr ⟨c,u,by rw[j6 (E c u)];exact z,D⟩
section
variable{P:Program}
def zC{t e:TypeId}{sz bytes:Nat}(ht:P.underlying t=some (.slice e))(hs:D3 P e=some sz)(U:Q2 P e=some bytes)(hz:N3 P e=some z)(h0:0<sz)(h1:0<bytes)
  {H:d7} {lo:Nat}  {n:Nat}  (h:aP H lo sz v n cs) {c m k:Nat}  {own:Bool}  (hc:H.g c=some (.cells el own q)) (hm:0<m) (I:el.length=m*sz) (X:(n+m)*bytes<=140737488355328) (u:lo<=H.n):
  ∃v' H',A8 P H [t,t] v (.slice (some ⟨c,0,none⟩) m k)=some (v',some H')/\aP H' lo sz v' (n+m) (cs++el)/\d9 lo H H':=by
 have O:F8 P t=some e:=by simp [F8,ht]
 have D:P5 P H sz z (some t) (.slice (some ⟨c,0,none⟩) m k)=some (m,el):=by
  simp only[P5,aas,ht,A6,hc];rw[bt oM,cA oM];simp [<-I]
 have J:¬(sz=0\/bytes=0):=oM;rcases h with⟨rfl,rfl,rfl⟩|⟨b,rfl,W,S,E⟩
 .refine⟨.slice (some ⟨H.n,0,none⟩) m (m+1),H.push (.cells el true sz),?_,.inr ⟨H.n,by rw[aaH],j7,u,by simpa using I⟩,d9.push u⟩;simp only[A8,aa1,aas,O,hs,U,hz,aap,aar,bt J,D];rw[bt oM,cA (by simpa using X)]
 .have a1:=u5 W;refine⟨.slice (some ⟨H.n,0,none⟩) (n+m) (n+m+1),(H.put b .dead).push (.cells (cs++el) true sz),?_,.inr ⟨H.n,rfl,y9 ⟨by simp [j9],by simp [j9]⟩,u,by rw[ib,E,I,aaP]⟩,(d9.put S).trans (d9.push (by rw[j9];exact u))⟩;simp only[A8,aa1,aas,O,hs,U,hz,aap,aar,bt J,D,W];rw[bt oM,cA X,cA (by simp;omega),bt oM];simp [<-E]
end
def dw(v:aet)(h:Option d7):Option (aet×Option d7):=some (v,h)
def Ret(x:Option (aet×Option d7))(H:d7)(Q:aet->d7->Prop):Prop:=∃v h H1,x=dw v h/\h.getD H=H1/\Q v H1
def DU(v:aet)(h:Option d7)(H:d7)(f:aet->d7->Option (Env×d7)):iI (dw v h) H f=f v (h.getD H):=by cases h<;>rfl
def xJ(v:aet)(H H':d7)(Q:aet->d7->Prop)(u:N8 v=true->H.n<=H'.low->Q v H)(z:Q v ⟨H'.bs,min H.low H'.low⟩):∃w h,E7 v H H'=(w,h)/\Q w (h.getD H):=by
 unfold E7;by_cases h:(N8 v&&decide (H.bs.length<=H'.low))=true
 .rw[cA h];simp only[gk,xo]at h;exact⟨v,none,rfl,u h.1 h.2⟩
 .rw[bt h];exact⟨v,_,rfl,z⟩
def F9{H H':d7}{Q:aet->d7->Prop}(u:N8 v=true->H.n<=H'.low->Q v H)(z:Q v ⟨H'.bs,min H.low H'.low⟩):Ret (some (E7 v H H')) H Q:=by
 obtain⟨w,h,D,E⟩:=xJ v H H' Q u z;exact⟨w,h,_,by rw[D,dw],rfl,E⟩
def bG{c:Bool}{H h:d7}{Q:aet->d7->Prop}(u:c=true->Q v H)(z:Q v h):Ret (some (br c (v,none) (v,some h))) H Q:=by
 cases c
 .exact⟨v,_,_,rfl,rfl,z⟩
 .exact⟨v,_,_,rfl,rfl,u rfl⟩
def aP.na{H H0:d7}{lo sz:Nat}{n:Nat}(h:aP H lo sz v n cs)(u:na1 v=true):aP H0 lo sz v n cs:=by
 rcases h with h|⟨b,z,D,E⟩
 .exact .inl h
 .rw[z]at u;cases u
def aP.low{H:d7}{lo sz:Nat}{n:Nat}(h:aP H lo sz v n cs)(l:Nat):aP ⟨H.bs,l⟩ lo sz v n cs:=by
 rcases h with h|⟨b,u,z,D⟩
 .exact .inl h
 .exact .inr ⟨b,u,z,D⟩
def j5(F:Option (Out×Env×d7)->Prop){Q:Out->Env->d7->Prop}(h:u7 x Q)(u:∀o e H,Q o e H->F (some (o,e,H))):F x:=by
 obtain⟨o,e,H,D,z⟩:=h;rw[D];exact u o e H z
section
variable{P:Program}
def Bn(d:Option TypeDesc)(H:d7)(s:aes):Option (aet×Option d7):=
 match d with
 |some .string=>some (.pointer (some ⟨H.n,0,none⟩),some (H.push (.iter s 0)))
 |_=>none
def Bm(t:TypeId)(H:d7)(s:aes):Bl P t H (.string s)=Bn (P.underlying t) H s:=by
 unfold Bl Bn;cases P.underlying t with
 |none=>rfl
 |some d=>cases d<;>rfl
def Bo(H:d7)(s:aes):Bn (some .string) H s=some (.pointer (some ⟨H.n,0,none⟩),some (H.push (.iter s 0))):=rT
def IM(x:Option Blk)(H:d7)(b:Nat):Option (aet×Option d7):=
 match x with
 |some (.iter s pos)=>br (decide (pos<s.size)) (some (.tuple #[.bool true,.int .i64 pos,.int .i32 (Utf8.decode s pos).1],some (H.put b (.iter s (pos+(Utf8.decode s pos).2))))) (some (.tuple #[.bool false],none))
 |_=>none
def Fc(H:d7)(b:Nat):lN H (.pointer (some ⟨b,0,none⟩))=IM (H.g b) H b:=by
 unfold lN IM;simp only;generalize H.g b=q;cases q with
 |none=>rfl
 |some x=>cases x<;>simp [br,goInt]
def AV(s:aes)(h:Nat)(H:d7)(b:Nat):IM (some (.iter s h)) H b=br (decide (h<s.size)) (some (.tuple #[.bool true,.int .i64 h,.int .i32 (Utf8.decode s h).1],some (H.put b (.iter s (h+(Utf8.decode s h).2))))) (some (.tuple #[.bool false],none)):=rT
def aE(s:aes)(i:Nat):1<=(Utf8.decode s i).2:=by
 unfold Utf8.decode;simp only;split
 .simp
 .split
  .split<;>simp
  .split
   .split<;>simp
   .split
    .split<;>simp
    .simp
end
def d9.first(H:d7)(B:Blk):d9 H.n H (d7.push ⟨H.bs,H.n⟩ B):=(d9.start H).trans (d9.push lR)
def SlI(H:d7)(lo sz:Nat){α:Type}(R:LV->α->Prop)(v:aet)(l:List α):Prop:=
 (v= .slice none 0 0/\l=[])\/
 ∃b o c,v= .slice (some ⟨b,o,none⟩) l.length c/\
  (l=[]\/∃cs own,b<lo/\H.g b=some (.cells cs own sz)/\o+l.length*sz<=cs.length/\∀(i:Nat) a,l[i]?=some a->R ((cs.drop (o+i*sz)).take sz) a)
def SlI.mono{H H':d7}{lo u sz:Nat}{α:Type}{R R':LV->α->Prop}{l:List α}(h:SlI H lo sz R v l)(O:∀j,j<lo->H'.g j=H.g j) (U:lo<=u) (J:∀cs a,R cs a->R' cs a):SlI H' u sz R' v l:=by
 rcases h with h|⟨b,o,c,W,h⟩
 .exact .inl h
 .refine .inr ⟨b,o,c,W,?_⟩;rcases h with h|⟨cs,own,z,D,E,I⟩
  .exact .inl h
  .exact .inr ⟨cs,own,oM,by rw[O b z];exact D,E,fun i a S=>J _ _ (I i a S)⟩
def SlI.form{H:d7}{lo sz:Nat}{α:Type}{R:LV->α->Prop}{l:List α}(h:SlI H lo sz R v l):
  (v= .slice none 0 0/\l=[])\/(∃b o c,v= .slice (some ⟨b,o,none⟩) 0 c/\l=[])\/
  ∃b o c cs own,v= .slice (some ⟨b,o,none⟩) l.length c/\0<l.length/\b<lo/\H.g b=some (.cells cs own sz)/\o+l.length*sz<=cs.length/\∀(i:Nat) a,l[i]?=some a->R ((cs.drop (o+i*sz)).take sz) a:=by
 rcases h with h|⟨b,o,c,u,h⟩
 .exact .inl h
 .rcases h with h|⟨cs,own,D,E,I,J⟩
  .subst h;exact .inr (.inl ⟨b,o,c,u,rfl⟩)
  .by_cases z:l=[]
   .subst z;exact .inr (.inl ⟨b,o,c,u,rfl⟩)
   .exact .inr (.inr ⟨b,o,c,cs,own,u,acY.2 z,D,E,I,J⟩)
def SlI.slice{H:d7}{lo sz:Nat}{α:Type}{R:LV->α->Prop}{l:List α}(h:SlI H lo sz R v l):∃a c,v= .slice a l.length c:=by
 rcases h with⟨h,u⟩|⟨b,o,c,z,h⟩
 .exact⟨none,0,by rw[h,u];rfl⟩
 .exact⟨_,_,z⟩
def SlI.at_{H:d7}{lo sz:Nat}{α:Type}{R:LV->α->Prop}{l:List α}(h:SlI H lo sz R v l){a:α}(z:l[i]?=some a):
  ∃b o c cs own,v= .slice (some ⟨b,o,none⟩) l.length c/\b<lo/\H.g b=some (.cells cs own sz)/\o+i*sz+sz<=cs.length/\R ((cs.drop (o+i*sz)).take sz) a:=by
 have u:i<l.length:=(gS z).1;rcases h with⟨_,h⟩|⟨b,o,c,J,h⟩
 .subst h;simp at u
 .rcases h with h|⟨cs,own,D,E,O,I⟩
  .subst h;simp at u
  .refine⟨b,o,c,cs,own,J,D,E,?_,I i a z⟩;have:(i+1)*sz<=l.length*sz:=aaW _ u;rw[aaP]at this;omega
def Z2{cs enc:LV}(h:o+sz<=cs.length)(u:(cs.drop o).take sz=enc):ldC (some true) (some sz) o cs=some (.agg enc.toArray):=by rw[gJ _ _ _ h,u]
def F1{cs enc:LV}(h:k<sz)(u:(cs.drop o).take sz=enc):cs[o+k]?=enc[k]?:=by
 rw[<-u,aaO,cA h,aaA]
def dH(H:d7)(lo sz:Nat)(v:aet)(n:Nat)(cs:LV):Prop:=
 (v= .slice none 0 0/\n=0/\cs=[])\/∃b c,v= .slice (some ⟨b,0,none⟩) n c/\H.g b=some (.cells cs true sz)/\lo<=b/\cs.length=n*sz
def dH.mono{H H':d7}{lo u sz:Nat}{n:Nat}(h:dH H lo sz v n cs)(O:u<=lo)(I:∀j,j<H.n->H'.g j=H.g j):dH H' u sz v n cs:=by
 rcases h with h|⟨b,c,D,z,J,E⟩
 .exact .inl h
 .exact .inr ⟨b,c,D,by rw[I b (u5 z)];exact z,oM,E⟩
def aP.ownC{H:d7}{lo sz:Nat}{n:Nat}(h:aP H lo sz v n cs):dH H lo sz v n cs:=by
 rcases h with h|⟨b,u,z⟩
 .exact .inl h
 .exact .inr ⟨b,_,u,z⟩
def dH.slice{H:d7}{lo sz:Nat}{n:Nat}(h:dH H lo sz v n cs):∃a c,v= .slice a n c:=by
 rcases h with⟨h,rfl,_⟩|⟨b,c,u,_⟩
 .exact⟨none,0,h⟩
 .exact⟨_,_,u⟩
def dH.cells{H:d7}{lo sz:Nat}{n:Nat}(h:dH H lo sz v n cs)(D:0<sz):∃a c,v= .slice a n c/\A6 H sz (.slice a n c)=some cs:=by
 rcases h with⟨rfl,rfl,rfl⟩|⟨b,c,rfl,z,E,I⟩
 .exact⟨none,0,rfl,rfl⟩
 .refine⟨_,_,rfl,?_⟩;simp only[A6,z];by_cases u:n=0
  .subst u;have:cs=[]:=aag.1 oM;simp [this]
  .rw[bt u,cA oM,aan,A2 oM]
def x9{α:Type}(sz:Nat)(R:LV->α->Prop)(cs:LV)(l:List α):Prop:=
 cs.length=l.length*sz/\∀(i:Nat) a,l[i]?=some a->R ((cs.drop (i*sz)).take sz) a
def x9.append{α:Type}{R:LV->α->Prop}{c1 c2:LV}{u l2:List α}(h:x9 sz R c1 u)(k:x9 sz R c2 l2):x9 sz R (c1++c2) (u++l2):=by
 refine⟨by rw[ib,ib,h.1,k.1,aaP],fun i a z=>?_⟩;by_cases E:i<u.length
 .rw[xd E]at z;have:=h.2 i a z;have D:(i+1)*sz<=u.length*sz:=aaW _ E;rw[aaP]at D;rw[ab8 (by rw[h.1];omega),aba (by rw[abc,h.1];omega)];exact this
 .rw[aao oM]at z;have:=k.2 _ a z;have e:i*sz=c1.length+(i-u.length)*sz:=by rw[h.1,<-aaP];congr 1;omega
  rw[e,<-abm,ade];exact this
def SlI.cells{H:d7}{lo sz:Nat}{α:Type}{R:LV->α->Prop}{l:List α}(h:SlI H lo sz R v l):∃el,A6 H sz v=some el/\x9 sz R el l:=by
 rcases h.form with⟨rfl,rfl⟩|⟨b,o,c,rfl,rfl⟩|⟨b,o,c,cs,own,rfl,O,S,D,E,I⟩
 .exact⟨[],rfl,by simp [x9]⟩
 .exact⟨[],by simp [A6],by simp [x9]⟩
 .refine⟨(cs.drop o).take (l.length*sz),by simp only[A6,D];rw[bt oM,cA E],by rw[abC,abc];omega,fun i a z=>?_⟩;have:=I i a z;have J:i<l.length:=(gS z).1;have u:(i+1)*sz<=l.length*sz:=aaW _ J;rw[aaP]at u;rw[List.drop_take,acL,abm,adt oM];exact this
def x9.mono{α:Type}{R R':LV->α->Prop}{c:LV}{l:List α}(h:x9 sz R c l)(u:∀cs a,R cs a->R' cs a):x9 sz R' c l:=⟨h.1,fun i a z=>u _ _ (h.2 i a z)⟩
def dH.sl{H:d7}{lo sz:Nat}{α:Type}{R:LV->α->Prop}{l:List α}(h:dH H lo sz v l.length cs)(D:x9 sz R cs l):SlI H H.n sz R v l:=by
 rcases h with⟨h,u,_⟩|⟨b,c,z,u,I,J⟩
 .exact .inl ⟨h,aag.1 u⟩
 .refine .inr ⟨b,0,c,z,.inr ⟨cs,true,u5 u,u,oM,fun i a E=>?_⟩⟩;rw[aaH];exact D.2 i a E
def Js{α:Type}{enc:α->LV}(h:∀a,(enc a).length=sz) (l:List α):x9 sz (fun cs a=>cs=enc a) (l.flatMap enc) l:=by
 refine⟨?_,fun i a u=>(qh h u).2⟩;induction l with
 |nil=>simp
 |cons x l z=>rw[aaI,ib,h,z,A1,aaP];omega
def wN{P:Program}{t e:TypeId}{sz bytes:Nat}(ht:P.underlying t=some (.slice e))(X:D3 P e=some sz)(S:Q2 P e=some bytes)(hz:N3 P e=some z)(h0:0<sz)(h1:0<bytes)
  {H:d7} {lo:Nat}  {n:Nat}  (h:dH H lo sz v n cs) {a:Option Addr}   (hx:A6 H sz (.slice a m k)=some el) (O:el.length=m*sz) (hr:(n+m)*bytes<=140737488355328) (D:lo<=H.n):
  Ret (A8 P H [t,t] v (.slice a m k)) H fun v' H'=>dH H' lo sz v' (n+m) (cs++el)/\d9 lo H H':=by
 have J:F8 P t=some e:=by simp [F8,ht]
 have u:P5 P H sz z (some t) (.slice a m k)=some (m,el):=by
  simp only[P5,aas,ht,hx,aaU]
 have I:¬(sz=0\/bytes=0):=oM;by_cases hm:m=0
 .subst hm;have he:el=[]:=aag.1 oM;subst he;rw[aaf,aaq];refine⟨v,none,H,?_,rfl,h,d9.refl _ _⟩;rcases h with⟨rfl,rfl,rfl⟩|⟨b,c,rfl,hg,W,E⟩
  .simp [A8,J,X,S,hz,I,u,dw]
  .simp [A8,J,X,S,hz,I,u,dw]
 .rcases h with⟨rfl,rfl,rfl⟩|⟨b,c,rfl,hg,W,E⟩
  .refine⟨.slice (some ⟨H.n,0,none⟩) m (m+1),some (H.push (.cells el true sz)),_,?_,rfl,.inr ⟨H.n,_,by rw[aaH],j7,D,by simpa using O⟩,d9.push D⟩;simp only[A8,aa1,aas,J,X,S,hz,aap,aar,bt I,u];rw[bt hm,cA (by simpa using hr),dw]
  .have a1:=u5 hg;have U:((cs.drop 0).take (n*sz))=cs:=by rw[aan,A2 oM]
   by_cases hc:c=n
   .refine⟨.slice (some ⟨H.n,0,none⟩) (n+m) (n+m+1),some (H.push (.cells (cs++el) true sz)),_,?_,rfl,.inr ⟨H.n,_,rfl,j7,D,by rw[ib,E,O,aaP]⟩,d9.push D⟩;simp only[A8,aa1,aas,J,X,S,hz,aap,aar,bt I,u,hg,U];rw[bt hm,cA hr,cA (by simp;omega),cA hc,dw]
   .refine⟨.slice (some ⟨H.n,0,none⟩) (n+m) (n+m+1),some ((H.put b .dead).push (.cells (cs++el) true sz)),_,?_,rfl,.inr ⟨H.n,_,rfl,y9 ⟨by simp [j9],by simp [j9]⟩,D,by rw[ib,E,O,aaP]⟩,(d9.put W).trans (d9.push (by rw[j9];exact D))⟩;simp only[A8,aa1,aas,J,X,S,hz,aap,aar,bt I,u,hg,U];rw[bt hm,cA hr,cA (by simp;omega),bt hc,cA trivial,dw]
section
variable{P:Program}
def CJ(P:Program)(q:Option (TypeId×TypeId))(B:Option Blk)(k:aet)(ok:Bool):Option aet:=
 match q with
 |some (kt,et)=>
  if aH P kt k then
   match B with
   |some (.map es)=>
    match jO P kt k es 0,jk P et with
    |some (some (_,v)),some _=>some (if ok then .tuple #[v,.bool true] else v)
    |some none,some z=>some (if ok then .tuple #[z,.bool false] else z)
    |_,_=>none
   |_=>none
  else none
 |none=>none
def yj(H:d7)(t:TypeId)(b:Nat)(k:aet)(ok:Bool):jv P H t (.map (some b)) k ok=CJ P (wq P t) (H.g b) k ok:=by
 unfold jv CJ;cases wq P t with
 |none=>rfl
 |some q=>
  simp only;split
  .generalize H.g b=B;cases B with
   |none=>rfl
   |some B=>cases B<;>rfl
  .rfl
def MX(P:Program)(q:Option (TypeId×TypeId))(B:Option Blk)(H:d7)(b:Nat)(k v:aet):Option d7:=
 match q with
 |some (kt,_)=>
  if aH P kt k then
   match B with
   |some (.map es)=>
    match jO P kt k es 0 with
    |some (some (i,_))=>some (H.put b (.map (es.set i (k,v))))
    |some none=>some (H.put b (.map (es++[(k,v)])))
    |none=>none
   |_=>none
  else none
 |none=>none
def qL(H:d7)(t:TypeId)(b:Nat)(k v:aet):aL P H t (.map (some b)) k v=MX P (wq P t) (H.g b) H b k v:=by
 unfold aL MX;cases wq P t with
 |none=>rfl
 |some q=>
  simp only;split
  .generalize H.g b=B;cases B with
   |none=>rfl
   |some B=>cases B<;>rfl
  .rfl
def eqT(ks:Option (List V1))(xs ys:LV):Option Bool:=
 match ks with
 |some ks=>B8 ks xs ys
 |none=>none
def wT(t:TypeId)(xs h:Array aet):I3 P .eql t (.agg xs) (.agg h)=(eqT (rI P t) xs.toList h.toList).map .bool:=by
 simp only[I3,eqA,eqT];cases rI P t<;>rfl
def wW(t:TypeId)(xs h:Array aet):I3 P .neq t (.agg xs) (.agg h)=(eqT (rI P t) xs.toList h.toList).map fun b=> .bool !b:=by
 simp only[I3,eqA,eqT];cases rI P t<;>rfl
def Ho(h:List V1)(xs u:LV):eqT (some h) xs u=B8 h xs u:=rT
def Oi:B8 [] [] []=some true:=rT
def D4(h:List V1)(a b:aes)(xs u:LV):B8 (.str::h) (.string a::xs) (.string b::u)=(B8 h xs u).map (decide (a=b)&& ·):=by
 simp only[B8,P7,wh];cases B8 h xs u<;>rfl
def je(k:aes×aes)(l:List (aes×aes)):Bool:=l.any fun x=>decide (k=x)
end
abbrev CQ{p:Prop}(_:p):Prop:=p
def stOf{p:Prop}(h:p):CQ h:=h
def jM:CQ (aI (aI (aI (aI @NX @NV) (aI @Kn (aI @Gd @Gc))) (aI (aI @NW @Ko) (aI @Kp (aI @Ge @BC)))) (aI (aI (aI @Mz @yO) (aI @Jv (aI @NU @IG))) (aI (aI @EW @Ql) (aI @LR (aI @IE @ET))))):=stOf _
def rH:CQ (aI (aI (aI @l9 @A5) (aI @i4 @j9)) (aI (aI @CP @yh) (aI @List.length_cons.{0} @List.length_nil.{0}))):=stOf _
def QL:CQ (aI (aI (aI (aI (aI @Option.getD_some.{0} (aI @Jw @FB)) (aI (aI @Kl @AJ) (aI @GI @DG))) (aI (aI (aI @KO @LQ) (aI @Fb @zU)) (aI (aI @GQ @DR) (aI @GP @DQ)))) (aI (aI (aI @IR (aI @Il @Ly)) (aI (aI @Hk @zR) (aI @zT @ED))) (aI (aI (aI @EC @xW) (aI @su @xX)) (aI (aI @AE @EE) (aI @xV @vw))))) (aI (aI (aI (aI @mF (aI @vx @mH)) (aI (aI @qu @qw) (aI @vu @vy))) (aI (aI (aI @Nb @Jo) (aI @AD @Ik)) (aI (aI @EB @Ij) (aI @EA @Gx)))) (aI (aI (aI @zy (aI @Gz @Be)) (aI (aI @Ds @Kx) (aI @Dt @pF))) (aI (aI (aI @Gv @Dz) (aI @uM @Kw)) (aI (aI @Oa @wK) (aI @Gu @Ky)))))):=stOf _
def QM:CQ (aI (aI (aI (aI (aI @Gw (aI @Dy @rZ)) (aI (aI @Dv @sd) (aI @Dw @zA))) (aI (aI (aI @sf @Dx) (aI @Gy @wL)) (aI (aI @pY @wJ) (aI @Gt @wP)))) (aI (aI (aI @FP (aI @LD @zV)) (aI (aI @zW @Ft) (aI @Fs @Mm))) (aI (aI (aI @Fi @IY) (aI @Ia @KA)) (aI (aI @KJ @KH) (aI @KB @Oe))))) (aI (aI (aI (aI @KK (aI @zD @KF)) (aI (aI @KE @KD) (aI @KC @wU))) (aI (aI (aI @wX @wV) (aI @wY @Ri)) (aI (aI @Rh @bap) (aI @bcp @sC)))) (aI (aI (aI @fo (aI @rL @zf)) (aI (aI @iU @nI) (aI @gF @GV))) (aI (aI (aI @KN @GH) (aI @Oh @wZ)) (aI (aI @pK @Mw) (aI @Mx @Fz)))))):=stOf _
def QN:CQ (aI (aI (aI (aI (aI @Jb (aI @Jc @Bd)) (aI (aI @xI @qg) (aI @MV @Am))) (aI (aI (aI @fT @List.toList_toArray.{0}) (aI @xK @xL)) (aI (aI @vk @Al) (aI @IJ @lM)))) (aI (aI (aI @AQ (aI @EY @LT)) (aI (aI @abp @abi) (aI @PY @EJ))) (aI (aI (aI @gJ @LF) (aI @MP @FJ)) (aI (aI @DM @DN) (aI @zJ @uV))))) (aI (aI (aI (aI @xh (aI @sj @DP)) (aI (aI @zK @Mh) (aI @IW @Bb))) (aI (aI (aI @Fh @yw) (aI @Mi @IX)) (aI (aI @BL @yX) (aI @JF @JE)))) (aI (aI (aI @sq (aI @oD @BT)) (aI (aI @Mp @Fm) (aI @Fn @El))) (aI (aI (aI @xF @oG) (aI @AA @Ez)) (aI (aI @oF @AB) (aI @Ma @LZ)))))):=stOf _
def QO:CQ (aI (aI (aI (aI (aI @GJ (aI @Lg @uR)) (aI (aI @HF @Em) (aI @Ai @si))) (aI (aI (aI @E5 @E6) (aI @KV @zX)) (aI (aI @LH @Ix) (aI @LI @AM)))) (aI (aI (aI @i4 (aI @j9 @y9)) (aI (aI @i9 @i7) (aI @j6 @l9))) (aI (aI (aI @A5 @CP) (aI @yh @LX)) (aI (aI @Qp @Fa) (aI @tZ @ud))))) (aI (aI (aI (aI @IK (aI @LU @AR)) (aI (aI @EZ @LW) (aI @IL @Qq))) (aI (aI (aI @if_true.{1} @if_false.{1}) (aI @xo @decide_true)) (aI (aI @aeq @Option.map_some.{0,0}) (aI @Option.map_none.{0,0} @Option.bind_some.{0,0})))) (aI (aI (aI @List.map_cons.{0,0} (aI @List.map_nil.{0,0} @List.append_nil.{0})) (aI (aI @List.nil_append.{0} @List.cons_append.{0}) (aI @List.length_cons.{0} @List.length_nil.{0}))) (aI (aI (aI @List.take_succ_cons.{0} @List.take_zero.{0}) (aI @List.drop_succ_cons.{0} @List.drop_zero.{0})) (aI (aI @List.all_cons.{0} @List.all_nil.{0}) (aI @List.replicate_succ.{0} @List.replicate_zero.{0})))))):=stOf _
def QP:CQ (aI (aI (aI (aI (aI @List.flatten_cons.{0} @List.flatten_nil.{0}) (aI @abM @ac4)) (aI (aI @abd @aby) (aI @aa9 (aI @aaL @aen)))) (aI (aI (aI @abA @acq) (aI @abR @ab7)) (aI (aI @ne_eq.{1} @adJ) (aI @abU (aI @adT @adV))))) (aI (aI (aI (aI @aei @aaH) (aI @aaf @aa8)) (aI (aI @acl @Option.some.injEq.{0}) (aI @aay (aI @DU @Bm)))) (aI (aI (aI @Bo @Fc) (aI @AV (aI @yj @qL))) (aI (aI @wT @wW) (aI @Ho (aI @Oi @D4)))))):=stOf _
def rQ:CQ (aI (aI (aI QL QM) (aI QN QO)) (aI (aI QP @List.getElem?_toArray.{0}) (aI @List.getElem?_cons_zero.{0} @List.getElem?_cons_succ.{0}))):=stOf _
section
variable{P:Program}{base:Bs}{w0:World}{φ:List Loc}{S:List Blk}{w:World}{nt:Nat}{e:Env}{a:Act}
def Cg:Obj->Bool
 | .loop _=>true
 | .deferred _=>true
 |_=>false
def BR.away{B:Blk}(h:BR base φ B l w)(D:w.heap[k]?=some o)(z:Cg o=true)(J:¬base.pr k)(I:B≠ .dead):l.blk≠k:=by
 intro q;cases B with
 |dead=>exact I rfl
 |cells c own sz=>
  cases own with
  |false=>exact J (q▸h.below)
  |true=>
   obtain⟨_,_,cs,t,W,u,_⟩:=h.2.2.2.2 rfl;rw[q,D]at u;cases u;cases z
 |map U=>
  obtain⟨_,E,O,u,_⟩:=h;rw[q,D]at u;cases u;cases z
 |iter s p=>
  have u:=h.2.2;rw[q,D]at u;cases u;cases z
def WR.putX(h:WR base w0 φ S w)(U:w.heap[k]?=some o)(J:Cg o=true)(E:¬base.pr k)(W:Obj):WR base w0 φ S (w.putObj k W):=by
 refine⟨h.len,⟨h.below.os,h.below.tape,h.below.output,by rw[World.putObj_size];exact h.below.size,fun j z=>?_⟩,fun j z=>by rw[World.putObj_size];exact h.size j z,fun b B l I O=>?_,h.sep⟩
 .rw[abL (show j≠k from fun q=>E (q▸z))];exact h.below.block j z
 .have u:=h.blk b B l I O;by_cases D:B= .dead
  .subst D;trivial
  .exact u.mono (Ext.refl φ) (abL (u.away U J E D))
def qj(h:WR base w0 φ S w)(O:w.heap[k]?=some o)(D:Cg o=true)(I:¬base.pr k)(U:Obj)(u:Nat):Fr φ S u w (w.putObj k U):=
 fun b B l _ z E J=>abL ((h.blk b B l z J).away O D I E)
def WR.raiseX(h:WR base w0 φ S w)(Q:Nat->Prop)(u:∀k,Q k->¬base.pr k/\∃o,w.heap[k]?=some o/\Cg o=true):WR (base.add Q) w φ S w:=
 h.raise Q (fun k O=>(gA (u k O).2.choose_spec.1).1) fun b B l I W U J=>by
  obtain⟨z,o,D,E⟩:=u _ J;refine(h.blk b B l I U).away D E z ?_ rfl;rintro rfl;cases W
def WR.allocX(h:WR base w0 φ S w)(o:Obj):WR base w0 φ S (w.alloc o):=by
 refine h.grow ⟨by simp,fun j u _=>abP _ _ _ u⟩ (h.below.alloc h.size o)
def xO(h:WR base w0 φ S w)(o:Obj)(D:Nat):Fr φ S D w (w.alloc o):=fun b B l _ E I J=>by
 refine abP _ _ _ ?_;have u:=h.blk b B l E J;by_cases z:B.mine=true
 .exact(u.lt z).2
 .cases B with
  |dead=>exact absurd rfl I
  |cells c own sz=>
   have:own=false:=by simpa [Blk.mine] using z
   subst this;exact h.size _ u.below
  |map O=>exact absurd rfl z
  |iter s p=>exact absurd rfl z
open Classical in
noncomputable def Y5(P:Program)(C:B9)(k:Nat)(A B:Code)(p1 p2:Nat)(e:Env)(ok:d7->Prop):List (Nat×Nat)->d7->Option (Out×d7)
 |[],H=>some (.normal,H)
 |x::r,H=>
  match N4 P C k A ((p2,.int .i64 (x.2:Int))::(p1,.int .i64 (x.1:Int))::e) H with
  |some (.normal,e1,H1)=>
   match N4 P C k B e1 H1 with
   |some (.normal,_,H2)=>if ok H2 then Y5 P C k A B p1 p2 e ok r H2 else none
   |some (.ret,_,H2)=>some (.ret,H2)
   |_=>none
  |_=>none
def eL{P:Program}{C:B9}{A B:Code}{e:Env}:∀(l r:List (Nat×Nat))(H:d7),
  Y5 P C k A B p1 p2 e ok (l++r) H=match Y5 P C k A B p1 p2 e ok l H with
   |some (.normal,H1)=>Y5 P C k A B p1 p2 e ok r H1
   |z=>z
 |[],r,H=>rfl
 |x::l,r,H=>by
  simp only[aax,Y5];split
  .split
   .split
    .exact eL l r _
    .rfl
   .rfl
   .rfl
  .rfl
def dW{C:B9}(u:lV P base w0 C){A B:Code}{e:Env}:∀(l:List (Nat×Nat))(H:d7){o:Out}{H':d7},Y5 P C k A B p1 p2 e ok l H=some (o,H')->Le H H'
 |[],H,o,H',h=>by cases h;exact Le.refl _
 |x::l,H,o,H',h=>by
  simp only[Y5]at h;split at h
  .rename_i J I D;split at h
   .rename_i E H2 z;split at h
    .exact((R1 u D).trans (R1 u z)).trans (dW u l H2 h)
    .cases h
   next E H2 z=>cases h;exact(R1 u D).trans (R1 u z)
   .cases h
  .cases h
def zo(P:Program)(gf:Nat)(lb:Array aet)(Rd:World->Prop)(L:List (Nat×Nat))(W0:World):Prop:=
 ∀(l:Nat)(J Jx:List (Nat×Nat)->World->Prop),(∀pre w,J pre w->J pre w.drew)->
  (∀pre(x:Nat×Nat) W,(pre++[x])<+:L->J pre W->YieldAt Fence.wide 1 P l #[.int .i64 (x.1:Int),.int .i64 (x.2:Int)] W fun e W'=>
   (e= .returned (.bool true)/\J (pre++[x]) W'/\(Rd W->Rd W'))\/(e= .returned (.bool false)/\Jx (pre++[x]) W'))->
  J [] W0->CallsIn Fence.wide 2 P gf (#[.func (.yield l) #[] #[]]++lb) W0 fun e W'=>(∃v,e= .returned v)/\(J L W'\/∃pre,pre<+:L/\Jx pre W')
def oL{C:B9}(hm:P.follows .mixedOrders=true)(hC:au P C){A B:Code}{g:Operand}{L:List (Nat×Nat)}{H Hf:d7}{Q:Exit->Act->World->Prop}
  (rA:I1 A=true) (rB:I1 B=true) (e4:L3 nt A=true) (c5:L3 nt B=true) (h1:p1<nt) (h2:p2<nt)
  (hE:ER φ nt e a) (hW:WR base w0 φ H.bs w)   (hg:a.eval g= .func (.func gf) #[] lb) (d5:eO P gf)
  (Rd:World->Prop) (d3:∀φ' H' W',Ext φ φ'->WR base w0 φ' H'.bs W'->ok H'->Rd W')
  (c4:∀W0,WR base w0 φ H.bs W0->zo P gf lb Rd L W0)
  (h:Y5 P C k A B p1 p2 e ok L H=some (o,Hf))
  (hp:∀φ' W',Ext φ φ'->WR base w0 φ' Hf.bs W'->Fr φ H.bs Hf.low w W'->W'.heap[w.heap.size]?=some (.deferred (some []))->Q o.exit' {a with defers:={target:= .collected w.heap.size,args:= #[]}::a.defers} W'):
  (Code.rangeFunc g #[p1,p2] A B).wp P Q a w:=by
 refine(ado (n:=3)).1 (wpIn_rangeFunc fun fn d6=>?_);obtain⟨D,hD⟩:∃D,w.heap.size=D:=⟨_,rfl⟩
 rw[hD]at hp;have c8:¬base.pr D:=fun q=>oN (hW.size D q);have O:¬base.pr (D+1):=fun q=>oN (hW.size (D+1) q);obtain⟨E,u⟩:∃E:LoopState->Option Code->Loop,E=fun st pe=>{state:=st,pending:=pe,fn,tmps:=a.tmps,params:= #[p1,p2],assign:=A,body:=B,defers:=D}:=⟨_,rfl⟩
 obtain⟨W1,a6⟩:∃W1,(w.alloc (.deferred (some []))).alloc (.loop (E .ready none))=W1:=⟨_,rfl⟩
 have d2:W1.heap[D+1]?=some (.loop (E .ready none)):=by
  rw[<-a6,<-hD];have:=World.alloc_heap_new (w.alloc (.deferred (some []))) (.loop (E .ready none));rwa [World.size_alloc]at this
 have d1:W1.heap[D]?=some (.deferred (some [])):=by
  rw[<-a6,<-hD];exact(abP _ _ _ sM).trans (World.alloc_heap_new w _)
 have c6:WR base w0 φ H.bs W1:=by rw[<-a6];exact(hW.allocX _).allocX _
 have c7:Fr φ H.bs H.low w W1:=by
  rw[<-a6];exact Fr.trans (Ext.refl φ) (Le.refl H) (Le.refl H) hW.len (xO hW _ _) (xO (hW.allocX _) _ _)
 obtain⟨J0,a9⟩:=eY (fun o I W=>∃φ' H',Y5 P C k A B p1 p2 e ok I H=some (o,H')/\Ext φ φ'/\WR base w0 φ' H'.bs W/\Fr φ H.bs H'.low w W/\W.heap[D]?=some (.deferred (some [])):Out->List (Nat×Nat)->World->Prop);have e3:=c4 W1 c6 (D+1) (fun I W=>J0 .normal I W/\W.heap[D+1]?=some (.loop (E .ready none))) (fun I W=>J0 .ret I W/\W.heap[D+1]?=some (.loop (E .done (some .ret))))
  (by
   rw[a9];rintro I W ⟨⟨φ',H',q1,q2,q3,q4,q5⟩,q6⟩;exact⟨⟨φ',H',q1,q2,q3.same_heap rfl rfl rfl rfl,q4,q5⟩,q6⟩)
  ?_ (by rw[a9];exact⟨⟨φ,H,rfl,Ext.refl φ,c6,c7,d1⟩,d2⟩)
 .refine⟨D+1,[{target:= .collected D,args:= #[]}],W1,{target:= .fn (.func gf) lb,args:= #[.func (.yield (D+1)) #[] #[]]},W1,gf,#[.func (.yield (D+1)) #[] #[]]++lb,W1,?_,?_,?_,?_,fun _=>oM,?_⟩
  .rw[<-a6,u,<-hD];exact run_enterLoop_outer _ _ _ _ _
  .simp only[resolve,hg];simp [go_sem]
  .intro f' e6;trivial
  .have:=lZ d5 (#[.func (.yield (D+1)) #[] #[]]++lb) W1;simp [invoke,go_sem,this]
  .refine e3.mono ?_;rw[a9];rintro en W2 ⟨⟨v,rfl⟩,(⟨⟨φ',H',q1,q2,q3,q4,q5⟩,q6⟩|⟨I,a7,⟨φ',H',q1,q2,q3,q4,q5⟩,q6⟩)⟩
   .rw[h]at q1;cases q1;refine⟨none,_,by have:=run_endLoop (P:=P) q6 (by rw[u];simp);rw[u]at this;exact this,?_⟩;exact hp φ' _ q2 (q3.putX q6 rfl O _) (Fr.trans q2 (dW (hC base w0) L H h) (Le.refl _) hW.len q4 (qj q3 q6 rfl O _ _)) ((abL oM).trans q5)
   .obtain⟨r,rfl⟩:=a7;rw[eL,q1]at h;cases h;refine⟨some .ret,_,by have:=run_endLoop (P:=P) q6 (by rw[u];simp);rw[u]at this;exact this,wpIn_ret ?_⟩;exact hp φ' _ q2 (q3.putX q6 rfl O _) (Fr.trans q2 (dW (hC base w0) I H q1) (Le.refl _) hW.len q4 (qj q3 q6 rfl O _ _)) ((abL oM).trans q5)
 ·
  rw[a9];rintro I x W a7 ⟨⟨φ',H',q1,q2,q3,q4,q5⟩,q6⟩;have hy:=run_yield (P:=P) (args:= #[.int .i64 (x.1:Int),.int .i64 (x.2:Int)]) q6 (by rw[u];rfl);rw[u]at hy;refine⟨fn,_,A,B,hy,roundIn_of_wpIn d6 ?_⟩;have hx:Y5 P C k A B p1 p2 e ok [x] H'≠none:=by
   intro hn;obtain⟨r,rfl⟩:=a7;rw[eL,eL,q1]at h;simp only[hn]at h;cases h
  have z:=eL (P:=P) (C:=C) (k:=k) (A:=A) (B:=B) (p1:=p1) (p2:=p2) (e:=e) (ok:=ok) I [x] H;rw[q1]at z;simp only[Y5]at hx z;have b0:=dW (hC base w0) I H q1;have d0:ER φ' nt ((p2,.int .i64 (x.2:Int))::(p1,.int .i64 (x.1:Int))::e) {tmps:=(#[p1,p2].zip #[(.int .i64 (x.1:Int):aet),.int .i64 (x.2:Int)]).foldl (fun t(p,v)=>t.setIfInBounds p v) a.tmps,defers:=[]}:=by
   have h3:=((hE.mono q2).put (d:=some p1) (by simp [ii,h1]) (.int .i64 (x.1:Int))).put (d:=some p2) (by simp [ii,h2]) (.int .i64 (x.2:Int));have hz:(#[p1,p2].zip #[(.int .i64 (x.1:Int):aet),.int .i64 (x.2:Int)]).foldl (fun t(p,v)=>t.setIfInBounds p v) a.tmps=(a.tmps.setIfInBounds p1 (.int .i64 (x.1:Int))).setIfInBounds p2 (.int .i64 (x.2:Int)):=sM;rw[hz];exact⟨h3.size,h3.val⟩
  split at hx
  rotate_left
  .exact absurd rfl hx
  rename_i e1 H1 hA;simp only[hA]at z;have b1:=R1 (hC base w0) hA;have a3:∀{φ2:List Loc}{S2:List Blk}{V:World}{st:Loop},WR base w0 φ2 S2 V->V.heap[D]?=some (.deferred (some []))->V.heap[D+1]?=some (.loop st)->WR (base.add fun j=>j=D\/j=D+1) V φ2 S2 V:=fun hV hd hl=>
   hV.raiseX _ fun j hj=>by
    rcases hj with rfl|rfl
    .exact⟨c8,_,hd,rfl⟩
    .exact⟨O,_,hl,rfl⟩
  refine ki (base:=base.add fun j=>j=D\/j=D+1) (w0:=W) hm hC (D+1) _ rA e4 hA d0 (a3 q3 q5 q6) ?_;intro φ2 a2 w2 a5 b9 b5 c0 e5;have k5:w2.heap[D]?=some (.deferred (some [])):=(b5.below.block D (.inr (.inl rfl))).trans q5;have k6:w2.heap[D+1]?=some (.loop (E .ready none)):=(b5.below.block (D+1) (.inr (.inr rfl))).trans q6;have b2:=b5.lower q3.below;refine⟨_,run_beginRound k6 (by rw[u]),?_⟩;obtain⟨w3,a8⟩:∃w3,w2.putObj (D+1) (.loop {E .ready none with state:= .busy})=w3:=⟨_,rfl⟩
  rw[a8];have m5:w3.heap[D]?=some (.deferred (some [])):=by rw[<-a8];exact(abL oM).trans k5
  have m6:w3.heap[D+1]?=some (.loop (E .busy none)):=by
   rw[<-a8,ad0 (gA k6).1,u]
  have b6:WR base w0 φ2 H1.bs w3:=by rw[<-a8];exact b2.putX k6 rfl O _
  have f3:Fr φ H.bs H1.low w w3:=by
   have g1:Fr φ' H'.bs H1.low W w2:=c0;have g2:Fr φ2 H1.bs H1.low w2 w3:=by rw[<-a8];exact qj b2 k6 rfl O _ _
   exact Fr.trans (q2.trans a5) (b0.trans b1) (Le.refl _) hW.len (Fr.trans q2 b0 b1 hW.len q4 g1) g2
  have b8:∀{φ4:List Loc}{H2:d7}{w4:World}(J:Option Code),Ext φ2 φ4->Le H1 H2->WR (base.add fun j=>j=D\/j=D+1) w3 φ4 H2.bs w4->Fr φ2 H1.bs H2.low w3 w4->
    ∃w5,(Instr.endRound (D+1) J).run P w4= .ok (.bool J.isNone) w5/\WR base w0 φ4 H2.bs w5/\Fr φ H.bs H2.low w w5/\w5.heap[D]?=some (.deferred (some []))/\w5.heap[D+1]?=some (.loop (E (if J.isNone then .ready else .done) J)):=by
   intro φ4 H2 w4 J X b4 a1 U;have n5:w4.heap[D]?=some (.deferred (some [])):=(a1.below.block D (.inr (.inl rfl))).trans m5;have n6:w4.heap[D+1]?=some (.loop (E .busy none)):=(a1.below.block (D+1) (.inr (.inr rfl))).trans m6;have b3:=a1.lower b6.below;refine⟨_,run_endRound J n6,b3.putX n6 rfl O _,?_,(abL oM).trans n5,?_⟩
   .exact Fr.trans ((q2.trans a5).trans X) ((b0.trans b1).trans b4) (Le.refl _) hW.len (Fr.trans (q2.trans a5) (b0.trans b1) b4 hW.len f3 U) (qj b3 n6 rfl O _ _)
   .rw[ad0 (gA n6).1,u]
  split at hx
  .rename_i e2 H2 hB;have b7:=R1 (hC base w0) hB;simp only[hB]at z;split at hx
   rotate_left
   .exact absurd rfl hx
   rename_i c3;rw[cA c3]at z;refine ki (base:=base.add fun j=>j=D\/j=D+1) (w0:=w3) hm hC (D+1) _ rB c5 hB b9 (a3 b6 m5 m6) ?_;intro φ4 a4 w4 X c9 a1 U d4;obtain⟨w5,r1,r2,r3,r4,r5⟩:=b8 none X b7 a1 U;exact⟨_,w5,r1,.inl ⟨rfl,⟨⟨φ4,H2,z,(q2.trans a5).trans X,r2,r3,r4⟩,r5⟩,fun _=>d3 φ4 H2 w5 ((q2.trans a5).trans X) r2 c3⟩⟩
  next e2 H2 hB=>have b7:=R1 (hC base w0) hB;simp only[hB]at z;refine ki (base:=base.add fun j=>j=D\/j=D+1) (w0:=w3) hm hC (D+1) _ rB c5 hB b9 (a3 b6 m5 m6) ?_;intro φ4 a4 w4 X c9 a1 U d4;obtain⟨w5,r1,r2,r3,r4,r5⟩:=b8 (some .ret) X b7 a1 U;exact⟨_,w5,r1,.inr ⟨rfl,⟨φ4,H2,z,(q2.trans a5).trans X,r2,r3,r4⟩,r5⟩⟩
  .exact absurd rfl hx
end
section
variable{P:Program}{X:Lib}
def zm(D:P.follows .mixedOrders=true)(u:sS P X):au P (CL P X):=fun base w0 g args H v r h=>by
 obtain⟨k,z⟩:=oW.1 h;exact KP D u k base w0 g args H v r z
open Classical in
noncomputable def cF(P:Program)(X:Lib)(A B:t5)(p1 p2:Nat)(e:Env)(ok:d7->Prop):List (Nat×Nat)->d7->Option (Out×d7)
 |[],H=>some (.normal,H)
 |x::r,H=>
  match(LE P X A ((p2,.int .i64 (x.2:Int))::(p1,.int .i64 (x.1:Int))::e) H:Option (Out×Env×d7))with
  |some (.normal,e1,H1)=>
   match(LE P X B e1 H1:Option (Out×Env×d7))with
   |some (.normal,_,H2)=>if ok H2 then cF P X A B p1 p2 e ok r H2 else none
   |some (.ret,_,H2)=>some (.ret,H2)
   |_=>none
  |_=>none
def fU{c:Code}(h:T2 c=some l){e:Env}{H:d7}(z:LE P X l e H=some r):∃k,N4 P (CL P X) k c e H=some r:=by
 obtain⟨k,u⟩:=V4.1 z;exact⟨k,by rw[qE (CL P X) k h];exact u⟩
def bX{C:B9}(z:k<=u){c:Code}{e:Env}{H:d7}(h:N4 P C k c e H=some r):N4 P C u c e H=some r:=bW (fun _ _ _=>LeO.refl _) k u z c e H r h
def nY{C:B9}(u:k<=D){A B:Code}{e:Env}:∀(l:List (Nat×Nat))(H:d7){r:Out×d7},Y5 P C k A B p1 p2 e ok l H=some r->Y5 P C D A B p1 p2 e ok l H=some r
 |[],H,r,h=>h
 |x::l,H,r,h=>by
  simp only[Y5]at h ⊢;split at h
  .rename_i O J I;simp only[bX u I];split at h
   .rename_i E H2 z;simp only[bX u z];split at h
    next q=>rw[cA q];exact nY u l H2 h
    .cases h
   next E H2 z=>simp only[bX u z];exact h
   .cases h
  .cases h
def gV{O S:Code}{A B:t5}(U:T2 O=some A)(E:T2 S=some B){e:Env}:∀(l:List (Nat×Nat))(H:d7){r:Out×d7},cF P X A B p1 p2 e ok l H=some r->∃k,Y5 P (CL P X) k O S p1 p2 e ok l H=some r
 |[],H,r,h=>⟨0,h⟩
 |x::l,H,r,h=>by
  simp only[cF]at h;split at h
  .rename_i e1 H1 h1;obtain⟨z,W⟩:=fU U h1;split at h
   .rename_i e2 H2 D;obtain⟨u,J⟩:=fU E D;split at h
    next q=>obtain⟨I,q3⟩:=gV U E l H2 h;refine⟨max z (max u I),?_⟩;simp only[Y5,bX (show z<=max z (max u I) from oM) W,bX (show u<=max z (max u I) from oM) J,cA q];exact nY oM l H2 q3
    .cases h
   next e2 H2 D=>obtain⟨u,J⟩:=fU E D;refine⟨max z u,?_⟩;simp only[Y5,bX (show z<=max z u from oM) W,bX (show u<=max z u from oM) J];exact h
   .cases h
  .cases h
noncomputable def vU(P:Program)(X:Lib)(c1 c2 A B c3:t5)(p1 p2:Nat)(it:Env->d7->Option (List (Nat×Nat)×(d7->Prop)))(e:Env)(H:d7):Option (Out×Env×d7):=
 match(LE P X c1 e H:Option (Out×Env×d7))with
 |some (.normal,e1,H1)=>
  match(LE P X c2 e1 H1:Option (Out×Env×d7))with
  |some (.normal,e2,H2)=>
   match it e2 H2 with
   |some (L,ok)=>
    match cF P X A B p1 p2 e2 ok L H2 with
    |some (.normal,H3)=>LE P X c3 e2 H3
    |some (.ret,H3)=>some (.ret,e2,H3)
    |_=>none
   |none=>none
  |_=>none
 |_=>none
def Eo{base:Bs}{w0:World}{g:FuncId}{args:LV}{H H':d7}(S:Le ⟨H.bs,H.n⟩ H')
  (E:∀(φ:List Loc)(w:World)(u:LV),VRs φ args u->WR base w0 φ H.bs w->Calls P g u.toArray w fun en I=>∃v' z,en= .returned v'/\Ext φ z/\VR z v v'/\WR base w0 z H'.bs I/\Fr φ H.bs H'.low w I)
  (h:E7 v H H'=(W,r)):(∀H',r=some H'->Le H H')/\(r=none->N8 W=true)/\
  ∀(φ:List Loc)(w:World)(u:LV),VRs φ args u->WR base w0 φ H.bs w->
   Calls P g u.toArray w fun en I=>match(generalizing:=false) r with
    |none=>en= .returned W/\Cls base w0 φ H.bs w I
    |some H'=>∃v' z,en= .returned v'/\Ext φ z/\VR z W v'/\WR base w0 z H'.bs I/\Fr φ H.bs H'.low w I:=by
 unfold E7 at h;split at h
 next D=>simp only[aah]at h;obtain⟨rfl,rfl⟩:=h;simp only[gk,xo]at D;refine⟨fun H' h=>(by cases h),fun _=>D.1,fun φ w u ha U=>(E φ w u ha U).mono fun en I hq=>?_⟩;obtain⟨v',z,rfl,hx,hv,J,O⟩:=hq;exact⟨by rw[hv.eq_na D.1],U.back J O D.2⟩
 .simp only[aah]at h;obtain⟨rfl,rfl⟩:=h;refine⟨fun H2 h2=>?_,fun h=>(by cases h),fun φ w u ha U=>(E φ w u ha U).mono fun en I hq=>?_⟩
  .cases h2;exact⟨ack _ _,S.len,fun b hb hl=>S.same b (aaF hb (abB _ _)) hl⟩
  .obtain⟨v',z,h1,hx,hv,J,O⟩:=hq;exact⟨v',z,h1,hx,hv,J,fun b B l hb=>O b B l (aaF hb (abB _ _))⟩
noncomputable def pj(P:Program)(X:Lib)(c1 c2 A B c3:t5)(p1 p2 nt:Nat)(rs:List ResultVar)(it:Env->d7->Option (List (Nat×Nat)×(d7->Prop)))(args:LV)(H:d7):Option (aet×Option d7):=
 if args.length<=nt then t6 P rs H (vU P X c1 c2 A B c3 p1 p2 it (Q4 0 args) ⟨H.bs,H.n⟩) else none
def Jl(hm:P.follows .mixedOrders=true)(hX:sS P X){c1 c2 A B c3:t5}{id p1 p2:Nat}{g:Operand}
  (a6:P.funcs[f]?=some E) (a5:E.body=some (.seq d1 (.seq (.seq d2 (.block id (.rangeFunc g #[p1,p2] dA dB))) d3))) (b5:(E.name== "runtime.NumGoroutine")=false)
  (l1:T2 d1=some c1) (l2:T2 d2=some c2) (lA:T2 dA=some A) (lB:T2 dB=some B) (l3:T2 d3=some c3)
  (d0:(L3 E.ntmps d1&&L3 E.ntmps d2&&L3 E.ntmps dA&&L3 E.ntmps dB&&L3 E.ntmps d3&&I1 dA&&I1 dB&&decide (p1<E.ntmps)&&decide (p2<E.ntmps))=true) (f7:eO P gf)
  (f0:∀{base:Bs}{w0:World}{φ:List Loc}{w:World}{a:Act}{e:Env}{H:d7}{L:List (Nat×Nat)}{ok:d7->Prop},it e H=some (L,ok)->ER φ E.ntmps e a->WR base w0 φ H.bs w->
   ∃lb Rd,a.eval g= .func (.func gf) #[] lb/\(∀φ' H' W',Ext φ φ'->WR base w0 φ' H'.bs W'->ok H'->Rd W')/\∀W0,WR base w0 φ H.bs W0->zo P gf lb Rd L W0):
  au P (LK f (pj P X c1 c2 A B c3 p1 p2 E.ntmps E.results.toList it)):=by
 intro base w0 g' args H v r h;simp only[gk,xo]at d0;obtain⟨⟨⟨⟨⟨⟨⟨⟨o1,o2⟩,oA⟩,oB⟩,o3⟩,rA⟩,rB⟩,g0⟩,g1⟩:=d0;have hC:=zm hm hX;have f5:eO P f:=⟨E,a6,b5,by rw[a5];rfl⟩
 unfold LK at h;split at h
 rotate_left
 .cases h
 rename_i f6;subst f6;unfold pj at h;split at h
 rotate_left
 .cases h
 rename_i c9;unfold t6 at h;split at h
 .cases h
 rotate_left
 .cases h
 rename_i o e4 H4 f9 u;obtain⟨vs,g2,c4⟩:=ZZ.1 h;unfold vU at u;split at u
 rotate_left
 .cases u
 rename_i e1 H1 r1;split at u
 rotate_left
 .cases u
 rename_i e2 H2 r2;split at u
 rotate_left
 .cases u
 rename_i L ok f8;obtain⟨k1,x1⟩:=fU l1 r1;obtain⟨k2,x2⟩:=fU l2 r2;have b0:=R1 (hC base w0) x1;have b1:=R1 (hC base w0) x2;have a8:∀{base:Bs}{w0:World}{φ:List Loc}{w':World}{a':Act}{D:Nat}{R:Ending->World->Prop},ER φ E.ntmps e4 a'->WR base w0 φ H4.bs w'->a'.defers=[{target:= .collected D,args:= #[]}]->w'.heap[D]?=some (.deferred (some []))->¬base.pr D->
   (∀v' a9,VR φ (cU vs) v'->WR base w0 φ H4.bs a9->(∀b7,Fr φ H4.bs b7 w' a9)->R (.returned v') a9)->LeavesInM Fence.wide 3 P E a'.tmps R a'.defers .returning w':=by
  intro base w0 φ w' a' D R hE hW hd hD O hR;rw[hd];have U:=hW.putX hD rfl O (.deferred none);obtain⟨v',hv,u⟩:=nV U hE g2;exact⟨by simp,.inl ⟨D,_,rfl,run_takeDeferred hD,v',u,hR v' _ hv U fun b7=>qj hW hD rfl O _ b7⟩⟩
 have g3:∃(o5:Out)(H3:d7),cF P X A B p1 p2 e2 ok L H2=some (o5,H3)/\((o5= .normal/\LE P X c3 e2 H3=some (o,e4,H4))\/(o5= .ret/\o= .ret/\e4=e2/\H4=H3)):=by
  split at u
  next H3 r3=>exact⟨_,H3,r3,.inl ⟨rfl,u⟩⟩
  next H3 r3=>cases u;exact⟨_,_,r3,.inr ⟨rfl,rfl,rfl,rfl⟩⟩
  .cases u
 obtain⟨o5,H3,r3,d4⟩:=g3;obtain⟨k3,x3⟩:=gV lA lB L H2 r3;have b6:=dW (hC base w0) L H2 x3;have d6:Le H3 H4:=by
  rcases d4 with⟨_,h3⟩|⟨_,_,_,rfl⟩
  .obtain⟨k4,x4⟩:=fU l3 h3;exact R1 (hC base w0) x4
  .exact Le.refl _
 have a7:Le ⟨H.bs,H.n⟩ H4:=((b0.trans b1).trans b6).trans d6;refine⟨f5,Eo a7 (fun φ w e3 ha hW=>?_) c4⟩;refine(callsIn_wide (n:=3)).1 (callsIn_of_wp_marks a6 a5 trivial (ado.2 (wp_seq ?_)));refine gB (H:=⟨H.bs,H.n⟩) hm hC o1 x1 (xy ha c9) hW ?_;intro φ1 a1 w1 J e7 f1 c5 f2;refine wp_seq (wp_seq (gB hm hC o2 x2 e7 f1 ?_));intro φ2 a2 w2 W S U c6 f3;have b2:a2.defers=[]:=f3.trans f2;obtain⟨lb,Rd,q1,q2,q3⟩:=f0 f8 S U;have O:¬base.pr w2.heap.size:=fun q=>oN (U.size _ q);refine wp_block (oL hm hC rA rB oA oB g0 g1 S U q1 f7 Rd q2 q3 x3 ?_);intro φ3 w3 z b4 c7 b3;have b9:Fr φ H.bs H3.low w w3:=Fr.trans (H:=(⟨H.bs,H.n⟩:d7)) (J.trans W) (b0.trans b1) b6 hW.len (Fr.trans (H:=(⟨H.bs,H.n⟩:d7)) J b0 b1 hW.len c5 c6) c7;rcases d4 with⟨rfl,h3⟩|⟨rfl,rfl,rfl,e5⟩
 .obtain⟨k4,x4⟩:=fU l3 h3;have e8:ER φ3 E.ntmps e2 {a2 with defers:={target:= .collected w2.heap.size,args:= #[]}::a2.defers}:=⟨(S.mono z).size,(S.mono z).val⟩
  refine gB (base:=base.add fun j=>j=w2.heap.size) (w0:=w3) hm hC o3 x4 e8 (b4.raiseX _ fun j hj=>by subst hj;exact⟨O,_,b3,rfl⟩) ?_;intro φ4 a4 w4 d5 e9 c0 c8 f4;have e6:Fr φ H.bs H4.low w w4:=Fr.trans (H:=(⟨H.bs,H.n⟩:d7)) ((J.trans W).trans z) ((b0.trans b1).trans b6) d6 hW.len b9 c8;have b8:=a8 (R:=fun en w'=>∃v' φ',en= .returned v'/\Ext φ φ'/\VR φ' (cU vs) v'/\WR base w0 φ' H4.bs w'/\Fr φ H.bs H4.low w w') e9 (c0.lower b4.below) (by rw[f4,b2]) ((c0.below.block _ (.inr rfl)).trans b3) O
   (fun v' a9 hv a3 I=>⟨v',φ4,rfl,((J.trans W).trans z).trans d5,hv,a3,Fr.trans (H:=(⟨H.bs,H.n⟩:d7)) (((J.trans W).trans z).trans d5) a7 (Le.refl _) hW.len e6 (I _)⟩)
  cases o with
  |normal=>exact b8
  |ret=>exact b8
  |exit id=>exact(f9 id rfl).elim
 .subst e5;exact a8 (a':={a2 with defers:={target:= .collected w2.heap.size,args:= #[]}::a2.defers}) (R:=fun en w'=>∃v' φ',en= .returned v'/\Ext φ φ'/\VR φ' (cU vs) v'/\WR base w0 φ' H4.bs w'/\Fr φ H.bs H4.low w w') ⟨(S.mono z).size,(S.mono z).val⟩ b4 (by rw[b2]) b3 O
   (fun v' a9 hv a3 I=>⟨v',φ3,rfl,(J.trans W).trans z,hv,a3,Fr.trans (H:=(⟨H.bs,H.n⟩:d7)) ((J.trans W).trans z) a7 (Le.refl _) hW.len b9 (I _)⟩)
end
def GL{H:Type}(d:DataW H):1<=Rows.uptoBulk d:=by
 cases d with
 |lit l=>cases l<;>simp [Rows.uptoBulk]
 |nil=>simp [Rows.uptoBulk]
 |ptr d=>simp [Rows.uptoBulk]
 |slice z E=>simp [Rows.uptoBulk]
 |agg D=>simp [Rows.uptoBulk]
 |iface t d=>simp [Rows.uptoBulk]
 |map u=>simp [Rows.uptoBulk]
 |held h=>simp [Rows.uptoBulk]
def DH{H:Type}{d:DataW H}{l:List (DataW H)}(h:d∈l):Rows.uptoBulk d<=Rows.uptoBulkAll l:=by
 induction l with
 |nil=>cases h
 |cons x r u=>
  simp only[Rows.uptoBulkAll];rcases aam.1 h with e|e
  .subst e;omega
  .have:=u e;omega
def GK{H:Type}(l:List (DataW H)):l.length<=Rows.uptoBulkAll l:=by
 induction l with
 |nil=>simp [Rows.uptoBulkAll]
 |cons x r h=>have:=GL x;simp only[Rows.uptoBulkAll,A1];omega
def Old(S S':List Blk):Prop:=∀(b:Nat) c sz,S[b]?=some (.cells c false sz)->S'[b]?=some (.cells c false sz)
def Old.refl(S:List Blk):Old S S:=fun _ _ _ h=>h
def Old.trans{a b c:List Blk}(h:Old a b)(k:Old b c):Old a c:=fun _ _ _ x=>k _ _ _ (h _ _ _ x)
def Old.snoc(S:List Blk)(B:Blk):Old S (S++[B]):=fun b c sz h=>by
 rw[xd];exact h;exact(abv.1 h).1
def Old.append(S T:List Blk):Old S (S++T):=fun b c sz h=>by
 rw[xd];exact h;exact(abv.1 h).1
def Old.set{S:List Blk}{b:Nat}{B:Blk}(h:∀c sz,S[b]?≠some (.cells c false sz)) (z:Blk):Old S (S.set b z):=fun D c sz u=>by
 rw[abb];by_cases e:b=D
 .subst e;exact absurd u (h c sz)
 .rw[bt e];exact u
def Sl(S:List Blk)(sz:Nat){α:Type}(R:LV->α->Prop)(v:aet)(l:List α):Prop:=
 (v= .slice none 0 0/\l=[])\/
 ∃b o,v= .slice (some ⟨b,o,none⟩) l.length (l.length+1)/\
  (l=[]\/∃c,S[b]?=some (.cells c false sz)/\o+l.length*sz<=c.length/\∀i a,l[i]?=some a->R ((c.drop (o+i*sz)).take sz) a)
def Sl.mono{S u:List Blk}{α:Type}{R R':LV->α->Prop}{l:List α}(O:Old S u)(I:∀cs a,R cs a->R' cs a) (h:Sl S sz R v l):Sl u sz R' v l:=by
 rcases h with h|⟨b,o,U,h⟩
 .exact .inl h
 .refine .inr ⟨b,o,U,?_⟩;rcases h with h|⟨c,z,D,E⟩
  .exact .inl h
  .exact .inr ⟨c,O _ _ _ z,D,fun i a J=>I _ _ (E i a J)⟩
section
variable{P:Program}
def N9(P:Program)(k:Nat)(t:TypeId){α:Type}(R:List Blk->LV->α->Prop):Prop:=
 (∀S S' cs a,Old S S'->R S cs a->R S' cs a)/\
 ∀{H:Type}(enc:TypeId×aet->H)(W:World)(fuel:Nat),fuel<k->∀(cs:LV)(d:DataW H)(ps:List MemPlace),DataW.trod enc P W 0 (fun _=>true) true fuel t cs=some (d,ps)->
  Rows.uptoBulk d<=1048576->∀(φ:List Loc)(S:List Blk),WR (Bs.lt W.heap.size) W φ S W->
  ∃(φ':List Loc)(S':List Blk)(ac:LV)(a:α),Ext φ φ'/\Old S S'/\WR (Bs.lt W.heap.size) W φ' S' W/\VRs φ' ac cs/\(∀x∈ac,x.oneCell'=true)/\R S' ac a
def N9.map{t:TypeId}{α β:Type}{R:List Blk->LV->α->Prop}{R':List Blk->LV->β->Prop}(h:N9 P k t R)(f:α->β)
  (hf:∀S cs a,R S cs a->R' S cs (f a)) (hm:∀S z cs a,Old S z->R' S cs a->R' z cs a):N9 P k t R':=
 ⟨hm,fun enc W u hk cs d ps ht hw φ S hW=>by
  obtain⟨φ',z,D,a,E,I,J,O,U,X⟩:=h.2 enc W u hk cs d ps ht hw φ S hW;exact⟨φ',z,D,f a,E,I,J,O,U,hf _ _ _ X⟩⟩
def zu{t:TypeId}(I:P.underlying t=some (.int k)):N9 P j t (fun _ cs(n:Int)=>cs=[.int k n]/\(Lit.int k n).wf=true):=
 ⟨fun _ _ _ _ _ h=>h,fun enc W u _ cs d O h J φ S D=>by
  obtain⟨n,rfl,_,E⟩:=DataW.trod_int I h;exact⟨φ,S,[.int k n],n,Ext.refl φ,Old.refl S,D,.cons (.int k n) (.nil φ),fun x z=>by simp at z;subst z;rfl,rfl,E⟩⟩
def rX{t:TypeId}(I:P.underlying t=some .string):N9 P j t (fun _ cs(s:aes)=>cs=[.string s]/\s.size<=1048576):=
 ⟨fun _ _ _ _ _ h=>h,fun enc W z _ cs d O h D φ S E=>by
  obtain⟨s,rfl,u,J⟩:=DataW.trod_string I h;cases u;have:s.size<=1048576:=by simp only[Rows.uptoBulk,ab3]at D;exact Nat.le_of_succ_le D
  exact⟨φ,S,[.string s],s,Ext.refl φ,Old.refl S,E,.cons (.string s) (.nil φ),fun x u=>by simp at u;subst u;rfl,rfl,this⟩⟩
def kF(P:Program)(k:Nat)(fs:List Field)(off:Nat){α:Type}(R:List Blk->LV->α->Prop):Prop:=
 (∀S S' cs a,Old S S'->R S cs a->R S' cs a)/\
 ∀{H:Type}(enc:TypeId×aet->H)(W:World)(fuel:Nat),fuel<k->∀(cs:LV)(xs:List (DataW H×List MemPlace)),
  xs.length=fs.length->(∀(i:Nat) f,fs[i]?=some f->DataW.trod enc P W 0 (fun _=>true) true fuel f.type ((cs.drop f.offset).take (P.cellsOf f.type))=xs[i]?)->
  Rows.uptoBulkAll (xs.map (·.1))<=1048576->∀(φ:List Loc)(S:List Blk),WR (Bs.lt W.heap.size) W φ S W->
  ∃(tot:Nat)(φ':List Loc)(S':List Blk)(ac:LV)(a:α),(cs.length=off+ac.length->True)/\Ext φ φ'/\Old S S'/\WR (Bs.lt W.heap.size) W φ' S' W/\VRs φ' ac ((cs.drop off).take tot)/\
   (fs.foldl (fun n f=>n+P.cellsOf f.type) 0=tot)/\(∀x∈ac,x.oneCell'=true)/\R S' ac a
def cL(u:Nat):kF P j [] u (fun _ cs(_:Unit)=>cs=[]):=
 ⟨fun _ _ _ _ _ h=>h,fun enc W z _ cs xs E h I φ S D=>⟨0,φ,S,[],(),fun _=>trivial,Ext.refl φ,Old.refl S,D,by simpa using VRs.nil φ,rfl,by simp,rfl⟩⟩
def iP(g:Field->Nat):∀(l:List Field)(k:Nat),l.foldl (fun n f=>n+g f) k=k+l.foldl (fun n f=>n+g f) 0
 |[],k=>by simp
 |f::l,k=>by simp only[aak];rw[iP g l (k+g f),iP g l (0+g f)];omega
def D6{f:Field}{α β:Type}{R:List Blk->LV->α->Prop}{Q:List Blk->LV->β->Prop}(I:f.offset=u)(hk:P.cellsOf f.type=k)
  (h:N9 P j f.type R) (g:kF P j fs (u+k) Q):
  kF P j (f::fs) u (fun S cs(x:α×β)=>∃c1 c2,cs=c1++c2/\R S c1 x.1/\Q S c2 x.2):=
 ⟨fun S S' cs a I⟨c1,c2,e,h1,h2⟩=>⟨c1,c2,e,h.1 _ _ _ _ I h1,g.1 _ _ _ _ I h2⟩,fun enc W z hj cs xs hl ht hw φ S hW=>by
  cases xs with
  |nil=>simp at hl
  |cons x xs=>
   have h0:=ht 0 f (by simp);rw[aar,I,hk]at h0;simp only[aaQ,Rows.uptoBulkAll]at hw;obtain⟨φ1,S1,O,v1,e1,o1,w1,r1,n1,q1⟩:=h.2 enc W z hj _ x.1 x.2 h0 oM φ S hW;obtain⟨D,φ2,S2,U,v2,_,X,o2,w2,r2,t2,n2,q2⟩:=g.2 enc W z hj cs xs (by simpa using hl) (fun i f' J=>by simpa using ht (i+1) f' (by simpa using J)) oM φ1 S1 w1;refine⟨k+D,φ2,S2,O++U,(v1,v2),fun _=>trivial,e1.trans X,o1.trans o2,w2,?_,?_,?_,O,U,rfl,h.1 _ _ _ _ o2 q1,q2⟩
   .have hs:(cs.drop u).take (k+D)=(cs.drop u).take k++(cs.drop (u+k)).take D:=by
     rw[List.take_add,abm]
    rw[hs];exact(r1.mono X).append r2
   .simp only[aak];rw[iP (fun f=>P.cellsOf f.type),t2,hk];omega
   .intro y E;rcases ns.1 E with E|E
    .exact n1 y E
    .exact n2 y E⟩
def ai{t:TypeId}{α:Type}{R:List Blk->LV->α->Prop}(ht:P.underlying t=some (.struct u))(hc:P.cellsOf t=u.toList.foldl (fun n f=>n+P.cellsOf f.type) 0)
  (h:kF P j u.toList 0 R):N9 P (j+1) t R:=
 ⟨h.1,fun enc W D hj cs d ps O hw φ S J=>by
  obtain⟨xs,n,X,hx,hl,hn,U⟩:=DataW.trod_struct ht O;cases hx;obtain⟨a1,φ',E,I,a,_,e,o,w,r,tt,nn,q⟩:=h.2 enc W n oM cs xs (by simpa using hn) (fun i f z=>U i f (by simpa using z)) (by simp only[Rows.uptoBulk]at hw;omega) φ S J;refine⟨φ',E,I,a,e,o,w,?_,nn,q⟩;rw[aan,A2 oM]at r;exact r⟩
def nf{e:TypeId}{α:Type}{R:List Blk->LV->α->Prop}(h:N9 P j e R){H:Type}(enc:TypeId×aet->H)(W:World)(z:Nat)(hj:z<j):
  ∀(u:List (LV))(ds:List (DataW H×List MemPlace)),u.length=ds.length->(∀(i:Nat) cs x,u[i]?=some cs->ds[i]?=some x->DataW.trod enc P W 0 (fun _=>true) true z e cs=some x)->
   (∀x∈ds,Rows.uptoBulk x.1<=1048576)->∀(φ:List Loc)(S:List Blk),WR (Bs.lt W.heap.size) W φ S W->
   ∃(φ':List Loc)(U:List Blk)(E:List (LV))(l:List α),Ext φ φ'/\Old S U/\WR (Bs.lt W.heap.size) W φ' U W/\E.length=u.length/\l.length=u.length/\
    (∀(i:Nat) D cs,E[i]?=some D->u[i]?=some cs->VRs φ' D cs)/\(∀D∈E,∀x∈D,x.oneCell'=true)/\(∀(i:Nat) D a,E[i]?=some D->l[i]?=some a->R U D a)
 |[],[],_,_,_,φ,S,hW=>⟨φ,S,[],[],Ext.refl φ,Old.refl S,hW,rfl,rfl,by simp,by simp,by simp⟩
 |[],_::_,hl,_,_,_,_,_=>by simp at hl
 |_::_,[],hl,_,_,_,_,_=>by simp at hl
 |cs::u,x::ds,hl,ht,hw,φ,S,hW=>by
  obtain⟨φ1,S1,a1,v1,e1,o1,w1,r1,n1,q1⟩:=h.2 enc W z hj cs x.1 x.2 (ht 0 cs x (by simp) (by simp)) (hw x (by simp)) φ S hW;obtain⟨φ2,S2,E,l,e2,o2,w2,X,a2,r2,n2,q2⟩:=nf h enc W z hj u ds (by simpa using hl) (fun i c y J O=>ht (i+1) c y (by simpa using J) (by simpa using O)) (fun y O=>hw y (by simp [O])) φ1 S1 w1;refine⟨φ2,S2,a1::E,v1::l,e1.trans e2,o1.trans o2,w2,by simp [X],by simp [a2],?_,?_,?_⟩
  .intro i D c I J;cases i with
   |zero=>simp at I J;subst I J;exact r1.mono e2
   |succ i=>exact r2 i D c (by simpa using I) (by simpa using J)
  .intro D I y O;rcases aam.1 I with rfl|I
   .exact n1 y O
   .exact n2 D I y O
  .intro i D a I J;cases i with
   |zero=>simp at I J;subst I J;exact h.1 _ _ _ _ o2 q1
   |succ i=>exact q2 i D a (by simpa using I) (by simpa using J)
def xN{α:Type}:∀(l:List (List α)),(∀x∈l,x.length=sz)->l.flatten.length=l.length*sz
 |[],_=>by simp
 |x::l,h=>by
  rw[acI,ib,xN l (fun y u=>h y (by simp [u])),h x (by simp),A1,aaP];omega
def qi{α:Type}:∀(l:List (List α)),(∀x∈l,x.length=sz)->∀(i:Nat) x,l[i]?=some x->(l.flatten.drop (i*sz)).take sz=x
 |[],_,i,x,hx=>by simp at hx
 |y::l,h,0,x,hx=>by
  simp at hx;subst hx;have:=h y (by simp);simp only[aa8,aan,acI];rw[<-this,aba lR,abZ]
 |y::l,h,i+1,x,hx=>by
  have u:=h y (by simp);have e:(i+1)*sz=y.length+i*sz:=by rw[u,aaP];omega
  rw[acI,e,<-abm,ade];exact qi l (fun z D=>h z (by simp [D])) i x (by simpa using hx)
def ym{α β:Type}{f:α->Option β}:∀{l:List α}{r:List β},l.mapM f=some r->r.length=l.length/\∀(i:Nat) x y,l[i]?=some x->r[i]?=some y->f x=some y
 |[],r,h=>by simp at h;subst h;simp
 |a::l,r,h=>by
  rw[ab1]at h;cases u:f a with
  |none=>simp [u]at h
  |some b=>
   cases z:l.mapM f with
   |none=>simp [u,z]at h
   |some O=>
    simp [u,z]at h;subst h;obtain⟨I,J⟩:=ym z;refine⟨by simp [I],fun i x y D E=>?_⟩;cases i with
    |zero=>simp at D E;subst D;subst E;exact u
    |succ i=>exact J i x y (by simpa using D) (by simpa using E)
def iG{w:World}{a:Addr}{n:Nat}(h:w.cells? 0 a n=some cs):cs.length=n/\∀(j:Nat) x,cs[j]?=some x->w.cell? (a.add j)=some x:=by
 unfold World.cells? at h;rw[cA (aaJ _)]at h;obtain⟨u,D⟩:=ym h;refine⟨by simpa using u,fun j x z=>?_⟩;have E:j<cs.length:=(abv.1 z).1;exact D j j x (adv (by simpa [u] using E)) z
def zH{w:World}{a:Addr}(h:w.cell? a=some x):a.spot=none/\a.block<w.heap.size:=by
 unfold World.cell? at h;split at h
 .rename_i c _ _ u;refine⟨?_,(adx.1 u).1⟩;cases z:a.spot with
  |none=>rfl
  |some n=>simp [z]at h
 .cases h
def ni{w:World}{a:Addr}{n:Nat}(D:0<n)(h:w.cells? 0 a n=some cs):a.spot=none/\a.block<w.heap.size:=by
 obtain⟨z,u⟩:=iG h;have:=u 0 (cs[0]'oM) (by first|(simp;done)|(simp;omega));exact zH (by simpa [Addr.add] using this)
def wF{a:Addr}(h:a.spot=none)(n:Nat):a.add n=⟨a.block,a.off+n,none⟩:=by
 obtain⟨b,o,s⟩:=a;simp only at h;subst h;unfold Addr.add;split
 next u=>subst u;rfl
 .rfl
def dI{t e:TypeId}{α:Type}{R:List Blk->LV->α->Prop}(ht:P.underlying t=some (.slice e))(hs:P.cellsOf e=sz)(hp:0<sz)(h:N9 P j e R):
  N9 P (j+1) t (fun S cs(l:List α)=>∃v,cs=[v]/\Sl S sz (R S) v l/\l.length<=1048576):=
 ⟨fun S S' cs l ho⟨v,e1,e2,e3⟩=>⟨v,e1,e2.mono ho (fun cs a=>h.1 _ _ _ _ ho),e3⟩,fun{H} enc W fuel hj cs d ps hd hw φ S hW=>by
  rcases DataW.trod_slice ht hd with⟨rfl,u⟩|⟨a,E,z,D,rest,n,c9,rfl,u,_,c4,_,b9,a6,b5,_⟩
  .exact⟨φ,S,[.slice none 0 0],[],Ext.refl φ,Old.refl S,hW,.cons .nilslice (.nil φ),fun x u=>by simp at u;subst u;rfl,_,rfl,.inl ⟨rfl,rfl⟩,by simp⟩
  .cases u;rw[hs]at a6 b5;simp only[Rows.uptoBulk]at hw;have a7:E<=1048576:=by
    have:=GK (D.map (·.1));rw[aa7]at this;omega
   by_cases h0:E=0
   ·
    subst h0;refine⟨φ++[⟨a.block,a.off,z*sz,sz⟩],S++[.dead],[.slice (some ⟨S.length,0,none⟩) 0 1],[],Ext.snoc _ _,Old.snoc _ _,?_,?_,fun x u=>by simp at u;subst u;rfl,_,rfl,.inr ⟨_,_,rfl,.inl rfl⟩,by simp⟩
    .exact hW.push ⟨lR,fun _ _ _=>rfl⟩ hW.below (fun hm=>by cases hm) trivial
    .refine .cons ?_ (.nil _);by_cases b8:z=0
     .subst b8;exact .slice0
     .obtain⟨d0,c6⟩:=b5 rfl;have h1:=c6 0 oM;have c5:rest[0]?=some (rest[0]'oM):=by first|(simp;done)|(simp;omega)
      rw[c5]at h1;obtain⟨a2,O,b3⟩:=ada.1 h1;have a8:=(ni hp O).1;simp only[aaH,aa8]at a8;have a9:a.spot=none:=by simpa [Addr.add] using a8
      have hl:(φ++[(⟨a.block,a.off,z*sz,sz⟩:Loc)])[S.length]?=some ⟨a.block,a.off,z*sz,sz⟩:=by rw[<-hW.len];simp
      have:=VR.slice (φ:=φ++[⟨a.block,a.off,z*sz,sz⟩]) (b:=S.length) (o:=0) (n:=0) (c:=z) hl (aaJ _) (by simp);obtain⟨ab,ao,b7⟩:=a;simp only at a9;subst a9
      simpa using this
   .have J:∀i,i<E->∃cs x,W.cells? 0 (a.add (i*sz)) sz=some cs/\D[i]?=some x/\DataW.trod enc P W 0 (fun _=>true) true n e cs=some x:=by
     intro i U;have h1:=a6 i U;have h2:D[i]?=some (D[i]'oM):=by first|(simp;done)|(simp;omega)
     rw[h2]at h1;obtain⟨a2,O,b3⟩:=ada.1 h1;exact⟨a2,_,O,h2,b3⟩
    have X:a.spot=none/\a.block<W.heap.size:=by
     obtain⟨a2,x0,O,_⟩:=J 0 oM;have:=ni hp O
     simpa [Addr.add] using this
    let css:List (LV):=(List.range E).map fun i=>(W.cells? 0 (a.add (i*sz)) sz).getD []
    have a1:css.length=E:=by simp [css]
    have a3:∀(i:Nat) c,css[i]?=some c->i<E/\W.cells? 0 (a.add (i*sz)) sz=some c:=by
     intro i c hc;have U:i<E:=by rw[<-a1];exact(abv.1 hc).1
     obtain⟨a2,x0,O,_⟩:=J i U;refine⟨U,?_⟩;simp only[css,aaS,adv U,aaU,O,aa6,aaa]at hc;rw[O,hc]
    obtain⟨φ1,S1,I,l,e1,o1,w1,c3,b2,b6,b4,hR⟩:=nf h enc W n oM css D (by rw[a1,b9])
     (fun i c x hc u=>by
      obtain⟨U,h1⟩:=a3 i c hc;obtain⟨a2,x0,k1,k2,k3⟩:=J i U;rw[h1]at k1;cases k1;rw[u]at k2;cases k2;exact k3)
     (fun x u=>by have:=DH (List.mem_map_of_mem (f:=(·.1)) u);omega) φ S hW
    have b1:∀x∈I,x.length=sz:=by
     intro x u;obtain⟨i,U,rfl⟩:=List.mem_iff_getElem.1 u;have a5:i<css.length:=oM;have:=(b6 i _ _ (yv U) (yv a5)).1;rw[this];exact(iG (a3 i _ (yv a5)).2).1
    have a4:I.flatten.length=E*sz:=by rw[xN I b1,c3,a1]
    have hl:(φ1++[(⟨a.block,a.off,z*sz,sz⟩:Loc)])[S1.length]?=some ⟨a.block,a.off,z*sz,sz⟩:=by rw[<-w1.len];simp
    refine⟨φ1++[⟨a.block,a.off,z*sz,sz⟩],S1++[.cells I.flatten false sz],[.slice (some ⟨S1.length,0,none⟩) l.length (l.length+1)],l,e1.trans (Ext.snoc _ _),o1.trans (Old.snoc _ _),?_,?_,
     fun x u=>by simp at u;subst u;rfl,_,rfl,.inr ⟨_,_,rfl,.inr ⟨I.flatten,by simp,?_,?_⟩⟩,?_⟩
    .refine w1.push ⟨lR,fun _ _ _=>rfl⟩ w1.below (fun hm=>by cases hm) ⟨rfl,?_,?_,fun _=>X.2,fun hh=>by cases hh⟩
     .intro x u;obtain⟨ac,h1,h2⟩:=List.mem_flatten.1 u;exact b4 ac h1 x h2
     .intro j x u;have hj:j<E*sz:=by rw[<-a4];exact(abv.1 u).1
      have hq:j / sz<E:=Nat.div_lt_of_lt_mul (by rw[adf];exact hj);have hm:j % sz<sz:=Nat.mod_lt _ hp;have U:j / sz<I.length:=oM;have a5:j / sz<css.length:=oM;have c0:=qi I b1 (j / sz) _ (yv U);have c7:(I[j / sz])[j % sz]?=some x:=by
       rw[<-c0,aaO,cA hm,aaA,adf,Nat.div_add_mod];exact u
      obtain⟨y,hy,c8⟩:=(b6 _ _ _ (yv U) (yv a5)).g c7;have:=(iG (a3 _ _ (yv a5)).2).2 _ y hy;rw[wF X.1,wF rfl]at this;refine⟨y,?_,c8.mono (Ext.snoc _ _)⟩;have e2:a.off+j / sz*sz+j % sz=a.off+j:=by rw[aa5,adf,Nat.div_add_mod]
      simpa [e2] using this
    .refine .cons ?_ (.nil _);have:=VR.slice (φ:=φ1++[⟨a.block,a.off,z*sz,sz⟩]) (b:=S1.length) (o:=0) (n:=E) (c:=z) hl c4 (by simp);obtain⟨ab,ao,b7⟩:=a;have b0:=X.1;simp only at b0;subst b0;rw[b2,a1]
     simpa using this
    .rw[b2,a1,a4];omega
    .intro i x u;have U:i<I.length:=by have:=(abv.1 u).1;omega
     rw[aaH,qi I b1 i _ (yv U)];exact h.1 _ _ _ _ (Old.snoc _ _) (hR i _ x (yv U) u)
    .rw[b2,a1];exact a7⟩
def EI(hm:P.follows .mixedOrders=true){X:Lib}{W:World}(J:sS P X){args u:LV}{φ:List Loc}{S:List Blk}(I:WR (Bs.lt W.heap.size) W φ S W)(O:VRs φ args u)
  (h:CL P X f args ⟨S,S.length⟩=some (.bool true,none)):Calls P f u.toArray W fun e z=>e= .returned (.bool true)/\Below W.heap.size W z:=by
 obtain⟨_,_,_,U⟩:=zm hm J (Bs.lt W.heap.size) W f args ⟨S,S.length⟩ (.bool true) none h;exact(U φ W u O I).mono fun e z⟨D,E⟩=>⟨D,E.1.below.below⟩
def JM(W:World):WR (Bs.lt W.heap.size) W [] [] W:=⟨rfl,Bel.refl _ _,fun _ h=>h,by simp,by simp⟩
end
end Go.Proofs.YtbekeboballbgaaGreatDoor.Ve
namespace Go.Proofs.YtbekeboballbgaaGreatDoor.Ve.Ab
open Go Go.RowKit
abbrev T(n:Nat):Operand:= .tmp n
abbrev K(n:Int):Operand:= .const (.int .i64 n)
abbrev B0:Operand:= .const (.bool false)
abbrev B1:Operand:= .const (.bool true)
abbrev S0:Operand:= .const (.slice none 0 0)
abbrev c1(f a t:Nat):Op:= .call ⟨.value (.func f),#[T a],#[t]⟩
abbrev c2(f a b t u:Nat):Op:= .call ⟨.value (.func f),#[T a,T b],#[t,u]⟩
abbrev cf(f:Nat)(a:Array Operand)(t:Array TypeId):Op:= .call ⟨.value (.func f),a,t⟩
abbrev cv(f:Operand)(a:Array Operand)(t:Array TypeId):Op:= .call ⟨.value f,a,t⟩
abbrev bi(f:Builtin)(a:Array Operand)(t:Array TypeId):Op:= .call ⟨.builtin f,a,t⟩
abbrev ln(a t:Nat):Op:= .call ⟨.builtin .len,#[T a],#[t]⟩
abbrev ap(a b t u:Nat):Op:= .call ⟨.builtin .append,#[T a,T b],#[t,u]⟩
abbrev mv(n:Nat):Op:= .move (T n)
abbrev fa(t a i:Nat):Op:= .fieldAddr t (T a) i
abbrev ia(t a i:Nat):Op:= .indexAddr t (T a) (T i)
abbrev st'(t a x:Nat):Op:= .store t (T a) (T x)
abbrev bx(t a:Nat):Op:= .box t (T a)
abbrev ex(a i:Nat):Op:= .extract (T a) i
abbrev nc(a:Nat):Op:= .nilCheck (T a)
abbrev bo(o:BinOp)(t a b u:Nat):Op:= .binOp o t (T a) (T b) u
abbrev bk(o:BinOp)(t a:Nat)(n:Int)(u:Nat):Op:= .binOp o t (T a) (K n) u
abbrev pa(a b:Nat):Op:= .pick (T a) (T b) B0
abbrev po(a b:Nat):Op:= .pick (T a) B1 (T b)
abbrev nt'(t a:Nat):Op:= .unOp .not t (T a)
abbrev N(d:Nat)(o:Op):LOp:=⟨some d,o,none⟩
abbrev V(o:Op):LOp:=⟨none,o,none⟩
abbrev Y(g d:Nat)(o:Op):LOp:=⟨some d,o,some (g,true)⟩
abbrev Z(g d:Nat)(o:Op):LOp:=⟨some d,o,some (g,false)⟩
abbrev M(d a:Nat):LOp:=⟨some d,.move (T a),none⟩
abbrev L(d t a:Nat):LOp:=⟨some d,.load t (T a),none⟩
abbrev A(d a:Nat):LOp:=⟨some d,.assign (T a),none⟩
abbrev F(d t a i:Nat):LOp:=⟨some d,.fieldAddr t (T a) i,none⟩
abbrev cO:=t5.ops
abbrev cS:=t5.seq
abbrev cB:=t5.block
abbrev cC:=t5.cond
abbrev cW(n:Nat)(b:t5):t5:= .block n (.loop b)
abbrev m0(o:LOp):ML:=⟨o,false,false,0,0⟩
abbrev m1(o:LOp):ML:=⟨o,false,true,0,0⟩
abbrev m2(o:LOp)(l h:Nat):ML:=⟨o,false,false,l,h⟩
abbrev m3(o:LOp)(l h:Nat):ML:=⟨o,true,true,l,h⟩
abbrev m4(o:LOp)(l h:Nat):ML:=⟨o,true,false,l,h⟩
abbrev cX(o:List LOp)(c:t5):=t5.seq (.ops o) c
abbrev cR(o:List LOp):=t5.seq (.ops o) .ret
abbrev cG(t n:Nat)(c:t5):=t5.seq (.cond (T t) .skip (.exit n)) c
abbrev cH(t a b:Nat)(c:t5):=t5.seq (.ops [N t (bo .lss 3 a b 3)]) (.seq (.cond (T t) .skip (.exit 0)) c)
abbrev iN(a:Nat):Op:=bk .add 3 a 1 3
abbrev yF(o:LOp):LOp×Bool:=(o,false)
abbrev yT(o:LOp):LOp×Bool:=(o,true)
end Go.Proofs.YtbekeboballbgaaGreatDoor.Ve.Ab
namespace Go.Proofs.YtbekeboballbgaaGreatDoor.Ve
open Go Go.RowKit
def EO(ops:List Oper)(o:Oper):LOp:=
 match o.guard with
 |none=>⟨o.dst,o.op,none⟩
 |some (j,b)=>match ops[j]? with
  |some x=>match x.dst with
   |some d=>⟨o.dst,o.op,some (d,b)⟩
   |none=>⟨o.dst,o.op,none⟩
  |none=>⟨o.dst,o.op,none⟩
def Hn(ops:List Oper):Nat->List Oper->List (LOp×Bool)
 |_,[]=>[]
 |0,o::r=>(EO ops o,true)::Hn ops 0 r
 |t+1,o::r=>(EO ops o,false)::Hn ops t r
def Uz(ops:List Oper)(A tl:List Nat):Nat->List Oper->List ML
 |_,[]=>[]
 |i,o::r=>⟨EO ops o,C0 o.op,rdK o.op,(vM A tl i).1,(vM A tl i).2⟩::Uz ops A tl (i+1) r
def BW:Nat->List Oper->List Nat
 |_,[]=>[]
 |i,o::r=>if C0 o.op then i::BW (i+1) r else BW (i+1) r
def gL:Code->List Nat->t5×List Nat
 | .skip,d=>(.skip,d)
 | .ret,d=>(.ret,d)
 | .exit id,d=>(.exit id,d)
 | .region _ ops draw,d=>
  if draw then match d with
   |0::d=>(.mix (Uz ops.toList (F5 ops.toList []) (BW 0 ops.toList) 0 ops.toList),d)
   |(t+1)::d=>(.draw (Hn ops.toList t ops.toList),d)
   |[]=>(.skip,[])
  else(.ops (ops.toList.map (EO ops.toList)),d)
 | .seq a b,d=>match tp a b with
  |some z=>match gL b d with
   |(b,d)=>(.coin (z.l1.map (EO z.ops.toList)) (z.l2.map (EO z.ops.toList)) z.ds b,d)
  |none=>match gL a d with
   |(a,d)=>match gL b d with
    |(b,d)=>(.seq a b,d)
 | .cond c a b,d=>match gL a d with
  |(a,d)=>match gL b d with
   |(b,d)=>(.cond c a b,d)
 | .block id a,d=>match gL a d with
  |(a,d)=>(.block id a,d)
 | .loop a,d=>match gL a d with
  |(a,d)=>(.loop a,d)
 | .scope a,d=>match gL a d with
  |(a,d)=>(.scope a,d)
 |_,d=>(.skip,d)
def fnV(fn:Func)(d:List Nat):t5×Nat×List ResultVar:=
 match fn.body with
 |some c=>((gL c d).1,fn.ntmps,fn.results.toList)
 |none=>(.skip,0,[])
def ptL:List Nat->t5->t5
 |0::p,.seq a _=>ptL p a
 |1::p,.seq _ b=>ptL p b
 |0::p,.cond _ a _=>ptL p a
 |1::p,.cond _ _ b=>ptL p b
 |_::p,.block _ a=>ptL p a
 |_::p,.loop a=>ptL p a
 |_::p,.scope a=>ptL p a
 |_::p,.coin _ _ _ b=>ptL p b
 |_,c=>c
abbrev ptA{P:Program}{f:FuncId}{l:t5}{nt:Nat}{rs:List ResultVar}(_:fnL P f=some (l,nt,rs))(p:List Nat){x:t5}(_:ptL p l=x:=by conv=>{lhs;whnf}):t5:=x
def rpL(c:t5):List Nat->t5->t5
 |[],_=>c
 |0::p,.seq a b=> .seq (rpL c p a) b
 |_::p,.seq a b=> .seq a (rpL c p b)
 |0::p,.cond x a b=> .cond x (rpL c p a) b
 |_::p,.cond x a b=> .cond x a (rpL c p b)
 |_::p,.block i a=> .block i (rpL c p a)
 |_::p,.loop a=> .loop (rpL c p a)
 |_::p,.scope a=> .scope (rpL c p a)
 |_::p,.coin x y z b=> .coin x y z (rpL c p b)
 |_::_,a=>a
def bE:ByteArray.mk (List.toArray [])=ByteArray.empty:=rfl
def aM{A:Type}(l:List A):Array.mk l=List.toArray l:=rfl
def hdF{P:Program}{f:FuncId}{l:t5}{nt:Nat}{rs:List ResultVar}(h:fnL P f=some (l,nt,rs))(p:List Nat)(c:t5){x:t5->t5}(hx:∀k,rpL k p l=x k:=by intro k;conv=>{lhs;cbv;try simp only[aM,bE]}) (hc:rpL c p l=l:=by kernel_rfl):fnL P f=some (x c,nt,rs):=by
 rw[<-hx,hc];exact h
end Go.Proofs.YtbekeboballbgaaGreatDoor.Ve
namespace Go.Proofs.YtbekeboballbgaaGreatDoor.Ve
open Go Go.RowKit
open Go.Proofs.Tryz (prog)
def nfF(f:FuncId)(fn:Func)(d:List Nat){nt:Nat}(h:fnV fn d=(l,nt,rs):=by conv=>{lhs;cbv;try simp only[aM,bE]})(k:fnL Tryz.prog f=some (l,nt,rs):=by kernel_rfl):fnL Tryz.prog f=some (l,nt,rs):=k
abbrev fE(n:Nat)(c:t5)(k:Nat)(r:List ResultVar):Prop:=fnL prog n=some (c,k,r)
def fR{n:Nat}{c:t5}(h:fnL prog n=some (c,k,r):=by kernel_rfl):fE n c k r:=h
def Zd:=nfF 15 Tryz.f15 []
abbrev Yk:t5:=ptA Zd [1,1,1,1,0,1,0,0]
def Tn:=nfF 122 Tryz.f122 []
def VD:=nfF 88 Tryz.f88 [0]
def Vi:=nfF 16 Tryz.f16 []
abbrev Ym:t5:=ptA Vi [1,1,0,1,0,0]
abbrev Yl:t5:=ptA Vi [1,1,0,1,0,0,1,0,0,1,1,1,0,0]
def ZP:=nfF 17 Tryz.f17 []
def Vj:=nfF 18 Tryz.f18 []
def Vm:=nfF 31 Tryz.f31 [0,0]
abbrev Yu:t5:=ptA Vm [1,1,1,1,1,1,0,1,0,0]
abbrev Yv:t5:=ptA Vm [1,1,1,1,1,1,1,0,1,0,0]
def Vn:=nfF 32 Tryz.f32 [0,0]
abbrev Yw:t5:=ptA Vn [1,1,1,1,1,0,1,0,0]
def TO:=nfF 33 Tryz.f33 []
def Sy:=nfF 38 Tryz.f38 [0,0,0]
abbrev YE:t5:=ptA Sy [1,1,1,1,0,1,0,0]
abbrev YD:t5:=ptA Sy [1,1,1,1,0,1,0,0,1,0,0,1,0,1,0,0]
abbrev YC:t5:=ptA Sy [1,1,1,1,0,1,0,0,1,0,0,1,0,1,0,0,1,0,0,1,1,1,0,1,0,0]
abbrev YB:t5:=ptA Sy [1,1,1,1,0,1,0,0,1,0,0,1,0,1,0,0,1,0,0,1,1,1,0,1,0,0,1,0,0,1,1,0,0]
abbrev YF:t5:=ptA Sy [1,1,1,1,1,1,0,1,0,0]
def TP:=nfF 37 Tryz.f37 [6,0]
abbrev RQ:t5:=ptA TP [1,1,1,1,0,1,0,0]
def Pq:=nfF 62 Tryz.f62 []
def Np:=nfF 139 Tryz.f139 [6]
abbrev Pb:t5:=ptA Np [1,0,1,0,0]
def Vw:=nfF 68 Tryz.f68 []
def Vy:=nfF 70 Tryz.f70 [0,9]
abbrev YO:t5:=ptA Vy [1,1,0,1,0,0]
def TN:=nfF 29 Tryz.f29 [13]
abbrev WV:t5:=ptA TN [1,1,1,1,1,0,1,0,0]
abbrev RM:t5:=ptA TN [1,1,1,1,1,0,1,0,0,1,0,0,1,1,0,0]
def Pn:=nfF 39 Tryz.f39 []
abbrev RR:t5:=ptA Pn [1,1,0,1,0,0]
def UT:=nfF 13 Tryz.f13 []
def XB:t5:=ptA UT [1,1,0,1,0,0,1,0,0,1,1]
def XT:=hdF UT [1,1,0,1,0,0,1,0,0,1,1] XB
abbrev Yj:t5:=ptA XT [1,1,0,1,0,0,1,1]
abbrev Yi:t5:=ptA XT [1,1,0,1,0,0]
def Pm:=nfF 35 Tryz.f35 []
def RJ:=nfF 36 Tryz.f36 []
abbrev YA:t5:=ptA RJ [1,1,1,1,1,1,1,0,1,0,0]
def WE:t5:=ptA RJ [1,1,1,1,1,1]
def Zn:=hdF RJ [1,1,1,1,1,1] WE
def HQ:=nfF 57 Tryz.f57 []
abbrev Sj:t5:=ptA HQ [1,1,0,1,0,0]
def TX:=nfF 58 Tryz.f58 []
abbrev Sp:t5:=ptA TX [1,1,0,1,0,0]
def TY:=nfF 59 Tryz.f59 [0,0]
abbrev Sq:t5:=ptA TY [1,1,1,1,1,0,0]
def Pp:=nfF 60 Tryz.f60 []
def Vt:=nfF 61 Tryz.f61 []
abbrev YJ:t5:=ptA Vt [1,0,1,0,0]
abbrev YK:t5:=ptA Vt [1,1,1,0,0]
def Vu:=nfF 63 Tryz.f63 []
abbrev YL:t5:=ptA Vu [1,1,0,1,0,0]
def TZ:=nfF 64 Tryz.f64 []
abbrev Sv:t5:=ptA TZ [1,0,1,0,0]
abbrev YM:t5:=ptA TZ [1,1,1,0,0]
def Pr:=nfF 65 Tryz.f65 []
def Ua:=nfF 67 Tryz.f67 []
def Vx:=nfF 69 Tryz.f69 [6,0]
def Ud:=nfF 76 Tryz.f76 [0]
abbrev SF:t5:=ptA Ud [1,1,1,0,1,0,0]
def Ue:=nfF 77 Tryz.f77 [8]
abbrev YS:t5:=ptA Ue [1,1,0,0]
abbrev SG:t5:=ptA Ue [1,1,0,0,0,1,1,1,0,1,0,0]
abbrev YT:t5:=ptA Ue [1,1,0,0,0,1,1,1,1,0,1]
abbrev YU:t5:=ptA Ue [1,1,0,0,0,1,1,1,1,1]
def HU:=nfF 78 Tryz.f78 []
abbrev Nd:t5:=ptA HU [1,0,1,0,0]
def Uf:=nfF 79 Tryz.f79 []
abbrev SK:t5:=ptA Uf [1,1,0,0,0]
def Uc:=nfF 73 Tryz.f73 []
def Vz:=nfF 74 Tryz.f74 []
abbrev YQ:t5:=ptA Vz [1,1,0,1,0,0]
abbrev YR:t5:=ptA Vz [1,1,1,0,1,0,0]
def Pt:=nfF 75 Tryz.f75 [7]
abbrev SD:t5:=ptA Pt [1,0,1,0,0]
def Ng:=nfF 102 Tryz.f102 []
def HJ:=nfF 104 Tryz.f104 []
abbrev OB:t5:=ptA HJ [1,1,0,1,0,0]
def Nh:=nfF 105 Tryz.f105 [0,14,9,17,9]
abbrev UF:t5:=ptA Nh [1,1,1,1,0,0]
abbrev OD:t5:=ptA Nh [1,1,1,1,0,0,1,0,1,1,0,0]
def TW:=nfF 55 Tryz.f55 []
abbrev Si:t5:=ptA TW [1,1,0,1,0,0]
def Vs:=nfF 56 Tryz.f56 []
def Ub:=nfF 71 Tryz.f71 []
abbrev Sz:t5:=ptA Ub [1,1,0,1,0,0]
abbrev YP:t5:=ptA Ub [1,1,1,0,1,0,0]
def RK:=nfF 72 Tryz.f72 []
abbrev SA:t5:=ptA RK [1,1,1,1,1,1,1,1,1,1,1,0,1,0,0]
def WF:t5:=ptA RK [1,1,1,1,1,1,1,1,1,1]
def UU:=hdF RK [1,1,1,1,1,1,1,1,1,1] WF
def UR:t5:=ptA UU [1,1,1,1,1,1]
def UV:=hdF UU [1,1,1,1,1,1] UR
def Pa:t5:=ptA UV [1,1,1,1,1]
def UW:=hdF UV [1,1,1,1,1] Pa
def UQ:t5:=ptA UW [1,1,1,1]
def Ps:=hdF UW [1,1,1,1] UQ
def VI:=nfF 96 Tryz.f96 []
abbrev YZ:t5:=ptA VI [1,0,1,0,0]
abbrev Za:t5:=ptA VI [1,1,1,0,0]
def Uj:=nfF 97 Tryz.f97 []
def Px:=nfF 98 Tryz.f98 []
def Tb:=nfF 100 Tryz.f100 [0]
def HI:=nfF 103 Tryz.f103 []
def Te:=nfF 111 Tryz.f111 []
abbrev Xt:t5:=ptA Te [1,1,0,1,0,0]
abbrev Xu:t5:=ptA Te [1,1,1,0,1,0,0]
def Tf:=nfF 112 Tryz.f112 []
abbrev Xv:t5:=ptA Tf [1,1,0,1,0,0]
def Tg:=nfF 113 Tryz.f113 [24]
abbrev OI:t5:=ptA Tg [1,1,0,1,0,0]
def Nk:=nfF 114 Tryz.f114 []
def Nj:=nfF 108 Tryz.f108 [0,0,0,0,0,0,0,0]
abbrev OF:t5:=ptA Nj [1,1,0,1,0,1,1,0,1,0,0]
abbrev Xp:t5:=ptA Nj [1,1,1,0,1,0,1,1,0,1,0,0]
abbrev Xq:t5:=ptA Nj [1,1,1,0,1,0,1,1,1,1,1,0,1,0,0]
def HK:=nfF 109 Tryz.f109 []
abbrev OG:t5:=ptA HK [1,1,0,1,0,0]
def Td:=nfF 110 Tryz.f110 [11,11]
abbrev Xr:t5:=ptA Td [1,1,0,1,0,0]
abbrev Xs:t5:=ptA Td [1,1,1,0,1,0,0]
def To:=nfF 123 Tryz.f123 []
abbrev Xw:t5:=ptA To [1,1,1,0,1,0,0]
def Nq:=nfF 140 Tryz.f140 []
def VG:=nfF 93 Tryz.f93 []
abbrev YX:t5:=ptA VG [1,1,1,0,0,0]
def ZQ:=nfF 94 Tryz.f94 []
def VH:=nfF 95 Tryz.f95 []
abbrev YY:t5:=ptA VH [1,1,1,0,1,0,0]
def Ni:=nfF 106 Tryz.f106 []
abbrev OE:t5:=ptA Ni [1,1,0,1,0,0]
abbrev Xo:t5:=ptA Ni [1,1,1,0,1,0,0]
def Tc:=nfF 107 Tryz.f107 []
def Fq:=nfF 128 Tryz.f128 [0,0,0]
abbrev OQ:t5:=ptA Fq [1,1,0,1,0,0]
abbrev OS:t5:=ptA Fq [1,1,1,1,0,0]
def RG:t5:=ptA Fq [1,0,1]
def HN:=hdF Fq [1,0,1] RG
def HO:=nfF 129 Tryz.f129 []
abbrev OT:t5:=ptA HO [1,0,1,0,0]
def Nn:=nfF 130 Tryz.f130 []
def Ts:=nfF 131 Tryz.f131 []
def Tt:=nfF 132 Tryz.f132 []
def No:=nfF 133 Tryz.f133 []
def Zb:=nfF 134 Tryz.f134 []
def Tu:=nfF 135 Tryz.f135 []
abbrev Xy:t5:=ptA Tu [1,1,0,1,0,0]
def Tv:=nfF 136 Tryz.f136 []
abbrev Xz:t5:=ptA Tv [1,1,1,0,1,0,0]
abbrev XA:t5:=ptA Tv [1,1,1,1,1,0,1,0,0]
def Tw:=nfF 137 Tryz.f137 []
def Tx:=nfF 138 Tryz.f138 []
def TB:=nfF 144 Tryz.f144 []
abbrev XE:t5:=ptA TB [1,1,0,1,0,0]
abbrev XF:t5:=ptA TB [1,1,1,0,1,0,0]
def TC:=nfF 145 Tryz.f145 [6]
abbrev XG:t5:=ptA TC [1,0,1,0,0]
def Tz:=nfF 142 Tryz.f142 []
def TA:=nfF 143 Tryz.f143 [11,11]
abbrev XC:t5:=ptA TA [1,1,0,1,0,0]
abbrev XD:t5:=ptA TA [1,1,1,0,1,0,0]
def Ns:=nfF 147 Tryz.f147 [10,11,9]
def Nu:=nfF 161 Tryz.f161 []
def RX:=nfF 124 Tryz.f124 []
def UO:t5:=ptA RX [1,1,0,1,0,0,1,0,0,1,1]
def HM:=hdF RX [1,1,0,1,0,0,1,0,0,1,1] UO
abbrev Xx:t5:=ptA HM [1,1,0,1,0,0,1,1]
abbrev OO:t5:=ptA HM [1,1,0,1,0,0]
def Tp:=nfF 125 Tryz.f125 []
def Nm:=nfF 126 Tryz.f126 []
def Tq:=nfF 127 Tryz.f127 []
def Nr:=nfF 141 Tryz.f141 []
abbrev Pd:t5:=ptA Nr [1,0,1,0,0]
def Nt:=nfF 152 Tryz.f152 []
def TF:=nfF 153 Tryz.f153 [7,0]
def TG:=nfF 154 Tryz.f154 []
def TH:=nfF 155 Tryz.f155 []
def WZ:=nfF 156 Tryz.f156 []
abbrev XM:t5:=ptA WZ [1,0,1,0,0]
def Xa:=nfF 157 Tryz.f157 []
abbrev XN:t5:=ptA Xa [1,1,0,1,0,0]
def Xb:=nfF 158 Tryz.f158 []
abbrev XO:t5:=ptA Xb [1,1,0,1,0,0]
def Ze:=nfF 159 Tryz.f159 []
def Zf:=nfF 160 Tryz.f160 []
def TI:=nfF 162 Tryz.f162 [10]
abbrev XP:t5:=ptA TI [1,0,1,0,0]
def Zg:=nfF 163 Tryz.f163 []
def Zh:=nfF 164 Tryz.f164 []
def TJ:=nfF 165 Tryz.f165 [6,26]
def TE:=nfF 148 Tryz.f148 []
def Zc:=nfF 149 Tryz.f149 []
def WY:=nfF 150 Tryz.f150 [10]
abbrev XH:t5:=ptA WY [1,1,0,1,0,0]
def RY:=nfF 151 Tryz.f151 []
def RT:t5:=ptA RY [1,1,1,0,1,0,0,1,0,0,1,1,1,1,1,1,1,1,1,1,1,0,0,1,0,0,1,1]
def CB:=hdF RY [1,1,1,0,1,0,0,1,0,0,1,1,1,1,1,1,1,1,1,1,1,0,0,1,0,0,1,1] RT
abbrev XL:t5:=ptA CB [1,1,1,0,1,0,0,1,0,0,1,1,1,1,1,1,1,1,1,1,1,0,0,1,1]
abbrev UP:t5:=ptA CB [1,1,1,0,1,0,0,1,0,0,1,1,1,1,1,1,1,1,1,1,1,0,0]
abbrev XJ:t5:=ptA CB [1,1,1,0,1,0,0,1,0,0,1,1,1,1,1,1,1,0,1,0,0]
abbrev WD:t5:=ptA CB [1,1,1,0,1,0,0,1,0,0,1,1,1,1,1,1,1,1]
abbrev XI:t5:=ptA CB [1,1,1,0,1,0,0,1,0,0,1,1,1,0,0,0]
abbrev EH:t5:=ptA CB [1,1,1,0,1,0,0,1,1]
abbrev XK:t5:=ptA CB [1,1,1,0,1,0,0]
def Zi:=nfF 166 Tryz.f166 []
def Xc:=nfF 167 Tryz.f167 [6]
abbrev XQ:t5:=ptA Xc [1,0,1,0,0]
def Xd:=nfF 172 Tryz.f172 []
abbrev XR:t5:=ptA Xd [1,0,1,0,0]
def Zk:=nfF 173 Tryz.f173 []
def Zl:=nfF 179 Tryz.f179 []
abbrev tD(n s b:Nat)(z:LV)(v:aet)(g:Bool):Prop:=D3 prog n=some s/\Q2 prog n=some b/\N3 prog n=some z/\jk prog n=some v/\cY prog n=some g
abbrev tE(n s b:Nat)(z:LV)(v:aet)(g:Bool)(p:Prop):Prop:=D3 prog n=some s/\Q2 prog n=some b/\N3 prog n=some z/\jk prog n=some v/\cY prog n=some g/\p
abbrev tF(n i a b:Nat):Prop:=wo prog n i=some (a,b)
abbrev tG(n:Nat)(l:List (Nat×Nat)):Prop:=JQ prog n=some (.inl l)
abbrev tK(n:Nat)(l:List V1):Prop:=wl prog n=some l
abbrev tU(n:Nat)(l:List V1):Prop:=rI prog n=some l
abbrev tS(n e:Nat):Prop:=tE n 1 24 [nS] nS false (F8 prog n=some e/\prog.underlying n=some (.slice e))
abbrev tP(n e:Nat):Prop:=tE n 1 8 [.pointer none] (.pointer none) false (prog.underlying n=some (.pointer e))
def gP{p:Prop}(q:p:=by repeat' (first|kernel_rfl|refine⟨?_,?_⟩|(show _=_;kernel_rfl))):p:=q
def ty3:tE 3 1 8 [iV (0)] (iV (0)) false (tK 3 [.int]/\prog.underlying 3=some (.int .i64)):=gP
def ty4:tE 4 1 1 [.bool false] (.bool false) false (tK 4 [.bool]/\zd prog 4=true/\prog.underlying 4=some .bool):=gP
def ty5:tE 5 1 1 [.int .u8 (0)] (.int .u8 (0)) false (tK 5 [.int]/\prog.underlying 5=some (.int .u8)):=gP
def ty9:tE 9 1 16 [.string eB] (.string eB) false (tK 9 [.str]/\prog.underlying 9=some .string):=gP
def JT:tE 21 1 4 [.int .i32 (0)] (.int .i32 (0)) false (tK 21 [.int]/\prog.underlying 21=some (.int .i32)):=gP
def oO:tE 22 1 24 [nS] (nS) false (F8 prog 22=some 25/\prog.underlying 22=some (.slice 25)):=gP
def OJ:tE 23 1 24 [nS] (nS) false (F8 prog 23=some 143/\prog.underlying 23=some (.slice 143)):=gP
def fS:tE 25 3 56 [iV (0),nS,nS] (.agg #[iV (0),nS,nS]) true (tG 25 [(0,1),(1,1),(2,1)]/\tF 25 0 0 3/\tF 25 1 1 22/\tF 25 2 2 23):=gP
def fq:tE 26 1 24 [nS] (nS) false (F8 prog 26=some 46/\prog.underlying 26=some (.slice 46)):=gP
def de:tE 29 1 24 [nS] (nS) false (F8 prog 29=some 33/\prog.underlying 29=some (.slice 33)):=gP
def OK:tE 30 1 24 [nS] (nS) false (F8 prog 30=some 3/\prog.underlying 30=some (.slice 3)):=gP
def Wt:tE 31 1 24 [nS] (nS) false (F8 prog 31=some 155/\prog.underlying 31=some (.slice 155)):=gP
def oP:tE 33 5 72 [iV (0),iV (0),iV (0),nS,nS] (.agg #[iV (0),iV (0),iV (0),nS,nS]) true (tG 33 [(0,1),(1,1),(2,1),(3,1),(4,1)]/\tF 33 0 0 3/\tF 33 1 1 3/\tF 33 2 2 3/\tF 33 3 3 31/\tF 33 4 4 23):=gP
def ZW:tE 35 8 144 [nS,nS,nS,iV (0),iV (0),iV (0),nS,nS] (.agg #[nS,nS,nS,iV (0),iV (0),iV (0),nS,nS]) true (tG 35 [(0,1),(1,1),(2,1),(3,5)]/\tF 35 0 0 22/\tF 35 1 1 29/\tF 35 2 2 30/\tF 35 3 3 33):=gP
def bA:tE 36 1 24 [nS] (nS) false (F8 prog 36=some 88/\prog.underlying 36=some (.slice 88)):=gP
def Rf:tE 37 1 24 [nS] (nS) false (F8 prog 37=some 90/\prog.underlying 37=some (.slice 90)):=gP
def MU:tE 39 12 240 [nS,nS,nS,iV (0),iV (0),iV (0),nS,nS,nS,nS,nS,nS] (.agg #[nS,nS,nS,iV (0),iV (0),iV (0),nS,nS,nS,nS,nS,nS]) true (tG 39 [(0,8),(8,1),(9,1),(10,1),(11,1)]/\tF 39 0 0 35/\tF 39 1 8 26/\tF 39 2 9 36/\tF 39 3 10 30/\tF 39 4 11 37):=gP
def We:tE 43 2 32 [.string eB,.string eB] (.agg #[.string eB,.string eB]) true (tG 43 [(0,1),(1,1)]/\tK 43 [.str,.str]/\tU 43 [.str,.str]/\tF 43 0 0 9/\tF 43 1 1 9):=gP
def Rg:tE 44 1 24 [nS] (nS) false (F8 prog 44=some 94/\prog.underlying 44=some (.slice 94)):=gP
def mj:tE 46 5 80 [iV (0),.string eB,.string eB,nS,.string eB] (.agg #[iV (0),.string eB,.string eB,nS,.string eB]) true (tG 46 [(0,1),(1,2),(3,1),(4,1)]/\tF 46 0 0 3/\tF 46 1 1 43/\tF 46 2 3 44/\tF 46 3 4 9):=gP
def Wf:tE 47 1 24 [nS] (nS) false (F8 prog 47=some 54/\prog.underlying 47=some (.slice 54)):=gP
def DE:tE 52 1 24 [nS] (nS) false (F8 prog 52=some 57/\prog.underlying 52=some (.slice 57)):=gP
def oQ:tE 54 2 32 [.bool false,nS] (.agg #[.bool false,nS]) true (tG 54 [(0,1),(1,1)]/\tF 54 0 0 4/\tF 54 1 1 52):=gP
def to:tE 57 2 16 [iV (0),iV (0)] (.agg #[iV (0),iV (0)]) true (tG 57 [(0,1),(1,1)]/\tK 57 [.int,.int]/\tU 57 [.int,.int]/\tF 57 0 0 3/\tF 57 1 1 3):=gP
def ZX:tE 60 1 8 [iV (0)] (iV (0)) false (tK 60 [.int]/\prog.underlying 60=some (.int .i64)):=gP
def WQ:tE 67 1 24 [nS] (nS) false (F8 prog 67=some 4/\prog.underlying 67=some (.slice 4)):=gP
def ZY:tE 72 13 264 [nS,nS,nS,iV (0),iV (0),iV (0),nS,nS,nS,nS,nS,nS,nS] (.agg #[nS,nS,nS,iV (0),iV (0),iV (0),nS,nS,nS,nS,nS,nS,nS]) true (tG 72 [(0,12),(12,1)]/\tF 72 0 0 39/\tF 72 1 12 26):=gP
def ZJ:tE 73 1 24 [nS] (nS) false (F8 prog 73=some 79/\prog.underlying 73=some (.slice 79)):=gP
def WS:tE 79 3 56 [iV (0),nS,nS] (.agg #[iV (0),nS,nS]) true (tG 79 [(0,1),(1,1),(2,1)]/\tF 79 0 0 3/\tF 79 1 1 67/\tF 79 2 2 52):=gP
def ml:tE 88 3 24 [.bool false,.bool false,.string eB] (.agg #[.bool false,.bool false,.string eB]) true (tG 88 [(0,1),(1,1),(2,1)]/\tK 88 [.bool,.bool,.str]/\tU 88 [.bool,.bool,.str]/\tF 88 0 0 4/\tF 88 1 1 4/\tF 88 2 2 9):=gP
def SY:tE 90 3 24 [iV (0),iV (0),iV (0)] (.agg #[iV (0),iV (0),iV (0)]) true (tG 90 [(0,1),(1,1),(2,1)]/\tK 90 [.int,.int,.int]/\tU 90 [.int,.int,.int]/\tF 90 0 0 3/\tF 90 1 1 3/\tF 90 2 2 3):=gP
def ZK:tP 92 39:=gP
def Wh:tE 94 3 48 [.string eB,.string eB,.string eB] (.agg #[.string eB,.string eB,.string eB]) true (tG 94 [(0,2),(2,1)]/\tK 94 [.str,.str,.str]/\tU 94 [.str,.str,.str]/\tF 94 0 0 43/\tF 94 1 2 9):=gP
def Wo:tE 100 1 24 [nS] (nS) false (F8 prog 100=some 104/\prog.underlying 100=some (.slice 104)):=gP
def JS:tE 104 2 32 [iV (0),nS] (.agg #[iV (0),nS]) true (tG 104 [(0,1),(1,1)]/\tF 104 0 0 3/\tF 104 1 1 52):=gP
def Wp:tE 107 1 8 [.map none] (.map none) false (wq prog 107=some (198,4)/\prog.underlying 107=some (.map 198 4)):=gP
def Zx:tE 109 2 32 [nS,.map none] (.agg #[nS,.map none]) true (tG 109 [(0,1),(1,1)]/\tF 109 0 0 73/\tF 109 1 1 107):=gP
def AH:tE 117 1 24 [nS] (nS) false (F8 prog 117=some 43/\prog.underlying 117=some (.slice 43)):=gP
def Wq:tE 118 1 24 [nS] (nS) false (F8 prog 118=some 119/\prog.underlying 118=some (.slice 119)):=gP
def bq:tE 119 1 24 [nS] (nS) false (F8 prog 119=some 9/\prog.underlying 119=some (.slice 9)):=gP
def Zy:tE 121 4 96 [nS,nS,nS,nS] (.agg #[nS,nS,nS,nS]) true (tG 121 [(0,1),(1,1),(2,1),(3,1)]/\tF 121 0 0 117/\tF 121 1 1 117/\tF 121 2 2 118/\tF 121 3 3 119):=gP
def Zz:tD 124 1 8 [.nilFunc] .nilFunc false:=gP
def ZA:tE 130 1 24 [nS] (.agg #[nS]) true (tG 130 [(0,1)]/\tF 130 0 0 22):=gP
def ch:tE 143 6 104 [iV (0),.string eB,.string eB,.string eB,nS,nS] (.agg #[iV (0),.string eB,.string eB,.string eB,nS,nS]) true (tG 143 [(0,1),(1,2),(3,1),(4,1),(5,1)]/\tF 143 0 0 3/\tF 143 1 1 43/\tF 143 2 3 9/\tF 143 3 4 23/\tF 143 4 5 22):=gP
def ZB:tE 146 4 96 [nS,nS,nS,nS] (.agg #[nS,nS,nS,nS]) true (tG 146 [(0,1),(1,1),(2,1),(3,1)]/\tF 146 0 0 117/\tF 146 1 1 117/\tF 146 2 2 118/\tF 146 3 3 119):=gP
def sO:tE 155 4 32 [iV (0),iV (0),iV (0),iV (0)] (.agg #[iV (0),iV (0),iV (0),iV (0)]) true (tG 155 [(0,1),(1,1),(2,1),(3,1)]/\tK 155 [.int,.int,.int,.int]/\tU 155 [.int,.int,.int,.int]/\tF 155 0 0 3/\tF 155 1 1 3/\tF 155 2 2 3/\tF 155 3 3 3):=gP
def ZC:tE 159 1 24 [nS] (nS) false (F8 prog 159=some 52/\prog.underlying 159=some (.slice 52)):=gP
def Wr:tE 161 1 24 [nS] (nS) false (F8 prog 161=some 21/\prog.underlying 161=some (.slice 21)):=gP
def ZD:tE 166 4 96 [nS,nS,nS,nS] (.agg #[nS,nS,nS,nS]) true (tG 166 [(0,4)]/\tF 166 0 0 121):=gP
def ZE:tE 171 5 72 [iV (0),iV (0),iV (0),nS,nS] (.agg #[iV (0),iV (0),iV (0),nS,nS]) true (tG 171 [(0,5)]/\tF 171 0 0 33):=gP
def Ld:tE 177 1 24 [nS] (nS) false (F8 prog 177=some 5/\prog.underlying 177=some (.slice 5)):=gP
def ZF:tE 179 20 296 [nS,nS,nS,iV (0),iV (0),iV (0),nS,nS,iV (0),.string eB,.string eB,nS,.string eB,.bool false,.bool false,.string eB,.bool false,.bool false,.string eB,nS] (.agg #[nS,nS,nS,iV (0),iV (0),iV (0),nS,nS,iV (0),.string eB,.string eB,nS,.string eB,.bool false,.bool false,.string eB,.bool false,.bool false,.string eB,nS]) true (tG 179 [(0,8),(8,5),(13,3),(16,3),(19,1)]/\tF 179 0 0 35/\tF 179 1 8 46/\tF 179 2 13 88/\tF 179 3 16 88/\tF 179 4 19 177):=gP
def ZG:tE 183 7 88 [iV (0),iV (0),iV (0),nS,nS,iV (0),iV (0)] (.agg #[iV (0),iV (0),iV (0),nS,nS,iV (0),iV (0)]) true (tG 183 [(0,5),(5,1),(6,1)]/\tF 183 0 0 33/\tF 183 1 5 3/\tF 183 2 6 3):=gP
def ZH:tE 195 1 8 [.map none] (.map none) false (wq prog 195=some (3,4)/\prog.underlying 195=some (.map 3 4)):=gP
def Ws:tE 198 2 24 [iV (0),.string eB] (.agg #[iV (0),.string eB]) true (tG 198 [(0,1),(1,1)]/\tK 198 [.int,.str]/\tU 198 [.int,.str]/\tF 198 0 0 3/\tF 198 1 1 9):=gP
def ZI:tE 219 14 248 [nS,nS,nS,iV (0),iV (0),iV (0),nS,nS,iV (0),.string eB,.string eB,nS,.string eB,nS] (.agg #[nS,nS,nS,iV (0),iV (0),iV (0),nS,nS,iV (0),.string eB,.string eB,nS,.string eB,nS]) true (tG 219 [(0,8),(8,5),(13,1)]/\tF 219 0 0 35/\tF 219 1 8 46/\tF 219 2 13 177):=gP
def anB:CQ (aI @List.any_cons.{0} @List.any_nil.{0}):=stOf _
def tyA:CQ (aI (aI (aI (aI (aI @ty3 (aI @ty4 @ty5)) (aI (aI @ty9 @JT) (aI @oO @OJ))) (aI (aI @fS (aI @fq @de)) (aI (aI @OK @Wt) (aI @oP @ZW)))) (aI (aI (aI @bA (aI @Rf @MU)) (aI (aI @We @Rg) (aI @mj @Wf))) (aI (aI @DE (aI @oQ @to)) (aI (aI @ZX @WQ) (aI @ZY @ZJ))))) (aI (aI (aI (aI @WS (aI @ml @SY)) (aI (aI @ZK @Wh) (aI @Wo @JS))) (aI (aI @Wp (aI @Zx @AH)) (aI (aI @Wq @bq) (aI @Zy @Zz)))) (aI (aI (aI @ZA (aI @ch @ZB)) (aI (aI @sO @ZC) (aI @Wr @ZD))) (aI (aI @ZE (aI @Ld @ZF)) (aI (aI @ZG @ZH) (aI @Ws @ZI)))))):=stOf _
section
variable{a b c d e f g h i j k l m n o r s t u v w x y z a1 b1 c1 d1 e1 f1 p q:Prop}
def Jj'(a':a)(K:q)(Z:a->q->p:=by intro a;simp(maxSteps:=20000000) -dsimp (disch:=first|omega|(simp only[rH]<;>omega)|fail) only[↓jM,rQ,Q4,sevalprocAttr,tyA,a]<;>exact id):p:=Z a' K
def J1(a':a)(K:q)(Z:a->q->p:=by intro a;simp(maxSteps:=20000000) -dsimp (disch:=first|omega|(simp only[rH]<;>omega)|fail) only[↓jM,rQ,Q4,sevalprocAttr,tyA,a]<;>exact id):p:=Z a' K
def J2(a':a)(b':b)(K:q)(Z:a/\b->q->p:=by exact fun a b=>Jj' a b):p:=Z ⟨a',b'⟩ K
def J3(a':a)(b':b)(c':c)(K:q)(Z:a/\b/\c->q->p:=by exact fun a b=>Jj' a b):p:=Z ⟨a',b',c'⟩ K
def J4(a':a)(b':b)(c':c)(d':d)(K:q)(Z:a/\b/\c/\d->q->p:=by exact fun a b=>Jj' a b):p:=Z ⟨a',b',c',d'⟩ K
def J5(a':a)(b':b)(c':c)(d':d)(e':e)(K:q)(Z:a/\b/\c/\d/\e->q->p:=by exact fun a b=>Jj' a b):p:=Z ⟨a',b',c',d',e'⟩ K
def J6(a':a)(b':b)(c':c)(d':d)(e':e)(f':f)(K:q)(Z:a/\b/\c/\d/\e/\f->q->p:=by exact fun a b=>Jj' a b):p:=Z ⟨a',b',c',d',e',f'⟩ K
def J7(a':a)(b':b)(c':c)(d':d)(e':e)(f':f)(g':g)(K:q)(Z:a/\b/\c/\d/\e/\f/\g->q->p:=by exact fun a b=>Jj' a b):p:=Z ⟨a',b',c',d',e',f',g'⟩ K
def J8(a':a)(b':b)(c':c)(d':d)(e':e)(f':f)(g':g)(h':h)(K:q)(Z:a/\b/\c/\d/\e/\f/\g/\h->q->p:=by exact fun a b=>Jj' a b):p:=Z ⟨a',b',c',d',e',f',g',h'⟩ K
def J9(a':a)(b':b)(c':c)(d':d)(e':e)(f':f)(g':g)(h':h)(i':i)(K:q)(Z:a/\b/\c/\d/\e/\f/\g/\h/\i->q->p:=by exact fun a b=>Jj' a b):p:=Z ⟨a',b',c',d',e',f',g',h',i'⟩ K
def J10(a':a)(b':b)(c':c)(d':d)(e':e)(f':f)(g':g)(h':h)(i':i)(j':j)(K:q)(Z:a/\b/\c/\d/\e/\f/\g/\h/\i/\j->q->p:=by exact fun a b=>Jj' a b):p:=Z ⟨a',b',c',d',e',f',g',h',i',j'⟩ K
def J11(a':a)(b':b)(c':c)(d':d)(e':e)(f':f)(g':g)(h':h)(i':i)(j':j)(k':k)(K:q)(Z:a/\b/\c/\d/\e/\f/\g/\h/\i/\j/\k->q->p:=by exact fun a b=>Jj' a b):p:=Z ⟨a',b',c',d',e',f',g',h',i',j',k'⟩ K
def J12(a':a)(b':b)(c':c)(d':d)(e':e)(f':f)(g':g)(h':h)(i':i)(j':j)(k':k)(l':l)(K:q)(Z:a/\b/\c/\d/\e/\f/\g/\h/\i/\j/\k/\l->q->p:=by exact fun a b=>Jj' a b):p:=Z ⟨a',b',c',d',e',f',g',h',i',j',k',l'⟩ K
def J13(a':a)(b':b)(c':c)(d':d)(e':e)(f':f)(g':g)(h':h)(i':i)(j':j)(k':k)(l':l)(m':m)(K:q)(Z:a/\b/\c/\d/\e/\f/\g/\h/\i/\j/\k/\l/\m->q->p:=by exact fun a b=>Jj' a b):p:=Z ⟨a',b',c',d',e',f',g',h',i',j',k',l',m'⟩ K
def J14(a':a)(b':b)(c':c)(d':d)(e':e)(f':f)(g':g)(h':h)(i':i)(j':j)(k':k)(l':l)(m':m)(n':n)(K:q)(Z:a/\b/\c/\d/\e/\f/\g/\h/\i/\j/\k/\l/\m/\n->q->p:=by exact fun a b=>Jj' a b):p:=Z ⟨a',b',c',d',e',f',g',h',i',j',k',l',m',n'⟩ K
def J15(a':a)(b':b)(c':c)(d':d)(e':e)(f':f)(g':g)(h':h)(i':i)(j':j)(k':k)(l':l)(m':m)(n':n)(o':o)(K:q)(Z:a/\b/\c/\d/\e/\f/\g/\h/\i/\j/\k/\l/\m/\n/\o->q->p:=by exact fun a b=>Jj' a b):p:=Z ⟨a',b',c',d',e',f',g',h',i',j',k',l',m',n',o'⟩ K
def J16(a':a)(b':b)(c':c)(d':d)(e':e)(f':f)(g':g)(h':h)(i':i)(j':j)(k':k)(l':l)(m':m)(n':n)(o':o)(r':r)(K:q)(Z:a/\b/\c/\d/\e/\f/\g/\h/\i/\j/\k/\l/\m/\n/\o/\r->q->p:=by exact fun a b=>Jj' a b):p:=Z ⟨a',b',c',d',e',f',g',h',i',j',k',l',m',n',o',r'⟩ K
def J17(a':a)(b':b)(c':c)(d':d)(e':e)(f':f)(g':g)(h':h)(i':i)(j':j)(k':k)(l':l)(m':m)(n':n)(o':o)(r':r)(s':s)(K:q)(Z:a/\b/\c/\d/\e/\f/\g/\h/\i/\j/\k/\l/\m/\n/\o/\r/\s->q->p:=by exact fun a b=>Jj' a b):p:=Z ⟨a',b',c',d',e',f',g',h',i',j',k',l',m',n',o',r',s'⟩ K
def J18(a':a)(b':b)(c':c)(d':d)(e':e)(f':f)(g':g)(h':h)(i':i)(j':j)(k':k)(l':l)(m':m)(n':n)(o':o)(r':r)(s':s)(t':t)(K:q)(Z:a/\b/\c/\d/\e/\f/\g/\h/\i/\j/\k/\l/\m/\n/\o/\r/\s/\t->q->p:=by exact fun a b=>Jj' a b):p:=Z ⟨a',b',c',d',e',f',g',h',i',j',k',l',m',n',o',r',s',t'⟩ K
def J19(a':a)(b':b)(c':c)(d':d)(e':e)(f':f)(g':g)(h':h)(i':i)(j':j)(k':k)(l':l)(m':m)(n':n)(o':o)(r':r)(s':s)(t':t)(u':u)(K:q)(Z:a/\b/\c/\d/\e/\f/\g/\h/\i/\j/\k/\l/\m/\n/\o/\r/\s/\t/\u->q->p:=by exact fun a b=>Jj' a b):p:=Z ⟨a',b',c',d',e',f',g',h',i',j',k',l',m',n',o',r',s',t',u'⟩ K
def J20(a':a)(b':b)(c':c)(d':d)(e':e)(f':f)(g':g)(h':h)(i':i)(j':j)(k':k)(l':l)(m':m)(n':n)(o':o)(r':r)(s':s)(t':t)(u':u)(v':v)(K:q)(Z:a/\b/\c/\d/\e/\f/\g/\h/\i/\j/\k/\l/\m/\n/\o/\r/\s/\t/\u/\v->q->p:=by exact fun a b=>Jj' a b):p:=Z ⟨a',b',c',d',e',f',g',h',i',j',k',l',m',n',o',r',s',t',u',v'⟩ K
def J21(a':a)(b':b)(c':c)(d':d)(e':e)(f':f)(g':g)(h':h)(i':i)(j':j)(k':k)(l':l)(m':m)(n':n)(o':o)(r':r)(s':s)(t':t)(u':u)(v':v)(w':w)(K:q)(Z:a/\b/\c/\d/\e/\f/\g/\h/\i/\j/\k/\l/\m/\n/\o/\r/\s/\t/\u/\v/\w->q->p:=by exact fun a b=>Jj' a b):p:=Z ⟨a',b',c',d',e',f',g',h',i',j',k',l',m',n',o',r',s',t',u',v',w'⟩ K
def J22(a':a)(b':b)(c':c)(d':d)(e':e)(f':f)(g':g)(h':h)(i':i)(j':j)(k':k)(l':l)(m':m)(n':n)(o':o)(r':r)(s':s)(t':t)(u':u)(v':v)(w':w)(x':x)(K:q)(Z:a/\b/\c/\d/\e/\f/\g/\h/\i/\j/\k/\l/\m/\n/\o/\r/\s/\t/\u/\v/\w/\x->q->p:=by exact fun a b=>Jj' a b):p:=Z ⟨a',b',c',d',e',f',g',h',i',j',k',l',m',n',o',r',s',t',u',v',w',x'⟩ K
def J23(a':a)(b':b)(c':c)(d':d)(e':e)(f':f)(g':g)(h':h)(i':i)(j':j)(k':k)(l':l)(m':m)(n':n)(o':o)(r':r)(s':s)(t':t)(u':u)(v':v)(w':w)(x':x)(y':y)(K:q)(Z:a/\b/\c/\d/\e/\f/\g/\h/\i/\j/\k/\l/\m/\n/\o/\r/\s/\t/\u/\v/\w/\x/\y->q->p:=by exact fun a b=>Jj' a b):p:=Z ⟨a',b',c',d',e',f',g',h',i',j',k',l',m',n',o',r',s',t',u',v',w',x',y'⟩ K
def J24(a':a)(b':b)(c':c)(d':d)(e':e)(f':f)(g':g)(h':h)(i':i)(j':j)(k':k)(l':l)(m':m)(n':n)(o':o)(r':r)(s':s)(t':t)(u':u)(v':v)(w':w)(x':x)(y':y)(z':z)(K:q)(Z:a/\b/\c/\d/\e/\f/\g/\h/\i/\j/\k/\l/\m/\n/\o/\r/\s/\t/\u/\v/\w/\x/\y/\z->q->p:=by exact fun a b=>Jj' a b):p:=Z ⟨a',b',c',d',e',f',g',h',i',j',k',l',m',n',o',r',s',t',u',v',w',x',y',z'⟩ K
def J25(a':a)(b':b)(c':c)(d':d)(e':e)(f':f)(g':g)(h':h)(i':i)(j':j)(k':k)(l':l)(m':m)(n':n)(o':o)(r':r)(s':s)(t':t)(u':u)(v':v)(w':w)(x':x)(y':y)(z':z)(a1':a1)(K:q)(Z:a/\b/\c/\d/\e/\f/\g/\h/\i/\j/\k/\l/\m/\n/\o/\r/\s/\t/\u/\v/\w/\x/\y/\z/\a1->q->p:=by exact fun a b=>Jj' a b):p:=Z ⟨a',b',c',d',e',f',g',h',i',j',k',l',m',n',o',r',s',t',u',v',w',x',y',z',a1'⟩ K
def J26(a':a)(b':b)(c':c)(d':d)(e':e)(f':f)(g':g)(h':h)(i':i)(j':j)(k':k)(l':l)(m':m)(n':n)(o':o)(r':r)(s':s)(t':t)(u':u)(v':v)(w':w)(x':x)(y':y)(z':z)(a1':a1)(b1':b1)(K:q)(Z:a/\b/\c/\d/\e/\f/\g/\h/\i/\j/\k/\l/\m/\n/\o/\r/\s/\t/\u/\v/\w/\x/\y/\z/\a1/\b1->q->p:=by exact fun a b=>Jj' a b):p:=Z ⟨a',b',c',d',e',f',g',h',i',j',k',l',m',n',o',r',s',t',u',v',w',x',y',z',a1',b1'⟩ K
def J27(a':a)(b':b)(c':c)(d':d)(e':e)(f':f)(g':g)(h':h)(i':i)(j':j)(k':k)(l':l)(m':m)(n':n)(o':o)(r':r)(s':s)(t':t)(u':u)(v':v)(w':w)(x':x)(y':y)(z':z)(a1':a1)(b1':b1)(c1':c1)(K:q)(Z:a/\b/\c/\d/\e/\f/\g/\h/\i/\j/\k/\l/\m/\n/\o/\r/\s/\t/\u/\v/\w/\x/\y/\z/\a1/\b1/\c1->q->p:=by exact fun a b=>Jj' a b):p:=Z ⟨a',b',c',d',e',f',g',h',i',j',k',l',m',n',o',r',s',t',u',v',w',x',y',z',a1',b1',c1'⟩ K
def J29(a':a)(b':b)(c':c)(d':d)(e':e)(f':f)(g':g)(h':h)(i':i)(j':j)(k':k)(l':l)(m':m)(n':n)(o':o)(r':r)(s':s)(t':t)(u':u)(v':v)(w':w)(x':x)(y':y)(z':z)(a1':a1)(b1':b1)(c1':c1)(d1':d1)(e1':e1)(K:q)(Z:a/\b/\c/\d/\e/\f/\g/\h/\i/\j/\k/\l/\m/\n/\o/\r/\s/\t/\u/\v/\w/\x/\y/\z/\a1/\b1/\c1/\d1/\e1->q->p:=by exact fun a b=>Jj' a b):p:=Z ⟨a',b',c',d',e',f',g',h',i',j',k',l',m',n',o',r',s',t',u',v',w',x',y',z',a1',b1',c1',d1',e1'⟩ K
def J30(a':a)(b':b)(c':c)(d':d)(e':e)(f':f)(g':g)(h':h)(i':i)(j':j)(k':k)(l':l)(m':m)(n':n)(o':o)(r':r)(s':s)(t':t)(u':u)(v':v)(w':w)(x':x)(y':y)(z':z)(a1':a1)(b1':b1)(c1':c1)(d1':d1)(e1':e1)(f1':f1)(K:q)(Z:a/\b/\c/\d/\e/\f/\g/\h/\i/\j/\k/\l/\m/\n/\o/\r/\s/\t/\u/\v/\w/\x/\y/\z/\a1/\b1/\c1/\d1/\e1/\f1->q->p:=by exact fun a b=>Jj' a b):p:=Z ⟨a',b',c',d',e',f',g',h',i',j',k',l',m',n',o',r',s',t',u',v',w',x',y',z',a1',b1',c1',d1',e1',f1'⟩ K
end
def pushE(H:d7)(B:Blk):∃K,K=H.push B/\K.n=H.n+1/\K.g H.n=some B/\d9 H.n H K:=⟨_,rfl,by rw[i4],j7,d9.push (acl _)⟩
def pushF(H:d7)(B:Blk):∃K,K=d7.push ⟨H.bs,H.n⟩ B/\K.n=H.n+1/\K.g H.n=some B/\d9 H.n H K:=⟨_,rfl,by rw[i4];rfl,j7,d9.first H _⟩
def pushP(H:d7)(B C:Blk):∃K,K=(H.push B).put H.n C/\K.n=H.n+1/\K.g H.n=some C/\d9 H.n H K:=⟨_,rfl,by rw[j9,i4],i7 (by rw[i4];omega),(d9.push (acl _)).trans (d9.put (acl _))⟩
abbrev bC(c:LV)(n:Nat):Blk:= .cells c true n
abbrev sL(b n c:Nat):aet:= .slice (some ⟨b,0,none⟩) n c
abbrev cE(c:LV)(n:Nat):Option Blk:=some (.cells c true n)
def l7:Lib:=fun _=>none
def inSpans(r:Int)(l:List (Int×Int)):Bool:=l.any fun s=>decide (s.1<=r)&&decide (r<=s.2)
def pM(r:Int):Bool:=decide (r=9)||decide (r=10)||decide (r=13)||decide (r=32)
def Nl:List (Int×Int):=[(0x20,0xd7ff),(0xe000,0xfffd),(0x10000,0x10ffff)]
def rx:List (Int×Int):=[(65,90),(97,122),(95,95),(0xc0,0xd6),(0xd8,0xf6),(0xf8,0x2ff),(0x370,0x37d),(0x37f,0x1fff),(0x200c,0x200d),(0x2070,0x218f),(0x2c00,0x2fef),(0x3001,0xd7ff),(0xf900,0xfdcf),(0xfdf0,0xfffd),(0x10000,0xeffff)]
def ug:List (Int×Int):=[(45,46),(48,57),(0xb7,0xb7),(0x300,0x36f),(0x203f,0x2040)]
def kS(r:Int):Bool:=pM r||inSpans r Nl
def gh(r:Int):Bool:=inSpans r rx
def jN(r:Int):Bool:=gh r||inSpans r ug
def jY(v:Int)(tails:Int):Int×Int:=
 (IntKind.wrap .i32 (v*2 ^ min (6*tails).toNat 32),Go.bits .or .i32 (IntKind.wrap .i32 (v*2 ^ min (6*tails).toNat 32)) (IntKind.wrap .i32 (IntKind.wrap .i32 (1*2 ^ min (6*tails).toNat 32)-1)))
def bh(s:aes)(at_ n:Nat):Nat->Int->Nat->Int×Nat
 |0,v,h=>(v,h)
 |k+1,v,h=>
  if at_+h<s.size/\Go.bits .and .u8 (A4 s (at_+h)) 192=128 then
   bh s at_ n k (Go.bits .or .i32 (IntKind.wrap .i32 (v*2 ^ min (Int.toNat 6) 32)) (IntKind.wrap .i32 (Go.bits .and .u8 (A4 s (at_+h)) 63))) (h+1)
  else(v,h)
def sQ(s:aes)(at_ n:Nat)(least v:Int)(h:Nat):Int×Int×Int:=
 if(jY v (n+1-h)).2<least\/1114111<(jY v (n+1-h)).1\/(55296<=(jY v (n+1-h)).1/\(jY v (n+1-h)).2<=57343) then(0,0,2)
 else if h=n+1 then(v,h,0) else if at_+h=s.size then(0,0,7) else(0,0,2)
def W9:Nat->Int×Int×Int
 |0=>(128,0,0)
 |1=>(224,192,128)
 |2=>(240,224,2048)
 |_=>(248,240,65536)
def Y7(s:aes)(at_:Nat):Nat->Nat->Int×Int×Int
 |0,_=>(0,0,2)
 |k+1,i=>
  if Go.bits .and .u8 (A4 s at_) (W9 i).1=(W9 i).2.1 then
   sQ s at_ i (W9 i).2.2 (bh s at_ i i (IntKind.wrap .i32 (Go.bits .andNot .u8 (A4 s at_) (W9 i).1)) 1).1 (bh s at_ i i (IntKind.wrap .i32 (Go.bits .andNot .u8 (A4 s at_) (W9 i).1)) 1).2
  else Y7 s at_ k (i+1)
def kU(s:aes)(at_:Nat):Int×Int×Int:=if at_<s.size then Y7 s at_ 4 0 else(0,0,7)
def JW(s:aes)(u n:Nat):∀k v h,u+h<=s.size->h<=(bh s u n k v h).2/\u+(bh s u n k v h).2<=s.size:=by
 intro k;induction k with
 |zero=>intro v h z;exact⟨lR,z⟩
 |succ k D=>
  intro v h z;rw[bh];split
  next c=>have:=D (Go.bits .or .i32 (IntKind.wrap .i32 (v*2 ^ min (Int.toNat 6) 32)) (IntKind.wrap .i32 (Go.bits .and .u8 (A4 s (u+h)) 63))) (h+1) oM;exact⟨oM,this.2⟩
  .exact⟨lR,z⟩
def JV(s:aes)(u:Nat)(E:u<s.size):∀k i,(Y7 s u k i).2.2=0->∃h:Nat,(Y7 s u k i).2.1=h/\1<=h/\u+h<=s.size:=by
 intro k;induction k with
 |zero=>intro i h;exact absurd h (by simp [Y7])
 |succ k D=>
  intro i h;rw[Y7]at h ⊢;split at h
  .rename_i c;rw[cA c];have z:=JW s u i i (IntKind.wrap .i32 (Go.bits .andNot .u8 (A4 s u) (W9 i).1)) 1 oM;rw[sQ]at h ⊢;split at h
   .exact absurd h sM
   .rename_i c1;rw[bt c1];split at h
    next c2=>rw[cA c2];exact⟨_,rfl,z.1,z.2⟩
    .split at h<;>exact absurd h sM
  next c=>rw[bt c];exact D (i+1) h
def JX(s:aes)(u:Nat)(h:(kU s u).2.2=0):∃n:Nat,(kU s u).2.1=n/\1<=n/\u+n<=s.size:=by
 rw[kU]at h ⊢;split at h
 next c=>rw[cA c];exact JV s u c _ _ h
 .exact absurd h sM
def ww(s:aes)(at_:Nat):Int:=
 if h:at_<s.size then
  if h2:(kU s at_).2.2=0 then ww s (at_+(kU s at_).2.1.toNat) else(kU s at_).2.2
 else 0
termination_by s.size-at_
decreasing_by
 obtain⟨n,h3,h4,h5⟩:=JX s at_ h2;rw[h3];simp only[aay];omega
def xf(f:Int->Bool)(s:aes)(at_:Nat):Bool:=
 if h:at_<s.size then if f (Utf8.decode s at_).1 then xf f s (at_+(Utf8.decode s at_).2) else false else true
termination_by s.size-at_
decreasing_by have:=aE s at_;omega
def X0(s:aes):Bool:=decide (ww s 0=0)&&xf kS s 0
def iZ(s:aes)(at_:Nat):Bool:=
 if h:at_<s.size then if(decide (at_=0)&& !gh (Utf8.decode s at_).1)|| !jN (Utf8.decode s at_).1 then false else iZ s (at_+(Utf8.decode s at_).2) else true
termination_by s.size-at_
decreasing_by have:=aE s at_;omega
def jm(s:aes):Bool:=iZ s 0&& !decide (s=eB)
def rR:aes:=⟨#[104,116,116,112,58,47,47,119,119,119,46,119,51,46,111,114,103,47,50,48,48,48,47,120,109,108,110,115,47]⟩
def cn(space loc:aes):Bool:=jm loc&&X0 loc&&X0 space&& !decide (space=rR)
structure AtD where
 space:aes
 loc:aes
 val:aes
def AtR(cs:LV)(a:AtD):Prop:=cs=[.string a.space,.string a.loc,.string a.val]/\a.space.size<=1048576/\a.loc.size<=1048576/\a.val.size<=1048576
def aGo:List (aes×aes)->List AtD->Bool
 |_,[]=>true
 |seen,a::r=>if je (a.space,a.loc) seen|| !cn a.space a.loc|| !X0 a.val then false else aGo (seen++[(a.space,a.loc)]) r
def gX(l:List AtD):Bool:=aGo [] l&&decide (l.length<=32)
structure EvD where
 kind:Int
 space:aes
 loc:aes
 attrs:List AtD
 text:aes
def EvR(H:d7)(lo:Nat)(cs:LV)(e:EvD):Prop:=
 ∃v,cs=[iV e.kind,.string e.space,.string e.loc,v,.string e.text]/\SlI H lo 3 AtR v e.attrs/\e.space.size<=1048576/\e.loc.size<=1048576/\e.text.size<=1048576/\e.attrs.length<=1048576
def EvR.mono{H H':d7}{lo u:Nat}(J:∀j,j<lo->H'.g j=H.g j) (z:lo<=u)  {e:EvD} (h:EvR H lo cs e):EvR H' u cs e:=by
 obtain⟨v,D,E,I⟩:=h;exact⟨v,D,E.mono J z iF,I⟩
def eM(e:EvD):Bool:=
 if e.kind=1 then decide (e.text= .empty)&&cn e.space e.loc&&gX e.attrs
 else if e.kind=2 then !decide (e.text= .empty)&&X0 e.text&&(decide (e.space= .empty)&&decide (e.loc= .empty))&&decide (e.attrs.length=0)
 else if e.kind=3 then decide (e.text= .empty)&&(decide (e.space= .empty)&&decide (e.loc= .empty))&&decide (e.attrs.length=0)
 else false
def A7(d:Int)(k:Int):Int:=if k=1 then d+1 else if k=3 then d-1 else d
def bGo:Option Int->Int->List EvD->Bool
 |_,_,[]=>true
 |p,d,e::r=>
  if !eM e||(decide (p=none)&& !decide (e.kind=1))||(!decide (p=none)&&decide (d=0))||(decide (e.kind=2)&&decide (p=some 2)) then false
  else if 64<A7 d e.kind then false else bGo (some e.kind) (A7 d e.kind) r
def D8(l:List EvD):Bool:=bGo none 0 l
def oV(l:List EvD)(i:Nat):Option Int:=if i=0 then none else(l[i-1]?).map (·.kind)
abbrev Z6(H:d7)(lo:Nat)(v:aet)(l:List EvD):Prop:=SlI H lo 5 (EvR H lo) v l
def Z6.mono{H H':d7}{lo z:Nat}{v:aet}{l:List EvD}(h:Z6 H lo v l)(D:∀j,j<lo->H'.g j=H.g j) (u:lo<=z):Z6 H' z v l:=
 SlI.mono h D u fun _ _ q=>q.mono D u
def dep(d:Int)(l:List EvD):Int:=l.foldl (fun d e=>A7 d e.kind) d
def iJ(d k:Int):d-1<=A7 d k/\A7 d k<=d+1:=by unfold A7;split<;>(try split)<;>omega
def Nv:∀(l:List EvD)(d:Int),d-l.length<=dep d l/\dep d l<=d+l.length
 |[],d=>by simp [dep]
 |e::l,d=>by
  have h:=Nv l (A7 d e.kind);have k:=iJ d e.kind;simp only[dep,aak,A1]at h ⊢;omega
def Co:∀(l:List EvD)(p:Option Int)(d:Int),0<=d->d<=64->(p=none->d=0)->bGo p d l=true->0<=dep d l/\dep d l<=64
 |[],p,d,h0,h1,_,_=>⟨h0,h1⟩
 |e::l,p,d,h0,h1,hp,h=>by
  rw[bGo]at h;split at h
  .cases h
  .rename_i u;split at h
   .cases h
   .rename_i z;refine Co l (some e.kind) (A7 d e.kind) ?_ oM (fun q=>by cases q) h;have:=iJ d e.kind;by_cases D:d=0
    .cases p with
     |none=>
      simp at u;have:e.kind=1:=by
       by_cases k:e.kind=1
       .exact k
       .simp [k]at u
      rw[A7,cA this];omega
     |some q=>simp [D]at u
    .omega
def jl{l:List EvD}(h:D8 l=true):0<=dep 0 l/\dep 0 l<=64:=Co l none 0 oM oM (fun _=>rfl) h
def iL{H:d7}{lo:Nat}{v:aet}{l:List EvD}(W:Z6 H lo v l){i:Nat}{h:EvD}(S:l[i]?=some h):
  ∃b o c cs own D E,v= .slice (some ⟨b,o,none⟩) l.length c/\b<lo/\H.g b=some (.cells cs own 5)/\o+i*5+5<=cs.length/\
   (cs.drop (o+i*5)).take 5=[iV h.kind,.string h.space,.string h.loc,.slice D h.attrs.length E,.string h.text]/\
   SlI H lo 3 AtR (.slice D h.attrs.length E) h.attrs/\h.space.size<=1048576/\h.loc.size<=1048576/\h.text.size<=1048576/\h.attrs.length<=1048576:=by
 obtain⟨b,o,c,cs,own,O,z,U,I,av,J,u,X⟩:=W.at_ S;obtain⟨D,E,rfl⟩:=u.slice;exact⟨b,o,c,cs,own,D,E,O,z,U,I,J,u,X⟩
def C7{α:Type}{l:List α}{i:Nat}(h:i<l.length):∃a,l[i]?=some a/\l.drop i=a::l.drop (i+1):=
 ⟨l[i],yv h,aav h⟩
inductive Q where
 |mk (op:Int) (sp lc vl:aes) (a b:List Q)
namespace Q
def op:Q->Int| .mk o _ _ _ _ _=>o
def sp:Q->aes| .mk _ s _ _ _ _=>s
def lc:Q->aes| .mk _ _ c _ _ _=>c
def vl:Q->aes| .mk _ _ _ v _ _=>v
def a:Q->List Q| .mk _ _ _ _ a _=>a
def b:Q->List Q| .mk _ _ _ _ _ b=>b
end Q
def qSz(f:Bool):Nat:=if f then 6 else 3
def QR(H:d7)(lo:Nat):Nat->Bool->LV->Q->Prop
 |0,_,_,_=>False
 |k+1,f,cs,q=>∃v w,cs=(if f then [iV q.op,.string q.sp,.string q.lc,.string q.vl,v,w] else [iV q.op,v,w])/\
   SlI H lo (qSz f) (QR H lo k f) v q.a/\SlI H lo (qSz !f) (QR H lo k !f) w q.b/\q.a.length<=1048576/\q.b.length<=1048576/\q.sp.size<=1048576/\q.lc.size<=1048576/\q.vl.size<=1048576/\(f=false->q.sp=eB/\q.lc=eB/\q.vl=eB)
def QR.mono{H H':d7}{lo z:Nat}(D:∀j,j<lo->H'.g j=H.g j) (u:lo<=z):∀{k:Nat}{f:Bool}{cs:LV}{q:Q},QR H lo k f cs q->QR H' z k f cs q:=by
 intro k;induction k with
 |zero=>intro f cs q h;exact h.elim
 |succ k E=>
  intro f cs q h;obtain⟨v,w,I,J,O,S⟩:=h;exact⟨v,w,I,J.mono D u (fun _ _ h=>E h),O.mono D u (fun _ _ h=>E h),S⟩
def QR.len{H:d7}{lo k:Nat}{f:Bool}{q:Q}(h:QR H lo k f cs q):cs.length=qSz f:=by
 cases k with
 |zero=>exact h.elim
 |succ k=>obtain⟨v,w,rfl,_⟩:=h;cases f<;>rfl
def QR.stay{H H':d7}{lo:Nat}(u:d9 lo H H'){k:Nat}{f:Bool}{q:Q}(h:QR H lo k f cs q):QR H' lo k f cs q:=h.mono (fun j z=>u.g j z) lR
def QR.plain{H:d7}{lo k:Nat}{f:Bool}{q:Q}(h:QR H lo k f cs q)(z:f=false):q.sp=eB/\q.lc=eB/\q.vl=eB:=by
 cases k with
 |zero=>exact h.elim
 |succ k=>obtain⟨v,w,D,E,I,J,O,S,U,W,u⟩:=h;exact u z
abbrev QsR(H:d7)(lo k:Nat)(f:Bool)(v:aet)(l:List Q):Prop:=SlI H lo (qSz f) (QR H lo k f) v l
def QsR.mono{H H':d7}{lo z k:Nat}{f:Bool}{v:aet}{l:List Q}(h:QsR H lo k f v l)(D:∀j,j<lo->H'.g j=H.g j) (u:lo<=z):QsR H' z k f v l:=SlI.mono h D u (fun _ _ h=>h.mono D u)
def QR.path{H:d7}{lo k:Nat}{q:Q}(h:QR H lo (k+1) false cs q):∃D z E u,cs=[iV q.op,.slice D q.a.length z,.slice E q.b.length u]/\QsR H lo k false (.slice D q.a.length z) q.a/\QsR H lo k true (.slice E q.b.length u) q.b/\q.a.length<=1048576/\q.b.length<=1048576:=by
 obtain⟨v,w,O,I,J,S,U,_⟩:=h;obtain⟨D,z,rfl⟩:=I.slice;obtain⟨E,u,rfl⟩:=J.slice;exact⟨D,z,E,u,O,I,J,S,U⟩
def QR.filter{H:d7}{lo k:Nat}{q:Q}(h:QR H lo (k+1) true cs q):∃D z E u,cs=[iV q.op,.string q.sp,.string q.lc,.string q.vl,.slice D q.a.length z,.slice E q.b.length u]/\QsR H lo k true (.slice D q.a.length z) q.a/\QsR H lo k false (.slice E q.b.length u) q.b/\q.a.length<=1048576/\q.b.length<=1048576/\q.sp.size<=1048576/\q.lc.size<=1048576/\q.vl.size<=1048576:=by
 obtain⟨v,w,O,I,J,S,U,W,X,h8,_⟩:=h;obtain⟨D,z,rfl⟩:=I.slice;obtain⟨E,u,rfl⟩:=J.slice;exact⟨D,z,E,u,O,I,J,S,U,W,X,h8⟩
def QsR.row{H:d7}{lo k:Nat}{f:Bool}{z:Option Addr}{n D:Nat}{l:List Q}(h:QsR H lo k f (.slice z n D) l){i:Nat}(S:i<l.length):
  ∃x b o cs own el,l[i]?=some x/\l.drop i=x::l.drop (i+1)/\z=some ⟨b,o,none⟩/\b<lo/\H.g b=some (.cells cs own (qSz f))/\o+i*qSz f+qSz f<=cs.length/\ldC (some true) (some (qSz f)) (o+i*qSz f) cs=some (.agg el.toArray)/\QR H lo k f el x:=by
 obtain⟨x,E,J⟩:=C7 (l:=l) (i:=i) S;obtain⟨b,o,c,cs,own,W,I,O,u,U⟩:=h.at_ E;obtain⟨rfl,rfl,rfl⟩:z=some ⟨b,o,none⟩/\n=l.length/\D=c:=by simpa using W
 exact⟨x,b,o,cs,own,_,E,J,rfl,I,O,u,Z2 u rfl,U⟩
mutual
def szQ:Q->Int->Int
 | .mk _ _ _ _ a b,m=>szL b (szL a 1 m) m
def szL:List Q->Int->Int->Int
 |[],n,_=>n
 |x::l,n,m=>if n<=m then szL l (n+szQ x (m-n)) m else n
end
def JP(q:Q)(m:Int):szQ q m=szL q.b (szL q.a 1 m) m:=by cases q;rw[szQ];rfl
mutual
def mY:∀(q:Q)(m:Int),0<=m->1<=szQ q m/\szQ q m<=m+1
 | .mk _ _ _ _ a b,m,h=>by
  rw[szQ];have h1:=rG a 1 m oM oM h;exact rG b _ m oM oM h
def rG:∀(l:List Q)(n m:Int),1<=n->n<=m+1->0<=m->1<=szL l n m/\szL l n m<=m+1
 |[],n,m,h0,h1,h=>by rw[szL];omega
 |x::l,n,m,h0,h1,h=>by
  rw[szL];split
  next hnm=>have h2:=mY x (m-n) oM;exact rG l _ m oM oM h
  .omega
end
def mi(l:List Q)(n m:Int)(h:m<n):szL l n m=n:=by cases l with|nil=>rfl|cons x l=>rw[szL,bt oM]
def mg(fn:Nat)(f:Bool)(k:Nat):Prop:=∀(H:d7)(lo:Nat)(cs:LV)(q:Q)(m:Int),lo<=H.n->QR H lo k f cs q->0<=m->m<=64->CL prog l7 fn [.agg cs.toArray,iV m] H=some (.int .i64 (szQ q m),none)
def Wap(Wae Waf:Bool)(k:Nat)(ih:mg (Wab Wae Waf 71 106 106 71) (Wab Wae Waf false true true false) k)(H0:d7)(lo:Nat)(va:Option Addr)(ca:Nat)(l:List Q)(a2:lo<=H0.n)(hv:QsR H0 lo k (Wab Wae Waf false true true false) (.slice va l.length ca) l)(hn:l.length<=1048576)(O:Nat)(cl:LV)(U:H0.g O=cE cl 1)(X:cl[(Wab Wae Waf 1 2 4 5)]?=some (.slice va l.length ca))(m:Int)(a5:0<=m)(hm:m<=64)(r:Int):
  ∀kk e H2,(∃(i:Nat)(n:Int),kk=l.length-i/\i<=l.length/\1<=n/\n<=m+1/\e.g 1=iV m/\e.g 2=pT O/\e.g 5=iV n/\e.g (Wab Wae Waf 6 7 6 7)=iV i/\H2=H0/\szL (l.drop i) n m=r)->
  u7 (LE prog l7 (.loop (Wab Wae Waf Sz YP OE Xo)) e H2) (fun o e H2=>H2=H0/\o= .exit (Wab Wae Waf 0 2 0 2)/\e.g 1=iV m/\e.g 2=pT O/\e.g 5=iV r):=by
 cases Wae<;>cases Waf
 all_goals
  simp only[Waa,Wab,Wac,cond_true,cond_false]at *
  refine i5 _ _ ?_;rintro kk e H2 ⟨i,n,hk,hi,a6,a7,u,z,E,S,hH,D⟩;subst hH;rcases b:decide ((i:Int)<l.length)with _|_
  .have W:=dF b;have:l.drop i=[]:=dN oM;rw[this,szL]at D;refine J7 u z E S U X b ?_;exact i6 ⟨rfl,rfl,u,z,by rw[<-D];exact E⟩
  have W:=dT b;rcases J:decide (n<=m)with _|_
  .have I:=dF J;rw[mi _ _ _ oM]at D;refine J8 u z E S U X b J ?_;exact i6 ⟨rfl,rfl,u,z,by rw[<-D];exact E⟩
  have I:=dT J;obtain⟨x,nb,o,cs,own,el,hx,hd,rfl,a4,hg,a3,h,hr⟩:=hv.row (i:=i) oM;have nt:(i:Int).toNat=i:=tN i;have hs:=mY x (m-n) oM;rw[hd,szL,cA I]at D;simp only[qSz,aab,bF]at h hg;have a1:=ih H2 lo el x (m-n) a2 hr oM oM;refine J13 u z E S U X b J hg nt h @wrap_small a1 ?_;refine d8 (kk-1) oM ⟨i+1,n+szQ x (m-n),oM,oM,oM,oM,u,z,rfl,rfl,rfl,D⟩
def MJ:=Wad (Wap true true)
def MK:=Wad (Wap true false)
def MM:=Wad (Wap false true)
def MN:=Wad (Wap false false)
def QZ(k:Nat)(a1:mg 71 false k)(a2:mg 106 (!false) k):mg 71 false (k+1):=by
 intro H lo cs q m a4 hr h hm;obtain⟨va,ca,wa,u,rfl,h1,h2,h3,h4⟩:=hr.path;rw[i8 Ub rfl _ sM,JP];obtain⟨E,D,-,hg,X⟩:=pushF H (bC [iV q.op,.slice va q.a.length ca,.slice wa q.b.length u] 1);have a3:H.n<=E.low:=by rw[D,l9];exact lR
 have hn:=X.n;have S:=h1.mono (H':=E) (fun j hj=>X.g j oM) lR;have U:=h2.mono (H':=E) (fun j hj=>X.g j oM) lR;have hz:=rG q.a 1 m oM oM h;refine J1 D.symm ?_;refine j5 (F:=fun z=>t6 _ _ _ (u6 (inBlock 0 z) _)=_) (MJ k a1 E lo va ca q.a oM S h3 H.n _ hg rfl m h hm (szL q.a 1 m) q.a.length _ _ ⟨0,1,rfl,oM,oM,oM,rfl,rfl,rfl,rfl,rfl,rfl⟩) ?_;rintro o e' H' ⟨W,ho,J,O,I⟩;subst W;refine J4 ho J O I ?_;refine j5 (F:=fun z=>t6 _ _ _ (u6 (inBlock 2 z) _)=_) (MK k a2 H' lo wa u q.b oM U h4 H.n _ hg rfl m h hm (szL q.b (szL q.a 1 m) m) q.b.length _ _ ⟨0,szL q.a 1 m,rfl,oM,hz.1,hz.2,J,O,I,rfl,rfl,rfl⟩) ?_;rintro o e' H2 ⟨W,ho,J,O,I⟩;exact J3 ho I W trivial
def Ra(k:Nat)(a1:mg 106 true k)(a2:mg 71 (!true) k):mg 106 true (k+1):=by
 intro H lo cs q m a4 hr h hm;obtain⟨va,ca,wa,u,rfl,h1,h2,h3,h4,_⟩:=hr.filter;rw[i8 Ni rfl _ sM,JP];obtain⟨E,D,-,hg,X⟩:=pushF H (bC [iV q.op,.string q.sp,.string q.lc,.string q.vl,.slice va q.a.length ca,.slice wa q.b.length u] 1);have a3:H.n<=E.low:=by rw[D,l9];exact lR
 have hn:=X.n;have S:=h1.mono (H':=E) (fun j hj=>X.g j oM) lR;have U:=h2.mono (H':=E) (fun j hj=>X.g j oM) lR;have hz:=rG q.a 1 m oM oM h;refine J1 D.symm ?_;refine j5 (F:=fun z=>t6 _ _ _ (u6 (inBlock 0 z) _)=_) (MM k a1 E lo va ca q.a oM S h3 H.n _ hg rfl m h hm (szL q.a 1 m) q.a.length _ _ ⟨0,1,rfl,oM,oM,oM,rfl,rfl,rfl,rfl,rfl,rfl⟩) ?_;rintro o e' H' ⟨W,ho,J,O,I⟩;subst W;refine J4 ho J O I ?_;refine j5 (F:=fun z=>t6 _ _ _ (u6 (inBlock 2 z) _)=_) (MN k a2 H' lo wa u q.b oM U h4 H.n _ hg rfl m h hm (szL q.b (szL q.a 1 m) m) q.b.length _ _ ⟨0,szL q.a 1 m,rfl,oM,hz.1,hz.2,J,O,I,rfl,rfl,rfl⟩) ?_;rintro o e' H2 ⟨W,ho,J,O,I⟩;exact J3 ho I W trivial
def JG:∀k,mg 71 false k/\mg 106 true k:=by
 intro k;induction k with
 |zero=>exact⟨fun H lo cs q m u z=>z.elim,fun H lo cs q m u z=>z.elim⟩
 |succ k h=>exact⟨QZ k h.1 h.2,Ra k h.2 h.1⟩
def Jn(H:d7)(lo k:Nat)(cs:LV)(q:Q)(a1:lo<=H.n)(I:QR H lo k false cs q):CL prog l7 35 [.agg cs.toArray] H=some (.int .i64 (szQ q 64),none):=by
 cases k with
 |zero=>exact I.elim
 |succ k=>
 have J:=I;obtain⟨S,E,U,h,rfl,h1,h2,h3,h4⟩:=I.path;obtain⟨D,u,-,hg,W⟩:=pushF H (bC [iV q.op,.slice S q.a.length E,.slice U q.b.length h] 1);have X:H.n<=D.low:=by rw[u,l9];exact lR
 have hn:=W.n;have z:ldC (some true) (some 3) 0 [iV q.op,.slice S q.a.length E,.slice U q.b.length h]=some (.agg [iV q.op,.slice S q.a.length E,.slice U q.b.length h].toArray):=rfl;have O:QR D lo (k+1) false _ q:=J.mono (fun j hj=>W.g j oM) lR;have c1:=(JG (k+1)).1 D lo _ q 64 oM O oM oM;rw[i8 Pm rfl _ sM];exact J4 u.symm hg z c1 trivial
def vZ{S:List Blk}{α:Type}{R R':LV->α->Prop}{v:aet}{l:List α}(h:Sl S sz R v l)(E:∀cs a,R cs a->R' cs a):SlI ⟨S,S.length⟩ S.length sz R' v l:=by
 rcases h with h|⟨b,o,J,h⟩
 .exact .inl h
 .refine .inr ⟨b,o,_,J,?_⟩;rcases h with h|⟨c,u,z,D⟩
  .exact .inl h
  .exact .inr ⟨c,false,(gS u).1,u,z,fun i a I=>E _ _ (D i a I)⟩
def zP(k:Nat):N9 prog k 9 (fun _ cs(s:aes)=>cs=[.string s]/\s.size<=1048576):=rX Tryz.underlying9
def uL(k:Nat):N9 prog k 3 (fun _ cs(n:Int)=>cs=[iV n]/\(Lit.int .i64 n).wf=true):=zu Tryz.underlying3
def NmR(cs:LV)(x:aes×aes):Prop:=cs=[.string x.1,.string x.2]/\x.1.size<=1048576/\x.2.size<=1048576
def pC(k:Nat):N9 prog (k+1) 43 (fun _ cs x=>NmR cs x):=by
 have h:=ai (P:=prog) (t:=43) Tryz.underlying43 kR (D6 (k:=1) rfl kR (zP k) (D6 (k:=1) rfl kR (zP k) (cL _)));refine h.map (fun x=>(x.1,x.2.1)) ?_ (fun _ _ _ _ _ h=>h);rintro S cs ⟨a,b,u⟩ ⟨c1,c2,rfl,⟨rfl,z⟩,E,I,rfl,⟨rfl,D⟩,rfl⟩;exact⟨rfl,z,D⟩
def QG(S:List Blk):Nat->Bool->LV->Q->Prop
 |0,_,_,_=>False
 |k+1,f,cs,q=>∃v w,cs=(if f then [iV q.op,.string q.sp,.string q.lc,.string q.vl,v,w] else [iV q.op,v,w])/\
   Sl S (qSz f) (QG S k f) v q.a/\Sl S (qSz !f) (QG S k !f) w q.b/\q.a.length<=1048576/\q.b.length<=1048576/\q.sp.size<=1048576/\q.lc.size<=1048576/\q.vl.size<=1048576/\(f=false->q.sp=eB/\q.lc=eB/\q.vl=eB)
def QG.mono{S u:List Blk}(z:Old S u):∀{k:Nat}{f:Bool}{cs:LV}{q:Q},QG S k f cs q->QG u k f cs q:=by
 intro k;induction k with
 |zero=>intro f cs q h;exact h.elim
 |succ k D=>
  intro f cs q h;obtain⟨v,w,E,I,J,O⟩:=h;exact⟨v,w,E,I.mono z (fun _ _ h=>D h),J.mono z (fun _ _ h=>D h),O⟩
def pD:∀k,N9 prog (2*k) 25 (fun S cs q=>QG S k false cs q)/\N9 prog (2*k) 143 (fun S cs q=>QG S k true cs q)
 |0=>⟨⟨fun _ _ _ _ E h=>h.mono E,fun _ _ _ h=>absurd h oM⟩,⟨fun _ _ _ _ E h=>h.mono E,fun _ _ _ h=>absurd h oM⟩⟩
 |k+1=>by
  obtain⟨U,W⟩:=pD k;have X:=dI (P:=prog) (t:=22) (e:=25) (sz:=3) Tryz.underlying22 kR oM U;have s2:=dI (P:=prog) (t:=23) (e:=143) (sz:=6) Tryz.underlying23 kR oM W
  constructor
  .have h:=ai (P:=prog) (t:=25) Tryz.underlying25 kR (D6 (k:=1) rfl kR (uL (2*k+1)) (D6 (k:=1) rfl kR X (D6 (k:=1) rfl kR s2 (cL _))));refine h.map (fun x=> .mk x.1 eB eB eB x.2.1 x.2.2.1) ?_ (fun _ _ _ _ E h=>h.mono E);rintro S cs ⟨o,a,b,u⟩ ⟨c1,c2,rfl,⟨rfl,h1⟩,c3,c4,rfl,⟨v,rfl,I,z⟩,c5,c6,rfl,⟨w,rfl,J,D⟩,rfl⟩;have O:eB.size<=1048576:=by decide
   exact⟨v,w,rfl,I,J,z,D,O,O,O,fun _=>⟨rfl,rfl,rfl⟩⟩
  .have h:=ai (P:=prog) (t:=143) Tryz.underlying143 kR (D6 (k:=1) rfl kR (uL (2*k+1)) (D6 (k:=2) rfl kR (pC (2*k)) (D6 (k:=1) rfl kR (zP (2*k+1)) (D6 (k:=1) rfl kR s2 (D6 (k:=1) rfl kR X (cL _))))));refine h.map (fun x=> .mk x.1 x.2.1.1 x.2.1.2 x.2.2.1 x.2.2.2.1 x.2.2.2.2.1) ?_ (fun _ _ _ _ E h=>h.mono E);rintro S cs ⟨o,nm,vl,a,b,u⟩ ⟨c1,c2,rfl,⟨rfl,h1⟩,c3,c4,rfl,⟨rfl,n1,n2⟩,c7,c8,rfl,⟨rfl,n3⟩,c9,a1,rfl,⟨v,rfl,I,z⟩,c5,c6,rfl,⟨w,rfl,J,D⟩,rfl⟩;exact⟨v,w,rfl,I,J,z,D,n1,n2,n3,fun h=>by cases h⟩
def VZ{S:List Blk}:∀{k:Nat}{f:Bool}{cs:LV}{q:Q},QG S k f cs q->QR ⟨S,S.length⟩ S.length k f cs q:=by
 intro k;induction k with
 |zero=>intro f cs q h;exact h.elim
 |succ k u=>
  intro f cs q h;obtain⟨v,w,z,D,E,I⟩:=h;exact⟨v,w,z,vZ D (fun _ _ h=>u h),vZ E (fun _ _ h=>u h),I⟩
end Go.Proofs.YtbekeboballbgaaGreatDoor.Ve
namespace Go.Proofs.YtbekeboballbgaaGreatDoor.card
open Go.ChangeShapes Go.WideShapes Go.ChangeAt Go.RowKit
open Go.Proofs.Tryz (prog)
open Go Ve
def own:ownKnob prog.godebug=none:=kR
def CG:laidOutB prog=true:=kR
def Uu:DataW Unit->aet
 | .lit (.int k n)=> .int k n
 |_=> .nilIface
def Oj:DataW Unit->Array aet
 | .agg l=>(l.map Uu).toArray
 |_=> #[]
def PX(d:DataW Unit):Obj->Obj
 | .cells _ t frozen=> .cells (Oj d) t frozen
 |o=>o
noncomputable def ju(os:Os):World:=
 {World.holding prog os ⟨#[],#[],[]⟩with heap:=(((World.holding prog os ⟨#[],#[],[]⟩).heap.modify 0 (PX Rows.laid_internal_strconv_uint64pow10)).modify 1 (PX Rows.laid_math_bits_deBruijn32tab)).modify 2 (PX Rows.laid_math_bits_deBruijn64tab)}
abbrev Ut:List (String×DataW Unit):=[("math/bits.deBruijn32tab",Rows.laid_math_bits_deBruijn32tab),("math/bits.deBruijn64tab",Rows.laid_math_bits_deBruijn64tab),("internal/strconv.uint64pow10",Rows.laid_internal_strconv_uint64pow10)]
abbrev Oc:aet:= .agg #[.int .i64 0,.slice none 0 0,.slice none 0 0]
def reads(u:Os){H:Type}(enc:TypeId×aet->H):∃h,DataW.whole enc prog ((ju u).forCall (fun _ _=>0) ⟨#[],#[Oc],[]⟩).memory [25] [] false #[Oc].toList 8=some ([.agg [.lit (.int .i64 0),.nil,.nil]],[],h):=
 ⟨[],kR⟩
end Go.Proofs.YtbekeboballbgaaGreatDoor.card
namespace Go.Proofs.YtbekeboballbgaaGreatDoor.Ve
open Go Go.RowKit
open Go.Proofs.Tryz (prog)
def Vh:=nfF 10 Tryz.f10 []
def Tm:=nfF 12 Tryz.f12 []
abbrev Yg:t5:=ptA Tm [1,1,1,0,0,0]
abbrev RD:t5:=ptA Tm [1,1,1,0,0,0,1,0,1,0,1,0,0]
abbrev Yh:t5:=ptA Tm [1,1,1,1,1,0,1,0,0]
def XU:=nfF 22 Tryz.f22 [0]
abbrev Yp:t5:=ptA XU [1,1,1,1,1,0,1,0,0]
abbrev Yo:t5:=ptA XU [1,1,1,1,1,0,1,0,0,1,1,0,0,1,1,0,0]
def Vl:=nfF 24 Tryz.f24 []
abbrev Yq:t5:=ptA Vl [1,1,0,1,0,0]
def TK:=nfF 25 Tryz.f25 [0]
abbrev RH:t5:=ptA TK [1,1,1,0,1,0,0]
abbrev Yr:t5:=ptA TK [1,1,1,1,0,1,0,0]
def TL:=nfF 26 Tryz.f26 [0]
abbrev Ys:t5:=ptA TL [1,1,1,0,1,0,0]
abbrev RI:t5:=ptA TL [1,1,1,0,1,0,0,1,1,0,0,1,1,0,0]
def TM:=nfF 27 Tryz.f27 []
def Pl:=nfF 28 Tryz.f28 []
def Er:=nfF 49 Tryz.f49 [10,0]
def Vr:=nfF 52 Tryz.f52 [0]
abbrev WX:t5:=ptA Vr [1,0,0]
def Zo:=nfF 53 Tryz.f53 []
abbrev YH:t5:=ptA Zo [1,1,1,0,1,0,0]
def Zp:=nfF 54 Tryz.f54 []
abbrev YI:t5:=ptA Zp [1,0,1,0,0]
def UX:=nfF 89 Tryz.f89 [6,6,0]
def WG:t5:=ptA UX [1,1,1,1,1]
def Pv:=hdF UX [1,1,1,1,1] WG
abbrev ST:t5:=ptA Pv [1,1,0,1,0,0]
def VE:=nfF 90 Tryz.f90 []
abbrev YW:t5:=ptA VE [1,1,1,0,1,0,0]
abbrev YV:t5:=ptA VE [1,1,1,0,1,0,0,1,0,1,1,0,0]
def Pw:=nfF 92 Tryz.f92 []
abbrev SV:t5:=ptA Pw [1,1,0,1,0,0]
def fn5:=nfF 5 Tryz.f5 [12]
abbrev ZO:t5:=ptA fn5 [1,1,1,1,1,1,1,0,1,0,0]
abbrev ZN:t5:=ptA fn5 [1,1,1,1,1,1,1,0,1,0,0,1,0,0,1,0,0]
abbrev ZM:t5:=ptA fn5 [1,1,1,1,1,1,1,0,1,0,0,1,0,0,1,0,0,1,0,0,1,1,1,0,0]
def fn6:=nfF 6 Tryz.f6 []
def bAt(s:aes)(i:Nat):Nat:=(s.data.toList.getD i 0).toNat
def an(s:aes)(i:Nat):A4 s i=(bAt s i:Int):=rfl
def aB(s:aes)(i:Nat):bAt s i<256:=by
 have:=(s.data.toList.getD i 0).toNat_lt
 simpa [bAt] using this
def Ib(s:aes)(i:Nat)(h:i<s.size):(s.get! i).toNat=bAt s i:=by
 have u:i<s.data.toList.length:=by simpa using h
 have:s.get! i=s.data[i]!:=by cases s;rfl
 rw[this,bAt,ma,yv u,getElem!_pos _ _ (by simpa using h)];simp
def V6(s:aes)(i:Nat):Bool:=decide (i<s.size)&&decide (bAt s i / 64=2)
def dec(s:aes)(i:Nat):Option (Nat×Nat):=
 if bAt s i<128 then some (bAt s i,1)
 else if bAt s i / 32=6 then
  if V6 s (i+1)=true/\128<=bAt s i % 32*64+bAt s (i+1) % 64 then some (bAt s i % 32*64+bAt s (i+1) % 64,2) else none
 else if bAt s i / 16=14 then
  if V6 s (i+1)=true/\V6 s (i+2)=true/\2048<=bAt s i % 16*4096+bAt s (i+1) % 64*64+bAt s (i+2) % 64/\¬(55296<=bAt s i % 16*4096+bAt s (i+1) % 64*64+bAt s (i+2) % 64/\bAt s i % 16*4096+bAt s (i+1) % 64*64+bAt s (i+2) % 64<=57343)
   then some (bAt s i % 16*4096+bAt s (i+1) % 64*64+bAt s (i+2) % 64,3) else none
 else if bAt s i / 8=30 then
  if V6 s (i+1)=true/\V6 s (i+2)=true/\V6 s (i+3)=true/\65536<=bAt s i % 8*262144+bAt s (i+1) % 64*4096+bAt s (i+2) % 64*64+bAt s (i+3) % 64/\bAt s i % 8*262144+bAt s (i+1) % 64*4096+bAt s (i+2) % 64*64+bAt s (i+3) % 64<=1114111
   then some (bAt s i % 8*262144+bAt s (i+1) % 64*4096+bAt s (i+2) % 64*64+bAt s (i+3) % 64,4) else none
 else none
def L9{s:aes}{i:Nat}:V6 s i=true↔i<s.size/\bAt s i / 64=2:=by simp [V6]
def Ru(s:aes)(i:Nat)(hi:i<s.size)(c n:Nat)(h:dec s i=some (c,n)):Utf8.decode s i=(c,n):=by
 have g0:=Ib s i hi;have E:∀k,V6 s (i+k)=true->(s.get! (i+k)).toNat=bAt s (i+k)/\(decide (i+k<s.size)&&(s.get! (i+k)).toNat / 64==2)=true:=by
  intro k S;rw[L9]at S;have:=Ib s (i+k) S.1;refine⟨this,?_⟩;rw[this,S.2];simp [S.1]
 unfold dec at h;unfold Utf8.decode;simp only[aaf,g0];split at h
 next X=>rw[cA X];cases h;rfl
 .rename_i X;rw[bt X];split at h
  .rename_i h2;split at h
   .rename_i h3;obtain⟨J,u⟩:=E 1 h3.1;have U:(bAt s i / 32==6)=true:=by simp [h2]
    rw[U,u];simp only[ab7,aab,J];rw[cA h3.2];cases h;rfl
   .cases h
  .rename_i h2;have U:(bAt s i / 32==6)=false:=by simp [h2]
   rw[U];simp only[abi,bF];split at h
   .rename_i h4;split at h
    .rename_i O;obtain⟨J,u⟩:=E 1 O.1;obtain⟨k2,D⟩:=E 2 O.2.1;have W:(bAt s i / 16==14)=true:=by simp [h4]
     rw[W,u,D];simp only[ab7,aab,J,k2];have hv:Utf8.valid ((bAt s i % 16*4096+bAt s (i+1) % 64*64+bAt s (i+2) % 64:Nat):Int)=true:=by
      have:=O.2.2.2;have b0:=aB s i;simp only[Utf8.valid,aa4,gk,xo];omega
     have z:(decide (2048<=bAt s i % 16*4096+bAt s (i+1) % 64*64+bAt s (i+2) % 64)&&Utf8.valid ((bAt s i % 16*4096+bAt s (i+1) % 64*64+bAt s (i+2) % 64:Nat):Int))=true:=by rw[hv];simp [O.2.2.1]
     rw[cA (by simpa using z)];cases h;rfl
    .cases h
   .rename_i h4;have W:(bAt s i / 16==14)=false:=by simp [h4]
    rw[W];simp only[abi,bF];split at h
    .rename_i h6;split at h
     .rename_i I;obtain⟨J,u⟩:=E 1 I.1;obtain⟨k2,D⟩:=E 2 I.2.1;obtain⟨k3,a1⟩:=E 3 I.2.2.1;have e6:(bAt s i / 8==30)=true:=by simp [h6]
      rw[e6,u,D,a1];simp only[ab7,aab,J,k2,k3];have hv:Utf8.valid ((bAt s i % 8*262144+bAt s (i+1) % 64*4096+bAt s (i+2) % 64*64+bAt s (i+3) % 64:Nat):Int)=true:=by
       have:=I.2.2.2;simp only[Utf8.valid,aa4,gk,xo];omega
      have z:(decide (65536<=bAt s i % 8*262144+bAt s (i+1) % 64*4096+bAt s (i+2) % 64*64+bAt s (i+3) % 64)&&Utf8.valid ((bAt s i % 8*262144+bAt s (i+1) % 64*4096+bAt s (i+2) % 64*64+bAt s (i+3) % 64:Nat):Int))=true:=by rw[hv];simp [I.2.2.2.1]
      rw[cA (by simpa using z)];cases h;rfl
     .cases h
    .cases h
def DJ:∀b:Fin 256,(Go.bits .and .u8 (b.val:Int) 128=0↔b.val<128)/\(Go.bits .and .u8 (b.val:Int) 224=192↔b.val / 32=6)/\(Go.bits .and .u8 (b.val:Int) 240=224↔b.val / 16=14)/\(Go.bits .and .u8 (b.val:Int) 248=240↔b.val / 8=30):=by decide
def DK:∀b:Fin 256,Go.bits .andNot .u8 (b.val:Int) 128=(b.val % 128:Nat)/\Go.bits .andNot .u8 (b.val:Int) 224=(b.val % 32:Nat)/\Go.bits .andNot .u8 (b.val:Int) 240=(b.val % 16:Nat)/\Go.bits .andNot .u8 (b.val:Int) 248=(b.val % 8:Nat):=by decide
def DI:∀b:Fin 256,(Go.bits .and .u8 (b.val:Int) 192=128↔b.val / 64=2)/\Go.bits .and .u8 (b.val:Int) 63=(b.val % 64:Nat):=by decide
def eN{n:Int}(h: -2147483648<=n)(u:n<=2147483647):IntKind.wrap .i32 n=n:=by
 simp [IntKind.wrap,IntKind.min,IntKind.max,IntKind.signed,IntKind.bits];omega
def KL(a b:Nat)(E:a<16777216)(I:b<64):Go.bits .or .i32 ((a*64:Nat):Int) (b:Int)=((a*64+b:Nat):Int):=by
 have u:(BitVec.ofInt 32 ((a*64:Nat):Int))=BitVec.ofNat 32 (a*64):=adr _ _;have z:(BitVec.ofInt 32 (b:Int))=BitVec.ofNat 32 b:=adr _ _;have D:(BitVec.ofNat 32 (a*64)|||BitVec.ofNat 32 b).toNat=a*64+b:=by
  rw[BitVec.toNat_or,ac6,ac6,acw oM,acw oM];have:=Nat.two_pow_add_eq_or_of_lt (i:=6) (b:=b) oM a;have h:(2:Nat) ^ 6*a=a*64:=by rw[adf]
  rw[h]at this;omega
 show IntKind.wrap .i32 (((BitVec.ofInt 32 ((a*64:Nat):Int))|||(BitVec.ofInt 32 (b:Int))).toNat:Int)=_;rw[u,z,D];exact eN oM oM
def GF(v:Nat)(D:v<2147483648):Go.bits .or .i32 (v:Int) 0=(v:Int):=by
 have h:(BitVec.ofInt 32 (v:Int))=BitVec.ofNat 32 v:=adr _ _;have u:(BitVec.ofInt 32 (0:Int))=BitVec.ofNat 32 0:=by decide
 have z:(BitVec.ofNat 32 v|||BitVec.ofNat 32 0).toNat=v:=by
  rw[BitVec.toNat_or,ac6,ac6,acw oM];simp
 show IntKind.wrap .i32 (((BitVec.ofInt 32 (v:Int))|||(BitVec.ofInt 32 (0:Int))).toNat:Int)=_;rw[h,u,z];exact eN oM oM
def cj(s:aes)(u n k v h:Nat)(J:v<16777216):bh s u n (k+1) (v:Int) h=if V6 s (u+h)=true then bh s u n k ((v*64+bAt s (u+h) % 64:Nat):Int) (h+1) else((v:Int),h):=by
 have I:=aB s (u+h);obtain⟨c1,c2⟩:=DI ⟨bAt s (u+h),I⟩;simp only at c1 c2;rw[bh,an,c2];have D:IntKind.wrap .i32 ((v:Int)*2 ^ min (Int.toNat 6) 32)=((v*64:Nat):Int):=by
  have:(v:Int)*2 ^ min (Int.toNat 6) 32=((v*64:Nat):Int):=by
   rw[Int.natCast_mul];rfl
  rw[this];exact eN oM oM
 have E:IntKind.wrap .i32 ((bAt s (u+h) % 64:Nat):Int)=((bAt s (u+h) % 64:Nat):Int):=eN oM oM;rw[D,E,KL v _ J (Nat.mod_lt _ oM)];by_cases z:V6 s (u+h)=true
 .rw[cA z,cA];rw[L9]at z;exact⟨z.1,c1.2 z.2⟩
 .rw[bt z,bt];intro q;exact z (L9.2 ⟨q.1,c1.1 q.2⟩)
def MW(v:Nat)(z:v<2147483648):jY (v:Int) 0=((v:Int),(v:Int)):=by
 have h:IntKind.wrap .i32 ((v:Int)*2 ^ min (6*(0:Int)).toNat 32)=(v:Int):=by
  have:(v:Int)*2 ^ min (6*(0:Int)).toNat 32=(v:Int):=sM;rw[this];exact eN oM oM
 have u:IntKind.wrap .i32 (IntKind.wrap .i32 (1*2 ^ min (6*(0:Int)).toNat 32)-1)=0:=by decide
 rw[jY,h,u,GF v z]
def jF(s:aes)(u n v:Nat)(h:Int)(z:v<2147483648):sQ s u n h (v:Int) (n+1)=if(v:Int)<h\/(1114111:Int)<v\/((55296:Int)<=v/\(v:Int)<=57343) then(0,0,2) else((v:Int),((n+1:Nat):Int),0):=by
 have e:((n:Int)+1-((n+1:Nat):Int))=0:=oM;rw[sQ,e,MW v z];simp only[aab]
def dY(s:aes)(z n h:Nat)(u v:Int)(D:h≠n+1):(sQ s z n u v h).2.2≠0:=by
 rw[sQ];split
 .decide
 .split<;>(try decide)
def Gs(s:aes)(i:Nat):(Go.bits .and .u8 (A4 s i) 128=0↔bAt s i<128)/\(Go.bits .and .u8 (A4 s i) 224=192↔bAt s i / 32=6)/\(Go.bits .and .u8 (A4 s i) 240=224↔bAt s i / 16=14)/\(Go.bits .and .u8 (A4 s i) 248=240↔bAt s i / 8=30):=DJ ⟨bAt s i,aB s i⟩
def FA(s:aes)(i:Nat):Go.bits .andNot .u8 (A4 s i) 128=(bAt s i % 128:Nat)/\Go.bits .andNot .u8 (A4 s i) 224=(bAt s i % 32:Nat)/\Go.bits .andNot .u8 (A4 s i) 240=(bAt s i % 16:Nat)/\Go.bits .andNot .u8 (A4 s i) 248=(bAt s i % 8:Nat):=DK ⟨bAt s i,aB s i⟩
def FU(s:aes)(i:Nat)(hi:i<s.size):(∀c n,dec s i=some (c,n)->kU s i=((c:Int),(n:Int),0))/\(dec s i=none->(kU s i).2.2≠0):=by
 have hb:=aB s i;obtain⟨f1,f2,f3,f4⟩:=Gs s i;obtain⟨r1,r2,r3,r4⟩:=FA s i;have w:∀n:Nat,n<256->IntKind.wrap .i32 (n:Int)=(n:Int):=fun n h=>eN oM oM;have U:kU s i=Y7 s i 4 0:=by rw[kU,cA hi]
 by_cases z:bAt s i<128
 .have e:kU s i=((bAt s i:Int),1,0):=by
   rw[U,Y7,W9,cA (f1.2 z)];simp only;rw[r1,w _ oM,bh,acw z];rw[jF s i 0 _ 0 oM,bt oM];rfl
  have d:dec s i=some (bAt s i,1):=by rw[dec,cA z]
  rw[d,e];refine⟨fun c n h=>?_,fun h=>by cases h⟩;cases h;rfl
 have W:¬Go.bits .and .u8 (A4 s i) 128=0:=fun q=>z (f1.1 q);by_cases E:bAt s i / 32=6
 .have e:kU s i=sQ s i 1 128 (bh s i 1 1 ((bAt s i % 32:Nat):Int) 1).1 (bh s i 1 1 ((bAt s i % 32:Nat):Int) 1).2:=by
   rw[U,Y7,W9,bt W,Y7,W9,cA (f2.2 E)];simp only;rw[r2,w _ oM]
  have d:dec s i=if V6 s (i+1)=true/\128<=bAt s i % 32*64+bAt s (i+1) % 64 then some (bAt s i % 32*64+bAt s (i+1) % 64,2) else none:=by rw[dec,bt z,cA E]
  rw[cj _ _ _ _ _ _ oM]at e;by_cases D:V6 s (i+1)=true
  .rw[cA D,bh]at e;simp only at e;rw[jF s i 1 _ 128 oM]at e;by_cases J:128<=bAt s i % 32*64+bAt s (i+1) % 64
   .rw[bt oM]at e;rw[cA ⟨D,J⟩]at d;rw[d,e];exact⟨fun c n h=>by cases h;rfl,fun h=>by cases h⟩
   .rw[cA oM]at e;rw[bt (fun q=>J q.2)]at d;rw[d,e];exact⟨fun c n h=>(by cases h),fun _=>by decide⟩
  .rw[bt D]at e;rw[bt (fun q=>D q.1)]at d;rw[d,e];exact⟨fun c n h=>(by cases h),fun _=>dY _ _ _ _ _ _ oM⟩
 have g2:¬Go.bits .and .u8 (A4 s i) 224=192:=fun q=>E (f2.1 q);by_cases I:bAt s i / 16=14
 .have e:kU s i=sQ s i 2 2048 (bh s i 2 2 ((bAt s i % 16:Nat):Int) 1).1 (bh s i 2 2 ((bAt s i % 16:Nat):Int) 1).2:=by
   rw[U,Y7,W9,bt W,Y7,W9,bt g2,Y7,W9,cA (f3.2 I)];simp only;rw[r3,w _ oM]
  rw[cj _ _ _ _ _ _ oM]at e;by_cases D:V6 s (i+1)=true
  .rw[cA D,cj _ _ _ _ _ _ oM]at e;by_cases u:V6 s (i+2)=true
   .rw[cA u,bh]at e;simp only at e;have X:(bAt s i % 16*64+bAt s (i+1) % 64)*64+bAt s (i+1+1) % 64=bAt s i % 16*4096+bAt s (i+1) % 64*64+bAt s (i+2) % 64:=by
     show(bAt s i % 16*64+bAt s (i+1) % 64)*64+bAt s (i+2) % 64=_;omega
    rw[show i+(1+1)=i+1+1 from rfl,X,jF s i 2 _ 2048 oM]at e;by_cases J:2048<=bAt s i % 16*4096+bAt s (i+1) % 64*64+bAt s (i+2) % 64/\¬(55296<=bAt s i % 16*4096+bAt s (i+1) % 64*64+bAt s (i+2) % 64/\bAt s i % 16*4096+bAt s (i+1) % 64*64+bAt s (i+2) % 64<=57343)
    .rw[bt oM]at e;have d:dec s i=some (bAt s i % 16*4096+bAt s (i+1) % 64*64+bAt s (i+2) % 64,3):=by rw[dec,bt z,bt E,cA I,cA ⟨D,u,J.1,J.2⟩]
     rw[d,e];exact⟨fun c n h=>by cases h;rfl,fun h=>by cases h⟩
    .rw[cA oM]at e;have d:dec s i=none:=by rw[dec,bt z,bt E,cA I,bt (fun q=>J q.2.2)]
     rw[d,e];exact⟨fun c n h=>(by cases h),fun _=>by decide⟩
   .rw[bt u]at e;have d:dec s i=none:=by rw[dec,bt z,bt E,cA I,bt (fun q=>u q.2.1)]
    rw[d,e];exact⟨fun c n h=>(by cases h),fun _=>dY _ _ _ _ _ _ oM⟩
  .rw[bt D]at e;have d:dec s i=none:=by rw[dec,bt z,bt E,cA I,bt (fun q=>D q.1)]
   rw[d,e];exact⟨fun c n h=>(by cases h),fun _=>dY _ _ _ _ _ _ oM⟩
 have g3:¬Go.bits .and .u8 (A4 s i) 240=224:=fun q=>I (f3.1 q);by_cases S:bAt s i / 8=30
 .have e:kU s i=sQ s i 3 65536 (bh s i 3 3 ((bAt s i % 8:Nat):Int) 1).1 (bh s i 3 3 ((bAt s i % 8:Nat):Int) 1).2:=by
   rw[U,Y7,W9,bt W,Y7,W9,bt g2,Y7,W9,bt g3,Y7,W9,cA (f4.2 S)];simp only;rw[r4,w _ oM]
   all_goals (intro q;omega)
  rw[cj _ _ _ _ _ _ oM]at e;by_cases D:V6 s (i+1)=true
  .rw[cA D,cj _ _ _ _ _ _ oM]at e;by_cases u:V6 s (i+2)=true
   .rw[cA u,cj _ _ _ _ _ _ oM]at e;by_cases O:V6 s (i+3)=true
    .rw[cA O,bh]at e;simp only at e;have X:((bAt s i % 8*64+bAt s (i+1) % 64)*64+bAt s (i+(1+1)) % 64)*64+bAt s (i+(1+1+1)) % 64=bAt s i % 8*262144+bAt s (i+1) % 64*4096+bAt s (i+2) % 64*64+bAt s (i+3) % 64:=by
      show((bAt s i % 8*64+bAt s (i+1) % 64)*64+bAt s (i+2) % 64)*64+bAt s (i+3) % 64=_;omega
     rw[X,jF s i 3 _ 65536 oM]at e;by_cases J:65536<=bAt s i % 8*262144+bAt s (i+1) % 64*4096+bAt s (i+2) % 64*64+bAt s (i+3) % 64/\bAt s i % 8*262144+bAt s (i+1) % 64*4096+bAt s (i+2) % 64*64+bAt s (i+3) % 64<=1114111
     .rw[bt oM]at e;have d:dec s i=some (bAt s i % 8*262144+bAt s (i+1) % 64*4096+bAt s (i+2) % 64*64+bAt s (i+3) % 64,4):=by rw[dec,bt z,bt E,bt I,cA S,cA ⟨D,u,O,J.1,J.2⟩]
      rw[d,e];exact⟨fun c n h=>by cases h;rfl,fun h=>by cases h⟩
     .rw[cA oM]at e;have d:dec s i=none:=by rw[dec,bt z,bt E,bt I,cA S,bt (fun q=>J q.2.2.2)]
      rw[d,e];exact⟨fun c n h=>(by cases h),fun _=>by decide⟩
    .rw[bt O]at e;have d:dec s i=none:=by rw[dec,bt z,bt E,bt I,cA S,bt (fun q=>O q.2.2.1)]
     rw[d,e];exact⟨fun c n h=>(by cases h),fun _=>dY _ _ _ _ _ _ oM⟩
   .rw[bt u]at e;have d:dec s i=none:=by rw[dec,bt z,bt E,bt I,cA S,bt (fun q=>u q.2.1)]
    rw[d,e];exact⟨fun c n h=>(by cases h),fun _=>dY _ _ _ _ _ _ oM⟩
  .rw[bt D]at e;have d:dec s i=none:=by rw[dec,bt z,bt E,bt I,cA S,bt (fun q=>D q.1)]
   rw[d,e];exact⟨fun c n h=>(by cases h),fun _=>dY _ _ _ _ _ _ oM⟩
 have g4:¬Go.bits .and .u8 (A4 s i) 248=240:=fun q=>S (f4.1 q);have e:kU s i=(0,0,2):=by
  rw[U,Y7,W9,bt W,Y7,W9,bt g2,Y7,W9,bt g3,Y7,W9,bt g4,Y7]
  all_goals (intro q;omega)
 have d:dec s i=none:=by rw[dec,bt z,bt E,bt I,bt S]
 rw[d,e];exact⟨fun c n h=>(by cases h),fun _=>by decide⟩
def dl1{a b:Int}(h:a<b):decide (a<b)=true:=yo h
def dl0{a b:Int}(h:b<=a):decide (a<b)=false:=kA oM
def de1{a b:Int}(h:a<=b):decide (a<=b)=true:=yo h
def de0{a b:Int}(h:b<a):decide (a<=b)=false:=kA oM
def dq1{a b:Int}(h:a=b):decide (a=b)=true:=yo h
def dq0{a b:Int}(h:a<b\/b<a):decide (a=b)=false:=kA oM
def dlB:CQ (aI (aI (aI @dl0 @dl1) (aI @dq0 @dq1)) (aI @de0 @de1)):=stOf _
def aZ(H:d7)(r:Int):CL prog l7 125 [iV r] H=some (.bool (pM r),none):=by
 rw[i8 Tp rfl _ sM,pM];rcases h:decide (r=9)with _|_
 .rcases u:decide (r=10)with _|_
  .rcases z:decide (r=13)with _|_
   .exact J3 h u z trivial
   .exact J3 h u z trivial
  .exact J2 h u trivial
 .exact J1 h trivial
def yH(H:d7)(r:Int):CL prog l7 94 [iV r] H=some (.bool (kS r),none):=by
 rw[i8 ZQ rfl _ sM,kS,inSpans,Nl];rcases Hm r 32 with u|u
 .exact J3 @aZ anB dlB trivial
 have h:pM r=decide (r=32):=by
  rw[pM,dq0 oM,dq0 oM,dq0 oM];rfl
 rw[h];rcases Hm r 55296 with z|z
 .exact J3 @aZ anB dlB trivial
 rcases Hm r 57344 with D|D
 .exact J3 @aZ anB dlB trivial
 rcases Hm r 65534 with E|E
 .exact J3 @aZ anB dlB trivial
 rcases Hm r 65535 with I|I
 .exact J3 @aZ anB dlB trivial
 rcases Hm r 65536 with J|J
 .exact J3 @aZ anB dlB trivial
 rcases Hm r 1114112 with O|O
 .exact J3 @aZ anB dlB trivial
 .exact J3 @aZ anB dlB trivial
def I9(H:d7)(r:Int):CL prog l7 126 [iV r] H=some (.bool (gh r),none):=by
 revert r
 intro r;rw[i8 Nm rfl _ sM,gh,inSpans,rx];rcases Hm r 65 with k0|k0
 .exact J2 anB dlB trivial
 rcases Hm r 91 with k1|k1
 .exact J2 anB dlB trivial
 clear k0;rcases Hm r 95 with k2|k2
 .exact J2 anB dlB trivial
 clear k1;rcases Hm r 96 with k3|k3
 .exact J2 anB dlB trivial
 clear k2;rcases Hm r 97 with k4|k4
 .exact J2 anB dlB trivial
 clear k3;rcases Hm r 123 with k5|k5
 .exact J2 anB dlB trivial
 clear k4;rcases Hm r 128 with k6|k6
 .exact J2 anB dlB trivial
 clear k5;rcases Hm r 192 with k7|k7
 .exact J2 anB dlB trivial
 clear k6;rcases Hm r 215 with k8|k8
 .exact J2 anB dlB trivial
 clear k7;rcases Hm r 216 with k9|k9
 .exact J2 anB dlB trivial
 clear k8;rcases Hm r 247 with h|h
 .exact J2 anB dlB trivial
 clear k9;rcases Hm r 248 with u|u
 .exact J2 anB dlB trivial
 clear h;rcases Hm r 768 with z|z
 .exact J2 anB dlB trivial
 clear u;rcases Hm r 880 with D|D
 .exact J2 anB dlB trivial
 clear z;rcases Hm r 894 with E|E
 .exact J2 anB dlB trivial
 clear D;rcases Hm r 895 with I|I
 .exact J2 anB dlB trivial
 clear E;rcases Hm r 8192 with J|J
 .exact J2 anB dlB trivial
 clear I;rcases Hm r 8204 with O|O
 .exact J2 anB dlB trivial
 clear J;rcases Hm r 8205 with S|S
 .exact J2 anB dlB trivial
 clear O;rcases Hm r 8206 with U|U
 .exact J2 anB dlB trivial
 clear S;rcases Hm r 8304 with W|W
 .exact J2 anB dlB trivial
 clear U;rcases Hm r 8592 with X|X
 .exact J2 anB dlB trivial
 clear W;rcases Hm r 11264 with a1|a1
 .exact J2 anB dlB trivial
 clear X;rcases Hm r 12272 with a2|a2
 .exact J2 anB dlB trivial
 clear a1;rcases Hm r 12289 with a3|a3
 .exact J2 anB dlB trivial
 clear a2;rcases Hm r 55296 with a4|a4
 .exact J2 anB dlB trivial
 clear a3;rcases Hm r 63744 with a5|a5
 .exact J2 anB dlB trivial
 clear a4;rcases Hm r 64976 with a6|a6
 .exact J2 anB dlB trivial
 clear a5;rcases Hm r 65008 with a7|a7
 .exact J2 anB dlB trivial
 clear a6;rcases Hm r 65534 with a8|a8
 .exact J2 anB dlB trivial
 clear a7;rcases Hm r 65536 with a9|a9
 .exact J2 anB dlB trivial
 clear a8;rcases Hm r 983040 with b0|b0
 .exact J2 anB dlB trivial
 clear a9;exact J2 anB dlB trivial
def yI(H:d7)(r:Int):CL prog l7 127 [iV r] H=some (.bool (jN r),none):=by
 rw[i8 Tq rfl _ sM,jN,inSpans,ug];rcases h:gh r with _|_
 .skip
  rcases Hm r 45 with D|D
  .exact J4 @I9 h anB dlB trivial
  rcases Hm r 46 with E|E
  .exact J4 @I9 h anB dlB trivial
  clear D;rcases Hm r 47 with I|I
  .exact J4 @I9 h anB dlB trivial
  clear E;rcases Hm r 48 with J|J
  .exact J4 @I9 h anB dlB trivial
  clear I;rcases Hm r 58 with O|O
  .exact J4 @I9 h anB dlB trivial
  clear J;rcases Hm r 183 with S|S
  .exact J4 @I9 h anB dlB trivial
  clear O;rcases Hm r 184 with U|U
  .exact J4 @I9 h anB dlB trivial
  clear S;rcases Hm r 768 with W|W
  .exact J4 @I9 h anB dlB trivial
  clear U;rcases Hm r 880 with X|X
  .exact J4 @I9 h anB dlB trivial
  clear W;rcases Hm r 8255 with k9|k9
  .exact J4 @I9 h anB dlB trivial
  clear X;rcases Hm r 8256 with u|u
  .exact J4 @I9 h anB dlB trivial
  clear k9;rcases Hm r 8257 with z|z
  .exact J4 @I9 h anB dlB trivial
  clear u;exact J4 @I9 h anB dlB trivial
 .exact J2 @I9 h trivial
def oK(s:aes)(i n:Nat):Int:=
 if n=2 then(A4 s i-192)*64+(A4 s (i+1)-128)
 else if n=3 then((A4 s i-224)*64+(A4 s (i+1)-128))*64+(A4 s (i+2)-128)
 else(((A4 s i-240)*64+(A4 s (i+1)-128))*64+(A4 s (i+2)-128))*64+(A4 s (i+3)-128)
def R5(s:aes)(i:Nat):0<=A4 s i/\A4 s i<=255:=by rw[an];have:=aB s i;omega
def Bk(s:aes)(i n:Nat): -100000000<=oK s i n/\oK s i n<=100000000:=by
 have h:=R5 s i;have u:=R5 s (i+1);have z:=R5 s (i+2);have D:=R5 s (i+3);unfold oK;split
 .omega
 .split<;>omega
def mT(H:d7)(s:aes)(i n:Nat)(E:2<=n)(I:n<=4)(J:i+n<=s.size)(O:s.size<=2000000):CL prog l7 148 [.string s,iV i,iV n] H=some (.int .i64 (oK s i n),none):=by
 have q0:=R5 s i;have S:=R5 s (i+1);have U:=R5 s (i+2);have W:=R5 s (i+3);have u:((i:Int)+1).toNat=i+1:=oM;have z:((i:Int)+2).toNat=i+2:=oM;have D:((i:Int)+3).toNat=i+3:=oM;have h:(i:Int)+0=i:=oM;rw[i8 TE rfl _ sM];refine J1 @wrap_small ?_;rw[Q9];refine J3 @wrap_small h dlB ?_;obtain rfl|rfl|rfl:n=2\/n=3\/n=4:=oM
 .refine J7 @wrap_small h u z D @abT dlB ?_;rw[Q9];refine J7 @wrap_small h u z D @abT dlB ?_;rw[Q9];refine J7 @wrap_small h u z D @abT dlB ?_;rw[oK,cA rfl]
 .refine J7 @wrap_small h u z D @abT dlB ?_;rw[Q9];refine J7 @wrap_small h u z D @abT dlB ?_;rw[Q9];refine J7 @wrap_small h u z D @abT dlB ?_;rw[Q9];refine J7 @wrap_small h u z D @abT dlB ?_;rw[oK,bt oM,cA rfl]
 .refine J7 @wrap_small h u z D @abT dlB ?_;rw[Q9];refine J7 @wrap_small h u z D @abT dlB ?_;rw[Q9];refine J7 @wrap_small h u z D @abT dlB ?_;rw[Q9];refine J7 @wrap_small h u z D @abT dlB ?_;rw[Q9];refine J7 @wrap_small h u z D @abT dlB ?_;rw[oK,bt oM,bt oM]
def pi{P:Program}(t:TypeId)(a b:Int)(h:0<=a)(u:0<b):I3 P .quo t (.int .i64 a) (.int .i64 b)=some (.int .i64 (IntKind.wrap .i64 (a / b))):=by
 simp only[I3,aab];rw[bt oM,adC h]
def FQ{P:Program}(t:TypeId)(a b:Int)(h:0<=a)(u:0<b):I3 P .rem t (.int .i64 a) (.int .i64 b)=some (.int .i64 (a % b)):=by
 simp only[I3,aab];rw[bt oM,adD h]
def Bz{n:Int}(h:0<=n)(u:n<=255):IntKind.wrap .u8 n=n:=by
 simp [IntKind.wrap,IntKind.min,IntKind.max,IntKind.signed,IntKind.bits];omega
def u8V(n:Int):aet:= .int .u8 n
def P3(r:Int):List Int:=
 if r<0\/1114111<r\/(55296<=r/\r<=57343) then []
 else if r<128 then [r]
 else if r<2048 then [192+r / 64,128+r % 64]
 else if r<65536 then [224+r / 4096,128+r / 64 % 64,128+r % 64]
 else [240+r / 262144,128+r / 4096 % 64,128+r / 64 % 64,128+r % 64]
def CU(H:d7)(r:Int):Ret (CL prog l7 149 [iV r] H) H fun w D=>dH D H.n 1 w (P3 r).length ((P3 r).map u8V)/\d9 H.n H D:=by
 have nil:∀l,l=[]->dH H H.n 1 (nS) l.length (l.map u8V):=fun l h=>by rw[h];exact .inl ⟨rfl,rfl,rfl⟩
 have z:∀cs:LV,cs.length=cs.length->∀l:List Int,l.map u8V=cs->Ret (some (Value.slice (sP H.n) cs.length cs.length,some ⟨(d7.push ⟨H.bs,H.n⟩ (bC cs 1)).bs,min H.low H.n⟩)) H fun w D=>dH D H.n 1 w l.length (l.map u8V)/\d9 H.n H D:=by
  intro cs _ l J;have I:l.length=cs.length:=by rw[<-J,aa7]
  refine⟨_,_,_,rfl,rfl,.inr ⟨H.n,cs.length,by rw[I],?_,lR,by rw[J,I];omega⟩,(d9.first H _).ret lR⟩;rw[J];exact j7
 rw[i8 Zc rfl _ sM];by_cases u:r<0\/1114111<r\/(55296<=r/\r<=57343)
 .have hp:P3 r=[]:=by rw[P3,cA u]
  have E:Ret (some (nS,(none:Option d7))) H fun w D=>dH D H.n 1 w (P3 r).length ((P3 r).map u8V)/\d9 H.n H D:=⟨_,none,H,rfl,rfl,nil _ hp,d9.refl _ _⟩
  rcases Hm r 0 with S|S
  .refine J1 dlB ?_;exact E
  rcases Hm 1114111 r with X|X
  .refine J1 dlB ?_;exact E
  .have h3:55296<=r/\r<=57343:=oM;refine J1 dlB ?_;exact E
 .have S:0<=r/\r<=1114111:=oM;rcases Hm r 128 with U|U
  .refine J2 @Bz dlB ?_;exact z _ rfl (P3 r) (by rw[P3,bt u,cA U])
  rcases Hm r 2048 with W|W
  .refine J5 @Bz @wrap_small @pi @FQ dlB ?_;exact z _ rfl (P3 r) (by rw[P3,bt u,bt oM,cA W])
  rcases Hm r 65536 with O|O
  .rcases Hm r 55296 with k4|k4
   .refine J5 @Bz @wrap_small @pi @FQ dlB ?_;exact z _ rfl (P3 r) (by rw[P3,bt u,bt oM,bt oM,cA O])
   .have k5:57343<r:=oM;refine J5 @Bz @wrap_small @pi @FQ dlB ?_;exact z _ rfl (P3 r) (by rw[P3,bt u,bt oM,bt oM,cA O])
  .refine J5 @Bz @wrap_small @pi @FQ dlB ?_;exact z _ rfl (P3 r) (by rw[P3,bt u,bt oM,bt oM,bt oM])
def iB(s:aes):Nat->List Int->Bool
 |_,[]=>true
 |k,b::r=>if A4 s k=b then iB s (k+1) r else false
def Bj(s:aes)(i:Nat)(b:List Int):Bool:= !decide (b=[])&&decide (i+b.length<=s.size)&&iB s i b
def DC(H0:d7)(lo:Nat)(s:aes)(i:Nat)(l:List Int)(a:Option Addr)(c:Nat)(hv:dH H0 lo 1 (.slice a l.length c) l.length (l.map u8V))(hs:i+l.length<=s.size)(hz:s.size<=2000000)(r:Bool):
  ∀k e H2,(∃j:Nat,k=l.length-j/\j<=l.length/\e.g 0= .string s/\e.g 1=iV i/\e.g 2= .slice a l.length c/\e.g 7=iV j/\H2=H0/\iB s (i+j) (l.drop j)=r)->
  u7 (LE prog l7 (.loop XH) e H2) (fun o e H2=>H2=H0/\((o= .exit 0/\r=true)\/(o= .ret/\e.g 6= .bool false/\r=false))):=by
 refine i5 _ _ ?_;rintro k e H2 ⟨j,hk,hj,I,J,D,O,hH,h⟩;subst hH;rcases b:decide ((j:Int)<l.length)with _|_
 .have S:=dF b;have:l.drop j=[]:=dN oM;rw[this,iB]at h;refine J3 D O b ?_;exact i6 ⟨rfl,.inl ⟨rfl,h.symm⟩⟩
 .have S:=dT b;rcases hv with⟨_,h0,_⟩|⟨nb,X,h1,W,_,_⟩
  .omega
  obtain⟨rfl,_⟩:a=some ⟨nb,0,none⟩/\c=X:=by simpa using h1
  obtain⟨x,hx,hd⟩:=C7 (l:=l) (i:=j) oM;rw[hd,iB]at h;have nt:(j:Int).toNat=j:=tN j;have z:((i:Int)+j).toNat=i+j:=oM;have U:(l.map u8V)[j]?=some (.int .u8 x):=by rw[aaS,hx];rfl
  rcases E:decide (A4 s (i+j)=x)with _|_
  .have u:=dF E;rw[bt u]at h;refine J11 I J D O b W @wrap_small z @aaK U E ?_;exact w9 ⟨rfl,.inr ⟨rfl,rfl,h.symm⟩⟩
  .have u:=dT E;rw[cA u]at h;refine J11 I J D O b W @wrap_small z @aaK U E ?_;exact d8 (k-1) oM ⟨j+1,oM,oM,I,J,D,rfl,rfl,h⟩
def rg(H:d7)(lo:Nat)(s:aes)(i:Nat)(l:List Int)(v:aet)(O:dH H lo 1 v l.length (l.map u8V))(W:i<=2000000)(X:l.length<=2000000)(U:s.size<=2000000):CL prog l7 150 [.string s,iV i,v] H=some (.bool (Bj s i l),none):=by
 obtain⟨a,c,rfl⟩:=O.slice;have e0:decide ((l.length:Int)=0)=decide (l=[]):=aaR.2 (by rw[<-aag];omega);have I:decide ((s.size:Int)<(i:Int)+l.length)= !decide (i+l.length<=s.size):=by
  rw[<-decide_not];exact aaR.2 oM
 rw[i8 WY rfl _ sM,Bj];rcases h:decide (l=[])with _|_
 .rcases u:decide (i+l.length<=s.size)with _|_
  .exact J5 e0 I h u @wrap_small trivial
  .refine J5 e0 I h u @wrap_small ?_;refine j5 (F:=fun z=>t6 _ _ _ (u6 (inBlock 0 z) _)=_) (DC ⟨H.bs,H.n⟩ lo s i l a c (O.mono lR (fun _ _=>rfl)) (dT u) U (iB s i l) l.length _ _ ⟨0,rfl,oM,rfl,rfl,rfl,rfl,rfl,rfl⟩) ?_;rintro o e' H' ⟨J,⟨D,E⟩|⟨D,S,E⟩⟩
   .exact J3 D E J trivial
   .exact J4 D S E J trivial
 .exact J2 e0 h trivial
def qQ(b:UInt8):(⟨#[b]⟩:aes).size=1:=rfl
def Om(H0:d7)(s u:aes)(D n h:Nat)(ht:h<=4)(r:Unit):∀k e H2,(∃lo z:aes,k=h-lo.size/\lo.size<=h/\z.size=lo.size/\e.g 0= .string s/\e.g 1=iV D/\e.g 5=iV n/\e.g 6=iV h/\e.g 7= .string u/\e.g 8= .string lo/\e.g 9= .string z/\H2=H0)->
  u7 (LE prog l7 (.loop XI) e H2) (fun o e H2=>o= .exit 2/\H2=H0/\e.g 0= .string s/\e.g 1=iV D/\e.g 5=iV n/\e.g 6=iV h/\e.g 7= .string u/\∃lo z:aes,lo.size=h/\z.size=h/\e.g 8= .string lo/\e.g 9= .string z):=by
 refine i5 _ _ ?_;rintro k e H2 ⟨lo,z,hk,hl,hh,S,U,W,E,X,I,f9,hH⟩;rcases b:decide ((lo.size:Int)<h)with _|_
 .have J:=dF b;refine J3 E I b ?_;exact i6 ⟨rfl,hH,S,U,W,E,X,lo,z,oM,oM,I,f9⟩
 .have J:=dT b;have O:=qQ 128;have z2:=qQ 191;refine J5 E I f9 b @dq ?_;exact d8 (k-1) oM ⟨lo++⟨#[128]⟩,z++⟨#[191]⟩,by rw[abk,O];omega,by rw[abk,O];omega,by rw[abk,abk,O,z2];omega,S,U,W,E,X,rfl,rfl,hH⟩
def On(H0:d7)(s O:aes)(h n u:Nat)(va vb:Int)(hs:h+n=s.size)(hz:s.size<=1048576):∀k e H2,(∃(i:Nat)(t:Bool),k=n-i/\1<=i/\i<=n/\e.g 0= .string s/\e.g 1=iV h/\e.g 5=iV n/\e.g 6=iV u/\e.g 7= .string O/\e.g 10=iV va/\e.g 11=iV vb/\e.g 12= .bool t/\e.g 13=iV i/\H2=H0)->
  u7 (LE prog l7 (.loop XJ) e H2) (fun o e H2=>o= .exit 4/\H2=H0/\e.g 0= .string s/\e.g 1=iV h/\e.g 5=iV n/\e.g 6=iV u/\e.g 7= .string O/\e.g 10=iV va/\e.g 11=iV vb/\∃t:Bool,e.g 12= .bool t):=by
 refine i5 _ _ ?_;rintro k e H2 ⟨i,t,hk,a2,hi,S,U,J,W,X,z,D,E,I,hH⟩;rcases b:decide ((i:Int)<n)with _|_
 .refine J3 J I b ?_;exact i6 ⟨rfl,hH,S,U,J,W,X,z,D,t,E⟩
 .have a1:=dT b;have nt:((h:Int)+i).toNat=h+i:=oM;cases t with
  |false=>
   refine J8 S U J E I b @wrap_small nt ?_;exact d8 (k-1) oM ⟨i+1,_,oM,oM,oM,S,U,J,W,X,z,D,rfl,rfl,hH⟩
  |true=>
   rcases b2:decide ((128:Int)<=A4 s (h+i))with _|_
   .refine J9 S U J E I b @wrap_small nt b2 ?_;exact d8 (k-1) oM ⟨i+1,_,oM,oM,oM,S,U,J,W,X,z,D,rfl,rfl,hH⟩
   .refine J9 S U J E I b @wrap_small nt b2 ?_;exact d8 (k-1) oM ⟨i+1,_,oM,oM,oM,S,U,J,W,X,z,D,rfl,rfl,hH⟩
def qJ:∀l:List Int,((l.map u8V).mapM eu)=some (l.map fun n=>UInt8.ofNat n.toNat)
 |[]=>rfl
 |n::l=>by
  rw[aaQ,ab1,qJ l];rfl
def DW(H:d7)(lo:Nat)(l:List Int)(a:Option Addr)(c:Nat)(h:dH H lo 1 (.slice a l.length c) l.length (l.map u8V)):∃z:aes,z.size=l.length/\aU prog H 177 9 (.slice a l.length c)=some (.string z,none):=by
 obtain⟨a',u,e,D⟩:=h.cells oM;obtain⟨rfl,rfl⟩:a=a'/\c=u:=by simpa using e
 refine⟨⟨(l.map fun n=>UInt8.ofNat n.toNat).toArray⟩,by simp [ByteArray.size],?_⟩;simp only[aU,Ld,ty9,ty5,D,aas,qJ]
def pR(H:d7)(z:aes):aU prog H 9 177 (.string z)=some (sL H.n z.size (z.size+1),some (H.push (bC (z.data.toList.map U2) 1))):=by
 simp only[aU,Ld,ty9,ty5]
def GM(z:aes):z.data.toList.map U2=(z.data.toList.map fun b=>(b.toNat:Int)).map u8V:=by
 rw[acQ];rfl
def vT{P:Program}(t:TypeId)(a b:Int)(h:b≠0):I3 P .quo t (.int .i64 a) (.int .i64 b)=some (.int .i64 (IntKind.wrap .i64 (a.tdiv b))):=by
 simp only[I3,aab];rw[bt h]
def Oo(H:d7)(s u:aes)(I n D:Nat)(va vb:Int)(hf:u.size<=1048576):∀k e H2,(∃i:Nat,k=64-i/\i<=64/\e.g 0= .string s/\e.g 1=iV I/\e.g 5=iV n/\e.g 6=iV D/\e.g 7= .string u/\e.g 10=iV va/\e.g 11=iV vb/\e.g 15=iV i/\d9 H.n H H2/\H.n<=H2.low)->
  u7 (LE prog l7 (.loop UP) e H2) (fun o e H2=>d9 H.n H H2/\H.n<=H2.low/\((o= .exit 6/\e.g 0= .string s/\e.g 1=iV I/\e.g 5=iV n/\e.g 6=iV D)\/(o= .ret/\e.g 4= .bool true))):=by
 refine i5 _ _ ?_;rintro k e H2 ⟨i,hk,hi,f0,f1,f5,f6,f7,O,S,J,hS,hl⟩;rcases b:decide ((i:Int)<64)with _|_
 .refine J2 J b ?_;exact i6 ⟨hS,hl,.inl ⟨rfl,f0,f1,f5,f6⟩⟩
 have b6:=dT b;have a8:=hS.n;have b1:∀(r:Int),∃w h E,CL prog l7 149 [iV r] H2=dw w h/\h.getD H2=E/\dH E H2.n 1 w (P3 r).length ((P3 r).map u8V)/\d9 H2.n H2 E:=fun r=>by
  obtain⟨w,h,E,h1,h2,h3,h4⟩:=CU H2 r;exact⟨w,h,E,h1,h2,h3,h4⟩
 have body:∀(r:Int)(e':Env),e'.g 16=iV r->e'.g 0= .string s->e'.g 1=iV I->e'.g 5=iV n->e'.g 6=iV D->e'.g 7= .string u->e'.g 10=iV va->e'.g 11=iV vb->e'.g 15=iV i->
   u7 (u6 (inBlock 7 (LE prog l7 RT e' H2)) (LE prog l7 XL)) (bD k (fun k e H2=>∃i:Nat,k=64-i/\i<=64/\e.g 0= .string s/\e.g 1=iV I/\e.g 5=iV n/\e.g 6=iV D/\e.g 7= .string u/\e.g 10=iV va/\e.g 11=iV vb/\e.g 15=iV i/\d9 H.n H H2/\H.n<=H2.low) (fun o e H2=>d9 H.n H H2/\H.n<=H2.low/\((o= .exit 6/\e.g 0= .string s/\e.g 1=iV I/\e.g 5=iV n/\e.g 6=iV D)\/(o= .ret/\e.g 4= .bool true)))):=by
  intro r e' a1 g0 g1 g5 g6 g7 a5 a6 X;obtain⟨w,h,E,hc,hh,hO,U⟩:=b1 r;obtain⟨a,c,rfl⟩:=hO.slice;have a2:d9 H.n H E:=hS.trans (U.wk a8);have b5:=a2.n;have a3:H.n<=E.low:=U.lowAll _ a8 hl;rcases b2:decide (((P3 r).length:Int)=D)with _|_
  .rw[RT];refine J10 g0 g1 g6 g7 X a1 hc hh b2 @wrap_small ?_;exact d8 (k-1) oM ⟨i+1,oM,oM,g0,g1,g5,g6,g7,a5,a6,rfl,a2,a3⟩
  .obtain⟨z,hz,a9⟩:=DW E H2.n (P3 r) a c hO;have b7:(P3 r).length<=4:=by unfold P3;split<;>(try split)<;>(try split)<;>(try split)<;>simp
   have zx:=qQ 120;have b0:(u.data.toList.map fun b=>(b.toNat:Int)).length=u.size:=by rw[aa7,ab3];rfl
   have b4:=rg (E.push (bC (u.data.toList.map U2) 1)) E.n (z++⟨#[120]⟩) 0 (u.data.toList.map fun b=>(b.toNat:Int)) (sL E.n u.size (u.size+1)) (.inr ⟨E.n,u.size+1,by rw[b0],by rw[<-GM];exact j7,lR,by rw[aa7,aaK]⟩) oM (by rw[b0];omega) (by rw[abk];omega);have W:CL prog l7 150 [.string (z++⟨#[120]⟩),iV 0,sL E.n u.size (u.size+1)] (E.push (bC (u.data.toList.map U2) 1))=_:=b4;have a7:d9 H.n H (E.push (bC (u.data.toList.map U2) 1)):=a2.trans (d9.push b5);rw[RT];rcases b3:Bj (z++⟨#[120]⟩) 0 (u.data.toList.map fun b=>(b.toNat:Int))with _|_
   .refine J15 g0 g1 g6 g7 X a1 hc hh b2 @wrap_small a9 @dq @pR W b3 ?_;exact d8 (k-1) oM ⟨i+1,oM,oM,g0,g1,g5,g6,g7,a5,a6,rfl,a7,a3⟩
   .refine J15 g0 g1 g6 g7 X a1 hc hh b2 @wrap_small a9 @dq @pR W b3 ?_;exact w9 ⟨a7,a3,.inr ⟨rfl,rfl⟩⟩
 rcases a4:decide ((i:Int)=63)with _|_
 .refine J11 f0 f1 f5 f6 f7 O S J b @vT a4 ?_;exact body _ _ rfl f0 f1 f5 f6 f7 O S J
 .refine J11 f0 f1 f5 f6 f7 O S J b @vT a4 ?_;exact body _ _ rfl f0 f1 f5 f6 f7 O S J
def yU{P:Program}(H:d7)(t:TypeId)(s:aes)(i:Nat)(u:P.underlying t=some .string)(h:i<=s.size):L5 P H t (.string s) (some (.int .i64 i)) none none=some (.string (s.extract i s.size)):=by
 simp only[L5,u,bnd,ac7,aab,aay];rw[cA ⟨h,lR⟩]
def GZ(H:d7)(s:aes)(at_ n:Nat)(k:Nat)(e:Env)(H2:d7):Prop:=
 ∃total:Nat,k=5-total/\n+1<=total/\total<=5/\e.g 0= .string s/\e.g 1=iV at_/\e.g 5=iV n/\e.g 6=iV total/\d9 H.n H H2/\H.n<=H2.low
def Hg(H:d7)(o:Out)(e:Env)(H2:d7):Prop:=H.n<=H2.low/\(o= .exit 0\/(o= .ret/\e.g 4= .bool true))
def xn{H:d7}{s:aes}{u n k h:Nat}(W:k=5-h)(S:n+1<=h)(U:h<=4){e:Env}(z:e.g 0= .string s)(D:e.g 1=iV u)(E:e.g 5=iV n)(I:e.g 6=iV h)(J:d9 H.n H H2)(O:H.n<=H2.low):
  u7 (LE prog l7 EH e H2) (bD k (GZ H s u n) (Hg H)):=by
 refine J2 I @wrap_small ?_;exact d8 (k-1) oM ⟨h+1,oM,oM,oM,z,D,E,rfl,J,O⟩
def Eb{H:d7}{s:aes}{I n k W:Nat}{a1:aes}{t:Bool}(hs:I+n=s.size)(a7:1<=n)(hf:a1.size<=1048576)(hz:s.size<=1048576)(hk:k=5-W)(h1:n+1<=W)(h4:W<=4){e:Env}(u:e.g 0= .string s)(D:e.g 1=iV I)(E:e.g 5=iV n)(U:e.g 6=iV W)
  (f7:e.g 7= .string a1) (J:e.g 10=iV va) (O:e.g 11=iV vb) (S:e.g 12= .bool t) (X:d9 H.n H H2) (hl:H.n<=H2.low):
  u7 (u6 (inBlock 1 (LE prog l7 WD e H2)) (LE prog l7 EH)) (bD k (GZ H s I n) (Hg H)):=by
 have nt:(I:Int).toNat=I:=tN I;have h:∀e':Env,e'.g 0= .string s->e'.g 1=iV I->e'.g 5=iV n->e'.g 6=iV W->e'.g 7= .string a1->e'.g 10=iV va->e'.g 11=iV vb->e'.g 15=iV 0->
   u7 (u6 (inBlock 1 (inBlock 6 (LE prog l7 (.loop UP) e' H2))) (LE prog l7 EH)) (bD k (GZ H s I n) (Hg H)):=by
  intro e' g0 g1 g5 g6 g7 a3 a4 a5;refine eh (F:=fun z=>u6 (inBlock 1 (inBlock 6 z)) _) (Oo H s a1 I n W va vb hf 64 e' H2 ⟨0,rfl,oM,g0,g1,g5,g6,g7,a3,a4,a5,X,hl⟩) ?_;rintro o e3 H3 ⟨a6,a2,⟨ho,q0,q1,q5,q6⟩|⟨ho,q4⟩⟩
  .simp only[ho,gF,aab,iU,fo];exact xn hk h1 h4 q0 q1 q5 q6 a6 a2
  .simp only[ho,nI,rL,fT];exact w9 ⟨a2,.inr ⟨rfl,q4⟩⟩
 have skip:∀e':Env,e'.g 0= .string s->e'.g 1=iV I->e'.g 5=iV n->e'.g 6=iV W->u7 (LE prog l7 EH e' H2) (bD k (GZ H s I n) (Hg H)):=fun e' g0 g1 g5 g6=>xn hk h1 h4 g0 g1 g5 g6 X hl;obtain rfl|rfl|rfl:W=2\/W=3\/W=4:=oM
 .cases t
  .skip
   rcases Hm (A4 s I) 192 with k0|k0
   .refine J8 u D E U S nt @wrap_small dlB ?_
    first|exact d8 (k-1) oM ⟨3,oM,oM,oM,u,D,E,rfl,X,hl⟩|exact h _ u D E U f7 J O rfl
   rcases Hm (A4 s I) 224 with k1|k1
   .refine J8 u D E U S nt @wrap_small dlB ?_
    first|exact d8 (k-1) oM ⟨3,oM,oM,oM,u,D,E,rfl,X,hl⟩|exact h _ u D E U f7 J O rfl
   rcases Hm (A4 s I) 240 with k2|k2
   .refine J8 u D E U S nt @wrap_small dlB ?_
    first|exact d8 (k-1) oM ⟨3,oM,oM,oM,u,D,E,rfl,X,hl⟩|exact h _ u D E U f7 J O rfl
   rcases Hm (A4 s I) 248 with k3|k3
   .refine J8 u D E U S nt @wrap_small dlB ?_
    first|exact d8 (k-1) oM ⟨3,oM,oM,oM,u,D,E,rfl,X,hl⟩|exact h _ u D E U f7 J O rfl
   refine J8 u D E U S nt @wrap_small dlB ?_
   first|exact d8 (k-1) oM ⟨3,oM,oM,oM,u,D,E,rfl,X,hl⟩|exact h _ u D E U f7 J O rfl
  .skip
   rcases Hm (A4 s I) 192 with k0|k0
   .refine J8 u D E U S nt @wrap_small dlB ?_
    first|exact d8 (k-1) oM ⟨3,oM,oM,oM,u,D,E,rfl,X,hl⟩|exact h _ u D E U f7 J O rfl
   rcases Hm (A4 s I) 224 with k1|k1
   .refine J8 u D E U S nt @wrap_small dlB ?_
    first|exact d8 (k-1) oM ⟨3,oM,oM,oM,u,D,E,rfl,X,hl⟩|exact h _ u D E U f7 J O rfl
   rcases Hm (A4 s I) 240 with k2|k2
   .refine J8 u D E U S nt @wrap_small dlB ?_
    first|exact d8 (k-1) oM ⟨3,oM,oM,oM,u,D,E,rfl,X,hl⟩|exact h _ u D E U f7 J O rfl
   rcases Hm (A4 s I) 248 with k3|k3
   .refine J8 u D E U S nt @wrap_small dlB ?_
    first|exact d8 (k-1) oM ⟨3,oM,oM,oM,u,D,E,rfl,X,hl⟩|exact h _ u D E U f7 J O rfl
   refine J8 u D E U S nt @wrap_small dlB ?_
   first|exact d8 (k-1) oM ⟨3,oM,oM,oM,u,D,E,rfl,X,hl⟩|exact h _ u D E U f7 J O rfl
 .cases t
  .skip
   rcases Hm (A4 s I) 192 with k0|k0
   .refine J8 u D E U S nt @wrap_small dlB ?_
    first|exact d8 (k-1) oM ⟨4,oM,oM,oM,u,D,E,rfl,X,hl⟩|exact h _ u D E U f7 J O rfl
   rcases Hm (A4 s I) 224 with k1|k1
   .refine J8 u D E U S nt @wrap_small dlB ?_
    first|exact d8 (k-1) oM ⟨4,oM,oM,oM,u,D,E,rfl,X,hl⟩|exact h _ u D E U f7 J O rfl
   rcases Hm (A4 s I) 240 with k2|k2
   .refine J8 u D E U S nt @wrap_small dlB ?_
    first|exact d8 (k-1) oM ⟨4,oM,oM,oM,u,D,E,rfl,X,hl⟩|exact h _ u D E U f7 J O rfl
   rcases Hm (A4 s I) 248 with k3|k3
   .refine J8 u D E U S nt @wrap_small dlB ?_
    first|exact d8 (k-1) oM ⟨4,oM,oM,oM,u,D,E,rfl,X,hl⟩|exact h _ u D E U f7 J O rfl
   refine J8 u D E U S nt @wrap_small dlB ?_
   first|exact d8 (k-1) oM ⟨4,oM,oM,oM,u,D,E,rfl,X,hl⟩|exact h _ u D E U f7 J O rfl
  .skip
   rcases Hm (A4 s I) 192 with k0|k0
   .refine J8 u D E U S nt @wrap_small dlB ?_
    first|exact d8 (k-1) oM ⟨4,oM,oM,oM,u,D,E,rfl,X,hl⟩|exact h _ u D E U f7 J O rfl
   rcases Hm (A4 s I) 224 with k1|k1
   .refine J8 u D E U S nt @wrap_small dlB ?_
    first|exact d8 (k-1) oM ⟨4,oM,oM,oM,u,D,E,rfl,X,hl⟩|exact h _ u D E U f7 J O rfl
   rcases Hm (A4 s I) 240 with k2|k2
   .refine J8 u D E U S nt @wrap_small dlB ?_
    first|exact d8 (k-1) oM ⟨4,oM,oM,oM,u,D,E,rfl,X,hl⟩|exact h _ u D E U f7 J O rfl
   rcases Hm (A4 s I) 248 with k3|k3
   .refine J8 u D E U S nt @wrap_small dlB ?_
    first|exact d8 (k-1) oM ⟨4,oM,oM,oM,u,D,E,rfl,X,hl⟩|exact h _ u D E U f7 J O rfl
   refine J8 u D E U S nt @wrap_small dlB ?_
   first|exact d8 (k-1) oM ⟨4,oM,oM,oM,u,D,E,rfl,X,hl⟩|exact h _ u D E U f7 J O rfl
 .cases t
  .skip
   rcases Hm (A4 s I) 192 with k0|k0
   .refine J8 u D E U S nt @wrap_small dlB ?_
    first|exact d8 (k-1) oM ⟨5,oM,oM,oM,u,D,E,rfl,X,hl⟩|exact h _ u D E U f7 J O rfl
   rcases Hm (A4 s I) 224 with k1|k1
   .refine J8 u D E U S nt @wrap_small dlB ?_
    first|exact d8 (k-1) oM ⟨5,oM,oM,oM,u,D,E,rfl,X,hl⟩|exact h _ u D E U f7 J O rfl
   rcases Hm (A4 s I) 240 with k2|k2
   .refine J8 u D E U S nt @wrap_small dlB ?_
    first|exact d8 (k-1) oM ⟨5,oM,oM,oM,u,D,E,rfl,X,hl⟩|exact h _ u D E U f7 J O rfl
   rcases Hm (A4 s I) 248 with k3|k3
   .refine J8 u D E U S nt @wrap_small dlB ?_
    first|exact d8 (k-1) oM ⟨5,oM,oM,oM,u,D,E,rfl,X,hl⟩|exact h _ u D E U f7 J O rfl
   refine J8 u D E U S nt @wrap_small dlB ?_
   first|exact d8 (k-1) oM ⟨5,oM,oM,oM,u,D,E,rfl,X,hl⟩|exact h _ u D E U f7 J O rfl
  .skip
   rcases Hm (A4 s I) 192 with k0|k0
   .refine J8 u D E U S nt @wrap_small dlB ?_
    first|exact d8 (k-1) oM ⟨5,oM,oM,oM,u,D,E,rfl,X,hl⟩|exact h _ u D E U f7 J O rfl
   rcases Hm (A4 s I) 224 with k1|k1
   .refine J8 u D E U S nt @wrap_small dlB ?_
    first|exact d8 (k-1) oM ⟨5,oM,oM,oM,u,D,E,rfl,X,hl⟩|exact h _ u D E U f7 J O rfl
   rcases Hm (A4 s I) 240 with k2|k2
   .refine J8 u D E U S nt @wrap_small dlB ?_
    first|exact d8 (k-1) oM ⟨5,oM,oM,oM,u,D,E,rfl,X,hl⟩|exact h _ u D E U f7 J O rfl
   rcases Hm (A4 s I) 248 with k3|k3
   .refine J8 u D E U S nt @wrap_small dlB ?_
    first|exact d8 (k-1) oM ⟨5,oM,oM,oM,u,D,E,rfl,X,hl⟩|exact h _ u D E U f7 J O rfl
   refine J8 u D E U S nt @wrap_small dlB ?_
   first|exact d8 (k-1) oM ⟨5,oM,oM,oM,u,D,E,rfl,X,hl⟩|exact h _ u D E U f7 J O rfl
def Mt(H:d7)(s:aes)(u:Nat)(ha:u<=s.size)(hz:s.size<=1048576):∃t:Bool,CL prog l7 151 [.string s,iV u] H=some (.bool t,none):=by
 obtain⟨n,hn⟩:=eY (s.size-u);have D:(s.size:Int)-u=n:=oM;rw[i8 CB rfl _ sM];by_cases h1:n<1
 .refine J3 D @wrap_small dlB ?_;exact⟨_,rfl⟩
 by_cases h3:3<n
 .refine J3 D @wrap_small dlB ?_;exact⟨_,rfl⟩
 refine J3 D @wrap_small dlB ?_;have hx:(s.extract u s.size).size=n:=by rw[ByteArray.size_extract];omega
 have E:∀k e H2,GZ H s u n k e H2->u7 (LE prog l7 (.loop XK) e H2) (Hg H):=by
  refine i5 _ _ ?_;rintro k e H2 ⟨h,hk,a1,b0,f0,f1,f5,O,hS,U⟩;rcases b:decide ((h:Int)<=4)with _|_
  .refine J2 O b ?_;exact i6 ⟨U,.inl rfl⟩
  have a7:=dT b;have X:=yU (P:=prog) H2 9 s u ty9.2.2.2.2.2.2 ha;refine J5 f0 f1 O b X ?_;refine eh (F:=fun z=>u6 (inBlock 1 (u6 (inBlock 2 z) _)) _) (Om H2 s (s.extract u s.size) u n h oM () (h-n) _ _ ⟨s.extract u s.size,s.extract u s.size,by rw[hx],oM,rfl,f0,f1,f5,O,rfl,rfl,rfl,rfl⟩) ?_;rintro o e1 H3 ⟨I,hH,g0,g1,g5,g6,g7,lo,J,a9,a8,g8,g9⟩;have v1:=mT H2 lo 0 h oM oM oM oM;have v2:=mT H2 J 0 h oM oM oM oM;have a5:CL prog l7 148 [.string lo,iV 0,iV h] H2=some (.int .i64 (oK lo 0 h),none):=v1;have a6:CL prog l7 148 [.string J,iV 0,iV h] H2=some (.int .i64 (oK J 0 h),none):=v2;refine J11 I hH g0 g1 g5 g6 g7 g8 g9 a5 a6 ?_;refine eh (F:=fun z=>u6 (inBlock 1 (u6 (inBlock 4 z) _)) _) (On H2 s (s.extract u s.size) u n h (oK lo 0 h) (oK J 0 h) oM hz (n-1) _ _ ⟨1,true,rfl,oM,oM,g0,g1,g5,g6,g7,rfl,rfl,rfl,rfl,rfl⟩) ?_;rintro o e2 H4 ⟨W,S,q0,q1,q5,q6,q7,a2,a3,t,a4⟩;simp only[W,S,gF,aab,fo];exact Eb oM oM oM hz hk a1 oM q0 q1 q5 q6 q7 a2 a3 a4 hS U
 refine j5 (F:=fun z=>∃t:Bool,t6 _ _ _ (u6 (inBlock 0 z) _)=some (.bool t,none)) (E (5-(n+1)) _ _ ⟨n+1,rfl,oM,oM,rfl,rfl,rfl,rfl,d9.start H,lR⟩) ?_;rintro o e' H' ⟨U,I|⟨I,h4⟩⟩
 .refine J1 I ?_;exact⟨_,rfl⟩
 .refine J2 I h4 ?_;exact⟨_,rfl⟩
end Go.Proofs.YtbekeboballbgaaGreatDoor.Ve
