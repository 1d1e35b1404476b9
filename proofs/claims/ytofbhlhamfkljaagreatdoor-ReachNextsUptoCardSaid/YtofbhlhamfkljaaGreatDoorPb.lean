/- A part of the claim: the evaluator and the contracts. Conditions: none here. -/
import Derived.Test.YtofbhlhamfkljaaGreatDoorPa
import Derived.LoopNIn
import Derived.OwnWalkIn
import Derived.RangeFuncCalls
import Derived.Scope
import Derived.LoopN
import Derived.RangeFuncSeq
import Derived.RangeFuncIn
import Derived.Test.YtofbhlhamfkljaaGreatDoorRows
import Derived.ChangeArms
import Derived.ChangeOld
import Derived.KernelRfl
import Derived.Test.YtofbhlhamfkljaaGreatDoorProg
import Derived.Test.YtofbhlhamfkljaaGreatDoorCards
import Derived.Test.YtofbhlhamfkljaaGreatDoorTie
import Derived.WalkKit
import Derived.ProofKit
import Derived.OpenShut
import Derived.JoinedCond
import Derived.Below
import Derived.Deep.DeepHandedRow
import Derived.Lib.LaidTab
set_option linter.unusedVariables false
set_option linter.unusedSimpArgs false
set_option linter.defProp false
set_option maxHeartbeats 0
set_option maxRecDepth 1000000
namespace Go.Proofs.YtofbhlhamfkljaaGreatDoor.Ve
open Go Go.RowKit
section
variable{P:Program}{base:Bs}{w0:World}{φ:List Loc}{S:List Blk}{w:World}{nt:Nat}{e:Env}{a:Act}
theorem bp{C:A8}(I:bP P base w0 C){ops:Array Oper}:∀{l:List Oper}{e e':Env}{H H':d8},D1 P C ops l e H=some (e',H')->Le H H':=by
 intro l;induction l with
 |nil=>intro e e' H H' h;cases h;exact Le.refl _
 |cons o l D=>
  intro e e' H H' h;simp only[D1]at h;split at h
  .cases h
  split at h
  .split at h
   .exact D h
   .rename_i v H2 z;refine Le.trans ?_ (D h);cases E:isCall o.op with
    |false=>exact kU E z
    |true=>
     obtain⟨c,f,g,first,y,_,_,_,u⟩:=Y2 E z;exact(I _ _ _ _ _ u).2.1 _ rfl
   .cases h
  .exact D h
theorem V8{C:A8}(hC:bP P base w0 C){ops:Array Oper}(a9:fw nt ops=true){Q:Exit->Act->World->Prop}:∀{l:List Oper}(hl:∀o∈l,o∈ops.toList) {φ:List Loc} {e e':Env} {H H':d8} {a:Act} {w:World},
  D1 P C ops l e H=some (e',H')->ER φ nt e a->WR base w0 φ H.bs w->hU base w0 φ H w nt a.defers e' H' (Q .normal)->wpList P ops Q l a w:=by
 intro l;induction l with
 |nil=>
  intro hl φ e e' H H' a w h hE hW hp;cases h;exact hp φ a w (Ext.refl φ) hE hW (jo H) rfl
 |cons o l ih=>
  intro hl φ e e' H H' a w h hE hW hp;obtain⟨a6,a8⟩:=Z7 a9 (hl o sM);have b8:∀o∈l,o∈ops.toList:=fun o ho=>hl o (by simp [ho]);simp only[D1]at h;split at h
  .cases h
  rename_i c0;rw[hE.wanted ops o (V6 a9) (by simpa using c0)]at h;unfold wpList;have b0:∀v,(a.put o.dst v).defers=a.defers:=fun v=>by unfold Act.put;split<;>rfl
  split at h
  .rename_i hw;rw[if_pos hw]
   left
   have D:∀(v:Value)(H2:d8)(v':Value)(w':World)(φ':List Loc),Le H H2->D1 P C ops l (I3 e o.dst v) H2=some (e',H')->Ext φ φ'->VR φ' v v'->WR base w0 φ' H2.bs w'->Fr φ H.bs H2.low w w'->
     wpList P ops Q l (a.put o.dst v') w':=by
    intro v H2 v' w' φ' b6 hr hx hv X a1;refine ih b8 hr ((hE.mono hx).put a8 hv) X ?_;intro φ2 a2 w2 b7 b1 b2 a4 b3;exact hp φ2 a2 w2 (hx.trans b7) b1 b2 (Fr.trans hx b6 (bp hC hr) hW.len a1 a4) (by rw[b3,b0])
   cases hc:isCall o.op with
   |false=>
    split at h
    .rename_i v y;obtain⟨v',hv,u⟩:=gT hW hE a6 hc y;unfold Oper.wp;rw[u w hW.cls,Oper.upon_value];exact D v H v' w φ (Le.refl H) h (Ext.refl φ) hv hW (jo H)
    .rename_i v H2 y;obtain⟨v',w',φ',u,hx,hv,X,a1⟩:=sD hW hE a6 hc y;unfold Oper.wp;rcases u with u|⟨u,rfl⟩
     .rw[u,Oper.upon_value];exact D v H2 v' w' φ' (kU hc y) h hx hv X a1
     .rw[u,Oper.upon_skip];exact D v H2 undef w' φ' (kU hc y) h hx hv X a1
    .cases h
   |true=>
    split at h
    .rename_i v y;obtain⟨c,f,g,first,W,ho,z,hf,J⟩:=Y2 hc y;obtain⟨a5,E,b5,I⟩:=gL hE a6 ho z hf;obtain⟨b4,_,b9,U⟩:=hC _ _ _ _ _ J;have a3:=U φ w _ I hW;unfold Oper.wp;rw[ci z (ty:=o.type) b5 b4 ho,Oper.upon_enter];simp only[Array.toArray_toList]at a3;refine a3.mono fun en w' O=>?_;obtain⟨rfl,a7⟩:=O;exact D v H v w' φ (Le.refl H) h (Ext.refl φ) (VR.na (b9 rfl)) a7.wr (fun b B l _ hB hd hl=>a7.same b B l hB hd hl)
    .rename_i v H2 y;obtain⟨c,f,g,first,W,ho,z,hf,J⟩:=Y2 hc y;obtain⟨a5,E,b5,I⟩:=gL hE a6 ho z hf;obtain⟨b4,b6,_,U⟩:=hC _ _ _ _ _ J;have a3:=U φ w _ I hW;unfold Oper.wp;rw[ci z (ty:=o.type) b5 b4 ho,Oper.upon_enter];simp only[Array.toArray_toList]at a3;refine a3.mono fun en w' O=>?_;obtain⟨v',φ',rfl,hx,hv,X,a1⟩:=O;exact D v H2 v' w' φ' (b6 H2 rfl) h hx hv X a1
    .cases h
  .rename_i hw;rw[if_neg hw];refine ih b8 h (hE.put a8 (VR.undef' φ)) hW ?_;intro φ2 a2 w2 b7 b1 b2 a4 b3;exact hp φ2 a2 w2 b7 b1 b2 a4 (by rw[b3,b0])
theorem Cls.trans{y u:World}(h:Cls base w0 φ S w y)(k:Cls base w0 φ S y u):Cls base w0 φ S w u:=
 ⟨k.wr,fun b B l p q r=>(k.same b B l p q r).trans (h.same b B l p q r)⟩
def gY(P:Program)(ops:Array Oper):List Oper->Act->(Act->Prop)->Prop
 |[],a,Q=>Q a
 |o::l,a,Q=>∃v,Yields P ops o v a/\gY P ops l (a.put o.dst v) Q
theorem fh{ops:Array Oper}{Q Q':Act->Prop}(h:∀a,Q a->Q' a):∀(l:List Oper)(a:Act),gY P ops l a Q->gY P ops l a Q'
 |[],a,hq=>h a hq
 |o::l,a,⟨v,h1,h2⟩=>⟨v,h1,fh h l _ h2⟩
theorem Iq{C:A8}{o:Oper}{H:d8}{v:Value}{r:Option d8}(U:WR base w0 φ H.bs w)(z:ER φ nt e a)(y:o.op.operands.toList.all C5=true)(I:oz o.op=true)(h:aop P C o.op e H=some (v,r)):
  ∃v',VR φ v v'/\∀D,(execOp a.eval o).run P D= .ok (.value v') D:=by
 unfold aop at h;unfold execOp;unfold oz at I;split at I<;>rename_i E<;>simp only[E]at h ⊢
 all_goals first|(cases I;done)|simp only[E,Op.operands,List.all_cons,List.all_nil,Bool.and_true,Bool.and_eq_true]at y
 .cases h;exact⟨_,z.op y,fun D=>rfl⟩
 .cases h;exact⟨_,z.op y,fun D=>rfl⟩
 .rename_i t x lo W X;obtain⟨h,_⟩:=D9 h;have u:C5 x=true/\lo.toList.all C5=true/\W.toList.all C5=true/\X.toList.all C5=true:=by
   simp only[Array.toList_append,List.all_append,Bool.and_eq_true,Option.toList_toArray,List.all_cons,List.all_nil,Bool.and_true]at y
   simpa [and_assoc] using y
  obtain⟨v',J,O⟩:=lk U h (z.op u.1) (z.opt u.2.1) (z.opt u.2.2.1) (z.opt u.2.2.2);exact⟨v',J,fun D=>by simp [O D]⟩
theorem pd{ops:Array Oper}{md:Region.Mode}{g:Nat}{Q:Exit->Act->World->Prop}{w:World}(hs:Region.noSelect ops=true)(I:∀c a w,¬Q (.panic c) a w):
  ∀(l:List Oper)(k:Nat)(u:Array Bool)(a:Act),(∀j,j<l.length->l[j]?=ops[k+j]?)->Region.lexHead md ops g l.length k u=true->
   gY P ops l a (fun E=>∀y,Region.seqB md ops g (k+l.length) y=true->wpAny P md ops Q g y E w)->wpAny P md ops Q (l.length+g) u a w
 |[],k,u,a,_,hB,h=>by
  rw[List.length_nil,Nat.zero_add];exact h u (by simpa [Region.lexHead] using hB)
 |o::l,k,u,a,hl,hB,⟨v,hy,h⟩=>by
  have J:ops[k]?=some o:=by simpa using (hl 0 sM).symm
  simp only[List.length_cons,Region.lexHead,Bool.and_eq_true]at hB;obtain⟨⟨W,O⟩,z⟩:=hB;rw[List.length_cons,show l.length+1+g=(l.length+g)+1 from oM];refine wpAny_take J hs O W (fun c a w q=>absurd q (I c _ w)) hy ?_;refine pd hs I l (k+1) _ _ (fun j X=>by have:=hl (j+1) (by simp;omega);simpa [Nat.add_assoc,Nat.add_comm 1 j] using this) z ?_;refine fh (fun E U y D=>U y ?_) l _ h;rw[List.length_cons,show k+(l.length+1)=k+1+l.length from oM];exact D
theorem pg{id:Nat}{Q:Exit->Act->World->Prop}{a:Act}{w:World}{l:List Oper}(n:Nat)(hm:P.follows .mixedOrders=true)(J:pureTailB l.toArray n=true)(X:∀c a w,¬Q (.panic c) a w)
  (h:gY P l.toArray (l.take n) a (fun a'=>wpList P l.toArray Q (l.drop n) a' {w with drawn:=w.drawn+1})):(Code.region id l.toArray true).wp P Q a w:=by
 simp only[pureTailB,Bool.and_eq_true,decide_eq_true_eq]at J;obtain⟨⟨⟨E,hn⟩,_⟩,D⟩:=J;have a1:n<l.length:=by simpa using hn
 have y:(l.take n).length=n:=by simp;omega
 have z:(l.drop n).length=l.toArray.size-n:=sM;refine wp_region_any hm ?_;have:=pd (P:=P) (md:= .any) (g:=l.toArray.size-n) (Q:=Q) (w:={w with drawn:=w.drawn+1}) E X (l.take n) 0 (Array.replicate l.toArray.size false) a (fun j U=>by
  have I:j<n:=by rw[y]at U;exact U
  simp [I]) (by rw[y];exact D) (by
  refine fh (fun a' W u O=>?_) _ _ h;have:=wpAny_of_seq (md:= .any) (Q':=Q) (l.drop n) n u a' {w with drawn:=w.drawn+1} (fun j=>by simp [List.getElem?_drop]) (by rw[z];rw[Nat.zero_add,y]at O;exact O) W
  rwa [z]at this)
 rw[y,show n+(l.toArray.size-n)=l.toArray.size from oM]at this;exact this
theorem wT{C:A8}(hC:bP P base w0 C){ops:Array Oper}(y:fw nt ops=true){H:d8}(hW:WR base w0 φ H.bs w):∀{l:List Oper}(hl:∀o∈l,o∈ops.toList) {i:Nat} {q:Bool} {e e':Env} {H':d8},
  I2 P C ops i q l e H=some (e',H')->
  (Region.lexB .any ops=true/\H'=H/\∀a,ER φ nt e a->∀Q:Act->Prop,(∀a',ER φ nt e' a'->a'.defers=a.defers->Q a')->wpQuiet P ops (Cls base w0 φ H.bs w) Q l a)\/
  (∃m e1,q=false/\zU ops (i+m)=true/\D1 P C ops (l.drop m) e1 H=some (e',H')/\
   (∀a,ER φ nt e a->(∀o∈l.take m,o.guard=none/\oz o.op=true)->∀Q:Act->Prop,(∀a1,ER φ nt e1 a1->a1.defers=a.defers->Q a1)->gY P ops (l.take m) a Q)/\
   ∀w1,Cls base w0 φ H.bs w w1->∀a,ER φ nt e a->∀Q:Act->Prop,(∀a1,ER φ nt e1 a1->a1.defers=a.defers->Q a1)->wpStill P ops w1 Q (l.take m) a):=by
 intro l;induction l with
 |nil=>
  intro hl i q e e' H' h;simp only[I2]at h;split at h
  .rename_i hB;cases h;exact .inl ⟨hB,rfl,fun a u Q I=>I a u rfl⟩
  .cases h
 |cons o l ih=>
  intro hl i q e e' H' h;obtain⟨a4,z⟩:=Z7 y (hl o sM);have b0:∀o∈l,o∈ops.toList:=fun o ho=>hl o (by simp [ho]);have c4:=h;simp only[I2]at h;split at h
  .cases h
  rename_i b5;have D:X4 ops e o=false:=by simpa using b5
  split at h
  .rename_i hw;split at h
   .rename_i v U;cases hc:isCall o.op with
    |false=>
     rw[hc,Bool.or_false]at h;rcases ih b0 h with⟨hB,hH,hq⟩|⟨m,e1,a3,hB,hr,b6,b2⟩
     .refine .inl ⟨hB,hH,fun a u Q I=>?_⟩;obtain⟨v',hv,J⟩:=gT hW u a4 hc U;unfold wpQuiet;rw[if_pos (by rw[<-u.wanted ops o (V6 y) D];exact hw)];refine⟨v',fun w1 E=>?_,hq _ (u.put z hv) Q (fun a' W X=>I a' W (by rw[X,P0]))⟩;unfold Oper.quietAt;rw[J w1 E];exact⟨rfl,rfl⟩
     .refine .inr ⟨m+1,e1,a3,by rw[show i+(m+1)=i+1+m from oM];exact hB,by simpa using hr,fun a u hP Q I=>?_,fun w1 E a u Q I=>?_⟩
      .have a7:=hP o sM;obtain⟨v',hv,J⟩:=Iq hW u a4 a7.2 U;simp only[List.take_succ_cons];refine⟨v',.inl ⟨by rw[<-u.wanted ops o (V6 y) D];exact hw,J⟩,?_⟩;exact b6 _ (u.put z hv) (fun o' c3=>hP o' (by simp [c3])) Q (fun a' W X=>I a' W (by rw[X,P0]))
      obtain⟨v',hv,J⟩:=gT hW u a4 hc U;simp only[List.take_succ_cons];unfold wpStill;rw[if_pos (by rw[<-u.wanted ops o (V6 y) D];exact hw)];unfold Oper.still;rw[J w1 E,Oper.stillUpon_value];exact b2 w1 E _ (u.put z hv) Q (fun a' W X=>I a' W (by rw[X,P0]))
    |true=>
     rw[hc,Bool.or_true]at h;rcases ih b0 h with⟨hB,hH,hq⟩|⟨m,e1,a3,_⟩
     .refine .inl ⟨hB,hH,fun a u Q I=>?_⟩;obtain⟨c,f,g,first,b3,ho,a5,hf,a9⟩:=Y2 hc U;obtain⟨b7,a6,b9,a8⟩:=gL u a4 ho a5 hf;obtain⟨b8,_,c0,b1⟩:=hC _ _ _ _ _ a9;unfold wpQuiet;rw[if_pos (by rw[<-u.wanted ops o (V6 y) D];exact hw)];refine⟨v,fun w1 E=>?_,hq _ (u.put z (VR.na (c0 rfl))) Q (fun a' W X=>I a' W (by rw[X,P0]))⟩;unfold Oper.quietAt;rw[ci a5 (ty:=o.type) b9 b8 ho];have b4:=b1 φ w1 _ a8 E.wr;simp only[Array.toArray_toList]at b4;exact⟨rfl,b4.mono fun en w2 a2=>⟨a2.1,E.trans a2.2⟩⟩
     .cases a3
   .rename_i v H2 U;split at h
    .rename_i O;simp only[Bool.and_eq_true,Bool.not_eq_true']at O;refine .inr ⟨0,e,O.1,O.2,?_,fun a u _ Q I=>I a u rfl,fun w1 _ a u Q I=>I a u rfl⟩;simp only[List.drop_zero,D1,if_neg b5,hw,if_true,U];exact h
    .cases h
   .cases h
  .rename_i hw;rcases ih b0 h with⟨hB,hH,hq⟩|⟨m,e1,a3,hB,hr,b6,b2⟩
   .refine .inl ⟨hB,hH,fun a u Q I=>?_⟩;unfold wpQuiet;rw[if_neg (by rw[<-u.wanted ops o (V6 y) D];exact hw)];exact hq _ (u.put z (VR.undef' φ)) Q (fun a' W X=>I a' W (by rw[X,P0]))
   .refine .inr ⟨m+1,e1,a3,by rw[show i+(m+1)=i+1+m from oM];exact hB,by simpa using hr,fun a u hP Q I=>?_,fun w1 E a u Q I=>?_⟩
    .have a7:=hP o sM;exact absurd (by simp [E0,a7.1]) hw
    simp only[List.take_succ_cons];unfold wpStill;rw[if_neg (by rw[<-u.wanted ops o (V6 y) D];exact hw)];exact b2 w1 E _ (u.put z (VR.undef' φ)) Q (fun a' W X=>I a' W (by rw[X,P0]))
theorem GT{C:A8}(D:bP P base w0 C){ops:Array Oper}:∀{l:List Oper}{i:Nat}{q:Bool}{e e':Env}{H H':d8},I2 P C ops i q l e H=some (e',H')->Le H H':=by
 intro l;induction l with
 |nil=>
  intro i q e e' H H' h;simp only[I2]at h;split at h
  .cases h;exact Le.refl _
  .cases h
 |cons o l I=>
  intro i q e e' H H' h;simp only[I2]at h;split at h
  .cases h
  split at h
  .split at h
   .exact I h
   .rename_i v H2 z;split at h
    .refine Le.trans ?_ (bp D h);cases E:isCall o.op with
     |false=>exact kU E z
     |true=>
      obtain⟨c,f,g,first,y,_,_,_,u⟩:=Y2 E z;exact(D _ _ _ _ _ u).2.1 _ rfl
    .cases h
   .cases h
  .exact I h
theorem wS{C:A8}(hm:P.follows .mixedOrders=true)(hC:bP P base w0 C){ops:Array Oper}(I:fw nt ops=true){Q:Exit->Act->World->Prop}{e e':Env}{H H':d8}(id:Nat)
  (h:I2 P C ops 0 false ops.toList e H=some (e',H')) (hE:ER φ nt e a) (hW:WR base w0 φ H.bs w) (hp:hU base w0 φ H w nt a.defers e' H' (Q .normal)):(Code.region id ops true).wp P Q a w:=by
 have D:Cls base w0 φ H.bs w {w with drawn:=w.drawn+1}:=hW.cls.drew;rcases wT hC I hW (fun o ho=>ho) h with⟨J,rfl,hq⟩|⟨m,e1,_,J,hr,a7,a8⟩
 .refine wp_region_quiet (C:=Cls base w0 φ H'.bs w) hm J D (hq a hE _ fun a' a6 hd w' hc=>?_);exact hp φ a' w' (Ext.refl φ) a6 hc.wr (fun b B l _ u y z=>hc.same b B l u y z) hd
 .have z:ops=ops.toList.toArray:=sM;rw[Nat.zero_add,zU,Bool.or_eq_true]at J;rcases J with J|J
  .have:=wp_region_still_tail (P:=P) (id:=id) (Q:=Q) (a:=a) (w:=w) (l:=ops.toList) m hm (by rw[<-z];exact J) (by
    rw[<-z];refine a8 _ D a hE _ fun a1 O X=>?_;refine V8 hC I (fun o ho=>List.mem_of_mem_drop ho) hr O D.wr ?_;intro φ2 a2 w2 a4 U W E a3;exact hp φ2 a2 w2 a4 U W (fun b B l hb u y z=>(E b B l hb u y z).trans (D.same b B l u y z)) (a3.trans X))
   rw[<-z]at this;exact this
  .have a5:∀o∈ops.toList.take m,o.guard=none/\oz o.op=true:=by
    have:=J;simp only[pureTailB,Bool.and_eq_true,List.all_eq_true]at this;intro o ho;have:=this.1.2 o ho;exact⟨by simpa using this.1,this.2⟩
   have:=pg (P:=P) (id:=id) (Q:=fun x a w=>x= .normal/\Q .normal a w) (a:=a) (w:=w) (l:=ops.toList) m hm (by rw[<-z];exact J) (fun c a w q=>by cases q.1) (by
    rw[<-z];refine a7 a hE a5 _ fun a1 O X=>?_;refine V8 hC I (fun o ho=>List.mem_of_mem_drop ho) hr O D.wr ?_;intro φ2 a2 w2 a4 U W E a3;exact⟨rfl,hp φ2 a2 w2 a4 U W (fun b B l hb u y z=>(E b B l hb u y z).trans (D.same b B l u y z)) (a3.trans X)⟩)
   rw[<-z]at this;exact Code.wp_mono (fun x a w q=>by obtain⟨rfl,q⟩:=q;exact q) this
theorem LG{C:A8}(D:bP P base w0 C){o:Oper}{H:d8}{v:Value}{r:Option d8}(h:aop P C o.op e H=some (v,r)):Le H (r.getD H):=by
 cases r with
 |none=>exact Le.refl _
 |some H2=>
  cases z:isCall o.op with
  |false=>exact kU z h
  |true=>
   obtain⟨c,f,g,first,y,_,_,_,u⟩:=Y2 z h;exact(D _ _ _ _ _ u).2.1 _ rfl
theorem Cr{C:A8}(E:bP P base w0 C){ops:Array Oper}:∀{l:List (Oper×Nat×Nat)}{t:Nat}{z:List (Nat×d8)}{u:List (Op×Env×Value×Nat)}{e e':Env}{H H':d8},I7 P C ops t z u l e H=some (e',H')->Le H H':=by
 intro l;induction l with
 |nil=>intro t z u e e' H H' h;simp only[I7,Option.some.injEq,Prod.mk.injEq]at h;rw[h.2];exact Le.refl _
 |cons o l y=>
  obtain⟨o,lo,I⟩:=o;intro t z u e e' H H' h;simp only[I7]at h;split at h
  .cases h
  split at h
  .split at h
   .split at h
    .rename_i v r D;split at h
     .exact(LG E D).trans (y h)
     .cases h
    .cases h
   .split at h
    .split at h
     .split at h
      .exact y h
      .cases h
     .exact y h
    .cases h
  .split at h
   .exact y h
   .exact y h
theorem DL{C:A8}(u:bP P base w0 C){ops:Array Oper}{e e':Env}{H H':d8}(h:aR P C ops e H=some (e',H')):Le H H':=by
 unfold aR at h;split at h
 .split at h
  .exact Cr u h
  .cases h
 .exact GT u h
theorem tY{C:A8}(I:P.follows .mixedOrders=true)(z:X8 P C){ops:Array Oper}(u:fw nt ops=true){Q:Exit->Act->World->Prop}{e e':Env}{H H':d8}(id:Nat)
  (h:aR P C ops e H=some (e',H')) (D:ER φ nt e a) (E:WR base w0 φ H.bs w) (J:hU base w0 φ H w nt a.defers e' H' (Q .normal)):(Code.region id ops true).wp P Q a w:=by
 unfold aR at h;split at h
 .split at h
  .rename_i y;exact BH I z u y id h D E J
  .cases h
 .exact wS I (z base w0) u id h D E J
theorem Le.kill(H:d8)(b:Nat):Le H (H.put b .dead):=Le.put _ _ _
def Dw(ops:Array Oper):List Nat->Array Bool->Prop
 |[],listed=>Region.ready .any ops listed=[]
 |i::is,listed=>Region.ready .any ops listed=[i]/\Dw ops is (listed.setIfInBounds i true)
theorem iS{ops:Array Oper}{Q:Exit->Act->World->Prop}:∀(is:List Nat)(i:Nat)(o:Oper)(y:List Oper)(u:Array Bool)(a:Act)(w:World),ops[i]?=some o->is.map (ops[·]?)=y.map some->Dw ops is u->wpList P ops Q (o::y) a w->wpOp P ops Q i (wpAny P .any ops Q is.length u) a w
 |is,i,o,y,u,a,w,ho,hos,hc,h=>by
  have key:∀a w,wpList P ops Q y a w->wpAny P .any ops Q is.length u a w:=fun a w E=>by
   cases is with
   |nil=>
    cases y with
    |nil=>exact⟨hc,E⟩
    |cons I y=>simp at hos
   |cons j is=>
    cases y with
    |nil=>simp at hos
    |cons I y=>
     simp only[List.map_cons,List.cons.injEq]at hos;refine⟨fun q=>(by rw[hc.1]at q;cases q),fun k D=>?_⟩;rw[hc.1,List.mem_singleton]at D;subst D;exact iS is k I y _ a w hos.1 hos.2 hc.2 E
  unfold wpOp;simp only[ho];unfold wpList at h;split
  .rename_i z;rw[if_pos z]at h;exact h.imp (Oper.wp_mono key) id
  .rename_i z;rw[if_neg z]at h;exact key _ _ h
theorem L0{ops:Array Oper}{l:List Bool}{u:List Nat}(h:fc ops l u=true):Region.ready .any ops l.toArray=u:=dT h
theorem wI{C:A8}(hm:P.follows .mixedOrders=true)(hC:bP P base w0 C){y O U W:Oper}{ops:Array Oper}(D:ops.toList=[y,O,U,W])(X:zl ops=true)(E:fw nt ops=true){Q:Exit->Act->World->Prop}{e e1 e2:Env}{H H1 H2:d8}(id:Nat)
  (h1:D1 P C ops [y,O,U,W] e H=some (e1,H1)) (h2:D1 P C ops [y,U,O,W] e H=some (e2,H2)) (hE:ER φ nt e a) (hW:WR base w0 φ H.bs w)
  (b9:hU base w0 φ H w nt a.defers e1 H1 (Q .normal)) (c0:hU base w0 φ H w nt a.defers e2 H2 (Q .normal)):(Code.region id ops true).wp P Q a w:=by
 have c3:ops.size=4:=by have:=congrArg List.length D;simpa using this
 have g0:ops[0]?=some y:=by rw[<-Array.getElem?_toList,D];rfl
 have g1:ops[1]?=some O:=by rw[<-Array.getElem?_toList,D];rfl
 have g2:ops[2]?=some U:=by rw[<-Array.getElem?_toList,D];rfl
 have g3:ops[3]?=some W:=by rw[<-Array.getElem?_toList,D];rfl
 unfold zl at X;rw[D]at X;simp only[Bool.and_eq_true,decide_eq_true_eq]at X;obtain⟨⟨⟨⟨⟨⟨⟨⟨⟨⟨k0,k1⟩,k2⟩,k3⟩,hg⟩,r0⟩,r1⟩,r2⟩,r3⟩,r4⟩,r5⟩:=X;have m0:y∈ops.toList:=by rw[D];simp
 obtain⟨b0,a8⟩:=Z7 E m0;have hc:isCall y.op=false:=by
  cases hq:y.op with
  |alloc t=>rfl
  |_=>rw[hq]at k0;cases k0
 have a5:Cls base w0 φ H.bs w {w with drawn:=w.drawn+1}:=hW.cls.drew;have b1:X4 ops e y=false:=by simp [X4,hg]
 have b2:E0 ops e y=true:=by simp [E0,hg]
 refine wp_region_any hm ?_;rw[c3];refine⟨fun q=>?_,fun i hi=>?_⟩
 .have:=L0 r0;rw[show(Array.replicate 4 false:Array Bool)=[false,false,false,false].toArray from rfl,this]at q;cases q
 rw[show(Array.replicate 4 false:Array Bool)=[false,false,false,false].toArray from rfl,L0 r0,List.mem_singleton]at hi;subst hi;rw[show((Array.replicate 4 false:Array Bool).setIfInBounds 0 true)=[true,false,false,false].toArray from rfl];simp only[D1,b1,b2,if_true,bF]at h1 h2;have rest:∀(v:Value)(Hx:d8)(v':Value)(w':World)(φ':List Loc),Le H Hx->D1 P C ops [O,U,W] (I3 e y.dst v) Hx=some (e1,H1)->D1 P C ops [U,O,W] (I3 e y.dst v) Hx=some (e2,H2)->Ext φ φ'->VR φ' v v'->WR base w0 φ' Hx.bs w'->Fr φ H.bs Hx.low w w'->
   wpAny P .any ops Q 3 [true,false,false,false].toArray (a.put y.dst v') w':=by
  intro v Hx v' w' φ' b8 q1 q2 hx hv J a6;have a7:=(hE.mono hx).put a8 hv;have b6:(a.put y.dst v').defers=a.defers:=P0 _ _ _;have a4:∀{e3:Env}{H3:d8}{l:List Oper},D1 P C ops l (I3 e y.dst v) Hx=some (e3,H3)->hU base w0 φ H w nt a.defers e3 H3 (Q .normal)->hU base w0 φ' Hx w' nt (a.put y.dst v').defers e3 H3 (Q .normal):=by
   intro e3 H3 l hr hp φ2 a2 w2 c4 b4 b5 a9 b7;exact hp φ2 a2 w2 (hx.trans c4) b4 b5 (Fr.trans hx b8 (bp hC hr) hW.len a6 a9) (b7.trans b6)
  have L1:=V8 hC E (Q:=Q) (l:=[O,U,W]) (fun o ho=>by rw[D];simp only[List.mem_cons,List.not_mem_nil,or_false]at ho ⊢;exact .inr ho) q1 a7 J (a4 q1 b9);have L2:=V8 hC E (Q:=Q) (l:=[U,O,W]) (fun o ho=>by rw[D];simp only[List.mem_cons,List.not_mem_nil,or_false]at ho ⊢;rcases ho with h|h|h<;>simp [h]) q2 a7 J (a4 q2 c0);refine⟨fun q=>(by rw[L0 r1]at q;cases q),fun i hi=>?_⟩;rw[L0 r1]at hi;simp only[List.mem_cons,List.not_mem_nil,or_false]at hi;rcases hi with rfl|rfl
  .exact iS [2,3] 1 O [U,W] _ _ _ g1 (by simp [g2,g3]) ⟨L0 r2,L0 r4,L0 r5⟩ L1
  .exact iS [1,3] 2 U [O,W] _ _ _ g2 (by simp [g1,g3]) ⟨L0 r3,L0 r4,L0 r5⟩ L2
 have b3:Region.wanted y (yielded ops a.tmps)=true:=by rw[<-hE.wanted ops y (V6 E) b1];exact b2
 unfold wpOp;simp only[g0,b3,if_true]
 left
 have a1:=a5.wr;cases I:aop P C y.op e H with
 |none=>rw[I]at h1;cases h1
 |some z=>
  obtain⟨v,r⟩:=z;rw[I]at h1 h2;cases r with
  |none=>
   obtain⟨v',hv,u⟩:=gT a1 hE b0 hc I;unfold Oper.wp;rw[u _ a1.cls,Oper.upon_value];exact rest v H v' _ φ (Le.refl H) h1 h2 (Ext.refl φ) hv a1 (fun b B l _ X hd D=>a5.same b B l X hd D)
  |some H3=>
   obtain⟨v',w',φ',u,hx,hv,J,a6⟩:=sD a1 hE b0 hc I;have a3:Fr φ H.bs H3.low w w':=fun b B l hb X hd D=>(a6 b B l hb X hd D).trans (a5.same b B l X hd D);unfold Oper.wp;rcases u with u|⟨u,rfl⟩
   .rw[u,Oper.upon_value];exact rest v H3 v' w' φ' (kU hc I) h1 h2 hx hv J a3
   .rw[u,Oper.upon_skip];exact rest v H3 undef w' φ' (kU hc I) h1 h2 hx hv J a3
def Out.exit':Out->Exit
 | .normal=> .normal
 | .exit id=> .exit id
 | .ret=> .ret
theorem kH{a b:Code}{z:JL}(h:eM a b=some z):∃id ops u y D E,a= .region id ops true/\ops.toList=[u,y,D,E]/\zl ops=true/\z=⟨ops,[u,y,D,E],[u,D,y,E],ops.toList.filterMap (·.dst)++dh b⟩:=by
 unfold eM at h;split at h
 .rename_i id ops;split at h
  .rename_i u y D E J;split at h
   .rename_i I;exact⟨id,ops,u,y,D,E,rfl,J,I,(Option.some.inj h).symm⟩
   .cases h
  .cases h
 .cases h
theorem GP{a b:Code}{z:JL}(h:eM a b=some z):z.ds=dh a++dh b:=by
 obtain⟨id,ops,u,y,D,E,rfl,_,_,rfl⟩:=kH h;rfl
theorem U7{ds:List Nat}{n:Nat}{x y:Option (Out×Env×d8)}{o:Out}{e':Env}{H':d8}(h:nG ds e n x y=some (o,e',H')):
  ∃z u D H2,x=some (.normal,z,u)/\y=some (.normal,D,H2)/\N4 n u=N4 n H2/\o= .normal/\e'=ds.map (fun d=>(d,lost))++e/\H'=N4 n u:=by
 unfold nG at h;split at h
 .rename_i z u D H2;split at h
  .rename_i E;simp only[Option.some.injEq,Prod.mk.injEq]at h;exact⟨z,u,D,H2,rfl,rfl,E,h.1.symm,h.2.1.symm,h.2.2.symm⟩
  .cases h
 .cases h
theorem ju(n:Nat)(H:d8):Le H (N4 n H):=(Le.kill H n).trans (Le.kill _ _)
theorem Gd{H:d8}(h:WR base w0 φ H.bs w)(n:Nat):WR base w0 φ (N4 n H).bs w:=(h.kill n).kill (n+1)
theorem U4{e:Env}{d:Option Nat}{v:Value}{t:Nat}(h:d≠some t):(I3 e d v).get t=e.get t:=by
 cases d with
 |none=>rfl
 |some d=>simp only[I3,Env.get];rw[if_neg (fun q=>h (by rw[q]))]
theorem iM{C:A8}{ops:Array Oper}{t:Nat}:∀{l:List Oper}{e e':Env}{H H':d8},(∀o∈l,o.dst≠some t)->D1 P C ops l e H=some (e',H')->e'.get t=e.get t:=by
 intro l;induction l with
 |nil=>intro e e' H H' _ h;cases h;rfl
 |cons o l z=>
  intro e e' H H' D h;have y:=D o sM;have u:∀o∈l,o.dst≠some t:=fun o E=>D o (by simp [E]);simp only[D1]at h;split at h
  .cases h
  split at h
  .split at h
   .rw[z u h,U4 y]
   .rw[z u h,U4 y]
   .cases h
  .rw[z u h,U4 y]
theorem vr{C:A8}{ops:Array Oper}{t:Nat}:∀{l:List Oper}{i:Nat}{q:Bool}{e e':Env}{H H':d8},(∀o∈l,o.dst≠some t)->I2 P C ops i q l e H=some (e',H')->e'.get t=e.get t:=by
 intro l;induction l with
 |nil=>
  intro i q e e' H H' _ h;simp only[I2]at h;split at h
  .cases h;rfl
  .cases h
 |cons o l D=>
  intro i q e e' H H' z h;have y:=z o sM;have u:∀o∈l,o.dst≠some t:=fun o E=>z o (by simp [E]);simp only[I2]at h;split at h
  .cases h
  split at h
  .split at h
   .rw[D u h,U4 y]
   .split at h
    .rw[iM u h,U4 y]
    .cases h
   .cases h
  .rw[D u h,U4 y]
theorem yu{C:A8}{ops:Array Oper}{t:Nat}:∀{l:List (Oper×Nat×Nat)}{i:Nat}{E:List (Nat×d8)}{y:List (Op×Env×Value×Nat)}{e e':Env}{H H':d8},(∀o∈l,o.1.dst≠some t)->I7 P C ops i E y l e H=some (e',H')->e'.get t=e.get t:=by
 intro l;induction l with
 |nil=>intro i E y e e' H H' _ h;simp only[I7,Option.some.injEq,Prod.mk.injEq]at h;rw[h.1]
 |cons o l D=>
  obtain⟨o,lo,J⟩:=o;intro i E y e e' H H' I h;have z:o.dst≠some t:=I (o,lo,J) sM;have u:∀o∈l,o.1.dst≠some t:=fun o O=>I o (by simp [O]);simp only[I7]at h;split at h
  .cases h
  split at h
  .split at h
   .split at h
    .split at h
     .rw[D u h,U4 z]
     .cases h
    .cases h
   .split at h
    .split at h
     .split at h
      .rw[D u h,U4 z]
      .cases h
     .rw[D u h,U4 z]
    .cases h
  .split at h
   .rw[D u h,U4 z]
   .rw[D u h,U4 z]
theorem AW{C:A8}{ops:Array Oper}{t:Nat}{e e':Env}{H H':d8}(u:∀o∈ops.toList,o.dst≠some t) (h:aR P C ops e H=some (e',H')):e'.get t=e.get t:=by
 unfold aR at h;split at h
 .split at h
  .refine yu (fun o y=>?_) h;obtain⟨q,z,rfl⟩:=List.mem_map.1 y;exact u q.1 (List.fst_mem_of_mem_zipIdx z)
  .cases h
 .exact vr u h
theorem mO{α:Type}(v:Value):∀(ds:List Nat)(e:Env)(t:Nat),Env.get (ds.map (fun d=>(d,v))++e) t=if t∈ds then v else e.get t
 |[],e,t=>by simp
 |d::ds,e,t=>by
  simp only[List.map_cons,List.cons_append,Env.get,mO (α:=α) v ds e t,List.mem_cons];by_cases h:d=t
  .subst h;simp
  .rw[if_neg h];have:¬t=d:=fun q=>h q.symm;simp [this]
theorem DT{C:A8}{t:Nat}:∀{k:Nat}{c:Code}{e e':Env}{H H':d8}{o:Out},t∉dh c->L5 P C k c e H=some (o,e',H')->e'.get t=e.get t:=by
 intro k;induction k with
 |zero=>intro c e e' H H' o _ h;cases h
 |succ k E=>
  intro c e e' H H' o u h;cases c<;>simp only[L5]at h
  case skip=>cases h;rfl
  case ret=>cases h;rfl
  case exit=>cases h;rfl
  case region id ops I=>
   have D:∀o∈ops.toList,o.dst≠some t:=fun o W q=>u (List.mem_filterMap.2 ⟨o,W,q⟩);cases I
   .simp only[bF]at h;split at h
    .rename_i O;cases h;exact iM D O
    .cases h
   .simp only[if_true]at h;split at h
    .rename_i O;cases h;exact AW D O
    .cases h
  case seq x y=>
   simp only[dh,List.mem_append,not_or]at u;split at h
   .rename_i z X;split at h
    .obtain⟨e3,H3,e4,H4,q1,q2,q3,rfl,rfl,rfl⟩:=U7 h;rw[mO (α:=Nat),if_neg];rw[GP X];exact fun q=>(List.mem_append.1 q).elim u.1 u.2
    .cases h
   .split at h
    .rename_i U H2 J;rw[E u.2 h,E u.1 J]
    .exact E u.1 h
  case cond x y z=>
   simp only[dh,List.mem_append,not_or]at u;split at h
   .rename_i b _;cases b
    .exact E u.2 h
    .exact E u.1 h
   .cases h
  case block id x=>
   simp only[dh]at u;split at h
   .rename_i i U H2 J;split at h<;>(cases h;exact E u J)
   .exact E u h
  case loop x=>
   have D:t∉dh x:=u;split at h
   .rename_i U H2 J;rw[E (c:= .loop x) u h,E D J]
   .exact E D h
  case scope x=>exact E (c:=x) u h
  all_goals cases h
theorem N8{C:A8}(J:bP P base w0 C):∀{k:Nat}{c:Code}{e e':Env}{H H':d8}{o:Out},L5 P C k c e H=some (o,e',H')->Le H H':=by
 intro k;induction k with
 |zero=>intro c e e' H H' o h;cases h
 |succ k u=>
  intro c e e' H H' o h;cases c<;>simp only[L5]at h
  case skip=>cases h;exact Le.refl _
  case ret=>cases h;exact Le.refl _
  case exit=>cases h;exact Le.refl _
  case region id ops D=>
   cases D
   .simp only[bF]at h;split at h
    .rename_i O;cases h;exact bp J O
    .cases h
   .simp only[if_true]at h;split at h
    .rename_i O;cases h;exact DL J O
    .cases h
  case seq x y=>
   split at h
   .split at h
    .rename_i z hz _ e1 H1 I H2 U W;obtain⟨e3,H3,e4,H4,X,q2,q3,rfl,rfl,rfl⟩:=U7 h;exact(bp J U).trans ((u X).trans (ju _ _))
    .cases h
   .split at h
    .rename_i I H2 E;exact(u E).trans (u h)
    .exact u h
  case cond x y z=>
   split at h
   .exact u h
   .cases h
  case block id x=>
   split at h
   .rename_i i I H2 E;split at h<;>(cases h;exact u E)
   .exact u h
  case loop x=>
   split at h
   .rename_i I H2 E;exact(u E).trans (u h)
   .exact u h
  case scope x=>exact u h
  all_goals cases h
def qX(r:Option Nat):Fence:={Fence.wide with round:=r}
theorem zJ{o:Oper}{l n:Nat}{K:Act->World->Prop}{Q:Exit->Act->World->Prop}{a:Act}{w:World}(u:jD o.op=true)(h:o.wp P a w K Q):o.wpIn (qX (some l)) n P a w K Q:=by
 refine⟨fun _ _=>trivial,?_⟩;rw[Oper.semAt_plain _ _ _ (fun c D=>by rw[D]at u;cases u)];unfold Oper.wp at h;generalize (execOp a.eval o).run P w=r at h;cases r with
 |ok x I=>
  cases x<;>simp only[Oper.upon,Oper.uponIn]at h ⊢ <;>first|exact h|skip
  .exact⟨fun q=>(by cases q),(CallsIn.inRound l (callsIn_wide.2 h)).mono fun e w2 E=>by cases e<;>exact E⟩
  .refine⟨fun q=>(by cases q),fun c cs _=>?_⟩;obtain⟨v,w2,y,z⟩:=h c cs;exact⟨v,w2,y,stepsIn_wide.2 z⟩
 |halt x I=>cases x<;>simp only[Oper.upon,Oper.uponIn]at h ⊢ <;>exact h
theorem kB{ops:Array Oper}{l n:Nat}{Q:Exit->Act->World->Prop}(z:¬LetsOut Q):∀{y:List Oper}{a:Act}{w:World},(∀o∈y,jD o.op=true)->wpList P ops Q y a w->wpListIn (qX (some l)) n P ops Q y a w
 |[],a,w,_,h=>h
 |o::y,a,w,hd,h=>by
  unfold wpList at h;unfold wpListIn;have u:∀o∈y,jD o.op=true:=fun o E=>hd o (by simp [E]);split
  .rename_i D;rw[if_pos D]at h;rcases h with h|h
   .exact Oper.wpIn_mono (fun a w q=>kB z u q) (zJ (hd o sM) h)
   .exact absurd h.2 z
  .rename_i D;rw[if_neg D]at h;exact⟨fun _ _=>trivial,kB z u h⟩
theorem jR{ops:Array Oper}{l n:Nat}{Q:Exit->Act->World->Prop}(D:¬LetsOut Q)(z:∀o∈ops.toList,jD o.op=true):∀(u:Nat)(y:Array Bool)(a:Act)(w:World),wpAny P .any ops Q u y a w->wpAnyIn (qX (some l)) n P .any ops Q u y a w
 |0,_,_,_,h=>h
 |u+1,y,a,w,h=>by
  refine⟨h.1,fun i J=>?_⟩;have:=h.2 i J;unfold wpOp at this;unfold wpOpIn;cases E:ops[i]? with
  |none=>rw[E]at this;exact jR D z u _ _ _ this
  |some o=>
   rw[E]at this;simp only at this ⊢;split
   .rename_i I;rw[if_pos I]at this;rcases this with h|h
    .exact Oper.wpIn_mono (fun a w q=>jR D z u _ _ _ q) (zJ (z o (Array.mem_toList_iff.2 (Array.mem_of_getElem? E))) h)
    .exact absurd h.2 D
   .rename_i I;rw[if_neg I]at this;exact⟨fun _ _=>trivial,jR D z u _ _ _ this⟩
theorem kL{C:A8}(hm:P.follows .mixedOrders=true)(hC:X8 P C){r:Option Nat}{n:Nat}:∀{k:Nat}{c:Code}{φ:List Loc}{e e':Env}{H H':d8}{o:Out}{a:Act}{w:World}{Q:Exit->Act->World->Prop},
  (r.isSome=true->E7 c=true)->I1 nt c=true->L5 P C k c e H=some (o,e',H')->ER φ nt e a->WR base w0 φ H.bs w->hU base w0 φ H w nt a.defers e' H' (Q o.exit')->c.wpIn (qX r) n P Q a w/\∀x,c= .loop x->Code.roundsIn (qX r) n P x Q k a w:=by
 intro k;induction k with
 |zero=>intro c φ e e' H H' o a w Q a1 u h;cases h
 |succ k d1=>
  intro c φ e e' H H' o a w Q a1 u h W hW U;have ih:=fun{c φ e e' H H' o a w Q}(h0:r.isSome=true->E7 c=true)(h1:I1 nt c=true) h2(h3:ER φ nt e a)(h4:WR base w0 φ H.bs w) h5=>(d1 (c:=c) (e:=e) (e':=e') (H:=H) (H':=H') (o:=o) (Q:=Q) h0 h1 h2 h3 h4 h5).1;by_cases a7:∃x,c= .loop x
  .obtain⟨x,rfl⟩:=a7;have c8:=u;simp only[I1]at u;simp only[L5]at h;have b4:r.isSome=true->E7 x=true:=a1;have a6:Code.roundsIn (qX r) n P x Q (k+1) a w:=by
    rw[roundsIn_succ];split at h
    .rename_i e2 H2 h1;refine ih b4 u h1 W hW ?_;intro φ' a' w' O E I D hd;refine(d1 (c:= .loop x) (Q:=Q) a1 c8 h E I ?_).2 x rfl;intro φ2 a2 w2 a5 X a3 J a4;exact U φ2 a2 w2 (O.trans a5) X a3 (Fr.trans O (N8 (hC base w0) h1) (N8 (hC base w0) h) hW.len D J) (a4.trans hd)
    .rename_i a9;refine ih b4 u h W hW ?_;intro φ' a' w' O E I D hd;have:=U φ' a' w' O E I D hd;cases o with
     |normal=>exact absurd h (a9 e' H')
     |exit id=>exact this
     |ret=>exact this
   exact⟨wpIn_loop_rounds (k+1) a6,fun y hy=>by cases hy;exact a6⟩
  refine⟨?_,fun x O=>absurd ⟨x,O⟩ a7⟩;have b0:∀{o:Out}{e:Env},hU base w0 φ H w nt a.defers e H (Q o.exit')->ER φ nt e a->Q o.exit' a w:=fun U W=>U φ a w (Ext.refl φ) W hW (jo H) rfl;have b1:∀{H2:d8}{φ':List Loc}{a':Act}{w':World}{K:Act->World->Prop},Le H H2->Le H2 H'->Ext φ φ'->Fr φ H.bs H2.low w w'->a'.defers=a.defers->hU base w0 φ H w nt a.defers e' H' K->hU base w0 φ' H2 w' nt a'.defers e' H' K:=by
   intro H2 φ' a' w' K d6 d7 O D hd U φ2 a2 w2 a5 X a3 J a4;exact U φ2 a2 w2 (O.trans a5) X a3 (Fr.trans O d6 d7 hW.len D J) (a4.trans hd)
  cases c<;>simp only[L5]at h
  case skip=>cases h;exact wpIn_skip (b0 (o:= .normal) U W)
  case ret=>cases h;exact wpIn_ret (b0 (o:= .ret) U W)
  case exit id=>cases h;exact wpIn_exit (b0 (o:= .exit id) U W)
  case region id ops b3=>
   simp only[I1]at u;cases r with
   |none=>
    refine wpIn_wide.2 ?_;cases b3
    .simp only[bF]at h;split at h
     .rename_i hr;cases h;exact wp_region_list (V8 (hC base w0) u (fun o ho=>ho) hr W hW U)
     .cases h
    .simp only[if_true]at h;split at h
     .rename_i hr;cases h;exact tY hm hC u id hr W hW U
     .cases h
   |some l=>
    have b2:=a1 rfl;simp only[E7,Bool.and_eq_true,List.all_eq_true]at b2;refine Code.wpIn_mono (Q:=fun x a w=>x= .normal/\Q .normal a w) (fun x a w q=>by obtain⟨rfl,q⟩:=q;exact q) ?_;have c7:¬LetsOut (fun x(a:Act) w=>x=Exit.normal/\Q .normal a w):=fun⟨_,_,q⟩=>by cases q.1
    cases b3
    .simp only[bF]at h;split at h
     .rename_i hr;cases h;exact wpIn_region_list (kB c7 b2.1 (V8 (hC base w0) u (fun o ho=>ho) hr W hW fun φ2 a2 w2 a5 X a3 J a4=>⟨rfl,U φ2 a2 w2 a5 X a3 J a4⟩))
     .cases h
    .simp only[if_true]at h;have a8:=b2.2;simp only[Bool.not_true,Bool.false_or,Bool.and_eq_true]at a8;split at h
     .rename_i hr;cases h;unfold aR at hr;rw[if_pos a8.1,if_pos a8.2]at hr;exact wpIn_region_any hm (jR c7 b2.1 _ _ _ _ (zE hC u a8.2 hr W hW fun φ2 a2 w2 a5 X a3 J a4=>⟨rfl,U φ2 a2 w2 a5 X a3 J a4⟩))
     .cases h
  case seq x y=>
   simp only[I1,Bool.and_eq_true]at u;split at h
   .rename_i z hz;have b8:r=none:=by
     cases r with
     |none=>rfl
     |some l=>
      have:=a1 rfl;simp only[E7,hz,Option.isNone_some,Bool.false_and]at this;cases this
    subst b8;refine wpIn_wide.2 (wp_seq ?_);obtain⟨id,ops,o0,o1,o2,o3,rfl,hl,hB,rfl⟩:=kH hz;split at h
    .rename_i e1 H1 e2 H2 b6 b7;obtain⟨e3,H3,e4,H4,q1,q2,q3,rfl,rfl,rfl⟩:=U7 h;have l1:=bp (hC base w0) b6;have l2:=bp (hC base w0) b7;have b9:∀{e5 e6:Env}{H5 H6:d8}{l:List Oper},(∀o∈l,o∈ops.toList)->Le H H5->Le H5 (N4 H.next H3)->(∀t,t∉ops.toList.filterMap (·.dst)->e5.get t=e.get t)->L5 P C k y e5 H5=some (.normal,e6,H6)->N4 H.next H3=N4 H.next H6->hU base w0 φ H w nt a.defers e5 H5 (fun a' w'=>y.wp P Q a' w'):=by
      intro e5 e6 H5 H6 l c6 d9 c5 c4 O hk φ' a' w' d0 E I D hd;refine wpIn_wide.1 (ih (fun h=>by cases h) u.2 O E I ?_);intro φ2 a2 w2 a5 X a3 J a4;refine U φ2 a2 w2 (d0.trans a5) ⟨X.size,fun t=>?_⟩ (by rw[hk];exact Gd a3 _) ?_ (a4.trans hd)
      .rw[mO (α:=Nat)];by_cases ht:t∈ops.toList.filterMap (·.dst)++dh y
       .rw[if_pos ht];exact .lost _
       .rw[if_neg ht];simp only[List.mem_append,not_or]at ht;rw[<-c4 t ht.1,<-DT ht.2 O];exact X.val t
      .rw[hk];have c3:Fr φ' H5.bs (N4 H.next H6).low w' w2:=fun b B l hb d3 d4 d5=>J b B l (Nat.lt_of_lt_of_le hb (ju H.next H6).low) d3 d4 d5;exact Fr.trans d0 d9 (by rw[<-hk];exact c5) hW.len D c3
     have c0:∀{l:List Oper}{e5:Env}{H5:d8},(∀o∈l,o∈ops.toList)->D1 P C ops l e H=some (e5,H5)->∀t,t∉ops.toList.filterMap (·.dst)->e5.get t=e.get t:=fun c6 hr t ht=>iM (fun o ho q=>ht (List.mem_filterMap.2 ⟨o,c6 o ho,q⟩)) hr;have m1:∀o∈ [o0,o1,o2,o3],o∈ops.toList:=fun o ho=>by rw[hl];exact ho
     have m2:∀o∈ [o0,o2,o1,o3],o∈ops.toList:=fun o ho=>by rw[hl];simp only[List.mem_cons,List.not_mem_nil,or_false]at ho ⊢;rcases ho with h|h|h|h<;>simp [h]
     have c9:fw nt ops=true:=u.1;refine wI hm (hC base w0) hl hB c9 id b6 b7 W hW (b9 m1 l1 ((N8 (hC base w0) q1).trans (ju _ _)) (c0 m1 b6) q1 rfl) (b9 m2 l2 (by rw[q3];exact(N8 (hC base w0) q2).trans (ju _ _)) (c0 m2 b7) q2 q3)
    .cases h
   .rename_i hz;have d2:r.isSome=true->E7 x=true:=fun q=>by have:=a1 q;simp only[E7,Bool.and_eq_true]at this;exact this.1.2
    have e7:r.isSome=true->E7 y=true:=fun q=>by have:=a1 q;simp only[E7,Bool.and_eq_true]at this;exact this.2
    refine wpIn_seq ?_;split at h
    .rename_i e2 H2 h1;refine ih d2 u.1 h1 W hW ?_;intro φ' a' w' O E I D hd;exact ih e7 u.2 h E I (b1 (N8 (hC base w0) h1) (N8 (hC base w0) h) O D hd U)
    .rename_i a9;refine ih d2 u.1 h W hW ?_;intro φ' a' w' O E I D hd;have:=U φ' a' w' O E I D hd;cases o with
     |normal=>exact absurd h (a9 e' H')
     |exit id=>exact this
     |ret=>exact this
  case cond x y z=>
   simp only[I1,Bool.and_eq_true]at u;split at h
   .rename_i t ht;have hv:=W.op u.1.1;rw[ht]at hv;generalize hz:a.eval x=zz at hv;cases hv;have ro:r.isSome=true->E7 y=true/\E7 z=true:=fun q=>by have:=a1 q;simpa only[E7,Bool.and_eq_true] using this
    refine wpIn_cond hz ?_;cases t
    .exact ih (fun q=>(ro q).2) u.2 h W hW U
    .exact ih (fun q=>(ro q).1) u.1.2 h W hW U
   .cases h
  case block id x=>
   simp only[I1]at u;have ro:r.isSome=true->E7 x=true:=a1;refine wpIn_block ?_;split at h
   .rename_i i e2 H2 h1;split at h
    .rename_i b5;cases h;refine ih ro u h1 W hW ?_;intro φ' a' w' O E I D hd;have:=U φ' a' w' O E I D hd;simp only[Out.exit',Exit.inBlock,if_pos b5];exact this
    .rename_i b5;cases h;refine ih ro u h1 W hW ?_;intro φ' a' w' O E I D hd;have:=U φ' a' w' O E I D hd;simp only[Out.exit',Exit.inBlock,if_neg b5];exact this
   .rename_i a9;refine ih ro u h W hW ?_;intro φ' a' w' O E I D hd;have:=U φ' a' w' O E I D hd;cases o with
    |exit id=>exact absurd h (a9 id e' H')
    |normal=>exact this
    |ret=>exact this
  case loop x=>exact absurd ⟨x,rfl⟩ a7
  case scope x=>
   simp only[I1]at u;have b8:r=none:=by
    cases r with
    |none=>rfl
    |some l=>have:=a1 rfl;simp only[E7]at this;cases this
   subst b8;refine wpIn_wide.2 (wp_scope_straight (wpIn_wide.1 (ih (fun h=>by cases h) u h W hW ?_)));intro φ' a' w' O E I D hd;have:=U φ' a' w' O E I D hd;cases o<;>exact this
  all_goals cases h
theorem eN{C:A8}(E:P.follows .mixedOrders=true)(y:X8 P C){k:Nat}{c:Code}{e e':Env}{H H':d8}{o:Out}{Q:Exit->Act->World->Prop}
  (u:I1 nt c=true) (h:L5 P C k c e H=some (o,e',H')) (z:ER φ nt e a) (D:WR base w0 φ H.bs w) (I:hU base w0 φ H w nt a.defers e' H' (Q o.exit')):c.wp P Q a w:=
 wpIn_wide.1 (kL (r:=none) (n:=0) E y (fun h=>by cases h) u h z D I).1
theorem iv{C:A8}(E:P.follows .mixedOrders=true)(y:X8 P C)(l n:Nat){k:Nat}{c:Code}{e e':Env}{H H':d8}{o:Out}{Q:Exit->Act->World->Prop}
  (J:E7 c=true) (u:I1 nt c=true) (h:L5 P C k c e H=some (o,e',H')) (z:ER φ nt e a) (D:WR base w0 φ H.bs w) (I:hU base w0 φ H w nt a.defers e' H' (Q o.exit')):c.wpIn (Fence.wide.inRound l) n P Q a w:=
 (kL (r:=some l) E y (fun _=>J) u h z D I).1
theorem qm:∀(u:LV)(i t:Nat),(N3 i u).get t=if i<=t then(u[t-i]?).getD undef else undef
 |[],i,t=>by simp [N3,Env.get]
 |v::u,i,t=>by
  simp only[N3,Env.get];by_cases h:i=t
  .subst h;simp
  .rw[if_neg h,qm u (i+1) t];by_cases y:i<=t
   .rw[if_pos y,if_pos oM,show t-i=(t-(i+1))+1 from oM];simp
   .rw[if_neg y,if_neg oM]
theorem ue{args u:LV}(z:VRs φ args u)(J:args.length<=nt):ER φ nt (N3 0 args) {tmps:=u.toArray++Array.replicate (nt-u.toArray.size) undef,defers:=[]}:=by
 refine⟨by have:=z.1;simp;omega,fun t=>?_⟩;rw[qm];simp only[Nat.zero_le,if_true,Nat.sub_zero,Array.getD_eq_getD_getElem?];by_cases h:t<args.length
 .obtain⟨y,I,E⟩:=z.get (i:=t) (x:=args[t]) (by simp [h]);have D:t<u.length:=by rw[<-z.1];exact h
  rw[Array.getElem?_append_left (by simpa using D)];simp only[List.getElem?_toArray,I,Option.getD_some,List.getElem?_eq_getElem h];exact E
 .rw[List.getElem?_eq_none oM];rw[Array.getElem?_append_right (by have:=z.1;simp;omega)];simp only[Option.getD_none,Array.getElem?_replicate];split<;>exact VR.undef' φ
def vp(tmps:Array Value):ResultVar->Sem Value
 | .tmp t=>pure (tmps.getD t undef)
 | .cell x t=>do loadVar t (<-asAddr (tmps.getD x undef))
theorem yp(y:Func)(tmps:Array Value):results y tmps=(y.results.mapM (vp tmps))>>=fun u=>pure (if h:u.size=1 then u[0] else .tuple u):=by
 unfold results
 congr 1
theorem vx{H:d8}(hW:WR base w0 φ H.bs w)(hE:ER φ nt e a):∀{E:List ResultVar}{O:LV},E.mapM (M0 P e H)=some O->
  ∃y,VRs φ O y/\(E.mapM (vp a.tmps)).run P w= .ok y w:=by
 intro E;induction E with
 |nil=>intro O h;simp at h;subst h;exact⟨[],.nil φ,rfl⟩
 |cons r E ih=>
  intro O h;simp only[List.mapM_cons,Option.bind_eq_bind,Option.pure_def]at h;cases u:M0 P e H r with
  |none=>simp [u]at h
  |some v=>
   cases D:E.mapM (M0 P e H)with
   |none=>simp [u,D]at h
   |some a1=>
    simp [u,D]at h;subst h;obtain⟨y,hv,J⟩:=ih D;have I:∃v',VR φ v v'/\(vp a.tmps r).run P w= .ok v' w:=by
     cases r with
     |tmp t=>simp only[M0,Option.some.injEq]at u;subst u;exact⟨_,hE.val t,rfl⟩
     |cell x t=>
      simp only[M0]at u;obtain⟨v',U,W⟩:=uN (P:=P) hW u (hE.val x);refine⟨v',U,?_⟩;have X:=W w hW.cls;have hx:=hE.val x;unfold ld at u;split at u
      .rename_i b o hg;rw[hg]at hx;simp only[vp];generalize a.tmps.getD x undef=z at hx X ⊢;cases hx;simp only[Instr.loadAt,Instr.sureAddr,Sem.run_bind,Sem.run_pure,Result.andThen_ok]at X;simp only[asAddr,Sem.run_bind,Sem.run_pure,Result.andThen_ok];exact X
      .cases u
    obtain⟨v',U,W⟩:=I;refine⟨v'::y,.cons U hv,?_⟩;rw[List.mapM_cons,Sem.run_bind,W,Result.andThen_ok,Sem.run_bind,J,Result.andThen_ok];rfl
theorem lh{E:Func}{H:d8}(X:WR base w0 φ H.bs w)(W:ER φ nt e a){O:LV}(h:E.results.toList.mapM (M0 P e H)=some O):
  ∃v',VR φ (bN O) v'/\(results E a.tmps).run P w= .ok v' w:=by
 obtain⟨u,J,D⟩:=vx X W h;have hr:(E.results.mapM (vp a.tmps)).run P w= .ok u.toArray w:=by
  rw[Array.mapM_eq_mapM_toList,Sem.run_map,D];rfl
 refine⟨bN u,?_,?_⟩
 .unfold bN;split
  .obtain⟨y,ys,rfl,I,U⟩:=J.of_cons;rw[U.of_nil];exact I
  .rename_i z;split
   .rename_i v'
    exfalso
    have:=J.1;cases O with
    |nil=>simp at this
    |cons x xs=>cases xs with
     |nil=>exact z x rfl
     |cons _ _=>simp at this
   .exact VR.toTuple J
 .rw[yp,Sem.run_bind,hr,Result.andThen_ok];split
  .rename_i I;obtain⟨v,rfl⟩:=List.length_eq_one_iff.1 (by simpa using I:u.length=1);rfl
  .rename_i z;have:bN u= .tuple u.toArray:=by
    unfold bN;split
    .exact absurd rfl z
    .rfl
   rw[this];rfl
theorem WR.back{X:List Loc}{W:List Blk}{J:World}{D:Nat}(h:WR base w0 φ S w)(U:WR base w0 X W J)(O:Fr φ S D w J)(z:S.length<=D):Cls base w0 φ S w J:=by
 have u:∀(b:Nat) B l,S[b]?=some B->B≠ .dead->φ[b]?=some l->J.heap[l.blk]?=w.heap[l.blk]?:=fun b B l y E I=>
  O b B l (Nat.lt_of_lt_of_le (gS y).1 z) y E I
 refine⟨⟨h.len,U.below,U.size,fun b B l y I=>?_,h.sep⟩,u⟩;by_cases E:B= .dead
 .subst E;trivial
 .exact(h.blk b B l y I).mono (Ext.refl φ) (u b B l y E I)
def HQ(g:FuncId)(f:LV->d8->Option (Value×Option d8)):A8:=fun g' args H=>if g'=g then f args H else none
def pP(P:Program)(X:Lib):Prop:=∀g f,X g=some f->X8 P (HQ g f)
theorem GL(hm:P.follows .mixedOrders=true){X:Lib}(hX:pP P X):∀k,X8 P (call P X k):=by
 intro k;induction k with
 |zero=>intro base w0 g args H v r h;cases h
 |succ k ih=>
  intro base w0 g args H v r h;simp only[call]at h;split at h
  .rename_i f hf;exact hX g f hf base w0 g args H v r (by simp only[HQ,if_pos];exact h)
  .rename_i a9;unfold body at h;split at h
   rotate_left
   .cases h
   rename_i c nt rs y;unfold fnA at y;split at y
   rotate_left
   .cases y
   rename_i fn O;split at y
   rotate_left
   .cases y
   rename_i c' I;split at y
   rotate_left
   .cases y
   rename_i z;cases y;simp only[Bool.and_eq_true,bne_iff_ne,ne_eq]at z;split at h
   rotate_left
   .cases h
   rename_i a5;have a2:dv P g:=⟨fn,O,by simpa using z.2,by rw[I];rfl⟩
   split at h
   .cases h
   .rename_i o e' H' a7 a3;split at h
    rotate_left
    .cases h
    rename_i vs a8;have a4:=N8 (ih base w0) a3;unfold D6 at h;have a1:∀(φ:List Loc)(w:World)(u:LV),VRs φ args u->WR base w0 φ H.bs w->Calls P g u.toArray w fun en W=>∃v' E,en= .returned v'/\Ext φ E/\VR E (bN vs) v'/\WR base w0 E H'.bs W/\Fr φ H.bs H'.low w W:=by
     intro φ w u ha hW;refine calls_of_wp O I ?_;refine eN (H:=⟨H.bs,H.bs.length⟩) hm ih z.1 a3 (ue ha a5) hW ?_;intro E a' W hx hE D J hd;obtain⟨v',hv,a6⟩:=lh D hE a8;have:bodyPost P fn (fun en W=>∃v' E,en= .returned v'/\Ext φ E/\VR E (bN vs) v'/\WR base w0 E H'.bs W/\Fr φ H.bs H'.low w W) .normal a' W:=⟨hd,v',a6,v',E,rfl,hx,hv,D,J⟩
     cases o with
     |normal=>exact this
     |ret=>exact this
     |exit id=>exact(a7 id rfl).elim
    split at h
    .rename_i U;simp only[Option.some.injEq,Prod.mk.injEq]at h;obtain⟨rfl,rfl⟩:=h;simp only[Bool.and_eq_true,decide_eq_true_eq]at U;refine⟨a2,fun H' h=>(by cases h),fun _=>U.1,fun φ w u ha hW=>(a1 φ w u ha hW).mono fun en W hq=>?_⟩;obtain⟨v',E,rfl,hx,hv,D,J⟩:=hq;exact⟨by rw[hv.eq_na U.1],hW.back D J U.2⟩
    .simp only[Option.some.injEq,Prod.mk.injEq]at h;obtain⟨rfl,rfl⟩:=h;refine⟨a2,fun H2 h2=>?_,fun h=>(by cases h),fun φ w u ha hW=>(a1 φ w u ha hW).mono fun en W hq=>?_⟩
     .cases h2;exact⟨Nat.min_le_left _ _,a4.len,fun b hb hl=>a4.same b (Nat.lt_of_lt_of_le hb (Nat.min_le_right _ _)) hl⟩
     .obtain⟨v',E,h1,hx,hv,D,J⟩:=hq;exact⟨v',E,h1,hx,hv,D,fun b B l hb=>J b B l (Nat.lt_of_lt_of_le hb (Nat.min_le_right _ _))⟩
   .cases h
end
def LeO{α:Type}(x y:Option α):Prop:=∀r,x=some r->y=some r
def LeC(C D:A8):Prop:=∀f args H,LeO (C f args H) (D f args H)
theorem LeO.refl{α:Type}(x:Option α):LeO x x:=fun _ h=>h
section
variable{P:Program}
theorem wu{C D:A8}(h:LeC C D)(e:Env)(c:Call)(H:d8):LeO (fI P C e c H) (fI P D e c H):=by
 intro r y;unfold fI at y ⊢;split
 .rename_i b z;rw[z]at y;exact y
 .rename_i f J;rw[J]at y;simp only at y ⊢;split
  .rename_i g first u E;rw[E]at y;exact h _ _ _ _ y
  .rename_i I;split at y
   .rename_i g first u E;exact absurd E (I _ _ _)
   .exact y
 .rename_i z;rw[z]at y;exact y
theorem X2{C D:A8}(h:LeC C D)(o:Op)(e:Env)(H:d8):LeO (aop P C o e H) (aop P D o e H):=by
 intro r y;by_cases u:∃c,o= .call c
 .obtain⟨c,rfl⟩:=u;exact wu h e c H r y
 .rw[<-y];cases o<;>first|rfl|(exact absurd ⟨_,rfl⟩ u)|(rename_i x;cases x<;>rfl)
theorem R0{C D:A8}(h:LeC C D){ops:Array Oper}:∀(l:List Oper)(e:Env)(H:d8),LeO (D1 P C ops l e H) (D1 P D ops l e H):=by
 intro l;induction l with
 |nil=>intro e H r u;exact u
 |cons o l I=>
  intro e H r u;simp only[D1]at u ⊢;by_cases y:X4 ops e o=true
  .rw[if_pos y]at u;cases u
  simp only[if_neg y]at u ⊢;split
  .rename_i E;rw[if_pos E]at u;cases z:aop P C o.op e H with
   |none=>simp [z]at u
   |some q=>
    rw[X2 h _ _ _ _ z];rw[z]at u;obtain⟨v,q⟩:=q;cases q with
    |none=>exact I _ _ _ u
    |some H'=>exact I _ _ _ u
  .rename_i E;rw[if_neg E]at u;exact I _ _ _ u
theorem jI{C D:A8}(h:LeC C D){ops:Array Oper}:∀(l:List Oper)(i:Nat)(q:Bool)(e:Env)(H:d8),LeO (I2 P C ops i q l e H) (I2 P D ops i q l e H):=by
 intro l;induction l with
 |nil=>intro i q e H r u;exact u
 |cons o l J=>
  intro i q e H r u;simp only[I2]at u ⊢;by_cases y:X4 ops e o=true
  .rw[if_pos y]at u;cases u
  simp only[if_neg y]at u ⊢;split
  .rename_i I;rw[if_pos I]at u;cases E:aop P C o.op e H with
   |none=>simp [E]at u
   |some x=>
    rw[X2 h _ _ _ _ E];rw[E]at u;obtain⟨v,x⟩:=x;cases x with
    |none=>exact J _ _ _ _ _ u
    |some H'=>
     simp only at u ⊢;split
     .rename_i z;rw[if_pos z]at u;exact R0 h _ _ _ _ u
     .rename_i z;rw[if_neg z]at u;exact u
  .rename_i I;rw[if_neg I]at u;exact J _ _ _ _ _ u
theorem lj{C D:A8}(h:LeC C D){ops:Array Oper}:∀(l:List (Oper×Nat×Nat))(t:Nat)(J:List (Nat×d8))(y:List (Op×Env×Value×Nat))(e:Env)(H:d8),LeO (I7 P C ops t J y l e H) (I7 P D ops t J y l e H):=by
 intro l;induction l with
 |nil=>intro t J y e H r u;exact u
 |cons o l I=>
  obtain⟨o,lo,hi⟩:=o;intro t J y e H r u;simp only[I7]at u ⊢;by_cases E:X4 ops e o=true
  .rw[if_pos E]at u;cases u
  simp only[if_neg E]at u ⊢;split
  .rename_i W;rw[if_pos W]at u;split
   .rename_i z;rw[if_pos z]at u;cases U:aop P C o.op e H with
    |none=>simp [U]at u
    |some x=>
     rw[X2 h _ _ _ _ U];rw[U]at u;obtain⟨v,x⟩:=x;simp only at u ⊢;split
     .rename_i O;rw[if_pos O]at u;exact I _ _ _ _ _ _ u
     .rename_i O;rw[if_neg O]at u;exact u
   .rename_i z;rw[if_neg z]at u;split at u
    .rename_i v hv;split at u
     .rename_i S;rw[if_pos S];split at u
      .rename_i hc;rw[if_pos hc];exact I _ _ _ _ _ _ u
      .cases u
     .rename_i S;rw[if_neg S];exact I _ _ _ _ _ _ u
    .cases u
  .rename_i W;rw[if_neg W]at u;split
   .rename_i z;rw[if_pos z]at u;exact I _ _ _ _ _ _ u
   .rename_i z;rw[if_neg z]at u;exact I _ _ _ _ _ _ u
theorem wR{C D:A8}(h:LeC C D){ops:Array Oper}(e:Env)(H:d8):LeO (aR P C ops e H) (aR P D ops e H):=by
 intro r u;unfold aR at u ⊢;split
 .rename_i y;rw[if_pos y]at u;split
  .rename_i z;rw[if_pos z]at u;exact lj h _ _ _ _ _ _ _ u
  .rename_i z;rw[if_neg z]at u;exact u
 .rename_i y;rw[if_neg y]at u;exact jI h _ _ _ _ _ _ u
theorem fZ{ds:List Nat}{e u z:Env}{n:Nat}{h H2:d8}{x y:Option (Out×Env×d8)}(E:x=some (.normal,u,h))(I:y=some (.normal,z,H2))(D:N4 n h=N4 n H2):
  nG ds e n x y=some (.normal,ds.map (fun d=>(d,lost))++e,N4 n h):=by
 subst E I;exact if_pos D
theorem aZ{C D:A8}(h:LeC C D):∀(k J:Nat),k<=J->∀(c:Code)(e:Env)(H:d8),LeO (L5 P C k c e H) (L5 P D J c e H):=by
 intro k;induction k with
 |zero=>intro J _ c e H r u;cases u
 |succ k ih=>
  intro J hk c e H r u;obtain⟨J,rfl⟩:∃m,J=m+1:=⟨J-1,oM⟩
  have I:=fun c e H r(u:L5 P C k c e H=some r)=>ih J oM c e H r u;cases c<;>simp only[L5]at u ⊢ <;>try exact u
  case region id ops O=>
   cases O
   .simp only[bF]at u ⊢;cases E:D1 P C ops ops.toList e H with
    |none=>simp [E]at u
    |some x=>rw[R0 h _ _ _ _ E];rw[E]at u;exact u
   .simp only[if_true]at u ⊢;cases E:aR P C ops e H with
    |none=>simp [E]at u
    |some x=>rw[wR h _ _ _ E];rw[E]at u;exact u
  case seq x y=>
   cases hz:eM x y with
   |some z=>
    simp only[hz]at u ⊢;cases S:D1 P C z.ops z.l1 e H with
    |none=>simp [S]at u
    |some q1=>
     cases U:D1 P C z.ops z.l2 e H with
     |none=>simp [S,U]at u
     |some q2=>
      obtain⟨e1,H1⟩:=q1;obtain⟨e2,H2⟩:=q2;rw[S,U]at u;rw[R0 h _ _ _ _ S,R0 h _ _ _ _ U];obtain⟨o,e',H'⟩:=r;obtain⟨e3,H3,e4,H4,g1,g2,g3,rfl,rfl,rfl⟩:=U7 u;exact fZ (I _ _ _ _ g1) (I _ _ _ _ g2) g3
   |none=>
   simp only[hz]at u ⊢;cases E:L5 P C k x e H with
   |none=>simp [E]at u
   |some z=>
    rw[I _ _ _ _ E];rw[E]at u;obtain⟨o,e',H'⟩:=z;cases o with
    |normal=>exact I _ _ _ _ u
    |exit id=>exact u
    |ret=>exact u
  case cond x y z=>
   split
   .rename_i t ht;rw[ht]at u;exact I _ _ _ _ u
   .rename_i W;split at u
    .rename_i t ht;exact absurd ht (W t)
    .exact u
  case block id x=>
   cases E:L5 P C k x e H with
   |none=>simp [E]at u
   |some z=>rw[I _ _ _ _ E];rw[E]at u;exact u
  case loop x=>
   cases E:L5 P C k x e H with
   |none=>simp [E]at u
   |some z=>
    rw[I _ _ _ _ E];rw[E]at u;obtain⟨o,e',H'⟩:=z;cases o with
    |normal=>exact I _ _ _ _ u
    |exit id=>exact u
    |ret=>exact u
  case scope x=>exact I _ _ _ _ u
theorem jV{ex y:Code->Env->d8->Option (Out×Env×d8)}(h:∀c e H,LeO (ex c e H) (y c e H)) (f:FuncId) (args:LV) (H:d8):LeO (body P ex f args H) (body P y f args H):=by
 intro r u;unfold body at u ⊢;split
 .rename_i c J O D;rw[D]at u;simp only at u ⊢;split
  .rename_i E;rw[if_pos E]at u;cases I:ex c (N3 0 args) ⟨H.bs,H.bs.length⟩with
   |none=>simp [I]at u
   |some z=>rw[h _ _ _ _ I];rw[I]at u;exact u
  .rename_i E;rw[if_neg E]at u;exact u
 .rename_i D;rw[D]at u;exact u
theorem M7{X:Lib}:∀(k h:Nat),k<=h->LeC (call P X k) (call P X h):=by
 intro k;induction k with
 |zero=>intro h _ f args H r u;cases u
 |succ k z=>
  intro h D f args H r u;obtain⟨h,rfl⟩:∃m,h=m+1:=⟨h-1,oM⟩
  simp only[call]at u ⊢;split
  .rename_i g y;rw[y]at u;exact u
  .rename_i y;rw[y]at u;exact jV (aZ (z h oM) k h oM) f args H r u
open Classical in
noncomputable def lim{α:Type}(x:Nat->Option α):Option α:=if h:∃k r,x k=some r then some (Classical.choose (Classical.choose_spec h)) else none
theorem nO{α:Type}{x:Nat->Option α}(D:∀k E,k<=E->LeO (x k) (x E)) {r:α}:lim x=some r↔∃k,x k=some r:=by
 unfold lim
 constructor
 .intro h;split at h
  .rename_i y;cases h;exact⟨_,Classical.choose_spec (Classical.choose_spec y)⟩
  .cases h
 .rintro⟨k,y⟩;have u:∃k r,x k=some r:=⟨k,r,y⟩
  rw[dif_pos u];have I:=Classical.choose_spec (Classical.choose_spec u);have J:=D _ (max k (Classical.choose u)) (Nat.le_max_right _ _) _ I;have z:=D _ (max k (Classical.choose u)) (Nat.le_max_left _ _) _ y;rw[J]at z;exact z
noncomputable def CL(P:Program)(X:Lib):A8:=fun f args H=>lim fun k=>call P X k f args H
noncomputable def EL(P:Program)(X:Lib)(c:Code)(e:Env)(H:d8):Option (Out×Env×d8):=lim fun k=>L5 P (CL P X) k c e H
theorem bZ{X:Lib}{f:FuncId}{args:LV}{H:d8}{r:Value×Option d8}:CL P X f args H=some r↔∃k,call P X k f args H=some r:=
 nO fun k u h=>M7 k u h f args H
theorem yV{X:Lib}{c:Code}{e:Env}{H:d8}{r:Out×Env×d8}:EL P X c e H=some r↔∃k,L5 P (CL P X) k c e H=some r:=
 nO fun k u h=>aZ (fun _ _ _=>LeO.refl _) k u h c e H
theorem sE{α:Type}{x y:Option α}(h:∀r,x=some r↔y=some r):x=y:=by
 cases x with
 |some a=>exact((h a).1 rfl).symm
 |none=>cases y with
  |none=>rfl
  |some b=>exact(h b).2 rfl
variable{X:Lib}
def S4(x:Option (Env×d8)):Option (Out×Env×d8):=x.map fun(e,H)=>(.normal,e,H)
abbrev Of{β:Sort _}(_:β)(α:Type _):Type _:=α
def u9(x:Option (Out×Env×d8))(f:Env->d8->Option (Out×Env×d8)):Of f (Option (Out×Env×d8)):=
 match x with
 |some (.normal,e,H)=>f e H
 |r=>r
@[simp] theorem dM (e:Env) (H:d8) (f:Env->d8->Option (Out×Env×d8)):u9 (some (.normal,e,H)) f=f e H:=rT
@[simp] theorem oZ (e:Env) (H:d8) (f:Env->d8->Option (Out×Env×d8)):u9 (some (.ret,e,H)) f=some (.ret,e,H):=rT
@[simp] theorem vM (i:Nat) (e:Env) (H:d8) (f:Env->d8->Option (Out×Env×d8)):u9 (some (.exit i,e,H)) f=some (.exit i,e,H):=rT
def inBlock(id:Nat)(x:Option (Out×Env×d8)):Option (Out×Env×d8):=
 match x with
 |some (.exit i,e,H)=>if i=id then some (.normal,e,H) else some (.exit i,e,H)
 |r=>r
@[simp] theorem fX (id:Nat) (e:Env) (H:d8):inBlock id (some (.normal,e,H))=some (.normal,e,H):=rT
@[simp] theorem kQ (id:Nat) (e:Env) (H:d8):inBlock id (some (.ret,e,H))=some (.ret,e,H):=rT
@[simp] theorem eT (id i:Nat) (e:Env) (H:d8):inBlock id (some (.exit i,e,H))=if i=id then some (.normal,e,H) else some (.exit i,e,H):=rT
theorem iq{o:Op}{e:Env}{H:d8}{r:Value×Option d8}(h:aop P (CL P X) o e H=some r):∃k,aop P (call P X k) o e H=some r:=by
 by_cases u:∃c,o= .call c
 .obtain⟨c,rfl⟩:=u;simp only[aop,fI]at h ⊢;split at h
  .rename_i b z;exact⟨0,h⟩
  .rename_i f D;split at h
   .obtain⟨k,y⟩:=bZ.1 h;exact⟨k,y⟩
   .cases h
  .cases h
 .refine⟨0,?_⟩;rw[<-h];cases o<;>first|rfl|(exact absurd ⟨_,rfl⟩ u)|(rename_i x;cases x<;>rfl)
theorem bI{ops:Array Oper}:∀(l:List Oper){e:Env}{H:d8}{r:Env×d8},D1 P (CL P X) ops l e H=some r->∃k,D1 P (call P X k) ops l e H=some r:=by
 intro l;induction l with
 |nil=>intro e H r h;exact⟨0,h⟩
 |cons o l U=>
  intro e H r h;simp only[D1]at h ⊢;by_cases y:X4 ops e o=true
  .rw[if_pos y]at h;cases h
  simp only[if_neg y]at h ⊢;split at h
  .rename_i D;cases S:aop P (CL P X) o.op e H with
   |none=>simp [S]at h
   |some z=>
    rw[S]at h;obtain⟨k1,J⟩:=iq S;obtain⟨v,z⟩:=z;have u:∀H',D1 P (CL P X) ops l (I3 e o.dst v) H'=some r->∃k,D1 P (call P X k) ops l (I3 e o.dst v) H'=some r/\aop P (call P X k) o.op e H=some (v,z):=by
     intro H' W;obtain⟨k2,O⟩:=U W;exact⟨max k1 k2,R0 (M7 _ _ (Nat.le_max_right _ _)) _ _ _ _ O,X2 (M7 _ _ (Nat.le_max_left _ _)) _ _ _ _ J⟩
    cases z with
    |none=>obtain⟨k,E,I⟩:=u _ h;exact⟨k,by rw[if_pos D,I];exact E⟩
    |some H'=>obtain⟨k,E,I⟩:=u _ h;exact⟨k,by rw[if_pos D,I];exact E⟩
  .rename_i D;obtain⟨k,hk⟩:=U h;exact⟨k,by rw[if_neg D];exact hk⟩
theorem oJ{ops:Array Oper}:∀(l:List Oper){i:Nat}{q:Bool}{e:Env}{H:d8}{r:Env×d8},I2 P (CL P X) ops i q l e H=some r->∃k,I2 P (call P X k) ops i q l e H=some r:=by
 intro l;induction l with
 |nil=>intro i q e H r h;exact⟨0,h⟩
 |cons o l O=>
  intro i q e H r h;simp only[I2]at h ⊢;by_cases D:X4 ops e o=true
  .rw[if_pos D]at h;cases h
  simp only[if_neg D]at h ⊢;split at h
  .rename_i E;cases I:aop P (CL P X) o.op e H with
   |none=>simp [I]at h
   |some z=>
    rw[I]at h;obtain⟨S,y⟩:=iq I;obtain⟨v,z⟩:=z;cases z with
    |none=>
     obtain⟨J,u⟩:=O h;exact⟨max S J,by rw[if_pos E,X2 (M7 _ _ (Nat.le_max_left _ _)) _ _ _ _ y];exact jI (M7 _ _ (Nat.le_max_right _ _)) _ _ _ _ _ _ u⟩
    |some H'=>
     simp only at h;split at h
     .obtain⟨J,u⟩:=bI _ h;refine⟨max S J,?_⟩;rw[if_pos E,X2 (M7 _ _ (Nat.le_max_left _ _)) _ _ _ _ y];simp only;rw[if_pos (by assumption)];exact R0 (M7 _ _ (Nat.le_max_right _ _)) _ _ _ _ u
     .cases h
  .rename_i E;obtain⟨k,U⟩:=O h;exact⟨k,by rw[if_neg E];exact U⟩
theorem pH{ops:Array Oper}:∀(l:List (Oper×Nat×Nat)){t:Nat}{J:List (Nat×d8)}{u:List (Op×Env×Value×Nat)}{e:Env}{H:d8}{r:Env×d8},I7 P (CL P X) ops t J u l e H=some r->∃k,I7 P (call P X k) ops t J u l e H=some r:=by
 intro l;induction l with
 |nil=>intro t J u e H r h;exact⟨0,h⟩
 |cons o l I=>
  obtain⟨o,lo,hi⟩:=o;intro t J u e H r h;simp only[I7]at h ⊢;by_cases E:X4 ops e o=true
  .rw[if_pos E]at h;cases h
  simp only[if_neg E]at h ⊢;split at h
  .rename_i D;split at h
   .rename_i y;cases W:aop P (CL P X) o.op e H with
    |none=>simp [W]at h
    |some z=>
     rw[W]at h;obtain⟨k1,S⟩:=iq W;obtain⟨v,z⟩:=z;simp only at h;split at h
     .rename_i hb;obtain⟨k2,U⟩:=I h;exact⟨max k1 k2,by rw[if_pos D,if_pos y,X2 (M7 _ _ (Nat.le_max_left _ _)) _ _ _ _ S];simp only;rw[if_pos hb];exact lj (M7 _ _ (Nat.le_max_right _ _)) _ _ _ _ _ _ _ U⟩
     .cases h
   .rename_i y;split at h
    .rename_i v hv;split at h
     .rename_i O;split at h
      .rename_i hc;obtain⟨k,q⟩:=I h;exact⟨k,by rw[if_pos D,if_neg y,if_pos O,if_pos hc];exact q⟩
      .cases h
     .rename_i O;obtain⟨k,q⟩:=I h;exact⟨k,by rw[if_pos D,if_neg y,if_neg O];exact q⟩
    .cases h
  .rename_i D;split at h
   .rename_i y;obtain⟨k,q⟩:=I h;exact⟨k,by rw[if_neg D,if_pos y];exact q⟩
   .rename_i y;obtain⟨k,q⟩:=I h;exact⟨k,by rw[if_neg D,if_neg y];exact q⟩
theorem rK{ops:Array Oper}{e:Env}{H:d8}{r:Env×d8}(h:aR P (CL P X) ops e H=some r):∃k,aR P (call P X k) ops e H=some r:=by
 unfold aR at h ⊢;split at h
 .rename_i u;split at h
  .rename_i y;obtain⟨k,q⟩:=pH _ h;exact⟨k,by rw[if_pos u,if_pos y];exact q⟩
  .cases h
 .rename_i u;obtain⟨k,q⟩:=oJ _ h;exact⟨k,by rw[if_neg u];exact q⟩
theorem uj:∀(k:Nat){c:Code}{e:Env}{H:d8}{r:Out×Env×d8},L5 P (CL P X) k c e H=some r->∃j,L5 P (call P X j) k c e H=some r:=by
 intro k;induction k with
 |zero=>intro c e H r h;cases h
 |succ k O=>
  intro c e H r h;have u:∀{j J:Nat}{c:Code}{e:Env}{H:d8}{r},j<=J->L5 P (call P X j) k c e H=some r->L5 P (call P X J) k c e H=some r:=fun D h=>aZ (M7 _ _ D) _ _ lR _ _ _ _ h;cases c<;>simp only[L5]at h ⊢ <;>try exact⟨0,h⟩
  case region id ops S=>
   cases S
   .simp only[bF]at h ⊢;cases E:D1 P (CL P X) ops ops.toList e H with
    |none=>simp [E]at h
    |some z=>obtain⟨j,D⟩:=bI _ E;rw[E]at h;exact⟨j,by rw[D];exact h⟩
   .simp only[if_true]at h ⊢;cases E:aR P (CL P X) ops e H with
    |none=>simp [E]at h
    |some z=>obtain⟨j,D⟩:=rK E;rw[E]at h;exact⟨j,by rw[D];exact h⟩
  case seq x y=>
   cases hz:eM x y with
   |some z=>
    simp only[hz]at h ⊢;cases U:D1 P (CL P X) z.ops z.l1 e H with
    |none=>simp [U]at h
    |some q1=>
     cases h2:D1 P (CL P X) z.ops z.l2 e H with
     |none=>simp [U,h2]at h
     |some q2=>
      obtain⟨e1,H1⟩:=q1;obtain⟨e2,H2⟩:=q2;rw[U,h2]at h;obtain⟨o,e',H'⟩:=r;obtain⟨e3,H3,e4,H4,g1,g2,g3,rfl,rfl,rfl⟩:=U7 h;obtain⟨W,a1⟩:=bI _ U;obtain⟨J,I⟩:=bI _ h2;obtain⟨j3,a2⟩:=O g1;obtain⟨j4,a3⟩:=O g2;refine⟨max (max W J) (max j3 j4),?_⟩;rw[R0 (M7 _ _ (by omega:W<=max (max W J) (max j3 j4))) _ _ _ _ a1,R0 (M7 _ _ (by omega:J<=max (max W J) (max j3 j4))) _ _ _ _ I];exact fZ (u oM a2) (u oM a3) g3
   |none=>
   simp only[hz]at h ⊢;cases E:L5 P (CL P X) k x e H with
   |none=>simp [E]at h
   |some z=>
    obtain⟨j,D⟩:=O E;rw[E]at h;obtain⟨o,e',H'⟩:=z;cases o with
    |normal=>
     obtain⟨J,I⟩:=O h;exact⟨max j J,by rw[u (Nat.le_max_left _ _) D];exact u (Nat.le_max_right _ _) I⟩
    |exit i=>exact⟨j,by rw[D];exact h⟩
    |ret=>exact⟨j,by rw[D];exact h⟩
  case cond x y z=>
   split at h
   .rename_i ht;obtain⟨j,D⟩:=O h;exact⟨j,D⟩
   .cases h
  case block id x=>
   cases E:L5 P (CL P X) k x e H with
   |none=>simp [E]at h
   |some z=>obtain⟨j,D⟩:=O E;rw[E]at h;exact⟨j,by rw[D];exact h⟩
  case loop x=>
   cases E:L5 P (CL P X) k x e H with
   |none=>simp [E]at h
   |some z=>
    obtain⟨j,D⟩:=O E;rw[E]at h;obtain⟨o,e',H'⟩:=z;cases o with
    |normal=>
     obtain⟨J,I⟩:=O h;exact⟨max j J,by rw[u (Nat.le_max_left _ _) D];exact u (Nat.le_max_right _ _) I⟩
    |exit i=>exact⟨j,by rw[D];exact h⟩
    |ret=>exact⟨j,by rw[D];exact h⟩
  case scope x=>obtain⟨j,D⟩:=O h;exact⟨j,D⟩
theorem Ge{f:FuncId}(E:X f=none)(args:LV)(H:d8):CL P X f args H=body P (EL P X) f args H:=by
 refine sE fun r=>⟨fun h=>?_,fun h=>?_⟩
 .obtain⟨k,u⟩:=bZ.1 h;cases k with
  |zero=>cases u
  |succ k=>
   simp only[call,E]at u;refine jV (fun c e H r D=>?_) f args H r u;exact yV.2 ⟨k,aZ (fun f args H r D=>bZ.2 ⟨k,D⟩) k k lR c e H r D⟩
 .unfold body at h;split at h
  rotate_left
  .cases h
  rename_i c S U I;split at h
  rotate_left
  .cases h
  rename_i O;cases y:EL P X c (N3 0 args) ⟨H.bs,H.bs.length⟩with
  |none=>simp [y]at h
  |some z=>
   obtain⟨k,u⟩:=yV.1 y;obtain⟨j,J⟩:=uj k u;refine bZ.2 ⟨max j k+1,?_⟩;simp only[call,E,body,I,if_pos O];rw[aZ (M7 j (max j k) (Nat.le_max_left _ _)) k (max j k) (Nat.le_max_right _ _) _ _ _ _ J];rw[y]at h;exact h
theorem JI{f:FuncId}{g:LV->d8->Option (Value×Option d8)}(y:X f=some g)(args:LV)(H:d8):CL P X f args H=g args H:=by
 refine sE fun r=>⟨fun h=>?_,fun h=>bZ.2 ⟨1,by simp only[call,y];exact h⟩⟩
 obtain⟨k,u⟩:=bZ.1 h;cases k with
 |zero=>cases u
 |succ k=>simp only[call,y]at u;exact u
theorem AD{X Y:Lib}(h:∀f,X f=Y f\/(X f=none/\fnA P f=none)):∀k,LeC (call P X k) (call P Y k):=by
 intro k;induction k with
 |zero=>intro f args H r u;cases u
 |succ k D=>
  intro f args H r u;simp only[call]at u ⊢;rcases h f with e|⟨e,z⟩
  .rw[<-e];split
   .rename_i g y;rw[y]at u;exact u
   .rename_i y;rw[y]at u;exact jV (aZ D k k lR) f args H r u
  .rw[e]at u;simp only[body,z]at u;cases u
theorem Gf{X Y:Lib}(h:∀f,X f=Y f\/(X f=none/\fnA P f=none)):LeC (CL P X) (CL P Y):=by
 intro f args H r y;obtain⟨k,u⟩:=bZ.1 y;exact bZ.2 ⟨k,AD h k f args H r u⟩
end
def fO(r:Option (Value×Option d8))(H:d8)(f:Value->d8->Option (Env×d8)):Of f (Option (Env×d8)):=
 match r with
 |some (v,none)=>f v H
 |some (v,some H')=>f v H'
 |none=>none
def Ev(ops:Array Oper)(j:Nat)(b:Bool)(e:Env):Bool:=
 match(ops[j]?).bind (·.dst)with
 |some d=>isB (e.get d) b
 |none=>false
def DC{α:Type}(v:Value)(x y:Option α):Of x (Of y (Option α)):=
 match v with
 | .bool t=>if t then x else y
 |_=>none
def u5(P:Program)(rs:List ResultVar)(H:d8)(x:Option (Out×Env×d8)):Option (Value×Option d8):=
 match x with
 |some (.exit _,_,_)=>none
 |some (_,e,H')=>(rs.mapM (M0 P e H')).map fun vs=>D6 (bN vs) H H'
 |none=>none
section
variable{P:Program}{X:Lib}
theorem JK{f:FuncId}{c:Code}{u:Nat}{h:List ResultVar}(D:fnA P f=some (c,u,h))(y:X f=none)(args:LV)(E:args.length<=u)(H:d8):
  CL P X f args H=u5 P h H (EL P X c (N3 0 args) ⟨H.bs,H.bs.length⟩):=by
 rw[Ge y,body,D];simp only[if_pos E,u5];cases EL P X c (N3 0 args) ⟨H.bs,H.bs.length⟩with
 |none=>rfl
 |some z=>
  obtain⟨o,e,H'⟩:=z;cases o with
  |exit i=>rfl
  |normal=>simp only;cases List.mapM (M0 P e H') h<;>rfl
  |ret=>simp only;cases List.mapM (M0 P e H') h<;>rfl
theorem wM(v:Value)(H:d8)(f:Value->d8->Option (Env×d8)):fO (some (v,none)) H f=f v H:=rT
theorem wN(v:Value)(H H':d8)(f:Value->d8->Option (Env×d8)):fO (some (v,some H')) H f=f v H':=rT
theorem pD(e:Env)(H:d8):S4 (some (e,H))=some (.normal,e,H):=rT
theorem Es(k:Nat)(v:Value)(e:Env)(t:Nat):Env.get ((k,v)::e) t=if k=t then v else Env.get e t:=rT
theorem Cg(e:Env)(d:Nat)(v:Value):I3 e (some d) v=(d,v)::e:=rT
theorem Cf(e:Env)(v:Value):I3 e none v=e:=rT
theorem Is(e:Env)(t:Nat):opv e (.tmp t)=e.get t:=rT
theorem BW(e:Env)(v:Value):opv e (.const v)=v:=rT
theorem Fm(e:Env)(f:FuncId):opv e (.func f)= .func (.func f) #[] #[]:=rT
def kp(v:Option Value):Option (Value×Option d8):=keep v
theorem HK(v:Value):kp (some v)=some (v,none):=rT
def Fu(c x y:Value):Option Value:=
 match c with
 | .bool t=>some (if t then x else y)
 |_=>none
theorem xX(t:Bool)(x y:Value):Fu (.bool t) x y=some (if t=true then x else y):=by cases t<;>rfl
section
variable(C:A8)(e:Env)(H:d8)
theorem Di(x:Operand):aop P C (.move x) e H=kp (some (opv e x)):=rT
theorem wh(x:Operand):aop P C (.assign x) e H=kp (some (opv e x)):=rT
theorem Dk(c x y:Operand):aop P C (.pick c x y) e H=kp (Fu (opv e c) (opv e x) (opv e y)):=by
 simp only[aop,Fu,kp];cases opv e c<;>rfl
theorem Ai(t:TypeId):aop P C (.alloc t) e H=turn ((O9 P t).map fun z=>(.pointer (some ⟨H.next,0,none⟩),H.push (.cells z true 1))):=rT
theorem Gs(t:TypeId)(x:Operand):aop P C (.box t x) e H=if(opv e x).cells.toList.all oC=true then some (.pointer (some ⟨H.next,0,none⟩),some (H.push (.cells (opv e x).cells.toList true 1))) else none:=rT
theorem Aj(t:TypeId)(h:Array (Nat×Operand)):aop P C (.build t h) e H=kp (mE P t (h.toList.map fun p=>(p.1,opv e p.2))):=rT
theorem my(t:TypeId)(n:Nat)(h:Array (Nat×Operand)):aop P C (.buildSlice t n h) e H=turn (Q7 P H t n (h.toList.map fun p=>(p.1,opv e p.2))):=rT
theorem Dg(t:TypeId)(a:Operand):aop P C (.load t a) e H=kp (ld P t H (opv e a)):=rT
theorem Ap(t:TypeId)(a x:Operand):aop P C (.store t a x) e H=turn ((sto P t H (opv e a) (opv e x)).map fun H'=>(undef,H')):=rT
def Ie(v:Value):Option Value:=
 match v with
 | .pointer (some a)=>some (.pointer (some a))
 | .func (.func g) f c=>some (.func (.func g) f c)
 |_=>none
theorem rh(x:Operand):aop P C (.nilCheck x) e H=kp (Ie (opv e x)):=by
 simp only[aop,Ie,kp];split<;>first|rfl|(split<;>first|rfl|simp_all)
theorem Gr(op:BinOp)(t:TypeId)(x y:Operand)(h:TypeId):aop P C (.binOp op t x y h) e H=kp (F6 P op t (opv e x) (opv e y)):=rT
theorem JS(op:UnOp)(t:TypeId)(x:Operand):aop P C (.unOp op t x) e H=kp (unA op (opv e x)):=rT
theorem ti(s d:TypeId)(x:Operand):aop P C (.convert s d x) e H=Z4 P H s d (opv e x):=rT
theorem Df(g:FuncId)(f c:Array Operand):aop P C (.makeFunc (.func g) f c) e H=some (.func (.func g) (f.toList.map (opv e)).toArray (c.toList.map (opv e)).toArray,none):=rT
theorem Gt(t:TypeId):aop P C (.makeMap t none) e H=some (.map (some H.next),some (H.push (.map []))):=rT
theorem Dh(t:TypeId)(l c:Operand):aop P C (.makeSlice t l c) e H=turn (N0 P H t (opv e l) (opv e c)):=rT
theorem Ao(t:TypeId)(x:Operand)(lo h u:Option Operand):aop P C (.slice t x lo h u) e H=kp (aH P H t (opv e x) (lo.map (opv e)) (h.map (opv e)) (u.map (opv e))):=rT
theorem pk(t:TypeId)(x:Operand)(i:Nat):aop P C (.fieldAddr t x i) e H=kp (bf P t (opv e x) i):=rT
theorem Al(t:TypeId)(x:Operand)(i:Nat):aop P C (.field t x i) e H=kp (ke P t (opv e x) i):=rT
theorem pl(t:TypeId)(x i:Operand):aop P C (.indexAddr t x i) e H=kp (U5 P t (opv e x) (opv e i)):=rT
theorem Am(t:TypeId)(x i:Operand):aop P C (.index t x i) e H=kp (fY P t (opv e x) (opv e i)):=rT
theorem wi(t:TypeId)(m k:Operand)(ok:Bool):aop P C (.lookup t m k ok) e H=kp (gQ P H t (opv e m) (opv e k) ok):=rT
theorem pp(t:TypeId)(m k v:Operand):aop P C (.mapUpdate t m k v) e H=turn ((Y7 P H t (opv e m) (opv e k) (opv e v)).map fun H'=>(undef,H')):=rT
def yc(P:Program)(t:TypeId)(H:d8)(v:Value):Option (Value×Option d8):=
 match P.underlying t,v with
 |some .string,.string s=>some (.pointer (some ⟨H.next,0,none⟩),some (H.push (.iter s 0)))
 |_,_=>none
theorem An(t:TypeId)(x:Operand):aop P C (.range t x) e H=yc P t H (opv e x):=rT
theorem Dj(it:Operand):aop P C (.next it true) e H=jB H (opv e it):=rT
def mS(v:Value)(i:Nat):Option Value:=
 match v with
 | .tuple vs=>if vs.toList.length<9 then vs.toList[i]? else none
 |_=>none
theorem mT(h:Array Value)(i:Nat):mS (.tuple h) i=if h.toList.length<9 then h.toList[i]? else none:=rT
theorem tm(x:Operand)(i:Nat):aop P C (.extract x i) e H=kp (mS (opv e x) i):=by
 simp only[aop,mS,kp];cases opv e x with
 |tuple u=>by_cases h:u.toList.length<9<;>simp only[h,if_true,if_false]<;>rfl
 |_=>rfl
theorem th(b:Builtin)(xs:Array Operand)(ts:Array TypeId):aop P C (.call ⟨.builtin b,xs,ts⟩) e H=D7 P b ts.toList (xs.toList.map (opv e)) H:=rT
def fC(C:A8)(f:Value)(args:LV)(H:d8):Option (Value×Option d8):=
 match f with
 | .func (.func g) first captured=>C g (first.toList++args++captured.toList) H
 |_=>none
theorem tu(g:FuncId)(f c:Array Value)(args:LV):fC C (.func (.func g) f c) args H=C g (f.toList++args++c.toList) H:=rT
theorem De(f:Operand)(xs:Array Operand)(ts:Array TypeId):aop P C (.call ⟨.value f,xs,ts⟩) e H=fC C (opv e f) (xs.toList.map (opv e)) H:=rT
theorem CD(v:Value)(H':d8):turn (some (v,H'))=some (v,some H'):=rT
theorem Gv(t:TypeId)(k:IntKind)(a b:Int):F6 P .add t (.int k a) (.int k b)=some (.int k (k.wrap (a+b))):=by simp [F6]
theorem GF(t:TypeId)(k:IntKind)(a b:Int):F6 P .sub t (.int k a) (.int k b)=some (.int k (k.wrap (a-b))):=by simp [F6]
theorem GC(t:TypeId)(k:IntKind)(a b:Int):F6 P .mul t (.int k a) (.int k b)=some (.int k (k.wrap (a*b))):=by simp [F6]
theorem GE(t:TypeId)(k:IntKind)(a b:Int)(h:b≠0):F6 P .rem t (.int k a) (.int k b)=some (.int k (a.tmod b)):=by simp [F6,h]
theorem Gw(t:TypeId)(k:IntKind)(a b:Int):F6 P .and t (.int k a) (.int k b)=some (.int k (Go.bits .and k a b)):=by simp [F6]
theorem JV(t:TypeId)(k:IntKind)(a b:Int):F6 P .or t (.int k a) (.int k b)=some (.int k (Go.bits .or k a b)):=by simp [F6]
theorem GG(t:TypeId)(k:IntKind)(a b:Int):F6 P .xor t (.int k a) (.int k b)=some (.int k (Go.bits .xor k a b)):=by simp [F6]
theorem wl(t:TypeId)(k:IntKind)(a b:Int):F6 P .andNot t (.int k a) (.int k b)=some (.int k (Go.bits .andNot k a b)):=by simp [F6]
theorem GB(t:TypeId)(k:IntKind)(a b:Int):F6 P .lss t (.int k a) (.int k b)=some (.bool (decide (a<b))):=by simp [F6]
theorem Gz(t:TypeId)(k:IntKind)(a b:Int):F6 P .leq t (.int k a) (.int k b)=some (.bool (decide (a<=b))):=by simp [F6]
theorem Gy(t:TypeId)(k:IntKind)(a b:Int):F6 P .gtr t (.int k a) (.int k b)=some (.bool (decide (b<a))):=by simp [F6]
theorem Gx(t:TypeId)(k:IntKind)(a b:Int):F6 P .geq t (.int k a) (.int k b)=some (.bool (decide (b<=a))):=by simp [F6]
theorem tB(t:TypeId)(k:IntKind)(a b:Int):F6 P .eql t (.int k a) (.int k b)=some (.bool (decide (a=b))):=by simp [F6,eqA];rfl
theorem tI(t:TypeId)(k:IntKind)(a b:Int):F6 P .neq t (.int k a) (.int k b)=some (.bool (!decide (a=b))):=by simp [F6,eqA];rfl
theorem sO(a b:ByteArray):(a==b)=decide (a=b):=by
 rw[Bool.eq_iff_iff,decide_eq_true_iff]
 constructor
 .intro h;rw[beq_toListBytes,beq_iff_eq,ByteArray.toList_eq,ByteArray.toList_eq]at h;have u:=Array.toList_inj.1 h;obtain⟨a⟩:=a;obtain⟨b⟩:=b;simp only at u;rw[u]
 .rintro rfl;exact jX _
theorem tC(t:TypeId)(a b:ByteArray):F6 P .eql t (.string a) (.string b)=some (.bool (decide (a=b))):=by simp [F6,eqA,sO]
theorem tJ(t:TypeId)(a b:ByteArray):F6 P .neq t (.string a) (.string b)=some (.bool (!decide (a=b))):=by simp [F6,eqA,sO]
theorem rm(t:TypeId)(a b:Bool)(h:vI P t=true):F6 P .eql t (.bool a) (.bool b)=some (.bool (a==b)):=by simp [F6,eqA,h]
theorem eI(t:TypeId)(a b:Bool)(h:vI P t=true):F6 P .neq t (.bool a) (.bool b)=some (.bool (!(a==b))):=by simp [F6,eqA,h]
theorem Z3(t:TypeId)(a b:ByteArray)(h:a.size+b.size<=9223372036854775807):F6 P .add t (.string a) (.string b)=some (.string (a++b)):=by simp [F6,h]
theorem MH(b:Bool):unA .not (.bool b)=some (.bool !b):=rT
theorem MG(k:IntKind)(n:Int):unA .neg (.int k n)=some (.int k (k.wrap (0-n))):=rT
theorem bap(ts:List TypeId)(s x:Value):D7 P .append ts [s,x] H=C2 P H ts s x:=rT
theorem bcp(ts:List TypeId)(s x:Value):D7 P .copy ts [s,x] H=kI P H ts s x:=rT
end
theorem Ic(b:Bool):L9 (.bool b)=true:=rT
theorem LW(k:IntKind)(n:Int):L9 (.int k n)=true:=rT
theorem BN(s:ByteArray):L9 (.string s)=true:=rT
theorem Fp(v:Value):bN [v]=v:=rT
theorem Fq(a b:Value):bN [a,b]= .tuple #[a,b]:=rT
theorem xW(a b c:Value):bN [a,b,c]= .tuple #[a,b,c]:=rT
theorem qB(a b:Value):L9 (.tuple #[a,b])=(na1 a&&na1 b):=by simp [L9]
theorem qC(a b c:Value):L9 (.tuple #[a,b,c])=(na1 a&&(na1 b&&na1 c)):=by simp [L9]
theorem Fa(b:Bool):na1 (.bool b)=true:=rT
theorem Ia(k:IntKind)(n:Int):na1 (.int k n)=true:=rT
theorem xO(s:ByteArray):na1 (.string s)=true:=rT
theorem BM(a:Addr)(n c:Nat):na1 (.slice (some a) n c)=false:=rT
theorem Ib:na1 (.slice none 0 0)=true:=rT
theorem Fb(a:Addr)(n c:Nat):L9 (.slice (some a) n c)=false:=rT
theorem LX:L9 (.slice none 0 0)=true:=rT
theorem mD(h:List ResultVar)(H:d8)(e:Env)(H':d8):u5 P h H (some (.normal,e,H'))=(h.mapM (M0 P e H')).map fun u=>D6 (bN u) H H':=rT
theorem tL(h:List ResultVar)(H:d8)(e:Env)(H':d8):u5 P h H (some (.ret,e,H'))=(h.mapM (M0 P e H')).map fun u=>D6 (bN u) H H':=rT
theorem IA(e:Env)(H:d8)(t:Nat):[ResultVar.tmp t].mapM (M0 P e H)=some [e.get t]:=rT
theorem IB(e:Env)(H:d8)(t u:Nat):[ResultVar.tmp t,.tmp u].mapM (M0 P e H)=some [e.get t,e.get u]:=rT
theorem Cn(e:Env)(H:d8)(t u v:Nat):[ResultVar.tmp t,.tmp u,.tmp v].mapM (M0 P e H)=some [e.get t,e.get u,e.get v]:=rT
end
def br{α:Type}(t:Bool)(x y:α):Of x (Of y α):=if t=true then x else y
theorem GJ{α:Type}(x y:α):br true x y=x:=rT
theorem Dn{α:Type}(x y:α):br false x y=y:=rT
theorem JX{α:Type}(t:Bool)(x y:α):br (!t) x y=br t y x:=by cases t<;>rfl
section
variable{P:Program}{X:Lib}
@[congr] theorem MN {c:Code} {e e':Env} {H H':d8} (he:e=e') (hH:H=H'):EL P X c e H=EL P X c e' H':=by rw[he,hH]
@[congr] theorem IH {C:A8} {ops:Array Oper} {l:List Oper} {e e':Env} {H H':d8} (he:e=e') (hH:H=H'):D1 P C ops l e H=D1 P C ops l e' H':=by rw[he,hH]
@[congr] theorem Hy {ops:Array Oper} {j:Nat} {b:Bool} {e e':Env} (he:e=e'):Ev ops j b e=Ev ops j b e':=by rw[he]
end
theorem DD{α:Type}(t:Bool)(x y:Option α):DC (.bool t) x y=br t x y:=by cases t<;>rfl
section
variable{P:Program}{X:Lib}
def qg(r:Option (Value×Option d8))(f:Value->Option (Env×d8))(g:Value->d8->Option (Env×d8)):Of f (Of g (Option (Env×d8))):=
 match r with
 |some (v,none)=>f v
 |some (v,some H')=>g v H'
 |none=>none
theorem wJ(v:Value)(f:Value->Option (Env×d8))(g:Value->d8->Option (Env×d8)):qg (some (v,none)) f g=f v:=rT
theorem wK(v:Value)(H':d8)(f:Value->Option (Env×d8))(g:Value->d8->Option (Env×d8)):qg (some (v,some H')) f g=g v H':=rT
theorem Bv(f:Operand)(a:Array Operand)(t:Array TypeId):isCall (.call ⟨.value f,a,t⟩)=true:=rT
theorem Bu(f:Builtin)(a:Array Operand)(t:Array TypeId):isCall (.call ⟨.builtin f,a,t⟩)=false:=rT
theorem uG(x:Operand):isCall (.move x)=false:=rT
theorem pA(x:Operand):isCall (.assign x)=false:=rT
theorem uH(x y z:Operand):isCall (.pick x y z)=false:=rT
theorem xB(o:BinOp)(t:TypeId)(x y:Operand)(u:TypeId):isCall (.binOp o t x y u)=false:=rT
theorem Bw(o:UnOp)(t:TypeId)(x:Operand):isCall (.unOp o t x)=false:=rT
theorem uE(t:TypeId)(x:Operand):isCall (.load t x)=false:=rT
theorem rU(t:TypeId)(x:Operand)(i:Nat):isCall (.field t x i)=false:=rT
theorem kh(t:TypeId)(x:Operand)(i:Nat):isCall (.fieldAddr t x i)=false:=rT
theorem rV(t:TypeId)(x i:Operand):isCall (.index t x i)=false:=rT
theorem ki(t:TypeId)(x i:Operand):isCall (.indexAddr t x i)=false:=rT
theorem nB(s t:TypeId)(x:Operand):isCall (.convert s t x)=false:=rT
theorem nF(x:Operand)(i:Nat):isCall (.extract x i)=false:=rT
theorem rS(t:TypeId)(p:Array (Nat×Operand)):isCall (.build t p)=false:=rT
theorem rX(t:TypeId)(x:Operand)(a b c:Option Operand):isCall (.slice t x a b c)=false:=rT
theorem pB(t:TypeId)(x y:Operand)(b:Bool):isCall (.lookup t x y b)=false:=rT
def brl{α:Type}(v:Value)(b:Bool)(x y:Option α):Of x (Of y (Option α)):=if xC v=true then none else if isB v b=true then x else y
theorem Dp{α:Type}(t:Bool)(x y:Option α):brl (.bool t) true x y=br t x y:=by cases t<;>rfl
theorem Ay{α:Type}(t:Bool)(x y:Option α):brl (.bool t) false x y=br t y x:=by cases t<;>rfl
theorem GK{α:Type}(b:Bool)(x y:Option α):brl undef b x y=y:=by cases b<;>rfl
end
section
variable{H:d8}{B:Blk}{b c:Nat}
theorem i5:(H.push B).next=H.next+1:=by simp [d8.next,d8.push]
theorem t5:(H.put b B).next=H.next:=by simp [d8.next,d8.put]
theorem j9:(H.push B).get H.next=some B:=by simp [d8.get,d8.push,d8.next]
theorem y7(h:b<=H.next/\H.next<=b):(H.push B).get b=some B:=by
 obtain rfl:b=H.next:=oM;exact j9
theorem i7(h:b<H.next):(H.push B).get b=H.get b:=by
 simp only[d8.get,d8.push];exact List.getElem?_append_left h
theorem j5(h:b<H.next):(H.put b B).get b=some B:=by
 simp only[d8.get,d8.put,List.getElem?_set];simp;exact h
theorem j6(h:b≠c):(H.put b B).get c=H.get c:=by
 simp only[d8.get,d8.put,List.getElem?_set,if_neg h]
theorem u7(h:H.get b=some B):b<H.next:=(gS h).1
theorem l9:(H.push B).low=H.low:=rT
theorem A4:(H.put b B).low=min H.low b:=rT
theorem zG(bs:List Blk)(n:Nat):(⟨bs,n⟩:d8).next=bs.length:=rT
theorem uP(H:d8):H.bs.length=H.next:=rT
end
section
variable{P:Program}
def ldB(P:Program)(t:TypeId)(o:Nat)(B:Option Blk):Option Value:=
 match B with
 |some (.cells c _ _)=>
  match bT P t with
  |some true=>
   match D8 P t with
   |some s=>if o+s<=c.length then some (.agg ((c.drop o).take s).toArray) else none
   |none=>none
  |some false=>c[o]?
  |none=>none
 |_=>none
theorem LF(t:TypeId)(H:d8)(b o:Nat):ld P t H (.pointer (some ⟨b,o,none⟩))=ldB P t o (H.get b):=by
 simp only[ld,ldB];cases H.get b with
 |none=>rfl
 |some B=>cases B<;>rfl
def ldC(a:Option Bool)(s:Option Nat)(o:Nat)(c:LV):Option Value:=
 match a with
 |some true=>
  match s with
  |some s=>if o+s<=c.length then some (.agg ((c.drop o).take s).toArray) else none
  |none=>none
 |some false=>c[o]?
 |none=>none
theorem BA(t:TypeId)(o:Nat)(c:LV)(own:Bool)(sz:Nat):ldB P t o (some (.cells c own sz))=ldC (bT P t) (D8 P t) o c:=rT
theorem eW(s o:Nat)(c:LV)(h:o+s<=c.length):ldC (some true) (some s) o c=some (.agg ((c.drop o).take s).toArray):=by simp [ldC,h]
theorem mY{α:Type}{enc:α->LV}{sz:Nat}(hs:∀a,(enc a).length=sz):∀{l:List α}{i:Nat}{a:α},l[i]?=some a->i*sz+sz<=(l.flatMap enc).length/\((l.flatMap enc).drop (i*sz)).take sz=enc a
 |[],i,a,h=>by simp at h
 |x::l,0,a,h=>by
  simp at h;subst h;have:=hs x;simp only[List.flatMap_cons,Nat.zero_mul,List.drop_zero,List.length_append,this,Nat.zero_add];refine⟨oM,?_⟩;rw[<-this,List.take_append_of_le_length lR,List.take_length]
 |x::l,i+1,a,h=>by
  have y:=hs x;obtain⟨z,u⟩:=mY hs (l:=l) (i:=i) (a:=a) (by simpa using h);have e:(i+1)*sz=(enc x).length+i*sz:=by rw[y,Nat.add_mul];omega
  rw[List.flatMap_cons,e];refine⟨by rw[List.length_append];omega,?_⟩;rw[<-List.drop_drop,List.drop_left];exact u
theorem HL(s:Option Nat)(o:Nat)(c:LV):ldC (some false) s o c=c[o]?:=rT
theorem Fz(e:Env)(H:d8)(a:Nat)(t:TypeId):[ResultVar.cell a t].mapM (M0 P e H)=(ld P t H (e.get a)).map fun v=>[v]:=by
 simp only[List.mapM_cons,List.mapM_nil,M0];cases ld P t H (e.get a)<;>rfl
def A3(s:ByteArray)(i:Nat):Int:=(s.data.toList.getD i 0).toNat
def Lw(d:Option TypeDesc)(s:ByteArray)(i:Nat):Option Value:=
 match d with
 |some .string=>some (.int .u8 (A3 s i))
 |_=>none
theorem Ez(s:ByteArray)(i:Nat):Lw (some .string) s i=some (.int .u8 (A3 s i)):=rT
theorem xA(t:TypeId)(s:ByteArray)(k:IntKind)(i:Int)(h:0<=i)(u:i<s.size):fY P t (.string s) (.int k i)=Lw (P.underlying t) s i.toNat:=by
 simp only[fY,Lw];cases P.underlying t with
 |none=>rfl
 |some d=>cases d<;>first|rfl|(simp [h,u,A3])
def HE(P:Program)(d:Option TypeDesc)(cs:LV)(i:Int):Option Value:=
 match d with
 |some (.array n e)=>match D8 P e with
  |some size=>if 0<=i/\i<n then ik P e cs (i.toNat*size) else none
  |none=>none
 |_=>none
theorem Bt(t:TypeId)(a:Array Value)(k:IntKind)(i:Int):fY P t (.agg a) (.int k i)=HE P (P.underlying t) a.toList i:=by
 simp only[fY,HE];cases P.underlying t with
 |none=>rfl
 |some d=>cases d<;>rfl
def Lv(P:Program)(e:TypeId)(s:Option Nat)(cs:LV)(i:Int):Option Value:=
 match s with
 |some size=>ik P e cs (i.toNat*size)
 |none=>none
theorem Ey(n:Nat)(e:TypeId)(cs:LV)(i:Int)(h:0<=i)(u:i<n):HE P (some (.array n e)) cs i=Lv P e (D8 P e) cs i:=by simp [HE,Lv,h,u]
theorem Br(e:TypeId)(s:Nat)(cs:LV)(i:Int):Lv P e (some s) cs i=ik P e cs (i.toNat*s):=rT
def MC(P:Program)(t:TypeId)(H:d8)(b o:Nat)(x:LV)(B:Option Blk):Option d8:=
 match B with
 |some (.cells c true sz)=>if D8 P t=some x.length/\o+x.length<=c.length/\x.all Value.oneCell'=true then some (H.put b (.cells (splice c o x) true sz)) else none
 |_=>none
theorem IU(t:TypeId)(H:d8)(b o:Nat)(x:Value):sto P t H (.pointer (some ⟨b,o,none⟩)) x=MC P t H b o x.cells.toList (H.get b):=by
 simp only[sto,MC];cases H.get b with
 |none=>rfl
 |some B=>cases B with
  |cells c own sz=>cases own<;>rfl
  |_=>rfl
theorem Cw(t:TypeId)(H:d8)(b o:Nat)(x:LV)(c:LV)(sz:Nat):MC P t H b o x (some (.cells c true sz))=
  if D8 P t=some x.length/\o+x.length<=c.length/\x.all oC=true then some (H.put b (.cells (splice c o x) true sz)) else none:=rT
theorem AE(a:Array Value):(Value.agg a).cells.toList=a.toList:=rT
theorem AF(k:IntKind)(n:Int):(Value.int k n).cells.toList=[.int k n]:=rT
theorem wB(b:Bool):(Value.bool b).cells.toList=[.bool b]:=rT
theorem rv(s:ByteArray):(Value.string s).cells.toList=[.string s]:=rT
theorem tO(a:Option Addr)(n c:Nat):(Value.slice a n c).cells.toList=[.slice a n c]:=rT
theorem pu(a:Option Addr):(Value.pointer a).cells.toList=[.pointer a]:=rT
theorem AG(a:Option Nat):(Value.map a).cells.toList=[.map a]:=rT
theorem wC{f:_}(a c:Array Value):(Value.func f a c).cells.toList=[.func f a c]:=rT
theorem Im(k:IntKind)(n:Int):Value.oneCell' (.int k n)=true:=rT
theorem Fk(b:Bool):Value.oneCell' (.bool b)=true:=rT
theorem xU(s:ByteArray):Value.oneCell' (.string s)=true:=rT
theorem BV(a:Option Addr)(n c:Nat):Value.oneCell' (.slice a n c)=true:=rT
theorem uZ(a:Option Addr):Value.oneCell' (.pointer a)=true:=rT
theorem Io(a:Option Nat):Value.oneCell' (.map a)=true:=rT
theorem Fl{f:_}(a c:Array Value):Value.oneCell' (.func f a c)=true:=rT
theorem yE(c:LV)(o:Nat):splice c o []=c:=rT
theorem vD(c:LV)(o:Nat)(x:Value)(xs:LV):splice c o (x::xs)=splice (c.set o x) (o+1) xs:=rT
theorem FL(x y:Value)(l:LV):(x::l).set 0 y=y::l:=rT
theorem FK(x y:Value)(l:LV)(n:Nat):(x::l).set (n+1) y=x::l.set n y:=rT
def iy(P:Program)(q:Option (Nat×TypeId))(b o:Nat):Option Value:=
 match q with
 |some (off,ft)=>match D8 P ft with
  |some s=>if s=0 then none else some (.pointer (some ⟨b,o+off,none⟩))
  |none=>none
 |none=>none
theorem pv(t:TypeId)(i b o:Nat):bf P t (.pointer (some ⟨b,o,none⟩)) i=iy P (sT P t i) b o:=by
 simp only[bf,iy];cases sT P t i<;>rfl
def JE(s:Option Nat)(b o off:Nat):Option Value:=
 match s with
 |some s=>if s=0 then none else some (.pointer (some ⟨b,o+off,none⟩))
 |none=>none
theorem lE(h:Nat)(u:TypeId)(b o:Nat):iy P (some (h,u)) b o=JE (D8 P u) b o h:=rT
theorem yM(s b o h:Nat):JE (some s) b o h=if s=0 then none else some (.pointer (some ⟨b,o+h,none⟩)):=rT
def Fs(a:Option Bool)(s:Option Nat)(cs:LV)(off:Nat):Option Value:=
 match a,s with
 |some true,some s=>some (.agg ((cs.drop off).take s).toArray)
 |some false,_=>cs[off]?
 |_,_=>none
theorem Iu(t:TypeId)(cs:LV)(h:Nat):ik P t cs h=Fs (bT P t) (D8 P t) cs h:=rT
theorem Cb(s:Nat)(cs:LV)(h:Nat):Fs (some true) (some s) cs h=some (.agg ((cs.drop h).take s).toArray):=rT
theorem Cc(s:Option Nat)(cs:LV)(h:Nat):Fs (some false) s cs h=cs[h]?:=rT
def wV(P:Program)(q:Option (Nat×TypeId))(a:LV):Option Value:=
 match q with
 |some (off,ft)=>ik P ft a off
 |none=>none
theorem Bf(t:TypeId)(i:Nat)(a:Array Value):ke P t (.agg a) i=wV P (sT P t i) a.toList:=by
 simp only[ke,wV];cases sT P t i<;>rfl
theorem ul(h:Nat)(u:TypeId)(a:LV):wV P (some (h,u)) a=ik P u a h:=rT
def xw(s:Option Nat)(b o:Nat)(i:Int):Option Value:=
 match s with
 |some s=>some (.pointer (some ⟨b,o+i.toNat*s,none⟩))
 |none=>none
theorem Bq(s b o:Nat)(i:Int):xw (some s) b o i=some (.pointer (some ⟨b,o+i.toNat*s,none⟩)):=rT
def Lu(P:Program)(d:Option TypeDesc)(b o:Nat)(i:Int):Option Value:=
 match d with
 |some (.slice e)=>xw (D8 P e) b o i
 |_=>none
theorem xx(e:TypeId)(b o:Nat)(i:Int):Lu P (some (.slice e)) b o i=xw (D8 P e) b o i:=rT
theorem lH(t:TypeId)(b o n c:Nat)(k:IntKind)(i:Int)(u:0<=i)(y:i<n):
  U5 P t (.slice (some ⟨b,o,none⟩) n c) (.int k i)=Lu P (P.underlying t) b o i:=by
 simp only[U5,Lu];cases h:P.underlying t with
 |none=>rfl
 |some d=>
  cases d<;>first|rfl|skip
  rename_i e;simp only[xw];cases D8 P e with
  |none=>rfl
  |some s=>simp [u,y]
def Hz(P:Program)(d:Option TypeDesc)(b o:Nat)(i:Int):Option Value:=
 match d with
 |some (.array m e)=>if 0<=i/\i<m then xw (D8 P e) b o i else none
 |_=>none
theorem xy(m:Nat)(e:TypeId)(b o:Nat)(i:Int)(h:0<=i)(u:i<m):Hz P (some (.array m e)) b o i=xw (D8 P e) b o i:=by simp [Hz,h,u]
theorem lG(t:TypeId)(b o:Nat)(k:IntKind)(i:Int):U5 P t (.pointer (some ⟨b,o,none⟩)) (.int k i)=Hz P (P.underlying t) b o i:=by
 simp only[U5,Hz];cases h:P.underlying t with
 |none=>rfl
 |some d=>
  cases d<;>first|rfl|skip
  rename_i m e;simp only[xw];cases D8 P e with
  |none=>simp
  |some s=>rfl
theorem Ih(a:Addr):Ie (.pointer (some a))=some (.pointer (some a)):=rT
theorem Ig(g:FuncId)(f c:Array Value):Ie (.func (.func g) f c)=some (.func (.func g) f c):=rT
def wo(z:Option (LV))(q:Option (List (Nat×Nat)⊕Nat))(parts:List (Nat×Value)):Option Value:=
 match z,q with
 |some z,some (.inl ps)=>(T4 (fun i=>ps[i]?) z parts).map fun l=> .agg l.toArray
 |some z,some (.inr s)=>(T4 (fun i=>some (i*s,s)) z parts).map fun l=> .agg l.toArray
 |_,_=>none
theorem Dq(t:TypeId)(h:List (Nat×Value)):mE P t h=wo (O9 P t) (FU P t) h:=rT
theorem pq(z:LV)(u:List (Nat×Nat))(h:List (Nat×Value)):wo (some z) (some (.inl u)) h=(T4 (fun i=>u[i]?) z h).map fun l=> .agg l.toArray:=rT
theorem rq(z:LV)(s:Nat)(h:List (Nat×Value)):wo (some z) (some (.inr s)) h=(T4 (fun i=>some (i*s,s)) z h).map fun l=> .agg l.toArray:=rT
theorem DZ(h:Nat->Option (Nat×Nat))(cs:LV):T4 h cs []=some cs:=rT
def DY(place:Nat->Option (Nat×Nat))(cs:LV)(v:LV)(rest:List (Nat×Value))(q:Option (Nat×Nat)):Option (LV):=
 match q with
 |none=>none
 |some (off,size)=>if v.length=size/\off+size<=cs.length/\v.all Value.oneCell'=true then T4 place (splice cs off v) rest else none
theorem Bg(u:Nat->Option (Nat×Nat))(cs:LV)(i:Nat)(v:Value)(rest:List (Nat×Value)):T4 u cs ((i,v)::rest)=DY u cs v.cells.toList rest (u i):=by
 simp only[T4,DY];cases u i with
 |none=>rfl
 |some q=>
  simp only;cases z:v.cells.toList.all oC with
  |true=>
   by_cases h:v.cells.toList.length=q.2/\q.1+q.2<=cs.length
   .rw[if_neg (fun k=>by rcases k with k|k|k;exact k h.1;omega;cases k),if_pos ⟨h.1,h.2,rfl⟩]
   .rw[if_pos (by by_cases y:v.cells.toList.length=q.2;exact .inr (.inl oM);exact .inl y),if_neg (fun k=>h ⟨k.1,k.2.1⟩)]
  |false=>rw[if_pos (.inr (.inr rfl)),if_neg (fun k=>by cases k.2.2)]
theorem wW(h:Nat->Option (Nat×Nat))(cs:LV)(v:LV)(rest:List (Nat×Value))(u size:Nat):
  DY h cs v rest (some (u,size))=if v.length=size/\u+size<=cs.length/\v.all oC=true then T4 h (splice cs u v) rest else none:=rT
def bsB(z:Option (LV))(H:d8)(len:Nat)(parts:List (Nat×Value)):Option (Value×d8):=
 match z with
 |some z=>
  if z.length≠0/\len*z.length<=16777216/\(parts.all fun p=>p.2.cells.toList.all Value.oneCell')=true then
   (T4 (fun i=>some (i*z.length,z.length)) (List.replicate len z).flatten parts).map fun cs=>(.slice (some ⟨H.next,0,none⟩) len len,H.push (.cells cs true z.length))
  else none
 |none=>none
def bsA(P:Program)(e:Option TypeId)(H:d8)(len:Nat)(parts:List (Nat×Value)):Option (Value×d8):=
 match e with
 |some e=>bsB (O9 P e) H len parts
 |none=>none
theorem pt(t:TypeId)(H:d8)(y:Nat)(u:List (Nat×Value)):Q7 P H t y u=bsA P (I5 P t) H y u:=by
 simp only[Q7,bsA];cases I5 P t with
 |none=>rfl
 |some e=>
  simp only[bsB];cases O9 P e with
  |none=>rfl
  |some z=>
   simp only;by_cases h:z.length≠0/\y*z.length<=16777216/\(u.all fun p=>p.2.cells.toList.all oC)=true
   .rw[if_pos h,if_neg (by rw[h.2.2];simp only[Bool.true_eq_false,or_false];omega)];cases T4 (fun i=>some (i*z.length,z.length)) (List.replicate y z).flatten u<;>rfl
   .rw[if_neg h,if_pos];by_cases D:(u.all fun p=>p.2.cells.toList.all oC)=true
    .rw[D]at h ⊢;simp only[and_true,Bool.true_eq_false,or_false]at h ⊢;omega
    .exact .inr (.inr (by simpa using D))
theorem C7(e:TypeId)(H:d8)(u:Nat)(h:List (Nat×Value)):bsA P (some e) H u h=bsB (O9 P e) H u h:=rT
theorem C8(z:LV)(H:d8)(u:Nat)(h:List (Nat×Value)):bsB (some z) H u h=
  if z.length≠0/\u*z.length<=16777216/\(h.all fun p=>p.2.cells.toList.all oC)=true then
   (T4 (fun i=>some (i*z.length,z.length)) (List.replicate u z).flatten h).map fun cs=>(.slice (some ⟨H.next,0,none⟩) u u,H.push (.cells cs true z.length))
  else none:=rT
def DF(s d:Option TypeDesc)(n:Int):Option (Value×Option d8):=
 match s,d with
 |some _,some (.int k)=>some (.int k (k.wrap n),none)
 |_,_=>none
theorem GQ(H:d8)(s d:TypeId)(k:IntKind)(n:Int):Z4 P H s d (.int k n)=DF (P.underlying s) (P.underlying d) n:=by
 simp only[Z4,DF];cases P.underlying s with
 |none=>rfl
 |some a=>cases P.underlying d with
  |none=>cases a<;>rfl
  |some b=>cases a<;>cases b<;>rfl
theorem wO(a:TypeDesc)(k:IntKind)(n:Int):DF (some a) (some (.int k)) n=some (.int k (k.wrap n),none):=rT
def LH(d:Option TypeDesc)(s:ByteArray):Option (Value×Option d8):=
 match d with
 |some .string=>some (.int .i64 s.size,none)
 |some (.array n _)=>some (.int .i64 n,none)
 |_=>none
theorem HN(H:d8)(t:TypeId)(s:ByteArray):D7 P .len [t] [.string s] H=LH (P.underlying t) s:=by
 simp only[D7,EK,LH,List.head?_cons,Option.bind_some];cases P.underlying t with
 |none=>rfl
 |some d=>cases d<;>rfl
theorem EM(s:ByteArray):LH (some .string) s=some (.int .i64 s.size,none):=rT
def LI(d:Option TypeDesc)(n:Nat):Option (Value×Option d8):=
 match d with
 |some (.slice _)=>some (.int .i64 n,none)
 |some (.array m _)=>some (.int .i64 m,none)
 |_=>none
theorem HO(H:d8)(t:TypeId)(a:Option Addr)(n c:Nat):D7 P .len [t] [.slice a n c] H=LI (P.underlying t) n:=by
 simp only[D7,EK,LI,List.head?_cons,Option.bind_some];cases P.underlying t with
 |none=>rfl
 |some d=>cases d<;>rfl
theorem xJ(e:TypeId)(n:Nat):LI (some (.slice e)) n=some (.int .i64 n,none):=rT
theorem wrap_small{n:Int}(h: -9223372036854775808<=n)(u:n<=9223372036854775807):IntKind.wrap .i64 n=n:=by
 simp [IntKind.wrap,IntKind.min,IntKind.max,IntKind.signed,IntKind.bits];omega
theorem eP(v:Value)(H H':d8)(u:L9 v=true)(h:H.next<=H'.low):D6 v H H'=(v,none):=by
 unfold D6;rw[u];simp only[Bool.true_and,decide_eq_true_eq];exact if_pos h
theorem uo(b:Bool)(H H':d8)(h:H.next<=H'.low):D6 (.bool b) H H'=(.bool b,none):=eP _ _ _ rfl h
theorem mX(k:IntKind)(n:Int)(H H':d8)(h:H.next<=H'.low):D6 (.int k n) H H'=(.int k n,none):=eP _ _ _ rfl h
theorem py(s:ByteArray)(H H':d8)(h:H.next<=H'.low):D6 (.string s) H H'=(.string s,none):=eP _ _ _ rfl h
theorem xf(H H':d8)(h:H.next<=H'.low):D6 (.slice none 0 0) H H'=(.slice none 0 0,none):=eP _ _ _ rfl h
theorem ur(a b:Value)(H H':d8)(u:H.next<=H'.low):D6 (.tuple #[a,b]) H H'=br (na1 a&&na1 b) (.tuple #[a,b],none) (.tuple #[a,b],some ⟨H'.bs,min H.low H'.low⟩):=by
 unfold D6 br;rw[qB];by_cases h:(na1 a&&na1 b)=true
 .rw[if_pos h,h];simp only[Bool.true_and,decide_eq_true_eq];exact if_pos u
 .rw[if_neg h];simp only[Bool.not_eq_true]at h;rw[h];rfl
theorem ut(a b c:Value)(H H':d8)(u:H.next<=H'.low):D6 (.tuple #[a,b,c]) H H'=br (na1 a&&(na1 b&&na1 c)) (.tuple #[a,b,c],none) (.tuple #[a,b,c],some ⟨H'.bs,min H.low H'.low⟩):=by
 unfold D6 br;rw[qC];by_cases h:(na1 a&&(na1 b&&na1 c))=true
 .rw[if_pos h,h];simp only[Bool.true_and,decide_eq_true_eq];exact if_pos u
 .rw[if_neg h];simp only[Bool.not_eq_true]at h;rw[h];rfl
theorem rM(a:Addr)(n c:Nat)(H H':d8):D6 (.slice (some a) n c) H H'=(.slice (some a) n c,some ⟨H'.bs,min H.low H'.low⟩):=rT
theorem xe(u:Array Value)(H H':d8)(y:H.next<=H'.low):D6 (.agg u) H H'=br (u.toList.all na0) (.agg u,none) (.agg u,some ⟨H'.bs,min H.low H'.low⟩):=by
 unfold D6 br;have e:L9 (.agg u)=u.toList.all na0:=rT;rw[e];by_cases h:u.toList.all na0=true
 .rw[if_pos h,h];simp only[Bool.true_and,decide_eq_true_eq];exact if_pos y
 .rw[if_neg h];simp only[Bool.not_eq_true]at h;rw[h];rfl
theorem EZ(b:Bool):na0 (.bool b)=true:=rT
theorem jz(k:IntKind)(n:Int):na0 (.int k n)=true:=rT
theorem xN(s:ByteArray):na0 (.string s)=true:=rT
theorem BL(a:Addr)(n c:Nat):na0 (.slice (some a) n c)=false:=rT
theorem HZ:na0 (.slice none 0 0)=true:=rT
def w7(x:Option (Out×Env×d8))(G:Out->Env->d8->Prop):Of G Prop:=∃o e H,x=some (o,e,H)/\G o e H
theorem ez(o:Out)(e:Env)(H:d8)(G:Out->Env->d8->Prop):w7 (some (o,e,H)) G=G o e H:=by
 refine propext ⟨?_,fun h=>⟨o,e,H,rfl,h⟩⟩;rintro⟨y,e',H',h,u⟩;cases h;exact u
def cQ(n:Nat)(I:Nat->Env->d8->Prop)(Q:Out->Env->d8->Prop)(o:Out)(e:Env)(H:d8):Of n (Of I (Of Q Prop)):=
 match o with
 | .normal=>∃m,m<n/\I m e H
 | .exit i=>Q (.exit i) e H
 | .ret=>Q .ret e H
theorem i4{n:Nat}{I:Nat->Env->d8->Prop}{Q:Out->Env->d8->Prop}{e:Env}{H:d8}(m:Nat)(u:m<n)(h:I m e H):cQ n I Q .normal e H:=⟨m,u,h⟩
theorem i9{n:Nat}{I:Nat->Env->d8->Prop}{Q:Out->Env->d8->Prop}{i:Nat}{e:Env}{H:d8}(h:Q (.exit i) e H):cQ n I Q (.exit i) e H:=h
theorem z9{n:Nat}{I:Nat->Env->d8->Prop}{Q:Out->Env->d8->Prop}{e:Env}{H:d8}(h:Q .ret e H):cQ n I Q .ret e H:=h
end
structure LOp where
 dst:Option Tmp
 op:Op
 guard:Option (Tmp×Bool)
structure ML where
 o:LOp
 turn:Bool
 rd:Bool
 lo:Nat
 hi:Nat
inductive t7 where
 |skip
 |ret
 |exit (id:Nat)
 |ops (l:List LOp)
 |draw (l:List (LOp×Bool))
 |mix (l:List ML)
 |seq (a b:t7)
 |cond (x:Operand) (a b:t7)
 |block (id:Nat) (a:t7)
 |loop (a:t7)
 |scope (a:t7)
 |coin (l1 l2:List LOp) (ds:List Nat) (b:t7)
def lop(ops:Array Oper)(o:Oper):Option LOp:=
 match o.guard with
 |none=>some ⟨o.dst,o.op,none⟩
 |some (j,b)=>match(ops[j]?).bind (·.dst)with
  |some d=>some ⟨o.dst,o.op,some (d,b)⟩
  |none=>none
def sq(ops:Array Oper):List Oper->Option (List LOp)
 |[]=>some []
 |o::r=>match lop ops o,sq ops r with
  |some x,some xs=>some (x::xs)
  |_,_=>none
def kT(ops:Array Oper):Nat->List Oper->Option (List (LOp×Bool))
 |_,[]=>some []
 |i,o::r=>match lop ops o,kT ops (i+1) r with
  |some x,some xs=>some ((x,zU ops i)::xs)
  |_,_=>none
def EN(ops:Array Oper):List (Oper×Nat×Nat)->Option (List ML)
 |[]=>some []
 |(o,lo,hi)::r=>match lop ops o,EN ops r with
  |some x,some xs=>some (⟨x,A9 o.op,rdK o.op,lo,hi⟩::xs)
  |_,_=>none
def Q0:Code->Option t7
 | .skip=>some .skip
 | .ret=>some .ret
 | .exit id=>some (.exit id)
 | .region _ ops draw=>
  if draw then(if su ops then(if kX ops (E4 ops.toList []) then(EN ops (jw ops)).map .mix else none) else if Region.lexB .any ops then(kT ops 0 ops.toList).map .draw else none) else(sq ops ops.toList).map .ops
 | .seq a b=>match eM a b with
  |some z=>match sq z.ops z.l1,sq z.ops z.l2,Q0 b with
   |some x,some y,some b'=>some (.coin x y z.ds b')
   |_,_,_=>none
  |none=>match Q0 a,Q0 b with
   |some x,some y=>some (.seq x y)
   |_,_=>none
 | .cond c a b=>match Q0 a,Q0 b with
  |some x,some y=>some (.cond c x y)
  |_,_=>none
 | .block id a=>(Q0 a).map (.block id)
 | .loop a=>(Q0 a).map .loop
 | .scope a=>(Q0 a).map .scope
 |_=>none
section
variable{P:Program}
def bW(e:Env):Option (Tmp×Bool)->Bool
 |none=>true
 |some (d,b)=>isB (e.get d) b
def aD(e:Env):Option (Tmp×Bool)->Bool
 |none=>false
 |some (d,_)=>xC (e.get d)
def X0(P:Program)(C:A8):List LOp->Env->d8->Option (Env×d8)
 |[],e,H=>some (e,H)
 |o::rest,e,H=>
  if aD e o.guard then none else if bW e o.guard then
   match aop P C o.op e H with
   |some (v,none)=>X0 P C rest (I3 e o.dst v) H
   |some (v,some H')=>X0 P C rest (I3 e o.dst v) H'
   |none=>none
  else X0 P C rest (I3 e o.dst undef) H
def Z9(P:Program)(C:A8):Bool->List (LOp×Bool)->Env->d8->Option (Env×d8)
 |_,[],e,H=>some (e,H)
 |q,(o,t)::rest,e,H=>
  if aD e o.guard then none else if bW e o.guard then
   match aop P C o.op e H with
   |some (v,none)=>Z9 P C (q||isCall o.op) rest (I3 e o.dst v) H
   |some (v,some H')=>if !q&&t then X0 P C (rest.map (·.1)) (I3 e o.dst v) H' else none
   |none=>none
  else Z9 P C q rest (I3 e o.dst undef) H
open Classical in
noncomputable def C4(P:Program)(C:A8):Nat->List (Nat×d8)->List (Op×Env×Value×Nat)->List ML->Env->d8->Option (Env×d8)
 |_,_,_,[],e,H=>some (e,H)
 |t,Ks,obs,⟨o,tn,rd,lo,hi⟩::rest,e,H=>
  if aD e o.guard then none else if bW e o.guard then
   if tn then
    match aop P C o.op e H with
    |some (v,r)=>if rz P obs (t+1) (r.getD H) then C4 P C (t+1) ((t,H)::Ks) obs rest (I3 e o.dst v) (r.getD H) else none
    |none=>none
   else
    match aop P noC o.op e H with
    |some (v,none)=>if rd then(if ry P o.op e v lo Ks then C4 P C t Ks ((o.op,e,v,hi)::obs) rest (I3 e o.dst v) H else none) else C4 P C t Ks obs rest (I3 e o.dst v) H
    |_=>none
  else if tn then C4 P C (t+1) ((t,H)::Ks) obs rest (I3 e o.dst undef) H
  else C4 P C t Ks obs rest (I3 e o.dst undef) H
noncomputable def C9(P:Program)(C:A8):Nat->t7->Env->d8->Option (Out×Env×d8)
 |0,_,_,_=>none
 |k+1,c,e,H=>
  match c with
  | .skip=>some (.normal,e,H)
  | .ret=>some (.ret,e,H)
  | .exit id=>some (.exit id,e,H)
  | .ops l=>
   match X0 P C l e H with
   |some (e',H')=>some (.normal,e',H')
   |none=>none
  | .draw l=>
   match Z9 P C false l e H with
   |some (e',H')=>some (.normal,e',H')
   |none=>none
  | .mix l=>
   match C4 P C 0 [] [] l e H with
   |some (e',H')=>some (.normal,e',H')
   |none=>none
  | .seq a b=>
   match C9 P C k a e H with
   |some (.normal,e',H')=>C9 P C k b e' H'
   |r=>r
  | .cond x a b=>
   match opv e x with
   | .bool t=>C9 P C k (if t then a else b) e H
   |_=>none
  | .block id a=>
   match C9 P C k a e H with
   |some (.exit i,e',H')=>if i=id then some (.normal,e',H') else some (.exit i,e',H')
   |r=>r
  | .loop a=>
   match C9 P C k a e H with
   |some (.normal,e',H')=>C9 P C k (.loop a) e' H'
   |r=>r
  | .scope a=>C9 P C k a e H
  | .coin l1 l2 ds b=>
   match X0 P C l1 e H,X0 P C l2 e H with
   |some (e1,H1),some (e2,H2)=>nG ds e H.next (C9 P C k b e1 H1) (C9 P C k b e2 H2)
   |_,_=>none
theorem nR{ops:Array Oper}{o:Oper}{x:LOp}(h:lop ops o=some x)(e:Env):E0 ops e o=bW e x.guard/\x.op=o.op/\x.dst=o.dst/\X4 ops e o=aD e x.guard:=by
 unfold lop at h;unfold E0 X4;split at h
 .rename_i u;cases h;simp [u,bW,aD]
 .rename_i j b u;split at h
  .rename_i d y;cases h;simp [u,y,bW,aD]
  .cases h
theorem dU{ops:Array Oper}(C:A8):∀{l:List Oper}{u:List LOp},sq ops l=some u->∀e H,D1 P C ops l e H=X0 P C u e H
 |[],u,h,e,H=>by simp only[sq,Option.some.injEq]at h;subst h;rfl
 |o::r,u,h,e,H=>by
  simp only[sq]at h;split at h
  .rename_i x xs J y;cases h;obtain⟨z,D,E,I⟩:=nR J e;simp only[D1,X0,z,D,E,I,dU C y];rfl
  .cases h
theorem qx{ops:Array Oper}:∀{l:List Oper}{i:Nat}{u:List (LOp×Bool)},kT ops i l=some u->sq ops l=some (u.map (·.1))
 |[],i,u,h=>by simp only[kT,Option.some.injEq]at h;subst h;rfl
 |o::r,i,u,h=>by
  simp only[kT]at h;split at h
  .rename_i x xs z y;cases h;simp only[sq,z,qx y,List.map_cons]
  .cases h
theorem nI{ops:Array Oper}(u:Region.lexB .any ops=true)(C:A8):∀{l:List Oper}{i:Nat}{z:List (LOp×Bool)},kT ops i l=some z->∀q e H,I2 P C ops i q l e H=Z9 P C q z e H
 |[],i,z,h,q,e,H=>by simp only[kT,Option.some.injEq]at h;subst h;simp [I2,Z9,u]
 |o::r,i,z,h,q,e,H=>by
  simp only[kT]at h;split at h
  .rename_i x xs O y;cases h;obtain⟨D,E,I,J⟩:=nR O e;simp only[I2,Z9,D,E,I,J,nI u C y,dU C (qx y)];rfl
  .cases h
theorem qA{ops:Array Oper}(C:A8):∀{l:List (Oper×Nat×Nat)}{u:List ML},EN ops l=some u->∀t Ks obs e H,I7 P C ops t Ks obs l e H=C4 P C t Ks obs u e H
 |[],u,h,t,Ks,obs,e,H=>by simp only[EN,Option.some.injEq]at h;subst h;rfl
 |(o,lo,hi)::r,u,h,t,Ks,obs,e,H=>by
  simp only[EN]at h;split at h
  .rename_i x xs J y;cases h;obtain⟨z,D,E,I⟩:=nR J e;obtain⟨O,U,S⟩:=x;simp only at z D E I;subst D E;simp only[I7,C4,z,I,qA C y];rcases aop P noC o.op e H with _|⟨v,_|H2⟩<;>rcases aop P C o.op e H with _|⟨v2,H3⟩<;>rfl
  .cases h
theorem nN(C:A8):∀(k:Nat){c:Code}{l:t7},Q0 c=some l->∀e H,L5 P C k c e H=C9 P C k l e H:=by
 intro k;induction k with
 |zero=>intro c l _ e H;rfl
 |succ k D=>
  intro c l h e H;cases c<;>simp only[Q0]at h<;>try (cases h;done)
  case skip=>cases h;rfl
  case ret=>cases h;rfl
  case exit id=>cases h;rfl
  case region id ops I=>
   split at h
   .rename_i U;subst U;split at h
    .rename_i W;split at h
     .rename_i a1;obtain⟨E,u,rfl⟩:=Option.map_eq_some_iff.1 h;simp only[L5,C9,if_true,aR,if_pos W,if_pos a1,qA C u];rfl
     .cases h
    .rename_i W;split at h
     .rename_i J;obtain⟨E,u,rfl⟩:=Option.map_eq_some_iff.1 h;simp only[L5,C9,if_true,aR,if_neg W,nI J C u];rfl
     .cases h
   .rename_i U;obtain⟨E,u,rfl⟩:=Option.map_eq_some_iff.1 h;have:I=false:=by simpa using U
    subst this;simp only[L5,C9,bF,dU C u];rfl
  case seq a b=>
   split at h
   .rename_i z S;split at h
    .rename_i x y b' hx O hb;cases h;simp only[L5,S,C9,dU C hx,dU C O,D hb];rfl
    .cases h
   .rename_i S;split at h
    .rename_i x y hx O;cases h;simp only[L5,S,C9,D hx,D O];rfl
    .cases h
  case cond x a b=>
   split at h
   .rename_i y z O S;cases h;simp only[L5,C9];cases opv e x<;>first|rfl|skip
    rename_i t;cases t<;>simp [D O,D S]
   .cases h
  case block id a=>obtain⟨E,u,rfl⟩:=Option.map_eq_some_iff.1 h;simp only[L5,C9,D u];rfl
  case loop a=>
   obtain⟨E,u,rfl⟩:=Option.map_eq_some_iff.1 h;have h2:Q0 (.loop a)=some (.loop E):=by simp [Q0,u]
   simp only[L5,C9,D u,D h2];rfl
  case scope a=>obtain⟨E,u,rfl⟩:=Option.map_eq_some_iff.1 h;simp only[L5,C9,D u]
noncomputable def LE(P:Program)(X:Lib)(c:t7)(e:Env)(H:d8):Of c (Option (Out×Env×d8)):=lim fun k=>C9 P (CL P X) k c e H
theorem gW{C D:A8}(h:LeC C D):∀(l:List LOp)(e:Env)(H:d8),LeO (X0 P C l e H) (X0 P D l e H):=by
 intro l;induction l with
 |nil=>intro e H r u;exact u
 |cons o l I=>
  intro e H r u;simp only[X0]at u ⊢;by_cases y:aD e o.guard=true
  .rw[if_pos y]at u;cases u
  simp only[if_neg y]at u ⊢;split
  .rename_i E;rw[if_pos E]at u;cases z:aop P C o.op e H with
   |none=>simp [z]at u
   |some q=>
    rw[X2 h _ _ _ _ z];rw[z]at u;obtain⟨v,q⟩:=q;cases q with
    |none=>exact I _ _ _ u
    |some H'=>exact I _ _ _ u
  .rename_i E;rw[if_neg E]at u;exact I _ _ _ u
theorem yq{C D:A8}(h:LeC C D):∀(l:List (LOp×Bool))(q:Bool)(e:Env)(H:d8),LeO (Z9 P C q l e H) (Z9 P D q l e H):=by
 intro l;induction l with
 |nil=>intro q e H r u;exact u
 |cons o l J=>
  intro q e H r u;obtain⟨o,t⟩:=o;simp only[Z9]at u ⊢;by_cases y:aD e o.guard=true
  .rw[if_pos y]at u;cases u
  simp only[if_neg y]at u ⊢;split
  .rename_i I;rw[if_pos I]at u;cases E:aop P C o.op e H with
   |none=>simp [E]at u
   |some x=>
    rw[X2 h _ _ _ _ E];rw[E]at u;obtain⟨v,x⟩:=x;cases x with
    |none=>exact J _ _ _ _ u
    |some H'=>
     simp only at u ⊢;split
     .rename_i z;rw[if_pos z]at u;exact gW h _ _ _ _ u
     .rename_i z;rw[if_neg z]at u;exact u
  .rename_i I;rw[if_neg I]at u;exact J _ _ _ _ u
theorem sK{C D:A8}(h:LeC C D):∀(l:List ML)(t:Nat)(Ks:List (Nat×d8))(obs:List (Op×Env×Value×Nat))(e:Env)(H:d8),LeO (C4 P C t Ks obs l e H) (C4 P D t Ks obs l e H):=by
 intro l;induction l with
 |nil=>intro t Ks obs e H r u;exact u
 |cons o l E=>
  obtain⟨o,tn,rd,lo,hi⟩:=o;intro t Ks obs e H r u;simp only[C4]at u ⊢;by_cases z:aD e o.guard=true
  .rw[if_pos z]at u;cases u
  simp only[if_neg z]at u ⊢;split
  .rename_i S;rw[if_pos S]at u;split
   .rename_i y;rw[if_pos y]at u;cases O:aop P C o.op e H with
    |none=>simp [O]at u
    |some x=>
     rw[X2 h _ _ _ _ O];rw[O]at u;obtain⟨v,x⟩:=x;simp only at u ⊢;split
     .rename_i I;rw[if_pos I]at u;exact E _ _ _ _ _ _ u
     .rename_i I;rw[if_neg I]at u;exact u
   .rename_i y;rw[if_neg y]at u;split at u
    .rename_i v W;split at u
     .rename_i J;rw[if_pos J];split at u
      .rename_i U;rw[if_pos U];exact E _ _ _ _ _ _ u
      .cases u
     .rename_i J;rw[if_neg J];exact E _ _ _ _ _ _ u
    .cases u
  .rename_i S;rw[if_neg S]at u;split
   .rename_i y;rw[if_pos y]at u;exact E _ _ _ _ _ _ u
   .rename_i y;rw[if_neg y]at u;exact E _ _ _ _ _ _ u
theorem Y4{C D:A8}(h:LeC C D):∀(k J:Nat),k<=J->∀(c:t7)(e:Env)(H:d8),LeO (C9 P C k c e H) (C9 P D J c e H):=by
 intro k;induction k with
 |zero=>intro J _ c e H r u;cases u
 |succ k ih=>
  intro J hk c e H r u;obtain⟨J,rfl⟩:∃m,J=m+1:=⟨J-1,oM⟩
  have I:=fun c e H r(u:C9 P C k c e H=some r)=>ih J oM c e H r u;cases c<;>simp only[C9]at u ⊢ <;>try exact u
  case ops l=>
   cases E:X0 P C l e H with
   |none=>simp [E]at u
   |some x=>rw[gW h _ _ _ _ E];rw[E]at u;exact u
  case draw l=>
   cases E:Z9 P C false l e H with
   |none=>simp [E]at u
   |some x=>rw[yq h _ _ _ _ _ E];rw[E]at u;exact u
  case mix l=>
   cases E:C4 P C 0 [] [] l e H with
   |none=>simp [E]at u
   |some x=>rw[sK h _ _ _ _ _ _ _ E];rw[E]at u;exact u
  case seq x y=>
   cases E:C9 P C k x e H with
   |none=>simp [E]at u
   |some z=>
    rw[I _ _ _ _ E];rw[E]at u;obtain⟨o,e',H'⟩:=z;cases o with
    |normal=>exact I _ _ _ _ u
    |exit id=>exact u
    |ret=>exact u
  case cond x y z=>
   split
   .rename_i t W;rw[W]at u;exact I _ _ _ _ u
   .rename_i U;split at u
    .rename_i t W;exact absurd W (U t)
    .exact u
  case block id x=>
   cases E:C9 P C k x e H with
   |none=>simp [E]at u
   |some z=>rw[I _ _ _ _ E];rw[E]at u;exact u
  case loop x=>
   cases E:C9 P C k x e H with
   |none=>simp [E]at u
   |some z=>
    rw[I _ _ _ _ E];rw[E]at u;obtain⟨o,e',H'⟩:=z;cases o with
    |normal=>exact I _ _ _ _ u
    |exit id=>exact u
    |ret=>exact u
  case scope x=>exact I _ _ _ _ u
  case coin l1 l2 ds b=>
   cases O:X0 P C l1 e H with
   |none=>simp [O]at u
   |some q1=>
    cases S:X0 P C l2 e H with
    |none=>simp [O,S]at u
    |some q2=>
     obtain⟨e1,H1⟩:=q1;obtain⟨e2,H2⟩:=q2;rw[O,S]at u;rw[gW h _ _ _ _ O,gW h _ _ _ _ S];obtain⟨o,e',H'⟩:=r;obtain⟨e3,H3,e4,H4,g1,g2,g3,rfl,rfl,rfl⟩:=U7 u;exact fZ (I _ _ _ _ g1) (I _ _ _ _ g2) g3
theorem T1{X:Lib}{c:t7}{e:Env}{H:d8}{r:Out×Env×d8}:LE P X c e H=some r↔∃k,C9 P (CL P X) k c e H=some r:=
 nO fun k u h=>Y4 (fun _ _ _=>LeO.refl _) k u h c e H
variable{X:Lib}
theorem V1{c:t7}{e:Env}{H:d8}{y:Option (Out×Env×d8)}(z:∀k r,C9 P (CL P X) (k+1) c e H=some r->y=some r) (D:∀r,y=some r->∃k,C9 P (CL P X) k c e H=some r):LE P X c e H=y:=by
 refine sE fun r=>⟨fun h=>?_,fun h=>T1.2 (D r h)⟩
 obtain⟨k,u⟩:=T1.1 h;cases k with
 |zero=>cases u
 |succ k=>exact z k r u
theorem V3{k:Nat}{c:t7}{e:Env}{H:d8}:LeO (C9 P (CL P X) k c e H) (LE P X c e H):=fun r h=>T1.2 ⟨k,h⟩
theorem Gl(e:Env)(H:d8):LE P X .skip e H=some (.normal,e,H):=V1 (fun k r h=>h) fun r h=>⟨1,h⟩
theorem JO(e:Env)(H:d8):LE P X .ret e H=some (.ret,e,H):=V1 (fun k r h=>h) fun r h=>⟨1,h⟩
theorem Gk(id:Nat)(e:Env)(H:d8):LE P X (.exit id) e H=some (.exit id,e,H):=V1 (fun k r h=>h) fun r h=>⟨1,h⟩
theorem JP(a b:t7)(e:Env)(H:d8):LE P X (.seq a b) e H=u9 (LE P X a e H) (LE P X b):=by
 refine V1 (fun k r h=>?_) fun r h=>?_
 .simp only[C9]at h;cases u:C9 P (CL P X) k a e H with
  |none=>simp [u]at h
  |some z=>
   rw[u]at h;rw[V3 _ u];obtain⟨o,e',H'⟩:=z;cases o with
   |normal=>exact V3 _ h
   |exit i=>exact h
   |ret=>exact h
 .cases u:LE P X a e H with
  |none=>simp [u,u9]at h
  |some z=>
   rw[u]at h;obtain⟨E,D⟩:=T1.1 u;obtain⟨o,e',H'⟩:=z;have y:o≠ .normal->some (o,e',H')=some r->∃k,C9 P (CL P X) k (.seq a b) e H=some r:=by
    intro S O;refine⟨E+1,?_⟩;simp only[C9,D];cases o<;>first|exact absurd rfl S|exact O
   cases o with
   |normal=>
    obtain⟨I,J⟩:=T1.1 h;refine⟨max E I+1,?_⟩;simp only[C9,Y4 (fun _ _ _=>LeO.refl _) E (max E I) (Nat.le_max_left _ _) _ _ _ _ D];exact Y4 (fun _ _ _=>LeO.refl _) I (max E I) (Nat.le_max_right _ _) _ _ _ _ J
   |exit i=>exact y sM h
   |ret=>exact y sM h
theorem aw(a:t7)(e:Env)(H:d8):LE P X (.loop a) e H=u9 (LE P X a e H) (LE P X (.loop a)):=by
 refine V1 (fun k r h=>?_) fun r h=>?_
 .simp only[C9]at h;cases u:C9 P (CL P X) k a e H with
  |none=>simp [u]at h
  |some z=>
   rw[u]at h;rw[V3 _ u];obtain⟨o,e',H'⟩:=z;cases o with
   |normal=>exact V3 _ h
   |exit i=>exact h
   |ret=>exact h
 .cases u:LE P X a e H with
  |none=>simp [u,u9]at h
  |some z=>
   rw[u]at h;obtain⟨E,D⟩:=T1.1 u;obtain⟨o,e',H'⟩:=z;have y:o≠ .normal->some (o,e',H')=some r->∃k,C9 P (CL P X) k (.loop a) e H=some r:=by
    intro S O;refine⟨E+1,?_⟩;simp only[C9,D];cases o<;>first|exact absurd rfl S|exact O
   cases o with
   |normal=>
    obtain⟨I,J⟩:=T1.1 h;refine⟨max E I+1,?_⟩;simp only[C9,Y4 (fun _ _ _=>LeO.refl _) E (max E I) (Nat.le_max_left _ _) _ _ _ _ D];exact Y4 (fun _ _ _=>LeO.refl _) I (max E I) (Nat.le_max_right _ _) _ _ _ _ J
   |exit i=>exact y sM h
   |ret=>exact y sM h
theorem Gi(x:Operand)(a b:t7)(e:Env)(H:d8){t:Bool}(h:opv e x= .bool t):LE P X (.cond x a b) e H=if t then LE P X a e H else LE P X b e H:=by
 refine V1 (fun k r u=>?_) fun r u=>?_
 .simp only[C9,h]at u;cases t<;>exact V3 _ u
 .cases t
  .obtain⟨k,y⟩:=T1.1 u;exact⟨k+1,by simp only[C9,h];exact y⟩
  .obtain⟨k,y⟩:=T1.1 u;exact⟨k+1,by simp only[C9,h];exact y⟩
theorem CQ(id:Nat)(a:t7)(e:Env)(H:d8):LE P X (.block id a) e H=inBlock id (LE P X a e H):=by
 refine V1 (fun k r h=>?_) fun r h=>?_
 .simp only[C9]at h;cases u:C9 P (CL P X) k a e H with
  |none=>simp [u]at h
  |some z=>rw[u]at h;rw[V3 _ u];exact h
 .cases u:LE P X a e H with
  |none=>simp [u,inBlock]at h
  |some z=>
   rw[u]at h;obtain⟨D,y⟩:=T1.1 u;exact⟨D+1,by simp only[C9,y];exact h⟩
theorem CS(a:t7)(e:Env)(H:d8):LE P X (.scope a) e H=LE P X a e H:=by
 refine V1 (fun k r h=>?_) fun r h=>?_
 .exact V3 _ h
 .obtain⟨y,u⟩:=T1.1 h;exact⟨y+1,u⟩
theorem JN(l:List LOp)(e:Env)(H:d8):LE P X (.ops l) e H=S4 (X0 P (CL P X) l e H):=by
 refine V1 (fun k r h=>?_) fun r h=>⟨1,?_⟩
 .simp only[C9]at h;unfold S4;split at h
  .rename_i u;rw[u];exact h
  .cases h
 .simp only[C9];unfold S4 at h;cases u:X0 P (CL P X) l e H with
  |none=>simp [u]at h
  |some z=>simp only[u,Option.map_some]at h;exact h
theorem Gj(l:List (LOp×Bool))(e:Env)(H:d8):LE P X (.draw l) e H=S4 (Z9 P (CL P X) false l e H):=by
 refine V1 (fun k r h=>?_) fun r h=>⟨1,?_⟩
 .simp only[C9]at h;unfold S4;split at h
  .rename_i u;rw[u];exact h
  .cases h
 .simp only[C9];unfold S4 at h;cases u:Z9 P (CL P X) false l e H with
  |none=>simp [u]at h
  |some z=>simp only[u,Option.map_some]at h;exact h
theorem CP{c:Code}{l:t7}(h:Q0 c=some l)(e:Env)(H:d8):EL P X c e H=LE P X l e H:=by
 unfold EL LE
 congr 1
 funext k
 exact nN (CL P X) k h e H
def fnL(P:Program)(f:FuncId):Option (t7×Nat×List ResultVar):=
 match fnA P f with
 |some (c,nt,rs)=>match Q0 c with
  |some l=>some (l,nt,rs)
  |none=>none
 |none=>none
theorem j7{f:FuncId}{l:t7}{u:Nat}{y:List ResultVar}(h:fnL P f=some (l,u,y))(z:X f=none)(args:LV)(I:args.length<=u)(H:d8):
  CL P X f args H=u5 P y H (LE P X l (N3 0 args) ⟨H.bs,H.next⟩):=by
 unfold fnL at h;split at h
 .rename_i c nt' J D;split at h
  .rename_i O E;cases h;rw[JK D z args I H,CP E];rfl
  .cases h
 .cases h
theorem CR(x:Operand)(a b:t7)(e:Env)(H:d8):LE P X (.cond x a b) e H=DC (opv e x) (LE P X a e H) (LE P X b e H):=by
 cases h:opv e x with
 |bool t=>rw[Gi x a b e H h];rfl
 |_=>
  refine V1 (fun k r u=>?_) fun r u=>?_
  .simp only[C9,h]at u;cases u
  .simp only[DC]at u;cases u
theorem FF(C:A8)(e:Env)(H:d8):X0 P C [] e H=some (e,H):=rT
theorem yr(dst:Option Tmp)(op:Op)(rest:List LOp)(e:Env)(H:d8):
  X0 P (CL P X) (⟨dst,op,none⟩::rest) e H=fO (aop P (CL P X) op e H) H fun v H'=>X0 P (CL P X) rest (I3 e dst v) H':=by
 simp only[X0,bW,aD,if_true,bF,fO]
 all_goals rfl
theorem IG(dst:Option Tmp)(op:Op)(d:Tmp)(b:Bool)(rest:List LOp)(e:Env)(H:d8):
  X0 P (CL P X) (⟨dst,op,some (d,b)⟩::rest) e H=
   brl (e.get d) b (fO (aop P (CL P X) op e H) H fun v H'=>X0 P (CL P X) rest (I3 e dst v) H') (X0 P (CL P X) rest (I3 e dst undef) H):=by
 simp only[X0,bW,aD,fO,brl];rfl
def tZ(q t:Bool)(x:Option (Env×d8)):Of x (Option (Env×d8)):=if(!q&&t)=true then x else none
theorem DM(x:Option (Env×d8)):tZ false true x=x:=rT
theorem Cq(C:A8)(q:Bool)(e:Env)(H:d8):Z9 P C q [] e H=some (e,H):=rT
theorem vu(q t:Bool)(dst:Option Tmp)(op:Op)(rest:List (LOp×Bool))(e:Env)(H:d8):
  Z9 P (CL P X) q ((⟨dst,op,none⟩,t)::rest) e H=
   qg (aop P (CL P X) op e H) (fun v=>Z9 P (CL P X) (q||isCall op) rest (I3 e dst v) H) fun v H'=>tZ q t (X0 P (CL P X) (rest.map (·.1)) (I3 e dst v) H'):=by
 simp only[Z9,bW,aD,if_true,bF,qg,tZ]
 all_goals rfl
theorem FE(q t:Bool)(dst:Option Tmp)(op:Op)(d:Tmp)(b:Bool)(rest:List (LOp×Bool))(e:Env)(H:d8):
  Z9 P (CL P X) q ((⟨dst,op,some (d,b)⟩,t)::rest) e H=
   brl (e.get d) b (qg (aop P (CL P X) op e H) (fun v=>Z9 P (CL P X) (q||isCall op) rest (I3 e dst v) H) fun v H'=>tZ q t (X0 P (CL P X) (rest.map (·.1)) (I3 e dst v) H'))
    (Z9 P (CL P X) q rest (I3 e dst undef) H):=by
 simp only[Z9,bW,aD,qg,tZ,brl]
 all_goals rfl
theorem Gh(J l2:List LOp)(ds:List Nat)(b:t7)(e:Env)(H:d8):LE P X (.coin J l2 ds b) e H=nG ds e H.next (u9 (S4 (X0 P (CL P X) J e H)) (LE P X b)) (u9 (S4 (X0 P (CL P X) l2 e H)) (LE P X b)):=by
 refine V1 (fun k r h=>?_) fun r h=>?_
 .simp only[C9]at h;cases u:X0 P (CL P X) J e H with
  |none=>simp [u]at h
  |some W=>
   cases D:X0 P (CL P X) l2 e H with
   |none=>simp [u,D]at h
   |some q2=>
    obtain⟨e1,H1⟩:=W;obtain⟨e2,H2⟩:=q2;rw[u,D]at h;obtain⟨o,e',H'⟩:=r;obtain⟨e3,H3,e4,H4,y,z,O,rfl,rfl,rfl⟩:=U7 h;exact fZ (V3 _ y) (V3 _ z) O
 .obtain⟨o,e',H'⟩:=r;obtain⟨e3,H3,e4,H4,y,z,O,rfl,rfl,rfl⟩:=U7 h;cases u:X0 P (CL P X) J e H with
  |none=>rw[u]at y;cases y
  |some W=>
   cases D:X0 P (CL P X) l2 e H with
   |none=>rw[D]at z;cases z
   |some q2=>
    rw[u]at y;rw[D]at z;obtain⟨E,S⟩:=T1.1 y;obtain⟨I,U⟩:=T1.1 z;refine⟨max E I+1,?_⟩;simp only[C9,u,D];exact fZ (Y4 (fun _ _ _=>LeO.refl _) E (max E I) (Nat.le_max_left _ _) _ _ _ _ S) (Y4 (fun _ _ _=>LeO.refl _) I (max E I) (Nat.le_max_right _ _) _ _ _ _ U) O
theorem JM(l:List ML)(e:Env)(H:d8):LE P X (.mix l) e H=S4 (C4 P (CL P X) 0 [] [] l e H):=by
 refine V1 (fun k r h=>?_) fun r h=>⟨1,?_⟩
 .simp only[C9]at h;unfold S4;split at h
  .rename_i u;rw[u];exact h
  .cases h
 .simp only[C9];unfold S4 at h;cases u:C4 P (CL P X) 0 [] [] l e H with
  |none=>simp [u]at h
  |some z=>simp only[u,Option.map_some]at h;exact h
open Classical in
noncomputable def need{α:Type}(p:Prop)(x:Option α):Of x (Option α):=if p then x else none
theorem BO{α:Type}(x:Option α):need True x=x:=by unfold need;exact if_pos trivial
theorem xG(ds:List Nat)(e u y:Env)(n:Nat)(h H2:d8):nG ds e n (some (.normal,u,h)) (some (.normal,y,H2))=need (N4 n h=N4 n H2) (some (.normal,ds.map (fun d=>(d,lost))++e,N4 n h)):=rT
def ji(r:Option (Value×Option d8))(f:Value->Option (Env×d8)):Of f (Option (Env×d8)):=
 match r with
 |some (v,none)=>f v
 |_=>none
theorem wL(v:Value)(f:Value->Option (Env×d8)):ji (some (v,none)) f=f v:=rT
def okV(x:Option (Value×Option d8))(v:Value):Prop:=x=some (v,none)
theorem Ff(v:Value):okV (some (v,none)) v=True:=by simp [okV]
def HF(n m:Nat)(p:Prop):Prop:=n<=m->p
theorem EA{n m:Nat}(p:Prop)(h:n<=m):HF n m p=p:=propext ⟨fun q=>q h,fun q _=>q⟩
theorem HG{n m:Nat}(p:Prop)(h:m<n):HF n m p=True:=propext ⟨fun _=>trivial,fun _ q=>absurd q oM⟩
theorem Dy(j:Nat)(H:d8):rz P [] j H=True:=rT
theorem AI(o:Op)(e:Env)(v:Value)(hi:Nat)(r:List (Op×Env×Value×Nat))(j:Nat)(H:d8):rz P ((o,e,v,hi)::r) j H=(HF j hi (okV (aop P noC o e H) v)/\rz P r j H):=rT
theorem Dx(o:Op)(e:Env)(v:Value)(lo:Nat):ry P o e v lo []=True:=rT
theorem AH(o:Op)(e:Env)(v:Value)(lo j:Nat)(K:d8)(r:List (Nat×d8)):ry P o e v lo ((j,K)::r)=(HF lo j (okV (aop P noC o e K) v)/\ry P o e v lo r):=rT
section
variable(t:Nat)(Ks:List (Nat×d8))(obs:List (Op×Env×Value×Nat))(dst:Option Tmp)(op:Op)(d:Tmp)(b:Bool)(lo hi:Nat)(rest:List ML)(e:Env)(H:d8)
theorem HW:C4 P (CL P X) t Ks obs [] e H=some (e,H):=rT
theorem EW(h:Bool):C4 P (CL P X) t Ks obs (⟨⟨dst,op,none⟩,true,h,lo,hi⟩::rest) e H=
  fO (aop P (CL P X) op e H) H fun v H'=>need (rz P obs (t+1) H') (C4 P (CL P X) (t+1) ((t,H)::Ks) obs rest (I3 e dst v) H'):=by
 simp only[C4,bW,aD,if_true,bF,fO,need];cases aop P (CL P X) op e H with
 |none=>rfl
 |some z=>obtain⟨v,r⟩:=z;cases r<;>rfl
theorem BJ(h:Bool):C4 P (CL P X) t Ks obs (⟨⟨dst,op,some (d,b)⟩,true,h,lo,hi⟩::rest) e H=
  brl (e.get d) b (fO (aop P (CL P X) op e H) H fun v H'=>need (rz P obs (t+1) H') (C4 P (CL P X) (t+1) ((t,H)::Ks) obs rest (I3 e dst v) H')) (C4 P (CL P X) (t+1) ((t,H)::Ks) obs rest (I3 e dst undef) H):=by
 simp only[C4,bW,aD,if_true,fO,need,brl];cases aop P (CL P X) op e H with
 |none=>rfl
 |some z=>obtain⟨v,r⟩:=z;cases r<;>rfl
theorem LR:C4 P (CL P X) t Ks obs (⟨⟨dst,op,none⟩,false,true,lo,hi⟩::rest) e H=
  ji (aop P noC op e H) fun v=>need (ry P op e v lo Ks) (C4 P (CL P X) t Ks ((op,e,v,hi)::obs) rest (I3 e dst v) H):=by
 simp only[C4,bW,aD,if_true,ji,need,bF]
theorem HX:C4 P (CL P X) t Ks obs (⟨⟨dst,op,some (d,b)⟩,false,true,lo,hi⟩::rest) e H=
  brl (e.get d) b (ji (aop P noC op e H) fun v=>need (ry P op e v lo Ks) (C4 P (CL P X) t Ks ((op,e,v,hi)::obs) rest (I3 e dst v) H)) (C4 P (CL P X) t Ks obs rest (I3 e dst undef) H):=by
 simp only[C4,bW,aD,if_true,ji,need,bF,brl]
theorem EV:C4 P (CL P X) t Ks obs (⟨⟨dst,op,none⟩,false,false,lo,hi⟩::rest) e H=
  ji (aop P noC op e H) fun v=>C4 P (CL P X) t Ks obs rest (I3 e dst v) H:=by
 simp only[C4,bW,aD,if_true,ji,bF]
theorem BG:C4 P (CL P X) t Ks obs (⟨⟨dst,op,some (d,b)⟩,false,false,lo,hi⟩::rest) e H=
  brl (e.get d) b (ji (aop P noC op e H) fun v=>C4 P (CL P X) t Ks obs rest (I3 e dst v) H) (C4 P (CL P X) t Ks obs rest (I3 e dst undef) H):=by
 simp only[C4,bW,aD,if_true,ji,bF,brl]
end
theorem i8{B:t7}(I:Nat->Env->d8->Prop)(Q:Out->Env->d8->Prop)
  (u:∀n e H,I n e H->w7 (LE P X B e H) (cQ n I Q)):∀n e H,I n e H->w7 (LE P X (.loop B) e H) Q:=by
 intro n;induction n using Nat.strongRecOn with
 |ind n J=>
  intro e H h;obtain⟨o,e',H',z,y⟩:=u n e H h;unfold w7;rw[aw,z];cases o with
  |normal=>
   obtain⟨m,E,D⟩:=y;exact J m E e' H' D
  |exit i=>exact⟨_,_,_,rfl,y⟩
  |ret=>exact⟨_,_,_,rfl,y⟩
theorem cY(F:Option (Out×Env×d8)->Option (Out×Env×d8)){x:Option (Out×Env×d8)}{Q G:Out->Env->d8->Prop}(h:w7 x Q)(u:∀o e H,Q o e H->w7 (F (some (o,e,H))) G):w7 (F x) G:=by
 obtain⟨o,e,H,D,z⟩:=h;have y:=u o e H z;unfold w7 at y ⊢;rw[D];exact y
end
structure i6(lo:Nat)(H H':d8):Prop where
 next:H.next<=H'.next
 lowAll:∀k,k<=lo->k<=H.low->k<=H'.low
 get:∀j,j<lo->H'.get j=H.get j
theorem i6.low{lo:Nat}{H H':d8}(h:i6 lo H H')(q:lo<=H.low):lo<=H'.low:=h.lowAll lo lR q
theorem i6.weaken{lo u:Nat}{H H':d8}(h:i6 lo H H')(k:u<=lo):i6 u H H':=⟨h.next,fun j y=>h.lowAll j oM,fun j y=>h.get j oM⟩
theorem i6.refl(lo:Nat)(H:d8):i6 lo H H:=⟨lR,fun _ _ h=>h,fun _ _=>rfl⟩
theorem i6.trans{lo:Nat}{a b c:d8}(h:i6 lo a b)(k:i6 lo b c):i6 lo a c:=⟨Nat.le_trans h.next k.next,fun j u q=>k.lowAll j u (h.lowAll j u q),fun j u=>by rw[k.get j u,h.get j u]⟩
theorem i6.push{lo:Nat}{H:d8}{B:Blk}(h:lo<=H.next):i6 lo H (H.push B):=⟨by rw[i5];omega,fun _ _ q=>q,fun j u=>i7 oM⟩
theorem i6.put{lo b:Nat}{H:d8}{B:Blk}(h:lo<=b):i6 lo H (H.put b B):=⟨Nat.le_refl _ |> fun q=>by rw[t5];exact q,fun k y q=>by rw[A4];omega,fun j u=>j6 oM⟩
theorem i6.start(H:d8):i6 H.next H ⟨H.bs,H.next⟩:=⟨lR,fun _ h _=>h,fun _ _=>rfl⟩
theorem i6.ret{lo:Nat}{H H':d8}(h:i6 lo H H')(y:lo<=H'.low):i6 lo H ⟨H'.bs,min H.low H'.low⟩:=⟨h.next,fun k u q=>by simp only;omega,h.get⟩
def Z1(H:d8)(lo sz:Nat)(v:Value)(n:Nat)(cs:LV):Prop:=
 (v= .slice none 0 0/\n=0/\cs=[])\/∃b,v= .slice (some ⟨b,0,none⟩) n (n+1)/\H.get b=some (.cells cs true sz)/\lo<=b/\cs.length=n*sz
theorem Z1.push{H:d8}{lo sz:Nat}{v:Value}{n:Nat}{cs:LV}(h:Z1 H lo sz v n cs)(B:Blk):Z1 (H.push B) lo sz v n cs:=by
 rcases h with h|⟨b,y,u,z⟩
 .exact .inl h
 .exact .inr ⟨b,y,by rw[i7 (u7 u)];exact u,z⟩
theorem Z1.put{H:d8}{lo sz:Nat}{v:Value}{n:Nat}{cs:LV}(h:Z1 H lo sz v n cs){b:Nat}(B:Blk)(D:∀c,v= .slice (some ⟨c,0,none⟩) n (n+1)->b≠c):Z1 (H.put b B) lo sz v n cs:=by
 rcases h with h|⟨c,u,y,z⟩
 .exact .inl h
 .exact .inr ⟨c,u,by rw[j6 (D c u)];exact y,z⟩
section
variable{P:Program}
theorem wk{t e:TypeId}{sz bytes:Nat}{z:LV}(X:P.underlying t=some (.slice e))(hs:D8 P e=some sz)(S:V0 P e=some bytes)(hz:O9 P e=some z)(h0:0<sz)(h1:0<bytes)
  {H:d8} {lo:Nat} {v:Value} {n:Nat} {cs:LV} (h:Z1 H lo sz v n cs) {c m k:Nat} {el:LV} {own:Bool} {q:Nat} (hc:H.get c=some (.cells el own q)) (hm:0<m) (E:el.length=m*sz) (W:(n+m)*bytes<=140737488355328) (u:lo<=H.next):
  ∃v' H',C2 P H [t,t] v (.slice (some ⟨c,0,none⟩) m k)=some (v',some H')/\Z1 H' lo sz v' (n+m) (cs++el)/\i6 lo H H':=by
 have J:I5 P t=some e:=by simp [I5,X]
 have y:aY P H sz (some t) (.slice (some ⟨c,0,none⟩) m k)=some (m,el):=by
  simp only[aY,Option.bind_some,X,A5,hc];rw[if_neg oM,if_pos oM];simp [<-E]
 have I:¬(sz=0\/bytes=0):=oM;rcases h with⟨rfl,rfl,rfl⟩|⟨b,rfl,U,O,D⟩
 .refine⟨.slice (some ⟨H.next,0,none⟩) m (m+1),H.push (.cells el true sz),?_,.inr ⟨H.next,by rw[Nat.zero_add],j9,u,by simpa using E⟩,i6.push u⟩;simp only[C2,List.head?_cons,Option.bind_some,J,hs,S,hz,List.getElem?_cons_succ,List.getElem?_cons_zero,if_neg I,y];rw[if_neg oM,if_pos (by simpa using W)]
 .have a1:=u7 U;refine⟨.slice (some ⟨H.next,0,none⟩) (n+m) (n+m+1),(H.put b .dead).push (.cells (cs++el) true sz),?_,.inr ⟨H.next,rfl,y7 ⟨by simp [t5],by simp [t5]⟩,u,by rw[List.length_append,D,E,Nat.add_mul]⟩,(i6.put O).trans (i6.push (by rw[t5];exact u))⟩;simp only[C2,List.head?_cons,Option.bind_some,J,hs,S,hz,List.getElem?_cons_succ,List.getElem?_cons_zero,if_neg I,y,U];rw[if_neg oM,if_pos W,if_pos (by simp;omega),if_neg oM];simp [<-D]
end
def dL(v:Value)(h:Option d8):Option (Value×Option d8):=some (v,h)
def Ret(x:Option (Value×Option d8))(H:d8)(Q:Value->d8->Prop):Prop:=∃v h H1,x=dL v h/\h.getD H=H1/\Q v H1
theorem AL(v:Value)(h:Option d8)(H:d8)(f:Value->d8->Option (Env×d8)):fO (dL v h) H f=f v (h.getD H):=by cases h<;>rfl
theorem uq(v:Value)(H H':d8)(Q:Value->d8->Prop)(u:L9 v=true->H.next<=H'.low->Q v H)(y:Q v ⟨H'.bs,min H.low H'.low⟩):∃w h,D6 v H H'=(w,h)/\Q w (h.getD H):=by
 unfold D6;by_cases h:(L9 v&&decide (H.bs.length<=H'.low))=true
 .rw[if_pos h];simp only[Bool.and_eq_true,decide_eq_true_eq]at h;exact⟨v,none,rfl,u h.1 h.2⟩
 .rw[if_neg h];exact⟨v,_,rfl,y⟩
theorem E1{v:Value}{H H':d8}{Q:Value->d8->Prop}(u:L9 v=true->H.next<=H'.low->Q v H)(y:Q v ⟨H'.bs,min H.low H'.low⟩):Ret (some (D6 v H H')) H Q:=by
 obtain⟨w,h,z,D⟩:=uq v H H' Q u y;exact⟨w,h,_,by rw[z,dL],rfl,D⟩
theorem dI{v:Value}{c:Bool}{H h:d8}{Q:Value->d8->Prop}(u:c=true->Q v H)(y:Q v h):Ret (some (br c (v,none) (v,some h))) H Q:=by
 cases c
 .exact⟨v,_,_,rfl,rfl,y⟩
 .exact⟨v,_,_,rfl,rfl,u rfl⟩
theorem Z1.na{H H0:d8}{lo sz:Nat}{v:Value}{n:Nat}{cs:LV}(h:Z1 H lo sz v n cs)(u:na1 v=true):Z1 H0 lo sz v n cs:=by
 rcases h with h|⟨b,y,z,D⟩
 .exact .inl h
 .rw[y]at u;cases u
theorem Z1.low{H:d8}{lo sz:Nat}{v:Value}{n:Nat}{cs:LV}(h:Z1 H lo sz v n cs)(l:Nat):Z1 ⟨H.bs,l⟩ lo sz v n cs:=by
 rcases h with h|⟨b,u,y,z⟩
 .exact .inl h
 .exact .inr ⟨b,u,y,z⟩
theorem j8(F:Option (Out×Env×d8)->Prop){x:Option (Out×Env×d8)}{Q:Out->Env->d8->Prop}(h:w7 x Q)(u:∀o e H,Q o e H->F (some (o,e,H))):F x:=by
 obtain⟨o,e,H,z,y⟩:=h;rw[z];exact u o e H y
section
variable{P:Program}
def yf(d:Option TypeDesc)(H:d8)(s:ByteArray):Option (Value×Option d8):=
 match d with
 |some .string=>some (.pointer (some ⟨H.next,0,none⟩),some (H.push (.iter s 0)))
 |_=>none
theorem ye(t:TypeId)(H:d8)(s:ByteArray):yc P t H (.string s)=yf (P.underlying t) H s:=by
 unfold yc yf;cases P.underlying t with
 |none=>rfl
 |some d=>cases d<;>rfl
theorem yg(H:d8)(s:ByteArray):yf (some .string) H s=some (.pointer (some ⟨H.next,0,none⟩),some (H.push (.iter s 0))):=rT
def Fd(x:Option Blk)(H:d8)(b:Nat):Option (Value×Option d8):=
 match x with
 |some (.iter s pos)=>br (decide (pos<s.size)) (some (.tuple #[.bool true,.int .i64 pos,.int .i32 (Utf8.decode s pos).1],some (H.put b (.iter s (pos+(Utf8.decode s pos).2))))) (some (.tuple #[.bool false],none))
 |_=>none
theorem BP(H:d8)(b:Nat):jB H (.pointer (some ⟨b,0,none⟩))=Fd (H.get b) H b:=by
 unfold jB Fd;simp only;generalize H.get b=q;cases q with
 |none=>rfl
 |some x=>cases x<;>simp [br,goInt]
theorem xQ(s:ByteArray)(h:Nat)(H:d8)(b:Nat):Fd (some (.iter s h)) H b=br (decide (h<s.size)) (some (.tuple #[.bool true,.int .i64 h,.int .i32 (Utf8.decode s h).1],some (H.put b (.iter s (h+(Utf8.decode s h).2))))) (some (.tuple #[.bool false],none)):=rT
theorem Y3(s:ByteArray)(i:Nat):1<=(Utf8.decode s i).2:=by
 unfold Utf8.decode;simp only;split
 .simp
 .split
  .split<;>simp
  .split
   .split<;>simp
   .split
    .split<;>simp
    .simp
end
theorem i6.first(H:d8)(B:Blk):i6 H.next H (d8.push ⟨H.bs,H.next⟩ B):=(i6.start H).trans (i6.push lR)
def SlI(H:d8)(lo sz:Nat){α:Type}(R:LV->α->Prop)(v:Value)(l:List α):Prop:=
 (v= .slice none 0 0/\l=[])\/
 ∃b o c,v= .slice (some ⟨b,o,none⟩) l.length c/\
  (l=[]\/∃cs own,b<lo/\H.get b=some (.cells cs own sz)/\o+l.length*sz<=cs.length/\∀(i:Nat) a,l[i]?=some a->R ((cs.drop (o+i*sz)).take sz) a)
theorem SlI.mono{H H':d8}{lo u sz:Nat}{α:Type}{R y:LV->α->Prop}{v:Value}{l:List α}(h:SlI H lo sz R v l)(O:∀j,j<lo->H'.get j=H.get j) (U:lo<=u) (J:∀cs a,R cs a->y cs a):SlI H' u sz y v l:=by
 rcases h with h|⟨b,o,c,W,h⟩
 .exact .inl h
 .refine .inr ⟨b,o,c,W,?_⟩;rcases h with h|⟨cs,own,z,D,E,I⟩
  .exact .inl h
  .exact .inr ⟨cs,own,oM,by rw[O b z];exact D,E,fun i a S=>J _ _ (I i a S)⟩
theorem SlI.form{H:d8}{lo sz:Nat}{α:Type}{R:LV->α->Prop}{v:Value}{l:List α}(h:SlI H lo sz R v l):
  (v= .slice none 0 0/\l=[])\/(∃b o c,v= .slice (some ⟨b,o,none⟩) 0 c/\l=[])\/
  ∃b o c cs own,v= .slice (some ⟨b,o,none⟩) l.length c/\0<l.length/\b<lo/\H.get b=some (.cells cs own sz)/\o+l.length*sz<=cs.length/\∀(i:Nat) a,l[i]?=some a->R ((cs.drop (o+i*sz)).take sz) a:=by
 rcases h with h|⟨b,o,c,u,h⟩
 .exact .inl h
 .rcases h with h|⟨cs,own,z,D,E,I⟩
  .subst h;exact .inr (.inl ⟨b,o,c,u,rfl⟩)
  .by_cases y:l=[]
   .subst y;exact .inr (.inl ⟨b,o,c,u,rfl⟩)
   .exact .inr (.inr ⟨b,o,c,cs,own,u,List.length_pos_iff.2 y,z,D,E,I⟩)
theorem SlI.slice{H:d8}{lo sz:Nat}{α:Type}{R:LV->α->Prop}{v:Value}{l:List α}(h:SlI H lo sz R v l):∃a c,v= .slice a l.length c:=by
 rcases h with⟨h,u⟩|⟨b,o,c,y,h⟩
 .exact⟨none,0,by rw[h,u];rfl⟩
 .exact⟨_,_,y⟩
theorem SlI.at_{H:d8}{lo sz:Nat}{α:Type}{R:LV->α->Prop}{v:Value}{l:List α}(h:SlI H lo sz R v l){i:Nat}{a:α}(y:l[i]?=some a):
  ∃b o c cs own,v= .slice (some ⟨b,o,none⟩) l.length c/\b<lo/\H.get b=some (.cells cs own sz)/\o+i*sz+sz<=cs.length/\R ((cs.drop (o+i*sz)).take sz) a:=by
 have u:i<l.length:=(gS y).1;rcases h with⟨_,h⟩|⟨b,o,c,I,h⟩
 .subst h;simp at u
 .rcases h with h|⟨cs,own,z,D,J,E⟩
  .subst h;simp at u
  .refine⟨b,o,c,cs,own,I,z,D,?_,E i a y⟩;have:(i+1)*sz<=l.length*sz:=Nat.mul_le_mul_right _ u;rw[Nat.add_mul]at this;omega
theorem cq{cs enc:LV}{o sz:Nat}(h:o+sz<=cs.length)(u:(cs.drop o).take sz=enc):ldC (some true) (some sz) o cs=some (.agg enc.toArray):=by rw[eW _ _ _ h,u]
theorem Q3{cs enc:LV}{o sz k:Nat}(h:k<sz)(u:(cs.drop o).take sz=enc):cs[o+k]?=enc[k]?:=by
 rw[<-u,List.getElem?_take,if_pos h,List.getElem?_drop]
def cg(H:d8)(lo sz:Nat)(v:Value)(n:Nat)(cs:LV):Prop:=
 (v= .slice none 0 0/\n=0/\cs=[])\/∃b c,v= .slice (some ⟨b,0,none⟩) n c/\H.get b=some (.cells cs true sz)/\lo<=b/\cs.length=n*sz
theorem cg.mono{H H':d8}{lo u sz:Nat}{v:Value}{n:Nat}{cs:LV}(h:cg H lo sz v n cs)(J:u<=lo)(E:∀j,j<H.next->H'.get j=H.get j):cg H' u sz v n cs:=by
 rcases h with h|⟨b,c,z,y,I,D⟩
 .exact .inl h
 .exact .inr ⟨b,c,z,by rw[E b (u7 y)];exact y,oM,D⟩
theorem Z1.ownC{H:d8}{lo sz:Nat}{v:Value}{n:Nat}{cs:LV}(h:Z1 H lo sz v n cs):cg H lo sz v n cs:=by
 rcases h with h|⟨b,u,y⟩
 .exact .inl h
 .exact .inr ⟨b,_,u,y⟩
theorem cg.slice{H:d8}{lo sz:Nat}{v:Value}{n:Nat}{cs:LV}(h:cg H lo sz v n cs):∃a c,v= .slice a n c:=by
 rcases h with⟨h,rfl,_⟩|⟨b,c,u,_⟩
 .exact⟨none,0,h⟩
 .exact⟨_,_,u⟩
theorem cg.cells{H:d8}{lo sz:Nat}{v:Value}{n:Nat}{cs:LV}(h:cg H lo sz v n cs)(z:0<sz):∃a c,v= .slice a n c/\A5 H sz (.slice a n c)=some cs:=by
 rcases h with⟨rfl,rfl,rfl⟩|⟨b,c,rfl,y,D,E⟩
 .exact⟨none,0,rfl,rfl⟩
 .refine⟨_,_,rfl,?_⟩;simp only[A5,y];by_cases u:n=0
  .subst u;have:cs=[]:=List.length_eq_zero_iff.1 oM;simp [this]
  .rw[if_neg u,if_pos oM,List.drop_zero,List.take_of_length_le oM]
def D2{α:Type}(sz:Nat)(R:LV->α->Prop)(cs:LV)(l:List α):Prop:=
 cs.length=l.length*sz/\∀(i:Nat) a,l[i]?=some a->R ((cs.drop (i*sz)).take sz) a
theorem D2.append{α:Type}{sz:Nat}{R:LV->α->Prop}{c1 c2:LV}{u l2:List α}(h:D2 sz R c1 u)(k:D2 sz R c2 l2):D2 sz R (c1++c2) (u++l2):=by
 refine⟨by rw[List.length_append,List.length_append,h.1,k.1,Nat.add_mul],fun i a y=>?_⟩;by_cases D:i<u.length
 .rw[List.getElem?_append_left D]at y;have:=h.2 i a y;have z:(i+1)*sz<=u.length*sz:=Nat.mul_le_mul_right _ D;rw[Nat.add_mul]at z;rw[List.drop_append_of_le_length (by rw[h.1];omega),List.take_append_of_le_length (by rw[List.length_drop,h.1];omega)];exact this
 .rw[List.getElem?_append_right oM]at y;have:=k.2 _ a y;have e:i*sz=c1.length+(i-u.length)*sz:=by rw[h.1,<-Nat.add_mul];congr 1;omega
  rw[e,<-List.drop_drop,List.drop_left];exact this
theorem SlI.cells{H:d8}{lo sz:Nat}{α:Type}{R:LV->α->Prop}{v:Value}{l:List α}(h:SlI H lo sz R v l):∃el,A5 H sz v=some el/\D2 sz R el l:=by
 rcases h.form with⟨rfl,rfl⟩|⟨b,o,c,rfl,rfl⟩|⟨b,o,c,cs,own,rfl,J,O,z,D,E⟩
 .exact⟨[],rfl,by simp [D2]⟩
 .exact⟨[],by simp [A5],by simp [D2]⟩
 .refine⟨(cs.drop o).take (l.length*sz),by simp only[A5,z];rw[if_neg oM,if_pos D],by rw[List.length_take,List.length_drop];omega,fun i a y=>?_⟩;have:=E i a y;have I:i<l.length:=(gS y).1;have u:(i+1)*sz<=l.length*sz:=Nat.mul_le_mul_right _ I;rw[Nat.add_mul]at u;rw[List.drop_take,List.take_take,List.drop_drop,Nat.min_eq_left oM];exact this
theorem D2.mono{α:Type}{sz:Nat}{R u:LV->α->Prop}{c:LV}{l:List α}(h:D2 sz R c l)(y:∀cs a,R cs a->u cs a):D2 sz u c l:=⟨h.1,fun i a z=>y _ _ (h.2 i a z)⟩
theorem cg.sl{H:d8}{lo sz:Nat}{α:Type}{R:LV->α->Prop}{v:Value}{l:List α}{cs:LV}(h:cg H lo sz v l.length cs)(z:D2 sz R cs l):SlI H H.next sz R v l:=by
 rcases h with⟨h,u,_⟩|⟨b,c,y,u,E,I⟩
 .exact .inl ⟨h,List.length_eq_zero_iff.1 u⟩
 .refine .inr ⟨b,0,c,y,.inr ⟨cs,true,u7 u,u,oM,fun i a D=>?_⟩⟩;rw[Nat.zero_add];exact z.2 i a D
theorem FC{α:Type}{sz:Nat}{enc:α->LV}(hs:∀a,(enc a).length=sz) (l:List α):D2 sz (fun cs a=>cs=enc a) (l.flatMap enc) l:=by
 refine⟨?_,fun i a h=>(mY hs h).2⟩;induction l with
 |nil=>simp
 |cons x l u=>rw[List.flatMap_cons,List.length_append,hs,u,List.length_cons,Nat.add_mul];omega
theorem tp{P:Program}{t e:TypeId}{sz bytes:Nat}{z:LV}(ht:P.underlying t=some (.slice e))(hs:D8 P e=some sz)(O:V0 P e=some bytes)(W:O9 P e=some z)(h0:0<sz)(h1:0<bytes)
  {H:d8} {lo:Nat} {v:Value} {n:Nat} {cs:LV} (h:cg H lo sz v n cs) {a:Option Addr} {m k:Nat} {el:LV} (hx:A5 H sz (.slice a m k)=some el) (J:el.length=m*sz) (hr:(n+m)*bytes<=140737488355328) (y:lo<=H.next):
  Ret (C2 P H [t,t] v (.slice a m k)) H fun v' H'=>cg H' lo sz v' (n+m) (cs++el)/\i6 lo H H':=by
 have I:I5 P t=some e:=by simp [I5,ht]
 have u:aY P H sz (some t) (.slice a m k)=some (m,el):=by
  simp only[aY,Option.bind_some,ht,hx,Option.map_some]
 have E:¬(sz=0\/bytes=0):=oM;by_cases hm:m=0
 .subst hm;have he:el=[]:=List.length_eq_zero_iff.1 oM;subst he;rw[Nat.add_zero,List.append_nil];refine⟨v,none,H,?_,rfl,h,i6.refl _ _⟩;rcases h with⟨rfl,rfl,rfl⟩|⟨b,c,rfl,X,U,D⟩
  .simp [C2,I,hs,O,W,E,u,dL]
  .simp [C2,I,hs,O,W,E,u,dL]
 .rcases h with⟨rfl,rfl,rfl⟩|⟨b,c,rfl,X,U,D⟩
  .refine⟨.slice (some ⟨H.next,0,none⟩) m (m+1),some (H.push (.cells el true sz)),_,?_,rfl,.inr ⟨H.next,_,by rw[Nat.zero_add],j9,y,by simpa using J⟩,i6.push y⟩;simp only[C2,List.head?_cons,Option.bind_some,I,hs,O,W,List.getElem?_cons_succ,List.getElem?_cons_zero,if_neg E,u];rw[if_neg hm,if_pos (by simpa using hr),dL]
  .have a1:=u7 X;have S:((cs.drop 0).take (n*sz))=cs:=by rw[List.drop_zero,List.take_of_length_le oM]
   by_cases hc:c=n
   .refine⟨.slice (some ⟨H.next,0,none⟩) (n+m) (n+m+1),some (H.push (.cells (cs++el) true sz)),_,?_,rfl,.inr ⟨H.next,_,rfl,j9,y,by rw[List.length_append,D,J,Nat.add_mul]⟩,i6.push y⟩;simp only[C2,List.head?_cons,Option.bind_some,I,hs,O,W,List.getElem?_cons_succ,List.getElem?_cons_zero,if_neg E,u,X,S];rw[if_neg hm,if_pos hr,if_pos (by simp;omega),if_pos hc,dL]
   .refine⟨.slice (some ⟨H.next,0,none⟩) (n+m) (n+m+1),some ((H.put b .dead).push (.cells (cs++el) true sz)),_,?_,rfl,.inr ⟨H.next,_,rfl,y7 ⟨by simp [t5],by simp [t5]⟩,y,by rw[List.length_append,D,J,Nat.add_mul]⟩,(i6.put U).trans (i6.push (by rw[t5];exact y))⟩;simp only[C2,List.head?_cons,Option.bind_some,I,hs,O,W,List.getElem?_cons_succ,List.getElem?_cons_zero,if_neg E,u,X,S];rw[if_neg hm,if_pos hr,if_pos (by simp;omega),if_neg hc,if_pos trivial,dL]
section
variable{P:Program}
def Jw(P:Program)(q:Option (TypeId×TypeId))(B:Option Blk)(k:Value)(ok:Bool):Option Value:=
 match q with
 |some (kt,et)=>
  if bh P kt k then
   match B with
   |some (.map es)=>
    match kM P kt k es 0,iP P et with
    |some (some (_,v)),some _=>some (if ok then .tuple #[v,.bool true] else v)
    |some none,some z=>some (if ok then .tuple #[z,.bool false] else z)
    |_,_=>none
   |_=>none
  else none
 |none=>none
theorem uR(H:d8)(t:TypeId)(b:Nat)(k:Value)(ok:Bool):gQ P H t (.map (some b)) k ok=Jw P (vK P t) (H.get b) k ok:=by
 unfold gQ Jw;cases vK P t with
 |none=>rfl
 |some q=>
  simp only;split
  .generalize H.get b=B;cases B with
   |none=>rfl
   |some B=>cases B<;>rfl
  .rfl
def Qx(P:Program)(q:Option (TypeId×TypeId))(B:Option Blk)(H:d8)(b:Nat)(k v:Value):Option d8:=
 match q with
 |some (kt,_)=>
  if bh P kt k then
   match B with
   |some (.map es)=>
    match kM P kt k es 0 with
    |some (some (i,_))=>some (H.put b (.map (es.set i (k,v))))
    |some none=>some (H.put b (.map (es++[(k,v)])))
    |none=>none
   |_=>none
  else none
 |none=>none
theorem nX(H:d8)(t:TypeId)(b:Nat)(k v:Value):Y7 P H t (.map (some b)) k v=Qx P (vK P t) (H.get b) H b k v:=by
 unfold Y7 Qx;cases vK P t with
 |none=>rfl
 |some q=>
  simp only;split
  .generalize H.get b=B;cases B with
   |none=>rfl
   |some B=>cases B<;>rfl
  .rfl
def eqT(ks:Option (List Q5))(xs ys:LV):Option Bool:=
 match ks with
 |some ks=>A6 ks xs ys
 |none=>none
theorem tA(t:TypeId)(xs h:Array Value):F6 P .eql t (.agg xs) (.agg h)=(eqT (oW P t) xs.toList h.toList).map .bool:=by
 simp only[F6,eqA,eqT];cases oW P t<;>rfl
theorem tH(t:TypeId)(xs h:Array Value):F6 P .neq t (.agg xs) (.agg h)=(eqT (oW P t) xs.toList h.toList).map fun b=> .bool !b:=by
 simp only[F6,eqA,eqT];cases oW P t<;>rfl
theorem DP(h:List Q5)(xs u:LV):eqT (some h) xs u=A6 h xs u:=rT
theorem JY:A6 [] [] []=some true:=rT
theorem JZ(h:List Q5)(a b:ByteArray)(xs u:LV):A6 (.str::h) (.string a::xs) (.string b::u)=(A6 h xs u).map (decide (a=b)&& ·):=by
 simp only[A6,N6,sO];cases A6 h xs u<;>rfl
def zO(k:ByteArray×ByteArray)(l:List (ByteArray×ByteArray)):Bool:=l.any fun x=>decide (k=x)
end
abbrev ly{p:Prop}(_:p):Prop:=p
theorem stOf{p:Prop}(h:p):ly h:=h
theorem ig:ly (aI (aI (aI (aI @JP @JN) (aI @Gj (aI @CR @CQ))) (aI (aI @JO @Gk) (aI @Gl (aI @CS @yr)))) (aI (aI (aI @IG @vu) (aI @FE (aI @JM @EW))) (aI (aI @BJ @LR) (aI @HX (aI @EV @BG))))):=stOf _
theorem rH:ly (aI (aI (aI @l9 @A4) (aI @i5 @t5)) (aI (aI @zG @uP) (aI @List.length_cons.{0} @List.length_nil.{0}))):=stOf _
theorem Mn:ly (aI (aI (aI (aI (aI @Option.getD_some.{0} (aI @FF @Cq)) (aI (aI @Gh @xG) (aI @Dp @Ay))) (aI (aI (aI @GK @HW) (aI @BO @wL)) (aI (aI @Dy @AI) (aI @Dx @AH)))) (aI (aI (aI @Ff (aI @EA @HG)) (aI (aI @DM @wJ) (aI @wK @Bv))) (aI (aI (aI @Bu @uG) (aI @pA @uH)) (aI (aI @xB @Bw) (aI @uE @rU))))) (aI (aI (aI (aI @kh (aI @rV @ki)) (aI (aI @nB @nF) (aI @rS @rX))) (aI (aI (aI @pB @Fz) (aI @xA @Ez)) (aI (aI @Bt @Ey) (aI @Br @Di)))) (aI (aI (aI @wh (aI @Dk @xX)) (aI (aI @Ai @Gs) (aI @Aj @my))) (aI (aI (aI @Dg @Ap) (aI @rh @Gr)) (aI (aI @JS @ti) (aI @Df @Gt)))))):=stOf _
theorem Mo:ly (aI (aI (aI (aI (aI @Dh (aI @Ao @pk)) (aI (aI @Al @pl) (aI @Am @wi))) (aI (aI (aI @pp @An) (aI @Dj @tm)) (aI (aI @mT @th) (aI @De @tu)))) (aI (aI (aI @CD (aI @HK @wM)) (aI (aI @wN @Cg) (aI @Cf @Is))) (aI (aI (aI @BW @Fm) (aI @Es @Gv)) (aI (aI @GF @GC) (aI @Gw @JV))))) (aI (aI (aI (aI @GG (aI @wl @GB)) (aI (aI @Gz @Gy) (aI @Gx @tB))) (aI (aI (aI @tI @tC) (aI @tJ @MH)) (aI (aI @MG @bap) (aI @bcp @pD)))) (aI (aI (aI @dM (aI @oZ @vM)) (aI (aI @fX @kQ) (aI @eT @DD))) (aI (aI (aI @GJ @Dn) (aI @JX @tL)) (aI (aI @mD @IA) (aI @IB @Cn)))))):=stOf _
theorem Mp:ly (aI (aI (aI (aI (aI @Fp (aI @Fq @xW)) (aI (aI @uo @mX) (aI @py @xf))) (aI (aI (aI @ez @List.toList_toArray.{0}) (aI @ur @ut)) (aI (aI @rM @xe) (aI @EZ @jz)))) (aI (aI (aI @xN (aI @BL @HZ)) (aI (aI @Bool.and_false @Bool.false_and) (aI @LF @BA))) (aI (aI (aI @eW @HL) (aI @IU @Cw)) (aI (aI @AE @AF) (aI @wB @rv))))) (aI (aI (aI (aI @tO (aI @pu @AG)) (aI (aI @wC @Im) (aI @Fk @xU))) (aI (aI (aI @BV @uZ) (aI @Io @Fl)) (aI (aI @yE @vD) (aI @FL @FK)))) (aI (aI (aI @pv (aI @lE @yM)) (aI (aI @Iu @Cb) (aI @Cc @Bf))) (aI (aI (aI @ul @lH) (aI @xx @Bq)) (aI (aI @lG @xy) (aI @Ih @Ig)))))):=stOf _
theorem Mq:ly (aI (aI (aI (aI (aI @Dq (aI @pq @rq)) (aI (aI @DZ @Bg) (aI @wW @pt))) (aI (aI (aI @C7 @C8) (aI @GQ @wO)) (aI (aI @HN @EM) (aI @HO @xJ)))) (aI (aI (aI @i5 (aI @t5 @y7)) (aI (aI @i7 @j5) (aI @j6 @l9))) (aI (aI (aI @A4 @zG) (aI @uP @Ic)) (aI (aI @LW @BN) (aI @qB @qC))))) (aI (aI (aI (aI @Fa (aI @Ia @xO)) (aI (aI @BM @Ib) (aI @Fb @LX))) (aI (aI (aI @if_true.{1} @if_false.{1}) (aI @decide_eq_true_eq @decide_true)) (aI (aI @decide_false @Option.map_some.{0,0}) (aI @Option.map_none.{0,0} @Option.bind_some.{0,0})))) (aI (aI (aI @List.map_cons.{0,0} (aI @List.map_nil.{0,0} @List.append_nil.{0})) (aI (aI @List.nil_append.{0} @List.cons_append.{0}) (aI @List.length_cons.{0} @List.length_nil.{0}))) (aI (aI (aI @List.take_succ_cons.{0} @List.take_zero.{0}) (aI @List.drop_succ_cons.{0} @List.drop_zero.{0})) (aI (aI @List.all_cons.{0} @List.all_nil.{0}) (aI @List.replicate_succ.{0} @List.replicate_zero.{0})))))):=stOf _
theorem Mr:ly (aI (aI (aI (aI (aI @List.flatten_cons.{0} @List.flatten_nil.{0}) (aI @Bool.false_eq_true @Bool.true_eq_false)) (aI (aI @Bool.not_true @Bool.not_false) (aI @Bool.and_true (aI @Bool.true_and @Bool.or_false)))) (aI (aI (aI @Bool.false_or @Bool.or_true) (aI @Bool.true_or @Bool.and_self)) (aI (aI @ne_eq.{1} @not_false_eq_true) (aI @not_true_eq_false (aI @and_self @and_true))))) (aI (aI (aI (aI @true_and @Nat.zero_add) (aI @Nat.add_zero @Nat.zero_mul)) (aI (aI @Nat.le_refl @Option.some.injEq.{0}) (aI @Int.toNat_natCast (aI @AL @ye)))) (aI (aI (aI @yg @BP) (aI @xQ (aI @uR @nX))) (aI (aI @tA @tH) (aI @DP (aI @JY @JZ)))))):=stOf _
theorem rQ:ly (aI (aI (aI Mn Mo) (aI Mp Mq)) (aI (aI Mr @List.getElem?_toArray.{0}) (aI @List.getElem?_cons_zero.{0} @List.getElem?_cons_succ.{0}))):=stOf _
section
variable{P:Program}{base:Bs}{w0:World}{φ:List Loc}{S:List Blk}{w:World}{nt:Nat}{e:Env}{a:Act}
def yY:Obj->Bool
 | .loop _=>true
 | .deferred _=>true
 |_=>false
theorem BR.away{B:Blk}{l:Loc}(h:BR base φ B l w){k:Nat}{o:Obj}(z:w.heap[k]?=some o)(y:yY o=true)(I:¬base.pr k)(E:B≠ .dead):l.blk≠k:=by
 intro q;cases B with
 |dead=>exact E rfl
 |cells c own sz=>
  cases own with
  |false=>exact I (q▸h.below)
  |true=>
   obtain⟨_,_,cs,t,U,u,_⟩:=h.2.2.2.2 rfl;rw[q,z]at u;cases u;cases y
 |map O=>
  obtain⟨_,D,J,u,_⟩:=h;rw[q,z]at u;cases u;cases y
 |iter s p=>
  have u:=h.2.2;rw[q,z]at u;cases u;cases y
theorem WR.putX(h:WR base w0 φ S w){k:Nat}{o:Obj}(O:w.heap[k]?=some o)(I:yY o=true)(D:¬base.pr k)(U:Obj):WR base w0 φ S (w.putObj k U):=by
 refine⟨h.len,⟨h.below.os,h.below.tape,h.below.output,by rw[World.putObj_size];exact h.below.size,fun j y=>?_⟩,fun j y=>by rw[World.putObj_size];exact h.size j y,fun b B l E J=>?_,h.sep⟩
 .rw[World.putObj_heap_other (show j≠k from fun q=>D (q▸y))];exact h.below.block j y
 .have u:=h.blk b B l E J;by_cases z:B= .dead
  .subst z;trivial
  .exact u.mono (Ext.refl φ) (World.putObj_heap_other (u.away O I D z))
theorem nf(h:WR base w0 φ S w){k:Nat}{o:Obj}(J:w.heap[k]?=some o)(z:yY o=true)(E:¬base.pr k)(O:Obj)(u:Nat):Fr φ S u w (w.putObj k O):=
 fun b B l _ y D I=>World.putObj_heap_other ((h.blk b B l y I).away J z E D)
theorem WR.raiseX(h:WR base w0 φ S w)(Q:Nat->Prop)(u:∀k,Q k->¬base.pr k/\∃o,w.heap[k]?=some o/\yY o=true):WR (base.add Q) w φ S w:=
 h.raise Q (fun k J=>(gA (u k J).2.choose_spec.1).1) fun b B l E U O I=>by
  obtain⟨y,o,z,D⟩:=u _ I;refine(h.blk b B l E O).away z D y ?_ rfl;rintro rfl;cases U
theorem WR.allocX(h:WR base w0 φ S w)(o:Obj):WR base w0 φ S (w.alloc o):=by
 refine h.grow ⟨by simp,fun j u _=>Below.heap_alloc _ _ _ u⟩ (h.below.alloc h.size o)
theorem uw(h:WR base w0 φ S w)(o:Obj)(z:Nat):Fr φ S z w (w.alloc o):=fun b B l _ D E I=>by
 refine Below.heap_alloc _ _ _ ?_;have u:=h.blk b B l D I;by_cases y:B.mine=true
 .exact(u.lt y).2
 .cases B with
  |dead=>exact absurd rfl E
  |cells c own sz=>
   have:own=false:=by simpa [Blk.mine] using y
   subst this;exact h.size _ u.below
  |map J=>exact absurd rfl y
  |iter s p=>exact absurd rfl y
open Classical in
noncomputable def U9(P:Program)(C:A8)(k:Nat)(A B:Code)(p1 p2:Nat)(e:Env)(ok:d8->Prop):List (Nat×Nat)->d8->Option (Out×d8)
 |[],H=>some (.normal,H)
 |x::r,H=>
  match L5 P C k A ((p2,.int .i64 (x.2:Int))::(p1,.int .i64 (x.1:Int))::e) H with
  |some (.normal,e1,H1)=>
   match L5 P C k B e1 H1 with
   |some (.normal,_,H2)=>if ok H2 then U9 P C k A B p1 p2 e ok r H2 else none
   |some (.ret,_,H2)=>some (.ret,H2)
   |_=>none
  |_=>none
theorem dm{P:Program}{C:A8}{k:Nat}{A B:Code}{p1 p2:Nat}{e:Env}{ok:d8->Prop}:∀(l r:List (Nat×Nat))(H:d8),
  U9 P C k A B p1 p2 e ok (l++r) H=match U9 P C k A B p1 p2 e ok l H with
   |some (.normal,H1)=>U9 P C k A B p1 p2 e ok r H1
   |z=>z
 |[],r,H=>rfl
 |x::l,r,H=>by
  simp only[List.cons_append,U9];split
  .split
   .split
    .exact dm l r _
    .rfl
   .rfl
   .rfl
  .rfl
theorem cK{C:A8}(u:bP P base w0 C){k:Nat}{A B:Code}{p1 p2:Nat}{e:Env}{ok:d8->Prop}:∀(l:List (Nat×Nat))(H:d8){o:Out}{H':d8},U9 P C k A B p1 p2 e ok l H=some (o,H')->Le H H'
 |[],H,o,H',h=>by cases h;exact Le.refl _
 |x::l,H,o,H',h=>by
  simp only[U9]at h;split at h
  .rename_i I E z;split at h
   .rename_i D H2 y;split at h
    .exact((N8 u z).trans (N8 u y)).trans (cK u l H2 h)
    .cases h
   .rename_i D H2 y;cases h;exact(N8 u z).trans (N8 u y)
   .cases h
  .cases h
def vV(P:Program)(gf:Nat)(lb:Array Value)(Rd:World->Prop)(L:List (Nat×Nat))(W0:World):Prop:=
 ∀(l:Nat)(J Jx:List (Nat×Nat)->World->Prop),(∀pre w,J pre w->J pre w.drew)->
  (∀pre(x:Nat×Nat) W,(pre++[x])<+:L->J pre W->YieldAt Fence.wide 1 P l #[.int .i64 (x.1:Int),.int .i64 (x.2:Int)] W fun e W'=>
   (e= .returned (.bool true)/\J (pre++[x]) W'/\(Rd W->Rd W'))\/(e= .returned (.bool false)/\Jx (pre++[x]) W'))->
  J [] W0->CallsIn Fence.wide 2 P gf (#[.func (.yield l) #[] #[]]++lb) W0 fun e W'=>(∃v,e= .returned v)/\(J L W'\/∃pre,pre<+:L/\Jx pre W')
theorem lO{C:A8}(hm:P.follows .mixedOrders=true)(hC:X8 P C){k:Nat}{A B:Code}{p1 p2:Nat}{g:Operand}{ok:d8->Prop}{L:List (Nat×Nat)}{H Hf:d8}{o:Out}{Q:Exit->Act->World->Prop}
  (rA:E7 A=true) (rB:E7 B=true) (d9:I1 nt A=true) (c5:I1 nt B=true) (h1:p1<nt) (h2:p2<nt)
  (hE:ER φ nt e a) (hW:WR base w0 φ H.bs w) {gf:Nat} {lb:Array Value} (hg:a.eval g= .func (.func gf) #[] lb) (d5:dv P gf)
  (Rd:World->Prop) (d3:∀X H' W',Ext φ X->WR base w0 X H'.bs W'->ok H'->Rd W')
  (c4:∀W0,WR base w0 φ H.bs W0->vV P gf lb Rd L W0)
  (h:U9 P C k A B p1 p2 e ok L H=some (o,Hf))
  (hp:∀X W',Ext φ X->WR base w0 X Hf.bs W'->Fr φ H.bs Hf.low w W'->W'.heap[w.heap.size]?=some (.deferred (some []))->Q o.exit' {a with defers:={target:= .collected w.heap.size,args:= #[]}::a.defers} W'):
  (Code.rangeFunc g #[p1,p2] A B).wp P Q a w:=by
 refine(wpIn_wide (n:=3)).1 (wpIn_rangeFunc fun fn d6=>?_);obtain⟨D,hD⟩:∃D,w.heap.size=D:=⟨_,rfl⟩
 rw[hD]at hp;have c8:¬base.pr D:=fun q=>oN (hW.size D q);have J:¬base.pr (D+1):=fun q=>oN (hW.size (D+1) q);obtain⟨z,u⟩:∃z:LoopState->Option Code->Loop,z=fun st pe=>{state:=st,pending:=pe,fn,tmps:=a.tmps,params:= #[p1,p2],assign:=A,body:=B,defers:=D}:=⟨_,rfl⟩
 obtain⟨W1,a6⟩:∃W1,(w.alloc (.deferred (some []))).alloc (.loop (z .ready none))=W1:=⟨_,rfl⟩
 have d2:W1.heap[D+1]?=some (.loop (z .ready none)):=by
  rw[<-a6,<-hD];have:=World.alloc_heap_new (w.alloc (.deferred (some []))) (.loop (z .ready none));rwa [World.size_alloc]at this
 have d1:W1.heap[D]?=some (.deferred (some [])):=by
  rw[<-a6,<-hD];exact(Below.heap_alloc _ _ _ sM).trans (World.alloc_heap_new w _)
 have c6:WR base w0 φ H.bs W1:=by rw[<-a6];exact(hW.allocX _).allocX _
 have c7:Fr φ H.bs H.low w W1:=by
  rw[<-a6];exact Fr.trans (Ext.refl φ) (Le.refl H) (Le.refl H) hW.len (uw hW _ _) (uw (hW.allocX _) _ _)
 obtain⟨J0,a9⟩:=eY (fun o E W=>∃X H',U9 P C k A B p1 p2 e ok E H=some (o,H')/\Ext φ X/\WR base w0 X H'.bs W/\Fr φ H.bs H'.low w W/\W.heap[D]?=some (.deferred (some [])):Out->List (Nat×Nat)->World->Prop);have d7:=c4 W1 c6 (D+1) (fun E W=>J0 .normal E W/\W.heap[D+1]?=some (.loop (z .ready none))) (fun E W=>J0 .ret E W/\W.heap[D+1]?=some (.loop (z .done (some .ret))))
  (by
   rw[a9];rintro E W ⟨⟨X,H',q1,q2,q3,q4,q5⟩,q6⟩;exact⟨⟨X,H',q1,q2,q3.same_heap rfl rfl rfl rfl,q4,q5⟩,q6⟩)
  ?_ (by rw[a9];exact⟨⟨φ,H,rfl,Ext.refl φ,c6,c7,d1⟩,d2⟩)
 .refine⟨D+1,[{target:= .collected D,args:= #[]}],W1,{target:= .fn (.func gf) lb,args:= #[.func (.yield (D+1)) #[] #[]]},W1,gf,#[.func (.yield (D+1)) #[] #[]]++lb,W1,?_,?_,?_,?_,fun _=>oM,?_⟩
  .rw[<-a6,u,<-hD];exact run_enterLoop_outer _ _ _ _ _
  .simp only[resolve,hg];simp [go_sem]
  .intro f' e4;trivial
  .have:=jJ d5 (#[.func (.yield (D+1)) #[] #[]]++lb) W1;simp [invoke,go_sem,this]
  .refine d7.mono ?_;rw[a9];rintro en W2 ⟨⟨v,rfl⟩,(⟨⟨X,H',q1,q2,q3,q4,q5⟩,q6⟩|⟨E,a7,⟨X,H',q1,q2,q3,q4,q5⟩,q6⟩)⟩
   .rw[h]at q1;cases q1;refine⟨none,_,by have:=run_endLoop (P:=P) q6 (by rw[u];simp);rw[u]at this;exact this,?_⟩;exact hp X _ q2 (q3.putX q6 rfl J _) (Fr.trans q2 (cK (hC base w0) L H h) (Le.refl _) hW.len q4 (nf q3 q6 rfl J _ _)) ((World.putObj_heap_other oM).trans q5)
   .obtain⟨r,rfl⟩:=a7;rw[dm,q1]at h;cases h;refine⟨some .ret,_,by have:=run_endLoop (P:=P) q6 (by rw[u];simp);rw[u]at this;exact this,wpIn_ret ?_⟩;exact hp X _ q2 (q3.putX q6 rfl J _) (Fr.trans q2 (cK (hC base w0) E H q1) (Le.refl _) hW.len q4 (nf q3 q6 rfl J _ _)) ((World.putObj_heap_other oM).trans q5)
 ·
  rw[a9];rintro E x W a7 ⟨⟨X,H',q1,q2,q3,q4,q5⟩,q6⟩;have hy:=run_yield (P:=P) (args:= #[.int .i64 (x.1:Int),.int .i64 (x.2:Int)]) q6 (by rw[u];rfl);rw[u]at hy;refine⟨fn,_,A,B,hy,roundIn_of_wpIn d6 ?_⟩;have hx:U9 P C k A B p1 p2 e ok [x] H'≠none:=by
   intro hn;obtain⟨r,rfl⟩:=a7;rw[dm,dm,q1]at h;simp only[hn]at h;cases h
  have y:=dm (P:=P) (C:=C) (k:=k) (A:=A) (B:=B) (p1:=p1) (p2:=p2) (e:=e) (ok:=ok) E [x] H;rw[q1]at y;simp only[U9]at hx y;have b0:=cK (hC base w0) E H q1;have d0:ER X nt ((p2,.int .i64 (x.2:Int))::(p1,.int .i64 (x.1:Int))::e) {tmps:=(#[p1,p2].zip #[(.int .i64 (x.1:Int):Value),.int .i64 (x.2:Int)]).foldl (fun t(p,v)=>t.setIfInBounds p v) a.tmps,defers:=[]}:=by
   have h3:=((hE.mono q2).put (d:=some p1) (by simp [fo,h1]) (.int .i64 (x.1:Int))).put (d:=some p2) (by simp [fo,h2]) (.int .i64 (x.2:Int));have hz:(#[p1,p2].zip #[(.int .i64 (x.1:Int):Value),.int .i64 (x.2:Int)]).foldl (fun t(p,v)=>t.setIfInBounds p v) a.tmps=(a.tmps.setIfInBounds p1 (.int .i64 (x.1:Int))).setIfInBounds p2 (.int .i64 (x.2:Int)):=sM;rw[hz];exact⟨h3.size,h3.val⟩
  split at hx
  rotate_left
  .exact absurd rfl hx
  rename_i e1 H1 hA;simp only[hA]at y;have b1:=N8 (hC base w0) hA;have a3:∀{φ2:List Loc}{S2:List Blk}{V:World}{st:Loop},WR base w0 φ2 S2 V->V.heap[D]?=some (.deferred (some []))->V.heap[D+1]?=some (.loop st)->WR (base.add fun j=>j=D\/j=D+1) V φ2 S2 V:=fun hV hd hl=>
   hV.raiseX _ fun j hj=>by
    rcases hj with rfl|rfl
    .exact⟨c8,_,hd,rfl⟩
    .exact⟨J,_,hl,rfl⟩
  refine iv (base:=base.add fun j=>j=D\/j=D+1) (w0:=W) hm hC (D+1) _ rA d9 hA d0 (a3 q3 q5 q6) ?_;intro φ2 a2 w2 a5 b9 b5 c0 e3;have k5:w2.heap[D]?=some (.deferred (some [])):=(b5.below.block D (.inr (.inl rfl))).trans q5;have k6:w2.heap[D+1]?=some (.loop (z .ready none)):=(b5.below.block (D+1) (.inr (.inr rfl))).trans q6;have b2:=b5.lower q3.below;refine⟨_,run_beginRound k6 (by rw[u]),?_⟩;obtain⟨w3,a8⟩:∃w3,w2.putObj (D+1) (.loop {z .ready none with state:= .busy})=w3:=⟨_,rfl⟩
  rw[a8];have m5:w3.heap[D]?=some (.deferred (some [])):=by rw[<-a8];exact(World.putObj_heap_other oM).trans k5
  have m6:w3.heap[D+1]?=some (.loop (z .busy none)):=by
   rw[<-a8,World.putObj_heap_same (gA k6).1,u]
  have b6:WR base w0 φ2 H1.bs w3:=by rw[<-a8];exact b2.putX k6 rfl J _
  have f3:Fr φ H.bs H1.low w w3:=by
   have g1:Fr X H'.bs H1.low W w2:=c0;have g2:Fr φ2 H1.bs H1.low w2 w3:=by rw[<-a8];exact nf b2 k6 rfl J _ _
   exact Fr.trans (q2.trans a5) (b0.trans b1) (Le.refl _) hW.len (Fr.trans q2 b0 b1 hW.len q4 g1) g2
  have b8:∀{φ4:List Loc}{H2:d8}{w4:World}(I:Option Code),Ext φ2 φ4->Le H1 H2->WR (base.add fun j=>j=D\/j=D+1) w3 φ4 H2.bs w4->Fr φ2 H1.bs H2.low w3 w4->
    ∃w5,(Instr.endRound (D+1) I).run P w4= .ok (.bool I.isNone) w5/\WR base w0 φ4 H2.bs w5/\Fr φ H.bs H2.low w w5/\w5.heap[D]?=some (.deferred (some []))/\w5.heap[D+1]?=some (.loop (z (if I.isNone then .ready else .done) I)):=by
   intro φ4 H2 w4 I U b4 a1 O;have n5:w4.heap[D]?=some (.deferred (some [])):=(a1.below.block D (.inr (.inl rfl))).trans m5;have n6:w4.heap[D+1]?=some (.loop (z .busy none)):=(a1.below.block (D+1) (.inr (.inr rfl))).trans m6;have b3:=a1.lower b6.below;refine⟨_,run_endRound I n6,b3.putX n6 rfl J _,?_,(World.putObj_heap_other oM).trans n5,?_⟩
   .exact Fr.trans ((q2.trans a5).trans U) ((b0.trans b1).trans b4) (Le.refl _) hW.len (Fr.trans (q2.trans a5) (b0.trans b1) b4 hW.len f3 O) (nf b3 n6 rfl J _ _)
   .rw[World.putObj_heap_same (gA n6).1,u]
  split at hx
  .rename_i e2 H2 hB;have b7:=N8 (hC base w0) hB;simp only[hB]at y;split at hx
   rotate_left
   .exact absurd rfl hx
   rename_i c3;rw[if_pos c3]at y;refine iv (base:=base.add fun j=>j=D\/j=D+1) (w0:=w3) hm hC (D+1) _ rB c5 hB b9 (a3 b6 m5 m6) ?_;intro φ4 a4 w4 U c9 a1 O d4;obtain⟨w5,r1,r2,r3,r4,r5⟩:=b8 none U b7 a1 O;exact⟨_,w5,r1,.inl ⟨rfl,⟨⟨φ4,H2,y,(q2.trans a5).trans U,r2,r3,r4⟩,r5⟩,fun _=>d3 φ4 H2 w5 ((q2.trans a5).trans U) r2 c3⟩⟩
  .rename_i e2 H2 hB;have b7:=N8 (hC base w0) hB;simp only[hB]at y;refine iv (base:=base.add fun j=>j=D\/j=D+1) (w0:=w3) hm hC (D+1) _ rB c5 hB b9 (a3 b6 m5 m6) ?_;intro φ4 a4 w4 U c9 a1 O d4;obtain⟨w5,r1,r2,r3,r4,r5⟩:=b8 (some .ret) U b7 a1 O;exact⟨_,w5,r1,.inr ⟨rfl,⟨φ4,H2,y,(q2.trans a5).trans U,r2,r3,r4⟩,r5⟩⟩
  .exact absurd rfl hx
end
section
variable{P:Program}{X:Lib}
theorem vS(z:P.follows .mixedOrders=true)(u:pP P X):X8 P (CL P X):=fun base w0 g args H v r h=>by
 obtain⟨k,y⟩:=bZ.1 h;exact GL z u k base w0 g args H v r y
open Classical in
noncomputable def bH(P:Program)(X:Lib)(A B:t7)(p1 p2:Nat)(e:Env)(ok:d8->Prop):List (Nat×Nat)->d8->Option (Out×d8)
 |[],H=>some (.normal,H)
 |x::r,H=>
  match(LE P X A ((p2,.int .i64 (x.2:Int))::(p1,.int .i64 (x.1:Int))::e) H:Option (Out×Env×d8))with
  |some (.normal,e1,H1)=>
   match(LE P X B e1 H1:Option (Out×Env×d8))with
   |some (.normal,_,H2)=>if ok H2 then bH P X A B p1 p2 e ok r H2 else none
   |some (.ret,_,H2)=>some (.ret,H2)
   |_=>none
  |_=>none
theorem eA{c:Code}{l:t7}(h:Q0 c=some l){e:Env}{H:d8}{r:Out×Env×d8}(y:LE P X l e H=some r):∃k,L5 P (CL P X) k c e H=some r:=by
 obtain⟨k,u⟩:=T1.1 y;exact⟨k,by rw[nN (CL P X) k h];exact u⟩
theorem be{C:A8}{k u:Nat}(y:k<=u){c:Code}{e:Env}{H:d8}{r:Out×Env×d8}(h:L5 P C k c e H=some r):L5 P C u c e H=some r:=aZ (fun _ _ _=>LeO.refl _) k u y c e H r h
theorem li{C:A8}{k z:Nat}(u:k<=z){A B:Code}{p1 p2:Nat}{e:Env}{ok:d8->Prop}:∀(l:List (Nat×Nat))(H:d8){r:Out×d8},U9 P C k A B p1 p2 e ok l H=some r->U9 P C z A B p1 p2 e ok l H=some r
 |[],H,r,h=>h
 |x::l,H,r,h=>by
  simp only[U9]at h ⊢;split at h
  .rename_i J I E;simp only[be u E];split at h
   .rename_i D H2 y;simp only[be u y];split at h
    .rename_i q;rw[if_pos q];exact li u l H2 h
    .cases h
   .rename_i D H2 y;simp only[be u y];exact h
   .cases h
  .cases h
theorem ff{J O:Code}{A B:t7}(S:Q0 J=some A)(D:Q0 O=some B){p1 p2:Nat}{e:Env}{ok:d8->Prop}:∀(l:List (Nat×Nat))(H:d8){r:Out×d8},bH P X A B p1 p2 e ok l H=some r->∃k,U9 P (CL P X) k J O p1 p2 e ok l H=some r
 |[],H,r,h=>⟨0,h⟩
 |x::l,H,r,h=>by
  simp only[bH]at h;split at h
  .rename_i e1 H1 h1;obtain⟨y,U⟩:=eA S h1;split at h
   .rename_i W H2 z;obtain⟨u,I⟩:=eA D z;split at h
    .rename_i q;obtain⟨E,q3⟩:=ff S D l H2 h;refine⟨max y (max u E),?_⟩;simp only[U9,be (show y<=max y (max u E) from oM) U,be (show u<=max y (max u E) from oM) I,if_pos q];exact li oM l H2 q3
    .cases h
   .rename_i W H2 z;obtain⟨u,I⟩:=eA D z;refine⟨max y u,?_⟩;simp only[U9,be (show y<=max y u from oM) U,be (show u<=max y u from oM) I];exact h
   .cases h
  .cases h
noncomputable def sI(P:Program)(X:Lib)(c1 c2 A B c3:t7)(p1 p2:Nat)(it:Env->d8->Option (List (Nat×Nat)×(d8->Prop)))(e:Env)(H:d8):Option (Out×Env×d8):=
 match(LE P X c1 e H:Option (Out×Env×d8))with
 |some (.normal,e1,H1)=>
  match(LE P X c2 e1 H1:Option (Out×Env×d8))with
  |some (.normal,e2,H2)=>
   match it e2 H2 with
   |some (L,ok)=>
    match bH P X A B p1 p2 e2 ok L H2 with
    |some (.normal,H3)=>LE P X c3 e2 H3
    |some (.ret,H3)=>some (.ret,e2,H3)
    |_=>none
   |none=>none
  |_=>none
 |_=>none
theorem Bi{base:Bs}{w0:World}{g:FuncId}{args:LV}{v U:Value}{r:Option d8}{H H':d8}(O:Le ⟨H.bs,H.next⟩ H')
  (D:∀(φ:List Loc)(w:World)(u:LV),VRs φ args u->WR base w0 φ H.bs w->Calls P g u.toArray w fun en E=>∃v' y,en= .returned v'/\Ext φ y/\VR y v v'/\WR base w0 y H'.bs E/\Fr φ H.bs H'.low w E)
  (h:D6 v H H'=(U,r)):(∀H',r=some H'->Le H H')/\(r=none->L9 U=true)/\
  ∀(φ:List Loc)(w:World)(u:LV),VRs φ args u->WR base w0 φ H.bs w->
   Calls P g u.toArray w fun en E=>match(generalizing:=false) r with
    |none=>en= .returned U/\Cls base w0 φ H.bs w E
    |some H'=>∃v' y,en= .returned v'/\Ext φ y/\VR y U v'/\WR base w0 y H'.bs E/\Fr φ H.bs H'.low w E:=by
 unfold D6 at h;split at h
 .rename_i z;simp only[Prod.mk.injEq]at h;obtain⟨rfl,rfl⟩:=h;simp only[Bool.and_eq_true,decide_eq_true_eq]at z;refine⟨fun H' h=>(by cases h),fun _=>z.1,fun φ w u W S=>(D φ w u W S).mono fun en E hq=>?_⟩;obtain⟨v',y,rfl,hx,hv,I,J⟩:=hq;exact⟨by rw[hv.eq_na z.1],S.back I J z.2⟩
 .simp only[Prod.mk.injEq]at h;obtain⟨rfl,rfl⟩:=h;refine⟨fun H2 h2=>?_,fun h=>(by cases h),fun φ w u W S=>(D φ w u W S).mono fun en E hq=>?_⟩
  .cases h2;exact⟨Nat.min_le_left _ _,O.len,fun b hb hl=>O.same b (Nat.lt_of_lt_of_le hb (Nat.min_le_right _ _)) hl⟩
  .obtain⟨v',y,h1,hx,hv,I,J⟩:=hq;exact⟨v',y,h1,hx,hv,I,fun b B l hb=>J b B l (Nat.lt_of_lt_of_le hb (Nat.min_le_right _ _))⟩
noncomputable def mi(P:Program)(X:Lib)(c1 c2 A B c3:t7)(p1 p2 nt:Nat)(rs:List ResultVar)(it:Env->d8->Option (List (Nat×Nat)×(d8->Prop)))(args:LV)(H:d8):Option (Value×Option d8):=
 if args.length<=nt then u5 P rs H (sI P X c1 c2 A B c3 p1 p2 it (N3 0 args) ⟨H.bs,H.next⟩) else none
theorem Fv(hm:P.follows .mixedOrders=true)(hX:pP P X){f:FuncId}{z:Func}{d1 d2 dA dB d3:Code}{c1 c2 A B c3:t7}{id p1 p2:Nat}{g:Operand}{gf:Nat}{it:Env->d8->Option (List (Nat×Nat)×(d8->Prop))}
  (a6:P.funcs[f]?=some z) (a5:z.body=some (.seq d1 (.seq (.seq d2 (.block id (.rangeFunc g #[p1,p2] dA dB))) d3))) (b5:(z.name== "runtime.NumGoroutine")=false)
  (l1:Q0 d1=some c1) (l2:Q0 d2=some c2) (lA:Q0 dA=some A) (lB:Q0 dB=some B) (l3:Q0 d3=some c3)
  (d0:(I1 z.ntmps d1&&I1 z.ntmps d2&&I1 z.ntmps dA&&I1 z.ntmps dB&&I1 z.ntmps d3&&E7 dA&&E7 dB&&decide (p1<z.ntmps)&&decide (p2<z.ntmps))=true) (f5:dv P gf)
  (e8:∀{base:Bs}{w0:World}{φ:List Loc}{w:World}{a:Act}{e:Env}{H:d8}{L:List (Nat×Nat)}{ok:d8->Prop},it e H=some (L,ok)->ER φ z.ntmps e a->WR base w0 φ H.bs w->
   ∃lb Rd,a.eval g= .func (.func gf) #[] lb/\(∀φ' H' W',Ext φ φ'->WR base w0 φ' H'.bs W'->ok H'->Rd W')/\∀W0,WR base w0 φ H.bs W0->vV P gf lb Rd L W0):
  X8 P (HQ f (mi P X c1 c2 A B c3 p1 p2 z.ntmps z.results.toList it)):=by
 intro base w0 g' args H v r h;simp only[Bool.and_eq_true,decide_eq_true_eq]at d0;obtain⟨⟨⟨⟨⟨⟨⟨⟨o1,o2⟩,oA⟩,oB⟩,o3⟩,rA⟩,rB⟩,f8⟩,f9⟩:=d0;have hC:=vS hm hX;have f3:dv P f:=⟨z,a6,b5,by rw[a5];rfl⟩
 unfold HQ at h;split at h
 rotate_left
 .cases h
 rename_i f4;subst f4;unfold mi at h;split at h
 rotate_left
 .cases h
 rename_i c9;unfold u5 at h;split at h
 .cases h
 rotate_left
 .cases h
 rename_i o e4 W f7 u;obtain⟨vs,g0,c4⟩:=Option.map_eq_some_iff.1 h;unfold sI at u;split at u
 rotate_left
 .cases u
 rename_i e1 H1 r1;split at u
 rotate_left
 .cases u
 rename_i e2 H2 r2;split at u
 rotate_left
 .cases u
 rename_i L ok f6;obtain⟨k1,x1⟩:=eA l1 r1;obtain⟨k2,x2⟩:=eA l2 r2;have b0:=N8 (hC base w0) x1;have b1:=N8 (hC base w0) x2;have a8:∀{base:Bs}{w0:World}{φ:List Loc}{w':World}{a':Act}{D:Nat}{R:Ending->World->Prop},ER φ z.ntmps e4 a'->WR base w0 φ W.bs w'->a'.defers=[{target:= .collected D,args:= #[]}]->w'.heap[D]?=some (.deferred (some []))->¬base.pr D->
   (∀v' a9,VR φ (bN vs) v'->WR base w0 φ W.bs a9->(∀b7,Fr φ W.bs b7 w' a9)->R (.returned v') a9)->LeavesInM Fence.wide 3 P z a'.tmps R a'.defers .returning w':=by
  intro base w0 φ w' a' D R hE hW hd hD J hR;rw[hd];have S:=hW.putX hD rfl J (.deferred none);obtain⟨v',hv,u⟩:=lh S hE g0;exact⟨by simp,.inl ⟨D,_,rfl,run_takeDeferred hD,v',u,hR v' _ hv S fun b7=>nf hW hD rfl J _ b7⟩⟩
 have g1:∃(o5:Out)(H3:d8),bH P X A B p1 p2 e2 ok L H2=some (o5,H3)/\((o5= .normal/\LE P X c3 e2 H3=some (o,e4,W))\/(o5= .ret/\o= .ret/\e4=e2/\W=H3)):=by
  split at u
  .rename_i H3 r3;exact⟨_,H3,r3,.inl ⟨rfl,u⟩⟩
  .rename_i H3 r3;cases u;exact⟨_,_,r3,.inr ⟨rfl,rfl,rfl,rfl⟩⟩
  .cases u
 obtain⟨o5,H3,r3,d4⟩:=g1;obtain⟨k3,x3⟩:=ff lA lB L H2 r3;have b6:=cK (hC base w0) L H2 x3;have d6:Le H3 W:=by
  rcases d4 with⟨_,h3⟩|⟨_,_,_,rfl⟩
  .obtain⟨k4,x4⟩:=eA l3 h3;exact N8 (hC base w0) x4
  .exact Le.refl _
 have a7:Le ⟨H.bs,H.next⟩ W:=((b0.trans b1).trans b6).trans d6;refine⟨f3,Bi a7 (fun φ w d7 ha hW=>?_) c4⟩;refine(callsIn_wide (n:=3)).1 (callsIn_of_wp_marks a6 a5 trivial (wpIn_wide.2 (wp_seq ?_)));refine eN (H:=⟨H.bs,H.next⟩) hm hC o1 x1 (ue ha c9) hW ?_;intro φ1 a1 w1 I e5 e9 c5 f0;refine wp_seq (wp_seq (eN hm hC o2 x2 e5 e9 ?_));intro φ2 a2 w2 U O S c6 f1;have b2:a2.defers=[]:=f1.trans f0;obtain⟨lb,Rd,q1,q2,q3⟩:=e8 f6 O S;have J:¬base.pr w2.heap.size:=fun q=>oN (S.size _ q);refine wp_block (lO hm hC rA rB oA oB f8 f9 O S q1 f5 Rd q2 q3 x3 ?_);intro φ3 w3 y b4 c7 b3;have b9:Fr φ H.bs H3.low w w3:=Fr.trans (H:=(⟨H.bs,H.next⟩:d8)) (I.trans U) (b0.trans b1) b6 hW.len (Fr.trans (H:=(⟨H.bs,H.next⟩:d8)) I b0 b1 hW.len c5 c6) c7;rcases d4 with⟨rfl,h3⟩|⟨rfl,rfl,rfl,d9⟩
 .obtain⟨k4,x4⟩:=eA l3 h3;have e6:ER φ3 z.ntmps e2 {a2 with defers:={target:= .collected w2.heap.size,args:= #[]}::a2.defers}:=⟨(O.mono y).size,(O.mono y).val⟩
  refine eN (base:=base.add fun j=>j=w2.heap.size) (w0:=w3) hm hC o3 x4 e6 (b4.raiseX _ fun j hj=>by subst hj;exact⟨J,_,b3,rfl⟩) ?_;intro φ4 a4 w4 d5 e7 c0 c8 f2;have e3:Fr φ H.bs W.low w w4:=Fr.trans (H:=(⟨H.bs,H.next⟩:d8)) ((I.trans U).trans y) ((b0.trans b1).trans b6) d6 hW.len b9 c8;have b8:=a8 (R:=fun en w'=>∃v' φ',en= .returned v'/\Ext φ φ'/\VR φ' (bN vs) v'/\WR base w0 φ' W.bs w'/\Fr φ H.bs W.low w w') e7 (c0.lower b4.below) (by rw[f2,b2]) ((c0.below.block _ (.inr rfl)).trans b3) J
   (fun v' a9 hv a3 E=>⟨v',φ4,rfl,((I.trans U).trans y).trans d5,hv,a3,Fr.trans (H:=(⟨H.bs,H.next⟩:d8)) (((I.trans U).trans y).trans d5) a7 (Le.refl _) hW.len e3 (E _)⟩)
  cases o with
  |normal=>exact b8
  |ret=>exact b8
  |exit id=>exact(f7 id rfl).elim
 .subst d9;exact a8 (a':={a2 with defers:={target:= .collected w2.heap.size,args:= #[]}::a2.defers}) (R:=fun en w'=>∃v' φ',en= .returned v'/\Ext φ φ'/\VR φ' (bN vs) v'/\WR base w0 φ' W.bs w'/\Fr φ H.bs W.low w w') ⟨(O.mono y).size,(O.mono y).val⟩ b4 (by rw[b2]) b3 J
   (fun v' a9 hv a3 E=>⟨v',φ3,rfl,(I.trans U).trans y,hv,a3,Fr.trans (H:=(⟨H.bs,H.next⟩:d8)) ((I.trans U).trans y) a7 (Le.refl _) hW.len b9 (E _)⟩)
end
theorem Ds{H:Type}(d:DataW H):1<=Rows.uptoBulk d:=by
 cases d with
 |lit l=>cases l<;>simp [Rows.uptoBulk]
 |nil=>simp [Rows.uptoBulk]
 |ptr d=>simp [Rows.uptoBulk]
 |slice y D=>simp [Rows.uptoBulk]
 |agg z=>simp [Rows.uptoBulk]
 |iface t d=>simp [Rows.uptoBulk]
 |map u=>simp [Rows.uptoBulk]
 |held h=>simp [Rows.uptoBulk]
theorem Az{H:Type}{d:DataW H}{l:List (DataW H)}(h:d∈l):Rows.uptoBulk d<=Rows.uptoBulkAll l:=by
 induction l with
 |nil=>cases h
 |cons x r u=>
  simp only[Rows.uptoBulkAll];rcases List.mem_cons.1 h with e|e
  .subst e;omega
  .have:=u e;omega
theorem Dr{H:Type}(l:List (DataW H)):l.length<=Rows.uptoBulkAll l:=by
 induction l with
 |nil=>simp [Rows.uptoBulkAll]
 |cons x r h=>have:=Ds x;simp only[Rows.uptoBulkAll,List.length_cons];omega
def Old(S S':List Blk):Prop:=∀(b:Nat) c sz,S[b]?=some (.cells c false sz)->S'[b]?=some (.cells c false sz)
theorem Old.refl(S:List Blk):Old S S:=fun _ _ _ h=>h
theorem Old.trans{a b c:List Blk}(h:Old a b)(k:Old b c):Old a c:=fun _ _ _ x=>k _ _ _ (h _ _ _ x)
theorem Old.snoc(S:List Blk)(B:Blk):Old S (S++[B]):=fun b c sz h=>by
 rw[List.getElem?_append_left];exact h;exact(List.getElem?_eq_some_iff.1 h).1
theorem Old.append(S T:List Blk):Old S (S++T):=fun b c sz h=>by
 rw[List.getElem?_append_left];exact h;exact(List.getElem?_eq_some_iff.1 h).1
theorem Old.set{S:List Blk}{b:Nat}{B:Blk}(h:∀c sz,S[b]?≠some (.cells c false sz)) (y:Blk):Old S (S.set b y):=fun z c sz u=>by
 rw[List.getElem?_set];by_cases e:b=z
 .subst e;exact absurd u (h c sz)
 .rw[if_neg e];exact u
def Sl(S:List Blk)(sz:Nat){α:Type}(R:LV->α->Prop)(v:Value)(l:List α):Prop:=
 (v= .slice none 0 0/\l=[])\/
 ∃b o,v= .slice (some ⟨b,o,none⟩) l.length (l.length+1)/\
  (l=[]\/∃c,S[b]?=some (.cells c false sz)/\o+l.length*sz<=c.length/\∀i a,l[i]?=some a->R ((c.drop (o+i*sz)).take sz) a)
theorem Sl.mono{S y:List Blk}{sz:Nat}{α:Type}{R u:LV->α->Prop}{v:Value}{l:List α}(O:Old S y)(I:∀cs a,R cs a->u cs a) (h:Sl S sz R v l):Sl y sz u v l:=by
 rcases h with h|⟨b,o,U,h⟩
 .exact .inl h
 .refine .inr ⟨b,o,U,?_⟩;rcases h with h|⟨c,z,D,E⟩
  .exact .inl h
  .exact .inr ⟨c,O _ _ _ z,D,fun i a J=>I _ _ (E i a J)⟩
section
variable{P:Program}
def N2(P:Program)(k:Nat)(t:TypeId){α:Type}(R:List Blk->LV->α->Prop):Prop:=
 (∀S S' cs a,Old S S'->R S cs a->R S' cs a)/\
 ∀{H:Type}(enc:TypeId×Value->H)(W:World)(fuel:Nat),fuel<k->∀(cs:LV)(d:DataW H)(ps:List MemPlace),DataW.trod enc P W 0 (fun _=>true) true fuel t cs=some (d,ps)->
  Rows.uptoBulk d<=1048576->∀(φ:List Loc)(S:List Blk),WR (Bs.lt W.heap.size) W φ S W->
  ∃(φ':List Loc)(S':List Blk)(ac:LV)(a:α),Ext φ φ'/\Old S S'/\WR (Bs.lt W.heap.size) W φ' S' W/\VRs φ' ac cs/\(∀x∈ac,x.oneCell'=true)/\R S' ac a
theorem N2.map{k:Nat}{t:TypeId}{α β:Type}{R:List Blk->LV->α->Prop}{y:List Blk->LV->β->Prop}(h:N2 P k t R)(f:α->β)
  (hf:∀S cs a,R S cs a->y S cs (f a)) (hm:∀S z cs a,Old S z->y S cs a->y z cs a):N2 P k t y:=
 ⟨hm,fun enc W u hk cs d ps ht hw φ S hW=>by
  obtain⟨φ',z,D,a,E,I,J,O,U,X⟩:=h.2 enc W u hk cs d ps ht hw φ S hW;exact⟨φ',z,D,f a,E,I,J,O,U,hf _ _ _ X⟩⟩
theorem wd{j:Nat}{t:TypeId}{k:IntKind}(E:P.underlying t=some (.int k)):N2 P j t (fun _ cs(n:Int)=>cs=[.int k n]/\(Lit.int k n).wf=true):=
 ⟨fun _ _ _ _ _ h=>h,fun enc W u _ cs d J h I φ S z=>by
  obtain⟨n,rfl,_,D⟩:=DataW.trod_int E h;exact⟨φ,S,[.int k n],n,Ext.refl φ,Old.refl S,z,.cons (.int k n) (.nil φ),fun x y=>by simp at y;subst y;rfl,rfl,D⟩⟩
theorem pj{j:Nat}{t:TypeId}(E:P.underlying t=some .string):N2 P j t (fun _ cs(s:ByteArray)=>cs=[.string s]/\s.size<=1048576):=
 ⟨fun _ _ _ _ _ h=>h,fun enc W y _ cs d I h z φ S D=>by
  obtain⟨s,rfl,u,hs⟩:=DataW.trod_string E h;cases u;have:s.size<=1048576:=by simp only[Rows.uptoBulk,Array.length_toList]at z;exact Nat.le_of_succ_le z
  exact⟨φ,S,[.string s],s,Ext.refl φ,Old.refl S,D,.cons (.string s) (.nil φ),fun x u=>by simp at u;subst u;rfl,rfl,this⟩⟩
def iT(P:Program)(k:Nat)(fs:List Field)(off:Nat){α:Type}(R:List Blk->LV->α->Prop):Prop:=
 (∀S S' cs a,Old S S'->R S cs a->R S' cs a)/\
 ∀{H:Type}(enc:TypeId×Value->H)(W:World)(fuel:Nat),fuel<k->∀(cs:LV)(xs:List (DataW H×List MemPlace)),
  xs.length=fs.length->(∀(i:Nat) f,fs[i]?=some f->DataW.trod enc P W 0 (fun _=>true) true fuel f.type ((cs.drop f.offset).take (P.cellsOf f.type))=xs[i]?)->
  Rows.uptoBulkAll (xs.map (·.1))<=1048576->∀(φ:List Loc)(S:List Blk),WR (Bs.lt W.heap.size) W φ S W->
  ∃(tot:Nat)(φ':List Loc)(S':List Blk)(ac:LV)(a:α),(cs.length=off+ac.length->True)/\Ext φ φ'/\Old S S'/\WR (Bs.lt W.heap.size) W φ' S' W/\VRs φ' ac ((cs.drop off).take tot)/\
   (fs.foldl (fun n f=>n+P.cellsOf f.type) 0=tot)/\(∀x∈ac,x.oneCell'=true)/\R S' ac a
theorem bL{j:Nat}(u:Nat):iT P j [] u (fun _ cs(_:Unit)=>cs=[]):=
 ⟨fun _ _ _ _ _ h=>h,fun enc W y _ cs xs D h E φ S z=>⟨0,φ,S,[],(),fun _=>trivial,Ext.refl φ,Old.refl S,z,by simpa using VRs.nil φ,rfl,by simp,rfl⟩⟩
theorem fT(g:Field->Nat):∀(l:List Field)(k:Nat),l.foldl (fun n f=>n+g f) k=k+l.foldl (fun n f=>n+g f) 0
 |[],k=>by simp
 |f::l,k=>by simp only[List.foldl_cons];rw[fT g l (k+g f),fT g l (0+g f)];omega
theorem D0{j:Nat}{f:Field}{fs:List Field}{u k:Nat}{α β:Type}{R:List Blk->LV->α->Prop}{Q:List Blk->LV->β->Prop}(I:f.offset=u)(hk:P.cellsOf f.type=k)
  (h:N2 P j f.type R) (g:iT P j fs (u+k) Q):
  iT P j (f::fs) u (fun S cs(x:α×β)=>∃c1 c2,cs=c1++c2/\R S c1 x.1/\Q S c2 x.2):=
 ⟨fun S S' cs a I⟨c1,c2,e,h1,h2⟩=>⟨c1,c2,e,h.1 _ _ _ _ I h1,g.1 _ _ _ _ I h2⟩,fun enc W z hj cs xs hl ht hw φ S hW=>by
  cases xs with
  |nil=>simp at hl
  |cons x xs=>
   have h0:=ht 0 f (by simp);rw[List.getElem?_cons_zero,I,hk]at h0;simp only[List.map_cons,Rows.uptoBulkAll]at hw;obtain⟨φ1,S1,O,v1,e1,o1,w1,r1,n1,q1⟩:=h.2 enc W z hj _ x.1 x.2 h0 oM φ S hW;obtain⟨D,φ2,S2,U,v2,_,X,o2,w2,r2,t2,n2,q2⟩:=g.2 enc W z hj cs xs (by simpa using hl) (fun i f' J=>by simpa using ht (i+1) f' (by simpa using J)) oM φ1 S1 w1;refine⟨k+D,φ2,S2,O++U,(v1,v2),fun _=>trivial,e1.trans X,o1.trans o2,w2,?_,?_,?_,O,U,rfl,h.1 _ _ _ _ o2 q1,q2⟩
   .have hs:(cs.drop u).take (k+D)=(cs.drop u).take k++(cs.drop (u+k)).take D:=by
     rw[List.take_add,List.drop_drop]
    rw[hs];exact(r1.mono X).append r2
   .simp only[List.foldl_cons];rw[fT (fun f=>P.cellsOf f.type),t2,hk];omega
   .intro y E;rcases List.mem_append.1 E with E|E
    .exact n1 y E
    .exact n2 y E⟩
theorem X1{j:Nat}{t:TypeId}{u:Array Field}{α:Type}{R:List Blk->LV->α->Prop}(ht:P.underlying t=some (.struct u))(hc:P.cellsOf t=u.toList.foldl (fun n f=>n+P.cellsOf f.type) 0)
  (h:iT P j u.toList 0 R):N2 P (j+1) t R:=
 ⟨h.1,fun enc W z hj cs d ps J hw φ S I=>by
  obtain⟨xs,n,U,hx,hl,X,O⟩:=DataW.trod_struct ht J;cases hx;obtain⟨a1,φ',D,E,a,_,e,o,w,r,tt,nn,q⟩:=h.2 enc W n oM cs xs (by simpa using X) (fun i f y=>O i f (by simpa using y)) (by simp only[Rows.uptoBulk]at hw;omega) φ S I;refine⟨φ',D,E,a,e,o,w,?_,nn,q⟩;rw[List.drop_zero,List.take_of_length_le oM]at r;exact r⟩
theorem kC{j:Nat}{e:TypeId}{α:Type}{R:List Blk->LV->α->Prop}(h:N2 P j e R){H:Type}(enc:TypeId×Value->H)(W:World)(z:Nat)(hj:z<j):
  ∀(u:List (LV))(ds:List (DataW H×List MemPlace)),u.length=ds.length->(∀(i:Nat) cs x,u[i]?=some cs->ds[i]?=some x->DataW.trod enc P W 0 (fun _=>true) true z e cs=some x)->
   (∀x∈ds,Rows.uptoBulk x.1<=1048576)->∀(φ:List Loc)(S:List Blk),WR (Bs.lt W.heap.size) W φ S W->
   ∃(φ':List Loc)(U:List Blk)(E:List (LV))(l:List α),Ext φ φ'/\Old S U/\WR (Bs.lt W.heap.size) W φ' U W/\E.length=u.length/\l.length=u.length/\
    (∀(i:Nat) D cs,E[i]?=some D->u[i]?=some cs->VRs φ' D cs)/\(∀D∈E,∀x∈D,x.oneCell'=true)/\(∀(i:Nat) D a,E[i]?=some D->l[i]?=some a->R U D a)
 |[],[],_,_,_,φ,S,hW=>⟨φ,S,[],[],Ext.refl φ,Old.refl S,hW,rfl,rfl,by simp,by simp,by simp⟩
 |[],_::_,hl,_,_,_,_,_=>by simp at hl
 |_::_,[],hl,_,_,_,_,_=>by simp at hl
 |cs::u,x::ds,hl,ht,hw,φ,S,hW=>by
  obtain⟨φ1,S1,a1,v1,e1,o1,w1,r1,n1,q1⟩:=h.2 enc W z hj cs x.1 x.2 (ht 0 cs x (by simp) (by simp)) (hw x (by simp)) φ S hW;obtain⟨φ2,S2,E,l,e2,o2,w2,X,a2,r2,n2,q2⟩:=kC h enc W z hj u ds (by simpa using hl) (fun i c y J O=>ht (i+1) c y (by simpa using J) (by simpa using O)) (fun y O=>hw y (by simp [O])) φ1 S1 w1;refine⟨φ2,S2,a1::E,v1::l,e1.trans e2,o1.trans o2,w2,by simp [X],by simp [a2],?_,?_,?_⟩
  .intro i D c I J;cases i with
   |zero=>simp at I J;subst I J;exact r1.mono e2
   |succ i=>exact r2 i D c (by simpa using I) (by simpa using J)
  .intro D I y O;rcases List.mem_cons.1 I with rfl|I
   .exact n1 y O
   .exact n2 D I y O
  .intro i D a I J;cases i with
   |zero=>simp at I J;subst I J;exact h.1 _ _ _ _ o2 q1
   |succ i=>exact q2 i D a (by simpa using I) (by simpa using J)
theorem uv{α:Type}{sz:Nat}:∀(l:List (List α)),(∀x∈l,x.length=sz)->l.flatten.length=l.length*sz
 |[],_=>by simp
 |x::l,h=>by
  rw[List.flatten_cons,List.length_append,uv l (fun y u=>h y (by simp [u])),h x (by simp),List.length_cons,Nat.add_mul];omega
theorem mZ{α:Type}{sz:Nat}:∀(l:List (List α)),(∀x∈l,x.length=sz)->∀(i:Nat) x,l[i]?=some x->(l.flatten.drop (i*sz)).take sz=x
 |[],_,i,x,hx=>by simp at hx
 |y::l,h,0,x,hx=>by
  simp at hx;subst hx;have:=h y (by simp);simp only[Nat.zero_mul,List.drop_zero,List.flatten_cons];rw[<-this,List.take_append_of_le_length lR,List.take_length]
 |y::l,h,i+1,x,hx=>by
  have u:=h y (by simp);have e:(i+1)*sz=y.length+i*sz:=by rw[u,Nat.add_mul];omega
  rw[List.flatten_cons,e,<-List.drop_drop,List.drop_left];exact mZ l (fun z D=>h z (by simp [D])) i x (by simpa using hx)
theorem uT{α β:Type}{f:α->Option β}:∀{l:List α}{r:List β},l.mapM f=some r->r.length=l.length/\∀(i:Nat) x y,l[i]?=some x->r[i]?=some y->f x=some y
 |[],r,h=>by simp at h;subst h;simp
 |a::l,r,h=>by
  rw[List.mapM_cons]at h;cases u:f a with
  |none=>simp [u]at h
  |some b=>
   cases z:l.mapM f with
   |none=>simp [u,z]at h
   |some O=>
    simp [u,z]at h;subst h;obtain⟨I,J⟩:=uT z;refine⟨by simp [I],fun i x y D E=>?_⟩;cases i with
    |zero=>simp at D E;subst D;subst E;exact u
    |succ i=>exact J i x y (by simpa using D) (by simpa using E)
theorem fK{w:World}{a:Addr}{n:Nat}{cs:LV}(h:w.cells? 0 a n=some cs):cs.length=n/\∀(j:Nat) x,cs[j]?=some x->w.cell? (a.add j)=some x:=by
 unfold World.cells? at h;rw[if_pos (Nat.zero_le _)]at h;obtain⟨u,z⟩:=uT h;refine⟨by simpa using u,fun j x y=>?_⟩;have D:j<cs.length:=(List.getElem?_eq_some_iff.1 y).1;exact z j j x (List.getElem?_range (by simpa [u] using D)) y
theorem ww{w:World}{a:Addr}{x:Value}(h:w.cell? a=some x):a.spot=none/\a.block<w.heap.size:=by
 unfold World.cell? at h;split at h
 .rename_i c _ _ u;refine⟨?_,(Array.getElem?_eq_some_iff.1 u).1⟩;cases hs:a.spot with
  |none=>rfl
  |some n=>simp [hs]at h
 .cases h
theorem kF{w:World}{a:Addr}{n:Nat}{cs:LV}(z:0<n)(h:w.cells? 0 a n=some cs):a.spot=none/\a.block<w.heap.size:=by
 obtain⟨y,u⟩:=fK h;have:=u 0 (cs[0]'oM) (by first|(simp;done)|(simp;omega));exact ww (by simpa [Addr.add] using this)
theorem td{a:Addr}(h:a.spot=none)(n:Nat):a.add n=⟨a.block,a.off+n,none⟩:=by
 obtain⟨b,o,s⟩:=a;simp only at h;subst h;unfold Addr.add;split
 .rename_i u;subst u;rfl
 .rfl
theorem eD{j:Nat}{t e:TypeId}{sz:Nat}{α:Type}{R:List Blk->LV->α->Prop}(ht:P.underlying t=some (.slice e))(hs:P.cellsOf e=sz)(hp:0<sz)(h:N2 P j e R):
  N2 P (j+1) t (fun S cs(l:List α)=>∃v,cs=[v]/\Sl S sz (R S) v l/\l.length<=1048576):=
 ⟨fun S S' cs l ho⟨v,e1,e2,e3⟩=>⟨v,e1,e2.mono ho (fun cs a=>h.1 _ _ _ _ ho),e3⟩,fun{H} enc W fuel hj cs d ps hd hw φ S hW=>by
  rcases DataW.trod_slice ht hd with⟨rfl,u⟩|⟨a,E,z,D,rest,n,c9,rfl,u,_,c4,_,b9,a6,b5,_⟩
  .exact⟨φ,S,[.slice none 0 0],[],Ext.refl φ,Old.refl S,hW,.cons .nilslice (.nil φ),fun x u=>by simp at u;subst u;rfl,_,rfl,.inl ⟨rfl,rfl⟩,by simp⟩
  .cases u;rw[hs]at a6 b5;simp only[Rows.uptoBulk]at hw;have a7:E<=1048576:=by
    have:=Dr (D.map (·.1));rw[List.length_map]at this;omega
   by_cases h0:E=0
   ·
    subst h0;refine⟨φ++[⟨a.block,a.off,z*sz,sz⟩],S++[.dead],[.slice (some ⟨S.length,0,none⟩) 0 1],[],Ext.snoc _ _,Old.snoc _ _,?_,?_,fun x u=>by simp at u;subst u;rfl,_,rfl,.inr ⟨_,_,rfl,.inl rfl⟩,by simp⟩
    .exact hW.push ⟨lR,fun _ _ _=>rfl⟩ hW.below (fun hm=>by cases hm) trivial
    .refine .cons ?_ (.nil _);by_cases b8:z=0
     .subst b8;exact .slice0
     .obtain⟨d0,c6⟩:=b5 rfl;have h1:=c6 0 oM;have c5:rest[0]?=some (rest[0]'oM):=by first|(simp;done)|(simp;omega)
      rw[c5]at h1;obtain⟨a2,O,b3⟩:=Option.bind_eq_some_iff.1 h1;have a8:=(kF hp O).1;simp only[Nat.zero_add,Nat.zero_mul]at a8;have a9:a.spot=none:=by simpa [Addr.add] using a8
      have hl:(φ++[(⟨a.block,a.off,z*sz,sz⟩:Loc)])[S.length]?=some ⟨a.block,a.off,z*sz,sz⟩:=by rw[<-hW.len];simp
      have:=VR.slice (φ:=φ++[⟨a.block,a.off,z*sz,sz⟩]) (b:=S.length) (o:=0) (n:=0) (c:=z) hl (Nat.zero_le _) (by simp);obtain⟨ab,ao,b7⟩:=a;simp only at a9;subst a9
      simpa using this
   .have J:∀i,i<E->∃cs x,W.cells? 0 (a.add (i*sz)) sz=some cs/\D[i]?=some x/\DataW.trod enc P W 0 (fun _=>true) true n e cs=some x:=by
     intro i U;have h1:=a6 i U;have h2:D[i]?=some (D[i]'oM):=by first|(simp;done)|(simp;omega)
     rw[h2]at h1;obtain⟨a2,O,b3⟩:=Option.bind_eq_some_iff.1 h1;exact⟨a2,_,O,h2,b3⟩
    have X:a.spot=none/\a.block<W.heap.size:=by
     obtain⟨a2,x0,O,_⟩:=J 0 oM;have:=kF hp O
     simpa [Addr.add] using this
    let css:List (LV):=(List.range E).map fun i=>(W.cells? 0 (a.add (i*sz)) sz).getD []
    have a1:css.length=E:=by simp [css]
    have a3:∀(i:Nat) c,css[i]?=some c->i<E/\W.cells? 0 (a.add (i*sz)) sz=some c:=by
     intro i c hc;have U:i<E:=by rw[<-a1];exact(List.getElem?_eq_some_iff.1 hc).1
     obtain⟨a2,x0,O,_⟩:=J i U;refine⟨U,?_⟩;simp only[css,List.getElem?_map,List.getElem?_range U,Option.map_some,O,Option.getD_some,Option.some.injEq]at hc;rw[O,hc]
    obtain⟨φ1,S1,I,l,e1,o1,w1,c3,b2,b6,b4,hR⟩:=kC h enc W n oM css D (by rw[a1,b9])
     (fun i c x hc u=>by
      obtain⟨U,h1⟩:=a3 i c hc;obtain⟨a2,x0,k1,k2,k3⟩:=J i U;rw[h1]at k1;cases k1;rw[u]at k2;cases k2;exact k3)
     (fun x u=>by have:=Az (List.mem_map_of_mem (f:=(·.1)) u);omega) φ S hW
    have b1:∀x∈I,x.length=sz:=by
     intro x u;obtain⟨i,U,rfl⟩:=List.mem_iff_getElem.1 u;have a5:i<css.length:=oM;have:=(b6 i _ _ (List.getElem?_eq_getElem U) (List.getElem?_eq_getElem a5)).1;rw[this];exact(fK (a3 i _ (List.getElem?_eq_getElem a5)).2).1
    have a4:I.flatten.length=E*sz:=by rw[uv I b1,c3,a1]
    have hl:(φ1++[(⟨a.block,a.off,z*sz,sz⟩:Loc)])[S1.length]?=some ⟨a.block,a.off,z*sz,sz⟩:=by rw[<-w1.len];simp
    refine⟨φ1++[⟨a.block,a.off,z*sz,sz⟩],S1++[.cells I.flatten false sz],[.slice (some ⟨S1.length,0,none⟩) l.length (l.length+1)],l,e1.trans (Ext.snoc _ _),o1.trans (Old.snoc _ _),?_,?_,
     fun x u=>by simp at u;subst u;rfl,_,rfl,.inr ⟨_,_,rfl,.inr ⟨I.flatten,by simp,?_,?_⟩⟩,?_⟩
    .refine w1.push ⟨lR,fun _ _ _=>rfl⟩ w1.below (fun hm=>by cases hm) ⟨rfl,?_,?_,fun _=>X.2,fun hh=>by cases hh⟩
     .intro x u;obtain⟨ac,h1,h2⟩:=List.mem_flatten.1 u;exact b4 ac h1 x h2
     .intro j x u;have hj:j<E*sz:=by rw[<-a4];exact(List.getElem?_eq_some_iff.1 u).1
      have hq:j / sz<E:=Nat.div_lt_of_lt_mul (by rw[Nat.mul_comm];exact hj);have hm:j % sz<sz:=Nat.mod_lt _ hp;have U:j / sz<I.length:=oM;have a5:j / sz<css.length:=oM;have c0:=mZ I b1 (j / sz) _ (List.getElem?_eq_getElem U);have c7:(I[j / sz])[j % sz]?=some x:=by
       rw[<-c0,List.getElem?_take,if_pos hm,List.getElem?_drop,Nat.mul_comm,Nat.div_add_mod];exact u
      obtain⟨y,hy,c8⟩:=(b6 _ _ _ (List.getElem?_eq_getElem U) (List.getElem?_eq_getElem a5)).get c7;have:=(fK (a3 _ _ (List.getElem?_eq_getElem a5)).2).2 _ y hy;rw[td X.1,td rfl]at this;refine⟨y,?_,c8.mono (Ext.snoc _ _)⟩;have e2:a.off+j / sz*sz+j % sz=a.off+j:=by rw[Nat.add_assoc,Nat.mul_comm,Nat.div_add_mod]
      simpa [e2] using this
    .refine .cons ?_ (.nil _);have:=VR.slice (φ:=φ1++[⟨a.block,a.off,z*sz,sz⟩]) (b:=S1.length) (o:=0) (n:=E) (c:=z) hl c4 (by simp);obtain⟨ab,ao,b7⟩:=a;have b0:=X.1;simp only at b0;subst b0;rw[b2,a1]
     simpa using this
    .rw[b2,a1,a4];omega
    .intro i x u;have U:i<I.length:=by have:=(List.getElem?_eq_some_iff.1 u).1;omega
     rw[Nat.zero_add,mZ I b1 i _ (List.getElem?_eq_getElem U)];exact h.1 _ _ _ _ (Old.snoc _ _) (hR i _ x (List.getElem?_eq_getElem U) u)
    .rw[b2,a1];exact a7⟩
theorem Bz(U:P.follows .mixedOrders=true){X:Lib}{W:World}(I:pP P X){f:FuncId}{args u:LV}{φ:List Loc}{S:List Blk}(E:WR (Bs.lt W.heap.size) W φ S W)(J:VRs φ args u)
  (h:CL P X f args ⟨S,S.length⟩=some (.bool true,none)):Calls P f u.toArray W fun e y=>e= .returned (.bool true)/\Below W.heap.size W y:=by
 obtain⟨_,_,_,O⟩:=vS U I (Bs.lt W.heap.size) W f args ⟨S,S.length⟩ (.bool true) none h;exact(O φ W u J E).mono fun e y⟨z,D⟩=>⟨z,D.1.below.below⟩
theorem FQ(W:World):WR (Bs.lt W.heap.size) W [] [] W:=⟨rfl,Bel.refl _ _,fun _ h=>h,by simp,by simp⟩
end
end Go.Proofs.YtofbhlhamfkljaaGreatDoor.Ve
namespace Go.Proofs.YtofbhlhamfkljaaGreatDoor.Ve.Ab
open Go Go.RowKit
abbrev T(n:Nat):Operand:= .tmp n
abbrev K(n:Int):Operand:= .const (.int .i64 n)
abbrev B0:Operand:= .const (.bool false)
abbrev B1:Operand:= .const (.bool true)
abbrev c1(f a t:Nat):Op:= .call ⟨.value (.func f),#[T a],#[t]⟩
abbrev c2(f a b t u:Nat):Op:= .call ⟨.value (.func f),#[T a,T b],#[t,u]⟩
abbrev cf(f:Nat)(a:Array Operand)(t:Array TypeId):Op:= .call ⟨.value (.func f),a,t⟩
abbrev cv(f:Operand)(a:Array Operand)(t:Array TypeId):Op:= .call ⟨.value f,a,t⟩
abbrev bi(f:Builtin)(a:Array Operand)(t:Array TypeId):Op:= .call ⟨.builtin f,a,t⟩
abbrev ln(a t:Nat):Op:= .call ⟨.builtin .len,#[T a],#[t]⟩
abbrev ap(a b t u:Nat):Op:= .call ⟨.builtin .append,#[T a,T b],#[t,u]⟩
abbrev mv(n:Nat):Op:= .move (T n)
abbrev ia(t a i:Nat):Op:= .indexAddr t (T a) (T i)
abbrev st'(t a x:Nat):Op:= .store t (T a) (T x)
abbrev bx(t a:Nat):Op:= .box t (T a)
abbrev ex(a i:Nat):Op:= .extract (T a) i
abbrev nc(a:Nat):Op:= .nilCheck (T a)
abbrev bo(o:BinOp)(t a b u:Nat):Op:= .binOp o t (T a) (T b) u
abbrev bk(o:BinOp)(t a:Nat)(n:Int)(u:Nat):Op:= .binOp o t (T a) (K n) u
abbrev pa(a b:Nat):Op:= .pick (T a) (T b) B0
abbrev po(a b:Nat):Op:= .pick (T a) B1 (T b)
abbrev nt'(t a:Nat):Op:= .unOp .not t (T a)
abbrev N(d:Nat)(o:Op):LOp:=⟨some d,o,none⟩
abbrev V(o:Op):LOp:=⟨none,o,none⟩
abbrev Y(g d:Nat)(o:Op):LOp:=⟨some d,o,some (g,true)⟩
abbrev Z(g d:Nat)(o:Op):LOp:=⟨some d,o,some (g,false)⟩
abbrev M(d a:Nat):LOp:=⟨some d,.move (T a),none⟩
abbrev L(d t a:Nat):LOp:=⟨some d,.load t (T a),none⟩
abbrev A(d a:Nat):LOp:=⟨some d,.assign (T a),none⟩
abbrev F(d t a i:Nat):LOp:=⟨some d,.fieldAddr t (T a) i,none⟩
abbrev cO:=t7.ops
abbrev cS:=t7.seq
abbrev cB:=t7.block
abbrev cC:=t7.cond
abbrev cW(n:Nat)(b:t7):t7:= .block n (.loop b)
abbrev m0(o:LOp):ML:=⟨o,false,false,0,0⟩
abbrev m1(o:LOp):ML:=⟨o,false,true,0,0⟩
abbrev m2(o:LOp)(l h:Nat):ML:=⟨o,false,false,l,h⟩
abbrev m3(o:LOp)(l h:Nat):ML:=⟨o,true,true,l,h⟩
abbrev m4(o:LOp)(l h:Nat):ML:=⟨o,true,false,l,h⟩
abbrev cX(o:List LOp)(c:t7):=t7.seq (.ops o) c
abbrev cR(o:List LOp):=t7.seq (.ops o) .ret
abbrev cG(t n:Nat)(c:t7):=t7.seq (.cond (T t) .skip (.exit n)) c
abbrev cH(t a b:Nat)(c:t7):=t7.seq (.ops [N t (bo .lss 3 a b 3)]) (.seq (.cond (T t) .skip (.exit 0)) c)
abbrev iN(a:Nat):Op:=bk .add 3 a 1 3
abbrev yF(o:LOp):LOp×Bool:=(o,false)
abbrev yT(o:LOp):LOp×Bool:=(o,true)
end Go.Proofs.YtofbhlhamfkljaaGreatDoor.Ve.Ab
namespace Go.Proofs.YtofbhlhamfkljaaGreatDoor.Ve
open Go Go.RowKit
def BE(ops:List Oper)(o:Oper):LOp:=
 match o.guard with
 |none=>⟨o.dst,o.op,none⟩
 |some (j,b)=>match ops[j]? with
  |some x=>match x.dst with
   |some d=>⟨o.dst,o.op,some (d,b)⟩
   |none=>⟨o.dst,o.op,none⟩
  |none=>⟨o.dst,o.op,none⟩
def DN(ops:List Oper):Nat->List Oper->List (LOp×Bool)
 |_,[]=>[]
 |0,o::r=>(BE ops o,true)::DN ops 0 r
 |t+1,o::r=>(BE ops o,false)::DN ops t r
def Qa(ops:List Oper)(A tl:List Nat):Nat->List Oper->List ML
 |_,[]=>[]
 |i,o::r=>⟨BE ops o,A9 o.op,rdK o.op,(sv A tl i).1,(sv A tl i).2⟩::Qa ops A tl (i+1) r
def yP:Nat->List Oper->List Nat
 |_,[]=>[]
 |i,o::r=>if A9 o.op then i::yP (i+1) r else yP (i+1) r
def eZ:Code->List Nat->t7×List Nat
 | .skip,d=>(.skip,d)
 | .ret,d=>(.ret,d)
 | .exit id,d=>(.exit id,d)
 | .region _ ops draw,d=>
  if draw then match d with
   |0::d=>(.mix (Qa ops.toList (E4 ops.toList []) (yP 0 ops.toList) 0 ops.toList),d)
   |(t+1)::d=>(.draw (DN ops.toList t ops.toList),d)
   |[]=>(.skip,[])
  else(.ops (ops.toList.map (BE ops.toList)),d)
 | .seq a b,d=>match eM a b with
  |some z=>match eZ b d with
   |(b,d)=>(.coin (z.l1.map (BE z.ops.toList)) (z.l2.map (BE z.ops.toList)) z.ds b,d)
  |none=>match eZ a d with
   |(a,d)=>match eZ b d with
    |(b,d)=>(.seq a b,d)
 | .cond c a b,d=>match eZ a d with
  |(a,d)=>match eZ b d with
   |(b,d)=>(.cond c a b,d)
 | .block id a,d=>match eZ a d with
  |(a,d)=>(.block id a,d)
 | .loop a,d=>match eZ a d with
  |(a,d)=>(.loop a,d)
 | .scope a,d=>match eZ a d with
  |(a,d)=>(.scope a,d)
 |_,d=>(.skip,d)
def fnV(fn:Func)(d:List Nat):t7×Nat×List ResultVar:=
 match fn.body with
 |some c=>((eZ c d).1,fn.ntmps,fn.results.toList)
 |none=>(.skip,0,[])
def ptL:List Nat->t7->t7
 |0::p,.seq a _=>ptL p a
 |1::p,.seq _ b=>ptL p b
 |0::p,.cond _ a _=>ptL p a
 |1::p,.cond _ _ b=>ptL p b
 |_::p,.block _ a=>ptL p a
 |_::p,.loop a=>ptL p a
 |_::p,.scope a=>ptL p a
 |_::p,.coin _ _ _ b=>ptL p b
 |_,c=>c
abbrev ptA{P:Program}{f:FuncId}{l:t7}{nt:Nat}{rs:List ResultVar}(_:fnL P f=some (l,nt,rs))(p:List Nat){x:t7}(_:ptL p l=x:=by conv=>{lhs;whnf}):t7:=x
def rpL(c:t7):List Nat->t7->t7
 |[],_=>c
 |0::p,.seq a b=> .seq (rpL c p a) b
 |_::p,.seq a b=> .seq a (rpL c p b)
 |0::p,.cond x a b=> .cond x (rpL c p a) b
 |_::p,.cond x a b=> .cond x a (rpL c p b)
 |_::p,.block i a=> .block i (rpL c p a)
 |_::p,.loop a=> .loop (rpL c p a)
 |_::p,.scope a=> .scope (rpL c p a)
 |_::p,.coin x y z b=> .coin x y z (rpL c p b)
 |_::_,a=>a
theorem bE:ByteArray.mk (List.toArray [])=ByteArray.empty:=rfl
theorem aM{A:Type}(l:List A):Array.mk l=List.toArray l:=rfl
theorem hdF{P:Program}{f:FuncId}{l:t7}{nt:Nat}{rs:List ResultVar}(h:fnL P f=some (l,nt,rs))(p:List Nat)(c:t7){x:t7->t7}(hx:∀k,rpL k p l=x k:=by intro k;conv=>{lhs;cbv;try simp only[aM,bE]}) (hc:rpL c p l=l:=by kernel_rfl):fnL P f=some (x c,nt,rs):=by
 rw[<-hx,hc];exact h
end Go.Proofs.YtofbhlhamfkljaaGreatDoor.Ve
namespace Go.Proofs.YtofbhlhamfkljaaGreatDoor.Ve
open Go Go.RowKit
open Go.Proofs.Tryz (prog)
theorem nfF(f:FuncId)(fn:Func)(d:List Nat){l:t7}{nt:Nat}{rs:List ResultVar}(h:fnV fn d=(l,nt,rs):=by conv=>{lhs;cbv;try simp only[aM,bE]})(k:fnL Tryz.prog f=some (l,nt,rs):=by kernel_rfl):fnL Tryz.prog f=some (l,nt,rs):=k
abbrev fE(n:Nat)(c:t7)(k:Nat)(r:List ResultVar):Prop:=fnL prog n=some (c,k,r)
theorem fR{n:Nat}{c:t7}{k:Nat}{r:List ResultVar}(h:fnL prog n=some (c,k,r):=by kernel_rfl):fE n c k r:=h
def fn9:=nfF 9 Tryz.f9 []
def Qz:=nfF 10 Tryz.f10 []
def OJ:=nfF 11 Tryz.f11 []
abbrev MX:t7:=ptA OJ [1,1,1,1,0,1,0,0]
def QA:=nfF 14 Tryz.f14 []
def Pg:=nfF 15 Tryz.f15 [9]
abbrev MY:t7:=ptA Pg [1,1,0,1,0,0]
def QB:=nfF 16 Tryz.f16 [0,0,0]
def QC:=nfF 17 Tryz.f17 []
def QD:=nfF 18 Tryz.f18 [0]
def QE:=nfF 19 Tryz.f19 []
def Pj:=nfF 20 Tryz.f20 [6]
abbrev MZ:t7:=ptA Pj [1,0,1,0,0]
def Eg:=nfF 21 Tryz.f21 [0,0]
abbrev Nd:t7:=ptA Eg [1,1,0,1,0,0]
abbrev Na:t7:=ptA Eg [1,1,0,1,0,0,1,0,0,1,1,0,1,0,0]
abbrev Nc:t7:=ptA Eg [1,1,0,1,0,0,1,0,0,1,1,1,1,0,0]
abbrev Nb:t7:=ptA Eg [1,1,0,1,0,0,1,0,0,1,1,1,1,0,0,1,0,0,1,1,0,1,0,0]
def QF:=nfF 22 Tryz.f22 []
def KP:=nfF 25 Tryz.f25 []
abbrev Ng:t7:=ptA KP [1,1,0,1,0,0]
abbrev Nf:t7:=ptA KP [1,1,0,1,0,0,1,0,0,1,1,1,0,0]
def QH:=nfF 29 Tryz.f29 []
def QI:=nfF 30 Tryz.f30 []
def KQ:=nfF 31 Tryz.f31 [0,0]
abbrev Nh:t7:=ptA KQ [1,1,1,1,1,1,0,1,0,0]
abbrev Ni:t7:=ptA KQ [1,1,1,1,1,1,1,0,1,0,0]
def Pk:=nfF 32 Tryz.f32 [0,0]
abbrev Nj:t7:=ptA Pk [1,1,1,1,1,0,1,0,0]
def QJ:=nfF 33 Tryz.f33 []
def Bk:=nfF 35 Tryz.f35 [0,0,0]
abbrev Nq:t7:=ptA Bk [1,1,1,1,0,1,0,0]
abbrev Np:t7:=ptA Bk [1,1,1,1,0,1,0,0,1,0,0,1,0,1,0,0]
abbrev No:t7:=ptA Bk [1,1,1,1,0,1,0,0,1,0,0,1,0,1,0,0,1,0,0,1,1,1,0,1,0,0]
abbrev Nn:t7:=ptA Bk [1,1,1,1,0,1,0,0,1,0,0,1,0,1,0,0,1,0,0,1,1,1,0,1,0,0,1,0,0,1,1,0,0]
abbrev Nr:t7:=ptA Bk [1,1,1,1,1,1,0,1,0,0]
def Pl:=nfF 36 Tryz.f36 [6,0]
abbrev Ns:t7:=ptA Pl [1,1,1,1,0,1,0,0]
def QK:=nfF 37 Tryz.f37 []
def Pm:=nfF 38 Tryz.f38 [11]
abbrev Nt:t7:=ptA Pm [1,1,0,1,0,0]
def Pn:=nfF 39 Tryz.f39 [6]
abbrev Nu:t7:=ptA Pn [1,0,1,0,0]
def QL:=nfF 40 Tryz.f40 []
def Po:=nfF 41 Tryz.f41 [0,9]
abbrev Nv:t7:=ptA Po [1,1,0,1,0,0]
def KR:=nfF 42 Tryz.f42 [13]
abbrev Jg:t7:=ptA KR [1,1,1,1,1,0,1,0,0]
abbrev Nw:t7:=ptA KR [1,1,1,1,1,0,1,0,0,1,0,0,1,1,0,0]
def Pp:=nfF 43 Tryz.f43 []
abbrev Nx:t7:=ptA Pp [1,1,0,1,0,0]
def KS:=nfF 44 Tryz.f44 [8,9,6,17,9,13]
abbrev Ny:t7:=ptA KS [1,1,0,1,0,1,1,0,1,0,0]
abbrev Nz:t7:=ptA KS [1,1,1,1,1,1,1,1,0,1,0,0]
def Hn:=nfF 45 Tryz.f45 []
abbrev NA:t7:=ptA Hn [1,1,0,1,0,0]
abbrev NC:t7:=ptA Hn [1,1,1,0,1,0,0]
abbrev NB:t7:=ptA Hn [1,1,1,0,1,0,0,1,0,0,1,0,0]
def QM:=nfF 46 Tryz.f46 []
def QN:=nfF 50 Tryz.f50 []
def xi:=nfF 51 Tryz.f51 []
abbrev ND:t7:=ptA xi [1,1,1,1,1,1,1,0,1,0,0]
def GZ:t7:=ptA xi [1,1,1,1,1,1]
def Pq:=hdF xi [1,1,1,1,1,1] GZ
def Pr:=nfF 52 Tryz.f52 []
abbrev NF:t7:=ptA Pr [1,1,0,1,0,0]
def Ps:=nfF 53 Tryz.f53 []
abbrev NG:t7:=ptA Ps [1,1,0,1,0,0]
def KT:=nfF 54 Tryz.f54 [0,0]
abbrev NH:t7:=ptA KT [1,1,1,1,1,0,0]
def QO:=nfF 55 Tryz.f55 []
def KU:=nfF 56 Tryz.f56 []
abbrev NI:t7:=ptA KU [1,0,1,0,0]
abbrev NJ:t7:=ptA KU [1,1,1,0,0]
def Pt:=nfF 57 Tryz.f57 []
abbrev NK:t7:=ptA Pt [1,1,0,1,0,0]
def KV:=nfF 58 Tryz.f58 []
abbrev NL:t7:=ptA KV [1,0,1,0,0]
abbrev NM:t7:=ptA KV [1,1,1,0,0]
def QP:=nfF 59 Tryz.f59 []
def QQ:=nfF 61 Tryz.f61 []
def QS:=nfF 62 Tryz.f62 [6,0]
def Pv:=nfF 63 Tryz.f63 [0]
abbrev NO:t7:=ptA Pv [1,1,1,0,1,0,0]
def Eh:=nfF 64 Tryz.f64 [8]
abbrev NP:t7:=ptA Eh [1,1,0,0]
abbrev Jh:t7:=ptA Eh [1,1,0,0,0,1,1,1,0,1,0,0]
abbrev NQ:t7:=ptA Eh [1,1,0,0,0,1,1,1,1,0,1]
abbrev NR:t7:=ptA Eh [1,1,0,0,0,1,1,1,1,1]
def Pw:=nfF 65 Tryz.f65 []
abbrev NS:t7:=ptA Pw [1,0,1,0,0]
def Px:=nfF 66 Tryz.f66 []
abbrev NT:t7:=ptA Px [1,1,0,0,0]
def QT:=nfF 67 Tryz.f67 []
def KW:=nfF 68 Tryz.f68 []
abbrev NU:t7:=ptA KW [1,1,0,1,0,0]
abbrev NV:t7:=ptA KW [1,1,1,0,1,0,0]
def Py:=nfF 69 Tryz.f69 [7]
abbrev NW:t7:=ptA Py [1,0,1,0,0]
def QU:=nfF 70 Tryz.f70 []
def Pz:=nfF 71 Tryz.f71 []
abbrev NX:t7:=ptA Pz [1,1,0,1,0,0]
def KX:=nfF 72 Tryz.f72 [0,14,9,17,9]
abbrev Ji:t7:=ptA KX [1,1,1,1,0,0]
abbrev NY:t7:=ptA KX [1,1,1,1,0,0,1,0,1,1,0,0]
def PA:=nfF 73 Tryz.f73 []
abbrev NZ:t7:=ptA PA [1,1,0,1,0,0]
def QV:=nfF 74 Tryz.f74 []
def KY:=nfF 77 Tryz.f77 []
abbrev Oa:t7:=ptA KY [1,1,0,1,0,0]
abbrev Ob:t7:=ptA KY [1,1,1,0,1,0,0]
def xj:=nfF 78 Tryz.f78 []
abbrev Oc:t7:=ptA xj [1,1,1,1,1,1,1,1,1,1,1,0,1,0,0]
def Hg:t7:=ptA xj [1,1,1,1,1,1,1,1,1,1]
def Ej:=hdF xj [1,1,1,1,1,1,1,1,1,1] Hg
def DX:t7:=ptA Ej [1,1,1,1,1,1]
def Ek:=hdF Ej [1,1,1,1,1,1] DX
def uk:t7:=ptA Ek [1,1,1,1,1]
def El:=hdF Ek [1,1,1,1,1] uk
def DW:t7:=ptA El [1,1,1,1]
def PB:=hdF El [1,1,1,1] DW
def KZ:=nfF 79 Tryz.f79 []
abbrev Od:t7:=ptA KZ [1,0,1,0,0]
abbrev Oe:t7:=ptA KZ [1,1,1,0,0]
def QW:=nfF 80 Tryz.f80 []
def QX:=nfF 81 Tryz.f81 []
def QY:=nfF 83 Tryz.f83 [0]
def QZ:=nfF 85 Tryz.f85 []
def Lb:=nfF 86 Tryz.f86 []
abbrev Oi:t7:=ptA Lb [1,1,0,1,0,0]
abbrev Oj:t7:=ptA Lb [1,1,1,0,1,0,0]
def PC:=nfF 87 Tryz.f87 []
abbrev Ol:t7:=ptA PC [1,1,0,1,0,0]
def PD:=nfF 88 Tryz.f88 [24]
abbrev Om:t7:=ptA PD [1,1,0,1,0,0]
def Ra:=nfF 89 Tryz.f89 []
def pz:=nfF 90 Tryz.f90 [0,0,0,0,0,0,0,0]
abbrev On:t7:=ptA pz [1,1,0,1,0,1,1,0,1,0,0]
abbrev Oo:t7:=ptA pz [1,1,1,0,1,0,1,1,0,1,0,0]
abbrev Oq:t7:=ptA pz [1,1,1,0,1,0,1,1,1,1,1,0,1,0,0]
def PF:=nfF 91 Tryz.f91 []
abbrev Ot:t7:=ptA PF [1,1,0,1,0,0]
def Lc:=nfF 92 Tryz.f92 [11,11]
abbrev Ou:t7:=ptA Lc [1,1,0,1,0,0]
abbrev Ov:t7:=ptA Lc [1,1,1,0,1,0,0]
def Ld:=nfF 93 Tryz.f93 []
abbrev Ow:t7:=ptA Ld [1,1,1,0,1,0,0]
def Rb:=nfF 94 Tryz.f94 []
def PG:=nfF 95 Tryz.f95 []
abbrev Ox:t7:=ptA PG [1,1,1,0,0,0]
def Rc:=nfF 96 Tryz.f96 []
def PH:=nfF 97 Tryz.f97 []
abbrev Oy:t7:=ptA PH [1,1,1,0,1,0,0]
def Lf:=nfF 99 Tryz.f99 []
abbrev Oz:t7:=ptA Lf [1,1,0,1,0,0]
abbrev OA:t7:=ptA Lf [1,1,1,0,1,0,0]
def OC:=nfF 100 Tryz.f100 []
def lX:=nfF 101 Tryz.f101 [0,0,0]
abbrev Kn:t7:=ptA lX [1,1,0,1,0,0]
abbrev Ko:t7:=ptA lX [1,1,1,1,0,0]
def wU:t7:=ptA lX [1,0,1]
def OD:=hdF lX [1,0,1] wU
def Jj:=nfF 102 Tryz.f102 []
abbrev Kp:t7:=ptA Jj [1,0,1,0,0]
def OE:=nfF 103 Tryz.f103 []
def OF:=nfF 104 Tryz.f104 []
def OG:=nfF 105 Tryz.f105 []
def OH:=nfF 106 Tryz.f106 []
def OI:=nfF 107 Tryz.f107 []
def Jk:=nfF 108 Tryz.f108 []
abbrev Kq:t7:=ptA Jk [1,1,0,1,0,0]
def Ec:=nfF 109 Tryz.f109 []
abbrev Kr:t7:=ptA Ec [1,1,1,0,1,0,0]
abbrev Kt:t7:=ptA Ec [1,1,1,1,1,0,1,0,0]
def OK:=nfF 110 Tryz.f110 []
def OL:=nfF 111 Tryz.f111 []
def Ed:=nfF 112 Tryz.f112 []
abbrev Ku:t7:=ptA Ed [1,1,0,1,0,0]
abbrev Kv:t7:=ptA Ed [1,1,1,0,1,0,0]
def Jl:=nfF 113 Tryz.f113 [6]
abbrev Kw:t7:=ptA Jl [1,0,1,0,0]
def OM:=nfF 114 Tryz.f114 []
def Ee:=nfF 115 Tryz.f115 [11,11]
abbrev Kx:t7:=ptA Ee [1,1,0,1,0,0]
abbrev Ky:t7:=ptA Ee [1,1,1,0,1,0,0]
def ON:=nfF 116 Tryz.f116 [10,11,9]
def OO:=nfF 117 Tryz.f117 []
def zt:=nfF 118 Tryz.f118 []
def DU:t7:=ptA zt [1,1,0,1,0,0,1,0,0,1,1]
def Ef:=hdF zt [1,1,0,1,0,0,1,0,0,1,1] DU
abbrev KA:t7:=ptA Ef [1,1,0,1,0,0,1,1]
abbrev Kz:t7:=ptA Ef [1,1,0,1,0,0]
def OP:=nfF 119 Tryz.f119 []
def OQ:=nfF 120 Tryz.f120 []
def OS:=nfF 121 Tryz.f121 []
def Jm:=nfF 125 Tryz.f125 []
abbrev KB:t7:=ptA Jm [1,0,1,0,0]
def OT:=nfF 126 Tryz.f126 []
def OU:=nfF 127 Tryz.f127 [7,0]
def OV:=nfF 128 Tryz.f128 []
def OW:=nfF 129 Tryz.f129 []
def Jn:=nfF 130 Tryz.f130 []
abbrev KC:t7:=ptA Jn [1,0,1,0,0]
def Jo:=nfF 131 Tryz.f131 []
abbrev KD:t7:=ptA Jo [1,1,0,1,0,0]
def Jp:=nfF 132 Tryz.f132 []
abbrev KE:t7:=ptA Jp [1,1,0,1,0,0]
def OX:=nfF 133 Tryz.f133 []
def OY:=nfF 134 Tryz.f134 []
def Jq:=nfF 135 Tryz.f135 [10]
abbrev KF:t7:=ptA Jq [1,0,1,0,0]
def OZ:=nfF 136 Tryz.f136 []
def Pa:=nfF 137 Tryz.f137 []
def Pb:=nfF 138 Tryz.f138 [6,26]
def Pc:=nfF 139 Tryz.f139 []
def Pd:=nfF 140 Tryz.f140 []
def Jr:=nfF 141 Tryz.f141 [10]
abbrev KH:t7:=ptA Jr [1,1,0,1,0,0]
def zu:=nfF 142 Tryz.f142 []
def zo:t7:=ptA zu [1,1,1,0,1,0,0,1,0,0,1,1,1,1,1,1,1,1,1,1,1,0,0,1,0,0,1,1]
def kN:=hdF zu [1,1,1,0,1,0,0,1,0,0,1,1,1,1,1,1,1,1,1,1,1,0,0,1,0,0,1,1] zo
abbrev KL:t7:=ptA kN [1,1,1,0,1,0,0,1,0,0,1,1,1,1,1,1,1,1,1,1,1,0,0,1,1]
abbrev DV:t7:=ptA kN [1,1,1,0,1,0,0,1,0,0,1,1,1,1,1,1,1,1,1,1,1,0,0]
abbrev KJ:t7:=ptA kN [1,1,1,0,1,0,0,1,0,0,1,1,1,1,1,1,1,0,1,0,0]
abbrev GY:t7:=ptA kN [1,1,1,0,1,0,0,1,0,0,1,1,1,1,1,1,1,1]
abbrev KI:t7:=ptA kN [1,1,1,0,1,0,0,1,0,0,1,1,1,0,0,0]
abbrev lW:t7:=ptA kN [1,1,1,0,1,0,0,1,1]
abbrev KK:t7:=ptA kN [1,1,1,0,1,0,0]
def Pe:=nfF 147 Tryz.f147 []
def Js:=nfF 148 Tryz.f148 [6]
abbrev KM:t7:=ptA Js [1,0,1,0,0]
def Jt:=nfF 153 Tryz.f153 []
abbrev KN:t7:=ptA Jt [1,0,1,0,0]
def Ph:=nfF 154 Tryz.f154 []
def Pi:=nfF 165 Tryz.f165 []
abbrev tD(n s b:Nat)(z:LV)(v:Value)(g:Bool):Prop:=D8 prog n=some s/\V0 prog n=some b/\O9 prog n=some z/\iP prog n=some v/\bT prog n=some g
abbrev tE(n s b:Nat)(z:LV)(v:Value)(g:Bool)(p:Prop):Prop:=D8 prog n=some s/\V0 prog n=some b/\O9 prog n=some z/\iP prog n=some v/\bT prog n=some g/\p
abbrev tF(n i a b:Nat):Prop:=sT prog n i=some (a,b)
abbrev tG(n:Nat)(l:List (Nat×Nat)):Prop:=FU prog n=some (.inl l)
abbrev tK(n:Nat)(l:List Q5):Prop:=vJ prog n=some l
abbrev tU(n:Nat)(l:List Q5):Prop:=oW prog n=some l
abbrev tS(n e:Nat):Prop:=tE n 1 24 [nS] nS false (I5 prog n=some e/\prog.underlying n=some (.slice e))
abbrev tP(n e:Nat):Prop:=tE n 1 8 [.pointer none] (.pointer none) false (prog.underlying n=some (.pointer e))
theorem gP{p:Prop}(q:p:=by repeat' (first|kernel_rfl|refine⟨?_,?_⟩|(show _=_;kernel_rfl))):p:=q
theorem ty3:tE 3 1 8 [iV (0)] (iV (0)) false (tK 3 [.int]/\prog.underlying 3=some (.int .i64)):=gP
theorem ty4:tE 4 1 1 [.bool false] (.bool false) false (tK 4 [.bool]/\vI prog 4=true/\prog.underlying 4=some .bool):=gP
theorem ty5:tE 5 1 1 [.int .u8 (0)] (.int .u8 (0)) false (tK 5 [.int]/\prog.underlying 5=some (.int .u8)):=gP
theorem ty9:tE 9 1 16 [.string eB] (.string eB) false (tK 9 [.str]/\prog.underlying 9=some .string):=gP
theorem FW:tE 21 1 4 [.int .i32 (0)] (.int .i32 (0)) false (tK 21 [.int]/\prog.underlying 21=some (.int .i32)):=gP
theorem lP:tE 22 1 24 [nS] (nS) false (I5 prog 22=some 25/\prog.underlying 22=some (.slice 25)):=gP
theorem sU:tE 23 1 24 [nS] (nS) false (I5 prog 23=some 86/\prog.underlying 23=some (.slice 86)):=gP
theorem aq:tE 25 3 56 [iV (0),nS,nS] (.agg #[iV (0),nS,nS]) true (tG 25 [(0,1),(1,1),(2,1)]/\tF 25 0 0 3/\tF 25 1 1 22/\tF 25 2 2 23):=gP
theorem MD:tE 28 1 24 [nS] (nS) false (I5 prog 28=some 32/\prog.underlying 28=some (.slice 32)):=gP
theorem CE:tE 29 1 24 [nS] (nS) false (I5 prog 29=some 3/\prog.underlying 29=some (.slice 3)):=gP
theorem IZ:tE 30 1 24 [nS] (nS) false (I5 prog 30=some 89/\prog.underlying 30=some (.slice 89)):=gP
theorem pL:tE 32 5 72 [iV (0),iV (0),iV (0),nS,nS] (.agg #[iV (0),iV (0),iV (0),nS,nS]) true (tG 32 [(0,1),(1,1),(2,1),(3,1),(4,1)]/\tF 32 0 0 3/\tF 32 1 1 3/\tF 32 2 2 3/\tF 32 3 3 30/\tF 32 4 4 23):=gP
theorem Rz:tE 34 8 144 [nS,nS,nS,iV (0),iV (0),iV (0),nS,nS] (.agg #[nS,nS,nS,iV (0),iV (0),iV (0),nS,nS]) true (tG 34 [(0,1),(1,1),(2,1),(3,5)]/\tF 34 0 0 22/\tF 34 1 1 28/\tF 34 2 2 29/\tF 34 3 3 32):=gP
theorem lQ:tE 35 1 24 [nS] (nS) false (I5 prog 35=some 51/\prog.underlying 35=some (.slice 51)):=gP
theorem ME:tE 36 1 24 [nS] (nS) false (I5 prog 36=some 59/\prog.underlying 36=some (.slice 59)):=gP
theorem Qv:tE 37 1 24 [nS] (nS) false (I5 prog 37=some 56/\prog.underlying 37=some (.slice 56)):=gP
theorem RA:tE 39 12 240 [nS,nS,nS,iV (0),iV (0),iV (0),nS,nS,nS,nS,nS,nS] (.agg #[nS,nS,nS,iV (0),iV (0),iV (0),nS,nS,nS,nS,nS,nS]) true (tG 39 [(0,8),(8,1),(9,1),(10,1),(11,1)]/\tF 39 0 0 34/\tF 39 1 8 35/\tF 39 2 9 36/\tF 39 3 10 29/\tF 39 4 11 37):=gP
theorem RB:tE 40 1 8 [iV (0)] (iV (0)) false (tK 40 [.int]/\prog.underlying 40=some (.int .i64)):=gP
theorem dP:tE 48 2 32 [.string eB,.string eB] (.agg #[.string eB,.string eB]) true (tG 48 [(0,1),(1,1)]/\tK 48 [.str,.str]/\tU 48 [.str,.str]/\tF 48 0 0 9/\tF 48 1 1 9):=gP
theorem CF:tE 49 1 24 [nS] (nS) false (I5 prog 49=some 53/\prog.underlying 49=some (.slice 53)):=gP
theorem S9:tE 51 5 80 [iV (0),.string eB,.string eB,nS,.string eB] (.agg #[iV (0),.string eB,.string eB,nS,.string eB]) true (tG 51 [(0,1),(1,2),(3,1),(4,1)]/\tF 51 0 0 3/\tF 51 1 1 48/\tF 51 2 3 49/\tF 51 3 4 9):=gP
theorem jQ:tE 53 3 48 [.string eB,.string eB,.string eB] (.agg #[.string eB,.string eB,.string eB]) true (tG 53 [(0,2),(2,1)]/\tK 53 [.str,.str,.str]/\tU 53 [.str,.str,.str]/\tF 53 0 0 48/\tF 53 1 2 9):=gP
theorem CG:tE 56 3 24 [iV (0),iV (0),iV (0)] (.agg #[iV (0),iV (0),iV (0)]) true (tG 56 [(0,1),(1,1),(2,1)]/\tK 56 [.int,.int,.int]/\tU 56 [.int,.int,.int]/\tF 56 0 0 3/\tF 56 1 1 3/\tF 56 2 2 3):=gP
theorem CH:tE 59 3 24 [.bool false,.bool false,.string eB] (.agg #[.bool false,.bool false,.string eB]) true (tG 59 [(0,1),(1,1),(2,1)]/\tK 59 [.bool,.bool,.str]/\tU 59 [.bool,.bool,.str]/\tF 59 0 0 4/\tF 59 1 1 4/\tF 59 2 2 9):=gP
theorem Qw:tP 75 39:=gP
theorem yR:tE 81 1 24 [nS] (nS) false (I5 prog 81=some 5/\prog.underlying 81=some (.slice 5)):=gP
theorem Ja:tE 83 1 24 [nS] (nS) false (I5 prog 83=some 4/\prog.underlying 83=some (.slice 4)):=gP
theorem cr:tE 86 6 104 [iV (0),.string eB,.string eB,.string eB,nS,nS] (.agg #[iV (0),.string eB,.string eB,.string eB,nS,nS]) true (tG 86 [(0,1),(1,2),(3,1),(4,1),(5,1)]/\tF 86 0 0 3/\tF 86 1 1 48/\tF 86 2 3 9/\tF 86 3 4 23/\tF 86 4 5 22):=gP
theorem pM:tE 89 4 32 [iV (0),iV (0),iV (0),iV (0)] (.agg #[iV (0),iV (0),iV (0),iV (0)]) true (tG 89 [(0,1),(1,1),(2,1),(3,1)]/\tK 89 [.int,.int,.int,.int]/\tU 89 [.int,.int,.int,.int]/\tF 89 0 0 3/\tF 89 1 1 3/\tF 89 2 2 3/\tF 89 3 3 3):=gP
theorem sV:tE 95 1 24 [nS] (nS) false (I5 prog 95=some 48/\prog.underlying 95=some (.slice 48)):=gP
theorem MF:tE 96 1 24 [nS] (nS) false (I5 prog 96=some 97/\prog.underlying 96=some (.slice 97)):=gP
theorem bU:tE 97 1 24 [nS] (nS) false (I5 prog 97=some 9/\prog.underlying 97=some (.slice 9)):=gP
theorem RC:tE 99 4 96 [nS,nS,nS,nS] (.agg #[nS,nS,nS,nS]) true (tG 99 [(0,1),(1,1),(2,1),(3,1)]/\tF 99 0 0 95/\tF 99 1 1 95/\tF 99 2 2 96/\tF 99 3 3 97):=gP
theorem Qn:tD 102 1 8 [.nilFunc] .nilFunc false:=gP
theorem Qo:tE 107 1 24 [nS] (.agg #[nS]) true (tG 107 [(0,1)]/\tF 107 0 0 22):=gP
theorem Qp:tE 115 4 96 [nS,nS,nS,nS] (.agg #[nS,nS,nS,nS]) true (tG 115 [(0,1),(1,1),(2,1),(3,1)]/\tF 115 0 0 95/\tF 115 1 1 95/\tF 115 2 2 96/\tF 115 3 3 97):=gP
theorem Qq:tE 123 20 296 [nS,nS,nS,iV (0),iV (0),iV (0),nS,nS,iV (0),.string eB,.string eB,nS,.string eB,.bool false,.bool false,.string eB,.bool false,.bool false,.string eB,nS] (.agg #[nS,nS,nS,iV (0),iV (0),iV (0),nS,nS,iV (0),.string eB,.string eB,nS,.string eB,.bool false,.bool false,.string eB,.bool false,.bool false,.string eB,nS]) true (tG 123 [(0,8),(8,5),(13,3),(16,3),(19,1)]/\tF 123 0 0 34/\tF 123 1 8 51/\tF 123 2 13 59/\tF 123 3 16 59/\tF 123 4 19 81):=gP
theorem Qr:tE 130 4 96 [nS,nS,nS,nS] (.agg #[nS,nS,nS,nS]) true (tG 130 [(0,4)]/\tF 130 0 0 99):=gP
theorem Qs:tE 135 5 72 [iV (0),iV (0),iV (0),nS,nS] (.agg #[iV (0),iV (0),iV (0),nS,nS]) true (tG 135 [(0,5)]/\tF 135 0 0 32):=gP
theorem Qt:tE 144 7 88 [iV (0),iV (0),iV (0),nS,nS,iV (0),iV (0)] (.agg #[iV (0),iV (0),iV (0),nS,nS,iV (0),iV (0)]) true (tG 144 [(0,5),(5,1),(6,1)]/\tF 144 0 0 32/\tF 144 1 5 3/\tF 144 2 6 3):=gP
theorem FV:tE 150 1 24 [nS] (nS) false (I5 prog 150=some 21/\prog.underlying 150=some (.slice 21)):=gP
theorem Qu:tE 169 14 248 [nS,nS,nS,iV (0),iV (0),iV (0),nS,nS,iV (0),.string eB,.string eB,nS,.string eB,nS] (.agg #[nS,nS,nS,iV (0),iV (0),iV (0),nS,nS,iV (0),.string eB,.string eB,nS,.string eB,nS]) true (tG 169 [(0,8),(8,5),(13,1)]/\tF 169 0 0 34/\tF 169 1 8 51/\tF 169 2 13 81):=gP
theorem anB:ly (aI @List.any_cons.{0} @List.any_nil.{0}):=stOf _
theorem tyA:ly (aI (aI (aI (aI (aI @ty3 @ty4) (aI @ty5 (aI @ty9 @FW))) (aI (aI @lP @sU) (aI @aq (aI @MD @CE)))) (aI (aI (aI @IZ @pL) (aI @Rz (aI @lQ @ME))) (aI (aI @Qv (aI @RA @RB)) (aI @dP (aI @CF @S9))))) (aI (aI (aI (aI @jQ @CG) (aI @CH (aI @Qw @yR))) (aI (aI @Ja @cr) (aI @pM (aI @sV @MF)))) (aI (aI (aI @bU @RC) (aI @Qn (aI @Qo @Qp))) (aI (aI @Qq (aI @Qr @Qs)) (aI @Qt (aI @FV @Qu)))))):=stOf _
section
variable{a b c d e f g h i j k l m n o r s t u v w x y z a1 b1 c1 d1 e1 f1 p q:Prop}
theorem Jj'(a':a)(K:q)(Z:a->q->p:=by intro a;simp(maxSteps:=20000000) -dsimp (disch:=first|omega|(simp only[rH]<;>omega)|fail) only[↓ig,rQ,N3,sevalprocAttr,tyA,a]<;>exact id):p:=Z a' K
theorem J1(a':a)(K:q)(Z:a->q->p:=by intro a;simp(maxSteps:=20000000) -dsimp (disch:=first|omega|(simp only[rH]<;>omega)|fail) only[↓ig,rQ,N3,sevalprocAttr,tyA,a]<;>exact id):p:=Z a' K
theorem J2(a':a)(b':b)(K:q)(Z:a/\b->q->p:=by exact fun a b=>Jj' a b):p:=Z ⟨a',b'⟩ K
theorem J3(a':a)(b':b)(c':c)(K:q)(Z:a/\b/\c->q->p:=by exact fun a b=>Jj' a b):p:=Z ⟨a',b',c'⟩ K
theorem J4(a':a)(b':b)(c':c)(d':d)(K:q)(Z:a/\b/\c/\d->q->p:=by exact fun a b=>Jj' a b):p:=Z ⟨a',b',c',d'⟩ K
theorem J5(a':a)(b':b)(c':c)(d':d)(e':e)(K:q)(Z:a/\b/\c/\d/\e->q->p:=by exact fun a b=>Jj' a b):p:=Z ⟨a',b',c',d',e'⟩ K
theorem J6(a':a)(b':b)(c':c)(d':d)(e':e)(f':f)(K:q)(Z:a/\b/\c/\d/\e/\f->q->p:=by exact fun a b=>Jj' a b):p:=Z ⟨a',b',c',d',e',f'⟩ K
theorem J7(a':a)(b':b)(c':c)(d':d)(e':e)(f':f)(g':g)(K:q)(Z:a/\b/\c/\d/\e/\f/\g->q->p:=by exact fun a b=>Jj' a b):p:=Z ⟨a',b',c',d',e',f',g'⟩ K
theorem J8(a':a)(b':b)(c':c)(d':d)(e':e)(f':f)(g':g)(h':h)(K:q)(Z:a/\b/\c/\d/\e/\f/\g/\h->q->p:=by exact fun a b=>Jj' a b):p:=Z ⟨a',b',c',d',e',f',g',h'⟩ K
theorem J9(a':a)(b':b)(c':c)(d':d)(e':e)(f':f)(g':g)(h':h)(i':i)(K:q)(Z:a/\b/\c/\d/\e/\f/\g/\h/\i->q->p:=by exact fun a b=>Jj' a b):p:=Z ⟨a',b',c',d',e',f',g',h',i'⟩ K
theorem J10(a':a)(b':b)(c':c)(d':d)(e':e)(f':f)(g':g)(h':h)(i':i)(j':j)(K:q)(Z:a/\b/\c/\d/\e/\f/\g/\h/\i/\j->q->p:=by exact fun a b=>Jj' a b):p:=Z ⟨a',b',c',d',e',f',g',h',i',j'⟩ K
theorem J11(a':a)(b':b)(c':c)(d':d)(e':e)(f':f)(g':g)(h':h)(i':i)(j':j)(k':k)(K:q)(Z:a/\b/\c/\d/\e/\f/\g/\h/\i/\j/\k->q->p:=by exact fun a b=>Jj' a b):p:=Z ⟨a',b',c',d',e',f',g',h',i',j',k'⟩ K
theorem J12(a':a)(b':b)(c':c)(d':d)(e':e)(f':f)(g':g)(h':h)(i':i)(j':j)(k':k)(l':l)(K:q)(Z:a/\b/\c/\d/\e/\f/\g/\h/\i/\j/\k/\l->q->p:=by exact fun a b=>Jj' a b):p:=Z ⟨a',b',c',d',e',f',g',h',i',j',k',l'⟩ K
theorem J13(a':a)(b':b)(c':c)(d':d)(e':e)(f':f)(g':g)(h':h)(i':i)(j':j)(k':k)(l':l)(m':m)(K:q)(Z:a/\b/\c/\d/\e/\f/\g/\h/\i/\j/\k/\l/\m->q->p:=by exact fun a b=>Jj' a b):p:=Z ⟨a',b',c',d',e',f',g',h',i',j',k',l',m'⟩ K
theorem J14(a':a)(b':b)(c':c)(d':d)(e':e)(f':f)(g':g)(h':h)(i':i)(j':j)(k':k)(l':l)(m':m)(n':n)(K:q)(Z:a/\b/\c/\d/\e/\f/\g/\h/\i/\j/\k/\l/\m/\n->q->p:=by exact fun a b=>Jj' a b):p:=Z ⟨a',b',c',d',e',f',g',h',i',j',k',l',m',n'⟩ K
theorem J15(a':a)(b':b)(c':c)(d':d)(e':e)(f':f)(g':g)(h':h)(i':i)(j':j)(k':k)(l':l)(m':m)(n':n)(o':o)(K:q)(Z:a/\b/\c/\d/\e/\f/\g/\h/\i/\j/\k/\l/\m/\n/\o->q->p:=by exact fun a b=>Jj' a b):p:=Z ⟨a',b',c',d',e',f',g',h',i',j',k',l',m',n',o'⟩ K
theorem J16(a':a)(b':b)(c':c)(d':d)(e':e)(f':f)(g':g)(h':h)(i':i)(j':j)(k':k)(l':l)(m':m)(n':n)(o':o)(r':r)(K:q)(Z:a/\b/\c/\d/\e/\f/\g/\h/\i/\j/\k/\l/\m/\n/\o/\r->q->p:=by exact fun a b=>Jj' a b):p:=Z ⟨a',b',c',d',e',f',g',h',i',j',k',l',m',n',o',r'⟩ K
theorem J17(a':a)(b':b)(c':c)(d':d)(e':e)(f':f)(g':g)(h':h)(i':i)(j':j)(k':k)(l':l)(m':m)(n':n)(o':o)(r':r)(s':s)(K:q)(Z:a/\b/\c/\d/\e/\f/\g/\h/\i/\j/\k/\l/\m/\n/\o/\r/\s->q->p:=by exact fun a b=>Jj' a b):p:=Z ⟨a',b',c',d',e',f',g',h',i',j',k',l',m',n',o',r',s'⟩ K
theorem J18(a':a)(b':b)(c':c)(d':d)(e':e)(f':f)(g':g)(h':h)(i':i)(j':j)(k':k)(l':l)(m':m)(n':n)(o':o)(r':r)(s':s)(t':t)(K:q)(Z:a/\b/\c/\d/\e/\f/\g/\h/\i/\j/\k/\l/\m/\n/\o/\r/\s/\t->q->p:=by exact fun a b=>Jj' a b):p:=Z ⟨a',b',c',d',e',f',g',h',i',j',k',l',m',n',o',r',s',t'⟩ K
theorem J19(a':a)(b':b)(c':c)(d':d)(e':e)(f':f)(g':g)(h':h)(i':i)(j':j)(k':k)(l':l)(m':m)(n':n)(o':o)(r':r)(s':s)(t':t)(u':u)(K:q)(Z:a/\b/\c/\d/\e/\f/\g/\h/\i/\j/\k/\l/\m/\n/\o/\r/\s/\t/\u->q->p:=by exact fun a b=>Jj' a b):p:=Z ⟨a',b',c',d',e',f',g',h',i',j',k',l',m',n',o',r',s',t',u'⟩ K
theorem J20(a':a)(b':b)(c':c)(d':d)(e':e)(f':f)(g':g)(h':h)(i':i)(j':j)(k':k)(l':l)(m':m)(n':n)(o':o)(r':r)(s':s)(t':t)(u':u)(v':v)(K:q)(Z:a/\b/\c/\d/\e/\f/\g/\h/\i/\j/\k/\l/\m/\n/\o/\r/\s/\t/\u/\v->q->p:=by exact fun a b=>Jj' a b):p:=Z ⟨a',b',c',d',e',f',g',h',i',j',k',l',m',n',o',r',s',t',u',v'⟩ K
theorem J21(a':a)(b':b)(c':c)(d':d)(e':e)(f':f)(g':g)(h':h)(i':i)(j':j)(k':k)(l':l)(m':m)(n':n)(o':o)(r':r)(s':s)(t':t)(u':u)(v':v)(w':w)(K:q)(Z:a/\b/\c/\d/\e/\f/\g/\h/\i/\j/\k/\l/\m/\n/\o/\r/\s/\t/\u/\v/\w->q->p:=by exact fun a b=>Jj' a b):p:=Z ⟨a',b',c',d',e',f',g',h',i',j',k',l',m',n',o',r',s',t',u',v',w'⟩ K
theorem J23(a':a)(b':b)(c':c)(d':d)(e':e)(f':f)(g':g)(h':h)(i':i)(j':j)(k':k)(l':l)(m':m)(n':n)(o':o)(r':r)(s':s)(t':t)(u':u)(v':v)(w':w)(x':x)(y':y)(K:q)(Z:a/\b/\c/\d/\e/\f/\g/\h/\i/\j/\k/\l/\m/\n/\o/\r/\s/\t/\u/\v/\w/\x/\y->q->p:=by exact fun a b=>Jj' a b):p:=Z ⟨a',b',c',d',e',f',g',h',i',j',k',l',m',n',o',r',s',t',u',v',w',x',y'⟩ K
theorem J24(a':a)(b':b)(c':c)(d':d)(e':e)(f':f)(g':g)(h':h)(i':i)(j':j)(k':k)(l':l)(m':m)(n':n)(o':o)(r':r)(s':s)(t':t)(u':u)(v':v)(w':w)(x':x)(y':y)(z':z)(K:q)(Z:a/\b/\c/\d/\e/\f/\g/\h/\i/\j/\k/\l/\m/\n/\o/\r/\s/\t/\u/\v/\w/\x/\y/\z->q->p:=by exact fun a b=>Jj' a b):p:=Z ⟨a',b',c',d',e',f',g',h',i',j',k',l',m',n',o',r',s',t',u',v',w',x',y',z'⟩ K
theorem J25(a':a)(b':b)(c':c)(d':d)(e':e)(f':f)(g':g)(h':h)(i':i)(j':j)(k':k)(l':l)(m':m)(n':n)(o':o)(r':r)(s':s)(t':t)(u':u)(v':v)(w':w)(x':x)(y':y)(z':z)(a1':a1)(K:q)(Z:a/\b/\c/\d/\e/\f/\g/\h/\i/\j/\k/\l/\m/\n/\o/\r/\s/\t/\u/\v/\w/\x/\y/\z/\a1->q->p:=by exact fun a b=>Jj' a b):p:=Z ⟨a',b',c',d',e',f',g',h',i',j',k',l',m',n',o',r',s',t',u',v',w',x',y',z',a1'⟩ K
theorem J26(a':a)(b':b)(c':c)(d':d)(e':e)(f':f)(g':g)(h':h)(i':i)(j':j)(k':k)(l':l)(m':m)(n':n)(o':o)(r':r)(s':s)(t':t)(u':u)(v':v)(w':w)(x':x)(y':y)(z':z)(a1':a1)(b1':b1)(K:q)(Z:a/\b/\c/\d/\e/\f/\g/\h/\i/\j/\k/\l/\m/\n/\o/\r/\s/\t/\u/\v/\w/\x/\y/\z/\a1/\b1->q->p:=by exact fun a b=>Jj' a b):p:=Z ⟨a',b',c',d',e',f',g',h',i',j',k',l',m',n',o',r',s',t',u',v',w',x',y',z',a1',b1'⟩ K
theorem J27(a':a)(b':b)(c':c)(d':d)(e':e)(f':f)(g':g)(h':h)(i':i)(j':j)(k':k)(l':l)(m':m)(n':n)(o':o)(r':r)(s':s)(t':t)(u':u)(v':v)(w':w)(x':x)(y':y)(z':z)(a1':a1)(b1':b1)(c1':c1)(K:q)(Z:a/\b/\c/\d/\e/\f/\g/\h/\i/\j/\k/\l/\m/\n/\o/\r/\s/\t/\u/\v/\w/\x/\y/\z/\a1/\b1/\c1->q->p:=by exact fun a b=>Jj' a b):p:=Z ⟨a',b',c',d',e',f',g',h',i',j',k',l',m',n',o',r',s',t',u',v',w',x',y',z',a1',b1',c1'⟩ K
theorem J28(a':a)(b':b)(c':c)(d':d)(e':e)(f':f)(g':g)(h':h)(i':i)(j':j)(k':k)(l':l)(m':m)(n':n)(o':o)(r':r)(s':s)(t':t)(u':u)(v':v)(w':w)(x':x)(y':y)(z':z)(a1':a1)(b1':b1)(c1':c1)(d1':d1)(K:q)(Z:a/\b/\c/\d/\e/\f/\g/\h/\i/\j/\k/\l/\m/\n/\o/\r/\s/\t/\u/\v/\w/\x/\y/\z/\a1/\b1/\c1/\d1->q->p:=by exact fun a b=>Jj' a b):p:=Z ⟨a',b',c',d',e',f',g',h',i',j',k',l',m',n',o',r',s',t',u',v',w',x',y',z',a1',b1',c1',d1'⟩ K
theorem J29(a':a)(b':b)(c':c)(d':d)(e':e)(f':f)(g':g)(h':h)(i':i)(j':j)(k':k)(l':l)(m':m)(n':n)(o':o)(r':r)(s':s)(t':t)(u':u)(v':v)(w':w)(x':x)(y':y)(z':z)(a1':a1)(b1':b1)(c1':c1)(d1':d1)(e1':e1)(K:q)(Z:a/\b/\c/\d/\e/\f/\g/\h/\i/\j/\k/\l/\m/\n/\o/\r/\s/\t/\u/\v/\w/\x/\y/\z/\a1/\b1/\c1/\d1/\e1->q->p:=by exact fun a b=>Jj' a b):p:=Z ⟨a',b',c',d',e',f',g',h',i',j',k',l',m',n',o',r',s',t',u',v',w',x',y',z',a1',b1',c1',d1',e1'⟩ K
theorem J30(a':a)(b':b)(c':c)(d':d)(e':e)(f':f)(g':g)(h':h)(i':i)(j':j)(k':k)(l':l)(m':m)(n':n)(o':o)(r':r)(s':s)(t':t)(u':u)(v':v)(w':w)(x':x)(y':y)(z':z)(a1':a1)(b1':b1)(c1':c1)(d1':d1)(e1':e1)(f1':f1)(K:q)(Z:a/\b/\c/\d/\e/\f/\g/\h/\i/\j/\k/\l/\m/\n/\o/\r/\s/\t/\u/\v/\w/\x/\y/\z/\a1/\b1/\c1/\d1/\e1/\f1->q->p:=by exact fun a b=>Jj' a b):p:=Z ⟨a',b',c',d',e',f',g',h',i',j',k',l',m',n',o',r',s',t',u',v',w',x',y',z',a1',b1',c1',d1',e1',f1'⟩ K
end
theorem pushE(H:d8)(B:Blk):∃K,K=H.push B/\K.next=H.next+1/\K.get H.next=some B/\i6 H.next H K:=⟨_,rfl,by rw[i5],j9,i6.push (Nat.le_refl _)⟩
theorem pushF(H:d8)(B:Blk):∃K,K=d8.push ⟨H.bs,H.next⟩ B/\K.next=H.next+1/\K.get H.next=some B/\i6 H.next H K:=⟨_,rfl,by rw[i5];rfl,j9,i6.first H _⟩
theorem pushP(H:d8)(B C:Blk):∃K,K=(H.push B).put H.next C/\K.next=H.next+1/\K.get H.next=some C/\i6 H.next H K:=⟨_,rfl,by rw[t5,i5],j5 (by rw[i5];omega),(i6.push (Nat.le_refl _)).trans (i6.put (Nat.le_refl _))⟩
abbrev bC(c:LV)(n:Nat):Blk:= .cells c true n
abbrev sL(b n c:Nat):Value:= .slice (some ⟨b,0,none⟩) n c
abbrev cE(c:LV)(n:Nat):Option Blk:=some (.cells c true n)
def t6:Lib:=fun _=>none
def inSpans(r:Int)(l:List (Int×Int)):Bool:=l.any fun s=>decide (s.1<=r)&&decide (r<=s.2)
def mF(r:Int):Bool:=decide (r=9)||decide (r=10)||decide (r=13)||decide (r=32)
def qd:List (Int×Int):=[(0x20,0xd7ff),(0xe000,0xfffd),(0x10000,0x10ffff)]
def oQ:List (Int×Int):=[(65,90),(97,122),(95,95),(0xc0,0xd6),(0xd8,0xf6),(0xf8,0x2ff),(0x370,0x37d),(0x37f,0x1fff),(0x200c,0x200d),(0x2070,0x218f),(0x2c00,0x2fef),(0x3001,0xd7ff),(0xf900,0xfdcf),(0xfdf0,0xfffd),(0x10000,0xeffff)]
def qF:List (Int×Int):=[(45,46),(48,57),(0xb7,0xb7),(0x300,0x36f),(0x203f,0x2040)]
def kD(r:Int):Bool:=mF r||inSpans r qd
def fH(r:Int):Bool:=inSpans r oQ
def je(r:Int):Bool:=fH r||inSpans r qF
def qV(v:Int)(tails:Int):Int×Int:=
 (IntKind.wrap .i32 (v*2 ^ min (6*tails).toNat 32),Go.bits .or .i32 (IntKind.wrap .i32 (v*2 ^ min (6*tails).toNat 32)) (IntKind.wrap .i32 (IntKind.wrap .i32 (1*2 ^ min (6*tails).toNat 32)-1)))
def aL(s:ByteArray)(at_ n:Nat):Nat->Int->Nat->Int×Nat
 |0,v,h=>(v,h)
 |k+1,v,h=>
  if at_+h<s.size/\Go.bits .and .u8 (A3 s (at_+h)) 192=128 then
   aL s at_ n k (Go.bits .or .i32 (IntKind.wrap .i32 (v*2 ^ min (Int.toNat 6) 32)) (IntKind.wrap .i32 (Go.bits .and .u8 (A3 s (at_+h)) 63))) (h+1)
  else(v,h)
def sX(s:ByteArray)(at_ n:Nat)(least v:Int)(h:Nat):Int×Int×Int:=
 if(qV v (n+1-h)).2<least\/1114111<(qV v (n+1-h)).1\/(55296<=(qV v (n+1-h)).1/\(qV v (n+1-h)).2<=57343) then(0,0,2)
 else if h=n+1 then(v,h,0) else if at_+h=s.size then(0,0,7) else(0,0,2)
def ai:Nat->Int×Int×Int
 |0=>(128,0,0)
 |1=>(224,192,128)
 |2=>(240,224,2048)
 |_=>(248,240,65536)
def W8(s:ByteArray)(at_:Nat):Nat->Nat->Int×Int×Int
 |0,_=>(0,0,2)
 |k+1,i=>
  if Go.bits .and .u8 (A3 s at_) (ai i).1=(ai i).2.1 then
   sX s at_ i (ai i).2.2 (aL s at_ i i (IntKind.wrap .i32 (Go.bits .andNot .u8 (A3 s at_) (ai i).1)) 1).1 (aL s at_ i i (IntKind.wrap .i32 (Go.bits .andNot .u8 (A3 s at_) (ai i).1)) 1).2
  else W8 s at_ k (i+1)
def dr(s:ByteArray)(at_:Nat):Int×Int×Int:=if at_<s.size then W8 s at_ 4 0 else(0,0,7)
theorem FZ(s:ByteArray)(u n:Nat):∀k v h,u+h<=s.size->h<=(aL s u n k v h).2/\u+(aL s u n k v h).2<=s.size:=by
 intro k;induction k with
 |zero=>intro v h y;exact⟨lR,y⟩
 |succ k z=>
  intro v h y;rw[aL];split
  .rename_i c;have:=z (Go.bits .or .i32 (IntKind.wrap .i32 (v*2 ^ min (Int.toNat 6) 32)) (IntKind.wrap .i32 (Go.bits .and .u8 (A3 s (u+h)) 63))) (h+1) oM;exact⟨oM,this.2⟩
  .exact⟨lR,y⟩
theorem FY(s:ByteArray)(u:Nat)(D:u<s.size):∀k i,(W8 s u k i).2.2=0->∃h:Nat,(W8 s u k i).2.1=h/\1<=h/\u+h<=s.size:=by
 intro k;induction k with
 |zero=>intro i h;exact absurd h (by simp [W8])
 |succ k z=>
  intro i h;rw[W8]at h ⊢;split at h
  .rename_i c;rw[if_pos c];have y:=FZ s u i i (IntKind.wrap .i32 (Go.bits .andNot .u8 (A3 s u) (ai i).1)) 1 oM;rw[sX]at h ⊢;split at h
   .exact absurd h sM
   .rename_i c1;rw[if_neg c1];split at h
    .rename_i c2;rw[if_pos c2];exact⟨_,rfl,y.1,y.2⟩
    .split at h<;>exact absurd h sM
  .rename_i c;rw[if_neg c];exact z (i+1) h
theorem Ga(s:ByteArray)(u:Nat)(h:(dr s u).2.2=0):∃n:Nat,(dr s u).2.1=n/\1<=n/\u+n<=s.size:=by
 rw[dr]at h ⊢;split at h
 .rename_i c;rw[if_pos c];exact FY s u c _ _ h
 .exact absurd h sM
def CI(s:ByteArray)(at_:Nat):Int:=
 if h:at_<s.size then
  if h2:(dr s at_).2.2=0 then CI s (at_+(dr s at_).2.1.toNat) else(dr s at_).2.2
 else 0
termination_by s.size-at_
decreasing_by
 obtain⟨n,h3,h4,h5⟩:=Ga s at_ h2;rw[h3];simp only[Int.toNat_natCast];omega
def Du(f:Int->Bool)(s:ByteArray)(at_:Nat):Bool:=
 if h:at_<s.size then if f (Utf8.decode s at_).1 then Du f s (at_+(Utf8.decode s at_).2) else false else true
termination_by s.size-at_
decreasing_by have:=Y3 s at_;omega
def aW(s:ByteArray):Bool:=decide (CI s 0=0)&&Du kD s 0
def od(s:ByteArray)(at_:Nat):Bool:=
 if h:at_<s.size then if(decide (at_=0)&& !fH (Utf8.decode s at_).1)|| !je (Utf8.decode s at_).1 then false else od s (at_+(Utf8.decode s at_).2) else true
termination_by s.size-at_
decreasing_by have:=Y3 s at_;omega
def iR(s:ByteArray):Bool:=od s 0&& !decide (s=eB)
def yS:ByteArray:=⟨#[104,116,116,112,58,47,47,119,119,119,46,119,51,46,111,114,103,47,50,48,48,48,47,120,109,108,110,115,47]⟩
def iQ(space loc:ByteArray):Bool:=iR loc&&aW loc&&aW space&& !decide (space=yS)
structure AtD where
 space:ByteArray
 loc:ByteArray
 val:ByteArray
def AtR(cs:LV)(a:AtD):Prop:=cs=[.string a.space,.string a.loc,.string a.val]/\a.space.size<=1048576/\a.loc.size<=1048576/\a.val.size<=1048576
def aGo:List (ByteArray×ByteArray)->List AtD->Bool
 |_,[]=>true
 |seen,a::r=>if zO (a.space,a.loc) seen|| !iQ a.space a.loc|| !aW a.val then false else aGo (seen++[(a.space,a.loc)]) r
def gH(l:List AtD):Bool:=aGo [] l&&decide (l.length<=32)
structure EvD where
 kind:Int
 space:ByteArray
 loc:ByteArray
 attrs:List AtD
 text:ByteArray
def EvR(H:d8)(lo:Nat)(cs:LV)(e:EvD):Prop:=
 ∃v,cs=[iV e.kind,.string e.space,.string e.loc,v,.string e.text]/\SlI H lo 3 AtR v e.attrs/\e.space.size<=1048576/\e.loc.size<=1048576/\e.text.size<=1048576/\e.attrs.length<=1048576
theorem EvR.mono{H H':d8}{lo u:Nat}(I:∀j,j<lo->H'.get j=H.get j) (y:lo<=u) {cs:LV} {e:EvD} (h:EvR H lo cs e):EvR H' u cs e:=by
 obtain⟨v,z,D,E⟩:=h;exact⟨v,z,D.mono I y iF,E⟩
def gI(e:EvD):Bool:=
 if e.kind=1 then decide (e.text= .empty)&&iQ e.space e.loc&&gH e.attrs
 else if e.kind=2 then !decide (e.text= .empty)&&aW e.text&&(decide (e.space= .empty)&&decide (e.loc= .empty))&&decide (e.attrs.length=0)
 else if e.kind=3 then decide (e.text= .empty)&&(decide (e.space= .empty)&&decide (e.loc= .empty))&&decide (e.attrs.length=0)
 else false
abbrev qY(H:d8)(lo:Nat)(v:Value)(l:List EvD):Prop:=SlI H lo 5 (EvR H lo) v l
theorem qY.mono{H H':d8}{lo y:Nat}{v:Value}{l:List EvD}(h:qY H lo v l)(z:∀j,j<lo->H'.get j=H.get j) (u:lo<=y):qY H' y v l:=
 SlI.mono h z u fun _ _ q=>q.mono z u
theorem DS{H:d8}{lo:Nat}{v:Value}{l:List EvD}(U:qY H lo v l){i:Nat}{h:EvD}(O:l[i]?=some h):
  ∃b o c cs own z D,v= .slice (some ⟨b,o,none⟩) l.length c/\b<lo/\H.get b=some (.cells cs own 5)/\o+i*5+5<=cs.length/\
   (cs.drop (o+i*5)).take 5=[iV h.kind,.string h.space,.string h.loc,.slice z h.attrs.length D,.string h.text]/\
   SlI H lo 3 AtR (.slice z h.attrs.length D) h.attrs/\h.space.size<=1048576/\h.loc.size<=1048576/\h.text.size<=1048576/\h.attrs.length<=1048576:=by
 obtain⟨b,o,c,cs,own,J,y,S,E,X,I,u,W⟩:=U.at_ O;obtain⟨z,D,rfl⟩:=u.slice;exact⟨b,o,c,cs,own,z,D,J,y,S,E,I,u,W⟩
theorem S6{α:Type}{l:List α}{i:Nat}(h:i<l.length):∃a,l[i]?=some a/\l.drop i=a::l.drop (i+1):=
 ⟨l[i],List.getElem?_eq_getElem h,List.drop_eq_getElem_cons h⟩
inductive Q where
 |mk (op:Int) (sp lc vl:ByteArray) (a b:List Q)
namespace Q
def op:Q->Int| .mk o _ _ _ _ _=>o
def sp:Q->ByteArray| .mk _ s _ _ _ _=>s
def lc:Q->ByteArray| .mk _ _ c _ _ _=>c
def vl:Q->ByteArray| .mk _ _ _ v _ _=>v
def a:Q->List Q| .mk _ _ _ _ a _=>a
def b:Q->List Q| .mk _ _ _ _ _ b=>b
end Q
def qSz(f:Bool):Nat:=if f then 6 else 3
def QR(H:d8)(lo:Nat):Nat->Bool->LV->Q->Prop
 |0,_,_,_=>False
 |k+1,f,cs,q=>∃v w,cs=(if f then [iV q.op,.string q.sp,.string q.lc,.string q.vl,v,w] else [iV q.op,v,w])/\
   SlI H lo (qSz f) (QR H lo k f) v q.a/\SlI H lo (qSz !f) (QR H lo k !f) w q.b/\q.a.length<=1048576/\q.b.length<=1048576/\q.sp.size<=1048576/\q.lc.size<=1048576/\q.vl.size<=1048576/\(f=false->q.sp=eB/\q.lc=eB/\q.vl=eB)
theorem QR.mono{H H':d8}{lo y:Nat}(z:∀j,j<lo->H'.get j=H.get j) (u:lo<=y):∀{k:Nat}{f:Bool}{cs:LV}{q:Q},QR H lo k f cs q->QR H' y k f cs q:=by
 intro k;induction k with
 |zero=>intro f cs q h;exact h.elim
 |succ k D=>
  intro f cs q h;obtain⟨v,w,E,I,J,O⟩:=h;exact⟨v,w,E,I.mono z u (fun _ _ h=>D h),J.mono z u (fun _ _ h=>D h),O⟩
theorem QR.len{H:d8}{lo k:Nat}{f:Bool}{cs:LV}{q:Q}(h:QR H lo k f cs q):cs.length=qSz f:=by
 cases k with
 |zero=>exact h.elim
 |succ k=>obtain⟨v,w,rfl,_⟩:=h;cases f<;>rfl
theorem QR.stay{H H':d8}{lo:Nat}(u:i6 lo H H'){k:Nat}{f:Bool}{cs:LV}{q:Q}(h:QR H lo k f cs q):QR H' lo k f cs q:=h.mono (fun j y=>u.get j y) lR
theorem QR.plain{H:d8}{lo k:Nat}{f:Bool}{cs:LV}{q:Q}(h:QR H lo k f cs q)(y:f=false):q.sp=eB/\q.lc=eB/\q.vl=eB:=by
 cases k with
 |zero=>exact h.elim
 |succ k=>obtain⟨v,w,z,D,E,I,J,O,S,U,u⟩:=h;exact u y
abbrev QsR(H:d8)(lo k:Nat)(f:Bool)(v:Value)(l:List Q):Prop:=SlI H lo (qSz f) (QR H lo k f) v l
theorem QsR.mono{H H':d8}{lo y k:Nat}{f:Bool}{v:Value}{l:List Q}(h:QsR H lo k f v l)(z:∀j,j<lo->H'.get j=H.get j) (u:lo<=y):QsR H' y k f v l:=SlI.mono h z u (fun _ _ h=>h.mono z u)
theorem QR.path{H:d8}{lo k:Nat}{cs:LV}{q:Q}(h:QR H lo (k+1) false cs q):∃z y D u,cs=[iV q.op,.slice z q.a.length y,.slice D q.b.length u]/\QsR H lo k false (.slice z q.a.length y) q.a/\QsR H lo k true (.slice D q.b.length u) q.b/\q.a.length<=1048576/\q.b.length<=1048576:=by
 obtain⟨v,w,J,E,I,O,S,_⟩:=h;obtain⟨z,y,rfl⟩:=E.slice;obtain⟨D,u,rfl⟩:=I.slice;exact⟨z,y,D,u,J,E,I,O,S⟩
theorem QR.filter{H:d8}{lo k:Nat}{cs:LV}{q:Q}(h:QR H lo (k+1) true cs q):∃z y D u,cs=[iV q.op,.string q.sp,.string q.lc,.string q.vl,.slice z q.a.length y,.slice D q.b.length u]/\QsR H lo k true (.slice z q.a.length y) q.a/\QsR H lo k false (.slice D q.b.length u) q.b/\q.a.length<=1048576/\q.b.length<=1048576/\q.sp.size<=1048576/\q.lc.size<=1048576/\q.vl.size<=1048576:=by
 obtain⟨v,w,J,E,I,O,S,U,W,X,_⟩:=h;obtain⟨z,y,rfl⟩:=E.slice;obtain⟨D,u,rfl⟩:=I.slice;exact⟨z,y,D,u,J,E,I,O,S,U,W,X⟩
theorem QsR.row{H:d8}{lo k:Nat}{f:Bool}{y:Option Addr}{n z:Nat}{l:List Q}(h:QsR H lo k f (.slice y n z) l){i:Nat}(O:i<l.length):
  ∃x b o cs own el,l[i]?=some x/\l.drop i=x::l.drop (i+1)/\y=some ⟨b,o,none⟩/\b<lo/\H.get b=some (.cells cs own (qSz f))/\o+i*qSz f+qSz f<=cs.length/\ldC (some true) (some (qSz f)) (o+i*qSz f) cs=some (.agg el.toArray)/\QR H lo k f el x:=by
 obtain⟨x,D,I⟩:=S6 (l:=l) (i:=i) O;obtain⟨b,o,c,cs,own,U,E,J,u,S⟩:=h.at_ D;obtain⟨rfl,rfl,rfl⟩:y=some ⟨b,o,none⟩/\n=l.length/\z=c:=by simpa using U
 exact⟨x,b,o,cs,own,_,D,I,rfl,E,J,u,cq u rfl,S⟩
mutual
def szQ:Q->Int->Int
 | .mk _ _ _ _ a b,m=>szL b (szL a 1 m) m
def szL:List Q->Int->Int->Int
 |[],n,_=>n
 |x::l,n,m=>if n<=m then szL l (n+szQ x (m-n)) m else n
end
theorem FT(q:Q)(m:Int):szQ q m=szL q.b (szL q.a 1 m) m:=by cases q;rw[szQ];rfl
mutual
theorem kA:∀(q:Q)(m:Int),0<=m->1<=szQ q m/\szQ q m<=m+1
 | .mk _ _ _ _ a b,m,h=>by
  rw[szQ];have h1:=oV a 1 m oM oM h;exact oV b _ m oM oM h
theorem oV:∀(l:List Q)(n m:Int),1<=n->n<=m+1->0<=m->1<=szL l n m/\szL l n m<=m+1
 |[],n,m,h0,h1,h=>by rw[szL];omega
 |x::l,n,m,h0,h1,h=>by
  rw[szL];split
  .rename_i hnm;have h2:=kA x (m-n) oM;exact oV l _ m oM oM h
  .omega
end
theorem jP(l:List Q)(n m:Int)(h:m<n):szL l n m=n:=by cases l with|nil=>rfl|cons x l=>rw[szL,if_neg oM]
def bQ(fn:Nat)(f:Bool)(k:Nat):Prop:=∀(H:d8)(lo:Nat)(cs:LV)(q:Q)(m:Int),lo<=H.next->QR H lo k f cs q->0<=m->m<=64->CL prog t6 fn [.agg cs.toArray,iV m] H=some (.int .i64 (szQ q m),none)
theorem IQ(k:Nat)(ih:bQ 77 false k)(H0:d8)(lo:Nat)(va:Option Addr)(ca:Nat)(l:List Q)(a1:lo<=H0.next)(hv:QsR H0 lo k false (.slice va l.length ca) l)(hn:l.length<=1048576)(J:Nat)(cl:LV)(S:H0.get J=cE cl 1)(W:cl[1]?=some (.slice va l.length ca))(m:Int)(a4:0<=m)(hm:m<=64)(r:Int):
  ∀kk e H2,(∃(i:Nat)(n:Int),kk=l.length-i/\i<=l.length/\1<=n/\n<=m+1/\e.get 1=iV m/\e.get 2=pT J/\e.get 5=iV n/\e.get 6=iV i/\H2=H0/\szL (l.drop i) n m=r)->
  w7 (LE prog t6 (.loop Oa) e H2) (fun o e H2=>H2=H0/\o= .exit 0/\e.get 1=iV m/\e.get 2=pT J/\e.get 5=iV r):=by
 refine i8 _ _ ?_;rintro kk e H2 ⟨i,n,hk,hi,a5,a6,z,u,I,O,hH,y⟩;subst hH;rcases b:decide ((i:Int)<l.length)with _|_
 .have U:=dF b;have:l.drop i=[]:=dN oM;rw[this,szL]at y;refine J5 u O S W b ?_;exact i9 ⟨rfl,rfl,z,u,by rw[<-y];exact I⟩
 have U:=dT b;rcases E:decide (n<=m)with _|_
 .have D:=dF E;rw[jP _ _ _ oM]at y;refine J8 z u I O S W b E ?_;exact i9 ⟨rfl,rfl,z,u,by rw[<-y];exact I⟩
 have D:=dT E;obtain⟨x,nb,o,cs,own,el,hx,hd,rfl,a3,hg,a2,h,hr⟩:=hv.row (i:=i) oM;have nt:(i:Int).toNat=i:=tN i;have hs:=kA x (m-n) oM;rw[hd,szL,if_pos D]at y;simp only[qSz,if_true,bF]at h hg;have X:=ih H2 lo el x (m-n) a1 hr oM oM;refine J13 z u I O S W b E hg nt h @wrap_small X ?_;refine i4 (kk-1) oM ⟨i+1,n+szQ x (m-n),oM,oM,oM,oM,z,u,rfl,rfl,rfl,y⟩
theorem IR(k:Nat)(ih:bQ 99 true k)(H0:d8)(lo:Nat)(va:Option Addr)(ca:Nat)(l:List Q)(a1:lo<=H0.next)(hv:QsR H0 lo k true (.slice va l.length ca) l)(hn:l.length<=1048576)(J:Nat)(cl:LV)(S:H0.get J=cE cl 1)(W:cl[2]?=some (.slice va l.length ca))(m:Int)(a4:0<=m)(hm:m<=64)(r:Int):
  ∀kk e H2,(∃(i:Nat)(n:Int),kk=l.length-i/\i<=l.length/\1<=n/\n<=m+1/\e.get 1=iV m/\e.get 2=pT J/\e.get 5=iV n/\e.get 7=iV i/\H2=H0/\szL (l.drop i) n m=r)->
  w7 (LE prog t6 (.loop Ob) e H2) (fun o e H2=>H2=H0/\o= .exit 2/\e.get 1=iV m/\e.get 2=pT J/\e.get 5=iV r):=by
 refine i8 _ _ ?_;rintro kk e H2 ⟨i,n,hk,hi,a5,a6,z,u,I,O,hH,y⟩;subst hH;rcases b:decide ((i:Int)<l.length)with _|_
 .have U:=dF b;have:l.drop i=[]:=dN oM;rw[this,szL]at y;refine J5 u O S W b ?_;exact i9 ⟨rfl,rfl,z,u,by rw[<-y];exact I⟩
 have U:=dT b;rcases E:decide (n<=m)with _|_
 .have D:=dF E;rw[jP _ _ _ oM]at y;refine J8 z u I O S W b E ?_;exact i9 ⟨rfl,rfl,z,u,by rw[<-y];exact I⟩
 have D:=dT E;obtain⟨x,nb,o,cs,own,el,hx,hd,rfl,a3,hg,a2,h,hr⟩:=hv.row (i:=i) oM;have nt:(i:Int).toNat=i:=tN i;have hs:=kA x (m-n) oM;rw[hd,szL,if_pos D]at y;simp only[qSz,if_true,bF]at h hg;have X:=ih H2 lo el x (m-n) a1 hr oM oM;refine J13 z u I O S W b E hg nt h @wrap_small X ?_;refine i4 (kk-1) oM ⟨i+1,n+szQ x (m-n),oM,oM,oM,oM,z,u,rfl,rfl,rfl,y⟩
theorem IS(k:Nat)(ih:bQ 99 true k)(H0:d8)(lo:Nat)(va:Option Addr)(ca:Nat)(l:List Q)(a1:lo<=H0.next)(hv:QsR H0 lo k true (.slice va l.length ca) l)(hn:l.length<=1048576)(J:Nat)(cl:LV)(S:H0.get J=cE cl 1)(W:cl[4]?=some (.slice va l.length ca))(m:Int)(a4:0<=m)(hm:m<=64)(r:Int):
  ∀kk e H2,(∃(i:Nat)(n:Int),kk=l.length-i/\i<=l.length/\1<=n/\n<=m+1/\e.get 1=iV m/\e.get 2=pT J/\e.get 5=iV n/\e.get 6=iV i/\H2=H0/\szL (l.drop i) n m=r)->
  w7 (LE prog t6 (.loop Oz) e H2) (fun o e H2=>H2=H0/\o= .exit 0/\e.get 1=iV m/\e.get 2=pT J/\e.get 5=iV r):=by
 refine i8 _ _ ?_;rintro kk e H2 ⟨i,n,hk,hi,a5,a6,z,u,I,O,hH,y⟩;subst hH;rcases b:decide ((i:Int)<l.length)with _|_
 .have U:=dF b;have:l.drop i=[]:=dN oM;rw[this,szL]at y;refine J5 u O S W b ?_;exact i9 ⟨rfl,rfl,z,u,by rw[<-y];exact I⟩
 have U:=dT b;rcases E:decide (n<=m)with _|_
 .have D:=dF E;rw[jP _ _ _ oM]at y;refine J8 z u I O S W b E ?_;exact i9 ⟨rfl,rfl,z,u,by rw[<-y];exact I⟩
 have D:=dT E;obtain⟨x,nb,o,cs,own,el,hx,hd,rfl,a3,hg,a2,h,hr⟩:=hv.row (i:=i) oM;have nt:(i:Int).toNat=i:=tN i;have hs:=kA x (m-n) oM;rw[hd,szL,if_pos D]at y;simp only[qSz,if_true,bF]at h hg;have X:=ih H2 lo el x (m-n) a1 hr oM oM;refine J13 z u I O S W b E hg nt h @wrap_small X ?_;refine i4 (kk-1) oM ⟨i+1,n+szQ x (m-n),oM,oM,oM,oM,z,u,rfl,rfl,rfl,y⟩
theorem IT(k:Nat)(ih:bQ 77 false k)(H0:d8)(lo:Nat)(va:Option Addr)(ca:Nat)(l:List Q)(a1:lo<=H0.next)(hv:QsR H0 lo k false (.slice va l.length ca) l)(hn:l.length<=1048576)(J:Nat)(cl:LV)(S:H0.get J=cE cl 1)(W:cl[5]?=some (.slice va l.length ca))(m:Int)(a4:0<=m)(hm:m<=64)(r:Int):
  ∀kk e H2,(∃(i:Nat)(n:Int),kk=l.length-i/\i<=l.length/\1<=n/\n<=m+1/\e.get 1=iV m/\e.get 2=pT J/\e.get 5=iV n/\e.get 7=iV i/\H2=H0/\szL (l.drop i) n m=r)->
  w7 (LE prog t6 (.loop OA) e H2) (fun o e H2=>H2=H0/\o= .exit 2/\e.get 1=iV m/\e.get 2=pT J/\e.get 5=iV r):=by
 refine i8 _ _ ?_;rintro kk e H2 ⟨i,n,hk,hi,a5,a6,z,u,I,O,hH,y⟩;subst hH;rcases b:decide ((i:Int)<l.length)with _|_
 .have U:=dF b;have:l.drop i=[]:=dN oM;rw[this,szL]at y;refine J5 u O S W b ?_;exact i9 ⟨rfl,rfl,z,u,by rw[<-y];exact I⟩
 have U:=dT b;rcases E:decide (n<=m)with _|_
 .have D:=dF E;rw[jP _ _ _ oM]at y;refine J8 z u I O S W b E ?_;exact i9 ⟨rfl,rfl,z,u,by rw[<-y];exact I⟩
 have D:=dT E;obtain⟨x,nb,o,cs,own,el,hx,hd,rfl,a3,hg,a2,h,hr⟩:=hv.row (i:=i) oM;have nt:(i:Int).toNat=i:=tN i;have hs:=kA x (m-n) oM;rw[hd,szL,if_pos D]at y;simp only[qSz,if_true,bF]at h hg;have X:=ih H2 lo el x (m-n) a1 hr oM oM;refine J13 z u I O S W b E hg nt h @wrap_small X ?_;refine i4 (kk-1) oM ⟨i+1,n+szQ x (m-n),oM,oM,oM,oM,z,u,rfl,rfl,rfl,y⟩
theorem Mz(k:Nat)(W:bQ 77 false k)(X:bQ 99 (!false) k):bQ 77 false (k+1):=by
 intro H lo cs q m a2 hr h hm;obtain⟨va,ca,wa,u,rfl,h1,h2,h3,h4⟩:=hr.path;rw[j7 KY rfl _ sM,FT];obtain⟨D,y,-,hg,S⟩:=pushF H (bC [iV q.op,.slice va q.a.length ca,.slice wa q.b.length u] 1);have a1:H.next<=D.low:=by rw[y,l9];exact lR
 have hn:=S.next;have I:=h1.mono (H':=D) (fun j hj=>S.get j oM) lR;have J:=h2.mono (H':=D) (fun j hj=>S.get j oM) lR;have hz:=oV q.a 1 m oM oM h;refine J1 y.symm ?_;refine j8 (F:=fun z=>u5 _ _ _ (u9 (inBlock 0 z) _)=_) (IQ k W D lo va ca q.a oM I h3 H.next _ hg rfl m h hm (szL q.a 1 m) q.a.length _ _ ⟨0,1,rfl,oM,oM,oM,rfl,rfl,rfl,rfl,rfl,rfl⟩) ?_;rintro o e' H' ⟨O,U,g1,g2,E⟩;subst O;refine J1 U ?_;refine j8 (F:=fun z=>u5 _ _ _ (u9 (inBlock 2 z) _)=_) (IR k X H' lo wa u q.b oM J h4 H.next _ hg rfl m h hm (szL q.b (szL q.a 1 m) m) q.b.length _ _ ⟨0,szL q.a 1 m,rfl,oM,hz.1,hz.2,g1,g2,E,rfl,rfl,rfl⟩) ?_;rintro o e' H2 ⟨O,U,g1,g2,E⟩;exact J3 U E O trivial
theorem MA(k:Nat)(W:bQ 99 true k)(X:bQ 77 (!true) k):bQ 99 true (k+1):=by
 intro H lo cs q m a2 hr h hm;obtain⟨va,ca,wa,u,rfl,h1,h2,h3,h4,_⟩:=hr.filter;rw[j7 Lf rfl _ sM,FT];obtain⟨D,y,-,hg,S⟩:=pushF H (bC [iV q.op,.string q.sp,.string q.lc,.string q.vl,.slice va q.a.length ca,.slice wa q.b.length u] 1);have a1:H.next<=D.low:=by rw[y,l9];exact lR
 have hn:=S.next;have I:=h1.mono (H':=D) (fun j hj=>S.get j oM) lR;have J:=h2.mono (H':=D) (fun j hj=>S.get j oM) lR;have hz:=oV q.a 1 m oM oM h;refine J1 y.symm ?_;refine j8 (F:=fun z=>u5 _ _ _ (u9 (inBlock 0 z) _)=_) (IS k W D lo va ca q.a oM I h3 H.next _ hg rfl m h hm (szL q.a 1 m) q.a.length _ _ ⟨0,1,rfl,oM,oM,oM,rfl,rfl,rfl,rfl,rfl,rfl⟩) ?_;rintro o e' H' ⟨O,U,g1,g2,E⟩;subst O;refine J1 U ?_;refine j8 (F:=fun z=>u5 _ _ _ (u9 (inBlock 2 z) _)=_) (IT k X H' lo wa u q.b oM J h4 H.next _ hg rfl m h hm (szL q.b (szL q.a 1 m) m) q.b.length _ _ ⟨0,szL q.a 1 m,rfl,oM,hz.1,hz.2,g1,g2,E,rfl,rfl,rfl⟩) ?_;rintro o e' H2 ⟨O,U,g1,g2,E⟩;exact J3 U E O trivial
theorem FM:∀k,bQ 77 false k/\bQ 99 true k:=by
 intro k;induction k with
 |zero=>exact⟨fun H lo cs q m u y=>y.elim,fun H lo cs q m u y=>y.elim⟩
 |succ k h=>exact⟨Mz k h.1 h.2,MA k h.2 h.1⟩
theorem Fy(H:d8)(lo k:Nat)(cs:LV)(q:Q)(a1:lo<=H.next)(E:QR H lo k false cs q):CL prog t6 50 [.agg cs.toArray] H=some (.int .i64 (szQ q 64),none):=by
 cases k with
 |zero=>exact E.elim
 |succ k=>
 have I:=E;obtain⟨O,D,S,h,rfl,h1,h2,h3,h4⟩:=E.path;obtain⟨z,u,-,X,U⟩:=pushF H (bC [iV q.op,.slice O q.a.length D,.slice S q.b.length h] 1);have W:H.next<=z.low:=by rw[u,l9];exact lR
 have hn:=U.next;have y:ldC (some true) (some 3) 0 [iV q.op,.slice O q.a.length D,.slice S q.b.length h]=some (.agg [iV q.op,.slice O q.a.length D,.slice S q.b.length h].toArray):=rfl;have J:QR z lo (k+1) false _ q:=I.mono (fun j hj=>U.get j oM) lR;have c1:=(FM (k+1)).1 z lo _ q 64 oM J oM oM;rw[j7 QN rfl _ sM];exact J4 u.symm X y c1 trivial
theorem yA{S:List Blk}{sz:Nat}{α:Type}{R u:LV->α->Prop}{v:Value}{l:List α}(h:Sl S sz R v l)(E:∀cs a,R cs a->u cs a):SlI ⟨S,S.length⟩ S.length sz u v l:=by
 rcases h with h|⟨b,o,J,h⟩
 .exact .inl h
 .refine .inr ⟨b,o,_,J,?_⟩;rcases h with h|⟨c,y,z,D⟩
  .exact .inl h
  .exact .inr ⟨c,false,(gS y).1,y,z,fun i a I=>E _ _ (D i a I)⟩
theorem iZ(k:Nat):N2 prog k 9 (fun _ cs(s:ByteArray)=>cs=[.string s]/\s.size<=1048576):=pj Tryz.underlying9
theorem rg(k:Nat):N2 prog k 3 (fun _ cs(n:Int)=>cs=[iV n]/\(Lit.int .i64 n).wf=true):=wd Tryz.underlying3
def NmR(cs:LV)(x:ByteArray×ByteArray):Prop:=cs=[.string x.1,.string x.2]/\x.1.size<=1048576/\x.2.size<=1048576
theorem mt(k:Nat):N2 prog (k+1) 48 (fun _ cs x=>NmR cs x):=by
 have h:=X1 (P:=prog) (t:=48) Tryz.underlying48 kR (D0 (k:=1) rfl kR (iZ k) (D0 (k:=1) rfl kR (iZ k) (bL _)));refine h.map (fun x=>(x.1,x.2.1)) ?_ (fun _ _ _ _ _ h=>h);rintro S cs ⟨a,b,u⟩ ⟨c1,c2,rfl,⟨rfl,y⟩,D,E,rfl,⟨rfl,z⟩,rfl⟩;exact⟨rfl,y,z⟩
def QG(S:List Blk):Nat->Bool->LV->Q->Prop
 |0,_,_,_=>False
 |k+1,f,cs,q=>∃v w,cs=(if f then [iV q.op,.string q.sp,.string q.lc,.string q.vl,v,w] else [iV q.op,v,w])/\
   Sl S (qSz f) (QG S k f) v q.a/\Sl S (qSz !f) (QG S k !f) w q.b/\q.a.length<=1048576/\q.b.length<=1048576/\q.sp.size<=1048576/\q.lc.size<=1048576/\q.vl.size<=1048576/\(f=false->q.sp=eB/\q.lc=eB/\q.vl=eB)
theorem QG.mono{S u:List Blk}(y:Old S u):∀{k:Nat}{f:Bool}{cs:LV}{q:Q},QG S k f cs q->QG u k f cs q:=by
 intro k;induction k with
 |zero=>intro f cs q h;exact h.elim
 |succ k z=>
  intro f cs q h;obtain⟨v,w,D,E,I,J⟩:=h;exact⟨v,w,D,E.mono y (fun _ _ h=>z h),I.mono y (fun _ _ h=>z h),J⟩
theorem mu:∀k,N2 prog (2*k) 25 (fun S cs q=>QG S k false cs q)/\N2 prog (2*k) 86 (fun S cs q=>QG S k true cs q)
 |0=>⟨⟨fun _ _ _ _ D h=>h.mono D,fun _ _ _ h=>absurd h oM⟩,⟨fun _ _ _ _ D h=>h.mono D,fun _ _ _ h=>absurd h oM⟩⟩
 |k+1=>by
  obtain⟨O,U⟩:=mu k;have W:=eD (P:=prog) (t:=22) (e:=25) (sz:=3) Tryz.underlying22 kR oM O;have X:=eD (P:=prog) (t:=23) (e:=86) (sz:=6) Tryz.underlying23 kR oM U
  constructor
  .have h:=X1 (P:=prog) (t:=25) Tryz.underlying25 kR (D0 (k:=1) rfl kR (rg (2*k+1)) (D0 (k:=1) rfl kR W (D0 (k:=1) rfl kR X (bL _))));refine h.map (fun x=> .mk x.1 eB eB eB x.2.1 x.2.2.1) ?_ (fun _ _ _ _ D h=>h.mono D);rintro S cs ⟨o,a,b,u⟩ ⟨c1,c2,rfl,⟨rfl,h1⟩,c3,c4,rfl,⟨v,rfl,E,y⟩,c5,c6,rfl,⟨w,rfl,I,z⟩,rfl⟩;have J:eB.size<=1048576:=by decide
   exact⟨v,w,rfl,E,I,y,z,J,J,J,fun _=>⟨rfl,rfl,rfl⟩⟩
  .have h:=X1 (P:=prog) (t:=86) Tryz.underlying86 kR (D0 (k:=1) rfl kR (rg (2*k+1)) (D0 (k:=2) rfl kR (mt (2*k)) (D0 (k:=1) rfl kR (iZ (2*k+1)) (D0 (k:=1) rfl kR X (D0 (k:=1) rfl kR W (bL _))))));refine h.map (fun x=> .mk x.1 x.2.1.1 x.2.1.2 x.2.2.1 x.2.2.2.1 x.2.2.2.2.1) ?_ (fun _ _ _ _ D h=>h.mono D);rintro S cs ⟨o,nm,vl,a,b,u⟩ ⟨c1,c2,rfl,⟨rfl,h1⟩,c3,c4,rfl,⟨rfl,n1,n2⟩,c7,c8,rfl,⟨rfl,n3⟩,c9,a1,rfl,⟨v,rfl,E,y⟩,c5,c6,rfl,⟨w,rfl,I,z⟩,rfl⟩;exact⟨v,w,rfl,E,I,y,z,n1,n2,n3,fun h=>by cases h⟩
theorem Ru{S:List Blk}:∀{k:Nat}{f:Bool}{cs:LV}{q:Q},QG S k f cs q->QR ⟨S,S.length⟩ S.length k f cs q:=by
 intro k;induction k with
 |zero=>intro f cs q h;exact h.elim
 |succ k u=>
  intro f cs q h;obtain⟨v,w,y,z,D,E⟩:=h;exact⟨v,w,y,yA z (fun _ _ h=>u h),yA D (fun _ _ h=>u h),E⟩
end Go.Proofs.YtofbhlhamfkljaaGreatDoor.Ve
namespace Go.Proofs.YtofbhlhamfkljaaGreatDoor.card
open Go.ChangeShapes Go.WideShapes Go.ChangeAt Go.RowKit
open Go.Proofs.Tryz (prog)
open Go Ve
theorem own:ownKnob prog.godebug=none:=kR
theorem jt:laidOutB prog=true:=kR
def PT:DataW Unit->Value
 | .lit (.int k n)=> .int k n
 |_=> .nilIface
def Ka:DataW Unit->Array Value
 | .agg l=>(l.map PT).toArray
 |_=> #[]
def LD(d:DataW Unit):Obj->Obj
 | .cells _ t frozen=> .cells (Ka d) t frozen
 |o=>o
noncomputable def gO(os:Os):World:=
 {World.holding prog os ⟨#[],#[],[]⟩with heap:=(((World.holding prog os ⟨#[],#[],[]⟩).heap.modify 0 (LD Rows.laid_internal_strconv_uint64pow10)).modify 1 (LD Rows.laid_math_bits_deBruijn32tab)).modify 2 (LD Rows.laid_math_bits_deBruijn64tab)}
abbrev PR:List (String×DataW Unit):=[("math/bits.deBruijn32tab",Rows.laid_math_bits_deBruijn32tab),("math/bits.deBruijn64tab",Rows.laid_math_bits_deBruijn64tab),("internal/strconv.uint64pow10",Rows.laid_internal_strconv_uint64pow10)]
abbrev JT:Value:= .agg #[.int .i64 0,.slice none 0 0,.slice none 0 0]
theorem reads(u:Os){H:Type}(enc:TypeId×Value->H):∃h,DataW.whole enc prog ((gO u).forCall (fun _ _=>0) ⟨#[],#[JT],[]⟩).memory [25] [] false #[JT].toList 8=some ([.agg [.lit (.int .i64 0),.nil,.nil]],[],h):=
 ⟨[],kR⟩
end Go.Proofs.YtofbhlhamfkljaaGreatDoor.card
namespace Go.Proofs.YtofbhlhamfkljaaGreatDoor.Ve
open Go Go.RowKit
open Go.Proofs.Tryz (prog)
def bAt(s:ByteArray)(i:Nat):Nat:=(s.data.toList.getD i 0).toNat
theorem X6(s:ByteArray)(i:Nat):A3 s i=(bAt s i:Int):=rfl
theorem Y1(s:ByteArray)(i:Nat):bAt s i<256:=by
 have:=(s.data.toList.getD i 0).toNat_lt
 simpa [bAt] using this
theorem Et(s:ByteArray)(i:Nat)(h:i<s.size):(s.get! i).toNat=bAt s i:=by
 have u:i<s.data.toList.length:=by simpa using h
 have:s.get! i=s.data[i]!:=by cases s;rfl
 rw[this,bAt,List.getD_eq_getElem?_getD,List.getElem?_eq_getElem u,getElem!_pos _ _ (by simpa using h)];simp
def T2(s:ByteArray)(i:Nat):Bool:=decide (i<s.size)&&decide (bAt s i / 64=2)
def dec(s:ByteArray)(i:Nat):Option (Nat×Nat):=
 if bAt s i<128 then some (bAt s i,1)
 else if bAt s i / 32=6 then
  if T2 s (i+1)=true/\128<=bAt s i % 32*64+bAt s (i+1) % 64 then some (bAt s i % 32*64+bAt s (i+1) % 64,2) else none
 else if bAt s i / 16=14 then
  if T2 s (i+1)=true/\T2 s (i+2)=true/\2048<=bAt s i % 16*4096+bAt s (i+1) % 64*64+bAt s (i+2) % 64/\¬(55296<=bAt s i % 16*4096+bAt s (i+1) % 64*64+bAt s (i+2) % 64/\bAt s i % 16*4096+bAt s (i+1) % 64*64+bAt s (i+2) % 64<=57343)
   then some (bAt s i % 16*4096+bAt s (i+1) % 64*64+bAt s (i+2) % 64,3) else none
 else if bAt s i / 8=30 then
  if T2 s (i+1)=true/\T2 s (i+2)=true/\T2 s (i+3)=true/\65536<=bAt s i % 8*262144+bAt s (i+1) % 64*4096+bAt s (i+2) % 64*64+bAt s (i+3) % 64/\bAt s i % 8*262144+bAt s (i+1) % 64*4096+bAt s (i+2) % 64*64+bAt s (i+3) % 64<=1114111
   then some (bAt s i % 8*262144+bAt s (i+1) % 64*4096+bAt s (i+2) % 64*64+bAt s (i+3) % 64,4) else none
 else none
theorem I6{s:ByteArray}{i:Nat}:T2 s i=true↔i<s.size/\bAt s i / 64=2:=by simp [T2]
theorem wQ(s:ByteArray)(i:Nat)(hi:i<s.size)(c n:Nat)(h:dec s i=some (c,n)):Utf8.decode s i=(c,n):=by
 have g0:=Et s i hi;have D:∀k,T2 s (i+k)=true->(s.get! (i+k)).toNat=bAt s (i+k)/\(decide (i+k<s.size)&&(s.get! (i+k)).toNat / 64==2)=true:=by
  intro k O;rw[I6]at O;have:=Et s (i+k) O.1;refine⟨this,?_⟩;rw[this,O.2];simp [O.1]
 unfold dec at h;unfold Utf8.decode;simp only[Nat.add_zero,g0];split at h
 .rename_i W;rw[if_pos W];cases h;rfl
 .rename_i W;rw[if_neg W];split at h
  .rename_i X;split at h
   .rename_i h3;obtain⟨I,u⟩:=D 1 h3.1;have S:(bAt s i / 32==6)=true:=by simp [X]
    rw[S,u];simp only[Bool.and_self,if_true,I];rw[if_pos h3.2];cases h;rfl
   .cases h
  .rename_i X;have S:(bAt s i / 32==6)=false:=by simp [X]
   rw[S];simp only[Bool.false_and,bF];split at h
   .rename_i h4;split at h
    .rename_i J;obtain⟨I,u⟩:=D 1 J.1;obtain⟨k2,z⟩:=D 2 J.2.1;have U:(bAt s i / 16==14)=true:=by simp [h4]
     rw[U,u,z];simp only[Bool.and_self,if_true,I,k2];have hv:Utf8.valid ((bAt s i % 16*4096+bAt s (i+1) % 64*64+bAt s (i+2) % 64:Nat):Int)=true:=by
      have:=J.2.2.2;have b0:=Y1 s i;simp only[Utf8.valid,Bool.or_eq_true,Bool.and_eq_true,decide_eq_true_eq];omega
     have y:(decide (2048<=bAt s i % 16*4096+bAt s (i+1) % 64*64+bAt s (i+2) % 64)&&Utf8.valid ((bAt s i % 16*4096+bAt s (i+1) % 64*64+bAt s (i+2) % 64:Nat):Int))=true:=by rw[hv];simp [J.2.2.1]
     rw[if_pos (by simpa using y)];cases h;rfl
    .cases h
   .rename_i h4;have U:(bAt s i / 16==14)=false:=by simp [h4]
    rw[U];simp only[Bool.false_and,bF];split at h
    .rename_i h6;split at h
     .rename_i E;obtain⟨I,u⟩:=D 1 E.1;obtain⟨k2,z⟩:=D 2 E.2.1;obtain⟨k3,a1⟩:=D 3 E.2.2.1;have e6:(bAt s i / 8==30)=true:=by simp [h6]
      rw[e6,u,z,a1];simp only[Bool.and_self,if_true,I,k2,k3];have hv:Utf8.valid ((bAt s i % 8*262144+bAt s (i+1) % 64*4096+bAt s (i+2) % 64*64+bAt s (i+3) % 64:Nat):Int)=true:=by
       have:=E.2.2.2;simp only[Utf8.valid,Bool.or_eq_true,Bool.and_eq_true,decide_eq_true_eq];omega
      have y:(decide (65536<=bAt s i % 8*262144+bAt s (i+1) % 64*4096+bAt s (i+2) % 64*64+bAt s (i+3) % 64)&&Utf8.valid ((bAt s i % 8*262144+bAt s (i+1) % 64*4096+bAt s (i+2) % 64*64+bAt s (i+3) % 64:Nat):Int))=true:=by rw[hv];simp [E.2.2.2.1]
      rw[if_pos (by simpa using y)];cases h;rfl
     .cases h
    .cases h
theorem AB:∀b:Fin 256,(Go.bits .and .u8 (b.val:Int) 128=0↔b.val<128)/\(Go.bits .and .u8 (b.val:Int) 224=192↔b.val / 32=6)/\(Go.bits .and .u8 (b.val:Int) 240=224↔b.val / 16=14)/\(Go.bits .and .u8 (b.val:Int) 248=240↔b.val / 8=30):=by decide
theorem AC:∀b:Fin 256,Go.bits .andNot .u8 (b.val:Int) 128=(b.val % 128:Nat)/\Go.bits .andNot .u8 (b.val:Int) 224=(b.val % 32:Nat)/\Go.bits .andNot .u8 (b.val:Int) 240=(b.val % 16:Nat)/\Go.bits .andNot .u8 (b.val:Int) 248=(b.val % 8:Nat):=by decide
theorem AA:∀b:Fin 256,(Go.bits .and .u8 (b.val:Int) 192=128↔b.val / 64=2)/\Go.bits .and .u8 (b.val:Int) 63=(b.val % 64:Nat):=by decide
theorem du{n:Int}(h: -2147483648<=n)(u:n<=2147483647):IntKind.wrap .i32 n=n:=by
 simp [IntKind.wrap,IntKind.min,IntKind.max,IntKind.signed,IntKind.bits];omega
theorem GH(a b:Nat)(D:a<16777216)(E:b<64):Go.bits .or .i32 ((a*64:Nat):Int) (b:Int)=((a*64+b:Nat):Int):=by
 have u:(BitVec.ofInt 32 ((a*64:Nat):Int))=BitVec.ofNat 32 (a*64):=BitVec.ofInt_natCast _ _;have y:(BitVec.ofInt 32 (b:Int))=BitVec.ofNat 32 b:=BitVec.ofInt_natCast _ _;have z:(BitVec.ofNat 32 (a*64)|||BitVec.ofNat 32 b).toNat=a*64+b:=by
  rw[BitVec.toNat_or,BitVec.toNat_ofNat,BitVec.toNat_ofNat,Nat.mod_eq_of_lt oM,Nat.mod_eq_of_lt oM];have:=Nat.two_pow_add_eq_or_of_lt (i:=6) (b:=b) oM a;have h:(2:Nat) ^ 6*a=a*64:=by rw[Nat.mul_comm]
  rw[h]at this;omega
 show IntKind.wrap .i32 (((BitVec.ofInt 32 ((a*64:Nat):Int))|||(BitVec.ofInt 32 (b:Int))).toNat:Int)=_;rw[u,y,z];exact du oM oM
theorem Dm(v:Nat)(z:v<2147483648):Go.bits .or .i32 (v:Int) 0=(v:Int):=by
 have h:(BitVec.ofInt 32 (v:Int))=BitVec.ofNat 32 v:=BitVec.ofInt_natCast _ _;have u:(BitVec.ofInt 32 (0:Int))=BitVec.ofNat 32 0:=by decide
 have y:(BitVec.ofNat 32 v|||BitVec.ofNat 32 0).toNat=v:=by
  rw[BitVec.toNat_or,BitVec.toNat_ofNat,BitVec.toNat_ofNat,Nat.mod_eq_of_lt oM];simp
 show IntKind.wrap .i32 (((BitVec.ofInt 32 (v:Int))|||(BitVec.ofInt 32 (0:Int))).toNat:Int)=_;rw[h,u,y];exact du oM oM
theorem bw(s:ByteArray)(u n k v h:Nat)(I:v<16777216):aL s u n (k+1) (v:Int) h=if T2 s (u+h)=true then aL s u n k ((v*64+bAt s (u+h) % 64:Nat):Int) (h+1) else((v:Int),h):=by
 have E:=Y1 s (u+h);obtain⟨c1,c2⟩:=AA ⟨bAt s (u+h),E⟩;simp only at c1 c2;rw[aL,X6,c2];have z:IntKind.wrap .i32 ((v:Int)*2 ^ min (Int.toNat 6) 32)=((v*64:Nat):Int):=by
  have:(v:Int)*2 ^ min (Int.toNat 6) 32=((v*64:Nat):Int):=by
   rw[Int.natCast_mul];rfl
  rw[this];exact du oM oM
 have D:IntKind.wrap .i32 ((bAt s (u+h) % 64:Nat):Int)=((bAt s (u+h) % 64:Nat):Int):=du oM oM;rw[z,D,GH v _ I (Nat.mod_lt _ oM)];by_cases y:T2 s (u+h)=true
 .rw[if_pos y,if_pos];rw[I6]at y;exact⟨y.1,c1.2 y.2⟩
 .rw[if_neg y,if_neg];intro q;exact y (I6.2 ⟨q.1,c1.1 q.2⟩)
theorem Jb(v:Nat)(y:v<2147483648):qV (v:Int) 0=((v:Int),(v:Int)):=by
 have h:IntKind.wrap .i32 ((v:Int)*2 ^ min (6*(0:Int)).toNat 32)=(v:Int):=by
  have:(v:Int)*2 ^ min (6*(0:Int)).toNat 32=(v:Int):=sM;rw[this];exact du oM oM
 have u:IntKind.wrap .i32 (IntKind.wrap .i32 (1*2 ^ min (6*(0:Int)).toNat 32)-1)=0:=by decide
 rw[qV,h,u,Dm v y]
theorem gX(s:ByteArray)(u n v:Nat)(h:Int)(y:v<2147483648):sX s u n h (v:Int) (n+1)=if(v:Int)<h\/(1114111:Int)<v\/((55296:Int)<=v/\(v:Int)<=57343) then(0,0,2) else((v:Int),((n+1:Nat):Int),0):=by
 have e:((n:Int)+1-((n+1:Nat):Int))=0:=oM;rw[sX,e,Jb v y];simp only[if_true]
theorem cN(s:ByteArray)(y n h:Nat)(u v:Int)(z:h≠n+1):(sX s y n u v h).2.2≠0:=by
 rw[sX];split
 .decide
 .split<;>(try decide)
theorem Dd(s:ByteArray)(i:Nat):(Go.bits .and .u8 (A3 s i) 128=0↔bAt s i<128)/\(Go.bits .and .u8 (A3 s i) 224=192↔bAt s i / 32=6)/\(Go.bits .and .u8 (A3 s i) 240=224↔bAt s i / 16=14)/\(Go.bits .and .u8 (A3 s i) 248=240↔bAt s i / 8=30):=AB ⟨bAt s i,Y1 s i⟩
theorem Co(s:ByteArray)(i:Nat):Go.bits .andNot .u8 (A3 s i) 128=(bAt s i % 128:Nat)/\Go.bits .andNot .u8 (A3 s i) 224=(bAt s i % 32:Nat)/\Go.bits .andNot .u8 (A3 s i) 240=(bAt s i % 16:Nat)/\Go.bits .andNot .u8 (A3 s i) 248=(bAt s i % 8:Nat):=AC ⟨bAt s i,Y1 s i⟩
theorem CJ(s:ByteArray)(i:Nat)(hi:i<s.size):(∀c n,dec s i=some (c,n)->dr s i=((c:Int),(n:Int),0))/\(dec s i=none->(dr s i).2.2≠0):=by
 have hb:=Y1 s i;obtain⟨f1,f2,f3,f4⟩:=Dd s i;obtain⟨r1,r2,r3,r4⟩:=Co s i;have w:∀n:Nat,n<256->IntKind.wrap .i32 (n:Int)=(n:Int):=fun n h=>du oM oM;have S:dr s i=W8 s i 4 0:=by rw[dr,if_pos hi]
 by_cases y:bAt s i<128
 .have e:dr s i=((bAt s i:Int),1,0):=by
   rw[S,W8,ai,if_pos (f1.2 y)];simp only;rw[r1,w _ oM,aL,Nat.mod_eq_of_lt y];rw[gX s i 0 _ 0 oM,if_neg oM];rfl
  have d:dec s i=some (bAt s i,1):=by rw[dec,if_pos y]
  rw[d,e];refine⟨fun c n h=>?_,fun h=>by cases h⟩;cases h;rfl
 have U:¬Go.bits .and .u8 (A3 s i) 128=0:=fun q=>y (f1.1 q);by_cases D:bAt s i / 32=6
 .have e:dr s i=sX s i 1 128 (aL s i 1 1 ((bAt s i % 32:Nat):Int) 1).1 (aL s i 1 1 ((bAt s i % 32:Nat):Int) 1).2:=by
   rw[S,W8,ai,if_neg U,W8,ai,if_pos (f2.2 D)];simp only;rw[r2,w _ oM]
  have d:dec s i=if T2 s (i+1)=true/\128<=bAt s i % 32*64+bAt s (i+1) % 64 then some (bAt s i % 32*64+bAt s (i+1) % 64,2) else none:=by rw[dec,if_neg y,if_pos D]
  rw[bw _ _ _ _ _ _ oM]at e;by_cases z:T2 s (i+1)=true
  .rw[if_pos z,aL]at e;simp only at e;rw[gX s i 1 _ 128 oM]at e;by_cases I:128<=bAt s i % 32*64+bAt s (i+1) % 64
   .rw[if_neg oM]at e;rw[if_pos ⟨z,I⟩]at d;rw[d,e];exact⟨fun c n h=>by cases h;rfl,fun h=>by cases h⟩
   .rw[if_pos oM]at e;rw[if_neg (fun q=>I q.2)]at d;rw[d,e];exact⟨fun c n h=>(by cases h),fun _=>by decide⟩
  .rw[if_neg z]at e;rw[if_neg (fun q=>z q.1)]at d;rw[d,e];exact⟨fun c n h=>(by cases h),fun _=>cN _ _ _ _ _ _ oM⟩
 have X:¬Go.bits .and .u8 (A3 s i) 224=192:=fun q=>D (f2.1 q);by_cases E:bAt s i / 16=14
 .have e:dr s i=sX s i 2 2048 (aL s i 2 2 ((bAt s i % 16:Nat):Int) 1).1 (aL s i 2 2 ((bAt s i % 16:Nat):Int) 1).2:=by
   rw[S,W8,ai,if_neg U,W8,ai,if_neg X,W8,ai,if_pos (f3.2 E)];simp only;rw[r3,w _ oM]
  rw[bw _ _ _ _ _ _ oM]at e;by_cases z:T2 s (i+1)=true
  .rw[if_pos z,bw _ _ _ _ _ _ oM]at e;by_cases u:T2 s (i+2)=true
   .rw[if_pos u,aL]at e;simp only at e;have W:(bAt s i % 16*64+bAt s (i+1) % 64)*64+bAt s (i+1+1) % 64=bAt s i % 16*4096+bAt s (i+1) % 64*64+bAt s (i+2) % 64:=by
     show(bAt s i % 16*64+bAt s (i+1) % 64)*64+bAt s (i+2) % 64=_;omega
    rw[show i+(1+1)=i+1+1 from rfl,W,gX s i 2 _ 2048 oM]at e;by_cases I:2048<=bAt s i % 16*4096+bAt s (i+1) % 64*64+bAt s (i+2) % 64/\¬(55296<=bAt s i % 16*4096+bAt s (i+1) % 64*64+bAt s (i+2) % 64/\bAt s i % 16*4096+bAt s (i+1) % 64*64+bAt s (i+2) % 64<=57343)
    .rw[if_neg oM]at e;have d:dec s i=some (bAt s i % 16*4096+bAt s (i+1) % 64*64+bAt s (i+2) % 64,3):=by rw[dec,if_neg y,if_neg D,if_pos E,if_pos ⟨z,u,I.1,I.2⟩]
     rw[d,e];exact⟨fun c n h=>by cases h;rfl,fun h=>by cases h⟩
    .rw[if_pos oM]at e;have d:dec s i=none:=by rw[dec,if_neg y,if_neg D,if_pos E,if_neg (fun q=>I q.2.2)]
     rw[d,e];exact⟨fun c n h=>(by cases h),fun _=>by decide⟩
   .rw[if_neg u]at e;have d:dec s i=none:=by rw[dec,if_neg y,if_neg D,if_pos E,if_neg (fun q=>u q.2.1)]
    rw[d,e];exact⟨fun c n h=>(by cases h),fun _=>cN _ _ _ _ _ _ oM⟩
  .rw[if_neg z]at e;have d:dec s i=none:=by rw[dec,if_neg y,if_neg D,if_pos E,if_neg (fun q=>z q.1)]
   rw[d,e];exact⟨fun c n h=>(by cases h),fun _=>cN _ _ _ _ _ _ oM⟩
 have g3:¬Go.bits .and .u8 (A3 s i) 240=224:=fun q=>E (f3.1 q);by_cases O:bAt s i / 8=30
 .have e:dr s i=sX s i 3 65536 (aL s i 3 3 ((bAt s i % 8:Nat):Int) 1).1 (aL s i 3 3 ((bAt s i % 8:Nat):Int) 1).2:=by
   rw[S,W8,ai,if_neg U,W8,ai,if_neg X,W8,ai,if_neg g3,W8,ai,if_pos (f4.2 O)];simp only;rw[r4,w _ oM]
   all_goals (intro q;omega)
  rw[bw _ _ _ _ _ _ oM]at e;by_cases z:T2 s (i+1)=true
  .rw[if_pos z,bw _ _ _ _ _ _ oM]at e;by_cases u:T2 s (i+2)=true
   .rw[if_pos u,bw _ _ _ _ _ _ oM]at e;by_cases J:T2 s (i+3)=true
    .rw[if_pos J,aL]at e;simp only at e;have W:((bAt s i % 8*64+bAt s (i+1) % 64)*64+bAt s (i+(1+1)) % 64)*64+bAt s (i+(1+1+1)) % 64=bAt s i % 8*262144+bAt s (i+1) % 64*4096+bAt s (i+2) % 64*64+bAt s (i+3) % 64:=by
      show((bAt s i % 8*64+bAt s (i+1) % 64)*64+bAt s (i+2) % 64)*64+bAt s (i+3) % 64=_;omega
     rw[W,gX s i 3 _ 65536 oM]at e;by_cases I:65536<=bAt s i % 8*262144+bAt s (i+1) % 64*4096+bAt s (i+2) % 64*64+bAt s (i+3) % 64/\bAt s i % 8*262144+bAt s (i+1) % 64*4096+bAt s (i+2) % 64*64+bAt s (i+3) % 64<=1114111
     .rw[if_neg oM]at e;have d:dec s i=some (bAt s i % 8*262144+bAt s (i+1) % 64*4096+bAt s (i+2) % 64*64+bAt s (i+3) % 64,4):=by rw[dec,if_neg y,if_neg D,if_neg E,if_pos O,if_pos ⟨z,u,J,I.1,I.2⟩]
      rw[d,e];exact⟨fun c n h=>by cases h;rfl,fun h=>by cases h⟩
     .rw[if_pos oM]at e;have d:dec s i=none:=by rw[dec,if_neg y,if_neg D,if_neg E,if_pos O,if_neg (fun q=>I q.2.2.2)]
      rw[d,e];exact⟨fun c n h=>(by cases h),fun _=>by decide⟩
    .rw[if_neg J]at e;have d:dec s i=none:=by rw[dec,if_neg y,if_neg D,if_neg E,if_pos O,if_neg (fun q=>J q.2.2.1)]
     rw[d,e];exact⟨fun c n h=>(by cases h),fun _=>cN _ _ _ _ _ _ oM⟩
   .rw[if_neg u]at e;have d:dec s i=none:=by rw[dec,if_neg y,if_neg D,if_neg E,if_pos O,if_neg (fun q=>u q.2.1)]
    rw[d,e];exact⟨fun c n h=>(by cases h),fun _=>cN _ _ _ _ _ _ oM⟩
  .rw[if_neg z]at e;have d:dec s i=none:=by rw[dec,if_neg y,if_neg D,if_neg E,if_pos O,if_neg (fun q=>z q.1)]
   rw[d,e];exact⟨fun c n h=>(by cases h),fun _=>cN _ _ _ _ _ _ oM⟩
 have g4:¬Go.bits .and .u8 (A3 s i) 248=240:=fun q=>O (f4.1 q);have e:dr s i=(0,0,2):=by
  rw[S,W8,ai,if_neg U,W8,ai,if_neg X,W8,ai,if_neg g3,W8,ai,if_neg g4,W8]
  all_goals (intro q;omega)
 have d:dec s i=none:=by rw[dec,if_neg y,if_neg D,if_neg E,if_neg O]
 rw[d,e];exact⟨fun c n h=>(by cases h),fun _=>by decide⟩
theorem dl1{a b:Int}(h:a<b):decide (a<b)=true:=decide_eq_true h
theorem dl0{a b:Int}(h:b<=a):decide (a<b)=false:=decide_eq_false oM
theorem de1{a b:Int}(h:a<=b):decide (a<=b)=true:=decide_eq_true h
theorem de0{a b:Int}(h:b<a):decide (a<=b)=false:=decide_eq_false oM
theorem dq1{a b:Int}(h:a=b):decide (a=b)=true:=decide_eq_true h
theorem dq0{a b:Int}(h:a<b\/b<a):decide (a=b)=false:=decide_eq_false oM
theorem dlB:ly (aI (aI (aI @dl0 @dl1) (aI @dq0 @dq1)) (aI @de0 @de1)):=stOf _
theorem Ci(H:d8)(r:Int):CL prog t6 119 [iV r] H=some (.bool (mF r),none):=by
 rw[j7 OP rfl _ sM,mF];rcases h:decide (r=9)with _|_
 .rcases u:decide (r=10)with _|_
  .rcases y:decide (r=13)with _|_
   .exact J3 h u y trivial
   .exact J3 h u y trivial
  .exact J2 h u trivial
 .exact J1 h trivial
theorem vm(H:d8)(r:Int):CL prog t6 96 [iV r] H=some (.bool (kD r),none):=by
 rw[j7 Rc rfl _ sM,kD,inSpans,qd];rcases Int.lt_or_le r 32 with u|u
 .exact J3 @Ci anB dlB trivial
 have h:mF r=decide (r=32):=by
  rw[mF,dq0 oM,dq0 oM,dq0 oM];rfl
 rw[h];rcases Int.lt_or_le r 55296 with y|y
 .exact J2 anB dlB trivial
 rcases Int.lt_or_le r 57344 with z|z
 .exact J2 anB dlB trivial
 rcases Int.lt_or_le r 65534 with D|D
 .exact J2 anB dlB trivial
 rcases Int.lt_or_le r 65535 with E|E
 .exact J2 anB dlB trivial
 rcases Int.lt_or_le r 65536 with I|I
 .exact J2 anB dlB trivial
 rcases Int.lt_or_le r 1114112 with J|J
 .exact J2 anB dlB trivial
 .exact J2 anB dlB trivial
theorem G9(H:d8)(r:Int):CL prog t6 120 [iV r] H=some (.bool (fH r),none):=by
 revert r
 intro r;rw[j7 OQ rfl _ sM,fH,inSpans,oQ];rcases Int.lt_or_le r 65 with k0|k0
 .exact J2 anB dlB trivial
 rcases Int.lt_or_le r 91 with k1|k1
 .exact J2 anB dlB trivial
 clear k0;rcases Int.lt_or_le r 95 with k2|k2
 .exact J2 anB dlB trivial
 clear k1;rcases Int.lt_or_le r 96 with k3|k3
 .exact J2 anB dlB trivial
 clear k2;rcases Int.lt_or_le r 97 with k4|k4
 .exact J2 anB dlB trivial
 clear k3;rcases Int.lt_or_le r 123 with k5|k5
 .exact J2 anB dlB trivial
 clear k4;rcases Int.lt_or_le r 128 with k6|k6
 .exact J2 anB dlB trivial
 clear k5;rcases Int.lt_or_le r 192 with k7|k7
 .exact J2 anB dlB trivial
 clear k6;rcases Int.lt_or_le r 215 with k8|k8
 .exact J2 anB dlB trivial
 clear k7;rcases Int.lt_or_le r 216 with k9|k9
 .exact J2 anB dlB trivial
 clear k8;rcases Int.lt_or_le r 247 with h|h
 .exact J2 anB dlB trivial
 clear k9;rcases Int.lt_or_le r 248 with u|u
 .exact J2 anB dlB trivial
 clear h;rcases Int.lt_or_le r 768 with y|y
 .exact J2 anB dlB trivial
 clear u;rcases Int.lt_or_le r 880 with z|z
 .exact J2 anB dlB trivial
 clear y;rcases Int.lt_or_le r 894 with D|D
 .exact J2 anB dlB trivial
 clear z;rcases Int.lt_or_le r 895 with E|E
 .exact J2 anB dlB trivial
 clear D;rcases Int.lt_or_le r 8192 with I|I
 .exact J2 anB dlB trivial
 clear E;rcases Int.lt_or_le r 8204 with J|J
 .exact J2 anB dlB trivial
 clear I;rcases Int.lt_or_le r 8205 with O|O
 .exact J2 anB dlB trivial
 clear J;rcases Int.lt_or_le r 8206 with S|S
 .exact J2 anB dlB trivial
 clear O;rcases Int.lt_or_le r 8304 with U|U
 .exact J2 anB dlB trivial
 clear S;rcases Int.lt_or_le r 8592 with W|W
 .exact J2 anB dlB trivial
 clear U;rcases Int.lt_or_le r 11264 with X|X
 .exact J2 anB dlB trivial
 clear W;rcases Int.lt_or_le r 12272 with a1|a1
 .exact J2 anB dlB trivial
 clear X;rcases Int.lt_or_le r 12289 with a2|a2
 .exact J2 anB dlB trivial
 clear a1;rcases Int.lt_or_le r 55296 with a3|a3
 .exact J2 anB dlB trivial
 clear a2;rcases Int.lt_or_le r 63744 with a4|a4
 .exact J2 anB dlB trivial
 clear a3;rcases Int.lt_or_le r 64976 with a5|a5
 .exact J2 anB dlB trivial
 clear a4;rcases Int.lt_or_le r 65008 with a6|a6
 .exact J2 anB dlB trivial
 clear a5;rcases Int.lt_or_le r 65534 with a7|a7
 .exact J2 anB dlB trivial
 clear a6;rcases Int.lt_or_le r 65536 with a8|a8
 .exact J2 anB dlB trivial
 clear a7;rcases Int.lt_or_le r 983040 with a9|a9
 .exact J2 anB dlB trivial
 clear a8;exact J2 anB dlB trivial
theorem vo(H:d8)(r:Int):CL prog t6 121 [iV r] H=some (.bool (je r),none):=by
 rw[j7 OS rfl _ sM,je,inSpans,qF];rcases h:fH r with _|_
 .skip
  rcases Int.lt_or_le r 45 with z|z
  .exact J4 @G9 h anB dlB trivial
  rcases Int.lt_or_le r 46 with D|D
  .exact J4 @G9 h anB dlB trivial
  clear z;rcases Int.lt_or_le r 47 with E|E
  .exact J4 @G9 h anB dlB trivial
  clear D;rcases Int.lt_or_le r 48 with I|I
  .exact J4 @G9 h anB dlB trivial
  clear E;rcases Int.lt_or_le r 58 with J|J
  .exact J4 @G9 h anB dlB trivial
  clear I;rcases Int.lt_or_le r 183 with O|O
  .exact J4 @G9 h anB dlB trivial
  clear J;rcases Int.lt_or_le r 184 with S|S
  .exact J4 @G9 h anB dlB trivial
  clear O;rcases Int.lt_or_le r 768 with U|U
  .exact J4 @G9 h anB dlB trivial
  clear S;rcases Int.lt_or_le r 880 with W|W
  .exact J4 @G9 h anB dlB trivial
  clear U;rcases Int.lt_or_le r 8255 with X|X
  .exact J4 @G9 h anB dlB trivial
  clear W;rcases Int.lt_or_le r 8256 with u|u
  .exact J4 @G9 h anB dlB trivial
  clear X;rcases Int.lt_or_le r 8257 with y|y
  .exact J4 @G9 h anB dlB trivial
  clear u;exact J4 @G9 h anB dlB trivial
 .exact J2 @G9 h trivial
def lN(s:ByteArray)(i n:Nat):Int:=
 if n=2 then(A3 s i-192)*64+(A3 s (i+1)-128)
 else if n=3 then((A3 s i-224)*64+(A3 s (i+1)-128))*64+(A3 s (i+2)-128)
 else(((A3 s i-240)*64+(A3 s (i+1)-128))*64+(A3 s (i+2)-128))*64+(A3 s (i+3)-128)
theorem O8(s:ByteArray)(i:Nat):0<=A3 s i/\A3 s i<=255:=by rw[X6];have:=Y1 s i;omega
theorem yb(s:ByteArray)(i n:Nat): -100000000<=lN s i n/\lN s i n<=100000000:=by
 have h:=O8 s i;have u:=O8 s (i+1);have y:=O8 s (i+2);have z:=O8 s (i+3);unfold lN;split
 .omega
 .split<;>omega
theorem kx(H:d8)(s:ByteArray)(i n:Nat)(D:2<=n)(E:n<=4)(hs:i+n<=s.size)(I:s.size<=2000000):CL prog t6 139 [.string s,iV i,iV n] H=some (.int .i64 (lN s i n),none):=by
 have q0:=O8 s i;have J:=O8 s (i+1);have O:=O8 s (i+2);have S:=O8 s (i+3);have h:((i:Int)+1).toNat=i+1:=oM;have u:((i:Int)+2).toNat=i+2:=oM;have y:((i:Int)+3).toNat=i+3:=oM;have z:(i:Int)+0=i:=oM;rw[j7 Pc rfl _ sM];refine J1 @wrap_small ?_;rw[aw];refine J3 @wrap_small @dl1 z ?_;obtain rfl|rfl|rfl:n=2\/n=3\/n=4:=oM
 .refine J2 @wrap_small @Int.zero_add ?_;rw[aw];refine J2 @wrap_small h ?_;rw[aw];refine J7 @wrap_small z h u y @Int.zero_add dlB ?_;rw[lN,if_pos rfl]
 .refine J2 @wrap_small @Int.zero_add ?_;rw[aw];refine J2 @wrap_small h ?_;rw[aw];refine J2 @wrap_small u ?_;rw[aw];refine J7 @wrap_small z h u y @Int.zero_add dlB ?_;rw[lN,if_neg oM,if_pos rfl]
 .refine J2 @wrap_small @Int.zero_add ?_;rw[aw];refine J2 @wrap_small h ?_;rw[aw];refine J2 @wrap_small u ?_;rw[aw];refine J2 @wrap_small y ?_;rw[aw];refine J7 @wrap_small z h u y @Int.zero_add dlB ?_;rw[lN,if_neg oM,if_neg oM]
theorem mh{P:Program}(t:TypeId)(a b:Int)(h:0<=a)(u:0<b):F6 P .quo t (.int .i64 a) (.int .i64 b)=some (.int .i64 (IntKind.wrap .i64 (a / b))):=by
 simp only[F6,if_true];rw[if_neg oM,Int.tdiv_eq_ediv_of_nonneg h]
theorem mj{P:Program}(t:TypeId)(a b:Int)(h:0<=a)(u:0<b):F6 P .rem t (.int .i64 a) (.int .i64 b)=some (.int .i64 (a % b)):=by
 simp only[F6,if_true];rw[if_neg oM,Int.tmod_eq_emod_of_nonneg h]
theorem jS{n:Int}(h:0<=n)(u:n<=255):IntKind.wrap .u8 n=n:=by
 simp [IntKind.wrap,IntKind.min,IntKind.max,IntKind.signed,IntKind.bits];omega
def u8V(n:Int):Value:= .int .u8 n
def M8(r:Int):List Int:=
 if r<0\/1114111<r\/(55296<=r/\r<=57343) then []
 else if r<128 then [r]
 else if r<2048 then [192+r / 64,128+r % 64]
 else if r<65536 then [224+r / 4096,128+r / 64 % 64,128+r % 64]
 else [240+r / 262144,128+r / 4096 % 64,128+r / 64 % 64,128+r % 64]
theorem zL(H:d8)(r:Int):Ret (CL prog t6 140 [iV r] H) H fun w z=>cg z H.next 1 w (M8 r).length ((M8 r).map u8V)/\i6 H.next H z:=by
 have nil:∀l,l=[]->cg H H.next 1 (nS) l.length (l.map u8V):=fun l h=>by rw[h];exact .inl ⟨rfl,rfl,rfl⟩
 have y:∀cs:LV,cs.length=cs.length->∀l:List Int,l.map u8V=cs->Ret (some (Value.slice (sP H.next) cs.length cs.length,some ⟨(d8.push ⟨H.bs,H.next⟩ (bC cs 1)).bs,min H.low H.next⟩)) H fun w z=>cg z H.next 1 w l.length (l.map u8V)/\i6 H.next H z:=by
  intro cs _ l I;have E:l.length=cs.length:=by rw[<-I,List.length_map]
  refine⟨_,_,_,rfl,rfl,.inr ⟨H.next,cs.length,by rw[E],?_,lR,by rw[I,E];omega⟩,(i6.first H _).ret lR⟩;rw[I];exact j9
 rw[j7 Pd rfl _ sM];by_cases u:r<0\/1114111<r\/(55296<=r/\r<=57343)
 .have X:M8 r=[]:=by rw[M8,if_pos u]
  have D:Ret (some (nS,(none:Option d8))) H fun w z=>cg z H.next 1 w (M8 r).length ((M8 r).map u8V)/\i6 H.next H z:=⟨_,none,H,rfl,rfl,nil _ X,i6.refl _ _⟩
  rcases Int.lt_or_le r 0 with O|O
  .refine J1 @dl1 ?_;exact D
  rcases Int.lt_or_le 1114111 r with W|W
  .refine J1 dlB ?_;exact D
  .have h3:55296<=r/\r<=57343:=oM;refine J1 dlB ?_;exact D
 .have O:0<=r/\r<=1114111:=oM;rcases Int.lt_or_le r 128 with S|S
  .refine J2 @jS dlB ?_;exact y _ rfl (M8 r) (by rw[M8,if_neg u,if_pos S])
  rcases Int.lt_or_le r 2048 with U|U
  .refine J5 @jS @wrap_small @mh @mj dlB ?_;exact y _ rfl (M8 r) (by rw[M8,if_neg u,if_neg oM,if_pos U])
  rcases Int.lt_or_le r 65536 with J|J
  .rcases Int.lt_or_le r 55296 with k4|k4
   .refine J5 @jS @wrap_small @mh @mj dlB ?_;exact y _ rfl (M8 r) (by rw[M8,if_neg u,if_neg oM,if_neg oM,if_pos J])
   .have k5:57343<r:=oM;refine J5 @jS @wrap_small @mh @mj dlB ?_;exact y _ rfl (M8 r) (by rw[M8,if_neg u,if_neg oM,if_neg oM,if_pos J])
  .refine J5 @jS @wrap_small @mh @mj dlB ?_;exact y _ rfl (M8 r) (by rw[M8,if_neg u,if_neg oM,if_neg oM,if_neg oM])
def fF(s:ByteArray):Nat->List Int->Bool
 |_,[]=>true
 |k,b::r=>if A3 s k=b then fF s (k+1) r else false
def ya(s:ByteArray)(i:Nat)(b:List Int):Bool:= !decide (b=[])&&decide (i+b.length<=s.size)&&fF s i b
theorem Au(H0:d8)(lo:Nat)(s:ByteArray)(i:Nat)(l:List Int)(a:Option Addr)(c:Nat)(hv:cg H0 lo 1 (.slice a l.length c) l.length (l.map u8V))(hs:i+l.length<=s.size)(hz:s.size<=2000000)(r:Bool):
  ∀k e H2,(∃j:Nat,k=l.length-j/\j<=l.length/\e.get 0= .string s/\e.get 1=iV i/\e.get 2= .slice a l.length c/\e.get 7=iV j/\H2=H0/\fF s (i+j) (l.drop j)=r)->
  w7 (LE prog t6 (.loop KH) e H2) (fun o e H2=>H2=H0/\((o= .exit 0/\r=true)\/(o= .ret/\e.get 6= .bool false/\r=false))):=by
 refine i8 _ _ ?_;rintro k e H2 ⟨j,hk,hj,E,I,z,J,hH,h⟩;subst hH;rcases b:decide ((j:Int)<l.length)with _|_
 .have O:=dF b;have:l.drop j=[]:=dN oM;rw[this,fF]at h;refine J3 z J b ?_;exact i9 ⟨rfl,.inl ⟨rfl,h.symm⟩⟩
 .have O:=dT b;rcases hv with⟨_,h0,_⟩|⟨nb,W,X,U,_,_⟩
  .omega
  obtain⟨rfl,_⟩:a=some ⟨nb,0,none⟩/\c=W:=by simpa using X
  obtain⟨x,hx,hd⟩:=S6 (l:=l) (i:=j) oM;rw[hd,fF]at h;have nt:(j:Int).toNat=j:=tN j;have y:((i:Int)+j).toNat=i+j:=oM;have S:(l.map u8V)[j]?=some (.int .u8 x):=by rw[List.getElem?_map,hx];rfl
  rcases D:decide (A3 s (i+j)=x)with _|_
  .have u:=dF D;rw[if_neg u]at h;refine J11 E I z J b U @wrap_small y @Nat.mul_one S D ?_;exact z9 ⟨rfl,.inr ⟨rfl,rfl,h.symm⟩⟩
  .have u:=dT D;rw[if_pos u]at h;refine J11 E I z J b U @wrap_small y @Nat.mul_one S D ?_;exact i4 (k-1) oM ⟨j+1,oM,oM,E,I,z,rfl,rfl,h⟩
theorem oF(H:d8)(lo:Nat)(s:ByteArray)(i:Nat)(l:List Int)(v:Value)(J:cg H lo 1 v l.length (l.map u8V))(U:i<=2000000)(W:l.length<=2000000)(S:s.size<=2000000):CL prog t6 141 [.string s,iV i,v] H=some (.bool (ya s i l),none):=by
 obtain⟨a,c,rfl⟩:=J.slice;have e0:decide ((l.length:Int)=0)=decide (l=[]):=decide_eq_decide.2 (by rw[<-List.length_eq_zero_iff];omega);have E:decide ((s.size:Int)<(i:Int)+l.length)= !decide (i+l.length<=s.size):=by
  rw[<-decide_not];exact decide_eq_decide.2 oM
 rw[j7 Jr rfl _ sM,ya];rcases h:decide (l=[])with _|_
 .rcases u:decide (i+l.length<=s.size)with _|_
  .exact J5 e0 E h u @wrap_small trivial
  .refine J5 e0 E h u @wrap_small ?_;refine j8 (F:=fun z=>u5 _ _ _ (u9 (inBlock 0 z) _)=_) (Au ⟨H.bs,H.next⟩ lo s i l a c (J.mono lR (fun _ _=>rfl)) (dT u) S (fF s i l) l.length _ _ ⟨0,rfl,oM,rfl,rfl,rfl,rfl,rfl,rfl⟩) ?_;rintro o e' H' ⟨I,⟨y,D⟩|⟨y,O,D⟩⟩
   .exact J3 y D I trivial
   .exact J4 y O D I trivial
 .exact J2 e0 h trivial
theorem oe(b:UInt8):(⟨#[b]⟩:ByteArray).size=1:=rfl
theorem Kh(H0:d8)(s u:ByteArray)(z n h:Nat)(ht:h<=4)(r:Unit):∀k e H2,(∃lo y:ByteArray,k=h-lo.size/\lo.size<=h/\y.size=lo.size/\e.get 0= .string s/\e.get 1=iV z/\e.get 5=iV n/\e.get 6=iV h/\e.get 7= .string u/\e.get 8= .string lo/\e.get 9= .string y/\H2=H0)->
  w7 (LE prog t6 (.loop KI) e H2) (fun o e H2=>o= .exit 2/\H2=H0/\e.get 0= .string s/\e.get 1=iV z/\e.get 5=iV n/\e.get 6=iV h/\e.get 7= .string u/\∃lo y:ByteArray,lo.size=h/\y.size=h/\e.get 8= .string lo/\e.get 9= .string y):=by
 refine i8 _ _ ?_;rintro k e H2 ⟨lo,y,hk,hl,hh,O,S,U,D,W,E,X,hH⟩;rcases b:decide ((lo.size:Int)<h)with _|_
 .have I:=dF b;refine J3 D E b ?_;exact i9 ⟨rfl,hH,O,S,U,D,W,lo,y,oM,oM,E,X⟩
 .have I:=dT b;have J:=oe 128;have z2:=oe 191;refine J5 D E X b @Z3 ?_;exact i4 (k-1) oM ⟨lo++⟨#[128]⟩,y++⟨#[191]⟩,by rw[ByteArray.size_append,J];omega,by rw[ByteArray.size_append,J];omega,by rw[ByteArray.size_append,ByteArray.size_append,J,z2];omega,O,S,U,D,W,rfl,rfl,hH⟩
theorem Ki(H0:d8)(s J:ByteArray)(h n u:Nat)(va vb:Int)(hs:h+n=s.size)(hz:s.size<=1048576):∀k e H2,(∃(i:Nat)(t:Bool),k=n-i/\1<=i/\i<=n/\e.get 0= .string s/\e.get 1=iV h/\e.get 5=iV n/\e.get 6=iV u/\e.get 7= .string J/\e.get 10=iV va/\e.get 11=iV vb/\e.get 12= .bool t/\e.get 13=iV i/\H2=H0)->
  w7 (LE prog t6 (.loop KJ) e H2) (fun o e H2=>o= .exit 4/\H2=H0/\e.get 0= .string s/\e.get 1=iV h/\e.get 5=iV n/\e.get 6=iV u/\e.get 7= .string J/\e.get 10=iV va/\e.get 11=iV vb/\∃t:Bool,e.get 12= .bool t):=by
 refine i8 _ _ ?_;rintro k e H2 ⟨i,t,hk,a2,hi,O,S,I,U,W,y,z,D,E,X⟩;rcases b:decide ((i:Int)<n)with _|_
 .refine J3 I E b ?_;exact i9 ⟨rfl,X,O,S,I,U,W,y,z,t,D⟩
 .have a1:=dT b;have nt:((h:Int)+i).toNat=h+i:=oM;cases t with
  |false=>
   refine J5 I D E b @wrap_small ?_;exact i4 (k-1) oM ⟨i+1,_,oM,oM,oM,O,S,I,U,W,y,z,rfl,rfl,X⟩
  |true=>
   rcases b2:decide ((128:Int)<=A3 s (h+i))with _|_
   .refine J9 O S I D E b @wrap_small nt b2 ?_;exact i4 (k-1) oM ⟨i+1,_,oM,oM,oM,O,S,I,U,W,y,z,rfl,rfl,X⟩
   .refine J9 O S I D E b @wrap_small nt b2 ?_;exact i4 (k-1) oM ⟨i+1,_,oM,oM,oM,O,S,I,U,W,y,z,rfl,rfl,X⟩
theorem nV:∀l:List Int,((l.map u8V).mapM dd)=some (l.map fun n=>UInt8.ofNat n.toNat)
 |[]=>rfl
 |n::l=>by
  rw[List.map_cons,List.mapM_cons,nV l];rfl
theorem AN(H:d8)(lo:Nat)(l:List Int)(a:Option Addr)(c:Nat)(h:cg H lo 1 (.slice a l.length c) l.length (l.map u8V)):∃z:ByteArray,z.size=l.length/\Z4 prog H 81 9 (.slice a l.length c)=some (.string z,none):=by
 obtain⟨a',u,e,y⟩:=h.cells oM;obtain⟨rfl,rfl⟩:a=a'/\c=u:=by simpa using e
 refine⟨⟨(l.map fun n=>UInt8.ofNat n.toNat).toArray⟩,by simp [ByteArray.size],?_⟩;simp only[Z4,yR,ty9,ty5,y,Option.bind_some,nV]
theorem mM(H:d8)(z:ByteArray):Z4 prog H 9 81 (.string z)=some (sL H.next z.size (z.size+1),some (H.push (bC (z.data.toList.map S0) 1))):=by
 simp only[Z4,yR,ty9,ty5]
theorem Dt(z:ByteArray):z.data.toList.map S0=(z.data.toList.map fun b=>(b.toNat:Int)).map u8V:=by
 rw[List.map_map];rfl
theorem sH{P:Program}(t:TypeId)(a b:Int)(h:b≠0):F6 P .quo t (.int .i64 a) (.int .i64 b)=some (.int .i64 (IntKind.wrap .i64 (a.tdiv b))):=by
 simp only[F6,if_true];rw[if_neg h]
theorem Kj(H:d8)(s u:ByteArray)(E n y:Nat)(va vb:Int)(hf:u.size<=1048576):∀k e H2,(∃i:Nat,k=64-i/\i<=64/\e.get 0= .string s/\e.get 1=iV E/\e.get 5=iV n/\e.get 6=iV y/\e.get 7= .string u/\e.get 10=iV va/\e.get 11=iV vb/\e.get 15=iV i/\i6 H.next H H2/\H.next<=H2.low)->
  w7 (LE prog t6 (.loop DV) e H2) (fun o e H2=>i6 H.next H H2/\H.next<=H2.low/\((o= .exit 6/\e.get 0= .string s/\e.get 1=iV E/\e.get 5=iV n/\e.get 6=iV y)\/(o= .ret/\e.get 4= .bool true))):=by
 refine i8 _ _ ?_;rintro k e H2 ⟨i,hk,hi,f0,f1,f5,f6,f7,J,O,I,hS,hl⟩;rcases b:decide ((i:Int)<64)with _|_
 .refine J2 I b ?_;exact i9 ⟨hS,hl,.inl ⟨rfl,f0,f1,f5,f6⟩⟩
 have b5:=dT b;have a7:=hS.next;have b0:∀(r:Int),∃w h D,CL prog t6 140 [iV r] H2=dL w h/\h.getD H2=D/\cg D H2.next 1 w (M8 r).length ((M8 r).map u8V)/\i6 H2.next H2 D:=fun r=>by
  obtain⟨w,h,D,h1,h2,h3,h4⟩:=zL H2 r;exact⟨w,h,D,h1,h2,h3,h4⟩
 have body:∀(r:Int)(e':Env),e'.get 16=iV r->e'.get 0= .string s->e'.get 1=iV E->e'.get 5=iV n->e'.get 6=iV y->e'.get 7= .string u->e'.get 10=iV va->e'.get 11=iV vb->e'.get 15=iV i->
   w7 (u9 (inBlock 7 (LE prog t6 zo e' H2)) (LE prog t6 KL)) (cQ k (fun k e H2=>∃i:Nat,k=64-i/\i<=64/\e.get 0= .string s/\e.get 1=iV E/\e.get 5=iV n/\e.get 6=iV y/\e.get 7= .string u/\e.get 10=iV va/\e.get 11=iV vb/\e.get 15=iV i/\i6 H.next H H2/\H.next<=H2.low) (fun o e H2=>i6 H.next H H2/\H.next<=H2.low/\((o= .exit 6/\e.get 0= .string s/\e.get 1=iV E/\e.get 5=iV n/\e.get 6=iV y)\/(o= .ret/\e.get 4= .bool true)))):=by
  intro r e' W g0 g1 g5 g6 g7 a3 a4 a5;obtain⟨w,h,D,hc,hh,hO,S⟩:=b0 r;obtain⟨a,c,rfl⟩:=hO.slice;have X:i6 H.next H D:=hS.trans (S.weaken a7);have b4:=X.next;have a1:H.next<=D.low:=S.lowAll _ a7 hl;rcases b2:decide (((M8 r).length:Int)=y)with _|_
  .rw[zo];refine J7 g6 a5 W hc hh b2 @wrap_small ?_;exact i4 (k-1) oM ⟨i+1,oM,oM,g0,g1,g5,g6,g7,a3,a4,rfl,X,a1⟩
  .obtain⟨z,hz,a8⟩:=AN D H2.next (M8 r) a c hO;have b6:(M8 r).length<=4:=by unfold M8;split<;>(try split)<;>(try split)<;>(try split)<;>simp
   have zx:=oe 120;have a9:(u.data.toList.map fun b=>(b.toNat:Int)).length=u.size:=by rw[List.length_map,Array.length_toList];rfl
   have b1:=oF (D.push (bC (u.data.toList.map S0) 1)) D.next (z++⟨#[120]⟩) 0 (u.data.toList.map fun b=>(b.toNat:Int)) (sL D.next u.size (u.size+1)) (.inr ⟨D.next,u.size+1,by rw[a9],by rw[<-Dt];exact j9,lR,by rw[List.length_map,Nat.mul_one]⟩) oM (by rw[a9];omega) (by rw[ByteArray.size_append];omega);have U:CL prog t6 141 [.string (z++⟨#[120]⟩),iV 0,sL D.next u.size (u.size+1)] (D.push (bC (u.data.toList.map S0) 1))=_:=b1;have a6:i6 H.next H (D.push (bC (u.data.toList.map S0) 1)):=X.trans (i6.push b4);rw[zo];rcases b3:ya (z++⟨#[120]⟩) 0 (u.data.toList.map fun b=>(b.toNat:Int))with _|_
   .refine J13 g6 g7 a5 W hc hh b2 @wrap_small a8 @Z3 @mM U b3 ?_;exact i4 (k-1) oM ⟨i+1,oM,oM,g0,g1,g5,g6,g7,a3,a4,rfl,a6,a1⟩
   .refine J11 g6 g7 W hc hh b2 a8 @Z3 @mM U b3 ?_;exact z9 ⟨a6,a1,.inr ⟨rfl,rfl⟩⟩
 rcases a2:decide ((i:Int)=63)with _|_
 .refine J6 J O I b @sH a2 ?_;exact body _ _ rfl f0 f1 f5 f6 f7 J O I
 .refine J6 J O I b @sH a2 ?_;exact body _ _ rfl f0 f1 f5 f6 f7 J O I
theorem vz{P:Program}(H:d8)(t:TypeId)(s:ByteArray)(i:Nat)(u:P.underlying t=some .string)(h:i<=s.size):aH P H t (.string s) (some (.int .i64 i)) none none=some (.string (s.extract i s.size)):=by
 simp only[aH,u,bnd,Int.natCast_nonneg,if_true,Int.toNat_natCast];rw[if_pos ⟨h,lR⟩]
def DH(H:d8)(s:ByteArray)(at_ n:Nat)(k:Nat)(e:Env)(H2:d8):Prop:=
 ∃total:Nat,k=5-total/\n+1<=total/\total<=5/\e.get 0= .string s/\e.get 1=iV at_/\e.get 5=iV n/\e.get 6=iV total/\i6 H.next H H2/\H.next<=H2.low
def DJ(H:d8)(o:Out)(e:Env)(H2:d8):Prop:=H.next<=H2.low/\(o= .exit 0\/(o= .ret/\e.get 4= .bool true))
theorem tX{H:d8}{s:ByteArray}{u n k h:Nat}(U:k=5-h)(O:n+1<=h)(S:h<=4){e:Env}{H2:d8}(y:e.get 0= .string s)(z:e.get 1=iV u)(D:e.get 5=iV n)(E:e.get 6=iV h)(I:i6 H.next H H2)(J:H.next<=H2.low):
  w7 (LE prog t6 lW e H2) (cQ k (DH H s u n) (DJ H)):=by
 refine J2 E @wrap_small ?_;exact i4 (k-1) oM ⟨h+1,oM,oM,oM,y,z,D,rfl,I,J⟩
theorem AU{H:d8}{s:ByteArray}{D n k U:Nat}{va vb:Int}{a1:ByteArray}{t:Bool}(hs:D+n=s.size)(a7:1<=n)(hf:a1.size<=1048576)(hz:s.size<=1048576)(hk:k=5-U)(h1:n+1<=U)(h4:U<=4){e:Env}{H2:d8}(u:e.get 0= .string s)(y:e.get 1=iV D)(O:e.get 5=iV n)(S:e.get 6=iV U)
  (f7:e.get 7= .string a1) (E:e.get 10=iV va) (I:e.get 11=iV vb) (J:e.get 12= .bool t) (W:i6 H.next H H2) (X:H.next<=H2.low):
  w7 (u9 (inBlock 1 (LE prog t6 GY e H2)) (LE prog t6 lW)) (cQ k (DH H s D n) (DJ H)):=by
 have nt:(D:Int).toNat=D:=tN D;have h:∀e':Env,e'.get 0= .string s->e'.get 1=iV D->e'.get 5=iV n->e'.get 6=iV U->e'.get 7= .string a1->e'.get 10=iV va->e'.get 11=iV vb->e'.get 15=iV 0->
   w7 (u9 (inBlock 1 (inBlock 6 (LE prog t6 (.loop DV) e' H2))) (LE prog t6 lW)) (cQ k (DH H s D n) (DJ H)):=by
  intro e' g0 g1 g5 g6 g7 a3 a4 a5;refine cY (F:=fun z=>u9 (inBlock 1 (inBlock 6 z)) _) (Kj H s a1 D n U va vb hf 64 e' H2 ⟨0,rfl,oM,g0,g1,g5,g6,g7,a3,a4,a5,W,X⟩) ?_;rintro o e3 H3 ⟨a6,a2,⟨ho,q0,q1,q5,q6⟩|⟨ho,q4⟩⟩
  .simp only[ho,eT,if_true,fX,dM];exact tX hk h1 h4 q0 q1 q5 q6 a6 a2
  .simp only[ho,kQ,oZ,ez];exact z9 ⟨a2,.inr ⟨rfl,q4⟩⟩
 have skip:∀e':Env,e'.get 0= .string s->e'.get 1=iV D->e'.get 5=iV n->e'.get 6=iV U->w7 (LE prog t6 lW e' H2) (cQ k (DH H s D n) (DJ H)):=fun e' g0 g1 g5 g6=>tX hk h1 h4 g0 g1 g5 g6 W X;obtain rfl|rfl|rfl:U=2\/U=3\/U=4:=oM
 .cases t
  .skip
   rcases Int.lt_or_le (A3 s D) 192 with k0|k0
   .refine J7 u y S J nt @de0 @wrap_small ?_
    first|exact i4 (k-1) oM ⟨3,oM,oM,oM,u,y,O,rfl,W,X⟩|exact h _ u y O S f7 E I rfl
   rcases Int.lt_or_le (A3 s D) 224 with k1|k1
   .refine J7 u y S J nt @wrap_small dlB ?_
    first|exact i4 (k-1) oM ⟨3,oM,oM,oM,u,y,O,rfl,W,X⟩|exact h _ u y O S f7 E I rfl
   rcases Int.lt_or_le (A3 s D) 240 with k2|k2
   .refine J7 u y S J nt @wrap_small dlB ?_
    first|exact i4 (k-1) oM ⟨3,oM,oM,oM,u,y,O,rfl,W,X⟩|exact h _ u y O S f7 E I rfl
   rcases Int.lt_or_le (A3 s D) 248 with k3|k3
   .refine J7 u y S J nt @wrap_small dlB ?_
    first|exact i4 (k-1) oM ⟨3,oM,oM,oM,u,y,O,rfl,W,X⟩|exact h _ u y O S f7 E I rfl
   refine J7 u y S J nt @wrap_small dlB ?_
   first|exact i4 (k-1) oM ⟨3,oM,oM,oM,u,y,O,rfl,W,X⟩|exact h _ u y O S f7 E I rfl
  .skip
   rcases Int.lt_or_le (A3 s D) 192 with k0|k0
   .refine J7 u y S J nt @de0 @wrap_small ?_
    first|exact i4 (k-1) oM ⟨3,oM,oM,oM,u,y,O,rfl,W,X⟩|exact h _ u y O S f7 E I rfl
   rcases Int.lt_or_le (A3 s D) 224 with k1|k1
   .refine J6 u y S J nt dlB ?_
    first|exact i4 (k-1) oM ⟨3,oM,oM,oM,u,y,O,rfl,W,X⟩|exact h _ u y O S f7 E I rfl
   rcases Int.lt_or_le (A3 s D) 240 with k2|k2
   .refine J7 u y S J nt @wrap_small dlB ?_
    first|exact i4 (k-1) oM ⟨3,oM,oM,oM,u,y,O,rfl,W,X⟩|exact h _ u y O S f7 E I rfl
   rcases Int.lt_or_le (A3 s D) 248 with k3|k3
   .refine J7 u y S J nt @wrap_small dlB ?_
    first|exact i4 (k-1) oM ⟨3,oM,oM,oM,u,y,O,rfl,W,X⟩|exact h _ u y O S f7 E I rfl
   refine J7 u y S J nt @wrap_small dlB ?_
   first|exact i4 (k-1) oM ⟨3,oM,oM,oM,u,y,O,rfl,W,X⟩|exact h _ u y O S f7 E I rfl
 .cases t
  .skip
   rcases Int.lt_or_le (A3 s D) 192 with k0|k0
   .refine J7 u y S J nt @de0 @wrap_small ?_
    first|exact i4 (k-1) oM ⟨4,oM,oM,oM,u,y,O,rfl,W,X⟩|exact h _ u y O S f7 E I rfl
   rcases Int.lt_or_le (A3 s D) 224 with k1|k1
   .refine J7 u y S J nt @de0 @wrap_small ?_
    first|exact i4 (k-1) oM ⟨4,oM,oM,oM,u,y,O,rfl,W,X⟩|exact h _ u y O S f7 E I rfl
   rcases Int.lt_or_le (A3 s D) 240 with k2|k2
   .refine J7 u y S J nt @wrap_small dlB ?_
    first|exact i4 (k-1) oM ⟨4,oM,oM,oM,u,y,O,rfl,W,X⟩|exact h _ u y O S f7 E I rfl
   rcases Int.lt_or_le (A3 s D) 248 with k3|k3
   .refine J7 u y S J nt @wrap_small dlB ?_
    first|exact i4 (k-1) oM ⟨4,oM,oM,oM,u,y,O,rfl,W,X⟩|exact h _ u y O S f7 E I rfl
   refine J7 u y S J nt @wrap_small dlB ?_
   first|exact i4 (k-1) oM ⟨4,oM,oM,oM,u,y,O,rfl,W,X⟩|exact h _ u y O S f7 E I rfl
  .skip
   rcases Int.lt_or_le (A3 s D) 192 with k0|k0
   .refine J7 u y S J nt @de0 @wrap_small ?_
    first|exact i4 (k-1) oM ⟨4,oM,oM,oM,u,y,O,rfl,W,X⟩|exact h _ u y O S f7 E I rfl
   rcases Int.lt_or_le (A3 s D) 224 with k1|k1
   .refine J7 u y S J nt @de0 @wrap_small ?_
    first|exact i4 (k-1) oM ⟨4,oM,oM,oM,u,y,O,rfl,W,X⟩|exact h _ u y O S f7 E I rfl
   rcases Int.lt_or_le (A3 s D) 240 with k2|k2
   .refine J6 u y S J nt dlB ?_
    first|exact i4 (k-1) oM ⟨4,oM,oM,oM,u,y,O,rfl,W,X⟩|exact h _ u y O S f7 E I rfl
   rcases Int.lt_or_le (A3 s D) 248 with k3|k3
   .refine J7 u y S J nt @wrap_small dlB ?_
    first|exact i4 (k-1) oM ⟨4,oM,oM,oM,u,y,O,rfl,W,X⟩|exact h _ u y O S f7 E I rfl
   refine J7 u y S J nt @wrap_small dlB ?_
   first|exact i4 (k-1) oM ⟨4,oM,oM,oM,u,y,O,rfl,W,X⟩|exact h _ u y O S f7 E I rfl
 .cases t
  .skip
   rcases Int.lt_or_le (A3 s D) 192 with k0|k0
   .refine J7 u y S J nt @de0 @wrap_small ?_
    first|exact i4 (k-1) oM ⟨5,oM,oM,oM,u,y,O,rfl,W,X⟩|exact h _ u y O S f7 E I rfl
   rcases Int.lt_or_le (A3 s D) 224 with k1|k1
   .refine J7 u y S J nt @de0 @wrap_small ?_
    first|exact i4 (k-1) oM ⟨5,oM,oM,oM,u,y,O,rfl,W,X⟩|exact h _ u y O S f7 E I rfl
   rcases Int.lt_or_le (A3 s D) 240 with k2|k2
   .refine J7 u y S J nt @de0 @wrap_small ?_
    first|exact i4 (k-1) oM ⟨5,oM,oM,oM,u,y,O,rfl,W,X⟩|exact h _ u y O S f7 E I rfl
   rcases Int.lt_or_le (A3 s D) 248 with k3|k3
   .refine J7 u y S J nt @wrap_small dlB ?_
    first|exact i4 (k-1) oM ⟨5,oM,oM,oM,u,y,O,rfl,W,X⟩|exact h _ u y O S f7 E I rfl
   refine J7 u y S J nt @wrap_small dlB ?_
   first|exact i4 (k-1) oM ⟨5,oM,oM,oM,u,y,O,rfl,W,X⟩|exact h _ u y O S f7 E I rfl
  .skip
   rcases Int.lt_or_le (A3 s D) 192 with k0|k0
   .refine J7 u y S J nt @de0 @wrap_small ?_
    first|exact i4 (k-1) oM ⟨5,oM,oM,oM,u,y,O,rfl,W,X⟩|exact h _ u y O S f7 E I rfl
   rcases Int.lt_or_le (A3 s D) 224 with k1|k1
   .refine J7 u y S J nt @de0 @wrap_small ?_
    first|exact i4 (k-1) oM ⟨5,oM,oM,oM,u,y,O,rfl,W,X⟩|exact h _ u y O S f7 E I rfl
   rcases Int.lt_or_le (A3 s D) 240 with k2|k2
   .refine J7 u y S J nt @de0 @wrap_small ?_
    first|exact i4 (k-1) oM ⟨5,oM,oM,oM,u,y,O,rfl,W,X⟩|exact h _ u y O S f7 E I rfl
   rcases Int.lt_or_le (A3 s D) 248 with k3|k3
   .refine J6 u y S J nt dlB ?_
    first|exact i4 (k-1) oM ⟨5,oM,oM,oM,u,y,O,rfl,W,X⟩|exact h _ u y O S f7 E I rfl
   refine J7 u y S J nt @wrap_small dlB ?_
   first|exact i4 (k-1) oM ⟨5,oM,oM,oM,u,y,O,rfl,W,X⟩|exact h _ u y O S f7 E I rfl
theorem Ix(H:d8)(s:ByteArray)(u:Nat)(ha:u<=s.size)(hz:s.size<=1048576):∃t:Bool,CL prog t6 142 [.string s,iV u] H=some (.bool t,none):=by
 obtain⟨n,hn⟩:=eY (s.size-u);have y:(s.size:Int)-u=n:=oM;rw[j7 kN rfl _ sM];by_cases h1:n<1
 .refine J3 y @wrap_small @dl1 ?_;exact⟨_,rfl⟩
 by_cases h3:3<n
 .refine J3 y @wrap_small dlB ?_;exact⟨_,rfl⟩
 refine J3 y @wrap_small @dl0 ?_;have hx:(s.extract u s.size).size=n:=by rw[ByteArray.size_extract];omega
 have D:∀k e H2,DH H s u n k e H2->w7 (LE prog t6 (.loop KK) e H2) (DJ H):=by
  refine i8 _ _ ?_;rintro k e H2 ⟨h,hk,X,a9,f0,f1,f5,J,hS,S⟩;rcases b:decide ((h:Int)<=4)with _|_
  .refine J2 J b ?_;exact i9 ⟨S,.inl rfl⟩
  have a6:=dT b;have W:=vz (P:=prog) H2 9 s u ty9.2.2.2.2.2.2 ha;refine J5 f0 f1 J b W ?_;refine cY (F:=fun z=>u9 (inBlock 1 (u9 (inBlock 2 z) _)) _) (Kh H2 s (s.extract u s.size) u n h oM () (h-n) _ _ ⟨s.extract u s.size,s.extract u s.size,by rw[hx],oM,rfl,f0,f1,f5,J,rfl,rfl,rfl,rfl⟩) ?_;rintro o e1 H3 ⟨E,hH,g0,g1,g5,g6,g7,lo,I,a8,a7,g8,g9⟩;have v1:=kx H2 lo 0 h oM oM oM oM;have v2:=kx H2 I 0 h oM oM oM oM;have a4:CL prog t6 139 [.string lo,iV 0,iV h] H2=some (.int .i64 (lN lo 0 h),none):=v1;have a5:CL prog t6 139 [.string I,iV 0,iV h] H2=some (.int .i64 (lN I 0 h),none):=v2;refine J7 E hH g6 g8 g9 a4 a5 ?_;refine cY (F:=fun z=>u9 (inBlock 1 (u9 (inBlock 4 z) _)) _) (Ki H2 s (s.extract u s.size) u n h (lN lo 0 h) (lN I 0 h) oM hz (n-1) _ _ ⟨1,true,rfl,oM,oM,g0,g1,g5,g6,g7,rfl,rfl,rfl,rfl,rfl⟩) ?_;rintro o e2 H4 ⟨U,O,q0,q1,q5,q6,q7,a1,a2,t,a3⟩;simp only[U,O,eT,if_true,dM];exact AU oM oM oM hz hk X oM q0 q1 q5 q6 q7 a1 a2 a3 hS S
 refine j8 (F:=fun z=>∃t:Bool,u5 _ _ _ (u9 (inBlock 0 z) _)=some (.bool t,none)) (D (5-(n+1)) _ _ ⟨n+1,rfl,oM,oM,rfl,rfl,rfl,rfl,i6.start H,lR⟩) ?_;rintro o e' H' ⟨S,E|⟨E,h4⟩⟩
 .refine J1 E ?_;exact⟨_,rfl⟩
 .refine J2 E h4 ?_;exact⟨_,rfl⟩
end Go.Proofs.YtofbhlhamfkljaaGreatDoor.Ve
