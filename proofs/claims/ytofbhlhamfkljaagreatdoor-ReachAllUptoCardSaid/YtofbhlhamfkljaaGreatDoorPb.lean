/- A part of the claim: the evaluator and the contracts. Conditions: none here. -/
import Derived.Test.YtofbhlhamfkljaaGreatDoorPa
import Derived.LoopNIn
import Derived.OwnWalkIn
import Derived.RangeFuncCalls
import Derived.Scope
import Derived.LoopN
import Derived.RangeFuncSeq
import Derived.RangeFuncIn
import Derived.Test.YtofbhlhamfkljaaGreatDoorRows
import Derived.ChangeArms
import Derived.ChangeOld
import Derived.KernelRfl
import Derived.Test.YtofbhlhamfkljaaGreatDoorProg
set_option linter.unusedVariables false
set_option linter.unusedSimpArgs false
set_option linter.defProp false
set_option maxHeartbeats 0
set_option maxRecDepth 1000000
namespace Go.Proofs.YtofbhlhamfkljaaGreatDoor.Ve
open Go Go.RowKit
section
variable{P:Program}{base:Bs}{w0:World}{φ:List Loc}{S:List Blk}{w:World}{nt:Nat}{e:Env}{a:Act}
theorem bp{C:A8}(O:bP P base w0 C){ops:Array Oper}:∀{l:List Oper}{e e':Env}{H H':N7},D1 P C ops l e H=some (e',H')->Le H H':=by
 intro l;induction l with
 |nil=>intro e e' H H' h;cases h;exact Le.refl _
 |cons o l E=>
  intro e e' H H' h;simp only[D1]at h;split at h
  .cases h
  split at h
  .split at h
   .exact E h
   .rename_i v H2 D;refine Le.trans ?_ (E h);cases J:isCall o.op with
    |false=>exact kU J D
    |true=>
     obtain⟨c,f,g,first,z,_,_,_,u⟩:=Y2 J D;exact(O _ _ _ _ _ u).2.1 _ rfl
   .cases h
  .exact E h
theorem V8{C:A8}(hC:bP P base w0 C){ops:Array Oper}(b1:fw nt ops=true){Q:Exit->Act->World->Prop}:∀{l:List Oper}(hl:∀o∈l,o∈ops.toList) {φ:List Loc} {e e':Env} {H H':N7} {a:Act} {w:World},
  D1 P C ops l e H=some (e',H')->ER φ nt e a->WR base w0 φ H.bs w->hU base w0 φ H w nt a.defers e' H' (Q .normal)->wpList P ops Q l a w:=by
 intro l;induction l with
 |nil=>
  intro hl φ e e' H H' a w h hE hW hp;cases h;exact hp φ a w (Ext.refl φ) hE hW (jo H) rfl
 |cons o l ih=>
  intro hl φ e e' H H' a w h hE hW hp;obtain⟨a8,b0⟩:=Z7 b1 (hl o sM);have c0:∀o∈l,o∈ops.toList:=fun o ho=>hl o (by simp [ho]);simp only[D1]at h;split at h
  .cases h
  rename_i c4;rw[hE.wanted ops o (V6 b1) (by simpa using c4)]at h;unfold wpList;have b2:∀v,(a.put o.dst v).defers=a.defers:=fun v=>by unfold Act.put;split<;>rfl
  split at h
  .rename_i hw;rw[if_pos hw]
   left
   have E:∀(v:Value)(H2:N7)(v':Value)(w':World)(φ':List Loc),Le H H2->D1 P C ops l (I3 e o.dst v) H2=some (e',H')->Ext φ φ'->VR φ' v v'->WR base w0 φ' H2.bs w'->Fr φ H.bs H2.low w w'->
     wpList P ops Q l (a.put o.dst v') w':=by
    intro v H2 v' w' φ' b8 hr hx hv a3 a4;refine ih c0 hr ((hE.mono hx).put b0 hv) a3 ?_;intro φ2 a2 w2 b9 b3 b4 a6 b5;exact hp φ2 a2 w2 (hx.trans b9) b3 b4 (Fr.trans hx b8 (bp hC hr) hW.len a4 a6) (by rw[b5,b2])
   cases hc:isCall o.op with
   |false=>
    split at h
    .rename_i v z;obtain⟨v',hv,u⟩:=gT hW hE a8 hc z;unfold Oper.wp;rw[u w hW.cls,Oper.upon_value];exact E v H v' w φ (Le.refl H) h (Ext.refl φ) hv hW (jo H)
    .rename_i v H2 z;obtain⟨v',w',φ',u,hx,hv,a3,a4⟩:=sD hW hE a8 hc z;unfold Oper.wp;rcases u with u|⟨u,rfl⟩
     .rw[u,Oper.upon_value];exact E v H2 v' w' φ' (kU hc z) h hx hv a3 a4
     .rw[u,Oper.upon_skip];exact E v H2 undef w' φ' (kU hc z) h hx hv a3 a4
    .cases h
   |true=>
    split at h
    .rename_i v z;obtain⟨c,f,g,first,a1,ho,D,hf,U⟩:=Y2 hc z;obtain⟨a7,J,b7,O⟩:=gL hE a8 ho D hf;obtain⟨b6,_,c3,X⟩:=hC _ _ _ _ _ U;have a5:=X φ w _ O hW;unfold Oper.wp;rw[ci D (ty:=o.type) b7 b6 ho,Oper.upon_enter];simp only[Array.toArray_toList]at a5;refine a5.mono fun en w' W=>?_;obtain⟨rfl,a9⟩:=W;exact E v H v w' φ (Le.refl H) h (Ext.refl φ) (VR.na (c3 rfl)) a9.wr (fun b B l _ hB hd hl=>a9.same b B l hB hd hl)
    .rename_i v H2 z;obtain⟨c,f,g,first,a1,ho,D,hf,U⟩:=Y2 hc z;obtain⟨a7,J,b7,O⟩:=gL hE a8 ho D hf;obtain⟨b6,b8,_,X⟩:=hC _ _ _ _ _ U;have a5:=X φ w _ O hW;unfold Oper.wp;rw[ci D (ty:=o.type) b7 b6 ho,Oper.upon_enter];simp only[Array.toArray_toList]at a5;refine a5.mono fun en w' W=>?_;obtain⟨v',φ',rfl,hx,hv,a3,a4⟩:=W;exact E v H2 v' w' φ' (b8 H2 rfl) h hx hv a3 a4
    .cases h
  .rename_i hw;rw[if_neg hw];refine ih c0 h (hE.put b0 (VR.undef' φ)) hW ?_;intro φ2 a2 w2 b9 b3 b4 a6 b5;exact hp φ2 a2 w2 b9 b3 b4 a6 (by rw[b5,b2])
theorem Cls.trans{z u:World}(h:Cls base w0 φ S w z)(k:Cls base w0 φ S z u):Cls base w0 φ S w u:=
 ⟨k.wr,fun b B l p q r=>(k.same b B l p q r).trans (h.same b B l p q r)⟩
def gY(P:Program)(ops:Array Oper):List Oper->Act->(Act->Prop)->Prop
 |[],a,Q=>Q a
 |o::l,a,Q=>∃v,Yields P ops o v a/\gY P ops l (a.put o.dst v) Q
theorem fh{ops:Array Oper}{Q Q':Act->Prop}(h:∀a,Q a->Q' a):∀(l:List Oper)(a:Act),gY P ops l a Q->gY P ops l a Q'
 |[],a,hq=>h a hq
 |o::l,a,⟨v,h1,h2⟩=>⟨v,h1,fh h l _ h2⟩
theorem Iq{C:A8}{o:Oper}{H:N7}{v:Value}{r:Option N7}(X:WR base w0 φ H.bs w)(D:ER φ nt e a)(z:o.op.operands.toList.all C5=true)(O:oz o.op=true)(h:aop P C o.op e H=some (v,r)):
  ∃v',VR φ v v'/\∀E,(execOp a.eval o).run P E= .ok (.value v') E:=by
 unfold aop at h;unfold execOp;unfold oz at O;split at O<;>rename_i J<;>simp only[J]at h ⊢
 all_goals first|(cases O;done)|simp only[J,Op.operands,List.all_cons,List.all_nil,Bool.and_true,Bool.and_eq_true]at z
 .cases h;exact⟨_,D.op z,fun E=>rfl⟩
 .cases h;exact⟨_,D.op z,fun E=>rfl⟩
 .rename_i t x lo hi mx;obtain⟨h,_⟩:=D9 h;have u:C5 x=true/\lo.toList.all C5=true/\hi.toList.all C5=true/\mx.toList.all C5=true:=by
   simp only[Array.toList_append,List.all_append,Bool.and_eq_true,Option.toList_toArray,List.all_cons,List.all_nil,Bool.and_true]at z
   simpa [and_assoc] using z
  obtain⟨v',U,W⟩:=lk X h (D.op u.1) (D.opt u.2.1) (D.opt u.2.2.1) (D.opt u.2.2.2);exact⟨v',U,fun E=>by simp [W E]⟩
theorem pd{ops:Array Oper}{md:Region.Mode}{g:Nat}{Q:Exit->Act->World->Prop}{w:World}(U:Region.noSelect ops=true)(O:∀c a w,¬Q (.panic c) a w):
  ∀(l:List Oper)(k:Nat)(u:Array Bool)(a:Act),(∀j,j<l.length->l[j]?=ops[k+j]?)->Region.lexHead md ops g l.length k u=true->
   gY P ops l a (fun J=>∀z,Region.seqB md ops g (k+l.length) z=true->wpAny P md ops Q g z J w)->wpAny P md ops Q (l.length+g) u a w
 |[],k,u,a,_,hB,h=>by
  rw[List.length_nil,Nat.zero_add];exact h u (by simpa [Region.lexHead] using hB)
 |o::l,k,u,a,hl,hB,⟨v,hy,h⟩=>by
  have W:ops[k]?=some o:=by simpa using (hl 0 sM).symm
  simp only[List.length_cons,Region.lexHead,Bool.and_eq_true]at hB;obtain⟨⟨hr,X⟩,D⟩:=hB;rw[List.length_cons,show l.length+1+g=(l.length+g)+1 from oM];refine wpAny_take W U X hr (fun c a w q=>absurd q (O c _ w)) hy ?_;refine pd U O l (k+1) _ _ (fun j hj=>by have:=hl (j+1) (by simp;omega);simpa [Nat.add_assoc,Nat.add_comm 1 j] using this) D ?_;refine fh (fun J hq z E=>hq z ?_) l _ h;rw[List.length_cons,show k+(l.length+1)=k+1+l.length from oM];exact E
theorem pg{id:Nat}{Q:Exit->Act->World->Prop}{a:Act}{w:World}{l:List Oper}(n:Nat)(hm:P.follows .mixedOrders=true)(U:pureTailB l.toArray n=true)(hQ:∀c a w,¬Q (.panic c) a w)
  (h:gY P l.toArray (l.take n) a (fun a'=>wpList P l.toArray Q (l.drop n) a' {w with drawn:=w.drawn+1})):(Code.region id l.toArray true).wp P Q a w:=by
 simp only[pureTailB,Bool.and_eq_true,decide_eq_true_eq]at U;obtain⟨⟨⟨J,hn⟩,_⟩,E⟩:=U;have a1:n<l.length:=by simpa using hn
 have z:(l.take n).length=n:=by simp;omega
 have D:(l.drop n).length=l.toArray.size-n:=sM;refine wp_region_any hm ?_;have:=pd (P:=P) (md:= .any) (g:=l.toArray.size-n) (Q:=Q) (w:={w with drawn:=w.drawn+1}) J hQ (l.take n) 0 (Array.replicate l.toArray.size false) a (fun j X=>by
  have O:j<n:=by rw[z]at X;exact X
  simp [O]) (by rw[z];exact E) (by
  refine fh (fun a' hL u W=>?_) _ _ h;have:=wpAny_of_seq (md:= .any) (Q':=Q) (l.drop n) n u a' {w with drawn:=w.drawn+1} (fun j=>by simp [List.getElem?_drop]) (by rw[D];rw[Nat.zero_add,z]at W;exact W) hL
  rwa [D]at this)
 rw[z,show n+(l.toArray.size-n)=l.toArray.size from oM]at this;exact this
theorem wT{C:A8}(hC:bP P base w0 C){ops:Array Oper}(z:fw nt ops=true){H:N7}(hW:WR base w0 φ H.bs w):∀{l:List Oper}(hl:∀o∈l,o∈ops.toList) {i:Nat} {q:Bool} {e e':Env} {H':N7},
  I2 P C ops i q l e H=some (e',H')->
  (Region.lexB .any ops=true/\H'=H/\∀a,ER φ nt e a->∀Q:Act->Prop,(∀a',ER φ nt e' a'->a'.defers=a.defers->Q a')->wpQuiet P ops (Cls base w0 φ H.bs w) Q l a)\/
  (∃m e1,q=false/\zU ops (i+m)=true/\D1 P C ops (l.drop m) e1 H=some (e',H')/\
   (∀a,ER φ nt e a->(∀o∈l.take m,o.guard=none/\oz o.op=true)->∀Q:Act->Prop,(∀a1,ER φ nt e1 a1->a1.defers=a.defers->Q a1)->gY P ops (l.take m) a Q)/\
   ∀w1,Cls base w0 φ H.bs w w1->∀a,ER φ nt e a->∀Q:Act->Prop,(∀a1,ER φ nt e1 a1->a1.defers=a.defers->Q a1)->wpStill P ops w1 Q (l.take m) a):=by
 intro l;induction l with
 |nil=>
  intro hl i q e e' H' h;simp only[I2]at h;split at h
  .rename_i hB;cases h;exact .inl ⟨hB,rfl,fun a u Q O=>O a u rfl⟩
  .cases h
 |cons o l ih=>
  intro hl i q e e' H' h;obtain⟨a4,D⟩:=Z7 z (hl o sM);have b0:∀o∈l,o∈ops.toList:=fun o ho=>hl o (by simp [ho]);have c4:=h;simp only[I2]at h;split at h
  .cases h
  rename_i b5;have E:X4 ops e o=false:=by simpa using b5
  split at h
  .rename_i hw;split at h
   .rename_i v X;cases hc:isCall o.op with
    |false=>
     rw[hc,Bool.or_false]at h;rcases ih b0 h with⟨hB,hH,hq⟩|⟨m,e1,a3,hB,hr,b6,b2⟩
     .refine .inl ⟨hB,hH,fun a u Q O=>?_⟩;obtain⟨v',hv,U⟩:=gT hW u a4 hc X;unfold wpQuiet;rw[if_pos (by rw[<-u.wanted ops o (V6 z) E];exact hw)];refine⟨v',fun w1 J=>?_,hq _ (u.put D hv) Q (fun a' h1 h2=>O a' h1 (by rw[h2,P0]))⟩;unfold Oper.quietAt;rw[U w1 J];exact⟨rfl,rfl⟩
     .refine .inr ⟨m+1,e1,a3,by rw[show i+(m+1)=i+1+m from oM];exact hB,by simpa using hr,fun a u hP Q O=>?_,fun w1 J a u Q O=>?_⟩
      .have a7:=hP o sM;obtain⟨v',hv,U⟩:=Iq hW u a4 a7.2 X;simp only[List.take_succ_cons];refine⟨v',.inl ⟨by rw[<-u.wanted ops o (V6 z) E];exact hw,U⟩,?_⟩;exact b6 _ (u.put D hv) (fun o' c3=>hP o' (by simp [c3])) Q (fun a' h1 h2=>O a' h1 (by rw[h2,P0]))
      obtain⟨v',hv,U⟩:=gT hW u a4 hc X;simp only[List.take_succ_cons];unfold wpStill;rw[if_pos (by rw[<-u.wanted ops o (V6 z) E];exact hw)];unfold Oper.still;rw[U w1 J,Oper.stillUpon_value];exact b2 w1 J _ (u.put D hv) Q (fun a' h1 h2=>O a' h1 (by rw[h2,P0]))
    |true=>
     rw[hc,Bool.or_true]at h;rcases ih b0 h with⟨hB,hH,hq⟩|⟨m,e1,a3,_⟩
     .refine .inl ⟨hB,hH,fun a u Q O=>?_⟩;obtain⟨c,f,g,first,b3,ho,a5,hf,a9⟩:=Y2 hc X;obtain⟨b7,a6,b9,a8⟩:=gL u a4 ho a5 hf;obtain⟨b8,_,c0,b1⟩:=hC _ _ _ _ _ a9;unfold wpQuiet;rw[if_pos (by rw[<-u.wanted ops o (V6 z) E];exact hw)];refine⟨v,fun w1 J=>?_,hq _ (u.put D (VR.na (c0 rfl))) Q (fun a' h1 h2=>O a' h1 (by rw[h2,P0]))⟩;unfold Oper.quietAt;rw[ci a5 (ty:=o.type) b9 b8 ho];have b4:=b1 φ w1 _ a8 J.wr;simp only[Array.toArray_toList]at b4;exact⟨rfl,b4.mono fun en w2 a2=>⟨a2.1,J.trans a2.2⟩⟩
     .cases a3
   .rename_i v H2 X;split at h
    .rename_i W;simp only[Bool.and_eq_true,Bool.not_eq_true']at W;refine .inr ⟨0,e,W.1,W.2,?_,fun a u _ Q O=>O a u rfl,fun w1 _ a u Q O=>O a u rfl⟩;simp only[List.drop_zero,D1,if_neg b5,hw,if_true,X];exact h
    .cases h
   .cases h
  .rename_i hw;rcases ih b0 h with⟨hB,hH,hq⟩|⟨m,e1,a3,hB,hr,b6,b2⟩
   .refine .inl ⟨hB,hH,fun a u Q O=>?_⟩;unfold wpQuiet;rw[if_neg (by rw[<-u.wanted ops o (V6 z) E];exact hw)];exact hq _ (u.put D (VR.undef' φ)) Q (fun a' h1 h2=>O a' h1 (by rw[h2,P0]))
   .refine .inr ⟨m+1,e1,a3,by rw[show i+(m+1)=i+1+m from oM];exact hB,by simpa using hr,fun a u hP Q O=>?_,fun w1 J a u Q O=>?_⟩
    .have a7:=hP o sM;exact absurd (by simp [E0,a7.1]) hw
    simp only[List.take_succ_cons];unfold wpStill;rw[if_neg (by rw[<-u.wanted ops o (V6 z) E];exact hw)];exact b2 w1 J _ (u.put D (VR.undef' φ)) Q (fun a' h1 h2=>O a' h1 (by rw[h2,P0]))
theorem GT{C:A8}(E:bP P base w0 C){ops:Array Oper}:∀{l:List Oper}{i:Nat}{q:Bool}{e e':Env}{H H':N7},I2 P C ops i q l e H=some (e',H')->Le H H':=by
 intro l;induction l with
 |nil=>
  intro i q e e' H H' h;simp only[I2]at h;split at h
  .cases h;exact Le.refl _
  .cases h
 |cons o l O=>
  intro i q e e' H H' h;simp only[I2]at h;split at h
  .cases h
  split at h
  .split at h
   .exact O h
   .rename_i v H2 D;split at h
    .refine Le.trans ?_ (bp E h);cases J:isCall o.op with
     |false=>exact kU J D
     |true=>
      obtain⟨c,f,g,first,z,_,_,_,u⟩:=Y2 J D;exact(E _ _ _ _ _ u).2.1 _ rfl
    .cases h
   .cases h
  .exact O h
theorem wS{C:A8}(hm:P.follows .mixedOrders=true)(hC:bP P base w0 C){ops:Array Oper}(O:fw nt ops=true){Q:Exit->Act->World->Prop}{e e':Env}{H H':N7}(id:Nat)
  (h:I2 P C ops 0 false ops.toList e H=some (e',H')) (hE:ER φ nt e a) (hW:WR base w0 φ H.bs w) (hp:hU base w0 φ H w nt a.defers e' H' (Q .normal)):(Code.region id ops true).wp P Q a w:=by
 have E:Cls base w0 φ H.bs w {w with drawn:=w.drawn+1}:=hW.cls.drew;rcases wT hC O hW (fun o ho=>ho) h with⟨U,rfl,hq⟩|⟨m,e1,_,U,hr,a9,b0⟩
 .refine wp_region_quiet (C:=Cls base w0 φ H'.bs w) hm U E (hq a hE _ fun a' a8 hd w' hc=>?_);exact hp φ a' w' (Ext.refl φ) a8 hc.wr (fun b B l _ u z D=>hc.same b B l u z D) hd
 .have D:ops=ops.toList.toArray:=sM;rw[Nat.zero_add,zU,Bool.or_eq_true]at U;rcases U with U|U
  .have:=wp_region_still_tail (P:=P) (id:=id) (Q:=Q) (a:=a) (w:=w) (l:=ops.toList) m hm (by rw[<-D];exact U) (by
    rw[<-D];refine b0 _ E a hE _ fun a1 W a4=>?_;refine V8 hC O (fun o ho=>List.mem_of_mem_drop ho) hr W E.wr ?_;intro φ2 a2 w2 a6 X a3 J a5;exact hp φ2 a2 w2 a6 X a3 (fun b B l hb u z D=>(J b B l hb u z D).trans (E.same b B l u z D)) (a5.trans a4))
   rw[<-D]at this;exact this
  .have a7:∀o∈ops.toList.take m,o.guard=none/\oz o.op=true:=by
    have:=U;simp only[pureTailB,Bool.and_eq_true,List.all_eq_true]at this;intro o ho;have:=this.1.2 o ho;exact⟨by simpa using this.1,this.2⟩
   have:=pg (P:=P) (id:=id) (Q:=fun x a w=>x= .normal/\Q .normal a w) (a:=a) (w:=w) (l:=ops.toList) m hm (by rw[<-D];exact U) (fun c a w q=>by cases q.1) (by
    rw[<-D];refine a9 a hE a7 _ fun a1 W a4=>?_;refine V8 hC O (fun o ho=>List.mem_of_mem_drop ho) hr W E.wr ?_;intro φ2 a2 w2 a6 X a3 J a5;exact⟨rfl,hp φ2 a2 w2 a6 X a3 (fun b B l hb u z D=>(J b B l hb u z D).trans (E.same b B l u z D)) (a5.trans a4)⟩)
   rw[<-D]at this;exact Code.wp_mono (fun x a w q=>by obtain⟨rfl,q⟩:=q;exact q) this
theorem LG{C:A8}(E:bP P base w0 C){o:Oper}{H:N7}{v:Value}{r:Option N7}(h:aop P C o.op e H=some (v,r)):Le H (r.getD H):=by
 cases r with
 |none=>exact Le.refl _
 |some H2=>
  cases D:isCall o.op with
  |false=>exact kU D h
  |true=>
   obtain⟨c,f,g,first,z,_,_,_,u⟩:=Y2 D h;exact(E _ _ _ _ _ u).2.1 _ rfl
theorem Cr{C:A8}(J:bP P base w0 C){ops:Array Oper}:∀{l:List (Oper×Nat×Nat)}{t:Nat}{D:List (Nat×N7)}{u:List (Op×Env×Value×Nat)}{e e':Env}{H H':N7},I7 P C ops t D u l e H=some (e',H')->Le H H':=by
 intro l;induction l with
 |nil=>intro t D u e e' H H' h;simp only[I7,Option.some.injEq,Prod.mk.injEq]at h;rw[h.2];exact Le.refl _
 |cons o l z=>
  obtain⟨o,lo,O⟩:=o;intro t D u e e' H H' h;simp only[I7]at h;split at h
  .cases h
  split at h
  .split at h
   .split at h
    .rename_i v r E;split at h
     .exact(LG J E).trans (z h)
     .cases h
    .cases h
   .split at h
    .split at h
     .split at h
      .exact z h
      .cases h
     .exact z h
    .cases h
  .split at h
   .exact z h
   .exact z h
theorem DL{C:A8}(u:bP P base w0 C){ops:Array Oper}{e e':Env}{H H':N7}(h:aR P C ops e H=some (e',H')):Le H H':=by
 unfold aR at h;split at h
 .split at h
  .exact Cr u h
  .cases h
 .exact GT u h
theorem tY{C:A8}(O:P.follows .mixedOrders=true)(D:X8 P C){ops:Array Oper}(u:fw nt ops=true){Q:Exit->Act->World->Prop}{e e':Env}{H H':N7}(id:Nat)
  (h:aR P C ops e H=some (e',H')) (E:ER φ nt e a) (J:WR base w0 φ H.bs w) (U:hU base w0 φ H w nt a.defers e' H' (Q .normal)):(Code.region id ops true).wp P Q a w:=by
 unfold aR at h;split at h
 .split at h
  .rename_i z;exact BH O D u z id h E J U
  .cases h
 .exact wS O (D base w0) u id h E J U
theorem Le.kill(H:N7)(b:Nat):Le H (H.put b .dead):=Le.put _ _ _
def Dw(ops:Array Oper):List Nat->Array Bool->Prop
 |[],listed=>Region.ready .any ops listed=[]
 |i::is,listed=>Region.ready .any ops listed=[i]/\Dw ops is (listed.setIfInBounds i true)
theorem iS{ops:Array Oper}{Q:Exit->Act->World->Prop}:∀(is:List Nat)(i:Nat)(o:Oper)(z:List Oper)(u:Array Bool)(a:Act)(w:World),ops[i]?=some o->is.map (ops[·]?)=z.map some->Dw ops is u->wpList P ops Q (o::z) a w->wpOp P ops Q i (wpAny P .any ops Q is.length u) a w
 |is,i,o,z,u,a,w,ho,hos,hc,h=>by
  have key:∀a w,wpList P ops Q z a w->wpAny P .any ops Q is.length u a w:=fun a w J=>by
   cases is with
   |nil=>
    cases z with
    |nil=>exact⟨hc,J⟩
    |cons O z=>simp at hos
   |cons j is=>
    cases z with
    |nil=>simp at hos
    |cons O z=>
     simp only[List.map_cons,List.cons.injEq]at hos;refine⟨fun q=>(by rw[hc.1]at q;cases q),fun k E=>?_⟩;rw[hc.1,List.mem_singleton]at E;subst E;exact iS is k O z _ a w hos.1 hos.2 hc.2 J
  unfold wpOp;simp only[ho];unfold wpList at h;split
  .rename_i D;rw[if_pos D]at h;exact h.imp (Oper.wp_mono key) id
  .rename_i D;rw[if_neg D]at h;exact key _ _ h
theorem L0{ops:Array Oper}{l:List Bool}{u:List Nat}(h:fc ops l u=true):Region.ready .any ops l.toArray=u:=dT h
theorem wI{C:A8}(hm:P.follows .mixedOrders=true)(hC:bP P base w0 C){D W X o3:Oper}{ops:Array Oper}(E:ops.toList=[D,W,X,o3])(hB:zl ops=true)(J:fw nt ops=true){Q:Exit->Act->World->Prop}{e e1 e2:Env}{H H1 H2:N7}(id:Nat)
  (h1:D1 P C ops [D,W,X,o3] e H=some (e1,H1)) (h2:D1 P C ops [D,X,W,o3] e H=some (e2,H2)) (hE:ER φ nt e a) (hW:WR base w0 φ H.bs w)
  (b9:hU base w0 φ H w nt a.defers e1 H1 (Q .normal)) (c0:hU base w0 φ H w nt a.defers e2 H2 (Q .normal)):(Code.region id ops true).wp P Q a w:=by
 have c3:ops.size=4:=by have:=congrArg List.length E;simpa using this
 have g0:ops[0]?=some D:=by rw[<-Array.getElem?_toList,E];rfl
 have g1:ops[1]?=some W:=by rw[<-Array.getElem?_toList,E];rfl
 have g2:ops[2]?=some X:=by rw[<-Array.getElem?_toList,E];rfl
 have g3:ops[3]?=some o3:=by rw[<-Array.getElem?_toList,E];rfl
 unfold zl at hB;rw[E]at hB;simp only[Bool.and_eq_true,decide_eq_true_eq]at hB;obtain⟨⟨⟨⟨⟨⟨⟨⟨⟨⟨k0,k1⟩,k2⟩,k3⟩,hg⟩,r0⟩,r1⟩,r2⟩,r3⟩,r4⟩,r5⟩:=hB;have m0:D∈ops.toList:=by rw[E];simp
 obtain⟨b0,a8⟩:=Z7 J m0;have hc:isCall D.op=false:=by
  cases hq:D.op with
  |alloc t=>rfl
  |_=>rw[hq]at k0;cases k0
 have a5:Cls base w0 φ H.bs w {w with drawn:=w.drawn+1}:=hW.cls.drew;have b1:X4 ops e D=false:=by simp [X4,hg]
 have b2:E0 ops e D=true:=by simp [E0,hg]
 refine wp_region_any hm ?_;rw[c3];refine⟨fun q=>?_,fun i hi=>?_⟩
 .have:=L0 r0;rw[show(Array.replicate 4 false:Array Bool)=[false,false,false,false].toArray from rfl,this]at q;cases q
 rw[show(Array.replicate 4 false:Array Bool)=[false,false,false,false].toArray from rfl,L0 r0,List.mem_singleton]at hi;subst hi;rw[show((Array.replicate 4 false:Array Bool).setIfInBounds 0 true)=[true,false,false,false].toArray from rfl];simp only[D1,b1,b2,if_true,bF]at h1 h2;have rest:∀(v:Value)(Hx:N7)(v':Value)(w':World)(φ':List Loc),Le H Hx->D1 P C ops [W,X,o3] (I3 e D.dst v) Hx=some (e1,H1)->D1 P C ops [X,W,o3] (I3 e D.dst v) Hx=some (e2,H2)->Ext φ φ'->VR φ' v v'->WR base w0 φ' Hx.bs w'->Fr φ H.bs Hx.low w w'->
   wpAny P .any ops Q 3 [true,false,false,false].toArray (a.put D.dst v') w':=by
  intro v Hx v' w' φ' b8 q1 q2 hx hv U a6;have a7:=(hE.mono hx).put a8 hv;have b6:(a.put D.dst v').defers=a.defers:=P0 _ _ _;have a4:∀{e3:Env}{H3:N7}{l:List Oper},D1 P C ops l (I3 e D.dst v) Hx=some (e3,H3)->hU base w0 φ H w nt a.defers e3 H3 (Q .normal)->hU base w0 φ' Hx w' nt (a.put D.dst v').defers e3 H3 (Q .normal):=by
   intro e3 H3 l hr hp φ2 a2 w2 c4 b4 b5 a9 b7;exact hp φ2 a2 w2 (hx.trans c4) b4 b5 (Fr.trans hx b8 (bp hC hr) hW.len a6 a9) (b7.trans b6)
  have L1:=V8 hC J (Q:=Q) (l:=[W,X,o3]) (fun o ho=>by rw[E];simp only[List.mem_cons,List.not_mem_nil,or_false]at ho ⊢;exact .inr ho) q1 a7 U (a4 q1 b9);have L2:=V8 hC J (Q:=Q) (l:=[X,W,o3]) (fun o ho=>by rw[E];simp only[List.mem_cons,List.not_mem_nil,or_false]at ho ⊢;rcases ho with h|h|h<;>simp [h]) q2 a7 U (a4 q2 c0);refine⟨fun q=>(by rw[L0 r1]at q;cases q),fun i hi=>?_⟩;rw[L0 r1]at hi;simp only[List.mem_cons,List.not_mem_nil,or_false]at hi;rcases hi with rfl|rfl
  .exact iS [2,3] 1 W [X,o3] _ _ _ g1 (by simp [g2,g3]) ⟨L0 r2,L0 r4,L0 r5⟩ L1
  .exact iS [1,3] 2 X [W,o3] _ _ _ g2 (by simp [g1,g3]) ⟨L0 r3,L0 r4,L0 r5⟩ L2
 have b3:Region.wanted D (yielded ops a.tmps)=true:=by rw[<-hE.wanted ops D (V6 J) b1];exact b2
 unfold wpOp;simp only[g0,b3,if_true]
 left
 have a1:=a5.wr;cases O:aop P C D.op e H with
 |none=>rw[O]at h1;cases h1
 |some z=>
  obtain⟨v,r⟩:=z;rw[O]at h1 h2;cases r with
  |none=>
   obtain⟨v',hv,u⟩:=gT a1 hE b0 hc O;unfold Oper.wp;rw[u _ a1.cls,Oper.upon_value];exact rest v H v' _ φ (Le.refl H) h1 h2 (Ext.refl φ) hv a1 (fun b B l _ hB hd E=>a5.same b B l hB hd E)
  |some H3=>
   obtain⟨v',w',φ',u,hx,hv,U,a6⟩:=sD a1 hE b0 hc O;have a3:Fr φ H.bs H3.low w w':=fun b B l hb hB hd E=>(a6 b B l hb hB hd E).trans (a5.same b B l hB hd E);unfold Oper.wp;rcases u with u|⟨u,rfl⟩
   .rw[u,Oper.upon_value];exact rest v H3 v' w' φ' (kU hc O) h1 h2 hx hv U a3
   .rw[u,Oper.upon_skip];exact rest v H3 undef w' φ' (kU hc O) h1 h2 hx hv U a3
def Out.exit':Out->Exit
 | .normal=> .normal
 | .exit id=> .exit id
 | .ret=> .ret
theorem kH{a b:Code}{z:JL}(h:eM a b=some z):∃id ops u D E J,a= .region id ops true/\ops.toList=[u,D,E,J]/\zl ops=true/\z=⟨ops,[u,D,E,J],[u,E,D,J],ops.toList.filterMap (·.dst)++dh b⟩:=by
 unfold eM at h;split at h
 .rename_i id ops;split at h
  .rename_i u D E J U;split at h
   .rename_i O;exact⟨id,ops,u,D,E,J,rfl,U,O,(Option.some.inj h).symm⟩
   .cases h
  .cases h
 .cases h
theorem GP{a b:Code}{z:JL}(h:eM a b=some z):z.ds=dh a++dh b:=by
 obtain⟨id,ops,u,D,E,J,rfl,_,_,rfl⟩:=kH h;rfl
theorem U7{ds:List Nat}{n:Nat}{x y:Option (Out×Env×N7)}{o:Out}{e':Env}{H':N7}(h:nG ds e n x y=some (o,e',H')):
  ∃z u D H2,x=some (.normal,z,u)/\y=some (.normal,D,H2)/\N4 n u=N4 n H2/\o= .normal/\e'=ds.map (fun d=>(d,lost))++e/\H'=N4 n u:=by
 unfold nG at h;split at h
 .rename_i z u D H2;split at h
  .rename_i E;simp only[Option.some.injEq,Prod.mk.injEq]at h;exact⟨z,u,D,H2,rfl,rfl,E,h.1.symm,h.2.1.symm,h.2.2.symm⟩
  .cases h
 .cases h
theorem ju(n:Nat)(H:N7):Le H (N4 n H):=(Le.kill H n).trans (Le.kill _ _)
theorem Gd{H:N7}(h:WR base w0 φ H.bs w)(n:Nat):WR base w0 φ (N4 n H).bs w:=(h.kill n).kill (n+1)
theorem U4{e:Env}{d:Option Nat}{v:Value}{t:Nat}(h:d≠some t):(I3 e d v).get t=e.get t:=by
 cases d with
 |none=>rfl
 |some d=>simp only[I3,Env.get];rw[if_neg (fun q=>h (by rw[q]))]
theorem iM{C:A8}{ops:Array Oper}{t:Nat}:∀{l:List Oper}{e e':Env}{H H':N7},(∀o∈l,o.dst≠some t)->D1 P C ops l e H=some (e',H')->e'.get t=e.get t:=by
 intro l;induction l with
 |nil=>intro e e' H H' _ h;cases h;rfl
 |cons o l D=>
  intro e e' H H' E h;have z:=E o sM;have u:∀o∈l,o.dst≠some t:=fun o J=>E o (by simp [J]);simp only[D1]at h;split at h
  .cases h
  split at h
  .split at h
   .rw[D u h,U4 z]
   .rw[D u h,U4 z]
   .cases h
  .rw[D u h,U4 z]
theorem vr{C:A8}{ops:Array Oper}{t:Nat}:∀{l:List Oper}{i:Nat}{q:Bool}{e e':Env}{H H':N7},(∀o∈l,o.dst≠some t)->I2 P C ops i q l e H=some (e',H')->e'.get t=e.get t:=by
 intro l;induction l with
 |nil=>
  intro i q e e' H H' _ h;simp only[I2]at h;split at h
  .cases h;rfl
  .cases h
 |cons o l E=>
  intro i q e e' H H' D h;have z:=D o sM;have u:∀o∈l,o.dst≠some t:=fun o J=>D o (by simp [J]);simp only[I2]at h;split at h
  .cases h
  split at h
  .split at h
   .rw[E u h,U4 z]
   .split at h
    .rw[iM u h,U4 z]
    .cases h
   .cases h
  .rw[E u h,U4 z]
theorem yu{C:A8}{ops:Array Oper}{t:Nat}:∀{l:List (Oper×Nat×Nat)}{i:Nat}{J:List (Nat×N7)}{z:List (Op×Env×Value×Nat)}{e e':Env}{H H':N7},(∀o∈l,o.1.dst≠some t)->I7 P C ops i J z l e H=some (e',H')->e'.get t=e.get t:=by
 intro l;induction l with
 |nil=>intro i J z e e' H H' _ h;simp only[I7,Option.some.injEq,Prod.mk.injEq]at h;rw[h.1]
 |cons o l E=>
  obtain⟨o,lo,U⟩:=o;intro i J z e e' H H' O h;have D:o.dst≠some t:=O (o,lo,U) sM;have u:∀o∈l,o.1.dst≠some t:=fun o W=>O o (by simp [W]);simp only[I7]at h;split at h
  .cases h
  split at h
  .split at h
   .split at h
    .split at h
     .rw[E u h,U4 D]
     .cases h
    .cases h
   .split at h
    .split at h
     .split at h
      .rw[E u h,U4 D]
      .cases h
     .rw[E u h,U4 D]
    .cases h
  .split at h
   .rw[E u h,U4 D]
   .rw[E u h,U4 D]
theorem AW{C:A8}{ops:Array Oper}{t:Nat}{e e':Env}{H H':N7}(u:∀o∈ops.toList,o.dst≠some t) (h:aR P C ops e H=some (e',H')):e'.get t=e.get t:=by
 unfold aR at h;split at h
 .split at h
  .refine yu (fun o z=>?_) h;obtain⟨q,D,rfl⟩:=List.mem_map.1 z;exact u q.1 (List.fst_mem_of_mem_zipIdx D)
  .cases h
 .exact vr u h
theorem mO{α:Type}(v:Value):∀(ds:List Nat)(e:Env)(t:Nat),Env.get (ds.map (fun d=>(d,v))++e) t=if t∈ds then v else e.get t
 |[],e,t=>by simp
 |d::ds,e,t=>by
  simp only[List.map_cons,List.cons_append,Env.get,mO (α:=α) v ds e t,List.mem_cons];by_cases h:d=t
  .subst h;simp
  .rw[if_neg h];have:¬t=d:=fun q=>h q.symm;simp [this]
theorem DT{C:A8}{t:Nat}:∀{k:Nat}{c:Code}{e e':Env}{H H':N7}{o:Out},t∉dh c->L5 P C k c e H=some (o,e',H')->e'.get t=e.get t:=by
 intro k;induction k with
 |zero=>intro c e e' H H' o _ h;cases h
 |succ k E=>
  intro c e e' H H' o u h;cases c<;>simp only[L5]at h
  case skip=>cases h;rfl
  case ret=>cases h;rfl
  case exit=>cases h;rfl
  case region id ops J=>
   have D:∀o∈ops.toList,o.dst≠some t:=fun o X q=>u (List.mem_filterMap.2 ⟨o,X,q⟩);cases J
   .simp only[bF]at h;split at h
    .rename_i U;cases h;exact iM D U
    .cases h
   .simp only[if_true]at h;split at h
    .rename_i U;cases h;exact AW D U
    .cases h
  case seq x y=>
   simp only[dh,List.mem_append,not_or]at u;split at h
   .rename_i z hz;split at h
    .obtain⟨e3,H3,e4,H4,q1,q2,q3,rfl,rfl,rfl⟩:=U7 h;rw[mO (α:=Nat),if_neg];rw[GP hz];exact fun q=>(List.mem_append.1 q).elim u.1 u.2
    .cases h
   .split at h
    .rename_i W H2 O;rw[E u.2 h,E u.1 O]
    .exact E u.1 h
  case cond x y z=>
   simp only[dh,List.mem_append,not_or]at u;split at h
   .rename_i b _;cases b
    .exact E u.2 h
    .exact E u.1 h
   .cases h
  case block id x=>
   simp only[dh]at u;split at h
   .rename_i i W H2 O;split at h<;>(cases h;exact E u O)
   .exact E u h
  case loop x=>
   have D:t∉dh x:=u;split at h
   .rename_i W H2 O;rw[E (c:= .loop x) u h,E D O]
   .exact E D h
  case scope x=>exact E (c:=x) u h
  all_goals cases h
theorem N8{C:A8}(O:bP P base w0 C):∀{k:Nat}{c:Code}{e e':Env}{H H':N7}{o:Out},L5 P C k c e H=some (o,e',H')->Le H H':=by
 intro k;induction k with
 |zero=>intro c e e' H H' o h;cases h
 |succ k u=>
  intro c e e' H H' o h;cases c<;>simp only[L5]at h
  case skip=>cases h;exact Le.refl _
  case ret=>cases h;exact Le.refl _
  case exit=>cases h;exact Le.refl _
  case region id ops D=>
   cases D
   .simp only[bF]at h;split at h
    .rename_i U;cases h;exact bp O U
    .cases h
   .simp only[if_true]at h;split at h
    .rename_i U;cases h;exact DL O U
    .cases h
  case seq x y=>
   split at h
   .split at h
    .rename_i z hz _ e1 H1 J H2 W X;obtain⟨e3,H3,e4,H4,q1,q2,q3,rfl,rfl,rfl⟩:=U7 h;exact(bp O W).trans ((u q1).trans (ju _ _))
    .cases h
   .split at h
    .rename_i J H2 E;exact(u E).trans (u h)
    .exact u h
  case cond x y z=>
   split at h
   .exact u h
   .cases h
  case block id x=>
   split at h
   .rename_i i J H2 E;split at h<;>(cases h;exact u E)
   .exact u h
  case loop x=>
   split at h
   .rename_i J H2 E;exact(u E).trans (u h)
   .exact u h
  case scope x=>exact u h
  all_goals cases h
def qX(r:Option Nat):Fence:={Fence.wide with round:=r}
theorem zJ{o:Oper}{l n:Nat}{K:Act->World->Prop}{Q:Exit->Act->World->Prop}{a:Act}{w:World}(u:jD o.op=true)(h:o.wp P a w K Q):o.wpIn (qX (some l)) n P a w K Q:=by
 refine⟨fun _ _=>trivial,?_⟩;rw[Oper.semAt_plain _ _ _ (fun c E=>by rw[E]at u;cases u)];unfold Oper.wp at h;generalize (execOp a.eval o).run P w=r at h;cases r with
 |ok x O=>
  cases x<;>simp only[Oper.upon,Oper.uponIn]at h ⊢ <;>first|exact h|skip
  .exact⟨fun q=>(by cases q),(CallsIn.inRound l (callsIn_wide.2 h)).mono fun e w2 J=>by cases e<;>exact J⟩
  .refine⟨fun q=>(by cases q),fun c cs _=>?_⟩;obtain⟨v,w2,z,D⟩:=h c cs;exact⟨v,w2,z,stepsIn_wide.2 D⟩
 |halt x O=>cases x<;>simp only[Oper.upon,Oper.uponIn]at h ⊢ <;>exact h
theorem kB{ops:Array Oper}{l n:Nat}{Q:Exit->Act->World->Prop}(D:¬LetsOut Q):∀{z:List Oper}{a:Act}{w:World},(∀o∈z,jD o.op=true)->wpList P ops Q z a w->wpListIn (qX (some l)) n P ops Q z a w
 |[],a,w,_,h=>h
 |o::z,a,w,hd,h=>by
  unfold wpList at h;unfold wpListIn;have u:∀o∈z,jD o.op=true:=fun o J=>hd o (by simp [J]);split
  .rename_i E;rw[if_pos E]at h;rcases h with h|h
   .exact Oper.wpIn_mono (fun a w q=>kB D u q) (zJ (hd o sM) h)
   .exact absurd h.2 D
  .rename_i E;rw[if_neg E]at h;exact⟨fun _ _=>trivial,kB D u h⟩
theorem jR{ops:Array Oper}{l n:Nat}{Q:Exit->Act->World->Prop}(E:¬LetsOut Q)(D:∀o∈ops.toList,jD o.op=true):∀(u:Nat)(z:Array Bool)(a:Act)(w:World),wpAny P .any ops Q u z a w->wpAnyIn (qX (some l)) n P .any ops Q u z a w
 |0,_,_,_,h=>h
 |u+1,z,a,w,h=>by
  refine⟨h.1,fun i U=>?_⟩;have:=h.2 i U;unfold wpOp at this;unfold wpOpIn;cases J:ops[i]? with
  |none=>rw[J]at this;exact jR E D u _ _ _ this
  |some o=>
   rw[J]at this;simp only at this ⊢;split
   .rename_i O;rw[if_pos O]at this;rcases this with h|h
    .exact Oper.wpIn_mono (fun a w q=>jR E D u _ _ _ q) (zJ (D o (Array.mem_toList_iff.2 (Array.mem_of_getElem? J))) h)
    .exact absurd h.2 E
   .rename_i O;rw[if_neg O]at this;exact⟨fun _ _=>trivial,jR E D u _ _ _ this⟩
theorem kL{C:A8}(hm:P.follows .mixedOrders=true)(hC:X8 P C){r:Option Nat}{n:Nat}:∀{k:Nat}{c:Code}{φ:List Loc}{e e':Env}{H H':N7}{o:Out}{a:Act}{w:World}{Q:Exit->Act->World->Prop},
  (r.isSome=true->E7 c=true)->I1 nt c=true->L5 P C k c e H=some (o,e',H')->ER φ nt e a->WR base w0 φ H.bs w->hU base w0 φ H w nt a.defers e' H' (Q o.exit')->c.wpIn (qX r) n P Q a w/\∀x,c= .loop x->Code.roundsIn (qX r) n P x Q k a w:=by
 intro k;induction k with
 |zero=>intro c φ e e' H H' o a w Q a3 u h;cases h
 |succ k d2=>
  intro c φ e e' H H' o a w Q a3 u h X hW W;have ih:=fun{c φ e e' H H' o a w Q}(h0:r.isSome=true->E7 c=true)(h1:I1 nt c=true) h2(h3:ER φ nt e a)(h4:WR base w0 φ H.bs w) h5=>(d2 (c:=c) (e:=e) (e':=e') (H:=H) (H':=H') (o:=o) (Q:=Q) h0 h1 h2 h3 h4 h5).1;by_cases a8:∃x,c= .loop x
  .obtain⟨x,rfl⟩:=a8;have c9:=u;simp only[I1]at u;simp only[L5]at h;have b5:r.isSome=true->E7 x=true:=a3;have a7:Code.roundsIn (qX r) n P x Q (k+1) a w:=by
    rw[roundsIn_succ];split at h
    .rename_i e2 H2 h1;refine ih b5 u h1 X hW ?_;intro φ' a' w' U E J D hd;refine(d2 (c:= .loop x) (Q:=Q) a3 c9 h E J ?_).2 x rfl;intro φ2 a2 w2 a6 a1 a4 O a5;exact W φ2 a2 w2 (U.trans a6) a1 a4 (Fr.trans U (N8 (hC base w0) h1) (N8 (hC base w0) h) hW.len D O) (a5.trans hd)
    .rename_i b0;refine ih b5 u h X hW ?_;intro φ' a' w' U E J D hd;have:=W φ' a' w' U E J D hd;cases o with
     |normal=>exact absurd h (b0 e' H')
     |exit id=>exact this
     |ret=>exact this
   exact⟨wpIn_loop_rounds (k+1) a7,fun y hy=>by cases hy;exact a7⟩
  refine⟨?_,fun x U=>absurd ⟨x,U⟩ a8⟩;have b1:∀{o:Out}{e:Env},hU base w0 φ H w nt a.defers e H (Q o.exit')->ER φ nt e a->Q o.exit' a w:=fun W X=>W φ a w (Ext.refl φ) X hW (jo H) rfl;have b2:∀{H2:N7}{φ':List Loc}{a':Act}{w':World}{K:Act->World->Prop},Le H H2->Le H2 H'->Ext φ φ'->Fr φ H.bs H2.low w w'->a'.defers=a.defers->hU base w0 φ H w nt a.defers e' H' K->hU base w0 φ' H2 w' nt a'.defers e' H' K:=by
   intro H2 φ' a' w' K d8 d9 U D hd W φ2 a2 w2 a6 a1 a4 O a5;exact W φ2 a2 w2 (U.trans a6) a1 a4 (Fr.trans U d8 d9 hW.len D O) (a5.trans hd)
  cases c<;>simp only[L5]at h
  case skip=>cases h;exact wpIn_skip (b1 (o:= .normal) W X)
  case ret=>cases h;exact wpIn_ret (b1 (o:= .ret) W X)
  case exit id=>cases h;exact wpIn_exit (b1 (o:= .exit id) W X)
  case region id ops b4=>
   simp only[I1]at u;cases r with
   |none=>
    refine wpIn_wide.2 ?_;cases b4
    .simp only[bF]at h;split at h
     .rename_i hr;cases h;exact wp_region_list (V8 (hC base w0) u (fun o ho=>ho) hr X hW W)
     .cases h
    .simp only[if_true]at h;split at h
     .rename_i hr;cases h;exact tY hm hC u id hr X hW W
     .cases h
   |some l=>
    have b3:=a3 rfl;simp only[E7,Bool.and_eq_true,List.all_eq_true]at b3;refine Code.wpIn_mono (Q:=fun x a w=>x= .normal/\Q .normal a w) (fun x a w q=>by obtain⟨rfl,q⟩:=q;exact q) ?_;have c8:¬LetsOut (fun x(a:Act) w=>x=Exit.normal/\Q .normal a w):=fun⟨_,_,q⟩=>by cases q.1
    cases b4
    .simp only[bF]at h;split at h
     .rename_i hr;cases h;exact wpIn_region_list (kB c8 b3.1 (V8 (hC base w0) u (fun o ho=>ho) hr X hW fun φ2 a2 w2 a6 a1 a4 O a5=>⟨rfl,W φ2 a2 w2 a6 a1 a4 O a5⟩))
     .cases h
    .simp only[if_true]at h;have a9:=b3.2;simp only[Bool.not_true,Bool.false_or,Bool.and_eq_true]at a9;split at h
     .rename_i hr;cases h;unfold aR at hr;rw[if_pos a9.1,if_pos a9.2]at hr;exact wpIn_region_any hm (jR c8 b3.1 _ _ _ _ (zE hC u a9.2 hr X hW fun φ2 a2 w2 a6 a1 a4 O a5=>⟨rfl,W φ2 a2 w2 a6 a1 a4 O a5⟩))
     .cases h
  case seq x y=>
   simp only[I1,Bool.and_eq_true]at u;split at h
   .rename_i z hz;have b9:r=none:=by
     cases r with
     |none=>rfl
     |some l=>
      have:=a3 rfl;simp only[E7,hz,Option.isNone_some,Bool.false_and]at this;cases this
    subst b9;refine wpIn_wide.2 (wp_seq ?_);obtain⟨id,ops,o0,o1,o2,o3,rfl,hl,hB,rfl⟩:=kH hz;split at h
    .rename_i e1 H1 e2 H2 b7 b8;obtain⟨e3,H3,e4,H4,q1,q2,q3,rfl,rfl,rfl⟩:=U7 h;have l1:=bp (hC base w0) b7;have l2:=bp (hC base w0) b8;have c0:∀{e5 e6:Env}{H5 H6:N7}{l:List Oper},(∀o∈l,o∈ops.toList)->Le H H5->Le H5 (N4 H.next H3)->(∀t,t∉ops.toList.filterMap (·.dst)->e5.get t=e.get t)->L5 P C k y e5 H5=some (.normal,e6,H6)->N4 H.next H3=N4 H.next H6->hU base w0 φ H w nt a.defers e5 H5 (fun a' w'=>y.wp P Q a' w'):=by
      intro e5 e6 H5 H6 l c7 e7 c6 c5 U hk φ' a' w' d1 E J D hd;refine wpIn_wide.1 (ih (fun h=>by cases h) u.2 U E J ?_);intro φ2 a2 w2 a6 a1 a4 O a5;refine W φ2 a2 w2 (d1.trans a6) ⟨a1.size,fun t=>?_⟩ (by rw[hk];exact Gd a4 _) ?_ (a5.trans hd)
      .rw[mO (α:=Nat)];by_cases ht:t∈ops.toList.filterMap (·.dst)++dh y
       .rw[if_pos ht];exact .lost _
       .rw[if_neg ht];simp only[List.mem_append,not_or]at ht;rw[<-c5 t ht.1,<-DT ht.2 U];exact a1.val t
      .rw[hk];have c4:Fr φ' H5.bs (N4 H.next H6).low w' w2:=fun b B l hb d4 d5 d6=>O b B l (Nat.lt_of_lt_of_le hb (ju H.next H6).low) d4 d5 d6;exact Fr.trans d1 e7 (by rw[<-hk];exact c6) hW.len D c4
     have c3:∀{l:List Oper}{e5:Env}{H5:N7},(∀o∈l,o∈ops.toList)->D1 P C ops l e H=some (e5,H5)->∀t,t∉ops.toList.filterMap (·.dst)->e5.get t=e.get t:=fun c7 hr t ht=>iM (fun o ho q=>ht (List.mem_filterMap.2 ⟨o,c7 o ho,q⟩)) hr;have m1:∀o∈ [o0,o1,o2,o3],o∈ops.toList:=fun o ho=>by rw[hl];exact ho
     have m2:∀o∈ [o0,o2,o1,o3],o∈ops.toList:=fun o ho=>by rw[hl];simp only[List.mem_cons,List.not_mem_nil,or_false]at ho ⊢;rcases ho with h|h|h|h<;>simp [h]
     have d0:fw nt ops=true:=u.1;refine wI hm (hC base w0) hl hB d0 id b7 b8 X hW (c0 m1 l1 ((N8 (hC base w0) q1).trans (ju _ _)) (c3 m1 b7) q1 rfl) (c0 m2 l2 (by rw[q3];exact(N8 (hC base w0) q2).trans (ju _ _)) (c3 m2 b8) q2 q3)
    .cases h
   .rename_i hz;have d3:r.isSome=true->E7 x=true:=fun q=>by have:=a3 q;simp only[E7,Bool.and_eq_true]at this;exact this.1.2
    have e8:r.isSome=true->E7 y=true:=fun q=>by have:=a3 q;simp only[E7,Bool.and_eq_true]at this;exact this.2
    refine wpIn_seq ?_;split at h
    .rename_i e2 H2 h1;refine ih d3 u.1 h1 X hW ?_;intro φ' a' w' U E J D hd;exact ih e8 u.2 h E J (b2 (N8 (hC base w0) h1) (N8 (hC base w0) h) U D hd W)
    .rename_i b0;refine ih d3 u.1 h X hW ?_;intro φ' a' w' U E J D hd;have:=W φ' a' w' U E J D hd;cases o with
     |normal=>exact absurd h (b0 e' H')
     |exit id=>exact this
     |ret=>exact this
  case cond x y z=>
   simp only[I1,Bool.and_eq_true]at u;split at h
   .rename_i t ht;have hv:=X.op u.1.1;rw[ht]at hv;generalize hz:a.eval x=zz at hv;cases hv;have ro:r.isSome=true->E7 y=true/\E7 z=true:=fun q=>by have:=a3 q;simpa only[E7,Bool.and_eq_true] using this
    refine wpIn_cond hz ?_;cases t
    .exact ih (fun q=>(ro q).2) u.2 h X hW W
    .exact ih (fun q=>(ro q).1) u.1.2 h X hW W
   .cases h
  case block id x=>
   simp only[I1]at u;have ro:r.isSome=true->E7 x=true:=a3;refine wpIn_block ?_;split at h
   .rename_i i e2 H2 h1;split at h
    .rename_i b6;cases h;refine ih ro u h1 X hW ?_;intro φ' a' w' U E J D hd;have:=W φ' a' w' U E J D hd;simp only[Out.exit',Exit.inBlock,if_pos b6];exact this
    .rename_i b6;cases h;refine ih ro u h1 X hW ?_;intro φ' a' w' U E J D hd;have:=W φ' a' w' U E J D hd;simp only[Out.exit',Exit.inBlock,if_neg b6];exact this
   .rename_i b0;refine ih ro u h X hW ?_;intro φ' a' w' U E J D hd;have:=W φ' a' w' U E J D hd;cases o with
    |exit id=>exact absurd h (b0 id e' H')
    |normal=>exact this
    |ret=>exact this
  case loop x=>exact absurd ⟨x,rfl⟩ a8
  case scope x=>
   simp only[I1]at u;have b9:r=none:=by
    cases r with
    |none=>rfl
    |some l=>have:=a3 rfl;simp only[E7]at this;cases this
   subst b9;refine wpIn_wide.2 (wp_scope_straight (wpIn_wide.1 (ih (fun h=>by cases h) u h X hW ?_)));intro φ' a' w' U E J D hd;have:=W φ' a' w' U E J D hd;cases o<;>exact this
  all_goals cases h
theorem eN{C:A8}(J:P.follows .mixedOrders=true)(z:X8 P C){k:Nat}{c:Code}{e e':Env}{H H':N7}{o:Out}{Q:Exit->Act->World->Prop}
  (u:I1 nt c=true) (h:L5 P C k c e H=some (o,e',H')) (D:ER φ nt e a) (E:WR base w0 φ H.bs w) (O:hU base w0 φ H w nt a.defers e' H' (Q o.exit')):c.wp P Q a w:=
 wpIn_wide.1 (kL (r:=none) (n:=0) J z (fun h=>by cases h) u h D E O).1
theorem iv{C:A8}(J:P.follows .mixedOrders=true)(z:X8 P C)(l n:Nat){k:Nat}{c:Code}{e e':Env}{H H':N7}{o:Out}{Q:Exit->Act->World->Prop}
  (U:E7 c=true) (u:I1 nt c=true) (h:L5 P C k c e H=some (o,e',H')) (D:ER φ nt e a) (E:WR base w0 φ H.bs w) (O:hU base w0 φ H w nt a.defers e' H' (Q o.exit')):c.wpIn (Fence.wide.inRound l) n P Q a w:=
 (kL (r:=some l) J z (fun _=>U) u h D E O).1
theorem qm:∀(u:LV)(i t:Nat),(N3 i u).get t=if i<=t then(u[t-i]?).getD undef else undef
 |[],i,t=>by simp [N3,Env.get]
 |v::u,i,t=>by
  simp only[N3,Env.get];by_cases h:i=t
  .subst h;simp
  .rw[if_neg h,qm u (i+1) t];by_cases z:i<=t
   .rw[if_pos z,if_pos oM,show t-i=(t-(i+1))+1 from oM];simp
   .rw[if_neg z,if_neg oM]
theorem ue{args u:LV}(z:VRs φ args u)(O:args.length<=nt):ER φ nt (N3 0 args) {tmps:=u.toArray++Array.replicate (nt-u.toArray.size) undef,defers:=[]}:=by
 refine⟨by have:=z.1;simp;omega,fun t=>?_⟩;rw[qm];simp only[Nat.zero_le,if_true,Nat.sub_zero,Array.getD_eq_getD_getElem?];by_cases h:t<args.length
 .obtain⟨y,J,E⟩:=z.get (i:=t) (x:=args[t]) (by simp [h]);have D:t<u.length:=by rw[<-z.1];exact h
  rw[Array.getElem?_append_left (by simpa using D)];simp only[List.getElem?_toArray,J,Option.getD_some,List.getElem?_eq_getElem h];exact E
 .rw[List.getElem?_eq_none oM];rw[Array.getElem?_append_right (by have:=z.1;simp;omega)];simp only[Option.getD_none,Array.getElem?_replicate];split<;>exact VR.undef' φ
def vp(tmps:Array Value):ResultVar->Sem Value
 | .tmp t=>pure (tmps.getD t undef)
 | .cell x t=>do loadVar t (<-asAddr (tmps.getD x undef))
theorem yp(z:Func)(tmps:Array Value):results z tmps=(z.results.mapM (vp tmps))>>=fun u=>pure (if h:u.size=1 then u[0] else .tuple u):=by
 unfold results
 congr 1
theorem vx{H:N7}(hW:WR base w0 φ H.bs w)(hE:ER φ nt e a):∀{J:List ResultVar}{W:LV},J.mapM (M0 P e H)=some W->
  ∃D,VRs φ W D/\(J.mapM (vp a.tmps)).run P w= .ok D w:=by
 intro J;induction J with
 |nil=>intro W h;simp at h;subst h;exact⟨[],.nil φ,rfl⟩
 |cons r J ih=>
  intro W h;simp only[List.mapM_cons,Option.bind_eq_bind,Option.pure_def]at h;cases u:M0 P e H r with
  |none=>simp [u]at h
  |some v=>
   cases E:J.mapM (M0 P e H)with
   |none=>simp [u,E]at h
   |some a1=>
    simp [u,E]at h;subst h;obtain⟨D,hv,U⟩:=ih E;have O:∃v',VR φ v v'/\(vp a.tmps r).run P w= .ok v' w:=by
     cases r with
     |tmp t=>simp only[M0,Option.some.injEq]at u;subst u;exact⟨_,hE.val t,rfl⟩
     |cell x t=>
      simp only[M0]at u;obtain⟨v',X,h2⟩:=uN (P:=P) hW u (hE.val x);refine⟨v',X,?_⟩;have h3:=h2 w hW.cls;have hx:=hE.val x;unfold ld at u;split at u
      .rename_i b o hg;rw[hg]at hx;simp only[vp];generalize a.tmps.getD x undef=z at hx h3 ⊢;cases hx;simp only[Instr.loadAt,Instr.sureAddr,Sem.run_bind,Sem.run_pure,Result.andThen_ok]at h3;simp only[asAddr,Sem.run_bind,Sem.run_pure,Result.andThen_ok];exact h3
      .cases u
    obtain⟨v',X,h2⟩:=O;refine⟨v'::D,.cons X hv,?_⟩;rw[List.mapM_cons,Sem.run_bind,h2,Result.andThen_ok,Sem.run_bind,U,Result.andThen_ok];rfl
theorem lh{E:Func}{H:N7}(hW:WR base w0 φ H.bs w)(X:ER φ nt e a){U:LV}(h:E.results.toList.mapM (M0 P e H)=some U):
  ∃v',VR φ (bN U) v'/\(results E a.tmps).run P w= .ok v' w:=by
 obtain⟨u,O,D⟩:=vx hW X h;have hr:(E.results.mapM (vp a.tmps)).run P w= .ok u.toArray w:=by
  rw[Array.mapM_eq_mapM_toList,Sem.run_map,D];rfl
 refine⟨bN u,?_,?_⟩
 .unfold bN;split
  .obtain⟨y,ys,rfl,J,W⟩:=O.of_cons;rw[W.of_nil];exact J
  .rename_i z;split
   .rename_i v'
    exfalso
    have:=O.1;cases U with
    |nil=>simp at this
    |cons x xs=>cases xs with
     |nil=>exact z x rfl
     |cons _ _=>simp at this
   .exact VR.toTuple O
 .rw[yp,Sem.run_bind,hr,Result.andThen_ok];split
  .rename_i J;obtain⟨v,rfl⟩:=List.length_eq_one_iff.1 (by simpa using J:u.length=1);rfl
  .rename_i z;have:bN u= .tuple u.toArray:=by
    unfold bN;split
    .exact absurd rfl z
    .rfl
   rw[this];rfl
theorem WR.back{φ':List Loc}{S':List Blk}{U:World}{E:Nat}(h:WR base w0 φ S w)(X:WR base w0 φ' S' U)(W:Fr φ S E w U)(D:S.length<=E):Cls base w0 φ S w U:=by
 have u:∀(b:Nat) B l,S[b]?=some B->B≠ .dead->φ[b]?=some l->U.heap[l.blk]?=w.heap[l.blk]?:=fun b B l z J O=>
  W b B l (Nat.lt_of_lt_of_le (gS z).1 D) z J O
 refine⟨⟨h.len,X.below,X.size,fun b B l z O=>?_,h.sep⟩,u⟩;by_cases J:B= .dead
 .subst J;trivial
 .exact(h.blk b B l z O).mono (Ext.refl φ) (u b B l z J O)
def HQ(g:FuncId)(f:LV->N7->Option (Value×Option N7)):A8:=fun g' args H=>if g'=g then f args H else none
def pP(P:Program)(X:Lib):Prop:=∀g f,X g=some f->X8 P (HQ g f)
theorem GL(hm:P.follows .mixedOrders=true){X:Lib}(hX:pP P X):∀k,X8 P (call P X k):=by
 intro k;induction k with
 |zero=>intro base w0 g args H v r h;cases h
 |succ k ih=>
  intro base w0 g args H v r h;simp only[call]at h;split at h
  .rename_i f hf;exact hX g f hf base w0 g args H v r (by simp only[HQ,if_pos];exact h)
  .rename_i b0;unfold body at h;split at h
   rotate_left
   .cases h
   rename_i c nt rs z;unfold fnA at z;split at z
   rotate_left
   .cases z
   rename_i fn W;split at z
   rotate_left
   .cases z
   rename_i c' O;split at z
   rotate_left
   .cases z
   rename_i D;cases z;simp only[Bool.and_eq_true,bne_iff_ne,ne_eq]at D;split at h
   rotate_left
   .cases h
   rename_i a6;have a3:dv P g:=⟨fn,W,by simpa using D.2,by rw[O];rfl⟩
   split at h
   .cases h
   .rename_i o e' H' a8 a4;split at h
    rotate_left
    .cases h
    rename_i vs a9;have a5:=N8 (ih base w0) a4;unfold D6 at h;have a2:∀(φ:List Loc)(w:World)(u:LV),VRs φ args u->WR base w0 φ H.bs w->Calls P g u.toArray w fun en w'=>∃v' J,en= .returned v'/\Ext φ J/\VR J (bN vs) v'/\WR base w0 J H'.bs w'/\Fr φ H.bs H'.low w w':=by
     intro φ w u ha hW;refine calls_of_wp W O ?_;refine eN (H:=⟨H.bs,H.bs.length⟩) hm ih D.1 a4 (ue ha a6) hW ?_;intro J a' w' hx hE E U hd;obtain⟨v',hv,a7⟩:=lh E hE a9;have:bodyPost P fn (fun en w'=>∃v' J,en= .returned v'/\Ext φ J/\VR J (bN vs) v'/\WR base w0 J H'.bs w'/\Fr φ H.bs H'.low w w') .normal a' w':=⟨hd,v',a7,v',J,rfl,hx,hv,E,U⟩
     cases o with
     |normal=>exact this
     |ret=>exact this
     |exit id=>exact(a8 id rfl).elim
    split at h
    .rename_i a1;simp only[Option.some.injEq,Prod.mk.injEq]at h;obtain⟨rfl,rfl⟩:=h;simp only[Bool.and_eq_true,decide_eq_true_eq]at a1;refine⟨a3,fun H' h=>(by cases h),fun _=>a1.1,fun φ w u ha hW=>(a2 φ w u ha hW).mono fun en w' hq=>?_⟩;obtain⟨v',J,rfl,hx,hv,E,U⟩:=hq;exact⟨by rw[hv.eq_na a1.1],hW.back E U a1.2⟩
    .simp only[Option.some.injEq,Prod.mk.injEq]at h;obtain⟨rfl,rfl⟩:=h;refine⟨a3,fun H2 h2=>?_,fun h=>(by cases h),fun φ w u ha hW=>(a2 φ w u ha hW).mono fun en w' hq=>?_⟩
     .cases h2;exact⟨Nat.min_le_left _ _,a5.len,fun b hb hl=>a5.same b (Nat.lt_of_lt_of_le hb (Nat.min_le_right _ _)) hl⟩
     .obtain⟨v',J,h1,hx,hv,E,U⟩:=hq;exact⟨v',J,h1,hx,hv,E,fun b B l hb=>U b B l (Nat.lt_of_lt_of_le hb (Nat.min_le_right _ _))⟩
   .cases h
end
def LeO{α:Type}(x y:Option α):Prop:=∀r,x=some r->y=some r
def LeC(C D:A8):Prop:=∀f args H,LeO (C f args H) (D f args H)
theorem LeO.refl{α:Type}(x:Option α):LeO x x:=fun _ h=>h
section
variable{P:Program}
theorem wu{C D:A8}(h:LeC C D)(e:Env)(c:Call)(H:N7):LeO (fI P C e c H) (fI P D e c H):=by
 intro r z;unfold fI at z ⊢;split
 .rename_i b E;rw[E]at z;exact z
 .rename_i f S;rw[S]at z;simp only at z ⊢;split
  .rename_i g first u J;rw[J]at z;exact h _ _ _ _ z
  .rename_i O;split at z
   .rename_i g first u J;exact absurd J (O _ _ _)
   .exact z
 .rename_i E;rw[E]at z;exact z
theorem X2{C D:A8}(h:LeC C D)(o:Op)(e:Env)(H:N7):LeO (aop P C o e H) (aop P D o e H):=by
 intro r z;by_cases u:∃c,o= .call c
 .obtain⟨c,rfl⟩:=u;exact wu h e c H r z
 .rw[<-z];cases o<;>first|rfl|(exact absurd ⟨_,rfl⟩ u)|(rename_i x;cases x<;>rfl)
theorem R0{C D:A8}(h:LeC C D){ops:Array Oper}:∀(l:List Oper)(e:Env)(H:N7),LeO (D1 P C ops l e H) (D1 P D ops l e H):=by
 intro l;induction l with
 |nil=>intro e H r u;exact u
 |cons o l O=>
  intro e H r u;simp only[D1]at u ⊢;by_cases z:X4 ops e o=true
  .rw[if_pos z]at u;cases u
  simp only[if_neg z]at u ⊢;split
  .rename_i J;rw[if_pos J]at u;cases E:aop P C o.op e H with
   |none=>simp [E]at u
   |some q=>
    rw[X2 h _ _ _ _ E];rw[E]at u;obtain⟨v,q⟩:=q;cases q with
    |none=>exact O _ _ _ u
    |some H'=>exact O _ _ _ u
  .rename_i J;rw[if_neg J]at u;exact O _ _ _ u
theorem jI{C D:A8}(h:LeC C D){ops:Array Oper}:∀(l:List Oper)(i:Nat)(q:Bool)(e:Env)(H:N7),LeO (I2 P C ops i q l e H) (I2 P D ops i q l e H):=by
 intro l;induction l with
 |nil=>intro i q e H r u;exact u
 |cons o l S=>
  intro i q e H r u;simp only[I2]at u ⊢;by_cases z:X4 ops e o=true
  .rw[if_pos z]at u;cases u
  simp only[if_neg z]at u ⊢;split
  .rename_i O;rw[if_pos O]at u;cases J:aop P C o.op e H with
   |none=>simp [J]at u
   |some x=>
    rw[X2 h _ _ _ _ J];rw[J]at u;obtain⟨v,x⟩:=x;cases x with
    |none=>exact S _ _ _ _ _ u
    |some H'=>
     simp only at u ⊢;split
     .rename_i E;rw[if_pos E]at u;exact R0 h _ _ _ _ u
     .rename_i E;rw[if_neg E]at u;exact u
  .rename_i O;rw[if_neg O]at u;exact S _ _ _ _ _ u
theorem lj{C D:A8}(h:LeC C D){ops:Array Oper}:∀(l:List (Oper×Nat×Nat))(t:Nat)(S:List (Nat×N7))(z:List (Op×Env×Value×Nat))(e:Env)(H:N7),LeO (I7 P C ops t S z l e H) (I7 P D ops t S z l e H):=by
 intro l;induction l with
 |nil=>intro t S z e H r u;exact u
 |cons o l O=>
  obtain⟨o,lo,hi⟩:=o;intro t S z e H r u;simp only[I7]at u ⊢;by_cases J:X4 ops e o=true
  .rw[if_pos J]at u;cases u
  simp only[if_neg J]at u ⊢;split
  .rename_i hw;rw[if_pos hw]at u;split
   .rename_i E;rw[if_pos E]at u;cases ho:aop P C o.op e H with
    |none=>simp [ho]at u
    |some x=>
     rw[X2 h _ _ _ _ ho];rw[ho]at u;obtain⟨v,x⟩:=x;simp only at u ⊢;split
     .rename_i U;rw[if_pos U]at u;exact O _ _ _ _ _ _ u
     .rename_i U;rw[if_neg U]at u;exact u
   .rename_i E;rw[if_neg E]at u;split at u
    .rename_i v hv;split at u
     .rename_i W;rw[if_pos W];split at u
      .rename_i hc;rw[if_pos hc];exact O _ _ _ _ _ _ u
      .cases u
     .rename_i W;rw[if_neg W];exact O _ _ _ _ _ _ u
    .cases u
  .rename_i hw;rw[if_neg hw]at u;split
   .rename_i E;rw[if_pos E]at u;exact O _ _ _ _ _ _ u
   .rename_i E;rw[if_neg E]at u;exact O _ _ _ _ _ _ u
theorem wR{C D:A8}(h:LeC C D){ops:Array Oper}(e:Env)(H:N7):LeO (aR P C ops e H) (aR P D ops e H):=by
 intro r u;unfold aR at u ⊢;split
 .rename_i z;rw[if_pos z]at u;split
  .rename_i E;rw[if_pos E]at u;exact lj h _ _ _ _ _ _ _ u
  .rename_i E;rw[if_neg E]at u;exact u
 .rename_i z;rw[if_neg z]at u;exact jI h _ _ _ _ _ _ u
theorem fZ{ds:List Nat}{e z D:Env}{n:Nat}{u H2:N7}{x y:Option (Out×Env×N7)}(J:x=some (.normal,z,u))(O:y=some (.normal,D,H2))(E:N4 n u=N4 n H2):
  nG ds e n x y=some (.normal,ds.map (fun d=>(d,lost))++e,N4 n u):=by
 subst J O;exact if_pos E
theorem aZ{C D:A8}(h:LeC C D):∀(k O:Nat),k<=O->∀(c:Code)(e:Env)(H:N7),LeO (L5 P C k c e H) (L5 P D O c e H):=by
 intro k;induction k with
 |zero=>intro O _ c e H r u;cases u
 |succ k ih=>
  intro O hk c e H r u;obtain⟨O,rfl⟩:∃m,O=m+1:=⟨O-1,oM⟩
  have J:=fun c e H r(u:L5 P C k c e H=some r)=>ih O oM c e H r u;cases c<;>simp only[L5]at u ⊢ <;>try exact u
  case region id ops S=>
   cases S
   .simp only[bF]at u ⊢;cases E:D1 P C ops ops.toList e H with
    |none=>simp [E]at u
    |some x=>rw[R0 h _ _ _ _ E];rw[E]at u;exact u
   .simp only[if_true]at u ⊢;cases E:aR P C ops e H with
    |none=>simp [E]at u
    |some x=>rw[wR h _ _ _ E];rw[E]at u;exact u
  case seq x y=>
   cases hz:eM x y with
   |some z=>
    simp only[hz]at u ⊢;cases U:D1 P C z.ops z.l1 e H with
    |none=>simp [U]at u
    |some q1=>
     cases W:D1 P C z.ops z.l2 e H with
     |none=>simp [U,W]at u
     |some q2=>
      obtain⟨e1,H1⟩:=q1;obtain⟨e2,H2⟩:=q2;rw[U,W]at u;rw[R0 h _ _ _ _ U,R0 h _ _ _ _ W];obtain⟨o,e',H'⟩:=r;obtain⟨e3,H3,e4,H4,g1,g2,g3,rfl,rfl,rfl⟩:=U7 u;exact fZ (J _ _ _ _ g1) (J _ _ _ _ g2) g3
   |none=>
   simp only[hz]at u ⊢;cases E:L5 P C k x e H with
   |none=>simp [E]at u
   |some z=>
    rw[J _ _ _ _ E];rw[E]at u;obtain⟨o,e',H'⟩:=z;cases o with
    |normal=>exact J _ _ _ _ u
    |exit id=>exact u
    |ret=>exact u
  case cond x y z=>
   split
   .rename_i t ht;rw[ht]at u;exact J _ _ _ _ u
   .rename_i a1;split at u
    .rename_i t ht;exact absurd ht (a1 t)
    .exact u
  case block id x=>
   cases E:L5 P C k x e H with
   |none=>simp [E]at u
   |some z=>rw[J _ _ _ _ E];rw[E]at u;exact u
  case loop x=>
   cases E:L5 P C k x e H with
   |none=>simp [E]at u
   |some z=>
    rw[J _ _ _ _ E];rw[E]at u;obtain⟨o,e',H'⟩:=z;cases o with
    |normal=>exact J _ _ _ _ u
    |exit id=>exact u
    |ret=>exact u
  case scope x=>exact J _ _ _ _ u
theorem jV{ex D:Code->Env->N7->Option (Out×Env×N7)}(h:∀c e H,LeO (ex c e H) (D c e H)) (f:FuncId) (args:LV) (H:N7):LeO (body P ex f args H) (body P D f args H):=by
 intro r u;unfold body at u ⊢;split
 .rename_i c S U E;rw[E]at u;simp only at u ⊢;split
  .rename_i J;rw[if_pos J]at u;cases O:ex c (N3 0 args) ⟨H.bs,H.bs.length⟩with
   |none=>simp [O]at u
   |some z=>rw[h _ _ _ _ O];rw[O]at u;exact u
  .rename_i J;rw[if_neg J]at u;exact u
 .rename_i E;rw[E]at u;exact u
theorem M7{X:Lib}:∀(k u:Nat),k<=u->LeC (call P X k) (call P X u):=by
 intro k;induction k with
 |zero=>intro u _ f args H r z;cases z
 |succ k E=>
  intro u J f args H r z;obtain⟨u,rfl⟩:∃m,u=m+1:=⟨u-1,oM⟩
  simp only[call]at z ⊢;split
  .rename_i g D;rw[D]at z;exact z
  .rename_i D;rw[D]at z;exact jV (aZ (E u oM) k u oM) f args H r z
open Classical in
noncomputable def lim{α:Type}(x:Nat->Option α):Option α:=if h:∃k r,x k=some r then some (Classical.choose (Classical.choose_spec h)) else none
theorem nO{α:Type}{x:Nat->Option α}(E:∀k J,k<=J->LeO (x k) (x J)) {r:α}:lim x=some r↔∃k,x k=some r:=by
 unfold lim
 constructor
 .intro h;split at h
  .rename_i z;cases h;exact⟨_,Classical.choose_spec (Classical.choose_spec z)⟩
  .cases h
 .rintro⟨k,z⟩;have u:∃k r,x k=some r:=⟨k,r,z⟩
  rw[dif_pos u];have O:=Classical.choose_spec (Classical.choose_spec u);have S:=E _ (max k (Classical.choose u)) (Nat.le_max_right _ _) _ O;have D:=E _ (max k (Classical.choose u)) (Nat.le_max_left _ _) _ z;rw[S]at D;exact D
noncomputable def CL(P:Program)(X:Lib):A8:=fun f args H=>lim fun k=>call P X k f args H
noncomputable def EL(P:Program)(X:Lib)(c:Code)(e:Env)(H:N7):Option (Out×Env×N7):=lim fun k=>L5 P (CL P X) k c e H
theorem bZ{X:Lib}{f:FuncId}{args:LV}{H:N7}{r:Value×Option N7}:CL P X f args H=some r↔∃k,call P X k f args H=some r:=
 nO fun k z u=>M7 k z u f args H
theorem yV{X:Lib}{c:Code}{e:Env}{H:N7}{r:Out×Env×N7}:EL P X c e H=some r↔∃k,L5 P (CL P X) k c e H=some r:=
 nO fun k z u=>aZ (fun _ _ _=>LeO.refl _) k z u c e H
theorem sE{α:Type}{x y:Option α}(h:∀r,x=some r↔y=some r):x=y:=by
 cases x with
 |some a=>exact((h a).1 rfl).symm
 |none=>cases y with
  |none=>rfl
  |some b=>exact(h b).2 rfl
variable{X:Lib}
def S4(x:Option (Env×N7)):Option (Out×Env×N7):=x.map fun(e,H)=>(.normal,e,H)
abbrev Of{β:Sort _}(_:β)(α:Type _):Type _:=α
def u9(x:Option (Out×Env×N7))(f:Env->N7->Option (Out×Env×N7)):Of f (Option (Out×Env×N7)):=
 match x with
 |some (.normal,e,H)=>f e H
 |r=>r
@[simp] theorem dM (e:Env) (H:N7) (f:Env->N7->Option (Out×Env×N7)):u9 (some (.normal,e,H)) f=f e H:=rT
@[simp] theorem oZ (e:Env) (H:N7) (f:Env->N7->Option (Out×Env×N7)):u9 (some (.ret,e,H)) f=some (.ret,e,H):=rT
@[simp] theorem vM (i:Nat) (e:Env) (H:N7) (f:Env->N7->Option (Out×Env×N7)):u9 (some (.exit i,e,H)) f=some (.exit i,e,H):=rT
def inBlock(id:Nat)(x:Option (Out×Env×N7)):Option (Out×Env×N7):=
 match x with
 |some (.exit i,e,H)=>if i=id then some (.normal,e,H) else some (.exit i,e,H)
 |r=>r
@[simp] theorem fX (id:Nat) (e:Env) (H:N7):inBlock id (some (.normal,e,H))=some (.normal,e,H):=rT
@[simp] theorem kQ (id:Nat) (e:Env) (H:N7):inBlock id (some (.ret,e,H))=some (.ret,e,H):=rT
@[simp] theorem eT (id i:Nat) (e:Env) (H:N7):inBlock id (some (.exit i,e,H))=if i=id then some (.normal,e,H) else some (.exit i,e,H):=rT
theorem iq{o:Op}{e:Env}{H:N7}{r:Value×Option N7}(h:aop P (CL P X) o e H=some r):∃k,aop P (call P X k) o e H=some r:=by
 by_cases u:∃c,o= .call c
 .obtain⟨c,rfl⟩:=u;simp only[aop,fI]at h ⊢;split at h
  .rename_i b D;exact⟨0,h⟩
  .rename_i f E;split at h
   .obtain⟨k,z⟩:=bZ.1 h;exact⟨k,z⟩
   .cases h
  .cases h
 .refine⟨0,?_⟩;rw[<-h];cases o<;>first|rfl|(exact absurd ⟨_,rfl⟩ u)|(rename_i x;cases x<;>rfl)
theorem bI{ops:Array Oper}:∀(l:List Oper){e:Env}{H:N7}{r:Env×N7},D1 P (CL P X) ops l e H=some r->∃k,D1 P (call P X k) ops l e H=some r:=by
 intro l;induction l with
 |nil=>intro e H r h;exact⟨0,h⟩
 |cons o l ih=>
  intro e H r h;simp only[D1]at h ⊢;by_cases D:X4 ops e o=true
  .rw[if_pos D]at h;cases h
  simp only[if_neg D]at h ⊢;split at h
  .rename_i E;cases W:aop P (CL P X) o.op e H with
   |none=>simp [W]at h
   |some z=>
    rw[W]at h;obtain⟨k1,S⟩:=iq W;obtain⟨v,z⟩:=z;have u:∀H',D1 P (CL P X) ops l (I3 e o.dst v) H'=some r->∃k,D1 P (call P X k) ops l (I3 e o.dst v) H'=some r/\aop P (call P X k) o.op e H=some (v,z):=by
     intro H' h';obtain⟨k2,U⟩:=ih h';exact⟨max k1 k2,R0 (M7 _ _ (Nat.le_max_right _ _)) _ _ _ _ U,X2 (M7 _ _ (Nat.le_max_left _ _)) _ _ _ _ S⟩
    cases z with
    |none=>obtain⟨k,J,O⟩:=u _ h;exact⟨k,by rw[if_pos E,O];exact J⟩
    |some H'=>obtain⟨k,J,O⟩:=u _ h;exact⟨k,by rw[if_pos E,O];exact J⟩
  .rename_i E;obtain⟨k,hk⟩:=ih h;exact⟨k,by rw[if_neg E];exact hk⟩
theorem oJ{ops:Array Oper}:∀(l:List Oper){i:Nat}{q:Bool}{e:Env}{H:N7}{r:Env×N7},I2 P (CL P X) ops i q l e H=some r->∃k,I2 P (call P X k) ops i q l e H=some r:=by
 intro l;induction l with
 |nil=>intro i q e H r h;exact⟨0,h⟩
 |cons o l U=>
  intro i q e H r h;simp only[I2]at h ⊢;by_cases E:X4 ops e o=true
  .rw[if_pos E]at h;cases h
  simp only[if_neg E]at h ⊢;split at h
  .rename_i J;cases O:aop P (CL P X) o.op e H with
   |none=>simp [O]at h
   |some z=>
    rw[O]at h;obtain⟨W,D⟩:=iq O;obtain⟨v,z⟩:=z;cases z with
    |none=>
     obtain⟨S,u⟩:=U h;exact⟨max W S,by rw[if_pos J,X2 (M7 _ _ (Nat.le_max_left _ _)) _ _ _ _ D];exact jI (M7 _ _ (Nat.le_max_right _ _)) _ _ _ _ _ _ u⟩
    |some H'=>
     simp only at h;split at h
     .obtain⟨S,u⟩:=bI _ h;refine⟨max W S,?_⟩;rw[if_pos J,X2 (M7 _ _ (Nat.le_max_left _ _)) _ _ _ _ D];simp only;rw[if_pos (by assumption)];exact R0 (M7 _ _ (Nat.le_max_right _ _)) _ _ _ _ u
     .cases h
  .rename_i J;obtain⟨k,hk⟩:=U h;exact⟨k,by rw[if_neg J];exact hk⟩
theorem pH{ops:Array Oper}:∀(l:List (Oper×Nat×Nat)){t:Nat}{S:List (Nat×N7)}{u:List (Op×Env×Value×Nat)}{e:Env}{H:N7}{r:Env×N7},I7 P (CL P X) ops t S u l e H=some r->∃k,I7 P (call P X k) ops t S u l e H=some r:=by
 intro l;induction l with
 |nil=>intro t S u e H r h;exact⟨0,h⟩
 |cons o l O=>
  obtain⟨o,lo,hi⟩:=o;intro t S u e H r h;simp only[I7]at h ⊢;by_cases J:X4 ops e o=true
  .rw[if_pos J]at h;cases h
  simp only[if_neg J]at h ⊢;split at h
  .rename_i E;split at h
   .rename_i D;cases hq:aop P (CL P X) o.op e H with
    |none=>simp [hq]at h
    |some z=>
     rw[hq]at h;obtain⟨k1,W⟩:=iq hq;obtain⟨v,z⟩:=z;simp only at h;split at h
     .rename_i hb;obtain⟨k2,a1⟩:=O h;exact⟨max k1 k2,by rw[if_pos E,if_pos D,X2 (M7 _ _ (Nat.le_max_left _ _)) _ _ _ _ W];simp only;rw[if_pos hb];exact lj (M7 _ _ (Nat.le_max_right _ _)) _ _ _ _ _ _ _ a1⟩
     .cases h
   .rename_i D;split at h
    .rename_i v hv;split at h
     .rename_i U;split at h
      .rename_i hc;obtain⟨k,q⟩:=O h;exact⟨k,by rw[if_pos E,if_neg D,if_pos U,if_pos hc];exact q⟩
      .cases h
     .rename_i U;obtain⟨k,q⟩:=O h;exact⟨k,by rw[if_pos E,if_neg D,if_neg U];exact q⟩
    .cases h
  .rename_i E;split at h
   .rename_i D;obtain⟨k,q⟩:=O h;exact⟨k,by rw[if_neg E,if_pos D];exact q⟩
   .rename_i D;obtain⟨k,q⟩:=O h;exact⟨k,by rw[if_neg E,if_neg D];exact q⟩
theorem rK{ops:Array Oper}{e:Env}{H:N7}{r:Env×N7}(h:aR P (CL P X) ops e H=some r):∃k,aR P (call P X k) ops e H=some r:=by
 unfold aR at h ⊢;split at h
 .rename_i u;split at h
  .rename_i z;obtain⟨k,q⟩:=pH _ h;exact⟨k,by rw[if_pos u,if_pos z];exact q⟩
  .cases h
 .rename_i u;obtain⟨k,q⟩:=oJ _ h;exact⟨k,by rw[if_neg u];exact q⟩
theorem uj:∀(k:Nat){c:Code}{e:Env}{H:N7}{r:Out×Env×N7},L5 P (CL P X) k c e H=some r->∃j,L5 P (call P X j) k c e H=some r:=by
 intro k;induction k with
 |zero=>intro c e H r h;cases h
 |succ k S=>
  intro c e H r h;have u:∀{j O:Nat}{c:Code}{e:Env}{H:N7}{r},j<=O->L5 P (call P X j) k c e H=some r->L5 P (call P X O) k c e H=some r:=fun D h=>aZ (M7 _ _ D) _ _ lR _ _ _ _ h;cases c<;>simp only[L5]at h ⊢ <;>try exact⟨0,h⟩
  case region id ops U=>
   cases U
   .simp only[bF]at h ⊢;cases E:D1 P (CL P X) ops ops.toList e H with
    |none=>simp [E]at h
    |some z=>obtain⟨j,D⟩:=bI _ E;rw[E]at h;exact⟨j,by rw[D];exact h⟩
   .simp only[if_true]at h ⊢;cases E:aR P (CL P X) ops e H with
    |none=>simp [E]at h
    |some z=>obtain⟨j,D⟩:=rK E;rw[E]at h;exact⟨j,by rw[D];exact h⟩
  case seq x y=>
   cases hz:eM x y with
   |some z=>
    simp only[hz]at h ⊢;cases W:D1 P (CL P X) z.ops z.l1 e H with
    |none=>simp [W]at h
    |some q1=>
     cases h2:D1 P (CL P X) z.ops z.l2 e H with
     |none=>simp [W,h2]at h
     |some q2=>
      obtain⟨e1,H1⟩:=q1;obtain⟨e2,H2⟩:=q2;rw[W,h2]at h;obtain⟨o,e',H'⟩:=r;obtain⟨e3,H3,e4,H4,g1,g2,g3,rfl,rfl,rfl⟩:=U7 h;obtain⟨j1,a1⟩:=bI _ W;obtain⟨O,J⟩:=bI _ h2;obtain⟨j3,a2⟩:=S g1;obtain⟨j4,a3⟩:=S g2;refine⟨max (max j1 O) (max j3 j4),?_⟩;rw[R0 (M7 _ _ (by omega:j1<=max (max j1 O) (max j3 j4))) _ _ _ _ a1,R0 (M7 _ _ (by omega:O<=max (max j1 O) (max j3 j4))) _ _ _ _ J];exact fZ (u oM a2) (u oM a3) g3
   |none=>
   simp only[hz]at h ⊢;cases E:L5 P (CL P X) k x e H with
   |none=>simp [E]at h
   |some z=>
    obtain⟨j,D⟩:=S E;rw[E]at h;obtain⟨o,e',H'⟩:=z;cases o with
    |normal=>
     obtain⟨O,J⟩:=S h;exact⟨max j O,by rw[u (Nat.le_max_left _ _) D];exact u (Nat.le_max_right _ _) J⟩
    |exit i=>exact⟨j,by rw[D];exact h⟩
    |ret=>exact⟨j,by rw[D];exact h⟩
  case cond x y z=>
   split at h
   .rename_i ht;obtain⟨j,D⟩:=S h;exact⟨j,D⟩
   .cases h
  case block id x=>
   cases E:L5 P (CL P X) k x e H with
   |none=>simp [E]at h
   |some z=>obtain⟨j,D⟩:=S E;rw[E]at h;exact⟨j,by rw[D];exact h⟩
  case loop x=>
   cases E:L5 P (CL P X) k x e H with
   |none=>simp [E]at h
   |some z=>
    obtain⟨j,D⟩:=S E;rw[E]at h;obtain⟨o,e',H'⟩:=z;cases o with
    |normal=>
     obtain⟨O,J⟩:=S h;exact⟨max j O,by rw[u (Nat.le_max_left _ _) D];exact u (Nat.le_max_right _ _) J⟩
    |exit i=>exact⟨j,by rw[D];exact h⟩
    |ret=>exact⟨j,by rw[D];exact h⟩
  case scope x=>obtain⟨j,D⟩:=S h;exact⟨j,D⟩
theorem Ge{f:FuncId}(J:X f=none)(args:LV)(H:N7):CL P X f args H=body P (EL P X) f args H:=by
 refine sE fun r=>⟨fun h=>?_,fun h=>?_⟩
 .obtain⟨k,u⟩:=bZ.1 h;cases k with
  |zero=>cases u
  |succ k=>
   simp only[call,J]at u;refine jV (fun c e H r E=>?_) f args H r u;exact yV.2 ⟨k,aZ (fun f args H r E=>bZ.2 ⟨k,E⟩) k k lR c e H r E⟩
 .unfold body at h;split at h
  rotate_left
  .cases h
  rename_i c W rs O;split at h
  rotate_left
  .cases h
  rename_i U;cases D:EL P X c (N3 0 args) ⟨H.bs,H.bs.length⟩with
  |none=>simp [D]at h
  |some z=>
   obtain⟨k,u⟩:=yV.1 D;obtain⟨j,S⟩:=uj k u;refine bZ.2 ⟨max j k+1,?_⟩;simp only[call,J,body,O,if_pos U];rw[aZ (M7 j (max j k) (Nat.le_max_left _ _)) k (max j k) (Nat.le_max_right _ _) _ _ _ _ S];rw[D]at h;exact h
theorem JI{f:FuncId}{g:LV->N7->Option (Value×Option N7)}(z:X f=some g)(args:LV)(H:N7):CL P X f args H=g args H:=by
 refine sE fun r=>⟨fun h=>?_,fun h=>bZ.2 ⟨1,by simp only[call,z];exact h⟩⟩
 obtain⟨k,u⟩:=bZ.1 h;cases k with
 |zero=>cases u
 |succ k=>simp only[call,z]at u;exact u
theorem AD{X Y:Lib}(h:∀f,X f=Y f\/(X f=none/\fnA P f=none)):∀k,LeC (call P X k) (call P Y k):=by
 intro k;induction k with
 |zero=>intro f args H r u;cases u
 |succ k E=>
  intro f args H r u;simp only[call]at u ⊢;rcases h f with e|⟨e,D⟩
  .rw[<-e];split
   .rename_i g z;rw[z]at u;exact u
   .rename_i z;rw[z]at u;exact jV (aZ E k k lR) f args H r u
  .rw[e]at u;simp only[body,D]at u;cases u
theorem Gf{X Y:Lib}(h:∀f,X f=Y f\/(X f=none/\fnA P f=none)):LeC (CL P X) (CL P Y):=by
 intro f args H r z;obtain⟨k,u⟩:=bZ.1 z;exact bZ.2 ⟨k,AD h k f args H r u⟩
end
def fO(r:Option (Value×Option N7))(H:N7)(f:Value->N7->Option (Env×N7)):Of f (Option (Env×N7)):=
 match r with
 |some (v,none)=>f v H
 |some (v,some H')=>f v H'
 |none=>none
def Ev(ops:Array Oper)(j:Nat)(b:Bool)(e:Env):Bool:=
 match(ops[j]?).bind (·.dst)with
 |some d=>isB (e.get d) b
 |none=>false
def DC{α:Type}(v:Value)(x y:Option α):Of x (Of y (Option α)):=
 match v with
 | .bool t=>if t then x else y
 |_=>none
def u5(P:Program)(rs:List ResultVar)(H:N7)(x:Option (Out×Env×N7)):Option (Value×Option N7):=
 match x with
 |some (.exit _,_,_)=>none
 |some (_,e,H')=>(rs.mapM (M0 P e H')).map fun vs=>D6 (bN vs) H H'
 |none=>none
section
variable{P:Program}{X:Lib}
theorem JK{f:FuncId}{c:Code}{D:Nat}{u:List ResultVar}(J:fnA P f=some (c,D,u))(E:X f=none)(args:LV)(O:args.length<=D)(H:N7):
  CL P X f args H=u5 P u H (EL P X c (N3 0 args) ⟨H.bs,H.bs.length⟩):=by
 rw[Ge E,body,J];simp only[if_pos O,u5];cases EL P X c (N3 0 args) ⟨H.bs,H.bs.length⟩with
 |none=>rfl
 |some z=>
  obtain⟨o,e,H'⟩:=z;cases o with
  |exit i=>rfl
  |normal=>simp only;cases List.mapM (M0 P e H') u<;>rfl
  |ret=>simp only;cases List.mapM (M0 P e H') u<;>rfl
theorem wM(v:Value)(H:N7)(f:Value->N7->Option (Env×N7)):fO (some (v,none)) H f=f v H:=rT
theorem wN(v:Value)(H H':N7)(f:Value->N7->Option (Env×N7)):fO (some (v,some H')) H f=f v H':=rT
theorem pD(e:Env)(H:N7):S4 (some (e,H))=some (.normal,e,H):=rT
theorem Es(k:Nat)(v:Value)(e:Env)(t:Nat):Env.get ((k,v)::e) t=if k=t then v else Env.get e t:=rT
theorem Cg(e:Env)(d:Nat)(v:Value):I3 e (some d) v=(d,v)::e:=rT
theorem Cf(e:Env)(v:Value):I3 e none v=e:=rT
theorem Is(e:Env)(t:Nat):opv e (.tmp t)=e.get t:=rT
theorem BW(e:Env)(v:Value):opv e (.const v)=v:=rT
theorem Fm(e:Env)(f:FuncId):opv e (.func f)= .func (.func f) #[] #[]:=rT
def kp(v:Option Value):Option (Value×Option N7):=keep v
theorem HK(v:Value):kp (some v)=some (v,none):=rT
def Fu(c x y:Value):Option Value:=
 match c with
 | .bool t=>some (if t then x else y)
 |_=>none
theorem xX(t:Bool)(x y:Value):Fu (.bool t) x y=some (if t=true then x else y):=by cases t<;>rfl
section
variable(C:A8)(e:Env)(H:N7)
theorem Di(x:Operand):aop P C (.move x) e H=kp (some (opv e x)):=rT
theorem wh(x:Operand):aop P C (.assign x) e H=kp (some (opv e x)):=rT
theorem Dk(c x y:Operand):aop P C (.pick c x y) e H=kp (Fu (opv e c) (opv e x) (opv e y)):=by
 simp only[aop,Fu,kp];cases opv e c<;>rfl
theorem Ai(t:TypeId):aop P C (.alloc t) e H=turn ((O9 P t).map fun z=>(.pointer (some ⟨H.next,0,none⟩),H.push (.cells z true 1))):=rT
theorem Gs(t:TypeId)(x:Operand):aop P C (.box t x) e H=if(opv e x).cells.toList.all oC=true then some (.pointer (some ⟨H.next,0,none⟩),some (H.push (.cells (opv e x).cells.toList true 1))) else none:=rT
theorem Aj(t:TypeId)(u:Array (Nat×Operand)):aop P C (.build t u) e H=kp (mE P t (u.toList.map fun p=>(p.1,opv e p.2))):=rT
theorem my(t:TypeId)(n:Nat)(u:Array (Nat×Operand)):aop P C (.buildSlice t n u) e H=turn (Q7 P H t n (u.toList.map fun p=>(p.1,opv e p.2))):=rT
theorem Dg(t:TypeId)(a:Operand):aop P C (.load t a) e H=kp (ld P t H (opv e a)):=rT
theorem Ap(t:TypeId)(a x:Operand):aop P C (.store t a x) e H=turn ((sto P t H (opv e a) (opv e x)).map fun H'=>(undef,H')):=rT
def Ie(v:Value):Option Value:=
 match v with
 | .pointer (some a)=>some (.pointer (some a))
 | .func (.func g) f c=>some (.func (.func g) f c)
 |_=>none
theorem rh(x:Operand):aop P C (.nilCheck x) e H=kp (Ie (opv e x)):=by
 simp only[aop,Ie,kp];split<;>first|rfl|(split<;>first|rfl|simp_all)
theorem Gr(op:BinOp)(t:TypeId)(x y:Operand)(u:TypeId):aop P C (.binOp op t x y u) e H=kp (F6 P op t (opv e x) (opv e y)):=rT
theorem JS(op:UnOp)(t:TypeId)(x:Operand):aop P C (.unOp op t x) e H=kp (unA op (opv e x)):=rT
theorem Ce(s d:TypeId)(x:Operand):aop P C (.convert s d x) e H=Z4 P H s d (opv e x):=rT
theorem Df(g:FuncId)(f c:Array Operand):aop P C (.makeFunc (.func g) f c) e H=some (.func (.func g) (f.toList.map (opv e)).toArray (c.toList.map (opv e)).toArray,none):=rT
theorem Gt(t:TypeId):aop P C (.makeMap t none) e H=some (.map (some H.next),some (H.push (.map []))):=rT
theorem Dh(t:TypeId)(l c:Operand):aop P C (.makeSlice t l c) e H=turn (N0 P H t (opv e l) (opv e c)):=rT
theorem Ao(t:TypeId)(x:Operand)(lo u z:Option Operand):aop P C (.slice t x lo u z) e H=kp (aH P H t (opv e x) (lo.map (opv e)) (u.map (opv e)) (z.map (opv e))):=rT
theorem vF(t:TypeId)(x:Operand)(i:Nat):aop P C (.fieldAddr t x i) e H=kp (bf P t (opv e x) i):=rT
theorem Al(t:TypeId)(x:Operand)(i:Nat):aop P C (.field t x i) e H=kp (oI P t (opv e x) i):=rT
theorem pl(t:TypeId)(x i:Operand):aop P C (.indexAddr t x i) e H=kp (U5 P t (opv e x) (opv e i)):=rT
theorem Am(t:TypeId)(x i:Operand):aop P C (.index t x i) e H=kp (fY P t (opv e x) (opv e i)):=rT
theorem wi(t:TypeId)(m k:Operand)(ok:Bool):aop P C (.lookup t m k ok) e H=kp (gQ P H t (opv e m) (opv e k) ok):=rT
theorem pp(t:TypeId)(m k v:Operand):aop P C (.mapUpdate t m k v) e H=turn ((Y7 P H t (opv e m) (opv e k) (opv e v)).map fun H'=>(undef,H')):=rT
def yc(P:Program)(t:TypeId)(H:N7)(v:Value):Option (Value×Option N7):=
 match P.underlying t,v with
 |some .string,.string s=>some (.pointer (some ⟨H.next,0,none⟩),some (H.push (.iter s 0)))
 |_,_=>none
theorem An(t:TypeId)(x:Operand):aop P C (.range t x) e H=yc P t H (opv e x):=rT
theorem Dj(it:Operand):aop P C (.next it true) e H=jB H (opv e it):=rT
def mS(v:Value)(i:Nat):Option Value:=
 match v with
 | .tuple vs=>if vs.toList.length<9 then vs.toList[i]? else none
 |_=>none
theorem mT(u:Array Value)(i:Nat):mS (.tuple u) i=if u.toList.length<9 then u.toList[i]? else none:=rT
theorem tm(x:Operand)(i:Nat):aop P C (.extract x i) e H=kp (mS (opv e x) i):=by
 simp only[aop,mS,kp];cases opv e x with
 |tuple u=>by_cases h:u.toList.length<9<;>simp only[h,if_true,if_false]<;>rfl
 |_=>rfl
theorem th(b:Builtin)(xs:Array Operand)(ts:Array TypeId):aop P C (.call ⟨.builtin b,xs,ts⟩) e H=D7 P b ts.toList (xs.toList.map (opv e)) H:=rT
def fC(C:A8)(f:Value)(args:LV)(H:N7):Option (Value×Option N7):=
 match f with
 | .func (.func g) first captured=>C g (first.toList++args++captured.toList) H
 |_=>none
theorem tu(g:FuncId)(f c:Array Value)(args:LV):fC C (.func (.func g) f c) args H=C g (f.toList++args++c.toList) H:=rT
theorem De(f:Operand)(xs:Array Operand)(ts:Array TypeId):aop P C (.call ⟨.value f,xs,ts⟩) e H=fC C (opv e f) (xs.toList.map (opv e)) H:=rT
theorem CD(v:Value)(H':N7):turn (some (v,H'))=some (v,some H'):=rT
theorem Gv(t:TypeId)(k:IntKind)(a b:Int):F6 P .add t (.int k a) (.int k b)=some (.int k (k.wrap (a+b))):=by simp [F6]
theorem GF(t:TypeId)(k:IntKind)(a b:Int):F6 P .sub t (.int k a) (.int k b)=some (.int k (k.wrap (a-b))):=by simp [F6]
theorem GC(t:TypeId)(k:IntKind)(a b:Int):F6 P .mul t (.int k a) (.int k b)=some (.int k (k.wrap (a*b))):=by simp [F6]
theorem GE(t:TypeId)(k:IntKind)(a b:Int)(h:b≠0):F6 P .rem t (.int k a) (.int k b)=some (.int k (a.tmod b)):=by simp [F6,h]
theorem Gw(t:TypeId)(k:IntKind)(a b:Int):F6 P .and t (.int k a) (.int k b)=some (.int k (Go.bits .and k a b)):=by simp [F6]
theorem JV(t:TypeId)(k:IntKind)(a b:Int):F6 P .or t (.int k a) (.int k b)=some (.int k (Go.bits .or k a b)):=by simp [F6]
theorem GG(t:TypeId)(k:IntKind)(a b:Int):F6 P .xor t (.int k a) (.int k b)=some (.int k (Go.bits .xor k a b)):=by simp [F6]
theorem wl(t:TypeId)(k:IntKind)(a b:Int):F6 P .andNot t (.int k a) (.int k b)=some (.int k (Go.bits .andNot k a b)):=by simp [F6]
theorem GB(t:TypeId)(k:IntKind)(a b:Int):F6 P .lss t (.int k a) (.int k b)=some (.bool (decide (a<b))):=by simp [F6]
theorem Gz(t:TypeId)(k:IntKind)(a b:Int):F6 P .leq t (.int k a) (.int k b)=some (.bool (decide (a<=b))):=by simp [F6]
theorem Gy(t:TypeId)(k:IntKind)(a b:Int):F6 P .gtr t (.int k a) (.int k b)=some (.bool (decide (b<a))):=by simp [F6]
theorem Gx(t:TypeId)(k:IntKind)(a b:Int):F6 P .geq t (.int k a) (.int k b)=some (.bool (decide (b<=a))):=by simp [F6]
theorem tB(t:TypeId)(k:IntKind)(a b:Int):F6 P .eql t (.int k a) (.int k b)=some (.bool (decide (a=b))):=by simp [F6,eqA];rfl
theorem tI(t:TypeId)(k:IntKind)(a b:Int):F6 P .neq t (.int k a) (.int k b)=some (.bool (!decide (a=b))):=by simp [F6,eqA];rfl
theorem sO(a b:ByteArray):(a==b)=decide (a=b):=by
 rw[Bool.eq_iff_iff,decide_eq_true_iff]
 constructor
 .intro h;rw[beq_toListBytes,beq_iff_eq,ByteArray.toList_eq,ByteArray.toList_eq]at h;have u:=Array.toList_inj.1 h;obtain⟨a⟩:=a;obtain⟨b⟩:=b;simp only at u;rw[u]
 .rintro rfl;exact jX _
theorem tC(t:TypeId)(a b:ByteArray):F6 P .eql t (.string a) (.string b)=some (.bool (decide (a=b))):=by simp [F6,eqA,sO]
theorem tJ(t:TypeId)(a b:ByteArray):F6 P .neq t (.string a) (.string b)=some (.bool (!decide (a=b))):=by simp [F6,eqA,sO]
theorem rm(t:TypeId)(a b:Bool)(h:vI P t=true):F6 P .eql t (.bool a) (.bool b)=some (.bool (a==b)):=by simp [F6,eqA,h]
theorem eI(t:TypeId)(a b:Bool)(h:vI P t=true):F6 P .neq t (.bool a) (.bool b)=some (.bool (!(a==b))):=by simp [F6,eqA,h]
theorem Z3(t:TypeId)(a b:ByteArray)(h:a.size+b.size<=9223372036854775807):F6 P .add t (.string a) (.string b)=some (.string (a++b)):=by simp [F6,h]
theorem Nt(t:TypeId)(k u:IntKind)(a b:Int)(h:0<=b):F6 P .shl t (.int k a) (.int u b)=some (.int k (k.wrap (a*2 ^ (min b.toNat k.bits)))):=by simp [F6,h]
theorem MH(b:Bool):unA .not (.bool b)=some (.bool !b):=rT
theorem MG(k:IntKind)(n:Int):unA .neg (.int k n)=some (.int k (k.wrap (0-n))):=rT
theorem bap(ts:List TypeId)(s x:Value):D7 P .append ts [s,x] H=C2 P H ts s x:=rT
theorem bcp(ts:List TypeId)(s x:Value):D7 P .copy ts [s,x] H=kI P H ts s x:=rT
end
theorem Ic(b:Bool):L9 (.bool b)=true:=rT
theorem LW(k:IntKind)(n:Int):L9 (.int k n)=true:=rT
theorem BN(s:ByteArray):L9 (.string s)=true:=rT
theorem Fp(v:Value):bN [v]=v:=rT
theorem Fq(a b:Value):bN [a,b]= .tuple #[a,b]:=rT
theorem xW(a b c:Value):bN [a,b,c]= .tuple #[a,b,c]:=rT
theorem qB(a b:Value):L9 (.tuple #[a,b])=(na1 a&&na1 b):=by simp [L9]
theorem qC(a b c:Value):L9 (.tuple #[a,b,c])=(na1 a&&(na1 b&&na1 c)):=by simp [L9]
theorem Fa(b:Bool):na1 (.bool b)=true:=rT
theorem Ia(k:IntKind)(n:Int):na1 (.int k n)=true:=rT
theorem xO(s:ByteArray):na1 (.string s)=true:=rT
theorem BM(a:Addr)(n c:Nat):na1 (.slice (some a) n c)=false:=rT
theorem Ib:na1 (.slice none 0 0)=true:=rT
theorem Fb(a:Addr)(n c:Nat):L9 (.slice (some a) n c)=false:=rT
theorem LX:L9 (.slice none 0 0)=true:=rT
theorem mD(u:List ResultVar)(H:N7)(e:Env)(H':N7):u5 P u H (some (.normal,e,H'))=(u.mapM (M0 P e H')).map fun z=>D6 (bN z) H H':=rT
theorem tL(u:List ResultVar)(H:N7)(e:Env)(H':N7):u5 P u H (some (.ret,e,H'))=(u.mapM (M0 P e H')).map fun z=>D6 (bN z) H H':=rT
theorem IA(e:Env)(H:N7)(t:Nat):[ResultVar.tmp t].mapM (M0 P e H)=some [e.get t]:=rT
theorem IB(e:Env)(H:N7)(t u:Nat):[ResultVar.tmp t,.tmp u].mapM (M0 P e H)=some [e.get t,e.get u]:=rT
theorem Cn(e:Env)(H:N7)(t u v:Nat):[ResultVar.tmp t,.tmp u,.tmp v].mapM (M0 P e H)=some [e.get t,e.get u,e.get v]:=rT
end
def br{α:Type}(t:Bool)(x y:α):Of x (Of y α):=if t=true then x else y
theorem GJ{α:Type}(x y:α):br true x y=x:=rT
theorem Dn{α:Type}(x y:α):br false x y=y:=rT
theorem JX{α:Type}(t:Bool)(x y:α):br (!t) x y=br t y x:=by cases t<;>rfl
section
variable{P:Program}{X:Lib}
@[congr] theorem MN {c:Code} {e e':Env} {H H':N7} (he:e=e') (hH:H=H'):EL P X c e H=EL P X c e' H':=by rw[he,hH]
@[congr] theorem IH {C:A8} {ops:Array Oper} {l:List Oper} {e e':Env} {H H':N7} (he:e=e') (hH:H=H'):D1 P C ops l e H=D1 P C ops l e' H':=by rw[he,hH]
@[congr] theorem Hy {ops:Array Oper} {j:Nat} {b:Bool} {e e':Env} (he:e=e'):Ev ops j b e=Ev ops j b e':=by rw[he]
end
theorem DD{α:Type}(t:Bool)(x y:Option α):DC (.bool t) x y=br t x y:=by cases t<;>rfl
section
variable{P:Program}{X:Lib}
def qg(r:Option (Value×Option N7))(f:Value->Option (Env×N7))(g:Value->N7->Option (Env×N7)):Of f (Of g (Option (Env×N7))):=
 match r with
 |some (v,none)=>f v
 |some (v,some H')=>g v H'
 |none=>none
theorem wJ(v:Value)(f:Value->Option (Env×N7))(g:Value->N7->Option (Env×N7)):qg (some (v,none)) f g=f v:=rT
theorem wK(v:Value)(H':N7)(f:Value->Option (Env×N7))(g:Value->N7->Option (Env×N7)):qg (some (v,some H')) f g=g v H':=rT
theorem Bv(f:Operand)(a:Array Operand)(t:Array TypeId):isCall (.call ⟨.value f,a,t⟩)=true:=rT
theorem Bu(f:Builtin)(a:Array Operand)(t:Array TypeId):isCall (.call ⟨.builtin f,a,t⟩)=false:=rT
theorem uG(x:Operand):isCall (.move x)=false:=rT
theorem pA(x:Operand):isCall (.assign x)=false:=rT
theorem uH(x y z:Operand):isCall (.pick x y z)=false:=rT
theorem xB(o:BinOp)(t:TypeId)(x y:Operand)(u:TypeId):isCall (.binOp o t x y u)=false:=rT
theorem Bw(o:UnOp)(t:TypeId)(x:Operand):isCall (.unOp o t x)=false:=rT
theorem uE(t:TypeId)(x:Operand):isCall (.load t x)=false:=rT
theorem rU(t:TypeId)(x:Operand)(i:Nat):isCall (.field t x i)=false:=rT
theorem kh(t:TypeId)(x:Operand)(i:Nat):isCall (.fieldAddr t x i)=false:=rT
theorem rV(t:TypeId)(x i:Operand):isCall (.index t x i)=false:=rT
theorem ki(t:TypeId)(x i:Operand):isCall (.indexAddr t x i)=false:=rT
theorem nB(s t:TypeId)(x:Operand):isCall (.convert s t x)=false:=rT
theorem nF(x:Operand)(i:Nat):isCall (.extract x i)=false:=rT
theorem rS(t:TypeId)(p:Array (Nat×Operand)):isCall (.build t p)=false:=rT
theorem rX(t:TypeId)(x:Operand)(a b c:Option Operand):isCall (.slice t x a b c)=false:=rT
theorem pB(t:TypeId)(x y:Operand)(b:Bool):isCall (.lookup t x y b)=false:=rT
def brl{α:Type}(v:Value)(b:Bool)(x y:Option α):Of x (Of y (Option α)):=if xC v=true then none else if isB v b=true then x else y
theorem Dp{α:Type}(t:Bool)(x y:Option α):brl (.bool t) true x y=br t x y:=by cases t<;>rfl
theorem Ay{α:Type}(t:Bool)(x y:Option α):brl (.bool t) false x y=br t y x:=by cases t<;>rfl
theorem GK{α:Type}(b:Bool)(x y:Option α):brl undef b x y=y:=by cases b<;>rfl
end
section
variable{H:N7}{B:Blk}{b c:Nat}
theorem i5:(H.push B).next=H.next+1:=by simp [N7.next,N7.push]
theorem t5:(H.put b B).next=H.next:=by simp [N7.next,N7.put]
theorem j9:(H.push B).get H.next=some B:=by simp [N7.get,N7.push,N7.next]
theorem y7(h:b<=H.next/\H.next<=b):(H.push B).get b=some B:=by
 obtain rfl:b=H.next:=oM;exact j9
theorem i7(h:b<H.next):(H.push B).get b=H.get b:=by
 simp only[N7.get,N7.push];exact List.getElem?_append_left h
theorem j5(h:b<H.next):(H.put b B).get b=some B:=by
 simp only[N7.get,N7.put,List.getElem?_set];simp;exact h
theorem j6(h:b≠c):(H.put b B).get c=H.get c:=by
 simp only[N7.get,N7.put,List.getElem?_set,if_neg h]
theorem u7(h:H.get b=some B):b<H.next:=(gS h).1
theorem l9:(H.push B).low=H.low:=rT
theorem A4:(H.put b B).low=min H.low b:=rT
theorem zG(bs:List Blk)(n:Nat):(⟨bs,n⟩:N7).next=bs.length:=rT
theorem uP(H:N7):H.bs.length=H.next:=rT
end
section
variable{P:Program}
def ldB(P:Program)(t:TypeId)(o:Nat)(B:Option Blk):Option Value:=
 match B with
 |some (.cells c _ _)=>
  match bT P t with
  |some true=>
   match D8 P t with
   |some s=>if o+s<=c.length then some (.agg ((c.drop o).take s).toArray) else none
   |none=>none
  |some false=>c[o]?
  |none=>none
 |_=>none
theorem LF(t:TypeId)(H:N7)(b o:Nat):ld P t H (.pointer (some ⟨b,o,none⟩))=ldB P t o (H.get b):=by
 simp only[ld,ldB];cases H.get b with
 |none=>rfl
 |some B=>cases B<;>rfl
def ldC(a:Option Bool)(s:Option Nat)(o:Nat)(c:LV):Option Value:=
 match a with
 |some true=>
  match s with
  |some s=>if o+s<=c.length then some (.agg ((c.drop o).take s).toArray) else none
  |none=>none
 |some false=>c[o]?
 |none=>none
theorem BA(t:TypeId)(o:Nat)(c:LV)(own:Bool)(sz:Nat):ldB P t o (some (.cells c own sz))=ldC (bT P t) (D8 P t) o c:=rT
theorem eW(s o:Nat)(c:LV)(h:o+s<=c.length):ldC (some true) (some s) o c=some (.agg ((c.drop o).take s).toArray):=by simp [ldC,h]
theorem mY{α:Type}{enc:α->LV}{sz:Nat}(u:∀a,(enc a).length=sz):∀{l:List α}{i:Nat}{a:α},l[i]?=some a->i*sz+sz<=(l.flatMap enc).length/\((l.flatMap enc).drop (i*sz)).take sz=enc a
 |[],i,a,h=>by simp at h
 |x::l,0,a,h=>by
  simp at h;subst h;have:=u x;simp only[List.flatMap_cons,Nat.zero_mul,List.drop_zero,List.length_append,this,Nat.zero_add];refine⟨oM,?_⟩;rw[<-this,List.take_append_of_le_length lR,List.take_length]
 |x::l,i+1,a,h=>by
  have D:=u x;obtain⟨E,z⟩:=mY u (l:=l) (i:=i) (a:=a) (by simpa using h);have e:(i+1)*sz=(enc x).length+i*sz:=by rw[D,Nat.add_mul];omega
  rw[List.flatMap_cons,e];refine⟨by rw[List.length_append];omega,?_⟩;rw[<-List.drop_drop,List.drop_left];exact z
theorem Se{α:Type}{enc:α->LV}{sz:Nat}(D:∀a,(enc a).length=sz) {l:List α} {i:Nat} {a:α} (h:l[i]?=some a):
  ldC (some true) (some sz) (i*sz) (l.flatMap enc)=some (.agg (enc a).toArray):=by
 obtain⟨u,z⟩:=mY D h;rw[eW _ _ _ u,z]
theorem HL(s:Option Nat)(o:Nat)(c:LV):ldC (some false) s o c=c[o]?:=rT
theorem Fz(e:Env)(H:N7)(a:Nat)(t:TypeId):[ResultVar.cell a t].mapM (M0 P e H)=(ld P t H (e.get a)).map fun v=>[v]:=by
 simp only[List.mapM_cons,List.mapM_nil,M0];cases ld P t H (e.get a)<;>rfl
def A3(s:ByteArray)(i:Nat):Int:=(s.data.toList.getD i 0).toNat
def Lw(d:Option TypeDesc)(s:ByteArray)(i:Nat):Option Value:=
 match d with
 |some .string=>some (.int .u8 (A3 s i))
 |_=>none
theorem Ez(s:ByteArray)(i:Nat):Lw (some .string) s i=some (.int .u8 (A3 s i)):=rT
theorem xA(t:TypeId)(s:ByteArray)(k:IntKind)(i:Int)(u:0<=i)(z:i<s.size):fY P t (.string s) (.int k i)=Lw (P.underlying t) s i.toNat:=by
 simp only[fY,Lw];cases P.underlying t with
 |none=>rfl
 |some d=>cases d<;>first|rfl|(simp [u,z,A3])
def HE(P:Program)(d:Option TypeDesc)(cs:LV)(i:Int):Option Value:=
 match d with
 |some (.array n e)=>match D8 P e with
  |some size=>if 0<=i/\i<n then ik P e cs (i.toNat*size) else none
  |none=>none
 |_=>none
theorem Bt(t:TypeId)(a:Array Value)(k:IntKind)(i:Int):fY P t (.agg a) (.int k i)=HE P (P.underlying t) a.toList i:=by
 simp only[fY,HE];cases P.underlying t with
 |none=>rfl
 |some d=>cases d<;>rfl
def Lv(P:Program)(e:TypeId)(s:Option Nat)(cs:LV)(i:Int):Option Value:=
 match s with
 |some size=>ik P e cs (i.toNat*size)
 |none=>none
theorem Ey(n:Nat)(e:TypeId)(cs:LV)(i:Int)(u:0<=i)(z:i<n):HE P (some (.array n e)) cs i=Lv P e (D8 P e) cs i:=by simp [HE,Lv,u,z]
theorem Br(e:TypeId)(s:Nat)(cs:LV)(i:Int):Lv P e (some s) cs i=ik P e cs (i.toNat*s):=rT
def MC(P:Program)(t:TypeId)(H:N7)(b o:Nat)(x:LV)(B:Option Blk):Option N7:=
 match B with
 |some (.cells c true sz)=>if D8 P t=some x.length/\o+x.length<=c.length/\x.all Value.oneCell'=true then some (H.put b (.cells (splice c o x) true sz)) else none
 |_=>none
theorem IU(t:TypeId)(H:N7)(b o:Nat)(x:Value):sto P t H (.pointer (some ⟨b,o,none⟩)) x=MC P t H b o x.cells.toList (H.get b):=by
 simp only[sto,MC];cases H.get b with
 |none=>rfl
 |some B=>cases B with
  |cells c own sz=>cases own<;>rfl
  |_=>rfl
theorem Cw(t:TypeId)(H:N7)(b o:Nat)(x:LV)(c:LV)(sz:Nat):MC P t H b o x (some (.cells c true sz))=
  if D8 P t=some x.length/\o+x.length<=c.length/\x.all oC=true then some (H.put b (.cells (splice c o x) true sz)) else none:=rT
theorem AE(a:Array Value):(Value.agg a).cells.toList=a.toList:=rT
theorem AF(k:IntKind)(n:Int):(Value.int k n).cells.toList=[.int k n]:=rT
theorem wB(b:Bool):(Value.bool b).cells.toList=[.bool b]:=rT
theorem rv(s:ByteArray):(Value.string s).cells.toList=[.string s]:=rT
theorem tO(a:Option Addr)(n c:Nat):(Value.slice a n c).cells.toList=[.slice a n c]:=rT
theorem pu(a:Option Addr):(Value.pointer a).cells.toList=[.pointer a]:=rT
theorem AG(a:Option Nat):(Value.map a).cells.toList=[.map a]:=rT
theorem wC{f:_}(a c:Array Value):(Value.func f a c).cells.toList=[.func f a c]:=rT
theorem Im(k:IntKind)(n:Int):Value.oneCell' (.int k n)=true:=rT
theorem Fk(b:Bool):Value.oneCell' (.bool b)=true:=rT
theorem xU(s:ByteArray):Value.oneCell' (.string s)=true:=rT
theorem BV(a:Option Addr)(n c:Nat):Value.oneCell' (.slice a n c)=true:=rT
theorem uZ(a:Option Addr):Value.oneCell' (.pointer a)=true:=rT
theorem Io(a:Option Nat):Value.oneCell' (.map a)=true:=rT
theorem Fl{f:_}(a c:Array Value):Value.oneCell' (.func f a c)=true:=rT
theorem yE(c:LV)(o:Nat):splice c o []=c:=rT
theorem vD(c:LV)(o:Nat)(x:Value)(xs:LV):splice c o (x::xs)=splice (c.set o x) (o+1) xs:=rT
theorem FL(x y:Value)(l:LV):(x::l).set 0 y=y::l:=rT
theorem FK(x y:Value)(l:LV)(n:Nat):(x::l).set (n+1) y=x::l.set n y:=rT
def iy(P:Program)(q:Option (Nat×TypeId))(b o:Nat):Option Value:=
 match q with
 |some (off,ft)=>match D8 P ft with
  |some s=>if s=0 then none else some (.pointer (some ⟨b,o+off,none⟩))
  |none=>none
 |none=>none
theorem wF(t:TypeId)(i b o:Nat):bf P t (.pointer (some ⟨b,o,none⟩)) i=iy P (sT P t i) b o:=by
 simp only[bf,iy];cases sT P t i<;>rfl
def JE(s:Option Nat)(b o off:Nat):Option Value:=
 match s with
 |some s=>if s=0 then none else some (.pointer (some ⟨b,o+off,none⟩))
 |none=>none
theorem TD(u:Nat)(z:TypeId)(b o:Nat):iy P (some (u,z)) b o=JE (D8 P z) b o u:=rT
theorem yM(s b o u:Nat):JE (some s) b o u=if s=0 then none else some (.pointer (some ⟨b,o+u,none⟩)):=rT
def Fs(a:Option Bool)(s:Option Nat)(cs:LV)(off:Nat):Option Value:=
 match a,s with
 |some true,some s=>some (.agg ((cs.drop off).take s).toArray)
 |some false,_=>cs[off]?
 |_,_=>none
theorem Iu(t:TypeId)(cs:LV)(u:Nat):ik P t cs u=Fs (bT P t) (D8 P t) cs u:=rT
theorem Cb(s:Nat)(cs:LV)(u:Nat):Fs (some true) (some s) cs u=some (.agg ((cs.drop u).take s).toArray):=rT
theorem Cc(s:Option Nat)(cs:LV)(u:Nat):Fs (some false) s cs u=cs[u]?:=rT
def wV(P:Program)(q:Option (Nat×TypeId))(a:LV):Option Value:=
 match q with
 |some (off,ft)=>ik P ft a off
 |none=>none
theorem Bf(t:TypeId)(i:Nat)(a:Array Value):oI P t (.agg a) i=wV P (sT P t i) a.toList:=by
 simp only[oI,wV];cases sT P t i<;>rfl
theorem ul(u:Nat)(z:TypeId)(a:LV):wV P (some (u,z)) a=ik P z a u:=rT
def xw(s:Option Nat)(b o:Nat)(i:Int):Option Value:=
 match s with
 |some s=>some (.pointer (some ⟨b,o+i.toNat*s,none⟩))
 |none=>none
theorem Bq(s b o:Nat)(i:Int):xw (some s) b o i=some (.pointer (some ⟨b,o+i.toNat*s,none⟩)):=rT
def Lu(P:Program)(d:Option TypeDesc)(b o:Nat)(i:Int):Option Value:=
 match d with
 |some (.slice e)=>xw (D8 P e) b o i
 |_=>none
theorem xx(e:TypeId)(b o:Nat)(i:Int):Lu P (some (.slice e)) b o i=xw (D8 P e) b o i:=rT
theorem lH(t:TypeId)(b o n c:Nat)(k:IntKind)(i:Int)(u:0<=i)(z:i<n):
  U5 P t (.slice (some ⟨b,o,none⟩) n c) (.int k i)=Lu P (P.underlying t) b o i:=by
 simp only[U5,Lu];cases h:P.underlying t with
 |none=>rfl
 |some d=>
  cases d<;>first|rfl|skip
  rename_i e;simp only[xw];cases D8 P e with
  |none=>rfl
  |some s=>simp [u,z]
def Hz(P:Program)(d:Option TypeDesc)(b o:Nat)(i:Int):Option Value:=
 match d with
 |some (.array m e)=>if 0<=i/\i<m then xw (D8 P e) b o i else none
 |_=>none
theorem xy(m:Nat)(e:TypeId)(b o:Nat)(i:Int)(u:0<=i)(z:i<m):Hz P (some (.array m e)) b o i=xw (D8 P e) b o i:=by simp [Hz,u,z]
theorem lG(t:TypeId)(b o:Nat)(k:IntKind)(i:Int):U5 P t (.pointer (some ⟨b,o,none⟩)) (.int k i)=Hz P (P.underlying t) b o i:=by
 simp only[U5,Hz];cases h:P.underlying t with
 |none=>rfl
 |some d=>
  cases d<;>first|rfl|skip
  rename_i m e;simp only[xw];cases D8 P e with
  |none=>simp
  |some s=>rfl
theorem Ih(a:Addr):Ie (.pointer (some a))=some (.pointer (some a)):=rT
theorem Ig(g:FuncId)(f c:Array Value):Ie (.func (.func g) f c)=some (.func (.func g) f c):=rT
def wo(z:Option (LV))(q:Option (List (Nat×Nat)⊕Nat))(parts:List (Nat×Value)):Option Value:=
 match z,q with
 |some z,some (.inl ps)=>(T4 (fun i=>ps[i]?) z parts).map fun l=> .agg l.toArray
 |some z,some (.inr s)=>(T4 (fun i=>some (i*s,s)) z parts).map fun l=> .agg l.toArray
 |_,_=>none
theorem Dq(t:TypeId)(u:List (Nat×Value)):mE P t u=wo (O9 P t) (FU P t) u:=rT
theorem pq(z:LV)(D:List (Nat×Nat))(u:List (Nat×Value)):wo (some z) (some (.inl D)) u=(T4 (fun i=>D[i]?) z u).map fun l=> .agg l.toArray:=rT
theorem rq(z:LV)(s:Nat)(u:List (Nat×Value)):wo (some z) (some (.inr s)) u=(T4 (fun i=>some (i*s,s)) z u).map fun l=> .agg l.toArray:=rT
theorem DZ(u:Nat->Option (Nat×Nat))(cs:LV):T4 u cs []=some cs:=rT
def DY(place:Nat->Option (Nat×Nat))(cs:LV)(v:LV)(rest:List (Nat×Value))(q:Option (Nat×Nat)):Option (LV):=
 match q with
 |none=>none
 |some (off,size)=>if v.length=size/\off+size<=cs.length/\v.all Value.oneCell'=true then T4 place (splice cs off v) rest else none
theorem Bg(u:Nat->Option (Nat×Nat))(cs:LV)(i:Nat)(v:Value)(rest:List (Nat×Value)):T4 u cs ((i,v)::rest)=DY u cs v.cells.toList rest (u i):=by
 simp only[T4,DY];cases u i with
 |none=>rfl
 |some q=>
  simp only;cases D:v.cells.toList.all oC with
  |true=>
   by_cases h:v.cells.toList.length=q.2/\q.1+q.2<=cs.length
   .rw[if_neg (fun k=>by rcases k with k|k|k;exact k h.1;omega;cases k),if_pos ⟨h.1,h.2,rfl⟩]
   .rw[if_pos (by by_cases z:v.cells.toList.length=q.2;exact .inr (.inl oM);exact .inl z),if_neg (fun k=>h ⟨k.1,k.2.1⟩)]
  |false=>rw[if_pos (.inr (.inr rfl)),if_neg (fun k=>by cases k.2.2)]
theorem wW(u:Nat->Option (Nat×Nat))(cs:LV)(v:LV)(rest:List (Nat×Value))(z size:Nat):
  DY u cs v rest (some (z,size))=if v.length=size/\z+size<=cs.length/\v.all oC=true then T4 u (splice cs z v) rest else none:=rT
def bsB(z:Option (LV))(H:N7)(len:Nat)(parts:List (Nat×Value)):Option (Value×N7):=
 match z with
 |some z=>
  if z.length≠0/\len*z.length<=16777216/\(parts.all fun p=>p.2.cells.toList.all Value.oneCell')=true then
   (T4 (fun i=>some (i*z.length,z.length)) (List.replicate len z).flatten parts).map fun cs=>(.slice (some ⟨H.next,0,none⟩) len len,H.push (.cells cs true z.length))
  else none
 |none=>none
def bsA(P:Program)(e:Option TypeId)(H:N7)(len:Nat)(parts:List (Nat×Value)):Option (Value×N7):=
 match e with
 |some e=>bsB (O9 P e) H len parts
 |none=>none
theorem pt(t:TypeId)(H:N7)(D:Nat)(u:List (Nat×Value)):Q7 P H t D u=bsA P (I5 P t) H D u:=by
 simp only[Q7,bsA];cases I5 P t with
 |none=>rfl
 |some e=>
  simp only[bsB];cases O9 P e with
  |none=>rfl
  |some z=>
   simp only;by_cases h:z.length≠0/\D*z.length<=16777216/\(u.all fun p=>p.2.cells.toList.all oC)=true
   .rw[if_pos h,if_neg (by rw[h.2.2];simp only[Bool.true_eq_false,or_false];omega)];cases T4 (fun i=>some (i*z.length,z.length)) (List.replicate D z).flatten u<;>rfl
   .rw[if_neg h,if_pos];by_cases E:(u.all fun p=>p.2.cells.toList.all oC)=true
    .rw[E]at h ⊢;simp only[and_true,Bool.true_eq_false,or_false]at h ⊢;omega
    .exact .inr (.inr (by simpa using E))
theorem C7(e:TypeId)(H:N7)(z:Nat)(u:List (Nat×Value)):bsA P (some e) H z u=bsB (O9 P e) H z u:=rT
theorem C8(z:LV)(H:N7)(D:Nat)(u:List (Nat×Value)):bsB (some z) H D u=
  if z.length≠0/\D*z.length<=16777216/\(u.all fun p=>p.2.cells.toList.all oC)=true then
   (T4 (fun i=>some (i*z.length,z.length)) (List.replicate D z).flatten u).map fun cs=>(.slice (some ⟨H.next,0,none⟩) D D,H.push (.cells cs true z.length))
  else none:=rT
def DF(s d:Option TypeDesc)(n:Int):Option (Value×Option N7):=
 match s,d with
 |some _,some (.int k)=>some (.int k (k.wrap n),none)
 |_,_=>none
theorem GQ(H:N7)(s d:TypeId)(k:IntKind)(n:Int):Z4 P H s d (.int k n)=DF (P.underlying s) (P.underlying d) n:=by
 simp only[Z4,DF];cases P.underlying s with
 |none=>rfl
 |some a=>cases P.underlying d with
  |none=>cases a<;>rfl
  |some b=>cases a<;>cases b<;>rfl
theorem wO(a:TypeDesc)(k:IntKind)(n:Int):DF (some a) (some (.int k)) n=some (.int k (k.wrap n),none):=rT
def LH(d:Option TypeDesc)(s:ByteArray):Option (Value×Option N7):=
 match d with
 |some .string=>some (.int .i64 s.size,none)
 |some (.array n _)=>some (.int .i64 n,none)
 |_=>none
theorem HN(H:N7)(t:TypeId)(s:ByteArray):D7 P .len [t] [.string s] H=LH (P.underlying t) s:=by
 simp only[D7,EK,LH,List.head?_cons,Option.bind_some];cases P.underlying t with
 |none=>rfl
 |some d=>cases d<;>rfl
theorem EM(s:ByteArray):LH (some .string) s=some (.int .i64 s.size,none):=rT
def LI(d:Option TypeDesc)(n:Nat):Option (Value×Option N7):=
 match d with
 |some (.slice _)=>some (.int .i64 n,none)
 |some (.array m _)=>some (.int .i64 m,none)
 |_=>none
theorem HO(H:N7)(t:TypeId)(a:Option Addr)(n c:Nat):D7 P .len [t] [.slice a n c] H=LI (P.underlying t) n:=by
 simp only[D7,EK,LI,List.head?_cons,Option.bind_some];cases P.underlying t with
 |none=>rfl
 |some d=>cases d<;>rfl
theorem xJ(e:TypeId)(n:Nat):LI (some (.slice e)) n=some (.int .i64 n,none):=rT
theorem wrap_small{n:Int}(u: -9223372036854775808<=n)(z:n<=9223372036854775807):IntKind.wrap .i64 n=n:=by
 simp [IntKind.wrap,IntKind.min,IntKind.max,IntKind.signed,IntKind.bits];omega
theorem eP(v:Value)(H H':N7)(z:L9 v=true)(u:H.next<=H'.low):D6 v H H'=(v,none):=by
 unfold D6;rw[z];simp only[Bool.true_and,decide_eq_true_eq];exact if_pos u
theorem uo(b:Bool)(H H':N7)(u:H.next<=H'.low):D6 (.bool b) H H'=(.bool b,none):=eP _ _ _ rfl u
theorem mX(k:IntKind)(n:Int)(H H':N7)(u:H.next<=H'.low):D6 (.int k n) H H'=(.int k n,none):=eP _ _ _ rfl u
theorem py(s:ByteArray)(H H':N7)(u:H.next<=H'.low):D6 (.string s) H H'=(.string s,none):=eP _ _ _ rfl u
theorem xf(H H':N7)(u:H.next<=H'.low):D6 (.slice none 0 0) H H'=(.slice none 0 0,none):=eP _ _ _ rfl u
theorem ur(a b:Value)(H H':N7)(u:H.next<=H'.low):D6 (.tuple #[a,b]) H H'=br (na1 a&&na1 b) (.tuple #[a,b],none) (.tuple #[a,b],some ⟨H'.bs,min H.low H'.low⟩):=by
 unfold D6 br;rw[qB];by_cases h:(na1 a&&na1 b)=true
 .rw[if_pos h,h];simp only[Bool.true_and,decide_eq_true_eq];exact if_pos u
 .rw[if_neg h];simp only[Bool.not_eq_true]at h;rw[h];rfl
theorem ut(a b c:Value)(H H':N7)(u:H.next<=H'.low):D6 (.tuple #[a,b,c]) H H'=br (na1 a&&(na1 b&&na1 c)) (.tuple #[a,b,c],none) (.tuple #[a,b,c],some ⟨H'.bs,min H.low H'.low⟩):=by
 unfold D6 br;rw[qC];by_cases h:(na1 a&&(na1 b&&na1 c))=true
 .rw[if_pos h,h];simp only[Bool.true_and,decide_eq_true_eq];exact if_pos u
 .rw[if_neg h];simp only[Bool.not_eq_true]at h;rw[h];rfl
theorem rM(a:Addr)(n c:Nat)(H H':N7):D6 (.slice (some a) n c) H H'=(.slice (some a) n c,some ⟨H'.bs,min H.low H'.low⟩):=rT
theorem xe(u:Array Value)(H H':N7)(z:H.next<=H'.low):D6 (.agg u) H H'=br (u.toList.all na0) (.agg u,none) (.agg u,some ⟨H'.bs,min H.low H'.low⟩):=by
 unfold D6 br;have e:L9 (.agg u)=u.toList.all na0:=rT;rw[e];by_cases h:u.toList.all na0=true
 .rw[if_pos h,h];simp only[Bool.true_and,decide_eq_true_eq];exact if_pos z
 .rw[if_neg h];simp only[Bool.not_eq_true]at h;rw[h];rfl
theorem EZ(b:Bool):na0 (.bool b)=true:=rT
theorem jz(k:IntKind)(n:Int):na0 (.int k n)=true:=rT
theorem xN(s:ByteArray):na0 (.string s)=true:=rT
theorem BL(a:Addr)(n c:Nat):na0 (.slice (some a) n c)=false:=rT
theorem HZ:na0 (.slice none 0 0)=true:=rT
def w7(x:Option (Out×Env×N7))(G:Out->Env->N7->Prop):Of G Prop:=∃o e H,x=some (o,e,H)/\G o e H
theorem ez(o:Out)(e:Env)(H:N7)(G:Out->Env->N7->Prop):w7 (some (o,e,H)) G=G o e H:=by
 refine propext ⟨?_,fun h=>⟨o,e,H,rfl,h⟩⟩;rintro⟨z,e',H',h,u⟩;cases h;exact u
def cQ(n:Nat)(I:Nat->Env->N7->Prop)(Q:Out->Env->N7->Prop)(o:Out)(e:Env)(H:N7):Of n (Of I (Of Q Prop)):=
 match o with
 | .normal=>∃m,m<n/\I m e H
 | .exit i=>Q (.exit i) e H
 | .ret=>Q .ret e H
theorem i4{n:Nat}{I:Nat->Env->N7->Prop}{Q:Out->Env->N7->Prop}{e:Env}{H:N7}(m:Nat)(u:m<n)(h:I m e H):cQ n I Q .normal e H:=⟨m,u,h⟩
theorem i9{n:Nat}{I:Nat->Env->N7->Prop}{Q:Out->Env->N7->Prop}{i:Nat}{e:Env}{H:N7}(h:Q (.exit i) e H):cQ n I Q (.exit i) e H:=h
theorem z9{n:Nat}{I:Nat->Env->N7->Prop}{Q:Out->Env->N7->Prop}{e:Env}{H:N7}(h:Q .ret e H):cQ n I Q .ret e H:=h
end
structure LOp where
 dst:Option Tmp
 op:Op
 guard:Option (Tmp×Bool)
structure ML where
 o:LOp
 turn:Bool
 rd:Bool
 lo:Nat
 hi:Nat
inductive t7 where
 |skip
 |ret
 |exit (id:Nat)
 |ops (l:List LOp)
 |draw (l:List (LOp×Bool))
 |mix (l:List ML)
 |seq (a b:t7)
 |cond (x:Operand) (a b:t7)
 |block (id:Nat) (a:t7)
 |loop (a:t7)
 |scope (a:t7)
 |coin (l1 l2:List LOp) (ds:List Nat) (b:t7)
def lop(ops:Array Oper)(o:Oper):Option LOp:=
 match o.guard with
 |none=>some ⟨o.dst,o.op,none⟩
 |some (j,b)=>match(ops[j]?).bind (·.dst)with
  |some d=>some ⟨o.dst,o.op,some (d,b)⟩
  |none=>none
def sq(ops:Array Oper):List Oper->Option (List LOp)
 |[]=>some []
 |o::r=>match lop ops o,sq ops r with
  |some x,some xs=>some (x::xs)
  |_,_=>none
def kT(ops:Array Oper):Nat->List Oper->Option (List (LOp×Bool))
 |_,[]=>some []
 |i,o::r=>match lop ops o,kT ops (i+1) r with
  |some x,some xs=>some ((x,zU ops i)::xs)
  |_,_=>none
def EN(ops:Array Oper):List (Oper×Nat×Nat)->Option (List ML)
 |[]=>some []
 |(o,lo,hi)::r=>match lop ops o,EN ops r with
  |some x,some xs=>some (⟨x,A9 o.op,rdK o.op,lo,hi⟩::xs)
  |_,_=>none
def Q0:Code->Option t7
 | .skip=>some .skip
 | .ret=>some .ret
 | .exit id=>some (.exit id)
 | .region _ ops draw=>
  if draw then(if su ops then(if kX ops (E4 ops.toList []) then(EN ops (jw ops)).map .mix else none) else if Region.lexB .any ops then(kT ops 0 ops.toList).map .draw else none) else(sq ops ops.toList).map .ops
 | .seq a b=>match eM a b with
  |some z=>match sq z.ops z.l1,sq z.ops z.l2,Q0 b with
   |some x,some y,some b'=>some (.coin x y z.ds b')
   |_,_,_=>none
  |none=>match Q0 a,Q0 b with
   |some x,some y=>some (.seq x y)
   |_,_=>none
 | .cond c a b=>match Q0 a,Q0 b with
  |some x,some y=>some (.cond c x y)
  |_,_=>none
 | .block id a=>(Q0 a).map (.block id)
 | .loop a=>(Q0 a).map .loop
 | .scope a=>(Q0 a).map .scope
 |_=>none
section
variable{P:Program}
def bW(e:Env):Option (Tmp×Bool)->Bool
 |none=>true
 |some (d,b)=>isB (e.get d) b
def aD(e:Env):Option (Tmp×Bool)->Bool
 |none=>false
 |some (d,_)=>xC (e.get d)
def X0(P:Program)(C:A8):List LOp->Env->N7->Option (Env×N7)
 |[],e,H=>some (e,H)
 |o::rest,e,H=>
  if aD e o.guard then none else if bW e o.guard then
   match aop P C o.op e H with
   |some (v,none)=>X0 P C rest (I3 e o.dst v) H
   |some (v,some H')=>X0 P C rest (I3 e o.dst v) H'
   |none=>none
  else X0 P C rest (I3 e o.dst undef) H
def Z9(P:Program)(C:A8):Bool->List (LOp×Bool)->Env->N7->Option (Env×N7)
 |_,[],e,H=>some (e,H)
 |q,(o,t)::rest,e,H=>
  if aD e o.guard then none else if bW e o.guard then
   match aop P C o.op e H with
   |some (v,none)=>Z9 P C (q||isCall o.op) rest (I3 e o.dst v) H
   |some (v,some H')=>if !q&&t then X0 P C (rest.map (·.1)) (I3 e o.dst v) H' else none
   |none=>none
  else Z9 P C q rest (I3 e o.dst undef) H
open Classical in
noncomputable def C4(P:Program)(C:A8):Nat->List (Nat×N7)->List (Op×Env×Value×Nat)->List ML->Env->N7->Option (Env×N7)
 |_,_,_,[],e,H=>some (e,H)
 |t,Ks,obs,⟨o,tn,rd,lo,hi⟩::rest,e,H=>
  if aD e o.guard then none else if bW e o.guard then
   if tn then
    match aop P C o.op e H with
    |some (v,r)=>if rz P obs (t+1) (r.getD H) then C4 P C (t+1) ((t,H)::Ks) obs rest (I3 e o.dst v) (r.getD H) else none
    |none=>none
   else
    match aop P noC o.op e H with
    |some (v,none)=>if rd then(if ry P o.op e v lo Ks then C4 P C t Ks ((o.op,e,v,hi)::obs) rest (I3 e o.dst v) H else none) else C4 P C t Ks obs rest (I3 e o.dst v) H
    |_=>none
  else if tn then C4 P C (t+1) ((t,H)::Ks) obs rest (I3 e o.dst undef) H
  else C4 P C t Ks obs rest (I3 e o.dst undef) H
noncomputable def C9(P:Program)(C:A8):Nat->t7->Env->N7->Option (Out×Env×N7)
 |0,_,_,_=>none
 |k+1,c,e,H=>
  match c with
  | .skip=>some (.normal,e,H)
  | .ret=>some (.ret,e,H)
  | .exit id=>some (.exit id,e,H)
  | .ops l=>
   match X0 P C l e H with
   |some (e',H')=>some (.normal,e',H')
   |none=>none
  | .draw l=>
   match Z9 P C false l e H with
   |some (e',H')=>some (.normal,e',H')
   |none=>none
  | .mix l=>
   match C4 P C 0 [] [] l e H with
   |some (e',H')=>some (.normal,e',H')
   |none=>none
  | .seq a b=>
   match C9 P C k a e H with
   |some (.normal,e',H')=>C9 P C k b e' H'
   |r=>r
  | .cond x a b=>
   match opv e x with
   | .bool t=>C9 P C k (if t then a else b) e H
   |_=>none
  | .block id a=>
   match C9 P C k a e H with
   |some (.exit i,e',H')=>if i=id then some (.normal,e',H') else some (.exit i,e',H')
   |r=>r
  | .loop a=>
   match C9 P C k a e H with
   |some (.normal,e',H')=>C9 P C k (.loop a) e' H'
   |r=>r
  | .scope a=>C9 P C k a e H
  | .coin l1 l2 ds b=>
   match X0 P C l1 e H,X0 P C l2 e H with
   |some (e1,H1),some (e2,H2)=>nG ds e H.next (C9 P C k b e1 H1) (C9 P C k b e2 H2)
   |_,_=>none
theorem nR{ops:Array Oper}{o:Oper}{x:LOp}(h:lop ops o=some x)(e:Env):E0 ops e o=bW e x.guard/\x.op=o.op/\x.dst=o.dst/\X4 ops e o=aD e x.guard:=by
 unfold lop at h;unfold E0 X4;split at h
 .rename_i u;cases h;simp [u,bW,aD]
 .rename_i j b u;split at h
  .rename_i d z;cases h;simp [u,z,bW,aD]
  .cases h
theorem dU{ops:Array Oper}(C:A8):∀{l:List Oper}{u:List LOp},sq ops l=some u->∀e H,D1 P C ops l e H=X0 P C u e H
 |[],u,h,e,H=>by simp only[sq,Option.some.injEq]at h;subst h;rfl
 |o::r,u,h,e,H=>by
  simp only[sq]at h;split at h
  .rename_i x xs S z;cases h;obtain⟨D,E,J,O⟩:=nR S e;simp only[D1,X0,D,E,J,O,dU C z];rfl
  .cases h
theorem qx{ops:Array Oper}:∀{l:List Oper}{i:Nat}{u:List (LOp×Bool)},kT ops i l=some u->sq ops l=some (u.map (·.1))
 |[],i,u,h=>by simp only[kT,Option.some.injEq]at h;subst h;rfl
 |o::r,i,u,h=>by
  simp only[kT]at h;split at h
  .rename_i x xs D z;cases h;simp only[sq,D,qx z,List.map_cons]
  .cases h
theorem nI{ops:Array Oper}(u:Region.lexB .any ops=true)(C:A8):∀{l:List Oper}{i:Nat}{D:List (LOp×Bool)},kT ops i l=some D->∀q e H,I2 P C ops i q l e H=Z9 P C q D e H
 |[],i,D,h,q,e,H=>by simp only[kT,Option.some.injEq]at h;subst h;simp [I2,Z9,u]
 |o::r,i,D,h,q,e,H=>by
  simp only[kT]at h;split at h
  .rename_i x xs U z;cases h;obtain⟨E,J,O,S⟩:=nR U e;simp only[I2,Z9,E,J,O,S,nI u C z,dU C (qx z)];rfl
  .cases h
theorem qA{ops:Array Oper}(C:A8):∀{l:List (Oper×Nat×Nat)}{u:List ML},EN ops l=some u->∀t Ks obs e H,I7 P C ops t Ks obs l e H=C4 P C t Ks obs u e H
 |[],u,h,t,Ks,obs,e,H=>by simp only[EN,Option.some.injEq]at h;subst h;rfl
 |(o,lo,hi)::r,u,h,t,Ks,obs,e,H=>by
  simp only[EN]at h;split at h
  .rename_i x xs S z;cases h;obtain⟨D,E,J,O⟩:=nR S e;obtain⟨U,xo,W⟩:=x;simp only at D E J O;subst E J;simp only[I7,C4,D,O,qA C z];rcases aop P noC o.op e H with _|⟨v,_|H2⟩<;>rcases aop P C o.op e H with _|⟨v2,H3⟩<;>rfl
  .cases h
theorem nN(C:A8):∀(k:Nat){c:Code}{l:t7},Q0 c=some l->∀e H,L5 P C k c e H=C9 P C k l e H:=by
 intro k;induction k with
 |zero=>intro c l _ e H;rfl
 |succ k D=>
  intro c l h e H;cases c<;>simp only[Q0]at h<;>try (cases h;done)
  case skip=>cases h;rfl
  case ret=>cases h;rfl
  case exit id=>cases h;rfl
  case region id ops J=>
   split at h
   .rename_i W;subst W;split at h
    .rename_i hn;split at h
     .rename_i a1;obtain⟨E,u,rfl⟩:=Option.map_eq_some_iff.1 h;simp only[L5,C9,if_true,aR,if_pos hn,if_pos a1,qA C u];rfl
     .cases h
    .rename_i hn;split at h
     .rename_i O;obtain⟨E,u,rfl⟩:=Option.map_eq_some_iff.1 h;simp only[L5,C9,if_true,aR,if_neg hn,nI O C u];rfl
     .cases h
   .rename_i W;obtain⟨E,u,rfl⟩:=Option.map_eq_some_iff.1 h;have:J=false:=by simpa using W
    subst this;simp only[L5,C9,bF,dU C u];rfl
  case seq a b=>
   split at h
   .rename_i z U;split at h
    .rename_i x y b' hx S hb;cases h;simp only[L5,U,C9,dU C hx,dU C S,D hb];rfl
    .cases h
   .rename_i U;split at h
    .rename_i x y hx S;cases h;simp only[L5,U,C9,D hx,D S];rfl
    .cases h
  case cond x a b=>
   split at h
   .rename_i y z S U;cases h;simp only[L5,C9];cases opv e x<;>first|rfl|skip
    rename_i t;cases t<;>simp [D S,D U]
   .cases h
  case block id a=>obtain⟨E,u,rfl⟩:=Option.map_eq_some_iff.1 h;simp only[L5,C9,D u];rfl
  case loop a=>
   obtain⟨E,u,rfl⟩:=Option.map_eq_some_iff.1 h;have h2:Q0 (.loop a)=some (.loop E):=by simp [Q0,u]
   simp only[L5,C9,D u,D h2];rfl
  case scope a=>obtain⟨E,u,rfl⟩:=Option.map_eq_some_iff.1 h;simp only[L5,C9,D u]
noncomputable def LE(P:Program)(X:Lib)(c:t7)(e:Env)(H:N7):Of c (Option (Out×Env×N7)):=lim fun k=>C9 P (CL P X) k c e H
theorem gW{C D:A8}(h:LeC C D):∀(l:List LOp)(e:Env)(H:N7),LeO (X0 P C l e H) (X0 P D l e H):=by
 intro l;induction l with
 |nil=>intro e H r u;exact u
 |cons o l O=>
  intro e H r u;simp only[X0]at u ⊢;by_cases z:aD e o.guard=true
  .rw[if_pos z]at u;cases u
  simp only[if_neg z]at u ⊢;split
  .rename_i J;rw[if_pos J]at u;cases E:aop P C o.op e H with
   |none=>simp [E]at u
   |some q=>
    rw[X2 h _ _ _ _ E];rw[E]at u;obtain⟨v,q⟩:=q;cases q with
    |none=>exact O _ _ _ u
    |some H'=>exact O _ _ _ u
  .rename_i J;rw[if_neg J]at u;exact O _ _ _ u
theorem yq{C D:A8}(h:LeC C D):∀(l:List (LOp×Bool))(q:Bool)(e:Env)(H:N7),LeO (Z9 P C q l e H) (Z9 P D q l e H):=by
 intro l;induction l with
 |nil=>intro q e H r u;exact u
 |cons o l S=>
  intro q e H r u;obtain⟨o,t⟩:=o;simp only[Z9]at u ⊢;by_cases z:aD e o.guard=true
  .rw[if_pos z]at u;cases u
  simp only[if_neg z]at u ⊢;split
  .rename_i O;rw[if_pos O]at u;cases J:aop P C o.op e H with
   |none=>simp [J]at u
   |some x=>
    rw[X2 h _ _ _ _ J];rw[J]at u;obtain⟨v,x⟩:=x;cases x with
    |none=>exact S _ _ _ _ u
    |some H'=>
     simp only at u ⊢;split
     .rename_i E;rw[if_pos E]at u;exact gW h _ _ _ _ u
     .rename_i E;rw[if_neg E]at u;exact u
  .rename_i O;rw[if_neg O]at u;exact S _ _ _ _ u
theorem sK{C D:A8}(h:LeC C D):∀(l:List ML)(t:Nat)(Ks:List (Nat×N7))(obs:List (Op×Env×Value×Nat))(e:Env)(H:N7),LeO (C4 P C t Ks obs l e H) (C4 P D t Ks obs l e H):=by
 intro l;induction l with
 |nil=>intro t Ks obs e H r u;exact u
 |cons o l J=>
  obtain⟨o,tn,rd,lo,hi⟩:=o;intro t Ks obs e H r u;simp only[C4]at u ⊢;by_cases E:aD e o.guard=true
  .rw[if_pos E]at u;cases u
  simp only[if_neg E]at u ⊢;split
  .rename_i W;rw[if_pos W]at u;split
   .rename_i z;rw[if_pos z]at u;cases U:aop P C o.op e H with
    |none=>simp [U]at u
    |some x=>
     rw[X2 h _ _ _ _ U];rw[U]at u;obtain⟨v,x⟩:=x;simp only at u ⊢;split
     .rename_i O;rw[if_pos O]at u;exact J _ _ _ _ _ _ u
     .rename_i O;rw[if_neg O]at u;exact u
   .rename_i z;rw[if_neg z]at u;split at u
    .rename_i v hv;split at u
     .rename_i S;rw[if_pos S];split at u
      .rename_i hc;rw[if_pos hc];exact J _ _ _ _ _ _ u
      .cases u
     .rename_i S;rw[if_neg S];exact J _ _ _ _ _ _ u
    .cases u
  .rename_i W;rw[if_neg W]at u;split
   .rename_i z;rw[if_pos z]at u;exact J _ _ _ _ _ _ u
   .rename_i z;rw[if_neg z]at u;exact J _ _ _ _ _ _ u
theorem Y4{C D:A8}(h:LeC C D):∀(k O:Nat),k<=O->∀(c:t7)(e:Env)(H:N7),LeO (C9 P C k c e H) (C9 P D O c e H):=by
 intro k;induction k with
 |zero=>intro O _ c e H r u;cases u
 |succ k ih=>
  intro O hk c e H r u;obtain⟨O,rfl⟩:∃m,O=m+1:=⟨O-1,oM⟩
  have J:=fun c e H r(u:C9 P C k c e H=some r)=>ih O oM c e H r u;cases c<;>simp only[C9]at u ⊢ <;>try exact u
  case ops l=>
   cases E:X0 P C l e H with
   |none=>simp [E]at u
   |some x=>rw[gW h _ _ _ _ E];rw[E]at u;exact u
  case draw l=>
   cases E:Z9 P C false l e H with
   |none=>simp [E]at u
   |some x=>rw[yq h _ _ _ _ _ E];rw[E]at u;exact u
  case mix l=>
   cases E:C4 P C 0 [] [] l e H with
   |none=>simp [E]at u
   |some x=>rw[sK h _ _ _ _ _ _ _ E];rw[E]at u;exact u
  case seq x y=>
   cases E:C9 P C k x e H with
   |none=>simp [E]at u
   |some z=>
    rw[J _ _ _ _ E];rw[E]at u;obtain⟨o,e',H'⟩:=z;cases o with
    |normal=>exact J _ _ _ _ u
    |exit id=>exact u
    |ret=>exact u
  case cond x y z=>
   split
   .rename_i t ht;rw[ht]at u;exact J _ _ _ _ u
   .rename_i W;split at u
    .rename_i t ht;exact absurd ht (W t)
    .exact u
  case block id x=>
   cases E:C9 P C k x e H with
   |none=>simp [E]at u
   |some z=>rw[J _ _ _ _ E];rw[E]at u;exact u
  case loop x=>
   cases E:C9 P C k x e H with
   |none=>simp [E]at u
   |some z=>
    rw[J _ _ _ _ E];rw[E]at u;obtain⟨o,e',H'⟩:=z;cases o with
    |normal=>exact J _ _ _ _ u
    |exit id=>exact u
    |ret=>exact u
  case scope x=>exact J _ _ _ _ u
  case coin l1 l2 ds b=>
   cases S:X0 P C l1 e H with
   |none=>simp [S]at u
   |some q1=>
    cases U:X0 P C l2 e H with
    |none=>simp [S,U]at u
    |some q2=>
     obtain⟨e1,H1⟩:=q1;obtain⟨e2,H2⟩:=q2;rw[S,U]at u;rw[gW h _ _ _ _ S,gW h _ _ _ _ U];obtain⟨o,e',H'⟩:=r;obtain⟨e3,H3,e4,H4,g1,g2,g3,rfl,rfl,rfl⟩:=U7 u;exact fZ (J _ _ _ _ g1) (J _ _ _ _ g2) g3
theorem T1{X:Lib}{c:t7}{e:Env}{H:N7}{r:Out×Env×N7}:LE P X c e H=some r↔∃k,C9 P (CL P X) k c e H=some r:=
 nO fun k z u=>Y4 (fun _ _ _=>LeO.refl _) k z u c e H
variable{X:Lib}
theorem V1{c:t7}{e:Env}{H:N7}{y:Option (Out×Env×N7)}(z:∀k r,C9 P (CL P X) (k+1) c e H=some r->y=some r) (D:∀r,y=some r->∃k,C9 P (CL P X) k c e H=some r):LE P X c e H=y:=by
 refine sE fun r=>⟨fun h=>?_,fun h=>T1.2 (D r h)⟩
 obtain⟨k,u⟩:=T1.1 h;cases k with
 |zero=>cases u
 |succ k=>exact z k r u
theorem V3{k:Nat}{c:t7}{e:Env}{H:N7}:LeO (C9 P (CL P X) k c e H) (LE P X c e H):=fun r h=>T1.2 ⟨k,h⟩
theorem Gl(e:Env)(H:N7):LE P X .skip e H=some (.normal,e,H):=V1 (fun k r h=>h) fun r h=>⟨1,h⟩
theorem JO(e:Env)(H:N7):LE P X .ret e H=some (.ret,e,H):=V1 (fun k r h=>h) fun r h=>⟨1,h⟩
theorem Gk(id:Nat)(e:Env)(H:N7):LE P X (.exit id) e H=some (.exit id,e,H):=V1 (fun k r h=>h) fun r h=>⟨1,h⟩
theorem JP(a b:t7)(e:Env)(H:N7):LE P X (.seq a b) e H=u9 (LE P X a e H) (LE P X b):=by
 refine V1 (fun k r h=>?_) fun r h=>?_
 .simp only[C9]at h;cases u:C9 P (CL P X) k a e H with
  |none=>simp [u]at h
  |some z=>
   rw[u]at h;rw[V3 _ u];obtain⟨o,e',H'⟩:=z;cases o with
   |normal=>exact V3 _ h
   |exit i=>exact h
   |ret=>exact h
 .cases u:LE P X a e H with
  |none=>simp [u,u9]at h
  |some z=>
   rw[u]at h;obtain⟨J,E⟩:=T1.1 u;obtain⟨o,e',H'⟩:=z;have D:o≠ .normal->some (o,e',H')=some r->∃k,C9 P (CL P X) k (.seq a b) e H=some r:=by
    intro W U;refine⟨J+1,?_⟩;simp only[C9,E];cases o<;>first|exact absurd rfl W|exact U
   cases o with
   |normal=>
    obtain⟨O,S⟩:=T1.1 h;refine⟨max J O+1,?_⟩;simp only[C9,Y4 (fun _ _ _=>LeO.refl _) J (max J O) (Nat.le_max_left _ _) _ _ _ _ E];exact Y4 (fun _ _ _=>LeO.refl _) O (max J O) (Nat.le_max_right _ _) _ _ _ _ S
   |exit i=>exact D sM h
   |ret=>exact D sM h
theorem aw(a:t7)(e:Env)(H:N7):LE P X (.loop a) e H=u9 (LE P X a e H) (LE P X (.loop a)):=by
 refine V1 (fun k r h=>?_) fun r h=>?_
 .simp only[C9]at h;cases u:C9 P (CL P X) k a e H with
  |none=>simp [u]at h
  |some z=>
   rw[u]at h;rw[V3 _ u];obtain⟨o,e',H'⟩:=z;cases o with
   |normal=>exact V3 _ h
   |exit i=>exact h
   |ret=>exact h
 .cases u:LE P X a e H with
  |none=>simp [u,u9]at h
  |some z=>
   rw[u]at h;obtain⟨J,E⟩:=T1.1 u;obtain⟨o,e',H'⟩:=z;have D:o≠ .normal->some (o,e',H')=some r->∃k,C9 P (CL P X) k (.loop a) e H=some r:=by
    intro W U;refine⟨J+1,?_⟩;simp only[C9,E];cases o<;>first|exact absurd rfl W|exact U
   cases o with
   |normal=>
    obtain⟨O,S⟩:=T1.1 h;refine⟨max J O+1,?_⟩;simp only[C9,Y4 (fun _ _ _=>LeO.refl _) J (max J O) (Nat.le_max_left _ _) _ _ _ _ E];exact Y4 (fun _ _ _=>LeO.refl _) O (max J O) (Nat.le_max_right _ _) _ _ _ _ S
   |exit i=>exact D sM h
   |ret=>exact D sM h
theorem Gi(x:Operand)(a b:t7)(e:Env)(H:N7){t:Bool}(h:opv e x= .bool t):LE P X (.cond x a b) e H=if t then LE P X a e H else LE P X b e H:=by
 refine V1 (fun k r u=>?_) fun r u=>?_
 .simp only[C9,h]at u;cases t<;>exact V3 _ u
 .cases t
  .obtain⟨k,z⟩:=T1.1 u;exact⟨k+1,by simp only[C9,h];exact z⟩
  .obtain⟨k,z⟩:=T1.1 u;exact⟨k+1,by simp only[C9,h];exact z⟩
theorem CQ(id:Nat)(a:t7)(e:Env)(H:N7):LE P X (.block id a) e H=inBlock id (LE P X a e H):=by
 refine V1 (fun k r h=>?_) fun r h=>?_
 .simp only[C9]at h;cases u:C9 P (CL P X) k a e H with
  |none=>simp [u]at h
  |some z=>rw[u]at h;rw[V3 _ u];exact h
 .cases u:LE P X a e H with
  |none=>simp [u,inBlock]at h
  |some z=>
   rw[u]at h;obtain⟨E,D⟩:=T1.1 u;exact⟨E+1,by simp only[C9,D];exact h⟩
theorem CS(a:t7)(e:Env)(H:N7):LE P X (.scope a) e H=LE P X a e H:=by
 refine V1 (fun k r h=>?_) fun r h=>?_
 .exact V3 _ h
 .obtain⟨z,u⟩:=T1.1 h;exact⟨z+1,u⟩
theorem JN(l:List LOp)(e:Env)(H:N7):LE P X (.ops l) e H=S4 (X0 P (CL P X) l e H):=by
 refine V1 (fun k r h=>?_) fun r h=>⟨1,?_⟩
 .simp only[C9]at h;unfold S4;split at h
  .rename_i u;rw[u];exact h
  .cases h
 .simp only[C9];unfold S4 at h;cases u:X0 P (CL P X) l e H with
  |none=>simp [u]at h
  |some z=>simp only[u,Option.map_some]at h;exact h
theorem Gj(l:List (LOp×Bool))(e:Env)(H:N7):LE P X (.draw l) e H=S4 (Z9 P (CL P X) false l e H):=by
 refine V1 (fun k r h=>?_) fun r h=>⟨1,?_⟩
 .simp only[C9]at h;unfold S4;split at h
  .rename_i u;rw[u];exact h
  .cases h
 .simp only[C9];unfold S4 at h;cases u:Z9 P (CL P X) false l e H with
  |none=>simp [u]at h
  |some z=>simp only[u,Option.map_some]at h;exact h
theorem CP{c:Code}{l:t7}(h:Q0 c=some l)(e:Env)(H:N7):EL P X c e H=LE P X l e H:=by
 unfold EL LE
 congr 1
 funext k
 exact nN (CL P X) k h e H
def fnL(P:Program)(f:FuncId):Option (t7×Nat×List ResultVar):=
 match fnA P f with
 |some (c,nt,rs)=>match Q0 c with
  |some l=>some (l,nt,rs)
  |none=>none
 |none=>none
theorem j7{f:FuncId}{l:t7}{z:Nat}{D:List ResultVar}(u:fnL P f=some (l,z,D))(E:X f=none)(args:LV)(S:args.length<=z)(H:N7):
  CL P X f args H=u5 P D H (LE P X l (N3 0 args) ⟨H.bs,H.next⟩):=by
 unfold fnL at u;split at u
 .rename_i c nt' U J;split at u
  .rename_i W O;cases u;rw[JK J E args S H,CP O];rfl
  .cases u
 .cases u
theorem CR(x:Operand)(a b:t7)(e:Env)(H:N7):LE P X (.cond x a b) e H=DC (opv e x) (LE P X a e H) (LE P X b e H):=by
 cases h:opv e x with
 |bool t=>rw[Gi x a b e H h];rfl
 |_=>
  refine V1 (fun k r u=>?_) fun r u=>?_
  .simp only[C9,h]at u;cases u
  .simp only[DC]at u;cases u
theorem FF(C:A8)(e:Env)(H:N7):X0 P C [] e H=some (e,H):=rT
theorem yr(dst:Option Tmp)(op:Op)(rest:List LOp)(e:Env)(H:N7):
  X0 P (CL P X) (⟨dst,op,none⟩::rest) e H=fO (aop P (CL P X) op e H) H fun v H'=>X0 P (CL P X) rest (I3 e dst v) H':=by
 simp only[X0,bW,aD,if_true,bF,fO]
 all_goals rfl
theorem IG(dst:Option Tmp)(op:Op)(d:Tmp)(b:Bool)(rest:List LOp)(e:Env)(H:N7):
  X0 P (CL P X) (⟨dst,op,some (d,b)⟩::rest) e H=
   brl (e.get d) b (fO (aop P (CL P X) op e H) H fun v H'=>X0 P (CL P X) rest (I3 e dst v) H') (X0 P (CL P X) rest (I3 e dst undef) H):=by
 simp only[X0,bW,aD,fO,brl];rfl
def tZ(q t:Bool)(x:Option (Env×N7)):Of x (Option (Env×N7)):=if(!q&&t)=true then x else none
theorem DM(x:Option (Env×N7)):tZ false true x=x:=rT
theorem Cq(C:A8)(q:Bool)(e:Env)(H:N7):Z9 P C q [] e H=some (e,H):=rT
theorem vu(q t:Bool)(dst:Option Tmp)(op:Op)(rest:List (LOp×Bool))(e:Env)(H:N7):
  Z9 P (CL P X) q ((⟨dst,op,none⟩,t)::rest) e H=
   qg (aop P (CL P X) op e H) (fun v=>Z9 P (CL P X) (q||isCall op) rest (I3 e dst v) H) fun v H'=>tZ q t (X0 P (CL P X) (rest.map (·.1)) (I3 e dst v) H'):=by
 simp only[Z9,bW,aD,if_true,bF,qg,tZ]
 all_goals rfl
theorem FE(q t:Bool)(dst:Option Tmp)(op:Op)(d:Tmp)(b:Bool)(rest:List (LOp×Bool))(e:Env)(H:N7):
  Z9 P (CL P X) q ((⟨dst,op,some (d,b)⟩,t)::rest) e H=
   brl (e.get d) b (qg (aop P (CL P X) op e H) (fun v=>Z9 P (CL P X) (q||isCall op) rest (I3 e dst v) H) fun v H'=>tZ q t (X0 P (CL P X) (rest.map (·.1)) (I3 e dst v) H'))
    (Z9 P (CL P X) q rest (I3 e dst undef) H):=by
 simp only[Z9,bW,aD,qg,tZ,brl]
 all_goals rfl
theorem Gh(S l2:List LOp)(ds:List Nat)(b:t7)(e:Env)(H:N7):LE P X (.coin S l2 ds b) e H=nG ds e H.next (u9 (S4 (X0 P (CL P X) S e H)) (LE P X b)) (u9 (S4 (X0 P (CL P X) l2 e H)) (LE P X b)):=by
 refine V1 (fun k r h=>?_) fun r h=>?_
 .simp only[C9]at h;cases u:X0 P (CL P X) S e H with
  |none=>simp [u]at h
  |some q1=>
   cases E:X0 P (CL P X) l2 e H with
   |none=>simp [u,E]at h
   |some q2=>
    obtain⟨e1,H1⟩:=q1;obtain⟨e2,H2⟩:=q2;rw[u,E]at h;obtain⟨o,e',H'⟩:=r;obtain⟨e3,H3,e4,H4,z,D,U,rfl,rfl,rfl⟩:=U7 h;exact fZ (V3 _ z) (V3 _ D) U
 .obtain⟨o,e',H'⟩:=r;obtain⟨e3,H3,e4,H4,z,D,U,rfl,rfl,rfl⟩:=U7 h;cases u:X0 P (CL P X) S e H with
  |none=>rw[u]at z;cases z
  |some q1=>
   cases E:X0 P (CL P X) l2 e H with
   |none=>rw[E]at D;cases D
   |some q2=>
    rw[u]at z;rw[E]at D;obtain⟨J,W⟩:=T1.1 z;obtain⟨O,a1⟩:=T1.1 D;refine⟨max J O+1,?_⟩;simp only[C9,u,E];exact fZ (Y4 (fun _ _ _=>LeO.refl _) J (max J O) (Nat.le_max_left _ _) _ _ _ _ W) (Y4 (fun _ _ _=>LeO.refl _) O (max J O) (Nat.le_max_right _ _) _ _ _ _ a1) U
theorem JM(l:List ML)(e:Env)(H:N7):LE P X (.mix l) e H=S4 (C4 P (CL P X) 0 [] [] l e H):=by
 refine V1 (fun k r h=>?_) fun r h=>⟨1,?_⟩
 .simp only[C9]at h;unfold S4;split at h
  .rename_i u;rw[u];exact h
  .cases h
 .simp only[C9];unfold S4 at h;cases u:C4 P (CL P X) 0 [] [] l e H with
  |none=>simp [u]at h
  |some z=>simp only[u,Option.map_some]at h;exact h
open Classical in
noncomputable def need{α:Type}(p:Prop)(x:Option α):Of x (Option α):=if p then x else none
theorem BO{α:Type}(x:Option α):need True x=x:=by unfold need;exact if_pos trivial
theorem xG(ds:List Nat)(e z D:Env)(n:Nat)(u H2:N7):nG ds e n (some (.normal,z,u)) (some (.normal,D,H2))=need (N4 n u=N4 n H2) (some (.normal,ds.map (fun d=>(d,lost))++e,N4 n u)):=rT
def ji(r:Option (Value×Option N7))(f:Value->Option (Env×N7)):Of f (Option (Env×N7)):=
 match r with
 |some (v,none)=>f v
 |_=>none
theorem wL(v:Value)(f:Value->Option (Env×N7)):ji (some (v,none)) f=f v:=rT
def okV(x:Option (Value×Option N7))(v:Value):Prop:=x=some (v,none)
theorem Ff(v:Value):okV (some (v,none)) v=True:=by simp [okV]
def HF(n m:Nat)(p:Prop):Prop:=n<=m->p
theorem EA{n m:Nat}(p:Prop)(h:n<=m):HF n m p=p:=propext ⟨fun q=>q h,fun q _=>q⟩
theorem HG{n m:Nat}(p:Prop)(h:m<n):HF n m p=True:=propext ⟨fun _=>trivial,fun _ q=>absurd q oM⟩
theorem Dy(j:Nat)(H:N7):rz P [] j H=True:=rT
theorem AI(o:Op)(e:Env)(v:Value)(hi:Nat)(r:List (Op×Env×Value×Nat))(j:Nat)(H:N7):rz P ((o,e,v,hi)::r) j H=(HF j hi (okV (aop P noC o e H) v)/\rz P r j H):=rT
theorem Dx(o:Op)(e:Env)(v:Value)(lo:Nat):ry P o e v lo []=True:=rT
theorem AH(o:Op)(e:Env)(v:Value)(lo j:Nat)(K:N7)(r:List (Nat×N7)):ry P o e v lo ((j,K)::r)=(HF lo j (okV (aop P noC o e K) v)/\ry P o e v lo r):=rT
section
variable(t:Nat)(Ks:List (Nat×N7))(obs:List (Op×Env×Value×Nat))(dst:Option Tmp)(op:Op)(d:Tmp)(b:Bool)(lo hi:Nat)(rest:List ML)(e:Env)(H:N7)
theorem HW:C4 P (CL P X) t Ks obs [] e H=some (e,H):=rT
theorem EW(u:Bool):C4 P (CL P X) t Ks obs (⟨⟨dst,op,none⟩,true,u,lo,hi⟩::rest) e H=
  fO (aop P (CL P X) op e H) H fun v H'=>need (rz P obs (t+1) H') (C4 P (CL P X) (t+1) ((t,H)::Ks) obs rest (I3 e dst v) H'):=by
 simp only[C4,bW,aD,if_true,bF,fO,need];cases aop P (CL P X) op e H with
 |none=>rfl
 |some z=>obtain⟨v,r⟩:=z;cases r<;>rfl
theorem BJ(u:Bool):C4 P (CL P X) t Ks obs (⟨⟨dst,op,some (d,b)⟩,true,u,lo,hi⟩::rest) e H=
  brl (e.get d) b (fO (aop P (CL P X) op e H) H fun v H'=>need (rz P obs (t+1) H') (C4 P (CL P X) (t+1) ((t,H)::Ks) obs rest (I3 e dst v) H')) (C4 P (CL P X) (t+1) ((t,H)::Ks) obs rest (I3 e dst undef) H):=by
 simp only[C4,bW,aD,if_true,fO,need,brl];cases aop P (CL P X) op e H with
 |none=>rfl
 |some z=>obtain⟨v,r⟩:=z;cases r<;>rfl
theorem LR:C4 P (CL P X) t Ks obs (⟨⟨dst,op,none⟩,false,true,lo,hi⟩::rest) e H=
  ji (aop P noC op e H) fun v=>need (ry P op e v lo Ks) (C4 P (CL P X) t Ks ((op,e,v,hi)::obs) rest (I3 e dst v) H):=by
 simp only[C4,bW,aD,if_true,ji,need,bF]
theorem HX:C4 P (CL P X) t Ks obs (⟨⟨dst,op,some (d,b)⟩,false,true,lo,hi⟩::rest) e H=
  brl (e.get d) b (ji (aop P noC op e H) fun v=>need (ry P op e v lo Ks) (C4 P (CL P X) t Ks ((op,e,v,hi)::obs) rest (I3 e dst v) H)) (C4 P (CL P X) t Ks obs rest (I3 e dst undef) H):=by
 simp only[C4,bW,aD,if_true,ji,need,bF,brl]
theorem EV:C4 P (CL P X) t Ks obs (⟨⟨dst,op,none⟩,false,false,lo,hi⟩::rest) e H=
  ji (aop P noC op e H) fun v=>C4 P (CL P X) t Ks obs rest (I3 e dst v) H:=by
 simp only[C4,bW,aD,if_true,ji,bF]
theorem BG:C4 P (CL P X) t Ks obs (⟨⟨dst,op,some (d,b)⟩,false,false,lo,hi⟩::rest) e H=
  brl (e.get d) b (ji (aop P noC op e H) fun v=>C4 P (CL P X) t Ks obs rest (I3 e dst v) H) (C4 P (CL P X) t Ks obs rest (I3 e dst undef) H):=by
 simp only[C4,bW,aD,if_true,ji,bF,brl]
end
theorem Hq{B:t7}{α:Type}(F:Option (Out×Env×N7)->α)(I:Nat->Env->N7->α->Prop)
  (u:∀n e H r,I n e H r->(∀m e' H' z,m<n->I m e' H' z->F (LE P X (.loop B) e' H')=z)->F (u9 (LE P X B e H) (LE P X (.loop B)))=r):
  ∀n e H r,I n e H r->F (LE P X (.loop B) e H)=r:=by
 intro n;induction n using Nat.strongRecOn with
 |ind n J=>
  intro e H r h;rw[aw];exact u n e H r h fun m e' H' z E D=>J m E e' H' z D
theorem i8{B:t7}(I:Nat->Env->N7->Prop)(Q:Out->Env->N7->Prop)
  (u:∀n e H,I n e H->w7 (LE P X B e H) (cQ n I Q)):∀n e H,I n e H->w7 (LE P X (.loop B) e H) Q:=by
 intro n;induction n using Nat.strongRecOn with
 |ind n O=>
  intro e H h;obtain⟨o,e',H',D,z⟩:=u n e H h;unfold w7;rw[aw,D];cases o with
  |normal=>
   obtain⟨m,J,E⟩:=z;exact O m J e' H' E
  |exit i=>exact⟨_,_,_,rfl,z⟩
  |ret=>exact⟨_,_,_,rfl,z⟩
theorem cY(F:Option (Out×Env×N7)->Option (Out×Env×N7)){x:Option (Out×Env×N7)}{Q G:Out->Env->N7->Prop}(h:w7 x Q)(u:∀o e H,Q o e H->w7 (F (some (o,e,H))) G):w7 (F x) G:=by
 obtain⟨o,e,H,E,D⟩:=h;have z:=u o e H D;unfold w7 at z ⊢;rw[E];exact z
theorem PS{α:Type}(F:Option (Out×Env×N7)->α){x:Option (Out×Env×N7)}{Q:Out->Env->N7->Prop}{r:α}(h:w7 x Q)(u:∀o e H,Q o e H->F (some (o,e,H))=r):F x=r:=by
 obtain⟨o,e,H,rfl,z⟩:=h;exact u o e H z
end
structure i6(lo:Nat)(H H':N7):Prop where
 next:H.next<=H'.next
 lowAll:∀k,k<=lo->k<=H.low->k<=H'.low
 get:∀j,j<lo->H'.get j=H.get j
theorem i6.low{lo:Nat}{H H':N7}(h:i6 lo H H')(q:lo<=H.low):lo<=H'.low:=h.lowAll lo lR q
theorem i6.weaken{lo u:Nat}{H H':N7}(h:i6 lo H H')(k:u<=lo):i6 u H H':=⟨h.next,fun j z=>h.lowAll j oM,fun j z=>h.get j oM⟩
theorem i6.refl(lo:Nat)(H:N7):i6 lo H H:=⟨lR,fun _ _ h=>h,fun _ _=>rfl⟩
theorem i6.trans{lo:Nat}{a b c:N7}(h:i6 lo a b)(k:i6 lo b c):i6 lo a c:=⟨Nat.le_trans h.next k.next,fun j u q=>k.lowAll j u (h.lowAll j u q),fun j u=>by rw[k.get j u,h.get j u]⟩
theorem i6.push{lo:Nat}{H:N7}{B:Blk}(h:lo<=H.next):i6 lo H (H.push B):=⟨by rw[i5];omega,fun _ _ q=>q,fun j u=>i7 oM⟩
theorem i6.put{lo b:Nat}{H:N7}{B:Blk}(h:lo<=b):i6 lo H (H.put b B):=⟨Nat.le_refl _ |> fun q=>by rw[t5];exact q,fun k z q=>by rw[A4];omega,fun j u=>j6 oM⟩
theorem i6.start(H:N7):i6 H.next H ⟨H.bs,H.next⟩:=⟨lR,fun _ h _=>h,fun _ _=>rfl⟩
theorem i6.ret{lo:Nat}{H H':N7}(h:i6 lo H H')(z:lo<=H'.low):i6 lo H ⟨H'.bs,min H.low H'.low⟩:=⟨h.next,fun k u q=>by simp only;omega,h.get⟩
def Z1(H:N7)(lo sz:Nat)(v:Value)(n:Nat)(cs:LV):Prop:=
 (v= .slice none 0 0/\n=0/\cs=[])\/∃b,v= .slice (some ⟨b,0,none⟩) n (n+1)/\H.get b=some (.cells cs true sz)/\lo<=b/\cs.length=n*sz
theorem Z1.push{H:N7}{lo sz:Nat}{v:Value}{n:Nat}{cs:LV}(h:Z1 H lo sz v n cs)(B:Blk):Z1 (H.push B) lo sz v n cs:=by
 rcases h with h|⟨b,z,u,D⟩
 .exact .inl h
 .exact .inr ⟨b,z,by rw[i7 (u7 u)];exact u,D⟩
theorem Z1.put{H:N7}{lo sz:Nat}{v:Value}{n:Nat}{cs:LV}(h:Z1 H lo sz v n cs){b:Nat}(B:Blk)(E:∀c,v= .slice (some ⟨c,0,none⟩) n (n+1)->b≠c):Z1 (H.put b B) lo sz v n cs:=by
 rcases h with h|⟨c,u,z,D⟩
 .exact .inl h
 .exact .inr ⟨c,u,by rw[j6 (E c u)];exact z,D⟩
section
variable{P:Program}
theorem wk{t e:TypeId}{sz bytes:Nat}{z:LV}(ht:P.underlying t=some (.slice e))(hs:D8 P e=some sz)(W:V0 P e=some bytes)(hz:O9 P e=some z)(h0:0<sz)(h1:0<bytes)
  {H:N7} {lo:Nat} {v:Value} {n:Nat} {cs:LV} (h:Z1 H lo sz v n cs) {c m k:Nat} {el:LV} {own:Bool} {q:Nat} (hc:H.get c=some (.cells el own q)) (hm:0<m) (J:el.length=m*sz) (hr:(n+m)*bytes<=140737488355328) (u:lo<=H.next):
  ∃v' H',C2 P H [t,t] v (.slice (some ⟨c,0,none⟩) m k)=some (v',some H')/\Z1 H' lo sz v' (n+m) (cs++el)/\i6 lo H H':=by
 have S:I5 P t=some e:=by simp [I5,ht]
 have D:aY P H sz (some t) (.slice (some ⟨c,0,none⟩) m k)=some (m,el):=by
  simp only[aY,Option.bind_some,ht,A5,hc];rw[if_neg oM,if_pos oM];simp [<-J]
 have O:¬(sz=0\/bytes=0):=oM;rcases h with⟨rfl,rfl,rfl⟩|⟨b,rfl,X,U,E⟩
 .refine⟨.slice (some ⟨H.next,0,none⟩) m (m+1),H.push (.cells el true sz),?_,.inr ⟨H.next,by rw[Nat.zero_add],j9,u,by simpa using J⟩,i6.push u⟩;simp only[C2,List.head?_cons,Option.bind_some,S,hs,W,hz,List.getElem?_cons_succ,List.getElem?_cons_zero,if_neg O,D];rw[if_neg oM,if_pos (by simpa using hr)]
 .have a1:=u7 X;refine⟨.slice (some ⟨H.next,0,none⟩) (n+m) (n+m+1),(H.put b .dead).push (.cells (cs++el) true sz),?_,.inr ⟨H.next,rfl,y7 ⟨by simp [t5],by simp [t5]⟩,u,by rw[List.length_append,E,J,Nat.add_mul]⟩,(i6.put U).trans (i6.push (by rw[t5];exact u))⟩;simp only[C2,List.head?_cons,Option.bind_some,S,hs,W,hz,List.getElem?_cons_succ,List.getElem?_cons_zero,if_neg O,D,X];rw[if_neg oM,if_pos hr,if_pos (by simp;omega),if_neg oM];simp [<-E]
end
def dL(v:Value)(h:Option N7):Option (Value×Option N7):=some (v,h)
def Ret(x:Option (Value×Option N7))(H:N7)(Q:Value->N7->Prop):Prop:=∃v h H1,x=dL v h/\h.getD H=H1/\Q v H1
theorem AL(v:Value)(h:Option N7)(H:N7)(f:Value->N7->Option (Env×N7)):fO (dL v h) H f=f v (h.getD H):=by cases h<;>rfl
theorem uq(v:Value)(H H':N7)(Q:Value->N7->Prop)(u:L9 v=true->H.next<=H'.low->Q v H)(z:Q v ⟨H'.bs,min H.low H'.low⟩):∃w h,D6 v H H'=(w,h)/\Q w (h.getD H):=by
 unfold D6;by_cases h:(L9 v&&decide (H.bs.length<=H'.low))=true
 .rw[if_pos h];simp only[Bool.and_eq_true,decide_eq_true_eq]at h;exact⟨v,none,rfl,u h.1 h.2⟩
 .rw[if_neg h];exact⟨v,_,rfl,z⟩
theorem E1{v:Value}{H H':N7}{Q:Value->N7->Prop}(u:L9 v=true->H.next<=H'.low->Q v H)(z:Q v ⟨H'.bs,min H.low H'.low⟩):Ret (some (D6 v H H')) H Q:=by
 obtain⟨w,h,D,E⟩:=uq v H H' Q u z;exact⟨w,h,_,by rw[D,dL],rfl,E⟩
theorem dI{v:Value}{c:Bool}{H u:N7}{Q:Value->N7->Prop}(z:c=true->Q v H)(D:Q v u):Ret (some (br c (v,none) (v,some u))) H Q:=by
 cases c
 .exact⟨v,_,_,rfl,rfl,D⟩
 .exact⟨v,_,_,rfl,rfl,z rfl⟩
theorem Z1.na{H H0:N7}{lo sz:Nat}{v:Value}{n:Nat}{cs:LV}(h:Z1 H lo sz v n cs)(u:na1 v=true):Z1 H0 lo sz v n cs:=by
 rcases h with h|⟨b,z,D,E⟩
 .exact .inl h
 .rw[z]at u;cases u
theorem Z1.low{H:N7}{lo sz:Nat}{v:Value}{n:Nat}{cs:LV}(h:Z1 H lo sz v n cs)(l:Nat):Z1 ⟨H.bs,l⟩ lo sz v n cs:=by
 rcases h with h|⟨b,u,z,D⟩
 .exact .inl h
 .exact .inr ⟨b,u,z,D⟩
theorem j8(F:Option (Out×Env×N7)->Prop){x:Option (Out×Env×N7)}{Q:Out->Env->N7->Prop}(h:w7 x Q)(u:∀o e H,Q o e H->F (some (o,e,H))):F x:=by
 obtain⟨o,e,H,D,z⟩:=h;rw[D];exact u o e H z
section
variable{P:Program}
def yf(d:Option TypeDesc)(H:N7)(s:ByteArray):Option (Value×Option N7):=
 match d with
 |some .string=>some (.pointer (some ⟨H.next,0,none⟩),some (H.push (.iter s 0)))
 |_=>none
theorem ye(t:TypeId)(H:N7)(s:ByteArray):yc P t H (.string s)=yf (P.underlying t) H s:=by
 unfold yc yf;cases P.underlying t with
 |none=>rfl
 |some d=>cases d<;>rfl
theorem yg(H:N7)(s:ByteArray):yf (some .string) H s=some (.pointer (some ⟨H.next,0,none⟩),some (H.push (.iter s 0))):=rT
def Fd(x:Option Blk)(H:N7)(b:Nat):Option (Value×Option N7):=
 match x with
 |some (.iter s pos)=>br (decide (pos<s.size)) (some (.tuple #[.bool true,.int .i64 pos,.int .i32 (Utf8.decode s pos).1],some (H.put b (.iter s (pos+(Utf8.decode s pos).2))))) (some (.tuple #[.bool false],none))
 |_=>none
theorem BP(H:N7)(b:Nat):jB H (.pointer (some ⟨b,0,none⟩))=Fd (H.get b) H b:=by
 unfold jB Fd;simp only;generalize H.get b=q;cases q with
 |none=>rfl
 |some x=>cases x<;>simp [br,goInt]
theorem xQ(s:ByteArray)(u:Nat)(H:N7)(b:Nat):Fd (some (.iter s u)) H b=br (decide (u<s.size)) (some (.tuple #[.bool true,.int .i64 u,.int .i32 (Utf8.decode s u).1],some (H.put b (.iter s (u+(Utf8.decode s u).2))))) (some (.tuple #[.bool false],none)):=rT
theorem Y3(s:ByteArray)(i:Nat):1<=(Utf8.decode s i).2:=by
 unfold Utf8.decode;simp only;split
 .simp
 .split
  .split<;>simp
  .split
   .split<;>simp
   .split
    .split<;>simp
    .simp
end
theorem i6.first(H:N7)(B:Blk):i6 H.next H (N7.push ⟨H.bs,H.next⟩ B):=(i6.start H).trans (i6.push lR)
def SlI(H:N7)(lo sz:Nat){α:Type}(R:LV->α->Prop)(v:Value)(l:List α):Prop:=
 (v= .slice none 0 0/\l=[])\/
 ∃b o c,v= .slice (some ⟨b,o,none⟩) l.length c/\
  (l=[]\/∃cs own,b<lo/\H.get b=some (.cells cs own sz)/\o+l.length*sz<=cs.length/\∀(i:Nat) a,l[i]?=some a->R ((cs.drop (o+i*sz)).take sz) a)
theorem SlI.mono{H H':N7}{lo u sz:Nat}{α:Type}{R z:LV->α->Prop}{v:Value}{l:List α}(h:SlI H lo sz R v l)(U:∀j,j<lo->H'.get j=H.get j) (X:lo<=u) (S:∀cs a,R cs a->z cs a):SlI H' u sz z v l:=by
 rcases h with h|⟨b,o,c,hv,h⟩
 .exact .inl h
 .refine .inr ⟨b,o,c,hv,?_⟩;rcases h with h|⟨cs,own,D,E,J,O⟩
  .exact .inl h
  .exact .inr ⟨cs,own,oM,by rw[U b D];exact E,J,fun i a W=>S _ _ (O i a W)⟩
theorem SlI.form{H:N7}{lo sz:Nat}{α:Type}{R:LV->α->Prop}{v:Value}{l:List α}(h:SlI H lo sz R v l):
  (v= .slice none 0 0/\l=[])\/(∃b o c,v= .slice (some ⟨b,o,none⟩) 0 c/\l=[])\/
  ∃b o c cs own,v= .slice (some ⟨b,o,none⟩) l.length c/\0<l.length/\b<lo/\H.get b=some (.cells cs own sz)/\o+l.length*sz<=cs.length/\∀(i:Nat) a,l[i]?=some a->R ((cs.drop (o+i*sz)).take sz) a:=by
 rcases h with h|⟨b,o,c,u,h⟩
 .exact .inl h
 .rcases h with h|⟨cs,own,D,E,J,O⟩
  .subst h;exact .inr (.inl ⟨b,o,c,u,rfl⟩)
  .by_cases z:l=[]
   .subst z;exact .inr (.inl ⟨b,o,c,u,rfl⟩)
   .exact .inr (.inr ⟨b,o,c,cs,own,u,List.length_pos_iff.2 z,D,E,J,O⟩)
theorem SlI.slice{H:N7}{lo sz:Nat}{α:Type}{R:LV->α->Prop}{v:Value}{l:List α}(h:SlI H lo sz R v l):∃a c,v= .slice a l.length c:=by
 rcases h with⟨h,u⟩|⟨b,o,c,z,h⟩
 .exact⟨none,0,by rw[h,u];rfl⟩
 .exact⟨_,_,z⟩
theorem SlI.at_{H:N7}{lo sz:Nat}{α:Type}{R:LV->α->Prop}{v:Value}{l:List α}(h:SlI H lo sz R v l){i:Nat}{a:α}(z:l[i]?=some a):
  ∃b o c cs own,v= .slice (some ⟨b,o,none⟩) l.length c/\b<lo/\H.get b=some (.cells cs own sz)/\o+i*sz+sz<=cs.length/\R ((cs.drop (o+i*sz)).take sz) a:=by
 have u:i<l.length:=(gS z).1;rcases h with⟨_,h⟩|⟨b,o,c,O,h⟩
 .subst h;simp at u
 .rcases h with h|⟨cs,own,D,E,S,J⟩
  .subst h;simp at u
  .refine⟨b,o,c,cs,own,O,D,E,?_,J i a z⟩;have:(i+1)*sz<=l.length*sz:=Nat.mul_le_mul_right _ u;rw[Nat.add_mul]at this;omega
theorem cq{cs enc:LV}{o sz:Nat}(h:o+sz<=cs.length)(u:(cs.drop o).take sz=enc):ldC (some true) (some sz) o cs=some (.agg enc.toArray):=by rw[eW _ _ _ h,u]
theorem Q3{cs enc:LV}{o sz k:Nat}(u:k<sz)(z:(cs.drop o).take sz=enc):cs[o+k]?=enc[k]?:=by
 rw[<-z,List.getElem?_take,if_pos u,List.getElem?_drop]
def cg(H:N7)(lo sz:Nat)(v:Value)(n:Nat)(cs:LV):Prop:=
 (v= .slice none 0 0/\n=0/\cs=[])\/∃b c,v= .slice (some ⟨b,0,none⟩) n c/\H.get b=some (.cells cs true sz)/\lo<=b/\cs.length=n*sz
theorem cg.mono{H H':N7}{lo u sz:Nat}{v:Value}{n:Nat}{cs:LV}(h:cg H lo sz v n cs)(S:u<=lo)(J:∀j,j<H.next->H'.get j=H.get j):cg H' u sz v n cs:=by
 rcases h with h|⟨b,c,D,z,O,E⟩
 .exact .inl h
 .exact .inr ⟨b,c,D,by rw[J b (u7 z)];exact z,oM,E⟩
theorem Z1.ownC{H:N7}{lo sz:Nat}{v:Value}{n:Nat}{cs:LV}(h:Z1 H lo sz v n cs):cg H lo sz v n cs:=by
 rcases h with h|⟨b,u,z⟩
 .exact .inl h
 .exact .inr ⟨b,_,u,z⟩
theorem cg.slice{H:N7}{lo sz:Nat}{v:Value}{n:Nat}{cs:LV}(h:cg H lo sz v n cs):∃a c,v= .slice a n c:=by
 rcases h with⟨h,rfl,_⟩|⟨b,c,u,_⟩
 .exact⟨none,0,h⟩
 .exact⟨_,_,u⟩
theorem cg.cells{H:N7}{lo sz:Nat}{v:Value}{n:Nat}{cs:LV}(h:cg H lo sz v n cs)(D:0<sz):∃a c,v= .slice a n c/\A5 H sz (.slice a n c)=some cs:=by
 rcases h with⟨rfl,rfl,rfl⟩|⟨b,c,rfl,z,E,J⟩
 .exact⟨none,0,rfl,rfl⟩
 .refine⟨_,_,rfl,?_⟩;simp only[A5,z];by_cases u:n=0
  .subst u;have:cs=[]:=List.length_eq_zero_iff.1 oM;simp [this]
  .rw[if_neg u,if_pos oM,List.drop_zero,List.take_of_length_le oM]
def D2{α:Type}(sz:Nat)(R:LV->α->Prop)(cs:LV)(l:List α):Prop:=
 cs.length=l.length*sz/\∀(i:Nat) a,l[i]?=some a->R ((cs.drop (i*sz)).take sz) a
theorem D2.append{α:Type}{sz:Nat}{R:LV->α->Prop}{c1 c2:LV}{u l2:List α}(h:D2 sz R c1 u)(k:D2 sz R c2 l2):D2 sz R (c1++c2) (u++l2):=by
 refine⟨by rw[List.length_append,List.length_append,h.1,k.1,Nat.add_mul],fun i a z=>?_⟩;by_cases E:i<u.length
 .rw[List.getElem?_append_left E]at z;have:=h.2 i a z;have D:(i+1)*sz<=u.length*sz:=Nat.mul_le_mul_right _ E;rw[Nat.add_mul]at D;rw[List.drop_append_of_le_length (by rw[h.1];omega),List.take_append_of_le_length (by rw[List.length_drop,h.1];omega)];exact this
 .rw[List.getElem?_append_right oM]at z;have:=k.2 _ a z;have e:i*sz=c1.length+(i-u.length)*sz:=by rw[h.1,<-Nat.add_mul];congr 1;omega
  rw[e,<-List.drop_drop,List.drop_left];exact this
theorem SlI.cells{H:N7}{lo sz:Nat}{α:Type}{R:LV->α->Prop}{v:Value}{l:List α}(h:SlI H lo sz R v l):∃el,A5 H sz v=some el/\D2 sz R el l:=by
 rcases h.form with⟨rfl,rfl⟩|⟨b,o,c,rfl,rfl⟩|⟨b,o,c,cs,own,rfl,S,U,D,E,J⟩
 .exact⟨[],rfl,by simp [D2]⟩
 .exact⟨[],by simp [A5],by simp [D2]⟩
 .refine⟨(cs.drop o).take (l.length*sz),by simp only[A5,D];rw[if_neg oM,if_pos E],by rw[List.length_take,List.length_drop];omega,fun i a z=>?_⟩;have:=J i a z;have O:i<l.length:=(gS z).1;have u:(i+1)*sz<=l.length*sz:=Nat.mul_le_mul_right _ O;rw[Nat.add_mul]at u;rw[List.drop_take,List.take_take,List.drop_drop,Nat.min_eq_left oM];exact this
theorem D2.mono{α:Type}{sz:Nat}{R u:LV->α->Prop}{c:LV}{l:List α}(h:D2 sz R c l)(z:∀cs a,R cs a->u cs a):D2 sz u c l:=⟨h.1,fun i a D=>z _ _ (h.2 i a D)⟩
theorem cg.sl{H:N7}{lo sz:Nat}{α:Type}{R:LV->α->Prop}{v:Value}{l:List α}{cs:LV}(h:cg H lo sz v l.length cs)(D:D2 sz R cs l):SlI H H.next sz R v l:=by
 rcases h with⟨h,u,_⟩|⟨b,c,z,u,J,O⟩
 .exact .inl ⟨h,List.length_eq_zero_iff.1 u⟩
 .refine .inr ⟨b,0,c,z,.inr ⟨cs,true,u7 u,u,oM,fun i a E=>?_⟩⟩;rw[Nat.zero_add];exact D.2 i a E
theorem FC{α:Type}{sz:Nat}{enc:α->LV}(u:∀a,(enc a).length=sz) (l:List α):D2 sz (fun cs a=>cs=enc a) (l.flatMap enc) l:=by
 refine⟨?_,fun i a z=>(mY u z).2⟩;induction l with
 |nil=>simp
 |cons x l D=>rw[List.flatMap_cons,List.length_append,u,D,List.length_cons,Nat.add_mul];omega
theorem tp{P:Program}{t e:TypeId}{sz bytes:Nat}{z:LV}(ht:P.underlying t=some (.slice e))(hs:D8 P e=some sz)(U:V0 P e=some bytes)(hz:O9 P e=some z)(h0:0<sz)(h1:0<bytes)
  {H:N7} {lo:Nat} {v:Value} {n:Nat} {cs:LV} (h:cg H lo sz v n cs) {a:Option Addr} {m k:Nat} {el:LV} (hx:A5 H sz (.slice a m k)=some el) (S:el.length=m*sz) (hr:(n+m)*bytes<=140737488355328) (D:lo<=H.next):
  Ret (C2 P H [t,t] v (.slice a m k)) H fun v' H'=>cg H' lo sz v' (n+m) (cs++el)/\i6 lo H H':=by
 have O:I5 P t=some e:=by simp [I5,ht]
 have u:aY P H sz (some t) (.slice a m k)=some (m,el):=by
  simp only[aY,Option.bind_some,ht,hx,Option.map_some]
 have J:¬(sz=0\/bytes=0):=oM;by_cases hm:m=0
 .subst hm;have he:el=[]:=List.length_eq_zero_iff.1 oM;subst he;rw[Nat.add_zero,List.append_nil];refine⟨v,none,H,?_,rfl,h,i6.refl _ _⟩;rcases h with⟨rfl,rfl,rfl⟩|⟨b,c,rfl,hg,X,E⟩
  .simp [C2,O,hs,U,hz,J,u,dL]
  .simp [C2,O,hs,U,hz,J,u,dL]
 .rcases h with⟨rfl,rfl,rfl⟩|⟨b,c,rfl,hg,X,E⟩
  .refine⟨.slice (some ⟨H.next,0,none⟩) m (m+1),some (H.push (.cells el true sz)),_,?_,rfl,.inr ⟨H.next,_,by rw[Nat.zero_add],j9,D,by simpa using S⟩,i6.push D⟩;simp only[C2,List.head?_cons,Option.bind_some,O,hs,U,hz,List.getElem?_cons_succ,List.getElem?_cons_zero,if_neg J,u];rw[if_neg hm,if_pos (by simpa using hr),dL]
  .have a1:=u7 hg;have W:((cs.drop 0).take (n*sz))=cs:=by rw[List.drop_zero,List.take_of_length_le oM]
   by_cases hc:c=n
   .refine⟨.slice (some ⟨H.next,0,none⟩) (n+m) (n+m+1),some (H.push (.cells (cs++el) true sz)),_,?_,rfl,.inr ⟨H.next,_,rfl,j9,D,by rw[List.length_append,E,S,Nat.add_mul]⟩,i6.push D⟩;simp only[C2,List.head?_cons,Option.bind_some,O,hs,U,hz,List.getElem?_cons_succ,List.getElem?_cons_zero,if_neg J,u,hg,W];rw[if_neg hm,if_pos hr,if_pos (by simp;omega),if_pos hc,dL]
   .refine⟨.slice (some ⟨H.next,0,none⟩) (n+m) (n+m+1),some ((H.put b .dead).push (.cells (cs++el) true sz)),_,?_,rfl,.inr ⟨H.next,_,rfl,y7 ⟨by simp [t5],by simp [t5]⟩,D,by rw[List.length_append,E,S,Nat.add_mul]⟩,(i6.put X).trans (i6.push (by rw[t5];exact D))⟩;simp only[C2,List.head?_cons,Option.bind_some,O,hs,U,hz,List.getElem?_cons_succ,List.getElem?_cons_zero,if_neg J,u,hg,W];rw[if_neg hm,if_pos hr,if_pos (by simp;omega),if_neg hc,if_pos trivial,dL]
section
variable{P:Program}
def zH(x:ByteArray×ByteArray):Value:= .agg #[.string x.1,.string x.2]
theorem SF{kt:TypeId}(z:vJ P kt=some [.str,.str])(u:bT P kt=some true)(x y:ByteArray×ByteArray):uK P kt (zH x) (zH y)=some (decide (x=y)):=by
 have e:decide (x=y)=(decide (x.1=y.1)&&decide (x.2=y.2)):=by
  rw[<-Bool.decide_and];exact decide_eq_decide.2 Prod.ext_iff
 simp [uK,z,u,zH,A6,N6,sO,e]
theorem NB{kt:TypeId}(z:vJ P kt=some [.str,.str])(u:bT P kt=some true)(x:ByteArray×ByteArray):R2 P kt (zH x)=true:=by
 simp [R2,z,u,zH,X3,nJ]
def He(x:(ByteArray×ByteArray)×Value):Value×Value:=(zH x.1,x.2)
def mH(k:ByteArray×ByteArray):List ((ByteArray×ByteArray)×Value)->Nat->Option (Nat×Value)
 |[],_=>none
 |(k',v)::es,i=>if k=k' then some (i,v) else mH k es (i+1)
theorem Hn{kt:TypeId}(D:vJ P kt=some [.str,.str])(z:bT P kt=some true)(k:ByteArray×ByteArray):∀(u:List ((ByteArray×ByteArray)×Value))(i:Nat),kM P kt (zH k) (u.map He) i=some (mH k u i)
 |[],i=>rfl
 |(k',v)::u,i=>by
  rw[List.map_cons,He,kM,SF D z,mH];by_cases h:k=k'
  .rw[if_pos h];simp [h]
  .rw[if_neg h];simp only[h,decide_false];exact Hn D z k u (i+1)
def Jw(P:Program)(q:Option (TypeId×TypeId))(B:Option Blk)(k:Value)(ok:Bool):Option Value:=
 match q with
 |some (kt,et)=>
  if R2 P kt k then
   match B with
   |some (.map es)=>
    match kM P kt k es 0,iP P et with
    |some (some (_,v)),some _=>some (if ok then .tuple #[v,.bool true] else v)
    |some none,some z=>some (if ok then .tuple #[z,.bool false] else z)
    |_,_=>none
   |_=>none
  else none
 |none=>none
theorem uR(H:N7)(t:TypeId)(b:Nat)(k:Value)(ok:Bool):gQ P H t (.map (some b)) k ok=Jw P (vK P t) (H.get b) k ok:=by
 unfold gQ Jw;cases vK P t with
 |none=>rfl
 |some q=>
  simp only;split
  .generalize H.get b=B;cases B with
   |none=>rfl
   |some B=>cases B<;>rfl
  .rfl
def Qx(P:Program)(q:Option (TypeId×TypeId))(B:Option Blk)(H:N7)(b:Nat)(k v:Value):Option N7:=
 match q with
 |some (kt,_)=>
  if R2 P kt k then
   match B with
   |some (.map es)=>
    match kM P kt k es 0 with
    |some (some (i,_))=>some (H.put b (.map (es.set i (k,v))))
    |some none=>some (H.put b (.map (es++[(k,v)])))
    |none=>none
   |_=>none
  else none
 |none=>none
theorem nX(H:N7)(t:TypeId)(b:Nat)(k v:Value):Y7 P H t (.map (some b)) k v=Qx P (vK P t) (H.get b) H b k v:=by
 unfold Y7 Qx;cases vK P t with
 |none=>rfl
 |some q=>
  simp only;split
  .generalize H.get b=B;cases B with
   |none=>rfl
   |some B=>cases B<;>rfl
  .rfl
theorem Sf{kt et:TypeId}{z:Value}(E:vJ P kt=some [.str,.str])(D:bT P kt=some true)(J:iP P et=some z)(u:List ((ByteArray×ByteArray)×Value))(k:ByteArray×ByteArray):
  Jw P (some (kt,et)) (some (.map (u.map He))) (zH k) false=some (((mH k u 0).map (·.2)).getD z):=by
 simp only[Jw,NB E D,if_true,Hn E D,J];cases mH k u 0 with
 |none=>rfl
 |some q=>rfl
theorem Si{kt et:TypeId}(D:vJ P kt=some [.str,.str])(z:bT P kt=some true)(H:N7)(b:Nat)(u:List ((ByteArray×ByteArray)×Value))(k:ByteArray×ByteArray)(v:Value)(E:mH k u 0=none):
  Qx P (some (kt,et)) (some (.map (u.map He))) H b (zH k) v=some (H.put b (.map ((u++[(k,v)]).map He))):=by
 simp only[Qx,NB D z,if_true,Hn D z,E,List.map_append,List.map_cons,List.map_nil,He]
def eqT(ks:Option (List Q5))(xs ys:LV):Option Bool:=
 match ks with
 |some ks=>A6 ks xs ys
 |none=>none
theorem tA(t:TypeId)(xs u:Array Value):F6 P .eql t (.agg xs) (.agg u)=(eqT (oW P t) xs.toList u.toList).map .bool:=by
 simp only[F6,eqA,eqT];cases oW P t<;>rfl
theorem tH(t:TypeId)(xs u:Array Value):F6 P .neq t (.agg xs) (.agg u)=(eqT (oW P t) xs.toList u.toList).map fun b=> .bool !b:=by
 simp only[F6,eqA,eqT];cases oW P t<;>rfl
theorem DP(u:List Q5)(xs z:LV):eqT (some u) xs z=A6 u xs z:=rT
theorem JY:A6 [] [] []=some true:=rT
theorem JZ(u:List Q5)(a b:ByteArray)(xs z:LV):A6 (.str::u) (.string a::xs) (.string b::z)=(A6 u xs z).map (decide (a=b)&& ·):=by
 simp only[A6,N6,sO];cases A6 u xs z<;>rfl
def zO(k:ByteArray×ByteArray)(l:List (ByteArray×ByteArray)):Bool:=l.any fun x=>decide (k=x)
theorem tv(k:ByteArray×ByteArray)(v:Value):∀(l:List (ByteArray×ByteArray))(i:Nat),((mH k (l.map fun x=>(x,v)) i).map (·.2))=if zO k l=true then some v else none
 |[],i=>by simp [mH,zO]
 |x::l,i=>by
  rw[List.map_cons,mH];by_cases h:k=x
  .simp [h,zO]
  .have u:decide (k=x)=false:=by simp [h]
   rw[if_neg h,tv k v l (i+1),zO,zO,List.any_cons,u,Bool.false_or]
end
abbrev ly{p:Prop}(_:p):Prop:=p
theorem stOf{p:Prop}(h:p):ly h:=h
theorem ig:ly (aI (aI (aI (aI @JP @JN) (aI @Gj (aI @CR @CQ))) (aI (aI @JO @Gk) (aI @Gl (aI @CS @yr)))) (aI (aI (aI @IG @vu) (aI @FE (aI @JM @EW))) (aI (aI @BJ @LR) (aI @HX (aI @EV @BG))))):=stOf _
theorem rH:ly (aI (aI (aI @l9 @A4) (aI @i5 @t5)) (aI (aI @zG @uP) (aI @List.length_cons.{0} @List.length_nil.{0}))):=stOf _
theorem Mn:ly (aI (aI (aI (aI (aI @Option.getD_some.{0} (aI @FF @Cq)) (aI (aI @Gh @xG) (aI @Dp @Ay))) (aI (aI (aI @GK @HW) (aI @BO @wL)) (aI (aI @Dy @AI) (aI @Dx @AH)))) (aI (aI (aI @Ff (aI @EA @HG)) (aI (aI @DM @wJ) (aI @wK @Bv))) (aI (aI (aI @Bu @uG) (aI @pA @uH)) (aI (aI @xB @Bw) (aI @uE @rU))))) (aI (aI (aI (aI @kh (aI @rV @ki)) (aI (aI @nB @nF) (aI @rS @rX))) (aI (aI (aI @pB @Fz) (aI @xA @Ez)) (aI (aI @Bt @Ey) (aI @Br @Di)))) (aI (aI (aI @wh (aI @Dk @xX)) (aI (aI @Ai @Gs) (aI @Aj @my))) (aI (aI (aI @Dg @Ap) (aI @rh @Gr)) (aI (aI @JS @Ce) (aI @Df @Gt)))))):=stOf _
theorem Mo:ly (aI (aI (aI (aI (aI @Dh (aI @Ao @vF)) (aI (aI @Al @pl) (aI @Am @wi))) (aI (aI (aI @pp @An) (aI @Dj @tm)) (aI (aI @mT @th) (aI @De @tu)))) (aI (aI (aI @CD (aI @HK @wM)) (aI (aI @wN @Cg) (aI @Cf @Is))) (aI (aI (aI @BW @Fm) (aI @Es @Gv)) (aI (aI @GF @GC) (aI @Gw @JV))))) (aI (aI (aI (aI @GG (aI @wl @GB)) (aI (aI @Gz @Gy) (aI @Gx @tB))) (aI (aI (aI @tI @tC) (aI @tJ @MH)) (aI (aI @MG @bap) (aI @bcp @pD)))) (aI (aI (aI @dM (aI @oZ @vM)) (aI (aI @fX @kQ) (aI @eT @DD))) (aI (aI (aI @GJ @Dn) (aI @JX @tL)) (aI (aI @mD @IA) (aI @IB @Cn)))))):=stOf _
theorem Mp:ly (aI (aI (aI (aI (aI @Fp (aI @Fq @xW)) (aI (aI @uo @mX) (aI @py @xf))) (aI (aI (aI @ez @List.toList_toArray.{0}) (aI @ur @ut)) (aI (aI @rM @xe) (aI @EZ @jz)))) (aI (aI (aI @xN (aI @BL @HZ)) (aI (aI @Bool.and_false @Bool.false_and) (aI @LF @BA))) (aI (aI (aI @eW @HL) (aI @IU @Cw)) (aI (aI @AE @AF) (aI @wB @rv))))) (aI (aI (aI (aI @tO (aI @pu @AG)) (aI (aI @wC @Im) (aI @Fk @xU))) (aI (aI (aI @BV @uZ) (aI @Io @Fl)) (aI (aI @yE @vD) (aI @FL @FK)))) (aI (aI (aI @wF (aI @TD @yM)) (aI (aI @Iu @Cb) (aI @Cc @Bf))) (aI (aI (aI @ul @lH) (aI @xx @Bq)) (aI (aI @lG @xy) (aI @Ih @Ig)))))):=stOf _
theorem Mq:ly (aI (aI (aI (aI (aI @Dq (aI @pq @rq)) (aI (aI @DZ @Bg) (aI @wW @pt))) (aI (aI (aI @C7 @C8) (aI @GQ @wO)) (aI (aI @HN @EM) (aI @HO @xJ)))) (aI (aI (aI @i5 (aI @t5 @y7)) (aI (aI @i7 @j5) (aI @j6 @l9))) (aI (aI (aI @A4 @zG) (aI @uP @Ic)) (aI (aI @LW @BN) (aI @qB @qC))))) (aI (aI (aI (aI @Fa (aI @Ia @xO)) (aI (aI @BM @Ib) (aI @Fb @LX))) (aI (aI (aI @if_true.{1} @if_false.{1}) (aI @decide_eq_true_eq @decide_true)) (aI (aI @decide_false @Option.map_some.{0,0}) (aI @Option.map_none.{0,0} @Option.bind_some.{0,0})))) (aI (aI (aI @List.map_cons.{0,0} (aI @List.map_nil.{0,0} @List.append_nil.{0})) (aI (aI @List.nil_append.{0} @List.cons_append.{0}) (aI @List.length_cons.{0} @List.length_nil.{0}))) (aI (aI (aI @List.take_succ_cons.{0} @List.take_zero.{0}) (aI @List.drop_succ_cons.{0} @List.drop_zero.{0})) (aI (aI @List.all_cons.{0} @List.all_nil.{0}) (aI @List.replicate_succ.{0} @List.replicate_zero.{0})))))):=stOf _
theorem Mr:ly (aI (aI (aI (aI (aI @List.flatten_cons.{0} @List.flatten_nil.{0}) (aI @Bool.false_eq_true @Bool.true_eq_false)) (aI (aI @Bool.not_true @Bool.not_false) (aI @Bool.and_true (aI @Bool.true_and @Bool.or_false)))) (aI (aI (aI @Bool.false_or @Bool.or_true) (aI @Bool.true_or @Bool.and_self)) (aI (aI @ne_eq.{1} @not_false_eq_true) (aI @not_true_eq_false (aI @and_self @and_true))))) (aI (aI (aI (aI @true_and @Nat.zero_add) (aI @Nat.add_zero @Nat.zero_mul)) (aI (aI @Nat.le_refl @Option.some.injEq.{0}) (aI @Int.toNat_natCast (aI @AL @ye)))) (aI (aI (aI @yg @BP) (aI @xQ (aI @uR @nX))) (aI (aI @tA @tH) (aI @DP (aI @JY @JZ)))))):=stOf _
theorem rQ:ly (aI (aI (aI Mn Mo) (aI Mp Mq)) (aI (aI Mr @List.getElem?_toArray.{0}) (aI @List.getElem?_cons_zero.{0} @List.getElem?_cons_succ.{0}))):=stOf _
section
variable{P:Program}{base:Bs}{w0:World}{φ:List Loc}{S:List Blk}{w:World}{nt:Nat}{e:Env}{a:Act}
def yY:Obj->Bool
 | .loop _=>true
 | .deferred _=>true
 |_=>false
theorem BR.away{B:Blk}{l:Loc}(h:BR base φ B l w){k:Nat}{o:Obj}(D:w.heap[k]?=some o)(z:yY o=true)(O:¬base.pr k)(J:B≠ .dead):l.blk≠k:=by
 intro q;cases B with
 |dead=>exact J rfl
 |cells c own sz=>
  cases own with
  |false=>exact O (q▸h.below)
  |true=>
   obtain⟨_,_,cs,t,X,u,_⟩:=h.2.2.2.2 rfl;rw[q,D]at u;cases u;cases z
 |map W=>
  obtain⟨_,E,U,u,_⟩:=h;rw[q,D]at u;cases u;cases z
 |iter s p=>
  have u:=h.2.2;rw[q,D]at u;cases u;cases z
theorem WR.putX(h:WR base w0 φ S w){k:Nat}{o:Obj}(W:w.heap[k]?=some o)(O:yY o=true)(E:¬base.pr k)(X:Obj):WR base w0 φ S (w.putObj k X):=by
 refine⟨h.len,⟨h.below.os,h.below.tape,h.below.output,by rw[World.putObj_size];exact h.below.size,fun j z=>?_⟩,fun j z=>by rw[World.putObj_size];exact h.size j z,fun b B l J U=>?_,h.sep⟩
 .rw[World.putObj_heap_other (show j≠k from fun q=>E (q▸z))];exact h.below.block j z
 .have u:=h.blk b B l J U;by_cases D:B= .dead
  .subst D;trivial
  .exact u.mono (Ext.refl φ) (World.putObj_heap_other (u.away W O E D))
theorem nf(h:WR base w0 φ S w){k:Nat}{o:Obj}(U:w.heap[k]?=some o)(D:yY o=true)(J:¬base.pr k)(W:Obj)(u:Nat):Fr φ S u w (w.putObj k W):=
 fun b B l _ z E O=>World.putObj_heap_other ((h.blk b B l z O).away U D J E)
theorem WR.raiseX(h:WR base w0 φ S w)(Q:Nat->Prop)(u:∀k,Q k->¬base.pr k/\∃o,w.heap[k]?=some o/\yY o=true):WR (base.add Q) w φ S w:=
 h.raise Q (fun k U=>(gA (u k U).2.choose_spec.1).1) fun b B l J X W O=>by
  obtain⟨z,o,D,E⟩:=u _ O;refine(h.blk b B l J W).away D E z ?_ rfl;rintro rfl;cases X
theorem WR.allocX(h:WR base w0 φ S w)(o:Obj):WR base w0 φ S (w.alloc o):=by
 refine h.grow ⟨by simp,fun j u _=>Below.heap_alloc _ _ _ u⟩ (h.below.alloc h.size o)
theorem uw(h:WR base w0 φ S w)(o:Obj)(D:Nat):Fr φ S D w (w.alloc o):=fun b B l _ E J O=>by
 refine Below.heap_alloc _ _ _ ?_;have u:=h.blk b B l E O;by_cases z:B.mine=true
 .exact(u.lt z).2
 .cases B with
  |dead=>exact absurd rfl J
  |cells c own sz=>
   have:own=false:=by simpa [Blk.mine] using z
   subst this;exact h.size _ u.below
  |map U=>exact absurd rfl z
  |iter s p=>exact absurd rfl z
open Classical in
noncomputable def U9(P:Program)(C:A8)(k:Nat)(A B:Code)(p1 p2:Nat)(e:Env)(ok:N7->Prop):List (Nat×Nat)->N7->Option (Out×N7)
 |[],H=>some (.normal,H)
 |x::r,H=>
  match L5 P C k A ((p2,.int .i64 (x.2:Int))::(p1,.int .i64 (x.1:Int))::e) H with
  |some (.normal,e1,H1)=>
   match L5 P C k B e1 H1 with
   |some (.normal,_,H2)=>if ok H2 then U9 P C k A B p1 p2 e ok r H2 else none
   |some (.ret,_,H2)=>some (.ret,H2)
   |_=>none
  |_=>none
theorem dm{P:Program}{C:A8}{k:Nat}{A B:Code}{p1 p2:Nat}{e:Env}{ok:N7->Prop}:∀(l r:List (Nat×Nat))(H:N7),
  U9 P C k A B p1 p2 e ok (l++r) H=match U9 P C k A B p1 p2 e ok l H with
   |some (.normal,H1)=>U9 P C k A B p1 p2 e ok r H1
   |z=>z
 |[],r,H=>rfl
 |x::l,r,H=>by
  simp only[List.cons_append,U9];split
  .split
   .split
    .exact dm l r _
    .rfl
   .rfl
   .rfl
  .rfl
theorem cK{C:A8}(u:bP P base w0 C){k:Nat}{A B:Code}{p1 p2:Nat}{e:Env}{ok:N7->Prop}:∀(l:List (Nat×Nat))(H:N7){o:Out}{H':N7},U9 P C k A B p1 p2 e ok l H=some (o,H')->Le H H'
 |[],H,o,H',h=>by cases h;exact Le.refl _
 |x::l,H,o,H',h=>by
  simp only[U9]at h;split at h
  .rename_i O J D;split at h
   .rename_i E H2 z;split at h
    .exact((N8 u D).trans (N8 u z)).trans (cK u l H2 h)
    .cases h
   .rename_i E H2 z;cases h;exact(N8 u D).trans (N8 u z)
   .cases h
  .cases h
def vV(P:Program)(gf:Nat)(lb:Array Value)(Rd:World->Prop)(L:List (Nat×Nat))(W0:World):Prop:=
 ∀(l:Nat)(J Jx:List (Nat×Nat)->World->Prop),(∀pre w,J pre w->J pre w.drew)->
  (∀pre(x:Nat×Nat) W,(pre++[x])<+:L->J pre W->YieldAt Fence.wide 1 P l #[.int .i64 (x.1:Int),.int .i64 (x.2:Int)] W fun e W'=>
   (e= .returned (.bool true)/\J (pre++[x]) W'/\(Rd W->Rd W'))\/(e= .returned (.bool false)/\Jx (pre++[x]) W'))->
  J [] W0->CallsIn Fence.wide 2 P gf (#[.func (.yield l) #[] #[]]++lb) W0 fun e W'=>(∃v,e= .returned v)/\(J L W'\/∃pre,pre<+:L/\Jx pre W')
theorem lO{C:A8}(hm:P.follows .mixedOrders=true)(hC:X8 P C){k:Nat}{A B:Code}{p1 p2:Nat}{g:Operand}{ok:N7->Prop}{L:List (Nat×Nat)}{H Hf:N7}{o:Out}{Q:Exit->Act->World->Prop}
  (rA:E7 A=true) (rB:E7 B=true) (e3:I1 nt A=true) (c6:I1 nt B=true) (h1:p1<nt) (h2:p2<nt)
  (hE:ER φ nt e a) (hW:WR base w0 φ H.bs w) {gf:Nat} {lb:Array Value} (hg:a.eval g= .func (.func gf) #[] lb) (d6:dv P gf)
  (Rd:World->Prop) (d4:∀φ' H' W',Ext φ φ'->WR base w0 φ' H'.bs W'->ok H'->Rd W')
  (c5:∀W0,WR base w0 φ H.bs W0->vV P gf lb Rd L W0)
  (h:U9 P C k A B p1 p2 e ok L H=some (o,Hf))
  (hp:∀φ' W',Ext φ φ'->WR base w0 φ' Hf.bs W'->Fr φ H.bs Hf.low w W'->W'.heap[w.heap.size]?=some (.deferred (some []))->Q o.exit' {a with defers:={target:= .collected w.heap.size,args:= #[]}::a.defers} W'):
  (Code.rangeFunc g #[p1,p2] A B).wp P Q a w:=by
 refine(wpIn_wide (n:=3)).1 (wpIn_rangeFunc fun fn d8=>?_);obtain⟨D,hD⟩:∃D,w.heap.size=D:=⟨_,rfl⟩
 rw[hD]at hp;have c9:¬base.pr D:=fun q=>oN (hW.size D q);have U:¬base.pr (D+1):=fun q=>oN (hW.size (D+1) q);obtain⟨E,u⟩:∃E:LoopState->Option Code->Loop,E=fun st pe=>{state:=st,pending:=pe,fn,tmps:=a.tmps,params:= #[p1,p2],assign:=A,body:=B,defers:=D}:=⟨_,rfl⟩
 obtain⟨W1,a7⟩:∃W1,(w.alloc (.deferred (some []))).alloc (.loop (E .ready none))=W1:=⟨_,rfl⟩
 have d3:W1.heap[D+1]?=some (.loop (E .ready none)):=by
  rw[<-a7,<-hD];have:=World.alloc_heap_new (w.alloc (.deferred (some []))) (.loop (E .ready none));rwa [World.size_alloc]at this
 have d2:W1.heap[D]?=some (.deferred (some [])):=by
  rw[<-a7,<-hD];exact(Below.heap_alloc _ _ _ sM).trans (World.alloc_heap_new w _)
 have c7:WR base w0 φ H.bs W1:=by rw[<-a7];exact(hW.allocX _).allocX _
 have c8:Fr φ H.bs H.low w W1:=by
  rw[<-a7];exact Fr.trans (Ext.refl φ) (Le.refl H) (Le.refl H) hW.len (uw hW _ _) (uw (hW.allocX _) _ _)
 obtain⟨J0,b0⟩:=eY (fun o J W=>∃φ' H',U9 P C k A B p1 p2 e ok J H=some (o,H')/\Ext φ φ'/\WR base w0 φ' H'.bs W/\Fr φ H.bs H'.low w W/\W.heap[D]?=some (.deferred (some [])):Out->List (Nat×Nat)->World->Prop);have d9:=c5 W1 c7 (D+1) (fun J W=>J0 .normal J W/\W.heap[D+1]?=some (.loop (E .ready none))) (fun J W=>J0 .ret J W/\W.heap[D+1]?=some (.loop (E .done (some .ret))))
  (by
   rw[b0];rintro J W ⟨⟨φ',H',q1,q2,q3,q4,q5⟩,q6⟩;exact⟨⟨φ',H',q1,q2,q3.same_heap rfl rfl rfl rfl,q4,q5⟩,q6⟩)
  ?_ (by rw[b0];exact⟨⟨φ,H,rfl,Ext.refl φ,c7,c8,d2⟩,d3⟩)
 .refine⟨D+1,[{target:= .collected D,args:= #[]}],W1,{target:= .fn (.func gf) lb,args:= #[.func (.yield (D+1)) #[] #[]]},W1,gf,#[.func (.yield (D+1)) #[] #[]]++lb,W1,?_,?_,?_,?_,fun _=>oM,?_⟩
  .rw[<-a7,u,<-hD];exact run_enterLoop_outer _ _ _ _ _
  .simp only[resolve,hg];simp [go_sem]
  .intro f' e5;trivial
  .have:=jJ d6 (#[.func (.yield (D+1)) #[] #[]]++lb) W1;simp [invoke,go_sem,this]
  .refine d9.mono ?_;rw[b0];rintro en W2 ⟨⟨v,rfl⟩,(⟨⟨φ',H',q1,q2,q3,q4,q5⟩,q6⟩|⟨J,a8,⟨φ',H',q1,q2,q3,q4,q5⟩,q6⟩)⟩
   .rw[h]at q1;cases q1;refine⟨none,_,by have:=run_endLoop (P:=P) q6 (by rw[u];simp);rw[u]at this;exact this,?_⟩;exact hp φ' _ q2 (q3.putX q6 rfl U _) (Fr.trans q2 (cK (hC base w0) L H h) (Le.refl _) hW.len q4 (nf q3 q6 rfl U _ _)) ((World.putObj_heap_other oM).trans q5)
   .obtain⟨r,rfl⟩:=a8;rw[dm,q1]at h;cases h;refine⟨some .ret,_,by have:=run_endLoop (P:=P) q6 (by rw[u];simp);rw[u]at this;exact this,wpIn_ret ?_⟩;exact hp φ' _ q2 (q3.putX q6 rfl U _) (Fr.trans q2 (cK (hC base w0) J H q1) (Le.refl _) hW.len q4 (nf q3 q6 rfl U _ _)) ((World.putObj_heap_other oM).trans q5)
 ·
  rw[b0];rintro J x W a8 ⟨⟨φ',H',q1,q2,q3,q4,q5⟩,q6⟩;have hy:=run_yield (P:=P) (args:= #[.int .i64 (x.1:Int),.int .i64 (x.2:Int)]) q6 (by rw[u];rfl);rw[u]at hy;refine⟨fn,_,A,B,hy,roundIn_of_wpIn d8 ?_⟩;have hx:U9 P C k A B p1 p2 e ok [x] H'≠none:=by
   intro hn;obtain⟨r,rfl⟩:=a8;rw[dm,dm,q1]at h;simp only[hn]at h;cases h
  have z:=dm (P:=P) (C:=C) (k:=k) (A:=A) (B:=B) (p1:=p1) (p2:=p2) (e:=e) (ok:=ok) J [x] H;rw[q1]at z;simp only[U9]at hx z;have b1:=cK (hC base w0) J H q1;have d1:ER φ' nt ((p2,.int .i64 (x.2:Int))::(p1,.int .i64 (x.1:Int))::e) {tmps:=(#[p1,p2].zip #[(.int .i64 (x.1:Int):Value),.int .i64 (x.2:Int)]).foldl (fun t(p,v)=>t.setIfInBounds p v) a.tmps,defers:=[]}:=by
   have h3:=((hE.mono q2).put (d:=some p1) (by simp [fo,h1]) (.int .i64 (x.1:Int))).put (d:=some p2) (by simp [fo,h2]) (.int .i64 (x.2:Int));have hz:(#[p1,p2].zip #[(.int .i64 (x.1:Int):Value),.int .i64 (x.2:Int)]).foldl (fun t(p,v)=>t.setIfInBounds p v) a.tmps=(a.tmps.setIfInBounds p1 (.int .i64 (x.1:Int))).setIfInBounds p2 (.int .i64 (x.2:Int)):=sM;rw[hz];exact⟨h3.size,h3.val⟩
  split at hx
  rotate_left
  .exact absurd rfl hx
  rename_i e1 H1 hA;simp only[hA]at z;have b2:=N8 (hC base w0) hA;have a5:∀{φ2:List Loc}{S2:List Blk}{V:World}{st:Loop},WR base w0 φ2 S2 V->V.heap[D]?=some (.deferred (some []))->V.heap[D+1]?=some (.loop st)->WR (base.add fun j=>j=D\/j=D+1) V φ2 S2 V:=fun hV hd hl=>
   hV.raiseX _ fun j hj=>by
    rcases hj with rfl|rfl
    .exact⟨c9,_,hd,rfl⟩
    .exact⟨U,_,hl,rfl⟩
  refine iv (base:=base.add fun j=>j=D\/j=D+1) (w0:=W) hm hC (D+1) _ rA e3 hA d1 (a5 q3 q5 q6) ?_;intro φ2 a2 w2 a6 c0 b6 c3 e4;have k5:w2.heap[D]?=some (.deferred (some [])):=(b6.below.block D (.inr (.inl rfl))).trans q5;have k6:w2.heap[D+1]?=some (.loop (E .ready none)):=(b6.below.block (D+1) (.inr (.inr rfl))).trans q6;have b3:=b6.lower q3.below;refine⟨_,run_beginRound k6 (by rw[u]),?_⟩;obtain⟨w3,a9⟩:∃w3,w2.putObj (D+1) (.loop {E .ready none with state:= .busy})=w3:=⟨_,rfl⟩
  rw[a9];have m5:w3.heap[D]?=some (.deferred (some [])):=by rw[<-a9];exact(World.putObj_heap_other oM).trans k5
  have m6:w3.heap[D+1]?=some (.loop (E .busy none)):=by
   rw[<-a9,World.putObj_heap_same (gA k6).1,u]
  have b7:WR base w0 φ2 H1.bs w3:=by rw[<-a9];exact b3.putX k6 rfl U _
  have f3:Fr φ H.bs H1.low w w3:=by
   have g1:Fr φ' H'.bs H1.low W w2:=c3;have g2:Fr φ2 H1.bs H1.low w2 w3:=by rw[<-a9];exact nf b3 k6 rfl U _ _
   exact Fr.trans (q2.trans a6) (b1.trans b2) (Le.refl _) hW.len (Fr.trans q2 b1 b2 hW.len q4 g1) g2
  have b9:∀{φ4:List Loc}{H2:N7}{w4:World}(O:Option Code),Ext φ2 φ4->Le H1 H2->WR (base.add fun j=>j=D\/j=D+1) w3 φ4 H2.bs w4->Fr φ2 H1.bs H2.low w3 w4->
    ∃w5,(Instr.endRound (D+1) O).run P w4= .ok (.bool O.isNone) w5/\WR base w0 φ4 H2.bs w5/\Fr φ H.bs H2.low w w5/\w5.heap[D]?=some (.deferred (some []))/\w5.heap[D+1]?=some (.loop (E (if O.isNone then .ready else .done) O)):=by
   intro φ4 H2 w4 O a1 b5 a3 X;have n5:w4.heap[D]?=some (.deferred (some [])):=(a3.below.block D (.inr (.inl rfl))).trans m5;have n6:w4.heap[D+1]?=some (.loop (E .busy none)):=(a3.below.block (D+1) (.inr (.inr rfl))).trans m6;have b4:=a3.lower b7.below;refine⟨_,run_endRound O n6,b4.putX n6 rfl U _,?_,(World.putObj_heap_other oM).trans n5,?_⟩
   .exact Fr.trans ((q2.trans a6).trans a1) ((b1.trans b2).trans b5) (Le.refl _) hW.len (Fr.trans (q2.trans a6) (b1.trans b2) b5 hW.len f3 X) (nf b4 n6 rfl U _ _)
   .rw[World.putObj_heap_same (gA n6).1,u]
  split at hx
  .rename_i e2 H2 hB;have b8:=N8 (hC base w0) hB;simp only[hB]at z;split at hx
   rotate_left
   .exact absurd rfl hx
   rename_i c4;rw[if_pos c4]at z;refine iv (base:=base.add fun j=>j=D\/j=D+1) (w0:=w3) hm hC (D+1) _ rB c6 hB c0 (a5 b7 m5 m6) ?_;intro φ4 a4 w4 a1 d0 a3 X d5;obtain⟨w5,r1,r2,r3,r4,r5⟩:=b9 none a1 b8 a3 X;exact⟨_,w5,r1,.inl ⟨rfl,⟨⟨φ4,H2,z,(q2.trans a6).trans a1,r2,r3,r4⟩,r5⟩,fun _=>d4 φ4 H2 w5 ((q2.trans a6).trans a1) r2 c4⟩⟩
  .rename_i e2 H2 hB;have b8:=N8 (hC base w0) hB;simp only[hB]at z;refine iv (base:=base.add fun j=>j=D\/j=D+1) (w0:=w3) hm hC (D+1) _ rB c6 hB c0 (a5 b7 m5 m6) ?_;intro φ4 a4 w4 a1 d0 a3 X d5;obtain⟨w5,r1,r2,r3,r4,r5⟩:=b9 (some .ret) a1 b8 a3 X;exact⟨_,w5,r1,.inr ⟨rfl,⟨φ4,H2,z,(q2.trans a6).trans a1,r2,r3,r4⟩,r5⟩⟩
  .exact absurd rfl hx
end
section
variable{P:Program}{X:Lib}
theorem vS(D:P.follows .mixedOrders=true)(u:pP P X):X8 P (CL P X):=fun base w0 g args H v r h=>by
 obtain⟨k,z⟩:=bZ.1 h;exact GL D u k base w0 g args H v r z
open Classical in
noncomputable def bH(P:Program)(X:Lib)(A B:t7)(p1 p2:Nat)(e:Env)(ok:N7->Prop):List (Nat×Nat)->N7->Option (Out×N7)
 |[],H=>some (.normal,H)
 |x::r,H=>
  match(LE P X A ((p2,.int .i64 (x.2:Int))::(p1,.int .i64 (x.1:Int))::e) H:Option (Out×Env×N7))with
  |some (.normal,e1,H1)=>
   match(LE P X B e1 H1:Option (Out×Env×N7))with
   |some (.normal,_,H2)=>if ok H2 then bH P X A B p1 p2 e ok r H2 else none
   |some (.ret,_,H2)=>some (.ret,H2)
   |_=>none
  |_=>none
theorem eA{c:Code}{l:t7}(h:Q0 c=some l){e:Env}{H:N7}{r:Out×Env×N7}(z:LE P X l e H=some r):∃k,L5 P (CL P X) k c e H=some r:=by
 obtain⟨k,u⟩:=T1.1 z;exact⟨k,by rw[nN (CL P X) k h];exact u⟩
theorem bq{C:A8}{k u:Nat}(z:k<=u){c:Code}{e:Env}{H:N7}{r:Out×Env×N7}(h:L5 P C k c e H=some r):L5 P C u c e H=some r:=aZ (fun _ _ _=>LeO.refl _) k u z c e H r h
theorem li{C:A8}{k D:Nat}(u:k<=D){A B:Code}{p1 p2:Nat}{e:Env}{ok:N7->Prop}:∀(l:List (Nat×Nat))(H:N7){r:Out×N7},U9 P C k A B p1 p2 e ok l H=some r->U9 P C D A B p1 p2 e ok l H=some r
 |[],H,r,h=>h
 |x::l,H,r,h=>by
  simp only[U9]at h ⊢;split at h
  .rename_i S O J;simp only[bq u J];split at h
   .rename_i E H2 z;simp only[bq u z];split at h
    .rename_i q;rw[if_pos q];exact li u l H2 h
    .cases h
   .rename_i E H2 z;simp only[bq u z];exact h
   .cases h
  .cases h
theorem kK{S U:Code}{A B:t7}(W:Q0 S=some A)(E:Q0 U=some B){p1 p2:Nat}{e:Env}{ok:N7->Prop}:∀(l:List (Nat×Nat))(H:N7){r:Out×N7},bH P X A B p1 p2 e ok l H=some r->∃k,U9 P (CL P X) k S U p1 p2 e ok l H=some r
 |[],H,r,h=>⟨0,h⟩
 |x::l,H,r,h=>by
  simp only[bH]at h;split at h
  .rename_i e1 H1 h1;obtain⟨z,q1⟩:=eA W h1;split at h
   .rename_i e2 H2 D;obtain⟨u,O⟩:=eA E D;split at h
    .rename_i q;obtain⟨J,q3⟩:=kK W E l H2 h;refine⟨max z (max u J),?_⟩;simp only[U9,bq (show z<=max z (max u J) from oM) q1,bq (show u<=max z (max u J) from oM) O,if_pos q];exact li oM l H2 q3
    .cases h
   .rename_i e2 H2 D;obtain⟨u,O⟩:=eA E D;refine⟨max z u,?_⟩;simp only[U9,bq (show z<=max z u from oM) q1,bq (show u<=max z u from oM) O];exact h
   .cases h
  .cases h
noncomputable def sI(P:Program)(X:Lib)(c1 c2 A B c3:t7)(p1 p2:Nat)(it:Env->N7->Option (List (Nat×Nat)×(N7->Prop)))(e:Env)(H:N7):Option (Out×Env×N7):=
 match(LE P X c1 e H:Option (Out×Env×N7))with
 |some (.normal,e1,H1)=>
  match(LE P X c2 e1 H1:Option (Out×Env×N7))with
  |some (.normal,e2,H2)=>
   match it e2 H2 with
   |some (L,ok)=>
    match bH P X A B p1 p2 e2 ok L H2 with
    |some (.normal,H3)=>LE P X c3 e2 H3
    |some (.ret,H3)=>some (.ret,e2,H3)
    |_=>none
   |none=>none
  |_=>none
 |_=>none
theorem Bi{base:Bs}{w0:World}{g:FuncId}{args:LV}{v v2:Value}{r:Option N7}{H H':N7}(U:Le ⟨H.bs,H.next⟩ H')
  (E:∀(φ:List Loc)(w:World)(u:LV),VRs φ args u->WR base w0 φ H.bs w->Calls P g u.toArray w fun en J=>∃v' z,en= .returned v'/\Ext φ z/\VR z v v'/\WR base w0 z H'.bs J/\Fr φ H.bs H'.low w J)
  (h:D6 v H H'=(v2,r)):(∀H',r=some H'->Le H H')/\(r=none->L9 v2=true)/\
  ∀(φ:List Loc)(w:World)(u:LV),VRs φ args u->WR base w0 φ H.bs w->
   Calls P g u.toArray w fun en J=>match(generalizing:=false) r with
    |none=>en= .returned v2/\Cls base w0 φ H.bs w J
    |some H'=>∃v' z,en= .returned v'/\Ext φ z/\VR z v2 v'/\WR base w0 z H'.bs J/\Fr φ H.bs H'.low w J:=by
 unfold D6 at h;split at h
 .rename_i D;simp only[Prod.mk.injEq]at h;obtain⟨rfl,rfl⟩:=h;simp only[Bool.and_eq_true,decide_eq_true_eq]at D;refine⟨fun H' h=>(by cases h),fun _=>D.1,fun φ w u ha W=>(E φ w u ha W).mono fun en J hq=>?_⟩;obtain⟨v',z,rfl,hx,hv,O,S⟩:=hq;exact⟨by rw[hv.eq_na D.1],W.back O S D.2⟩
 .simp only[Prod.mk.injEq]at h;obtain⟨rfl,rfl⟩:=h;refine⟨fun H2 h2=>?_,fun h=>(by cases h),fun φ w u ha W=>(E φ w u ha W).mono fun en J hq=>?_⟩
  .cases h2;exact⟨Nat.min_le_left _ _,U.len,fun b hb hl=>U.same b (Nat.lt_of_lt_of_le hb (Nat.min_le_right _ _)) hl⟩
  .obtain⟨v',z,h1,hx,hv,O,S⟩:=hq;exact⟨v',z,h1,hx,hv,O,fun b B l hb=>S b B l (Nat.lt_of_lt_of_le hb (Nat.min_le_right _ _))⟩
noncomputable def mi(P:Program)(X:Lib)(c1 c2 A B c3:t7)(p1 p2 nt:Nat)(rs:List ResultVar)(it:Env->N7->Option (List (Nat×Nat)×(N7->Prop)))(args:LV)(H:N7):Option (Value×Option N7):=
 if args.length<=nt then u5 P rs H (sI P X c1 c2 A B c3 p1 p2 it (N3 0 args) ⟨H.bs,H.next⟩) else none
theorem Fv(hm:P.follows .mixedOrders=true)(hX:pP P X){f:FuncId}{E:Func}{d1 d2 dA dB d3:Code}{c1 c2 A B c3:t7}{id p1 p2:Nat}{g:Operand}{gf:Nat}{it:Env->N7->Option (List (Nat×Nat)×(N7->Prop))}
  (a7:P.funcs[f]?=some E) (a6:E.body=some (.seq d1 (.seq (.seq d2 (.block id (.rangeFunc g #[p1,p2] dA dB))) d3))) (b6:(E.name== "runtime.NumGoroutine")=false)
  (l1:Q0 d1=some c1) (l2:Q0 d2=some c2) (lA:Q0 dA=some A) (lB:Q0 dB=some B) (l3:Q0 d3=some c3)
  (d4:(I1 E.ntmps d1&&I1 E.ntmps d2&&I1 E.ntmps dA&&I1 E.ntmps dB&&I1 E.ntmps d3&&E7 dA&&E7 dB&&decide (p1<E.ntmps)&&decide (p2<E.ntmps))=true) (f6:dv P gf)
  (e9:∀{base:Bs}{w0:World}{φ:List Loc}{w:World}{a:Act}{e:Env}{H:N7}{L:List (Nat×Nat)}{ok:N7->Prop},it e H=some (L,ok)->ER φ E.ntmps e a->WR base w0 φ H.bs w->
   ∃lb Rd,a.eval g= .func (.func gf) #[] lb/\(∀φ' H' W',Ext φ φ'->WR base w0 φ' H'.bs W'->ok H'->Rd W')/\∀W0,WR base w0 φ H.bs W0->vV P gf lb Rd L W0):
  X8 P (HQ f (mi P X c1 c2 A B c3 p1 p2 E.ntmps E.results.toList it)):=by
 intro base w0 g' args H v r h;simp only[Bool.and_eq_true,decide_eq_true_eq]at d4;obtain⟨⟨⟨⟨⟨⟨⟨⟨o1,o2⟩,oA⟩,oB⟩,o3⟩,rA⟩,rB⟩,f9⟩,g0⟩:=d4;have hC:=vS hm hX;have f4:dv P f:=⟨E,a7,b6,by rw[a6];rfl⟩
 unfold HQ at h;split at h
 rotate_left
 .cases h
 rename_i f5;subst f5;unfold mi at h;split at h
 rotate_left
 .cases h
 rename_i d0;unfold u5 at h;split at h
 .cases h
 rotate_left
 .cases h
 rename_i o e4 H4 f8 u;obtain⟨vs,g1,c5⟩:=Option.map_eq_some_iff.1 h;unfold sI at u;split at u
 rotate_left
 .cases u
 rename_i e1 H1 r1;split at u
 rotate_left
 .cases u
 rename_i e2 H2 r2;split at u
 rotate_left
 .cases u
 rename_i L ok f7;obtain⟨k1,x1⟩:=eA l1 r1;obtain⟨k2,x2⟩:=eA l2 r2;have b1:=N8 (hC base w0) x1;have b2:=N8 (hC base w0) x2;have a9:∀{base:Bs}{w0:World}{φ:List Loc}{w':World}{a':Act}{D:Nat}{R:Ending->World->Prop},ER φ E.ntmps e4 a'->WR base w0 φ H4.bs w'->a'.defers=[{target:= .collected D,args:= #[]}]->w'.heap[D]?=some (.deferred (some []))->¬base.pr D->
   (∀v' b0,VR φ (bN vs) v'->WR base w0 φ H4.bs b0->(∀b8,Fr φ H4.bs b8 w' b0)->R (.returned v') b0)->LeavesInM Fence.wide 3 P E a'.tmps R a'.defers .returning w':=by
  intro base w0 φ w' a' D R hE hW hd hD S hR;rw[hd];have W:=hW.putX hD rfl S (.deferred none);obtain⟨v',hv,u⟩:=lh W hE g1;exact⟨by simp,.inl ⟨D,_,rfl,run_takeDeferred hD,v',u,hR v' _ hv W fun b8=>nf hW hD rfl S _ b8⟩⟩
 have g2:∃(o5:Out)(H3:N7),bH P X A B p1 p2 e2 ok L H2=some (o5,H3)/\((o5= .normal/\LE P X c3 e2 H3=some (o,e4,H4))\/(o5= .ret/\o= .ret/\e4=e2/\H4=H3)):=by
  split at u
  .rename_i H3 r3;exact⟨_,H3,r3,.inl ⟨rfl,u⟩⟩
  .rename_i H3 r3;cases u;exact⟨_,_,r3,.inr ⟨rfl,rfl,rfl,rfl⟩⟩
  .cases u
 obtain⟨o5,H3,r3,d5⟩:=g2;obtain⟨k3,x3⟩:=kK lA lB L H2 r3;have b7:=cK (hC base w0) L H2 x3;have d8:Le H3 H4:=by
  rcases d5 with⟨_,h3⟩|⟨_,_,_,rfl⟩
  .obtain⟨k4,x4⟩:=eA l3 h3;exact N8 (hC base w0) x4
  .exact Le.refl _
 have a8:Le ⟨H.bs,H.next⟩ H4:=((b1.trans b2).trans b7).trans d8;refine⟨f4,Bi a8 (fun φ w d9 ha hW=>?_) c5⟩;refine(callsIn_wide (n:=3)).1 (callsIn_of_wp_marks a7 a6 trivial (wpIn_wide.2 (wp_seq ?_)));refine eN (H:=⟨H.bs,H.next⟩) hm hC o1 x1 (ue ha d0) hW ?_;intro φ1 a1 w1 O e6 f0 c6 f1;refine wp_seq (wp_seq (eN hm hC o2 x2 e6 f0 ?_));intro φ2 a2 w2 a3 U W c7 f2;have b3:a2.defers=[]:=f2.trans f1;obtain⟨lb,Rd,q1,q2,q3⟩:=e9 f7 U W;have S:¬base.pr w2.heap.size:=fun q=>oN (W.size _ q);refine wp_block (lO hm hC rA rB oA oB f9 g0 U W q1 f6 Rd q2 q3 x3 ?_);intro φ3 w3 z b5 c8 b4;have c0:Fr φ H.bs H3.low w w3:=Fr.trans (H:=(⟨H.bs,H.next⟩:N7)) (O.trans a3) (b1.trans b2) b7 hW.len (Fr.trans (H:=(⟨H.bs,H.next⟩:N7)) O b1 b2 hW.len c6 c7) c8;rcases d5 with⟨rfl,h3⟩|⟨rfl,rfl,rfl,e3⟩
 .obtain⟨k4,x4⟩:=eA l3 h3;have e7:ER φ3 E.ntmps e2 {a2 with defers:={target:= .collected w2.heap.size,args:= #[]}::a2.defers}:=⟨(U.mono z).size,(U.mono z).val⟩
  refine eN (base:=base.add fun j=>j=w2.heap.size) (w0:=w3) hm hC o3 x4 e7 (b5.raiseX _ fun j hj=>by subst hj;exact⟨S,_,b4,rfl⟩) ?_;intro φ4 a4 w4 d6 e8 c4 c9 f3;have e5:Fr φ H.bs H4.low w w4:=Fr.trans (H:=(⟨H.bs,H.next⟩:N7)) ((O.trans a3).trans z) ((b1.trans b2).trans b7) d8 hW.len c0 c9;have b9:=a9 (R:=fun en w'=>∃v' φ',en= .returned v'/\Ext φ φ'/\VR φ' (bN vs) v'/\WR base w0 φ' H4.bs w'/\Fr φ H.bs H4.low w w') e8 (c4.lower b5.below) (by rw[f3,b3]) ((c4.below.block _ (.inr rfl)).trans b4) S
   (fun v' b0 hv a5 J=>⟨v',φ4,rfl,((O.trans a3).trans z).trans d6,hv,a5,Fr.trans (H:=(⟨H.bs,H.next⟩:N7)) (((O.trans a3).trans z).trans d6) a8 (Le.refl _) hW.len e5 (J _)⟩)
  cases o with
  |normal=>exact b9
  |ret=>exact b9
  |exit id=>exact(f8 id rfl).elim
 .subst e3;exact a9 (a':={a2 with defers:={target:= .collected w2.heap.size,args:= #[]}::a2.defers}) (R:=fun en w'=>∃v' φ',en= .returned v'/\Ext φ φ'/\VR φ' (bN vs) v'/\WR base w0 φ' H4.bs w'/\Fr φ H.bs H4.low w w') ⟨(U.mono z).size,(U.mono z).val⟩ b5 (by rw[b3]) b4 S
   (fun v' b0 hv a5 J=>⟨v',φ3,rfl,(O.trans a3).trans z,hv,a5,Fr.trans (H:=(⟨H.bs,H.next⟩:N7)) ((O.trans a3).trans z) a8 (Le.refl _) hW.len c0 (J _)⟩)
end
theorem Ds{H:Type}(d:DataW H):1<=Rows.uptoBulk d:=by
 cases d with
 |lit l=>cases l<;>simp [Rows.uptoBulk]
 |nil=>simp [Rows.uptoBulk]
 |ptr d=>simp [Rows.uptoBulk]
 |slice z E=>simp [Rows.uptoBulk]
 |agg D=>simp [Rows.uptoBulk]
 |iface t d=>simp [Rows.uptoBulk]
 |map u=>simp [Rows.uptoBulk]
 |held h=>simp [Rows.uptoBulk]
theorem Az{H:Type}{d:DataW H}{l:List (DataW H)}(h:d∈l):Rows.uptoBulk d<=Rows.uptoBulkAll l:=by
 induction l with
 |nil=>cases h
 |cons x r u=>
  simp only[Rows.uptoBulkAll];rcases List.mem_cons.1 h with e|e
  .subst e;omega
  .have:=u e;omega
theorem Dr{H:Type}(l:List (DataW H)):l.length<=Rows.uptoBulkAll l:=by
 induction l with
 |nil=>simp [Rows.uptoBulkAll]
 |cons x r u=>have:=Ds x;simp only[Rows.uptoBulkAll,List.length_cons];omega
def Old(S S':List Blk):Prop:=∀(b:Nat) c sz,S[b]?=some (.cells c false sz)->S'[b]?=some (.cells c false sz)
theorem Old.refl(S:List Blk):Old S S:=fun _ _ _ h=>h
theorem Old.trans{a b c:List Blk}(h:Old a b)(k:Old b c):Old a c:=fun _ _ _ x=>k _ _ _ (h _ _ _ x)
theorem Old.snoc(S:List Blk)(B:Blk):Old S (S++[B]):=fun b c sz h=>by
 rw[List.getElem?_append_left];exact h;exact(List.getElem?_eq_some_iff.1 h).1
theorem Old.append(S T:List Blk):Old S (S++T):=fun b c sz h=>by
 rw[List.getElem?_append_left];exact h;exact(List.getElem?_eq_some_iff.1 h).1
theorem Old.set{S:List Blk}{b:Nat}{B:Blk}(h:∀c sz,S[b]?≠some (.cells c false sz)) (z:Blk):Old S (S.set b z):=fun D c sz u=>by
 rw[List.getElem?_set];by_cases e:b=D
 .subst e;exact absurd u (h c sz)
 .rw[if_neg e];exact u
def Sl(S:List Blk)(sz:Nat){α:Type}(R:LV->α->Prop)(v:Value)(l:List α):Prop:=
 (v= .slice none 0 0/\l=[])\/
 ∃b o,v= .slice (some ⟨b,o,none⟩) l.length (l.length+1)/\
  (l=[]\/∃c,S[b]?=some (.cells c false sz)/\o+l.length*sz<=c.length/\∀i a,l[i]?=some a->R ((c.drop (o+i*sz)).take sz) a)
theorem Sl.mono{S z:List Blk}{sz:Nat}{α:Type}{R u:LV->α->Prop}{v:Value}{l:List α}(W:Old S z)(O:∀cs a,R cs a->u cs a) (h:Sl S sz R v l):Sl z sz u v l:=by
 rcases h with h|⟨b,o,X,h⟩
 .exact .inl h
 .refine .inr ⟨b,o,X,?_⟩;rcases h with h|⟨c,D,E,J⟩
  .exact .inl h
  .exact .inr ⟨c,W _ _ _ D,E,fun i a U=>O _ _ (J i a U)⟩
section
variable{P:Program}
def N2(P:Program)(k:Nat)(t:TypeId){α:Type}(R:List Blk->LV->α->Prop):Prop:=
 (∀S S' cs a,Old S S'->R S cs a->R S' cs a)/\
 ∀{H:Type}(enc:TypeId×Value->H)(W:World)(fuel:Nat),fuel<k->∀(cs:LV)(d:DataW H)(ps:List MemPlace),DataW.trod enc P W 0 (fun _=>true) true fuel t cs=some (d,ps)->
  Rows.uptoBulk d<=1048576->∀(φ:List Loc)(S:List Blk),WR (Bs.lt W.heap.size) W φ S W->
  ∃(φ':List Loc)(S':List Blk)(ac:LV)(a:α),Ext φ φ'/\Old S S'/\WR (Bs.lt W.heap.size) W φ' S' W/\VRs φ' ac cs/\(∀x∈ac,x.oneCell'=true)/\R S' ac a
theorem N2.map{k:Nat}{t:TypeId}{α β:Type}{R:List Blk->LV->α->Prop}{z:List Blk->LV->β->Prop}(h:N2 P k t R)(f:α->β)
  (hf:∀S cs a,R S cs a->z S cs (f a)) (hm:∀S D cs a,Old S D->z S cs a->z D cs a):N2 P k t z:=
 ⟨hm,fun enc W u hk cs d ps ht hw φ S hW=>by
  obtain⟨φ',D,E,a,J,O,U,X,h5,h6⟩:=h.2 enc W u hk cs d ps ht hw φ S hW;exact⟨φ',D,E,f a,J,O,U,X,h5,hf _ _ _ h6⟩⟩
theorem wd{j:Nat}{t:TypeId}{k:IntKind}(J:P.underlying t=some (.int k)):N2 P j t (fun _ cs(n:Int)=>cs=[.int k n]/\(Lit.int k n).wf=true):=
 ⟨fun _ _ _ _ _ h=>h,fun enc W u _ cs d U h O φ S D=>by
  obtain⟨n,rfl,_,E⟩:=DataW.trod_int J h;exact⟨φ,S,[.int k n],n,Ext.refl φ,Old.refl S,D,.cons (.int k n) (.nil φ),fun x z=>by simp at z;subst z;rfl,rfl,E⟩⟩
theorem pj{j:Nat}{t:TypeId}(J:P.underlying t=some .string):N2 P j t (fun _ cs(s:ByteArray)=>cs=[.string s]/\s.size<=1048576):=
 ⟨fun _ _ _ _ _ h=>h,fun enc W z _ cs d U h D φ S E=>by
  obtain⟨s,rfl,u,O⟩:=DataW.trod_string J h;cases u;have:s.size<=1048576:=by simp only[Rows.uptoBulk,Array.length_toList]at D;exact Nat.le_of_succ_le D
  exact⟨φ,S,[.string s],s,Ext.refl φ,Old.refl S,E,.cons (.string s) (.nil φ),fun x u=>by simp at u;subst u;rfl,rfl,this⟩⟩
def iT(P:Program)(k:Nat)(fs:List Field)(off:Nat){α:Type}(R:List Blk->LV->α->Prop):Prop:=
 (∀S S' cs a,Old S S'->R S cs a->R S' cs a)/\
 ∀{H:Type}(enc:TypeId×Value->H)(W:World)(fuel:Nat),fuel<k->∀(cs:LV)(xs:List (DataW H×List MemPlace)),
  xs.length=fs.length->(∀(i:Nat) f,fs[i]?=some f->DataW.trod enc P W 0 (fun _=>true) true fuel f.type ((cs.drop f.offset).take (P.cellsOf f.type))=xs[i]?)->
  Rows.uptoBulkAll (xs.map (·.1))<=1048576->∀(φ:List Loc)(S:List Blk),WR (Bs.lt W.heap.size) W φ S W->
  ∃(tot:Nat)(φ':List Loc)(S':List Blk)(ac:LV)(a:α),(cs.length=off+ac.length->True)/\Ext φ φ'/\Old S S'/\WR (Bs.lt W.heap.size) W φ' S' W/\VRs φ' ac ((cs.drop off).take tot)/\
   (fs.foldl (fun n f=>n+P.cellsOf f.type) 0=tot)/\(∀x∈ac,x.oneCell'=true)/\R S' ac a
theorem bL{j:Nat}(u:Nat):iT P j [] u (fun _ cs(_:Unit)=>cs=[]):=
 ⟨fun _ _ _ _ _ h=>h,fun enc W z _ cs xs E h J φ S D=>⟨0,φ,S,[],(),fun _=>trivial,Ext.refl φ,Old.refl S,D,by simpa using VRs.nil φ,rfl,by simp,rfl⟩⟩
theorem fT(g:Field->Nat):∀(l:List Field)(k:Nat),l.foldl (fun n f=>n+g f) k=k+l.foldl (fun n f=>n+g f) 0
 |[],k=>by simp
 |f::l,k=>by simp only[List.foldl_cons];rw[fT g l (k+g f),fT g l (0+g f)];omega
theorem D0{j:Nat}{f:Field}{fs:List Field}{u k:Nat}{α β:Type}{R:List Blk->LV->α->Prop}{Q:List Blk->LV->β->Prop}(J:f.offset=u)(hk:P.cellsOf f.type=k)
  (h:N2 P j f.type R) (g:iT P j fs (u+k) Q):
  iT P j (f::fs) u (fun S cs(x:α×β)=>∃c1 c2,cs=c1++c2/\R S c1 x.1/\Q S c2 x.2):=
 ⟨fun S S' cs a J⟨c1,c2,e,h1,h2⟩=>⟨c1,c2,e,h.1 _ _ _ _ J h1,g.1 _ _ _ _ J h2⟩,fun enc W z hj cs xs hl ht hw φ S hW=>by
  cases xs with
  |nil=>simp at hl
  |cons x xs=>
   have h0:=ht 0 f (by simp);rw[List.getElem?_cons_zero,J,hk]at h0;simp only[List.map_cons,Rows.uptoBulkAll]at hw;obtain⟨φ1,S1,U,v1,e1,o1,w1,r1,n1,q1⟩:=h.2 enc W z hj _ x.1 x.2 h0 oM φ S hW;obtain⟨D,φ2,S2,X,v2,_,e2,o2,w2,r2,t2,n2,q2⟩:=g.2 enc W z hj cs xs (by simpa using hl) (fun i f' O=>by simpa using ht (i+1) f' (by simpa using O)) oM φ1 S1 w1;refine⟨k+D,φ2,S2,U++X,(v1,v2),fun _=>trivial,e1.trans e2,o1.trans o2,w2,?_,?_,?_,U,X,rfl,h.1 _ _ _ _ o2 q1,q2⟩
   .have hs:(cs.drop u).take (k+D)=(cs.drop u).take k++(cs.drop (u+k)).take D:=by
     rw[List.take_add,List.drop_drop]
    rw[hs];exact(r1.mono e2).append r2
   .simp only[List.foldl_cons];rw[fT (fun f=>P.cellsOf f.type),t2,hk];omega
   .intro y E;rcases List.mem_append.1 E with E|E
    .exact n1 y E
    .exact n2 y E⟩
theorem X1{j:Nat}{t:TypeId}{u:Array Field}{α:Type}{R:List Blk->LV->α->Prop}(ht:P.underlying t=some (.struct u))(hc:P.cellsOf t=u.toList.foldl (fun n f=>n+P.cellsOf f.type) 0)
  (h:iT P j u.toList 0 R):N2 P (j+1) t R:=
 ⟨h.1,fun enc W D hj cs d ps U hw φ S O=>by
  obtain⟨xs,n,a1,hx,hl,hn,X⟩:=DataW.trod_struct ht U;cases hx;obtain⟨a2,φ',E,J,a,_,e,o,w,r,tt,nn,q⟩:=h.2 enc W n oM cs xs (by simpa using hn) (fun i f z=>X i f (by simpa using z)) (by simp only[Rows.uptoBulk]at hw;omega) φ S O;refine⟨φ',E,J,a,e,o,w,?_,nn,q⟩;rw[List.drop_zero,List.take_of_length_le oM]at r;exact r⟩
theorem kC{j:Nat}{e:TypeId}{α:Type}{R:List Blk->LV->α->Prop}(h:N2 P j e R){H:Type}(enc:TypeId×Value->H)(W:World)(z:Nat)(hj:z<j):
  ∀(u:List (LV))(ds:List (DataW H×List MemPlace)),u.length=ds.length->(∀(i:Nat) cs x,u[i]?=some cs->ds[i]?=some x->DataW.trod enc P W 0 (fun _=>true) true z e cs=some x)->
   (∀x∈ds,Rows.uptoBulk x.1<=1048576)->∀(φ:List Loc)(S:List Blk),WR (Bs.lt W.heap.size) W φ S W->
   ∃(φ':List Loc)(X:List Blk)(E:List (LV))(l:List α),Ext φ φ'/\Old S X/\WR (Bs.lt W.heap.size) W φ' X W/\E.length=u.length/\l.length=u.length/\
    (∀(i:Nat) D cs,E[i]?=some D->u[i]?=some cs->VRs φ' D cs)/\(∀D∈E,∀x∈D,x.oneCell'=true)/\(∀(i:Nat) D a,E[i]?=some D->l[i]?=some a->R X D a)
 |[],[],_,_,_,φ,S,hW=>⟨φ,S,[],[],Ext.refl φ,Old.refl S,hW,rfl,rfl,by simp,by simp,by simp⟩
 |[],_::_,hl,_,_,_,_,_=>by simp at hl
 |_::_,[],hl,_,_,_,_,_=>by simp at hl
 |cs::u,x::ds,hl,ht,hw,φ,S,hW=>by
  obtain⟨φ1,S1,a1,v1,e1,o1,w1,r1,n1,q1⟩:=h.2 enc W z hj cs x.1 x.2 (ht 0 cs x (by simp) (by simp)) (hw x (by simp)) φ S hW;obtain⟨φ2,S2,E,l,e2,o2,w2,a2,a3,r2,n2,q2⟩:=kC h enc W z hj u ds (by simpa using hl) (fun i c y O U=>ht (i+1) c y (by simpa using O) (by simpa using U)) (fun y U=>hw y (by simp [U])) φ1 S1 w1;refine⟨φ2,S2,a1::E,v1::l,e1.trans e2,o1.trans o2,w2,by simp [a2],by simp [a3],?_,?_,?_⟩
  .intro i D c J O;cases i with
   |zero=>simp at J O;subst J O;exact r1.mono e2
   |succ i=>exact r2 i D c (by simpa using J) (by simpa using O)
  .intro D J y U;rcases List.mem_cons.1 J with rfl|J
   .exact n1 y U
   .exact n2 D J y U
  .intro i D a J O;cases i with
   |zero=>simp at J O;subst J O;exact h.1 _ _ _ _ o2 q1
   |succ i=>exact q2 i D a (by simpa using J) (by simpa using O)
theorem uv{α:Type}{sz:Nat}:∀(l:List (List α)),(∀x∈l,x.length=sz)->l.flatten.length=l.length*sz
 |[],_=>by simp
 |x::l,h=>by
  rw[List.flatten_cons,List.length_append,uv l (fun y u=>h y (by simp [u])),h x (by simp),List.length_cons,Nat.add_mul];omega
theorem mZ{α:Type}{sz:Nat}:∀(l:List (List α)),(∀x∈l,x.length=sz)->∀(i:Nat) x,l[i]?=some x->(l.flatten.drop (i*sz)).take sz=x
 |[],_,i,x,hx=>by simp at hx
 |y::l,h,0,x,hx=>by
  simp at hx;subst hx;have:=h y (by simp);simp only[Nat.zero_mul,List.drop_zero,List.flatten_cons];rw[<-this,List.take_append_of_le_length lR,List.take_length]
 |y::l,h,i+1,x,hx=>by
  have u:=h y (by simp);have e:(i+1)*sz=y.length+i*sz:=by rw[u,Nat.add_mul];omega
  rw[List.flatten_cons,e,<-List.drop_drop,List.drop_left];exact mZ l (fun z D=>h z (by simp [D])) i x (by simpa using hx)
theorem uT{α β:Type}{f:α->Option β}:∀{l:List α}{r:List β},l.mapM f=some r->r.length=l.length/\∀(i:Nat) x y,l[i]?=some x->r[i]?=some y->f x=some y
 |[],r,h=>by simp at h;subst h;simp
 |a::l,r,h=>by
  rw[List.mapM_cons]at h;cases u:f a with
  |none=>simp [u]at h
  |some b=>
   cases z:l.mapM f with
   |none=>simp [u,z]at h
   |some S=>
    simp [u,z]at h;subst h;obtain⟨J,O⟩:=uT z;refine⟨by simp [J],fun i x y D E=>?_⟩;cases i with
    |zero=>simp at D E;subst D;subst E;exact u
    |succ i=>exact O i x y (by simpa using D) (by simpa using E)
theorem fK{w:World}{a:Addr}{n:Nat}{cs:LV}(h:w.cells? 0 a n=some cs):cs.length=n/\∀(j:Nat) x,cs[j]?=some x->w.cell? (a.add j)=some x:=by
 unfold World.cells? at h;rw[if_pos (Nat.zero_le _)]at h;obtain⟨u,D⟩:=uT h;refine⟨by simpa using u,fun j x z=>?_⟩;have E:j<cs.length:=(List.getElem?_eq_some_iff.1 z).1;exact D j j x (List.getElem?_range (by simpa [u] using E)) z
theorem ww{w:World}{a:Addr}{x:Value}(h:w.cell? a=some x):a.spot=none/\a.block<w.heap.size:=by
 unfold World.cell? at h;split at h
 .rename_i c _ _ u;refine⟨?_,(Array.getElem?_eq_some_iff.1 u).1⟩;cases z:a.spot with
  |none=>rfl
  |some n=>simp [z]at h
 .cases h
theorem kF{w:World}{a:Addr}{n:Nat}{cs:LV}(D:0<n)(h:w.cells? 0 a n=some cs):a.spot=none/\a.block<w.heap.size:=by
 obtain⟨z,u⟩:=fK h;have:=u 0 (cs[0]'oM) (by first|(simp;done)|(simp;omega));exact ww (by simpa [Addr.add] using this)
theorem td{a:Addr}(h:a.spot=none)(n:Nat):a.add n=⟨a.block,a.off+n,none⟩:=by
 obtain⟨b,o,s⟩:=a;simp only at h;subst h;unfold Addr.add;split
 .rename_i u;subst u;rfl
 .rfl
theorem eD{j:Nat}{t e:TypeId}{sz:Nat}{α:Type}{R:List Blk->LV->α->Prop}(ht:P.underlying t=some (.slice e))(hs:P.cellsOf e=sz)(hp:0<sz)(h:N2 P j e R):
  N2 P (j+1) t (fun S cs(l:List α)=>∃v,cs=[v]/\Sl S sz (R S) v l/\l.length<=1048576):=
 ⟨fun S S' cs l ho⟨v,e1,e2,e3⟩=>⟨v,e1,e2.mono ho (fun cs a=>h.1 _ _ _ _ ho),e3⟩,fun{H} enc W fuel hj cs d ps hd hw φ S hW=>by
  rcases DataW.trod_slice ht hd with⟨rfl,u⟩|⟨a,E,z,D,rest,n,d0,rfl,u,_,c5,_,c0,a7,b6,_⟩
  .exact⟨φ,S,[.slice none 0 0],[],Ext.refl φ,Old.refl S,hW,.cons .nilslice (.nil φ),fun x u=>by simp at u;subst u;rfl,_,rfl,.inl ⟨rfl,rfl⟩,by simp⟩
  .cases u;rw[hs]at a7 b6;simp only[Rows.uptoBulk]at hw;have a8:E<=1048576:=by
    have:=Dr (D.map (·.1));rw[List.length_map]at this;omega
   by_cases h0:E=0
   ·
    subst h0;refine⟨φ++[⟨a.block,a.off,z*sz,sz⟩],S++[.dead],[.slice (some ⟨S.length,0,none⟩) 0 1],[],Ext.snoc _ _,Old.snoc _ _,?_,?_,fun x u=>by simp at u;subst u;rfl,_,rfl,.inr ⟨_,_,rfl,.inl rfl⟩,by simp⟩
    .exact hW.push ⟨lR,fun _ _ _=>rfl⟩ hW.below (fun hm=>by cases hm) trivial
    .refine .cons ?_ (.nil _);by_cases b9:z=0
     .subst b9;exact .slice0
     .obtain⟨d1,c7⟩:=b6 rfl;have h1:=c7 0 oM;have c6:rest[0]?=some (rest[0]'oM):=by first|(simp;done)|(simp;omega)
      rw[c6]at h1;obtain⟨a3,U,b4⟩:=Option.bind_eq_some_iff.1 h1;have a9:=(kF hp U).1;simp only[Nat.zero_add,Nat.zero_mul]at a9;have b0:a.spot=none:=by simpa [Addr.add] using a9
      have hl:(φ++[(⟨a.block,a.off,z*sz,sz⟩:Loc)])[S.length]?=some ⟨a.block,a.off,z*sz,sz⟩:=by rw[<-hW.len];simp
      have:=VR.slice (φ:=φ++[⟨a.block,a.off,z*sz,sz⟩]) (b:=S.length) (o:=0) (n:=0) (c:=z) hl (Nat.zero_le _) (by simp);obtain⟨ab,ao,b8⟩:=a;simp only at b0;subst b0
      simpa using this
   .have O:∀i,i<E->∃cs x,W.cells? 0 (a.add (i*sz)) sz=some cs/\D[i]?=some x/\DataW.trod enc P W 0 (fun _=>true) true n e cs=some x:=by
     intro i X;have h1:=a7 i X;have h2:D[i]?=some (D[i]'oM):=by first|(simp;done)|(simp;omega)
     rw[h2]at h1;obtain⟨a3,U,b4⟩:=Option.bind_eq_some_iff.1 h1;exact⟨a3,_,U,h2,b4⟩
    have a1:a.spot=none/\a.block<W.heap.size:=by
     obtain⟨a3,x0,U,_⟩:=O 0 oM;have:=kF hp U
     simpa [Addr.add] using this
    let css:List (LV):=(List.range E).map fun i=>(W.cells? 0 (a.add (i*sz)) sz).getD []
    have a2:css.length=E:=by simp [css]
    have a4:∀(i:Nat) c,css[i]?=some c->i<E/\W.cells? 0 (a.add (i*sz)) sz=some c:=by
     intro i c hc;have X:i<E:=by rw[<-a2];exact(List.getElem?_eq_some_iff.1 hc).1
     obtain⟨a3,x0,U,_⟩:=O i X;refine⟨X,?_⟩;simp only[css,List.getElem?_map,List.getElem?_range X,Option.map_some,U,Option.getD_some,Option.some.injEq]at hc;rw[U,hc]
    obtain⟨φ1,S1,J,l,e1,o1,w1,c4,b3,b7,b5,hR⟩:=kC h enc W n oM css D (by rw[a2,c0])
     (fun i c x hc u=>by
      obtain⟨X,h1⟩:=a4 i c hc;obtain⟨a3,x0,k1,k2,k3⟩:=O i X;rw[h1]at k1;cases k1;rw[u]at k2;cases k2;exact k3)
     (fun x u=>by have:=Az (List.mem_map_of_mem (f:=(·.1)) u);omega) φ S hW
    have b2:∀x∈J,x.length=sz:=by
     intro x u;obtain⟨i,X,rfl⟩:=List.mem_iff_getElem.1 u;have a6:i<css.length:=oM;have:=(b7 i _ _ (List.getElem?_eq_getElem X) (List.getElem?_eq_getElem a6)).1;rw[this];exact(fK (a4 i _ (List.getElem?_eq_getElem a6)).2).1
    have a5:J.flatten.length=E*sz:=by rw[uv J b2,c4,a2]
    have hl:(φ1++[(⟨a.block,a.off,z*sz,sz⟩:Loc)])[S1.length]?=some ⟨a.block,a.off,z*sz,sz⟩:=by rw[<-w1.len];simp
    refine⟨φ1++[⟨a.block,a.off,z*sz,sz⟩],S1++[.cells J.flatten false sz],[.slice (some ⟨S1.length,0,none⟩) l.length (l.length+1)],l,e1.trans (Ext.snoc _ _),o1.trans (Old.snoc _ _),?_,?_,
     fun x u=>by simp at u;subst u;rfl,_,rfl,.inr ⟨_,_,rfl,.inr ⟨J.flatten,by simp,?_,?_⟩⟩,?_⟩
    .refine w1.push ⟨lR,fun _ _ _=>rfl⟩ w1.below (fun hm=>by cases hm) ⟨rfl,?_,?_,fun _=>a1.2,fun hh=>by cases hh⟩
     .intro x u;obtain⟨ac,h1,h2⟩:=List.mem_flatten.1 u;exact b5 ac h1 x h2
     .intro j x u;have hj:j<E*sz:=by rw[<-a5];exact(List.getElem?_eq_some_iff.1 u).1
      have hq:j / sz<E:=Nat.div_lt_of_lt_mul (by rw[Nat.mul_comm];exact hj);have hm:j % sz<sz:=Nat.mod_lt _ hp;have X:j / sz<J.length:=oM;have a6:j / sz<css.length:=oM;have c3:=mZ J b2 (j / sz) _ (List.getElem?_eq_getElem X);have c8:(J[j / sz])[j % sz]?=some x:=by
       rw[<-c3,List.getElem?_take,if_pos hm,List.getElem?_drop,Nat.mul_comm,Nat.div_add_mod];exact u
      obtain⟨y,hy,c9⟩:=(b7 _ _ _ (List.getElem?_eq_getElem X) (List.getElem?_eq_getElem a6)).get c8;have:=(fK (a4 _ _ (List.getElem?_eq_getElem a6)).2).2 _ y hy;rw[td a1.1,td rfl]at this;refine⟨y,?_,c9.mono (Ext.snoc _ _)⟩;have e2:a.off+j / sz*sz+j % sz=a.off+j:=by rw[Nat.add_assoc,Nat.mul_comm,Nat.div_add_mod]
      simpa [e2] using this
    .refine .cons ?_ (.nil _);have:=VR.slice (φ:=φ1++[⟨a.block,a.off,z*sz,sz⟩]) (b:=S1.length) (o:=0) (n:=E) (c:=z) hl c5 (by simp);obtain⟨ab,ao,b8⟩:=a;have b1:=a1.1;simp only at b1;subst b1;rw[b3,a2]
     simpa using this
    .rw[b3,a2,a5];omega
    .intro i x u;have X:i<J.length:=by have:=(List.getElem?_eq_some_iff.1 u).1;omega
     rw[Nat.zero_add,mZ J b2 i _ (List.getElem?_eq_getElem X)];exact h.1 _ _ _ _ (Old.snoc _ _) (hR i _ x (List.getElem?_eq_getElem X) u)
    .rw[b3,a2];exact a8⟩
theorem Bz(hm:P.follows .mixedOrders=true){X:Lib}{W:World}(O:pP P X){f:FuncId}{args u:LV}{φ:List Loc}{S:List Blk}(J:WR (Bs.lt W.heap.size) W φ S W)(U:VRs φ args u)
  (h:CL P X f args ⟨S,S.length⟩=some (.bool true,none)):Calls P f u.toArray W fun e z=>e= .returned (.bool true)/\Below W.heap.size W z:=by
 obtain⟨_,_,_,hc⟩:=vS hm O (Bs.lt W.heap.size) W f args ⟨S,S.length⟩ (.bool true) none h;exact(hc φ W u U J).mono fun e z⟨D,E⟩=>⟨D,E.1.below.below⟩
theorem FQ(W:World):WR (Bs.lt W.heap.size) W [] [] W:=⟨rfl,Bel.refl _ _,fun _ h=>h,by simp,by simp⟩
end
end Go.Proofs.YtofbhlhamfkljaaGreatDoor.Ve
namespace Go.Proofs.YtofbhlhamfkljaaGreatDoor.Ve.Ab
open Go Go.RowKit
abbrev T(n:Nat):Operand:= .tmp n
abbrev K(n:Int):Operand:= .const (.int .i64 n)
abbrev B0:Operand:= .const (.bool false)
abbrev B1:Operand:= .const (.bool true)
abbrev c1(f a t:Nat):Op:= .call ⟨.value (.func f),#[T a],#[t]⟩
abbrev c2(f a b t u:Nat):Op:= .call ⟨.value (.func f),#[T a,T b],#[t,u]⟩
abbrev cf(f:Nat)(a:Array Operand)(t:Array TypeId):Op:= .call ⟨.value (.func f),a,t⟩
abbrev cv(f:Operand)(a:Array Operand)(t:Array TypeId):Op:= .call ⟨.value f,a,t⟩
abbrev bi(f:Builtin)(a:Array Operand)(t:Array TypeId):Op:= .call ⟨.builtin f,a,t⟩
abbrev ln(a t:Nat):Op:= .call ⟨.builtin .len,#[T a],#[t]⟩
abbrev ap(a b t u:Nat):Op:= .call ⟨.builtin .append,#[T a,T b],#[t,u]⟩
abbrev mv(n:Nat):Op:= .move (T n)
abbrev ia(t a i:Nat):Op:= .indexAddr t (T a) (T i)
abbrev st'(t a x:Nat):Op:= .store t (T a) (T x)
abbrev bx(t a:Nat):Op:= .box t (T a)
abbrev ex(a i:Nat):Op:= .extract (T a) i
abbrev nc(a:Nat):Op:= .nilCheck (T a)
abbrev bo(o:BinOp)(t a b u:Nat):Op:= .binOp o t (T a) (T b) u
abbrev bk(o:BinOp)(t a:Nat)(n:Int)(u:Nat):Op:= .binOp o t (T a) (K n) u
abbrev pa(a b:Nat):Op:= .pick (T a) (T b) B0
abbrev po(a b:Nat):Op:= .pick (T a) B1 (T b)
abbrev nt'(t a:Nat):Op:= .unOp .not t (T a)
abbrev N(d:Nat)(o:Op):LOp:=⟨some d,o,none⟩
abbrev V(o:Op):LOp:=⟨none,o,none⟩
abbrev Y(g d:Nat)(o:Op):LOp:=⟨some d,o,some (g,true)⟩
abbrev Z(g d:Nat)(o:Op):LOp:=⟨some d,o,some (g,false)⟩
abbrev M(d a:Nat):LOp:=⟨some d,.move (T a),none⟩
abbrev L(d t a:Nat):LOp:=⟨some d,.load t (T a),none⟩
abbrev A(d a:Nat):LOp:=⟨some d,.assign (T a),none⟩
abbrev F(d t a i:Nat):LOp:=⟨some d,.fieldAddr t (T a) i,none⟩
abbrev cO:=t7.ops
abbrev cS:=t7.seq
abbrev cB:=t7.block
abbrev cC:=t7.cond
abbrev cW(n:Nat)(b:t7):t7:= .block n (.loop b)
abbrev m0(o:LOp):ML:=⟨o,false,false,0,0⟩
abbrev m1(o:LOp):ML:=⟨o,false,true,0,0⟩
abbrev m2(o:LOp)(l h:Nat):ML:=⟨o,false,false,l,h⟩
abbrev m3(o:LOp)(l h:Nat):ML:=⟨o,true,true,l,h⟩
abbrev m4(o:LOp)(l h:Nat):ML:=⟨o,true,false,l,h⟩
abbrev cX(o:List LOp)(c:t7):=t7.seq (.ops o) c
abbrev cR(o:List LOp):=t7.seq (.ops o) .ret
abbrev cG(t n:Nat)(c:t7):=t7.seq (.cond (T t) .skip (.exit n)) c
abbrev cH(t a b:Nat)(c:t7):=t7.seq (.ops [N t (bo .lss 3 a b 3)]) (.seq (.cond (T t) .skip (.exit 0)) c)
abbrev iN(a:Nat):Op:=bk .add 3 a 1 3
abbrev yF(o:LOp):LOp×Bool:=(o,false)
abbrev yT(o:LOp):LOp×Bool:=(o,true)
end Go.Proofs.YtofbhlhamfkljaaGreatDoor.Ve.Ab
namespace Go.Proofs.YtofbhlhamfkljaaGreatDoor.Ve
open Go Go.RowKit
def BE(ops:List Oper)(o:Oper):LOp:=
 match o.guard with
 |none=>⟨o.dst,o.op,none⟩
 |some (j,b)=>match ops[j]? with
  |some x=>match x.dst with
   |some d=>⟨o.dst,o.op,some (d,b)⟩
   |none=>⟨o.dst,o.op,none⟩
  |none=>⟨o.dst,o.op,none⟩
def DN(ops:List Oper):Nat->List Oper->List (LOp×Bool)
 |_,[]=>[]
 |0,o::r=>(BE ops o,true)::DN ops 0 r
 |t+1,o::r=>(BE ops o,false)::DN ops t r
def Qa(ops:List Oper)(A tl:List Nat):Nat->List Oper->List ML
 |_,[]=>[]
 |i,o::r=>⟨BE ops o,A9 o.op,rdK o.op,(sv A tl i).1,(sv A tl i).2⟩::Qa ops A tl (i+1) r
def yP:Nat->List Oper->List Nat
 |_,[]=>[]
 |i,o::r=>if A9 o.op then i::yP (i+1) r else yP (i+1) r
def eZ:Code->List Nat->t7×List Nat
 | .skip,d=>(.skip,d)
 | .ret,d=>(.ret,d)
 | .exit id,d=>(.exit id,d)
 | .region _ ops draw,d=>
  if draw then match d with
   |0::d=>(.mix (Qa ops.toList (E4 ops.toList []) (yP 0 ops.toList) 0 ops.toList),d)
   |(t+1)::d=>(.draw (DN ops.toList t ops.toList),d)
   |[]=>(.skip,[])
  else(.ops (ops.toList.map (BE ops.toList)),d)
 | .seq a b,d=>match eM a b with
  |some z=>match eZ b d with
   |(b,d)=>(.coin (z.l1.map (BE z.ops.toList)) (z.l2.map (BE z.ops.toList)) z.ds b,d)
  |none=>match eZ a d with
   |(a,d)=>match eZ b d with
    |(b,d)=>(.seq a b,d)
 | .cond c a b,d=>match eZ a d with
  |(a,d)=>match eZ b d with
   |(b,d)=>(.cond c a b,d)
 | .block id a,d=>match eZ a d with
  |(a,d)=>(.block id a,d)
 | .loop a,d=>match eZ a d with
  |(a,d)=>(.loop a,d)
 | .scope a,d=>match eZ a d with
  |(a,d)=>(.scope a,d)
 |_,d=>(.skip,d)
def fnV(fn:Func)(d:List Nat):t7×Nat×List ResultVar:=
 match fn.body with
 |some c=>((eZ c d).1,fn.ntmps,fn.results.toList)
 |none=>(.skip,0,[])
def ptL:List Nat->t7->t7
 |0::p,.seq a _=>ptL p a
 |1::p,.seq _ b=>ptL p b
 |0::p,.cond _ a _=>ptL p a
 |1::p,.cond _ _ b=>ptL p b
 |_::p,.block _ a=>ptL p a
 |_::p,.loop a=>ptL p a
 |_::p,.scope a=>ptL p a
 |_::p,.coin _ _ _ b=>ptL p b
 |_,c=>c
abbrev ptA{P:Program}{f:FuncId}{l:t7}{nt:Nat}{rs:List ResultVar}(_:fnL P f=some (l,nt,rs))(p:List Nat){x:t7}(_:ptL p l=x:=by conv=>{lhs;whnf}):t7:=x
def rpL(c:t7):List Nat->t7->t7
 |[],_=>c
 |0::p,.seq a b=> .seq (rpL c p a) b
 |_::p,.seq a b=> .seq a (rpL c p b)
 |0::p,.cond x a b=> .cond x (rpL c p a) b
 |_::p,.cond x a b=> .cond x a (rpL c p b)
 |_::p,.block i a=> .block i (rpL c p a)
 |_::p,.loop a=> .loop (rpL c p a)
 |_::p,.scope a=> .scope (rpL c p a)
 |_::p,.coin x y z b=> .coin x y z (rpL c p b)
 |_::_,a=>a
theorem bE:ByteArray.mk (List.toArray [])=ByteArray.empty:=rfl
theorem aM{A:Type}(l:List A):Array.mk l=List.toArray l:=rfl
theorem hdF{P:Program}{f:FuncId}{l:t7}{nt:Nat}{rs:List ResultVar}(h:fnL P f=some (l,nt,rs))(p:List Nat)(c:t7){x:t7->t7}(hx:∀k,rpL k p l=x k:=by intro k;conv=>{lhs;cbv;try simp only[aM,bE]}) (hc:rpL c p l=l:=by kernel_rfl):fnL P f=some (x c,nt,rs):=by
 rw[<-hx,hc];exact h
end Go.Proofs.YtofbhlhamfkljaaGreatDoor.Ve
namespace Go.Proofs.YtofbhlhamfkljaaGreatDoor.Ve
open Go Go.RowKit
open Go.Proofs.Tryz (prog)
theorem nfF(f:FuncId)(fn:Func)(d:List Nat){l:t7}{nt:Nat}{rs:List ResultVar}(h:fnV fn d=(l,nt,rs):=by conv=>{lhs;cbv;try simp only[aM,bE]})(k:fnL Tryz.prog f=some (l,nt,rs):=by kernel_rfl):fnL Tryz.prog f=some (l,nt,rs):=k
abbrev fE(n:Nat)(c:t7)(k:Nat)(r:List ResultVar):Prop:=fnL prog n=some (c,k,r)
theorem fR{n:Nat}{c:t7}{k:Nat}{r:List ResultVar}(h:fnL prog n=some (c,k,r):=by kernel_rfl):fE n c k r:=h
def fn9:=nfF 9 Tryz.f9 []
def Qz:=nfF 10 Tryz.f10 []
def OJ:=nfF 11 Tryz.f11 []
abbrev MX:t7:=ptA OJ [1,1,1,1,0,1,0,0]
def QA:=nfF 14 Tryz.f14 []
def QC:=nfF 17 Tryz.f17 []
def QD:=nfF 18 Tryz.f18 [0]
def Ue:=nfF 23 Tryz.f23 []
def SY:=nfF 24 Tryz.f24 [0]
def KP:=nfF 25 Tryz.f25 []
abbrev Ng:t7:=ptA KP [1,1,0,1,0,0]
abbrev Nf:t7:=ptA KP [1,1,0,1,0,0,1,0,0,1,1,1,0,0]
def Tj:=nfF 26 Tryz.f26 []
def SZ:=nfF 27 Tryz.f27 []
def Ta:=nfF 28 Tryz.f28 []
def QH:=nfF 29 Tryz.f29 []
def QI:=nfF 30 Tryz.f30 []
def KQ:=nfF 31 Tryz.f31 [0,0]
abbrev Nh:t7:=ptA KQ [1,1,1,1,1,1,0,1,0,0]
abbrev Ni:t7:=ptA KQ [1,1,1,1,1,1,1,0,1,0,0]
def Pk:=nfF 32 Tryz.f32 [0,0]
abbrev Nj:t7:=ptA Pk [1,1,1,1,1,0,1,0,0]
def QJ:=nfF 33 Tryz.f33 []
def Bk:=nfF 35 Tryz.f35 [0,0,0]
abbrev Nq:t7:=ptA Bk [1,1,1,1,0,1,0,0]
abbrev Np:t7:=ptA Bk [1,1,1,1,0,1,0,0,1,0,0,1,0,1,0,0]
abbrev No:t7:=ptA Bk [1,1,1,1,0,1,0,0,1,0,0,1,0,1,0,0,1,0,0,1,1,1,0,1,0,0]
abbrev Nn:t7:=ptA Bk [1,1,1,1,0,1,0,0,1,0,0,1,0,1,0,0,1,0,0,1,1,1,0,1,0,0,1,0,0,1,1,0,0]
abbrev Nr:t7:=ptA Bk [1,1,1,1,1,1,0,1,0,0]
def Pl:=nfF 36 Tryz.f36 [6,0]
abbrev Ns:t7:=ptA Pl [1,1,1,1,0,1,0,0]
def QK:=nfF 37 Tryz.f37 []
def Pn:=nfF 39 Tryz.f39 [6]
abbrev Nu:t7:=ptA Pn [1,0,1,0,0]
def QL:=nfF 40 Tryz.f40 []
def Po:=nfF 41 Tryz.f41 [0,9]
abbrev Nv:t7:=ptA Po [1,1,0,1,0,0]
def KR:=nfF 42 Tryz.f42 [13]
abbrev Jg:t7:=ptA KR [1,1,1,1,1,0,1,0,0]
abbrev Nw:t7:=ptA KR [1,1,1,1,1,0,1,0,0,1,0,0,1,1,0,0]
def Pp:=nfF 43 Tryz.f43 []
abbrev Nx:t7:=ptA Pp [1,1,0,1,0,0]
def Tk:=nfF 47 Tryz.f47 []
def Tb:=nfF 48 Tryz.f48 []
abbrev SK:t7:=ptA Tb [1,1,1,0,1,0,0]
def RQ:=nfF 49 Tryz.f49 []
def SD:t7:=ptA RQ [1,1,0,1,0,0,1,0,0,1,1]
def SE:=hdF RQ [1,1,0,1,0,0,1,0,0,1,1] SD
abbrev SM:t7:=ptA SE [1,1,0,1,0,0,1,1]
abbrev SL:t7:=ptA SE [1,1,0,1,0,0]
def QN:=nfF 50 Tryz.f50 []
def xi:=nfF 51 Tryz.f51 []
abbrev ND:t7:=ptA xi [1,1,1,1,1,1,1,0,1,0,0]
def GZ:t7:=ptA xi [1,1,1,1,1,1]
def Pq:=hdF xi [1,1,1,1,1,1] GZ
def Pr:=nfF 52 Tryz.f52 []
abbrev NF:t7:=ptA Pr [1,1,0,1,0,0]
def Ps:=nfF 53 Tryz.f53 []
abbrev NG:t7:=ptA Ps [1,1,0,1,0,0]
def KT:=nfF 54 Tryz.f54 [0,0]
abbrev NH:t7:=ptA KT [1,1,1,1,1,0,0]
def QO:=nfF 55 Tryz.f55 []
def KU:=nfF 56 Tryz.f56 []
abbrev NI:t7:=ptA KU [1,0,1,0,0]
abbrev NJ:t7:=ptA KU [1,1,1,0,0]
def Pt:=nfF 57 Tryz.f57 []
abbrev NK:t7:=ptA Pt [1,1,0,1,0,0]
def KV:=nfF 58 Tryz.f58 []
abbrev NL:t7:=ptA KV [1,0,1,0,0]
abbrev NM:t7:=ptA KV [1,1,1,0,0]
def QP:=nfF 59 Tryz.f59 []
def QQ:=nfF 61 Tryz.f61 []
def QS:=nfF 62 Tryz.f62 [6,0]
def Pv:=nfF 63 Tryz.f63 [0]
abbrev NO:t7:=ptA Pv [1,1,1,0,1,0,0]
def Eh:=nfF 64 Tryz.f64 [8]
abbrev NP:t7:=ptA Eh [1,1,0,0]
abbrev Jh:t7:=ptA Eh [1,1,0,0,0,1,1,1,0,1,0,0]
abbrev NQ:t7:=ptA Eh [1,1,0,0,0,1,1,1,1,0,1]
abbrev NR:t7:=ptA Eh [1,1,0,0,0,1,1,1,1,1]
def Pw:=nfF 65 Tryz.f65 []
abbrev NS:t7:=ptA Pw [1,0,1,0,0]
def Px:=nfF 66 Tryz.f66 []
abbrev NT:t7:=ptA Px [1,1,0,0,0]
def QT:=nfF 67 Tryz.f67 []
def KW:=nfF 68 Tryz.f68 []
abbrev NU:t7:=ptA KW [1,1,0,1,0,0]
abbrev NV:t7:=ptA KW [1,1,1,0,1,0,0]
def Py:=nfF 69 Tryz.f69 [7]
abbrev NW:t7:=ptA Py [1,0,1,0,0]
def QU:=nfF 70 Tryz.f70 []
def Pz:=nfF 71 Tryz.f71 []
abbrev NX:t7:=ptA Pz [1,1,0,1,0,0]
def KX:=nfF 72 Tryz.f72 [0,14,9,17,9]
abbrev Ji:t7:=ptA KX [1,1,1,1,0,0]
abbrev NY:t7:=ptA KX [1,1,1,1,0,0,1,0,1,1,0,0]
def PA:=nfF 73 Tryz.f73 []
abbrev NZ:t7:=ptA PA [1,1,0,1,0,0]
def QV:=nfF 74 Tryz.f74 []
def RR:=nfF 75 Tryz.f75 []
def Sd:t7:=ptA RR [1,1,0,1,0,0,1,1,0,0,1,1]
def Tc:=hdF RR [1,1,0,1,0,0,1,1,0,0,1,1] Sd
abbrev SN:t7:=ptA Tc [1,1,0,1,0,0]
def Td:=nfF 76 Tryz.f76 []
abbrev SO:t7:=ptA Td [1,1,1,0,1,0,0]
def KY:=nfF 77 Tryz.f77 []
abbrev Oa:t7:=ptA KY [1,1,0,1,0,0]
abbrev Ob:t7:=ptA KY [1,1,1,0,1,0,0]
def xj:=nfF 78 Tryz.f78 []
abbrev Oc:t7:=ptA xj [1,1,1,1,1,1,1,1,1,1,1,0,1,0,0]
def Hg:t7:=ptA xj [1,1,1,1,1,1,1,1,1,1]
def Ej:=hdF xj [1,1,1,1,1,1,1,1,1,1] Hg
def DX:t7:=ptA Ej [1,1,1,1,1,1]
def Ek:=hdF Ej [1,1,1,1,1,1] DX
def uk:t7:=ptA Ek [1,1,1,1,1]
def El:=hdF Ek [1,1,1,1,1] uk
def DW:t7:=ptA El [1,1,1,1]
def PB:=hdF El [1,1,1,1] DW
def KZ:=nfF 79 Tryz.f79 []
abbrev Od:t7:=ptA KZ [1,0,1,0,0]
abbrev Oe:t7:=ptA KZ [1,1,1,0,0]
def QW:=nfF 80 Tryz.f80 []
def QX:=nfF 81 Tryz.f81 []
def QY:=nfF 83 Tryz.f83 [0]
def QZ:=nfF 85 Tryz.f85 []
def Lb:=nfF 86 Tryz.f86 []
abbrev Oi:t7:=ptA Lb [1,1,0,1,0,0]
abbrev Oj:t7:=ptA Lb [1,1,1,0,1,0,0]
def PC:=nfF 87 Tryz.f87 []
abbrev Ol:t7:=ptA PC [1,1,0,1,0,0]
def PD:=nfF 88 Tryz.f88 [24]
abbrev Om:t7:=ptA PD [1,1,0,1,0,0]
def Ra:=nfF 89 Tryz.f89 []
def pz:=nfF 90 Tryz.f90 [0,0,0,0,0,0,0,0]
abbrev On:t7:=ptA pz [1,1,0,1,0,1,1,0,1,0,0]
abbrev Oo:t7:=ptA pz [1,1,1,0,1,0,1,1,0,1,0,0]
abbrev Oq:t7:=ptA pz [1,1,1,0,1,0,1,1,1,1,1,0,1,0,0]
def PF:=nfF 91 Tryz.f91 []
abbrev Ot:t7:=ptA PF [1,1,0,1,0,0]
def Lc:=nfF 92 Tryz.f92 [11,11]
abbrev Ou:t7:=ptA Lc [1,1,0,1,0,0]
abbrev Ov:t7:=ptA Lc [1,1,1,0,1,0,0]
def Ld:=nfF 93 Tryz.f93 []
abbrev Ow:t7:=ptA Ld [1,1,1,0,1,0,0]
def Rb:=nfF 94 Tryz.f94 []
def PG:=nfF 95 Tryz.f95 []
abbrev Ox:t7:=ptA PG [1,1,1,0,0,0]
def Rc:=nfF 96 Tryz.f96 []
def PH:=nfF 97 Tryz.f97 []
abbrev Oy:t7:=ptA PH [1,1,1,0,1,0,0]
def Tl:=nfF 98 Tryz.f98 []
def Lf:=nfF 99 Tryz.f99 []
abbrev Oz:t7:=ptA Lf [1,1,0,1,0,0]
abbrev OA:t7:=ptA Lf [1,1,1,0,1,0,0]
def OC:=nfF 100 Tryz.f100 []
def lX:=nfF 101 Tryz.f101 [0,0,0]
abbrev Kn:t7:=ptA lX [1,1,0,1,0,0]
abbrev Ko:t7:=ptA lX [1,1,1,1,0,0]
def wU:t7:=ptA lX [1,0,1]
def OD:=hdF lX [1,0,1] wU
def Jj:=nfF 102 Tryz.f102 []
abbrev Kp:t7:=ptA Jj [1,0,1,0,0]
def OE:=nfF 103 Tryz.f103 []
def OF:=nfF 104 Tryz.f104 []
def OG:=nfF 105 Tryz.f105 []
def OH:=nfF 106 Tryz.f106 []
def OI:=nfF 107 Tryz.f107 []
def Jk:=nfF 108 Tryz.f108 []
abbrev Kq:t7:=ptA Jk [1,1,0,1,0,0]
def Ec:=nfF 109 Tryz.f109 []
abbrev Kr:t7:=ptA Ec [1,1,1,0,1,0,0]
abbrev Kt:t7:=ptA Ec [1,1,1,1,1,0,1,0,0]
def OK:=nfF 110 Tryz.f110 []
def OL:=nfF 111 Tryz.f111 []
def Ed:=nfF 112 Tryz.f112 []
abbrev Ku:t7:=ptA Ed [1,1,0,1,0,0]
abbrev Kv:t7:=ptA Ed [1,1,1,0,1,0,0]
def Jl:=nfF 113 Tryz.f113 [6]
abbrev Kw:t7:=ptA Jl [1,0,1,0,0]
def OM:=nfF 114 Tryz.f114 []
def Ee:=nfF 115 Tryz.f115 [11,11]
abbrev Kx:t7:=ptA Ee [1,1,0,1,0,0]
abbrev Ky:t7:=ptA Ee [1,1,1,0,1,0,0]
def ON:=nfF 116 Tryz.f116 [10,11,9]
def OO:=nfF 117 Tryz.f117 []
def zt:=nfF 118 Tryz.f118 []
def DU:t7:=ptA zt [1,1,0,1,0,0,1,0,0,1,1]
def Ef:=hdF zt [1,1,0,1,0,0,1,0,0,1,1] DU
abbrev KA:t7:=ptA Ef [1,1,0,1,0,0,1,1]
abbrev Kz:t7:=ptA Ef [1,1,0,1,0,0]
def OP:=nfF 119 Tryz.f119 []
def OQ:=nfF 120 Tryz.f120 []
def OS:=nfF 121 Tryz.f121 []
def SP:=nfF 122 Tryz.f122 []
def Sp:=nfF 123 Tryz.f123 []
abbrev Sw:t7:=ptA Sp [1,1,0,1,0,0]
def SQ:=nfF 124 Tryz.f124 []
def Jm:=nfF 125 Tryz.f125 []
abbrev KB:t7:=ptA Jm [1,0,1,0,0]
def OT:=nfF 126 Tryz.f126 []
def OU:=nfF 127 Tryz.f127 [7,0]
def OV:=nfF 128 Tryz.f128 []
def OW:=nfF 129 Tryz.f129 []
def Jn:=nfF 130 Tryz.f130 []
abbrev KC:t7:=ptA Jn [1,0,1,0,0]
def Jo:=nfF 131 Tryz.f131 []
abbrev KD:t7:=ptA Jo [1,1,0,1,0,0]
def Jp:=nfF 132 Tryz.f132 []
abbrev KE:t7:=ptA Jp [1,1,0,1,0,0]
def OX:=nfF 133 Tryz.f133 []
def OY:=nfF 134 Tryz.f134 []
def Jq:=nfF 135 Tryz.f135 [10]
abbrev KF:t7:=ptA Jq [1,0,1,0,0]
def OZ:=nfF 136 Tryz.f136 []
def Pa:=nfF 137 Tryz.f137 []
def Pb:=nfF 138 Tryz.f138 [6,26]
def Pc:=nfF 139 Tryz.f139 []
def Pd:=nfF 140 Tryz.f140 []
def Jr:=nfF 141 Tryz.f141 [10]
abbrev KH:t7:=ptA Jr [1,1,0,1,0,0]
def zu:=nfF 142 Tryz.f142 []
def TR:t7:=ptA zu [1,1,1,0,1,0,0,1,0,0,1,1,1,1,1,1,1,1,1,1,1,0,0,1,0,0,1,1]
def kN:=hdF zu [1,1,1,0,1,0,0,1,0,0,1,1,1,1,1,1,1,1,1,1,1,0,0,1,0,0,1,1] TR
abbrev KL:t7:=ptA kN [1,1,1,0,1,0,0,1,0,0,1,1,1,1,1,1,1,1,1,1,1,0,0,1,1]
abbrev DV:t7:=ptA kN [1,1,1,0,1,0,0,1,0,0,1,1,1,1,1,1,1,1,1,1,1,0,0]
abbrev KJ:t7:=ptA kN [1,1,1,0,1,0,0,1,0,0,1,1,1,1,1,1,1,0,1,0,0]
abbrev GY:t7:=ptA kN [1,1,1,0,1,0,0,1,0,0,1,1,1,1,1,1,1,1]
abbrev KI:t7:=ptA kN [1,1,1,0,1,0,0,1,0,0,1,1,1,0,0,0]
abbrev lW:t7:=ptA kN [1,1,1,0,1,0,0,1,1]
abbrev KK:t7:=ptA kN [1,1,1,0,1,0,0]
def Sq:=nfF 143 Tryz.f143 []
abbrev Sx:t7:=ptA Sq [1,0,1,0,0]
def Sr:=nfF 144 Tryz.f144 []
abbrev Sy:t7:=ptA Sr [1,1,1,0,0,0]
def RP:=nfF 145 Tryz.f145 []
abbrev SA:t7:=ptA RP [1,0,1,0,0]
abbrev Sz:t7:=ptA RP [1,0,1,0,0,1,1,0,1,1,0,1,0,0]
def SR:=nfF 146 Tryz.f146 []
def Pe:=nfF 147 Tryz.f147 []
def Js:=nfF 148 Tryz.f148 [6]
abbrev KM:t7:=ptA Js [1,0,1,0,0]
def Jt:=nfF 153 Tryz.f153 []
abbrev KN:t7:=ptA Jt [1,0,1,0,0]
def Ph:=nfF 154 Tryz.f154 []
def SS:=nfF 155 Tryz.f155 []
def ST:=nfF 156 Tryz.f156 []
def NA:=nfF 157 Tryz.f157 [9,6]
def zg:t7:=ptA NA [1,1,0,1,0,0,1,1,0,0,1,1,1,1,1,1,0,0,1]
def qM:=hdF NA [1,1,0,1,0,0,1,1,0,0,1,1,1,1,1,1,0,0,1] zg
abbrev SB:t7:=ptA qM [1,1,0,1,0,0,1,1,0,0,1,1,1,1,0,0,0]
abbrev RO:t7:=ptA qM [1,1,0,1,0,0,1,1,0,0,1,1,1,1,1,1,1]
def zj:t7:=ptA qM [1,1,0,1,0,0,1,1,0,0,1,1,1,1,1]
def Ss:=hdF qM [1,1,0,1,0,0,1,1,0,0,1,1,1,1,1] zj
abbrev SC:t7:=ptA Ss [1,1,0,1,0,0]
def SU:=nfF 158 Tryz.f158 []
def SV:=nfF 159 Tryz.f159 []
def Pi:=nfF 165 Tryz.f165 []
def SW:=nfF 166 Tryz.f166 []
def SX:=nfF 167 Tryz.f167 [9]
abbrev tD(n s b:Nat)(z:LV)(v:Value)(g:Bool):Prop:=D8 prog n=some s/\V0 prog n=some b/\O9 prog n=some z/\iP prog n=some v/\bT prog n=some g
abbrev tE(n s b:Nat)(z:LV)(v:Value)(g:Bool)(p:Prop):Prop:=D8 prog n=some s/\V0 prog n=some b/\O9 prog n=some z/\iP prog n=some v/\bT prog n=some g/\p
abbrev tF(n i a b:Nat):Prop:=sT prog n i=some (a,b)
abbrev tG(n:Nat)(l:List (Nat×Nat)):Prop:=FU prog n=some (.inl l)
abbrev tK(n:Nat)(l:List Q5):Prop:=vJ prog n=some l
abbrev tU(n:Nat)(l:List Q5):Prop:=oW prog n=some l
abbrev tS(n e:Nat):Prop:=tE n 1 24 [nS] nS false (I5 prog n=some e/\prog.underlying n=some (.slice e))
abbrev tP(n e:Nat):Prop:=tE n 1 8 [.pointer none] (.pointer none) false (prog.underlying n=some (.pointer e))
theorem gP{p:Prop}(q:p:=by repeat' (first|kernel_rfl|refine⟨?_,?_⟩|(show _=_;kernel_rfl))):p:=q
theorem ty3:tE 3 1 8 [iV (0)] (iV (0)) false (tK 3 [.int]/\prog.underlying 3=some (.int .i64)):=gP
theorem ty4:tE 4 1 1 [.bool false] (.bool false) false (tK 4 [.bool]/\vI prog 4=true/\prog.underlying 4=some .bool):=gP
theorem ty5:tE 5 1 1 [.int .u8 (0)] (.int .u8 (0)) false (tK 5 [.int]/\prog.underlying 5=some (.int .u8)):=gP
theorem ty9:tE 9 1 16 [.string eB] (.string eB) false (tK 9 [.str]/\prog.underlying 9=some .string):=gP
theorem FW:tE 21 1 4 [.int .i32 (0)] (.int .i32 (0)) false (tK 21 [.int]/\prog.underlying 21=some (.int .i32)):=gP
theorem lP:tE 22 1 24 [nS] (nS) false (I5 prog 22=some 25/\prog.underlying 22=some (.slice 25)):=gP
theorem sU:tE 23 1 24 [nS] (nS) false (I5 prog 23=some 86/\prog.underlying 23=some (.slice 86)):=gP
theorem aq:tE 25 3 56 [iV (0),nS,nS] (.agg #[iV (0),nS,nS]) true (tG 25 [(0,1),(1,1),(2,1)]/\tF 25 0 0 3/\tF 25 1 1 22/\tF 25 2 2 23):=gP
theorem MD:tE 28 1 24 [nS] (nS) false (I5 prog 28=some 32/\prog.underlying 28=some (.slice 32)):=gP
theorem CE:tE 29 1 24 [nS] (nS) false (I5 prog 29=some 3/\prog.underlying 29=some (.slice 3)):=gP
theorem IZ:tE 30 1 24 [nS] (nS) false (I5 prog 30=some 89/\prog.underlying 30=some (.slice 89)):=gP
theorem pL:tE 32 5 72 [iV (0),iV (0),iV (0),nS,nS] (.agg #[iV (0),iV (0),iV (0),nS,nS]) true (tG 32 [(0,1),(1,1),(2,1),(3,1),(4,1)]/\tF 32 0 0 3/\tF 32 1 1 3/\tF 32 2 2 3/\tF 32 3 3 30/\tF 32 4 4 23):=gP
theorem Rz:tE 34 8 144 [nS,nS,nS,iV (0),iV (0),iV (0),nS,nS] (.agg #[nS,nS,nS,iV (0),iV (0),iV (0),nS,nS]) true (tG 34 [(0,1),(1,1),(2,1),(3,5)]/\tF 34 0 0 22/\tF 34 1 1 28/\tF 34 2 2 29/\tF 34 3 3 32):=gP
theorem lQ:tE 35 1 24 [nS] (nS) false (I5 prog 35=some 51/\prog.underlying 35=some (.slice 51)):=gP
theorem ME:tE 36 1 24 [nS] (nS) false (I5 prog 36=some 59/\prog.underlying 36=some (.slice 59)):=gP
theorem Qv:tE 37 1 24 [nS] (nS) false (I5 prog 37=some 56/\prog.underlying 37=some (.slice 56)):=gP
theorem RA:tE 39 12 240 [nS,nS,nS,iV (0),iV (0),iV (0),nS,nS,nS,nS,nS,nS] (.agg #[nS,nS,nS,iV (0),iV (0),iV (0),nS,nS,nS,nS,nS,nS]) true (tG 39 [(0,8),(8,1),(9,1),(10,1),(11,1)]/\tF 39 0 0 34/\tF 39 1 8 35/\tF 39 2 9 36/\tF 39 3 10 29/\tF 39 4 11 37):=gP
theorem RB:tE 40 1 8 [iV (0)] (iV (0)) false (tK 40 [.int]/\prog.underlying 40=some (.int .i64)):=gP
theorem dP:tE 48 2 32 [.string eB,.string eB] (.agg #[.string eB,.string eB]) true (tG 48 [(0,1),(1,1)]/\tK 48 [.str,.str]/\tU 48 [.str,.str]/\tF 48 0 0 9/\tF 48 1 1 9):=gP
theorem CF:tE 49 1 24 [nS] (nS) false (I5 prog 49=some 53/\prog.underlying 49=some (.slice 53)):=gP
theorem S9:tE 51 5 80 [iV (0),.string eB,.string eB,nS,.string eB] (.agg #[iV (0),.string eB,.string eB,nS,.string eB]) true (tG 51 [(0,1),(1,2),(3,1),(4,1)]/\tF 51 0 0 3/\tF 51 1 1 48/\tF 51 2 3 49/\tF 51 3 4 9):=gP
theorem jQ:tE 53 3 48 [.string eB,.string eB,.string eB] (.agg #[.string eB,.string eB,.string eB]) true (tG 53 [(0,2),(2,1)]/\tK 53 [.str,.str,.str]/\tU 53 [.str,.str,.str]/\tF 53 0 0 48/\tF 53 1 2 9):=gP
theorem CG:tE 56 3 24 [iV (0),iV (0),iV (0)] (.agg #[iV (0),iV (0),iV (0)]) true (tG 56 [(0,1),(1,1),(2,1)]/\tK 56 [.int,.int,.int]/\tU 56 [.int,.int,.int]/\tF 56 0 0 3/\tF 56 1 1 3/\tF 56 2 2 3):=gP
theorem CH:tE 59 3 24 [.bool false,.bool false,.string eB] (.agg #[.bool false,.bool false,.string eB]) true (tG 59 [(0,1),(1,1),(2,1)]/\tK 59 [.bool,.bool,.str]/\tU 59 [.bool,.bool,.str]/\tF 59 0 0 4/\tF 59 1 1 4/\tF 59 2 2 9):=gP
theorem Qw:tP 75 39:=gP
theorem yR:tE 81 1 24 [nS] (nS) false (I5 prog 81=some 5/\prog.underlying 81=some (.slice 5)):=gP
theorem Ja:tE 83 1 24 [nS] (nS) false (I5 prog 83=some 4/\prog.underlying 83=some (.slice 4)):=gP
theorem cr:tE 86 6 104 [iV (0),.string eB,.string eB,.string eB,nS,nS] (.agg #[iV (0),.string eB,.string eB,.string eB,nS,nS]) true (tG 86 [(0,1),(1,2),(3,1),(4,1),(5,1)]/\tF 86 0 0 3/\tF 86 1 1 48/\tF 86 2 3 9/\tF 86 3 4 23/\tF 86 4 5 22):=gP
theorem pM:tE 89 4 32 [iV (0),iV (0),iV (0),iV (0)] (.agg #[iV (0),iV (0),iV (0),iV (0)]) true (tG 89 [(0,1),(1,1),(2,1),(3,1)]/\tK 89 [.int,.int,.int,.int]/\tU 89 [.int,.int,.int,.int]/\tF 89 0 0 3/\tF 89 1 1 3/\tF 89 2 2 3/\tF 89 3 3 3):=gP
theorem sV:tE 95 1 24 [nS] (nS) false (I5 prog 95=some 48/\prog.underlying 95=some (.slice 48)):=gP
theorem MF:tE 96 1 24 [nS] (nS) false (I5 prog 96=some 97/\prog.underlying 96=some (.slice 97)):=gP
theorem bU:tE 97 1 24 [nS] (nS) false (I5 prog 97=some 9/\prog.underlying 97=some (.slice 9)):=gP
theorem RC:tE 99 4 96 [nS,nS,nS,nS] (.agg #[nS,nS,nS,nS]) true (tG 99 [(0,1),(1,1),(2,1),(3,1)]/\tF 99 0 0 95/\tF 99 1 1 95/\tF 99 2 2 96/\tF 99 3 3 97):=gP
theorem Qn:tD 102 1 8 [.nilFunc] .nilFunc false:=gP
theorem Qo:tE 107 1 24 [nS] (.agg #[nS]) true (tG 107 [(0,1)]/\tF 107 0 0 22):=gP
theorem Qp:tE 115 4 96 [nS,nS,nS,nS] (.agg #[nS,nS,nS,nS]) true (tG 115 [(0,1),(1,1),(2,1),(3,1)]/\tF 115 0 0 95/\tF 115 1 1 95/\tF 115 2 2 96/\tF 115 3 3 97):=gP
theorem Qq:tE 123 20 296 [nS,nS,nS,iV (0),iV (0),iV (0),nS,nS,iV (0),.string eB,.string eB,nS,.string eB,.bool false,.bool false,.string eB,.bool false,.bool false,.string eB,nS] (.agg #[nS,nS,nS,iV (0),iV (0),iV (0),nS,nS,iV (0),.string eB,.string eB,nS,.string eB,.bool false,.bool false,.string eB,.bool false,.bool false,.string eB,nS]) true (tG 123 [(0,8),(8,5),(13,3),(16,3),(19,1)]/\tF 123 0 0 34/\tF 123 1 8 51/\tF 123 2 13 59/\tF 123 3 16 59/\tF 123 4 19 81):=gP
theorem Qr:tE 130 4 96 [nS,nS,nS,nS] (.agg #[nS,nS,nS,nS]) true (tG 130 [(0,4)]/\tF 130 0 0 99):=gP
theorem Qs:tE 135 5 72 [iV (0),iV (0),iV (0),nS,nS] (.agg #[iV (0),iV (0),iV (0),nS,nS]) true (tG 135 [(0,5)]/\tF 135 0 0 32):=gP
theorem Qt:tE 144 7 88 [iV (0),iV (0),iV (0),nS,nS,iV (0),iV (0)] (.agg #[iV (0),iV (0),iV (0),nS,nS,iV (0),iV (0)]) true (tG 144 [(0,5),(5,1),(6,1)]/\tF 144 0 0 32/\tF 144 1 5 3/\tF 144 2 6 3):=gP
theorem FV:tE 150 1 24 [nS] (nS) false (I5 prog 150=some 21/\prog.underlying 150=some (.slice 21)):=gP
theorem Qu:tE 169 14 248 [nS,nS,nS,iV (0),iV (0),iV (0),nS,nS,iV (0),.string eB,.string eB,nS,.string eB,nS] (.agg #[nS,nS,nS,iV (0),iV (0),iV (0),nS,nS,iV (0),.string eB,.string eB,nS,.string eB,nS]) true (tG 169 [(0,8),(8,5),(13,1)]/\tF 169 0 0 34/\tF 169 1 8 51/\tF 169 2 13 81):=gP
theorem Th:tE 190 1 8 [.map none] (.map none) false (vK prog 190=some (48,4)/\prog.underlying 190=some (.map 48 4)):=gP
theorem Pg:tD 194 1 8 [.nilFunc] .nilFunc false:=gP
theorem Ct:tE 205 1 24 [nS] (nS) false (I5 prog 205=some 194/\prog.underlying 205=some (.slice 194)):=gP
theorem mQ:tE 208 2 8 [.int .i32 (0),.int .i32 (0)] (.agg #[.int .i32 (0),.int .i32 (0)]) true (tG 208 [(0,1),(1,1)]/\tK 208 [.int,.int]/\tU 208 [.int,.int]/\tF 208 0 0 21/\tF 208 1 1 21):=gP
theorem no:tE 209 1 24 [nS] (nS) false (I5 prog 209=some 208/\prog.underlying 209=some (.slice 208)):=gP
theorem Cv:tE 218 3 8 [.int .u8 (0),.int .u8 (0),.int .i32 (0)] (.agg #[.int .u8 (0),.int .u8 (0),.int .i32 (0)]) true (tG 218 [(0,1),(1,1),(2,1)]/\tK 218 [.int,.int,.int]/\tU 218 [.int,.int,.int]/\tF 218 0 0 5/\tF 218 1 1 5/\tF 218 2 2 21):=gP
theorem Pj:tE 219 12 32 [.int .u8 (0),.int .u8 (0),.int .i32 (0),.int .u8 (0),.int .u8 (0),.int .i32 (0),.int .u8 (0),.int .u8 (0),.int .i32 (0),.int .u8 (0),.int .u8 (0),.int .i32 (0)] (.agg #[.int .u8 (0),.int .u8 (0),.int .i32 (0),.int .u8 (0),.int .u8 (0),.int .i32 (0),.int .u8 (0),.int .u8 (0),.int .i32 (0),.int .u8 (0),.int .u8 (0),.int .i32 (0)]) true (FU prog 219=some (Sum.inr 3)/\prog.underlying 219=some (.array 4 218)):=gP
theorem anB:ly (aI @List.any_cons.{0} @List.any_nil.{0}):=stOf _
theorem tyA:ly (aI (aI (aI (aI (aI @ty3 (aI @ty4 @ty5)) (aI @ty9 (aI @FW @lP))) (aI (aI @sU (aI @aq @MD)) (aI @CE (aI @IZ @pL)))) (aI (aI (aI @Rz (aI @lQ @ME)) (aI @Qv (aI @RA @RB))) (aI (aI @dP (aI @CF @S9)) (aI @jQ (aI @CG @CH))))) (aI (aI (aI (aI @Qw (aI @yR @Ja)) (aI @cr (aI @pM @sV))) (aI (aI @MF (aI @bU @RC)) (aI @Qn (aI @Qo @Qp)))) (aI (aI (aI @Qq (aI @Qr @Qs)) (aI @Qt (aI @FV @Qu))) (aI (aI @Th (aI @Pg @Ct)) (aI (aI @mQ @no) (aI @Cv @Pj)))))):=stOf _
section
variable{a b c d e f g h i j k l m n o r s t u v w x y z a1 b1 c1 d1 e1 f1 p q:Prop}
theorem Jj'(a':a)(K:q)(Z:a->q->p:=by intro a;simp(maxSteps:=20000000) -dsimp (disch:=first|omega|(simp only[rH]<;>omega)|fail) only[↓ig,rQ,N3,sevalprocAttr,tyA,a]<;>exact id):p:=Z a' K
theorem J1(a':a)(K:q)(Z:a->q->p:=by intro a;simp(maxSteps:=20000000) -dsimp (disch:=first|omega|(simp only[rH]<;>omega)|fail) only[↓ig,rQ,N3,sevalprocAttr,tyA,a]<;>exact id):p:=Z a' K
theorem J2(a':a)(b':b)(K:q)(Z:a/\b->q->p:=by exact fun a b=>Jj' a b):p:=Z ⟨a',b'⟩ K
theorem J3(a':a)(b':b)(c':c)(K:q)(Z:a/\b/\c->q->p:=by exact fun a b=>Jj' a b):p:=Z ⟨a',b',c'⟩ K
theorem J4(a':a)(b':b)(c':c)(d':d)(K:q)(Z:a/\b/\c/\d->q->p:=by exact fun a b=>Jj' a b):p:=Z ⟨a',b',c',d'⟩ K
theorem J5(a':a)(b':b)(c':c)(d':d)(e':e)(K:q)(Z:a/\b/\c/\d/\e->q->p:=by exact fun a b=>Jj' a b):p:=Z ⟨a',b',c',d',e'⟩ K
theorem J6(a':a)(b':b)(c':c)(d':d)(e':e)(f':f)(K:q)(Z:a/\b/\c/\d/\e/\f->q->p:=by exact fun a b=>Jj' a b):p:=Z ⟨a',b',c',d',e',f'⟩ K
theorem J7(a':a)(b':b)(c':c)(d':d)(e':e)(f':f)(g':g)(K:q)(Z:a/\b/\c/\d/\e/\f/\g->q->p:=by exact fun a b=>Jj' a b):p:=Z ⟨a',b',c',d',e',f',g'⟩ K
theorem J8(a':a)(b':b)(c':c)(d':d)(e':e)(f':f)(g':g)(h':h)(K:q)(Z:a/\b/\c/\d/\e/\f/\g/\h->q->p:=by exact fun a b=>Jj' a b):p:=Z ⟨a',b',c',d',e',f',g',h'⟩ K
theorem J9(a':a)(b':b)(c':c)(d':d)(e':e)(f':f)(g':g)(h':h)(i':i)(K:q)(Z:a/\b/\c/\d/\e/\f/\g/\h/\i->q->p:=by exact fun a b=>Jj' a b):p:=Z ⟨a',b',c',d',e',f',g',h',i'⟩ K
theorem J10(a':a)(b':b)(c':c)(d':d)(e':e)(f':f)(g':g)(h':h)(i':i)(j':j)(K:q)(Z:a/\b/\c/\d/\e/\f/\g/\h/\i/\j->q->p:=by exact fun a b=>Jj' a b):p:=Z ⟨a',b',c',d',e',f',g',h',i',j'⟩ K
theorem J11(a':a)(b':b)(c':c)(d':d)(e':e)(f':f)(g':g)(h':h)(i':i)(j':j)(k':k)(K:q)(Z:a/\b/\c/\d/\e/\f/\g/\h/\i/\j/\k->q->p:=by exact fun a b=>Jj' a b):p:=Z ⟨a',b',c',d',e',f',g',h',i',j',k'⟩ K
theorem J12(a':a)(b':b)(c':c)(d':d)(e':e)(f':f)(g':g)(h':h)(i':i)(j':j)(k':k)(l':l)(K:q)(Z:a/\b/\c/\d/\e/\f/\g/\h/\i/\j/\k/\l->q->p:=by exact fun a b=>Jj' a b):p:=Z ⟨a',b',c',d',e',f',g',h',i',j',k',l'⟩ K
theorem J13(a':a)(b':b)(c':c)(d':d)(e':e)(f':f)(g':g)(h':h)(i':i)(j':j)(k':k)(l':l)(m':m)(K:q)(Z:a/\b/\c/\d/\e/\f/\g/\h/\i/\j/\k/\l/\m->q->p:=by exact fun a b=>Jj' a b):p:=Z ⟨a',b',c',d',e',f',g',h',i',j',k',l',m'⟩ K
theorem J14(a':a)(b':b)(c':c)(d':d)(e':e)(f':f)(g':g)(h':h)(i':i)(j':j)(k':k)(l':l)(m':m)(n':n)(K:q)(Z:a/\b/\c/\d/\e/\f/\g/\h/\i/\j/\k/\l/\m/\n->q->p:=by exact fun a b=>Jj' a b):p:=Z ⟨a',b',c',d',e',f',g',h',i',j',k',l',m',n'⟩ K
theorem J15(a':a)(b':b)(c':c)(d':d)(e':e)(f':f)(g':g)(h':h)(i':i)(j':j)(k':k)(l':l)(m':m)(n':n)(o':o)(K:q)(Z:a/\b/\c/\d/\e/\f/\g/\h/\i/\j/\k/\l/\m/\n/\o->q->p:=by exact fun a b=>Jj' a b):p:=Z ⟨a',b',c',d',e',f',g',h',i',j',k',l',m',n',o'⟩ K
theorem J16(a':a)(b':b)(c':c)(d':d)(e':e)(f':f)(g':g)(h':h)(i':i)(j':j)(k':k)(l':l)(m':m)(n':n)(o':o)(r':r)(K:q)(Z:a/\b/\c/\d/\e/\f/\g/\h/\i/\j/\k/\l/\m/\n/\o/\r->q->p:=by exact fun a b=>Jj' a b):p:=Z ⟨a',b',c',d',e',f',g',h',i',j',k',l',m',n',o',r'⟩ K
theorem J17(a':a)(b':b)(c':c)(d':d)(e':e)(f':f)(g':g)(h':h)(i':i)(j':j)(k':k)(l':l)(m':m)(n':n)(o':o)(r':r)(s':s)(K:q)(Z:a/\b/\c/\d/\e/\f/\g/\h/\i/\j/\k/\l/\m/\n/\o/\r/\s->q->p:=by exact fun a b=>Jj' a b):p:=Z ⟨a',b',c',d',e',f',g',h',i',j',k',l',m',n',o',r',s'⟩ K
theorem J18(a':a)(b':b)(c':c)(d':d)(e':e)(f':f)(g':g)(h':h)(i':i)(j':j)(k':k)(l':l)(m':m)(n':n)(o':o)(r':r)(s':s)(t':t)(K:q)(Z:a/\b/\c/\d/\e/\f/\g/\h/\i/\j/\k/\l/\m/\n/\o/\r/\s/\t->q->p:=by exact fun a b=>Jj' a b):p:=Z ⟨a',b',c',d',e',f',g',h',i',j',k',l',m',n',o',r',s',t'⟩ K
theorem J19(a':a)(b':b)(c':c)(d':d)(e':e)(f':f)(g':g)(h':h)(i':i)(j':j)(k':k)(l':l)(m':m)(n':n)(o':o)(r':r)(s':s)(t':t)(u':u)(K:q)(Z:a/\b/\c/\d/\e/\f/\g/\h/\i/\j/\k/\l/\m/\n/\o/\r/\s/\t/\u->q->p:=by exact fun a b=>Jj' a b):p:=Z ⟨a',b',c',d',e',f',g',h',i',j',k',l',m',n',o',r',s',t',u'⟩ K
theorem J20(a':a)(b':b)(c':c)(d':d)(e':e)(f':f)(g':g)(h':h)(i':i)(j':j)(k':k)(l':l)(m':m)(n':n)(o':o)(r':r)(s':s)(t':t)(u':u)(v':v)(K:q)(Z:a/\b/\c/\d/\e/\f/\g/\h/\i/\j/\k/\l/\m/\n/\o/\r/\s/\t/\u/\v->q->p:=by exact fun a b=>Jj' a b):p:=Z ⟨a',b',c',d',e',f',g',h',i',j',k',l',m',n',o',r',s',t',u',v'⟩ K
theorem J21(a':a)(b':b)(c':c)(d':d)(e':e)(f':f)(g':g)(h':h)(i':i)(j':j)(k':k)(l':l)(m':m)(n':n)(o':o)(r':r)(s':s)(t':t)(u':u)(v':v)(w':w)(K:q)(Z:a/\b/\c/\d/\e/\f/\g/\h/\i/\j/\k/\l/\m/\n/\o/\r/\s/\t/\u/\v/\w->q->p:=by exact fun a b=>Jj' a b):p:=Z ⟨a',b',c',d',e',f',g',h',i',j',k',l',m',n',o',r',s',t',u',v',w'⟩ K
theorem J22(a':a)(b':b)(c':c)(d':d)(e':e)(f':f)(g':g)(h':h)(i':i)(j':j)(k':k)(l':l)(m':m)(n':n)(o':o)(r':r)(s':s)(t':t)(u':u)(v':v)(w':w)(x':x)(K:q)(Z:a/\b/\c/\d/\e/\f/\g/\h/\i/\j/\k/\l/\m/\n/\o/\r/\s/\t/\u/\v/\w/\x->q->p:=by exact fun a b=>Jj' a b):p:=Z ⟨a',b',c',d',e',f',g',h',i',j',k',l',m',n',o',r',s',t',u',v',w',x'⟩ K
theorem J23(a':a)(b':b)(c':c)(d':d)(e':e)(f':f)(g':g)(h':h)(i':i)(j':j)(k':k)(l':l)(m':m)(n':n)(o':o)(r':r)(s':s)(t':t)(u':u)(v':v)(w':w)(x':x)(y':y)(K:q)(Z:a/\b/\c/\d/\e/\f/\g/\h/\i/\j/\k/\l/\m/\n/\o/\r/\s/\t/\u/\v/\w/\x/\y->q->p:=by exact fun a b=>Jj' a b):p:=Z ⟨a',b',c',d',e',f',g',h',i',j',k',l',m',n',o',r',s',t',u',v',w',x',y'⟩ K
theorem J24(a':a)(b':b)(c':c)(d':d)(e':e)(f':f)(g':g)(h':h)(i':i)(j':j)(k':k)(l':l)(m':m)(n':n)(o':o)(r':r)(s':s)(t':t)(u':u)(v':v)(w':w)(x':x)(y':y)(z':z)(K:q)(Z:a/\b/\c/\d/\e/\f/\g/\h/\i/\j/\k/\l/\m/\n/\o/\r/\s/\t/\u/\v/\w/\x/\y/\z->q->p:=by exact fun a b=>Jj' a b):p:=Z ⟨a',b',c',d',e',f',g',h',i',j',k',l',m',n',o',r',s',t',u',v',w',x',y',z'⟩ K
theorem J25(a':a)(b':b)(c':c)(d':d)(e':e)(f':f)(g':g)(h':h)(i':i)(j':j)(k':k)(l':l)(m':m)(n':n)(o':o)(r':r)(s':s)(t':t)(u':u)(v':v)(w':w)(x':x)(y':y)(z':z)(a1':a1)(K:q)(Z:a/\b/\c/\d/\e/\f/\g/\h/\i/\j/\k/\l/\m/\n/\o/\r/\s/\t/\u/\v/\w/\x/\y/\z/\a1->q->p:=by exact fun a b=>Jj' a b):p:=Z ⟨a',b',c',d',e',f',g',h',i',j',k',l',m',n',o',r',s',t',u',v',w',x',y',z',a1'⟩ K
theorem J26(a':a)(b':b)(c':c)(d':d)(e':e)(f':f)(g':g)(h':h)(i':i)(j':j)(k':k)(l':l)(m':m)(n':n)(o':o)(r':r)(s':s)(t':t)(u':u)(v':v)(w':w)(x':x)(y':y)(z':z)(a1':a1)(b1':b1)(K:q)(Z:a/\b/\c/\d/\e/\f/\g/\h/\i/\j/\k/\l/\m/\n/\o/\r/\s/\t/\u/\v/\w/\x/\y/\z/\a1/\b1->q->p:=by exact fun a b=>Jj' a b):p:=Z ⟨a',b',c',d',e',f',g',h',i',j',k',l',m',n',o',r',s',t',u',v',w',x',y',z',a1',b1'⟩ K
theorem J27(a':a)(b':b)(c':c)(d':d)(e':e)(f':f)(g':g)(h':h)(i':i)(j':j)(k':k)(l':l)(m':m)(n':n)(o':o)(r':r)(s':s)(t':t)(u':u)(v':v)(w':w)(x':x)(y':y)(z':z)(a1':a1)(b1':b1)(c1':c1)(K:q)(Z:a/\b/\c/\d/\e/\f/\g/\h/\i/\j/\k/\l/\m/\n/\o/\r/\s/\t/\u/\v/\w/\x/\y/\z/\a1/\b1/\c1->q->p:=by exact fun a b=>Jj' a b):p:=Z ⟨a',b',c',d',e',f',g',h',i',j',k',l',m',n',o',r',s',t',u',v',w',x',y',z',a1',b1',c1'⟩ K
theorem J29(a':a)(b':b)(c':c)(d':d)(e':e)(f':f)(g':g)(h':h)(i':i)(j':j)(k':k)(l':l)(m':m)(n':n)(o':o)(r':r)(s':s)(t':t)(u':u)(v':v)(w':w)(x':x)(y':y)(z':z)(a1':a1)(b1':b1)(c1':c1)(d1':d1)(e1':e1)(K:q)(Z:a/\b/\c/\d/\e/\f/\g/\h/\i/\j/\k/\l/\m/\n/\o/\r/\s/\t/\u/\v/\w/\x/\y/\z/\a1/\b1/\c1/\d1/\e1->q->p:=by exact fun a b=>Jj' a b):p:=Z ⟨a',b',c',d',e',f',g',h',i',j',k',l',m',n',o',r',s',t',u',v',w',x',y',z',a1',b1',c1',d1',e1'⟩ K
theorem J30(a':a)(b':b)(c':c)(d':d)(e':e)(f':f)(g':g)(h':h)(i':i)(j':j)(k':k)(l':l)(m':m)(n':n)(o':o)(r':r)(s':s)(t':t)(u':u)(v':v)(w':w)(x':x)(y':y)(z':z)(a1':a1)(b1':b1)(c1':c1)(d1':d1)(e1':e1)(f1':f1)(K:q)(Z:a/\b/\c/\d/\e/\f/\g/\h/\i/\j/\k/\l/\m/\n/\o/\r/\s/\t/\u/\v/\w/\x/\y/\z/\a1/\b1/\c1/\d1/\e1/\f1->q->p:=by exact fun a b=>Jj' a b):p:=Z ⟨a',b',c',d',e',f',g',h',i',j',k',l',m',n',o',r',s',t',u',v',w',x',y',z',a1',b1',c1',d1',e1',f1'⟩ K
end
theorem pushE(H:N7)(B:Blk):∃K,K=H.push B/\K.next=H.next+1/\K.get H.next=some B/\i6 H.next H K:=⟨_,rfl,by rw[i5],j9,i6.push (Nat.le_refl _)⟩
theorem pushF(H:N7)(B:Blk):∃K,K=N7.push ⟨H.bs,H.next⟩ B/\K.next=H.next+1/\K.get H.next=some B/\i6 H.next H K:=⟨_,rfl,by rw[i5];rfl,j9,i6.first H _⟩
theorem pushP(H:N7)(B C:Blk):∃K,K=(H.push B).put H.next C/\K.next=H.next+1/\K.get H.next=some C/\i6 H.next H K:=⟨_,rfl,by rw[t5,i5],j5 (by rw[i5];omega),(i6.push (Nat.le_refl _)).trans (i6.put (Nat.le_refl _))⟩
abbrev bC(c:LV)(n:Nat):Blk:= .cells c true n
abbrev sL(b n c:Nat):Value:= .slice (some ⟨b,0,none⟩) n c
abbrev cE(c:LV)(n:Nat):Option Blk:=some (.cells c true n)
def t6:Lib:=fun _=>none
def bj(s:Int×Int):LV:=[.int .i32 s.1,.int .i32 s.2]
def inSpans(r:Int)(l:List (Int×Int)):Bool:=l.any fun s=>decide (s.1<=r)&&decide (r<=s.2)
theorem yy(H:N7)(r:Int)(b c:Nat)(own:Bool)(l:List (Int×Int))(hl:l.length<1000)(hb:H.get b=some (.cells (l.flatMap bj) own 2)):
  CL prog t6 159 [.int .i32 r,sL b l.length c] H=some (.bool (inSpans r l),none):=by
 rw[j7 SV rfl _ sM];simp(maxSteps:=20000000) -dsimp (disch:=first|omega|(simp only[rH]<;>omega)|fail) only[↓ig,rQ,N3,sevalprocAttr,no,mQ,ty3,FW,ty4];refine Hq (F:=fun z=>u5 _ _ _ (u9 (inBlock _ z) _)) (I:=fun n e H' r'=>∃i:Nat,n=l.length-i/\i<=l.length/\e.get 0= .int .i32 r/\e.get 4= .bool false/\e.get 7=sL b l.length c/\
  e.get 8=iV l.length/\e.get 9=iV i/\H'.get b=some (.cells (l.flatMap bj) own 2)/\H.next<=H'.low/\H.next<=H'.next/\r'=some (.bool (inSpans r (l.drop i)),none)) ?_ l.length _ _ _
  ⟨0,by simp,by simp,rfl,rfl,rfl,rfl,rfl,hb,lR,lR,by simp⟩
 rintro n e H' r' ⟨i,rfl,hi,e0,S,U,W,X,D,b2,b1,rfl⟩ ih;have b3:=u7 D;simp(maxSteps:=20000000) -dsimp (disch:=first|omega|(simp only[rH]<;>omega)|fail) only[↓ig,rQ,N3,sevalprocAttr,e0,S,U,W,X];by_cases O:i<l.length
 .obtain⟨s,hs⟩:∃s,l[i]?=some s:=⟨l[i],by simp [O]⟩
  have hd:l.drop i=s::l.drop (i+1):=by rw[List.drop_eq_getElem_cons O];congr 1;rw[List.getElem?_eq_getElem O]at hs;exact Option.some.inj hs
  have E:=Se (enc:=bj) (sz:=2) (fun _=>rfl) hs;have u:(i:Int)<l.length:=oM;simp(maxSteps:=20000000) -dsimp (disch:=first|omega|(simp only[rH]<;>omega)|fail) only[↓ig,rQ,N3,sevalprocAttr,e0,S,U,W,X,no,mQ,ty3,FW,ty4,u,D,E,bj];have b0:∀e' J,e'.get 0= .int .i32 r->e'.get 4= .bool false->e'.get 7=sL b l.length c->e'.get 8=iV l.length->e'.get 9=iV (IntKind.wrap .i64 (i+1))->
    J.get b=some (.cells (l.flatMap bj) own 2)->H.next<=J.low->H.next<=J.next->(decide (s.1<=r)&&decide (r<=s.2))=false->
    u5 _ _ _ (u9 (inBlock _ (LE _ _ _ e' J)) _)=some (.bool (inSpans r (l.drop i)),none):=fun e' J a1 a2 a3 a4 a5 a6 a7 a8 a9=>
   ih (l.length-(i+1)) e' J _ oM ⟨i+1,rfl,O,a1,a2,a3,a4,by rw[a5,wrap_small oM oM];rfl,a6,a7,a8,by rw[hd,inSpans,List.any_cons,a9,Bool.false_or];rfl⟩
  by_cases h1:s.1<=r
  .by_cases h2:r<=s.2
   .simp(maxSteps:=20000000) -dsimp (disch:=first|omega|(simp only[rH]<;>omega)|fail) only[↓ig,rQ,N3,sevalprocAttr,e0,S,U,W,X,no,mQ,ty3,FW,ty4,u,D,E,bj,h1,h2];simp [hd,inSpans,h1,h2]
   .simp(maxSteps:=20000000) -dsimp (disch:=first|omega|(simp only[rH]<;>omega)|fail) only[↓ig,rQ,N3,sevalprocAttr,e0,S,U,W,X,no,mQ,ty3,FW,ty4,u,D,E,bj,h1,h2];apply b0<;>simp(maxSteps:=20000000) -dsimp (disch:=first|omega|(simp only[rH]<;>omega)|fail) only[↓ig,rQ,N3,sevalprocAttr,e0,S,U,W,X,D,h1,h2,Bool.and_false]<;>omega
  .simp(maxSteps:=20000000) -dsimp (disch:=first|omega|(simp only[rH]<;>omega)|fail) only[↓ig,rQ,N3,sevalprocAttr,e0,S,U,W,X,no,mQ,ty3,FW,ty4,u,D,E,bj,h1];apply b0<;>simp(maxSteps:=20000000) -dsimp (disch:=first|omega|(simp only[rH]<;>omega)|fail) only[↓ig,rQ,N3,sevalprocAttr,e0,S,U,W,X,D,h1,Bool.false_and]<;>omega
 .have u:¬(i:Int)<l.length:=oM;have:l.drop i=[]:=dN oM;simp(maxSteps:=20000000) -dsimp (disch:=first|omega|(simp only[rH]<;>omega)|fail) only[↓ig,rQ,N3,sevalprocAttr,e0,S,U,W,X,u,this];rfl
def mF(r:Int):Bool:=decide (r=9)||decide (r=10)||decide (r=13)||decide (r=32)
def qd:List (Int×Int):=[(0x20,0xd7ff),(0xe000,0xfffd),(0x10000,0x10ffff)]
def oQ:List (Int×Int):=[(65,90),(97,122),(95,95),(0xc0,0xd6),(0xd8,0xf6),(0xf8,0x2ff),(0x370,0x37d),(0x37f,0x1fff),(0x200c,0x200d),(0x2070,0x218f),(0x2c00,0x2fef),(0x3001,0xd7ff),(0xf900,0xfdcf),(0xfdf0,0xfffd),(0x10000,0xeffff)]
def qF:List (Int×Int):=[(45,46),(48,57),(0xb7,0xb7),(0x300,0x36f),(0x203f,0x2040)]
def kD(r:Int):Bool:=mF r||inSpans r qd
def fH(r:Int):Bool:=inSpans r oQ
def je(r:Int):Bool:=fH r||inSpans r qF
theorem sN(H:N7)(r:Int):CL prog t6 158 [.int .i32 r] H=some (.bool (mF r),none):=by
 rw[j7 SU rfl _ sM];by_cases u:r=9
 .subst u;simp(maxSteps:=20000000) -dsimp (disch:=first|omega|(simp only[rH]<;>omega)|fail) only[↓ig,rQ,N3,sevalprocAttr];rfl
 by_cases z:r=10
 .subst z;simp(maxSteps:=20000000) -dsimp (disch:=first|omega|(simp only[rH]<;>omega)|fail) only[↓ig,rQ,N3,sevalprocAttr];rfl
 by_cases D:r=13
 .subst D;simp(maxSteps:=20000000) -dsimp (disch:=first|omega|(simp only[rH]<;>omega)|fail) only[↓ig,rQ,N3,sevalprocAttr];rfl
 by_cases E:r=32
 .subst E;simp(maxSteps:=20000000) -dsimp (disch:=first|omega|(simp only[rH]<;>omega)|fail) only[↓ig,rQ,N3,sevalprocAttr];rfl
 simp(maxSteps:=20000000) -dsimp (disch:=first|omega|(simp only[rH]<;>omega)|fail) only[↓ig,rQ,N3,sevalprocAttr,u,z,D,E];simp [mF,u,z,D,E]
theorem R1(H:N7)(r:Int):CL prog t6 155 [.int .i32 r] H=some (.bool (fH r),none):=by
 rw[j7 SS rfl _ sM];simp(maxSteps:=20000000) -dsimp (disch:=first|omega|(simp only[rH]<;>omega)|fail) only[↓ig,rQ,N3,sevalprocAttr,no,mQ,FW,ty4];have h:=yy ((⟨H.bs,H.next⟩:N7).push (bC (oQ.flatMap bj) 2)) r H.next 15 true oQ (by decide) (y7 ⟨lR,lR⟩)
 erw [h]
 simp(maxSteps:=20000000) -dsimp (disch:=first|omega|(simp only[rH]<;>omega)|fail) only[↓ig,rQ,N3,sevalprocAttr];rfl
theorem dq(H:N7)(r:Int):CL prog t6 156 [.int .i32 r] H=some (.bool (je r),none):=by
 rw[j7 ST rfl _ sM];have h:=yy ((⟨H.bs,H.next⟩:N7).push (bC (qF.flatMap bj) 2)) r H.next 5 true qF (by decide) (y7 ⟨lR,lR⟩);cases u:fH r
 .simp(maxSteps:=20000000) -dsimp (disch:=first|omega|(simp only[rH]<;>omega)|fail) only[↓ig,rQ,N3,sevalprocAttr,no,mQ,FW,ty4,R1,u]
  erw [h]
  simp(maxSteps:=20000000) -dsimp (disch:=first|omega|(simp only[rH]<;>omega)|fail) only[↓ig,rQ,N3,sevalprocAttr,je,u,Bool.false_or]
 .simp(maxSteps:=20000000) -dsimp (disch:=first|omega|(simp only[rH]<;>omega)|fail) only[↓ig,rQ,N3,sevalprocAttr,no,mQ,FW,ty4,R1,u];simp only[je,u,Bool.true_or]
theorem Qe(H:N7)(r:Int):CL prog t6 146 [.int .i32 r] H=some (.bool (kD r),none):=by
 rw[j7 SR rfl _ sM];have h:=yy ((⟨H.bs,H.next⟩:N7).push (bC (qd.flatMap bj) 2)) r H.next 3 true qd (by decide) (y7 ⟨lR,lR⟩);cases u:mF r
 .simp(maxSteps:=20000000) -dsimp (disch:=first|omega|(simp only[rH]<;>omega)|fail) only[↓ig,rQ,N3,sevalprocAttr,no,mQ,FW,ty4,sN,u]
  erw [h]
  simp(maxSteps:=20000000) -dsimp (disch:=first|omega|(simp only[rH]<;>omega)|fail) only[↓ig,rQ,N3,sevalprocAttr,kD,u,Bool.false_or]
 .simp(maxSteps:=20000000) -dsimp (disch:=first|omega|(simp only[rH]<;>omega)|fail) only[↓ig,rQ,N3,sevalprocAttr,no,mQ,FW,ty4,sN,u];simp only[kD,u,Bool.true_or]
def LK:LV:=[.int .u8 128,.int .u8 0,.int .i32 0,.int .u8 224,.int .u8 192,.int .i32 128,.int .u8 240,.int .u8 224,.int .i32 2048,.int .u8 248,.int .u8 240,.int .i32 65536]
theorem RE(H:N7):CL prog t6 166 [] H=some (.agg LK.toArray,none):=by
 rw[j7 SW rfl _ sM];simp(maxSteps:=20000000) -dsimp (disch:=first|omega|(simp only[rH]<;>omega)|fail) only[↓ig,rQ,N3,sevalprocAttr,Pj,Cv,ty5,FW];rfl
def qV(v:Int)(tails:Int):Int×Int:=
 (IntKind.wrap .i32 (v*2 ^ min (6*tails).toNat 32),Go.bits .or .i32 (IntKind.wrap .i32 (v*2 ^ min (6*tails).toNat 32)) (IntKind.wrap .i32 (IntKind.wrap .i32 (1*2 ^ min (6*tails).toNat 32)-1)))
theorem Sa(H:N7)(v t:Int)(z:0<=t)(D:t<=4):CL prog t6 167 [.int .i32 v,iV t] H=some (.tuple #[.int .i32 (qV v t).1,.int .i32 (qV v t).2],none):=by
 rw[j7 SX rfl _ sM];have u:IntKind.wrap .i64 (6*t)=6*t:=wrap_small oM oM;simp(maxSteps:=20000000) -dsimp (disch:=first|omega|(simp only[rH]<;>omega)|fail) only[↓ig,rQ,N3,sevalprocAttr,u,Nt];rfl
def aL(s:ByteArray)(at_ n:Nat):Nat->Int->Nat->Int×Nat
 |0,v,h=>(v,h)
 |k+1,v,h=>
  if at_+h<s.size/\Go.bits .and .u8 (A3 s (at_+h)) 192=128 then
   aL s at_ n k (Go.bits .or .i32 (IntKind.wrap .i32 (v*2 ^ min (Int.toNat 6) 32)) (IntKind.wrap .i32 (Go.bits .and .u8 (A3 s (at_+h)) 63))) (h+1)
  else(v,h)
def sX(s:ByteArray)(at_ n:Nat)(least v:Int)(h:Nat):Int×Int×Int:=
 if(qV v (n+1-h)).2<least\/1114111<(qV v (n+1-h)).1\/(55296<=(qV v (n+1-h)).1/\(qV v (n+1-h)).2<=57343) then(0,0,2)
 else if h=n+1 then(v,h,0) else if at_+h=s.size then(0,0,7) else(0,0,2)
def ai:Nat->Int×Int×Int
 |0=>(128,0,0)
 |1=>(224,192,128)
 |2=>(240,224,2048)
 |_=>(248,240,65536)
def W8(s:ByteArray)(at_:Nat):Nat->Nat->Int×Int×Int
 |0,_=>(0,0,2)
 |k+1,i=>
  if Go.bits .and .u8 (A3 s at_) (ai i).1=(ai i).2.1 then
   sX s at_ i (ai i).2.2 (aL s at_ i i (IntKind.wrap .i32 (Go.bits .andNot .u8 (A3 s at_) (ai i).1)) 1).1 (aL s at_ i i (IntKind.wrap .i32 (Go.bits .andNot .u8 (A3 s at_) (ai i).1)) 1).2
  else W8 s at_ k (i+1)
def dr(s:ByteArray)(at_:Nat):Int×Int×Int:=if at_<s.size then W8 s at_ 4 0 else(0,0,7)
theorem RD(i:Nat)(h:i<4):(LK.drop (i*3)).take 3=[.int .u8 (ai i).1,.int .u8 (ai i).2.1,.int .i32 (ai i).2.2]:=by
 match i,h with
 |0,_=>rfl
 |1,_=>rfl
 |2,_=>rfl
 |3,_=>rfl
def Te(q:Int×Int×Int):Option (Value×Option N7):=some (.tuple #[.int .i32 q.1,iV q.2.1,iV q.2.2],none)
def RX(s:ByteArray)(at_ i lo pb:Nat)(e:Env)(H2:N7)(v:Int)(h:Nat):Prop:=
 1<=h/\h<=i+1/\e.get 0= .string s/\e.get 1=iV at_/\e.get 7=iV i/\e.get 8=pT pb/\e.get 9= .int .i32 v/\e.get 10=iV h/\
 H2.get pb=cE [.int .u8 (ai i).1,.int .u8 (ai i).2.1,.int .i32 (ai i).2.2] 1/\lo<=H2.low/\lo<=H2.next
theorem RF(s:ByteArray)(u i lo pb:Nat)(hs:s.size<=1048576)(ha:u<=1048576)(a6:i<4)(r:Int×Nat):∀n e H2,(∃v h,n=i+1-h/\RX s u i lo pb e H2 v h/\aL s u i (i+1-h) v h=r)->
  w7 (LE prog t6 (.loop SB) e H2) (fun o e H2=>o= .exit 2/\RX s u i lo pb e H2 r.1 r.2):=by
 refine i8 _ _ ?_;rintro k e H2 ⟨v,h,hk,⟨a2,a3,J,O,X,f8,f9,z,fg,fl,fn⟩,S⟩;simp(maxSteps:=20000000) -dsimp (disch:=first|omega|(simp only[rH]<;>omega)|fail) only[↓ig,rQ,N3,sevalprocAttr,J,O,X,f9,z,wrap_small,ty9];by_cases a5:h<=i
 .have D:(h:Int)<=i:=oM;have a1:i+1-h=(i-h)+1:=oM;rw[a1,aL]at S;simp(maxSteps:=20000000) -dsimp (disch:=first|omega|(simp only[rH]<;>omega)|fail) only[↓ig,rQ,N3,sevalprocAttr,D,J,O,z,wrap_small,ty9];by_cases a4:u+h<s.size
  .have E:(u:Int)+h<s.size:=oM;have W:((u:Int)+h).toNat=u+h:=oM;simp(maxSteps:=20000000) -dsimp (disch:=first|omega|(simp only[rH]<;>omega)|fail) only[↓ig,rQ,N3,sevalprocAttr,D,E,J,O,z,wrap_small,ty9,ty5,W];by_cases U:Go.bits .and .u8 (A3 s (u+h)) 192=128
   .rw[if_pos ⟨a4,U⟩]at S;simp(maxSteps:=20000000) -dsimp (disch:=first|omega|(simp only[rH]<;>omega)|fail) only[↓ig,rQ,N3,sevalprocAttr,U,J,O,X,f8,f9,z,wrap_small,ty9,ty5,FW,ty3,Nt,W];refine i4 (k-1) oM ⟨Go.bits .or .i32 (IntKind.wrap .i32 (v*2 ^ min (Int.toNat 6) 32)) (IntKind.wrap .i32 (Go.bits .and .u8 (A3 s (u+h)) 63)),h+1,oM,⟨oM,oM,?_,?_,?_,?_,?_,?_,fg,fl,fn⟩,?_⟩
    all_goals (try simp(maxSteps:=20000000) -dsimp (disch:=first|omega|(simp only[rH]<;>omega)|fail) only[↓ig,rQ,N3,sevalprocAttr,J,O,X,f8,f9,z])
    all_goals (try rfl)
    rw[<-S];congr 1<;>omega
   .rw[if_neg (fun q=>U q.2)]at S;simp(maxSteps:=20000000) -dsimp (disch:=first|omega|(simp only[rH]<;>omega)|fail) only[↓ig,rQ,N3,sevalprocAttr,U];refine i9 (S▸⟨rfl,a2,a3,?_,?_,?_,?_,?_,?_,fg,fl,fn⟩)
    all_goals (try simp(maxSteps:=20000000) -dsimp (disch:=first|omega|(simp only[rH]<;>omega)|fail) only[↓ig,rQ,N3,sevalprocAttr,J,O,X,f8,f9,z])
  .have E:¬(u:Int)+h<s.size:=oM;rw[if_neg (fun q=>a4 q.1)]at S;simp(maxSteps:=20000000) -dsimp (disch:=first|omega|(simp only[rH]<;>omega)|fail) only[↓ig,rQ,N3,sevalprocAttr,D,E,J,O,z,wrap_small,ty9,ty5];refine i9 (S▸⟨rfl,a2,a3,?_,?_,?_,?_,?_,?_,fg,fl,fn⟩)
   all_goals (try simp(maxSteps:=20000000) -dsimp (disch:=first|omega|(simp only[rH]<;>omega)|fail) only[↓ig,rQ,N3,sevalprocAttr,J,O,X,f8,f9,z])
 .have D:¬(h:Int)<=i:=oM;have a1:i+1-h=0:=oM;rw[a1,aL]at S;simp(maxSteps:=20000000) -dsimp (disch:=first|omega|(simp only[rH]<;>omega)|fail) only[↓ig,rQ,N3,sevalprocAttr,D,J,O,X,f8,f9,z,wrap_small,ty9,ty5,FW,ty3];refine i9 (S▸⟨rfl,a2,a3,?_,?_,?_,?_,?_,?_,fg,fl,fn⟩)
  all_goals (try simp(maxSteps:=20000000) -dsimp (disch:=first|omega|(simp only[rH]<;>omega)|fail) only[↓ig,rQ,N3,sevalprocAttr,J,O,X,f8,f9,z])
def Sh(lo:Nat)(q:Int×Int×Int)(o:Out)(e:Env)(H:N7):Prop:=o= .ret/\e.get 4= .int .i32 q.1/\e.get 5=iV q.2.1/\e.get 6=iV q.2.2/\lo<=H.low
def Ea(s:ByteArray)(at_ i:Nat)(v:Int)(h:Nat):Int×Int×Int:=if h=i+1 then(v,h,0) else if at_+h=s.size then(0,0,7) else(0,0,2)
theorem Sb(s:ByteArray)(u i lo pb:Nat)(c:Bool)(hs:s.size<=1048576)(ha:u<=1048576)(a3:i<4)(e:Env)(H2:N7)(v:Int)(h:Nat)(O:e.get 83= .bool c)(hI:RX s u i lo pb e H2 v h):
  w7 (LE prog t6 zg e H2) (fun o e H=>(o= .normal/\lo<=H.low/\(if c then(0,0,2) else Ea s u i v h)=(0,0,2))\/Sh lo (if c then(0,0,2) else Ea s u i v h) o e H):=by
 obtain⟨a1,a2,S,U,W,f8,X,z,fg,J,fn⟩:=hI;rw[zg];cases c with
 |true=>
  simp(maxSteps:=20000000) -dsimp (disch:=first|omega|(simp only[rH]<;>omega)|fail) only[↓ig,rQ,N3,sevalprocAttr,O];exact .inr ⟨rfl,rfl,rfl,rfl,J⟩
 |false=>
  simp(maxSteps:=20000000) -dsimp (disch:=first|omega|(simp only[rH]<;>omega)|fail) only[↓ig,rQ,N3,sevalprocAttr,O,S,U,W,X,z,wrap_small,ty9];rw[Ea];by_cases k4:h=i+1
  .have D:(h:Int)=i+1:=oM;simp(maxSteps:=20000000) -dsimp (disch:=first|omega|(simp only[rH]<;>omega)|fail) only[↓ig,rQ,N3,sevalprocAttr,D,S,U,W,X,z,wrap_small,ty9];refine .inr ?_;rw[if_pos k4];exact⟨rfl,rfl,rfl,rfl,J⟩
  have D:¬(h:Int)=i+1:=oM;simp(maxSteps:=20000000) -dsimp (disch:=first|omega|(simp only[rH]<;>omega)|fail) only[↓ig,rQ,N3,sevalprocAttr,D,S,U,W,X,z,wrap_small,ty9];rw[if_neg k4];by_cases k5:u+h=s.size
  .have E:(u:Int)+h=s.size:=oM;simp(maxSteps:=20000000) -dsimp (disch:=first|omega|(simp only[rH]<;>omega)|fail) only[↓ig,rQ,N3,sevalprocAttr,E];refine .inr ?_;rw[if_pos k5];exact⟨rfl,rfl,rfl,rfl,J⟩
  .have E:¬(u:Int)+h=s.size:=oM;simp(maxSteps:=20000000) -dsimp (disch:=first|omega|(simp only[rH]<;>omega)|fail) only[↓ig,rQ,N3,sevalprocAttr,E];rw[if_neg k5];refine .inl ?_
   first|exact⟨rfl,J,rfl⟩|exact⟨J,rfl⟩|exact J
theorem Sg(s:ByteArray)(z i:Nat)(u v:Int)(h:Nat)(c:Bool)(D:c=true↔((qV v (i+1-h)).2<u\/1114111<(qV v (i+1-h)).1\/(55296<=(qV v (i+1-h)).1/\(qV v (i+1-h)).2<=57343))):
  sX s z i u v h=if c then(0,0,2) else Ea s z i v h:=by
 rw[sX,Ea];cases c
 .rw[if_neg (fun q=>by simpa using D.2 q)];simp
 .rw[if_pos (D.1 rfl)];simp
theorem Sk(s:ByteArray)(u i lo pb:Nat)(hs:s.size<=1048576)(ha:u<=1048576)(a2:i<4)(e:Env)(H2:N7)(v:Int)(h:Nat)(hI:RX s u i lo pb e H2 v h):
  w7 (LE prog t6 zj e H2) (Sh lo (sX s u i (ai i).2.2 v h)):=by
 obtain⟨E,J,W,X,f7,f8,f9,D,fg,fl,fn⟩:=hI;have go:∀(c:Bool)(e:Env)(H2:N7),e.get 83= .bool c->RX s u i lo pb e H2 v h->(c=true↔((qV v (i+1-h)).2<(ai i).2.2\/1114111<(qV v (i+1-h)).1\/(55296<=(qV v (i+1-h)).1/\(qV v (i+1-h)).2<=57343)))->
   w7 (u9 (inBlock 4 (LE prog t6 zg e H2)) (LE prog t6 RO)) (Sh lo (sX s u i (ai i).2.2 v h)):=by
  intro c e H2 a1 hI hc;rw[Sg _ _ _ _ _ _ c hc];refine cY (F:=fun z=>u9 (inBlock 4 z) (LE prog t6 RO)) (Sb s u i lo pb c hs ha a2 e H2 v h a1 hI) ?_;intro o e' H' hq;rcases hq with⟨ho,hl,hq⟩|⟨ho,q⟩
  .simp(maxSteps:=20000000) -dsimp (disch:=first|omega|(simp only[rH]<;>omega)|fail) only[↓ig,rQ,N3,sevalprocAttr,ho];rw[hq];exact⟨rfl,rfl,rfl,rfl,hl⟩
  .simp(maxSteps:=20000000) -dsimp (disch:=first|omega|(simp only[rH]<;>omega)|fail) only[↓ig,rQ,N3,sevalprocAttr,ho];exact⟨rfl,q⟩
 rw[zj];simp(maxSteps:=20000000) -dsimp (disch:=first|omega|(simp only[rH]<;>omega)|fail) only[↓ig,rQ,N3,sevalprocAttr,W,X,f7,f8,f9,D,fg,wrap_small,ty9,ty5,FW,ty3,Cv,Sa];generalize qV v (i+1-h)=us at go ⊢;by_cases O:(us).2<(ai i).2.2
 .simp(maxSteps:=20000000) -dsimp (disch:=first|omega|(simp only[rH]<;>omega)|fail) only[↓ig,rQ,N3,sevalprocAttr,O];refine go true _ _ ?_ ⟨E,J,?_,?_,?_,?_,?_,?_,fg,fl,fn⟩ (by simp [O])
  all_goals (simp(maxSteps:=20000000) -dsimp (disch:=first|omega|(simp only[rH]<;>omega)|fail) only[↓ig,rQ,N3,sevalprocAttr,W,X,f7,f8,f9,D])
 simp(maxSteps:=20000000) -dsimp (disch:=first|omega|(simp only[rH]<;>omega)|fail) only[↓ig,rQ,N3,sevalprocAttr,O];by_cases S:1114111<(us).1
 .simp(maxSteps:=20000000) -dsimp (disch:=first|omega|(simp only[rH]<;>omega)|fail) only[↓ig,rQ,N3,sevalprocAttr,O,S];refine go true _ _ ?_ ⟨E,J,?_,?_,?_,?_,?_,?_,fg,fl,fn⟩ (by simp [S])
  all_goals (simp(maxSteps:=20000000) -dsimp (disch:=first|omega|(simp only[rH]<;>omega)|fail) only[↓ig,rQ,N3,sevalprocAttr,W,X,f7,f8,f9,D])
 simp(maxSteps:=20000000) -dsimp (disch:=first|omega|(simp only[rH]<;>omega)|fail) only[↓ig,rQ,N3,sevalprocAttr,O,S];rcases hb:decide (55296<=us.1)with _|_
 .have U:=dF hb;simp(maxSteps:=20000000) -dsimp (disch:=first|omega|(simp only[rH]<;>omega)|fail) only[↓ig,rQ,N3,sevalprocAttr,O,S];refine go false _ _ ?_ ⟨E,J,?_,?_,?_,?_,?_,?_,fg,fl,fn⟩ ⟨fun q=>(Bool.false_ne_true q).elim,fun q=>by
   rcases q with q|q|q
   .exact absurd q O
   .exact absurd q S
   .exact absurd q.1 U⟩
  all_goals (simp(maxSteps:=20000000) -dsimp (disch:=first|omega|(simp only[rH]<;>omega)|fail) only[↓ig,rQ,N3,sevalprocAttr,W,X,f7,f8,f9,D])
 .have U:=dT hb;simp(maxSteps:=20000000) -dsimp (disch:=first|omega|(simp only[rH]<;>omega)|fail) only[↓ig,rQ,N3,sevalprocAttr,O,S];refine go (decide (us.2<=57343)) _ _ ?_ ⟨E,J,?_,?_,?_,?_,?_,?_,fg,fl,fn⟩ (by simp [O,S,U])
  all_goals (simp(maxSteps:=20000000) -dsimp (disch:=first|omega|(simp only[rH]<;>omega)|fail) only[↓ig,rQ,N3,sevalprocAttr,W,X,f7,f8,f9,D])
theorem RY(s:ByteArray)(u lo:Nat)(hs:s.size<=1048576)(ha:u<s.size)(r:Int×Int×Int):∀n e H2,(∃i,n=4-i/\i<=4/\e.get 0= .string s/\e.get 1= .int .i64 u/\e.get 21= .agg LK.toArray/\e.get 22= .int .i64 i/\lo<=H2.low/\lo<=H2.next/\W8 s u (4-i) i=r)->
  w7 (LE Tryz.prog t6 (.loop SC) e H2) (fun o e H2=>(o= .exit 0/\r=(0,0,2)/\lo<=H2.low)\/Sh lo r o e H2):=by
 refine i8 _ _ ?_;rintro k e H2 ⟨i,hk,hi,S,U,E,J,fl,fn,W⟩;simp(maxSteps:=20000000) -dsimp (disch:=first|omega|(simp only[rH]<;>omega)|fail) only[↓ig,rQ,N3,sevalprocAttr,S,U,E,J,ty3];rcases hb:decide ((i:Int)<4)with _|_
 .have a1:=of_decide_eq_false hb;have D:i=4:=by omega
  simp(maxSteps:=20000000) -dsimp (disch:=first|omega|(simp only[rH]<;>omega)|fail) only[↓ig,rQ,N3,sevalprocAttr];refine i9 (.inl ⟨rfl,?_,fl⟩);rw[<-W,D];rfl
 .have a1:=of_decide_eq_true hb;have D:i<4:=by omega
  have hf:4-i=(3-i)+1:=by omega
  have X:=RD i D;rw[hf,W8]at W;simp(maxSteps:=20000000) -dsimp (disch:=first|omega|(simp only[rH]<;>omega)|fail) only[↓ig,rQ,N3,sevalprocAttr,S,U,E,J,ty3,ty9,ty5,FW,Cv,Pj,X,wrap_small,D];rcases hm:decide (Go.bits .and .u8 (A3 s u) (ai i).1=(ai i).2.1)with _|_
  .have O:=of_decide_eq_false hm;rw[if_neg O]at W;simp(maxSteps:=20000000) -dsimp (disch:=first|omega|(simp only[rH]<;>omega)|fail) only[↓ig,rQ,N3,sevalprocAttr,S,U,E,J,ty3,wrap_small];refine i4 (k-1) (by omega) ⟨i+1,by omega,by omega,?_,?_,?_,?_,?_,?_,by rw[<-W];congr 1;omega⟩
   all_goals (simp(maxSteps:=20000000) -dsimp (disch:=first|omega|(simp only[rH]<;>omega)|fail) only[↓ig,rQ,N3,sevalprocAttr,S,U,E,J]<;>first|rfl|omega)
  .have O:=of_decide_eq_true hm;rw[if_pos O]at W;simp(maxSteps:=20000000) -dsimp (disch:=first|omega|(simp only[rH]<;>omega)|fail) only[↓ig,rQ,N3,sevalprocAttr,S,U,E,J,ty3,ty9,ty5,FW,Cv,Pj,wrap_small,D];refine cY (F:=fun z=>u9 (inBlock 1 (u9 (inBlock 2 z) (LE Tryz.prog t6 zj))) _) (RF s u i lo H2.next hs (by omega) D _ (i+1-1) _ _ ⟨IntKind.wrap .i32 (Go.bits .andNot .u8 (A3 s u) (ai i).1),1,rfl,⟨by omega,by omega,?_,?_,?_,?_,?_,?_,?_,?_,?_⟩,rfl⟩) ?_
   iterate 9 (simp(maxSteps:=20000000) -dsimp (disch:=first|omega|(simp only[rH]<;>omega)|fail) only[↓ig,rQ,N3,sevalprocAttr,S,U,E,J]<;>first|rfl|omega)
   rintro o e' H' ⟨ho,hI⟩;simp(maxSteps:=20000000) -dsimp (disch:=first|omega|(simp only[rH]<;>omega)|fail) only[↓ig,rQ,N3,sevalprocAttr,ho];refine cY (F:=fun z=>u9 (inBlock 1 z) _) (Sk s u i lo H2.next hs (by omega) D _ _ _ _ hI) ?_;rintro o2 e2 H3 hR;have a2:=hR.1;simp(maxSteps:=20000000) -dsimp (disch:=first|omega|(simp only[rH]<;>omega)|fail) only[↓ig,rQ,N3,sevalprocAttr,a2];refine z9 (.inr ?_);rw[<-W];exact⟨rfl,hR.2⟩
theorem RZ(H:N7)(s:ByteArray)(u:Nat)(hs:s.size<=1048576)(ha:u<=1048576):CL prog t6 157 [.string s,iV u] H=Te (dr s u):=by
 rw[j7 Ss rfl _ sM];have S:¬(u:Int)<0:=oM;simp(maxSteps:=20000000) -dsimp (disch:=first|omega|(simp only[rH]<;>omega)|fail) only[↓ig,rQ,N3,sevalprocAttr,ty9,S];rw[dr];rcases O:decide ((s.size:Int)<=u)with _|_
 .have E:=dF O;have D:u<s.size:=oM;rw[if_pos D];simp(maxSteps:=20000000) -dsimp (disch:=first|omega|(simp only[rH]<;>omega)|fail) only[↓ig,rQ,N3,sevalprocAttr,RE];refine PS (F:=fun z=>u5 _ _ _ (u9 (inBlock 0 z) _)) (RY s u H.next hs D (W8 s u 4 0) 4 _ _ ⟨0,rfl,oM,rfl,rfl,rfl,rfl,lR,lR,rfl⟩) ?_;rintro o e' H' (⟨J,hr,hl⟩|⟨J,U,W,X,hl⟩)
  .simp(maxSteps:=20000000) -dsimp (disch:=first|omega|(simp only[rH]<;>omega)|fail) only[↓ig,rQ,N3,sevalprocAttr,J];rw[hr];rfl
  .simp(maxSteps:=20000000) -dsimp (disch:=first|omega|(simp only[rH]<;>omega)|fail) only[↓ig,rQ,N3,sevalprocAttr,J,U,W,X];rfl
 .have E:=dT O;have D:¬u<s.size:=oM;rw[if_neg D];simp(maxSteps:=20000000) -dsimp (disch:=first|omega|(simp only[rH]<;>omega)|fail) only[↓ig,rQ,N3,sevalprocAttr];rfl
theorem FZ(s:ByteArray)(u n:Nat):∀k v h,u+h<=s.size->h<=(aL s u n k v h).2/\u+(aL s u n k v h).2<=s.size:=by
 intro k;induction k with
 |zero=>intro v h z;exact⟨lR,z⟩
 |succ k D=>
  intro v h z;rw[aL];split
  .rename_i c;have:=D (Go.bits .or .i32 (IntKind.wrap .i32 (v*2 ^ min (Int.toNat 6) 32)) (IntKind.wrap .i32 (Go.bits .and .u8 (A3 s (u+h)) 63))) (h+1) oM;exact⟨oM,this.2⟩
  .exact⟨lR,z⟩
theorem FY(s:ByteArray)(u:Nat)(E:u<s.size):∀k i,(W8 s u k i).2.2=0->∃h:Nat,(W8 s u k i).2.1=h/\1<=h/\u+h<=s.size:=by
 intro k;induction k with
 |zero=>intro i h;exact absurd h (by simp [W8])
 |succ k D=>
  intro i h;rw[W8]at h ⊢;split at h
  .rename_i c;rw[if_pos c];have z:=FZ s u i i (IntKind.wrap .i32 (Go.bits .andNot .u8 (A3 s u) (ai i).1)) 1 oM;rw[sX]at h ⊢;split at h
   .exact absurd h sM
   .rename_i c1;rw[if_neg c1];split at h
    .rename_i c2;rw[if_pos c2];exact⟨_,rfl,z.1,z.2⟩
    .split at h<;>exact absurd h sM
  .rename_i c;rw[if_neg c];exact D (i+1) h
theorem Ga(s:ByteArray)(u:Nat)(h:(dr s u).2.2=0):∃n:Nat,(dr s u).2.1=n/\1<=n/\u+n<=s.size:=by
 rw[dr]at h ⊢;split at h
 .rename_i c;rw[if_pos c];exact FY s u c _ _ h
 .exact absurd h sM
def CI(s:ByteArray)(at_:Nat):Int:=
 if h:at_<s.size then
  if h2:(dr s at_).2.2=0 then CI s (at_+(dr s at_).2.1.toNat) else(dr s at_).2.2
 else 0
termination_by s.size-at_
decreasing_by
 obtain⟨n,h3,h4,h5⟩:=Ga s at_ h2;rw[h3];simp only[Int.toNat_natCast];omega
theorem AY(s:ByteArray)(H:N7)(hs:s.size<=1048576)(r:Int):∀k e H2,(∃u n v cs,k=s.size-u/\u<=s.size/\n<=u/\e.get 0= .string s/\e.get 5=v/\e.get 6=iV u/\Z1 H2 H.next 1 v n cs/\i6 H.next H H2/\H.next<=H2.low/\CI s u=r)->
  w7 (LE prog t6 (.loop Sy) e H2) (fun o e H2=>∃a n v cs,Z1 H2 H.next 1 v n cs/\i6 H.next H H2/\H.next<=H2.low/\((o= .exit 0/\r=0/\e.get 5=v/\e.get 6=iV a)\/(o= .ret/\e.get 2=v/\e.get 3=iV a/\e.get 4=iV r))):=by
 refine i8 _ _ ?_;rintro k e H2 ⟨u,n,v,cs,hk,hi,hn,J,X,E,hO,O,hl,D⟩;simp(maxSteps:=20000000) -dsimp (disch:=first|omega|(simp only[rH]<;>omega)|fail) only[↓ig,rQ,N3,sevalprocAttr,J,E,ty9];rcases hb:decide ((u:Int)<s.size)with _|_
 .have a3:=dF hb;simp(maxSteps:=20000000) -dsimp (disch:=first|omega|(simp only[rH]<;>omega)|fail) only[↓ig,rQ,N3,sevalprocAttr];rw[CI,dif_neg oM]at D;refine i9 ⟨u,n,v,cs,hO,O,hl,.inl ⟨rfl,D.symm,?_,?_⟩⟩
  all_goals (simp(maxSteps:=20000000) -dsimp (disch:=first|omega|(simp only[rH]<;>omega)|fail) only[↓ig,rQ,N3,sevalprocAttr,X,E])
 .have a3:=dT hb;rw[CI,dif_pos oM]at D;have hR:=RZ H2 s u hs oM;rw[Te]at hR;simp(maxSteps:=20000000) -dsimp (disch:=first|omega|(simp only[rH]<;>omega)|fail) only[↓ig,rQ,N3,sevalprocAttr,J,E,ty9,hR,RB];rcases U:decide ((dr s u).2.2=0)with _|_
  .have z:=dF U;rw[dif_neg z]at D;simp(maxSteps:=20000000) -dsimp (disch:=first|omega|(simp only[rH]<;>omega)|fail) only[↓ig,rQ,N3,sevalprocAttr,J,X,E,ty9];refine z9 ⟨u,n,v,cs,hO,O,hl,.inr ⟨rfl,?_,?_,?_⟩⟩
   .simp(maxSteps:=20000000) -dsimp (disch:=first|omega|(simp only[rH]<;>omega)|fail) only[↓ig,rQ,N3,sevalprocAttr,X]
   .simp(maxSteps:=20000000) -dsimp (disch:=first|omega|(simp only[rH]<;>omega)|fail) only[↓ig,rQ,N3,sevalprocAttr,E]
   .simp(maxSteps:=20000000) -dsimp (disch:=first|omega|(simp only[rH]<;>omega)|fail) only[↓ig,rQ,N3,sevalprocAttr,D]
  .have z:=dT U;rw[dif_pos z]at D;obtain⟨m,W,a4,a5⟩:=Ga s u z;rw[W,Int.toNat_natCast]at D;obtain⟨v',H3,ha,a1,S⟩:=wk (P:=prog) (t:=150) FV.2.2.2.2.2.2 FW.1 FW.2.1 FW.2.2.1 oM oM (hO.push (bC [.int .i32 (dr s u).1] 1)) (c:=H2.next) (m:=1) (k:=1) (el:=[.int .i32 (dr s u).1]) j9 oM sM oM (by rw[i5];have:=O.next;omega);have a2:=(O.trans (i6.push (B:= .cells [.int .i32 (dr s u).1] true 1) O.next)).trans S;simp(maxSteps:=20000000) -dsimp (disch:=first|omega|(simp only[rH]<;>omega)|fail) only[↓ig,rQ,N3,sevalprocAttr,J,X,E,ty9,FV,FW,W,ha,wrap_small];refine i4 (k-m) oM ⟨u+m,n+1,v',_,oM,oM,oM,?_,?_,?_,a1,a2,S.low hl,D⟩
   all_goals (simp(maxSteps:=20000000) -dsimp (disch:=first|omega|(simp only[rH]<;>omega)|fail) only[↓ig,rQ,N3,sevalprocAttr,J]<;>rfl)
theorem Sj(H:N7)(s:ByteArray)(hs:s.size<=1048576):Ret (CL prog t6 144 [.string s] H) H fun w J=>∃v a n cs,w= .tuple #[v,iV a,iV (CI s 0)]/\Z1 J H.next 1 v n cs/\i6 H.next H J:=by
 rw[j7 Sr rfl _ sM];simp(maxSteps:=20000000) -dsimp (disch:=first|omega|(simp only[rH]<;>omega)|fail) only[↓ig,rQ,N3,sevalprocAttr];refine j8 (F:=fun z=>Ret (u5 _ _ _ (u9 (inBlock 0 z) _)) _ _) (AY s H hs (CI s 0) s.size _ _ ⟨0,0,_,[],rfl,oM,oM,rfl,rfl,rfl,.inl ⟨rfl,rfl,rfl⟩,i6.start H,lR,rfl⟩) ?_;rintro o e' H' ⟨a,n,v,cs,u,O,S,⟨E,hr,h5,h6⟩|⟨E,U,W,X⟩⟩
 .simp(maxSteps:=20000000) -dsimp (disch:=first|omega|(simp only[rH]<;>omega)|fail) only[↓ig,rQ,N3,sevalprocAttr,E,h5,h6];rw[hr];exact dI (fun D=>⟨v,a,n,cs,rfl,u.na (by simpa using D),i6.refl _ _⟩) ⟨v,a,n,cs,rfl,u.low _,O.ret S⟩
 .simp(maxSteps:=20000000) -dsimp (disch:=first|omega|(simp only[rH]<;>omega)|fail) only[↓ig,rQ,N3,sevalprocAttr,E,U,W,X];exact dI (fun D=>⟨v,a,n,cs,rfl,u.na (by simpa using D),i6.refl _ _⟩) ⟨v,a,n,cs,rfl,u.low _,O.ret S⟩
def Du(f:Int->Bool)(s:ByteArray)(at_:Nat):Bool:=
 if h:at_<s.size then if f (Utf8.decode s at_).1 then Du f s (at_+(Utf8.decode s at_).2) else false else true
termination_by s.size-at_
decreasing_by have:=Y3 s at_;omega
def oo:Value:= .func (.func 146) #[] #[]
theorem Fx(H2:N7)(e:Env)(r:Int)(E U:Nat)(own:Bool)(g:Bool)(S:H2.get E=some (.cells [oo] own 1))(J:e.get 6= .int .i32 r)(O:e.get 7= .bool false)(u:e.get 15=sL E 1 U)(z:e.get 16=iV 1)(D:e.get 17=iV 0):
  w7 (LE prog t6 (.loop Sz) e H2) (fun o e' H'=>o= .exit 2/\H'=H2/\e'.get 7= .bool (kD r)/\∀k,k<6\/k=11->e'.get k=e.get k):=by
 unfold w7;rw[aw];simp(maxSteps:=20000000) -dsimp (disch:=first|omega|(simp only[rH]<;>omega)|fail) only[↓ig,rQ,N3,sevalprocAttr,J,O,u,z,D,S,Ct,Pg,ty3,oo,Qe,wrap_small];rw[aw];simp(maxSteps:=20000000) -dsimp (disch:=first|omega|(simp only[rH]<;>omega)|fail) only[↓ig,rQ,N3,sevalprocAttr,J,O,u,z,D,S,Ct,Pg,ty3];refine⟨_,_,_,rfl,rfl,rfl,rfl,?_⟩;intro k W;simp only[Es]
 repeat (rw[if_neg oM])
theorem vL(s:ByteArray)(H:N7)(cb cc U:Nat)(own:Bool)(hs:s.size<=1048576)(r:Bool):∀k e H2,(∃u,k=s.size-u/\e.get 0= .string s/\e.get 1=sL cb 1 cc/\e.get 11=pT U/\H2.get cb=some (.cells [oo] own 1)/\H2.get U=some (.iter s u)/\H.next<=U/\cb≠U/\H.next<=H2.low/\H.next<=H2.next/\Du kD s u=r)->
  w7 (LE prog t6 (.loop SA) e H2) (fun o e H2=>H.next<=H2.low/\((o= .exit 0/\r=true)\/(o= .ret/\e.get 4= .bool false/\r=false))):=by
 refine i8 _ _ ?_;rintro k e H2 ⟨u,hk,f0,f1,J,hg,hi,a1,a3,hl,hn,D⟩;have a2:=u7 hi;have a5:=u7 hg;rw[Du]at D;simp(maxSteps:=20000000) -dsimp (disch:=first|omega|(simp only[rH]<;>omega)|fail) only[↓ig,rQ,N3,sevalprocAttr,f0,f1,J,hi,ty9];rcases hb:decide (u<s.size)with _|_
 .have O:=dF hb;rw[dif_neg O]at D;simp(maxSteps:=20000000) -dsimp (disch:=first|omega|(simp only[rH]<;>omega)|fail) only[↓ig,rQ,N3,sevalprocAttr];exact i9 ⟨hl,.inl ⟨rfl,D.symm⟩⟩
 .have O:=dT hb;have hd:=Y3 s u;rw[dif_pos O]at D;simp(maxSteps:=20000000) -dsimp (disch:=first|omega|(simp only[rH]<;>omega)|fail) only[↓ig,rQ,N3,sevalprocAttr,f0,f1,J,Ct];refine cY (F:=fun z=>inBlock 1 (u9 (inBlock 2 z) _)) (Fx _ _ (Utf8.decode s u).1 cb cc own true ?_ ?_ ?_ ?_ ?_ ?_) ?_
  iterate 6 (first|rfl|(simp(maxSteps:=20000000) -dsimp (disch:=first|omega|(simp only[rH]<;>omega)|fail) only[↓ig,rQ,N3,sevalprocAttr,hg];done)|(simp(maxSteps:=20000000) -dsimp (disch:=first|omega|(simp only[rH]<;>omega)|fail) only[↓ig,rQ,N3,sevalprocAttr];exact hg))
  rintro o e' H' ⟨ho,X,h7,S⟩;have g0:=(S 0 oM);have g1:=(S 1 oM);have W:=S 11 oM;simp(maxSteps:=20000000) -dsimp (disch:=first|omega|(simp only[rH]<;>omega)|fail) only[↓ig,rQ,N3,sevalprocAttr,f0,f1,J]at g0 g1 W;simp(maxSteps:=20000000) -dsimp (disch:=first|omega|(simp only[rH]<;>omega)|fail) only[↓ig,rQ,N3,sevalprocAttr,ho,h7];have E:H.next<=(H2.put U (.iter s (u+(Utf8.decode s u).2))).low:=by rw[A4];omega
  have a4:H.next<=(H2.put U (.iter s (u+(Utf8.decode s u).2))).next:=by rw[t5];omega
  rcases hc:kD (Utf8.decode s u).1 with _|_
  .simp(maxSteps:=20000000) -dsimp (disch:=first|omega|(simp only[rH]<;>omega)|fail) only[↓ig,rQ,N3,sevalprocAttr];rw[hc]at D;exact z9 ⟨by rw[X];exact E,.inr ⟨rfl,rfl,by simpa using D.symm⟩⟩
  .simp(maxSteps:=20000000) -dsimp (disch:=first|omega|(simp only[rH]<;>omega)|fail) only[↓ig,rQ,N3,sevalprocAttr];rw[hc]at D;exact i4 (k-(Utf8.decode s u).2) oM ⟨u+(Utf8.decode s u).2,oM,g0,g1,W,by rw[X,j6 oM];exact hg,by rw[X];exact j5 a2,a1,a3,by rw[X];exact E,by rw[X];exact a4,by simpa using D⟩
theorem RM(H:N7)(s:ByteArray)(u O:Nat)(own:Bool)(W:s.size<=1048576)(S:H.get u=some (.cells [oo] own 1)):CL prog t6 145 [.string s,sL u 1 O] H=some (.bool (Du kD s 0),none):=by
 have D:=u7 S;rw[j7 RP rfl _ sM];simp(maxSteps:=20000000) -dsimp (disch:=first|omega|(simp only[rH]<;>omega)|fail) only[↓ig,rQ,N3,sevalprocAttr,ty9];refine j8 (F:=fun z=>u5 _ _ _ (u9 (inBlock 0 z) _)=_) (vL s H u O H.next own W (Du kD s 0) s.size _ _ ⟨0,rfl,rfl,rfl,rfl,?_,?_,oM,oM,?_,?_,rfl⟩) ?_
 .exact(i7 (show u<H.next from D)).trans S
 .exact j9
 .exact lR
 .rw[i5];show H.next<=H.next+1;omega
 rintro o e' H' ⟨X,⟨E,J⟩|⟨E,U,J⟩⟩
 .simp(maxSteps:=20000000) -dsimp (disch:=first|omega|(simp only[rH]<;>omega)|fail) only[↓ig,rQ,N3,sevalprocAttr,E,J]
 .simp(maxSteps:=20000000) -dsimp (disch:=first|omega|(simp only[rH]<;>omega)|fail) only[↓ig,rQ,N3,sevalprocAttr,E,U,J]
def aW(s:ByteArray):Bool:=decide (CI s 0=0)&&Du kD s 0
theorem O7(H:N7)(s:ByteArray)(E:s.size<=1048576):CL prog t6 124 [.string s] H=some (.bool (aW s),none):=by
 rw[j7 SQ rfl _ sM];obtain⟨w,h,z,J,O,v,a,n,cs,rfl,W,D⟩:=Sj ⟨H.bs,H.next⟩ s E;rw[aW];simp(maxSteps:=20000000) -dsimp (disch:=first|omega|(simp only[rH]<;>omega)|fail) only[↓ig,rQ,N3,sevalprocAttr,J,O,RB];have U:=D.next;have S:=D.low;simp only[zG,uP]at U S;rcases X:decide (CI s 0=0)with _|_
 .simp(maxSteps:=20000000) -dsimp (disch:=first|omega|(simp only[rH]<;>omega)|fail) only[↓ig,rQ,N3,sevalprocAttr]
 .simp(maxSteps:=20000000) -dsimp (disch:=first|omega|(simp only[rH]<;>omega)|fail) only[↓ig,rQ,N3,sevalprocAttr,Ct,Pg];have u:=RM (z.push (bC [oo] 1)) s z.next 1 true E j9;simp only[oo]at u;simp(maxSteps:=20000000) -dsimp (disch:=first|omega|(simp only[rH]<;>omega)|fail) only[↓ig,rQ,N3,sevalprocAttr,u]
def od(s:ByteArray)(at_:Nat):Bool:=
 if h:at_<s.size then if(decide (at_=0)&& !fH (Utf8.decode s at_).1)|| !je (Utf8.decode s at_).1 then false else od s (at_+(Utf8.decode s at_).2) else true
termination_by s.size-at_
decreasing_by have:=Y3 s at_;omega
def iR(s:ByteArray):Bool:=od s 0&& !decide (s=eB)
theorem QE(s:ByteArray)(H:N7)(ib:Nat)(hs:s.size<=1048576)(r:Bool):∀k e H2,(∃u,k=s.size-u/\e.get 0= .string s/\e.get 6=pT ib/\H2.get ib=some (.iter s u)/\H.next<=ib/\H.next<=H2.low/\H.next<=H2.next/\od s u=r)->
  w7 (LE prog t6 (.loop Sx) e H2) (fun o e H2=>H.next<=H2.low/\((o= .exit 0/\e.get 0= .string s/\r=true)\/(o= .ret/\e.get 2= .bool false/\r=false))):=by
 refine i8 _ _ ?_;rintro k e H2 ⟨u,hk,D,E,hi,X,hl,hn,J⟩;have a1:=u7 hi;rw[od]at J;simp(maxSteps:=20000000) -dsimp (disch:=first|omega|(simp only[rH]<;>omega)|fail) only[↓ig,rQ,N3,sevalprocAttr,D,E,hi,ty9];rcases hb:decide (u<s.size)with _|_
 .have S:=dF hb;rw[dif_neg S]at J;simp(maxSteps:=20000000) -dsimp (disch:=first|omega|(simp only[rH]<;>omega)|fail) only[↓ig,rQ,N3,sevalprocAttr];refine i9 ⟨hl,.inl ⟨rfl,?_,J.symm⟩⟩;simp(maxSteps:=20000000) -dsimp (disch:=first|omega|(simp only[rH]<;>omega)|fail) only[↓ig,rQ,N3,sevalprocAttr,D]
 .have S:=dT hb;have hd:=Y3 s u;rw[dif_pos S]at J;have e0:decide (((u:Nat):Int)=0)=decide (u=0):=decide_eq_decide.2 oM;simp(maxSteps:=20000000) -dsimp (disch:=first|omega|(simp only[rH]<;>omega)|fail) only[↓ig,rQ,N3,sevalprocAttr,D,E,ty3,R1,dq,e0];have z:H.next<=(H2.put ib (.iter s (u+(Utf8.decode s u).2))).low:=by rw[A4];omega
  have a2:H.next<=(H2.put ib (.iter s (u+(Utf8.decode s u).2))).next:=by rw[t5];omega
  rcases U:decide (u=0)with _|_
  .rcases O:je (Utf8.decode s u).1 with _|_
   .simp(maxSteps:=20000000) -dsimp (disch:=first|omega|(simp only[rH]<;>omega)|fail) only[↓ig,rQ,N3,sevalprocAttr,D,E,ty3,R1,dq,e0,U,O];exact z9 ⟨z,.inr ⟨rfl,rfl,by rw[<-J];simp [O]⟩⟩
   .simp(maxSteps:=20000000) -dsimp (disch:=first|omega|(simp only[rH]<;>omega)|fail) only[↓ig,rQ,N3,sevalprocAttr,D,E,ty3,R1,dq,e0,U,O];exact i4 (k-(Utf8.decode s u).2) oM ⟨u+(Utf8.decode s u).2,oM,D,E,j5 a1,X,z,a2,by rw[<-J];simp [O,U]⟩
  .rcases W:fH (Utf8.decode s u).1 with _|_
   .simp(maxSteps:=20000000) -dsimp (disch:=first|omega|(simp only[rH]<;>omega)|fail) only[↓ig,rQ,N3,sevalprocAttr,D,E,ty3,R1,dq,e0,U,W];exact z9 ⟨z,.inr ⟨rfl,rfl,by rw[<-J];simp [W,U]⟩⟩
   .rcases O:je (Utf8.decode s u).1 with _|_
    .simp(maxSteps:=20000000) -dsimp (disch:=first|omega|(simp only[rH]<;>omega)|fail) only[↓ig,rQ,N3,sevalprocAttr,D,E,ty3,R1,dq,e0,U,O,W];exact z9 ⟨z,.inr ⟨rfl,rfl,by rw[<-J];simp [O]⟩⟩
    .simp(maxSteps:=20000000) -dsimp (disch:=first|omega|(simp only[rH]<;>omega)|fail) only[↓ig,rQ,N3,sevalprocAttr,D,E,ty3,R1,dq,e0,U,O,W];exact i4 (k-(Utf8.decode s u).2) oM ⟨u+(Utf8.decode s u).2,oM,D,E,j5 a1,X,z,a2,by rw[<-J];simp [O,W]⟩
theorem kn(H:N7)(s:ByteArray)(O:s.size<=1048576):CL prog t6 143 [.string s] H=some (.bool (iR s),none):=by
 rw[j7 Sq rfl _ sM];simp(maxSteps:=20000000) -dsimp (disch:=first|omega|(simp only[rH]<;>omega)|fail) only[↓ig,rQ,N3,sevalprocAttr,ty9];refine j8 (F:=fun z=>u5 _ _ _ (u9 (inBlock 0 z) _)=_) (QE s H H.next O (od s 0) s.size _ _ ⟨0,rfl,rfl,rfl,?_,oM,?_,?_,rfl⟩) ?_
 .simp(maxSteps:=20000000) -dsimp (disch:=first|omega|(simp only[rH]<;>omega)|fail) only[↓ig,rQ,N3,sevalprocAttr]
 .simp(maxSteps:=20000000) -dsimp (disch:=first|omega|(simp only[rH]<;>omega)|fail) only[↓ig,rQ,N3,sevalprocAttr]
 .simp(maxSteps:=20000000) -dsimp (disch:=first|omega|(simp only[rH]<;>omega)|fail) only[↓ig,rQ,N3,sevalprocAttr];omega
 rw[iR];rintro o e' H' ⟨S,⟨u,E,D⟩|⟨u,J,D⟩⟩
 .simp(maxSteps:=20000000) -dsimp (disch:=first|omega|(simp only[rH]<;>omega)|fail) only[↓ig,rQ,N3,sevalprocAttr,u,E,D]
 .simp(maxSteps:=20000000) -dsimp (disch:=first|omega|(simp only[rH]<;>omega)|fail) only[↓ig,rQ,N3,sevalprocAttr,u,J,D]
def yS:ByteArray:=⟨#[104,116,116,112,58,47,47,119,119,119,46,119,51,46,111,114,103,47,50,48,48,48,47,120,109,108,110,115,47]⟩
def iQ(space loc:ByteArray):Bool:=iR loc&&aW loc&&aW space&& !decide (space=yS)
theorem ch(H:N7)(a b:ByteArray)(E:a.size<=1048576)(J:b.size<=1048576):CL prog t6 122 [.agg #[.string a,.string b]] H=some (.bool (iQ a b),none):=by
 rw[j7 SP rfl _ sM];rw[iQ];rcases u:iR b with _|_
 .simp(maxSteps:=20000000) -dsimp (disch:=first|omega|(simp only[rH]<;>omega)|fail) only[↓ig,rQ,N3,sevalprocAttr,ty9,dP,kn,O7,u]
 rcases z:aW b with _|_
 .simp(maxSteps:=20000000) -dsimp (disch:=first|omega|(simp only[rH]<;>omega)|fail) only[↓ig,rQ,N3,sevalprocAttr,ty9,dP,kn,O7,u,z]
 rcases D:aW a with _|_
 .simp(maxSteps:=20000000) -dsimp (disch:=first|omega|(simp only[rH]<;>omega)|fail) only[↓ig,rQ,N3,sevalprocAttr,ty9,dP,kn,O7,u,z,D]
 simp(maxSteps:=20000000) -dsimp (disch:=first|omega|(simp only[rH]<;>omega)|fail) only[↓ig,rQ,N3,sevalprocAttr,ty9,dP,kn,O7,u,z,D];rfl
structure AtD where
 space:ByteArray
 loc:ByteArray
 val:ByteArray
def AtR(cs:LV)(a:AtD):Prop:=cs=[.string a.space,.string a.loc,.string a.val]/\a.space.size<=1048576/\a.loc.size<=1048576/\a.val.size<=1048576
def aGo:List (ByteArray×ByteArray)->List AtD->Bool
 |_,[]=>true
 |seen,a::r=>if zO (a.space,a.loc) seen|| !iQ a.space a.loc|| !aW a.val then false else aGo (seen++[(a.space,a.loc)]) r
def gH(l:List AtD):Bool:=aGo [] l&&decide (l.length<=32)
def qo(seen:List (ByteArray×ByteArray)):Blk:= .map ((seen.map fun x=>(x,.bool true)).map He)
theorem QM(u:List (ByteArray×ByteArray))(a b:ByteArray):Jw prog (some (48,4)) (some (qo u)) (.agg #[.string a,.string b]) false=some (.bool (zO (a,b) u)):=by
 have h:=Sf (P:=prog) (kt:=48) (et:=4) dP.2.2.2.2.2.2.1 dP.2.2.2.2.1 ty4.2.2.2.1 (u.map fun x=>(x,Value.bool true)) (a,b);rw[tv]at h;rw[qo];refine h.trans ?_;cases zO (a,b) u<;>rfl
theorem RV(u:List (ByteArray×ByteArray))(a b:ByteArray)(H:N7)(m:Nat)(h:zO (a,b) u=false):Qx prog (some (48,4)) (some (qo u)) H m (.agg #[.string a,.string b]) (.bool true)=some (H.put m (qo (u++[(a,b)]))):=by
 have z:mH (a,b) (u.map fun x=>(x,Value.bool true)) 0=none:=by
  have:=tv (a,b) (.bool true) u 0;rw[h]at this;cases D:mH (a,b) (u.map fun x=>(x,Value.bool true)) 0 with
  |none=>rfl
  |some q=>rw[D]at this;cases this
 have h:=Si (P:=prog) (kt:=48) (et:=4) dP.2.2.2.2.2.2.1 dP.2.2.2.2.1 H m (u.map fun x=>(x,Value.bool true)) (a,b) (.bool true) z;rw[qo,qo,List.map_append];exact h
theorem EJ(H:N7)(lo:Nat)(v:Value)(l:List AtD)(mb:Nat)(a7:lo<=H.next)(hv:SlI H lo 3 AtR v l)(hn:l.length<=1048576)(a4:H.next<=mb)(r:Bool):∀k e H2,(∃i u,k=l.length-i/\i<=l.length/\e.get 0=v/\e.get 7=v/\e.get 8=iV l.length/\e.get 9=iV i/\e.get 3= .map (some mb)/\H2.get mb=some (qo u)/\i6 H.next H H2/\H.next<=H2.low/\aGo u (l.drop i)=r)->
  w7 (LE prog t6 (.loop Sw) e H2) (fun o e H2=>H.next<=H2.low/\((o= .exit 0/\e.get 0=v/\r=true)\/(o= .ret/\e.get 2= .bool false/\r=false))):=by
 refine i8 _ _ ?_;rintro k e H2 ⟨i,u,hk,hi,U,W,f8,f9,f3,hm,hS,hl,E⟩;simp(maxSteps:=20000000) -dsimp (disch:=first|omega|(simp only[rH]<;>omega)|fail) only[↓ig,rQ,N3,sevalprocAttr,U,W,f8,f9,ty3];rcases hb:decide ((i:Int)<l.length)with _|_
 .have a2:=dF hb;have:l.drop i=[]:=dN oM;rw[this,aGo]at E;simp(maxSteps:=20000000) -dsimp (disch:=first|omega|(simp only[rH]<;>omega)|fail) only[↓ig,rQ,N3,sevalprocAttr];refine i9 ⟨hl,.inl ⟨rfl,?_,E.symm⟩⟩;simp(maxSteps:=20000000) -dsimp (disch:=first|omega|(simp only[rH]<;>omega)|fail) only[↓ig,rQ,N3,sevalprocAttr,U]
 .have a2:=dT hb;have O:i<l.length:=oM;obtain⟨a,ha⟩:∃a,l[i]?=some a:=⟨l[i],by simp [O]⟩
  have hd:l.drop i=a::l.drop (i+1):=by rw[List.drop_eq_getElem_cons O];congr 1;rw[List.getElem?_eq_getElem O]at ha;exact Option.some.inj ha
  rw[hd,aGo]at E;obtain⟨b,o,c,cs,own,S,a5,hg,a3,hr,a9,b0,b1⟩:=hv.at_ ha;have J:H2.get b=some (.cells cs own 3):=by rw[hS.get b oM];exact hg
  have D:=cq a3 hr;have a8:=u7 hm;have a6:=u7 J;have a1:=hS.next;have nt:(i:Int).toNat=i:=tN i;rw[S]at W U;refine J7 W f9 f3 J D hm @QM ?_;have z:∀B B',H.next<=((H2.push B).put H2.next B').low:=fun B B'=>by rw[A4,l9];omega
  rcases h1:zO (a.space,a.loc) u with _|_
  .rcases X:iQ a.space a.loc with _|_
   .refine J2 X @ch ?_;exact z9 ⟨z _ _,.inr ⟨rfl,rfl,by rw[<-E];simp [X]⟩⟩
   rcases h3:aW a.val with _|_
   .refine J4 X h3 @O7 @ch ?_;exact z9 ⟨z _ _,.inr ⟨rfl,rfl,by rw[<-E];simp [h3]⟩⟩
   have hu:=RV u a.space a.loc ((H2.push (bC [.string eB,.string eB,.string eB] 1)).put H2.next (bC [.string a.space,.string a.loc,.string a.val] 1)) mb h1;refine J9 f9 f3 hm X h3 @O7 @ch hu @wrap_small ?_;refine i4 (k-1) oM ⟨i+1,_,oM,oM,?_,?_,?_,rfl,?_,j5 (by rw[t5,i5];omega),(hS.trans ((i6.push a1).trans (i6.put a1))).trans (i6.put a4),?_,by rw[<-E];simp [h1,X,h3]⟩
   .rw[S];exact U
   .rw[S];exact W
   .exact f8
   .exact f3
   .rw[A4];have:=z (bC [.string eB,.string eB,.string eB] 1) (bC [.string a.space,.string a.loc,.string a.val] 1);omega
  .refine J11 U W f8 f9 f3 J D hm h1 @O7 @ch ?_;exact z9 ⟨z _ _,.inr ⟨rfl,rfl,by rw[<-E];simp [h1]⟩⟩
theorem Ml(H:N7)(lo:Nat)(v:Value)(l:List AtD)(D:lo<=H.next)(S:SlI H lo 3 AtR v l)(X:l.length<=1048576):CL prog t6 123 [v] H=some (.bool (gH l),none):=by
 obtain⟨a,c,u⟩:=S.slice;rw[j7 Sp rfl _ sM];refine J1 u ?_;have O:SlI H lo 3 AtR (.slice a l.length c) l:=by rw[<-u];exact S
 refine j8 (F:=fun z=>u5 _ _ _ (u9 (inBlock 0 z) _)=_) (EJ H lo (.slice a l.length c) l H.next D O X lR (aGo [] l) l.length _ _ ⟨0,[],rfl,oM,rfl,rfl,rfl,rfl,rfl,?_,i6.first H _,?_,rfl⟩) ?_
 .simp(maxSteps:=20000000) -dsimp (disch:=first|omega|(simp only[rH]<;>omega)|fail) only[↓ig,rQ,N3,sevalprocAttr,tyA,qo]
 .exact J1 @if_true.{1} trivial
 rw[gH];rintro o e' H' ⟨hl,⟨E,U,J⟩|⟨E,W,J⟩⟩
 .refine J3 E U J ?_;have:decide ((l.length:Int)<=32)=decide (l.length<=32):=decide_eq_decide.2 oM;rw[this]
 .exact J3 E W J trivial
structure EvD where
 kind:Int
 space:ByteArray
 loc:ByteArray
 attrs:List AtD
 text:ByteArray
def EvR(H:N7)(lo:Nat)(cs:LV)(e:EvD):Prop:=
 ∃v,cs=[iV e.kind,.string e.space,.string e.loc,v,.string e.text]/\SlI H lo 3 AtR v e.attrs/\e.space.size<=1048576/\e.loc.size<=1048576/\e.text.size<=1048576/\e.attrs.length<=1048576
theorem EvR.mono{H H':N7}{lo u:Nat}(O:∀j,j<lo->H'.get j=H.get j) (z:lo<=u) {cs:LV} {e:EvD} (h:EvR H lo cs e):EvR H' u cs e:=by
 obtain⟨v,D,E,J⟩:=h;exact⟨v,D,E.mono O z iF,J⟩
def gI(e:EvD):Bool:=
 if e.kind=1 then decide (e.text= .empty)&&iQ e.space e.loc&&gH e.attrs
 else if e.kind=2 then !decide (e.text= .empty)&&aW e.text&&(decide (e.space= .empty)&&decide (e.loc= .empty))&&decide (e.attrs.length=0)
 else if e.kind=3 then decide (e.text= .empty)&&(decide (e.space= .empty)&&decide (e.loc= .empty))&&decide (e.attrs.length=0)
 else false
theorem Na(H:N7)(lo:Nat)(cs:LV)(e:EvD)(a1:lo<=H.next)(U:EvR H lo cs e):CL prog t6 98 [.agg cs.toArray] H=some (.bool (gI e),none):=by
 obtain⟨v,rfl,U,a2,a3,a4,X⟩:=U;obtain⟨a,c,rfl⟩:=U.slice;have W:∀H',i6 H.next H H'->CL prog t6 123 [.slice a e.attrs.length c] H'=some (.bool (gH e.attrs),none):=fun H' hS=>Ml H' lo _ _ (oN (hS.next)) (U.mono (fun j hj=>hS.get j oM) lR iF) X;have E:=fun B=>W _ (i6.first H B);have n0:decide (((e.attrs.length:Nat):Int)=0)=decide (e.attrs.length=0):=decide_eq_decide.2 oM;rw[j7 Tl rfl _ sM,gI];refine J1 ty3 ?_;by_cases u:e.kind=1
 .rw[if_pos u];refine J1 u ?_;rcases S:decide (e.text=eB)with _|_
  .exact J1 u trivial
  rcases z:iQ e.space e.loc with _|_
  .exact J3 u z @ch trivial
  exact J4 u z @ch E trivial
 rw[if_neg u];by_cases J:e.kind=2
 .rw[if_pos J];refine J1 J ?_;rcases S:decide (e.text=eB)with _|_
  .rcases z:aW e.text with _|_
   .exact J2 z @O7 trivial
   rcases D:(decide (e.space=eB)&&decide (e.loc=eB))with _|_
   .exact J3 z D @O7 trivial
   exact J4 z D @O7 n0 trivial
  exact J2 J S trivial
 rw[if_neg J];by_cases O:e.kind=3
 .rw[if_pos O];refine J1 O ?_;rcases S:decide (e.text=eB)with _|_
  .exact J2 O S trivial
  rcases D:(decide (e.space=eB)&&decide (e.loc=eB))with _|_
  .exact J1 D trivial
  exact J2 D n0 trivial
 rw[if_neg O];exact J3 u J O trivial
def d7(d:Int)(k:Int):Int:=if k=1 then d+1 else if k=3 then d-1 else d
def bGo:Option Int->Int->List EvD->Bool
 |_,_,[]=>true
 |p,d,e::r=>
  if !gI e||(decide (p=none)&& !decide (e.kind=1))||(!decide (p=none)&&decide (d=0))||(decide (e.kind=2)&&decide (p=some 2)) then false
  else if 64<d7 d e.kind then false else bGo (some e.kind) (d7 d e.kind) r
def v8(l:List EvD):Bool:=bGo none 0 l
def F4(l:List EvD)(i:Nat):Option Int:=if i=0 then none else(l[i-1]?).map (·.kind)
abbrev qY(H:N7)(lo:Nat)(v:Value)(l:List EvD):Prop:=SlI H lo 5 (EvR H lo) v l
theorem qY.mono{H H':N7}{lo z:Nat}{v:Value}{l:List EvD}(h:qY H lo v l)(D:∀j,j<lo->H'.get j=H.get j) (u:lo<=z):qY H' z v l:=
 SlI.mono h D u fun _ _ q=>q.mono D u
def RI(H:N7)(v:Value)(l:List EvD)(r:Bool)(k:Nat)(e:Env)(H2:N7):Prop:=
 ∃(i:Nat)(d:Int),k=l.length-i/\i<=l.length/\ -(i:Int)<=d/\d<=64/\e.get 0=v/\e.get 6=v/\e.get 7=iV l.length/\e.get 8=iV i/\e.get 3=iV d/\i6 H.next H H2/\H.next<=H2.low/\bGo (F4 l i) d (l.drop i)=r
def RJ(H:N7)(r:Bool)(o:Out)(e:Env)(H2:N7):Prop:=H.next<=H2.low/\((o= .exit 0/\r=true)\/(o= .ret/\e.get 2= .bool false/\r=false))
theorem RL(H H2:N7)(v:Value)(l:List EvD)(D:EvD)(r:Bool)(k i:Nat)(d:Int)(e:Env)(pb:Nat)(rest:LV)
  (hk:k=l.length-i) (hi:i<l.length) (hn:l.length<=2000000) (a2: -(i:Int)<=d) (a3:d<=64) (X:e.get 0=v) (f6:e.get 6=v) (f7:e.get 7=iV l.length) (U:e.get 8=iV i) (S:e.get 3=iV d) (f5:e.get 5=pT pb)
  (hg:H2.get pb=cE (.int .i64 D.kind::rest) 1) (hS:i6 H.next H H2) (hl:H.next<=H2.low) (hp:F4 l (i+1)=some D.kind) (fu:(if 64<d7 d D.kind then false else bGo (some D.kind) (d7 d D.kind) (l.drop (i+1)))=r):
  w7 (u9 (inBlock 1 (LE prog t6 Sd e H2)) (LE prog t6 (.ops [⟨some 59,.binOp .add 3 (.tmp 8) (.const (.int .i64 1)) 3,none⟩,⟨some 8,.move (.tmp 59),none⟩])))
   (cQ k (RI H v l r) (RJ H r)):=by
 have E:∀(e':Env)(J:Int),d7 d D.kind=J->J<=64-> -((i+1:Nat):Int)<=J->e'.get 0=v->e'.get 6=v->e'.get 7=iV l.length->e'.get 8=iV ((i:Int)+1)->e'.get 3=iV J->cQ k (RI H v l r) (RJ H r) .normal e' H2:=by
  intro e' J a1 h1 h2 g0 g6 g7 g8 g3;refine i4 (k-1) oM ⟨i+1,J,oM,oM,h2,h1,g0,g6,g7,g8,g3,hS,hl,?_⟩;rw[hp,<-fu,a1,if_neg oM]
 rw[Sd];refine J2 f5 hg ?_;by_cases O:D.kind=1
 .refine J3 O S @wrap_small ?_;have z:d7 d D.kind=d+1:=by rw[d7,if_pos O]
  rcases hb:decide (64<d+1)with _|_
  .have u:=dF hb;refine J2 U @wrap_small ?_;exact E _ (d+1) z oM oM X f6 f7 rfl rfl
  .have u:=dT hb;refine J4 O S U @wrap_small ?_;exact z9 ⟨hl,.inr ⟨rfl,rfl,by rw[<-fu,z,if_pos u]⟩⟩
 by_cases W:D.kind=3
 .refine J3 W S @wrap_small ?_;have z:d7 d D.kind=d-1:=by rw[d7,if_neg O,if_pos W]
  have u:¬64<d-1:=oM;refine J3 U @wrap_small u ?_;exact E _ (d-1) z oM oM X f6 f7 rfl rfl
 .have z:d7 d D.kind=d:=by rw[d7,if_neg O,if_neg W]
  have u:¬64<d:=oM;refine J6 O W S U @wrap_small u ?_;exact E _ d z oM oM X f6 f7 rfl S
theorem RK(H:N7)(lo:Nat)(v:Value)(l:List EvD)(d4:lo<=H.next)(hv:qY H lo v l)(hn:l.length<=2000000)(r:Bool):∀k e H2,RI H v l r k e H2->w7 (LE prog t6 (.loop SN) e H2) (RJ H r):=by
 refine i8 _ _ ?_;rintro k e H2 ⟨i,d,hk,hi,c3,c4,f0,f6,f7,f8,f3,hS,hl,fu⟩;refine J2 f7 f8 ?_;rcases hb:decide ((i:Int)<l.length)with _|_
 .have c0:=dF hb;have:l.drop i=[]:=dN oM;rw[this,bGo]at fu;refine J1 @if_true.{1} ?_;exact i9 ⟨hl,.inl ⟨rfl,fu.symm⟩⟩
 .have c0:=dT hb;have a3:i<l.length:=oM;obtain⟨u,ha⟩:∃a,l[i]?=some a:=⟨l[i],by simp [a3]⟩
  have hd:l.drop i=u::l.drop (i+1):=by rw[List.drop_eq_getElem_cons a3];congr 1;rw[List.getElem?_eq_getElem a3]at ha;exact Option.some.inj ha
  rw[hd,bGo]at fu;have c7:F4 l (i+1)=some u.kind:=by rw[F4,if_neg oM,Nat.add_sub_cancel,ha];rfl
  obtain⟨b,o,c,cs,own,b6,d1,hg,c5,hr⟩:=hv.at_ ha;have a2:H2.get b=some (.cells cs own 5):=by rw[hS.get b oM];exact hg
  have d3:=u7 a2;have a6:=hS.next;obtain⟨av,b0,b9,d5,d6,d8,d9⟩:=id hr;obtain⟨aa,ac,rfl⟩:=b9.slice;have b1:=cq c5 b0;have a5:∀B O,i6 H.next H ((H2.push B).put H2.next O):=fun B O=>hS.trans ((i6.push a6).trans (i6.put a6));have d0:∀B O,CL prog t6 98 [.agg #[iV u.kind,.string u.space,.string u.loc,.slice aa u.attrs.length ac,.string u.text]] ((H2.push B).put H2.next O)=some (.bool (gI u),none):=fun B O=>by
   have:=Na ((H2.push B).put H2.next O) lo _ u (oN ((a5 B O).next)) (EvR.mono (fun j hj=>(a5 B O).get j oM) lR hr);rw[b0]at this;exact this
  have z:∀B O,H.next<=((H2.push B).put H2.next O).low:=fun B O=>by rw[A4,l9];omega
  have S:∀(e':Env)(B:Blk),e'.get 0=v->e'.get 6=v->e'.get 7=iV l.length->e'.get 8=iV i->e'.get 3=iV d->e'.get 5=pT H2.next->(!gI u||(decide (F4 l i=none)&& !decide (u.kind=1))||(!decide (F4 l i=none)&&decide (d=0))||(decide (u.kind=2)&&decide (F4 l i=some 2)))=false->
    w7 (u9 (inBlock 1 (LE prog t6 Sd e' ((H2.push B).put H2.next (bC [iV u.kind,.string u.space,.string u.loc,.slice aa u.attrs.length ac,.string u.text] 1)))) (LE prog t6 (.ops [⟨some 59,.binOp .add 3 (.tmp 8) (.const (.int .i64 1)) 3,none⟩,⟨some 8,.move (.tmp 59),none⟩]))) (cQ k (RI H v l r) (RJ H r)):=fun e' B g0 g6 g7 g8 g3 g5 c6=>
   RL H _ v l u r k i d e' H2.next _ hk a3 hn c3 c4 g0 g6 g7 g8 g3 g5 (j5 (by rw[i5];omega)) (a5 _ _) (z _ _) c7 (by rw[<-fu,c6];rfl)
  have X:∀(e':Env)(H':N7),H.next<=H'.low->e'.get 2= .bool false->(!gI u||(decide (F4 l i=none)&& !decide (u.kind=1))||(!decide (F4 l i=none)&&decide (d=0))||(decide (u.kind=2)&&decide (F4 l i=some 2)))=true->cQ k (RI H v l r) (RJ H r) .ret e' H':=fun e' H' U h2 h3=>
   z9 ⟨U,.inr ⟨rfl,h2,by rw[<-fu,h3];rfl⟩⟩
  have a4:=f6;have a1:=f0;rw[b6]at a4 a1;refine J5 a4 f8 a2 b1 d0 ?_;rcases U:gI u with _|_
  .refine J6 a1 a4 f7 f8 f3 U ?_;exact X _ _ (z _ _) rfl (by simp [U])
  rcases b2:decide ((i:Int)=0)with _|_
  .have h2:i≠0:=oN (dF b2);have J:decide (0<(i:Int))=true:=decide_eq_true oM;obtain⟨pe,a9⟩:∃a,l[i-1]?=some a:=⟨l[i-1]'oM,List.getElem?_eq_getElem oM⟩
   have D:F4 l i=some pe.kind:=by rw[F4,if_neg h2,a9];rfl
   obtain⟨b',o',c',cs',b8,b7,_,a7,d2,c9⟩:=hv.at_ a9;rw[b6]at b7;obtain⟨⟨rfl,rfl⟩,rfl⟩:(b=b'/\o=o')/\c=c':=by simpa using b7
   rw[hg]at a7;obtain⟨rfl,rfl⟩:cs=cs'/\own=b8:=by simpa using a7
   obtain⟨pv,c8,_⟩:=c9;have a8:cs[o+(i-1)*5]?=some (.int .i64 pe.kind):=by
    have:=Q3 (k:=0) oM c8
    simpa using this
   have nt:((i:Int)-1).toNat=i-1:=oM;rcases E:decide (d=0)with _|_
   .rcases W:decide (u.kind=2)with _|_
    .refine J5 f3 b2 J E W ?_;exact S _ _ f0 f6 f7 f8 f3 rfl (by simp [U,D,E,W])
    .rcases b5:decide (pe.kind=2)with _|_
     .refine J11 a1 f3 b2 J E W b5 @wrap_small nt a2 a8 ?_;exact S _ _ f0 f6 f7 f8 f3 rfl (by simp [U,D,E,W,dF b5])
     .refine J11 a1 f3 b2 J E W b5 @wrap_small nt a2 a8 ?_;exact X _ _ (z _ _) rfl (by simp [U,D,E,W,dT b5])
   .refine J4 f3 b2 J E ?_;exact X _ _ (z _ _) rfl (by simp [U,D,E])
  .have h2:i=0:=oN (dT b2);have J:decide (0<(i:Int))=false:=decide_eq_false oM;have D:F4 l i=none:=by rw[F4,if_pos h2]
   rcases E:decide (u.kind=1)with _|_
   .refine J2 b2 E ?_;exact X _ _ (z _ _) rfl (by simp [U,D,E])
   .have W:decide (u.kind=2)=false:=decide_eq_false (oN (dT E));refine J4 b2 J E W ?_;exact S _ _ f0 f6 f7 f8 f3 rfl (by simp [U,D,E,W])
theorem nU(H:N7)(lo:Nat)(v:Value)(l:List EvD)(D:lo<=H.next)(S:qY H lo v l)(W:l.length<=2000000):CL prog t6 75 [v] H=some (.bool (v8 l),none):=by
 obtain⟨a,c,u⟩:=S.slice;have O:qY H lo (.slice a l.length c) l:=by rw[<-u];exact S
 rw[j7 Tc rfl _ sM,u];refine J1 lQ ?_;refine j8 (F:=fun z=>u5 _ _ _ (u9 (inBlock 0 z) _)=_) (RK H lo _ l D O W (v8 l) l.length _ _ ⟨0,0,rfl,oM,oM,oM,rfl,rfl,rfl,rfl,rfl,i6.start H,lR,rfl⟩) ?_;rintro o e' H' ⟨X,⟨E,J⟩|⟨E,U,J⟩⟩
 .exact J2 E J trivial
 .exact J3 E U J trivial
def dep(d:Int)(l:List EvD):Int:=l.foldl (fun d e=>d7 d e.kind) d
theorem jG(d k:Int):d-1<=d7 d k/\d7 d k<=d+1:=by unfold d7;split<;>(try split)<;>omega
theorem xr:∀(l:List EvD)(d:Int),d-l.length<=dep d l/\dep d l<=d+l.length
 |[],d=>by simp [dep]
 |e::l,d=>by
  have h:=xr l (d7 d e.kind);have k:=jG d e.kind;simp only[dep,List.foldl_cons,List.length_cons]at h ⊢;omega
theorem Nd:∀(l:List EvD)(p:Option Int)(d:Int),0<=d->d<=64->(p=none->d=0)->bGo p d l=true->0<=dep d l/\dep d l<=64
 |[],p,d,h0,h1,_,_=>⟨h0,h1⟩
 |e::l,p,d,h0,h1,hp,h=>by
  rw[bGo]at h;split at h
  .cases h
  .rename_i u;split at h
   .cases h
   .rename_i z;refine Nd l (some e.kind) (d7 d e.kind) ?_ oM (fun q=>by cases q) h;have:=jG d e.kind;by_cases D:d=0
    .cases p with
     |none=>
      simp at u;have:e.kind=1:=by
       by_cases k:e.kind=1
       .exact k
       .simp [k]at u
      rw[d7,if_pos this];omega
     |some q=>simp [D]at u
    .omega
theorem Eg{l:List EvD}(h:v8 l=true):0<=dep 0 l/\dep 0 l<=64:=Nd l none 0 oM oM (fun _=>rfl) h
def vj(l:List EvD):Int:=if v8 l then dep 0 l else 0
theorem DS{H:N7}{lo:Nat}{v:Value}{l:List EvD}(hv:qY H lo v l){i:Nat}{u:EvD}(W:l[i]?=some u):
  ∃b o c cs own E J,v= .slice (some ⟨b,o,none⟩) l.length c/\b<lo/\H.get b=some (.cells cs own 5)/\o+i*5+5<=cs.length/\
   (cs.drop (o+i*5)).take 5=[iV u.kind,.string u.space,.string u.loc,.slice E u.attrs.length J,.string u.text]/\
   SlI H lo 3 AtR (.slice E u.attrs.length J) u.attrs/\u.space.size<=1048576/\u.loc.size<=1048576/\u.text.size<=1048576/\u.attrs.length<=1048576:=by
 obtain⟨b,o,c,cs,own,U,D,X,O,av,S,z,hz⟩:=hv.at_ W;obtain⟨E,J,rfl⟩:=z.slice;exact⟨b,o,c,cs,own,E,J,U,D,X,O,S,z,hz⟩
theorem S6{α:Type}{l:List α}{i:Nat}(u:i<l.length):∃a,l[i]?=some a/\l.drop i=a::l.drop (i+1):=
 ⟨l[i],List.getElem?_eq_getElem u,List.drop_eq_getElem_cons u⟩
theorem RN(H:N7)(lo:Nat)(v:Value)(l:List EvD)(b2:lo<=H.next)(hv:qY H lo v l)(hn:l.length<=2000000)(r:Int):
  ∀k e H2,(∃(i:Nat)(d:Int),k=l.length-i/\i<=l.length/\ -(i:Int)<=d/\d<=i/\e.get 9=v/\e.get 10=iV l.length/\e.get 11=iV i/\e.get 3=iV d/\i6 H.next H H2/\H.next<=H2.low/\dep d (l.drop i)=r)->
  w7 (LE prog t6 (.loop SO) e H2) (fun o e H2=>H.next<=H2.low/\o= .exit 0/\e.get 3=iV r):=by
 refine i8 _ _ ?_;rintro k e H2 ⟨i,d,hk,hi,b0,b1,f9,D,u,f3,hS,hl,fu⟩;refine J2 D u ?_;rcases hb:decide ((i:Int)<l.length)with _|_
 .have a3:=dF hb;have:l.drop i=[]:=dN oM;rw[this]at fu;refine J1 @if_true.{1} ?_;refine i9 ⟨hl,rfl,?_⟩;rw[<-fu];exact f3
 .have a3:=dT hb;obtain⟨z,ha,hd⟩:=S6 (l:=l) (i:=i) oM;rw[hd]at fu;obtain⟨b,o,c,cs,own,aa,ac,a6,a7,hg,a4,a5,a8,_⟩:=DS hv ha;have W:H2.get b=some (.cells cs own 5):=by rw[hS.get b oM];exact hg
  have a9:=u7 W;have U:=hS.next;have X:=cq a4 a5;have S:=f9;rw[a6]at S;have hr:=jG d z.kind;have J:∀(e':Env) B B',e'.get 9=v->e'.get 10=iV l.length->e'.get 11=iV ((i:Int)+1)->e'.get 3=iV (d7 d z.kind)->
    cQ k (fun k e H2=>∃(i:Nat)(d:Int),k=l.length-i/\i<=l.length/\ -(i:Int)<=d/\d<=i/\e.get 9=v/\e.get 10=iV l.length/\e.get 11=iV i/\e.get 3=iV d/\i6 H.next H H2/\H.next<=H2.low/\dep d (l.drop i)=r) (fun o e H2=>H.next<=H2.low/\o= .exit 0/\e.get 3=iV r) .normal e' ((H2.push B).put H2.next B'):=fun e' B B' g9 a1 a2 g3=>
   i4 (k-1) oM ⟨i+1,d7 d z.kind,oM,oM,oM,oM,g9,a1,a2,g3,hS.trans ((i6.push U).trans (i6.put U)),by rw[A4,l9];omega,fu⟩
  refine J4 S u W X ?_;by_cases k1:z.kind=1
  .have E:decide (z.kind=1)=true:=decide_eq_true k1;refine J4 u f3 E @wrap_small ?_;exact J _ _ _ f9 D rfl (by rw[d7,if_pos k1];rfl)
  have E:decide (z.kind=1)=false:=decide_eq_false k1;by_cases k3:z.kind=3
  .have O:decide (z.kind=3)=true:=decide_eq_true k3;refine J5 u f3 E O @wrap_small ?_;exact J _ _ _ f9 D rfl (by rw[d7,if_neg k1,if_pos k3];rfl)
  have O:decide (z.kind=3)=false:=decide_eq_false k3;refine J4 u E O @wrap_small ?_;exact J _ _ _ f9 D rfl (by rw[d7,if_neg k1,if_neg k3];exact f3)
theorem MY(H:N7)(lo:Nat)(v:Value)(l:List EvD)(u:lo<=H.next)(S:qY H lo v l)(O:l.length<=2000000):CL Tryz.prog t6 76 [v] H=some (.int .i64 (vj l),none):=by
 obtain⟨a,c,E⟩:=S.slice;have D:qY H lo (.slice a l.length c) l:=by rw[<-E];exact S
 have J:=nU ⟨H.bs,H.next⟩ lo _ l u (D.mono (fun _ _=>rfl) (Nat.le_refl _)) O;rw[j7 Td rfl _ (by simp),E,vj];simp(maxSteps:=20000000) -dsimp (disch:=first|omega|(simp only[rH]<;>omega)|fail) only[↓ig,rQ,N3,sevalprocAttr,J];rcases U:v8 l with _|_
 .simp(maxSteps:=20000000) -dsimp (disch:=first|omega|(simp only[rH]<;>omega)|fail) only[↓ig,rQ,N3,sevalprocAttr,U]
  try rfl
 .simp(maxSteps:=20000000) -dsimp (disch:=first|omega|(simp only[rH]<;>omega)|fail) only[↓ig,rQ,N3,sevalprocAttr,lQ];refine j8 (F:=fun z=>u5 _ _ _ (u9 (inBlock 0 z) _)=_) (RN H lo _ l u D O (dep 0 l) l.length _ _ ⟨0,0,rfl,by omega,by omega,by omega,rfl,rfl,rfl,rfl,i6.start H,Nat.le_refl _,rfl⟩) ?_;rintro o e' H' ⟨hl,X,W⟩;simp(maxSteps:=20000000) -dsimp (disch:=first|omega|(simp only[rH]<;>omega)|fail) only[↓ig,rQ,N3,sevalprocAttr,X,W]
def qe(l:List EvD):Bool:=decide (0<l.length)&&v8 l&&decide (vj l=0)
theorem Nb(H:N7)(lo:Nat)(v:Value)(l:List EvD)(z:lo<=H.next)(W:qY H lo v l)(U:l.length<=2000000):CL prog t6 47 [v] H=some (.bool (qe l),none):=by
 obtain⟨a,c,E⟩:=W.slice;have O:qY H lo (.slice a l.length c) l:=by rw[<-E];exact W
 have D:qY ⟨H.bs,H.next⟩ lo (.slice a l.length c) l:=O.mono (fun _ _=>rfl) lR;have u:=nU ⟨H.bs,H.next⟩ lo _ l z D U;have J:=MY ⟨H.bs,H.next⟩ lo _ l z D U;have hd:decide (0<((l.length:Nat):Int))=decide (0<l.length):=decide_eq_decide.2 oM;rw[j7 Tk rfl _ sM,E,qe];refine J1 hd ?_;rcases X:decide (0<l.length)with _|_
 .exact J1 X trivial
 rcases S:v8 l with _|_
 .exact J2 u S trivial
 exact J3 u S J trivial
def F5:Nat->List EvD->List Nat
 |_,[]=>[]
 |i,e::l=>if e.kind=3 then F5 (i+1) l else i::F5 (i+1) l
def AZ(l:List EvD):List Nat:=if v8 l then F5 0 l else []
def Qg(i:Nat):Value:=iV i
theorem Ju(H:N7)(lo:Nat)(v:Value)(l:List EvD)(b6:lo<=H.next)(hv:qY H lo v l)(hn:l.length<=2000000)(r:List Nat):
  ∀k e H2,(∃(i:Nat)(w:Value)(z:List Nat),k=l.length-i/\i<=l.length/\z.length<=i/\e.get 9=v/\e.get 10=iV l.length/\e.get 11=iV i/\e.get 3=w/\Z1 H2 H.next 1 w z.length (z.map Qg)/\i6 H.next H H2/\H.next<=H2.low/\z++F5 i (l.drop i)=r)->
  w7 (LE prog t6 (.loop SK) e H2) (fun o e H2=>o= .exit 0/\∃w,e.get 3=w/\H.next<=H2.low/\Z1 H2 H.next 1 w r.length (r.map Qg)/\i6 H.next H H2):=by
 refine i8 _ _ ?_;rintro k e H2 ⟨i,w,z,hk,hi,b7,f9,J,D,f3,hO,hS,hl,O⟩;refine J2 J D ?_;rcases hb:decide ((i:Int)<l.length)with _|_
 .have a8:=dF hb;have:l.drop i=[]:=dN oM;rw[this,F5,List.append_nil]at O;refine J1 @if_true.{1} ?_;refine i9 ⟨rfl,w,f3,hl,?_,hS⟩;rw[<-O];exact hO
 .have a8:=dT hb;obtain⟨E,ha,hd⟩:=S6 (l:=l) (i:=i) oM;rw[hd,F5]at O;obtain⟨b,o,c,cs,own,aa,ac,b2,b3,hg,b0,b1,b4,_⟩:=DS hv ha;have a3:H2.get b=some (.cells cs own 5):=by rw[hS.get b oM];exact hg
  have b5:=u7 a3;have a2:=hS.next;have a5:=cq b0 b1;have U:=f9;rw[b2]at U;have a1:∀B u,i6 H.next H ((H2.push B).put H2.next u):=fun B u=>hS.trans ((i6.push a2).trans (i6.put a2));have a4:∀B u,H.next<=((H2.push B).put H2.next u).low:=fun B u=>by rw[A4,l9];omega
  have W:∀B u,Z1 ((H2.push B).put H2.next u) H.next 1 w z.length (z.map Qg):=fun B u=>(hO.push B).put u (by
   intro q hq;rcases hO with⟨h0,_⟩|⟨q2,h1,h2,_⟩
   .rw[hq]at h0;cases h0
   .rw[hq]at h1;have:q=q2:=by simpa using h1
    have:=u7 h2;omega)
  refine J4 U D a3 a5 ?_;by_cases k3:E.kind=3
  .have S:decide (E.kind=3)=true:=decide_eq_true k3;rw[if_pos k3]at O;refine J3 D S @wrap_small ?_;exact i4 (k-1) oM ⟨i+1,w,z,oM,oM,oM,f9,J,rfl,f3,W _ _,a1 _ _,a4 _ _,O⟩
  .have S:decide (E.kind=3)=false:=decide_eq_false k3;rw[if_neg k3]at O;have key:∀B u,∃v' H',C2 prog (((H2.push B).put H2.next u).push (bC [iV i] 1)) [29,29] w (sL (H2.next+1) 1 1)=some (v',some H')/\Z1 H' H.next 1 v' (z.length+1) (z.map Qg++[iV i])/\i6 H.next (((H2.push B).put H2.next u).push (bC [iV i] 1)) H':=fun B u=>
    wk (P:=prog) (t:=29) CE.2.2.2.2.2.2 ty3.1 ty3.2.1 ty3.2.2.1 oM oM ((W B u).push _) (c:=H2.next+1) (m:=1) (k:=1) (el:=[iV i]) (y7 (by rw[t5,i5];omega)) oM sM oM (by rw[i5,t5,i5];omega)
   obtain⟨v',H',a7,a6,X⟩:=key (bC [iV 0,.string eB,.string eB,nS,.string eB] 1) (bC [iV E.kind,.string E.space,.string E.loc,.slice aa E.attrs.length ac,.string E.text] 1);refine J5 D f3 S @wrap_small a7 ?_;have a9:H.next<=H'.low:=X.low (by rw[l9];exact a4 _ _);refine i4 (k-1) oM ⟨i+1,v',z++[i],oM,oM,by simp;omega,f9,J,rfl,rfl,by simpa [Qg] using a6,((a1 _ _).trans (i6.push (by rw[t5,i5];omega))).trans X,a9,by rw[<-O];simp⟩
theorem MZ(H:N7)(lo:Nat)(v:Value)(l:List EvD)(u:lo<=H.next)(hv:qY H lo v l)(X:l.length<=2000000):Ret (CL prog t6 48 [v] H) H fun w U=>Z1 U H.next 1 w (AZ l).length ((AZ l).map Qg)/\i6 H.next H U:=by
 obtain⟨a,c,J⟩:=hv.slice;have E:qY H lo (.slice a l.length c) l:=by rw[<-J];exact hv
 have O:=nU ⟨H.bs,H.next⟩ lo _ l u (E.mono (fun _ _=>rfl) lR) X;rw[j7 Tb rfl _ sM,J,AZ];refine J1 O ?_;rcases h1:v8 l with _|_
 .refine J1 h1 ?_;exact⟨_,none,H,rfl,rfl,.inl ⟨rfl,rfl,rfl⟩,i6.refl _ _⟩
 .refine J1 lQ ?_;refine j8 (F:=fun z=>Ret (u5 _ _ _ (u9 (inBlock 0 z) _)) _ _) (Ju H lo _ l u E X (F5 0 l) l.length _ _ ⟨0,_,[],rfl,oM,by simp,rfl,rfl,rfl,rfl,.inl ⟨rfl,rfl,rfl⟩,i6.start H,lR,rfl⟩) ?_;rintro o e' H' ⟨ho,w,h3,hl,W,hS⟩;refine J2 ho h3 ?_;refine E1 (fun D _=>⟨?_,i6.refl _ _⟩) ⟨W.low _,hS.ret hl⟩;rcases W with⟨S,q2,q3⟩|⟨b,S,_⟩
  .exact .inl ⟨S,q2,q3⟩
  .rw[S]at D;cases D
inductive Q where
 |mk (op:Int) (sp lc vl:ByteArray) (a b:List Q)
namespace Q
def op:Q->Int| .mk o _ _ _ _ _=>o
def sp:Q->ByteArray| .mk _ s _ _ _ _=>s
def lc:Q->ByteArray| .mk _ _ c _ _ _=>c
def vl:Q->ByteArray| .mk _ _ _ v _ _=>v
def a:Q->List Q| .mk _ _ _ _ a _=>a
def b:Q->List Q| .mk _ _ _ _ _ b=>b
end Q
def qSz(f:Bool):Nat:=if f then 6 else 3
def QR(H:N7)(lo:Nat):Nat->Bool->LV->Q->Prop
 |0,_,_,_=>False
 |k+1,f,cs,q=>∃v w,cs=(if f then [iV q.op,.string q.sp,.string q.lc,.string q.vl,v,w] else [iV q.op,v,w])/\
   SlI H lo (qSz f) (QR H lo k f) v q.a/\SlI H lo (qSz !f) (QR H lo k !f) w q.b/\q.a.length<=1048576/\q.b.length<=1048576/\q.sp.size<=1048576/\q.lc.size<=1048576/\q.vl.size<=1048576/\(f=false->q.sp=eB/\q.lc=eB/\q.vl=eB)
theorem QR.mono{H H':N7}{lo z:Nat}(D:∀j,j<lo->H'.get j=H.get j) (u:lo<=z):∀{k:Nat}{f:Bool}{cs:LV}{q:Q},QR H lo k f cs q->QR H' z k f cs q:=by
 intro k;induction k with
 |zero=>intro f cs q h;exact h.elim
 |succ k E=>
  intro f cs q h;obtain⟨v,w,J,O,S,U⟩:=h;exact⟨v,w,J,O.mono D u (fun _ _ h=>E h),S.mono D u (fun _ _ h=>E h),U⟩
theorem QR.len{H:N7}{lo k:Nat}{f:Bool}{cs:LV}{q:Q}(h:QR H lo k f cs q):cs.length=qSz f:=by
 cases k with
 |zero=>exact h.elim
 |succ k=>obtain⟨v,w,rfl,_⟩:=h;cases f<;>rfl
theorem QR.stay{H H':N7}{lo:Nat}(u:i6 lo H H'){k:Nat}{f:Bool}{cs:LV}{q:Q}(h:QR H lo k f cs q):QR H' lo k f cs q:=h.mono (fun j z=>u.get j z) lR
theorem QR.plain{H:N7}{lo k:Nat}{f:Bool}{cs:LV}{q:Q}(h:QR H lo k f cs q)(z:f=false):q.sp=eB/\q.lc=eB/\q.vl=eB:=by
 cases k with
 |zero=>exact h.elim
 |succ k=>obtain⟨v,w,D,E,J,O,S,U,W,X,u⟩:=h;exact u z
abbrev QsR(H:N7)(lo k:Nat)(f:Bool)(v:Value)(l:List Q):Prop:=SlI H lo (qSz f) (QR H lo k f) v l
theorem QsR.mono{H H':N7}{lo z k:Nat}{f:Bool}{v:Value}{l:List Q}(h:QsR H lo k f v l)(D:∀j,j<lo->H'.get j=H.get j) (u:lo<=z):QsR H' z k f v l:=SlI.mono h D u (fun _ _ h=>h.mono D u)
theorem QR.path{H:N7}{lo k:Nat}{cs:LV}{q:Q}(h:QR H lo (k+1) false cs q):∃z ca D u,cs=[iV q.op,.slice z q.a.length ca,.slice D q.b.length u]/\QsR H lo k false (.slice z q.a.length ca) q.a/\QsR H lo k true (.slice D q.b.length u) q.b/\q.a.length<=1048576/\q.b.length<=1048576:=by
 obtain⟨v,w,O,E,J,S,U,_⟩:=h;obtain⟨z,ca,rfl⟩:=E.slice;obtain⟨D,u,rfl⟩:=J.slice;exact⟨z,ca,D,u,O,E,J,S,U⟩
theorem QR.filter{H:N7}{lo k:Nat}{cs:LV}{q:Q}(h:QR H lo (k+1) true cs q):∃z ca D u,cs=[iV q.op,.string q.sp,.string q.lc,.string q.vl,.slice z q.a.length ca,.slice D q.b.length u]/\QsR H lo k true (.slice z q.a.length ca) q.a/\QsR H lo k false (.slice D q.b.length u) q.b/\q.a.length<=1048576/\q.b.length<=1048576/\q.sp.size<=1048576/\q.lc.size<=1048576/\q.vl.size<=1048576:=by
 obtain⟨v,w,O,E,J,S,U,W,X,h8,_⟩:=h;obtain⟨z,ca,rfl⟩:=E.slice;obtain⟨D,u,rfl⟩:=J.slice;exact⟨z,ca,D,u,O,E,J,S,U,W,X,h8⟩
theorem QsR.row{H:N7}{lo k:Nat}{f:Bool}{z:Option Addr}{n ca:Nat}{l:List Q}(h:QsR H lo k f (.slice z n ca) l){i:Nat}(S:i<l.length):
  ∃x b o cs own el,l[i]?=some x/\l.drop i=x::l.drop (i+1)/\z=some ⟨b,o,none⟩/\b<lo/\H.get b=some (.cells cs own (qSz f))/\o+i*qSz f+qSz f<=cs.length/\ldC (some true) (some (qSz f)) (o+i*qSz f) cs=some (.agg el.toArray)/\QR H lo k f el x:=by
 obtain⟨x,D,J⟩:=S6 (l:=l) (i:=i) S;obtain⟨b,o,c,cs,own,W,E,O,u,U⟩:=h.at_ D;obtain⟨rfl,rfl,rfl⟩:z=some ⟨b,o,none⟩/\n=l.length/\ca=c:=by simpa using W
 exact⟨x,b,o,cs,own,_,D,J,rfl,E,O,u,cq u rfl,U⟩
mutual
def szQ:Q->Int->Int
 | .mk _ _ _ _ a b,m=>szL b (szL a 1 m) m
def szL:List Q->Int->Int->Int
 |[],n,_=>n
 |x::l,n,m=>if n<=m then szL l (n+szQ x (m-n)) m else n
end
theorem FT(q:Q)(m:Int):szQ q m=szL q.b (szL q.a 1 m) m:=by cases q;rw[szQ];rfl
mutual
theorem kA:∀(q:Q)(m:Int),0<=m->1<=szQ q m/\szQ q m<=m+1
 | .mk _ _ _ _ a b,m,h=>by
  rw[szQ];have h1:=oV a 1 m oM oM h;exact oV b _ m oM oM h
theorem oV:∀(l:List Q)(n m:Int),1<=n->n<=m+1->0<=m->1<=szL l n m/\szL l n m<=m+1
 |[],n,m,h0,h1,h=>by rw[szL];omega
 |x::l,n,m,h0,h1,h=>by
  rw[szL];split
  .rename_i hnm;have h2:=kA x (m-n) oM;exact oV l _ m oM oM h
  .omega
end
theorem jP(l:List Q)(n m:Int)(h:m<n):szL l n m=n:=by cases l with|nil=>rfl|cons x l=>rw[szL,if_neg oM]
end Go.Proofs.YtofbhlhamfkljaaGreatDoor.Ve
