/- A part of the claim: the evaluator and the contracts. Conditions: none here. -/
import Derived.Test.YtofbhlhamfkljaaGreatDoorPa
import Derived.LoopNIn
import Derived.OwnWalkIn
import Derived.RangeFuncCalls
import Derived.Scope
import Derived.LoopN
import Derived.RangeFuncSeq
import Derived.RangeFuncIn
import Derived.Test.YtofbhlhamfkljaaGreatDoorRows
import Derived.ChangeArms
import Derived.ChangeOld
import Derived.Test.YtofbhlhamfkljaaGreatDoorProg
import Derived.KernelRfl
set_option linter.unusedVariables false
set_option linter.unusedSimpArgs false
set_option maxHeartbeats 0
set_option maxRecDepth 1000000
namespace Go.Proofs.YtofbhlhamfkljaaGreatDoor.Ve
open Go Go.RowKit
section
variable{P:Program}{base:Bs}{w0:World}{φ:List Loc}{S:List Blk}{w:World}{nt:Nat}{e:Env}{a:Act}
theorem Z9{C:A5}(I:aB P base w0 C){ops:Array Oper}:∀{l:List Oper}{e e':Env}{H H':d9},C6 P C ops l e H=some (e',H')->Le H H':=by
 intro l;induction l with
 |nil=>intro e e' H H' h;cases h;exact Le.refl _
 |cons o l D=>
  intro e e' H H' h;simp only[C6]at h;split at h
  .cases h
  split at h
  .split at h
   .exact D h
   .rename_i v H2 z;refine Le.trans ?_ (D h);cases E:isCall o.op with
    |false=>exact jr E z
    |true=>
     obtain⟨c,f,g,first,y,_,_,_,u⟩:=U7 E z;exact(I _ _ _ _ _ u).2.1 _ rfl
   .cases h
  .exact D h
theorem T4{C:A5}(hC:aB P base w0 C){ops:Array Oper}(a9:dG nt ops=true){Q:Exit->Act->World->Prop}:∀{l:List Oper}(hl:∀o∈l,o∈ops.toList) {φ:List Loc} {e e':Env} {H H':d9} {a:Act} {w:World},
  C6 P C ops l e H=some (e',H')->ER φ nt e a->WR base w0 φ H.bs w->fk base w0 φ H w nt a.defers e' H' (Q .normal)->wpList P ops Q l a w:=by
 intro l;induction l with
 |nil=>
  intro hl φ e e' H H' a w h hE hW hp;cases h;exact hp φ a w (Ext.refl φ) hE hW (gC H) rfl
 |cons o l ih=>
  intro hl φ e e' H H' a w h hE hW hp;obtain⟨a6,a8⟩:=X3 a9 (hl o sM);have b8:∀o∈l,o∈ops.toList:=fun o ho=>hl o (by simp [ho]);simp only[C6]at h;split at h
  .cases h
  rename_i c0;rw[hE.wanted ops o (T1 a9) (by simpa using c0)]at h;unfold wpList;have b0:∀v,(a.put o.dst v).defers=a.defers:=fun v=>by unfold Act.put;split<;>rfl
  split at h
  .rename_i hw;rw[if_pos hw]
   left
   have D:∀(v:Value)(H2:d9)(v':Value)(w':World)(φ':List Loc),Le H H2->C6 P C ops l (P7 e o.dst v) H2=some (e',H')->Ext φ φ'->VR φ' v v'->WR base w0 φ' H2.bs w'->Fr φ H.bs H2.low w w'->
     wpList P ops Q l (a.put o.dst v') w':=by
    intro v H2 v' w' φ' b6 hr hx hv X a1;refine ih b8 hr ((hE.mono hx).put a8 hv) X ?_;intro φ2 a2 w2 b7 b1 b2 a4 b3;exact hp φ2 a2 w2 (hx.trans b7) b1 b2 (Fr.trans hx b6 (Z9 hC hr) hW.len a1 a4) (by rw[b3,b0])
   cases hc:isCall o.op with
   |false=>
    split at h
    .rename_i v y;obtain⟨v',hv,u⟩:=eZ hW hE a6 hc y;unfold Oper.wp;rw[u w hW.cls,Oper.upon_value];exact D v H v' w φ (Le.refl H) h (Ext.refl φ) hv hW (gC H)
    .rename_i v H2 y;obtain⟨v',w',φ',u,hx,hv,X,a1⟩:=pz hW hE a6 hc y;unfold Oper.wp;rcases u with u|⟨u,rfl⟩
     .rw[u,Oper.upon_value];exact D v H2 v' w' φ' (jr hc y) h hx hv X a1
     .rw[u,Oper.upon_skip];exact D v H2 undef w' φ' (jr hc y) h hx hv X a1
    .cases h
   |true=>
    split at h
    .rename_i v y;obtain⟨c,f,g,first,W,ho,z,hf,J⟩:=U7 hc y;obtain⟨a5,E,b5,I⟩:=eP hE a6 ho z hf;obtain⟨b4,_,b9,U⟩:=hC _ _ _ _ _ J;have a3:=U φ w _ I hW;unfold Oper.wp;rw[aR z (ty:=o.type) b5 b4 ho,Oper.upon_enter];simp only[Array.toArray_toList]at a3;refine a3.mono fun en w' O=>?_;obtain⟨rfl,a7⟩:=O;exact D v H v w' φ (Le.refl H) h (Ext.refl φ) (VR.na (b9 rfl)) a7.wr (fun b B l _ hB hd hl=>a7.same b B l hB hd hl)
    .rename_i v H2 y;obtain⟨c,f,g,first,W,ho,z,hf,J⟩:=U7 hc y;obtain⟨a5,E,b5,I⟩:=eP hE a6 ho z hf;obtain⟨b4,b6,_,U⟩:=hC _ _ _ _ _ J;have a3:=U φ w _ I hW;unfold Oper.wp;rw[aR z (ty:=o.type) b5 b4 ho,Oper.upon_enter];simp only[Array.toArray_toList]at a3;refine a3.mono fun en w' O=>?_;obtain⟨v',φ',rfl,hx,hv,X,a1⟩:=O;exact D v H2 v' w' φ' (b6 H2 rfl) h hx hv X a1
    .cases h
  .rename_i hw;rw[if_neg hw];refine ih b8 h (hE.put a8 (VR.undef' φ)) hW ?_;intro φ2 a2 w2 b7 b1 b2 a4 b3;exact hp φ2 a2 w2 b7 b1 b2 a4 (by rw[b3,b0])
theorem Cls.trans{y u:World}(h:Cls base w0 φ S w y)(k:Cls base w0 φ S y u):Cls base w0 φ S w u:=
 ⟨k.wr,fun b B l p q r=>(k.same b B l p q r).trans (h.same b B l p q r)⟩
def fh(P:Program)(ops:Array Oper):List Oper->Act->(Act->Prop)->Prop
 |[],a,Q=>Q a
 |o::l,a,Q=>∃v,Yields P ops o v a/\fh P ops l (a.put o.dst v) Q
theorem dw{ops:Array Oper}{Q Q':Act->Prop}(h:∀a,Q a->Q' a):∀(l:List Oper)(a:Act),fh P ops l a Q->fh P ops l a Q'
 |[],a,hq=>h a hq
 |o::l,a,⟨v,h1,h2⟩=>⟨v,h1,dw h l _ h2⟩
theorem EJ{C:A5}{o:Oper}{H:d9}{v:Value}{r:Option d9}(U:WR base w0 φ H.bs w)(z:ER φ nt e a)(y:o.op.operands.toList.all C4=true)(I:lI o.op=true)(h:aop P C o.op e H=some (v,r)):
  ∃v',VR φ v v'/\∀D,(execOp a.eval o).run P D= .ok (.value v') D:=by
 unfold aop at h;unfold execOp;unfold lI at I;split at I<;>rename_i E<;>simp only[E]at h ⊢
 all_goals first|(cases I;done)|simp only[E,Op.operands,List.all_cons,List.all_nil,Bool.and_true,Bool.and_eq_true]at y
 .cases h;exact⟨_,z.op y,fun D=>rfl⟩
 .cases h;exact⟨_,z.op y,fun D=>rfl⟩
 .rename_i t x lo W X;obtain⟨h,_⟩:=D5 h;have u:C4 x=true/\lo.toList.all C4=true/\W.toList.all C4=true/\X.toList.all C4=true:=by
   simp only[Array.toList_append,List.all_append,Bool.and_eq_true,Option.toList_toArray,List.all_cons,List.all_nil,Bool.and_true]at y
   simpa [and_assoc] using y
  obtain⟨v',J,O⟩:=jy U h (z.op u.1) (z.opt u.2.1) (z.opt u.2.2.1) (z.opt u.2.2.2);exact⟨v',J,fun D=>by simp [O D]⟩
theorem mh{ops:Array Oper}{md:Region.Mode}{g:Nat}{Q:Exit->Act->World->Prop}{w:World}(hs:Region.noSelect ops=true)(I:∀c a w,¬Q (.panic c) a w):
  ∀(l:List Oper)(k:Nat)(u:Array Bool)(a:Act),(∀j,j<l.length->l[j]?=ops[k+j]?)->Region.lexHead md ops g l.length k u=true->
   fh P ops l a (fun E=>∀y,Region.seqB md ops g (k+l.length) y=true->wpAny P md ops Q g y E w)->wpAny P md ops Q (l.length+g) u a w
 |[],k,u,a,_,hB,h=>by
  rw[List.length_nil,Nat.zero_add];exact h u (by simpa [Region.lexHead] using hB)
 |o::l,k,u,a,hl,hB,⟨v,hy,h⟩=>by
  have J:ops[k]?=some o:=by simpa using (hl 0 sM).symm
  simp only[List.length_cons,Region.lexHead,Bool.and_eq_true]at hB;obtain⟨⟨W,O⟩,z⟩:=hB;rw[List.length_cons,show l.length+1+g=(l.length+g)+1 from oM];refine wpAny_take J hs O W (fun c a w q=>absurd q (I c _ w)) hy ?_;refine mh hs I l (k+1) _ _ (fun j X=>by have:=hl (j+1) (by simp;omega);simpa [Nat.add_assoc,Nat.add_comm 1 j] using this) z ?_;refine dw (fun E U y D=>U y ?_) l _ h;rw[List.length_cons,show k+(l.length+1)=k+1+l.length from oM];exact D
theorem mi{id:Nat}{Q:Exit->Act->World->Prop}{a:Act}{w:World}{l:List Oper}(n:Nat)(hm:P.follows .mixedOrders=true)(J:pureTailB l.toArray n=true)(X:∀c a w,¬Q (.panic c) a w)
  (h:fh P l.toArray (l.take n) a (fun a'=>wpList P l.toArray Q (l.drop n) a' {w with drawn:=w.drawn+1})):(Code.region id l.toArray true).wp P Q a w:=by
 simp only[pureTailB,Bool.and_eq_true,decide_eq_true_eq]at J;obtain⟨⟨⟨E,hn⟩,_⟩,D⟩:=J;have a1:n<l.length:=by simpa using hn
 have y:(l.take n).length=n:=by simp;omega
 have z:(l.drop n).length=l.toArray.size-n:=sM;refine wp_region_any hm ?_;have:=mh (P:=P) (md:= .any) (g:=l.toArray.size-n) (Q:=Q) (w:={w with drawn:=w.drawn+1}) E X (l.take n) 0 (Array.replicate l.toArray.size false) a (fun j U=>by
  have I:j<n:=by rw[y]at U;exact U
  simp [I]) (by rw[y];exact D) (by
  refine dw (fun a' W u O=>?_) _ _ h;have:=wpAny_of_seq (md:= .any) (Q':=Q) (l.drop n) n u a' {w with drawn:=w.drawn+1} (fun j=>by simp [List.getElem?_drop]) (by rw[z];rw[Nat.zero_add,y]at O;exact O) W
  rwa [z]at this)
 rw[y,show n+(l.toArray.size-n)=l.toArray.size from oM]at this;exact this
theorem tm{C:A5}(hC:aB P base w0 C){ops:Array Oper}(y:dG nt ops=true){H:d9}(hW:WR base w0 φ H.bs w):∀{l:List Oper}(hl:∀o∈l,o∈ops.toList) {i:Nat} {q:Bool} {e e':Env} {H':d9},
  F9 P C ops i q l e H=some (e',H')->
  (Region.lexB .any ops=true/\H'=H/\∀a,ER φ nt e a->∀Q:Act->Prop,(∀a',ER φ nt e' a'->a'.defers=a.defers->Q a')->wpQuiet P ops (Cls base w0 φ H.bs w) Q l a)\/
  (∃m e1,q=false/\vS ops (i+m)=true/\C6 P C ops (l.drop m) e1 H=some (e',H')/\
   (∀a,ER φ nt e a->(∀o∈l.take m,o.guard=none/\lI o.op=true)->∀Q:Act->Prop,(∀a1,ER φ nt e1 a1->a1.defers=a.defers->Q a1)->fh P ops (l.take m) a Q)/\
   ∀w1,Cls base w0 φ H.bs w w1->∀a,ER φ nt e a->∀Q:Act->Prop,(∀a1,ER φ nt e1 a1->a1.defers=a.defers->Q a1)->wpStill P ops w1 Q (l.take m) a):=by
 intro l;induction l with
 |nil=>
  intro hl i q e e' H' h;simp only[F9]at h;split at h
  .rename_i hB;cases h;exact .inl ⟨hB,rfl,fun a u Q I=>I a u rfl⟩
  .cases h
 |cons o l ih=>
  intro hl i q e e' H' h;obtain⟨a4,z⟩:=X3 y (hl o sM);have b0:∀o∈l,o∈ops.toList:=fun o ho=>hl o (by simp [ho]);have c4:=h;simp only[F9]at h;split at h
  .cases h
  rename_i b5;have D:U0 ops e o=false:=by simpa using b5
  split at h
  .rename_i hw;split at h
   .rename_i v U;cases hc:isCall o.op with
    |false=>
     rw[hc,Bool.or_false]at h;rcases ih b0 h with⟨hB,hH,hq⟩|⟨m,e1,a3,hB,hr,b6,b2⟩
     .refine .inl ⟨hB,hH,fun a u Q I=>?_⟩;obtain⟨v',hv,J⟩:=eZ hW u a4 hc U;unfold wpQuiet;rw[if_pos (by rw[<-u.wanted ops o (T1 y) D];exact hw)];refine⟨v',fun w1 E=>?_,hq _ (u.put z hv) Q (fun a' W X=>I a' W (by rw[X,N1]))⟩;unfold Oper.quietAt;rw[J w1 E];exact⟨rfl,rfl⟩
     .refine .inr ⟨m+1,e1,a3,by rw[show i+(m+1)=i+1+m from oM];exact hB,by simpa using hr,fun a u hP Q I=>?_,fun w1 E a u Q I=>?_⟩
      .have a7:=hP o sM;obtain⟨v',hv,J⟩:=EJ hW u a4 a7.2 U;simp only[List.take_succ_cons];refine⟨v',.inl ⟨by rw[<-u.wanted ops o (T1 y) D];exact hw,J⟩,?_⟩;exact b6 _ (u.put z hv) (fun o' c3=>hP o' (by simp [c3])) Q (fun a' W X=>I a' W (by rw[X,N1]))
      obtain⟨v',hv,J⟩:=eZ hW u a4 hc U;simp only[List.take_succ_cons];unfold wpStill;rw[if_pos (by rw[<-u.wanted ops o (T1 y) D];exact hw)];unfold Oper.still;rw[J w1 E,Oper.stillUpon_value];exact b2 w1 E _ (u.put z hv) Q (fun a' W X=>I a' W (by rw[X,N1]))
    |true=>
     rw[hc,Bool.or_true]at h;rcases ih b0 h with⟨hB,hH,hq⟩|⟨m,e1,a3,_⟩
     .refine .inl ⟨hB,hH,fun a u Q I=>?_⟩;obtain⟨c,f,g,first,b3,ho,a5,hf,a9⟩:=U7 hc U;obtain⟨b7,a6,b9,a8⟩:=eP u a4 ho a5 hf;obtain⟨b8,_,c0,b1⟩:=hC _ _ _ _ _ a9;unfold wpQuiet;rw[if_pos (by rw[<-u.wanted ops o (T1 y) D];exact hw)];refine⟨v,fun w1 E=>?_,hq _ (u.put z (VR.na (c0 rfl))) Q (fun a' W X=>I a' W (by rw[X,N1]))⟩;unfold Oper.quietAt;rw[aR a5 (ty:=o.type) b9 b8 ho];have b4:=b1 φ w1 _ a8 E.wr;simp only[Array.toArray_toList]at b4;exact⟨rfl,b4.mono fun en w2 a2=>⟨a2.1,E.trans a2.2⟩⟩
     .cases a3
   .rename_i v H2 U;split at h
    .rename_i O;simp only[Bool.and_eq_true,Bool.not_eq_true']at O;refine .inr ⟨0,e,O.1,O.2,?_,fun a u _ Q I=>I a u rfl,fun w1 _ a u Q I=>I a u rfl⟩;simp only[List.drop_zero,C6,if_neg b5,hw,if_true,U];exact h
    .cases h
   .cases h
  .rename_i hw;rcases ih b0 h with⟨hB,hH,hq⟩|⟨m,e1,a3,hB,hr,b6,b2⟩
   .refine .inl ⟨hB,hH,fun a u Q I=>?_⟩;unfold wpQuiet;rw[if_neg (by rw[<-u.wanted ops o (T1 y) D];exact hw)];exact hq _ (u.put z (VR.undef' φ)) Q (fun a' W X=>I a' W (by rw[X,N1]))
   .refine .inr ⟨m+1,e1,a3,by rw[show i+(m+1)=i+1+m from oM];exact hB,by simpa using hr,fun a u hP Q I=>?_,fun w1 E a u Q I=>?_⟩
    .have a7:=hP o sM;exact absurd (by simp [D6,a7.1]) hw
    simp only[List.take_succ_cons];unfold wpStill;rw[if_neg (by rw[<-u.wanted ops o (T1 y) D];exact hw)];exact b2 w1 E _ (u.put z (VR.undef' φ)) Q (fun a' W X=>I a' W (by rw[X,N1]))
theorem Dc{C:A5}(D:aB P base w0 C){ops:Array Oper}:∀{l:List Oper}{i:Nat}{q:Bool}{e e':Env}{H H':d9},F9 P C ops i q l e H=some (e',H')->Le H H':=by
 intro l;induction l with
 |nil=>
  intro i q e e' H H' h;simp only[F9]at h;split at h
  .cases h;exact Le.refl _
  .cases h
 |cons o l I=>
  intro i q e e' H H' h;simp only[F9]at h;split at h
  .cases h
  split at h
  .split at h
   .exact I h
   .rename_i v H2 z;split at h
    .refine Le.trans ?_ (Z9 D h);cases E:isCall o.op with
     |false=>exact jr E z
     |true=>
      obtain⟨c,f,g,first,y,_,_,_,u⟩:=U7 E z;exact(D _ _ _ _ _ u).2.1 _ rfl
    .cases h
   .cases h
  .exact I h
theorem ti{C:A5}(hm:P.follows .mixedOrders=true)(hC:aB P base w0 C){ops:Array Oper}(I:dG nt ops=true){Q:Exit->Act->World->Prop}{e e':Env}{H H':d9}(id:Nat)
  (h:F9 P C ops 0 false ops.toList e H=some (e',H')) (hE:ER φ nt e a) (hW:WR base w0 φ H.bs w) (hp:fk base w0 φ H w nt a.defers e' H' (Q .normal)):(Code.region id ops true).wp P Q a w:=by
 have D:Cls base w0 φ H.bs w {w with drawn:=w.drawn+1}:=hW.cls.drew;rcases tm hC I hW (fun o ho=>ho) h with⟨J,rfl,hq⟩|⟨m,e1,_,J,hr,a7,a8⟩
 .refine wp_region_quiet (C:=Cls base w0 φ H'.bs w) hm J D (hq a hE _ fun a' a6 hd w' hc=>?_);exact hp φ a' w' (Ext.refl φ) a6 hc.wr (fun b B l _ u y z=>hc.same b B l u y z) hd
 .have z:ops=ops.toList.toArray:=sM;rw[Nat.zero_add,vS,Bool.or_eq_true]at J;rcases J with J|J
  .have:=wp_region_still_tail (P:=P) (id:=id) (Q:=Q) (a:=a) (w:=w) (l:=ops.toList) m hm (by rw[<-z];exact J) (by
    rw[<-z];refine a8 _ D a hE _ fun a1 O X=>?_;refine T4 hC I (fun o ho=>List.mem_of_mem_drop ho) hr O D.wr ?_;intro φ2 a2 w2 a4 U W E a3;exact hp φ2 a2 w2 a4 U W (fun b B l hb u y z=>(E b B l hb u y z).trans (D.same b B l u y z)) (a3.trans X))
   rw[<-z]at this;exact this
  .have a5:∀o∈ops.toList.take m,o.guard=none/\lI o.op=true:=by
    have:=J;simp only[pureTailB,Bool.and_eq_true,List.all_eq_true]at this;intro o ho;have:=this.1.2 o ho;exact⟨by simpa using this.1,this.2⟩
   have:=mi (P:=P) (id:=id) (Q:=fun x a w=>x= .normal/\Q .normal a w) (a:=a) (w:=w) (l:=ops.toList) m hm (by rw[<-z];exact J) (fun c a w q=>by cases q.1) (by
    rw[<-z];refine a7 a hE a5 _ fun a1 O X=>?_;refine T4 hC I (fun o ho=>List.mem_of_mem_drop ho) hr O D.wr ?_;intro φ2 a2 w2 a4 U W E a3;exact⟨rfl,hp φ2 a2 w2 a4 U W (fun b B l hb u y z=>(E b B l hb u y z).trans (D.same b B l u y z)) (a3.trans X)⟩)
   rw[<-z]at this;exact Code.wp_mono (fun x a w q=>by obtain⟨rfl,q⟩:=q;exact q) this
theorem MX{C:A5}(D:aB P base w0 C){o:Oper}{H:d9}{v:Value}{r:Option d9}(h:aop P C o.op e H=some (v,r)):Le H (r.getD H):=by
 cases r with
 |none=>exact Le.refl _
 |some H2=>
  cases z:isCall o.op with
  |false=>exact jr z h
  |true=>
   obtain⟨c,f,g,first,y,_,_,_,u⟩:=U7 z h;exact(D _ _ _ _ _ u).2.1 _ rfl
theorem yz{C:A5}(E:aB P base w0 C){ops:Array Oper}:∀{l:List (Oper×Nat×Nat)}{t:Nat}{z:List (Nat×d9)}{u:List (Op×Env×Value×Nat)}{e e':Env}{H H':d9},I0 P C ops t z u l e H=some (e',H')->Le H H':=by
 intro l;induction l with
 |nil=>intro t z u e e' H H' h;simp only[I0,Option.some.injEq,Prod.mk.injEq]at h;rw[h.2];exact Le.refl _
 |cons o l y=>
  obtain⟨o,lo,I⟩:=o;intro t z u e e' H H' h;simp only[I0]at h;split at h
  .cases h
  split at h
  .split at h
   .split at h
    .rename_i v r D;split at h
     .exact(MX E D).trans (y h)
     .cases h
    .cases h
   .split at h
    .split at h
     .split at h
      .exact y h
      .cases h
     .exact y h
    .cases h
  .split at h
   .exact y h
   .exact y h
theorem zW{C:A5}(u:aB P base w0 C){ops:Array Oper}{e e':Env}{H H':d9}(h:Z2 P C ops e H=some (e',H')):Le H H':=by
 unfold Z2 at h;split at h
 .split at h
  .exact yz u h
  .cases h
 .exact Dc u h
theorem qq{C:A5}(I:P.follows .mixedOrders=true)(z:U3 P C){ops:Array Oper}(u:dG nt ops=true){Q:Exit->Act->World->Prop}{e e':Env}{H H':d9}(id:Nat)
  (h:Z2 P C ops e H=some (e',H')) (D:ER φ nt e a) (E:WR base w0 φ H.bs w) (J:fk base w0 φ H w nt a.defers e' H' (Q .normal)):(Code.region id ops true).wp P Q a w:=by
 unfold Z2 at h;split at h
 .split at h
  .rename_i y;exact xN I z u y id h D E J
  .cases h
 .exact ti I (z base w0) u id h D E J
theorem Le.kill(H:d9)(b:Nat):Le H (H.put b .dead):=Le.put _ _ _
def zF(ops:Array Oper):List Nat->Array Bool->Prop
 |[],listed=>Region.ready .any ops listed=[]
 |i::is,listed=>Region.ready .any ops listed=[i]/\zF ops is (listed.setIfInBounds i true)
theorem fU{ops:Array Oper}{Q:Exit->Act->World->Prop}:∀(is:List Nat)(i:Nat)(o:Oper)(y:List Oper)(u:Array Bool)(a:Act)(w:World),ops[i]?=some o->is.map (ops[·]?)=y.map some->zF ops is u->wpList P ops Q (o::y) a w->wpOp P ops Q i (wpAny P .any ops Q is.length u) a w
 |is,i,o,y,u,a,w,ho,hos,hc,h=>by
  have key:∀a w,wpList P ops Q y a w->wpAny P .any ops Q is.length u a w:=fun a w E=>by
   cases is with
   |nil=>
    cases y with
    |nil=>exact⟨hc,E⟩
    |cons I y=>simp at hos
   |cons j is=>
    cases y with
    |nil=>simp at hos
    |cons I y=>
     simp only[List.map_cons,List.cons.injEq]at hos;refine⟨fun q=>(by rw[hc.1]at q;cases q),fun k D=>?_⟩;rw[hc.1,List.mem_singleton]at D;subst D;exact fU is k I y _ a w hos.1 hos.2 hc.2 E
  unfold wpOp;simp only[ho];unfold wpList at h;split
  .rename_i z;rw[if_pos z]at h;exact h.imp (Oper.wp_mono key) id
  .rename_i z;rw[if_neg z]at h;exact key _ _ h
theorem I5{ops:Array Oper}{l:List Bool}{u:List Nat}(h:dp ops l u=true):Region.ready .any ops l.toArray=u:=dT h
theorem sT{C:A5}(hm:P.follows .mixedOrders=true)(hC:aB P base w0 C){y O U W:Oper}{ops:Array Oper}(D:ops.toList=[y,O,U,W])(X:vo ops=true)(E:dG nt ops=true){Q:Exit->Act->World->Prop}{e e1 e2:Env}{H H1 H2:d9}(id:Nat)
  (h1:C6 P C ops [y,O,U,W] e H=some (e1,H1)) (h2:C6 P C ops [y,U,O,W] e H=some (e2,H2)) (hE:ER φ nt e a) (hW:WR base w0 φ H.bs w)
  (b9:fk base w0 φ H w nt a.defers e1 H1 (Q .normal)) (c0:fk base w0 φ H w nt a.defers e2 H2 (Q .normal)):(Code.region id ops true).wp P Q a w:=by
 have c3:ops.size=4:=by have:=congrArg List.length D;simpa using this
 have g0:ops[0]?=some y:=by rw[<-Array.getElem?_toList,D];rfl
 have g1:ops[1]?=some O:=by rw[<-Array.getElem?_toList,D];rfl
 have g2:ops[2]?=some U:=by rw[<-Array.getElem?_toList,D];rfl
 have g3:ops[3]?=some W:=by rw[<-Array.getElem?_toList,D];rfl
 unfold vo at X;rw[D]at X;simp only[Bool.and_eq_true,decide_eq_true_eq]at X;obtain⟨⟨⟨⟨⟨⟨⟨⟨⟨⟨k0,k1⟩,k2⟩,k3⟩,hg⟩,r0⟩,r1⟩,r2⟩,r3⟩,r4⟩,r5⟩:=X;have m0:y∈ops.toList:=by rw[D];simp
 obtain⟨b0,a8⟩:=X3 E m0;have hc:isCall y.op=false:=by
  cases hq:y.op with
  |alloc t=>rfl
  |_=>rw[hq]at k0;cases k0
 have a5:Cls base w0 φ H.bs w {w with drawn:=w.drawn+1}:=hW.cls.drew;have b1:U0 ops e y=false:=by simp [U0,hg]
 have b2:D6 ops e y=true:=by simp [D6,hg]
 refine wp_region_any hm ?_;rw[c3];refine⟨fun q=>?_,fun i hi=>?_⟩
 .have:=I5 r0;rw[show(Array.replicate 4 false:Array Bool)=[false,false,false,false].toArray from rfl,this]at q;cases q
 rw[show(Array.replicate 4 false:Array Bool)=[false,false,false,false].toArray from rfl,I5 r0,List.mem_singleton]at hi;subst hi;rw[show((Array.replicate 4 false:Array Bool).setIfInBounds 0 true)=[true,false,false,false].toArray from rfl];simp only[C6,b1,b2,if_true,bF]at h1 h2;have rest:∀(v:Value)(Hx:d9)(v':Value)(w':World)(φ':List Loc),Le H Hx->C6 P C ops [O,U,W] (P7 e y.dst v) Hx=some (e1,H1)->C6 P C ops [U,O,W] (P7 e y.dst v) Hx=some (e2,H2)->Ext φ φ'->VR φ' v v'->WR base w0 φ' Hx.bs w'->Fr φ H.bs Hx.low w w'->
   wpAny P .any ops Q 3 [true,false,false,false].toArray (a.put y.dst v') w':=by
  intro v Hx v' w' φ' b8 q1 q2 hx hv J a6;have a7:=(hE.mono hx).put a8 hv;have b6:(a.put y.dst v').defers=a.defers:=N1 _ _ _;have a4:∀{e3:Env}{H3:d9}{l:List Oper},C6 P C ops l (P7 e y.dst v) Hx=some (e3,H3)->fk base w0 φ H w nt a.defers e3 H3 (Q .normal)->fk base w0 φ' Hx w' nt (a.put y.dst v').defers e3 H3 (Q .normal):=by
   intro e3 H3 l hr hp φ2 a2 w2 c4 b4 b5 a9 b7;exact hp φ2 a2 w2 (hx.trans c4) b4 b5 (Fr.trans hx b8 (Z9 hC hr) hW.len a6 a9) (b7.trans b6)
  have L1:=T4 hC E (Q:=Q) (l:=[O,U,W]) (fun o ho=>by rw[D];simp only[List.mem_cons,List.not_mem_nil,or_false]at ho ⊢;exact .inr ho) q1 a7 J (a4 q1 b9);have L2:=T4 hC E (Q:=Q) (l:=[U,O,W]) (fun o ho=>by rw[D];simp only[List.mem_cons,List.not_mem_nil,or_false]at ho ⊢;rcases ho with h|h|h<;>simp [h]) q2 a7 J (a4 q2 c0);refine⟨fun q=>(by rw[I5 r1]at q;cases q),fun i hi=>?_⟩;rw[I5 r1]at hi;simp only[List.mem_cons,List.not_mem_nil,or_false]at hi;rcases hi with rfl|rfl
  .exact fU [2,3] 1 O [U,W] _ _ _ g1 (by simp [g2,g3]) ⟨I5 r2,I5 r4,I5 r5⟩ L1
  .exact fU [1,3] 2 U [O,W] _ _ _ g2 (by simp [g1,g3]) ⟨I5 r3,I5 r4,I5 r5⟩ L2
 have b3:Region.wanted y (yielded ops a.tmps)=true:=by rw[<-hE.wanted ops y (T1 E) b1];exact b2
 unfold wpOp;simp only[g0,b3,if_true]
 left
 have a1:=a5.wr;cases I:aop P C y.op e H with
 |none=>rw[I]at h1;cases h1
 |some z=>
  obtain⟨v,r⟩:=z;rw[I]at h1 h2;cases r with
  |none=>
   obtain⟨v',hv,u⟩:=eZ a1 hE b0 hc I;unfold Oper.wp;rw[u _ a1.cls,Oper.upon_value];exact rest v H v' _ φ (Le.refl H) h1 h2 (Ext.refl φ) hv a1 (fun b B l _ X hd D=>a5.same b B l X hd D)
  |some H3=>
   obtain⟨v',w',φ',u,hx,hv,J,a6⟩:=pz a1 hE b0 hc I;have a3:Fr φ H.bs H3.low w w':=fun b B l hb X hd D=>(a6 b B l hb X hd D).trans (a5.same b B l X hd D);unfold Oper.wp;rcases u with u|⟨u,rfl⟩
   .rw[u,Oper.upon_value];exact rest v H3 v' w' φ' (jr hc I) h1 h2 hx hv J a3
   .rw[u,Oper.upon_skip];exact rest v H3 undef w' φ' (jr hc I) h1 h2 hx hv J a3
def Out.exit':Out->Exit
 | .normal=> .normal
 | .exit id=> .exit id
 | .ret=> .ret
theorem jd{a b:Code}{z:GR}(h:dW a b=some z):∃id ops u y D E,a= .region id ops true/\ops.toList=[u,y,D,E]/\vo ops=true/\z=⟨ops,[u,y,D,E],[u,D,y,E],ops.toList.filterMap (·.dst)++bD b⟩:=by
 unfold dW at h;split at h
 .rename_i id ops;split at h
  .rename_i u y D E J;split at h
   .rename_i I;exact⟨id,ops,u,y,D,E,rfl,J,I,(Option.some.inj h).symm⟩
   .cases h
  .cases h
 .cases h
theorem CY{a b:Code}{z:GR}(h:dW a b=some z):z.ds=bD a++bD b:=by
 obtain⟨id,ops,u,y,D,E,rfl,_,_,rfl⟩:=jd h;rfl
theorem S3{ds:List Nat}{n:Nat}{x y:Option (Out×Env×d9)}{o:Out}{e':Env}{H':d9}(h:kQ ds e n x y=some (o,e',H')):
  ∃z u D H2,x=some (.normal,z,u)/\y=some (.normal,D,H2)/\L9 n u=L9 n H2/\o= .normal/\e'=ds.map (fun d=>(d,lost))++e/\H'=L9 n u:=by
 unfold kQ at h;split at h
 .rename_i z u D H2;split at h
  .rename_i E;simp only[Option.some.injEq,Prod.mk.injEq]at h;exact⟨z,u,D,H2,rfl,rfl,E,h.1.symm,h.2.1.symm,h.2.2.symm⟩
  .cases h
 .cases h
theorem gH(n:Nat)(H:d9):Le H (L9 n H):=(Le.kill H n).trans (Le.kill _ _)
theorem Cu{H:d9}(h:WR base w0 φ H.bs w)(n:Nat):WR base w0 φ (L9 n H).bs w:=(h.kill n).kill (n+1)
theorem R6{e:Env}{d:Option Nat}{v:Value}{t:Nat}(h:d≠some t):(P7 e d v).get t=e.get t:=by
 cases d with
 |none=>rfl
 |some d=>simp only[P7,Env.get];rw[if_neg (fun q=>h (by rw[q]))]
theorem fS{C:A5}{ops:Array Oper}{t:Nat}:∀{l:List Oper}{e e':Env}{H H':d9},(∀o∈l,o.dst≠some t)->C6 P C ops l e H=some (e',H')->e'.get t=e.get t:=by
 intro l;induction l with
 |nil=>intro e e' H H' _ h;cases h;rfl
 |cons o l z=>
  intro e e' H H' D h;have y:=D o sM;have u:∀o∈l,o.dst≠some t:=fun o E=>D o (by simp [E]);simp only[C6]at h;split at h
  .cases h
  split at h
  .split at h
   .rw[z u h,R6 y]
   .rw[z u h,R6 y]
   .cases h
  .rw[z u h,R6 y]
theorem rJ{C:A5}{ops:Array Oper}{t:Nat}:∀{l:List Oper}{i:Nat}{q:Bool}{e e':Env}{H H':d9},(∀o∈l,o.dst≠some t)->F9 P C ops i q l e H=some (e',H')->e'.get t=e.get t:=by
 intro l;induction l with
 |nil=>
  intro i q e e' H H' _ h;simp only[F9]at h;split at h
  .cases h;rfl
  .cases h
 |cons o l D=>
  intro i q e e' H H' z h;have y:=z o sM;have u:∀o∈l,o.dst≠some t:=fun o E=>z o (by simp [E]);simp only[F9]at h;split at h
  .cases h
  split at h
  .split at h
   .rw[D u h,R6 y]
   .split at h
    .rw[fS u h,R6 y]
    .cases h
   .cases h
  .rw[D u h,R6 y]
theorem uD{C:A5}{ops:Array Oper}{t:Nat}:∀{l:List (Oper×Nat×Nat)}{i:Nat}{E:List (Nat×d9)}{y:List (Op×Env×Value×Nat)}{e e':Env}{H H':d9},(∀o∈l,o.1.dst≠some t)->I0 P C ops i E y l e H=some (e',H')->e'.get t=e.get t:=by
 intro l;induction l with
 |nil=>intro i E y e e' H H' _ h;simp only[I0,Option.some.injEq,Prod.mk.injEq]at h;rw[h.1]
 |cons o l D=>
  obtain⟨o,lo,J⟩:=o;intro i E y e e' H H' I h;have z:o.dst≠some t:=I (o,lo,J) sM;have u:∀o∈l,o.1.dst≠some t:=fun o O=>I o (by simp [O]);simp only[I0]at h;split at h
  .cases h
  split at h
  .split at h
   .split at h
    .split at h
     .rw[D u h,R6 z]
     .cases h
    .cases h
   .split at h
    .split at h
     .split at h
      .rw[D u h,R6 z]
      .cases h
     .rw[D u h,R6 z]
    .cases h
  .split at h
   .rw[D u h,R6 z]
   .rw[D u h,R6 z]
theorem xf{C:A5}{ops:Array Oper}{t:Nat}{e e':Env}{H H':d9}(u:∀o∈ops.toList,o.dst≠some t) (h:Z2 P C ops e H=some (e',H')):e'.get t=e.get t:=by
 unfold Z2 at h;split at h
 .split at h
  .refine uD (fun o y=>?_) h;obtain⟨q,z,rfl⟩:=List.mem_map.1 y;exact u q.1 (List.fst_mem_of_mem_zipIdx z)
  .cases h
 .exact rJ u h
theorem ku{α:Type}(v:Value):∀(ds:List Nat)(e:Env)(t:Nat),Env.get (ds.map (fun d=>(d,v))++e) t=if t∈ds then v else e.get t
 |[],e,t=>by simp
 |d::ds,e,t=>by
  simp only[List.map_cons,List.cons_append,Env.get,ku (α:=α) v ds e t,List.mem_cons];by_cases h:d=t
  .subst h;simp
  .rw[if_neg h];have:¬t=d:=fun q=>h q.symm;simp [this]
theorem Ac{C:A5}{t:Nat}:∀{k:Nat}{c:Code}{e e':Env}{H H':d9}{o:Out},t∉bD c->I7 P C k c e H=some (o,e',H')->e'.get t=e.get t:=by
 intro k;induction k with
 |zero=>intro c e e' H H' o _ h;cases h
 |succ k E=>
  intro c e e' H H' o u h;cases c<;>simp only[I7]at h
  case skip=>cases h;rfl
  case ret=>cases h;rfl
  case exit=>cases h;rfl
  case region id ops I=>
   have D:∀o∈ops.toList,o.dst≠some t:=fun o W q=>u (List.mem_filterMap.2 ⟨o,W,q⟩);cases I
   .simp only[bF]at h;split at h
    .rename_i O;cases h;exact fS D O
    .cases h
   .simp only[if_true]at h;split at h
    .rename_i O;cases h;exact xf D O
    .cases h
  case seq x y=>
   simp only[bD,List.mem_append,not_or]at u;split at h
   .rename_i z X;split at h
    .obtain⟨e3,H3,e4,H4,q1,q2,q3,rfl,rfl,rfl⟩:=S3 h;rw[ku (α:=Nat),if_neg];rw[CY X];exact fun q=>(List.mem_append.1 q).elim u.1 u.2
    .cases h
   .split at h
    .rename_i U H2 J;rw[E u.2 h,E u.1 J]
    .exact E u.1 h
  case cond x y z=>
   simp only[bD,List.mem_append,not_or]at u;split at h
   .rename_i b _;cases b
    .exact E u.2 h
    .exact E u.1 h
   .cases h
  case block id x=>
   simp only[bD]at u;split at h
   .rename_i i U H2 J;split at h<;>(cases h;exact E u J)
   .exact E u h
  case loop x=>
   have D:t∉bD x:=u;split at h
   .rename_i U H2 J;rw[E (c:= .loop x) u h,E D J]
   .exact E D h
  case scope x=>exact E (c:=x) u h
  all_goals cases h
theorem M7{C:A5}(J:aB P base w0 C):∀{k:Nat}{c:Code}{e e':Env}{H H':d9}{o:Out},I7 P C k c e H=some (o,e',H')->Le H H':=by
 intro k;induction k with
 |zero=>intro c e e' H H' o h;cases h
 |succ k u=>
  intro c e e' H H' o h;cases c<;>simp only[I7]at h
  case skip=>cases h;exact Le.refl _
  case ret=>cases h;exact Le.refl _
  case exit=>cases h;exact Le.refl _
  case region id ops D=>
   cases D
   .simp only[bF]at h;split at h
    .rename_i O;cases h;exact Z9 J O
    .cases h
   .simp only[if_true]at h;split at h
    .rename_i O;cases h;exact zW J O
    .cases h
  case seq x y=>
   split at h
   .split at h
    .rename_i z hz _ e1 H1 I H2 U W;obtain⟨e3,H3,e4,H4,X,q2,q3,rfl,rfl,rfl⟩:=S3 h;exact(Z9 J U).trans ((u X).trans (gH _ _))
    .cases h
   .split at h
    .rename_i I H2 E;exact(u E).trans (u h)
    .exact u h
  case cond x y z=>
   split at h
   .exact u h
   .cases h
  case block id x=>
   split at h
   .rename_i i I H2 E;split at h<;>(cases h;exact u E)
   .exact u h
  case loop x=>
   split at h
   .rename_i I H2 E;exact(u E).trans (u h)
   .exact u h
  case scope x=>exact u h
  all_goals cases h
def oy(r:Option Nat):Fence:={Fence.wide with round:=r}
theorem vM{o:Oper}{l n:Nat}{K:Act->World->Prop}{Q:Exit->Act->World->Prop}{a:Act}{w:World}(u:gR o.op=true)(h:o.wp P a w K Q):o.wpIn (oy (some l)) n P a w K Q:=by
 refine⟨fun _ _=>trivial,?_⟩;rw[Oper.semAt_plain _ _ _ (fun c D=>by rw[D]at u;cases u)];unfold Oper.wp at h;generalize (execOp a.eval o).run P w=r at h;cases r with
 |ok x I=>
  cases x<;>simp only[Oper.upon,Oper.uponIn]at h ⊢ <;>first|exact h|skip
  .exact⟨fun q=>(by cases q),(CallsIn.inRound l (callsIn_wide.2 h)).mono fun e w2 E=>by cases e<;>exact E⟩
  .refine⟨fun q=>(by cases q),fun c cs _=>?_⟩;obtain⟨v,w2,y,z⟩:=h c cs;exact⟨v,w2,y,stepsIn_wide.2 z⟩
 |halt x I=>cases x<;>simp only[Oper.upon,Oper.uponIn]at h ⊢ <;>exact h
theorem iW{ops:Array Oper}{l n:Nat}{Q:Exit->Act->World->Prop}(z:¬LetsOut Q):∀{y:List Oper}{a:Act}{w:World},(∀o∈y,gR o.op=true)->wpList P ops Q y a w->wpListIn (oy (some l)) n P ops Q y a w
 |[],a,w,_,h=>h
 |o::y,a,w,hd,h=>by
  unfold wpList at h;unfold wpListIn;have u:∀o∈y,gR o.op=true:=fun o E=>hd o (by simp [E]);split
  .rename_i D;rw[if_pos D]at h;rcases h with h|h
   .exact Oper.wpIn_mono (fun a w q=>iW z u q) (vM (hd o sM) h)
   .exact absurd h.2 z
  .rename_i D;rw[if_neg D]at h;exact⟨fun _ _=>trivial,iW z u h⟩
theorem io{ops:Array Oper}{l n:Nat}{Q:Exit->Act->World->Prop}(D:¬LetsOut Q)(z:∀o∈ops.toList,gR o.op=true):∀(u:Nat)(y:Array Bool)(a:Act)(w:World),wpAny P .any ops Q u y a w->wpAnyIn (oy (some l)) n P .any ops Q u y a w
 |0,_,_,_,h=>h
 |u+1,y,a,w,h=>by
  refine⟨h.1,fun i J=>?_⟩;have:=h.2 i J;unfold wpOp at this;unfold wpOpIn;cases E:ops[i]? with
  |none=>rw[E]at this;exact io D z u _ _ _ this
  |some o=>
   rw[E]at this;simp only at this ⊢;split
   .rename_i I;rw[if_pos I]at this;rcases this with h|h
    .exact Oper.wpIn_mono (fun a w q=>io D z u _ _ _ q) (vM (z o (Array.mem_toList_iff.2 (Array.mem_of_getElem? E))) h)
    .exact absurd h.2 D
   .rename_i I;rw[if_neg I]at this;exact⟨fun _ _=>trivial,io D z u _ _ _ this⟩
theorem jh{C:A5}(hm:P.follows .mixedOrders=true)(hC:U3 P C){r:Option Nat}{n:Nat}:∀{k:Nat}{c:Code}{φ:List Loc}{e e':Env}{H H':d9}{o:Out}{a:Act}{w:World}{Q:Exit->Act->World->Prop},
  (r.isSome=true->E5 c=true)->F8 nt c=true->I7 P C k c e H=some (o,e',H')->ER φ nt e a->WR base w0 φ H.bs w->fk base w0 φ H w nt a.defers e' H' (Q o.exit')->c.wpIn (oy r) n P Q a w/\∀x,c= .loop x->Code.roundsIn (oy r) n P x Q k a w:=by
 intro k;induction k with
 |zero=>intro c φ e e' H H' o a w Q a1 u h;cases h
 |succ k d1=>
  intro c φ e e' H H' o a w Q a1 u h W hW U;have ih:=fun{c φ e e' H H' o a w Q}(h0:r.isSome=true->E5 c=true)(h1:F8 nt c=true) h2(h3:ER φ nt e a)(h4:WR base w0 φ H.bs w) h5=>(d1 (c:=c) (e:=e) (e':=e') (H:=H) (H':=H') (o:=o) (Q:=Q) h0 h1 h2 h3 h4 h5).1;by_cases a7:∃x,c= .loop x
  .obtain⟨x,rfl⟩:=a7;have c8:=u;simp only[F8]at u;simp only[I7]at h;have b4:r.isSome=true->E5 x=true:=a1;have a6:Code.roundsIn (oy r) n P x Q (k+1) a w:=by
    rw[roundsIn_succ];split at h
    .rename_i e2 H2 h1;refine ih b4 u h1 W hW ?_;intro φ' a' w' O E I D hd;refine(d1 (c:= .loop x) (Q:=Q) a1 c8 h E I ?_).2 x rfl;intro φ2 a2 w2 a5 X a3 J a4;exact U φ2 a2 w2 (O.trans a5) X a3 (Fr.trans O (M7 (hC base w0) h1) (M7 (hC base w0) h) hW.len D J) (a4.trans hd)
    .rename_i a9;refine ih b4 u h W hW ?_;intro φ' a' w' O E I D hd;have:=U φ' a' w' O E I D hd;cases o with
     |normal=>exact absurd h (a9 e' H')
     |exit id=>exact this
     |ret=>exact this
   exact⟨wpIn_loop_rounds (k+1) a6,fun y hy=>by cases hy;exact a6⟩
  refine⟨?_,fun x O=>absurd ⟨x,O⟩ a7⟩;have b0:∀{o:Out}{e:Env},fk base w0 φ H w nt a.defers e H (Q o.exit')->ER φ nt e a->Q o.exit' a w:=fun U W=>U φ a w (Ext.refl φ) W hW (gC H) rfl;have b1:∀{H2:d9}{φ':List Loc}{a':Act}{w':World}{K:Act->World->Prop},Le H H2->Le H2 H'->Ext φ φ'->Fr φ H.bs H2.low w w'->a'.defers=a.defers->fk base w0 φ H w nt a.defers e' H' K->fk base w0 φ' H2 w' nt a'.defers e' H' K:=by
   intro H2 φ' a' w' K d6 d8 O D hd U φ2 a2 w2 a5 X a3 J a4;exact U φ2 a2 w2 (O.trans a5) X a3 (Fr.trans O d6 d8 hW.len D J) (a4.trans hd)
  cases c<;>simp only[I7]at h
  case skip=>cases h;exact wpIn_skip (b0 (o:= .normal) U W)
  case ret=>cases h;exact wpIn_ret (b0 (o:= .ret) U W)
  case exit id=>cases h;exact wpIn_exit (b0 (o:= .exit id) U W)
  case region id ops b3=>
   simp only[F8]at u;cases r with
   |none=>
    refine wpIn_wide.2 ?_;cases b3
    .simp only[bF]at h;split at h
     .rename_i hr;cases h;exact wp_region_list (T4 (hC base w0) u (fun o ho=>ho) hr W hW U)
     .cases h
    .simp only[if_true]at h;split at h
     .rename_i hr;cases h;exact qq hm hC u id hr W hW U
     .cases h
   |some l=>
    have b2:=a1 rfl;simp only[E5,Bool.and_eq_true,List.all_eq_true]at b2;refine Code.wpIn_mono (Q:=fun x a w=>x= .normal/\Q .normal a w) (fun x a w q=>by obtain⟨rfl,q⟩:=q;exact q) ?_;have c7:¬LetsOut (fun x(a:Act) w=>x=Exit.normal/\Q .normal a w):=fun⟨_,_,q⟩=>by cases q.1
    cases b3
    .simp only[bF]at h;split at h
     .rename_i hr;cases h;exact wpIn_region_list (iW c7 b2.1 (T4 (hC base w0) u (fun o ho=>ho) hr W hW fun φ2 a2 w2 a5 X a3 J a4=>⟨rfl,U φ2 a2 w2 a5 X a3 J a4⟩))
     .cases h
    .simp only[if_true]at h;have a8:=b2.2;simp only[Bool.not_true,Bool.false_or,Bool.and_eq_true]at a8;split at h
     .rename_i hr;cases h;unfold Z2 at hr;rw[if_pos a8.1,if_pos a8.2]at hr;exact wpIn_region_any hm (io c7 b2.1 _ _ _ _ (vH hC u a8.2 hr W hW fun φ2 a2 w2 a5 X a3 J a4=>⟨rfl,U φ2 a2 w2 a5 X a3 J a4⟩))
     .cases h
  case seq x y=>
   simp only[F8,Bool.and_eq_true]at u;split at h
   .rename_i z hz;have b8:r=none:=by
     cases r with
     |none=>rfl
     |some l=>
      have:=a1 rfl;simp only[E5,hz,Option.isNone_some,Bool.false_and]at this;cases this
    subst b8;refine wpIn_wide.2 (wp_seq ?_);obtain⟨id,ops,o0,o1,o2,o3,rfl,hl,hB,rfl⟩:=jd hz;split at h
    .rename_i e1 H1 e2 H2 b6 b7;obtain⟨e3,H3,e4,H4,q1,q2,q3,rfl,rfl,rfl⟩:=S3 h;have l1:=Z9 (hC base w0) b6;have l2:=Z9 (hC base w0) b7;have b9:∀{e5 e6:Env}{H5 H6:d9}{l:List Oper},(∀o∈l,o∈ops.toList)->Le H H5->Le H5 (L9 H.next H3)->(∀t,t∉ops.toList.filterMap (·.dst)->e5.get t=e.get t)->I7 P C k y e5 H5=some (.normal,e6,H6)->L9 H.next H3=L9 H.next H6->fk base w0 φ H w nt a.defers e5 H5 (fun a' w'=>y.wp P Q a' w'):=by
      intro e5 e6 H5 H6 l c6 e7 c5 c4 O hk φ' a' w' d0 E I D hd;refine wpIn_wide.1 (ih (fun h=>by cases h) u.2 O E I ?_);intro φ2 a2 w2 a5 X a3 J a4;refine U φ2 a2 w2 (d0.trans a5) ⟨X.size,fun t=>?_⟩ (by rw[hk];exact Cu a3 _) ?_ (a4.trans hd)
      .rw[ku (α:=Nat)];by_cases ht:t∈ops.toList.filterMap (·.dst)++bD y
       .rw[if_pos ht];exact .lost _
       .rw[if_neg ht];simp only[List.mem_append,not_or]at ht;rw[<-c4 t ht.1,<-Ac ht.2 O];exact X.val t
      .rw[hk];have c3:Fr φ' H5.bs (L9 H.next H6).low w' w2:=fun b B l hb d3 d4 d5=>J b B l (Nat.lt_of_lt_of_le hb (gH H.next H6).low) d3 d4 d5;exact Fr.trans d0 e7 (by rw[<-hk];exact c5) hW.len D c3
     have c0:∀{l:List Oper}{e5:Env}{H5:d9},(∀o∈l,o∈ops.toList)->C6 P C ops l e H=some (e5,H5)->∀t,t∉ops.toList.filterMap (·.dst)->e5.get t=e.get t:=fun c6 hr t ht=>fS (fun o ho q=>ht (List.mem_filterMap.2 ⟨o,c6 o ho,q⟩)) hr;have m1:∀o∈ [o0,o1,o2,o3],o∈ops.toList:=fun o ho=>by rw[hl];exact ho
     have m2:∀o∈ [o0,o2,o1,o3],o∈ops.toList:=fun o ho=>by rw[hl];simp only[List.mem_cons,List.not_mem_nil,or_false]at ho ⊢;rcases ho with h|h|h|h<;>simp [h]
     have c9:dG nt ops=true:=u.1;refine sT hm (hC base w0) hl hB c9 id b6 b7 W hW (b9 m1 l1 ((M7 (hC base w0) q1).trans (gH _ _)) (c0 m1 b6) q1 rfl) (b9 m2 l2 (by rw[q3];exact(M7 (hC base w0) q2).trans (gH _ _)) (c0 m2 b7) q2 q3)
    .cases h
   .rename_i hz;have d2:r.isSome=true->E5 x=true:=fun q=>by have:=a1 q;simp only[E5,Bool.and_eq_true]at this;exact this.1.2
    have e8:r.isSome=true->E5 y=true:=fun q=>by have:=a1 q;simp only[E5,Bool.and_eq_true]at this;exact this.2
    refine wpIn_seq ?_;split at h
    .rename_i e2 H2 h1;refine ih d2 u.1 h1 W hW ?_;intro φ' a' w' O E I D hd;exact ih e8 u.2 h E I (b1 (M7 (hC base w0) h1) (M7 (hC base w0) h) O D hd U)
    .rename_i a9;refine ih d2 u.1 h W hW ?_;intro φ' a' w' O E I D hd;have:=U φ' a' w' O E I D hd;cases o with
     |normal=>exact absurd h (a9 e' H')
     |exit id=>exact this
     |ret=>exact this
  case cond x y z=>
   simp only[F8,Bool.and_eq_true]at u;split at h
   .rename_i t ht;have hv:=W.op u.1.1;rw[ht]at hv;generalize hz:a.eval x=zz at hv;cases hv;have ro:r.isSome=true->E5 y=true/\E5 z=true:=fun q=>by have:=a1 q;simpa only[E5,Bool.and_eq_true] using this
    refine wpIn_cond hz ?_;cases t
    .exact ih (fun q=>(ro q).2) u.2 h W hW U
    .exact ih (fun q=>(ro q).1) u.1.2 h W hW U
   .cases h
  case block id x=>
   simp only[F8]at u;have ro:r.isSome=true->E5 x=true:=a1;refine wpIn_block ?_;split at h
   .rename_i i e2 H2 h1;split at h
    .rename_i b5;cases h;refine ih ro u h1 W hW ?_;intro φ' a' w' O E I D hd;have:=U φ' a' w' O E I D hd;simp only[Out.exit',Exit.inBlock,if_pos b5];exact this
    .rename_i b5;cases h;refine ih ro u h1 W hW ?_;intro φ' a' w' O E I D hd;have:=U φ' a' w' O E I D hd;simp only[Out.exit',Exit.inBlock,if_neg b5];exact this
   .rename_i a9;refine ih ro u h W hW ?_;intro φ' a' w' O E I D hd;have:=U φ' a' w' O E I D hd;cases o with
    |exit id=>exact absurd h (a9 id e' H')
    |normal=>exact this
    |ret=>exact this
  case loop x=>exact absurd ⟨x,rfl⟩ a7
  case scope x=>
   simp only[F8]at u;have b8:r=none:=by
    cases r with
    |none=>rfl
    |some l=>have:=a1 rfl;simp only[E5]at this;cases this
   subst b8;refine wpIn_wide.2 (wp_scope_straight (wpIn_wide.1 (ih (fun h=>by cases h) u h W hW ?_)));intro φ' a' w' O E I D hd;have:=U φ' a' w' O E I D hd;cases o<;>exact this
  all_goals cases h
theorem cY{C:A5}(E:P.follows .mixedOrders=true)(y:U3 P C){k:Nat}{c:Code}{e e':Env}{H H':d9}{o:Out}{Q:Exit->Act->World->Prop}
  (u:F8 nt c=true) (h:I7 P C k c e H=some (o,e',H')) (z:ER φ nt e a) (D:WR base w0 φ H.bs w) (I:fk base w0 φ H w nt a.defers e' H' (Q o.exit')):c.wp P Q a w:=
 wpIn_wide.1 (jh (r:=none) (n:=0) E y (fun h=>by cases h) u h z D I).1
theorem aA6{C:A5}(E:P.follows .mixedOrders=true)(y:U3 P C)(l n:Nat){k:Nat}{c:Code}{e e':Env}{H H':d9}{o:Out}{Q:Exit->Act->World->Prop}
  (J:E5 c=true) (u:F8 nt c=true) (h:I7 P C k c e H=some (o,e',H')) (z:ER φ nt e a) (D:WR base w0 φ H.bs w) (I:fk base w0 φ H w nt a.defers e' H' (Q o.exit')):c.wpIn (Fence.wide.inRound l) n P Q a w:=
 (jh (r:=some l) E y (fun _=>J) u h z D I).1
theorem ng:∀(u:LV)(i t:Nat),(D8 i u).get t=if i<=t then(u[t-i]?).getD undef else undef
 |[],i,t=>by simp [D8,Env.get]
 |v::u,i,t=>by
  simp only[D8,Env.get];by_cases h:i=t
  .subst h;simp
  .rw[if_neg h,ng u (i+1) t];by_cases y:i<=t
   .rw[if_pos y,if_pos oM,show t-i=(t-(i+1))+1 from oM];simp
   .rw[if_neg y,if_neg oM]
theorem qr{args u:LV}(z:VRs φ args u)(J:args.length<=nt):ER φ nt (D8 0 args) {tmps:=u.toArray++Array.replicate (nt-u.toArray.size) undef,defers:=[]}:=by
 refine⟨by have:=z.1;simp;omega,fun t=>?_⟩;rw[ng];simp only[Nat.zero_le,if_true,Nat.sub_zero,Array.getD_eq_getD_getElem?];by_cases h:t<args.length
 .obtain⟨y,I,E⟩:=z.get (i:=t) (x:=args[t]) (by simp [h]);have D:t<u.length:=by rw[<-z.1];exact h
  rw[Array.getElem?_append_left (by simpa using D)];simp only[List.getElem?_toArray,I,Option.getD_some,List.getElem?_eq_getElem h];exact E
 .rw[List.getElem?_eq_none oM];rw[Array.getElem?_append_right (by have:=z.1;simp;omega)];simp only[Option.getD_none,Array.getElem?_replicate];split<;>exact VR.undef' φ
def rF(tmps:Array Value):ResultVar->Sem Value
 | .tmp t=>pure (tmps.getD t undef)
 | .cell x t=>do loadVar t (<-asAddr (tmps.getD x undef))
theorem uB(y:Func)(tmps:Array Value):results y tmps=(y.results.mapM (rF tmps))>>=fun u=>pure (if h:u.size=1 then u[0] else .tuple u):=by
 unfold results
 congr 1
theorem rL{H:d9}(hW:WR base w0 φ H.bs w)(hE:ER φ nt e a):∀{E:List ResultVar}{O:LV},E.mapM (L3 P e H)=some O->
  ∃y,VRs φ O y/\(E.mapM (rF a.tmps)).run P w= .ok y w:=by
 intro E;induction E with
 |nil=>intro O h;simp at h;subst h;exact⟨[],.nil φ,rfl⟩
 |cons r E ih=>
  intro O h;simp only[List.mapM_cons,Option.bind_eq_bind,Option.pure_def]at h;cases u:L3 P e H r with
  |none=>simp [u]at h
  |some v=>
   cases D:E.mapM (L3 P e H)with
   |none=>simp [u,D]at h
   |some a1=>
    simp [u,D]at h;subst h;obtain⟨y,hv,J⟩:=ih D;have I:∃v',VR φ v v'/\(rF a.tmps r).run P w= .ok v' w:=by
     cases r with
     |tmp t=>simp only[L3,Option.some.injEq]at u;subst u;exact⟨_,hE.val t,rfl⟩
     |cell x t=>
      simp only[L3]at u;obtain⟨v',U,W⟩:=qV (P:=P) hW u (hE.val x);refine⟨v',U,?_⟩;have X:=W w hW.cls;have hx:=hE.val x;unfold ld at u;split at u
      .rename_i b o hg;rw[hg]at hx;simp only[rF];generalize a.tmps.getD x undef=z at hx X ⊢;cases hx;simp only[Instr.loadAt,Instr.sureAddr,Sem.run_bind,Sem.run_pure,Result.andThen_ok]at X;simp only[asAddr,Sem.run_bind,Sem.run_pure,Result.andThen_ok];exact X
      .cases u
    obtain⟨v',U,W⟩:=I;refine⟨v'::y,.cons U hv,?_⟩;rw[List.mapM_cons,Sem.run_bind,W,Result.andThen_ok,Sem.run_bind,J,Result.andThen_ok];rfl
theorem jv{E:Func}{H:d9}(X:WR base w0 φ H.bs w)(W:ER φ nt e a){O:LV}(h:E.results.toList.mapM (L3 P e H)=some O):
  ∃v',VR φ (aA O) v'/\(results E a.tmps).run P w= .ok v' w:=by
 obtain⟨u,J,D⟩:=rL X W h;have hr:(E.results.mapM (rF a.tmps)).run P w= .ok u.toArray w:=by
  rw[Array.mapM_eq_mapM_toList,Sem.run_map,D];rfl
 refine⟨aA u,?_,?_⟩
 .unfold aA;split
  .obtain⟨y,ys,rfl,I,U⟩:=J.of_cons;rw[U.of_nil];exact I
  .rename_i z;split
   .rename_i v'
    exfalso
    have:=J.1;cases O with
    |nil=>simp at this
    |cons x xs=>cases xs with
     |nil=>exact z x rfl
     |cons _ _=>simp at this
   .exact VR.toTuple J
 .rw[uB,Sem.run_bind,hr,Result.andThen_ok];split
  .rename_i I;obtain⟨v,rfl⟩:=List.length_eq_one_iff.1 (by simpa using I:u.length=1);rfl
  .rename_i z;have:aA u= .tuple u.toArray:=by
    unfold aA;split
    .exact absurd rfl z
    .rfl
   rw[this];rfl
theorem WR.back{X:List Loc}{W:List Blk}{J:World}{D:Nat}(h:WR base w0 φ S w)(U:WR base w0 X W J)(O:Fr φ S D w J)(z:S.length<=D):Cls base w0 φ S w J:=by
 have u:∀(b:Nat) B l,S[b]?=some B->B≠ .dead->φ[b]?=some l->J.heap[l.blk]?=w.heap[l.blk]?:=fun b B l y E I=>
  O b B l (Nat.lt_of_lt_of_le (gS y).1 z) y E I
 refine⟨⟨h.len,U.below,U.size,fun b B l y I=>?_,h.sep⟩,u⟩;by_cases E:B= .dead
 .subst E;trivial
 .exact(h.blk b B l y I).mono (Ext.refl φ) (u b B l y E I)
def Eo(g:FuncId)(f:LV->d9->Option (Value×Option d9)):A5:=fun g' args H=>if g'=g then f args H else none
def mO(P:Program)(X:Lib):Prop:=∀g f,X g=some f->U3 P (Eo g f)
theorem CV(hm:P.follows .mixedOrders=true){X:Lib}(hX:mO P X):∀k,U3 P (call P X k):=by
 intro k;induction k with
 |zero=>intro base w0 g args H v r h;cases h
 |succ k ih=>
  intro base w0 g args H v r h;simp only[call]at h;split at h
  .rename_i f hf;exact hX g f hf base w0 g args H v r (by simp only[Eo,if_pos];exact h)
  .rename_i a9;unfold body at h;split at h
   rotate_left
   .cases h
   rename_i c nt rs y;unfold fnA at y;split at y
   rotate_left
   .cases y
   rename_i fn O;split at y
   rotate_left
   .cases y
   rename_i c' I;split at y
   rotate_left
   .cases y
   rename_i z;cases y;simp only[Bool.and_eq_true,bne_iff_ne,ne_eq]at z;split at h
   rotate_left
   .cases h
   rename_i a5;have a2:bP P g:=⟨fn,O,by simpa using z.2,by rw[I];rfl⟩
   split at h
   .cases h
   .rename_i o e' H' a7 a3;split at h
    rotate_left
    .cases h
    rename_i vs a8;have a4:=M7 (ih base w0) a3;unfold D4 at h;have a1:∀(φ:List Loc)(w:World)(u:LV),VRs φ args u->WR base w0 φ H.bs w->Calls P g u.toArray w fun en W=>∃v' E,en= .returned v'/\Ext φ E/\VR E (aA vs) v'/\WR base w0 E H'.bs W/\Fr φ H.bs H'.low w W:=by
     intro φ w u ha hW;refine calls_of_wp O I ?_;refine cY (H:=⟨H.bs,H.bs.length⟩) hm ih z.1 a3 (qr ha a5) hW ?_;intro E a' W hx hE D J hd;obtain⟨v',hv,a6⟩:=jv D hE a8;have:bodyPost P fn (fun en W=>∃v' E,en= .returned v'/\Ext φ E/\VR E (aA vs) v'/\WR base w0 E H'.bs W/\Fr φ H.bs H'.low w W) .normal a' W:=⟨hd,v',a6,v',E,rfl,hx,hv,D,J⟩
     cases o with
     |normal=>exact this
     |ret=>exact this
     |exit id=>exact(a7 id rfl).elim
    split at h
    .rename_i U;simp only[Option.some.injEq,Prod.mk.injEq]at h;obtain⟨rfl,rfl⟩:=h;simp only[Bool.and_eq_true,decide_eq_true_eq]at U;refine⟨a2,fun H' h=>(by cases h),fun _=>U.1,fun φ w u ha hW=>(a1 φ w u ha hW).mono fun en W hq=>?_⟩;obtain⟨v',E,rfl,hx,hv,D,J⟩:=hq;exact⟨by rw[hv.eq_na U.1],hW.back D J U.2⟩
    .simp only[Option.some.injEq,Prod.mk.injEq]at h;obtain⟨rfl,rfl⟩:=h;refine⟨a2,fun H2 h2=>?_,fun h=>(by cases h),fun φ w u ha hW=>(a1 φ w u ha hW).mono fun en W hq=>?_⟩
     .cases h2;exact⟨Nat.min_le_left _ _,a4.len,fun b hb hl=>a4.same b (Nat.lt_of_lt_of_le hb (Nat.min_le_right _ _)) hl⟩
     .obtain⟨v',E,h1,hx,hv,D,J⟩:=hq;exact⟨v',E,h1,hx,hv,D,fun b B l hb=>J b B l (Nat.lt_of_lt_of_le hb (Nat.min_le_right _ _))⟩
   .cases h
end
def LeO{α:Type}(x y:Option α):Prop:=∀r,x=some r->y=some r
def LeC(C D:A5):Prop:=∀f args H,LeO (C f args H) (D f args H)
theorem LeO.refl{α:Type}(x:Option α):LeO x x:=fun _ h=>h
section
variable{P:Program}
theorem aA9{C D:A5}(h:LeC C D)(e:Env)(c:Call)(H:d9):LeO (dS P C e c H) (dS P D e c H):=by
 intro r y;unfold dS at y ⊢;split
 .rename_i b z;rw[z]at y;exact y
 .rename_i f J;rw[J]at y;simp only at y ⊢;split
  .rename_i g first u E;rw[E]at y;exact h _ _ _ _ y
  .rename_i I;split at y
   .rename_i g first u E;exact absurd E (I _ _ _)
   .exact y
 .rename_i z;rw[z]at y;exact y
theorem T8{C D:A5}(h:LeC C D)(o:Op)(e:Env)(H:d9):LeO (aop P C o e H) (aop P D o e H):=by
 intro r y;by_cases u:∃c,o= .call c
 .obtain⟨c,rfl⟩:=u;exact aA9 h e c H r y
 .rw[<-y];cases o<;>first|rfl|(exact absurd ⟨_,rfl⟩ u)|(rename_i x;cases x<;>rfl)
theorem P3{C D:A5}(h:LeC C D){ops:Array Oper}:∀(l:List Oper)(e:Env)(H:d9),LeO (C6 P C ops l e H) (C6 P D ops l e H):=by
 intro l;induction l with
 |nil=>intro e H r u;exact u
 |cons o l I=>
  intro e H r u;simp only[C6]at u ⊢;by_cases y:U0 ops e o=true
  .rw[if_pos y]at u;cases u
  simp only[if_neg y]at u ⊢;split
  .rename_i E;rw[if_pos E]at u;cases z:aop P C o.op e H with
   |none=>simp [z]at u
   |some q=>
    rw[T8 h _ _ _ _ z];rw[z]at u;obtain⟨v,q⟩:=q;cases q with
    |none=>exact I _ _ _ u
    |some H'=>exact I _ _ _ u
  .rename_i E;rw[if_neg E]at u;exact I _ _ _ u
theorem gY{C D:A5}(h:LeC C D){ops:Array Oper}:∀(l:List Oper)(i:Nat)(q:Bool)(e:Env)(H:d9),LeO (F9 P C ops i q l e H) (F9 P D ops i q l e H):=by
 intro l;induction l with
 |nil=>intro i q e H r u;exact u
 |cons o l J=>
  intro i q e H r u;simp only[F9]at u ⊢;by_cases y:U0 ops e o=true
  .rw[if_pos y]at u;cases u
  simp only[if_neg y]at u ⊢;split
  .rename_i I;rw[if_pos I]at u;cases E:aop P C o.op e H with
   |none=>simp [E]at u
   |some x=>
    rw[T8 h _ _ _ _ E];rw[E]at u;obtain⟨v,x⟩:=x;cases x with
    |none=>exact J _ _ _ _ _ u
    |some H'=>
     simp only at u ⊢;split
     .rename_i z;rw[if_pos z]at u;exact P3 h _ _ _ _ u
     .rename_i z;rw[if_neg z]at u;exact u
  .rename_i I;rw[if_neg I]at u;exact J _ _ _ _ _ u
theorem jx{C D:A5}(h:LeC C D){ops:Array Oper}:∀(l:List (Oper×Nat×Nat))(t:Nat)(J:List (Nat×d9))(y:List (Op×Env×Value×Nat))(e:Env)(H:d9),LeO (I0 P C ops t J y l e H) (I0 P D ops t J y l e H):=by
 intro l;induction l with
 |nil=>intro t J y e H r u;exact u
 |cons o l I=>
  obtain⟨o,lo,hi⟩:=o;intro t J y e H r u;simp only[I0]at u ⊢;by_cases E:U0 ops e o=true
  .rw[if_pos E]at u;cases u
  simp only[if_neg E]at u ⊢;split
  .rename_i W;rw[if_pos W]at u;split
   .rename_i z;rw[if_pos z]at u;cases U:aop P C o.op e H with
    |none=>simp [U]at u
    |some x=>
     rw[T8 h _ _ _ _ U];rw[U]at u;obtain⟨v,x⟩:=x;simp only at u ⊢;split
     .rename_i O;rw[if_pos O]at u;exact I _ _ _ _ _ _ u
     .rename_i O;rw[if_neg O]at u;exact u
   .rename_i z;rw[if_neg z]at u;split at u
    .rename_i v hv;split at u
     .rename_i S;rw[if_pos S];split at u
      .rename_i hc;rw[if_pos hc];exact I _ _ _ _ _ _ u
      .cases u
     .rename_i S;rw[if_neg S];exact I _ _ _ _ _ _ u
    .cases u
  .rename_i W;rw[if_neg W]at u;split
   .rename_i z;rw[if_pos z]at u;exact I _ _ _ _ _ _ u
   .rename_i z;rw[if_neg z]at u;exact I _ _ _ _ _ _ u
theorem th{C D:A5}(h:LeC C D){ops:Array Oper}(e:Env)(H:d9):LeO (Z2 P C ops e H) (Z2 P D ops e H):=by
 intro r u;unfold Z2 at u ⊢;split
 .rename_i y;rw[if_pos y]at u;split
  .rename_i z;rw[if_pos z]at u;exact jx h _ _ _ _ _ _ _ u
  .rename_i z;rw[if_neg z]at u;exact u
 .rename_i y;rw[if_neg y]at u;exact gY h _ _ _ _ _ _ u
theorem eu{ds:List Nat}{e u z:Env}{n:Nat}{h H2:d9}{x y:Option (Out×Env×d9)}(E:x=some (.normal,u,h))(I:y=some (.normal,z,H2))(D:L9 n h=L9 n H2):
  kQ ds e n x y=some (.normal,ds.map (fun d=>(d,lost))++e,L9 n h):=by
 subst E I;exact if_pos D
theorem Z5{C D:A5}(h:LeC C D):∀(k J:Nat),k<=J->∀(c:Code)(e:Env)(H:d9),LeO (I7 P C k c e H) (I7 P D J c e H):=by
 intro k;induction k with
 |zero=>intro J _ c e H r u;cases u
 |succ k ih=>
  intro J hk c e H r u;obtain⟨J,rfl⟩:∃m,J=m+1:=⟨J-1,oM⟩
  have I:=fun c e H r(u:I7 P C k c e H=some r)=>ih J oM c e H r u;cases c<;>simp only[I7]at u ⊢ <;>try exact u
  case region id ops O=>
   cases O
   .simp only[bF]at u ⊢;cases E:C6 P C ops ops.toList e H with
    |none=>simp [E]at u
    |some x=>rw[P3 h _ _ _ _ E];rw[E]at u;exact u
   .simp only[if_true]at u ⊢;cases E:Z2 P C ops e H with
    |none=>simp [E]at u
    |some x=>rw[th h _ _ _ E];rw[E]at u;exact u
  case seq x y=>
   cases hz:dW x y with
   |some z=>
    simp only[hz]at u ⊢;cases S:C6 P C z.ops z.l1 e H with
    |none=>simp [S]at u
    |some q1=>
     cases U:C6 P C z.ops z.l2 e H with
     |none=>simp [S,U]at u
     |some q2=>
      obtain⟨e1,H1⟩:=q1;obtain⟨e2,H2⟩:=q2;rw[S,U]at u;rw[P3 h _ _ _ _ S,P3 h _ _ _ _ U];obtain⟨o,e',H'⟩:=r;obtain⟨e3,H3,e4,H4,g1,g2,g3,rfl,rfl,rfl⟩:=S3 u;exact eu (I _ _ _ _ g1) (I _ _ _ _ g2) g3
   |none=>
   simp only[hz]at u ⊢;cases E:I7 P C k x e H with
   |none=>simp [E]at u
   |some z=>
    rw[I _ _ _ _ E];rw[E]at u;obtain⟨o,e',H'⟩:=z;cases o with
    |normal=>exact I _ _ _ _ u
    |exit id=>exact u
    |ret=>exact u
  case cond x y z=>
   split
   .rename_i t ht;rw[ht]at u;exact I _ _ _ _ u
   .rename_i W;split at u
    .rename_i t ht;exact absurd ht (W t)
    .exact u
  case block id x=>
   cases E:I7 P C k x e H with
   |none=>simp [E]at u
   |some z=>rw[I _ _ _ _ E];rw[E]at u;exact u
  case loop x=>
   cases E:I7 P C k x e H with
   |none=>simp [E]at u
   |some z=>
    rw[I _ _ _ _ E];rw[E]at u;obtain⟨o,e',H'⟩:=z;cases o with
    |normal=>exact I _ _ _ _ u
    |exit id=>exact u
    |ret=>exact u
  case scope x=>exact I _ _ _ _ u
theorem iu{ex y:Code->Env->d9->Option (Out×Env×d9)}(h:∀c e H,LeO (ex c e H) (y c e H)) (f:FuncId) (args:LV) (H:d9):LeO (body P ex f args H) (body P y f args H):=by
 intro r u;unfold body at u ⊢;split
 .rename_i c J O D;rw[D]at u;simp only at u ⊢;split
  .rename_i E;rw[if_pos E]at u;cases I:ex c (D8 0 args) ⟨H.bs,H.bs.length⟩with
   |none=>simp [I]at u
   |some z=>rw[h _ _ _ _ I];rw[I]at u;exact u
  .rename_i E;rw[if_neg E]at u;exact u
 .rename_i D;rw[D]at u;exact u
theorem L6{X:Lib}:∀(k h:Nat),k<=h->LeC (call P X k) (call P X h):=by
 intro k;induction k with
 |zero=>intro h _ f args H r u;cases u
 |succ k z=>
  intro h D f args H r u;obtain⟨h,rfl⟩:∃m,h=m+1:=⟨h-1,oM⟩
  simp only[call]at u ⊢;split
  .rename_i g y;rw[y]at u;exact u
  .rename_i y;rw[y]at u;exact iu (Z5 (z h oM) k h oM) f args H r u
open Classical in
noncomputable def lim{α:Type}(x:Nat->Option α):Option α:=if h:∃k r,x k=some r then some (Classical.choose (Classical.choose_spec h)) else none
theorem kZ{α:Type}{x:Nat->Option α}(D:∀k E,k<=E->LeO (x k) (x E)) {r:α}:lim x=some r↔∃k,x k=some r:=by
 unfold lim
 constructor
 .intro h;split at h
  .rename_i y;cases h;exact⟨_,Classical.choose_spec (Classical.choose_spec y)⟩
  .cases h
 .rintro⟨k,y⟩;have u:∃k r,x k=some r:=⟨k,r,y⟩
  rw[dif_pos u];have I:=Classical.choose_spec (Classical.choose_spec u);have J:=D _ (max k (Classical.choose u)) (Nat.le_max_right _ _) _ I;have z:=D _ (max k (Classical.choose u)) (Nat.le_max_left _ _) _ y;rw[J]at z;exact z
noncomputable def CL(P:Program)(X:Lib):A5:=fun f args H=>lim fun k=>call P X k f args H
noncomputable def EL(P:Program)(X:Lib)(c:Code)(e:Env)(H:d9):Option (Out×Env×d9):=lim fun k=>I7 P (CL P X) k c e H
theorem aN{X:Lib}{f:FuncId}{args:LV}{H:d9}{r:Value×Option d9}:CL P X f args H=some r↔∃k,call P X k f args H=some r:=
 kZ fun k u h=>L6 k u h f args H
theorem uV{X:Lib}{c:Code}{e:Env}{H:d9}{r:Out×Env×d9}:EL P X c e H=some r↔∃k,I7 P (CL P X) k c e H=some r:=
 kZ fun k u h=>Z5 (fun _ _ _=>LeO.refl _) k u h c e H
theorem pA{α:Type}{x y:Option α}(h:∀r,x=some r↔y=some r):x=y:=by
 cases x with
 |some a=>exact((h a).1 rfl).symm
 |none=>cases y with
  |none=>rfl
  |some b=>exact(h b).2 rfl
variable{X:Lib}
def ly(x:Option (Env×d9)):Option (Out×Env×d9):=x.map fun(e,H)=>(.normal,e,H)
abbrev Of{β:Sort _}(_:β)(α:Type _):Type _:=α
def u7(x:Option (Out×Env×d9))(f:Env->d9->Option (Out×Env×d9)):Of f (Option (Out×Env×d9)):=
 match x with
 |some (.normal,e,H)=>f e H
 |r=>r
@[simp] theorem cq (e:Env) (H:d9) (f:Env->d9->Option (Out×Env×d9)):u7 (some (.normal,e,H)) f=f e H:=rT
@[simp] theorem mf (e:Env) (H:d9) (f:Env->d9->Option (Out×Env×d9)):u7 (some (.ret,e,H)) f=some (.ret,e,H):=rT
@[simp] theorem sf (i:Nat) (e:Env) (H:d9) (f:Env->d9->Option (Out×Env×d9)):u7 (some (.exit i,e,H)) f=some (.exit i,e,H):=rT
def inBlock(id:Nat)(x:Option (Out×Env×d9)):Option (Out×Env×d9):=
 match x with
 |some (.exit i,e,H)=>if i=id then some (.normal,e,H) else some (.exit i,e,H)
 |r=>r
@[simp] theorem ek (id:Nat) (e:Env) (H:d9):inBlock id (some (.normal,e,H))=some (.normal,e,H):=rT
@[simp] theorem jn (id:Nat) (e:Env) (H:d9):inBlock id (some (.ret,e,H))=some (.ret,e,H):=rT
@[simp] theorem de (id i:Nat) (e:Env) (H:d9):inBlock id (some (.exit i,e,H))=if i=id then some (.normal,e,H) else some (.exit i,e,H):=rT
theorem fB{o:Op}{e:Env}{H:d9}{r:Value×Option d9}(h:aop P (CL P X) o e H=some r):∃k,aop P (call P X k) o e H=some r:=by
 by_cases u:∃c,o= .call c
 .obtain⟨c,rfl⟩:=u;simp only[aop,dS]at h ⊢;split at h
  .rename_i b z;exact⟨0,h⟩
  .rename_i f D;split at h
   .obtain⟨k,y⟩:=aN.1 h;exact⟨k,y⟩
   .cases h
  .cases h
 .refine⟨0,?_⟩;rw[<-h];cases o<;>first|rfl|(exact absurd ⟨_,rfl⟩ u)|(rename_i x;cases x<;>rfl)
theorem ax{ops:Array Oper}:∀(l:List Oper){e:Env}{H:d9}{r:Env×d9},C6 P (CL P X) ops l e H=some r->∃k,C6 P (call P X k) ops l e H=some r:=by
 intro l;induction l with
 |nil=>intro e H r h;exact⟨0,h⟩
 |cons o l U=>
  intro e H r h;simp only[C6]at h ⊢;by_cases y:U0 ops e o=true
  .rw[if_pos y]at h;cases h
  simp only[if_neg y]at h ⊢;split at h
  .rename_i D;cases S:aop P (CL P X) o.op e H with
   |none=>simp [S]at h
   |some z=>
    rw[S]at h;obtain⟨k1,J⟩:=fB S;obtain⟨v,z⟩:=z;have u:∀H',C6 P (CL P X) ops l (P7 e o.dst v) H'=some r->∃k,C6 P (call P X k) ops l (P7 e o.dst v) H'=some r/\aop P (call P X k) o.op e H=some (v,z):=by
     intro H' W;obtain⟨k2,O⟩:=U W;exact⟨max k1 k2,P3 (L6 _ _ (Nat.le_max_right _ _)) _ _ _ _ O,T8 (L6 _ _ (Nat.le_max_left _ _)) _ _ _ _ J⟩
    cases z with
    |none=>obtain⟨k,E,I⟩:=u _ h;exact⟨k,by rw[if_pos D,I];exact E⟩
    |some H'=>obtain⟨k,E,I⟩:=u _ h;exact⟨k,by rw[if_pos D,I];exact E⟩
  .rename_i D;obtain⟨k,hk⟩:=U h;exact⟨k,by rw[if_neg D];exact hk⟩
theorem lQ{ops:Array Oper}:∀(l:List Oper){i:Nat}{q:Bool}{e:Env}{H:d9}{r:Env×d9},F9 P (CL P X) ops i q l e H=some r->∃k,F9 P (call P X k) ops i q l e H=some r:=by
 intro l;induction l with
 |nil=>intro i q e H r h;exact⟨0,h⟩
 |cons o l O=>
  intro i q e H r h;simp only[F9]at h ⊢;by_cases D:U0 ops e o=true
  .rw[if_pos D]at h;cases h
  simp only[if_neg D]at h ⊢;split at h
  .rename_i E;cases I:aop P (CL P X) o.op e H with
   |none=>simp [I]at h
   |some z=>
    rw[I]at h;obtain⟨S,y⟩:=fB I;obtain⟨v,z⟩:=z;cases z with
    |none=>
     obtain⟨J,u⟩:=O h;exact⟨max S J,by rw[if_pos E,T8 (L6 _ _ (Nat.le_max_left _ _)) _ _ _ _ y];exact gY (L6 _ _ (Nat.le_max_right _ _)) _ _ _ _ _ _ u⟩
    |some H'=>
     simp only at h;split at h
     .obtain⟨J,u⟩:=ax _ h;refine⟨max S J,?_⟩;rw[if_pos E,T8 (L6 _ _ (Nat.le_max_left _ _)) _ _ _ _ y];simp only;rw[if_pos (by assumption)];exact P3 (L6 _ _ (Nat.le_max_right _ _)) _ _ _ _ u
     .cases h
  .rename_i E;obtain⟨k,U⟩:=O h;exact⟨k,by rw[if_neg E];exact U⟩
theorem mH{ops:Array Oper}:∀(l:List (Oper×Nat×Nat)){t:Nat}{J:List (Nat×d9)}{u:List (Op×Env×Value×Nat)}{e:Env}{H:d9}{r:Env×d9},I0 P (CL P X) ops t J u l e H=some r->∃k,I0 P (call P X k) ops t J u l e H=some r:=by
 intro l;induction l with
 |nil=>intro t J u e H r h;exact⟨0,h⟩
 |cons o l I=>
  obtain⟨o,lo,hi⟩:=o;intro t J u e H r h;simp only[I0]at h ⊢;by_cases E:U0 ops e o=true
  .rw[if_pos E]at h;cases h
  simp only[if_neg E]at h ⊢;split at h
  .rename_i D;split at h
   .rename_i y;cases W:aop P (CL P X) o.op e H with
    |none=>simp [W]at h
    |some z=>
     rw[W]at h;obtain⟨k1,S⟩:=fB W;obtain⟨v,z⟩:=z;simp only at h;split at h
     .rename_i hb;obtain⟨k2,U⟩:=I h;exact⟨max k1 k2,by rw[if_pos D,if_pos y,T8 (L6 _ _ (Nat.le_max_left _ _)) _ _ _ _ S];simp only;rw[if_pos hb];exact jx (L6 _ _ (Nat.le_max_right _ _)) _ _ _ _ _ _ _ U⟩
     .cases h
   .rename_i y;split at h
    .rename_i v hv;split at h
     .rename_i O;split at h
      .rename_i hc;obtain⟨k,q⟩:=I h;exact⟨k,by rw[if_pos D,if_neg y,if_pos O,if_pos hc];exact q⟩
      .cases h
     .rename_i O;obtain⟨k,q⟩:=I h;exact⟨k,by rw[if_pos D,if_neg y,if_neg O];exact q⟩
    .cases h
  .rename_i D;split at h
   .rename_i y;obtain⟨k,q⟩:=I h;exact⟨k,by rw[if_neg D,if_pos y];exact q⟩
   .rename_i y;obtain⟨k,q⟩:=I h;exact⟨k,by rw[if_neg D,if_neg y];exact q⟩
theorem oT{ops:Array Oper}{e:Env}{H:d9}{r:Env×d9}(h:Z2 P (CL P X) ops e H=some r):∃k,Z2 P (call P X k) ops e H=some r:=by
 unfold Z2 at h ⊢;split at h
 .rename_i u;split at h
  .rename_i y;obtain⟨k,q⟩:=mH _ h;exact⟨k,by rw[if_pos u,if_pos y];exact q⟩
  .cases h
 .rename_i u;obtain⟨k,q⟩:=lQ _ h;exact⟨k,by rw[if_neg u];exact q⟩
theorem qw:∀(k:Nat){c:Code}{e:Env}{H:d9}{r:Out×Env×d9},I7 P (CL P X) k c e H=some r->∃j,I7 P (call P X j) k c e H=some r:=by
 intro k;induction k with
 |zero=>intro c e H r h;cases h
 |succ k O=>
  intro c e H r h;have u:∀{j J:Nat}{c:Code}{e:Env}{H:d9}{r},j<=J->I7 P (call P X j) k c e H=some r->I7 P (call P X J) k c e H=some r:=fun D h=>Z5 (L6 _ _ D) _ _ lR _ _ _ _ h;cases c<;>simp only[I7]at h ⊢ <;>try exact⟨0,h⟩
  case region id ops S=>
   cases S
   .simp only[bF]at h ⊢;cases E:C6 P (CL P X) ops ops.toList e H with
    |none=>simp [E]at h
    |some z=>obtain⟨j,D⟩:=ax _ E;rw[E]at h;exact⟨j,by rw[D];exact h⟩
   .simp only[if_true]at h ⊢;cases E:Z2 P (CL P X) ops e H with
    |none=>simp [E]at h
    |some z=>obtain⟨j,D⟩:=oT E;rw[E]at h;exact⟨j,by rw[D];exact h⟩
  case seq x y=>
   cases hz:dW x y with
   |some z=>
    simp only[hz]at h ⊢;cases U:C6 P (CL P X) z.ops z.l1 e H with
    |none=>simp [U]at h
    |some q1=>
     cases h2:C6 P (CL P X) z.ops z.l2 e H with
     |none=>simp [U,h2]at h
     |some q2=>
      obtain⟨e1,H1⟩:=q1;obtain⟨e2,H2⟩:=q2;rw[U,h2]at h;obtain⟨o,e',H'⟩:=r;obtain⟨e3,H3,e4,H4,g1,g2,g3,rfl,rfl,rfl⟩:=S3 h;obtain⟨W,a1⟩:=ax _ U;obtain⟨J,I⟩:=ax _ h2;obtain⟨j3,a2⟩:=O g1;obtain⟨j4,a3⟩:=O g2;refine⟨max (max W J) (max j3 j4),?_⟩;rw[P3 (L6 _ _ (by omega:W<=max (max W J) (max j3 j4))) _ _ _ _ a1,P3 (L6 _ _ (by omega:J<=max (max W J) (max j3 j4))) _ _ _ _ I];exact eu (u oM a2) (u oM a3) g3
   |none=>
   simp only[hz]at h ⊢;cases E:I7 P (CL P X) k x e H with
   |none=>simp [E]at h
   |some z=>
    obtain⟨j,D⟩:=O E;rw[E]at h;obtain⟨o,e',H'⟩:=z;cases o with
    |normal=>
     obtain⟨J,I⟩:=O h;exact⟨max j J,by rw[u (Nat.le_max_left _ _) D];exact u (Nat.le_max_right _ _) I⟩
    |exit i=>exact⟨j,by rw[D];exact h⟩
    |ret=>exact⟨j,by rw[D];exact h⟩
  case cond x y z=>
   split at h
   .rename_i ht;obtain⟨j,D⟩:=O h;exact⟨j,D⟩
   .cases h
  case block id x=>
   cases E:I7 P (CL P X) k x e H with
   |none=>simp [E]at h
   |some z=>obtain⟨j,D⟩:=O E;rw[E]at h;exact⟨j,by rw[D];exact h⟩
  case loop x=>
   cases E:I7 P (CL P X) k x e H with
   |none=>simp [E]at h
   |some z=>
    obtain⟨j,D⟩:=O E;rw[E]at h;obtain⟨o,e',H'⟩:=z;cases o with
    |normal=>
     obtain⟨J,I⟩:=O h;exact⟨max j J,by rw[u (Nat.le_max_left _ _) D];exact u (Nat.le_max_right _ _) I⟩
    |exit i=>exact⟨j,by rw[D];exact h⟩
    |ret=>exact⟨j,by rw[D];exact h⟩
  case scope x=>obtain⟨j,D⟩:=O h;exact⟨j,D⟩
theorem Cv{f:FuncId}(E:X f=none)(args:LV)(H:d9):CL P X f args H=body P (EL P X) f args H:=by
 refine pA fun r=>⟨fun h=>?_,fun h=>?_⟩
 .obtain⟨k,u⟩:=aN.1 h;cases k with
  |zero=>cases u
  |succ k=>
   simp only[call,E]at u;refine iu (fun c e H r D=>?_) f args H r u;exact uV.2 ⟨k,Z5 (fun f args H r D=>aN.2 ⟨k,D⟩) k k lR c e H r D⟩
 .unfold body at h;split at h
  rotate_left
  .cases h
  rename_i c S U I;split at h
  rotate_left
  .cases h
  rename_i O;cases y:EL P X c (D8 0 args) ⟨H.bs,H.bs.length⟩with
  |none=>simp [y]at h
  |some z=>
   obtain⟨k,u⟩:=uV.1 y;obtain⟨j,J⟩:=qw k u;refine aN.2 ⟨max j k+1,?_⟩;simp only[call,E,body,I,if_pos O];rw[Z5 (L6 j (max j k) (Nat.le_max_left _ _)) k (max j k) (Nat.le_max_right _ _) _ _ _ _ J];rw[y]at h;exact h
theorem GO{f:FuncId}{g:LV->d9->Option (Value×Option d9)}(y:X f=some g)(args:LV)(H:d9):CL P X f args H=g args H:=by
 refine pA fun r=>⟨fun h=>?_,fun h=>aN.2 ⟨1,by simp only[call,y];exact h⟩⟩
 obtain⟨k,u⟩:=aN.1 h;cases k with
 |zero=>cases u
 |succ k=>simp only[call,y]at u;exact u
theorem wJ{X Y:Lib}(h:∀f,X f=Y f\/(X f=none/\fnA P f=none)):∀k,LeC (call P X k) (call P Y k):=by
 intro k;induction k with
 |zero=>intro f args H r u;cases u
 |succ k D=>
  intro f args H r u;simp only[call]at u ⊢;rcases h f with e|⟨e,z⟩
  .rw[<-e];split
   .rename_i g y;rw[y]at u;exact u
   .rename_i y;rw[y]at u;exact iu (Z5 D k k lR) f args H r u
  .rw[e]at u;simp only[body,z]at u;cases u
theorem Cw{X Y:Lib}(h:∀f,X f=Y f\/(X f=none/\fnA P f=none)):LeC (CL P X) (CL P Y):=by
 intro f args H r y;obtain⟨k,u⟩:=aN.1 y;exact aN.2 ⟨k,wJ h k f args H r u⟩
end
def zM(r:Option (Value×Option d9))(H:d9)(f:Value->d9->Option (Env×d9)):Of f (Option (Env×d9)):=
 match r with
 |some (v,none)=>f v H
 |some (v,some H')=>f v H'
 |none=>none
def AU(ops:Array Oper)(j:Nat)(b:Bool)(e:Env):Bool:=
 match(ops[j]?).bind (·.dst)with
 |some d=>isB (e.get d) b
 |none=>false
def Oh{α:Type}(v:Value)(x y:Option α):Of x (Of y (Option α)):=
 match v with
 | .bool t=>if t then x else y
 |_=>none
def u5(P:Program)(rs:List ResultVar)(H:d9)(x:Option (Out×Env×d9)):Option (Value×Option d9):=
 match x with
 |some (.exit _,_,_)=>none
 |some (_,e,H')=>(rs.mapM (L3 P e H')).map fun vs=>D4 (aA vs) H H'
 |none=>none
section
variable{P:Program}{X:Lib}
theorem GQ{f:FuncId}{c:Code}{u:Nat}{h:List ResultVar}(D:fnA P f=some (c,u,h))(y:X f=none)(args:LV)(E:args.length<=u)(H:d9):
  CL P X f args H=u5 P h H (EL P X c (D8 0 args) ⟨H.bs,H.bs.length⟩):=by
 rw[Cv y,body,D];simp only[if_pos E,u5];cases EL P X c (D8 0 args) ⟨H.bs,H.bs.length⟩with
 |none=>rfl
 |some z=>
  obtain⟨o,e,H'⟩:=z;cases o with
  |exit i=>rfl
  |normal=>simp only;cases List.mapM (L3 P e H') h<;>rfl
  |ret=>simp only;cases List.mapM (L3 P e H') h<;>rfl
theorem sY(v:Value)(H:d9)(f:Value->d9->Option (Env×d9)):zM (some (v,none)) H f=f v H:=rT
theorem sZ(v:Value)(H H':d9)(f:Value->d9->Option (Env×d9)):zM (some (v,some H')) H f=f v H':=rT
theorem mE(e:Env)(H:d9):ly (some (e,H))=some (.normal,e,H):=rT
theorem AP(k:Nat)(v:Value)(e:Env)(t:Nat):Env.get ((k,v)::e) t=if k=t then v else Env.get e t:=rT
theorem yk(e:Env)(d:Nat)(v:Value):P7 e (some d) v=(d,v)::e:=rT
theorem yj(e:Env)(v:Value):P7 e none v=e:=rT
theorem EM(e:Env)(t:Nat):opv e (.tmp t)=e.get t:=rT
theorem as0(e:Env)(v:Value):opv e (.const v)=v:=rT
theorem BF(e:Env)(f:FuncId):opv e (.func f)= .func (.func f) #[] #[]:=rT
def kp(v:Option Value):Option (Value×Option d9):=keep v
theorem Eg(v:Value):kp (some v)=some (v,none):=rT
def BM(c x y:Value):Option Value:=
 match c with
 | .bool t=>some (if t then x else y)
 |_=>none
theorem uk(t:Bool)(x y:Value):BM (.bool t) x y=some (if t=true then x else y):=by cases t<;>rfl
section
variable(C:A5)(e:Env)(H:d9)
theorem zn(x:Operand):aop P C (.move x) e H=kp (some (opv e x)):=rT
theorem sE(x:Operand):aop P C (.assign x) e H=kp (some (opv e x)):=rT
theorem zq(c x y:Operand):aop P C (.pick c x y) e H=kp (BM (opv e c) (opv e x) (opv e y)):=by
 simp only[aop,BM,kp];cases opv e c<;>rfl
theorem wh(t:TypeId):aop P C (.alloc t) e H=turn ((B8 P t).map fun z=>(.pointer (some ⟨H.next,0,none⟩),H.push (.cells z true 1))):=rT
theorem CD(t:TypeId)(x:Operand):aop P C (.box t x) e H=if(opv e x).cells.toList.all oC=true then some (.pointer (some ⟨H.next,0,none⟩),some (H.push (.cells (opv e x).cells.toList true 1))) else none:=rT
theorem wi(t:TypeId)(h:Array (Nat×Operand)):aop P C (.build t h) e H=kp (kl P t (h.toList.map fun p=>(p.1,opv e p.2))):=rT
theorem kf(t:TypeId)(n:Nat)(h:Array (Nat×Operand)):aop P C (.buildSlice t n h) e H=turn (O9 P H t n (h.toList.map fun p=>(p.1,opv e p.2))):=rT
theorem zl(t:TypeId)(a:Operand):aop P C (.load t a) e H=kp (ld P t H (opv e a)):=rT
theorem wu(t:TypeId)(a x:Operand):aop P C (.store t a x) e H=turn ((sto P t H (opv e a) (opv e x)).map fun H'=>(undef,H')):=rT
def EB(v:Value):Option Value:=
 match v with
 | .pointer (some a)=>some (.pointer (some a))
 | .func (.func g) f c=>some (.func (.func g) f c)
 |_=>none
theorem oD(x:Operand):aop P C (.nilCheck x) e H=kp (EB (opv e x)):=by
 simp only[aop,EB,kp];split<;>first|rfl|(split<;>first|rfl|simp_all)
theorem CC(op:BinOp)(t:TypeId)(x y:Operand)(h:TypeId):aop P C (.binOp op t x y h) e H=kp (E9 P op t (opv e x) (opv e y)):=rT
theorem GV(op:UnOp)(t:TypeId)(x:Operand):aop P C (.unOp op t x) e H=kp (unA op (opv e x)):=rT
theorem pS(s d:TypeId)(x:Operand):aop P C (.convert s d x) e H=W8 P H s d (opv e x):=rT
theorem zk(g:FuncId)(f c:Array Operand):aop P C (.makeFunc (.func g) f c) e H=some (.func (.func g) (f.toList.map (opv e)).toArray (c.toList.map (opv e)).toArray,none):=rT
theorem CE(t:TypeId):aop P C (.makeMap t none) e H=some (.map (some H.next),some (H.push (.map []))):=rT
theorem zm(t:TypeId)(l c:Operand):aop P C (.makeSlice t l c) e H=turn (V3 P H t (opv e l) (opv e c)):=rT
theorem wq(t:TypeId)(x:Operand)(lo h u:Option Operand):aop P C (.slice t x lo h u) e H=kp (Y7 P H t (opv e x) (lo.map (opv e)) (h.map (opv e)) (u.map (opv e))):=rT
theorem mn(t:TypeId)(x:Operand)(i:Nat):aop P C (.fieldAddr t x i) e H=kp (Z7 P t (opv e x) i):=rT
theorem wk(t:TypeId)(x:Operand)(i:Nat):aop P C (.field t x i) e H=kp (iA P t (opv e x) i):=rT
theorem mq(t:TypeId)(x i:Operand):aop P C (.indexAddr t x i) e H=kp (R9 P t (opv e x) (opv e i)):=rT
theorem wl(t:TypeId)(x i:Operand):aop P C (.index t x i) e H=kp (eo P t (opv e x) (opv e i)):=rT
theorem sF(t:TypeId)(m k:Operand)(ok:Bool):aop P C (.lookup t m k ok) e H=kp (aA5 P H t (opv e m) (opv e k) ok):=rT
theorem mr(t:TypeId)(m k v:Operand):aop P C (.mapUpdate t m k v) e H=turn ((V4 P H t (opv e m) (opv e k) (opv e v)).map fun H'=>(undef,H')):=rT
def uq(P:Program)(t:TypeId)(H:d9)(v:Value):Option (Value×Option d9):=
 match P.underlying t,v with
 |some .string,.string s=>some (.pointer (some ⟨H.next,0,none⟩),some (H.push (.iter s 0)))
 |_,_=>none
theorem wo(t:TypeId)(x:Operand):aop P C (.range t x) e H=uq P t H (opv e x):=rT
theorem zp(it:Operand):aop P C (.next it true) e H=gQ H (opv e it):=rT
def kv(v:Value)(i:Nat):Option Value:=
 match v with
 | .tuple vs=>if vs.toList.length<9 then vs.toList[i]? else none
 |_=>none
theorem kw(h:Array Value)(i:Nat):kv (.tuple h) i=if h.toList.length<9 then h.toList[i]? else none:=rT
theorem pU(x:Operand)(i:Nat):aop P C (.extract x i) e H=kp (kv (opv e x) i):=by
 simp only[aop,kv,kp];cases opv e x with
 |tuple u=>by_cases h:u.toList.length<9<;>simp only[h,if_true,if_false]<;>rfl
 |_=>rfl
theorem pR(b:Builtin)(xs:Array Operand)(ts:Array TypeId):aop P C (.call ⟨.builtin b,xs,ts⟩) e H=D3 P b ts.toList (xs.toList.map (opv e)) H:=rT
def dM(C:A5)(f:Value)(args:LV)(H:d9):Option (Value×Option d9):=
 match f with
 | .func (.func g) first captured=>C g (first.toList++args++captured.toList) H
 |_=>none
theorem pY(g:FuncId)(f c:Array Value)(args:LV):dM C (.func (.func g) f c) args H=C g (f.toList++args++c.toList) H:=rT
theorem zj(f:Operand)(xs:Array Operand)(ts:Array TypeId):aop P C (.call ⟨.value f,xs,ts⟩) e H=dM C (opv e f) (xs.toList.map (opv e)) H:=rT
theorem yK(v:Value)(H':d9):turn (some (v,H'))=some (v,some H'):=rT
theorem CH(t:TypeId)(k:IntKind)(a b:Int):E9 P .add t (.int k a) (.int k b)=some (.int k (k.wrap (a+b))):=by simp [E9]
theorem CQ(t:TypeId)(k:IntKind)(a b:Int):E9 P .sub t (.int k a) (.int k b)=some (.int k (k.wrap (a-b))):=by simp [E9]
theorem CO(t:TypeId)(k:IntKind)(a b:Int):E9 P .mul t (.int k a) (.int k b)=some (.int k (k.wrap (a*b))):=by simp [E9]
theorem CP(t:TypeId)(k:IntKind)(a b:Int)(h:b≠0):E9 P .rem t (.int k a) (.int k b)=some (.int k (a.tmod b)):=by simp [E9,h]
theorem CI(t:TypeId)(k:IntKind)(a b:Int):E9 P .and t (.int k a) (.int k b)=some (.int k (Go.bits .and k a b)):=by simp [E9]
theorem GX(t:TypeId)(k:IntKind)(a b:Int):E9 P .or t (.int k a) (.int k b)=some (.int k (Go.bits .or k a b)):=by simp [E9]
theorem CR(t:TypeId)(k:IntKind)(a b:Int):E9 P .xor t (.int k a) (.int k b)=some (.int k (Go.bits .xor k a b)):=by simp [E9]
theorem sJ(t:TypeId)(k:IntKind)(a b:Int):E9 P .andNot t (.int k a) (.int k b)=some (.int k (Go.bits .andNot k a b)):=by simp [E9]
theorem CN(t:TypeId)(k:IntKind)(a b:Int):E9 P .lss t (.int k a) (.int k b)=some (.bool (decide (a<b))):=by simp [E9]
theorem CM(t:TypeId)(k:IntKind)(a b:Int):E9 P .leq t (.int k a) (.int k b)=some (.bool (decide (a<=b))):=by simp [E9]
theorem CK(t:TypeId)(k:IntKind)(a b:Int):E9 P .gtr t (.int k a) (.int k b)=some (.bool (decide (b<a))):=by simp [E9]
theorem CJ(t:TypeId)(k:IntKind)(a b:Int):E9 P .geq t (.int k a) (.int k b)=some (.bool (decide (b<=a))):=by simp [E9]
theorem ap0(t:TypeId)(k:IntKind)(a b:Int):E9 P .eql t (.int k a) (.int k b)=some (.bool (decide (a=b))):=by simp [E9,eqA];rfl
theorem qf(t:TypeId)(k:IntKind)(a b:Int):E9 P .neq t (.int k a) (.int k b)=some (.bool (!decide (a=b))):=by simp [E9,eqA];rfl
theorem pG(a b:ByteArray):(a==b)=decide (a=b):=by
 rw[Bool.eq_iff_iff,decide_eq_true_iff]
 constructor
 .intro h;rw[beq_toListBytes,beq_iff_eq,ByteArray.toList_eq,ByteArray.toList_eq]at h;have u:=Array.toList_inj.1 h;obtain⟨a⟩:=a;obtain⟨b⟩:=b;simp only at u;rw[u]
 .rintro rfl;exact iy _
theorem qd(t:TypeId)(a b:ByteArray):E9 P .eql t (.string a) (.string b)=some (.bool (decide (a=b))):=by simp [E9,eqA,pG]
theorem qg(t:TypeId)(a b:ByteArray):E9 P .neq t (.string a) (.string b)=some (.bool (!decide (a=b))):=by simp [E9,eqA,pG]
theorem oG(t:TypeId)(a b:Bool)(h:rY P t=true):E9 P .eql t (.bool a) (.bool b)=some (.bool (a==b)):=by simp [E9,eqA,h]
theorem cV(t:TypeId)(a b:Bool)(h:rY P t=true):E9 P .neq t (.bool a) (.bool b)=some (.bool (!(a==b))):=by simp [E9,eqA,h]
theorem W7(t:TypeId)(a b:ByteArray)(h:a.size+b.size<=9223372036854775807):E9 P .add t (.string a) (.string b)=some (.string (a++b)):=by simp [E9,h]
theorem NT(b:Bool):unA .not (.bool b)=some (.bool !b):=rT
theorem NS(k:IntKind)(n:Int):unA .neg (.int k n)=some (.int k (k.wrap (0-n))):=rT
theorem bap(ts:List TypeId)(s x:Value):D3 P .append ts [s,x] H=fb P H ts s x:=rT
theorem bcp(ts:List TypeId)(s x:Value):D3 P .copy ts [s,x] H=je P H ts s x:=rT
end
theorem EA(b:Bool):L0 (.bool b)=true:=rT
theorem Nl(k:IntKind)(n:Int):L0 (.int k n)=true:=rT
theorem xS(s:ByteArray):L0 (.string s)=true:=rT
theorem BI(v:Value):aA [v]=v:=rT
theorem BJ(a b:Value):aA [a,b]= .tuple #[a,b]:=rT
theorem uj(a b c:Value):aA [a,b,c]= .tuple #[a,b,c]:=rT
theorem nG(a b:Value):L0 (.tuple #[a,b])=(na1 a&&na1 b):=by simp [L0]
theorem nI(a b c:Value):L0 (.tuple #[a,b,c])=(na1 a&&(na1 b&&na1 c)):=by simp [L0]
theorem Bt(b:Bool):na1 (.bool b)=true:=rT
theorem Ey(k:IntKind)(n:Int):na1 (.int k n)=true:=rT
theorem tY(s:ByteArray):na1 (.string s)=true:=rT
theorem xR(a:Addr)(n c:Nat):na1 (.slice (some a) n c)=false:=rT
theorem Ez:na1 (.slice none 0 0)=true:=rT
theorem Bu(a:Addr)(n c:Nat):L0 (.slice (some a) n c)=false:=rT
theorem Nm:L0 (.slice none 0 0)=true:=rT
theorem kj(h:List ResultVar)(H:d9)(e:Env)(H':d9):u5 P h H (some (.normal,e,H'))=(h.mapM (L3 P e H')).map fun u=>D4 (aA u) H H':=rT
theorem qh(h:List ResultVar)(H:d9)(e:Env)(H':d9):u5 P h H (some (.ret,e,H'))=(h.mapM (L3 P e H')).map fun u=>D4 (aA u) H H':=rT
theorem EV(e:Env)(H:d9)(t:Nat):[ResultVar.tmp t].mapM (L3 P e H)=some [e.get t]:=rT
theorem EW(e:Env)(H:d9)(t u:Nat):[ResultVar.tmp t,.tmp u].mapM (L3 P e H)=some [e.get t,e.get u]:=rT
theorem yw(e:Env)(H:d9)(t u v:Nat):[ResultVar.tmp t,.tmp u,.tmp v].mapM (L3 P e H)=some [e.get t,e.get u,e.get v]:=rT
end
def br{α:Type}(t:Bool)(x y:α):Of x (Of y α):=if t=true then x else y
theorem CT{α:Type}(x y:α):br true x y=x:=rT
theorem zu{α:Type}(x y:α):br false x y=y:=rT
theorem GZ{α:Type}(t:Bool)(x y:α):br (!t) x y=br t y x:=by cases t<;>rfl
section
variable{P:Program}{X:Lib}
@[congr] theorem NY {c:Code} {e e':Env} {H H':d9} (he:e=e') (hH:H=H'):EL P X c e H=EL P X c e' H':=by rw[he,hH]
@[congr] theorem EZ {C:A5} {ops:Array Oper} {l:List Oper} {e e':Env} {H H':d9} (he:e=e') (hH:H=H'):C6 P C ops l e H=C6 P C ops l e' H':=by rw[he,hH]
@[congr] theorem DY {ops:Array Oper} {j:Nat} {b:Bool} {e e':Env} (he:e=e'):AU ops j b e=AU ops j b e':=by rw[he]
end
theorem zL{α:Type}(t:Bool)(x y:Option α):Oh (.bool t) x y=br t x y:=by cases t<;>rfl
section
variable{P:Program}{X:Lib}
def Fu(r:Option (Value×Option d9))(f:Value->Option (Env×d9))(g:Value->d9->Option (Env×d9)):Of f (Of g (Option (Env×d9))):=
 match r with
 |some (v,none)=>f v
 |some (v,some H')=>g v H'
 |none=>none
theorem sU(v:Value)(f:Value->Option (Env×d9))(g:Value->d9->Option (Env×d9)):Fu (some (v,none)) f g=f v:=rT
theorem sV(v:Value)(H':d9)(f:Value->Option (Env×d9))(g:Value->d9->Option (Env×d9)):Fu (some (v,some H')) f g=g v H':=rT
theorem xF(f:Operand)(a:Array Operand)(t:Array TypeId):isCall (.call ⟨.value f,a,t⟩)=true:=rT
theorem xE(f:Builtin)(a:Array Operand)(t:Array TypeId):isCall (.call ⟨.builtin f,a,t⟩)=false:=rT
theorem qO(x:Operand):isCall (.move x)=false:=rT
theorem mA(x:Operand):isCall (.assign x)=false:=rT
theorem qP(x y z:Operand):isCall (.pick x y z)=false:=rT
theorem tM(o:BinOp)(t:TypeId)(x y:Operand)(u:TypeId):isCall (.binOp o t x y u)=false:=rT
theorem xG(o:UnOp)(t:TypeId)(x:Operand):isCall (.unOp o t x)=false:=rT
theorem qN(t:TypeId)(x:Operand):isCall (.load t x)=false:=rT
theorem oY(t:TypeId)(x:Operand)(i:Nat):isCall (.field t x i)=false:=rT
theorem iC(t:TypeId)(x:Operand)(i:Nat):isCall (.fieldAddr t x i)=false:=rT
theorem oZ(t:TypeId)(x i:Operand):isCall (.index t x i)=false:=rT
theorem iE(t:TypeId)(x i:Operand):isCall (.indexAddr t x i)=false:=rT
theorem kO(s t:TypeId)(x:Operand):isCall (.convert s t x)=false:=rT
theorem kP(x:Operand)(i:Nat):isCall (.extract x i)=false:=rT
theorem oX(t:TypeId)(p:Array (Nat×Operand)):isCall (.build t p)=false:=rT
theorem pd(t:TypeId)(x:Operand)(a b c:Option Operand):isCall (.slice t x a b c)=false:=rT
theorem mB(t:TypeId)(x y:Operand)(b:Bool):isCall (.lookup t x y b)=false:=rT
def brl{α:Type}(v:Value)(b:Bool)(x y:Option α):Of x (Of y (Option α)):=if tO v=true then none else if isB v b=true then x else y
theorem zw{α:Type}(t:Bool)(x y:Option α):brl (.bool t) true x y=br t x y:=by cases t<;>rfl
theorem wE{α:Type}(t:Bool)(x y:Option α):brl (.bool t) false x y=br t y x:=by cases t<;>rfl
theorem CU{α:Type}(b:Bool)(x y:Option α):brl undef b x y=y:=by cases b<;>rfl
end
section
variable{H:d9}{B:Blk}{b c:Nat}
theorem i5:(H.push B).next=H.next+1:=by simp [d9.next,d9.push]
theorem j5:(H.put b B).next=H.next:=by simp [d9.next,d9.put]
theorem i7:(H.push B).get H.next=some B:=by simp [d9.get,d9.push,d9.next]
theorem R2(h:b<=H.next/\H.next<=b):(H.push B).get b=some B:=by
 obtain rfl:b=H.next:=oM;exact i7
theorem j6(h:b<H.next):(H.push B).get b=H.get b:=by
 simp only[d9.get,d9.push];exact List.getElem?_append_left h
theorem i8(h:b<H.next):(H.put b B).get b=some B:=by
 simp only[d9.get,d9.put,List.getElem?_set];simp;exact h
theorem i9(h:b≠c):(H.put b B).get c=H.get c:=by
 simp only[d9.get,d9.put,List.getElem?_set,if_neg h]
theorem u6(h:H.get b=some B):b<H.next:=(gS h).1
theorem O7:(H.push B).low=H.low:=rT
theorem A4:(H.put b B).low=min H.low b:=rT
theorem vJ(bs:List Blk)(n:Nat):(⟨bs,n⟩:d9).next=bs.length:=rT
theorem qX(H:d9):H.bs.length=H.next:=rT
end
section
variable{P:Program}
def ldB(P:Program)(t:TypeId)(o:Nat)(B:Option Blk):Option Value:=
 match B with
 |some (.cells c _ _)=>
  match E7 P t with
  |some true=>
   match z9 P t with
   |some s=>if o+s<=c.length then some (.agg ((c.drop o).take s).toArray) else none
   |none=>none
  |some false=>c[o]?
  |none=>none
 |_=>none
theorem MW(t:TypeId)(H:d9)(b o:Nat):ld P t H (.pointer (some ⟨b,o,none⟩))=ldB P t o (H.get b):=by
 simp only[ld,ldB];cases H.get b with
 |none=>rfl
 |some B=>cases B<;>rfl
def ldC(a:Option Bool)(s:Option Nat)(o:Nat)(c:LV):Option Value:=
 match a with
 |some true=>
  match s with
  |some s=>if o+s<=c.length then some (.agg ((c.drop o).take s).toArray) else none
  |none=>none
 |some false=>c[o]?
 |none=>none
theorem xI(t:TypeId)(o:Nat)(c:LV)(own:Bool)(sz:Nat):ldB P t o (some (.cells c own sz))=ldC (E7 P t) (z9 P t) o c:=rT
theorem aA1(s o:Nat)(c:LV)(h:o+s<=c.length):ldC (some true) (some s) o c=some (.agg ((c.drop o).take s).toArray):=by simp [ldC,h]
theorem kB{α:Type}{enc:α->LV}{sz:Nat}(hs:∀a,(enc a).length=sz):∀{l:List α}{i:Nat}{a:α},l[i]?=some a->i*sz+sz<=(l.flatMap enc).length/\((l.flatMap enc).drop (i*sz)).take sz=enc a
 |[],i,a,h=>by simp at h
 |x::l,0,a,h=>by
  simp at h;subst h;have:=hs x;simp only[List.flatMap_cons,Nat.zero_mul,List.drop_zero,List.length_append,this,Nat.zero_add];refine⟨oM,?_⟩;rw[<-this,List.take_append_of_le_length lR,List.take_length]
 |x::l,i+1,a,h=>by
  have y:=hs x;obtain⟨z,u⟩:=kB hs (l:=l) (i:=i) (a:=a) (by simpa using h);have e:(i+1)*sz=(enc x).length+i*sz:=by rw[y,Nat.add_mul];omega
  rw[List.flatMap_cons,e];refine⟨by rw[List.length_append];omega,?_⟩;rw[<-List.drop_drop,List.drop_left];exact u
theorem Ej(s:Option Nat)(o:Nat)(c:LV):ldC (some false) s o c=c[o]?:=rT
theorem BQ(e:Env)(H:d9)(a:Nat)(t:TypeId):[ResultVar.cell a t].mapM (L3 P e H)=(ld P t H (e.get a)).map fun v=>[v]:=by
 simp only[List.mapM_cons,List.mapM_nil,L3];cases ld P t H (e.get a)<;>rfl
def x9(s:ByteArray)(i:Nat):Int:=(s.data.toList.getD i 0).toNat
def MO(d:Option TypeDesc)(s:ByteArray)(i:Nat):Option Value:=
 match d with
 |some .string=>some (.int .u8 (x9 s i))
 |_=>none
theorem AY(s:ByteArray)(i:Nat):MO (some .string) s i=some (.int .u8 (x9 s i)):=rT
theorem tL(t:TypeId)(s:ByteArray)(k:IntKind)(i:Int)(h:0<=i)(u:i<s.size):eo P t (.string s) (.int k i)=MO (P.underlying t) s i.toNat:=by
 simp only[eo,MO];cases P.underlying t with
 |none=>rfl
 |some d=>cases d<;>first|rfl|(simp [h,u,x9])
def Ea(P:Program)(d:Option TypeDesc)(cs:LV)(i:Int):Option Value:=
 match d with
 |some (.array n e)=>match z9 P e with
  |some size=>if 0<=i/\i<n then fq P e cs (i.toNat*size) else none
  |none=>none
 |_=>none
theorem xD(t:TypeId)(a:Array Value)(k:IntKind)(i:Int):eo P t (.agg a) (.int k i)=Ea P (P.underlying t) a.toList i:=by
 simp only[eo,Ea];cases P.underlying t with
 |none=>rfl
 |some d=>cases d<;>rfl
def MN(P:Program)(e:TypeId)(s:Option Nat)(cs:LV)(i:Int):Option Value:=
 match s with
 |some size=>fq P e cs (i.toNat*size)
 |none=>none
theorem AX(n:Nat)(e:TypeId)(cs:LV)(i:Int)(h:0<=i)(u:i<n):Ea P (some (.array n e)) cs i=MN P e (z9 P e) cs i:=by simp [Ea,MN,h,u]
theorem xC(e:TypeId)(s:Nat)(cs:LV)(i:Int):MN P e (some s) cs i=fq P e cs (i.toNat*s):=rT
def NO(P:Program)(t:TypeId)(H:d9)(b o:Nat)(x:LV)(B:Option Blk):Option d9:=
 match B with
 |some (.cells c true sz)=>if z9 P t=some x.length/\o+x.length<=c.length/\x.all Value.oneCell'=true then some (H.put b (.cells (splice c o x) true sz)) else none
 |_=>none
theorem Fj(t:TypeId)(H:d9)(b o:Nat)(x:Value):sto P t H (.pointer (some ⟨b,o,none⟩)) x=NO P t H b o x.cells.toList (H.get b):=by
 simp only[sto,NO];cases H.get b with
 |none=>rfl
 |some B=>cases B with
  |cells c own sz=>cases own<;>rfl
  |_=>rfl
theorem yC(t:TypeId)(H:d9)(b o:Nat)(x:LV)(c:LV)(sz:Nat):NO P t H b o x (some (.cells c true sz))=
  if z9 P t=some x.length/\o+x.length<=c.length/\x.all oC=true then some (H.put b (.cells (splice c o x) true sz)) else none:=rT
theorem wK(a:Array Value):(Value.agg a).cells.toList=a.toList:=rT
theorem wL(k:IntKind)(n:Int):(Value.int k n).cells.toList=[.int k n]:=rT
theorem aB0(b:Bool):(Value.bool b).cells.toList=[.bool b]:=rT
theorem oL(s:ByteArray):(Value.string s).cells.toList=[.string s]:=rT
theorem qj(a:Option Addr)(n c:Nat):(Value.slice a n c).cells.toList=[.slice a n c]:=rT
theorem mw(a:Option Addr):(Value.pointer a).cells.toList=[.pointer a]:=rT
theorem wM(a:Option Nat):(Value.map a).cells.toList=[.map a]:=rT
theorem sQ{f:_}(a c:Array Value):(Value.func f a c).cells.toList=[.func f a c]:=rT
theorem EG(k:IntKind)(n:Int):Value.oneCell' (.int k n)=true:=rT
theorem BD(b:Bool):Value.oneCell' (.bool b)=true:=rT
theorem uh(s:ByteArray):Value.oneCell' (.string s)=true:=rT
theorem ar9(a:Option Addr)(n c:Nat):Value.oneCell' (.slice a n c)=true:=rT
theorem rr(a:Option Addr):Value.oneCell' (.pointer a)=true:=rT
theorem EH(a:Option Nat):Value.oneCell' (.map a)=true:=rT
theorem BE{f:_}(a c:Array Value):Value.oneCell' (.func f a c)=true:=rT
theorem uL(c:LV)(o:Nat):splice c o []=c:=rT
theorem rR(c:LV)(o:Nat)(x:Value)(xs:LV):splice c o (x::xs)=splice (c.set o x) (o+1) xs:=rT
theorem Cc(x y:Value)(l:LV):(x::l).set 0 y=y::l:=rT
theorem Cb(x y:Value)(l:LV)(n:Nat):(x::l).set (n+1) y=x::l.set n y:=rT
def fF(P:Program)(q:Option (Nat×TypeId))(b o:Nat):Option Value:=
 match q with
 |some (off,ft)=>match z9 P ft with
  |some s=>if s=0 then none else some (.pointer (some ⟨b,o+off,none⟩))
  |none=>none
 |none=>none
theorem my(t:TypeId)(i b o:Nat):Z7 P t (.pointer (some ⟨b,o,none⟩)) i=fF P (E0 P t i) b o:=by
 simp only[Z7,fF];cases E0 P t i<;>rfl
def GK(s:Option Nat)(b o off:Nat):Option Value:=
 match s with
 |some s=>if s=0 then none else some (.pointer (some ⟨b,o+off,none⟩))
 |none=>none
theorem jC(h:Nat)(u:TypeId)(b o:Nat):fF P (some (h,u)) b o=GK (z9 P u) b o h:=rT
theorem uQ(s b o h:Nat):GK (some s) b o h=if s=0 then none else some (.pointer (some ⟨b,o+h,none⟩)):=rT
def BK(a:Option Bool)(s:Option Nat)(cs:LV)(off:Nat):Option Value:=
 match a,s with
 |some true,some s=>some (.agg ((cs.drop off).take s).toArray)
 |some false,_=>cs[off]?
 |_,_=>none
theorem EO(t:TypeId)(cs:LV)(h:Nat):fq P t cs h=BK (E7 P t) (z9 P t) cs h:=rT
theorem yg(s:Nat)(cs:LV)(h:Nat):BK (some true) (some s) cs h=some (.agg ((cs.drop h).take s).toArray):=rT
theorem yh(s:Option Nat)(cs:LV)(h:Nat):BK (some false) s cs h=cs[h]?:=rT
def tq(P:Program)(q:Option (Nat×TypeId))(a:LV):Option Value:=
 match q with
 |some (off,ft)=>fq P ft a off
 |none=>none
theorem xk(t:TypeId)(i:Nat)(a:Array Value):iA P t (.agg a) i=tq P (E0 P t i) a.toList:=by
 simp only[iA,tq];cases E0 P t i<;>rfl
theorem qy(h:Nat)(u:TypeId)(a:LV):tq P (some (h,u)) a=fq P u a h:=rT
def tH(s:Option Nat)(b o:Nat)(i:Int):Option Value:=
 match s with
 |some s=>some (.pointer (some ⟨b,o+i.toNat*s,none⟩))
 |none=>none
theorem xB(s b o:Nat)(i:Int):tH (some s) b o i=some (.pointer (some ⟨b,o+i.toNat*s,none⟩)):=rT
def MM(P:Program)(d:Option TypeDesc)(b o:Nat)(i:Int):Option Value:=
 match d with
 |some (.slice e)=>tH (z9 P e) b o i
 |_=>none
theorem tI(e:TypeId)(b o:Nat)(i:Int):MM P (some (.slice e)) b o i=tH (z9 P e) b o i:=rT
theorem jF(t:TypeId)(b o n c:Nat)(k:IntKind)(i:Int)(u:0<=i)(y:i<n):
  R9 P t (.slice (some ⟨b,o,none⟩) n c) (.int k i)=MM P (P.underlying t) b o i:=by
 simp only[R9,MM];cases h:P.underlying t with
 |none=>rfl
 |some d=>
  cases d<;>first|rfl|skip
  rename_i e;simp only[tH];cases z9 P e with
  |none=>rfl
  |some s=>simp [u,y]
def DZ(P:Program)(d:Option TypeDesc)(b o:Nat)(i:Int):Option Value:=
 match d with
 |some (.array m e)=>if 0<=i/\i<m then tH (z9 P e) b o i else none
 |_=>none
theorem tJ(m:Nat)(e:TypeId)(b o:Nat)(i:Int)(h:0<=i)(u:i<m):DZ P (some (.array m e)) b o i=tH (z9 P e) b o i:=by simp [DZ,h,u]
theorem jE(t:TypeId)(b o:Nat)(k:IntKind)(i:Int):R9 P t (.pointer (some ⟨b,o,none⟩)) (.int k i)=DZ P (P.underlying t) b o i:=by
 simp only[R9,DZ];cases h:P.underlying t with
 |none=>rfl
 |some d=>
  cases d<;>first|rfl|skip
  rename_i m e;simp only[tH];cases z9 P e with
  |none=>simp
  |some s=>rfl
theorem ED(a:Addr):EB (.pointer (some a))=some (.pointer (some a)):=rT
theorem EC(g:FuncId)(f c:Array Value):EB (.func (.func g) f c)=some (.func (.func g) f c):=rT
def sK(z:Option (LV))(q:Option (List (Nat×Nat)⊕Nat))(parts:List (Nat×Value)):Option Value:=
 match z,q with
 |some z,some (.inl ps)=>(Q6 (fun i=>ps[i]?) z parts).map fun l=> .agg l.toArray
 |some z,some (.inr s)=>(Q6 (fun i=>some (i*s,s)) z parts).map fun l=> .agg l.toArray
 |_,_=>none
theorem zy(t:TypeId)(h:List (Nat×Value)):kl P t h=sK (B8 P t) (bL P t) h:=rT
theorem mt(z:LV)(u:List (Nat×Nat))(h:List (Nat×Value)):sK (some z) (some (.inl u)) h=(Q6 (fun i=>u[i]?) z h).map fun l=> .agg l.toArray:=rT
theorem oH(z:LV)(s:Nat)(h:List (Nat×Value)):sK (some z) (some (.inr s)) h=(Q6 (fun i=>some (i*s,s)) z h).map fun l=> .agg l.toArray:=rT
theorem AK(h:Nat->Option (Nat×Nat))(cs:LV):Q6 h cs []=some cs:=rT
def AJ(place:Nat->Option (Nat×Nat))(cs:LV)(v:LV)(rest:List (Nat×Value))(q:Option (Nat×Nat)):Option (LV):=
 match q with
 |none=>none
 |some (off,size)=>if v.length=size/\off+size<=cs.length/\v.all Value.oneCell'=true then Q6 place (splice cs off v) rest else none
theorem xl(u:Nat->Option (Nat×Nat))(cs:LV)(i:Nat)(v:Value)(rest:List (Nat×Value)):Q6 u cs ((i,v)::rest)=AJ u cs v.cells.toList rest (u i):=by
 simp only[Q6,AJ];cases u i with
 |none=>rfl
 |some q=>
  simp only;cases z:v.cells.toList.all oC with
  |true=>
   by_cases h:v.cells.toList.length=q.2/\q.1+q.2<=cs.length
   .rw[if_neg (fun k=>by rcases k with k|k|k;exact k h.1;omega;cases k),if_pos ⟨h.1,h.2,rfl⟩]
   .rw[if_pos (by by_cases y:v.cells.toList.length=q.2;exact .inr (.inl oM);exact .inl y),if_neg (fun k=>h ⟨k.1,k.2.1⟩)]
  |false=>rw[if_pos (.inr (.inr rfl)),if_neg (fun k=>by cases k.2.2)]
theorem tu(h:Nat->Option (Nat×Nat))(cs:LV)(v:LV)(rest:List (Nat×Value))(u size:Nat):
  AJ h cs v rest (some (u,size))=if v.length=size/\u+size<=cs.length/\v.all oC=true then Q6 h (splice cs u v) rest else none:=rT
def bsB(z:Option (LV))(H:d9)(len:Nat)(parts:List (Nat×Value)):Option (Value×d9):=
 match z with
 |some z=>
  if z.length≠0/\len*z.length<=16777216/\(parts.all fun p=>p.2.cells.toList.all Value.oneCell')=true then
   (Q6 (fun i=>some (i*z.length,z.length)) (List.replicate len z).flatten parts).map fun cs=>(.slice (some ⟨H.next,0,none⟩) len len,H.push (.cells cs true z.length))
  else none
 |none=>none
def bsA(P:Program)(e:Option TypeId)(H:d9)(len:Nat)(parts:List (Nat×Value)):Option (Value×d9):=
 match e with
 |some e=>bsB (B8 P e) H len parts
 |none=>none
theorem mu(t:TypeId)(H:d9)(y:Nat)(u:List (Nat×Value)):O9 P H t y u=bsA P (I2 P t) H y u:=by
 simp only[O9,bsA];cases I2 P t with
 |none=>rfl
 |some e=>
  simp only[bsB];cases B8 P e with
  |none=>rfl
  |some z=>
   simp only;by_cases h:z.length≠0/\y*z.length<=16777216/\(u.all fun p=>p.2.cells.toList.all oC)=true
   .rw[if_pos h,if_neg (by rw[h.2.2];simp only[Bool.true_eq_false,or_false];omega)];cases Q6 (fun i=>some (i*z.length,z.length)) (List.replicate y z).flatten u<;>rfl
   .rw[if_neg h,if_pos];by_cases D:(u.all fun p=>p.2.cells.toList.all oC)=true
    .rw[D]at h ⊢;simp only[and_true,Bool.true_eq_false,or_false]at h ⊢;omega
    .exact .inr (.inr (by simpa using D))
theorem C7(e:TypeId)(H:d9)(u:Nat)(h:List (Nat×Value)):bsA P (some e) H u h=bsB (B8 P e) H u h:=rT
theorem C8(z:LV)(H:d9)(u:Nat)(h:List (Nat×Value)):bsB (some z) H u h=
  if z.length≠0/\u*z.length<=16777216/\(h.all fun p=>p.2.cells.toList.all oC)=true then
   (Q6 (fun i=>some (i*z.length,z.length)) (List.replicate u z).flatten h).map fun cs=>(.slice (some ⟨H.next,0,none⟩) u u,H.push (.cells cs true z.length))
  else none:=rT
def zP(s d:Option TypeDesc)(n:Int):Option (Value×Option d9):=
 match s,d with
 |some _,some (.int k)=>some (.int k (k.wrap n),none)
 |_,_=>none
theorem CZ(H:d9)(s d:TypeId)(k:IntKind)(n:Int):W8 P H s d (.int k n)=zP (P.underlying s) (P.underlying d) n:=by
 simp only[W8,zP];cases P.underlying s with
 |none=>rfl
 |some a=>cases P.underlying d with
  |none=>cases a<;>rfl
  |some b=>cases a<;>cases b<;>rfl
theorem td(a:TypeDesc)(k:IntKind)(n:Int):zP (some a) (some (.int k)) n=some (.int k (k.wrap n),none):=rT
def MY(d:Option TypeDesc)(s:ByteArray):Option (Value×Option d9):=
 match d with
 |some .string=>some (.int .i64 s.size,none)
 |some (.array n _)=>some (.int .i64 n,none)
 |_=>none
theorem El(H:d9)(t:TypeId)(s:ByteArray):D3 P .len [t] [.string s] H=MY (P.underlying t) s:=by
 simp only[D3,Bi,MY,List.head?_cons,Option.bind_some];cases P.underlying t with
 |none=>rfl
 |some d=>cases d<;>rfl
theorem Bj(s:ByteArray):MY (some .string) s=some (.int .i64 s.size,none):=rT
def MZ(d:Option TypeDesc)(n:Nat):Option (Value×Option d9):=
 match d with
 |some (.slice _)=>some (.int .i64 n,none)
 |some (.array m _)=>some (.int .i64 m,none)
 |_=>none
theorem Em(H:d9)(t:TypeId)(a:Option Addr)(n c:Nat):D3 P .len [t] [.slice a n c] H=MZ (P.underlying t) n:=by
 simp only[D3,Bi,MZ,List.head?_cons,Option.bind_some];cases P.underlying t with
 |none=>rfl
 |some d=>cases d<;>rfl
theorem tT(e:TypeId)(n:Nat):MZ (some (.slice e)) n=some (.int .i64 n,none):=rT
theorem wrap_small{n:Int}(h: -9223372036854775808<=n)(u:n<=9223372036854775807):IntKind.wrap .i64 n=n:=by
 simp [IntKind.wrap,IntKind.min,IntKind.max,IntKind.signed,IntKind.bits];omega
theorem dd(v:Value)(H H':d9)(u:L0 v=true)(h:H.next<=H'.low):D4 v H H'=(v,none):=by
 unfold D4;rw[u];simp only[Bool.true_and,decide_eq_true_eq];exact if_pos h
theorem qB(b:Bool)(H H':d9)(h:H.next<=H'.low):D4 (.bool b) H H'=(.bool b,none):=dd _ _ _ rfl h
theorem kA(k:IntKind)(n:Int)(H H':d9)(h:H.next<=H'.low):D4 (.int k n) H H'=(.int k n,none):=dd _ _ _ rfl h
theorem mz(s:ByteArray)(H H':d9)(h:H.next<=H'.low):D4 (.string s) H H'=(.string s,none):=dd _ _ _ rfl h
theorem tA(H H':d9)(h:H.next<=H'.low):D4 (.slice none 0 0) H H'=(.slice none 0 0,none):=dd _ _ _ rfl h
theorem qD(a b:Value)(H H':d9)(u:H.next<=H'.low):D4 (.tuple #[a,b]) H H'=br (na1 a&&na1 b) (.tuple #[a,b],none) (.tuple #[a,b],some ⟨H'.bs,min H.low H'.low⟩):=by
 unfold D4 br;rw[nG];by_cases h:(na1 a&&na1 b)=true
 .rw[if_pos h,h];simp only[Bool.true_and,decide_eq_true_eq];exact if_pos u
 .rw[if_neg h];simp only[Bool.not_eq_true]at h;rw[h];rfl
theorem qE(a b c:Value)(H H':d9)(u:H.next<=H'.low):D4 (.tuple #[a,b,c]) H H'=br (na1 a&&(na1 b&&na1 c)) (.tuple #[a,b,c],none) (.tuple #[a,b,c],some ⟨H'.bs,min H.low H'.low⟩):=by
 unfold D4 br;rw[nI];by_cases h:(na1 a&&(na1 b&&na1 c))=true
 .rw[if_pos h,h];simp only[Bool.true_and,decide_eq_true_eq];exact if_pos u
 .rw[if_neg h];simp only[Bool.not_eq_true]at h;rw[h];rfl
theorem oU(a:Addr)(n c:Nat)(H H':d9):D4 (.slice (some a) n c) H H'=(.slice (some a) n c,some ⟨H'.bs,min H.low H'.low⟩):=rT
theorem tz(u:Array Value)(H H':d9)(y:H.next<=H'.low):D4 (.agg u) H H'=br (u.toList.all na0) (.agg u,none) (.agg u,some ⟨H'.bs,min H.low H'.low⟩):=by
 unfold D4 br;have e:L0 (.agg u)=u.toList.all na0:=rT;rw[e];by_cases h:u.toList.all na0=true
 .rw[if_pos h,h];simp only[Bool.true_and,decide_eq_true_eq];exact if_pos y
 .rw[if_neg h];simp only[Bool.not_eq_true]at h;rw[h];rfl
theorem Br(b:Bool):na0 (.bool b)=true:=rT
theorem gO(k:IntKind)(n:Int):na0 (.int k n)=true:=rT
theorem tX(s:ByteArray):na0 (.string s)=true:=rT
theorem xQ(a:Addr)(n c:Nat):na0 (.slice (some a) n c)=false:=rT
theorem Ex:na0 (.slice none 0 0)=true:=rT
def u9(x:Option (Out×Env×d9))(G:Out->Env->d9->Prop):Of G Prop:=∃o e H,x=some (o,e,H)/\G o e H
theorem cQ(o:Out)(e:Env)(H:d9)(G:Out->Env->d9->Prop):u9 (some (o,e,H)) G=G o e H:=by
 refine propext ⟨?_,fun h=>⟨o,e,H,rfl,h⟩⟩;rintro⟨y,e',H',h,u⟩;cases h;exact u
def dy(n:Nat)(I:Nat->Env->d9->Prop)(Q:Out->Env->d9->Prop)(o:Out)(e:Env)(H:d9):Of n (Of I (Of Q Prop)):=
 match o with
 | .normal=>∃m,m<n/\I m e H
 | .exit i=>Q (.exit i) e H
 | .ret=>Q .ret e H
theorem i6{n:Nat}{I:Nat->Env->d9->Prop}{Q:Out->Env->d9->Prop}{e:Env}{H:d9}(m:Nat)(u:m<n)(h:I m e H):dy n I Q .normal e H:=⟨m,u,h⟩
theorem l7{n:Nat}{I:Nat->Env->d9->Prop}{Q:Out->Env->d9->Prop}{i:Nat}{e:Env}{H:d9}(h:Q (.exit i) e H):dy n I Q (.exit i) e H:=h
theorem A6{n:Nat}{I:Nat->Env->d9->Prop}{Q:Out->Env->d9->Prop}{e:Env}{H:d9}(h:Q .ret e H):dy n I Q .ret e H:=h
end
structure LOp where
 dst:Option Tmp
 op:Op
 guard:Option (Tmp×Bool)
structure ML where
 o:LOp
 turn:Bool
 rd:Bool
 lo:Nat
 hi:Nat
inductive E4 where
 |skip
 |ret
 |exit (id:Nat)
 |ops (l:List LOp)
 |draw (l:List (LOp×Bool))
 |mix (l:List ML)
 |seq (a b:E4)
 |cond (x:Operand) (a b:E4)
 |block (id:Nat) (a:E4)
 |loop (a:E4)
 |scope (a:E4)
 |coin (l1 l2:List LOp) (ds:List Nat) (b:E4)
def lop(ops:Array Oper)(o:Oper):Option LOp:=
 match o.guard with
 |none=>some ⟨o.dst,o.op,none⟩
 |some (j,b)=>match(ops[j]?).bind (·.dst)with
  |some d=>some ⟨o.dst,o.op,some (d,b)⟩
  |none=>none
def pp(ops:Array Oper):List Oper->Option (List LOp)
 |[]=>some []
 |o::r=>match lop ops o,pp ops r with
  |some x,some xs=>some (x::xs)
  |_,_=>none
def jq(ops:Array Oper):Nat->List Oper->Option (List (LOp×Bool))
 |_,[]=>some []
 |i,o::r=>match lop ops o,jq ops (i+1) r with
  |some x,some xs=>some ((x,vS ops i)::xs)
  |_,_=>none
def Bk(ops:Array Oper):List (Oper×Nat×Nat)->Option (List ML)
 |[]=>some []
 |(o,lo,hi)::r=>match lop ops o,Bk ops r with
  |some x,some xs=>some (⟨x,A8 o.op,rdK o.op,lo,hi⟩::xs)
  |_,_=>none
def d7:Code->Option E4
 | .skip=>some .skip
 | .ret=>some .ret
 | .exit id=>some (.exit id)
 | .region _ ops draw=>
  if draw then(if pq ops then(if jt ops (E6 ops.toList []) then(Bk ops (gL ops)).map .mix else none) else if Region.lexB .any ops then(jq ops 0 ops.toList).map .draw else none) else(pp ops ops.toList).map .ops
 | .seq a b=>match dW a b with
  |some z=>match pp z.ops z.l1,pp z.ops z.l2,d7 b with
   |some x,some y,some b'=>some (.coin x y z.ds b')
   |_,_,_=>none
  |none=>match d7 a,d7 b with
   |some x,some y=>some (.seq x y)
   |_,_=>none
 | .cond c a b=>match d7 a,d7 b with
  |some x,some y=>some (.cond c x y)
  |_,_=>none
 | .block id a=>(d7 a).map (.block id)
 | .loop a=>(d7 a).map .loop
 | .scope a=>(d7 a).map .scope
 |_=>none
section
variable{P:Program}
def ot(e:Env):Option (Tmp×Bool)->Bool
 |none=>true
 |some (d,b)=>isB (e.get d) b
def gI(e:Env):Option (Tmp×Bool)->Bool
 |none=>false
 |some (d,_)=>tO (e.get d)
def bO(P:Program)(C:A5):List LOp->Env->d9->Option (Env×d9)
 |[],e,H=>some (e,H)
 |o::rest,e,H=>
  if gI e o.guard then none else if ot e o.guard then
   match aop P C o.op e H with
   |some (v,none)=>bO P C rest (P7 e o.dst v) H
   |some (v,some H')=>bO P C rest (P7 e o.dst v) H'
   |none=>none
  else bO P C rest (P7 e o.dst undef) H
def eF(P:Program)(C:A5):Bool->List (LOp×Bool)->Env->d9->Option (Env×d9)
 |_,[],e,H=>some (e,H)
 |q,(o,t)::rest,e,H=>
  if gI e o.guard then none else if ot e o.guard then
   match aop P C o.op e H with
   |some (v,none)=>eF P C (q||isCall o.op) rest (P7 e o.dst v) H
   |some (v,some H')=>if !q&&t then bO P C (rest.map (·.1)) (P7 e o.dst v) H' else none
   |none=>none
  else eF P C q rest (P7 e o.dst undef) H
open Classical in
noncomputable def T2(P:Program)(C:A5):Nat->List (Nat×d9)->List (Op×Env×Value×Nat)->List ML->Env->d9->Option (Env×d9)
 |_,_,_,[],e,H=>some (e,H)
 |t,Ks,obs,⟨o,tn,rd,lo,hi⟩::rest,e,H=>
  if gI e o.guard then none else if ot e o.guard then
   if tn then
    match aop P C o.op e H with
    |some (v,r)=>if sS P obs (t+1) (r.getD H) then T2 P C (t+1) ((t,H)::Ks) obs rest (P7 e o.dst v) (r.getD H) else none
    |none=>none
   else
    match aop P noC o.op e H with
    |some (v,none)=>if rd then(if sR P o.op e v lo Ks then T2 P C t Ks ((o.op,e,v,hi)::obs) rest (P7 e o.dst v) H else none) else T2 P C t Ks obs rest (P7 e o.dst v) H
    |_=>none
  else if tn then T2 P C (t+1) ((t,H)::Ks) obs rest (P7 e o.dst undef) H
  else T2 P C t Ks obs rest (P7 e o.dst undef) H
noncomputable def F7(P:Program)(C:A5):Nat->E4->Env->d9->Option (Out×Env×d9)
 |0,_,_,_=>none
 |k+1,c,e,H=>
  match c with
  | .skip=>some (.normal,e,H)
  | .ret=>some (.ret,e,H)
  | .exit id=>some (.exit id,e,H)
  | .ops l=>
   match bO P C l e H with
   |some (e',H')=>some (.normal,e',H')
   |none=>none
  | .draw l=>
   match eF P C false l e H with
   |some (e',H')=>some (.normal,e',H')
   |none=>none
  | .mix l=>
   match T2 P C 0 [] [] l e H with
   |some (e',H')=>some (.normal,e',H')
   |none=>none
  | .seq a b=>
   match F7 P C k a e H with
   |some (.normal,e',H')=>F7 P C k b e' H'
   |r=>r
  | .cond x a b=>
   match opv e x with
   | .bool t=>F7 P C k (if t then a else b) e H
   |_=>none
  | .block id a=>
   match F7 P C k a e H with
   |some (.exit i,e',H')=>if i=id then some (.normal,e',H') else some (.exit i,e',H')
   |r=>r
  | .loop a=>
   match F7 P C k a e H with
   |some (.normal,e',H')=>F7 P C k (.loop a) e' H'
   |r=>r
  | .scope a=>F7 P C k a e H
  | .coin l1 l2 ds b=>
   match bO P C l1 e H,bO P C l2 e H with
   |some (e1,H1),some (e2,H2)=>kQ ds e H.next (F7 P C k b e1 H1) (F7 P C k b e2 H2)
   |_,_=>none
theorem li{ops:Array Oper}{o:Oper}{x:LOp}(h:lop ops o=some x)(e:Env):D6 ops e o=ot e x.guard/\x.op=o.op/\x.dst=o.dst/\U0 ops e o=gI e x.guard:=by
 unfold lop at h;unfold D6 U0;split at h
 .rename_i u;cases h;simp [u,ot,gI]
 .rename_i j b u;split at h
  .rename_i d y;cases h;simp [u,y,ot,gI]
  .cases h
theorem cF{ops:Array Oper}(C:A5):∀{l:List Oper}{u:List LOp},pp ops l=some u->∀e H,C6 P C ops l e H=bO P C u e H
 |[],u,h,e,H=>by simp only[pp,Option.some.injEq]at h;subst h;rfl
 |o::r,u,h,e,H=>by
  simp only[pp]at h;split at h
  .rename_i x xs J y;cases h;obtain⟨z,D,E,I⟩:=li J e;simp only[C6,bO,z,D,E,I,cF C y];rfl
  .cases h
theorem ny{ops:Array Oper}:∀{l:List Oper}{i:Nat}{u:List (LOp×Bool)},jq ops i l=some u->pp ops l=some (u.map (·.1))
 |[],i,u,h=>by simp only[jq,Option.some.injEq]at h;subst h;rfl
 |o::r,i,u,h=>by
  simp only[jq]at h;split at h
  .rename_i x xs z y;cases h;simp only[pp,z,ny y,List.map_cons]
  .cases h
theorem kT{ops:Array Oper}(u:Region.lexB .any ops=true)(C:A5):∀{l:List Oper}{i:Nat}{z:List (LOp×Bool)},jq ops i l=some z->∀q e H,F9 P C ops i q l e H=eF P C q z e H
 |[],i,z,h,q,e,H=>by simp only[jq,Option.some.injEq]at h;subst h;simp [F9,eF,u]
 |o::r,i,z,h,q,e,H=>by
  simp only[jq]at h;split at h
  .rename_i x xs O y;cases h;obtain⟨D,E,I,J⟩:=li O e;simp only[F9,eF,D,E,I,J,kT u C y,cF C (ny y)];rfl
  .cases h
theorem aA8{ops:Array Oper}(C:A5):∀{l:List (Oper×Nat×Nat)}{u:List ML},Bk ops l=some u->∀t Ks obs e H,I0 P C ops t Ks obs l e H=T2 P C t Ks obs u e H
 |[],u,h,t,Ks,obs,e,H=>by simp only[Bk,Option.some.injEq]at h;subst h;rfl
 |(o,lo,hi)::r,u,h,t,Ks,obs,e,H=>by
  simp only[Bk]at h;split at h
  .rename_i x xs J y;cases h;obtain⟨z,D,E,I⟩:=li J e;obtain⟨O,U,S⟩:=x;simp only at z D E I;subst D E;simp only[I0,T2,z,I,aA8 C y];rcases aop P noC o.op e H with _|⟨v,_|H2⟩<;>rcases aop P C o.op e H with _|⟨v2,H3⟩<;>rfl
  .cases h
theorem kY(C:A5):∀(k:Nat){c:Code}{l:E4},d7 c=some l->∀e H,I7 P C k c e H=F7 P C k l e H:=by
 intro k;induction k with
 |zero=>intro c l _ e H;rfl
 |succ k D=>
  intro c l h e H;cases c<;>simp only[d7]at h<;>try (cases h;done)
  case skip=>cases h;rfl
  case ret=>cases h;rfl
  case exit id=>cases h;rfl
  case region id ops I=>
   split at h
   .rename_i U;subst U;split at h
    .rename_i W;split at h
     .rename_i a1;obtain⟨E,u,rfl⟩:=Option.map_eq_some_iff.1 h;simp only[I7,F7,if_true,Z2,if_pos W,if_pos a1,aA8 C u];rfl
     .cases h
    .rename_i W;split at h
     .rename_i J;obtain⟨E,u,rfl⟩:=Option.map_eq_some_iff.1 h;simp only[I7,F7,if_true,Z2,if_neg W,kT J C u];rfl
     .cases h
   .rename_i U;obtain⟨E,u,rfl⟩:=Option.map_eq_some_iff.1 h;have:I=false:=by simpa using U
    subst this;simp only[I7,F7,bF,cF C u];rfl
  case seq a b=>
   split at h
   .rename_i z S;split at h
    .rename_i x y b' hx O hb;cases h;simp only[I7,S,F7,cF C hx,cF C O,D hb];rfl
    .cases h
   .rename_i S;split at h
    .rename_i x y hx O;cases h;simp only[I7,S,F7,D hx,D O];rfl
    .cases h
  case cond x a b=>
   split at h
   .rename_i y z O S;cases h;simp only[I7,F7];cases opv e x<;>first|rfl|skip
    rename_i t;cases t<;>simp [D O,D S]
   .cases h
  case block id a=>obtain⟨E,u,rfl⟩:=Option.map_eq_some_iff.1 h;simp only[I7,F7,D u];rfl
  case loop a=>
   obtain⟨E,u,rfl⟩:=Option.map_eq_some_iff.1 h;have h2:d7 (.loop a)=some (.loop E):=by simp [d7,u]
   simp only[I7,F7,D u,D h2];rfl
  case scope a=>obtain⟨E,u,rfl⟩:=Option.map_eq_some_iff.1 h;simp only[I7,F7,D u]
noncomputable def LE(P:Program)(X:Lib)(c:E4)(e:Env)(H:d9):Of c (Option (Out×Env×d9)):=lim fun k=>F7 P (CL P X) k c e H
theorem ff{C D:A5}(h:LeC C D):∀(l:List LOp)(e:Env)(H:d9),LeO (bO P C l e H) (bO P D l e H):=by
 intro l;induction l with
 |nil=>intro e H r u;exact u
 |cons o l I=>
  intro e H r u;simp only[bO]at u ⊢;by_cases y:gI e o.guard=true
  .rw[if_pos y]at u;cases u
  simp only[if_neg y]at u ⊢;split
  .rename_i E;rw[if_pos E]at u;cases z:aop P C o.op e H with
   |none=>simp [z]at u
   |some q=>
    rw[T8 h _ _ _ _ z];rw[z]at u;obtain⟨v,q⟩:=q;cases q with
    |none=>exact I _ _ _ u
    |some H'=>exact I _ _ _ u
  .rename_i E;rw[if_neg E]at u;exact I _ _ _ u
theorem uC{C D:A5}(h:LeC C D):∀(l:List (LOp×Bool))(q:Bool)(e:Env)(H:d9),LeO (eF P C q l e H) (eF P D q l e H):=by
 intro l;induction l with
 |nil=>intro q e H r u;exact u
 |cons o l J=>
  intro q e H r u;obtain⟨o,t⟩:=o;simp only[eF]at u ⊢;by_cases y:gI e o.guard=true
  .rw[if_pos y]at u;cases u
  simp only[if_neg y]at u ⊢;split
  .rename_i I;rw[if_pos I]at u;cases E:aop P C o.op e H with
   |none=>simp [E]at u
   |some x=>
    rw[T8 h _ _ _ _ E];rw[E]at u;obtain⟨v,x⟩:=x;cases x with
    |none=>exact J _ _ _ _ u
    |some H'=>
     simp only at u ⊢;split
     .rename_i z;rw[if_pos z]at u;exact ff h _ _ _ _ u
     .rename_i z;rw[if_neg z]at u;exact u
  .rename_i I;rw[if_neg I]at u;exact J _ _ _ _ u
theorem pF{C D:A5}(h:LeC C D):∀(l:List ML)(t:Nat)(Ks:List (Nat×d9))(obs:List (Op×Env×Value×Nat))(e:Env)(H:d9),LeO (T2 P C t Ks obs l e H) (T2 P D t Ks obs l e H):=by
 intro l;induction l with
 |nil=>intro t Ks obs e H r u;exact u
 |cons o l E=>
  obtain⟨o,tn,rd,lo,hi⟩:=o;intro t Ks obs e H r u;simp only[T2]at u ⊢;by_cases z:gI e o.guard=true
  .rw[if_pos z]at u;cases u
  simp only[if_neg z]at u ⊢;split
  .rename_i S;rw[if_pos S]at u;split
   .rename_i y;rw[if_pos y]at u;cases O:aop P C o.op e H with
    |none=>simp [O]at u
    |some x=>
     rw[T8 h _ _ _ _ O];rw[O]at u;obtain⟨v,x⟩:=x;simp only at u ⊢;split
     .rename_i I;rw[if_pos I]at u;exact E _ _ _ _ _ _ u
     .rename_i I;rw[if_neg I]at u;exact u
   .rename_i y;rw[if_neg y]at u;split at u
    .rename_i v W;split at u
     .rename_i J;rw[if_pos J];split at u
      .rename_i U;rw[if_pos U];exact E _ _ _ _ _ _ u
      .cases u
     .rename_i J;rw[if_neg J];exact E _ _ _ _ _ _ u
    .cases u
  .rename_i S;rw[if_neg S]at u;split
   .rename_i y;rw[if_pos y]at u;exact E _ _ _ _ _ _ u
   .rename_i y;rw[if_neg y]at u;exact E _ _ _ _ _ _ u
theorem bE{C D:A5}(h:LeC C D):∀(k J:Nat),k<=J->∀(c:E4)(e:Env)(H:d9),LeO (F7 P C k c e H) (F7 P D J c e H):=by
 intro k;induction k with
 |zero=>intro J _ c e H r u;cases u
 |succ k ih=>
  intro J hk c e H r u;obtain⟨J,rfl⟩:∃m,J=m+1:=⟨J-1,oM⟩
  have I:=fun c e H r(u:F7 P C k c e H=some r)=>ih J oM c e H r u;cases c<;>simp only[F7]at u ⊢ <;>try exact u
  case ops l=>
   cases E:bO P C l e H with
   |none=>simp [E]at u
   |some x=>rw[ff h _ _ _ _ E];rw[E]at u;exact u
  case draw l=>
   cases E:eF P C false l e H with
   |none=>simp [E]at u
   |some x=>rw[uC h _ _ _ _ _ E];rw[E]at u;exact u
  case mix l=>
   cases E:T2 P C 0 [] [] l e H with
   |none=>simp [E]at u
   |some x=>rw[pF h _ _ _ _ _ _ _ E];rw[E]at u;exact u
  case seq x y=>
   cases E:F7 P C k x e H with
   |none=>simp [E]at u
   |some z=>
    rw[I _ _ _ _ E];rw[E]at u;obtain⟨o,e',H'⟩:=z;cases o with
    |normal=>exact I _ _ _ _ u
    |exit id=>exact u
    |ret=>exact u
  case cond x y z=>
   split
   .rename_i t W;rw[W]at u;exact I _ _ _ _ u
   .rename_i U;split at u
    .rename_i t W;exact absurd W (U t)
    .exact u
  case block id x=>
   cases E:F7 P C k x e H with
   |none=>simp [E]at u
   |some z=>rw[I _ _ _ _ E];rw[E]at u;exact u
  case loop x=>
   cases E:F7 P C k x e H with
   |none=>simp [E]at u
   |some z=>
    rw[I _ _ _ _ E];rw[E]at u;obtain⟨o,e',H'⟩:=z;cases o with
    |normal=>exact I _ _ _ _ u
    |exit id=>exact u
    |ret=>exact u
  case scope x=>exact I _ _ _ _ u
  case coin l1 l2 ds b=>
   cases O:bO P C l1 e H with
   |none=>simp [O]at u
   |some q1=>
    cases S:bO P C l2 e H with
    |none=>simp [O,S]at u
    |some q2=>
     obtain⟨e1,H1⟩:=q1;obtain⟨e2,H2⟩:=q2;rw[O,S]at u;rw[ff h _ _ _ _ O,ff h _ _ _ _ S];obtain⟨o,e',H'⟩:=r;obtain⟨e3,H3,e4,H4,g1,g2,g3,rfl,rfl,rfl⟩:=S3 u;exact eu (I _ _ _ _ g1) (I _ _ _ _ g2) g3
theorem bQ{X:Lib}{c:E4}{e:Env}{H:d9}{r:Out×Env×d9}:LE P X c e H=some r↔∃k,F7 P (CL P X) k c e H=some r:=
 kZ fun k u h=>bE (fun _ _ _=>LeO.refl _) k u h c e H
variable{X:Lib}
theorem uW{c:E4}{e:Env}{H:d9}{y:Option (Out×Env×d9)}(z:∀k r,F7 P (CL P X) (k+1) c e H=some r->y=some r) (D:∀r,y=some r->∃k,F7 P (CL P X) k c e H=some r):LE P X c e H=y:=by
 refine pA fun r=>⟨fun h=>?_,fun h=>bQ.2 (D r h)⟩
 obtain⟨k,u⟩:=bQ.1 h;cases k with
 |zero=>cases u
 |succ k=>exact z k r u
theorem eT{k:Nat}{c:E4}{e:Env}{H:d9}:LeO (F7 P (CL P X) k c e H) (LE P X c e H):=fun r h=>bQ.2 ⟨k,h⟩
theorem aj7(e:Env)(H:d9):LE P X .skip e H=some (.normal,e,H):=uW (fun k r h=>h) fun r h=>⟨1,h⟩
theorem ak2(e:Env)(H:d9):LE P X .ret e H=some (.ret,e,H):=uW (fun k r h=>h) fun r h=>⟨1,h⟩
theorem aj6(id:Nat)(e:Env)(H:d9):LE P X (.exit id) e H=some (.exit id,e,H):=uW (fun k r h=>h) fun r h=>⟨1,h⟩
theorem ak3(a b:E4)(e:Env)(H:d9):LE P X (.seq a b) e H=u7 (LE P X a e H) (LE P X b):=by
 refine uW (fun k r h=>?_) fun r h=>?_
 .simp only[F7]at h;cases u:F7 P (CL P X) k a e H with
  |none=>simp [u]at h
  |some z=>
   rw[u]at h;rw[eT _ u];obtain⟨o,e',H'⟩:=z;cases o with
   |normal=>exact eT _ h
   |exit i=>exact h
   |ret=>exact h
 .cases u:LE P X a e H with
  |none=>simp [u,u7]at h
  |some z=>
   rw[u]at h;obtain⟨E,D⟩:=bQ.1 u;obtain⟨o,e',H'⟩:=z;have y:o≠ .normal->some (o,e',H')=some r->∃k,F7 P (CL P X) k (.seq a b) e H=some r:=by
    intro S O;refine⟨E+1,?_⟩;simp only[F7,D];cases o<;>first|exact absurd rfl S|exact O
   cases o with
   |normal=>
    obtain⟨I,J⟩:=bQ.1 h;refine⟨max E I+1,?_⟩;simp only[F7,bE (fun _ _ _=>LeO.refl _) E (max E I) (Nat.le_max_left _ _) _ _ _ _ D];exact bE (fun _ _ _=>LeO.refl _) I (max E I) (Nat.le_max_right _ _) _ _ _ _ J
   |exit i=>exact y sM h
   |ret=>exact y sM h
theorem Y0(a:E4)(e:Env)(H:d9):LE P X (.loop a) e H=u7 (LE P X a e H) (LE P X (.loop a)):=by
 refine uW (fun k r h=>?_) fun r h=>?_
 .simp only[F7]at h;cases u:F7 P (CL P X) k a e H with
  |none=>simp [u]at h
  |some z=>
   rw[u]at h;rw[eT _ u];obtain⟨o,e',H'⟩:=z;cases o with
   |normal=>exact eT _ h
   |exit i=>exact h
   |ret=>exact h
 .cases u:LE P X a e H with
  |none=>simp [u,u7]at h
  |some z=>
   rw[u]at h;obtain⟨E,D⟩:=bQ.1 u;obtain⟨o,e',H'⟩:=z;have y:o≠ .normal->some (o,e',H')=some r->∃k,F7 P (CL P X) k (.loop a) e H=some r:=by
    intro S O;refine⟨E+1,?_⟩;simp only[F7,D];cases o<;>first|exact absurd rfl S|exact O
   cases o with
   |normal=>
    obtain⟨I,J⟩:=bQ.1 h;refine⟨max E I+1,?_⟩;simp only[F7,bE (fun _ _ _=>LeO.refl _) E (max E I) (Nat.le_max_left _ _) _ _ _ _ D];exact bE (fun _ _ _=>LeO.refl _) I (max E I) (Nat.le_max_right _ _) _ _ _ _ J
   |exit i=>exact y sM h
   |ret=>exact y sM h
theorem aj4(x:Operand)(a b:E4)(e:Env)(H:d9){t:Bool}(h:opv e x= .bool t):LE P X (.cond x a b) e H=if t then LE P X a e H else LE P X b e H:=by
 refine uW (fun k r u=>?_) fun r u=>?_
 .simp only[F7,h]at u;cases t<;>exact eT _ u
 .cases t
  .obtain⟨k,y⟩:=bQ.1 u;exact⟨k+1,by simp only[F7,h];exact y⟩
  .obtain⟨k,y⟩:=bQ.1 u;exact⟨k+1,by simp only[F7,h];exact y⟩
theorem ai8(id:Nat)(a:E4)(e:Env)(H:d9):LE P X (.block id a) e H=inBlock id (LE P X a e H):=by
 refine uW (fun k r h=>?_) fun r h=>?_
 .simp only[F7]at h;cases u:F7 P (CL P X) k a e H with
  |none=>simp [u]at h
  |some z=>rw[u]at h;rw[eT _ u];exact h
 .cases u:LE P X a e H with
  |none=>simp [u,inBlock]at h
  |some z=>
   rw[u]at h;obtain⟨D,y⟩:=bQ.1 u;exact⟨D+1,by simp only[F7,y];exact h⟩
theorem aj0(a:E4)(e:Env)(H:d9):LE P X (.scope a) e H=LE P X a e H:=by
 refine uW (fun k r h=>?_) fun r h=>?_
 .exact eT _ h
 .obtain⟨y,u⟩:=bQ.1 h;exact⟨y+1,u⟩
theorem ak1(l:List LOp)(e:Env)(H:d9):LE P X (.ops l) e H=ly (bO P (CL P X) l e H):=by
 refine uW (fun k r h=>?_) fun r h=>⟨1,?_⟩
 .simp only[F7]at h;unfold ly;split at h
  .rename_i u;rw[u];exact h
  .cases h
 .simp only[F7];unfold ly at h;cases u:bO P (CL P X) l e H with
  |none=>simp [u]at h
  |some z=>simp only[u,Option.map_some]at h;exact h
theorem aj5(l:List (LOp×Bool))(e:Env)(H:d9):LE P X (.draw l) e H=ly (eF P (CL P X) false l e H):=by
 refine uW (fun k r h=>?_) fun r h=>⟨1,?_⟩
 .simp only[F7]at h;unfold ly;split at h
  .rename_i u;rw[u];exact h
  .cases h
 .simp only[F7];unfold ly at h;cases u:eF P (CL P X) false l e H with
  |none=>simp [u]at h
  |some z=>simp only[u,Option.map_some]at h;exact h
theorem yW{c:Code}{l:E4}(h:d7 c=some l)(e:Env)(H:d9):EL P X c e H=LE P X l e H:=by
 unfold EL LE
 congr 1
 funext k
 exact kY (CL P X) k h e H
def fnL(P:Program)(f:FuncId):Option (E4×Nat×List ResultVar):=
 match fnA P f with
 |some (c,nt,rs)=>match d7 c with
  |some l=>some (l,nt,rs)
  |none=>none
 |none=>none
theorem j8{f:FuncId}{l:E4}{u:Nat}{y:List ResultVar}(h:fnL P f=some (l,u,y))(z:X f=none)(args:LV)(I:args.length<=u)(H:d9):
  CL P X f args H=u5 P y H (LE P X l (D8 0 args) ⟨H.bs,H.next⟩):=by
 unfold fnL at h;split at h
 .rename_i c nt' J D;split at h
  .rename_i O E;cases h;rw[GQ D z args I H,yW E];rfl
  .cases h
 .cases h
theorem ai9(x:Operand)(a b:E4)(e:Env)(H:d9):LE P X (.cond x a b) e H=Oh (opv e x) (LE P X a e H) (LE P X b e H):=by
 cases h:opv e x with
 |bool t=>rw[aj4 x a b e H h];rfl
 |_=>
  refine uW (fun k r u=>?_) fun r u=>?_
  .simp only[F7,h]at u;cases u
  .simp only[Oh]at u;cases u
theorem BW(C:A5)(e:Env)(H:d9):bO P C [] e H=some (e,H):=rT
theorem ai5(dst:Option Tmp)(op:Op)(rest:List LOp)(e:Env)(H:d9):
  bO P (CL P X) (⟨dst,op,none⟩::rest) e H=zM (aop P (CL P X) op e H) H fun v H'=>bO P (CL P X) rest (P7 e dst v) H':=by
 simp only[bO,ot,gI,if_true,bF,zM]
 all_goals rfl
theorem aj9(dst:Option Tmp)(op:Op)(d:Tmp)(b:Bool)(rest:List LOp)(e:Env)(H:d9):
  bO P (CL P X) (⟨dst,op,some (d,b)⟩::rest) e H=
   brl (e.get d) b (zM (aop P (CL P X) op e H) H fun v H'=>bO P (CL P X) rest (P7 e dst v) H') (bO P (CL P X) rest (P7 e dst undef) H):=by
 simp only[bO,ot,gI,zM,brl];rfl
def Oj(q t:Bool)(x:Option (Env×d9)):Of x (Option (Env×d9)):=if(!q&&t)=true then x else none
theorem zX(x:Option (Env×d9)):Oj false true x=x:=rT
theorem yy(C:A5)(q:Bool)(e:Env)(H:d9):eF P C q [] e H=some (e,H):=rT
theorem ai4(q t:Bool)(dst:Option Tmp)(op:Op)(rest:List (LOp×Bool))(e:Env)(H:d9):
  eF P (CL P X) q ((⟨dst,op,none⟩,t)::rest) e H=
   Fu (aop P (CL P X) op e H) (fun v=>eF P (CL P X) (q||isCall op) rest (P7 e dst v) H) fun v H'=>Oj q t (bO P (CL P X) (rest.map (·.1)) (P7 e dst v) H'):=by
 simp only[eF,ot,gI,if_true,bF,Fu,Oj]
 all_goals rfl
theorem aj3(q t:Bool)(dst:Option Tmp)(op:Op)(d:Tmp)(b:Bool)(rest:List (LOp×Bool))(e:Env)(H:d9):
  eF P (CL P X) q ((⟨dst,op,some (d,b)⟩,t)::rest) e H=
   brl (e.get d) b (Fu (aop P (CL P X) op e H) (fun v=>eF P (CL P X) (q||isCall op) rest (P7 e dst v) H) fun v H'=>Oj q t (bO P (CL P X) (rest.map (·.1)) (P7 e dst v) H'))
    (eF P (CL P X) q rest (P7 e dst undef) H):=by
 simp only[eF,ot,gI,Fu,Oj,brl]
 all_goals rfl
theorem Cy(J l2:List LOp)(ds:List Nat)(b:E4)(e:Env)(H:d9):LE P X (.coin J l2 ds b) e H=kQ ds e H.next (u7 (ly (bO P (CL P X) J e H)) (LE P X b)) (u7 (ly (bO P (CL P X) l2 e H)) (LE P X b)):=by
 refine uW (fun k r h=>?_) fun r h=>?_
 .simp only[F7]at h;cases u:bO P (CL P X) J e H with
  |none=>simp [u]at h
  |some W=>
   cases D:bO P (CL P X) l2 e H with
   |none=>simp [u,D]at h
   |some q2=>
    obtain⟨e1,H1⟩:=W;obtain⟨e2,H2⟩:=q2;rw[u,D]at h;obtain⟨o,e',H'⟩:=r;obtain⟨e3,H3,e4,H4,y,z,O,rfl,rfl,rfl⟩:=S3 h;exact eu (eT _ y) (eT _ z) O
 .obtain⟨o,e',H'⟩:=r;obtain⟨e3,H3,e4,H4,y,z,O,rfl,rfl,rfl⟩:=S3 h;cases u:bO P (CL P X) J e H with
  |none=>rw[u]at y;cases y
  |some W=>
   cases D:bO P (CL P X) l2 e H with
   |none=>rw[D]at z;cases z
   |some q2=>
    rw[u]at y;rw[D]at z;obtain⟨E,S⟩:=bQ.1 y;obtain⟨I,U⟩:=bQ.1 z;refine⟨max E I+1,?_⟩;simp only[F7,u,D];exact eu (bE (fun _ _ _=>LeO.refl _) E (max E I) (Nat.le_max_left _ _) _ _ _ _ S) (bE (fun _ _ _=>LeO.refl _) I (max E I) (Nat.le_max_right _ _) _ _ _ _ U) O
theorem ak0(l:List ML)(e:Env)(H:d9):LE P X (.mix l) e H=ly (T2 P (CL P X) 0 [] [] l e H):=by
 refine uW (fun k r h=>?_) fun r h=>⟨1,?_⟩
 .simp only[F7]at h;unfold ly;split at h
  .rename_i u;rw[u];exact h
  .cases h
 .simp only[F7];unfold ly at h;cases u:T2 P (CL P X) 0 [] [] l e H with
  |none=>simp [u]at h
  |some z=>simp only[u,Option.map_some]at h;exact h
open Classical in
noncomputable def need{α:Type}(p:Prop)(x:Option α):Of x (Option α):=if p then x else none
theorem xT{α:Type}(x:Option α):need True x=x:=by unfold need;exact if_pos trivial
theorem tR(ds:List Nat)(e u y:Env)(n:Nat)(h H2:d9):kQ ds e n (some (.normal,u,h)) (some (.normal,y,H2))=need (L9 n h=L9 n H2) (some (.normal,ds.map (fun d=>(d,lost))++e,L9 n h)):=rT
def Oi(r:Option (Value×Option d9))(f:Value->Option (Env×d9)):Of f (Option (Env×d9)):=
 match r with
 |some (v,none)=>f v
 |_=>none
theorem sX(v:Value)(f:Value->Option (Env×d9)):Oi (some (v,none)) f=f v:=rT
def okV(x:Option (Value×Option d9))(v:Value):Prop:=x=some (v,none)
theorem Bx(v:Value):okV (some (v,none)) v=True:=by simp [okV]
def Eb(n m:Nat)(p:Prop):Prop:=n<=m->p
theorem AZ{n m:Nat}(p:Prop)(h:n<=m):Eb n m p=p:=propext ⟨fun q=>q h,fun q _=>q⟩
theorem Ec{n m:Nat}(p:Prop)(h:m<n):Eb n m p=True:=propext ⟨fun _=>trivial,fun _ q=>absurd q oM⟩
theorem zH(j:Nat)(H:d9):sS P [] j H=True:=rT
theorem wO(o:Op)(e:Env)(v:Value)(hi:Nat)(r:List (Op×Env×Value×Nat))(j:Nat)(H:d9):sS P ((o,e,v,hi)::r) j H=(Eb j hi (okV (aop P noC o e H) v)/\sS P r j H):=rT
theorem zG(o:Op)(e:Env)(v:Value)(lo:Nat):sR P o e v lo []=True:=rT
theorem wN(o:Op)(e:Env)(v:Value)(lo j:Nat)(K:d9)(r:List (Nat×d9)):sR P o e v lo ((j,K)::r)=(Eb lo j (okV (aop P noC o e K) v)/\sR P o e v lo r):=rT
section
variable(t:Nat)(Ks:List (Nat×d9))(obs:List (Op×Env×Value×Nat))(dst:Option Tmp)(op:Op)(d:Tmp)(b:Bool)(lo hi:Nat)(rest:List ML)(e:Env)(H:d9)
theorem Ev:T2 P (CL P X) t Ks obs [] e H=some (e,H):=rT
theorem aj2(h:Bool):T2 P (CL P X) t Ks obs (⟨⟨dst,op,none⟩,true,h,lo,hi⟩::rest) e H=
  zM (aop P (CL P X) op e H) H fun v H'=>need (sS P obs (t+1) H') (T2 P (CL P X) (t+1) ((t,H)::Ks) obs rest (P7 e dst v) H'):=by
 simp only[T2,ot,gI,if_true,bF,zM,need];cases aop P (CL P X) op e H with
 |none=>rfl
 |some z=>obtain⟨v,r⟩:=z;cases r<;>rfl
theorem ai7(h:Bool):T2 P (CL P X) t Ks obs (⟨⟨dst,op,some (d,b)⟩,true,h,lo,hi⟩::rest) e H=
  brl (e.get d) b (zM (aop P (CL P X) op e H) H fun v H'=>need (sS P obs (t+1) H') (T2 P (CL P X) (t+1) ((t,H)::Ks) obs rest (P7 e dst v) H')) (T2 P (CL P X) (t+1) ((t,H)::Ks) obs rest (P7 e dst undef) H):=by
 simp only[T2,ot,gI,if_true,zM,need,brl];cases aop P (CL P X) op e H with
 |none=>rfl
 |some z=>obtain⟨v,r⟩:=z;cases r<;>rfl
theorem ak4:T2 P (CL P X) t Ks obs (⟨⟨dst,op,none⟩,false,true,lo,hi⟩::rest) e H=
  Oi (aop P noC op e H) fun v=>need (sR P op e v lo Ks) (T2 P (CL P X) t Ks ((op,e,v,hi)::obs) rest (P7 e dst v) H):=by
 simp only[T2,ot,gI,if_true,Oi,need,bF]
theorem aj8:T2 P (CL P X) t Ks obs (⟨⟨dst,op,some (d,b)⟩,false,true,lo,hi⟩::rest) e H=
  brl (e.get d) b (Oi (aop P noC op e H) fun v=>need (sR P op e v lo Ks) (T2 P (CL P X) t Ks ((op,e,v,hi)::obs) rest (P7 e dst v) H)) (T2 P (CL P X) t Ks obs rest (P7 e dst undef) H):=by
 simp only[T2,ot,gI,if_true,Oi,need,bF,brl]
theorem aj1:T2 P (CL P X) t Ks obs (⟨⟨dst,op,none⟩,false,false,lo,hi⟩::rest) e H=
  Oi (aop P noC op e H) fun v=>T2 P (CL P X) t Ks obs rest (P7 e dst v) H:=by
 simp only[T2,ot,gI,if_true,Oi,bF]
theorem ai6:T2 P (CL P X) t Ks obs (⟨⟨dst,op,some (d,b)⟩,false,false,lo,hi⟩::rest) e H=
  brl (e.get d) b (Oi (aop P noC op e H) fun v=>T2 P (CL P X) t Ks obs rest (P7 e dst v) H) (T2 P (CL P X) t Ks obs rest (P7 e dst undef) H):=by
 simp only[T2,ot,gI,if_true,Oi,bF,brl]
end
theorem j7{B:E4}(I:Nat->Env->d9->Prop)(Q:Out->Env->d9->Prop)
  (u:∀n e H,I n e H->u9 (LE P X B e H) (dy n I Q)):∀n e H,I n e H->u9 (LE P X (.loop B) e H) Q:=by
 intro n;induction n using Nat.strongRecOn with
 |ind n J=>
  intro e H h;obtain⟨o,e',H',z,y⟩:=u n e H h;unfold u9;rw[Y0,z];cases o with
  |normal=>
   obtain⟨m,E,D⟩:=y;exact J m E e' H' D
  |exit i=>exact⟨_,_,_,rfl,y⟩
  |ret=>exact⟨_,_,_,rfl,y⟩
theorem fA(F:Option (Out×Env×d9)->Option (Out×Env×d9)){x:Option (Out×Env×d9)}{Q G:Out->Env->d9->Prop}(h:u9 x Q)(u:∀o e H,Q o e H->u9 (F (some (o,e,H))) G):u9 (F x) G:=by
 obtain⟨o,e,H,D,z⟩:=h;have y:=u o e H z;unfold u9 at y ⊢;rw[D];exact y
end
structure i4(lo:Nat)(H H':d9):Prop where
 next:H.next<=H'.next
 lowAll:∀k,k<=lo->k<=H.low->k<=H'.low
 get:∀j,j<lo->H'.get j=H.get j
theorem i4.low{lo:Nat}{H H':d9}(h:i4 lo H H')(q:lo<=H.low):lo<=H'.low:=h.lowAll lo lR q
theorem i4.weaken{lo u:Nat}{H H':d9}(h:i4 lo H H')(k:u<=lo):i4 u H H':=⟨h.next,fun j y=>h.lowAll j oM,fun j y=>h.get j oM⟩
theorem i4.refl(lo:Nat)(H:d9):i4 lo H H:=⟨lR,fun _ _ h=>h,fun _ _=>rfl⟩
theorem i4.trans{lo:Nat}{a b c:d9}(h:i4 lo a b)(k:i4 lo b c):i4 lo a c:=⟨Nat.le_trans h.next k.next,fun j u q=>k.lowAll j u (h.lowAll j u q),fun j u=>by rw[k.get j u,h.get j u]⟩
theorem i4.push{lo:Nat}{H:d9}{B:Blk}(h:lo<=H.next):i4 lo H (H.push B):=⟨by rw[i5];omega,fun _ _ q=>q,fun j u=>j6 oM⟩
theorem i4.put{lo b:Nat}{H:d9}{B:Blk}(h:lo<=b):i4 lo H (H.put b B):=⟨Nat.le_refl _ |> fun q=>by rw[j5];exact q,fun k y q=>by rw[A4];omega,fun j u=>i9 oM⟩
theorem i4.start(H:d9):i4 H.next H ⟨H.bs,H.next⟩:=⟨lR,fun _ h _=>h,fun _ _=>rfl⟩
theorem i4.ret{lo:Nat}{H H':d9}(h:i4 lo H H')(y:lo<=H'.low):i4 lo H ⟨H'.bs,min H.low H'.low⟩:=⟨h.next,fun k u q=>by simp only;omega,h.get⟩
def V8(H:d9)(lo sz:Nat)(v:Value)(n:Nat)(cs:LV):Prop:=
 (v= .slice none 0 0/\n=0/\cs=[])\/∃b,v= .slice (some ⟨b,0,none⟩) n (n+1)/\H.get b=some (.cells cs true sz)/\lo<=b/\cs.length=n*sz
theorem V8.push{H:d9}{lo sz:Nat}{v:Value}{n:Nat}{cs:LV}(h:V8 H lo sz v n cs)(B:Blk):V8 (H.push B) lo sz v n cs:=by
 rcases h with h|⟨b,y,u,z⟩
 .exact .inl h
 .exact .inr ⟨b,y,by rw[j6 (u6 u)];exact u,z⟩
theorem V8.put{H:d9}{lo sz:Nat}{v:Value}{n:Nat}{cs:LV}(h:V8 H lo sz v n cs){b:Nat}(B:Blk)(D:∀c,v= .slice (some ⟨c,0,none⟩) n (n+1)->b≠c):V8 (H.put b B) lo sz v n cs:=by
 rcases h with h|⟨c,u,y,z⟩
 .exact .inl h
 .exact .inr ⟨c,u,by rw[i9 (D c u)];exact y,z⟩
section
variable{P:Program}
theorem sI{t e:TypeId}{sz bytes:Nat}{z:LV}(X:P.underlying t=some (.slice e))(hs:z9 P e=some sz)(S:A7 P e=some bytes)(hz:B8 P e=some z)(h0:0<sz)(h1:0<bytes)
  {H:d9} {lo:Nat} {v:Value} {n:Nat} {cs:LV} (h:V8 H lo sz v n cs) {c m k:Nat} {el:LV} {own:Bool} {q:Nat} (hc:H.get c=some (.cells el own q)) (hm:0<m) (E:el.length=m*sz) (W:(n+m)*bytes<=140737488355328) (u:lo<=H.next):
  ∃v' H',fb P H [t,t] v (.slice (some ⟨c,0,none⟩) m k)=some (v',some H')/\V8 H' lo sz v' (n+m) (cs++el)/\i4 lo H H':=by
 have J:I2 P t=some e:=by simp [I2,X]
 have y:Z4 P H sz (some t) (.slice (some ⟨c,0,none⟩) m k)=some (m,el):=by
  simp only[Z4,Option.bind_some,X,dl,hc];rw[if_neg oM,if_pos oM];simp [<-E]
 have I:¬(sz=0\/bytes=0):=oM;rcases h with⟨rfl,rfl,rfl⟩|⟨b,rfl,U,O,D⟩
 .refine⟨.slice (some ⟨H.next,0,none⟩) m (m+1),H.push (.cells el true sz),?_,.inr ⟨H.next,by rw[Nat.zero_add],i7,u,by simpa using E⟩,i4.push u⟩;simp only[fb,List.head?_cons,Option.bind_some,J,hs,S,hz,List.getElem?_cons_succ,List.getElem?_cons_zero,if_neg I,y];rw[if_neg oM,if_pos (by simpa using W)]
 .have a1:=u6 U;refine⟨.slice (some ⟨H.next,0,none⟩) (n+m) (n+m+1),(H.put b .dead).push (.cells (cs++el) true sz),?_,.inr ⟨H.next,rfl,R2 ⟨by simp [j5],by simp [j5]⟩,u,by rw[List.length_append,D,E,Nat.add_mul]⟩,(i4.put O).trans (i4.push (by rw[j5];exact u))⟩;simp only[fb,List.head?_cons,Option.bind_some,J,hs,S,hz,List.getElem?_cons_succ,List.getElem?_cons_zero,if_neg I,y,U];rw[if_neg oM,if_pos W,if_pos (by simp;omega),if_neg oM];simp [<-D]
end
def dr(v:Value)(h:Option d9):Option (Value×Option d9):=some (v,h)
def Ret(x:Option (Value×Option d9))(H:d9)(Q:Value->d9->Prop):Prop:=∃v h H1,x=dr v h/\h.getD H=H1/\Q v H1
theorem wR(v:Value)(h:Option d9)(H:d9)(f:Value->d9->Option (Env×d9)):zM (dr v h) H f=f v (h.getD H):=by cases h<;>rfl
theorem qC(v:Value)(H H':d9)(Q:Value->d9->Prop)(u:L0 v=true->H.next<=H'.low->Q v H)(y:Q v ⟨H'.bs,min H.low H'.low⟩):∃w h,D4 v H H'=(w,h)/\Q w (h.getD H):=by
 unfold D4;by_cases h:(L0 v&&decide (H.bs.length<=H'.low))=true
 .rw[if_pos h];simp only[Bool.and_eq_true,decide_eq_true_eq]at h;exact⟨v,none,rfl,u h.1 h.2⟩
 .rw[if_neg h];exact⟨v,_,rfl,y⟩
theorem D7{v:Value}{H H':d9}{Q:Value->d9->Prop}(u:L0 v=true->H.next<=H'.low->Q v H)(y:Q v ⟨H'.bs,min H.low H'.low⟩):Ret (some (D4 v H H')) H Q:=by
 obtain⟨w,h,z,D⟩:=qC v H H' Q u y;exact⟨w,h,_,by rw[z,dr],rfl,D⟩
theorem ce{v:Value}{c:Bool}{H h:d9}{Q:Value->d9->Prop}(u:c=true->Q v H)(y:Q v h):Ret (some (br c (v,none) (v,some h))) H Q:=by
 cases c
 .exact⟨v,_,_,rfl,rfl,y⟩
 .exact⟨v,_,_,rfl,rfl,u rfl⟩
theorem V8.na{H H0:d9}{lo sz:Nat}{v:Value}{n:Nat}{cs:LV}(h:V8 H lo sz v n cs)(u:na1 v=true):V8 H0 lo sz v n cs:=by
 rcases h with h|⟨b,y,z,D⟩
 .exact .inl h
 .rw[y]at u;cases u
theorem V8.low{H:d9}{lo sz:Nat}{v:Value}{n:Nat}{cs:LV}(h:V8 H lo sz v n cs)(l:Nat):V8 ⟨H.bs,l⟩ lo sz v n cs:=by
 rcases h with h|⟨b,u,y,z⟩
 .exact .inl h
 .exact .inr ⟨b,u,y,z⟩
theorem l9(F:Option (Out×Env×d9)->Prop){x:Option (Out×Env×d9)}{Q:Out->Env->d9->Prop}(h:u9 x Q)(u:∀o e H,Q o e H->F (some (o,e,H))):F x:=by
 obtain⟨o,e,H,z,y⟩:=h;rw[z];exact u o e H y
section
variable{P:Program}
def ut(d:Option TypeDesc)(H:d9)(s:ByteArray):Option (Value×Option d9):=
 match d with
 |some .string=>some (.pointer (some ⟨H.next,0,none⟩),some (H.push (.iter s 0)))
 |_=>none
theorem ur(t:TypeId)(H:d9)(s:ByteArray):uq P t H (.string s)=ut (P.underlying t) H s:=by
 unfold uq ut;cases P.underlying t with
 |none=>rfl
 |some d=>cases d<;>rfl
theorem uu(H:d9)(s:ByteArray):ut (some .string) H s=some (.pointer (some ⟨H.next,0,none⟩),some (H.push (.iter s 0))):=rT
def Bw(x:Option Blk)(H:d9)(b:Nat):Option (Value×Option d9):=
 match x with
 |some (.iter s pos)=>br (decide (pos<s.size)) (some (.tuple #[.bool true,.int .i64 pos,.int .i32 (Utf8.decode s pos).1],some (H.put b (.iter s (pos+(Utf8.decode s pos).2))))) (some (.tuple #[.bool false],none))
 |_=>none
theorem xU(H:d9)(b:Nat):gQ H (.pointer (some ⟨b,0,none⟩))=Bw (H.get b) H b:=by
 unfold gQ Bw;simp only;generalize H.get b=q;cases q with
 |none=>rfl
 |some x=>cases x<;>simp [br,goInt]
theorem ud(s:ByteArray)(h:Nat)(H:d9)(b:Nat):Bw (some (.iter s h)) H b=br (decide (h<s.size)) (some (.tuple #[.bool true,.int .i64 h,.int .i32 (Utf8.decode s h).1],some (H.put b (.iter s (h+(Utf8.decode s h).2))))) (some (.tuple #[.bool false],none)):=rT
theorem U8(s:ByteArray)(i:Nat):1<=(Utf8.decode s i).2:=by
 unfold Utf8.decode;simp only;split
 .simp
 .split
  .split<;>simp
  .split
   .split<;>simp
   .split
    .split<;>simp
    .simp
end
theorem i4.first(H:d9)(B:Blk):i4 H.next H (d9.push ⟨H.bs,H.next⟩ B):=(i4.start H).trans (i4.push lR)
def SlI(H:d9)(lo sz:Nat){α:Type}(R:LV->α->Prop)(v:Value)(l:List α):Prop:=
 (v= .slice none 0 0/\l=[])\/
 ∃b o c,v= .slice (some ⟨b,o,none⟩) l.length c/\
  (l=[]\/∃cs own,b<lo/\H.get b=some (.cells cs own sz)/\o+l.length*sz<=cs.length/\∀(i:Nat) a,l[i]?=some a->R ((cs.drop (o+i*sz)).take sz) a)
theorem SlI.mono{H H':d9}{lo u sz:Nat}{α:Type}{R y:LV->α->Prop}{v:Value}{l:List α}(h:SlI H lo sz R v l)(O:∀j,j<lo->H'.get j=H.get j) (U:lo<=u) (J:∀cs a,R cs a->y cs a):SlI H' u sz y v l:=by
 rcases h with h|⟨b,o,c,W,h⟩
 .exact .inl h
 .refine .inr ⟨b,o,c,W,?_⟩;rcases h with h|⟨cs,own,z,D,E,I⟩
  .exact .inl h
  .exact .inr ⟨cs,own,oM,by rw[O b z];exact D,E,fun i a S=>J _ _ (I i a S)⟩
theorem SlI.form{H:d9}{lo sz:Nat}{α:Type}{R:LV->α->Prop}{v:Value}{l:List α}(h:SlI H lo sz R v l):
  (v= .slice none 0 0/\l=[])\/(∃b o c,v= .slice (some ⟨b,o,none⟩) 0 c/\l=[])\/
  ∃b o c cs own,v= .slice (some ⟨b,o,none⟩) l.length c/\0<l.length/\b<lo/\H.get b=some (.cells cs own sz)/\o+l.length*sz<=cs.length/\∀(i:Nat) a,l[i]?=some a->R ((cs.drop (o+i*sz)).take sz) a:=by
 rcases h with h|⟨b,o,c,u,h⟩
 .exact .inl h
 .rcases h with h|⟨cs,own,z,D,E,I⟩
  .subst h;exact .inr (.inl ⟨b,o,c,u,rfl⟩)
  .by_cases y:l=[]
   .subst y;exact .inr (.inl ⟨b,o,c,u,rfl⟩)
   .exact .inr (.inr ⟨b,o,c,cs,own,u,List.length_pos_iff.2 y,z,D,E,I⟩)
theorem SlI.slice{H:d9}{lo sz:Nat}{α:Type}{R:LV->α->Prop}{v:Value}{l:List α}(h:SlI H lo sz R v l):∃a c,v= .slice a l.length c:=by
 rcases h with⟨h,u⟩|⟨b,o,c,y,h⟩
 .exact⟨none,0,by rw[h,u];rfl⟩
 .exact⟨_,_,y⟩
theorem SlI.at_{H:d9}{lo sz:Nat}{α:Type}{R:LV->α->Prop}{v:Value}{l:List α}(h:SlI H lo sz R v l){i:Nat}{a:α}(y:l[i]?=some a):
  ∃b o c cs own,v= .slice (some ⟨b,o,none⟩) l.length c/\b<lo/\H.get b=some (.cells cs own sz)/\o+i*sz+sz<=cs.length/\R ((cs.drop (o+i*sz)).take sz) a:=by
 have u:i<l.length:=(gS y).1;rcases h with⟨_,h⟩|⟨b,o,c,I,h⟩
 .subst h;simp at u
 .rcases h with h|⟨cs,own,z,D,J,E⟩
  .subst h;simp at u
  .refine⟨b,o,c,cs,own,I,z,D,?_,E i a y⟩;have:(i+1)*sz<=l.length*sz:=Nat.mul_le_mul_right _ u;rw[Nat.add_mul]at this;omega
theorem pE{cs enc:LV}{o sz:Nat}(h:o+sz<=cs.length)(u:(cs.drop o).take sz=enc):ldC (some true) (some sz) o cs=some (.agg enc.toArray):=by rw[aA1 _ _ _ h,u]
theorem lP{cs enc:LV}{o sz k:Nat}(h:k<sz)(u:(cs.drop o).take sz=enc):cs[o+k]?=enc[k]?:=by
 rw[<-u,List.getElem?_take,if_pos h,List.getElem?_drop]
def aP(H:d9)(lo sz:Nat)(v:Value)(n:Nat)(cs:LV):Prop:=
 (v= .slice none 0 0/\n=0/\cs=[])\/∃b c,v= .slice (some ⟨b,0,none⟩) n c/\H.get b=some (.cells cs true sz)/\lo<=b/\cs.length=n*sz
theorem aP.mono{H H':d9}{lo u sz:Nat}{v:Value}{n:Nat}{cs:LV}(h:aP H lo sz v n cs)(J:u<=lo)(E:∀j,j<H.next->H'.get j=H.get j):aP H' u sz v n cs:=by
 rcases h with h|⟨b,c,z,y,I,D⟩
 .exact .inl h
 .exact .inr ⟨b,c,z,by rw[E b (u6 y)];exact y,oM,D⟩
theorem V8.ownC{H:d9}{lo sz:Nat}{v:Value}{n:Nat}{cs:LV}(h:V8 H lo sz v n cs):aP H lo sz v n cs:=by
 rcases h with h|⟨b,u,y⟩
 .exact .inl h
 .exact .inr ⟨b,_,u,y⟩
theorem aP.slice{H:d9}{lo sz:Nat}{v:Value}{n:Nat}{cs:LV}(h:aP H lo sz v n cs):∃a c,v= .slice a n c:=by
 rcases h with⟨h,rfl,_⟩|⟨b,c,u,_⟩
 .exact⟨none,0,h⟩
 .exact⟨_,_,u⟩
theorem aP.cells{H:d9}{lo sz:Nat}{v:Value}{n:Nat}{cs:LV}(h:aP H lo sz v n cs)(z:0<sz):∃a c,v= .slice a n c/\dl H sz (.slice a n c)=some cs:=by
 rcases h with⟨rfl,rfl,rfl⟩|⟨b,c,rfl,y,D,E⟩
 .exact⟨none,0,rfl,rfl⟩
 .refine⟨_,_,rfl,?_⟩;simp only[dl,y];by_cases u:n=0
  .subst u;have:cs=[]:=List.length_eq_zero_iff.1 oM;simp [this]
  .rw[if_neg u,if_pos oM,List.drop_zero,List.take_of_length_le oM]
def D2{α:Type}(sz:Nat)(R:LV->α->Prop)(cs:LV)(l:List α):Prop:=
 cs.length=l.length*sz/\∀(i:Nat) a,l[i]?=some a->R ((cs.drop (i*sz)).take sz) a
theorem D2.append{α:Type}{sz:Nat}{R:LV->α->Prop}{c1 c2:LV}{u l2:List α}(h:D2 sz R c1 u)(k:D2 sz R c2 l2):D2 sz R (c1++c2) (u++l2):=by
 refine⟨by rw[List.length_append,List.length_append,h.1,k.1,Nat.add_mul],fun i a y=>?_⟩;by_cases D:i<u.length
 .rw[List.getElem?_append_left D]at y;have:=h.2 i a y;have z:(i+1)*sz<=u.length*sz:=Nat.mul_le_mul_right _ D;rw[Nat.add_mul]at z;rw[List.drop_append_of_le_length (by rw[h.1];omega),List.take_append_of_le_length (by rw[List.length_drop,h.1];omega)];exact this
 .rw[List.getElem?_append_right oM]at y;have:=k.2 _ a y;have e:i*sz=c1.length+(i-u.length)*sz:=by rw[h.1,<-Nat.add_mul];congr 1;omega
  rw[e,<-List.drop_drop,List.drop_left];exact this
theorem SlI.cells{H:d9}{lo sz:Nat}{α:Type}{R:LV->α->Prop}{v:Value}{l:List α}(h:SlI H lo sz R v l):∃el,dl H sz v=some el/\D2 sz R el l:=by
 rcases h.form with⟨rfl,rfl⟩|⟨b,o,c,rfl,rfl⟩|⟨b,o,c,cs,own,rfl,J,O,z,D,E⟩
 .exact⟨[],rfl,by simp [D2]⟩
 .exact⟨[],by simp [dl],by simp [D2]⟩
 .refine⟨(cs.drop o).take (l.length*sz),by simp only[dl,z];rw[if_neg oM,if_pos D],by rw[List.length_take,List.length_drop];omega,fun i a y=>?_⟩;have:=E i a y;have I:i<l.length:=(gS y).1;have u:(i+1)*sz<=l.length*sz:=Nat.mul_le_mul_right _ I;rw[Nat.add_mul]at u;rw[List.drop_take,List.take_take,List.drop_drop,Nat.min_eq_left oM];exact this
theorem D2.mono{α:Type}{sz:Nat}{R u:LV->α->Prop}{c:LV}{l:List α}(h:D2 sz R c l)(y:∀cs a,R cs a->u cs a):D2 sz u c l:=⟨h.1,fun i a z=>y _ _ (h.2 i a z)⟩
theorem aP.sl{H:d9}{lo sz:Nat}{α:Type}{R:LV->α->Prop}{v:Value}{l:List α}{cs:LV}(h:aP H lo sz v l.length cs)(z:D2 sz R cs l):SlI H H.next sz R v l:=by
 rcases h with⟨h,u,_⟩|⟨b,c,y,u,E,I⟩
 .exact .inl ⟨h,List.length_eq_zero_iff.1 u⟩
 .refine .inr ⟨b,0,c,y,.inr ⟨cs,true,u6 u,u,oM,fun i a D=>?_⟩⟩;rw[Nat.zero_add];exact z.2 i a D
theorem BU{α:Type}{sz:Nat}{enc:α->LV}(hs:∀a,(enc a).length=sz) (l:List α):D2 sz (fun cs a=>cs=enc a) (l.flatMap enc) l:=by
 refine⟨?_,fun i a h=>(kB hs h).2⟩;induction l with
 |nil=>simp
 |cons x l u=>rw[List.flatMap_cons,List.length_append,hs,u,List.length_cons,Nat.add_mul];omega
theorem pW{P:Program}{t e:TypeId}{sz bytes:Nat}{z:LV}(ht:P.underlying t=some (.slice e))(hs:z9 P e=some sz)(O:A7 P e=some bytes)(W:B8 P e=some z)(h0:0<sz)(h1:0<bytes)
  {H:d9} {lo:Nat} {v:Value} {n:Nat} {cs:LV} (h:aP H lo sz v n cs) {a:Option Addr} {m k:Nat} {el:LV} (hx:dl H sz (.slice a m k)=some el) (J:el.length=m*sz) (hr:(n+m)*bytes<=140737488355328) (y:lo<=H.next):
  Ret (fb P H [t,t] v (.slice a m k)) H fun v' H'=>aP H' lo sz v' (n+m) (cs++el)/\i4 lo H H':=by
 have I:I2 P t=some e:=by simp [I2,ht]
 have u:Z4 P H sz (some t) (.slice a m k)=some (m,el):=by
  simp only[Z4,Option.bind_some,ht,hx,Option.map_some]
 have E:¬(sz=0\/bytes=0):=oM;by_cases hm:m=0
 .subst hm;have he:el=[]:=List.length_eq_zero_iff.1 oM;subst he;rw[Nat.add_zero,List.append_nil];refine⟨v,none,H,?_,rfl,h,i4.refl _ _⟩;rcases h with⟨rfl,rfl,rfl⟩|⟨b,c,rfl,X,U,D⟩
  .simp [fb,I,hs,O,W,E,u,dr]
  .simp [fb,I,hs,O,W,E,u,dr]
 .rcases h with⟨rfl,rfl,rfl⟩|⟨b,c,rfl,X,U,D⟩
  .refine⟨.slice (some ⟨H.next,0,none⟩) m (m+1),some (H.push (.cells el true sz)),_,?_,rfl,.inr ⟨H.next,_,by rw[Nat.zero_add],i7,y,by simpa using J⟩,i4.push y⟩;simp only[fb,List.head?_cons,Option.bind_some,I,hs,O,W,List.getElem?_cons_succ,List.getElem?_cons_zero,if_neg E,u];rw[if_neg hm,if_pos (by simpa using hr),dr]
  .have a1:=u6 X;have S:((cs.drop 0).take (n*sz))=cs:=by rw[List.drop_zero,List.take_of_length_le oM]
   by_cases hc:c=n
   .refine⟨.slice (some ⟨H.next,0,none⟩) (n+m) (n+m+1),some (H.push (.cells (cs++el) true sz)),_,?_,rfl,.inr ⟨H.next,_,rfl,i7,y,by rw[List.length_append,D,J,Nat.add_mul]⟩,i4.push y⟩;simp only[fb,List.head?_cons,Option.bind_some,I,hs,O,W,List.getElem?_cons_succ,List.getElem?_cons_zero,if_neg E,u,X,S];rw[if_neg hm,if_pos hr,if_pos (by simp;omega),if_pos hc,dr]
   .refine⟨.slice (some ⟨H.next,0,none⟩) (n+m) (n+m+1),some ((H.put b .dead).push (.cells (cs++el) true sz)),_,?_,rfl,.inr ⟨H.next,_,rfl,R2 ⟨by simp [j5],by simp [j5]⟩,y,by rw[List.length_append,D,J,Nat.add_mul]⟩,(i4.put U).trans (i4.push (by rw[j5];exact y))⟩;simp only[fb,List.head?_cons,Option.bind_some,I,hs,O,W,List.getElem?_cons_succ,List.getElem?_cons_zero,if_neg E,u,X,S];rw[if_neg hm,if_pos hr,if_pos (by simp;omega),if_neg hc,if_pos trivial,dr]
section
variable{P:Program}
def GE(P:Program)(q:Option (TypeId×TypeId))(B:Option Blk)(k:Value)(ok:Bool):Option Value:=
 match q with
 |some (kt,et)=>
  if Z8 P kt k then
   match B with
   |some (.map es)=>
    match ji P kt k es 0,lx P et with
    |some (some (_,v)),some _=>some (if ok then .tuple #[v,.bool true] else v)
    |some none,some z=>some (if ok then .tuple #[z,.bool false] else z)
    |_,_=>none
   |_=>none
  else none
 |none=>none
theorem qZ(H:d9)(t:TypeId)(b:Nat)(k:Value)(ok:Bool):aA5 P H t (.map (some b)) k ok=GE P (rZ P t) (H.get b) k ok:=by
 unfold aA5 GE;cases rZ P t with
 |none=>rfl
 |some q=>
  simp only;split
  .generalize H.get b=B;cases B with
   |none=>rfl
   |some B=>cases B<;>rfl
  .rfl
def XZ(P:Program)(q:Option (TypeId×TypeId))(B:Option Blk)(H:d9)(b:Nat)(k v:Value):Option d9:=
 match q with
 |some (kt,_)=>
  if Z8 P kt k then
   match B with
   |some (.map es)=>
    match ji P kt k es 0 with
    |some (some (i,_))=>some (H.put b (.map (es.set i (k,v))))
    |some none=>some (H.put b (.map (es++[(k,v)])))
    |none=>none
   |_=>none
  else none
 |none=>none
theorem lk(H:d9)(t:TypeId)(b:Nat)(k v:Value):V4 P H t (.map (some b)) k v=XZ P (rZ P t) (H.get b) H b k v:=by
 unfold V4 XZ;cases rZ P t with
 |none=>rfl
 |some q=>
  simp only;split
  .generalize H.get b=B;cases B with
   |none=>rfl
   |some B=>cases B<;>rfl
  .rfl
def eqT(ks:Option (List D1))(xs ys:LV):Option Bool:=
 match ks with
 |some ks=>A0 ks xs ys
 |none=>none
theorem qb(t:TypeId)(xs h:Array Value):E9 P .eql t (.agg xs) (.agg h)=(eqT (eN P t) xs.toList h.toList).map .bool:=by
 simp only[E9,eqA,eqT];cases eN P t<;>rfl
theorem qe(t:TypeId)(xs h:Array Value):E9 P .neq t (.agg xs) (.agg h)=(eqT (eN P t) xs.toList h.toList).map fun b=> .bool !b:=by
 simp only[E9,eqA,eqT];cases eN P t<;>rfl
theorem zY(h:List D1)(xs u:LV):eqT (some h) xs u=A0 h xs u:=rT
theorem al5:A0 [] [] []=some true:=rT
theorem Hg(h:List D1)(a b:ByteArray)(xs u:LV):A0 (.str::h) (.string a::xs) (.string b::u)=(A0 h xs u).map (decide (a=b)&& ·):=by
 simp only[A0,M6,pG];cases A0 h xs u<;>rfl
end
abbrev ai2{p:Prop}(_:p):Prop:=p
theorem stOf{p:Prop}(h:p):ai2 h:=h
theorem ai3:ai2 (aI (aI (aI (aI @ak3 @ak1) (aI @aj5 (aI @ai9 @ai8))) (aI (aI @ak2 @aj6) (aI @aj7 (aI @aj0 @ai5)))) (aI (aI (aI @aj9 @ai4) (aI @aj3 (aI @ak0 @aj2))) (aI (aI @ai7 @ak4) (aI @aj8 (aI @aj1 @ai6))))):=stOf _
theorem rH:ai2 (aI (aI (aI @O7 @A4) (aI @i5 @j5)) (aI (aI @vJ @qX) (aI @List.length_cons.{0} @List.length_nil.{0}))):=stOf _
theorem Ny:ai2 (aI (aI (aI (aI (aI @Option.getD_some.{0} (aI @BW @yy)) (aI (aI @Cy @tR) (aI @zw @wE))) (aI (aI (aI @CU @Ev) (aI @xT @sX)) (aI (aI @zH @wO) (aI @zG @wN)))) (aI (aI (aI @Bx (aI @AZ @Ec)) (aI (aI @zX @sU) (aI @sV @xF))) (aI (aI (aI @xE @qO) (aI @mA @qP)) (aI (aI @tM @xG) (aI @qN @oY))))) (aI (aI (aI (aI @iC (aI @oZ @iE)) (aI (aI @kO @kP) (aI @oX @pd))) (aI (aI (aI @mB @BQ) (aI @tL @AY)) (aI (aI @xD @AX) (aI @xC @zn)))) (aI (aI (aI @sE (aI @zq @uk)) (aI (aI @wh @CD) (aI @wi @kf))) (aI (aI (aI @zl @wu) (aI @oD @CC)) (aI (aI @GV @pS) (aI @zk @CE)))))):=stOf _
theorem Nz:ai2 (aI (aI (aI (aI (aI @zm (aI @wq @mn)) (aI (aI @wk @mq) (aI @wl @sF))) (aI (aI (aI @mr @wo) (aI @zp @pU)) (aI (aI @kw @pR) (aI @zj @pY)))) (aI (aI (aI @yK (aI @Eg @sY)) (aI (aI @sZ @yk) (aI @yj @EM))) (aI (aI (aI @as0 @BF) (aI @AP @CH)) (aI (aI @CQ @CO) (aI @CI @GX))))) (aI (aI (aI (aI @CR (aI @sJ @CN)) (aI (aI @CM @CK) (aI @CJ @ap0))) (aI (aI (aI @qf @qd) (aI @qg @NT)) (aI (aI @NS @bap) (aI @bcp @mE)))) (aI (aI (aI @cq (aI @mf @sf)) (aI (aI @ek @jn) (aI @de @zL))) (aI (aI (aI @CT @zu) (aI @GZ @qh)) (aI (aI @kj @EV) (aI @EW @yw)))))):=stOf _
theorem NA:ai2 (aI (aI (aI (aI (aI @BI (aI @BJ @uj)) (aI (aI @qB @kA) (aI @mz @tA))) (aI (aI (aI @cQ @List.toList_toArray.{0}) (aI @qD @qE)) (aI (aI @oU @tz) (aI @Br @gO)))) (aI (aI (aI @tX (aI @xQ @Ex)) (aI (aI @Bool.and_false @Bool.false_and) (aI @MW @xI))) (aI (aI (aI @aA1 @Ej) (aI @Fj @yC)) (aI (aI @wK @wL) (aI @aB0 @oL))))) (aI (aI (aI (aI @qj (aI @mw @wM)) (aI (aI @sQ @EG) (aI @BD @uh))) (aI (aI (aI @ar9 @rr) (aI @EH @BE)) (aI (aI @uL @rR) (aI @Cc @Cb)))) (aI (aI (aI @my (aI @jC @uQ)) (aI (aI @EO @yg) (aI @yh @xk))) (aI (aI (aI @qy @jF) (aI @tI @xB)) (aI (aI @jE @tJ) (aI @ED @EC)))))):=stOf _
theorem NB:ai2 (aI (aI (aI (aI (aI @zy (aI @mt @oH)) (aI (aI @AK @xl) (aI @tu @mu))) (aI (aI (aI @C7 @C8) (aI @CZ @td)) (aI (aI @El @Bj) (aI @Em @tT)))) (aI (aI (aI @i5 (aI @j5 @R2)) (aI (aI @j6 @i8) (aI @i9 @O7))) (aI (aI (aI @A4 @vJ) (aI @qX @EA)) (aI (aI @Nl @xS) (aI @nG @nI))))) (aI (aI (aI (aI @Bt (aI @Ey @tY)) (aI (aI @xR @Ez) (aI @Bu @Nm))) (aI (aI (aI @if_true.{1} @if_false.{1}) (aI @decide_eq_true_eq @decide_true)) (aI (aI @decide_false @Option.map_some.{0,0}) (aI @Option.map_none.{0,0} @Option.bind_some.{0,0})))) (aI (aI (aI @List.map_cons.{0,0} (aI @List.map_nil.{0,0} @List.append_nil.{0})) (aI (aI @List.nil_append.{0} @List.cons_append.{0}) (aI @List.length_cons.{0} @List.length_nil.{0}))) (aI (aI (aI @List.take_succ_cons.{0} @List.take_zero.{0}) (aI @List.drop_succ_cons.{0} @List.drop_zero.{0})) (aI (aI @List.all_cons.{0} @List.all_nil.{0}) (aI @List.replicate_succ.{0} @List.replicate_zero.{0})))))):=stOf _
theorem NC:ai2 (aI (aI (aI (aI (aI @List.flatten_cons.{0} @List.flatten_nil.{0}) (aI @Bool.false_eq_true @Bool.true_eq_false)) (aI (aI @Bool.not_true @Bool.not_false) (aI @Bool.and_true (aI @Bool.true_and @Bool.or_false)))) (aI (aI (aI @Bool.false_or @Bool.or_true) (aI @Bool.true_or @Bool.and_self)) (aI (aI @ne_eq.{1} @not_false_eq_true) (aI @not_true_eq_false (aI @and_self @and_true))))) (aI (aI (aI (aI @true_and @Nat.zero_add) (aI @Nat.add_zero @Nat.zero_mul)) (aI (aI @Nat.le_refl @Option.some.injEq.{0}) (aI @Int.toNat_natCast (aI @wR @ur)))) (aI (aI (aI @uu @xU) (aI @ud (aI @qZ @lk))) (aI (aI @qb @qe) (aI @zY (aI @al5 @Hg)))))):=stOf _
theorem rQ:ai2 (aI (aI (aI Ny Nz) (aI NA NB)) (aI (aI NC @List.getElem?_toArray.{0}) (aI @List.getElem?_cons_zero.{0} @List.getElem?_cons_succ.{0}))):=stOf _
section
variable{P:Program}{base:Bs}{w0:World}{φ:List Loc}{S:List Blk}{w:World}{nt:Nat}{e:Env}{a:Act}
def vd:Obj->Bool
 | .loop _=>true
 | .deferred _=>true
 |_=>false
theorem BR.away{B:Blk}{l:Loc}(h:BR base φ B l w){k:Nat}{o:Obj}(z:w.heap[k]?=some o)(y:vd o=true)(I:¬base.pr k)(E:B≠ .dead):l.blk≠k:=by
 intro q;cases B with
 |dead=>exact E rfl
 |cells c own sz=>
  cases own with
  |false=>exact I (q▸h.below)
  |true=>
   obtain⟨_,_,cs,t,U,u,_⟩:=h.2.2.2.2 rfl;rw[q,z]at u;cases u;cases y
 |map O=>
  obtain⟨_,D,J,u,_⟩:=h;rw[q,z]at u;cases u;cases y
 |iter s p=>
  have u:=h.2.2;rw[q,z]at u;cases u;cases y
theorem WR.putX(h:WR base w0 φ S w){k:Nat}{o:Obj}(O:w.heap[k]?=some o)(I:vd o=true)(D:¬base.pr k)(U:Obj):WR base w0 φ S (w.putObj k U):=by
 refine⟨h.len,⟨h.below.os,h.below.tape,h.below.output,by rw[World.putObj_size];exact h.below.size,fun j y=>?_⟩,fun j y=>by rw[World.putObj_size];exact h.size j y,fun b B l E J=>?_,h.sep⟩
 .rw[World.putObj_heap_other (show j≠k from fun q=>D (q▸y))];exact h.below.block j y
 .have u:=h.blk b B l E J;by_cases z:B= .dead
  .subst z;trivial
  .exact u.mono (Ext.refl φ) (World.putObj_heap_other (u.away O I D z))
theorem kD(h:WR base w0 φ S w){k:Nat}{o:Obj}(J:w.heap[k]?=some o)(z:vd o=true)(E:¬base.pr k)(O:Obj)(u:Nat):Fr φ S u w (w.putObj k O):=
 fun b B l _ y D I=>World.putObj_heap_other ((h.blk b B l y I).away J z E D)
theorem WR.raiseX(h:WR base w0 φ S w)(Q:Nat->Prop)(u:∀k,Q k->¬base.pr k/\∃o,w.heap[k]?=some o/\vd o=true):WR (base.add Q) w φ S w:=
 h.raise Q (fun k J=>(gA (u k J).2.choose_spec.1).1) fun b B l E U O I=>by
  obtain⟨y,o,z,D⟩:=u _ I;refine(h.blk b B l E O).away z D y ?_ rfl;rintro rfl;cases U
theorem WR.allocX(h:WR base w0 φ S w)(o:Obj):WR base w0 φ S (w.alloc o):=by
 refine h.grow ⟨by simp,fun j u _=>Below.heap_alloc _ _ _ u⟩ (h.below.alloc h.size o)
theorem qH(h:WR base w0 φ S w)(o:Obj)(z:Nat):Fr φ S z w (w.alloc o):=fun b B l _ D E I=>by
 refine Below.heap_alloc _ _ _ ?_;have u:=h.blk b B l D I;by_cases y:B.mine=true
 .exact(u.lt y).2
 .cases B with
  |dead=>exact absurd rfl E
  |cells c own sz=>
   have:own=false:=by simpa [Blk.mine] using y
   subst this;exact h.size _ u.below
  |map J=>exact absurd rfl y
  |iter s p=>exact absurd rfl y
open Classical in
noncomputable def S6(P:Program)(C:A5)(k:Nat)(A B:Code)(p1 p2:Nat)(e:Env)(ok:d9->Prop):List (Nat×Nat)->d9->Option (Out×d9)
 |[],H=>some (.normal,H)
 |x::r,H=>
  match I7 P C k A ((p2,.int .i64 (x.2:Int))::(p1,.int .i64 (x.1:Int))::e) H with
  |some (.normal,e1,H1)=>
   match I7 P C k B e1 H1 with
   |some (.normal,_,H2)=>if ok H2 then S6 P C k A B p1 p2 e ok r H2 else none
   |some (.ret,_,H2)=>some (.ret,H2)
   |_=>none
  |_=>none
theorem bK{P:Program}{C:A5}{k:Nat}{A B:Code}{p1 p2:Nat}{e:Env}{ok:d9->Prop}:∀(l r:List (Nat×Nat))(H:d9),
  S6 P C k A B p1 p2 e ok (l++r) H=match S6 P C k A B p1 p2 e ok l H with
   |some (.normal,H1)=>S6 P C k A B p1 p2 e ok r H1
   |z=>z
 |[],r,H=>rfl
 |x::l,r,H=>by
  simp only[List.cons_append,S6];split
  .split
   .split
    .exact bK l r _
    .rfl
   .rfl
   .rfl
  .rfl
theorem bh{C:A5}(u:aB P base w0 C){k:Nat}{A B:Code}{p1 p2:Nat}{e:Env}{ok:d9->Prop}:∀(l:List (Nat×Nat))(H:d9){o:Out}{H':d9},S6 P C k A B p1 p2 e ok l H=some (o,H')->Le H H'
 |[],H,o,H',h=>by cases h;exact Le.refl _
 |x::l,H,o,H',h=>by
  simp only[S6]at h;split at h
  .rename_i I E z;split at h
   .rename_i D H2 y;split at h
    .exact((M7 u z).trans (M7 u y)).trans (bh u l H2 h)
    .cases h
   .rename_i D H2 y;cases h;exact(M7 u z).trans (M7 u y)
   .cases h
  .cases h
def sr(P:Program)(gf:Nat)(lb:Array Value)(Rd:World->Prop)(L:List (Nat×Nat))(W0:World):Prop:=
 ∀(l:Nat)(J Jx:List (Nat×Nat)->World->Prop),(∀pre w,J pre w->J pre w.drew)->
  (∀pre(x:Nat×Nat) W,(pre++[x])<+:L->J pre W->YieldAt Fence.wide 1 P l #[.int .i64 (x.1:Int),.int .i64 (x.2:Int)] W fun e W'=>
   (e= .returned (.bool true)/\J (pre++[x]) W'/\(Rd W->Rd W'))\/(e= .returned (.bool false)/\Jx (pre++[x]) W'))->
  J [] W0->CallsIn Fence.wide 2 P gf (#[.func (.yield l) #[] #[]]++lb) W0 fun e W'=>(∃v,e= .returned v)/\(J L W'\/∃pre,pre<+:L/\Jx pre W')
theorem jK{C:A5}(hm:P.follows .mixedOrders=true)(hC:U3 P C){k:Nat}{A B:Code}{p1 p2:Nat}{g:Operand}{ok:d9->Prop}{L:List (Nat×Nat)}{H Hf:d9}{o:Out}{Q:Exit->Act->World->Prop}
  (rA:E5 A=true) (rB:E5 B=true) (e3:F8 nt A=true) (c5:F8 nt B=true) (h1:p1<nt) (h2:p2<nt)
  (hE:ER φ nt e a) (hW:WR base w0 φ H.bs w) {gf:Nat} {lb:Array Value} (hg:a.eval g= .func (.func gf) #[] lb) (d5:bP P gf)
  (Rd:World->Prop) (d3:∀X H' W',Ext φ X->WR base w0 X H'.bs W'->ok H'->Rd W')
  (c4:∀W0,WR base w0 φ H.bs W0->sr P gf lb Rd L W0)
  (h:S6 P C k A B p1 p2 e ok L H=some (o,Hf))
  (hp:∀X W',Ext φ X->WR base w0 X Hf.bs W'->Fr φ H.bs Hf.low w W'->W'.heap[w.heap.size]?=some (.deferred (some []))->Q o.exit' {a with defers:={target:= .collected w.heap.size,args:= #[]}::a.defers} W'):
  (Code.rangeFunc g #[p1,p2] A B).wp P Q a w:=by
 refine(wpIn_wide (n:=3)).1 (wpIn_rangeFunc fun fn d6=>?_);obtain⟨D,hD⟩:∃D,w.heap.size=D:=⟨_,rfl⟩
 rw[hD]at hp;have c8:¬base.pr D:=fun q=>oN (hW.size D q);have J:¬base.pr (D+1):=fun q=>oN (hW.size (D+1) q);obtain⟨z,u⟩:∃z:LoopState->Option Code->Loop,z=fun st pe=>{state:=st,pending:=pe,fn,tmps:=a.tmps,params:= #[p1,p2],assign:=A,body:=B,defers:=D}:=⟨_,rfl⟩
 obtain⟨W1,a6⟩:∃W1,(w.alloc (.deferred (some []))).alloc (.loop (z .ready none))=W1:=⟨_,rfl⟩
 have d2:W1.heap[D+1]?=some (.loop (z .ready none)):=by
  rw[<-a6,<-hD];have:=World.alloc_heap_new (w.alloc (.deferred (some []))) (.loop (z .ready none));rwa [World.size_alloc]at this
 have d1:W1.heap[D]?=some (.deferred (some [])):=by
  rw[<-a6,<-hD];exact(Below.heap_alloc _ _ _ sM).trans (World.alloc_heap_new w _)
 have c6:WR base w0 φ H.bs W1:=by rw[<-a6];exact(hW.allocX _).allocX _
 have c7:Fr φ H.bs H.low w W1:=by
  rw[<-a6];exact Fr.trans (Ext.refl φ) (Le.refl H) (Le.refl H) hW.len (qH hW _ _) (qH (hW.allocX _) _ _)
 obtain⟨J0,a9⟩:=eY (fun o E W=>∃X H',S6 P C k A B p1 p2 e ok E H=some (o,H')/\Ext φ X/\WR base w0 X H'.bs W/\Fr φ H.bs H'.low w W/\W.heap[D]?=some (.deferred (some [])):Out->List (Nat×Nat)->World->Prop);have d8:=c4 W1 c6 (D+1) (fun E W=>J0 .normal E W/\W.heap[D+1]?=some (.loop (z .ready none))) (fun E W=>J0 .ret E W/\W.heap[D+1]?=some (.loop (z .done (some .ret))))
  (by
   rw[a9];rintro E W ⟨⟨X,H',q1,q2,q3,q4,q5⟩,q6⟩;exact⟨⟨X,H',q1,q2,q3.same_heap rfl rfl rfl rfl,q4,q5⟩,q6⟩)
  ?_ (by rw[a9];exact⟨⟨φ,H,rfl,Ext.refl φ,c6,c7,d1⟩,d2⟩)
 .refine⟨D+1,[{target:= .collected D,args:= #[]}],W1,{target:= .fn (.func gf) lb,args:= #[.func (.yield (D+1)) #[] #[]]},W1,gf,#[.func (.yield (D+1)) #[] #[]]++lb,W1,?_,?_,?_,?_,fun _=>oM,?_⟩
  .rw[<-a6,u,<-hD];exact run_enterLoop_outer _ _ _ _ _
  .simp only[resolve,hg];simp [go_sem]
  .intro f' e5;trivial
  .have:=gZ d5 (#[.func (.yield (D+1)) #[] #[]]++lb) W1;simp [invoke,go_sem,this]
  .refine d8.mono ?_;rw[a9];rintro en W2 ⟨⟨v,rfl⟩,(⟨⟨X,H',q1,q2,q3,q4,q5⟩,q6⟩|⟨E,a7,⟨X,H',q1,q2,q3,q4,q5⟩,q6⟩)⟩
   .rw[h]at q1;cases q1;refine⟨none,_,by have:=run_endLoop (P:=P) q6 (by rw[u];simp);rw[u]at this;exact this,?_⟩;exact hp X _ q2 (q3.putX q6 rfl J _) (Fr.trans q2 (bh (hC base w0) L H h) (Le.refl _) hW.len q4 (kD q3 q6 rfl J _ _)) ((World.putObj_heap_other oM).trans q5)
   .obtain⟨r,rfl⟩:=a7;rw[bK,q1]at h;cases h;refine⟨some .ret,_,by have:=run_endLoop (P:=P) q6 (by rw[u];simp);rw[u]at this;exact this,wpIn_ret ?_⟩;exact hp X _ q2 (q3.putX q6 rfl J _) (Fr.trans q2 (bh (hC base w0) E H q1) (Le.refl _) hW.len q4 (kD q3 q6 rfl J _ _)) ((World.putObj_heap_other oM).trans q5)
 ·
  rw[a9];rintro E x W a7 ⟨⟨X,H',q1,q2,q3,q4,q5⟩,q6⟩;have hy:=run_yield (P:=P) (args:= #[.int .i64 (x.1:Int),.int .i64 (x.2:Int)]) q6 (by rw[u];rfl);rw[u]at hy;refine⟨fn,_,A,B,hy,roundIn_of_wpIn d6 ?_⟩;have hx:S6 P C k A B p1 p2 e ok [x] H'≠none:=by
   intro hn;obtain⟨r,rfl⟩:=a7;rw[bK,bK,q1]at h;simp only[hn]at h;cases h
  have y:=bK (P:=P) (C:=C) (k:=k) (A:=A) (B:=B) (p1:=p1) (p2:=p2) (e:=e) (ok:=ok) E [x] H;rw[q1]at y;simp only[S6]at hx y;have b0:=bh (hC base w0) E H q1;have d0:ER X nt ((p2,.int .i64 (x.2:Int))::(p1,.int .i64 (x.1:Int))::e) {tmps:=(#[p1,p2].zip #[(.int .i64 (x.1:Int):Value),.int .i64 (x.2:Int)]).foldl (fun t(p,v)=>t.setIfInBounds p v) a.tmps,defers:=[]}:=by
   have h3:=((hE.mono q2).put (d:=some p1) (by simp [dD,h1]) (.int .i64 (x.1:Int))).put (d:=some p2) (by simp [dD,h2]) (.int .i64 (x.2:Int));have hz:(#[p1,p2].zip #[(.int .i64 (x.1:Int):Value),.int .i64 (x.2:Int)]).foldl (fun t(p,v)=>t.setIfInBounds p v) a.tmps=(a.tmps.setIfInBounds p1 (.int .i64 (x.1:Int))).setIfInBounds p2 (.int .i64 (x.2:Int)):=sM;rw[hz];exact⟨h3.size,h3.val⟩
  split at hx
  rotate_left
  .exact absurd rfl hx
  rename_i e1 H1 hA;simp only[hA]at y;have b1:=M7 (hC base w0) hA;have a3:∀{φ2:List Loc}{S2:List Blk}{V:World}{st:Loop},WR base w0 φ2 S2 V->V.heap[D]?=some (.deferred (some []))->V.heap[D+1]?=some (.loop st)->WR (base.add fun j=>j=D\/j=D+1) V φ2 S2 V:=fun hV hd hl=>
   hV.raiseX _ fun j hj=>by
    rcases hj with rfl|rfl
    .exact⟨c8,_,hd,rfl⟩
    .exact⟨J,_,hl,rfl⟩
  refine aA6 (base:=base.add fun j=>j=D\/j=D+1) (w0:=W) hm hC (D+1) _ rA e3 hA d0 (a3 q3 q5 q6) ?_;intro φ2 a2 w2 a5 b9 b5 c0 e4;have k5:w2.heap[D]?=some (.deferred (some [])):=(b5.below.block D (.inr (.inl rfl))).trans q5;have k6:w2.heap[D+1]?=some (.loop (z .ready none)):=(b5.below.block (D+1) (.inr (.inr rfl))).trans q6;have b2:=b5.lower q3.below;refine⟨_,run_beginRound k6 (by rw[u]),?_⟩;obtain⟨w3,a8⟩:∃w3,w2.putObj (D+1) (.loop {z .ready none with state:= .busy})=w3:=⟨_,rfl⟩
  rw[a8];have m5:w3.heap[D]?=some (.deferred (some [])):=by rw[<-a8];exact(World.putObj_heap_other oM).trans k5
  have m6:w3.heap[D+1]?=some (.loop (z .busy none)):=by
   rw[<-a8,World.putObj_heap_same (gA k6).1,u]
  have b6:WR base w0 φ2 H1.bs w3:=by rw[<-a8];exact b2.putX k6 rfl J _
  have f3:Fr φ H.bs H1.low w w3:=by
   have g1:Fr X H'.bs H1.low W w2:=c0;have g2:Fr φ2 H1.bs H1.low w2 w3:=by rw[<-a8];exact kD b2 k6 rfl J _ _
   exact Fr.trans (q2.trans a5) (b0.trans b1) (Le.refl _) hW.len (Fr.trans q2 b0 b1 hW.len q4 g1) g2
  have b8:∀{φ4:List Loc}{H2:d9}{w4:World}(I:Option Code),Ext φ2 φ4->Le H1 H2->WR (base.add fun j=>j=D\/j=D+1) w3 φ4 H2.bs w4->Fr φ2 H1.bs H2.low w3 w4->
    ∃w5,(Instr.endRound (D+1) I).run P w4= .ok (.bool I.isNone) w5/\WR base w0 φ4 H2.bs w5/\Fr φ H.bs H2.low w w5/\w5.heap[D]?=some (.deferred (some []))/\w5.heap[D+1]?=some (.loop (z (if I.isNone then .ready else .done) I)):=by
   intro φ4 H2 w4 I U b4 a1 O;have n5:w4.heap[D]?=some (.deferred (some [])):=(a1.below.block D (.inr (.inl rfl))).trans m5;have n6:w4.heap[D+1]?=some (.loop (z .busy none)):=(a1.below.block (D+1) (.inr (.inr rfl))).trans m6;have b3:=a1.lower b6.below;refine⟨_,run_endRound I n6,b3.putX n6 rfl J _,?_,(World.putObj_heap_other oM).trans n5,?_⟩
   .exact Fr.trans ((q2.trans a5).trans U) ((b0.trans b1).trans b4) (Le.refl _) hW.len (Fr.trans (q2.trans a5) (b0.trans b1) b4 hW.len f3 O) (kD b3 n6 rfl J _ _)
   .rw[World.putObj_heap_same (gA n6).1,u]
  split at hx
  .rename_i e2 H2 hB;have b7:=M7 (hC base w0) hB;simp only[hB]at y;split at hx
   rotate_left
   .exact absurd rfl hx
   rename_i c3;rw[if_pos c3]at y;refine aA6 (base:=base.add fun j=>j=D\/j=D+1) (w0:=w3) hm hC (D+1) _ rB c5 hB b9 (a3 b6 m5 m6) ?_;intro φ4 a4 w4 U c9 a1 O d4;obtain⟨w5,r1,r2,r3,r4,r5⟩:=b8 none U b7 a1 O;exact⟨_,w5,r1,.inl ⟨rfl,⟨⟨φ4,H2,y,(q2.trans a5).trans U,r2,r3,r4⟩,r5⟩,fun _=>d3 φ4 H2 w5 ((q2.trans a5).trans U) r2 c3⟩⟩
  .rename_i e2 H2 hB;have b7:=M7 (hC base w0) hB;simp only[hB]at y;refine aA6 (base:=base.add fun j=>j=D\/j=D+1) (w0:=w3) hm hC (D+1) _ rB c5 hB b9 (a3 b6 m5 m6) ?_;intro φ4 a4 w4 U c9 a1 O d4;obtain⟨w5,r1,r2,r3,r4,r5⟩:=b8 (some .ret) U b7 a1 O;exact⟨_,w5,r1,.inr ⟨rfl,⟨φ4,H2,y,(q2.trans a5).trans U,r2,r3,r4⟩,r5⟩⟩
  .exact absurd rfl hx
end
section
variable{P:Program}{X:Lib}
theorem sj(z:P.follows .mixedOrders=true)(u:mO P X):U3 P (CL P X):=fun base w0 g args H v r h=>by
 obtain⟨k,y⟩:=aN.1 h;exact CV z u k base w0 g args H v r y
open Classical in
noncomputable def aw(P:Program)(X:Lib)(A B:E4)(p1 p2:Nat)(e:Env)(ok:d9->Prop):List (Nat×Nat)->d9->Option (Out×d9)
 |[],H=>some (.normal,H)
 |x::r,H=>
  match(LE P X A ((p2,.int .i64 (x.2:Int))::(p1,.int .i64 (x.1:Int))::e) H:Option (Out×Env×d9))with
  |some (.normal,e1,H1)=>
   match(LE P X B e1 H1:Option (Out×Env×d9))with
   |some (.normal,_,H2)=>if ok H2 then aw P X A B p1 p2 e ok r H2 else none
   |some (.ret,_,H2)=>some (.ret,H2)
   |_=>none
  |_=>none
theorem aA4{c:Code}{l:E4}(h:d7 c=some l){e:Env}{H:d9}{r:Out×Env×d9}(y:LE P X l e H=some r):∃k,I7 P (CL P X) k c e H=some r:=by
 obtain⟨k,u⟩:=bQ.1 y;exact⟨k,by rw[kY (CL P X) k h];exact u⟩
theorem Z6{C:A5}{k u:Nat}(y:k<=u){c:Code}{e:Env}{H:d9}{r:Out×Env×d9}(h:I7 P C k c e H=some r):I7 P C u c e H=some r:=Z5 (fun _ _ _=>LeO.refl _) k u y c e H r h
theorem jw{C:A5}{k z:Nat}(u:k<=z){A B:Code}{p1 p2:Nat}{e:Env}{ok:d9->Prop}:∀(l:List (Nat×Nat))(H:d9){r:Out×d9},S6 P C k A B p1 p2 e ok l H=some r->S6 P C z A B p1 p2 e ok l H=some r
 |[],H,r,h=>h
 |x::l,H,r,h=>by
  simp only[S6]at h ⊢;split at h
  .rename_i J I E;simp only[Z6 u E];split at h
   .rename_i D H2 y;simp only[Z6 u y];split at h
    .rename_i q;rw[if_pos q];exact jw u l H2 h
    .cases h
   .rename_i D H2 y;simp only[Z6 u y];exact h
   .cases h
  .cases h
theorem dt{J O:Code}{A B:E4}(S:d7 J=some A)(D:d7 O=some B){p1 p2:Nat}{e:Env}{ok:d9->Prop}:∀(l:List (Nat×Nat))(H:d9){r:Out×d9},aw P X A B p1 p2 e ok l H=some r->∃k,S6 P (CL P X) k J O p1 p2 e ok l H=some r
 |[],H,r,h=>⟨0,h⟩
 |x::l,H,r,h=>by
  simp only[aw]at h;split at h
  .rename_i e1 H1 h1;obtain⟨y,U⟩:=aA4 S h1;split at h
   .rename_i W H2 z;obtain⟨u,I⟩:=aA4 D z;split at h
    .rename_i q;obtain⟨E,q3⟩:=dt S D l H2 h;refine⟨max y (max u E),?_⟩;simp only[S6,Z6 (show y<=max y (max u E) from oM) U,Z6 (show u<=max y (max u E) from oM) I,if_pos q];exact jw oM l H2 q3
    .cases h
   .rename_i W H2 z;obtain⟨u,I⟩:=aA4 D z;refine⟨max y u,?_⟩;simp only[S6,Z6 (show y<=max y u from oM) U,Z6 (show u<=max y u from oM) I];exact h
   .cases h
  .cases h
noncomputable def pC(P:Program)(X:Lib)(c1 c2 A B c3:E4)(p1 p2:Nat)(it:Env->d9->Option (List (Nat×Nat)×(d9->Prop)))(e:Env)(H:d9):Option (Out×Env×d9):=
 match(LE P X c1 e H:Option (Out×Env×d9))with
 |some (.normal,e1,H1)=>
  match(LE P X c2 e1 H1:Option (Out×Env×d9))with
  |some (.normal,e2,H2)=>
   match it e2 H2 with
   |some (L,ok)=>
    match aw P X A B p1 p2 e2 ok L H2 with
    |some (.normal,H3)=>LE P X c3 e2 H3
    |some (.ret,H3)=>some (.ret,e2,H3)
    |_=>none
   |none=>none
  |_=>none
 |_=>none
theorem xn{base:Bs}{w0:World}{g:FuncId}{args:LV}{v U:Value}{r:Option d9}{H H':d9}(O:Le ⟨H.bs,H.next⟩ H')
  (D:∀(φ:List Loc)(w:World)(u:LV),VRs φ args u->WR base w0 φ H.bs w->Calls P g u.toArray w fun en E=>∃v' y,en= .returned v'/\Ext φ y/\VR y v v'/\WR base w0 y H'.bs E/\Fr φ H.bs H'.low w E)
  (h:D4 v H H'=(U,r)):(∀H',r=some H'->Le H H')/\(r=none->L0 U=true)/\
  ∀(φ:List Loc)(w:World)(u:LV),VRs φ args u->WR base w0 φ H.bs w->
   Calls P g u.toArray w fun en E=>match(generalizing:=false) r with
    |none=>en= .returned U/\Cls base w0 φ H.bs w E
    |some H'=>∃v' y,en= .returned v'/\Ext φ y/\VR y U v'/\WR base w0 y H'.bs E/\Fr φ H.bs H'.low w E:=by
 unfold D4 at h;split at h
 .rename_i z;simp only[Prod.mk.injEq]at h;obtain⟨rfl,rfl⟩:=h;simp only[Bool.and_eq_true,decide_eq_true_eq]at z;refine⟨fun H' h=>(by cases h),fun _=>z.1,fun φ w u W S=>(D φ w u W S).mono fun en E hq=>?_⟩;obtain⟨v',y,rfl,hx,hv,I,J⟩:=hq;exact⟨by rw[hv.eq_na z.1],S.back I J z.2⟩
 .simp only[Prod.mk.injEq]at h;obtain⟨rfl,rfl⟩:=h;refine⟨fun H2 h2=>?_,fun h=>(by cases h),fun φ w u W S=>(D φ w u W S).mono fun en E hq=>?_⟩
  .cases h2;exact⟨Nat.min_le_left _ _,O.len,fun b hb hl=>O.same b (Nat.lt_of_lt_of_le hb (Nat.min_le_right _ _)) hl⟩
  .obtain⟨v',y,h1,hx,hv,I,J⟩:=hq;exact⟨v',y,h1,hx,hv,I,fun b B l hb=>J b B l (Nat.lt_of_lt_of_le hb (Nat.min_le_right _ _))⟩
noncomputable def jV(P:Program)(X:Lib)(c1 c2 A B c3:E4)(p1 p2 nt:Nat)(rs:List ResultVar)(it:Env->d9->Option (List (Nat×Nat)×(d9->Prop)))(args:LV)(H:d9):Option (Value×Option d9):=
 if args.length<=nt then u5 P rs H (pC P X c1 c2 A B c3 p1 p2 it (D8 0 args) ⟨H.bs,H.next⟩) else none
theorem BN(hm:P.follows .mixedOrders=true)(hX:mO P X){f:FuncId}{z:Func}{d1 d2 dA dB d3:Code}{c1 c2 A B c3:E4}{id p1 p2:Nat}{g:Operand}{gf:Nat}{it:Env->d9->Option (List (Nat×Nat)×(d9->Prop))}
  (a6:P.funcs[f]?=some z) (a5:z.body=some (.seq d1 (.seq (.seq d2 (.block id (.rangeFunc g #[p1,p2] dA dB))) d3))) (b5:(z.name== "runtime.NumGoroutine")=false)
  (l1:d7 d1=some c1) (l2:d7 d2=some c2) (lA:d7 dA=some A) (lB:d7 dB=some B) (l3:d7 d3=some c3)
  (d0:(F8 z.ntmps d1&&F8 z.ntmps d2&&F8 z.ntmps dA&&F8 z.ntmps dB&&F8 z.ntmps d3&&E5 dA&&E5 dB&&decide (p1<z.ntmps)&&decide (p2<z.ntmps))=true) (g3:bP P gf)
  (e9:∀{base:Bs}{w0:World}{φ:List Loc}{w:World}{a:Act}{e:Env}{H:d9}{L:List (Nat×Nat)}{ok:d9->Prop},it e H=some (L,ok)->ER φ z.ntmps e a->WR base w0 φ H.bs w->
   ∃lb Rd,a.eval g= .func (.func gf) #[] lb/\(∀φ' H' W',Ext φ φ'->WR base w0 φ' H'.bs W'->ok H'->Rd W')/\∀W0,WR base w0 φ H.bs W0->sr P gf lb Rd L W0):
  U3 P (Eo f (jV P X c1 c2 A B c3 p1 p2 z.ntmps z.results.toList it)):=by
 intro base w0 g' args H v r h;simp only[Bool.and_eq_true,decide_eq_true_eq]at d0;obtain⟨⟨⟨⟨⟨⟨⟨⟨o1,o2⟩,oA⟩,oB⟩,o3⟩,rA⟩,rB⟩,g6⟩,g7⟩:=d0;have hC:=sj hm hX;have g1:bP P f:=⟨z,a6,b5,by rw[a5];rfl⟩
 unfold Eo at h;split at h
 rotate_left
 .cases h
 rename_i g2;subst g2;unfold jV at h;split at h
 rotate_left
 .cases h
 rename_i c9;unfold u5 at h;split at h
 .cases h
 rotate_left
 .cases h
 rename_i o e4 W g5 u;obtain⟨vs,g8,c4⟩:=Option.map_eq_some_iff.1 h;unfold pC at u;split at u
 rotate_left
 .cases u
 rename_i e1 H1 r1;split at u
 rotate_left
 .cases u
 rename_i e2 H2 r2;split at u
 rotate_left
 .cases u
 rename_i L ok g4;obtain⟨k1,x1⟩:=aA4 l1 r1;obtain⟨k2,x2⟩:=aA4 l2 r2;have b0:=M7 (hC base w0) x1;have b1:=M7 (hC base w0) x2;have a8:∀{base:Bs}{w0:World}{φ:List Loc}{w':World}{a':Act}{D:Nat}{R:Ending->World->Prop},ER φ z.ntmps e4 a'->WR base w0 φ W.bs w'->a'.defers=[{target:= .collected D,args:= #[]}]->w'.heap[D]?=some (.deferred (some []))->¬base.pr D->
   (∀v' a9,VR φ (aA vs) v'->WR base w0 φ W.bs a9->(∀b7,Fr φ W.bs b7 w' a9)->R (.returned v') a9)->LeavesInM Fence.wide 3 P z a'.tmps R a'.defers .returning w':=by
  intro base w0 φ w' a' D R hE hW hd hD J hR;rw[hd];have S:=hW.putX hD rfl J (.deferred none);obtain⟨v',hv,u⟩:=jv S hE g8;exact⟨by simp,.inl ⟨D,_,rfl,run_takeDeferred hD,v',u,hR v' _ hv S fun b7=>kD hW hD rfl J _ b7⟩⟩
 have g9:∃(o5:Out)(H3:d9),aw P X A B p1 p2 e2 ok L H2=some (o5,H3)/\((o5= .normal/\LE P X c3 e2 H3=some (o,e4,W))\/(o5= .ret/\o= .ret/\e4=e2/\W=H3)):=by
  split at u
  .rename_i H3 r3;exact⟨_,H3,r3,.inl ⟨rfl,u⟩⟩
  .rename_i H3 r3;cases u;exact⟨_,_,r3,.inr ⟨rfl,rfl,rfl,rfl⟩⟩
  .cases u
 obtain⟨o5,H3,r3,d4⟩:=g9;obtain⟨k3,x3⟩:=dt lA lB L H2 r3;have b6:=bh (hC base w0) L H2 x3;have d6:Le H3 W:=by
  rcases d4 with⟨_,h3⟩|⟨_,_,_,rfl⟩
  .obtain⟨k4,x4⟩:=aA4 l3 h3;exact M7 (hC base w0) x4
  .exact Le.refl _
 have a7:Le ⟨H.bs,H.next⟩ W:=((b0.trans b1).trans b6).trans d6;refine⟨g1,xn a7 (fun φ w d8 ha hW=>?_) c4⟩;refine(callsIn_wide (n:=3)).1 (callsIn_of_wp_marks a6 a5 trivial (wpIn_wide.2 (wp_seq ?_)));refine cY (H:=⟨H.bs,H.next⟩) hm hC o1 x1 (qr ha c9) hW ?_;intro φ1 a1 w1 I e6 f0 c5 f1;refine wp_seq (wp_seq (cY hm hC o2 x2 e6 f0 ?_));intro φ2 a2 w2 U O S c6 f2;have b2:a2.defers=[]:=f2.trans f1;obtain⟨lb,Rd,q1,q2,q3⟩:=e9 g4 O S;have J:¬base.pr w2.heap.size:=fun q=>oN (S.size _ q);refine wp_block (jK hm hC rA rB oA oB g6 g7 O S q1 g3 Rd q2 q3 x3 ?_);intro φ3 w3 y b4 c7 b3;have b9:Fr φ H.bs H3.low w w3:=Fr.trans (H:=(⟨H.bs,H.next⟩:d9)) (I.trans U) (b0.trans b1) b6 hW.len (Fr.trans (H:=(⟨H.bs,H.next⟩:d9)) I b0 b1 hW.len c5 c6) c7;rcases d4 with⟨rfl,h3⟩|⟨rfl,rfl,rfl,e3⟩
 .obtain⟨k4,x4⟩:=aA4 l3 h3;have e7:ER φ3 z.ntmps e2 {a2 with defers:={target:= .collected w2.heap.size,args:= #[]}::a2.defers}:=⟨(O.mono y).size,(O.mono y).val⟩
  refine cY (base:=base.add fun j=>j=w2.heap.size) (w0:=w3) hm hC o3 x4 e7 (b4.raiseX _ fun j hj=>by subst hj;exact⟨J,_,b3,rfl⟩) ?_;intro φ4 a4 w4 d5 e8 c0 c8 g0;have e5:Fr φ H.bs W.low w w4:=Fr.trans (H:=(⟨H.bs,H.next⟩:d9)) ((I.trans U).trans y) ((b0.trans b1).trans b6) d6 hW.len b9 c8;have b8:=a8 (R:=fun en w'=>∃v' φ',en= .returned v'/\Ext φ φ'/\VR φ' (aA vs) v'/\WR base w0 φ' W.bs w'/\Fr φ H.bs W.low w w') e8 (c0.lower b4.below) (by rw[g0,b2]) ((c0.below.block _ (.inr rfl)).trans b3) J
   (fun v' a9 hv a3 E=>⟨v',φ4,rfl,((I.trans U).trans y).trans d5,hv,a3,Fr.trans (H:=(⟨H.bs,H.next⟩:d9)) (((I.trans U).trans y).trans d5) a7 (Le.refl _) hW.len e5 (E _)⟩)
  cases o with
  |normal=>exact b8
  |ret=>exact b8
  |exit id=>exact(g5 id rfl).elim
 .subst e3;exact a8 (a':={a2 with defers:={target:= .collected w2.heap.size,args:= #[]}::a2.defers}) (R:=fun en w'=>∃v' φ',en= .returned v'/\Ext φ φ'/\VR φ' (aA vs) v'/\WR base w0 φ' W.bs w'/\Fr φ H.bs W.low w w') ⟨(O.mono y).size,(O.mono y).val⟩ b4 (by rw[b2]) b3 J
   (fun v' a9 hv a3 E=>⟨v',φ3,rfl,(I.trans U).trans y,hv,a3,Fr.trans (H:=(⟨H.bs,H.next⟩:d9)) ((I.trans U).trans y) a7 (Le.refl _) hW.len b9 (E _)⟩)
end
theorem zB{H:Type}(d:DataW H):1<=Rows.uptoBulk d:=by
 cases d with
 |lit l=>cases l<;>simp [Rows.uptoBulk]
 |nil=>simp [Rows.uptoBulk]
 |ptr d=>simp [Rows.uptoBulk]
 |slice y D=>simp [Rows.uptoBulk]
 |agg z=>simp [Rows.uptoBulk]
 |iface t d=>simp [Rows.uptoBulk]
 |map u=>simp [Rows.uptoBulk]
 |held h=>simp [Rows.uptoBulk]
theorem wF{H:Type}{d:DataW H}{l:List (DataW H)}(h:d∈l):Rows.uptoBulk d<=Rows.uptoBulkAll l:=by
 induction l with
 |nil=>cases h
 |cons x r u=>
  simp only[Rows.uptoBulkAll];rcases List.mem_cons.1 h with e|e
  .subst e;omega
  .have:=u e;omega
theorem zA{H:Type}(l:List (DataW H)):l.length<=Rows.uptoBulkAll l:=by
 induction l with
 |nil=>simp [Rows.uptoBulkAll]
 |cons x r h=>have:=zB x;simp only[Rows.uptoBulkAll,List.length_cons];omega
def Old(S S':List Blk):Prop:=∀(b:Nat) c sz,S[b]?=some (.cells c false sz)->S'[b]?=some (.cells c false sz)
theorem Old.refl(S:List Blk):Old S S:=fun _ _ _ h=>h
theorem Old.trans{a b c:List Blk}(h:Old a b)(k:Old b c):Old a c:=fun _ _ _ x=>k _ _ _ (h _ _ _ x)
theorem Old.snoc(S:List Blk)(B:Blk):Old S (S++[B]):=fun b c sz h=>by
 rw[List.getElem?_append_left];exact h;exact(List.getElem?_eq_some_iff.1 h).1
theorem Old.append(S T:List Blk):Old S (S++T):=fun b c sz h=>by
 rw[List.getElem?_append_left];exact h;exact(List.getElem?_eq_some_iff.1 h).1
theorem Old.set{S:List Blk}{b:Nat}{B:Blk}(h:∀c sz,S[b]?≠some (.cells c false sz)) (y:Blk):Old S (S.set b y):=fun z c sz u=>by
 rw[List.getElem?_set];by_cases e:b=z
 .subst e;exact absurd u (h c sz)
 .rw[if_neg e];exact u
def Sl(S:List Blk)(sz:Nat){α:Type}(R:LV->α->Prop)(v:Value)(l:List α):Prop:=
 (v= .slice none 0 0/\l=[])\/
 ∃b o,v= .slice (some ⟨b,o,none⟩) l.length (l.length+1)/\
  (l=[]\/∃c,S[b]?=some (.cells c false sz)/\o+l.length*sz<=c.length/\∀i a,l[i]?=some a->R ((c.drop (o+i*sz)).take sz) a)
theorem Sl.mono{S y:List Blk}{sz:Nat}{α:Type}{R u:LV->α->Prop}{v:Value}{l:List α}(O:Old S y)(I:∀cs a,R cs a->u cs a) (h:Sl S sz R v l):Sl y sz u v l:=by
 rcases h with h|⟨b,o,U,h⟩
 .exact .inl h
 .refine .inr ⟨b,o,U,?_⟩;rcases h with h|⟨c,z,D,E⟩
  .exact .inl h
  .exact .inr ⟨c,O _ _ _ z,D,fun i a J=>I _ _ (E i a J)⟩
section
variable{P:Program}
def P4(P:Program)(k:Nat)(t:TypeId){α:Type}(R:List Blk->LV->α->Prop):Prop:=
 (∀S S' cs a,Old S S'->R S cs a->R S' cs a)/\
 ∀{H:Type}(enc:TypeId×Value->H)(W:World)(fuel:Nat),fuel<k->∀(cs:LV)(d:DataW H)(ps:List MemPlace),DataW.trod enc P W 0 (fun _=>true) true fuel t cs=some (d,ps)->
  Rows.uptoBulk d<=1048576->∀(φ:List Loc)(S:List Blk),WR (Bs.lt W.heap.size) W φ S W->
  ∃(φ':List Loc)(S':List Blk)(ac:LV)(a:α),Ext φ φ'/\Old S S'/\WR (Bs.lt W.heap.size) W φ' S' W/\VRs φ' ac cs/\(∀x∈ac,x.oneCell'=true)/\R S' ac a
theorem P4.map{k:Nat}{t:TypeId}{α β:Type}{R:List Blk->LV->α->Prop}{y:List Blk->LV->β->Prop}(h:P4 P k t R)(f:α->β)
  (hf:∀S cs a,R S cs a->y S cs (f a)) (hm:∀S z cs a,Old S z->y S cs a->y z cs a):P4 P k t y:=
 ⟨hm,fun enc W u hk cs d ps ht hw φ S hW=>by
  obtain⟨φ',z,D,a,E,I,J,O,U,X⟩:=h.2 enc W u hk cs d ps ht hw φ S hW;exact⟨φ',z,D,f a,E,I,J,O,U,hf _ _ _ X⟩⟩
theorem sC{j:Nat}{t:TypeId}{k:IntKind}(E:P.underlying t=some (.int k)):P4 P j t (fun _ cs(n:Int)=>cs=[.int k n]/\(Lit.int k n).wf=true):=
 ⟨fun _ _ _ _ _ h=>h,fun enc W u _ cs d J h I φ S z=>by
  obtain⟨n,rfl,_,D⟩:=DataW.trod_int E h;exact⟨φ,S,[.int k n],n,Ext.refl φ,Old.refl S,z,.cons (.int k n) (.nil φ),fun x y=>by simp at y;subst y;rfl,rfl,D⟩⟩
theorem mm{j:Nat}{t:TypeId}(E:P.underlying t=some .string):P4 P j t (fun _ cs(s:ByteArray)=>cs=[.string s]/\s.size<=1048576):=
 ⟨fun _ _ _ _ _ h=>h,fun enc W y _ cs d I h z φ S D=>by
  obtain⟨s,rfl,u,hs⟩:=DataW.trod_string E h;cases u;have:s.size<=1048576:=by simp only[Rows.uptoBulk,Array.length_toList]at z;exact Nat.le_of_succ_le z
  exact⟨φ,S,[.string s],s,Ext.refl φ,Old.refl S,D,.cons (.string s) (.nil φ),fun x u=>by simp at u;subst u;rfl,rfl,this⟩⟩
def fV(P:Program)(k:Nat)(fs:List Field)(off:Nat){α:Type}(R:List Blk->LV->α->Prop):Prop:=
 (∀S S' cs a,Old S S'->R S cs a->R S' cs a)/\
 ∀{H:Type}(enc:TypeId×Value->H)(W:World)(fuel:Nat),fuel<k->∀(cs:LV)(xs:List (DataW H×List MemPlace)),
  xs.length=fs.length->(∀(i:Nat) f,fs[i]?=some f->DataW.trod enc P W 0 (fun _=>true) true fuel f.type ((cs.drop f.offset).take (P.cellsOf f.type))=xs[i]?)->
  Rows.uptoBulkAll (xs.map (·.1))<=1048576->∀(φ:List Loc)(S:List Blk),WR (Bs.lt W.heap.size) W φ S W->
  ∃(tot:Nat)(φ':List Loc)(S':List Blk)(ac:LV)(a:α),(cs.length=off+ac.length->True)/\Ext φ φ'/\Old S S'/\WR (Bs.lt W.heap.size) W φ' S' W/\VRs φ' ac ((cs.drop off).take tot)/\
   (fs.foldl (fun n f=>n+P.cellsOf f.type) 0=tot)/\(∀x∈ac,x.oneCell'=true)/\R S' ac a
theorem dL{j:Nat}(u:Nat):fV P j [] u (fun _ cs(_:Unit)=>cs=[]):=
 ⟨fun _ _ _ _ _ h=>h,fun enc W y _ cs xs D h E φ S z=>⟨0,φ,S,[],(),fun _=>trivial,Ext.refl φ,Old.refl S,z,by simpa using VRs.nil φ,rfl,by simp,rfl⟩⟩
theorem ef(g:Field->Nat):∀(l:List Field)(k:Nat),l.foldl (fun n f=>n+g f) k=k+l.foldl (fun n f=>n+g f) 0
 |[],k=>by simp
 |f::l,k=>by simp only[List.foldl_cons];rw[ef g l (k+g f),ef g l (0+g f)];omega
theorem I3{j:Nat}{f:Field}{fs:List Field}{u k:Nat}{α β:Type}{R:List Blk->LV->α->Prop}{Q:List Blk->LV->β->Prop}(I:f.offset=u)(hk:P.cellsOf f.type=k)
  (h:P4 P j f.type R) (g:fV P j fs (u+k) Q):
  fV P j (f::fs) u (fun S cs(x:α×β)=>∃c1 c2,cs=c1++c2/\R S c1 x.1/\Q S c2 x.2):=
 ⟨fun S S' cs a I⟨c1,c2,e,h1,h2⟩=>⟨c1,c2,e,h.1 _ _ _ _ I h1,g.1 _ _ _ _ I h2⟩,fun enc W z hj cs xs hl ht hw φ S hW=>by
  cases xs with
  |nil=>simp at hl
  |cons x xs=>
   have h0:=ht 0 f (by simp);rw[List.getElem?_cons_zero,I,hk]at h0;simp only[List.map_cons,Rows.uptoBulkAll]at hw;obtain⟨φ1,S1,O,v1,e1,o1,w1,r1,n1,q1⟩:=h.2 enc W z hj _ x.1 x.2 h0 oM φ S hW;obtain⟨D,φ2,S2,U,v2,_,X,o2,w2,r2,t2,n2,q2⟩:=g.2 enc W z hj cs xs (by simpa using hl) (fun i f' J=>by simpa using ht (i+1) f' (by simpa using J)) oM φ1 S1 w1;refine⟨k+D,φ2,S2,O++U,(v1,v2),fun _=>trivial,e1.trans X,o1.trans o2,w2,?_,?_,?_,O,U,rfl,h.1 _ _ _ _ o2 q1,q2⟩
   .have hs:(cs.drop u).take (k+D)=(cs.drop u).take k++(cs.drop (u+k)).take D:=by
     rw[List.take_add,List.drop_drop]
    rw[hs];exact(r1.mono X).append r2
   .simp only[List.foldl_cons];rw[ef (fun f=>P.cellsOf f.type),t2,hk];omega
   .intro y E;rcases List.mem_append.1 E with E|E
    .exact n1 y E
    .exact n2 y E⟩
theorem cg{j:Nat}{t:TypeId}{u:Array Field}{α:Type}{R:List Blk->LV->α->Prop}(ht:P.underlying t=some (.struct u))(hc:P.cellsOf t=u.toList.foldl (fun n f=>n+P.cellsOf f.type) 0)
  (h:fV P j u.toList 0 R):P4 P (j+1) t R:=
 ⟨h.1,fun enc W z hj cs d ps J hw φ S I=>by
  obtain⟨xs,n,U,hx,hl,X,O⟩:=DataW.trod_struct ht J;cases hx;obtain⟨a1,φ',D,E,a,_,e,o,w,r,tt,nn,q⟩:=h.2 enc W n oM cs xs (by simpa using X) (fun i f y=>O i f (by simpa using y)) (by simp only[Rows.uptoBulk]at hw;omega) φ S I;refine⟨φ',D,E,a,e,o,w,?_,nn,q⟩;rw[List.drop_zero,List.take_of_length_le oM]at r;exact r⟩
theorem iX{j:Nat}{e:TypeId}{α:Type}{R:List Blk->LV->α->Prop}(h:P4 P j e R){H:Type}(enc:TypeId×Value->H)(W:World)(z:Nat)(hj:z<j):
  ∀(u:List (LV))(ds:List (DataW H×List MemPlace)),u.length=ds.length->(∀(i:Nat) cs x,u[i]?=some cs->ds[i]?=some x->DataW.trod enc P W 0 (fun _=>true) true z e cs=some x)->
   (∀x∈ds,Rows.uptoBulk x.1<=1048576)->∀(φ:List Loc)(S:List Blk),WR (Bs.lt W.heap.size) W φ S W->
   ∃(φ':List Loc)(U:List Blk)(E:List (LV))(l:List α),Ext φ φ'/\Old S U/\WR (Bs.lt W.heap.size) W φ' U W/\E.length=u.length/\l.length=u.length/\
    (∀(i:Nat) D cs,E[i]?=some D->u[i]?=some cs->VRs φ' D cs)/\(∀D∈E,∀x∈D,x.oneCell'=true)/\(∀(i:Nat) D a,E[i]?=some D->l[i]?=some a->R U D a)
 |[],[],_,_,_,φ,S,hW=>⟨φ,S,[],[],Ext.refl φ,Old.refl S,hW,rfl,rfl,by simp,by simp,by simp⟩
 |[],_::_,hl,_,_,_,_,_=>by simp at hl
 |_::_,[],hl,_,_,_,_,_=>by simp at hl
 |cs::u,x::ds,hl,ht,hw,φ,S,hW=>by
  obtain⟨φ1,S1,a1,v1,e1,o1,w1,r1,n1,q1⟩:=h.2 enc W z hj cs x.1 x.2 (ht 0 cs x (by simp) (by simp)) (hw x (by simp)) φ S hW;obtain⟨φ2,S2,E,l,e2,o2,w2,X,a2,r2,n2,q2⟩:=iX h enc W z hj u ds (by simpa using hl) (fun i c y J O=>ht (i+1) c y (by simpa using J) (by simpa using O)) (fun y O=>hw y (by simp [O])) φ1 S1 w1;refine⟨φ2,S2,a1::E,v1::l,e1.trans e2,o1.trans o2,w2,by simp [X],by simp [a2],?_,?_,?_⟩
  .intro i D c I J;cases i with
   |zero=>simp at I J;subst I J;exact r1.mono e2
   |succ i=>exact r2 i D c (by simpa using I) (by simpa using J)
  .intro D I y O;rcases List.mem_cons.1 I with rfl|I
   .exact n1 y O
   .exact n2 D I y O
  .intro i D a I J;cases i with
   |zero=>simp at I J;subst I J;exact h.1 _ _ _ _ o2 q1
   |succ i=>exact q2 i D a (by simpa using I) (by simpa using J)
theorem qG{α:Type}{sz:Nat}:∀(l:List (List α)),(∀x∈l,x.length=sz)->l.flatten.length=l.length*sz
 |[],_=>by simp
 |x::l,h=>by
  rw[List.flatten_cons,List.length_append,qG l (fun y u=>h y (by simp [u])),h x (by simp),List.length_cons,Nat.add_mul];omega
theorem kC{α:Type}{sz:Nat}:∀(l:List (List α)),(∀x∈l,x.length=sz)->∀(i:Nat) x,l[i]?=some x->(l.flatten.drop (i*sz)).take sz=x
 |[],_,i,x,hx=>by simp at hx
 |y::l,h,0,x,hx=>by
  simp at hx;subst hx;have:=h y (by simp);simp only[Nat.zero_mul,List.drop_zero,List.flatten_cons];rw[<-this,List.take_append_of_le_length lR,List.take_length]
 |y::l,h,i+1,x,hx=>by
  have u:=h y (by simp);have e:(i+1)*sz=y.length+i*sz:=by rw[u,Nat.add_mul];omega
  rw[List.flatten_cons,e,<-List.drop_drop,List.drop_left];exact kC l (fun z D=>h z (by simp [D])) i x (by simpa using hx)
theorem ri{α β:Type}{f:α->Option β}:∀{l:List α}{r:List β},l.mapM f=some r->r.length=l.length/\∀(i:Nat) x y,l[i]?=some x->r[i]?=some y->f x=some y
 |[],r,h=>by simp at h;subst h;simp
 |a::l,r,h=>by
  rw[List.mapM_cons]at h;cases u:f a with
  |none=>simp [u]at h
  |some b=>
   cases z:l.mapM f with
   |none=>simp [u,z]at h
   |some O=>
    simp [u,z]at h;subst h;obtain⟨I,J⟩:=ri z;refine⟨by simp [I],fun i x y D E=>?_⟩;cases i with
    |zero=>simp at D E;subst D;subst E;exact u
    |succ i=>exact J i x y (by simpa using D) (by simpa using E)
theorem dU{w:World}{a:Addr}{n:Nat}{cs:LV}(h:w.cells? 0 a n=some cs):cs.length=n/\∀(j:Nat) x,cs[j]?=some x->w.cell? (a.add j)=some x:=by
 unfold World.cells? at h;rw[if_pos (Nat.zero_le _)]at h;obtain⟨u,z⟩:=ri h;refine⟨by simpa using u,fun j x y=>?_⟩;have D:j<cs.length:=(List.getElem?_eq_some_iff.1 y).1;exact z j j x (List.getElem?_range (by simpa [u] using D)) y
theorem sN{w:World}{a:Addr}{x:Value}(h:w.cell? a=some x):a.spot=none/\a.block<w.heap.size:=by
 unfold World.cell? at h;split at h
 .rename_i c _ _ u;refine⟨?_,(Array.getElem?_eq_some_iff.1 u).1⟩;cases hs:a.spot with
  |none=>rfl
  |some n=>simp [hs]at h
 .cases h
theorem jb{w:World}{a:Addr}{n:Nat}{cs:LV}(z:0<n)(h:w.cells? 0 a n=some cs):a.spot=none/\a.block<w.heap.size:=by
 obtain⟨y,u⟩:=dU h;have:=u 0 (cs[0]'oM) (by first|(simp;done)|(simp;omega));exact sN (by simpa [Addr.add] using this)
theorem pO{a:Addr}(h:a.spot=none)(n:Nat):a.add n=⟨a.block,a.off+n,none⟩:=by
 obtain⟨b,o,s⟩:=a;simp only at h;subst h;unfold Addr.add;split
 .rename_i u;subst u;rfl
 .rfl
theorem fZ{j:Nat}{t e:TypeId}{sz:Nat}{α:Type}{R:List Blk->LV->α->Prop}(ht:P.underlying t=some (.slice e))(hs:P.cellsOf e=sz)(hp:0<sz)(h:P4 P j e R):
  P4 P (j+1) t (fun S cs(l:List α)=>∃v,cs=[v]/\Sl S sz (R S) v l/\l.length<=1048576):=
 ⟨fun S S' cs l ho⟨v,e1,e2,e3⟩=>⟨v,e1,e2.mono ho (fun cs a=>h.1 _ _ _ _ ho),e3⟩,fun{H} enc W fuel hj cs d ps hd hw φ S hW=>by
  rcases DataW.trod_slice ht hd with⟨rfl,u⟩|⟨a,E,z,D,rest,n,c9,rfl,u,_,c4,_,b9,a6,b5,_⟩
  .exact⟨φ,S,[.slice none 0 0],[],Ext.refl φ,Old.refl S,hW,.cons .nilslice (.nil φ),fun x u=>by simp at u;subst u;rfl,_,rfl,.inl ⟨rfl,rfl⟩,by simp⟩
  .cases u;rw[hs]at a6 b5;simp only[Rows.uptoBulk]at hw;have a7:E<=1048576:=by
    have:=zA (D.map (·.1));rw[List.length_map]at this;omega
   by_cases h0:E=0
   ·
    subst h0;refine⟨φ++[⟨a.block,a.off,z*sz,sz⟩],S++[.dead],[.slice (some ⟨S.length,0,none⟩) 0 1],[],Ext.snoc _ _,Old.snoc _ _,?_,?_,fun x u=>by simp at u;subst u;rfl,_,rfl,.inr ⟨_,_,rfl,.inl rfl⟩,by simp⟩
    .exact hW.push ⟨lR,fun _ _ _=>rfl⟩ hW.below (fun hm=>by cases hm) trivial
    .refine .cons ?_ (.nil _);by_cases b8:z=0
     .subst b8;exact .slice0
     .obtain⟨d0,c6⟩:=b5 rfl;have h1:=c6 0 oM;have c5:rest[0]?=some (rest[0]'oM):=by first|(simp;done)|(simp;omega)
      rw[c5]at h1;obtain⟨a2,O,b3⟩:=Option.bind_eq_some_iff.1 h1;have a8:=(jb hp O).1;simp only[Nat.zero_add,Nat.zero_mul]at a8;have a9:a.spot=none:=by simpa [Addr.add] using a8
      have hl:(φ++[(⟨a.block,a.off,z*sz,sz⟩:Loc)])[S.length]?=some ⟨a.block,a.off,z*sz,sz⟩:=by rw[<-hW.len];simp
      have:=VR.slice (φ:=φ++[⟨a.block,a.off,z*sz,sz⟩]) (b:=S.length) (o:=0) (n:=0) (c:=z) hl (Nat.zero_le _) (by simp);obtain⟨ab,ao,b7⟩:=a;simp only at a9;subst a9
      simpa using this
   .have J:∀i,i<E->∃cs x,W.cells? 0 (a.add (i*sz)) sz=some cs/\D[i]?=some x/\DataW.trod enc P W 0 (fun _=>true) true n e cs=some x:=by
     intro i U;have h1:=a6 i U;have h2:D[i]?=some (D[i]'oM):=by first|(simp;done)|(simp;omega)
     rw[h2]at h1;obtain⟨a2,O,b3⟩:=Option.bind_eq_some_iff.1 h1;exact⟨a2,_,O,h2,b3⟩
    have X:a.spot=none/\a.block<W.heap.size:=by
     obtain⟨a2,x0,O,_⟩:=J 0 oM;have:=jb hp O
     simpa [Addr.add] using this
    let css:List (LV):=(List.range E).map fun i=>(W.cells? 0 (a.add (i*sz)) sz).getD []
    have a1:css.length=E:=by simp [css]
    have a3:∀(i:Nat) c,css[i]?=some c->i<E/\W.cells? 0 (a.add (i*sz)) sz=some c:=by
     intro i c hc;have U:i<E:=by rw[<-a1];exact(List.getElem?_eq_some_iff.1 hc).1
     obtain⟨a2,x0,O,_⟩:=J i U;refine⟨U,?_⟩;simp only[css,List.getElem?_map,List.getElem?_range U,Option.map_some,O,Option.getD_some,Option.some.injEq]at hc;rw[O,hc]
    obtain⟨φ1,S1,I,l,e1,o1,w1,c3,b2,b6,b4,hR⟩:=iX h enc W n oM css D (by rw[a1,b9])
     (fun i c x hc u=>by
      obtain⟨U,h1⟩:=a3 i c hc;obtain⟨a2,x0,k1,k2,k3⟩:=J i U;rw[h1]at k1;cases k1;rw[u]at k2;cases k2;exact k3)
     (fun x u=>by have:=wF (List.mem_map_of_mem (f:=(·.1)) u);omega) φ S hW
    have b1:∀x∈I,x.length=sz:=by
     intro x u;obtain⟨i,U,rfl⟩:=List.mem_iff_getElem.1 u;have a5:i<css.length:=oM;have:=(b6 i _ _ (List.getElem?_eq_getElem U) (List.getElem?_eq_getElem a5)).1;rw[this];exact(dU (a3 i _ (List.getElem?_eq_getElem a5)).2).1
    have a4:I.flatten.length=E*sz:=by rw[qG I b1,c3,a1]
    have hl:(φ1++[(⟨a.block,a.off,z*sz,sz⟩:Loc)])[S1.length]?=some ⟨a.block,a.off,z*sz,sz⟩:=by rw[<-w1.len];simp
    refine⟨φ1++[⟨a.block,a.off,z*sz,sz⟩],S1++[.cells I.flatten false sz],[.slice (some ⟨S1.length,0,none⟩) l.length (l.length+1)],l,e1.trans (Ext.snoc _ _),o1.trans (Old.snoc _ _),?_,?_,
     fun x u=>by simp at u;subst u;rfl,_,rfl,.inr ⟨_,_,rfl,.inr ⟨I.flatten,by simp,?_,?_⟩⟩,?_⟩
    .refine w1.push ⟨lR,fun _ _ _=>rfl⟩ w1.below (fun hm=>by cases hm) ⟨rfl,?_,?_,fun _=>X.2,fun hh=>by cases hh⟩
     .intro x u;obtain⟨ac,h1,h2⟩:=List.mem_flatten.1 u;exact b4 ac h1 x h2
     .intro j x u;have hj:j<E*sz:=by rw[<-a4];exact(List.getElem?_eq_some_iff.1 u).1
      have hq:j / sz<E:=Nat.div_lt_of_lt_mul (by rw[Nat.mul_comm];exact hj);have hm:j % sz<sz:=Nat.mod_lt _ hp;have U:j / sz<I.length:=oM;have a5:j / sz<css.length:=oM;have c0:=kC I b1 (j / sz) _ (List.getElem?_eq_getElem U);have c7:(I[j / sz])[j % sz]?=some x:=by
       rw[<-c0,List.getElem?_take,if_pos hm,List.getElem?_drop,Nat.mul_comm,Nat.div_add_mod];exact u
      obtain⟨y,hy,c8⟩:=(b6 _ _ _ (List.getElem?_eq_getElem U) (List.getElem?_eq_getElem a5)).get c7;have:=(dU (a3 _ _ (List.getElem?_eq_getElem a5)).2).2 _ y hy;rw[pO X.1,pO rfl]at this;refine⟨y,?_,c8.mono (Ext.snoc _ _)⟩;have e2:a.off+j / sz*sz+j % sz=a.off+j:=by rw[Nat.add_assoc,Nat.mul_comm,Nat.div_add_mod]
      simpa [e2] using this
    .refine .cons ?_ (.nil _);have:=VR.slice (φ:=φ1++[⟨a.block,a.off,z*sz,sz⟩]) (b:=S1.length) (o:=0) (n:=E) (c:=z) hl c4 (by simp);obtain⟨ab,ao,b7⟩:=a;have b0:=X.1;simp only at b0;subst b0;rw[b2,a1]
     simpa using this
    .rw[b2,a1,a4];omega
    .intro i x u;have U:i<I.length:=by have:=(List.getElem?_eq_some_iff.1 u).1;omega
     rw[Nat.zero_add,kC I b1 i _ (List.getElem?_eq_getElem U)];exact h.1 _ _ _ _ (Old.snoc _ _) (hR i _ x (List.getElem?_eq_getElem U) u)
    .rw[b2,a1];exact a7⟩
theorem xH(U:P.follows .mixedOrders=true){X:Lib}{W:World}(I:mO P X){f:FuncId}{args u:LV}{φ:List Loc}{S:List Blk}(E:WR (Bs.lt W.heap.size) W φ S W)(J:VRs φ args u)
  (h:CL P X f args ⟨S,S.length⟩=some (.bool true,none)):Calls P f u.toArray W fun e y=>e= .returned (.bool true)/\Below W.heap.size W y:=by
 obtain⟨_,_,_,O⟩:=sj U I (Bs.lt W.heap.size) W f args ⟨S,S.length⟩ (.bool true) none h;exact(O φ W u J E).mono fun e y⟨z,D⟩=>⟨z,D.1.below.below⟩
theorem Ci(W:World):WR (Bs.lt W.heap.size) W [] [] W:=⟨rfl,Bel.refl _ _,fun _ h=>h,by simp,by simp⟩
end
end Go.Proofs.YtofbhlhamfkljaaGreatDoor.Ve
namespace Go.Proofs.YtofbhlhamfkljaaGreatDoor.Ve.Ab
open Go Go.RowKit
abbrev T(n:Nat):Operand:= .tmp n
abbrev K(n:Int):Operand:= .const (.int .i64 n)
abbrev B0:Operand:= .const (.bool false)
abbrev B1:Operand:= .const (.bool true)
abbrev S0:Operand:= .const (.slice none 0 0)
abbrev c1(f a t:Nat):Op:= .call ⟨.value (.func f),#[T a],#[t]⟩
abbrev c2(f a b t u:Nat):Op:= .call ⟨.value (.func f),#[T a,T b],#[t,u]⟩
abbrev cf(f:Nat)(a:Array Operand)(t:Array TypeId):Op:= .call ⟨.value (.func f),a,t⟩
abbrev cv(f:Operand)(a:Array Operand)(t:Array TypeId):Op:= .call ⟨.value f,a,t⟩
abbrev bi(f:Builtin)(a:Array Operand)(t:Array TypeId):Op:= .call ⟨.builtin f,a,t⟩
abbrev ln(a t:Nat):Op:= .call ⟨.builtin .len,#[T a],#[t]⟩
abbrev ap(a b t u:Nat):Op:= .call ⟨.builtin .append,#[T a,T b],#[t,u]⟩
abbrev mv(n:Nat):Op:= .move (T n)
abbrev ak(n:Int):Op:= .assign (K n)
abbrev ld'(t a:Nat):Op:= .load t (T a)
abbrev fa(t a i:Nat):Op:= .fieldAddr t (T a) i
abbrev ia(t a i:Nat):Op:= .indexAddr t (T a) (T i)
abbrev st'(t a x:Nat):Op:= .store t (T a) (T x)
abbrev bx(t a:Nat):Op:= .box t (T a)
abbrev ex(a i:Nat):Op:= .extract (T a) i
abbrev nc(a:Nat):Op:= .nilCheck (T a)
abbrev bo(o:BinOp)(t a b u:Nat):Op:= .binOp o t (T a) (T b) u
abbrev bk(o:BinOp)(t a:Nat)(n:Int)(u:Nat):Op:= .binOp o t (T a) (K n) u
abbrev pa(a b:Nat):Op:= .pick (T a) (T b) B0
abbrev po(a b:Nat):Op:= .pick (T a) B1 (T b)
abbrev nt'(t a:Nat):Op:= .unOp .not t (T a)
abbrev N(d:Nat)(o:Op):LOp:=⟨some d,o,none⟩
abbrev V(o:Op):LOp:=⟨none,o,none⟩
abbrev Y(g d:Nat)(o:Op):LOp:=⟨some d,o,some (g,true)⟩
abbrev Z(g d:Nat)(o:Op):LOp:=⟨some d,o,some (g,false)⟩
abbrev M(d a:Nat):LOp:=⟨some d,.move (T a),none⟩
abbrev L(d t a:Nat):LOp:=⟨some d,.load t (T a),none⟩
abbrev A(d a:Nat):LOp:=⟨some d,.assign (T a),none⟩
abbrev F(d t a i:Nat):LOp:=⟨some d,.fieldAddr t (T a) i,none⟩
abbrev cO:=E4.ops
abbrev cS:=E4.seq
abbrev cB:=E4.block
abbrev cC:=E4.cond
abbrev cW(n:Nat)(b:E4):E4:= .block n (.loop b)
abbrev m0(o:LOp):ML:=⟨o,false,false,0,0⟩
abbrev m1(o:LOp):ML:=⟨o,false,true,0,0⟩
abbrev m2(o:LOp)(l h:Nat):ML:=⟨o,false,false,l,h⟩
abbrev m3(o:LOp)(l h:Nat):ML:=⟨o,true,true,l,h⟩
abbrev m4(o:LOp)(l h:Nat):ML:=⟨o,true,false,l,h⟩
abbrev cX(o:List LOp)(c:E4):=E4.seq (.ops o) c
abbrev cR(o:List LOp):=E4.seq (.ops o) .ret
abbrev cG(t n:Nat)(c:E4):=E4.seq (.cond (T t) .skip (.exit n)) c
abbrev cH(t a b:Nat)(c:E4):=E4.seq (.ops [N t (bo .lss 3 a b 3)]) (.seq (.cond (T t) .skip (.exit 0)) c)
abbrev iN(a:Nat):Op:=bk .add 3 a 1 3
abbrev yF(o:LOp):LOp×Bool:=(o,false)
abbrev yT(o:LOp):LOp×Bool:=(o,true)
end Go.Proofs.YtofbhlhamfkljaaGreatDoor.Ve.Ab
namespace Go.Proofs.YtofbhlhamfkljaaGreatDoor.Ve
open Go Ab
open Go.Proofs.Tryz (prog)
abbrev fE(n:Nat)(c:E4)(k:Nat)(r:List ResultVar):Prop:=fnL prog n=some (c,k,r)
theorem fR{n:Nat}{c:E4}{k:Nat}{r:List ResultVar}(h:fnL prog n=some (c,k,r):=by kernel_rfl):fE n c k r:=h
abbrev aa1:=cR [M 8 2,N 9 (bk .eql 40 8 0 40),M 10 9,Y 10 11 (fa 39 1 2),Y 10 12 (ld' 36 11),Y 10 13 (ln 12 36),Y 10 14 (bk .eql 3 13 3 3),N 15 (pa 10 14),M 16 15,Y 16 17 (fa 39 1 2),Y 16 18 (ld' 36 17),Y 16 19 (.indexAddr 36 (T 18) (K 1)),Y 16 20 (ld' 59 19),Y 16 21 (.build 59 #[(0,B1)]),Y 16 22 (bo .eql 59 20 21 59),N 23 (pa 16 22),M 24 23,Y 24 25 (fa 39 1 2),Y 24 26 (ld' 36 25),Y 24 27 (.indexAddr 36 (T 26) (K 2)),Y 24 28 (fa 59 27 1),Y 24 29 (ld' 4 28),N 30 (pa 24 29),M 31 30,Y 31 32 (ld' 39 1),Y 31 33 (cf 14 #[T 32,K 1] #[39,3]),Y 31 34 (ln 33 35),Y 31 35 (bk .eql 3 34 2 3),N 36 (pa 31 35),M 37 36,Y 37 38 (ld' 39 1),Y 37 39 (.build 59 #[]),Y 37 40 (c2 17 38 39 39 59),Y 37 41 (bk .eql 3 40 0 3),N 42 (pa 37 41),M 43 42,Y 43 44 (ld' 39 1),Y 43 45 (.build 51 {toList:=[(0,K 2),(3,.const (.string ⟨#[120]⟩))]}),Y 43 46 (cf 18 #[T 44,T 45,K 0,K 2] #[39,51,3,3]),Y 43 47 (bk .eql 3 46 (-1) 3),N 48 (pa 43 47),A 0 48]
abbrev aa2:=cX [N 4 (.build 25 #[(0,K 1)]),N 5 (c1 11 4 25),M 3 5,N 6 (ex 3 0),N 7 (ex 3 1),N 1 (.alloc 39),V (st' 39 1 6),A 2 7] aa1
abbrev f9:=cX [N 0 (.assign B0)] aa2
theorem fn9:fE 9 f9 49 [.tmp 0]:=fR
abbrev Om:=cR [L 3 25 1,N 4 (c1 29 3 25),M 5 4,Y 5 6 (ld' 25 1),Y 5 7 (c1 30 6 25),N 8 (pa 5 7),A 2 8]
abbrev f10:=cX [N 1 (bx 25 0),N 2 (.assign B0)] Om
theorem aa3:fE 10 f10 9 [.tmp 2]:=fR
abbrev On:=cC (T 14) (cR [N 15 (.build 39 #[]),M 16 5,V (st' 39 2 15),A 3 16]) .skip
abbrev Oo:=cC (T 32) (cR [N 33 (.build 39 #[]),V (st' 39 2 33),N 3 (ak 13)]) .skip
abbrev Oq:=cO [M 28 7,N 29 (iN 28),A 7 29]
abbrev Ot:=cS (cB 1 (cX [M 30 7,N 31 (c2 34 6 30 75 3),N 32 (nt' 4 31)] Oo)) Oq
abbrev Fv:=cS (cX [M 26 7,N 27 (c2 33 6 26 75 3)] (cC (T 27) .skip (.exit 0))) Ot
abbrev Ou:=cR [L 34 39 6,V (st' 39 2 34),N 3 (ak 0)]
abbrev Ov:=cX [L 17 25 1,N 18 (c1 32 17 25),M 19 4,N 20 (.build 59 #[]),N 21 (.buildSlice 36 1 #[(0,T 20)]),N 22 (.buildSlice 29 1 #[(0,K 0)]),N 23 (.build 56 #[]),N 24 (.buildSlice 37 1 #[(0,T 23)]),N 25 (.build 39 #[(0,T 18),(1,T 19),(2,T 21),(3,T 22),(4,T 24)]),N 6 (.alloc 39),V (st' 39 6 25)] (cS (cX [N 7 (ak 1)] (cW 0 Fv)) Ou)
abbrev Ow:=cS (cX [M 13 5,N 14 (bk .neq 40 13 0 40)] On) Ov
abbrev Ox:=cX [L 9 25 1,N 10 (c1 31 9 25),M 8 10,N 11 (ex 8 0),N 12 (ex 8 1),A 4 11,A 5 12] Ow
abbrev f11:=cX [N 1 (bx 25 0),N 2 (.alloc 39),N 3 (ak 0)] Ox
theorem aa4:fE 11 f11 35 [.cell 2 39,.tmp 3]:=fR
abbrev OC:=cC (T 20) (cR [N 21 (.build 39 #[]),M 22 5,V (st' 39 2 21),A 3 22]) .skip
abbrev OD:=cC (T 119) (cR [N 120 (.build 39 #[]),V (st' 39 2 120),N 3 (ak 13)]) .skip
abbrev OE:=cX [F 133 39 6 4,L 134 37 133,M 135 12,M 136 10,M 137 11,N 138 (.build 56 #[(0,T 135),(1,T 136),(2,T 137)]),N 139 (.buildSlice 37 1 #[(0,T 138)]),N 140 (ap 134 139 37 37),F 141 39 6 4,V (st' 37 141 140)] (cO [M 142 8,A 7 142])
abbrev OF:=cX [F 127 39 6 3,L 128 29 127,M 129 8,N 130 (.buildSlice 29 1 #[(0,T 129)]),N 131 (ap 128 130 29 29),F 132 39 6 3,V (st' 29 132 131)] OE
abbrev OG:=cX [F 121 39 6 2,L 122 36 121,L 123 59 13,N 124 (.buildSlice 36 1 #[(0,T 123)]),N 125 (ap 122 124 36 36),F 126 39 6 2,V (st' 36 126 125)] OF
abbrev OH:=cS (cX [F 112 39 6 2,L 113 36 112,N 114 (ln 113 36),N 115 (bk .gtr 3 114 24 3),M 116 115,Z 116 117 (mv 8),Z 116 118 (bk .gtr 3 117 200 3),N 119 (po 116 118)] OD) OG
abbrev OI:=cS (cX [F 107 39 6 2,L 108 36 107,L 109 59 13,N 110 (c2 20 108 109 36 59),N 111 (bk .geq 3 110 0 3)] (cC (T 111) (.exit 7) .skip)) OH
abbrev OJ:=cS (.mix [m0 (F 90 39 6 0),m1 (L 91 34 90),m0 (M 92 4),m0 (M 93 12),m0 (N 94 (ia 35 92 93)),m1 (L 95 51 94),m0 (F 96 39 6 2),m1 (L 97 36 96),m0 (M 98 10),m0 (N 99 (ia 36 97 98)),m1 (L 100 59 99),m0 (F 101 39 6 2),m1 (L 102 36 101),m0 (M 103 11),m0 (N 104 (ia 36 102 103)),m1 (L 105 59 104),m3 (N 106 (cf 21 #[T 91,T 95,T 100,T 105] #[34,51,59,59])) 0 2,m4 (N 13 (.alloc 59)) 0 2,m4 (V (st' 59 13 106)) 2 3]) OI
abbrev OK:=cO [M 70 12,N 71 (iN 70),A 12 71]
abbrev OL:=cS (cB 7 (cS (cX [M 72 4,M 73 12,N 74 (ia 35 72 73),F 75 51 74 0,L 76 3 75,N 77 (bk .eql 3 76 2 3),M 78 77,Y 78 79 (mv 10),Y 78 80 (bk .neq 3 79 0 3),Y 78 81 (mv 80),Z 81 82 (fa 39 6 2),Z 81 83 (ld' 36 82),Z 81 84 (mv 11),Z 81 85 (ia 36 83 84),Z 81 86 (fa 59 85 1),Z 81 87 (ld' 4 86),Y 78 88 (po 81 87),N 89 (pa 78 88)] (cC (T 89) (.exit 7) .skip)) OJ)) OK
abbrev Oy:=cS (cX [M 66 12,M 67 4,N 68 (ln 67 35),N 69 (bo .lss 3 66 68 3)] (cC (T 69) .skip (.exit 6))) OL
abbrev JI:=cO [M 50 11,N 51 (iN 50),A 11 51]
abbrev JJ:=cS (cB 5 (cS (cS (.draw [yF (F 52 39 6 3),yF (L 53 29 52),yF (M 54 10),yF (N 55 (ia 29 53 54)),yF (L 56 3 55),yF (F 57 39 6 3),yF (L 58 29 57),yF (M 59 11),yF (N 60 (ia 29 58 59)),yF (L 61 3 60),yF (N 62 (bo .add 3 56 61 3)),yF (N 63 (iN 62)),yF (M 64 8),yT (N 65 (bo .neq 3 63 64 3))]) (cC (T 65) (.exit 5) .skip)) (cX [N 12 (ak 0)] (cW 6 Oy)))) JI
abbrev Oz:=cS (cX [M 47 11,M 48 9,N 49 (bo .lss 3 47 48 3)] (cC (T 49) .skip (.exit 4))) JJ
abbrev JK:=cO [M 45 10,N 46 (iN 45),A 10 46]
abbrev OA:=cS (cX [M 42 10,M 43 9,N 44 (bo .lss 3 42 43 3)] (cC (T 44) .skip (.exit 2))) (cS (cB 3 (cX [N 11 (ak 0)] (cW 4 Oz))) JK)
abbrev JL:=cO [M 37 8,N 38 (iN 37),A 8 38]
abbrev JM:=cS (cB 1 (cX [F 39 39 6 2,L 40 36 39,N 41 (ln 40 36),A 9 41] (cX [N 10 (ak 0)] (cW 2 OA)))) JL
abbrev OB:=cS (cX [M 32 8,M 33 7,N 34 (.binOp .mul 3 (K 2) (T 33) 3),N 35 (iN 34),N 36 (bo .leq 3 32 35 3)] (cC (T 36) .skip (.exit 0))) JM
abbrev JN:=cR [L 143 39 6,V (st' 39 2 143),N 3 (ak 0)]
abbrev JO:=cX [N 7 (ak 0)] (cS (cX [N 8 (ak 1)] (cW 0 OB)) JN)
abbrev JP:=cX [L 23 25 1,N 24 (c1 36 23 25),M 25 4,N 26 (.build 59 #[]),N 27 (.buildSlice 36 1 #[(0,T 26)]),N 28 (.buildSlice 29 1 #[(0,K 0)]),N 29 (.build 56 #[]),N 30 (.buildSlice 37 1 #[(0,T 29)]),N 31 (.build 39 #[(0,T 24),(1,T 25),(2,T 27),(3,T 28),(4,T 30)]),N 6 (.alloc 39),V (st' 39 6 31)] JO
abbrev JQ:=cS (cX [M 19 5,N 20 (bk .neq 3 19 0 3)] OC) JP
abbrev JR:=cX [L 15 25 1,N 16 (c1 35 15 25),M 14 16,N 17 (ex 14 0),N 18 (ex 14 1),A 4 17,A 5 18] JQ
abbrev f12:=cX [N 1 (bx 25 0),N 2 (.alloc 39),N 3 (ak 0)] JR
theorem ay8:fE 12 f12 144 [.cell 2 39,.tmp 3]:=fR
abbrev ON:=cO [M 45 5,N 46 (iN 45),A 5 46]
abbrev OO:=cS (cB 1 (cS (.draw [yF (F 47 39 2 2),yF (L 48 36 47),yF (M 49 5),yF (N 50 (ia 36 48 49)),yF (L 51 59 50),yF (F 52 39 3 2),yF (L 53 36 52),yF (M 54 5),yF (N 55 (ia 36 53 54)),yF (L 56 59 55),yF (N 57 (bo .neq 59 51 56 59)),yF (M 58 57),yF (Z 58 59 (fa 39 2 3)),yF (Z 58 60 (ld' 29 59)),yF (Z 58 61 (mv 5)),yF (Z 58 62 (ia 29 60 61)),yF (Z 58 63 (ld' 3 62)),yF (Z 58 64 (fa 39 3 3)),yF (Z 58 65 (ld' 29 64)),yF (Z 58 66 (mv 5)),yF (Z 58 67 (ia 29 65 66)),yF (Z 58 68 (ld' 3 67)),yF (Z 58 69 (bo .neq 3 63 68 3)),yF (N 70 (po 58 69)),yF (M 71 70),yF (Z 71 72 (fa 39 2 4)),yF (Z 71 73 (ld' 37 72)),yF (Z 71 74 (mv 5)),yF (Z 71 75 (ia 37 73 74)),yF (Z 71 76 (ld' 56 75)),yF (Z 71 77 (fa 39 3 4)),yF (Z 71 78 (ld' 37 77)),yF (Z 71 79 (mv 5)),yF (Z 71 80 (ia 37 78 79)),yF (Z 71 81 (ld' 56 80)),yT (Z 71 82 (bo .neq 56 76 81 56)),yT (N 83 (po 71 82))]) (cC (T 83) (cR [N 4 (.assign B0)]) .skip))) ON
abbrev OM:=cS (cX [M 40 5,F 41 39 2 2,L 42 36 41,N 43 (ln 42 36),N 44 (bo .lss 3 40 43 3)] (cC (T 44) .skip (.exit 0))) OO
abbrev OP:=cS (cX [N 5 (ak 0)] (cW 0 OM)) (cR [N 4 (.assign B1)])
abbrev OQ:=cS (cX [F 6 39 2 2,L 7 36 6,N 8 (ln 7 36),F 9 39 3 2,L 10 36 9,N 11 (ln 10 36),N 12 (bo .neq 3 8 11 3),M 13 12,Z 13 14 (fa 39 2 3),Z 13 15 (ld' 29 14),Z 13 16 (ln 15 29),Z 13 17 (fa 39 3 3),Z 13 18 (ld' 29 17),Z 13 19 (ln 18 29),Z 13 20 (bo .neq 3 16 19 3),N 21 (po 13 20),M 22 21,Z 22 23 (fa 39 2 4),Z 22 24 (ld' 37 23),Z 22 25 (ln 24 37),Z 22 26 (fa 39 3 4),Z 22 27 (ld' 37 26),Z 22 28 (ln 27 37),Z 22 29 (bo .neq 3 25 28 3),N 30 (po 22 29),M 31 30,Z 31 32 (fa 39 2 1),Z 31 33 (ld' 35 32),Z 31 34 (ln 33 35),Z 31 35 (fa 39 3 1),Z 31 36 (ld' 35 35),Z 31 37 (ln 36 35),Z 31 38 (bo .neq 3 34 37 3),N 39 (po 31 38)] (cC (T 39) (cR [N 4 (.assign B0)]) .skip)) OP
abbrev f13:=cX [N 2 (bx 39 0),N 3 (bx 39 1),N 4 (.assign B0)] OQ
theorem ay9:fE 13 f13 84 [.tmp 4]:=fR
abbrev OS:=cC (T 36) (cO [M 37 7,L 38 39 2,F 39 56 5 1,L 40 3 39,N 41 (c2 14 38 40 39 3),N 42 (ap 37 41 35 35),N 43 (.build 51 #[(0,K 3)]),N 44 (.buildSlice 35 1 #[(0,T 43)]),N 45 (ap 42 44 35 35),A 7 45]) .skip
abbrev OT:=cR [M 46 7,L 47 39 2,F 48 56 5 2,L 49 3 48,N 50 (c2 14 47 49 39 3),N 51 (ap 46 50 35 35),A 4 51]
abbrev OU:=cS (cX [F 34 51 6 0,L 35 3 34,N 36 (bk .eql 3 35 1 3)] OS) OT
abbrev OV:=cX [L 32 51 6,N 33 (.buildSlice 35 1 #[(0,T 32)]),A 7 33] OU
abbrev OW:=cX [F 28 51 6 2,L 29 49 28,N 30 (c1 37 29 49),F 31 51 6 2,V (st' 49 31 30)] OV
abbrev OX:=cX [F 22 39 2 1,L 23 35 22,F 24 56 5 0,L 25 3 24,N 26 (ia 35 23 25),L 27 51 26,N 6 (.alloc 51),V (st' 51 6 27)] OW
abbrev OY:=cX [F 17 39 2 4,L 18 37 17,M 19 1,N 20 (ia 37 18 19),L 21 56 20,N 5 (.alloc 56),V (st' 56 5 21)] OX
abbrev OZ:=cS (cX [M 8 1,N 9 (bk .leq 3 8 0 3),M 10 9,Z 10 11 (mv 1),Z 10 12 (fa 39 2 2),Z 10 13 (ld' 36 12),Z 10 14 (ln 13 36),Z 10 15 (bo .geq 3 11 14 3),N 16 (po 10 15)] (cC (T 16) (cR [N 4 (.assign S0)]) .skip)) OY
abbrev f14:=cX [N 2 (bx 39 0),N 4 (.assign S0)] OZ
theorem aa5:fE 14 f14 52 [.tmp 4]:=fR
abbrev Pb:=cO [M 15 5,N 16 (iN 15),A 5 16]
abbrev Pc:=cS (cB 1 (cS (.draw [yF (M 17 0),yF (M 18 5),yF (N 19 (ia 35 17 18)),yF (L 20 51 19),yF (M 21 1),yF (M 22 5),yF (N 23 (ia 35 21 22)),yF (L 24 51 23),yT (N 25 (c2 38 20 24 51 51)),yT (N 26 (nt' 4 25))]) (cC (T 26) (cR [N 4 (.assign B0)]) .skip))) Pb
abbrev Pa:=cS (cX [M 11 5,M 12 0,N 13 (ln 12 35),N 14 (bo .lss 3 11 13 3)] (cC (T 14) .skip (.exit 0))) Pc
abbrev Pd:=cS (cX [N 5 (ak 0)] (cW 0 Pa)) (cR [N 4 (.assign B1)])
abbrev Pe:=cS (cX [M 6 0,N 7 (ln 6 35),M 8 1,N 9 (ln 8 35),N 10 (bo .neq 3 7 9 3)] (cC (T 10) (cR [N 4 (.assign B0)]) .skip)) Pd
abbrev f15:=cX [N 4 (.assign B0)] Pe
abbrev Pf:=cO [M 41 6,N 42 (.build 51 #[(0,K 3)]),N 43 (.buildSlice 35 1 #[(0,T 42)]),N 44 (ap 41 43 35 35),A 6 44]
abbrev Pg:=cC (T 30) (cS (.mix [m2 (M 31 6) 0 1,m1 (L 32 39 2),m0 (F 33 39 2 4),m1 (L 34 37 33),m0 (M 35 1),m0 (N 36 (ia 37 34 35)),m0 (F 37 56 36 1),m1 (L 38 3 37),m3 (N 39 (c2 16 32 38 39 3)) 0 1,m3 (N 40 (ap 31 39 35 35)) 1 2,m2 (A 6 40) 2 2]) Pf) .skip
abbrev Ph:=cS (.mix [m2 (M 45 6) 0 1,m1 (L 46 39 2),m0 (F 47 39 2 4),m1 (L 48 37 47),m0 (M 49 1),m0 (N 50 (ia 37 48 49)),m0 (F 51 56 50 2),m1 (L 52 3 51),m3 (N 53 (c2 16 46 52 39 3)) 0 1,m3 (N 54 (ap 45 53 35 35)) 1 2,m2 (A 4 54) 2 2]) .ret
abbrev Pi:=cS (cX [F 28 51 5 0,L 29 3 28,N 30 (bk .eql 3 29 1 3)] Pg) Ph
abbrev Pj:=cX [L 26 51 5,N 27 (.buildSlice 35 1 #[(0,T 26)]),A 6 27] Pi
abbrev Pk:=cS (.mix [m2 (F 16 39 2 1) 0 1,⟨L 17 35 16,false,true,0,1⟩,m2 (F 18 39 2 4) 0 1,⟨L 19 37 18,false,true,0,1⟩,m2 (M 20 1) 0 1,m2 (N 21 (ia 37 19 20)) 0 1,m2 (F 22 56 21 0) 0 1,⟨L 23 3 22,false,true,0,1⟩,m2 (N 24 (ia 35 17 23)) 0 1,⟨L 25 51 24,false,true,0,1⟩,m4 (N 5 (.alloc 51)) 0 1,m4 (V (st' 51 5 25)) 1 2]) Pj
abbrev Pl:=cS (cX [M 7 1,N 8 (bk .leq 3 7 0 3),M 9 8,Z 9 10 (mv 1),Z 9 11 (fa 39 2 4),Z 9 12 (ld' 37 11),Z 9 13 (ln 12 37),Z 9 14 (bo .geq 3 10 13 3),N 15 (po 9 14)] (cC (T 15) (cR [N 4 (.assign S0)]) .skip)) Pk
abbrev f16:=cX [N 2 (bx 39 0),N 4 (.assign S0)] Pl
abbrev Pm:=cR [F 5 39 2 2,L 6 36 5,L 7 59 3,N 8 (c2 39 6 7 36 59),A 4 8]
abbrev f17:=cX [N 2 (bx 39 0),N 3 (bx 59 1),N 4 (ak 0)] Pm
theorem aa6:fE 17 f17 9 [.tmp 4]:=fR
abbrev Pn:=cS (.mix [⟨L 14 39 4,false,true,0,1⟩,m0 (F 15 39 4 0),m1 (L 16 34 15),m1 (L 17 51 5),m0 (F 18 39 4 2),m1 (L 19 36 18),m0 (M 20 2),m0 (N 21 (ia 36 19 20)),m1 (L 22 59 21),m0 (F 23 39 4 2),m1 (L 24 36 23),m0 (M 25 3),m0 (N 26 (ia 36 24 25)),m1 (L 27 59 26),m3 (N 28 (cf 41 #[T 16,T 17,T 22,T 27] #[34,51,59,59])) 0 1,m3 (N 29 (c2 17 14 28 39 59)) 1 2,m2 (A 8 29) 2 2]) .ret
abbrev Po:=cS (cX [L 9 51 5,M 10 2,M 11 3,N 12 (cf 40 #[T 4,T 9,T 10,T 11] #[75,51,3,3]),N 13 (nt' 4 12)] (cC (T 13) (cR [N 8 (ak (-1))]) .skip)) Pn
abbrev f18:=cX [N 4 (bx 39 0),N 5 (bx 51 1),N 8 (ak 0)] Po
theorem aa7:fE 18 f18 30 [.tmp 8]:=fR
abbrev Pp:=cR [L 3 51 1,N 4 (c1 42 3 51),M 5 4,Y 5 6 (fa 51 1 0),Y 5 7 (ld' 3 6),Y 5 8 (bk .neq 3 7 3 3),N 9 (pa 5 8),M 10 9,Y 10 11 (ld' 51 1),Y 10 12 (.buildSlice 35 1 #[(0,T 11)]),Y 10 13 (c1 25 12 35),N 14 (pa 10 13),A 2 14]
abbrev f19:=cX [N 1 (bx 51 0),N 2 (.assign B0)] Pp
abbrev Pr:=cO [M 10 5,N 11 (iN 10),A 5 11]
abbrev Ps:=cS (cB 1 (cS (.draw [yF (M 12 0),yF (M 13 5),yF (N 14 (ia 36 12 13)),yF (L 15 59 14),yF (L 16 59 3),yT (N 17 (bo .eql 59 15 16 59))]) (cC (T 17) (cR [M 18 5,A 4 18]) .skip))) Pr
abbrev Pq:=cS (cX [M 6 5,M 7 0,N 8 (ln 7 36),N 9 (bo .lss 3 6 8 3)] (cC (T 9) .skip (.exit 0))) Ps
abbrev Pt:=cS (cX [N 5 (ak 0)] (cW 0 Pq)) (cR [N 4 (ak (-1))])
abbrev f20:=cX [N 3 (bx 59 1),N 4 (ak 0)] Pt
theorem az0:fE 20 f20 19 [.tmp 4]:=fR
abbrev Py:=cO [M 39 13,N 40 (iN 39),A 13 40]
abbrev Pz:=cS (cB 3 (.mix [m2 (M 41 12) 0 2,m1 (L 42 34 4),m0 (F 43 32 11 4),m1 (L 44 23 43),m0 (M 45 13),m0 (N 46 (ia 23 44 45)),m1 (L 47 86 46),m1 (L 48 51 5),m0 (M 49 9),m3 (N 50 (cf 44 #[T 42,T 47,T 48,T 49] #[34,86,51,81])) 0 1,m4 (N 51 (.buildSlice 83 1 #[(0,T 50)])) 1 2,m3 (N 52 (ap 41 51 83 83)) 2 3,m2 (A 12 52) 3 3])) Py
abbrev Pu:=cS (cX [M 34 13,F 35 32 11 4,L 36 23 35,N 37 (ln 36 23),N 38 (bo .lss 3 34 37 3)] (cC (T 38) .skip (.exit 2))) Pz
abbrev PA:=cS (.mix [m0 (M 81 15),m0 (F 82 89 18 0),m1 (L 83 3 82),m0 (N 84 (ia 83 81 83)),m1 (L 85 4 84),m0 (M 86 85),m0 (Y 86 87 (fa 89 18 2)),m1 (Y 86 88 (ld' 3 87)),m0 (Y 86 89 (bk .eql 3 88 1 3)),m0 (Y 86 90 (mv 89)),m1 (Y 90 91 (ld' 59 6)),m0 (Y 90 92 (fa 34 4 2)),m1 (Y 90 93 (ld' 29 92)),m0 (Y 90 94 (mv 10)),m0 (Y 90 95 (ia 29 93 94)),m1 (Y 90 96 (ld' 3 95)),m0 (Y 90 97 (fa 89 18 1)),m1 (Y 90 98 (ld' 3 97)),m0 (Y 90 99 (bo .add 3 96 98 3)),m3 (Y 90 100 (c2 46 91 99 59 3)) 0 1,m2 (Y 86 101 (pa 90 100)) 1 1,m2 (Y 86 102 (mv 101)) 1 1,m2 (Z 102 103 (fa 89 18 2)) 1 1,⟨Z 102 104 (ld' 3 103),false,true,1,1⟩,m2 (Z 102 105 (bk .eql 3 104 2 3)) 1 1,m2 (Z 102 106 (mv 105)) 1 1,⟨Y 106 107 (ld' 59 7),false,true,1,1⟩,m2 (Y 106 108 (fa 34 4 2)) 1 1,⟨Y 106 109 (ld' 29 108),false,true,1,1⟩,m2 (Y 106 110 (mv 10)) 1 1,m2 (Y 106 111 (ia 29 109 110)) 1 1,⟨Y 106 112 (ld' 3 111),false,true,1,1⟩,m2 (Y 106 113 (fa 89 18 1)) 1 1,⟨Y 106 114 (ld' 3 113),false,true,1,1⟩,m2 (Y 106 115 (bo .add 3 112 114 3)) 1 1,m3 (Y 106 116 (c2 46 107 115 59 3)) 1 2,m2 (Z 102 117 (pa 106 116)) 2 2,m2 (Y 86 118 (po 102 117)) 2 2,m2 (N 119 (pa 86 118)) 2 2]) (cC (T 119) (cO [N 16 (.assign B1)]) .skip)
abbrev PB:=cO [M 74 17,N 75 (iN 74),A 17 75]
abbrev PC:=cS (cB 7 (cX [F 76 32 11 3,L 77 30 76,M 78 17,N 79 (ia 30 77 78),L 80 89 79,N 18 (.alloc 89),V (st' 89 18 80)] PA)) PB
abbrev Pv:=cS (cX [M 69 17,F 70 32 11 3,L 71 30 70,N 72 (ln 71 30),N 73 (bo .lss 3 69 72 3)] (cC (T 73) .skip (.exit 6))) PC
abbrev PD:=cC (T 120) (cO [M 121 9,F 122 34 4 2,L 123 29 122,M 124 10,N 125 (ia 29 123 124),L 126 3 125,M 127 14,N 128 (bo .add 3 126 127 3),N 129 (ia 81 121 128),V (.store 5 (T 129) (.const (.int .u8 1)))]) .skip
abbrev PF:=cS (cX [N 17 (ak 0)] (cW 6 Pv)) (cX [M 120 16] PD)
abbrev PG:=cX [M 64 15,F 65 32 11 2,L 66 3 65,N 67 (ia 83 64 66),L 68 4 67,A 16 68] PF
abbrev PH:=cO [M 57 14,N 58 (iN 57),A 14 58]
abbrev PI:=cS (cB 5 (cX [L 59 32 11,M 60 14,N 61 (.buildSlice 29 1 #[(0,T 60)]),M 62 12,N 63 (cf 45 #[T 59,T 61,T 62] #[32,29,83]),A 15 63] PG)) PH
abbrev Pw:=cS (cX [M 53 14,F 54 32 11 0,L 55 3 54,N 56 (bo .lss 3 53 55 3)] (cC (T 56) .skip (.exit 4))) PI
abbrev Lp:=cS (cX [N 13 (ak 0)] (cW 2 Pu)) (cX [N 14 (ak 0)] (cW 4 Pw))
abbrev Lq:=cO [M 27 10,N 28 (iN 27),A 10 28]
abbrev Lr:=cS (cB 1 (cX [F 29 34 4 1,L 30 28 29,M 31 10,N 32 (ia 28 30 31),L 33 32 32,N 11 (.alloc 32),V (st' 32 11 33)] (cX [N 12 (.assign S0)] Lp))) Lq
abbrev Px:=cS (cX [M 22 10,F 23 34 4 1,L 24 28 23,N 25 (ln 24 28),N 26 (bo .lss 3 22 25 3)] (cC (T 26) .skip (.exit 0))) Lr
abbrev Ls:=cR [F 130 51 5 0,L 131 3 130,N 132 (bk .eql 3 131 2 3),M 133 9,N 134 (.convert 81 9 (T 133)),N 135 (.build 59 #[(0,B1),(1,T 132),(2,T 134)]),V (st' 59 8 135)]
abbrev Lt:=cX [L 19 34 4,N 20 (c1 43 19 34),N 21 (.makeSlice 81 (T 20) (T 20)),A 9 21] (cS (cX [N 10 (ak 0)] (cW 0 Px)) Ls)
abbrev f21:=cX [N 4 (bx 34 0),N 5 (bx 51 1),N 6 (bx 59 2),N 7 (bx 59 3),N 8 (.alloc 59)] Lt
theorem az1:fE 21 f21 136 [.cell 8 59]:=fR
abbrev PJ:=cR [L 7 51 4,M 8 2,N 9 (cf 40 #[T 3,T 7,K 0,T 8] #[75,51,3,3]),A 6 9]
abbrev f22:=cX [N 3 (bx 39 0),N 4 (bx 51 1),N 6 (.assign B0)] PJ
abbrev PK:=cR [M 9 3,N 10 (.build 51 #[(0,K 3)]),N 11 (.buildSlice 35 1 #[(0,T 10)]),N 12 (ap 9 11 35 35),A 2 12]
abbrev PL:=cX [N 4 (.build 48 {toList:=[(1,.const (.string ⟨#[114,111,111,116]⟩))]}),N 5 (.build 51 #[(0,K 1),(1,T 4)]),N 6 (.buildSlice 35 1 #[(0,T 5)]),M 7 0,N 8 (ap 6 7 35 35),A 3 8] PK
abbrev f23:=cX [N 2 (.assign S0)] PL
abbrev PN:=cC (T 37) (cX [M 38 7,N 39 (.build 59 #[]),N 40 (.buildSlice 36 1 #[(0,T 39)]),N 41 (ap 38 40 36 36),A 7 41] (.exit 1)) .skip
abbrev PO:=cO [M 56 9,N 57 (bk .sub 3 56 1 3),A 9 57]
abbrev PP:=cX [M 53 7,M 54 9,N 55 (.slice 36 (T 53) none (some (T 54)) none),A 7 55] PO
abbrev PQ:=cC (T 48) (cX [M 49 7,M 50 9,N 51 (ia 36 49 50),L 52 59 51,V (st' 59 10 52)] PP) .skip
abbrev PR:=cO [M 74 7,M 75 9,M 76 5,M 77 6,N 78 (ia 36 76 77),L 79 59 78,N 80 (ia 36 74 75),V (st' 59 80 79)]
abbrev PS:=cS (.mix [m2 (M 60 5) 0 1,m2 (M 61 6) 0 1,m1 (L 62 34 2),m0 (M 63 1),m0 (M 64 8),m0 (N 65 (ia 35 63 64)),m1 (L 66 51 65),m1 (L 67 59 10),m0 (M 68 7),m0 (M 69 9),m0 (N 70 (ia 36 68 69)),m1 (L 71 59 70),m3 (N 72 (cf 41 #[T 62,T 66,T 67,T 71] #[34,51,59,59])) 0 1,m2 (N 73 (ia 36 60 61)) 1 1,m4 (V (st' 59 73 72)) 1 2]) PR
abbrev PT:=cX [M 58 6,N 59 (bk .sub 3 58 1 3),A 6 59] PS
abbrev PU:=cS (cX [M 43 1,M 44 8,N 45 (ia 35 43 44),F 46 51 45 0,L 47 3 46,N 48 (bk .eql 3 47 1 3)] PQ) PT
abbrev PV:=cX [N 42 (.build 59 #[]),N 10 (.alloc 59),V (st' 59 10 42)] PU
abbrev PX:=cS (cX [M 32 1,M 33 8,N 34 (ia 35 32 33),F 35 51 34 0,L 36 3 35,N 37 (bk .eql 3 36 3 3)] PN) PV
abbrev Lu:=cO [M 27 8,N 28 (bk .sub 3 27 1 3),A 8 28]
abbrev Lv:=cS (cB 1 (cX [M 29 7,N 30 (ln 29 36),N 31 (bk .sub 3 30 1 3),A 9 31] PX)) Lu
abbrev PM:=cS (cX [M 25 8,N 26 (bk .geq 3 25 0 3)] (cC (T 26) .skip (.exit 0))) Lv
abbrev Lw:=cS (cX [M 22 1,N 23 (ln 22 35),N 24 (bk .sub 3 23 1 3),A 8 24] (cW 0 PM)) (cR [M 81 5,A 4 81])
abbrev Lx:=cX [N 20 (.build 59 #[]),N 21 (.buildSlice 36 1 #[(0,T 20)]),A 7 21] Lw
abbrev Ly:=cX [M 18 5,N 19 (ln 18 36),A 6 19] Lx
abbrev Lz:=cX [M 14 1,N 15 (c1 48 14 35),N 16 (ln 15 29),N 17 (.makeSlice 36 (T 16) (T 16)),A 5 17] Ly
abbrev LA:=cS (cX [M 11 1,N 12 (c1 47 11 35),N 13 (nt' 4 12)] (cC (T 13) (cR [N 4 (.assign S0)]) .skip)) Lz
abbrev f24:=cX [N 2 (bx 34 0),N 4 (.assign S0)] LA
abbrev Qa:=cO [M 65 5,N 66 (iN 65),A 5 66]
abbrev Qb:=cS (cB 3 (cX [M 67 0,M 68 4,N 69 (ia 35 67 68),F 70 51 69 2,L 71 49 70,M 72 5,N 73 (ia 49 71 72),F 74 53 73 1,L 75 9 74,N 76 (ln 75 9),N 77 (bk .gtr 3 76 300 3),M 78 77,Z 78 79 (mv 0),Z 78 80 (mv 4),Z 78 81 (ia 35 79 80),Z 78 82 (fa 51 81 2),Z 78 83 (ld' 49 82),Z 78 84 (mv 5),Z 78 85 (ia 49 83 84),Z 78 86 (fa 53 85 0),Z 78 87 (fa 48 86 1),Z 78 88 (ld' 9 87),Z 78 89 (ln 88 9),Z 78 90 (bk .gtr 3 89 100 3),N 91 (po 78 90),M 92 91,Z 92 93 (mv 0),Z 92 94 (mv 4),Z 92 95 (ia 35 93 94),Z 92 96 (fa 51 95 2),Z 92 97 (ld' 49 96),Z 92 98 (mv 5),Z 92 99 (ia 49 97 98),Z 92 100 (fa 53 99 0),Z 92 101 (fa 48 100 0),Z 92 102 (ld' 9 101),Z 92 103 (ln 102 9),Z 92 104 (bk .gtr 3 103 100 3),N 105 (po 92 104)] (cC (T 105) (cR [N 2 (.assign B0)]) .skip))) Qa
abbrev PY:=cS (cX [M 53 5,M 54 0,M 55 4,N 56 (ia 35 54 55),F 57 51 56 2,L 58 49 57,N 59 (ln 58 49),N 60 (bo .lss 3 53 59 3),M 61 60,Y 61 62 (mv 5),Y 61 63 (bk .lss 3 62 100 3),N 64 (pa 61 63)] (cC (T 64) .skip (.exit 2))) Qb
abbrev Qc:=cS (cX [M 26 0,M 27 4,N 28 (ia 35 26 27),F 29 51 28 3,L 30 9 29,N 31 (ln 30 9),N 32 (bk .gtr 3 31 300 3),M 33 32,Z 33 34 (mv 0),Z 33 35 (mv 4),Z 33 36 (ia 35 34 35),Z 33 37 (fa 51 36 1),Z 33 38 (fa 48 37 1),Z 33 39 (ld' 9 38),Z 33 40 (ln 39 9),Z 33 41 (bk .gtr 3 40 100 3),N 42 (po 33 41),M 43 42,Z 43 44 (mv 0),Z 43 45 (mv 4),Z 43 46 (ia 35 44 45),Z 43 47 (fa 51 46 1),Z 43 48 (fa 48 47 0),Z 43 49 (ld' 9 48),Z 43 50 (ln 49 9),Z 43 51 (bk .gtr 3 50 100 3),N 52 (po 43 51)] (cC (T 52) (cR [N 2 (.assign B0)]) .skip)) (cX [N 5 (ak 0)] (cW 2 PY))
abbrev Qd:=cO [M 16 4,N 17 (iN 16),A 4 17]
abbrev Qe:=cS (cB 1 (cX [M 18 3,M 19 0,M 20 4,N 21 (ia 35 19 20),F 22 51 21 2,L 23 49 22,N 24 (ln 23 49),N 25 (bo .add 3 18 24 3),A 3 25] Qc)) Qd
abbrev PZ:=cS (cX [M 8 4,M 9 0,N 10 (ln 9 35),N 11 (bo .lss 3 8 10 3),M 12 11,Y 12 13 (mv 3),Y 12 14 (bk .leq 3 13 400 3),N 15 (pa 12 14)] (cC (T 15) .skip (.exit 0))) Qe
abbrev Qf:=cR [M 106 3,N 107 (bk .leq 3 106 400 3),A 2 107]
abbrev Qg:=cX [M 6 0,N 7 (ln 6 35),A 3 7] (cS (cX [N 4 (ak 0)] (cW 0 PZ)) Qf)
abbrev f25:=cX [N 2 (.assign B0)] Qg
abbrev Qh:=cR [M 3 0,N 4 (ln 3 35),N 5 (bk .gtr 3 4 0 3),M 6 5,Y 6 7 (mv 0),Y 6 8 (c1 49 7 35),Y 6 9 (bk .eql 3 8 0 3),N 10 (pa 6 9),A 2 10]
abbrev f26:=cX [N 2 (.assign B0)] Qh
abbrev Qi:=cR [L 3 25 1,N 4 (c1 50 3 25),N 5 (bk .leq 3 4 64 3),M 6 5,Y 6 7 (ld' 25 1),Y 6 8 (cf 51 #[T 7,K 16] #[25,3]),N 9 (pa 6 8),A 2 9]
abbrev f29:=cX [N 1 (bx 25 0),N 2 (.assign B0)] Qi
theorem aa8:fE 29 f29 10 [.tmp 2]:=fR
abbrev Qj:=cR [L 13 34 3,N 14 (c1 43 13 34),N 15 (bk .leq 3 14 24 3),M 16 15,Y 16 17 (fa 34 3 3),Y 16 18 (fa 32 17 0),Y 16 19 (ld' 3 18),Y 16 20 (bk .leq 3 19 24 3),N 21 (pa 16 20),M 22 21,Y 22 23 (mv 5),Y 22 24 (bk .neq 3 23 0 3),Y 22 25 (mv 24),Z 25 26 (mv 4),Z 25 27 (ln 26 35),Z 25 28 (bk .leq 3 27 14 3),Y 22 29 (po 25 28),N 30 (pa 22 29),A 2 30]
abbrev Qk:=cX [L 9 25 1,N 10 (c1 35 9 25),M 8 10,N 11 (ex 8 0),N 12 (ex 8 1),A 4 11,A 5 12] Qj
abbrev Ql:=cX [L 6 25 1,N 7 (c1 36 6 25),N 3 (.alloc 34),V (st' 34 3 7)] Qk
abbrev f30:=cX [N 1 (bx 25 0),N 2 (.assign B0)] Ql
theorem aa9:fE 30 f30 31 [.tmp 2]:=fR
abbrev Qm:=cC (T 16) (cR [N 2 (.assign S0),N 3 (ak 13)]) .skip
abbrev Qn:=cO [L 30 102 6,L 31 48 8,N 32 (.build 51 #[(0,K 1),(1,T 31)]),N 33 (cv (T 30) #[T 32,K 0] #[51,3])]
abbrev Qo:=cS (cB 1 (cX [N 28 (ia 95 24 26),L 29 48 28,N 8 (.alloc 48),V (st' 48 8 29)] Qn)) (cO [N 34 (iN 26),M 26 34])
abbrev Fw:=cH 27 26 25 Qo
abbrev Qp:=cO [L 47 35 5,M 48 10,N 49 (.build 51 #[(0,K 2),(3,T 48)]),N 50 (.buildSlice 35 1 #[(0,T 49)]),N 51 (ap 47 50 35 35),V (st' 35 5 51)]
abbrev Qq:=cS (cB 3 (cX [N 45 (ia 97 41 43),L 46 9 45,A 10 46] Qp)) (cO [N 52 (iN 43),M 43 52])
abbrev Fx:=cX [N 44 (bo .lss 3 43 42 3)] (cG 44 2 Qq)
abbrev Qr:=cR [L 53 35 5,A 2 53,N 3 (ak 0)]
abbrev Qs:=cS (cS (.mix [m2 (F 35 99 4 3) 0 2,⟨L 36 97 35,false,true,0,2⟩,m0 (F 37 99 4 3),m1 (L 38 97 37),m3 (N 39 (cf 56 #[T 38,.const (.string ByteArray.empty),S0] #[97,9,97])) 0 1,m4 (N 40 (.buildSlice 97 1 #[(0,T 39)])) 1 2,m3 (N 41 (ap 36 40 97 97)) 2 3,⟨N 42 (ln 41 97),false,true,3,3⟩,m2 (N 43 (.move (K 0))) 0 3]) (cW 2 Fx)) Qr
abbrev Qt:=cS (cS (.mix [m2 (F 18 99 4 0) 0 2,⟨L 19 95 18,false,true,0,2⟩,m0 (F 20 99 4 0),m1 (L 21 95 20),m3 (N 22 (c1 57 21 95)) 0 1,m4 (N 23 (.buildSlice 95 1 #[(0,T 22)])) 1 2,m3 (N 24 (ap 19 23 95 95)) 2 3,⟨N 25 (ln 24 95),false,true,3,3⟩,m2 (N 26 (.move (K 0))) 0 3]) (cW 0 Fw)) Qs
abbrev Qu:=cX [N 17 (.makeFunc (Fn.func 54) #[] #[T 4,T 5,T 6]),V (st' 102 6 17)] Qt
abbrev Qv:=cS (cX [L 14 99 4,N 15 (c1 53 14 99),N 16 (bk .gtr 3 15 24 3)] Qm) (cX [N 5 (.alloc 35)] (cX [N 6 (.alloc 102)] Qu))
abbrev LB:=cX [L 11 25 1,N 12 (.buildSlice 22 1 #[(0,T 11)]),N 13 (c1 52 12 22),N 4 (.alloc 99),V (st' 99 4 13)] Qv
abbrev f31:=cX [N 1 (bx 25 0),N 2 (.assign S0),N 3 (ak 0)] LB
theorem ab0:fE 31 f31 54 [.tmp 2,.tmp 3]:=fR
abbrev Qw:=cO [M 37 5,F 38 32 8 0,L 39 3 38,N 40 (bo .add 3 37 39 3),A 5 40]
abbrev Qx:=cS (.mix [m2 (F 25 34 4 1) 0 1,⟨L 26 28 25,false,true,0,1⟩,m1 (L 27 32 8),m4 (N 28 (.buildSlice 28 1 #[(0,T 27)])) 0 1,m3 (N 29 (ap 26 28 28 28)) 1 3,m2 (F 30 34 4 2) 0 3,⟨L 31 29 30,false,true,0,3⟩,m2 (M 32 5) 0 2,m4 (N 33 (.buildSlice 29 1 #[(0,T 32)])) 0 3,m3 (N 34 (ap 31 33 29 29)) 3 4,m2 (F 35 34 4 1) 2 4,m4 (V (st' 28 35 29)) 4 5,m2 (F 36 34 4 2) 5 5,m4 (V (st' 29 36 34)) 5 6]) Qw
abbrev Qy:=cX [L 23 25 7,N 24 (c1 59 23 25),N 8 (.alloc 32),V (st' 32 8 24)] Qx
abbrev Qz:=cS (cB 1 (cX [N 21 (ia 22 17 19),L 22 25 21,N 7 (.alloc 25),V (st' 25 7 22)] Qy)) (cO [N 41 (iN 19),M 19 41])
abbrev Fy:=cH 20 19 18 Qz
abbrev QA:=cS (cX [F 16 107 3 0,L 17 22 16,N 18 (ln 17 22),N 19 (.move (K 0))] (cW 0 Fy)) (cR [L 42 34 4,V (st' 34 2 42)])
abbrev QB:=cS (.mix [m2 (F 11 107 3 0) 0 2,⟨L 12 22 11,false,true,0,2⟩,m1 (L 13 25 1),m3 (N 14 (c1 59 13 25)) 0 2,m2 (N 15 (.build 34 #[(0,T 12),(3,T 14)])) 1 2,m4 (N 4 (.alloc 34)) 0 2,m4 (V (st' 34 4 15)) 2 3]) (cX [N 5 (ak 0)] QA)
abbrev QC:=cX [L 9 25 1,N 10 (c2 58 3 9 107 25)] QB
abbrev f32:=cX [N 1 (bx 25 0),N 2 (.alloc 34)] (cX [N 3 (.alloc 107)] QC)
theorem ab1:fE 32 f32 43 [.cell 2 34]:=fR
abbrev QD:=cR [M 5 0,N 6 (nc 5),F 7 39 6 3,L 8 29 7,N 9 (c1 60 8 29),N 10 (.binOp .mul 3 (K 2) (T 9) 3),N 11 (iN 10),M 12 1,N 13 (bo .geq 3 11 12 3),A 4 13]
abbrev f33:=cX [N 4 (.assign B0)] QD
theorem ab2:fE 33 f33 14 [.tmp 4]:=fR
abbrev QI:=cC (T 55) (cO [M 56 10,M 57 10,N 58 (c1 66 57 97),N 59 (.buildSlice 97 1 #[(0,T 58)]),N 60 (ap 56 59 97 97),A 10 60]) (cO [M 61 10,N 62 (.buildSlice 97 1 #[(0,.const (.string ByteArray.empty))]),N 63 (ap 61 62 97 97),A 10 63])
abbrev QJ:=cO [M 104 11,L 105 51 14,N 106 (.buildSlice 35 1 #[(0,T 105)]),N 107 (ap 104 106 35 35),A 11 107]
abbrev QK:=cS (.mix [m4 (N 87 (.buildSlice 49 0 #[])) 0 1,m2 (F 88 51 14 2) 0 1,⟨L 89 49 88,false,true,0,1⟩,m3 (N 90 (ap 87 89 49 49)) 1 3,m2 (F 91 115 4 1) 0 2,⟨L 92 95 91,false,true,0,2⟩,m2 (M 93 9) 0 2,m2 (N 94 (ia 95 92 93)) 0 2,⟨L 95 48 94,false,true,0,2⟩,m2 (M 96 10) 0 2,m2 (M 97 13) 0 2,m2 (N 98 (ia 97 96 97)) 0 2,⟨L 99 9 98,false,true,0,2⟩,m2 (N 100 (.build 53 #[(0,T 95),(1,T 99)])) 0 2,m4 (N 101 (.buildSlice 49 1 #[(0,T 100)])) 0 3,m3 (N 102 (ap 90 101 49 49)) 3 4,m2 (F 103 51 14 2) 4 4,m4 (V (st' 49 103 102)) 4 5]) QJ
abbrev QL:=cO [M 81 13,N 82 (iN 81),A 13 82]
abbrev QM:=cS (cB 7 (cX [M 83 8,M 84 12,N 85 (ia 35 83 84),L 86 51 85,N 14 (.alloc 51),V (st' 51 14 86)] QK)) QL
abbrev FA:=cS (cX [M 77 13,M 78 10,N 79 (ln 78 97),N 80 (bo .lss 3 77 79 3)] (cC (T 80) .skip (.exit 6))) QM
abbrev QN:=cO [M 68 12,N 69 (iN 68),A 12 69]
abbrev QO:=cS (cB 5 (cX [M 70 11,M 71 8,M 72 12,N 73 (ia 35 71 72),L 74 51 73,N 75 (.buildSlice 35 1 #[(0,T 74)]),N 76 (ap 70 75 35 35),A 11 76] (cX [N 13 (ak 0)] (cW 6 FA)))) QN
abbrev FB:=cS (cX [M 64 12,M 65 8,N 66 (ln 65 35),N 67 (bo .lss 3 64 66 3)] (cC (T 67) .skip (.exit 4))) QO
abbrev QP:=cC (T 111) (cR [N 2 (.assign S0),N 3 (ak 13)]) .skip
abbrev QQ:=cX [M 109 8,N 110 (ln 109 35),N 111 (bk .gtr 3 110 24 3)] QP
abbrev QS:=cS (cX [N 12 (ak 0)] (cW 4 FB)) (cX [M 108 11,A 8 108] QQ)
abbrev LC:=cS (cX [M 54 10,N 55 (cf 65 #[T 54,.const (.string ByteArray.empty)] #[97,9])] QI) (cX [N 11 (.assign S0)] QS)
abbrev LD:=cO [M 45 9,N 46 (iN 45),A 9 46]
abbrev LF:=cS (cB 3 (cX [N 47 (.buildSlice 97 0 #[]),F 48 115 4 2,L 49 96 48,M 50 9,N 51 (ia 96 49 50),L 52 97 51,N 53 (ap 47 52 97 97),A 10 53] LC)) LD
abbrev FC:=cS (cX [M 40 9,F 41 115 4 1,L 42 95 41,N 43 (ln 42 95),N 44 (bo .lss 3 40 43 3)] (cC (T 44) .skip (.exit 2))) LF
abbrev LG:=cO [M 112 5,M 113 8,N 114 (ap 112 113 35 35),A 5 114]
abbrev LH:=cO [M 32 7,N 33 (iN 32),A 7 33]
abbrev LI:=cS (cB 1 (cX [M 34 6,M 35 7,N 36 (ia 95 34 35),L 37 48 36,N 38 (.build 51 #[(0,K 1),(1,T 37)]),N 39 (.buildSlice 35 1 #[(0,T 38)]),A 8 39] (cS (cX [N 9 (ak 0)] (cW 2 FC)) LG))) LH
abbrev FD:=cS (cX [M 28 7,M 29 6,N 30 (ln 29 95),N 31 (bo .lss 3 28 30 3)] (cC (T 31) .skip (.exit 0))) LI
abbrev LJ:=cO [M 128 16,N 129 (iN 128),A 16 129]
abbrev LK:=cS (cB 9 (cO [M 130 5,M 131 15,M 132 16,N 133 (ia 97 131 132),L 134 9 133,N 135 (.build 51 #[(0,K 2),(3,T 134)]),N 136 (.buildSlice 35 1 #[(0,T 135)]),N 137 (ap 130 136 35 35),A 5 137])) LJ
abbrev FE:=cS (cX [M 124 16,M 125 15,N 126 (ln 125 97),N 127 (bo .lss 3 124 126 3)] (cC (T 127) .skip (.exit 8))) LK
abbrev LL:=cC (T 140) (cR [N 2 (.assign S0),N 3 (ak 13)]) .skip
abbrev LM:=cR [M 141 5,A 2 141,N 3 (ak 0)]
abbrev LN:=cS (cX [M 138 5,N 139 (ln 138 35),N 140 (bk .gtr 3 139 24 3)] LL) LM
abbrev LO:=cS (.mix [m4 (N 115 (.buildSlice 97 0 #[])) 0 1,m2 (F 116 115 4 3) 0 1,⟨L 117 97 116,false,true,0,1⟩,m3 (N 118 (ap 115 117 97 97)) 1 2,m2 (F 119 115 4 3) 0 2,⟨L 120 97 119,false,true,0,2⟩,m3 (N 121 (c1 66 120 97)) 2 3,m4 (N 122 (.buildSlice 97 1 #[(0,T 121)])) 3 4,m3 (N 123 (ap 118 122 97 97)) 4 5,m2 (A 15 123) 5 5]) (cS (cX [N 16 (ak 0)] (cW 8 FE)) LN)
abbrev LP:=cS (.mix [m4 (N 19 (.buildSlice 95 0 #[])) 0 1,m2 (F 20 115 4 0) 0 1,⟨L 21 95 20,false,true,0,1⟩,m3 (N 22 (ap 19 21 95 95)) 1 2,m2 (F 23 115 4 0) 0 2,⟨L 24 95 23,false,true,0,2⟩,m3 (N 25 (c1 64 24 95)) 2 3,m4 (N 26 (.buildSlice 95 1 #[(0,T 25)])) 3 4,m3 (N 27 (ap 22 26 95 95)) 4 5,m2 (A 6 27) 5 5]) (cS (cX [N 7 (ak 0)] (cW 0 FD)) LO)
abbrev LQ:=cX [L 17 25 1,N 18 (c1 63 17 25),N 4 (.alloc 115),V (st' 115 4 18)] (cX [N 5 (.assign S0)] LP)
abbrev f35:=cX [N 1 (bx 25 0),N 2 (.assign S0),N 3 (ak 0)] LQ
theorem ab3:fE 35 f35 142 [.tmp 2,.tmp 3]:=fR
abbrev QT:=cO [M 52 5,F 53 32 7 0,L 54 3 53,N 55 (bo .add 3 52 54 3),A 5 55]
abbrev QU:=cX [F 46 34 3 2,L 47 29 46,M 48 5,N 49 (.buildSlice 29 1 #[(0,T 48)]),N 50 (ap 47 49 29 29),F 51 34 3 2,V (st' 29 51 50)] QT
abbrev QV:=cX [F 40 34 3 1,L 41 28 40,L 42 32 7,N 43 (.buildSlice 28 1 #[(0,T 42)]),N 44 (ap 41 43 28 28),F 45 34 3 1,V (st' 28 45 44)] QU
abbrev QW:=cS (.mix [m2 (F 31 34 3 0) 0 1,⟨L 32 22 31,false,true,0,1⟩,m0 (M 33 4),m0 (M 34 6),m0 (N 35 (ia 22 33 34)),m1 (L 36 25 35),m4 (N 37 (.buildSlice 22 1 #[(0,T 36)])) 0 1,m3 (N 38 (ap 32 37 22 22)) 1 2,m2 (F 39 34 3 0) 2 2,m4 (V (st' 22 39 38)) 2 3]) QV
abbrev QX:=cX [M 26 4,M 27 6,N 28 (ia 22 26 27),L 29 25 28,N 30 (c1 67 29 25),N 7 (.alloc 32),V (st' 32 7 30)] QW
abbrev QY:=cO [M 17 6,N 18 (iN 17),A 6 18]
abbrev QZ:=cS (cB 1 (cS (cS (.draw [yF (L 19 34 3),yF (M 20 4),yF (M 21 6),yF (N 22 (ia 22 20 21)),yF (L 23 25 22),yT (N 24 (c2 69 19 23 34 25)),yT (N 25 (bk .geq 3 24 0 3))]) (cC (T 25) (.exit 1) .skip)) QX)) QY
abbrev FF:=cS (cX [M 13 6,M 14 4,N 15 (ln 14 22),N 16 (bo .lss 3 13 15 3)] (cC (T 16) .skip (.exit 0))) QZ
abbrev Ra:=cS (cX [N 6 (ak 0)] (cW 0 FF)) (cR [L 56 34 3,V (st' 34 2 56)])
abbrev Rb:=cX [L 11 25 1,N 12 (c1 68 11 25),A 4 12] (cX [N 5 (ak 0)] Ra)
abbrev Rc:=cX [L 8 25 1,N 9 (c1 67 8 25),N 10 (.build 34 #[(3,T 9)]),N 3 (.alloc 34),V (st' 34 3 10)] Rb
abbrev f36:=cX [N 1 (bx 25 0),N 2 (.alloc 34)] Rc
theorem ab4:fE 36 f36 57 [.cell 2 34]:=fR
abbrev Re:=cR [N 5 (.buildSlice 49 0 #[]),M 6 0,N 7 (ap 5 6 49 49),A 2 7]
abbrev Rf:=cS (cX [M 3 0,N 4 (.binOp .eql 49 (T 3) S0 49)] (cC (T 4) (cR [N 2 (.assign S0)]) .skip)) Re
abbrev f37:=cX [N 2 (.assign S0)] Rf
theorem ab5:fE 37 f37 8 [.tmp 2]:=fR
abbrev Rg:=cS (.draw [yF (L 11 59 3),yF (M 12 0),yF (M 13 5),yF (N 14 (ia 36 12 13)),yF (L 15 59 14),yT (N 16 (bo .eql 59 11 15 59))]) (cC (T 16) (cR [M 17 5,A 4 17]) .skip)
abbrev Rh:=cS (cB 1 (cX [M 10 8,A 5 10] Rg)) (cO [N 18 (iN 8),M 8 18])
abbrev FG:=cH 9 8 7 Rh
abbrev Ri:=cS (cX [M 6 0,N 7 (ln 6 36),N 8 (.move (K 0))] (cW 0 FG)) (cR [N 4 (ak (-1))])
abbrev f39:=cX [N 3 (bx 59 1),N 4 (ak 0)] Ri
theorem ab6:fE 39 f39 19 [.tmp 4]:=fR
abbrev Rj:=cR [M 13 0,M 14 2,N 15 (c2 70 13 14 75 3),M 16 15,Y 16 17 (mv 0),Y 16 18 (mv 3),Y 16 19 (c2 70 17 18 75 3),N 20 (pa 16 19),M 21 20,Y 21 22 (mv 9),Y 21 23 (nt' 4 22),Y 21 24 (mv 23),Z 24 25 (mv 2),Z 24 26 (bk .eql 3 25 0 3),Z 24 27 (mv 26),Y 27 28 (mv 0),Y 27 29 (nc 28),Y 27 30 (fa 39 29 2),Y 27 31 (ld' 36 30),Y 27 32 (mv 3),Y 27 33 (ia 36 31 32),Y 27 34 (fa 59 33 1),Y 27 35 (ld' 4 34),Y 27 36 (nt' 4 35),Z 24 37 (pa 27 36),Y 21 38 (po 24 37),N 39 (pa 21 38),A 8 39]
abbrev Rk:=cX [F 10 51 5 0,L 11 3 10,N 12 (bk .eql 3 11 2 3),A 9 12] Rj
abbrev f40:=cX [N 5 (bx 51 1),N 8 (.assign B0)] Rk
theorem ab7:fE 40 f40 40 [.tmp 8]:=fR
abbrev Rl:=cO [M 26 9,M 27 10,N 28 (c2 72 26 27 121 3)]
abbrev Rm:=cS (cB 1 (cX [M 25 23,A 10 25] Rl)) (cO [N 29 (iN 23),M 23 29])
abbrev FH:=cH 24 23 22 Rm
abbrev Rn:=cS (.draw [yF (F 30 51 5 0),yF (L 31 3 30),yF (N 32 (bk .eql 3 31 2 3)),yF (M 33 9),yF (N 34 (nc 33)),yF (F 35 123 34 4),yF (L 36 81 35),yF (N 37 (.convert 81 9 (T 36))),yT (N 38 (.build 59 #[(0,B1),(1,T 32),(2,T 37)])),yT (V (st' 59 8 38))]) .ret
abbrev Ro:=cS (cX [F 20 34 4 1,L 21 28 20,N 22 (ln 21 28),N 23 (.move (K 0))] (cW 0 FH)) Rn
abbrev Rq:=cS (.mix [⟨L 11 34 4,false,true,0,2⟩,⟨L 12 51 5,false,true,0,2⟩,⟨L 13 59 6,false,true,0,2⟩,⟨L 14 59 7,false,true,0,2⟩,m1 (L 15 34 4),m3 (N 16 (c1 71 15 34)) 0 1,m4 (N 17 (.makeSlice 81 (T 16) (T 16))) 1 2,m2 (N 18 (.build 123 #[(0,T 11),(1,T 12),(2,T 13),(3,T 14),(4,T 17)])) 2 2,m4 (N 19 (bx 123 18)) 2 3,m2 (A 9 19) 3 3]) Ro
abbrev f41:=cX [N 4 (bx 34 0),N 5 (bx 51 1),N 6 (bx 59 2),N 7 (bx 59 3),N 8 (.alloc 59)] Rq
theorem ab8:fE 41 f41 39 [.cell 8 59]:=fR
abbrev Ru:=cC (T 18) (cR [M 19 3,M 20 19,Y 20 21 (fa 51 1 3),Y 20 22 (ld' 9 21),Y 20 23 (.binOp .neq 9 (T 22) (.const (.string ByteArray.empty)) 9),N 24 (pa 20 23),M 25 24,Y 25 26 (fa 51 1 3),Y 25 27 (ld' 9 26),Y 25 28 (c1 73 27 9),N 29 (pa 25 28),A 2 29]) .skip
abbrev Rv:=cC (T 32) (cR [M 33 3,M 34 33,Y 34 35 (fa 51 1 3),Y 34 36 (ld' 9 35),Y 34 37 (.binOp .eql 9 (T 36) (.const (.string ByteArray.empty)) 9),N 38 (pa 34 37),A 2 38]) .skip
abbrev Rx:=cO [M 87 5,N 88 (iN 87),A 5 88]
abbrev Ry:=cS (cB 3 (cS (.draw [yF (F 89 51 1 2),yF (L 90 49 89),yF (M 91 5),yF (N 92 (ia 49 90 91)),yF (F 93 53 92 0),yF (L 94 48 93),yF (F 95 51 1 2),yF (L 96 49 95),yF (M 97 4),yF (N 98 (ia 49 96 97)),yF (F 99 53 98 0),yF (L 100 48 99),yT (N 101 (bo .eql 48 94 100 48))]) (cC (T 101) (cR [N 2 (.assign B0)]) .skip))) Rx
abbrev Rr:=cS (cX [M 84 5,M 85 4,N 86 (bo .lss 3 84 85 3)] (cC (T 86) .skip (.exit 2))) Ry
abbrev Rz:=cO [M 64 4,N 65 (iN 64),A 4 65]
abbrev RA:=cS (cB 1 (cS (cX [F 66 51 1 2,L 67 49 66,M 68 4,N 69 (ia 49 67 68),F 70 53 69 0,L 71 48 70,N 72 (c1 74 71 48),N 73 (nt' 4 72),M 74 73,Z 74 75 (fa 51 1 2),Z 74 76 (ld' 49 75),Z 74 77 (mv 4),Z 74 78 (ia 49 76 77),Z 74 79 (fa 53 78 1),Z 74 80 (ld' 9 79),Z 74 81 (c1 73 80 9),Z 74 82 (nt' 4 81),N 83 (po 74 82)] (cC (T 83) (cR [N 2 (.assign B0)]) .skip)) (cX [N 5 (ak 0)] (cW 2 Rr)))) Rz
abbrev Rs:=cS (cX [M 59 4,F 60 51 1 2,L 61 49 60,N 62 (ln 61 49),N 63 (bo .lss 3 59 62 3)] (cC (T 63) .skip (.exit 0))) RA
abbrev RB:=cS (cX [N 4 (ak 0)] (cW 0 Rs)) (cR [N 2 (.assign B1)])
abbrev RC:=cS (cX [F 39 51 1 0,L 40 3 39,N 41 (bk .neq 3 40 1 3),M 42 41,Z 42 43 (fa 51 1 3),Z 42 44 (ld' 9 43),Z 42 45 (.binOp .neq 9 (T 44) (.const (.string ByteArray.empty)) 9),N 46 (po 42 45),M 47 46,Z 47 48 (fa 51 1 1),Z 47 49 (ld' 48 48),Z 47 50 (c1 74 49 48),Z 47 51 (nt' 4 50),N 52 (po 47 51),M 53 52,Z 53 54 (fa 51 1 2),Z 53 55 (ld' 49 54),Z 53 56 (ln 55 49),Z 53 57 (bk .gtr 3 56 32 3),N 58 (po 53 57)] (cC (T 58) (cR [N 2 (.assign B0)]) .skip)) RB
abbrev RD:=cS (cX [F 30 51 1 0,L 31 3 30,N 32 (bk .eql 3 31 3 3)] Rv) RC
abbrev RE:=cS (cX [F 16 51 1 0,L 17 3 16,N 18 (bk .eql 3 17 2 3)] Ru) RD
abbrev LR:=cX [F 6 51 1 1,L 7 48 6,N 8 (.build 48 #[]),N 9 (bo .eql 48 7 8 48),M 10 9,Y 10 11 (fa 51 1 2),Y 10 12 (ld' 49 11),Y 10 13 (ln 12 49),Y 10 14 (bk .eql 3 13 0 3),N 15 (pa 10 14),A 3 15] RE
abbrev f42:=cX [N 1 (bx 51 0),N 2 (.assign B0)] LR
abbrev RF:=cO [M 10 4,N 11 (iN 10),A 4 11]
abbrev RG:=cS (cB 1 (cO [M 12 3,F 13 34 1 1,L 14 28 13,M 15 4,N 16 (ia 28 14 15),F 17 32 16 0,L 18 3 17,N 19 (bo .add 3 12 18 3),A 3 19])) RF
abbrev FI:=cS (cX [M 5 4,F 6 34 1 1,L 7 28 6,N 8 (ln 7 28),N 9 (bo .lss 3 5 8 3)] (cC (T 9) .skip (.exit 0))) RG
abbrev RH:=cS (cX [N 4 (ak 0)] (cW 0 FI)) (cR [M 20 3,A 2 20])
abbrev f43:=cX [N 1 (bx 34 0),N 2 (ak 0)] (cX [N 3 (ak 0)] RH)
theorem ab9:fE 43 f43 21 [.tmp 2]:=fR
abbrev aw5:=cC (T 17) (cS (.draw [yF (L 18 34 4),yF (F 19 86 5 3),yF (L 20 23 19),yF (N 21 (.indexAddr 23 (T 20) (K 0))),yF (L 22 86 21),yF (L 23 51 6),yF (M 24 3),yT (N 25 (cf 44 #[T 18,T 22,T 23,T 24] #[34,86,51,81])),yT (N 26 (nt' 4 25)),yT (A 8 26)]) .ret) .skip
abbrev aw6:=cO [M 55 10,M 56 55,Z 56 57 (mv 12),N 58 (po 56 57),A 10 58]
abbrev aw7:=cX [M 51 9,M 52 51,Y 52 53 (mv 12),N 54 (pa 52 53),A 9 54] aw6
abbrev aw8:=cO [M 40 11,N 41 (iN 40),A 11 41]
abbrev aw9:=cS (cB 1 (cS (.draw [yF (L 42 34 4),yF (F 43 86 5 3),yF (L 44 23 43),yF (M 45 11),yF (N 46 (ia 23 44 45)),yF (L 47 86 46),yF (L 48 51 6),yF (M 49 3),yT (N 50 (cf 44 #[T 42,T 47,T 48,T 49] #[34,86,51,81])),yT (A 12 50)]) aw7)) aw8
abbrev at7:=cS (cX [M 35 11,F 36 86 5 3,L 37 23 36,N 38 (ln 37 23),N 39 (bo .lss 3 35 38 3)] (cC (T 39) .skip (.exit 0))) aw9
abbrev ax0:=cR [F 59 86 5 0,L 60 3 59,N 61 (bk .eql 3 60 9 3),M 62 61,Y 62 63 (mv 9),N 64 (pa 62 63),M 65 64,Z 65 66 (fa 86 5 0),Z 65 67 (ld' 3 66),Z 65 68 (bk .eql 3 67 10 3),Z 65 69 (mv 68),Y 69 70 (mv 10),Z 65 71 (pa 69 70),N 72 (po 65 71),A 8 72]
abbrev ax1:=cX [N 10 (.assign B0)] (cS (cX [N 11 (ak 0)] (cW 0 at7)) ax0)
abbrev ax2:=cS (.draw [yF (M 82 13),yF (N 83 (bk .geq 3 82 0 3)),yF (M 84 83),yF (Y 84 85 (mv 3)),yF (Y 84 86 (fa 34 4 2)),yF (Y 84 87 (ld' 29 86)),yF (Y 84 88 (mv 13)),yF (Y 84 89 (ia 29 87 88)),yF (Y 84 90 (ld' 3 89)),yF (Y 84 91 (fa 34 4 1)),yF (Y 84 92 (ld' 28 91)),yF (Y 84 93 (mv 13)),yF (Y 84 94 (ia 28 92 93)),yF (Y 84 95 (fa 32 94 1)),yF (Y 84 96 (ld' 3 95)),yF (Y 84 97 (bo .add 3 90 96 3)),yT (Y 84 98 (ia 81 85 97)),yT (Y 84 99 (ld' 5 98)),yT (Y 84 100 (.binOp .eql 5 (T 99) (.const (.int .u8 1)) 5)),yT (N 101 (pa 84 100)),yT (A 8 101)]) .ret
abbrev ax3:=cC (T 75) (cS (.draw [yF (L 76 34 4),yF (F 77 86 5 4),yF (L 78 22 77),yF (N 79 (.indexAddr 22 (T 78) (K 0))),yF (L 80 25 79),yT (N 81 (c2 69 76 80 34 25)),yT (A 13 81)]) ax2) .skip
abbrev ax4:=cC (T 112) (cR [F 113 51 6 0,L 114 3 113,N 115 (bk .neq 3 114 1 3),M 116 115,Y 116 117 (fa 86 5 0),Y 116 118 (ld' 3 117),Y 116 119 (bk .eql 3 118 3 3),Y 116 120 (mv 119),Z 120 121 (fa 51 6 3),Z 120 122 (ld' 9 121),Z 120 123 (fa 86 5 2),Z 120 124 (ld' 9 123),Z 120 125 (bo .eql 9 122 124 9),Y 116 126 (po 120 125),N 127 (pa 116 126),A 8 127]) .skip
abbrev au5:=cC (T 133) (cR [F 134 51 6 1,L 135 48 134,F 136 86 5 1,L 137 48 136,N 138 (bo .eql 48 135 137 48),A 8 138]) .skip
abbrev au6:=cC (T 159) (cS (.draw [yF (F 160 86 5 0),yF (L 161 3 160),yF (N 162 (bk .eql 3 161 5 3)),yF (M 163 162),yF (Z 163 164 (fa 51 6 2)),yF (Z 163 165 (ld' 49 164)),yF (Z 163 166 (mv 14)),yF (Z 163 167 (ia 49 165 166)),yF (Z 163 168 (fa 53 167 1)),yF (Z 163 169 (ld' 9 168)),yF (Z 163 170 (fa 86 5 2)),yF (Z 163 171 (ld' 9 170)),yT (Z 163 172 (bo .eql 9 169 171 9)),yT (N 173 (po 163 172)),yT (A 8 173)]) .ret) .skip
abbrev au7:=cO [M 149 14,N 150 (iN 149),A 14 150]
abbrev au8:=cS (cB 3 (cS (.draw [yF (F 151 51 6 2),yF (L 152 49 151),yF (M 153 14),yF (N 154 (ia 49 152 153)),yF (F 155 53 154 0),yF (L 156 48 155),yF (F 157 86 5 1),yF (L 158 48 157),yT (N 159 (bo .eql 48 156 158 48))]) au6)) au7
abbrev at8:=cS (cX [M 139 14,F 140 51 6 2,L 141 49 140,N 142 (ln 141 49),N 143 (bo .lss 3 139 142 3),M 144 143,Y 144 145 (fa 86 5 0),Y 144 146 (ld' 3 145),Y 144 147 (bk .geq 3 146 5 3),N 148 (pa 144 147)] (cC (T 148) .skip (.exit 2))) au8
abbrev au9:=cR [F 174 86 5 0,L 175 3 174,N 176 (bk .eql 3 175 2 3),A 8 176]
abbrev av0:=cS (cX [F 131 86 5 0,L 132 3 131,N 133 (bk .eql 3 132 4 3)] au5) (cS (cX [N 14 (ak 0)] (cW 2 at8)) au9)
abbrev av1:=cS (cX [F 128 51 6 0,L 129 3 128,N 130 (bk .neq 3 129 1 3)] (cC (T 130) (cR [N 8 (.assign B0)]) .skip)) av0
abbrev av2:=cS (cX [F 105 86 5 0,L 106 3 105,N 107 (bk .eql 3 106 3 3),M 108 107,Z 108 109 (fa 86 5 0),Z 108 110 (ld' 3 109),Z 108 111 (bk .eql 3 110 7 3),N 112 (po 108 111)] ax4) av1
abbrev av3:=cS (cX [F 102 86 5 0,L 103 3 102,N 104 (bk .eql 3 103 1 3)] (cC (T 104) (cR [N 8 (.assign B1)]) .skip)) av2
abbrev av4:=cS (cX [F 73 86 5 0,L 74 3 73,N 75 (bk .eql 3 74 11 3)] ax3) av3
abbrev av5:=cS (cX [F 27 86 5 0,L 28 3 27,N 29 (bk .eql 3 28 9 3),M 30 29,Z 30 31 (fa 86 5 0),Z 30 32 (ld' 3 31),Z 30 33 (bk .eql 3 32 10 3),N 34 (po 30 33)] (cC (T 34) (cX [N 9 (.assign B1)] ax1) .skip)) av4
abbrev av6:=cS (cX [F 15 86 5 0,L 16 3 15,N 17 (bk .eql 3 16 8 3)] aw5) av5
abbrev f44:=cX [N 4 (bx 34 0),N 5 (bx 86 1),N 6 (bx 51 2),N 8 (.assign B0)] av6
theorem az2:fE 44 f44 177 [.tmp 8]:=fR
abbrev ax5:=cO [M 19 8,N 20 (iN 19),A 8 20]
abbrev ax6:=cS (cB 1 (cO [M 21 7,M 22 1,M 23 8,N 24 (ia 29 22 23),L 25 3 24,N 26 (ia 83 21 25),V (.store 4 (T 26) B1)])) ax5
abbrev at9:=cS (cX [M 15 8,M 16 1,N 17 (ln 16 29),N 18 (bo .lss 3 15 17 3)] (cC (T 18) .skip (.exit 0))) ax6
abbrev ax7:=cC (T 66) (cO [M 67 7,F 68 89 11 1,L 69 3 68,N 70 (ia 83 67 69),V (.store 4 (T 70) B1)]) .skip
abbrev ax8:=cX [M 45 7,F 46 89 11 0,L 47 3 46,N 48 (ia 83 45 47),L 49 4 48,M 50 49,Y 50 51 (fa 89 11 2),Y 50 52 (ld' 3 51),Y 50 53 (bk .eql 3 52 0 3),Y 50 54 (mv 53),Z 54 55 (fa 89 11 2),Z 54 56 (ld' 3 55),Z 54 57 (bk .eql 3 56 3 3),Z 54 58 (mv 57),Y 58 59 (mv 2),Y 58 60 (fa 89 11 3),Y 58 61 (ld' 3 60),Y 58 62 (ia 83 59 61),Y 58 63 (ld' 4 62),Z 54 64 (pa 58 63),Y 50 65 (po 54 64),N 66 (pa 50 65)] ax7
abbrev ax9:=cO [M 38 10,N 39 (iN 38),A 10 39]
abbrev ay0:=cS (cB 5 (cX [F 40 32 3 3,L 41 30 40,M 42 10,N 43 (ia 30 41 42),L 44 89 43,N 11 (.alloc 89),V (st' 89 11 44)] ax8)) ax9
abbrev au0:=cS (cX [M 33 10,F 34 32 3 3,L 35 30 34,N 36 (ln 35 30),N 37 (bo .lss 3 33 36 3)] (cC (T 37) .skip (.exit 4))) ay0
abbrev ay1:=cO [M 31 9,N 32 (iN 31),A 9 32]
abbrev au1:=cS (cX [M 27 9,F 28 32 3 0,L 29 3 28,N 30 (bo .lss 3 27 29 3)] (cC (T 30) .skip (.exit 2))) (cS (cB 3 (cX [N 10 (ak 0)] (cW 4 au0))) ay1)
abbrev ay2:=cS (cX [N 9 (ak 0)] (cW 2 au1)) (cR [M 71 7,A 6 71])
abbrev ay3:=cX [F 12 32 3 0,L 13 3 12,N 14 (.makeSlice 83 (T 13) (T 13)),A 7 14] (cS (cX [N 8 (ak 0)] (cW 0 at9)) ay2)
abbrev f45:=cX [N 3 (bx 32 0),N 6 (.assign S0)] ay3
theorem az3:fE 45 f45 72 [.tmp 6]:=fR
abbrev ay4:=cR [F 5 59 2 0,L 6 4 5,M 7 6,Y 7 8 (fa 59 2 2),Y 7 9 (ld' 9 8),Y 7 10 (mv 1),Y 7 11 (.index 9 (T 9) (T 10)),Y 7 12 (.binOp .eql 5 (T 11) (.const (.int .u8 1)) 5),N 13 (pa 7 12),A 4 13]
abbrev f46:=cX [N 2 (bx 59 0),N 4 (.assign B0)] ay4
theorem az4:fE 46 f46 14 [.tmp 4]:=fR
abbrev RJ:=cR [L 3 25 1,N 4 (cf 77 #[T 3,K 64] #[25,3]),A 2 4]
abbrev f50:=cX [N 1 (bx 25 0),N 2 (ak 0)] RJ
theorem ac0:fE 50 f50 5 [.tmp 2]:=fR
abbrev RK:=cC (T 27) (cX [N 5 (ak 2)] (cO [N 6 (ak 64)])) .skip
abbrev RL:=cC (T 30) (cX [N 5 (ak 1)] (cO [N 6 (ak 1)])) .skip
abbrev RM:=cO [M 64 7,N 65 (iN 64),A 7 65]
abbrev RN:=cS (cB 1 (cX [F 66 25 2 1,L 67 22 66,M 68 7,N 69 (ia 22 67 68),L 70 25 69,M 71 1,N 72 (bk .sub 3 71 1 3),N 73 (c2 51 70 72 25 3),N 74 (nt' 4 73)] (cC (T 74) (cR [N 4 (.assign B0)]) .skip))) RM
abbrev FJ:=cS (cX [M 59 7,F 60 25 2 1,L 61 22 60,N 62 (ln 61 22),N 63 (bo .lss 3 59 62 3)] (cC (T 63) .skip (.exit 0))) RN
abbrev RO:=cR [F 75 25 2 2,L 76 23 75,N 77 (ln 76 23),N 78 (bk .eql 3 77 0 3),M 79 78,Z 79 80 (fa 25 2 2),Z 79 81 (ld' 23 80),Z 79 82 (.indexAddr 23 (T 81) (K 0)),Z 79 83 (ld' 86 82),Z 79 84 (mv 1),Z 79 85 (bk .sub 3 84 1 3),Z 79 86 (c2 78 83 85 86 3),N 87 (po 79 86),A 4 87]
abbrev RP:=cS (cX [F 31 25 2 1,L 32 22 31,N 33 (ln 32 22),M 34 5,N 35 (bo .lss 3 33 34 3),M 36 35,Z 36 37 (fa 25 2 1),Z 36 38 (ld' 22 37),Z 36 39 (ln 38 22),Z 36 40 (mv 6),Z 36 41 (bo .gtr 3 39 40 3),N 42 (po 36 41),M 43 42,Z 43 44 (fa 25 2 0),Z 43 45 (ld' 3 44),Z 43 46 (bk .eql 3 45 7 3),Z 43 47 (fa 25 2 2),Z 43 48 (ld' 23 47),Z 43 49 (ln 48 23),Z 43 50 (bk .eql 3 49 1 3),Z 43 51 (bo .neq 4 46 50 4),N 52 (po 43 51),M 53 52,Z 53 54 (fa 25 2 2),Z 53 55 (ld' 23 54),Z 53 56 (ln 55 23),Z 53 57 (bk .gtr 3 56 1 3),N 58 (po 53 57)] (cC (T 58) (cR [N 4 (.assign B0)]) .skip)) (cS (cX [N 7 (ak 0)] (cW 0 FJ)) RO)
def DM:E4:=RP
abbrev RQ:=cS (cX [F 28 25 2 0,L 29 3 28,N 30 (bk .eql 3 29 6 3)] RL) DM
abbrev RR:=cS (cX [F 20 25 2 0,L 21 3 20,N 22 (bk .eql 3 21 4 3),M 23 22,Z 23 24 (fa 25 2 0),Z 23 25 (ld' 3 24),Z 23 26 (bk .eql 3 25 5 3),N 27 (po 23 26)] RK) RQ
abbrev RS:=cX [N 5 (ak 0)] (cX [N 6 (ak 0)] RR)
abbrev RT:=cS (cX [M 8 1,N 9 (bk .eql 3 8 0 3),M 10 9,Z 10 11 (fa 25 2 0),Z 10 12 (ld' 3 11),Z 10 13 (bk .lss 3 12 1 3),N 14 (po 10 13),M 15 14,Z 15 16 (fa 25 2 0),Z 15 17 (ld' 3 16),Z 15 18 (bk .gtr 3 17 7 3),N 19 (po 15 18)] (cC (T 19) (cR [N 4 (.assign B0)]) .skip)) RS
abbrev f51:=cX [N 2 (bx 25 0),N 4 (.assign B0)] RT
theorem Xl:fE 51 f51 88 [.tmp 4]:=fR
abbrev RU:=cO [L 12 25 5,N 13 (c2 79 3 12 130 25)]
abbrev RV:=cS (cB 1 (cX [N 10 (ia 22 6 8),L 11 25 10,N 5 (.alloc 25),V (st' 25 5 11)] RU)) (cO [N 14 (iN 8),M 8 14])
abbrev FK:=cH 9 8 7 RV
abbrev RX:=cR [F 15 130 3 0,L 16 99 15,V (st' 99 2 16)]
abbrev RY:=cS (cX [M 6 0,N 7 (ln 6 22),N 8 (.move (K 0))] (cW 0 FK)) RX
abbrev f52:=cX [N 2 (.alloc 99)] (cX [N 3 (.alloc 130)] RY)
theorem az5:fE 52 f52 17 [.cell 2 99]:=fR
abbrev RZ:=cO [M 17 3,M 18 5,N 19 (ln 18 97),N 20 (bk .add 3 19 2 3),N 21 (bo .mul 3 17 20 3),N 22 (bi .min #[T 21,K 25] #[3,3]),A 3 22]
abbrev Sa:=cS (cB 1 (cX [N 15 (ia 96 11 13),L 16 97 15,A 5 16] RZ)) (cO [N 23 (iN 13),M 13 23])
abbrev FL:=cH 14 13 12 Sa
abbrev Sb:=cR [M 24 3,F 25 99 1 3,L 26 97 25,N 27 (ln 26 97),N 28 (bo .add 3 24 27 3),N 29 (iN 28),A 2 29]
abbrev Sc:=cS (cX [F 10 99 1 2,L 11 96 10,N 12 (ln 11 96),N 13 (.move (K 0))] (cW 0 FL)) Sb
abbrev Sd:=cX [F 6 99 1 0,L 7 95 6,N 8 (ln 7 95),N 9 (iN 8),A 3 9] Sc
abbrev f53:=cX [N 1 (bx 99 0),N 2 (ak 0)] Sd
theorem az6:fE 53 f53 30 [.tmp 2]:=fR
abbrev Se:=cC (T 15) (cR [L 16 35 3,L 17 51 5,N 18 (.buildSlice 35 1 #[(0,T 17)]),N 19 (ap 16 18 35 35),V (st' 35 3 19)]) .skip
abbrev Sf:=cO [L 60 102 4,L 61 51 10,M 62 1,N 63 (iN 62),N 64 (cv (T 60) #[T 61,T 63] #[51,3])]
abbrev Sg:=cS (.mix [m0 (F 47 51 5 2),m1 (L 48 49 47),m3 (N 49 (c1 37 48 49)) 0 2,m2 (F 50 99 2 1) 0 1,⟨L 51 95 50,false,true,0,1⟩,m2 (M 52 1) 0 1,m2 (N 53 (ia 95 51 52)) 0 1,⟨L 54 48 53,false,true,0,1⟩,m2 (M 55 9) 0 1,m2 (N 56 (.build 53 #[(0,T 54),(1,T 55)])) 0 1,m4 (N 57 (.buildSlice 49 1 #[(0,T 56)])) 0 2,m3 (N 58 (ap 49 57 49 49)) 2 3,m2 (F 59 51 10 2) 3 3,m4 (V (st' 49 59 58)) 3 4]) Sf
abbrev Sh:=cX [L 46 51 5,N 10 (.alloc 51),V (st' 51 10 46)] Sg
abbrev Si:=cS (cB 1 (cX [N 44 (ia 97 40 42),L 45 9 44,A 9 45] Sh)) (cO [N 65 (iN 42),M 42 65])
abbrev FM:=cH 43 42 41 Si
abbrev Sj:=cX [M 40 7,N 41 (ln 40 97),N 42 (.move (K 0))] (cW 0 FM)
abbrev Sk:=cS (.mix [m0 (F 25 99 2 2),m1 (L 26 96 25),m0 (M 27 1),m0 (N 28 (ia 96 26 27)),m1 (L 29 97 28),m3 (N 30 (c1 55 29 97)) 0 2,m2 (F 31 99 2 2) 0 2,⟨L 32 96 31,false,true,0,2⟩,m2 (M 33 1) 0 2,m2 (N 34 (ia 96 32 33)) 0 2,⟨L 35 97 34,false,true,0,2⟩,m4 (N 36 (.buildSlice 97 1 #[(0,.const (.string ByteArray.empty))])) 0 2,m3 (N 37 (cf 56 #[T 35,.const (.string ByteArray.empty),T 36] #[97,9,97])) 2 3,m4 (N 38 (.buildSlice 97 1 #[(0,T 37)])) 3 4,m3 (N 39 (ap 30 38 97 97)) 4 5,m2 (A 7 39) 5 5]) Sj
abbrev Sn:=cX [L 20 102 4,L 21 51 5,M 22 1,N 23 (iN 22),N 24 (cv (T 20) #[T 21,T 23] #[51,3])] Sk
abbrev So:=cS (cX [M 11 1,F 12 99 2 1,L 13 95 12,N 14 (ln 13 95),N 15 (bo .eql 3 11 14 3)] Se) Sn
abbrev f54:=cX [N 5 (bx 51 0)] So
theorem Xm:fE 54 f54 66 []:=fR
abbrev Sp:=cR [N 5 (.buildSlice 97 0 #[]),M 6 0,N 7 (ap 5 6 97 97),A 2 7]
abbrev Sq:=cS (cX [M 3 0,N 4 (.binOp .eql 97 (T 3) S0 97)] (cC (T 4) (cR [N 2 (.assign S0)]) .skip)) Sp
abbrev f55:=cX [N 2 (.assign S0)] Sq
theorem ac3:fE 55 f55 8 [.tmp 2]:=fR
abbrev Sr:=cX [M 17 0,M 18 8,N 19 (c2 80 17 18 97 9),N 20 (nt' 4 19)] (cC (T 20) (cR [M 21 8,A 6 21]) .skip)
abbrev Ss:=cS (cB 1 (cX [N 15 (ia 97 11 13),L 16 9 15,A 8 16] Sr)) (cO [N 22 (iN 13),M 13 22])
abbrev FN:=cH 14 13 12 Ss
abbrev Su:=cX [M 29 0,M 30 10,N 31 (c2 80 29 30 97 9),N 32 (nt' 4 31)] (cC (T 32) (cR [M 33 10,A 6 33]) .skip)
abbrev Sv:=cO [M 23 9,N 24 (iN 23),A 9 24]
abbrev FO:=cS (cB 3 (cX [M 25 1,M 26 9,N 27 (c1 81 26 3),N 28 (bo .add 9 25 27 9),A 10 28] Su)) Sv
abbrev Sw:=cS (cX [M 11 2,N 12 (ln 11 97),N 13 (.move (K 0))] (cW 0 FN)) (cX [N 9 (ak 0)] (cW 2 FO))
abbrev f56:=cX [N 6 (.assign (.const (.string ByteArray.empty)))] Sw
theorem ac4:fE 56 f56 34 [.tmp 6]:=fR
abbrev Sx:=cC (T 14) (cO [M 15 3,F 16 48 5 1,L 17 9 16,N 18 (.buildSlice 97 1 #[(0,T 17)]),N 19 (ap 15 18 97 97),A 3 19]) .skip
abbrev Sy:=cX [F 12 48 5 0,L 13 9 12,N 14 (.binOp .eql 9 (T 13) (.const (.string ByteArray.empty)) 9)] Sx
abbrev Sz:=cS (cB 1 (cX [N 10 (ia 95 6 8),L 11 48 10,N 5 (.alloc 48),V (st' 48 5 11)] Sy)) (cO [N 20 (iN 8),M 8 20])
abbrev FP:=cH 9 8 7 Sz
abbrev SA:=cR [M 24 3,N 25 (.buildSlice 97 1 {toList:=[(0,.const (.string ⟨#[122]⟩))]}),⟨some 26,.call ⟨.value (.func 56),{toList:=[T 24,.const (.string ⟨#[122]⟩),T 25]},#[97,9,97]⟩,none⟩,N 27 (.build 48 #[(1,T 26)]),V (st' 48 2 27)]
abbrev SB:=cX [M 21 3,N 22 (.buildSlice 97 1 {toList:=[(0,.const (.string ⟨#[122,48]⟩))]}),N 23 (ap 21 22 97 97),A 3 23] SA
abbrev SC:=cS (cX [M 6 0,N 7 (ln 6 95),N 8 (.move (K 0))] (cW 0 FP)) SB
abbrev f57:=cX [N 2 (.alloc 48)] (cX [N 3 (.assign S0)] SC)
theorem ac5:fE 57 f57 28 [.cell 2 48]:=fR
abbrev SD:=cO [M 15 0,L 16 25 5,N 17 (c2 58 15 16 132 25)]
abbrev SE:=cS (cB 1 (cX [N 13 (ia 22 9 11),L 14 25 13,N 5 (.alloc 25),V (st' 25 5 14)] SD)) (cO [N 18 (iN 11),M 11 18])
abbrev FQ:=cH 12 11 10 SE
abbrev SF:=cO [M 26 0,L 27 86 7,N 28 (c2 82 26 27 132 86)]
abbrev SG:=cS (cB 3 (cX [N 24 (ia 23 20 22),L 25 86 24,N 7 (.alloc 86),V (st' 86 7 25)] SF)) (cO [N 29 (iN 22),M 22 29])
abbrev FR:=cX [N 23 (bo .lss 3 22 21 3)] (cG 23 2 SG)
abbrev SH:=cX [F 19 25 3 2,L 20 23 19,N 21 (ln 20 23),N 22 (.move (K 0))] (cW 2 FR)
abbrev SI:=cS (cX [F 8 25 3 1,L 9 22 8,N 10 (ln 9 22),N 11 (.move (K 0))] (cW 0 FQ)) SH
abbrev f58:=cX [N 3 (bx 25 1)] SI
theorem ac6:fE 58 f58 30 []:=fR
abbrev SJ:=cR [F 13 135 3 0,L 14 32 13,V (st' 32 2 14)]
abbrev SK:=cX [L 5 25 1,N 6 (c2 83 3 5 135 25),M 4 6,N 7 (ex 4 0),N 8 (ex 4 1),F 9 135 3 0,F 10 32 9 1,V (st' 3 10 7),F 11 135 3 0,F 12 32 11 2,V (st' 3 12 8)] SJ
abbrev f59:=cX [N 1 (bx 25 0),N 2 (.alloc 32)] (cX [N 3 (.alloc 135)] SK)
theorem ac7:fE 59 f59 15 [.cell 2 32]:=fR
abbrev f61:=cX [N 2 (bx 75 0),N 3 (bx 3 1),N 4 (.assign (.const .nilFunc))] (cR [N 5 (.makeFunc (Fn.func 84) #[] #[T 2,T 3]),A 4 5])
theorem ac9:fE 61 f61 6 [.tmp 4]:=fR
abbrev SS:=cS (.mix [m2 (M 25 0) 0 6,m2 (M 26 0) 0 7,m2 (M 27 0) 0 8,m2 (M 28 0) 0 1,m2 (N 29 (nc 28)) 0 1,m2 (F 30 39 29 2) 0 1,⟨L 31 36 30,false,true,0,1⟩,m1 (L 32 59 5),m4 (N 33 (.buildSlice 36 1 #[(0,T 32)])) 0 1,m3 (N 34 (ap 31 33 36 36)) 1 3,m2 (M 35 0) 0 3,m2 (N 36 (nc 35)) 0 3,m2 (F 37 39 36 3) 0 3,⟨L 38 29 37,false,true,0,3⟩,m2 (M 39 2) 0 2,m4 (N 40 (.buildSlice 29 1 #[(0,T 39)])) 0 3,m3 (N 41 (ap 38 40 29 29)) 3 5,m2 (M 42 0) 0 5,m2 (N 43 (nc 42)) 0 5,m2 (F 44 39 43 4) 0 5,⟨L 45 37 44,false,true,0,5⟩,⟨L 46 56 7,false,true,0,4⟩,m4 (N 47 (.buildSlice 37 1 #[(0,T 46)])) 0 5,m3 (N 48 (ap 45 47 37 37)) 5 6,m2 (N 49 (nc 25)) 6 6,m2 (F 50 39 49 2) 6 6,m4 (V (st' 36 50 34)) 6 7,m2 (N 51 (nc 26)) 7 7,m2 (F 52 39 51 3) 7 7,m4 (V (st' 29 52 41)) 7 8,m2 (N 53 (nc 27)) 8 8,m2 (F 54 39 53 4) 8 8,m4 (V (st' 37 54 48)) 8 9]) (cR [N 8 (.assign B1)])
abbrev ST:=cS (cX [M 15 0,N 16 (nc 15),F 17 39 16 2,L 18 36 17,N 19 (ln 18 36),N 20 (bk .gtr 3 19 24 3),M 21 20,Z 21 22 (mv 2),Z 21 23 (bk .gtr 3 22 200 3),N 24 (po 21 23)] (cC (T 24) (cR [N 8 (.assign B0)]) .skip)) SS
abbrev SU:=cS (cS (.draw [yF (M 9 0),yF (N 10 (nc 9)),yF (F 11 39 10 2),yF (L 12 36 11),yF (L 13 59 5),yT (N 14 (c2 85 12 13 36 59))]) (cC (T 14) (cR [N 8 (.assign B1)]) .skip)) ST
abbrev f62:=cX [N 5 (bx 59 1),N 7 (bx 56 3),N 8 (.assign B0)] SU
theorem ad0:fE 62 f62 55 [.tmp 8]:=fR
abbrev SV:=cO [M 21 5,N 22 (iN 21),A 5 22]
abbrev SW:=cS (cB 1 (.mix [m2 (F 23 115 4 2) 0 2,⟨L 24 96 23,false,true,0,2⟩,m0 (M 25 3),m0 (F 26 115 4 1),m1 (L 27 95 26),m0 (M 28 5),m0 (N 29 (ia 95 27 28)),m1 (L 30 48 29),m3 (N 31 (cf 88 #[T 25,K 6,T 30] #[23,3,48])) 0 1,m4 (N 32 (.buildSlice 96 1 #[(0,T 31)])) 1 2,m3 (N 33 (ap 24 32 96 96)) 2 3,m2 (F 34 115 4 2) 3 3,m4 (V (st' 96 34 33)) 3 4])) SV
abbrev FT:=cS (cX [M 16 5,F 17 115 4 1,L 18 95 17,N 19 (ln 18 95),N 20 (bo .lss 3 16 19 3)] (cC (T 20) .skip (.exit 0))) SW
abbrev SX:=cS (cX [N 5 (ak 0)] (cW 0 FT)) (cR [L 35 115 4,V (st' 115 2 35)])
abbrev SY:=cX [M 8 3,N 9 (cf 87 #[T 8,K 4,K 4] #[23,3,3]),M 10 3,N 11 (cf 87 #[T 10,K 5,K 6] #[23,3,3]),M 12 3,N 13 (.build 48 #[]),N 14 (cf 88 #[T 12,K 7,T 13] #[23,3,48]),N 15 (.build 115 #[(0,T 9),(1,T 11),(3,T 14)]),N 4 (.alloc 115),V (st' 115 4 15)] SX
abbrev SZ:=cX [L 6 25 1,N 7 (c1 86 6 25),A 3 7] SY
abbrev f63:=cX [N 1 (bx 25 0),N 2 (.alloc 115)] SZ
theorem ad1:fE 63 f63 36 [.cell 2 115]:=fR
abbrev Ta:=cC (T 9) (cO [M 10 3,N 11 (c1 89 10 3),N 12 (.binOp .add 9 (.const (.string ⟨#[122]⟩)) (T 11) 9),F 13 48 4 1,V (st' 9 13 12)]) .skip
abbrev Tb:=cO [M 18 6,N 19 (iN 18),A 6 19]
abbrev Tc:=cS (cB 3 (.draw [yF (M 20 5),yF (M 21 20),yF (Z 21 22 (mv 0)),yF (Z 21 23 (mv 6)),yF (Z 21 24 (ia 95 22 23)),yF (Z 21 25 (ld' 48 24)),yF (Z 21 26 (ld' 48 4)),yT (Z 21 27 (bo .eql 48 25 26 48)),yT (N 28 (po 21 27)),yT (A 5 28)])) Tb
abbrev AF:=cS (cX [M 14 6,M 15 0,N 16 (ln 15 95),N 17 (bo .lss 3 14 16 3)] (cC (T 17) .skip (.exit 2))) Tc
abbrev FV:=cC (T 30) (cR [L 31 48 4,V (st' 48 2 31)]) .skip
abbrev FW:=cO [M 32 3,N 33 (iN 32),A 3 33]
abbrev Td:=cS (cX [N 6 (ak 0)] (cW 2 AF)) (cS (cX [M 29 5,N 30 (nt' 4 29)] FV) FW)
abbrev Te:=cS (cX [M 8 3,N 9 (bk .gtr 3 8 0 3)] Ta) (cX [N 5 (.assign B0)] Td)
abbrev FU:=cB 1 (cX [N 7 (.build 48 {toList:=[(1,.const (.string ⟨#[122]⟩))]}),N 4 (.alloc 48),V (st' 48 4 7)] Te)
abbrev f64:=cX [N 2 (.alloc 48)] (cX [N 3 (ak 0)] (cW 0 FU))
theorem ad2:fE 64 f64 34 [.cell 2 48]:=fR
abbrev Tf:=cO [M 10 5,N 11 (iN 10),A 5 11]
abbrev Tg:=cS (cB 1 (cX [M 12 0,M 13 5,N 14 (ia 97 12 13),L 15 9 14,M 16 1,N 17 (bo .eql 9 15 16 9)] (cC (T 17) (cR [N 4 (.assign B1)]) .skip))) Tf
abbrev FX:=cS (cX [M 6 5,M 7 0,N 8 (ln 7 97),N 9 (bo .lss 3 6 8 3)] (cC (T 9) .skip (.exit 0))) Tg
abbrev Th:=cS (cX [N 5 (ak 0)] (cW 0 FX)) (cR [N 4 (.assign B0)])
abbrev f65:=cX [N 4 (.assign B0)] Th
theorem ad3:fE 65 f65 18 [.tmp 4]:=fR
abbrev Ti:=cB 1 (cO [M 8 3,N 9 (iN 8),A 3 9])
abbrev FY:=cS (cX [M 4 0,M 5 3,N 6 (c1 89 5 3),N 7 (c2 65 4 6 97 9)] (cC (T 7) .skip (.exit 0))) Ti
abbrev Tj:=cR [M 10 3,N 11 (c1 89 10 3),A 2 11]
abbrev f66:=cX [N 2 (.assign (.const (.string ByteArray.empty)))] (cX [N 3 (ak 0)] (cS (cW 0 FY) Tj))
theorem ad4:fE 66 f66 12 [.tmp 2]:=fR
abbrev Tk:=cR [F 15 144 3 0,L 16 32 15,V (st' 32 2 16)]
abbrev Tl:=cX [F 11 144 3 2,L 12 3 11,F 13 144 3 0,F 14 32 13 2,V (st' 3 14 12)] Tk
abbrev Tm:=cX [F 7 144 3 1,L 8 3 7,F 9 144 3 0,F 10 32 9 1,V (st' 3 10 8)] Tl
abbrev Tn:=cX [N 4 (.build 32 #[]),L 5 25 1,N 6 (c2 90 4 5 32 25),N 3 (.alloc 144),V (st' 144 3 6)] Tm
abbrev f67:=cX [N 1 (bx 25 0),N 2 (.alloc 32)] Tn
theorem ad5:fE 67 f67 17 [.cell 2 32]:=fR
abbrev To:=cO [M 11 4,N 12 (iN 11),A 4 12]
abbrev Tp:=cS (cB 1 (cO [M 13 3,F 14 25 1 1,L 15 22 14,M 16 4,N 17 (ia 22 15 16),L 18 25 17,N 19 (c1 68 18 25),N 20 (ap 13 19 22 22),A 3 20])) To
abbrev FZ:=cS (cX [M 6 4,F 7 25 1 1,L 8 22 7,N 9 (ln 8 22),N 10 (bo .lss 3 6 9 3)] (cC (T 10) .skip (.exit 0))) Tp
abbrev Tq:=cO [M 26 5,N 27 (iN 26),A 5 27]
abbrev Ts:=cS (cB 3 (cO [M 28 3,F 29 25 1 2,L 30 23 29,M 31 5,N 32 (ia 23 30 31),L 33 86 32,N 34 (c1 91 33 86),N 35 (ap 28 34 22 22),A 3 35])) Tq
abbrev Ga:=cS (cX [M 21 5,F 22 25 1 2,L 23 23 22,N 24 (ln 23 23),N 25 (bo .lss 3 21 24 3)] (cC (T 25) .skip (.exit 2))) Ts
abbrev Tt:=cS (cX [N 5 (ak 0)] (cW 2 Ga)) (cR [M 36 3,A 2 36])
abbrev Tu:=cX [N 3 (.assign S0)] (cS (cX [N 4 (ak 0)] (cW 0 FZ)) Tt)
abbrev f68:=cX [N 1 (bx 25 0),N 2 (.assign S0)] Tu
theorem ad6:fE 68 f68 37 [.tmp 2]:=fR
abbrev Tv:=cO [M 11 5,N 12 (iN 11),A 5 12]
abbrev Tw:=cS (cB 1 (cS (.draw [yF (F 13 34 2 0),yF (L 14 22 13),yF (M 15 5),yF (N 16 (ia 22 14 15)),yF (L 17 25 16),yF (L 18 25 3),yT (N 19 (c2 92 17 18 25 25))]) (cC (T 19) (cR [M 20 5,A 4 20]) .skip))) Tv
abbrev Gb:=cS (cX [M 6 5,F 7 34 2 0,L 8 22 7,N 9 (ln 8 22),N 10 (bo .lss 3 6 9 3)] (cC (T 10) .skip (.exit 0))) Tw
abbrev Tx:=cS (cX [N 5 (ak 0)] (cW 0 Gb)) (cR [N 4 (ak (-1))])
abbrev f69:=cX [N 2 (bx 34 0),N 3 (bx 25 1),N 4 (ak 0)] Tx
theorem ad7:fE 69 f69 21 [.tmp 4]:=fR
abbrev Tz:=cR [M 5 1,N 6 (bk .geq 3 5 0 3),M 7 6,Y 7 8 (mv 1),Y 7 9 (mv 0),Y 7 10 (nc 9),Y 7 11 (fa 39 10 2),Y 7 12 (ld' 36 11),Y 7 13 (ln 12 36),Y 7 14 (bo .lss 3 8 13 3),N 15 (pa 7 14),A 4 15]
abbrev f70:=cX [N 4 (.assign B0)] Tz
theorem ad8:fE 70 f70 16 [.tmp 4]:=fR
abbrev TA:=cO [M 13 3,F 14 32 5 0,L 15 3 14,N 16 (bo .add 3 13 15 3),A 3 16]
abbrev TB:=cS (cB 1 (cX [N 11 (ia 28 7 9),L 12 32 11,N 5 (.alloc 32),V (st' 32 5 12)] TA)) (cO [N 17 (iN 9),M 9 17])
abbrev Gc:=cH 10 9 8 TB
abbrev TC:=cS (cX [F 6 34 1 1,L 7 28 6,N 8 (ln 7 28),N 9 (.move (K 0))] (cW 0 Gc)) (cR [M 18 3,A 2 18])
abbrev f71:=cX [N 1 (bx 34 0),N 2 (ak 0)] (cX [N 3 (ak 0)] TC)
theorem ad9:fE 71 f71 19 [.tmp 2]:=fR
abbrev TD:=cC (T 74) (cS (.draw [yF (M 75 0),yF (N 76 (nc 75)),yF (F 77 123 76 4),yF (L 78 81 77),yF (M 79 5),yF (F 80 89 9 0),yF (L 81 3 80),yF (N 82 (bo .add 3 79 81 3)),yT (N 83 (ia 81 78 82)),yT (V (.store 5 (T 83) (.const (.int .u8 1))))]) (cO [N 7 (.assign B1)])) .skip
abbrev TE:=cS (.draw [yF (M 57 0),yF (N 58 (nc 57)),yF (F 59 123 58 4),yF (L 60 81 59),yF (M 61 5),yF (F 62 89 9 0),yF (L 63 3 62),yF (N 64 (bo .add 3 61 63 3)),yF (N 65 (ia 81 60 64)),yF (L 66 5 65),yF (N 67 (.binOp .eql 5 (T 66) (.const (.int .u8 0)) 5)),yF (M 68 67),yF (Y 68 69 (mv 0)),yF (Y 68 70 (mv 5)),yF (Y 68 71 (ld' 89 9)),yF (Y 68 72 (mv 6)),yT (Y 68 73 (cf 94 #[T 69,T 70,T 71,T 72] #[121,3,89,83])),yT (N 74 (pa 68 73))]) TD
abbrev TF:=cS (cB 3 (cX [N 55 (ia 30 51 53),L 56 89 55,N 9 (.alloc 89),V (st' 89 9 56)] TE)) (cO [N 84 (iN 53),M 53 84])
abbrev Gd:=cX [N 54 (bo .lss 3 53 52 3)] (cG 54 2 TF)
abbrev TG:=cX [F 50 32 4 3,L 51 30 50,N 52 (ln 51 30),N 53 (.move (K 0))] (cW 2 Gd)
abbrev AG:=cS (cX [M 49 7] (cC (T 49) .skip (.exit 0))) (cB 1 (cX [N 7 (.assign B0)] TG))
abbrev TH:=cS (.draw [yF (M 40 0),yF (N 41 (nc 40)),yF (F 42 123 41 4),yF (L 43 81 42),yF (M 44 5),yF (F 45 32 4 2),yF (L 46 3 45),yF (N 47 (bo .add 3 44 46 3)),yT (N 48 (ia 81 43 47)),yT (V (.store 5 (T 48) (.const (.int .u8 1))))]) (cX [N 7 (.assign B1)] (cW 0 AG))
abbrev TI:=cS (.draw [yF (M 26 0),yF (N 27 (nc 26)),yF (F 28 123 27 0),yF (L 29 34 28),yF (L 30 32 4),yF (M 31 0),yF (N 32 (nc 31)),yF (F 33 123 32 1),yF (L 34 51 33),yF (M 35 0),yF (N 36 (nc 35)),yF (F 37 123 36 4),yF (L 38 81 37),yT (N 39 (cf 93 #[T 29,T 30,T 34,T 38] #[34,32,51,81])),yT (A 6 39)]) TH
abbrev f72:=cS (.mix [m2 (M 10 0) 0 1,m2 (N 11 (nc 10)) 0 1,m2 (F 12 123 11 0) 0 1,m2 (F 13 34 12 1) 0 1,⟨L 14 28 13,false,true,0,1⟩,m2 (M 15 1) 0 1,m2 (N 16 (ia 28 14 15)) 0 1,⟨L 17 32 16,false,true,0,1⟩,m2 (M 18 0) 0 2,m2 (N 19 (nc 18)) 0 2,m2 (F 20 123 19 0) 0 2,m2 (F 21 34 20 2) 0 2,⟨L 22 29 21,false,true,0,2⟩,m2 (M 23 1) 0 2,m2 (N 24 (ia 29 22 23)) 0 2,⟨L 25 3 24,false,true,0,2⟩,m4 (N 4 (.alloc 32)) 0 1,m4 (V (st' 32 4 17)) 1 2,m2 (A 5 25) 2 2]) TI
theorem ae0:fE 72 f72 85 []:=fR
abbrev TJ:=cO [M 17 6,N 18 (iN 17),A 6 18]
abbrev TK:=cS (cB 1 (cX [M 19 3,M 20 6,N 21 (ia 150 19 20),L 22 21 21,N 23 (.convert 21 3 (T 22)),N 24 (c1 96 23 3),N 25 (nt' 4 24)] (cC (T 25) (cR [N 2 (.assign B0)]) .skip))) TJ
abbrev Ge:=cS (cX [M 13 6,M 14 3,N 15 (ln 14 150),N 16 (bo .lss 3 13 15 3)] (cC (T 16) .skip (.exit 0))) TK
abbrev TL:=cR [M 26 5,N 27 (bk .eql 3 26 0 3),A 2 27]
abbrev TM:=cX [M 8 0,N 9 (c1 95 8 9),M 7 9,N 10 (ex 7 0),N 11 (ex 7 1),N 12 (ex 7 2),A 3 10,A 4 11,A 5 12] (cS (cX [N 6 (ak 0)] (cW 0 Ge)) TL)
abbrev f73:=cX [N 2 (.assign B0)] TM
theorem ae1:fE 73 f73 28 [.tmp 2]:=fR
abbrev TN:=cO [M 18 6,N 19 (iN 18),A 6 19]
abbrev TO:=cS (cB 1 (cO [M 20 5,F 21 25 2 1,L 22 22 21,M 23 6,N 24 (ia 22 22 23),L 25 25 24,M 26 1,M 27 5,N 28 (bo .sub 3 26 27 3),N 29 (c2 77 25 28 25 3),N 30 (bo .add 3 20 29 3),A 5 30])) TN
abbrev Gf:=cS (cX [M 8 6,F 9 25 2 1,L 10 22 9,N 11 (ln 10 22),N 12 (bo .lss 3 8 11 3),M 13 12,Y 13 14 (mv 5),Y 13 15 (mv 1),Y 13 16 (bo .leq 3 14 15 3),N 17 (pa 13 16)] (cC (T 17) .skip (.exit 0))) TO
abbrev TP:=cO [M 41 7,N 42 (iN 41),A 7 42]
abbrev TQ:=cS (cB 3 (cO [M 43 5,F 44 25 2 2,L 45 23 44,M 46 7,N 47 (ia 23 45 46),L 48 86 47,M 49 1,M 50 5,N 51 (bo .sub 3 49 50 3),N 52 (c2 99 48 51 86 3),N 53 (bo .add 3 43 52 3),A 5 53])) TP
abbrev Gg:=cS (cX [M 31 7,F 32 25 2 2,L 33 23 32,N 34 (ln 33 23),N 35 (bo .lss 3 31 34 3),M 36 35,Y 36 37 (mv 5),Y 36 38 (mv 1),Y 36 39 (bo .leq 3 37 38 3),N 40 (pa 36 39)] (cC (T 40) .skip (.exit 2))) TQ
abbrev TR:=cS (cX [N 7 (ak 0)] (cW 2 Gg)) (cR [M 54 5,A 4 54])
abbrev TS:=cX [N 5 (ak 1)] (cS (cX [N 6 (ak 0)] (cW 0 Gf)) TR)
abbrev f77:=cX [N 2 (bx 25 0),N 4 (ak 0)] TS
theorem ae2:fE 77 f77 55 [.tmp 4]:=fR
abbrev TT:=cC (T 78) (cX [N 7 (ak 1)] (cO [N 8 (ak 1)])) .skip
abbrev TU:=cC (T 86) (cX [N 7 (ak 2)] (cO [N 8 (ak 64)])) .skip
abbrev TV:=cO [M 120 9,N 121 (iN 120),A 9 121]
abbrev TW:=cS (cB 1 (cX [F 122 86 2 3,L 123 23 122,M 124 9,N 125 (ia 23 123 124),L 126 86 125,M 127 1,N 128 (bk .sub 3 127 1 3),N 129 (c2 78 126 128 86 3),N 130 (nt' 4 129)] (cC (T 130) (cR [N 4 (.assign B0)]) .skip))) TV
abbrev Gh:=cS (cX [M 115 9,F 116 86 2 3,L 117 23 116,N 118 (ln 117 23),N 119 (bo .lss 3 115 118 3)] (cC (T 119) .skip (.exit 0))) TW
abbrev TX:=cR [F 131 86 2 4,L 132 22 131,N 133 (ln 132 22),N 134 (bk .eql 3 133 0 3),M 135 134,Z 135 136 (fa 86 2 4),Z 135 137 (ld' 22 136),Z 135 138 (.indexAddr 22 (T 137) (K 0)),Z 135 139 (ld' 25 138),Z 135 140 (mv 1),Z 135 141 (bk .sub 3 140 1 3),Z 135 142 (c2 51 139 141 25 3),N 143 (po 135 142),A 4 143]
abbrev TY:=cS (cX [F 87 86 2 3,L 88 23 87,N 89 (ln 88 23),M 90 7,N 91 (bo .lss 3 89 90 3),M 92 91,Z 92 93 (fa 86 2 3),Z 92 94 (ld' 23 93),Z 92 95 (ln 94 23),Z 92 96 (mv 8),Z 92 97 (bo .gtr 3 95 96 3),N 98 (po 92 97),M 99 98,Z 99 100 (fa 86 2 0),Z 99 101 (ld' 3 100),Z 99 102 (bk .eql 3 101 11 3),Z 99 103 (fa 86 2 4),Z 99 104 (ld' 22 103),Z 99 105 (ln 104 22),Z 99 106 (bk .eql 3 105 1 3),Z 99 107 (bo .neq 4 102 106 4),N 108 (po 99 107),M 109 108,Z 109 110 (fa 86 2 4),Z 109 111 (ld' 22 110),Z 109 112 (ln 111 22),Z 109 113 (bk .gtr 3 112 1 3),N 114 (po 109 113)] (cC (T 114) (cR [N 4 (.assign B0)]) .skip)) (cS (cX [N 9 (ak 0)] (cW 0 Gh)) TX)
def DN:E4:=TY
abbrev TZ:=cS (cX [F 79 86 2 0,L 80 3 79,N 81 (bk .eql 3 80 9 3),M 82 81,Z 82 83 (fa 86 2 0),Z 82 84 (ld' 3 83),Z 82 85 (bk .eql 3 84 10 3),N 86 (po 82 85)] TU) DN
abbrev Ua:=cS (cX [F 76 86 2 0,L 77 3 76,N 78 (bk .eql 3 77 8 3)] TT) TZ
abbrev Ub:=cX [N 7 (ak 0)] (cX [N 8 (ak 0)] Ua)
def AI:E4:=Ub
abbrev Uc:=cS (cX [M 53 6,N 54 (nt' 4 53),M 55 54,Y 55 56 (fa 86 2 2),Y 55 57 (ld' 9 56),Y 55 58 (.binOp .neq 9 (T 57) (.const (.string ByteArray.empty)) 9),N 59 (pa 55 58),M 60 59,Z 60 61 (fa 86 2 0),Z 60 62 (ld' 3 61),Z 60 63 (bk .eql 3 62 7 3),Z 60 64 (mv 63),Y 64 65 (fa 86 2 2),Y 64 66 (ld' 9 65),Y 64 67 (.binOp .eql 9 (T 66) (.const (.string ByteArray.empty)) 9),Z 60 68 (pa 64 67),N 69 (po 60 68),M 70 69,Z 70 71 (fa 86 2 2),Z 70 72 (ld' 9 71),Z 70 73 (c1 73 72 9),Z 70 74 (nt' 4 73),N 75 (po 70 74)] (cC (T 75) (cR [N 4 (.assign B0)]) .skip)) AI
def qx:E4:=Uc
abbrev LS:=cS (cX [M 38 5,F 39 86 2 1,L 40 48 39,N 41 (.build 48 #[]),N 42 (bo .neq 48 40 41 48),N 43 (bo .neq 4 38 42 4),M 44 43,Z 44 45 (mv 5),Z 44 46 (mv 45),Y 46 47 (fa 86 2 1),Y 46 48 (ld' 48 47),Y 46 49 (c1 100 48 48),Y 46 50 (nt' 4 49),Z 44 51 (pa 46 50),N 52 (po 44 51)] (cC (T 52) (cR [N 4 (.assign B0)]) .skip)) qx
def AH:E4:=LS
abbrev LT:=cX [F 30 86 2 0,L 31 3 30,N 32 (bk .eql 3 31 6 3),M 33 32,Z 33 34 (fa 86 2 0),Z 33 35 (ld' 3 34),Z 33 36 (bk .eql 3 35 7 3),N 37 (po 33 36),A 6 37] AH
abbrev LU:=cX [F 22 86 2 0,L 23 3 22,N 24 (bk .geq 3 23 4 3),M 25 24,Y 25 26 (fa 86 2 0),Y 25 27 (ld' 3 26),Y 25 28 (bk .leq 3 27 6 3),N 29 (pa 25 28),A 5 29] LT
abbrev LW:=cS (cX [M 10 1,N 11 (bk .eql 3 10 0 3),M 12 11,Z 12 13 (fa 86 2 0),Z 12 14 (ld' 3 13),Z 12 15 (bk .lss 3 14 1 3),N 16 (po 12 15),M 17 16,Z 17 18 (fa 86 2 0),Z 17 19 (ld' 3 18),Z 17 20 (bk .gtr 3 19 11 3),N 21 (po 17 20)] (cC (T 21) (cR [N 4 (.assign B0)]) .skip)) LU
abbrev f78:=cX [N 2 (bx 86 0),N 4 (.assign B0)] LW
theorem Xn:fE 78 f78 144 [.tmp 4]:=fR
abbrev Ud:=cO [M 15 0,L 16 25 5,N 17 (c2 79 15 16 155 25)]
abbrev Ue:=cS (cB 1 (cX [N 13 (ia 22 9 11),L 14 25 13,N 5 (.alloc 25),V (st' 25 5 14)] Ud)) (cO [N 18 (iN 11),M 11 18])
abbrev Gi:=cH 12 11 10 Ue
abbrev Uf:=cO [M 26 0,L 27 86 7,N 28 (c2 101 26 27 155 86)]
abbrev Ug:=cS (cB 3 (cX [N 24 (ia 23 20 22),L 25 86 24,N 7 (.alloc 86),V (st' 86 7 25)] Uf)) (cO [N 29 (iN 22),M 22 29])
abbrev Gj:=cX [N 23 (bo .lss 3 22 21 3)] (cG 23 2 Ug)
abbrev Uh:=cX [F 19 25 3 2,L 20 23 19,N 21 (ln 20 23),N 22 (.move (K 0))] (cW 2 Gj)
abbrev Ui:=cS (cX [F 8 25 3 1,L 9 22 8,N 10 (ln 9 22),N 11 (.move (K 0))] (cW 0 Gi)) Uh
abbrev f79:=cX [N 3 (bx 25 1)] Ui
theorem ae3:fE 79 f79 30 []:=fR
abbrev Um:=cR [M 5 0,M 6 1,N 7 (c2 102 5 6 97 9),N 8 (bk .geq 3 7 0 3),A 4 8]
abbrev f80:=cX [N 4 (.assign B0)] Um
theorem ae4:fE 80 f80 9 [.tmp 4]:=fR
abbrev Un:=cR [M 3 0,N 4 (c1 103 3 3),A 2 4]
abbrev f81:=cX [N 2 (.assign (.const (.string ByteArray.empty)))] Un
theorem ae5:fE 81 f81 5 [.tmp 2]:=fR
abbrev Ux:=cR [M 60 6,M 61 6,A 4 60,A 5 61]
abbrev Uy:=cX [M 56 0,M 57 8,M 58 6,N 59 (cf 111 #[T 56,T 57,T 58] #[158,3,3])] Ux
abbrev Uz:=cX [M 52 0,M 53 6,M 54 7,N 55 (cf 111 #[T 52,T 53,T 54] #[158,3,3])] Uy
abbrev UA:=cX [M 44 0,F 45 25 3 1,L 46 22 45,N 47 (.indexAddr 22 (T 46) (K 0)),L 48 25 47,N 49 (c2 83 44 48 158 25),M 43 49,N 50 (ex 43 0),N 51 (ex 43 1),A 7 50,A 8 51] Uz
abbrev UB:=cR [M 76 0,M 77 0,N 78 (nc 77),F 79 135 78 0,F 80 32 79 4,L 81 23 80,N 82 (ln 81 23),N 83 (bk .sub 3 82 1 3),N 84 (cf 107 #[T 76,K 3,T 83] #[158,3,3]),N 85 (ex 84 0),N 86 (ex 84 1),A 4 85,A 5 86]
abbrev UC:=cC (T 62) (cS (.mix [m2 (M 64 0) 0 1,m0 (M 65 0),m0 (N 66 (nc 65)),m0 (F 67 135 66 0),m0 (F 68 32 67 4),m1 (L 69 23 68),m0 (F 70 25 3 2),m1 (L 71 23 70),m3 (N 72 (ap 69 71 23 23)) 0 1,m2 (N 73 (nc 64)) 1 1,m2 (F 74 135 73 0) 1 1,m2 (F 75 32 74 4) 1 1,m4 (V (st' 23 75 72)) 1 2]) UB) .skip
abbrev UD:=cC (T 39) (cX [M 41 0,N 42 (c1 110 41 158),A 6 42] UA) (cX [N 63 (bk .eql 3 10 7 3),A 62 63] UC)
abbrev UE:=cC (T 31) (cR [M 33 0,F 34 25 3 1,L 35 22 34,N 36 (c2 109 33 35 158 22),N 37 (ex 36 0),N 38 (ex 36 1),A 4 37,A 5 38]) (cX [N 40 (bk .eql 3 10 6 3),A 39 40] UD)
abbrev UF:=cC (T 23) (cR [M 25 0,F 26 25 3 1,L 27 22 26,N 28 (c2 108 25 27 158 22),N 29 (ex 28 0),N 30 (ex 28 1),A 4 29,A 5 30]) (cX [N 32 (bk .eql 3 10 5 3),A 31 32] UE)
abbrev UG:=cC (T 17) (cR [M 19 0,N 20 (cf 107 #[T 19,K 2,K 0] #[158,3,3]),N 21 (ex 20 0),N 22 (ex 20 1),A 4 21,A 5 22]) (cX [N 24 (bk .eql 3 10 4 3),A 23 24] UF)
abbrev LX:=cC (T 11) (cR [M 13 0,N 14 (cf 107 #[T 13,K 1,K 0] #[158,3,3]),N 15 (ex 14 0),N 16 (ex 14 1),A 4 15,A 5 16]) (cX [N 18 (bk .eql 3 10 3 3),A 17 18] UG)
abbrev LY:=cB 0 (cX [N 12 (bk .eql 3 10 2 3),A 11 12] LX)
abbrev LZ:=cR [M 87 0,N 88 (cf 107 #[T 87,K 0,K 0] #[158,3,3]),N 89 (ex 88 0),N 90 (ex 88 1),A 4 89,A 5 90]
abbrev f83:=cX [N 3 (bx 25 1),N 4 (ak 0),N 5 (ak 0)] (cS (cX [F 9 25 3 0,L 10 3 9] LY) LZ)
theorem ae7:fE 83 f83 91 [.tmp 4,.tmp 5]:=fR
abbrev UJ:=cS (.draw [yF (L 20 75 1),yF (N 21 (nc 20)),yF (F 22 39 21 3),yF (L 23 29 22),yF (M 24 5),yF (N 25 (ia 29 23 24)),yF (L 26 3 25),yF (L 27 75 1),yF (N 28 (nc 27)),yF (F 29 39 28 3),yF (L 30 29 29),yF (M 31 6),yF (N 32 (ia 29 30 31)),yF (L 33 3 32),yF (N 34 (bo .add 3 26 33 3)),yF (N 35 (iN 34)),yF (L 36 3 2),yF (N 37 (bo .eql 3 35 36 3)),yF (M 38 37),yF (Y 38 39 (mv 0)),yF (Y 38 40 (mv 5)),yF (Y 38 41 (mv 6)),yT (Y 38 42 (cv (T 39) #[T 40,T 41] #[3,3])),yT (Y 38 43 (nt' 4 42)),yT (N 44 (pa 38 43))]) (cC (T 44) .ret .skip)
abbrev UK:=cS (cB 3 (cX [M 19 17,A 6 19] UJ)) (cO [N 45 (iN 17),M 17 45])
abbrev UH:=cX [N 18 (bo .lss 3 17 16 3)] (cG 18 2 UK)
abbrev UL:=cS (cB 1 (cX [M 15 13,A 5 15] (cX [M 16 4,N 17 (.move (K 0))] (cW 2 UH)))) (cO [N 46 (iN 13),M 13 46])
abbrev UI:=cH 14 13 12 UL
abbrev f84:=cX [L 7 75 1,N 8 (nc 7),F 9 39 8 2,L 10 36 9,N 11 (ln 10 36),A 4 11] (cX [M 12 4,N 13 (.move (K 0))] (cW 0 UI))
abbrev UM:=cR [M 5 0,L 6 59 3,N 7 (c2 39 5 6 36 59),N 8 (bk .geq 3 7 0 3),A 4 8]
abbrev f85:=cX [N 3 (bx 59 1),N 4 (.assign B0)] UM
theorem ae8:fE 85 f85 9 [.tmp 4]:=fR
abbrev UN:=cO [M 11 4,N 12 (iN 11),A 4 12]
abbrev UO:=cS (cB 1 (cO [M 13 3,F 14 25 1 1,L 15 22 14,M 16 4,N 17 (ia 22 15 16),L 18 25 17,N 19 (c1 86 18 25),N 20 (ap 13 19 23 23),A 3 20])) UN
abbrev Gm:=cS (cX [M 6 4,F 7 25 1 1,L 8 22 7,N 9 (ln 8 22),N 10 (bo .lss 3 6 9 3)] (cC (T 10) .skip (.exit 0))) UO
abbrev UP:=cO [M 26 5,N 27 (iN 26),A 5 27]
abbrev UQ:=cS (cB 3 (cO [M 28 3,F 29 25 1 2,L 30 23 29,M 31 5,N 32 (ia 23 30 31),L 33 86 32,N 34 (c1 112 33 86),N 35 (ap 28 34 23 23),A 3 35])) UP
abbrev Gn:=cS (cX [M 21 5,F 22 25 1 2,L 23 23 22,N 24 (ln 23 23),N 25 (bo .lss 3 21 24 3)] (cC (T 25) .skip (.exit 2))) UQ
abbrev UR:=cS (cX [N 5 (ak 0)] (cW 2 Gn)) (cR [M 36 3,A 2 36])
abbrev US:=cX [N 3 (.assign S0)] (cS (cX [N 4 (ak 0)] (cW 0 Gm)) UR)
abbrev f86:=cX [N 1 (bx 25 0),N 2 (.assign S0)] US
theorem ae9:fE 86 f86 37 [.tmp 2]:=fR
abbrev UT:=cC (T 40) (cO [M 41 7,M 42 0,M 43 8,N 44 (ia 23 42 43),F 45 86 44 1,L 46 48 45,N 47 (.buildSlice 95 1 #[(0,T 46)]),N 48 (ap 41 47 95 95),A 7 48]) .skip
abbrev UU:=cO [M 13 8,N 14 (iN 13),A 8 14]
abbrev UV:=cS (cB 1 (cX [M 15 0,M 16 8,N 17 (ia 23 15 16),F 18 86 17 0,L 19 3 18,M 20 1,N 21 (bo .geq 3 19 20 3),M 22 21,Y 22 23 (mv 0),Y 22 24 (mv 8),Y 22 25 (ia 23 23 24),Y 22 26 (fa 86 25 0),Y 22 27 (ld' 3 26),Y 22 28 (mv 2),Y 22 29 (bo .leq 3 27 28 3),N 30 (pa 22 29),M 31 30,Y 31 32 (mv 7),Y 31 33 (mv 0),Y 31 34 (mv 8),Y 31 35 (ia 23 33 34),Y 31 36 (fa 86 35 1),Y 31 37 (ld' 48 36),Y 31 38 (c2 113 32 37 95 48),Y 31 39 (nt' 4 38),N 40 (pa 31 39)] UT)) UU
abbrev Gp:=cS (cX [M 9 8,M 10 0,N 11 (ln 10 23),N 12 (bo .lss 3 9 11 3)] (cC (T 12) .skip (.exit 0))) UV
abbrev UW:=cS (cX [N 8 (ak 0)] (cW 0 Gp)) (cR [M 49 7,A 6 49])
abbrev f87:=cX [N 6 (.assign S0)] (cX [N 7 (.assign S0)] UW)
theorem af0:fE 87 f87 50 [.tmp 6]:=fR
abbrev UX:=cC (T 40) (cO [M 41 7,M 42 0,M 43 8,N 44 (ia 23 42 43),F 45 86 44 2,L 46 9 45,N 47 (.buildSlice 97 1 #[(0,T 46)]),N 48 (ap 41 47 97 97),A 7 48]) .skip
abbrev UY:=cO [M 13 8,N 14 (iN 13),A 8 14]
abbrev UZ:=cS (cB 1 (cS (.draw [yF (M 15 0),yF (M 16 8),yF (N 17 (ia 23 15 16)),yF (F 18 86 17 0),yF (L 19 3 18),yF (M 20 1),yF (N 21 (bo .eql 3 19 20 3)),yF (M 22 21),yF (Y 22 23 (mv 0)),yF (Y 22 24 (mv 8)),yF (Y 22 25 (ia 23 23 24)),yF (Y 22 26 (fa 86 25 1)),yF (Y 22 27 (ld' 48 26)),yF (Y 22 28 (ld' 48 5)),yF (Y 22 29 (bo .eql 48 27 28 48)),yF (N 30 (pa 22 29)),yF (M 31 30),yF (Y 31 32 (mv 7)),yF (Y 31 33 (mv 0)),yF (Y 31 34 (mv 8)),yF (Y 31 35 (ia 23 33 34)),yF (Y 31 36 (fa 86 35 2)),yF (Y 31 37 (ld' 9 36)),yT (Y 31 38 (c2 65 32 37 97 9)),yT (Y 31 39 (nt' 4 38)),yT (N 40 (pa 31 39))]) UX)) UY
abbrev Gq:=cS (cX [M 9 8,M 10 0,N 11 (ln 10 23),N 12 (bo .lss 3 9 11 3)] (cC (T 12) .skip (.exit 0))) UZ
abbrev Va:=cS (cX [N 8 (ak 0)] (cW 0 Gq)) (cR [M 49 7,A 6 49])
abbrev f88:=cX [N 5 (bx 48 2),N 6 (.assign S0)] (cX [N 7 (.assign S0)] Va)
theorem af1:fE 88 f88 50 [.tmp 6]:=fR
abbrev Vb:=cC (T 4) (cR [M 5 0,N 6 (.binOp .add 3 (K 48) (T 5) 3),N 7 (.convert 3 5 (T 6)),N 8 (.buildSlice 81 1 #[(0,T 7)]),N 9 (.convert 81 9 (T 8)),A 2 9]) .skip
abbrev Vc:=cR [M 10 0,N 11 (bk .quo 3 10 10 3),N 12 (c1 89 11 3),M 13 0,N 14 (bk .rem 3 13 10 3),N 15 (c1 89 14 3),N 16 (bo .add 9 12 15 9),A 2 16]
abbrev Vd:=cS (cX [M 3 0,N 4 (bk .lss 3 3 10 3)] Vb) Vc
abbrev f89:=cX [N 2 (.assign (.const (.string ByteArray.empty)))] Vd
theorem af2:fE 89 f89 17 [.tmp 2]:=fR
abbrev Vm:E4:= .mix [m0 (F 46 144 9 0),m1 (L 47 32 46),m0 (F 48 144 6 2),m1 (L 49 3 48),m0 (F 50 144 9 1),m1 (L 51 3 50),m3 (N 52 (cf 114 #[T 47,T 49,T 51,K 0,K 0] #[32,3,3,3,3])) 0 1,m2 (M 53 7) 0 1,m2 (F 54 144 9 2) 0 1,⟨L 55 3 54,false,true,0,1⟩,m2 (N 56 (.build 144 #[(0,T 52),(1,T 53),(2,T 55)])) 1 1,m4 (V (st' 144 6 56)) 1 2]
abbrev Vn:=cO [M 36 8,N 37 (iN 36),A 8 37]
abbrev Vo:=cS (cB 1 (cS (.mix [m0 (F 38 144 6 0),m1 (L 39 32 38),m0 (F 40 25 3 1),m1 (L 41 22 40),m0 (M 42 8),m0 (N 43 (ia 22 41 42)),m1 (L 44 25 43),m3 (N 45 (c2 90 39 44 32 25)) 0 2,m4 (N 9 (.alloc 144)) 0 2,m4 (V (st' 144 9 45)) 2 3]) Vm)) Vn
abbrev Gr:=cS (cX [M 31 8,F 32 25 3 1,L 33 22 32,N 34 (ln 33 22),N 35 (bo .lss 3 31 34 3)] (cC (T 35) .skip (.exit 0))) Vo
abbrev Vp:=cS (cX [N 8 (ak 1)] (cW 0 Gr)) (cR [L 57 144 6,V (st' 144 4 57)])
abbrev Vq:=cX [F 29 144 6 1,L 30 3 29,A 7 30] Vp
abbrev Vr:=cC (T 22) (cS (.mix [m1 (L 23 32 2),m0 (F 24 25 3 1),m1 (L 25 22 24),m0 (N 26 (.indexAddr 22 (T 25) (K 0))),m1 (L 27 25 26),m3 (N 28 (c2 90 23 27 32 25)) 0 2,m4 (N 6 (.alloc 144)) 0 2,m4 (V (st' 144 6 28)) 2 3]) Vq) .skip
abbrev Vs:=cO [M 84 10,F 85 144 12 2,L 86 3 85,N 87 (.buildSlice 29 1 #[(0,T 86)]),N 88 (ap 84 87 29 29),A 10 88]
abbrev Vt:=cX [F 78 144 12 0,L 79 32 78,M 80 5,F 81 144 12 1,L 82 3 81,N 83 (cf 114 #[T 79,T 80,T 82,K 0,K 0] #[32,3,3,3,3]),V (st' 32 2 83)] Vs
abbrev Vu:=cO [M 69 11,N 70 (iN 69),A 11 70]
abbrev Vv:=cS (cB 3 (cS (.mix [m1 (L 71 32 2),m0 (F 72 25 3 1),m1 (L 73 22 72),m0 (M 74 11),m0 (N 75 (ia 22 73 74)),m1 (L 76 25 75),m3 (N 77 (c2 90 71 76 32 25)) 0 2,m4 (N 12 (.alloc 144)) 0 2,m4 (V (st' 144 12 77)) 2 3]) Vt)) Vu
abbrev Gs:=cS (cX [M 64 11,F 65 25 3 1,L 66 22 65,N 67 (ln 66 22),N 68 (bo .lss 3 64 67 3)] (cC (T 68) .skip (.exit 2))) Vv
abbrev Ma:=cO [M 99 14,N 100 (iN 99),A 14 100]
abbrev Mb:=cS (cB 5 (.mix [m1 (L 101 32 2),m0 (M 102 10),m0 (M 103 14),m0 (N 104 (ia 29 102 103)),m1 (L 105 3 104),m0 (M 106 13),m3 (N 107 (cf 114 #[T 101,T 105,T 106,K 0,K 0] #[32,3,3,3,3])) 0 1,m4 (V (st' 32 2 107)) 1 2])) Ma
abbrev Gt:=cS (cX [M 95 14,M 96 10,N 97 (ln 96 29),N 98 (bo .lss 3 95 97 3)] (cC (T 98) .skip (.exit 4))) Mb
abbrev Mc:=cR [L 108 32 2,M 109 5,M 110 13,N 111 (.build 144 #[(0,T 108),(1,T 109),(2,T 110)]),V (st' 144 4 111)]
abbrev Md:=cX [F 91 32 2 0,L 92 3 91,N 93 (iN 92),F 94 32 2 0,V (st' 3 94 93)] (cS (cX [N 14 (ak 0)] (cW 4 Gt)) Mc)
abbrev Me:=cX [F 89 32 2 0,L 90 3 89,A 13 90] Md
abbrev Mf:=cX [N 10 (.assign S0)] (cS (cX [N 11 (ak 0)] (cW 2 Gs)) Me)
abbrev Mg:=cC (T 60) (cX [M 61 5,N 62 (iN 61),F 63 32 2 0,V (st' 3 63 62)] Mf) .skip
abbrev Mh:=cR [L 134 32 2,M 135 5,M 136 5,N 137 (.build 144 #[(0,T 134),(1,T 135),(2,T 136)]),V (st' 144 4 137)]
abbrev Mi:=cS (.mix [m0 (F 124 144 15 0),m1 (L 125 32 124),m0 (M 126 5),m0 (F 127 144 15 1),m1 (L 128 3 127),m3 (N 129 (cf 114 #[T 125,T 126,T 128,K 0,K 0] #[32,3,3,3,3])) 0 1,m2 (F 130 144 15 2) 0 1,⟨L 131 3 130,false,true,0,1⟩,m2 (M 132 5) 0 1,m3 (N 133 (cf 114 #[T 129,T 131,T 132,K 0,K 0] #[32,3,3,3,3])) 1 2,m4 (V (st' 32 2 133)) 2 3]) Mh
abbrev Mj:=cS (.mix [m1 (L 118 32 2),m0 (F 119 25 3 1),m1 (L 120 22 119),m0 (N 121 (.indexAddr 22 (T 120) (K 0))),m1 (L 122 25 121),m3 (N 123 (c2 90 118 122 32 25)) 0 2,m4 (N 15 (.alloc 144)) 0 2,m4 (V (st' 144 15 123)) 2 3]) Mi
abbrev Mk:=cC (T 114) (cX [M 115 5,N 116 (iN 115),F 117 32 2 0,V (st' 3 117 116)] Mj) .skip
abbrev Ml:E4:= .mix [m4 (N 153 (.buildSlice 23 0 #[])) 0 1,m2 (F 154 32 2 4) 0 1,⟨L 155 23 154,false,true,0,1⟩,m3 (N 156 (ap 153 155 23 23)) 1 3,m2 (F 157 25 3 2) 0 2,⟨L 158 23 157,false,true,0,2⟩,m2 (N 159 (.indexAddr 23 (T 158) (K 0))) 0 2,⟨L 160 86 159,false,true,0,2⟩,m4 (N 161 (.buildSlice 23 1 #[(0,T 160)])) 0 3,m3 (N 162 (ap 156 161 23 23)) 3 4,m2 (F 163 32 2 4) 4 4,m4 (V (st' 23 163 162)) 4 5]
abbrev Mm:=cX [F 150 32 2 4,L 151 23 150,N 152 (ln 151 23),A 17 152] Ml
abbrev Mn:=cR [L 164 32 2,M 165 5,M 166 5,N 167 (iN 166),M 168 16,M 169 17,N 170 (cf 114 #[T 164,T 165,T 167,T 168,T 169] #[32,3,3,3,3]),M 171 5,M 172 5,N 173 (iN 172),N 174 (.build 144 #[(0,T 170),(1,T 171),(2,T 173)]),V (st' 144 4 174)]
abbrev Mo:=cS (cX [F 147 25 3 0,L 148 3 147,N 149 (bk .eql 3 148 7 3)] (cC (T 149) (cX [N 16 (ak 3)] Mm) .skip)) Mn
abbrev Mp:=cS (cX [F 144 25 3 0,L 145 3 144,N 146 (bk .eql 3 145 3 3)] (cC (T 146) (cO [N 16 (ak 2)]) .skip)) Mo
abbrev Mq:=cS (cX [F 141 25 3 0,L 142 3 141,N 143 (bk .eql 3 142 2 3)] (cC (T 143) (cO [N 16 (ak 1)]) .skip)) Mp
abbrev Mr:=cX [N 16 (ak 0)] (cX [N 17 (ak 0)] Mq)
abbrev Ms:=cX [M 138 5,N 139 (bk .add 3 138 2 3),F 140 32 2 0,V (st' 3 140 139)] Mr
abbrev Mt:=cS (cX [F 112 25 3 0,L 113 3 112,N 114 (bk .eql 3 113 6 3)] Mk) Ms
abbrev Mu:=cS (cX [F 58 25 3 0,L 59 3 58,N 60 (bk .eql 3 59 5 3)] Mg) Mt
abbrev Mv:=cS (cX [F 20 25 3 0,L 21 3 20,N 22 (bk .eql 3 21 4 3)] Vr) Mu
abbrev Mw:=cX [F 18 32 2 0,L 19 3 18,A 5 19] Mv
abbrev f90:=cX [N 2 (bx 32 0),N 3 (bx 25 1),N 4 (.alloc 144)] Mw
theorem tC:fE 90 f90 175 [.cell 4 144]:=fR
abbrev Vw:=cO [M 10 4,N 11 (iN 10),A 4 11]
abbrev Vx:=cS (cB 1 (cO [M 12 3,F 13 86 1 3,L 14 23 13,M 15 4,N 16 (ia 23 14 15),L 17 86 16,N 18 (c1 91 17 86),N 19 (ap 12 18 22 22),A 3 19])) Vw
abbrev Gu:=cS (cX [M 5 4,F 6 86 1 3,L 7 23 6,N 8 (ln 7 23),N 9 (bo .lss 3 5 8 3)] (cC (T 9) .skip (.exit 0))) Vx
abbrev Vy:=cO [M 30 3,F 31 86 1 4,L 32 22 31,N 33 (.indexAddr 22 (T 32) (K 0)),L 34 25 33,N 35 (.buildSlice 22 1 #[(0,T 34)]),N 36 (ap 30 35 22 22),A 3 36]
abbrev Vz:=cC (T 22) (cX [M 23 3,F 24 86 1 4,L 25 22 24,N 26 (.indexAddr 22 (T 25) (K 0)),L 27 25 26,N 28 (c1 68 27 25),N 29 (ap 23 28 22 22),A 3 29] Vy) .skip
abbrev VA:=cS (cX [F 20 86 1 0,L 21 3 20,N 22 (bk .eql 3 21 11 3)] Vz) (cR [M 37 3,A 2 37])
abbrev VB:=cX [N 3 (.assign S0)] (cS (cX [N 4 (ak 0)] (cW 0 Gu)) VA)
abbrev f91:=cX [N 1 (bx 86 0),N 2 (.assign S0)] VB
theorem af3:fE 91 f91 38 [.tmp 2]:=fR
abbrev VC:=cO [M 35 5,N 36 (iN 35),A 5 36]
abbrev VD:=cS (cB 1 (cS (.draw [yF (F 37 25 2 1),yF (L 38 22 37),yF (M 39 5),yF (N 40 (ia 22 38 39)),yF (L 41 25 40),yF (F 42 25 3 1),yF (L 43 22 42),yF (M 44 5),yF (N 45 (ia 22 43 44)),yF (L 46 25 45),yT (N 47 (c2 92 41 46 25 25)),yT (N 48 (nt' 4 47))]) (cC (T 48) (cR [N 4 (.assign B0)]) .skip))) VC
abbrev Gv:=cS (cX [M 30 5,F 31 25 2 1,L 32 22 31,N 33 (ln 32 22),N 34 (bo .lss 3 30 33 3)] (cC (T 34) .skip (.exit 0))) VD
abbrev VE:=cO [M 54 6,N 55 (iN 54),A 6 55]
abbrev VF:=cS (cB 3 (cS (.draw [yF (F 56 25 2 2),yF (L 57 23 56),yF (M 58 6),yF (N 59 (ia 23 57 58)),yF (L 60 86 59),yF (F 61 25 3 2),yF (L 62 23 61),yF (M 63 6),yF (N 64 (ia 23 62 63)),yF (L 65 86 64),yT (N 66 (c2 115 60 65 86 86)),yT (N 67 (nt' 4 66))]) (cC (T 67) (cR [N 4 (.assign B0)]) .skip))) VE
abbrev Gw:=cS (cX [M 49 6,F 50 25 2 2,L 51 23 50,N 52 (ln 51 23),N 53 (bo .lss 3 49 52 3)] (cC (T 53) .skip (.exit 2))) VF
abbrev VG:=cS (cX [N 6 (ak 0)] (cW 2 Gw)) (cR [N 4 (.assign B1)])
abbrev VH:=cS (cX [F 7 25 2 0,L 8 3 7,F 9 25 3 0,L 10 3 9,N 11 (bo .neq 3 8 10 3),M 12 11,Z 12 13 (fa 25 2 1),Z 12 14 (ld' 22 13),Z 12 15 (ln 14 22),Z 12 16 (fa 25 3 1),Z 12 17 (ld' 22 16),Z 12 18 (ln 17 22),Z 12 19 (bo .neq 3 15 18 3),N 20 (po 12 19),M 21 20,Z 21 22 (fa 25 2 2),Z 21 23 (ld' 23 22),Z 21 24 (ln 23 23),Z 21 25 (fa 25 3 2),Z 21 26 (ld' 23 25),Z 21 27 (ln 26 23),Z 21 28 (bo .neq 3 24 27 3),N 29 (po 21 28)] (cC (T 29) (cR [N 4 (.assign B0)]) .skip)) (cS (cX [N 5 (ak 0)] (cW 0 Gv)) VG)
abbrev f92:=cX [N 2 (bx 25 0),N 3 (bx 25 1),N 4 (.assign B0)] VH
theorem af4:fE 92 f92 68 [.tmp 4]:=fR
abbrev VI:=cO [M 25 10,M 26 9,L 27 86 12,N 28 (c2 116 26 27 167 86),N 29 (.buildSlice 83 1 #[(0,T 28)]),N 30 (ap 25 29 83 83),A 10 30]
abbrev VJ:=cS (cB 1 (cX [N 23 (ia 23 19 21),L 24 86 23,N 12 (.alloc 86),V (st' 86 12 24)] VI)) (cO [N 31 (iN 21),M 21 31])
abbrev Gx:=cH 22 21 20 VJ
abbrev VK:=cS (cX [F 18 32 5 4,L 19 23 18,N 20 (ln 19 23),N 21 (.move (K 0))] (cW 0 Gx)) (cR [M 32 10,A 8 32])
abbrev VL:=cX [L 13 34 4,L 14 51 6,M 15 3,N 16 (.build 169 #[(0,T 13),(1,T 14),(2,T 15)]),N 17 (bx 169 16),A 9 17] (cX [N 10 (.assign S0)] VK)
abbrev f93:=cX [N 4 (bx 34 0),N 5 (bx 32 1),N 6 (bx 51 2),N 8 (.assign S0)] VL
theorem Xo:fE 93 f93 33 [.tmp 8]:=fR
abbrev VM:=cC (T 32) (cR [M 34 3,F 35 89 6 3,L 36 3 35,N 37 (ia 83 34 36),L 38 4 37,M 39 38,Y 39 40 (mv 0),Y 39 41 (nc 40),Y 39 42 (fa 123 41 4),Y 39 43 (ld' 81 42),Y 39 44 (mv 9),Y 39 45 (ia 81 43 44),Y 39 46 (ld' 5 45),Y 39 47 (.binOp .eql 5 (T 46) (.const (.int .u8 1)) 5),N 48 (pa 39 47),A 8 48]) .skip
abbrev VN:=cC (T 24) (cR [M 26 0,N 27 (nc 26),F 28 123 27 3,L 29 59 28,M 30 9,N 31 (c2 117 29 30 59 3),A 8 31]) (cX [N 33 (bk .eql 3 15 3 3),A 32 33] VM)
abbrev VO:=cC (T 16) (cR [M 18 0,N 19 (nc 18),F 20 123 19 2,L 21 59 20,M 22 9,N 23 (c2 117 21 22 59 3),A 8 23]) (cX [N 25 (bk .eql 3 15 2 3),A 24 25] VN)
abbrev VP:=cB 0 (cX [N 17 (bk .eql 3 15 1 3),A 16 17] VO)
abbrev VQ:=cR [M 49 0,N 50 (nc 49),F 51 123 50 4,L 52 81 51,M 53 9,N 54 (ia 81 52 53),L 55 5 54,N 56 (.binOp .eql 5 (T 55) (.const (.int .u8 1)) 5),A 8 56]
abbrev VS:=cX [M 10 1,F 11 89 6 1,L 12 3 11,N 13 (bo .add 3 10 12 3),A 9 13] (cS (cX [F 14 89 6 2,L 15 3 14] VP) VQ)
abbrev f94:=cX [N 6 (bx 89 2),N 8 (.assign B0)] VS
theorem af5:fE 94 f94 57 [.tmp 8]:=fR
abbrev VT:=cC (T 22) (cR [M 23 5,M 24 6,M 25 9,A 2 23,A 3 24,A 4 25]) .skip
abbrev VU:=cO [M 31 6,M 32 8,N 33 (bo .add 3 31 32 3),A 6 33]
abbrev VV:=cX [M 26 5,M 27 7,N 28 (.convert 3 21 (T 27)),N 29 (.buildSlice 150 1 #[(0,T 28)]),N 30 (ap 26 29 150 150),A 5 30] VU
abbrev VW:=cS (cX [M 21 9,N 22 (bk .neq 3 21 0 3)] VT) VV
abbrev VX:=cB 1 (cX [M 15 0,M 16 6,N 17 (c2 118 15 16 9 3),M 14 17,N 18 (ex 14 0),N 19 (ex 14 1),N 20 (ex 14 2),A 7 18,A 8 19,A 9 20] VW)
abbrev Gy:=cS (cX [M 10 6,M 11 0,N 12 (ln 11 9),N 13 (bo .lss 3 10 12 3)] (cC (T 13) .skip (.exit 0))) VX
abbrev VY:=cR [M 34 5,M 35 6,A 2 34,A 3 35,N 4 (ak 0)]
abbrev VZ:=cX [N 5 (.assign S0)] (cX [N 6 (ak 0)] (cS (cW 0 Gy) VY))
abbrev f95:=cX [N 2 (.assign S0),N 3 (ak 0),N 4 (ak 0)] VZ
theorem af6:fE 95 f95 36 [.tmp 2,.tmp 3,.tmp 4]:=fR
abbrev Wa:=cC (T 4) (cR [M 5 0,N 6 (c1 119 5 3),A 2 6]) .skip
abbrev Wb:=cR [M 21 0,N 22 (bk .leq 3 21 1114111 3),A 2 22]
abbrev Wc:=cS (cX [M 7 0,N 8 (bk .geq 3 7 55296 3),M 9 8,Y 9 10 (mv 0),Y 9 11 (bk .lss 3 10 57344 3),N 12 (pa 9 11),M 13 12,Z 13 14 (mv 0),Z 13 15 (bk .eql 3 14 65534 3),N 16 (po 13 15),M 17 16,Z 17 18 (mv 0),Z 17 19 (bk .eql 3 18 65535 3),N 20 (po 17 19)] (cC (T 20) (cR [N 2 (.assign B0)]) .skip)) Wb
abbrev Wd:=cS (cX [M 3 0,N 4 (bk .lss 3 3 32 3)] Wa) Wc
abbrev f96:=cX [N 2 (.assign B0)] Wd
theorem af7:fE 96 f96 23 [.tmp 2]:=fR
abbrev We:=cO [M 22 4,N 23 (iN 22),A 4 23]
abbrev Wf:=cS (cB 1 (cX [M 24 3,M 25 4,N 26 (ia 150 24 25),L 27 21 26,N 28 (.convert 21 3 (T 27)),N 29 (c1 121 28 3),N 30 (nt' 4 29)] (cC (T 30) (cR [N 2 (.assign B0)]) .skip))) We
abbrev Gz:=cS (cX [M 18 4,M 19 3,N 20 (ln 19 150),N 21 (bo .lss 3 18 20 3)] (cC (T 21) .skip (.exit 0))) Wf
abbrev Wg:=cS (cX [N 4 (ak 0)] (cW 0 Gz)) (cR [N 2 (.assign B1)])
abbrev Wh:=cS (cX [M 7 3,N 8 (ln 7 150),N 9 (bk .eql 3 8 0 3),M 10 9,Z 10 11 (mv 3),Z 10 12 (.indexAddr 150 (T 11) (K 0)),Z 10 13 (ld' 21 12),Z 10 14 (.convert 21 3 (T 13)),Z 10 15 (c1 120 14 3),Z 10 16 (nt' 4 15),N 17 (po 10 16)] (cC (T 17) (cR [N 2 (.assign B0)]) .skip)) Wg
abbrev Wi:=cX [M 5 0,N 6 (.convert 9 150 (T 5)),A 3 6] Wh
abbrev f97:=cX [N 2 (.assign B0)] Wi
theorem af8:fE 97 f97 31 [.tmp 2]:=fR
abbrev Wj:=cO [M 18 6,N 19 (iN 18),A 6 19]
abbrev Wk:=cS (cB 1 (cO [M 20 5,F 21 86 2 3,L 22 23 21,M 23 6,N 24 (ia 23 22 23),L 25 86 24,M 26 1,M 27 5,N 28 (bo .sub 3 26 27 3),N 29 (c2 99 25 28 86 3),N 30 (bo .add 3 20 29 3),A 5 30])) Wj
abbrev GB:=cS (cX [M 8 6,F 9 86 2 3,L 10 23 9,N 11 (ln 10 23),N 12 (bo .lss 3 8 11 3),M 13 12,Y 13 14 (mv 5),Y 13 15 (mv 1),Y 13 16 (bo .leq 3 14 15 3),N 17 (pa 13 16)] (cC (T 17) .skip (.exit 0))) Wk
abbrev Wl:=cO [M 41 7,N 42 (iN 41),A 7 42]
abbrev Wm:=cS (cB 3 (cO [M 43 5,F 44 86 2 4,L 45 22 44,M 46 7,N 47 (ia 22 45 46),L 48 25 47,M 49 1,M 50 5,N 51 (bo .sub 3 49 50 3),N 52 (c2 77 48 51 25 3),N 53 (bo .add 3 43 52 3),A 5 53])) Wl
abbrev GC:=cS (cX [M 31 7,F 32 86 2 4,L 33 22 32,N 34 (ln 33 22),N 35 (bo .lss 3 31 34 3),M 36 35,Y 36 37 (mv 5),Y 36 38 (mv 1),Y 36 39 (bo .leq 3 37 38 3),N 40 (pa 36 39)] (cC (T 40) .skip (.exit 2))) Wm
abbrev Wn:=cS (cX [N 7 (ak 0)] (cW 2 GC)) (cR [M 54 5,A 4 54])
abbrev Wo:=cX [N 5 (ak 1)] (cS (cX [N 6 (ak 0)] (cW 0 GB)) Wn)
abbrev f99:=cX [N 2 (bx 86 0),N 4 (ak 0)] Wo
theorem af9:fE 99 f99 55 [.tmp 4]:=fR
abbrev Ht:=cR [F 3 48 1 0,L 4 9 3,N 5 (.binOp .neq 9 (T 4) (.const (.string ⟨#[104,116,116,112,58,47,47,119,119,119,46,119,51,46,111,114,103,47,50,48,48,48,47,120,109,108,110,115,47]⟩)) 9),M 6 5,Y 6 7 (fa 48 1 1),Y 6 8 (ld' 9 7),Y 6 9 (c1 97 8 9),N 10 (pa 6 9),M 11 10,Y 11 12 (fa 48 1 1),Y 11 13 (ld' 9 12),Y 11 14 (c1 73 13 9),N 15 (pa 11 14),M 16 15,Y 16 17 (fa 48 1 0),Y 16 18 (ld' 9 17),Y 16 19 (c1 73 18 9),N 20 (pa 16 19),M 21 20,Y 21 22 (fa 48 1 0),Y 21 23 (ld' 9 22),⟨some 24,.call ⟨.value (.func 125),{toList:=[T 23,K 0,.const (.string ⟨#[123]⟩)]},#[9,3,9]⟩,some (21,true)⟩,Y 21 25 (bk .lss 3 24 0 3),N 26 (pa 21 25),M 27 26,Y 27 28 (fa 48 1 0),Y 27 29 (ld' 9 28),⟨some 30,.call ⟨.value (.func 125),{toList:=[T 29,K 0,.const (.string ⟨#[125]⟩)]},#[9,3,9]⟩,some (27,true)⟩,Y 27 31 (bk .lss 3 30 0 3),N 32 (pa 27 31),A 2 32]
abbrev Yb:=cX [N 1 (bx 48 0),N 2 (.assign B0)] Ht
theorem Wq:fE 100 Yb 33 [.tmp 2]:=fR
abbrev Hu:E4:= .mix [m2 (M 37 0) 0 1,m2 (N 38 (nc 37)) 0 1,m2 (F 39 130 38 0) 0 1,m2 (F 40 99 39 2) 0 1,⟨L 41 96 40,false,true,0,1⟩,m2 (M 42 4) 0 1,m0 (M 43 0),m0 (N 44 (nc 43)),m0 (F 45 130 44 0),m0 (F 46 99 45 2),m1 (L 47 96 46),m0 (M 48 4),m0 (N 49 (ia 96 47 48)),m1 (L 50 97 49),m0 (F 51 86 3 2),m1 (L 52 9 51),m3 (N 53 (c2 128 50 52 97 9)) 0 1,m2 (N 54 (ia 96 41 42)) 1 1,m4 (V (st' 97 54 53)) 1 2]
abbrev Hv:=cC (T 55) (.mix [m2 (M 57 0) 0 1,m0 (M 58 0),m0 (N 59 (nc 58)),m0 (F 60 130 59 0),m0 (F 61 99 60 3),m1 (L 62 97 61),m0 (F 63 86 3 2),m1 (L 64 9 63),m3 (N 65 (c2 128 62 64 97 9)) 0 1,m2 (N 66 (nc 57)) 1 1,m2 (F 67 130 66 0) 1 1,m2 (F 68 99 67 3) 1 1,m4 (V (st' 97 68 65)) 1 2]) .skip
abbrev Hw:=cC (T 31) (cX [M 33 0,F 34 86 3 1,L 35 48 34,N 36 (c2 127 33 35 155 48),A 4 36] Hu) (cX [N 56 (bk .eql 3 10 7 3),A 55 56] Hv)
abbrev Hy:=cC (T 25) (cO [M 27 0,F 28 86 3 1,L 29 48 28,N 30 (c2 127 27 29 155 48)]) (cX [N 32 (bk .eql 3 10 6 3),A 31 32] Hw)
abbrev Hz:=cC (T 11) (.mix [m2 (M 13 0) 0 1,m0 (M 14 0),m0 (N 15 (nc 14)),m0 (F 16 130 15 0),m0 (F 17 99 16 0),m1 (L 18 95 17),m0 (F 19 86 3 1),m1 (L 20 48 19),m3 (N 21 (c2 126 18 20 95 48)) 0 1,m2 (N 22 (nc 13)) 1 1,m2 (F 23 130 22 0) 1 1,m2 (F 24 99 23 0) 1 1,m4 (V (st' 95 24 21)) 1 2]) (cX [N 26 (bk .eql 3 10 5 3),A 25 26] Hy)
def to:=cB 0 (cX [N 12 (bk .eql 3 10 4 3),A 11 12] Hz)
abbrev HE:=cO [M 76 0,L 77 86 6,N 78 (c2 101 76 77 155 86)]
abbrev HF:=cS (cB 2 (cX [N 74 (ia 23 70 72),L 75 86 74,N 6 (.alloc 86),V (st' 86 6 75)] HE)) (cO [N 79 (iN 72),M 72 79])
abbrev Ad:=cX [N 73 (bo .lss 3 72 71 3)] (cG 73 1 HF)
abbrev HG:=cO [M 87 0,L 88 25 8,N 89 (c2 79 87 88 155 25)]
abbrev HH:=cS (cB 4 (cX [N 85 (ia 22 81 83),L 86 25 85,N 8 (.alloc 25),V (st' 25 8 86)] HG)) (cO [N 90 (iN 83),M 83 90])
abbrev Ae:=cX [N 84 (bo .lss 3 83 82 3)] (cG 84 3 HH)
abbrev Dh:=cX [F 80 86 3 4,L 81 22 80,N 82 (ln 81 22),N 83 (.move (K 0))] (cW 3 Ae)
abbrev Di:=cS (cX [F 69 86 3 3,L 70 23 69,N 71 (ln 70 23),N 72 (.move (K 0))] (cW 1 Ad)) Dh
abbrev Yc:=cX [N 3 (bx 86 1)] (cS (cX [F 9 86 3 0,L 10 3 9] to) Di)
theorem Wr:fE 101 Yc 91 []:=fR
abbrev HI:=cX [M 11 1,M 12 0,M 13 5,N 14 (ia 97 12 13),L 15 9 14,N 16 (bo .eql 9 11 15 9)] (cC (T 16) (cR [M 17 5,A 4 17]) .skip)
abbrev HJ:=cS (cB 1 (cX [M 10 8,A 5 10] HI)) (cO [N 18 (iN 8),M 8 18])
abbrev Af:=cH 9 8 7 HJ
abbrev HK:=cS (cX [M 6 0,N 7 (ln 6 97),N 8 (.move (K 0))] (cW 0 Af)) (cR [N 4 (ak (-1))])
abbrev Yd:=cX [N 4 (ak 0)] HK
theorem Ws:fE 102 Yd 19 [.tmp 4]:=fR
abbrev HL:=cR [M 3 0,N 4 (cf 129 #[T 3,K 10] #[2,3]),A 2 4]
abbrev Ye:=cX [N 2 (.assign (.const (.string ByteArray.empty)))] HL
theorem Wt:fE 103 Ye 5 [.tmp 2]:=fR
abbrev HM:=cR [M 5 0,M 6 1,N 7 (c2 130 5 6 22 27),N 8 (bk .geq 3 7 0 3),A 4 8]
abbrev Yf:=cX [N 4 (.assign B0)] HM
theorem Wu:fE 104 Yf 9 [.tmp 4]:=fR
abbrev HN:=cR [L 4 25 1,L 5 25 2,N 6 (c2 106 4 5 25 25),A 3 6]
abbrev Yg:=cX [N 2 (bx 25 0),N 3 (.assign B0)] HN
theorem Wv:fE 105 Yg 7 [.tmp 3]:=fR
abbrev HO:=cR [F 5 25 2 0,L 6 3 5,F 7 25 3 0,L 8 3 7,N 9 (bo .eql 3 6 8 3),M 10 9,Y 10 11 (fa 25 2 1),Y 10 12 (ld' 22 11),Y 10 13 (fa 25 3 1),Y 10 14 (ld' 22 13),Y 10 15 (cf 131 #[T 12,T 14,.func 106] #[22,22,147]),N 16 (pa 10 15),M 17 16,Y 17 18 (fa 25 2 2),Y 17 19 (ld' 23 18),Y 17 20 (fa 25 3 2),Y 17 21 (ld' 23 20),Y 17 22 (cf 132 #[T 19,T 21,.func 133] #[23,23,166]),N 23 (pa 17 22),A 4 23]
abbrev Yh:=cX [N 2 (bx 25 0),N 3 (bx 25 1),N 4 (.assign B0)] HO
theorem Ww:fE 106 Yh 24 [.tmp 4]:=fR
abbrev HP:=cR [M 22 8,M 23 9,A 6 22,A 7 23]
abbrev HQ:=cX [M 14 0,M 15 8,M 16 9,M 17 1,M 18 2,N 19 (.build 89 #[(0,T 15),(1,T 16),(2,T 17),(3,T 18)]),N 20 (.buildSlice 30 1 #[(0,T 19)]),N 21 (c2 134 14 20 158 30)] HP
abbrev HR:=cX [M 10 0,N 11 (c1 110 10 158),M 12 0,N 13 (c1 110 12 158),A 8 11,A 9 13] HQ
abbrev Yi:=cX [N 6 (ak 0),N 7 (ak 0)] HR
theorem Wx:fE 107 Yi 24 [.tmp 6,.tmp 7]:=fR
abbrev HS:=cX [M 33 0,M 34 7,M 35 10,N 36 (cf 111 #[T 33,T 34,T 35] #[158,3,3])] (cO [M 37 11,A 7 37])
abbrev HT:=cX [M 28 0,L 29 25 9,N 30 (c2 83 28 29 158 25),M 27 30,N 31 (ex 27 0),N 32 (ex 27 1),A 10 31,A 11 32] HS
abbrev HU:=cS (cB 1 (cX [N 25 (ia 22 21 23),L 26 25 25,N 9 (.alloc 25),V (st' 25 9 26)] HT)) (cO [N 38 (iN 23),M 23 38])
abbrev Ag:=cH 24 23 22 HU
abbrev HV:=cR [M 39 6,M 40 7,A 4 39,A 5 40]
abbrev HW:=cS (cX [M 20 1,N 21 (.slice 22 (T 20) (some (K 1)) none none),N 22 (ln 21 22),N 23 (.move (K 0))] (cW 0 Ag)) HV
abbrev HX:=cX [M 13 0,M 14 1,N 15 (.indexAddr 22 (T 14) (K 0)),L 16 25 15,N 17 (c2 83 13 16 158 25),M 12 17,N 18 (ex 12 0),N 19 (ex 12 1),A 6 18,A 7 19] HW
abbrev Yj:=cX [N 4 (ak 0),N 5 (ak 0)] HX
theorem Wy:fE 108 Yj 41 [.tmp 4,.tmp 5]:=fR
abbrev HY:=cO [M 33 7,M 34 11,N 35 (.buildSlice 29 1 #[(0,T 34)]),N 36 (ap 33 35 29 29),A 7 36]
abbrev HZ:=cX [M 29 0,M 30 6,M 31 10,N 32 (cf 111 #[T 29,T 30,T 31] #[158,3,3])] HY
abbrev Ia:=cX [M 24 0,L 25 25 9,N 26 (c2 83 24 25 158 25),M 23 26,N 27 (ex 23 0),N 28 (ex 23 1),A 10 27,A 11 28] HZ
abbrev Ib:=cS (cB 1 (cX [N 21 (ia 22 17 19),L 22 25 21,N 9 (.alloc 25),V (st' 25 9 22)] Ia)) (cO [N 37 (iN 19),M 19 37])
abbrev Ah:=cH 20 19 18 Ib
abbrev Ic:=cO [M 46 0,M 47 14,M 48 12,N 49 (cf 111 #[T 46,T 47,T 48] #[158,3,3])]
abbrev Ie:=cS (cB 3 (cX [N 44 (ia 29 40 42),L 45 3 44,A 14 45] Ic)) (cO [N 50 (iN 42),M 42 50])
abbrev Ai:=cX [N 43 (bo .lss 3 42 41 3)] (cG 43 2 Ie)
abbrev Ig:=cR [M 51 6,M 52 12,A 4 51,A 5 52]
abbrev Ih:=cS (cX [M 40 7,N 41 (ln 40 29),N 42 (.move (K 0))] (cW 2 Ai)) Ig
abbrev Ii:=cX [M 38 0,N 39 (c1 110 38 158),A 12 39] Ih
abbrev Ij:=cS (cX [M 17 1,N 18 (ln 17 22),N 19 (.move (K 0))] (cW 0 Ah)) Ii
abbrev Dj:=cX [M 15 0,N 16 (c1 110 15 158),A 6 16] (cX [N 7 (.assign S0)] Ij)
abbrev Yk:=cX [N 4 (ak 0),N 5 (ak 0)] Dj
theorem Wz:fE 109 Yk 53 [.tmp 4,.tmp 5]:=fR
abbrev Ik:=cR [M 12 0,N 13 (nc 12),F 14 135 13 0,F 15 32 14 0,L 16 3 15,N 17 (bk .sub 3 16 1 3),A 2 17]
abbrev Il:=cX [M 3 0,N 4 (nc 3),F 5 135 4 0,F 6 32 5 0,L 7 3 6,N 8 (iN 7),N 9 (nc 3),F 10 135 9 0,F 11 32 10 0,V (st' 3 11 8)] Ik
abbrev Yl:=cX [N 2 (ak 0)] Il
theorem WA:fE 110 Yl 18 [.tmp 2]:=fR
abbrev Ym:=cO [M 6 0,M 7 1,M 8 2,N 9 (.build 89 #[(0,T 7),(1,T 8)]),N 10 (.buildSlice 30 1 #[(0,T 9)]),N 11 (c2 134 6 10 158 30)]
theorem WB:fE 111 Ym 12 []:=fR
abbrev Im:=cO [M 13 4,N 14 (iN 13),A 4 14]
abbrev Io:=cS (cB 1 (cO [M 15 3,F 16 86 1 3,L 17 23 16,M 18 4,N 19 (ia 23 17 18),L 20 86 19,N 21 (c1 112 20 86),N 22 (ap 15 21 23 23),A 3 22])) Im
abbrev Aj:=cS (cX [M 8 4,F 9 86 1 3,L 10 23 9,N 11 (ln 10 23),N 12 (bo .lss 3 8 11 3)] (cC (T 12) .skip (.exit 0))) Io
abbrev Ip:=cO [M 28 5,N 29 (iN 28),A 5 29]
abbrev Iq:=cS (cB 3 (cO [M 30 3,F 31 86 1 4,L 32 22 31,M 33 5,N 34 (ia 22 32 33),L 35 25 34,N 36 (c1 86 35 25),N 37 (ap 30 36 23 23),A 3 37])) Ip
abbrev Ak:=cS (cX [M 23 5,F 24 86 1 4,L 25 22 24,N 26 (ln 25 22),N 27 (bo .lss 3 23 26 3)] (cC (T 27) .skip (.exit 2))) Iq
abbrev Ir:=cS (cX [N 5 (ak 0)] (cW 2 Ak)) (cR [M 38 3,A 2 38])
abbrev Is:=cX [L 6 86 1,N 7 (.buildSlice 23 1 #[(0,T 6)]),A 3 7] (cS (cX [N 4 (ak 0)] (cW 0 Aj)) Ir)
abbrev Yn:=cX [N 1 (bx 86 0),N 2 (.assign S0)] Is
theorem WC:fE 112 Yn 39 [.tmp 2]:=fR
abbrev It:=cO [M 10 5,N 11 (iN 10),A 5 11]
abbrev Iu:=cS (cB 1 (cS (.draw [yF (M 12 0),yF (M 13 5),yF (N 14 (ia 95 12 13)),yF (L 15 48 14),yF (L 16 48 3),yT (N 17 (bo .eql 48 15 16 48))]) (cC (T 17) (cR [N 4 (.assign B1)]) .skip))) It
abbrev Al:=cS (cX [M 6 5,M 7 0,N 8 (ln 7 95),N 9 (bo .lss 3 6 8 3)] (cC (T 9) .skip (.exit 0))) Iu
abbrev Iv:=cS (cX [N 5 (ak 0)] (cW 0 Al)) (cR [N 4 (.assign B0)])
abbrev Yo:=cX [N 3 (bx 48 1),N 4 (.assign B0)] Iv
theorem WD:fE 113 Yo 18 [.tmp 4]:=fR
end Go.Proofs.YtofbhlhamfkljaaGreatDoor.Ve
