/- A part of the claim: the evaluator and the contracts. Conditions: none here. -/
import Derived.Test.YtjlpdddmmnijoaaGreatDoorSa
import Derived.LoopNIn
import Derived.OwnWalkIn
import Derived.RangeFuncCalls
import Derived.Scope
import Derived.LoopN
import Derived.RangeFuncSeq
import Derived.RangeFuncIn
import Derived.Test.YtjlpdddmmnijoaaGreatDoorRows
import Derived.ChangeArms
import Derived.ChangeOld
import Derived.KernelRfl
import Derived.Test.YtjlpdddmmnijoaaGreatDoorProg
import Derived.Test.YtjlpdddmmnijoaaGreatDoorCards
import Derived.Test.YtjlpdddmmnijoaaGreatDoorTie
import Derived.WalkKit
import Derived.ProofKit
import Derived.OpenShut
import Derived.JoinedCond
import Derived.Below
import Derived.Deep.DeepHandedRow
import Derived.Lib.LaidTab
set_option linter.unusedVariables false
set_option linter.unusedSimpArgs false
set_option linter.defProp false
set_option maxHeartbeats 0
set_option maxRecDepth 1000000
namespace Go.Proofs.YtjlpdddmmnijoaaGreatDoor
open Go Go.RowKit
def dt:=@decide_eq_false
def iW:=@Int.lt_or_le
def lP:=@List.drop_zero
def mj:=@List.mem_singleton
def vM:=@List.flatMap_cons
def yC:=@List.head?_cons
def A2:=@List.take_append_of_le_length
def Bi:=@Bool.false_and
def Ee:=@List.take_succ_cons
def EF:=@Bool.true_or
def Hh:=@Nat.le_max_right
def Hy:=@World.putObj_heap_other
def Hz:=@Nat.le_max_left
def Ic:=@List.any_cons
def LS:=@Bool.or_true
def Mk:=@List.drop_append_of_le_length
def Mq:=@Bool.and_false
def Mu:=@Bool.eq_iff_iff
def PL:=@Classical.choose_spec
def TB:=@Bool.or_false
def UJ:=@List.cons.injEq
def XI:=@Nat.add_comm
def XK:=@List.take_length
def Yp:=@Bool.and_self
def Zi:=@BitVec.toNat_ofNat
def ZF:=@wpIn_wide
def ZG:=@Bool.not_eq_true
def ZK:=@BitVec.ofInt_natCast
def ZT:=@List.length_pos_iff
def aaa:=@List.drop_left
def aaz:=@not_or
def aaA:=@World.putObj_heap_same
def aaB:=@Nat.mul_comm
def aaX:=@List.mapM_nil
def aaZ:=@Nat.mod_lt
end Go.Proofs.YtjlpdddmmnijoaaGreatDoor
namespace Go.Proofs.YtjlpdddmmnijoaaGreatDoor.Ve
open Go Go.RowKit
section
variable{P:Program}{base:Bs}{w0:World}{φ:List Loc}{S:List Blk}{w:World}{nt:Nat}{e:Env}{a:Act}
def dm{C:C4}(J:eg P base w0 C){ops:Array Oper}:∀{l:List Oper}{e e':Env}{H H':d7},E3 P C ops l e H=some (e',H')->Le H H':=by
 intro l;induction l with
 |nil=>intro e e' H H' h;cases h;exact Le.refl _
 |cons o l E=>
  intro e e' H H' h;simp only[E3]at h;split at h
  .cases h
  split at h
  .split at h
   .exact E h
   .rename_i v H2 D;refine Le.trans ?_ (E h);cases I:isCall o.op with
    |false=>exact pZ I D
    |true=>
     obtain⟨c,f,g,first,z,_,_,_,u⟩:=bh I D;exact(J _ _ _ _ _ u).2.1 _ rfl
   .cases h
  .exact E h
def aF{C:C4}(hC:eg P base w0 C){ops:Array Oper}(b0:js nt ops=true){Q:Exit->Act->World->Prop}:∀{l:List Oper}(hl:∀o∈l,o∈ops.toList) {φ:List Loc} {e e':Env} {H H':d7} {a:Act} {w:World},
  E3 P C ops l e H=some (e',H')->ER φ nt e a->WR base w0 φ H.bs w->li base w0 φ H w nt a.defers e' H' (Q .normal)->wpList P ops Q l a w:=by
 intro l;induction l with
 |nil=>
  intro hl φ e e' H H' a w h hE hW hp;cases h;exact hp φ a w (Ext.refl φ) hE hW (mW H) rfl
 |cons o l ih=>
  intro hl φ e e' H H' a w h hE hW hp;obtain⟨a7,a9⟩:=bQ b0 (hl o sM);have b9:∀o∈l,o∈ops.toList:=fun o ho=>hl o (by simp [ho]);simp only[E3]at h;split at h
  .cases h
  rename_i c3;rw[hE.wanted ops o (aD b0) (by simpa using c3)]at h;unfold wpList;have b1:∀v,(a.put o.dst v).defers=a.defers:=fun v=>by unfold Act.put;split<;>rfl
  split at h
  .rename_i hw;rw[bJ hw]
   left
   have E:∀(v:aa3)(H2:d7)(v':aa3)(w':World)(φ':List Loc),Le H H2->E3 P C ops l (N4 e o.dst v) H2=some (e',H')->Ext φ φ'->VR φ' v v'->WR base w0 φ' H2.bs w'->Fr φ H.bs H2.low w w'->
     wpList P ops Q l (a.put o.dst v') w':=by
    intro v H2 v' w' φ' b7 hr hx hv a1 a3;refine ih b9 hr ((hE.mono hx).put a9 hv) a1 ?_;intro φ2 a2 w2 b8 b2 b3 a5 b4;exact hp φ2 a2 w2 (hx.trans b8) b2 b3 (Fr.trans hx b7 (dm hC hr) hW.len a3 a5) (by rw[b4,b1])
   cases hc:isCall o.op with
   |false=>
    split at h
    next v z=>obtain⟨v',hv,u⟩:=kM hW hE a7 hc z;unfold Oper.wp;rw[u w hW.cls,Mt];exact E v H v' w φ (Le.refl H) h (Ext.refl φ) hv hW (mW H)
    .rename_i v H2 z;obtain⟨v',w',φ',u,hx,hv,a1,a3⟩:=yr hW hE a7 hc z;unfold Oper.wp;rcases u with u|⟨u,rfl⟩
     .rw[u,Mt];exact E v H2 v' w' φ' (pZ hc z) h hx hv a1 a3
     .rw[u,aaS];exact E v H2 undef w' φ' (pZ hc z) h hx hv a1 a3
    .cases h
   |true=>
    split at h
    next v z=>obtain⟨c,f,g,first,X,ho,D,hf,O⟩:=bh hc z;obtain⟨a6,I,b6,J⟩:=kB hE a7 ho D hf;obtain⟨b5,_,c0,W⟩:=hC _ _ _ _ _ O;have a4:=W φ w _ J hW;unfold Oper.wp;rw[eW D (ty:=o.type) b6 b5 ho,aaK];simp only[yv]at a4;refine a4.mono fun en w' U=>?_;obtain⟨rfl,a8⟩:=U;exact E v H v w' φ (Le.refl H) h (Ext.refl φ) (VR.na (c0 rfl)) a8.wr (fun b B l _ hB hd hl=>a8.same b B l hB hd hl)
    next v H2 z=>obtain⟨c,f,g,first,X,ho,D,hf,O⟩:=bh hc z;obtain⟨a6,I,b6,J⟩:=kB hE a7 ho D hf;obtain⟨b5,b7,_,W⟩:=hC _ _ _ _ _ O;have a4:=W φ w _ J hW;unfold Oper.wp;rw[eW D (ty:=o.type) b6 b5 ho,aaK];simp only[yv]at a4;refine a4.mono fun en w' U=>?_;obtain⟨v',φ',rfl,hx,hv,a1,a3⟩:=U;exact E v H2 v' w' φ' (b7 H2 rfl) h hx hv a1 a3
    .cases h
  next hw=>rw[bt hw];refine ih b9 h (hE.put a9 (VR.undef' φ)) hW ?_;intro φ2 a2 w2 b8 b2 b3 a5 b4;exact hp φ2 a2 w2 b8 b2 b3 a5 (by rw[b4,b1])
def Cls.trans{z u:World}(h:Cls base w0 φ S w z)(k:Cls base w0 φ S z u):Cls base w0 φ S w u:=
 ⟨k.wr,fun b B l p q r=>(k.same b B l p q r).trans (h.same b B l p q r)⟩
def kZ(P:Program)(ops:Array Oper):List Oper->Act->(Act->Prop)->Prop
 |[],a,Q=>Q a
 |o::l,a,Q=>∃v,Yields P ops o v a/\kZ P ops l (a.put o.dst v) Q
def jl{ops:Array Oper}{Q Q':Act->Prop}(h:∀a,Q a->Q' a):∀(l:List Oper)(a:Act),kZ P ops l a Q->kZ P ops l a Q'
 |[],a,hq=>h a hq
 |o::l,a,⟨v,h1,h2⟩=>⟨v,h1,jl h l _ h2⟩
def Pi{C:C4}{o:Oper}{H:d7}{v:aa3}{r:Option d7}(W:WR base w0 φ H.bs w)(D:ER φ nt e a)(z:o.op.operands.toList.all D3=true)(J:tI o.op=true)(h:aop P C o.op e H=some (v,r)):
  ∃v',VR φ v v'/\∀E,(execOp a.eval o).run P E= .ok (.value v') E:=by
 unfold aop at h;unfold execOp;unfold tI at J;split at J<;>rename_i I<;>simp only[I]at h ⊢
 all_goals first|(cases J;done)|simp only[I,Op.operands,sS,Hm,zb,cA]at z
 .cases h;exact⟨_,D.op z,fun E=>rfl⟩
 .cases h;exact⟨_,D.op z,fun E=>rfl⟩
 .rename_i t x lo X mx;obtain⟨h,_⟩:=F9 h;have u:D3 x=true/\lo.toList.all D3=true/\X.toList.all D3=true/\mx.toList.all D3=true:=by
   simp only[EU,Iq,cA,ZA,sS,Hm,zb]at z
   simpa [and_assoc] using z
  obtain⟨v',O,U⟩:=qp W h (D.op u.1) (D.opt u.2.1) (D.opt u.2.2.1) (D.opt u.2.2.2);exact⟨v',O,fun E=>by simp [U E]⟩
def ut{ops:Array Oper}{md:Region.Mode}{g:Nat}{Q:Exit->Act->World->Prop}{w:World}(hs:Region.noSelect ops=true)(J:∀c a w,¬Q (.panic c) a w):
  ∀(l:List Oper)(k:Nat)(u:Array Bool)(a:Act),(∀j,j<l.length->l[j]?=ops[k+j]?)->Region.lexHead md ops g l.length k u=true->
   kZ P ops l a (fun I=>∀z,Region.seqB md ops g (k+l.length) z=true->wpAny P md ops Q g z I w)->wpAny P md ops Q (l.length+g) u a w
 |[],k,u,a,_,hB,h=>by
  rw[yd,tV];exact h u (by simpa [Region.lexHead] using hB)
 |o::l,k,u,a,hl,hB,⟨v,hy,h⟩=>by
  have O:ops[k]?=some o:=by simpa using (hl 0 sM).symm
  simp only[kO,Region.lexHead,cA]at hB;obtain⟨⟨X,U⟩,D⟩:=hB;rw[kO,show l.length+1+g=(l.length+g)+1 from oM];refine wpAny_take O hs U X (fun c a w q=>absurd q (J c _ w)) hy ?_;refine ut hs J l (k+1) _ _ (fun j hj=>by have:=hl (j+1) (by simp;omega);simpa [A1,XI 1 j] using this) D ?_;refine jl (fun I W z E=>W z ?_) l _ h;rw[kO,show k+(l.length+1)=k+1+l.length from oM];exact E
def uu{id:Nat}{Q:Exit->Act->World->Prop}{a:Act}{w:World}{l:List Oper}(n:Nat)(hm:P.follows .mixedOrders=true)(O:pureTailB l.toArray n=true)(hQ:∀c a w,¬Q (.panic c) a w)
  (h:kZ P l.toArray (l.take n) a (fun a'=>wpList P l.toArray Q (l.drop n) a' {w with drawn:=w.drawn+1})):(Code.region id l.toArray true).wp P Q a w:=by
 simp only[pureTailB,cA,eT]at O;obtain⟨⟨⟨I,hn⟩,_⟩,E⟩:=O;have a1:n<l.length:=by simpa using hn
 have z:(l.take n).length=n:=by simp;omega
 have D:(l.drop n).length=l.toArray.size-n:=sM;refine aaW hm ?_;have:=ut (P:=P) (md:= .any) (g:=l.toArray.size-n) (Q:=Q) (w:={w with drawn:=w.drawn+1}) I hQ (l.take n) 0 (Array.replicate l.toArray.size false) a (fun j W=>by
  have J:j<n:=by rw[z]at W;exact W
  simp [J]) (by rw[z];exact E) (by
  refine jl (fun a' X u U=>?_) _ _ h;have:=wpAny_of_seq (md:= .any) (Q':=Q) (l.drop n) n u a' {w with drawn:=w.drawn+1} (fun j=>by simp [vu]) (by rw[D];rw[tV,z]at U;exact U) X
  rwa [D]at this)
 rw[z,show n+(l.toArray.size-n)=l.toArray.size from oM]at this;exact this
def Cx{C:C4}(hC:eg P base w0 C){ops:Array Oper}(z:js nt ops=true){H:d7}(hW:WR base w0 φ H.bs w):∀{l:List Oper}(hl:∀o∈l,o∈ops.toList) {i:Nat} {q:Bool} {e e':Env} {H':d7},
  N3 P C ops i q l e H=some (e',H')->
  (Region.lexB .any ops=true/\H'=H/\∀a,ER φ nt e a->∀Q:Act->Prop,(∀a',ER φ nt e' a'->a'.defers=a.defers->Q a')->wpQuiet P ops (Cls base w0 φ H.bs w) Q l a)\/
  (∃m e1,q=false/\FB ops (i+m)=true/\E3 P C ops (l.drop m) e1 H=some (e',H')/\
   (∀a,ER φ nt e a->(∀o∈l.take m,o.guard=none/\tI o.op=true)->∀Q:Act->Prop,(∀a1,ER φ nt e1 a1->a1.defers=a.defers->Q a1)->kZ P ops (l.take m) a Q)/\
   ∀w1,Cls base w0 φ H.bs w w1->∀a,ER φ nt e a->∀Q:Act->Prop,(∀a1,ER φ nt e1 a1->a1.defers=a.defers->Q a1)->wpStill P ops w1 Q (l.take m) a):=by
 intro l;induction l with
 |nil=>
  intro hl i q e e' H' h;simp only[N3]at h;split at h
  next hB=>cases h;exact .inl ⟨hB,rfl,fun a u Q J=>J a u rfl⟩
  .cases h
 |cons o l ih=>
  intro hl i q e e' H' h;obtain⟨a4,D⟩:=bQ z (hl o sM);have b0:∀o∈l,o∈ops.toList:=fun o ho=>hl o (by simp [ho]);have c4:=h;simp only[N3]at h;split at h
  .cases h
  rename_i b5;have E:aQ ops e o=false:=by simpa using b5
  split at h
  .rename_i hw;split at h
   .rename_i v W;cases hc:isCall o.op with
    |false=>
     rw[hc,TB]at h;rcases ih b0 h with⟨hB,hH,hq⟩|⟨m,e1,a3,hB,hr,b6,b2⟩
     .refine .inl ⟨hB,hH,fun a u Q J=>?_⟩;obtain⟨v',hv,O⟩:=kM hW u a4 hc W;unfold wpQuiet;rw[bJ (by rw[<-u.wanted ops o (aD z) E];exact hw)];refine⟨v',fun w1 I=>?_,hq _ (u.put D hv) Q (fun a' X h2=>J a' X (by rw[h2,U3]))⟩;unfold Oper.quietAt;rw[O w1 I];exact⟨rfl,rfl⟩
     .refine .inr ⟨m+1,e1,a3,by rw[show i+(m+1)=i+1+m from oM];exact hB,by simpa using hr,fun a u hP Q J=>?_,fun w1 I a u Q J=>?_⟩
      .have a7:=hP o sM;obtain⟨v',hv,O⟩:=Pi hW u a4 a7.2 W;simp only[Ee];refine⟨v',.inl ⟨by rw[<-u.wanted ops o (aD z) E];exact hw,O⟩,?_⟩;exact b6 _ (u.put D hv) (fun o' c3=>hP o' (by simp [c3])) Q (fun a' X h2=>J a' X (by rw[h2,U3]))
      obtain⟨v',hv,O⟩:=kM hW u a4 hc W;simp only[Ee];unfold wpStill;rw[bJ (by rw[<-u.wanted ops o (aD z) E];exact hw)];unfold Oper.still;rw[O w1 I,Oper.stillUpon_value];exact b2 w1 I _ (u.put D hv) Q (fun a' X h2=>J a' X (by rw[h2,U3]))
    |true=>
     rw[hc,LS]at h;rcases ih b0 h with⟨hB,hH,hq⟩|⟨m,e1,a3,_⟩
     .refine .inl ⟨hB,hH,fun a u Q J=>?_⟩;obtain⟨c,f,g,first,b3,ho,a5,hf,a9⟩:=bh hc W;obtain⟨b7,a6,b9,a8⟩:=kB u a4 ho a5 hf;obtain⟨b8,_,c0,b1⟩:=hC _ _ _ _ _ a9;unfold wpQuiet;rw[bJ (by rw[<-u.wanted ops o (aD z) E];exact hw)];refine⟨v,fun w1 I=>?_,hq _ (u.put D (VR.na (c0 rfl))) Q (fun a' X h2=>J a' X (by rw[h2,U3]))⟩;unfold Oper.quietAt;rw[eW a5 (ty:=o.type) b9 b8 ho];have b4:=b1 φ w1 _ a8 I.wr;simp only[yv]at b4;exact⟨rfl,b4.mono fun en w2 a2=>⟨a2.1,I.trans a2.2⟩⟩
     .cases a3
   .rename_i v H2 W;split at h
    next U=>simp only[cA,Hw]at U;refine .inr ⟨0,e,U.1,U.2,?_,fun a u _ Q J=>J a u rfl,fun w1 _ a u Q J=>J a u rfl⟩;simp only[lP,E3,bt b5,hw,jd,W];exact h
    .cases h
   .cases h
  .rename_i hw;rcases ih b0 h with⟨hB,hH,hq⟩|⟨m,e1,a3,hB,hr,b6,b2⟩
   .refine .inl ⟨hB,hH,fun a u Q J=>?_⟩;unfold wpQuiet;rw[bt (by rw[<-u.wanted ops o (aD z) E];exact hw)];exact hq _ (u.put D (VR.undef' φ)) Q (fun a' X h2=>J a' X (by rw[h2,U3]))
   .refine .inr ⟨m+1,e1,a3,by rw[show i+(m+1)=i+1+m from oM];exact hB,by simpa using hr,fun a u hP Q J=>?_,fun w1 I a u Q J=>?_⟩
    .have a7:=hP o sM;exact absurd (by simp [I1,a7.1]) hw
    simp only[Ee];unfold wpStill;rw[bt (by rw[<-u.wanted ops o (aD z) E];exact hw)];exact b2 w1 I _ (u.put D (VR.undef' φ)) Q (fun a' X h2=>J a' X (by rw[h2,U3]))
def NW{C:C4}(E:eg P base w0 C){ops:Array Oper}:∀{l:List Oper}{i:Nat}{q:Bool}{e e':Env}{H H':d7},N3 P C ops i q l e H=some (e',H')->Le H H':=by
 intro l;induction l with
 |nil=>
  intro i q e e' H H' h;simp only[N3]at h;split at h
  .cases h;exact Le.refl _
  .cases h
 |cons o l J=>
  intro i q e e' H H' h;simp only[N3]at h;split at h
  .cases h
  split at h
  .split at h
   .exact J h
   .rename_i v H2 D;split at h
    .refine Le.trans ?_ (dm E h);cases I:isCall o.op with
     |false=>exact pZ I D
     |true=>
      obtain⟨c,f,g,first,z,_,_,_,u⟩:=bh I D;exact(E _ _ _ _ _ u).2.1 _ rfl
    .cases h
   .cases h
  .exact J h
def Cw{C:C4}(hm:P.follows .mixedOrders=true)(hC:eg P base w0 C){ops:Array Oper}(J:js nt ops=true){Q:Exit->Act->World->Prop}{e e':Env}{H H':d7}(id:Nat)
  (h:N3 P C ops 0 false ops.toList e H=some (e',H')) (hE:ER φ nt e a) (hW:WR base w0 φ H.bs w) (hp:li base w0 φ H w nt a.defers e' H' (Q .normal)):(Code.region id ops true).wp P Q a w:=by
 have E:Cls base w0 φ H.bs w {w with drawn:=w.drawn+1}:=hW.cls.drew;rcases Cx hC J hW (fun o ho=>ho) h with⟨O,rfl,hq⟩|⟨m,e1,_,O,hr,a8,a9⟩
 .refine wp_region_quiet (C:=Cls base w0 φ H'.bs w) hm O E (hq a hE _ fun a' a7 hd w' hc=>?_);exact hp φ a' w' (Ext.refl φ) a7 hc.wr (fun b B l _ u z D=>hc.same b B l u z D) hd
 .have D:ops=ops.toList.toArray:=sM;rw[tV,FB,xj]at O;rcases O with O|O
  .have:=wp_region_still_tail (P:=P) (id:=id) (Q:=Q) (a:=a) (w:=w) (l:=ops.toList) m hm (by rw[<-D];exact O) (by
    rw[<-D];refine a9 _ E a hE _ fun a1 U a3=>?_;refine aF hC J (fun o ho=>S3 ho) hr U E.wr ?_;intro φ2 a2 w2 a5 W X I a4;exact hp φ2 a2 w2 a5 W X (fun b B l hb u z D=>(I b B l hb u z D).trans (E.same b B l u z D)) (a4.trans a3))
   rw[<-D]at this;exact this
  .have a6:∀o∈ops.toList.take m,o.guard=none/\tI o.op=true:=by
    have:=O;simp only[pureTailB,cA,tA]at this;intro o ho;have:=this.1.2 o ho;exact⟨by simpa using this.1,this.2⟩
   have:=uu (P:=P) (id:=id) (Q:=fun x a w=>x= .normal/\Q .normal a w) (a:=a) (w:=w) (l:=ops.toList) m hm (by rw[<-D];exact O) (fun c a w q=>by cases q.1) (by
    rw[<-D];refine a8 a hE a6 _ fun a1 U a3=>?_;refine aF hC J (fun o ho=>S3 ho) hr U E.wr ?_;intro φ2 a2 w2 a5 W X I a4;exact⟨rfl,hp φ2 a2 w2 a5 W X (fun b B l hb u z D=>(I b B l hb u z D).trans (E.same b B l u z D)) (a4.trans a3)⟩)
   rw[<-D]at this;exact Code.wp_mono (fun x a w q=>by obtain⟨rfl,q⟩:=q;exact q) this
def SR{C:C4}(E:eg P base w0 C){o:Oper}{H:d7}{v:aa3}{r:Option d7}(h:aop P C o.op e H=some (v,r)):Le H (r.getD H):=by
 cases r with
 |none=>exact Le.refl _
 |some H2=>
  cases D:isCall o.op with
  |false=>exact pZ D h
  |true=>
   obtain⟨c,f,g,first,z,_,_,_,u⟩:=bh D h;exact(E _ _ _ _ _ u).2.1 _ rfl
def IG{C:C4}(I:eg P base w0 C){ops:Array Oper}:∀{l:List (Oper×Nat×Nat)}{t:Nat}{D:List (Nat×d7)}{u:List (Op×Env×aa3×Nat)}{e e':Env}{H H':d7},N6 P C ops t D u l e H=some (e',H')->Le H H':=by
 intro l;induction l with
 |nil=>intro t D u e e' H H' h;simp only[N6,ky,lE]at h;rw[h.2];exact Le.refl _
 |cons o l z=>
  obtain⟨o,lo,J⟩:=o;intro t D u e e' H H' h;simp only[N6]at h;split at h
  .cases h
  split at h
  .split at h
   .split at h
    .rename_i v r E;split at h
     .exact(SR I E).trans (z h)
     .cases h
    .cases h
   .split at h
    .split at h
     .split at h
      .exact z h
      .cases h
     .exact z h
    .cases h
  .split at h
   .exact z h
   .exact z h
def Ki{C:C4}(u:eg P base w0 C){ops:Array Oper}{e e':Env}{H H':d7}(h:cT P C ops e H=some (e',H')):Le H H':=by
 unfold cT at h;split at h
 .split at h
  .exact IG u h
  .cases h
 .exact NW u h
def zQ{C:C4}(J:P.follows .mixedOrders=true)(D:aV P C){ops:Array Oper}(u:js nt ops=true){Q:Exit->Act->World->Prop}{e e':Env}{H H':d7}(id:Nat)
  (h:cT P C ops e H=some (e',H')) (E:ER φ nt e a) (I:WR base w0 φ H.bs w) (O:li base w0 φ H w nt a.defers e' H' (Q .normal)):(Code.region id ops true).wp P Q a w:=by
 unfold cT at h;split at h
 .split at h
  next z=>exact HQ J D u z id h E I O
  .cases h
 .exact Cw J (D base w0) u id h E I O
def Le.kill(H:d7)(b:Nat):Le H (H.put b .dead):=Le.put _ _ _
def JO(ops:Array Oper):List Nat->Array Bool->Prop
 |[],listed=>Region.ready .any ops listed=[]
 |i::is,listed=>Region.ready .any ops listed=[i]/\JO ops is (listed.setIfInBounds i true)
def mr{ops:Array Oper}{Q:Exit->Act->World->Prop}:∀(is:List Nat)(i:Nat)(o:Oper)(z:List Oper)(u:Array Bool)(a:Act)(w:World),ops[i]?=some o->is.map (ops[·]?)=z.map some->JO ops is u->wpList P ops Q (o::z) a w->wpOp P ops Q i (wpAny P .any ops Q is.length u) a w
 |is,i,o,z,u,a,w,ho,hos,hc,h=>by
  have key:∀a w,wpList P ops Q z a w->wpAny P .any ops Q is.length u a w:=fun a w I=>by
   cases is with
   |nil=>
    cases z with
    |nil=>exact⟨hc,I⟩
    |cons J z=>simp at hos
   |cons j is=>
    cases z with
    |nil=>simp at hos
    |cons J z=>
     simp only[xC,UJ]at hos;refine⟨fun q=>(by rw[hc.1]at q;cases q),fun k E=>?_⟩;rw[hc.1,mj]at E;subst E;exact mr is k J z _ a w hos.1 hos.2 hc.2 I
  unfold wpOp;simp only[ho];unfold wpList at h;split
  next D=>rw[bJ D]at h;exact h.imp (Oper.wp_mono key) id
  next D=>rw[bt D]at h;exact key _ _ h
def P1{ops:Array Oper}{l:List Bool}{u:List Nat}(h:je ops l u=true):Region.ready .any ops l.toArray=u:=dT h
def Cj{C:C4}(hm:P.follows .mixedOrders=true)(hC:eg P base w0 C){D U W X:Oper}{ops:Array Oper}(E:ops.toList=[D,U,W,X])(hB:EN ops=true)(I:js nt ops=true){Q:Exit->Act->World->Prop}{e e1 e2:Env}{H H1 H2:d7}(id:Nat)
  (h1:E3 P C ops [D,U,W,X] e H=some (e1,H1)) (h2:E3 P C ops [D,W,U,X] e H=some (e2,H2)) (hE:ER φ nt e a) (hW:WR base w0 φ H.bs w)
  (b9:li base w0 φ H w nt a.defers e1 H1 (Q .normal)) (c0:li base w0 φ H w nt a.defers e2 H2 (Q .normal)):(Code.region id ops true).wp P Q a w:=by
 have c3:ops.size=4:=by have:=congrArg List.length E;simpa using this
 have g0:ops[0]?=some D:=by rw[<-CQ,E];rfl
 have g1:ops[1]?=some U:=by rw[<-CQ,E];rfl
 have g2:ops[2]?=some W:=by rw[<-CQ,E];rfl
 have g3:ops[3]?=some X:=by rw[<-CQ,E];rfl
 unfold EN at hB;rw[E]at hB;simp only[cA,eT]at hB;obtain⟨⟨⟨⟨⟨⟨⟨⟨⟨⟨k0,k1⟩,k2⟩,k3⟩,hg⟩,r0⟩,r1⟩,r2⟩,r3⟩,r4⟩,r5⟩:=hB;have m0:D∈ops.toList:=by rw[E];simp
 obtain⟨b0,a8⟩:=bQ I m0;have hc:isCall D.op=false:=by
  cases hq:D.op with
  |alloc t=>rfl
  |_=>rw[hq]at k0;cases k0
 have a5:Cls base w0 φ H.bs w {w with drawn:=w.drawn+1}:=hW.cls.drew;have b1:aQ ops e D=false:=by simp [aQ,hg]
 have b2:I1 ops e D=true:=by simp [I1,hg]
 refine aaW hm ?_;rw[c3];refine⟨fun q=>?_,fun i hi=>?_⟩
 .have:=P1 r0;rw[show(Array.replicate 4 false:Array Bool)=[false,false,false,false].toArray from rfl,this]at q;cases q
 rw[show(Array.replicate 4 false:Array Bool)=[false,false,false,false].toArray from rfl,P1 r0,mj]at hi;subst hi;rw[show((Array.replicate 4 false:Array Bool).setIfInBounds 0 true)=[true,false,false,false].toArray from rfl];simp only[E3,b1,b2,jd,bF]at h1 h2;have rest:∀(v:aa3)(Hx:d7)(v':aa3)(w':World)(φ':List Loc),Le H Hx->E3 P C ops [U,W,X] (N4 e D.dst v) Hx=some (e1,H1)->E3 P C ops [W,U,X] (N4 e D.dst v) Hx=some (e2,H2)->Ext φ φ'->VR φ' v v'->WR base w0 φ' Hx.bs w'->Fr φ H.bs Hx.low w w'->
   wpAny P .any ops Q 3 [true,false,false,false].toArray (a.put D.dst v') w':=by
  intro v Hx v' w' φ' b8 q1 q2 hx hv O a6;have a7:=(hE.mono hx).put a8 hv;have b6:(a.put D.dst v').defers=a.defers:=U3 _ _ _;have a4:∀{e3:Env}{H3:d7}{l:List Oper},E3 P C ops l (N4 e D.dst v) Hx=some (e3,H3)->li base w0 φ H w nt a.defers e3 H3 (Q .normal)->li base w0 φ' Hx w' nt (a.put D.dst v').defers e3 H3 (Q .normal):=by
   intro e3 H3 l hr hp φ2 a2 w2 c4 b4 b5 a9 b7;exact hp φ2 a2 w2 (hx.trans c4) b4 b5 (Fr.trans hx b8 (dm hC hr) hW.len a6 a9) (b7.trans b6)
  have L1:=aF hC I (Q:=Q) (l:=[U,W,X]) (fun o ho=>by rw[E];simp only[nd,Cy,Sa]at ho ⊢;exact .inr ho) q1 a7 O (a4 q1 b9);have L2:=aF hC I (Q:=Q) (l:=[W,U,X]) (fun o ho=>by rw[E];simp only[nd,Cy,Sa]at ho ⊢;rcases ho with h|h|h<;>simp [h]) q2 a7 O (a4 q2 c0);refine⟨fun q=>(by rw[P1 r1]at q;cases q),fun i hi=>?_⟩;rw[P1 r1]at hi;simp only[nd,Cy,Sa]at hi;rcases hi with rfl|rfl
  .exact mr [2,3] 1 U [W,X] _ _ _ g1 (by simp [g2,g3]) ⟨P1 r2,P1 r4,P1 r5⟩ L1
  .exact mr [1,3] 2 W [U,X] _ _ _ g2 (by simp [g1,g3]) ⟨P1 r3,P1 r4,P1 r5⟩ L2
 have b3:Region.wanted D (yielded ops a.tmps)=true:=by rw[<-hE.wanted ops D (aD I) b1];exact b2
 unfold wpOp;simp only[g0,b3,jd]
 left
 have a1:=a5.wr;cases J:aop P C D.op e H with
 |none=>rw[J]at h1;cases h1
 |some z=>
  obtain⟨v,r⟩:=z;rw[J]at h1 h2;cases r with
  |none=>
   obtain⟨v',hv,u⟩:=kM a1 hE b0 hc J;unfold Oper.wp;rw[u _ a1.cls,Mt];exact rest v H v' _ φ (Le.refl H) h1 h2 (Ext.refl φ) hv a1 (fun b B l _ hB hd E=>a5.same b B l hB hd E)
  |some H3=>
   obtain⟨v',w',φ',u,hx,hv,O,a6⟩:=yr a1 hE b0 hc J;have a3:Fr φ H.bs H3.low w w':=fun b B l hb hB hd E=>(a6 b B l hb hB hd E).trans (a5.same b B l hB hd E);unfold Oper.wp;rcases u with u|⟨u,rfl⟩
   .rw[u,Mt];exact rest v H3 v' w' φ' (pZ hc J) h1 h2 hx hv O a3
   .rw[u,aaS];exact rest v H3 undef w' φ' (pZ hc J) h1 h2 hx hv O a3
def Out.exit':Out->Exit
 | .normal=> .normal
 | .exit id=> .exit id
 | .ret=> .ret
def pO{a b:Code}{z:QK}(h:iL a b=some z):∃id ops u D E I,a= .region id ops true/\ops.toList=[u,D,E,I]/\EN ops=true/\z=⟨ops,[u,D,E,I],[u,E,D,I],ops.toList.filterMap (·.dst)++fV b⟩:=by
 unfold iL at h;split at h
 .rename_i id ops;split at h
  .rename_i u D E I O;split at h
   next J=>exact⟨id,ops,u,D,E,I,rfl,O,J,(oU h).symm⟩
   .cases h
  .cases h
 .cases h
def NS{a b:Code}{z:QK}(h:iL a b=some z):z.ds=fV a++fV b:=by
 obtain⟨id,ops,u,D,E,I,rfl,_,_,rfl⟩:=pO h;rfl
def ai{ds:List Nat}{n:Nat}{x y:Option (Out×Env×d7)}{o:Out}{e':Env}{H':d7}(h:sQ ds e n x y=some (o,e',H')):
  ∃z u D H2,x=some (.normal,z,u)/\y=some (.normal,D,H2)/\T5 n u=T5 n H2/\o= .normal/\e'=ds.map (fun d=>(d,lost))++e/\H'=T5 n u:=by
 unfold sQ at h;split at h
 .rename_i z u D H2;split at h
  next E=>simp only[ky,lE]at h;exact⟨z,u,D,H2,rfl,rfl,E,h.1.symm,h.2.1.symm,h.2.2.symm⟩
  .cases h
 .cases h
def nf(n:Nat)(H:d7):Le H (T5 n H):=(Le.kill H n).trans (Le.kill _ _)
def Nf{H:d7}(h:WR base w0 φ H.bs w)(n:Nat):WR base w0 φ (T5 n H).bs w:=(h.kill n).kill (n+1)
def Z7{e:Env}{d:Option Nat}{v:aa3}{t:Nat}(h:d≠some t):(N4 e d v).g t=e.g t:=by
 cases d with
 |none=>rfl
 |some d=>simp only[N4,Env.g];rw[bt (fun q=>h (by rw[q]))]
def mm{C:C4}{ops:Array Oper}{t:Nat}:∀{l:List Oper}{e e':Env}{H H':d7},(∀o∈l,o.dst≠some t)->E3 P C ops l e H=some (e',H')->e'.g t=e.g t:=by
 intro l;induction l with
 |nil=>intro e e' H H' _ h;cases h;rfl
 |cons o l D=>
  intro e e' H H' E h;have z:=E o sM;have u:∀o∈l,o.dst≠some t:=fun o I=>E o (by simp [I]);simp only[E3]at h;split at h
  .cases h
  split at h
  .split at h
   .rw[D u h,Z7 z]
   .rw[D u h,Z7 z]
   .cases h
  .rw[D u h,Z7 z]
def Bk{C:C4}{ops:Array Oper}{t:Nat}:∀{l:List Oper}{i:Nat}{q:Bool}{e e':Env}{H H':d7},(∀o∈l,o.dst≠some t)->N3 P C ops i q l e H=some (e',H')->e'.g t=e.g t:=by
 intro l;induction l with
 |nil=>
  intro i q e e' H H' _ h;simp only[N3]at h;split at h
  .cases h;rfl
  .cases h
 |cons o l E=>
  intro i q e e' H H' D h;have z:=D o sM;have u:∀o∈l,o.dst≠some t:=fun o I=>D o (by simp [I]);simp only[N3]at h;split at h
  .cases h
  split at h
  .split at h
   .rw[E u h,Z7 z]
   .split at h
    .rw[mm u h,Z7 z]
    .cases h
   .cases h
  .rw[E u h,Z7 z]
def DV{C:C4}{ops:Array Oper}{t:Nat}:∀{l:List (Oper×Nat×Nat)}{i:Nat}{I:List (Nat×d7)}{z:List (Op×Env×aa3×Nat)}{e e':Env}{H H':d7},(∀o∈l,o.1.dst≠some t)->N6 P C ops i I z l e H=some (e',H')->e'.g t=e.g t:=by
 intro l;induction l with
 |nil=>intro i I z e e' H H' _ h;simp only[N6,ky,lE]at h;rw[h.1]
 |cons o l E=>
  obtain⟨o,lo,O⟩:=o;intro i I z e e' H H' J h;have D:o.dst≠some t:=J (o,lo,O) sM;have u:∀o∈l,o.1.dst≠some t:=fun o U=>J o (by simp [U]);simp only[N6]at h;split at h
  .cases h
  split at h
  .split at h
   .split at h
    .split at h
     .rw[E u h,Z7 D]
     .cases h
    .cases h
   .split at h
    .split at h
     .split at h
      .rw[E u h,Z7 D]
      .cases h
     .rw[E u h,Z7 D]
    .cases h
  .split at h
   .rw[E u h,Z7 D]
   .rw[E u h,Z7 D]
def GJ{C:C4}{ops:Array Oper}{t:Nat}{e e':Env}{H H':d7}(u:∀o∈ops.toList,o.dst≠some t) (h:cT P C ops e H=some (e',H')):e'.g t=e.g t:=by
 unfold cT at h;split at h
 .split at h
  .refine DV (fun o z=>?_) h;obtain⟨q,D,rfl⟩:=wC.1 z;exact u q.1 (List.fst_mem_of_mem_zipIdx D)
  .cases h
 .exact Bk u h
def rR{α:Type}(v:aa3):∀(ds:List Nat)(e:Env)(t:Nat),Env.g (ds.map (fun d=>(d,v))++e) t=if t∈ds then v else e.g t
 |[],e,t=>by simp
 |d::ds,e,t=>by
  simp only[xC,vG,Env.g,rR (α:=α) v ds e t,nd];by_cases h:d=t
  .subst h;simp
  .rw[bt h];have:¬t=d:=fun q=>h q.symm;simp [this]
def Kn{C:C4}{t:Nat}:∀{k:Nat}{c:Code}{e e':Env}{H H':d7}{o:Out},t∉fV c->P9 P C k c e H=some (o,e',H')->e'.g t=e.g t:=by
 intro k;induction k with
 |zero=>intro c e e' H H' o _ h;cases h
 |succ k E=>
  intro c e e' H H' o u h;cases c<;>simp only[P9]at h
  case skip=>cases h;rfl
  case ret=>cases h;rfl
  case exit=>cases h;rfl
  case region id ops I=>
   have D:∀o∈ops.toList,o.dst≠some t:=fun o W q=>u (ZZ.2 ⟨o,W,q⟩);cases I
   .simp only[bF]at h;split at h
    next O=>cases h;exact mm D O
    .cases h
   .simp only[jd]at h;split at h
    next O=>cases h;exact GJ D O
    .cases h
  case seq x y=>
   simp only[fV,gd,aaz]at u;split at h
   .rename_i z X;split at h
    .obtain⟨e3,H3,e4,H4,q1,q2,q3,rfl,rfl,rfl⟩:=ai h;rw[rR (α:=Nat),bt];rw[NS X];exact fun q=>(gd.1 q).elim u.1 u.2
    .cases h
   .split at h
    next U H2 J=>rw[E u.2 h,E u.1 J]
    .exact E u.1 h
  case cond x y z=>
   simp only[fV,gd,aaz]at u;split at h
   .rename_i b _;cases b
    .exact E u.2 h
    .exact E u.1 h
   .cases h
  case block id x=>
   simp only[fV]at u;split at h
   next i U H2 J=>split at h<;>(cases h;exact E u J)
   .exact E u h
  case loop x=>
   have D:t∉fV x:=u;split at h
   next U H2 J=>rw[E (c:= .loop x) u h,E D J]
   .exact E D h
  case scope x=>exact E (c:=x) u h
  all_goals cases h
def T9{C:C4}(J:eg P base w0 C):∀{k:Nat}{c:Code}{e e':Env}{H H':d7}{o:Out},P9 P C k c e H=some (o,e',H')->Le H H':=by
 intro k;induction k with
 |zero=>intro c e e' H H' o h;cases h
 |succ k u=>
  intro c e e' H H' o h;cases c<;>simp only[P9]at h
  case skip=>cases h;exact Le.refl _
  case ret=>cases h;exact Le.refl _
  case exit=>cases h;exact Le.refl _
  case region id ops D=>
   cases D
   .simp only[bF]at h;split at h
    next O=>cases h;exact dm J O
    .cases h
   .simp only[jd]at h;split at h
    next O=>cases h;exact Ki J O
    .cases h
  case seq x y=>
   split at h
   .split at h
    next z hz _ e1 H1 I H2 U W=>obtain⟨e3,H3,e4,H4,X,q2,q3,rfl,rfl,rfl⟩:=ai h;exact(dm J U).trans ((u X).trans (nf _ _))
    .cases h
   .split at h
    next I H2 E=>exact(u E).trans (u h)
    .exact u h
  case cond x y z=>
   split at h
   .exact u h
   .cases h
  case block id x=>
   split at h
   next i I H2 E=>split at h<;>(cases h;exact u E)
   .exact u h
  case loop x=>
   split at h
   next I H2 E=>exact(u E).trans (u h)
   .exact u h
  case scope x=>exact u h
  all_goals cases h
def xf(r:Option Nat):Fence:={Fence.wide with round:=r}
def Fs{o:Oper}{l n:Nat}{K:Act->World->Prop}{Q:Exit->Act->World->Prop}{a:Act}{w:World}(u:ny o.op=true)(h:o.wp P a w K Q):o.wpIn (xf (some l)) n P a w K Q:=by
 refine⟨fun _ _=>trivial,?_⟩;rw[Oper.semAt_plain _ _ _ (fun c E=>by rw[E]at u;cases u)];unfold Oper.wp at h;generalize (execOp a.eval o).run P w=r at h;cases r with
 |ok x J=>
  cases x<;>simp only[Oper.upon,Oper.uponIn]at h ⊢ <;>first|exact h|skip
  .exact⟨fun q=>(by cases q),(CallsIn.inRound l (callsIn_wide.2 h)).mono fun e w2 I=>by cases e<;>exact I⟩
  .refine⟨fun q=>(by cases q),fun c cs _=>?_⟩;obtain⟨v,w2,z,D⟩:=h c cs;exact⟨v,w2,z,stepsIn_wide.2 D⟩
 |halt x J=>cases x<;>simp only[Oper.upon,Oper.uponIn]at h ⊢ <;>exact h
def pG{ops:Array Oper}{l n:Nat}{Q:Exit->Act->World->Prop}(D:¬LetsOut Q):∀{z:List Oper}{a:Act}{w:World},(∀o∈z,ny o.op=true)->wpList P ops Q z a w->wpListIn (xf (some l)) n P ops Q z a w
 |[],a,w,_,h=>h
 |o::z,a,w,hd,h=>by
  unfold wpList at h;unfold wpListIn;have u:∀o∈z,ny o.op=true:=fun o I=>hd o (by simp [I]);split
  .rename_i E;rw[bJ E]at h;rcases h with h|h
   .exact Oper.wpIn_mono (fun a w q=>pG D u q) (Fs (hd o sM) h)
   .exact absurd h.2 D
  next E=>rw[bt E]at h;exact⟨fun _ _=>trivial,pG D u h⟩
def oE{ops:Array Oper}{l n:Nat}{Q:Exit->Act->World->Prop}(E:¬LetsOut Q)(D:∀o∈ops.toList,ny o.op=true):∀(u:Nat)(z:Array Bool)(a:Act)(w:World),wpAny P .any ops Q u z a w->wpAnyIn (xf (some l)) n P .any ops Q u z a w
 |0,_,_,_,h=>h
 |u+1,z,a,w,h=>by
  refine⟨h.1,fun i O=>?_⟩;have:=h.2 i O;unfold wpOp at this;unfold wpOpIn;cases I:ops[i]? with
  |none=>rw[I]at this;exact oE E D u _ _ _ this
  |some o=>
   rw[I]at this;simp only at this ⊢;split
   .rename_i J;rw[bJ J]at this;rcases this with h|h
    .exact Oper.wpIn_mono (fun a w q=>oE E D u _ _ _ q) (Fs (D o (Array.mem_toList_iff.2 (Array.mem_of_getElem? I))) h)
    .exact absurd h.2 E
   next J=>rw[bt J]at this;exact⟨fun _ _=>trivial,oE E D u _ _ _ this⟩
def pR{C:C4}(hm:P.follows .mixedOrders=true)(hC:aV P C){r:Option Nat}{n:Nat}:∀{k:Nat}{c:Code}{φ:List Loc}{e e':Env}{H H':d7}{o:Out}{a:Act}{w:World}{Q:Exit->Act->World->Prop},
  (r.isSome=true->I8 c=true)->N2 nt c=true->P9 P C k c e H=some (o,e',H')->ER φ nt e a->WR base w0 φ H.bs w->li base w0 φ H w nt a.defers e' H' (Q o.exit')->c.wpIn (xf r) n P Q a w/\∀x,c= .loop x->Code.roundsIn (xf r) n P x Q k a w:=by
 intro k;induction k with
 |zero=>intro c φ e e' H H' o a w Q a1 u h;cases h
 |succ k d1=>
  intro c φ e e' H H' o a w Q a1 u h W hW U;have ih:=fun{c φ e e' H H' o a w Q}(h0:r.isSome=true->I8 c=true)(h1:N2 nt c=true) h2(h3:ER φ nt e a)(h4:WR base w0 φ H.bs w) h5=>(d1 (c:=c) (e:=e) (e':=e') (H:=H) (H':=H') (o:=o) (Q:=Q) h0 h1 h2 h3 h4 h5).1;by_cases a7:∃x,c= .loop x
  .obtain⟨x,rfl⟩:=a7;have c8:=u;simp only[N2]at u;simp only[P9]at h;have b4:r.isSome=true->I8 x=true:=a1;have a6:Code.roundsIn (xf r) n P x Q (k+1) a w:=by
    rw[roundsIn_succ];split at h
    next e2 H2 h1=>refine ih b4 u h1 W hW ?_;intro φ' a' w' O E I D hd;refine(d1 (c:= .loop x) (Q:=Q) a1 c8 h E I ?_).2 x rfl;intro φ2 a2 w2 a5 X a3 J a4;exact U φ2 a2 w2 (O.trans a5) X a3 (Fr.trans O (T9 (hC base w0) h1) (T9 (hC base w0) h) hW.len D J) (a4.trans hd)
    .rename_i a9;refine ih b4 u h W hW ?_;intro φ' a' w' O E I D hd;have:=U φ' a' w' O E I D hd;cases o with
     |normal=>exact absurd h (a9 e' H')
     |exit id=>exact this
     |ret=>exact this
   exact⟨wpIn_loop_rounds (k+1) a6,fun y hy=>by cases hy;exact a6⟩
  refine⟨?_,fun x O=>absurd ⟨x,O⟩ a7⟩;have b0:∀{o:Out}{e:Env},li base w0 φ H w nt a.defers e H (Q o.exit')->ER φ nt e a->Q o.exit' a w:=fun U W=>U φ a w (Ext.refl φ) W hW (mW H) rfl;have b1:∀{H2:d7}{φ':List Loc}{a':Act}{w':World}{K:Act->World->Prop},Le H H2->Le H2 H'->Ext φ φ'->Fr φ H.bs H2.low w w'->a'.defers=a.defers->li base w0 φ H w nt a.defers e' H' K->li base w0 φ' H2 w' nt a'.defers e' H' K:=by
   intro H2 φ' a' w' K d6 e7 O D hd U φ2 a2 w2 a5 X a3 J a4;exact U φ2 a2 w2 (O.trans a5) X a3 (Fr.trans O d6 e7 hW.len D J) (a4.trans hd)
  cases c<;>simp only[P9]at h
  case skip=>cases h;exact wpIn_skip (b0 (o:= .normal) U W)
  case ret=>cases h;exact wpIn_ret (b0 (o:= .ret) U W)
  case exit id=>cases h;exact wpIn_exit (b0 (o:= .exit id) U W)
  case region id ops b3=>
   simp only[N2]at u;cases r with
   |none=>
    refine ZF.2 ?_;cases b3
    .simp only[bF]at h;split at h
     next hr=>cases h;exact wp_region_list (aF (hC base w0) u (fun o ho=>ho) hr W hW U)
     .cases h
    .simp only[jd]at h;split at h
     next hr=>cases h;exact zQ hm hC u id hr W hW U
     .cases h
   |some l=>
    have b2:=a1 rfl;simp only[I8,cA,tA]at b2;refine Code.wpIn_mono (Q:=fun x a w=>x= .normal/\Q .normal a w) (fun x a w q=>by obtain⟨rfl,q⟩:=q;exact q) ?_;have c7:¬LetsOut (fun x(a:Act) w=>x=Exit.normal/\Q .normal a w):=fun⟨_,_,q⟩=>by cases q.1
    cases b3
    .simp only[bF]at h;split at h
     next hr=>cases h;exact wpIn_region_list (pG c7 b2.1 (aF (hC base w0) u (fun o ho=>ho) hr W hW fun φ2 a2 w2 a5 X a3 J a4=>⟨rfl,U φ2 a2 w2 a5 X a3 J a4⟩))
     .cases h
    .simp only[jd]at h;have a8:=b2.2;simp only[G3,za,cA]at a8;split at h
     next hr=>cases h;unfold cT at hr;rw[bJ a8.1,bJ a8.2]at hr;exact wpIn_region_any hm (oE c7 b2.1 _ _ _ _ (Fm hC u a8.2 hr W hW fun φ2 a2 w2 a5 X a3 J a4=>⟨rfl,U φ2 a2 w2 a5 X a3 J a4⟩))
     .cases h
  case seq x y=>
   simp only[N2,cA]at u;split at h
   .rename_i z hz;have b8:r=none:=by
     cases r with
     |none=>rfl
     |some l=>
      have:=a1 rfl;simp only[I8,hz,Option.isNone_some,Bi]at this;cases this
    subst b8;refine ZF.2 (wp_seq ?_);obtain⟨id,ops,o0,o1,o2,o3,rfl,hl,hB,rfl⟩:=pO hz;split at h
    .rename_i e1 H1 e2 H2 b6 b7;obtain⟨e3,H3,e4,H4,q1,q2,q3,rfl,rfl,rfl⟩:=ai h;have l1:=dm (hC base w0) b6;have l2:=dm (hC base w0) b7;have b9:∀{e5 e6:Env}{H5 H6:d7}{l:List Oper},(∀o∈l,o∈ops.toList)->Le H H5->Le H5 (T5 H.n H3)->(∀t,t∉ops.toList.filterMap (·.dst)->e5.g t=e.g t)->P9 P C k y e5 H5=some (.normal,e6,H6)->T5 H.n H3=T5 H.n H6->li base w0 φ H w nt a.defers e5 H5 (fun a' w'=>y.wp P Q a' w'):=by
      intro e5 e6 H5 H6 l c6 e8 c5 c4 O hk φ' a' w' d0 E I D hd;refine ZF.1 (ih (fun h=>by cases h) u.2 O E I ?_);intro φ2 a2 w2 a5 X a3 J a4;refine U φ2 a2 w2 (d0.trans a5) ⟨X.size,fun t=>?_⟩ (by rw[hk];exact Nf a3 _) ?_ (a4.trans hd)
      .rw[rR (α:=Nat)];by_cases ht:t∈ops.toList.filterMap (·.dst)++fV y
       .rw[bJ ht];exact .lost _
       .rw[bt ht];simp only[gd,aaz]at ht;rw[<-c4 t ht.1,<-Kn ht.2 O];exact X.val t
      .rw[hk];have c3:Fr φ' H5.bs (T5 H.n H6).low w' w2:=fun b B l hb d3 d4 d5=>J b B l (sW hb (nf H.n H6).low) d3 d4 d5;exact Fr.trans d0 e8 (by rw[<-hk];exact c5) hW.len D c3
     have c0:∀{l:List Oper}{e5:Env}{H5:d7},(∀o∈l,o∈ops.toList)->E3 P C ops l e H=some (e5,H5)->∀t,t∉ops.toList.filterMap (·.dst)->e5.g t=e.g t:=fun c6 hr t ht=>mm (fun o ho q=>ht (ZZ.2 ⟨o,c6 o ho,q⟩)) hr;have m1:∀o∈ [o0,o1,o2,o3],o∈ops.toList:=fun o ho=>by rw[hl];exact ho
     have m2:∀o∈ [o0,o2,o1,o3],o∈ops.toList:=fun o ho=>by rw[hl];simp only[nd,Cy,Sa]at ho ⊢;rcases ho with h|h|h|h<;>simp [h]
     have c9:js nt ops=true:=u.1;refine Cj hm (hC base w0) hl hB c9 id b6 b7 W hW (b9 m1 l1 ((T9 (hC base w0) q1).trans (nf _ _)) (c0 m1 b6) q1 rfl) (b9 m2 l2 (by rw[q3];exact(T9 (hC base w0) q2).trans (nf _ _)) (c0 m2 b7) q2 q3)
    .cases h
   .rename_i hz;have d2:r.isSome=true->I8 x=true:=fun q=>by have:=a1 q;simp only[I8,cA]at this;exact this.1.2
    have e9:r.isSome=true->I8 y=true:=fun q=>by have:=a1 q;simp only[I8,cA]at this;exact this.2
    refine wpIn_seq ?_;split at h
    next e2 H2 h1=>refine ih d2 u.1 h1 W hW ?_;intro φ' a' w' O E I D hd;exact ih e9 u.2 h E I (b1 (T9 (hC base w0) h1) (T9 (hC base w0) h) O D hd U)
    .rename_i a9;refine ih d2 u.1 h W hW ?_;intro φ' a' w' O E I D hd;have:=U φ' a' w' O E I D hd;cases o with
     |normal=>exact absurd h (a9 e' H')
     |exit id=>exact this
     |ret=>exact this
  case cond x y z=>
   simp only[N2,cA]at u;split at h
   .rename_i t ht;have hv:=W.op u.1.1;rw[ht]at hv;generalize hz:a.eval x=zz at hv;cases hv;have ro:r.isSome=true->I8 y=true/\I8 z=true:=fun q=>by have:=a1 q;simpa only[I8,cA] using this
    refine wpIn_cond hz ?_;cases t
    .exact ih (fun q=>(ro q).2) u.2 h W hW U
    .exact ih (fun q=>(ro q).1) u.1.2 h W hW U
   .cases h
  case block id x=>
   simp only[N2]at u;have ro:r.isSome=true->I8 x=true:=a1;refine wpIn_block ?_;split at h
   .rename_i i e2 H2 h1;split at h
    next b5=>cases h;refine ih ro u h1 W hW ?_;intro φ' a' w' O E I D hd;have:=U φ' a' w' O E I D hd;simp only[Out.exit',Exit.inBlock,bJ b5];exact this
    next b5=>cases h;refine ih ro u h1 W hW ?_;intro φ' a' w' O E I D hd;have:=U φ' a' w' O E I D hd;simp only[Out.exit',Exit.inBlock,bt b5];exact this
   .rename_i a9;refine ih ro u h W hW ?_;intro φ' a' w' O E I D hd;have:=U φ' a' w' O E I D hd;cases o with
    |exit id=>exact absurd h (a9 id e' H')
    |normal=>exact this
    |ret=>exact this
  case loop x=>exact absurd ⟨x,rfl⟩ a7
  case scope x=>
   simp only[N2]at u;have b8:r=none:=by
    cases r with
    |none=>rfl
    |some l=>have:=a1 rfl;simp only[I8]at this;cases this
   subst b8;refine ZF.2 (wp_scope_straight (ZF.1 (ih (fun h=>by cases h) u h W hW ?_)));intro φ' a' w' O E I D hd;have:=U φ' a' w' O E I D hd;cases o<;>exact this
  all_goals cases h
def iO{C:C4}(I:P.follows .mixedOrders=true)(z:aV P C){k:Nat}{c:Code}{e e':Env}{H H':d7}{o:Out}{Q:Exit->Act->World->Prop}
  (u:N2 nt c=true) (h:P9 P C k c e H=some (o,e',H')) (D:ER φ nt e a) (E:WR base w0 φ H.bs w) (J:li base w0 φ H w nt a.defers e' H' (Q o.exit')):c.wp P Q a w:=
 ZF.1 (pR (r:=none) (n:=0) I z (fun h=>by cases h) u h D E J).1
def lU{C:C4}(I:P.follows .mixedOrders=true)(z:aV P C)(l n:Nat){k:Nat}{c:Code}{e e':Env}{H H':d7}{o:Out}{Q:Exit->Act->World->Prop}
  (O:I8 c=true) (u:N2 nt c=true) (h:P9 P C k c e H=some (o,e',H')) (D:ER φ nt e a) (E:WR base w0 φ H.bs w) (J:li base w0 φ H w nt a.defers e' H' (Q o.exit')):c.wpIn (Fence.wide.inRound l) n P Q a w:=
 (pR (r:=some l) I z (fun _=>O) u h D E J).1
def vI:∀(u:LV)(i t:Nat),(N1 i u).g t=if i<=t then(u[t-i]?).getD undef else undef
 |[],i,t=>by simp [N1,Env.g]
 |v::u,i,t=>by
  simp only[N1,Env.g];by_cases h:i=t
  .subst h;simp
  .rw[bt h,vI u (i+1) t];by_cases z:i<=t
   .rw[bJ z,bJ oM,show t-i=(t-(i+1))+1 from oM];simp
   .rw[bt z,bt oM]
def zV{args u:LV}(z:VRs φ args u)(J:args.length<=nt):ER φ nt (N1 0 args) {tmps:=u.toArray++Array.replicate (nt-u.toArray.size) undef,defers:=[]}:=by
 refine⟨by have:=z.1;simp;omega,fun t=>?_⟩;rw[vI];simp only[wi,jd,ZU,ef];by_cases h:t<args.length
 .obtain⟨y,I,E⟩:=z.g (i:=t) (x:=args[t]) (by simp [h]);have D:t<u.length:=by rw[<-z.1];exact h
  rw[Array.getElem?_append_left (by simpa using D)];simp only[L6,I,zB,gI h];exact E
 .rw[yB oM];rw[Array.getElem?_append_right (by have:=z.1;simp;omega)];simp only[Option.getD_none,EH];split<;>exact VR.undef' φ
def Bg(tmps:Array aa3):ResultVar->Sem aa3
 | .tmp t=>pure (tmps.getD t undef)
 | .cell x t=>do loadVar t (<-asAddr (tmps.getD x undef))
def DP(z:Func)(tmps:Array aa3):results z tmps=(z.results.mapM (Bg tmps))>>=fun u=>pure (if h:u.size=1 then u[0] else .tuple u):=by
 unfold results
 congr 1
def Bp{H:d7}(hW:WR base w0 φ H.bs w)(hE:ER φ nt e a):∀{I:List ResultVar}{U:LV},I.mapM (P2 P e H)=some U->
  ∃D,VRs φ U D/\(I.mapM (Bg a.tmps)).run P w= .ok D w:=by
 intro I;induction I with
 |nil=>intro U h;simp at h;subst h;exact⟨[],.nil φ,rfl⟩
 |cons r I ih=>
  intro U h;simp only[KW,ZP,aaG]at h;cases u:P2 P e H r with
  |none=>simp [u]at h
  |some v=>
   cases E:I.mapM (P2 P e H)with
   |none=>simp [u,E]at h
   |some a1=>
    simp [u,E]at h;subst h;obtain⟨D,hv,O⟩:=ih E;have J:∃v',VR φ v v'/\(Bg a.tmps r).run P w= .ok v' w:=by
     cases r with
     |tmp t=>simp only[P2,ky]at u;subst u;exact⟨_,hE.val t,rfl⟩
     |cell x t=>
      simp only[P2]at u;obtain⟨v',W,X⟩:=AI (P:=P) hW u (hE.val x);refine⟨v',W,?_⟩;have h3:=X w hW.cls;have hx:=hE.val x;unfold ld at u;split at u
      next b o hg=>rw[hg]at hx;simp only[Bg];generalize a.tmps.getD x undef=z at hx h3 ⊢;cases hx;simp only[Instr.loadAt,Instr.sureAddr,kE,lF,dz]at h3;simp only[asAddr,kE,lF,dz];exact h3
      .cases u
    obtain⟨v',W,X⟩:=J;refine⟨v'::D,.cons W hv,?_⟩;rw[KW,kE,X,dz,kE,O,dz];rfl
def qi{E:Func}{H:d7}(X:WR base w0 φ H.bs w)(W:ER φ nt e a){O:LV}(h:E.results.toList.mapM (P2 P e H)=some O):
  ∃v',VR φ (dV O) v'/\(results E a.tmps).run P w= .ok v' w:=by
 obtain⟨u,J,D⟩:=Bp X W h;have hr:(E.results.mapM (Bg a.tmps)).run P w= .ok u.toArray w:=by
  rw[Array.mapM_eq_mapM_toList,Sem.run_map,D];rfl
 refine⟨dV u,?_,?_⟩
 .unfold dV;split
  .obtain⟨y,ys,rfl,I,U⟩:=J.of_cons;rw[U.of_nil];exact I
  .rename_i z;split
   .rename_i v'
    exfalso
    have:=J.1;cases O with
    |nil=>simp at this
    |cons x xs=>cases xs with
     |nil=>exact z x rfl
     |cons _ _=>simp at this
   .exact VR.toTuple J
 .rw[DP,kE,hr,dz];split
  next I=>obtain⟨v,rfl⟩:=Bj.1 (by simpa using I:u.length=1);rfl
  .rename_i z;have:dV u= .tuple u.toArray:=by
    unfold dV;split
    .exact absurd rfl z
    .rfl
   rw[this];rfl
def WR.back{φ':List Loc}{X:List Blk}{O:World}{E:Nat}(h:WR base w0 φ S w)(W:WR base w0 φ' X O)(U:Fr φ S E w O)(D:S.length<=E):Cls base w0 φ S w O:=by
 have u:∀(b:Nat) B l,S[b]?=some B->B≠ .dead->φ[b]?=some l->O.heap[l.blk]?=w.heap[l.blk]?:=fun b B l z I J=>
  U b B l (sW (gS z).1 D) z I J
 refine⟨⟨h.len,W.below,W.size,fun b B l z J=>?_,h.sep⟩,u⟩;by_cases I:B= .dead
 .subst I;trivial
 .exact(h.blk b B l z J).mono (Ext.refl φ) (u b B l z I J)
def OJ(g:FuncId)(f:LV->d7->Option (aa3×Option d7)):C4:=fun g' args H=>if g'=g then f args H else none
def vg(P:Program)(X:Lib):Prop:=∀g f,X g=some f->aV P (OJ g f)
def NN(hm:P.follows .mixedOrders=true){X:Lib}(hX:vg P X):∀k,aV P (call P X k):=by
 intro k;induction k with
 |zero=>intro base w0 g args H v r h;cases h
 |succ k ih=>
  intro base w0 g args H v r h;simp only[call]at h;split at h
  next f hf=>exact hX g f hf base w0 g args H v r (by simp only[OJ,bJ];exact h)
  .rename_i a9;unfold body at h;split at h
   rotate_left
   .cases h
   rename_i c nt rs z;unfold fnA at z;split at z
   rotate_left
   .cases z
   rename_i fn U;split at z
   rotate_left
   .cases z
   rename_i c' J;split at z
   rotate_left
   .cases z
   rename_i D;cases z;simp only[cA,bne_iff_ne,ne_eq]at D;split at h
   rotate_left
   .cases h
   rename_i a5;have a2:gu P g:=⟨fn,U,by simpa using D.2,by rw[J];rfl⟩
   split at h
   .cases h
   .rename_i o e' H' a7 a3;split at h
    rotate_left
    .cases h
    rename_i vs a8;have a4:=T9 (ih base w0) a3;unfold F7 at h;have a1:∀(φ:List Loc)(w:World)(u:LV),VRs φ args u->WR base w0 φ H.bs w->Calls P g u.toArray w fun en w'=>∃v' I,en= .returned v'/\Ext φ I/\VR I (dV vs) v'/\WR base w0 I H'.bs w'/\Fr φ H.bs H'.low w w':=by
     intro φ w u ha hW;refine calls_of_wp U J ?_;refine iO (H:=⟨H.bs,H.bs.length⟩) hm ih D.1 a3 (zV ha a5) hW ?_;intro I a' w' hx hE E O hd;obtain⟨v',hv,a6⟩:=qi E hE a8;have:bodyPost P fn (fun en w'=>∃v' I,en= .returned v'/\Ext φ I/\VR I (dV vs) v'/\WR base w0 I H'.bs w'/\Fr φ H.bs H'.low w w') .normal a' w':=⟨hd,v',a6,v',I,rfl,hx,hv,E,O⟩
     cases o with
     |normal=>exact this
     |ret=>exact this
     |exit id=>exact(a7 id rfl).elim
    split at h
    next W=>simp only[ky,lE]at h;obtain⟨rfl,rfl⟩:=h;simp only[cA,eT]at W;refine⟨a2,fun H' h=>(by cases h),fun _=>W.1,fun φ w u ha hW=>(a1 φ w u ha hW).mono fun en w' hq=>?_⟩;obtain⟨v',I,rfl,hx,hv,E,O⟩:=hq;exact⟨by rw[hv.eq_na W.1],hW.back E O W.2⟩
    .simp only[ky,lE]at h;obtain⟨rfl,rfl⟩:=h;refine⟨a2,fun H2 h2=>?_,fun h=>(by cases h),fun φ w u ha hW=>(a1 φ w u ha hW).mono fun en w' hq=>?_⟩
     .cases h2;exact⟨QT _ _,a4.len,fun b hb hl=>a4.same b (sW hb (HH _ _)) hl⟩
     .obtain⟨v',I,h1,hx,hv,E,O⟩:=hq;exact⟨v',I,h1,hx,hv,E,fun b B l hb=>O b B l (sW hb (HH _ _))⟩
   .cases h
end
def LeO{α:Type}(x y:Option α):Prop:=∀r,x=some r->y=some r
def LeC(C D:C4):Prop:=∀f args H,LeO (C f args H) (D f args H)
def LeO.refl{α:Type}(x:Option α):LeO x x:=fun _ h=>h
section
variable{P:Program}
def Cb{C D:C4}(h:LeC C D)(e:Env)(c:Call)(H:d7):LeO (jD P C e c H) (jD P D e c H):=by
 intro r z;unfold jD at z ⊢;split
 next b E=>rw[E]at z;exact z
 .rename_i f O;rw[O]at z;simp only at z ⊢;split
  next g first u I=>rw[I]at z;exact h _ _ _ _ z
  .rename_i J;split at z
   next g first u I=>exact absurd I (J _ _ _)
   .exact z
 next E=>rw[E]at z;exact z
def aP{C D:C4}(h:LeC C D)(o:Op)(e:Env)(H:d7):LeO (aop P C o e H) (aop P D o e H):=by
 intro r z;by_cases u:∃c,o= .call c
 .obtain⟨c,rfl⟩:=u;exact Cb h e c H r z
 .rw[<-z];cases o<;>first|rfl|(exact absurd ⟨_,rfl⟩ u)|(rename_i x;cases x<;>rfl)
def W8{C D:C4}(h:LeC C D){ops:Array Oper}:∀(l:List Oper)(e:Env)(H:d7),LeO (E3 P C ops l e H) (E3 P D ops l e H):=by
 intro l;induction l with
 |nil=>intro e H r u;exact u
 |cons o l J=>
  intro e H r u;simp only[E3]at u ⊢;by_cases z:aQ ops e o=true
  .rw[bJ z]at u;cases u
  simp only[bt z]at u ⊢;split
  .rename_i I;rw[bJ I]at u;cases E:aop P C o.op e H with
   |none=>simp [E]at u
   |some q=>
    rw[aP h _ _ _ _ E];rw[E]at u;obtain⟨v,q⟩:=q;cases q with
    |none=>exact J _ _ _ u
    |some H'=>exact J _ _ _ u
  next I=>rw[bt I]at u;exact J _ _ _ u
def nR{C D:C4}(h:LeC C D){ops:Array Oper}:∀(l:List Oper)(i:Nat)(q:Bool)(e:Env)(H:d7),LeO (N3 P C ops i q l e H) (N3 P D ops i q l e H):=by
 intro l;induction l with
 |nil=>intro i q e H r u;exact u
 |cons o l O=>
  intro i q e H r u;simp only[N3]at u ⊢;by_cases z:aQ ops e o=true
  .rw[bJ z]at u;cases u
  simp only[bt z]at u ⊢;split
  .rename_i J;rw[bJ J]at u;cases I:aop P C o.op e H with
   |none=>simp [I]at u
   |some x=>
    rw[aP h _ _ _ _ I];rw[I]at u;obtain⟨v,x⟩:=x;cases x with
    |none=>exact O _ _ _ _ _ u
    |some H'=>
     simp only at u ⊢;split
     next E=>rw[bJ E]at u;exact W8 h _ _ _ _ u
     next E=>rw[bt E]at u;exact u
  next J=>rw[bt J]at u;exact O _ _ _ _ _ u
def qn{C D:C4}(h:LeC C D){ops:Array Oper}:∀(l:List (Oper×Nat×Nat))(t:Nat)(O:List (Nat×d7))(z:List (Op×Env×aa3×Nat))(e:Env)(H:d7),LeO (N6 P C ops t O z l e H) (N6 P D ops t O z l e H):=by
 intro l;induction l with
 |nil=>intro t O z e H r u;exact u
 |cons o l J=>
  obtain⟨o,lo,hi⟩:=o;intro t O z e H r u;simp only[N6]at u ⊢;by_cases I:aQ ops e o=true
  .rw[bJ I]at u;cases u
  simp only[bt I]at u ⊢;split
  .rename_i hw;rw[bJ hw]at u;split
   .rename_i E;rw[bJ E]at u;cases W:aop P C o.op e H with
    |none=>simp [W]at u
    |some x=>
     rw[aP h _ _ _ _ W];rw[W]at u;obtain⟨v,x⟩:=x;simp only at u ⊢;split
     next S=>rw[bJ S]at u;exact J _ _ _ _ _ _ u
     next S=>rw[bt S]at u;exact u
   .rename_i E;rw[bt E]at u;split at u
    .rename_i v hv;split at u
     .rename_i U;rw[bJ U];split at u
      next hc=>rw[bJ hc];exact J _ _ _ _ _ _ u
      .cases u
     next U=>rw[bt U];exact J _ _ _ _ _ _ u
    .cases u
  .rename_i hw;rw[bt hw]at u;split
   next E=>rw[bJ E]at u;exact J _ _ _ _ _ _ u
   next E=>rw[bt E]at u;exact J _ _ _ _ _ _ u
def Cv{C D:C4}(h:LeC C D){ops:Array Oper}(e:Env)(H:d7):LeO (cT P C ops e H) (cT P D ops e H):=by
 intro r u;unfold cT at u ⊢;split
 .rename_i z;rw[bJ z]at u;split
  next E=>rw[bJ E]at u;exact qn h _ _ _ _ _ _ _ u
  next E=>rw[bt E]at u;exact u
 next z=>rw[bt z]at u;exact nR h _ _ _ _ _ _ u
def jR{ds:List Nat}{e u z:Env}{n:Nat}{h H2:d7}{x y:Option (Out×Env×d7)}(E:x=some (.normal,u,h))(I:y=some (.normal,z,H2))(D:T5 n h=T5 n H2):
  sQ ds e n x y=some (.normal,ds.map (fun d=>(d,lost))++e,T5 n h):=by
 subst E I;exact bJ D
def cZ{C D:C4}(h:LeC C D):∀(k J:Nat),k<=J->∀(c:Code)(e:Env)(H:d7),LeO (P9 P C k c e H) (P9 P D J c e H):=by
 intro k;induction k with
 |zero=>intro J _ c e H r u;cases u
 |succ k ih=>
  intro J hk c e H r u;obtain⟨J,rfl⟩:∃m,J=m+1:=⟨J-1,oM⟩
  have I:=fun c e H r(u:P9 P C k c e H=some r)=>ih J oM c e H r u;cases c<;>simp only[P9]at u ⊢ <;>try exact u
  case region id ops O=>
   cases O
   .simp only[bF]at u ⊢;cases E:E3 P C ops ops.toList e H with
    |none=>simp [E]at u
    |some x=>rw[W8 h _ _ _ _ E];rw[E]at u;exact u
   .simp only[jd]at u ⊢;cases E:cT P C ops e H with
    |none=>simp [E]at u
    |some x=>rw[Cv h _ _ _ E];rw[E]at u;exact u
  case seq x y=>
   cases hz:iL x y with
   |some z=>
    simp only[hz]at u ⊢;cases S:E3 P C z.ops z.l1 e H with
    |none=>simp [S]at u
    |some q1=>
     cases U:E3 P C z.ops z.l2 e H with
     |none=>simp [S,U]at u
     |some q2=>
      obtain⟨e1,H1⟩:=q1;obtain⟨e2,H2⟩:=q2;rw[S,U]at u;rw[W8 h _ _ _ _ S,W8 h _ _ _ _ U];obtain⟨o,e',H'⟩:=r;obtain⟨e3,H3,e4,H4,g1,g2,g3,rfl,rfl,rfl⟩:=ai u;exact jR (I _ _ _ _ g1) (I _ _ _ _ g2) g3
   |none=>
   simp only[hz]at u ⊢;cases E:P9 P C k x e H with
   |none=>simp [E]at u
   |some z=>
    rw[I _ _ _ _ E];rw[E]at u;obtain⟨o,e',H'⟩:=z;cases o with
    |normal=>exact I _ _ _ _ u
    |exit id=>exact u
    |ret=>exact u
  case cond x y z=>
   split
   next t ht=>rw[ht]at u;exact I _ _ _ _ u
   .rename_i W;split at u
    next t ht=>exact absurd ht (W t)
    .exact u
  case block id x=>
   cases E:P9 P C k x e H with
   |none=>simp [E]at u
   |some z=>rw[I _ _ _ _ E];rw[E]at u;exact u
  case loop x=>
   cases E:P9 P C k x e H with
   |none=>simp [E]at u
   |some z=>
    rw[I _ _ _ _ E];rw[E]at u;obtain⟨o,e',H'⟩:=z;cases o with
    |normal=>exact I _ _ _ _ u
    |exit id=>exact u
    |ret=>exact u
  case scope x=>exact I _ _ _ _ u
def oH{ex D:Code->Env->d7->Option (Out×Env×d7)}(h:∀c e H,LeO (ex c e H) (D c e H)) (f:FuncId) (args:LV) (H:d7):LeO (body P ex f args H) (body P D f args H):=by
 intro r u;unfold body at u ⊢;split
 .rename_i c O S E;rw[E]at u;simp only at u ⊢;split
  .rename_i I;rw[bJ I]at u;cases J:ex c (N1 0 args) ⟨H.bs,H.bs.length⟩with
   |none=>simp [J]at u
   |some z=>rw[h _ _ _ _ J];rw[J]at u;exact u
  next I=>rw[bt I]at u;exact u
 next E=>rw[E]at u;exact u
def R4{X:Lib}:∀(k h:Nat),k<=h->LeC (call P X k) (call P X h):=by
 intro k;induction k with
 |zero=>intro h _ f args H r u;cases u
 |succ k D=>
  intro h E f args H r u;obtain⟨h,rfl⟩:∃m,h=m+1:=⟨h-1,oM⟩
  simp only[call]at u ⊢;split
  next g z=>rw[z]at u;exact u
  next z=>rw[z]at u;exact oH (cZ (D h oM) k h oM) f args H r u
open Classical in
noncomputable def lim{α:Type}(x:Nat->Option α):Option α:=if h:∃k r,x k=some r then some (Classical.choose (PL h)) else none
def sX{α:Type}{x:Nat->Option α}(E:∀k I,k<=I->LeO (x k) (x I)) {r:α}:lim x=some r↔∃k,x k=some r:=by
 unfold lim
 constructor
 .intro h;split at h
  next z=>cases h;exact⟨_,PL (PL z)⟩
  .cases h
 .rintro⟨k,z⟩;have u:∃k r,x k=some r:=⟨k,r,z⟩
  rw[Ky u];have J:=PL (PL u);have O:=E _ (max k (Classical.choose u)) (Hh _ _) _ J;have D:=E _ (max k (Classical.choose u)) (Hz _ _) _ z;rw[O]at D;exact D
noncomputable def CL(P:Program)(X:Lib):C4:=fun f args H=>lim fun k=>call P X k f args H
noncomputable def EL(P:Program)(X:Lib)(c:Code)(e:Env)(H:d7):Option (Out×Env×d7):=lim fun k=>P9 P (CL P X) k c e H
def eN{X:Lib}{f:FuncId}{args:LV}{H:d7}{r:aa3×Option d7}:CL P X f args H=some r↔∃k,call P X k f args H=some r:=
 sX fun k u h=>R4 k u h f args H
def Et{X:Lib}{c:Code}{e:Env}{H:d7}{r:Out×Env×d7}:EL P X c e H=some r↔∃k,P9 P (CL P X) k c e H=some r:=
 sX fun k u h=>cZ (fun _ _ _=>LeO.refl _) k u h c e H
def yu{α:Type}{x y:Option α}(h:∀r,x=some r↔y=some r):x=y:=by
 cases x with
 |some a=>exact((h a).1 rfl).symm
 |none=>cases y with
  |none=>rfl
  |some b=>exact(h b).2 rfl
variable{X:Lib}
def X4(x:Option (Env×d7)):Option (Out×Env×d7):=x.map fun(e,H)=>(.normal,e,H)
abbrev Of{β:Sort _}(_:β)(α:Type _):Type _:=α
def t7(x:Option (Out×Env×d7))(f:Env->d7->Option (Out×Env×d7)):Of f (Option (Out×Env×d7)):=
 match x with
 |some (.normal,e,H)=>f e H
 |r=>r
@[simp] theorem gU (e:Env) (H:d7) (f:Env->d7->Option (Out×Env×d7)):t7 (some (.normal,e,H)) f=f e H:=rT
@[simp] theorem uo (e:Env) (H:d7) (f:Env->d7->Option (Out×Env×d7)):t7 (some (.ret,e,H)) f=some (.ret,e,H):=rT
@[simp] theorem BD (i:Nat) (e:Env) (H:d7) (f:Env->d7->Option (Out×Env×d7)):t7 (some (.exit i,e,H)) f=some (.exit i,e,H):=rT
def inBlock(id:Nat)(x:Option (Out×Env×d7)):Option (Out×Env×d7):=
 match x with
 |some (.exit i,e,H)=>if i=id then some (.normal,e,H) else some (.exit i,e,H)
 |r=>r
@[simp] theorem jP (id:Nat) (e:Env) (H:d7):inBlock id (some (.normal,e,H))=some (.normal,e,H):=rT
@[simp] theorem pW (id:Nat) (e:Env) (H:d7):inBlock id (some (.ret,e,H))=some (.ret,e,H):=rT
@[simp] theorem iS (id i:Nat) (e:Env) (H:d7):inBlock id (some (.exit i,e,H))=if i=id then some (.normal,e,H) else some (.exit i,e,H):=rT
def lQ{o:Op}{e:Env}{H:d7}{r:aa3×Option d7}(h:aop P (CL P X) o e H=some r):∃k,aop P (call P X k) o e H=some r:=by
 by_cases u:∃c,o= .call c
 .obtain⟨c,rfl⟩:=u;simp only[aop,jD]at h ⊢;split at h
  next b D=>exact⟨0,h⟩
  .rename_i f E;split at h
   .obtain⟨k,z⟩:=eN.1 h;exact⟨k,z⟩
   .cases h
  .cases h
 .refine⟨0,?_⟩;rw[<-h];cases o<;>first|rfl|(exact absurd ⟨_,rfl⟩ u)|(rename_i x;cases x<;>rfl)
def dJ{ops:Array Oper}:∀(l:List Oper){e:Env}{H:d7}{r:Env×d7},E3 P (CL P X) ops l e H=some r->∃k,E3 P (call P X k) ops l e H=some r:=by
 intro l;induction l with
 |nil=>intro e H r h;exact⟨0,h⟩
 |cons o l W=>
  intro e H r h;simp only[E3]at h ⊢;by_cases D:aQ ops e o=true
  .rw[bJ D]at h;cases h
  simp only[bt D]at h ⊢;split at h
  .rename_i E;cases U:aop P (CL P X) o.op e H with
   |none=>simp [U]at h
   |some z=>
    rw[U]at h;obtain⟨k1,O⟩:=lQ U;obtain⟨v,z⟩:=z;have u:∀H',E3 P (CL P X) ops l (N4 e o.dst v) H'=some r->∃k,E3 P (call P X k) ops l (N4 e o.dst v) H'=some r/\aop P (call P X k) o.op e H=some (v,z):=by
     intro H' h';obtain⟨k2,S⟩:=W h';exact⟨max k1 k2,W8 (R4 _ _ (Hh _ _)) _ _ _ _ S,aP (R4 _ _ (Hz _ _)) _ _ _ _ O⟩
    cases z with
    |none=>obtain⟨k,I,J⟩:=u _ h;exact⟨k,by rw[bJ E,J];exact I⟩
    |some H'=>obtain⟨k,I,J⟩:=u _ h;exact⟨k,by rw[bJ E,J];exact I⟩
  next E=>obtain⟨k,hk⟩:=W h;exact⟨k,by rw[bt E];exact hk⟩
def tW{ops:Array Oper}:∀(l:List Oper){i:Nat}{q:Bool}{e:Env}{H:d7}{r:Env×d7},N3 P (CL P X) ops i q l e H=some r->∃k,N3 P (call P X k) ops i q l e H=some r:=by
 intro l;induction l with
 |nil=>intro i q e H r h;exact⟨0,h⟩
 |cons o l S=>
  intro i q e H r h;simp only[N3]at h ⊢;by_cases E:aQ ops e o=true
  .rw[bJ E]at h;cases h
  simp only[bt E]at h ⊢;split at h
  .rename_i I;cases J:aop P (CL P X) o.op e H with
   |none=>simp [J]at h
   |some z=>
    rw[J]at h;obtain⟨U,D⟩:=lQ J;obtain⟨v,z⟩:=z;cases z with
    |none=>
     obtain⟨O,u⟩:=S h;exact⟨max U O,by rw[bJ I,aP (R4 _ _ (Hz _ _)) _ _ _ _ D];exact nR (R4 _ _ (Hh _ _)) _ _ _ _ _ _ u⟩
    |some H'=>
     simp only at h;split at h
     .obtain⟨O,u⟩:=dJ _ h;refine⟨max U O,?_⟩;rw[bJ I,aP (R4 _ _ (Hz _ _)) _ _ _ _ D];simp only;rw[bJ (by assumption)];exact W8 (R4 _ _ (Hh _ _)) _ _ _ _ u
     .cases h
  next I=>obtain⟨k,W⟩:=S h;exact⟨k,by rw[bt I];exact W⟩
def uU{ops:Array Oper}:∀(l:List (Oper×Nat×Nat)){t:Nat}{O:List (Nat×d7)}{u:List (Op×Env×aa3×Nat)}{e:Env}{H:d7}{r:Env×d7},N6 P (CL P X) ops t O u l e H=some r->∃k,N6 P (call P X k) ops t O u l e H=some r:=by
 intro l;induction l with
 |nil=>intro t O u e H r h;exact⟨0,h⟩
 |cons o l J=>
  obtain⟨o,lo,hi⟩:=o;intro t O u e H r h;simp only[N6]at h ⊢;by_cases I:aQ ops e o=true
  .rw[bJ I]at h;cases h
  simp only[bt I]at h ⊢;split at h
  .rename_i E;split at h
   .rename_i D;cases hq:aop P (CL P X) o.op e H with
    |none=>simp [hq]at h
    |some z=>
     rw[hq]at h;obtain⟨k1,U⟩:=lQ hq;obtain⟨v,z⟩:=z;simp only at h;split at h
     next hb=>obtain⟨k2,W⟩:=J h;exact⟨max k1 k2,by rw[bJ E,bJ D,aP (R4 _ _ (Hz _ _)) _ _ _ _ U];simp only;rw[bJ hb];exact qn (R4 _ _ (Hh _ _)) _ _ _ _ _ _ _ W⟩
     .cases h
   .rename_i D;split at h
    .rename_i v hv;split at h
     .rename_i S;split at h
      next hc=>obtain⟨k,q⟩:=J h;exact⟨k,by rw[bJ E,bt D,bJ S,bJ hc];exact q⟩
      .cases h
     next S=>obtain⟨k,q⟩:=J h;exact⟨k,by rw[bJ E,bt D,bt S];exact q⟩
    .cases h
  .rename_i E;split at h
   next D=>obtain⟨k,q⟩:=J h;exact⟨k,by rw[bt E,bJ D];exact q⟩
   next D=>obtain⟨k,q⟩:=J h;exact⟨k,by rw[bt E,bt D];exact q⟩
def xK{ops:Array Oper}{e:Env}{H:d7}{r:Env×d7}(h:cT P (CL P X) ops e H=some r):∃k,cT P (call P X k) ops e H=some r:=by
 unfold cT at h ⊢;split at h
 .rename_i u;split at h
  next z=>obtain⟨k,q⟩:=uU _ h;exact⟨k,by rw[bJ u,bJ z];exact q⟩
  .cases h
 next u=>obtain⟨k,q⟩:=tW _ h;exact⟨k,by rw[bt u];exact q⟩
def Ae:∀(k:Nat){c:Code}{e:Env}{H:d7}{r:Out×Env×d7},P9 P (CL P X) k c e H=some r->∃j,P9 P (call P X j) k c e H=some r:=by
 intro k;induction k with
 |zero=>intro c e H r h;cases h
 |succ k O=>
  intro c e H r h;have u:∀{j J:Nat}{c:Code}{e:Env}{H:d7}{r},j<=J->P9 P (call P X j) k c e H=some r->P9 P (call P X J) k c e H=some r:=fun D h=>cZ (R4 _ _ D) _ _ lR _ _ _ _ h;cases c<;>simp only[P9]at h ⊢ <;>try exact⟨0,h⟩
  case region id ops S=>
   cases S
   .simp only[bF]at h ⊢;cases E:E3 P (CL P X) ops ops.toList e H with
    |none=>simp [E]at h
    |some z=>obtain⟨j,D⟩:=dJ _ E;rw[E]at h;exact⟨j,by rw[D];exact h⟩
   .simp only[jd]at h ⊢;cases E:cT P (CL P X) ops e H with
    |none=>simp [E]at h
    |some z=>obtain⟨j,D⟩:=xK E;rw[E]at h;exact⟨j,by rw[D];exact h⟩
  case seq x y=>
   cases hz:iL x y with
   |some z=>
    simp only[hz]at h ⊢;cases U:E3 P (CL P X) z.ops z.l1 e H with
    |none=>simp [U]at h
    |some q1=>
     cases h2:E3 P (CL P X) z.ops z.l2 e H with
     |none=>simp [U,h2]at h
     |some q2=>
      obtain⟨e1,H1⟩:=q1;obtain⟨e2,H2⟩:=q2;rw[U,h2]at h;obtain⟨o,e',H'⟩:=r;obtain⟨e3,H3,e4,H4,g1,g2,g3,rfl,rfl,rfl⟩:=ai h;obtain⟨W,a1⟩:=dJ _ U;obtain⟨J,I⟩:=dJ _ h2;obtain⟨j3,a2⟩:=O g1;obtain⟨j4,a3⟩:=O g2;refine⟨max (max W J) (max j3 j4),?_⟩;rw[W8 (R4 _ _ (by omega:W<=max (max W J) (max j3 j4))) _ _ _ _ a1,W8 (R4 _ _ (by omega:J<=max (max W J) (max j3 j4))) _ _ _ _ I];exact jR (u oM a2) (u oM a3) g3
   |none=>
   simp only[hz]at h ⊢;cases E:P9 P (CL P X) k x e H with
   |none=>simp [E]at h
   |some z=>
    obtain⟨j,D⟩:=O E;rw[E]at h;obtain⟨o,e',H'⟩:=z;cases o with
    |normal=>
     obtain⟨J,I⟩:=O h;exact⟨max j J,by rw[u (Hz _ _) D];exact u (Hh _ _) I⟩
    |exit i=>exact⟨j,by rw[D];exact h⟩
    |ret=>exact⟨j,by rw[D];exact h⟩
  case cond x y z=>
   split at h
   next ht=>obtain⟨j,D⟩:=O h;exact⟨j,D⟩
   .cases h
  case block id x=>
   cases E:P9 P (CL P X) k x e H with
   |none=>simp [E]at h
   |some z=>obtain⟨j,D⟩:=O E;rw[E]at h;exact⟨j,by rw[D];exact h⟩
  case loop x=>
   cases E:P9 P (CL P X) k x e H with
   |none=>simp [E]at h
   |some z=>
    obtain⟨j,D⟩:=O E;rw[E]at h;obtain⟨o,e',H'⟩:=z;cases o with
    |normal=>
     obtain⟨J,I⟩:=O h;exact⟨max j J,by rw[u (Hz _ _) D];exact u (Hh _ _) I⟩
    |exit i=>exact⟨j,by rw[D];exact h⟩
    |ret=>exact⟨j,by rw[D];exact h⟩
  case scope x=>obtain⟨j,D⟩:=O h;exact⟨j,D⟩
def Nh{f:FuncId}(I:X f=none)(args:LV)(H:d7):CL P X f args H=body P (EL P X) f args H:=by
 refine yu fun r=>⟨fun h=>?_,fun h=>?_⟩
 .obtain⟨k,u⟩:=eN.1 h;cases k with
  |zero=>cases u
  |succ k=>
   simp only[call,I]at u;refine oH (fun c e H r E=>?_) f args H r u;exact Et.2 ⟨k,cZ (fun f args H r E=>eN.2 ⟨k,E⟩) k k lR c e H r E⟩
 .unfold body at h;split at h
  rotate_left
  .cases h
  rename_i c U W J;split at h
  rotate_left
  .cases h
  rename_i S;cases D:EL P X c (N1 0 args) ⟨H.bs,H.bs.length⟩with
  |none=>simp [D]at h
  |some z=>
   obtain⟨k,u⟩:=Et.1 D;obtain⟨j,O⟩:=Ae k u;refine eN.2 ⟨max j k+1,?_⟩;simp only[call,I,body,J,bJ S];rw[cZ (R4 j (max j k) (Hz _ _)) k (max j k) (Hh _ _) _ _ _ _ O];rw[D]at h;exact h
def QH{f:FuncId}{g:LV->d7->Option (aa3×Option d7)}(z:X f=some g)(args:LV)(H:d7):CL P X f args H=g args H:=by
 refine yu fun r=>⟨fun h=>?_,fun h=>eN.2 ⟨1,by simp only[call,z];exact h⟩⟩
 obtain⟨k,u⟩:=eN.1 h;cases k with
 |zero=>cases u
 |succ k=>simp only[call,z]at u;exact u
def Gp{X Y:Lib}(h:∀f,X f=Y f\/(X f=none/\fnA P f=none)):∀k,LeC (call P X k) (call P Y k):=by
 intro k;induction k with
 |zero=>intro f args H r u;cases u
 |succ k E=>
  intro f args H r u;simp only[call]at u ⊢;rcases h f with e|⟨e,D⟩
  .rw[<-e];split
   next g z=>rw[z]at u;exact u
   next z=>rw[z]at u;exact oH (cZ E k k lR) f args H r u
  .rw[e]at u;simp only[body,D]at u;cases u
def Ni{X Y:Lib}(h:∀f,X f=Y f\/(X f=none/\fnA P f=none)):LeC (CL P X) (CL P Y):=by
 intro f args H r z;obtain⟨k,u⟩:=eN.1 z;exact eN.2 ⟨k,Gp h k f args H r u⟩
end
def jG(r:Option (aa3×Option d7))(H:d7)(f:aa3->d7->Option (Env×d7)):Of f (Option (Env×d7)):=
 match r with
 |some (v,none)=>f v H
 |some (v,some H')=>f v H'
 |none=>none
def KZ(ops:Array Oper)(j:Nat)(b:Bool)(e:Env):Bool:=
 match(ops[j]?).bind (·.dst)with
 |some d=>isB (e.g d) b
 |none=>false
def JU{α:Type}(v:aa3)(x y:Option α):Of x (Of y (Option α)):=
 match v with
 | .bool t=>if t then x else y
 |_=>none
def t6(P:Program)(rs:List ResultVar)(H:d7)(x:Option (Out×Env×d7)):Option (aa3×Option d7):=
 match x with
 |some (.exit _,_,_)=>none
 |some (_,e,H')=>(rs.mapM (P2 P e H')).map fun vs=>F7 (dV vs) H H'
 |none=>none
section
variable{P:Program}{X:Lib}
def QJ{f:FuncId}{c:Code}{u:Nat}{h:List ResultVar}(E:fnA P f=some (c,u,h))(D:X f=none)(args:LV)(I:args.length<=u)(H:d7):
  CL P X f args H=t6 P h H (EL P X c (N1 0 args) ⟨H.bs,H.bs.length⟩):=by
 rw[Nh D,body,E];simp only[bJ I,t6];cases EL P X c (N1 0 args) ⟨H.bs,H.bs.length⟩with
 |none=>rfl
 |some z=>
  obtain⟨o,e,H'⟩:=z;cases o with
  |exit i=>rfl
  |normal=>simp only;cases List.mapM (P2 P e H') h<;>rfl
  |ret=>simp only;cases List.mapM (P2 P e H') h<;>rfl
def Co(v:aa3)(H:d7)(f:aa3->d7->Option (Env×d7)):jG (some (v,none)) H f=f v H:=rT
def Cp(v:aa3)(H H':d7)(f:aa3->d7->Option (Env×d7)):jG (some (v,some H')) H f=f v H':=rT
def uR(e:Env)(H:d7):X4 (some (e,H))=some (.normal,e,H):=rT
def KU(k:Nat)(v:aa3)(e:Env)(t:Nat):Env.g ((k,v)::e) t=if k=t then v else Env.g e t:=rT
def Iu(e:Env)(d:Nat)(v:aa3):N4 e (some d) v=(d,v)::e:=rT
def It(e:Env)(v:aa3):N4 e none v=e:=rT
def Pk(e:Env)(t:Nat):opv e (.tmp t)=e.g t:=rT
def Ii(e:Env)(v:aa3):opv e (.const v)=v:=rT
def LT(e:Env)(f:FuncId):opv e (.func f)= .func (.func f) #[] #[]:=rT
def kp(v:Option aa3):Option (aa3×Option d7):=keep v
def OE(v:aa3):kp (some v)=some (v,none):=rT
def Mb(c x y:aa3):Option aa3:=
 match c with
 | .bool t=>some (if t then x else y)
 |_=>none
def Dy(t:Bool)(x y:aa3):Mb (.bool t) x y=some (if t=true then x else y):=by cases t<;>rfl
section
variable(C:C4)(e:Env)(H:d7)
def Jy(x:Operand):aop P C (.move x) e H=kp (some (opv e x)):=rT
def BT(x:Operand):aop P C (.assign x) e H=kp (some (opv e x)):=rT
def JA(c x y:Operand):aop P C (.pick c x y) e H=kp (Mb (opv e c) (opv e x) (opv e y)):=by
 simp only[aop,Mb,kp];cases opv e c<;>rfl
def FR(t:TypeId):aop P C (.alloc t) e H=turn ((P8 P t).map fun z=>(.pointer (some ⟨H.n,0,none⟩),H.push (.cells z true 1))):=rT
def Nv(t:TypeId)(x:Operand):aop P C (.box t x) e H=if(opv e x).cells.toList.all oC=true then some (.pointer (some ⟨H.n,0,none⟩),some (H.push (.cells (opv e x).cells.toList true 1))) else none:=rT
def FS(t:TypeId)(h:Array (Nat×Operand)):aop P C (.build t h) e H=kp (rI P t (h.toList.map fun p=>(p.1,opv e p.2))):=rT
def rv(t:TypeId)(n:Nat)(h:Array (Nat×Operand)):aop P C (.buildSlice t n h) e H=turn (V9 P H t n (h.toList.map fun p=>(p.1,opv e p.2))):=rT
def Jv(t:TypeId)(a:Operand):aop P C (.load t a) e H=kp (ld P t H (opv e a)):=rT
def FY(t:TypeId)(a x:Operand):aop P C (.store t a x) e H=turn ((sto P t H (opv e a) (opv e x)).map fun H'=>(undef,H')):=rT
def OY(v:aa3):Option aa3:=
 match v with
 | .pointer (some a)=>some (.pointer (some a))
 | .func (.func g) f c=>some (.func (.func g) f c)
 |_=>none
def xl(x:Operand):aop P C (.nilCheck x) e H=kp (OY (opv e x)):=by
 simp only[aop,OY,kp];split<;>first|rfl|(split<;>first|rfl|simp_all)
def Nu(op:BinOp)(t:TypeId)(x y:Operand)(h:TypeId):aop P C (.binOp op t x y h) e H=kp (L3 P op t (opv e x) (opv e y)):=rT
def QW(op:UnOp)(t:TypeId)(x:Operand):aop P C (.unOp op t x) e H=kp (unA op (opv e x)):=rT
def zj(s d:TypeId)(x:Operand):aop P C (.convert s d x) e H=bN P H s d (opv e x):=rT
def Ju(g:FuncId)(f c:Array Operand):aop P C (.makeFunc (.func g) f c) e H=some (.func (.func g) (f.toList.map (opv e)).toArray (c.toList.map (opv e)).toArray,none):=rT
def Nw(t:TypeId):aop P C (.makeMap t none) e H=some (.map (some H.n),some (H.push (.map []))):=rT
def Jw(t:TypeId)(l c:Operand):aop P C (.makeSlice t l c) e H=turn (S7 P H t (opv e l) (opv e c)):=rT
def FX(t:TypeId)(x:Operand)(lo h u:Option Operand):aop P C (.slice t x lo h u) e H=kp (L9 P H t (opv e x) (lo.map (opv e)) (h.map (opv e)) (u.map (opv e))):=rT
def uD(t:TypeId)(x:Operand)(i:Nat):aop P C (.fieldAddr t x i) e H=kp (dh P t (opv e x) i):=rT
def FU(t:TypeId)(x:Operand)(i:Nat):aop P C (.field t x i) e H=kp (oS P t (opv e x) i):=rT
def uE(t:TypeId)(x i:Operand):aop P C (.indexAddr t x i) e H=kp (Z8 P t (opv e x) (opv e i)):=rT
def FV(t:TypeId)(x i:Operand):aop P C (.index t x i) e H=kp (jQ P t (opv e x) (opv e i)):=rT
def BU(t:TypeId)(m k:Operand)(ok:Bool):aop P C (.lookup t m k ok) e H=kp (kH P H t (opv e m) (opv e k) ok):=rT
def uG(t:TypeId)(m k v:Operand):aop P C (.mapUpdate t m k v) e H=turn ((bD P H t (opv e m) (opv e k) (opv e v)).map fun H'=>(undef,H')):=rT
def DE(P:Program)(t:TypeId)(H:d7)(v:aa3):Option (aa3×Option d7):=
 match P.underlying t,v with
 |some .string,.string s=>some (.pointer (some ⟨H.n,0,none⟩),some (H.push (.iter s 0)))
 |_,_=>none
def FW(t:TypeId)(x:Operand):aop P C (.range t x) e H=DE P t H (opv e x):=rT
def Jz(it:Operand):aop P C (.next it true) e H=nu H (opv e it):=rT
def rV(v:aa3)(i:Nat):Option aa3:=
 match v with
 | .tuple vs=>if vs.toList.length<9 then vs.toList[i]? else none
 |_=>none
def rX(h:Array aa3)(i:Nat):rV (.tuple h) i=if h.toList.length<9 then h.toList[i]? else none:=rT
def zk(x:Operand)(i:Nat):aop P C (.extract x i) e H=kp (rV (opv e x) i):=by
 simp only[aop,rV,kp];cases opv e x with
 |tuple u=>by_cases h:u.toList.length<9<;>simp only[h,jd,MR]<;>rfl
 |_=>rfl
def zi(b:Builtin)(xs:Array Operand)(ts:Array TypeId):aop P C (.call ⟨.builtin b,xs,ts⟩) e H=E6 P b ts.toList (xs.toList.map (opv e)) H:=rT
def jz(C:C4)(f:aa3)(args:LV)(H:d7):Option (aa3×Option d7):=
 match f with
 | .func (.func g) first captured=>C g (first.toList++args++captured.toList) H
 |_=>none
def zo(g:FuncId)(f c:Array aa3)(args:LV):jz C (.func (.func g) f c) args H=C g (f.toList++args++c.toList) H:=rT
def Jt(f:Operand)(xs:Array Operand)(ts:Array TypeId):aop P C (.call ⟨.value f,xs,ts⟩) e H=jz C (opv e f) (xs.toList.map (opv e)) H:=rT
def IT(v:aa3)(H':d7):turn (some (v,H'))=some (v,some H'):=rT
def Ny(t:TypeId)(k:IntKind)(a b:Int):L3 P .add t (.int k a) (.int k b)=some (.int k (k.wrap (a+b))):=by simp [L3]
def NH(t:TypeId)(k:IntKind)(a b:Int):L3 P .sub t (.int k a) (.int k b)=some (.int k (k.wrap (a-b))):=by simp [L3]
def NF(t:TypeId)(k:IntKind)(a b:Int):L3 P .mul t (.int k a) (.int k b)=some (.int k (k.wrap (a*b))):=by simp [L3]
def NG(t:TypeId)(k:IntKind)(a b:Int)(h:b≠0):L3 P .rem t (.int k a) (.int k b)=some (.int k (a.tmod b)):=by simp [L3,h]
def Nz(t:TypeId)(k:IntKind)(a b:Int):L3 P .and t (.int k a) (.int k b)=some (.int k (Go.bits .and k a b)):=by simp [L3]
def QX(t:TypeId)(k:IntKind)(a b:Int):L3 P .or t (.int k a) (.int k b)=some (.int k (Go.bits .or k a b)):=by simp [L3]
def NI(t:TypeId)(k:IntKind)(a b:Int):L3 P .xor t (.int k a) (.int k b)=some (.int k (Go.bits .xor k a b)):=by simp [L3]
def BX(t:TypeId)(k:IntKind)(a b:Int):L3 P .andNot t (.int k a) (.int k b)=some (.int k (Go.bits .andNot k a b)):=by simp [L3]
def ND(t:TypeId)(k:IntKind)(a b:Int):L3 P .lss t (.int k a) (.int k b)=some (.bool (decide (a<b))):=by simp [L3]
def NC(t:TypeId)(k:IntKind)(a b:Int):L3 P .leq t (.int k a) (.int k b)=some (.bool (decide (a<=b))):=by simp [L3]
def NB(t:TypeId)(k:IntKind)(a b:Int):L3 P .gtr t (.int k a) (.int k b)=some (.bool (decide (b<a))):=by simp [L3]
def NA(t:TypeId)(k:IntKind)(a b:Int):L3 P .geq t (.int k a) (.int k b)=some (.bool (decide (b<=a))):=by simp [L3]
def zu(t:TypeId)(k:IntKind)(a b:Int):L3 P .eql t (.int k a) (.int k b)=some (.bool (decide (a=b))):=by simp [L3,eqA];rfl
def zy(t:TypeId)(k:IntKind)(a b:Int):L3 P .neq t (.int k a) (.int k b)=some (.bool (!decide (a=b))):=by simp [L3,eqA];rfl
def yO(a b:aa2):(a==b)=decide (a=b):=by
 rw[Mu,decide_eq_true_iff]
 constructor
 .intro h;rw[Ys,Wq,Yn,Yn]at h;have u:=sC.1 h;obtain⟨a⟩:=a;obtain⟨b⟩:=b;simp only at u;rw[u]
 .rintro rfl;exact oJ _
def zw(t:TypeId)(a b:aa2):L3 P .eql t (.string a) (.string b)=some (.bool (decide (a=b))):=by simp [L3,eqA,yO]
def zD(t:TypeId)(a b:aa2):L3 P .neq t (.string a) (.string b)=some (.bool (!decide (a=b))):=by simp [L3,eqA,yO]
def xq(t:TypeId)(a b:Bool)(h:BB P t=true):L3 P .eql t (.bool a) (.bool b)=some (.bool (a==b)):=by simp [L3,eqA,h]
def eU(t:TypeId)(a b:Bool)(h:BB P t=true):L3 P .neq t (.bool a) (.bool b)=some (.bool (!(a==b))):=by simp [L3,eqA,h]
def bM(t:TypeId)(a b:aa2)(h:a.size+b.size<=9223372036854775807):L3 P .add t (.string a) (.string b)=some (.string (a++b)):=by simp [L3,h]
def Ub(b:Bool):unA .not (.bool b)=some (.bool !b):=rT
def Ua(k:IntKind)(n:Int):unA .neg (.int k n)=some (.int k (k.wrap (0-n))):=rT
def bap(ts:List TypeId)(s x:aa3):E6 P .append ts [s,x] H=C2 P H ts s x:=rT
def bcp(ts:List TypeId)(s x:aa3):E6 P .copy ts [s,x] H=pP P H ts s x:=rT
end
def OW(b:Bool):Q4 (.bool b)=true:=rT
def Tg(k:IntKind)(n:Int):Q4 (.int k n)=true:=rT
def HW(s:aa2):Q4 (.string s)=true:=rT
def LX(v:aa3):dV [v]=v:=rT
def LY(a b:aa3):dV [a,b]= .tuple #[a,b]:=rT
def Dx(a b c:aa3):dV [a,b,c]= .tuple #[a,b,c]:=rT
def wj(a b:aa3):Q4 (.tuple #[a,b])=(na1 a&&na1 b):=by simp [Q4]
def wk(a b c:aa3):Q4 (.tuple #[a,b,c])=(na1 a&&(na1 b&&na1 c)):=by simp [Q4]
def LG(b:Bool):na1 (.bool b)=true:=rT
def OU(k:IntKind)(n:Int):na1 (.int k n)=true:=rT
def Dm(s:aa2):na1 (.string s)=true:=rT
def HV(a:Addr)(n c:Nat):na1 (.slice (some a) n c)=false:=rT
def OV:na1 (.slice none 0 0)=true:=rT
def LH(a:Addr)(n c:Nat):Q4 (.slice (some a) n c)=false:=rT
def Th:Q4 (.slice none 0 0)=true:=rT
def rG(h:List ResultVar)(H:d7)(e:Env)(H':d7):t6 P h H (some (.normal,e,H'))=(h.mapM (P2 P e H')).map fun u=>F7 (dV u) H H':=rT
def zE(h:List ResultVar)(H:d7)(e:Env)(H':d7):t6 P h H (some (.ret,e,H'))=(h.mapM (P2 P e H')).map fun u=>F7 (dV u) H H':=rT
def Pt(e:Env)(H:d7)(t:Nat):[ResultVar.tmp t].mapM (P2 P e H)=some [e.g t]:=rT
def Pu(e:Env)(H:d7)(t u:Nat):[ResultVar.tmp t,.tmp u].mapM (P2 P e H)=some [e.g t,e.g u]:=rT
def IA(e:Env)(H:d7)(t u v:Nat):[ResultVar.tmp t,.tmp u,.tmp v].mapM (P2 P e H)=some [e.g t,e.g u,e.g v]:=rT
end
def br{α:Type}(t:Bool)(x y:α):Of x (Of y α):=if t=true then x else y
def NL{α:Type}(x y:α):br true x y=x:=rT
def JG{α:Type}(x y:α):br false x y=y:=rT
def QZ{α:Type}(t:Bool)(x y:α):br (!t) x y=br t y x:=by cases t<;>rfl
section
variable{P:Program}{X:Lib}
@[congr] theorem Ug {c:Code} {e e':Env} {H H':d7} (he:e=e') (hH:H=H'):EL P X c e H=EL P X c e' H':=by rw[he,hH]
@[congr] theorem Px {C:C4} {ops:Array Oper} {l:List Oper} {e e':Env} {H H':d7} (he:e=e') (hH:H=H'):E3 P C ops l e H=E3 P C ops l e' H':=by rw[he,hH]
@[congr] theorem Ov {ops:Array Oper} {j:Nat} {b:Bool} {e e':Env} (he:e=e'):KZ ops j b e=KZ ops j b e':=by rw[he]
end
def JV{α:Type}(t:Bool)(x y:Option α):JU (.bool t) x y=br t x y:=by cases t<;>rfl
section
variable{P:Program}{X:Lib}
def vA(r:Option (aa3×Option d7))(f:aa3->Option (Env×d7))(g:aa3->d7->Option (Env×d7)):Of f (Of g (Option (Env×d7))):=
 match r with
 |some (v,none)=>f v
 |some (v,some H')=>g v H'
 |none=>none
def Cl(v:aa3)(f:aa3->Option (Env×d7))(g:aa3->d7->Option (Env×d7)):vA (some (v,none)) f g=f v:=rT
def Cm(v:aa3)(H':d7)(f:aa3->Option (Env×d7))(g:aa3->d7->Option (Env×d7)):vA (some (v,some H')) f g=g v H':=rT
def Hr(f:Operand)(a:Array Operand)(t:Array TypeId):isCall (.call ⟨.value f,a,t⟩)=true:=rT
def Hp(f:Builtin)(a:Array Operand)(t:Array TypeId):isCall (.call ⟨.builtin f,a,t⟩)=false:=rT
def Az(x:Operand):isCall (.move x)=false:=rT
def uN(x:Operand):isCall (.assign x)=false:=rT
def AA(x y z:Operand):isCall (.pick x y z)=false:=rT
def CZ(o:BinOp)(t:TypeId)(x y:Operand)(u:TypeId):isCall (.binOp o t x y u)=false:=rT
def Ht(o:UnOp)(t:TypeId)(x:Operand):isCall (.unOp o t x)=false:=rT
def Ay(t:TypeId)(x:Operand):isCall (.load t x)=false:=rT
def xU(t:TypeId)(x:Operand)(i:Nat):isCall (.field t x i)=false:=rT
def oV(t:TypeId)(x:Operand)(i:Nat):isCall (.fieldAddr t x i)=false:=rT
def xV(t:TypeId)(x i:Operand):isCall (.index t x i)=false:=rT
def oW(t:TypeId)(x i:Operand):isCall (.indexAddr t x i)=false:=rT
def sN(s t:TypeId)(x:Operand):isCall (.convert s t x)=false:=rT
def sO(x:Operand)(i:Nat):isCall (.extract x i)=false:=rT
def xT(t:TypeId)(p:Array (Nat×Operand)):isCall (.build t p)=false:=rT
def xW(t:TypeId)(x:Operand)(a b c:Option Operand):isCall (.slice t x a b c)=false:=rT
def uO(t:TypeId)(x y:Operand)(b:Bool):isCall (.lookup t x y b)=false:=rT
def brl{α:Type}(v:aa3)(b:Bool)(x y:Option α):Of x (Of y (Option α)):=if Da v=true then none else if isB v b=true then x else y
def JH{α:Type}(t:Bool)(x y:Option α):brl (.bool t) true x y=br t x y:=by cases t<;>rfl
def Gj{α:Type}(t:Bool)(x y:Option α):brl (.bool t) false x y=br t y x:=by cases t<;>rfl
def NM{α:Type}(b:Bool)(x y:Option α):brl undef b x y=y:=by cases b<;>rfl
end
section
variable{H:d7}{B:Blk}{b c:Nat}
def i4:(H.push B).n=H.n+1:=by simp [d7.n,d7.push]
def j9:(H.put b B).n=H.n:=by simp [d7.n,d7.put]
def j6:(H.push B).g H.n=some B:=by simp [d7.g,d7.push,d7.n]
def A4(h:b<=H.n/\H.n<=b):(H.push B).g b=some B:=by
 obtain rfl:b=H.n:=oM;exact j6
def j5(h:b<H.n):(H.push B).g b=H.g b:=by
 simp only[d7.g,d7.push];exact gk h
def i9(h:b<H.n):(H.put b B).g b=some B:=by
 simp only[d7.g,d7.put,zA];simp;exact h
def j7(h:b≠c):(H.put b B).g c=H.g c:=by
 simp only[d7.g,d7.put,zA,bt h]
def u6(h:H.g b=some B):b<H.n:=(gS h).1
def l9:(H.push B).low=H.low:=rT
def A9:(H.put b B).low=min H.low b:=rT
def Fo(bs:List Blk)(n:Nat):(⟨bs,n⟩:d7).n=bs.length:=rT
def AK(H:d7):H.bs.length=H.n:=rT
end
section
variable{P:Program}
def ldB(P:Program)(t:TypeId)(o:Nat)(B:Option Blk):Option aa3:=
 match B with
 |some (.cells c _ _)=>
  match dX P t with
  |some true=>
   match D5 P t with
   |some s=>if o+s<=c.length then some (.agg ((c.drop o).take s).toArray) else none
   |none=>none
  |some false=>c[o]?
  |none=>none
 |_=>none
def SQ(t:TypeId)(H:d7)(b o:Nat):ld P t H (.pointer (some ⟨b,o,none⟩))=ldB P t o (H.g b):=by
 simp only[ld,ldB];cases H.g b with
 |none=>rfl
 |some B=>cases B<;>rfl
def ldC(a:Option Bool)(s:Option Nat)(o:Nat)(c:LV):Option aa3:=
 match a with
 |some true=>
  match s with
  |some s=>if o+s<=c.length then some (.agg ((c.drop o).take s).toArray) else none
  |none=>none
 |some false=>c[o]?
 |none=>none
def HI(t:TypeId)(o:Nat)(c:LV)(own:Bool)(sz:Nat):ldB P t o (some (.cells c own sz))=ldC (dX P t) (D5 P t) o c:=rT
def iY(s o:Nat)(c:LV)(h:o+s<=c.length):ldC (some true) (some s) o c=some (.agg ((c.drop o).take s).toArray):=by simp [ldC,h]
def si{α:Type}{enc:α->LV}{sz:Nat}(hs:∀a,(enc a).length=sz):∀{l:List α}{i:Nat}{a:α},l[i]?=some a->i*sz+sz<=(l.flatMap enc).length/\((l.flatMap enc).drop (i*sz)).take sz=enc a
 |[],i,a,h=>by simp at h
 |x::l,0,a,h=>by
  simp at h;subst h;have:=hs x;simp only[vM,Ck,lP,dx,this,tV];refine⟨oM,?_⟩;rw[<-this,A2 lR,XK]
 |x::l,i+1,a,h=>by
  have z:=hs x;obtain⟨D,u⟩:=si hs (l:=l) (i:=i) (a:=a) (by simpa using h);have e:(i+1)*sz=(enc x).length+i*sz:=by rw[z,wS];omega
  rw[vM,e];refine⟨by rw[dx];omega,?_⟩;rw[<-EE,aaa];exact u
def OF(s:Option Nat)(o:Nat)(c:LV):ldC (some false) s o c=c[o]?:=rT
def Mj(e:Env)(H:d7)(a:Nat)(t:TypeId):[ResultVar.cell a t].mapM (P2 P e H)=(ld P t H (e.g a)).map fun v=>[v]:=by
 simp only[KW,aaX,P2];cases ld P t H (e.g a)<;>rfl
def A8(s:aa2)(i:Nat):Int:=(s.data.toList.getD i 0).toNat
def SI(d:Option TypeDesc)(s:aa2)(i:Nat):Option aa3:=
 match d with
 |some .string=>some (.int .u8 (A8 s i))
 |_=>none
def Lf(s:aa2)(i:Nat):SI (some .string) s i=some (.int .u8 (A8 s i)):=rT
def CY(t:TypeId)(s:aa2)(k:IntKind)(i:Int)(h:0<=i)(u:i<s.size):jQ P t (.string s) (.int k i)=SI (P.underlying t) s i.toNat:=by
 simp only[jQ,SI];cases P.underlying t with
 |none=>rfl
 |some d=>cases d<;>first|rfl|(simp [h,u,A8])
def Ox(P:Program)(d:Option TypeDesc)(cs:LV)(i:Int):Option aa3:=
 match d with
 |some (.array n e)=>match D5 P e with
  |some size=>if 0<=i/\i<n then lJ P e cs (i.toNat*size) else none
  |none=>none
 |_=>none
def Ho(t:TypeId)(a:Array aa3)(k:IntKind)(i:Int):jQ P t (.agg a) (.int k i)=Ox P (P.underlying t) a.toList i:=by
 simp only[jQ,Ox];cases P.underlying t with
 |none=>rfl
 |some d=>cases d<;>rfl
def SH(P:Program)(e:TypeId)(s:Option Nat)(cs:LV)(i:Int):Option aa3:=
 match s with
 |some size=>lJ P e cs (i.toNat*size)
 |none=>none
def Ld(n:Nat)(e:TypeId)(cs:LV)(i:Int)(h:0<=i)(u:i<n):Ox P (some (.array n e)) cs i=SH P e (D5 P e) cs i:=by simp [Ox,SH,h,u]
def Hn(e:TypeId)(s:Nat)(cs:LV)(i:Int):SH P e (some s) cs i=lJ P e cs (i.toNat*s):=rT
def TX(P:Program)(t:TypeId)(H:d7)(b o:Nat)(x:LV)(B:Option Blk):Option d7:=
 match B with
 |some (.cells c true sz)=>if D5 P t=some x.length/\o+x.length<=c.length/\x.all Value.oneCell'=true then some (H.put b (.cells (splice c o x) true sz)) else none
 |_=>none
def PM(t:TypeId)(H:d7)(b o:Nat)(x:aa3):sto P t H (.pointer (some ⟨b,o,none⟩)) x=TX P t H b o x.cells.toList (H.g b):=by
 simp only[sto,TX];cases H.g b with
 |none=>rfl
 |some B=>cases B with
  |cells c own sz=>cases own<;>rfl
  |_=>rfl
def IM(t:TypeId)(H:d7)(b o:Nat)(x:LV)(c:LV)(sz:Nat):TX P t H b o x (some (.cells c true sz))=
  if D5 P t=some x.length/\o+x.length<=c.length/\x.all oC=true then some (H.put b (.cells (splice c o x) true sz)) else none:=rT
def Gq(a:Array aa3):(Value.agg a).cells.toList=a.toList:=rT
def Gr(k:IntKind)(n:Int):(Value.int k n).cells.toList=[.int k n]:=rT
def Ce(b:Bool):(Value.bool b).cells.toList=[.bool b]:=rT
def xz(s:aa2):(Value.string s).cells.toList=[.string s]:=rT
def zH(a:Option Addr)(n c:Nat):(Value.slice a n c).cells.toList=[.slice a n c]:=rT
def uJ(a:Option Addr):(Value.pointer a).cells.toList=[.pointer a]:=rT
def Gs(a:Option Nat):(Value.map a).cells.toList=[.map a]:=rT
def Cf{f:_}(a c:Array aa3):(Value.func f a c).cells.toList=[.func f a c]:=rT
def Pf(k:IntKind)(n:Int):Value.oneCell' (.int k n)=true:=rT
def LQ(b:Bool):Value.oneCell' (.bool b)=true:=rT
def Dv(s:aa2):Value.oneCell' (.string s)=true:=rT
def Ih(a:Option Addr)(n c:Nat):Value.oneCell' (.slice a n c)=true:=rT
def AW(a:Option Addr):Value.oneCell' (.pointer a)=true:=rT
def Pg(a:Option Nat):Value.oneCell' (.map a)=true:=rT
def LR{f:_}(a c:Array aa3):Value.oneCell' (.func f a c)=true:=rT
def Ed(c:LV)(o:Nat):splice c o []=c:=rT
def Bv(c:LV)(o:Nat)(x:aa3)(xs:LV):splice c o (x::xs)=splice (c.set o x) (o+1) xs:=rT
def MG(x y:aa3)(l:LV):(x::l).set 0 y=y::l:=rT
def MF(x y:aa3)(l:LV)(n:Nat):(x::l).set (n+1) y=x::l.set n y:=rT
def lW(P:Program)(q:Option (Nat×TypeId))(b o:Nat):Option aa3:=
 match q with
 |some (off,ft)=>match D5 P ft with
  |some s=>if s=0 then none else some (.pointer (some ⟨b,o+off,none⟩))
  |none=>none
 |none=>none
def uL(t:TypeId)(i b o:Nat):dh P t (.pointer (some ⟨b,o,none⟩)) i=lW P (yS P t i) b o:=by
 simp only[dh,lW];cases yS P t i<;>rfl
def QB(s:Option Nat)(b o off:Nat):Option aa3:=
 match s with
 |some s=>if s=0 then none else some (.pointer (some ⟨b,o+off,none⟩))
 |none=>none
def qy(h:Nat)(u:TypeId)(b o:Nat):lW P (some (h,u)) b o=QB (D5 P u) b o h:=rT
def Em(s b o h:Nat):QB (some s) b o h=if s=0 then none else some (.pointer (some ⟨b,o+h,none⟩)):=rT
def LZ(a:Option Bool)(s:Option Nat)(cs:LV)(off:Nat):Option aa3:=
 match a,s with
 |some true,some s=>some (.agg ((cs.drop off).take s).toArray)
 |some false,_=>cs[off]?
 |_,_=>none
def Pm(t:TypeId)(cs:LV)(h:Nat):lJ P t cs h=LZ (dX P t) (D5 P t) cs h:=rT
def Im(s:Nat)(cs:LV)(h:Nat):LZ (some true) (some s) cs h=some (.agg ((cs.drop h).take s).toArray):=rT
def Io(s:Option Nat)(cs:LV)(h:Nat):LZ (some false) s cs h=cs[h]?:=rT
def CD(P:Program)(q:Option (Nat×TypeId))(a:LV):Option aa3:=
 match q with
 |some (off,ft)=>lJ P ft a off
 |none=>none
def GP(t:TypeId)(i:Nat)(a:Array aa3):oS P t (.agg a) i=CD P (yS P t i) a.toList:=by
 simp only[oS,CD];cases yS P t i<;>rfl
def Ag(h:Nat)(u:TypeId)(a:LV):CD P (some (h,u)) a=lJ P u a h:=rT
def CU(s:Option Nat)(b o:Nat)(i:Int):Option aa3:=
 match s with
 |some s=>some (.pointer (some ⟨b,o+i.toNat*s,none⟩))
 |none=>none
def Hj(s b o:Nat)(i:Int):CU (some s) b o i=some (.pointer (some ⟨b,o+i.toNat*s,none⟩)):=rT
def SG(P:Program)(d:Option TypeDesc)(b o:Nat)(i:Int):Option aa3:=
 match d with
 |some (.slice e)=>CU (D5 P e) b o i
 |_=>none
def CV(e:TypeId)(b o:Nat)(i:Int):SG P (some (.slice e)) b o i=CU (D5 P e) b o i:=rT
def qD(t:TypeId)(b o n c:Nat)(k:IntKind)(i:Int)(u:0<=i)(z:i<n):
  Z8 P t (.slice (some ⟨b,o,none⟩) n c) (.int k i)=SG P (P.underlying t) b o i:=by
 simp only[Z8,SG];cases h:P.underlying t with
 |none=>rfl
 |some d=>
  cases d<;>first|rfl|skip
  rename_i e;simp only[CU];cases D5 P e with
  |none=>rfl
  |some s=>simp [u,z]
def Ow(P:Program)(d:Option TypeDesc)(b o:Nat)(i:Int):Option aa3:=
 match d with
 |some (.array m e)=>if 0<=i/\i<m then CU (D5 P e) b o i else none
 |_=>none
def CW(m:Nat)(e:TypeId)(b o:Nat)(i:Int)(h:0<=i)(u:i<m):Ow P (some (.array m e)) b o i=CU (D5 P e) b o i:=by simp [Ow,h,u]
def qC(t:TypeId)(b o:Nat)(k:IntKind)(i:Int):Z8 P t (.pointer (some ⟨b,o,none⟩)) (.int k i)=Ow P (P.underlying t) b o i:=by
 simp only[Z8,Ow];cases h:P.underlying t with
 |none=>rfl
 |some d=>
  cases d<;>first|rfl|skip
  rename_i m e;simp only[CU];cases D5 P e with
  |none=>simp
  |some s=>rfl
def Pa(a:Addr):OY (.pointer (some a))=some (.pointer (some a)):=rT
def OZ(g:FuncId)(f c:Array aa3):OY (.func (.func g) f c)=some (.func (.func g) f c):=rT
def BZ(z:Option (LV))(q:Option (List (Nat×Nat)⊕Nat))(parts:List (Nat×aa3)):Option aa3:=
 match z,q with
 |some z,some (.inl ps)=>(Y3 (fun i=>ps[i]?) z parts).map fun l=> .agg l.toArray
 |some z,some (.inr s)=>(Y3 (fun i=>some (i*s,s)) z parts).map fun l=> .agg l.toArray
 |_,_=>none
def JI(t:TypeId)(h:List (Nat×aa3)):rI P t h=BZ (P8 P t) (MT P t) h:=rT
def uH(z:LV)(u:List (Nat×Nat))(h:List (Nat×aa3)):BZ (some z) (some (.inl u)) h=(Y3 (fun i=>u[i]?) z h).map fun l=> .agg l.toArray:=rT
def xu(z:LV)(s:Nat)(h:List (Nat×aa3)):BZ (some z) (some (.inr s)) h=(Y3 (fun i=>some (i*s,s)) z h).map fun l=> .agg l.toArray:=rT
def Kv(h:Nat->Option (Nat×Nat))(cs:LV):Y3 h cs []=some cs:=rT
def Ku(place:Nat->Option (Nat×Nat))(cs:LV)(v:LV)(rest:List (Nat×aa3))(q:Option (Nat×Nat)):Option (LV):=
 match q with
 |none=>none
 |some (off,size)=>if v.length=size/\off+size<=cs.length/\v.all Value.oneCell'=true then Y3 place (splice cs off v) rest else none
def GQ(u:Nat->Option (Nat×Nat))(cs:LV)(i:Nat)(v:aa3)(rest:List (Nat×aa3)):Y3 u cs ((i,v)::rest)=Ku u cs v.cells.toList rest (u i):=by
 simp only[Y3,Ku];cases u i with
 |none=>rfl
 |some q=>
  simp only;cases D:v.cells.toList.all oC with
  |true=>
   by_cases h:v.cells.toList.length=q.2/\q.1+q.2<=cs.length
   .rw[bt (fun k=>by rcases k with k|k|k;exact k h.1;omega;cases k),bJ ⟨h.1,h.2,rfl⟩]
   .rw[bJ (by by_cases z:v.cells.toList.length=q.2;exact .inr (.inl oM);exact .inl z),bt (fun k=>h ⟨k.1,k.2.1⟩)]
  |false=>rw[bJ (.inr (.inr rfl)),bt (fun k=>by cases k.2.2)]
def CE(h:Nat->Option (Nat×Nat))(cs:LV)(v:LV)(rest:List (Nat×aa3))(u size:Nat):
  Ku h cs v rest (some (u,size))=if v.length=size/\u+size<=cs.length/\v.all oC=true then Y3 h (splice cs u v) rest else none:=rT
def bsB(z:Option (LV))(H:d7)(len:Nat)(parts:List (Nat×aa3)):Option (aa3×d7):=
 match z with
 |some z=>
  if z.length≠0/\len*z.length<=16777216/\(parts.all fun p=>p.2.cells.toList.all Value.oneCell')=true then
   (Y3 (fun i=>some (i*z.length,z.length)) (List.replicate len z).flatten parts).map fun cs=>(.slice (some ⟨H.n,0,none⟩) len len,H.push (.cells cs true z.length))
  else none
 |none=>none
def bsA(P:Program)(e:Option TypeId)(H:d7)(len:Nat)(parts:List (Nat×aa3)):Option (aa3×d7):=
 match e with
 |some e=>bsB (P8 P e) H len parts
 |none=>none
def uI(t:TypeId)(H:d7)(D:Nat)(u:List (Nat×aa3)):V9 P H t D u=bsA P (I3 P t) H D u:=by
 simp only[V9,bsA];cases I3 P t with
 |none=>rfl
 |some e=>
  simp only[bsB];cases P8 P e with
  |none=>rfl
  |some z=>
   simp only;by_cases h:z.length≠0/\D*z.length<=16777216/\(u.all fun p=>p.2.cells.toList.all oC)=true
   .rw[bJ h,bt (by rw[h.2.2];simp only[Zg,Sa];omega)];cases Y3 (fun i=>some (i*z.length,z.length)) (List.replicate D z).flatten u<;>rfl
   .rw[bt h,bJ];by_cases E:(u.all fun p=>p.2.cells.toList.all oC)=true
    .rw[E]at h ⊢;simp only[aau,Zg,Sa]at h ⊢;omega
    .exact .inr (.inr (by simpa using E))
def E4(e:TypeId)(H:d7)(u:Nat)(h:List (Nat×aa3)):bsA P (some e) H u h=bsB (P8 P e) H u h:=rT
def E5(z:LV)(H:d7)(u:Nat)(h:List (Nat×aa3)):bsB (some z) H u h=
  if z.length≠0/\u*z.length<=16777216/\(h.all fun p=>p.2.cells.toList.all oC)=true then
   (Y3 (fun i=>some (i*z.length,z.length)) (List.replicate u z).flatten h).map fun cs=>(.slice (some ⟨H.n,0,none⟩) u u,H.push (.cells cs true z.length))
  else none:=rT
def JW(s d:Option TypeDesc)(n:Int):Option (aa3×Option d7):=
 match s,d with
 |some _,some (.int k)=>some (.int k (k.wrap n),none)
 |_,_=>none
def NT(H:d7)(s d:TypeId)(k:IntKind)(n:Int):bN P H s d (.int k n)=JW (P.underlying s) (P.underlying d) n:=by
 simp only[bN,JW];cases P.underlying s with
 |none=>rfl
 |some a=>cases P.underlying d with
  |none=>cases a<;>rfl
  |some b=>cases a<;>cases b<;>rfl
def Cq(a:TypeDesc)(k:IntKind)(n:Int):JW (some a) (some (.int k)) n=some (.int k (k.wrap n),none):=rT
def SS(d:Option TypeDesc)(s:aa2):Option (aa3×Option d7):=
 match d with
 |some .string=>some (.int .i64 s.size,none)
 |some (.array n _)=>some (.int .i64 n,none)
 |_=>none
def OH(H:d7)(t:TypeId)(s:aa2):E6 P .len [t] [.string s] H=SS (P.underlying t) s:=by
 simp only[E6,Lt,SS,yC,pB];cases P.underlying t with
 |none=>rfl
 |some d=>cases d<;>rfl
def Lu(s:aa2):SS (some .string) s=some (.int .i64 s.size,none):=rT
def ST(d:Option TypeDesc)(n:Nat):Option (aa3×Option d7):=
 match d with
 |some (.slice _)=>some (.int .i64 n,none)
 |some (.array m _)=>some (.int .i64 m,none)
 |_=>none
def OI(H:d7)(t:TypeId)(a:Option Addr)(n c:Nat):E6 P .len [t] [.slice a n c] H=ST (P.underlying t) n:=by
 simp only[E6,Lt,ST,yC,pB];cases P.underlying t with
 |none=>rfl
 |some d=>cases d<;>rfl
def Dh(e:TypeId)(n:Nat):ST (some (.slice e)) n=some (.int .i64 n,none):=rT
def wrap_small{n:Int}(h: -9223372036854775808<=n)(u:n<=9223372036854775807):IntKind.wrap .i64 n=n:=by
 simp [IntKind.wrap,IntKind.min,IntKind.max,IntKind.signed,IntKind.bits];omega
def iQ(v:aa3)(H H':d7)(u:Q4 v=true)(h:H.n<=H'.low):F7 v H H'=(v,none):=by
 unfold F7;rw[u];simp only[tT,eT];exact bJ h
def Aj(b:Bool)(H H':d7)(h:H.n<=H'.low):F7 (.bool b) H H'=(.bool b,none):=iQ _ _ _ rfl h
def sh(k:IntKind)(n:Int)(H H':d7)(h:H.n<=H'.low):F7 (.int k n) H H'=(.int k n,none):=iQ _ _ _ rfl h
def uM(s:aa2)(H H':d7)(h:H.n<=H'.low):F7 (.string s) H H'=(.string s,none):=iQ _ _ _ rfl h
def CI(H H':d7)(h:H.n<=H'.low):F7 (.slice none 0 0) H H'=(.slice none 0 0,none):=iQ _ _ _ rfl h
def Al(a b:aa3)(H H':d7)(u:H.n<=H'.low):F7 (.tuple #[a,b]) H H'=br (na1 a&&na1 b) (.tuple #[a,b],none) (.tuple #[a,b],some ⟨H'.bs,min H.low H'.low⟩):=by
 unfold F7 br;rw[wj];by_cases h:(na1 a&&na1 b)=true
 .rw[bJ h,h];simp only[tT,eT];exact bJ u
 .rw[bt h];simp only[ZG]at h;rw[h];rfl
def Am(a b c:aa3)(H H':d7)(u:H.n<=H'.low):F7 (.tuple #[a,b,c]) H H'=br (na1 a&&(na1 b&&na1 c)) (.tuple #[a,b,c],none) (.tuple #[a,b,c],some ⟨H'.bs,min H.low H'.low⟩):=by
 unfold F7 br;rw[wk];by_cases h:(na1 a&&(na1 b&&na1 c))=true
 .rw[bJ h,h];simp only[tT,eT];exact bJ u
 .rw[bt h];simp only[ZG]at h;rw[h];rfl
def xN(a:Addr)(n c:Nat)(H H':d7):F7 (.slice (some a) n c) H H'=(.slice (some a) n c,some ⟨H'.bs,min H.low H'.low⟩):=rT
def CH(u:Array aa3)(H H':d7)(z:H.n<=H'.low):F7 (.agg u) H H'=br (u.toList.all na0) (.agg u,none) (.agg u,some ⟨H'.bs,min H.low H'.low⟩):=by
 unfold F7 br;have e:Q4 (.agg u)=u.toList.all na0:=rT;rw[e];by_cases h:u.toList.all na0=true
 .rw[bJ h,h];simp only[tT,eT];exact bJ z
 .rw[bt h];simp only[ZG]at h;rw[h];rfl
def LF(b:Bool):na0 (.bool b)=true:=rT
def nr(k:IntKind)(n:Int):na0 (.int k n)=true:=rT
def Dl(s:aa2):na0 (.string s)=true:=rT
def HU(a:Addr)(n c:Nat):na0 (.slice (some a) n c)=false:=rT
def OT:na0 (.slice none 0 0)=true:=rT
def u7(x:Option (Out×Env×d7))(G:Out->Env->d7->Prop):Of G Prop:=∃o e H,x=some (o,e,H)/\G o e H
def iB(o:Out)(e:Env)(H:d7)(G:Out->Env->d7->Prop):u7 (some (o,e,H)) G=G o e H:=by
 refine propext ⟨?_,fun h=>⟨o,e,H,rfl,h⟩⟩;rintro⟨z,e',H',h,u⟩;cases h;exact u
def ci(n:Nat)(I:Nat->Env->d7->Prop)(Q:Out->Env->d7->Prop)(o:Out)(e:Env)(H:d7):Of n (Of I (Of Q Prop)):=
 match o with
 | .normal=>∃m,m<n/\I m e H
 | .exit i=>Q (.exit i) e H
 | .ret=>Q .ret e H
def d8{n:Nat}{I:Nat->Env->d7->Prop}{Q:Out->Env->d7->Prop}{e:Env}{H:d7}(m:Nat)(u:m<n)(h:I m e H):ci n I Q .normal e H:=⟨m,u,h⟩
def i6{n:Nat}{I:Nat->Env->d7->Prop}{Q:Out->Env->d7->Prop}{i:Nat}{e:Env}{H:d7}(h:Q (.exit i) e H):ci n I Q (.exit i) e H:=h
def y9{n:Nat}{I:Nat->Env->d7->Prop}{Q:Out->Env->d7->Prop}{e:Env}{H:d7}(h:Q .ret e H):ci n I Q .ret e H:=h
end
structure LOp where
 dst:Option Tmp
 op:Op
 guard:Option (Tmp×Bool)
structure ML where
 o:LOp
 turn:Bool
 rd:Bool
 lo:Nat
 hi:Nat
inductive t5 where
 |skip
 |ret
 |exit (id:Nat)
 |ops (l:List LOp)
 |draw (l:List (LOp×Bool))
 |mix (l:List ML)
 |seq (a b:t5)
 |cond (x:Operand) (a b:t5)
 |block (id:Nat) (a:t5)
 |loop (a:t5)
 |scope (a:t5)
 |coin (l1 l2:List LOp) (ds:List Nat) (b:t5)
def lop(ops:Array Oper)(o:Oper):Option LOp:=
 match o.guard with
 |none=>some ⟨o.dst,o.op,none⟩
 |some (j,b)=>match(ops[j]?).bind (·.dst)with
  |some d=>some ⟨o.dst,o.op,some (d,b)⟩
  |none=>none
def yg(ops:Array Oper):List Oper->Option (List LOp)
 |[]=>some []
 |o::r=>match lop ops o,yg ops r with
  |some x,some xs=>some (x::xs)
  |_,_=>none
def pY(ops:Array Oper):Nat->List Oper->Option (List (LOp×Bool))
 |_,[]=>some []
 |i,o::r=>match lop ops o,pY ops (i+1) r with
  |some x,some xs=>some ((x,FB ops i)::xs)
  |_,_=>none
def Lv(ops:Array Oper):List (Oper×Nat×Nat)->Option (List ML)
 |[]=>some []
 |(o,lo,hi)::r=>match lop ops o,Lv ops r with
  |some x,some xs=>some (⟨x,C5 o.op,rdK o.op,lo,hi⟩::xs)
  |_,_=>none
def V4:Code->Option t5
 | .skip=>some .skip
 | .ret=>some .ret
 | .exit id=>some (.exit id)
 | .region _ ops draw=>
  if draw then(if yj ops then(if qd ops (I5 ops.toList []) then(Lv ops (ni ops)).map .mix else none) else if Region.lexB .any ops then(pY ops 0 ops.toList).map .draw else none) else(yg ops ops.toList).map .ops
 | .seq a b=>match iL a b with
  |some z=>match yg z.ops z.l1,yg z.ops z.l2,V4 b with
   |some x,some y,some b'=>some (.coin x y z.ds b')
   |_,_,_=>none
  |none=>match V4 a,V4 b with
   |some x,some y=>some (.seq x y)
   |_,_=>none
 | .cond c a b=>match V4 a,V4 b with
  |some x,some y=>some (.cond c x y)
  |_,_=>none
 | .block id a=>(V4 a).map (.block id)
 | .loop a=>(V4 a).map .loop
 | .scope a=>(V4 a).map .scope
 |_=>none
section
variable{P:Program}
def eL(e:Env):Option (Tmp×Bool)->Bool
 |none=>true
 |some (d,b)=>isB (e.g d) b
def cK(e:Env):Option (Tmp×Bool)->Bool
 |none=>false
 |some (d,_)=>Da (e.g d)
def aL(P:Program)(C:C4):List LOp->Env->d7->Option (Env×d7)
 |[],e,H=>some (e,H)
 |o::rest,e,H=>
  if cK e o.guard then none else if eL e o.guard then
   match aop P C o.op e H with
   |some (v,none)=>aL P C rest (N4 e o.dst v) H
   |some (v,some H')=>aL P C rest (N4 e o.dst v) H'
   |none=>none
  else aL P C rest (N4 e o.dst undef) H
def bT(P:Program)(C:C4):Bool->List (LOp×Bool)->Env->d7->Option (Env×d7)
 |_,[],e,H=>some (e,H)
 |q,(o,t)::rest,e,H=>
  if cK e o.guard then none else if eL e o.guard then
   match aop P C o.op e H with
   |some (v,none)=>bT P C (q||isCall o.op) rest (N4 e o.dst v) H
   |some (v,some H')=>if !q&&t then aL P C (rest.map (·.1)) (N4 e o.dst v) H' else none
   |none=>none
  else bT P C q rest (N4 e o.dst undef) H
open Classical in
noncomputable def D1(P:Program)(C:C4):Nat->List (Nat×d7)->List (Op×Env×aa3×Nat)->List ML->Env->d7->Option (Env×d7)
 |_,_,_,[],e,H=>some (e,H)
 |t,Ks,obs,⟨o,tn,rd,lo,hi⟩::rest,e,H=>
  if cK e o.guard then none else if eL e o.guard then
   if tn then
    match aop P C o.op e H with
    |some (v,r)=>if xF P obs (t+1) (r.getD H) then D1 P C (t+1) ((t,H)::Ks) obs rest (N4 e o.dst v) (r.getD H) else none
    |none=>none
   else
    match aop P noC o.op e H with
    |some (v,none)=>if rd then(if xE P o.op e v lo Ks then D1 P C t Ks ((o.op,e,v,hi)::obs) rest (N4 e o.dst v) H else none) else D1 P C t Ks obs rest (N4 e o.dst v) H
    |_=>none
  else if tn then D1 P C (t+1) ((t,H)::Ks) obs rest (N4 e o.dst undef) H
  else D1 P C t Ks obs rest (N4 e o.dst undef) H
noncomputable def D8(P:Program)(C:C4):Nat->t5->Env->d7->Option (Out×Env×d7)
 |0,_,_,_=>none
 |k+1,c,e,H=>
  match c with
  | .skip=>some (.normal,e,H)
  | .ret=>some (.ret,e,H)
  | .exit id=>some (.exit id,e,H)
  | .ops l=>
   match aL P C l e H with
   |some (e',H')=>some (.normal,e',H')
   |none=>none
  | .draw l=>
   match bT P C false l e H with
   |some (e',H')=>some (.normal,e',H')
   |none=>none
  | .mix l=>
   match D1 P C 0 [] [] l e H with
   |some (e',H')=>some (.normal,e',H')
   |none=>none
  | .seq a b=>
   match D8 P C k a e H with
   |some (.normal,e',H')=>D8 P C k b e' H'
   |r=>r
  | .cond x a b=>
   match opv e x with
   | .bool t=>D8 P C k (if t then a else b) e H
   |_=>none
  | .block id a=>
   match D8 P C k a e H with
   |some (.exit i,e',H')=>if i=id then some (.normal,e',H') else some (.exit i,e',H')
   |r=>r
  | .loop a=>
   match D8 P C k a e H with
   |some (.normal,e',H')=>D8 P C k (.loop a) e' H'
   |r=>r
  | .scope a=>D8 P C k a e H
  | .coin l1 l2 ds b=>
   match aL P C l1 e H,aL P C l2 e H with
   |some (e1,H1),some (e2,H2)=>sQ ds e H.n (D8 P C k b e1 H1) (D8 P C k b e2 H2)
   |_,_=>none
def sZ{ops:Array Oper}{o:Oper}{x:LOp}(h:lop ops o=some x)(e:Env):I1 ops e o=eL e x.guard/\x.op=o.op/\x.dst=o.dst/\aQ ops e o=cK e x.guard:=by
 unfold lop at h;unfold I1 aQ;split at h
 next u=>cases h;simp [u,eL,cK]
 .rename_i j b u;split at h
  next d z=>cases h;simp [u,z,eL,cK]
  .cases h
def ig{ops:Array Oper}(C:C4):∀{l:List Oper}{u:List LOp},yg ops l=some u->∀e H,E3 P C ops l e H=aL P C u e H
 |[],u,h,e,H=>by simp only[yg,ky]at h;subst h;rfl
 |o::r,u,h,e,H=>by
  simp only[yg]at h;split at h
  next x xs O z=>cases h;obtain⟨D,E,I,J⟩:=sZ O e;simp only[E3,aL,D,E,I,J,ig C z];rfl
  .cases h
def vY{ops:Array Oper}:∀{l:List Oper}{i:Nat}{u:List (LOp×Bool)},pY ops i l=some u->yg ops l=some (u.map (·.1))
 |[],i,u,h=>by simp only[pY,ky]at h;subst h;rfl
 |o::r,i,u,h=>by
  simp only[pY]at h;split at h
  next x xs D z=>cases h;simp only[yg,D,vY z,xC]
  .cases h
def sT{ops:Array Oper}(u:Region.lexB .any ops=true)(C:C4):∀{l:List Oper}{i:Nat}{D:List (LOp×Bool)},pY ops i l=some D->∀q e H,N3 P C ops i q l e H=bT P C q D e H
 |[],i,D,h,q,e,H=>by simp only[pY,ky]at h;subst h;simp [N3,bT,u]
 |o::r,i,D,h,q,e,H=>by
  simp only[pY]at h;split at h
  next x xs S z=>cases h;obtain⟨E,I,J,O⟩:=sZ S e;simp only[N3,bT,E,I,J,O,sT u C z,ig C (vY z)];rfl
  .cases h
def wg{ops:Array Oper}(C:C4):∀{l:List (Oper×Nat×Nat)}{u:List ML},Lv ops l=some u->∀t Ks obs e H,N6 P C ops t Ks obs l e H=D1 P C t Ks obs u e H
 |[],u,h,t,Ks,obs,e,H=>by simp only[Lv,ky]at h;subst h;rfl
 |(o,lo,hi)::r,u,h,t,Ks,obs,e,H=>by
  simp only[Lv]at h;split at h
  next x xs O z=>cases h;obtain⟨D,E,I,J⟩:=sZ O e;obtain⟨S,W,U⟩:=x;simp only at D E I J;subst E I;simp only[N6,D1,D,J,wg C z];rcases aop P noC o.op e H with _|⟨v,_|H2⟩<;>rcases aop P C o.op e H with _|⟨v2,H3⟩<;>rfl
  .cases h
def sV(C:C4):∀(k:Nat){c:Code}{l:t5},V4 c=some l->∀e H,P9 P C k c e H=D8 P C k l e H:=by
 intro k;induction k with
 |zero=>intro c l _ e H;rfl
 |succ k D=>
  intro c l h e H;cases c<;>simp only[V4]at h<;>try (cases h;done)
  case skip=>cases h;rfl
  case ret=>cases h;rfl
  case exit id=>cases h;rfl
  case region id ops I=>
   split at h
   .rename_i U;subst U;split at h
    .rename_i W;split at h
     next a1=>obtain⟨E,u,rfl⟩:=ji.1 h;simp only[P9,D8,jd,cT,bJ W,bJ a1,wg C u];rfl
     .cases h
    .rename_i W;split at h
     next J=>obtain⟨E,u,rfl⟩:=ji.1 h;simp only[P9,D8,jd,cT,bt W,sT J C u];rfl
     .cases h
   .rename_i U;obtain⟨E,u,rfl⟩:=ji.1 h;have:I=false:=by simpa using U
    subst this;simp only[P9,D8,bF,ig C u];rfl
  case seq a b=>
   split at h
   .rename_i z S;split at h
    next x y b' hx O hb=>cases h;simp only[P9,S,D8,ig C hx,ig C O,D hb];rfl
    .cases h
   .rename_i S;split at h
    next x y hx O=>cases h;simp only[P9,S,D8,D hx,D O];rfl
    .cases h
  case cond x a b=>
   split at h
   .rename_i y z O S;cases h;simp only[P9,D8];cases opv e x<;>first|rfl|skip
    rename_i t;cases t<;>simp [D O,D S]
   .cases h
  case block id a=>obtain⟨E,u,rfl⟩:=ji.1 h;simp only[P9,D8,D u];rfl
  case loop a=>
   obtain⟨E,u,rfl⟩:=ji.1 h;have h2:V4 (.loop a)=some (.loop E):=by simp [V4,u]
   simp only[P9,D8,D u,D h2];rfl
  case scope a=>obtain⟨E,u,rfl⟩:=ji.1 h;simp only[P9,D8,D u]
noncomputable def LE(P:Program)(X:Lib)(c:t5)(e:Env)(H:d7):Of c (Option (Out×Env×d7)):=lim fun k=>D8 P (CL P X) k c e H
def kS{C D:C4}(h:LeC C D):∀(l:List LOp)(e:Env)(H:d7),LeO (aL P C l e H) (aL P D l e H):=by
 intro l;induction l with
 |nil=>intro e H r u;exact u
 |cons o l J=>
  intro e H r u;simp only[aL]at u ⊢;by_cases z:cK e o.guard=true
  .rw[bJ z]at u;cases u
  simp only[bt z]at u ⊢;split
  .rename_i I;rw[bJ I]at u;cases E:aop P C o.op e H with
   |none=>simp [E]at u
   |some q=>
    rw[aP h _ _ _ _ E];rw[E]at u;obtain⟨v,q⟩:=q;cases q with
    |none=>exact J _ _ _ u
    |some H'=>exact J _ _ _ u
  next I=>rw[bt I]at u;exact J _ _ _ u
def DT{C D:C4}(h:LeC C D):∀(l:List (LOp×Bool))(q:Bool)(e:Env)(H:d7),LeO (bT P C q l e H) (bT P D q l e H):=by
 intro l;induction l with
 |nil=>intro q e H r u;exact u
 |cons o l O=>
  intro q e H r u;obtain⟨o,t⟩:=o;simp only[bT]at u ⊢;by_cases z:cK e o.guard=true
  .rw[bJ z]at u;cases u
  simp only[bt z]at u ⊢;split
  .rename_i J;rw[bJ J]at u;cases I:aop P C o.op e H with
   |none=>simp [I]at u
   |some x=>
    rw[aP h _ _ _ _ I];rw[I]at u;obtain⟨v,x⟩:=x;cases x with
    |none=>exact O _ _ _ _ u
    |some H'=>
     simp only at u ⊢;split
     next E=>rw[bJ E]at u;exact kS h _ _ _ _ u
     next E=>rw[bt E]at u;exact u
  next J=>rw[bt J]at u;exact O _ _ _ _ u
def yI{C D:C4}(h:LeC C D):∀(l:List ML)(t:Nat)(Ks:List (Nat×d7))(obs:List (Op×Env×aa3×Nat))(e:Env)(H:d7),LeO (D1 P C t Ks obs l e H) (D1 P D t Ks obs l e H):=by
 intro l;induction l with
 |nil=>intro t Ks obs e H r u;exact u
 |cons o l I=>
  obtain⟨o,tn,rd,lo,hi⟩:=o;intro t Ks obs e H r u;simp only[D1]at u ⊢;by_cases E:cK e o.guard=true
  .rw[bJ E]at u;cases u
  simp only[bt E]at u ⊢;split
  .rename_i U;rw[bJ U]at u;split
   .rename_i z;rw[bJ z]at u;cases S:aop P C o.op e H with
    |none=>simp [S]at u
    |some x=>
     rw[aP h _ _ _ _ S];rw[S]at u;obtain⟨v,x⟩:=x;simp only at u ⊢;split
     next J=>rw[bJ J]at u;exact I _ _ _ _ _ _ u
     next J=>rw[bt J]at u;exact u
   .rename_i z;rw[bt z]at u;split at u
    .rename_i v hv;split at u
     .rename_i O;rw[bJ O];split at u
      next W=>rw[bJ W];exact I _ _ _ _ _ _ u
      .cases u
     next O=>rw[bt O];exact I _ _ _ _ _ _ u
    .cases u
  .rename_i U;rw[bt U]at u;split
   next z=>rw[bJ z]at u;exact I _ _ _ _ _ _ u
   next z=>rw[bt z]at u;exact I _ _ _ _ _ _ u
def bu{C D:C4}(h:LeC C D):∀(k J:Nat),k<=J->∀(c:t5)(e:Env)(H:d7),LeO (D8 P C k c e H) (D8 P D J c e H):=by
 intro k;induction k with
 |zero=>intro J _ c e H r u;cases u
 |succ k ih=>
  intro J hk c e H r u;obtain⟨J,rfl⟩:∃m,J=m+1:=⟨J-1,oM⟩
  have I:=fun c e H r(u:D8 P C k c e H=some r)=>ih J oM c e H r u;cases c<;>simp only[D8]at u ⊢ <;>try exact u
  case ops l=>
   cases E:aL P C l e H with
   |none=>simp [E]at u
   |some x=>rw[kS h _ _ _ _ E];rw[E]at u;exact u
  case draw l=>
   cases E:bT P C false l e H with
   |none=>simp [E]at u
   |some x=>rw[DT h _ _ _ _ _ E];rw[E]at u;exact u
  case mix l=>
   cases E:D1 P C 0 [] [] l e H with
   |none=>simp [E]at u
   |some x=>rw[yI h _ _ _ _ _ _ _ E];rw[E]at u;exact u
  case seq x y=>
   cases E:D8 P C k x e H with
   |none=>simp [E]at u
   |some z=>
    rw[I _ _ _ _ E];rw[E]at u;obtain⟨o,e',H'⟩:=z;cases o with
    |normal=>exact I _ _ _ _ u
    |exit id=>exact u
    |ret=>exact u
  case cond x y z=>
   split
   next t W=>rw[W]at u;exact I _ _ _ _ u
   .rename_i U;split at u
    next t W=>exact absurd W (U t)
    .exact u
  case block id x=>
   cases E:D8 P C k x e H with
   |none=>simp [E]at u
   |some z=>rw[I _ _ _ _ E];rw[E]at u;exact u
  case loop x=>
   cases E:D8 P C k x e H with
   |none=>simp [E]at u
   |some z=>
    rw[I _ _ _ _ E];rw[E]at u;obtain⟨o,e',H'⟩:=z;cases o with
    |normal=>exact I _ _ _ _ u
    |exit id=>exact u
    |ret=>exact u
  case scope x=>exact I _ _ _ _ u
  case coin l1 l2 ds b=>
   cases O:aL P C l1 e H with
   |none=>simp [O]at u
   |some q1=>
    cases S:aL P C l2 e H with
    |none=>simp [O,S]at u
    |some q2=>
     obtain⟨e1,H1⟩:=q1;obtain⟨e2,H2⟩:=q2;rw[O,S]at u;rw[kS h _ _ _ _ O,kS h _ _ _ _ S];obtain⟨o,e',H'⟩:=r;obtain⟨e3,H3,e4,H4,g1,g2,g3,rfl,rfl,rfl⟩:=ai u;exact jR (I _ _ _ _ g1) (I _ _ _ _ g2) g3
def Y1{X:Lib}{c:t5}{e:Env}{H:d7}{r:Out×Env×d7}:LE P X c e H=some r↔∃k,D8 P (CL P X) k c e H=some r:=
 sX fun k u h=>bu (fun _ _ _=>LeO.refl _) k u h c e H
variable{X:Lib}
def az{c:t5}{e:Env}{H:d7}{y:Option (Out×Env×d7)}(z:∀k r,D8 P (CL P X) (k+1) c e H=some r->y=some r) (D:∀r,y=some r->∃k,D8 P (CL P X) k c e H=some r):LE P X c e H=y:=by
 refine yu fun r=>⟨fun h=>?_,fun h=>Y1.2 (D r h)⟩
 obtain⟨k,u⟩:=Y1.1 h;cases k with
 |zero=>cases u
 |succ k=>exact z k r u
def aB{k:Nat}{c:t5}{e:Env}{H:d7}:LeO (D8 P (CL P X) k c e H) (LE P X c e H):=fun r h=>Y1.2 ⟨k,h⟩
def No(e:Env)(H:d7):LE P X .skip e H=some (.normal,e,H):=az (fun k r h=>h) fun r h=>⟨1,h⟩
def QQ(e:Env)(H:d7):LE P X .ret e H=some (.ret,e,H):=az (fun k r h=>h) fun r h=>⟨1,h⟩
def Nn(id:Nat)(e:Env)(H:d7):LE P X (.exit id) e H=some (.exit id,e,H):=az (fun k r h=>h) fun r h=>⟨1,h⟩
def QS(a b:t5)(e:Env)(H:d7):LE P X (.seq a b) e H=t7 (LE P X a e H) (LE P X b):=by
 refine az (fun k r h=>?_) fun r h=>?_
 .simp only[D8]at h;cases u:D8 P (CL P X) k a e H with
  |none=>simp [u]at h
  |some z=>
   rw[u]at h;rw[aB _ u];obtain⟨o,e',H'⟩:=z;cases o with
   |normal=>exact aB _ h
   |exit i=>exact h
   |ret=>exact h
 .cases u:LE P X a e H with
  |none=>simp [u,t7]at h
  |some z=>
   rw[u]at h;obtain⟨I,E⟩:=Y1.1 u;obtain⟨o,e',H'⟩:=z;have D:o≠ .normal->some (o,e',H')=some r->∃k,D8 P (CL P X) k (.seq a b) e H=some r:=by
    intro U S;refine⟨I+1,?_⟩;simp only[D8,E];cases o<;>first|exact absurd rfl U|exact S
   cases o with
   |normal=>
    obtain⟨J,O⟩:=Y1.1 h;refine⟨max I J+1,?_⟩;simp only[D8,bu (fun _ _ _=>LeO.refl _) I (max I J) (Hz _ _) _ _ _ _ E];exact bu (fun _ _ _=>LeO.refl _) J (max I J) (Hh _ _) _ _ _ _ O
   |exit i=>exact D sM h
   |ret=>exact D sM h
def T8(a:t5)(e:Env)(H:d7):LE P X (.loop a) e H=t7 (LE P X a e H) (LE P X (.loop a)):=by
 refine az (fun k r h=>?_) fun r h=>?_
 .simp only[D8]at h;cases u:D8 P (CL P X) k a e H with
  |none=>simp [u]at h
  |some z=>
   rw[u]at h;rw[aB _ u];obtain⟨o,e',H'⟩:=z;cases o with
   |normal=>exact aB _ h
   |exit i=>exact h
   |ret=>exact h
 .cases u:LE P X a e H with
  |none=>simp [u,t7]at h
  |some z=>
   rw[u]at h;obtain⟨I,E⟩:=Y1.1 u;obtain⟨o,e',H'⟩:=z;have D:o≠ .normal->some (o,e',H')=some r->∃k,D8 P (CL P X) k (.loop a) e H=some r:=by
    intro U S;refine⟨I+1,?_⟩;simp only[D8,E];cases o<;>first|exact absurd rfl U|exact S
   cases o with
   |normal=>
    obtain⟨J,O⟩:=Y1.1 h;refine⟨max I J+1,?_⟩;simp only[D8,bu (fun _ _ _=>LeO.refl _) I (max I J) (Hz _ _) _ _ _ _ E];exact bu (fun _ _ _=>LeO.refl _) J (max I J) (Hh _ _) _ _ _ _ O
   |exit i=>exact D sM h
   |ret=>exact D sM h
def Nl(x:Operand)(a b:t5)(e:Env)(H:d7){t:Bool}(h:opv e x= .bool t):LE P X (.cond x a b) e H=if t then LE P X a e H else LE P X b e H:=by
 refine az (fun k r u=>?_) fun r u=>?_
 .simp only[D8,h]at u;cases t<;>exact aB _ u
 .cases t
  .obtain⟨k,z⟩:=Y1.1 u;exact⟨k+1,by simp only[D8,h];exact z⟩
  .obtain⟨k,z⟩:=Y1.1 u;exact⟨k+1,by simp only[D8,h];exact z⟩
def Jf(id:Nat)(a:t5)(e:Env)(H:d7):LE P X (.block id a) e H=inBlock id (LE P X a e H):=by
 refine az (fun k r h=>?_) fun r h=>?_
 .simp only[D8]at h;cases u:D8 P (CL P X) k a e H with
  |none=>simp [u]at h
  |some z=>rw[u]at h;rw[aB _ u];exact h
 .cases u:LE P X a e H with
  |none=>simp [u,inBlock]at h
  |some z=>
   rw[u]at h;obtain⟨E,D⟩:=Y1.1 u;exact⟨E+1,by simp only[D8,D];exact h⟩
def Jh(a:t5)(e:Env)(H:d7):LE P X (.scope a) e H=LE P X a e H:=by
 refine az (fun k r h=>?_) fun r h=>?_
 .exact aB _ h
 .obtain⟨z,u⟩:=Y1.1 h;exact⟨z+1,u⟩
def QP(l:List LOp)(e:Env)(H:d7):LE P X (.ops l) e H=X4 (aL P (CL P X) l e H):=by
 refine az (fun k r h=>?_) fun r h=>⟨1,?_⟩
 .simp only[D8]at h;unfold X4;split at h
  next u=>rw[u];exact h
  .cases h
 .simp only[D8];unfold X4 at h;cases u:aL P (CL P X) l e H with
  |none=>simp [u]at h
  |some z=>simp only[u,xg]at h;exact h
def Nm(l:List (LOp×Bool))(e:Env)(H:d7):LE P X (.draw l) e H=X4 (bT P (CL P X) false l e H):=by
 refine az (fun k r h=>?_) fun r h=>⟨1,?_⟩
 .simp only[D8]at h;unfold X4;split at h
  next u=>rw[u];exact h
  .cases h
 .simp only[D8];unfold X4 at h;cases u:bT P (CL P X) false l e H with
  |none=>simp [u]at h
  |some z=>simp only[u,xg]at h;exact h
def Je{c:Code}{l:t5}(h:V4 c=some l)(e:Env)(H:d7):EL P X c e H=LE P X l e H:=by
 unfold EL LE
 congr 1
 funext k
 exact sV (CL P X) k h e H
def fnL(P:Program)(f:FuncId):Option (t5×Nat×List ResultVar):=
 match fnA P f with
 |some (c,nt,rs)=>match V4 c with
  |some l=>some (l,nt,rs)
  |none=>none
 |none=>none
def i7{f:FuncId}{l:t5}{u:Nat}{z:List ResultVar}(h:fnL P f=some (l,u,z))(D:X f=none)(args:LV)(J:args.length<=u)(H:d7):
  CL P X f args H=t6 P z H (LE P X l (N1 0 args) ⟨H.bs,H.n⟩):=by
 unfold fnL at h;split at h
 .rename_i c nt' O E;split at h
  next S I=>cases h;rw[QJ E D args J H,Je I];rfl
  .cases h
 .cases h
def Jg(x:Operand)(a b:t5)(e:Env)(H:d7):LE P X (.cond x a b) e H=JU (opv e x) (LE P X a e H) (LE P X b e H):=by
 cases h:opv e x with
 |bool t=>rw[Nl x a b e H h];rfl
 |_=>
  refine az (fun k r u=>?_) fun r u=>?_
  .simp only[D8,h]at u;cases u
  .simp only[JU]at u;cases u
def Mz(C:C4)(e:Env)(H:d7):aL P C [] e H=some (e,H):=rT
def DU(dst:Option Tmp)(op:Op)(rest:List LOp)(e:Env)(H:d7):
  aL P (CL P X) (⟨dst,op,none⟩::rest) e H=jG (aop P (CL P X) op e H) H fun v H'=>aL P (CL P X) rest (N4 e dst v) H':=by
 simp only[aL,eL,cK,jd,bF,jG]
 all_goals rfl
def Pw(dst:Option Tmp)(op:Op)(d:Tmp)(b:Bool)(rest:List LOp)(e:Env)(H:d7):
  aL P (CL P X) (⟨dst,op,some (d,b)⟩::rest) e H=
   brl (e.g d) b (jG (aop P (CL P X) op e H) H fun v H'=>aL P (CL P X) rest (N4 e dst v) H') (aL P (CL P X) rest (N4 e dst undef) H):=by
 simp only[aL,eL,cK,jG,brl];rfl
def zR(q t:Bool)(x:Option (Env×d7)):Of x (Option (Env×d7)):=if(!q&&t)=true then x else none
def Kj(x:Option (Env×d7)):zR false true x=x:=rT
def IE(C:C4)(q:Bool)(e:Env)(H:d7):bT P C q [] e H=some (e,H):=rT
def Bm(q t:Bool)(dst:Option Tmp)(op:Op)(rest:List (LOp×Bool))(e:Env)(H:d7):
  bT P (CL P X) q ((⟨dst,op,none⟩,t)::rest) e H=
   vA (aop P (CL P X) op e H) (fun v=>bT P (CL P X) (q||isCall op) rest (N4 e dst v) H) fun v H'=>zR q t (aL P (CL P X) (rest.map (·.1)) (N4 e dst v) H'):=by
 simp only[bT,eL,cK,jd,bF,vA,zR]
 all_goals rfl
def My(q t:Bool)(dst:Option Tmp)(op:Op)(d:Tmp)(b:Bool)(rest:List (LOp×Bool))(e:Env)(H:d7):
  bT P (CL P X) q ((⟨dst,op,some (d,b)⟩,t)::rest) e H=
   brl (e.g d) b (vA (aop P (CL P X) op e H) (fun v=>bT P (CL P X) (q||isCall op) rest (N4 e dst v) H) fun v H'=>zR q t (aL P (CL P X) (rest.map (·.1)) (N4 e dst v) H'))
    (bT P (CL P X) q rest (N4 e dst undef) H):=by
 simp only[bT,eL,cK,vA,zR,brl]
 all_goals rfl
def Nk(O l2:List LOp)(ds:List Nat)(b:t5)(e:Env)(H:d7):LE P X (.coin O l2 ds b) e H=sQ ds e H.n (t7 (X4 (aL P (CL P X) O e H)) (LE P X b)) (t7 (X4 (aL P (CL P X) l2 e H)) (LE P X b)):=by
 refine az (fun k r h=>?_) fun r h=>?_
 .simp only[D8]at h;cases u:aL P (CL P X) O e H with
  |none=>simp [u]at h
  |some q1=>
   cases E:aL P (CL P X) l2 e H with
   |none=>simp [u,E]at h
   |some q2=>
    obtain⟨e1,H1⟩:=q1;obtain⟨e2,H2⟩:=q2;rw[u,E]at h;obtain⟨o,e',H'⟩:=r;obtain⟨e3,H3,e4,H4,z,D,S,rfl,rfl,rfl⟩:=ai h;exact jR (aB _ z) (aB _ D) S
 .obtain⟨o,e',H'⟩:=r;obtain⟨e3,H3,e4,H4,z,D,S,rfl,rfl,rfl⟩:=ai h;cases u:aL P (CL P X) O e H with
  |none=>rw[u]at z;cases z
  |some q1=>
   cases E:aL P (CL P X) l2 e H with
   |none=>rw[E]at D;cases D
   |some q2=>
    rw[u]at z;rw[E]at D;obtain⟨I,U⟩:=Y1.1 z;obtain⟨J,W⟩:=Y1.1 D;refine⟨max I J+1,?_⟩;simp only[D8,u,E];exact jR (bu (fun _ _ _=>LeO.refl _) I (max I J) (Hz _ _) _ _ _ _ U) (bu (fun _ _ _=>LeO.refl _) J (max I J) (Hh _ _) _ _ _ _ W) S
def QO(l:List ML)(e:Env)(H:d7):LE P X (.mix l) e H=X4 (D1 P (CL P X) 0 [] [] l e H):=by
 refine az (fun k r h=>?_) fun r h=>⟨1,?_⟩
 .simp only[D8]at h;unfold X4;split at h
  next u=>rw[u];exact h
  .cases h
 .simp only[D8];unfold X4 at h;cases u:D1 P (CL P X) 0 [] [] l e H with
  |none=>simp [u]at h
  |some z=>simp only[u,xg]at h;exact h
open Classical in
noncomputable def need{α:Type}(p:Prop)(x:Option α):Of x (Option α):=if p then x else none
def HX{α:Type}(x:Option α):need True x=x:=by unfold need;exact bJ trivial
def De(ds:List Nat)(e u z:Env)(n:Nat)(h H2:d7):sQ ds e n (some (.normal,u,h)) (some (.normal,z,H2))=need (T5 n h=T5 n H2) (some (.normal,ds.map (fun d=>(d,lost))++e,T5 n h)):=rT
def mN(r:Option (aa3×Option d7))(f:aa3->Option (Env×d7)):Of f (Option (Env×d7)):=
 match r with
 |some (v,none)=>f v
 |_=>none
def Cn(v:aa3)(f:aa3->Option (Env×d7)):mN (some (v,none)) f=f v:=rT
def okV(x:Option (aa3×Option d7))(v:aa3):Prop:=x=some (v,none)
def LL(v:aa3):okV (some (v,none)) v=True:=by simp [okV]
def Oy(n m:Nat)(p:Prop):Prop:=n<=m->p
def Lg{n m:Nat}(p:Prop)(h:n<=m):Oy n m p=p:=propext ⟨fun q=>q h,fun q _=>q⟩
def Oz{n m:Nat}(p:Prop)(h:m<n):Oy n m p=True:=propext ⟨fun _=>trivial,fun _ q=>absurd q oM⟩
def JQ(j:Nat)(H:d7):xF P [] j H=True:=rT
def Gu(o:Op)(e:Env)(v:aa3)(hi:Nat)(r:List (Op×Env×aa3×Nat))(j:Nat)(H:d7):xF P ((o,e,v,hi)::r) j H=(Oy j hi (okV (aop P noC o e H) v)/\xF P r j H):=rT
def JP(o:Op)(e:Env)(v:aa3)(lo:Nat):xE P o e v lo []=True:=rT
def Gt(o:Op)(e:Env)(v:aa3)(lo j:Nat)(K:d7)(r:List (Nat×d7)):xE P o e v lo ((j,K)::r)=(Oy lo j (okV (aop P noC o e K) v)/\xE P o e v lo r):=rT
section
variable(t:Nat)(Ks:List (Nat×d7))(obs:List (Op×Env×Value×Nat))(dst:Option Tmp)(op:Op)(d:Tmp)(b:Bool)(lo hi:Nat)(rest:List ML)(e:Env)(H:d7)
def OP:D1 P (CL P X) t Ks obs [] e H=some (e,H):=rT
def LB(h:Bool):D1 P (CL P X) t Ks obs (⟨⟨dst,op,none⟩,true,h,lo,hi⟩::rest) e H=
  jG (aop P (CL P X) op e H) H fun v H'=>need (xF P obs (t+1) H') (D1 P (CL P X) (t+1) ((t,H)::Ks) obs rest (N4 e dst v) H'):=by
 simp only[D1,eL,cK,jd,bF,jG,need];cases aop P (CL P X) op e H with
 |none=>rfl
 |some z=>obtain⟨v,r⟩:=z;cases r<;>rfl
def HS(h:Bool):D1 P (CL P X) t Ks obs (⟨⟨dst,op,some (d,b)⟩,true,h,lo,hi⟩::rest) e H=
  brl (e.g d) b (jG (aop P (CL P X) op e H) H fun v H'=>need (xF P obs (t+1) H') (D1 P (CL P X) (t+1) ((t,H)::Ks) obs rest (N4 e dst v) H')) (D1 P (CL P X) (t+1) ((t,H)::Ks) obs rest (N4 e dst undef) H):=by
 simp only[D1,eL,cK,jd,jG,need,brl];cases aop P (CL P X) op e H with
 |none=>rfl
 |some z=>obtain⟨v,r⟩:=z;cases r<;>rfl
def Tc:D1 P (CL P X) t Ks obs (⟨⟨dst,op,none⟩,false,true,lo,hi⟩::rest) e H=
  mN (aop P noC op e H) fun v=>need (xE P op e v lo Ks) (D1 P (CL P X) t Ks ((op,e,v,hi)::obs) rest (N4 e dst v) H):=by
 simp only[D1,eL,cK,jd,mN,need,bF]
def OQ:D1 P (CL P X) t Ks obs (⟨⟨dst,op,some (d,b)⟩,false,true,lo,hi⟩::rest) e H=
  brl (e.g d) b (mN (aop P noC op e H) fun v=>need (xE P op e v lo Ks) (D1 P (CL P X) t Ks ((op,e,v,hi)::obs) rest (N4 e dst v) H)) (D1 P (CL P X) t Ks obs rest (N4 e dst undef) H):=by
 simp only[D1,eL,cK,jd,mN,need,bF,brl]
def LA:D1 P (CL P X) t Ks obs (⟨⟨dst,op,none⟩,false,false,lo,hi⟩::rest) e H=
  mN (aop P noC op e H) fun v=>D1 P (CL P X) t Ks obs rest (N4 e dst v) H:=by
 simp only[D1,eL,cK,jd,mN,bF]
def HP:D1 P (CL P X) t Ks obs (⟨⟨dst,op,some (d,b)⟩,false,false,lo,hi⟩::rest) e H=
  brl (e.g d) b (mN (aop P noC op e H) fun v=>D1 P (CL P X) t Ks obs rest (N4 e dst v) H) (D1 P (CL P X) t Ks obs rest (N4 e dst undef) H):=by
 simp only[D1,eL,cK,jd,mN,bF,brl]
end
def i5{B:t5}(I:Nat->Env->d7->Prop)(Q:Out->Env->d7->Prop)
  (u:∀n e H,I n e H->u7 (LE P X B e H) (ci n I Q)):∀n e H,I n e H->u7 (LE P X (.loop B) e H) Q:=by
 intro n;induction n using Nat.strongRecOn with
 |ind n O=>
  intro e H h;obtain⟨o,e',H',D,z⟩:=u n e H h;unfold u7;rw[T8,D];cases o with
  |normal=>
   obtain⟨m,J,E⟩:=z;exact O m J e' H' E
  |exit i=>exact⟨_,_,_,rfl,z⟩
  |ret=>exact⟨_,_,_,rfl,z⟩
def fP(F:Option (Out×Env×d7)->Option (Out×Env×d7)){x:Option (Out×Env×d7)}{Q G:Out->Env->d7->Prop}(h:u7 x Q)(u:∀o e H,Q o e H->u7 (F (some (o,e,H))) G):u7 (F x) G:=by
 obtain⟨o,e,H,E,D⟩:=h;have z:=u o e H D;unfold u7 at z ⊢;rw[E];exact z
end
structure d9(lo:Nat)(H H':d7):Prop where
 n:H.n<=H'.n
 lowAll:∀k,k<=lo->k<=H.low->k<=H'.low
 g:∀j,j<lo->H'.g j=H.g j
def d9.low{lo:Nat}{H H':d7}(h:d9 lo H H')(q:lo<=H.low):lo<=H'.low:=h.lowAll lo lR q
def d9.wk{lo u:Nat}{H H':d7}(h:d9 lo H H')(k:u<=lo):d9 u H H':=⟨h.n,fun j z=>h.lowAll j oM,fun j z=>h.g j oM⟩
def d9.refl(lo:Nat)(H:d7):d9 lo H H:=⟨lR,fun _ _ h=>h,fun _ _=>rfl⟩
def d9.trans{lo:Nat}{a b c:d7}(h:d9 lo a b)(k:d9 lo b c):d9 lo a c:=⟨HE h.n k.n,fun j u q=>k.lowAll j u (h.lowAll j u q),fun j u=>by rw[k.g j u,h.g j u]⟩
def d9.push{lo:Nat}{H:d7}{B:Blk}(h:lo<=H.n):d9 lo H (H.push B):=⟨by rw[i4];omega,fun _ _ q=>q,fun j u=>j5 oM⟩
def d9.put{lo b:Nat}{H:d7}{B:Blk}(h:lo<=b):d9 lo H (H.put b B):=⟨R2 _ |> fun q=>by rw[j9];exact q,fun k z q=>by rw[A9];omega,fun j u=>j7 oM⟩
def d9.start(H:d7):d9 H.n H ⟨H.bs,H.n⟩:=⟨lR,fun _ h _=>h,fun _ _=>rfl⟩
def d9.ret{lo:Nat}{H H':d7}(h:d9 lo H H')(z:lo<=H'.low):d9 lo H ⟨H'.bs,min H.low H'.low⟩:=⟨h.n,fun k u q=>by simp only;omega,h.g⟩
def bK(H:d7)(lo sz:Nat)(v:aa3)(n:Nat)(cs:LV):Prop:=
 (v= .slice none 0 0/\n=0/\cs=[])\/∃b,v= .slice (some ⟨b,0,none⟩) n (n+1)/\H.g b=some (.cells cs true sz)/\lo<=b/\cs.length=n*sz
def bK.push{H:d7}{lo sz:Nat}{v:aa3}{n:Nat}{cs:LV}(h:bK H lo sz v n cs)(B:Blk):bK (H.push B) lo sz v n cs:=by
 rcases h with h|⟨b,z,u,D⟩
 .exact .inl h
 .exact .inr ⟨b,z,by rw[j5 (u6 u)];exact u,D⟩
def bK.put{H:d7}{lo sz:Nat}{v:aa3}{n:Nat}{cs:LV}(h:bK H lo sz v n cs){b:Nat}(B:Blk)(E:∀c,v= .slice (some ⟨c,0,none⟩) n (n+1)->b≠c):bK (H.put b B) lo sz v n cs:=by
 rcases h with h|⟨c,u,z,D⟩
 .exact .inl h
 .exact .inr ⟨c,u,by rw[j7 (E c u)];exact z,D⟩
section
variable{P:Program}
def BW{t e:TypeId}{sz bytes:Nat}{z:LV}(ht:P.underlying t=some (.slice e))(hs:D5 P e=some sz)(U:T1 P e=some bytes)(hz:P8 P e=some z)(h0:0<sz)(h1:0<bytes)
  {H:d7} {lo:Nat} {v:aa3} {n:Nat} {cs:LV} (h:bK H lo sz v n cs) {c m k:Nat} {el:LV} {own:Bool} {q:Nat} (hc:H.g c=some (.cells el own q)) (hm:0<m) (I:el.length=m*sz) (X:(n+m)*bytes<=140737488355328) (u:lo<=H.n):
  ∃v' H',C2 P H [t,t] v (.slice (some ⟨c,0,none⟩) m k)=some (v',some H')/\bK H' lo sz v' (n+m) (cs++el)/\d9 lo H H':=by
 have O:I3 P t=some e:=by simp [I3,ht]
 have D:R7 P H sz z (some t) (.slice (some ⟨c,0,none⟩) m k)=some (m,el):=by
  simp only[R7,pB,ht,B9,hc];rw[bt oM,bJ oM];simp [<-I]
 have J:¬(sz=0\/bytes=0):=oM;rcases h with⟨rfl,rfl,rfl⟩|⟨b,rfl,W,S,E⟩
 .refine⟨.slice (some ⟨H.n,0,none⟩) m (m+1),H.push (.cells el true sz),?_,.inr ⟨H.n,by rw[tV],j6,u,by simpa using I⟩,d9.push u⟩;simp only[C2,yC,pB,O,hs,U,hz,pt,pA,bt J,D];rw[bt oM,bJ (by simpa using X)]
 .have a1:=u6 W;refine⟨.slice (some ⟨H.n,0,none⟩) (n+m) (n+m+1),(H.put b .dead).push (.cells (cs++el) true sz),?_,.inr ⟨H.n,rfl,A4 ⟨by simp [j9],by simp [j9]⟩,u,by rw[dx,E,I,wS]⟩,(d9.put S).trans (d9.push (by rw[j9];exact u))⟩;simp only[C2,yC,pB,O,hs,U,hz,pt,pA,bt J,D,W];rw[bt oM,bJ X,bJ (by simp;omega),bt oM];simp [<-E]
end
def dk(v:aa3)(h:Option d7):Option (aa3×Option d7):=some (v,h)
def Ret(x:Option (aa3×Option d7))(H:d7)(Q:aa3->d7->Prop):Prop:=∃v h H1,x=dk v h/\h.getD H=H1/\Q v H1
def Gy(v:aa3)(h:Option d7)(H:d7)(f:aa3->d7->Option (Env×d7)):jG (dk v h) H f=f v (h.getD H):=by cases h<;>rfl
def Ak(v:aa3)(H H':d7)(Q:aa3->d7->Prop)(u:Q4 v=true->H.n<=H'.low->Q v H)(z:Q v ⟨H'.bs,min H.low H'.low⟩):∃w h,F7 v H H'=(w,h)/\Q w (h.getD H):=by
 unfold F7;by_cases h:(Q4 v&&decide (H.bs.length<=H'.low))=true
 .rw[bJ h];simp only[cA,eT]at h;exact⟨v,none,rfl,u h.1 h.2⟩
 .rw[bt h];exact⟨v,_,rfl,z⟩
def E1{v:aa3}{H H':d7}{Q:aa3->d7->Prop}(u:Q4 v=true->H.n<=H'.low->Q v H)(z:Q v ⟨H'.bs,min H.low H'.low⟩):Ret (some (F7 v H H')) H Q:=by
 obtain⟨w,h,D,E⟩:=Ak v H H' Q u z;exact⟨w,h,_,by rw[D,dk],rfl,E⟩
def cn{v:aa3}{c:Bool}{H h:d7}{Q:aa3->d7->Prop}(u:c=true->Q v H)(z:Q v h):Ret (some (br c (v,none) (v,some h))) H Q:=by
 cases c
 .exact⟨v,_,_,rfl,rfl,z⟩
 .exact⟨v,_,_,rfl,rfl,u rfl⟩
def bK.na{H H0:d7}{lo sz:Nat}{v:aa3}{n:Nat}{cs:LV}(h:bK H lo sz v n cs)(u:na1 v=true):bK H0 lo sz v n cs:=by
 rcases h with h|⟨b,z,D,E⟩
 .exact .inl h
 .rw[z]at u;cases u
def bK.low{H:d7}{lo sz:Nat}{v:aa3}{n:Nat}{cs:LV}(h:bK H lo sz v n cs)(l:Nat):bK ⟨H.bs,l⟩ lo sz v n cs:=by
 rcases h with h|⟨b,u,z,D⟩
 .exact .inl h
 .exact .inr ⟨b,u,z,D⟩
def i8(F:Option (Out×Env×d7)->Prop){x:Option (Out×Env×d7)}{Q:Out->Env->d7->Prop}(h:u7 x Q)(u:∀o e H,Q o e H->F (some (o,e,H))):F x:=by
 obtain⟨o,e,H,D,z⟩:=h;rw[D];exact u o e H z
section
variable{P:Program}
def DG(d:Option TypeDesc)(H:d7)(s:aa2):Option (aa3×Option d7):=
 match d with
 |some .string=>some (.pointer (some ⟨H.n,0,none⟩),some (H.push (.iter s 0)))
 |_=>none
def DF(t:TypeId)(H:d7)(s:aa2):DE P t H (.string s)=DG (P.underlying t) H s:=by
 unfold DE DG;cases P.underlying t with
 |none=>rfl
 |some d=>cases d<;>rfl
def DH(H:d7)(s:aa2):DG (some .string) H s=some (.pointer (some ⟨H.n,0,none⟩),some (H.push (.iter s 0))):=rT
def LI(x:Option Blk)(H:d7)(b:Nat):Option (aa3×Option d7):=
 match x with
 |some (.iter s pos)=>br (decide (pos<s.size)) (some (.tuple #[.bool true,.int .i64 pos,.int .i32 (Utf8.decode s pos).1],some (H.put b (.iter s (pos+(Utf8.decode s pos).2))))) (some (.tuple #[.bool false],none))
 |_=>none
def HY(H:d7)(b:Nat):nu H (.pointer (some ⟨b,0,none⟩))=LI (H.g b) H b:=by
 unfold nu LI;simp only;generalize H.g b=q;cases q with
 |none=>rfl
 |some x=>cases x<;>simp [br,goInt]
def Dp(s:aa2)(h:Nat)(H:d7)(b:Nat):LI (some (.iter s h)) H b=br (decide (h<s.size)) (some (.tuple #[.bool true,.int .i64 h,.int .i32 (Utf8.decode s h).1],some (H.put b (.iter s (h+(Utf8.decode s h).2))))) (some (.tuple #[.bool false],none)):=rT
def bn(s:aa2)(i:Nat):1<=(Utf8.decode s i).2:=by
 unfold Utf8.decode;simp only;split
 .simp
 .split
  .split<;>simp
  .split
   .split<;>simp
   .split
    .split<;>simp
    .simp
end
def d9.first(H:d7)(B:Blk):d9 H.n H (d7.push ⟨H.bs,H.n⟩ B):=(d9.start H).trans (d9.push lR)
def SlI(H:d7)(lo sz:Nat){α:Type}(R:LV->α->Prop)(v:aa3)(l:List α):Prop:=
 (v= .slice none 0 0/\l=[])\/
 ∃b o c,v= .slice (some ⟨b,o,none⟩) l.length c/\
  (l=[]\/∃cs own,b<lo/\H.g b=some (.cells cs own sz)/\o+l.length*sz<=cs.length/\∀(i:Nat) a,l[i]?=some a->R ((cs.drop (o+i*sz)).take sz) a)
def SlI.mono{H H':d7}{lo u sz:Nat}{α:Type}{R R':LV->α->Prop}{v:aa3}{l:List α}(h:SlI H lo sz R v l)(O:∀j,j<lo->H'.g j=H.g j) (U:lo<=u) (J:∀cs a,R cs a->R' cs a):SlI H' u sz R' v l:=by
 rcases h with h|⟨b,o,c,W,h⟩
 .exact .inl h
 .refine .inr ⟨b,o,c,W,?_⟩;rcases h with h|⟨cs,own,z,D,E,I⟩
  .exact .inl h
  .exact .inr ⟨cs,own,oM,by rw[O b z];exact D,E,fun i a S=>J _ _ (I i a S)⟩
def SlI.form{H:d7}{lo sz:Nat}{α:Type}{R:LV->α->Prop}{v:aa3}{l:List α}(h:SlI H lo sz R v l):
  (v= .slice none 0 0/\l=[])\/(∃b o c,v= .slice (some ⟨b,o,none⟩) 0 c/\l=[])\/
  ∃b o c cs own,v= .slice (some ⟨b,o,none⟩) l.length c/\0<l.length/\b<lo/\H.g b=some (.cells cs own sz)/\o+l.length*sz<=cs.length/\∀(i:Nat) a,l[i]?=some a->R ((cs.drop (o+i*sz)).take sz) a:=by
 rcases h with h|⟨b,o,c,u,h⟩
 .exact .inl h
 .rcases h with h|⟨cs,own,D,E,I,J⟩
  .subst h;exact .inr (.inl ⟨b,o,c,u,rfl⟩)
  .by_cases z:l=[]
   .subst z;exact .inr (.inl ⟨b,o,c,u,rfl⟩)
   .exact .inr (.inr ⟨b,o,c,cs,own,u,ZT.2 z,D,E,I,J⟩)
def SlI.slice{H:d7}{lo sz:Nat}{α:Type}{R:LV->α->Prop}{v:aa3}{l:List α}(h:SlI H lo sz R v l):∃a c,v= .slice a l.length c:=by
 rcases h with⟨h,u⟩|⟨b,o,c,z,h⟩
 .exact⟨none,0,by rw[h,u];rfl⟩
 .exact⟨_,_,z⟩
def SlI.at_{H:d7}{lo sz:Nat}{α:Type}{R:LV->α->Prop}{v:aa3}{l:List α}(h:SlI H lo sz R v l){i:Nat}{a:α}(z:l[i]?=some a):
  ∃b o c cs own,v= .slice (some ⟨b,o,none⟩) l.length c/\b<lo/\H.g b=some (.cells cs own sz)/\o+i*sz+sz<=cs.length/\R ((cs.drop (o+i*sz)).take sz) a:=by
 have u:i<l.length:=(gS z).1;rcases h with⟨_,h⟩|⟨b,o,c,J,h⟩
 .subst h;simp at u
 .rcases h with h|⟨cs,own,D,E,O,I⟩
  .subst h;simp at u
  .refine⟨b,o,c,cs,own,J,D,E,?_,I i a z⟩;have:(i+1)*sz<=l.length*sz:=yG _ u;rw[wS]at this;omega
def aE{cs enc:LV}{o sz:Nat}(h:o+sz<=cs.length)(u:(cs.drop o).take sz=enc):ldC (some true) (some sz) o cs=some (.agg enc.toArray):=by rw[iY _ _ _ h,u]
def E7{cs enc:LV}{o sz k:Nat}(h:k<sz)(u:(cs.drop o).take sz=enc):cs[o+k]?=enc[k]?:=by
 rw[<-u,xd,bJ h,vu]
def eR(H:d7)(lo sz:Nat)(v:aa3)(n:Nat)(cs:LV):Prop:=
 (v= .slice none 0 0/\n=0/\cs=[])\/∃b c,v= .slice (some ⟨b,0,none⟩) n c/\H.g b=some (.cells cs true sz)/\lo<=b/\cs.length=n*sz
def eR.mono{H H':d7}{lo u sz:Nat}{v:aa3}{n:Nat}{cs:LV}(h:eR H lo sz v n cs)(O:u<=lo)(I:∀j,j<H.n->H'.g j=H.g j):eR H' u sz v n cs:=by
 rcases h with h|⟨b,c,D,z,J,E⟩
 .exact .inl h
 .exact .inr ⟨b,c,D,by rw[I b (u6 z)];exact z,oM,E⟩
def bK.ownC{H:d7}{lo sz:Nat}{v:aa3}{n:Nat}{cs:LV}(h:bK H lo sz v n cs):eR H lo sz v n cs:=by
 rcases h with h|⟨b,u,z⟩
 .exact .inl h
 .exact .inr ⟨b,_,u,z⟩
def eR.slice{H:d7}{lo sz:Nat}{v:aa3}{n:Nat}{cs:LV}(h:eR H lo sz v n cs):∃a c,v= .slice a n c:=by
 rcases h with⟨h,rfl,_⟩|⟨b,c,u,_⟩
 .exact⟨none,0,h⟩
 .exact⟨_,_,u⟩
def eR.cells{H:d7}{lo sz:Nat}{v:aa3}{n:Nat}{cs:LV}(h:eR H lo sz v n cs)(D:0<sz):∃a c,v= .slice a n c/\B9 H sz (.slice a n c)=some cs:=by
 rcases h with⟨rfl,rfl,rfl⟩|⟨b,c,rfl,z,E,I⟩
 .exact⟨none,0,rfl,rfl⟩
 .refine⟨_,_,rfl,?_⟩;simp only[B9,z];by_cases u:n=0
  .subst u;have:cs=[]:=pF.1 oM;simp [this]
  .rw[bt u,bJ oM,lP,kC oM]
def F1{α:Type}(sz:Nat)(R:LV->α->Prop)(cs:LV)(l:List α):Prop:=
 cs.length=l.length*sz/\∀(i:Nat) a,l[i]?=some a->R ((cs.drop (i*sz)).take sz) a
def F1.append{α:Type}{sz:Nat}{R:LV->α->Prop}{c1 c2:LV}{u l2:List α}(h:F1 sz R c1 u)(k:F1 sz R c2 l2):F1 sz R (c1++c2) (u++l2):=by
 refine⟨by rw[dx,dx,h.1,k.1,wS],fun i a z=>?_⟩;by_cases E:i<u.length
 .rw[gk E]at z;have:=h.2 i a z;have D:(i+1)*sz<=u.length*sz:=yG _ E;rw[wS]at D;rw[Mk (by rw[h.1];omega),A2 (by rw[Ad,h.1];omega)];exact this
 .rw[ns oM]at z;have:=k.2 _ a z;have e:i*sz=c1.length+(i-u.length)*sz:=by rw[h.1,<-wS];congr 1;omega
  rw[e,<-EE,aaa];exact this
def SlI.cells{H:d7}{lo sz:Nat}{α:Type}{R:LV->α->Prop}{v:aa3}{l:List α}(h:SlI H lo sz R v l):∃el,B9 H sz v=some el/\F1 sz R el l:=by
 rcases h.form with⟨rfl,rfl⟩|⟨b,o,c,rfl,rfl⟩|⟨b,o,c,cs,own,rfl,O,S,D,E,I⟩
 .exact⟨[],rfl,by simp [F1]⟩
 .exact⟨[],by simp [B9],by simp [F1]⟩
 .refine⟨(cs.drop o).take (l.length*sz),by simp only[B9,D];rw[bt oM,bJ E],by rw[Ib,Ad];omega,fun i a z=>?_⟩;have:=I i a z;have J:i<l.length:=(gS z).1;have u:(i+1)*sz<=l.length*sz:=yG _ J;rw[wS]at u;rw[List.drop_take,WJ,EE,ZM oM];exact this
def F1.mono{α:Type}{sz:Nat}{R R':LV->α->Prop}{c:LV}{l:List α}(h:F1 sz R c l)(u:∀cs a,R cs a->R' cs a):F1 sz R' c l:=⟨h.1,fun i a z=>u _ _ (h.2 i a z)⟩
def eR.sl{H:d7}{lo sz:Nat}{α:Type}{R:LV->α->Prop}{v:aa3}{l:List α}{cs:LV}(h:eR H lo sz v l.length cs)(D:F1 sz R cs l):SlI H H.n sz R v l:=by
 rcases h with⟨h,u,_⟩|⟨b,c,z,u,I,J⟩
 .exact .inl ⟨h,pF.1 u⟩
 .refine .inr ⟨b,0,c,z,.inr ⟨cs,true,u6 u,u,oM,fun i a E=>?_⟩⟩;rw[tV];exact D.2 i a E
def Mo{α:Type}{sz:Nat}{enc:α->LV}(hs:∀a,(enc a).length=sz) (l:List α):F1 sz (fun cs a=>cs=enc a) (l.flatMap enc) l:=by
 refine⟨?_,fun i a h=>(si hs h).2⟩;induction l with
 |nil=>simp
 |cons x l u=>rw[vM,dx,hs,u,kO,wS];omega
def zm{P:Program}{t e:TypeId}{sz bytes:Nat}{z:LV}(ht:P.underlying t=some (.slice e))(hs:D5 P e=some sz)(S:T1 P e=some bytes)(X:P8 P e=some z)(h0:0<sz)(h1:0<bytes)
  {H:d7} {lo:Nat} {v:aa3} {n:Nat} {cs:LV} (h:eR H lo sz v n cs) {a:Option Addr} {m k:Nat} {el:LV} (hx:B9 H sz (.slice a m k)=some el) (O:el.length=m*sz) (hr:(n+m)*bytes<=140737488355328) (D:lo<=H.n):
  Ret (C2 P H [t,t] v (.slice a m k)) H fun v' H'=>eR H' lo sz v' (n+m) (cs++el)/\d9 lo H H':=by
 have J:I3 P t=some e:=by simp [I3,ht]
 have u:R7 P H sz z (some t) (.slice a m k)=some (m,el):=by
  simp only[R7,pB,ht,hx,xg]
 have I:¬(sz=0\/bytes=0):=oM;by_cases hm:m=0
 .subst hm;have he:el=[]:=pF.1 oM;subst he;rw[ly,su];refine⟨v,none,H,?_,rfl,h,d9.refl _ _⟩;rcases h with⟨rfl,rfl,rfl⟩|⟨b,c,rfl,hg,W,E⟩
  .simp [C2,J,hs,S,X,I,u,dk]
  .simp [C2,J,hs,S,X,I,u,dk]
 .rcases h with⟨rfl,rfl,rfl⟩|⟨b,c,rfl,hg,W,E⟩
  .refine⟨.slice (some ⟨H.n,0,none⟩) m (m+1),some (H.push (.cells el true sz)),_,?_,rfl,.inr ⟨H.n,_,by rw[tV],j6,D,by simpa using O⟩,d9.push D⟩;simp only[C2,yC,pB,J,hs,S,X,pt,pA,bt I,u];rw[bt hm,bJ (by simpa using hr),dk]
  .have a1:=u6 hg;have U:((cs.drop 0).take (n*sz))=cs:=by rw[lP,kC oM]
   by_cases hc:c=n
   .refine⟨.slice (some ⟨H.n,0,none⟩) (n+m) (n+m+1),some (H.push (.cells (cs++el) true sz)),_,?_,rfl,.inr ⟨H.n,_,rfl,j6,D,by rw[dx,E,O,wS]⟩,d9.push D⟩;simp only[C2,yC,pB,J,hs,S,X,pt,pA,bt I,u,hg,U];rw[bt hm,bJ hr,bJ (by simp;omega),bJ hc,dk]
   .refine⟨.slice (some ⟨H.n,0,none⟩) (n+m) (n+m+1),some ((H.put b .dead).push (.cells (cs++el) true sz)),_,?_,rfl,.inr ⟨H.n,_,rfl,A4 ⟨by simp [j9],by simp [j9]⟩,D,by rw[dx,E,O,wS]⟩,(d9.put W).trans (d9.push (by rw[j9];exact D))⟩;simp only[C2,yC,pB,J,hs,S,X,pt,pA,bt I,u,hg,U];rw[bt hm,bJ hr,bJ (by simp;omega),bt hc,bJ trivial,dk]
section
variable{P:Program}
def Fj(P:Program)(q:Option (TypeId×TypeId))(B:Option Blk)(k:aa3)(ok:Bool):Option aa3:=
 match q with
 |some (kt,et)=>
  if bA P kt k then
   match B with
   |some (.map es)=>
    match lq P kt k es 0,ko P et with
    |some (some (_,v)),some _=>some (if ok then .tuple #[v,.bool true] else v)
    |some none,some z=>some (if ok then .tuple #[z,.bool false] else z)
    |_,_=>none
   |_=>none
  else none
 |none=>none
def AM(H:d7)(t:TypeId)(b:Nat)(k:aa3)(ok:Bool):kH P H t (.map (some b)) k ok=Fj P (yU P t) (H.g b) k ok:=by
 unfold kH Fj;cases yU P t with
 |none=>rfl
 |some q=>
  simp only;split
  .generalize H.g b=B;cases B with
   |none=>rfl
   |some B=>cases B<;>rfl
  .rfl
def PT(P:Program)(q:Option (TypeId×TypeId))(B:Option Blk)(H:d7)(b:Nat)(k v:aa3):Option d7:=
 match q with
 |some (kt,_)=>
  if bA P kt k then
   match B with
   |some (.map es)=>
    match lq P kt k es 0 with
    |some (some (i,_))=>some (H.put b (.map (es.set i (k,v))))
    |some none=>some (H.put b (.map (es++[(k,v)])))
    |none=>none
   |_=>none
  else none
 |none=>none
def tg(H:d7)(t:TypeId)(b:Nat)(k v:aa3):bD P H t (.map (some b)) k v=PT P (yU P t) (H.g b) H b k v:=by
 unfold bD PT;cases yU P t with
 |none=>rfl
 |some q=>
  simp only;split
  .generalize H.g b=B;cases B with
   |none=>rfl
   |some B=>cases B<;>rfl
  .rfl
def eqT(ks:Option (List V7))(xs ys:LV):Option Bool:=
 match ks with
 |some ks=>C0 ks xs ys
 |none=>none
def zt(t:TypeId)(xs h:Array aa3):L3 P .eql t (.agg xs) (.agg h)=(eqT (qq P t) xs.toList h.toList).map .bool:=by
 simp only[L3,eqA,eqT];cases qq P t<;>rfl
def pK(t:TypeId)(xs h:Array aa3):L3 P .neq t (.agg xs) (.agg h)=(eqT (qq P t) xs.toList h.toList).map fun b=> .bool !b:=by
 simp only[L3,eqA,eqT];cases qq P t<;>rfl
def zX(h:List V7)(xs u:LV):eqT (some h) xs u=C0 h xs u:=rT
def JN:C0 [] [] []=some true:=rT
def D7(h:List V7)(a b:aa2)(xs u:LV):C0 (.str::h) (.string a::xs) (.string b::u)=(C0 h xs u).map (decide (a=b)&& ·):=by
 simp only[C0,Q8,yO];cases C0 h xs u<;>rfl
def kg(k:aa2×aa2)(l:List (aa2×aa2)):Bool:=l.any fun x=>decide (k=x)
end
abbrev qw{p:Prop}(_:p):Prop:=p
def stOf{p:Prop}(h:p):qw h:=h
def fk:qw (aI (aI (aI (aI @QS @QP) (aI @Nm (aI @Jg @Jf))) (aI (aI @QQ @Nn) (aI @No (aI @Jh @DU)))) (aI (aI (aI @Pw @Bm) (aI @My (aI @QO @LB))) (aI (aI @HS @Tc) (aI @OQ (aI @LA @HP))))):=stOf _
def rH:qw (aI (aI (aI @l9 @A9) (aI @i4 @j9)) (aI (aI @Fo @AK) (aI @List.length_cons.{0} @List.length_nil.{0}))):=stOf _
def TG:qw (aI (aI (aI (aI (aI @Option.getD_some.{0} (aI @Mz @IE)) (aI (aI @Nk @De) (aI @JH @Gj))) (aI (aI (aI @NM @OP) (aI @HX @Cn)) (aI (aI @JQ @Gu) (aI @JP @Gt)))) (aI (aI (aI @LL (aI @Lg @Oz)) (aI (aI @Kj @Cl) (aI @Cm @Hr))) (aI (aI (aI @Hp @Az) (aI @uN @AA)) (aI (aI @CZ @Ht) (aI @Ay @xU))))) (aI (aI (aI (aI @oV (aI @xV @oW)) (aI (aI @sN @sO) (aI @xT @xW))) (aI (aI (aI @uO @Mj) (aI @CY @Lf)) (aI (aI @Ho @Ld) (aI @Hn @Jy)))) (aI (aI (aI @BT (aI @JA @Dy)) (aI (aI @FR @Nv) (aI @FS @rv))) (aI (aI (aI @Jv @FY) (aI @xl @Nu)) (aI (aI @QW @zj) (aI @Ju @Nw)))))):=stOf _
def TH:qw (aI (aI (aI (aI (aI @Jw (aI @FX @uD)) (aI (aI @FU @uE) (aI @FV @BU))) (aI (aI (aI @uG @FW) (aI @Jz @zk)) (aI (aI @rX @zi) (aI @Jt @zo)))) (aI (aI (aI @IT (aI @OE @Co)) (aI (aI @Cp @Iu) (aI @It @Pk))) (aI (aI (aI @Ii @LT) (aI @KU @Ny)) (aI (aI @NH @NF) (aI @Nz @QX))))) (aI (aI (aI (aI @NI (aI @BX @ND)) (aI (aI @NC @NB) (aI @NA @zu))) (aI (aI (aI @zy @zw) (aI @zD @Ub)) (aI (aI @Ua @bap) (aI @bcp @uR)))) (aI (aI (aI @gU (aI @uo @BD)) (aI (aI @jP @pW) (aI @iS @JV))) (aI (aI (aI @NL @JG) (aI @QZ @zE)) (aI (aI @rG @Pt) (aI @Pu @IA)))))):=stOf _
def TI:qw (aI (aI (aI (aI (aI @LX (aI @LY @Dx)) (aI (aI @Aj @sh) (aI @uM @CI))) (aI (aI (aI @iB @List.toList_toArray.{0}) (aI @Al @Am)) (aI (aI @xN @CH) (aI @LF @nr)))) (aI (aI (aI @Dl (aI @HU @OT)) (aI (aI @Mq @Bi) (aI @SQ @HI))) (aI (aI (aI @iY @OF) (aI @PM @IM)) (aI (aI @Gq @Gr) (aI @Ce @xz))))) (aI (aI (aI (aI @zH (aI @uJ @Gs)) (aI (aI @Cf @Pf) (aI @LQ @Dv))) (aI (aI (aI @Ih @AW) (aI @Pg @LR)) (aI (aI @Ed @Bv) (aI @MG @MF)))) (aI (aI (aI @uL (aI @qy @Em)) (aI (aI @Pm @Im) (aI @Io @GP))) (aI (aI (aI @Ag @qD) (aI @CV @Hj)) (aI (aI @qC @CW) (aI @Pa @OZ)))))):=stOf _
def TJ:qw (aI (aI (aI (aI (aI @JI (aI @uH @xu)) (aI (aI @Kv @GQ) (aI @CE @uI))) (aI (aI (aI @E4 @E5) (aI @NT @Cq)) (aI (aI @OH @Lu) (aI @OI @Dh)))) (aI (aI (aI @i4 (aI @j9 @A4)) (aI (aI @j5 @i9) (aI @j7 @l9))) (aI (aI (aI @A9 @Fo) (aI @AK @OW)) (aI (aI @Tg @HW) (aI @wj @wk))))) (aI (aI (aI (aI @LG (aI @OU @Dm)) (aI (aI @HV @OV) (aI @LH @Th))) (aI (aI (aI @if_true.{1} @if_false.{1}) (aI @eT @decide_true)) (aI (aI @aa0 @Option.map_some.{0,0}) (aI @Option.map_none.{0,0} @Option.bind_some.{0,0})))) (aI (aI (aI @List.map_cons.{0,0} (aI @List.map_nil.{0,0} @List.append_nil.{0})) (aI (aI @List.nil_append.{0} @List.cons_append.{0}) (aI @List.length_cons.{0} @List.length_nil.{0}))) (aI (aI (aI @List.take_succ_cons.{0} @List.take_zero.{0}) (aI @List.drop_succ_cons.{0} @List.drop_zero.{0})) (aI (aI @List.all_cons.{0} @List.all_nil.{0}) (aI @List.replicate_succ.{0} @List.replicate_zero.{0})))))):=stOf _
def TK:qw (aI (aI (aI (aI (aI @List.flatten_cons.{0} @List.flatten_nil.{0}) (aI @IC @Zg)) (aI (aI @G3 @Md) (aI @zb (aI @tT @TB)))) (aI (aI (aI @za @LS) (aI @EF @Yp)) (aI (aI @ne_eq.{1} @aaj) (aI @KA (aI @aas @aau))))) (aI (aI (aI (aI @aaR @tV) (aI @ly @Ck)) (aI (aI @R2 @Option.some.injEq.{0}) (aI @xA (aI @Gy @DF)))) (aI (aI (aI @DH @HY) (aI @Dp (aI @AM @tg))) (aI (aI @zt @pK) (aI @zX (aI @JN @D7)))))):=stOf _
def rQ:qw (aI (aI (aI TG TH) (aI TI TJ)) (aI (aI TK @List.getElem?_toArray.{0}) (aI @List.getElem?_cons_zero.{0} @List.getElem?_cons_succ.{0}))):=stOf _
section
variable{P:Program}{base:Bs}{w0:World}{φ:List Loc}{S:List Blk}{w:World}{nt:Nat}{e:Env}{a:Act}
def Ex:Obj->Bool
 | .loop _=>true
 | .deferred _=>true
 |_=>false
def BR.away{B:Blk}{l:Loc}(h:BR base φ B l w){k:Nat}{o:Obj}(D:w.heap[k]?=some o)(z:Ex o=true)(J:¬base.pr k)(I:B≠ .dead):l.blk≠k:=by
 intro q;cases B with
 |dead=>exact I rfl
 |cells c own sz=>
  cases own with
  |false=>exact J (q▸h.below)
  |true=>
   obtain⟨_,_,cs,t,W,u,_⟩:=h.2.2.2.2 rfl;rw[q,D]at u;cases u;cases z
 |map U=>
  obtain⟨_,E,O,u,_⟩:=h;rw[q,D]at u;cases u;cases z
 |iter s p=>
  have u:=h.2.2;rw[q,D]at u;cases u;cases z
def WR.putX(h:WR base w0 φ S w){k:Nat}{o:Obj}(U:w.heap[k]?=some o)(J:Ex o=true)(E:¬base.pr k)(W:Obj):WR base w0 φ S (w.putObj k W):=by
 refine⟨h.len,⟨h.below.os,h.below.tape,h.below.output,by rw[World.putObj_size];exact h.below.size,fun j z=>?_⟩,fun j z=>by rw[World.putObj_size];exact h.size j z,fun b B l I O=>?_,h.sep⟩
 .rw[Hy (show j≠k from fun q=>E (q▸z))];exact h.below.block j z
 .have u:=h.blk b B l I O;by_cases D:B= .dead
  .subst D;trivial
  .exact u.mono (Ext.refl φ) (Hy (u.away U J E D))
def sk(h:WR base w0 φ S w){k:Nat}{o:Obj}(O:w.heap[k]?=some o)(D:Ex o=true)(I:¬base.pr k)(U:Obj)(u:Nat):Fr φ S u w (w.putObj k U):=
 fun b B l _ z E J=>Hy ((h.blk b B l z J).away O D I E)
def WR.raiseX(h:WR base w0 φ S w)(Q:Nat->Prop)(u:∀k,Q k->¬base.pr k/\∃o,w.heap[k]?=some o/\Ex o=true):WR (base.add Q) w φ S w:=
 h.raise Q (fun k O=>(gA (u k O).2.choose_spec.1).1) fun b B l I W U J=>by
  obtain⟨z,o,D,E⟩:=u _ J;refine(h.blk b B l I U).away D E z ?_ rfl;rintro rfl;cases W
def WR.allocX(h:WR base w0 φ S w)(o:Obj):WR base w0 φ S (w.alloc o):=by
 refine h.grow ⟨by simp,fun j u _=>HF _ _ _ u⟩ (h.below.alloc h.size o)
def Ap(h:WR base w0 φ S w)(o:Obj)(D:Nat):Fr φ S D w (w.alloc o):=fun b B l _ E I J=>by
 refine HF _ _ _ ?_;have u:=h.blk b B l E J;by_cases z:B.mine=true
 .exact(u.lt z).2
 .cases B with
  |dead=>exact absurd rfl I
  |cells c own sz=>
   have:own=false:=by simpa [Blk.mine] using z
   subst this;exact h.size _ u.below
  |map O=>exact absurd rfl z
  |iter s p=>exact absurd rfl z
open Classical in
noncomputable def au(P:Program)(C:C4)(k:Nat)(A B:Code)(p1 p2:Nat)(e:Env)(ok:d7->Prop):List (Nat×Nat)->d7->Option (Out×d7)
 |[],H=>some (.normal,H)
 |x::r,H=>
  match P9 P C k A ((p2,.int .i64 (x.2:Int))::(p1,.int .i64 (x.1:Int))::e) H with
  |some (.normal,e1,H1)=>
   match P9 P C k B e1 H1 with
   |some (.normal,_,H2)=>if ok H2 then au P C k A B p1 p2 e ok r H2 else none
   |some (.ret,_,H2)=>some (.ret,H2)
   |_=>none
  |_=>none
def gj{P:Program}{C:C4}{k:Nat}{A B:Code}{p1 p2:Nat}{e:Env}{ok:d7->Prop}:∀(l r:List (Nat×Nat))(H:d7),
  au P C k A B p1 p2 e ok (l++r) H=match au P C k A B p1 p2 e ok l H with
   |some (.normal,H1)=>au P C k A B p1 p2 e ok r H1
   |z=>z
 |[],r,H=>rfl
 |x::l,r,H=>by
  simp only[vG,au];split
  .split
   .split
    .exact gj l r _
    .rfl
   .rfl
   .rfl
  .rfl
def fB{C:C4}(u:eg P base w0 C){k:Nat}{A B:Code}{p1 p2:Nat}{e:Env}{ok:d7->Prop}:∀(l:List (Nat×Nat))(H:d7){o:Out}{H':d7},au P C k A B p1 p2 e ok l H=some (o,H')->Le H H'
 |[],H,o,H',h=>by cases h;exact Le.refl _
 |x::l,H,o,H',h=>by
  simp only[au]at h;split at h
  .rename_i J I D;split at h
   .rename_i E H2 z;split at h
    .exact((T9 u D).trans (T9 u z)).trans (fB u l H2 h)
    .cases h
   next E H2 z=>cases h;exact(T9 u D).trans (T9 u z)
   .cases h
  .cases h
def BM(P:Program)(gf:Nat)(lb:Array aa3)(Rd:World->Prop)(L:List (Nat×Nat))(W0:World):Prop:=
 ∀(l:Nat)(J Jx:List (Nat×Nat)->World->Prop),(∀pre w,J pre w->J pre w.drew)->
  (∀pre(x:Nat×Nat) W,(pre++[x])<+:L->J pre W->YieldAt Fence.wide 1 P l #[.int .i64 (x.1:Int),.int .i64 (x.2:Int)] W fun e W'=>
   (e= .returned (.bool true)/\J (pre++[x]) W'/\(Rd W->Rd W'))\/(e= .returned (.bool false)/\Jx (pre++[x]) W'))->
  J [] W0->CallsIn Fence.wide 2 P gf (#[.func (.yield l) #[] #[]]++lb) W0 fun e W'=>(∃v,e= .returned v)/\(J L W'\/∃pre,pre<+:L/\Jx pre W')
def qI{C:C4}(hm:P.follows .mixedOrders=true)(hC:aV P C){k:Nat}{A B:Code}{p1 p2:Nat}{g:Operand}{ok:d7->Prop}{L:List (Nat×Nat)}{H Hf:d7}{o:Out}{Q:Exit->Act->World->Prop}
  (rA:I8 A=true) (rB:I8 B=true) (e4:N2 nt A=true) (c5:N2 nt B=true) (h1:p1<nt) (h2:p2<nt)
  (hE:ER φ nt e a) (hW:WR base w0 φ H.bs w) {gf:Nat} {lb:Array aa3} (hg:a.eval g= .func (.func gf) #[] lb) (d5:gu P gf)
  (Rd:World->Prop) (d3:∀φ' H' W',Ext φ φ'->WR base w0 φ' H'.bs W'->ok H'->Rd W')
  (c4:∀W0,WR base w0 φ H.bs W0->BM P gf lb Rd L W0)
  (h:au P C k A B p1 p2 e ok L H=some (o,Hf))
  (hp:∀φ' W',Ext φ φ'->WR base w0 φ' Hf.bs W'->Fr φ H.bs Hf.low w W'->W'.heap[w.heap.size]?=some (.deferred (some []))->Q o.exit' {a with defers:={target:= .collected w.heap.size,args:= #[]}::a.defers} W'):
  (Code.rangeFunc g #[p1,p2] A B).wp P Q a w:=by
 refine(ZF (n:=3)).1 (wpIn_rangeFunc fun fn d6=>?_);obtain⟨D,hD⟩:∃D,w.heap.size=D:=⟨_,rfl⟩
 rw[hD]at hp;have c8:¬base.pr D:=fun q=>oN (hW.size D q);have O:¬base.pr (D+1):=fun q=>oN (hW.size (D+1) q);obtain⟨E,u⟩:∃E:LoopState->Option Code->Loop,E=fun st pe=>{state:=st,pending:=pe,fn,tmps:=a.tmps,params:= #[p1,p2],assign:=A,body:=B,defers:=D}:=⟨_,rfl⟩
 obtain⟨W1,a6⟩:∃W1,(w.alloc (.deferred (some []))).alloc (.loop (E .ready none))=W1:=⟨_,rfl⟩
 have d2:W1.heap[D+1]?=some (.loop (E .ready none)):=by
  rw[<-a6,<-hD];have:=World.alloc_heap_new (w.alloc (.deferred (some []))) (.loop (E .ready none));rwa [World.size_alloc]at this
 have d1:W1.heap[D]?=some (.deferred (some [])):=by
  rw[<-a6,<-hD];exact(HF _ _ _ sM).trans (World.alloc_heap_new w _)
 have c6:WR base w0 φ H.bs W1:=by rw[<-a6];exact(hW.allocX _).allocX _
 have c7:Fr φ H.bs H.low w W1:=by
  rw[<-a6];exact Fr.trans (Ext.refl φ) (Le.refl H) (Le.refl H) hW.len (Ap hW _ _) (Ap (hW.allocX _) _ _)
 obtain⟨J0,a9⟩:=eY (fun o I W=>∃φ' H',au P C k A B p1 p2 e ok I H=some (o,H')/\Ext φ φ'/\WR base w0 φ' H'.bs W/\Fr φ H.bs H'.low w W/\W.heap[D]?=some (.deferred (some [])):Out->List (Nat×Nat)->World->Prop);have e3:=c4 W1 c6 (D+1) (fun I W=>J0 .normal I W/\W.heap[D+1]?=some (.loop (E .ready none))) (fun I W=>J0 .ret I W/\W.heap[D+1]?=some (.loop (E .done (some .ret))))
  (by
   rw[a9];rintro I W ⟨⟨φ',H',q1,q2,q3,q4,q5⟩,q6⟩;exact⟨⟨φ',H',q1,q2,q3.same_heap rfl rfl rfl rfl,q4,q5⟩,q6⟩)
  ?_ (by rw[a9];exact⟨⟨φ,H,rfl,Ext.refl φ,c6,c7,d1⟩,d2⟩)
 .refine⟨D+1,[{target:= .collected D,args:= #[]}],W1,{target:= .fn (.func gf) lb,args:= #[.func (.yield (D+1)) #[] #[]]},W1,gf,#[.func (.yield (D+1)) #[] #[]]++lb,W1,?_,?_,?_,?_,fun _=>oM,?_⟩
  .rw[<-a6,u,<-hD];exact run_enterLoop_outer _ _ _ _ _
  .simp only[resolve,hg];simp [go_sem]
  .intro f' e6;trivial
  .have:=nU d5 (#[.func (.yield (D+1)) #[] #[]]++lb) W1;simp [invoke,go_sem,this]
  .refine e3.mono ?_;rw[a9];rintro en W2 ⟨⟨v,rfl⟩,(⟨⟨φ',H',q1,q2,q3,q4,q5⟩,q6⟩|⟨I,a7,⟨φ',H',q1,q2,q3,q4,q5⟩,q6⟩)⟩
   .rw[h]at q1;cases q1;refine⟨none,_,by have:=run_endLoop (P:=P) q6 (by rw[u];simp);rw[u]at this;exact this,?_⟩;exact hp φ' _ q2 (q3.putX q6 rfl O _) (Fr.trans q2 (fB (hC base w0) L H h) (Le.refl _) hW.len q4 (sk q3 q6 rfl O _ _)) ((Hy oM).trans q5)
   .obtain⟨r,rfl⟩:=a7;rw[gj,q1]at h;cases h;refine⟨some .ret,_,by have:=run_endLoop (P:=P) q6 (by rw[u];simp);rw[u]at this;exact this,wpIn_ret ?_⟩;exact hp φ' _ q2 (q3.putX q6 rfl O _) (Fr.trans q2 (fB (hC base w0) I H q1) (Le.refl _) hW.len q4 (sk q3 q6 rfl O _ _)) ((Hy oM).trans q5)
 ·
  rw[a9];rintro I x W a7 ⟨⟨φ',H',q1,q2,q3,q4,q5⟩,q6⟩;have hy:=run_yield (P:=P) (args:= #[.int .i64 (x.1:Int),.int .i64 (x.2:Int)]) q6 (by rw[u];rfl);rw[u]at hy;refine⟨fn,_,A,B,hy,roundIn_of_wpIn d6 ?_⟩;have hx:au P C k A B p1 p2 e ok [x] H'≠none:=by
   intro hn;obtain⟨r,rfl⟩:=a7;rw[gj,gj,q1]at h;simp only[hn]at h;cases h
  have z:=gj (P:=P) (C:=C) (k:=k) (A:=A) (B:=B) (p1:=p1) (p2:=p2) (e:=e) (ok:=ok) I [x] H;rw[q1]at z;simp only[au]at hx z;have b0:=fB (hC base w0) I H q1;have d0:ER φ' nt ((p2,.int .i64 (x.2:Int))::(p1,.int .i64 (x.1:Int))::e) {tmps:=(#[p1,p2].zip #[(.int .i64 (x.1:Int):aa3),.int .i64 (x.2:Int)]).foldl (fun t(p,v)=>t.setIfInBounds p v) a.tmps,defers:=[]}:=by
   have h3:=((hE.mono q2).put (d:=some p1) (by simp [jp,h1]) (.int .i64 (x.1:Int))).put (d:=some p2) (by simp [jp,h2]) (.int .i64 (x.2:Int));have hz:(#[p1,p2].zip #[(.int .i64 (x.1:Int):aa3),.int .i64 (x.2:Int)]).foldl (fun t(p,v)=>t.setIfInBounds p v) a.tmps=(a.tmps.setIfInBounds p1 (.int .i64 (x.1:Int))).setIfInBounds p2 (.int .i64 (x.2:Int)):=sM;rw[hz];exact⟨h3.size,h3.val⟩
  split at hx
  rotate_left
  .exact absurd rfl hx
  rename_i e1 H1 hA;simp only[hA]at z;have b1:=T9 (hC base w0) hA;have a3:∀{φ2:List Loc}{S2:List Blk}{V:World}{st:Loop},WR base w0 φ2 S2 V->V.heap[D]?=some (.deferred (some []))->V.heap[D+1]?=some (.loop st)->WR (base.add fun j=>j=D\/j=D+1) V φ2 S2 V:=fun hV hd hl=>
   hV.raiseX _ fun j hj=>by
    rcases hj with rfl|rfl
    .exact⟨c8,_,hd,rfl⟩
    .exact⟨O,_,hl,rfl⟩
  refine lU (base:=base.add fun j=>j=D\/j=D+1) (w0:=W) hm hC (D+1) _ rA e4 hA d0 (a3 q3 q5 q6) ?_;intro φ2 a2 w2 a5 b9 b5 c0 e5;have k5:w2.heap[D]?=some (.deferred (some [])):=(b5.below.block D (.inr (.inl rfl))).trans q5;have k6:w2.heap[D+1]?=some (.loop (E .ready none)):=(b5.below.block (D+1) (.inr (.inr rfl))).trans q6;have b2:=b5.lower q3.below;refine⟨_,run_beginRound k6 (by rw[u]),?_⟩;obtain⟨w3,a8⟩:∃w3,w2.putObj (D+1) (.loop {E .ready none with state:= .busy})=w3:=⟨_,rfl⟩
  rw[a8];have m5:w3.heap[D]?=some (.deferred (some [])):=by rw[<-a8];exact(Hy oM).trans k5
  have m6:w3.heap[D+1]?=some (.loop (E .busy none)):=by
   rw[<-a8,aaA (gA k6).1,u]
  have b6:WR base w0 φ2 H1.bs w3:=by rw[<-a8];exact b2.putX k6 rfl O _
  have f3:Fr φ H.bs H1.low w w3:=by
   have g1:Fr φ' H'.bs H1.low W w2:=c0;have g2:Fr φ2 H1.bs H1.low w2 w3:=by rw[<-a8];exact sk b2 k6 rfl O _ _
   exact Fr.trans (q2.trans a5) (b0.trans b1) (Le.refl _) hW.len (Fr.trans q2 b0 b1 hW.len q4 g1) g2
  have b8:∀{φ4:List Loc}{H2:d7}{w4:World}(J:Option Code),Ext φ2 φ4->Le H1 H2->WR (base.add fun j=>j=D\/j=D+1) w3 φ4 H2.bs w4->Fr φ2 H1.bs H2.low w3 w4->
    ∃w5,(Instr.endRound (D+1) J).run P w4= .ok (.bool J.isNone) w5/\WR base w0 φ4 H2.bs w5/\Fr φ H.bs H2.low w w5/\w5.heap[D]?=some (.deferred (some []))/\w5.heap[D+1]?=some (.loop (E (if J.isNone then .ready else .done) J)):=by
   intro φ4 H2 w4 J X b4 a1 U;have n5:w4.heap[D]?=some (.deferred (some [])):=(a1.below.block D (.inr (.inl rfl))).trans m5;have n6:w4.heap[D+1]?=some (.loop (E .busy none)):=(a1.below.block (D+1) (.inr (.inr rfl))).trans m6;have b3:=a1.lower b6.below;refine⟨_,run_endRound J n6,b3.putX n6 rfl O _,?_,(Hy oM).trans n5,?_⟩
   .exact Fr.trans ((q2.trans a5).trans X) ((b0.trans b1).trans b4) (Le.refl _) hW.len (Fr.trans (q2.trans a5) (b0.trans b1) b4 hW.len f3 U) (sk b3 n6 rfl O _ _)
   .rw[aaA (gA n6).1,u]
  split at hx
  .rename_i e2 H2 hB;have b7:=T9 (hC base w0) hB;simp only[hB]at z;split at hx
   rotate_left
   .exact absurd rfl hx
   rename_i c3;rw[bJ c3]at z;refine lU (base:=base.add fun j=>j=D\/j=D+1) (w0:=w3) hm hC (D+1) _ rB c5 hB b9 (a3 b6 m5 m6) ?_;intro φ4 a4 w4 X c9 a1 U d4;obtain⟨w5,r1,r2,r3,r4,r5⟩:=b8 none X b7 a1 U;exact⟨_,w5,r1,.inl ⟨rfl,⟨⟨φ4,H2,z,(q2.trans a5).trans X,r2,r3,r4⟩,r5⟩,fun _=>d3 φ4 H2 w5 ((q2.trans a5).trans X) r2 c3⟩⟩
  next e2 H2 hB=>have b7:=T9 (hC base w0) hB;simp only[hB]at z;refine lU (base:=base.add fun j=>j=D\/j=D+1) (w0:=w3) hm hC (D+1) _ rB c5 hB b9 (a3 b6 m5 m6) ?_;intro φ4 a4 w4 X c9 a1 U d4;obtain⟨w5,r1,r2,r3,r4,r5⟩:=b8 (some .ret) X b7 a1 U;exact⟨_,w5,r1,.inr ⟨rfl,⟨φ4,H2,z,(q2.trans a5).trans X,r2,r3,r4⟩,r5⟩⟩
  .exact absurd rfl hx
end
section
variable{P:Program}{X:Lib}
def BK(D:P.follows .mixedOrders=true)(u:vg P X):aV P (CL P X):=fun base w0 g args H v r h=>by
 obtain⟨k,z⟩:=eN.1 h;exact NN D u k base w0 g args H v r z
open Classical in
noncomputable def dH(P:Program)(X:Lib)(A B:t5)(p1 p2:Nat)(e:Env)(ok:d7->Prop):List (Nat×Nat)->d7->Option (Out×d7)
 |[],H=>some (.normal,H)
 |x::r,H=>
  match(LE P X A ((p2,.int .i64 (x.2:Int))::(p1,.int .i64 (x.1:Int))::e) H:Option (Out×Env×d7))with
  |some (.normal,e1,H1)=>
   match(LE P X B e1 H1:Option (Out×Env×d7))with
   |some (.normal,_,H2)=>if ok H2 then dH P X A B p1 p2 e ok r H2 else none
   |some (.ret,_,H2)=>some (.ret,H2)
   |_=>none
  |_=>none
def iC{c:Code}{l:t5}(h:V4 c=some l){e:Env}{H:d7}{r:Out×Env×d7}(z:LE P X l e H=some r):∃k,P9 P (CL P X) k c e H=some r:=by
 obtain⟨k,u⟩:=Y1.1 z;exact⟨k,by rw[sV (CL P X) k h];exact u⟩
def de{C:C4}{k u:Nat}(z:k<=u){c:Code}{e:Env}{H:d7}{r:Out×Env×d7}(h:P9 P C k c e H=some r):P9 P C u c e H=some r:=cZ (fun _ _ _=>LeO.refl _) k u z c e H r h
def ql{C:C4}{k D:Nat}(u:k<=D){A B:Code}{p1 p2:Nat}{e:Env}{ok:d7->Prop}:∀(l:List (Nat×Nat))(H:d7){r:Out×d7},au P C k A B p1 p2 e ok l H=some r->au P C D A B p1 p2 e ok l H=some r
 |[],H,r,h=>h
 |x::l,H,r,h=>by
  simp only[au]at h ⊢;split at h
  .rename_i O J I;simp only[de u I];split at h
   .rename_i E H2 z;simp only[de u z];split at h
    next q=>rw[bJ q];exact ql u l H2 h
    .cases h
   next E H2 z=>simp only[de u z];exact h
   .cases h
  .cases h
def jh{O S:Code}{A B:t5}(U:V4 O=some A)(E:V4 S=some B){p1 p2:Nat}{e:Env}{ok:d7->Prop}:∀(l:List (Nat×Nat))(H:d7){r:Out×d7},dH P X A B p1 p2 e ok l H=some r->∃k,au P (CL P X) k O S p1 p2 e ok l H=some r
 |[],H,r,h=>⟨0,h⟩
 |x::l,H,r,h=>by
  simp only[dH]at h;split at h
  .rename_i e1 H1 h1;obtain⟨z,W⟩:=iC U h1;split at h
   .rename_i e2 H2 D;obtain⟨u,J⟩:=iC E D;split at h
    next q=>obtain⟨I,q3⟩:=jh U E l H2 h;refine⟨max z (max u I),?_⟩;simp only[au,de (show z<=max z (max u I) from oM) W,de (show u<=max z (max u I) from oM) J,bJ q];exact ql oM l H2 q3
    .cases h
   next e2 H2 D=>obtain⟨u,J⟩:=iC E D;refine⟨max z u,?_⟩;simp only[au,de (show z<=max z u from oM) W,de (show u<=max z u from oM) J];exact h
   .cases h
  .cases h
noncomputable def yx(P:Program)(X:Lib)(c1 c2 A B c3:t5)(p1 p2:Nat)(it:Env->d7->Option (List (Nat×Nat)×(d7->Prop)))(e:Env)(H:d7):Option (Out×Env×d7):=
 match(LE P X c1 e H:Option (Out×Env×d7))with
 |some (.normal,e1,H1)=>
  match(LE P X c2 e1 H1:Option (Out×Env×d7))with
  |some (.normal,e2,H2)=>
   match it e2 H2 with
   |some (L,ok)=>
    match dH P X A B p1 p2 e2 ok L H2 with
    |some (.normal,H3)=>LE P X c3 e2 H3
    |some (.ret,H3)=>some (.ret,e2,H3)
    |_=>none
   |none=>none
  |_=>none
 |_=>none
def GS{base:Bs}{w0:World}{g:FuncId}{args:LV}{v W:aa3}{r:Option d7}{H H':d7}(S:Le ⟨H.bs,H.n⟩ H')
  (E:∀(φ:List Loc)(w:World)(u:LV),VRs φ args u->WR base w0 φ H.bs w->Calls P g u.toArray w fun en I=>∃v' z,en= .returned v'/\Ext φ z/\VR z v v'/\WR base w0 z H'.bs I/\Fr φ H.bs H'.low w I)
  (h:F7 v H H'=(W,r)):(∀H',r=some H'->Le H H')/\(r=none->Q4 W=true)/\
  ∀(φ:List Loc)(w:World)(u:LV),VRs φ args u->WR base w0 φ H.bs w->
   Calls P g u.toArray w fun en I=>match(generalizing:=false) r with
    |none=>en= .returned W/\Cls base w0 φ H.bs w I
    |some H'=>∃v' z,en= .returned v'/\Ext φ z/\VR z W v'/\WR base w0 z H'.bs I/\Fr φ H.bs H'.low w I:=by
 unfold F7 at h;split at h
 next D=>simp only[lE]at h;obtain⟨rfl,rfl⟩:=h;simp only[cA,eT]at D;refine⟨fun H' h=>(by cases h),fun _=>D.1,fun φ w u ha U=>(E φ w u ha U).mono fun en I hq=>?_⟩;obtain⟨v',z,rfl,hx,hv,J,O⟩:=hq;exact⟨by rw[hv.eq_na D.1],U.back J O D.2⟩
 .simp only[lE]at h;obtain⟨rfl,rfl⟩:=h;refine⟨fun H2 h2=>?_,fun h=>(by cases h),fun φ w u ha U=>(E φ w u ha U).mono fun en I hq=>?_⟩
  .cases h2;exact⟨QT _ _,S.len,fun b hb hl=>S.same b (sW hb (HH _ _)) hl⟩
  .obtain⟨v',z,h1,hx,hv,J,O⟩:=hq;exact⟨v',z,h1,hx,hv,J,fun b B l hb=>O b B l (sW hb (HH _ _))⟩
noncomputable def qZ(P:Program)(X:Lib)(c1 c2 A B c3:t5)(p1 p2 nt:Nat)(rs:List ResultVar)(it:Env->d7->Option (List (Nat×Nat)×(d7->Prop)))(args:LV)(H:d7):Option (aa3×Option d7):=
 if args.length<=nt then t6 P rs H (yx P X c1 c2 A B c3 p1 p2 it (N1 0 args) ⟨H.bs,H.n⟩) else none
def Mg(hm:P.follows .mixedOrders=true)(hX:vg P X){f:FuncId}{E:Func}{d1 d2 dA dB d3:Code}{c1 c2 A B c3:t5}{id p1 p2:Nat}{g:Operand}{gf:Nat}{it:Env->d7->Option (List (Nat×Nat)×(d7->Prop))}
  (a6:P.funcs[f]?=some E) (a5:E.body=some (.seq d1 (.seq (.seq d2 (.block id (.rangeFunc g #[p1,p2] dA dB))) d3))) (b5:(E.name== "runtime.NumGoroutine")=false)
  (l1:V4 d1=some c1) (l2:V4 d2=some c2) (lA:V4 dA=some A) (lB:V4 dB=some B) (l3:V4 d3=some c3)
  (d0:(N2 E.ntmps d1&&N2 E.ntmps d2&&N2 E.ntmps dA&&N2 E.ntmps dB&&N2 E.ntmps d3&&I8 dA&&I8 dB&&decide (p1<E.ntmps)&&decide (p2<E.ntmps))=true) (f7:gu P gf)
  (f0:∀{base:Bs}{w0:World}{φ:List Loc}{w:World}{a:Act}{e:Env}{H:d7}{L:List (Nat×Nat)}{ok:d7->Prop},it e H=some (L,ok)->ER φ E.ntmps e a->WR base w0 φ H.bs w->
   ∃lb Rd,a.eval g= .func (.func gf) #[] lb/\(∀φ' H' W',Ext φ φ'->WR base w0 φ' H'.bs W'->ok H'->Rd W')/\∀W0,WR base w0 φ H.bs W0->BM P gf lb Rd L W0):
  aV P (OJ f (qZ P X c1 c2 A B c3 p1 p2 E.ntmps E.results.toList it)):=by
 intro base w0 g' args H v r h;simp only[cA,eT]at d0;obtain⟨⟨⟨⟨⟨⟨⟨⟨o1,o2⟩,oA⟩,oB⟩,o3⟩,rA⟩,rB⟩,g0⟩,g1⟩:=d0;have hC:=BK hm hX;have f5:gu P f:=⟨E,a6,b5,by rw[a5];rfl⟩
 unfold OJ at h;split at h
 rotate_left
 .cases h
 rename_i f6;subst f6;unfold qZ at h;split at h
 rotate_left
 .cases h
 rename_i c9;unfold t6 at h;split at h
 .cases h
 rotate_left
 .cases h
 rename_i o e4 H4 f9 u;obtain⟨vs,g2,c4⟩:=ji.1 h;unfold yx at u;split at u
 rotate_left
 .cases u
 rename_i e1 H1 r1;split at u
 rotate_left
 .cases u
 rename_i e2 H2 r2;split at u
 rotate_left
 .cases u
 rename_i L ok f8;obtain⟨k1,x1⟩:=iC l1 r1;obtain⟨k2,x2⟩:=iC l2 r2;have b0:=T9 (hC base w0) x1;have b1:=T9 (hC base w0) x2;have a8:∀{base:Bs}{w0:World}{φ:List Loc}{w':World}{a':Act}{D:Nat}{R:Ending->World->Prop},ER φ E.ntmps e4 a'->WR base w0 φ H4.bs w'->a'.defers=[{target:= .collected D,args:= #[]}]->w'.heap[D]?=some (.deferred (some []))->¬base.pr D->
   (∀v' a9,VR φ (dV vs) v'->WR base w0 φ H4.bs a9->(∀b7,Fr φ H4.bs b7 w' a9)->R (.returned v') a9)->LeavesInM Fence.wide 3 P E a'.tmps R a'.defers .returning w':=by
  intro base w0 φ w' a' D R hE hW hd hD O hR;rw[hd];have U:=hW.putX hD rfl O (.deferred none);obtain⟨v',hv,u⟩:=qi U hE g2;exact⟨by simp,.inl ⟨D,_,rfl,run_takeDeferred hD,v',u,hR v' _ hv U fun b7=>sk hW hD rfl O _ b7⟩⟩
 have g3:∃(o5:Out)(H3:d7),dH P X A B p1 p2 e2 ok L H2=some (o5,H3)/\((o5= .normal/\LE P X c3 e2 H3=some (o,e4,H4))\/(o5= .ret/\o= .ret/\e4=e2/\H4=H3)):=by
  split at u
  next H3 r3=>exact⟨_,H3,r3,.inl ⟨rfl,u⟩⟩
  next H3 r3=>cases u;exact⟨_,_,r3,.inr ⟨rfl,rfl,rfl,rfl⟩⟩
  .cases u
 obtain⟨o5,H3,r3,d4⟩:=g3;obtain⟨k3,x3⟩:=jh lA lB L H2 r3;have b6:=fB (hC base w0) L H2 x3;have d6:Le H3 H4:=by
  rcases d4 with⟨_,h3⟩|⟨_,_,_,rfl⟩
  .obtain⟨k4,x4⟩:=iC l3 h3;exact T9 (hC base w0) x4
  .exact Le.refl _
 have a7:Le ⟨H.bs,H.n⟩ H4:=((b0.trans b1).trans b6).trans d6;refine⟨f5,GS a7 (fun φ w e3 ha hW=>?_) c4⟩;refine(callsIn_wide (n:=3)).1 (callsIn_of_wp_marks a6 a5 trivial (ZF.2 (wp_seq ?_)));refine iO (H:=⟨H.bs,H.n⟩) hm hC o1 x1 (zV ha c9) hW ?_;intro φ1 a1 w1 J e7 f1 c5 f2;refine wp_seq (wp_seq (iO hm hC o2 x2 e7 f1 ?_));intro φ2 a2 w2 W S U c6 f3;have b2:a2.defers=[]:=f3.trans f2;obtain⟨lb,Rd,q1,q2,q3⟩:=f0 f8 S U;have O:¬base.pr w2.heap.size:=fun q=>oN (U.size _ q);refine wp_block (qI hm hC rA rB oA oB g0 g1 S U q1 f7 Rd q2 q3 x3 ?_);intro φ3 w3 z b4 c7 b3;have b9:Fr φ H.bs H3.low w w3:=Fr.trans (H:=(⟨H.bs,H.n⟩:d7)) (J.trans W) (b0.trans b1) b6 hW.len (Fr.trans (H:=(⟨H.bs,H.n⟩:d7)) J b0 b1 hW.len c5 c6) c7;rcases d4 with⟨rfl,h3⟩|⟨rfl,rfl,rfl,e5⟩
 .obtain⟨k4,x4⟩:=iC l3 h3;have e8:ER φ3 E.ntmps e2 {a2 with defers:={target:= .collected w2.heap.size,args:= #[]}::a2.defers}:=⟨(S.mono z).size,(S.mono z).val⟩
  refine iO (base:=base.add fun j=>j=w2.heap.size) (w0:=w3) hm hC o3 x4 e8 (b4.raiseX _ fun j hj=>by subst hj;exact⟨O,_,b3,rfl⟩) ?_;intro φ4 a4 w4 d5 e9 c0 c8 f4;have e6:Fr φ H.bs H4.low w w4:=Fr.trans (H:=(⟨H.bs,H.n⟩:d7)) ((J.trans W).trans z) ((b0.trans b1).trans b6) d6 hW.len b9 c8;have b8:=a8 (R:=fun en w'=>∃v' φ',en= .returned v'/\Ext φ φ'/\VR φ' (dV vs) v'/\WR base w0 φ' H4.bs w'/\Fr φ H.bs H4.low w w') e9 (c0.lower b4.below) (by rw[f4,b2]) ((c0.below.block _ (.inr rfl)).trans b3) O
   (fun v' a9 hv a3 I=>⟨v',φ4,rfl,((J.trans W).trans z).trans d5,hv,a3,Fr.trans (H:=(⟨H.bs,H.n⟩:d7)) (((J.trans W).trans z).trans d5) a7 (Le.refl _) hW.len e6 (I _)⟩)
  cases o with
  |normal=>exact b8
  |ret=>exact b8
  |exit id=>exact(f9 id rfl).elim
 .subst e5;exact a8 (a':={a2 with defers:={target:= .collected w2.heap.size,args:= #[]}::a2.defers}) (R:=fun en w'=>∃v' φ',en= .returned v'/\Ext φ φ'/\VR φ' (dV vs) v'/\WR base w0 φ' H4.bs w'/\Fr φ H.bs H4.low w w') ⟨(S.mono z).size,(S.mono z).val⟩ b4 (by rw[b2]) b3 O
   (fun v' a9 hv a3 I=>⟨v',φ3,rfl,(J.trans W).trans z,hv,a3,Fr.trans (H:=(⟨H.bs,H.n⟩:d7)) ((J.trans W).trans z) a7 (Le.refl _) hW.len b9 (I _)⟩)
end
def JK{H:Type}(d:DataW H):1<=Rows.uptoBulk d:=by
 cases d with
 |lit l=>cases l<;>simp [Rows.uptoBulk]
 |nil=>simp [Rows.uptoBulk]
 |ptr d=>simp [Rows.uptoBulk]
 |slice z E=>simp [Rows.uptoBulk]
 |agg D=>simp [Rows.uptoBulk]
 |iface t d=>simp [Rows.uptoBulk]
 |map u=>simp [Rows.uptoBulk]
 |held h=>simp [Rows.uptoBulk]
def Gk{H:Type}{d:DataW H}{l:List (DataW H)}(h:d∈l):Rows.uptoBulk d<=Rows.uptoBulkAll l:=by
 induction l with
 |nil=>cases h
 |cons x r u=>
  simp only[Rows.uptoBulkAll];rcases nd.1 h with e|e
  .subst e;omega
  .have:=u e;omega
def JJ{H:Type}(l:List (DataW H)):l.length<=Rows.uptoBulkAll l:=by
 induction l with
 |nil=>simp [Rows.uptoBulkAll]
 |cons x r h=>have:=JK x;simp only[Rows.uptoBulkAll,kO];omega
def Old(S S':List Blk):Prop:=∀(b:Nat) c sz,S[b]?=some (.cells c false sz)->S'[b]?=some (.cells c false sz)
def Old.refl(S:List Blk):Old S S:=fun _ _ _ h=>h
def Old.trans{a b c:List Blk}(h:Old a b)(k:Old b c):Old a c:=fun _ _ _ x=>k _ _ _ (h _ _ _ x)
def Old.snoc(S:List Blk)(B:Blk):Old S (S++[B]):=fun b c sz h=>by
 rw[gk];exact h;exact(Gw.1 h).1
def Old.append(S T:List Blk):Old S (S++T):=fun b c sz h=>by
 rw[gk];exact h;exact(Gw.1 h).1
def Old.set{S:List Blk}{b:Nat}{B:Blk}(h:∀c sz,S[b]?≠some (.cells c false sz)) (z:Blk):Old S (S.set b z):=fun D c sz u=>by
 rw[zA];by_cases e:b=D
 .subst e;exact absurd u (h c sz)
 .rw[bt e];exact u
def Sl(S:List Blk)(sz:Nat){α:Type}(R:LV->α->Prop)(v:aa3)(l:List α):Prop:=
 (v= .slice none 0 0/\l=[])\/
 ∃b o,v= .slice (some ⟨b,o,none⟩) l.length (l.length+1)/\
  (l=[]\/∃c,S[b]?=some (.cells c false sz)/\o+l.length*sz<=c.length/\∀i a,l[i]?=some a->R ((c.drop (o+i*sz)).take sz) a)
def Sl.mono{S u:List Blk}{sz:Nat}{α:Type}{R R':LV->α->Prop}{v:aa3}{l:List α}(O:Old S u)(I:∀cs a,R cs a->R' cs a) (h:Sl S sz R v l):Sl u sz R' v l:=by
 rcases h with h|⟨b,o,U,h⟩
 .exact .inl h
 .refine .inr ⟨b,o,U,?_⟩;rcases h with h|⟨c,z,D,E⟩
  .exact .inl h
  .exact .inr ⟨c,O _ _ _ z,D,fun i a J=>I _ _ (E i a J)⟩
section
variable{P:Program}
def Q7(P:Program)(k:Nat)(t:TypeId){α:Type}(R:List Blk->LV->α->Prop):Prop:=
 (∀S S' cs a,Old S S'->R S cs a->R S' cs a)/\
 ∀{H:Type}(enc:TypeId×aa3->H)(W:World)(fuel:Nat),fuel<k->∀(cs:LV)(d:DataW H)(ps:List MemPlace),DataW.trod enc P W 0 (fun _=>true) true fuel t cs=some (d,ps)->
  Rows.uptoBulk d<=1048576->∀(φ:List Loc)(S:List Blk),WR (Bs.lt W.heap.size) W φ S W->
  ∃(φ':List Loc)(S':List Blk)(ac:LV)(a:α),Ext φ φ'/\Old S S'/\WR (Bs.lt W.heap.size) W φ' S' W/\VRs φ' ac cs/\(∀x∈ac,x.oneCell'=true)/\R S' ac a
def Q7.map{k:Nat}{t:TypeId}{α β:Type}{R:List Blk->LV->α->Prop}{R':List Blk->LV->β->Prop}(h:Q7 P k t R)(f:α->β)
  (hf:∀S cs a,R S cs a->R' S cs (f a)) (hm:∀S z cs a,Old S z->R' S cs a->R' z cs a):Q7 P k t R':=
 ⟨hm,fun enc W u hk cs d ps ht hw φ S hW=>by
  obtain⟨φ',z,D,a,E,I,J,O,U,X⟩:=h.2 enc W u hk cs d ps ht hw φ S hW;exact⟨φ',z,D,f a,E,I,J,O,U,hf _ _ _ X⟩⟩
def BQ{j:Nat}{t:TypeId}{k:IntKind}(I:P.underlying t=some (.int k)):Q7 P j t (fun _ cs(n:Int)=>cs=[.int k n]/\(Lit.int k n).wf=true):=
 ⟨fun _ _ _ _ _ h=>h,fun enc W u _ cs d O h J φ S D=>by
  obtain⟨n,rfl,_,E⟩:=DataW.trod_int I h;exact⟨φ,S,[.int k n],n,Ext.refl φ,Old.refl S,D,.cons (.int k n) (.nil φ),fun x z=>by simp at z;subst z;rfl,rfl,E⟩⟩
def uB{j:Nat}{t:TypeId}(I:P.underlying t=some .string):Q7 P j t (fun _ cs(s:aa2)=>cs=[.string s]/\s.size<=1048576):=
 ⟨fun _ _ _ _ _ h=>h,fun enc W z _ cs d J h D φ S E=>by
  obtain⟨s,rfl,u,hs⟩:=DataW.trod_string I h;cases u;have:s.size<=1048576:=by simp only[Rows.uptoBulk,KX]at D;exact Nat.le_of_succ_le D
  exact⟨φ,S,[.string s],s,Ext.refl φ,Old.refl S,E,.cons (.string s) (.nil φ),fun x u=>by simp at u;subst u;rfl,rfl,this⟩⟩
def mt(P:Program)(k:Nat)(fs:List Field)(off:Nat){α:Type}(R:List Blk->LV->α->Prop):Prop:=
 (∀S S' cs a,Old S S'->R S cs a->R S' cs a)/\
 ∀{H:Type}(enc:TypeId×aa3->H)(W:World)(fuel:Nat),fuel<k->∀(cs:LV)(xs:List (DataW H×List MemPlace)),
  xs.length=fs.length->(∀(i:Nat) f,fs[i]?=some f->DataW.trod enc P W 0 (fun _=>true) true fuel f.type ((cs.drop f.offset).take (P.cellsOf f.type))=xs[i]?)->
  Rows.uptoBulkAll (xs.map (·.1))<=1048576->∀(φ:List Loc)(S:List Blk),WR (Bs.lt W.heap.size) W φ S W->
  ∃(tot:Nat)(φ':List Loc)(S':List Blk)(ac:LV)(a:α),(cs.length=off+ac.length->True)/\Ext φ φ'/\Old S S'/\WR (Bs.lt W.heap.size) W φ' S' W/\VRs φ' ac ((cs.drop off).take tot)/\
   (fs.foldl (fun n f=>n+P.cellsOf f.type) 0=tot)/\(∀x∈ac,x.oneCell'=true)/\R S' ac a
def dM{j:Nat}(u:Nat):mt P j [] u (fun _ cs(_:Unit)=>cs=[]):=
 ⟨fun _ _ _ _ _ h=>h,fun enc W z _ cs xs E h I φ S D=>⟨0,φ,S,[],(),fun _=>trivial,Ext.refl φ,Old.refl S,D,by simpa using VRs.nil φ,rfl,by simp,rfl⟩⟩
def jK(g:Field->Nat):∀(l:List Field)(k:Nat),l.foldl (fun n f=>n+g f) k=k+l.foldl (fun n f=>n+g f) 0
 |[],k=>by simp
 |f::l,k=>by simp only[sd];rw[jK g l (k+g f),jK g l (0+g f)];omega
def D9{j:Nat}{f:Field}{fs:List Field}{u k:Nat}{α β:Type}{R:List Blk->LV->α->Prop}{Q:List Blk->LV->β->Prop}(I:f.offset=u)(hk:P.cellsOf f.type=k)
  (h:Q7 P j f.type R) (g:mt P j fs (u+k) Q):
  mt P j (f::fs) u (fun S cs(x:α×β)=>∃c1 c2,cs=c1++c2/\R S c1 x.1/\Q S c2 x.2):=
 ⟨fun S S' cs a I⟨c1,c2,e,h1,h2⟩=>⟨c1,c2,e,h.1 _ _ _ _ I h1,g.1 _ _ _ _ I h2⟩,fun enc W z hj cs xs hl ht hw φ S hW=>by
  cases xs with
  |nil=>simp at hl
  |cons x xs=>
   have h0:=ht 0 f (by simp);rw[pA,I,hk]at h0;simp only[xC,Rows.uptoBulkAll]at hw;obtain⟨φ1,S1,O,v1,e1,o1,w1,r1,n1,q1⟩:=h.2 enc W z hj _ x.1 x.2 h0 oM φ S hW;obtain⟨D,φ2,S2,U,v2,_,X,o2,w2,r2,t2,n2,q2⟩:=g.2 enc W z hj cs xs (by simpa using hl) (fun i f' J=>by simpa using ht (i+1) f' (by simpa using J)) oM φ1 S1 w1;refine⟨k+D,φ2,S2,O++U,(v1,v2),fun _=>trivial,e1.trans X,o1.trans o2,w2,?_,?_,?_,O,U,rfl,h.1 _ _ _ _ o2 q1,q2⟩
   .have hs:(cs.drop u).take (k+D)=(cs.drop u).take k++(cs.drop (u+k)).take D:=by
     rw[List.take_add,EE]
    rw[hs];exact(r1.mono X).append r2
   .simp only[sd];rw[jK (fun f=>P.cellsOf f.type),t2,hk];omega
   .intro y E;rcases gd.1 E with E|E
    .exact n1 y E
    .exact n2 y E⟩
def aO{j:Nat}{t:TypeId}{u:Array Field}{α:Type}{R:List Blk->LV->α->Prop}(ht:P.underlying t=some (.struct u))(hc:P.cellsOf t=u.toList.foldl (fun n f=>n+P.cellsOf f.type) 0)
  (h:mt P j u.toList 0 R):Q7 P (j+1) t R:=
 ⟨h.1,fun enc W D hj cs d ps O hw φ S J=>by
  obtain⟨xs,n,X,hx,hl,hn,U⟩:=DataW.trod_struct ht O;cases hx;obtain⟨a1,φ',E,I,a,_,e,o,w,r,tt,nn,q⟩:=h.2 enc W n oM cs xs (by simpa using hn) (fun i f z=>U i f (by simpa using z)) (by simp only[Rows.uptoBulk]at hw;omega) φ S J;refine⟨φ',E,I,a,e,o,w,?_,nn,q⟩;rw[lP,kC oM]at r;exact r⟩
def pI{j:Nat}{e:TypeId}{α:Type}{R:List Blk->LV->α->Prop}(h:Q7 P j e R){H:Type}(enc:TypeId×aa3->H)(W:World)(z:Nat)(hj:z<j):
  ∀(u:List (LV))(ds:List (DataW H×List MemPlace)),u.length=ds.length->(∀(i:Nat) cs x,u[i]?=some cs->ds[i]?=some x->DataW.trod enc P W 0 (fun _=>true) true z e cs=some x)->
   (∀x∈ds,Rows.uptoBulk x.1<=1048576)->∀(φ:List Loc)(S:List Blk),WR (Bs.lt W.heap.size) W φ S W->
   ∃(φ':List Loc)(U:List Blk)(E:List (LV))(l:List α),Ext φ φ'/\Old S U/\WR (Bs.lt W.heap.size) W φ' U W/\E.length=u.length/\l.length=u.length/\
    (∀(i:Nat) D cs,E[i]?=some D->u[i]?=some cs->VRs φ' D cs)/\(∀D∈E,∀x∈D,x.oneCell'=true)/\(∀(i:Nat) D a,E[i]?=some D->l[i]?=some a->R U D a)
 |[],[],_,_,_,φ,S,hW=>⟨φ,S,[],[],Ext.refl φ,Old.refl S,hW,rfl,rfl,by simp,by simp,by simp⟩
 |[],_::_,hl,_,_,_,_,_=>by simp at hl
 |_::_,[],hl,_,_,_,_,_=>by simp at hl
 |cs::u,x::ds,hl,ht,hw,φ,S,hW=>by
  obtain⟨φ1,S1,a1,v1,e1,o1,w1,r1,n1,q1⟩:=h.2 enc W z hj cs x.1 x.2 (ht 0 cs x (by simp) (by simp)) (hw x (by simp)) φ S hW;obtain⟨φ2,S2,E,l,e2,o2,w2,X,a2,r2,n2,q2⟩:=pI h enc W z hj u ds (by simpa using hl) (fun i c y J O=>ht (i+1) c y (by simpa using J) (by simpa using O)) (fun y O=>hw y (by simp [O])) φ1 S1 w1;refine⟨φ2,S2,a1::E,v1::l,e1.trans e2,o1.trans o2,w2,by simp [X],by simp [a2],?_,?_,?_⟩
  .intro i D c I J;cases i with
   |zero=>simp at I J;subst I J;exact r1.mono e2
   |succ i=>exact r2 i D c (by simpa using I) (by simpa using J)
  .intro D I y O;rcases nd.1 I with rfl|I
   .exact n1 y O
   .exact n2 D I y O
  .intro i D a I J;cases i with
   |zero=>simp at I J;subst I J;exact h.1 _ _ _ _ o2 q1
   |succ i=>exact q2 i D a (by simpa using I) (by simpa using J)
def Ao{α:Type}{sz:Nat}:∀(l:List (List α)),(∀x∈l,x.length=sz)->l.flatten.length=l.length*sz
 |[],_=>by simp
 |x::l,h=>by
  rw[Vh,dx,Ao l (fun y u=>h y (by simp [u])),h x (by simp),kO,wS];omega
def sj{α:Type}{sz:Nat}:∀(l:List (List α)),(∀x∈l,x.length=sz)->∀(i:Nat) x,l[i]?=some x->(l.flatten.drop (i*sz)).take sz=x
 |[],_,i,x,hx=>by simp at hx
 |y::l,h,0,x,hx=>by
  simp at hx;subst hx;have:=h y (by simp);simp only[Ck,lP,Vh];rw[<-this,A2 lR,XK]
 |y::l,h,i+1,x,hx=>by
  have u:=h y (by simp);have e:(i+1)*sz=y.length+i*sz:=by rw[u,wS];omega
  rw[Vh,e,<-EE,aaa];exact sj l (fun z D=>h z (by simp [D])) i x (by simpa using hx)
def AO{α β:Type}{f:α->Option β}:∀{l:List α}{r:List β},l.mapM f=some r->r.length=l.length/\∀(i:Nat) x y,l[i]?=some x->r[i]?=some y->f x=some y
 |[],r,h=>by simp at h;subst h;simp
 |a::l,r,h=>by
  rw[KW]at h;cases u:f a with
  |none=>simp [u]at h
  |some b=>
   cases z:l.mapM f with
   |none=>simp [u,z]at h
   |some O=>
    simp [u,z]at h;subst h;obtain⟨I,J⟩:=AO z;refine⟨by simp [I],fun i x y D E=>?_⟩;cases i with
    |zero=>simp at D E;subst D;subst E;exact u
    |succ i=>exact J i x y (by simpa using D) (by simpa using E)
def jE{w:World}{a:Addr}{n:Nat}{cs:LV}(h:w.cells? 0 a n=some cs):cs.length=n/\∀(j:Nat) x,cs[j]?=some x->w.cell? (a.add j)=some x:=by
 unfold World.cells? at h;rw[bJ (wi _)]at h;obtain⟨u,D⟩:=AO h;refine⟨by simpa using u,fun j x z=>?_⟩;have E:j<cs.length:=(Gw.1 z).1;exact D j j x (ZQ (by simpa [u] using E)) z
def Cc{w:World}{a:Addr}{x:aa3}(h:w.cell? a=some x):a.spot=none/\a.block<w.heap.size:=by
 unfold World.cell? at h;split at h
 .rename_i c _ _ u;refine⟨?_,(ZW.1 u).1⟩;cases hs:a.spot with
  |none=>rfl
  |some n=>simp [hs]at h
 .cases h
def pM{w:World}{a:Addr}{n:Nat}{cs:LV}(D:0<n)(h:w.cells? 0 a n=some cs):a.spot=none/\a.block<w.heap.size:=by
 obtain⟨z,u⟩:=jE h;have:=u 0 (cs[0]'oM) (by first|(simp;done)|(simp;omega));exact Cc (by simpa [Addr.add] using this)
def zd{a:Addr}(h:a.spot=none)(n:Nat):a.add n=⟨a.block,a.off+n,none⟩:=by
 obtain⟨b,o,s⟩:=a;simp only at h;subst h;unfold Addr.add;split
 next u=>subst u;rfl
 .rfl
def eS{j:Nat}{t e:TypeId}{sz:Nat}{α:Type}{R:List Blk->LV->α->Prop}(ht:P.underlying t=some (.slice e))(hs:P.cellsOf e=sz)(hp:0<sz)(h:Q7 P j e R):
  Q7 P (j+1) t (fun S cs(l:List α)=>∃v,cs=[v]/\Sl S sz (R S) v l/\l.length<=1048576):=
 ⟨fun S S' cs l ho⟨v,e1,e2,e3⟩=>⟨v,e1,e2.mono ho (fun cs a=>h.1 _ _ _ _ ho),e3⟩,fun{H} enc W fuel hj cs d ps hd hw φ S hW=>by
  rcases DataW.trod_slice ht hd with⟨rfl,u⟩|⟨a,E,z,D,rest,n,c9,rfl,u,_,c4,_,b9,a6,b5,_⟩
  .exact⟨φ,S,[.slice none 0 0],[],Ext.refl φ,Old.refl S,hW,.cons .nilslice (.nil φ),fun x u=>by simp at u;subst u;rfl,_,rfl,.inl ⟨rfl,rfl⟩,by simp⟩
  .cases u;rw[hs]at a6 b5;simp only[Rows.uptoBulk]at hw;have a7:E<=1048576:=by
    have:=JJ (D.map (·.1));rw[ED]at this;omega
   by_cases h0:E=0
   ·
    subst h0;refine⟨φ++[⟨a.block,a.off,z*sz,sz⟩],S++[.dead],[.slice (some ⟨S.length,0,none⟩) 0 1],[],Ext.snoc _ _,Old.snoc _ _,?_,?_,fun x u=>by simp at u;subst u;rfl,_,rfl,.inr ⟨_,_,rfl,.inl rfl⟩,by simp⟩
    .exact hW.push ⟨lR,fun _ _ _=>rfl⟩ hW.below (fun hm=>by cases hm) trivial
    .refine .cons ?_ (.nil _);by_cases b8:z=0
     .subst b8;exact .slice0
     .obtain⟨d0,c6⟩:=b5 rfl;have h1:=c6 0 oM;have c5:rest[0]?=some (rest[0]'oM):=by first|(simp;done)|(simp;omega)
      rw[c5]at h1;obtain⟨a2,O,b3⟩:=Zv.1 h1;have a8:=(pM hp O).1;simp only[tV,Ck]at a8;have a9:a.spot=none:=by simpa [Addr.add] using a8
      have hl:(φ++[(⟨a.block,a.off,z*sz,sz⟩:Loc)])[S.length]?=some ⟨a.block,a.off,z*sz,sz⟩:=by rw[<-hW.len];simp
      have:=VR.slice (φ:=φ++[⟨a.block,a.off,z*sz,sz⟩]) (b:=S.length) (o:=0) (n:=0) (c:=z) hl (wi _) (by simp);obtain⟨ab,ao,b7⟩:=a;simp only at a9;subst a9
      simpa using this
   .have J:∀i,i<E->∃cs x,W.cells? 0 (a.add (i*sz)) sz=some cs/\D[i]?=some x/\DataW.trod enc P W 0 (fun _=>true) true n e cs=some x:=by
     intro i U;have h1:=a6 i U;have h2:D[i]?=some (D[i]'oM):=by first|(simp;done)|(simp;omega)
     rw[h2]at h1;obtain⟨a2,O,b3⟩:=Zv.1 h1;exact⟨a2,_,O,h2,b3⟩
    have X:a.spot=none/\a.block<W.heap.size:=by
     obtain⟨a2,x0,O,_⟩:=J 0 oM;have:=pM hp O
     simpa [Addr.add] using this
    let css:List (LV):=(List.range E).map fun i=>(W.cells? 0 (a.add (i*sz)) sz).getD []
    have a1:css.length=E:=by simp [css]
    have a3:∀(i:Nat) c,css[i]?=some c->i<E/\W.cells? 0 (a.add (i*sz)) sz=some c:=by
     intro i c hc;have U:i<E:=by rw[<-a1];exact(Gw.1 hc).1
     obtain⟨a2,x0,O,_⟩:=J i U;refine⟨U,?_⟩;simp only[css,Aa,ZQ U,xg,O,zB,ky]at hc;rw[O,hc]
    obtain⟨φ1,S1,I,l,e1,o1,w1,c3,b2,b6,b4,hR⟩:=pI h enc W n oM css D (by rw[a1,b9])
     (fun i c x hc u=>by
      obtain⟨U,h1⟩:=a3 i c hc;obtain⟨a2,x0,k1,k2,k3⟩:=J i U;rw[h1]at k1;cases k1;rw[u]at k2;cases k2;exact k3)
     (fun x u=>by have:=Gk (List.mem_map_of_mem (f:=(·.1)) u);omega) φ S hW
    have b1:∀x∈I,x.length=sz:=by
     intro x u;obtain⟨i,U,rfl⟩:=List.mem_iff_getElem.1 u;have a5:i<css.length:=oM;have:=(b6 i _ _ (gI U) (gI a5)).1;rw[this];exact(jE (a3 i _ (gI a5)).2).1
    have a4:I.flatten.length=E*sz:=by rw[Ao I b1,c3,a1]
    have hl:(φ1++[(⟨a.block,a.off,z*sz,sz⟩:Loc)])[S1.length]?=some ⟨a.block,a.off,z*sz,sz⟩:=by rw[<-w1.len];simp
    refine⟨φ1++[⟨a.block,a.off,z*sz,sz⟩],S1++[.cells I.flatten false sz],[.slice (some ⟨S1.length,0,none⟩) l.length (l.length+1)],l,e1.trans (Ext.snoc _ _),o1.trans (Old.snoc _ _),?_,?_,
     fun x u=>by simp at u;subst u;rfl,_,rfl,.inr ⟨_,_,rfl,.inr ⟨I.flatten,by simp,?_,?_⟩⟩,?_⟩
    .refine w1.push ⟨lR,fun _ _ _=>rfl⟩ w1.below (fun hm=>by cases hm) ⟨rfl,?_,?_,fun _=>X.2,fun hh=>by cases hh⟩
     .intro x u;obtain⟨ac,h1,h2⟩:=List.mem_flatten.1 u;exact b4 ac h1 x h2
     .intro j x u;have hj:j<E*sz:=by rw[<-a4];exact(Gw.1 u).1
      have hq:j / sz<E:=Nat.div_lt_of_lt_mul (by rw[aaB];exact hj);have hm:j % sz<sz:=aaZ _ hp;have U:j / sz<I.length:=oM;have a5:j / sz<css.length:=oM;have c0:=sj I b1 (j / sz) _ (gI U);have c7:(I[j / sz])[j % sz]?=some x:=by
       rw[<-c0,xd,bJ hm,vu,aaB,Nat.div_add_mod];exact u
      obtain⟨y,hy,c8⟩:=(b6 _ _ _ (gI U) (gI a5)).g c7;have:=(jE (a3 _ _ (gI a5)).2).2 _ y hy;rw[zd X.1,zd rfl]at this;refine⟨y,?_,c8.mono (Ext.snoc _ _)⟩;have e2:a.off+j / sz*sz+j % sz=a.off+j:=by rw[A1,aaB,Nat.div_add_mod]
      simpa [e2] using this
    .refine .cons ?_ (.nil _);have:=VR.slice (φ:=φ1++[⟨a.block,a.off,z*sz,sz⟩]) (b:=S1.length) (o:=0) (n:=E) (c:=z) hl c4 (by simp);obtain⟨ab,ao,b7⟩:=a;have b0:=X.1;simp only at b0;subst b0;rw[b2,a1]
     simpa using this
    .rw[b2,a1,a4];omega
    .intro i x u;have U:i<I.length:=by have:=(Gw.1 u).1;omega
     rw[tV,sj I b1 i _ (gI U)];exact h.1 _ _ _ _ (Old.snoc _ _) (hR i _ x (gI U) u)
    .rw[b2,a1];exact a7⟩
def ic(hm:P.follows .mixedOrders=true){X:Lib}{W:World}(J:vg P X){f:FuncId}{args u:LV}{φ:List Loc}{S:List Blk}(I:WR (Bs.lt W.heap.size) W φ S W)(O:VRs φ args u)
  (h:CL P X f args ⟨S,S.length⟩=some (.bool true,none)):Calls P f u.toArray W fun e z=>e= .returned (.bool true)/\Below W.heap.size W z:=by
 obtain⟨_,_,_,U⟩:=BK hm J (Bs.lt W.heap.size) W f args ⟨S,S.length⟩ (.bool true) none h;exact(U φ W u O I).mono fun e z⟨D,E⟩=>⟨D,E.1.below.below⟩
def kl(W:World):WR (Bs.lt W.heap.size) W [] [] W:=⟨rfl,Bel.refl _ _,fun _ h=>h,by simp,by simp⟩
end
end Go.Proofs.YtjlpdddmmnijoaaGreatDoor.Ve
namespace Go.Proofs.YtjlpdddmmnijoaaGreatDoor.Ve.Ab
open Go Go.RowKit
abbrev T(n:Nat):Operand:= .tmp n
abbrev K(n:Int):Operand:= .const (.int .i64 n)
abbrev B0:Operand:= .const (.bool false)
abbrev B1:Operand:= .const (.bool true)
abbrev S0:Operand:= .const (.slice none 0 0)
abbrev c1(f a t:Nat):Op:= .call ⟨.value (.func f),#[T a],#[t]⟩
abbrev c2(f a b t u:Nat):Op:= .call ⟨.value (.func f),#[T a,T b],#[t,u]⟩
abbrev cf(f:Nat)(a:Array Operand)(t:Array TypeId):Op:= .call ⟨.value (.func f),a,t⟩
abbrev cv(f:Operand)(a:Array Operand)(t:Array TypeId):Op:= .call ⟨.value f,a,t⟩
abbrev bi(f:Builtin)(a:Array Operand)(t:Array TypeId):Op:= .call ⟨.builtin f,a,t⟩
abbrev ln(a t:Nat):Op:= .call ⟨.builtin .len,#[T a],#[t]⟩
abbrev ap(a b t u:Nat):Op:= .call ⟨.builtin .append,#[T a,T b],#[t,u]⟩
abbrev mv(n:Nat):Op:= .move (T n)
abbrev fa(t a i:Nat):Op:= .fieldAddr t (T a) i
abbrev ia(t a i:Nat):Op:= .indexAddr t (T a) (T i)
abbrev st'(t a x:Nat):Op:= .store t (T a) (T x)
abbrev bx(t a:Nat):Op:= .box t (T a)
abbrev ex(a i:Nat):Op:= .extract (T a) i
abbrev nc(a:Nat):Op:= .nilCheck (T a)
abbrev bo(o:BinOp)(t a b u:Nat):Op:= .binOp o t (T a) (T b) u
abbrev bk(o:BinOp)(t a:Nat)(n:Int)(u:Nat):Op:= .binOp o t (T a) (K n) u
abbrev pa(a b:Nat):Op:= .pick (T a) (T b) B0
abbrev po(a b:Nat):Op:= .pick (T a) B1 (T b)
abbrev nt'(t a:Nat):Op:= .unOp .not t (T a)
abbrev N(d:Nat)(o:Op):LOp:=⟨some d,o,none⟩
abbrev V(o:Op):LOp:=⟨none,o,none⟩
abbrev Y(g d:Nat)(o:Op):LOp:=⟨some d,o,some (g,true)⟩
abbrev Z(g d:Nat)(o:Op):LOp:=⟨some d,o,some (g,false)⟩
abbrev M(d a:Nat):LOp:=⟨some d,.move (T a),none⟩
abbrev L(d t a:Nat):LOp:=⟨some d,.load t (T a),none⟩
abbrev A(d a:Nat):LOp:=⟨some d,.assign (T a),none⟩
abbrev F(d t a i:Nat):LOp:=⟨some d,.fieldAddr t (T a) i,none⟩
abbrev cO:=t5.ops
abbrev cS:=t5.seq
abbrev cB:=t5.block
abbrev cC:=t5.cond
abbrev cW(n:Nat)(b:t5):t5:= .block n (.loop b)
abbrev m0(o:LOp):ML:=⟨o,false,false,0,0⟩
abbrev m1(o:LOp):ML:=⟨o,false,true,0,0⟩
abbrev m2(o:LOp)(l h:Nat):ML:=⟨o,false,false,l,h⟩
abbrev m3(o:LOp)(l h:Nat):ML:=⟨o,true,true,l,h⟩
abbrev m4(o:LOp)(l h:Nat):ML:=⟨o,true,false,l,h⟩
abbrev cX(o:List LOp)(c:t5):=t5.seq (.ops o) c
abbrev cR(o:List LOp):=t5.seq (.ops o) .ret
abbrev cG(t n:Nat)(c:t5):=t5.seq (.cond (T t) .skip (.exit n)) c
abbrev cH(t a b:Nat)(c:t5):=t5.seq (.ops [N t (bo .lss 3 a b 3)]) (.seq (.cond (T t) .skip (.exit 0)) c)
abbrev iN(a:Nat):Op:=bk .add 3 a 1 3
abbrev yF(o:LOp):LOp×Bool:=(o,false)
abbrev yT(o:LOp):LOp×Bool:=(o,true)
end Go.Proofs.YtjlpdddmmnijoaaGreatDoor.Ve.Ab
namespace Go.Proofs.YtjlpdddmmnijoaaGreatDoor.Ve
open Go Go.RowKit
def HM(ops:List Oper)(o:Oper):LOp:=
 match o.guard with
 |none=>⟨o.dst,o.op,none⟩
 |some (j,b)=>match ops[j]? with
  |some x=>match x.dst with
   |some d=>⟨o.dst,o.op,some (d,b)⟩
   |none=>⟨o.dst,o.op,none⟩
  |none=>⟨o.dst,o.op,none⟩
def Kk(ops:List Oper):Nat->List Oper->List (LOp×Bool)
 |_,[]=>[]
 |0,o::r=>(HM ops o,true)::Kk ops 0 r
 |t+1,o::r=>(HM ops o,false)::Kk ops t r
def XC(ops:List Oper)(A tl:List Nat):Nat->List Oper->List ML
 |_,[]=>[]
 |i,o::r=>⟨HM ops o,C5 o.op,rdK o.op,(yk A tl i).1,(yk A tl i).2⟩::XC ops A tl (i+1) r
def Ep:Nat->List Oper->List Nat
 |_,[]=>[]
 |i,o::r=>if C5 o.op then i::Ep (i+1) r else Ep (i+1) r
def ja:Code->List Nat->t5×List Nat
 | .skip,d=>(.skip,d)
 | .ret,d=>(.ret,d)
 | .exit id,d=>(.exit id,d)
 | .region _ ops draw,d=>
  if draw then match d with
   |0::d=>(.mix (XC ops.toList (I5 ops.toList []) (Ep 0 ops.toList) 0 ops.toList),d)
   |(t+1)::d=>(.draw (Kk ops.toList t ops.toList),d)
   |[]=>(.skip,[])
  else(.ops (ops.toList.map (HM ops.toList)),d)
 | .seq a b,d=>match iL a b with
  |some z=>match ja b d with
   |(b,d)=>(.coin (z.l1.map (HM z.ops.toList)) (z.l2.map (HM z.ops.toList)) z.ds b,d)
  |none=>match ja a d with
   |(a,d)=>match ja b d with
    |(b,d)=>(.seq a b,d)
 | .cond c a b,d=>match ja a d with
  |(a,d)=>match ja b d with
   |(b,d)=>(.cond c a b,d)
 | .block id a,d=>match ja a d with
  |(a,d)=>(.block id a,d)
 | .loop a,d=>match ja a d with
  |(a,d)=>(.loop a,d)
 | .scope a,d=>match ja a d with
  |(a,d)=>(.scope a,d)
 |_,d=>(.skip,d)
def fnV(fn:Func)(d:List Nat):t5×Nat×List ResultVar:=
 match fn.body with
 |some c=>((ja c d).1,fn.ntmps,fn.results.toList)
 |none=>(.skip,0,[])
def ptL:List Nat->t5->t5
 |0::p,.seq a _=>ptL p a
 |1::p,.seq _ b=>ptL p b
 |0::p,.cond _ a _=>ptL p a
 |1::p,.cond _ _ b=>ptL p b
 |_::p,.block _ a=>ptL p a
 |_::p,.loop a=>ptL p a
 |_::p,.scope a=>ptL p a
 |_::p,.coin _ _ _ b=>ptL p b
 |_,c=>c
abbrev ptA{P:Program}{f:FuncId}{l:t5}{nt:Nat}{rs:List ResultVar}(_:fnL P f=some (l,nt,rs))(p:List Nat){x:t5}(_:ptL p l=x:=by conv=>{lhs;whnf}):t5:=x
def rpL(c:t5):List Nat->t5->t5
 |[],_=>c
 |0::p,.seq a b=> .seq (rpL c p a) b
 |_::p,.seq a b=> .seq a (rpL c p b)
 |0::p,.cond x a b=> .cond x (rpL c p a) b
 |_::p,.cond x a b=> .cond x a (rpL c p b)
 |_::p,.block i a=> .block i (rpL c p a)
 |_::p,.loop a=> .loop (rpL c p a)
 |_::p,.scope a=> .scope (rpL c p a)
 |_::p,.coin x y z b=> .coin x y z (rpL c p b)
 |_::_,a=>a
def bE:ByteArray.mk (List.toArray [])=ByteArray.empty:=rfl
def aM{A:Type}(l:List A):Array.mk l=List.toArray l:=rfl
def hdF{P:Program}{f:FuncId}{l:t5}{nt:Nat}{rs:List ResultVar}(h:fnL P f=some (l,nt,rs))(p:List Nat)(c:t5){x:t5->t5}(hx:∀k,rpL k p l=x k:=by intro k;conv=>{lhs;cbv;try simp only[aM,bE]}) (hc:rpL c p l=l:=by kernel_rfl):fnL P f=some (x c,nt,rs):=by
 rw[<-hx,hc];exact h
end Go.Proofs.YtjlpdddmmnijoaaGreatDoor.Ve
namespace Go.Proofs.YtjlpdddmmnijoaaGreatDoor.Ve
open Go Go.RowKit
open Go.Proofs.Tryz (prog)
def nfF(f:FuncId)(fn:Func)(d:List Nat){l:t5}{nt:Nat}{rs:List ResultVar}(h:fnV fn d=(l,nt,rs):=by conv=>{lhs;cbv;try simp only[aM,bE]})(k:fnL Tryz.prog f=some (l,nt,rs):=by kernel_rfl):fnL Tryz.prog f=some (l,nt,rs):=k
abbrev fE(n:Nat)(c:t5)(k:Nat)(r:List ResultVar):Prop:=fnL prog n=some (c,k,r)
def fR{n:Nat}{c:t5}{k:Nat}{r:List ResultVar}(h:fnL prog n=some (c,k,r):=by kernel_rfl):fE n c k r:=h
def WM:=nfF 27 Tryz.f27 []
abbrev UD:t5:=ptA WM [1,1,1,1,0,1,0,0]
def YP:=nfF 81 Tryz.f81 []
def YE:=nfF 51 Tryz.f51 [0]
def WT:=nfF 40 Tryz.f40 [6]
abbrev UR:t5:=ptA WT [1,0,1,0,0]
def KK:=nfF 57 Tryz.f57 [0,0]
abbrev Vm:t5:=ptA KK [1,1,0,1,0,0]
abbrev Vj:t5:=ptA KK [1,1,0,1,0,0,1,0,0,1,1,0,1,0,0]
abbrev Vl:t5:=ptA KK [1,1,0,1,0,0,1,0,0,1,1,1,1,0,0]
abbrev Vk:t5:=ptA KK [1,1,0,1,0,0,1,0,0,1,1,1,1,0,0,1,0,0,1,1,0,1,0,0]
def Sc:=nfF 28 Tryz.f28 []
abbrev UF:t5:=ptA Sc [1,1,0,1,0,0]
abbrev UE:t5:=ptA Sc [1,1,0,1,0,0,1,0,0,1,1,1,0,0]
def WK:=nfF 25 Tryz.f25 []
def Yz:=nfF 31 Tryz.f31 []
def YA:=nfF 32 Tryz.f32 []
def Sf:=nfF 42 Tryz.f42 [0,0]
abbrev US:t5:=ptA Sf [1,1,1,1,1,1,0,1,0,0]
abbrev UT:t5:=ptA Sf [1,1,1,1,1,1,1,0,1,0,0]
def WV:=nfF 43 Tryz.f43 [0,0]
abbrev UU:t5:=ptA WV [1,1,1,1,1,0,1,0,0]
def YC:=nfF 44 Tryz.f44 []
def GV:=nfF 49 Tryz.f49 [0,0,0]
abbrev Vd:t5:=ptA GV [1,1,1,1,0,1,0,0]
abbrev Vc:t5:=ptA GV [1,1,1,1,0,1,0,0,1,0,0,1,0,1,0,0]
abbrev Vb:t5:=ptA GV [1,1,1,1,0,1,0,0,1,0,0,1,0,1,0,0,1,0,0,1,1,1,0,1,0,0]
abbrev Va:t5:=ptA GV [1,1,1,1,0,1,0,0,1,0,0,1,0,1,0,0,1,0,0,1,1,1,0,1,0,0,1,0,0,1,1,0,0]
abbrev Vf:t5:=ptA GV [1,1,1,1,1,1,0,1,0,0]
def WX:=nfF 48 Tryz.f48 [6,0]
abbrev UZ:t5:=ptA WX [1,1,1,1,0,1,0,0]
def YJ:=nfF 63 Tryz.f63 []
def Qf:=nfF 108 Tryz.f108 [6]
abbrev Rv:t5:=ptA Qf [1,0,1,0,0]
def YM:=nfF 69 Tryz.f69 []
def Xf:=nfF 71 Tryz.f71 [0,9]
abbrev Vw:t5:=ptA Xf [1,1,0,1,0,0]
def Se:=nfF 39 Tryz.f39 [13]
abbrev PY:t5:=ptA Se [1,1,1,1,1,0,1,0,0]
abbrev UQ:t5:=ptA Se [1,1,1,1,1,0,1,0,0,1,0,0,1,1,0,0]
def WY:=nfF 50 Tryz.f50 []
abbrev Vg:t5:=ptA WY [1,1,0,1,0,0]
def Sn:=nfF 86 Tryz.f86 [8,9,6,17,9,13]
abbrev VL:t5:=ptA Sn [1,1,0,1,0,1,1,0,1,0,0]
abbrev VM:t5:=ptA Sn [1,1,1,1,1,1,1,1,0,1,0,0]
def Ok:=nfF 87 Tryz.f87 []
abbrev VN:t5:=ptA Ok [1,1,0,1,0,0]
abbrev VP:t5:=ptA Ok [1,1,1,0,1,0,0]
abbrev VO:t5:=ptA Ok [1,1,1,0,1,0,0,1,0,0,1,0,0]
def YS:=nfF 88 Tryz.f88 []
def KJ:=nfF 23 Tryz.f23 []
def RY:t5:=ptA KJ [1,1,0,1,0,0,1,0,0,1,1]
def Sb:=hdF KJ [1,1,0,1,0,0,1,0,0,1,1] RY
abbrev UA:t5:=ptA Sb [1,1,0,1,0,0,1,1]
abbrev Uz:t5:=ptA Sb [1,1,0,1,0,0]
def YD:=nfF 46 Tryz.f46 []
def CK:=nfF 47 Tryz.f47 []
abbrev UY:t5:=ptA CK [1,1,1,1,1,1,1,0,1,0,0]
def Od:t5:=ptA CK [1,1,1,1,1,1]
def WW:=hdF CK [1,1,1,1,1,1] Od
def Xb:=nfF 58 Tryz.f58 []
abbrev Vn:t5:=ptA Xb [1,1,0,1,0,0]
def Xc:=nfF 59 Tryz.f59 []
abbrev Vo:t5:=ptA Xc [1,1,0,1,0,0]
def Sg:=nfF 60 Tryz.f60 [0,0]
abbrev Vp:t5:=ptA Sg [1,1,1,1,1,0,0]
def YI:=nfF 61 Tryz.f61 []
def Sh:=nfF 62 Tryz.f62 []
abbrev Vq:t5:=ptA Sh [1,0,1,0,0]
abbrev Vr:t5:=ptA Sh [1,1,1,0,0]
def Xd:=nfF 64 Tryz.f64 []
abbrev Vs:t5:=ptA Xd [1,1,0,1,0,0]
def Si:=nfF 65 Tryz.f65 []
abbrev Vt:t5:=ptA Si [1,0,1,0,0]
abbrev Vu:t5:=ptA Si [1,1,1,0,0]
def YK:=nfF 66 Tryz.f66 []
def YL:=nfF 68 Tryz.f68 []
def YN:=nfF 70 Tryz.f70 [6,0]
def Xi:=nfF 77 Tryz.f77 [0]
abbrev VD:t5:=ptA Xi [1,1,1,0,1,0,0]
def KO:=nfF 78 Tryz.f78 [8]
abbrev VE:t5:=ptA KO [1,1,0,0]
abbrev Qa:t5:=ptA KO [1,1,0,0,0,1,1,1,0,1,0,0]
abbrev VF:t5:=ptA KO [1,1,0,0,0,1,1,1,1,0,1]
abbrev VG:t5:=ptA KO [1,1,0,0,0,1,1,1,1,1]
def Xj:=nfF 79 Tryz.f79 []
abbrev VH:t5:=ptA Xj [1,0,1,0,0]
def Xk:=nfF 80 Tryz.f80 []
abbrev VI:t5:=ptA Xk [1,1,0,0,0]
def YO:=nfF 74 Tryz.f74 []
def Sk:=nfF 75 Tryz.f75 []
abbrev VA:t5:=ptA Sk [1,1,0,1,0,0]
abbrev VB:t5:=ptA Sk [1,1,1,0,1,0,0]
def Xh:=nfF 76 Tryz.f76 [7]
abbrev VC:t5:=ptA Xh [1,0,1,0,0]
def YW:=nfF 95 Tryz.f95 []
def Xn:=nfF 97 Tryz.f97 []
abbrev VV:t5:=ptA Xn [1,1,0,1,0,0]
def Sq:=nfF 98 Tryz.f98 [0,14,9,17,9]
abbrev Qb:t5:=ptA Sq [1,1,1,1,0,0]
abbrev VW:t5:=ptA Sq [1,1,1,1,0,0,1,0,1,1,0,0]
def Xa:=nfF 55 Tryz.f55 []
abbrev Vi:t5:=ptA Xa [1,1,0,1,0,0]
def YH:=nfF 56 Tryz.f56 []
def Sj:=nfF 72 Tryz.f72 []
abbrev Vx:t5:=ptA Sj [1,1,0,1,0,0]
abbrev Vy:t5:=ptA Sj [1,1,1,0,1,0,0]
def CM:=nfF 73 Tryz.f73 []
abbrev Vz:t5:=ptA CM [1,1,1,1,1,1,1,1,1,1,1,0,1,0,0]
def Oe:t5:=ptA CM [1,1,1,1,1,1,1,1,1,1]
def KL:=hdF CM [1,1,1,1,1,1,1,1,1,1] Oe
def Kr:t5:=ptA KL [1,1,1,1,1,1]
def KM:=hdF KL [1,1,1,1,1,1] Kr
def Af:t5:=ptA KM [1,1,1,1,1]
def KN:=hdF KM [1,1,1,1,1] Af
def Kq:t5:=ptA KN [1,1,1,1]
def Xg:=hdF KN [1,1,1,1] Kq
def So:=nfF 89 Tryz.f89 []
abbrev VQ:t5:=ptA So [1,0,1,0,0]
abbrev VS:t5:=ptA So [1,1,1,0,0]
def YT:=nfF 90 Tryz.f90 []
def YU:=nfF 91 Tryz.f91 []
def YV:=nfF 93 Tryz.f93 [0]
def YX:=nfF 96 Tryz.f96 []
def KC:=nfF 104 Tryz.f104 []
abbrev Rq:t5:=ptA KC [1,1,0,1,0,0]
abbrev Rr:t5:=ptA KC [1,1,1,0,1,0,0]
def Qd:=nfF 105 Tryz.f105 []
abbrev Rs:t5:=ptA Qd [1,1,0,1,0,0]
def Qe:=nfF 106 Tryz.f106 [24]
abbrev Ru:t5:=ptA Qe [1,1,0,1,0,0]
def Wa:=nfF 107 Tryz.f107 []
def lu:=nfF 101 Tryz.f101 [0,0,0,0,0,0,0,0]
abbrev Rj:t5:=ptA lu [1,1,0,1,0,1,1,0,1,0,0]
abbrev Rk:t5:=ptA lu [1,1,1,0,1,0,1,1,0,1,0,0]
abbrev Rl:t5:=ptA lu [1,1,1,0,1,0,1,1,1,1,1,0,1,0,0]
def Qc:=nfF 102 Tryz.f102 []
abbrev Rm:t5:=ptA Qc [1,1,0,1,0,0]
def KB:=nfF 103 Tryz.f103 [11,11]
abbrev Rn:t5:=ptA KB [1,1,0,1,0,0]
abbrev Ro:t5:=ptA KB [1,1,1,0,1,0,0]
def KF:=nfF 124 Tryz.f124 []
abbrev RF:t5:=ptA KF [1,1,1,0,1,0,0]
def Wo:=nfF 125 Tryz.f125 []
def Xl:=nfF 83 Tryz.f83 []
abbrev VJ:t5:=ptA Xl [1,1,1,0,0,0]
def YR:=nfF 84 Tryz.f84 []
def Xm:=nfF 85 Tryz.f85 []
abbrev VK:t5:=ptA Xm [1,1,1,0,1,0,0]
def Sr:=nfF 99 Tryz.f99 []
abbrev VX:t5:=ptA Sr [1,1,0,1,0,0]
abbrev VY:t5:=ptA Sr [1,1,1,0,1,0,0]
def VZ:=nfF 100 Tryz.f100 []
def qO:=nfF 113 Tryz.f113 [0,0,0]
abbrev Rz:t5:=ptA qO [1,1,0,1,0,0]
abbrev RA:t5:=ptA qO [1,1,1,1,0,0]
def CB:t5:=ptA qO [1,0,1]
def Wf:=hdF qO [1,0,1] CB
def Qg:=nfF 114 Tryz.f114 []
abbrev RB:t5:=ptA Qg [1,0,1,0,0]
def Wg:=nfF 115 Tryz.f115 []
def Wh:=nfF 116 Tryz.f116 []
def Wi:=nfF 117 Tryz.f117 []
def Wj:=nfF 118 Tryz.f118 []
def Wk:=nfF 119 Tryz.f119 []
def Qh:=nfF 120 Tryz.f120 []
abbrev RC:t5:=ptA Qh [1,1,0,1,0,0]
def KE:=nfF 121 Tryz.f121 []
abbrev RD:t5:=ptA KE [1,1,1,0,1,0,0]
abbrev RE:t5:=ptA KE [1,1,1,1,1,0,1,0,0]
def Wm:=nfF 122 Tryz.f122 []
def Wn:=nfF 123 Tryz.f123 []
def KI:=nfF 129 Tryz.f129 []
abbrev RJ:t5:=ptA KI [1,1,0,1,0,0]
abbrev RK:t5:=ptA KI [1,1,1,0,1,0,0]
def Qj:=nfF 130 Tryz.f130 [6]
abbrev RL:t5:=ptA Qj [1,0,1,0,0]
def Wp:=nfF 127 Tryz.f127 []
def KH:=nfF 128 Tryz.f128 [11,11]
abbrev RH:t5:=ptA KH [1,1,0,1,0,0]
abbrev RI:t5:=ptA KH [1,1,1,0,1,0,0]
def WA:=nfF 144 Tryz.f144 [10,11,9]
def WB:=nfF 145 Tryz.f145 []
def EZ:=nfF 109 Tryz.f109 []
def Ko:t5:=ptA EZ [1,1,0,1,0,0,1,0,0,1,1]
def KD:=hdF EZ [1,1,0,1,0,0,1,0,0,1,1] Ko
abbrev Ry:t5:=ptA KD [1,1,0,1,0,0,1,1]
abbrev Rx:t5:=ptA KD [1,1,0,1,0,0]
def Wc:=nfF 110 Tryz.f110 []
def Wd:=nfF 111 Tryz.f111 []
def We:=nfF 112 Tryz.f112 []
def Qi:=nfF 126 Tryz.f126 []
abbrev RG:t5:=ptA Qi [1,0,1,0,0]
def Wt:=nfF 135 Tryz.f135 []
def Wu:=nfF 136 Tryz.f136 [7,0]
def Wv:=nfF 137 Tryz.f137 []
def Ww:=nfF 138 Tryz.f138 []
def Ql:=nfF 139 Tryz.f139 []
abbrev RR:t5:=ptA Ql [1,0,1,0,0]
def Qm:=nfF 140 Tryz.f140 []
abbrev RS:t5:=ptA Qm [1,1,0,1,0,0]
def Qn:=nfF 141 Tryz.f141 []
abbrev RT:t5:=ptA Qn [1,1,0,1,0,0]
def Wy:=nfF 142 Tryz.f142 []
def Wz:=nfF 143 Tryz.f143 []
def Qp:=nfF 152 Tryz.f152 [10]
abbrev RV:t5:=ptA Qp [1,0,1,0,0]
def WE:=nfF 153 Tryz.f153 []
def WF:=nfF 154 Tryz.f154 []
def WG:=nfF 155 Tryz.f155 [6,26]
def Wr:=nfF 131 Tryz.f131 []
def Ws:=nfF 132 Tryz.f132 []
def Qk:=nfF 133 Tryz.f133 [10]
abbrev RM:t5:=ptA Qk [1,1,0,1,0,0]
def Fa:=nfF 134 Tryz.f134 []
def EV:t5:=ptA Fa [1,1,1,0,1,0,0,1,0,0,1,1,1,1,1,1,1,1,1,1,1,0,0,1,0,0,1,1]
def pS:=hdF Fa [1,1,1,0,1,0,0,1,0,0,1,1,1,1,1,1,1,1,1,1,1,0,0,1,0,0,1,1] EV
abbrev RQ:t5:=ptA pS [1,1,1,0,1,0,0,1,0,0,1,1,1,1,1,1,1,1,1,1,1,0,0,1,1]
abbrev Kp:t5:=ptA pS [1,1,1,0,1,0,0,1,0,0,1,1,1,1,1,1,1,1,1,1,1,0,0]
abbrev RO:t5:=ptA pS [1,1,1,0,1,0,0,1,0,0,1,1,1,1,1,1,1,0,1,0,0]
abbrev Oc:t5:=ptA pS [1,1,1,0,1,0,0,1,0,0,1,1,1,1,1,1,1,1]
abbrev RN:t5:=ptA pS [1,1,1,0,1,0,0,1,0,0,1,1,1,0,0,0]
abbrev qN:t5:=ptA pS [1,1,1,0,1,0,0,1,1]
abbrev RP:t5:=ptA pS [1,1,1,0,1,0,0]
def WC:=nfF 146 Tryz.f146 []
def Qo:=nfF 147 Tryz.f147 [6]
abbrev RU:t5:=ptA Qo [1,0,1,0,0]
def Qq:=nfF 161 Tryz.f161 []
abbrev RX:t5:=ptA Qq [1,0,1,0,0]
def WH:=nfF 162 Tryz.f162 []
def WI:=nfF 165 Tryz.f165 []
abbrev tD(n s b:Nat)(z:LV)(v:aa3)(g:Bool):Prop:=D5 prog n=some s/\T1 prog n=some b/\P8 prog n=some z/\ko prog n=some v/\dX prog n=some g
abbrev tE(n s b:Nat)(z:LV)(v:aa3)(g:Bool)(p:Prop):Prop:=D5 prog n=some s/\T1 prog n=some b/\P8 prog n=some z/\ko prog n=some v/\dX prog n=some g/\p
abbrev tF(n i a b:Nat):Prop:=yS prog n i=some (a,b)
abbrev tG(n:Nat)(l:List (Nat×Nat)):Prop:=MT prog n=some (.inl l)
abbrev tK(n:Nat)(l:List V7):Prop:=yR prog n=some l
abbrev tU(n:Nat)(l:List V7):Prop:=qq prog n=some l
abbrev tS(n e:Nat):Prop:=tE n 1 24 [nS] nS false (I3 prog n=some e/\prog.underlying n=some (.slice e))
abbrev tP(n e:Nat):Prop:=tE n 1 8 [.pointer none] (.pointer none) false (prog.underlying n=some (.pointer e))
def gP{p:Prop}(q:p:=by repeat' (first|kernel_rfl|refine⟨?_,?_⟩|(show _=_;kernel_rfl))):p:=q
def ty3:tE 3 1 8 [iV (0)] (iV (0)) false (tK 3 [.int]/\prog.underlying 3=some (.int .i64)):=gP
def ty4:tE 4 1 1 [.bool false] (.bool false) false (tK 4 [.bool]/\BB prog 4=true/\prog.underlying 4=some .bool):=gP
def ty5:tE 5 1 1 [.int .u8 (0)] (.int .u8 (0)) false (tK 5 [.int]/\prog.underlying 5=some (.int .u8)):=gP
def ty9:tE 9 1 16 [.string eB] (.string eB) false (tK 9 [.str]/\prog.underlying 9=some .string):=gP
def MW:tE 21 1 4 [.int .i32 (0)] (.int .i32 (0)) false (tK 21 [.int]/\prog.underlying 21=some (.int .i32)):=gP
def gV:tE 22 1 24 [nS] (nS) false (I3 prog 22=some 29/\prog.underlying 22=some (.slice 29)):=gP
def gW:tE 26 2 32 [.string eB,.string eB] (.agg #[.string eB,.string eB]) true (tG 26 [(0,1),(1,1)]/\tK 26 [.str,.str]/\tU 26 [.str,.str]/\tF 26 0 0 9/\tF 26 1 1 9):=gP
def IU:tE 27 1 24 [nS] (nS) false (I3 prog 27=some 88/\prog.underlying 27=some (.slice 88)):=gP
def Q9:tE 29 5 80 [iV (0),.string eB,.string eB,nS,.string eB] (.agg #[iV (0),.string eB,.string eB,nS,.string eB]) true (tG 29 [(0,1),(1,2),(3,1),(4,1)]/\tF 29 0 0 3/\tF 29 1 1 26/\tF 29 2 3 27/\tF 29 3 4 9):=gP
def qJ:tE 33 1 24 [nS] (nS) false (I3 prog 33=some 36/\prog.underlying 33=some (.slice 36)):=gP
def yV:tE 34 1 24 [nS] (nS) false (I3 prog 34=some 126/\prog.underlying 34=some (.slice 126)):=gP
def cd:tE 36 3 56 [iV (0),nS,nS] (.agg #[iV (0),nS,nS]) true (tG 36 [(0,1),(1,1),(2,1)]/\tF 36 0 0 3/\tF 36 1 1 33/\tF 36 2 2 34):=gP
def TY:tE 37 1 24 [nS] (nS) false (I3 prog 37=some 41/\prog.underlying 37=some (.slice 41)):=gP
def BE:tE 38 1 24 [nS] (nS) false (I3 prog 38=some 3/\prog.underlying 38=some (.slice 3)):=gP
def PR:tE 39 1 24 [nS] (nS) false (I3 prog 39=some 145/\prog.underlying 39=some (.slice 145)):=gP
def uY:tE 41 5 72 [iV (0),iV (0),iV (0),nS,nS] (.agg #[iV (0),iV (0),iV (0),nS,nS]) true (tG 41 [(0,1),(1,1),(2,1),(3,1),(4,1)]/\tF 41 0 0 3/\tF 41 1 1 3/\tF 41 2 2 3/\tF 41 3 3 39/\tF 41 4 4 34):=gP
def Zt:tE 43 8 144 [nS,nS,nS,iV (0),iV (0),iV (0),nS,nS] (.agg #[nS,nS,nS,iV (0),iV (0),iV (0),nS,nS]) true (tG 43 [(0,1),(1,1),(2,1),(3,5)]/\tF 43 0 0 33/\tF 43 1 1 37/\tF 43 2 2 38/\tF 43 3 3 41):=gP
def TZ:tE 44 1 24 [nS] (nS) false (I3 prog 44=some 58/\prog.underlying 44=some (.slice 58)):=gP
def Yg:tE 45 1 24 [nS] (nS) false (I3 prog 45=some 84/\prog.underlying 45=some (.slice 84)):=gP
def Zu:tE 47 12 240 [nS,nS,nS,iV (0),iV (0),iV (0),nS,nS,nS,nS,nS,nS] (.agg #[nS,nS,nS,iV (0),iV (0),iV (0),nS,nS,nS,nS,nS,nS]) true (tG 47 [(0,8),(8,1),(9,1),(10,1),(11,1)]/\tF 47 0 0 43/\tF 47 1 8 22/\tF 47 2 9 44/\tF 47 3 10 38/\tF 47 4 11 45):=gP
def IV:tE 51 1 24 [nS] (nS) false (I3 prog 51=some 56/\prog.underlying 51=some (.slice 56)):=gP
def oz:tE 54 1 24 [nS] (nS) false (I3 prog 54=some 65/\prog.underlying 54=some (.slice 65)):=gP
def pE:tE 56 2 32 [iV (0),nS] (.agg #[iV (0),nS]) true (tG 56 [(0,1),(1,1)]/\tF 56 0 0 3/\tF 56 1 1 54):=gP
def IW:tE 58 3 24 [.bool false,.bool false,.string eB] (.agg #[.bool false,.bool false,.string eB]) true (tG 58 [(0,1),(1,1),(2,1)]/\tK 58 [.bool,.bool,.str]/\tU 58 [.bool,.bool,.str]/\tF 58 0 0 4/\tF 58 1 1 4/\tF 58 2 2 9):=gP
def du:tE 65 2 16 [iV (0),iV (0)] (.agg #[iV (0),iV (0)]) true (tG 65 [(0,1),(1,1)]/\tK 65 [.int,.int]/\tU 65 [.int,.int]/\tF 65 0 0 3/\tF 65 1 1 3):=gP
def IX:tE 84 3 24 [iV (0),iV (0),iV (0)] (.agg #[iV (0),iV (0),iV (0)]) true (tG 84 [(0,1),(1,1),(2,1)]/\tK 84 [.int,.int,.int]/\tU 84 [.int,.int,.int]/\tF 84 0 0 3/\tF 84 1 1 3/\tF 84 2 2 3):=gP
def Yh:tP 86 47:=gP
def oD:tE 88 3 48 [.string eB,.string eB,.string eB] (.agg #[.string eB,.string eB,.string eB]) true (tG 88 [(0,2),(2,1)]/\tK 88 [.str,.str,.str]/\tU 88 [.str,.str,.str]/\tF 88 0 0 26/\tF 88 1 2 9):=gP
def Zw:tE 94 1 8 [.map none] (.map none) false (yU prog 94=some (3,4)/\prog.underlying 94=some (.map 3 4)):=gP
def ot:tE 101 1 24 [nS] (nS) false (I3 prog 101=some 26/\prog.underlying 101=some (.slice 26)):=gP
def MU:tE 102 1 24 [nS] (nS) false (I3 prog 102=some 103/\prog.underlying 102=some (.slice 103)):=gP
def X6:tE 103 1 24 [nS] (nS) false (I3 prog 103=some 9/\prog.underlying 103=some (.slice 9)):=gP
def XW:tE 105 4 96 [nS,nS,nS,nS] (.agg #[nS,nS,nS,nS]) true (tG 105 [(0,1),(1,1),(2,1),(3,1)]/\tF 105 0 0 101/\tF 105 1 1 101/\tF 105 2 2 102/\tF 105 3 3 103):=gP
def XX:tD 108 1 8 [.nilFunc] .nilFunc false:=gP
def XY:tE 114 1 24 [nS] (.agg #[nS]) true (tG 114 [(0,1)]/\tF 114 0 0 33):=gP
def Y7:tE 126 6 104 [iV (0),.string eB,.string eB,.string eB,nS,nS] (.agg #[iV (0),.string eB,.string eB,.string eB,nS,nS]) true (tG 126 [(0,1),(1,2),(3,1),(4,1),(5,1)]/\tF 126 0 0 3/\tF 126 1 1 26/\tF 126 2 3 9/\tF 126 3 4 34/\tF 126 4 5 33):=gP
def XZ:tE 129 4 96 [nS,nS,nS,nS] (.agg #[nS,nS,nS,nS]) true (tG 129 [(0,1),(1,1),(2,1),(3,1)]/\tF 129 0 0 101/\tF 129 1 1 101/\tF 129 2 2 102/\tF 129 3 3 103):=gP
def Ya:tE 134 1 24 [nS] (nS) false (I3 prog 134=some 54/\prog.underlying 134=some (.slice 54)):=gP
def MV:tE 136 1 24 [nS] (nS) false (I3 prog 136=some 21/\prog.underlying 136=some (.slice 21)):=gP
def uq:tE 140 1 24 [nS] (nS) false (I3 prog 140=some 5/\prog.underlying 140=some (.slice 5)):=gP
def FE:tE 141 1 24 [nS] (nS) false (I3 prog 141=some 4/\prog.underlying 141=some (.slice 4)):=gP
def lN:tE 145 4 32 [iV (0),iV (0),iV (0),iV (0)] (.agg #[iV (0),iV (0),iV (0),iV (0)]) true (tG 145 [(0,1),(1,1),(2,1),(3,1)]/\tK 145 [.int,.int,.int,.int]/\tU 145 [.int,.int,.int,.int]/\tF 145 0 0 3/\tF 145 1 1 3/\tF 145 2 2 3/\tF 145 3 3 3):=gP
def Yb:tE 148 4 96 [nS,nS,nS,nS] (.agg #[nS,nS,nS,nS]) true (tG 148 [(0,4)]/\tF 148 0 0 105):=gP
def Yc:tE 153 5 72 [iV (0),iV (0),iV (0),nS,nS] (.agg #[iV (0),iV (0),iV (0),nS,nS]) true (tG 153 [(0,5)]/\tF 153 0 0 41):=gP
def Yd:tE 160 20 296 [nS,nS,nS,iV (0),iV (0),iV (0),nS,nS,iV (0),.string eB,.string eB,nS,.string eB,.bool false,.bool false,.string eB,.bool false,.bool false,.string eB,nS] (.agg #[nS,nS,nS,iV (0),iV (0),iV (0),nS,nS,iV (0),.string eB,.string eB,nS,.string eB,.bool false,.bool false,.string eB,.bool false,.bool false,.string eB,nS]) true (tG 160 [(0,8),(8,5),(13,3),(16,3),(19,1)]/\tF 160 0 0 43/\tF 160 1 8 29/\tF 160 2 13 58/\tF 160 3 16 58/\tF 160 4 19 140):=gP
def Ye:tE 164 7 88 [iV (0),iV (0),iV (0),nS,nS,iV (0),iV (0)] (.agg #[iV (0),iV (0),iV (0),nS,nS,iV (0),iV (0)]) true (tG 164 [(0,5),(5,1),(6,1)]/\tF 164 0 0 41/\tF 164 1 5 3/\tF 164 2 6 3):=gP
def Yf:tE 202 14 248 [nS,nS,nS,iV (0),iV (0),iV (0),nS,nS,iV (0),.string eB,.string eB,nS,.string eB,nS] (.agg #[nS,nS,nS,iV (0),iV (0),iV (0),nS,nS,iV (0),.string eB,.string eB,nS,.string eB,nS]) true (tG 202 [(0,8),(8,5),(13,1)]/\tF 202 0 0 43/\tF 202 1 8 29/\tF 202 2 13 140):=gP
def anB:qw (aI @List.any_cons.{0} @List.any_nil.{0}):=stOf _
def tyA:qw (aI (aI (aI (aI (aI @ty3 @ty4) (aI @ty5 (aI @ty9 @MW))) (aI (aI @gV (aI @gW @IU)) (aI @Q9 (aI @qJ @yV)))) (aI (aI (aI @cd (aI @TY @BE)) (aI @PR (aI @uY @Zt))) (aI (aI @TZ (aI @Yg @Zu)) (aI @IV (aI @oz @pE))))) (aI (aI (aI (aI @IW (aI @du @IX)) (aI @Yh (aI @oD @Zw))) (aI (aI @ot (aI @MU @X6)) (aI @XW (aI @XX @XY)))) (aI (aI (aI @Y7 (aI @XZ @Ya)) (aI @MV (aI @uq @FE))) (aI (aI @lN (aI @Yb @Yc)) (aI @Yd (aI @Ye @Yf)))))):=stOf _
section
variable{a b c d e f g h i j k l m n o r s t u v w x y z a1 b1 c1 d1 e1 f1 p q:Prop}
def Jj'(a':a)(K:q)(Z:a->q->p:=by intro a;simp(maxSteps:=20000000) -dsimp (disch:=first|omega|(simp only[rH]<;>omega)|fail) only[↓fk,rQ,N1,sevalprocAttr,tyA,a]<;>exact id):p:=Z a' K
def J1(a':a)(K:q)(Z:a->q->p:=by intro a;simp(maxSteps:=20000000) -dsimp (disch:=first|omega|(simp only[rH]<;>omega)|fail) only[↓fk,rQ,N1,sevalprocAttr,tyA,a]<;>exact id):p:=Z a' K
def J2(a':a)(b':b)(K:q)(Z:a/\b->q->p:=by exact fun a b=>Jj' a b):p:=Z ⟨a',b'⟩ K
def J3(a':a)(b':b)(c':c)(K:q)(Z:a/\b/\c->q->p:=by exact fun a b=>Jj' a b):p:=Z ⟨a',b',c'⟩ K
def J4(a':a)(b':b)(c':c)(d':d)(K:q)(Z:a/\b/\c/\d->q->p:=by exact fun a b=>Jj' a b):p:=Z ⟨a',b',c',d'⟩ K
def J5(a':a)(b':b)(c':c)(d':d)(e':e)(K:q)(Z:a/\b/\c/\d/\e->q->p:=by exact fun a b=>Jj' a b):p:=Z ⟨a',b',c',d',e'⟩ K
def J6(a':a)(b':b)(c':c)(d':d)(e':e)(f':f)(K:q)(Z:a/\b/\c/\d/\e/\f->q->p:=by exact fun a b=>Jj' a b):p:=Z ⟨a',b',c',d',e',f'⟩ K
def J7(a':a)(b':b)(c':c)(d':d)(e':e)(f':f)(g':g)(K:q)(Z:a/\b/\c/\d/\e/\f/\g->q->p:=by exact fun a b=>Jj' a b):p:=Z ⟨a',b',c',d',e',f',g'⟩ K
def J8(a':a)(b':b)(c':c)(d':d)(e':e)(f':f)(g':g)(h':h)(K:q)(Z:a/\b/\c/\d/\e/\f/\g/\h->q->p:=by exact fun a b=>Jj' a b):p:=Z ⟨a',b',c',d',e',f',g',h'⟩ K
def J9(a':a)(b':b)(c':c)(d':d)(e':e)(f':f)(g':g)(h':h)(i':i)(K:q)(Z:a/\b/\c/\d/\e/\f/\g/\h/\i->q->p:=by exact fun a b=>Jj' a b):p:=Z ⟨a',b',c',d',e',f',g',h',i'⟩ K
def J10(a':a)(b':b)(c':c)(d':d)(e':e)(f':f)(g':g)(h':h)(i':i)(j':j)(K:q)(Z:a/\b/\c/\d/\e/\f/\g/\h/\i/\j->q->p:=by exact fun a b=>Jj' a b):p:=Z ⟨a',b',c',d',e',f',g',h',i',j'⟩ K
def J11(a':a)(b':b)(c':c)(d':d)(e':e)(f':f)(g':g)(h':h)(i':i)(j':j)(k':k)(K:q)(Z:a/\b/\c/\d/\e/\f/\g/\h/\i/\j/\k->q->p:=by exact fun a b=>Jj' a b):p:=Z ⟨a',b',c',d',e',f',g',h',i',j',k'⟩ K
def J12(a':a)(b':b)(c':c)(d':d)(e':e)(f':f)(g':g)(h':h)(i':i)(j':j)(k':k)(l':l)(K:q)(Z:a/\b/\c/\d/\e/\f/\g/\h/\i/\j/\k/\l->q->p:=by exact fun a b=>Jj' a b):p:=Z ⟨a',b',c',d',e',f',g',h',i',j',k',l'⟩ K
def J13(a':a)(b':b)(c':c)(d':d)(e':e)(f':f)(g':g)(h':h)(i':i)(j':j)(k':k)(l':l)(m':m)(K:q)(Z:a/\b/\c/\d/\e/\f/\g/\h/\i/\j/\k/\l/\m->q->p:=by exact fun a b=>Jj' a b):p:=Z ⟨a',b',c',d',e',f',g',h',i',j',k',l',m'⟩ K
def J14(a':a)(b':b)(c':c)(d':d)(e':e)(f':f)(g':g)(h':h)(i':i)(j':j)(k':k)(l':l)(m':m)(n':n)(K:q)(Z:a/\b/\c/\d/\e/\f/\g/\h/\i/\j/\k/\l/\m/\n->q->p:=by exact fun a b=>Jj' a b):p:=Z ⟨a',b',c',d',e',f',g',h',i',j',k',l',m',n'⟩ K
def J15(a':a)(b':b)(c':c)(d':d)(e':e)(f':f)(g':g)(h':h)(i':i)(j':j)(k':k)(l':l)(m':m)(n':n)(o':o)(K:q)(Z:a/\b/\c/\d/\e/\f/\g/\h/\i/\j/\k/\l/\m/\n/\o->q->p:=by exact fun a b=>Jj' a b):p:=Z ⟨a',b',c',d',e',f',g',h',i',j',k',l',m',n',o'⟩ K
def J16(a':a)(b':b)(c':c)(d':d)(e':e)(f':f)(g':g)(h':h)(i':i)(j':j)(k':k)(l':l)(m':m)(n':n)(o':o)(r':r)(K:q)(Z:a/\b/\c/\d/\e/\f/\g/\h/\i/\j/\k/\l/\m/\n/\o/\r->q->p:=by exact fun a b=>Jj' a b):p:=Z ⟨a',b',c',d',e',f',g',h',i',j',k',l',m',n',o',r'⟩ K
def J17(a':a)(b':b)(c':c)(d':d)(e':e)(f':f)(g':g)(h':h)(i':i)(j':j)(k':k)(l':l)(m':m)(n':n)(o':o)(r':r)(s':s)(K:q)(Z:a/\b/\c/\d/\e/\f/\g/\h/\i/\j/\k/\l/\m/\n/\o/\r/\s->q->p:=by exact fun a b=>Jj' a b):p:=Z ⟨a',b',c',d',e',f',g',h',i',j',k',l',m',n',o',r',s'⟩ K
def J18(a':a)(b':b)(c':c)(d':d)(e':e)(f':f)(g':g)(h':h)(i':i)(j':j)(k':k)(l':l)(m':m)(n':n)(o':o)(r':r)(s':s)(t':t)(K:q)(Z:a/\b/\c/\d/\e/\f/\g/\h/\i/\j/\k/\l/\m/\n/\o/\r/\s/\t->q->p:=by exact fun a b=>Jj' a b):p:=Z ⟨a',b',c',d',e',f',g',h',i',j',k',l',m',n',o',r',s',t'⟩ K
def J19(a':a)(b':b)(c':c)(d':d)(e':e)(f':f)(g':g)(h':h)(i':i)(j':j)(k':k)(l':l)(m':m)(n':n)(o':o)(r':r)(s':s)(t':t)(u':u)(K:q)(Z:a/\b/\c/\d/\e/\f/\g/\h/\i/\j/\k/\l/\m/\n/\o/\r/\s/\t/\u->q->p:=by exact fun a b=>Jj' a b):p:=Z ⟨a',b',c',d',e',f',g',h',i',j',k',l',m',n',o',r',s',t',u'⟩ K
def J20(a':a)(b':b)(c':c)(d':d)(e':e)(f':f)(g':g)(h':h)(i':i)(j':j)(k':k)(l':l)(m':m)(n':n)(o':o)(r':r)(s':s)(t':t)(u':u)(v':v)(K:q)(Z:a/\b/\c/\d/\e/\f/\g/\h/\i/\j/\k/\l/\m/\n/\o/\r/\s/\t/\u/\v->q->p:=by exact fun a b=>Jj' a b):p:=Z ⟨a',b',c',d',e',f',g',h',i',j',k',l',m',n',o',r',s',t',u',v'⟩ K
def J21(a':a)(b':b)(c':c)(d':d)(e':e)(f':f)(g':g)(h':h)(i':i)(j':j)(k':k)(l':l)(m':m)(n':n)(o':o)(r':r)(s':s)(t':t)(u':u)(v':v)(w':w)(K:q)(Z:a/\b/\c/\d/\e/\f/\g/\h/\i/\j/\k/\l/\m/\n/\o/\r/\s/\t/\u/\v/\w->q->p:=by exact fun a b=>Jj' a b):p:=Z ⟨a',b',c',d',e',f',g',h',i',j',k',l',m',n',o',r',s',t',u',v',w'⟩ K
def J23(a':a)(b':b)(c':c)(d':d)(e':e)(f':f)(g':g)(h':h)(i':i)(j':j)(k':k)(l':l)(m':m)(n':n)(o':o)(r':r)(s':s)(t':t)(u':u)(v':v)(w':w)(x':x)(y':y)(K:q)(Z:a/\b/\c/\d/\e/\f/\g/\h/\i/\j/\k/\l/\m/\n/\o/\r/\s/\t/\u/\v/\w/\x/\y->q->p:=by exact fun a b=>Jj' a b):p:=Z ⟨a',b',c',d',e',f',g',h',i',j',k',l',m',n',o',r',s',t',u',v',w',x',y'⟩ K
def J24(a':a)(b':b)(c':c)(d':d)(e':e)(f':f)(g':g)(h':h)(i':i)(j':j)(k':k)(l':l)(m':m)(n':n)(o':o)(r':r)(s':s)(t':t)(u':u)(v':v)(w':w)(x':x)(y':y)(z':z)(K:q)(Z:a/\b/\c/\d/\e/\f/\g/\h/\i/\j/\k/\l/\m/\n/\o/\r/\s/\t/\u/\v/\w/\x/\y/\z->q->p:=by exact fun a b=>Jj' a b):p:=Z ⟨a',b',c',d',e',f',g',h',i',j',k',l',m',n',o',r',s',t',u',v',w',x',y',z'⟩ K
def J25(a':a)(b':b)(c':c)(d':d)(e':e)(f':f)(g':g)(h':h)(i':i)(j':j)(k':k)(l':l)(m':m)(n':n)(o':o)(r':r)(s':s)(t':t)(u':u)(v':v)(w':w)(x':x)(y':y)(z':z)(a1':a1)(K:q)(Z:a/\b/\c/\d/\e/\f/\g/\h/\i/\j/\k/\l/\m/\n/\o/\r/\s/\t/\u/\v/\w/\x/\y/\z/\a1->q->p:=by exact fun a b=>Jj' a b):p:=Z ⟨a',b',c',d',e',f',g',h',i',j',k',l',m',n',o',r',s',t',u',v',w',x',y',z',a1'⟩ K
def J26(a':a)(b':b)(c':c)(d':d)(e':e)(f':f)(g':g)(h':h)(i':i)(j':j)(k':k)(l':l)(m':m)(n':n)(o':o)(r':r)(s':s)(t':t)(u':u)(v':v)(w':w)(x':x)(y':y)(z':z)(a1':a1)(b1':b1)(K:q)(Z:a/\b/\c/\d/\e/\f/\g/\h/\i/\j/\k/\l/\m/\n/\o/\r/\s/\t/\u/\v/\w/\x/\y/\z/\a1/\b1->q->p:=by exact fun a b=>Jj' a b):p:=Z ⟨a',b',c',d',e',f',g',h',i',j',k',l',m',n',o',r',s',t',u',v',w',x',y',z',a1',b1'⟩ K
def J27(a':a)(b':b)(c':c)(d':d)(e':e)(f':f)(g':g)(h':h)(i':i)(j':j)(k':k)(l':l)(m':m)(n':n)(o':o)(r':r)(s':s)(t':t)(u':u)(v':v)(w':w)(x':x)(y':y)(z':z)(a1':a1)(b1':b1)(c1':c1)(K:q)(Z:a/\b/\c/\d/\e/\f/\g/\h/\i/\j/\k/\l/\m/\n/\o/\r/\s/\t/\u/\v/\w/\x/\y/\z/\a1/\b1/\c1->q->p:=by exact fun a b=>Jj' a b):p:=Z ⟨a',b',c',d',e',f',g',h',i',j',k',l',m',n',o',r',s',t',u',v',w',x',y',z',a1',b1',c1'⟩ K
def J29(a':a)(b':b)(c':c)(d':d)(e':e)(f':f)(g':g)(h':h)(i':i)(j':j)(k':k)(l':l)(m':m)(n':n)(o':o)(r':r)(s':s)(t':t)(u':u)(v':v)(w':w)(x':x)(y':y)(z':z)(a1':a1)(b1':b1)(c1':c1)(d1':d1)(e1':e1)(K:q)(Z:a/\b/\c/\d/\e/\f/\g/\h/\i/\j/\k/\l/\m/\n/\o/\r/\s/\t/\u/\v/\w/\x/\y/\z/\a1/\b1/\c1/\d1/\e1->q->p:=by exact fun a b=>Jj' a b):p:=Z ⟨a',b',c',d',e',f',g',h',i',j',k',l',m',n',o',r',s',t',u',v',w',x',y',z',a1',b1',c1',d1',e1'⟩ K
def J30(a':a)(b':b)(c':c)(d':d)(e':e)(f':f)(g':g)(h':h)(i':i)(j':j)(k':k)(l':l)(m':m)(n':n)(o':o)(r':r)(s':s)(t':t)(u':u)(v':v)(w':w)(x':x)(y':y)(z':z)(a1':a1)(b1':b1)(c1':c1)(d1':d1)(e1':e1)(f1':f1)(K:q)(Z:a/\b/\c/\d/\e/\f/\g/\h/\i/\j/\k/\l/\m/\n/\o/\r/\s/\t/\u/\v/\w/\x/\y/\z/\a1/\b1/\c1/\d1/\e1/\f1->q->p:=by exact fun a b=>Jj' a b):p:=Z ⟨a',b',c',d',e',f',g',h',i',j',k',l',m',n',o',r',s',t',u',v',w',x',y',z',a1',b1',c1',d1',e1',f1'⟩ K
end
def pushE(H:d7)(B:Blk):∃K,K=H.push B/\K.n=H.n+1/\K.g H.n=some B/\d9 H.n H K:=⟨_,rfl,by rw[i4],j6,d9.push (R2 _)⟩
def pushF(H:d7)(B:Blk):∃K,K=d7.push ⟨H.bs,H.n⟩ B/\K.n=H.n+1/\K.g H.n=some B/\d9 H.n H K:=⟨_,rfl,by rw[i4];rfl,j6,d9.first H _⟩
def pushP(H:d7)(B C:Blk):∃K,K=(H.push B).put H.n C/\K.n=H.n+1/\K.g H.n=some C/\d9 H.n H K:=⟨_,rfl,by rw[j9,i4],i9 (by rw[i4];omega),(d9.push (R2 _)).trans (d9.put (R2 _))⟩
abbrev bC(c:LV)(n:Nat):Blk:= .cells c true n
abbrev sL(b n c:Nat):aa3:= .slice (some ⟨b,0,none⟩) n c
abbrev cE(c:LV)(n:Nat):Option Blk:=some (.cells c true n)
def l7:Lib:=fun _=>none
def inSpans(r:Int)(l:List (Int×Int)):Bool:=l.any fun s=>decide (s.1<=r)&&decide (r<=s.2)
def rJ(r:Int):Bool:=decide (r=9)||decide (r=10)||decide (r=13)||decide (r=32)
def vx:List (Int×Int):=[(0x20,0xd7ff),(0xe000,0xfffd),(0x10000,0x10ffff)]
def ug:List (Int×Int):=[(65,90),(97,122),(95,95),(0xc0,0xd6),(0xd8,0xf6),(0xf8,0x2ff),(0x370,0x37d),(0x37f,0x1fff),(0x200c,0x200d),(0x2070,0x218f),(0x2c00,0x2fef),(0x3001,0xd7ff),(0xf900,0xfdcf),(0xfdf0,0xfffd),(0x10000,0xeffff)]
def wq:List (Int×Int):=[(45,46),(48,57),(0xb7,0xb7),(0x300,0x36f),(0x203f,0x2040)]
def mJ(r:Int):Bool:=rJ r||inSpans r vx
def iI(r:Int):Bool:=inSpans r ug
def lk(r:Int):Bool:=iI r||inSpans r wq
def lO(v:Int)(tails:Int):Int×Int:=
 (IntKind.wrap .i32 (v*2 ^ min (6*tails).toNat 32),Go.bits .or .i32 (IntKind.wrap .i32 (v*2 ^ min (6*tails).toNat 32)) (IntKind.wrap .i32 (IntKind.wrap .i32 (1*2 ^ min (6*tails).toNat 32)-1)))
def bU(s:aa2)(at_ n:Nat):Nat->Int->Nat->Int×Nat
 |0,v,h=>(v,h)
 |k+1,v,h=>
  if at_+h<s.size/\Go.bits .and .u8 (A8 s (at_+h)) 192=128 then
   bU s at_ n k (Go.bits .or .i32 (IntKind.wrap .i32 (v*2 ^ min (Int.toNat 6) 32)) (IntKind.wrap .i32 (Go.bits .and .u8 (A8 s (at_+h)) 63))) (h+1)
  else(v,h)
def uZ(s:aa2)(at_ n:Nat)(least v:Int)(h:Nat):Int×Int×Int:=
 if(lO v (n+1-h)).2<least\/1114111<(lO v (n+1-h)).1\/(55296<=(lO v (n+1-h)).1/\(lO v (n+1-h)).2<=57343) then(0,0,2)
 else if h=n+1 then(v,h,0) else if at_+h=s.size then(0,0,7) else(0,0,2)
def Y8:Nat->Int×Int×Int
 |0=>(128,0,0)
 |1=>(224,192,128)
 |2=>(240,224,2048)
 |_=>(248,240,65536)
def ay(s:aa2)(at_:Nat):Nat->Nat->Int×Int×Int
 |0,_=>(0,0,2)
 |k+1,i=>
  if Go.bits .and .u8 (A8 s at_) (Y8 i).1=(Y8 i).2.1 then
   uZ s at_ i (Y8 i).2.2 (bU s at_ i i (IntKind.wrap .i32 (Go.bits .andNot .u8 (A8 s at_) (Y8 i).1)) 1).1 (bU s at_ i i (IntKind.wrap .i32 (Go.bits .andNot .u8 (A8 s at_) (Y8 i).1)) 1).2
  else ay s at_ k (i+1)
def dZ(s:aa2)(at_:Nat):Int×Int×Int:=if at_<s.size then ay s at_ 4 0 else(0,0,7)
def MZ(s:aa2)(u n:Nat):∀k v h,u+h<=s.size->h<=(bU s u n k v h).2/\u+(bU s u n k v h).2<=s.size:=by
 intro k;induction k with
 |zero=>intro v h z;exact⟨lR,z⟩
 |succ k D=>
  intro v h z;rw[bU];split
  next c=>have:=D (Go.bits .or .i32 (IntKind.wrap .i32 (v*2 ^ min (Int.toNat 6) 32)) (IntKind.wrap .i32 (Go.bits .and .u8 (A8 s (u+h)) 63))) (h+1) oM;exact⟨oM,this.2⟩
  .exact⟨lR,z⟩
def MY(s:aa2)(u:Nat)(E:u<s.size):∀k i,(ay s u k i).2.2=0->∃h:Nat,(ay s u k i).2.1=h/\1<=h/\u+h<=s.size:=by
 intro k;induction k with
 |zero=>intro i h;exact absurd h (by simp [ay])
 |succ k D=>
  intro i h;rw[ay]at h ⊢;split at h
  .rename_i c;rw[bJ c];have z:=MZ s u i i (IntKind.wrap .i32 (Go.bits .andNot .u8 (A8 s u) (Y8 i).1)) 1 oM;rw[uZ]at h ⊢;split at h
   .exact absurd h sM
   .rename_i c1;rw[bt c1];split at h
    next c2=>rw[bJ c2];exact⟨_,rfl,z.1,z.2⟩
    .split at h<;>exact absurd h sM
  next c=>rw[bt c];exact D (i+1) h
def Na(s:aa2)(u:Nat)(h:(dZ s u).2.2=0):∃n:Nat,(dZ s u).2.1=n/\1<=n/\u+n<=s.size:=by
 rw[dZ]at h ⊢;split at h
 next c=>rw[bJ c];exact MY s u c _ _ h
 .exact absurd h sM
def yW(s:aa2)(at_:Nat):Int:=
 if h:at_<s.size then
  if h2:(dZ s at_).2.2=0 then yW s (at_+(dZ s at_).2.1.toNat) else(dZ s at_).2.2
 else 0
termination_by s.size-at_
decreasing_by
 obtain⟨n,h3,h4,h5⟩:=Na s at_ h2;rw[h3];simp only[xA];omega
def zG(f:Int->Bool)(s:aa2)(at_:Nat):Bool:=
 if h:at_<s.size then if f (Utf8.decode s at_).1 then zG f s (at_+(Utf8.decode s at_).2) else false else true
termination_by s.size-at_
decreasing_by have:=bn s at_;omega
def Y9(s:aa2):Bool:=decide (yW s 0=0)&&zG mJ s 0
def jT(s:aa2)(at_:Nat):Bool:=
 if h:at_<s.size then if(decide (at_=0)&& !iI (Utf8.decode s at_).1)|| !lk (Utf8.decode s at_).1 then false else jT s (at_+(Utf8.decode s at_).2) else true
termination_by s.size-at_
decreasing_by have:=bn s at_;omega
def ku(s:aa2):Bool:=jT s 0&& !decide (s=eB)
def uw:aa2:=⟨#[104,116,116,112,58,47,47,119,119,119,46,119,51,46,111,114,103,47,50,48,48,48,47,120,109,108,110,115,47]⟩
def dw(space loc:aa2):Bool:=ku loc&&Y9 loc&&Y9 space&& !decide (space=uw)
structure AtD where
 space:aa2
 loc:aa2
 val:aa2
def AtR(cs:LV)(a:AtD):Prop:=cs=[.string a.space,.string a.loc,.string a.val]/\a.space.size<=1048576/\a.loc.size<=1048576/\a.val.size<=1048576
def aGo:List (aa2×aa2)->List AtD->Bool
 |_,[]=>true
 |seen,a::r=>if kg (a.space,a.loc) seen|| !dw a.space a.loc|| !Y9 a.val then false else aGo (seen++[(a.space,a.loc)]) r
def jk(l:List AtD):Bool:=aGo [] l&&decide (l.length<=32)
structure EvD where
 kind:Int
 space:aa2
 loc:aa2
 attrs:List AtD
 text:aa2
def EvR(H:d7)(lo:Nat)(cs:LV)(e:EvD):Prop:=
 ∃v,cs=[iV e.kind,.string e.space,.string e.loc,v,.string e.text]/\SlI H lo 3 AtR v e.attrs/\e.space.size<=1048576/\e.loc.size<=1048576/\e.text.size<=1048576/\e.attrs.length<=1048576
def EvR.mono{H H':d7}{lo u:Nat}(J:∀j,j<lo->H'.g j=H.g j) (z:lo<=u) {cs:LV} {e:EvD} (h:EvR H lo cs e):EvR H' u cs e:=by
 obtain⟨v,D,E,I⟩:=h;exact⟨v,D,E.mono J z iF,I⟩
def aN(e:EvD):Bool:=
 if e.kind=1 then decide (e.text= .empty)&&dw e.space e.loc&&jk e.attrs
 else if e.kind=2 then !decide (e.text= .empty)&&Y9 e.text&&(decide (e.space= .empty)&&decide (e.loc= .empty))&&decide (e.attrs.length=0)
 else if e.kind=3 then decide (e.text= .empty)&&(decide (e.space= .empty)&&decide (e.loc= .empty))&&decide (e.attrs.length=0)
 else false
def A7(d:Int)(k:Int):Int:=if k=1 then d+1 else if k=3 then d-1 else d
def bGo:Option Int->Int->List EvD->Bool
 |_,_,[]=>true
 |p,d,e::r=>
  if !aN e||(decide (p=none)&& !decide (e.kind=1))||(!decide (p=none)&&decide (d=0))||(decide (e.kind=2)&&decide (p=some 2)) then false
  else if 64<A7 d e.kind then false else bGo (some e.kind) (A7 d e.kind) r
def C1(l:List EvD):Bool:=bGo none 0 l
def eJ(l:List EvD)(i:Nat):Option Int:=if i=0 then none else(l[i-1]?).map (·.kind)
abbrev N8(H:d7)(lo:Nat)(v:aa3)(l:List EvD):Prop:=SlI H lo 5 (EvR H lo) v l
def N8.mono{H H':d7}{lo z:Nat}{v:aa3}{l:List EvD}(h:N8 H lo v l)(D:∀j,j<lo->H'.g j=H.g j) (u:lo<=z):N8 H' z v l:=
 SlI.mono h D u fun _ _ q=>q.mono D u
def dep(d:Int)(l:List EvD):Int:=l.foldl (fun d e=>A7 d e.kind) d
def gD(d k:Int):d-1<=A7 d k/\A7 d k<=d+1:=by unfold A7;split<;>(try split)<;>omega
def EJ:∀(l:List EvD)(p:Option Int)(d:Int),0<=d->d<=64->(p=none->d=0)->bGo p d l=true->0<=dep d l/\dep d l<=64
 |[],p,d,h0,h1,_,_=>⟨h0,h1⟩
 |e::l,p,d,h0,h1,hp,h=>by
  rw[bGo]at h;split at h
  .cases h
  .rename_i u;split at h
   .cases h
   .rename_i z;refine EJ l (some e.kind) (A7 d e.kind) ?_ oM (fun q=>by cases q) h;have:=gD d e.kind;by_cases D:d=0
    .cases p with
     |none=>
      simp at u;have:e.kind=1:=by
       by_cases k:e.kind=1
       .exact k
       .simp [k]at u
      rw[A7,bJ this];omega
     |some q=>simp [D]at u
    .omega
def kq{l:List EvD}(h:C1 l=true):0<=dep 0 l/\dep 0 l<=64:=EJ l none 0 oM oM (fun _=>rfl) h
def iM{H:d7}{lo:Nat}{v:aa3}{l:List EvD}(U:N8 H lo v l){i:Nat}{ev:EvD}(O:l[i]?=some ev):
  ∃b o c cs own z D,v= .slice (some ⟨b,o,none⟩) l.length c/\b<lo/\H.g b=some (.cells cs own 5)/\o+i*5+5<=cs.length/\
   (cs.drop (o+i*5)).take 5=[iV ev.kind,.string ev.space,.string ev.loc,.slice z ev.attrs.length D,.string ev.text]/\
   SlI H lo 3 AtR (.slice z ev.attrs.length D) ev.attrs/\ev.space.size<=1048576/\ev.loc.size<=1048576/\ev.text.size<=1048576/\ev.attrs.length<=1048576:=by
 obtain⟨b,o,c,cs,own,J,u,S,E,X,I,h,W⟩:=U.at_ O;obtain⟨z,D,rfl⟩:=h.slice;exact⟨b,o,c,cs,own,z,D,J,u,S,E,I,h,W⟩
def B8{α:Type}{l:List α}{i:Nat}(h:i<l.length):∃a,l[i]?=some a/\l.drop i=a::l.drop (i+1):=
 ⟨l[i],gI h,qQ h⟩
inductive Q where
 |mk (op:Int) (sp lc vl:aa2) (a b:List Q)
namespace Q
def op:Q->Int| .mk o _ _ _ _ _=>o
def sp:Q->aa2| .mk _ s _ _ _ _=>s
def lc:Q->aa2| .mk _ _ c _ _ _=>c
def vl:Q->aa2| .mk _ _ _ v _ _=>v
def a:Q->List Q| .mk _ _ _ _ a _=>a
def b:Q->List Q| .mk _ _ _ _ _ b=>b
end Q
def qSz(f:Bool):Nat:=if f then 6 else 3
def QR(H:d7)(lo:Nat):Nat->Bool->LV->Q->Prop
 |0,_,_,_=>False
 |k+1,f,cs,q=>∃v w,cs=(if f then [iV q.op,.string q.sp,.string q.lc,.string q.vl,v,w] else [iV q.op,v,w])/\
   SlI H lo (qSz f) (QR H lo k f) v q.a/\SlI H lo (qSz !f) (QR H lo k !f) w q.b/\q.a.length<=1048576/\q.b.length<=1048576/\q.sp.size<=1048576/\q.lc.size<=1048576/\q.vl.size<=1048576/\(f=false->q.sp=eB/\q.lc=eB/\q.vl=eB)
def QR.mono{H H':d7}{lo z:Nat}(D:∀j,j<lo->H'.g j=H.g j) (u:lo<=z):∀{k:Nat}{f:Bool}{cs:LV}{q:Q},QR H lo k f cs q->QR H' z k f cs q:=by
 intro k;induction k with
 |zero=>intro f cs q h;exact h.elim
 |succ k E=>
  intro f cs q h;obtain⟨v,w,I,J,O,S⟩:=h;exact⟨v,w,I,J.mono D u (fun _ _ h=>E h),O.mono D u (fun _ _ h=>E h),S⟩
def QR.len{H:d7}{lo k:Nat}{f:Bool}{cs:LV}{q:Q}(h:QR H lo k f cs q):cs.length=qSz f:=by
 cases k with
 |zero=>exact h.elim
 |succ k=>obtain⟨v,w,rfl,_⟩:=h;cases f<;>rfl
def QR.stay{H H':d7}{lo:Nat}(u:d9 lo H H'){k:Nat}{f:Bool}{cs:LV}{q:Q}(h:QR H lo k f cs q):QR H' lo k f cs q:=h.mono (fun j z=>u.g j z) lR
def QR.plain{H:d7}{lo k:Nat}{f:Bool}{cs:LV}{q:Q}(h:QR H lo k f cs q)(z:f=false):q.sp=eB/\q.lc=eB/\q.vl=eB:=by
 cases k with
 |zero=>exact h.elim
 |succ k=>obtain⟨v,w,D,E,I,J,O,S,U,W,u⟩:=h;exact u z
abbrev QsR(H:d7)(lo k:Nat)(f:Bool)(v:aa3)(l:List Q):Prop:=SlI H lo (qSz f) (QR H lo k f) v l
def QsR.mono{H H':d7}{lo z k:Nat}{f:Bool}{v:aa3}{l:List Q}(h:QsR H lo k f v l)(D:∀j,j<lo->H'.g j=H.g j) (u:lo<=z):QsR H' z k f v l:=SlI.mono h D u (fun _ _ h=>h.mono D u)
def QR.path{H:d7}{lo k:Nat}{cs:LV}{q:Q}(h:QR H lo (k+1) false cs q):∃D z E u,cs=[iV q.op,.slice D q.a.length z,.slice E q.b.length u]/\QsR H lo k false (.slice D q.a.length z) q.a/\QsR H lo k true (.slice E q.b.length u) q.b/\q.a.length<=1048576/\q.b.length<=1048576:=by
 obtain⟨v,w,O,I,J,S,U,_⟩:=h;obtain⟨D,z,rfl⟩:=I.slice;obtain⟨E,u,rfl⟩:=J.slice;exact⟨D,z,E,u,O,I,J,S,U⟩
def QR.filter{H:d7}{lo k:Nat}{cs:LV}{q:Q}(h:QR H lo (k+1) true cs q):∃D z E u,cs=[iV q.op,.string q.sp,.string q.lc,.string q.vl,.slice D q.a.length z,.slice E q.b.length u]/\QsR H lo k true (.slice D q.a.length z) q.a/\QsR H lo k false (.slice E q.b.length u) q.b/\q.a.length<=1048576/\q.b.length<=1048576/\q.sp.size<=1048576/\q.lc.size<=1048576/\q.vl.size<=1048576:=by
 obtain⟨v,w,O,I,J,S,U,W,X,h8,_⟩:=h;obtain⟨D,z,rfl⟩:=I.slice;obtain⟨E,u,rfl⟩:=J.slice;exact⟨D,z,E,u,O,I,J,S,U,W,X,h8⟩
def QsR.row{H:d7}{lo k:Nat}{f:Bool}{z:Option Addr}{n D:Nat}{l:List Q}(h:QsR H lo k f (.slice z n D) l){i:Nat}(S:i<l.length):
  ∃x b o cs own el,l[i]?=some x/\l.drop i=x::l.drop (i+1)/\z=some ⟨b,o,none⟩/\b<lo/\H.g b=some (.cells cs own (qSz f))/\o+i*qSz f+qSz f<=cs.length/\ldC (some true) (some (qSz f)) (o+i*qSz f) cs=some (.agg el.toArray)/\QR H lo k f el x:=by
 obtain⟨x,E,J⟩:=B8 (l:=l) (i:=i) S;obtain⟨b,o,c,cs,own,W,I,O,u,U⟩:=h.at_ E;obtain⟨rfl,rfl,rfl⟩:z=some ⟨b,o,none⟩/\n=l.length/\D=c:=by simpa using W
 exact⟨x,b,o,cs,own,_,E,J,rfl,I,O,u,aE u rfl,U⟩
mutual
def szQ:Q->Int->Int
 | .mk _ _ _ _ a b,m=>szL b (szL a 1 m) m
def szL:List Q->Int->Int->Int
 |[],n,_=>n
 |x::l,n,m=>if n<=m then szL l (n+szQ x (m-n)) m else n
end
def MS(q:Q)(m:Int):szQ q m=szL q.b (szL q.a 1 m) m:=by cases q;rw[szQ];rfl
mutual
def pD:∀(q:Q)(m:Int),0<=m->1<=szQ q m/\szQ q m<=m+1
 | .mk _ _ _ _ a b,m,h=>by
  rw[szQ];have h1:=ul a 1 m oM oM h;exact ul b _ m oM oM h
def ul:∀(l:List Q)(n m:Int),1<=n->n<=m+1->0<=m->1<=szL l n m/\szL l n m<=m+1
 |[],n,m,h0,h1,h=>by rw[szL];omega
 |x::l,n,m,h0,h1,h=>by
  rw[szL];split
  next hnm=>have h2:=pD x (m-n) oM;exact ul l _ m oM oM h
  .omega
end
def oq(l:List Q)(n m:Int)(h:m<n):szL l n m=n:=by cases l with|nil=>rfl|cons x l=>rw[szL,bt oM]
def eh(fn:Nat)(f:Bool)(k:Nat):Prop:=∀(H:d7)(lo:Nat)(cs:LV)(q:Q)(m:Int),lo<=H.n->QR H lo k f cs q->0<=m->m<=64->CL prog l7 fn [.agg cs.toArray,iV m] H=some (.int .i64 (szQ q m),none)
def PH(k:Nat)(ih:eh 72 false k)(H0:d7)(lo:Nat)(va:Option Addr)(ca:Nat)(l:List Q)(a2:lo<=H0.n)(hv:QsR H0 lo k false (.slice va l.length ca) l)(hn:l.length<=1048576)(O:Nat)(cl:LV)(U:H0.g O=cE cl 1)(X:cl[1]?=some (.slice va l.length ca))(m:Int)(a5:0<=m)(hm:m<=64)(r:Int):
  ∀kk e H2,(∃(i:Nat)(n:Int),kk=l.length-i/\i<=l.length/\1<=n/\n<=m+1/\e.g 1=iV m/\e.g 2=pT O/\e.g 5=iV n/\e.g 6=iV i/\H2=H0/\szL (l.drop i) n m=r)->
  u7 (LE prog l7 (.loop Vx) e H2) (fun o e H2=>H2=H0/\o= .exit 0/\e.g 1=iV m/\e.g 2=pT O/\e.g 5=iV r):=by
 refine i5 _ _ ?_;rintro kk e H2 ⟨i,n,hk,hi,a6,a7,D,u,J,S,hH,z⟩;subst hH;rcases b:decide ((i:Int)<l.length)with _|_
 .have W:=dF b;have:l.drop i=[]:=dN oM;rw[this,szL]at z;refine J5 u S U X b ?_;exact i6 ⟨rfl,rfl,D,u,by rw[<-z];exact J⟩
 have W:=dT b;rcases I:decide (n<=m)with _|_
 .have E:=dF I;rw[oq _ _ _ oM]at z;refine J8 D u J S U X b I ?_;exact i6 ⟨rfl,rfl,D,u,by rw[<-z];exact J⟩
 have E:=dT I;obtain⟨x,nb,o,cs,own,el,hx,hd,rfl,a4,hg,a3,h,hr⟩:=hv.row (i:=i) oM;have nt:(i:Int).toNat=i:=tN i;have hs:=pD x (m-n) oM;rw[hd,szL,bJ E]at z;simp only[qSz,jd,bF]at h hg;have a1:=ih H2 lo el x (m-n) a2 hr oM oM;refine J13 D u J S U X b I hg nt h @wrap_small a1 ?_;refine d8 (kk-1) oM ⟨i+1,n+szQ x (m-n),oM,oM,oM,oM,D,u,rfl,rfl,rfl,z⟩
def PI(k:Nat)(ih:eh 99 true k)(H0:d7)(lo:Nat)(va:Option Addr)(ca:Nat)(l:List Q)(a2:lo<=H0.n)(hv:QsR H0 lo k true (.slice va l.length ca) l)(hn:l.length<=1048576)(O:Nat)(cl:LV)(U:H0.g O=cE cl 1)(X:cl[2]?=some (.slice va l.length ca))(m:Int)(a5:0<=m)(hm:m<=64)(r:Int):
  ∀kk e H2,(∃(i:Nat)(n:Int),kk=l.length-i/\i<=l.length/\1<=n/\n<=m+1/\e.g 1=iV m/\e.g 2=pT O/\e.g 5=iV n/\e.g 7=iV i/\H2=H0/\szL (l.drop i) n m=r)->
  u7 (LE prog l7 (.loop Vy) e H2) (fun o e H2=>H2=H0/\o= .exit 2/\e.g 1=iV m/\e.g 2=pT O/\e.g 5=iV r):=by
 refine i5 _ _ ?_;rintro kk e H2 ⟨i,n,hk,hi,a6,a7,D,u,J,S,hH,z⟩;subst hH;rcases b:decide ((i:Int)<l.length)with _|_
 .have W:=dF b;have:l.drop i=[]:=dN oM;rw[this,szL]at z;refine J5 u S U X b ?_;exact i6 ⟨rfl,rfl,D,u,by rw[<-z];exact J⟩
 have W:=dT b;rcases I:decide (n<=m)with _|_
 .have E:=dF I;rw[oq _ _ _ oM]at z;refine J8 D u J S U X b I ?_;exact i6 ⟨rfl,rfl,D,u,by rw[<-z];exact J⟩
 have E:=dT I;obtain⟨x,nb,o,cs,own,el,hx,hd,rfl,a4,hg,a3,h,hr⟩:=hv.row (i:=i) oM;have nt:(i:Int).toNat=i:=tN i;have hs:=pD x (m-n) oM;rw[hd,szL,bJ E]at z;simp only[qSz,jd,bF]at h hg;have a1:=ih H2 lo el x (m-n) a2 hr oM oM;refine J13 D u J S U X b I hg nt h @wrap_small a1 ?_;refine d8 (kk-1) oM ⟨i+1,n+szQ x (m-n),oM,oM,oM,oM,D,u,rfl,rfl,rfl,z⟩
def PJ(k:Nat)(ih:eh 99 true k)(H0:d7)(lo:Nat)(va:Option Addr)(ca:Nat)(l:List Q)(a2:lo<=H0.n)(hv:QsR H0 lo k true (.slice va l.length ca) l)(hn:l.length<=1048576)(O:Nat)(cl:LV)(U:H0.g O=cE cl 1)(X:cl[4]?=some (.slice va l.length ca))(m:Int)(a5:0<=m)(hm:m<=64)(r:Int):
  ∀kk e H2,(∃(i:Nat)(n:Int),kk=l.length-i/\i<=l.length/\1<=n/\n<=m+1/\e.g 1=iV m/\e.g 2=pT O/\e.g 5=iV n/\e.g 6=iV i/\H2=H0/\szL (l.drop i) n m=r)->
  u7 (LE prog l7 (.loop VX) e H2) (fun o e H2=>H2=H0/\o= .exit 0/\e.g 1=iV m/\e.g 2=pT O/\e.g 5=iV r):=by
 refine i5 _ _ ?_;rintro kk e H2 ⟨i,n,hk,hi,a6,a7,D,u,J,S,hH,z⟩;subst hH;rcases b:decide ((i:Int)<l.length)with _|_
 .have W:=dF b;have:l.drop i=[]:=dN oM;rw[this,szL]at z;refine J5 u S U X b ?_;exact i6 ⟨rfl,rfl,D,u,by rw[<-z];exact J⟩
 have W:=dT b;rcases I:decide (n<=m)with _|_
 .have E:=dF I;rw[oq _ _ _ oM]at z;refine J8 D u J S U X b I ?_;exact i6 ⟨rfl,rfl,D,u,by rw[<-z];exact J⟩
 have E:=dT I;obtain⟨x,nb,o,cs,own,el,hx,hd,rfl,a4,hg,a3,h,hr⟩:=hv.row (i:=i) oM;have nt:(i:Int).toNat=i:=tN i;have hs:=pD x (m-n) oM;rw[hd,szL,bJ E]at z;simp only[qSz,jd,bF]at h hg;have a1:=ih H2 lo el x (m-n) a2 hr oM oM;refine J13 D u J S U X b I hg nt h @wrap_small a1 ?_;refine d8 (kk-1) oM ⟨i+1,n+szQ x (m-n),oM,oM,oM,oM,D,u,rfl,rfl,rfl,z⟩
def PK(k:Nat)(ih:eh 72 false k)(H0:d7)(lo:Nat)(va:Option Addr)(ca:Nat)(l:List Q)(a2:lo<=H0.n)(hv:QsR H0 lo k false (.slice va l.length ca) l)(hn:l.length<=1048576)(O:Nat)(cl:LV)(U:H0.g O=cE cl 1)(X:cl[5]?=some (.slice va l.length ca))(m:Int)(a5:0<=m)(hm:m<=64)(r:Int):
  ∀kk e H2,(∃(i:Nat)(n:Int),kk=l.length-i/\i<=l.length/\1<=n/\n<=m+1/\e.g 1=iV m/\e.g 2=pT O/\e.g 5=iV n/\e.g 7=iV i/\H2=H0/\szL (l.drop i) n m=r)->
  u7 (LE prog l7 (.loop VY) e H2) (fun o e H2=>H2=H0/\o= .exit 2/\e.g 1=iV m/\e.g 2=pT O/\e.g 5=iV r):=by
 refine i5 _ _ ?_;rintro kk e H2 ⟨i,n,hk,hi,a6,a7,D,u,J,S,hH,z⟩;subst hH;rcases b:decide ((i:Int)<l.length)with _|_
 .have W:=dF b;have:l.drop i=[]:=dN oM;rw[this,szL]at z;refine J5 u S U X b ?_;exact i6 ⟨rfl,rfl,D,u,by rw[<-z];exact J⟩
 have W:=dT b;rcases I:decide (n<=m)with _|_
 .have E:=dF I;rw[oq _ _ _ oM]at z;refine J8 D u J S U X b I ?_;exact i6 ⟨rfl,rfl,D,u,by rw[<-z];exact J⟩
 have E:=dT I;obtain⟨x,nb,o,cs,own,el,hx,hd,rfl,a4,hg,a3,h,hr⟩:=hv.row (i:=i) oM;have nt:(i:Int).toNat=i:=tN i;have hs:=pD x (m-n) oM;rw[hd,szL,bJ E]at z;simp only[qSz,jd,bF]at h hg;have a1:=ih H2 lo el x (m-n) a2 hr oM oM;refine J13 D u J S U X b I hg nt h @wrap_small a1 ?_;refine d8 (kk-1) oM ⟨i+1,n+szQ x (m-n),oM,oM,oM,oM,D,u,rfl,rfl,rfl,z⟩
def TT(k:Nat)(X:eh 72 false k)(a1:eh 99 (!false) k):eh 72 false (k+1):=by
 intro H lo cs q m a3 hr h hm;obtain⟨va,ca,wa,u,rfl,h1,h2,h3,h4⟩:=hr.path;rw[i7 Sj rfl _ sM,MS];obtain⟨E,D,-,hg,U⟩:=pushF H (bC [iV q.op,.slice va q.a.length ca,.slice wa q.b.length u] 1);have a2:H.n<=E.low:=by rw[D,l9];exact lR
 have hn:=U.n;have J:=h1.mono (H':=E) (fun j hj=>U.g j oM) lR;have O:=h2.mono (H':=E) (fun j hj=>U.g j oM) lR;have hz:=ul q.a 1 m oM oM h;refine J1 D.symm ?_;refine i8 (F:=fun z=>t6 _ _ _ (t7 (inBlock 0 z) _)=_) (PH k X E lo va ca q.a oM J h3 H.n _ hg rfl m h hm (szL q.a 1 m) q.a.length _ _ ⟨0,1,rfl,oM,oM,oM,rfl,rfl,rfl,rfl,rfl,rfl⟩) ?_;rintro o e' H' ⟨S,W,g1,g2,I⟩;subst S;refine J1 W ?_;refine i8 (F:=fun z=>t6 _ _ _ (t7 (inBlock 2 z) _)=_) (PI k a1 H' lo wa u q.b oM O h4 H.n _ hg rfl m h hm (szL q.b (szL q.a 1 m) m) q.b.length _ _ ⟨0,szL q.a 1 m,rfl,oM,hz.1,hz.2,g1,g2,I,rfl,rfl,rfl⟩) ?_;rintro o e' H2 ⟨S,W,g1,g2,I⟩;exact J3 W I S trivial
def TU(k:Nat)(X:eh 99 true k)(a1:eh 72 (!true) k):eh 99 true (k+1):=by
 intro H lo cs q m a3 hr h hm;obtain⟨va,ca,wa,u,rfl,h1,h2,h3,h4,_⟩:=hr.filter;rw[i7 Sr rfl _ sM,MS];obtain⟨E,D,-,hg,U⟩:=pushF H (bC [iV q.op,.string q.sp,.string q.lc,.string q.vl,.slice va q.a.length ca,.slice wa q.b.length u] 1);have a2:H.n<=E.low:=by rw[D,l9];exact lR
 have hn:=U.n;have J:=h1.mono (H':=E) (fun j hj=>U.g j oM) lR;have O:=h2.mono (H':=E) (fun j hj=>U.g j oM) lR;have hz:=ul q.a 1 m oM oM h;refine J1 D.symm ?_;refine i8 (F:=fun z=>t6 _ _ _ (t7 (inBlock 0 z) _)=_) (PJ k X E lo va ca q.a oM J h3 H.n _ hg rfl m h hm (szL q.a 1 m) q.a.length _ _ ⟨0,1,rfl,oM,oM,oM,rfl,rfl,rfl,rfl,rfl,rfl⟩) ?_;rintro o e' H' ⟨S,W,g1,g2,I⟩;subst S;refine J1 W ?_;refine i8 (F:=fun z=>t6 _ _ _ (t7 (inBlock 2 z) _)=_) (PK k a1 H' lo wa u q.b oM O h4 H.n _ hg rfl m h hm (szL q.b (szL q.a 1 m) m) q.b.length _ _ ⟨0,szL q.a 1 m,rfl,oM,hz.1,hz.2,g1,g2,I,rfl,rfl,rfl⟩) ?_;rintro o e' H2 ⟨S,W,g1,g2,I⟩;exact J3 W I S trivial
def MH:∀k,eh 72 false k/\eh 99 true k:=by
 intro k;induction k with
 |zero=>exact⟨fun H lo cs q m u z=>z.elim,fun H lo cs q m u z=>z.elim⟩
 |succ k h=>exact⟨TT k h.1 h.2,TU k h.2 h.1⟩
def Mi(H:d7)(lo k:Nat)(cs:LV)(q:Q)(a1:lo<=H.n)(I:QR H lo k false cs q):CL prog l7 46 [.agg cs.toArray] H=some (.int .i64 (szQ q 64),none):=by
 cases k with
 |zero=>exact I.elim
 |succ k=>
 have J:=I;obtain⟨S,E,U,h,rfl,h1,h2,h3,h4⟩:=I.path;obtain⟨D,u,-,hg,W⟩:=pushF H (bC [iV q.op,.slice S q.a.length E,.slice U q.b.length h] 1);have X:H.n<=D.low:=by rw[u,l9];exact lR
 have hn:=W.n;have z:ldC (some true) (some 3) 0 [iV q.op,.slice S q.a.length E,.slice U q.b.length h]=some (.agg [iV q.op,.slice S q.a.length E,.slice U q.b.length h].toArray):=rfl;have O:QR D lo (k+1) false _ q:=J.mono (fun j hj=>W.g j oM) lR;have c1:=(MH (k+1)).1 D lo _ q 64 oM O oM oM;rw[i7 YD rfl _ sM];exact J4 u.symm hg z c1 trivial
def yL{S:List Blk}{sz:Nat}{α:Type}{R R':LV->α->Prop}{v:aa3}{l:List α}(h:Sl S sz R v l)(E:∀cs a,R cs a->R' cs a):SlI ⟨S,S.length⟩ S.length sz R' v l:=by
 rcases h with h|⟨b,o,J,h⟩
 .exact .inl h
 .refine .inr ⟨b,o,_,J,?_⟩;rcases h with h|⟨c,u,z,D⟩
  .exact .inl h
  .exact .inr ⟨c,false,(gS u).1,u,z,fun i a I=>E _ _ (D i a I)⟩
def mB(k:Nat):Q7 prog k 9 (fun _ cs(s:aa2)=>cs=[.string s]/\s.size<=1048576):=uB Tryz.underlying9
def xk(k:Nat):Q7 prog k 3 (fun _ cs(n:Int)=>cs=[iV n]/\(Lit.int .i64 n).wf=true):=BQ Tryz.underlying3
def NmR(cs:LV)(x:aa2×aa2):Prop:=cs=[.string x.1,.string x.2]/\x.1.size<=1048576/\x.2.size<=1048576
def rt(k:Nat):Q7 prog (k+1) 26 (fun _ cs x=>NmR cs x):=by
 have h:=aO (P:=prog) (t:=26) Tryz.underlying26 kR (D9 (k:=1) rfl kR (mB k) (D9 (k:=1) rfl kR (mB k) (dM _)));refine h.map (fun x=>(x.1,x.2.1)) ?_ (fun _ _ _ _ _ h=>h);rintro S cs ⟨a,b,u⟩ ⟨c1,c2,rfl,⟨rfl,z⟩,E,I,rfl,⟨rfl,D⟩,rfl⟩;exact⟨rfl,z,D⟩
def QG(S:List Blk):Nat->Bool->LV->Q->Prop
 |0,_,_,_=>False
 |k+1,f,cs,q=>∃v w,cs=(if f then [iV q.op,.string q.sp,.string q.lc,.string q.vl,v,w] else [iV q.op,v,w])/\
   Sl S (qSz f) (QG S k f) v q.a/\Sl S (qSz !f) (QG S k !f) w q.b/\q.a.length<=1048576/\q.b.length<=1048576/\q.sp.size<=1048576/\q.lc.size<=1048576/\q.vl.size<=1048576/\(f=false->q.sp=eB/\q.lc=eB/\q.vl=eB)
def QG.mono{S u:List Blk}(z:Old S u):∀{k:Nat}{f:Bool}{cs:LV}{q:Q},QG S k f cs q->QG u k f cs q:=by
 intro k;induction k with
 |zero=>intro f cs q h;exact h.elim
 |succ k D=>
  intro f cs q h;obtain⟨v,w,E,I,J,O⟩:=h;exact⟨v,w,E,I.mono z (fun _ _ h=>D h),J.mono z (fun _ _ h=>D h),O⟩
def cq:∀k,Q7 prog (2*k) 36 (fun S cs q=>QG S k false cs q)/\Q7 prog (2*k) 126 (fun S cs q=>QG S k true cs q)
 |0=>⟨⟨fun _ _ _ _ E h=>h.mono E,fun _ _ _ h=>absurd h oM⟩,⟨fun _ _ _ _ E h=>h.mono E,fun _ _ _ h=>absurd h oM⟩⟩
 |k+1=>by
  obtain⟨U,W⟩:=cq k;have X:=eS (P:=prog) (t:=33) (e:=36) (sz:=3) Tryz.underlying33 kR oM U;have s2:=eS (P:=prog) (t:=34) (e:=126) (sz:=6) Tryz.underlying34 kR oM W
  constructor
  .have h:=aO (P:=prog) (t:=36) Tryz.underlying36 kR (D9 (k:=1) rfl kR (xk (2*k+1)) (D9 (k:=1) rfl kR X (D9 (k:=1) rfl kR s2 (dM _))));refine h.map (fun x=> .mk x.1 eB eB eB x.2.1 x.2.2.1) ?_ (fun _ _ _ _ E h=>h.mono E);rintro S cs ⟨o,a,b,u⟩ ⟨c1,c2,rfl,⟨rfl,h1⟩,c3,c4,rfl,⟨v,rfl,I,z⟩,c5,c6,rfl,⟨w,rfl,J,D⟩,rfl⟩;have O:eB.size<=1048576:=by decide
   exact⟨v,w,rfl,I,J,z,D,O,O,O,fun _=>⟨rfl,rfl,rfl⟩⟩
  .have h:=aO (P:=prog) (t:=126) Tryz.underlying126 kR (D9 (k:=1) rfl kR (xk (2*k+1)) (D9 (k:=2) rfl kR (rt (2*k)) (D9 (k:=1) rfl kR (mB (2*k+1)) (D9 (k:=1) rfl kR s2 (D9 (k:=1) rfl kR X (dM _))))));refine h.map (fun x=> .mk x.1 x.2.1.1 x.2.1.2 x.2.2.1 x.2.2.2.1 x.2.2.2.2.1) ?_ (fun _ _ _ _ E h=>h.mono E);rintro S cs ⟨o,nm,vl,a,b,u⟩ ⟨c1,c2,rfl,⟨rfl,h1⟩,c3,c4,rfl,⟨rfl,n1,n2⟩,c7,c8,rfl,⟨rfl,n3⟩,c9,a1,rfl,⟨v,rfl,I,z⟩,c5,c6,rfl,⟨w,rfl,J,D⟩,rfl⟩;exact⟨v,w,rfl,I,J,z,D,n1,n2,n3,fun h=>by cases h⟩
def Pn{S:List Blk}:∀{k:Nat}{f:Bool}{cs:LV}{q:Q},QG S k f cs q->QR ⟨S,S.length⟩ S.length k f cs q:=by
 intro k;induction k with
 |zero=>intro f cs q h;exact h.elim
 |succ k u=>
  intro f cs q h;obtain⟨v,w,z,D,E,I⟩:=h;exact⟨v,w,z,yL D (fun _ _ h=>u h),yL E (fun _ _ h=>u h),I⟩
end Go.Proofs.YtjlpdddmmnijoaaGreatDoor.Ve
namespace Go.Proofs.YtjlpdddmmnijoaaGreatDoor.card
open Go.ChangeShapes Go.WideShapes Go.ChangeAt Go.RowKit
open Go.Proofs.Tryz (prog)
open Go Ve
def own:ownKnob prog.godebug=none:=kR
def fd:laidOutB prog=true:=kR
def Xx:DataW Unit->aa3
 | .lit (.int k n)=> .int k n
 |_=> .nilIface
def Rb:DataW Unit->Array aa3
 | .agg l=>(l.map Xx).toArray
 |_=> #[]
def SP(d:DataW Unit):Obj->Obj
 | .cells _ t frozen=> .cells (Rb d) t frozen
 |o=>o
noncomputable def M8(os:Os):World:=
 {World.holding prog os ⟨#[],#[],[]⟩with heap:=(((World.holding prog os ⟨#[],#[],[]⟩).heap.modify 0 (SP Rows.laid_internal_strconv_uint64pow10)).modify 1 (SP Rows.laid_math_bits_deBruijn32tab)).modify 2 (SP Rows.laid_math_bits_deBruijn64tab)}
abbrev AG:List (String×DataW Unit):=[("math/bits.deBruijn32tab",Rows.laid_math_bits_deBruijn32tab),("math/bits.deBruijn64tab",Rows.laid_math_bits_deBruijn64tab),("internal/strconv.uint64pow10",Rows.laid_internal_strconv_uint64pow10)]
abbrev FZ:aa3:= .agg #[.int .i64 0,.slice none 0 0,.slice none 0 0]
def reads(u:Os){H:Type}(enc:TypeId×aa3->H):∃h,DataW.whole enc prog ((M8 u).forCall (fun _ _=>0) ⟨#[],#[FZ],[]⟩).memory [36] [] false #[FZ].toList 8=some ([.agg [.lit (.int .i64 0),.nil,.nil]],[],h):=
 ⟨[],kR⟩
end Go.Proofs.YtjlpdddmmnijoaaGreatDoor.card
namespace Go.Proofs.YtjlpdddmmnijoaaGreatDoor.Ve
open Go Go.RowKit
open Go.Proofs.Tryz (prog)
def fn6:=nfF 6 Tryz.f6 [0]
def fn8:=nfF 8 Tryz.f8 []
def fn9:=nfF 9 Tryz.f9 []
def Yr:=nfF 10 Tryz.f10 []
def Wl:=nfF 12 Tryz.f12 []
abbrev Ut:t5:=ptA Wl [1,1,0,1,0,0]
def Wx:=nfF 14 Tryz.f14 []
abbrev Uv:t5:=ptA Wx [1,1,0,1,0,0]
def Yt:=nfF 16 Tryz.f16 [0]
def Yu:=nfF 18 Tryz.f18 []
def Yw:=nfF 20 Tryz.f20 [0]
def Yy:=nfF 24 Tryz.f24 [0]
def WL:=nfF 26 Tryz.f26 []
abbrev UC:t5:=ptA WL [1,0,1,0,0]
def WN:=nfF 29 Tryz.f29 []
abbrev UG:t5:=ptA WN [1,1,0,1,0,0]
def WP:=nfF 33 Tryz.f33 []
abbrev UI:t5:=ptA WP [1,0,1,0,0]
def Sd:=nfF 35 Tryz.f35 [10]
abbrev UL:t5:=ptA Sd [1,1,1,1,1,0,1,0,0]
abbrev UK:t5:=ptA Sd [1,1,1,1,1,0,1,0,0,1,1,0,0,1,1,0,0]
def WS:=nfF 37 Tryz.f37 []
abbrev UP:t5:=ptA WS [1,1,0,1,0,0]
def WU:=nfF 41 Tryz.f41 [0,0]
def YF:=nfF 52 Tryz.f52 []
def YQ:=nfF 82 Tryz.f82 []
end Go.Proofs.YtjlpdddmmnijoaaGreatDoor.Ve
namespace Go.Proofs.YtjlpdddmmnijoaaGreatDoor.Ve
open Go Go.RowKit
def u5(H:d7)(lo sz:Nat){α:Type}(R:LV->α->Prop)(w:aa3)(l:List α):Prop:=∃cs,eR H lo sz w l.length cs/\F1 sz R cs l
section
variable{α:Type}{R R':List Value->α->Prop}{H H':d7}{lo lo' sz:Nat}{w:Value}{l l2:List α}
def F1.nil:F1 sz R [] ([]:List α):=⟨by simp,fun i a h=>by simp at h⟩
def F1.one{cs:LV}{a:α}(h:cs.length=sz)(z:R cs a):F1 sz R cs [a]:=by
 refine⟨by simp [h],fun i b u=>?_⟩;cases i with
 |zero=>
  have:a=b:=by simpa using u
  subst this;rw[Ck,lP,<-h,XK];exact z
 |succ i=>simp at u
def u5.nil:u5 H lo sz R (.slice none 0 0) ([]:List α):=⟨[],.inl ⟨rfl,rfl,rfl⟩,F1.nil⟩
def u5.slice(h:u5 H lo sz R w l):∃a c,w= .slice a l.length c:=by obtain⟨cs,u,z⟩:=h;exact u.slice
def u5.mono(h:u5 H lo sz R w l)(E:lo'<=lo)(D:∀j,j<H.n->H'.g j=H.g j):u5 H' lo' sz R w l:=by obtain⟨cs,u,z⟩:=h;exact⟨cs,u.mono E D,z⟩
def u5.keep(h:u5 H lo sz R w l)(u:d9 H.n H H'):u5 H' lo sz R w l:=h.mono lR fun j z=>u.g j z
def u5.wk(h:u5 H lo sz R w l)(u:lo'<=lo):u5 H lo' sz R w l:=h.mono u fun _ _=>rfl
def u5.imp(h:u5 H lo sz R w l)(D:∀cs a,R cs a->R' cs a):u5 H lo sz R' w l:=by obtain⟨cs,u,z⟩:=h;exact⟨cs,u,z.mono D⟩
def u5.low(h:u5 H lo sz R w l)(n:Nat):u5 ⟨H.bs,n⟩ lo sz R w l:=h.mono lR fun _ _=>rfl
def u5.sl(h:u5 H lo sz R w l):SlI H H.n sz R w l:=by obtain⟨cs,u,z⟩:=h;exact u.sl z
def u5.na(h:u5 H lo sz R w l)(D:Q4 w=true)(H0:d7)(z:Nat):u5 H0 z sz R w l:=by
 obtain⟨cs,u,E⟩:=h;rcases u with u|⟨b,c,I,_⟩
 .exact⟨cs,.inl u,E⟩
 .rw[I]at D;cases D
def u5.fresh{cs:LV}{n c:Nat}(z:n=l.length)(h:lo<=H.n)(u:F1 sz R cs l):u5 (H.push (.cells cs true sz)) lo sz R (.slice (some ⟨H.n,0,none⟩) n c) l:=by
 subst z;exact⟨cs,.inr ⟨H.n,c,rfl,j6,h,u.1⟩,u⟩
def u5.at_(h:u5 H lo sz R w l){i:Nat}{a:α}(z:l[i]?=some a):∃b c cs,w= .slice (some ⟨b,0,none⟩) l.length c/\lo<=b/\b<H.n/\H.g b=some (.cells cs true sz)/\i*sz+sz<=cs.length/\R ((cs.drop (i*sz)).take sz) a:=by
 obtain⟨cs,D,E⟩:=h;have O:i<l.length:=(gS z).1;rcases D with⟨_,S,_⟩|⟨b,c,I,u,J,U⟩
 .omega
 .refine⟨b,c,cs,I,J,u6 u,u,?_,E.2 i a z⟩;have:(i+1)*sz<=l.length*sz:=yG _ O;rw[wS]at this;omega
def SlI.rows{v:aa3}{n:Nat}(h:SlI H n sz R v l):∃a c el,v= .slice a l.length c/\B9 H sz (.slice a l.length c)=some el/\F1 sz R el l:=by
 obtain⟨a,c,rfl⟩:=h.slice;obtain⟨el,u,z⟩:=h.cells;exact⟨a,c,el,rfl,u,z⟩
def u5.append{P:Program}{t e:TypeId}{bytes n:Nat}{z:LV}{x:aa3}(W:P.underlying t=some (.slice e))(hs:D5 P e=some sz)(S:T1 P e=some bytes)(hz:P8 P e=some z)(J:0<sz)(O:0<bytes)
  (h:u5 H lo sz R w l) (X:SlI H n sz R x l2) (U:(l.length+l2.length)*bytes<=140737488355328) (u:lo<=H.n):
  Ret (C2 P H [t,t] w x) H fun v' H'=>u5 H' lo sz R v' (l++l2)/\d9 lo H H':=by
 obtain⟨cs,k1,k2⟩:=h;obtain⟨a,c,el,rfl,q1,D⟩:=X.rows;obtain⟨v',I,E,r1,r2,r3,r4⟩:=zm (m:=l2.length) W hs S hz J O k1 q1 D.1 U u;exact⟨v',I,E,r1,r2,⟨cs++el,by rw[dx];exact r3,k2.append D⟩,r4⟩
end
def Q3(x:Option (aa3×Option d7))(H:d7)(sz:Nat){α:Type}(R:LV->α->Prop)(l:List α):Prop:=Ret x H fun w H1=>u5 H1 H.n sz R w l/\d9 H.n H H1
def L5{H H':d7}{sz:Nat}{α:Type}{R:LV->α->Prop}{w:aa3}{l:List α}(h:u5 H' H.n sz R w l)(z:d9 H.n H H')(D:H.n<=H'.low):Q3 (some (F7 w H H')) H sz R l:=
 E1 (fun u _=>⟨h.na u _ _,d9.refl _ _⟩) ⟨h.low _,z.ret D⟩
def Q3.imp{x:Option (aa3×Option d7)}{H:d7}{sz:Nat}{α:Type}{R R':LV->α->Prop}{l:List α}(h:Q3 x H sz R l)(O:∀cs a,R cs a->R' cs a):Q3 x H sz R' l:=by
 obtain⟨v,z,u,D,E,I,J⟩:=h;exact⟨v,z,u,D,E,I.imp O,J⟩
def aW(h:List V7)(a b:Bool)(xs u:LV):C0 (.bool::h) (.bool a::xs) (.bool b::u)=(C0 h xs u).map ((a==b)&& ·):=by
 simp only[C0,Q8];cases C0 h xs u<;>rfl
abbrev y7{α:Type}(enc:α->LV):LV->α->Prop:=fun cs a=>cs=enc a
abbrev nmE(x:aa2×aa2):LV:=[.string x.1,.string x.2]
abbrev stE(s:aa2):LV:=[.string s]
abbrev soE(x:Bool×Bool×aa2):LV:=[.bool x.1,.bool x.2.1,.string x.2.2]
abbrev inE(n:Int):LV:=[.int .i64 n]
abbrev boE(b:Bool):LV:=[.bool b]
abbrev hoE(x:Int×Int×Int):LV:=[.int .i64 x.1,.int .i64 x.2.1,.int .i64 x.2.2]
abbrev edE(x:Int×Int×Int×Int):LV:=[.int .i64 x.1,.int .i64 x.2.1,.int .i64 x.2.2.1,.int .i64 x.2.2.2]
def ixG{α:Type}(p:α->Bool):List α->Nat->Int
 |[],_=> -1
 |a::l,i=>if p a then(i:Int) else ixG p l (i+1)
def fq{α:Type}(p:α->Bool):∀(l:List α)(i:Nat),(l.any p=false/\ixG p l i= -1)\/(l.any p=true/\(i:Int)<=ixG p l i/\ixG p l i<i+l.length)
 |[],i=> .inl ⟨rfl,rfl⟩
 |a::l,i=>by
  rw[ixG,Ic,kO];cases h:p a with
  |true=>exact .inr ⟨rfl,by rw[bJ rfl];omega,by rw[bJ rfl];omega⟩
  |false=>
   rw[bt Ux];rcases fq p l (i+1)with⟨u,z⟩|⟨u,z,D⟩
   .exact .inl ⟨by rw[u];rfl,z⟩
   .exact .inr ⟨by rw[u];rfl,oM,oM⟩
def kG{α:Type}(p:α->Bool)(l:List α):decide (0<=ixG p l 0)=l.any p:=by
 rcases fq p l 0 with⟨h,u⟩|⟨h,u,z⟩
 .rw[h,u];rfl
 .rw[h];exact ib oM
def P5{α:Type}{l:List α}{i:Nat}(h:i<l.length):∃a,l[i]?=some a/\l.drop i=a::l.drop (i+1):=
 ⟨l[i],gI h,qQ h⟩
def SlI.row{H:d7}{lo sz:Nat}{α:Type}{R:LV->α->Prop}{z:Option Addr}{n D:Nat}{l:List α}(h:SlI H lo sz R (.slice z n D) l){i:Nat}(S:i<l.length):
  ∃x b o cs own el,l[i]?=some x/\l.drop i=x::l.drop (i+1)/\z=some ⟨b,o,none⟩/\b<lo/\H.g b=some (.cells cs own sz)/\o+i*sz+sz<=cs.length/\ldC (some true) (some sz) (o+i*sz) cs=some (.agg el.toArray)/\(∀k,k<sz->cs[o+i*sz+k]?=el[k]?)/\R el x:=by
 obtain⟨x,E,J⟩:=P5 (l:=l) (i:=i) S;obtain⟨b,o,c,cs,own,X,I,O,u,W⟩:=h.at_ E;obtain⟨rfl,rfl,rfl⟩:z=some ⟨b,o,none⟩/\n=l.length/\D=c:=by simpa using X
 exact⟨x,b,o,cs,own,_,E,J,rfl,I,O,u,aE u rfl,fun k U=>E7 U rfl,W⟩
def yP{cs el:LV}{a sz j m:Nat}(h:∀k,k<sz->cs[a+k]?=el[k]?) (u:a+sz<=cs.length) (z:j+m<=sz):ldC (some true) (some m) (a+j) cs=some (.agg ((el.drop j).take m).toArray):=by
 rw[iY _ _ _ oM]
 congr 3
 refine Fd fun i=>?_;rw[xd,xd];split
 .rw[vu,vu,A1,h _ oM]
 .rfl
def u5.push1{P:Program}{t e:TypeId}{bytes sz lo:Nat}{z:LV}{α:Type}{R:LV->α->Prop}{H:d7}{w:aa3}{l:List α}(ht:P.underlying t=some (.slice e))(hs:D5 P e=some sz)(W:T1 P e=some bytes)(hz:P8 P e=some z)(J:0<sz)(O:0<bytes)
  (h:u5 H lo sz R w l) {cs:LV} {a:α} (u:cs.length=sz) (U:R cs a) (X:(l.length+1)*bytes<=140737488355328) (D:lo<=H.n):
  Ret (C2 P (H.push (.cells cs true sz)) [t,t] w (.slice (some ⟨H.n,0,none⟩) 1 1)) (H.push (.cells cs true sz)) fun v' H'=>u5 H' lo sz R v' (l++[a])/\d9 lo H H':=by
 have S:=u5.fresh (H:=H) (lo:=H.n) (l:=[a]) (n:=1) (c:=1) rfl lR (F1.one u U);have hn:(H.push (.cells cs true sz)).n=H.n+1:=i4;have E:d9 H.n H (H.push (.cells cs true sz)):=d9.push lR;obtain⟨v',I,H',r1,r2,r3,r4⟩:=(h.keep E).append ht hs W hz J O S.sl (by simpa using X) oM;exact⟨v',I,H',r1,r2,r3,(E.wk D).trans r4⟩
def j8(w:aa3)(b:Nat):Prop:=∃n c,w= .slice (some ⟨b,0,none⟩) n c
def C6(b:Nat):¬j8 (.slice none 0 0) b:=fun⟨_,_,h⟩=>by cases h
def P3{b u n c:Nat}:j8 (.slice (some ⟨b,0,none⟩) n c) u↔u=b:=⟨fun⟨_,_,h⟩=>by cases h;rfl,fun h=>⟨n,c,by rw[h]⟩⟩
def SlF(H:d7)(F:Nat->Prop)(sz:Nat){α:Type}(R:LV->α->Prop)(v:aa3)(l:List α):Prop:=
 (v= .slice none 0 0/\l=[])\/
 ∃b o c,v= .slice (some ⟨b,o,none⟩) l.length c/\
  (l=[]\/∃cs own,F b/\H.g b=some (.cells cs own sz)/\o+l.length*sz<=cs.length/\∀(i:Nat) a,l[i]?=some a->R ((cs.drop (o+i*sz)).take sz) a)
section
variable{α:Type}{R R':List Value->α->Prop}{H H':d7}{F F':Nat->Prop}{lo sz:Nat}{v w:Value}{l l2:List α}
def SlI.slF(h:SlI H lo sz R v l):SlF H (· <lo) sz R v l:=h
def SlF.mono(h:SlF H F sz R v l)(O:∀j,F j->H'.g j=H.g j) (I:∀j,F j->F' j) (J:∀cs a,R cs a->R' cs a):SlF H' F' sz R' v l:=by
 rcases h with h|⟨b,o,c,U,h⟩
 .exact .inl h
 .refine .inr ⟨b,o,c,U,?_⟩;rcases h with h|⟨cs,own,u,z,D,E⟩
  .exact .inl h
  .exact .inr ⟨cs,own,I _ u,by rw[O b u];exact z,D,fun i a S=>J _ _ (E i a S)⟩
def SlF.sl(h:SlF H F sz R v l)(u:∀j,F j->j<lo):SlI H lo sz R v l:=h.mono (fun _ _=>rfl) u iF
def SlF.slice(h:SlF H F sz R v l):∃a c,v= .slice a l.length c:=by
 rcases h with⟨h,u⟩|⟨b,o,c,z,h⟩
 .exact⟨none,0,by rw[h,u];rfl⟩
 .exact⟨_,_,z⟩
def u5.frz(h:u5 H lo sz R w l)(J:∀b,j8 w b->F b):SlF H F sz R w l:=by
 obtain⟨cs,D,E⟩:=h;rcases D with⟨h,z,_⟩|⟨b,c,u,I,S,U⟩
 .exact .inl ⟨h,pF.1 z⟩
 .refine .inr ⟨b,0,c,u,.inr ⟨cs,true,J b ⟨_,_,u⟩,I,oM,fun i a O=>?_⟩⟩;rw[tV];exact E.2 i a O
def u5.lt(h:u5 H lo sz R w l){b:Nat}(I:j8 w b):lo<=b/\b<H.n:=by
 obtain⟨cs,u,S⟩:=h;obtain⟨n,c,rfl⟩:=I;rcases u with⟨h,_⟩|⟨J,O,z,D,E,U⟩
 .cases h
 .cases z;exact⟨E,u6 D⟩
def u5.same(h:u5 H lo sz R w l)(O:∀b,j8 w b->H'.g b=H.g b):u5 H' lo sz R w l:=by
 obtain⟨cs,z,D⟩:=h;refine⟨cs,?_,D⟩;rcases z with h|⟨b,c,u,E,I,J⟩
 .exact .inl h
 .exact .inr ⟨b,c,u,by rw[O b ⟨_,_,u⟩];exact E,I,J⟩
def Nx{P:Program}{t e:TypeId}{bytes n m k:Nat}{z cs el:LV}{a:Option Addr}(ht:P.underlying t=some (.slice e))(hs:D5 P e=some sz)(E:T1 P e=some bytes)(hz:P8 P e=some z)(h0:0<sz)(h1:0<bytes)
  (h:eR H lo sz v n cs) (hx:B9 H sz (.slice a m k)=some el) (S:el.length=m*sz) (hr:(n+m)*bytes<=140737488355328) (D:lo<=H.n):
  Ret (C2 P H [t,t] v (.slice a m k)) H fun v' H'=>eR H' lo sz v' (n+m) (cs++el)/\d9 lo H H'/\(∀j,j<H.n->¬j8 v j->H'.g j=H.g j)/\((v'=v/\H'=H)\/∀b,j8 v' b->H.n<=b):=by
 have O:I3 P t=some e:=by simp [I3,ht]
 have u:R7 P H sz z (some t) (.slice a m k)=some (m,el):=by
  simp only[R7,pB,ht,hx,xg]
 have J:¬(sz=0\/bytes=0):=oM;by_cases hm:m=0
 .subst hm;have he:el=[]:=pF.1 oM;subst he;rw[ly,su];refine⟨v,none,H,?_,rfl,h,d9.refl _ _,fun _ _ _=>rfl,.inl ⟨rfl,rfl⟩⟩;rcases h with⟨rfl,rfl,rfl⟩|⟨b,c,rfl,hg,X,I⟩
  .simp [C2,O,hs,E,hz,J,u,dk]
  .simp [C2,O,hs,E,hz,J,u,dk]
 .rcases h with⟨rfl,rfl,rfl⟩|⟨b,c,rfl,hg,X,I⟩
  .refine⟨.slice (some ⟨H.n,0,none⟩) m (m+1),some (H.push (.cells el true sz)),_,?_,rfl,.inr ⟨H.n,_,by rw[tV],j6,D,by simpa using S⟩,d9.push D,fun j W _=>j5 W,.inr fun b E=>by rw[P3]at E;omega⟩;simp only[C2,yC,pB,O,hs,E,hz,pt,pA,bt J,u];rw[bt hm,bJ (by simpa using hr),dk]
  .have a1:=u6 hg;have U:((cs.drop 0).take (n*sz))=cs:=by rw[lP,kC oM]
   by_cases hc:c=n
   .refine⟨.slice (some ⟨H.n,0,none⟩) (n+m) (n+m+1),some (H.push (.cells (cs++el) true sz)),_,?_,rfl,.inr ⟨H.n,_,rfl,j6,D,by rw[dx,I,S,wS]⟩,d9.push D,fun j W _=>j5 W,.inr fun b E=>by rw[P3]at E;omega⟩;simp only[C2,yC,pB,O,hs,E,hz,pt,pA,bt J,u,hg,U];rw[bt hm,bJ hr,bJ (by simp;omega),bJ hc,dk]
   .refine⟨.slice (some ⟨H.n,0,none⟩) (n+m) (n+m+1),some ((H.put b .dead).push (.cells (cs++el) true sz)),_,?_,rfl,.inr ⟨H.n,_,rfl,A4 ⟨by simp [j9],by simp [j9]⟩,D,by rw[dx,I,S,wS]⟩,(d9.put X).trans (d9.push (by rw[j9];exact D)),fun j W hn=>?_,.inr fun b E=>by rw[P3]at E;omega⟩
    .simp only[C2,yC,pB,O,hs,E,hz,pt,pA,bt J,u,hg,U];rw[bt hm,bJ hr,bJ (by simp;omega),bt hc,bJ trivial,dk]
    .show((H.put b .dead).push (.cells (cs++el) true sz)).g j=H.g j;rw[j5 (by rw[j9];exact W),j7 (fun q=>hn (by rw[<-q];exact⟨_,_,rfl⟩))]
structure Z2(lo:Nat)(w:aa3)(H:d7)(v':aa3)(H':d7):Prop where
 stay:d9 lo H H'
 but:∀j,j<H.n->¬j8 w j->H'.g j=H.g j
 new:∀b,j8 v' b->j8 w b\/H.n<=b
def Z2.n{w v':aa3}(h:Z2 lo w H v' H'):H.n<=H'.n:=h.stay.n
def u5.appendF{P:Program}{t e:TypeId}{bytes:Nat}{z:LV}{x:aa3}{n:Nat}(X:P.underlying t=some (.slice e))(hs:D5 P e=some sz)(u:T1 P e=some bytes)(hz:P8 P e=some z)(S:0<sz)(U:0<bytes)
  (h:u5 H lo sz R w l) (hx:SlI H n sz R x l2) (W:(l.length+l2.length)*bytes<=140737488355328) (D:lo<=H.n):
  Ret (C2 P H [t,t] w x) H fun v' H'=>u5 H' lo sz R v' (l++l2)/\Z2 lo w H v' H':=by
 obtain⟨cs,k1,k2⟩:=h;obtain⟨a,c,el,rfl,q1,I⟩:=hx.rows;obtain⟨v',O,J,r1,r2,r3,r4,r5,E⟩:=Nx (m:=l2.length) X hs u hz S U k1 q1 I.1 W D;refine⟨v',O,J,r1,r2,⟨cs++el,by rw[dx];exact r3,k2.append I⟩,r4,r5,fun b u=>?_⟩;rcases E with⟨rfl,_⟩|E
 .exact .inl u
 .exact .inr (E b u)
def u5.push1F{P:Program}{t e:TypeId}{bytes:Nat}{z cs:LV}{a:α}(ht:P.underlying t=some (.slice e))(hs:D5 P e=some sz)(D:T1 P e=some bytes)(hz:P8 P e=some z)(S:0<sz)(U:0<bytes)
  (h:u5 H lo sz R w l) (E:cs.length=sz) (X:R cs a) (hr:(l.length+1)*bytes<=140737488355328) (I:lo<=H.n):
  Ret (C2 P (H.push (.cells cs true sz)) [t,t] w (.slice (some ⟨H.n,0,none⟩) 1 1)) (H.push (.cells cs true sz)) fun v' H'=>u5 H' lo sz R v' (l++[a])/\Z2 lo w H v' H':=by
 have W:=u5.fresh (H:=H) (lo:=H.n) (l:=[a]) (n:=1) (c:=1) rfl lR (F1.one E X);have hn:(H.push (.cells cs true sz)).n=H.n+1:=i4;have u:d9 H.n H (H.push (.cells cs true sz)):=d9.push lR;obtain⟨v',O,H',r1,r2,r3,r4,r5,r6⟩:=(h.keep u).appendF ht hs D hz S U W.sl (by simpa using hr) oM;refine⟨v',O,H',r1,r2,r3,(u.wk I).trans r4,fun j hj J=>?_,fun b D=>?_⟩
 .rw[r5 j oM J,u.g j hj]
 .rcases r6 b D with r|r
  .exact .inl r
  .exact .inr oM
end
def Z2.refl(lo:Nat)(w:aa3)(H:d7):Z2 lo w H w H:=⟨d9.refl _ _,fun _ _ _=>rfl,fun _ h=> .inl h⟩
def Z2.trans{lo:Nat}{w w1 w2:aa3}{H u H2:d7}(h:Z2 lo w H w1 u)(k:Z2 lo w1 u w2 H2):Z2 lo w H w2 H2:=by
 have J:=h.n;refine⟨h.stay.trans k.stay,fun j I z=>?_,fun b D=>?_⟩
 .rw[k.but j oM (fun q=>by rcases h.new j q with r|r;exact z r;omega),h.but j I z]
 .rcases k.new b D with r|r
  .exact h.new b r
  .exact .inr oM
def Z2.of{lo:Nat}(w:aa3){H z:d7}(h:d9 H.n H z)(u:lo<=H.n):Z2 lo w H w z:=⟨h.wk u,fun j D _=>h.g j D,fun _ h=> .inl h⟩
def Z2.wk{lo u:Nat}{w v:aa3}{H z:d7}(h:Z2 lo w H v z)(k:u<=lo):Z2 u w H v z:=⟨h.stay.wk k,h.but,h.new⟩
def dK{α:Type}(E:d7->(Nat->Prop)->LV->α->Prop):Prop:=∀(H H':d7)(G G':Nat->Prop)(cs:LV)(a:α),E H G cs a->(∀j,G j->H'.g j=H.g j)->(∀j,G j->G' j)->E H' G' cs a
abbrev pls(G:Nat->Prop)(H H3:d7)(j:Nat):Prop:=G j\/(H.n<=j/\j<H3.n)
structure Buf{α:Type}(sz:Nat)(E:d7->(Nat->Prop)->LV->α->Prop)(lo:Nat)(G0:Nat->Prop)(H0:d7)(w0:aa3)(G:Nat->Prop)(H:d7)(w:aa3)(l:List α):Prop where
 own:u5 H lo sz (E H G) w l
 up:∀j,G0 j->G j
 new:∀j,G j->G0 j\/H0.n<=j
 lt:∀j,G j->j<H.n/\¬j8 w j
 gr:Z2 lo w0 H0 w H
section
variable{α:Type}{sz:Nat}{E:d7->(Nat->Prop)->List Value->α->Prop}{lo:Nat}{G0 G:Nat->Prop}{H0 H H3:d7}{w0 w:Value}{l l2:List α}
def Buf.n(B:Buf sz E lo G0 H0 w0 G H w l):H0.n<=H.n:=B.gr.n
def Buf.g(B:Buf sz E lo G0 H0 w0 G H w l)(h:∀j,G0 j->j<H0.n/\¬j8 w0 j) (j:Nat) (u:G0 j):H.g j=H0.g j:=B.gr.but j (h j u).1 (h j u).2
def Buf.stay(I:dK E)(B:Buf sz E lo G0 H0 w0 G H w l)(z:d9 H.n H H3)(D:lo<=H.n):Buf sz E lo G0 H0 w0 (pls G H H3) H3 w l:=by
 have O:=z.n;have J:=B.n;refine⟨(B.own.keep z).imp fun cs a h=>I _ _ _ _ _ _ h (fun j u=>z.g j (B.lt j u).1) (fun j u=> .inl u),fun j u=> .inl (B.up j u),fun j u=>?_,fun j u=>?_,B.gr.trans (Z2.of w z D)⟩
 .rcases u with u|u
  .exact B.new j u
  .exact .inr oM
 .rcases u with u|u
  .have:=B.lt j u;exact⟨oM,this.2⟩
  .exact⟨u.2,fun q=>by have:=B.own.lt q;omega⟩
def Buf.grown(J:dK E){D:aa3}{H':d7}{I:List α}(B:Buf sz E lo G0 H0 w0 G H w l)(O:u5 H' lo sz (E H G) D I)(z:Z2 lo w H D H'):Buf sz E lo G0 H0 w0 G H' D I:=by
 have S:=z.n;refine⟨O.imp fun cs a h=>J _ _ _ _ _ _ h (fun j u=>z.but j (B.lt j u).1 (B.lt j u).2) (fun j u=>u),B.up,B.new,fun j u=>⟨by have:=B.lt j u;omega,fun q=>?_⟩,B.gr.trans z⟩;rcases z.new j q with r|r
 .exact(B.lt j u).2 r
 .have:=B.lt j u;omega
def Buf.push{P:Program}{t e:TypeId}{bytes:Nat}{z cs:LV}{a:α}(O:dK E)(X:P.underlying t=some (.slice e))(hs:D5 P e=some sz)(U:T1 P e=some bytes)(hz:P8 P e=some z)(I:0<sz)(J:0<bytes)
  (B:Buf sz E lo G0 H0 w0 G H w l) (h:cs.length=sz) (S:E H G cs a) (W:(l.length+1)*bytes<=140737488355328) (u:lo<=H.n):
  Ret (C2 P (H.push (.cells cs true sz)) [t,t] w (.slice (some ⟨H.n,0,none⟩) 1 1)) (H.push (.cells cs true sz)) fun v' H'=>Buf sz E lo G0 H0 w0 G H' v' (l++[a]):=by
 obtain⟨v',D,H',r1,r2,r3,r4⟩:=B.own.push1F X hs U hz I J h S W u;exact⟨v',D,H',r1,r2,B.grown O r3 r4⟩
def Buf.append{P:Program}{t e:TypeId}{bytes:Nat}{z:LV}{x:aa3}(J:dK E)(W:P.underlying t=some (.slice e))(hs:D5 P e=some sz)(O:T1 P e=some bytes)(hz:P8 P e=some z)(D:0<sz)(I:0<bytes)
  (B:Buf sz E lo G0 H0 w0 G H w l) (X:SlF H G sz (E H G) x l2) (U:(l.length+l2.length)*bytes<=140737488355328) (h:lo<=H.n):
  Ret (C2 P H [t,t] w x) H fun v' H'=>Buf sz E lo G0 H0 w0 G H' v' (l++l2):=by
 obtain⟨v',u,H',r1,r2,r3,r4⟩:=B.own.appendF W hs O hz D I (X.sl fun j S=>(B.lt j S).1) U h;exact⟨v',u,H',r1,r2,B.grown J r3 r4⟩
def Buf.frz(u:dK E)(B:Buf sz E lo G0 H0 w0 G H w l):SlF H (fun j=>G j\/j8 w j) sz (E H (fun j=>G j\/j8 w j)) w l:=
 (B.own.imp fun cs a h=>u _ _ _ _ _ _ h (fun _ _=>rfl) fun j D=> .inl D).frz fun b z=> .inr z
def Buf.start(u:∀j,G0 j->j<H0.n/\¬j8 w0 j) (z:u5 H0 lo sz (E H0 G0) w0 l):Buf sz E lo G0 H0 w0 G0 H0 w0 l:=⟨z,fun _ h=>h,fun _ h=> .inl h,u,Z2.refl _ _ _⟩
def Buf.trans{G1:Nat->Prop}{u:d7}{w1:aa3}{z:List α}(B:Buf sz E lo G0 H0 w0 G H w l)(C:Buf sz E lo G H w G1 u w1 z):Buf sz E lo G0 H0 w0 G1 u w1 z:=by
 have D:=B.n;refine⟨C.own,fun j h=>C.up j (B.up j h),fun j h=>?_,C.lt,B.gr.trans C.gr⟩;rcases C.new j h with r|r
 .exact B.new j r
 .exact .inr oM
end
structure L8{α:Type}(sz:Nat)(E:d7->(Nat->Prop)->LV->α->Prop)(lo:Nat)(H:d7)(v:aa3)(l:List α)(G:Nat->Prop):Prop where
 own:u5 H lo sz (E H G) v l
 fr:∀j,G j->lo<=j/\j<H.n/\¬j8 v j
section
variable{α:Type}{sz lo n:Nat}{E:d7->(Nat->Prop)->List Value->α->Prop}{H H':d7}{v x:Value}{l l2:List α}{G G2:Nat->Prop}
def L8.nil:L8 sz E lo H (.slice none 0 0) [] (fun _=>False):=⟨u5.nil,fun _ h=>h.elim⟩
def L8.keep(D:dK E)(h:L8 sz E lo H v l G)(u:d9 H.n H H'):L8 sz E lo H' v l G:=by
 have:=u.n;exact⟨(h.own.imp fun cs e q=>D _ _ _ _ _ _ q (fun j z=>u.g j (h.fr j z).2.1) (fun _ h=>h)).keep u,fun j z=>by have:=h.fr j z;exact⟨this.1,oM,this.2.2⟩⟩
def L8.low(u:dK E)(h:L8 sz E lo H v l G)(n:Nat):L8 sz E lo ⟨H.bs,n⟩ v l G:=
 ⟨(h.own.imp (R':=E ⟨H.bs,n⟩ G) fun cs e q=>u _ _ _ _ _ _ q (fun _ _=>rfl) (fun _ h=>h)).low n,h.fr⟩
def L8.wk{u:Nat}(h:L8 sz E lo H v l G)(D:u<=lo):L8 sz E u H v l G:=
 ⟨h.own.wk D,fun j z=>by have:=h.fr j z;exact⟨oM,this.2⟩⟩
def L8.sl(u:dK E)(h:L8 sz E lo H v l G):SlI H H.n sz (E H (· <H.n)) v l:=
 (h.own.imp fun cs e q=>u _ _ _ _ _ _ q (fun _ _=>rfl) (fun j z=>(h.fr j z).2.1)).sl
def L8.slice(h:L8 sz E lo H v l G):∃a c,v= .slice a l.length c:=h.own.slice
def L8.app{P:Program}{t e:TypeId}{bytes:Nat}{z:LV}(J:dK E)(ht:P.underlying t=some (.slice e))(hs:D5 P e=some sz)(hb:T1 P e=some bytes)(hz:P8 P e=some z)(W:0<sz)(X:0<bytes)
  (h:L8 sz E lo H v l G) (h2:SlI H n sz (E H G2) x l2) (O:∀j,G2 j->lo<=j/\j<H.n/\¬j8 v j) (hl:(l.length+l2.length)*bytes<=140737488355328) (S:lo<=H.n):
  Ret (C2 P H [t,t] v x) H fun v' H'=>L8 sz E lo H' v' (l++l2) (fun j=>G j\/G2 j)/\Z2 lo v H v' H':=by
 have q1:u5 H lo sz (E H (fun j=>G j\/G2 j)) v l:=h.own.imp fun cs e q=>J _ _ _ _ _ _ q (fun _ _=>rfl) (fun _=> .inl);have q2:SlI H n sz (E H (fun j=>G j\/G2 j)) x l2:=h2.mono (fun _ _=>rfl) lR (fun cs e q=>J _ _ _ _ _ _ q (fun _ _=>rfl) (fun _=> .inr));obtain⟨v',U,H',r1,r2,r3,I⟩:=q1.appendF ht hs hb hz W X q2 hl S;have hn:=I.n;have u:∀j,(G j\/G2 j)->lo<=j/\j<H.n/\¬j8 v j:=fun j D=>D.elim (h.fr j) (O j);refine⟨v',U,H',r1,r2,⟨r3.imp fun cs e q=>J _ _ _ _ _ _ q (fun j D=>I.but j (u j D).2.1 (u j D).2.2) (fun _ h=>h),fun j D=>?_⟩,I⟩;obtain⟨k1,k2,k3⟩:=u j D;refine⟨k1,oM,fun q=>?_⟩;rcases I.new j q with q|q
 .exact k3 q
 .omega
def L8.push{P:Program}{t e:TypeId}{bytes:Nat}{z cs:LV}{a:α}(J:dK E)(ht:P.underlying t=some (.slice e))(hs:D5 P e=some sz)(S:T1 P e=some bytes)(hz:P8 P e=some z)(h0:0<sz)(h1:0<bytes)
  (h:L8 sz E lo H v l G) (U:cs.length=sz) (hR:E H G2 cs a) (u:∀j,G2 j->lo<=j/\j<H.n/\¬j8 v j) (hl:(l.length+1)*bytes<=140737488355328) (W:lo<=H.n):
  Ret (C2 P (H.push (.cells cs true sz)) [t,t] v (.slice (some ⟨H.n,0,none⟩) 1 1)) (H.push (.cells cs true sz)) fun v' H'=>L8 sz E lo H' v' (l++[a]) (fun j=>G j\/G2 j)/\Z2 lo v H v' H':=by
 have I:d9 H.n H (H.push (.cells cs true sz)):=d9.push lR;have hn:(H.push (.cells cs true sz)).n=H.n+1:=i4;have O:E (H.push (.cells cs true sz)) G2 cs a:=J _ _ _ _ _ _ hR (fun j D=>I.g j (u j D).2.1) (fun _ h=>h);have hO:u5 (H.push (.cells cs true sz)) H.n sz (E (H.push (.cells cs true sz)) G2) (.slice (some ⟨H.n,0,none⟩) 1 1) [a]:=u5.fresh rfl lR (F1.one U O);obtain⟨v',h',H',r1,r2,r3,X⟩:=(h.keep J I).app J ht hs S hz h0 h1 hO.sl (fun j D=>by have:=u j D;exact⟨this.1,oM,this.2.2⟩) (by simpa using hl) oM;refine⟨v',h',H',r1,r2,r3,(I.wk W).trans X.stay,fun j D hq=>?_,fun b S=>?_⟩
 .rw[X.but j oM hq,I.g j D]
 .rcases X.new b S with q|q
  .exact .inl q
  .exact .inr oM
def L8.one{cs:LV}{a:α}{c:Nat}(J:dK E)(z:cs.length=sz)(O:E H G2 cs a)(u:∀j,G2 j->lo<=j/\j<H.n) (I:lo<=H.n):L8 sz E lo (H.push (.cells cs true sz)) (.slice (some ⟨H.n,0,none⟩) 1 c) [a] G2:=by
 have S:(H.push (.cells cs true sz)).n=H.n+1:=i4;refine⟨u5.fresh rfl I (F1.one z (J _ _ _ _ _ _ O (fun j D=>j5 (u j D).2) (fun _ h=>h))),fun j D=>?_⟩;have:=u j D;exact⟨this.1,oM,by rw[P3];omega⟩
end
def L8.slf{α:Type}{sz lo:Nat}{E:d7->(Nat->Prop)->LV->α->Prop}{H:d7}{v:aa3}{l:List α}{G:Nat->Prop}(z:dK E)(h:L8 sz E lo H v l G):SlF H (fun j=>lo<=j/\j<H.n) sz (E H (fun j=>lo<=j/\j<H.n)) v l:=
 (h.own.imp fun cs e q=>z _ _ _ _ _ _ q (fun _ _=>rfl) (fun j u=>⟨(h.fr j u).1,(h.fr j u).2.1⟩)).frz fun b D=>h.own.lt D
def cj{α:Type}(sz:Nat)(E:d7->(Nat->Prop)->LV->α->Prop)(H:d7)(l:List α)(v:aa3)(H':d7):Prop:=(∃G,L8 sz E H.n H' v l G)/\d9 H.n H H'
def S8{α:Type}{sz:Nat}{E:d7->(Nat->Prop)->LV->α->Prop}{H H':d7}{w:aa3}{l:List α}{G:Nat->Prop}(I:dK E)(h:L8 sz E H.n H' w l G)(J:d9 H.n H H')(O:H.n<=H'.low):Ret (some (F7 w H H')) H (cj sz E H l):=by
 refine E1 (fun u _=>?_) ⟨⟨G,h.low I _⟩,J.ret O⟩;obtain⟨cs,z,S⟩:=h.own;rcases z with⟨rfl,D,rfl⟩|⟨b,c,rfl,_⟩
 .obtain rfl:l=[]:=pF.1 D;exact⟨⟨_,L8.nil⟩,d9.refl _ _⟩
 .cases u
def kN{α:Type}{sz:Nat}{E:d7->(Nat->Prop)->LV->α->Prop}{H H':d7}{w:aa3}{l:List α}{G:Nat->Prop}(u:dK E)(h:L8 sz E H.n H' w l G)(z:d9 H.n H H')(D:H.n<=H'.low):Ret (some (w,some ⟨H'.bs,min H.low H'.low⟩)) H (cj sz E H l):=
 ⟨w,some _,_,rfl,rfl,⟨G,h.low u _⟩,z.ret D⟩
def cj.n{α:Type}{sz:Nat}{E:d7->(Nat->Prop)->LV->α->Prop}{H H':d7}{w:aa3}{l:List α}(h:cj sz E H l w H'):H.n<=H'.n:=h.2.n
end Go.Proofs.YtjlpdddmmnijoaaGreatDoor.Ve
namespace Go.Proofs.YtjlpdddmmnijoaaGreatDoor.Ve
open Go Go.RowKit
open Go.Proofs.Tryz (prog)
def bAt(s:aa2)(i:Nat):Nat:=(s.data.toList.getD i 0).toNat
def aR(s:aa2)(i:Nat):A8 s i=(bAt s i:Int):=rfl
def bf(s:aa2)(i:Nat):bAt s i<256:=by
 have:=(s.data.toList.getD i 0).toNat_lt
 simpa [bAt] using this
def KV(s:aa2)(i:Nat)(h:i<s.size):(s.get! i).toNat=bAt s i:=by
 have u:i<s.data.toList.length:=by simpa using h
 have:s.get! i=s.data[i]!:=by cases s;rfl
 rw[this,bAt,dE,gI u,getElem!_pos _ _ (by simpa using h)];simp
def Y2(s:aa2)(i:Nat):Bool:=decide (i<s.size)&&decide (bAt s i / 64=2)
def dec(s:aa2)(i:Nat):Option (Nat×Nat):=
 if bAt s i<128 then some (bAt s i,1)
 else if bAt s i / 32=6 then
  if Y2 s (i+1)=true/\128<=bAt s i % 32*64+bAt s (i+1) % 64 then some (bAt s i % 32*64+bAt s (i+1) % 64,2) else none
 else if bAt s i / 16=14 then
  if Y2 s (i+1)=true/\Y2 s (i+2)=true/\2048<=bAt s i % 16*4096+bAt s (i+1) % 64*64+bAt s (i+2) % 64/\¬(55296<=bAt s i % 16*4096+bAt s (i+1) % 64*64+bAt s (i+2) % 64/\bAt s i % 16*4096+bAt s (i+1) % 64*64+bAt s (i+2) % 64<=57343)
   then some (bAt s i % 16*4096+bAt s (i+1) % 64*64+bAt s (i+2) % 64,3) else none
 else if bAt s i / 8=30 then
  if Y2 s (i+1)=true/\Y2 s (i+2)=true/\Y2 s (i+3)=true/\65536<=bAt s i % 8*262144+bAt s (i+1) % 64*4096+bAt s (i+2) % 64*64+bAt s (i+3) % 64/\bAt s i % 8*262144+bAt s (i+1) % 64*4096+bAt s (i+2) % 64*64+bAt s (i+3) % 64<=1114111
   then some (bAt s i % 8*262144+bAt s (i+1) % 64*4096+bAt s (i+2) % 64*64+bAt s (i+3) % 64,4) else none
 else none
def N5{s:aa2}{i:Nat}:Y2 s i=true↔i<s.size/\bAt s i / 64=2:=by simp [Y2]
def Ct(s:aa2)(i:Nat)(hi:i<s.size)(c n:Nat)(h:dec s i=some (c,n)):Utf8.decode s i=(c,n):=by
 have g0:=KV s i hi;have E:∀k,Y2 s (i+k)=true->(s.get! (i+k)).toNat=bAt s (i+k)/\(decide (i+k<s.size)&&(s.get! (i+k)).toNat / 64==2)=true:=by
  intro k S;rw[N5]at S;have:=KV s (i+k) S.1;refine⟨this,?_⟩;rw[this,S.2];simp [S.1]
 unfold dec at h;unfold Utf8.decode;simp only[ly,g0];split at h
 next X=>rw[bJ X];cases h;rfl
 .rename_i X;rw[bt X];split at h
  .rename_i h2;split at h
   .rename_i h3;obtain⟨J,u⟩:=E 1 h3.1;have U:(bAt s i / 32==6)=true:=by simp [h2]
    rw[U,u];simp only[Yp,jd,J];rw[bJ h3.2];cases h;rfl
   .cases h
  .rename_i h2;have U:(bAt s i / 32==6)=false:=by simp [h2]
   rw[U];simp only[Bi,bF];split at h
   .rename_i h4;split at h
    .rename_i O;obtain⟨J,u⟩:=E 1 O.1;obtain⟨k2,D⟩:=E 2 O.2.1;have W:(bAt s i / 16==14)=true:=by simp [h4]
     rw[W,u,D];simp only[Yp,jd,J,k2];have hv:Utf8.valid ((bAt s i % 16*4096+bAt s (i+1) % 64*64+bAt s (i+2) % 64:Nat):Int)=true:=by
      have:=O.2.2.2;have b0:=bf s i;simp only[Utf8.valid,xj,cA,eT];omega
     have z:(decide (2048<=bAt s i % 16*4096+bAt s (i+1) % 64*64+bAt s (i+2) % 64)&&Utf8.valid ((bAt s i % 16*4096+bAt s (i+1) % 64*64+bAt s (i+2) % 64:Nat):Int))=true:=by rw[hv];simp [O.2.2.1]
     rw[bJ (by simpa using z)];cases h;rfl
    .cases h
   .rename_i h4;have W:(bAt s i / 16==14)=false:=by simp [h4]
    rw[W];simp only[Bi,bF];split at h
    .rename_i h6;split at h
     .rename_i I;obtain⟨J,u⟩:=E 1 I.1;obtain⟨k2,D⟩:=E 2 I.2.1;obtain⟨k3,a1⟩:=E 3 I.2.2.1;have e6:(bAt s i / 8==30)=true:=by simp [h6]
      rw[e6,u,D,a1];simp only[Yp,jd,J,k2,k3];have hv:Utf8.valid ((bAt s i % 8*262144+bAt s (i+1) % 64*4096+bAt s (i+2) % 64*64+bAt s (i+3) % 64:Nat):Int)=true:=by
       have:=I.2.2.2;simp only[Utf8.valid,xj,cA,eT];omega
      have z:(decide (65536<=bAt s i % 8*262144+bAt s (i+1) % 64*4096+bAt s (i+2) % 64*64+bAt s (i+3) % 64)&&Utf8.valid ((bAt s i % 8*262144+bAt s (i+1) % 64*4096+bAt s (i+2) % 64*64+bAt s (i+3) % 64:Nat):Int))=true:=by rw[hv];simp [I.2.2.2.1]
      rw[bJ (by simpa using z)];cases h;rfl
     .cases h
    .cases h
def Gm:∀b:Fin 256,(Go.bits .and .u8 (b.val:Int) 128=0↔b.val<128)/\(Go.bits .and .u8 (b.val:Int) 224=192↔b.val / 32=6)/\(Go.bits .and .u8 (b.val:Int) 240=224↔b.val / 16=14)/\(Go.bits .and .u8 (b.val:Int) 248=240↔b.val / 8=30):=by decide
def Gn:∀b:Fin 256,Go.bits .andNot .u8 (b.val:Int) 128=(b.val % 128:Nat)/\Go.bits .andNot .u8 (b.val:Int) 224=(b.val % 32:Nat)/\Go.bits .andNot .u8 (b.val:Int) 240=(b.val % 16:Nat)/\Go.bits .andNot .u8 (b.val:Int) 248=(b.val % 8:Nat):=by decide
def Gl:∀b:Fin 256,(Go.bits .and .u8 (b.val:Int) 192=128↔b.val / 64=2)/\Go.bits .and .u8 (b.val:Int) 63=(b.val % 64:Nat):=by decide
def gt{n:Int}(h: -2147483648<=n)(u:n<=2147483647):IntKind.wrap .i32 n=n:=by
 simp [IntKind.wrap,IntKind.min,IntKind.max,IntKind.signed,IntKind.bits];omega
def NJ(a b:Nat)(E:a<16777216)(I:b<64):Go.bits .or .i32 ((a*64:Nat):Int) (b:Int)=((a*64+b:Nat):Int):=by
 have u:(BitVec.ofInt 32 ((a*64:Nat):Int))=BitVec.ofNat 32 (a*64):=ZK _ _;have z:(BitVec.ofInt 32 (b:Int))=BitVec.ofNat 32 b:=ZK _ _;have D:(BitVec.ofNat 32 (a*64)|||BitVec.ofNat 32 b).toNat=a*64+b:=by
  rw[BitVec.toNat_or,Zi,Zi,Us oM,Us oM];have:=Nat.two_pow_add_eq_or_of_lt (i:=6) (b:=b) oM a;have h:(2:Nat) ^ 6*a=a*64:=by rw[aaB]
  rw[h]at this;omega
 show IntKind.wrap .i32 (((BitVec.ofInt 32 ((a*64:Nat):Int))|||(BitVec.ofInt 32 (b:Int))).toNat:Int)=_;rw[u,z,D];exact gt oM oM
def JF(v:Nat)(D:v<2147483648):Go.bits .or .i32 (v:Int) 0=(v:Int):=by
 have h:(BitVec.ofInt 32 (v:Int))=BitVec.ofNat 32 v:=ZK _ _;have u:(BitVec.ofInt 32 (0:Int))=BitVec.ofNat 32 0:=by decide
 have z:(BitVec.ofNat 32 v|||BitVec.ofNat 32 0).toNat=v:=by
  rw[BitVec.toNat_or,Zi,Zi,Us oM];simp
 show IntKind.wrap .i32 (((BitVec.ofInt 32 (v:Int))|||(BitVec.ofInt 32 (0:Int))).toNat:Int)=_;rw[h,u,z];exact gt oM oM
def dv(s:aa2)(u n k v h:Nat)(J:v<16777216):bU s u n (k+1) (v:Int) h=if Y2 s (u+h)=true then bU s u n k ((v*64+bAt s (u+h) % 64:Nat):Int) (h+1) else((v:Int),h):=by
 have I:=bf s (u+h);obtain⟨c1,c2⟩:=Gl ⟨bAt s (u+h),I⟩;simp only at c1 c2;rw[bU,aR,c2];have D:IntKind.wrap .i32 ((v:Int)*2 ^ min (Int.toNat 6) 32)=((v*64:Nat):Int):=by
  have:(v:Int)*2 ^ min (Int.toNat 6) 32=((v*64:Nat):Int):=by
   rw[Int.natCast_mul];rfl
  rw[this];exact gt oM oM
 have E:IntKind.wrap .i32 ((bAt s (u+h) % 64:Nat):Int)=((bAt s (u+h) % 64:Nat):Int):=gt oM oM;rw[D,E,NJ v _ J (aaZ _ oM)];by_cases z:Y2 s (u+h)=true
 .rw[bJ z,bJ];rw[N5]at z;exact⟨z.1,c1.2 z.2⟩
 .rw[bt z,bt];intro q;exact z (N5.2 ⟨q.1,c1.1 q.2⟩)
def PS(v:Nat)(z:v<2147483648):lO (v:Int) 0=((v:Int),(v:Int)):=by
 have h:IntKind.wrap .i32 ((v:Int)*2 ^ min (6*(0:Int)).toNat 32)=(v:Int):=by
  have:(v:Int)*2 ^ min (6*(0:Int)).toNat 32=(v:Int):=sM;rw[this];exact gt oM oM
 have u:IntKind.wrap .i32 (IntKind.wrap .i32 (1*2 ^ min (6*(0:Int)).toNat 32)-1)=0:=by decide
 rw[lO,h,u,JF v z]
def kY(s:aa2)(u n v:Nat)(h:Int)(z:v<2147483648):uZ s u n h (v:Int) (n+1)=if(v:Int)<h\/(1114111:Int)<v\/((55296:Int)<=v/\(v:Int)<=57343) then(0,0,2) else((v:Int),((n+1:Nat):Int),0):=by
 have e:((n:Int)+1-((n+1:Nat):Int))=0:=oM;rw[uZ,e,PS v z];simp only[jd]
def fD(s:aa2)(z n h:Nat)(u v:Int)(D:h≠n+1):(uZ s z n u v h).2.2≠0:=by
 rw[uZ];split
 .decide
 .split<;>(try decide)
def Js(s:aa2)(i:Nat):(Go.bits .and .u8 (A8 s i) 128=0↔bAt s i<128)/\(Go.bits .and .u8 (A8 s i) 224=192↔bAt s i / 32=6)/\(Go.bits .and .u8 (A8 s i) 240=224↔bAt s i / 16=14)/\(Go.bits .and .u8 (A8 s i) 248=240↔bAt s i / 8=30):=Gm ⟨bAt s i,bf s i⟩
def IB(s:aa2)(i:Nat):Go.bits .andNot .u8 (A8 s i) 128=(bAt s i % 128:Nat)/\Go.bits .andNot .u8 (A8 s i) 224=(bAt s i % 32:Nat)/\Go.bits .andNot .u8 (A8 s i) 240=(bAt s i % 16:Nat)/\Go.bits .andNot .u8 (A8 s i) 248=(bAt s i % 8:Nat):=Gn ⟨bAt s i,bf s i⟩
def IY(s:aa2)(i:Nat)(hi:i<s.size):(∀c n,dec s i=some (c,n)->dZ s i=((c:Int),(n:Int),0))/\(dec s i=none->(dZ s i).2.2≠0):=by
 have hb:=bf s i;obtain⟨f1,f2,f3,f4⟩:=Js s i;obtain⟨r1,r2,r3,r4⟩:=IB s i;have w:∀n:Nat,n<256->IntKind.wrap .i32 (n:Int)=(n:Int):=fun n h=>gt oM oM;have U:dZ s i=ay s i 4 0:=by rw[dZ,bJ hi]
 by_cases z:bAt s i<128
 .have e:dZ s i=((bAt s i:Int),1,0):=by
   rw[U,ay,Y8,bJ (f1.2 z)];simp only;rw[r1,w _ oM,bU,Us z];rw[kY s i 0 _ 0 oM,bt oM];rfl
  have d:dec s i=some (bAt s i,1):=by rw[dec,bJ z]
  rw[d,e];refine⟨fun c n h=>?_,fun h=>by cases h⟩;cases h;rfl
 have W:¬Go.bits .and .u8 (A8 s i) 128=0:=fun q=>z (f1.1 q);by_cases E:bAt s i / 32=6
 .have e:dZ s i=uZ s i 1 128 (bU s i 1 1 ((bAt s i % 32:Nat):Int) 1).1 (bU s i 1 1 ((bAt s i % 32:Nat):Int) 1).2:=by
   rw[U,ay,Y8,bt W,ay,Y8,bJ (f2.2 E)];simp only;rw[r2,w _ oM]
  have d:dec s i=if Y2 s (i+1)=true/\128<=bAt s i % 32*64+bAt s (i+1) % 64 then some (bAt s i % 32*64+bAt s (i+1) % 64,2) else none:=by rw[dec,bt z,bJ E]
  rw[dv _ _ _ _ _ _ oM]at e;by_cases D:Y2 s (i+1)=true
  .rw[bJ D,bU]at e;simp only at e;rw[kY s i 1 _ 128 oM]at e;by_cases J:128<=bAt s i % 32*64+bAt s (i+1) % 64
   .rw[bt oM]at e;rw[bJ ⟨D,J⟩]at d;rw[d,e];exact⟨fun c n h=>by cases h;rfl,fun h=>by cases h⟩
   .rw[bJ oM]at e;rw[bt (fun q=>J q.2)]at d;rw[d,e];exact⟨fun c n h=>(by cases h),fun _=>by decide⟩
  .rw[bt D]at e;rw[bt (fun q=>D q.1)]at d;rw[d,e];exact⟨fun c n h=>(by cases h),fun _=>fD _ _ _ _ _ _ oM⟩
 have X:¬Go.bits .and .u8 (A8 s i) 224=192:=fun q=>E (f2.1 q);by_cases I:bAt s i / 16=14
 .have e:dZ s i=uZ s i 2 2048 (bU s i 2 2 ((bAt s i % 16:Nat):Int) 1).1 (bU s i 2 2 ((bAt s i % 16:Nat):Int) 1).2:=by
   rw[U,ay,Y8,bt W,ay,Y8,bt X,ay,Y8,bJ (f3.2 I)];simp only;rw[r3,w _ oM]
  rw[dv _ _ _ _ _ _ oM]at e;by_cases D:Y2 s (i+1)=true
  .rw[bJ D,dv _ _ _ _ _ _ oM]at e;by_cases u:Y2 s (i+2)=true
   .rw[bJ u,bU]at e;simp only at e;have ev:(bAt s i % 16*64+bAt s (i+1) % 64)*64+bAt s (i+1+1) % 64=bAt s i % 16*4096+bAt s (i+1) % 64*64+bAt s (i+2) % 64:=by
     show(bAt s i % 16*64+bAt s (i+1) % 64)*64+bAt s (i+2) % 64=_;omega
    rw[show i+(1+1)=i+1+1 from rfl,ev,kY s i 2 _ 2048 oM]at e;by_cases J:2048<=bAt s i % 16*4096+bAt s (i+1) % 64*64+bAt s (i+2) % 64/\¬(55296<=bAt s i % 16*4096+bAt s (i+1) % 64*64+bAt s (i+2) % 64/\bAt s i % 16*4096+bAt s (i+1) % 64*64+bAt s (i+2) % 64<=57343)
    .rw[bt oM]at e;have d:dec s i=some (bAt s i % 16*4096+bAt s (i+1) % 64*64+bAt s (i+2) % 64,3):=by rw[dec,bt z,bt E,bJ I,bJ ⟨D,u,J.1,J.2⟩]
     rw[d,e];exact⟨fun c n h=>by cases h;rfl,fun h=>by cases h⟩
    .rw[bJ oM]at e;have d:dec s i=none:=by rw[dec,bt z,bt E,bJ I,bt (fun q=>J q.2.2)]
     rw[d,e];exact⟨fun c n h=>(by cases h),fun _=>by decide⟩
   .rw[bt u]at e;have d:dec s i=none:=by rw[dec,bt z,bt E,bJ I,bt (fun q=>u q.2.1)]
    rw[d,e];exact⟨fun c n h=>(by cases h),fun _=>fD _ _ _ _ _ _ oM⟩
  .rw[bt D]at e;have d:dec s i=none:=by rw[dec,bt z,bt E,bJ I,bt (fun q=>D q.1)]
   rw[d,e];exact⟨fun c n h=>(by cases h),fun _=>fD _ _ _ _ _ _ oM⟩
 have g3:¬Go.bits .and .u8 (A8 s i) 240=224:=fun q=>I (f3.1 q);by_cases S:bAt s i / 8=30
 .have e:dZ s i=uZ s i 3 65536 (bU s i 3 3 ((bAt s i % 8:Nat):Int) 1).1 (bU s i 3 3 ((bAt s i % 8:Nat):Int) 1).2:=by
   rw[U,ay,Y8,bt W,ay,Y8,bt X,ay,Y8,bt g3,ay,Y8,bJ (f4.2 S)];simp only;rw[r4,w _ oM]
   all_goals (intro q;omega)
  rw[dv _ _ _ _ _ _ oM]at e;by_cases D:Y2 s (i+1)=true
  .rw[bJ D,dv _ _ _ _ _ _ oM]at e;by_cases u:Y2 s (i+2)=true
   .rw[bJ u,dv _ _ _ _ _ _ oM]at e;by_cases O:Y2 s (i+3)=true
    .rw[bJ O,bU]at e;simp only at e;have ev:((bAt s i % 8*64+bAt s (i+1) % 64)*64+bAt s (i+(1+1)) % 64)*64+bAt s (i+(1+1+1)) % 64=bAt s i % 8*262144+bAt s (i+1) % 64*4096+bAt s (i+2) % 64*64+bAt s (i+3) % 64:=by
      show((bAt s i % 8*64+bAt s (i+1) % 64)*64+bAt s (i+2) % 64)*64+bAt s (i+3) % 64=_;omega
     rw[ev,kY s i 3 _ 65536 oM]at e;by_cases J:65536<=bAt s i % 8*262144+bAt s (i+1) % 64*4096+bAt s (i+2) % 64*64+bAt s (i+3) % 64/\bAt s i % 8*262144+bAt s (i+1) % 64*4096+bAt s (i+2) % 64*64+bAt s (i+3) % 64<=1114111
     .rw[bt oM]at e;have d:dec s i=some (bAt s i % 8*262144+bAt s (i+1) % 64*4096+bAt s (i+2) % 64*64+bAt s (i+3) % 64,4):=by rw[dec,bt z,bt E,bt I,bJ S,bJ ⟨D,u,O,J.1,J.2⟩]
      rw[d,e];exact⟨fun c n h=>by cases h;rfl,fun h=>by cases h⟩
     .rw[bJ oM]at e;have d:dec s i=none:=by rw[dec,bt z,bt E,bt I,bJ S,bt (fun q=>J q.2.2.2)]
      rw[d,e];exact⟨fun c n h=>(by cases h),fun _=>by decide⟩
    .rw[bt O]at e;have d:dec s i=none:=by rw[dec,bt z,bt E,bt I,bJ S,bt (fun q=>O q.2.2.1)]
     rw[d,e];exact⟨fun c n h=>(by cases h),fun _=>fD _ _ _ _ _ _ oM⟩
   .rw[bt u]at e;have d:dec s i=none:=by rw[dec,bt z,bt E,bt I,bJ S,bt (fun q=>u q.2.1)]
    rw[d,e];exact⟨fun c n h=>(by cases h),fun _=>fD _ _ _ _ _ _ oM⟩
  .rw[bt D]at e;have d:dec s i=none:=by rw[dec,bt z,bt E,bt I,bJ S,bt (fun q=>D q.1)]
   rw[d,e];exact⟨fun c n h=>(by cases h),fun _=>fD _ _ _ _ _ _ oM⟩
 have g4:¬Go.bits .and .u8 (A8 s i) 248=240:=fun q=>S (f4.1 q);have e:dZ s i=(0,0,2):=by
  rw[U,ay,Y8,bt W,ay,Y8,bt X,ay,Y8,bt g3,ay,Y8,bt g4,ay]
  all_goals (intro q;omega)
 have d:dec s i=none:=by rw[dec,bt z,bt E,bt I,bt S]
 rw[d,e];exact⟨fun c n h=>(by cases h),fun _=>by decide⟩
def dl1{a b:Int}(h:a<b):decide (a<b)=true:=ib h
def dl0{a b:Int}(h:b<=a):decide (a<b)=false:=dt oM
def de1{a b:Int}(h:a<=b):decide (a<=b)=true:=ib h
def de0{a b:Int}(h:b<a):decide (a<=b)=false:=dt oM
def dq1{a b:Int}(h:a=b):decide (a=b)=true:=ib h
def dq0{a b:Int}(h:a<b\/b<a):decide (a=b)=false:=dt oM
def dlB:qw (aI (aI (aI @dl0 @dl1) (aI @dq0 @dq1)) (aI @de0 @de1)):=stOf _
def bS(H:d7)(r:Int):CL prog l7 110 [iV r] H=some (.bool (rJ r),none):=by
 rw[i7 Wc rfl _ sM,rJ];rcases h:decide (r=9)with _|_
 .rcases u:decide (r=10)with _|_
  .rcases z:decide (r=13)with _|_
   .exact J3 h u z trivial
   .exact J3 h u z trivial
  .exact J2 h u trivial
 .exact J1 h trivial
def Be(H:d7)(r:Int):CL prog l7 84 [iV r] H=some (.bool (mJ r),none):=by
 rw[i7 YR rfl _ sM,mJ,inSpans,vx];rcases iW r 32 with u|u
 .exact J3 @bS anB dlB trivial
 have h:rJ r=decide (r=32):=by
  rw[rJ,dq0 oM,dq0 oM,dq0 oM];rfl
 rw[h];rcases iW r 55296 with z|z
 .exact J2 anB dlB trivial
 rcases iW r 57344 with D|D
 .exact J2 anB dlB trivial
 rcases iW r 65534 with E|E
 .exact J2 anB dlB trivial
 rcases iW r 65535 with I|I
 .exact J2 anB dlB trivial
 rcases iW r 65536 with J|J
 .exact J2 anB dlB trivial
 rcases iW r 1114112 with O|O
 .exact J2 anB dlB trivial
 .exact J2 anB dlB trivial
def M9(H:d7)(r:Int):CL prog l7 111 [iV r] H=some (.bool (iI r),none):=by
 revert r
 intro r;rw[i7 Wd rfl _ sM,iI,inSpans,ug];rcases iW r 65 with k0|k0
 .exact J2 anB dlB trivial
 rcases iW r 91 with k1|k1
 .exact J2 anB dlB trivial
 clear k0;rcases iW r 95 with k2|k2
 .exact J2 anB dlB trivial
 clear k1;rcases iW r 96 with k3|k3
 .exact J2 anB dlB trivial
 clear k2;rcases iW r 97 with k4|k4
 .exact J2 anB dlB trivial
 clear k3;rcases iW r 123 with k5|k5
 .exact J2 anB dlB trivial
 clear k4;rcases iW r 128 with k6|k6
 .exact J2 anB dlB trivial
 clear k5;rcases iW r 192 with k7|k7
 .exact J2 anB dlB trivial
 clear k6;rcases iW r 215 with k8|k8
 .exact J2 anB dlB trivial
 clear k7;rcases iW r 216 with k9|k9
 .exact J2 anB dlB trivial
 clear k8;rcases iW r 247 with h|h
 .exact J2 anB dlB trivial
 clear k9;rcases iW r 248 with u|u
 .exact J2 anB dlB trivial
 clear h;rcases iW r 768 with z|z
 .exact J2 anB dlB trivial
 clear u;rcases iW r 880 with D|D
 .exact J2 anB dlB trivial
 clear z;rcases iW r 894 with E|E
 .exact J2 anB dlB trivial
 clear D;rcases iW r 895 with I|I
 .exact J2 anB dlB trivial
 clear E;rcases iW r 8192 with J|J
 .exact J2 anB dlB trivial
 clear I;rcases iW r 8204 with O|O
 .exact J2 anB dlB trivial
 clear J;rcases iW r 8205 with S|S
 .exact J2 anB dlB trivial
 clear O;rcases iW r 8206 with U|U
 .exact J2 anB dlB trivial
 clear S;rcases iW r 8304 with W|W
 .exact J2 anB dlB trivial
 clear U;rcases iW r 8592 with X|X
 .exact J2 anB dlB trivial
 clear W;rcases iW r 11264 with a1|a1
 .exact J2 anB dlB trivial
 clear X;rcases iW r 12272 with a2|a2
 .exact J2 anB dlB trivial
 clear a1;rcases iW r 12289 with a3|a3
 .exact J2 anB dlB trivial
 clear a2;rcases iW r 55296 with a4|a4
 .exact J2 anB dlB trivial
 clear a3;rcases iW r 63744 with a5|a5
 .exact J2 anB dlB trivial
 clear a4;rcases iW r 64976 with a6|a6
 .exact J2 anB dlB trivial
 clear a5;rcases iW r 65008 with a7|a7
 .exact J2 anB dlB trivial
 clear a6;rcases iW r 65534 with a8|a8
 .exact J2 anB dlB trivial
 clear a7;rcases iW r 65536 with a9|a9
 .exact J2 anB dlB trivial
 clear a8;rcases iW r 983040 with b0|b0
 .exact J2 anB dlB trivial
 clear a9;exact J2 anB dlB trivial
def Bf(H:d7)(r:Int):CL prog l7 112 [iV r] H=some (.bool (lk r),none):=by
 rw[i7 We rfl _ sM,lk,inSpans,wq];rcases h:iI r with _|_
 .skip
  rcases iW r 45 with D|D
  .exact J4 @M9 h anB dlB trivial
  rcases iW r 46 with E|E
  .exact J4 @M9 h anB dlB trivial
  clear D;rcases iW r 47 with I|I
  .exact J4 @M9 h anB dlB trivial
  clear E;rcases iW r 48 with J|J
  .exact J4 @M9 h anB dlB trivial
  clear I;rcases iW r 58 with O|O
  .exact J4 @M9 h anB dlB trivial
  clear J;rcases iW r 183 with S|S
  .exact J4 @M9 h anB dlB trivial
  clear O;rcases iW r 184 with U|U
  .exact J4 @M9 h anB dlB trivial
  clear S;rcases iW r 768 with W|W
  .exact J4 @M9 h anB dlB trivial
  clear U;rcases iW r 880 with X|X
  .exact J4 @M9 h anB dlB trivial
  clear W;rcases iW r 8255 with k9|k9
  .exact J4 @M9 h anB dlB trivial
  clear X;rcases iW r 8256 with u|u
  .exact J4 @M9 h anB dlB trivial
  clear k9;rcases iW r 8257 with z|z
  .exact J4 @M9 h anB dlB trivial
  clear u;exact J4 @M9 h anB dlB trivial
 .exact J2 @M9 h trivial
end Go.Proofs.YtjlpdddmmnijoaaGreatDoor.Ve
