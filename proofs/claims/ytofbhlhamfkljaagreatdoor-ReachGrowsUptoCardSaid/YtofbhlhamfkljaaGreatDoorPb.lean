/- A part of the claim: the evaluator and the contracts. Conditions: none here. -/
import Derived.Test.YtofbhlhamfkljaaGreatDoorPa
import Derived.LoopNIn
import Derived.OwnWalkIn
import Derived.RangeFuncCalls
import Derived.Scope
import Derived.LoopN
import Derived.RangeFuncSeq
import Derived.RangeFuncIn
import Derived.Test.YtofbhlhamfkljaaGreatDoorRows
import Derived.ChangeArms
import Derived.ChangeOld
namespace Go.Proofs.YtofbhlhamfkljaaGreatDoor.Ve
open Go Go.RowKit
set_option linter.unusedVariables false
set_option linter.unusedSimpArgs false
set_option maxHeartbeats 0
section
variable{P:Program}{base:Bs}{w0:World}{φ:List Loc}{S:List Blk}{w:World}{nt:Nat}{e:Env}{a:Act}
theorem Z9{C:A5}(hC:aB P base w0 C){ops:Array Oper}:∀{l:List Oper}{e e':Env}{H H':d9},C6 P C ops l e H=some (e',H')→Le H H':=by
 intro l;induction l with
 |nil=>intro e e' H H' h;cases h;exact Le.refl _
 |cons o l ih=>
  intro e e' H H' h;simp only[C6]at h;split at h
  ·cases h
  split at h
  ·split at h
   ·exact ih h
   ·rename_i v H2 hop;refine Le.trans ?_ (ih h);cases hc:isCall o.op with
    |false=>exact jr hc hop
    |true=>
     obtain⟨c,f,g,first,captured,_,_,_,hcall⟩:=U7 hc hop;exact(hC _ _ _ _ _ hcall).2.1 _ rfl
   ·cases h
  ·exact ih h
theorem T4{C:A5}(hC:aB P base w0 C){ops:Array Oper}(hops:dG nt ops=true){Q:Exit→Act→World→Prop}:∀{l:List Oper}(hl:∀o∈l,o∈ops.toList) {φ:List Loc} {e e':Env} {H H':d9} {a:Act} {w:World},
  C6 P C ops l e H=some (e',H')→ER φ nt e a→WR base w0 φ H.bs w→fk base w0 φ H w nt a.defers e' H' (Q .normal)→wpList P ops Q l a w:=by
 intro l;induction l with
 |nil=>
  intro hl φ e e' H H' a w h hE hW hp;cases h;exact hp φ a w (Ext.refl φ) hE hW (gC H) rfl
 |cons o l ih=>
  intro hl φ e e' H H' a w h hE hW hp;obtain⟨hok,hdst⟩:=X3 hops (hl o (by simp));have hl':∀o∈l,o∈ops.toList:=fun o ho=>hl o (by simp [ho]);simp only[C6]at h;split at h
  ·cases h
  rename_i hnl;rw[hE.wanted ops o (T1 hops) (by simpa using hnl)]at h;unfold wpList;have hput:∀v,(a.put o.dst v).defers=a.defers:=fun v=>by unfold Act.put;split<;>rfl
  split at h
  ·rename_i hw;rw[if_pos hw]
   left
   have next:∀(v:Value)(H2:d9)(v':Value)(w':World)(φ':List Loc),Le H H2→C6 P C ops l (P7 e o.dst v) H2=some (e',H')→Ext φ φ'→VR φ' v v'→WR base w0 φ' H2.bs w'→Fr φ H.bs H2.low w w'→
     wpList P ops Q l (a.put o.dst v') w':=by
    intro v H2 v' w' φ' hle hr hx hv hW' hfr;refine ih hl' hr ((hE.mono hx).put hdst hv) hW' ?_;intro φ2 a2 w2 hx2 hE2 hW2 hfr2 hd2;exact hp φ2 a2 w2 (hx.trans hx2) hE2 hW2 (Fr.trans hx hle (Z9 hC hr) hW.len hfr hfr2) (by rw[hd2,hput])
   cases hc:isCall o.op with
   |false=>
    split at h
    ·rename_i v hop;obtain⟨v',hv,hrun⟩:=eZ hW hE hok hc hop;unfold Oper.wp;rw[hrun w hW.cls,Oper.upon_value];exact next v H v' w φ (Le.refl H) h (Ext.refl φ) hv hW (gC H)
    ·rename_i v H2 hop;obtain⟨v',w',φ',hrun,hx,hv,hW',hfr⟩:=pz hW hE hok hc hop;unfold Oper.wp;rcases hrun with hrun|⟨hrun,rfl⟩
     ·rw[hrun,Oper.upon_value];exact next v H2 v' w' φ' (jr hc hop) h hx hv hW' hfr
     ·rw[hrun,Oper.upon_skip];exact next v H2 undef w' φ' (jr hc hop) h hx hv hW' hfr
    ·cases h
   |true=>
    split at h
    ·rename_i v hop;obtain⟨c,f,g,first,captured,ho,hcal,hf,hcall⟩:=U7 hc hop;obtain⟨first',captured',hf',hargs⟩:=eP hE hok ho hcal hf;obtain⟨hen,_,hna,hspec⟩:=hC _ _ _ _ _ hcall;have hcl:=hspec φ w _ hargs hW;unfold Oper.wp;rw[aR hcal (ty:=o.type) hf' hen ho,Oper.upon_enter];simp only[Array.toArray_toList]at hcl;refine hcl.mono fun en w' hpost=>?_;obtain⟨rfl,hcls⟩:=hpost;exact next v H v w' φ (Le.refl H) h (Ext.refl φ) (VR.na (hna rfl)) hcls.wr (fun b B l _ hB hd hl=>hcls.same b B l hB hd hl)
    ·rename_i v H2 hop;obtain⟨c,f,g,first,captured,ho,hcal,hf,hcall⟩:=U7 hc hop;obtain⟨first',captured',hf',hargs⟩:=eP hE hok ho hcal hf;obtain⟨hen,hle,_,hspec⟩:=hC _ _ _ _ _ hcall;have hcl:=hspec φ w _ hargs hW;unfold Oper.wp;rw[aR hcal (ty:=o.type) hf' hen ho,Oper.upon_enter];simp only[Array.toArray_toList]at hcl;refine hcl.mono fun en w' hpost=>?_;obtain⟨v',φ',rfl,hx,hv,hW',hfr⟩:=hpost;exact next v H2 v' w' φ' (hle H2 rfl) h hx hv hW' hfr
    ·cases h
  ·rename_i hw;rw[if_neg hw];refine ih hl' h (hE.put hdst (VR.undef' φ)) hW ?_;intro φ2 a2 w2 hx2 hE2 hW2 hfr2 hd2;exact hp φ2 a2 w2 hx2 hE2 hW2 hfr2 (by rw[hd2,hput])
theorem Cls.trans{w' w'':World}(h:Cls base w0 φ S w w')(k:Cls base w0 φ S w' w''):Cls base w0 φ S w w'':=
 ⟨k.wr,fun b B l p q r=>(k.same b B l p q r).trans (h.same b B l p q r)⟩
def fh(P:Program)(ops:Array Oper):List Oper→Act→(Act→Prop)→Prop
 |[],a,Q=>Q a
 |o::l,a,Q=>∃v,Yields P ops o v a∧fh P ops l (a.put o.dst v) Q
theorem dw{ops:Array Oper}{Q Q':Act→Prop}(h:∀a,Q a→Q' a):∀(l:List Oper)(a:Act),fh P ops l a Q→fh P ops l a Q'
 |[],a,hq=>h a hq
 |o::l,a,⟨v,h1,h2⟩=>⟨v,h1,dw h l _ h2⟩
theorem EJ{C:A5}{o:Oper}{H:d9}{v:Value}{r:Option d9}(hW:WR base w0 φ H.bs w)(hE:ER φ nt e a)(hok:o.op.operands.toList.all C4=true)(hp:lI o.op=true)(h:aop P C o.op e H=some (v,r)):
  ∃v',VR φ v v'∧∀w',(execOp a.eval o).run P w'= .ok (.value v') w':=by
 unfold aop at h;unfold execOp;unfold lI at hp;split at hp<;>rename_i hop<;>simp only[hop]at h ⊢
 all_goals first|(cases hp;done)|simp only[hop,Op.operands,List.all_cons,List.all_nil,Bool.and_true,Bool.and_eq_true]at hok
 ·cases h;exact⟨_,hE.op hok,fun w'=>rfl⟩
 ·cases h;exact⟨_,hE.op hok,fun w'=>rfl⟩
 ·rename_i t x lo hi mx;obtain⟨h,_⟩:=D5 h;have hok':C4 x=true∧lo.toList.all C4=true∧hi.toList.all C4=true∧mx.toList.all C4=true:=by
   simp only[Array.toList_append,List.all_append,Bool.and_eq_true,Option.toList_toArray,List.all_cons,List.all_nil,Bool.and_true]at hok
   simpa [and_assoc] using hok
  obtain⟨v',h1,h2⟩:=jy hW h (hE.op hok'.1) (hE.opt hok'.2.1) (hE.opt hok'.2.2.1) (hE.opt hok'.2.2.2);exact⟨v',h1,fun w'=>by simp [h2 w']⟩
theorem mh{ops:Array Oper}{md:Region.Mode}{g:Nat}{Q:Exit→Act→World→Prop}{w:World}(hs:Region.noSelect ops=true)(hQ:∀c a w,¬Q (.panic c) a w):
  ∀(l:List Oper)(k:Nat)(listed:Array Bool)(a:Act),(∀j,j<l.length→l[j]?=ops[k+j]?)→Region.lexHead md ops g l.length k listed=true→
   fh P ops l a (fun a1=>∀listed',Region.seqB md ops g (k+l.length) listed'=true→wpAny P md ops Q g listed' a1 w)→wpAny P md ops Q (l.length+g) listed a w
 |[],k,listed,a,_,hB,h=>by
  rw[List.length_nil,Nat.zero_add];exact h listed (by simpa [Region.lexHead] using hB)
 |o::l,k,listed,a,hl,hB,⟨v,hy,h⟩=>by
  have h0:ops[k]?=some o:=by simpa using (hl 0 (by simp)).symm
  simp only[List.length_cons,Region.lexHead,Bool.and_eq_true]at hB;obtain⟨⟨hr,hf⟩,hB'⟩:=hB;rw[List.length_cons,show l.length+1+g=(l.length+g)+1 from oM];refine wpAny_take h0 hs hf hr (fun c a w q=>absurd q (hQ c _ w)) hy ?_;refine mh hs hQ l (k+1) _ _ (fun j hj=>by have:=hl (j+1) (by simp;omega);simpa [Nat.add_assoc,Nat.add_comm 1 j] using this) hB' ?_;refine dw (fun a1 hq listed' hB2=>hq listed' ?_) l _ h;rw[List.length_cons,show k+(l.length+1)=k+1+l.length from oM];exact hB2
theorem mi{id:Nat}{Q:Exit→Act→World→Prop}{a:Act}{w:World}{l:List Oper}(n:Nat)(hm:P.follows .mixedOrders=true)(hB:pureTailB l.toArray n=true)(hQ:∀c a w,¬Q (.panic c) a w)
  (h:fh P l.toArray (l.take n) a (fun a'=>wpList P l.toArray Q (l.drop n) a' {w with drawn:=w.drawn+1})):(Code.region id l.toArray true).wp P Q a w:=by
 simp only[pureTailB,Bool.and_eq_true,decide_eq_true_eq]at hB;obtain⟨⟨⟨hsel,hn⟩,_⟩,hlex⟩:=hB;have hn':n<l.length:=by simpa using hn
 have htl:(l.take n).length=n:=by simp;omega
 have hdl:(l.drop n).length=l.toArray.size-n:=by simp
 refine wp_region_any hm ?_;have:=mh (P:=P) (md:= .any) (g:=l.toArray.size-n) (Q:=Q) (w:={w with drawn:=w.drawn+1}) hsel hQ (l.take n) 0 (Array.replicate l.toArray.size false) a (fun j hj=>by
  have hj':j<n:=by rw[htl]at hj;exact hj
  simp [hj']) (by rw[htl];exact hlex) (by
  refine dw (fun a' hL listed' hS=>?_) _ _ h;have:=wpAny_of_seq (md:= .any) (Q':=Q) (l.drop n) n listed' a' {w with drawn:=w.drawn+1} (fun j=>by simp [List.getElem?_drop]) (by rw[hdl];rw[Nat.zero_add,htl]at hS;exact hS) hL
  rwa [hdl]at this)
 rw[htl,show n+(l.toArray.size-n)=l.toArray.size from oM]at this;exact this
theorem tm{C:A5}(hC:aB P base w0 C){ops:Array Oper}(hops:dG nt ops=true){H:d9}(hW:WR base w0 φ H.bs w):∀{l:List Oper}(hl:∀o∈l,o∈ops.toList) {i:Nat} {q:Bool} {e e':Env} {H':d9},
  F9 P C ops i q l e H=some (e',H')→
  (Region.lexB .any ops=true∧H'=H∧∀a,ER φ nt e a→∀Q:Act→Prop,(∀a',ER φ nt e' a'→a'.defers=a.defers→Q a')→wpQuiet P ops (Cls base w0 φ H.bs w) Q l a)∨
  (∃m e1,q=false∧vS ops (i+m)=true∧C6 P C ops (l.drop m) e1 H=some (e',H')∧
   (∀a,ER φ nt e a→(∀o∈l.take m,o.guard=none∧lI o.op=true)→∀Q:Act→Prop,(∀a1,ER φ nt e1 a1→a1.defers=a.defers→Q a1)→fh P ops (l.take m) a Q)∧
   ∀w1,Cls base w0 φ H.bs w w1→∀a,ER φ nt e a→∀Q:Act→Prop,(∀a1,ER φ nt e1 a1→a1.defers=a.defers→Q a1)→wpStill P ops w1 Q (l.take m) a):=by
 intro l;induction l with
 |nil=>
  intro hl i q e e' H' h;simp only[F9]at h;split at h
  ·rename_i hB;cases h;exact .inl ⟨hB,rfl,fun a hE Q hQ=>hQ a hE rfl⟩
  ·cases h
 |cons o l ih=>
  intro hl i q e e' H' h;obtain⟨hok,hdst⟩:=X3 hops (hl o (by simp));have hl':∀o∈l,o∈ops.toList:=fun o ho=>hl o (by simp [ho]);have horig:=h;simp only[F9]at h;split at h
  ·cases h
  rename_i hnl;have hnl':U0 ops e o=false:=by simpa using hnl
  split at h
  ·rename_i hw;split at h
   ·rename_i v hop;cases hc:isCall o.op with
    |false=>
     rw[hc,Bool.or_false]at h;rcases ih hl' h with⟨hB,hH,hq⟩|⟨m,e1,hqf,hB,hr,hpu,hst⟩
     ·refine .inl ⟨hB,hH,fun a hE Q hQ=>?_⟩;obtain⟨v',hv,hrun⟩:=eZ hW hE hok hc hop;unfold wpQuiet;rw[if_pos (by rw[←hE.wanted ops o (T1 hops) hnl'];exact hw)];refine⟨v',fun w1 hc1=>?_,hq _ (hE.put hdst hv) Q (fun a' h1 h2=>hQ a' h1 (by rw[h2,N1]))⟩;unfold Oper.quietAt;rw[hrun w1 hc1];exact⟨rfl,rfl⟩
     ·refine .inr ⟨m+1,e1,hqf,by rw[show i+(m+1)=i+1+m from oM];exact hB,by simpa using hr,fun a hE hP Q hQ=>?_,fun w1 hc1 a hE Q hQ=>?_⟩
      ·have hPo:=hP o (by simp);obtain⟨v',hv,hrun⟩:=EJ hW hE hok hPo.2 hop;simp only[List.take_succ_cons];refine⟨v',.inl ⟨by rw[←hE.wanted ops o (T1 hops) hnl'];exact hw,hrun⟩,?_⟩;exact hpu _ (hE.put hdst hv) (fun o' ho'=>hP o' (by simp [ho'])) Q (fun a' h1 h2=>hQ a' h1 (by rw[h2,N1]))
      obtain⟨v',hv,hrun⟩:=eZ hW hE hok hc hop;simp only[List.take_succ_cons];unfold wpStill;rw[if_pos (by rw[←hE.wanted ops o (T1 hops) hnl'];exact hw)];unfold Oper.still;rw[hrun w1 hc1,Oper.stillUpon_value];exact hst w1 hc1 _ (hE.put hdst hv) Q (fun a' h1 h2=>hQ a' h1 (by rw[h2,N1]))
    |true=>
     rw[hc,Bool.or_true]at h;rcases ih hl' h with⟨hB,hH,hq⟩|⟨m,e1,hqf,_⟩
     ·refine .inl ⟨hB,hH,fun a hE Q hQ=>?_⟩;obtain⟨c,f,g,first,captured,ho,hcal,hf,hcall⟩:=U7 hc hop;obtain⟨first',captured',hf',hargs⟩:=eP hE hok ho hcal hf;obtain⟨hen,_,hna,hspec⟩:=hC _ _ _ _ _ hcall;unfold wpQuiet;rw[if_pos (by rw[←hE.wanted ops o (T1 hops) hnl'];exact hw)];refine⟨v,fun w1 hc1=>?_,hq _ (hE.put hdst (VR.na (hna rfl))) Q (fun a' h1 h2=>hQ a' h1 (by rw[h2,N1]))⟩;unfold Oper.quietAt;rw[aR hcal (ty:=o.type) hf' hen ho];have hcl:=hspec φ w1 _ hargs hc1.wr;simp only[Array.toArray_toList]at hcl;exact⟨rfl,hcl.mono fun en w2 hpost=>⟨hpost.1,hc1.trans hpost.2⟩⟩
     ·cases hqf
   ·rename_i v H2 hop;split at h
    ·rename_i hcond;simp only[Bool.and_eq_true,Bool.not_eq_true']at hcond;refine .inr ⟨0,e,hcond.1,hcond.2,?_,fun a hE _ Q hQ=>hQ a hE rfl,fun w1 _ a hE Q hQ=>hQ a hE rfl⟩;simp only[List.drop_zero,C6,if_neg hnl,hw,if_true,hop];exact h
    ·cases h
   ·cases h
  ·rename_i hw;rcases ih hl' h with⟨hB,hH,hq⟩|⟨m,e1,hqf,hB,hr,hpu,hst⟩
   ·refine .inl ⟨hB,hH,fun a hE Q hQ=>?_⟩;unfold wpQuiet;rw[if_neg (by rw[←hE.wanted ops o (T1 hops) hnl'];exact hw)];exact hq _ (hE.put hdst (VR.undef' φ)) Q (fun a' h1 h2=>hQ a' h1 (by rw[h2,N1]))
   ·refine .inr ⟨m+1,e1,hqf,by rw[show i+(m+1)=i+1+m from oM];exact hB,by simpa using hr,fun a hE hP Q hQ=>?_,fun w1 hc1 a hE Q hQ=>?_⟩
    ·have hPo:=hP o (by simp);exact absurd (by simp [D6,hPo.1]) hw
    simp only[List.take_succ_cons];unfold wpStill;rw[if_neg (by rw[←hE.wanted ops o (T1 hops) hnl'];exact hw)];exact hst w1 hc1 _ (hE.put hdst (VR.undef' φ)) Q (fun a' h1 h2=>hQ a' h1 (by rw[h2,N1]))
theorem Dc{C:A5}(hC:aB P base w0 C){ops:Array Oper}:∀{l:List Oper}{i:Nat}{q:Bool}{e e':Env}{H H':d9},F9 P C ops i q l e H=some (e',H')→Le H H':=by
 intro l;induction l with
 |nil=>
  intro i q e e' H H' h;simp only[F9]at h;split at h
  ·cases h;exact Le.refl _
  ·cases h
 |cons o l ih=>
  intro i q e e' H H' h;simp only[F9]at h;split at h
  ·cases h
  split at h
  ·split at h
   ·exact ih h
   ·rename_i v H2 hop;split at h
    ·refine Le.trans ?_ (Z9 hC h);cases hc:isCall o.op with
     |false=>exact jr hc hop
     |true=>
      obtain⟨c,f,g,first,captured,_,_,_,hcall⟩:=U7 hc hop;exact(hC _ _ _ _ _ hcall).2.1 _ rfl
    ·cases h
   ·cases h
  ·exact ih h
theorem ti{C:A5}(hm:P.follows .mixedOrders=true)(hC:aB P base w0 C){ops:Array Oper}(hops:dG nt ops=true){Q:Exit→Act→World→Prop}{e e':Env}{H H':d9}(id:Nat)
  (h:F9 P C ops 0 false ops.toList e H=some (e',H')) (hE:ER φ nt e a) (hW:WR base w0 φ H.bs w) (hp:fk base w0 φ H w nt a.defers e' H' (Q .normal)):(Code.region id ops true).wp P Q a w:=by
 have hdr:Cls base w0 φ H.bs w {w with drawn:=w.drawn+1}:=hW.cls.drew;rcases tm hC hops hW (fun o ho=>ho) h with⟨hB,rfl,hq⟩|⟨m,e1,_,hB,hr,hpu,hst⟩
 ·refine wp_region_quiet (C:=Cls base w0 φ H'.bs w) hm hB hdr (hq a hE _ fun a' hE' hd w' hc=>?_);exact hp φ a' w' (Ext.refl φ) hE' hc.wr (fun b B l _ hB' hd' hl=>hc.same b B l hB' hd' hl) hd
 ·have hl:ops=ops.toList.toArray:=by simp
  rw[Nat.zero_add,vS,Bool.or_eq_true]at hB;rcases hB with hB|hB
  ·have:=wp_region_still_tail (P:=P) (id:=id) (Q:=Q) (a:=a) (w:=w) (l:=ops.toList) m hm (by rw[←hl];exact hB) (by
    rw[←hl];refine hst _ hdr a hE _ fun a1 hE1 hd1=>?_;refine T4 hC hops (fun o ho=>List.mem_of_mem_drop ho) hr hE1 hdr.wr ?_;intro φ2 a2 w2 hx2 hE2 hW2 hfr2 hd2;exact hp φ2 a2 w2 hx2 hE2 hW2 (fun b B l hb hB' hd' hl=>(hfr2 b B l hb hB' hd' hl).trans (hdr.same b B l hB' hd' hl)) (hd2.trans hd1))
   rw[←hl]at this;exact this
  ·have hall:∀o∈ops.toList.take m,o.guard=none∧lI o.op=true:=by
    have:=hB;simp only[pureTailB,Bool.and_eq_true,List.all_eq_true]at this;intro o ho;have:=this.1.2 o ho;exact⟨by simpa using this.1,this.2⟩
   have:=mi (P:=P) (id:=id) (Q:=fun x a w=>x= .normal∧Q .normal a w) (a:=a) (w:=w) (l:=ops.toList) m hm (by rw[←hl];exact hB) (fun c a w q=>by cases q.1) (by
    rw[←hl];refine hpu a hE hall _ fun a1 hE1 hd1=>?_;refine T4 hC hops (fun o ho=>List.mem_of_mem_drop ho) hr hE1 hdr.wr ?_;intro φ2 a2 w2 hx2 hE2 hW2 hfr2 hd2;exact⟨rfl,hp φ2 a2 w2 hx2 hE2 hW2 (fun b B l hb hB' hd' hl=>(hfr2 b B l hb hB' hd' hl).trans (hdr.same b B l hB' hd' hl)) (hd2.trans hd1)⟩)
   rw[←hl]at this;exact Code.wp_mono (fun x a w q=>by obtain⟨rfl,q⟩:=q;exact q) this
theorem MX{C:A5}(hC:aB P base w0 C){o:Oper}{H:d9}{v:Value}{r:Option d9}(h:aop P C o.op e H=some (v,r)):Le H (r.getD H):=by
 cases r with
 |none=>exact Le.refl _
 |some H2=>
  cases hc:isCall o.op with
  |false=>exact jr hc h
  |true=>
   obtain⟨c,f,g,first,captured,_,_,_,hcall⟩:=U7 hc h;exact(hC _ _ _ _ _ hcall).2.1 _ rfl
theorem yz{C:A5}(hC:aB P base w0 C){ops:Array Oper}:∀{l:List (Oper×Nat×Nat)}{t:Nat}{Ks:List (Nat×d9)}{obs:List (Op×Env×Value×Nat)}{e e':Env}{H H':d9},I0 P C ops t Ks obs l e H=some (e',H')→Le H H':=by
 intro l;induction l with
 |nil=>intro t Ks obs e e' H H' h;simp only[I0,Option.some.injEq,Prod.mk.injEq]at h;rw[h.2];exact Le.refl _
 |cons o l ih=>
  obtain⟨o,lo,hi⟩:=o;intro t Ks obs e e' H H' h;simp only[I0]at h;split at h
  ·cases h
  split at h
  ·split at h
   ·split at h
    ·rename_i v r hop;split at h
     ·exact(MX hC hop).trans (ih h)
     ·cases h
    ·cases h
   ·split at h
    ·split at h
     ·split at h
      ·exact ih h
      ·cases h
     ·exact ih h
    ·cases h
  ·split at h
   ·exact ih h
   ·exact ih h
theorem zW{C:A5}(hC:aB P base w0 C){ops:Array Oper}{e e':Env}{H H':d9}(h:Z2 P C ops e H=some (e',H')):Le H H':=by
 unfold Z2 at h;split at h
 ·split at h
  ·exact yz hC h
  ·cases h
 ·exact Dc hC h
theorem qq{C:A5}(hm:P.follows .mixedOrders=true)(hC:U3 P C){ops:Array Oper}(hops:dG nt ops=true){Q:Exit→Act→World→Prop}{e e':Env}{H H':d9}(id:Nat)
  (h:Z2 P C ops e H=some (e',H')) (hE:ER φ nt e a) (hW:WR base w0 φ H.bs w) (hp:fk base w0 φ H w nt a.defers e' H' (Q .normal)):(Code.region id ops true).wp P Q a w:=by
 unfold Z2 at h;split at h
 ·split at h
  ·rename_i hok;exact xN hm hC hops hok id h hE hW hp
  ·cases h
 ·exact ti hm (hC base w0) hops id h hE hW hp
theorem Le.kill(H:d9)(b:Nat):Le H (H.put b .dead):=Le.put _ _ _
def zF(ops:Array Oper):List Nat→Array Bool→Prop
 |[],listed=>Region.ready .any ops listed=[]
 |i::is,listed=>Region.ready .any ops listed=[i]∧zF ops is (listed.setIfInBounds i true)
theorem fU{ops:Array Oper}{Q:Exit→Act→World→Prop}:∀(is:List Nat)(i:Nat)(o:Oper)(os:List Oper)(listed:Array Bool)(a:Act)(w:World),ops[i]?=some o→is.map (ops[·]?)=os.map some→zF ops is listed→wpList P ops Q (o::os) a w→wpOp P ops Q i (wpAny P .any ops Q is.length listed) a w
 |is,i,o,os,listed,a,w,ho,hos,hc,h=>by
  have key:∀a w,wpList P ops Q os a w→wpAny P .any ops Q is.length listed a w:=fun a w hl=>by
   cases is with
   |nil=>
    cases os with
    |nil=>exact⟨hc,hl⟩
    |cons o' os=>simp at hos
   |cons j is=>
    cases os with
    |nil=>simp at hos
    |cons o' os=>
     simp only[List.map_cons,List.cons.injEq]at hos;refine⟨fun q=>(by rw[hc.1]at q;cases q),fun k hk=>?_⟩;rw[hc.1,List.mem_singleton]at hk;subst hk;exact fU is k o' os _ a w hos.1 hos.2 hc.2 hl
  unfold wpOp;simp only[ho];unfold wpList at h;split
  ·rename_i hw;rw[if_pos hw]at h;exact h.imp (Oper.wp_mono key) id
  ·rename_i hw;rw[if_neg hw]at h;exact key _ _ h
theorem I5{ops:Array Oper}{l:List Bool}{rs:List Nat}(h:dp ops l rs=true):Region.ready .any ops l.toArray=rs:=dT h
theorem sT{C:A5}(hm:P.follows .mixedOrders=true)(hC:aB P base w0 C){o0 o1 o2 o3:Oper}{ops:Array Oper}(hl:ops.toList=[o0,o1,o2,o3])(hB:vo ops=true)(hops:dG nt ops=true){Q:Exit→Act→World→Prop}{e e1 e2:Env}{H H1 H2:d9}(id:Nat)
  (h1:C6 P C ops [o0,o1,o2,o3] e H=some (e1,H1)) (h2:C6 P C ops [o0,o2,o1,o3] e H=some (e2,H2)) (hE:ER φ nt e a) (hW:WR base w0 φ H.bs w)
  (hp1:fk base w0 φ H w nt a.defers e1 H1 (Q .normal)) (hp2:fk base w0 φ H w nt a.defers e2 H2 (Q .normal)):(Code.region id ops true).wp P Q a w:=by
 have hsz:ops.size=4:=by have:=congrArg List.length hl;simpa using this
 have g0:ops[0]?=some o0:=by rw[←Array.getElem?_toList,hl];rfl
 have g1:ops[1]?=some o1:=by rw[←Array.getElem?_toList,hl];rfl
 have g2:ops[2]?=some o2:=by rw[←Array.getElem?_toList,hl];rfl
 have g3:ops[3]?=some o3:=by rw[←Array.getElem?_toList,hl];rfl
 unfold vo at hB;rw[hl]at hB;simp only[Bool.and_eq_true,decide_eq_true_eq]at hB;obtain⟨⟨⟨⟨⟨⟨⟨⟨⟨⟨k0,k1⟩,k2⟩,k3⟩,hg⟩,r0⟩,r1⟩,r2⟩,r3⟩,r4⟩,r5⟩:=hB;have m0:o0∈ops.toList:=by rw[hl];simp
 obtain⟨hok,hdst⟩:=X3 hops m0;have hc:isCall o0.op=false:=by
  cases hq:o0.op with
  |alloc t=>rfl
  |_=>rw[hq]at k0;cases k0
 have hdr:Cls base w0 φ H.bs w {w with drawn:=w.drawn+1}:=hW.cls.drew;have nol:U0 ops e o0=false:=by simp [U0,hg]
 have wan:D6 ops e o0=true:=by simp [D6,hg]
 refine wp_region_any hm ?_;rw[hsz];refine⟨fun q=>?_,fun i hi=>?_⟩
 ·have:=I5 r0;rw[show(Array.replicate 4 false:Array Bool)=[false,false,false,false].toArray from rfl,this]at q;cases q
 rw[show(Array.replicate 4 false:Array Bool)=[false,false,false,false].toArray from rfl,I5 r0,List.mem_singleton]at hi;subst hi;rw[show((Array.replicate 4 false:Array Bool).setIfInBounds 0 true)=[true,false,false,false].toArray from rfl];simp only[C6,nol,wan,if_true,Bool.false_eq_true,if_false]at h1 h2;have rest:∀(v:Value)(Hx:d9)(v':Value)(w':World)(φ':List Loc),Le H Hx→C6 P C ops [o1,o2,o3] (P7 e o0.dst v) Hx=some (e1,H1)→C6 P C ops [o2,o1,o3] (P7 e o0.dst v) Hx=some (e2,H2)→Ext φ φ'→VR φ' v v'→WR base w0 φ' Hx.bs w'→Fr φ H.bs Hx.low w w'→
   wpAny P .any ops Q 3 [true,false,false,false].toArray (a.put o0.dst v') w':=by
  intro v Hx v' w' φ' hle q1 q2 hx hv hW' hfr;have hE':=(hE.mono hx).put hdst hv;have hd':(a.put o0.dst v').defers=a.defers:=N1 _ _ _;have post:∀{e3:Env}{H3:d9}{l:List Oper},C6 P C ops l (P7 e o0.dst v) Hx=some (e3,H3)→fk base w0 φ H w nt a.defers e3 H3 (Q .normal)→fk base w0 φ' Hx w' nt (a.put o0.dst v').defers e3 H3 (Q .normal):=by
   intro e3 H3 l hr hp φ2 a2 w2 hx2 hE2 hW2 hfr2 hd2;exact hp φ2 a2 w2 (hx.trans hx2) hE2 hW2 (Fr.trans hx hle (Z9 hC hr) hW.len hfr hfr2) (hd2.trans hd')
  have L1:=T4 hC hops (Q:=Q) (l:=[o1,o2,o3]) (fun o ho=>by rw[hl];simp only[List.mem_cons,List.not_mem_nil,or_false]at ho ⊢;exact .inr ho) q1 hE' hW' (post q1 hp1);have L2:=T4 hC hops (Q:=Q) (l:=[o2,o1,o3]) (fun o ho=>by rw[hl];simp only[List.mem_cons,List.not_mem_nil,or_false]at ho ⊢;rcases ho with h|h|h<;>simp [h]) q2 hE' hW' (post q2 hp2);refine⟨fun q=>(by rw[I5 r1]at q;cases q),fun i hi=>?_⟩;rw[I5 r1]at hi;simp only[List.mem_cons,List.not_mem_nil,or_false]at hi;rcases hi with rfl|rfl
  ·exact fU [2,3] 1 o1 [o2,o3] _ _ _ g1 (by simp [g2,g3]) ⟨I5 r2,I5 r4,I5 r5⟩ L1
  ·exact fU [1,3] 2 o2 [o1,o3] _ _ _ g2 (by simp [g1,g3]) ⟨I5 r3,I5 r4,I5 r5⟩ L2
 have wan':Region.wanted o0 (yielded ops a.tmps)=true:=by rw[←hE.wanted ops o0 (T1 hops) nol];exact wan
 unfold wpOp;simp only[g0,wan',if_true]
 left
 have hWd:=hdr.wr;cases hop:aop P C o0.op e H with
 |none=>rw[hop]at h1;cases h1
 |some z=>
  obtain⟨v,r⟩:=z;rw[hop]at h1 h2;cases r with
  |none=>
   obtain⟨v',hv,hrun⟩:=eZ hWd hE hok hc hop;unfold Oper.wp;rw[hrun _ hWd.cls,Oper.upon_value];exact rest v H v' _ φ (Le.refl H) h1 h2 (Ext.refl φ) hv hWd (fun b B l _ hB hd hl=>hdr.same b B l hB hd hl)
  |some H3=>
   obtain⟨v',w',φ',hrun,hx,hv,hW',hfr⟩:=pz hWd hE hok hc hop;have hfr':Fr φ H.bs H3.low w w':=fun b B l hb hB hd hl=>(hfr b B l hb hB hd hl).trans (hdr.same b B l hB hd hl);unfold Oper.wp;rcases hrun with hrun|⟨hrun,rfl⟩
   ·rw[hrun,Oper.upon_value];exact rest v H3 v' w' φ' (jr hc hop) h1 h2 hx hv hW' hfr'
   ·rw[hrun,Oper.upon_skip];exact rest v H3 undef w' φ' (jr hc hop) h1 h2 hx hv hW' hfr'
def Out.exit':Out→Exit
 | .normal=> .normal
 | .exit id=> .exit id
 | .ret=> .ret
theorem jd{a b:Code}{z:GR}(h:dW a b=some z):∃id ops o0 o1 o2 o3,a= .region id ops true∧ops.toList=[o0,o1,o2,o3]∧vo ops=true∧z=⟨ops,[o0,o1,o2,o3],[o0,o2,o1,o3],ops.toList.filterMap (·.dst)++bD b⟩:=by
 unfold dW at h;split at h
 ·rename_i id ops;split at h
  ·rename_i o0 o1 o2 o3 hl;split at h
   ·rename_i hB;exact⟨id,ops,o0,o1,o2,o3,rfl,hl,hB,(Option.some.inj h).symm⟩
   ·cases h
  ·cases h
 ·cases h
theorem CY{a b:Code}{z:GR}(h:dW a b=some z):z.ds=bD a++bD b:=by
 obtain⟨id,ops,o0,o1,o2,o3,rfl,_,_,rfl⟩:=jd h;rfl
theorem S3{ds:List Nat}{n:Nat}{x y:Option (Out×Env×d9)}{o:Out}{e':Env}{H':d9}(h:kQ ds e n x y=some (o,e',H')):
  ∃e1 H1 e2 H2,x=some (.normal,e1,H1)∧y=some (.normal,e2,H2)∧L9 n H1=L9 n H2∧o= .normal∧e'=ds.map (fun d=>(d,lost))++e∧H'=L9 n H1:=by
 unfold kQ at h;split at h
 ·rename_i e1 H1 e2 H2;split at h
  ·rename_i hk;simp only[Option.some.injEq,Prod.mk.injEq]at h;exact⟨e1,H1,e2,H2,rfl,rfl,hk,h.1.symm,h.2.1.symm,h.2.2.symm⟩
  ·cases h
 ·cases h
theorem gH(n:Nat)(H:d9):Le H (L9 n H):=(Le.kill H n).trans (Le.kill _ _)
theorem Cu{H:d9}(h:WR base w0 φ H.bs w)(n:Nat):WR base w0 φ (L9 n H).bs w:=(h.kill n).kill (n+1)
theorem R6{e:Env}{d:Option Nat}{v:Value}{t:Nat}(h:d≠some t):(P7 e d v).get t=e.get t:=by
 cases d with
 |none=>rfl
 |some d=>simp only[P7,Env.get];rw[if_neg (fun q=>h (by rw[q]))]
theorem fS{C:A5}{ops:Array Oper}{t:Nat}:∀{l:List Oper}{e e':Env}{H H':d9},(∀o∈l,o.dst≠some t)→C6 P C ops l e H=some (e',H')→e'.get t=e.get t:=by
 intro l;induction l with
 |nil=>intro e e' H H' _ h;cases h;rfl
 |cons o l ih=>
  intro e e' H H' hd h;have h0:=hd o (by simp);have hd':∀o∈l,o.dst≠some t:=fun o ho=>hd o (by simp [ho]);simp only[C6]at h;split at h
  ·cases h
  split at h
  ·split at h
   ·rw[ih hd' h,R6 h0]
   ·rw[ih hd' h,R6 h0]
   ·cases h
  ·rw[ih hd' h,R6 h0]
theorem rJ{C:A5}{ops:Array Oper}{t:Nat}:∀{l:List Oper}{i:Nat}{q:Bool}{e e':Env}{H H':d9},(∀o∈l,o.dst≠some t)→F9 P C ops i q l e H=some (e',H')→e'.get t=e.get t:=by
 intro l;induction l with
 |nil=>
  intro i q e e' H H' _ h;simp only[F9]at h;split at h
  ·cases h;rfl
  ·cases h
 |cons o l ih=>
  intro i q e e' H H' hd h;have h0:=hd o (by simp);have hd':∀o∈l,o.dst≠some t:=fun o ho=>hd o (by simp [ho]);simp only[F9]at h;split at h
  ·cases h
  split at h
  ·split at h
   ·rw[ih hd' h,R6 h0]
   ·split at h
    ·rw[fS hd' h,R6 h0]
    ·cases h
   ·cases h
  ·rw[ih hd' h,R6 h0]
theorem uD{C:A5}{ops:Array Oper}{t:Nat}:∀{l:List (Oper×Nat×Nat)}{i:Nat}{Ks:List (Nat×d9)}{obs:List (Op×Env×Value×Nat)}{e e':Env}{H H':d9},(∀o∈l,o.1.dst≠some t)→I0 P C ops i Ks obs l e H=some (e',H')→e'.get t=e.get t:=by
 intro l;induction l with
 |nil=>intro i Ks obs e e' H H' _ h;simp only[I0,Option.some.injEq,Prod.mk.injEq]at h;rw[h.1]
 |cons o l ih=>
  obtain⟨o,lo,hi⟩:=o;intro i Ks obs e e' H H' hd h;have h0:o.dst≠some t:=hd (o,lo,hi) (by simp);have hd':∀o∈l,o.1.dst≠some t:=fun o ho=>hd o (by simp [ho]);simp only[I0]at h;split at h
  ·cases h
  split at h
  ·split at h
   ·split at h
    ·split at h
     ·rw[ih hd' h,R6 h0]
     ·cases h
    ·cases h
   ·split at h
    ·split at h
     ·split at h
      ·rw[ih hd' h,R6 h0]
      ·cases h
     ·rw[ih hd' h,R6 h0]
    ·cases h
  ·split at h
   ·rw[ih hd' h,R6 h0]
   ·rw[ih hd' h,R6 h0]
theorem xf{C:A5}{ops:Array Oper}{t:Nat}{e e':Env}{H H':d9}(hd:∀o∈ops.toList,o.dst≠some t) (h:Z2 P C ops e H=some (e',H')):e'.get t=e.get t:=by
 unfold Z2 at h;split at h
 ·split at h
  ·refine uD (fun o ho=>?_) h;obtain⟨q,hq,rfl⟩:=List.mem_map.1 ho;exact hd q.1 (List.fst_mem_of_mem_zipIdx hq)
  ·cases h
 ·exact rJ hd h
theorem ku{α:Type}(v:Value):∀(ds:List Nat)(e:Env)(t:Nat),Env.get (ds.map (fun d=>(d,v))++e) t=if t∈ds then v else e.get t
 |[],e,t=>by simp
 |d::ds,e,t=>by
  simp only[List.map_cons,List.cons_append,Env.get,ku (α:=α) v ds e t,List.mem_cons];by_cases h:d=t
  ·subst h;simp
  ·rw[if_neg h];have:¬t=d:=fun q=>h q.symm;simp [this]
theorem Ac{C:A5}{t:Nat}:∀{k:Nat}{c:Code}{e e':Env}{H H':d9}{o:Out},t∉bD c→I7 P C k c e H=some (o,e',H')→e'.get t=e.get t:=by
 intro k;induction k with
 |zero=>intro c e e' H H' o _ h;cases h
 |succ k ih=>
  intro c e e' H H' o hd h;cases c<;>simp only[I7]at h
  case skip=>cases h;rfl
  case ret=>cases h;rfl
  case exit=>cases h;rfl
  case region id ops draw=>
   have hd':∀o∈ops.toList,o.dst≠some t:=fun o ho q=>hd (List.mem_filterMap.2 ⟨o,ho,q⟩);cases draw
   ·simp only[Bool.false_eq_true,if_false]at h;split at h
    ·rename_i hr;cases h;exact fS hd' hr
    ·cases h
   ·simp only[if_true]at h;split at h
    ·rename_i hr;cases h;exact xf hd' hr
    ·cases h
  case seq x y=>
   simp only[bD,List.mem_append,not_or]at hd;split at h
   ·rename_i z hz;split at h
    ·obtain⟨e3,H3,e4,H4,q1,q2,q3,rfl,rfl,rfl⟩:=S3 h;rw[ku (α:=Nat),if_neg];rw[CY hz];exact fun q=>(List.mem_append.1 q).elim hd.1 hd.2
    ·cases h
   ·split at h
    ·rename_i e2 H2 h1;rw[ih hd.2 h,ih hd.1 h1]
    ·exact ih hd.1 h
  case cond x y z=>
   simp only[bD,List.mem_append,not_or]at hd;split at h
   ·rename_i b _;cases b
    ·exact ih hd.2 h
    ·exact ih hd.1 h
   ·cases h
  case block id x=>
   simp only[bD]at hd;split at h
   ·rename_i i e2 H2 h1;split at h<;>(cases h;exact ih hd h1)
   ·exact ih hd h
  case loop x=>
   have hd':t∉bD x:=hd;split at h
   ·rename_i e2 H2 h1;rw[ih (c:= .loop x) hd h,ih hd' h1]
   ·exact ih hd' h
  case scope x=>exact ih (c:=x) hd h
  all_goals cases h
theorem M7{C:A5}(hC:aB P base w0 C):∀{k:Nat}{c:Code}{e e':Env}{H H':d9}{o:Out},I7 P C k c e H=some (o,e',H')→Le H H':=by
 intro k;induction k with
 |zero=>intro c e e' H H' o h;cases h
 |succ k ih=>
  intro c e e' H H' o h;cases c<;>simp only[I7]at h
  case skip=>cases h;exact Le.refl _
  case ret=>cases h;exact Le.refl _
  case exit=>cases h;exact Le.refl _
  case region id ops draw=>
   cases draw
   ·simp only[Bool.false_eq_true,if_false]at h;split at h
    ·rename_i hr;cases h;exact Z9 hC hr
    ·cases h
   ·simp only[if_true]at h;split at h
    ·rename_i hr;cases h;exact zW hC hr
    ·cases h
  case seq x y=>
   split at h
   ·split at h
    ·rename_i z hz _ e1 H1 e2 H2 hr1 hr2;obtain⟨e3,H3,e4,H4,q1,q2,q3,rfl,rfl,rfl⟩:=S3 h;exact(Z9 hC hr1).trans ((ih q1).trans (gH _ _))
    ·cases h
   ·split at h
    ·rename_i e2 H2 h1;exact(ih h1).trans (ih h)
    ·exact ih h
  case cond x y z=>
   split at h
   ·exact ih h
   ·cases h
  case block id x=>
   split at h
   ·rename_i i e2 H2 h1;split at h<;>(cases h;exact ih h1)
   ·exact ih h
  case loop x=>
   split at h
   ·rename_i e2 H2 h1;exact(ih h1).trans (ih h)
   ·exact ih h
  case scope x=>exact ih h
  all_goals cases h
def oy(r:Option Nat):Fence:={Fence.wide with round:=r}
theorem vM{o:Oper}{l n:Nat}{K:Act→World→Prop}{Q:Exit→Act→World→Prop}{a:Act}{w:World}(hd:gR o.op=true)(h:o.wp P a w K Q):o.wpIn (oy (some l)) n P a w K Q:=by
 refine⟨fun _ _=>trivial,?_⟩;rw[Oper.semAt_plain _ _ _ (fun c hc=>by rw[hc]at hd;cases hd)];unfold Oper.wp at h;generalize (execOp a.eval o).run P w=r at h;cases r with
 |ok x w'=>
  cases x<;>simp only[Oper.upon,Oper.uponIn]at h ⊢ <;>first|exact h|skip
  ·exact⟨fun q=>(by cases q),(CallsIn.inRound l (callsIn_wide.2 h)).mono fun e w2 he=>by cases e<;>exact he⟩
  ·refine⟨fun q=>(by cases q),fun c cs _=>?_⟩;obtain⟨v,w2,h1,h2⟩:=h c cs;exact⟨v,w2,h1,stepsIn_wide.2 h2⟩
 |halt x w'=>cases x<;>simp only[Oper.upon,Oper.uponIn]at h ⊢ <;>exact h
theorem iW{ops:Array Oper}{l n:Nat}{Q:Exit→Act→World→Prop}(hl:¬LetsOut Q):∀{os:List Oper}{a:Act}{w:World},(∀o∈os,gR o.op=true)→wpList P ops Q os a w→wpListIn (oy (some l)) n P ops Q os a w
 |[],a,w,_,h=>h
 |o::os,a,w,hd,h=>by
  unfold wpList at h;unfold wpListIn;have hd':∀o∈os,gR o.op=true:=fun o ho=>hd o (by simp [ho]);split
  ·rename_i hw;rw[if_pos hw]at h;rcases h with h|h
   ·exact Oper.wpIn_mono (fun a w q=>iW hl hd' q) (vM (hd o (by simp)) h)
   ·exact absurd h.2 hl
  ·rename_i hw;rw[if_neg hw]at h;exact⟨fun _ _=>trivial,iW hl hd' h⟩
theorem io{ops:Array Oper}{l n:Nat}{Q:Exit→Act→World→Prop}(hl:¬LetsOut Q)(hd:∀o∈ops.toList,gR o.op=true):∀(fuel:Nat)(listed:Array Bool)(a:Act)(w:World),wpAny P .any ops Q fuel listed a w→wpAnyIn (oy (some l)) n P .any ops Q fuel listed a w
 |0,_,_,_,h=>h
 |fuel+1,listed,a,w,h=>by
  refine⟨h.1,fun i hi=>?_⟩;have:=h.2 i hi;unfold wpOp at this;unfold wpOpIn;cases ho:ops[i]? with
  |none=>rw[ho]at this;exact io hl hd fuel _ _ _ this
  |some o=>
   rw[ho]at this;simp only at this ⊢;split
   ·rename_i hw;rw[if_pos hw]at this;rcases this with h|h
    ·exact Oper.wpIn_mono (fun a w q=>io hl hd fuel _ _ _ q) (vM (hd o (Array.mem_toList_iff.2 (Array.mem_of_getElem? ho))) h)
    ·exact absurd h.2 hl
   ·rename_i hw;rw[if_neg hw]at this;exact⟨fun _ _=>trivial,io hl hd fuel _ _ _ this⟩
theorem jh{C:A5}(hm:P.follows .mixedOrders=true)(hC:U3 P C){r:Option Nat}{n:Nat}:∀{k:Nat}{c:Code}{φ:List Loc}{e e':Env}{H H':d9}{o:Out}{a:Act}{w:World}{Q:Exit→Act→World→Prop},
  (r.isSome=true→E5 c=true)→F8 nt c=true→I7 P C k c e H=some (o,e',H')→ER φ nt e a→WR base w0 φ H.bs w→fk base w0 φ H w nt a.defers e' H' (Q o.exit')→c.wpIn (oy r) n P Q a w∧∀x,c= .loop x→Code.roundsIn (oy r) n P x Q k a w:=by
 intro k;induction k with
 |zero=>intro c φ e e' H H' o a w Q hrd hok h;cases h
 |succ k ih0=>
  intro c φ e e' H H' o a w Q hrd hok h hE hW hp;have ih:=fun{c φ e e' H H' o a w Q}(h0:r.isSome=true→E5 c=true)(h1:F8 nt c=true) h2(h3:ER φ nt e a)(h4:WR base w0 φ H.bs w) h5=>(ih0 (c:=c) (e:=e) (e':=e') (H:=H) (H':=H') (o:=o) (Q:=Q) h0 h1 h2 h3 h4 h5).1;by_cases hloop:∃x,c= .loop x
  ·obtain⟨x,rfl⟩:=hloop;have hok':=hok;simp only[F8]at hok;simp only[I7]at h;have hrd':r.isSome=true→E5 x=true:=hrd;have hrounds:Code.roundsIn (oy r) n P x Q (k+1) a w:=by
    rw[roundsIn_succ];split at h
    ·rename_i e2 H2 h1;refine ih hrd' hok h1 hE hW ?_;intro φ' a' w' hx hE' hW' hfr hd;refine(ih0 (c:= .loop x) (Q:=Q) hrd hok' h hE' hW' ?_).2 x rfl;intro φ2 a2 w2 hx2 hE2 hW2 hfr2 hd2;exact hp φ2 a2 w2 (hx.trans hx2) hE2 hW2 (Fr.trans hx (M7 (hC base w0) h1) (M7 (hC base w0) h) hW.len hfr hfr2) (hd2.trans hd)
    ·rename_i hno;refine ih hrd' hok h hE hW ?_;intro φ' a' w' hx hE' hW' hfr hd;have:=hp φ' a' w' hx hE' hW' hfr hd;cases o with
     |normal=>exact absurd h (hno e' H')
     |exit id=>exact this
     |ret=>exact this
   exact⟨wpIn_loop_rounds (k+1) hrounds,fun y hy=>by cases hy;exact hrounds⟩
  refine⟨?_,fun x hx=>absurd ⟨x,hx⟩ hloop⟩;have stay:∀{o:Out}{e:Env},fk base w0 φ H w nt a.defers e H (Q o.exit')→ER φ nt e a→Q o.exit' a w:=fun hp hE=>hp φ a w (Ext.refl φ) hE hW (gC H) rfl;have follow:∀{H2:d9}{φ':List Loc}{a':Act}{w':World}{K:Act→World→Prop},Le H H2→Le H2 H'→Ext φ φ'→Fr φ H.bs H2.low w w'→a'.defers=a.defers→fk base w0 φ H w nt a.defers e' H' K→fk base w0 φ' H2 w' nt a'.defers e' H' K:=by
   intro H2 φ' a' w' K hl1 hl2 hx hfr hd hp φ2 a2 w2 hx2 hE2 hW2 hfr2 hd2;exact hp φ2 a2 w2 (hx.trans hx2) hE2 hW2 (Fr.trans hx hl1 hl2 hW.len hfr hfr2) (hd2.trans hd)
  cases c<;>simp only[I7]at h
  case skip=>cases h;exact wpIn_skip (stay (o:= .normal) hp hE)
  case ret=>cases h;exact wpIn_ret (stay (o:= .ret) hp hE)
  case exit id=>cases h;exact wpIn_exit (stay (o:= .exit id) hp hE)
  case region id ops draw=>
   simp only[F8]at hok;cases r with
   |none=>
    refine wpIn_wide.2 ?_;cases draw
    ·simp only[Bool.false_eq_true,if_false]at h;split at h
     ·rename_i hr;cases h;exact wp_region_list (T4 (hC base w0) hok (fun o ho=>ho) hr hE hW hp)
     ·cases h
    ·simp only[if_true]at h;split at h
     ·rename_i hr;cases h;exact qq hm hC hok id hr hE hW hp
     ·cases h
   |some l=>
    have hro:=hrd rfl;simp only[E5,Bool.and_eq_true,List.all_eq_true]at hro;refine Code.wpIn_mono (Q:=fun x a w=>x= .normal∧Q .normal a w) (fun x a w q=>by obtain⟨rfl,q⟩:=q;exact q) ?_;have hlo:¬LetsOut (fun x(a:Act) w=>x=Exit.normal∧Q .normal a w):=fun⟨_,_,q⟩=>by cases q.1
    cases draw
    ·simp only[Bool.false_eq_true,if_false]at h;split at h
     ·rename_i hr;cases h;exact wpIn_region_list (iW hlo hro.1 (T4 (hC base w0) hok (fun o ho=>ho) hr hE hW fun φ2 a2 w2 hx2 hE2 hW2 hfr2 hd2=>⟨rfl,hp φ2 a2 w2 hx2 hE2 hW2 hfr2 hd2⟩))
     ·cases h
    ·simp only[if_true]at h;have hro2:=hro.2;simp only[Bool.not_true,Bool.false_or,Bool.and_eq_true]at hro2;split at h
     ·rename_i hr;cases h;unfold Z2 at hr;rw[if_pos hro2.1,if_pos hro2.2]at hr;exact wpIn_region_any hm (io hlo hro.1 _ _ _ _ (vH hC hok hro2.2 hr hE hW fun φ2 a2 w2 hx2 hE2 hW2 hfr2 hd2=>⟨rfl,hp φ2 a2 w2 hx2 hE2 hW2 hfr2 hd2⟩))
     ·cases h
  case seq x y=>
   simp only[F8,Bool.and_eq_true]at hok;split at h
   ·rename_i z hz;have hrn:r=none:=by
     cases r with
     |none=>rfl
     |some l=>
      have:=hrd rfl;simp only[E5,hz,Option.isNone_some,Bool.false_and]at this;cases this
    subst hrn;refine wpIn_wide.2 (wp_seq ?_);obtain⟨id,ops,o0,o1,o2,o3,rfl,hl,hB,rfl⟩:=jd hz;split at h
    ·rename_i e1 H1 e2 H2 hr1 hr2;obtain⟨e3,H3,e4,H4,q1,q2,q3,rfl,rfl,rfl⟩:=S3 h;have l1:=Z9 (hC base w0) hr1;have l2:=Z9 (hC base w0) hr2;have fin:∀{e5 e6:Env}{H5 H6:d9}{l:List Oper},(∀o∈l,o∈ops.toList)→Le H H5→Le H5 (L9 H.next H3)→(∀t,t∉ops.toList.filterMap (·.dst)→e5.get t=e.get t)→I7 P C k y e5 H5=some (.normal,e6,H6)→L9 H.next H3=L9 H.next H6→fk base w0 φ H w nt a.defers e5 H5 (fun a' w'=>y.wp P Q a' w'):=by
      intro e5 e6 H5 H6 l hlm hle hle2 hget hx hk φ' a' w' hx1 hE' hW' hfr hd;refine wpIn_wide.1 (ih (fun h=>by cases h) hok.2 hx hE' hW' ?_);intro φ2 a2 w2 hx2 hE2 hW2 hfr2 hd2;refine hp φ2 a2 w2 (hx1.trans hx2) ⟨hE2.size,fun t=>?_⟩ (by rw[hk];exact Cu hW2 _) ?_ (hd2.trans hd)
      ·rw[ku (α:=Nat)];by_cases ht:t∈ops.toList.filterMap (·.dst)++bD y
       ·rw[if_pos ht];exact .lost _
       ·rw[if_neg ht];simp only[List.mem_append,not_or]at ht;rw[←hget t ht.1,←Ac ht.2 hx];exact hE2.val t
      ·rw[hk];have hfr6:Fr φ' H5.bs (L9 H.next H6).low w' w2:=fun b B l hb hB' hd' hl'=>hfr2 b B l (Nat.lt_of_lt_of_le hb (gH H.next H6).low) hB' hd' hl';exact Fr.trans hx1 hle (by rw[←hk];exact hle2) hW.len hfr hfr6
     have hd1:∀{l:List Oper}{e5:Env}{H5:d9},(∀o∈l,o∈ops.toList)→C6 P C ops l e H=some (e5,H5)→∀t,t∉ops.toList.filterMap (·.dst)→e5.get t=e.get t:=fun hlm hr t ht=>fS (fun o ho q=>ht (List.mem_filterMap.2 ⟨o,hlm o ho,q⟩)) hr;have m1:∀o∈ [o0,o1,o2,o3],o∈ops.toList:=fun o ho=>by rw[hl];exact ho
     have m2:∀o∈ [o0,o2,o1,o3],o∈ops.toList:=fun o ho=>by rw[hl];simp only[List.mem_cons,List.not_mem_nil,or_false]at ho ⊢;rcases ho with h|h|h|h<;>simp [h]
     have hok1:dG nt ops=true:=hok.1;refine sT hm (hC base w0) hl hB hok1 id hr1 hr2 hE hW (fin m1 l1 ((M7 (hC base w0) q1).trans (gH _ _)) (hd1 m1 hr1) q1 rfl) (fin m2 l2 (by rw[q3];exact(M7 (hC base w0) q2).trans (gH _ _)) (hd1 m2 hr2) q2 q3)
    ·cases h
   ·rename_i hz;have ro1:r.isSome=true→E5 x=true:=fun q=>by have:=hrd q;simp only[E5,Bool.and_eq_true]at this;exact this.1.2
    have ro2:r.isSome=true→E5 y=true:=fun q=>by have:=hrd q;simp only[E5,Bool.and_eq_true]at this;exact this.2
    refine wpIn_seq ?_;split at h
    ·rename_i e2 H2 h1;refine ih ro1 hok.1 h1 hE hW ?_;intro φ' a' w' hx hE' hW' hfr hd;exact ih ro2 hok.2 h hE' hW' (follow (M7 (hC base w0) h1) (M7 (hC base w0) h) hx hfr hd hp)
    ·rename_i hno;refine ih ro1 hok.1 h hE hW ?_;intro φ' a' w' hx hE' hW' hfr hd;have:=hp φ' a' w' hx hE' hW' hfr hd;cases o with
     |normal=>exact absurd h (hno e' H')
     |exit id=>exact this
     |ret=>exact this
  case cond x y z=>
   simp only[F8,Bool.and_eq_true]at hok;split at h
   ·rename_i t ht;have hv:=hE.op hok.1.1;rw[ht]at hv;generalize hz:a.eval x=zz at hv;cases hv;have ro:r.isSome=true→E5 y=true∧E5 z=true:=fun q=>by have:=hrd q;simpa only[E5,Bool.and_eq_true] using this
    refine wpIn_cond hz ?_;cases t
    ·exact ih (fun q=>(ro q).2) hok.2 h hE hW hp
    ·exact ih (fun q=>(ro q).1) hok.1.2 h hE hW hp
   ·cases h
  case block id x=>
   simp only[F8]at hok;have ro:r.isSome=true→E5 x=true:=hrd;refine wpIn_block ?_;split at h
   ·rename_i i e2 H2 h1;split at h
    ·rename_i hid;cases h;refine ih ro hok h1 hE hW ?_;intro φ' a' w' hx hE' hW' hfr hd;have:=hp φ' a' w' hx hE' hW' hfr hd;simp only[Out.exit',Exit.inBlock,if_pos hid];exact this
    ·rename_i hid;cases h;refine ih ro hok h1 hE hW ?_;intro φ' a' w' hx hE' hW' hfr hd;have:=hp φ' a' w' hx hE' hW' hfr hd;simp only[Out.exit',Exit.inBlock,if_neg hid];exact this
   ·rename_i hno;refine ih ro hok h hE hW ?_;intro φ' a' w' hx hE' hW' hfr hd;have:=hp φ' a' w' hx hE' hW' hfr hd;cases o with
    |exit id=>exact absurd h (hno id e' H')
    |normal=>exact this
    |ret=>exact this
  case loop x=>exact absurd ⟨x,rfl⟩ hloop
  case scope x=>
   simp only[F8]at hok;have hrn:r=none:=by
    cases r with
    |none=>rfl
    |some l=>have:=hrd rfl;simp only[E5]at this;cases this
   subst hrn;refine wpIn_wide.2 (wp_scope_straight (wpIn_wide.1 (ih (fun h=>by cases h) hok h hE hW ?_)));intro φ' a' w' hx hE' hW' hfr hd;have:=hp φ' a' w' hx hE' hW' hfr hd;cases o<;>exact this
  all_goals cases h
theorem cY{C:A5}(hm:P.follows .mixedOrders=true)(hC:U3 P C){k:Nat}{c:Code}{e e':Env}{H H':d9}{o:Out}{Q:Exit→Act→World→Prop}
  (hok:F8 nt c=true) (h:I7 P C k c e H=some (o,e',H')) (hE:ER φ nt e a) (hW:WR base w0 φ H.bs w) (hp:fk base w0 φ H w nt a.defers e' H' (Q o.exit')):c.wp P Q a w:=
 wpIn_wide.1 (jh (r:=none) (n:=0) hm hC (fun h=>by cases h) hok h hE hW hp).1
theorem fE{C:A5}(hm:P.follows .mixedOrders=true)(hC:U3 P C)(l n:Nat){k:Nat}{c:Code}{e e':Env}{H H':d9}{o:Out}{Q:Exit→Act→World→Prop}
  (hr:E5 c=true) (hok:F8 nt c=true) (h:I7 P C k c e H=some (o,e',H')) (hE:ER φ nt e a) (hW:WR base w0 φ H.bs w) (hp:fk base w0 φ H w nt a.defers e' H' (Q o.exit')):c.wpIn (Fence.wide.inRound l) n P Q a w:=
 (jh (r:=some l) hm hC (fun _=>hr) hok h hE hW hp).1
theorem ng:∀(vs:LV)(i t:Nat),(D8 i vs).get t=if i≤t then(vs[t-i]?).getD undef else undef
 |[],i,t=>by simp [D8,Env.get]
 |v::vs,i,t=>by
  simp only[D8,Env.get];by_cases h:i=t
  ·subst h;simp
  ·rw[if_neg h,ng vs (i+1) t];by_cases h2:i≤t
   ·rw[if_pos h2,if_pos oM,show t-i=(t-(i+1))+1 from oM];simp
   ·rw[if_neg h2,if_neg oM]
theorem qr{args args':LV}(ha:VRs φ args args')(hn:args.length≤nt):ER φ nt (D8 0 args) {tmps:=args'.toArray++Array.replicate (nt-args'.toArray.size) undef,defers:=[]}:=by
 refine⟨by have:=ha.1;simp;omega,fun t=>?_⟩;rw[ng];simp only[Nat.zero_le,if_true,Nat.sub_zero,Array.getD_eq_getD_getElem?];by_cases h:t<args.length
 ·obtain⟨y,hy,hv⟩:=ha.get (i:=t) (x:=args[t]) (by simp [h]);have h':t<args'.length:=by rw[←ha.1];exact h
  rw[Array.getElem?_append_left (by simpa using h')];simp only[List.getElem?_toArray,hy,Option.getD_some,List.getElem?_eq_getElem h];exact hv
 ·rw[List.getElem?_eq_none oM];rw[Array.getElem?_append_right (by have:=ha.1;simp;omega)];simp only[Option.getD_none,Array.getElem?_replicate];split<;>exact VR.undef' φ
def rF(tmps:Array Value):ResultVar→Sem Value
 | .tmp t=>pure (tmps.getD t undef)
 | .cell x t=>do loadVar t (←asAddr (tmps.getD x undef))
theorem uB(fn:Func)(tmps:Array Value):results fn tmps=(fn.results.mapM (rF tmps))>>=fun vs=>pure (if h:vs.size=1 then vs[0] else .tuple vs):=by
 unfold results
 congr 1
theorem rL{H:d9}(hW:WR base w0 φ H.bs w)(hE:ER φ nt e a):∀{rs:List ResultVar}{vs:LV},rs.mapM (L3 P e H)=some vs→
  ∃vs',VRs φ vs vs'∧(rs.mapM (rF a.tmps)).run P w= .ok vs' w:=by
 intro rs;induction rs with
 |nil=>intro vs h;simp at h;subst h;exact⟨[],.nil φ,rfl⟩
 |cons r rs ih=>
  intro vs h;simp only[List.mapM_cons,Option.bind_eq_bind,Option.pure_def]at h;cases hr:L3 P e H r with
  |none=>simp [hr]at h
  |some v=>
   cases hrs:rs.mapM (L3 P e H)with
   |none=>simp [hr,hrs]at h
   |some vs2=>
    simp [hr,hrs]at h;subst h;obtain⟨vs',hv,hrun⟩:=ih hrs;have hone:∃v',VR φ v v'∧(rF a.tmps r).run P w= .ok v' w:=by
     cases r with
     |tmp t=>simp only[L3,Option.some.injEq]at hr;subst hr;exact⟨_,hE.val t,rfl⟩
     |cell x t=>
      simp only[L3]at hr;obtain⟨v',h1,h2⟩:=qV (P:=P) hW hr (hE.val x);refine⟨v',h1,?_⟩;have h3:=h2 w hW.cls;have hx:=hE.val x;unfold ld at hr;split at hr
      ·rename_i b o hg;rw[hg]at hx;simp only[rF];generalize a.tmps.getD x undef=z at hx h3 ⊢;cases hx;simp only[Instr.loadAt,Instr.sureAddr,Sem.run_bind,Sem.run_pure,Result.andThen_ok]at h3;simp only[asAddr,Sem.run_bind,Sem.run_pure,Result.andThen_ok];exact h3
      ·cases hr
    obtain⟨v',h1,h2⟩:=hone;refine⟨v'::vs',.cons h1 hv,?_⟩;rw[List.mapM_cons,Sem.run_bind,h2,Result.andThen_ok,Sem.run_bind,hrun,Result.andThen_ok];rfl
theorem jv{fn:Func}{H:d9}(hW:WR base w0 φ H.bs w)(hE:ER φ nt e a){vs:LV}(h:fn.results.toList.mapM (L3 P e H)=some vs):
  ∃v',VR φ (aA vs) v'∧(results fn a.tmps).run P w= .ok v' w:=by
 obtain⟨vs',hv,hrun⟩:=rL hW hE h;have hr:(fn.results.mapM (rF a.tmps)).run P w= .ok vs'.toArray w:=by
  rw[Array.mapM_eq_mapM_toList,Sem.run_map,hrun];rfl
 refine⟨aA vs',?_,?_⟩
 ·unfold aA;split
  ·obtain⟨y,ys,rfl,h1,h2⟩:=hv.of_cons;rw[h2.of_nil];exact h1
  ·rename_i hne;split
   ·rename_i v'
    exfalso
    have:=hv.1;cases vs with
    |nil=>simp at this
    |cons x xs=>cases xs with
     |nil=>exact hne x rfl
     |cons _ _=>simp at this
   ·exact VR.toTuple hv
 ·rw[uB,Sem.run_bind,hr,Result.andThen_ok];split
  ·rename_i h1;obtain⟨v,rfl⟩:=List.length_eq_one_iff.1 (by simpa using h1:vs'.length=1);rfl
  ·rename_i hne;have:aA vs'= .tuple vs'.toArray:=by
    unfold aA;split
    ·exact absurd rfl hne
    ·rfl
   rw[this];rfl
theorem WR.back{φ':List Loc}{S':List Blk}{w':World}{low:Nat}(h:WR base w0 φ S w)(h':WR base w0 φ' S' w')(hfr:Fr φ S low w w')(hlow:S.length≤low):Cls base w0 φ S w w':=by
 have same:∀(b:Nat) B l,S[b]?=some B→B≠ .dead→φ[b]?=some l→w'.heap[l.blk]?=w.heap[l.blk]?:=fun b B l hb hd hl=>
  hfr b B l (Nat.lt_of_lt_of_le (List.getElem?_eq_some_iff.1 hb).1 hlow) hb hd hl
 refine⟨⟨h.len,h'.below,h'.size,fun b B l hb hl=>?_,h.sep⟩,same⟩;by_cases hd:B= .dead
 ·subst hd;trivial
 ·exact(h.blk b B l hb hl).mono (Ext.refl φ) (same b B l hb hd hl)
def Eo(g:FuncId)(f:LV→d9→Option (Value×Option d9)):A5:=fun g' args H=>if g'=g then f args H else none
def mO(P:Program)(X:Lib):Prop:=∀g f,X g=some f→U3 P (Eo g f)
theorem CV(hm:P.follows .mixedOrders=true){X:Lib}(hX:mO P X):∀k,U3 P (call P X k):=by
 intro k;induction k with
 |zero=>intro base w0 g args H v r h;cases h
 |succ k ih=>
  intro base w0 g args H v r h;simp only[call]at h;split at h
  ·rename_i f hf;exact hX g f hf base w0 g args H v r (by simp only[Eo,if_pos];exact h)
  ·rename_i hX0;unfold body at h;split at h
   rotate_left
   ·cases h
   rename_i c nt rs hfn;unfold fnA at hfn;split at hfn
   rotate_left
   ·cases hfn
   rename_i fn hfunc;split at hfn
   rotate_left
   ·cases hfn
   rename_i c' hbody;split at hfn
   rotate_left
   ·cases hfn
   rename_i hcond;cases hfn;simp only[Bool.and_eq_true,bne_iff_ne,ne_eq]at hcond;split at h
   rotate_left
   ·cases h
   rename_i hlen;have hen:bP P g:=⟨fn,hfunc,by simpa using hcond.2,by rw[hbody];rfl⟩
   split at h
   ·cases h
   ·rename_i o e' H' hno hex;split at h
    rotate_left
    ·cases h
    rename_i vs hvs;have hle:=M7 (ih base w0) hex;unfold D4 at h;have main:∀(φ:List Loc)(w:World)(args':LV),VRs φ args args'→WR base w0 φ H.bs w→Calls P g args'.toArray w fun en w'=>∃v' φ',en= .returned v'∧Ext φ φ'∧VR φ' (aA vs) v'∧WR base w0 φ' H'.bs w'∧Fr φ H.bs H'.low w w':=by
     intro φ w args' ha hW;refine calls_of_wp hfunc hbody ?_;refine cY (H:=⟨H.bs,H.bs.length⟩) hm ih hcond.1 hex (qr ha hlen) hW ?_;intro φ' a' w' hx hE hW' hfr hd;obtain⟨v',hv,hrun⟩:=jv hW' hE hvs;have:bodyPost P fn (fun en w'=>∃v' φ',en= .returned v'∧Ext φ φ'∧VR φ' (aA vs) v'∧WR base w0 φ' H'.bs w'∧Fr φ H.bs H'.low w w') .normal a' w':=⟨hd,v',hrun,v',φ',rfl,hx,hv,hW',hfr⟩
     cases o with
     |normal=>exact this
     |ret=>exact this
     |exit id=>exact(hno id rfl).elim
    split at h
    ·rename_i hgc;simp only[Option.some.injEq,Prod.mk.injEq]at h;obtain⟨rfl,rfl⟩:=h;simp only[Bool.and_eq_true,decide_eq_true_eq]at hgc;refine⟨hen,fun H' h=>(by cases h),fun _=>hgc.1,fun φ w args' ha hW=>(main φ w args' ha hW).mono fun en w' hq=>?_⟩;obtain⟨v',φ',rfl,hx,hv,hW',hfr⟩:=hq;exact⟨by rw[hv.eq_na hgc.1],hW.back hW' hfr hgc.2⟩
    ·simp only[Option.some.injEq,Prod.mk.injEq]at h;obtain⟨rfl,rfl⟩:=h;refine⟨hen,fun H2 h2=>?_,fun h=>(by cases h),fun φ w args' ha hW=>(main φ w args' ha hW).mono fun en w' hq=>?_⟩
     ·cases h2;exact⟨Nat.min_le_left _ _,hle.len,fun b hb hl=>hle.same b (Nat.lt_of_lt_of_le hb (Nat.min_le_right _ _)) hl⟩
     ·obtain⟨v',φ',h1,hx,hv,hW',hfr⟩:=hq;exact⟨v',φ',h1,hx,hv,hW',fun b B l hb=>hfr b B l (Nat.lt_of_lt_of_le hb (Nat.min_le_right _ _))⟩
   ·cases h
end
def LeO{α:Type}(x y:Option α):Prop:=∀r,x=some r→y=some r
def LeC(C D:A5):Prop:=∀f args H,LeO (C f args H) (D f args H)
theorem LeO.refl{α:Type}(x:Option α):LeO x x:=fun _ h=>h
section
variable{P:Program}
theorem sM{C D:A5}(h:LeC C D)(e:Env)(c:Call)(H:d9):LeO (dS P C e c H) (dS P D e c H):=by
 intro r hr;unfold dS at hr ⊢;split
 ·rename_i b hb;rw[hb]at hr;exact hr
 ·rename_i f hf;rw[hf]at hr;simp only at hr ⊢;split
  ·rename_i g first captured hg;rw[hg]at hr;exact h _ _ _ _ hr
  ·rename_i hno;split at hr
   ·rename_i g first captured hg;exact absurd hg (hno _ _ _)
   ·exact hr
 ·rename_i hb;rw[hb]at hr;exact hr
theorem T8{C D:A5}(h:LeC C D)(o:Op)(e:Env)(H:d9):LeO (aop P C o e H) (aop P D o e H):=by
 intro r hr;by_cases hc:∃c,o= .call c
 ·obtain⟨c,rfl⟩:=hc;exact sM h e c H r hr
 ·rw[←hr];cases o<;>first|rfl|(exact absurd ⟨_,rfl⟩ hc)|(rename_i x;cases x<;>rfl)
theorem P3{C D:A5}(h:LeC C D){ops:Array Oper}:∀(l:List Oper)(e:Env)(H:d9),LeO (C6 P C ops l e H) (C6 P D ops l e H):=by
 intro l;induction l with
 |nil=>intro e H r hr;exact hr
 |cons o l ih=>
  intro e H r hr;simp only[C6]at hr ⊢;by_cases hnl:U0 ops e o=true
  ·rw[if_pos hnl]at hr;cases hr
  simp only[if_neg hnl]at hr ⊢;split
  ·rename_i hw;rw[if_pos hw]at hr;cases ho:aop P C o.op e H with
   |none=>simp [ho]at hr
   |some q=>
    rw[T8 h _ _ _ _ ho];rw[ho]at hr;obtain⟨v,q⟩:=q;cases q with
    |none=>exact ih _ _ _ hr
    |some H'=>exact ih _ _ _ hr
  ·rename_i hw;rw[if_neg hw]at hr;exact ih _ _ _ hr
theorem gY{C D:A5}(h:LeC C D){ops:Array Oper}:∀(l:List Oper)(i:Nat)(q:Bool)(e:Env)(H:d9),LeO (F9 P C ops i q l e H) (F9 P D ops i q l e H):=by
 intro l;induction l with
 |nil=>intro i q e H r hr;exact hr
 |cons o l ih=>
  intro i q e H r hr;simp only[F9]at hr ⊢;by_cases hnl:U0 ops e o=true
  ·rw[if_pos hnl]at hr;cases hr
  simp only[if_neg hnl]at hr ⊢;split
  ·rename_i hw;rw[if_pos hw]at hr;cases ho:aop P C o.op e H with
   |none=>simp [ho]at hr
   |some x=>
    rw[T8 h _ _ _ _ ho];rw[ho]at hr;obtain⟨v,x⟩:=x;cases x with
    |none=>exact ih _ _ _ _ _ hr
    |some H'=>
     simp only at hr ⊢;split
     ·rename_i hb;rw[if_pos hb]at hr;exact P3 h _ _ _ _ hr
     ·rename_i hb;rw[if_neg hb]at hr;exact hr
  ·rename_i hw;rw[if_neg hw]at hr;exact ih _ _ _ _ _ hr
theorem jx{C D:A5}(h:LeC C D){ops:Array Oper}:∀(l:List (Oper×Nat×Nat))(t:Nat)(Ks:List (Nat×d9))(obs:List (Op×Env×Value×Nat))(e:Env)(H:d9),LeO (I0 P C ops t Ks obs l e H) (I0 P D ops t Ks obs l e H):=by
 intro l;induction l with
 |nil=>intro t Ks obs e H r hr;exact hr
 |cons o l ih=>
  obtain⟨o,lo,hi⟩:=o;intro t Ks obs e H r hr;simp only[I0]at hr ⊢;by_cases hnl:U0 ops e o=true
  ·rw[if_pos hnl]at hr;cases hr
  simp only[if_neg hnl]at hr ⊢;split
  ·rename_i hw;rw[if_pos hw]at hr;split
   ·rename_i ht;rw[if_pos ht]at hr;cases ho:aop P C o.op e H with
    |none=>simp [ho]at hr
    |some x=>
     rw[T8 h _ _ _ _ ho];rw[ho]at hr;obtain⟨v,x⟩:=x;simp only at hr ⊢;split
     ·rename_i hb;rw[if_pos hb]at hr;exact ih _ _ _ _ _ _ hr
     ·rename_i hb;rw[if_neg hb]at hr;exact hr
   ·rename_i ht;rw[if_neg ht]at hr;split at hr
    ·rename_i v hv;split at hr
     ·rename_i hk;rw[if_pos hk];split at hr
      ·rename_i hc;rw[if_pos hc];exact ih _ _ _ _ _ _ hr
      ·cases hr
     ·rename_i hk;rw[if_neg hk];exact ih _ _ _ _ _ _ hr
    ·cases hr
  ·rename_i hw;rw[if_neg hw]at hr;split
   ·rename_i ht;rw[if_pos ht]at hr;exact ih _ _ _ _ _ _ hr
   ·rename_i ht;rw[if_neg ht]at hr;exact ih _ _ _ _ _ _ hr
theorem th{C D:A5}(h:LeC C D){ops:Array Oper}(e:Env)(H:d9):LeO (Z2 P C ops e H) (Z2 P D ops e H):=by
 intro r hr;unfold Z2 at hr ⊢;split
 ·rename_i h1;rw[if_pos h1]at hr;split
  ·rename_i h2;rw[if_pos h2]at hr;exact jx h _ _ _ _ _ _ _ hr
  ·rename_i h2;rw[if_neg h2]at hr;exact hr
 ·rename_i h1;rw[if_neg h1]at hr;exact gY h _ _ _ _ _ _ hr
theorem eu{ds:List Nat}{e e1 e2:Env}{n:Nat}{H1 H2:d9}{x y:Option (Out×Env×d9)}(hx:x=some (.normal,e1,H1))(hy:y=some (.normal,e2,H2))(hk:L9 n H1=L9 n H2):
  kQ ds e n x y=some (.normal,ds.map (fun d=>(d,lost))++e,L9 n H1):=by
 subst hx hy;exact if_pos hk
theorem Z5{C D:A5}(h:LeC C D):∀(k k':Nat),k≤k'→∀(c:Code)(e:Env)(H:d9),LeO (I7 P C k c e H) (I7 P D k' c e H):=by
 intro k;induction k with
 |zero=>intro k' _ c e H r hr;cases hr
 |succ k ih=>
  intro k' hk c e H r hr;obtain⟨k',rfl⟩:∃m,k'=m+1:=⟨k'-1,oM⟩
  have ih':=fun c e H r(hr:I7 P C k c e H=some r)=>ih k' oM c e H r hr;cases c<;>simp only[I7]at hr ⊢ <;>try exact hr
  case region id ops draw=>
   cases draw
   ·simp only[Bool.false_eq_true,if_false]at hr ⊢;cases hq:C6 P C ops ops.toList e H with
    |none=>simp [hq]at hr
    |some x=>rw[P3 h _ _ _ _ hq];rw[hq]at hr;exact hr
   ·simp only[if_true]at hr ⊢;cases hq:Z2 P C ops e H with
    |none=>simp [hq]at hr
    |some x=>rw[th h _ _ _ hq];rw[hq]at hr;exact hr
  case seq x y=>
   cases hz:dW x y with
   |some z=>
    simp only[hz]at hr ⊢;cases h1:C6 P C z.ops z.l1 e H with
    |none=>simp [h1]at hr
    |some q1=>
     cases h2:C6 P C z.ops z.l2 e H with
     |none=>simp [h1,h2]at hr
     |some q2=>
      obtain⟨e1,H1⟩:=q1;obtain⟨e2,H2⟩:=q2;rw[h1,h2]at hr;rw[P3 h _ _ _ _ h1,P3 h _ _ _ _ h2];obtain⟨o,e',H'⟩:=r;obtain⟨e3,H3,e4,H4,g1,g2,g3,rfl,rfl,rfl⟩:=S3 hr;exact eu (ih' _ _ _ _ g1) (ih' _ _ _ _ g2) g3
   |none=>
   simp only[hz]at hr ⊢;cases hq:I7 P C k x e H with
   |none=>simp [hq]at hr
   |some z=>
    rw[ih' _ _ _ _ hq];rw[hq]at hr;obtain⟨o,e',H'⟩:=z;cases o with
    |normal=>exact ih' _ _ _ _ hr
    |exit id=>exact hr
    |ret=>exact hr
  case cond x y z=>
   split
   ·rename_i t ht;rw[ht]at hr;exact ih' _ _ _ _ hr
   ·rename_i hno;split at hr
    ·rename_i t ht;exact absurd ht (hno t)
    ·exact hr
  case block id x=>
   cases hq:I7 P C k x e H with
   |none=>simp [hq]at hr
   |some z=>rw[ih' _ _ _ _ hq];rw[hq]at hr;exact hr
  case loop x=>
   cases hq:I7 P C k x e H with
   |none=>simp [hq]at hr
   |some z=>
    rw[ih' _ _ _ _ hq];rw[hq]at hr;obtain⟨o,e',H'⟩:=z;cases o with
    |normal=>exact ih' _ _ _ _ hr
    |exit id=>exact hr
    |ret=>exact hr
  case scope x=>exact ih' _ _ _ _ hr
theorem iu{ex ex':Code→Env→d9→Option (Out×Env×d9)}(h:∀c e H,LeO (ex c e H) (ex' c e H)) (f:FuncId) (args:LV) (H:d9):LeO (body P ex f args H) (body P ex' f args H):=by
 intro r hr;unfold body at hr ⊢;split
 ·rename_i c nt rs hf;rw[hf]at hr;simp only at hr ⊢;split
  ·rename_i hn;rw[if_pos hn]at hr;cases hq:ex c (D8 0 args) ⟨H.bs,H.bs.length⟩with
   |none=>simp [hq]at hr
   |some z=>rw[h _ _ _ _ hq];rw[hq]at hr;exact hr
  ·rename_i hn;rw[if_neg hn]at hr;exact hr
 ·rename_i hf;rw[hf]at hr;exact hr
theorem L6{X:Lib}:∀(k k':Nat),k≤k'→LeC (call P X k) (call P X k'):=by
 intro k;induction k with
 |zero=>intro k' _ f args H r hr;cases hr
 |succ k ih=>
  intro k' hk f args H r hr;obtain⟨k',rfl⟩:∃m,k'=m+1:=⟨k'-1,oM⟩
  simp only[call]at hr ⊢;split
  ·rename_i g hg;rw[hg]at hr;exact hr
  ·rename_i hg;rw[hg]at hr;exact iu (Z5 (ih k' oM) k k' oM) f args H r hr
open Classical in
noncomputable def lim{α:Type}(x:Nat→Option α):Option α:=if h:∃k r,x k=some r then some (Classical.choose (Classical.choose_spec h)) else none
theorem kZ{α:Type}{x:Nat→Option α}(hm:∀k k',k≤k'→LeO (x k) (x k')) {r:α}:lim x=some r↔∃k,x k=some r:=by
 unfold lim
 constructor
 ·intro h;split at h
  ·rename_i hk;cases h;exact⟨_,Classical.choose_spec (Classical.choose_spec hk)⟩
  ·cases h
 ·rintro⟨k,hk⟩;have hex:∃k r,x k=some r:=⟨k,r,hk⟩
  rw[dif_pos hex];have h1:=Classical.choose_spec (Classical.choose_spec hex);have h2:=hm _ (max k (Classical.choose hex)) (Nat.le_max_right _ _) _ h1;have h3:=hm _ (max k (Classical.choose hex)) (Nat.le_max_left _ _) _ hk;rw[h2]at h3;exact h3
noncomputable def CL(P:Program)(X:Lib):A5:=fun f args H=>lim fun k=>call P X k f args H
noncomputable def EL(P:Program)(X:Lib)(c:Code)(e:Env)(H:d9):Option (Out×Env×d9):=lim fun k=>I7 P (CL P X) k c e H
theorem aN{X:Lib}{f:FuncId}{args:LV}{H:d9}{r:Value×Option d9}:CL P X f args H=some r↔∃k,call P X k f args H=some r:=
 kZ fun k k' hk=>L6 k k' hk f args H
theorem uV{X:Lib}{c:Code}{e:Env}{H:d9}{r:Out×Env×d9}:EL P X c e H=some r↔∃k,I7 P (CL P X) k c e H=some r:=
 kZ fun k k' hk=>Z5 (fun _ _ _=>LeO.refl _) k k' hk c e H
theorem pA{α:Type}{x y:Option α}(h:∀r,x=some r↔y=some r):x=y:=by
 cases x with
 |some a=>exact((h a).1 rfl).symm
 |none=>cases y with
  |none=>rfl
  |some b=>exact(h b).2 rfl
variable{X:Lib}
def ly(x:Option (Env×d9)):Option (Out×Env×d9):=x.map fun(e,H)=>(.normal,e,H)
abbrev Of{β:Sort _}(_:β)(α:Type _):Type _:=α
def u7(x:Option (Out×Env×d9))(f:Env→d9→Option (Out×Env×d9)):Of f (Option (Out×Env×d9)):=
 match x with
 |some (.normal,e,H)=>f e H
 |r=>r
@[simp] theorem cq (e:Env) (H:d9) (f:Env→d9→Option (Out×Env×d9)):u7 (some (.normal,e,H)) f=f e H:=rT
@[simp] theorem mf (e:Env) (H:d9) (f:Env→d9→Option (Out×Env×d9)):u7 (some (.ret,e,H)) f=some (.ret,e,H):=rT
@[simp] theorem sf (i:Nat) (e:Env) (H:d9) (f:Env→d9→Option (Out×Env×d9)):u7 (some (.exit i,e,H)) f=some (.exit i,e,H):=rT
def inBlock(id:Nat)(x:Option (Out×Env×d9)):Option (Out×Env×d9):=
 match x with
 |some (.exit i,e,H)=>if i=id then some (.normal,e,H) else some (.exit i,e,H)
 |r=>r
@[simp] theorem ek (id:Nat) (e:Env) (H:d9):inBlock id (some (.normal,e,H))=some (.normal,e,H):=rT
@[simp] theorem jn (id:Nat) (e:Env) (H:d9):inBlock id (some (.ret,e,H))=some (.ret,e,H):=rT
@[simp] theorem de (id i:Nat) (e:Env) (H:d9):inBlock id (some (.exit i,e,H))=if i=id then some (.normal,e,H) else some (.exit i,e,H):=rT
theorem fB{o:Op}{e:Env}{H:d9}{r:Value×Option d9}(h:aop P (CL P X) o e H=some r):∃k,aop P (call P X k) o e H=some r:=by
 by_cases hc:∃c,o= .call c
 ·obtain⟨c,rfl⟩:=hc;simp only[aop,dS]at h ⊢;split at h
  ·rename_i b hb;exact⟨0,h⟩
  ·rename_i f hf;split at h
   ·obtain⟨k,hk⟩:=aN.1 h;exact⟨k,hk⟩
   ·cases h
  ·cases h
 ·refine⟨0,?_⟩;rw[←h];cases o<;>first|rfl|(exact absurd ⟨_,rfl⟩ hc)|(rename_i x;cases x<;>rfl)
theorem ax{ops:Array Oper}:∀(l:List Oper){e:Env}{H:d9}{r:Env×d9},C6 P (CL P X) ops l e H=some r→∃k,C6 P (call P X k) ops l e H=some r:=by
 intro l;induction l with
 |nil=>intro e H r h;exact⟨0,h⟩
 |cons o l ih=>
  intro e H r h;simp only[C6]at h ⊢;by_cases hnl:U0 ops e o=true
  ·rw[if_pos hnl]at h;cases h
  simp only[if_neg hnl]at h ⊢;split at h
  ·rename_i hw;cases hq:aop P (CL P X) o.op e H with
   |none=>simp [hq]at h
   |some z=>
    rw[hq]at h;obtain⟨k1,hk1⟩:=fB hq;obtain⟨v,z⟩:=z;have fin:∀H',C6 P (CL P X) ops l (P7 e o.dst v) H'=some r→∃k,C6 P (call P X k) ops l (P7 e o.dst v) H'=some r∧aop P (call P X k) o.op e H=some (v,z):=by
     intro H' h';obtain⟨k2,hk2⟩:=ih h';exact⟨max k1 k2,P3 (L6 _ _ (Nat.le_max_right _ _)) _ _ _ _ hk2,T8 (L6 _ _ (Nat.le_max_left _ _)) _ _ _ _ hk1⟩
    cases z with
    |none=>obtain⟨k,g1,g2⟩:=fin _ h;exact⟨k,by rw[if_pos hw,g2];exact g1⟩
    |some H'=>obtain⟨k,g1,g2⟩:=fin _ h;exact⟨k,by rw[if_pos hw,g2];exact g1⟩
  ·rename_i hw;obtain⟨k,hk⟩:=ih h;exact⟨k,by rw[if_neg hw];exact hk⟩
theorem lQ{ops:Array Oper}:∀(l:List Oper){i:Nat}{q:Bool}{e:Env}{H:d9}{r:Env×d9},F9 P (CL P X) ops i q l e H=some r→∃k,F9 P (call P X k) ops i q l e H=some r:=by
 intro l;induction l with
 |nil=>intro i q e H r h;exact⟨0,h⟩
 |cons o l ih=>
  intro i q e H r h;simp only[F9]at h ⊢;by_cases hnl:U0 ops e o=true
  ·rw[if_pos hnl]at h;cases h
  simp only[if_neg hnl]at h ⊢;split at h
  ·rename_i hw;cases hq:aop P (CL P X) o.op e H with
   |none=>simp [hq]at h
   |some z=>
    rw[hq]at h;obtain⟨k1,hk1⟩:=fB hq;obtain⟨v,z⟩:=z;cases z with
    |none=>
     obtain⟨k2,hk2⟩:=ih h;exact⟨max k1 k2,by rw[if_pos hw,T8 (L6 _ _ (Nat.le_max_left _ _)) _ _ _ _ hk1];exact gY (L6 _ _ (Nat.le_max_right _ _)) _ _ _ _ _ _ hk2⟩
    |some H'=>
     simp only at h;split at h
     ·obtain⟨k2,hk2⟩:=ax _ h;refine⟨max k1 k2,?_⟩;rw[if_pos hw,T8 (L6 _ _ (Nat.le_max_left _ _)) _ _ _ _ hk1];simp only;rw[if_pos (by assumption)];exact P3 (L6 _ _ (Nat.le_max_right _ _)) _ _ _ _ hk2
     ·cases h
  ·rename_i hw;obtain⟨k,hk⟩:=ih h;exact⟨k,by rw[if_neg hw];exact hk⟩
theorem mH{ops:Array Oper}:∀(l:List (Oper×Nat×Nat)){t:Nat}{Ks:List (Nat×d9)}{obs:List (Op×Env×Value×Nat)}{e:Env}{H:d9}{r:Env×d9},I0 P (CL P X) ops t Ks obs l e H=some r→∃k,I0 P (call P X k) ops t Ks obs l e H=some r:=by
 intro l;induction l with
 |nil=>intro t Ks obs e H r h;exact⟨0,h⟩
 |cons o l ih=>
  obtain⟨o,lo,hi⟩:=o;intro t Ks obs e H r h;simp only[I0]at h ⊢;by_cases hnl:U0 ops e o=true
  ·rw[if_pos hnl]at h;cases h
  simp only[if_neg hnl]at h ⊢;split at h
  ·rename_i hw;split at h
   ·rename_i ht;cases hq:aop P (CL P X) o.op e H with
    |none=>simp [hq]at h
    |some z=>
     rw[hq]at h;obtain⟨k1,hk1⟩:=fB hq;obtain⟨v,z⟩:=z;simp only at h;split at h
     ·rename_i hb;obtain⟨k2,hk2⟩:=ih h;exact⟨max k1 k2,by rw[if_pos hw,if_pos ht,T8 (L6 _ _ (Nat.le_max_left _ _)) _ _ _ _ hk1];simp only;rw[if_pos hb];exact jx (L6 _ _ (Nat.le_max_right _ _)) _ _ _ _ _ _ _ hk2⟩
     ·cases h
   ·rename_i ht;split at h
    ·rename_i v hv;split at h
     ·rename_i hk;split at h
      ·rename_i hc;obtain⟨k,q⟩:=ih h;exact⟨k,by rw[if_pos hw,if_neg ht,if_pos hk,if_pos hc];exact q⟩
      ·cases h
     ·rename_i hk;obtain⟨k,q⟩:=ih h;exact⟨k,by rw[if_pos hw,if_neg ht,if_neg hk];exact q⟩
    ·cases h
  ·rename_i hw;split at h
   ·rename_i ht;obtain⟨k,q⟩:=ih h;exact⟨k,by rw[if_neg hw,if_pos ht];exact q⟩
   ·rename_i ht;obtain⟨k,q⟩:=ih h;exact⟨k,by rw[if_neg hw,if_neg ht];exact q⟩
theorem oT{ops:Array Oper}{e:Env}{H:d9}{r:Env×d9}(h:Z2 P (CL P X) ops e H=some r):∃k,Z2 P (call P X k) ops e H=some r:=by
 unfold Z2 at h ⊢;split at h
 ·rename_i h1;split at h
  ·rename_i h2;obtain⟨k,q⟩:=mH _ h;exact⟨k,by rw[if_pos h1,if_pos h2];exact q⟩
  ·cases h
 ·rename_i h1;obtain⟨k,q⟩:=lQ _ h;exact⟨k,by rw[if_neg h1];exact q⟩
theorem qw:∀(k:Nat){c:Code}{e:Env}{H:d9}{r:Out×Env×d9},I7 P (CL P X) k c e H=some r→∃j,I7 P (call P X j) k c e H=some r:=by
 intro k;induction k with
 |zero=>intro c e H r h;cases h
 |succ k ih=>
  intro c e H r h;have both:∀{j j2:Nat}{c:Code}{e:Env}{H:d9}{r},j≤j2→I7 P (call P X j) k c e H=some r→I7 P (call P X j2) k c e H=some r:=fun hj h=>Z5 (L6 _ _ hj) _ _ lR _ _ _ _ h;cases c<;>simp only[I7]at h ⊢ <;>try exact⟨0,h⟩
  case region id ops draw=>
   cases draw
   ·simp only[Bool.false_eq_true,if_false]at h ⊢;cases hq:C6 P (CL P X) ops ops.toList e H with
    |none=>simp [hq]at h
    |some z=>obtain⟨j,hj⟩:=ax _ hq;rw[hq]at h;exact⟨j,by rw[hj];exact h⟩
   ·simp only[if_true]at h ⊢;cases hq:Z2 P (CL P X) ops e H with
    |none=>simp [hq]at h
    |some z=>obtain⟨j,hj⟩:=oT hq;rw[hq]at h;exact⟨j,by rw[hj];exact h⟩
  case seq x y=>
   cases hz:dW x y with
   |some z=>
    simp only[hz]at h ⊢;cases h1:C6 P (CL P X) z.ops z.l1 e H with
    |none=>simp [h1]at h
    |some q1=>
     cases h2:C6 P (CL P X) z.ops z.l2 e H with
     |none=>simp [h1,h2]at h
     |some q2=>
      obtain⟨e1,H1⟩:=q1;obtain⟨e2,H2⟩:=q2;rw[h1,h2]at h;obtain⟨o,e',H'⟩:=r;obtain⟨e3,H3,e4,H4,g1,g2,g3,rfl,rfl,rfl⟩:=S3 h;obtain⟨j1,hj1⟩:=ax _ h1;obtain⟨j2,hj2⟩:=ax _ h2;obtain⟨j3,hj3⟩:=ih g1;obtain⟨j4,hj4⟩:=ih g2;refine⟨max (max j1 j2) (max j3 j4),?_⟩;rw[P3 (L6 _ _ (by omega:j1≤max (max j1 j2) (max j3 j4))) _ _ _ _ hj1,P3 (L6 _ _ (by omega:j2≤max (max j1 j2) (max j3 j4))) _ _ _ _ hj2];exact eu (both oM hj3) (both oM hj4) g3
   |none=>
   simp only[hz]at h ⊢;cases hq:I7 P (CL P X) k x e H with
   |none=>simp [hq]at h
   |some z=>
    obtain⟨j,hj⟩:=ih hq;rw[hq]at h;obtain⟨o,e',H'⟩:=z;cases o with
    |normal=>
     obtain⟨j2,hj2⟩:=ih h;exact⟨max j j2,by rw[both (Nat.le_max_left _ _) hj];exact both (Nat.le_max_right _ _) hj2⟩
    |exit i=>exact⟨j,by rw[hj];exact h⟩
    |ret=>exact⟨j,by rw[hj];exact h⟩
  case cond x y z=>
   split at h
   ·rename_i ht;obtain⟨j,hj⟩:=ih h;exact⟨j,hj⟩
   ·cases h
  case block id x=>
   cases hq:I7 P (CL P X) k x e H with
   |none=>simp [hq]at h
   |some z=>obtain⟨j,hj⟩:=ih hq;rw[hq]at h;exact⟨j,by rw[hj];exact h⟩
  case loop x=>
   cases hq:I7 P (CL P X) k x e H with
   |none=>simp [hq]at h
   |some z=>
    obtain⟨j,hj⟩:=ih hq;rw[hq]at h;obtain⟨o,e',H'⟩:=z;cases o with
    |normal=>
     obtain⟨j2,hj2⟩:=ih h;exact⟨max j j2,by rw[both (Nat.le_max_left _ _) hj];exact both (Nat.le_max_right _ _) hj2⟩
    |exit i=>exact⟨j,by rw[hj];exact h⟩
    |ret=>exact⟨j,by rw[hj];exact h⟩
  case scope x=>obtain⟨j,hj⟩:=ih h;exact⟨j,hj⟩
theorem Cv{f:FuncId}(hX:X f=none)(args:LV)(H:d9):CL P X f args H=body P (EL P X) f args H:=by
 refine pA fun r=>⟨fun h=>?_,fun h=>?_⟩
 ·obtain⟨k,hk⟩:=aN.1 h;cases k with
  |zero=>cases hk
  |succ k=>
   simp only[call,hX]at hk;refine iu (fun c e H r hr=>?_) f args H r hk;exact uV.2 ⟨k,Z5 (fun f args H r hr=>aN.2 ⟨k,hr⟩) k k lR c e H r hr⟩
 ·unfold body at h;split at h
  rotate_left
  ·cases h
  rename_i c nt rs hf;split at h
  rotate_left
  ·cases h
  rename_i hn;cases hq:EL P X c (D8 0 args) ⟨H.bs,H.bs.length⟩with
  |none=>simp [hq]at h
  |some z=>
   obtain⟨k,hk⟩:=uV.1 hq;obtain⟨j,hj⟩:=qw k hk;refine aN.2 ⟨max j k+1,?_⟩;simp only[call,hX,body,hf,if_pos hn];rw[Z5 (L6 j (max j k) (Nat.le_max_left _ _)) k (max j k) (Nat.le_max_right _ _) _ _ _ _ hj];rw[hq]at h;exact h
theorem GO{f:FuncId}{g:LV→d9→Option (Value×Option d9)}(hX:X f=some g)(args:LV)(H:d9):CL P X f args H=g args H:=by
 refine pA fun r=>⟨fun h=>?_,fun h=>aN.2 ⟨1,by simp only[call,hX];exact h⟩⟩
 obtain⟨k,hk⟩:=aN.1 h;cases k with
 |zero=>cases hk
 |succ k=>simp only[call,hX]at hk;exact hk
theorem wJ{X Y:Lib}(h:∀f,X f=Y f∨(X f=none∧fnA P f=none)):∀k,LeC (call P X k) (call P Y k):=by
 intro k;induction k with
 |zero=>intro f args H r hr;cases hr
 |succ k ih=>
  intro f args H r hr;simp only[call]at hr ⊢;rcases h f with e|⟨e,hn⟩
  ·rw[←e];split
   ·rename_i g hg;rw[hg]at hr;exact hr
   ·rename_i hg;rw[hg]at hr;exact iu (Z5 ih k k lR) f args H r hr
  ·rw[e]at hr;simp only[body,hn]at hr;cases hr
theorem Cw{X Y:Lib}(h:∀f,X f=Y f∨(X f=none∧fnA P f=none)):LeC (CL P X) (CL P Y):=by
 intro f args H r hr;obtain⟨k,hk⟩:=aN.1 hr;exact aN.2 ⟨k,wJ h k f args H r hk⟩
end
end Go.Proofs.YtofbhlhamfkljaaGreatDoor.Ve
namespace Go.Proofs.YtofbhlhamfkljaaGreatDoor.Ve
open Go Go.RowKit
set_option linter.unusedVariables false
set_option linter.unusedSimpArgs false
set_option maxRecDepth 1000000
set_option maxHeartbeats 0
def zM(r:Option (Value×Option d9))(H:d9)(f:Value→d9→Option (Env×d9)):Of f (Option (Env×d9)):=
 match r with
 |some (v,none)=>f v H
 |some (v,some H')=>f v H'
 |none=>none
def AU(ops:Array Oper)(j:Nat)(b:Bool)(e:Env):Bool:=
 match(ops[j]?).bind (·.dst)with
 |some d=>isB (e.get d) b
 |none=>false
def Oh{α:Type}(v:Value)(x y:Option α):Of x (Of y (Option α)):=
 match v with
 | .bool t=>if t then x else y
 |_=>none
def u5(P:Program)(rs:List ResultVar)(H:d9)(x:Option (Out×Env×d9)):Option (Value×Option d9):=
 match x with
 |some (.exit _,_,_)=>none
 |some (_,e,H')=>(rs.mapM (L3 P e H')).map fun vs=>D4 (aA vs) H H'
 |none=>none
section
variable{P:Program}{X:Lib}
theorem GQ{f:FuncId}{c:Code}{nt:Nat}{rs:List ResultVar}(hf:fnA P f=some (c,nt,rs))(hX:X f=none)(args:LV)(hn:args.length≤nt)(H:d9):
  CL P X f args H=u5 P rs H (EL P X c (D8 0 args) ⟨H.bs,H.bs.length⟩):=by
 rw[Cv hX,body,hf];simp only[if_pos hn,u5];cases EL P X c (D8 0 args) ⟨H.bs,H.bs.length⟩with
 |none=>rfl
 |some z=>
  obtain⟨o,e,H'⟩:=z;cases o with
  |exit i=>rfl
  |normal=>simp only;cases List.mapM (L3 P e H') rs<;>rfl
  |ret=>simp only;cases List.mapM (L3 P e H') rs<;>rfl
theorem sY(v:Value)(H:d9)(f:Value→d9→Option (Env×d9)):zM (some (v,none)) H f=f v H:=rT
theorem sZ(v:Value)(H H':d9)(f:Value→d9→Option (Env×d9)):zM (some (v,some H')) H f=f v H':=rT
theorem mE(e:Env)(H:d9):ly (some (e,H))=some (.normal,e,H):=rT
theorem AP(k:Nat)(v:Value)(e:Env)(t:Nat):Env.get ((k,v)::e) t=if k=t then v else Env.get e t:=rT
theorem yk(e:Env)(d:Nat)(v:Value):P7 e (some d) v=(d,v)::e:=rT
theorem yj(e:Env)(v:Value):P7 e none v=e:=rT
theorem EM(e:Env)(t:Nat):opv e (.tmp t)=e.get t:=rT
theorem yb(e:Env)(v:Value):opv e (.const v)=v:=rT
theorem BF(e:Env)(f:FuncId):opv e (.func f)= .func (.func f) #[] #[]:=rT
def kp(v:Option Value):Option (Value×Option d9):=keep v
theorem Eg(v:Value):kp (some v)=some (v,none):=rT
def BM(c x y:Value):Option Value:=
 match c with
 | .bool t=>some (if t then x else y)
 |_=>none
theorem uk(t:Bool)(x y:Value):BM (.bool t) x y=some (if t=true then x else y):=by cases t<;>rfl
section
variable(C:A5)(e:Env)(H:d9)
theorem zn(x:Operand):aop P C (.move x) e H=kp (some (opv e x)):=rT
theorem sE(x:Operand):aop P C (.assign x) e H=kp (some (opv e x)):=rT
theorem zq(c x y:Operand):aop P C (.pick c x y) e H=kp (BM (opv e c) (opv e x) (opv e y)):=by
 simp only[aop,BM,kp];cases opv e c<;>rfl
theorem wh(t:TypeId):aop P C (.alloc t) e H=turn ((B8 P t).map fun z=>(.pointer (some ⟨H.next,0,none⟩),H.push (.cells z true 1))):=rT
theorem CD(t:TypeId)(x:Operand):aop P C (.box t x) e H=if(opv e x).cells.toList.all Value.oneCell'=true then some (.pointer (some ⟨H.next,0,none⟩),some (H.push (.cells (opv e x).cells.toList true 1))) else none:=rT
theorem wi(t:TypeId)(ps:Array (Nat×Operand)):aop P C (.build t ps) e H=kp (kl P t (ps.toList.map fun p=>(p.1,opv e p.2))):=rT
theorem kf(t:TypeId)(n:Nat)(ps:Array (Nat×Operand)):aop P C (.buildSlice t n ps) e H=turn (O9 P H t n (ps.toList.map fun p=>(p.1,opv e p.2))):=rT
theorem zl(t:TypeId)(a:Operand):aop P C (.load t a) e H=kp (ld P t H (opv e a)):=rT
theorem wu(t:TypeId)(a x:Operand):aop P C (.store t a x) e H=turn ((sto P t H (opv e a) (opv e x)).map fun H'=>(undef,H')):=rT
def EB(v:Value):Option Value:=
 match v with
 | .pointer (some a)=>some (.pointer (some a))
 | .func (.func g) f c=>some (.func (.func g) f c)
 |_=>none
theorem oD(x:Operand):aop P C (.nilCheck x) e H=kp (EB (opv e x)):=by
 simp only[aop,EB,kp];split<;>first|rfl|(split<;>first|rfl|simp_all)
theorem CC(op:BinOp)(t:TypeId)(x y:Operand)(yt:TypeId):aop P C (.binOp op t x y yt) e H=kp (E9 P op t (opv e x) (opv e y)):=rT
theorem GV(op:UnOp)(t:TypeId)(x:Operand):aop P C (.unOp op t x) e H=kp (unA op (opv e x)):=rT
theorem pS(s d:TypeId)(x:Operand):aop P C (.convert s d x) e H=W8 P H s d (opv e x):=rT
theorem zk(g:FuncId)(f c:Array Operand):aop P C (.makeFunc (.func g) f c) e H=some (.func (.func g) (f.toList.map (opv e)).toArray (c.toList.map (opv e)).toArray,none):=rT
theorem CE(t:TypeId):aop P C (.makeMap t none) e H=some (.map (some H.next),some (H.push (.map []))):=rT
theorem zm(t:TypeId)(l c:Operand):aop P C (.makeSlice t l c) e H=turn (V3 P H t (opv e l) (opv e c)):=rT
theorem wq(t:TypeId)(x:Operand)(lo hi mx:Option Operand):aop P C (.slice t x lo hi mx) e H=kp (Y7 P H t (opv e x) (lo.map (opv e)) (hi.map (opv e)) (mx.map (opv e))):=rT
theorem mn(t:TypeId)(x:Operand)(i:Nat):aop P C (.fieldAddr t x i) e H=kp (Z7 P t (opv e x) i):=rT
theorem wk(t:TypeId)(x:Operand)(i:Nat):aop P C (.field t x i) e H=kp (iA P t (opv e x) i):=rT
theorem mq(t:TypeId)(x i:Operand):aop P C (.indexAddr t x i) e H=kp (R9 P t (opv e x) (opv e i)):=rT
theorem wl(t:TypeId)(x i:Operand):aop P C (.index t x i) e H=kp (eo P t (opv e x) (opv e i)):=rT
theorem sF(t:TypeId)(m k:Operand)(ok:Bool):aop P C (.lookup t m k ok) e H=kp (eY P H t (opv e m) (opv e k) ok):=rT
theorem mr(t:TypeId)(m k v:Operand):aop P C (.mapUpdate t m k v) e H=turn ((V4 P H t (opv e m) (opv e k) (opv e v)).map fun H'=>(undef,H')):=rT
def uq(P:Program)(t:TypeId)(H:d9)(v:Value):Option (Value×Option d9):=
 match P.underlying t,v with
 |some .string,.string s=>some (.pointer (some ⟨H.next,0,none⟩),some (H.push (.iter s 0)))
 |_,_=>none
theorem wo(t:TypeId)(x:Operand):aop P C (.range t x) e H=uq P t H (opv e x):=rT
theorem zp(it:Operand):aop P C (.next it true) e H=gQ H (opv e it):=rT
def kv(v:Value)(i:Nat):Option Value:=
 match v with
 | .tuple vs=>if vs.toList.length<9 then vs.toList[i]? else none
 |_=>none
theorem kw(vs:Array Value)(i:Nat):kv (.tuple vs) i=if vs.toList.length<9 then vs.toList[i]? else none:=rT
theorem pU(x:Operand)(i:Nat):aop P C (.extract x i) e H=kp (kv (opv e x) i):=by
 simp only[aop,kv,kp];cases opv e x with
 |tuple vs=>by_cases h:vs.toList.length<9<;>simp only[h,if_true,if_false]<;>rfl
 |_=>rfl
theorem pR(b:Builtin)(xs:Array Operand)(ts:Array TypeId):aop P C (.call ⟨.builtin b,xs,ts⟩) e H=D3 P b ts.toList (xs.toList.map (opv e)) H:=rT
def dM(C:A5)(f:Value)(args:LV)(H:d9):Option (Value×Option d9):=
 match f with
 | .func (.func g) first captured=>C g (first.toList++args++captured.toList) H
 |_=>none
theorem pY(g:FuncId)(f c:Array Value)(args:LV):dM C (.func (.func g) f c) args H=C g (f.toList++args++c.toList) H:=rT
theorem zj(f:Operand)(xs:Array Operand)(ts:Array TypeId):aop P C (.call ⟨.value f,xs,ts⟩) e H=dM C (opv e f) (xs.toList.map (opv e)) H:=rT
theorem yK(v:Value)(H':d9):turn (some (v,H'))=some (v,some H'):=rT
theorem CH(t:TypeId)(k:IntKind)(a b:Int):E9 P .add t (.int k a) (.int k b)=some (.int k (k.wrap (a+b))):=by simp [E9]
theorem CQ(t:TypeId)(k:IntKind)(a b:Int):E9 P .sub t (.int k a) (.int k b)=some (.int k (k.wrap (a-b))):=by simp [E9]
theorem CO(t:TypeId)(k:IntKind)(a b:Int):E9 P .mul t (.int k a) (.int k b)=some (.int k (k.wrap (a*b))):=by simp [E9]
theorem CP(t:TypeId)(k:IntKind)(a b:Int)(h:b≠0):E9 P .rem t (.int k a) (.int k b)=some (.int k (a.tmod b)):=by simp [E9,h]
theorem CI(t:TypeId)(k:IntKind)(a b:Int):E9 P .and t (.int k a) (.int k b)=some (.int k (Go.bits .and k a b)):=by simp [E9]
theorem GX(t:TypeId)(k:IntKind)(a b:Int):E9 P .or t (.int k a) (.int k b)=some (.int k (Go.bits .or k a b)):=by simp [E9]
theorem CR(t:TypeId)(k:IntKind)(a b:Int):E9 P .xor t (.int k a) (.int k b)=some (.int k (Go.bits .xor k a b)):=by simp [E9]
theorem sJ(t:TypeId)(k:IntKind)(a b:Int):E9 P .andNot t (.int k a) (.int k b)=some (.int k (Go.bits .andNot k a b)):=by simp [E9]
theorem CN(t:TypeId)(k:IntKind)(a b:Int):E9 P .lss t (.int k a) (.int k b)=some (.bool (decide (a<b))):=by simp [E9]
theorem CM(t:TypeId)(k:IntKind)(a b:Int):E9 P .leq t (.int k a) (.int k b)=some (.bool (decide (a≤b))):=by simp [E9]
theorem CK(t:TypeId)(k:IntKind)(a b:Int):E9 P .gtr t (.int k a) (.int k b)=some (.bool (decide (b<a))):=by simp [E9]
theorem CJ(t:TypeId)(k:IntKind)(a b:Int):E9 P .geq t (.int k a) (.int k b)=some (.bool (decide (b≤a))):=by simp [E9]
theorem qc(t:TypeId)(k:IntKind)(a b:Int):E9 P .eql t (.int k a) (.int k b)=some (.bool (decide (a=b))):=by simp [E9,eqA];rfl
theorem qf(t:TypeId)(k:IntKind)(a b:Int):E9 P .neq t (.int k a) (.int k b)=some (.bool (!decide (a=b))):=by simp [E9,eqA];rfl
theorem pG(a b:ByteArray):(a==b)=decide (a=b):=by
 rw[Bool.eq_iff_iff,decide_eq_true_iff]
 constructor
 ·intro h;rw[beq_toListBytes,beq_iff_eq,ByteArray.toList_eq,ByteArray.toList_eq]at h;have h2:=Array.toList_inj.1 h;obtain⟨a⟩:=a;obtain⟨b⟩:=b;simp only at h2;rw[h2]
 ·rintro rfl;exact iy _
theorem qd(t:TypeId)(a b:ByteArray):E9 P .eql t (.string a) (.string b)=some (.bool (decide (a=b))):=by simp [E9,eqA,pG]
theorem qg(t:TypeId)(a b:ByteArray):E9 P .neq t (.string a) (.string b)=some (.bool (!decide (a=b))):=by simp [E9,eqA,pG]
theorem oG(t:TypeId)(a b:Bool)(h:rY P t=true):E9 P .eql t (.bool a) (.bool b)=some (.bool (a==b)):=by simp [E9,eqA,h]
theorem cV(t:TypeId)(a b:Bool)(h:rY P t=true):E9 P .neq t (.bool a) (.bool b)=some (.bool (!(a==b))):=by simp [E9,eqA,h]
theorem W7(t:TypeId)(a b:ByteArray)(h:a.size+b.size≤9223372036854775807):E9 P .add t (.string a) (.string b)=some (.string (a++b)):=by simp [E9,h]
theorem NT(b:Bool):unA .not (.bool b)=some (.bool !b):=rT
theorem NS(k:IntKind)(n:Int):unA .neg (.int k n)=some (.int k (k.wrap (0-n))):=rT
theorem bap(ts:List TypeId)(s x:Value):D3 P .append ts [s,x] H=C3 P H ts s x:=rT
theorem bcp(ts:List TypeId)(s x:Value):D3 P .copy ts [s,x] H=je P H ts s x:=rT
end
theorem EA(b:Bool):L0 (.bool b)=true:=rT
theorem Nl(k:IntKind)(n:Int):L0 (.int k n)=true:=rT
theorem xS(s:ByteArray):L0 (.string s)=true:=rT
theorem BI(v:Value):aA [v]=v:=rT
theorem BJ(a b:Value):aA [a,b]= .tuple #[a,b]:=rT
theorem uj(a b c:Value):aA [a,b,c]= .tuple #[a,b,c]:=rT
theorem nG(a b:Value):L0 (.tuple #[a,b])=(na1 a&&na1 b):=by simp [L0]
theorem nI(a b c:Value):L0 (.tuple #[a,b,c])=(na1 a&&(na1 b&&na1 c)):=by simp [L0]
theorem Bt(b:Bool):na1 (.bool b)=true:=rT
theorem Ey(k:IntKind)(n:Int):na1 (.int k n)=true:=rT
theorem tY(s:ByteArray):na1 (.string s)=true:=rT
theorem xR(a:Addr)(n c:Nat):na1 (.slice (some a) n c)=false:=rT
theorem Ez:na1 (.slice none 0 0)=true:=rT
theorem Bu(a:Addr)(n c:Nat):L0 (.slice (some a) n c)=false:=rT
theorem Nm:L0 (.slice none 0 0)=true:=rT
theorem kj(rs:List ResultVar)(H:d9)(e:Env)(H':d9):u5 P rs H (some (.normal,e,H'))=(rs.mapM (L3 P e H')).map fun vs=>D4 (aA vs) H H':=rT
theorem qh(rs:List ResultVar)(H:d9)(e:Env)(H':d9):u5 P rs H (some (.ret,e,H'))=(rs.mapM (L3 P e H')).map fun vs=>D4 (aA vs) H H':=rT
theorem EV(e:Env)(H:d9)(t:Nat):[ResultVar.tmp t].mapM (L3 P e H)=some [e.get t]:=rT
theorem EW(e:Env)(H:d9)(t u:Nat):[ResultVar.tmp t,.tmp u].mapM (L3 P e H)=some [e.get t,e.get u]:=rT
theorem yw(e:Env)(H:d9)(t u v:Nat):[ResultVar.tmp t,.tmp u,.tmp v].mapM (L3 P e H)=some [e.get t,e.get u,e.get v]:=rT
end
def br{α:Type}(t:Bool)(x y:α):Of x (Of y α):=if t=true then x else y
theorem CT{α:Type}(x y:α):br true x y=x:=rT
theorem zu{α:Type}(x y:α):br false x y=y:=rT
theorem GZ{α:Type}(t:Bool)(x y:α):br (!t) x y=br t y x:=by cases t<;>rfl
section
variable{P:Program}{X:Lib}
@[congr] theorem NY {c:Code} {e e':Env} {H H':d9} (he:e=e') (hH:H=H'):EL P X c e H=EL P X c e' H':=by rw[he,hH]
@[congr] theorem EZ {C:A5} {ops:Array Oper} {l:List Oper} {e e':Env} {H H':d9} (he:e=e') (hH:H=H'):C6 P C ops l e H=C6 P C ops l e' H':=by rw[he,hH]
@[congr] theorem DY {ops:Array Oper} {j:Nat} {b:Bool} {e e':Env} (he:e=e'):AU ops j b e=AU ops j b e':=by rw[he]
end
theorem zL{α:Type}(t:Bool)(x y:Option α):Oh (.bool t) x y=br t x y:=by cases t<;>rfl
section
variable{P:Program}{X:Lib}
def Fu(r:Option (Value×Option d9))(f:Value→Option (Env×d9))(g:Value→d9→Option (Env×d9)):Of f (Of g (Option (Env×d9))):=
 match r with
 |some (v,none)=>f v
 |some (v,some H')=>g v H'
 |none=>none
theorem sU(v:Value)(f:Value→Option (Env×d9))(g:Value→d9→Option (Env×d9)):Fu (some (v,none)) f g=f v:=rT
theorem sV(v:Value)(H':d9)(f:Value→Option (Env×d9))(g:Value→d9→Option (Env×d9)):Fu (some (v,some H')) f g=g v H':=rT
theorem xF(f:Operand)(a:Array Operand)(t:Array TypeId):isCall (.call ⟨.value f,a,t⟩)=true:=rT
theorem xE(f:Builtin)(a:Array Operand)(t:Array TypeId):isCall (.call ⟨.builtin f,a,t⟩)=false:=rT
theorem qO(x:Operand):isCall (.move x)=false:=rT
theorem mA(x:Operand):isCall (.assign x)=false:=rT
theorem qP(x y z:Operand):isCall (.pick x y z)=false:=rT
theorem tM(o:BinOp)(t:TypeId)(x y:Operand)(u:TypeId):isCall (.binOp o t x y u)=false:=rT
theorem xG(o:UnOp)(t:TypeId)(x:Operand):isCall (.unOp o t x)=false:=rT
theorem qN(t:TypeId)(x:Operand):isCall (.load t x)=false:=rT
theorem oY(t:TypeId)(x:Operand)(i:Nat):isCall (.field t x i)=false:=rT
theorem iC(t:TypeId)(x:Operand)(i:Nat):isCall (.fieldAddr t x i)=false:=rT
theorem oZ(t:TypeId)(x i:Operand):isCall (.index t x i)=false:=rT
theorem iE(t:TypeId)(x i:Operand):isCall (.indexAddr t x i)=false:=rT
theorem kO(s t:TypeId)(x:Operand):isCall (.convert s t x)=false:=rT
theorem kP(x:Operand)(i:Nat):isCall (.extract x i)=false:=rT
theorem oX(t:TypeId)(p:Array (Nat×Operand)):isCall (.build t p)=false:=rT
theorem pd(t:TypeId)(x:Operand)(a b c:Option Operand):isCall (.slice t x a b c)=false:=rT
theorem mB(t:TypeId)(x y:Operand)(b:Bool):isCall (.lookup t x y b)=false:=rT
def brl{α:Type}(v:Value)(b:Bool)(x y:Option α):Of x (Of y (Option α)):=if tO v=true then none else if isB v b=true then x else y
theorem zw{α:Type}(t:Bool)(x y:Option α):brl (.bool t) true x y=br t x y:=by cases t<;>rfl
theorem wE{α:Type}(t:Bool)(x y:Option α):brl (.bool t) false x y=br t y x:=by cases t<;>rfl
theorem CU{α:Type}(b:Bool)(x y:Option α):brl undef b x y=y:=by cases b<;>rfl
end
section
variable{H:d9}{B:Blk}{b c:Nat}
theorem i5:(H.push B).next=H.next+1:=by simp [d9.next,d9.push]
theorem j5:(H.put b B).next=H.next:=by simp [d9.next,d9.put]
theorem i7:(H.push B).get H.next=some B:=by simp [d9.get,d9.push,d9.next]
theorem y7(h:b≤H.next∧H.next≤b):(H.push B).get b=some B:=by
 obtain rfl:b=H.next:=oM;exact i7
theorem j6(h:b<H.next):(H.push B).get b=H.get b:=by
 simp only[d9.get,d9.push];exact List.getElem?_append_left h
theorem i8(h:b<H.next):(H.put b B).get b=some B:=by
 simp only[d9.get,d9.put,List.getElem?_set];simp;exact h
theorem i9(h:b≠c):(H.put b B).get c=H.get c:=by
 simp only[d9.get,d9.put,List.getElem?_set,if_neg h]
theorem u6(h:H.get b=some B):b<H.next:=(List.getElem?_eq_some_iff.1 h).1
theorem t5:(H.push B).low=H.low:=rT
theorem A4:(H.put b B).low=min H.low b:=rT
theorem vJ(bs:List Blk)(n:Nat):(⟨bs,n⟩:d9).next=bs.length:=rT
theorem qX(H:d9):H.bs.length=H.next:=rT
end
section
variable{P:Program}
def ldB(P:Program)(t:TypeId)(o:Nat)(B:Option Blk):Option Value:=
 match B with
 |some (.cells c _ _)=>
  match E7 P t with
  |some true=>
   match z9 P t with
   |some s=>if o+s≤c.length then some (.agg ((c.drop o).take s).toArray) else none
   |none=>none
  |some false=>c[o]?
  |none=>none
 |_=>none
theorem MW(t:TypeId)(H:d9)(b o:Nat):ld P t H (.pointer (some ⟨b,o,none⟩))=ldB P t o (H.get b):=by
 simp only[ld,ldB];cases H.get b with
 |none=>rfl
 |some B=>cases B<;>rfl
def ldC(a:Option Bool)(s:Option Nat)(o:Nat)(c:LV):Option Value:=
 match a with
 |some true=>
  match s with
  |some s=>if o+s≤c.length then some (.agg ((c.drop o).take s).toArray) else none
  |none=>none
 |some false=>c[o]?
 |none=>none
theorem xI(t:TypeId)(o:Nat)(c:LV)(own:Bool)(sz:Nat):ldB P t o (some (.cells c own sz))=ldC (E7 P t) (z9 P t) o c:=rT
theorem eX(s o:Nat)(c:LV)(h:o+s≤c.length):ldC (some true) (some s) o c=some (.agg ((c.drop o).take s).toArray):=by simp [ldC,h]
theorem kB{α:Type}{enc:α→LV}{sz:Nat}(hs:∀a,(enc a).length=sz):∀{l:List α}{i:Nat}{a:α},l[i]?=some a→i*sz+sz≤(l.flatMap enc).length∧((l.flatMap enc).drop (i*sz)).take sz=enc a
 |[],i,a,h=>by simp at h
 |x::l,0,a,h=>by
  simp at h;subst h;have:=hs x;simp only[List.flatMap_cons,Nat.zero_mul,List.drop_zero,List.length_append,this,Nat.zero_add];refine⟨oM,?_⟩;rw[←this,List.take_append_of_le_length lR,List.take_length]
 |x::l,i+1,a,h=>by
  have hx:=hs x;obtain⟨h1,h2⟩:=kB hs (l:=l) (i:=i) (a:=a) (by simpa using h);have e:(i+1)*sz=(enc x).length+i*sz:=by rw[hx,Nat.add_mul];omega
  rw[List.flatMap_cons,e];refine⟨by rw[List.length_append];omega,?_⟩;rw[←List.drop_drop,List.drop_left];exact h2
theorem Ej(s:Option Nat)(o:Nat)(c:LV):ldC (some false) s o c=c[o]?:=rT
theorem BQ(e:Env)(H:d9)(a:Nat)(t:TypeId):[ResultVar.cell a t].mapM (L3 P e H)=(ld P t H (e.get a)).map fun v=>[v]:=by
 simp only[List.mapM_cons,List.mapM_nil,L3];cases ld P t H (e.get a)<;>rfl
def x9(s:ByteArray)(i:Nat):Int:=(s.data.toList.getD i 0).toNat
def MO(d:Option TypeDesc)(s:ByteArray)(i:Nat):Option Value:=
 match d with
 |some .string=>some (.int .u8 (x9 s i))
 |_=>none
theorem AY(s:ByteArray)(i:Nat):MO (some .string) s i=some (.int .u8 (x9 s i)):=rT
theorem tL(t:TypeId)(s:ByteArray)(k:IntKind)(i:Int)(h0:0≤i)(h1:i<s.size):eo P t (.string s) (.int k i)=MO (P.underlying t) s i.toNat:=by
 simp only[eo,MO];cases P.underlying t with
 |none=>rfl
 |some d=>cases d<;>first|rfl|(simp [h0,h1,x9])
def Ea(P:Program)(d:Option TypeDesc)(cs:LV)(i:Int):Option Value:=
 match d with
 |some (.array n e)=>match z9 P e with
  |some size=>if 0≤i∧i<n then fq P e cs (i.toNat*size) else none
  |none=>none
 |_=>none
theorem xD(t:TypeId)(a:Array Value)(k:IntKind)(i:Int):eo P t (.agg a) (.int k i)=Ea P (P.underlying t) a.toList i:=by
 simp only[eo,Ea];cases P.underlying t with
 |none=>rfl
 |some d=>cases d<;>rfl
def MN(P:Program)(e:TypeId)(s:Option Nat)(cs:LV)(i:Int):Option Value:=
 match s with
 |some size=>fq P e cs (i.toNat*size)
 |none=>none
theorem AX(n:Nat)(e:TypeId)(cs:LV)(i:Int)(h0:0≤i)(h1:i<n):Ea P (some (.array n e)) cs i=MN P e (z9 P e) cs i:=by simp [Ea,MN,h0,h1]
theorem xC(e:TypeId)(s:Nat)(cs:LV)(i:Int):MN P e (some s) cs i=fq P e cs (i.toNat*s):=rT
def NO(P:Program)(t:TypeId)(H:d9)(b o:Nat)(x:LV)(B:Option Blk):Option d9:=
 match B with
 |some (.cells c true sz)=>if z9 P t=some x.length∧o+x.length≤c.length∧x.all Value.oneCell'=true then some (H.put b (.cells (splice c o x) true sz)) else none
 |_=>none
theorem Fj(t:TypeId)(H:d9)(b o:Nat)(x:Value):sto P t H (.pointer (some ⟨b,o,none⟩)) x=NO P t H b o x.cells.toList (H.get b):=by
 simp only[sto,NO];cases H.get b with
 |none=>rfl
 |some B=>cases B with
  |cells c own sz=>cases own<;>rfl
  |_=>rfl
theorem yC(t:TypeId)(H:d9)(b o:Nat)(x:LV)(c:LV)(sz:Nat):NO P t H b o x (some (.cells c true sz))=
  if z9 P t=some x.length∧o+x.length≤c.length∧x.all Value.oneCell'=true then some (H.put b (.cells (splice c o x) true sz)) else none:=rT
theorem wK(a:Array Value):(Value.agg a).cells.toList=a.toList:=rT
theorem wL(k:IntKind)(n:Int):(Value.int k n).cells.toList=[.int k n]:=rT
theorem sP(b:Bool):(Value.bool b).cells.toList=[.bool b]:=rT
theorem oL(s:ByteArray):(Value.string s).cells.toList=[.string s]:=rT
theorem qj(a:Option Addr)(n c:Nat):(Value.slice a n c).cells.toList=[.slice a n c]:=rT
theorem mw(a:Option Addr):(Value.pointer a).cells.toList=[.pointer a]:=rT
theorem wM(a:Option Nat):(Value.map a).cells.toList=[.map a]:=rT
theorem sQ{f:_}(a c:Array Value):(Value.func f a c).cells.toList=[.func f a c]:=rT
theorem EG(k:IntKind)(n:Int):Value.oneCell' (.int k n)=true:=rT
theorem BD(b:Bool):Value.oneCell' (.bool b)=true:=rT
theorem uh(s:ByteArray):Value.oneCell' (.string s)=true:=rT
theorem ya(a:Option Addr)(n c:Nat):Value.oneCell' (.slice a n c)=true:=rT
theorem rr(a:Option Addr):Value.oneCell' (.pointer a)=true:=rT
theorem EH(a:Option Nat):Value.oneCell' (.map a)=true:=rT
theorem BE{f:_}(a c:Array Value):Value.oneCell' (.func f a c)=true:=rT
theorem uL(c:LV)(o:Nat):splice c o []=c:=rT
theorem rR(c:LV)(o:Nat)(x:Value)(xs:LV):splice c o (x::xs)=splice (c.set o x) (o+1) xs:=rT
theorem Cc(x y:Value)(l:LV):(x::l).set 0 y=y::l:=rT
theorem Cb(x y:Value)(l:LV)(n:Nat):(x::l).set (n+1) y=x::l.set n y:=rT
def fF(P:Program)(q:Option (Nat×TypeId))(b o:Nat):Option Value:=
 match q with
 |some (off,ft)=>match z9 P ft with
  |some s=>if s=0 then none else some (.pointer (some ⟨b,o+off,none⟩))
  |none=>none
 |none=>none
theorem my(t:TypeId)(i b o:Nat):Z7 P t (.pointer (some ⟨b,o,none⟩)) i=fF P (E0 P t i) b o:=by
 simp only[Z7,fF];cases E0 P t i<;>rfl
def GK(s:Option Nat)(b o off:Nat):Option Value:=
 match s with
 |some s=>if s=0 then none else some (.pointer (some ⟨b,o+off,none⟩))
 |none=>none
theorem jC(off:Nat)(ft:TypeId)(b o:Nat):fF P (some (off,ft)) b o=GK (z9 P ft) b o off:=rT
theorem uQ(s b o off:Nat):GK (some s) b o off=if s=0 then none else some (.pointer (some ⟨b,o+off,none⟩)):=rT
def BK(a:Option Bool)(s:Option Nat)(cs:LV)(off:Nat):Option Value:=
 match a,s with
 |some true,some s=>some (.agg ((cs.drop off).take s).toArray)
 |some false,_=>cs[off]?
 |_,_=>none
theorem EO(t:TypeId)(cs:LV)(off:Nat):fq P t cs off=BK (E7 P t) (z9 P t) cs off:=rT
theorem yg(s:Nat)(cs:LV)(off:Nat):BK (some true) (some s) cs off=some (.agg ((cs.drop off).take s).toArray):=rT
theorem yh(s:Option Nat)(cs:LV)(off:Nat):BK (some false) s cs off=cs[off]?:=rT
def tq(P:Program)(q:Option (Nat×TypeId))(a:LV):Option Value:=
 match q with
 |some (off,ft)=>fq P ft a off
 |none=>none
theorem xk(t:TypeId)(i:Nat)(a:Array Value):iA P t (.agg a) i=tq P (E0 P t i) a.toList:=by
 simp only[iA,tq];cases E0 P t i<;>rfl
theorem qy(off:Nat)(ft:TypeId)(a:LV):tq P (some (off,ft)) a=fq P ft a off:=rT
def tH(s:Option Nat)(b o:Nat)(i:Int):Option Value:=
 match s with
 |some s=>some (.pointer (some ⟨b,o+i.toNat*s,none⟩))
 |none=>none
theorem xB(s b o:Nat)(i:Int):tH (some s) b o i=some (.pointer (some ⟨b,o+i.toNat*s,none⟩)):=rT
def MM(P:Program)(d:Option TypeDesc)(b o:Nat)(i:Int):Option Value:=
 match d with
 |some (.slice e)=>tH (z9 P e) b o i
 |_=>none
theorem tI(e:TypeId)(b o:Nat)(i:Int):MM P (some (.slice e)) b o i=tH (z9 P e) b o i:=rT
theorem jF(t:TypeId)(b o n c:Nat)(k:IntKind)(i:Int)(h0:0≤i)(h1:i<n):
  R9 P t (.slice (some ⟨b,o,none⟩) n c) (.int k i)=MM P (P.underlying t) b o i:=by
 simp only[R9,MM];cases h:P.underlying t with
 |none=>rfl
 |some d=>
  cases d<;>first|rfl|skip
  rename_i e;simp only[tH];cases z9 P e with
  |none=>rfl
  |some s=>simp [h0,h1]
def DZ(P:Program)(d:Option TypeDesc)(b o:Nat)(i:Int):Option Value:=
 match d with
 |some (.array m e)=>if 0≤i∧i<m then tH (z9 P e) b o i else none
 |_=>none
theorem tJ(m:Nat)(e:TypeId)(b o:Nat)(i:Int)(h0:0≤i)(h1:i<m):DZ P (some (.array m e)) b o i=tH (z9 P e) b o i:=by simp [DZ,h0,h1]
theorem jE(t:TypeId)(b o:Nat)(k:IntKind)(i:Int):R9 P t (.pointer (some ⟨b,o,none⟩)) (.int k i)=DZ P (P.underlying t) b o i:=by
 simp only[R9,DZ];cases h:P.underlying t with
 |none=>rfl
 |some d=>
  cases d<;>first|rfl|skip
  rename_i m e;simp only[tH];cases z9 P e with
  |none=>simp
  |some s=>rfl
theorem ED(a:Addr):EB (.pointer (some a))=some (.pointer (some a)):=rT
theorem EC(g:FuncId)(f c:Array Value):EB (.func (.func g) f c)=some (.func (.func g) f c):=rT
def sK(z:Option (LV))(q:Option (List (Nat×Nat)⊕Nat))(parts:List (Nat×Value)):Option Value:=
 match z,q with
 |some z,some (.inl ps)=>(Q6 (fun i=>ps[i]?) z parts).map fun l=> .agg l.toArray
 |some z,some (.inr s)=>(Q6 (fun i=>some (i*s,s)) z parts).map fun l=> .agg l.toArray
 |_,_=>none
theorem zy(t:TypeId)(parts:List (Nat×Value)):kl P t parts=sK (B8 P t) (bL P t) parts:=rT
theorem mt(z:LV)(ps:List (Nat×Nat))(parts:List (Nat×Value)):sK (some z) (some (.inl ps)) parts=(Q6 (fun i=>ps[i]?) z parts).map fun l=> .agg l.toArray:=rT
theorem oH(z:LV)(s:Nat)(parts:List (Nat×Value)):sK (some z) (some (.inr s)) parts=(Q6 (fun i=>some (i*s,s)) z parts).map fun l=> .agg l.toArray:=rT
theorem AK(place:Nat→Option (Nat×Nat))(cs:LV):Q6 place cs []=some cs:=rT
def AJ(place:Nat→Option (Nat×Nat))(cs:LV)(v:LV)(rest:List (Nat×Value))(q:Option (Nat×Nat)):Option (LV):=
 match q with
 |none=>none
 |some (off,size)=>if v.length=size∧off+size≤cs.length∧v.all Value.oneCell'=true then Q6 place (splice cs off v) rest else none
theorem xl(place:Nat→Option (Nat×Nat))(cs:LV)(i:Nat)(v:Value)(rest:List (Nat×Value)):Q6 place cs ((i,v)::rest)=AJ place cs v.cells.toList rest (place i):=by
 simp only[Q6,AJ];cases place i with
 |none=>rfl
 |some q=>
  simp only;cases hq:v.cells.toList.all Value.oneCell' with
  |true=>
   by_cases h:v.cells.toList.length=q.2∧q.1+q.2≤cs.length
   ·rw[if_neg (fun k=>by rcases k with k|k|k;exact k h.1;omega;cases k),if_pos ⟨h.1,h.2,rfl⟩]
   ·rw[if_pos (by by_cases h1:v.cells.toList.length=q.2;exact .inr (.inl oM);exact .inl h1),if_neg (fun k=>h ⟨k.1,k.2.1⟩)]
  |false=>rw[if_pos (.inr (.inr rfl)),if_neg (fun k=>by cases k.2.2)]
theorem tu(place:Nat→Option (Nat×Nat))(cs:LV)(v:LV)(rest:List (Nat×Value))(off size:Nat):
  AJ place cs v rest (some (off,size))=if v.length=size∧off+size≤cs.length∧v.all Value.oneCell'=true then Q6 place (splice cs off v) rest else none:=rT
def bsB(z:Option (LV))(H:d9)(len:Nat)(parts:List (Nat×Value)):Option (Value×d9):=
 match z with
 |some z=>
  if z.length≠0∧len*z.length≤16777216∧(parts.all fun p=>p.2.cells.toList.all Value.oneCell')=true then
   (Q6 (fun i=>some (i*z.length,z.length)) (List.replicate len z).flatten parts).map fun cs=>(.slice (some ⟨H.next,0,none⟩) len len,H.push (.cells cs true z.length))
  else none
 |none=>none
def bsA(P:Program)(e:Option TypeId)(H:d9)(len:Nat)(parts:List (Nat×Value)):Option (Value×d9):=
 match e with
 |some e=>bsB (B8 P e) H len parts
 |none=>none
theorem mu(t:TypeId)(H:d9)(len:Nat)(parts:List (Nat×Value)):O9 P H t len parts=bsA P (I2 P t) H len parts:=by
 simp only[O9,bsA];cases I2 P t with
 |none=>rfl
 |some e=>
  simp only[bsB];cases B8 P e with
  |none=>rfl
  |some z=>
   simp only;by_cases h:z.length≠0∧len*z.length≤16777216∧(parts.all fun p=>p.2.cells.toList.all Value.oneCell')=true
   ·rw[if_pos h,if_neg (by rw[h.2.2];simp only[Bool.true_eq_false,or_false];omega)];cases Q6 (fun i=>some (i*z.length,z.length)) (List.replicate len z).flatten parts<;>rfl
   ·rw[if_neg h,if_pos];by_cases h3:(parts.all fun p=>p.2.cells.toList.all Value.oneCell')=true
    ·rw[h3]at h ⊢;simp only[and_true,Bool.true_eq_false,or_false]at h ⊢;omega
    ·exact .inr (.inr (by simpa using h3))
theorem C7(e:TypeId)(H:d9)(len:Nat)(parts:List (Nat×Value)):bsA P (some e) H len parts=bsB (B8 P e) H len parts:=rT
theorem C8(z:LV)(H:d9)(len:Nat)(parts:List (Nat×Value)):bsB (some z) H len parts=
  if z.length≠0∧len*z.length≤16777216∧(parts.all fun p=>p.2.cells.toList.all Value.oneCell')=true then
   (Q6 (fun i=>some (i*z.length,z.length)) (List.replicate len z).flatten parts).map fun cs=>(.slice (some ⟨H.next,0,none⟩) len len,H.push (.cells cs true z.length))
  else none:=rT
def zP(s d:Option TypeDesc)(n:Int):Option (Value×Option d9):=
 match s,d with
 |some _,some (.int k)=>some (.int k (k.wrap n),none)
 |_,_=>none
theorem CZ(H:d9)(s d:TypeId)(k:IntKind)(n:Int):W8 P H s d (.int k n)=zP (P.underlying s) (P.underlying d) n:=by
 simp only[W8,zP];cases P.underlying s with
 |none=>rfl
 |some a=>cases P.underlying d with
  |none=>cases a<;>rfl
  |some b=>cases a<;>cases b<;>rfl
theorem td(a:TypeDesc)(k:IntKind)(n:Int):zP (some a) (some (.int k)) n=some (.int k (k.wrap n),none):=rT
def MY(d:Option TypeDesc)(s:ByteArray):Option (Value×Option d9):=
 match d with
 |some .string=>some (.int .i64 s.size,none)
 |some (.array n _)=>some (.int .i64 n,none)
 |_=>none
theorem El(H:d9)(t:TypeId)(s:ByteArray):D3 P .len [t] [.string s] H=MY (P.underlying t) s:=by
 simp only[D3,Bi,MY,List.head?_cons,Option.bind_some];cases P.underlying t with
 |none=>rfl
 |some d=>cases d<;>rfl
theorem Bj(s:ByteArray):MY (some .string) s=some (.int .i64 s.size,none):=rT
def MZ(d:Option TypeDesc)(n:Nat):Option (Value×Option d9):=
 match d with
 |some (.slice _)=>some (.int .i64 n,none)
 |some (.array m _)=>some (.int .i64 m,none)
 |_=>none
theorem Em(H:d9)(t:TypeId)(a:Option Addr)(n c:Nat):D3 P .len [t] [.slice a n c] H=MZ (P.underlying t) n:=by
 simp only[D3,Bi,MZ,List.head?_cons,Option.bind_some];cases P.underlying t with
 |none=>rfl
 |some d=>cases d<;>rfl
theorem tT(e:TypeId)(n:Nat):MZ (some (.slice e)) n=some (.int .i64 n,none):=rT
theorem wrap_small{n:Int}(h0: -9223372036854775808≤n)(h1:n≤9223372036854775807):IntKind.wrap .i64 n=n:=by
 simp [IntKind.wrap,IntKind.min,IntKind.max,IntKind.signed,IntKind.bits];omega
theorem dd(v:Value)(H H':d9)(hv:L0 v=true)(hl:H.next≤H'.low):D4 v H H'=(v,none):=by
 unfold D4;rw[hv];simp only[Bool.true_and,decide_eq_true_eq];exact if_pos hl
theorem qB(b:Bool)(H H':d9)(hl:H.next≤H'.low):D4 (.bool b) H H'=(.bool b,none):=dd _ _ _ rfl hl
theorem kA(k:IntKind)(n:Int)(H H':d9)(hl:H.next≤H'.low):D4 (.int k n) H H'=(.int k n,none):=dd _ _ _ rfl hl
theorem mz(s:ByteArray)(H H':d9)(hl:H.next≤H'.low):D4 (.string s) H H'=(.string s,none):=dd _ _ _ rfl hl
theorem tA(H H':d9)(hl:H.next≤H'.low):D4 (.slice none 0 0) H H'=(.slice none 0 0,none):=dd _ _ _ rfl hl
theorem qD(a b:Value)(H H':d9)(hl:H.next≤H'.low):D4 (.tuple #[a,b]) H H'=br (na1 a&&na1 b) (.tuple #[a,b],none) (.tuple #[a,b],some ⟨H'.bs,min H.low H'.low⟩):=by
 unfold D4 br;rw[nG];by_cases h:(na1 a&&na1 b)=true
 ·rw[if_pos h,h];simp only[Bool.true_and,decide_eq_true_eq];exact if_pos hl
 ·rw[if_neg h];simp only[Bool.not_eq_true]at h;rw[h];rfl
theorem qE(a b c:Value)(H H':d9)(hl:H.next≤H'.low):D4 (.tuple #[a,b,c]) H H'=br (na1 a&&(na1 b&&na1 c)) (.tuple #[a,b,c],none) (.tuple #[a,b,c],some ⟨H'.bs,min H.low H'.low⟩):=by
 unfold D4 br;rw[nI];by_cases h:(na1 a&&(na1 b&&na1 c))=true
 ·rw[if_pos h,h];simp only[Bool.true_and,decide_eq_true_eq];exact if_pos hl
 ·rw[if_neg h];simp only[Bool.not_eq_true]at h;rw[h];rfl
theorem oU(a:Addr)(n c:Nat)(H H':d9):D4 (.slice (some a) n c) H H'=(.slice (some a) n c,some ⟨H'.bs,min H.low H'.low⟩):=rT
theorem tz(vs:Array Value)(H H':d9)(hl:H.next≤H'.low):D4 (.agg vs) H H'=br (vs.toList.all na0) (.agg vs,none) (.agg vs,some ⟨H'.bs,min H.low H'.low⟩):=by
 unfold D4 br;have e:L0 (.agg vs)=vs.toList.all na0:=rT;rw[e];by_cases h:vs.toList.all na0=true
 ·rw[if_pos h,h];simp only[Bool.true_and,decide_eq_true_eq];exact if_pos hl
 ·rw[if_neg h];simp only[Bool.not_eq_true]at h;rw[h];rfl
theorem Br(b:Bool):na0 (.bool b)=true:=rT
theorem gO(k:IntKind)(n:Int):na0 (.int k n)=true:=rT
theorem tX(s:ByteArray):na0 (.string s)=true:=rT
theorem xQ(a:Addr)(n c:Nat):na0 (.slice (some a) n c)=false:=rT
theorem Ex:na0 (.slice none 0 0)=true:=rT
def u9(x:Option (Out×Env×d9))(G:Out→Env→d9→Prop):Of G Prop:=∃o e H,x=some (o,e,H)∧G o e H
theorem cQ(o:Out)(e:Env)(H:d9)(G:Out→Env→d9→Prop):u9 (some (o,e,H)) G=G o e H:=by
 refine propext ⟨?_,fun h=>⟨o,e,H,rfl,h⟩⟩;rintro⟨o',e',H',h,hG⟩;cases h;exact hG
def dy(n:Nat)(I:Nat→Env→d9→Prop)(Q:Out→Env→d9→Prop)(o:Out)(e:Env)(H:d9):Of n (Of I (Of Q Prop)):=
 match o with
 | .normal=>∃m,m<n∧I m e H
 | .exit i=>Q (.exit i) e H
 | .ret=>Q .ret e H
theorem i6{n:Nat}{I:Nat→Env→d9→Prop}{Q:Out→Env→d9→Prop}{e:Env}{H:d9}(m:Nat)(hm:m<n)(h:I m e H):dy n I Q .normal e H:=⟨m,hm,h⟩
theorem l7{n:Nat}{I:Nat→Env→d9→Prop}{Q:Out→Env→d9→Prop}{i:Nat}{e:Env}{H:d9}(h:Q (.exit i) e H):dy n I Q (.exit i) e H:=h
theorem A6{n:Nat}{I:Nat→Env→d9→Prop}{Q:Out→Env→d9→Prop}{e:Env}{H:d9}(h:Q .ret e H):dy n I Q .ret e H:=h
end
end Go.Proofs.YtofbhlhamfkljaaGreatDoor.Ve
namespace Go.Proofs.YtofbhlhamfkljaaGreatDoor.Ve
open Go Go.RowKit
set_option linter.unusedVariables false
set_option linter.unusedSimpArgs false
set_option maxHeartbeats 0
structure LOp where
 dst:Option Tmp
 op:Op
 guard:Option (Tmp×Bool)
structure ML where
 o:LOp
 turn:Bool
 rd:Bool
 lo:Nat
 hi:Nat
inductive E4 where
 |skip
 |ret
 |exit (id:Nat)
 |ops (l:List LOp)
 |draw (l:List (LOp×Bool))
 |mix (l:List ML)
 |seq (a b:E4)
 |cond (x:Operand) (a b:E4)
 |block (id:Nat) (a:E4)
 |loop (a:E4)
 |scope (a:E4)
 |coin (l1 l2:List LOp) (ds:List Nat) (b:E4)
def lop(ops:Array Oper)(o:Oper):Option LOp:=
 match o.guard with
 |none=>some ⟨o.dst,o.op,none⟩
 |some (j,b)=>match(ops[j]?).bind (·.dst)with
  |some d=>some ⟨o.dst,o.op,some (d,b)⟩
  |none=>none
def pp(ops:Array Oper):List Oper→Option (List LOp)
 |[]=>some []
 |o::r=>match lop ops o,pp ops r with
  |some x,some xs=>some (x::xs)
  |_,_=>none
def jq(ops:Array Oper):Nat→List Oper→Option (List (LOp×Bool))
 |_,[]=>some []
 |i,o::r=>match lop ops o,jq ops (i+1) r with
  |some x,some xs=>some ((x,vS ops i)::xs)
  |_,_=>none
def Bk(ops:Array Oper):List (Oper×Nat×Nat)→Option (List ML)
 |[]=>some []
 |(o,lo,hi)::r=>match lop ops o,Bk ops r with
  |some x,some xs=>some (⟨x,A8 o.op,rdK o.op,lo,hi⟩::xs)
  |_,_=>none
def O7:Code→Option E4
 | .skip=>some .skip
 | .ret=>some .ret
 | .exit id=>some (.exit id)
 | .region _ ops draw=>
  if draw then(if pq ops then(if jt ops (E6 ops.toList []) then(Bk ops (gL ops)).map .mix else none) else if Region.lexB .any ops then(jq ops 0 ops.toList).map .draw else none) else(pp ops ops.toList).map .ops
 | .seq a b=>match dW a b with
  |some z=>match pp z.ops z.l1,pp z.ops z.l2,O7 b with
   |some x,some y,some b'=>some (.coin x y z.ds b')
   |_,_,_=>none
  |none=>match O7 a,O7 b with
   |some x,some y=>some (.seq x y)
   |_,_=>none
 | .cond c a b=>match O7 a,O7 b with
  |some x,some y=>some (.cond c x y)
  |_,_=>none
 | .block id a=>(O7 a).map (.block id)
 | .loop a=>(O7 a).map .loop
 | .scope a=>(O7 a).map .scope
 |_=>none
section
variable{P:Program}
def ot(e:Env):Option (Tmp×Bool)→Bool
 |none=>true
 |some (d,b)=>isB (e.get d) b
def gI(e:Env):Option (Tmp×Bool)→Bool
 |none=>false
 |some (d,_)=>tO (e.get d)
def bO(P:Program)(C:A5):List LOp→Env→d9→Option (Env×d9)
 |[],e,H=>some (e,H)
 |o::rest,e,H=>
  if gI e o.guard then none else if ot e o.guard then
   match aop P C o.op e H with
   |some (v,none)=>bO P C rest (P7 e o.dst v) H
   |some (v,some H')=>bO P C rest (P7 e o.dst v) H'
   |none=>none
  else bO P C rest (P7 e o.dst undef) H
def eF(P:Program)(C:A5):Bool→List (LOp×Bool)→Env→d9→Option (Env×d9)
 |_,[],e,H=>some (e,H)
 |q,(o,t)::rest,e,H=>
  if gI e o.guard then none else if ot e o.guard then
   match aop P C o.op e H with
   |some (v,none)=>eF P C (q||isCall o.op) rest (P7 e o.dst v) H
   |some (v,some H')=>if !q&&t then bO P C (rest.map (·.1)) (P7 e o.dst v) H' else none
   |none=>none
  else eF P C q rest (P7 e o.dst undef) H
open Classical in
noncomputable def T2(P:Program)(C:A5):Nat→List (Nat×d9)→List (Op×Env×Value×Nat)→List ML→Env→d9→Option (Env×d9)
 |_,_,_,[],e,H=>some (e,H)
 |t,Ks,obs,⟨o,tn,rd,lo,hi⟩::rest,e,H=>
  if gI e o.guard then none else if ot e o.guard then
   if tn then
    match aop P C o.op e H with
    |some (v,r)=>if sS P obs (t+1) (r.getD H) then T2 P C (t+1) ((t,H)::Ks) obs rest (P7 e o.dst v) (r.getD H) else none
    |none=>none
   else
    match aop P noC o.op e H with
    |some (v,none)=>if rd then(if sR P o.op e v lo Ks then T2 P C t Ks ((o.op,e,v,hi)::obs) rest (P7 e o.dst v) H else none) else T2 P C t Ks obs rest (P7 e o.dst v) H
    |_=>none
  else if tn then T2 P C (t+1) ((t,H)::Ks) obs rest (P7 e o.dst undef) H
  else T2 P C t Ks obs rest (P7 e o.dst undef) H
noncomputable def F7(P:Program)(C:A5):Nat→E4→Env→d9→Option (Out×Env×d9)
 |0,_,_,_=>none
 |k+1,c,e,H=>
  match c with
  | .skip=>some (.normal,e,H)
  | .ret=>some (.ret,e,H)
  | .exit id=>some (.exit id,e,H)
  | .ops l=>
   match bO P C l e H with
   |some (e',H')=>some (.normal,e',H')
   |none=>none
  | .draw l=>
   match eF P C false l e H with
   |some (e',H')=>some (.normal,e',H')
   |none=>none
  | .mix l=>
   match T2 P C 0 [] [] l e H with
   |some (e',H')=>some (.normal,e',H')
   |none=>none
  | .seq a b=>
   match F7 P C k a e H with
   |some (.normal,e',H')=>F7 P C k b e' H'
   |r=>r
  | .cond x a b=>
   match opv e x with
   | .bool t=>F7 P C k (if t then a else b) e H
   |_=>none
  | .block id a=>
   match F7 P C k a e H with
   |some (.exit i,e',H')=>if i=id then some (.normal,e',H') else some (.exit i,e',H')
   |r=>r
  | .loop a=>
   match F7 P C k a e H with
   |some (.normal,e',H')=>F7 P C k (.loop a) e' H'
   |r=>r
  | .scope a=>F7 P C k a e H
  | .coin l1 l2 ds b=>
   match bO P C l1 e H,bO P C l2 e H with
   |some (e1,H1),some (e2,H2)=>kQ ds e H.next (F7 P C k b e1 H1) (F7 P C k b e2 H2)
   |_,_=>none
theorem li{ops:Array Oper}{o:Oper}{x:LOp}(h:lop ops o=some x)(e:Env):D6 ops e o=ot e x.guard∧x.op=o.op∧x.dst=o.dst∧U0 ops e o=gI e x.guard:=by
 unfold lop at h;unfold D6 U0;split at h
 ·rename_i hg;cases h;simp [hg,ot,gI]
 ·rename_i j b hg;split at h
  ·rename_i d hd;cases h;simp [hg,hd,ot,gI]
  ·cases h
theorem cF{ops:Array Oper}(C:A5):∀{l:List Oper}{l':List LOp},pp ops l=some l'→∀e H,C6 P C ops l e H=bO P C l' e H
 |[],l',h,e,H=>by simp only[pp,Option.some.injEq]at h;subst h;rfl
 |o::r,l',h,e,H=>by
  simp only[pp]at h;split at h
  ·rename_i x xs hx hxs;cases h;obtain⟨h1,h2,h3,h4⟩:=li hx e;simp only[C6,bO,h1,h2,h3,h4,cF C hxs];rfl
  ·cases h
theorem ny{ops:Array Oper}:∀{l:List Oper}{i:Nat}{l':List (LOp×Bool)},jq ops i l=some l'→pp ops l=some (l'.map (·.1))
 |[],i,l',h=>by simp only[jq,Option.some.injEq]at h;subst h;rfl
 |o::r,i,l',h=>by
  simp only[jq]at h;split at h
  ·rename_i x xs hx hxs;cases h;simp only[pp,hx,ny hxs,List.map_cons]
  ·cases h
theorem kT{ops:Array Oper}(hlex:Region.lexB .any ops=true)(C:A5):∀{l:List Oper}{i:Nat}{l':List (LOp×Bool)},jq ops i l=some l'→∀q e H,F9 P C ops i q l e H=eF P C q l' e H
 |[],i,l',h,q,e,H=>by simp only[jq,Option.some.injEq]at h;subst h;simp [F9,eF,hlex]
 |o::r,i,l',h,q,e,H=>by
  simp only[jq]at h;split at h
  ·rename_i x xs hx hxs;cases h;obtain⟨h1,h2,h3,h4⟩:=li hx e;simp only[F9,eF,h1,h2,h3,h4,kT hlex C hxs,cF C (ny hxs)];rfl
  ·cases h
theorem nF{ops:Array Oper}(C:A5):∀{l:List (Oper×Nat×Nat)}{l':List ML},Bk ops l=some l'→∀t Ks obs e H,I0 P C ops t Ks obs l e H=T2 P C t Ks obs l' e H
 |[],l',h,t,Ks,obs,e,H=>by simp only[Bk,Option.some.injEq]at h;subst h;rfl
 |(o,lo,hi)::r,l',h,t,Ks,obs,e,H=>by
  simp only[Bk]at h;split at h
  ·rename_i x xs hx hxs;cases h;obtain⟨h1,h2,h3,h4⟩:=li hx e;obtain⟨xd,xo,xg⟩:=x;simp only at h1 h2 h3 h4;subst h2 h3;simp only[I0,T2,h1,h4,nF C hxs];rcases aop P noC o.op e H with _|⟨v,_|H2⟩<;>rcases aop P C o.op e H with _|⟨v2,H3⟩<;>rfl
  ·cases h
theorem kY(C:A5):∀(k:Nat){c:Code}{l:E4},O7 c=some l→∀e H,I7 P C k c e H=F7 P C k l e H:=by
 intro k;induction k with
 |zero=>intro c l _ e H;rfl
 |succ k ih=>
  intro c l h e H;cases c<;>simp only[O7]at h<;>try (cases h;done)
  case skip=>cases h;rfl
  case ret=>cases h;rfl
  case exit id=>cases h;rfl
  case region id ops draw=>
   split at h
   ·rename_i hd;subst hd;split at h
    ·rename_i hn;split at h
     ·rename_i hok;obtain⟨l',hl',rfl⟩:=Option.map_eq_some_iff.1 h;simp only[I7,F7,if_true,Z2,if_pos hn,if_pos hok,nF C hl'];rfl
     ·cases h
    ·rename_i hn;split at h
     ·rename_i hlex;obtain⟨l',hl',rfl⟩:=Option.map_eq_some_iff.1 h;simp only[I7,F7,if_true,Z2,if_neg hn,kT hlex C hl'];rfl
     ·cases h
   ·rename_i hd;obtain⟨l',hl',rfl⟩:=Option.map_eq_some_iff.1 h;have:draw=false:=by simpa using hd
    subst this;simp only[I7,F7,Bool.false_eq_true,if_false,cF C hl'];rfl
  case seq a b=>
   split at h
   ·rename_i z hz;split at h
    ·rename_i x y b' hx hy hb;cases h;simp only[I7,hz,F7,cF C hx,cF C hy,ih hb];rfl
    ·cases h
   ·rename_i hz;split at h
    ·rename_i x y hx hy;cases h;simp only[I7,hz,F7,ih hx,ih hy];rfl
    ·cases h
  case cond x a b=>
   split at h
   ·rename_i y z hy hz;cases h;simp only[I7,F7];cases opv e x<;>first|rfl|skip
    rename_i t;cases t<;>simp [ih hy,ih hz]
   ·cases h
  case block id a=>obtain⟨l',hl',rfl⟩:=Option.map_eq_some_iff.1 h;simp only[I7,F7,ih hl'];rfl
  case loop a=>
   obtain⟨l',hl',rfl⟩:=Option.map_eq_some_iff.1 h;have h2:O7 (.loop a)=some (.loop l'):=by simp [O7,hl']
   simp only[I7,F7,ih hl',ih h2];rfl
  case scope a=>obtain⟨l',hl',rfl⟩:=Option.map_eq_some_iff.1 h;simp only[I7,F7,ih hl']
noncomputable def LE(P:Program)(X:Lib)(c:E4)(e:Env)(H:d9):Of c (Option (Out×Env×d9)):=lim fun k=>F7 P (CL P X) k c e H
theorem ff{C D:A5}(h:LeC C D):∀(l:List LOp)(e:Env)(H:d9),LeO (bO P C l e H) (bO P D l e H):=by
 intro l;induction l with
 |nil=>intro e H r hr;exact hr
 |cons o l ih=>
  intro e H r hr;simp only[bO]at hr ⊢;by_cases hnl:gI e o.guard=true
  ·rw[if_pos hnl]at hr;cases hr
  simp only[if_neg hnl]at hr ⊢;split
  ·rename_i hw;rw[if_pos hw]at hr;cases ho:aop P C o.op e H with
   |none=>simp [ho]at hr
   |some q=>
    rw[T8 h _ _ _ _ ho];rw[ho]at hr;obtain⟨v,q⟩:=q;cases q with
    |none=>exact ih _ _ _ hr
    |some H'=>exact ih _ _ _ hr
  ·rename_i hw;rw[if_neg hw]at hr;exact ih _ _ _ hr
theorem uC{C D:A5}(h:LeC C D):∀(l:List (LOp×Bool))(q:Bool)(e:Env)(H:d9),LeO (eF P C q l e H) (eF P D q l e H):=by
 intro l;induction l with
 |nil=>intro q e H r hr;exact hr
 |cons o l ih=>
  intro q e H r hr;obtain⟨o,t⟩:=o;simp only[eF]at hr ⊢;by_cases hnl:gI e o.guard=true
  ·rw[if_pos hnl]at hr;cases hr
  simp only[if_neg hnl]at hr ⊢;split
  ·rename_i hw;rw[if_pos hw]at hr;cases ho:aop P C o.op e H with
   |none=>simp [ho]at hr
   |some x=>
    rw[T8 h _ _ _ _ ho];rw[ho]at hr;obtain⟨v,x⟩:=x;cases x with
    |none=>exact ih _ _ _ _ hr
    |some H'=>
     simp only at hr ⊢;split
     ·rename_i hb;rw[if_pos hb]at hr;exact ff h _ _ _ _ hr
     ·rename_i hb;rw[if_neg hb]at hr;exact hr
  ·rename_i hw;rw[if_neg hw]at hr;exact ih _ _ _ _ hr
theorem pF{C D:A5}(h:LeC C D):∀(l:List ML)(t:Nat)(Ks:List (Nat×d9))(obs:List (Op×Env×Value×Nat))(e:Env)(H:d9),LeO (T2 P C t Ks obs l e H) (T2 P D t Ks obs l e H):=by
 intro l;induction l with
 |nil=>intro t Ks obs e H r hr;exact hr
 |cons o l ih=>
  obtain⟨o,tn,rd,lo,hi⟩:=o;intro t Ks obs e H r hr;simp only[T2]at hr ⊢;by_cases hnl:gI e o.guard=true
  ·rw[if_pos hnl]at hr;cases hr
  simp only[if_neg hnl]at hr ⊢;split
  ·rename_i hw;rw[if_pos hw]at hr;split
   ·rename_i ht;rw[if_pos ht]at hr;cases ho:aop P C o.op e H with
    |none=>simp [ho]at hr
    |some x=>
     rw[T8 h _ _ _ _ ho];rw[ho]at hr;obtain⟨v,x⟩:=x;simp only at hr ⊢;split
     ·rename_i hb;rw[if_pos hb]at hr;exact ih _ _ _ _ _ _ hr
     ·rename_i hb;rw[if_neg hb]at hr;exact hr
   ·rename_i ht;rw[if_neg ht]at hr;split at hr
    ·rename_i v hv;split at hr
     ·rename_i hk;rw[if_pos hk];split at hr
      ·rename_i hc;rw[if_pos hc];exact ih _ _ _ _ _ _ hr
      ·cases hr
     ·rename_i hk;rw[if_neg hk];exact ih _ _ _ _ _ _ hr
    ·cases hr
  ·rename_i hw;rw[if_neg hw]at hr;split
   ·rename_i ht;rw[if_pos ht]at hr;exact ih _ _ _ _ _ _ hr
   ·rename_i ht;rw[if_neg ht]at hr;exact ih _ _ _ _ _ _ hr
theorem bE{C D:A5}(h:LeC C D):∀(k k':Nat),k≤k'→∀(c:E4)(e:Env)(H:d9),LeO (F7 P C k c e H) (F7 P D k' c e H):=by
 intro k;induction k with
 |zero=>intro k' _ c e H r hr;cases hr
 |succ k ih=>
  intro k' hk c e H r hr;obtain⟨k',rfl⟩:∃m,k'=m+1:=⟨k'-1,oM⟩
  have ih':=fun c e H r(hr:F7 P C k c e H=some r)=>ih k' oM c e H r hr;cases c<;>simp only[F7]at hr ⊢ <;>try exact hr
  case ops l=>
   cases hq:bO P C l e H with
   |none=>simp [hq]at hr
   |some x=>rw[ff h _ _ _ _ hq];rw[hq]at hr;exact hr
  case draw l=>
   cases hq:eF P C false l e H with
   |none=>simp [hq]at hr
   |some x=>rw[uC h _ _ _ _ _ hq];rw[hq]at hr;exact hr
  case mix l=>
   cases hq:T2 P C 0 [] [] l e H with
   |none=>simp [hq]at hr
   |some x=>rw[pF h _ _ _ _ _ _ _ hq];rw[hq]at hr;exact hr
  case seq x y=>
   cases hq:F7 P C k x e H with
   |none=>simp [hq]at hr
   |some z=>
    rw[ih' _ _ _ _ hq];rw[hq]at hr;obtain⟨o,e',H'⟩:=z;cases o with
    |normal=>exact ih' _ _ _ _ hr
    |exit id=>exact hr
    |ret=>exact hr
  case cond x y z=>
   split
   ·rename_i t ht;rw[ht]at hr;exact ih' _ _ _ _ hr
   ·rename_i hno;split at hr
    ·rename_i t ht;exact absurd ht (hno t)
    ·exact hr
  case block id x=>
   cases hq:F7 P C k x e H with
   |none=>simp [hq]at hr
   |some z=>rw[ih' _ _ _ _ hq];rw[hq]at hr;exact hr
  case loop x=>
   cases hq:F7 P C k x e H with
   |none=>simp [hq]at hr
   |some z=>
    rw[ih' _ _ _ _ hq];rw[hq]at hr;obtain⟨o,e',H'⟩:=z;cases o with
    |normal=>exact ih' _ _ _ _ hr
    |exit id=>exact hr
    |ret=>exact hr
  case scope x=>exact ih' _ _ _ _ hr
  case coin l1 l2 ds b=>
   cases h1:bO P C l1 e H with
   |none=>simp [h1]at hr
   |some q1=>
    cases h2:bO P C l2 e H with
    |none=>simp [h1,h2]at hr
    |some q2=>
     obtain⟨e1,H1⟩:=q1;obtain⟨e2,H2⟩:=q2;rw[h1,h2]at hr;rw[ff h _ _ _ _ h1,ff h _ _ _ _ h2];obtain⟨o,e',H'⟩:=r;obtain⟨e3,H3,e4,H4,g1,g2,g3,rfl,rfl,rfl⟩:=S3 hr;exact eu (ih' _ _ _ _ g1) (ih' _ _ _ _ g2) g3
theorem bQ{X:Lib}{c:E4}{e:Env}{H:d9}{r:Out×Env×d9}:LE P X c e H=some r↔∃k,F7 P (CL P X) k c e H=some r:=
 kZ fun k k' hk=>bE (fun _ _ _=>LeO.refl _) k k' hk c e H
variable{X:Lib}
theorem uW{c:E4}{e:Env}{H:d9}{y:Option (Out×Env×d9)}(h1:∀k r,F7 P (CL P X) (k+1) c e H=some r→y=some r) (h2:∀r,y=some r→∃k,F7 P (CL P X) k c e H=some r):LE P X c e H=y:=by
 refine pA fun r=>⟨fun h=>?_,fun h=>bQ.2 (h2 r h)⟩
 obtain⟨k,hk⟩:=bQ.1 h;cases k with
 |zero=>cases hk
 |succ k=>exact h1 k r hk
theorem eT{k:Nat}{c:E4}{e:Env}{H:d9}:LeO (F7 P (CL P X) k c e H) (LE P X c e H):=fun r h=>bQ.2 ⟨k,h⟩
theorem aj7(e:Env)(H:d9):LE P X .skip e H=some (.normal,e,H):=uW (fun k r h=>h) fun r h=>⟨1,h⟩
theorem ak2(e:Env)(H:d9):LE P X .ret e H=some (.ret,e,H):=uW (fun k r h=>h) fun r h=>⟨1,h⟩
theorem aj6(id:Nat)(e:Env)(H:d9):LE P X (.exit id) e H=some (.exit id,e,H):=uW (fun k r h=>h) fun r h=>⟨1,h⟩
theorem ak3(a b:E4)(e:Env)(H:d9):LE P X (.seq a b) e H=u7 (LE P X a e H) (LE P X b):=by
 refine uW (fun k r h=>?_) fun r h=>?_
 ·simp only[F7]at h;cases hq:F7 P (CL P X) k a e H with
  |none=>simp [hq]at h
  |some z=>
   rw[hq]at h;rw[eT _ hq];obtain⟨o,e',H'⟩:=z;cases o with
   |normal=>exact eT _ h
   |exit i=>exact h
   |ret=>exact h
 ·cases hq:LE P X a e H with
  |none=>simp [hq,u7]at h
  |some z=>
   rw[hq]at h;obtain⟨k1,hk1⟩:=bQ.1 hq;obtain⟨o,e',H'⟩:=z;have fin:o≠ .normal→some (o,e',H')=some r→∃k,F7 P (CL P X) k (.seq a b) e H=some r:=by
    intro ho he;refine⟨k1+1,?_⟩;simp only[F7,hk1];cases o<;>first|exact absurd rfl ho|exact he
   cases o with
   |normal=>
    obtain⟨k2,hk2⟩:=bQ.1 h;refine⟨max k1 k2+1,?_⟩;simp only[F7,bE (fun _ _ _=>LeO.refl _) k1 (max k1 k2) (Nat.le_max_left _ _) _ _ _ _ hk1];exact bE (fun _ _ _=>LeO.refl _) k2 (max k1 k2) (Nat.le_max_right _ _) _ _ _ _ hk2
   |exit i=>exact fin (by simp) h
   |ret=>exact fin (by simp) h
theorem Y0(a:E4)(e:Env)(H:d9):LE P X (.loop a) e H=u7 (LE P X a e H) (LE P X (.loop a)):=by
 refine uW (fun k r h=>?_) fun r h=>?_
 ·simp only[F7]at h;cases hq:F7 P (CL P X) k a e H with
  |none=>simp [hq]at h
  |some z=>
   rw[hq]at h;rw[eT _ hq];obtain⟨o,e',H'⟩:=z;cases o with
   |normal=>exact eT _ h
   |exit i=>exact h
   |ret=>exact h
 ·cases hq:LE P X a e H with
  |none=>simp [hq,u7]at h
  |some z=>
   rw[hq]at h;obtain⟨k1,hk1⟩:=bQ.1 hq;obtain⟨o,e',H'⟩:=z;have fin:o≠ .normal→some (o,e',H')=some r→∃k,F7 P (CL P X) k (.loop a) e H=some r:=by
    intro ho he;refine⟨k1+1,?_⟩;simp only[F7,hk1];cases o<;>first|exact absurd rfl ho|exact he
   cases o with
   |normal=>
    obtain⟨k2,hk2⟩:=bQ.1 h;refine⟨max k1 k2+1,?_⟩;simp only[F7,bE (fun _ _ _=>LeO.refl _) k1 (max k1 k2) (Nat.le_max_left _ _) _ _ _ _ hk1];exact bE (fun _ _ _=>LeO.refl _) k2 (max k1 k2) (Nat.le_max_right _ _) _ _ _ _ hk2
   |exit i=>exact fin (by simp) h
   |ret=>exact fin (by simp) h
theorem aj4(x:Operand)(a b:E4)(e:Env)(H:d9){t:Bool}(h:opv e x= .bool t):LE P X (.cond x a b) e H=if t then LE P X a e H else LE P X b e H:=by
 refine uW (fun k r hr=>?_) fun r hr=>?_
 ·simp only[F7,h]at hr;cases t<;>exact eT _ hr
 ·cases t
  ·obtain⟨k,hk⟩:=bQ.1 hr;exact⟨k+1,by simp only[F7,h];exact hk⟩
  ·obtain⟨k,hk⟩:=bQ.1 hr;exact⟨k+1,by simp only[F7,h];exact hk⟩
theorem ai8(id:Nat)(a:E4)(e:Env)(H:d9):LE P X (.block id a) e H=inBlock id (LE P X a e H):=by
 refine uW (fun k r h=>?_) fun r h=>?_
 ·simp only[F7]at h;cases hq:F7 P (CL P X) k a e H with
  |none=>simp [hq]at h
  |some z=>rw[hq]at h;rw[eT _ hq];exact h
 ·cases hq:LE P X a e H with
  |none=>simp [hq,inBlock]at h
  |some z=>
   rw[hq]at h;obtain⟨k1,hk1⟩:=bQ.1 hq;exact⟨k1+1,by simp only[F7,hk1];exact h⟩
theorem aj0(a:E4)(e:Env)(H:d9):LE P X (.scope a) e H=LE P X a e H:=by
 refine uW (fun k r h=>?_) fun r h=>?_
 ·exact eT _ h
 ·obtain⟨k1,hk1⟩:=bQ.1 h;exact⟨k1+1,hk1⟩
theorem ak1(l:List LOp)(e:Env)(H:d9):LE P X (.ops l) e H=ly (bO P (CL P X) l e H):=by
 refine uW (fun k r h=>?_) fun r h=>⟨1,?_⟩
 ·simp only[F7]at h;unfold ly;split at h
  ·rename_i hq;rw[hq];exact h
  ·cases h
 ·simp only[F7];unfold ly at h;cases hq:bO P (CL P X) l e H with
  |none=>simp [hq]at h
  |some z=>simp only[hq,Option.map_some]at h;exact h
theorem aj5(l:List (LOp×Bool))(e:Env)(H:d9):LE P X (.draw l) e H=ly (eF P (CL P X) false l e H):=by
 refine uW (fun k r h=>?_) fun r h=>⟨1,?_⟩
 ·simp only[F7]at h;unfold ly;split at h
  ·rename_i hq;rw[hq];exact h
  ·cases h
 ·simp only[F7];unfold ly at h;cases hq:eF P (CL P X) false l e H with
  |none=>simp [hq]at h
  |some z=>simp only[hq,Option.map_some]at h;exact h
theorem yW{c:Code}{l:E4}(h:O7 c=some l)(e:Env)(H:d9):EL P X c e H=LE P X l e H:=by
 unfold EL LE
 congr 1
 funext k
 exact kY (CL P X) k h e H
def fnL(P:Program)(f:FuncId):Option (E4×Nat×List ResultVar):=
 match fnA P f with
 |some (c,nt,rs)=>match O7 c with
  |some l=>some (l,nt,rs)
  |none=>none
 |none=>none
theorem j8{f:FuncId}{l:E4}{nt:Nat}{rs:List ResultVar}(hf:fnL P f=some (l,nt,rs))(hX:X f=none)(args:LV)(hn:args.length≤nt)(H:d9):
  CL P X f args H=u5 P rs H (LE P X l (D8 0 args) ⟨H.bs,H.next⟩):=by
 unfold fnL at hf;split at hf
 ·rename_i c nt' rs' hc;split at hf
  ·rename_i l' hl;cases hf;rw[GQ hc hX args hn H,yW hl];rfl
  ·cases hf
 ·cases hf
theorem ai9(x:Operand)(a b:E4)(e:Env)(H:d9):LE P X (.cond x a b) e H=Oh (opv e x) (LE P X a e H) (LE P X b e H):=by
 cases h:opv e x with
 |bool t=>rw[aj4 x a b e H h];rfl
 |_=>
  refine uW (fun k r hr=>?_) fun r hr=>?_
  ·simp only[F7,h]at hr;cases hr
  ·simp only[Oh]at hr;cases hr
theorem BW(C:A5)(e:Env)(H:d9):bO P C [] e H=some (e,H):=rT
theorem ai5(dst:Option Tmp)(op:Op)(rest:List LOp)(e:Env)(H:d9):
  bO P (CL P X) (⟨dst,op,none⟩::rest) e H=zM (aop P (CL P X) op e H) H fun v H'=>bO P (CL P X) rest (P7 e dst v) H':=by
 simp only[bO,ot,gI,if_true,Bool.false_eq_true,if_false,zM]
 all_goals rfl
theorem aj9(dst:Option Tmp)(op:Op)(d:Tmp)(b:Bool)(rest:List LOp)(e:Env)(H:d9):
  bO P (CL P X) (⟨dst,op,some (d,b)⟩::rest) e H=
   brl (e.get d) b (zM (aop P (CL P X) op e H) H fun v H'=>bO P (CL P X) rest (P7 e dst v) H') (bO P (CL P X) rest (P7 e dst undef) H):=by
 simp only[bO,ot,gI,zM,brl];rfl
def Oj(q t:Bool)(x:Option (Env×d9)):Of x (Option (Env×d9)):=if(!q&&t)=true then x else none
theorem zX(x:Option (Env×d9)):Oj false true x=x:=rT
theorem yy(C:A5)(q:Bool)(e:Env)(H:d9):eF P C q [] e H=some (e,H):=rT
theorem ai4(q t:Bool)(dst:Option Tmp)(op:Op)(rest:List (LOp×Bool))(e:Env)(H:d9):
  eF P (CL P X) q ((⟨dst,op,none⟩,t)::rest) e H=
   Fu (aop P (CL P X) op e H) (fun v=>eF P (CL P X) (q||isCall op) rest (P7 e dst v) H) fun v H'=>Oj q t (bO P (CL P X) (rest.map (·.1)) (P7 e dst v) H'):=by
 simp only[eF,ot,gI,if_true,Bool.false_eq_true,if_false,Fu,Oj]
 all_goals rfl
theorem aj3(q t:Bool)(dst:Option Tmp)(op:Op)(d:Tmp)(b:Bool)(rest:List (LOp×Bool))(e:Env)(H:d9):
  eF P (CL P X) q ((⟨dst,op,some (d,b)⟩,t)::rest) e H=
   brl (e.get d) b (Fu (aop P (CL P X) op e H) (fun v=>eF P (CL P X) (q||isCall op) rest (P7 e dst v) H) fun v H'=>Oj q t (bO P (CL P X) (rest.map (·.1)) (P7 e dst v) H'))
    (eF P (CL P X) q rest (P7 e dst undef) H):=by
 simp only[eF,ot,gI,Fu,Oj,brl]
 all_goals rfl
theorem Cy(l1 l2:List LOp)(ds:List Nat)(b:E4)(e:Env)(H:d9):LE P X (.coin l1 l2 ds b) e H=kQ ds e H.next (u7 (ly (bO P (CL P X) l1 e H)) (LE P X b)) (u7 (ly (bO P (CL P X) l2 e H)) (LE P X b)):=by
 refine uW (fun k r h=>?_) fun r h=>?_
 ·simp only[F7]at h;cases h1:bO P (CL P X) l1 e H with
  |none=>simp [h1]at h
  |some q1=>
   cases h2:bO P (CL P X) l2 e H with
   |none=>simp [h1,h2]at h
   |some q2=>
    obtain⟨e1,H1⟩:=q1;obtain⟨e2,H2⟩:=q2;rw[h1,h2]at h;obtain⟨o,e',H'⟩:=r;obtain⟨e3,H3,e4,H4,g1,g2,g3,rfl,rfl,rfl⟩:=S3 h;exact eu (eT _ g1) (eT _ g2) g3
 ·obtain⟨o,e',H'⟩:=r;obtain⟨e3,H3,e4,H4,g1,g2,g3,rfl,rfl,rfl⟩:=S3 h;cases h1:bO P (CL P X) l1 e H with
  |none=>rw[h1]at g1;cases g1
  |some q1=>
   cases h2:bO P (CL P X) l2 e H with
   |none=>rw[h2]at g2;cases g2
   |some q2=>
    rw[h1]at g1;rw[h2]at g2;obtain⟨k1,hk1⟩:=bQ.1 g1;obtain⟨k2,hk2⟩:=bQ.1 g2;refine⟨max k1 k2+1,?_⟩;simp only[F7,h1,h2];exact eu (bE (fun _ _ _=>LeO.refl _) k1 (max k1 k2) (Nat.le_max_left _ _) _ _ _ _ hk1) (bE (fun _ _ _=>LeO.refl _) k2 (max k1 k2) (Nat.le_max_right _ _) _ _ _ _ hk2) g3
theorem ak0(l:List ML)(e:Env)(H:d9):LE P X (.mix l) e H=ly (T2 P (CL P X) 0 [] [] l e H):=by
 refine uW (fun k r h=>?_) fun r h=>⟨1,?_⟩
 ·simp only[F7]at h;unfold ly;split at h
  ·rename_i hq;rw[hq];exact h
  ·cases h
 ·simp only[F7];unfold ly at h;cases hq:T2 P (CL P X) 0 [] [] l e H with
  |none=>simp [hq]at h
  |some z=>simp only[hq,Option.map_some]at h;exact h
open Classical in
noncomputable def need{α:Type}(p:Prop)(x:Option α):Of x (Option α):=if p then x else none
theorem xT{α:Type}(x:Option α):need True x=x:=by unfold need;exact if_pos trivial
theorem tR(ds:List Nat)(e e1 e2:Env)(n:Nat)(H1 H2:d9):kQ ds e n (some (.normal,e1,H1)) (some (.normal,e2,H2))=need (L9 n H1=L9 n H2) (some (.normal,ds.map (fun d=>(d,lost))++e,L9 n H1)):=rT
def Oi(r:Option (Value×Option d9))(f:Value→Option (Env×d9)):Of f (Option (Env×d9)):=
 match r with
 |some (v,none)=>f v
 |_=>none
theorem sX(v:Value)(f:Value→Option (Env×d9)):Oi (some (v,none)) f=f v:=rT
def okV(x:Option (Value×Option d9))(v:Value):Prop:=x=some (v,none)
theorem Bx(v:Value):okV (some (v,none)) v=True:=by simp [okV]
def Eb(n m:Nat)(p:Prop):Prop:=n≤m→p
theorem AZ{n m:Nat}(p:Prop)(h:n≤m):Eb n m p=p:=propext ⟨fun q=>q h,fun q _=>q⟩
theorem Ec{n m:Nat}(p:Prop)(h:m<n):Eb n m p=True:=propext ⟨fun _=>trivial,fun _ q=>absurd q oM⟩
theorem zH(j:Nat)(H:d9):sS P [] j H=True:=rT
theorem wO(o:Op)(e:Env)(v:Value)(hi:Nat)(r:List (Op×Env×Value×Nat))(j:Nat)(H:d9):sS P ((o,e,v,hi)::r) j H=(Eb j hi (okV (aop P noC o e H) v)∧sS P r j H):=rT
theorem zG(o:Op)(e:Env)(v:Value)(lo:Nat):sR P o e v lo []=True:=rT
theorem wN(o:Op)(e:Env)(v:Value)(lo j:Nat)(K:d9)(r:List (Nat×d9)):sR P o e v lo ((j,K)::r)=(Eb lo j (okV (aop P noC o e K) v)∧sR P o e v lo r):=rT
section
variable(t:Nat)(Ks:List (Nat×d9))(obs:List (Op×Env×Value×Nat))(dst:Option Tmp)(op:Op)(d:Tmp)(b:Bool)(lo hi:Nat)(rest:List ML)(e:Env)(H:d9)
theorem Ev:T2 P (CL P X) t Ks obs [] e H=some (e,H):=rT
theorem aj2(rd:Bool):T2 P (CL P X) t Ks obs (⟨⟨dst,op,none⟩,true,rd,lo,hi⟩::rest) e H=
  zM (aop P (CL P X) op e H) H fun v H'=>need (sS P obs (t+1) H') (T2 P (CL P X) (t+1) ((t,H)::Ks) obs rest (P7 e dst v) H'):=by
 simp only[T2,ot,gI,if_true,Bool.false_eq_true,if_false,zM,need];cases aop P (CL P X) op e H with
 |none=>rfl
 |some z=>obtain⟨v,r⟩:=z;cases r<;>rfl
theorem ai7(rd:Bool):T2 P (CL P X) t Ks obs (⟨⟨dst,op,some (d,b)⟩,true,rd,lo,hi⟩::rest) e H=
  brl (e.get d) b (zM (aop P (CL P X) op e H) H fun v H'=>need (sS P obs (t+1) H') (T2 P (CL P X) (t+1) ((t,H)::Ks) obs rest (P7 e dst v) H')) (T2 P (CL P X) (t+1) ((t,H)::Ks) obs rest (P7 e dst undef) H):=by
 simp only[T2,ot,gI,if_true,zM,need,brl];cases aop P (CL P X) op e H with
 |none=>rfl
 |some z=>obtain⟨v,r⟩:=z;cases r<;>rfl
theorem ak4:T2 P (CL P X) t Ks obs (⟨⟨dst,op,none⟩,false,true,lo,hi⟩::rest) e H=
  Oi (aop P noC op e H) fun v=>need (sR P op e v lo Ks) (T2 P (CL P X) t Ks ((op,e,v,hi)::obs) rest (P7 e dst v) H):=by
 simp only[T2,ot,gI,if_true,Oi,need,Bool.false_eq_true,if_false]
theorem aj8:T2 P (CL P X) t Ks obs (⟨⟨dst,op,some (d,b)⟩,false,true,lo,hi⟩::rest) e H=
  brl (e.get d) b (Oi (aop P noC op e H) fun v=>need (sR P op e v lo Ks) (T2 P (CL P X) t Ks ((op,e,v,hi)::obs) rest (P7 e dst v) H)) (T2 P (CL P X) t Ks obs rest (P7 e dst undef) H):=by
 simp only[T2,ot,gI,if_true,Oi,need,Bool.false_eq_true,if_false,brl]
theorem aj1:T2 P (CL P X) t Ks obs (⟨⟨dst,op,none⟩,false,false,lo,hi⟩::rest) e H=
  Oi (aop P noC op e H) fun v=>T2 P (CL P X) t Ks obs rest (P7 e dst v) H:=by
 simp only[T2,ot,gI,if_true,Oi,Bool.false_eq_true,if_false]
theorem ai6:T2 P (CL P X) t Ks obs (⟨⟨dst,op,some (d,b)⟩,false,false,lo,hi⟩::rest) e H=
  brl (e.get d) b (Oi (aop P noC op e H) fun v=>T2 P (CL P X) t Ks obs rest (P7 e dst v) H) (T2 P (CL P X) t Ks obs rest (P7 e dst undef) H):=by
 simp only[T2,ot,gI,if_true,Oi,Bool.false_eq_true,if_false,brl]
end
theorem j7{B:E4}(I:Nat→Env→d9→Prop)(Q:Out→Env→d9→Prop)
  (step:∀n e H,I n e H→u9 (LE P X B e H) (dy n I Q)):∀n e H,I n e H→u9 (LE P X (.loop B) e H) Q:=by
 intro n;induction n using Nat.strongRecOn with
 |ind n ih=>
  intro e H h;obtain⟨o,e',H',h1,h2⟩:=step n e H h;unfold u9;rw[Y0,h1];cases o with
  |normal=>
   obtain⟨m,hm,hI⟩:=h2;exact ih m hm e' H' hI
  |exit i=>exact⟨_,_,_,rfl,h2⟩
  |ret=>exact⟨_,_,_,rfl,h2⟩
theorem fA(F:Option (Out×Env×d9)→Option (Out×Env×d9)){x:Option (Out×Env×d9)}{Q G:Out→Env→d9→Prop}(h:u9 x Q)(fin:∀o e H,Q o e H→u9 (F (some (o,e,H))) G):u9 (F x) G:=by
 obtain⟨o,e,H,hx,hq⟩:=h;have h2:=fin o e H hq;unfold u9 at h2 ⊢;rw[hx];exact h2
end
end Go.Proofs.YtofbhlhamfkljaaGreatDoor.Ve
namespace Go.Proofs.YtofbhlhamfkljaaGreatDoor.Ve
open Go Go.RowKit
set_option linter.unusedVariables false
set_option linter.unusedSimpArgs false
set_option maxRecDepth 1000000
set_option maxHeartbeats 0
structure i4(lo:Nat)(H H':d9):Prop where
 next:H.next≤H'.next
 lowAll:∀k,k≤lo→k≤H.low→k≤H'.low
 get:∀j,j<lo→H'.get j=H.get j
theorem i4.low{lo:Nat}{H H':d9}(h:i4 lo H H')(q:lo≤H.low):lo≤H'.low:=h.lowAll lo lR q
theorem i4.weaken{lo lo':Nat}{H H':d9}(h:i4 lo H H')(k:lo'≤lo):i4 lo' H H':=⟨h.next,fun j hj=>h.lowAll j oM,fun j hj=>h.get j oM⟩
theorem i4.refl(lo:Nat)(H:d9):i4 lo H H:=⟨lR,fun _ _ h=>h,fun _ _=>rfl⟩
theorem i4.trans{lo:Nat}{a b c:d9}(h:i4 lo a b)(k:i4 lo b c):i4 lo a c:=⟨Nat.le_trans h.next k.next,fun j hj q=>k.lowAll j hj (h.lowAll j hj q),fun j hj=>by rw[k.get j hj,h.get j hj]⟩
theorem i4.push{lo:Nat}{H:d9}{B:Blk}(h:lo≤H.next):i4 lo H (H.push B):=⟨by rw[i5];omega,fun _ _ q=>q,fun j hj=>j6 oM⟩
theorem i4.put{lo b:Nat}{H:d9}{B:Blk}(h:lo≤b):i4 lo H (H.put b B):=⟨Nat.le_refl _ |> fun q=>by rw[j5];exact q,fun k hk q=>by rw[A4];omega,fun j hj=>i9 oM⟩
theorem i4.start(H:d9):i4 H.next H ⟨H.bs,H.next⟩:=⟨lR,fun _ h _=>h,fun _ _=>rfl⟩
theorem i4.ret{lo:Nat}{H H':d9}(h:i4 lo H H')(hl:lo≤H'.low):i4 lo H ⟨H'.bs,min H.low H'.low⟩:=⟨h.next,fun k hk q=>by simp only;omega,h.get⟩
def V8(H:d9)(lo sz:Nat)(v:Value)(n:Nat)(cs:LV):Prop:=
 (v= .slice none 0 0∧n=0∧cs=[])∨∃b,v= .slice (some ⟨b,0,none⟩) n (n+1)∧H.get b=some (.cells cs true sz)∧lo≤b∧cs.length=n*sz
theorem V8.push{H:d9}{lo sz:Nat}{v:Value}{n:Nat}{cs:LV}(h:V8 H lo sz v n cs)(B:Blk):V8 (H.push B) lo sz v n cs:=by
 rcases h with h|⟨b,h1,h2,h3⟩
 ·exact .inl h
 ·exact .inr ⟨b,h1,by rw[j6 (u6 h2)];exact h2,h3⟩
theorem V8.put{H:d9}{lo sz:Nat}{v:Value}{n:Nat}{cs:LV}(h:V8 H lo sz v n cs){b:Nat}(B:Blk)(hb:∀c,v= .slice (some ⟨c,0,none⟩) n (n+1)→b≠c):V8 (H.put b B) lo sz v n cs:=by
 rcases h with h|⟨c,h1,h2,h3⟩
 ·exact .inl h
 ·exact .inr ⟨c,h1,by rw[i9 (hb c h1)];exact h2,h3⟩
section
variable{P:Program}
theorem sI{t e:TypeId}{sz bytes:Nat}{z:LV}(ht:P.underlying t=some (.slice e))(hs:z9 P e=some sz)(hb:A7 P e=some bytes)(hz:B8 P e=some z)(h0:0<sz)(h1:0<bytes)
  {H:d9} {lo:Nat} {v:Value} {n:Nat} {cs:LV} (h:V8 H lo sz v n cs) {c m k:Nat} {el:LV} {own:Bool} {q:Nat} (hc:H.get c=some (.cells el own q)) (hm:0<m) (hel:el.length=m*sz) (hr:(n+m)*bytes≤140737488355328) (hlo:lo≤H.next):
  ∃v' H',C3 P H [t,t] v (.slice (some ⟨c,0,none⟩) m k)=some (v',some H')∧V8 H' lo sz v' (n+m) (cs++el)∧i4 lo H H':=by
 have hte:I2 P t=some e:=by simp [I2,ht]
 have hadd:Z4 P H sz (some t) (.slice (some ⟨c,0,none⟩) m k)=some (m,el):=by
  simp only[Z4,Option.bind_some,ht,A3,hc];rw[if_neg oM,if_pos oM];simp [←hel]
 have hsz:¬(sz=0∨bytes=0):=oM;rcases h with⟨rfl,rfl,rfl⟩|⟨b,rfl,hg,hlb,hlen⟩
 ·refine⟨.slice (some ⟨H.next,0,none⟩) m (m+1),H.push (.cells el true sz),?_,.inr ⟨H.next,by rw[Nat.zero_add],i7,hlo,by simpa using hel⟩,i4.push hlo⟩;simp only[C3,List.head?_cons,Option.bind_some,hte,hs,hb,hz,List.getElem?_cons_succ,List.getElem?_cons_zero,if_neg hsz,hadd];rw[if_neg oM,if_pos (by simpa using hr)]
 ·have hbl:=u6 hg;refine⟨.slice (some ⟨H.next,0,none⟩) (n+m) (n+m+1),(H.put b .dead).push (.cells (cs++el) true sz),?_,.inr ⟨H.next,rfl,y7 ⟨by simp [j5],by simp [j5]⟩,hlo,by rw[List.length_append,hlen,hel,Nat.add_mul]⟩,(i4.put hlb).trans (i4.push (by rw[j5];exact hlo))⟩;simp only[C3,List.head?_cons,Option.bind_some,hte,hs,hb,hz,List.getElem?_cons_succ,List.getElem?_cons_zero,if_neg hsz,hadd,hg];rw[if_neg oM,if_pos hr,if_pos (by simp;omega),if_neg oM];simp [←hlen]
end
def dr(v:Value)(h:Option d9):Option (Value×Option d9):=some (v,h)
def Ret(x:Option (Value×Option d9))(H:d9)(Q:Value→d9→Prop):Prop:=∃v h H1,x=dr v h∧h.getD H=H1∧Q v H1
theorem wR(v:Value)(h:Option d9)(H:d9)(f:Value→d9→Option (Env×d9)):zM (dr v h) H f=f v (h.getD H):=by cases h<;>rfl
theorem qC(v:Value)(H H':d9)(Q:Value→d9→Prop)(h1:L0 v=true→H.next≤H'.low→Q v H)(h2:Q v ⟨H'.bs,min H.low H'.low⟩):∃w h,D4 v H H'=(w,h)∧Q w (h.getD H):=by
 unfold D4;by_cases h:(L0 v&&decide (H.bs.length≤H'.low))=true
 ·rw[if_pos h];simp only[Bool.and_eq_true,decide_eq_true_eq]at h;exact⟨v,none,rfl,h1 h.1 h.2⟩
 ·rw[if_neg h];exact⟨v,_,rfl,h2⟩
theorem D7{v:Value}{H H':d9}{Q:Value→d9→Prop}(h1:L0 v=true→H.next≤H'.low→Q v H)(h2:Q v ⟨H'.bs,min H.low H'.low⟩):Ret (some (D4 v H H')) H Q:=by
 obtain⟨w,h,h3,h4⟩:=qC v H H' Q h1 h2;exact⟨w,h,_,by rw[h3,dr],rfl,h4⟩
theorem ce{v:Value}{c:Bool}{H H1:d9}{Q:Value→d9→Prop}(h1:c=true→Q v H)(h2:Q v H1):Ret (some (br c (v,none) (v,some H1))) H Q:=by
 cases c
 ·exact⟨v,_,_,rfl,rfl,h2⟩
 ·exact⟨v,_,_,rfl,rfl,h1 rfl⟩
theorem V8.na{H H0:d9}{lo sz:Nat}{v:Value}{n:Nat}{cs:LV}(h:V8 H lo sz v n cs)(hv:na1 v=true):V8 H0 lo sz v n cs:=by
 rcases h with h|⟨b,h1,h2,h3⟩
 ·exact .inl h
 ·rw[h1]at hv;cases hv
theorem V8.low{H:d9}{lo sz:Nat}{v:Value}{n:Nat}{cs:LV}(h:V8 H lo sz v n cs)(l:Nat):V8 ⟨H.bs,l⟩ lo sz v n cs:=by
 rcases h with h|⟨b,h1,h2,h3⟩
 ·exact .inl h
 ·exact .inr ⟨b,h1,h2,h3⟩
theorem l9(F:Option (Out×Env×d9)→Prop){x:Option (Out×Env×d9)}{Q:Out→Env→d9→Prop}(h:u9 x Q)(fin:∀o e H,Q o e H→F (some (o,e,H))):F x:=by
 obtain⟨o,e,H,hx,hq⟩:=h;rw[hx];exact fin o e H hq
section
variable{P:Program}
def ut(d:Option TypeDesc)(H:d9)(s:ByteArray):Option (Value×Option d9):=
 match d with
 |some .string=>some (.pointer (some ⟨H.next,0,none⟩),some (H.push (.iter s 0)))
 |_=>none
theorem ur(t:TypeId)(H:d9)(s:ByteArray):uq P t H (.string s)=ut (P.underlying t) H s:=by
 unfold uq ut;cases P.underlying t with
 |none=>rfl
 |some d=>cases d<;>rfl
theorem uu(H:d9)(s:ByteArray):ut (some .string) H s=some (.pointer (some ⟨H.next,0,none⟩),some (H.push (.iter s 0))):=rT
def Bw(x:Option Blk)(H:d9)(b:Nat):Option (Value×Option d9):=
 match x with
 |some (.iter s pos)=>br (decide (pos<s.size)) (some (.tuple #[.bool true,.int .i64 pos,.int .i32 (Utf8.decode s pos).1],some (H.put b (.iter s (pos+(Utf8.decode s pos).2))))) (some (.tuple #[.bool false],none))
 |_=>none
theorem xU(H:d9)(b:Nat):gQ H (.pointer (some ⟨b,0,none⟩))=Bw (H.get b) H b:=by
 unfold gQ Bw;simp only;generalize H.get b=q;cases q with
 |none=>rfl
 |some x=>cases x<;>simp [br,goInt]
theorem ud(s:ByteArray)(pos:Nat)(H:d9)(b:Nat):Bw (some (.iter s pos)) H b=br (decide (pos<s.size)) (some (.tuple #[.bool true,.int .i64 pos,.int .i32 (Utf8.decode s pos).1],some (H.put b (.iter s (pos+(Utf8.decode s pos).2))))) (some (.tuple #[.bool false],none)):=rT
theorem U8(s:ByteArray)(i:Nat):1≤(Utf8.decode s i).2:=by
 unfold Utf8.decode;simp only;split
 ·simp
 ·split
  ·split<;>simp
  ·split
   ·split<;>simp
   ·split
    ·split<;>simp
    ·simp
end
end Go.Proofs.YtofbhlhamfkljaaGreatDoor.Ve
namespace Go.Proofs.YtofbhlhamfkljaaGreatDoor.Ve
open Go Go.RowKit
set_option linter.unusedVariables false
set_option linter.unusedSimpArgs false
set_option maxHeartbeats 0
theorem i4.first(H:d9)(B:Blk):i4 H.next H (d9.push ⟨H.bs,H.next⟩ B):=(i4.start H).trans (i4.push lR)
def SlI(H:d9)(lo sz:Nat){α:Type}(R:LV→α→Prop)(v:Value)(l:List α):Prop:=
 (v= .slice none 0 0∧l=[])∨
 ∃b o c,v= .slice (some ⟨b,o,none⟩) l.length c∧
  (l=[]∨∃cs own,b<lo∧H.get b=some (.cells cs own sz)∧o+l.length*sz≤cs.length∧∀(i:Nat) a,l[i]?=some a→R ((cs.drop (o+i*sz)).take sz) a)
theorem SlI.mono{H H':d9}{lo lo' sz:Nat}{α:Type}{R R':LV→α→Prop}{v:Value}{l:List α}(h:SlI H lo sz R v l)(hg:∀j,j<lo→H'.get j=H.get j) (hlo:lo≤lo') (hR:∀cs a,R cs a→R' cs a):SlI H' lo' sz R' v l:=by
 rcases h with h|⟨b,o,c,hv,h⟩
 ·exact .inl h
 ·refine .inr ⟨b,o,c,hv,?_⟩;rcases h with h|⟨cs,own,h1,h2,h3,h4⟩
  ·exact .inl h
  ·exact .inr ⟨cs,own,oM,by rw[hg b h1];exact h2,h3,fun i a hi=>hR _ _ (h4 i a hi)⟩
theorem SlI.form{H:d9}{lo sz:Nat}{α:Type}{R:LV→α→Prop}{v:Value}{l:List α}(h:SlI H lo sz R v l):
  (v= .slice none 0 0∧l=[])∨(∃b o c,v= .slice (some ⟨b,o,none⟩) 0 c∧l=[])∨
  ∃b o c cs own,v= .slice (some ⟨b,o,none⟩) l.length c∧0<l.length∧b<lo∧H.get b=some (.cells cs own sz)∧o+l.length*sz≤cs.length∧∀(i:Nat) a,l[i]?=some a→R ((cs.drop (o+i*sz)).take sz) a:=by
 rcases h with h|⟨b,o,c,hv,h⟩
 ·exact .inl h
 ·rcases h with h|⟨cs,own,h1,h2,h3,h4⟩
  ·subst h;exact .inr (.inl ⟨b,o,c,hv,rfl⟩)
  ·by_cases hl:l=[]
   ·subst hl;exact .inr (.inl ⟨b,o,c,hv,rfl⟩)
   ·exact .inr (.inr ⟨b,o,c,cs,own,hv,List.length_pos_iff.2 hl,h1,h2,h3,h4⟩)
theorem SlI.slice{H:d9}{lo sz:Nat}{α:Type}{R:LV→α→Prop}{v:Value}{l:List α}(h:SlI H lo sz R v l):∃a c,v= .slice a l.length c:=by
 rcases h with⟨h,h2⟩|⟨b,o,c,hv,h⟩
 ·exact⟨none,0,by rw[h,h2];rfl⟩
 ·exact⟨_,_,hv⟩
theorem SlI.at_{H:d9}{lo sz:Nat}{α:Type}{R:LV→α→Prop}{v:Value}{l:List α}(h:SlI H lo sz R v l){i:Nat}{a:α}(hi:l[i]?=some a):
  ∃b o c cs own,v= .slice (some ⟨b,o,none⟩) l.length c∧b<lo∧H.get b=some (.cells cs own sz)∧o+i*sz+sz≤cs.length∧R ((cs.drop (o+i*sz)).take sz) a:=by
 have hl:i<l.length:=(List.getElem?_eq_some_iff.1 hi).1;rcases h with⟨_,h⟩|⟨b,o,c,hv,h⟩
 ·subst h;simp at hl
 ·rcases h with h|⟨cs,own,h1,h2,h3,h4⟩
  ·subst h;simp at hl
  ·refine⟨b,o,c,cs,own,hv,h1,h2,?_,h4 i a hi⟩;have:(i+1)*sz≤l.length*sz:=Nat.mul_le_mul_right _ hl;rw[Nat.add_mul]at this;omega
theorem pE{cs enc:LV}{o sz:Nat}(h:o+sz≤cs.length)(hr:(cs.drop o).take sz=enc):ldC (some true) (some sz) o cs=some (.agg enc.toArray):=by rw[eX _ _ _ h,hr]
theorem lP{cs enc:LV}{o sz k:Nat}(hk:k<sz)(hr:(cs.drop o).take sz=enc):cs[o+k]?=enc[k]?:=by
 rw[←hr,List.getElem?_take,if_pos hk,List.getElem?_drop]
def aP(H:d9)(lo sz:Nat)(v:Value)(n:Nat)(cs:LV):Prop:=
 (v= .slice none 0 0∧n=0∧cs=[])∨∃b c,v= .slice (some ⟨b,0,none⟩) n c∧H.get b=some (.cells cs true sz)∧lo≤b∧cs.length=n*sz
theorem aP.mono{H H':d9}{lo lo2 sz:Nat}{v:Value}{n:Nat}{cs:LV}(h:aP H lo sz v n cs)(hl:lo2≤lo)(hg:∀j,j<H.next→H'.get j=H.get j):aP H' lo2 sz v n cs:=by
 rcases h with h|⟨b,c,h1,h2,h3,h4⟩
 ·exact .inl h
 ·exact .inr ⟨b,c,h1,by rw[hg b (u6 h2)];exact h2,oM,h4⟩
theorem V8.ownC{H:d9}{lo sz:Nat}{v:Value}{n:Nat}{cs:LV}(h:V8 H lo sz v n cs):aP H lo sz v n cs:=by
 rcases h with h|⟨b,h1,h2⟩
 ·exact .inl h
 ·exact .inr ⟨b,_,h1,h2⟩
theorem aP.slice{H:d9}{lo sz:Nat}{v:Value}{n:Nat}{cs:LV}(h:aP H lo sz v n cs):∃a c,v= .slice a n c:=by
 rcases h with⟨h,rfl,_⟩|⟨b,c,h1,_⟩
 ·exact⟨none,0,h⟩
 ·exact⟨_,_,h1⟩
theorem aP.cells{H:d9}{lo sz:Nat}{v:Value}{n:Nat}{cs:LV}(h:aP H lo sz v n cs)(h0:0<sz):∃a c,v= .slice a n c∧A3 H sz (.slice a n c)=some cs:=by
 rcases h with⟨rfl,rfl,rfl⟩|⟨b,c,rfl,h2,h3,h4⟩
 ·exact⟨none,0,rfl,rfl⟩
 ·refine⟨_,_,rfl,?_⟩;simp only[A3,h2];by_cases hn:n=0
  ·subst hn;have:cs=[]:=List.length_eq_zero_iff.1 oM;simp [this]
  ·rw[if_neg hn,if_pos oM,List.drop_zero,List.take_of_length_le oM]
def D2{α:Type}(sz:Nat)(R:LV→α→Prop)(cs:LV)(l:List α):Prop:=
 cs.length=l.length*sz∧∀(i:Nat) a,l[i]?=some a→R ((cs.drop (i*sz)).take sz) a
theorem D2.append{α:Type}{sz:Nat}{R:LV→α→Prop}{c1 c2:LV}{l1 l2:List α}(h:D2 sz R c1 l1)(k:D2 sz R c2 l2):D2 sz R (c1++c2) (l1++l2):=by
 refine⟨by rw[List.length_append,List.length_append,h.1,k.1,Nat.add_mul],fun i a hi=>?_⟩;by_cases hl:i<l1.length
 ·rw[List.getElem?_append_left hl]at hi;have:=h.2 i a hi;have hle:(i+1)*sz≤l1.length*sz:=Nat.mul_le_mul_right _ hl;rw[Nat.add_mul]at hle;rw[List.drop_append_of_le_length (by rw[h.1];omega),List.take_append_of_le_length (by rw[List.length_drop,h.1];omega)];exact this
 ·rw[List.getElem?_append_right oM]at hi;have:=k.2 _ a hi;have e:i*sz=c1.length+(i-l1.length)*sz:=by rw[h.1,←Nat.add_mul];congr 1;omega
  rw[e,←List.drop_drop,List.drop_left];exact this
theorem SlI.cells{H:d9}{lo sz:Nat}{α:Type}{R:LV→α→Prop}{v:Value}{l:List α}(h:SlI H lo sz R v l):∃el,A3 H sz v=some el∧D2 sz R el l:=by
 rcases h.form with⟨rfl,rfl⟩|⟨b,o,c,rfl,rfl⟩|⟨b,o,c,cs,own,rfl,h0,h1,h2,h3,h4⟩
 ·exact⟨[],rfl,by simp [D2]⟩
 ·exact⟨[],by simp [A3],by simp [D2]⟩
 ·refine⟨(cs.drop o).take (l.length*sz),by simp only[A3,h2];rw[if_neg oM,if_pos h3],by rw[List.length_take,List.length_drop];omega,fun i a hi=>?_⟩;have:=h4 i a hi;have hl:i<l.length:=(List.getElem?_eq_some_iff.1 hi).1;have hle:(i+1)*sz≤l.length*sz:=Nat.mul_le_mul_right _ hl;rw[Nat.add_mul]at hle;rw[List.drop_take,List.take_take,List.drop_drop,Nat.min_eq_left oM];exact this
theorem D2.mono{α:Type}{sz:Nat}{R R':LV→α→Prop}{c:LV}{l:List α}(h:D2 sz R c l)(hR:∀cs a,R cs a→R' cs a):D2 sz R' c l:=⟨h.1,fun i a hi=>hR _ _ (h.2 i a hi)⟩
theorem aP.sl{H:d9}{lo sz:Nat}{α:Type}{R:LV→α→Prop}{v:Value}{l:List α}{cs:LV}(h:aP H lo sz v l.length cs)(hR:D2 sz R cs l):SlI H H.next sz R v l:=by
 rcases h with⟨h,h2,_⟩|⟨b,c,h1,h2,h3,h4⟩
 ·exact .inl ⟨h,List.length_eq_zero_iff.1 h2⟩
 ·refine .inr ⟨b,0,c,h1,.inr ⟨cs,true,u6 h2,h2,oM,fun i a hi=>?_⟩⟩;rw[Nat.zero_add];exact hR.2 i a hi
theorem BU{α:Type}{sz:Nat}{enc:α→LV}(hs:∀a,(enc a).length=sz) (l:List α):D2 sz (fun cs a=>cs=enc a) (l.flatMap enc) l:=by
 refine⟨?_,fun i a hi=>(kB hs hi).2⟩;induction l with
 |nil=>simp
 |cons x l ih=>rw[List.flatMap_cons,List.length_append,hs,ih,List.length_cons,Nat.add_mul];omega
theorem pW{P:Program}{t e:TypeId}{sz bytes:Nat}{z:LV}(ht:P.underlying t=some (.slice e))(hs:z9 P e=some sz)(hb:A7 P e=some bytes)(hz:B8 P e=some z)(h0:0<sz)(h1:0<bytes)
  {H:d9} {lo:Nat} {v:Value} {n:Nat} {cs:LV} (h:aP H lo sz v n cs) {a:Option Addr} {m k:Nat} {el:LV} (hx:A3 H sz (.slice a m k)=some el) (hel:el.length=m*sz) (hr:(n+m)*bytes≤140737488355328) (hlo:lo≤H.next):
  Ret (C3 P H [t,t] v (.slice a m k)) H fun v' H'=>aP H' lo sz v' (n+m) (cs++el)∧i4 lo H H':=by
 have hte:I2 P t=some e:=by simp [I2,ht]
 have hadd:Z4 P H sz (some t) (.slice a m k)=some (m,el):=by
  simp only[Z4,Option.bind_some,ht,hx,Option.map_some]
 have hsz:¬(sz=0∨bytes=0):=oM;by_cases hm:m=0
 ·subst hm;have he:el=[]:=List.length_eq_zero_iff.1 oM;subst he;rw[Nat.add_zero,List.append_nil];refine⟨v,none,H,?_,rfl,h,i4.refl _ _⟩;rcases h with⟨rfl,rfl,rfl⟩|⟨b,c,rfl,hg,hlb,hlen⟩
  ·simp [C3,hte,hs,hb,hz,hsz,hadd,dr]
  ·simp [C3,hte,hs,hb,hz,hsz,hadd,dr]
 ·rcases h with⟨rfl,rfl,rfl⟩|⟨b,c,rfl,hg,hlb,hlen⟩
  ·refine⟨.slice (some ⟨H.next,0,none⟩) m (m+1),some (H.push (.cells el true sz)),_,?_,rfl,.inr ⟨H.next,_,by rw[Nat.zero_add],i7,hlo,by simpa using hel⟩,i4.push hlo⟩;simp only[C3,List.head?_cons,Option.bind_some,hte,hs,hb,hz,List.getElem?_cons_succ,List.getElem?_cons_zero,if_neg hsz,hadd];rw[if_neg hm,if_pos (by simpa using hr),dr]
  ·have hbl:=u6 hg;have hcs:((cs.drop 0).take (n*sz))=cs:=by rw[List.drop_zero,List.take_of_length_le oM]
   by_cases hc:c=n
   ·refine⟨.slice (some ⟨H.next,0,none⟩) (n+m) (n+m+1),some (H.push (.cells (cs++el) true sz)),_,?_,rfl,.inr ⟨H.next,_,rfl,i7,hlo,by rw[List.length_append,hlen,hel,Nat.add_mul]⟩,i4.push hlo⟩;simp only[C3,List.head?_cons,Option.bind_some,hte,hs,hb,hz,List.getElem?_cons_succ,List.getElem?_cons_zero,if_neg hsz,hadd,hg,hcs];rw[if_neg hm,if_pos hr,if_pos (by simp;omega),if_pos hc,dr]
   ·refine⟨.slice (some ⟨H.next,0,none⟩) (n+m) (n+m+1),some ((H.put b .dead).push (.cells (cs++el) true sz)),_,?_,rfl,.inr ⟨H.next,_,rfl,y7 ⟨by simp [j5],by simp [j5]⟩,hlo,by rw[List.length_append,hlen,hel,Nat.add_mul]⟩,(i4.put hlb).trans (i4.push (by rw[j5];exact hlo))⟩;simp only[C3,List.head?_cons,Option.bind_some,hte,hs,hb,hz,List.getElem?_cons_succ,List.getElem?_cons_zero,if_neg hsz,hadd,hg,hcs];rw[if_neg hm,if_pos hr,if_pos (by simp;omega),if_neg hc,if_pos trivial,dr]
section
variable{P:Program}
def GE(P:Program)(q:Option (TypeId×TypeId))(B:Option Blk)(k:Value)(ok:Bool):Option Value:=
 match q with
 |some (kt,et)=>
  if Z8 P kt k then
   match B with
   |some (.map es)=>
    match ji P kt k es 0,C2 P et with
    |some (some (_,v)),some _=>some (if ok then .tuple #[v,.bool true] else v)
    |some none,some z=>some (if ok then .tuple #[z,.bool false] else z)
    |_,_=>none
   |_=>none
  else none
 |none=>none
theorem qZ(H:d9)(t:TypeId)(b:Nat)(k:Value)(ok:Bool):eY P H t (.map (some b)) k ok=GE P (rZ P t) (H.get b) k ok:=by
 unfold eY GE;cases rZ P t with
 |none=>rfl
 |some q=>
  simp only;split
  ·generalize H.get b=B;cases B with
   |none=>rfl
   |some B=>cases B<;>rfl
  ·rfl
def XZ(P:Program)(q:Option (TypeId×TypeId))(B:Option Blk)(H:d9)(b:Nat)(k v:Value):Option d9:=
 match q with
 |some (kt,_)=>
  if Z8 P kt k then
   match B with
   |some (.map es)=>
    match ji P kt k es 0 with
    |some (some (i,_))=>some (H.put b (.map (es.set i (k,v))))
    |some none=>some (H.put b (.map (es++[(k,v)])))
    |none=>none
   |_=>none
  else none
 |none=>none
theorem lk(H:d9)(t:TypeId)(b:Nat)(k v:Value):V4 P H t (.map (some b)) k v=XZ P (rZ P t) (H.get b) H b k v:=by
 unfold V4 XZ;cases rZ P t with
 |none=>rfl
 |some q=>
  simp only;split
  ·generalize H.get b=B;cases B with
   |none=>rfl
   |some B=>cases B<;>rfl
  ·rfl
def eqT(ks:Option (List D1))(xs ys:LV):Option Bool:=
 match ks with
 |some ks=>A0 ks xs ys
 |none=>none
theorem qb(t:TypeId)(xs ys:Array Value):E9 P .eql t (.agg xs) (.agg ys)=(eqT (eN P t) xs.toList ys.toList).map .bool:=by
 simp only[E9,eqA,eqT];cases eN P t<;>rfl
theorem qe(t:TypeId)(xs ys:Array Value):E9 P .neq t (.agg xs) (.agg ys)=(eqT (eN P t) xs.toList ys.toList).map fun b=> .bool !b:=by
 simp only[E9,eqA,eqT];cases eN P t<;>rfl
theorem zY(ks:List D1)(xs ys:LV):eqT (some ks) xs ys=A0 ks xs ys:=rT
theorem He:A0 [] [] []=some true:=rT
theorem Hg(ks:List D1)(a b:ByteArray)(xs ys:LV):A0 (.str::ks) (.string a::xs) (.string b::ys)=(A0 ks xs ys).map (decide (a=b)&& ·):=by
 simp only[A0,M6,pG];cases A0 ks xs ys<;>rfl
end
end Go.Proofs.YtofbhlhamfkljaaGreatDoor.Ve
namespace Go.Proofs.YtofbhlhamfkljaaGreatDoor.Ve
open Go Go.RowKit
set_option linter.unusedVariables false
set_option linter.unusedSimpArgs false
set_option maxRecDepth 1000000
set_option maxHeartbeats 0
abbrev ai2{p:Prop}(_:p):Prop:=p
theorem stOf{p:Prop}(h:p):ai2 h:=h
theorem ai3:ai2 (aI (aI (aI (aI @ak3 @ak1) (aI @aj5 (aI @ai9 @ai8))) (aI (aI @ak2 @aj6) (aI @aj7 (aI @aj0 @ai5)))) (aI (aI (aI @aj9 @ai4) (aI @aj3 (aI @ak0 @aj2))) (aI (aI @ai7 @ak4) (aI @aj8 (aI @aj1 @ai6))))):=stOf _
theorem rH:ai2 (aI (aI (aI @t5 @A4) (aI @i5 @j5)) (aI (aI @vJ @qX) (aI @List.length_cons.{0} @List.length_nil.{0}))):=stOf _
theorem Ny:ai2 (aI (aI (aI (aI (aI @Option.getD_some.{0} (aI @BW @yy)) (aI (aI @Cy @tR) (aI @zw @wE))) (aI (aI (aI @CU @Ev) (aI @xT @sX)) (aI (aI @zH @wO) (aI @zG @wN)))) (aI (aI (aI @Bx (aI @AZ @Ec)) (aI (aI @zX @sU) (aI @sV @xF))) (aI (aI (aI @xE @qO) (aI @mA @qP)) (aI (aI @tM @xG) (aI @qN @oY))))) (aI (aI (aI (aI @iC (aI @oZ @iE)) (aI (aI @kO @kP) (aI @oX @pd))) (aI (aI (aI @mB @BQ) (aI @tL @AY)) (aI (aI @xD @AX) (aI @xC @zn)))) (aI (aI (aI @sE (aI @zq @uk)) (aI (aI @wh @CD) (aI @wi @kf))) (aI (aI (aI @zl @wu) (aI @oD @CC)) (aI (aI @GV @pS) (aI @zk @CE)))))):=stOf _
theorem Nz:ai2 (aI (aI (aI (aI (aI @zm (aI @wq @mn)) (aI (aI @wk @mq) (aI @wl @sF))) (aI (aI (aI @mr @wo) (aI @zp @pU)) (aI (aI @kw @pR) (aI @zj @pY)))) (aI (aI (aI @yK (aI @Eg @sY)) (aI (aI @sZ @yk) (aI @yj @EM))) (aI (aI (aI @yb @BF) (aI @AP @CH)) (aI (aI @CQ @CO) (aI @CI @GX))))) (aI (aI (aI (aI @CR (aI @sJ @CN)) (aI (aI @CM @CK) (aI @CJ @qc))) (aI (aI (aI @qf @qd) (aI @qg @NT)) (aI (aI @NS @bap) (aI @bcp @mE)))) (aI (aI (aI @cq (aI @mf @sf)) (aI (aI @ek @jn) (aI @de @zL))) (aI (aI (aI @CT @zu) (aI @GZ @qh)) (aI (aI @kj @EV) (aI @EW @yw)))))):=stOf _
theorem NA:ai2 (aI (aI (aI (aI (aI @BI (aI @BJ @uj)) (aI (aI @qB @kA) (aI @mz @tA))) (aI (aI (aI @cQ @List.toList_toArray.{0}) (aI @qD @qE)) (aI (aI @oU @tz) (aI @Br @gO)))) (aI (aI (aI @tX (aI @xQ @Ex)) (aI (aI @Bool.and_false @Bool.false_and) (aI @MW @xI))) (aI (aI (aI @eX @Ej) (aI @Fj @yC)) (aI (aI @wK @wL) (aI @sP @oL))))) (aI (aI (aI (aI @qj (aI @mw @wM)) (aI (aI @sQ @EG) (aI @BD @uh))) (aI (aI (aI @ya @rr) (aI @EH @BE)) (aI (aI @uL @rR) (aI @Cc @Cb)))) (aI (aI (aI @my (aI @jC @uQ)) (aI (aI @EO @yg) (aI @yh @xk))) (aI (aI (aI @qy @jF) (aI @tI @xB)) (aI (aI @jE @tJ) (aI @ED @EC)))))):=stOf _
theorem NB:ai2 (aI (aI (aI (aI (aI @zy (aI @mt @oH)) (aI (aI @AK @xl) (aI @tu @mu))) (aI (aI (aI @C7 @C8) (aI @CZ @td)) (aI (aI @El @Bj) (aI @Em @tT)))) (aI (aI (aI @i5 (aI @j5 @y7)) (aI (aI @j6 @i8) (aI @i9 @t5))) (aI (aI (aI @A4 @vJ) (aI @qX @EA)) (aI (aI @Nl @xS) (aI @nG @nI))))) (aI (aI (aI (aI @Bt (aI @Ey @tY)) (aI (aI @xR @Ez) (aI @Bu @Nm))) (aI (aI (aI @if_true.{1} @if_false.{1}) (aI @decide_eq_true_eq @decide_true)) (aI (aI @decide_false @Option.map_some.{0,0}) (aI @Option.map_none.{0,0} @Option.bind_some.{0,0})))) (aI (aI (aI @List.map_cons.{0,0} (aI @List.map_nil.{0,0} @List.append_nil.{0})) (aI (aI @List.nil_append.{0} @List.cons_append.{0}) (aI @List.length_cons.{0} @List.length_nil.{0}))) (aI (aI (aI @List.take_succ_cons.{0} @List.take_zero.{0}) (aI @List.drop_succ_cons.{0} @List.drop_zero.{0})) (aI (aI @List.all_cons.{0} @List.all_nil.{0}) (aI @List.replicate_succ.{0} @List.replicate_zero.{0})))))):=stOf _
theorem NC:ai2 (aI (aI (aI (aI (aI @List.flatten_cons.{0} @List.flatten_nil.{0}) (aI @Bool.false_eq_true @Bool.true_eq_false)) (aI (aI @Bool.not_true @Bool.not_false) (aI @Bool.and_true (aI @Bool.true_and @Bool.or_false)))) (aI (aI (aI @Bool.false_or @Bool.or_true) (aI @Bool.true_or @Bool.and_self)) (aI (aI @ne_eq.{1} @not_false_eq_true) (aI @not_true_eq_false (aI @and_self @and_true))))) (aI (aI (aI (aI @true_and @Nat.zero_add) (aI @Nat.add_zero @Nat.zero_mul)) (aI (aI @Nat.le_refl @Option.some.injEq.{0}) (aI @Int.toNat_natCast (aI @wR @ur)))) (aI (aI (aI @uu @xU) (aI @ud (aI @qZ @lk))) (aI (aI @qb @qe) (aI @zY (aI @He @Hg)))))):=stOf _
theorem rQ:ai2 (aI (aI (aI Ny Nz) (aI NA NB)) (aI (aI NC @List.getElem?_toArray.{0}) (aI @List.getElem?_cons_zero.{0} @List.getElem?_cons_succ.{0}))):=stOf _
section
variable{P:Program}{base:Bs}{w0:World}{φ:List Loc}{S:List Blk}{w:World}{nt:Nat}{e:Env}{a:Act}
def vd:Obj→Bool
 | .loop _=>true
 | .deferred _=>true
 |_=>false
theorem BR.away{B:Blk}{l:Loc}(h:BR base φ B l w){k:Nat}{o:Obj}(ho:w.heap[k]?=some o)(ha:vd o=true)(hk:¬base.pr k)(hd:B≠ .dead):l.blk≠k:=by
 intro q;cases B with
 |dead=>exact hd rfl
 |cells c own sz=>
  cases own with
  |false=>exact hk (q▸h.below)
  |true=>
   obtain⟨_,_,cs,t,fz,h1,_⟩:=h.2.2.2.2 rfl;rw[q,ho]at h1;cases h1;cases ha
 |map es=>
  obtain⟨_,es',cl,h1,_⟩:=h;rw[q,ho]at h1;cases h1;cases ha
 |iter s p=>
  have h1:=h.2.2;rw[q,ho]at h1;cases h1;cases ha
theorem WR.putX(h:WR base w0 φ S w){k:Nat}{o:Obj}(ho:w.heap[k]?=some o)(ha:vd o=true)(hk:¬base.pr k)(o':Obj):WR base w0 φ S (w.putObj k o'):=by
 refine⟨h.len,⟨h.below.os,h.below.tape,h.below.output,by rw[World.putObj_size];exact h.below.size,fun j hj=>?_⟩,fun j hj=>by rw[World.putObj_size];exact h.size j hj,fun b B l hB hl=>?_,h.sep⟩
 ·rw[World.putObj_heap_other (show j≠k from fun q=>hk (q▸hj))];exact h.below.block j hj
 ·have hbr:=h.blk b B l hB hl;by_cases hd:B= .dead
  ·subst hd;trivial
  ·exact hbr.mono (Ext.refl φ) (World.putObj_heap_other (hbr.away ho ha hk hd))
theorem kD(h:WR base w0 φ S w){k:Nat}{o:Obj}(ho:w.heap[k]?=some o)(ha:vd o=true)(hk:¬base.pr k)(o':Obj)(low:Nat):Fr φ S low w (w.putObj k o'):=
 fun b B l _ hB hd hl=>World.putObj_heap_other ((h.blk b B l hB hl).away ho ha hk hd)
theorem WR.raiseX(h:WR base w0 φ S w)(Q:Nat→Prop)(hq:∀k,Q k→¬base.pr k∧∃o,w.heap[k]?=some o∧vd o=true):WR (base.add Q) w φ S w:=
 h.raise Q (fun k hk=>(Array.getElem?_eq_some_iff.1 (hq k hk).2.choose_spec.1).1) fun b B l hB hm hl hQ=>by
  obtain⟨h1,o,h2,h3⟩:=hq _ hQ;refine(h.blk b B l hB hl).away h2 h3 h1 ?_ rfl;rintro rfl;cases hm
theorem WR.allocX(h:WR base w0 φ S w)(o:Obj):WR base w0 φ S (w.alloc o):=by
 refine h.grow ⟨by simp,fun j hj _=>Below.heap_alloc _ _ _ hj⟩ (h.below.alloc h.size o)
theorem qH(h:WR base w0 φ S w)(o:Obj)(low:Nat):Fr φ S low w (w.alloc o):=fun b B l _ hB hd hl=>by
 refine Below.heap_alloc _ _ _ ?_;have hbr:=h.blk b B l hB hl;by_cases hm:B.mine=true
 ·exact(hbr.lt hm).2
 ·cases B with
  |dead=>exact absurd rfl hd
  |cells c own sz=>
   have:own=false:=by simpa [Blk.mine] using hm
   subst this;exact h.size _ hbr.below
  |map es=>exact absurd rfl hm
  |iter s p=>exact absurd rfl hm
open Classical in
noncomputable def S6(P:Program)(C:A5)(k:Nat)(A B:Code)(p1 p2:Nat)(e:Env)(ok:d9→Prop):List (Nat×Nat)→d9→Option (Out×d9)
 |[],H=>some (.normal,H)
 |x::r,H=>
  match I7 P C k A ((p2,.int .i64 (x.2:Int))::(p1,.int .i64 (x.1:Int))::e) H with
  |some (.normal,e1,H1)=>
   match I7 P C k B e1 H1 with
   |some (.normal,_,H2)=>if ok H2 then S6 P C k A B p1 p2 e ok r H2 else none
   |some (.ret,_,H2)=>some (.ret,H2)
   |_=>none
  |_=>none
theorem bK{P:Program}{C:A5}{k:Nat}{A B:Code}{p1 p2:Nat}{e:Env}{ok:d9→Prop}:∀(l r:List (Nat×Nat))(H:d9),
  S6 P C k A B p1 p2 e ok (l++r) H=match S6 P C k A B p1 p2 e ok l H with
   |some (.normal,H1)=>S6 P C k A B p1 p2 e ok r H1
   |z=>z
 |[],r,H=>rfl
 |x::l,r,H=>by
  simp only[List.cons_append,S6];split
  ·split
   ·split
    ·exact bK l r _
    ·rfl
   ·rfl
   ·rfl
  ·rfl
theorem bh{C:A5}(hC:aB P base w0 C){k:Nat}{A B:Code}{p1 p2:Nat}{e:Env}{ok:d9→Prop}:∀(l:List (Nat×Nat))(H:d9){o:Out}{H':d9},S6 P C k A B p1 p2 e ok l H=some (o,H')→Le H H'
 |[],H,o,H',h=>by cases h;exact Le.refl _
 |x::l,H,o,H',h=>by
  simp only[S6]at h;split at h
  ·rename_i e1 H1 h1;split at h
   ·rename_i e2 H2 h2;split at h
    ·exact((M7 hC h1).trans (M7 hC h2)).trans (bh hC l H2 h)
    ·cases h
   ·rename_i e2 H2 h2;cases h;exact(M7 hC h1).trans (M7 hC h2)
   ·cases h
  ·cases h
def sr(P:Program)(gf:Nat)(lb:Array Value)(Rd:World→Prop)(L:List (Nat×Nat))(W0:World):Prop:=
 ∀(l:Nat)(J Jx:List (Nat×Nat)→World→Prop),(∀pre w,J pre w→J pre w.drew)→
  (∀pre(x:Nat×Nat) W,(pre++[x])<+:L→J pre W→YieldAt Fence.wide 1 P l #[.int .i64 (x.1:Int),.int .i64 (x.2:Int)] W fun e W'=>
   (e= .returned (.bool true)∧J (pre++[x]) W'∧(Rd W→Rd W'))∨(e= .returned (.bool false)∧Jx (pre++[x]) W'))→
  J [] W0→CallsIn Fence.wide 2 P gf (#[.func (.yield l) #[] #[]]++lb) W0 fun e W'=>(∃v,e= .returned v)∧(J L W'∨∃pre,pre<+:L∧Jx pre W')
theorem jK{C:A5}(hm:P.follows .mixedOrders=true)(hC:U3 P C){k:Nat}{A B:Code}{p1 p2:Nat}{g:Operand}{ok:d9→Prop}{L:List (Nat×Nat)}{H Hf:d9}{o:Out}{Q:Exit→Act→World→Prop}
  (rA:E5 A=true) (rB:E5 B=true) (okA:F8 nt A=true) (okB:F8 nt B=true) (h1:p1<nt) (h2:p2<nt)
  (hE:ER φ nt e a) (hW:WR base w0 φ H.bs w) {gf:Nat} {lb:Array Value} (hg:a.eval g= .func (.func gf) #[] lb) (hen:bP P gf)
  (Rd:World→Prop) (hRd:∀φ' H' W',Ext φ φ'→WR base w0 φ' H'.bs W'→ok H'→Rd W')
  (hseq:∀W0,WR base w0 φ H.bs W0→sr P gf lb Rd L W0)
  (h:S6 P C k A B p1 p2 e ok L H=some (o,Hf))
  (hp:∀φ' W',Ext φ φ'→WR base w0 φ' Hf.bs W'→Fr φ H.bs Hf.low w W'→W'.heap[w.heap.size]?=some (.deferred (some []))→Q o.exit' {a with defers:={target:= .collected w.heap.size,args:= #[]}::a.defers} W'):
  (Code.rangeFunc g #[p1,p2] A B).wp P Q a w:=by
 refine(wpIn_wide (n:=3)).1 (wpIn_rangeFunc fun fn hfn=>?_);obtain⟨D,hD⟩:∃D,w.heap.size=D:=⟨_,rfl⟩
 rw[hD]at hp;have hDp:¬base.pr D:=fun q=>by have:=hW.size D q;omega
 have hlp:¬base.pr (D+1):=fun q=>by have:=hW.size (D+1) q;omega
 obtain⟨rec,hrec⟩:∃rec:LoopState→Option Code→Loop,rec=fun st pe=>{state:=st,pending:=pe,fn,tmps:=a.tmps,params:= #[p1,p2],assign:=A,body:=B,defers:=D}:=⟨_,rfl⟩
 obtain⟨W1,hW1⟩:∃W1,(w.alloc (.deferred (some []))).alloc (.loop (rec .ready none))=W1:=⟨_,rfl⟩
 have hL1:W1.heap[D+1]?=some (.loop (rec .ready none)):=by
  rw[←hW1,←hD];have:=World.alloc_heap_new (w.alloc (.deferred (some []))) (.loop (rec .ready none));rwa [World.size_alloc]at this
 have hK1:W1.heap[D]?=some (.deferred (some [])):=by
  rw[←hW1,←hD];exact(Below.heap_alloc _ _ _ (by simp)).trans (World.alloc_heap_new w _)
 have wr1:WR base w0 φ H.bs W1:=by rw[←hW1];exact(hW.allocX _).allocX _
 have fr1:Fr φ H.bs H.low w W1:=by
  rw[←hW1];exact Fr.trans (Ext.refl φ) (Le.refl H) (Le.refl H) hW.len (qH hW _ _) (qH (hW.allocX _) _ _)
 obtain⟨J0,hJ0⟩:∃J0:Out→List (Nat×Nat)→World→Prop,J0=fun o pre W=>∃φ' H',S6 P C k A B p1 p2 e ok pre H=some (o,H')∧Ext φ φ'∧WR base w0 φ' H'.bs W∧Fr φ H.bs H'.low w W∧W.heap[D]?=some (.deferred (some [])):=⟨_,rfl⟩
 have hit:=hseq W1 wr1 (D+1) (fun pre W=>J0 .normal pre W∧W.heap[D+1]?=some (.loop (rec .ready none))) (fun pre W=>J0 .ret pre W∧W.heap[D+1]?=some (.loop (rec .done (some .ret))))
  (by
   rw[hJ0];rintro pre W ⟨⟨φ',H',q1,q2,q3,q4,q5⟩,q6⟩;exact⟨⟨φ',H',q1,q2,q3.same_heap rfl rfl rfl rfl,q4,q5⟩,q6⟩)
  ?_ (by rw[hJ0];exact⟨⟨φ,H,rfl,Ext.refl φ,wr1,fr1,hK1⟩,hL1⟩)
 ·refine⟨D+1,[{target:= .collected D,args:= #[]}],W1,{target:= .fn (.func gf) lb,args:= #[.func (.yield (D+1)) #[] #[]]},W1,gf,#[.func (.yield (D+1)) #[] #[]]++lb,W1,?_,?_,?_,?_,fun _=>oM,?_⟩
  ·rw[←hW1,hrec,←hD];exact run_enterLoop_outer _ _ _ _ _
  ·simp only[resolve,hg];simp [go_sem]
  ·intro f' hf';trivial
  ·have:=gZ hen (#[.func (.yield (D+1)) #[] #[]]++lb) W1;simp [invoke,go_sem,this]
  ·refine hit.mono ?_;rw[hJ0];rintro en W2 ⟨⟨v,rfl⟩,(⟨⟨φ',H',q1,q2,q3,q4,q5⟩,q6⟩|⟨pre,hpre,⟨φ',H',q1,q2,q3,q4,q5⟩,q6⟩)⟩
   ·rw[h]at q1;cases q1;refine⟨none,_,by have:=run_endLoop (P:=P) q6 (by rw[hrec];simp);rw[hrec]at this;exact this,?_⟩;exact hp φ' _ q2 (q3.putX q6 rfl hlp _) (Fr.trans q2 (bh (hC base w0) L H h) (Le.refl _) hW.len q4 (kD q3 q6 rfl hlp _ _)) ((World.putObj_heap_other oM).trans q5)
   ·obtain⟨r,rfl⟩:=hpre;rw[bK,q1]at h;cases h;refine⟨some .ret,_,by have:=run_endLoop (P:=P) q6 (by rw[hrec];simp);rw[hrec]at this;exact this,wpIn_ret ?_⟩;exact hp φ' _ q2 (q3.putX q6 rfl hlp _) (Fr.trans q2 (bh (hC base w0) pre H q1) (Le.refl _) hW.len q4 (kD q3 q6 rfl hlp _ _)) ((World.putObj_heap_other oM).trans q5)
 ·
  rw[hJ0];rintro pre x W hpre ⟨⟨φ',H',q1,q2,q3,q4,q5⟩,q6⟩;have hy:=run_yield (P:=P) (args:= #[.int .i64 (x.1:Int),.int .i64 (x.2:Int)]) q6 (by rw[hrec];rfl);rw[hrec]at hy;refine⟨fn,_,A,B,hy,roundIn_of_wpIn hfn ?_⟩;have hx:S6 P C k A B p1 p2 e ok [x] H'≠none:=by
   intro hn;obtain⟨r,rfl⟩:=hpre;rw[bK,bK,q1]at h;simp only[hn]at h;cases h
  have happ:=bK (P:=P) (C:=C) (k:=k) (A:=A) (B:=B) (p1:=p1) (p2:=p2) (e:=e) (ok:=ok) pre [x] H;rw[q1]at happ;simp only[S6]at hx happ;have le0:=bh (hC base w0) pre H q1;have hEr:ER φ' nt ((p2,.int .i64 (x.2:Int))::(p1,.int .i64 (x.1:Int))::e) {tmps:=(#[p1,p2].zip #[(.int .i64 (x.1:Int):Value),.int .i64 (x.2:Int)]).foldl (fun t(p,v)=>t.setIfInBounds p v) a.tmps,defers:=[]}:=by
   have h3:=((hE.mono q2).put (d:=some p1) (by simp [dD,h1]) (.int .i64 (x.1:Int))).put (d:=some p2) (by simp [dD,h2]) (.int .i64 (x.2:Int));have hz:(#[p1,p2].zip #[(.int .i64 (x.1:Int):Value),.int .i64 (x.2:Int)]).foldl (fun t(p,v)=>t.setIfInBounds p v) a.tmps=(a.tmps.setIfInBounds p1 (.int .i64 (x.1:Int))).setIfInBounds p2 (.int .i64 (x.2:Int)):=by simp
   rw[hz];exact⟨h3.size,h3.val⟩
  split at hx
  rotate_left
  ·exact absurd rfl hx
  rename_i e1 H1 hA;simp only[hA]at happ;have leA:=M7 (hC base w0) hA;have raise:∀{φ2:List Loc}{S2:List Blk}{V:World}{st:Loop},WR base w0 φ2 S2 V→V.heap[D]?=some (.deferred (some []))→V.heap[D+1]?=some (.loop st)→WR (base.add fun j=>j=D∨j=D+1) V φ2 S2 V:=fun hV hd hl=>
   hV.raiseX _ fun j hj=>by
    rcases hj with rfl|rfl
    ·exact⟨hDp,_,hd,rfl⟩
    ·exact⟨hlp,_,hl,rfl⟩
  refine fE (base:=base.add fun j=>j=D∨j=D+1) (w0:=W) hm hC (D+1) _ rA okA hA hEr (raise q3 q5 q6) ?_;intro φ2 a2 w2 hx2 hE2 hW2 hfr2 hd2;have k5:w2.heap[D]?=some (.deferred (some [])):=(hW2.below.block D (.inr (.inl rfl))).trans q5;have k6:w2.heap[D+1]?=some (.loop (rec .ready none)):=(hW2.below.block (D+1) (.inr (.inr rfl))).trans q6;have hW2':=hW2.lower q3.below;refine⟨_,run_beginRound k6 (by rw[hrec]),?_⟩;obtain⟨w3,hw3⟩:∃w3,w2.putObj (D+1) (.loop {rec .ready none with state:= .busy})=w3:=⟨_,rfl⟩
  rw[hw3];have m5:w3.heap[D]?=some (.deferred (some [])):=by rw[←hw3];exact(World.putObj_heap_other oM).trans k5
  have m6:w3.heap[D+1]?=some (.loop (rec .busy none)):=by
   rw[←hw3,World.putObj_heap_same (Array.getElem?_eq_some_iff.1 k6).1,hrec]
  have hW3:WR base w0 φ2 H1.bs w3:=by rw[←hw3];exact hW2'.putX k6 rfl hlp _
  have f3:Fr φ H.bs H1.low w w3:=by
   have g1:Fr φ' H'.bs H1.low W w2:=hfr2;have g2:Fr φ2 H1.bs H1.low w2 w3:=by rw[←hw3];exact kD hW2' k6 rfl hlp _ _
   exact Fr.trans (q2.trans hx2) (le0.trans leA) (Le.refl _) hW.len (Fr.trans q2 le0 leA hW.len q4 g1) g2
  have fin:∀{φ4:List Loc}{H2:d9}{w4:World}(jump:Option Code),Ext φ2 φ4→Le H1 H2→WR (base.add fun j=>j=D∨j=D+1) w3 φ4 H2.bs w4→Fr φ2 H1.bs H2.low w3 w4→
    ∃w5,(Instr.endRound (D+1) jump).run P w4= .ok (.bool jump.isNone) w5∧WR base w0 φ4 H2.bs w5∧Fr φ H.bs H2.low w w5∧w5.heap[D]?=some (.deferred (some []))∧w5.heap[D+1]?=some (.loop (rec (if jump.isNone then .ready else .done) jump)):=by
   intro φ4 H2 w4 jump hx4 hle4 hW4 hfr4;have n5:w4.heap[D]?=some (.deferred (some [])):=(hW4.below.block D (.inr (.inl rfl))).trans m5;have n6:w4.heap[D+1]?=some (.loop (rec .busy none)):=(hW4.below.block (D+1) (.inr (.inr rfl))).trans m6;have hW4':=hW4.lower hW3.below;refine⟨_,run_endRound jump n6,hW4'.putX n6 rfl hlp _,?_,(World.putObj_heap_other oM).trans n5,?_⟩
   ·exact Fr.trans ((q2.trans hx2).trans hx4) ((le0.trans leA).trans hle4) (Le.refl _) hW.len (Fr.trans (q2.trans hx2) (le0.trans leA) hle4 hW.len f3 hfr4) (kD hW4' n6 rfl hlp _ _)
   ·rw[World.putObj_heap_same (Array.getElem?_eq_some_iff.1 n6).1,hrec]
  split at hx
  ·rename_i e2 H2 hB;have leB:=M7 (hC base w0) hB;simp only[hB]at happ;split at hx
   rotate_left
   ·exact absurd rfl hx
   rename_i hok;rw[if_pos hok]at happ;refine fE (base:=base.add fun j=>j=D∨j=D+1) (w0:=w3) hm hC (D+1) _ rB okB hB hE2 (raise hW3 m5 m6) ?_;intro φ4 a4 w4 hx4 hE4 hW4 hfr4 hd4;obtain⟨w5,r1,r2,r3,r4,r5⟩:=fin none hx4 leB hW4 hfr4;exact⟨_,w5,r1,.inl ⟨rfl,⟨⟨φ4,H2,happ,(q2.trans hx2).trans hx4,r2,r3,r4⟩,r5⟩,fun _=>hRd φ4 H2 w5 ((q2.trans hx2).trans hx4) r2 hok⟩⟩
  ·rename_i e2 H2 hB;have leB:=M7 (hC base w0) hB;simp only[hB]at happ;refine fE (base:=base.add fun j=>j=D∨j=D+1) (w0:=w3) hm hC (D+1) _ rB okB hB hE2 (raise hW3 m5 m6) ?_;intro φ4 a4 w4 hx4 hE4 hW4 hfr4 hd4;obtain⟨w5,r1,r2,r3,r4,r5⟩:=fin (some .ret) hx4 leB hW4 hfr4;exact⟨_,w5,r1,.inr ⟨rfl,⟨φ4,H2,happ,(q2.trans hx2).trans hx4,r2,r3,r4⟩,r5⟩⟩
  ·exact absurd rfl hx
end
section
variable{P:Program}{X:Lib}
theorem sj(hm:P.follows .mixedOrders=true)(hX:mO P X):U3 P (CL P X):=fun base w0 g args H v r h=>by
 obtain⟨k,hk⟩:=aN.1 h;exact CV hm hX k base w0 g args H v r hk
open Classical in
noncomputable def aw(P:Program)(X:Lib)(A B:E4)(p1 p2:Nat)(e:Env)(ok:d9→Prop):List (Nat×Nat)→d9→Option (Out×d9)
 |[],H=>some (.normal,H)
 |x::r,H=>
  match(LE P X A ((p2,.int .i64 (x.2:Int))::(p1,.int .i64 (x.1:Int))::e) H:Option (Out×Env×d9))with
  |some (.normal,e1,H1)=>
   match(LE P X B e1 H1:Option (Out×Env×d9))with
   |some (.normal,_,H2)=>if ok H2 then aw P X A B p1 p2 e ok r H2 else none
   |some (.ret,_,H2)=>some (.ret,H2)
   |_=>none
  |_=>none
theorem cR{c:Code}{l:E4}(h:O7 c=some l){e:Env}{H:d9}{r:Out×Env×d9}(hr:LE P X l e H=some r):∃k,I7 P (CL P X) k c e H=some r:=by
 obtain⟨k,hk⟩:=bQ.1 hr;exact⟨k,by rw[kY (CL P X) k h];exact hk⟩
theorem Z6{C:A5}{k k':Nat}(hk:k≤k'){c:Code}{e:Env}{H:d9}{r:Out×Env×d9}(h:I7 P C k c e H=some r):I7 P C k' c e H=some r:=Z5 (fun _ _ _=>LeO.refl _) k k' hk c e H r h
theorem jw{C:A5}{k k':Nat}(hk:k≤k'){A B:Code}{p1 p2:Nat}{e:Env}{ok:d9→Prop}:∀(l:List (Nat×Nat))(H:d9){r:Out×d9},S6 P C k A B p1 p2 e ok l H=some r→S6 P C k' A B p1 p2 e ok l H=some r
 |[],H,r,h=>h
 |x::l,H,r,h=>by
  simp only[S6]at h ⊢;split at h
  ·rename_i e1 H1 h1;simp only[Z6 hk h1];split at h
   ·rename_i e2 H2 h2;simp only[Z6 hk h2];split at h
    ·rename_i q;rw[if_pos q];exact jw hk l H2 h
    ·cases h
   ·rename_i e2 H2 h2;simp only[Z6 hk h2];exact h
   ·cases h
  ·cases h
theorem dt{cA cB:Code}{A B:E4}(hA:O7 cA=some A)(hB:O7 cB=some B){p1 p2:Nat}{e:Env}{ok:d9→Prop}:∀(l:List (Nat×Nat))(H:d9){r:Out×d9},aw P X A B p1 p2 e ok l H=some r→∃k,S6 P (CL P X) k cA cB p1 p2 e ok l H=some r
 |[],H,r,h=>⟨0,h⟩
 |x::l,H,r,h=>by
  simp only[aw]at h;split at h
  ·rename_i e1 H1 h1;obtain⟨k1,q1⟩:=cR hA h1;split at h
   ·rename_i e2 H2 h2;obtain⟨k2,q2⟩:=cR hB h2;split at h
    ·rename_i q;obtain⟨k3,q3⟩:=dt hA hB l H2 h;refine⟨max k1 (max k2 k3),?_⟩;simp only[S6,Z6 (show k1≤max k1 (max k2 k3) from oM) q1,Z6 (show k2≤max k1 (max k2 k3) from oM) q2,if_pos q];exact jw oM l H2 q3
    ·cases h
   ·rename_i e2 H2 h2;obtain⟨k2,q2⟩:=cR hB h2;refine⟨max k1 k2,?_⟩;simp only[S6,Z6 (show k1≤max k1 k2 from oM) q1,Z6 (show k2≤max k1 k2 from oM) q2];exact h
   ·cases h
  ·cases h
noncomputable def pC(P:Program)(X:Lib)(c1 c2 A B c3:E4)(p1 p2:Nat)(it:Env→d9→Option (List (Nat×Nat)×(d9→Prop)))(e:Env)(H:d9):Option (Out×Env×d9):=
 match(LE P X c1 e H:Option (Out×Env×d9))with
 |some (.normal,e1,H1)=>
  match(LE P X c2 e1 H1:Option (Out×Env×d9))with
  |some (.normal,e2,H2)=>
   match it e2 H2 with
   |some (L,ok)=>
    match aw P X A B p1 p2 e2 ok L H2 with
    |some (.normal,H3)=>LE P X c3 e2 H3
    |some (.ret,H3)=>some (.ret,e2,H3)
    |_=>none
   |none=>none
  |_=>none
 |_=>none
theorem xn{base:Bs}{w0:World}{g:FuncId}{args:LV}{v v2:Value}{r:Option d9}{H H':d9}(hle:Le ⟨H.bs,H.next⟩ H')
  (main:∀(φ:List Loc)(w:World)(args':LV),VRs φ args args'→WR base w0 φ H.bs w→Calls P g args'.toArray w fun en w'=>∃v' φ',en= .returned v'∧Ext φ φ'∧VR φ' v v'∧WR base w0 φ' H'.bs w'∧Fr φ H.bs H'.low w w')
  (h:D4 v H H'=(v2,r)):(∀H',r=some H'→Le H H')∧(r=none→L0 v2=true)∧
  ∀(φ:List Loc)(w:World)(args':LV),VRs φ args args'→WR base w0 φ H.bs w→
   Calls P g args'.toArray w fun en w'=>match(generalizing:=false) r with
    |none=>en= .returned v2∧Cls base w0 φ H.bs w w'
    |some H'=>∃v' φ',en= .returned v'∧Ext φ φ'∧VR φ' v2 v'∧WR base w0 φ' H'.bs w'∧Fr φ H.bs H'.low w w':=by
 unfold D4 at h;split at h
 ·rename_i hgc;simp only[Prod.mk.injEq]at h;obtain⟨rfl,rfl⟩:=h;simp only[Bool.and_eq_true,decide_eq_true_eq]at hgc;refine⟨fun H' h=>(by cases h),fun _=>hgc.1,fun φ w args' ha hW=>(main φ w args' ha hW).mono fun en w' hq=>?_⟩;obtain⟨v',φ',rfl,hx,hv,hW',hfr⟩:=hq;exact⟨by rw[hv.eq_na hgc.1],hW.back hW' hfr hgc.2⟩
 ·simp only[Prod.mk.injEq]at h;obtain⟨rfl,rfl⟩:=h;refine⟨fun H2 h2=>?_,fun h=>(by cases h),fun φ w args' ha hW=>(main φ w args' ha hW).mono fun en w' hq=>?_⟩
  ·cases h2;exact⟨Nat.min_le_left _ _,hle.len,fun b hb hl=>hle.same b (Nat.lt_of_lt_of_le hb (Nat.min_le_right _ _)) hl⟩
  ·obtain⟨v',φ',h1,hx,hv,hW',hfr⟩:=hq;exact⟨v',φ',h1,hx,hv,hW',fun b B l hb=>hfr b B l (Nat.lt_of_lt_of_le hb (Nat.min_le_right _ _))⟩
noncomputable def jV(P:Program)(X:Lib)(c1 c2 A B c3:E4)(p1 p2 nt:Nat)(rs:List ResultVar)(it:Env→d9→Option (List (Nat×Nat)×(d9→Prop)))(args:LV)(H:d9):Option (Value×Option d9):=
 if args.length≤nt then u5 P rs H (pC P X c1 c2 A B c3 p1 p2 it (D8 0 args) ⟨H.bs,H.next⟩) else none
theorem BN(hm:P.follows .mixedOrders=true)(hX:mO P X){f:FuncId}{fn:Func}{d1 d2 dA dB d3:Code}{c1 c2 A B c3:E4}{id p1 p2:Nat}{g:Operand}{gf:Nat}{it:Env→d9→Option (List (Nat×Nat)×(d9→Prop))}
  (hfunc:P.funcs[f]?=some fn) (hbody:fn.body=some (.seq d1 (.seq (.seq d2 (.block id (.rangeFunc g #[p1,p2] dA dB))) d3))) (hname:(fn.name== "runtime.NumGoroutine")=false)
  (l1:O7 d1=some c1) (l2:O7 d2=some c2) (lA:O7 dA=some A) (lB:O7 dB=some B) (l3:O7 d3=some c3)
  (hok:(F8 fn.ntmps d1&&F8 fn.ntmps d2&&F8 fn.ntmps dA&&F8 fn.ntmps dB&&F8 fn.ntmps d3&&E5 dA&&E5 dB&&decide (p1<fn.ntmps)&&decide (p2<fn.ntmps))=true) (hgf:bP P gf)
  (hIt:∀{base:Bs}{w0:World}{φ:List Loc}{w:World}{a:Act}{e:Env}{H:d9}{L:List (Nat×Nat)}{ok:d9→Prop},it e H=some (L,ok)→ER φ fn.ntmps e a→WR base w0 φ H.bs w→
   ∃lb Rd,a.eval g= .func (.func gf) #[] lb∧(∀φ' H' W',Ext φ φ'→WR base w0 φ' H'.bs W'→ok H'→Rd W')∧∀W0,WR base w0 φ H.bs W0→sr P gf lb Rd L W0):
  U3 P (Eo f (jV P X c1 c2 A B c3 p1 p2 fn.ntmps fn.results.toList it)):=by
 intro base w0 g' args H v r h;simp only[Bool.and_eq_true,decide_eq_true_eq]at hok;obtain⟨⟨⟨⟨⟨⟨⟨⟨o1,o2⟩,oA⟩,oB⟩,o3⟩,rA⟩,rB⟩,hp1⟩,hp2⟩:=hok;have hC:=sj hm hX;have hen:bP P f:=⟨fn,hfunc,hname,by rw[hbody];rfl⟩
 unfold Eo at h;split at h
 rotate_left
 ·cases h
 rename_i hg';subst hg';unfold jV at h;split at h
 rotate_left
 ·cases h
 rename_i hlen;unfold u5 at h;split at h
 ·cases h
 rotate_left
 ·cases h
 rename_i o e4 H4 hno hrun;obtain⟨vs,hvs,hfin⟩:=Option.map_eq_some_iff.1 h;unfold pC at hrun;split at hrun
 rotate_left
 ·cases hrun
 rename_i e1 H1 r1;split at hrun
 rotate_left
 ·cases hrun
 rename_i e2 H2 r2;split at hrun
 rotate_left
 ·cases hrun
 rename_i L ok hit;obtain⟨k1,x1⟩:=cR l1 r1;obtain⟨k2,x2⟩:=cR l2 r2;have le1:=M7 (hC base w0) x1;have le2:=M7 (hC base w0) x2;have leave:∀{base:Bs}{w0:World}{φ:List Loc}{w':World}{a':Act}{D:Nat}{R:Ending→World→Prop},ER φ fn.ntmps e4 a'→WR base w0 φ H4.bs w'→a'.defers=[{target:= .collected D,args:= #[]}]→w'.heap[D]?=some (.deferred (some []))→¬base.pr D→
   (∀v' w'',VR φ (aA vs) v'→WR base w0 φ H4.bs w''→(∀low,Fr φ H4.bs low w' w'')→R (.returned v') w'')→LeavesInM Fence.wide 3 P fn a'.tmps R a'.defers .returning w':=by
  intro base w0 φ w' a' D R hE hW hd hD hDp hR;rw[hd];have hW2:=hW.putX hD rfl hDp (.deferred none);obtain⟨v',hv,hrun⟩:=jv hW2 hE hvs;exact⟨by simp,.inl ⟨D,_,rfl,run_takeDeferred hD,v',hrun,hR v' _ hv hW2 fun low=>kD hW hD rfl hDp _ low⟩⟩
 have rds:∃(o5:Out)(H3:d9),aw P X A B p1 p2 e2 ok L H2=some (o5,H3)∧((o5= .normal∧LE P X c3 e2 H3=some (o,e4,H4))∨(o5= .ret∧o= .ret∧e4=e2∧H4=H3)):=by
  split at hrun
  ·rename_i H3 r3;exact⟨_,H3,r3,.inl ⟨rfl,hrun⟩⟩
  ·rename_i H3 r3;cases hrun;exact⟨_,_,r3,.inr ⟨rfl,rfl,rfl,rfl⟩⟩
  ·cases hrun
 obtain⟨o5,H3,r3,hr3⟩:=rds;obtain⟨k3,x3⟩:=dt lA lB L H2 r3;have le3:=bh (hC base w0) L H2 x3;have le4:Le H3 H4:=by
  rcases hr3 with⟨_,h3⟩|⟨_,_,_,rfl⟩
  ·obtain⟨k4,x4⟩:=cR l3 h3;exact M7 (hC base w0) x4
  ·exact Le.refl _
 have hleH:Le ⟨H.bs,H.next⟩ H4:=((le1.trans le2).trans le3).trans le4;refine⟨hen,xn hleH (fun φ w args' ha hW=>?_) hfin⟩;refine(callsIn_wide (n:=3)).1 (callsIn_of_wp_marks hfunc hbody trivial (wpIn_wide.2 (wp_seq ?_)));refine cY (H:=⟨H.bs,H.next⟩) hm hC o1 x1 (qr ha hlen) hW ?_;intro φ1 a1 w1 hx1 hE1 hW1 hfr1 hd1;refine wp_seq (wp_seq (cY hm hC o2 x2 hE1 hW1 ?_));intro φ2 a2 w2 hx2 hE2 hW2 hfr2 hd2;have hd2':a2.defers=[]:=hd2.trans hd1;obtain⟨lb,Rd,q1,q2,q3⟩:=hIt hit hE2 hW2;have hDp:¬base.pr w2.heap.size:=fun q=>by have:=hW2.size _ q;omega
 refine wp_block (jK hm hC rA rB oA oB hp1 hp2 hE2 hW2 q1 hgf Rd q2 q3 x3 ?_);intro φ3 w3 hx3 hW3 hfr3 hD3;have fr3:Fr φ H.bs H3.low w w3:=Fr.trans (H:=(⟨H.bs,H.next⟩:d9)) (hx1.trans hx2) (le1.trans le2) le3 hW.len (Fr.trans (H:=(⟨H.bs,H.next⟩:d9)) hx1 le1 le2 hW.len hfr1 hfr2) hfr3;rcases hr3 with⟨rfl,h3⟩|⟨rfl,rfl,rfl,e43⟩
 ·obtain⟨k4,x4⟩:=cR l3 h3;have hE3:ER φ3 fn.ntmps e2 {a2 with defers:={target:= .collected w2.heap.size,args:= #[]}::a2.defers}:=⟨(hE2.mono hx3).size,(hE2.mono hx3).val⟩
  refine cY (base:=base.add fun j=>j=w2.heap.size) (w0:=w3) hm hC o3 x4 hE3 (hW3.raiseX _ fun j hj=>by subst hj;exact⟨hDp,_,hD3,rfl⟩) ?_;intro φ4 a4 w4 hx4 hE4 hW4 hfr4 hd4;have fr4:Fr φ H.bs H4.low w w4:=Fr.trans (H:=(⟨H.bs,H.next⟩:d9)) ((hx1.trans hx2).trans hx3) ((le1.trans le2).trans le3) le4 hW.len fr3 hfr4;have fin:=leave (R:=fun en w'=>∃v' φ',en= .returned v'∧Ext φ φ'∧VR φ' (aA vs) v'∧WR base w0 φ' H4.bs w'∧Fr φ H.bs H4.low w w') hE4 (hW4.lower hW3.below) (by rw[hd4,hd2']) ((hW4.below.block _ (.inr rfl)).trans hD3) hDp
   (fun v' w'' hv hW'' hfr''=>⟨v',φ4,rfl,((hx1.trans hx2).trans hx3).trans hx4,hv,hW'',Fr.trans (H:=(⟨H.bs,H.next⟩:d9)) (((hx1.trans hx2).trans hx3).trans hx4) hleH (Le.refl _) hW.len fr4 (hfr'' _)⟩)
  cases o with
  |normal=>exact fin
  |ret=>exact fin
  |exit id=>exact(hno id rfl).elim
 ·subst e43;exact leave (a':={a2 with defers:={target:= .collected w2.heap.size,args:= #[]}::a2.defers}) (R:=fun en w'=>∃v' φ',en= .returned v'∧Ext φ φ'∧VR φ' (aA vs) v'∧WR base w0 φ' H4.bs w'∧Fr φ H.bs H4.low w w') ⟨(hE2.mono hx3).size,(hE2.mono hx3).val⟩ hW3 (by rw[hd2']) hD3 hDp
   (fun v' w'' hv hW'' hfr''=>⟨v',φ3,rfl,(hx1.trans hx2).trans hx3,hv,hW'',Fr.trans (H:=(⟨H.bs,H.next⟩:d9)) ((hx1.trans hx2).trans hx3) hleH (Le.refl _) hW.len fr3 (hfr'' _)⟩)
end
end Go.Proofs.YtofbhlhamfkljaaGreatDoor.Ve
namespace Go.Proofs.YtofbhlhamfkljaaGreatDoor.Ve
open Go Go.RowKit
set_option linter.unusedVariables false
set_option linter.unusedSimpArgs false
set_option maxHeartbeats 0
theorem zB{H:Type}(d:DataW H):1≤Rows.uptoBulk d:=by
 cases d with
 |lit l=>cases l<;>simp [Rows.uptoBulk]
 |nil=>simp [Rows.uptoBulk]
 |ptr d=>simp [Rows.uptoBulk]
 |slice elems spare=>simp [Rows.uptoBulk]
 |agg parts=>simp [Rows.uptoBulk]
 |iface t d=>simp [Rows.uptoBulk]
 |map entries=>simp [Rows.uptoBulk]
 |held h=>simp [Rows.uptoBulk]
theorem wF{H:Type}{d:DataW H}{l:List (DataW H)}(h:d∈l):Rows.uptoBulk d≤Rows.uptoBulkAll l:=by
 induction l with
 |nil=>cases h
 |cons x r ih=>
  simp only[Rows.uptoBulkAll];rcases List.mem_cons.1 h with e|e
  ·subst e;omega
  ·have:=ih e;omega
theorem zA{H:Type}(l:List (DataW H)):l.length≤Rows.uptoBulkAll l:=by
 induction l with
 |nil=>simp [Rows.uptoBulkAll]
 |cons x r ih=>have:=zB x;simp only[Rows.uptoBulkAll,List.length_cons];omega
def Old(S S':List Blk):Prop:=∀(b:Nat) c sz,S[b]?=some (.cells c false sz)→S'[b]?=some (.cells c false sz)
theorem Old.refl(S:List Blk):Old S S:=fun _ _ _ h=>h
theorem Old.trans{a b c:List Blk}(h:Old a b)(k:Old b c):Old a c:=fun _ _ _ x=>k _ _ _ (h _ _ _ x)
theorem Old.snoc(S:List Blk)(B:Blk):Old S (S++[B]):=fun b c sz h=>by
 rw[List.getElem?_append_left];exact h;exact(List.getElem?_eq_some_iff.1 h).1
theorem Old.append(S T:List Blk):Old S (S++T):=fun b c sz h=>by
 rw[List.getElem?_append_left];exact h;exact(List.getElem?_eq_some_iff.1 h).1
theorem Old.set{S:List Blk}{b:Nat}{B:Blk}(h:∀c sz,S[b]?≠some (.cells c false sz)) (B':Blk):Old S (S.set b B'):=fun b' c sz hh=>by
 rw[List.getElem?_set];by_cases e:b=b'
 ·subst e;exact absurd hh (h c sz)
 ·rw[if_neg e];exact hh
def Sl(S:List Blk)(sz:Nat){α:Type}(R:LV→α→Prop)(v:Value)(l:List α):Prop:=
 (v= .slice none 0 0∧l=[])∨
 ∃b o,v= .slice (some ⟨b,o,none⟩) l.length (l.length+1)∧
  (l=[]∨∃c,S[b]?=some (.cells c false sz)∧o+l.length*sz≤c.length∧∀i a,l[i]?=some a→R ((c.drop (o+i*sz)).take sz) a)
theorem Sl.mono{S S':List Blk}{sz:Nat}{α:Type}{R R':LV→α→Prop}{v:Value}{l:List α}(ho:Old S S')(hR:∀cs a,R cs a→R' cs a) (h:Sl S sz R v l):Sl S' sz R' v l:=by
 rcases h with h|⟨b,o,hv,h⟩
 ·exact .inl h
 ·refine .inr ⟨b,o,hv,?_⟩;rcases h with h|⟨c,h1,h2,h3⟩
  ·exact .inl h
  ·exact .inr ⟨c,ho _ _ _ h1,h2,fun i a hi=>hR _ _ (h3 i a hi)⟩
section
variable{P:Program}
def P4(P:Program)(k:Nat)(t:TypeId){α:Type}(R:List Blk→LV→α→Prop):Prop:=
 (∀S S' cs a,Old S S'→R S cs a→R S' cs a)∧
 ∀{H:Type}(enc:TypeId×Value→H)(W:World)(fuel:Nat),fuel<k→∀(cs:LV)(d:DataW H)(ps:List MemPlace),DataW.trod enc P W 0 (fun _=>true) true fuel t cs=some (d,ps)→
  Rows.uptoBulk d≤1048576→∀(φ:List Loc)(S:List Blk),WR (Bs.lt W.heap.size) W φ S W→
  ∃(φ':List Loc)(S':List Blk)(ac:LV)(a:α),Ext φ φ'∧Old S S'∧WR (Bs.lt W.heap.size) W φ' S' W∧VRs φ' ac cs∧(∀x∈ac,x.oneCell'=true)∧R S' ac a
theorem P4.map{k:Nat}{t:TypeId}{α β:Type}{R:List Blk→LV→α→Prop}{R':List Blk→LV→β→Prop}(h:P4 P k t R)(f:α→β)
  (hf:∀S cs a,R S cs a→R' S cs (f a)) (hm:∀S S' cs a,Old S S'→R' S cs a→R' S' cs a):P4 P k t R':=
 ⟨hm,fun enc W fuel hk cs d ps ht hw φ S hW=>by
  obtain⟨φ',S',ac,a,h1,h2,h3,h4,h5,h6⟩:=h.2 enc W fuel hk cs d ps ht hw φ S hW;exact⟨φ',S',ac,f a,h1,h2,h3,h4,h5,hf _ _ _ h6⟩⟩
theorem sC{j:Nat}{t:TypeId}{k:IntKind}(ht:P.underlying t=some (.int k)):P4 P j t (fun _ cs(n:Int)=>cs=[.int k n]∧(Lit.int k n).wf=true):=
 ⟨fun _ _ _ _ _ h=>h,fun enc W fuel _ cs d ps h hw φ S hW=>by
  obtain⟨n,rfl,_,hn⟩:=DataW.trod_int ht h;exact⟨φ,S,[.int k n],n,Ext.refl φ,Old.refl S,hW,.cons (.int k n) (.nil φ),fun x hx=>by simp at hx;subst hx;rfl,rfl,hn⟩⟩
theorem mm{j:Nat}{t:TypeId}(ht:P.underlying t=some .string):P4 P j t (fun _ cs(s:ByteArray)=>cs=[.string s]∧s.size≤1048576):=
 ⟨fun _ _ _ _ _ h=>h,fun enc W fuel _ cs d ps h hw φ S hW=>by
  obtain⟨s,rfl,hx,hs⟩:=DataW.trod_string ht h;cases hx;have:s.size≤1048576:=by simp only[Rows.uptoBulk,Array.length_toList]at hw;exact Nat.le_of_succ_le hw
  exact⟨φ,S,[.string s],s,Ext.refl φ,Old.refl S,hW,.cons (.string s) (.nil φ),fun x hx=>by simp at hx;subst hx;rfl,rfl,this⟩⟩
def fV(P:Program)(k:Nat)(fs:List Field)(off:Nat){α:Type}(R:List Blk→LV→α→Prop):Prop:=
 (∀S S' cs a,Old S S'→R S cs a→R S' cs a)∧
 ∀{H:Type}(enc:TypeId×Value→H)(W:World)(fuel:Nat),fuel<k→∀(cs:LV)(xs:List (DataW H×List MemPlace)),
  xs.length=fs.length→(∀(i:Nat) f,fs[i]?=some f→DataW.trod enc P W 0 (fun _=>true) true fuel f.type ((cs.drop f.offset).take (P.cellsOf f.type))=xs[i]?)→
  Rows.uptoBulkAll (xs.map (·.1))≤1048576→∀(φ:List Loc)(S:List Blk),WR (Bs.lt W.heap.size) W φ S W→
  ∃(tot:Nat)(φ':List Loc)(S':List Blk)(ac:LV)(a:α),(cs.length=off+ac.length→True)∧Ext φ φ'∧Old S S'∧WR (Bs.lt W.heap.size) W φ' S' W∧VRs φ' ac ((cs.drop off).take tot)∧
   (fs.foldl (fun n f=>n+P.cellsOf f.type) 0=tot)∧(∀x∈ac,x.oneCell'=true)∧R S' ac a
theorem dL{j:Nat}(off:Nat):fV P j [] off (fun _ cs(_:Unit)=>cs=[]):=
 ⟨fun _ _ _ _ _ h=>h,fun enc W fuel _ cs xs hl h hw φ S hW=>⟨0,φ,S,[],(),fun _=>trivial,Ext.refl φ,Old.refl S,hW,by simpa using VRs.nil φ,rfl,by simp,rfl⟩⟩
theorem ef(g:Field→Nat):∀(l:List Field)(k:Nat),l.foldl (fun n f=>n+g f) k=k+l.foldl (fun n f=>n+g f) 0
 |[],k=>by simp
 |f::l,k=>by simp only[List.foldl_cons];rw[ef g l (k+g f),ef g l (0+g f)];omega
theorem I3{j:Nat}{f:Field}{fs:List Field}{off k:Nat}{α β:Type}{R:List Blk→LV→α→Prop}{Q:List Blk→LV→β→Prop}(ho:f.offset=off)(hk:P.cellsOf f.type=k)
  (h:P4 P j f.type R) (g:fV P j fs (off+k) Q):
  fV P j (f::fs) off (fun S cs(x:α×β)=>∃c1 c2,cs=c1++c2∧R S c1 x.1∧Q S c2 x.2):=
 ⟨fun S S' cs a ho⟨c1,c2,e,h1,h2⟩=>⟨c1,c2,e,h.1 _ _ _ _ ho h1,g.1 _ _ _ _ ho h2⟩,fun enc W fuel hj cs xs hl ht hw φ S hW=>by
  cases xs with
  |nil=>simp at hl
  |cons x xs=>
   have h0:=ht 0 f (by simp);rw[List.getElem?_cons_zero,ho,hk]at h0;simp only[List.map_cons,Rows.uptoBulkAll]at hw;obtain⟨φ1,S1,a1,v1,e1,o1,w1,r1,n1,q1⟩:=h.2 enc W fuel hj _ x.1 x.2 h0 oM φ S hW;obtain⟨tot,φ2,S2,a2,v2,_,e2,o2,w2,r2,t2,n2,q2⟩:=g.2 enc W fuel hj cs xs (by simpa using hl) (fun i f' hf'=>by simpa using ht (i+1) f' (by simpa using hf')) oM φ1 S1 w1;refine⟨k+tot,φ2,S2,a1++a2,(v1,v2),fun _=>trivial,e1.trans e2,o1.trans o2,w2,?_,?_,?_,a1,a2,rfl,h.1 _ _ _ _ o2 q1,q2⟩
   ·have hs:(cs.drop off).take (k+tot)=(cs.drop off).take k++(cs.drop (off+k)).take tot:=by
     rw[List.take_add,List.drop_drop]
    rw[hs];exact(r1.mono e2).append r2
   ·simp only[List.foldl_cons];rw[ef (fun f=>P.cellsOf f.type),t2,hk];omega
   ·intro y hy;rcases List.mem_append.1 hy with hy|hy
    ·exact n1 y hy
    ·exact n2 y hy⟩
theorem cg{j:Nat}{t:TypeId}{fs:Array Field}{α:Type}{R:List Blk→LV→α→Prop}(ht:P.underlying t=some (.struct fs))(hc:P.cellsOf t=fs.toList.foldl (fun n f=>n+P.cellsOf f.type) 0)
  (h:fV P j fs.toList 0 R):P4 P (j+1) t R:=
 ⟨h.1,fun enc W fuel hj cs d ps hd hw φ S hW=>by
  obtain⟨xs,n,hfu,hx,hl,hn,hf⟩:=DataW.trod_struct ht hd;cases hx;obtain⟨tot,φ',S',ac,a,_,e,o,w,r,tt,nn,q⟩:=h.2 enc W n oM cs xs (by simpa using hn) (fun i f hf'=>hf i f (by simpa using hf')) (by simp only[Rows.uptoBulk]at hw;omega) φ S hW;refine⟨φ',S',ac,a,e,o,w,?_,nn,q⟩;rw[List.drop_zero,List.take_of_length_le oM]at r;exact r⟩
theorem iX{j:Nat}{e:TypeId}{α:Type}{R:List Blk→LV→α→Prop}(h:P4 P j e R){H:Type}(enc:TypeId×Value→H)(W:World)(fuel:Nat)(hj:fuel<j):
  ∀(css:List (LV))(ds:List (DataW H×List MemPlace)),css.length=ds.length→(∀(i:Nat) cs x,css[i]?=some cs→ds[i]?=some x→DataW.trod enc P W 0 (fun _=>true) true fuel e cs=some x)→
   (∀x∈ds,Rows.uptoBulk x.1≤1048576)→∀(φ:List Loc)(S:List Blk),WR (Bs.lt W.heap.size) W φ S W→
   ∃(φ':List Loc)(S':List Blk)(acs:List (LV))(l:List α),Ext φ φ'∧Old S S'∧WR (Bs.lt W.heap.size) W φ' S' W∧acs.length=css.length∧l.length=css.length∧
    (∀(i:Nat) ac cs,acs[i]?=some ac→css[i]?=some cs→VRs φ' ac cs)∧(∀ac∈acs,∀x∈ac,x.oneCell'=true)∧(∀(i:Nat) ac a,acs[i]?=some ac→l[i]?=some a→R S' ac a)
 |[],[],_,_,_,φ,S,hW=>⟨φ,S,[],[],Ext.refl φ,Old.refl S,hW,rfl,rfl,by simp,by simp,by simp⟩
 |[],_::_,hl,_,_,_,_,_=>by simp at hl
 |_::_,[],hl,_,_,_,_,_=>by simp at hl
 |cs::css,x::ds,hl,ht,hw,φ,S,hW=>by
  obtain⟨φ1,S1,a1,v1,e1,o1,w1,r1,n1,q1⟩:=h.2 enc W fuel hj cs x.1 x.2 (ht 0 cs x (by simp) (by simp)) (hw x (by simp)) φ S hW;obtain⟨φ2,S2,acs,l,e2,o2,w2,hla,hll,r2,n2,q2⟩:=iX h enc W fuel hj css ds (by simpa using hl) (fun i c y hc hy=>ht (i+1) c y (by simpa using hc) (by simpa using hy)) (fun y hy=>hw y (by simp [hy])) φ1 S1 w1;refine⟨φ2,S2,a1::acs,v1::l,e1.trans e2,o1.trans o2,w2,by simp [hla],by simp [hll],?_,?_,?_⟩
  ·intro i ac c ha hc;cases i with
   |zero=>simp at ha hc;subst ha hc;exact r1.mono e2
   |succ i=>exact r2 i ac c (by simpa using ha) (by simpa using hc)
  ·intro ac ha y hy;rcases List.mem_cons.1 ha with rfl|ha
   ·exact n1 y hy
   ·exact n2 ac ha y hy
  ·intro i ac a ha hc;cases i with
   |zero=>simp at ha hc;subst ha hc;exact h.1 _ _ _ _ o2 q1
   |succ i=>exact q2 i ac a (by simpa using ha) (by simpa using hc)
theorem qG{α:Type}{sz:Nat}:∀(l:List (List α)),(∀x∈l,x.length=sz)→l.flatten.length=l.length*sz
 |[],_=>by simp
 |x::l,h=>by
  rw[List.flatten_cons,List.length_append,qG l (fun y hy=>h y (by simp [hy])),h x (by simp),List.length_cons,Nat.add_mul];omega
theorem kC{α:Type}{sz:Nat}:∀(l:List (List α)),(∀x∈l,x.length=sz)→∀(i:Nat) x,l[i]?=some x→(l.flatten.drop (i*sz)).take sz=x
 |[],_,i,x,hx=>by simp at hx
 |y::l,h,0,x,hx=>by
  simp at hx;subst hx;have:=h y (by simp);simp only[Nat.zero_mul,List.drop_zero,List.flatten_cons];rw[←this,List.take_append_of_le_length lR,List.take_length]
 |y::l,h,i+1,x,hx=>by
  have hy:=h y (by simp);have e:(i+1)*sz=y.length+i*sz:=by rw[hy,Nat.add_mul];omega
  rw[List.flatten_cons,e,←List.drop_drop,List.drop_left];exact kC l (fun z hz=>h z (by simp [hz])) i x (by simpa using hx)
theorem ri{α β:Type}{f:α→Option β}:∀{l:List α}{r:List β},l.mapM f=some r→r.length=l.length∧∀(i:Nat) x y,l[i]?=some x→r[i]?=some y→f x=some y
 |[],r,h=>by simp at h;subst h;simp
 |a::l,r,h=>by
  rw[List.mapM_cons]at h;cases hf:f a with
  |none=>simp [hf]at h
  |some b=>
   cases hm:l.mapM f with
   |none=>simp [hf,hm]at h
   |some r'=>
    simp [hf,hm]at h;subst h;obtain⟨h1,h2⟩:=ri hm;refine⟨by simp [h1],fun i x y hx hy=>?_⟩;cases i with
    |zero=>simp at hx hy;subst hx;subst hy;exact hf
    |succ i=>exact h2 i x y (by simpa using hx) (by simpa using hy)
theorem dU{w:World}{a:Addr}{n:Nat}{cs:LV}(h:w.cells? 0 a n=some cs):cs.length=n∧∀(j:Nat) x,cs[j]?=some x→w.cell? (a.add j)=some x:=by
 unfold World.cells? at h;rw[if_pos (Nat.zero_le _)]at h;obtain⟨h1,h2⟩:=ri h;refine⟨by simpa using h1,fun j x hx=>?_⟩;have hj:j<cs.length:=(List.getElem?_eq_some_iff.1 hx).1;exact h2 j j x (List.getElem?_range (by simpa [h1] using hj)) hx
theorem sN{w:World}{a:Addr}{x:Value}(h:w.cell? a=some x):a.spot=none∧a.block<w.heap.size:=by
 unfold World.cell? at h;split at h
 ·rename_i c _ _ hc;refine⟨?_,(Array.getElem?_eq_some_iff.1 hc).1⟩;cases hs:a.spot with
  |none=>rfl
  |some n=>simp [hs]at h
 ·cases h
theorem jb{w:World}{a:Addr}{n:Nat}{cs:LV}(hn:0<n)(h:w.cells? 0 a n=some cs):a.spot=none∧a.block<w.heap.size:=by
 obtain⟨hl,hc⟩:=dU h;have:=hc 0 (cs[0]'oM) (by first|(simp;done)|(simp;omega));exact sN (by simpa [Addr.add] using this)
theorem pO{a:Addr}(h:a.spot=none)(n:Nat):a.add n=⟨a.block,a.off+n,none⟩:=by
 obtain⟨b,o,s⟩:=a;simp only at h;subst h;unfold Addr.add;split
 ·rename_i hn;subst hn;rfl
 ·rfl
theorem fZ{j:Nat}{t e:TypeId}{sz:Nat}{α:Type}{R:List Blk→LV→α→Prop}(ht:P.underlying t=some (.slice e))(hs:P.cellsOf e=sz)(hp:0<sz)(h:P4 P j e R):
  P4 P (j+1) t (fun S cs(l:List α)=>∃v,cs=[v]∧Sl S sz (R S) v l∧l.length≤1048576):=
 ⟨fun S S' cs l ho⟨v,e1,e2,e3⟩=>⟨v,e1,e2.mono ho (fun cs a=>h.1 _ _ _ _ ho),e3⟩,fun{H} enc W fuel hj cs d ps hd hw φ S hW=>by
  rcases DataW.trod_slice ht hd with⟨rfl,hx⟩|⟨a,len,cap,elems,rest,n,hfu,rfl,hx,_,hlc,_,hel,hread,hsp,_⟩
  ·exact⟨φ,S,[.slice none 0 0],[],Ext.refl φ,Old.refl S,hW,.cons .nilslice (.nil φ),fun x hx=>by simp at hx;subst hx;rfl,_,rfl,.inl ⟨rfl,rfl⟩,by simp⟩
  ·cases hx;rw[hs]at hread hsp;simp only[Rows.uptoBulk]at hw;have hbytes:len≤1048576:=by
    have:=zA (elems.map (·.1));rw[List.length_map]at this;omega
   by_cases h0:len=0
   ·
    subst h0;refine⟨φ++[⟨a.block,a.off,cap*sz,sz⟩],S++[.dead],[.slice (some ⟨S.length,0,none⟩) 0 1],[],Ext.snoc _ _,Old.snoc _ _,?_,?_,fun x hx=>by simp at hx;subst hx;rfl,_,rfl,.inr ⟨_,_,rfl,.inl rfl⟩,by simp⟩
    ·exact hW.push ⟨lR,fun _ _ _=>rfl⟩ hW.below (fun hm=>by cases hm) trivial
    ·refine .cons ?_ (.nil _);by_cases hc0:cap=0
     ·subst hc0;exact .slice0
     ·obtain⟨hr1,hr2⟩:=hsp rfl;have h1:=hr2 0 oM;have hr0:rest[0]?=some (rest[0]'oM):=by first|(simp;done)|(simp;omega)
      rw[hr0]at h1;obtain⟨cs0,hc1,hc2⟩:=Option.bind_eq_some_iff.1 h1;have hsp0:=(jb hp hc1).1;simp only[Nat.zero_add,Nat.zero_mul]at hsp0;have hsp1:a.spot=none:=by simpa [Addr.add] using hsp0
      have hl:(φ++[(⟨a.block,a.off,cap*sz,sz⟩:Loc)])[S.length]?=some ⟨a.block,a.off,cap*sz,sz⟩:=by rw[←hW.len];simp
      have:=VR.slice (φ:=φ++[⟨a.block,a.off,cap*sz,sz⟩]) (b:=S.length) (o:=0) (n:=0) (c:=cap) hl (Nat.zero_le _) (by simp);obtain⟨ab,ao,asp⟩:=a;simp only at hsp1;subst hsp1
      simpa using this
   ·have hread':∀i,i<len→∃cs x,W.cells? 0 (a.add (i*sz)) sz=some cs∧elems[i]?=some x∧DataW.trod enc P W 0 (fun _=>true) true n e cs=some x:=by
     intro i hi;have h1:=hread i hi;have h2:elems[i]?=some (elems[i]'oM):=by first|(simp;done)|(simp;omega)
     rw[h2]at h1;obtain⟨cs0,hc1,hc2⟩:=Option.bind_eq_some_iff.1 h1;exact⟨cs0,_,hc1,h2,hc2⟩
    have hspot:a.spot=none∧a.block<W.heap.size:=by
     obtain⟨cs0,x0,hc1,_⟩:=hread' 0 oM;have:=jb hp hc1
     simpa [Addr.add] using this
    let css:List (LV):=(List.range len).map fun i=>(W.cells? 0 (a.add (i*sz)) sz).getD []
    have hcl:css.length=len:=by simp [css]
    have hcss:∀(i:Nat) c,css[i]?=some c→i<len∧W.cells? 0 (a.add (i*sz)) sz=some c:=by
     intro i c hc;have hi:i<len:=by rw[←hcl];exact(List.getElem?_eq_some_iff.1 hc).1
     obtain⟨cs0,x0,hc1,_⟩:=hread' i hi;refine⟨hi,?_⟩;simp only[css,List.getElem?_map,List.getElem?_range hi,Option.map_some,hc1,Option.getD_some,Option.some.injEq]at hc;rw[hc1,hc]
    obtain⟨φ1,S1,acs,l,e1,o1,w1,hla,hll,hvr,hone,hR⟩:=iX h enc W n oM css elems (by rw[hcl,hel])
     (fun i c x hc hx=>by
      obtain⟨hi,h1⟩:=hcss i c hc;obtain⟨cs0,x0,k1,k2,k3⟩:=hread' i hi;rw[h1]at k1;cases k1;rw[hx]at k2;cases k2;exact k3)
     (fun x hx=>by have:=wF (List.mem_map_of_mem (f:=(·.1)) hx);omega) φ S hW
    have hal:∀x∈acs,x.length=sz:=by
     intro x hx;obtain⟨i,hi,rfl⟩:=List.mem_iff_getElem.1 hx;have hi':i<css.length:=oM;have:=(hvr i _ _ (List.getElem?_eq_getElem hi) (List.getElem?_eq_getElem hi')).1;rw[this];exact(dU (hcss i _ (List.getElem?_eq_getElem hi')).2).1
    have hflat:acs.flatten.length=len*sz:=by rw[qG acs hal,hla,hcl]
    have hl:(φ1++[(⟨a.block,a.off,cap*sz,sz⟩:Loc)])[S1.length]?=some ⟨a.block,a.off,cap*sz,sz⟩:=by rw[←w1.len];simp
    refine⟨φ1++[⟨a.block,a.off,cap*sz,sz⟩],S1++[.cells acs.flatten false sz],[.slice (some ⟨S1.length,0,none⟩) l.length (l.length+1)],l,e1.trans (Ext.snoc _ _),o1.trans (Old.snoc _ _),?_,?_,
     fun x hx=>by simp at hx;subst hx;rfl,_,rfl,.inr ⟨_,_,rfl,.inr ⟨acs.flatten,by simp,?_,?_⟩⟩,?_⟩
    ·refine w1.push ⟨lR,fun _ _ _=>rfl⟩ w1.below (fun hm=>by cases hm) ⟨rfl,?_,?_,fun _=>hspot.2,fun hh=>by cases hh⟩
     ·intro x hx;obtain⟨ac,h1,h2⟩:=List.mem_flatten.1 hx;exact hone ac h1 x h2
     ·intro j x hx;have hj:j<len*sz:=by rw[←hflat];exact(List.getElem?_eq_some_iff.1 hx).1
      have hq:j / sz<len:=Nat.div_lt_of_lt_mul (by rw[Nat.mul_comm];exact hj);have hm:j % sz<sz:=Nat.mod_lt _ hp;have hi:j / sz<acs.length:=oM;have hi':j / sz<css.length:=oM;have hfg:=kC acs hal (j / sz) _ (List.getElem?_eq_getElem hi);have hx2:(acs[j / sz])[j % sz]?=some x:=by
       rw[←hfg,List.getElem?_take,if_pos hm,List.getElem?_drop,Nat.mul_comm,Nat.div_add_mod];exact hx
      obtain⟨y,hy,hxy⟩:=(hvr _ _ _ (List.getElem?_eq_getElem hi) (List.getElem?_eq_getElem hi')).get hx2;have:=(dU (hcss _ _ (List.getElem?_eq_getElem hi')).2).2 _ y hy;rw[pO hspot.1,pO rfl]at this;refine⟨y,?_,hxy.mono (Ext.snoc _ _)⟩;have e2:a.off+j / sz*sz+j % sz=a.off+j:=by rw[Nat.add_assoc,Nat.mul_comm,Nat.div_add_mod]
      simpa [e2] using this
    ·refine .cons ?_ (.nil _);have:=VR.slice (φ:=φ1++[⟨a.block,a.off,cap*sz,sz⟩]) (b:=S1.length) (o:=0) (n:=len) (c:=cap) hl hlc (by simp);obtain⟨ab,ao,asp⟩:=a;have hsp2:=hspot.1;simp only at hsp2;subst hsp2;rw[hll,hcl]
     simpa using this
    ·rw[hll,hcl,hflat];omega
    ·intro i x hx;have hi:i<acs.length:=by have:=(List.getElem?_eq_some_iff.1 hx).1;omega
     rw[Nat.zero_add,kC acs hal i _ (List.getElem?_eq_getElem hi)];exact h.1 _ _ _ _ (Old.snoc _ _) (hR i _ x (List.getElem?_eq_getElem hi) hx)
    ·rw[hll,hcl];exact hbytes⟩
theorem xH(hm:P.follows .mixedOrders=true){X:Lib}{W:World}(hX:mO P X){f:FuncId}{args args':LV}{φ:List Loc}{S:List Blk}(hW:WR (Bs.lt W.heap.size) W φ S W)(ha:VRs φ args args')
  (h:CL P X f args ⟨S,S.length⟩=some (.bool true,none)):Calls P f args'.toArray W fun e w'=>e= .returned (.bool true)∧Below W.heap.size W w':=by
 obtain⟨_,_,_,hc⟩:=sj hm hX (Bs.lt W.heap.size) W f args ⟨S,S.length⟩ (.bool true) none h;exact(hc φ W args' ha hW).mono fun e w'⟨h1,h2⟩=>⟨h1,h2.1.below.below⟩
theorem Ci(W:World):WR (Bs.lt W.heap.size) W [] [] W:=⟨rfl,Bel.refl _ _,fun _ h=>h,by simp,by simp⟩
end
end Go.Proofs.YtofbhlhamfkljaaGreatDoor.Ve
namespace Go.Proofs.YtofbhlhamfkljaaGreatDoor.Ve.Ab
open Go Go.RowKit
set_option linter.unusedVariables false
set_option linter.unusedSimpArgs false
set_option maxHeartbeats 0
abbrev T(n:Nat):Operand:= .tmp n
abbrev K(n:Int):Operand:= .const (.int .i64 n)
abbrev B0:Operand:= .const (.bool false)
abbrev B1:Operand:= .const (.bool true)
abbrev S0:Operand:= .const (.slice none 0 0)
abbrev c1(f a t:Nat):Op:= .call ⟨.value (.func f),#[T a],#[t]⟩
abbrev c2(f a b t u:Nat):Op:= .call ⟨.value (.func f),#[T a,T b],#[t,u]⟩
abbrev cf(f:Nat)(a:Array Operand)(t:Array TypeId):Op:= .call ⟨.value (.func f),a,t⟩
abbrev cv(f:Operand)(a:Array Operand)(t:Array TypeId):Op:= .call ⟨.value f,a,t⟩
abbrev bi(f:Builtin)(a:Array Operand)(t:Array TypeId):Op:= .call ⟨.builtin f,a,t⟩
abbrev ln(a t:Nat):Op:= .call ⟨.builtin .len,#[T a],#[t]⟩
abbrev ap(a b t u:Nat):Op:= .call ⟨.builtin .append,#[T a,T b],#[t,u]⟩
abbrev mv(n:Nat):Op:= .move (T n)
abbrev ak(n:Int):Op:= .assign (K n)
abbrev ld'(t a:Nat):Op:= .load t (T a)
abbrev fa(t a i:Nat):Op:= .fieldAddr t (T a) i
abbrev ia(t a i:Nat):Op:= .indexAddr t (T a) (T i)
abbrev st'(t a x:Nat):Op:= .store t (T a) (T x)
abbrev bx(t a:Nat):Op:= .box t (T a)
abbrev ex(a i:Nat):Op:= .extract (T a) i
abbrev nc(a:Nat):Op:= .nilCheck (T a)
abbrev bo(o:BinOp)(t a b u:Nat):Op:= .binOp o t (T a) (T b) u
abbrev bk(o:BinOp)(t a:Nat)(n:Int)(u:Nat):Op:= .binOp o t (T a) (K n) u
abbrev pa(a b:Nat):Op:= .pick (T a) (T b) B0
abbrev po(a b:Nat):Op:= .pick (T a) B1 (T b)
abbrev nt'(t a:Nat):Op:= .unOp .not t (T a)
abbrev N(d:Nat)(o:Op):LOp:=⟨some d,o,none⟩
abbrev V(o:Op):LOp:=⟨none,o,none⟩
abbrev Y(g d:Nat)(o:Op):LOp:=⟨some d,o,some (g,true)⟩
abbrev Z(g d:Nat)(o:Op):LOp:=⟨some d,o,some (g,false)⟩
abbrev M(d a:Nat):LOp:=⟨some d,.move (T a),none⟩
abbrev L(d t a:Nat):LOp:=⟨some d,.load t (T a),none⟩
abbrev A(d a:Nat):LOp:=⟨some d,.assign (T a),none⟩
abbrev F(d t a i:Nat):LOp:=⟨some d,.fieldAddr t (T a) i,none⟩
abbrev cO:=E4.ops
abbrev cS:=E4.seq
abbrev cB:=E4.block
abbrev cC:=E4.cond
abbrev cW(n:Nat)(b:E4):E4:= .block n (.loop b)
abbrev m0(o:LOp):ML:=⟨o,false,false,0,0⟩
abbrev m1(o:LOp):ML:=⟨o,false,true,0,0⟩
abbrev m2(o:LOp)(l h:Nat):ML:=⟨o,false,false,l,h⟩
abbrev m3(o:LOp)(l h:Nat):ML:=⟨o,true,true,l,h⟩
abbrev m4(o:LOp)(l h:Nat):ML:=⟨o,true,false,l,h⟩
end Go.Proofs.YtofbhlhamfkljaaGreatDoor.Ve.Ab
