/- ReachRows returns true for every path, and ReachAll for every path and row of events, whose readings are of bulk at most 1048576, and what comes in reads behind the call as it read before. Conditions: what comes in is of bulk at most 1048576. -/
import Derived.Test.YtofbhlhamfkljaaGreatDoorPe
import Derived.Laws.RangeString
set_option linter.unusedVariables false
set_option linter.unusedSimpArgs false
set_option linter.defProp false
set_option maxHeartbeats 0
set_option maxRecDepth 1000000
namespace Go.Proofs.YtofbhlhamfkljaaGreatDoor.Ve
open Go Go.RowKit
open Go.Proofs.Tryz (prog)
theorem dX{α:Type}(p:Q->Bool)(g:Q->α)(D:α->α->Bool)(E:∀x y,D x y=true↔x=y):∀(l:List Q)(u:List α),(∀z∈u,z∈lM p g D u l)/\(∀y∈l,p y=true->g y∈lM p g D u l)/\(u.Nodup->(lM p g D u l).Nodup)
 |[],u=>⟨fun z h=>h,fun y h _=>absurd h List.not_mem_nil,fun h=>h⟩
 |x::l,u=>by
  rw[gR];obtain⟨X,h2,h3⟩:=dX p g D E l (if p x&& !u.any (fun y=>D y (g x)) then u++[g x] else u);have U:∀z∈u,z∈(if p x&& !u.any (fun y=>D y (g x)) then u++[g x] else u):=fun z J=>by
   split
   .exact List.mem_append.2 (.inl J)
   .exact J
  refine⟨fun z J=>X z (U z J),fun y W hp=>?_,fun hn=>h3 ?_⟩
  .rcases List.mem_cons.1 W with rfl|W
   .refine X _ ?_;rw[hp,Bool.true_and];cases O:u.any (fun z=>D z (g y))with
    |false=>simp
    |true=>
     obtain⟨z,J,e⟩:=List.any_eq_true.1 O;rw[<-(E _ _).1 e];simpa using J
   .exact h2 y W hp
  .split
   .rename_i O;simp only[Bool.and_eq_true,Bool.not_eq_true']at O;refine List.nodup_append.2 ⟨hn,by simp,fun a ha b hb=>?_⟩;rw[List.mem_singleton.1 hb];intro S;have:u.any (fun y=>D y (g x))=true:=List.any_eq_true.2 ⟨a,ha,(E _ _).2 S⟩;rw[O.2]at this;cases this
   .exact hn
structure pQ(e x:EvD)(y:Q):Prop where
 nm:y.op=4->e.kind=1->L3 (e.space,e.loc) (qNm y)=L3 (x.space,x.loc) (qNm y)
 has:y.op=5\/y.op=6->(A7 e.kind (qNm y) e.attrs).2=(A7 x.kind (qNm y) x.attrs).2
 vl:y.op=6->(A7 e.kind (qNm y) e.attrs).2=true->decide ((A7 e.kind (qNm y) e.attrs).1=y.vl)=decide ((A7 x.kind (qNm y) x.attrs).1=y.vl)
 tx:y.op=7->e.kind≠1->decide (e.text=y.vl)=decide (x.text=y.vl)
mutual
theorem iA(s:StD)(e x:EvD)(bs:List Bool)(hk:x.kind=e.kind):∀q,(∀y∈fsQ true q,pQ e x y)->D4 s e bs q=D4 s x bs q
 | .mk o sp lc vl a b,h=>by
  rw[fsQ]at h;have h0:=h (.mk o sp lc vl a b) (by simp);have ha:∀y∈fsL true a,pQ e x y:=fun y hy=>h y (by simp [hy]);obtain⟨l1,l2,l3,l4⟩:=h0;simp only[Q.op,Q.vl,qNm,Q.sp,Q.lc]at l1 l2 l3 l4;have e1:=pV s e x bs hk a ha;have e2:=pW s e x bs hk a ha;rw[D4,D4,e1,e2,hk];by_cases h1:o=1
  .rw[if_pos h1,if_pos h1]
  rw[if_neg h1,if_neg h1];by_cases h2:o=2
  .rw[if_pos h2,if_pos h2]
  rw[if_neg h2,if_neg h2];by_cases h3:o=3
  .rw[if_pos h3,if_pos h3]
  rw[if_neg h3,if_neg h3];by_cases h4:o=4
  .rw[if_pos h4,if_pos h4];by_cases hk1:e.kind=1
   .rw[l1 h4 hk1]
   .rw[decide_eq_false hk1,Bool.false_and,Bool.false_and]
  rw[if_neg h4,if_neg h4];rw[<-hk];by_cases h5:o=5
  .rw[if_pos h5,if_pos h5,hk];rw[l2 (.inl h5),hk]
  rw[if_neg h5,if_neg h5];by_cases h6:o=6
  .rw[if_pos h6,if_pos h6,hk];have k2:=l2 (.inr h6);have k3:=l3 h6;rw[hk]at k2 k3;cases hc:(A7 e.kind (sp,lc) e.attrs).2 with
   |false=>rw[<-k2,hc,Bool.false_and,Bool.false_and]
   |true=>rw[<-k2,hc,Bool.true_and,Bool.true_and];exact k3 hc
  rw[if_neg h6,if_neg h6];by_cases h7:o=7
  .rw[if_pos h7,if_pos h7,hk];by_cases hk1:e.kind=1
   .rw[decide_eq_true hk1];rfl
   .congr 1;exact l4 h7 hk1
  rw[if_neg h7,if_neg h7]
theorem pW(s:StD)(e x:EvD)(bs:List Bool)(hk:x.kind=e.kind):∀l,(∀y∈fsL true l,pQ e x y)->anyH s e bs l=anyH s x bs l
 |[],_=>by rw[anyH,anyH]
 |q::l,h=>by
  rw[fsL]at h;rw[anyH,anyH,iA s e x bs hk q (fun y hy=>h y (by simp [hy])),pW s e x bs hk l (fun y hy=>h y (by simp [hy]))]
theorem pV(s:StD)(e x:EvD)(bs:List Bool)(hk:x.kind=e.kind):∀l,(∀y∈fsL true l,pQ e x y)->anyF s e bs l=anyF s x bs l
 |[],_=>by rw[anyF,anyF]
 |q::l,h=>by
  rw[fsL]at h;rw[anyF,anyF,iA s e x bs hk q (fun y hy=>h y (by simp [hy])),pV s e x bs hk l (fun y hy=>h y (by simp [hy]))]
end
theorem yG{s:StD}{e x:EvD}(u D:SoD)(J:x.kind=e.kind)(h:∀p∈s.progs,∀t∈p.ts,∀y∈fsQ true t,pQ e x y):I4 s e u D=I4 s x u D:=by
 have key:∀(l:List (PrD×Int))(bs:List Bool),(∀z∈l,z.1∈s.progs)->W9 s e u D l bs=W9 s x u D l bs:=by
  intro l;induction l with
  |nil=>intro bs _;rfl
  |cons z l U=>
   intro bs E;rw[W9,W9];have:aV s e u D z.1 z.2 bs=aV s x u D z.1 z.2 bs:=by
    unfold aV;rw[List.map_congr_left (fun t O=>iA s e x bs J t (h z.1 (E z sM) t O))]
   rw[this];exact U _ (fun y S=>E y (by simp [S]))
 unfold I4;rw[key _ _ (fun z E=>(List.of_mem_zip (a:=z.1) (b:=z.2) E).1),J]
mutual
theorem jb(L:List Q):∀(q:Q)(p:PrD),(∀y∈fsQ false q,y∈L)->(∀t∈p.ts,t∈L)->∀t∈(C6 q p).1.ts,t∈L
 | .mk o s c v a b,p,hq,hp=>by
  rw[fsQ]at hq;have ha:∀y∈fsL false a,y∈L:=fun y hy=>hq y (by simp [hy]);have hb:∀y∈b,y∈L:=fun y hy=>hq y (by
   have:y∈fsL true b:=by
    rw[eR];exact List.mem_flatMap.2 ⟨y,hy,by rw[kg];simp⟩
   simp [this])
  have fold:∀(l:List Int)(t:Int)(m:PrD),(l.foldl (fun m x=>m.edge x t 0 0) m).ts=m.ts:=by
   intro l t;induction l with
   |nil=>intro m;rfl
   |cons x l ih=>intro m;rw[List.foldl_cons,ih];rfl
  rw[C6];split
  .exact IM L a p ha hp
  .split
   .intro t ht;rw[fold]at ht;exact zc L a p.st {p with st:=p.st+1} [] ha hp t ht
   .split
    .exact Ik L a {p with st:=p.st+1} ha hp
    .intro t ht;have ht':t∈(if o=7 then p.ts++b else p.ts):=ht;split at ht'
     .rcases List.mem_append.1 ht' with q|q
      .exact hp t q
      .exact hb t q
     .exact hp t ht'
theorem IM(L:List Q):∀(l:List Q)(p:PrD),(∀y∈fsL false l,y∈L)->(∀t∈p.ts,t∈L)->∀t∈(eu l p).1.ts,t∈L
 |[],p,_,hp=>by rw[eu];exact hp
 |x::l,p,h,hp=>by
  rw[fsL]at h;rw[eu];exact zQ L l (C6 x p) (fun y hy=>h y (by simp [hy])) (jb L x p (fun y hy=>h y (by simp [hy])) hp)
theorem zQ(L:List Q):∀(l:List Q)(x:PrD×Int×Int),(∀y∈fsL false l,y∈L)->(∀t∈x.1.ts,t∈L)->∀t∈(bO l x).1.ts,t∈L
 |[],x,_,hp=>by rw[bO];exact hp
 |q::l,x,h,hp=>by
  rw[fsL]at h;rw[bO];exact zQ L l _ (fun y hy=>h y (by simp [hy])) (jb L q x.1 (fun y hy=>h y (by simp [hy])) hp)
theorem zc(L:List Q):∀(l:List Q)(n:Int)(p:PrD)(es:List Int),(∀y∈fsL false l,y∈L)->(∀t∈p.ts,t∈L)->∀t∈(I9 l n p es).1.ts,t∈L
 |[],n,p,es,_,hp=>by rw[I9];exact hp
 |x::l,n,p,es,h,hp=>by
  rw[fsL]at h;rw[I9];exact zc L l n _ _ (fun y hy=>h y (by simp [hy])) (jb L x p (fun y hy=>h y (by simp [hy])) hp)
theorem Ik(L:List Q):∀(l:List Q)(p:PrD),(∀y∈fsL false l,y∈L)->(∀t∈p.ts,t∈L)->∀t∈(dY l p).1.ts,t∈L
 |[],p,_,hp=>by rw[dY];exact hp
 |x::l,p,h,hp=>by
  rw[fsL]at h;rw[dY];exact jb L x p (fun y hy=>h y (by simp [hy])) hp
end
mutual
theorem EB:∀(f:Bool)(q x:Q),x∈inQ f q->∀y∈fsQ false x,y∈fsQ f q
 |f,.mk o s c v a b,x,hx,y,hy=>by
  rw[inQ]at hx;rw[fsQ];rcases List.mem_append.1 hx with h|h
  .have:=rR f a x h y hy;simp [this]
  .cases f with
   |false=>
    have:=rR true b x (by simpa using h) y hy;simp [this]
   |true=>
    simp only[if_true]at h;split at h
    .rcases List.mem_append.1 h with h|h
     .have:=rR false b x h y hy;simp [this]
     .have:y∈fsL false b:=by
       rw[eR];exact List.mem_flatMap.2 ⟨x,h,hy⟩
      simp [this]
    .cases h
theorem rR:∀(f:Bool)(l:List Q)(x:Q),x∈inL f l->∀y∈fsQ false x,y∈fsL f l
 |f,[],x,hx,y,hy=>by rw[inL]at hx;cases hx
 |f,z::l,x,hx,y,hy=>by
  rw[inL]at hx;rw[fsL];rcases List.mem_append.1 hx with h|h
  .exact List.mem_append.2 (.inl (EB f z x h y hy))
  .exact List.mem_append.2 (.inr (rR f l x h y hy))
end
mutual
theorem Eo:∀(f:Bool)(q x:Q),x∈fsQ f q->∀y∈fsQ true x,y∈fsQ f q
 |f,.mk o s c v a b,x,hx,y,hy=>by
  rw[fsQ]at hx ⊢;rcases List.mem_append.1 hx with h|h
  .cases f with
   |false=>simp at h
   |true=>
    have e:x= .mk o s c v a b:=by simpa using h
    rw[e,fsQ]at hy;exact hy
  .rcases List.mem_append.1 h with h|h
   .have:=xl f a x h y hy;simp [this]
   .have:=xl (!f) b x h y hy;simp [this]
theorem xl:∀(f:Bool)(l:List Q)(x:Q),x∈fsL f l->∀y∈fsQ true x,y∈fsL f l
 |f,[],x,hx,y,hy=>by rw[fsL]at hx;cases hx
 |f,z::l,x,hx,y,hy=>by
  rw[fsL]at hx ⊢;rcases List.mem_append.1 hx with h|h
  .exact List.mem_append.2 (.inl (Eo f z x h y hy))
  .exact List.mem_append.2 (.inr (xl f l x h y hy))
end
theorem pK(q:Q):∀p∈(C0 q).progs,∀t∈p.ts,∀y∈fsQ true t,y∈fsQ false q:=by
 have key:∀(l:List Q)(s:StD),(∀x∈l,x∈inQ false q)->(∀p∈s.progs,∀t∈p.ts,t∈fsQ false q)->∀p∈(l.foldl E8 s).progs,∀t∈p.ts,t∈fsQ false q:=by
  intro l;induction l with
  |nil=>intro s _ h;exact h
  |cons x l J=>
   intro s D h;rw[List.foldl_cons];refine J _ (fun y z=>D y (by simp [z])) ?_;rw[E8];split
   .exact h
   .intro p u;rcases List.mem_append.1 u with u|u
    .exact h p u
    .rw[List.mem_singleton.1 u];exact jb (fsQ false q) x ⟨0,0,0,[],[]⟩ (fun y z=>EB false q x (D x sM) y z) (fun t E=>by cases E)
 intro p u t E y z;exact Eo false q t (key (inQ false q) ⟨[],[],[],B9 q⟩ (fun x D=>D) (fun p u=>by cases u) p u t E) y z
def fzV(vs:List ByteArray):ByteArray:=if T7 vs eB then dg (T8 vs) else eB
theorem Ho(u:List ByteArray):T7 u (fzV u)=false:=by
 unfold fzV;split
 .exact(me u).1
 .rename_i h;cases z:T7 u eB with
  |false=>rfl
  |true=>exact absurd z h
def pkV(v:ByteArray)(vs:List ByteArray):ByteArray:=if T7 vs v then v else fzV vs
theorem Mg(v:ByteArray)(u:List ByteArray):pkV v u∈Q4 u:=by
 have e:Q4 u=u++[fzV u]:=by rw[Q4,fzV]
 rw[e,pkV];split
 .rename_i h;exact List.mem_append.2 (.inl (aA.1 h))
 .exact List.mem_append.2 (.inr (List.mem_singleton.2 rfl))
theorem Mf{v w:ByteArray}{u:List ByteArray}(z:w∈u):decide (v=w)=decide (pkV v u=w):=by
 unfold pkV;split
 .rfl
 .rename_i h;have D:¬v=w:=fun q=>h (aA.2 (q▸z));have E:¬fzV u=w:=fun q=>by
   have:=Ho u;rw[q,aA.2 z]at this;cases this
  rw[decide_eq_false D,decide_eq_false E]
def kb(e:EvD):List (NmQ×List ByteArray)->List AtD
 |[]=>[]
 |x::r=>(if(A7 1 x.1 e.attrs).2 then [⟨x.1.1,x.1.2,pkV (A7 1 x.1 e.attrs).1 x.2⟩] else [])++kb e r
theorem mR(e:EvD):∀(r:List (NmQ×List ByteArray))(e0:EvD),{e0 with attrs:=e0.attrs++kb e r}∈S3 r e0
 |[],e0=>by rw[S3,kb,List.append_nil];exact List.mem_singleton.2 rfl
 |x::r,e0=>by
  rw[S3,kb];cases u:(A7 1 x.1 e.attrs).2 with
  |false=>
   rw[if_neg sM,List.nil_append];exact List.mem_append.2 (.inl (mR e r e0))
  |true=>
   rw[if_pos rfl];refine List.mem_append.2 (.inr (List.mem_flatMap.2 ⟨_,Mg (A7 1 x.1 e.attrs).1 x.2,?_⟩));have:=mR e r (atV x.1 e0 (pkV (A7 1 x.1 e.attrs).1 x.2));rw[atV]at this ⊢;simp only[List.append_assoc]at this;exact this
theorem fD(e:EvD)(nm:NmQ):∀r:List (NmQ×List ByteArray),nm∉r.map (·.1)->A7 1 nm (kb e r)=(eB,false)
 |[],_=>by rw[kb,A7]
 |x::r,h=>by
  simp only[List.map_cons,List.mem_cons,not_or]at h;rw[kb];split
  .rw[List.singleton_append,A7,if_neg (fun q=>h.1 (E9.1 q).symm)];exact fD e nm r h.2
  .rw[List.nil_append];exact fD e nm r h.2
theorem ir(e:EvD)(nm:NmQ)(u:List ByteArray):∀r:List (NmQ×List ByteArray),(r.map (·.1)).Nodup->(nm,u)∈r->A7 1 nm (kb e r)=if(A7 1 nm e.attrs).2 then(pkV (A7 1 nm e.attrs).1 u,true) else(eB,false)
 |[],_,h=>by cases h
 |x::r,hn,h=>by
  rw[List.map_cons,List.nodup_cons]at hn;rw[kb];rcases List.mem_cons.1 h with rfl|h
  .split
   .rename_i D;rw[List.singleton_append,A7,if_pos (E9.2 rfl)];rfl
   .rw[List.nil_append];exact fD e nm r hn.1
  .have z:¬x.1=nm:=fun q=>hn.1 (by rw[q];exact List.mem_map.2 ⟨_,h,rfl⟩);split
   .rw[List.singleton_append,A7,if_neg (fun q=>z (E9.1 q))];exact ir e nm u r hn.2 h
   .rw[List.nil_append];exact ir e nm u r hn.2 h
theorem jd{k:Int}(u:k≠1)(nm:NmQ):∀l,(A7 k nm l).2=false
 |[]=>by rw[A7]
 |a::l=>by
  rw[A7];split
  .exact decide_eq_false u
  .exact jd u nm l
theorem vP{α β:Type}(f:α->β):∀l:List α,l.zip (l.map f)=l.map fun n=>(n,f n)
 |[]=>rfl
 |x::l=>by rw[List.map_cons,List.zip_cons_cons,vP f l,List.map_cons]
theorem uf{x y:ByteArray}:cj x y=true↔x=y:=decide_eq_true_iff
theorem xH(q:Q)(a4:OkD false q)(e:EvD)(O:e.kind=1\/e.kind=2):∃x∈js (spQ q),x.kind=e.kind/\∀y∈fsQ false q,pQ e x y:=by
 rcases O with O|O
 .obtain⟨n,hn⟩:=eY (if P8 (spQ q).names (e.space,e.loc) then(e.space,e.loc) else zNm (Q6 (spQ q).names):NmQ);have hz:(spQ q).attrs.zip (spQ q).vals=(spQ q).attrs.map fun n=>(n,R9 6 n (fsQ false q)):=vP _ _;have hm:((spQ q).attrs.map fun n=>(n,R9 6 n (fsQ false q))).map (·.1)=(spQ q).attrs:=by
   rw[List.map_map];exact List.map_id _
  have a2:(spQ q).attrs.Nodup:=(dX (aQ 5 6) qNm L3 (fun _ _=>E9) (fsQ false q) []).2.2 List.nodup_nil;have a1:∀y∈fsQ false q,y.op=5\/y.op=6->(qNm y,R9 6 (qNm y) (fsQ false q))∈(spQ q).attrs.zip (spQ q).vals:=fun y E z=>by
   rw[hz];refine List.mem_map.2 ⟨qNm y,(dX (aQ 5 6) qNm L3 (fun _ _=>E9) (fsQ false q) []).2.1 y E ?_,rfl⟩;rw[aQ,Bool.and_eq_true,decide_eq_true_eq,decide_eq_true_eq];omega
  have X:∀y∈fsQ false q,y.op=5\/y.op=6->A7 1 (qNm y) (kb e ((spQ q).attrs.zip (spQ q).vals))=if(A7 1 (qNm y) e.attrs).2 then(pkV (A7 1 (qNm y) e.attrs).1 (R9 6 (qNm y) (fsQ false q)),true) else(eB,false):=fun y E z=>
   ir e (qNm y) _ _ (by rw[hz,hm];exact a2) (a1 y E z)
  refine⟨{X5 n with attrs:=(X5 n).attrs++kb e ((spQ q).attrs.zip (spQ q).vals)},List.mem_append.2 (.inl (List.mem_flatMap.2 ⟨n,?_,mR e _ _⟩)),O.symm,fun y E=>⟨fun z _=>?_,fun z=>?_,fun z J=>?_,fun _ D=>absurd O D⟩⟩
  .rw[hn];split
   .rename_i h;exact List.mem_append.2 (.inl (P9.1 h))
   .exact List.mem_append.2 (.inr (List.mem_singleton.2 rfl))
  .have u:qNm y∈(spQ q).names:=(dX (aQ 4 4) qNm L3 (fun _ _=>E9) (fsQ false q) []).2.1 y E (by rw[aQ,Bool.and_eq_true,decide_eq_true_eq,decide_eq_true_eq];omega);show L3 (e.space,e.loc) (qNm y)=L3 (n.1,n.2) (qNm y);rw[hn];split
   .rfl
   .rename_i h;have W:L3 (e.space,e.loc) (qNm y)=false:=by
     cases U:L3 (e.space,e.loc) (qNm y)with
     |false=>rfl
     |true=>exact absurd (P9.2 (E9.1 U▸u)) h
    have S:L3 (zNm (Q6 (spQ q).names)) (qNm y)=false:=by
     cases U:L3 (zNm (Q6 (spQ q).names)) (qNm y)with
     |false=>rfl
     |true=>
      have:=(sF (spQ q).names).1;rw[P9.2 (E9.1 U▸u)]at this;cases this
    rw[W];exact S.symm
  .show(A7 e.kind (qNm y) e.attrs).2=(A7 1 (qNm y) ([]++kb e ((spQ q).attrs.zip (spQ q).vals))).2;rw[List.nil_append,X y E z,O];cases U:(A7 1 (qNm y) e.attrs).2 with
   |false=>rfl
   |true=>rfl
  .show decide ((A7 e.kind (qNm y) e.attrs).1=y.vl)=decide ((A7 1 (qNm y) ([]++kb e ((spQ q).attrs.zip (spQ q).vals))).1=y.vl);rw[O]at J ⊢;rw[List.nil_append,X y E (.inr z),if_pos J];refine Mf ((dX (dt 6 (qNm y)) Q.vl cj (fun _ _=>uf) (fsQ false q) []).2.1 y E ?_);rw[dt,Bool.and_eq_true,decide_eq_true_eq];exact⟨z,E9.2 rfl⟩
 .have D:e.kind≠1:=oM;obtain⟨t,ht⟩:∃t,t=if T7 (spQ q).texts e.text then e.text else dg (T8 (spQ q).texts):=eX;refine⟨dp t,List.mem_append.2 (.inr (List.mem_map.2 ⟨t,?_,rfl⟩)),O.symm,fun y E=>⟨fun _ W=>absurd W D,fun z=>?_,fun z J=>?_,fun z _=>?_⟩⟩
  .rw[ht];split
   .rename_i h;exact List.mem_append.2 (.inl (aA.1 h))
   .exact List.mem_append.2 (.inr (List.mem_singleton.2 rfl))
  .rw[jd D];exact(jd (k:=2) oM _ _).symm
  .rw[jd D]at J;cases J
  .have a5:=Ep _ false q lR a4 y E;obtain⟨_,_,_,J,_⟩:=a5.parts;have a3:qNm y=(eB,eB):=by
    simp only[iG,if_true,Bool.and_eq_true]at J;have S:=J.1.2;have h3:xn y.op=false:=by rw[z];rfl
    rw[h3,iH]at S;simp only[Bool.and_eq_true,beq_iff_eq]at S;have h4:=S.1;have h5:(decide (y.sp=eB)&&decide (y.lc=eB))=true:=by
     cases U:(decide (y.sp=eB)&&decide (y.lc=eB))with
     |true=>rfl
     |false=>rw[U]at h4;cases h4
    simp only[Bool.and_eq_true,decide_eq_true_eq]at h5;exact Prod.ext h5.1 h5.2
   have u:y.vl∈(spQ q).texts:=(dX (dt 7 (eB,eB)) Q.vl cj (fun _ _=>uf) (fsQ false q) []).2.1 y E (by
    rw[dt,Bool.and_eq_true,decide_eq_true_eq];exact⟨z,E9.2 a3⟩)
   show decide (e.text=y.vl)=decide (t=y.vl);rw[ht];split
   .rfl
   .rename_i h;have W:¬e.text=y.vl:=fun w=>h (aA.2 (w▸u));have S:¬dg (T8 (spQ q).texts)=y.vl:=fun w=>by
     have:=(me (spQ q).texts).1;rw[w,aA.2 u]at this;cases this
    rw[decide_eq_false W,decide_eq_false S]
theorem yH{q:Q}(J:OkD false q){r:ReD}(h:kV q=some r){e:EvD}(W:e.kind=1\/e.kind=2){a b:Nat}(S:a<r.sorts.length)(U:b<r.sorts.length)(hm:R5 r.sorts e.kind a b=true):I4 r.strat e (r.sorts.getD a soZ) (r.sorts.getD b soZ)∈r.sorts:=by
 obtain⟨_,O,l,X,E⟩:=gi h;obtain⟨x,hx,D,z⟩:=xH q J e W;have u:=iC (spQ q) (jM q).2.2.1;rw[X]at u;split at u
 .cases u
 .cases u;rw[yG (x:=x) _ _ D (fun p hp t ht y hy=>z y (pK q p (O▸hp) t ht y hy))];exact sr h S U x (by rw[E];exact hx) (by rw[D];exact hm)
def smB(b:Nat):Bool:=(decide (48<=b)&&decide (b<=57))||decide (b=122)||decide (b=114)||decide (b=111)||decide (b=116)
def smT(s:ByteArray):Prop:=∀b∈s.data.toList,smB b.toNat=true
theorem Tx{b:Nat}(h:smB b=true):b=48\/b=49\/b=50\/b=51\/b=52\/b=53\/b=54\/b=55\/b=56\/b=57\/b=122\/b=114\/b=111\/b=116:=by
 simp only[smB,Bool.or_eq_true,Bool.and_eq_true,decide_eq_true_eq]at h;omega
theorem smT.at_{s:ByteArray}(h:smT s){i:Nat}(u:i<s.size):A3 s i=((s[i]'(u)).toNat:Int)/\smB (s[i]'(u)).toNat=true:=by
 have z:i<s.data.toList.length:=by simpa using u
 have e:s.data.toList[i]=s[i]'(u):=by simp;rfl
 refine⟨?_,?_⟩
 .rw[A3,List.getD_eq_getElem?_getD,List.getElem?_eq_getElem z,e];rfl
 .rw[<-e];exact h _ (List.getElem_mem _)
theorem smT.rune{s:ByteArray}(h:smT s){i:Nat}(u:i<s.size):dr s i=(((s[i]'(u)).toNat:Int),1,0):=by
 obtain⟨z,D⟩:=h.at_ u;have key:∀b:Nat,smB b=true->Go.bits .and .u8 (b:Int) (ai 0).1=(ai 0).2.1/\IntKind.wrap .i32 (Go.bits .andNot .u8 (b:Int) (ai 0).1)=b/\¬((qV (b:Int) ((0:Nat)+1-(1:Nat))).2<(ai 0).2.2\/1114111<(qV (b:Int) ((0:Nat)+1-(1:Nat))).1\/(55296<=(qV (b:Int) ((0:Nat)+1-(1:Nat))).1/\(qV (b:Int) ((0:Nat)+1-(1:Nat))).2<=57343)):=by
  intro b E;rcases Tx E with rfl|rfl|rfl|rfl|rfl|rfl|rfl|rfl|rfl|rfl|rfl|rfl|rfl|rfl<;>decide
 obtain⟨J,O,S⟩:=key _ D;rw[dr,if_pos u,W8,z,if_pos J,O,aL,sX,if_neg S,if_pos rfl];rfl
theorem smT.err{s:ByteArray}(h:smT s):∀n i,n=s.size-i->CI s i=0
 |0,i,hn=>by rw[CI,dif_neg oM]
 |n+1,i,hn=>by
  have u:i<s.size:=oM;rw[CI,dif_pos u,dif_pos (by rw[h.rune u]),h.rune u];exact smT.err h n _ (by show n=s.size-(i+1);omega)
theorem smT.dec{s:ByteArray}(h:smT s){i:Nat}(u:i<s.size):Utf8.decode s i=((s[i]'(u)).toNat,1):=by
 obtain⟨D,z⟩:=h.at_ u;have:=Tx z;rw[decode_ascii s i u oM]
theorem smT.all{s:ByteArray}(h:smT s):∀n i,n=s.size-i->Du kD s i=true
 |0,i,hn=>by rw[Du,dif_neg oM]
 |n+1,i,hn=>by
  have u:i<s.size:=oM;obtain⟨D,z⟩:=h.at_ u;rw[Du,dif_pos u,h.dec u,if_pos]
  .exact smT.all h n _ oM
  .generalize (s[i]'(u)).toNat=b at z;rcases Tx z with rfl|rfl|rfl|rfl|rfl|rfl|rfl|rfl|rfl|rfl|rfl|rfl|rfl|rfl<;>rfl
theorem smT.text{s:ByteArray}(h:smT s):aW s=true:=by rw[aW,h.err _ 0 rfl,h.all _ 0 rfl];rfl
theorem smT.part{s:ByteArray}(h:smT s):∀n i,n=s.size-i->(i=0->fH (A3 s 0)=true)->od s i=true
 |0,i,hn,h0=>by rw[od,dif_neg oM]
 |n+1,i,hn,h0=>by
  have u:i<s.size:=oM;obtain⟨E,z⟩:=h.at_ u;have c1:je ((s[i]'(u)).toNat:Int)=true:=by
   generalize (s[i]'(u)).toNat=b at z;rcases Tx z with rfl|rfl|rfl|rfl|rfl|rfl|rfl|rfl|rfl|rfl|rfl|rfl|rfl|rfl<;>rfl
  have c2:(decide (i=0)&& !fH ((s[i]'(u)).toNat:Int))=false:=by
   by_cases D:i=0
   .subst D;rw[<-E,h0 rfl];rfl
   .simp [D]
  rw[od,dif_pos u,h.dec u];simp only[c1,c2];exact smT.part h n _ oM oM
theorem TQ:∀n,smT (dg n)/\(dg n).size<=n+1:=by
 intro n;induction n using Nat.strongRecOn with
 |ind n O=>
  have z:∀m:Fin 10,(∀b∈(dg1 m.1).data.toList,smB b.toNat=true)/\(dg1 m.1).size=1:=by decide
  rw[dg];split
  .rename_i h;obtain⟨a,b⟩:=z ⟨n,h⟩;exact⟨a,by simp only at b;omega⟩
  .rename_i h;obtain⟨J,S⟩:=O (n / 10) oM;have e:dg (n % 10)=dg1 (n % 10):=by rw[dg,dif_pos oM]
   obtain⟨D,E⟩:=z ⟨n % 10,oM⟩;simp only at D E;rw[e];refine⟨fun b u=>?_,by rw[ByteArray.size_append,E];omega⟩;rw[ct,List.mem_append]at u;rcases u with u|u
   .exact J b u
   .exact D b u
theorem Tw:aW eB=true:=smT.text (s:=eB) (fun b u=>by cases u)
theorem Ub(n:Nat):dg n≠eB:=fun h=>by have:=Kl n;rw[h]at this;simp at this
theorem TZ(n:Nat):iQ eB (zN n)=true/\(zN n).size<=n+2:=by
 have E:smT (zN n):=by
  intro b u;rw[zN]at u;split at u
  .have:b=122:=by simpa [zS] using u
   rw[this];rfl
  .rw[ct,List.mem_append]at u;rcases u with u|u
   .have:b=122:=by simpa [zS] using u
    rw[this];rfl
   .exact(TQ n).1 b u
 have z:A3 (zN n) 0=122:=by
  rw[zN];split
  .rfl
  .rw[A3,ct];rfl
 have D:zN n≠eB:=fun h=>by rw[h]at z;cases z
 refine⟨?_,?_⟩
 .rw[iQ,iR,E.part _ 0 rfl (fun _=>by rw[z];rfl),E.text,Tw];have:decide (eB=yS)=false:=by decide
  simp [D,this]
 .rw[zN];have:=(TQ n).2;have J:zS.size=1:=rfl;split
  .omega
  .rw[ByteArray.size_append];omega
theorem TO:∀(d:Nat)(f:Bool)(q:Q),okQ d f q=true->∀x∈fsQ f q,iG true x=true
 |0,f,q,h,x,u=>by cases h
 |d+1,f,q,h,x,u=>by
  rw[okQ]at h;simp only[Bool.and_eq_true,List.all_eq_true]at h;obtain⟨⟨⟨⟨O,D⟩,S⟩,E⟩,J⟩:=h;rw[kg,List.mem_append,List.mem_append,eR,eR,List.mem_flatMap,List.mem_flatMap]at u;rcases u with u|⟨y,z,u⟩|⟨y,z,u⟩
  .cases f with
   |true=>
    have:x=q:=by simpa using u
    rw[this];exact D
   |false=>cases u
  .exact TO d f y (E y z) x u
  .exact TO d (!f) y (J y z) x u
def TY(x:Q):Prop:=x.sp.size<=1048576/\x.lc.size<=1048576/\x.vl.size<=1048576
theorem TM{H:N7}{lo:Nat}:∀(k:Nat)(f:Bool)(cs:LV)(q:Q),QR H lo k f cs q->∀x∈fsQ f q,TY x
 |0,f,cs,q,h,x,u=>by exact h.elim
 |k+1,f,cs,q,h,x,u=>by
  have z:∀(g:Bool)(v:Value)(l:List Q),QsR H lo k g v l->∀x∈fsL g l,TY x:=by
   intro g v l X x u;rw[eR,List.mem_flatMap]at u;obtain⟨y,hy,u⟩:=u;obtain⟨i,W⟩:=List.mem_iff_getElem?.1 hy;obtain⟨b,o,c,cs,own,hv,hb,hg,a1,hr⟩:=SlI.at_ X W;exact TM k g _ y hr x u
  rw[kg,List.mem_append,List.mem_append]at u;cases f with
  |true=>
   obtain⟨va,ca,wa,D,_,E,J,_,_,O,S,U⟩:=h.filter;rcases u with u|u|u
   .have:x=q:=by simpa using u
    rw[this];exact⟨O,S,U⟩
   .exact z true _ _ E x u
   .exact z false _ _ J x u
  |false=>
   obtain⟨va,ca,wa,D,_,E,J,_,_⟩:=h.path;rcases u with u|u|u
   .cases u
   .exact z false _ _ E x u
   .exact z true _ _ J x u
theorem TE{α:Type}(p:Q->Bool)(g:Q->α)(D:α->α->Bool):∀(l:List Q)(u:List α),∀z∈lM p g D u l,z∈u\/∃y∈l,p y=true/\g y=z
 |[],u,z,hz=> .inl hz
 |x::l,u,z,hz=>by
  rw[gR]at hz;rcases TE p g D l _ z hz with h|⟨y,S,J,O⟩
  .split at h
   .rename_i E;simp only[Bool.and_eq_true]at E;rcases List.mem_append.1 h with h|h
    .exact .inl h
    .exact .inr ⟨x,by simp,E.1,by simpa using (List.mem_singleton.1 h).symm⟩
   .exact .inl h
  .exact .inr ⟨y,by simp [S],J,O⟩
def nmA(a:AtD):ByteArray×ByteArray:=(a.space,a.loc)
theorem TL(a:AtD):∀(l:List AtD)(u:List (ByteArray×ByteArray)),aGo u (l++[a])=(aGo u l&& !(zO (nmA a) (u++l.map nmA)|| !iQ a.space a.loc|| !aW a.val))
 |[],u=>by
  rw[List.nil_append,aGo,aGo,aGo,List.map_nil,List.append_nil];split
  .rename_i h;rw[show zO (nmA a) u=zO (a.space,a.loc) u from rfl,h];rfl
  .rename_i h;rw[show zO (nmA a) u=zO (a.space,a.loc) u from rfl,Bool.eq_false_iff.2 h];rfl
 |x::l,u=>by
  rw[List.cons_append,aGo,aGo];split
  .rfl
  .rw[TL a l,List.map_cons,List.append_assoc];rfl
structure OpR(e:EvD)(m:Nat):Prop where
 kind:e.kind=1
 text:e.text=eB
 named:iQ e.space e.loc=true
 sp:e.space.size<=1048576
 lc:e.loc.size<=1048576
 go:aGo [] e.attrs=true
 len:e.attrs.length<=m
 at_:∀a∈e.attrs,a.space.size<=1048576/\a.loc.size<=1048576/\a.val.size<=1048576
def Ua(n:NmQ):Prop:=iQ n.1 n.2=true/\n.1.size<=1048576/\n.2.size<=1048576
theorem TU{k:ByteArray×ByteArray}{l:List (ByteArray×ByteArray)}(h:k∉l):zO k l=false:=by
 rw[zO,List.any_eq_false];intro x u q;exact h (dT q▸u)
theorem Ty:∀(r:List (NmQ×List ByteArray))(e:EvD)(m:Nat),OpR e m->(r.map (·.1)).Nodup->(∀n∈r.map (·.1),n∉e.attrs.map nmA)->(∀x∈r,Ua x.1/\∀v∈Q4 x.2,aW v=true/\v.size<=1048576)->∀y∈S3 r e,OpR y (m+r.length)
 |[],e,m,h,_,_,_,y,u=>by
  rw[S3]at u;rw[List.mem_singleton.1 u];exact h
 |x::r,e,m,h,hd,hn,hr,y,u=>by
  rw[List.map_cons,List.nodup_cons]at hd;rw[S3,List.mem_append,List.mem_flatMap]at u;rw[List.length_cons,Nat.add_comm r.length 1,<-Nat.add_assoc];rcases u with u|⟨v,U,u⟩
  .have:=Ty r e m h hd.2 (fun n D=>hn n (by simp [List.mem_map]at D ⊢;exact .inr D)) (fun z S=>hr z (by simp [S])) y u;exact⟨this.kind,this.text,this.named,this.sp,this.lc,this.go,by have:=this.len;omega,this.at_⟩
  .obtain⟨⟨X,n2,n3⟩,O⟩:=hr x sM;obtain⟨v1,v2⟩:=O v U;have W:x.1∉e.attrs.map nmA:=hn x.1 sM;refine Ty r (atV x.1 e v) (m+1) ⟨h.kind,h.text,h.named,h.sp,h.lc,?_,?_,?_⟩ hd.2 ?_ (fun z S=>hr z (by simp [S])) y u
   .show aGo [] (e.attrs++[⟨x.1.1,x.1.2,v⟩])=true;rw[TL,h.go,List.nil_append,show nmA ⟨x.1.1,x.1.2,v⟩=x.1 from rfl,TU W,X,v1];rfl
   .show(e.attrs++[_]).length<=m+1;have:=h.len;simp;omega
   .intro a J;rcases List.mem_append.1 J with J|J
    .exact h.at_ a J
    .rw[List.mem_singleton.1 J];exact⟨n2,n3,v2⟩
   .intro n D q;have E:n∈(e.attrs++[(⟨x.1.1,x.1.2,v⟩:AtD)]).map nmA:=q;rw[List.map_append,List.mem_append]at E;rcases E with E|E
    .exact hn n (by simp [List.mem_map]at D ⊢;exact .inr D) E
    .have:n=x.1:=by simpa [nmA] using E
     exact hd.1 (this▸D)
theorem TH:∀r,r.length+1<=Q9 r
 |[]=>Nat.le_refl 1
 |v::r=>by
  have h:=TH r;have:2*Q9 r<=(v.length+2)*Q9 r:=Nat.mul_le_mul_right _ oM;rw[Q9,List.length_cons];omega
def SmE(e:EvD):Prop:=gI e=true/\e.space.size<=1048576/\e.loc.size<=1048576/\e.text.size<=1048576/\e.attrs.length<=1048576/\∀a∈e.attrs,a.space.size<=1048576/\a.loc.size<=1048576/\a.val.size<=1048576
theorem TI{H:N7}{lo k:Nat}{cs:LV}{q:Q}(hr:QR H lo k false cs q)(hq:gl q=true){l:List EvD}(hl:V4 (spQ q)=some l):∀e∈l,SmE e/\(e.kind=1\/e.kind=2):=by
 have a7:=(iJ hq).2;have b0:=jN false q;have O:∀x∈fsQ false q,iG true x=true:=TO 16 false q (by simp only[gl,Bool.and_eq_true]at hq;exact hq.2);have S:=TM k false cs q hr;have a6:(spQ q).vals.length=(spQ q).attrs.length:=by rw[spQ];simp
 rw[iC (spQ q) a6]at hl;split at hl
 .cases hl
 .rename_i hc;cases hl;have a9:rF (spQ q).vals ((spQ q).names.length+1)<=24:=by unfold mK at hc;omega
  obtain⟨c1,c2⟩:=lT (spQ q).vals ((spQ q).names.length+1);have e1:(((spQ q).names.length+1:Nat):Int)=((spQ q).names.length:Int)+1:=oM;rw[e1]at c1 c2;have hp:((spQ q).names.length+1)*Q9 (spQ q).vals<=24:=by
   by_cases h:((spQ q).names.length+1)*Q9 (spQ q).vals<=24
   .exact h
   .have:=c2 oM;omega
  have b2:=TH (spQ q).vals;have b1:Q9 (spQ q).vals<=24:=by
   have:1*Q9 (spQ q).vals<=((spQ q).names.length+1)*Q9 (spQ q).vals:=Nat.mul_le_mul_right _ oM;omega
  have a1:∀(a b:Int),4<=a->b<=6->∀n∈V5 a b (fsQ false q),Ua n:=by
   intro a b ha hb n E;rcases TE _ _ _ _ _ n E with h|⟨y,D,h1,h2⟩
   .cases h
   .simp only[aQ,Bool.and_eq_true,decide_eq_true_eq]at h1;have u:=O y D;have hN:xn y.op=true:=by simp only[xn,Bool.and_eq_true,decide_eq_true_eq];omega
    simp only[iG,if_true,Bool.and_eq_true,iH,hN,Bool.not_true,Bool.false_or,qNamed]at u;obtain⟨z1,z2,_⟩:=S y D;rw[<-h2];refine⟨?_,z1,z2⟩;show iQ y.sp y.lc=true;have h3:=u.1.2.2;simp only[iQ,Bool.and_eq_true];exact⟨⟨⟨h3.1.1.1.1.2,h3.1.1.1.2⟩,h3.1.1.2⟩,h3.1.1.1.1.1⟩
  have z:∀(p:Q->Bool)(g:Q->ByteArray),(lM p g cj [] (fsQ false q)).length<=64:=by
   intro p g;have:=dW p g cj (fsQ false q) [];simp at this;omega
  have X:∀n,∀v∈Q4 (R9 6 n (fsQ false q)),aW v=true/\v.size<=1048576:=by
   intro n v W;rw[Q4,List.mem_append]at W;rcases W with W|W
   .rcases TE _ _ _ _ _ v W with h|⟨y,D,h1,h2⟩
    .cases h
    .have u:=O y D;simp only[iG,if_true,Bool.and_eq_true,uY]at u;rw[<-h2];exact⟨u.2.2,(S y D).2.2⟩
   .rw[List.mem_singleton]at W;rw[W];split
    .obtain⟨d1,d2⟩:=TQ (T8 (R9 6 n (fsQ false q)));have:=(me (R9 6 n (fsQ false q))).2;have:=z (dt 6 n) Q.vl;exact⟨d1.text,by rw[R9]at*;omega⟩
    .exact⟨Tw,by decide⟩
  intro e he;rw[js,List.mem_append,List.mem_flatMap,List.mem_map]at he;rcases he with⟨n,E,he⟩|⟨t,ht,rfl⟩
  .have J:Ua n:=by
    rcases List.mem_append.1 E with E|E
    .exact a1 4 4 oM oM n E
    .rw[List.mem_singleton.1 E];obtain⟨z1,z2⟩:=TZ (Q6 (spQ q).names);have:=(sF (spQ q).names).2;have a2:(spQ q).names.length<=64:=by
      have h:=dW (aQ 4 4) qNm L3 (fsQ false q) [];show(V5 4 4 (fsQ false q)).length<=64;rw[V5];simp at h;omega
     exact⟨z1,Nat.zero_le _,by show(zN _).size<=_;omega⟩
   have a5:(spQ q).attrs.Nodup:=by
    show(V5 5 6 (fsQ false q)).Nodup;exact(dX (aQ 5 6) qNm L3 (fun x y=>E9) (fsQ false q) []).2.2 List.nodup_nil
   have hz:(spQ q).attrs.zip (spQ q).vals=(spQ q).attrs.map fun n=>(n,R9 6 n (fsQ false q)):=vP _ _;rw[hz]at he;have h0:OpR (X5 n) 0:=⟨rfl,rfl,J.1,J.2.1,J.2.2,rfl,lR,fun a ha=>by cases ha⟩
   have:=Ty _ (X5 n) 0 h0 (by rw[List.map_map,show((fun x:NmQ×List ByteArray=>x.1) ∘ fun n=>(n,R9 6 n (fsQ false q)))=id from rfl,List.map_id];exact a5) (fun n _ q=>by cases q) (fun x hx=>by
    obtain⟨n',a4,rfl⟩:=List.mem_map.1 hx;exact⟨a1 5 6 oM oM n' a4,X n'⟩) e he
   have a3:=this.len;rw[List.length_map]at a3;have a8:(spQ q).attrs.length<=23:=oM;refine⟨⟨?_,this.sp,this.lc,by rw[this.text];decide,oM,this.at_⟩,.inl this.kind⟩;rw[gI,if_pos this.kind,this.text,this.named,gH,this.go];simp;omega
  .have U:aW t=true/\t≠eB/\t.size<=1048576:=by
    rcases List.mem_append.1 ht with ht|ht
    .rcases TE _ _ _ _ _ t (show t∈R9 7 (eB,eB) (fsQ false q) from ht)with h|⟨y,D,h1,h2⟩
     .cases h
     .simp only[dt,Bool.and_eq_true,decide_eq_true_eq]at h1;have u:=O y D;simp only[iG,if_true,Bool.and_eq_true,uY,Bool.not_eq_true',Bool.and_eq_false_iff,decide_eq_false_iff_not]at u;rw[<-h2];refine⟨u.2.2,?_,(S y D).2.2⟩;rcases u.2.1.2 with h|h
      .exact absurd h1.1 h
      .exact h
    .rw[List.mem_singleton.1 ht];obtain⟨d1,d2⟩:=TQ (T8 (spQ q).texts);have:=(me (spQ q).texts).2;have a2:(spQ q).texts.length<=64:=z _ _;exact⟨d1.text,Ub _,oM⟩
   refine⟨⟨?_,Nat.zero_le _,Nat.zero_le _,U.2.2,Nat.zero_le _,fun a ha=>by cases ha⟩,.inr rfl⟩;rw[gI,if_neg (by show¬(2:Int)=1;omega),if_pos (show(dp t).kind=2 from rfl)];simp [dp,U.1,U.2.1]
theorem TG{D:List SoD}{u:Int}{a b:Nat}(h:R5 D u a b=true)(J:u=2):a=0/\(D.getD b soZ).2.1=false:=by
 simp only[R5,Bool.and_eq_true,Bool.or_eq_true,Bool.not_eq_true',decide_eq_false_iff_not,decide_eq_true_eq,Int.toNat_natCast]at h;rcases h.2 with z|⟨z,E⟩
 .exact absurd J z
 .exact⟨oM,E⟩
theorem Tz{r:ReD}{m:Int}(hg:R4 r m){k:Nat}(W:1<=k)(X:k<r.sorts.length)(n:Nat)(hn:k<n):
  ∃(a b:Nat)(e:EvD),e∈r.labels/\a<k/\b<k/\r.size.getD k 0=r.size.getD a 0+r.size.getD b 0+1/\R5 r.sorts e.kind a b=true/\r.sorts.getD k soZ=I4 r.strat e (r.sorts.getD a soZ) (r.sorts.getD b soZ)/\
   ∃u,n=u+1/\bn r n k=([e]++(if e.kind=1 then bn r u a++[wE] else []))++bn r u b:=by
 obtain⟨i,a,b,e,D,z,E,J,O,S,U⟩:=hg.from_ k W X;cases n with
 |zero=>omega
 |succ u=>
  refine⟨a,b,e,mG z,E,J,O,S,by rw[List.getD_eq_getElem?_getD,U];rfl,u,rfl,?_⟩;rw[bn,if_neg oM];simp only[Int.toNat_natCast,D,z]
theorem TC(r:ReD):∀n,bn r n 0=[]
 |0=>rfl
 |n+1=>by rw[bn,if_pos (.inl (Int.le_refl _))]
theorem TB{r:ReD}{m:Int}(u:R4 r m):r.sorts.getD 0 soZ=soZ/\r.size.getD 0 0=0:=by
 rw[List.getD_eq_getElem?_getD,u.s0,List.getD_eq_getElem?_getD,u.z0];exact⟨rfl,rfl⟩
theorem TK{r:ReD}{m:Int}(D:R4 r m)(S:∀e∈r.labels,e.kind=1\/e.kind=2):∀(n k:Nat),k<n->k<r.sorts.length->∀(X:List EvD)(B u:List SoD),whF r.strat X=(soZ::B,u)->
  ∃A,whF r.strat (bn r n k++X)=(r.sorts.getD k soZ::B,A++u)/\(A.length:Int)=r.size.getD k 0/\(1<=k->A.head?=some (r.sorts.getD k soZ))
 |0,k,hn,_,X,B,u,hX=>oM
 |n+1,k,hn,hkl,X,B,u,hX=>by
  by_cases h1:1<=k
  .obtain⟨a,b,e,he,ha,hb,U,E,z,n',a1,J⟩:=Tz D h1 hkl (n+1) hn;obtain rfl:n=n':=oM;obtain⟨O,q1,q2,_⟩:=TK D S n b oM oM X B u hX;rw[J];rcases S e he with W|e2
   .rw[if_pos W];have e3:wE.kind=3:=rfl;obtain⟨Aa,p1,p2,_⟩:=TK D S n a oM oM (wE::(bn r n b++X)) (r.sorts.getD b soZ::B) (O++u) (by rw[whF,if_pos e3,q1]);refine⟨r.sorts.getD k soZ::(Aa++O),?_,by simp only[List.length_cons,List.length_append];omega,fun _=>rfl⟩;have:[e]++(bn r n a++[wE])++bn r n b++X=e::(bn r n a++wE::(bn r n b++X)):=sM;rw[this,whF,if_neg oM,if_pos W,p1];simp only[List.headD_cons,List.tail_cons,<-z];simp
   .rw[if_neg oM,List.append_nil];obtain⟨a0,_⟩:=TG E e2;subst a0;refine⟨r.sorts.getD k soZ::O,?_,by rw[(TB D).2]at U;simp only[List.length_cons];omega,fun _=>rfl⟩;have:[e]++bn r n b++X=e::(bn r n b++X):=sM;rw[this,whF,if_neg oM,if_neg oM,q1];simp only[List.headD_cons,List.tail_cons];rw[(TB D).1]at z;rw[<-z];rfl
  .obtain rfl:k=0:=oM;have hz:=TB D;exact⟨[],by rw[show((0:Nat):Int)=0 from rfl,TC,hz.1];exact hX,by rw[hz.2];rfl,fun h=>oM⟩
theorem TJ:gI wE=true:=rfl
theorem Ts:∀(u l2:List EvD)(p:Option Int),Cp p (u++l2)=Cp (Cp p u) l2
 |[],l2,p=>rfl
 |e::u,l2,p=>by rw[List.cons_append,Cp,Cp,Ts u l2]
theorem TF{q:Option Int}{d:Int}(J:q≠none)(E:d≠0)(D:d<=65):bGo q d [wE]=true/\dep d [wE]=d-1:=by
 have z:wE.kind=3:=rfl;have u:d7 d wE.kind=d-1:=by rw[z,d7,if_neg oM,if_pos rfl]
 refine⟨?_,u⟩;rw[bGo,TJ,decide_eq_false J,decide_eq_false E,z,if_neg sM,<-z,u,if_neg oM];rfl
theorem Tu{r:ReD}{m:Int}(W:R4 r m)(z:∀x∈r.size,0<=x/\x<=200) (X:∀e∈r.labels,e.kind=1\/e.kind=2) (O:∀e∈r.labels,gI e=true):∀(n k:Nat),k<n->k<r.sorts.length->∀(p:Option Int)(d:Int),p≠none->1<=d->d+r.size.getD k 0<=64->(p=some 2->(r.sorts.getD k soZ).2.1=false)->
  bGo p d (bn r n k)=true/\dep d (bn r n k)=d
 |0,k,hn,_,p,d,hp,hd,hd2,ht=>oM
 |n+1,k,hn,hkl,p,d,hp,hd,hd2,ht=>by
  by_cases h1:1<=k
  .obtain⟨a,b,e,he,ha,hb,a7,E,a2,n',a6,S⟩:=Tz W h1 hkl (n+1) hn;obtain rfl:n=n':=oM;have h0:∀i,0<=r.size.getD i 0:=fun i=>by
    rw[List.getD_eq_getElem?_getD];cases hq:r.size[i]? with
    |none=>exact Int.le_refl 0
    |some y=>exact(z y (mG hq)).1
   have a4:=h0 a;have a5:=h0 b;have J:(decide (p=none)&& !decide (e.kind=1))=false:=by rw[decide_eq_false hp];rfl
   have D:(!decide (p=none)&&decide (d=0))=false:=by rw[decide_eq_false (show¬d=0 from oM),Bool.and_false]
   rw[S];rcases X e he with e1|e2
   .have u:d7 d e.kind=d+1:=by rw[d7,if_pos e1]
    have ia:=Tu W z X O n a oM oM (some e.kind) (d+1) sM oM oM (fun q=>by have:=Option.some.inj q;omega);have U:=Tu W z X O n b oM oM (some 3) d sM hd oM (fun q=>by have:=Option.some.inj q;omega);have hE:bGo p d [e]=true:=by
     rw[bGo,O e he,J,D,u,if_neg (by simp [e1]),if_neg oM];rfl
    have dE:dep d [e]=d+1:=u;have lE:Cp p [e]=some e.kind:=rfl;obtain⟨q,hq⟩:=tT (bn r n a) (some e.kind) (.inr sM);have hc:=TF (q:=some q) (d:=d+1) sM oM oM;have e4:d+1-1=d:=oM;have dA:dep d ([e]++(bn r n a++[wE]))=d:=by rw[sQ,sQ,dE,ia.2,hc.2,e4]
    rw[if_pos e1];refine⟨?_,by rw[sQ,dA,U.2]⟩;rw[om,dA,om,hE,dE,lE,om,ia.1,ia.2,hq,hc.1,Ts,Ts,lE,hq,show Cp (some q) [wE]=some 3 from rfl,U.1];rfl
   .obtain⟨a0,a3⟩:=TG E e2;subst a0;have u:d7 d e.kind=d:=by rw[d7,if_neg oM,if_neg oM]
    have U:=Tu W z X O n b oM oM (some e.kind) d sM hd oM (fun _=>a3);have a1:decide (p=some 2)=false:=decide_eq_false fun q=>by
     have h:=ht q;rw[a2]at h;have:(I4 r.strat e (r.sorts.getD 0 soZ) (r.sorts.getD b soZ)).2.1=decide (e.kind=2):=rfl;rw[this,decide_eq_true e2]at h;cases h
    have hE:bGo p d [e]=true:=by
     rw[bGo,O e he,J,D,a1,u,if_neg sM,if_neg oM];rfl
    rw[if_neg oM,List.append_nil];refine⟨?_,by rw[sQ,show dep d [e]=d from u,U.2]⟩;rw[om,hE,show dep d [e]=d from u,show Cp p [e]=some e.kind from rfl,U.1];rfl
  .obtain rfl:k=0:=oM;rw[show((0:Nat):Int)=0 from rfl,TC];exact⟨rfl,rfl⟩
theorem TP:gI Tv=true:=by
 have u:smT ⟨#[114,111,111,116]⟩:=by
  intro b J;have:b=114\/b=111\/b=111\/b=116:=by simpa using J
  rcases this with rfl|rfl|rfl|rfl<;>rfl
 have E:iQ eB ⟨#[114,111,111,116]⟩=true:=by
  rw[iQ,iR,u.part _ 0 rfl (fun _=>rfl),u.text,Tw];have z:decide (eB=yS)=false:=by decide
  have D:decide ((⟨#[114,111,111,116]⟩:ByteArray)=eB)=false:=by decide
  rw[z,D];rfl
 rw[gI,if_pos (show Tv.kind=1 from rfl)];show(decide (eB=eB)&&iQ eB ⟨#[114,111,111,116]⟩&&gH [])=true;rw[E];rfl
theorem TN{r:ReD}{m:Int}(S:R4 r m)(E:∀x∈r.size,0<=x/\x<=200) (U:∀e∈r.labels,e.kind=1\/e.kind=2) (hr:∀e∈r.labels,gI e=true) {k:Nat} (u:k<r.sorts.length) (a4:r.size.getD k 0<=40):
  ((Bx r.strat (Tp (bn r (k+1) k))).length:Int)=r.size.getD k 0+1/\(1<=k->(Bx r.strat (Tp (bn r (k+1) k)))[1]?=some (r.sorts.getD k soZ)):=by
 have z:Tv.kind=1:=rfl;have D:d7 0 Tv.kind=1:=rfl;obtain⟨b1,J⟩:=Tu S E U hr (k+1) k oM u (some 1) 1 sM oM oM (fun q=>by have:=Option.some.inj q;omega);obtain⟨q,hq⟩:=tT (bn r (k+1) k) (some 1) (.inr sM);obtain⟨c1,c2⟩:=TF (q:=some q) (d:=1) sM oM oM;have O:v8 (Tp (bn r (k+1) k))=true:=by
  rw[v8,Tp,om,bGo,TP,z,if_neg sM,<-z,D,if_neg oM,z,b1,show Cp none (Tv::bn r (k+1) k)=Cp (some 1) (bn r (k+1) k) from rfl,show dep 0 (Tv::bn r (k+1) k)=dep 1 (bn r (k+1) k) from rfl,J,hq,c1];rfl
 have hD:dep 0 (Tp (bn r (k+1) k))=0:=by
  rw[Tp,sQ,show dep 0 (Tv::bn r (k+1) k)=dep 1 (bn r (k+1) k) from rfl,J,c2];rfl
 have hW:qe (Tp (bn r (k+1) k))=true:=by
  rw[qe,O,vj,if_pos O,hD];simp [Tp]
 obtain⟨A,W,a2,X⟩:=TK S U (k+1) k oM u [wE] [soZ] [] rfl;have hF:(whF r.strat (Tp (bn r (k+1) k))).2=I4 r.strat Tv (r.sorts.getD k soZ) soZ::A:=by
  rw[Tp,List.cons_append,whF,if_neg oM,if_pos z,W];simp
 rw[Bx,if_pos hW,hF];refine⟨by simp only[List.length_cons];omega,fun h=>?_⟩;rw[List.getElem?_cons_succ,<-List.head?_eq_getElem?,X h]
theorem TX{r:ReD}{m:Int}(E:R4 r m){k:Nat}(z:k<r.sorts.length):(bn r (k+1) k).length=0↔k=0:=by
 constructor
 .intro h;by_cases D:1<=k
  .obtain⟨a,b,e,_,_,_,_,_,_,J,_,u⟩:=Tz E D z (k+1) oM;rw[u]at h;simp at h
  .omega
 .intro h;subst h;rw[show((0:Nat):Int)=0 from rfl,TC];rfl
theorem Uc{H:N7}{lo:Nat}{F:Nat->Prop}{cs:LV}{e:EvD}(h:EvF H F cs e)(O:e.space.size<=1048576/\e.loc.size<=1048576/\e.text.size<=1048576/\e.attrs.length<=1048576/\∀a∈e.attrs,a.space.size<=1048576/\a.loc.size<=1048576/\a.val.size<=1048576) (D:∀j,F j->j<lo):EvR H lo cs e:=by
 obtain⟨v,u,z⟩:=h;obtain⟨S,U,W,X,z5⟩:=O;exact⟨v,u,(z.sl D).mem fun a E cs J=>⟨J,z5 a E⟩,S,U,W,X⟩
def SmS(e:EvD):Prop:=e.space.size<=1048576/\e.loc.size<=1048576/\e.text.size<=1048576/\e.attrs.length<=1048576/\∀a∈e.attrs,a.space.size<=1048576/\a.loc.size<=1048576/\a.val.size<=1048576
theorem TA{r:ReD}(h:∀e∈r.labels,SmS e):∀(n:Nat)(k:Int),∀e∈bn r n k,SmS e
 |0,k,e,u=>by cases u
 |n+1,k,e,u=>by
  have J:SmS wE:=⟨by decide,by decide,by decide,by decide,fun a E=>by cases E⟩
  rw[bn]at u;split at u
  .cases u
  .split at u
   .rename_i i a b O;split at u
    .rename_i D z;rw[List.mem_append,List.mem_append]at u;rcases u with(u|u)|u
     .rw[List.mem_singleton.1 u];exact h D (mG z)
     .split at u
      .rcases List.mem_append.1 u with u|u
       .exact TA h n _ e u
       .rw[List.mem_singleton.1 u];exact J
      .cases u
     .exact TA h n _ e u
    .cases u
   .cases u
abbrev Ud:t7:=ptA fn7 [1,1,1,1,0,1,0,0]
theorem TT(Hs:N7)(lo K:Nat)(r:ReD)(N:Nat)(z:WfR r N)(m:Int)(hg:R4 r m)(U:∀e∈r.labels,SmE e/\(e.kind=1\/e.kind=2)) (S:N7) (rb:Nat) (u:LV) (gr:S.get rb=cE u 1) (hR:cT S (· <S.next) (QR Hs lo K false) (QR Hs lo K true) u r) (m0:lo<=S.next) (f7:∀j,j<lo->S.get j=Hs.get j) (c7:u.all oC=true) (a4:u.length=12):
  ∀kk e H,(∃k:Nat,kk=12-k/\k<=12/\k<=r.sorts.length/\e.get 3=pT rb/\e.get 5=iV k/\i6 S.next S H)->
  w7 (LE prog gh (.loop Ud) e H) (fun o e H=>o= .exit 0/\i6 S.next S H):=by
 refine i8 _ _ ?_;rintro kk e H ⟨k,hk,h1,l5,f3,f5,hS⟩;have nH:=hS.next;have g5:=u7 gr;have g:=(hS.get rb g5).trans gr;have c8:cT H (· <H.next) (QR Hs lo K false) (QR Hs lo K true) u r:=hR.mono (fun j J=>hS.get j J) (fun j J=>oM);have f1:=c8;obtain⟨rs,vl,w1,w2,w3,O,g9,l8,d1,d3,l4⟩:=c8;have d5:rs.length=8:=by rw[O]at a4;simpa using a4
 obtain⟨a1,c1,rfl⟩:=d1.slice;obtain⟨a2,c2,rfl⟩:=d3.slice;have q9:u[9]?=some (.slice a1 r.sorts.length c1):=by rw[O,List.getElem?_append_right oM,d5];rfl
 have c4:u[10]?=some (.slice a2 r.size.length c2):=by rw[O,List.getElem?_append_right oM,d5];rfl
 rcases b0:decide ((k:Int)<r.sorts.length)with _|_
 .refine J5 f3 f5 g q9 b0 ?_;exact i9 ⟨rfl,hS⟩
 rcases b1:decide ((k:Int)<12)with _|_
 .refine J6 f3 f5 g q9 b0 b1 ?_;exact i9 ⟨rfl,hS⟩
 have b9:k<r.sorts.length:=oN (dT b0);have h8:=dT b1;have l2:=hg.l2;have l6:=z.l1;have ka:(k:Int).toNat=k:=tN k;have h4:u.take 12=u:=List.take_of_length_le oM;have c0:ldC (some true) (some 12) 0 u=some (.agg u.toArray):=by rw[eW _ _ _ oM,List.drop_zero,h4]
 obtain⟨d6,k6,H2,c5,a5,⟨G,O2⟩,s2⟩:=(JB _ _ r m hg z.sb z.at_ k k H u oM f1 a4 c7).one;obtain⟨L,hL⟩:=eY (bn r (k+1) k);rw[<-hL]at O2;have n2:=s2.next;have g7:∀i,i<r.size.length->0<=r.size.getD i 0/\r.size.getD i 0<=200:=fun i hi=>by
  rw[List.getD_eq_getElem?_getD,List.getElem?_eq_getElem hi];exact z.sb _ (List.getElem_mem hi)
 have g0:=g7 k oM;have k9:L.length<=400:=by
  have h1:=gu hg z.sb (k+1) k;rw[<-hL,ka]at h1;omega
 have e7:SlI H2 H2.next 5 (EvF H2 (· <H2.next)) d6 L:=O2.own.sl.mem fun e _ cs⟨v,q1,q2⟩=>⟨v,q1,q2.slf.mono (fun _ _=>rfl) (fun j J=>(O2.fr j J).2.1) iF⟩
 obtain⟨e1,k7,H3,c6,a6,O3,s3⟩:=Ret.one (TV H2 d6 L e7 oM);have n3:=s3.next;have a9:i6 H.next H H3:=s2.trans (s3.weaken n2);have g8:∀e∈Tp L,SmS e:=by
  intro e D;rw[Tp,List.mem_append,List.mem_cons]at D;rcases D with(rfl|D)|D
  .exact⟨by decide,by decide,by decide,by decide,fun a ha=>by cases ha⟩
  .rw[hL]at D;exact TA (fun e D=>(U e D).1.2) _ _ e D
  .rw[List.mem_singleton.1 D];exact⟨by decide,by decide,by decide,by decide,fun a ha=>by cases ha⟩
 have e8:qY H3 H3.next e1 (Tp L):=O3.sl.mem fun e D cs hc=>Uc (y9 _ _ _ _ _ _ hc (fun j J=>s3.get j J) (fun j J=>J)) (g8 e D) (fun j J=>oM);have d2:StF H3 (· <H3.next) (QR Hs lo K false) (QR Hs lo K true) rs r.strat:=g9.mono (fun j J=>a9.get j J) (fun j J=>oM) iF iF;have i3:(Tp L).length=L.length+2:=by rw[Tp];simp
 obtain⟨m2,k8,H4,a8,a7,O4,s4⟩:=Ret.one (So Hs lo K r.strat N z.n0 z.st z.sz H3 rs d2 (fun j J=>by rw[a9.get j oM,hS.get j oM,f7 j J]) oM e1 (Tp L) e8 oM);have n4:=s4.next;have b3:i6 H.next H H4:=a9.trans (s4.weaken oM);obtain⟨j1,j4,rfl⟩:=O2.own.slice;obtain⟨j2,k0,rfl⟩:=O3.slice;obtain⟨j3,k1,rfl⟩:=O4.slice;have g2:=(s2.get rb oM).trans g;have g3:=(a9.get rb oM).trans g;have g4:=(b3.get rb oM).trans g;have c3:ldC (some true) (some 8) 0 u=some (.agg rs.toArray):=by
  rw[eW _ _ _ oM,O,List.drop_zero,List.take_append_of_le_length oM,List.take_of_length_le oM]
 obtain⟨y0,zb,zo,h5,k2,h6,zx,_,rfl,f0,f9,i0,g6,f6,f4⟩:=d3.row (i:=k) oM;obtain rfl:h6=inE y0:=f4;have ck:h5[zo+k*1]?=some (.int .i64 (r.size.getD k 0)):=by
  have:=f6 0 oM;rw[Nat.add_zero]at this;rw[this,List.getD_eq_getElem?_getD,zx];rfl
 obtain⟨x,sb,so,m1,j0,h3,sx,_,rfl,e9,f8,h9,a3,h7,f2⟩:=d1.row (i:=k) b9;obtain rfl:h3=soE x:=f2;have b7:=(b3.get zb f0).trans f9;have e6:=(b3.get sb e9).trans f8;have b8:∀(e':Env),e'.get 3=pT rb->e'.get 5=iV ((k:Int)+1)->cQ kk (fun kk e H=>∃k:Nat,kk=12-k/\k<=12/\k<=r.sorts.length/\e.get 3=pT rb/\e.get 5=iV k/\i6 S.next S H) (fun o e H=>o= .exit 0/\i6 S.next S H) .normal e' H4:=fun e' e4 e5=>
  i4 (kk-1) oM ⟨k+1,oM,oM,oM,e4,by rw[e5];rfl,hS.trans (b3.weaken nH)⟩
 rcases b2:decide (40<r.size.getD k 0)with _|_
 .have k3:=dF b2;have h2:r.sorts.getD k soZ=x:=by rw[List.getD_eq_getElem?_getD,sx];rfl
  obtain⟨i1,i2⟩:=TN hg z.sb (fun e D=>(U e D).2) (fun e D=>(U e D).1.1) b9 oM;rw[<-hL]at i1 i2;rw[h2]at i2;have E:=TX hg b9;rw[<-hL]at E;obtain⟨W,hW⟩:=eY (Bx r.strat (Tp L));rw[<-hW]at i1 i2 O4 a8;have d8:decide ((W.length:Int)=r.size.getD k 0+1)=true:=decide_eq_true i1;rcases Nat.eq_zero_or_pos k with h0|h0
  .have d9:decide ((k:Int)=0)=true:=decide_eq_true oM;have b5:decide ((L.length:Int)=0)=true:=decide_eq_true (oN (E.2 h0));have b6:decide ((0:Int)<k)=false:=decide_eq_false oM;have bt:F6 prog .neq 4 (.bool true) (.bool true)=some (.bool false):=kR;refine J27 f3 f5 g q9 b0 b1 c0 c5 a5 c6 a6 g3 c3 a8 a7 g4 c4 b7 ck b2 ka @wrap_small d8 d9 b5 b6 bt ?_;exact b8 _ f3 rfl
  .have d9:decide ((k:Int)=0)=false:=decide_eq_false oM;have b5:decide ((L.length:Int)=0)=false:=decide_eq_false (by intro q;have:=E.1 oM;omega);have b6:decide ((0:Int)<k)=true:=decide_eq_true oM;have bt:F6 prog .neq 4 (.bool false) (.bool false)=some (.bool false):=kR;have l3:1<W.length:=by
    have:=(gS (i2 oM)).1;exact this
   obtain⟨k4,k5,b4,e2,_,_,e3,g1,d0⟩:=O4.at_ (i2 oM);cases e2;obtain⟨ex,c9⟩:=eY (soE x);have X:(b4.drop (1*3)).take 3=soE x:=d0;rw[<-c9]at a3 X;have d4:ldC (some true) (some 3) (1*3) b4=some (.agg ex.toArray):=cq oM X;have ce:A6 [Q5.bool,Q5.bool,Q5.str] ex ex=some true:=by rw[c9,soE,lS,lS,JZ,JY];simp
   refine J30 f3 f5 g q9 b0 b1 c0 c5 a5 c6 a6 g3 c3 a8 a7 g4 c4 b7 ck b2 ka @wrap_small d8 d9 b5 b6 bt e3 (aI d4 e6) (aI a3 ce) ?_;exact b8 _ f3 rfl
 .refine J22 f3 f5 g q9 b0 b1 c0 c5 a5 c6 a6 g3 c3 a8 a7 g4 c4 b7 ck b2 ka @wrap_small ?_;exact b8 _ f3 rfl
theorem Uf(K:Nat)(H:N7)(lo:Nat)(cs:LV)(q:Q)(d0:lo<=H.next)(hr:QR H lo K false cs q):
  CL prog gh 7 [.agg cs.toArray] H=some (.bool true,none):=by
 have ac:=F7 hr;have ldc:=N5 hr;have l0:=hr.len;simp only[qSz,bF]at l0;rw[l0]at ldc;obtain⟨H1,W,n1,g1,s1⟩:=pushF H (bC cs 1);have O:H1.low=H.next:=by rw[W];rfl
 have a9:QR H1 lo K false cs q:=hr.mono (fun j hj=>s1.get j oM) lR;have h9:=JU H1;have J:=aX (IC H1 lo K cs q oM a9 (fun h=>⟨(iJ h).1,by have:=(iJ h).2;omega⟩));rw[j7 fn7 rfl _ sM];rcases b:(gl q&&lZ q)with _|_
 .rw[b]at J;exact J7 ac W.symm g1 ldc h9 J O trivial
 .rw[b]at J;simp only[Bool.and_eq_true]at b;obtain⟨c0,hn⟩:=iJ b.1;obtain⟨v,h,H2,a8,a6,D,er,rfl,s2,E⟩:=EP K H1 lo cs q oM a9 c0 oM;have n2:=s2.next;have b9:H.next<=H2.low:=s2.lowAll H.next oM oM;obtain⟨H3,X,n3,x3,-⟩:=pushE H2 (bC [nS,nS,nS,iV 0,iV 0,iV 0,nS,nS,nS,nS,nS,nS] 1);obtain⟨H4,u⟩:=eY (H3.put H2.next (bC D 1));have x4:H4.get H2.next=cE D 1:=by rw[u];exact j5 oM
  have S:H.next<=H4.low:=by rw[u,A4,X,l9];omega
  rcases E with⟨E,rfl,rfl⟩|⟨r,E,rfl,c7,hR⟩
  .have b1:splice z12 0 z12=z12:=rfl;simp only[z12]at u a8 b1 x4;exact J15 ac W.symm g1 ldc h9 J O a8 a6 X.symm x3 b1 u.symm x4 S trivial
  .have b2:=hR;obtain⟨rs,vl,w1,w2,w3,U,c5,b7,c4,c6,b6⟩:=hR;obtain⟨pa,pc,ga,gc,xa,xc,ea,ec,ta,tc,a7,_⟩:=F1 c5;have c8:rs.length=8:=by rw[a7];rfl
   have a5:D.length=12:=by rw[U];simp [c8]
   obtain⟨a1,c1,rfl⟩:=c4.slice;obtain⟨a2,c2,rfl⟩:=c6.slice;obtain⟨a3,c3,rfl⟩:=b6.slice;obtain⟨la,lc,rfl⟩:=b7.slice;have a4:D.all oC=true:=by rw[U,a7];rfl
   have c9:splice [nS,nS,nS,iV 0,iV 0,iV 0,nS,nS,nS,nS,nS,nS] 0 D=D:=by rw[U,a7];rfl
   obtain⟨⟨m,b5⟩,_,l,hl,b8⟩:=gi E;have n4:H4.next=H2.next+1:=by rw[u,t5,n3]
   have y4:∀j,j<H2.next->H4.get j=H2.get j:=fun j hj=>by rw[u,j6 oM,X,i7 oM]
   have b3:=b2.mono (F':=(· <H4.next)) y4 (fun j hj=>oM);refine J15 ac W.symm g1 ldc h9 J O a8 a6 X.symm x3 c9 a5 a4 u.symm ?_;refine j8 (F:=fun z=>u5 _ _ _ (u9 (inBlock 0 z) _)=_) (TT H1 lo K r _ c7 m b5 (fun e he=>TI hr b.1 hl e (b8▸he)) H4 H2.next D x4 b3 oM (fun j hj=>by rw[y4 j oM,s2.get j oM]) a4 a5 12 _ _ ⟨0,rfl,oM,oM,rfl,rfl,i6.refl _ _⟩) ?_;rintro o' e' H' ⟨ho,b4⟩;have b0:H.next<=H'.low:=b4.lowAll _ oM S;exact J2 ho b0 trivial
end Go.Proofs.YtofbhlhamfkljaaGreatDoor.Ve
namespace Go.Proofs.YtofbhlhamfkljaaGreatDoor.reachRows
open Go.ChangeShapes Go.WideShapes Go.ChangeAt Go.RowKit
open Go.Proofs.Tryz (prog)
open Go Ve card
theorem DE(H:Type)(enc:TypeId×Value->H)(W:World)(base:Nat)(args:Array Value)(ds gs:List (DataW H))(u:List MemPlace)
  (E:∀(j:Nat) t v,Tryz.f7.params[j]?=some t->args[j]?=some v->Value.okWide prog W .any base t v)
  (hW:DataW.Whole enc prog Tryz.f7.params.toList Rows.reachRowsSpec.vars false W args.toList ds gs u) (hk:Rows.uptoSmall H (ds++gs)=true):
  Calls prog 7 args W fun e W'=>∃v,e= .returned v/\Rows.reachRowsSpec.post enc prog Tryz.f7 false true false false W args v W':=by
 have a1:=hW;obtain⟨p,q,O,hV,rfl,a6,a7⟩:=hW;have hA:DataW.TrodAll enc prog W 0 (fun _=>true) true Tryz.f7.params.toList args.toList ds p:=O;rw[Tryz.params7]at hA E;obtain⟨v0,a8,d0,a5,p0,q0,a3,rfl,rfl,h0,r0⟩:=trodAll_cons hA;obtain⟨rfl,rfl,rfl⟩:=trodAll_nil r0;obtain rfl:args= #[v0]:=by cases args;simp_all
 obtain⟨rfl,rfl⟩:=trodVars_none hV;obtain⟨a0,rfl,_⟩:=okWide_struct Tryz.underlying25 (E 0 25 v0 rfl rfl);have k0:=h0;have a4:∀x∈p0,x.block<W.heap.size:=by obtain⟨m,hm⟩:=k0;exact DataW.trod_lt m _ _ _ hm
 have hb:Rows.uptoBulk d0<=1048576:=by
  have h:Rows.uptoBulkAll ([d0]++[])<=1048576:=dT hk;simp only[Rows.uptoBulkAll,List.cons_append,List.nil_append]at h;omega
 obtain⟨D,hf⟩:=h0;obtain⟨φ,S,ac,l,_,_,a2,X,_,hq⟩:=(mu (D+1)).1.2 enc W D oM _ d0 p0 hf hb [] [] (FQ W);have U:=Uf _ ⟨S,S.length⟩ S.length ac l lR (Ru hq);have z:VRs φ [.agg ac.toArray] [.agg a0]:= .cons (.agg (by simpa [Value.cells] using X.1) (by simpa [Value.cells] using X.2)) (.nil φ);clear O;refine(Bz kR HP a2 z U).mono fun e W'⟨he,J⟩=>?_;subst he;exact⟨_,rfl,_,_,_,[],_,[],a1,trodAll_mk1 (shut_bool Tryz.underlying4 _),(trodAll_cons_mk (Below.trod jt kR (dT kR) k0 J a4) trodAll_mk0),rfl,J.frame _,fun h=>by cases h⟩
theorem LJ(J:Os)(u:J.Started)(H:Type)(enc:TypeId×Value->H)(F:Stop.Interp):
  ReturnsInHanded {} Tryz.checked J 7 .any ((Rows.OpenSpec.upto Rows.reachRowsSpec).preRow enc prog Tryz.f7 Rows.reachRowsUptoRow.domain false Rows.reachRowsUptoRow.laid) (((Rows.OpenSpec.upto Rows.reachRowsSpec).at F).post enc prog Tryz.f7 false true false false):=by
 obtain⟨O,hx⟩:=reads J enc;refine returnsInHanded_of_row (C:=Tryz.checked) (s:=Rows.OpenSpec.upto Rows.reachRowsSpec) own u kR Tryz.func7
  (witness_row_at (enc:=enc) (C:=Tryz.checked) false (gO J) #[JT] rfl kR kR kR
   (OpenSpec.preRow_of_cond 8 hx kR (fun k X=>by cases X;kernel_rfl) kR (TW J))) ?_
 intro W base args ds S z E U _ D _ hL _ _;exact DE H enc W base args ds S z E U (D _ rfl)
theorem Rx:Rows.ReachRowsUptoSaid:=
 OpenClaim.holds_of_cond 7 Tryz.f7 rfl rfl rfl rfl rfl rfl rfl ⟨rfl,rfl,rfl,rfl,rfl⟩ rfl rfl rfl rfl rfl kR Tryz.func7 kR
  (dT kR) (by unfold Func.isWrapper;first|(rw[if_pos (by decide+kernel)];kernel_rfl)|(rw[if_neg (by decide+kernel)];exact⟨rfl,rfl⟩))
  (fun z u H enc _ F=>by rw[OpenClaim.pre_eq_preRow];exact LJ z u H enc F)
theorem plain(f:FuncId)(u:Func)(E:Tryz.pinned.checked.prog.funcNamed "oriel/oriellaw21.ReachRows" =some f)(z:Tryz.pinned.checked.prog.funcs[f]?=some u):
  false=Tryz.pinned.checked.prog.looks []/\∀(j:Nat) t,u.params[j]?=some t->Tryz.pinned.checked.prog.wantsStandIn t=false:=by
 obtain rfl:f=7:=Option.some.inj ((show prog.funcNamed "oriel/oriellaw21.ReachRows" =some 7 from kR).symm.trans E) |>.symm;obtain rfl:u=Tryz.f7:=(Option.some.inj (Tryz.func7.symm.trans z)).symm;refine⟨kR,fun j t D=>?_⟩;rw[Tryz.params7]at D;obtain rfl:t=25:=by simpa using Array.mem_of_getElem? D
 exact(show prog.wantsStandIn 25=false from kR)
theorem cardUpto:Rows.ReachRowsUptoCardSaid:=
 Claim7.holds_tied_plain_at .later [] _ _ _ _ Rx (fun _ h=>by cases h) kR (fun _ h=>by cases h) reachRowsUpto_row_tie rfl ⟨rfl,rfl⟩ kR rfl plain kR
end Go.Proofs.YtofbhlhamfkljaaGreatDoor.reachRows
namespace Go.Proofs.YtofbhlhamfkljaaGreatDoor
open Go Go.RowKit
open Go.Proofs.Tryz (prog)
theorem reachRows_holds:Rows.ReachRowsUptoCardSaid:=reachRows.cardUpto
end Go.Proofs.YtofbhlhamfkljaaGreatDoor
namespace Go.Proofs.YtofbhlhamfkljaaGreatDoor.Ve
open Go Go.RowKit
open Go.Proofs.Tryz (prog)
def iU:List EvD->Nat
 |[]=>0
 |e::l=>(if e.kind=3 then 0 else 1)+iU l
theorem mI:∀a b,iU (a++b)=iU a+iU b
 |[],b=>by rw[List.nil_append,iU,Nat.zero_add]
 |e::a,b=>by rw[List.cons_append,iU,iU,mI a b];omega
theorem NC:∀l,iU l<=l.length
 |[]=>lR
 |e::l=>by have:=NC l;rw[iU,List.length_cons];split<;>omega
def kc:List EvD->Int->Nat
 |[],_=>0
 |e::r,n=>if d7 n e.kind=0 then 1 else 1+kc r (d7 n e.kind)
theorem Nz:∀l n,kc l n<=l.length
 |[],n=>lR
 |e::l,n=>by have:=Nz l (d7 n e.kind);rw[kc,List.length_cons];split<;>omega
abbrev SI:t7:=ptA SZ [1,1,0,1,0,0]
abbrev SJ:t7:=ptA Ta [1,1,0,1,0,0]
theorem JD(H0:N7)(lo:Nat)(v:Value)(l:List EvD)(hv:qY H0 lo v l)(hn:l.length<=1000000)(u:Nat)(ha:u<=l.length):
  ∀U e H2,(∃i:Nat,U=u-i/\i<=u/\e.get 0=v/\e.get 1=iV u/\e.get 5=iV (iU (l.take i))/\e.get 6=iV i/\H2=H0)->
  w7 (LE prog t6 (.loop SI) e H2) (fun o e H2=>o= .exit 0/\e.get 5=iV (iU (l.take u))/\H2=H0):=by
 refine i8 _ _ ?_;rintro U e H2 ⟨i,hk,hi,O,z,S,X,rfl⟩;rcases b:decide ((i:Int)<u)with _|_
 .have a1:=dF b;obtain rfl:i=u:=oM;refine J3 z X b ?_;exact i9 ⟨rfl,S,rfl⟩
 .have a1:=dT b;obtain⟨ev,he,hd⟩:=S6 (l:=l) (i:=i) oM;obtain⟨be,oe,ce,a5,a4,aa,ac,rfl,a3,D,a6,a2,_⟩:=DS hv he;have ke:=Q3 (k:=0) oM a2;rw[Nat.add_zero]at ke;have ht:l.take (i+1)=l.take i++[ev]:=by rw[List.take_add_one,he];rfl
  have E:=NC (l.take i);rw[List.length_take]at E;rcases J:decide (ev.kind=3)with _|_
  .have W:=dF J;refine J9 O z S X b D ke J @wrap_small ?_;exact i4 (U-1) oM ⟨i+1,oM,oM,O,z,by rw[ht,mI];show iV _=iV _;rw[iU,if_neg W,iU];congr 1,rfl,rfl⟩
  .have W:=dT J;refine J9 O z S X b D ke J @wrap_small ?_;exact i4 (U-1) oM ⟨i+1,oM,oM,O,z,by rw[ht,mI,iU,if_pos W,iU];exact S,rfl,rfl⟩
theorem Su(H:N7)(lo:Nat)(v:Value)(l:List EvD)(J:lo<=H.next)(U:qY H lo v l)(O:l.length<=1000000)(u:Nat)(E:u<=l.length):CL prog t6 27 [v,iV u] H=some (.int .i64 (iU (l.take u)),none):=by
 rw[j7 SZ rfl _ sM];refine J1 ty3 ?_;refine j8 (F:=fun z=>u5 _ _ _ (u9 (inBlock 0 z) _)=_) (JD ⟨H.bs,H.next⟩ lo v l (U.mono (fun _ _=>rfl) lR) O u E u _ _ ⟨0,rfl,oM,rfl,rfl,rfl,rfl,rfl⟩) ?_;rintro o e' H' ⟨S,D,rfl⟩;exact J2 S D trivial
theorem KO(H0:N7)(lo:Nat)(v:Value)(l:List EvD)(hv:qY H0 lo v l)(hn:l.length<=1000000)(r:Nat):
  ∀kk e H2,(∃(i:Nat)(n:Int),kk=l.length-i/\i<=l.length/\ -(i:Int)<=n/\n<=i/\e.get 0=v/\e.get 5=iV n/\e.get 6=iV i/\i+kc (l.drop i) n=r/\H2=H0)->
  w7 (LE prog t6 (.loop SJ) e H2) (fun o e H2=>H2=H0/\((o= .exit 0/\e.get 0=v/\r=l.length)\/(o= .ret/\e.get 4=iV r))):=by
 refine i8 _ _ ?_;rintro kk e H2 ⟨i,n,hk,hi,a9,b0,E,U,W,u,rfl⟩;obtain⟨va,vc,a4⟩:=hv.slice;subst a4;rcases b:decide ((i:Int)<l.length)with _|_
 .have a1:=dF b;rw[dN oM,kc]at u;refine J3 E W b ?_;exact i9 ⟨rfl,.inl ⟨rfl,E,oM⟩⟩
 .have a1:=dT b;obtain⟨ev,he,hd⟩:=S6 (l:=l) (i:=i) oM;rw[hd,kc]at u;obtain⟨be,oe,ce,a7,a6,aa,ac,a3,a5,D,a8,a2,_⟩:=DS hv he;cases a3;have X:=Q3 (k:=0) oM a2;rw[Nat.add_zero]at X;rcases S:decide (ev.kind=1)with _|_
  .have e1:=dF S;rcases O:decide (ev.kind=3)with _|_
   .have e3:=dF O;have J:d7 n ev.kind=n:=by rw[d7,if_neg e1,if_neg e3]
    rw[J]at u;rcases z:decide (n=0)with _|_
    .rw[if_neg (dF z)]at u;refine J10 E U W b D X S O z @wrap_small ?_;exact i4 (kk-1) oM ⟨i+1,n,oM,oM,oM,oM,E,U,rfl,oM,rfl⟩
    .rw[if_pos (dT z)]at u;refine J10 E U W b D X S O z @wrap_small ?_;exact z9 ⟨rfl,.inr ⟨rfl,by rw[<-u];rfl⟩⟩
   .have e3:=dT O;have J:d7 n ev.kind=n-1:=by rw[d7,if_neg e1,if_pos e3]
    rw[J]at u;rcases z:decide (n-1=0)with _|_
    .rw[if_neg (dF z)]at u;refine J10 E U W b D X S O z @wrap_small ?_;exact i4 (kk-1) oM ⟨i+1,n-1,oM,oM,oM,oM,E,rfl,rfl,oM,rfl⟩
    .rw[if_pos (dT z)]at u;refine J10 E U W b D X S O z @wrap_small ?_;exact z9 ⟨rfl,.inr ⟨rfl,by rw[<-u];rfl⟩⟩
  .have e1:=dT S;have O:decide (ev.kind=3)=false:=decide_eq_false oM;have J:d7 n ev.kind=n+1:=by rw[d7,if_pos e1]
   rw[J]at u;rcases z:decide (n+1=0)with _|_
   .rw[if_neg (dF z)]at u;refine J10 E U W b D X S O z @wrap_small ?_;exact i4 (kk-1) oM ⟨i+1,n+1,oM,oM,oM,oM,E,rfl,rfl,oM,rfl⟩
   .rw[if_pos (dT z)]at u;refine J10 E U W b D X S O z @wrap_small ?_;exact z9 ⟨rfl,.inr ⟨rfl,by rw[<-u];rfl⟩⟩
theorem Tg(H:N7)(lo:Nat)(v:Value)(l:List EvD)(U:lo<=H.next)(E:qY H lo v l)(W:l.length<=1000000)(i:Nat)(S:i<=l.length):CL prog t6 28 [v,iV i] H=some (.int .i64 ((i+kc (l.drop i) 0:Nat):Int),none):=by
 rw[j7 Ta rfl _ sM];obtain⟨va,vc,D⟩:=E.slice;subst D;refine J1 ty3 ?_;refine j8 (F:=fun z=>u5 _ _ _ (u9 (inBlock 0 z) _)=_) (KO ⟨H.bs,H.next⟩ lo _ l (E.mono (fun _ _=>rfl) lR) W (i+kc (l.drop i) 0) (l.length-i) _ _ ⟨i,0,rfl,S,oM,oM,rfl,rfl,rfl,rfl,rfl⟩) ?_;rintro o e' H' ⟨rfl,⟨u,J,X⟩|⟨u,O⟩⟩
 .refine J2 u J ?_;rw[X]
 .exact J2 u O trivial
theorem Qf(x:SoD):aP x x=true:=by simp [aP]
theorem RS{α:Type}(p:α->Bool):∀(l:List α)(k:Nat)(i:Nat)(x:α),l[k]?=some x->p x=true->(∀j y,j<k->l[j]?=some y->p y=false)->ixG p l i=(i:Int)+k
 |[],k,i,x,h,_,_=>by simp at h
 |z::l,0,i,x,h,hp,_=>by
  simp at h;subst h;rw[ixG,if_pos hp];simp
 |z::l,k+1,i,x,h,hp,hn=>by
  have D:=hn 0 z oM rfl;rw[ixG,if_neg (by rw[D];exact Bool.false_ne_true),RS p l k (i+1) x (by simpa using h) hp fun j y E u=>hn (j+1) y oM (by simpa using u)];omega
theorem Tn{r:ReD}{m:Int}(z:R4 r m){k:Nat}{x:SoD}(u:r.sorts[k]?=some x):ixG (fun y=>aP x y) r.sorts 0=k:=by
 rw[RS _ r.sorts k 0 x u (Qf x) fun j y D E=>z.apart j k y x D E u];omega
theorem Ba(s:StD)(X:List EvD):∀a:List EvD,∃A,(whF s (a++X)).2=A++(whF s X).2/\A.length=iU a
 |[]=>⟨[],rfl,rfl⟩
 |e::a=>by
  obtain⟨A,z,D⟩:=Ba s X a;rw[List.cons_append,whF,iU];by_cases u:e.kind=3
  .rw[if_pos u,if_pos u];exact⟨A,z,oM⟩
  .rw[if_neg u,if_neg u];split
   .exact⟨_::A,by simp only[z,List.cons_append];rfl,by rw[List.length_cons,D];omega⟩
   .exact⟨_::A,by simp only[z,List.cons_append];rfl,by rw[List.length_cons,D];omega⟩
theorem Sn(s:StD):∀l:List EvD,(whF s l).2.length=iU l:=fun l=>by
 obtain⟨A,u,z⟩:=Ba s [] l;rw[List.append_nil]at u;rw[u,List.length_append,z];rfl
theorem EE(s:StD){e:EvD}{l:List EvD}(h:e.kind≠3):∃x t,(whF s (e::l)).2=x::t/\(whF s (e::l)).1.headD soZ=x/\x.1=true/\x.2.1=decide (e.kind=2):=by
 rw[whF,if_neg h];split
 .exact⟨_,_,rfl,rfl,rfl,rfl⟩
 .exact⟨_,_,rfl,rfl,rfl,rfl⟩
theorem vk(s:StD){l:List EvD}{j:Nat}{e:EvD}(J:l[j]?=some e)(h:e.kind≠3):(whF s l).2[iU (l.take j)]?=some ((whF s (l.drop j)).1.headD soZ):=by
 obtain⟨A,u,z⟩:=Ba s (l.drop j) (l.take j);rw[List.take_append_drop]at u;obtain⟨O,E⟩:=gS J;have D:l.drop j=e::l.drop (j+1):=by rw[List.drop_eq_getElem_cons O,E]
 obtain⟨x,t,S,U,_⟩:=EE s (l:=l.drop (j+1)) h;rw[u,D,S,U,<-z,List.getElem?_append_right lR,Nat.sub_self];rfl
theorem RG(s:StD){e:EvD}{l:List EvD}(h:e.kind=3):(whF s (e::l)).1.headD soZ=soZ:=by rw[whF,if_pos h];rfl
theorem rE(s:StD):∀(w:List EvD)(n:Nat),1<=n->dep n w<=0->(whF s w).1.drop n=(whF s (w.drop (kc w n))).1
 |[],n,h1,h=>by exfalso;simp only[dep,List.foldl_nil]at h;omega
 |e::w,n,h1,h=>by
  have z:dep (d7 n e.kind) w<=0:=h;rw[whF,kc];by_cases E:e.kind=3
  .have u:d7 n e.kind=((n-1:Nat):Int):=by rw[d7,if_neg oM,if_pos E];omega
   rw[if_pos E,u];rw[u]at z;obtain⟨k,rfl⟩:∃k,n=k+1:=⟨n-1,oM⟩
   rw[Nat.add_sub_cancel]at z ⊢;by_cases O:k=0
   .subst O;rw[if_pos (show((0:Nat):Int)=0 from rfl)];rfl
   .rw[if_neg oM,Nat.add_comm 1];exact rE s w k oM z
  .rw[if_neg E];obtain⟨k,rfl⟩:∃k,n=k+1:=⟨n-1,oM⟩
   by_cases D:e.kind=1
   .have u:d7 ((k+1:Nat):Int) e.kind=((k+2:Nat):Int):=by rw[d7,if_pos D];omega
    rw[u]at z;rw[if_pos D,u,if_neg oM,Nat.add_comm 1];have J:=rE s w (k+2) oM z;rw[List.drop_succ_cons,List.drop_succ_cons,<-J,<-List.drop_one,<-List.drop_one,List.drop_drop,List.drop_drop]
    congr 1;omega
   .have u:d7 ((k+1:Nat):Int) e.kind=((k+1:Nat):Int):=by rw[d7,if_neg D,if_neg E]
    rw[u]at z;rw[if_neg D,u,if_neg oM,Nat.add_comm 1];have J:=rE s w (k+1) oM z;rw[List.drop_succ_cons,List.drop_succ_cons,<-J,<-List.drop_one,List.drop_drop]
    congr 1;omega
theorem Ny:∀(w:List EvD)(n:Nat),1<=n->dep n w<=0->dep 0 (w.drop (kc w n))=dep n w
 |[],n,h1,h=>by exfalso;simp only[dep,List.foldl_nil]at h;omega
 |e::w,n,h1,h=>by
  have D:dep (d7 n e.kind) w<=0:=h;rw[kc,show dep n (e::w)=dep (d7 n e.kind) w from rfl];by_cases u:d7 n e.kind=0
  .rw[if_pos u,u];rfl
  .rw[if_neg u,Nat.add_comm 1,List.drop_succ_cons];have z:1<=d7 n e.kind:=by unfold d7 at u ⊢;split<;>(try split)<;>omega
   have:=Ny w (d7 n e.kind).toNat oM (by rw[Int.toNat_of_nonneg oM];exact D);rw[Int.toNat_of_nonneg oM]at this;exact this
theorem ot:∀(w:List EvD)(a b:Int),dep (a+b) w=a+dep b w
 |[],a,b=>rfl
 |e::w,a,b=>by
  have:d7 (a+b) e.kind=a+d7 b e.kind:=by unfold d7;split<;>(try split)<;>omega
  show dep (d7 (a+b) e.kind) w=a+dep (d7 b e.kind) w;rw[this,ot w]
def stA(s:StD)(l:List EvD)(j:Nat):SoD:=(whF s (l.drop j)).1.headD soZ
def eL(l:List EvD)(i:Nat):Nat:=i+kc (l.drop i) 0
theorem qn{l:List EvD}(h:v8 l=true){i:Nat}{e e':EvD}(O:l[i]?=some e)(D:l[i+1]?=some e')(W:e.kind=2):e'.kind≠2:=by
 obtain⟨hl,he⟩:=gS O;obtain⟨E,z⟩:=gS D;have ht:l=(l.take i++[e])++e'::l.drop (i+2):=by
  have S:l.take i++[e]=l.take (i+1):=by rw[List.take_add_one,O];rfl
  rw[S,<-z,<-List.drop_eq_getElem_cons E,List.take_append_drop]
 have J:=om (l.take i++[e]) (e'::l.drop (i+2)) none 0;rw[<-ht]at J;rw[v8,J,Bool.and_eq_true]at h;have u:=h.2;have U:∀(a:List EvD)(p:Option Int),Cp p (a++[e])=some e.kind:=fun a=>by
  induction a with
  |nil=>intro p;rfl
  |cons x a ih=>intro p;exact ih _
 rw[U,bGo]at u;split at u
 .cases u
 .rename_i X;intro q;apply X;rw[W,q];simp
theorem Jv{e:EvD}(h:gI e=true):e.kind=1\/e.kind=2\/e.kind=3:=by
 by_cases u:e.kind=1
 .exact .inl u
 .by_cases z:e.kind=2
  .exact .inr (.inl z)
  .by_cases D:e.kind=3
   .exact .inr (.inr D)
   .rw[gI,if_neg u,if_neg z,if_neg D]at h;cases h
theorem Aw(s:StD)(l:List EvD){j:Nat}(h:l.length<=j):stA s l j=soZ:=by rw[stA,dN h];rfl
theorem eJ(s:StD){l:List EvD}{j:Nat}{e:EvD}(z:l[j]?=some e)(h:e.kind=3):stA s l j=soZ:=by
 obtain⟨D,u⟩:=gS z;rw[stA,List.drop_eq_getElem_cons D,u,RG s h]
theorem uC(s:StD){l:List EvD}{j:Nat}{e:EvD}(z:l[j]?=some e)(h:e.kind≠3):(stA s l j).1=true/\(stA s l j).2.1=decide (e.kind=2):=by
 obtain⟨D,u⟩:=gS z;obtain⟨x,t,_,E,J,O⟩:=EE s (e:=e) (l:=l.drop (j+1)) h;rw[stA,List.drop_eq_getElem_cons D,u,E];exact⟨J,O⟩
theorem pG(s:StD){l:List EvD}(h:v8 l=true)(h0:dep 0 l=0){i:Nat}{e:EvD}(hi:l[i]?=some e)(z:e.kind≠3):
  stA s l i=I4 s e (if e.kind=1 then stA s l (i+1) else soZ) (stA s l (eL l i))/\(whF s (l.drop (i+1))).1.drop (if e.kind=1 then 1 else 0)=(whF s (l.drop (eL l i))).1/\i<eL l i/\eL l i<=l.length/\(0<i->eL l i<l.length)/\(i=0->eL l i=l.length):=by
 obtain⟨hl,he⟩:=gS hi;have W:l.drop i=e::l.drop (i+1):=by rw[List.drop_eq_getElem_cons hl,he]
 obtain⟨k0,kr,k1,k2,k3⟩:=aE h hi;have D:∀j,dep 0 (l.take j)+dep 0 (l.drop j)=0:=fun j=>by
  have:=sQ 0 (l.take j) (l.drop j);rw[List.take_append_drop,h0]at this;have h2:=ot (l.drop j) (dep 0 (l.take j)) 0;rw[Int.add_zero]at h2;omega
 have a2:eL l i<=l.length:=by
  have:=Nz (l.drop i) 0;rw[List.length_drop]at this;rw[eL];omega
 by_cases u:e.kind=1
 .have hs:d7 0 e.kind=1:=by rw[u];rfl
  have X:eL l i=i+1+kc (l.drop (i+1)) 1:=by rw[eL,W,kc,hs,if_neg oM];omega
  have a3:d7 (dep 0 (l.take i)) e.kind=dep 0 (l.take i)+1:=by rw[d7,if_pos u]
  rw[a3]at k3;have a5:=D (i+1);have a4:=ot (l.drop (i+1)) 1 0;rw[Int.add_zero]at a4;have J:dep ((1:Nat):Int) (l.drop (i+1))<=0:=by show dep 1 _<=0;omega
  have E:=rE s (l.drop (i+1)) 1 lR J;have O:=Ny (l.drop (i+1)) 1 lR J;rw[List.drop_drop,show i+1+kc (l.drop (i+1)) ((1:Nat):Int)=eL l i from X.symm]at E O;have S:dep 0 (l.drop (eL l i))=dep 1 (l.drop (i+1)):=O;rw[if_pos u,if_pos u];refine⟨?_,E,oM,a2,fun hp=>?_,fun hz=>?_⟩
  .rw[stA,W,whF,if_neg z,if_pos u];show I4 s e _ _=I4 s e _ _;rw[stA,stA,<-E,List.drop_one]
  .have:=k2 hp;by_cases U:eL l i<l.length
   .exact U
   .rw[dN oM]at S;have:dep 0 ([]:List EvD)=0:=rfl;omega
  .subst hz;have a6:dep 0 (l.take 0)=0:=rfl;by_cases U:eL l 0<l.length
   .obtain⟨e',a1,_⟩:=S6 U;obtain⟨_,_,_,q2,_⟩:=aE h a1;have:=q2 oM;have:=D (eL l 0);omega
   .omega
 .have hs:d7 0 e.kind=0:=by rw[d7,if_neg u,if_neg z]
  have X:eL l i=i+1:=by rw[eL,W,kc,hs,if_pos rfl]
  rw[if_neg u,if_neg u,X];refine⟨?_,rfl,oM,oM,fun hp=>?_,fun hz=>absurd (k1 hz) u⟩
  .rw[stA,W,whF,if_neg z,if_neg u];rfl
  .by_cases U:i+1<l.length
   .exact U
   .exact absurd (jh h h0 hi oM) z
theorem pF{u:List SoD}{x:SoD}(h:x∈u):∃a,a<u.length/\u[a]?=some x/\u.getD a soZ=x:=by
 obtain⟨a,z,D⟩:=List.getElem_of_mem h;have:u[a]?=some x:=by rw[List.getElem?_eq_getElem z,D]
 exact⟨a,z,this,by rw[List.getD_eq_getElem?_getD,this];rfl⟩
theorem zK{z:List SoD}{u:Int}{a b:Nat}{x:SoD}(U:a<z.length)(W:b<z.length)(O:z.getD b soZ=x)(h:u=2->a=0/\x.2.1=false):R5 z u a b=true:=by
 have D:z.getD b (false,false,eB)=x:=O;simp only[R5,knB,Bool.and_eq_true,Bool.or_eq_true,Bool.not_eq_true',decide_eq_false_iff_not,decide_eq_true_eq,Int.toNat_natCast,D];refine⟨⟨⟨oM,oM⟩,⟨oM,oM⟩⟩,?_⟩;by_cases E:u=2
 .obtain⟨S,J⟩:=h E;exact .inr ⟨oM,J⟩
 .exact .inl E
theorem wG{q:Q}(E:OkD false q){r:ReD}(hm:kV q=some r){m:Int}(S:R4 r m){l:List EvD}(h:v8 l=true)(h0:dep 0 l=0):∀(n j:Nat),j+n=l.length->∀x∈(whF r.strat (l.drop j)).1,x∈r.sorts
 |0,j,hj,x,u=>by
  rw[dN oM]at u;rw[List.mem_singleton.1 u];exact mG S.s0
 |n+1,j,hj,x,u=>by
  have hz:soZ∈r.sorts:=mG S.s0;obtain⟨e,W,hd⟩:=S6 (l:=l) (i:=j) oM;have J:=wG E hm S h h0 n (j+1) oM;obtain⟨k0,kr,k1,k2,k3⟩:=aE h W;have D:∀t:List SoD,(∀x∈t,x∈r.sorts)->t.headD soZ∈r.sorts:=fun t ht=>by
   cases t with
   |nil=>exact hz
   |cons y t=>exact ht y sM
  rw[hd,whF]at u;by_cases U:e.kind=3
  .rw[if_pos U]at u;rcases List.mem_cons.1 u with rfl|u
   .exact hz
   .exact J x u
  .rw[if_neg U]at u;have a2:=pG r.strat h h0 W U;by_cases e1:e.kind=1
   .rw[if_pos e1]at u;rcases List.mem_cons.1 u with rfl|u
    .obtain⟨a,ha,_,qa⟩:=pF (D _ J);obtain⟨b,O,_,X⟩:=pF (D (whF r.strat (l.drop (j+1))).1.tail fun y hy=>J y (List.mem_of_mem_tail hy));have:=yH E hm (e:=e) (.inl e1) ha O (zK ha O rfl fun k=>oM);rw[qa,X]at this;exact this
    .exact J x (List.mem_of_mem_tail (List.mem_of_mem_tail u))
   .have e2:e.kind=2:=by rcases Jv kr with q|q|q<;>omega
    rw[if_neg e1]at u;rcases List.mem_cons.1 u with rfl|u
    .obtain⟨b,O,_,X⟩:=pF (D _ J);have l0:0<r.sorts.length:=(gS S.s0).1;have a1:j+1<l.length:=by
      by_cases hq:j+1<l.length
      .exact hq
      .exact absurd (jh h h0 W oM) U
     obtain⟨e',z,_⟩:=S6 a1;have ht:(stA r.strat l (j+1)).2.1=false:=by
      by_cases q3:e'.kind=3
      .rw[eJ _ z q3];rfl
      .rw[(uC r.strat z q3).2];exact decide_eq_false (qn h W z e2)
     have:=yH E hm (e:=e) (.inr e2) l0 O (zK l0 O X fun _=>⟨rfl,ht⟩);rw[X,List.getD_eq_getElem?_getD,S.s0]at this;exact this
    .exact J x (List.mem_of_mem_tail u)
def nm(a:AtD):ByteArray×ByteArray:=(a.space,a.loc)
theorem FI(x:ByteArray×ByteArray)(l:List AtD):zO x (l.map nm)=l.any fun a=>decide (x=nm a):=by
 rw[zO,List.any_map];rfl
theorem Fe(a b:AtD):(decide (a.space=b.space)&&decide (a.loc=b.loc))=decide (nm a=nm b):=by
 rw[<-Bool.decide_and];exact decide_eq_decide.2 (by rw[nm,nm,Prod.mk.injEq])
theorem yQ(H0:N7)(lo:Nat)(p:Option Addr)(c pb:Nat)(a3:LV)(l:List AtD)(hn:l.length<=1048576)(hv:SlI H0 lo 3 AtR (.slice p l.length c) l)(g1:H0.get pb=cE a3 1)(k1:a3[3]?=some (.slice p l.length c))(i:Nat)(x:AtD)(hx:l[i]?=some x)(r:Bool):
  ∀k e H2,(∃j:Nat,k=i-j/\j<=i/\e.get 1=pT pb/\e.get 4=iV i/\e.get 5=iV j/\H2=H0/\((l.take i).drop j).any (fun a=>decide (nm x=nm a))=r)->
  w7 (LE prog t6 (.loop Nw) e H2) (fun o e H2=>H2=H0/\((o= .exit 2/\r=false/\e.get 1=pT pb/\e.get 4=iV i)\/(o= .ret/\e.get 2= .bool false/\r=true))):=by
 have hi:i<l.length:=(gS hx).1;refine i8 _ _ ?_;rintro k e H2 ⟨j,hk,hj,f1,O,f5,hH,J⟩;subst hH;rcases b:decide ((j:Int)<i)with _|_
 .have a8:=dF b;have:(l.take i).drop j=[]:=dN (by rw[List.length_take];omega);rw[this,List.any_nil]at J;refine J3 O f5 b ?_;exact i9 ⟨rfl,.inl ⟨rfl,J.symm,f1,O⟩⟩
 .have a8:=dT b;obtain⟨y,hy,a9⟩:=S6 (l:=l.take i) (i:=j) (by rw[List.length_take];omega);have X:l[j]?=some y:=by rw[List.getElem?_take,if_pos oM]at hy;exact hy
  rw[a9,List.any_cons]at J;obtain⟨b1,E,q1,u,w1,e1,_,z,b4⟩:=rj (hv.mono (fun _ _=>rfl) lR (fun _ _ h=>h.1)) hx;obtain⟨b2,o2,q2,a5,w2,e2,_,S,b5⟩:=rj (hv.mono (fun _ _=>rfl) lR (fun _ _ h=>h.1)) X;obtain⟨rfl,rfl⟩:p=some ⟨b1,E,none⟩/\c=q1:=by simpa using e1
  obtain⟨⟨rfl,rfl⟩,rfl⟩:(b1=b2/\E=o2)/\c=q2:=by simpa using e2
  rw[z]at S;obtain⟨rfl,rfl⟩:u=a5/\w1=w2:=by simpa using S
  obtain⟨bx,ox,cx,a6,wx,ex,_,U,b6,b0,_⟩:=hv.at_ hx;obtain⟨a4,oy,cy,a7,wy,ey,_,W,b7,b3,_⟩:=hv.at_ X;obtain⟨⟨rfl,rfl⟩,rfl⟩:(b1=bx/\E=ox)/\c=cx:=by simpa using ex
  obtain⟨⟨rfl,rfl⟩,rfl⟩:(b1=a4/\E=oy)/\c=cy:=by simpa using ey
  rw[z]at U W;obtain⟨rfl,rfl⟩:u=a6/\w1=wx:=by simpa using U
  obtain⟨rfl,rfl⟩:u=a7/\w1=wy:=by simpa using W
  have a1:ldC (some true) (some 2) (E+i*3) u=some (.agg #[.string x.space,.string x.loc]):=by
   refine cq oM ?_;have:((u.drop (E+i*3)).take 3).take 2=[.string x.space,.string x.loc]:=by rw[b0];rfl
   rw[List.take_take]at this;exact this
  have a2:ldC (some true) (some 2) (E+j*3) u=some (.agg #[.string y.space,.string y.loc]):=by
   refine cq oM ?_;have:((u.drop (E+j*3)).take 3).take 2=[.string y.space,.string y.loc]:=by rw[b3];rfl
   rw[List.take_take]at this;exact this
  have nt:(i:Int).toNat=i:=tN i;have b8:(j:Int).toNat=j:=tN j;have D:decide (nm y=nm x)=decide (nm x=nm y):=decide_eq_decide.2 ⟨Eq.symm,Eq.symm⟩;rcases hq:decide (nm x=nm y)with _|_
  .rw[hq]at J;refine J13 f1 O f5 g1 k1 b z a1 a2 @Fe D hq @wrap_small ?_;exact i4 (k-1) oM ⟨j+1,oM,oM,f1,O,rfl,rfl,by rw[<-J];rfl⟩
  .rw[hq]at J;refine J12 f1 O f5 g1 k1 b z a1 a2 @Fe D hq ?_;exact z9 ⟨rfl,.inr ⟨rfl,rfl,by rw[<-J];rfl⟩⟩
theorem yh(H0:N7)(lo:Nat)(a5:lo<=H0.next)(p:Option Addr)(c pb:Nat)(U:LV)(l:List AtD)(hn:l.length<=1048576)(hv:SlI H0 lo 3 AtR (.slice p l.length c) l)(g1:H0.get pb=cE U 1)(k1:U[3]?=some (.slice p l.length c))(r:Bool):
  ∀k e H2,(∃i:Nat,k=l.length-i/\i<=l.length/\e.get 1=pT pb/\e.get 4=iV i/\H2=H0/\aGo ((l.take i).map nm) (l.drop i)=r)->
  w7 (LE prog t6 (.loop Jg) e H2) (fun o e H2=>H2=H0/\((o= .exit 0/\r=true)\/(o= .ret/\e.get 2= .bool false/\r=false))):=by
 refine i8 _ _ ?_;rintro k e H2 ⟨i,hk,hi,W,X,hH,D⟩;subst hH;rcases b:decide ((i:Int)<l.length)with _|_
 .have a4:=dF b;have:l.drop i=[]:=dN oM;rw[this,aGo]at D;refine J5 W X g1 k1 b ?_;exact i9 ⟨rfl,.inl ⟨rfl,D.symm⟩⟩
 .have a4:=dT b;obtain⟨x,hx,hd⟩:=S6 (l:=l) (i:=i) oM;rw[hd,aGo]at D;have O:=FI (nm x) (l.take i);have u:zO (x.space,x.loc) ((l.take i).map nm)=(l.take i).any fun a=>decide (nm x=nm a):=O;rw[u]at D;obtain⟨bx,ox,cx,E,wx,ex,_,J,a6,a1,z1,z2,z3⟩:=hv.at_ hx;obtain⟨rfl,rfl⟩:p=some ⟨bx,ox,none⟩/\c=cx:=by simpa using ex
  have S:ldC (some true) (some 2) (ox+i*3) E=some (.agg #[.string x.space,.string x.loc]):=by
   refine cq oM ?_;have:((E.drop (ox+i*3)).take 3).take 2=[.string x.space,.string x.loc]:=by rw[a1];rfl
   rw[List.take_take]at this;exact this
  have a2:E[ox+i*3+2]?=some (.string x.val):=by rw[Q3 (k:=2) oM a1];rfl
  have nt:(i:Int).toNat=i:=tN i;rcases h1:iQ x.space x.loc with _|_
  .refine J9 W X g1 k1 b J S @To h1 ?_;exact z9 ⟨rfl,.inr ⟨rfl,rfl,by rw[<-D,h1];simp⟩⟩
  rcases h2:aW x.val with _|_
  .refine J12 W X g1 k1 b J S a2 @To @S5 h1 h2 ?_;exact z9 ⟨rfl,.inr ⟨rfl,rfl,by rw[<-D,h2];simp⟩⟩
  refine J12 W X g1 k1 b J S a2 @To @S5 h1 h2 ?_;refine cY (F:=fun z=>u9 (inBlock 1 (inBlock 2 z)) _) (yQ H2 lo _ c pb U l hn hv g1 k1 i x hx ((l.take i).any fun a=>decide (nm x=nm a)) i _ _ ⟨0,rfl,oM,?_,?_,rfl,rfl,rfl⟩) ?_
  .exact W
  .exact X
  rintro o e' H' ⟨hH,⟨ho,hr,a3,g4⟩|⟨ho,g2,hr⟩⟩
  .refine J4 ho hH g4 @wrap_small ?_;refine i4 (k-1) oM ⟨i+1,oM,oM,a3,rfl,rfl,?_⟩;rw[<-D,hr,h1,h2];have:(l.take (i+1)).map nm=(l.take i).map nm++[(x.space,x.loc)]:=by
    rw[List.take_add_one,hx];simp [nm]
   rw[this];simp
  .refine J2 ho hH ?_;exact z9 ⟨rfl,.inr ⟨rfl,g2,by rw[<-D,hr];simp⟩⟩
theorem Ck(H:N7)(lo:Nat)(cs:LV)(e:EvD)(a6:lo<=H.next)(hv:EvR H lo cs e):CL prog t6 42 [.agg cs.toArray] H=some (.bool (gI e),none):=by
 obtain⟨v,rfl,hv,a7,a8,a9,a4⟩:=hv;obtain⟨a,c,rfl⟩:=hv.slice;have n0:decide (((e.attrs.length:Nat):Int)=0)=decide (e.attrs.length=0):=decide_eq_decide.2 oM;have a1:decide ((32:Int)<((e.attrs.length:Nat):Int))= !decide (e.attrs.length<=32):=by
  rw[<-decide_not];exact decide_eq_decide.2 oM
 have a2:∀(e':Env)(H0:N7),H0=N7.push ⟨H.bs,H.next⟩ (bC [iV e.kind,.string e.space,.string e.loc,.slice a e.attrs.length c,.string e.text] 1)->(e'.get 1=pT H.next/\e'.get 4=iV 0)->
   u5 prog [ResultVar.tmp 2] H (u9 (inBlock 0 (LE prog t6 (.loop Jg) e' H0)) (LE prog t6 (.seq (.ops [⟨some 2,.assign (.const (.bool true)),none⟩]) .ret)))=some (.bool (aGo [] e.attrs),none):=by
  intro e' H0 a3 hg;have hS:i6 H.next H H0:=by rw[a3];exact i6.first H _
  have a5:H.next<=H0.low:=by rw[a3];exact lR
  refine j8 (F:=fun z=>u5 _ _ _ (u9 (inBlock 0 z) _)=_) (yh H0 lo (oN (hS.next)) a c H.next _ e.attrs a4 (hv.mono (fun j hj=>hS.get j oM) lR iF) (by rw[a3];exact j9) rfl (aGo [] e.attrs) e.attrs.length e' H0 ⟨0,rfl,oM,hg.1,hg.2,rfl,rfl⟩) ?_;rintro o e2 H' ⟨hH,⟨ho,hr⟩|⟨ho,h2,hr⟩⟩
  .exact J3 ho hr hH trivial
  .exact J4 ho h2 hr hH trivial
 rw[j7 KR rfl _ sM,gI];rcases E:(decide (e.space=eB)&&decide (e.loc=eB))with _|_
 .skip
  rcases D:decide (e.kind=2)with _|_
  .have J:=dF D;rcases O:decide (e.kind=3)with _|_
   .have W:=dF O;rcases U:decide (e.kind=1)with _|_
    .have u:=dF U;rw[if_neg u,if_neg J,if_neg W];exact J4 E U D O trivial
    .have u:=dT U;rw[if_pos u];rcases S:decide (e.text=eB)with _|_
     .exact J5 E U D O S trivial
     rcases t2:iQ e.space e.loc with _|_
     .exact J7 E U D O S t2 @To trivial
     rcases t3:decide (e.attrs.length<=32)with _|_
     .rw[gH,t3,Bool.and_false,Bool.and_false];exact J9 E U D O S t2 t3 a1 @To trivial
     rw[gH,t3,Bool.true_and,Bool.true_and,Bool.and_true];refine J9 E U D O S t2 t3 a1 @To ?_;exact a2 _ _ rfl ⟨rfl,rfl⟩
   .have W:=dT O;have u:¬e.kind=1:=oM;rw[if_neg u,if_neg J,if_pos W];rcases S:decide (e.text=eB)with _|_
    .exact J3 E D O trivial
    .exact J3 E D O trivial
  .have J:=dT D;have u:¬e.kind=1:=oM;rw[if_neg u,if_pos J];rcases S:decide (e.text=eB)with _|_
   .rcases t2:aW e.text with _|_
    .exact J2 E D trivial
    .exact J2 E D trivial
   .exact J2 E D trivial
 rcases X:decide (e.attrs.length=0)with _|_
 .skip
  rcases D:decide (e.kind=2)with _|_
  .have J:=dF D;rcases O:decide (e.kind=3)with _|_
   .have W:=dF O;rcases U:decide (e.kind=1)with _|_
    .have u:=dF U;rw[if_neg u,if_neg J,if_neg W];exact J6 E n0 X U D O trivial
    .have u:=dT U;rw[if_pos u];rcases S:decide (e.text=eB)with _|_
     .exact J7 E n0 X U D O S trivial
     rcases t2:iQ e.space e.loc with _|_
     .exact J9 E n0 X U D O S t2 @To trivial
     rcases t3:decide (e.attrs.length<=32)with _|_
     .rw[gH,t3,Bool.and_false,Bool.and_false];exact J11 E n0 X U D O S t2 t3 a1 @To trivial
     rw[gH,t3,Bool.true_and,Bool.true_and,Bool.and_true];refine J11 E n0 X U D O S t2 t3 a1 @To ?_;exact a2 _ _ rfl ⟨rfl,rfl⟩
   .have W:=dT O;have u:¬e.kind=1:=oM;rw[if_neg u,if_neg J,if_pos W];rcases S:decide (e.text=eB)with _|_
    .exact J5 E n0 X D O trivial
    .exact J5 E n0 X D O trivial
  .have J:=dT D;have u:¬e.kind=1:=oM;rw[if_neg u,if_pos J];rcases S:decide (e.text=eB)with _|_
   .rcases t2:aW e.text with _|_
    .exact J4 E n0 X D trivial
    .exact J4 E n0 X D trivial
   .exact J4 E n0 X D trivial
 .skip
  rcases D:decide (e.kind=2)with _|_
  .have J:=dF D;rcases O:decide (e.kind=3)with _|_
   .have W:=dF O;rcases U:decide (e.kind=1)with _|_
    .have u:=dF U;rw[if_neg u,if_neg J,if_neg W];exact J6 E n0 X U D O trivial
    .have u:=dT U;rw[if_pos u];rcases S:decide (e.text=eB)with _|_
     .exact J7 E n0 X U D O S trivial
     rcases t2:iQ e.space e.loc with _|_
     .exact J9 E n0 X U D O S t2 @To trivial
     rcases t3:decide (e.attrs.length<=32)with _|_
     .rw[gH,t3,Bool.and_false,Bool.and_false];exact J11 E n0 X U D O S t2 t3 a1 @To trivial
     rw[gH,t3,Bool.true_and,Bool.true_and,Bool.and_true];refine J11 E n0 X U D O S t2 t3 a1 @To ?_;exact a2 _ _ rfl ⟨rfl,rfl⟩
   .have W:=dT O;have u:¬e.kind=1:=oM;rw[if_neg u,if_neg J,if_pos W];rcases S:decide (e.text=eB)with _|_
    .exact J6 E n0 X D O S trivial
    .exact J6 E n0 X D O S trivial
  .have J:=dT D;have u:¬e.kind=1:=oM;rw[if_neg u,if_pos J];rcases S:decide (e.text=eB)with _|_
   .rcases t2:aW e.text with _|_
    .exact J7 E n0 X D S t2 @S5 trivial
    .exact J7 E n0 X D S t2 @S5 trivial
   .exact J5 E n0 X D S trivial
def GI(p:Option Int)(d:Int)(l:List EvD):Int:=if bGo p d l then dep d l else -1
theorem GO(H0:N7)(lo:Nat)(c7:lo<=H0.next)(v:Value)(l:List EvD)(hv:qY H0 lo v l)(hn:l.length<=2000000)(r:Int):
  ∀k e H2,(∃(i:Nat)(d:Int),k=l.length-i/\i<=l.length/\(i=0->d=0)/\ -(i:Int)<=d/\d<=64/\e.get 0=v/\e.get 3=iV d/\e.get 4=iV i/\H2=H0/\GI (F4 l i) d (l.drop i)=r)->
  w7 (LE prog t6 (.loop SL) e H2) (fun o e H2=>H2=H0/\((o= .exit 0/\e.get 3=iV r)\/(o= .ret/\e.get 2=iV (-1)/\r= -1))):=by
 refine i8 _ _ ?_;rintro k e H2 ⟨i,d,hk,hi,c5,d6,d8,f0,f3,f4,hH,fu⟩;subst hH;obtain⟨va,vc,d3⟩:=hv.slice;have a8:=f0;rw[d3]at a8;rcases b:decide ((i:Int)<l.length)with _|_
 .have c4:=dF b;have:l.drop i=[]:=dN oM;rw[this,GI,bGo]at fu;refine J3 a8 f4 b ?_;refine i9 ⟨rfl,.inl ⟨rfl,?_⟩⟩;rw[<-fu];exact f3
 have c4:=dT b;obtain⟨E,ha,hd⟩:=S6 (l:=l) (i:=i) oM;obtain⟨nb,o,c,cs,own,a6,d4,hg,c6,hr⟩:=hv.at_ ha;have J:=Ck H2 lo _ E c7 hr;obtain⟨av,d2,_⟩:=id hr;have D:=cq c6 rfl;have c0:cs[o+i*5]?=some (.int .i64 E.kind):=by have:=Q3 (k:=0) oM d2;simpa using this
 have nt:(i:Int).toNat=i:=tN i;have O:=f0;rw[a6]at O;rw[hd,GI,bGo]at fu;have c9:F4 l (i+1)=some E.kind:=by rw[F4,if_neg oM,Nat.add_sub_cancel,ha];rfl
 have U:∀x y:Bool,F6 prog .neq 4 (.bool x) (.bool y)=some (.bool (!(x==y))):=fun x y=>eI 4 x y ty4.2.2.2.2.2.2.1;have tt:(true==true)=true:=rfl;have tf:(true==false)=false:=rfl;have ft:(false==true)=false:=rfl;have ff:(false==false)=true:=rfl;have a3:∀(e':Env),e'.get 2=iV (-1)->(!gI E||(decide (F4 l i=none)&& !decide (E.kind=1))||(!decide (F4 l i=none)&&decide (d=0))||(decide (E.kind=2)&&decide (F4 l i=some 2)))=true->
   cQ k (fun k e z=>∃(i:Nat)(d:Int),k=l.length-i/\i<=l.length/\(i=0->d=0)/\ -(i:Int)<=d/\d<=64/\e.get 0=v/\e.get 3=iV d/\e.get 4=iV i/\z=H2/\GI (F4 l i) d (l.drop i)=r) (fun o e z=>z=H2/\((o= .exit 0/\e.get 3=iV r)\/(o= .ret/\e.get 2=iV (-1)/\r= -1))) .ret e' H2:=fun e' h h2=>
  z9 ⟨rfl,.inr ⟨rfl,h,by rw[<-fu,h2];rfl⟩⟩
 have a2:∀(e':Env),e'.get 0=v->e'.get 3=iV d->e'.get 4=iV i->(!gI E||(decide (F4 l i=none)&& !decide (E.kind=1))||(!decide (F4 l i=none)&&decide (d=0))||(decide (E.kind=2)&&decide (F4 l i=some 2)))=false->
   w7 (u9 (inBlock 1 (LE prog t6 SD e' H2)) (LE prog t6 SM)) (cQ k (fun k e z=>∃(i:Nat)(d:Int),k=l.length-i/\i<=l.length/\(i=0->d=0)/\ -(i:Int)<=d/\d<=64/\e.get 0=v/\e.get 3=iV d/\e.get 4=iV i/\z=H2/\GI (F4 l i) d (l.drop i)=r) (fun o e z=>z=H2/\((o= .exit 0/\e.get 3=iV r)\/(o= .ret/\e.get 2=iV (-1)/\r= -1)))):=by
  intro e' g0 g3 g4 c8;rw[c8]at fu;have a1:=g0;rw[a6]at a1;have a5:∀(e2:Env)(d':Int),d7 d E.kind=d'->d'<=64-> -((i+1:Nat):Int)<=d'->e2.get 0=v->e2.get 3=iV d'->e2.get 4=iV ((i:Int)+1)->cQ k (fun k e z=>∃(i:Nat)(d:Int),k=l.length-i/\i<=l.length/\(i=0->d=0)/\ -(i:Int)<=d/\d<=64/\e.get 0=v/\e.get 3=iV d/\e.get 4=iV i/\z=H2/\GI (F4 l i) d (l.drop i)=r) (fun o e z=>z=H2/\((o= .exit 0/\e.get 3=iV r)\/(o= .ret/\e.get 2=iV (-1)/\r= -1))) .normal e2 H2:=by
   intro e2 d' a9 q1 q2 k0 k3 k4;refine i4 (k-1) oM ⟨i+1,d',oM,oM,oM,q2,q1,k0,k3,k4,rfl,?_⟩;rw[<-fu,c9,GI,a9];simp only[bF];rw[if_neg (show¬64<d' from oM)];simp only[dep,List.foldl_cons,a9]
  rw[SD];rcases k1:decide (E.kind=1)with _|_
  .have a4:=dF k1;rcases k3:decide (E.kind=3)with _|_
   .have a7:=dF k3;have W:d7 d E.kind=d:=by rw[d7,if_neg a4,if_neg a7]
    have u:decide (64<d)=false:=decide_eq_false oM;refine J9 a1 g3 g4 hg c0 k1 k3 u @wrap_small ?_;exact a5 _ d W oM oM g0 g3 rfl
   .have a7:=dT k3;have W:d7 d E.kind=d-1:=by rw[d7,if_neg a4,if_pos a7]
    have u:decide (64<d-1)=false:=decide_eq_false oM;refine J9 a1 g3 g4 hg c0 k1 k3 u @wrap_small ?_;exact a5 _ (d-1) W oM oM g0 rfl rfl
  .have a4:=dT k1;have k3:decide (E.kind=3)=false:=decide_eq_false oM;have W:d7 d E.kind=d+1:=by rw[d7,if_pos a4]
   rcases u:decide (64<d+1)with _|_
   .have:=dF u;refine J9 a1 g3 g4 hg c0 k1 k3 u @wrap_small ?_;exact a5 _ (d+1) W oM oM g0 rfl rfl
   .have c3:=dT u;refine J9 a1 g3 g4 hg c0 k1 k3 u @wrap_small ?_;refine z9 ⟨rfl,.inr ⟨rfl,rfl,?_⟩⟩;rw[<-fu,W];simp only[bF];rw[if_pos c3];rfl
 rcases h1:gI E with _|_
 .rw[h1]at J;refine J6 O f4 b hg D J ?_;exact a3 _ rfl (by simp [h1])
 rw[h1]at J;rcases b2:decide ((i:Int)=0)with _|_
 .have h2:i≠0:=oN (dF b2);obtain⟨pe,b6⟩:∃a,l[i-1]?=some a:=⟨l[i-1]'oM,List.getElem?_eq_getElem oM⟩
  have S:F4 l i=some pe.kind:=by rw[F4,if_neg h2,b6];rfl
  obtain⟨b',o',c',cs',b9,b7,_,b0,d5,d1⟩:=hv.at_ b6;rw[a6]at b7;obtain⟨⟨rfl,rfl⟩,rfl⟩:(nb=b'/\o=o')/\c=c':=by simpa using b7
  rw[hg]at b0;obtain⟨rfl,rfl⟩:cs=cs'/\own=b9:=by simpa using b0
  obtain⟨pv,d0,_⟩:=d1;have b1:cs[o+(i-1)*5]?=some (.int .i64 pe.kind):=by have:=Q3 (k:=0) oM d0;simpa using this
  have b8:((i:Int)-1).toNat=i-1:=oM;rcases b3:decide (d=0)with _|_
  .rcases X:decide (E.kind=2)with _|_
   .refine J13 O f3 f4 b hg D J U b2 b3 X ff c0 ?_;exact a2 _ f0 f3 f4 (by simp [h1,S,b3,X])
   .rcases b5:decide (pe.kind=2)with _|_
    .refine J17 O f3 f4 b hg D J U b2 b3 X b5 ff c0 @wrap_small b8 b1 ?_;exact a2 _ f0 f3 f4 (by simp [h1,S,b3,X,dF b5])
    .refine J17 O f3 f4 b hg D J U b2 b3 X b5 ff c0 @wrap_small b8 b1 ?_;exact a3 _ rfl (by simp [h1,S,b3,X,dT b5])
  .refine J11 O f3 f4 b hg D J U b2 b3 tf ?_;exact a3 _ rfl (by simp [h1,S,b3])
 .have h2:i=0:=oN (dT b2);have b3:decide (d=0)=true:=decide_eq_true (c5 h2);have S:F4 l i=none:=by rw[F4,if_pos h2]
  rcases X:decide (E.kind=1)with _|_
  .refine J13 O f3 f4 b hg D J U b2 b3 X tt c0 ?_;exact a3 _ rfl (by simp [h1,S,X])
  .have b5:decide (E.kind=2)=false:=decide_eq_false (oN (dT X));refine J14 O f3 f4 b hg D J U b2 b3 X b5 tt c0 ?_;exact a2 _ f0 f3 f4 (by simp [h1,S,X,b5])
theorem QF(H:N7)(lo:Nat)(v:Value)(l:List EvD)(u:lo<=H.next)(W:qY H lo v l)(S:l.length<=2000000):CL prog t6 49 [v] H=some (.int .i64 (if v8 l then dep 0 l else -1),none):=by
 rw[j7 SE rfl _ sM];refine J1 @if_true.{1} ?_;refine j8 (F:=fun z=>u5 _ _ _ (u9 (inBlock 0 z) _)=_) (GO ⟨H.bs,H.next⟩ lo u v l (W.mono (fun _ _=>rfl) lR) S (if v8 l then dep 0 l else -1) l.length _ _ ⟨0,0,rfl,oM,fun _=>rfl,oM,oM,rfl,rfl,rfl,rfl,rfl⟩) ?_;rintro o e' H' ⟨E,⟨D,O⟩|⟨D,J,U⟩⟩
 .exact J3 D O E trivial
 .exact J4 D J U E trivial
theorem Bd(H0:N7)(lo:Nat)(v:Value)(l:List EvD)(hv:qY H0 lo v l)(hn:l.length<=2000000)(i:Nat)(S:EvD)(ha:l[i]?=some S)(n3:Int):
  ∀k e H2,(∃j:Nat,k=1048576-j/\j<=S.attrs.length/\e.get 0=v/\e.get 3=iV n3/\e.get 4=iV i/\e.get 5=iV j/\H2=H0)->
  w7 (LE prog t6 (.loop Nf) e H2) (fun o e H2=>H2=H0/\((o= .exit 2/\e.get 0=v/\e.get 3=iV n3/\e.get 4=iV i)\/(o= .ret/\e.get 2= .bool false))):=by
 refine i8 _ _ ?_;rintro k e H2 ⟨j,hk,hj,f0,f3,D,U,hH⟩;subst hH;have hi:i<l.length:=(gS ha).1;obtain⟨b,o,c,cs,own,aa,ac,a7,a9,hg,b9,a6,a5,c0,c4,c5,c6⟩:=DS hv ha;have c3:cs[o+i*5+3]?=some (.slice aa S.attrs.length ac):=by rw[Q3 (k:=3) oM a6];rfl
 have nt:(i:Int).toNat=i:=tN i;have u:=f0;rw[a7]at u;refine J5 u D U hg c3 ?_;rcases b1:decide ((j:Int)<S.attrs.length)with _|_
 .refine J4 u D U b1 ?_;exact i9 ⟨rfl,.inl ⟨rfl,f0,f3,D⟩⟩
 have b8:=dT b1;rcases b2:decide ((j:Int)<100)with _|_
 .refine J2 U b2 ?_;exact i9 ⟨rfl,.inl ⟨rfl,f0,f3,D⟩⟩
 obtain⟨z,a4⟩:∃a,S.attrs[j]?=some a:=⟨S.attrs[j]'oM,List.getElem?_eq_getElem oM⟩
 obtain⟨a3,o2,c2,O,b6,a8,b7,E,b0,W,_⟩:=a5.at_ a4;obtain⟨rfl,rfl⟩:aa=some ⟨a3,o2,none⟩/\ac=c2:=by simpa using a8
 have a0:O[o2+j*3]?=some (.string z.space):=by have:=Q3 (k:=0) oM W;simpa using this
 have a1:O[o2+j*3+1]?=some (.string z.loc):=by rw[Q3 (k:=1) oM W];rfl
 have a2:O[o2+j*3+2]?=some (.string z.val):=by rw[Q3 (k:=2) oM W];rfl
 have X:∀e',e'.get 2= .bool false->cQ k (fun k e J=>∃j:Nat,k=1048576-j/\j<=S.attrs.length/\e.get 0=v/\e.get 3=iV n3/\e.get 4=iV i/\e.get 5=iV j/\J=H2) (fun o e J=>J=H2/\((o= .exit 2/\e.get 0=v/\e.get 3=iV n3/\e.get 4=iV i)\/(o= .ret/\e.get 2= .bool false))) .ret e' H2:=fun e' h=>z9 ⟨rfl,.inr ⟨rfl,h⟩⟩;rcases b3:decide ((300:Int)<z.val.size)with _|_
 .rcases b4:decide ((100:Int)<z.loc.size)with _|_
  .rcases b5:decide ((100:Int)<z.space.size)with _|_
   .refine J14 u D U hg c3 b2 E a0 a1 a2 b3 b4 b5 @wrap_small ?_;exact i4 (k-1) oM ⟨j+1,oM,oM,f0,f3,D,rfl,rfl⟩
   .refine J13 u D U hg c3 b2 E a0 a1 a2 b3 b4 b5 ?_;exact X _ rfl
  .refine J11 u D U hg c3 b2 E a1 a2 b3 b4 ?_;exact X _ rfl
 .refine J9 u D U hg c3 b2 E a2 b3 ?_;exact X _ rfl
theorem Be(H0:N7)(lo:Nat)(v:Value)(l:List EvD)(hv:qY H0 lo v l)(hn:l.length<=2000000):
  ∀k e H2,(∃(i:Nat)(u:Int),k=l.length-i/\i<=l.length/\0<=u/\u<=2000000/\e.get 0=v/\e.get 3=iV u/\e.get 4=iV i/\H2=H0)->
  w7 (LE prog t6 (.loop Ng) e H2) (fun o e H2=>H2=H0/\((o= .exit 0/\∃u,e.get 3=iV u)\/(o= .ret/\e.get 2= .bool false))):=by
 refine i8 _ _ ?_;rintro k e H2 ⟨i,u,hk,hi,a8,a9,f0,X,f4,hH⟩;subst hH;obtain⟨va,vc,a3⟩:=hv.slice;have W:=f0;rw[a3]at W;rcases U:decide ((i:Int)<l.length)with _|_
 .refine J3 W f4 U ?_;exact i9 ⟨rfl,.inl ⟨rfl,u,X⟩⟩
 have a6:=dT U;rcases b2:decide (u<=400)with _|_
 .refine J5 W X f4 U b2 ?_;exact i9 ⟨rfl,.inl ⟨rfl,u,X⟩⟩
 have a1:=dT b2;obtain⟨E,ha⟩:∃a,l[i]?=some a:=⟨l[i]'oM,List.getElem?_eq_getElem oM⟩
 obtain⟨b,o,c,cs,own,aa,ac,a2,a4,hg,a7,J,a5,b0,b6,b7,b8⟩:=DS hv ha;have c1:cs[o+i*5+1]?=some (.string E.space):=by rw[Q3 (k:=1) oM J];rfl
 have c2:cs[o+i*5+1+1]?=some (.string E.loc):=by rw[Nat.add_assoc _ 1 1,Q3 (k:=2) oM J];rfl
 have c3:cs[o+i*5+3]?=some (.slice aa E.attrs.length ac):=by rw[Q3 (k:=3) oM J];rfl
 have c4:cs[o+i*5+4]?=some (.string E.text):=by rw[Q3 (k:=4) oM J];rfl
 have nt:(i:Int).toNat=i:=tN i;have D:=f0;rw[a2]at D;have O:∀e',e'.get 2= .bool false->cQ k (fun k e S=>∃(i:Nat)(u:Int),k=l.length-i/\i<=l.length/\0<=u/\u<=2000000/\e.get 0=v/\e.get 3=iV u/\e.get 4=iV i/\S=H2) (fun o e S=>S=H2/\((o= .exit 0/\∃u,e.get 3=iV u)\/(o= .ret/\e.get 2= .bool false))) .ret e' H2:=fun e' h=>z9 ⟨rfl,.inr ⟨rfl,h⟩⟩;rcases b3:decide ((300:Int)<E.text.size)with _|_
 .rcases b4:decide ((100:Int)<E.loc.size)with _|_
  .rcases b5:decide ((100:Int)<E.space.size)with _|_
   .refine J14 D X f4 hg c1 c2 c3 c4 U b2 b3 b4 b5 @wrap_small ?_;refine cY (F:=fun z=>u9 (inBlock 1 (inBlock 2 z)) _) (Bd H2 lo v l hv hn i E ha (u+E.attrs.length) 1048576 _ _ ⟨0,rfl,oM,?_,?_,?_,rfl,rfl⟩) ?_
    .exact f0
    .rfl
    .exact f4
    rintro o' e' H' ⟨hH,⟨ho,g0,g3,g4⟩|⟨ho,g2⟩⟩
    .refine J4 ho g4 @wrap_small hH ?_;exact i4 (k-1) oM ⟨i+1,u+E.attrs.length,oM,oM,oM,oM,g0,g3,rfl,rfl⟩
    .refine J2 ho hH ?_;exact O _ g2
   .refine J14 D X f4 hg c1 c2 c3 c4 U b2 b3 b4 b5 @wrap_small ?_;exact O _ rfl
  .refine J12 D X f4 hg c2 c3 c4 U b2 b3 b4 @wrap_small ?_;exact O _ rfl
 .refine J10 D X f4 hg c3 c4 U b2 b3 @wrap_small ?_;exact O _ rfl
theorem Iy(H:N7)(lo:Nat)(v:Value)(l:List EvD)(W:lo<=H.next)(O:qY H lo v l)(X:l.length<=2000000):∃t:Bool,CL prog t6 25 [v] H=some (.bool t,none):=by
 obtain⟨a,c,u⟩:=O.slice;have E:qY ⟨H.bs,H.next⟩ lo (.slice a l.length c) l:=by rw[<-u];exact O.mono (fun _ _=>rfl) lR
 rw[j7 KP rfl _ sM,u];refine J1 lQ ?_;refine j8 (F:=fun z=>∃t:Bool,u5 _ _ _ (u9 (inBlock 0 z) _)=some (.bool t,none)) (Be ⟨H.bs,H.next⟩ lo _ l E X l.length _ _ ⟨0,l.length,rfl,oM,oM,oM,rfl,rfl,rfl,rfl⟩) ?_;rintro o e' H' ⟨J,⟨D,n3,U⟩|⟨D,S⟩⟩
 .refine J3 D U J ?_;exact⟨_,rfl⟩
 .refine J3 D S J ?_;exact⟨_,rfl⟩
theorem RT{q:Q}(X:OkD false q){r:ReD}(hm:kV q=some r){m:Int}(D:R4 r m){l:List EvD}(h:v8 l=true)(h0:dep 0 l=0){i:Nat}{e:EvD}(J:l[i]?=some e)(z:e.kind≠3):
  ∃a b k:Nat,r.sorts[a]?=some (if e.kind=1 then stA r.strat l (i+1) else soZ)/\r.sorts[b]?=some (stA r.strat l (eL l i))/\r.sorts[k]?=some (stA r.strat l i)/\1<=k/\jC r e a b=k:=by
 have hz:soZ∈r.sorts:=mG D.s0;have E:∀j,stA r.strat l j∈r.sorts:=fun j=>by
  by_cases hj:j<=l.length
  .have:=wG X hm D h h0 (l.length-j) j oM;rw[stA];cases hq:(whF r.strat (l.drop j)).1 with
   |nil=>exact hz
   |cons y t=>rw[hq]at this;exact this y sM
  .rw[Aw _ _ oM];exact hz
 obtain⟨s1,_,s3,s4,s5,s6⟩:=pG r.strat h h0 J z;obtain⟨k0,kr,_⟩:=aE h J;have hf:(if e.kind=1 then stA r.strat l (i+1) else soZ)∈r.sorts:=by
  split
  .exact E _
  .exact hz
 obtain⟨a,ha,qa,pa⟩:=pF hf;obtain⟨b,hb,qb,pb⟩:=pF (E (eL l i));obtain⟨k,hk,S,pk⟩:=pF (E i);refine⟨a,b,k,qa,qb,S,?_,?_⟩
 .by_cases U:k=0
  .subst U;rw[D.s0]at S;have:=(uC r.strat J z).1;rw[<-Option.some.inj S]at this;cases this
  .omega
 .have O:R5 r.sorts e.kind a b=true:=zK ha hb pb fun W=>by
   rw[if_neg oM]at qa;refine⟨by have h1:=Tn D qa;have h2:=Tn D D.s0;omega,?_⟩;by_cases hq:eL l i<l.length
   .obtain⟨e',u,_⟩:=S6 hq;have hE:eL l i=i+1:=by
     obtain⟨hl,he⟩:=gS J;have hd:l.drop i=e::l.drop (i+1):=by rw[List.drop_eq_getElem_cons hl,he]
     have hs:d7 0 e.kind=0:=by rw[d7,if_neg oM,if_neg z]
     rw[eL,hd,kc,hs,if_pos rfl]
    by_cases q3:e'.kind=3
    .rw[eJ _ u q3];rfl
    .rw[(uC r.strat u q3).2];exact decide_eq_false (qn h J (hE▸u) W)
   .rw[Aw _ _ oM];rfl
  rw[jC,if_pos O,Int.toNat_natCast,Int.toNat_natCast,pa,pb,<-s1];exact Tn D S
theorem Tf(H:N7)(lo:Nat)(v:Value)(l:List EvD)(u:lo<=H.next)(D:qY H lo v l)(J:l.length<=1000000):CL prog t6 26 [v] H=some (.bool (decide (0<l.length)&&decide ((if v8 l then dep 0 l else -1)=0)),none):=by
 have E:=QF ⟨H.bs,H.next⟩ lo v l u (D.mono (fun _ _=>rfl) lR) oM;obtain⟨O,S,z⟩:=D.slice;subst z;rw[j7 Tj rfl _ sM];have e0:decide ((0:Int)<l.length)=decide (0<l.length):=decide_eq_decide.2 oM;rcases b:decide (0<l.length)with _|_
 .rw[b]at e0;exact J1 e0 trivial
 .rw[b]at e0;exact J2 e0 E trivial
abbrev Ti:t7:=ptA fn8 [1,1,1,1,1,1,1,0,1,0,0]
theorem RH(Hs:N7)(lo K:Nat)(q:Q)(i0:OkD false q)(r:ReD)(hm:kV q=some r)(N:Nat)(f4:WfR r N)(m:Int)(U:R4 r m)(H:N7)(rb:Nat)(a3:LV)(g:H.get rb=cE a3 1)(hR:cT H (· <H.next) (QR Hs lo K false) (QR Hs lo K true) a3 r)(l5:lo<=H.next)(h4:∀j,j<lo->H.get j=Hs.get j) (c8:a3.all oC=true) (c7:a3.length=12)
  (v:Value) (l:List EvD) (hv:qY H H.next v l) (hl:l.length<=40) (h:v8 l=true) (h0:dep 0 l=0) (xs:Value) (hx:SlI H H.next 3 (w9 soE) xs (whF r.strat l).2):
  ∀kk e H2,(∃i:Nat,kk=l.length-i/\i<=l.length/\e.get 1=v/\e.get 5=pT rb/\e.get 7=xs/\e.get 9=iV i/\H2=H)->
  w7 (LE prog gh (.loop Ti) e H2) (fun o e H2=>o= .exit 0/\H2=H):=by
 refine i8 _ _ ?_;rintro kk e H2 ⟨i,hk,hi,f1,f5,f7,f9,rfl⟩;obtain⟨va,vc,i2⟩:=hv.slice;subst i2;rcases b0:decide ((i:Int)<l.length)with _|_
 .refine J3 f1 f9 b0 ?_;exact i9 ⟨rfl,rfl⟩
 have h7:i<l.length:=oN (dT b0);obtain⟨ev,he,hd⟩:=S6 (l:=l) (i:=i) h7;obtain⟨be,oe,ce,g0,k3,aa,ac,i1,j3,a6,h8,e9,h3,hz⟩:=DS hv he;cases i1;have ke:=Q3 (k:=0) oM e9;rw[Nat.add_zero]at ke;by_cases e3:ev.kind=3
 .have d3:decide (ev.kind=3)=true:=decide_eq_true e3;refine J7 f1 f9 b0 a6 ke d3 @wrap_small ?_;exact i4 (kk-1) oM ⟨i+1,oM,oM,f1,f5,f7,rfl,rfl⟩
 have d3:decide (ev.kind=3)=false:=decide_eq_false e3;have u:=cq h8 e9;obtain⟨a,b,k,qa,qb,qk,k1,h9⟩:=RT i0 hm U h h0 he e3;obtain⟨_,_,s3,s4,s5,s6⟩:=pG r.strat h h0 he e3;have h6:i+1<l.length:=by
  by_cases hq:i+1<l.length
  .exact hq
  .exact absurd (jh h h0 he oM) e3
 obtain⟨e1,b5,_⟩:=S6 h6;have c9:∀(j:Nat)(ej:EvD),l[j]?=some ej->g0[oe+j*5]?=some (.int .i64 ej.kind):=fun j ej hj=>by
  obtain⟨k5,m1,k6,j2,j0,_,_,f3,_,d0,k0,f0,_⟩:=DS hv hj;cases f3;rw[a6]at d0;cases d0;have:=Q3 (k:=0) oM f0;rw[Nat.add_zero]at this;exact this
 have b1:=c9 _ _ b5;have g4:=hR;obtain⟨rs,vl,w1,w2,w3,d6,l8,l3,f2,m0,k8⟩:=hR;have i3:rs.length=8:=by rw[d6]at c7;simpa using c7
 obtain⟨a1,c1,rfl⟩:=f2.slice;have q9:a3[9]?=some (.slice a1 r.sorts.length c1):=by rw[d6,List.getElem?_append_right oM,i3];rfl
 have k9:=f4.l1;have j1:a3.take 12=a3:=List.take_of_length_le oM;have b2:ldC (some true) (some 12) 0 a3=some (.agg a3.toArray):=by rw[eW _ _ _ oM,List.drop_zero,j1]
 have c0:∀j,j<=l.length->CL prog gh 27 [.slice (some ⟨be,oe,none⟩) l.length vc,iV j] H2=some (.int .i64 (iU (l.take j)),none):=fun j hj=>aX (Su H2 H2.next _ l lR hv oM j hj);have a7:=aX (Tg H2 H2.next _ l lR hv oM i oM);have b8:∀{j:Nat}{x:SoD},r.sorts[j]?=some x->CL prog gh 17 [.agg a3.toArray,.agg (soE x).toArray] H2=some (.int .i64 j,none):=fun{j x} hj=>by
  rw[aX (wX H2 a3 r.sorts _ f2 c7 c8 q9 oM x),Tn U hj]
 have z:=aX (Fc Hs lo K r N f4 H2 a3 g4 oM h4 c8 _ ev (Je (lo:=H2.next) ⟨_,rfl,h3,hz⟩ _ (fun j hj=>hj)) (mP (aE h he).2.1) a b);rw[h9]at z;obtain⟨xa,xc,rfl⟩:=hx.slice;generalize hW:(whF r.strat l).2=W at*;have b4:∀(j:Nat)(x:SoD),W[j]?=some x->∃xb xo cs own,xa=some ⟨xb,xo,none⟩/\H2.get xb=some (.cells cs own 3)/\ldC (some true) (some 3) (xo+j*3) cs=some (.agg (soE x).toArray)/\j<W.length:=fun j x hj=>by
  obtain⟨y,xb,xo,cs,own,el,hy,_,e1,_,D,l6,a2,_,g6⟩:=hx.row (i:=j) (gS hj).1;rw[hj]at hy;cases hy;rw[show el=soE x from g6]at a2;exact⟨xb,xo,cs,own,e1,D,a2,(gS hj).1⟩
 have g8:W[iU (l.take i)]?=some (stA r.strat l i):=by rw[<-hW];exact vk r.strat he e3
 obtain⟨xb,xo,m3,k4,rfl,D,a2,l4⟩:=b4 _ _ g8;have J:=b8 qk;have a8:decide ((k:Int)<1)=false:=decide_eq_false oM;have d9:decide ((a:Int)<0)=false:=decide_eq_false oM;have e4:decide ((b:Int)<0)=false:=decide_eq_false oM;have O:=c0 i oM;have a9:∀(e':Env),e'.get 1= .slice (some ⟨be,oe,none⟩) l.length vc->e'.get 5=pT rb->e'.get 7= .slice (some ⟨xb,xo,none⟩) W.length xc->e'.get 9=iV ((i:Int)+1)->cQ kk (fun kk e H=>∃i:Nat,kk=l.length-i/\i<=l.length/\e.get 1= .slice (some ⟨be,oe,none⟩) l.length vc/\e.get 5=pT rb/\e.get 7= .slice (some ⟨xb,xo,none⟩) W.length xc/\e.get 9=iV i/\H=H2) (fun o e H=>o= .exit 0/\H=H2) .normal e' H2:=fun e' g1 g5 g7 g9=>
  i4 (kk-1) oM ⟨i+1,oM,oM,g1,g5,g7,by rw[g9];rfl,rfl⟩
 have dz:decide ((0:Int)<0)=false:=rfl;have ti:((i:Int)+1).toNat=i+1:=oM;obtain⟨E,hE⟩:=eY (eL l i);rw[show((i+kc (l.drop i) 0:Nat):Int)=(E:Nat) by rw[hE];rfl]at a7;rw[<-hE]at qb s3 s4 s5 s6;rcases d4:decide ((0:Int)<i)with _|_
 .have h5:i=0:=oN (dF d4);rw[Aw _ _ (by rw[s6 h5];exact lR)]at qb;have e5:(b:Int)=0:=by have h1:=Tn U qb;have h2:=Tn U U.s0;omega
  rw[e5]at z;rcases d1:decide (ev.kind=1)with _|_
  .rw[if_neg (dF d1)]at qa;have a5:(a:Int)=0:=by have h1:=Tn U qa;have h2:=Tn U U.s0;omega
   rw[a5]at z;refine J24 f1 f5 f7 f9 b0 a6 ke d3 g b2 u @wrap_small O a7 D a2 J a8 z b1 ti d1 dz d4 ?_;exact a9 _ f1 f5 f7 rfl
  .rw[if_pos (dT d1)]at qa;by_cases c3:e1.kind=3
   .have a4:decide (e1.kind=3)=true:=decide_eq_true c3;rw[eJ _ b5 c3]at qa;have a5:(a:Int)=0:=by have h1:=Tn U qa;have h2:=Tn U U.s0;omega
    rw[a5]at z;refine J25 f1 f5 f7 f9 b0 a6 ke d3 g b2 u @wrap_small O a7 D a2 J a8 z b1 ti d1 a4 dz d4 ?_;exact a9 _ f1 f5 f7 rfl
   .have a4:decide (e1.kind=3)=false:=decide_eq_false c3;obtain⟨f6,f8,cs',d8,b7,X,c6,e8⟩:=b4 _ (stA r.strat l (i+1)) (by rw[<-hW];exact vk r.strat b5 c3);cases b7;rw[D]at X;cases X;have S:=c0 (i+1) oM;rw[show((i+1:Nat):Int)=(i:Int)+1 from oM]at S;have b3:=b8 qa;refine J29 f1 f5 f7 f9 b0 a6 ke d3 g b2 u @wrap_small O a7 D a2 J a8 z b1 ti d1 a4 dz d9 S c6 b3 d4 ?_;exact a9 _ f1 f5 f7 rfl
 .have g3:=s5 (oN (dT d4));obtain⟨e2,e6,_⟩:=S6 g3;have b6:=c9 _ _ e6;by_cases c4:e2.kind=3
  .have d5:decide (e2.kind=3)=true:=decide_eq_true c4;rw[eJ _ e6 c4]at qb;have e5:(b:Int)=0:=by have h1:=Tn U qb;have h2:=Tn U U.s0;omega
   rw[e5]at z;rcases d1:decide (ev.kind=1)with _|_
   .rw[if_neg (dF d1)]at qa;have a5:(a:Int)=0:=by have h1:=Tn U qa;have h2:=Tn U U.s0;omega
    rw[a5]at z;refine J26 f1 f5 f7 f9 b0 a6 ke d3 g b2 u @wrap_small O a7 D a2 J a8 z b1 ti d1 dz d4 b6 d5 ?_;exact a9 _ f1 f5 f7 rfl
   .rw[if_pos (dT d1)]at qa;by_cases c3:e1.kind=3
    .have a4:decide (e1.kind=3)=true:=decide_eq_true c3;rw[eJ _ b5 c3]at qa;have a5:(a:Int)=0:=by have h1:=Tn U qa;have h2:=Tn U U.s0;omega
     rw[a5]at z;refine J27 f1 f5 f7 f9 b0 a6 ke d3 g b2 u @wrap_small O a7 D a2 J a8 z b1 ti d1 a4 dz d4 b6 d5 ?_;exact a9 _ f1 f5 f7 rfl
    .have a4:decide (e1.kind=3)=false:=decide_eq_false c3;obtain⟨f6,f8,cs',d8,b7,X,c6,e8⟩:=b4 _ (stA r.strat l (i+1)) (by rw[<-hW];exact vk r.strat b5 c3);cases b7;rw[D]at X;cases X;have S:=c0 (i+1) oM;rw[show((i+1:Nat):Int)=(i:Int)+1 from oM]at S;have b3:=b8 qa;refine J30 f1 f5 f7 f9 b0 a6 ke d3 g b2 u @wrap_small O a7 D a2 J a8 z b1 ti d1 a4 dz d9 S c6 b3 d4 (aI b6 d5) ?_;exact a9 _ f1 f5 f7 rfl
  .have d5:decide (e2.kind=3)=false:=decide_eq_false c4;obtain⟨m2,m4,k7,k2,g2,d2,e7,j4⟩:=b4 _ (stA r.strat l E) (by rw[<-hW];exact vk r.strat e6 c4);cases g2;rw[D]at d2;cases d2;have c5:=c0 E oM;have b9:=b8 qb;rcases d1:decide (ev.kind=1)with _|_
   .rw[if_neg (dF d1)]at qa;have a5:(a:Int)=0:=by have h1:=Tn U qa;have h2:=Tn U U.s0;omega
    rw[a5]at z;refine J30 f1 f5 f7 f9 b0 a6 ke d3 g b2 u @wrap_small O a7 D a2 J a8 z b1 ti d1 dz d4 b6 d5 e4 c5 e7 b9 ?_;exact a9 _ f1 f5 f7 rfl
   .rw[if_pos (dT d1)]at qa;by_cases c3:e1.kind=3
    .have a4:decide (e1.kind=3)=true:=decide_eq_true c3;rw[eJ _ b5 c3]at qa;have a5:(a:Int)=0:=by have h1:=Tn U qa;have h2:=Tn U U.s0;omega
     rw[a5]at z;refine J30 f1 f5 f7 f9 b0 a6 ke d3 g b2 u @wrap_small O a7 D a2 J a8 z b1 ti d1 a4 dz d4 b6 d5 e4 c5 (aI e7 b9) ?_;exact a9 _ f1 f5 f7 rfl
    .have a4:decide (e1.kind=3)=false:=decide_eq_false c3;obtain⟨f6,f8,cs',d8,b7,X,c6,e8⟩:=b4 _ (stA r.strat l (i+1)) (by rw[<-hW];exact vk r.strat b5 c3);cases b7;rw[D]at X;cases X;have S:=c0 (i+1) oM;rw[show((i+1:Nat):Int)=(i:Int)+1 from oM]at S;have b3:=b8 qa;refine J30 f1 f5 f7 f9 b0 a6 ke d3 g b2 u @wrap_small O a7 D a2 J a8 z b1 ti d1 a4 dz d9 (aI S c6) (aI b3 d4) (aI b6 d5) (aI e4 c5) (aI e7 b9) ?_;exact a9 _ f1 f5 f7 rfl
theorem Tm(K:Nat)(H:N7)(lo:Nat)(cs:LV)(q:Q)(v:Value)(l:List EvD)(e9:lo<=H.next)(hr:QR H lo K false cs q)(hv:qY H lo v l)(hn:l.length<=1048576):
  CL prog gh 8 [.agg cs.toArray,v] H=some (.bool true,none):=by
 have ac:=F7 hr;have ldc:=N5 hr;have l0:=hr.len;simp only[qSz,bF]at l0;rw[l0]at ldc;obtain⟨va,vc,e1⟩:=hv.slice;subst e1;obtain⟨U,O,n1,g1,s1⟩:=pushF H (bC cs 1);have u:U.low=H.next:=by rw[O];rfl
 have b9:QR U lo K false cs q:=hr.mono (fun j hj=>s1.get j oM) lR;have a9:qY U lo (.slice va l.length vc) l:=hv.mono (fun j hj=>s1.get j oM) lR;have h9:=JU U;have D:=aX (IC U lo K cs q oM b9 (fun h=>⟨(iJ h).1,by have:=(iJ h).2;omega⟩));obtain⟨t,a4⟩:=Iy U lo _ l oM a9 oM
 replace a4:=aX a4
 rw[j7 fn8 rfl _ sM];rcases b:(gl q&&lZ q)with _|_
 .rw[b]at D;exact J7 ac O.symm g1 ldc h9 D u trivial
 rw[b]at D;by_cases b6:(40:Int)<l.length
 .have X:decide ((40:Int)<l.length)=true:=decide_eq_true b6;exact J8 ac O.symm g1 ldc h9 D u X trivial
 have X:decide ((40:Int)<l.length)=false:=decide_eq_false b6;cases t with
 |false=>simp(maxSteps:=20000000) -dsimp (disch:=first|omega|(simp only[rH]<;>omega)|fail) only[↓ig,rQ,N3,sevalprocAttr,tyA,ac,<-O,g1,ldc,h9,D,u,X,a4]
 |true=>
 have a5:=aX (Tf U lo _ l oM a9 oM);rcases a7:(decide (0<l.length)&&decide ((if v8 l then dep 0 l else -1)=0))with _|_
 .rw[a7]at a5;exact J10 ac O.symm g1 ldc h9 D u X a4 a5 trivial
 rw[a7]at a5;simp only[Bool.and_eq_true,decide_eq_true_eq]at b a7;obtain⟨bl,bd⟩:=a7;have hB:v8 l=true:=by
  by_cases hq:v8 l=true
  .exact hq
  .rw[if_neg hq]at bd;omega
 rw[if_pos hB]at bd;obtain⟨b8,f0⟩:=iJ b.1;obtain⟨v,h,H2,b5,b3,J,er,rfl,s2,E⟩:=EP K U lo cs q oM b9 b8 oM;have n2:=s2.next;have d5:H.next<=H2.low:=s2.lowAll H.next oM oM;obtain⟨H3,a8,n3,x3,-⟩:=pushE H2 (bC [nS,nS,nS,iV 0,iV 0,iV 0,nS,nS,nS,nS,nS,nS] 1);obtain⟨H4,S⟩:=eY (H3.put H2.next (bC J 1));have x4:H4.get H2.next=cE J 1:=by rw[S];exact j5 oM
 have n4:H4.next=H2.next+1:=by rw[S,t5,n3]
 have a6:H.next<=H4.low:=by rw[S,A4,a8,l9];omega
 rcases E with⟨E,rfl,rfl⟩|⟨r,E,rfl,b0,hR⟩
 .have c8:splice z12 0 z12=z12:=rfl;simp only[z12]at S b5 c8 x4;exact J18 ac O.symm g1 ldc h9 D u X a4 a5 b5 b3 a8.symm x3 c8 S.symm x4 a6 trivial
 have c9:=hR;obtain⟨rs,vl,w1,w2,w3,W,c0,d4,d6,d8,d3⟩:=hR;obtain⟨pa,pc,ga,gc,xa,xc,ea,ec,ta,tc,b4,_⟩:=F1 c0;have e4:rs.length=8:=by rw[b4];rfl
 have b2:J.length=12:=by rw[W];simp [e4]
 obtain⟨a1,c1,rfl⟩:=d6.slice;obtain⟨a2,c2,rfl⟩:=d8.slice;obtain⟨a3,c3,rfl⟩:=d3.slice;obtain⟨la,lc,rfl⟩:=d4.slice;have b1:J.all oC=true:=by rw[W,b4];rfl
 have e6:splice [nS,nS,nS,iV 0,iV 0,iV 0,nS,nS,nS,nS,nS,nS] 0 J=J:=by rw[W,b4];rfl
 have e3:ldC (some true) (some 8) 0 J=some (.agg rs.toArray):=by
  rw[eW _ _ _ oM,W,List.drop_zero,List.take_append_of_le_length oM,List.take_of_length_le oM]
 obtain⟨⟨m,d2⟩,e7,_⟩:=gi E;have y4:∀j,j<H2.next->H4.get j=H2.get j:=fun j hj=>by rw[S,j6 oM,a8,i7 oM]
 have d0:=c9.mono (F':=(· <H4.next)) y4 (fun j hj=>oM);have c4:StF H4 (· <H4.next) (QR U lo K false) (QR U lo K true) rs r.strat:=c0.mono y4 (fun j hj=>oM) iF iF;have z4:∀j,j<lo->H4.get j=U.get j:=fun j hj=>by rw[y4 j oM,s2.get j oM]
 have d9:qY H4 H4.next (.slice va l.length vc) l:=a9.mono z4 oM;obtain⟨xs,e8,H5,e5,c7,O5,s5⟩:=Ret.one (So U lo K r.strat _ b0.n0 b0.st b0.sz H4 rs c4 z4 oM _ l d9 oM);have n5:=s5.next;have hW:Bx r.strat l=(whF r.strat l).2:=by
  rw[Bx,if_pos];rw[qe,hB,vj,if_pos hB,bd];simpa using bl
 rw[hW]at O5;have z5:∀j,j<lo->H5.get j=U.get j:=fun j hj=>by rw[s5.get j oM,z4 j hj]
 have c5:qY H5 H5.next (.slice va l.length vc) l:=a9.mono z5 oM;have d1:=d0.mono (F':=(· <H5.next)) (fun j hj=>s5.get j hj) (fun j hj=>oM);have x5:=(s5.get H2.next oM).trans x4;have b7:=aX (Su H5 H5.next _ l lR c5 oM l.length lR);rw[List.take_length]at b7;have c6:H.next<=H5.low:=s5.lowAll _ oM a6;have e2:=O5.sl;obtain⟨f1,f2,rfl⟩:=O5.slice;have dn:decide (((whF r.strat l).2.length:Int)=(iU l:Nat))=true:=decide_eq_true (by rw[Sn]);refine J24 ac O.symm g1 ldc h9 D u X a4 a5 b5 b3 a8.symm x3 e6 b2 b1 S.symm x4 e3 e5 c7 b7 dn ?_;refine j8 (F:=fun z=>u5 _ _ _ (u9 (inBlock 0 z) _)=_) (RH U lo K q b8 r E _ b0 m d2 H5 H2.next J x5 d1 oM z5 b1 b2 _ l c5 oM hB bd _ e2 l.length _ _ ⟨0,rfl,oM,rfl,rfl,rfl,rfl,rfl⟩) ?_;rintro o' e' H' ⟨ho,rfl⟩;exact J2 ho c6 trivial
theorem CU(k:Nat):N2 prog (k+2) 53 (fun _ cs a=>AtR cs a):=by
 have h:=X1 (P:=prog) (t:=53) Tryz.underlying53 kR (D0 (k:=2) rfl kR (mt k) (D0 (k:=1) rfl kR (iZ (k+1)) (bL _)));refine h.map (fun x=>⟨x.1.1,x.1.2,x.2.1⟩) ?_ (fun _ _ _ _ _ h=>h);rintro S cs ⟨a,b,u⟩ ⟨c1,c2,rfl,⟨rfl,D,z⟩,J,O,rfl,⟨rfl,E⟩,rfl⟩;exact⟨rfl,D,z,E⟩
theorem Ac(k:Nat):N2 prog (k+3) 49 (fun S cs(l:List AtD)=>∃v,cs=[v]/\Sl S 3 AtR v l/\l.length<=1048576):=eD (P:=prog) (t:=49) (e:=53) (sz:=3) Tryz.underlying49 kR oM (CU k)
def EvG(S:List Blk)(cs:LV)(e:EvD):Prop:=
 ∃v,cs=[iV e.kind,.string e.space,.string e.loc,v,.string e.text]/\Sl S 3 AtR v e.attrs/\e.space.size<=1048576/\e.loc.size<=1048576/\e.text.size<=1048576/\e.attrs.length<=1048576
theorem Ad(k:Nat):N2 prog (k+4) 51 (fun S cs e=>EvG S cs e):=by
 have h:=X1 (P:=prog) (t:=51) Tryz.underlying51 kR (D0 (k:=1) rfl kR (rg (k+3)) (D0 (k:=2) rfl kR (mt (k+2)) (D0 (k:=1) rfl kR (Ac k) (D0 (k:=1) rfl kR (iZ (k+3)) (bL _)))));refine h.map (fun x=>⟨x.1,x.2.1.1,x.2.1.2,x.2.2.1,x.2.2.2.1⟩) ?_ ?_
 .rintro S cs ⟨k,nm,U,tx,u⟩ ⟨c1,c2,rfl,⟨rfl,O⟩,c3,c4,rfl,⟨rfl,z,D⟩,c5,c6,rfl,⟨v,rfl,E,J⟩,c7,c8,rfl,⟨rfl,W⟩,rfl⟩;exact⟨v,rfl,E,z,D,W,J⟩
 .rintro S S' cs e X ⟨v,O,z,E⟩;exact⟨v,O,z.mono X iF,E⟩
theorem MW{S:List Blk}{cs:LV}{e:EvD}(h:EvG S cs e):EvR ⟨S,S.length⟩ S.length cs e:=by
 obtain⟨v,u,z,D⟩:=h;exact⟨v,u,yA z iF,D⟩
theorem EI(k:Nat):N2 prog (k+5) 35 (fun S cs(l:List EvD)=>∃v,cs=[v]/\Sl S 5 (EvG S) v l/\l.length<=1048576):=eD (P:=prog) (t:=35) (e:=51) (sz:=5) Tryz.underlying35 kR oM (Ad k)
theorem Sv{S:List Blk}{v:Value}{l:List EvD}(h:Sl S 5 (EvG S) v l):qY ⟨S,S.length⟩ S.length v l:=yA h (fun _ _ h=>MW h)
end Go.Proofs.YtofbhlhamfkljaaGreatDoor.Ve
namespace Go.Proofs.YtofbhlhamfkljaaGreatDoor.reachAll
open Go.ChangeShapes Go.WideShapes Go.ChangeAt Go.RowKit
open Go.Proofs.Tryz (prog)
open Go Ve card
abbrev Nc:Array Value:= #[JT,.slice none 0 0]
theorem QB(u:Os):laidMet prog PR ((gO u).forCall (fun _ _=>0) ⟨#[],Nc,[]⟩).memory:=
 laidMet_of_run' 8 kR kR
theorem SG(z:Os){H:Type}(enc:TypeId×Value->H):∃u,DataW.whole enc prog ((gO z).forCall (fun _ _=>0) ⟨#[],Nc,[]⟩).memory [25,35] [] false Nc.toList 8=some ([.agg [.lit (.int .i64 0),.nil,.nil],.nil],[],u):=
 ⟨[],kR⟩
theorem DE(H:Type)(enc:TypeId×Value->H)(W:World)(base:Nat)(args:Array Value)(ds gs:List (DataW H))(O:List MemPlace)
  (E:∀(j:Nat) t v,Tryz.f8.params[j]?=some t->args[j]?=some v->Value.okWide prog W .any base t v)
  (hW:DataW.Whole enc prog Tryz.f8.params.toList Rows.reachAllSpec.vars false W args.toList ds gs O) (hk:Rows.uptoSmall H (ds++gs)=true):
  Calls prog 8 args W fun e W'=>∃v,e= .returned v/\Rows.reachAllSpec.post enc prog Tryz.f8 false true false false W args v W':=by
 have b1:=hW;obtain⟨p,q,a2,hV,rfl,c5,c6⟩:=hW;have hA:DataW.TrodAll enc prog W 0 (fun _=>true) true Tryz.f8.params.toList args.toList ds p:=a2;rw[Tryz.params8]at hA E;obtain⟨v0,c7,d0,b9,p0,q0,b2,rfl,rfl,h0,r0⟩:=trodAll_cons hA;obtain⟨v1,c8,d1,c0,p1,q1,rfl,rfl,rfl,h1,r1⟩:=trodAll_cons r0;obtain⟨rfl,rfl,rfl⟩:=trodAll_nil r1;obtain rfl:args= #[v0,v1]:=by cases args;simp_all
 obtain⟨rfl,rfl⟩:=trodVars_none hV;obtain⟨a0,rfl,_⟩:=okWide_struct Tryz.underlying25 (E 0 25 v0 rfl rfl);obtain⟨a1,J,z,rfl⟩:=okWide_slice Tryz.underlying35 (E 1 35 v1 rfl rfl);have k0:=h0;have k1:=h1;have b7:∀x∈p0,x.block<W.heap.size:=by obtain⟨m,hm⟩:=h0;exact DataW.trod_lt m _ _ _ hm
 have b8:∀x∈p1,x.block<W.heap.size:=by obtain⟨m,hm⟩:=h1;exact DataW.trod_lt m _ _ _ hm
 have hb:Rows.uptoBulk d0<=1048576/\Rows.uptoBulk d1<=1048576:=by
  have h:Rows.uptoBulkAll ([d0,d1]++[])<=1048576:=dT hk;simp only[Rows.uptoBulkAll,List.cons_append,List.nil_append]at h;omega
 obtain⟨u,b3⟩:=h0;obtain⟨D,b4⟩:=h1;obtain⟨φ1,S1,x1,q,c3,c4,a4,U,_,b0⟩:=(mu (u+1)).1.2 enc W u oM _ d0 p0 b3 hb.1 [] [] (FQ W);obtain⟨φ2,S2,x2,l,a3,a9,a5,a8,_,v,rfl,b5,a6⟩:=(EI D).2 enc W D oM _ d1 p1 b4 hb.2 φ1 S1 a4;have a7:=Tm _ ⟨S2,S2.length⟩ S2.length x1 q v l lR (Ru ((mu (u+1)).1.1 _ _ _ _ a9 b0)) (Sv b5) a6;have b6:VR φ2 v (.slice a1 J z):=by have:=a8.2 0 v (.slice a1 J z) rfl (by simp [Value.cells]);exact this
 have S:VRs φ2 [.agg x1.toArray,v] [.agg a0,.slice a1 J z]:= .cons (.agg (by simpa [Value.cells] using (U.mono a3).1) (by simpa [Value.cells] using (U.mono a3).2)) (.cons b6 (.nil φ2));clear a2;refine(Bz kR HP a5 S a7).mono fun e W'⟨he,X⟩=>?_;subst he;exact⟨_,rfl,_,_,_,[],_,[],b1,trodAll_mk1 (shut_bool Tryz.underlying4 _),(trodAll_cons_mk (Below.trod jt kR (dT kR) k0 X b7) (trodAll_cons_mk (Below.trod jt kR (dT kR) k1 X b8) trodAll_mk0)),rfl,X.frame _,fun h=>by cases h⟩
theorem LJ(J:Os)(u:J.Started)(H:Type)(enc:TypeId×Value->H)(F:Stop.Interp):
  ReturnsInHanded {} Tryz.checked J 8 .any ((Rows.OpenSpec.upto Rows.reachAllSpec).preRow enc prog Tryz.f8 Rows.reachAllUptoRow.domain false Rows.reachAllUptoRow.laid) (((Rows.OpenSpec.upto Rows.reachAllSpec).at F).post enc prog Tryz.f8 false true false false):=by
 obtain⟨O,hx⟩:=SG J enc;refine returnsInHanded_of_row (C:=Tryz.checked) (s:=Rows.OpenSpec.upto Rows.reachAllSpec) own u kR Tryz.func8
  (witness_row_at (enc:=enc) (C:=Tryz.checked) false (gO J) Nc rfl kR kR kR
   (OpenSpec.preRow_of_cond 8 hx kR (fun k X=>by cases X;kernel_rfl) kR (QB J))) ?_
 intro W base args ds S z E U _ D _ hL _ _;exact DE H enc W base args ds S z E U (D _ rfl)
theorem Rx:Rows.ReachAllUptoSaid:=
 OpenClaim.holds_of_cond 8 Tryz.f8 rfl rfl rfl rfl rfl rfl rfl ⟨rfl,rfl,rfl,rfl,rfl⟩ rfl rfl rfl rfl rfl kR Tryz.func8 kR
  (dT kR) (by unfold Func.isWrapper;first|(rw[if_pos (by decide+kernel)];kernel_rfl)|(rw[if_neg (by decide+kernel)];exact⟨rfl,rfl⟩))
  (fun z u H enc _ F=>by rw[OpenClaim.pre_eq_preRow];exact LJ z u H enc F)
theorem plain(f:FuncId)(u:Func)(E:Tryz.pinned.checked.prog.funcNamed "oriel/oriellaw21.ReachAll" =some f)(z:Tryz.pinned.checked.prog.funcs[f]?=some u):
  false=Tryz.pinned.checked.prog.looks []/\∀(j:Nat) t,u.params[j]?=some t->Tryz.pinned.checked.prog.wantsStandIn t=false:=by
 obtain rfl:f=8:=Option.some.inj ((show prog.funcNamed "oriel/oriellaw21.ReachAll" =some 8 from kR).symm.trans E) |>.symm;obtain rfl:u=Tryz.f8:=(Option.some.inj (Tryz.func8.symm.trans z)).symm;refine⟨kR,fun j t D=>?_⟩;rw[Tryz.params8]at D;have h:t=25\/t=35:=by simpa using Array.mem_of_getElem? D
 rcases h with rfl|rfl
 .exact(show prog.wantsStandIn 25=false from kR)
 .exact(show prog.wantsStandIn 35=false from kR)
theorem cardUpto:Rows.ReachAllUptoCardSaid:=
 Claim7.holds_tied_plain_at .later [] _ _ _ _ Rx (fun _ h=>by cases h) kR (fun _ h=>by cases h) reachAllUpto_row_tie rfl ⟨rfl,rfl⟩ kR rfl plain kR
end Go.Proofs.YtofbhlhamfkljaaGreatDoor.reachAll
namespace Go.Proofs.YtofbhlhamfkljaaGreatDoor
open Go Go.RowKit
open Go.Proofs.Tryz (prog)
theorem reachAll_holds:Rows.ReachAllUptoCardSaid:=reachAll.cardUpto
end Go.Proofs.YtofbhlhamfkljaaGreatDoor
