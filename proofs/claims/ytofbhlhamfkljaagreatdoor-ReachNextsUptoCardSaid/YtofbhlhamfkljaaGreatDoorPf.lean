/- ReachNexts returns true for every path and event whose readings are of bulk at most 1048576, and every three numbers, and what comes in reads behind the call as it read before. Conditions: what comes in is of bulk at most 1048576. -/
import Derived.Test.YtofbhlhamfkljaaGreatDoorPe
set_option linter.unusedVariables false
set_option linter.unusedSimpArgs false
set_option linter.defProp false
set_option maxHeartbeats 0
set_option maxRecDepth 1000000
namespace Go.Proofs.YtofbhlhamfkljaaGreatDoor.Ve
open Go Go.RowKit
open Go.Proofs.Tryz (prog)
theorem dX{α:Type}(p:Q->Bool)(g:Q->α)(D:α->α->Bool)(E:∀x y,D x y=true↔x=y):∀(l:List Q)(u:List α),(∀z∈u,z∈lM p g D u l)/\(∀y∈l,p y=true->g y∈lM p g D u l)/\(u.Nodup->(lM p g D u l).Nodup)
 |[],u=>⟨fun z h=>h,fun y h _=>absurd h List.not_mem_nil,fun h=>h⟩
 |x::l,u=>by
  rw[gR];obtain⟨W,h2,h3⟩:=dX p g D E l (if p x&& !u.any (fun y=>D y (g x)) then u++[g x] else u);have S:∀z∈u,z∈(if p x&& !u.any (fun y=>D y (g x)) then u++[g x] else u):=fun z I=>by
   split
   .exact List.mem_append.2 (.inl I)
   .exact I
  refine⟨fun z I=>W z (S z I),fun y U hp=>?_,fun X=>h3 ?_⟩
  .rcases List.mem_cons.1 U with rfl|U
   .refine W _ ?_;rw[hp,Bool.true_and];cases J:u.any (fun z=>D z (g y))with
    |false=>simp
    |true=>
     obtain⟨z,I,e⟩:=List.any_eq_true.1 J;rw[<-(E _ _).1 e];simpa using I
   .exact h2 y U hp
  .split
   .rename_i J;simp only[Bool.and_eq_true,Bool.not_eq_true']at J;refine List.nodup_append.2 ⟨X,by simp,fun a ha b hb=>?_⟩;rw[List.mem_singleton.1 hb];intro O;have:u.any (fun y=>D y (g x))=true:=List.any_eq_true.2 ⟨a,ha,(E _ _).2 O⟩;rw[J.2]at this;cases this
   .exact X
structure pQ(e x:EvD)(y:Q):Prop where
 nm:y.op=4->e.kind=1->L3 (e.space,e.loc) (qNm y)=L3 (x.space,x.loc) (qNm y)
 has:y.op=5\/y.op=6->(A7 e.kind (qNm y) e.attrs).2=(A7 x.kind (qNm y) x.attrs).2
 vl:y.op=6->(A7 e.kind (qNm y) e.attrs).2=true->decide ((A7 e.kind (qNm y) e.attrs).1=y.vl)=decide ((A7 x.kind (qNm y) x.attrs).1=y.vl)
 tx:y.op=7->e.kind≠1->decide (e.text=y.vl)=decide (x.text=y.vl)
mutual
theorem iA(s:StD)(e x:EvD)(bs:List Bool)(hk:x.kind=e.kind):∀q,(∀y∈fsQ true q,pQ e x y)->D4 s e bs q=D4 s x bs q
 | .mk o sp lc vl a b,h=>by
  rw[fsQ]at h;have h0:=h (.mk o sp lc vl a b) (by simp);have ha:∀y∈fsL true a,pQ e x y:=fun y hy=>h y (by simp [hy]);obtain⟨l1,l2,l3,l4⟩:=h0;simp only[Q.op,Q.vl,qNm,Q.sp,Q.lc]at l1 l2 l3 l4;have e1:=pV s e x bs hk a ha;have e2:=pW s e x bs hk a ha;rw[D4,D4,e1,e2,hk];by_cases h1:o=1
  .rw[if_pos h1,if_pos h1]
  rw[if_neg h1,if_neg h1];by_cases h2:o=2
  .rw[if_pos h2,if_pos h2]
  rw[if_neg h2,if_neg h2];by_cases h3:o=3
  .rw[if_pos h3,if_pos h3]
  rw[if_neg h3,if_neg h3];by_cases h4:o=4
  .rw[if_pos h4,if_pos h4];by_cases hk1:e.kind=1
   .rw[l1 h4 hk1]
   .rw[decide_eq_false hk1,Bool.false_and,Bool.false_and]
  rw[if_neg h4,if_neg h4];rw[<-hk];by_cases h5:o=5
  .rw[if_pos h5,if_pos h5,hk];rw[l2 (.inl h5),hk]
  rw[if_neg h5,if_neg h5];by_cases h6:o=6
  .rw[if_pos h6,if_pos h6,hk];have k2:=l2 (.inr h6);have k3:=l3 h6;rw[hk]at k2 k3;cases hc:(A7 e.kind (sp,lc) e.attrs).2 with
   |false=>rw[<-k2,hc,Bool.false_and,Bool.false_and]
   |true=>rw[<-k2,hc,Bool.true_and,Bool.true_and];exact k3 hc
  rw[if_neg h6,if_neg h6];by_cases h7:o=7
  .rw[if_pos h7,if_pos h7,hk];by_cases hk1:e.kind=1
   .rw[decide_eq_true hk1];rfl
   .congr 1;exact l4 h7 hk1
  rw[if_neg h7,if_neg h7]
theorem pW(s:StD)(e x:EvD)(bs:List Bool)(hk:x.kind=e.kind):∀l,(∀y∈fsL true l,pQ e x y)->anyH s e bs l=anyH s x bs l
 |[],_=>by rw[anyH,anyH]
 |q::l,h=>by
  rw[fsL]at h;rw[anyH,anyH,iA s e x bs hk q (fun y hy=>h y (by simp [hy])),pW s e x bs hk l (fun y hy=>h y (by simp [hy]))]
theorem pV(s:StD)(e x:EvD)(bs:List Bool)(hk:x.kind=e.kind):∀l,(∀y∈fsL true l,pQ e x y)->anyF s e bs l=anyF s x bs l
 |[],_=>by rw[anyF,anyF]
 |q::l,h=>by
  rw[fsL]at h;rw[anyF,anyF,iA s e x bs hk q (fun y hy=>h y (by simp [hy])),pV s e x bs hk l (fun y hy=>h y (by simp [hy]))]
end
theorem yG{s:StD}{e x:EvD}(fi ne:SoD)(D:x.kind=e.kind)(h:∀p∈s.progs,∀t∈p.ts,∀y∈fsQ true t,pQ e x y):I4 s e fi ne=I4 s x fi ne:=by
 have key:∀(l:List (PrD×Int))(bs:List Bool),(∀z∈l,z.1∈s.progs)->W9 s e fi ne l bs=W9 s x fi ne l bs:=by
  intro l;induction l with
  |nil=>intro bs _;rfl
  |cons z l J=>
   intro bs u;rw[W9,W9];have:aV s e fi ne z.1 z.2 bs=aV s x fi ne z.1 z.2 bs:=by
    unfold aV;rw[List.map_congr_left (fun t E=>iA s e x bs D t (h z.1 (u z sM) t E))]
   rw[this];exact J _ (fun y I=>u y (by simp [I]))
 unfold I4;rw[key _ _ (fun z u=>(List.of_mem_zip (a:=z.1) (b:=z.2) u).1),D]
mutual
theorem jb(L:List Q):∀(q:Q)(p:PrD),(∀y∈fsQ false q,y∈L)->(∀t∈p.ts,t∈L)->∀t∈(C6 q p).1.ts,t∈L
 | .mk o s c v a b,p,hq,hp=>by
  rw[fsQ]at hq;have ha:∀y∈fsL false a,y∈L:=fun y hy=>hq y (by simp [hy]);have hb:∀y∈b,y∈L:=fun y hy=>hq y (by
   have:y∈fsL true b:=by
    rw[eR];exact List.mem_flatMap.2 ⟨y,hy,by rw[kg];simp⟩
   simp [this])
  have fold:∀(l:List Int)(t:Int)(m:PrD),(l.foldl (fun m x=>m.edge x t 0 0) m).ts=m.ts:=by
   intro l t;induction l with
   |nil=>intro m;rfl
   |cons x l ih=>intro m;rw[List.foldl_cons,ih];rfl
  rw[C6];split
  .exact IM L a p ha hp
  .split
   .intro t ht;rw[fold]at ht;exact zc L a p.st {p with st:=p.st+1} [] ha hp t ht
   .split
    .exact Ik L a {p with st:=p.st+1} ha hp
    .intro t ht;have ht':t∈(if o=7 then p.ts++b else p.ts):=ht;split at ht'
     .rcases List.mem_append.1 ht' with q|q
      .exact hp t q
      .exact hb t q
     .exact hp t ht'
theorem IM(L:List Q):∀(l:List Q)(p:PrD),(∀y∈fsL false l,y∈L)->(∀t∈p.ts,t∈L)->∀t∈(eu l p).1.ts,t∈L
 |[],p,_,hp=>by rw[eu];exact hp
 |x::l,p,h,hp=>by
  rw[fsL]at h;rw[eu];exact zQ L l (C6 x p) (fun y hy=>h y (by simp [hy])) (jb L x p (fun y hy=>h y (by simp [hy])) hp)
theorem zQ(L:List Q):∀(l:List Q)(x:PrD×Int×Int),(∀y∈fsL false l,y∈L)->(∀t∈x.1.ts,t∈L)->∀t∈(bO l x).1.ts,t∈L
 |[],x,_,hp=>by rw[bO];exact hp
 |q::l,x,h,hp=>by
  rw[fsL]at h;rw[bO];exact zQ L l _ (fun y hy=>h y (by simp [hy])) (jb L q x.1 (fun y hy=>h y (by simp [hy])) hp)
theorem zc(L:List Q):∀(l:List Q)(n:Int)(p:PrD)(es:List Int),(∀y∈fsL false l,y∈L)->(∀t∈p.ts,t∈L)->∀t∈(I9 l n p es).1.ts,t∈L
 |[],n,p,es,_,hp=>by rw[I9];exact hp
 |x::l,n,p,es,h,hp=>by
  rw[fsL]at h;rw[I9];exact zc L l n _ _ (fun y hy=>h y (by simp [hy])) (jb L x p (fun y hy=>h y (by simp [hy])) hp)
theorem Ik(L:List Q):∀(l:List Q)(p:PrD),(∀y∈fsL false l,y∈L)->(∀t∈p.ts,t∈L)->∀t∈(dY l p).1.ts,t∈L
 |[],p,_,hp=>by rw[dY];exact hp
 |x::l,p,h,hp=>by
  rw[fsL]at h;rw[dY];exact jb L x p (fun y hy=>h y (by simp [hy])) hp
end
mutual
theorem EB:∀(f:Bool)(q x:Q),x∈inQ f q->∀y∈fsQ false x,y∈fsQ f q
 |f,.mk o s c v a b,x,hx,y,hy=>by
  rw[inQ]at hx;rw[fsQ];rcases List.mem_append.1 hx with h|h
  .have:=rR f a x h y hy;simp [this]
  .cases f with
   |false=>
    have:=rR true b x (by simpa using h) y hy;simp [this]
   |true=>
    simp only[if_true]at h;split at h
    .rcases List.mem_append.1 h with h|h
     .have:=rR false b x h y hy;simp [this]
     .have:y∈fsL false b:=by
       rw[eR];exact List.mem_flatMap.2 ⟨x,h,hy⟩
      simp [this]
    .cases h
theorem rR:∀(f:Bool)(l:List Q)(x:Q),x∈inL f l->∀y∈fsQ false x,y∈fsL f l
 |f,[],x,hx,y,hy=>by rw[inL]at hx;cases hx
 |f,z::l,x,hx,y,hy=>by
  rw[inL]at hx;rw[fsL];rcases List.mem_append.1 hx with h|h
  .exact List.mem_append.2 (.inl (EB f z x h y hy))
  .exact List.mem_append.2 (.inr (rR f l x h y hy))
end
mutual
theorem Eo:∀(f:Bool)(q x:Q),x∈fsQ f q->∀y∈fsQ true x,y∈fsQ f q
 |f,.mk o s c v a b,x,hx,y,hy=>by
  rw[fsQ]at hx ⊢;rcases List.mem_append.1 hx with h|h
  .cases f with
   |false=>simp at h
   |true=>
    have e:x= .mk o s c v a b:=by simpa using h
    rw[e,fsQ]at hy;exact hy
  .rcases List.mem_append.1 h with h|h
   .have:=xl f a x h y hy;simp [this]
   .have:=xl (!f) b x h y hy;simp [this]
theorem xl:∀(f:Bool)(l:List Q)(x:Q),x∈fsL f l->∀y∈fsQ true x,y∈fsL f l
 |f,[],x,hx,y,hy=>by rw[fsL]at hx;cases hx
 |f,z::l,x,hx,y,hy=>by
  rw[fsL]at hx ⊢;rcases List.mem_append.1 hx with h|h
  .exact List.mem_append.2 (.inl (Eo f z x h y hy))
  .exact List.mem_append.2 (.inr (xl f l x h y hy))
end
theorem pK(q:Q):∀p∈(C0 q).progs,∀t∈p.ts,∀y∈fsQ true t,y∈fsQ false q:=by
 have key:∀(l:List Q)(s:StD),(∀x∈l,x∈inQ false q)->(∀p∈s.progs,∀t∈p.ts,t∈fsQ false q)->∀p∈(l.foldl E8 s).progs,∀t∈p.ts,t∈fsQ false q:=by
  intro l;induction l with
  |nil=>intro s _ h;exact h
  |cons x l I=>
   intro s D h;rw[List.foldl_cons];refine I _ (fun y z=>D y (by simp [z])) ?_;rw[E8];split
   .exact h
   .intro p u;rcases List.mem_append.1 u with u|u
    .exact h p u
    .rw[List.mem_singleton.1 u];exact jb (fsQ false q) x ⟨0,0,0,[],[]⟩ (fun y z=>EB false q x (D x sM) y z) (fun t E=>by cases E)
 intro p u t E y z;exact Eo false q t (key (inQ false q) ⟨[],[],[],B9 q⟩ (fun x D=>D) (fun p u=>by cases u) p u t E) y z
def fzV(vs:List ByteArray):ByteArray:=if T7 vs eB then dg (T8 vs) else eB
theorem Ho(u:List ByteArray):T7 u (fzV u)=false:=by
 unfold fzV;split
 .exact(me u).1
 .rename_i h;cases y:T7 u eB with
  |false=>rfl
  |true=>exact absurd y h
def pkV(v:ByteArray)(vs:List ByteArray):ByteArray:=if T7 vs v then v else fzV vs
theorem Mg(v:ByteArray)(u:List ByteArray):pkV v u∈Q4 u:=by
 have e:Q4 u=u++[fzV u]:=by rw[Q4,fzV]
 rw[e,pkV];split
 .rename_i h;exact List.mem_append.2 (.inl (aA.1 h))
 .exact List.mem_append.2 (.inr (List.mem_singleton.2 rfl))
theorem Mf{v w:ByteArray}{u:List ByteArray}(y:w∈u):decide (v=w)=decide (pkV v u=w):=by
 unfold pkV;split
 .rfl
 .rename_i h;have z:¬v=w:=fun q=>h (aA.2 (q▸y));have D:¬fzV u=w:=fun q=>by
   have:=Ho u;rw[q,aA.2 y]at this;cases this
  rw[decide_eq_false z,decide_eq_false D]
def kb(e:EvD):List (NmQ×List ByteArray)->List AtD
 |[]=>[]
 |x::r=>(if(A7 1 x.1 e.attrs).2 then [⟨x.1.1,x.1.2,pkV (A7 1 x.1 e.attrs).1 x.2⟩] else [])++kb e r
theorem mR(e:EvD):∀(r:List (NmQ×List ByteArray))(e0:EvD),{e0 with attrs:=e0.attrs++kb e r}∈S3 r e0
 |[],e0=>by rw[S3,kb,List.append_nil];exact List.mem_singleton.2 rfl
 |x::r,e0=>by
  rw[S3,kb];cases h:(A7 1 x.1 e.attrs).2 with
  |false=>
   rw[if_neg sM,List.nil_append];exact List.mem_append.2 (.inl (mR e r e0))
  |true=>
   rw[if_pos rfl];refine List.mem_append.2 (.inr (List.mem_flatMap.2 ⟨_,Mg (A7 1 x.1 e.attrs).1 x.2,?_⟩));have:=mR e r (atV x.1 e0 (pkV (A7 1 x.1 e.attrs).1 x.2));rw[atV]at this ⊢;simp only[List.append_assoc]at this;exact this
theorem fD(e:EvD)(nm:NmQ):∀r:List (NmQ×List ByteArray),nm∉r.map (·.1)->A7 1 nm (kb e r)=(eB,false)
 |[],_=>by rw[kb,A7]
 |x::r,h=>by
  simp only[List.map_cons,List.mem_cons,not_or]at h;rw[kb];split
  .rw[List.singleton_append,A7,if_neg (fun q=>h.1 (E9.1 q).symm)];exact fD e nm r h.2
  .rw[List.nil_append];exact fD e nm r h.2
theorem ir(e:EvD)(nm:NmQ)(u:List ByteArray):∀r:List (NmQ×List ByteArray),(r.map (·.1)).Nodup->(nm,u)∈r->A7 1 nm (kb e r)=if(A7 1 nm e.attrs).2 then(pkV (A7 1 nm e.attrs).1 u,true) else(eB,false)
 |[],_,h=>by cases h
 |x::r,hn,h=>by
  rw[List.map_cons,List.nodup_cons]at hn;rw[kb];rcases List.mem_cons.1 h with rfl|h
  .split
   .rename_i z;rw[List.singleton_append,A7,if_pos (E9.2 rfl)];rfl
   .rw[List.nil_append];exact fD e nm r hn.1
  .have y:¬x.1=nm:=fun q=>hn.1 (by rw[q];exact List.mem_map.2 ⟨_,h,rfl⟩);split
   .rw[List.singleton_append,A7,if_neg (fun q=>y (E9.1 q))];exact ir e nm u r hn.2 h
   .rw[List.nil_append];exact ir e nm u r hn.2 h
theorem jd{k:Int}(h:k≠1)(nm:NmQ):∀l,(A7 k nm l).2=false
 |[]=>by rw[A7]
 |a::l=>by
  rw[A7];split
  .exact decide_eq_false h
  .exact jd h nm l
theorem vP{α β:Type}(f:α->β):∀l:List α,l.zip (l.map f)=l.map fun n=>(n,f n)
 |[]=>rfl
 |x::l=>by rw[List.map_cons,List.zip_cons_cons,vP f l,List.map_cons]
theorem uf{x y:ByteArray}:cj x y=true↔x=y:=decide_eq_true_iff
theorem xH(q:Q)(a4:OkD false q)(e:EvD)(J:e.kind=1\/e.kind=2):∃x∈js (spQ q),x.kind=e.kind/\∀y∈fsQ false q,pQ e x y:=by
 rcases J with J|J
 .obtain⟨n,hn⟩:=eY (if P8 (spQ q).names (e.space,e.loc) then(e.space,e.loc) else zNm (Q6 (spQ q).names):NmQ);have hz:(spQ q).attrs.zip (spQ q).vals=(spQ q).attrs.map fun n=>(n,R9 6 n (fsQ false q)):=vP _ _;have hm:((spQ q).attrs.map fun n=>(n,R9 6 n (fsQ false q))).map (·.1)=(spQ q).attrs:=by
   rw[List.map_map];exact List.map_id _
  have a2:(spQ q).attrs.Nodup:=(dX (aQ 5 6) qNm L3 (fun _ _=>E9) (fsQ false q) []).2.2 List.nodup_nil;have a1:∀y∈fsQ false q,y.op=5\/y.op=6->(qNm y,R9 6 (qNm y) (fsQ false q))∈(spQ q).attrs.zip (spQ q).vals:=fun y E z=>by
   rw[hz];refine List.mem_map.2 ⟨qNm y,(dX (aQ 5 6) qNm L3 (fun _ _=>E9) (fsQ false q) []).2.1 y E ?_,rfl⟩;rw[aQ,Bool.and_eq_true,decide_eq_true_eq,decide_eq_true_eq];omega
  have W:∀y∈fsQ false q,y.op=5\/y.op=6->A7 1 (qNm y) (kb e ((spQ q).attrs.zip (spQ q).vals))=if(A7 1 (qNm y) e.attrs).2 then(pkV (A7 1 (qNm y) e.attrs).1 (R9 6 (qNm y) (fsQ false q)),true) else(eB,false):=fun y E z=>
   ir e (qNm y) _ _ (by rw[hz,hm];exact a2) (a1 y E z)
  refine⟨{X5 n with attrs:=(X5 n).attrs++kb e ((spQ q).attrs.zip (spQ q).vals)},List.mem_append.2 (.inl (List.mem_flatMap.2 ⟨n,?_,mR e _ _⟩)),J.symm,fun y E=>⟨fun z _=>?_,fun z=>?_,fun z I=>?_,fun _ D=>absurd J D⟩⟩
  .rw[hn];split
   .rename_i h;exact List.mem_append.2 (.inl (P9.1 h))
   .exact List.mem_append.2 (.inr (List.mem_singleton.2 rfl))
  .have u:qNm y∈(spQ q).names:=(dX (aQ 4 4) qNm L3 (fun _ _=>E9) (fsQ false q) []).2.1 y E (by rw[aQ,Bool.and_eq_true,decide_eq_true_eq,decide_eq_true_eq];omega);show L3 (e.space,e.loc) (qNm y)=L3 (n.1,n.2) (qNm y);rw[hn];split
   .rfl
   .rename_i h;have U:L3 (e.space,e.loc) (qNm y)=false:=by
     cases S:L3 (e.space,e.loc) (qNm y)with
     |false=>rfl
     |true=>exact absurd (P9.2 (E9.1 S▸u)) h
    have O:L3 (zNm (Q6 (spQ q).names)) (qNm y)=false:=by
     cases S:L3 (zNm (Q6 (spQ q).names)) (qNm y)with
     |false=>rfl
     |true=>
      have:=(sF (spQ q).names).1;rw[P9.2 (E9.1 S▸u)]at this;cases this
    rw[U];exact O.symm
  .show(A7 e.kind (qNm y) e.attrs).2=(A7 1 (qNm y) ([]++kb e ((spQ q).attrs.zip (spQ q).vals))).2;rw[List.nil_append,W y E z,J];cases S:(A7 1 (qNm y) e.attrs).2 with
   |false=>rfl
   |true=>rfl
  .show decide ((A7 e.kind (qNm y) e.attrs).1=y.vl)=decide ((A7 1 (qNm y) ([]++kb e ((spQ q).attrs.zip (spQ q).vals))).1=y.vl);rw[J]at I ⊢;rw[List.nil_append,W y E (.inr z),if_pos I];refine Mf ((dX (dt 6 (qNm y)) Q.vl cj (fun _ _=>uf) (fsQ false q) []).2.1 y E ?_);rw[dt,Bool.and_eq_true,decide_eq_true_eq];exact⟨z,E9.2 rfl⟩
 .have D:e.kind≠1:=oM;obtain⟨t,ht⟩:∃t,t=if T7 (spQ q).texts e.text then e.text else dg (T8 (spQ q).texts):=eX;refine⟨dp t,List.mem_append.2 (.inr (List.mem_map.2 ⟨t,?_,rfl⟩)),J.symm,fun y E=>⟨fun _ U=>absurd U D,fun z=>?_,fun z I=>?_,fun z _=>?_⟩⟩
  .rw[ht];split
   .rename_i h;exact List.mem_append.2 (.inl (aA.1 h))
   .exact List.mem_append.2 (.inr (List.mem_singleton.2 rfl))
  .rw[jd D];exact(jd (k:=2) oM _ _).symm
  .rw[jd D]at I;cases I
  .have a5:=Ep _ false q lR a4 y E;obtain⟨_,_,_,I,_⟩:=a5.parts;have a3:qNm y=(eB,eB):=by
    simp only[iG,if_true,Bool.and_eq_true]at I;have O:=I.1.2;have h3:xn y.op=false:=by rw[z];rfl
    rw[h3,iH]at O;simp only[Bool.and_eq_true,beq_iff_eq]at O;have h4:=O.1;have X:(decide (y.sp=eB)&&decide (y.lc=eB))=true:=by
     cases S:(decide (y.sp=eB)&&decide (y.lc=eB))with
     |true=>rfl
     |false=>rw[S]at h4;cases h4
    simp only[Bool.and_eq_true,decide_eq_true_eq]at X;exact Prod.ext X.1 X.2
   have u:y.vl∈(spQ q).texts:=(dX (dt 7 (eB,eB)) Q.vl cj (fun _ _=>uf) (fsQ false q) []).2.1 y E (by
    rw[dt,Bool.and_eq_true,decide_eq_true_eq];exact⟨z,E9.2 a3⟩)
   show decide (e.text=y.vl)=decide (t=y.vl);rw[ht];split
   .rfl
   .rename_i h;have U:¬e.text=y.vl:=fun w=>h (aA.2 (w▸u));have O:¬dg (T8 (spQ q).texts)=y.vl:=fun w=>by
     have:=(me (spQ q).texts).1;rw[w,aA.2 u]at this;cases this
    rw[decide_eq_false U,decide_eq_false O]
theorem yH{q:Q}(I:OkD false q){r:ReD}(h:kV q=some r){e:EvD}(U:e.kind=1\/e.kind=2){a b:Nat}(O:a<r.sorts.length)(S:b<r.sorts.length)(X:R5 r.sorts e.kind a b=true):I4 r.strat e (r.sorts.getD a soZ) (r.sorts.getD b soZ)∈r.sorts:=by
 obtain⟨_,J,l,W,E⟩:=gi h;obtain⟨x,hx,D,z⟩:=xH q I e U;have u:=iC (spQ q) (jM q).2.2.1;rw[W]at u;split at u
 .cases u
 .cases u;rw[yG (x:=x) _ _ D (fun p hp t ht y hy=>z y (pK q p (J▸hp) t ht y hy))];exact sr h O S x (by rw[E];exact hx) (by rw[D];exact X)
theorem Je{H:d8}{lo:Nat}{y:LV}{e:EvD}(h:EvR H lo y e)(F:Nat->Prop)(S:∀j,j<lo->F j):EvF H F y e:=by
 obtain⟨v,D,u,_⟩:=h;refine⟨v,D,?_⟩;rcases u with u|⟨b,o,c,W,u⟩
 .exact .inl u
 .exact .inr ⟨b,o,c,W,u.imp id fun⟨z,own,E,I,J,O⟩=>⟨z,own,S b E,I,J,fun i a U=>(O i a U).1⟩⟩
theorem qo(x y:SoD):aP x y=aP y x:=by
 rw[Bool.eq_iff_iff];exact⟨fun h=>by have:=rL h;subst this;exact h,fun h=>by have:=rL h;subst this;exact h⟩
theorem EE{α:Type}{p:α->Bool}:∀(l:List α)(k:Nat),(∃y∈l,p y=true)->(k:Int)<=ixG p l k
 |[],k,h=>by obtain⟨y,u,_⟩:=h;cases u
 |x::l,k,h=>by
  rw[ixG];split
  .exact Int.le_refl _
  .rename_i D;obtain⟨y,u,z⟩:=h;rcases List.mem_cons.1 u with rfl|u
   .exact absurd z D
   .have:=EE l (k+1) ⟨y,u,z⟩;omega
theorem PS(K:Nat)(H:d8)(lo:Nat)(cs ce:LV)(q:Q)(e:EvD)(f n k:Int)(t1:lo<=H.next)(hr:QR H lo K false cs q)(he:EvR H lo ce e):
  CL prog gh 6 [.agg cs.toArray,.agg ce.toArray,iV f,iV n,iV k] H=some (.bool true,none):=by
 have ac:=F7 hr;have ldc:=N5 hr;have l0:=hr.len;simp only[qSz,bF]at l0;rw[l0]at ldc;have o8:=he;obtain⟨av,g7,p7,_⟩:=o8;obtain⟨aa,r2,rfl⟩:=p7.slice;have a6:ce.length=5:=by rw[g7];rfl
 have a4:ce.all oC=true:=by rw[g7];rfl
 have a7:ce.take 5=ce:=List.take_of_length_le oM;have c0:ce[0]?=some (.int .i64 e.kind):=by rw[g7];rfl
 obtain⟨H0,O,n0,-⟩:=pushF H (bC cs 1);obtain⟨H1,E⟩:=eY (H0.push (bC ce 1));have n1:H1.next=H.next+2:=by rw[E,i5,n0]
 have s1:i6 H.next H H1:=by rw[E,O];exact(i6.first H _).trans (i6.push (by rw[i5];exact Nat.le_succ _))
 have g1:H1.get H.next=cE cs 1:=by rw[E,i7 oM,O];exact j9
 have g2:H1.get (H.next+1)=cE ce 1:=by rw[E,<-n0];exact j9
 have D:H1.low=H.next:=by rw[E,l9,O];rfl
 have k4:QR H1 lo K false cs q:=hr.mono (fun j hj=>s1.get j oM) lR;have g8:EvR H1 lo ce e:=he.mono (fun j hj=>s1.get j oM) lR;have h9:=JU H1;have W:=aX (IC H1 lo K cs q oM k4 (fun h=>⟨(iJ h).1,by have:=(iJ h).2;omega⟩));obtain⟨t,J⟩:=Ma H1 lo ce e oM g8
 replace J:=aX J
 rw[j7 fn6 rfl _ sM];rcases b:(gl q&&lZ q)with _|_
 .rw[b]at W;exact J13 ac a4 O.symm n0 E.symm g1 g2 ldc a6 a7 h9 W D trivial
 rw[b]at W;rcases b2:(gI e&& !decide (e.kind=3)&&t)with _|_
 .rw[b2]at J;exact J14 ac a4 O.symm n0 E.symm g1 g2 ldc a6 a7 h9 W J D trivial
 rw[b2]at J;simp only[Bool.and_eq_true]at b;obtain⟨e8,hn⟩:=iJ b.1;obtain⟨v,h,H2,a9,I,X,er,rfl,s2,c5⟩:=EP K H1 lo cs q oM k4 e8 oM;have n2:=s2.next;have p3:H.next<=H2.low:=s2.lowAll H.next oM oM;obtain⟨H3,a8,n3,x3,-⟩:=pushE H2 (bC [nS,nS,nS,iV 0,iV 0,iV 0,nS,nS,nS,nS,nS,nS] 1);obtain⟨H4,S⟩:=eY (H3.put H2.next (bC X 1));have e3:H.next<=H4.low:=by rw[S,A4,a8,l9];omega
 rcases c5 with⟨c5,rfl,rfl⟩|⟨r,c5,rfl,a5,hR⟩
 .have m1:splice z12 0 z12=z12:=rfl;simp only[z12]at S a9 m1;exact J21 ac a4 O.symm n0 E.symm g1 g2 ldc a6 a7 h9 W J D a9 I a8.symm x3 m1 S.symm e3 trivial
 have c8:e.kind=1\/e.kind=2:=by
  simp only[Bool.and_eq_true,Bool.not_eq_true',decide_eq_false_iff_not]at b2;have h1:=b2.1.1;have h3:=b2.1.2;by_cases k1:e.kind=1
  .exact .inl k1
  .by_cases k2:e.kind=2
   .exact .inr k2
   .rw[gI,if_neg k1,if_neg k2]at h1
    exfalso
    revert h1
    simp [h3]
 have o2:=hR;obtain⟨rs,vl,w1,w2,w3,b6,h6,p0,h5,p9,o9⟩:=hR;obtain⟨pa,pc,ga,gc,xa,xc,ea,ec,ta,tc,h4,_⟩:=F1 h6;have l4:rs.length=8:=by rw[h4];rfl
 have z:X.length=12:=by rw[b6];simp [l4]
 obtain⟨a1,c1,rfl⟩:=h5.slice;obtain⟨a2,c2,rfl⟩:=p9.slice;obtain⟨a3,c3,rfl⟩:=o9.slice;obtain⟨la,lc,rfl⟩:=p0.slice;have u:X.all oC=true:=by rw[b6,h4];rfl
 have q9:X[9]?=some (.slice a1 r.sorts.length c1):=by rw[b6,List.getElem?_append_right oM,l4];rfl
 have b4:splice [nS,nS,nS,iV 0,iV 0,iV 0,nS,nS,nS,nS,nS,nS] 0 X=X:=by rw[b6,h4];rfl
 have b3:X.take 12=X:=List.take_of_length_le oM;have k7:ldC (some true) (some 8) 0 X=some (.agg rs.toArray):=by
  rw[eW _ _ _ oM,b6,List.drop_zero,List.take_append_of_le_length oM,List.take_of_length_le oM]
 obtain⟨⟨m,g9⟩,g3,_⟩:=gi c5;have x4:H4.get H2.next=cE X 1:=by rw[S];exact j5 oM
 have n4:H4.next=H2.next+1:=by rw[S,t5,n3]
 have y4:∀j,j<H2.next->H4.get j=H2.get j:=fun j hj=>by rw[S,j6 oM,a8,i7 oM]
 have j1:=o2.mono (F':=(· <H4.next)) y4 (fun j hj=>oM);have b0:H4.get (H.next+1)=cE ce 1:=by rw[y4 _ oM,s2.get _ oM];exact g2
 have t0:=a5.l1;have s9:=a5.l0;obtain⟨H5,o0,n5,i1,s5⟩:=pushP H4 (bC [.bool false,.bool false,.string eB] 1) (.cells [.bool true,.bool false,.string ⟨#[120]⟩] true 1);have x5:=(s5.get H2.next oM).trans x4;have m7:=(s5.get (H.next+1) oM).trans b0;have e7:=j1.mono (F':=(· <H5.next)) (fun j hj=>s5.get j hj) (fun j hj=>oM);have f5:∀j,j<lo->H5.get j=H1.get j:=fun j hj=>by rw[s5.get j oM,y4 j oM,s2.get j oM]
 have e9:EvF H5 (· <H5.next) ce e:=Je (g8.mono (fun j hj=>f5 j hj) lR) _ (fun j hj=>oM);have j2:e.attrs.length<=1000000:=by
  simp only[Bool.and_eq_true]at b2;have h1:=b2.1.1;rcases c8 with k1|k1
  .rw[gI,if_pos k1]at h1;simp only[Bool.and_eq_true,gH,decide_eq_true_eq]at h1;have:=h1.2.2;omega
  .rw[gI,if_neg oM,if_pos k1]at h1;simp only[Bool.and_eq_true,decide_eq_true_eq]at h1;have:=h1.2;omega
 have i2:=aX (Fc H1 lo K r _ a5 H5 X e7 oM f5 u ce e e9 j2 f n);have j0:=aX (PY _ _ r H5 X e7 z u ce e e9 n);obtain⟨q4,r8,H6,q2,l5,⟨G,O6⟩,s6⟩:=(JB _ _ r m g9 a5.sb a5.at_ k.toNat k H5 X lR e7 z u).one;have n6:=s6.next;have x6:=(s6.get H2.next oM).trans x5;have m8:=(s6.get H4.next oM).trans i1;have o3:=e7.mono (F':=(· <H6.next)) (fun j hj=>s6.get j hj) (fun j hj=>oM);obtain⟨q5,t2,H7,q3,l6,O7,s7⟩:=Ret.one (Qe _ _ r m g9 a5.sb H6 X o3 z u k.toNat k H6 lR (i6.refl _ _));have n7:=s7.next;have x7:=(s7.get H2.next oM).trans x6;have m9:=(s7.get H4.next oM).trans m8;obtain⟨L,hL⟩:=eY (bn r (k.toNat+1) k);have o1:∀e∈L,e.attrs.length<=1000000:=by rw[hL];exact oI r a5.at_ _ _
 have s4:L.length<=400:=by
  have h1:=gu g9 a5.sb (k.toNat+1) k;have h2:r.size.getD k.toNat 0<=200:=by
   rw[List.getD_eq_getElem?_getD];cases hq:r.size[k.toNat]? with
   |none=>decide
   |some y=>exact(a5.sb y (mG hq)).2
  rw[<-hL]at h1;omega
 have n8:=aX (Cp H6 H7 L H5.next q4 q5 G o1 (by rw[hL];exact O6) (by rw[hL];exact O7) s7 oM);have f9:SlI H7 H7.next 3 (w9 soE) (.slice a1 r.sorts.length c1) r.sorts:=h5.mono (fun j hj=>by rw[s7.get j oM,s6.get j oM,s5.get j oM,y4 j hj]) (fun j hj=>oM) iF;have n9:=aX (wX H7 X r.sorts _ f9 z u q9 oM (true,false,⟨#[120]⟩));have i3:=aX (Ea H7 H7.next _ r.sorts (true,false,⟨#[120]⟩) lR f9 oM);have o7:(fun y=>aP y (true,false,(⟨#[120]⟩:ByteArray)))=fun y=>aP (true,false,(⟨#[120]⟩:ByteArray)) y:=by funext y;exact qo _ _
 rw[o7]at i3;have k8:H.next<=H5.low:=s5.lowAll _ oM e3;have k9:H.next<=H6.low:=s6.lowAll _ oM k8;have l3:H.next<=H7.low:=s7.lowAll _ oM k9;have U:∀(e':Env)(w:Int)(mb:Bool),e'.get 11=pT H2.next->e'.get 6=pT (H.next+1)->e'.get 2=iV f->e'.get 3=iV n->e'.get 4=iV k->e'.get 14=iV w->e'.get 15= .bool mb->jC r e f n=w->R5 r.sorts e.kind 0 n=mb->
   u5 prog [ResultVar.tmp 10] H (LE prog gh KO e' H4)=some (.bool true,none):=by
  intro e' w mb m4 f6 f2 f3 f4 m5 m6 hw p4;rw[hw]at i2;rw[p4]at j0;have t8:splice [.bool false,.bool false,.string eB] 0 [.bool true,.bool false,.string ⟨#[120]⟩]=[.bool true,.bool false,.string ⟨#[120]⟩]:=rfl;have o5:F6 prog .eql 4 (.bool true) (.bool true)=some (.bool true):=kR;have o4:F6 prog .eql 4 (.bool false) (.bool false)=some (.bool true):=kR;unfold KO;cases mb<;>simp(maxSteps:=20000000) -dsimp (disch:=first|omega|(simp only[rH]<;>omega)|fail) only[↓ig,rQ,N3,sevalprocAttr,tyA,m4,f6,f2,f3,f4,m5,m6,<-o0,x5,m7,i1,a6,a4,a7,z,u,b3,i2,j0,q2,l5,x6,q3,l6,n8,x7,m9,n9,q9,i3,l3,o5,o4]
 have no:R5 r.sorts e.kind f n=false->jC r e f n= -1:=fun h=>by rw[jC,h];rfl
 rcases d1:decide ((0:Int)<=n)with _|_
 .refine J28 ac a4 O.symm n0 E.symm g1 g2 ldc a6 a7 h9 W J D a9 I a8.symm x3 b4 z u b3 S.symm x4 b0 q9 c0 d1 ?_;exact U _ (-1) false rfl rfl rfl rfl rfl rfl rfl (no (by simp [R5,knB,d1])) (by simp [R5,knB,d1])
 rcases d2:decide (n<(r.sorts.length:Int))with _|_
 .refine J29 ac a4 O.symm n0 E.symm g1 g2 ldc a6 a7 h9 W J D a9 I a8.symm x3 b4 z u b3 S.symm x4 b0 q9 c0 d1 d2 ?_;exact U _ (-1) false rfl rfl rfl rfl rfl rfl rfl (no (by simp [R5,knB,d2])) (by simp [R5,knB,d2])
 have b7:=dT d1;have c4:=dT d2;have e5:SlI H4 H4.next 3 (w9 soE) (.slice a1 r.sorts.length c1) r.sorts:=h5.mono (fun j hj=>y4 j hj) (fun j hj=>oM) iF;obtain⟨ne,nb,ob,i0,r1,m3,k6,_,eb,s3,b8,q7,e4,o6,p5⟩:=e5.row (i:=n.toNat) oM;obtain rfl:m3=soE ne:=p5;cases eb;have g6:r.sorts.getD n.toNat soZ=ne:=by rw[List.getD_eq_getElem?_getD,k6];rfl
 have c7:r.sorts.getD n.toNat (false,false,eB)=ne:=g6;have b9:i0[ob+n.toNat*3+1]?=some (.bool ne.2.1):=o6 1 oM;have kn:knB r.sorts.length n=true:=by rw[knB,d1,d2];rfl
 have k0:knB r.sorts.length 0=true:=by
  rw[knB,Bool.and_eq_true,decide_eq_true_eq,decide_eq_true_eq];omega
 rcases d3:(decide (e.kind=1)|| !ne.2.1)with _|_
 .simp only[Bool.or_eq_false_iff,Bool.not_eq_false']at d3;obtain⟨d3,d7⟩:=d3;have d9:decide (e.kind=2)=true:=decide_eq_true (oN (dF d3));refine J30 ac a4 O.symm n0 E.symm g1 g2 ldc a6 a7 h9 W J D a9 I a8.symm x3 b4 z u b3 S.symm x4 b0 (aI q9 c0) (aI d1 d2) (aI d3 b7) (aI c4 b8) (aI b9 d7) ?_;exact U _ (-1) false rfl rfl rfl rfl rfl rfl rfl (no (by rw[R5,c7,d7,d9];simp)) (by rw[R5,c7,d7,d9];simp)
 have m0:R5 r.sorts e.kind 0 n=true:=by
  rw[R5,c7,k0,kn];rcases c8 with k1|k1
  .rw[k1];rfl
  .rw[k1]at d3 ⊢;have:(!ne.2.1)=true:=by simpa using d3
   rw[this];rfl
 have g5:∀(fi:SoD),0<=f->f<r.sorts.length->r.sorts.getD f.toNat soZ=fi->R5 r.sorts e.kind f n=true->∃w:Int,decide (w<0)=false/\jC r e f n=w/\
   CL prog gh 21 [.agg rs.toArray,.agg ce.toArray,.agg (soE fi).toArray,.agg (soE ne).toArray] H4=some (.agg (soE (I4 r.strat e fi ne)).toArray,none)/\
   CL prog gh 20 [.slice (some ⟨nb,ob,none⟩) r.sorts.length c1,.agg (soE (I4 r.strat e fi ne)).toArray] H4=some (.int .i64 w,none):=by
  intro fi f0 f1 e2 hm;have h6:StF H4 (· <H4.next) (QR H1 lo K false) (QR H1 lo K true) rs r.strat:=by
   obtain⟨l8,u4,u1,u2,u3,h0,g0,_⟩:=j1;have e1:l8=rs:=by
    obtain⟨t3,t4,r6,r7,u8,v0,r4,r5,t9,u0,k5,_⟩:=F1 g0;have l':l8.length=8:=by rw[k5];rfl
    have:=congrArg (List.take 8) (b6.symm.trans h0);rw[List.take_append_of_le_length oM,List.take_append_of_le_length oM,List.take_of_length_le oM,List.take_of_length_le oM]at this;exact this.symm
   rw[<-e1];exact g0
  have f7:∀j,j<lo->H4.get j=H1.get j:=fun j hj=>by rw[y4 j oM,s2.get j oM]
  have j4:EvF H4 (· <H4.next) ce e:=Je (g8.mono (fun j hj=>f7 j hj) lR) _ (fun j hj=>oM);have q1:bJ ne (A0 (C0 q).progs).toNat:=a5.so ne (mG k6);have hf:fi∈r.sorts:=by
   rw[<-e2,List.getD_eq_getElem?_getD,List.getElem?_eq_getElem oM];exact List.getElem_mem _
  have c9:=aX (Qf H1 lo K r.strat e fi ne (· <H4.next) H4 rs ce h6 j4 (fun j hj=>hj) f7 oM _ a5.n0 a5.st (a5.so fi hf) q1 j2 a5.sz (by rw[g3];exact sQ q e8));have p8:vF r.strat e fi ne=I4 r.strat e fi ne:=by rw[g3];exact Cv q e8 oM e fi ne
  rw[p8]at c9;have b5:=aX (Ea H4 H4.next _ r.sorts (I4 r.strat e fi ne) lR e5 oM);have j3:(fun y=>aP y (I4 r.strat e fi ne))=fun y=>aP (I4 r.strat e fi ne) y:=by funext y;exact qo _ _
  rw[j3]at b5;have p6:jC r e f n=ixG (fun y=>aP (I4 r.strat e fi ne) y) r.sorts 0:=by rw[jC,if_pos hm,e2,g6]
  refine⟨_,?_,p6,c9,b5⟩;have f8:=yH e8 c5 c8 (a:=f.toNat) (b:=n.toNat) oM oM (by rw[Int.toNat_of_nonneg f0,Int.toNat_of_nonneg b7];exact hm);rw[e2,g6]at f8;have:=EE (p:=fun y=>aP (I4 r.strat e fi ne) y) r.sorts 0 ⟨_,f8,by simp [aP]⟩;exact decide_eq_false oM
 have g4:∀h:f.toNat<r.sorts.length,∃fi oa,r.sorts[f.toNat]?=some fi/\oa=ob+f.toNat*3/\ldC (some true) (some 3) (ob+f.toNat*3) i0=some (.agg (soE fi).toArray):=fun h=>by
  obtain⟨fi,na,oa,r3,q8,m2,e6,_,ea,r9,k3,q6,b1,s8,e2⟩:=e5.row (i:=f.toNat) h;obtain rfl:m2=soE fi:=e2;cases ea;rw[b8]at k3;cases k3;exact⟨fi,_,e6,rfl,b1⟩
 rcases k1:decide (e.kind=1)with _|_
 .have k2:e.kind=2:=c8.resolve_left (dF k1);have d7:ne.2.1=false:=by rw[k1]at d3;simpa using d3
  rcases d4:decide ((0:Int)<=f)with _|_
  .refine J30 ac a4 O.symm n0 E.symm g1 g2 ldc a6 a7 h9 W J D a9 I a8.symm x3 b4 z u b3 S.symm x4 (aI b0 q9) (aI c0 d1) (aI d2 k1) (aI b7 c4) (aI b8 b9) (aI d7 d4) ?_;exact U _ (-1) true rfl rfl rfl rfl rfl rfl rfl (no (by simp [R5,knB,d4])) m0
  rcases d5:decide (f<(r.sorts.length:Int))with _|_
  .refine J30 ac a4 O.symm n0 E.symm g1 g2 ldc a6 a7 h9 W J D a9 I a8.symm x3 b4 z u b3 S.symm (aI x4 b0) (aI q9 c0) (aI d1 d2) (aI k1 b7) (aI c4 b8) (aI b9 d7) (aI d4 d5) ?_;exact U _ (-1) true rfl rfl rfl rfl rfl rfl rfl (no (by simp [R5,knB,d5])) m0
  rcases d6:decide (f=0)with _|_
  .refine J30 ac a4 O.symm n0 E.symm g1 g2 ldc a6 a7 h9 W J D a9 I a8.symm x3 b4 z u b3 (aI S.symm x4) (aI b0 q9) (aI c0 d1) (aI d2 k1) (aI b7 c4) (aI b8 b9) (aI d7 d4) (aI d5 d6) ?_;exact U _ (-1) true rfl rfl rfl rfl rfl rfl rfl (no (by rw[R5,d6,k2];simp)) m0
  have c6:=dT d4;have d0:=dT d5;obtain⟨fi,_,e6,_,b1⟩:=g4 oM;obtain⟨w,h7,h8,c9,b5⟩:=g5 fi c6 d0 (by rw[List.getD_eq_getElem?_getD,e6];rfl) (by rw[R5,kn,c7,d7,d6,knB,d4,d5];simp);have hp:=c6;refine J30 ac a4 O.symm n0 E.symm g1 g2 ldc a6 a7 h9 W J D (aI a9 I) (aI a8.symm x3) (aI b4 z) (aI u b3) (aI S.symm x4) (aI b0 q9) (aI c0 d1) (aI d2 k1) (aI d7 d6) (aI b7 c4) (aI b8 b9) (aI d4 d5) (aI c6 d0) (aI k7 b1) (aI e4 c9) (aI b5 h7) ?_;exact U _ w true rfl rfl rfl rfl rfl rfl rfl h8 m0
 .have k2:decide (e.kind=2)=false:=decide_eq_false (oN (dT k1));rcases d4:decide ((0:Int)<=f)with _|_
  .refine J30 ac a4 O.symm n0 E.symm g1 g2 ldc a6 a7 h9 W J D a9 I a8.symm x3 b4 z u b3 S.symm x4 b0 (aI q9 c0) (aI d1 d2) (aI k1 b7) (aI c4 b8) (aI b9 d4) ?_;exact U _ (-1) true rfl rfl rfl rfl rfl rfl rfl (no (by simp [R5,knB,d4])) m0
  rcases d5:decide (f<(r.sorts.length:Int))with _|_
  .refine J30 ac a4 O.symm n0 E.symm g1 g2 ldc a6 a7 h9 W J D a9 I a8.symm x3 b4 z u b3 S.symm x4 (aI b0 q9) (aI c0 d1) (aI d2 k1) (aI b7 c4) (aI b8 b9) (aI d4 d5) ?_;exact U _ (-1) true rfl rfl rfl rfl rfl rfl rfl (no (by simp [R5,knB,d5])) m0
  have c6:=dT d4;have d0:=dT d5;obtain⟨fi,_,e6,_,b1⟩:=g4 oM;obtain⟨w,h7,h8,c9,b5⟩:=g5 fi c6 d0 (by rw[List.getD_eq_getElem?_getD,e6];rfl) (by rw[R5,kn,k2,knB,d4,d5];rfl);have hp:=c6;refine J30 ac a4 O.symm n0 E.symm g1 g2 ldc a6 a7 h9 W J D a9 I (aI a8.symm x3) (aI b4 z) (aI u b3) (aI S.symm x4) (aI b0 q9) (aI c0 d1) (aI d2 k1) (aI b7 c4) (aI b8 b9) (aI d4 d5) (aI c6 d0) (aI k7 b1) (aI e4 c9) (aI b5 h7) ?_;exact U _ w true rfl rfl rfl rfl rfl rfl rfl h8 m0
theorem CU(k:Nat):N2 prog (k+2) 53 (fun _ cs a=>AtR cs a):=by
 have h:=X1 (P:=prog) (t:=53) Tryz.underlying53 kR (D0 (k:=2) rfl kR (mt k) (D0 (k:=1) rfl kR (iZ (k+1)) (bL _)));refine h.map (fun x=>⟨x.1.1,x.1.2,x.2.1⟩) ?_ (fun _ _ _ _ _ h=>h);rintro S cs ⟨a,b,u⟩ ⟨c1,c2,rfl,⟨rfl,z,y⟩,E,I,rfl,⟨rfl,D⟩,rfl⟩;exact⟨rfl,z,y,D⟩
theorem Ac(k:Nat):N2 prog (k+3) 49 (fun S cs(l:List AtD)=>∃v,cs=[v]/\Sl S 3 AtR v l/\l.length<=1048576):=eD (P:=prog) (t:=49) (e:=53) (sz:=3) Tryz.underlying49 kR oM (CU k)
def EvG(S:List Blk)(cs:LV)(e:EvD):Prop:=
 ∃v,cs=[iV e.kind,.string e.space,.string e.loc,v,.string e.text]/\Sl S 3 AtR v e.attrs/\e.space.size<=1048576/\e.loc.size<=1048576/\e.text.size<=1048576/\e.attrs.length<=1048576
theorem Ad(k:Nat):N2 prog (k+4) 51 (fun S cs e=>EvG S cs e):=by
 have h:=X1 (P:=prog) (t:=51) Tryz.underlying51 kR (D0 (k:=1) rfl kR (rg (k+3)) (D0 (k:=2) rfl kR (mt (k+2)) (D0 (k:=1) rfl kR (Ac k) (D0 (k:=1) rfl kR (iZ (k+3)) (bL _)))));refine h.map (fun x=>⟨x.1,x.2.1.1,x.2.1.2,x.2.2.1,x.2.2.2.1⟩) ?_ ?_
 .rintro S cs ⟨k,nm,J,tx,u⟩ ⟨c1,c2,rfl,⟨rfl,I⟩,X,c4,rfl,⟨rfl,y,z⟩,c5,c6,rfl,⟨v,rfl,D,E⟩,c7,c8,rfl,⟨rfl,O⟩,rfl⟩;exact⟨v,rfl,D,y,z,O,E⟩
 .rintro S W cs e U ⟨v,I,y,D⟩;exact⟨v,I,y.mono U iF,D⟩
theorem MW{S:List Blk}{cs:LV}{e:EvD}(h:EvG S cs e):EvR ⟨S,S.length⟩ S.length cs e:=by
 obtain⟨v,u,y,z⟩:=h;exact⟨v,u,yA y iF,z⟩
end Go.Proofs.YtofbhlhamfkljaaGreatDoor.Ve
namespace Go.Proofs.YtofbhlhamfkljaaGreatDoor.reachNexts
open Go.ChangeShapes Go.WideShapes Go.ChangeAt Go.RowKit
open Go.Proofs.Tryz (prog)
open Go Ve card
abbrev zg:Array Value:= #[JT,.agg #[.int .i64 0,.string .empty,.string .empty,.slice none 0 0,.string .empty],.int .i64 0,.int .i64 0,.int .i64 0]
theorem Bx(h:Os):laidMet prog PR ((gO h).forCall (fun _ _=>0) ⟨#[],zg,[]⟩).memory:=
 laidMet_of_run' 8 kR kR
theorem Ml(u:Os){H:Type}(enc:TypeId×Value->H):∃h,DataW.whole enc prog ((gO u).forCall (fun _ _=>0) ⟨#[],zg,[]⟩).memory [25,51,3,3,3] [] false zg.toList 8=some ([.agg [.lit (.int .i64 0),.nil,.nil],.agg [.lit (.int .i64 0),.agg [.lit (.string []),.lit (.string [])],.nil,.lit (.string [])],.lit (.int .i64 0),.lit (.int .i64 0),.lit (.int .i64 0)],[],h):=
 ⟨[],kR⟩
theorem DE(H:Type)(enc:TypeId×Value->H)(W:World)(base:Nat)(args:Array Value)(ds gs:List (DataW H))(I:List MemPlace)
  (u:∀(j:Nat) t v,Tryz.f6.params[j]?=some t->args[j]?=some v->Value.okWide prog W .any base t v)
  (hW:DataW.Whole enc prog Tryz.f6.params.toList Rows.reachNextsSpec.vars false W args.toList ds gs I) (hk:Rows.uptoSmall H (ds++gs)=true):
  Calls prog 6 args W fun e W'=>∃v,e= .returned v/\Rows.reachNextsSpec.post enc prog Tryz.f6 false true false false W args v W':=by
 have b0:=hW;obtain⟨p,q,U,hV,rfl,c8,c9⟩:=hW;have hA:DataW.TrodAll enc prog W 0 (fun _=>true) true Tryz.f6.params.toList args.toList ds p:=U;rw[Tryz.params6]at hA u;obtain⟨v0,d5,d0,b9,p0,q0,b1,rfl,rfl,h0,r0⟩:=trodAll_cons hA;obtain⟨v1,d6,d1,c0,p1,q1,rfl,rfl,rfl,h1,r1⟩:=trodAll_cons r0;obtain⟨v2,d7,d2,c3,p2,q2,rfl,rfl,rfl,h2,r2⟩:=trodAll_cons r1;obtain⟨v3,d9,d3,c4,p3,q3,rfl,rfl,rfl,h3,r3⟩:=trodAll_cons r2;obtain⟨v4,e1,d4,c5,p4,q4,rfl,rfl,rfl,h4,r4⟩:=trodAll_cons r3;obtain⟨rfl,rfl,rfl⟩:=trodAll_nil r4;obtain rfl:args= #[v0,v1,v2,v3,v4]:=by cases args;simp_all
 obtain⟨rfl,rfl⟩:=trodVars_none hV;obtain⟨a0,rfl,_⟩:=okWide_struct Tryz.underlying25 (u 0 25 v0 rfl rfl);obtain⟨a1,rfl,_⟩:=okWide_struct Tryz.underlying51 (u 1 51 v1 rfl rfl);obtain⟨n2,rfl⟩:=okWide_int Tryz.underlying3 (u 2 3 v2 rfl rfl);obtain⟨n3,rfl⟩:=okWide_int Tryz.underlying3 (u 3 3 v3 rfl rfl);obtain⟨n4,rfl⟩:=okWide_int Tryz.underlying3 (u 4 3 v4 rfl rfl);have k0:=h0;have k1:=h1;have b4:∀x∈p0,x.block<W.heap.size:=by obtain⟨m,O⟩:=h0;exact DataW.trod_lt m _ _ _ O
 have b5:∀x∈p1,x.block<W.heap.size:=by obtain⟨m,O⟩:=h1;exact DataW.trod_lt m _ _ _ O
 have b6:∀x∈p2,x.block<W.heap.size:=by obtain⟨m,O⟩:=h2;exact DataW.trod_lt m _ _ _ O
 have b7:∀x∈p3,x.block<W.heap.size:=by obtain⟨m,O⟩:=h3;exact DataW.trod_lt m _ _ _ O
 have b8:∀x∈p4,x.block<W.heap.size:=by obtain⟨m,O⟩:=h4;exact DataW.trod_lt m _ _ _ O
 have hb:Rows.uptoBulk d0<=1048576/\Rows.uptoBulk d1<=1048576:=by
  have h:Rows.uptoBulkAll ([d0,d1,d2,d3,d4]++[])<=1048576:=dT hk;simp only[Rows.uptoBulkAll,List.cons_append,List.nil_append]at h;omega
 obtain⟨z,b2⟩:=h0;obtain⟨E,b3⟩:=h1;obtain⟨φ1,S1,x1,q,c6,c7,X,a4,_,a8⟩:=(mu (z+1)).1.2 enc W z oM _ d0 p0 b2 hb.1 [] [] (FQ W);obtain⟨φ2,S2,x2,ev,a6,a7,a2,a5,_,a9⟩:=(Ad E).2 enc W E oM _ d1 p1 b3 hb.2 φ1 S1 X;have a3:=PS _ ⟨S2,S2.length⟩ S2.length x1 x2 q ev n2 n3 n4 lR (Ru ((mu (z+1)).1.1 _ _ _ _ a7 a8)) (MW a9);have S:∀(φ:List Ve.Loc)(xs:LV)(ws:Array Value),VRs φ xs (Value.agg ws).cells.toList->VR φ (.agg xs.toArray) (.agg ws):=fun φ xs ws h=> .agg (by simpa [Value.cells] using h.1) (fun i x y hx hy=>h.2 i x y (by simpa using hx) (by simpa [Value.cells] using hy));have J:VRs φ2 [.agg x1.toArray,.agg x2.toArray,.int .i64 n2,.int .i64 n3,.int .i64 n4] [.agg a0,.agg a1,.int .i64 n2,.int .i64 n3,.int .i64 n4]:= .cons (S _ _ _ (a4.mono a6)) (.cons (S _ _ _ a5) (.cons (.int _ _) (.cons (.int _ _) (.cons (.int _ _) (.nil φ2)))));clear U;refine(Bz kR HP a2 J a3).mono fun e W'⟨he,D⟩=>?_;subst he;exact⟨_,rfl,_,_,_,[],_,[],b0,trodAll_mk1 (shut_bool Tryz.underlying4 _),(trodAll_cons_mk (Below.trod jt kR (dT kR) k0 D b4) (trodAll_cons_mk (Below.trod jt kR (dT kR) k1 D b5) (trodAll_cons_mk (Below.trod jt kR (dT kR) h2 D b6) (trodAll_cons_mk (Below.trod jt kR (dT kR) h3 D b7) (trodAll_cons_mk (Below.trod jt kR (dT kR) h4 D b8) trodAll_mk0))))),rfl,D.frame _,fun h=>by cases h⟩
theorem LJ(D:Os)(h:D.Started)(H:Type)(enc:TypeId×Value->H)(F:Stop.Interp):
  ReturnsInHanded {} Tryz.checked D 6 .any ((Rows.OpenSpec.upto Rows.reachNextsSpec).preRow enc prog Tryz.f6 Rows.reachNextsUptoRow.domain false Rows.reachNextsUptoRow.laid) (((Rows.OpenSpec.upto Rows.reachNextsSpec).at F).post enc prog Tryz.f6 false true false false):=by
 obtain⟨E,S⟩:=Ml D enc;refine returnsInHanded_of_row (C:=Tryz.checked) (s:=Rows.OpenSpec.upto Rows.reachNextsSpec) own h kR Tryz.func6
  (witness_row_at (enc:=enc) (C:=Tryz.checked) false (gO D) zg rfl kR kR kR
   (OpenSpec.preRow_of_cond 8 S kR (fun k O=>by cases O;kernel_rfl) kR (Bx D))) ?_
 intro W base args ds I u z J _ y _ U _ _;exact DE H enc W base args ds I u z J (y _ rfl)
theorem Rx:Rows.ReachNextsUptoSaid:=
 OpenClaim.holds_of_cond 6 Tryz.f6 rfl rfl rfl rfl rfl rfl rfl ⟨rfl,rfl,rfl,rfl,rfl⟩ rfl rfl rfl rfl rfl kR Tryz.func6 kR
  (dT kR) (by unfold Func.isWrapper;first|(rw[if_pos (by decide+kernel)];kernel_rfl)|(rw[if_neg (by decide+kernel)];exact⟨rfl,rfl⟩))
  (fun u h H enc _ F=>by rw[OpenClaim.pre_eq_preRow];exact LJ u h H enc F)
theorem plain(f:FuncId)(u:Func)(D:Tryz.pinned.checked.prog.funcNamed "oriel/oriellaw21.ReachNexts" =some f)(y:Tryz.pinned.checked.prog.funcs[f]?=some u):
  false=Tryz.pinned.checked.prog.looks []/\∀(j:Nat) t,u.params[j]?=some t->Tryz.pinned.checked.prog.wantsStandIn t=false:=by
 obtain rfl:f=6:=Option.some.inj ((show prog.funcNamed "oriel/oriellaw21.ReachNexts" =some 6 from kR).symm.trans D) |>.symm;obtain rfl:u=Tryz.f6:=(Option.some.inj (Tryz.func6.symm.trans y)).symm;refine⟨kR,fun j t z=>?_⟩;rw[Tryz.params6]at z;have h:t=25\/t=51\/t=3:=by simpa using Array.mem_of_getElem? z
 rcases h with rfl|rfl|rfl
 .exact(show prog.wantsStandIn 25=false from kR)
 .exact(show prog.wantsStandIn 51=false from kR)
 .exact(show prog.wantsStandIn 3=false from kR)
theorem cardUpto:Rows.ReachNextsUptoCardSaid:=
 Claim7.holds_tied_plain_at .later [] _ _ _ _ Rx (fun _ h=>by cases h) kR (fun _ h=>by cases h) reachNextsUpto_row_tie rfl ⟨rfl,rfl⟩ kR rfl plain kR
end Go.Proofs.YtofbhlhamfkljaaGreatDoor.reachNexts
namespace Go.Proofs.YtofbhlhamfkljaaGreatDoor
open Go Go.RowKit
open Go.Proofs.Tryz (prog)
theorem reachNexts_holds:Rows.ReachNextsUptoCardSaid:=reachNexts.cardUpto
end Go.Proofs.YtofbhlhamfkljaaGreatDoor
