/- The evaluator is sound: regions, code, calls. Conditions: those of the library functions that are handed in. -/
import Derived.Test.YtcpolfjnbbodgaaVeSound
import Derived.Scope
import Derived.LoopN
namespace Go.Proofs.Ytcpolfjnbbodgaa.Ve
open Go Go.RowKit
set_option linter.unusedVariables false
set_option linter.unusedSimpArgs false

section
variable {P : Program} {base : Nat} {w0 : World} {φ : List Loc} {S : List Blk} {w : World} {nt : Nat} {e : Env} {a : Act}

/-- what holds behind a piece of code -/
def Post (base : Nat) (w0 : World) (φ : List Loc) (H : Heap) (w : World) (nt : Nat) (ds : List Deferred) (e' : Env) (H' : Heap) (K : Act → World → Prop) : Prop :=
  ∀ φ' a' w', Ext φ φ' → ER φ' nt e' a' → WR base w0 φ' H'.bs w' → Fr φ H.bs H'.low w w' → a'.defers = ds → K a' w'

theorem okOps_mem {ops : Array Oper} (h : okOps nt ops = true) {o : Oper} (ho : o ∈ ops.toList) : o.op.operands.toList.all okOperand = true ∧ dstOk nt o.dst = true := by
  have := List.all_eq_true.1 h o ho
  simpa only [Bool.and_eq_true] using this
theorem okOps_dst {ops : Array Oper} (h : okOps nt ops = true) (j : Nat) (oj : Oper) (d : Nat) (hj : ops[j]? = some oj) (hd : oj.dst = some d) : d < nt := by
  have := (okOps_mem h (o := oj) (by simpa using Array.mem_of_getElem? hj)).2
  rw [hd] at this
  simpa [dstOk] using this

theorem call_parts {C : CallF} {o : Oper} {H : Heap} {v : Value} {r : Option Heap} (hc : isCall o.op = true) (h : aop P C o.op e H = some (v, r)) :
    ∃ (c : Call) (f : Operand) (g : FuncId) (first captured : Array Value), o.op = .call c ∧ c.callee = .value f ∧ opv e f = .func (.func g) first captured ∧ C g (first.toList ++ c.args.toList.map (opv e) ++ captured.toList) H = some (v, r) := by
  obtain ⟨dst, op, ty, pos, after, guard⟩ := o
  simp only at h hc
  cases op <;> first | (cases hc; done) | skip
  rename_i c
  obtain ⟨cal, as, ats⟩ := c
  cases cal <;> first | (cases hc; done) | skip
  rename_i f
  simp only [aop, callA] at h
  split at h
  · rename_i g first captured hf
    exact ⟨_, f, g, first, captured, rfl, rfl, hf, h⟩
  · cases h

theorem runOps_le {C : CallF} (hC : CallOk P base w0 C) {ops : Array Oper} : ∀ {l : List Oper} {e e' : Env} {H H' : Heap}, runOps P C ops l e H = some (e', H') → Le H H' := by
  intro l
  induction l with
  | nil => intro e e' H H' h; cases h; exact Le.refl _
  | cons o l ih =>
    intro e e' H H' h
    simp only [runOps] at h
    split at h
    · split at h
      · exact ih h
      · rename_i v H2 hop
        refine Le.trans ?_ (ih h)
        cases hc : isCall o.op with
        | false => exact le_op hc hop
        | true =>
          obtain ⟨c, f, g, first, captured, _, _, _, hcall⟩ := call_parts hc hop
          exact (hC _ _ _ _ _ hcall).2.1 _ rfl
      · cases h
    · exact ih h

theorem fr_same (H : Heap) : Fr φ H.bs H.low w w := fun _ _ _ _ _ _ _ => rfl

theorem call_args (hE : ER φ nt e a) {o : Oper} {c : Call} {f : Operand} {g : FuncId} {first captured : Array Value} (hok : o.op.operands.toList.all okOperand = true) (ho : o.op = .call c) (hcal : c.callee = .value f)
    (hf : opv e f = .func (.func g) first captured) : ∃ first' captured', a.eval f = .func (.func g) first' captured' ∧ VRs φ (first.toList ++ c.args.toList.map (opv e) ++ captured.toList) (first' ++ c.args.map a.eval ++ captured').toList := by
  simp only [ho, Op.operands, Call.operands, hcal, Array.toList_append, List.all_append, Bool.and_eq_true, List.all_cons, List.all_nil, Bool.and_true] at hok
  have hv := hE.op hok.1
  rw [hf] at hv
  generalize hz : a.eval f = z at hv
  cases hv with
  | func g h1 h2 h3 h4 =>
    rename_i first' captured'
    refine ⟨first', captured', rfl, ?_⟩
    simp only [Array.toList_append, Array.toList_map]
    exact VRs.append (VRs.append ⟨h1, h2⟩ (hE.args hok.2)) ⟨h3, h4⟩

theorem runOps_sound {C : CallF} (hC : CallOk P base w0 C) {ops : Array Oper} (hops : okOps nt ops = true) {Q : Exit → Act → World → Prop} : ∀ {l : List Oper} (hl : ∀ o ∈ l, o ∈ ops.toList) {φ : List Loc} {e e' : Env} {H H' : Heap} {a : Act} {w : World},
    runOps P C ops l e H = some (e', H') → ER φ nt e a → WR base w0 φ H.bs w → Post base w0 φ H w nt a.defers e' H' (Q .normal) → wpList P ops Q l a w := by
  intro l
  induction l with
  | nil =>
    intro hl φ e e' H H' a w h hE hW hp
    cases h
    exact hp φ a w (Ext.refl φ) hE hW (fr_same H) rfl
  | cons o l ih =>
    intro hl φ e e' H H' a w h hE hW hp
    obtain ⟨hok, hdst⟩ := okOps_mem hops (hl o (by simp))
    have hl' : ∀ o ∈ l, o ∈ ops.toList := fun o ho => hl o (by simp [ho])
    simp only [runOps] at h
    rw [hE.wanted ops o (okOps_dst hops)] at h
    unfold wpList
    have hput : ∀ v, (a.put o.dst v).defers = a.defers := fun v => by unfold Act.put; split <;> rfl
    split at h
    · rename_i hw
      rw [if_pos hw]
      left
      -- what follows an operation that turned the heap to H2
      have next : ∀ (v : Value) (H2 : Heap) (v' : Value) (w' : World) (φ' : List Loc), Le H H2 → runOps P C ops l (putA e o.dst v) H2 = some (e', H') → Ext φ φ' → VR φ' v v' → WR base w0 φ' H2.bs w' → Fr φ H.bs H2.low w w' →
          wpList P ops Q l (a.put o.dst v') w' := by
        intro v H2 v' w' φ' hle hr hx hv hW' hfr
        refine ih hl' hr ((hE.mono hx).put hdst hv) hW' ?_
        intro φ2 a2 w2 hx2 hE2 hW2 hfr2 hd2
        exact hp φ2 a2 w2 (hx.trans hx2) hE2 hW2 (Fr.trans hx hle (runOps_le hC hr) hW.len hfr hfr2) (by rw [hd2, hput])
      cases hc : isCall o.op with
      | false =>
        split at h
        · rename_i v hop
          obtain ⟨v', hv, hrun⟩ := op_keep hW hE hok hc hop
          unfold Oper.wp
          rw [hrun w hW.cls, Oper.upon_value]
          exact next v H v' w φ (Le.refl H) h (Ext.refl φ) hv hW (fr_same H)
        · rename_i v H2 hop
          obtain ⟨v', w', φ', hrun, hx, hv, hW', hfr⟩ := op_turn hW hE hok hc hop
          unfold Oper.wp
          rcases hrun with hrun | ⟨hrun, rfl⟩
          · rw [hrun, Oper.upon_value]
            exact next v H2 v' w' φ' (le_op hc hop) h hx hv hW' hfr
          · rw [hrun, Oper.upon_skip]
            exact next v H2 undef w' φ' (le_op hc hop) h hx hv hW' hfr
        · cases h
      | true =>
        split at h
        · rename_i v hop
          obtain ⟨c, f, g, first, captured, ho, hcal, hf, hcall⟩ := call_parts hc hop
          obtain ⟨first', captured', hf', hargs⟩ := call_args hE hok ho hcal hf
          obtain ⟨hen, _, hna, hspec⟩ := hC _ _ _ _ _ hcall
          have hcl := hspec φ w _ hargs hW
          unfold Oper.wp
          rw [call_resolve hcal (ty := o.type) hf' hen ho, Oper.upon_enter]
          simp only [Array.toArray_toList] at hcl
          refine hcl.mono fun en w' hpost => ?_
          obtain ⟨rfl, hcls⟩ := hpost
          exact next v H v w' φ (Le.refl H) h (Ext.refl φ) (VR.na (hna rfl)) hcls.wr (fun b B l _ hB hd hl => hcls.same b B l hB hd hl)
        · rename_i v H2 hop
          obtain ⟨c, f, g, first, captured, ho, hcal, hf, hcall⟩ := call_parts hc hop
          obtain ⟨first', captured', hf', hargs⟩ := call_args hE hok ho hcal hf
          obtain ⟨hen, hle, _, hspec⟩ := hC _ _ _ _ _ hcall
          have hcl := hspec φ w _ hargs hW
          unfold Oper.wp
          rw [call_resolve hcal (ty := o.type) hf' hen ho, Oper.upon_enter]
          simp only [Array.toArray_toList] at hcl
          refine hcl.mono fun en w' hpost => ?_
          obtain ⟨v', φ', rfl, hx, hv, hW', hfr⟩ := hpost
          exact next v H2 v' w' φ' (hle H2 rfl) h hx hv hW' hfr
        · cases h
    · rename_i hw
      rw [if_neg hw]
      refine ih hl' h (hE.put hdst (VR.undef' φ)) hW ?_
      intro φ2 a2 w2 hx2 hE2 hW2 hfr2 hd2
      exact hp φ2 a2 w2 hx2 hE2 hW2 hfr2 (by rw [hd2, hput])

/-! ### regions that draw -/
theorem Cls.trans {w' w'' : World} (h : Cls base w0 φ S w w') (k : Cls base w0 φ S w' w'') : Cls base w0 φ S w w'' :=
  ⟨k.wr, fun b B l p q r => (k.same b B l p q r).trans (h.same b B l p q r)⟩

theorem put_defers (a : Act) (d : Option Tmp) (v : Value) : (a.put d v).defers = a.defers := by unfold Act.put; split <;> rfl

/-- operations that yield, one behind the other -/
def yieldsL (P : Program) (ops : Array Oper) : List Oper → Act → (Act → Prop) → Prop
  | [], a, Q => Q a
  | o :: l, a, Q => ∃ v, Yields P ops o v a ∧ yieldsL P ops l (a.put o.dst v) Q
theorem yieldsL_mono {ops : Array Oper} {Q Q' : Act → Prop} (h : ∀ a, Q a → Q' a) : ∀ (l : List Oper) (a : Act), yieldsL P ops l a Q → yieldsL P ops l a Q'
  | [], a, hq => h a hq
  | o :: l, a, ⟨v, h1, h2⟩ => ⟨v, h1, yieldsL_mono h l _ h2⟩
theorem op_pure {C : CallF} {o : Oper} {H : Heap} {v : Value} {r : Option Heap} (hW : WR base w0 φ H.bs w) (hE : ER φ nt e a) (hok : o.op.operands.toList.all okOperand = true) (hp : pureOp o.op = true) (h : aop P C o.op e H = some (v, r)) :
    ∃ v', VR φ v v' ∧ ∀ w', (execOp a.eval o).run P w' = .ok (.value v') w' := by
  unfold aop at h
  unfold execOp
  unfold pureOp at hp
  split at hp <;> rename_i hop <;> simp only [hop] at h ⊢
  all_goals first | (cases hp; done) | simp only [hop, Op.operands, List.all_cons, List.all_nil, Bool.and_true, Bool.and_eq_true] at hok
  · cases h
    exact ⟨_, hE.op hok, fun w' => rfl⟩
  · cases h
    exact ⟨_, hE.op hok, fun w' => rfl⟩
  · rename_i t x lo hi mx
    obtain ⟨h, _⟩ := keep_spec h
    have hok' : okOperand x = true ∧ lo.toList.all okOperand = true ∧ hi.toList.all okOperand = true ∧ mx.toList.all okOperand = true := by
      simp only [Array.toList_append, List.all_append, Bool.and_eq_true, Option.toList_toArray, List.all_cons, List.all_nil, Bool.and_true] at hok
      simpa [and_assoc] using hok
    obtain ⟨v', h1, h2⟩ := slice_sound hW h (hE.op hok'.1) (hE.opt hok'.2.1) (hE.opt hok'.2.2.1) (hE.opt hok'.2.2.2)
    exact ⟨v', h1, fun w' => by simp [h2 w']⟩
theorem wpAny_pure {ops : Array Oper} {md : Region.Mode} {g : Nat} {Q : Exit → Act → World → Prop} {w : World} (hs : Region.noSelect ops = true) (hQ : ∀ c a w, ¬ Q (.panic c) a w) :
    ∀ (l : List Oper) (k : Nat) (listed : Array Bool) (a : Act), (∀ j, j < l.length → l[j]? = ops[k + j]?) → Region.lexHead md ops g l.length k listed = true →
      yieldsL P ops l a (fun a1 => ∀ listed', Region.seqB md ops g (k + l.length) listed' = true → wpAny P md ops Q g listed' a1 w) → wpAny P md ops Q (l.length + g) listed a w
  | [], k, listed, a, _, hB, h => by
    rw [List.length_nil, Nat.zero_add]
    exact h listed (by simpa [Region.lexHead] using hB)
  | o :: l, k, listed, a, hl, hB, ⟨v, hy, h⟩ => by
    have h0 : ops[k]? = some o := by simpa using (hl 0 (by simp)).symm
    simp only [List.length_cons, Region.lexHead, Bool.and_eq_true] at hB
    obtain ⟨⟨hr, hf⟩, hB'⟩ := hB
    rw [List.length_cons, show l.length + 1 + g = (l.length + g) + 1 by omega]
    refine wpAny_take h0 hs hf hr (fun c a w q => absurd q (hQ c _ w)) hy ?_
    refine wpAny_pure hs hQ l (k + 1) _ _ (fun j hj => by have := hl (j + 1) (by simp; omega); simpa [Nat.add_assoc, Nat.add_comm 1 j] using this) hB' ?_
    refine yieldsL_mono (fun a1 hq listed' hB2 => hq listed' ?_) l _ h
    rw [List.length_cons, show k + (l.length + 1) = k + 1 + l.length by omega]
    exact hB2
theorem wp_region_pure {id : Nat} {Q : Exit → Act → World → Prop} {a : Act} {w : World} {l : List Oper} (n : Nat) (hm : P.follows .mixedOrders = true) (hB : pureTailB l.toArray n = true) (hQ : ∀ c a w, ¬ Q (.panic c) a w)
    (h : yieldsL P l.toArray (l.take n) a (fun a' => wpList P l.toArray Q (l.drop n) a' { w with drawn := w.drawn + 1 })) : (Code.region id l.toArray true).wp P Q a w := by
  simp only [pureTailB, Bool.and_eq_true, decide_eq_true_eq] at hB
  obtain ⟨⟨⟨hsel, hn⟩, _⟩, hlex⟩ := hB
  have hn' : n < l.length := by simpa using hn
  have htl : (l.take n).length = n := by simp; omega
  have hdl : (l.drop n).length = l.toArray.size - n := by simp
  refine wp_region_any hm ?_
  have := wpAny_pure (P := P) (md := .any) (g := l.toArray.size - n) (Q := Q) (w := { w with drawn := w.drawn + 1 }) hsel hQ (l.take n) 0 (Array.replicate l.toArray.size false) a (fun j hj => by
    have hj' : j < n := by rw [htl] at hj; exact hj
    simp [hj']) (by rw [htl]; exact hlex) (by
    refine yieldsL_mono (fun a' hL listed' hS => ?_) _ _ h
    have := wpAny_of_seq (md := .any) (Q' := Q) (l.drop n) n listed' a' { w with drawn := w.drawn + 1 } (fun j => by simp [List.getElem?_drop]) (by rw [hdl]; rw [Nat.zero_add, htl] at hS; exact hS) hL
    rwa [hdl] at this)
  rw [htl, show n + (l.toArray.size - n) = l.toArray.size by omega] at this
  exact this

theorem draw_split {C : CallF} (hC : CallOk P base w0 C) {ops : Array Oper} (hops : okOps nt ops = true) {H : Heap} (hW : WR base w0 φ H.bs w) : ∀ {l : List Oper} (hl : ∀ o ∈ l, o ∈ ops.toList) {i : Nat} {q : Bool} {e e' : Env} {H' : Heap},
    runDraw P C ops i q l e H = some (e', H') →
    (Region.lexB .any ops = true ∧ H' = H ∧ ∀ a, ER φ nt e a → ∀ Q : Act → Prop, (∀ a', ER φ nt e' a' → a'.defers = a.defers → Q a') → wpQuiet P ops (Cls base w0 φ H.bs w) Q l a) ∨
    (∃ m e1, q = false ∧ tailB ops (i + m) = true ∧ runOps P C ops (l.drop m) e1 H = some (e', H') ∧
      (∀ a, ER φ nt e a → (∀ o ∈ l.take m, o.guard = none ∧ pureOp o.op = true) → ∀ Q : Act → Prop, (∀ a1, ER φ nt e1 a1 → a1.defers = a.defers → Q a1) → yieldsL P ops (l.take m) a Q) ∧
      ∀ w1, Cls base w0 φ H.bs w w1 → ∀ a, ER φ nt e a → ∀ Q : Act → Prop, (∀ a1, ER φ nt e1 a1 → a1.defers = a.defers → Q a1) → wpStill P ops w1 Q (l.take m) a) := by
  intro l
  induction l with
  | nil =>
    intro hl i q e e' H' h
    simp only [runDraw] at h
    split at h
    · rename_i hB
      cases h
      exact .inl ⟨hB, rfl, fun a hE Q hQ => hQ a hE rfl⟩
    · cases h
  | cons o l ih =>
    intro hl i q e e' H' h
    obtain ⟨hok, hdst⟩ := okOps_mem hops (hl o (by simp))
    have hl' : ∀ o ∈ l, o ∈ ops.toList := fun o ho => hl o (by simp [ho])
    have horig := h
    simp only [runDraw] at h
    split at h
    · rename_i hw
      split at h
      · rename_i v hop
        cases hc : isCall o.op with
        | false =>
          rw [hc, Bool.or_false] at h
          rcases ih hl' h with ⟨hB, hH, hq⟩ | ⟨m, e1, hqf, hB, hr, hpu, hst⟩
          · refine .inl ⟨hB, hH, fun a hE Q hQ => ?_⟩
            obtain ⟨v', hv, hrun⟩ := op_keep hW hE hok hc hop
            unfold wpQuiet
            rw [if_pos (by rw [← hE.wanted ops o (okOps_dst hops)]; exact hw)]
            refine ⟨v', fun w1 hc1 => ?_, hq _ (hE.put hdst hv) Q (fun a' h1 h2 => hQ a' h1 (by rw [h2, put_defers]))⟩
            unfold Oper.quietAt
            rw [hrun w1 hc1]
            exact ⟨rfl, rfl⟩
          · refine .inr ⟨m + 1, e1, hqf, by rw [show i + (m + 1) = i + 1 + m by omega]; exact hB, by simpa using hr, fun a hE hP Q hQ => ?_, fun w1 hc1 a hE Q hQ => ?_⟩
            · have hPo := hP o (by simp)
              obtain ⟨v', hv, hrun⟩ := op_pure hW hE hok hPo.2 hop
              simp only [List.take_succ_cons]
              refine ⟨v', .inl ⟨by rw [← hE.wanted ops o (okOps_dst hops)]; exact hw, hrun⟩, ?_⟩
              exact hpu _ (hE.put hdst hv) (fun o' ho' => hP o' (by simp [ho'])) Q (fun a' h1 h2 => hQ a' h1 (by rw [h2, put_defers]))
            obtain ⟨v', hv, hrun⟩ := op_keep hW hE hok hc hop
            simp only [List.take_succ_cons]
            unfold wpStill
            rw [if_pos (by rw [← hE.wanted ops o (okOps_dst hops)]; exact hw)]
            unfold Oper.still
            rw [hrun w1 hc1, Oper.stillUpon_value]
            exact hst w1 hc1 _ (hE.put hdst hv) Q (fun a' h1 h2 => hQ a' h1 (by rw [h2, put_defers]))
        | true =>
          rw [hc, Bool.or_true] at h
          rcases ih hl' h with ⟨hB, hH, hq⟩ | ⟨m, e1, hqf, _⟩
          · refine .inl ⟨hB, hH, fun a hE Q hQ => ?_⟩
            obtain ⟨c, f, g, first, captured, ho, hcal, hf, hcall⟩ := call_parts hc hop
            obtain ⟨first', captured', hf', hargs⟩ := call_args hE hok ho hcal hf
            obtain ⟨hen, _, hna, hspec⟩ := hC _ _ _ _ _ hcall
            unfold wpQuiet
            rw [if_pos (by rw [← hE.wanted ops o (okOps_dst hops)]; exact hw)]
            refine ⟨v, fun w1 hc1 => ?_, hq _ (hE.put hdst (VR.na (hna rfl))) Q (fun a' h1 h2 => hQ a' h1 (by rw [h2, put_defers]))⟩
            unfold Oper.quietAt
            rw [call_resolve hcal (ty := o.type) hf' hen ho]
            have hcl := hspec φ w1 _ hargs hc1.wr
            simp only [Array.toArray_toList] at hcl
            exact ⟨rfl, hcl.mono fun en w2 hpost => ⟨hpost.1, hc1.trans hpost.2⟩⟩
          · cases hqf
      · rename_i v H2 hop
        split at h
        · rename_i hcond
          simp only [Bool.and_eq_true, Bool.not_eq_true'] at hcond
          refine .inr ⟨0, e, hcond.1, hcond.2, ?_, fun a hE _ Q hQ => hQ a hE rfl, fun w1 _ a hE Q hQ => hQ a hE rfl⟩
          simp only [List.drop_zero, runOps, hw, if_true, hop]
          exact h
        · cases h
      · cases h
    · rename_i hw
      rcases ih hl' h with ⟨hB, hH, hq⟩ | ⟨m, e1, hqf, hB, hr, hpu, hst⟩
      · refine .inl ⟨hB, hH, fun a hE Q hQ => ?_⟩
        unfold wpQuiet
        rw [if_neg (by rw [← hE.wanted ops o (okOps_dst hops)]; exact hw)]
        exact hq _ (hE.put hdst (VR.undef' φ)) Q (fun a' h1 h2 => hQ a' h1 (by rw [h2, put_defers]))
      · refine .inr ⟨m + 1, e1, hqf, by rw [show i + (m + 1) = i + 1 + m by omega]; exact hB, by simpa using hr, fun a hE hP Q hQ => ?_, fun w1 hc1 a hE Q hQ => ?_⟩
        · have hPo := hP o (by simp)
          exact absurd (by simp [wantedA, hPo.1]) hw
        simp only [List.take_succ_cons]
        unfold wpStill
        rw [if_neg (by rw [← hE.wanted ops o (okOps_dst hops)]; exact hw)]
        exact hst w1 hc1 _ (hE.put hdst (VR.undef' φ)) Q (fun a' h1 h2 => hQ a' h1 (by rw [h2, put_defers]))

theorem draw_le {C : CallF} (hC : CallOk P base w0 C) {ops : Array Oper} : ∀ {l : List Oper} {i : Nat} {q : Bool} {e e' : Env} {H H' : Heap}, runDraw P C ops i q l e H = some (e', H') → Le H H' := by
  intro l
  induction l with
  | nil =>
    intro i q e e' H H' h
    simp only [runDraw] at h
    split at h
    · cases h; exact Le.refl _
    · cases h
  | cons o l ih =>
    intro i q e e' H H' h
    simp only [runDraw] at h
    split at h
    · split at h
      · exact ih h
      · rename_i v H2 hop
        split at h
        · refine Le.trans ?_ (runOps_le hC h)
          cases hc : isCall o.op with
          | false => exact le_op hc hop
          | true =>
            obtain ⟨c, f, g, first, captured, _, _, _, hcall⟩ := call_parts hc hop
            exact (hC _ _ _ _ _ hcall).2.1 _ rfl
        · cases h
      · cases h
    · exact ih h

theorem draw_sound {C : CallF} (hm : P.follows .mixedOrders = true) (hC : CallOk P base w0 C) {ops : Array Oper} (hops : okOps nt ops = true) {Q : Exit → Act → World → Prop} {e e' : Env} {H H' : Heap} (id : Nat)
    (h : runDraw P C ops 0 false ops.toList e H = some (e', H')) (hE : ER φ nt e a) (hW : WR base w0 φ H.bs w) (hp : Post base w0 φ H w nt a.defers e' H' (Q .normal)) : (Code.region id ops true).wp P Q a w := by
  have hdr : Cls base w0 φ H.bs w { w with drawn := w.drawn + 1 } := hW.cls.drew
  rcases draw_split hC hops hW (fun o ho => ho) h with ⟨hB, rfl, hq⟩ | ⟨m, e1, _, hB, hr, hpu, hst⟩
  · refine wp_region_quiet (C := Cls base w0 φ H'.bs w) hm hB hdr (hq a hE _ fun a' hE' hd w' hc => ?_)
    exact hp φ a' w' (Ext.refl φ) hE' hc.wr (fun b B l _ hB' hd' hl => hc.same b B l hB' hd' hl) hd
  · have hl : ops = ops.toList.toArray := by simp
    rw [Nat.zero_add, tailB, Bool.or_eq_true] at hB
    rcases hB with hB | hB
    · have := wp_region_still_tail (P := P) (id := id) (Q := Q) (a := a) (w := w) (l := ops.toList) m hm (by rw [← hl]; exact hB) (by
        rw [← hl]
        refine hst _ hdr a hE _ fun a1 hE1 hd1 => ?_
        refine runOps_sound hC hops (fun o ho => List.mem_of_mem_drop ho) hr hE1 hdr.wr ?_
        intro φ2 a2 w2 hx2 hE2 hW2 hfr2 hd2
        exact hp φ2 a2 w2 hx2 hE2 hW2 (fun b B l hb hB' hd' hl => (hfr2 b B l hb hB' hd' hl).trans (hdr.same b B l hB' hd' hl)) (hd2.trans hd1))
      rw [← hl] at this
      exact this
    · have hall : ∀ o ∈ ops.toList.take m, o.guard = none ∧ pureOp o.op = true := by
        have := hB
        simp only [pureTailB, Bool.and_eq_true, List.all_eq_true] at this
        intro o ho
        have := this.1.2 o ho
        exact ⟨by simpa using this.1, this.2⟩
      have := wp_region_pure (P := P) (id := id) (Q := fun x a w => x = .normal ∧ Q .normal a w) (a := a) (w := w) (l := ops.toList) m hm (by rw [← hl]; exact hB) (fun c a w q => by cases q.1) (by
        rw [← hl]
        refine hpu a hE hall _ fun a1 hE1 hd1 => ?_
        refine runOps_sound hC hops (fun o ho => List.mem_of_mem_drop ho) hr hE1 hdr.wr ?_
        intro φ2 a2 w2 hx2 hE2 hW2 hfr2 hd2
        exact ⟨rfl, hp φ2 a2 w2 hx2 hE2 hW2 (fun b B l hb hB' hd' hl => (hfr2 b B l hb hB' hd' hl).trans (hdr.same b B l hB' hd' hl)) (hd2.trans hd1)⟩)
      rw [← hl] at this
      exact Code.wp_mono (fun x a w q => by obtain ⟨rfl, q⟩ := q; exact q) this

/-! ### code -/
def Out.exit' : Out → Exit
  | .normal => .normal
  | .exit id => .exit id
  | .ret => .ret

theorem exec_le {C : CallF} (hC : CallOk P base w0 C) : ∀ {k : Nat} {c : Code} {e e' : Env} {H H' : Heap} {o : Out}, exec P C k c e H = some (o, e', H') → Le H H' := by
  intro k
  induction k with
  | zero => intro c e e' H H' o h; cases h
  | succ k ih =>
    intro c e e' H H' o h
    cases c <;> simp only [exec] at h
    case skip => cases h; exact Le.refl _
    case ret => cases h; exact Le.refl _
    case exit => cases h; exact Le.refl _
    case region id ops draw =>
      cases draw
      · simp only [Bool.false_eq_true, if_false] at h
        split at h
        · rename_i hr; cases h; exact runOps_le hC hr
        · cases h
      · simp only [if_true] at h
        split at h
        · rename_i hr; cases h; exact draw_le hC hr
        · cases h
    case seq x y =>
      split at h
      · rename_i e2 H2 h1; exact (ih h1).trans (ih h)
      · exact ih h
    case cond x y z =>
      split at h
      · exact ih h
      · cases h
    case block id x =>
      split at h
      · rename_i i e2 H2 h1
        split at h <;> (cases h; exact ih h1)
      · exact ih h
    case loop x =>
      split at h
      · rename_i e2 H2 h1; exact (ih h1).trans (ih h)
      · exact ih h
    case scope x => exact ih h
    all_goals cases h

theorem exec_sound' {C : CallF} (hm : P.follows .mixedOrders = true) (hC : CallOk P base w0 C) : ∀ {k : Nat} {c : Code} {φ : List Loc} {e e' : Env} {H H' : Heap} {o : Out} {a : Act} {w : World} {Q : Exit → Act → World → Prop},
    okCode nt c = true → exec P C k c e H = some (o, e', H') → ER φ nt e a → WR base w0 φ H.bs w → Post base w0 φ H w nt a.defers e' H' (Q o.exit') → c.wp P Q a w ∧ ∀ x, c = .loop x → Code.rounds P x Q k a w := by
  intro k
  induction k with
  | zero => intro c φ e e' H H' o a w Q hok h; cases h
  | succ k ih0 =>
    intro c φ e e' H H' o a w Q hok h hE hW hp
    have ih := fun {c φ e e' H H' o a w Q} (h1 : okCode nt c = true) h2 (h3 : ER φ nt e a) (h4 : WR base w0 φ H.bs w) h5 => (ih0 (c := c) (e := e) (e' := e') (H := H) (H' := H') (o := o) (Q := Q) h1 h2 h3 h4 h5).1
    by_cases hloop : ∃ x, c = .loop x
    · obtain ⟨x, rfl⟩ := hloop
      have hok' := hok
      simp only [okCode] at hok
      simp only [exec] at h
      have hrounds : Code.rounds P x Q (k + 1) a w := by
        rw [rounds_succ]
        split at h
        · rename_i e2 H2 h1
          refine ih hok h1 hE hW ?_
          intro φ' a' w' hx hE' hW' hfr hd
          refine (ih0 (c := .loop x) (Q := Q) hok' h hE' hW' ?_).2 x rfl
          intro φ2 a2 w2 hx2 hE2 hW2 hfr2 hd2
          exact hp φ2 a2 w2 (hx.trans hx2) hE2 hW2 (Fr.trans hx (exec_le hC h1) (exec_le hC h) hW.len hfr hfr2) (hd2.trans hd)
        · rename_i hno
          refine ih hok h hE hW ?_
          intro φ' a' w' hx hE' hW' hfr hd
          have := hp φ' a' w' hx hE' hW' hfr hd
          cases o with
          | normal => exact absurd h (hno e' H')
          | exit id => exact this
          | ret => exact this
      exact ⟨wp_loop_rounds (k + 1) hrounds, fun y hy => by cases hy; exact hrounds⟩
    refine ⟨?_, fun x hx => absurd ⟨x, hx⟩ hloop⟩
    have stay : ∀ {o : Out} {e : Env}, Post base w0 φ H w nt a.defers e H (Q o.exit') → ER φ nt e a → Q o.exit' a w := fun hp hE => hp φ a w (Ext.refl φ) hE hW (fr_same H) rfl
    have follow : ∀ {H2 : Heap} {φ' : List Loc} {a' : Act} {w' : World} {K : Act → World → Prop}, Le H H2 → Le H2 H' → Ext φ φ' → Fr φ H.bs H2.low w w' → a'.defers = a.defers → Post base w0 φ H w nt a.defers e' H' K → Post base w0 φ' H2 w' nt a'.defers e' H' K := by
      intro H2 φ' a' w' K hl1 hl2 hx hfr hd hp φ2 a2 w2 hx2 hE2 hW2 hfr2 hd2
      exact hp φ2 a2 w2 (hx.trans hx2) hE2 hW2 (Fr.trans hx hl1 hl2 hW.len hfr hfr2) (hd2.trans hd)
    cases c <;> simp only [exec] at h
    case skip => cases h; exact wp_skip (stay (o := .normal) hp hE)
    case ret => cases h; exact wp_ret (stay (o := .ret) hp hE)
    case exit id => cases h; exact wp_exit (stay (o := .exit id) hp hE)
    case region id ops draw =>
      simp only [okCode] at hok
      cases draw
      · simp only [Bool.false_eq_true, if_false] at h
        split at h
        · rename_i hr
          cases h
          exact wp_region_list (runOps_sound hC hok (fun o ho => ho) hr hE hW hp)
        · cases h
      · simp only [if_true] at h
        split at h
        · rename_i hr
          cases h
          exact draw_sound hm hC hok id hr hE hW hp
        · cases h
    case seq x y =>
      simp only [okCode, Bool.and_eq_true] at hok
      refine wp_seq ?_
      split at h
      · rename_i e2 H2 h1
        refine ih hok.1 h1 hE hW ?_
        intro φ' a' w' hx hE' hW' hfr hd
        exact ih hok.2 h hE' hW' (follow (exec_le hC h1) (exec_le hC h) hx hfr hd hp)
      · rename_i hno
        refine ih hok.1 h hE hW ?_
        intro φ' a' w' hx hE' hW' hfr hd
        have := hp φ' a' w' hx hE' hW' hfr hd
        cases o with
        | normal => exact absurd h (hno e' H')
        | exit id => exact this
        | ret => exact this
    case cond x y z =>
      simp only [okCode, Bool.and_eq_true] at hok
      split at h
      · rename_i t ht
        have hv := hE.op hok.1.1
        rw [ht] at hv
        generalize hz : a.eval x = zz at hv
        cases hv
        refine wp_cond hz ?_
        cases t
        · exact ih hok.2 h hE hW hp
        · exact ih hok.1.2 h hE hW hp
      · cases h
    case block id x =>
      simp only [okCode] at hok
      refine wp_block ?_
      split at h
      · rename_i i e2 H2 h1
        split at h
        · rename_i hid
          cases h
          refine ih hok h1 hE hW ?_
          intro φ' a' w' hx hE' hW' hfr hd
          have := hp φ' a' w' hx hE' hW' hfr hd
          simp only [Out.exit', Exit.inBlock, if_pos hid]
          exact this
        · rename_i hid
          cases h
          refine ih hok h1 hE hW ?_
          intro φ' a' w' hx hE' hW' hfr hd
          have := hp φ' a' w' hx hE' hW' hfr hd
          simp only [Out.exit', Exit.inBlock, if_neg hid]
          exact this
      · rename_i hno
        refine ih hok h hE hW ?_
        intro φ' a' w' hx hE' hW' hfr hd
        have := hp φ' a' w' hx hE' hW' hfr hd
        cases o with
        | exit id => exact absurd h (hno id e' H')
        | normal => exact this
        | ret => exact this
    case loop x => exact absurd ⟨x, rfl⟩ hloop
    case scope x =>
      simp only [okCode] at hok
      refine wp_scope_straight (ih hok h hE hW ?_)
      intro φ' a' w' hx hE' hW' hfr hd
      have := hp φ' a' w' hx hE' hW' hfr hd
      cases o <;> exact this
    all_goals cases h

theorem exec_sound {C : CallF} (hm : P.follows .mixedOrders = true) (hC : CallOk P base w0 C) {k : Nat} {c : Code} {e e' : Env} {H H' : Heap} {o : Out} {Q : Exit → Act → World → Prop}
    (hok : okCode nt c = true) (h : exec P C k c e H = some (o, e', H')) (hE : ER φ nt e a) (hW : WR base w0 φ H.bs w) (hp : Post base w0 φ H w nt a.defers e' H' (Q o.exit')) : c.wp P Q a w :=
  (exec_sound' hm hC hok h hE hW hp).1

/-! ### functions -/
theorem envOf_get : ∀ (vs : List Value) (i t : Nat), (envOf i vs).get t = if i ≤ t then (vs[t - i]?).getD undef else undef
  | [], i, t => by simp [envOf, Env.get]
  | v :: vs, i, t => by
    simp only [envOf, Env.get]
    by_cases h : i = t
    · subst h; simp
    · rw [if_neg h, envOf_get vs (i + 1) t]
      by_cases h2 : i ≤ t
      · rw [if_pos h2, if_pos (by omega), show t - i = (t - (i + 1)) + 1 by omega]; simp
      · rw [if_neg h2, if_neg (by omega)]

theorem enter_ER {args args' : List Value} (ha : VRs φ args args') (hn : args.length ≤ nt) : ER φ nt (envOf 0 args) { tmps := args'.toArray ++ Array.replicate (nt - args'.toArray.size) undef, defers := [] } := by
  refine ⟨by have := ha.1; simp; omega, fun t => ?_⟩
  rw [envOf_get]
  simp only [Nat.zero_le, if_true, Nat.sub_zero, Array.getD_eq_getD_getElem?]
  by_cases h : t < args.length
  · obtain ⟨y, hy, hv⟩ := ha.get (i := t) (x := args[t]) (by simp [h])
    have h' : t < args'.length := by rw [← ha.1]; exact h
    rw [Array.getElem?_append_left (by simpa using h')]
    simp only [List.getElem?_toArray, hy, Option.getD_some, List.getElem?_eq_getElem h]
    exact hv
  · rw [List.getElem?_eq_none (by omega)]
    rw [Array.getElem?_append_right (by have := ha.1; simp; omega)]
    simp only [Option.getD_none, Array.getElem?_replicate]
    split <;> exact VR.undef' φ

/-- a result, as the model takes it -/
def resOf (tmps : Array Value) : ResultVar → Sem Value
  | .tmp t => pure (tmps.getD t undef)
  | .cell x t => do loadVar t (← asAddr (tmps.getD x undef))
theorem results_eq (fn : Func) (tmps : Array Value) : results fn tmps = (fn.results.mapM (resOf tmps)) >>= fun vs => pure (if h : vs.size = 1 then vs[0] else .tuple vs) := by
  unfold results
  congr 1

theorem run_results {H : Heap} (hW : WR base w0 φ H.bs w) (hE : ER φ nt e a) : ∀ {rs : List ResultVar} {vs : List Value}, rs.mapM (resultA P e H) = some vs →
    ∃ vs', VRs φ vs vs' ∧ (rs.mapM (resOf a.tmps)).run P w = .ok vs' w := by
  intro rs
  induction rs with
  | nil => intro vs h; simp at h; subst h; exact ⟨[], .nil φ, rfl⟩
  | cons r rs ih =>
    intro vs h
    simp only [List.mapM_cons, Option.bind_eq_bind, Option.pure_def] at h
    cases hr : resultA P e H r with
    | none => simp [hr] at h
    | some v =>
      cases hrs : rs.mapM (resultA P e H) with
      | none => simp [hr, hrs] at h
      | some vs2 =>
        simp [hr, hrs] at h
        subst h
        obtain ⟨vs', hv, hrun⟩ := ih hrs
        have hone : ∃ v', VR φ v v' ∧ (resOf a.tmps r).run P w = .ok v' w := by
          cases r with
          | tmp t => simp only [resultA, Option.some.injEq] at hr; subst hr; exact ⟨_, hE.val t, rfl⟩
          | cell x t =>
            simp only [resultA] at hr
            obtain ⟨v', h1, h2⟩ := ld_sound (P := P) hW hr (hE.val x)
            refine ⟨v', h1, ?_⟩
            have h3 := h2 w hW.cls
            have hx := hE.val x
            unfold ld at hr
            split at hr
            · rename_i b o hg
              rw [hg] at hx
              simp only [resOf]
              generalize a.tmps.getD x undef = z at hx h3 ⊢
              cases hx
              simp only [Instr.loadAt, Instr.sureAddr, Sem.run_bind, Sem.run_pure, Result.andThen_ok] at h3
              simp only [asAddr, Sem.run_bind, Sem.run_pure, Result.andThen_ok]
              exact h3
            · cases hr
        obtain ⟨v', h1, h2⟩ := hone
        refine ⟨v' :: vs', .cons h1 hv, ?_⟩
        rw [List.mapM_cons, Sem.run_bind, h2, Result.andThen_ok, Sem.run_bind, hrun, Result.andThen_ok]
        rfl

theorem results_run {fn : Func} {H : Heap} (hW : WR base w0 φ H.bs w) (hE : ER φ nt e a) {vs : List Value} (h : fn.results.toList.mapM (resultA P e H) = some vs) :
    ∃ v', VR φ (packA vs) v' ∧ (results fn a.tmps).run P w = .ok v' w := by
  obtain ⟨vs', hv, hrun⟩ := run_results hW hE h
  have hr : (fn.results.mapM (resOf a.tmps)).run P w = .ok vs'.toArray w := by
    rw [Array.mapM_eq_mapM_toList, Sem.run_map, hrun]
    rfl
  refine ⟨packA vs', ?_, ?_⟩
  · unfold packA
    split
    · obtain ⟨y, ys, rfl, h1, h2⟩ := hv.of_cons
      rw [h2.of_nil]; exact h1
    · rename_i hne
      split
      · rename_i v'
        exfalso
        have := hv.1
        cases vs with
        | nil => simp at this
        | cons x xs => cases xs with
          | nil => exact hne x rfl
          | cons _ _ => simp at this
      · exact VR.toTuple hv
  · rw [results_eq, Sem.run_bind, hr, Result.andThen_ok]
    split
    · rename_i h1
      obtain ⟨v, rfl⟩ := List.length_eq_one_iff.1 (by simpa using h1 : vs'.length = 1)
      rfl
    · rename_i hne
      have : packA vs' = .tuple vs'.toArray := by
        unfold packA
        split
        · exact absurd rfl hne
        · rfl
      rw [this]; rfl

theorem WR.back {φ' : List Loc} {S' : List Blk} {w' : World} {low : Nat} (h : WR base w0 φ S w) (h' : WR base w0 φ' S' w') (hfr : Fr φ S low w w') (hlow : S.length ≤ low) : Cls base w0 φ S w w' := by
  have same : ∀ (b : Nat) B l, S[b]? = some B → B ≠ .dead → φ[b]? = some l → w'.heap[l.blk]? = w.heap[l.blk]? := fun b B l hb hd hl =>
    hfr b B l (Nat.lt_of_lt_of_le (List.getElem?_eq_some_iff.1 hb).1 hlow) hb hd hl
  refine ⟨⟨h.len, h'.below, h'.size, fun b B l hb hl => ?_, h.sep⟩, same⟩
  by_cases hd : B = .dead
  · subst hd; trivial
  · exact (h.blk b B l hb hl).mono (Ext.refl φ) (same b B l hb hd hl)

/-- What is asked of the library's functions that are handed in: they are entered, and leave what was there. -/
def LibOk (P : Program) (base : Nat) (w0 : World) (X : Lib) : Prop :=
  ∀ g f, X g = some f → Entered P g ∧ ∀ args v, f args = some v → noAddr v = true ∧
    ∀ (φ : List Loc) (S : List Blk) (w : World) (args' : List Value), VRs φ args args' → WR base w0 φ S w → Calls P g args'.toArray w fun en w' => en = .returned v ∧ Cls base w0 φ S w w'

theorem call_ok (hm : P.follows .mixedOrders = true) {X : Lib} (hX : LibOk P base w0 X) : ∀ k, CallOk P base w0 (call P X k) := by
  intro k
  induction k with
  | zero => intro g args H v r h; cases h
  | succ k ih =>
    intro g args H v r h
    simp only [call] at h
    split at h
    · rename_i f hf
      obtain ⟨hen, hspec⟩ := hX g f hf
      simp only [Option.map_eq_some_iff, Prod.mk.injEq] at h
      obtain ⟨v2, hv, rfl, rfl⟩ := h
      obtain ⟨hna, hc⟩ := hspec args v2 hv
      exact ⟨hen, fun H' h => (by cases h), fun _ => hna, fun φ w args' ha hW => hc φ H.bs w args' ha hW⟩
    · rename_i hX0
      unfold body at h
      split at h
      rotate_left
      · cases h
      rename_i c nt rs hfn
      unfold fnA at hfn
      split at hfn
      rotate_left
      · cases hfn
      rename_i fn hfunc
      split at hfn
      rotate_left
      · cases hfn
      rename_i c' hbody
      split at hfn
      rotate_left
      · cases hfn
      rename_i hcond
      cases hfn
      simp only [Bool.and_eq_true, bne_iff_ne, ne_eq] at hcond
      split at h
      rotate_left
      · cases h
      rename_i hlen
      have hen : Entered P g := ⟨fn, hfunc, by simpa using hcond.2, by rw [hbody]; rfl⟩
      split at h
      · cases h
      · rename_i o e' H' hno hex
        split at h
        rotate_left
        · cases h
        rename_i vs hvs
        have hle := exec_le ih hex
        unfold finish at h
        have main : ∀ (φ : List Loc) (w : World) (args' : List Value), VRs φ args args' → WR base w0 φ H.bs w → Calls P g args'.toArray w fun en w' => ∃ v' φ', en = .returned v' ∧ Ext φ φ' ∧ VR φ' (packA vs) v' ∧ WR base w0 φ' H'.bs w' ∧ Fr φ H.bs H'.low w w' := by
          intro φ w args' ha hW
          refine calls_of_wp hfunc hbody ?_
          refine exec_sound (H := ⟨H.bs, H.bs.length⟩) hm ih hcond.1 hex (enter_ER ha hlen) hW ?_
          intro φ' a' w' hx hE hW' hfr hd
          obtain ⟨v', hv, hrun⟩ := results_run hW' hE hvs
          have : bodyPost P fn (fun en w' => ∃ v' φ', en = .returned v' ∧ Ext φ φ' ∧ VR φ' (packA vs) v' ∧ WR base w0 φ' H'.bs w' ∧ Fr φ H.bs H'.low w w') .normal a' w' := ⟨hd, v', hrun, v', φ', rfl, hx, hv, hW', hfr⟩
          cases o with
          | normal => exact this
          | ret => exact this
          | exit id => exact (hno id rfl).elim
        split at h
        · rename_i hgc
          simp only [Option.some.injEq, Prod.mk.injEq] at h
          obtain ⟨rfl, rfl⟩ := h
          simp only [Bool.and_eq_true, decide_eq_true_eq] at hgc
          refine ⟨hen, fun H' h => (by cases h), fun _ => hgc.1, fun φ w args' ha hW => (main φ w args' ha hW).mono fun en w' hq => ?_⟩
          obtain ⟨v', φ', rfl, hx, hv, hW', hfr⟩ := hq
          exact ⟨by rw [hv.eq_na hgc.1], hW.back hW' hfr hgc.2⟩
        · simp only [Option.some.injEq, Prod.mk.injEq] at h
          obtain ⟨rfl, rfl⟩ := h
          refine ⟨hen, fun H2 h2 => ?_, fun h => (by cases h), fun φ w args' ha hW => (main φ w args' ha hW).mono fun en w' hq => ?_⟩
          · cases h2
            exact ⟨Nat.min_le_left _ _, hle.len, fun b hb hl => hle.same b (Nat.lt_of_lt_of_le hb (Nat.min_le_right _ _)) hl⟩
          · obtain ⟨v', φ', h1, hx, hv, hW', hfr⟩ := hq
            exact ⟨v', φ', h1, hx, hv, hW', fun b B l hb => hfr b B l (Nat.lt_of_lt_of_le hb (Nat.min_le_right _ _))⟩
      · cases h
end
end Go.Proofs.Ytcpolfjnbbodgaa.Ve
