/- The evaluator is sound: what it tells of a call, the model's machine does, on every tape. Conditions: those of the library functions that are handed in. -/
import Derived.Test.YtcpolfjnbbodgaaVeTurn2
namespace Go.Proofs.Ytcpolfjnbbodgaa.Ve
open Go Go.RowKit
set_option linter.unusedVariables false
set_option linter.unusedSimpArgs false

structure ER (φ : List Loc) (nt : Nat) (e : Env) (a : Act) : Prop where
  size : a.tmps.size = nt
  val : ∀ t, VR φ (e.get t) (a.tmps.getD t undef)

section
variable {P : Program} {base : Nat} {w0 : World} {φ : List Loc} {S : List Blk} {w : World} {nt : Nat} {e : Env} {a : Act}

theorem ER.mono {φ' : List Loc} (hx : Ext φ φ') (h : ER φ nt e a) : ER φ' nt e a := ⟨h.size, fun t => (h.val t).mono hx⟩
theorem ER.op (h : ER φ nt e a) {x : Operand} (hx : okOperand x = true) : VR φ (opv e x) (a.eval x) := opv_sound ⟨h.size, h.val⟩ rfl hx
theorem ER.put (h : ER φ nt e a) {d : Option Nat} (hd : dstOk nt d = true) {v v' : Value} (hv : VR φ v v') : ER φ nt (putA e d v) (a.put d v') := by
  cases d with
  | none => exact h
  | some d =>
    simp only [dstOk, decide_eq_true_eq] at hd
    refine ⟨by simp [Act.put, h.size], fun t => ?_⟩
    simp only [Act.put, putA, Env.get]
    by_cases hdt : d = t
    · subst hdt
      rw [if_pos rfl]
      have : d < a.tmps.size := by rw [h.size]; exact hd
      simp only [Array.getD_eq_getD_getElem?, Array.getElem?_setIfInBounds, if_true, this, Option.getD_some]
      exact hv
    · rw [if_neg hdt]
      have := h.val t
      simp only [Array.getD_eq_getD_getElem?, Array.getElem?_setIfInBounds, if_neg hdt] at this ⊢
      exact this

theorem ER.wanted (h : ER φ nt e a) (ops : Array Oper) (o : Oper) (hd : ∀ (j : Nat) (oj : Oper) (d : Nat), ops[j]? = some oj → oj.dst = some d → d < nt) : wantedA ops e o = Region.wanted o (yielded ops a.tmps) := by
  unfold wantedA Region.wanted
  cases hg : o.guard with
  | none => rfl
  | some g =>
    obtain ⟨j, b⟩ := g
    simp only [yielded]
    cases hj : ops[j]? with
    | none => rfl
    | some oj =>
      cases hdd : oj.dst with
      | none => simp [hdd]
      | some d =>
        simp only [hdd, Option.bind_some]
        have hlt : d < a.tmps.size := by rw [h.size]; exact hd j oj d hj hdd
        have hv := h.val d
        have hgd : a.tmps[d]? = some (a.tmps.getD d undef) := by simp [hlt]
        rw [hgd]
        generalize a.tmps.getD d undef = z at hv
        generalize e.get d = y at hv
        cases hv <;> rfl

theorem ER.args (h : ER φ nt e a) {xs : Array Operand} (hx : xs.toList.all okOperand = true) : VRs φ (xs.toList.map (opv e)) (xs.toList.map a.eval) :=
  VRs.map _ _ _ fun x hm => h.op (List.all_eq_true.1 hx x hm)
theorem ER.parts (h : ER φ nt e a) {xs : Array (Nat × Operand)} (hx : (xs.toList.map (·.2)).all okOperand = true) :
    Parts φ (xs.toList.map fun (i, x) => (i, opv e x)) (xs.toList.map fun (i, x) => (i, a.eval x)) := by
  refine ⟨by simp, fun i x y p q => ?_⟩
  simp only [List.getElem?_map, Option.map_eq_some_iff] at p q
  obtain ⟨⟨j, z⟩, hz, rfl⟩ := p
  obtain ⟨⟨j', z'⟩, hz', rfl⟩ := q
  rw [hz] at hz'; cases hz'
  exact ⟨rfl, h.op (List.all_eq_true.1 hx z (List.mem_map.2 ⟨_, List.mem_of_getElem? hz, rfl⟩))⟩
theorem ER.opt (h : ER φ nt e a) {x : Option Operand} (hx : x.toList.all okOperand = true) : (∀ v v', x.map (opv e) = some v → x.map a.eval = some v' → VR φ v v') ∧ (x.map (opv e)).isSome = (x.map a.eval).isSome := by
  cases x with
  | none => exact ⟨fun v v' p => (by cases p), rfl⟩
  | some x => exact ⟨fun v v' p q => (by cases p; cases q; exact h.op (by simpa using hx)), rfl⟩

theorem keep_spec {x : Option Value} {v : Value} {r : Option Heap} (h : keep x = some (v, r)) : x = some v ∧ r = none := by
  unfold keep at h
  simp only [Option.map_eq_some_iff, Prod.mk.injEq] at h
  obtain ⟨y, rfl, rfl, rfl⟩ := h
  exact ⟨rfl, rfl⟩
theorem turn_spec {x : Option (Value × Heap)} {v : Value} {r : Option Heap} (h : turn x = some (v, r)) : ∃ H', x = some (v, H') ∧ r = some H' := by
  unfold turn at h
  simp only [Option.map_eq_some_iff, Prod.mk.injEq] at h
  obtain ⟨⟨y, H'⟩, rfl, rfl, rfl⟩ := h
  exact ⟨H', rfl, rfl⟩

/-- how the model runs an operation that gives a value -/
def Gives (P : Program) (base : Nat) (w0 : World) (φ : List Loc) (S : List Blk) (w : World) (s : Sem Next) (v : Value) : Prop :=
  ∃ v', VR φ v v' ∧ ∀ w', Cls base w0 φ S w w' → s.run P w' = .ok (.value v') w'

theorem Gives.of {s : Sem Value} {v : Value} (h : Keeps P base w0 φ S w s v) : Gives P base w0 φ S w (do pure (.value (← s))) v := by
  obtain ⟨v', h1, h2⟩ := h
  exact ⟨v', h1, fun w' hc => by simp only [Sem.run_bind, h2 w' hc, Result.andThen_ok, Sem.run_pure]⟩
theorem Gives.all {s : Sem Value} {v : Value} (h : ∃ v', VR φ v v' ∧ ∀ w', s.run P w' = .ok v' w') : Gives P base w0 φ S w (do pure (.value (← s))) v :=
  let ⟨v', h1, h2⟩ := h; Gives.of ⟨v', h1, fun w' _ => h2 w'⟩

theorem builtin_keep {b : Builtin} {ts : Array TypeId} {ty : TypeId} {cs : Array Bool} {H : Heap} {args args' : List Value} {v : Value} (hW : WR base w0 φ H.bs w) (h : builtinA P b ts.toList args H = some (v, none)) (ha : VRs φ args args') :
    Gives P base w0 φ H.bs w (builtin b ts ty cs args'.toArray) v := by
  unfold builtinA at h
  split at h
  · rename_i x
    simp only [Option.map_eq_some_iff, Prod.mk.injEq] at h
    obtain ⟨v, h, rfl, _⟩ := h
    obtain ⟨y, ys, rfl, h1, h2⟩ := ha.of_cons
    rw [h2.of_nil]
    have := len_sound hW h h1 ty
    simp only [Array.toArray_toList] at this
    exact Gives.of this
  · rename_i s x
    obtain ⟨y, ys, rfl, h1, h2⟩ := ha.of_cons
    obtain ⟨z, zs, rfl, h3, h4⟩ := h2.of_cons
    rw [h4.of_nil]
    have := append_keep hW h h1 h3 ty
    simp only [Array.toArray_toList] at this
    exact Gives.of this
  · rename_i d s
    obtain ⟨y, ys, rfl, h1, h2⟩ := ha.of_cons
    obtain ⟨z, zs, rfl, h3, h4⟩ := h2.of_cons
    rw [h4.of_nil]
    have := copy_keep hW h h1 h3 ty
    simp only [Array.toArray_toList] at this
    exact Gives.of this
  · simp only [Option.map_eq_some_iff, Prod.mk.injEq] at h
    obtain ⟨v, h, rfl, _⟩ := h
    obtain ⟨y, rest, rfl, h1, h2⟩ := minMax_sound h _ ha
    refine Gives.all ⟨v, h1, fun w' => ?_⟩
    have := h2 w'
    simpa [Builtin.max_] using this
  · simp only [Option.map_eq_some_iff, Prod.mk.injEq] at h
    obtain ⟨v, h, rfl, _⟩ := h
    obtain ⟨y, rest, rfl, h1, h2⟩ := minMax_sound h _ ha
    refine Gives.all ⟨v, h1, fun w' => ?_⟩
    have := h2 w'
    simpa [Builtin.min_] using this
  · cases h

theorem op_keep {C : CallF} {o : Oper} {H : Heap} {v : Value} (hW : WR base w0 φ H.bs w) (hE : ER φ nt e a) (hok : o.op.operands.toList.all okOperand = true) (hc : isCall o.op = false) (h : aop P C o.op e H = some (v, none)) :
    Gives P base w0 φ H.bs w (execOp a.eval o) v := by
  unfold aop at h
  unfold execOp
  split at h <;> rename_i hop <;> simp only [hop]
  all_goals simp only [hop, Op.operands, List.all_cons, List.all_nil, Bool.and_true, Bool.and_eq_true] at hok
  case h_1 x =>
    obtain ⟨h, _⟩ := keep_spec h
    cases h
    exact ⟨_, hE.op hok, fun w' _ => rfl⟩
  case h_2 x =>
    obtain ⟨h, _⟩ := keep_spec h
    cases h
    exact ⟨_, hE.op hok, fun w' _ => rfl⟩
  case h_3 c x y =>
    have hc := hE.op hok.1
    split at h
    · rename_i t hb
      rw [hb] at hc
      obtain ⟨h, _⟩ := keep_spec h
      cases h
      generalize hcv : a.eval c = cv at hc
      cases hc
      refine ⟨if t then a.eval x else a.eval y, by cases t; exact hE.op hok.2.2; exact hE.op hok.2.1, fun w' _ => ?_⟩
      simp only [asBool, Sem.run_bind, Sem.run_pure, Result.andThen_ok]
    · cases h
  case h_4 => obtain ⟨_, _, h⟩ := turn_spec h; cases h
  case h_5 =>
    split at h
    · obtain ⟨_, _, h⟩ := turn_spec h; cases h
    · cases h
  case h_6 t parts =>
    obtain ⟨h, _⟩ := keep_spec h
    have hp := hE.parts (xs := parts) (by simpa [List.all_map] using hok)
    have := build_sound h hp
    have e1 : (parts.map fun (i, x) => (i, a.eval x)) = (parts.toList.map fun (i, x) => (i, a.eval x)).toArray := by apply Array.toList_inj.1; simp
    rw [e1]
    exact Gives.all this
  case h_7 => obtain ⟨_, _, h⟩ := turn_spec h; cases h
  case h_8 t x =>
    obtain ⟨h, _⟩ := keep_spec h
    exact Gives.of (ld_sound hW h (hE.op hok))
  case h_9 => obtain ⟨_, _, h⟩ := turn_spec h; cases h
  case h_10 x =>
    have hx := hE.op hok
    split at h
    · rename_i ad hb
      rw [hb] at hx
      obtain ⟨h, _⟩ := keep_spec h
      cases h
      generalize a.eval x = xv at hx
      cases hx with
      | ptr hl => exact ⟨_, .ptr hl, fun w' _ => rfl⟩
    · rename_i g f c hb
      rw [hb] at hx
      obtain ⟨h, _⟩ := keep_spec h
      cases h
      generalize a.eval x = xv at hx
      have hx2 := hx
      cases hx with
      | func => exact ⟨_, hx2, fun w' _ => rfl⟩
    · cases h
  case h_11 op t x y yt =>
    obtain ⟨h, _⟩ := keep_spec h
    exact Gives.all (bin_sound h (hE.op hok.1) (hE.op hok.2) x y)
  case h_12 op t x =>
    obtain ⟨h, _⟩ := keep_spec h
    exact Gives.all (un_sound h (hE.op hok))
  case h_13 s d x => exact Gives.of (conv_keep hW h (hE.op hok))
  case h_14 t x =>
    split at h
    · rename_i hct
      obtain ⟨h, _⟩ := keep_spec h
      cases h
      exact Gives.all ⟨_, .iface t (hE.op hok), fun w' => run_makeInterface w' t _ hct⟩
    · cases h
  case h_15 fn first captured =>
    split at h
    · rename_i g
      obtain ⟨h, _⟩ := keep_spec h
      cases h
      have hok' : first.toList.all okOperand = true ∧ captured.toList.all okOperand = true := by
        simpa [List.all_append] using hok
      have h1 := hE.args hok'.1
      have h2 := hE.args hok'.2
      refine Gives.all ⟨.func (.func g) (first.map a.eval) (captured.map a.eval), .func g ?_ ?_ ?_ ?_, fun w' => rfl⟩
      · simp
      · simp only [Array.toList_map]; exact h1.2
      · simp
      · simp only [Array.toList_map]; exact h2.2
    · cases h
  case h_16 => obtain ⟨_, _, h⟩ := turn_spec h; cases h
  case h_17 => obtain ⟨_, _, h⟩ := turn_spec h; cases h
  case h_18 t x lo hi mx =>
    obtain ⟨h, _⟩ := keep_spec h
    have hok' : okOperand x = true ∧ lo.toList.all okOperand = true ∧ hi.toList.all okOperand = true ∧ mx.toList.all okOperand = true := by
      simp only [Array.toList_append, List.all_append, Bool.and_eq_true, Option.toList_toArray, List.all_cons, List.all_nil, Bool.and_true] at hok
      simpa [and_assoc] using hok
    exact Gives.all (slice_sound hW h (hE.op hok'.1) (hE.opt hok'.2.1) (hE.opt hok'.2.2.1) (hE.opt hok'.2.2.2))
  case h_19 s x f =>
    obtain ⟨h, _⟩ := keep_spec h
    exact Gives.all (fieldAddr_sound h (hE.op hok))
  case h_20 s x f =>
    obtain ⟨h, _⟩ := keep_spec h
    exact Gives.all (field_sound h (hE.op hok))
  case h_21 t x ix =>
    obtain ⟨h, _⟩ := keep_spec h
    exact Gives.all (indexAddr_sound h (hE.op hok.1) (hE.op hok.2))
  case h_22 t x ix =>
    obtain ⟨h, _⟩ := keep_spec h
    exact Gives.all (index_sound h (hE.op hok.1) (hE.op hok.2))
  case h_23 t m k ok =>
    obtain ⟨h, _⟩ := keep_spec h
    exact Gives.of (lookup_sound hW h (hE.op hok.1) (hE.op hok.2))
  case h_24 => obtain ⟨_, _, h⟩ := turn_spec h; cases h
  case h_25 =>
    split at h
    · obtain ⟨_, _, h⟩ := turn_spec h; cases h
    · cases h
  case h_26 it => exact Gives.of (next_keep hW h (hE.op hok) o.type)
  case h_27 x i =>
    have hx := hE.op hok
    split at h
    · rename_i vs hb
      rw [hb] at hx
      obtain ⟨h, _⟩ := keep_spec h
      generalize a.eval x = xv at hx
      cases hx with
      | tuple e1 e2 =>
        rename_i vs'
        obtain ⟨y, hy, hv⟩ := VRs.get ⟨e1, e2⟩ h
        refine Gives.all ⟨y, hv, fun w' => ?_⟩
        have : vs'[i]? = some y := by rw [← Array.getElem?_toList]; exact hy
        simp only [Instr.extract, this, Sem.run_pure]
    · cases h
  case h_28 c =>
    unfold callA at h
    split at h
    · rename_i b hb
      have hok' : c.args.toList.all okOperand = true := by
        simp only [Call.operands, hb, Array.toList_append, List.all_append, Bool.and_eq_true] at hok
        exact hok.2
      have := builtin_keep (ty := o.type) (cs := c.args.map fun | .const _ => true | _ => false) hW h (hE.args hok')
      have e1 : (c.args.toList.map a.eval).toArray = c.args.map a.eval := by apply Array.toList_inj.1; simp
      rw [e1] at this
      obtain ⟨v', h1, h2⟩ := this
      refine ⟨v', h1, fun w' hc' => ?_⟩
      have h2' := h2 w' hc'
      simp only [resolve, hb, Sem.run_bind, Sem.run_pure, Result.andThen_ok, invoke]
      exact h2'
    · rename_i f hb
      rw [hop] at hc
      obtain ⟨cal, as, ats⟩ := c
      simp only at hb
      subst hb
      cases hc
    · cases h
  case h_29 => cases h

/-- how the model runs an operation that turns the heap -/
def TurnsN (P : Program) (base : Nat) (w0 : World) (φ : List Loc) (S : List Blk) (low : Nat) (S' : List Blk) (w : World) (s : Sem Next) (v : Value) : Prop :=
  ∃ v' w' φ', (s.run P w = .ok (.value v') w' ∨ (s.run P w = .ok .skip w' ∧ v' = undef)) ∧ Ext φ φ' ∧ VR φ' v v' ∧ WR base w0 φ' S' w' ∧ Fr φ S low w w'

theorem TurnsN.of {low : Nat} {S' : List Blk} {s : Sem Value} {v : Value} (h : Turns P base w0 φ S low S' w s v) : TurnsN P base w0 φ S low S' w (do pure (.value (← s))) v := by
  obtain ⟨v', w', φ', h1, h2⟩ := h
  exact ⟨v', w', φ', .inl (by simp only [Sem.run_bind, h1, Result.andThen_ok, Sem.run_pure]), h2⟩
theorem TurnsN.skip {low : Nat} {S' : List Blk} {s : Sem Unit} (h : ∃ w', s.run P w = .ok () w' ∧ WR base w0 φ S' w' ∧ Fr φ S low w w') : TurnsN P base w0 φ S low S' w (do s; pure .skip) undef := by
  obtain ⟨w', h1, h2, h3⟩ := h
  exact ⟨undef, w', φ, .inr ⟨by simp only [Sem.run_bind, h1, Result.andThen_ok, Sem.run_pure], rfl⟩, Ext.refl φ, VR.undef' φ, h2, h3⟩

theorem builtin_turn {b : Builtin} {ts : Array TypeId} {ty : TypeId} {cs : Array Bool} {H H' : Heap} {args args' : List Value} {v : Value} (hW : WR base w0 φ H.bs w) (h : builtinA P b ts.toList args H = some (v, some H')) (ha : VRs φ args args') :
    TurnsN P base w0 φ H.bs H'.low H'.bs w (builtin b ts ty cs args'.toArray) v := by
  unfold builtinA at h
  split at h
  · simp only [Option.map_eq_some_iff, Prod.mk.injEq] at h
    obtain ⟨v, h, _, h2⟩ := h
    cases h2
  · rename_i s x
    obtain ⟨y, ys, rfl, h1, h2⟩ := ha.of_cons
    obtain ⟨z, zs, rfl, h3, h4⟩ := h2.of_cons
    rw [h4.of_nil]
    have := append_turn hW h h1 h3 ty
    simp only [Array.toArray_toList] at this
    exact TurnsN.of this
  · rename_i d s
    obtain ⟨y, ys, rfl, h1, h2⟩ := ha.of_cons
    obtain ⟨z, zs, rfl, h3, h4⟩ := h2.of_cons
    rw [h4.of_nil]
    have := copy_turn hW h h1 h3 ty
    simp only [Array.toArray_toList] at this
    exact TurnsN.of this
  · simp only [Option.map_eq_some_iff, Prod.mk.injEq] at h
    obtain ⟨v, h, _, h2⟩ := h
    cases h2
  · simp only [Option.map_eq_some_iff, Prod.mk.injEq] at h
    obtain ⟨v, h, _, h2⟩ := h
    cases h2
  · cases h

theorem keep_none {x : Option Value} {v : Value} {H' : Heap} (h : keep x = some (v, some H')) : False := by
  have := (keep_spec h).2
  cases this

theorem op_turn {C : CallF} {o : Oper} {H H' : Heap} {v : Value} (hW : WR base w0 φ H.bs w) (hE : ER φ nt e a) (hok : o.op.operands.toList.all okOperand = true) (hc : isCall o.op = false) (h : aop P C o.op e H = some (v, some H')) :
    TurnsN P base w0 φ H.bs H'.low H'.bs w (execOp a.eval o) v := by
  unfold aop at h
  unfold execOp
  split at h <;> rename_i hop <;> simp only [hop]
  all_goals simp only [hop, Op.operands, List.all_cons, List.all_nil, Bool.and_true, Bool.and_eq_true] at hok
  all_goals try exact (keep_none h).elim
  case h_3 =>
    split at h
    · exact (keep_none h).elim
    · cases h
  case h_4 t =>
    obtain ⟨_, h, e1⟩ := turn_spec h
    cases e1
    simp only [Option.map_eq_some_iff, Prod.mk.injEq] at h
    obtain ⟨z, hz, rfl, rfl⟩ := h
    exact TurnsN.of (alloc_sound hW hz _)
  case h_5 t x =>
    split at h
    · rename_i hone
      obtain ⟨_, h, e1⟩ := turn_spec h
      cases e1
      simp only [Option.some.injEq, Prod.mk.injEq] at h
      obtain ⟨rfl, rfl⟩ := h
      exact TurnsN.of (box_sound hW (hE.op hok) hone _)
    · cases h
  case h_7 t len parts =>
    obtain ⟨_, h, e1⟩ := turn_spec h
    cases e1
    have hp := hE.parts (xs := parts) (by simpa [List.all_map] using hok)
    have := buildSlice_sound hW h hp H'.low
    have e1 : (parts.map fun (i, x) => (i, a.eval x)) = (parts.toList.map fun (i, x) => (i, a.eval x)).toArray := by apply Array.toList_inj.1; simp
    rw [e1]
    exact TurnsN.of this
  case h_9 t x y =>
    obtain ⟨_, h, e1⟩ := turn_spec h
    cases e1
    simp only [Option.map_eq_some_iff, Prod.mk.injEq] at h
    obtain ⟨H2, hq, rfl, rfl⟩ := h
    exact TurnsN.skip (sto_sound hW hq (hE.op hok.1) (hE.op hok.2))
  case h_10 =>
    split at h
    · exact (keep_none h).elim
    · exact (keep_none h).elim
    · cases h
  case h_13 s d x => exact TurnsN.of (conv_turn hW h (hE.op hok))
  case h_14 =>
    split at h
    · exact (keep_none h).elim
    · cases h
  case h_15 =>
    split at h
    · exact (keep_none h).elim
    · cases h
  case h_16 t =>
    obtain ⟨_, h, e1⟩ := turn_spec h
    cases e1
    simp only [Option.some.injEq, Prod.mk.injEq] at h
    obtain ⟨rfl, rfl⟩ := h
    exact TurnsN.of (makeMap_sound hW t _)
  case h_17 t l c =>
    obtain ⟨_, h, e1⟩ := turn_spec h
    cases e1
    exact TurnsN.of (makeSlice_sound hW h (hE.op hok.1) (hE.op hok.2) _)
  case h_24 t m k x =>
    obtain ⟨_, h, e1⟩ := turn_spec h
    cases e1
    simp only [Option.map_eq_some_iff, Prod.mk.injEq] at h
    obtain ⟨H2, hq, rfl, rfl⟩ := h
    exact TurnsN.skip (mapUpdate_sound hW hq (hE.op hok.1) (hE.op hok.2.1) (hE.op hok.2.2))
  case h_25 t x =>
    have hx := hE.op hok
    split at h
    · rename_i s hu hs
      rw [hs] at hx
      obtain ⟨_, h, e1⟩ := turn_spec h
      cases e1
      simp only [Option.some.injEq, Prod.mk.injEq] at h
      obtain ⟨rfl, rfl⟩ := h
      generalize a.eval x = xv at hx
      cases hx
      exact TurnsN.of (range_sound hW hu _)
    · cases h
  case h_26 it => exact TurnsN.of (next_turn hW h (hE.op hok) o.type)
  case h_27 =>
    split at h
    · exact (keep_none h).elim
    · cases h
  case h_28 c =>
    unfold callA at h
    split at h
    · rename_i b hb
      have hok' : c.args.toList.all okOperand = true := by
        simp only [Call.operands, hb, Array.toList_append, List.all_append, Bool.and_eq_true] at hok
        exact hok.2
      have := builtin_turn (ty := o.type) (cs := c.args.map fun | .const _ => true | _ => false) hW h (hE.args hok')
      have e1 : (c.args.toList.map a.eval).toArray = c.args.map a.eval := by apply Array.toList_inj.1; simp
      rw [e1] at this
      obtain ⟨v', w', φ', h1, h2⟩ := this
      refine ⟨v', w', φ', ?_, h2⟩
      simp only [resolve, hb, Sem.run_bind, Sem.run_pure, Result.andThen_ok, invoke]
      exact h1
    · rename_i f hb
      rw [hop] at hc
      obtain ⟨cal, as, ats⟩ := c
      simp only at hb
      subst hb
      cases hc
    · cases h
  case h_29 => cases h

/-! ### how heaps follow one another -/
structure Le (H H' : Heap) : Prop where
  low : H'.low ≤ H.low
  len : H.bs.length ≤ H'.bs.length
  same : ∀ b, b < H'.low → b < H.bs.length → H'.bs[b]? = H.bs[b]?

theorem Le.refl (H : Heap) : Le H H := ⟨Nat.le_refl _, Nat.le_refl _, fun _ _ _ => rfl⟩
theorem Le.trans {A B C : Heap} (h : Le A B) (k : Le B C) : Le A C :=
  ⟨Nat.le_trans k.low h.low, Nat.le_trans h.len k.len, fun b hb hl => by rw [k.same b hb (Nat.lt_of_lt_of_le hl h.len), h.same b (Nat.lt_of_lt_of_le hb k.low) hl]⟩
theorem Le.push (H : Heap) (x : Blk) : Le H (H.push x) :=
  ⟨Nat.le_refl _, by simp [Heap.push], fun b _ hl => by simp [Heap.push, List.getElem?_append_left hl]⟩
theorem Le.put (H : Heap) (b : Nat) (x : Blk) : Le H (H.put b x) :=
  ⟨Nat.min_le_left _ _, by simp [Heap.put], fun c hc _ => by
    have : c < min H.low b := hc
    simp only [Heap.put, List.getElem?_set]
    rw [if_neg (by omega)]⟩

theorem Fr.trans {φ φ' : List Loc} {H H' H'' : Heap} {w w' w'' : World} (hx : Ext φ φ') (hl : Le H H') (hl2 : Le H' H'') (hlen : φ.length = H.bs.length) (h : Fr φ H.bs H'.low w w') (k : Fr φ' H'.bs H''.low w' w'') : Fr φ H.bs H''.low w w'' := by
  intro b B l hb hB hd hφ
  have hbl : b < H.bs.length := (List.getElem?_eq_some_iff.1 hB).1
  have h2 : H'.bs[b]? = some B := by rw [hl.same b (Nat.lt_of_lt_of_le hb hl2.low) hbl]; exact hB
  rw [k b B l hb h2 hd (hx _ _ hφ), h b B l (Nat.lt_of_lt_of_le hb hl2.low) hB hd hφ]

theorem le_append {H H' : Heap} {ts : List TypeId} {s x v : Value} (h : appendA P H ts s x = some (v, some H')) : Le H H' := by
  unfold appendA at h
  repeat' split at h
  all_goals first | (cases h; done) | (simp at h; done) | skip
  all_goals (simp only [Option.some.injEq, Prod.mk.injEq] at h; obtain ⟨_, rfl⟩ := h)
  · exact Le.push _ _
  · exact Le.push _ _
  · exact (Le.put _ _ _).trans (Le.push _ _)
theorem le_copy {H H' : Heap} {ts : List TypeId} {s x v : Value} (h : copyA P H ts s x = some (v, some H')) : Le H H' := by
  unfold copyA at h
  repeat' split at h
  all_goals first | (cases h; done) | (simp at h; done) | skip
  all_goals (simp only [Option.some.injEq, Prod.mk.injEq] at h; obtain ⟨_, rfl⟩ := h)
  exact Le.put _ _ _
theorem le_builtin {b : Builtin} {ts : List TypeId} {args : List Value} {H H' : Heap} {v : Value} (h : builtinA P b ts args H = some (v, some H')) : Le H H' := by
  unfold builtinA at h
  split at h
  · simp only [Option.map_eq_some_iff, Prod.mk.injEq] at h; obtain ⟨v, h, _, h2⟩ := h; cases h2
  · exact le_append h
  · exact le_copy h
  · simp only [Option.map_eq_some_iff, Prod.mk.injEq] at h; obtain ⟨v, h, _, h2⟩ := h; cases h2
  · simp only [Option.map_eq_some_iff, Prod.mk.injEq] at h; obtain ⟨v, h, _, h2⟩ := h; cases h2
  · cases h
theorem le_op {C : CallF} {o : Op} {H H' : Heap} {v : Value} (hc : isCall o = false) (h : aop P C o e H = some (v, some H')) : Le H H' := by
  unfold aop at h
  split at h
  all_goals try exact (keep_none h).elim
  case h_3 =>
    split at h
    · exact (keep_none h).elim
    · cases h
  case h_4 t =>
    obtain ⟨_, h, e1⟩ := turn_spec h
    cases e1
    simp only [Option.map_eq_some_iff, Prod.mk.injEq] at h
    obtain ⟨z, hz, rfl, rfl⟩ := h
    exact Le.push _ _
  case h_5 t x =>
    split at h
    · obtain ⟨_, h, e1⟩ := turn_spec h
      cases e1
      simp only [Option.some.injEq, Prod.mk.injEq] at h
      obtain ⟨rfl, rfl⟩ := h
      exact Le.push _ _
    · cases h
  case h_7 t len parts =>
    obtain ⟨_, h, e1⟩ := turn_spec h
    cases e1
    unfold buildSliceA at h
    repeat' split at h
    all_goals first | (cases h; done) | skip
    cases h
    exact Le.push _ _
  case h_9 t x y =>
    obtain ⟨_, h, e1⟩ := turn_spec h
    cases e1
    simp only [Option.map_eq_some_iff, Prod.mk.injEq] at h
    obtain ⟨H2, hq, rfl, rfl⟩ := h
    unfold sto at hq
    repeat' split at hq
    all_goals first | (cases hq; done) | skip
    cases hq
    exact Le.put _ _ _
  case h_10 =>
    split at h
    · exact (keep_none h).elim
    · exact (keep_none h).elim
    · cases h
  case h_13 s d x =>
    unfold convA at h
    repeat' split at h
    all_goals first | (cases h; done) | (simp at h; done) | skip
    all_goals (simp only [Option.some.injEq, Prod.mk.injEq] at h; obtain ⟨_, rfl⟩ := h)
    · exact Le.push _ _
    · exact Le.push _ _
  case h_14 =>
    split at h
    · exact (keep_none h).elim
    · cases h
  case h_15 =>
    split at h
    · exact (keep_none h).elim
    · cases h
  case h_16 t =>
    obtain ⟨_, h, e1⟩ := turn_spec h
    cases e1
    simp only [Option.some.injEq, Prod.mk.injEq] at h
    obtain ⟨rfl, rfl⟩ := h
    exact Le.push _ _
  case h_17 t l c =>
    obtain ⟨_, h, e1⟩ := turn_spec h
    cases e1
    unfold makeSliceA at h
    repeat' split at h
    all_goals first | (cases h; done) | skip
    cases h
    exact Le.push _ _
  case h_24 t m k x =>
    obtain ⟨_, h, e1⟩ := turn_spec h
    cases e1
    simp only [Option.map_eq_some_iff, Prod.mk.injEq] at h
    obtain ⟨H2, hq, rfl, rfl⟩ := h
    unfold mapUpdateA at hq
    repeat' split at hq
    all_goals first | (cases hq; done) | skip
    all_goals cases hq
    · exact Le.put _ _ _
    · exact Le.put _ _ _
  case h_25 t x =>
    split at h
    · obtain ⟨_, h, e1⟩ := turn_spec h
      cases e1
      simp only [Option.some.injEq, Prod.mk.injEq] at h
      obtain ⟨rfl, rfl⟩ := h
      exact Le.push _ _
    · cases h
  case h_26 it =>
    unfold nextA at h
    repeat' split at h
    all_goals first | (cases h; done) | (simp at h; done) | skip
    simp only [Option.some.injEq, Prod.mk.injEq] at h
    obtain ⟨_, rfl⟩ := h
    exact Le.put _ _ _
  case h_27 =>
    split at h
    · exact (keep_none h).elim
    · cases h
  case h_28 c =>
    unfold callA at h
    split at h
    · exact le_builtin h
    · rename_i f hb
      obtain ⟨cal, as, ats⟩ := c
      simp only at hb
      subst hb
      cases hc
    · cases h
  case h_29 => cases h

/-! ### calls -/
/-- a function that the model enters -/
def Entered (P : Program) (g : FuncId) : Prop := ∃ fn, P.funcs[g]? = some fn ∧ (fn.name == "runtime.NumGoroutine") = false ∧ fn.body.isNone = false

/-- What is asked of a call: the model's call ends with the value that is told, and a world in which the heap lies that is told. -/
def CallOk (P : Program) (base : Nat) (w0 : World) (C : CallF) : Prop :=
  ∀ g args H v r, C g args H = some (v, r) → Entered P g ∧ (∀ H', r = some H' → Le H H') ∧ (r = none → noAddr v = true) ∧
    ∀ (φ : List Loc) (w : World) (args' : List Value), VRs φ args args' → WR base w0 φ H.bs w →
      Calls P g args'.toArray w fun en w' => match r with
        | none => en = .returned v ∧ Cls base w0 φ H.bs w w'
        | some H' => ∃ v' φ', en = .returned v' ∧ Ext φ φ' ∧ VR φ' v v' ∧ WR base w0 φ' H'.bs w' ∧ Fr φ H.bs H'.low w w'

theorem run_callFunc {g : FuncId} (h : Entered P g) (args : Array Value) (w : World) : (callFunc g args).run P w = .ok (.enter g args) w := by
  obtain ⟨fn, h1, h2, h3⟩ := h
  simp only [callFunc, Sem.run_bind, run_program, Result.andThen_ok, h1, h2, h3, Bool.false_eq_true, if_false, Sem.run_pure]

theorem call_resolve {c : Call} {f : Operand} {g : FuncId} {first captured : Array Value} (hc : c.callee = .value f) {ty : TypeId} (hv : a.eval f = .func (.func g) first captured) (he : Entered P g) {o : Oper} (ho : o.op = .call c) (w : World) :
    (execOp a.eval o).run P w = .ok (.enter g (first ++ c.args.map a.eval ++ captured)) w := by
  unfold execOp
  simp only [ho, resolve, hc, hv, Deferred.ofValue, Sem.run_bind, Sem.run_pure, Result.andThen_ok, invoke, run_callFunc he]
end
end Go.Proofs.Ytcpolfjnbbodgaa.Ve
