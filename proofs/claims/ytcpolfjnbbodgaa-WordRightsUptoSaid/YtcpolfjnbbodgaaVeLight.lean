/- Code in a light form (operations without places and edges), and the evaluator over it. Conditions: none here. -/
import Derived.Test.YtcpolfjnbbodgaaVeStep
namespace Go.Proofs.Ytcpolfjnbbodgaa.Ve
open Go Go.RowKit
set_option linter.unusedVariables false
set_option linter.unusedSimpArgs false

structure LOp where
  dst : Option Tmp
  op : Op
  guard : Option (Tmp × Bool)
inductive LCode where
  | skip
  | ret
  | exit (id : Nat)
  | ops (l : List LOp)
  | draw (l : List (LOp × Bool))
  | seq (a b : LCode)
  | cond (x : Operand) (a b : LCode)
  | block (id : Nat) (a : LCode)
  | loop (a : LCode)
  | scope (a : LCode)

def lop (ops : Array Oper) (o : Oper) : Option LOp :=
  match o.guard with
  | none => some ⟨o.dst, o.op, none⟩
  | some (j, b) => match (ops[j]?).bind (·.dst) with
    | some d => some ⟨o.dst, o.op, some (d, b)⟩
    | none => none
def lops (ops : Array Oper) : List Oper → Option (List LOp)
  | [] => some []
  | o :: r => match lop ops o, lops ops r with
    | some x, some xs => some (x :: xs)
    | _, _ => none
def ldraw (ops : Array Oper) : Nat → List Oper → Option (List (LOp × Bool))
  | _, [] => some []
  | i, o :: r => match lop ops o, ldraw ops (i + 1) r with
    | some x, some xs => some ((x, tailB ops i) :: xs)
    | _, _ => none
def light : Code → Option LCode
  | .skip => some .skip
  | .ret => some .ret
  | .exit id => some (.exit id)
  | .region _ ops draw =>
    if draw then (if Region.lexB .any ops then (ldraw ops 0 ops.toList).map .draw else none) else (lops ops ops.toList).map .ops
  | .seq a b => match light a, light b with
    | some x, some y => some (.seq x y)
    | _, _ => none
  | .cond c a b => match light a, light b with
    | some x, some y => some (.cond c x y)
    | _, _ => none
  | .block id a => (light a).map (.block id)
  | .loop a => (light a).map .loop
  | .scope a => (light a).map .scope
  | _ => none

section
variable {P : Program}
def wantL (e : Env) : Option (Tmp × Bool) → Bool
  | none => true
  | some (d, b) => isB (e.get d) b
def runL (P : Program) (C : CallF) : List LOp → Env → Heap → Option (Env × Heap)
  | [], e, H => some (e, H)
  | o :: rest, e, H =>
    if wantL e o.guard then
      match aop P C o.op e H with
      | some (v, none) => runL P C rest (putA e o.dst v) H
      | some (v, some H') => runL P C rest (putA e o.dst v) H'
      | none => none
    else runL P C rest (putA e o.dst undef) H
def runLD (P : Program) (C : CallF) : Bool → List (LOp × Bool) → Env → Heap → Option (Env × Heap)
  | _, [], e, H => some (e, H)
  | q, (o, t) :: rest, e, H =>
    if wantL e o.guard then
      match aop P C o.op e H with
      | some (v, none) => runLD P C (q || isCall o.op) rest (putA e o.dst v) H
      | some (v, some H') => if !q && t then runL P C (rest.map (·.1)) (putA e o.dst v) H' else none
      | none => none
    else runLD P C q rest (putA e o.dst undef) H
def execL (P : Program) (C : CallF) : Nat → LCode → Env → Heap → Option (Out × Env × Heap)
  | 0, _, _, _ => none
  | k + 1, c, e, H =>
    match c with
    | .skip => some (.normal, e, H)
    | .ret => some (.ret, e, H)
    | .exit id => some (.exit id, e, H)
    | .ops l =>
      match runL P C l e H with
      | some (e', H') => some (.normal, e', H')
      | none => none
    | .draw l =>
      match runLD P C false l e H with
      | some (e', H') => some (.normal, e', H')
      | none => none
    | .seq a b =>
      match execL P C k a e H with
      | some (.normal, e', H') => execL P C k b e' H'
      | r => r
    | .cond x a b =>
      match opv e x with
      | .bool t => execL P C k (if t then a else b) e H
      | _ => none
    | .block id a =>
      match execL P C k a e H with
      | some (.exit i, e', H') => if i = id then some (.normal, e', H') else some (.exit i, e', H')
      | r => r
    | .loop a =>
      match execL P C k a e H with
      | some (.normal, e', H') => execL P C k (.loop a) e' H'
      | r => r
    | .scope a => execL P C k a e H

theorem lop_spec {ops : Array Oper} {o : Oper} {x : LOp} (h : lop ops o = some x) (e : Env) : wantedA ops e o = wantL e x.guard ∧ x.op = o.op ∧ x.dst = o.dst := by
  unfold lop at h
  unfold wantedA
  split at h
  · rename_i hg; cases h; simp [hg, wantL]
  · rename_i j b hg
    split at h
    · rename_i d hd; cases h; simp [hg, hd, wantL]
    · cases h
theorem lops_spec {ops : Array Oper} (C : CallF) : ∀ {l : List Oper} {l' : List LOp}, lops ops l = some l' → ∀ e H, runOps P C ops l e H = runL P C l' e H
  | [], l', h, e, H => by simp only [lops, Option.some.injEq] at h; subst h; rfl
  | o :: r, l', h, e, H => by
    simp only [lops] at h
    split at h
    · rename_i x xs hx hxs
      cases h
      obtain ⟨h1, h2, h3⟩ := lop_spec hx e
      simp only [runOps, runL, h1, h2, h3, lops_spec C hxs]
      rfl
    · cases h
theorem ldraw_map {ops : Array Oper} : ∀ {l : List Oper} {i : Nat} {l' : List (LOp × Bool)}, ldraw ops i l = some l' → lops ops l = some (l'.map (·.1))
  | [], i, l', h => by simp only [ldraw, Option.some.injEq] at h; subst h; rfl
  | o :: r, i, l', h => by
    simp only [ldraw] at h
    split at h
    · rename_i x xs hx hxs
      cases h
      simp only [lops, hx, ldraw_map hxs, List.map_cons]
    · cases h
theorem ldraw_spec {ops : Array Oper} (hlex : Region.lexB .any ops = true) (C : CallF) : ∀ {l : List Oper} {i : Nat} {l' : List (LOp × Bool)}, ldraw ops i l = some l' → ∀ q e H, runDraw P C ops i q l e H = runLD P C q l' e H
  | [], i, l', h, q, e, H => by simp only [ldraw, Option.some.injEq] at h; subst h; simp [runDraw, runLD, hlex]
  | o :: r, i, l', h, q, e, H => by
    simp only [ldraw] at h
    split at h
    · rename_i x xs hx hxs
      cases h
      obtain ⟨h1, h2, h3⟩ := lop_spec hx e
      simp only [runDraw, runLD, h1, h2, h3, ldraw_spec hlex C hxs, lops_spec C (ldraw_map hxs)]
      rfl
    · cases h
theorem light_spec (C : CallF) : ∀ (k : Nat) {c : Code} {l : LCode}, light c = some l → ∀ e H, exec P C k c e H = execL P C k l e H := by
  intro k
  induction k with
  | zero => intro c l _ e H; rfl
  | succ k ih =>
    intro c l h e H
    cases c <;> simp only [light] at h <;> try (cases h; done)
    case skip => cases h; rfl
    case ret => cases h; rfl
    case exit id => cases h; rfl
    case region id ops draw =>
      split at h
      · rename_i hd
        split at h
        · rename_i hlex
          obtain ⟨l', hl', rfl⟩ := Option.map_eq_some_iff.1 h
          subst hd
          simp only [exec, execL, if_true, ldraw_spec hlex C hl']
          rfl
        · cases h
      · rename_i hd
        obtain ⟨l', hl', rfl⟩ := Option.map_eq_some_iff.1 h
        have : draw = false := by simpa using hd
        subst this
        simp only [exec, execL, Bool.false_eq_true, if_false, lops_spec C hl']
        rfl
    case seq a b =>
      split at h
      · rename_i x y hx hy; cases h; simp only [exec, execL, ih hx, ih hy]; rfl
      · cases h
    case cond x a b =>
      split at h
      · rename_i y z hy hz
        cases h
        simp only [exec, execL]
        cases opv e x <;> first | rfl | skip
        rename_i t
        cases t <;> simp [ih hy, ih hz]
      · cases h
    case block id a => obtain ⟨l', hl', rfl⟩ := Option.map_eq_some_iff.1 h; simp only [exec, execL, ih hl']; rfl
    case loop a =>
      obtain ⟨l', hl', rfl⟩ := Option.map_eq_some_iff.1 h
      have h2 : light (.loop a) = some (.loop l') := by simp [light, hl']
      simp only [exec, execL, ih hl', ih h2]; rfl
    case scope a => obtain ⟨l', hl', rfl⟩ := Option.map_eq_some_iff.1 h; simp only [exec, execL, ih hl']

noncomputable def LE (P : Program) (X : Lib) (c : LCode) (e : Env) (H : Heap) : Of c (Option (Out × Env × Heap)) := lim fun k => execL P (CL P X) k c e H
theorem runL_mono {C D : CallF} (h : LeC C D) : ∀ (l : List LOp) (e : Env) (H : Heap), LeO (runL P C l e H) (runL P D l e H) := by
  intro l
  induction l with
  | nil => intro e H r hr; exact hr
  | cons o l ih =>
    intro e H r hr
    simp only [runL] at hr ⊢
    split
    · rename_i hw
      rw [if_pos hw] at hr
      cases ho : aop P C o.op e H with
      | none => simp [ho] at hr
      | some q =>
        rw [aop_mono h _ _ _ _ ho]
        rw [ho] at hr
        obtain ⟨v, q⟩ := q
        cases q with
        | none => exact ih _ _ _ hr
        | some H' => exact ih _ _ _ hr
    · rename_i hw
      rw [if_neg hw] at hr
      exact ih _ _ _ hr
theorem runLD_mono {C D : CallF} (h : LeC C D) : ∀ (l : List (LOp × Bool)) (q : Bool) (e : Env) (H : Heap), LeO (runLD P C q l e H) (runLD P D q l e H) := by
  intro l
  induction l with
  | nil => intro q e H r hr; exact hr
  | cons o l ih =>
    intro q e H r hr
    obtain ⟨o, t⟩ := o
    simp only [runLD] at hr ⊢
    split
    · rename_i hw
      rw [if_pos hw] at hr
      cases ho : aop P C o.op e H with
      | none => simp [ho] at hr
      | some x =>
        rw [aop_mono h _ _ _ _ ho]
        rw [ho] at hr
        obtain ⟨v, x⟩ := x
        cases x with
        | none => exact ih _ _ _ _ hr
        | some H' =>
          simp only at hr ⊢
          split
          · rename_i hb; rw [if_pos hb] at hr; exact runL_mono h _ _ _ _ hr
          · rename_i hb; rw [if_neg hb] at hr; exact hr
    · rename_i hw
      rw [if_neg hw] at hr
      exact ih _ _ _ _ hr
theorem execL_mono {C D : CallF} (h : LeC C D) : ∀ (k k' : Nat), k ≤ k' → ∀ (c : LCode) (e : Env) (H : Heap), LeO (execL P C k c e H) (execL P D k' c e H) := by
  intro k
  induction k with
  | zero => intro k' _ c e H r hr; cases hr
  | succ k ih =>
    intro k' hk c e H r hr
    obtain ⟨k', rfl⟩ : ∃ m, k' = m + 1 := ⟨k' - 1, by omega⟩
    have ih' := fun c e H r (hr : execL P C k c e H = some r) => ih k' (by omega) c e H r hr
    cases c <;> simp only [execL] at hr ⊢ <;> try exact hr
    case ops l =>
      cases hq : runL P C l e H with
      | none => simp [hq] at hr
      | some x => rw [runL_mono h _ _ _ _ hq]; rw [hq] at hr; exact hr
    case draw l =>
      cases hq : runLD P C false l e H with
      | none => simp [hq] at hr
      | some x => rw [runLD_mono h _ _ _ _ _ hq]; rw [hq] at hr; exact hr
    case seq x y =>
      cases hq : execL P C k x e H with
      | none => simp [hq] at hr
      | some z =>
        rw [ih' _ _ _ _ hq]; rw [hq] at hr
        obtain ⟨o, e', H'⟩ := z
        cases o with
        | normal => exact ih' _ _ _ _ hr
        | exit id => exact hr
        | ret => exact hr
    case cond x y z =>
      split
      · rename_i t ht; rw [ht] at hr; exact ih' _ _ _ _ hr
      · rename_i hno
        split at hr
        · rename_i t ht; exact absurd ht (hno t)
        · exact hr
    case block id x =>
      cases hq : execL P C k x e H with
      | none => simp [hq] at hr
      | some z => rw [ih' _ _ _ _ hq]; rw [hq] at hr; exact hr
    case loop x =>
      cases hq : execL P C k x e H with
      | none => simp [hq] at hr
      | some z =>
        rw [ih' _ _ _ _ hq]; rw [hq] at hr
        obtain ⟨o, e', H'⟩ := z
        cases o with
        | normal => exact ih' _ _ _ _ hr
        | exit id => exact hr
        | ret => exact hr
    case scope x => exact ih' _ _ _ _ hr


theorem LE_some {X : Lib} {c : LCode} {e : Env} {H : Heap} {r : Out × Env × Heap} : LE P X c e H = some r ↔ ∃ k, execL P (CL P X) k c e H = some r :=
  lim_some fun k k' hk => execL_mono (fun _ _ _ => LeO.refl _) k k' hk c e H
variable {X : Lib}
theorem LE_step {c : LCode} {e : Env} {H : Heap} {y : Option (Out × Env × Heap)} (h1 : ∀ k r, execL P (CL P X) (k + 1) c e H = some r → y = some r) (h2 : ∀ r, y = some r → ∃ k, execL P (CL P X) k c e H = some r) : LE P X c e H = y := by
  refine opt_ext fun r => ⟨fun h => ?_, fun h => LE_some.2 (h2 r h)⟩
  obtain ⟨k, hk⟩ := LE_some.1 h
  cases k with
  | zero => cases hk
  | succ k => exact h1 k r hk
theorem execL_le' {k : Nat} {c : LCode} {e : Env} {H : Heap} : LeO (execL P (CL P X) k c e H) (LE P X c e H) := fun r h => LE_some.2 ⟨k, h⟩

theorem LE_skip (e : Env) (H : Heap) : LE P X .skip e H = some (.normal, e, H) := LE_step (fun k r h => h) fun r h => ⟨1, h⟩
theorem LE_ret (e : Env) (H : Heap) : LE P X .ret e H = some (.ret, e, H) := LE_step (fun k r h => h) fun r h => ⟨1, h⟩
theorem LE_exit (id : Nat) (e : Env) (H : Heap) : LE P X (.exit id) e H = some (.exit id, e, H) := LE_step (fun k r h => h) fun r h => ⟨1, h⟩

theorem LE_seq (a b : LCode) (e : Env) (H : Heap) : LE P X (.seq a b) e H = thenDo (LE P X a e H) (LE P X b) := by
  refine LE_step (fun k r h => ?_) fun r h => ?_
  · simp only [execL] at h
    cases hq : execL P (CL P X) k a e H with
    | none => simp [hq] at h
    | some z =>
      rw [hq] at h
      rw [execL_le' _ hq]
      obtain ⟨o, e', H'⟩ := z
      cases o with
      | normal => exact execL_le' _ h
      | exit i => exact h
      | ret => exact h
  · cases hq : LE P X a e H with
    | none => simp [hq, thenDo] at h
    | some z =>
      rw [hq] at h
      obtain ⟨k1, hk1⟩ := LE_some.1 hq
      obtain ⟨o, e', H'⟩ := z
      have fin : o ≠ .normal → some (o, e', H') = some r → ∃ k, execL P (CL P X) k (.seq a b) e H = some r := by
        intro ho he
        refine ⟨k1 + 1, ?_⟩
        simp only [execL, hk1]
        cases o <;> first | exact absurd rfl ho | exact he
      cases o with
      | normal =>
        obtain ⟨k2, hk2⟩ := LE_some.1 h
        refine ⟨max k1 k2 + 1, ?_⟩
        simp only [execL, execL_mono (fun _ _ _ => LeO.refl _) k1 (max k1 k2) (Nat.le_max_left _ _) _ _ _ _ hk1]
        exact execL_mono (fun _ _ _ => LeO.refl _) k2 (max k1 k2) (Nat.le_max_right _ _) _ _ _ _ hk2
      | exit i => exact fin (by simp) h
      | ret => exact fin (by simp) h

theorem LE_loop (a : LCode) (e : Env) (H : Heap) : LE P X (.loop a) e H = thenDo (LE P X a e H) (LE P X (.loop a)) := by
  refine LE_step (fun k r h => ?_) fun r h => ?_
  · simp only [execL] at h
    cases hq : execL P (CL P X) k a e H with
    | none => simp [hq] at h
    | some z =>
      rw [hq] at h
      rw [execL_le' _ hq]
      obtain ⟨o, e', H'⟩ := z
      cases o with
      | normal => exact execL_le' _ h
      | exit i => exact h
      | ret => exact h
  · cases hq : LE P X a e H with
    | none => simp [hq, thenDo] at h
    | some z =>
      rw [hq] at h
      obtain ⟨k1, hk1⟩ := LE_some.1 hq
      obtain ⟨o, e', H'⟩ := z
      have fin : o ≠ .normal → some (o, e', H') = some r → ∃ k, execL P (CL P X) k (.loop a) e H = some r := by
        intro ho he
        refine ⟨k1 + 1, ?_⟩
        simp only [execL, hk1]
        cases o <;> first | exact absurd rfl ho | exact he
      cases o with
      | normal =>
        obtain ⟨k2, hk2⟩ := LE_some.1 h
        refine ⟨max k1 k2 + 1, ?_⟩
        simp only [execL, execL_mono (fun _ _ _ => LeO.refl _) k1 (max k1 k2) (Nat.le_max_left _ _) _ _ _ _ hk1]
        exact execL_mono (fun _ _ _ => LeO.refl _) k2 (max k1 k2) (Nat.le_max_right _ _) _ _ _ _ hk2
      | exit i => exact fin (by simp) h
      | ret => exact fin (by simp) h

theorem LE_cond (x : Operand) (a b : LCode) (e : Env) (H : Heap) {t : Bool} (h : opv e x = .bool t) : LE P X (.cond x a b) e H = if t then LE P X a e H else LE P X b e H := by
  refine LE_step (fun k r hr => ?_) fun r hr => ?_
  · simp only [execL, h] at hr
    cases t <;> exact execL_le' _ hr
  · cases t
    · obtain ⟨k, hk⟩ := LE_some.1 hr; exact ⟨k + 1, by simp only [execL, h]; exact hk⟩
    · obtain ⟨k, hk⟩ := LE_some.1 hr; exact ⟨k + 1, by simp only [execL, h]; exact hk⟩

theorem LE_block (id : Nat) (a : LCode) (e : Env) (H : Heap) : LE P X (.block id a) e H = inBlock id (LE P X a e H) := by
  refine LE_step (fun k r h => ?_) fun r h => ?_
  · simp only [execL] at h
    cases hq : execL P (CL P X) k a e H with
    | none => simp [hq] at h
    | some z => rw [hq] at h; rw [execL_le' _ hq]; exact h
  · cases hq : LE P X a e H with
    | none => simp [hq, inBlock] at h
    | some z =>
      rw [hq] at h
      obtain ⟨k1, hk1⟩ := LE_some.1 hq
      exact ⟨k1 + 1, by simp only [execL, hk1]; exact h⟩
theorem LE_scope (a : LCode) (e : Env) (H : Heap) : LE P X (.scope a) e H = LE P X a e H := by
  refine LE_step (fun k r h => ?_) fun r h => ?_
  · exact execL_le' _ h
  · obtain ⟨k1, hk1⟩ := LE_some.1 h; exact ⟨k1 + 1, hk1⟩

/-! ### what a call comes to -/
theorem LE_ops (l : List LOp) (e : Env) (H : Heap) : LE P X (.ops l) e H = normally (runL P (CL P X) l e H) := by
  refine LE_step (fun k r h => ?_) fun r h => ⟨1, ?_⟩
  · simp only [execL] at h
    unfold normally
    split at h
    · rename_i hq; rw [hq]; exact h
    · cases h
  · simp only [execL]
    unfold normally at h
    cases hq : runL P (CL P X) l e H with
    | none => simp [hq] at h
    | some z => simp only [hq, Option.map_some] at h; exact h
theorem LE_draw (l : List (LOp × Bool)) (e : Env) (H : Heap) : LE P X (.draw l) e H = normally (runLD P (CL P X) false l e H) := by
  refine LE_step (fun k r h => ?_) fun r h => ⟨1, ?_⟩
  · simp only [execL] at h
    unfold normally
    split at h
    · rename_i hq; rw [hq]; exact h
    · cases h
  · simp only [execL]
    unfold normally at h
    cases hq : runLD P (CL P X) false l e H with
    | none => simp [hq] at h
    | some z => simp only [hq, Option.map_some] at h; exact h
theorem EL_light {c : Code} {l : LCode} (h : light c = some l) (e : Env) (H : Heap) : EL P X c e H = LE P X l e H := by
  unfold EL LE
  congr 1
  funext k
  exact light_spec (CL P X) k h e H

/-- a function in light form -/
def fnL (P : Program) (f : FuncId) : Option (LCode × Nat × List ResultVar) :=
  match fnA P f with
  | some (c, nt, rs) => match light c with
    | some l => some (l, nt, rs)
    | none => none
  | none => none
theorem CL_light {f : FuncId} {l : LCode} {nt : Nat} {rs : List ResultVar} (hf : fnL P f = some (l, nt, rs)) (hX : X f = none) (args : List Value) (hn : args.length ≤ nt) (H : Heap) :
    CL P X f args H = bodyRet P rs H (LE P X l (envOf 0 args) ⟨H.bs, H.next⟩) := by
  unfold fnL at hf
  split at hf
  · rename_i c nt' rs' hc
    split at hf
    · rename_i l' hl
      cases hf
      rw [CL_run hc hX args hn H, EL_light hl]
      rfl
    · cases hf
  · cases hf

/-! rules -/
theorem LE_condB (x : Operand) (a b : LCode) (e : Env) (H : Heap) : LE P X (.cond x a b) e H = condB (opv e x) (LE P X a e H) (LE P X b e H) := by
  cases h : opv e x with
  | bool t => rw [LE_cond x a b e H h]; rfl
  | _ =>
    refine LE_step (fun k r hr => ?_) fun r hr => ?_
    · simp only [execL, h] at hr; cases hr
    · simp only [condB] at hr; cases hr
theorem runL_nil (C : CallF) (e : Env) (H : Heap) : runL P C [] e H = some (e, H) := Eq.trans rfl rfl
theorem runL_plain (dst : Option Tmp) (op : Op) (rest : List LOp) (e : Env) (H : Heap) :
    runL P (CL P X) (⟨dst, op, none⟩ :: rest) e H = contO (aop P (CL P X) op e H) H fun v H' => runL P (CL P X) rest (putA e dst v) H' := by
  simp only [runL, wantL, if_true, contO]
  rfl
theorem runL_br (dst : Option Tmp) (op : Op) (d : Tmp) (b : Bool) (rest : List LOp) (e : Env) (H : Heap) :
    runL P (CL P X) (⟨dst, op, some (d, b)⟩ :: rest) e H =
      br (isB (e.get d) b) (contO (aop P (CL P X) op e H) H fun v H' => runL P (CL P X) rest (putA e dst v) H') (runL P (CL P X) rest (putA e dst undef) H) := by
  simp only [runL, wantL, contO, br]
  rfl
def drawT (q t : Bool) (x : Option (Env × Heap)) : Of x (Option (Env × Heap)) := if (!q && t) = true then x else none
theorem drawT_ok (x : Option (Env × Heap)) : drawT false true x = x := Eq.trans rfl rfl
theorem runLD_nil (C : CallF) (q : Bool) (e : Env) (H : Heap) : runLD P C q [] e H = some (e, H) := Eq.trans rfl rfl
theorem runLD_plain (q t : Bool) (dst : Option Tmp) (op : Op) (rest : List (LOp × Bool)) (e : Env) (H : Heap) :
    runLD P (CL P X) q ((⟨dst, op, none⟩, t) :: rest) e H =
      contD (aop P (CL P X) op e H) (fun v => runLD P (CL P X) (q || isCall op) rest (putA e dst v) H) fun v H' => drawT q t (runL P (CL P X) (rest.map (·.1)) (putA e dst v) H') := by
  simp only [runLD, wantL, if_true, contD, drawT]
  rfl
theorem runLD_br (q t : Bool) (dst : Option Tmp) (op : Op) (d : Tmp) (b : Bool) (rest : List (LOp × Bool)) (e : Env) (H : Heap) :
    runLD P (CL P X) q ((⟨dst, op, some (d, b)⟩, t) :: rest) e H =
      br (isB (e.get d) b) (contD (aop P (CL P X) op e H) (fun v => runLD P (CL P X) (q || isCall op) rest (putA e dst v) H) fun v H' => drawT q t (runL P (CL P X) (rest.map (·.1)) (putA e dst v) H'))
        (runLD P (CL P X) q rest (putA e dst undef) H) := by
  simp only [runLD, wantL, contD, drawT, br]
  rfl

/-- a loop: what is told of its end holds from each of its heads -/
theorem loopL_rule {B : LCode} {α : Type} (F : Option (Out × Env × Heap) → α) (I : Nat → Env → Heap → α → Prop)
    (step : ∀ n e H r, I n e H r → (∀ m e' H' r', m < n → I m e' H' r' → F (LE P X (.loop B) e' H') = r') → F (thenDo (LE P X B e H) (LE P X (.loop B))) = r) :
    ∀ n e H r, I n e H r → F (LE P X (.loop B) e H) = r := by
  intro n
  induction n using Nat.strongRecOn with
  | ind n ih =>
    intro e H r h
    rw [LE_loop]
    exact step n e H r h fun m e' H' r' hm hI => ih m hm e' H' r' hI
/-- what holds behind a loop -/
theorem loopL_after {B : LCode} (I : Nat → Env → Heap → Prop) (Q : Out → Env → Heap → Prop)
    (step : ∀ n e H, I n e H → After (LE P X B e H) (LoopG n I Q)) : ∀ n e H, I n e H → After (LE P X (.loop B) e H) Q := by
  intro n
  induction n using Nat.strongRecOn with
  | ind n ih =>
    intro e H h
    obtain ⟨o, e', H', h1, h2⟩ := step n e H h
    unfold After
    rw [LE_loop, h1]
    cases o with
    | normal =>
      obtain ⟨m, hm, hI⟩ := h2
      exact ih m hm e' H' hI
    | exit i => exact ⟨_, _, _, rfl, h2⟩
    | ret => exact ⟨_, _, _, rfl, h2⟩
theorem after_then (F : Option (Out × Env × Heap) → Option (Out × Env × Heap)) {x : Option (Out × Env × Heap)} {Q G : Out → Env → Heap → Prop} (h : After x Q) (fin : ∀ o e H, Q o e H → After (F (some (o, e, H))) G) : After (F x) G := by
  obtain ⟨o, e, H, hx, hq⟩ := h
  have h2 := fin o e H hq
  unfold After at h2 ⊢
  rw [hx]
  exact h2
/-- a piece of code in whatever surroundings, by what holds behind it -/
theorem after_use {α : Type} (F : Option (Out × Env × Heap) → α) {x : Option (Out × Env × Heap)} {Q : Out → Env → Heap → Prop} {r : α} (h : After x Q) (fin : ∀ o e H, Q o e H → F (some (o, e, H)) = r) : F x = r := by
  obtain ⟨o, e, H, rfl, hq⟩ := h
  exact fin o e H hq
end
end Go.Proofs.Ytcpolfjnbbodgaa.Ve
