/- The evaluator without a bound on rounds, by equations. Conditions: none here. -/
import Derived.Test.YtcpolfjnbbodgaaVeExec
namespace Go.Proofs.Ytcpolfjnbbodgaa.Ve
open Go Go.RowKit
set_option linter.unusedVariables false
set_option linter.unusedSimpArgs false

/-- more told than before -/
def LeO {α : Type} (x y : Option α) : Prop := ∀ r, x = some r → y = some r
def LeC (C D : CallF) : Prop := ∀ f args H, LeO (C f args H) (D f args H)
theorem LeO.refl {α : Type} (x : Option α) : LeO x x := fun _ h => h

section
variable {P : Program}

theorem callA_mono {C D : CallF} (h : LeC C D) (e : Env) (c : Call) (H : Heap) : LeO (callA P C e c H) (callA P D e c H) := by
  intro r hr
  unfold callA at hr ⊢
  split
  · rename_i b hb; rw [hb] at hr; exact hr
  · rename_i f hf
    rw [hf] at hr
    simp only at hr ⊢
    split
    · rename_i g first captured hg
      rw [hg] at hr
      exact h _ _ _ _ hr
    · rename_i hno
      split at hr
      · rename_i g first captured hg; exact absurd hg (hno _ _ _)
      · exact hr
  · rename_i hb; rw [hb] at hr; exact hr

theorem aop_mono {C D : CallF} (h : LeC C D) (o : Op) (e : Env) (H : Heap) : LeO (aop P C o e H) (aop P D o e H) := by
  intro r hr
  by_cases hc : ∃ c, o = .call c
  · obtain ⟨c, rfl⟩ := hc
    exact callA_mono h e c H r hr
  · rw [← hr]
    cases o <;> first | rfl | (exact absurd ⟨_, rfl⟩ hc) | (rename_i x; cases x <;> rfl)

theorem runOps_mono {C D : CallF} (h : LeC C D) {ops : Array Oper} : ∀ (l : List Oper) (e : Env) (H : Heap), LeO (runOps P C ops l e H) (runOps P D ops l e H) := by
  intro l
  induction l with
  | nil => intro e H r hr; exact hr
  | cons o l ih =>
    intro e H r hr
    simp only [runOps] at hr ⊢
    split
    · rename_i hw
      rw [if_pos hw] at hr
      cases ho : aop P C o.op e H with
      | none => simp [ho] at hr
      | some q =>
        rw [aop_mono h _ _ _ _ ho]
        rw [ho] at hr
        obtain ⟨v, q⟩ := q
        cases q with
        | none => exact ih _ _ _ hr
        | some H' => exact ih _ _ _ hr
    · rename_i hw
      rw [if_neg hw] at hr
      exact ih _ _ _ hr

theorem runDraw_mono {C D : CallF} (h : LeC C D) {ops : Array Oper} : ∀ (l : List Oper) (i : Nat) (q : Bool) (e : Env) (H : Heap), LeO (runDraw P C ops i q l e H) (runDraw P D ops i q l e H) := by
  intro l
  induction l with
  | nil => intro i q e H r hr; exact hr
  | cons o l ih =>
    intro i q e H r hr
    simp only [runDraw] at hr ⊢
    split
    · rename_i hw
      rw [if_pos hw] at hr
      cases ho : aop P C o.op e H with
      | none => simp [ho] at hr
      | some x =>
        rw [aop_mono h _ _ _ _ ho]
        rw [ho] at hr
        obtain ⟨v, x⟩ := x
        cases x with
        | none => exact ih _ _ _ _ _ hr
        | some H' =>
          simp only at hr ⊢
          split
          · rename_i hb; rw [if_pos hb] at hr; exact runOps_mono h _ _ _ _ hr
          · rename_i hb; rw [if_neg hb] at hr; exact hr
    · rename_i hw
      rw [if_neg hw] at hr
      exact ih _ _ _ _ _ hr

theorem exec_mono {C D : CallF} (h : LeC C D) : ∀ (k k' : Nat), k ≤ k' → ∀ (c : Code) (e : Env) (H : Heap), LeO (exec P C k c e H) (exec P D k' c e H) := by
  intro k
  induction k with
  | zero => intro k' _ c e H r hr; cases hr
  | succ k ih =>
    intro k' hk c e H r hr
    obtain ⟨k', rfl⟩ : ∃ m, k' = m + 1 := ⟨k' - 1, by omega⟩
    have ih' := fun c e H r (hr : exec P C k c e H = some r) => ih k' (by omega) c e H r hr
    cases c <;> simp only [exec] at hr ⊢ <;> try exact hr
    case region id ops draw =>
      cases draw
      · simp only [Bool.false_eq_true, if_false] at hr ⊢
        cases hq : runOps P C ops ops.toList e H with
        | none => simp [hq] at hr
        | some x => rw [runOps_mono h _ _ _ _ hq]; rw [hq] at hr; exact hr
      · simp only [if_true] at hr ⊢
        cases hq : runDraw P C ops 0 false ops.toList e H with
        | none => simp [hq] at hr
        | some x => rw [runDraw_mono h _ _ _ _ _ _ hq]; rw [hq] at hr; exact hr
    case seq x y =>
      cases hq : exec P C k x e H with
      | none => simp [hq] at hr
      | some z =>
        rw [ih' _ _ _ _ hq]; rw [hq] at hr
        obtain ⟨o, e', H'⟩ := z
        cases o with
        | normal => exact ih' _ _ _ _ hr
        | exit id => exact hr
        | ret => exact hr
    case cond x y z =>
      split
      · rename_i t ht; rw [ht] at hr; exact ih' _ _ _ _ hr
      · rename_i hno
        split at hr
        · rename_i t ht; exact absurd ht (hno t)
        · exact hr
    case block id x =>
      cases hq : exec P C k x e H with
      | none => simp [hq] at hr
      | some z => rw [ih' _ _ _ _ hq]; rw [hq] at hr; exact hr
    case loop x =>
      cases hq : exec P C k x e H with
      | none => simp [hq] at hr
      | some z =>
        rw [ih' _ _ _ _ hq]; rw [hq] at hr
        obtain ⟨o, e', H'⟩ := z
        cases o with
        | normal => exact ih' _ _ _ _ hr
        | exit id => exact hr
        | ret => exact hr
    case scope x => exact ih' _ _ _ _ hr

theorem body_mono {ex ex' : Code → Env → Heap → Option (Out × Env × Heap)} (h : ∀ c e H, LeO (ex c e H) (ex' c e H)) (f : FuncId) (args : List Value) (H : Heap) : LeO (body P ex f args H) (body P ex' f args H) := by
  intro r hr
  unfold body at hr ⊢
  split
  · rename_i c nt rs hf
    rw [hf] at hr
    simp only at hr ⊢
    split
    · rename_i hn
      rw [if_pos hn] at hr
      cases hq : ex c (envOf 0 args) ⟨H.bs, H.bs.length⟩ with
      | none => simp [hq] at hr
      | some z => rw [h _ _ _ _ hq]; rw [hq] at hr; exact hr
    · rename_i hn; rw [if_neg hn] at hr; exact hr
  · rename_i hf; rw [hf] at hr; exact hr

theorem call_mono {X : Lib} : ∀ (k k' : Nat), k ≤ k' → LeC (call P X k) (call P X k') := by
  intro k
  induction k with
  | zero => intro k' _ f args H r hr; cases hr
  | succ k ih =>
    intro k' hk f args H r hr
    obtain ⟨k', rfl⟩ : ∃ m, k' = m + 1 := ⟨k' - 1, by omega⟩
    simp only [call] at hr ⊢
    split
    · rename_i g hg; rw [hg] at hr; exact hr
    · rename_i hg
      rw [hg] at hr
      exact body_mono (exec_mono (ih k' (by omega)) k k' (by omega)) f args H r hr

/-! ### limits -/
open Classical in
noncomputable def lim {α : Type} (x : Nat → Option α) : Option α := if h : ∃ k r, x k = some r then some (Classical.choose (Classical.choose_spec h)) else none
theorem lim_some {α : Type} {x : Nat → Option α} (hm : ∀ k k', k ≤ k' → LeO (x k) (x k')) {r : α} : lim x = some r ↔ ∃ k, x k = some r := by
  unfold lim
  constructor
  · intro h
    split at h
    · rename_i hk
      cases h
      exact ⟨_, Classical.choose_spec (Classical.choose_spec hk)⟩
    · cases h
  · rintro ⟨k, hk⟩
    have hex : ∃ k r, x k = some r := ⟨k, r, hk⟩
    rw [dif_pos hex]
    have h1 := Classical.choose_spec (Classical.choose_spec hex)
    have h2 := hm _ (max k (Classical.choose hex)) (Nat.le_max_right _ _) _ h1
    have h3 := hm _ (max k (Classical.choose hex)) (Nat.le_max_left _ _) _ hk
    rw [h2] at h3
    exact h3

noncomputable def CL (P : Program) (X : Lib) : CallF := fun f args H => lim fun k => call P X k f args H
noncomputable def EL (P : Program) (X : Lib) (c : Code) (e : Env) (H : Heap) : Option (Out × Env × Heap) := lim fun k => exec P (CL P X) k c e H

theorem CL_some {X : Lib} {f : FuncId} {args : List Value} {H : Heap} {r : Value × Option Heap} : CL P X f args H = some r ↔ ∃ k, call P X k f args H = some r :=
  lim_some fun k k' hk => call_mono k k' hk f args H
theorem EL_some {X : Lib} {c : Code} {e : Env} {H : Heap} {r : Out × Env × Heap} : EL P X c e H = some r ↔ ∃ k, exec P (CL P X) k c e H = some r :=
  lim_some fun k k' hk => exec_mono (fun _ _ _ => LeO.refl _) k k' hk c e H

theorem opt_ext {α : Type} {x y : Option α} (h : ∀ r, x = some r ↔ y = some r) : x = y := by
  cases x with
  | some a => exact ((h a).1 rfl).symm
  | none => cases y with
    | none => rfl
    | some b => exact (h b).2 rfl

variable {X : Lib}

theorem EL_step {c : Code} {e : Env} {H : Heap} {y : Option (Out × Env × Heap)} (h1 : ∀ k r, exec P (CL P X) (k + 1) c e H = some r → y = some r) (h2 : ∀ r, y = some r → ∃ k, exec P (CL P X) k c e H = some r) : EL P X c e H = y := by
  refine opt_ext fun r => ⟨fun h => ?_, fun h => EL_some.2 (h2 r h)⟩
  obtain ⟨k, hk⟩ := EL_some.1 h
  cases k with
  | zero => cases hk
  | succ k => exact h1 k r hk
theorem exec_le' {k : Nat} {c : Code} {e : Env} {H : Heap} : LeO (exec P (CL P X) k c e H) (EL P X c e H) := fun r h => EL_some.2 ⟨k, h⟩

theorem EL_skip (e : Env) (H : Heap) : EL P X .skip e H = some (.normal, e, H) := EL_step (fun k r h => h) fun r h => ⟨1, h⟩
theorem EL_ret (e : Env) (H : Heap) : EL P X .ret e H = some (.ret, e, H) := EL_step (fun k r h => h) fun r h => ⟨1, h⟩
theorem EL_exit (id : Nat) (e : Env) (H : Heap) : EL P X (.exit id) e H = some (.exit id, e, H) := EL_step (fun k r h => h) fun r h => ⟨1, h⟩

def normally (x : Option (Env × Heap)) : Option (Out × Env × Heap) := x.map fun (e, H) => (.normal, e, H)
theorem EL_region (id : Nat) (ops : Array Oper) (e : Env) (H : Heap) : EL P X (.region id ops false) e H = normally (runOps P (CL P X) ops ops.toList e H) := by
  refine EL_step (fun k r h => ?_) fun r h => ⟨1, ?_⟩
  · simp only [exec, Bool.false_eq_true, if_false] at h
    unfold normally
    split at h
    · rename_i hq; rw [hq]; exact h
    · cases h
  · simp only [exec, Bool.false_eq_true, if_false]
    unfold normally at h
    cases hq : runOps P (CL P X) ops ops.toList e H with
    | none => simp [hq] at h
    | some z => simp only [hq, Option.map_some] at h; exact h
theorem EL_draw (id : Nat) (ops : Array Oper) (e : Env) (H : Heap) : EL P X (.region id ops true) e H = normally (runDraw P (CL P X) ops 0 false ops.toList e H) := by
  refine EL_step (fun k r h => ?_) fun r h => ⟨1, ?_⟩
  · simp only [exec, if_true] at h
    unfold normally
    split at h
    · rename_i hq; rw [hq]; exact h
    · cases h
  · simp only [exec, if_true]
    unfold normally at h
    cases hq : runDraw P (CL P X) ops 0 false ops.toList e H with
    | none => simp [hq] at h
    | some z => simp only [hq, Option.map_some] at h; exact h

/-- a result's type, told of what it hangs on: so simp leaves that alone -/
abbrev Of {β : Sort _} (_ : β) (α : Type _) : Type _ := α
/-- what follows, if all went on -/
def thenDo (x : Option (Out × Env × Heap)) (f : Env → Heap → Option (Out × Env × Heap)) : Of f (Option (Out × Env × Heap)) :=
  match x with
  | some (.normal, e, H) => f e H
  | r => r
@[simp] theorem thenDo_normal (e : Env) (H : Heap) (f : Env → Heap → Option (Out × Env × Heap)) : thenDo (some (.normal, e, H)) f = f e H := Eq.trans rfl rfl
@[simp] theorem thenDo_ret (e : Env) (H : Heap) (f : Env → Heap → Option (Out × Env × Heap)) : thenDo (some (.ret, e, H)) f = some (.ret, e, H) := Eq.trans rfl rfl
@[simp] theorem thenDo_exit (i : Nat) (e : Env) (H : Heap) (f : Env → Heap → Option (Out × Env × Heap)) : thenDo (some (.exit i, e, H)) f = some (.exit i, e, H) := Eq.trans rfl rfl

theorem EL_seq (a b : Code) (e : Env) (H : Heap) : EL P X (.seq a b) e H = thenDo (EL P X a e H) (EL P X b) := by
  refine EL_step (fun k r h => ?_) fun r h => ?_
  · simp only [exec] at h
    cases hq : exec P (CL P X) k a e H with
    | none => simp [hq] at h
    | some z =>
      rw [hq] at h
      rw [exec_le' _ hq]
      obtain ⟨o, e', H'⟩ := z
      cases o with
      | normal => exact exec_le' _ h
      | exit i => exact h
      | ret => exact h
  · cases hq : EL P X a e H with
    | none => simp [hq, thenDo] at h
    | some z =>
      rw [hq] at h
      obtain ⟨k1, hk1⟩ := EL_some.1 hq
      obtain ⟨o, e', H'⟩ := z
      have fin : o ≠ .normal → some (o, e', H') = some r → ∃ k, exec P (CL P X) k (.seq a b) e H = some r := by
        intro ho he
        refine ⟨k1 + 1, ?_⟩
        simp only [exec, hk1]
        cases o <;> first | exact absurd rfl ho | exact he
      cases o with
      | normal =>
        obtain ⟨k2, hk2⟩ := EL_some.1 h
        refine ⟨max k1 k2 + 1, ?_⟩
        simp only [exec, exec_mono (fun _ _ _ => LeO.refl _) k1 (max k1 k2) (Nat.le_max_left _ _) _ _ _ _ hk1]
        exact exec_mono (fun _ _ _ => LeO.refl _) k2 (max k1 k2) (Nat.le_max_right _ _) _ _ _ _ hk2
      | exit i => exact fin (by simp) h
      | ret => exact fin (by simp) h

theorem EL_loop (a : Code) (e : Env) (H : Heap) : EL P X (.loop a) e H = thenDo (EL P X a e H) (EL P X (.loop a)) := by
  refine EL_step (fun k r h => ?_) fun r h => ?_
  · simp only [exec] at h
    cases hq : exec P (CL P X) k a e H with
    | none => simp [hq] at h
    | some z =>
      rw [hq] at h
      rw [exec_le' _ hq]
      obtain ⟨o, e', H'⟩ := z
      cases o with
      | normal => exact exec_le' _ h
      | exit i => exact h
      | ret => exact h
  · cases hq : EL P X a e H with
    | none => simp [hq, thenDo] at h
    | some z =>
      rw [hq] at h
      obtain ⟨k1, hk1⟩ := EL_some.1 hq
      obtain ⟨o, e', H'⟩ := z
      have fin : o ≠ .normal → some (o, e', H') = some r → ∃ k, exec P (CL P X) k (.loop a) e H = some r := by
        intro ho he
        refine ⟨k1 + 1, ?_⟩
        simp only [exec, hk1]
        cases o <;> first | exact absurd rfl ho | exact he
      cases o with
      | normal =>
        obtain ⟨k2, hk2⟩ := EL_some.1 h
        refine ⟨max k1 k2 + 1, ?_⟩
        simp only [exec, exec_mono (fun _ _ _ => LeO.refl _) k1 (max k1 k2) (Nat.le_max_left _ _) _ _ _ _ hk1]
        exact exec_mono (fun _ _ _ => LeO.refl _) k2 (max k1 k2) (Nat.le_max_right _ _) _ _ _ _ hk2
      | exit i => exact fin (by simp) h
      | ret => exact fin (by simp) h

theorem EL_cond (x : Operand) (a b : Code) (e : Env) (H : Heap) {t : Bool} (h : opv e x = .bool t) : EL P X (.cond x a b) e H = if t then EL P X a e H else EL P X b e H := by
  refine EL_step (fun k r hr => ?_) fun r hr => ?_
  · simp only [exec, h] at hr
    cases t <;> exact exec_le' _ hr
  · cases t
    · obtain ⟨k, hk⟩ := EL_some.1 hr; exact ⟨k + 1, by simp only [exec, h]; exact hk⟩
    · obtain ⟨k, hk⟩ := EL_some.1 hr; exact ⟨k + 1, by simp only [exec, h]; exact hk⟩

/-- a block's end -/
def inBlock (id : Nat) (x : Option (Out × Env × Heap)) : Option (Out × Env × Heap) :=
  match x with
  | some (.exit i, e, H) => if i = id then some (.normal, e, H) else some (.exit i, e, H)
  | r => r
@[simp] theorem inBlock_normal (id : Nat) (e : Env) (H : Heap) : inBlock id (some (.normal, e, H)) = some (.normal, e, H) := Eq.trans rfl rfl
@[simp] theorem inBlock_ret (id : Nat) (e : Env) (H : Heap) : inBlock id (some (.ret, e, H)) = some (.ret, e, H) := Eq.trans rfl rfl
@[simp] theorem inBlock_exit (id i : Nat) (e : Env) (H : Heap) : inBlock id (some (.exit i, e, H)) = if i = id then some (.normal, e, H) else some (.exit i, e, H) := Eq.trans rfl rfl

theorem EL_block (id : Nat) (a : Code) (e : Env) (H : Heap) : EL P X (.block id a) e H = inBlock id (EL P X a e H) := by
  refine EL_step (fun k r h => ?_) fun r h => ?_
  · simp only [exec] at h
    cases hq : exec P (CL P X) k a e H with
    | none => simp [hq] at h
    | some z => rw [hq] at h; rw [exec_le' _ hq]; exact h
  · cases hq : EL P X a e H with
    | none => simp [hq, inBlock] at h
    | some z =>
      rw [hq] at h
      obtain ⟨k1, hk1⟩ := EL_some.1 hq
      exact ⟨k1 + 1, by simp only [exec, hk1]; exact h⟩
theorem EL_scope (a : Code) (e : Env) (H : Heap) : EL P X (.scope a) e H = EL P X a e H := by
  refine EL_step (fun k r h => ?_) fun r h => ?_
  · exact exec_le' _ h
  · obtain ⟨k1, hk1⟩ := EL_some.1 h; exact ⟨k1 + 1, hk1⟩

/-! ### what a call comes to -/
theorem aop_finite {o : Op} {e : Env} {H : Heap} {r : Value × Option Heap} (h : aop P (CL P X) o e H = some r) : ∃ k, aop P (call P X k) o e H = some r := by
  by_cases hc : ∃ c, o = .call c
  · obtain ⟨c, rfl⟩ := hc
    simp only [aop, callA] at h ⊢
    split at h
    · rename_i b hb; exact ⟨0, h⟩
    · rename_i f hf
      split at h
      · obtain ⟨k, hk⟩ := CL_some.1 h; exact ⟨k, hk⟩
      · cases h
    · cases h
  · refine ⟨0, ?_⟩
    rw [← h]
    cases o <;> first | rfl | (exact absurd ⟨_, rfl⟩ hc) | (rename_i x; cases x <;> rfl)
theorem runOps_finite {ops : Array Oper} : ∀ (l : List Oper) {e : Env} {H : Heap} {r : Env × Heap}, runOps P (CL P X) ops l e H = some r → ∃ k, runOps P (call P X k) ops l e H = some r := by
  intro l
  induction l with
  | nil => intro e H r h; exact ⟨0, h⟩
  | cons o l ih =>
    intro e H r h
    simp only [runOps] at h ⊢
    split at h
    · rename_i hw
      cases hq : aop P (CL P X) o.op e H with
      | none => simp [hq] at h
      | some z =>
        rw [hq] at h
        obtain ⟨k1, hk1⟩ := aop_finite hq
        obtain ⟨v, z⟩ := z
        have fin : ∀ H', runOps P (CL P X) ops l (putA e o.dst v) H' = some r → ∃ k, runOps P (call P X k) ops l (putA e o.dst v) H' = some r ∧ aop P (call P X k) o.op e H = some (v, z) := by
          intro H' h'
          obtain ⟨k2, hk2⟩ := ih h'
          exact ⟨max k1 k2, runOps_mono (call_mono _ _ (Nat.le_max_right _ _)) _ _ _ _ hk2, aop_mono (call_mono _ _ (Nat.le_max_left _ _)) _ _ _ _ hk1⟩
        cases z with
        | none => obtain ⟨k, g1, g2⟩ := fin _ h; exact ⟨k, by rw [if_pos hw, g2]; exact g1⟩
        | some H' => obtain ⟨k, g1, g2⟩ := fin _ h; exact ⟨k, by rw [if_pos hw, g2]; exact g1⟩
    · rename_i hw
      obtain ⟨k, hk⟩ := ih h; exact ⟨k, by rw [if_neg hw]; exact hk⟩
theorem runDraw_finite {ops : Array Oper} : ∀ (l : List Oper) {i : Nat} {q : Bool} {e : Env} {H : Heap} {r : Env × Heap}, runDraw P (CL P X) ops i q l e H = some r → ∃ k, runDraw P (call P X k) ops i q l e H = some r := by
  intro l
  induction l with
  | nil => intro i q e H r h; exact ⟨0, h⟩
  | cons o l ih =>
    intro i q e H r h
    simp only [runDraw] at h ⊢
    split at h
    · rename_i hw
      cases hq : aop P (CL P X) o.op e H with
      | none => simp [hq] at h
      | some z =>
        rw [hq] at h
        obtain ⟨k1, hk1⟩ := aop_finite hq
        obtain ⟨v, z⟩ := z
        cases z with
        | none =>
          obtain ⟨k2, hk2⟩ := ih h
          exact ⟨max k1 k2, by rw [if_pos hw, aop_mono (call_mono _ _ (Nat.le_max_left _ _)) _ _ _ _ hk1]; exact runDraw_mono (call_mono _ _ (Nat.le_max_right _ _)) _ _ _ _ _ _ hk2⟩
        | some H' =>
          simp only at h
          split at h
          · obtain ⟨k2, hk2⟩ := runOps_finite _ h
            refine ⟨max k1 k2, ?_⟩
            rw [if_pos hw, aop_mono (call_mono _ _ (Nat.le_max_left _ _)) _ _ _ _ hk1]
            simp only
            rw [if_pos (by assumption)]
            exact runOps_mono (call_mono _ _ (Nat.le_max_right _ _)) _ _ _ _ hk2
          · cases h
    · rename_i hw
      obtain ⟨k, hk⟩ := ih h; exact ⟨k, by rw [if_neg hw]; exact hk⟩
theorem exec_finite : ∀ (k : Nat) {c : Code} {e : Env} {H : Heap} {r : Out × Env × Heap}, exec P (CL P X) k c e H = some r → ∃ j, exec P (call P X j) k c e H = some r := by
  intro k
  induction k with
  | zero => intro c e H r h; cases h
  | succ k ih =>
    intro c e H r h
    have both : ∀ {j j2 : Nat} {c : Code} {e : Env} {H : Heap} {r}, j ≤ j2 → exec P (call P X j) k c e H = some r → exec P (call P X j2) k c e H = some r := fun hj h => exec_mono (call_mono _ _ hj) _ _ (Nat.le_refl _) _ _ _ _ h
    cases c <;> simp only [exec] at h ⊢ <;> try exact ⟨0, h⟩
    case region id ops draw =>
      cases draw
      · simp only [Bool.false_eq_true, if_false] at h ⊢
        cases hq : runOps P (CL P X) ops ops.toList e H with
        | none => simp [hq] at h
        | some z => obtain ⟨j, hj⟩ := runOps_finite _ hq; rw [hq] at h; exact ⟨j, by rw [hj]; exact h⟩
      · simp only [if_true] at h ⊢
        cases hq : runDraw P (CL P X) ops 0 false ops.toList e H with
        | none => simp [hq] at h
        | some z => obtain ⟨j, hj⟩ := runDraw_finite _ hq; rw [hq] at h; exact ⟨j, by rw [hj]; exact h⟩
    case seq x y =>
      cases hq : exec P (CL P X) k x e H with
      | none => simp [hq] at h
      | some z =>
        obtain ⟨j, hj⟩ := ih hq
        rw [hq] at h
        obtain ⟨o, e', H'⟩ := z
        cases o with
        | normal =>
          obtain ⟨j2, hj2⟩ := ih h
          exact ⟨max j j2, by rw [both (Nat.le_max_left _ _) hj]; exact both (Nat.le_max_right _ _) hj2⟩
        | exit i => exact ⟨j, by rw [hj]; exact h⟩
        | ret => exact ⟨j, by rw [hj]; exact h⟩
    case cond x y z =>
      split at h
      · rename_i ht; obtain ⟨j, hj⟩ := ih h; exact ⟨j, hj⟩
      · cases h
    case block id x =>
      cases hq : exec P (CL P X) k x e H with
      | none => simp [hq] at h
      | some z => obtain ⟨j, hj⟩ := ih hq; rw [hq] at h; exact ⟨j, by rw [hj]; exact h⟩
    case loop x =>
      cases hq : exec P (CL P X) k x e H with
      | none => simp [hq] at h
      | some z =>
        obtain ⟨j, hj⟩ := ih hq
        rw [hq] at h
        obtain ⟨o, e', H'⟩ := z
        cases o with
        | normal =>
          obtain ⟨j2, hj2⟩ := ih h
          exact ⟨max j j2, by rw [both (Nat.le_max_left _ _) hj]; exact both (Nat.le_max_right _ _) hj2⟩
        | exit i => exact ⟨j, by rw [hj]; exact h⟩
        | ret => exact ⟨j, by rw [hj]; exact h⟩
    case scope x => obtain ⟨j, hj⟩ := ih h; exact ⟨j, hj⟩

/-- A call of a function that we run is its body. -/
theorem CL_body {f : FuncId} (hX : X f = none) (args : List Value) (H : Heap) : CL P X f args H = body P (EL P X) f args H := by
  refine opt_ext fun r => ⟨fun h => ?_, fun h => ?_⟩
  · obtain ⟨k, hk⟩ := CL_some.1 h
    cases k with
    | zero => cases hk
    | succ k =>
      simp only [call, hX] at hk
      refine body_mono (fun c e H r hr => ?_) f args H r hk
      exact EL_some.2 ⟨k, exec_mono (fun f args H r hr => CL_some.2 ⟨k, hr⟩) k k (Nat.le_refl _) c e H r hr⟩
  · unfold body at h
    split at h
    rotate_left
    · cases h
    rename_i c nt rs hf
    split at h
    rotate_left
    · cases h
    rename_i hn
    cases hq : EL P X c (envOf 0 args) ⟨H.bs, H.bs.length⟩ with
    | none => simp [hq] at h
    | some z =>
      obtain ⟨k, hk⟩ := EL_some.1 hq
      obtain ⟨j, hj⟩ := exec_finite k hk
      refine CL_some.2 ⟨max j k + 1, ?_⟩
      simp only [call, hX, body, hf, if_pos hn]
      rw [exec_mono (call_mono j (max j k) (Nat.le_max_left _ _)) k (max j k) (Nat.le_max_right _ _) _ _ _ _ hj]
      rw [hq] at h
      exact h
theorem CL_lib {f : FuncId} {g : List Value → Option Value} (hX : X f = some g) (args : List Value) (H : Heap) : CL P X f args H = (g args).map fun v => (v, none) := by
  refine opt_ext fun r => ⟨fun h => ?_, fun h => CL_some.2 ⟨1, by simp only [call, hX]; exact h⟩⟩
  obtain ⟨k, hk⟩ := CL_some.1 h
  cases k with
  | zero => cases hk
  | succ k => simp only [call, hX] at hk; exact hk
end
end Go.Proofs.Ytcpolfjnbbodgaa.Ve
