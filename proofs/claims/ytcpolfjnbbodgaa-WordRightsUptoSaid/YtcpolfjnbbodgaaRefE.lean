/- The run of the reference's Depth: it tells what word's Begins and Depth do. Conditions: none here. -/
import Derived.Test.YtcpolfjnbbodgaaRefD
namespace Go.Proofs.Ytcpolfjnbbodgaa.Ve
open Go Go.RowKit
set_option linter.unusedVariables false
set_option linter.unusedSimpArgs false
set_option maxRecDepth 100000
set_option maxHeartbeats 0

def dRes (p : Option Int) (d : Int) (l : List EvD) : Int := if bGo p d l then dep d l else -1
theorem depth_loop (H0 : Heap) (lo : Nat) (hlo : lo ≤ H0.next) (v : Value) (l : List EvD) (hv : EvsR H0 lo v l) (hn : l.length ≤ 2000000) (r : Int) :
    ∀ k e H2, (∃ (i : Nat) (d : Int), k = l.length - i ∧ i ≤ l.length ∧ (i = 0 → d = 0) ∧ -(i : Int) ≤ d ∧ d ≤ 64 ∧ e.get 0 = v ∧ e.get 3 = .int .i64 d ∧ e.get 4 = .int .i64 i ∧ H2 = H0 ∧ dRes (prevK l i) d (l.drop i) = r) →
    After (LE Try.prog lib0 (.loop f9b0) e H2) (fun o e H2 => H2 = H0 ∧ ((o = .exit 0 ∧ e.get 3 = .int .i64 r) ∨ (o = .ret ∧ e.get 2 = .int .i64 (-1) ∧ r = -1))) := by
  refine loopL_after _ _ ?_
  rintro k e H2 ⟨i, d, hk, hi, hd0, hd1, hd2, f0, f3, f4, hH, fu⟩
  subst hH
  obtain ⟨va, vc, hvs⟩ := hv.slice
  have f0s := f0
  rw [hvs] at f0s
  rcases b : decide ((i : Int) < l.length) with _ | _
  · have hb' := of_decide_eq_false b
    have : l.drop i = [] := List.drop_eq_nil_of_le (by omega)
    rw [this, dRes, bGo] at fu
    simp (config := {maxSteps := 20000000, dsimp := false}) (disch := first | omega | (simp only [low_push, low_put, next_push, next_put, next_mk, len_next, List.length_cons, List.length_nil] <;> omega) | fail) only [↓rpre, rpost1, rpost2, rpost3, rpost4, rpost5, envOf, ↓reduceIte, Nat.reduceEqDiff, List.getElem?_toArray, List.getElem?_cons_zero, List.getElem?_cons_succ, reduceCtorEq, Nat.reduceAdd, Nat.reduceSub, Nat.reduceMul, Nat.reduceLeDiff, Nat.reduceLT, Nat.reduceDiv, Nat.reduceMod, Int.reduceEq, Int.reduceNe, Int.reduceLT, Int.reduceLE, Int.reduceGT, Int.reduceGE, Int.reduceAdd, Int.reduceSub, Int.reduceMul, Int.reduceNeg, Int.reduceToNat , f0s, f4, ty22, ty3, b]
    refine LoopG_exit ⟨rfl, .inl ⟨rfl, ?_⟩⟩
    rw [← fu]; exact f3
  have hb' := of_decide_eq_true b
  obtain ⟨ev, ha, hd⟩ := drop_cons (l := l) (i := i) (by omega)
  obtain ⟨nb, o, c, cs, own, hv', hblo, hg, hle, hr⟩ := hv.at_ ha
  have hrt := ref_right H2 lo _ ev hlo hr
  obtain ⟨av, hr5, _⟩ := id hr
  have hrow := row_agg hle rfl
  have c0 : cs[o + i * 5]? = some (.int .i64 ev.kind) := by have := row_cell (k := 0) (by omega) hr5; simpa using this
  have nt : (i : Int).toNat = i := Int.toNat_natCast i
  have f0' := f0
  rw [hv'] at f0'
  rw [hd, dRes, bGo] at fu
  have hp1 : prevK l (i + 1) = some ev.kind := by rw [prevK, if_neg (by omega), Nat.add_sub_cancel, ha]; rfl
  have bnb : ∀ x y : Bool, binA Try.prog .neq 4 (.bool x) (.bool y) = some (.bool (!(x == y))) := fun x y => bin_neq_bool 4 x y ty4.2.2.2.2.2.2.1
  have tt : (true == true) = true := rfl
  have tf : (true == false) = false := rfl
  have ft : (false == true) = false := rfl
  have ff : (false == false) = true := rfl
  have bad : ∀ (e' : Env), e'.get 2 = .int .i64 (-1) → (!wRight ev || (decide (prevK l i = none) && !decide (ev.kind = 1)) || (!decide (prevK l i = none) && decide (d = 0)) || (decide (ev.kind = 2) && decide (prevK l i = some 2))) = true →
      LoopG k (fun k e H2' => ∃ (i : Nat) (d : Int), k = l.length - i ∧ i ≤ l.length ∧ (i = 0 → d = 0) ∧ -(i : Int) ≤ d ∧ d ≤ 64 ∧ e.get 0 = v ∧ e.get 3 = .int .i64 d ∧ e.get 4 = .int .i64 i ∧ H2' = H2 ∧ dRes (prevK l i) d (l.drop i) = r) (fun o e H2' => H2' = H2 ∧ ((o = .exit 0 ∧ e.get 3 = .int .i64 r) ∨ (o = .ret ∧ e.get 2 = .int .i64 (-1) ∧ r = -1))) .ret e' H2 := fun e' h h2 =>
    LoopG_ret ⟨rfl, .inr ⟨rfl, h, by rw [← fu, h2]; rfl⟩⟩
  -- behind the tests: the depth
  have tail : ∀ (e' : Env), e'.get 0 = v → e'.get 3 = .int .i64 d → e'.get 4 = .int .i64 i → (!wRight ev || (decide (prevK l i = none) && !decide (ev.kind = 1)) || (!decide (prevK l i = none) && decide (d = 0)) || (decide (ev.kind = 2) && decide (prevK l i = some 2))) = false →
      After (thenDo (inBlock 1 (LE Try.prog lib0 f9t e' H2)) (LE Try.prog lib0 f9k6)) (LoopG k (fun k e H2' => ∃ (i : Nat) (d : Int), k = l.length - i ∧ i ≤ l.length ∧ (i = 0 → d = 0) ∧ -(i : Int) ≤ d ∧ d ≤ 64 ∧ e.get 0 = v ∧ e.get 3 = .int .i64 d ∧ e.get 4 = .int .i64 i ∧ H2' = H2 ∧ dRes (prevK l i) d (l.drop i) = r) (fun o e H2' => H2' = H2 ∧ ((o = .exit 0 ∧ e.get 3 = .int .i64 r) ∨ (o = .ret ∧ e.get 2 = .int .i64 (-1) ∧ r = -1)))) := by
    intro e' g0 g3 g4 hok
    rw [hok] at fu
    have g0' := g0
    rw [hv'] at g0'
    have fin : ∀ (e2 : Env) (d' : Int), dStep d ev.kind = d' → d' ≤ 64 → -((i + 1 : Nat) : Int) ≤ d' → e2.get 0 = v → e2.get 3 = .int .i64 d' → e2.get 4 = .int .i64 ((i : Int) + 1) → LoopG k (fun k e H2' => ∃ (i : Nat) (d : Int), k = l.length - i ∧ i ≤ l.length ∧ (i = 0 → d = 0) ∧ -(i : Int) ≤ d ∧ d ≤ 64 ∧ e.get 0 = v ∧ e.get 3 = .int .i64 d ∧ e.get 4 = .int .i64 i ∧ H2' = H2 ∧ dRes (prevK l i) d (l.drop i) = r) (fun o e H2' => H2' = H2 ∧ ((o = .exit 0 ∧ e.get 3 = .int .i64 r) ∨ (o = .ret ∧ e.get 2 = .int .i64 (-1) ∧ r = -1))) .normal e2 H2 := by
      intro e2 d' hd' q1 q2 k0 k3 k4
      refine LoopG_normal (k - 1) (by omega) ⟨i + 1, d', by omega, by omega, by omega, q2, q1, k0, k3, k4, rfl, ?_⟩
      rw [← fu, hp1, dRes, hd']
      simp only [Bool.false_eq_true, if_false]
      rw [if_neg (show ¬ 64 < d' by omega)]
      simp only [dep, List.foldl_cons, hd']
    rw [f9t]
    rcases k1 : decide (ev.kind = 1) with _ | _
    · have k1' := of_decide_eq_false k1
      rcases k3 : decide (ev.kind = 3) with _ | _
      · have k3' := of_decide_eq_false k3
        have hds : dStep d ev.kind = d := by rw [dStep, if_neg k1', if_neg k3']
        have hb64 : decide (64 < d) = false := decide_eq_false (by omega)
        simp (config := {maxSteps := 20000000, dsimp := false}) (disch := first | omega | (simp only [low_push, low_put, next_push, next_put, next_mk, len_next, List.length_cons, List.length_nil] <;> omega) | fail) only [↓rpre, rpost1, rpost2, rpost3, rpost4, rpost5, envOf, ↓reduceIte, Nat.reduceEqDiff, List.getElem?_toArray, List.getElem?_cons_zero, List.getElem?_cons_succ, reduceCtorEq, Nat.reduceAdd, Nat.reduceSub, Nat.reduceMul, Nat.reduceLeDiff, Nat.reduceLT, Nat.reduceDiv, Nat.reduceMod, Int.reduceEq, Int.reduceNe, Int.reduceLT, Int.reduceLE, Int.reduceGT, Int.reduceGE, Int.reduceAdd, Int.reduceSub, Int.reduceMul, Int.reduceNeg, Int.reduceToNat , g0', g3, g4, ty22, ty33, ty3, hg, c0, k1, k3, hb64, wrap_small]
        exact fin _ d hds (by omega) (by omega) g0 g3 rfl
      · have k3' := of_decide_eq_true k3
        have hds : dStep d ev.kind = d - 1 := by rw [dStep, if_neg k1', if_pos k3']
        have hb64 : decide (64 < d - 1) = false := decide_eq_false (by omega)
        simp (config := {maxSteps := 20000000, dsimp := false}) (disch := first | omega | (simp only [low_push, low_put, next_push, next_put, next_mk, len_next, List.length_cons, List.length_nil] <;> omega) | fail) only [↓rpre, rpost1, rpost2, rpost3, rpost4, rpost5, envOf, ↓reduceIte, Nat.reduceEqDiff, List.getElem?_toArray, List.getElem?_cons_zero, List.getElem?_cons_succ, reduceCtorEq, Nat.reduceAdd, Nat.reduceSub, Nat.reduceMul, Nat.reduceLeDiff, Nat.reduceLT, Nat.reduceDiv, Nat.reduceMod, Int.reduceEq, Int.reduceNe, Int.reduceLT, Int.reduceLE, Int.reduceGT, Int.reduceGE, Int.reduceAdd, Int.reduceSub, Int.reduceMul, Int.reduceNeg, Int.reduceToNat , g0', g3, g4, ty22, ty33, ty3, hg, c0, k1, k3, hb64, wrap_small]
        exact fin _ (d - 1) hds (by omega) (by omega) g0 rfl rfl
    · have k1' := of_decide_eq_true k1
      have k3 : decide (ev.kind = 3) = false := decide_eq_false (by omega)
      have hds : dStep d ev.kind = d + 1 := by rw [dStep, if_pos k1']
      rcases hb64 : decide (64 < d + 1) with _ | _
      · have := of_decide_eq_false hb64
        simp (config := {maxSteps := 20000000, dsimp := false}) (disch := first | omega | (simp only [low_push, low_put, next_push, next_put, next_mk, len_next, List.length_cons, List.length_nil] <;> omega) | fail) only [↓rpre, rpost1, rpost2, rpost3, rpost4, rpost5, envOf, ↓reduceIte, Nat.reduceEqDiff, List.getElem?_toArray, List.getElem?_cons_zero, List.getElem?_cons_succ, reduceCtorEq, Nat.reduceAdd, Nat.reduceSub, Nat.reduceMul, Nat.reduceLeDiff, Nat.reduceLT, Nat.reduceDiv, Nat.reduceMod, Int.reduceEq, Int.reduceNe, Int.reduceLT, Int.reduceLE, Int.reduceGT, Int.reduceGE, Int.reduceAdd, Int.reduceSub, Int.reduceMul, Int.reduceNeg, Int.reduceToNat , g0', g3, g4, ty22, ty33, ty3, hg, c0, k1, k3, hb64, wrap_small]
        exact fin _ (d + 1) hds (by omega) (by omega) g0 rfl rfl
      · have h64 := of_decide_eq_true hb64
        simp (config := {maxSteps := 20000000, dsimp := false}) (disch := first | omega | (simp only [low_push, low_put, next_push, next_put, next_mk, len_next, List.length_cons, List.length_nil] <;> omega) | fail) only [↓rpre, rpost1, rpost2, rpost3, rpost4, rpost5, envOf, ↓reduceIte, Nat.reduceEqDiff, List.getElem?_toArray, List.getElem?_cons_zero, List.getElem?_cons_succ, reduceCtorEq, Nat.reduceAdd, Nat.reduceSub, Nat.reduceMul, Nat.reduceLeDiff, Nat.reduceLT, Nat.reduceDiv, Nat.reduceMod, Int.reduceEq, Int.reduceNe, Int.reduceLT, Int.reduceLE, Int.reduceGT, Int.reduceGE, Int.reduceAdd, Int.reduceSub, Int.reduceMul, Int.reduceNeg, Int.reduceToNat , g0', g3, g4, ty22, ty33, ty3, hg, c0, k1, k3, hb64, wrap_small]
        refine LoopG_ret ⟨rfl, .inr ⟨rfl, rfl, ?_⟩⟩
        rw [← fu, hds]
        simp only [Bool.false_eq_true, if_false]
        rw [if_pos h64]; rfl
  rcases h1 : wRight ev with _ | _
  · rw [h1] at hrt
    simp (config := {maxSteps := 20000000, dsimp := false}) (disch := first | omega | (simp only [low_push, low_put, next_push, next_put, next_mk, len_next, List.length_cons, List.length_nil] <;> omega) | fail) only [↓rpre, rpost1, rpost2, rpost3, rpost4, rpost5, envOf, ↓reduceIte, Nat.reduceEqDiff, List.getElem?_toArray, List.getElem?_cons_zero, List.getElem?_cons_succ, reduceCtorEq, Nat.reduceAdd, Nat.reduceSub, Nat.reduceMul, Nat.reduceLeDiff, Nat.reduceLT, Nat.reduceDiv, Nat.reduceMod, Int.reduceEq, Int.reduceNe, Int.reduceLT, Int.reduceLE, Int.reduceGT, Int.reduceGE, Int.reduceAdd, Int.reduceSub, Int.reduceMul, Int.reduceNeg, Int.reduceToNat , f0', f3, f4, ty22, ty33, ty3, ty4, b, hg, hrow, hrt]
    exact bad _ rfl (by simp [h1])
  rw [h1] at hrt
  rcases b2 : decide ((i : Int) = 0) with _ | _
  · have h2 : i ≠ 0 := by have := of_decide_eq_false b2; omega
    obtain ⟨pe, hpe⟩ : ∃ a, l[i - 1]? = some a := ⟨l[i - 1]'(by omega), List.getElem?_eq_getElem (by omega)⟩
    have hp0 : prevK l i = some pe.kind := by rw [prevK, if_neg h2, hpe]; rfl
    obtain ⟨b', o', c', cs', own', hv2, _, hg', hle', hr'⟩ := hv.at_ hpe
    rw [hv'] at hv2
    obtain ⟨⟨rfl, rfl⟩, rfl⟩ : (nb = b' ∧ o = o') ∧ c = c' := by simpa using hv2
    rw [hg] at hg'
    obtain ⟨rfl, rfl⟩ : cs = cs' ∧ own = own' := by simpa using hg'
    obtain ⟨pv, hpr, _⟩ := hr'
    have hpc : cs[o + (i - 1) * 5]? = some (.int .i64 pe.kind) := by have := row_cell (k := 0) (by omega) hpr; simpa using this
    have nt2 : ((i : Int) - 1).toNat = i - 1 := by omega
    rcases b3 : decide (d = 0) with _ | _
    · rcases b4 : decide (ev.kind = 2) with _ | _
      · simp (config := {maxSteps := 20000000, dsimp := false}) (disch := first | omega | (simp only [low_push, low_put, next_push, next_put, next_mk, len_next, List.length_cons, List.length_nil] <;> omega) | fail) only [↓rpre, rpost1, rpost2, rpost3, rpost4, rpost5, envOf, ↓reduceIte, Nat.reduceEqDiff, List.getElem?_toArray, List.getElem?_cons_zero, List.getElem?_cons_succ, reduceCtorEq, Nat.reduceAdd, Nat.reduceSub, Nat.reduceMul, Nat.reduceLeDiff, Nat.reduceLT, Nat.reduceDiv, Nat.reduceMod, Int.reduceEq, Int.reduceNe, Int.reduceLT, Int.reduceLE, Int.reduceGT, Int.reduceGE, Int.reduceAdd, Int.reduceSub, Int.reduceMul, Int.reduceNeg, Int.reduceToNat , f0', f3, f4, ty22, ty33, ty3, ty4, b, hg, hrow, hrt, bnb, b2, b3, b4, tt, tf, ft, ff, c0]
        exact tail _ f0 f3 f4 (by simp [h1, hp0, b3, b4])
      · rcases b5 : decide (pe.kind = 2) with _ | _
        · simp (config := {maxSteps := 20000000, dsimp := false}) (disch := first | omega | (simp only [low_push, low_put, next_push, next_put, next_mk, len_next, List.length_cons, List.length_nil] <;> omega) | fail) only [↓rpre, rpost1, rpost2, rpost3, rpost4, rpost5, envOf, ↓reduceIte, Nat.reduceEqDiff, List.getElem?_toArray, List.getElem?_cons_zero, List.getElem?_cons_succ, reduceCtorEq, Nat.reduceAdd, Nat.reduceSub, Nat.reduceMul, Nat.reduceLeDiff, Nat.reduceLT, Nat.reduceDiv, Nat.reduceMod, Int.reduceEq, Int.reduceNe, Int.reduceLT, Int.reduceLE, Int.reduceGT, Int.reduceGE, Int.reduceAdd, Int.reduceSub, Int.reduceMul, Int.reduceNeg, Int.reduceToNat , f0', f3, f4, ty22, ty33, ty3, ty4, b, hg, hrow, hrt, bnb, b2, b3, b4, b5, tt, tf, ft, ff, c0, wrap_small, nt2, hpc]
          exact tail _ f0 f3 f4 (by simp [h1, hp0, b3, b4, of_decide_eq_false b5])
        · simp (config := {maxSteps := 20000000, dsimp := false}) (disch := first | omega | (simp only [low_push, low_put, next_push, next_put, next_mk, len_next, List.length_cons, List.length_nil] <;> omega) | fail) only [↓rpre, rpost1, rpost2, rpost3, rpost4, rpost5, envOf, ↓reduceIte, Nat.reduceEqDiff, List.getElem?_toArray, List.getElem?_cons_zero, List.getElem?_cons_succ, reduceCtorEq, Nat.reduceAdd, Nat.reduceSub, Nat.reduceMul, Nat.reduceLeDiff, Nat.reduceLT, Nat.reduceDiv, Nat.reduceMod, Int.reduceEq, Int.reduceNe, Int.reduceLT, Int.reduceLE, Int.reduceGT, Int.reduceGE, Int.reduceAdd, Int.reduceSub, Int.reduceMul, Int.reduceNeg, Int.reduceToNat , f0', f3, f4, ty22, ty33, ty3, ty4, b, hg, hrow, hrt, bnb, b2, b3, b4, b5, tt, tf, ft, ff, c0, wrap_small, nt2, hpc]
          exact bad _ rfl (by simp [h1, hp0, b3, b4, of_decide_eq_true b5])
    · simp (config := {maxSteps := 20000000, dsimp := false}) (disch := first | omega | (simp only [low_push, low_put, next_push, next_put, next_mk, len_next, List.length_cons, List.length_nil] <;> omega) | fail) only [↓rpre, rpost1, rpost2, rpost3, rpost4, rpost5, envOf, ↓reduceIte, Nat.reduceEqDiff, List.getElem?_toArray, List.getElem?_cons_zero, List.getElem?_cons_succ, reduceCtorEq, Nat.reduceAdd, Nat.reduceSub, Nat.reduceMul, Nat.reduceLeDiff, Nat.reduceLT, Nat.reduceDiv, Nat.reduceMod, Int.reduceEq, Int.reduceNe, Int.reduceLT, Int.reduceLE, Int.reduceGT, Int.reduceGE, Int.reduceAdd, Int.reduceSub, Int.reduceMul, Int.reduceNeg, Int.reduceToNat , f0', f3, f4, ty22, ty33, ty3, ty4, b, hg, hrow, hrt, bnb, b2, b3, tt, tf, ft, ff]
      exact bad _ rfl (by simp [h1, hp0, b3])
  · have h2 : i = 0 := by have := of_decide_eq_true b2; omega
    have b3 : decide (d = 0) = true := decide_eq_true (hd0 h2)
    have hp0 : prevK l i = none := by rw [prevK, if_pos h2]
    rcases b4 : decide (ev.kind = 1) with _ | _
    · simp (config := {maxSteps := 20000000, dsimp := false}) (disch := first | omega | (simp only [low_push, low_put, next_push, next_put, next_mk, len_next, List.length_cons, List.length_nil] <;> omega) | fail) only [↓rpre, rpost1, rpost2, rpost3, rpost4, rpost5, envOf, ↓reduceIte, Nat.reduceEqDiff, List.getElem?_toArray, List.getElem?_cons_zero, List.getElem?_cons_succ, reduceCtorEq, Nat.reduceAdd, Nat.reduceSub, Nat.reduceMul, Nat.reduceLeDiff, Nat.reduceLT, Nat.reduceDiv, Nat.reduceMod, Int.reduceEq, Int.reduceNe, Int.reduceLT, Int.reduceLE, Int.reduceGT, Int.reduceGE, Int.reduceAdd, Int.reduceSub, Int.reduceMul, Int.reduceNeg, Int.reduceToNat , f0', f3, f4, ty22, ty33, ty3, ty4, b, hg, hrow, hrt, bnb, b2, b3, b4, tt, tf, ft, ff, c0]
      exact bad _ rfl (by simp [h1, hp0, b4])
    · have b5 : decide (ev.kind = 2) = false := decide_eq_false (by have := of_decide_eq_true b4; omega)
      simp (config := {maxSteps := 20000000, dsimp := false}) (disch := first | omega | (simp only [low_push, low_put, next_push, next_put, next_mk, len_next, List.length_cons, List.length_nil] <;> omega) | fail) only [↓rpre, rpost1, rpost2, rpost3, rpost4, rpost5, envOf, ↓reduceIte, Nat.reduceEqDiff, List.getElem?_toArray, List.getElem?_cons_zero, List.getElem?_cons_succ, reduceCtorEq, Nat.reduceAdd, Nat.reduceSub, Nat.reduceMul, Nat.reduceLeDiff, Nat.reduceLT, Nat.reduceDiv, Nat.reduceMod, Int.reduceEq, Int.reduceNe, Int.reduceLT, Int.reduceLE, Int.reduceGT, Int.reduceGE, Int.reduceAdd, Int.reduceSub, Int.reduceMul, Int.reduceNeg, Int.reduceToNat , f0', f3, f4, ty22, ty33, ty3, ty4, b, hg, hrow, hrt, bnb, b2, b3, b4, b5, tt, tf, ft, ff, c0]
      exact tail _ f0 f3 f4 (by simp [h1, hp0, b4, b5])
theorem ref_depth (H : Heap) (lo : Nat) (v : Value) (l : List EvD) (hlo : lo ≤ H.next) (hv : EvsR H lo v l) (hn : l.length ≤ 2000000) : CL Try.prog lib0 9 [v] H = some (.int .i64 (if wBegins l then dep 0 l else -1), none) := by
  rw [CL_light fn9 rfl _ (by simp)]
  simp (config := {maxSteps := 20000000, dsimp := false}) (disch := first | omega | (simp only [low_push, low_put, next_push, next_put, next_mk, len_next, List.length_cons, List.length_nil] <;> omega) | fail) only [↓rpre, rpost1, rpost2, rpost3, rpost4, rpost5, envOf, ↓reduceIte, Nat.reduceEqDiff, List.getElem?_toArray, List.getElem?_cons_zero, List.getElem?_cons_succ, reduceCtorEq, Nat.reduceAdd, Nat.reduceSub, Nat.reduceMul, Nat.reduceLeDiff, Nat.reduceLT, Nat.reduceDiv, Nat.reduceMod, Int.reduceEq, Int.reduceNe, Int.reduceLT, Int.reduceLE, Int.reduceGT, Int.reduceGE, Int.reduceAdd, Int.reduceSub, Int.reduceMul, Int.reduceNeg, Int.reduceToNat , if_true]
  refine after_prop (F := fun z => bodyRet _ _ _ (thenDo (inBlock 0 z) _) = _) (depth_loop ⟨H.bs, H.next⟩ lo hlo v l (hv.mono (fun _ _ => rfl) (Nat.le_refl _)) hn (if wBegins l then dep 0 l else -1) l.length _ _ ⟨0, 0, rfl, by omega, fun _ => rfl, by omega, by omega, rfl, rfl, rfl, rfl, rfl⟩) ?_
  rintro o e' H' ⟨hH, ⟨ho, h3⟩ | ⟨ho, h2, hr⟩⟩
  · simp (config := {maxSteps := 20000000, dsimp := false}) (disch := first | omega | (simp only [low_push, low_put, next_push, next_put, next_mk, len_next, List.length_cons, List.length_nil] <;> omega) | fail) only [↓rpre, rpost1, rpost2, rpost3, rpost4, rpost5, envOf, ↓reduceIte, Nat.reduceEqDiff, List.getElem?_toArray, List.getElem?_cons_zero, List.getElem?_cons_succ, reduceCtorEq, Nat.reduceAdd, Nat.reduceSub, Nat.reduceMul, Nat.reduceLeDiff, Nat.reduceLT, Nat.reduceDiv, Nat.reduceMod, Int.reduceEq, Int.reduceNe, Int.reduceLT, Int.reduceLE, Int.reduceGT, Int.reduceGE, Int.reduceAdd, Int.reduceSub, Int.reduceMul, Int.reduceNeg, Int.reduceToNat , ho, h3, hH]
  · simp (config := {maxSteps := 20000000, dsimp := false}) (disch := first | omega | (simp only [low_push, low_put, next_push, next_put, next_mk, len_next, List.length_cons, List.length_nil] <;> omega) | fail) only [↓rpre, rpost1, rpost2, rpost3, rpost4, rpost5, envOf, ↓reduceIte, Nat.reduceEqDiff, List.getElem?_toArray, List.getElem?_cons_zero, List.getElem?_cons_succ, reduceCtorEq, Nat.reduceAdd, Nat.reduceSub, Nat.reduceMul, Nat.reduceLeDiff, Nat.reduceLT, Nat.reduceDiv, Nat.reduceMod, Int.reduceEq, Int.reduceNe, Int.reduceLT, Int.reduceLE, Int.reduceGT, Int.reduceGE, Int.reduceAdd, Int.reduceSub, Int.reduceMul, Int.reduceNeg, Int.reduceToNat , ho, h2, hr, hH]
end Go.Proofs.Ytcpolfjnbbodgaa.Ve
