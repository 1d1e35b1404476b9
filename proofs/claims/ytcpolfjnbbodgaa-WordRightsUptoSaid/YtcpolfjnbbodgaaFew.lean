/- The runs of the reference's Few (which answers, whatever it is), and awake. Conditions: none here. -/
import Derived.Test.YtcpolfjnbbodgaaClose
namespace Go.Proofs.Ytcpolfjnbbodgaa.Ve
open Go Go.RowKit
set_option linter.unusedVariables false
set_option linter.unusedSimpArgs false
set_option maxRecDepth 100000
set_option maxHeartbeats 0

theorem few_inner (H0 : Heap) (lo : Nat) (v : Value) (l : List EvD) (hv : EvsR H0 lo v l) (hn : l.length ≤ 2000000) (i : Nat) (ev : EvD) (ha : l[i]? = some ev) (n3 : Int) :
    ∀ k e H2, (∃ j : Nat, k = 1048576 - j ∧ j ≤ ev.attrs.length ∧ e.get 0 = v ∧ e.get 3 = .int .i64 n3 ∧ e.get 4 = .int .i64 i ∧ e.get 5 = .int .i64 j ∧ H2 = H0) →
    After (LE Try.prog lib0 (.loop f8b0) e H2) (fun o e H2 => H2 = H0 ∧ ((o = .exit 2 ∧ e.get 0 = v ∧ e.get 3 = .int .i64 n3 ∧ e.get 4 = .int .i64 i) ∨ (o = .ret ∧ e.get 2 = .bool false))) := by
  refine loopL_after _ _ ?_
  rintro k e H2 ⟨j, hk, hj, f0, f3, f4, f5, hH⟩
  subst hH
  have hi : i < l.length := (List.getElem?_eq_some_iff.1 ha).1
  obtain ⟨b, o, c, cs, own, aa, ac, hv', hblo, hg, hle, hr5, hav, hz1, hz2, hz3, hz4⟩ := ev_row hv ha
  have c3 : cs[o + i * 5 + 3]? = some (.slice aa ev.attrs.length ac) := by rw [row_cell (k := 3) (by omega) hr5]; rfl
  have nt : (i : Int).toNat = i := Int.toNat_natCast i
  have f0' := f0
  rw [hv'] at f0'
  simp (config := {maxSteps := 20000000, dsimp := false}) (disch := first | omega | (simp only [low_push, low_put, next_push, next_put, next_mk, len_next, List.length_cons, List.length_nil] <;> omega) | fail) only [↓rpre, rpost1, rpost2, rpost3, rpost4, rpost5, envOf, ↓reduceIte, Nat.reduceEqDiff, List.getElem?_toArray, List.getElem?_cons_zero, List.getElem?_cons_succ, reduceCtorEq, Nat.reduceAdd, Nat.reduceSub, Nat.reduceMul, Nat.reduceLeDiff, Nat.reduceLT, Nat.reduceDiv, Nat.reduceMod, Int.reduceEq, Int.reduceNe, Int.reduceLT, Int.reduceLE, Int.reduceGT, Int.reduceGE, Int.reduceAdd, Int.reduceSub, Int.reduceMul, Int.reduceNeg, Int.reduceToNat , f0', f4, f5, ty3, ty22, ty31, ty33, hg, c3]
  rcases b1 : decide ((j : Int) < ev.attrs.length) with _ | _
  · simp (config := {maxSteps := 20000000, dsimp := false}) (disch := first | omega | (simp only [low_push, low_put, next_push, next_put, next_mk, len_next, List.length_cons, List.length_nil] <;> omega) | fail) only [↓rpre, rpost1, rpost2, rpost3, rpost4, rpost5, envOf, ↓reduceIte, Nat.reduceEqDiff, List.getElem?_toArray, List.getElem?_cons_zero, List.getElem?_cons_succ, reduceCtorEq, Nat.reduceAdd, Nat.reduceSub, Nat.reduceMul, Nat.reduceLeDiff, Nat.reduceLT, Nat.reduceDiv, Nat.reduceMod, Int.reduceEq, Int.reduceNe, Int.reduceLT, Int.reduceLE, Int.reduceGT, Int.reduceGE, Int.reduceAdd, Int.reduceSub, Int.reduceMul, Int.reduceNeg, Int.reduceToNat , f0', f4, f5, b1]
    exact LoopG_exit ⟨rfl, .inl ⟨rfl, f0, f3, f4⟩⟩
  have hj' := of_decide_eq_true b1
  rcases b2 : decide ((j : Int) < 100) with _ | _
  · simp (config := {maxSteps := 20000000, dsimp := false}) (disch := first | omega | (simp only [low_push, low_put, next_push, next_put, next_mk, len_next, List.length_cons, List.length_nil] <;> omega) | fail) only [↓rpre, rpost1, rpost2, rpost3, rpost4, rpost5, envOf, ↓reduceIte, Nat.reduceEqDiff, List.getElem?_toArray, List.getElem?_cons_zero, List.getElem?_cons_succ, reduceCtorEq, Nat.reduceAdd, Nat.reduceSub, Nat.reduceMul, Nat.reduceLeDiff, Nat.reduceLT, Nat.reduceDiv, Nat.reduceMod, Int.reduceEq, Int.reduceNe, Int.reduceLT, Int.reduceLE, Int.reduceGT, Int.reduceGE, Int.reduceAdd, Int.reduceSub, Int.reduceMul, Int.reduceNeg, Int.reduceToNat , f0', f4, f5, b1, b2]
    exact LoopG_exit ⟨rfl, .inl ⟨rfl, f0, f3, f4⟩⟩
  obtain ⟨at_, hat⟩ : ∃ a, ev.attrs[j]? = some a := ⟨ev.attrs[j]'(by omega), List.getElem?_eq_getElem (by omega)⟩
  obtain ⟨b2', o2, c2, cs2, own2, hv2, hb2, hg2, hle2, hr3, _⟩ := hav.at_ hat
  obtain ⟨rfl, rfl⟩ : aa = some ⟨b2', o2, none⟩ ∧ ac = c2 := by simpa using hv2
  have a0 : cs2[o2 + j * 3]? = some (.string at_.space) := by have := row_cell (k := 0) (by omega) hr3; simpa using this
  have a1 : cs2[o2 + j * 3 + 1]? = some (.string at_.loc) := by rw [row_cell (k := 1) (by omega) hr3]; rfl
  have a2 : cs2[o2 + j * 3 + 2]? = some (.string at_.val) := by rw [row_cell (k := 2) (by omega) hr3]; rfl
  have ret : ∀ e', e'.get 2 = .bool false → LoopG k (fun k e H2' => ∃ j : Nat, k = 1048576 - j ∧ j ≤ ev.attrs.length ∧ e.get 0 = v ∧ e.get 3 = .int .i64 n3 ∧ e.get 4 = .int .i64 i ∧ e.get 5 = .int .i64 j ∧ H2' = H2) (fun o e H2' => H2' = H2 ∧ ((o = .exit 2 ∧ e.get 0 = v ∧ e.get 3 = .int .i64 n3 ∧ e.get 4 = .int .i64 i) ∨ (o = .ret ∧ e.get 2 = .bool false))) .ret e' H2 := fun e' h => LoopG_ret ⟨rfl, .inr ⟨rfl, h⟩⟩
  rcases b3 : decide ((300 : Int) < at_.val.size) with _ | _
  · rcases b4 : decide ((100 : Int) < at_.loc.size) with _ | _
    · rcases b5 : decide ((100 : Int) < at_.space.size) with _ | _
      · simp (config := {maxSteps := 20000000, dsimp := false}) (disch := first | omega | (simp only [low_push, low_put, next_push, next_put, next_mk, len_next, List.length_cons, List.length_nil] <;> omega) | fail) only [↓rpre, rpost1, rpost2, rpost3, rpost4, rpost5, envOf, ↓reduceIte, Nat.reduceEqDiff, List.getElem?_toArray, List.getElem?_cons_zero, List.getElem?_cons_succ, reduceCtorEq, Nat.reduceAdd, Nat.reduceSub, Nat.reduceMul, Nat.reduceLeDiff, Nat.reduceLT, Nat.reduceDiv, Nat.reduceMod, Int.reduceEq, Int.reduceNe, Int.reduceLT, Int.reduceLE, Int.reduceGT, Int.reduceGE, Int.reduceAdd, Int.reduceSub, Int.reduceMul, Int.reduceNeg, Int.reduceToNat , f0', f4, f5, ty3, ty22, ty31, ty33, ty39, ty30, ty9, hg, c3, b1, b2, hg2, a0, a1, a2, b3, b4, b5, wrap_small]
        exact LoopG_normal (k - 1) (by omega) ⟨j + 1, by omega, by omega, f0, f3, f4, rfl, rfl⟩
      · simp (config := {maxSteps := 20000000, dsimp := false}) (disch := first | omega | (simp only [low_push, low_put, next_push, next_put, next_mk, len_next, List.length_cons, List.length_nil] <;> omega) | fail) only [↓rpre, rpost1, rpost2, rpost3, rpost4, rpost5, envOf, ↓reduceIte, Nat.reduceEqDiff, List.getElem?_toArray, List.getElem?_cons_zero, List.getElem?_cons_succ, reduceCtorEq, Nat.reduceAdd, Nat.reduceSub, Nat.reduceMul, Nat.reduceLeDiff, Nat.reduceLT, Nat.reduceDiv, Nat.reduceMod, Int.reduceEq, Int.reduceNe, Int.reduceLT, Int.reduceLE, Int.reduceGT, Int.reduceGE, Int.reduceAdd, Int.reduceSub, Int.reduceMul, Int.reduceNeg, Int.reduceToNat , f0', f4, f5, ty3, ty22, ty31, ty33, ty39, ty30, ty9, hg, c3, b1, b2, hg2, a0, a1, a2, b3, b4, b5, wrap_small]
        exact ret _ rfl
    · simp (config := {maxSteps := 20000000, dsimp := false}) (disch := first | omega | (simp only [low_push, low_put, next_push, next_put, next_mk, len_next, List.length_cons, List.length_nil] <;> omega) | fail) only [↓rpre, rpost1, rpost2, rpost3, rpost4, rpost5, envOf, ↓reduceIte, Nat.reduceEqDiff, List.getElem?_toArray, List.getElem?_cons_zero, List.getElem?_cons_succ, reduceCtorEq, Nat.reduceAdd, Nat.reduceSub, Nat.reduceMul, Nat.reduceLeDiff, Nat.reduceLT, Nat.reduceDiv, Nat.reduceMod, Int.reduceEq, Int.reduceNe, Int.reduceLT, Int.reduceLE, Int.reduceGT, Int.reduceGE, Int.reduceAdd, Int.reduceSub, Int.reduceMul, Int.reduceNeg, Int.reduceToNat , f0', f4, f5, ty3, ty22, ty31, ty33, ty39, ty30, ty9, hg, c3, b1, b2, hg2, a0, a1, a2, b3, b4, wrap_small]
      exact ret _ rfl
  · simp (config := {maxSteps := 20000000, dsimp := false}) (disch := first | omega | (simp only [low_push, low_put, next_push, next_put, next_mk, len_next, List.length_cons, List.length_nil] <;> omega) | fail) only [↓rpre, rpost1, rpost2, rpost3, rpost4, rpost5, envOf, ↓reduceIte, Nat.reduceEqDiff, List.getElem?_toArray, List.getElem?_cons_zero, List.getElem?_cons_succ, reduceCtorEq, Nat.reduceAdd, Nat.reduceSub, Nat.reduceMul, Nat.reduceLeDiff, Nat.reduceLT, Nat.reduceDiv, Nat.reduceMod, Int.reduceEq, Int.reduceNe, Int.reduceLT, Int.reduceLE, Int.reduceGT, Int.reduceGE, Int.reduceAdd, Int.reduceSub, Int.reduceMul, Int.reduceNeg, Int.reduceToNat , f0', f4, f5, ty3, ty22, ty31, ty33, ty39, ty30, ty9, hg, c3, b1, b2, hg2, a0, a1, a2, b3, wrap_small]
    exact ret _ rfl

theorem few_outer (H0 : Heap) (lo : Nat) (v : Value) (l : List EvD) (hv : EvsR H0 lo v l) (hn : l.length ≤ 2000000) :
    ∀ k e H2, (∃ (i : Nat) (n3 : Int), k = l.length - i ∧ i ≤ l.length ∧ 0 ≤ n3 ∧ n3 ≤ 2000000 ∧ e.get 0 = v ∧ e.get 3 = .int .i64 n3 ∧ e.get 4 = .int .i64 i ∧ H2 = H0) →
    After (LE Try.prog lib0 (.loop f8b1) e H2) (fun o e H2 => H2 = H0 ∧ ((o = .exit 0 ∧ ∃ n3, e.get 3 = .int .i64 n3) ∨ (o = .ret ∧ e.get 2 = .bool false))) := by
  refine loopL_after _ _ ?_
  rintro k e H2 ⟨i, n3, hk, hi, hn0, hn1, f0, f3, f4, hH⟩
  subst hH
  obtain ⟨va, vc, hvs⟩ := hv.slice
  have f0s := f0
  rw [hvs] at f0s
  rcases b1 : decide ((i : Int) < l.length) with _ | _
  · simp (config := {maxSteps := 20000000, dsimp := false}) (disch := first | omega | (simp only [low_push, low_put, next_push, next_put, next_mk, len_next, List.length_cons, List.length_nil] <;> omega) | fail) only [↓rpre, rpost1, rpost2, rpost3, rpost4, rpost5, envOf, ↓reduceIte, Nat.reduceEqDiff, List.getElem?_toArray, List.getElem?_cons_zero, List.getElem?_cons_succ, reduceCtorEq, Nat.reduceAdd, Nat.reduceSub, Nat.reduceMul, Nat.reduceLeDiff, Nat.reduceLT, Nat.reduceDiv, Nat.reduceMod, Int.reduceEq, Int.reduceNe, Int.reduceLT, Int.reduceLE, Int.reduceGT, Int.reduceGE, Int.reduceAdd, Int.reduceSub, Int.reduceMul, Int.reduceNeg, Int.reduceToNat , f0s, f3, f4, ty3, ty22, b1]
    exact LoopG_exit ⟨rfl, .inl ⟨rfl, n3, f3⟩⟩
  have hi' := of_decide_eq_true b1
  rcases b2 : decide (n3 ≤ 400) with _ | _
  · simp (config := {maxSteps := 20000000, dsimp := false}) (disch := first | omega | (simp only [low_push, low_put, next_push, next_put, next_mk, len_next, List.length_cons, List.length_nil] <;> omega) | fail) only [↓rpre, rpost1, rpost2, rpost3, rpost4, rpost5, envOf, ↓reduceIte, Nat.reduceEqDiff, List.getElem?_toArray, List.getElem?_cons_zero, List.getElem?_cons_succ, reduceCtorEq, Nat.reduceAdd, Nat.reduceSub, Nat.reduceMul, Nat.reduceLeDiff, Nat.reduceLT, Nat.reduceDiv, Nat.reduceMod, Int.reduceEq, Int.reduceNe, Int.reduceLT, Int.reduceLE, Int.reduceGT, Int.reduceGE, Int.reduceAdd, Int.reduceSub, Int.reduceMul, Int.reduceNeg, Int.reduceToNat , f0s, f3, f4, ty3, ty22, b1, b2]
    exact LoopG_exit ⟨rfl, .inl ⟨rfl, n3, f3⟩⟩
  have hn400 := of_decide_eq_true b2
  obtain ⟨ev, ha⟩ : ∃ a, l[i]? = some a := ⟨l[i]'(by omega), List.getElem?_eq_getElem (by omega)⟩
  obtain ⟨b, o, c, cs, own, aa, ac, hv', hblo, hg, hle, hr5, hav, hz1, hz2, hz3, hz4⟩ := ev_row hv ha
  have c1 : cs[o + i * 5 + 1]? = some (.string ev.space) := by rw [row_cell (k := 1) (by omega) hr5]; rfl
  have c2 : cs[o + i * 5 + 1 + 1]? = some (.string ev.loc) := by rw [Nat.add_assoc _ 1 1, row_cell (k := 2) (by omega) hr5]; rfl
  have c3 : cs[o + i * 5 + 3]? = some (.slice aa ev.attrs.length ac) := by rw [row_cell (k := 3) (by omega) hr5]; rfl
  have c4 : cs[o + i * 5 + 4]? = some (.string ev.text) := by rw [row_cell (k := 4) (by omega) hr5]; rfl
  have nt : (i : Int).toNat = i := Int.toNat_natCast i
  have f0' := f0
  rw [hv'] at f0'
  have ret : ∀ e', e'.get 2 = .bool false → LoopG k (fun k e H2' => ∃ (i : Nat) (n3 : Int), k = l.length - i ∧ i ≤ l.length ∧ 0 ≤ n3 ∧ n3 ≤ 2000000 ∧ e.get 0 = v ∧ e.get 3 = .int .i64 n3 ∧ e.get 4 = .int .i64 i ∧ H2' = H2) (fun o e H2' => H2' = H2 ∧ ((o = .exit 0 ∧ ∃ n3, e.get 3 = .int .i64 n3) ∨ (o = .ret ∧ e.get 2 = .bool false))) .ret e' H2 := fun e' h => LoopG_ret ⟨rfl, .inr ⟨rfl, h⟩⟩
  rcases b3 : decide ((300 : Int) < ev.text.size) with _ | _
  · rcases b4 : decide ((100 : Int) < ev.loc.size) with _ | _
    · rcases b5 : decide ((100 : Int) < ev.space.size) with _ | _
      · simp (config := {maxSteps := 20000000, dsimp := false}) (disch := first | omega | (simp only [low_push, low_put, next_push, next_put, next_mk, len_next, List.length_cons, List.length_nil] <;> omega) | fail) only [↓rpre, rpost1, rpost2, rpost3, rpost4, rpost5, envOf, ↓reduceIte, Nat.reduceEqDiff, List.getElem?_toArray, List.getElem?_cons_zero, List.getElem?_cons_succ, reduceCtorEq, Nat.reduceAdd, Nat.reduceSub, Nat.reduceMul, Nat.reduceLeDiff, Nat.reduceLT, Nat.reduceDiv, Nat.reduceMod, Int.reduceEq, Int.reduceNe, Int.reduceLT, Int.reduceLE, Int.reduceGT, Int.reduceGE, Int.reduceAdd, Int.reduceSub, Int.reduceMul, Int.reduceNeg, Int.reduceToNat , f0', f3, f4, ty3, ty22, ty31, ty33, ty39, ty30, ty9, hg, c1, c2, c3, c4, b1, b2, b3, b4, b5, wrap_small]
        refine after_then (F := fun z => thenDo (inBlock 1 (inBlock 2 z)) _) (few_inner H2 lo v l hv hn i ev ha (n3 + ev.attrs.length) 1048576 _ _ ⟨0, rfl, by omega, ?_, ?_, ?_, rfl, rfl⟩) ?_
        · exact f0
        · rfl
        · exact f4
        rintro o' e' H' ⟨hH, ⟨ho, g0, g3, g4⟩ | ⟨ho, g2⟩⟩
        · simp (config := {maxSteps := 20000000, dsimp := false}) (disch := first | omega | (simp only [low_push, low_put, next_push, next_put, next_mk, len_next, List.length_cons, List.length_nil] <;> omega) | fail) only [↓rpre, rpost1, rpost2, rpost3, rpost4, rpost5, envOf, ↓reduceIte, Nat.reduceEqDiff, List.getElem?_toArray, List.getElem?_cons_zero, List.getElem?_cons_succ, reduceCtorEq, Nat.reduceAdd, Nat.reduceSub, Nat.reduceMul, Nat.reduceLeDiff, Nat.reduceLT, Nat.reduceDiv, Nat.reduceMod, Int.reduceEq, Int.reduceNe, Int.reduceLT, Int.reduceLE, Int.reduceGT, Int.reduceGE, Int.reduceAdd, Int.reduceSub, Int.reduceMul, Int.reduceNeg, Int.reduceToNat , ho, g0, g3, g4, wrap_small, ty3, hH]
          exact LoopG_normal (k - 1) (by omega) ⟨i + 1, n3 + ev.attrs.length, by omega, by omega, by omega, by omega, g0, g3, rfl, rfl⟩
        · simp (config := {maxSteps := 20000000, dsimp := false}) (disch := first | omega | (simp only [low_push, low_put, next_push, next_put, next_mk, len_next, List.length_cons, List.length_nil] <;> omega) | fail) only [↓rpre, rpost1, rpost2, rpost3, rpost4, rpost5, envOf, ↓reduceIte, Nat.reduceEqDiff, List.getElem?_toArray, List.getElem?_cons_zero, List.getElem?_cons_succ, reduceCtorEq, Nat.reduceAdd, Nat.reduceSub, Nat.reduceMul, Nat.reduceLeDiff, Nat.reduceLT, Nat.reduceDiv, Nat.reduceMod, Int.reduceEq, Int.reduceNe, Int.reduceLT, Int.reduceLE, Int.reduceGT, Int.reduceGE, Int.reduceAdd, Int.reduceSub, Int.reduceMul, Int.reduceNeg, Int.reduceToNat , ho, hH]
          exact ret _ g2
      · simp (config := {maxSteps := 20000000, dsimp := false}) (disch := first | omega | (simp only [low_push, low_put, next_push, next_put, next_mk, len_next, List.length_cons, List.length_nil] <;> omega) | fail) only [↓rpre, rpost1, rpost2, rpost3, rpost4, rpost5, envOf, ↓reduceIte, Nat.reduceEqDiff, List.getElem?_toArray, List.getElem?_cons_zero, List.getElem?_cons_succ, reduceCtorEq, Nat.reduceAdd, Nat.reduceSub, Nat.reduceMul, Nat.reduceLeDiff, Nat.reduceLT, Nat.reduceDiv, Nat.reduceMod, Int.reduceEq, Int.reduceNe, Int.reduceLT, Int.reduceLE, Int.reduceGT, Int.reduceGE, Int.reduceAdd, Int.reduceSub, Int.reduceMul, Int.reduceNeg, Int.reduceToNat , f0', f3, f4, ty3, ty22, ty31, ty33, ty39, ty30, ty9, hg, c1, c2, c3, c4, b1, b2, b3, b4, b5, wrap_small]
        exact ret _ rfl
    · simp (config := {maxSteps := 20000000, dsimp := false}) (disch := first | omega | (simp only [low_push, low_put, next_push, next_put, next_mk, len_next, List.length_cons, List.length_nil] <;> omega) | fail) only [↓rpre, rpost1, rpost2, rpost3, rpost4, rpost5, envOf, ↓reduceIte, Nat.reduceEqDiff, List.getElem?_toArray, List.getElem?_cons_zero, List.getElem?_cons_succ, reduceCtorEq, Nat.reduceAdd, Nat.reduceSub, Nat.reduceMul, Nat.reduceLeDiff, Nat.reduceLT, Nat.reduceDiv, Nat.reduceMod, Int.reduceEq, Int.reduceNe, Int.reduceLT, Int.reduceLE, Int.reduceGT, Int.reduceGE, Int.reduceAdd, Int.reduceSub, Int.reduceMul, Int.reduceNeg, Int.reduceToNat , f0', f3, f4, ty3, ty22, ty31, ty33, ty39, ty30, ty9, hg, c1, c2, c3, c4, b1, b2, b3, b4, wrap_small]
      exact ret _ rfl
  · simp (config := {maxSteps := 20000000, dsimp := false}) (disch := first | omega | (simp only [low_push, low_put, next_push, next_put, next_mk, len_next, List.length_cons, List.length_nil] <;> omega) | fail) only [↓rpre, rpost1, rpost2, rpost3, rpost4, rpost5, envOf, ↓reduceIte, Nat.reduceEqDiff, List.getElem?_toArray, List.getElem?_cons_zero, List.getElem?_cons_succ, reduceCtorEq, Nat.reduceAdd, Nat.reduceSub, Nat.reduceMul, Nat.reduceLeDiff, Nat.reduceLT, Nat.reduceDiv, Nat.reduceMod, Int.reduceEq, Int.reduceNe, Int.reduceLT, Int.reduceLE, Int.reduceGT, Int.reduceGE, Int.reduceAdd, Int.reduceSub, Int.reduceMul, Int.reduceNeg, Int.reduceToNat , f0', f3, f4, ty3, ty22, ty31, ty33, ty39, ty30, ty9, hg, c1, c2, c3, c4, b1, b2, b3, wrap_small]
    exact ret _ rfl
theorem ref_few (H : Heap) (lo : Nat) (v : Value) (l : List EvD) (hlo : lo ≤ H.next) (hv : EvsR H lo v l) (hn : l.length ≤ 2000000) : ∃ t : Bool, CL Try.prog lib0 8 [v] H = some (.bool t, none) := by
  obtain ⟨a, c, hvs⟩ := hv.slice
  have hv2 : EvsR ⟨H.bs, H.next⟩ lo (.slice a l.length c) l := by rw [← hvs]; exact hv.mono (fun _ _ => rfl) (Nat.le_refl _)
  rw [CL_light fn8 rfl _ (by simp), hvs]
  simp (config := {maxSteps := 20000000, dsimp := false}) (disch := first | omega | (simp only [low_push, low_put, next_push, next_put, next_mk, len_next, List.length_cons, List.length_nil] <;> omega) | fail) only [↓rpre, rpost1, rpost2, rpost3, rpost4, rpost5, envOf, ↓reduceIte, Nat.reduceEqDiff, List.getElem?_toArray, List.getElem?_cons_zero, List.getElem?_cons_succ, reduceCtorEq, Nat.reduceAdd, Nat.reduceSub, Nat.reduceMul, Nat.reduceLeDiff, Nat.reduceLT, Nat.reduceDiv, Nat.reduceMod, Int.reduceEq, Int.reduceNe, Int.reduceLT, Int.reduceLE, Int.reduceGT, Int.reduceGE, Int.reduceAdd, Int.reduceSub, Int.reduceMul, Int.reduceNeg, Int.reduceToNat , ty22]
  refine after_prop (F := fun z => ∃ t : Bool, bodyRet _ _ _ (thenDo (inBlock 0 z) _) = some (.bool t, none)) (few_outer ⟨H.bs, H.next⟩ lo _ l hv2 hn l.length _ _ ⟨0, l.length, rfl, by omega, by omega, by omega, rfl, rfl, rfl, rfl⟩) ?_
  rintro o e' H' ⟨hH, ⟨ho, n3, h3⟩ | ⟨ho, h2⟩⟩
  · simp (config := {maxSteps := 20000000, dsimp := false}) (disch := first | omega | (simp only [low_push, low_put, next_push, next_put, next_mk, len_next, List.length_cons, List.length_nil] <;> omega) | fail) only [↓rpre, rpost1, rpost2, rpost3, rpost4, rpost5, envOf, ↓reduceIte, Nat.reduceEqDiff, List.getElem?_toArray, List.getElem?_cons_zero, List.getElem?_cons_succ, reduceCtorEq, Nat.reduceAdd, Nat.reduceSub, Nat.reduceMul, Nat.reduceLeDiff, Nat.reduceLT, Nat.reduceDiv, Nat.reduceMod, Int.reduceEq, Int.reduceNe, Int.reduceLT, Int.reduceLE, Int.reduceGT, Int.reduceGE, Int.reduceAdd, Int.reduceSub, Int.reduceMul, Int.reduceNeg, Int.reduceToNat , ho, h3, hH, ty3]
    exact ⟨_, rfl⟩
  · simp (config := {maxSteps := 20000000, dsimp := false}) (disch := first | omega | (simp only [low_push, low_put, next_push, next_put, next_mk, len_next, List.length_cons, List.length_nil] <;> omega) | fail) only [↓rpre, rpost1, rpost2, rpost3, rpost4, rpost5, envOf, ↓reduceIte, Nat.reduceEqDiff, List.getElem?_toArray, List.getElem?_cons_zero, List.getElem?_cons_succ, reduceCtorEq, Nat.reduceAdd, Nat.reduceSub, Nat.reduceMul, Nat.reduceLeDiff, Nat.reduceLT, Nat.reduceDiv, Nat.reduceMod, Int.reduceEq, Int.reduceNe, Int.reduceLT, Int.reduceLE, Int.reduceGT, Int.reduceGE, Int.reduceAdd, Int.reduceSub, Int.reduceMul, Int.reduceNeg, Int.reduceToNat , ho, h2, hH]
    exact ⟨_, rfl⟩
end Go.Proofs.Ytcpolfjnbbodgaa.Ve
