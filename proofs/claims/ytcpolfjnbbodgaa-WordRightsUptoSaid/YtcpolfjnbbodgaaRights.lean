/- The runs of slices.Equal (of attributes), word's Same, and of the law WordRights: it answers true. Conditions: none here. -/
import Derived.Test.YtcpolfjnbbodgaaRefE
import Derived.Test.YtcpolfjnbbodgaaKeeps
namespace Go.Proofs.Ytcpolfjnbbodgaa.Ve
open Go Go.RowKit
set_option linter.unusedVariables false
set_option linter.unusedSimpArgs false
set_option maxRecDepth 100000
set_option maxHeartbeats 0

theorem equal_loop (H0 : Heap) (lo : Nat) (a1 a2 : Option Addr) (c1 c2 : Nat) (l1 l2 : List AtD) (hl : l1.length = l2.length) (hn : l1.length ≤ 1048576) (h1 : SlI H0 lo 3 AtR (.slice a1 l1.length c1) l1) (h2 : SlI H0 lo 3 AtR (.slice a2 l2.length c2) l2) (r : Bool) :
    ∀ k e H2, (∃ i : Nat, k = l1.length - i ∧ i ≤ l1.length ∧ e.get 0 = .slice a1 l1.length c1 ∧ e.get 1 = .slice a2 l2.length c2 ∧ e.get 12 = .int .i64 l1.length ∧ e.get 13 = .int .i64 i ∧ H2 = H0 ∧ eqAts (l1.drop i) (l2.drop i) = r) →
    After (LE Try.prog lib0 (.loop f26b0) e H2) (fun o e H2 => H2 = H0 ∧ ((o = .exit 0 ∧ r = true) ∨ (o = .ret ∧ e.get 4 = .bool false ∧ r = false))) := by
  refine loopL_after _ _ ?_
  rintro k e H2 ⟨i, hk, hi, f0, f1, f12, f13, hH, fu⟩
  subst hH
  rcases b : decide ((i : Int) < l1.length) with _ | _
  · have hb' := of_decide_eq_false b
    have : l1.drop i = [] := List.drop_eq_nil_of_le (by omega)
    rw [this, eqAts] at fu
    simp (config := {maxSteps := 20000000, dsimp := false}) (disch := first | omega | (simp only [low_push, low_put, next_push, next_put, next_mk, len_next, List.length_cons, List.length_nil] <;> omega) | fail) only [↓rpre, rpost1, rpost2, rpost3, rpost4, rpost5, envOf, ↓reduceIte, Nat.reduceEqDiff, List.getElem?_toArray, List.getElem?_cons_zero, List.getElem?_cons_succ, reduceCtorEq, Nat.reduceAdd, Nat.reduceSub, Nat.reduceMul, Nat.reduceLeDiff, Nat.reduceLT, Nat.reduceDiv, Nat.reduceMod, Int.reduceEq, Int.reduceNe, Int.reduceLT, Int.reduceLE, Int.reduceGT, Int.reduceGE, Int.reduceAdd, Int.reduceSub, Int.reduceMul, Int.reduceNeg, Int.reduceToNat , f12, f13, ty3, b]
    · exact LoopG_exit ⟨rfl, .inl ⟨rfl, fu.symm⟩⟩
    · intro a q m s h; cases h
  · have hb' := of_decide_eq_true b
    obtain ⟨x, hx, hdx⟩ := drop_cons (l := l1) (i := i) (by omega)
    obtain ⟨y, hy, hdy⟩ := drop_cons (l := l2) (i := i) (by omega)
    rw [hdx, hdy, eqAts] at fu
    obtain ⟨p1, o1, q1, cs1, w1, e1, _, gg1, row1⟩ := at_row h1 hx
    obtain ⟨p2, o2, q2, cs2, w2, e2, _, gg2, row2⟩ := at_row h2 hy
    obtain ⟨rfl, rfl⟩ : a1 = some ⟨p1, o1, none⟩ ∧ c1 = q1 := by simpa using e1
    obtain ⟨rfl, rfl⟩ : a2 = some ⟨p2, o2, none⟩ ∧ c2 = q2 := by simpa using e2
    have hlt2 : (i : Int) < l2.length := by omega
    have nt : (i : Int).toNat = i := Int.toNat_natCast i
    rcases hq : eqAt x y with _ | _
    · have hq' := hq
      rw [eqAt] at hq'
      simp (config := {maxSteps := 20000000, dsimp := false}) (disch := first | omega | (simp only [low_push, low_put, next_push, next_put, next_mk, len_next, List.length_cons, List.length_nil] <;> omega) | fail) only [↓rpre, rpost1, rpost2, rpost3, rpost4, rpost5, envOf, ↓reduceIte, Nat.reduceEqDiff, List.getElem?_toArray, List.getElem?_cons_zero, List.getElem?_cons_succ, reduceCtorEq, Nat.reduceAdd, Nat.reduceSub, Nat.reduceMul, Nat.reduceLeDiff, Nat.reduceLT, Nat.reduceDiv, Nat.reduceMod, Int.reduceEq, Int.reduceNe, Int.reduceLT, Int.reduceLE, Int.reduceGT, Int.reduceGE, Int.reduceAdd, Int.reduceSub, Int.reduceMul, Int.reduceNeg, Int.reduceToNat , f0, f1, f12, f13, ty33, ty31, ty3, ty39, b, gg1, gg2, row1, row2, hq']
      exact LoopG_ret ⟨rfl, .inr ⟨rfl, rfl, by rw [← fu, hq]; rfl⟩⟩
    · have hq' := hq
      rw [eqAt] at hq'
      simp (config := {maxSteps := 20000000, dsimp := false}) (disch := first | omega | (simp only [low_push, low_put, next_push, next_put, next_mk, len_next, List.length_cons, List.length_nil] <;> omega) | fail) only [↓rpre, rpost1, rpost2, rpost3, rpost4, rpost5, envOf, ↓reduceIte, Nat.reduceEqDiff, List.getElem?_toArray, List.getElem?_cons_zero, List.getElem?_cons_succ, reduceCtorEq, Nat.reduceAdd, Nat.reduceSub, Nat.reduceMul, Nat.reduceLeDiff, Nat.reduceLT, Nat.reduceDiv, Nat.reduceMod, Int.reduceEq, Int.reduceNe, Int.reduceLT, Int.reduceLE, Int.reduceGT, Int.reduceGE, Int.reduceAdd, Int.reduceSub, Int.reduceMul, Int.reduceNeg, Int.reduceToNat , f0, f1, f12, f13, ty33, ty31, ty3, ty39, b, gg1, gg2, row1, row2, hq', wrap_small]
      exact LoopG_normal (k - 1) (by omega) ⟨i + 1, by omega, by omega, f0, f1, f12, rfl, rfl, by rw [← fu, hq]; rfl⟩
theorem slices_equal (H : Heap) (lo : Nat) (a1 a2 : Option Addr) (c1 c2 : Nat) (l1 l2 : List AtD) (hlo : lo ≤ H.next) (hn : l1.length ≤ 1048576) (hn2 : l2.length ≤ 1048576) (h1 : SlI H lo 3 AtR (.slice a1 l1.length c1) l1) (h2 : SlI H lo 3 AtR (.slice a2 l2.length c2) l2) :
    CL Try.prog lib0 26 [.slice a1 l1.length c1, .slice a2 l2.length c2] H = some (.bool (decide (l1.length = l2.length) && eqAts l1 l2), none) := by
  have el : decide ((l1.length : Int) = l2.length) = decide (l1.length = l2.length) := decide_eq_decide.2 (by omega)
  have hz : Heap.next ⟨H.bs, H.next⟩ = H.next := rfl
  rw [CL_light fn26 rfl _ (by simp)]
  rcases b : decide (l1.length = l2.length) with _ | _
  · simp (config := {maxSteps := 20000000, dsimp := false}) (disch := first | omega | (simp only [low_push, low_put, next_push, next_put, next_mk, len_next, List.length_cons, List.length_nil] <;> omega) | fail) only [↓rpre, rpost1, rpost2, rpost3, rpost4, rpost5, envOf, ↓reduceIte, Nat.reduceEqDiff, List.getElem?_toArray, List.getElem?_cons_zero, List.getElem?_cons_succ, reduceCtorEq, Nat.reduceAdd, Nat.reduceSub, Nat.reduceMul, Nat.reduceLeDiff, Nat.reduceLT, Nat.reduceDiv, Nat.reduceMod, Int.reduceEq, Int.reduceNe, Int.reduceLT, Int.reduceLE, Int.reduceGT, Int.reduceGE, Int.reduceAdd, Int.reduceSub, Int.reduceMul, Int.reduceNeg, Int.reduceToNat , ty31, ty3, el, b]
  · simp (config := {maxSteps := 20000000, dsimp := false}) (disch := first | omega | (simp only [low_push, low_put, next_push, next_put, next_mk, len_next, List.length_cons, List.length_nil] <;> omega) | fail) only [↓rpre, rpost1, rpost2, rpost3, rpost4, rpost5, envOf, ↓reduceIte, Nat.reduceEqDiff, List.getElem?_toArray, List.getElem?_cons_zero, List.getElem?_cons_succ, reduceCtorEq, Nat.reduceAdd, Nat.reduceSub, Nat.reduceMul, Nat.reduceLeDiff, Nat.reduceLT, Nat.reduceDiv, Nat.reduceMod, Int.reduceEq, Int.reduceNe, Int.reduceLT, Int.reduceLE, Int.reduceGT, Int.reduceGE, Int.reduceAdd, Int.reduceSub, Int.reduceMul, Int.reduceNeg, Int.reduceToNat , ty31, ty3, el, b]
    refine after_prop (F := fun z => bodyRet _ _ _ (thenDo (inBlock 0 z) _) = _) (equal_loop ⟨H.bs, H.next⟩ lo a1 a2 c1 c2 l1 l2 (of_decide_eq_true b) hn (h1.mono (fun _ _ => rfl) (Nat.le_refl _) (fun _ _ h => h)) (h2.mono (fun _ _ => rfl) (Nat.le_refl _) (fun _ _ h => h)) (eqAts l1 l2) l1.length _ _ ⟨0, rfl, by omega, rfl, rfl, rfl, rfl, rfl, rfl⟩) ?_
    rintro o e' H' ⟨hH, ⟨ho, hr⟩ | ⟨ho, h4, hr⟩⟩
    · simp (config := {maxSteps := 20000000, dsimp := false}) (disch := first | omega | (simp only [low_push, low_put, next_push, next_put, next_mk, len_next, List.length_cons, List.length_nil] <;> omega) | fail) only [↓rpre, rpost1, rpost2, rpost3, rpost4, rpost5, envOf, ↓reduceIte, Nat.reduceEqDiff, List.getElem?_toArray, List.getElem?_cons_zero, List.getElem?_cons_succ, reduceCtorEq, Nat.reduceAdd, Nat.reduceSub, Nat.reduceMul, Nat.reduceLeDiff, Nat.reduceLT, Nat.reduceDiv, Nat.reduceMod, Int.reduceEq, Int.reduceNe, Int.reduceLT, Int.reduceLE, Int.reduceGT, Int.reduceGE, Int.reduceAdd, Int.reduceSub, Int.reduceMul, Int.reduceNeg, Int.reduceToNat , ho, hr, hH]
    · simp (config := {maxSteps := 20000000, dsimp := false}) (disch := first | omega | (simp only [low_push, low_put, next_push, next_put, next_mk, len_next, List.length_cons, List.length_nil] <;> omega) | fail) only [↓rpre, rpost1, rpost2, rpost3, rpost4, rpost5, envOf, ↓reduceIte, Nat.reduceEqDiff, List.getElem?_toArray, List.getElem?_cons_zero, List.getElem?_cons_succ, reduceCtorEq, Nat.reduceAdd, Nat.reduceSub, Nat.reduceMul, Nat.reduceLeDiff, Nat.reduceLT, Nat.reduceDiv, Nat.reduceMod, Int.reduceEq, Int.reduceNe, Int.reduceLT, Int.reduceLE, Int.reduceGT, Int.reduceGE, Int.reduceAdd, Int.reduceSub, Int.reduceMul, Int.reduceNeg, Int.reduceToNat , ho, h4, hr, hH]
theorem word_same (H : Heap) (lo : Nat) (x1 x2 : List Value) (a b : EvD) (hlo : lo ≤ H.next) (h1 : EvR H lo x1 a) (h2 : EvR H lo x2 b) : CL Try.prog lib0 18 [.agg x1.toArray, .agg x2.toArray] H = some (.bool (eqEv a b), none) := by
  obtain ⟨v1, rfl, hv1, _, _, _, hz1⟩ := h1
  obtain ⟨v2, rfl, hv2, _, _, _, hz2⟩ := h2
  obtain ⟨p1, c1, rfl⟩ := hv1.slice
  obtain ⟨p2, c2, rfl⟩ := hv2.slice
  have hS : Stay H.next H ((Heap.push ⟨H.bs, H.next⟩ (.cells [.int .i64 a.kind, .string a.space, .string a.loc, .slice p1 a.attrs.length c1, .string a.text] true 1)).push (.cells [.int .i64 b.kind, .string b.space, .string b.loc, .slice p2 b.attrs.length c2, .string b.text] true 1)) := (Stay.first H _).trans (Stay.push (by rw [next_push]; show H.next ≤ H.next + 1; omega))
  have heq := slices_equal _ lo p1 p2 c1 c2 a.attrs b.attrs (by have := hS.next; omega) hz1 hz2 (hv1.mono (fun j hj => hS.get j (by omega)) (Nat.le_refl _) (fun _ _ h => h)) (hv2.mono (fun j hj => hS.get j (by omega)) (Nat.le_refl _) (fun _ _ h => h))
  rw [CL_light fn18 rfl _ (by simp), eqEv]
  rcases b1 : decide (a.kind = b.kind) with _ | _
  · simp (config := {maxSteps := 20000000, dsimp := false}) (disch := first | omega | (simp only [low_push, low_put, next_push, next_put, next_mk, len_next, List.length_cons, List.length_nil] <;> omega) | fail) only [↓rpre, rpost1, rpost2, rpost3, rpost4, rpost5, envOf, ↓reduceIte, Nat.reduceEqDiff, List.getElem?_toArray, List.getElem?_cons_zero, List.getElem?_cons_succ, reduceCtorEq, Nat.reduceAdd, Nat.reduceSub, Nat.reduceMul, Nat.reduceLeDiff, Nat.reduceLT, Nat.reduceDiv, Nat.reduceMod, Int.reduceEq, Int.reduceNe, Int.reduceLT, Int.reduceLE, Int.reduceGT, Int.reduceGE, Int.reduceAdd, Int.reduceSub, Int.reduceMul, Int.reduceNeg, Int.reduceToNat , ty33, ty3, ty30, ty9, ty31, b1]
  rcases b2 : (decide (a.space = b.space) && decide (a.loc = b.loc)) with _ | _
  · simp (config := {maxSteps := 20000000, dsimp := false}) (disch := first | omega | (simp only [low_push, low_put, next_push, next_put, next_mk, len_next, List.length_cons, List.length_nil] <;> omega) | fail) only [↓rpre, rpost1, rpost2, rpost3, rpost4, rpost5, envOf, ↓reduceIte, Nat.reduceEqDiff, List.getElem?_toArray, List.getElem?_cons_zero, List.getElem?_cons_succ, reduceCtorEq, Nat.reduceAdd, Nat.reduceSub, Nat.reduceMul, Nat.reduceLeDiff, Nat.reduceLT, Nat.reduceDiv, Nat.reduceMod, Int.reduceEq, Int.reduceNe, Int.reduceLT, Int.reduceLE, Int.reduceGT, Int.reduceGE, Int.reduceAdd, Int.reduceSub, Int.reduceMul, Int.reduceNeg, Int.reduceToNat , ty33, ty3, ty30, ty9, ty31, b1, b2]
  rcases b3 : decide (a.text = b.text) with _ | _
  · simp (config := {maxSteps := 20000000, dsimp := false}) (disch := first | omega | (simp only [low_push, low_put, next_push, next_put, next_mk, len_next, List.length_cons, List.length_nil] <;> omega) | fail) only [↓rpre, rpost1, rpost2, rpost3, rpost4, rpost5, envOf, ↓reduceIte, Nat.reduceEqDiff, List.getElem?_toArray, List.getElem?_cons_zero, List.getElem?_cons_succ, reduceCtorEq, Nat.reduceAdd, Nat.reduceSub, Nat.reduceMul, Nat.reduceLeDiff, Nat.reduceLT, Nat.reduceDiv, Nat.reduceMod, Int.reduceEq, Int.reduceNe, Int.reduceLT, Int.reduceLE, Int.reduceGT, Int.reduceGE, Int.reduceAdd, Int.reduceSub, Int.reduceMul, Int.reduceNeg, Int.reduceToNat , ty33, ty3, ty30, ty9, ty31, b1, b2, b3]
  simp (config := {maxSteps := 20000000, dsimp := false}) (disch := first | omega | (simp only [low_push, low_put, next_push, next_put, next_mk, len_next, List.length_cons, List.length_nil] <;> omega) | fail) only [↓rpre, rpost1, rpost2, rpost3, rpost4, rpost5, envOf, ↓reduceIte, Nat.reduceEqDiff, List.getElem?_toArray, List.getElem?_cons_zero, List.getElem?_cons_succ, reduceCtorEq, Nat.reduceAdd, Nat.reduceSub, Nat.reduceMul, Nat.reduceLeDiff, Nat.reduceLT, Nat.reduceDiv, Nat.reduceMod, Int.reduceEq, Int.reduceNe, Int.reduceLT, Int.reduceLE, Int.reduceGT, Int.reduceGE, Int.reduceAdd, Int.reduceSub, Int.reduceMul, Int.reduceNeg, Int.reduceToNat , ty33, ty3, ty30, ty9, ty31, b1, b2, b3, heq]
theorem law_rights (H : Heap) (x1 x2 : List Value) (a b : EvD) (h1 : EvR H H.next x1 a) (h2 : EvR H H.next x2 b) : CL Try.prog lib0 6 [.agg x1.toArray, .agg x2.toArray] H = some (.bool true, none) := by
  obtain ⟨v1, e1, hv1, z11, z12, z13, z14⟩ := id h1
  obtain ⟨v2, e2, hv2, z21, z22, z23, z24⟩ := id h2
  obtain ⟨p1, c1, rfl⟩ := hv1.slice
  obtain ⟨p2, c2, rfl⟩ := hv2.slice
  obtain ⟨H0, hH0⟩ : ∃ H0, H0 = (Heap.push ⟨H.bs, H.next⟩ (.cells x1 true 1)).push (.cells x2 true 1) := ⟨_, rfl⟩
  have hS : Stay H.next H H0 := by rw [hH0]; exact (Stay.first H _).trans (Stay.push (by rw [next_push]; show H.next ≤ H.next + 1; omega))
  have hn0 : H0.next = H.next + 1 + 1 := by rw [hH0, next_push, next_push]; rfl
  have hl0 : H0.low = H.next := by rw [hH0]; rfl
  obtain ⟨H1, hH1⟩ : ∃ H1, H1 = H0.push (.cells (x1 ++ x2) true 5) := ⟨_, rfl⟩
  have hS1 : Stay H.next H H1 := by rw [hH1]; exact hS.trans (Stay.push hS.next)
  have hl1 : H1.low = H.next := by rw [hH1, low_push, hl0]
  have hn1 : H1.next = H.next + 1 + 1 + 1 := by rw [hH1, next_push, hn0]
  have len1 : x1.length = 5 := by rw [e1]; rfl
  have len2 : x2.length = 5 := by rw [e2]; rfl
  -- what Few is asked
  have hev : EvsR H1 H1.next (.slice (some ⟨H.next + 1 + 1, 0, none⟩) 2 2) [a, b] := by
    refine OwnC.sl (lo := 0) (cs := x1 ++ x2) (.inr ⟨H.next + 1 + 1, 2, rfl, by rw [hH1]; exact get_push_eq (by omega), Nat.zero_le _, by rw [List.length_append, len1, len2]; rfl⟩) ?_
    refine RowsR.append (l1 := [a]) (l2 := [b]) ⟨by rw [len1]; rfl, fun i q hi => ?_⟩ ⟨by rw [len2]; rfl, fun i q hi => ?_⟩
    · cases i with
      | zero =>
        simp at hi; subst hi
        rw [Nat.zero_mul, List.drop_zero, List.take_of_length_le (by omega)]
        exact h1.mono (fun j hj => hS1.get j hj) (by omega)
      | succ i => simp at hi
    · cases i with
      | zero =>
        simp at hi; subst hi
        rw [Nat.zero_mul, List.drop_zero, List.take_of_length_le (by omega)]
        exact h2.mono (fun j hj => hS1.get j hj) (by omega)
      | succ i => simp at hi
  obtain ⟨t, hfew⟩ := ref_few H1 H1.next _ [a, b] (Nat.le_refl _) hev (by simp)
  have R1 : EvR H1 H.next x1 a := h1.mono (fun j hj => hS1.get j hj) (Nat.le_refl _)
  have R2 : EvR H1 H.next x2 b := h2.mono (fun j hj => hS1.get j hj) (Nat.le_refl _)
  have hw := word_right H1 H.next x1 a (by omega) R1
  have hr := ref_right H1 H.next x1 a (by omega) R1
  have hs := word_same H1 H.next x1 x2 a b (by omega) R1 R2
  have hq := ref_sameEvent H1 H.next x1 x2 a b (by omega) R1 R2
  have hz := word_same H1 H.next x1 x1 a a (by omega) R1 R1
  have g1 : H1.get H.next = some (.cells x1 true 1) := by rw [hH1, get_push_lt (by omega), hH0, get_push_lt (by rw [next_push]; show H.next < H.next + 1; omega)]; exact get_push_next
  have g2 : H1.get (H.next + 1) = some (.cells x2 true 1) := by rw [hH1, get_push_lt (by omega), hH0]; exact get_push_eq (by rw [next_push]; show H.next + 1 ≤ H.next + 1 ∧ H.next + 1 ≤ H.next + 1; omega)
  have beq : ∀ x y : Bool, binA Try.prog .eql 4 (.bool x) (.bool y) = some (.bool (x == y)) := fun x y => bin_eql_bool 4 x y ty4.2.2.2.2.2.2.1
  have sf : ∀ x : Bool, (x == x) = true := fun x => by cases x <;> rfl
  rw [eqEv_refl] at hz
  subst e1
  subst e2
  rw [CL_light fn6 rfl _ (by simp)]
  have hfold : ((Heap.push ⟨H.bs, H.next⟩ (.cells [.int .i64 a.kind, .string a.space, .string a.loc, .slice p1 a.attrs.length c1, .string a.text] true 1)).push (.cells [.int .i64 b.kind, .string b.space, .string b.loc, .slice p2 b.attrs.length c2, .string b.text] true 1)).push (.cells [.int .i64 a.kind, .string a.space, .string a.loc, .slice p1 a.attrs.length c1, .string a.text, .int .i64 b.kind, .string b.space, .string b.loc, .slice p2 b.attrs.length c2, .string b.text] true 5) = H1 := by rw [hH1, hH0]; rfl
  have hlow : H.next ≤ H1.low := by omega
  cases t with
  | false =>
    simp (config := {maxSteps := 20000000, dsimp := false}) (disch := first | omega | (simp only [low_push, low_put, next_push, next_put, next_mk, len_next, List.length_cons, List.length_nil] <;> omega) | fail) only [↓rpre, rpost1, rpost2, rpost3, rpost4, rpost5, envOf, ↓reduceIte, Nat.reduceEqDiff, List.getElem?_toArray, List.getElem?_cons_zero, List.getElem?_cons_succ, reduceCtorEq, Nat.reduceAdd, Nat.reduceSub, Nat.reduceMul, Nat.reduceLeDiff, Nat.reduceLT, Nat.reduceDiv, Nat.reduceMod, Int.reduceEq, Int.reduceNe, Int.reduceLT, Int.reduceLE, Int.reduceGT, Int.reduceGE, Int.reduceAdd, Int.reduceSub, Int.reduceMul, Int.reduceNeg, Int.reduceToNat , awake, ty33, ty22, hfold, hfew]
  | true =>
    simp (config := {maxSteps := 20000000, dsimp := false}) (disch := first | omega | (simp only [low_push, low_put, next_push, next_put, next_mk, len_next, List.length_cons, List.length_nil] <;> omega) | fail) only [↓rpre, rpost1, rpost2, rpost3, rpost4, rpost5, envOf, ↓reduceIte, Nat.reduceEqDiff, List.getElem?_toArray, List.getElem?_cons_zero, List.getElem?_cons_succ, reduceCtorEq, Nat.reduceAdd, Nat.reduceSub, Nat.reduceMul, Nat.reduceLeDiff, Nat.reduceLT, Nat.reduceDiv, Nat.reduceMod, Int.reduceEq, Int.reduceNe, Int.reduceLT, Int.reduceLE, Int.reduceGT, Int.reduceGE, Int.reduceAdd, Int.reduceSub, Int.reduceMul, Int.reduceNeg, Int.reduceToNat , awake, ty33, ty22, ty4, hfold, hfew, hw, hr, hs, hq, hz, g1, g2, beq, sf]
end Go.Proofs.Ytcpolfjnbbodgaa.Ve
