/- The runs of the references' SameEvent and Same. Conditions: none here. -/
import Derived.Test.YtcpolfjnbbodgaaPrefix
namespace Go.Proofs.Ytcpolfjnbbodgaa.Ve
open Go Go.RowKit
set_option linter.unusedVariables false
set_option linter.unusedSimpArgs false
set_option maxRecDepth 100000
set_option maxHeartbeats 0

def eqAt (a b : AtD) : Bool := decide (a.space = b.space) && (decide (a.loc = b.loc) && decide (a.val = b.val))
def eqAts : List AtD → List AtD → Bool
  | a :: l, b :: m => eqAt a b && eqAts l m
  | _, _ => true
def eqEv (a b : EvD) : Bool := decide (a.kind = b.kind) && (decide (a.space = b.space) && decide (a.loc = b.loc)) && decide (a.text = b.text) && decide (a.attrs.length = b.attrs.length) && eqAts a.attrs b.attrs
def eqEvs : List EvD → List EvD → Bool
  | a :: l, b :: m => eqEv a b && eqEvs l m
  | _, _ => true
theorem eqAt_refl (a : AtD) : eqAt a a = true := by simp [eqAt]
theorem eqAts_refl : ∀ l, eqAts l l = true
  | [] => rfl
  | a :: l => by rw [eqAts, eqAt_refl, eqAts_refl l]; rfl
theorem eqEv_refl (a : EvD) : eqEv a a = true := by simp [eqEv, eqAts_refl]
theorem eqEvs_refl : ∀ l, eqEvs l l = true
  | [] => rfl
  | a :: l => by rw [eqEvs, eqEv_refl, eqEvs_refl l]; rfl

theorem at_row {H : Heap} {lo : Nat} {v : Value} {l : List AtD} (hv : SlI H lo 3 AtR v l) {i : Nat} {a : AtD} (ha : l[i]? = some a) :
    ∃ b o c cs own, v = .slice (some ⟨b, o, none⟩) l.length c ∧ b < lo ∧ H.get b = some (.cells cs own 3) ∧ ldC (some true) (some 3) (o + i * 3) cs = some (.agg #[.string a.space, .string a.loc, .string a.val]) := by
  obtain ⟨b, o, c, cs, own, h1, h2, h3, h4, h5, _⟩ := hv.at_ ha
  exact ⟨b, o, c, cs, own, h1, h2, h3, row_agg h4 h5⟩
theorem same_loop (H0 : Heap) (lo : Nat) (a1 a2 : Option Addr) (c1 c2 b1 b2 : Nat) (l1 l2 : List AtD) (r1 r2 : List Value) (hl : l1.length = l2.length) (hn : l1.length ≤ 1048576) (h1 : SlI H0 lo 3 AtR (.slice a1 l1.length c1) l1) (h2 : SlI H0 lo 3 AtR (.slice a2 l2.length c2) l2)
    (g1 : H0.get b1 = some (.cells r1 true 1)) (g2 : H0.get b2 = some (.cells r2 true 1)) (k1 : r1[3]? = some (.slice a1 l1.length c1)) (k2 : r2[3]? = some (.slice a2 l2.length c2)) (r : Bool) :
    ∀ k e H2, (∃ i : Nat, k = l1.length - i ∧ i ≤ l1.length ∧ e.get 2 = .pointer (some ⟨b1, 0, none⟩) ∧ e.get 3 = .pointer (some ⟨b2, 0, none⟩) ∧ e.get 5 = .int .i64 i ∧ H2 = H0 ∧ eqAts (l1.drop i) (l2.drop i) = r) →
    After (LE Try.prog lib0 (.loop f19b0) e H2) (fun o e H2 => H2 = H0 ∧ ((o = .exit 0 ∧ r = true) ∨ (o = .ret ∧ e.get 4 = .bool false ∧ r = false))) := by
  refine loopL_after _ _ ?_
  rintro k e H2 ⟨i, hk, hi, f2, f3, f5, hH, fu⟩
  subst hH
  rcases b : decide ((i : Int) < l1.length) with _ | _
  · have hb' := of_decide_eq_false b
    have : l1.drop i = [] := List.drop_eq_nil_of_le (by omega)
    rw [this, eqAts] at fu
    simp (config := {maxSteps := 20000000, dsimp := false}) (disch := first | omega | (simp only [low_push, low_put, next_push, next_put, next_mk, len_next, List.length_cons, List.length_nil] <;> omega) | fail) only [↓rpre, rpost1, rpost2, rpost3, rpost4, rpost5, envOf, ↓reduceIte, Nat.reduceEqDiff, List.getElem?_toArray, List.getElem?_cons_zero, List.getElem?_cons_succ, reduceCtorEq, Nat.reduceAdd, Nat.reduceSub, Nat.reduceMul, Nat.reduceLeDiff, Nat.reduceLT, Nat.reduceDiv, Nat.reduceMod, Int.reduceEq, Int.reduceNe, Int.reduceLT, Int.reduceLE, Int.reduceGT, Int.reduceGE, Int.reduceAdd, Int.reduceSub, Int.reduceMul, Int.reduceNeg, Int.reduceToNat , f2, f3, f5, g1, g2, k1, k2, ty33, ty31, ty3, b]
    · exact LoopG_exit ⟨rfl, .inl ⟨rfl, fu.symm⟩⟩
    · intro a q m s h; cases h
  · have hb' := of_decide_eq_true b
    obtain ⟨x, hx, hdx⟩ := drop_cons (l := l1) (i := i) (by omega)
    obtain ⟨y, hy, hdy⟩ := drop_cons (l := l2) (i := i) (by omega)
    rw [hdx, hdy, eqAts] at fu
    obtain ⟨p1, o1, q1, cs1, w1, e1, _, gg1, row1⟩ := at_row h1 hx
    obtain ⟨p2, o2, q2, cs2, w2, e2, _, gg2, row2⟩ := at_row h2 hy
    obtain ⟨rfl, rfl⟩ : a1 = some ⟨p1, o1, none⟩ ∧ c1 = q1 := by simpa using e1
    obtain ⟨rfl, rfl⟩ : a2 = some ⟨p2, o2, none⟩ ∧ c2 = q2 := by simpa using e2
    have hlt2 : (i : Int) < l2.length := by omega
    have nt : (i : Int).toNat = i := Int.toNat_natCast i
    rcases hq : eqAt x y with _ | _
    · have hq' := hq
      rw [eqAt] at hq'
      simp (config := {maxSteps := 20000000, dsimp := false}) (disch := first | omega | (simp only [low_push, low_put, next_push, next_put, next_mk, len_next, List.length_cons, List.length_nil] <;> omega) | fail) only [↓rpre, rpost1, rpost2, rpost3, rpost4, rpost5, envOf, ↓reduceIte, Nat.reduceEqDiff, List.getElem?_toArray, List.getElem?_cons_zero, List.getElem?_cons_succ, reduceCtorEq, Nat.reduceAdd, Nat.reduceSub, Nat.reduceMul, Nat.reduceLeDiff, Nat.reduceLT, Nat.reduceDiv, Nat.reduceMod, Int.reduceEq, Int.reduceNe, Int.reduceLT, Int.reduceLE, Int.reduceGT, Int.reduceGE, Int.reduceAdd, Int.reduceSub, Int.reduceMul, Int.reduceNeg, Int.reduceToNat , f2, f3, f5, g1, g2, k1, k2, ty33, ty31, ty3, ty39, b, gg1, gg2, row1, row2, hq']
      exact LoopG_ret ⟨rfl, .inr ⟨rfl, rfl, by rw [← fu, hq]; rfl⟩⟩
    · have hq' := hq
      rw [eqAt] at hq'
      simp (config := {maxSteps := 20000000, dsimp := false}) (disch := first | omega | (simp only [low_push, low_put, next_push, next_put, next_mk, len_next, List.length_cons, List.length_nil] <;> omega) | fail) only [↓rpre, rpost1, rpost2, rpost3, rpost4, rpost5, envOf, ↓reduceIte, Nat.reduceEqDiff, List.getElem?_toArray, List.getElem?_cons_zero, List.getElem?_cons_succ, reduceCtorEq, Nat.reduceAdd, Nat.reduceSub, Nat.reduceMul, Nat.reduceLeDiff, Nat.reduceLT, Nat.reduceDiv, Nat.reduceMod, Int.reduceEq, Int.reduceNe, Int.reduceLT, Int.reduceLE, Int.reduceGT, Int.reduceGE, Int.reduceAdd, Int.reduceSub, Int.reduceMul, Int.reduceNeg, Int.reduceToNat , f2, f3, f5, g1, g2, k1, k2, ty33, ty31, ty3, ty39, b, gg1, gg2, row1, row2, hq', wrap_small]
      exact LoopG_normal (k - 1) (by omega) ⟨i + 1, by omega, by omega, f2, f3, rfl, rfl, by rw [← fu, hq]; rfl⟩
theorem ref_sameEvent (H : Heap) (lo : Nat) (x1 x2 : List Value) (a b : EvD) (hlo : lo ≤ H.next) (h1 : EvR H lo x1 a) (h2 : EvR H lo x2 b) : CL Try.prog lib0 19 [.agg x1.toArray, .agg x2.toArray] H = some (.bool (eqEv a b), none) := by
  obtain ⟨v1, rfl, hv1, _, _, _, hz1⟩ := h1
  obtain ⟨v2, rfl, hv2, _, _, _, hz2⟩ := h2
  obtain ⟨p1, c1, rfl⟩ := hv1.slice
  obtain ⟨p2, c2, rfl⟩ := hv2.slice
  rw [CL_light fn19 rfl _ (by simp), eqEv]
  rcases b1 : decide (a.kind = b.kind) with _ | _
  · simp (config := {maxSteps := 20000000, dsimp := false}) (disch := first | omega | (simp only [low_push, low_put, next_push, next_put, next_mk, len_next, List.length_cons, List.length_nil] <;> omega) | fail) only [↓rpre, rpost1, rpost2, rpost3, rpost4, rpost5, envOf, ↓reduceIte, Nat.reduceEqDiff, List.getElem?_toArray, List.getElem?_cons_zero, List.getElem?_cons_succ, reduceCtorEq, Nat.reduceAdd, Nat.reduceSub, Nat.reduceMul, Nat.reduceLeDiff, Nat.reduceLT, Nat.reduceDiv, Nat.reduceMod, Int.reduceEq, Int.reduceNe, Int.reduceLT, Int.reduceLE, Int.reduceGT, Int.reduceGE, Int.reduceAdd, Int.reduceSub, Int.reduceMul, Int.reduceNeg, Int.reduceToNat , ty33, ty3, ty30, ty9, ty31, b1]
  rcases b2 : (decide (a.space = b.space) && decide (a.loc = b.loc)) with _ | _
  · simp (config := {maxSteps := 20000000, dsimp := false}) (disch := first | omega | (simp only [low_push, low_put, next_push, next_put, next_mk, len_next, List.length_cons, List.length_nil] <;> omega) | fail) only [↓rpre, rpost1, rpost2, rpost3, rpost4, rpost5, envOf, ↓reduceIte, Nat.reduceEqDiff, List.getElem?_toArray, List.getElem?_cons_zero, List.getElem?_cons_succ, reduceCtorEq, Nat.reduceAdd, Nat.reduceSub, Nat.reduceMul, Nat.reduceLeDiff, Nat.reduceLT, Nat.reduceDiv, Nat.reduceMod, Int.reduceEq, Int.reduceNe, Int.reduceLT, Int.reduceLE, Int.reduceGT, Int.reduceGE, Int.reduceAdd, Int.reduceSub, Int.reduceMul, Int.reduceNeg, Int.reduceToNat , ty33, ty3, ty30, ty9, ty31, b1, b2]
  rcases b3 : decide (a.text = b.text) with _ | _
  · simp (config := {maxSteps := 20000000, dsimp := false}) (disch := first | omega | (simp only [low_push, low_put, next_push, next_put, next_mk, len_next, List.length_cons, List.length_nil] <;> omega) | fail) only [↓rpre, rpost1, rpost2, rpost3, rpost4, rpost5, envOf, ↓reduceIte, Nat.reduceEqDiff, List.getElem?_toArray, List.getElem?_cons_zero, List.getElem?_cons_succ, reduceCtorEq, Nat.reduceAdd, Nat.reduceSub, Nat.reduceMul, Nat.reduceLeDiff, Nat.reduceLT, Nat.reduceDiv, Nat.reduceMod, Int.reduceEq, Int.reduceNe, Int.reduceLT, Int.reduceLE, Int.reduceGT, Int.reduceGE, Int.reduceAdd, Int.reduceSub, Int.reduceMul, Int.reduceNeg, Int.reduceToNat , ty33, ty3, ty30, ty9, ty31, b1, b2, b3]
  have el : decide ((a.attrs.length : Int) = b.attrs.length) = decide (a.attrs.length = b.attrs.length) := decide_eq_decide.2 (by omega)
  rcases b4 : decide (a.attrs.length = b.attrs.length) with _ | _
  · simp (config := {maxSteps := 20000000, dsimp := false}) (disch := first | omega | (simp only [low_push, low_put, next_push, next_put, next_mk, len_next, List.length_cons, List.length_nil] <;> omega) | fail) only [↓rpre, rpost1, rpost2, rpost3, rpost4, rpost5, envOf, ↓reduceIte, Nat.reduceEqDiff, List.getElem?_toArray, List.getElem?_cons_zero, List.getElem?_cons_succ, reduceCtorEq, Nat.reduceAdd, Nat.reduceSub, Nat.reduceMul, Nat.reduceLeDiff, Nat.reduceLT, Nat.reduceDiv, Nat.reduceMod, Int.reduceEq, Int.reduceNe, Int.reduceLT, Int.reduceLE, Int.reduceGT, Int.reduceGE, Int.reduceAdd, Int.reduceSub, Int.reduceMul, Int.reduceNeg, Int.reduceToNat , ty33, ty3, ty30, ty9, ty31, b1, b2, b3, el, b4]
  simp (config := {maxSteps := 20000000, dsimp := false}) (disch := first | omega | (simp only [low_push, low_put, next_push, next_put, next_mk, len_next, List.length_cons, List.length_nil] <;> omega) | fail) only [↓rpre, rpost1, rpost2, rpost3, rpost4, rpost5, envOf, ↓reduceIte, Nat.reduceEqDiff, List.getElem?_toArray, List.getElem?_cons_zero, List.getElem?_cons_succ, reduceCtorEq, Nat.reduceAdd, Nat.reduceSub, Nat.reduceMul, Nat.reduceLeDiff, Nat.reduceLT, Nat.reduceDiv, Nat.reduceMod, Int.reduceEq, Int.reduceNe, Int.reduceLT, Int.reduceLE, Int.reduceGT, Int.reduceGE, Int.reduceAdd, Int.reduceSub, Int.reduceMul, Int.reduceNeg, Int.reduceToNat , ty33, ty3, ty30, ty9, ty31, b1, b2, b3, el, b4]
  have hl := of_decide_eq_true b4
  obtain ⟨H0, hH0⟩ : ∃ H0, H0 = (Heap.push ⟨H.bs, H.next⟩ (.cells [.int .i64 a.kind, .string a.space, .string a.loc, .slice p1 a.attrs.length c1, .string a.text] true 1)).push (.cells [.int .i64 b.kind, .string b.space, .string b.loc, .slice p2 b.attrs.length c2, .string b.text] true 1) := ⟨_, rfl⟩
  rw [← hH0]
  have hS : Stay H.next H H0 := by rw [hH0]; exact (Stay.first H _).trans (Stay.push (by rw [next_push]; show H.next ≤ H.next + 1; omega))
  refine after_prop (F := fun z => bodyRet _ _ _ (thenDo (inBlock 0 z) _) = _) (same_loop H0 lo p1 p2 c1 c2 H.next (H.next + 1) a.attrs b.attrs _ _ hl hz1 (hv1.mono (fun j hj => hS.get j (by omega)) (Nat.le_refl _) (fun _ _ h => h)) (hv2.mono (fun j hj => hS.get j (by omega)) (Nat.le_refl _) (fun _ _ h => h))
    (by rw [hH0, get_push_lt (by rw [next_push]; show H.next < H.next + 1; omega)]; exact get_push_next) (by rw [hH0]; exact get_push_eq (by rw [next_push]; show H.next + 1 ≤ H.next + 1 ∧ H.next + 1 ≤ H.next + 1; omega)) rfl rfl (eqAts a.attrs b.attrs) a.attrs.length _ _ ⟨0, rfl, by omega, rfl, rfl, rfl, rfl, rfl⟩) ?_
  have hlow : H.next ≤ H0.low := by rw [hH0, low_push, low_push]; exact Nat.le_refl _
  rintro o e' H' ⟨hH, ⟨ho, hr⟩ | ⟨ho, h4, hr⟩⟩
  · simp (config := {maxSteps := 20000000, dsimp := false}) (disch := first | omega | (simp only [low_push, low_put, next_push, next_put, next_mk, len_next, List.length_cons, List.length_nil] <;> omega) | fail) only [↓rpre, rpost1, rpost2, rpost3, rpost4, rpost5, envOf, ↓reduceIte, Nat.reduceEqDiff, List.getElem?_toArray, List.getElem?_cons_zero, List.getElem?_cons_succ, reduceCtorEq, Nat.reduceAdd, Nat.reduceSub, Nat.reduceMul, Nat.reduceLeDiff, Nat.reduceLT, Nat.reduceDiv, Nat.reduceMod, Int.reduceEq, Int.reduceNe, Int.reduceLT, Int.reduceLE, Int.reduceGT, Int.reduceGE, Int.reduceAdd, Int.reduceSub, Int.reduceMul, Int.reduceNeg, Int.reduceToNat , ho, hr, hH]
  · simp (config := {maxSteps := 20000000, dsimp := false}) (disch := first | omega | (simp only [low_push, low_put, next_push, next_put, next_mk, len_next, List.length_cons, List.length_nil] <;> omega) | fail) only [↓rpre, rpost1, rpost2, rpost3, rpost4, rpost5, envOf, ↓reduceIte, Nat.reduceEqDiff, List.getElem?_toArray, List.getElem?_cons_zero, List.getElem?_cons_succ, reduceCtorEq, Nat.reduceAdd, Nat.reduceSub, Nat.reduceMul, Nat.reduceLeDiff, Nat.reduceLT, Nat.reduceDiv, Nat.reduceMod, Int.reduceEq, Int.reduceNe, Int.reduceLT, Int.reduceLE, Int.reduceGT, Int.reduceGE, Int.reduceAdd, Int.reduceSub, Int.reduceMul, Int.reduceNeg, Int.reduceToNat , ho, h4, hr, hH]
theorem sames_loop (H0 : Heap) (lo : Nat) (v1 v2 : Value) (l1 l2 : List EvD) (hl : l1.length = l2.length) (hlo : lo ≤ H0.next) (hn : l1.length ≤ 2000000) (h1 : EvsR H0 lo v1 l1) (h2 : EvsR H0 lo v2 l2) (r : Bool) :
    ∀ k e H2, (∃ i : Nat, k = l1.length - i ∧ i ≤ l1.length ∧ e.get 0 = v1 ∧ e.get 1 = v2 ∧ e.get 5 = .int .i64 i ∧ H2 = H0 ∧ eqEvs (l1.drop i) (l2.drop i) = r) →
    After (LE Try.prog lib0 (.loop f15b0) e H2) (fun o e H2 => H2 = H0 ∧ ((o = .exit 0 ∧ r = true) ∨ (o = .ret ∧ e.get 4 = .bool false ∧ r = false))) := by
  refine loopL_after _ _ ?_
  rintro k e H2 ⟨i, hk, hi, f0, f1, f5, hH, fu⟩
  subst hH
  obtain ⟨va, vc, hvs⟩ := h1.slice
  have f0s := f0
  rw [hvs] at f0s
  rcases b : decide ((i : Int) < l1.length) with _ | _
  · have hb' := of_decide_eq_false b
    have : l1.drop i = [] := List.drop_eq_nil_of_le (by omega)
    rw [this, eqEvs] at fu
    simp (config := {maxSteps := 20000000, dsimp := false}) (disch := first | omega | (simp only [low_push, low_put, next_push, next_put, next_mk, len_next, List.length_cons, List.length_nil] <;> omega) | fail) only [↓rpre, rpost1, rpost2, rpost3, rpost4, rpost5, envOf, ↓reduceIte, Nat.reduceEqDiff, List.getElem?_toArray, List.getElem?_cons_zero, List.getElem?_cons_succ, reduceCtorEq, Nat.reduceAdd, Nat.reduceSub, Nat.reduceMul, Nat.reduceLeDiff, Nat.reduceLT, Nat.reduceDiv, Nat.reduceMod, Int.reduceEq, Int.reduceNe, Int.reduceLT, Int.reduceLE, Int.reduceGT, Int.reduceGE, Int.reduceAdd, Int.reduceSub, Int.reduceMul, Int.reduceNeg, Int.reduceToNat , f0s, f5, ty22, ty3, b]
    · exact LoopG_exit ⟨rfl, .inl ⟨rfl, fu.symm⟩⟩
    · intro a q m s h; cases h
  · have hb' := of_decide_eq_true b
    obtain ⟨x, hx, hdx⟩ := drop_cons (l := l1) (i := i) (by omega)
    obtain ⟨y, hy, hdy⟩ := drop_cons (l := l2) (i := i) (by omega)
    rw [hdx, hdy, eqEvs] at fu
    obtain ⟨p1, o1, q1, cs1, w1, e1, _, gg1, hle1, R1⟩ := h1.at_ hx
    obtain ⟨p2, o2, q2, cs2, w2, e2, _, gg2, hle2, R2⟩ := h2.at_ hy
    have row1 := row_agg hle1 rfl
    have row2 := row_agg hle2 rfl
    have hc := ref_sameEvent H2 lo _ _ x y hlo R1 R2
    have f0' := f0
    have f1' := f1
    rw [e1] at f0'
    rw [e2] at f1'
    have hlt2 : (i : Int) < l2.length := by omega
    have nt : (i : Int).toNat = i := Int.toNat_natCast i
    rcases hq : eqEv x y with _ | _
    · rw [hq] at hc
      simp (config := {maxSteps := 20000000, dsimp := false}) (disch := first | omega | (simp only [low_push, low_put, next_push, next_put, next_mk, len_next, List.length_cons, List.length_nil] <;> omega) | fail) only [↓rpre, rpost1, rpost2, rpost3, rpost4, rpost5, envOf, ↓reduceIte, Nat.reduceEqDiff, List.getElem?_toArray, List.getElem?_cons_zero, List.getElem?_cons_succ, reduceCtorEq, Nat.reduceAdd, Nat.reduceSub, Nat.reduceMul, Nat.reduceLeDiff, Nat.reduceLT, Nat.reduceDiv, Nat.reduceMod, Int.reduceEq, Int.reduceNe, Int.reduceLT, Int.reduceLE, Int.reduceGT, Int.reduceGE, Int.reduceAdd, Int.reduceSub, Int.reduceMul, Int.reduceNeg, Int.reduceToNat , f0', f1', f5, ty33, ty31, ty3, ty22, ty4, b, gg1, gg2, row1, row2, hc]
      exact LoopG_ret ⟨rfl, .inr ⟨rfl, rfl, by rw [← fu, hq]; rfl⟩⟩
    · rw [hq] at hc
      simp (config := {maxSteps := 20000000, dsimp := false}) (disch := first | omega | (simp only [low_push, low_put, next_push, next_put, next_mk, len_next, List.length_cons, List.length_nil] <;> omega) | fail) only [↓rpre, rpost1, rpost2, rpost3, rpost4, rpost5, envOf, ↓reduceIte, Nat.reduceEqDiff, List.getElem?_toArray, List.getElem?_cons_zero, List.getElem?_cons_succ, reduceCtorEq, Nat.reduceAdd, Nat.reduceSub, Nat.reduceMul, Nat.reduceLeDiff, Nat.reduceLT, Nat.reduceDiv, Nat.reduceMod, Int.reduceEq, Int.reduceNe, Int.reduceLT, Int.reduceLE, Int.reduceGT, Int.reduceGE, Int.reduceAdd, Int.reduceSub, Int.reduceMul, Int.reduceNeg, Int.reduceToNat , f0', f1', f5, ty33, ty31, ty3, ty22, ty4, b, gg1, gg2, row1, row2, hc, wrap_small]
      exact LoopG_normal (k - 1) (by omega) ⟨i + 1, by omega, by omega, f0, f1, rfl, rfl, by rw [← fu, hq]; rfl⟩
theorem ref_same (H : Heap) (lo : Nat) (v1 v2 : Value) (l : List EvD) (hlo : lo ≤ H.next) (hn : l.length ≤ 2000000) (h1 : EvsR H lo v1 l) (h2 : EvsR H lo v2 l) : CL Try.prog lib0 15 [v1, v2] H = some (.bool true, none) := by
  obtain ⟨a1, c1, rfl⟩ := h1.slice
  obtain ⟨a2, c2, rfl⟩ := h2.slice
  have hz : Heap.next ⟨H.bs, H.next⟩ = H.next := rfl
  rw [CL_light fn15 rfl _ (by simp)]
  simp (config := {maxSteps := 20000000, dsimp := false}) (disch := first | omega | (simp only [low_push, low_put, next_push, next_put, next_mk, len_next, List.length_cons, List.length_nil] <;> omega) | fail) only [↓rpre, rpost1, rpost2, rpost3, rpost4, rpost5, envOf, ↓reduceIte, Nat.reduceEqDiff, List.getElem?_toArray, List.getElem?_cons_zero, List.getElem?_cons_succ, reduceCtorEq, Nat.reduceAdd, Nat.reduceSub, Nat.reduceMul, Nat.reduceLeDiff, Nat.reduceLT, Nat.reduceDiv, Nat.reduceMod, Int.reduceEq, Int.reduceNe, Int.reduceLT, Int.reduceLE, Int.reduceGT, Int.reduceGE, Int.reduceAdd, Int.reduceSub, Int.reduceMul, Int.reduceNeg, Int.reduceToNat , ty22, ty3]
  refine after_prop (F := fun z => bodyRet _ _ _ (thenDo (inBlock 0 z) _) = _) (sames_loop ⟨H.bs, H.next⟩ lo _ _ l l rfl hlo hn (h1.mono (fun _ _ => rfl) (Nat.le_refl _)) (h2.mono (fun _ _ => rfl) (Nat.le_refl _)) true l.length _ _ ⟨0, rfl, by omega, rfl, rfl, rfl, rfl, eqEvs_refl _⟩) ?_
  rintro o e' H' ⟨hH, ⟨ho, hr⟩ | ⟨ho, h4, hr⟩⟩
  · simp (config := {maxSteps := 20000000, dsimp := false}) (disch := first | omega | (simp only [low_push, low_put, next_push, next_put, next_mk, len_next, List.length_cons, List.length_nil] <;> omega) | fail) only [↓rpre, rpost1, rpost2, rpost3, rpost4, rpost5, envOf, ↓reduceIte, Nat.reduceEqDiff, List.getElem?_toArray, List.getElem?_cons_zero, List.getElem?_cons_succ, reduceCtorEq, Nat.reduceAdd, Nat.reduceSub, Nat.reduceMul, Nat.reduceLeDiff, Nat.reduceLT, Nat.reduceDiv, Nat.reduceMod, Int.reduceEq, Int.reduceNe, Int.reduceLT, Int.reduceLE, Int.reduceGT, Int.reduceGE, Int.reduceAdd, Int.reduceSub, Int.reduceMul, Int.reduceNeg, Int.reduceToNat , ho, hH]
  · cases hr
end Go.Proofs.Ytcpolfjnbbodgaa.Ve
