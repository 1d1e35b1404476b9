/- The runs of the package utf's functions. Conditions: none here. -/
import Derived.Test.YtcpolfjnbbodgaaChar
namespace Go.Proofs.Ytcpolfjnbbodgaa.Ve
open Go Go.RowKit
set_option linter.unusedVariables false
set_option linter.unusedSimpArgs false
set_option maxRecDepth 100000
set_option maxHeartbeats 0

def uForms : List Value := [.int .u8 128, .int .u8 0, .int .i32 0, .int .u8 224, .int .u8 192, .int .i32 128, .int .u8 240, .int .u8 224, .int .i32 2048, .int .u8 248, .int .u8 240, .int .i32 65536]
theorem utf_forms (H : Heap) : CL Try.prog lib0 46 [] H = some (.agg uForms.toArray, none) := by
  rw [CL_light fn46 rfl _ (by simp)]
  simp (config := {maxSteps := 20000000, dsimp := false}) (disch := first | omega | (simp only [low_push, low_put, next_push, next_put, next_mk, len_next, List.length_cons, List.length_nil] <;> omega) | fail) only [↓rpre, rpost1, rpost2, rpost3, rpost4, rpost5, envOf, ↓reduceIte, Nat.reduceEqDiff, List.getElem?_toArray, List.getElem?_cons_zero, List.getElem?_cons_succ, reduceCtorEq, Nat.reduceAdd, Nat.reduceSub, Nat.reduceMul, Nat.reduceLeDiff, Nat.reduceLT, Nat.reduceDiv, Nat.reduceMod, Int.reduceEq, Int.reduceNe, Int.reduceLT, Int.reduceLE, Int.reduceGT, Int.reduceGE, Int.reduceAdd, Int.reduceSub, Int.reduceMul, Int.reduceNeg, Int.reduceToNat , ty75, ty74, ty5, ty21]
  rfl
def uSpan (v : Int) (tails : Int) : Int × Int :=
  (IntKind.wrap .i32 (v * 2 ^ min (6 * tails).toNat 32), Go.bits .or .i32 (IntKind.wrap .i32 (v * 2 ^ min (6 * tails).toNat 32)) (IntKind.wrap .i32 (IntKind.wrap .i32 (1 * 2 ^ min (6 * tails).toNat 32) - 1)))
theorem utf_span (H : Heap) (v t : Int) (h0 : 0 ≤ t) (h1 : t ≤ 4) : CL Try.prog lib0 47 [.int .i32 v, .int .i64 t] H = some (.tuple #[.int .i32 (uSpan v t).1, .int .i32 (uSpan v t).2], none) := by
  rw [CL_light fn47 rfl _ (by simp)]
  have hw : IntKind.wrap .i64 (6 * t) = 6 * t := wrap_small (by omega) (by omega)
  simp (config := {maxSteps := 20000000, dsimp := false}) (disch := first | omega | (simp only [low_push, low_put, next_push, next_put, next_mk, len_next, List.length_cons, List.length_nil] <;> omega) | fail) only [↓rpre, rpost1, rpost2, rpost3, rpost4, rpost5, envOf, ↓reduceIte, Nat.reduceEqDiff, List.getElem?_toArray, List.getElem?_cons_zero, List.getElem?_cons_succ, reduceCtorEq, Nat.reduceAdd, Nat.reduceSub, Nat.reduceMul, Nat.reduceLeDiff, Nat.reduceLT, Nat.reduceDiv, Nat.reduceMod, Int.reduceEq, Int.reduceNe, Int.reduceLT, Int.reduceLE, Int.reduceGT, Int.reduceGE, Int.reduceAdd, Int.reduceSub, Int.reduceMul, Int.reduceNeg, Int.reduceToNat , hw, bin_shl]
  rfl

def uMore (s : ByteArray) (at_ n : Nat) : Nat → Int → Nat → Int × Nat
  | 0, v, h => (v, h)
  | k + 1, v, h =>
    if at_ + h < s.size ∧ Go.bits .and .u8 (strAt s (at_ + h)) 192 = 128 then
      uMore s at_ n k (Go.bits .or .i32 (IntKind.wrap .i32 (v * 2 ^ min (Int.toNat 6) 32)) (IntKind.wrap .i32 (Go.bits .and .u8 (strAt s (at_ + h)) 63))) (h + 1)
    else (v, h)
def uEnd (s : ByteArray) (at_ n : Nat) (least v : Int) (h : Nat) : Int × Int × Int :=
  if (uSpan v (n + 1 - h)).2 < least ∨ 1114111 < (uSpan v (n + 1 - h)).1 ∨ (55296 ≤ (uSpan v (n + 1 - h)).1 ∧ (uSpan v (n + 1 - h)).2 ≤ 57343) then (0, 0, 2)
  else if h = n + 1 then (v, h, 0) else if at_ + h = s.size then (0, 0, 7) else (0, 0, 2)
def uForm : Nat → Int × Int × Int
  | 0 => (128, 0, 0)
  | 1 => (224, 192, 128)
  | 2 => (240, 224, 2048)
  | _ => (248, 240, 65536)
def uFrom (s : ByteArray) (at_ : Nat) : Nat → Nat → Int × Int × Int
  | 0, _ => (0, 0, 2)
  | k + 1, i =>
    if Go.bits .and .u8 (strAt s at_) (uForm i).1 = (uForm i).2.1 then
      uEnd s at_ i (uForm i).2.2 (uMore s at_ i i (IntKind.wrap .i32 (Go.bits .andNot .u8 (strAt s at_) (uForm i).1)) 1).1 (uMore s at_ i i (IntKind.wrap .i32 (Go.bits .andNot .u8 (strAt s at_) (uForm i).1)) 1).2
    else uFrom s at_ k (i + 1)
def uRune (s : ByteArray) (at_ : Nat) : Int × Int × Int := if at_ < s.size then uFrom s at_ 4 0 else (0, 0, 7)
theorem uForms_at (i : Nat) (h : i < 4) : (uForms.drop (i * 3)).take 3 = [.int .u8 (uForm i).1, .int .u8 (uForm i).2.1, .int .i32 (uForm i).2.2] := by
  match i, h with
  | 0, _ => rfl
  | 1, _ => rfl
  | 2, _ => rfl
  | 3, _ => rfl
def res3 (q : Int × Int × Int) : Option (Value × Option Heap) := some (.tuple #[.int .i32 q.1, .int .i64 q.2.1, .int .i64 q.2.2], none)


/-- the loop over the tails -/
def uInv (s : ByteArray) (at_ i lo pb : Nat) (e : Env) (H2 : Heap) (v : Int) (h : Nat) : Prop :=
  1 ≤ h ∧ h ≤ i + 1 ∧ e.get 0 = .string s ∧ e.get 1 = .int .i64 at_ ∧ e.get 7 = .int .i64 i ∧ e.get 8 = .pointer (some ⟨pb, 0, none⟩) ∧ e.get 9 = .int .i32 v ∧ e.get 10 = .int .i64 h ∧
  H2.get pb = some (.cells [.int .u8 (uForm i).1, .int .u8 (uForm i).2.1, .int .i32 (uForm i).2.2] true 1) ∧ lo ≤ H2.low ∧ lo ≤ H2.next
theorem utf_tails (s : ByteArray) (at_ i lo pb : Nat) (hs : s.size ≤ 1048576) (ha : at_ ≤ 1048576) (hi4 : i < 4) (r : Int × Nat) : ∀ n e H2, (∃ v h, n = i + 1 - h ∧ uInv s at_ i lo pb e H2 v h ∧ uMore s at_ i (i + 1 - h) v h = r) →
    After (LE Try.prog lib0 (.loop f39b0) e H2) (fun o e H2 => o = .exit 2 ∧ uInv s at_ i lo pb e H2 r.1 r.2) := by
  refine loopL_after _ _ ?_
  rintro k e H2 ⟨v, h, hk, ⟨hh1, hh2, f0, f1, f7, f8, f9, f10, fg, fl, fn⟩, fu⟩
  simp (config := {maxSteps := 20000000, dsimp := false}) (disch := first | omega | (simp only [low_push, low_put, next_push, next_put, next_mk, len_next, List.length_cons, List.length_nil] <;> omega) | fail) only [↓rpre, rpost1, rpost2, rpost3, rpost4, rpost5, envOf, ↓reduceIte, Nat.reduceEqDiff, List.getElem?_toArray, List.getElem?_cons_zero, List.getElem?_cons_succ, reduceCtorEq, Nat.reduceAdd, Nat.reduceSub, Nat.reduceMul, Nat.reduceLeDiff, Nat.reduceLT, Nat.reduceDiv, Nat.reduceMod, Int.reduceEq, Int.reduceNe, Int.reduceLT, Int.reduceLE, Int.reduceGT, Int.reduceGE, Int.reduceAdd, Int.reduceSub, Int.reduceMul, Int.reduceNeg, Int.reduceToNat , f0, f1, f7, f9, f10, wrap_small, ty9]
  by_cases hc1 : h ≤ i
  · have hc1' : (h : Int) ≤ i := by omega
    have hfu : i + 1 - h = (i - h) + 1 := by omega
    rw [hfu, uMore] at fu
    simp (config := {maxSteps := 20000000, dsimp := false}) (disch := first | omega | (simp only [low_push, low_put, next_push, next_put, next_mk, len_next, List.length_cons, List.length_nil] <;> omega) | fail) only [↓rpre, rpost1, rpost2, rpost3, rpost4, rpost5, envOf, ↓reduceIte, Nat.reduceEqDiff, List.getElem?_toArray, List.getElem?_cons_zero, List.getElem?_cons_succ, reduceCtorEq, Nat.reduceAdd, Nat.reduceSub, Nat.reduceMul, Nat.reduceLeDiff, Nat.reduceLT, Nat.reduceDiv, Nat.reduceMod, Int.reduceEq, Int.reduceNe, Int.reduceLT, Int.reduceLE, Int.reduceGT, Int.reduceGE, Int.reduceAdd, Int.reduceSub, Int.reduceMul, Int.reduceNeg, Int.reduceToNat , hc1', f0, f1, f10, wrap_small, ty9]
    by_cases hc2 : at_ + h < s.size
    · have hc2' : (at_ : Int) + h < s.size := by omega
      have hnat : ((at_ : Int) + h).toNat = at_ + h := by omega
      simp (config := {maxSteps := 20000000, dsimp := false}) (disch := first | omega | (simp only [low_push, low_put, next_push, next_put, next_mk, len_next, List.length_cons, List.length_nil] <;> omega) | fail) only [↓rpre, rpost1, rpost2, rpost3, rpost4, rpost5, envOf, ↓reduceIte, Nat.reduceEqDiff, List.getElem?_toArray, List.getElem?_cons_zero, List.getElem?_cons_succ, reduceCtorEq, Nat.reduceAdd, Nat.reduceSub, Nat.reduceMul, Nat.reduceLeDiff, Nat.reduceLT, Nat.reduceDiv, Nat.reduceMod, Int.reduceEq, Int.reduceNe, Int.reduceLT, Int.reduceLE, Int.reduceGT, Int.reduceGE, Int.reduceAdd, Int.reduceSub, Int.reduceMul, Int.reduceNeg, Int.reduceToNat , hc1', hc2', f0, f1, f10, wrap_small, ty9, ty5, hnat]
      by_cases hc3 : Go.bits .and .u8 (strAt s (at_ + h)) 192 = 128
      · rw [if_pos ⟨hc2, hc3⟩] at fu
        simp (config := {maxSteps := 20000000, dsimp := false}) (disch := first | omega | (simp only [low_push, low_put, next_push, next_put, next_mk, len_next, List.length_cons, List.length_nil] <;> omega) | fail) only [↓rpre, rpost1, rpost2, rpost3, rpost4, rpost5, envOf, ↓reduceIte, Nat.reduceEqDiff, List.getElem?_toArray, List.getElem?_cons_zero, List.getElem?_cons_succ, reduceCtorEq, Nat.reduceAdd, Nat.reduceSub, Nat.reduceMul, Nat.reduceLeDiff, Nat.reduceLT, Nat.reduceDiv, Nat.reduceMod, Int.reduceEq, Int.reduceNe, Int.reduceLT, Int.reduceLE, Int.reduceGT, Int.reduceGE, Int.reduceAdd, Int.reduceSub, Int.reduceMul, Int.reduceNeg, Int.reduceToNat , hc3, f0, f1, f7, f8, f9, f10, wrap_small, ty9, ty5, ty21, ty3, bin_shl, hnat]
        refine LoopG_normal (k - 1) (by omega) ⟨Go.bits .or .i32 (IntKind.wrap .i32 (v * 2 ^ min (Int.toNat 6) 32)) (IntKind.wrap .i32 (Go.bits .and .u8 (strAt s (at_ + h)) 63)), h + 1, by omega, ⟨by omega, by omega, ?_, ?_, ?_, ?_, ?_, ?_, fg, fl, fn⟩, ?_⟩
        all_goals (try simp (config := {maxSteps := 20000000, dsimp := false}) (disch := first | omega | (simp only [low_push, low_put, next_push, next_put, next_mk, len_next, List.length_cons, List.length_nil] <;> omega) | fail) only [↓rpre, rpost1, rpost2, rpost3, rpost4, rpost5, envOf, ↓reduceIte, Nat.reduceEqDiff, List.getElem?_toArray, List.getElem?_cons_zero, List.getElem?_cons_succ, reduceCtorEq, Nat.reduceAdd, Nat.reduceSub, Nat.reduceMul, Nat.reduceLeDiff, Nat.reduceLT, Nat.reduceDiv, Nat.reduceMod, Int.reduceEq, Int.reduceNe, Int.reduceLT, Int.reduceLE, Int.reduceGT, Int.reduceGE, Int.reduceAdd, Int.reduceSub, Int.reduceMul, Int.reduceNeg, Int.reduceToNat , f0, f1, f7, f8, f9, f10])
        all_goals (try rfl)
        rw [← fu]; congr 1; omega
      · rw [if_neg (fun q => hc3 q.2)] at fu
        simp (config := {maxSteps := 20000000, dsimp := false}) (disch := first | omega | (simp only [low_push, low_put, next_push, next_put, next_mk, len_next, List.length_cons, List.length_nil] <;> omega) | fail) only [↓rpre, rpost1, rpost2, rpost3, rpost4, rpost5, envOf, ↓reduceIte, Nat.reduceEqDiff, List.getElem?_toArray, List.getElem?_cons_zero, List.getElem?_cons_succ, reduceCtorEq, Nat.reduceAdd, Nat.reduceSub, Nat.reduceMul, Nat.reduceLeDiff, Nat.reduceLT, Nat.reduceDiv, Nat.reduceMod, Int.reduceEq, Int.reduceNe, Int.reduceLT, Int.reduceLE, Int.reduceGT, Int.reduceGE, Int.reduceAdd, Int.reduceSub, Int.reduceMul, Int.reduceNeg, Int.reduceToNat , hc3]
        refine LoopG_exit (fu ▸ ⟨rfl, hh1, hh2, ?_, ?_, ?_, ?_, ?_, ?_, fg, fl, fn⟩)
        all_goals (try simp (config := {maxSteps := 20000000, dsimp := false}) (disch := first | omega | (simp only [low_push, low_put, next_push, next_put, next_mk, len_next, List.length_cons, List.length_nil] <;> omega) | fail) only [↓rpre, rpost1, rpost2, rpost3, rpost4, rpost5, envOf, ↓reduceIte, Nat.reduceEqDiff, List.getElem?_toArray, List.getElem?_cons_zero, List.getElem?_cons_succ, reduceCtorEq, Nat.reduceAdd, Nat.reduceSub, Nat.reduceMul, Nat.reduceLeDiff, Nat.reduceLT, Nat.reduceDiv, Nat.reduceMod, Int.reduceEq, Int.reduceNe, Int.reduceLT, Int.reduceLE, Int.reduceGT, Int.reduceGE, Int.reduceAdd, Int.reduceSub, Int.reduceMul, Int.reduceNeg, Int.reduceToNat , f0, f1, f7, f8, f9, f10])
    · have hc2' : ¬ (at_ : Int) + h < s.size := by omega
      rw [if_neg (fun q => hc2 q.1)] at fu
      simp (config := {maxSteps := 20000000, dsimp := false}) (disch := first | omega | (simp only [low_push, low_put, next_push, next_put, next_mk, len_next, List.length_cons, List.length_nil] <;> omega) | fail) only [↓rpre, rpost1, rpost2, rpost3, rpost4, rpost5, envOf, ↓reduceIte, Nat.reduceEqDiff, List.getElem?_toArray, List.getElem?_cons_zero, List.getElem?_cons_succ, reduceCtorEq, Nat.reduceAdd, Nat.reduceSub, Nat.reduceMul, Nat.reduceLeDiff, Nat.reduceLT, Nat.reduceDiv, Nat.reduceMod, Int.reduceEq, Int.reduceNe, Int.reduceLT, Int.reduceLE, Int.reduceGT, Int.reduceGE, Int.reduceAdd, Int.reduceSub, Int.reduceMul, Int.reduceNeg, Int.reduceToNat , hc1', hc2', f0, f1, f10, wrap_small, ty9, ty5]
      refine LoopG_exit (fu ▸ ⟨rfl, hh1, hh2, ?_, ?_, ?_, ?_, ?_, ?_, fg, fl, fn⟩)
      all_goals (try simp (config := {maxSteps := 20000000, dsimp := false}) (disch := first | omega | (simp only [low_push, low_put, next_push, next_put, next_mk, len_next, List.length_cons, List.length_nil] <;> omega) | fail) only [↓rpre, rpost1, rpost2, rpost3, rpost4, rpost5, envOf, ↓reduceIte, Nat.reduceEqDiff, List.getElem?_toArray, List.getElem?_cons_zero, List.getElem?_cons_succ, reduceCtorEq, Nat.reduceAdd, Nat.reduceSub, Nat.reduceMul, Nat.reduceLeDiff, Nat.reduceLT, Nat.reduceDiv, Nat.reduceMod, Int.reduceEq, Int.reduceNe, Int.reduceLT, Int.reduceLE, Int.reduceGT, Int.reduceGE, Int.reduceAdd, Int.reduceSub, Int.reduceMul, Int.reduceNeg, Int.reduceToNat , f0, f1, f7, f8, f9, f10])
  · have hc1' : ¬ (h : Int) ≤ i := by omega
    have hfu : i + 1 - h = 0 := by omega
    rw [hfu, uMore] at fu
    simp (config := {maxSteps := 20000000, dsimp := false}) (disch := first | omega | (simp only [low_push, low_put, next_push, next_put, next_mk, len_next, List.length_cons, List.length_nil] <;> omega) | fail) only [↓rpre, rpost1, rpost2, rpost3, rpost4, rpost5, envOf, ↓reduceIte, Nat.reduceEqDiff, List.getElem?_toArray, List.getElem?_cons_zero, List.getElem?_cons_succ, reduceCtorEq, Nat.reduceAdd, Nat.reduceSub, Nat.reduceMul, Nat.reduceLeDiff, Nat.reduceLT, Nat.reduceDiv, Nat.reduceMod, Int.reduceEq, Int.reduceNe, Int.reduceLT, Int.reduceLE, Int.reduceGT, Int.reduceGE, Int.reduceAdd, Int.reduceSub, Int.reduceMul, Int.reduceNeg, Int.reduceToNat , hc1', f0, f1, f7, f8, f9, f10, wrap_small, ty9, ty5, ty21, ty3]
    refine LoopG_exit (fu ▸ ⟨rfl, hh1, hh2, ?_, ?_, ?_, ?_, ?_, ?_, fg, fl, fn⟩)
    all_goals (try simp (config := {maxSteps := 20000000, dsimp := false}) (disch := first | omega | (simp only [low_push, low_put, next_push, next_put, next_mk, len_next, List.length_cons, List.length_nil] <;> omega) | fail) only [↓rpre, rpost1, rpost2, rpost3, rpost4, rpost5, envOf, ↓reduceIte, Nat.reduceEqDiff, List.getElem?_toArray, List.getElem?_cons_zero, List.getElem?_cons_succ, reduceCtorEq, Nat.reduceAdd, Nat.reduceSub, Nat.reduceMul, Nat.reduceLeDiff, Nat.reduceLT, Nat.reduceDiv, Nat.reduceMod, Int.reduceEq, Int.reduceNe, Int.reduceLT, Int.reduceLE, Int.reduceGT, Int.reduceGE, Int.reduceAdd, Int.reduceSub, Int.reduceMul, Int.reduceNeg, Int.reduceToNat , f0, f1, f7, f8, f9, f10])

/-- what is answered of a rune -/
def uRet (lo : Nat) (q : Int × Int × Int) (o : Out) (e : Env) (H : Heap) : Prop := o = .ret ∧ e.get 4 = .int .i32 q.1 ∧ e.get 5 = .int .i64 q.2.1 ∧ e.get 6 = .int .i64 q.2.2 ∧ lo ≤ H.low
def uTail (s : ByteArray) (at_ i : Nat) (v : Int) (h : Nat) : Int × Int × Int := if h = i + 1 then (v, h, 0) else if at_ + h = s.size then (0, 0, 7) else (0, 0, 2)
theorem utf_tail (s : ByteArray) (at_ i lo pb : Nat) (c : Bool) (hs : s.size ≤ 1048576) (ha : at_ ≤ 1048576) (hi4 : i < 4) (e : Env) (H2 : Heap) (v : Int) (h : Nat) (h83 : e.get 83 = .bool c) (hI : uInv s at_ i lo pb e H2 v h) :
    After (LE Try.prog lib0 f39k5 e H2) (fun o e H => (o = .normal ∧ lo ≤ H.low ∧ (if c then (0, 0, 2) else uTail s at_ i v h) = (0, 0, 2)) ∨ uRet lo (if c then (0, 0, 2) else uTail s at_ i v h) o e H) := by
  obtain ⟨hh1, hh2, f0, f1, f7, f8, f9, f10, fg, fl, fn⟩ := hI
  rw [f39k5]
  cases c with
  | true =>
    simp (config := {maxSteps := 20000000, dsimp := false}) (disch := first | omega | (simp only [low_push, low_put, next_push, next_put, next_mk, len_next, List.length_cons, List.length_nil] <;> omega) | fail) only [↓rpre, rpost1, rpost2, rpost3, rpost4, rpost5, envOf, ↓reduceIte, Nat.reduceEqDiff, List.getElem?_toArray, List.getElem?_cons_zero, List.getElem?_cons_succ, reduceCtorEq, Nat.reduceAdd, Nat.reduceSub, Nat.reduceMul, Nat.reduceLeDiff, Nat.reduceLT, Nat.reduceDiv, Nat.reduceMod, Int.reduceEq, Int.reduceNe, Int.reduceLT, Int.reduceLE, Int.reduceGT, Int.reduceGE, Int.reduceAdd, Int.reduceSub, Int.reduceMul, Int.reduceNeg, Int.reduceToNat , h83]
    exact .inr ⟨rfl, rfl, rfl, rfl, fl⟩
  | false =>
    simp (config := {maxSteps := 20000000, dsimp := false}) (disch := first | omega | (simp only [low_push, low_put, next_push, next_put, next_mk, len_next, List.length_cons, List.length_nil] <;> omega) | fail) only [↓rpre, rpost1, rpost2, rpost3, rpost4, rpost5, envOf, ↓reduceIte, Nat.reduceEqDiff, List.getElem?_toArray, List.getElem?_cons_zero, List.getElem?_cons_succ, reduceCtorEq, Nat.reduceAdd, Nat.reduceSub, Nat.reduceMul, Nat.reduceLeDiff, Nat.reduceLT, Nat.reduceDiv, Nat.reduceMod, Int.reduceEq, Int.reduceNe, Int.reduceLT, Int.reduceLE, Int.reduceGT, Int.reduceGE, Int.reduceAdd, Int.reduceSub, Int.reduceMul, Int.reduceNeg, Int.reduceToNat , h83, f0, f1, f7, f9, f10, wrap_small, ty9]
    rw [uTail]
    by_cases k4 : h = i + 1
    · have k4' : (h : Int) = i + 1 := by omega
      simp (config := {maxSteps := 20000000, dsimp := false}) (disch := first | omega | (simp only [low_push, low_put, next_push, next_put, next_mk, len_next, List.length_cons, List.length_nil] <;> omega) | fail) only [↓rpre, rpost1, rpost2, rpost3, rpost4, rpost5, envOf, ↓reduceIte, Nat.reduceEqDiff, List.getElem?_toArray, List.getElem?_cons_zero, List.getElem?_cons_succ, reduceCtorEq, Nat.reduceAdd, Nat.reduceSub, Nat.reduceMul, Nat.reduceLeDiff, Nat.reduceLT, Nat.reduceDiv, Nat.reduceMod, Int.reduceEq, Int.reduceNe, Int.reduceLT, Int.reduceLE, Int.reduceGT, Int.reduceGE, Int.reduceAdd, Int.reduceSub, Int.reduceMul, Int.reduceNeg, Int.reduceToNat , k4', f0, f1, f7, f9, f10, wrap_small, ty9]
      refine .inr ?_
      rw [if_pos k4]
      exact ⟨rfl, rfl, rfl, rfl, fl⟩
    have k4' : ¬ (h : Int) = i + 1 := by omega
    simp (config := {maxSteps := 20000000, dsimp := false}) (disch := first | omega | (simp only [low_push, low_put, next_push, next_put, next_mk, len_next, List.length_cons, List.length_nil] <;> omega) | fail) only [↓rpre, rpost1, rpost2, rpost3, rpost4, rpost5, envOf, ↓reduceIte, Nat.reduceEqDiff, List.getElem?_toArray, List.getElem?_cons_zero, List.getElem?_cons_succ, reduceCtorEq, Nat.reduceAdd, Nat.reduceSub, Nat.reduceMul, Nat.reduceLeDiff, Nat.reduceLT, Nat.reduceDiv, Nat.reduceMod, Int.reduceEq, Int.reduceNe, Int.reduceLT, Int.reduceLE, Int.reduceGT, Int.reduceGE, Int.reduceAdd, Int.reduceSub, Int.reduceMul, Int.reduceNeg, Int.reduceToNat , k4', f0, f1, f7, f9, f10, wrap_small, ty9]
    rw [if_neg k4]
    by_cases k5 : at_ + h = s.size
    · have k5' : (at_ : Int) + h = s.size := by omega
      simp (config := {maxSteps := 20000000, dsimp := false}) (disch := first | omega | (simp only [low_push, low_put, next_push, next_put, next_mk, len_next, List.length_cons, List.length_nil] <;> omega) | fail) only [↓rpre, rpost1, rpost2, rpost3, rpost4, rpost5, envOf, ↓reduceIte, Nat.reduceEqDiff, List.getElem?_toArray, List.getElem?_cons_zero, List.getElem?_cons_succ, reduceCtorEq, Nat.reduceAdd, Nat.reduceSub, Nat.reduceMul, Nat.reduceLeDiff, Nat.reduceLT, Nat.reduceDiv, Nat.reduceMod, Int.reduceEq, Int.reduceNe, Int.reduceLT, Int.reduceLE, Int.reduceGT, Int.reduceGE, Int.reduceAdd, Int.reduceSub, Int.reduceMul, Int.reduceNeg, Int.reduceToNat , k5']
      refine .inr ?_
      rw [if_pos k5]
      exact ⟨rfl, rfl, rfl, rfl, fl⟩
    · have k5' : ¬ (at_ : Int) + h = s.size := by omega
      simp (config := {maxSteps := 20000000, dsimp := false}) (disch := first | omega | (simp only [low_push, low_put, next_push, next_put, next_mk, len_next, List.length_cons, List.length_nil] <;> omega) | fail) only [↓rpre, rpost1, rpost2, rpost3, rpost4, rpost5, envOf, ↓reduceIte, Nat.reduceEqDiff, List.getElem?_toArray, List.getElem?_cons_zero, List.getElem?_cons_succ, reduceCtorEq, Nat.reduceAdd, Nat.reduceSub, Nat.reduceMul, Nat.reduceLeDiff, Nat.reduceLT, Nat.reduceDiv, Nat.reduceMod, Int.reduceEq, Int.reduceNe, Int.reduceLT, Int.reduceLE, Int.reduceGT, Int.reduceGE, Int.reduceAdd, Int.reduceSub, Int.reduceMul, Int.reduceNeg, Int.reduceToNat , k5']
      rw [if_neg k5]
      refine .inl ?_
      first | exact ⟨rfl, fl, rfl⟩ | exact ⟨fl, rfl⟩ | exact fl
/-- the end of a form: which answers -/
theorem uEnd_eq (s : ByteArray) (at_ i : Nat) (least v : Int) (h : Nat) (c : Bool) (hc : c = true ↔ ((uSpan v (i + 1 - h)).2 < least ∨ 1114111 < (uSpan v (i + 1 - h)).1 ∨ (55296 ≤ (uSpan v (i + 1 - h)).1 ∧ (uSpan v (i + 1 - h)).2 ≤ 57343))) :
    uEnd s at_ i least v h = if c then (0, 0, 2) else uTail s at_ i v h := by
  rw [uEnd, uTail]
  cases c
  · rw [if_neg (fun q => by simpa using hc.2 q)]; simp
  · rw [if_pos (hc.1 rfl)]; simp
theorem utf_end (s : ByteArray) (at_ i lo pb : Nat) (hs : s.size ≤ 1048576) (ha : at_ ≤ 1048576) (hi4 : i < 4) (e : Env) (H2 : Heap) (v : Int) (h : Nat) (hI : uInv s at_ i lo pb e H2 v h) :
    After (LE Try.prog lib0 f39k8 e H2) (uRet lo (uEnd s at_ i (uForm i).2.2 v h)) := by
  obtain ⟨hh1, hh2, f0, f1, f7, f8, f9, f10, fg, fl, fn⟩ := hI
  have go : ∀ (c : Bool) (e : Env) (H2 : Heap), e.get 83 = .bool c → uInv s at_ i lo pb e H2 v h → (c = true ↔ ((uSpan v (i + 1 - h)).2 < (uForm i).2.2 ∨ 1114111 < (uSpan v (i + 1 - h)).1 ∨ (55296 ≤ (uSpan v (i + 1 - h)).1 ∧ (uSpan v (i + 1 - h)).2 ≤ 57343))) →
      After (thenDo (inBlock 4 (LE Try.prog lib0 f39k5 e H2)) (LE Try.prog lib0 f39k6)) (uRet lo (uEnd s at_ i (uForm i).2.2 v h)) := by
    intro c e H2 h83 hI hc
    rw [uEnd_eq _ _ _ _ _ _ c hc]
    refine after_then (F := fun z => thenDo (inBlock 4 z) (LE Try.prog lib0 f39k6)) (utf_tail s at_ i lo pb c hs ha hi4 e H2 v h h83 hI) ?_
    intro o e' H' hq
    rcases hq with ⟨ho, hl, hq⟩ | ⟨ho, q⟩
    · simp (config := {maxSteps := 20000000, dsimp := false}) (disch := first | omega | (simp only [low_push, low_put, next_push, next_put, next_mk, len_next, List.length_cons, List.length_nil] <;> omega) | fail) only [↓rpre, rpost1, rpost2, rpost3, rpost4, rpost5, envOf, ↓reduceIte, Nat.reduceEqDiff, List.getElem?_toArray, List.getElem?_cons_zero, List.getElem?_cons_succ, reduceCtorEq, Nat.reduceAdd, Nat.reduceSub, Nat.reduceMul, Nat.reduceLeDiff, Nat.reduceLT, Nat.reduceDiv, Nat.reduceMod, Int.reduceEq, Int.reduceNe, Int.reduceLT, Int.reduceLE, Int.reduceGT, Int.reduceGE, Int.reduceAdd, Int.reduceSub, Int.reduceMul, Int.reduceNeg, Int.reduceToNat , ho]
      rw [hq]
      exact ⟨rfl, rfl, rfl, rfl, hl⟩
    · simp (config := {maxSteps := 20000000, dsimp := false}) (disch := first | omega | (simp only [low_push, low_put, next_push, next_put, next_mk, len_next, List.length_cons, List.length_nil] <;> omega) | fail) only [↓rpre, rpost1, rpost2, rpost3, rpost4, rpost5, envOf, ↓reduceIte, Nat.reduceEqDiff, List.getElem?_toArray, List.getElem?_cons_zero, List.getElem?_cons_succ, reduceCtorEq, Nat.reduceAdd, Nat.reduceSub, Nat.reduceMul, Nat.reduceLeDiff, Nat.reduceLT, Nat.reduceDiv, Nat.reduceMod, Int.reduceEq, Int.reduceNe, Int.reduceLT, Int.reduceLE, Int.reduceGT, Int.reduceGE, Int.reduceAdd, Int.reduceSub, Int.reduceMul, Int.reduceNeg, Int.reduceToNat , ho]
      exact ⟨rfl, q⟩
  rw [f39k8]
  simp (config := {maxSteps := 20000000, dsimp := false}) (disch := first | omega | (simp only [low_push, low_put, next_push, next_put, next_mk, len_next, List.length_cons, List.length_nil] <;> omega) | fail) only [↓rpre, rpost1, rpost2, rpost3, rpost4, rpost5, envOf, ↓reduceIte, Nat.reduceEqDiff, List.getElem?_toArray, List.getElem?_cons_zero, List.getElem?_cons_succ, reduceCtorEq, Nat.reduceAdd, Nat.reduceSub, Nat.reduceMul, Nat.reduceLeDiff, Nat.reduceLT, Nat.reduceDiv, Nat.reduceMod, Int.reduceEq, Int.reduceNe, Int.reduceLT, Int.reduceLE, Int.reduceGT, Int.reduceGE, Int.reduceAdd, Int.reduceSub, Int.reduceMul, Int.reduceNeg, Int.reduceToNat , f0, f1, f7, f8, f9, f10, fg, wrap_small, ty9, ty5, ty21, ty3, ty74, utf_span]
  generalize uSpan v (i + 1 - h) = us at go ⊢
  by_cases k1 : (us).2 < (uForm i).2.2
  · simp (config := {maxSteps := 20000000, dsimp := false}) (disch := first | omega | (simp only [low_push, low_put, next_push, next_put, next_mk, len_next, List.length_cons, List.length_nil] <;> omega) | fail) only [↓rpre, rpost1, rpost2, rpost3, rpost4, rpost5, envOf, ↓reduceIte, Nat.reduceEqDiff, List.getElem?_toArray, List.getElem?_cons_zero, List.getElem?_cons_succ, reduceCtorEq, Nat.reduceAdd, Nat.reduceSub, Nat.reduceMul, Nat.reduceLeDiff, Nat.reduceLT, Nat.reduceDiv, Nat.reduceMod, Int.reduceEq, Int.reduceNe, Int.reduceLT, Int.reduceLE, Int.reduceGT, Int.reduceGE, Int.reduceAdd, Int.reduceSub, Int.reduceMul, Int.reduceNeg, Int.reduceToNat , k1]
    refine go true _ _ ?_ ⟨hh1, hh2, ?_, ?_, ?_, ?_, ?_, ?_, fg, fl, fn⟩ (by simp [k1])
    all_goals (simp (config := {maxSteps := 20000000, dsimp := false}) (disch := first | omega | (simp only [low_push, low_put, next_push, next_put, next_mk, len_next, List.length_cons, List.length_nil] <;> omega) | fail) only [↓rpre, rpost1, rpost2, rpost3, rpost4, rpost5, envOf, ↓reduceIte, Nat.reduceEqDiff, List.getElem?_toArray, List.getElem?_cons_zero, List.getElem?_cons_succ, reduceCtorEq, Nat.reduceAdd, Nat.reduceSub, Nat.reduceMul, Nat.reduceLeDiff, Nat.reduceLT, Nat.reduceDiv, Nat.reduceMod, Int.reduceEq, Int.reduceNe, Int.reduceLT, Int.reduceLE, Int.reduceGT, Int.reduceGE, Int.reduceAdd, Int.reduceSub, Int.reduceMul, Int.reduceNeg, Int.reduceToNat , f0, f1, f7, f8, f9, f10])
  simp (config := {maxSteps := 20000000, dsimp := false}) (disch := first | omega | (simp only [low_push, low_put, next_push, next_put, next_mk, len_next, List.length_cons, List.length_nil] <;> omega) | fail) only [↓rpre, rpost1, rpost2, rpost3, rpost4, rpost5, envOf, ↓reduceIte, Nat.reduceEqDiff, List.getElem?_toArray, List.getElem?_cons_zero, List.getElem?_cons_succ, reduceCtorEq, Nat.reduceAdd, Nat.reduceSub, Nat.reduceMul, Nat.reduceLeDiff, Nat.reduceLT, Nat.reduceDiv, Nat.reduceMod, Int.reduceEq, Int.reduceNe, Int.reduceLT, Int.reduceLE, Int.reduceGT, Int.reduceGE, Int.reduceAdd, Int.reduceSub, Int.reduceMul, Int.reduceNeg, Int.reduceToNat , k1]
  by_cases k2 : 1114111 < (us).1
  · simp (config := {maxSteps := 20000000, dsimp := false}) (disch := first | omega | (simp only [low_push, low_put, next_push, next_put, next_mk, len_next, List.length_cons, List.length_nil] <;> omega) | fail) only [↓rpre, rpost1, rpost2, rpost3, rpost4, rpost5, envOf, ↓reduceIte, Nat.reduceEqDiff, List.getElem?_toArray, List.getElem?_cons_zero, List.getElem?_cons_succ, reduceCtorEq, Nat.reduceAdd, Nat.reduceSub, Nat.reduceMul, Nat.reduceLeDiff, Nat.reduceLT, Nat.reduceDiv, Nat.reduceMod, Int.reduceEq, Int.reduceNe, Int.reduceLT, Int.reduceLE, Int.reduceGT, Int.reduceGE, Int.reduceAdd, Int.reduceSub, Int.reduceMul, Int.reduceNeg, Int.reduceToNat , k1, k2]
    refine go true _ _ ?_ ⟨hh1, hh2, ?_, ?_, ?_, ?_, ?_, ?_, fg, fl, fn⟩ (by simp [k2])
    all_goals (simp (config := {maxSteps := 20000000, dsimp := false}) (disch := first | omega | (simp only [low_push, low_put, next_push, next_put, next_mk, len_next, List.length_cons, List.length_nil] <;> omega) | fail) only [↓rpre, rpost1, rpost2, rpost3, rpost4, rpost5, envOf, ↓reduceIte, Nat.reduceEqDiff, List.getElem?_toArray, List.getElem?_cons_zero, List.getElem?_cons_succ, reduceCtorEq, Nat.reduceAdd, Nat.reduceSub, Nat.reduceMul, Nat.reduceLeDiff, Nat.reduceLT, Nat.reduceDiv, Nat.reduceMod, Int.reduceEq, Int.reduceNe, Int.reduceLT, Int.reduceLE, Int.reduceGT, Int.reduceGE, Int.reduceAdd, Int.reduceSub, Int.reduceMul, Int.reduceNeg, Int.reduceToNat , f0, f1, f7, f8, f9, f10])
  simp (config := {maxSteps := 20000000, dsimp := false}) (disch := first | omega | (simp only [low_push, low_put, next_push, next_put, next_mk, len_next, List.length_cons, List.length_nil] <;> omega) | fail) only [↓rpre, rpost1, rpost2, rpost3, rpost4, rpost5, envOf, ↓reduceIte, Nat.reduceEqDiff, List.getElem?_toArray, List.getElem?_cons_zero, List.getElem?_cons_succ, reduceCtorEq, Nat.reduceAdd, Nat.reduceSub, Nat.reduceMul, Nat.reduceLeDiff, Nat.reduceLT, Nat.reduceDiv, Nat.reduceMod, Int.reduceEq, Int.reduceNe, Int.reduceLT, Int.reduceLE, Int.reduceGT, Int.reduceGE, Int.reduceAdd, Int.reduceSub, Int.reduceMul, Int.reduceNeg, Int.reduceToNat , k1, k2]
  rcases hb : decide (55296 ≤ us.1) with _ | _
  · have k3a := of_decide_eq_false hb
    simp (config := {maxSteps := 20000000, dsimp := false}) (disch := first | omega | (simp only [low_push, low_put, next_push, next_put, next_mk, len_next, List.length_cons, List.length_nil] <;> omega) | fail) only [↓rpre, rpost1, rpost2, rpost3, rpost4, rpost5, envOf, ↓reduceIte, Nat.reduceEqDiff, List.getElem?_toArray, List.getElem?_cons_zero, List.getElem?_cons_succ, reduceCtorEq, Nat.reduceAdd, Nat.reduceSub, Nat.reduceMul, Nat.reduceLeDiff, Nat.reduceLT, Nat.reduceDiv, Nat.reduceMod, Int.reduceEq, Int.reduceNe, Int.reduceLT, Int.reduceLE, Int.reduceGT, Int.reduceGE, Int.reduceAdd, Int.reduceSub, Int.reduceMul, Int.reduceNeg, Int.reduceToNat , k1, k2]
    refine go false _ _ ?_ ⟨hh1, hh2, ?_, ?_, ?_, ?_, ?_, ?_, fg, fl, fn⟩ ⟨fun q => (Bool.false_ne_true q).elim, fun q => by
      rcases q with q | q | q
      · exact absurd q k1
      · exact absurd q k2
      · exact absurd q.1 k3a⟩
    all_goals (simp (config := {maxSteps := 20000000, dsimp := false}) (disch := first | omega | (simp only [low_push, low_put, next_push, next_put, next_mk, len_next, List.length_cons, List.length_nil] <;> omega) | fail) only [↓rpre, rpost1, rpost2, rpost3, rpost4, rpost5, envOf, ↓reduceIte, Nat.reduceEqDiff, List.getElem?_toArray, List.getElem?_cons_zero, List.getElem?_cons_succ, reduceCtorEq, Nat.reduceAdd, Nat.reduceSub, Nat.reduceMul, Nat.reduceLeDiff, Nat.reduceLT, Nat.reduceDiv, Nat.reduceMod, Int.reduceEq, Int.reduceNe, Int.reduceLT, Int.reduceLE, Int.reduceGT, Int.reduceGE, Int.reduceAdd, Int.reduceSub, Int.reduceMul, Int.reduceNeg, Int.reduceToNat , f0, f1, f7, f8, f9, f10])
  · have k3a := of_decide_eq_true hb
    simp (config := {maxSteps := 20000000, dsimp := false}) (disch := first | omega | (simp only [low_push, low_put, next_push, next_put, next_mk, len_next, List.length_cons, List.length_nil] <;> omega) | fail) only [↓rpre, rpost1, rpost2, rpost3, rpost4, rpost5, envOf, ↓reduceIte, Nat.reduceEqDiff, List.getElem?_toArray, List.getElem?_cons_zero, List.getElem?_cons_succ, reduceCtorEq, Nat.reduceAdd, Nat.reduceSub, Nat.reduceMul, Nat.reduceLeDiff, Nat.reduceLT, Nat.reduceDiv, Nat.reduceMod, Int.reduceEq, Int.reduceNe, Int.reduceLT, Int.reduceLE, Int.reduceGT, Int.reduceGE, Int.reduceAdd, Int.reduceSub, Int.reduceMul, Int.reduceNeg, Int.reduceToNat , k1, k2]
    refine go (decide (us.2 ≤ 57343)) _ _ ?_ ⟨hh1, hh2, ?_, ?_, ?_, ?_, ?_, ?_, fg, fl, fn⟩ (by simp [k1, k2, k3a])
    all_goals (simp (config := {maxSteps := 20000000, dsimp := false}) (disch := first | omega | (simp only [low_push, low_put, next_push, next_put, next_mk, len_next, List.length_cons, List.length_nil] <;> omega) | fail) only [↓rpre, rpost1, rpost2, rpost3, rpost4, rpost5, envOf, ↓reduceIte, Nat.reduceEqDiff, List.getElem?_toArray, List.getElem?_cons_zero, List.getElem?_cons_succ, reduceCtorEq, Nat.reduceAdd, Nat.reduceSub, Nat.reduceMul, Nat.reduceLeDiff, Nat.reduceLT, Nat.reduceDiv, Nat.reduceMod, Int.reduceEq, Int.reduceNe, Int.reduceLT, Int.reduceLE, Int.reduceGT, Int.reduceGE, Int.reduceAdd, Int.reduceSub, Int.reduceMul, Int.reduceNeg, Int.reduceToNat , f0, f1, f7, f8, f9, f10])
theorem utf_from (s : ByteArray) (at_ lo : Nat) (hs : s.size ≤ 1048576) (ha : at_ < s.size) (r : Int × Int × Int) : ∀ n e H2, (∃ i, n = 4 - i ∧ i ≤ 4 ∧ e.get 0 = .string s ∧ e.get 1 = .int .i64 at_ ∧ e.get 21 = .agg uForms.toArray ∧ e.get 22 = .int .i64 i ∧ lo ≤ H2.low ∧ lo ≤ H2.next ∧ uFrom s at_ (4 - i) i = r) →
    After (LE Try.prog lib0 (.loop f39b1) e H2) (fun o e H2 => (o = .exit 0 ∧ r = (0, 0, 2) ∧ lo ≤ H2.low) ∨ uRet lo r o e H2) := by
  refine loopL_after _ _ ?_
  rintro k e H2 ⟨i, hk, hi, f0, f1, f21, f22, fl, fn, fu⟩
  simp (config := {maxSteps := 20000000, dsimp := false}) (disch := first | omega | (simp only [low_push, low_put, next_push, next_put, next_mk, len_next, List.length_cons, List.length_nil] <;> omega) | fail) only [↓rpre, rpost1, rpost2, rpost3, rpost4, rpost5, envOf, ↓reduceIte, Nat.reduceEqDiff, List.getElem?_toArray, List.getElem?_cons_zero, List.getElem?_cons_succ, reduceCtorEq, Nat.reduceAdd, Nat.reduceSub, Nat.reduceMul, Nat.reduceLeDiff, Nat.reduceLT, Nat.reduceDiv, Nat.reduceMod, Int.reduceEq, Int.reduceNe, Int.reduceLT, Int.reduceLE, Int.reduceGT, Int.reduceGE, Int.reduceAdd, Int.reduceSub, Int.reduceMul, Int.reduceNeg, Int.reduceToNat , f0, f1, f21, f22, ty3]
  rcases hb : decide ((i : Int) < 4) with _ | _
  · have hb' := of_decide_eq_false hb
    have hi4 : i = 4 := by omega
    simp (config := {maxSteps := 20000000, dsimp := false}) (disch := first | omega | (simp only [low_push, low_put, next_push, next_put, next_mk, len_next, List.length_cons, List.length_nil] <;> omega) | fail) only [↓rpre, rpost1, rpost2, rpost3, rpost4, rpost5, envOf, ↓reduceIte, Nat.reduceEqDiff, List.getElem?_toArray, List.getElem?_cons_zero, List.getElem?_cons_succ, reduceCtorEq, Nat.reduceAdd, Nat.reduceSub, Nat.reduceMul, Nat.reduceLeDiff, Nat.reduceLT, Nat.reduceDiv, Nat.reduceMod, Int.reduceEq, Int.reduceNe, Int.reduceLT, Int.reduceLE, Int.reduceGT, Int.reduceGE, Int.reduceAdd, Int.reduceSub, Int.reduceMul, Int.reduceNeg, Int.reduceToNat ]
    refine LoopG_exit (.inl ⟨rfl, ?_, fl⟩)
    rw [← fu, hi4]; rfl
  · have hb' := of_decide_eq_true hb
    have hi4 : i < 4 := by omega
    have hf : 4 - i = (3 - i) + 1 := by omega
    have hrow := uForms_at i hi4
    rw [hf, uFrom] at fu
    simp (config := {maxSteps := 20000000, dsimp := false}) (disch := first | omega | (simp only [low_push, low_put, next_push, next_put, next_mk, len_next, List.length_cons, List.length_nil] <;> omega) | fail) only [↓rpre, rpost1, rpost2, rpost3, rpost4, rpost5, envOf, ↓reduceIte, Nat.reduceEqDiff, List.getElem?_toArray, List.getElem?_cons_zero, List.getElem?_cons_succ, reduceCtorEq, Nat.reduceAdd, Nat.reduceSub, Nat.reduceMul, Nat.reduceLeDiff, Nat.reduceLT, Nat.reduceDiv, Nat.reduceMod, Int.reduceEq, Int.reduceNe, Int.reduceLT, Int.reduceLE, Int.reduceGT, Int.reduceGE, Int.reduceAdd, Int.reduceSub, Int.reduceMul, Int.reduceNeg, Int.reduceToNat , f0, f1, f21, f22, ty3, ty9, ty5, ty21, ty74, ty75, hrow, wrap_small, hi4]
    rcases hm : decide (Go.bits .and .u8 (strAt s at_) (uForm i).1 = (uForm i).2.1) with _ | _
    · have hm' := of_decide_eq_false hm
      rw [if_neg hm'] at fu
      simp (config := {maxSteps := 20000000, dsimp := false}) (disch := first | omega | (simp only [low_push, low_put, next_push, next_put, next_mk, len_next, List.length_cons, List.length_nil] <;> omega) | fail) only [↓rpre, rpost1, rpost2, rpost3, rpost4, rpost5, envOf, ↓reduceIte, Nat.reduceEqDiff, List.getElem?_toArray, List.getElem?_cons_zero, List.getElem?_cons_succ, reduceCtorEq, Nat.reduceAdd, Nat.reduceSub, Nat.reduceMul, Nat.reduceLeDiff, Nat.reduceLT, Nat.reduceDiv, Nat.reduceMod, Int.reduceEq, Int.reduceNe, Int.reduceLT, Int.reduceLE, Int.reduceGT, Int.reduceGE, Int.reduceAdd, Int.reduceSub, Int.reduceMul, Int.reduceNeg, Int.reduceToNat , f0, f1, f21, f22, ty3, wrap_small]
      refine LoopG_normal (k - 1) (by omega) ⟨i + 1, by omega, by omega, ?_, ?_, ?_, ?_, ?_, ?_, by rw [← fu]; congr 1; omega⟩
      all_goals (simp (config := {maxSteps := 20000000, dsimp := false}) (disch := first | omega | (simp only [low_push, low_put, next_push, next_put, next_mk, len_next, List.length_cons, List.length_nil] <;> omega) | fail) only [↓rpre, rpost1, rpost2, rpost3, rpost4, rpost5, envOf, ↓reduceIte, Nat.reduceEqDiff, List.getElem?_toArray, List.getElem?_cons_zero, List.getElem?_cons_succ, reduceCtorEq, Nat.reduceAdd, Nat.reduceSub, Nat.reduceMul, Nat.reduceLeDiff, Nat.reduceLT, Nat.reduceDiv, Nat.reduceMod, Int.reduceEq, Int.reduceNe, Int.reduceLT, Int.reduceLE, Int.reduceGT, Int.reduceGE, Int.reduceAdd, Int.reduceSub, Int.reduceMul, Int.reduceNeg, Int.reduceToNat , f0, f1, f21, f22] <;> first | rfl | omega)
    · have hm' := of_decide_eq_true hm
      rw [if_pos hm'] at fu
      simp (config := {maxSteps := 20000000, dsimp := false}) (disch := first | omega | (simp only [low_push, low_put, next_push, next_put, next_mk, len_next, List.length_cons, List.length_nil] <;> omega) | fail) only [↓rpre, rpost1, rpost2, rpost3, rpost4, rpost5, envOf, ↓reduceIte, Nat.reduceEqDiff, List.getElem?_toArray, List.getElem?_cons_zero, List.getElem?_cons_succ, reduceCtorEq, Nat.reduceAdd, Nat.reduceSub, Nat.reduceMul, Nat.reduceLeDiff, Nat.reduceLT, Nat.reduceDiv, Nat.reduceMod, Int.reduceEq, Int.reduceNe, Int.reduceLT, Int.reduceLE, Int.reduceGT, Int.reduceGE, Int.reduceAdd, Int.reduceSub, Int.reduceMul, Int.reduceNeg, Int.reduceToNat , f0, f1, f21, f22, ty3, ty9, ty5, ty21, ty74, ty75, wrap_small, hi4]
      refine after_then (F := fun z => thenDo (inBlock 1 (thenDo (inBlock 2 z) (LE Try.prog lib0 f39k8))) _) (utf_tails s at_ i lo H2.next hs (by omega) hi4 _ (i + 1 - 1) _ _ ⟨IntKind.wrap .i32 (Go.bits .andNot .u8 (strAt s at_) (uForm i).1), 1, rfl, ⟨by omega, by omega, ?_, ?_, ?_, ?_, ?_, ?_, ?_, ?_, ?_⟩, rfl⟩) ?_
      iterate 9 (simp (config := {maxSteps := 20000000, dsimp := false}) (disch := first | omega | (simp only [low_push, low_put, next_push, next_put, next_mk, len_next, List.length_cons, List.length_nil] <;> omega) | fail) only [↓rpre, rpost1, rpost2, rpost3, rpost4, rpost5, envOf, ↓reduceIte, Nat.reduceEqDiff, List.getElem?_toArray, List.getElem?_cons_zero, List.getElem?_cons_succ, reduceCtorEq, Nat.reduceAdd, Nat.reduceSub, Nat.reduceMul, Nat.reduceLeDiff, Nat.reduceLT, Nat.reduceDiv, Nat.reduceMod, Int.reduceEq, Int.reduceNe, Int.reduceLT, Int.reduceLE, Int.reduceGT, Int.reduceGE, Int.reduceAdd, Int.reduceSub, Int.reduceMul, Int.reduceNeg, Int.reduceToNat , f0, f1, f21, f22] <;> first | rfl | omega)
      rintro o e' H' ⟨ho, hI⟩
      simp (config := {maxSteps := 20000000, dsimp := false}) (disch := first | omega | (simp only [low_push, low_put, next_push, next_put, next_mk, len_next, List.length_cons, List.length_nil] <;> omega) | fail) only [↓rpre, rpost1, rpost2, rpost3, rpost4, rpost5, envOf, ↓reduceIte, Nat.reduceEqDiff, List.getElem?_toArray, List.getElem?_cons_zero, List.getElem?_cons_succ, reduceCtorEq, Nat.reduceAdd, Nat.reduceSub, Nat.reduceMul, Nat.reduceLeDiff, Nat.reduceLT, Nat.reduceDiv, Nat.reduceMod, Int.reduceEq, Int.reduceNe, Int.reduceLT, Int.reduceLE, Int.reduceGT, Int.reduceGE, Int.reduceAdd, Int.reduceSub, Int.reduceMul, Int.reduceNeg, Int.reduceToNat , ho]
      refine after_then (F := fun z => thenDo (inBlock 1 z) _) (utf_end s at_ i lo H2.next hs (by omega) hi4 _ _ _ _ hI) ?_
      rintro o2 e2 H3 hR
      have ho2 := hR.1
      simp (config := {maxSteps := 20000000, dsimp := false}) (disch := first | omega | (simp only [low_push, low_put, next_push, next_put, next_mk, len_next, List.length_cons, List.length_nil] <;> omega) | fail) only [↓rpre, rpost1, rpost2, rpost3, rpost4, rpost5, envOf, ↓reduceIte, Nat.reduceEqDiff, List.getElem?_toArray, List.getElem?_cons_zero, List.getElem?_cons_succ, reduceCtorEq, Nat.reduceAdd, Nat.reduceSub, Nat.reduceMul, Nat.reduceLeDiff, Nat.reduceLT, Nat.reduceDiv, Nat.reduceMod, Int.reduceEq, Int.reduceNe, Int.reduceLT, Int.reduceLE, Int.reduceGT, Int.reduceGE, Int.reduceAdd, Int.reduceSub, Int.reduceMul, Int.reduceNeg, Int.reduceToNat , ho2]
      refine LoopG_ret (.inr ?_)
      rw [← fu]
      exact ⟨rfl, hR.2⟩
def noL : Option (Value × Option Heap) → Option (Value × Option Heap) := id
theorem utf_rune (H : Heap) (s : ByteArray) (at_ : Nat) (hs : s.size ≤ 1048576) (ha : at_ ≤ 1048576) : CL Try.prog lib0 39 [.string s, .int .i64 at_] H = res3 (uRune s at_) := by
  rw [CL_light fn39 rfl _ (by simp)]
  have h0 : ¬ (at_ : Int) < 0 := by omega
  simp (config := {maxSteps := 20000000, dsimp := false}) (disch := first | omega | (simp only [low_push, low_put, next_push, next_put, next_mk, len_next, List.length_cons, List.length_nil] <;> omega) | fail) only [↓rpre, rpost1, rpost2, rpost3, rpost4, rpost5, envOf, ↓reduceIte, Nat.reduceEqDiff, List.getElem?_toArray, List.getElem?_cons_zero, List.getElem?_cons_succ, reduceCtorEq, Nat.reduceAdd, Nat.reduceSub, Nat.reduceMul, Nat.reduceLeDiff, Nat.reduceLT, Nat.reduceDiv, Nat.reduceMod, Int.reduceEq, Int.reduceNe, Int.reduceLT, Int.reduceLE, Int.reduceGT, Int.reduceGE, Int.reduceAdd, Int.reduceSub, Int.reduceMul, Int.reduceNeg, Int.reduceToNat , ty9, h0]
  rw [uRune]
  rcases hb : decide ((s.size : Int) ≤ at_) with _ | _
  · have hb' := of_decide_eq_false hb
    have h1 : at_ < s.size := by omega
    rw [if_pos h1]
    simp (config := {maxSteps := 20000000, dsimp := false}) (disch := first | omega | (simp only [low_push, low_put, next_push, next_put, next_mk, len_next, List.length_cons, List.length_nil] <;> omega) | fail) only [↓rpre, rpost1, rpost2, rpost3, rpost4, rpost5, envOf, ↓reduceIte, Nat.reduceEqDiff, List.getElem?_toArray, List.getElem?_cons_zero, List.getElem?_cons_succ, reduceCtorEq, Nat.reduceAdd, Nat.reduceSub, Nat.reduceMul, Nat.reduceLeDiff, Nat.reduceLT, Nat.reduceDiv, Nat.reduceMod, Int.reduceEq, Int.reduceNe, Int.reduceLT, Int.reduceLE, Int.reduceGT, Int.reduceGE, Int.reduceAdd, Int.reduceSub, Int.reduceMul, Int.reduceNeg, Int.reduceToNat , utf_forms]
    refine after_use (F := fun z => bodyRet _ _ _ (thenDo (inBlock 0 z) _)) (utf_from s at_ H.next hs h1 (uFrom s at_ 4 0) 4 _ _ ⟨0, rfl, by omega, rfl, rfl, rfl, rfl, Nat.le_refl _, Nat.le_refl _, rfl⟩) ?_
    rintro o e' H' (⟨ho, hr, hl⟩ | ⟨ho, h4, h5, h6, hl⟩)
    · simp (config := {maxSteps := 20000000, dsimp := false}) (disch := first | omega | (simp only [low_push, low_put, next_push, next_put, next_mk, len_next, List.length_cons, List.length_nil] <;> omega) | fail) only [↓rpre, rpost1, rpost2, rpost3, rpost4, rpost5, envOf, ↓reduceIte, Nat.reduceEqDiff, List.getElem?_toArray, List.getElem?_cons_zero, List.getElem?_cons_succ, reduceCtorEq, Nat.reduceAdd, Nat.reduceSub, Nat.reduceMul, Nat.reduceLeDiff, Nat.reduceLT, Nat.reduceDiv, Nat.reduceMod, Int.reduceEq, Int.reduceNe, Int.reduceLT, Int.reduceLE, Int.reduceGT, Int.reduceGE, Int.reduceAdd, Int.reduceSub, Int.reduceMul, Int.reduceNeg, Int.reduceToNat , ho]
      rw [hr]; rfl
    · simp (config := {maxSteps := 20000000, dsimp := false}) (disch := first | omega | (simp only [low_push, low_put, next_push, next_put, next_mk, len_next, List.length_cons, List.length_nil] <;> omega) | fail) only [↓rpre, rpost1, rpost2, rpost3, rpost4, rpost5, envOf, ↓reduceIte, Nat.reduceEqDiff, List.getElem?_toArray, List.getElem?_cons_zero, List.getElem?_cons_succ, reduceCtorEq, Nat.reduceAdd, Nat.reduceSub, Nat.reduceMul, Nat.reduceLeDiff, Nat.reduceLT, Nat.reduceDiv, Nat.reduceMod, Int.reduceEq, Int.reduceNe, Int.reduceLT, Int.reduceLE, Int.reduceGT, Int.reduceGE, Int.reduceAdd, Int.reduceSub, Int.reduceMul, Int.reduceNeg, Int.reduceToNat , ho, h4, h5, h6]
      rfl
  · have hb' := of_decide_eq_true hb
    have h1 : ¬ at_ < s.size := by omega
    rw [if_neg h1]
    simp (config := {maxSteps := 20000000, dsimp := false}) (disch := first | omega | (simp only [low_push, low_put, next_push, next_put, next_mk, len_next, List.length_cons, List.length_nil] <;> omega) | fail) only [↓rpre, rpost1, rpost2, rpost3, rpost4, rpost5, envOf, ↓reduceIte, Nat.reduceEqDiff, List.getElem?_toArray, List.getElem?_cons_zero, List.getElem?_cons_succ, reduceCtorEq, Nat.reduceAdd, Nat.reduceSub, Nat.reduceMul, Nat.reduceLeDiff, Nat.reduceLT, Nat.reduceDiv, Nat.reduceMod, Int.reduceEq, Int.reduceNe, Int.reduceLT, Int.reduceLE, Int.reduceGT, Int.reduceGE, Int.reduceAdd, Int.reduceSub, Int.reduceMul, Int.reduceNeg, Int.reduceToNat ]
    rfl
end Go.Proofs.Ytcpolfjnbbodgaa.Ve
