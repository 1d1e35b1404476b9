/- The runs of the reference's value, Put, begins. Conditions: none here. -/
import Derived.Test.YtcpolfjnbbodgaaRefC
import Derived.Test.YtcpolfjnbbodgaaPrefix
namespace Go.Proofs.Ytcpolfjnbbodgaa.Ve
open Go Go.RowKit
set_option linter.unusedVariables false
set_option linter.unusedSimpArgs false
set_option maxRecDepth 100000
set_option maxHeartbeats 0

def rVal (s : ByteArray) (i n : Nat) : Int :=
  if n = 2 then (strAt s i - 192) * 64 + (strAt s (i + 1) - 128)
  else if n = 3 then ((strAt s i - 224) * 64 + (strAt s (i + 1) - 128)) * 64 + (strAt s (i + 2) - 128)
  else (((strAt s i - 240) * 64 + (strAt s (i + 1) - 128)) * 64 + (strAt s (i + 2) - 128)) * 64 + (strAt s (i + 3) - 128)
theorem strAt_range (s : ByteArray) (i : Nat) : 0 ≤ strAt s i ∧ strAt s i ≤ 255 := by rw [strAt_eq]; have := bAt_lt s i; omega
theorem rVal_range (s : ByteArray) (i n : Nat) : -100000000 ≤ rVal s i n ∧ rVal s i n ≤ 100000000 := by
  have h0 := strAt_range s i
  have h1 := strAt_range s (i + 1)
  have h2 := strAt_range s (i + 2)
  have h3 := strAt_range s (i + 3)
  unfold rVal
  split
  · omega
  · split <;> omega
theorem ref_value (H : Heap) (s : ByteArray) (i n : Nat) (h2 : 2 ≤ n) (h4 : n ≤ 4) (hs : i + n ≤ s.size) (hz : s.size ≤ 2000000) : CL Try.prog lib0 48 [.string s, .int .i64 i, .int .i64 n] H = some (.int .i64 (rVal s i n), none) := by
  have q0 := strAt_range s i
  have q1 := strAt_range s (i + 1)
  have q2 := strAt_range s (i + 2)
  have q3 := strAt_range s (i + 3)
  have t1 : ((i : Int) + 1).toNat = i + 1 := by omega
  have t2 : ((i : Int) + 2).toNat = i + 2 := by omega
  have t3 : ((i : Int) + 3).toNat = i + 3 := by omega
  have z0 : (i : Int) + 0 = i := by omega
  rw [CL_light fn48 rfl _ (by simp)]
  simp (config := {maxSteps := 20000000, dsimp := false}) (disch := first | omega | (simp only [low_push, low_put, next_push, next_put, next_mk, len_next, List.length_cons, List.length_nil] <;> omega) | fail) only [↓rpre, rpost1, rpost2, rpost3, rpost4, rpost5, envOf, ↓reduceIte, Nat.reduceEqDiff, List.getElem?_toArray, List.getElem?_cons_zero, List.getElem?_cons_succ, reduceCtorEq, Nat.reduceAdd, Nat.reduceSub, Nat.reduceMul, Nat.reduceLeDiff, Nat.reduceLT, Nat.reduceDiv, Nat.reduceMod, Int.reduceEq, Int.reduceNe, Int.reduceLT, Int.reduceLE, Int.reduceGT, Int.reduceGE, Int.reduceAdd, Int.reduceSub, Int.reduceMul, Int.reduceNeg, Int.reduceToNat , ty3, ty5, ty9, wrap_small]
  rw [LE_loop]
  simp (config := {maxSteps := 20000000, dsimp := false}) (disch := first | omega | (simp only [low_push, low_put, next_push, next_put, next_mk, len_next, List.length_cons, List.length_nil] <;> omega) | fail) only [↓rpre, rpost1, rpost2, rpost3, rpost4, rpost5, envOf, ↓reduceIte, Nat.reduceEqDiff, List.getElem?_toArray, List.getElem?_cons_zero, List.getElem?_cons_succ, reduceCtorEq, Nat.reduceAdd, Nat.reduceSub, Nat.reduceMul, Nat.reduceLeDiff, Nat.reduceLT, Nat.reduceDiv, Nat.reduceMod, Int.reduceEq, Int.reduceNe, Int.reduceLT, Int.reduceLE, Int.reduceGT, Int.reduceGE, Int.reduceAdd, Int.reduceSub, Int.reduceMul, Int.reduceNeg, Int.reduceToNat , ty3, ty5, ty9, wrap_small, dl1, dq1, dq0, z0]
  obtain rfl | rfl | rfl : n = 2 ∨ n = 3 ∨ n = 4 := by omega
  · simp (config := {maxSteps := 20000000, dsimp := false}) (disch := first | omega | (simp only [low_push, low_put, next_push, next_put, next_mk, len_next, List.length_cons, List.length_nil] <;> omega) | fail) only [↓rpre, rpost1, rpost2, rpost3, rpost4, rpost5, envOf, ↓reduceIte, Nat.reduceEqDiff, List.getElem?_toArray, List.getElem?_cons_zero, List.getElem?_cons_succ, reduceCtorEq, Nat.reduceAdd, Nat.reduceSub, Nat.reduceMul, Nat.reduceLeDiff, Nat.reduceLT, Nat.reduceDiv, Nat.reduceMod, Int.reduceEq, Int.reduceNe, Int.reduceLT, Int.reduceLE, Int.reduceGT, Int.reduceGE, Int.reduceAdd, Int.reduceSub, Int.reduceMul, Int.reduceNeg, Int.reduceToNat , ty3, ty5, ty9, wrap_small, dl1, dl0, dq1, dq0, z0, t1, t2, t3, Int.zero_add]
    rw [LE_loop]
    simp (config := {maxSteps := 20000000, dsimp := false}) (disch := first | omega | (simp only [low_push, low_put, next_push, next_put, next_mk, len_next, List.length_cons, List.length_nil] <;> omega) | fail) only [↓rpre, rpost1, rpost2, rpost3, rpost4, rpost5, envOf, ↓reduceIte, Nat.reduceEqDiff, List.getElem?_toArray, List.getElem?_cons_zero, List.getElem?_cons_succ, reduceCtorEq, Nat.reduceAdd, Nat.reduceSub, Nat.reduceMul, Nat.reduceLeDiff, Nat.reduceLT, Nat.reduceDiv, Nat.reduceMod, Int.reduceEq, Int.reduceNe, Int.reduceLT, Int.reduceLE, Int.reduceGT, Int.reduceGE, Int.reduceAdd, Int.reduceSub, Int.reduceMul, Int.reduceNeg, Int.reduceToNat , ty3, ty5, ty9, wrap_small, dl1, dl0, dq1, dq0, z0, t1, t2, t3, Int.zero_add]
    rw [LE_loop]
    simp (config := {maxSteps := 20000000, dsimp := false}) (disch := first | omega | (simp only [low_push, low_put, next_push, next_put, next_mk, len_next, List.length_cons, List.length_nil] <;> omega) | fail) only [↓rpre, rpost1, rpost2, rpost3, rpost4, rpost5, envOf, ↓reduceIte, Nat.reduceEqDiff, List.getElem?_toArray, List.getElem?_cons_zero, List.getElem?_cons_succ, reduceCtorEq, Nat.reduceAdd, Nat.reduceSub, Nat.reduceMul, Nat.reduceLeDiff, Nat.reduceLT, Nat.reduceDiv, Nat.reduceMod, Int.reduceEq, Int.reduceNe, Int.reduceLT, Int.reduceLE, Int.reduceGT, Int.reduceGE, Int.reduceAdd, Int.reduceSub, Int.reduceMul, Int.reduceNeg, Int.reduceToNat , ty3, ty5, ty9, wrap_small, dl1, dl0, dq1, dq0, z0, t1, t2, t3, Int.zero_add]
    rw [rVal, if_pos rfl]
  · simp (config := {maxSteps := 20000000, dsimp := false}) (disch := first | omega | (simp only [low_push, low_put, next_push, next_put, next_mk, len_next, List.length_cons, List.length_nil] <;> omega) | fail) only [↓rpre, rpost1, rpost2, rpost3, rpost4, rpost5, envOf, ↓reduceIte, Nat.reduceEqDiff, List.getElem?_toArray, List.getElem?_cons_zero, List.getElem?_cons_succ, reduceCtorEq, Nat.reduceAdd, Nat.reduceSub, Nat.reduceMul, Nat.reduceLeDiff, Nat.reduceLT, Nat.reduceDiv, Nat.reduceMod, Int.reduceEq, Int.reduceNe, Int.reduceLT, Int.reduceLE, Int.reduceGT, Int.reduceGE, Int.reduceAdd, Int.reduceSub, Int.reduceMul, Int.reduceNeg, Int.reduceToNat , ty3, ty5, ty9, wrap_small, dl1, dl0, dq1, dq0, z0, t1, t2, t3, Int.zero_add]
    rw [LE_loop]
    simp (config := {maxSteps := 20000000, dsimp := false}) (disch := first | omega | (simp only [low_push, low_put, next_push, next_put, next_mk, len_next, List.length_cons, List.length_nil] <;> omega) | fail) only [↓rpre, rpost1, rpost2, rpost3, rpost4, rpost5, envOf, ↓reduceIte, Nat.reduceEqDiff, List.getElem?_toArray, List.getElem?_cons_zero, List.getElem?_cons_succ, reduceCtorEq, Nat.reduceAdd, Nat.reduceSub, Nat.reduceMul, Nat.reduceLeDiff, Nat.reduceLT, Nat.reduceDiv, Nat.reduceMod, Int.reduceEq, Int.reduceNe, Int.reduceLT, Int.reduceLE, Int.reduceGT, Int.reduceGE, Int.reduceAdd, Int.reduceSub, Int.reduceMul, Int.reduceNeg, Int.reduceToNat , ty3, ty5, ty9, wrap_small, dl1, dl0, dq1, dq0, z0, t1, t2, t3, Int.zero_add]
    rw [LE_loop]
    simp (config := {maxSteps := 20000000, dsimp := false}) (disch := first | omega | (simp only [low_push, low_put, next_push, next_put, next_mk, len_next, List.length_cons, List.length_nil] <;> omega) | fail) only [↓rpre, rpost1, rpost2, rpost3, rpost4, rpost5, envOf, ↓reduceIte, Nat.reduceEqDiff, List.getElem?_toArray, List.getElem?_cons_zero, List.getElem?_cons_succ, reduceCtorEq, Nat.reduceAdd, Nat.reduceSub, Nat.reduceMul, Nat.reduceLeDiff, Nat.reduceLT, Nat.reduceDiv, Nat.reduceMod, Int.reduceEq, Int.reduceNe, Int.reduceLT, Int.reduceLE, Int.reduceGT, Int.reduceGE, Int.reduceAdd, Int.reduceSub, Int.reduceMul, Int.reduceNeg, Int.reduceToNat , ty3, ty5, ty9, wrap_small, dl1, dl0, dq1, dq0, z0, t1, t2, t3, Int.zero_add]
    rw [LE_loop]
    simp (config := {maxSteps := 20000000, dsimp := false}) (disch := first | omega | (simp only [low_push, low_put, next_push, next_put, next_mk, len_next, List.length_cons, List.length_nil] <;> omega) | fail) only [↓rpre, rpost1, rpost2, rpost3, rpost4, rpost5, envOf, ↓reduceIte, Nat.reduceEqDiff, List.getElem?_toArray, List.getElem?_cons_zero, List.getElem?_cons_succ, reduceCtorEq, Nat.reduceAdd, Nat.reduceSub, Nat.reduceMul, Nat.reduceLeDiff, Nat.reduceLT, Nat.reduceDiv, Nat.reduceMod, Int.reduceEq, Int.reduceNe, Int.reduceLT, Int.reduceLE, Int.reduceGT, Int.reduceGE, Int.reduceAdd, Int.reduceSub, Int.reduceMul, Int.reduceNeg, Int.reduceToNat , ty3, ty5, ty9, wrap_small, dl1, dl0, dq1, dq0, z0, t1, t2, t3, Int.zero_add]
    rw [rVal, if_neg (by omega), if_pos rfl]
  · simp (config := {maxSteps := 20000000, dsimp := false}) (disch := first | omega | (simp only [low_push, low_put, next_push, next_put, next_mk, len_next, List.length_cons, List.length_nil] <;> omega) | fail) only [↓rpre, rpost1, rpost2, rpost3, rpost4, rpost5, envOf, ↓reduceIte, Nat.reduceEqDiff, List.getElem?_toArray, List.getElem?_cons_zero, List.getElem?_cons_succ, reduceCtorEq, Nat.reduceAdd, Nat.reduceSub, Nat.reduceMul, Nat.reduceLeDiff, Nat.reduceLT, Nat.reduceDiv, Nat.reduceMod, Int.reduceEq, Int.reduceNe, Int.reduceLT, Int.reduceLE, Int.reduceGT, Int.reduceGE, Int.reduceAdd, Int.reduceSub, Int.reduceMul, Int.reduceNeg, Int.reduceToNat , ty3, ty5, ty9, wrap_small, dl1, dl0, dq1, dq0, z0, t1, t2, t3, Int.zero_add]
    rw [LE_loop]
    simp (config := {maxSteps := 20000000, dsimp := false}) (disch := first | omega | (simp only [low_push, low_put, next_push, next_put, next_mk, len_next, List.length_cons, List.length_nil] <;> omega) | fail) only [↓rpre, rpost1, rpost2, rpost3, rpost4, rpost5, envOf, ↓reduceIte, Nat.reduceEqDiff, List.getElem?_toArray, List.getElem?_cons_zero, List.getElem?_cons_succ, reduceCtorEq, Nat.reduceAdd, Nat.reduceSub, Nat.reduceMul, Nat.reduceLeDiff, Nat.reduceLT, Nat.reduceDiv, Nat.reduceMod, Int.reduceEq, Int.reduceNe, Int.reduceLT, Int.reduceLE, Int.reduceGT, Int.reduceGE, Int.reduceAdd, Int.reduceSub, Int.reduceMul, Int.reduceNeg, Int.reduceToNat , ty3, ty5, ty9, wrap_small, dl1, dl0, dq1, dq0, z0, t1, t2, t3, Int.zero_add]
    rw [LE_loop]
    simp (config := {maxSteps := 20000000, dsimp := false}) (disch := first | omega | (simp only [low_push, low_put, next_push, next_put, next_mk, len_next, List.length_cons, List.length_nil] <;> omega) | fail) only [↓rpre, rpost1, rpost2, rpost3, rpost4, rpost5, envOf, ↓reduceIte, Nat.reduceEqDiff, List.getElem?_toArray, List.getElem?_cons_zero, List.getElem?_cons_succ, reduceCtorEq, Nat.reduceAdd, Nat.reduceSub, Nat.reduceMul, Nat.reduceLeDiff, Nat.reduceLT, Nat.reduceDiv, Nat.reduceMod, Int.reduceEq, Int.reduceNe, Int.reduceLT, Int.reduceLE, Int.reduceGT, Int.reduceGE, Int.reduceAdd, Int.reduceSub, Int.reduceMul, Int.reduceNeg, Int.reduceToNat , ty3, ty5, ty9, wrap_small, dl1, dl0, dq1, dq0, z0, t1, t2, t3, Int.zero_add]
    rw [LE_loop]
    simp (config := {maxSteps := 20000000, dsimp := false}) (disch := first | omega | (simp only [low_push, low_put, next_push, next_put, next_mk, len_next, List.length_cons, List.length_nil] <;> omega) | fail) only [↓rpre, rpost1, rpost2, rpost3, rpost4, rpost5, envOf, ↓reduceIte, Nat.reduceEqDiff, List.getElem?_toArray, List.getElem?_cons_zero, List.getElem?_cons_succ, reduceCtorEq, Nat.reduceAdd, Nat.reduceSub, Nat.reduceMul, Nat.reduceLeDiff, Nat.reduceLT, Nat.reduceDiv, Nat.reduceMod, Int.reduceEq, Int.reduceNe, Int.reduceLT, Int.reduceLE, Int.reduceGT, Int.reduceGE, Int.reduceAdd, Int.reduceSub, Int.reduceMul, Int.reduceNeg, Int.reduceToNat , ty3, ty5, ty9, wrap_small, dl1, dl0, dq1, dq0, z0, t1, t2, t3, Int.zero_add]
    rw [LE_loop]
    simp (config := {maxSteps := 20000000, dsimp := false}) (disch := first | omega | (simp only [low_push, low_put, next_push, next_put, next_mk, len_next, List.length_cons, List.length_nil] <;> omega) | fail) only [↓rpre, rpost1, rpost2, rpost3, rpost4, rpost5, envOf, ↓reduceIte, Nat.reduceEqDiff, List.getElem?_toArray, List.getElem?_cons_zero, List.getElem?_cons_succ, reduceCtorEq, Nat.reduceAdd, Nat.reduceSub, Nat.reduceMul, Nat.reduceLeDiff, Nat.reduceLT, Nat.reduceDiv, Nat.reduceMod, Int.reduceEq, Int.reduceNe, Int.reduceLT, Int.reduceLE, Int.reduceGT, Int.reduceGE, Int.reduceAdd, Int.reduceSub, Int.reduceMul, Int.reduceNeg, Int.reduceToNat , ty3, ty5, ty9, wrap_small, dl1, dl0, dq1, dq0, z0, t1, t2, t3, Int.zero_add]
    rw [rVal, if_neg (by omega), if_neg (by omega)]

theorem quo_pos {P : Program} (t : TypeId) (a b : Int) (h0 : 0 ≤ a) (h1 : 0 < b) : binA P .quo t (.int .i64 a) (.int .i64 b) = some (.int .i64 (IntKind.wrap .i64 (a / b))) := by
  simp only [binA, if_true]
  rw [if_neg (by omega), Int.tdiv_eq_ediv_of_nonneg h0]
theorem rem_pos {P : Program} (t : TypeId) (a b : Int) (h0 : 0 ≤ a) (h1 : 0 < b) : binA P .rem t (.int .i64 a) (.int .i64 b) = some (.int .i64 (a % b)) := by
  simp only [binA, if_true]
  rw [if_neg (by omega), Int.tmod_eq_emod_of_nonneg h0]
theorem wrap_u8 {n : Int} (h0 : 0 ≤ n) (h1 : n ≤ 255) : IntKind.wrap .u8 n = n := by
  simp [IntKind.wrap, IntKind.min, IntKind.max, IntKind.signed, IntKind.bits]; omega
def u8V (n : Int) : Value := .int .u8 n
def putL (r : Int) : List Int :=
  if r < 0 ∨ 1114111 < r ∨ (55296 ≤ r ∧ r ≤ 57343) then []
  else if r < 128 then [r]
  else if r < 2048 then [192 + r / 64, 128 + r % 64]
  else if r < 65536 then [224 + r / 4096, 128 + r / 64 % 64, 128 + r % 64]
  else [240 + r / 262144, 128 + r / 4096 % 64, 128 + r / 64 % 64, 128 + r % 64]
theorem ref_put (H : Heap) (r : Int) : Ret (CL Try.prog lib0 49 [.int .i64 r] H) H fun w H1 => OwnC H1 H.next 1 w (putL r).length ((putL r).map u8V) ∧ Stay H.next H H1 := by
  have nil : ∀ l, l = [] → OwnC H H.next 1 (.slice none 0 0) l.length (l.map u8V) := fun l h => by rw [h]; exact .inl ⟨rfl, rfl, rfl⟩
  have one : ∀ cs : List Value, cs.length = cs.length → ∀ l : List Int, l.map u8V = cs → Ret (some (Value.slice (some ⟨H.next, 0, none⟩) cs.length cs.length, some ⟨(Heap.push ⟨H.bs, H.next⟩ (.cells cs true 1)).bs, min H.low H.next⟩)) H fun w H1 => OwnC H1 H.next 1 w l.length (l.map u8V) ∧ Stay H.next H H1 := by
    intro cs _ l hl
    have hle : l.length = cs.length := by rw [← hl, List.length_map]
    refine ⟨_, _, _, rfl, rfl, .inr ⟨H.next, cs.length, by rw [hle], ?_, Nat.le_refl _, by rw [hl, hle]; omega⟩, (Stay.first H _).ret (Nat.le_refl _)⟩
    rw [hl]
    exact get_push_next
  rw [CL_light fn49 rfl _ (by simp)]
  by_cases hbad : r < 0 ∨ 1114111 < r ∨ (55296 ≤ r ∧ r ≤ 57343)
  · have hp : putL r = [] := by rw [putL, if_pos hbad]
    have fin : Ret (some (Value.slice none 0 0, (none : Option Heap))) H fun w H1 => OwnC H1 H.next 1 w (putL r).length ((putL r).map u8V) ∧ Stay H.next H H1 := ⟨_, none, H, rfl, rfl, nil _ hp, Stay.refl _ _⟩
    rcases Int.lt_or_le r 0 with h1 | h1
    · simp (config := {maxSteps := 20000000, dsimp := false}) (disch := first | omega | (simp only [low_push, low_put, next_push, next_put, next_mk, len_next, List.length_cons, List.length_nil] <;> omega) | fail) only [↓rpre, rpost1, rpost2, rpost3, rpost4, rpost5, envOf, ↓reduceIte, Nat.reduceEqDiff, List.getElem?_toArray, List.getElem?_cons_zero, List.getElem?_cons_succ, reduceCtorEq, Nat.reduceAdd, Nat.reduceSub, Nat.reduceMul, Nat.reduceLeDiff, Nat.reduceLT, Nat.reduceDiv, Nat.reduceMod, Int.reduceEq, Int.reduceNe, Int.reduceLT, Int.reduceLE, Int.reduceGT, Int.reduceGE, Int.reduceAdd, Int.reduceSub, Int.reduceMul, Int.reduceNeg, Int.reduceToNat , ty3, ty5, dl1, dl0, de1, de0]
      exact fin
    rcases Int.lt_or_le 1114111 r with h2 | h2
    · simp (config := {maxSteps := 20000000, dsimp := false}) (disch := first | omega | (simp only [low_push, low_put, next_push, next_put, next_mk, len_next, List.length_cons, List.length_nil] <;> omega) | fail) only [↓rpre, rpost1, rpost2, rpost3, rpost4, rpost5, envOf, ↓reduceIte, Nat.reduceEqDiff, List.getElem?_toArray, List.getElem?_cons_zero, List.getElem?_cons_succ, reduceCtorEq, Nat.reduceAdd, Nat.reduceSub, Nat.reduceMul, Nat.reduceLeDiff, Nat.reduceLT, Nat.reduceDiv, Nat.reduceMod, Int.reduceEq, Int.reduceNe, Int.reduceLT, Int.reduceLE, Int.reduceGT, Int.reduceGE, Int.reduceAdd, Int.reduceSub, Int.reduceMul, Int.reduceNeg, Int.reduceToNat , ty3, ty5, dl1, dl0, de1, de0]
      exact fin
    · have h3 : 55296 ≤ r ∧ r ≤ 57343 := by omega
      simp (config := {maxSteps := 20000000, dsimp := false}) (disch := first | omega | (simp only [low_push, low_put, next_push, next_put, next_mk, len_next, List.length_cons, List.length_nil] <;> omega) | fail) only [↓rpre, rpost1, rpost2, rpost3, rpost4, rpost5, envOf, ↓reduceIte, Nat.reduceEqDiff, List.getElem?_toArray, List.getElem?_cons_zero, List.getElem?_cons_succ, reduceCtorEq, Nat.reduceAdd, Nat.reduceSub, Nat.reduceMul, Nat.reduceLeDiff, Nat.reduceLT, Nat.reduceDiv, Nat.reduceMod, Int.reduceEq, Int.reduceNe, Int.reduceLT, Int.reduceLE, Int.reduceGT, Int.reduceGE, Int.reduceAdd, Int.reduceSub, Int.reduceMul, Int.reduceNeg, Int.reduceToNat , ty3, ty5, dl1, dl0, de1, de0]
      exact fin
  · have h1 : 0 ≤ r ∧ r ≤ 1114111 := by omega
    rcases Int.lt_or_le r 128 with k1 | k1
    · simp (config := {maxSteps := 20000000, dsimp := false}) (disch := first | omega | (simp only [low_push, low_put, next_push, next_put, next_mk, len_next, List.length_cons, List.length_nil] <;> omega) | fail) only [↓rpre, rpost1, rpost2, rpost3, rpost4, rpost5, envOf, ↓reduceIte, Nat.reduceEqDiff, List.getElem?_toArray, List.getElem?_cons_zero, List.getElem?_cons_succ, reduceCtorEq, Nat.reduceAdd, Nat.reduceSub, Nat.reduceMul, Nat.reduceLeDiff, Nat.reduceLT, Nat.reduceDiv, Nat.reduceMod, Int.reduceEq, Int.reduceNe, Int.reduceLT, Int.reduceLE, Int.reduceGT, Int.reduceGE, Int.reduceAdd, Int.reduceSub, Int.reduceMul, Int.reduceNeg, Int.reduceToNat , ty3, ty5, ty80, dl1, dl0, de1, de0, wrap_u8]
      exact one _ rfl (putL r) (by rw [putL, if_neg hbad, if_pos k1])
    rcases Int.lt_or_le r 2048 with k2 | k2
    · simp (config := {maxSteps := 20000000, dsimp := false}) (disch := first | omega | (simp only [low_push, low_put, next_push, next_put, next_mk, len_next, List.length_cons, List.length_nil] <;> omega) | fail) only [↓rpre, rpost1, rpost2, rpost3, rpost4, rpost5, envOf, ↓reduceIte, Nat.reduceEqDiff, List.getElem?_toArray, List.getElem?_cons_zero, List.getElem?_cons_succ, reduceCtorEq, Nat.reduceAdd, Nat.reduceSub, Nat.reduceMul, Nat.reduceLeDiff, Nat.reduceLT, Nat.reduceDiv, Nat.reduceMod, Int.reduceEq, Int.reduceNe, Int.reduceLT, Int.reduceLE, Int.reduceGT, Int.reduceGE, Int.reduceAdd, Int.reduceSub, Int.reduceMul, Int.reduceNeg, Int.reduceToNat , ty3, ty5, ty80, dl1, dl0, de1, de0, wrap_u8, wrap_small, quo_pos, rem_pos]
      exact one _ rfl (putL r) (by rw [putL, if_neg hbad, if_neg (by omega), if_pos k2])
    rcases Int.lt_or_le r 65536 with k3 | k3
    · rcases Int.lt_or_le r 55296 with k4 | k4
      · simp (config := {maxSteps := 20000000, dsimp := false}) (disch := first | omega | (simp only [low_push, low_put, next_push, next_put, next_mk, len_next, List.length_cons, List.length_nil] <;> omega) | fail) only [↓rpre, rpost1, rpost2, rpost3, rpost4, rpost5, envOf, ↓reduceIte, Nat.reduceEqDiff, List.getElem?_toArray, List.getElem?_cons_zero, List.getElem?_cons_succ, reduceCtorEq, Nat.reduceAdd, Nat.reduceSub, Nat.reduceMul, Nat.reduceLeDiff, Nat.reduceLT, Nat.reduceDiv, Nat.reduceMod, Int.reduceEq, Int.reduceNe, Int.reduceLT, Int.reduceLE, Int.reduceGT, Int.reduceGE, Int.reduceAdd, Int.reduceSub, Int.reduceMul, Int.reduceNeg, Int.reduceToNat , ty3, ty5, ty80, dl1, dl0, de1, de0, wrap_u8, wrap_small, quo_pos, rem_pos]
        exact one _ rfl (putL r) (by rw [putL, if_neg hbad, if_neg (by omega), if_neg (by omega), if_pos k3])
      · have k5 : 57343 < r := by omega
        simp (config := {maxSteps := 20000000, dsimp := false}) (disch := first | omega | (simp only [low_push, low_put, next_push, next_put, next_mk, len_next, List.length_cons, List.length_nil] <;> omega) | fail) only [↓rpre, rpost1, rpost2, rpost3, rpost4, rpost5, envOf, ↓reduceIte, Nat.reduceEqDiff, List.getElem?_toArray, List.getElem?_cons_zero, List.getElem?_cons_succ, reduceCtorEq, Nat.reduceAdd, Nat.reduceSub, Nat.reduceMul, Nat.reduceLeDiff, Nat.reduceLT, Nat.reduceDiv, Nat.reduceMod, Int.reduceEq, Int.reduceNe, Int.reduceLT, Int.reduceLE, Int.reduceGT, Int.reduceGE, Int.reduceAdd, Int.reduceSub, Int.reduceMul, Int.reduceNeg, Int.reduceToNat , ty3, ty5, ty80, dl1, dl0, de1, de0, wrap_u8, wrap_small, quo_pos, rem_pos]
        exact one _ rfl (putL r) (by rw [putL, if_neg hbad, if_neg (by omega), if_neg (by omega), if_pos k3])
    · simp (config := {maxSteps := 20000000, dsimp := false}) (disch := first | omega | (simp only [low_push, low_put, next_push, next_put, next_mk, len_next, List.length_cons, List.length_nil] <;> omega) | fail) only [↓rpre, rpost1, rpost2, rpost3, rpost4, rpost5, envOf, ↓reduceIte, Nat.reduceEqDiff, List.getElem?_toArray, List.getElem?_cons_zero, List.getElem?_cons_succ, reduceCtorEq, Nat.reduceAdd, Nat.reduceSub, Nat.reduceMul, Nat.reduceLeDiff, Nat.reduceLT, Nat.reduceDiv, Nat.reduceMod, Int.reduceEq, Int.reduceNe, Int.reduceLT, Int.reduceLE, Int.reduceGT, Int.reduceGE, Int.reduceAdd, Int.reduceSub, Int.reduceMul, Int.reduceNeg, Int.reduceToNat , ty3, ty5, ty80, dl1, dl0, de1, de0, wrap_u8, wrap_small, quo_pos, rem_pos]
      exact one _ rfl (putL r) (by rw [putL, if_neg hbad, if_neg (by omega), if_neg (by omega), if_neg (by omega)])
/-! begins -/
def begGo (s : ByteArray) : Nat → List Int → Bool
  | _, [] => true
  | k, b :: r => if strAt s k = b then begGo s (k + 1) r else false
def rBeg (s : ByteArray) (i : Nat) (b : List Int) : Bool := !decide (b = []) && decide (i + b.length ≤ s.size) && begGo s i b
theorem beg2_loop (H0 : Heap) (lo : Nat) (s : ByteArray) (i : Nat) (l : List Int) (a : Option Addr) (c : Nat) (hv : OwnC H0 lo 1 (.slice a l.length c) l.length (l.map u8V)) (hs : i + l.length ≤ s.size) (hz : s.size ≤ 2000000) (r : Bool) :
    ∀ k e H2, (∃ j : Nat, k = l.length - j ∧ j ≤ l.length ∧ e.get 0 = .string s ∧ e.get 1 = .int .i64 i ∧ e.get 2 = .slice a l.length c ∧ e.get 7 = .int .i64 j ∧ H2 = H0 ∧ begGo s (i + j) (l.drop j) = r) →
    After (LE Try.prog lib0 (.loop f50b0) e H2) (fun o e H2 => H2 = H0 ∧ ((o = .exit 0 ∧ r = true) ∨ (o = .ret ∧ e.get 6 = .bool false ∧ r = false))) := by
  refine loopL_after _ _ ?_
  rintro k e H2 ⟨j, hk, hj, f0, f1, f2, f7, hH, fu⟩
  subst hH
  rcases b : decide ((j : Int) < l.length) with _ | _
  · have hb' := of_decide_eq_false b
    have : l.drop j = [] := List.drop_eq_nil_of_le (by omega)
    rw [this, begGo] at fu
    simp (config := {maxSteps := 20000000, dsimp := false}) (disch := first | omega | (simp only [low_push, low_put, next_push, next_put, next_mk, len_next, List.length_cons, List.length_nil] <;> omega) | fail) only [↓rpre, rpost1, rpost2, rpost3, rpost4, rpost5, envOf, ↓reduceIte, Nat.reduceEqDiff, List.getElem?_toArray, List.getElem?_cons_zero, List.getElem?_cons_succ, reduceCtorEq, Nat.reduceAdd, Nat.reduceSub, Nat.reduceMul, Nat.reduceLeDiff, Nat.reduceLT, Nat.reduceDiv, Nat.reduceMod, Int.reduceEq, Int.reduceNe, Int.reduceLT, Int.reduceLE, Int.reduceGT, Int.reduceGE, Int.reduceAdd, Int.reduceSub, Int.reduceMul, Int.reduceNeg, Int.reduceToNat , f2, f7, ty80, ty3, b]
    exact LoopG_exit ⟨rfl, .inl ⟨rfl, fu.symm⟩⟩
  · have hb' := of_decide_eq_true b
    rcases hv with ⟨_, h0, _⟩ | ⟨nb, c', h1, hg, _, _⟩
    · omega
    obtain ⟨rfl, _⟩ : a = some ⟨nb, 0, none⟩ ∧ c = c' := by simpa using h1
    obtain ⟨x, hx, hd⟩ := drop_cons (l := l) (i := j) (by omega)
    rw [hd, begGo] at fu
    have nt : (j : Int).toNat = j := Int.toNat_natCast j
    have nt2 : ((i : Int) + j).toNat = i + j := by omega
    have hc : (l.map u8V)[j]? = some (.int .u8 x) := by rw [List.getElem?_map, hx]; rfl
    rcases hq : decide (strAt s (i + j) = x) with _ | _
    · have hq' := of_decide_eq_false hq
      rw [if_neg hq'] at fu
      simp (config := {maxSteps := 20000000, dsimp := false}) (disch := first | omega | (simp only [low_push, low_put, next_push, next_put, next_mk, len_next, List.length_cons, List.length_nil] <;> omega) | fail) only [↓rpre, rpost1, rpost2, rpost3, rpost4, rpost5, envOf, ↓reduceIte, Nat.reduceEqDiff, List.getElem?_toArray, List.getElem?_cons_zero, List.getElem?_cons_succ, reduceCtorEq, Nat.reduceAdd, Nat.reduceSub, Nat.reduceMul, Nat.reduceLeDiff, Nat.reduceLT, Nat.reduceDiv, Nat.reduceMod, Int.reduceEq, Int.reduceNe, Int.reduceLT, Int.reduceLE, Int.reduceGT, Int.reduceGE, Int.reduceAdd, Int.reduceSub, Int.reduceMul, Int.reduceNeg, Int.reduceToNat , f0, f1, f2, f7, ty80, ty3, ty5, ty9, b, hg, wrap_small, nt2, Nat.mul_one, hc, hq]
      exact LoopG_ret ⟨rfl, .inr ⟨rfl, rfl, fu.symm⟩⟩
    · have hq' := of_decide_eq_true hq
      rw [if_pos hq'] at fu
      simp (config := {maxSteps := 20000000, dsimp := false}) (disch := first | omega | (simp only [low_push, low_put, next_push, next_put, next_mk, len_next, List.length_cons, List.length_nil] <;> omega) | fail) only [↓rpre, rpost1, rpost2, rpost3, rpost4, rpost5, envOf, ↓reduceIte, Nat.reduceEqDiff, List.getElem?_toArray, List.getElem?_cons_zero, List.getElem?_cons_succ, reduceCtorEq, Nat.reduceAdd, Nat.reduceSub, Nat.reduceMul, Nat.reduceLeDiff, Nat.reduceLT, Nat.reduceDiv, Nat.reduceMod, Int.reduceEq, Int.reduceNe, Int.reduceLT, Int.reduceLE, Int.reduceGT, Int.reduceGE, Int.reduceAdd, Int.reduceSub, Int.reduceMul, Int.reduceNeg, Int.reduceToNat , f0, f1, f2, f7, ty80, ty3, ty5, ty9, b, hg, wrap_small, nt2, Nat.mul_one, hc, hq]
      exact LoopG_normal (k - 1) (by omega) ⟨j + 1, by omega, by omega, f0, f1, f2, rfl, rfl, fu⟩
theorem ref_begins (H : Heap) (lo : Nat) (s : ByteArray) (i : Nat) (l : List Int) (v : Value) (hv : OwnC H lo 1 v l.length (l.map u8V)) (hi : i ≤ 2000000) (hl : l.length ≤ 2000000) (hz : s.size ≤ 2000000) : CL Try.prog lib0 50 [.string s, .int .i64 i, v] H = some (.bool (rBeg s i l), none) := by
  obtain ⟨a, c, rfl⟩ := hv.slice
  have e0 : decide ((l.length : Int) = 0) = decide (l = []) := decide_eq_decide.2 (by rw [← List.length_eq_zero_iff]; omega)
  have e1 : decide ((s.size : Int) < (i : Int) + l.length) = !decide (i + l.length ≤ s.size) := by
    rw [← decide_not]; exact decide_eq_decide.2 (by omega)
  rw [CL_light fn50 rfl _ (by simp), rBeg]
  rcases b0 : decide (l = []) with _ | _
  · rcases b1 : decide (i + l.length ≤ s.size) with _ | _
    · simp (config := {maxSteps := 20000000, dsimp := false}) (disch := first | omega | (simp only [low_push, low_put, next_push, next_put, next_mk, len_next, List.length_cons, List.length_nil] <;> omega) | fail) only [↓rpre, rpost1, rpost2, rpost3, rpost4, rpost5, envOf, ↓reduceIte, Nat.reduceEqDiff, List.getElem?_toArray, List.getElem?_cons_zero, List.getElem?_cons_succ, reduceCtorEq, Nat.reduceAdd, Nat.reduceSub, Nat.reduceMul, Nat.reduceLeDiff, Nat.reduceLT, Nat.reduceDiv, Nat.reduceMod, Int.reduceEq, Int.reduceNe, Int.reduceLT, Int.reduceLE, Int.reduceGT, Int.reduceGE, Int.reduceAdd, Int.reduceSub, Int.reduceMul, Int.reduceNeg, Int.reduceToNat , ty80, ty3, ty9, e0, e1, b0, b1, wrap_small]
    · simp (config := {maxSteps := 20000000, dsimp := false}) (disch := first | omega | (simp only [low_push, low_put, next_push, next_put, next_mk, len_next, List.length_cons, List.length_nil] <;> omega) | fail) only [↓rpre, rpost1, rpost2, rpost3, rpost4, rpost5, envOf, ↓reduceIte, Nat.reduceEqDiff, List.getElem?_toArray, List.getElem?_cons_zero, List.getElem?_cons_succ, reduceCtorEq, Nat.reduceAdd, Nat.reduceSub, Nat.reduceMul, Nat.reduceLeDiff, Nat.reduceLT, Nat.reduceDiv, Nat.reduceMod, Int.reduceEq, Int.reduceNe, Int.reduceLT, Int.reduceLE, Int.reduceGT, Int.reduceGE, Int.reduceAdd, Int.reduceSub, Int.reduceMul, Int.reduceNeg, Int.reduceToNat , ty80, ty3, ty9, e0, e1, b0, b1, wrap_small]
      refine after_prop (F := fun z => bodyRet _ _ _ (thenDo (inBlock 0 z) _) = _) (beg2_loop ⟨H.bs, H.next⟩ lo s i l a c (hv.mono (Nat.le_refl _) (fun _ _ => rfl)) (of_decide_eq_true b1) hz (begGo s i l) l.length _ _ ⟨0, rfl, by omega, rfl, rfl, rfl, rfl, rfl, rfl⟩) ?_
      rintro o e' H' ⟨hH, ⟨ho, hr⟩ | ⟨ho, h6, hr⟩⟩
      · simp (config := {maxSteps := 20000000, dsimp := false}) (disch := first | omega | (simp only [low_push, low_put, next_push, next_put, next_mk, len_next, List.length_cons, List.length_nil] <;> omega) | fail) only [↓rpre, rpost1, rpost2, rpost3, rpost4, rpost5, envOf, ↓reduceIte, Nat.reduceEqDiff, List.getElem?_toArray, List.getElem?_cons_zero, List.getElem?_cons_succ, reduceCtorEq, Nat.reduceAdd, Nat.reduceSub, Nat.reduceMul, Nat.reduceLeDiff, Nat.reduceLT, Nat.reduceDiv, Nat.reduceMod, Int.reduceEq, Int.reduceNe, Int.reduceLT, Int.reduceLE, Int.reduceGT, Int.reduceGE, Int.reduceAdd, Int.reduceSub, Int.reduceMul, Int.reduceNeg, Int.reduceToNat , ho, hr, hH]
      · simp (config := {maxSteps := 20000000, dsimp := false}) (disch := first | omega | (simp only [low_push, low_put, next_push, next_put, next_mk, len_next, List.length_cons, List.length_nil] <;> omega) | fail) only [↓rpre, rpost1, rpost2, rpost3, rpost4, rpost5, envOf, ↓reduceIte, Nat.reduceEqDiff, List.getElem?_toArray, List.getElem?_cons_zero, List.getElem?_cons_succ, reduceCtorEq, Nat.reduceAdd, Nat.reduceSub, Nat.reduceMul, Nat.reduceLeDiff, Nat.reduceLT, Nat.reduceDiv, Nat.reduceMod, Int.reduceEq, Int.reduceNe, Int.reduceLT, Int.reduceLE, Int.reduceGT, Int.reduceGE, Int.reduceAdd, Int.reduceSub, Int.reduceMul, Int.reduceNeg, Int.reduceToNat , ho, h6, hr, hH]
  · simp (config := {maxSteps := 20000000, dsimp := false}) (disch := first | omega | (simp only [low_push, low_put, next_push, next_put, next_mk, len_next, List.length_cons, List.length_nil] <;> omega) | fail) only [↓rpre, rpost1, rpost2, rpost3, rpost4, rpost5, envOf, ↓reduceIte, Nat.reduceEqDiff, List.getElem?_toArray, List.getElem?_cons_zero, List.getElem?_cons_succ, reduceCtorEq, Nat.reduceAdd, Nat.reduceSub, Nat.reduceMul, Nat.reduceLeDiff, Nat.reduceLT, Nat.reduceDiv, Nat.reduceMod, Int.reduceEq, Int.reduceNe, Int.reduceLT, Int.reduceLE, Int.reduceGT, Int.reduceGE, Int.reduceAdd, Int.reduceSub, Int.reduceMul, Int.reduceNeg, Int.reduceToNat , ty80, ty3, ty9, e0, b0]
end Go.Proofs.Ytcpolfjnbbodgaa.Ve
