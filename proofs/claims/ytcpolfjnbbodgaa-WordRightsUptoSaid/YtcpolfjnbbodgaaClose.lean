/- The runs of slices.Repeat (of one event), word's Closers. Conditions: none here. -/
import Derived.Test.YtcpolfjnbbodgaaDepth
namespace Go.Proofs.Ytcpolfjnbbodgaa.Ve
open Go Go.RowKit
set_option linter.unusedVariables false
set_option linter.unusedSimpArgs false
set_option maxRecDepth 100000
set_option maxHeartbeats 0

theorem and32 : ∀ y : Fin 65, Go.bits .and .u64 (y.val : Int) 4294967295 = y.val := by decide
theorem wrap_u64 {n : Int} (h0 : 0 ≤ n) (h1 : n ≤ 18446744073709551615) : IntKind.wrap .u64 n = n := by
  simp [IntKind.wrap, IntKind.min, IntKind.max, IntKind.signed, IntKind.bits]; omega
theorem shr32 {P : Program} (t : TypeId) (a : Int) (h0 : 0 ≤ a) (h1 : a < 4294967296) : binA P .shr t (.int .u64 a) (.int .u64 32) = some (.int .u64 0) := by
  have : a.fdiv 4294967296 = 0 := by rw [Int.fdiv_eq_ediv_of_nonneg _ (by omega)]; exact Int.ediv_eq_zero_of_lt h0 h1
  simp [binA, IntKind.bits, this]
theorem mul64 (H : Heap) (y : Nat) (h1 : y ≤ 64) : CL Try.prog lib0 36 [.int .u64 1, .int .u64 y] H = some (.tuple #[.int .u64 0, .int .u64 y], none) := by
  have hA := and32 ⟨y, by omega⟩
  simp only at hA
  have hB : Go.bits .and .u64 1 4294967295 = 1 := by decide
  rw [CL_light fn36 rfl _ (by simp)]
  have hC : Go.bits .and .u64 0 4294967295 = 0 := by decide
  simp (config := {maxSteps := 20000000, dsimp := false}) (disch := first | omega | (simp only [low_push, low_put, next_push, next_put, next_mk, len_next, List.length_cons, List.length_nil] <;> omega) | fail) only [↓rpre, rpost1, rpost2, rpost3, rpost4, rpost5, envOf, ↓reduceIte, Nat.reduceEqDiff, List.getElem?_toArray, List.getElem?_cons_zero, List.getElem?_cons_succ, reduceCtorEq, Nat.reduceAdd, Nat.reduceSub, Nat.reduceMul, Nat.reduceLeDiff, Nat.reduceLT, Nat.reduceDiv, Nat.reduceMod, Int.reduceEq, Int.reduceNe, Int.reduceLT, Int.reduceLE, Int.reduceGT, Int.reduceGE, Int.reduceAdd, Int.reduceSub, Int.reduceMul, Int.reduceNeg, Int.reduceToNat , hA, hB, hC, shr32, wrap_u64, Int.one_mul, Int.mul_zero, Int.zero_mul, Int.add_zero, Int.zero_add, Int.mul_one]
theorem mul (H : Heap) (y : Nat) (h1 : y ≤ 64) : CL Try.prog lib0 27 [.int .u64 1, .int .u64 y] H = some (.tuple #[.int .u64 0, .int .u64 y], none) := by
  rw [CL_light fn27 rfl _ (by simp)]
  simp (config := {maxSteps := 20000000, dsimp := false}) (disch := first | omega | (simp only [low_push, low_put, next_push, next_put, next_mk, len_next, List.length_cons, List.length_nil] <;> omega) | fail) only [↓rpre, rpost1, rpost2, rpost3, rpost4, rpost5, envOf, ↓reduceIte, Nat.reduceEqDiff, List.getElem?_toArray, List.getElem?_cons_zero, List.getElem?_cons_succ, reduceCtorEq, Nat.reduceAdd, Nat.reduceSub, Nat.reduceMul, Nat.reduceLeDiff, Nat.reduceLT, Nat.reduceDiv, Nat.reduceMod, Int.reduceEq, Int.reduceNe, Int.reduceLT, Int.reduceLE, Int.reduceGT, Int.reduceGE, Int.reduceAdd, Int.reduceSub, Int.reduceMul, Int.reduceNeg, Int.reduceToNat , mul64 _ y h1]
/-! copies within a block -/
theorem splice_eq : ∀ (xs cs : List Value) (o : Nat), o + xs.length ≤ cs.length → splice cs o xs = cs.take o ++ xs ++ cs.drop (o + xs.length)
  | [], cs, o, h => by simp [splice]
  | x :: xs, cs, o, h => by
    simp only [List.length_cons] at h
    rw [splice, splice_eq xs (cs.set o x) (o + 1) (by rw [List.length_set]; omega), List.take_set, List.drop_set_of_lt (by omega)]
    have e : (cs.take (o + 1)).set o x = cs.take o ++ [x] := by
      rw [List.take_add_one, List.getElem?_eq_getElem (by omega)]
      have : (cs.take o).length = o := by rw [List.length_take]; omega
      rw [List.set_append_right _ _ (by omega), this]; simp
    rw [e]
    simp only [List.append_assoc, List.singleton_append, List.length_cons]
    congr 3
    omega
section
variable {P : Program} {H : Heap}
theorem copyA_eq {t e : TypeId} {size sz b o dn dc sn sc : Nat} {sa : Option Addr} {ys cs : List Value} (ht : P.underlying t = some (.slice e)) (hs : tSize P e = some size) (h0 : 0 < size) (hy : sliceCells H size (.slice sa sn sc) = some ys) (hg : H.get b = some (.cells cs true sz)) (hm : 0 < min sn dn)
    (hle : o + min sn dn * size ≤ cs.length) : copyA P H [t, t] (.slice (some ⟨b, o, none⟩) dn dc) (.slice sa sn sc) = some (.int .i64 (min sn dn : Nat), some (H.put b (.cells (splice cs o (ys.take (min sn dn * size))) true sz))) := by
  have hte : tElem P t = some e := by simp [tElem, ht]
  simp only [copyA, List.head?_cons, Option.bind_some, hte, hs, hy, hg]
  rw [if_neg (by omega), if_neg (by omega), if_pos hle]
  rfl
theorem copyA_zero {t e : TypeId} {size dn dc sn sc : Nat} {sa da : Option Addr} {ys : List Value} (ht : P.underlying t = some (.slice e)) (hs : tSize P e = some size) (h0 : 0 < size) (hy : sliceCells H size (.slice sa sn sc) = some ys) (hm : min sn dn = 0) :
    copyA P H [t, t] (.slice da dn dc) (.slice sa sn sc) = some (.int .i64 0, none) := by
  have hte : tElem P t = some e := by simp [tElem, ht]
  simp only [copyA, List.head?_cons, Option.bind_some, hte, hs, hy]
  rw [if_neg (by omega), if_pos hm]
  rfl
theorem sliceA_from {t e : TypeId} {size b o n i : Nat} {cs : List Value} {own : Bool} (ht : P.underlying t = some (.slice e)) (hs : tSize P e = some size) (h0 : 0 < size) (hn : 0 < n) (hi : i ≤ n) (hg : H.get b = some (.cells cs own size)) :
    sliceA P H t (.slice (some ⟨b, o, none⟩) n (n + 1)) (some (.int .i64 i)) none none = some (.slice (some ⟨b, o + i * size, none⟩) (n - i) (n - i + 1)) := by
  simp only [sliceA, ht, hs, bnd, szAt, hg, Int.toNat_natCast, Int.natCast_nonneg, if_true, ne_eq, not_true_eq_false, if_false]
  rw [if_neg (by omega), if_pos (by omega), if_neg (by omega), if_neg (by omega)]
theorem sliceA_to {t e : TypeId} {size b o n i : Nat} {cs : List Value} {own : Bool} (ht : P.underlying t = some (.slice e)) (hs : tSize P e = some size) (h0 : 0 < size) (hn : 0 < n) (hi : i ≤ n) (hg : H.get b = some (.cells cs own size)) :
    sliceA P H t (.slice (some ⟨b, o, none⟩) n (n + 1)) none (some (.int .i64 i)) none = some (.slice (some ⟨b, o, none⟩) i (i + 1)) := by
  simp only [sliceA, ht, hs, bnd, szAt, hg, Int.toNat_natCast, Int.natCast_nonneg, if_true, ne_eq, not_true_eq_false, if_false]
  rw [if_neg (by omega), if_pos (by omega), if_neg (by omega), if_neg (by omega)]
  simp
end
/-- a row of the same element -/
def rows (row : List Value) (n : Nat) : List Value := (List.replicate n row).flatten
theorem rows_len (row : List Value) (n : Nat) : (rows row n).length = n * row.length := by
  rw [rows, List.length_flatten]; simp
theorem rows_add (row : List Value) (m n : Nat) : rows row (m + n) = rows row m ++ rows row n := by
  simp only [rows]; rw [← List.replicate_append_replicate, List.flatten_append]
theorem rows_one (row : List Value) : rows row 1 = row := by simp [rows]
/-- n rows copied behind n of them -/
theorem rows_copy (row z : List Value) (hz : z.length = row.length) (n m y : Nat) (hm : m ≤ n) (hy : n + m ≤ y) : splice (rows row n ++ rows z (y - n)) (n * row.length) (((rows row n ++ rows z (y - n)).take (n * row.length)).take (m * row.length)) = rows row (n + m) ++ rows z (y - (n + m)) := by
  have e1 : (rows row n ++ rows z (y - n)).take (n * row.length) = rows row n := by rw [← rows_len]; simp
  have hmn : m * row.length ≤ n * row.length := Nat.mul_le_mul_right _ hm
  have e2 : (rows row n).take (m * row.length) = rows row m := by
    have : n = m + (n - m) := by omega
    rw [this, rows_add, ← rows_len row m]; simp
  have e3 : y - n = m + (y - (n + m)) := by omega
  rw [e1, e2, splice_eq _ _ _ (by rw [List.length_append, rows_len, rows_len, rows_len, hz, ← Nat.add_mul, ← Nat.add_mul]; exact Nat.mul_le_mul_right _ (by omega)), rows_len, rows_add row n m, ← rows_len row n]
  rw [List.take_left, List.drop_append, e3, rows_add z]
  have e4 : (rows row n).length + m * row.length - (rows row n).length = (rows z m).length := by rw [rows_len z, hz]; omega
  rw [e4, List.drop_left, List.drop_eq_nil_of_le (by omega)]
  simp

theorem rep_loop (H : Heap) (b : Nat) (row z : List Value) (hr : row.length = 5) (hz : z.length = 5) (y : Nat) (hy : y ≤ 64) (hb : H.next ≤ b) : ∀ k e H2, (∃ n : Nat, k = y - n ∧ n ≤ y ∧ (0 < n ∨ y = 0) ∧ e.get 7 = .slice (some ⟨b, 0, none⟩) y (y + 1) ∧ e.get 8 = .int .i64 n ∧ H2.get b = some (.cells (rows row n ++ rows z (y - n)) true 5) ∧ Stay H.next H H2 ∧ H.next ≤ H2.low) →
    After (LE Try.prog lib0 (.loop f20b0) e H2) (fun o e H2 => o = .exit 0 ∧ e.get 7 = .slice (some ⟨b, 0, none⟩) y (y + 1) ∧ H2.get b = some (.cells (rows row y) true 5) ∧ Stay H.next H H2 ∧ H.next ≤ H2.low) := by
  refine loopL_after _ _ ?_
  rintro k e H2 ⟨n, hk, hny, hn0, f7, f8, hg, hS, hl⟩
  have hbl := get_lt hg
  simp (config := {maxSteps := 20000000, dsimp := false}) (disch := first | omega | (simp only [low_push, low_put, next_push, next_put, next_mk, len_next, List.length_cons, List.length_nil] <;> omega) | fail) only [↓rpre, rpost1, rpost2, rpost3, rpost4, rpost5, envOf, ↓reduceIte, Nat.reduceEqDiff, List.getElem?_toArray, List.getElem?_cons_zero, List.getElem?_cons_succ, reduceCtorEq, Nat.reduceAdd, Nat.reduceSub, Nat.reduceMul, Nat.reduceLeDiff, Nat.reduceLT, Nat.reduceDiv, Nat.reduceMod, Int.reduceEq, Int.reduceNe, Int.reduceLT, Int.reduceLE, Int.reduceGT, Int.reduceGE, Int.reduceAdd, Int.reduceSub, Int.reduceMul, Int.reduceNeg, Int.reduceToNat , f7, f8, ty3, ty22]
  rcases hb2 : decide ((n : Int) < y) with _ | _
  · have hb' := of_decide_eq_false hb2
    have e : n = y := by omega
    rw [e, Nat.sub_self, show rows z 0 = [] from rfl, List.append_nil] at hg
    simp (config := {maxSteps := 20000000, dsimp := false}) (disch := first | omega | (simp only [low_push, low_put, next_push, next_put, next_mk, len_next, List.length_cons, List.length_nil] <;> omega) | fail) only [↓rpre, rpost1, rpost2, rpost3, rpost4, rpost5, envOf, ↓reduceIte, Nat.reduceEqDiff, List.getElem?_toArray, List.getElem?_cons_zero, List.getElem?_cons_succ, reduceCtorEq, Nat.reduceAdd, Nat.reduceSub, Nat.reduceMul, Nat.reduceLeDiff, Nat.reduceLT, Nat.reduceDiv, Nat.reduceMod, Int.reduceEq, Int.reduceNe, Int.reduceLT, Int.reduceLE, Int.reduceGT, Int.reduceGE, Int.reduceAdd, Int.reduceSub, Int.reduceMul, Int.reduceNeg, Int.reduceToNat , if_true]
    exact LoopG_exit ⟨rfl, f7, hg, hS, hl⟩
  · have hb' := of_decide_eq_true hb2
    have hlen : (rows row n ++ rows z (y - n)).length = y * 5 := by rw [List.length_append, rows_len, rows_len, hr, hz]; omega
    have s1 := sliceA_from (P := Try.prog) (t := 22) (o := 0) ty22.2.2.2.2.2.2 ty33.1 (by omega) (n := y) (i := n) (by omega) hny hg
    have s2 := sliceA_to (P := Try.prog) (t := 22) (o := 0) ty22.2.2.2.2.2.2 ty33.1 (by omega) (n := y) (i := n) (by omega) hny hg
    have sc : sliceCells H2 5 (.slice (some ⟨b, 0, none⟩) n (n + 1)) = some ((rows row n ++ rows z (y - n)).take (n * 5)) := by
      simp only [sliceCells, hg]
      rw [if_neg (by omega), if_pos (by omega)]; simp
    have s3 := copyA_eq (P := Try.prog) (t := 22) (o := 0 + n * 5) (dn := y - n) (dc := y - n + 1) ty22.2.2.2.2.2.2 ty33.1 (by omega) sc hg (by omega) (by rw [hlen]; have : min n (y - n) * 5 ≤ (y - n) * 5 := Nat.mul_le_mul_right _ (by omega); omega)
    have hc := rows_copy row z (by omega) n (min n (y - n)) y (by omega) (by omega)
    rw [hr] at hc
    rw [Nat.zero_add, hc] at s3
    rw [Nat.zero_add] at s1
    simp (config := {maxSteps := 20000000, dsimp := false}) (disch := first | omega | (simp only [low_push, low_put, next_push, next_put, next_mk, len_next, List.length_cons, List.length_nil] <;> omega) | fail) only [↓rpre, rpost1, rpost2, rpost3, rpost4, rpost5, envOf, ↓reduceIte, Nat.reduceEqDiff, List.getElem?_toArray, List.getElem?_cons_zero, List.getElem?_cons_succ, reduceCtorEq, Nat.reduceAdd, Nat.reduceSub, Nat.reduceMul, Nat.reduceLeDiff, Nat.reduceLT, Nat.reduceDiv, Nat.reduceMod, Int.reduceEq, Int.reduceNe, Int.reduceLT, Int.reduceLE, Int.reduceGT, Int.reduceGE, Int.reduceAdd, Int.reduceSub, Int.reduceMul, Int.reduceNeg, Int.reduceToNat , f7, f8, ty3, ty22, s1, s2, s3, wrap_small]
    refine LoopG_normal (k - min n (y - n)) (by omega) ⟨n + min n (y - n), by omega, by omega, by omega, f7, ?_, get_put_same hbl, hS.trans (Stay.put hb), by rw [low_put]; omega⟩
    simp (config := {maxSteps := 20000000, dsimp := false}) (disch := first | omega | (simp only [low_push, low_put, next_push, next_put, next_mk, len_next, List.length_cons, List.length_nil] <;> omega) | fail) only [↓rpre, rpost1, rpost2, rpost3, rpost4, rpost5, envOf, ↓reduceIte, Nat.reduceEqDiff, List.getElem?_toArray, List.getElem?_cons_zero, List.getElem?_cons_succ, reduceCtorEq, Nat.reduceAdd, Nat.reduceSub, Nat.reduceMul, Nat.reduceLeDiff, Nat.reduceLT, Nat.reduceDiv, Nat.reduceMod, Int.reduceEq, Int.reduceNe, Int.reduceLT, Int.reduceLE, Int.reduceGT, Int.reduceGE, Int.reduceAdd, Int.reduceSub, Int.reduceMul, Int.reduceNeg, Int.reduceToNat , if_true]
    rfl
def zeroEv : List Value := [.int .i64 0, .string ByteArray.empty, .string ByteArray.empty, .slice none 0 0, .string ByteArray.empty]
theorem makeSlice_ev (H : Heap) (y : Nat) (hy : y ≤ 64) : makeSliceA Try.prog H 22 (.int .i64 y) (.int .i64 y) = some (.slice (some ⟨H.next, 0, none⟩) y (y + 1), H.push (.cells (rows zeroEv y) true 5)) := by
  simp only [makeSliceA, ty22, ty33, Int.toNat_natCast]
  rw [if_pos (by simp; omega)]
  rfl
theorem repeat1 (H : Heap) (xb c : Nat) (own : Bool) (row : List Value) (hr : row.length = 5) (hg : H.get xb = some (.cells row own 5)) (y : Nat) (hy : y ≤ 64) :
    Ret (CL Try.prog lib0 20 [.slice (some ⟨xb, 0, none⟩) 1 c, .int .i64 y] H) H fun w H1 => ∃ b, w = .slice (some ⟨b, 0, none⟩) y (y + 1) ∧ H1.get b = some (.cells (rows row y) true 5) ∧ H.next ≤ b ∧ Stay H.next H H1 := by
  have hlt := get_lt hg
  have d1 : decide ((y : Int) < 0) = false := decide_eq_false (by omega)
  have d2 : decide ((9223372036854775807 : Int) < y) = false := decide_eq_false (by omega)
  have hS1 := Stay.first H (.cells (rows zeroEv y) true 5)
  have w1 : IntKind.wrap .u64 ((1 : Nat) : Int) = 1 := wrap_u64 (by omega) (by omega)
  rw [CL_light fn20 rfl _ (by simp)]
  simp (config := {maxSteps := 20000000, dsimp := false}) (disch := first | omega | (simp only [low_push, low_put, next_push, next_put, next_mk, len_next, List.length_cons, List.length_nil] <;> omega) | fail) only [↓rpre, rpost1, rpost2, rpost3, rpost4, rpost5, envOf, ↓reduceIte, Nat.reduceEqDiff, List.getElem?_toArray, List.getElem?_cons_zero, List.getElem?_cons_succ, reduceCtorEq, Nat.reduceAdd, Nat.reduceSub, Nat.reduceMul, Nat.reduceLeDiff, Nat.reduceLT, Nat.reduceDiv, Nat.reduceMod, Int.reduceEq, Int.reduceNe, Int.reduceLT, Int.reduceLE, Int.reduceGT, Int.reduceGE, Int.reduceAdd, Int.reduceSub, Int.reduceMul, Int.reduceNeg, Int.reduceToNat , ty3, ty45, ty22, d1, d2, wrap_u64, wrap_small, w1, mul _ y hy, makeSlice_ev _ y hy]
  have sc : sliceCells (Heap.push ⟨H.bs, H.next⟩ (.cells (rows zeroEv y) true 5)) 5 (.slice (some ⟨xb, 0, none⟩) 1 c) = some row := by
    simp only [sliceCells]
    rw [if_neg (by omega), get_push_lt (by rw [next_mk, len_next]; exact hlt), show Heap.get ⟨H.bs, H.next⟩ xb = H.get xb from rfl, hg]
    simp [hr]
    exact List.take_of_length_le (by omega)
  have hgz : Heap.get (Heap.push ⟨H.bs, H.next⟩ (.cells (rows zeroEv y) true 5)) H.next = some (.cells (rows zeroEv y) true 5) := get_push_next
  have fin : ∀ (e : Env) (H2 : Heap), e.get 7 = .slice (some ⟨H.next, 0, none⟩) y (y + 1) → (∃ n : Nat, n ≤ y ∧ (0 < n ∨ y = 0) ∧ e.get 8 = .int .i64 n ∧ H2.get H.next = some (.cells (rows row n ++ rows zeroEv (y - n)) true 5)) → Stay H.next H H2 → H.next ≤ H2.low →
      Ret (bodyRet Try.prog [ResultVar.tmp 4] H (thenDo (inBlock 0 (LE Try.prog lib0 (.loop f20b0) e H2)) (LE Try.prog lib0 (.seq (.ops [⟨some 47, .move (.tmp 7), none⟩, ⟨some 4, .assign (.tmp 47), none⟩]) .ret)))) H fun w H1 => ∃ b, w = .slice (some ⟨b, 0, none⟩) y (y + 1) ∧ H1.get b = some (.cells (rows row y) true 5) ∧ H.next ≤ b ∧ Stay H.next H H1 := by
    rintro e H2 h7 ⟨n, hn1, hn2, h8, hg2⟩ hS hl
    refine after_prop (F := fun z => Ret (bodyRet _ _ _ (thenDo (inBlock 0 z) _)) _ _) (rep_loop H H.next row zeroEv hr rfl y hy (Nat.le_refl _) (y - n) e H2 ⟨n, rfl, hn1, hn2, h7, h8, hg2, hS, hl⟩) ?_
    rintro o e' H' ⟨ho, g7, gg, gS, gl⟩
    simp (config := {maxSteps := 20000000, dsimp := false}) (disch := first | omega | (simp only [low_push, low_put, next_push, next_put, next_mk, len_next, List.length_cons, List.length_nil] <;> omega) | fail) only [↓rpre, rpost1, rpost2, rpost3, rpost4, rpost5, envOf, ↓reduceIte, Nat.reduceEqDiff, List.getElem?_toArray, List.getElem?_cons_zero, List.getElem?_cons_succ, reduceCtorEq, Nat.reduceAdd, Nat.reduceSub, Nat.reduceMul, Nat.reduceLeDiff, Nat.reduceLT, Nat.reduceDiv, Nat.reduceMod, Int.reduceEq, Int.reduceNe, Int.reduceLT, Int.reduceLE, Int.reduceGT, Int.reduceGE, Int.reduceAdd, Int.reduceSub, Int.reduceMul, Int.reduceNeg, Int.reduceToNat , ho, g7]
    exact ⟨_, _, _, rfl, rfl, H.next, rfl, gg, Nat.le_refl _, gS.ret gl⟩
  by_cases h0 : y = 0
  · subst h0
    have hc := copyA_zero (P := Try.prog) (t := 22) (dn := 0) (dc := 1) (da := some ⟨H.next, 0, none⟩) ty22.2.2.2.2.2.2 ty33.1 (by omega) sc (by simp)
    simp (config := {maxSteps := 20000000, dsimp := false}) (disch := first | omega | (simp only [low_push, low_put, next_push, next_put, next_mk, len_next, List.length_cons, List.length_nil] <;> omega) | fail) only [↓rpre, rpost1, rpost2, rpost3, rpost4, rpost5, envOf, ↓reduceIte, Nat.reduceEqDiff, List.getElem?_toArray, List.getElem?_cons_zero, List.getElem?_cons_succ, reduceCtorEq, Nat.reduceAdd, Nat.reduceSub, Nat.reduceMul, Nat.reduceLeDiff, Nat.reduceLT, Nat.reduceDiv, Nat.reduceMod, Int.reduceEq, Int.reduceNe, Int.reduceLT, Int.reduceLE, Int.reduceGT, Int.reduceGE, Int.reduceAdd, Int.reduceSub, Int.reduceMul, Int.reduceNeg, Int.reduceToNat , hc]
    exact fin _ _ rfl ⟨0, by omega, by omega, rfl, hgz⟩ hS1 (Nat.le_refl _)
  · have hc := copyA_eq (P := Try.prog) (t := 22) (dn := y) (dc := y + 1) (o := 0) ty22.2.2.2.2.2.2 ty33.1 (by omega) sc hgz (by omega) (by rw [rows_len]; simp [zeroEv]; omega)
    have hm : min 1 y = 1 := by omega
    have e1 : splice (rows zeroEv y) 0 (row.take (1 * 5)) = rows row 1 ++ rows zeroEv (y - 1) := by
      have ht : row.take (1 * 5) = row := List.take_of_length_le (by omega)
      have hsp : rows zeroEv y = rows zeroEv 1 ++ rows zeroEv (y - 1) := by rw [← rows_add]; congr 1; omega
      rw [ht, splice_eq _ _ _ (by rw [rows_len, hr]; simp [zeroEv]; omega), hsp, rows_one, rows_one]
      have h5 : 0 + row.length = zeroEv.length := by rw [hr]; rfl
      rw [h5, List.drop_left]; simp
    rw [hm, e1] at hc
    simp (config := {maxSteps := 20000000, dsimp := false}) (disch := first | omega | (simp only [low_push, low_put, next_push, next_put, next_mk, len_next, List.length_cons, List.length_nil] <;> omega) | fail) only [↓rpre, rpost1, rpost2, rpost3, rpost4, rpost5, envOf, ↓reduceIte, Nat.reduceEqDiff, List.getElem?_toArray, List.getElem?_cons_zero, List.getElem?_cons_succ, reduceCtorEq, Nat.reduceAdd, Nat.reduceSub, Nat.reduceMul, Nat.reduceLeDiff, Nat.reduceLT, Nat.reduceDiv, Nat.reduceMod, Int.reduceEq, Int.reduceNe, Int.reduceLT, Int.reduceLE, Int.reduceGT, Int.reduceGE, Int.reduceAdd, Int.reduceSub, Int.reduceMul, Int.reduceNeg, Int.reduceToNat , hc]
    refine fin _ _ rfl ⟨1, by omega, by omega, rfl, get_put_same (by rw [next_push]; show H.next < H.next + 1; omega)⟩ (hS1.trans (Stay.put (Nat.le_refl _))) ?_
    show H.next ≤ min H.next H.next
    omega
def evRow (e : EvD) : List Value := [.int .i64 e.kind, .string e.space, .string e.loc, .slice none 0 0, .string e.text]
def closeEv : EvD := ⟨3, ByteArray.empty, ByteArray.empty, [], ByteArray.empty⟩
def openA : EvD := ⟨1, ByteArray.empty, ⟨#[97]⟩, [], ByteArray.empty⟩
def wClosers (l : List EvD) : List EvD := if wBegins l then (if l = [] then [openA, closeEv] else List.replicate (dep 0 l).toNat closeEv) else []
theorem rows_flat (e : EvD) : ∀ n, rows (evRow e) n = (List.replicate n e).flatMap evRow
  | 0 => rfl
  | n + 1 => by rw [Nat.add_comm, rows_add, rows_one, rows_flat e n, Nat.add_comm, List.replicate_succ, List.flatMap_cons]
theorem word_closers (H : Heap) (lo : Nat) (v : Value) (l : List EvD) (hlo : lo ≤ H.next) (hv : EvsR H lo v l) (hn : l.length ≤ 2000000) : Ret (CL Try.prog lib0 14 [v] H) H fun w H1 => OwnC H1 H.next 5 w (wClosers l).length ((wClosers l).flatMap evRow) ∧ Stay H.next H H1 := by
  obtain ⟨a, c, hvs⟩ := hv.slice
  have hv2 : EvsR H lo (.slice a l.length c) l := by rw [← hvs]; exact hv
  have hv3 : EvsR ⟨H.bs, H.next⟩ lo (.slice a l.length c) l := hv2.mono (fun _ _ => rfl) (Nat.le_refl _)
  have hbe := word_begins ⟨H.bs, H.next⟩ lo _ l hlo hv3 hn
  have d0 : decide (((l.length : Nat) : Int) = 0) = decide (l = []) := decide_eq_decide.2 (by rw [← List.length_eq_zero_iff]; omega)
  rw [CL_light fn14 rfl _ (by simp), hvs, wClosers]
  simp (config := {maxSteps := 20000000, dsimp := false}) (disch := first | omega | (simp only [low_push, low_put, next_push, next_put, next_mk, len_next, List.length_cons, List.length_nil] <;> omega) | fail) only [↓rpre, rpost1, rpost2, rpost3, rpost4, rpost5, envOf, ↓reduceIte, Nat.reduceEqDiff, List.getElem?_toArray, List.getElem?_cons_zero, List.getElem?_cons_succ, reduceCtorEq, Nat.reduceAdd, Nat.reduceSub, Nat.reduceMul, Nat.reduceLeDiff, Nat.reduceLT, Nat.reduceDiv, Nat.reduceMod, Int.reduceEq, Int.reduceNe, Int.reduceLT, Int.reduceLE, Int.reduceGT, Int.reduceGE, Int.reduceAdd, Int.reduceSub, Int.reduceMul, Int.reduceNeg, Int.reduceToNat , ty22, ty3, ty33, ty30, ty9, hbe, d0]
  rcases h1 : wBegins l with _ | _
  · simp (config := {maxSteps := 20000000, dsimp := false}) (disch := first | omega | (simp only [low_push, low_put, next_push, next_put, next_mk, len_next, List.length_cons, List.length_nil] <;> omega) | fail) only [↓rpre, rpost1, rpost2, rpost3, rpost4, rpost5, envOf, ↓reduceIte, Nat.reduceEqDiff, List.getElem?_toArray, List.getElem?_cons_zero, List.getElem?_cons_succ, reduceCtorEq, Nat.reduceAdd, Nat.reduceSub, Nat.reduceMul, Nat.reduceLeDiff, Nat.reduceLT, Nat.reduceDiv, Nat.reduceMod, Int.reduceEq, Int.reduceNe, Int.reduceLT, Int.reduceLE, Int.reduceGT, Int.reduceGE, Int.reduceAdd, Int.reduceSub, Int.reduceMul, Int.reduceNeg, Int.reduceToNat , h1]
    exact ⟨_, none, H, rfl, rfl, .inl ⟨rfl, rfl, rfl⟩, Stay.refl _ _⟩
  rcases h2 : decide (l = []) with _ | _
  · have h2' := of_decide_eq_false h2
    obtain ⟨hd0, hd1⟩ := wBegins_dep h1
    have hde := word_depth (Heap.push ⟨H.bs, H.next⟩ (.cells (evRow closeEv) true 5)) lo _ l (by rw [next_push, next_mk, len_next]; omega) (hv2.mono (fun j hj => (Stay.first H _).get j (by omega)) (Nat.le_refl _)) hn
    rw [wDepth, if_pos h1, ← Int.toNat_of_nonneg hd0] at hde
    obtain ⟨w, h, H1, hc, hh, b, rfl, hg, hb, hS⟩ := repeat1 (Heap.push ⟨H.bs, H.next⟩ (.cells (evRow closeEv) true 5)) H.next 1 true (evRow closeEv) rfl get_push_next (dep 0 l).toNat (by omega)
    have hSt : Stay H.next H H1 := (Stay.first H _).trans (hS.weaken (by rw [next_push]; show H.next ≤ H.next + 1; omega))
    have hlow : H.next ≤ H1.low := hS.lowAll H.next (by rw [next_push]; show H.next ≤ H.next + 1; omega) (Nat.le_refl _)
    have hb2 : H.next ≤ b := Nat.le_trans (by rw [next_push]; show H.next ≤ H.next + 1; omega) hb
    simp only [evRow, closeEv] at hde hc hh
    simp (config := {maxSteps := 20000000, dsimp := false}) (disch := first | omega | (simp only [low_push, low_put, next_push, next_put, next_mk, len_next, List.length_cons, List.length_nil] <;> omega) | fail) only [↓rpre, rpost1, rpost2, rpost3, rpost4, rpost5, envOf, ↓reduceIte, Nat.reduceEqDiff, List.getElem?_toArray, List.getElem?_cons_zero, List.getElem?_cons_succ, reduceCtorEq, Nat.reduceAdd, Nat.reduceSub, Nat.reduceMul, Nat.reduceLeDiff, Nat.reduceLT, Nat.reduceDiv, Nat.reduceMod, Int.reduceEq, Int.reduceNe, Int.reduceLT, Int.reduceLE, Int.reduceGT, Int.reduceGE, Int.reduceAdd, Int.reduceSub, Int.reduceMul, Int.reduceNeg, Int.reduceToNat , h1, h2, d0, ty22, ty3, ty33, ty30, ty9, hde, hc, hh]
    rw [if_neg h2']
    refine ⟨_, _, _, rfl, rfl, .inr ⟨b, (dep 0 l).toNat + 1, by simp, ?_, ?_, ?_⟩, hSt.ret hlow⟩
    · show H1.get b = _
      rw [hg, rows_flat]
    · exact hb2
    · rw [(rows_enc (enc := evRow) (sz := 5) (fun _ => rfl) _).1]
  · have h2' := of_decide_eq_true h2
    simp (config := {maxSteps := 20000000, dsimp := false}) (disch := first | omega | (simp only [low_push, low_put, next_push, next_put, next_mk, len_next, List.length_cons, List.length_nil] <;> omega) | fail) only [↓rpre, rpost1, rpost2, rpost3, rpost4, rpost5, envOf, ↓reduceIte, Nat.reduceEqDiff, List.getElem?_toArray, List.getElem?_cons_zero, List.getElem?_cons_succ, reduceCtorEq, Nat.reduceAdd, Nat.reduceSub, Nat.reduceMul, Nat.reduceLeDiff, Nat.reduceLT, Nat.reduceDiv, Nat.reduceMod, Int.reduceEq, Int.reduceNe, Int.reduceLT, Int.reduceLE, Int.reduceGT, Int.reduceGE, Int.reduceAdd, Int.reduceSub, Int.reduceMul, Int.reduceNeg, Int.reduceToNat , h1, h2, d0, ty22, ty3, ty33, ty30, ty9]
    rw [if_pos h2']
    refine ⟨_, _, _, rfl, rfl, .inr ⟨H.next, _, rfl, get_push_next, Nat.le_refl _, rfl⟩, (Stay.first H _).ret (Nat.le_refl _)⟩
end Go.Proofs.Ytcpolfjnbbodgaa.Ve
