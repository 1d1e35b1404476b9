/- The runs of the reference's Plain, named, Right, Depth: they tell what the word's own do. Conditions: none here. -/
import Derived.Test.YtcpolfjnbbodgaaRefT
namespace Go.Proofs.Ytcpolfjnbbodgaa.Ve
open Go Go.RowKit
set_option linter.unusedVariables false
set_option linter.unusedSimpArgs false
set_option maxRecDepth 100000
set_option maxHeartbeats 0

/-- the runes that a range tells -/
def dLs (s : ByteArray) (i : Nat) : List Int :=
  if h : i < s.size then ((Utf8.decode s i).1 : Int) :: dLs s (i + (Utf8.decode s i).2) else []
termination_by s.size - i
decreasing_by have := decode_pos s i; omega
theorem decode_small (s : ByteArray) (i : Nat) : (Utf8.decode s i).1 ≤ 2097152 := by
  unfold Utf8.decode
  simp only
  split
  · omega
  · split
    · split
      · simp only; omega
      · simp [Utf8.runeError]
    · split
      · split
        · simp only; omega
        · simp [Utf8.runeError]
      · split
        · split
          · simp only; omega
          · simp [Utf8.runeError]
        · simp [Utf8.runeError]
theorem dLs_facts (s : ByteArray) : ∀ k i, s.size - i = k → (dLs s i).length ≤ s.size - i ∧ ∀ x ∈ dLs s i, -2147483648 ≤ x ∧ x ≤ 2147483647 := by
  intro k
  induction k using Nat.strongRecOn with
  | ind k ih =>
    intro i hk
    rw [dLs]
    split
    · rename_i hi
      have hp := decode_pos s i
      have hs := decode_small s i
      obtain ⟨h1, h2⟩ := ih (s.size - (i + (Utf8.decode s i).2)) (by omega) (i + (Utf8.decode s i).2) rfl
      refine ⟨by rw [List.length_cons]; omega, fun x hx => ?_⟩
      rcases List.mem_cons.1 hx with rfl | hx
      · omega
      · exact h2 x hx
    · simp
theorem runes_list (s : ByteArray) : ∀ b i (acc : Array Value), s.size - i ≤ b → (Conv.runesFrom s b i acc).toList = acc.toList ++ (dLs s i).map i32V := by
  intro b
  induction b with
  | zero =>
    intro i acc hb
    rw [dLs, dif_neg (by omega)]
    simp [Conv.runesFrom]
  | succ b ih =>
    intro i acc hb
    rw [Conv.runesFrom, dLs]
    by_cases hi : i < s.size
    · have hp := decode_pos s i
      rw [if_pos hi, dif_pos hi]
      simp only
      rw [ih _ _ (by omega)]
      simp [i32V]
    · rw [if_neg hi, dif_neg hi]; simp
theorem conv_runes (H : Heap) (s : ByteArray) : convA Try.prog H 9 49 (.string s) = some (.slice (some ⟨H.next, 0, none⟩) (dLs s 0).length ((dLs s 0).length + 1), some (H.push (.cells ((dLs s 0).map i32V) true 1))) := by
  have h := runes_list s s.size 0 #[] (by omega)
  have hl : (Conv.runesFrom s s.size 0 #[]).size = (dLs s 0).length := by rw [← Array.length_toList, h]; simp
  simp only [convA, ty49, ty9, ty21, hl, h]
  simp
theorem nPlain_list (s : ByteArray) : ∀ k i, s.size - i = k → 0 < i → nPlain s i = (dLs s i).all cPart := by
  intro k
  induction k using Nat.strongRecOn with
  | ind k ih =>
    intro i hk hpos
    rw [nPlain, dLs]
    split
    · rename_i hi
      have hp := decode_pos s i
      rw [List.all_cons, ← ih (s.size - (i + (Utf8.decode s i).2)) (by omega) (i + (Utf8.decode s i).2) rfl (by omega), decide_eq_false (show ¬ i = 0 by omega)]
      cases cPart (Utf8.decode s i).1 <;> simp
    · rfl
theorem size_zero {s : ByteArray} : s.size = 0 ↔ s = ByteArray.empty := by
  constructor
  · intro h
    obtain ⟨d⟩ := s
    have : d = #[] := Array.size_eq_zero_iff.1 h
    rw [this]; rfl
  · intro h; rw [h]; rfl
def firstStart : List Int → Bool
  | [] => false
  | x :: _ => cStart x
theorem wPlain_list (s : ByteArray) : wPlain s = (firstStart (dLs s 0) && (dLs s 0).all cPart) := by
  rw [wPlain]
  by_cases h0 : s.size = 0
  · have he := size_zero.1 h0
    rw [dLs, dif_neg (by omega), decide_eq_true he]; simp [firstStart]
  · have he : ¬ s = ByteArray.empty := fun q => h0 (size_zero.2 q)
    have hp := decode_pos s 0
    rw [dLs, dif_pos (by omega), nPlain, dif_pos (by omega), decide_eq_false he, List.all_cons, firstStart, ← nPlain_list s _ (0 + (Utf8.decode s 0).2) rfl (by omega)]
    cases cStart (Utf8.decode s 0).1 <;> cases cPart (Utf8.decode s 0).1 <;> simp
theorem plain_loop (H0 : Heap) (nb : Nat) (l : List Int) (hn : l.length ≤ 1048576) (hr : ∀ x ∈ l, -2147483648 ≤ x ∧ x ≤ 2147483647) (hg : H0.get nb = some (.cells (l.map i32V) true 1)) (r : Bool) :
    ∀ k e H2, (∃ i : Nat, k = l.length - i ∧ i ≤ l.length ∧ e.get 3 = .slice (some ⟨nb, 0, none⟩) l.length (l.length + 1) ∧ e.get 4 = .int .i64 i ∧ H2 = H0 ∧ (l.drop i).all cPart = r) →
    After (LE Try.prog lib0 (.loop f34b0) e H2) (fun o e H2 => H2 = H0 ∧ ((o = .exit 0 ∧ r = true) ∨ (o = .ret ∧ e.get 2 = .bool false ∧ r = false))) := by
  refine loopL_after _ _ ?_
  rintro k e H2 ⟨i, hk, hi, f3, f4, hH, fu⟩
  subst hH
  rcases b : decide ((i : Int) < l.length) with _ | _
  · have hb' := of_decide_eq_false b
    have : l.drop i = [] := List.drop_eq_nil_of_le (by omega)
    rw [this, List.all_nil] at fu
    simp (config := {maxSteps := 20000000, dsimp := false}) (disch := first | omega | (simp only [low_push, low_put, next_push, next_put, next_mk, len_next, List.length_cons, List.length_nil] <;> omega) | fail) only [↓rpre, rpost1, rpost2, rpost3, rpost4, rpost5, envOf, ↓reduceIte, Nat.reduceEqDiff, List.getElem?_toArray, List.getElem?_cons_zero, List.getElem?_cons_succ, reduceCtorEq, Nat.reduceAdd, Nat.reduceSub, Nat.reduceMul, Nat.reduceLeDiff, Nat.reduceLT, Nat.reduceDiv, Nat.reduceMod, Int.reduceEq, Int.reduceNe, Int.reduceLT, Int.reduceLE, Int.reduceGT, Int.reduceGE, Int.reduceAdd, Int.reduceSub, Int.reduceMul, Int.reduceNeg, Int.reduceToNat , f3, f4, ty49, ty3, b]
    exact LoopG_exit ⟨rfl, .inl ⟨rfl, fu.symm⟩⟩
  · have hb' := of_decide_eq_true b
    obtain ⟨x, hx, hd⟩ := drop_cons (l := l) (i := i) (by omega)
    have hxr := hr x (List.mem_of_getElem? hx)
    rw [hd, List.all_cons] at fu
    have nt : (i : Int).toNat = i := Int.toNat_natCast i
    have hc : (l.map i32V)[i]? = some (.int .i32 x) := by rw [List.getElem?_map, hx]; rfl
    rcases hq : cPart x with _ | _
    · rw [hq] at fu
      simp (config := {maxSteps := 20000000, dsimp := false}) (disch := first | omega | (simp only [low_push, low_put, next_push, next_put, next_mk, len_next, List.length_cons, List.length_nil] <;> omega) | fail) only [↓rpre, rpost1, rpost2, rpost3, rpost4, rpost5, envOf, ↓reduceIte, Nat.reduceEqDiff, List.getElem?_toArray, List.getElem?_cons_zero, List.getElem?_cons_succ, reduceCtorEq, Nat.reduceAdd, Nat.reduceSub, Nat.reduceMul, Nat.reduceLeDiff, Nat.reduceLT, Nat.reduceDiv, Nat.reduceMod, Int.reduceEq, Int.reduceNe, Int.reduceLT, Int.reduceLE, Int.reduceGT, Int.reduceGE, Int.reduceAdd, Int.reduceSub, Int.reduceMul, Int.reduceNeg, Int.reduceToNat , f3, f4, ty49, ty21, ty3, b, hg, wrap_small, Nat.mul_one, hc, ref_part, hq]
      exact LoopG_ret ⟨rfl, .inr ⟨rfl, rfl, by rw [← fu]; rfl⟩⟩
    · rw [hq] at fu
      simp (config := {maxSteps := 20000000, dsimp := false}) (disch := first | omega | (simp only [low_push, low_put, next_push, next_put, next_mk, len_next, List.length_cons, List.length_nil] <;> omega) | fail) only [↓rpre, rpost1, rpost2, rpost3, rpost4, rpost5, envOf, ↓reduceIte, Nat.reduceEqDiff, List.getElem?_toArray, List.getElem?_cons_zero, List.getElem?_cons_succ, reduceCtorEq, Nat.reduceAdd, Nat.reduceSub, Nat.reduceMul, Nat.reduceLeDiff, Nat.reduceLT, Nat.reduceDiv, Nat.reduceMod, Int.reduceEq, Int.reduceNe, Int.reduceLT, Int.reduceLE, Int.reduceGT, Int.reduceGE, Int.reduceAdd, Int.reduceSub, Int.reduceMul, Int.reduceNeg, Int.reduceToNat , f3, f4, ty49, ty21, ty3, b, hg, wrap_small, Nat.mul_one, hc, ref_part, hq]
      exact LoopG_normal (k - 1) (by omega) ⟨i + 1, by omega, by omega, f3, rfl, rfl, by rw [← fu]; rfl⟩
theorem ref_plain (H : Heap) (s : ByteArray) (hs : s.size ≤ 1048576) : CL Try.prog lib0 34 [.string s] H = some (.bool (wPlain s), none) := by
  obtain ⟨f1, f2⟩ := dLs_facts s _ 0 rfl
  have hz : Heap.next ⟨H.bs, H.next⟩ = H.next := rfl
  rw [CL_light fn34 rfl _ (by simp), wPlain_list]
  have hg : Heap.get (Heap.push ⟨H.bs, H.next⟩ (.cells ((dLs s 0).map i32V) true 1)) H.next = some (.cells ((dLs s 0).map i32V) true 1) := get_push_next
  have cv : convA Try.prog ⟨H.bs, H.next⟩ 9 49 (.string s) = some (.slice (some ⟨H.next, 0, none⟩) (dLs s 0).length ((dLs s 0).length + 1), some (Heap.push ⟨H.bs, H.next⟩ (.cells ((dLs s 0).map i32V) true 1))) := conv_runes ⟨H.bs, H.next⟩ s
  generalize dLs s 0 = l at *
  have hl0 : decide ((l.length : Int) = 0) = decide (l = []) := decide_eq_decide.2 (by rw [← List.length_eq_zero_iff]; omega)
  rcases b0 : decide (l = []) with _ | _
  · have hne := of_decide_eq_false b0
    obtain ⟨x, m, hL⟩ := List.exists_cons_of_ne_nil hne
    have hxr := f2 x (by rw [hL]; simp)
    have hpos : (0 : Int) < (l.length : Int) := by rw [hL]; simp only [List.length_cons]; omega
    have hc : (l.map i32V)[0]? = some (.int .i32 x) := by rw [hL]; rfl
    have hfs : firstStart l = cStart x := by rw [hL, firstStart]
    rw [hfs]
    rcases b1 : cStart x with _ | _
    · simp (config := {maxSteps := 20000000, dsimp := false}) (disch := first | omega | (simp only [low_push, low_put, next_push, next_put, next_mk, len_next, List.length_cons, List.length_nil] <;> omega) | fail) only [↓rpre, rpost1, rpost2, rpost3, rpost4, rpost5, envOf, ↓reduceIte, Nat.reduceEqDiff, List.getElem?_toArray, List.getElem?_cons_zero, List.getElem?_cons_succ, reduceCtorEq, Nat.reduceAdd, Nat.reduceSub, Nat.reduceMul, Nat.reduceLeDiff, Nat.reduceLT, Nat.reduceDiv, Nat.reduceMod, Int.reduceEq, Int.reduceNe, Int.reduceLT, Int.reduceLE, Int.reduceGT, Int.reduceGE, Int.reduceAdd, Int.reduceSub, Int.reduceMul, Int.reduceNeg, Int.reduceToNat , ty3, ty9, ty49, ty21, cv, hl0, b0, hg, hc, wrap_small, ref_start, b1]
    · simp (config := {maxSteps := 20000000, dsimp := false}) (disch := first | omega | (simp only [low_push, low_put, next_push, next_put, next_mk, len_next, List.length_cons, List.length_nil] <;> omega) | fail) only [↓rpre, rpost1, rpost2, rpost3, rpost4, rpost5, envOf, ↓reduceIte, Nat.reduceEqDiff, List.getElem?_toArray, List.getElem?_cons_zero, List.getElem?_cons_succ, reduceCtorEq, Nat.reduceAdd, Nat.reduceSub, Nat.reduceMul, Nat.reduceLeDiff, Nat.reduceLT, Nat.reduceDiv, Nat.reduceMod, Int.reduceEq, Int.reduceNe, Int.reduceLT, Int.reduceLE, Int.reduceGT, Int.reduceGE, Int.reduceAdd, Int.reduceSub, Int.reduceMul, Int.reduceNeg, Int.reduceToNat , ty3, ty9, ty49, ty21, cv, hl0, b0, hg, hc, wrap_small, ref_start, b1]
      refine after_prop (F := fun z => bodyRet _ _ _ (thenDo (inBlock 0 z) _) = _) (plain_loop _ H.next l (by omega) f2 hg (l.all cPart) l.length _ _ ⟨0, rfl, by omega, rfl, rfl, rfl, rfl⟩) ?_
      have hlow : H.next ≤ (Heap.push ⟨H.bs, H.next⟩ (.cells (l.map i32V) true 1)).low := Nat.le_refl _
      rintro o e' H' ⟨hH, ⟨ho, hr⟩ | ⟨ho, h2, hr⟩⟩
      · simp (config := {maxSteps := 20000000, dsimp := false}) (disch := first | omega | (simp only [low_push, low_put, next_push, next_put, next_mk, len_next, List.length_cons, List.length_nil] <;> omega) | fail) only [↓rpre, rpost1, rpost2, rpost3, rpost4, rpost5, envOf, ↓reduceIte, Nat.reduceEqDiff, List.getElem?_toArray, List.getElem?_cons_zero, List.getElem?_cons_succ, reduceCtorEq, Nat.reduceAdd, Nat.reduceSub, Nat.reduceMul, Nat.reduceLeDiff, Nat.reduceLT, Nat.reduceDiv, Nat.reduceMod, Int.reduceEq, Int.reduceNe, Int.reduceLT, Int.reduceLE, Int.reduceGT, Int.reduceGE, Int.reduceAdd, Int.reduceSub, Int.reduceMul, Int.reduceNeg, Int.reduceToNat , ho, hr, hH]
      · simp (config := {maxSteps := 20000000, dsimp := false}) (disch := first | omega | (simp only [low_push, low_put, next_push, next_put, next_mk, len_next, List.length_cons, List.length_nil] <;> omega) | fail) only [↓rpre, rpost1, rpost2, rpost3, rpost4, rpost5, envOf, ↓reduceIte, Nat.reduceEqDiff, List.getElem?_toArray, List.getElem?_cons_zero, List.getElem?_cons_succ, reduceCtorEq, Nat.reduceAdd, Nat.reduceSub, Nat.reduceMul, Nat.reduceLeDiff, Nat.reduceLT, Nat.reduceDiv, Nat.reduceMod, Int.reduceEq, Int.reduceNe, Int.reduceLT, Int.reduceLE, Int.reduceGT, Int.reduceGE, Int.reduceAdd, Int.reduceSub, Int.reduceMul, Int.reduceNeg, Int.reduceToNat , ho, h2, hr, hH]
  · have he := of_decide_eq_true b0
    have hfs : firstStart l = false := by rw [he, firstStart]
    rw [hfs]
    simp (config := {maxSteps := 20000000, dsimp := false}) (disch := first | omega | (simp only [low_push, low_put, next_push, next_put, next_mk, len_next, List.length_cons, List.length_nil] <;> omega) | fail) only [↓rpre, rpost1, rpost2, rpost3, rpost4, rpost5, envOf, ↓reduceIte, Nat.reduceEqDiff, List.getElem?_toArray, List.getElem?_cons_zero, List.getElem?_cons_succ, reduceCtorEq, Nat.reduceAdd, Nat.reduceSub, Nat.reduceMul, Nat.reduceLeDiff, Nat.reduceLT, Nat.reduceDiv, Nat.reduceMod, Int.reduceEq, Int.reduceNe, Int.reduceLT, Int.reduceLE, Int.reduceGT, Int.reduceGE, Int.reduceAdd, Int.reduceSub, Int.reduceMul, Int.reduceNeg, Int.reduceToNat , ty3, ty9, ty49, ty21, cv, hl0, b0]
theorem ref_named (H : Heap) (a b : ByteArray) (ha : a.size ≤ 1048576) (hb : b.size ≤ 1048576) : CL Try.prog lib0 25 [.agg #[.string a, .string b]] H = some (.bool (wNamed a b), none) := by
  rw [CL_light fn25 rfl _ (by simp)]
  rw [wNamed]
  rcases h1 : wPlain b with _ | _
  · simp (config := {maxSteps := 20000000, dsimp := false}) (disch := first | omega | (simp only [low_push, low_put, next_push, next_put, next_mk, len_next, List.length_cons, List.length_nil] <;> omega) | fail) only [↓rpre, rpost1, rpost2, rpost3, rpost4, rpost5, envOf, ↓reduceIte, Nat.reduceEqDiff, List.getElem?_toArray, List.getElem?_cons_zero, List.getElem?_cons_succ, reduceCtorEq, Nat.reduceAdd, Nat.reduceSub, Nat.reduceMul, Nat.reduceLeDiff, Nat.reduceLT, Nat.reduceDiv, Nat.reduceMod, Int.reduceEq, Int.reduceNe, Int.reduceLT, Int.reduceLE, Int.reduceGT, Int.reduceGE, Int.reduceAdd, Int.reduceSub, Int.reduceMul, Int.reduceNeg, Int.reduceToNat , ty9, ty30, ref_plain, ref_text, h1]
  rcases h2 : wText b with _ | _
  · simp (config := {maxSteps := 20000000, dsimp := false}) (disch := first | omega | (simp only [low_push, low_put, next_push, next_put, next_mk, len_next, List.length_cons, List.length_nil] <;> omega) | fail) only [↓rpre, rpost1, rpost2, rpost3, rpost4, rpost5, envOf, ↓reduceIte, Nat.reduceEqDiff, List.getElem?_toArray, List.getElem?_cons_zero, List.getElem?_cons_succ, reduceCtorEq, Nat.reduceAdd, Nat.reduceSub, Nat.reduceMul, Nat.reduceLeDiff, Nat.reduceLT, Nat.reduceDiv, Nat.reduceMod, Int.reduceEq, Int.reduceNe, Int.reduceLT, Int.reduceLE, Int.reduceGT, Int.reduceGE, Int.reduceAdd, Int.reduceSub, Int.reduceMul, Int.reduceNeg, Int.reduceToNat , ty9, ty30, ref_plain, ref_text, h1, h2]
  rcases h3 : wText a with _ | _
  · simp (config := {maxSteps := 20000000, dsimp := false}) (disch := first | omega | (simp only [low_push, low_put, next_push, next_put, next_mk, len_next, List.length_cons, List.length_nil] <;> omega) | fail) only [↓rpre, rpost1, rpost2, rpost3, rpost4, rpost5, envOf, ↓reduceIte, Nat.reduceEqDiff, List.getElem?_toArray, List.getElem?_cons_zero, List.getElem?_cons_succ, reduceCtorEq, Nat.reduceAdd, Nat.reduceSub, Nat.reduceMul, Nat.reduceLeDiff, Nat.reduceLT, Nat.reduceDiv, Nat.reduceMod, Int.reduceEq, Int.reduceNe, Int.reduceLT, Int.reduceLE, Int.reduceGT, Int.reduceGE, Int.reduceAdd, Int.reduceSub, Int.reduceMul, Int.reduceNeg, Int.reduceToNat , ty9, ty30, ref_plain, ref_text, h1, h2, h3]
  simp (config := {maxSteps := 20000000, dsimp := false}) (disch := first | omega | (simp only [low_push, low_put, next_push, next_put, next_mk, len_next, List.length_cons, List.length_nil] <;> omega) | fail) only [↓rpre, rpost1, rpost2, rpost3, rpost4, rpost5, envOf, ↓reduceIte, Nat.reduceEqDiff, List.getElem?_toArray, List.getElem?_cons_zero, List.getElem?_cons_succ, reduceCtorEq, Nat.reduceAdd, Nat.reduceSub, Nat.reduceMul, Nat.reduceLeDiff, Nat.reduceLT, Nat.reduceDiv, Nat.reduceMod, Int.reduceEq, Int.reduceNe, Int.reduceLT, Int.reduceLE, Int.reduceGT, Int.reduceGE, Int.reduceAdd, Int.reduceSub, Int.reduceMul, Int.reduceNeg, Int.reduceToNat , ty9, ty30, ref_plain, ref_text, h1, h2, h3]
  rfl
end Go.Proofs.Ytcpolfjnbbodgaa.Ve
