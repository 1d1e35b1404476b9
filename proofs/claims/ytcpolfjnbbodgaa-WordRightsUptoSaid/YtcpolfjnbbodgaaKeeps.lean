/- The run of the law WordKeeps: it answers true. Conditions: none here. -/
import Derived.Test.YtcpolfjnbbodgaaSame
namespace Go.Proofs.Ytcpolfjnbbodgaa.Ve
open Go Go.RowKit
set_option linter.unusedVariables false
set_option linter.unusedSimpArgs false
set_option maxRecDepth 100000
set_option maxHeartbeats 0

/-- an own slice, as the loops need it -/
def Own0 (H : Heap) (lo sz : Nat) (a : Option Addr) (n : Nat) : Prop := n = 0 ∨ ∃ nb cs, a = some ⟨nb, 0, none⟩ ∧ lo ≤ nb ∧ H.get nb = some (.cells cs true sz) ∧ cs.length = n * sz
theorem OwnC.own0 {H : Heap} {lo sz n c : Nat} {a : Option Addr} {cs : List Value} (h : OwnC H lo sz (.slice a n c) n cs) : Own0 H lo sz a n := by
  rcases h with ⟨h, h2, _⟩ | ⟨b, c', h1, h2, h3, h4⟩
  · exact .inl h2
  · obtain ⟨rfl, _⟩ : a = some ⟨b, 0, none⟩ ∧ c = c' := by simpa using h1
    exact .inr ⟨b, cs, rfl, h3, h2, h4⟩
/-- -7 is written to each place -/
theorem keeps_a (Hb : Heap) (lo : Nat) (v0 v3 : Value) (a : Option Addr) (n c : Nat) (hn : n ≤ 2000000) : ∀ k e H2, (∃ i : Nat, k = n - i ∧ i ≤ n ∧ e.get 0 = v0 ∧ e.get 3 = v3 ∧ e.get 4 = .slice a n c ∧ e.get 5 = .int .i64 i ∧ Own0 H2 lo 1 a n ∧ Stay lo Hb H2) →
    After (LE Try.prog lib0 (.loop f5b0) e H2) (fun o e H2 => o = .exit 0 ∧ e.get 0 = v0 ∧ e.get 3 = v3 ∧ Stay lo Hb H2) := by
  refine loopL_after _ _ ?_
  rintro k e H2 ⟨i, hk, hi, f0, f3, f4, f5, hO, hS⟩
  rcases b : decide ((i : Int) < n) with _ | _
  · simp (config := {maxSteps := 20000000, dsimp := false}) (disch := first | omega | (simp only [low_push, low_put, next_push, next_put, next_mk, len_next, List.length_cons, List.length_nil] <;> omega) | fail) only [↓rpre, rpost1, rpost2, rpost3, rpost4, rpost5, envOf, ↓reduceIte, Nat.reduceEqDiff, List.getElem?_toArray, List.getElem?_cons_zero, List.getElem?_cons_succ, reduceCtorEq, Nat.reduceAdd, Nat.reduceSub, Nat.reduceMul, Nat.reduceLeDiff, Nat.reduceLT, Nat.reduceDiv, Nat.reduceMod, Int.reduceEq, Int.reduceNe, Int.reduceLT, Int.reduceLE, Int.reduceGT, Int.reduceGE, Int.reduceAdd, Int.reduceSub, Int.reduceMul, Int.reduceNeg, Int.reduceToNat , f4, f5, ty26, ty3, b]
    exact LoopG_exit ⟨rfl, f0, f3, hS⟩
  · have hb' := of_decide_eq_true b
    rcases hO with h0 | ⟨nb, cs, rfl, hlo, hg, hc⟩
    · omega
    have hlt := get_lt hg
    have nt : (i : Int).toNat = i := Int.toNat_natCast i
    have hle : i + 1 ≤ cs.length := by omega
    simp (config := {maxSteps := 20000000, dsimp := false}) (disch := first | omega | (simp only [low_push, low_put, next_push, next_put, next_mk, len_next, List.length_cons, List.length_nil] <;> omega) | fail) only [↓rpre, rpost1, rpost2, rpost3, rpost4, rpost5, envOf, ↓reduceIte, Nat.reduceEqDiff, List.getElem?_toArray, List.getElem?_cons_zero, List.getElem?_cons_succ, reduceCtorEq, Nat.reduceAdd, Nat.reduceSub, Nat.reduceMul, Nat.reduceLeDiff, Nat.reduceLT, Nat.reduceDiv, Nat.reduceMod, Int.reduceEq, Int.reduceNe, Int.reduceLT, Int.reduceLE, Int.reduceGT, Int.reduceGE, Int.reduceAdd, Int.reduceSub, Int.reduceMul, Int.reduceNeg, Int.reduceToNat , f4, f5, ty26, ty3, b, hg, wrap_small, hle, Nat.mul_one]
    exact LoopG_normal (k - 1) (by omega) ⟨i + 1, by omega, by omega, f0, f3, f4, rfl, .inr ⟨nb, _, rfl, hlo, get_put_same hlt, by simp [hc]⟩, hS.trans (Stay.put hlo)⟩
theorem keeps_b (Hb : Heap) (lo : Nat) (v0 v3 : Value) (a : Option Addr) (n c : Nat) (hn : n ≤ 2000000) : ∀ k e H2, (∃ i : Nat, k = n - i ∧ i ≤ n ∧ e.get 0 = v0 ∧ e.get 3 = v3 ∧ e.get 6 = .slice a n c ∧ e.get 7 = .int .i64 i ∧ Own0 H2 lo 5 a n ∧ Stay lo Hb H2) →
    After (LE Try.prog lib0 (.loop f5b1) e H2) (fun o e H2 => o = .exit 2 ∧ e.get 0 = v0 ∧ e.get 3 = v3 ∧ Stay lo Hb H2) := by
  refine loopL_after _ _ ?_
  rintro k e H2 ⟨i, hk, hi, f0, f3, f6, f7, hO, hS⟩
  rcases b : decide ((i : Int) < n) with _ | _
  · simp (config := {maxSteps := 20000000, dsimp := false}) (disch := first | omega | (simp only [low_push, low_put, next_push, next_put, next_mk, len_next, List.length_cons, List.length_nil] <;> omega) | fail) only [↓rpre, rpost1, rpost2, rpost3, rpost4, rpost5, envOf, ↓reduceIte, Nat.reduceEqDiff, List.getElem?_toArray, List.getElem?_cons_zero, List.getElem?_cons_succ, reduceCtorEq, Nat.reduceAdd, Nat.reduceSub, Nat.reduceMul, Nat.reduceLeDiff, Nat.reduceLT, Nat.reduceDiv, Nat.reduceMod, Int.reduceEq, Int.reduceNe, Int.reduceLT, Int.reduceLE, Int.reduceGT, Int.reduceGE, Int.reduceAdd, Int.reduceSub, Int.reduceMul, Int.reduceNeg, Int.reduceToNat , f6, f7, ty22, ty3, b]
    exact LoopG_exit ⟨rfl, f0, f3, hS⟩
  · have hb' := of_decide_eq_true b
    rcases hO with h0 | ⟨nb, cs, rfl, hlo, hg, hc⟩
    · omega
    have hlt := get_lt hg
    have nt : (i : Int).toNat = i := Int.toNat_natCast i
    have hle : i * 5 + 1 ≤ cs.length := by omega
    simp (config := {maxSteps := 20000000, dsimp := false}) (disch := first | omega | (simp only [low_push, low_put, next_push, next_put, next_mk, len_next, List.length_cons, List.length_nil] <;> omega) | fail) only [↓rpre, rpost1, rpost2, rpost3, rpost4, rpost5, envOf, ↓reduceIte, Nat.reduceEqDiff, List.getElem?_toArray, List.getElem?_cons_zero, List.getElem?_cons_succ, reduceCtorEq, Nat.reduceAdd, Nat.reduceSub, Nat.reduceMul, Nat.reduceLeDiff, Nat.reduceLT, Nat.reduceDiv, Nat.reduceMod, Int.reduceEq, Int.reduceNe, Int.reduceLT, Int.reduceLE, Int.reduceGT, Int.reduceGE, Int.reduceAdd, Int.reduceSub, Int.reduceMul, Int.reduceNeg, Int.reduceToNat , f6, f7, ty22, ty33, ty3, b, hg, wrap_small, hle]
    exact LoopG_normal (k - 1) (by omega) ⟨i + 1, by omega, by omega, f0, f3, f6, rfl, .inr ⟨nb, _, rfl, hlo, get_put_same hlt, by simp [hc]⟩, hS.trans (Stay.put hlo)⟩
theorem keeps_c (Hb : Heap) (lo : Nat) (v0 v3 : Value) (a : Option Addr) (n c : Nat) (l : List EvD) (hl : l.length = n) (hn : n ≤ 2000000) (hk7 : ∀ e ∈ l, e.kind ≠ 7) (hO : OwnC Hb lo 5 (.slice a n c) n (l.flatMap evRow)) :
    ∀ k e H2, (∃ i : Nat, k = n - i ∧ i ≤ n ∧ e.get 0 = v0 ∧ e.get 3 = v3 ∧ e.get 8 = .slice a n c ∧ e.get 9 = .int .i64 i ∧ H2 = Hb) →
    After (LE Try.prog lib0 (.loop f5b2) e H2) (fun o e H2 => o = .exit 4 ∧ e.get 0 = v0 ∧ e.get 3 = v3 ∧ H2 = Hb) := by
  refine loopL_after _ _ ?_
  rintro k e H2 ⟨i, hk, hi, f0, f3, f8, f9, hH⟩
  subst hH
  rcases b : decide ((i : Int) < n) with _ | _
  · simp (config := {maxSteps := 20000000, dsimp := false}) (disch := first | omega | (simp only [low_push, low_put, next_push, next_put, next_mk, len_next, List.length_cons, List.length_nil] <;> omega) | fail) only [↓rpre, rpost1, rpost2, rpost3, rpost4, rpost5, envOf, ↓reduceIte, Nat.reduceEqDiff, List.getElem?_toArray, List.getElem?_cons_zero, List.getElem?_cons_succ, reduceCtorEq, Nat.reduceAdd, Nat.reduceSub, Nat.reduceMul, Nat.reduceLeDiff, Nat.reduceLT, Nat.reduceDiv, Nat.reduceMod, Int.reduceEq, Int.reduceNe, Int.reduceLT, Int.reduceLE, Int.reduceGT, Int.reduceGE, Int.reduceAdd, Int.reduceSub, Int.reduceMul, Int.reduceNeg, Int.reduceToNat , f8, f9, ty22, ty3, b]
    exact LoopG_exit ⟨rfl, f0, f3, rfl⟩
  · have hb' := of_decide_eq_true b
    rcases hO with ⟨_, h0, _⟩ | ⟨nb, c', h1, hg, _, _⟩
    · omega
    obtain ⟨rfl, _⟩ : a = some ⟨nb, 0, none⟩ ∧ c = c' := by simpa using h1
    have nt : (i : Int).toNat = i := Int.toNat_natCast i
    obtain ⟨x, hx, _⟩ := drop_cons (l := l) (i := i) (by omega)
    have hr := (flatMap_at (enc := evRow) (sz := 5) (fun _ => rfl) hx)
    have hc : (l.flatMap evRow)[i * 5]? = some (.int .i64 x.kind) := by have := row_cell (k := 0) (by omega) hr.2; simpa [evRow] using this
    have h7 : decide (x.kind = 7) = false := decide_eq_false (hk7 x (List.mem_of_getElem? hx))
    simp (config := {maxSteps := 20000000, dsimp := false}) (disch := first | omega | (simp only [low_push, low_put, next_push, next_put, next_mk, len_next, List.length_cons, List.length_nil] <;> omega) | fail) only [↓rpre, rpost1, rpost2, rpost3, rpost4, rpost5, envOf, ↓reduceIte, Nat.reduceEqDiff, List.getElem?_toArray, List.getElem?_cons_zero, List.getElem?_cons_succ, reduceCtorEq, Nat.reduceAdd, Nat.reduceSub, Nat.reduceMul, Nat.reduceLeDiff, Nat.reduceLT, Nat.reduceDiv, Nat.reduceMod, Int.reduceEq, Int.reduceNe, Int.reduceLT, Int.reduceLE, Int.reduceGT, Int.reduceGE, Int.reduceAdd, Int.reduceSub, Int.reduceMul, Int.reduceNeg, Int.reduceToNat , f8, f9, ty22, ty33, ty3, b, hg, wrap_small, hc, h7]
    exact LoopG_normal (k - 1) (by omega) ⟨i + 1, by omega, by omega, f0, f3, f8, rfl, rfl⟩
theorem closers_kinds {l : List EvD} (h : wBegins l = true) : (∀ e ∈ wClosers l, e.kind ≠ 7) ∧ (wClosers l).length ≤ 64 ∧ ∀ e ∈ wClosers l, Bare e := by
  rw [wClosers, if_pos h]
  obtain ⟨h0, h1⟩ := wBegins_dep h
  split
  · refine ⟨?_, by simp, ?_⟩
    · intro e he
      simp at he
      rcases he with rfl | rfl <;> decide
    · intro e he
      simp at he
      rcases he with rfl | rfl <;> exact ⟨rfl, by decide, by decide, by decide⟩
  · refine ⟨?_, by rw [List.length_replicate]; omega, ?_⟩
    · intro e he
      rw [(List.mem_replicate.1 he).2]; decide
    · intro e he
      rw [(List.mem_replicate.1 he).2]; exact ⟨rfl, by decide, by decide, by decide⟩
theorem closers_any (l : List EvD) : (∀ e ∈ wClosers l, e.kind ≠ 7) ∧ (wClosers l).length ≤ 64 := by
  cases h : wBegins l with
  | true => exact ⟨(closers_kinds h).1, (closers_kinds h).2.1⟩
  | false => rw [wClosers, h]; simp
theorem nodes_len (l : List EvD) : (wNodes l).length ≤ l.length := by
  have : ∀ (l : List EvD) i, (nodesFrom i l).length ≤ l.length := by
    intro l
    induction l with
    | nil => intro i; simp [nodesFrom]
    | cons e l ih => intro i; rw [nodesFrom]; have := ih (i + 1); split <;> simp <;> omega
  rw [wNodes]
  split
  · exact this l 0
  · simp
theorem law_keeps (H : Heap) (v : Value) (l : List EvD) (hv : EvsR H H.next v l) (hn : l.length ≤ 1048576) : CL Try.prog lib0 5 [v] H = some (.bool true, none) := by
  obtain ⟨a, c, hvs⟩ := hv.slice
  have hv0 : EvsR ⟨H.bs, H.next⟩ H.next v l := hv.mono (fun _ _ => rfl) (Nat.le_refl _)
  obtain ⟨t, hfew⟩ := ref_few ⟨H.bs, H.next⟩ H.next v l (Nat.le_refl _) hv0 (by omega)
  rw [hvs] at hfew
  rw [CL_light fn5 rfl _ (by simp), hvs]
  cases t with
  | false => simp (config := {maxSteps := 20000000, dsimp := false}) (disch := first | omega | (simp only [low_push, low_put, next_push, next_put, next_mk, len_next, List.length_cons, List.length_nil] <;> omega) | fail) only [↓rpre, rpost1, rpost2, rpost3, rpost4, rpost5, envOf, ↓reduceIte, Nat.reduceEqDiff, List.getElem?_toArray, List.getElem?_cons_zero, List.getElem?_cons_succ, reduceCtorEq, Nat.reduceAdd, Nat.reduceSub, Nat.reduceMul, Nat.reduceLeDiff, Nat.reduceLT, Nat.reduceDiv, Nat.reduceMod, Int.reduceEq, Int.reduceNe, Int.reduceLT, Int.reduceLE, Int.reduceGT, Int.reduceGE, Int.reduceAdd, Int.reduceSub, Int.reduceMul, Int.reduceNeg, Int.reduceToNat , awake, hfew]
  | true =>
    have hSp := Stay.first H (.cells [] true 5)
    have hub : SlI (Heap.push ⟨H.bs, H.next⟩ (.cells [] true 5)) H.next 5 (EvR (Heap.push ⟨H.bs, H.next⟩ (.cells [] true 5)) H.next) v l := EvsR.mono hv0 (fun j hj => hSp.get j hj) (Nat.le_refl _)
    obtain ⟨el1, hel1, hrow1⟩ := hub.cells
    rw [hvs] at hel1
    obtain ⟨v2, h2, H2, hc2, g2, hO2, hS2⟩ := append_ownC (P := Try.prog) (t := 22) ty22.2.2.2.2.2.2 ty33.1 ty33.2.1 ty33.2.2.1 (by omega) (by omega) (H := Heap.push ⟨H.bs, H.next⟩ (.cells [] true 5)) (lo := H.next) (v := .slice (some ⟨H.next, 0, none⟩) 0 0) (n := 0) (cs := []) (.inr ⟨H.next, 0, rfl, get_push_next, Nat.le_refl _, rfl⟩) hel1 hrow1.1 (by omega) (by rw [next_push]; show H.next ≤ H.next + 1; omega)
    have hS02 : Stay H.next H H2 := hSp.trans hS2
    have hn2 := hS02.next
    have hl2 : H.next ≤ H2.low := hS2.low (Nat.le_refl _)
    have hw : EvsR H2 H2.next v2 l := by
      refine OwnC.sl (lo := H.next) (cs := [] ++ el1) ?_ ?_
      · rw [← Nat.zero_add l.length]; exact hO2
      · rw [List.nil_append]
        exact ⟨hrow1.1, fun i a hi => EvR.mono (fun j hj => hS2.get j hj) hn2 (hrow1.2 i a hi)⟩
    have hv2 : EvsR H2 H2.next (.slice a l.length c) l := by rw [← hvs]; exact EvsR.mono hv (fun j hj => hS02.get j hj) hn2
    obtain ⟨w3, h3, H3, hc3, g3, hO3, hS3⟩ := word_nodes H2 H2.next _ l (Nat.le_refl _) hv2 (by omega)
    obtain ⟨a3, c3, rfl⟩ := hO3.ownC.slice
    have hn3 : H2.next ≤ H3.next := hS3.next
    simp (config := {maxSteps := 20000000, dsimp := false}) (disch := first | omega | (simp only [low_push, low_put, next_push, next_put, next_mk, len_next, List.length_cons, List.length_nil] <;> omega) | fail) only [↓rpre, rpost1, rpost2, rpost3, rpost4, rpost5, envOf, ↓reduceIte, Nat.reduceEqDiff, List.getElem?_toArray, List.getElem?_cons_zero, List.getElem?_cons_succ, reduceCtorEq, Nat.reduceAdd, Nat.reduceSub, Nat.reduceMul, Nat.reduceLeDiff, Nat.reduceLT, Nat.reduceDiv, Nat.reduceMod, Int.reduceEq, Int.reduceNe, Int.reduceLT, Int.reduceLE, Int.reduceGT, Int.reduceGE, Int.reduceAdd, Int.reduceSub, Int.reduceMul, Int.reduceNeg, Int.reduceToNat , awake, hfew, ty22, ty33, hc2, g2, hc3, g3]
    refine after_prop (F := fun z => bodyRet _ _ _ (thenDo (inBlock 0 z) _) = _) (keeps_a H3 H2.next (.slice a l.length c) v2 a3 (wNodes l).length c3 (by have := nodes_len l; omega) (wNodes l).length _ _ ⟨0, rfl, by omega, rfl, rfl, rfl, rfl, hO3.ownC.own0, Stay.refl _ _⟩) ?_
    rintro o e4 H4 ⟨ho, g40, g43, hS4⟩
    have hS24 : Stay H2.next H2 H4 := hS3.trans hS4
    have hn4 := hS24.next
    have hv4 : EvsR H4 H2.next (.slice a l.length c) l := EvsR.mono hv2 (fun j hj => hS24.get j hj) (Nat.le_refl _)
    obtain ⟨w5, h5, H5, hc5, g5, hO5, hS5⟩ := word_closers H4 H2.next _ l hn4 hv4 (by omega)
    obtain ⟨a5, c5, rfl⟩ := hO5.slice
    obtain ⟨ck, cl⟩ := closers_any l
    have hS25 : Stay H2.next H2 H5 := hS24.trans (hS5.weaken hn4)
    simp (config := {maxSteps := 20000000, dsimp := false}) (disch := first | omega | (simp only [low_push, low_put, next_push, next_put, next_mk, len_next, List.length_cons, List.length_nil] <;> omega) | fail) only [↓rpre, rpost1, rpost2, rpost3, rpost4, rpost5, envOf, ↓reduceIte, Nat.reduceEqDiff, List.getElem?_toArray, List.getElem?_cons_zero, List.getElem?_cons_succ, reduceCtorEq, Nat.reduceAdd, Nat.reduceSub, Nat.reduceMul, Nat.reduceLeDiff, Nat.reduceLT, Nat.reduceDiv, Nat.reduceMod, Int.reduceEq, Int.reduceNe, Int.reduceLT, Int.reduceLE, Int.reduceGT, Int.reduceGE, Int.reduceAdd, Int.reduceSub, Int.reduceMul, Int.reduceNeg, Int.reduceToNat , ho, g40, hc5, g5]
    refine after_prop (F := fun z => bodyRet _ _ _ (thenDo (inBlock 2 z) _) = _) (keeps_b H5 H2.next (.slice a l.length c) v2 a5 (wClosers l).length c5 (by omega) (wClosers l).length _ _ ⟨0, rfl, by omega, g40, g43, rfl, rfl, (hO5.mono (H' := H5) hn4 (fun _ _ => rfl)).own0, Stay.refl _ _⟩) ?_
    rintro o6 e6 H6 ⟨ho6, g60, g63, hS6⟩
    have hS26 : Stay H2.next H2 H6 := hS25.trans hS6
    have hn6 := hS26.next
    have hv6 : EvsR H6 H2.next (.slice a l.length c) l := EvsR.mono hv2 (fun j hj => hS26.get j hj) (Nat.le_refl _)
    obtain ⟨w7, h7, H7, hc7, g7, hO7, hS7⟩ := word_closers H6 H2.next _ l hn6 hv6 (by omega)
    obtain ⟨a7, c7, rfl⟩ := hO7.slice
    have hS27 : Stay H2.next H2 H7 := hS26.trans (hS7.weaken hn6)
    simp (config := {maxSteps := 20000000, dsimp := false}) (disch := first | omega | (simp only [low_push, low_put, next_push, next_put, next_mk, len_next, List.length_cons, List.length_nil] <;> omega) | fail) only [↓rpre, rpost1, rpost2, rpost3, rpost4, rpost5, envOf, ↓reduceIte, Nat.reduceEqDiff, List.getElem?_toArray, List.getElem?_cons_zero, List.getElem?_cons_succ, reduceCtorEq, Nat.reduceAdd, Nat.reduceSub, Nat.reduceMul, Nat.reduceLeDiff, Nat.reduceLT, Nat.reduceDiv, Nat.reduceMod, Int.reduceEq, Int.reduceNe, Int.reduceLT, Int.reduceLE, Int.reduceGT, Int.reduceGE, Int.reduceAdd, Int.reduceSub, Int.reduceMul, Int.reduceNeg, Int.reduceToNat , ho6, g60, hc7, g7]
    refine after_prop (F := fun z => bodyRet _ _ _ (thenDo (inBlock 4 z) _) = _) (keeps_c H7 H6.next (.slice a l.length c) v2 a7 (wClosers l).length c7 (wClosers l) rfl (by omega) ck hO7 (wClosers l).length _ _ ⟨0, rfl, by omega, g60, g63, rfl, rfl, rfl⟩) ?_
    rintro o8 e8 H8 ⟨ho8, g80, g83, hH8⟩
    have hn7 := hS27.next
    have hsame := ref_same H7 H2.next (.slice a l.length c) v2 l hn7 (by omega) (EvsR.mono hv2 (fun j hj => hS27.get j hj) (Nat.le_refl _)) (EvsR.mono hw (fun j hj => hS27.get j hj) (Nat.le_refl _))
    have hl7 : H.next ≤ H7.low := hS27.lowAll H.next hn2 hl2
    simp (config := {maxSteps := 20000000, dsimp := false}) (disch := first | omega | (simp only [low_push, low_put, next_push, next_put, next_mk, len_next, List.length_cons, List.length_nil] <;> omega) | fail) only [↓rpre, rpost1, rpost2, rpost3, rpost4, rpost5, envOf, ↓reduceIte, Nat.reduceEqDiff, List.getElem?_toArray, List.getElem?_cons_zero, List.getElem?_cons_succ, reduceCtorEq, Nat.reduceAdd, Nat.reduceSub, Nat.reduceMul, Nat.reduceLeDiff, Nat.reduceLT, Nat.reduceDiv, Nat.reduceMod, Int.reduceEq, Int.reduceNe, Int.reduceLT, Int.reduceLE, Int.reduceGT, Int.reduceGE, Int.reduceAdd, Int.reduceSub, Int.reduceMul, Int.reduceNeg, Int.reduceToNat , ho8, g80, g83, hH8, hsame]
end Go.Proofs.Ytcpolfjnbbodgaa.Ve
