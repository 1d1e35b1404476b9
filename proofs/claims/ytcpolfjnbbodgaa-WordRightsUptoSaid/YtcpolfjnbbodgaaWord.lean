/- The runs of word's attrs, Right, Begins, Depth, Whole. Conditions: none here. -/
import Derived.Test.YtcpolfjnbbodgaaText
namespace Go.Proofs.Ytcpolfjnbbodgaa.Ve
open Go Go.RowKit
set_option linter.unusedVariables false
set_option linter.unusedSimpArgs false
set_option maxRecDepth 100000
set_option maxHeartbeats 0

structure AtD where
  space : ByteArray
  loc : ByteArray
  val : ByteArray
def AtR (cs : List Value) (a : AtD) : Prop := cs = [.string a.space, .string a.loc, .string a.val] ∧ a.space.size ≤ 1048576 ∧ a.loc.size ≤ 1048576 ∧ a.val.size ≤ 1048576
def aGo : List (ByteArray × ByteArray) → List AtD → Bool
  | _, [] => true
  | seen, a :: r => if seen2 (a.space, a.loc) seen || !wNamed a.space a.loc || !wText a.val then false else aGo (seen ++ [(a.space, a.loc)]) r
def wAttrs (l : List AtD) : Bool := aGo [] l && decide (l.length ≤ 32)
def seenB (seen : List (ByteArray × ByteArray)) : Blk := .map ((seen.map fun x => (x, .bool true)).map ent2)
theorem seen_look (seen : List (ByteArray × ByteArray)) (a b : ByteArray) : lookB Try.prog (some (30, 4)) (some (seenB seen)) (.agg #[.string a, .string b]) false = some (.bool (seen2 (a, b) seen)) := by
  have h := lookup2 (P := Try.prog) (kt := 30) (et := 4) ty30.2.2.2.2.2.2.1 ty30.2.2.2.2.1 ty4.2.2.2.1 (seen.map fun x => (x, Value.bool true)) (a, b)
  rw [find2_in] at h
  rw [seenB]
  refine h.trans ?_
  cases seen2 (a, b) seen <;> rfl
theorem seen_upd (seen : List (ByteArray × ByteArray)) (a b : ByteArray) (H : Heap) (m : Nat) (h : seen2 (a, b) seen = false) : updB Try.prog (some (30, 4)) (some (seenB seen)) H m (.agg #[.string a, .string b]) (.bool true) = some (H.put m (seenB (seen ++ [(a, b)]))) := by
  have h2 : find2 (a, b) (seen.map fun x => (x, Value.bool true)) 0 = none := by
    have := find2_in (a, b) (.bool true) seen 0
    rw [h] at this
    cases hf : find2 (a, b) (seen.map fun x => (x, Value.bool true)) 0 with
    | none => rfl
    | some q => rw [hf] at this; cases this
  have h := update2 (P := Try.prog) (kt := 30) (et := 4) ty30.2.2.2.2.2.2.1 ty30.2.2.2.2.1 H m (seen.map fun x => (x, Value.bool true)) (a, b) (.bool true) h2
  rw [seenB, seenB, List.map_append]
  exact h

theorem attrs_loop (H : Heap) (lo : Nat) (v : Value) (l : List AtD) (mb : Nat) (hlo : lo ≤ H.next) (hv : SlI H lo 3 AtR v l) (hn : l.length ≤ 1048576) (hmb : H.next ≤ mb) (r : Bool) : ∀ k e H2, (∃ i seen, k = l.length - i ∧ i ≤ l.length ∧ e.get 0 = v ∧ e.get 7 = v ∧ e.get 8 = .int .i64 l.length ∧ e.get 9 = .int .i64 i ∧ e.get 3 = .map (some mb) ∧ H2.get mb = some (seenB seen) ∧ Stay H.next H H2 ∧ H.next ≤ H2.low ∧ aGo seen (l.drop i) = r) →
    After (LE Try.prog lib0 (.loop f22b0) e H2) (fun o e H2 => H.next ≤ H2.low ∧ ((o = .exit 0 ∧ e.get 0 = v ∧ r = true) ∨ (o = .ret ∧ e.get 2 = .bool false ∧ r = false))) := by
  refine loopL_after _ _ ?_
  rintro k e H2 ⟨i, seen, hk, hi, f0, f7, f8, f9, f3, hm, hS, hl, fu⟩
  simp (config := {maxSteps := 20000000, dsimp := false}) (disch := first | omega | (simp only [low_push, low_put, next_push, next_put, next_mk, len_next, List.length_cons, List.length_nil] <;> omega) | fail) only [↓rpre, rpost1, rpost2, rpost3, rpost4, rpost5, envOf, ↓reduceIte, Nat.reduceEqDiff, List.getElem?_toArray, List.getElem?_cons_zero, List.getElem?_cons_succ, reduceCtorEq, Nat.reduceAdd, Nat.reduceSub, Nat.reduceMul, Nat.reduceLeDiff, Nat.reduceLT, Nat.reduceDiv, Nat.reduceMod, Int.reduceEq, Int.reduceNe, Int.reduceLT, Int.reduceLE, Int.reduceGT, Int.reduceGE, Int.reduceAdd, Int.reduceSub, Int.reduceMul, Int.reduceNeg, Int.reduceToNat , f0, f7, f8, f9, ty3]
  rcases hb : decide ((i : Int) < l.length) with _ | _
  · have hb' := of_decide_eq_false hb
    have : l.drop i = [] := List.drop_eq_nil_of_le (by omega)
    rw [this, aGo] at fu
    simp (config := {maxSteps := 20000000, dsimp := false}) (disch := first | omega | (simp only [low_push, low_put, next_push, next_put, next_mk, len_next, List.length_cons, List.length_nil] <;> omega) | fail) only [↓rpre, rpost1, rpost2, rpost3, rpost4, rpost5, envOf, ↓reduceIte, Nat.reduceEqDiff, List.getElem?_toArray, List.getElem?_cons_zero, List.getElem?_cons_succ, reduceCtorEq, Nat.reduceAdd, Nat.reduceSub, Nat.reduceMul, Nat.reduceLeDiff, Nat.reduceLT, Nat.reduceDiv, Nat.reduceMod, Int.reduceEq, Int.reduceNe, Int.reduceLT, Int.reduceLE, Int.reduceGT, Int.reduceGE, Int.reduceAdd, Int.reduceSub, Int.reduceMul, Int.reduceNeg, Int.reduceToNat ]
    refine LoopG_exit ⟨hl, .inl ⟨rfl, ?_, fu.symm⟩⟩
    simp (config := {maxSteps := 20000000, dsimp := false}) (disch := first | omega | (simp only [low_push, low_put, next_push, next_put, next_mk, len_next, List.length_cons, List.length_nil] <;> omega) | fail) only [↓rpre, rpost1, rpost2, rpost3, rpost4, rpost5, envOf, ↓reduceIte, Nat.reduceEqDiff, List.getElem?_toArray, List.getElem?_cons_zero, List.getElem?_cons_succ, reduceCtorEq, Nat.reduceAdd, Nat.reduceSub, Nat.reduceMul, Nat.reduceLeDiff, Nat.reduceLT, Nat.reduceDiv, Nat.reduceMod, Int.reduceEq, Int.reduceNe, Int.reduceLT, Int.reduceLE, Int.reduceGT, Int.reduceGE, Int.reduceAdd, Int.reduceSub, Int.reduceMul, Int.reduceNeg, Int.reduceToNat , f0]
  · have hb' := of_decide_eq_true hb
    have hi' : i < l.length := by omega
    obtain ⟨a, ha⟩ : ∃ a, l[i]? = some a := ⟨l[i], by simp [hi']⟩
    have hd : l.drop i = a :: l.drop (i + 1) := by rw [List.drop_eq_getElem_cons hi']; congr 1; rw [List.getElem?_eq_getElem hi'] at ha; exact Option.some.inj ha
    rw [hd, aGo] at fu
    obtain ⟨b, o, c, cs, own, hv', hblo, hg, hle, hr, hz1, hz2, hz3⟩ := hv.at_ ha
    have hg2 : H2.get b = some (.cells cs own 3) := by rw [hS.get b (by omega)]; exact hg
    have hrow := row_agg hle hr
    have hml := get_lt hm
    have hbl := get_lt hg2
    have hSn := hS.next
    have nt : (i : Int).toNat = i := Int.toNat_natCast i
    rw [hv'] at f7 f0
    simp (config := {maxSteps := 20000000, dsimp := false}) (disch := first | omega | (simp only [low_push, low_put, next_push, next_put, next_mk, len_next, List.length_cons, List.length_nil] <;> omega) | fail) only [↓rpre, rpost1, rpost2, rpost3, rpost4, rpost5, envOf, ↓reduceIte, Nat.reduceEqDiff, List.getElem?_toArray, List.getElem?_cons_zero, List.getElem?_cons_succ, reduceCtorEq, Nat.reduceAdd, Nat.reduceSub, Nat.reduceMul, Nat.reduceLeDiff, Nat.reduceLT, Nat.reduceDiv, Nat.reduceMod, Int.reduceEq, Int.reduceNe, Int.reduceLT, Int.reduceLE, Int.reduceGT, Int.reduceGE, Int.reduceAdd, Int.reduceSub, Int.reduceMul, Int.reduceNeg, Int.reduceToNat , f0, f7, f8, f9, f3, ty3, ty31, ty39, ty30, ty9, ty4, ty48, hg2, hrow, hm, seen_look, word_text, word_named]
    have hlow : ∀ B B', H.next ≤ ((H2.push B).put H2.next B').low := fun B B' => by rw [low_put, low_push]; omega
    rcases h1 : seen2 (a.space, a.loc) seen with _ | _
    · rcases h2 : wNamed a.space a.loc with _ | _
      · simp (config := {maxSteps := 20000000, dsimp := false}) (disch := first | omega | (simp only [low_push, low_put, next_push, next_put, next_mk, len_next, List.length_cons, List.length_nil] <;> omega) | fail) only [↓rpre, rpost1, rpost2, rpost3, rpost4, rpost5, envOf, ↓reduceIte, Nat.reduceEqDiff, List.getElem?_toArray, List.getElem?_cons_zero, List.getElem?_cons_succ, reduceCtorEq, Nat.reduceAdd, Nat.reduceSub, Nat.reduceMul, Nat.reduceLeDiff, Nat.reduceLT, Nat.reduceDiv, Nat.reduceMod, Int.reduceEq, Int.reduceNe, Int.reduceLT, Int.reduceLE, Int.reduceGT, Int.reduceGE, Int.reduceAdd, Int.reduceSub, Int.reduceMul, Int.reduceNeg, Int.reduceToNat , f0, f7, f8, f9, f3, ty3, ty31, ty39, ty30, ty9, ty4, ty48, hg2, hrow, hm, h1, h2, word_text, word_named]
        exact LoopG_ret ⟨hlow _ _, .inr ⟨rfl, rfl, by rw [← fu]; simp [h2]⟩⟩
      rcases h3 : wText a.val with _ | _
      · simp (config := {maxSteps := 20000000, dsimp := false}) (disch := first | omega | (simp only [low_push, low_put, next_push, next_put, next_mk, len_next, List.length_cons, List.length_nil] <;> omega) | fail) only [↓rpre, rpost1, rpost2, rpost3, rpost4, rpost5, envOf, ↓reduceIte, Nat.reduceEqDiff, List.getElem?_toArray, List.getElem?_cons_zero, List.getElem?_cons_succ, reduceCtorEq, Nat.reduceAdd, Nat.reduceSub, Nat.reduceMul, Nat.reduceLeDiff, Nat.reduceLT, Nat.reduceDiv, Nat.reduceMod, Int.reduceEq, Int.reduceNe, Int.reduceLT, Int.reduceLE, Int.reduceGT, Int.reduceGE, Int.reduceAdd, Int.reduceSub, Int.reduceMul, Int.reduceNeg, Int.reduceToNat , f0, f7, f8, f9, f3, ty3, ty31, ty39, ty30, ty9, ty4, ty48, hg2, hrow, hm, h1, h2, h3, word_text, word_named]
        exact LoopG_ret ⟨hlow _ _, .inr ⟨rfl, rfl, by rw [← fu]; simp [h3]⟩⟩
      have hu := seen_upd seen a.space a.loc ((H2.push (.cells [.string ByteArray.empty, .string ByteArray.empty, .string ByteArray.empty] true 1)).put H2.next (.cells [.string a.space, .string a.loc, .string a.val] true 1)) mb h1
      simp (config := {maxSteps := 20000000, dsimp := false}) (disch := first | omega | (simp only [low_push, low_put, next_push, next_put, next_mk, len_next, List.length_cons, List.length_nil] <;> omega) | fail) only [↓rpre, rpost1, rpost2, rpost3, rpost4, rpost5, envOf, ↓reduceIte, Nat.reduceEqDiff, List.getElem?_toArray, List.getElem?_cons_zero, List.getElem?_cons_succ, reduceCtorEq, Nat.reduceAdd, Nat.reduceSub, Nat.reduceMul, Nat.reduceLeDiff, Nat.reduceLT, Nat.reduceDiv, Nat.reduceMod, Int.reduceEq, Int.reduceNe, Int.reduceLT, Int.reduceLE, Int.reduceGT, Int.reduceGE, Int.reduceAdd, Int.reduceSub, Int.reduceMul, Int.reduceNeg, Int.reduceToNat , f0, f7, f8, f9, f3, ty3, ty31, ty39, ty30, ty9, ty4, ty48, hg2, hrow, hm, h1, h2, h3, word_text, word_named, hu, wrap_small]
      refine LoopG_normal (k - 1) (by omega) ⟨i + 1, _, by omega, by omega, ?_, ?_, ?_, rfl, ?_, get_put_same (by rw [next_put, next_push]; omega), (hS.trans ((Stay.push hSn).trans (Stay.put hSn))).trans (Stay.put hmb), ?_, by rw [← fu]; simp [h1, h2, h3]⟩
      · rw [hv']; exact f0
      · rw [hv']; exact f7
      · exact f8
      · exact f3
      · rw [low_put]; have := hlow (.cells [.string ByteArray.empty, .string ByteArray.empty, .string ByteArray.empty] true 1) (.cells [.string a.space, .string a.loc, .string a.val] true 1); omega
    · simp (config := {maxSteps := 20000000, dsimp := false}) (disch := first | omega | (simp only [low_push, low_put, next_push, next_put, next_mk, len_next, List.length_cons, List.length_nil] <;> omega) | fail) only [↓rpre, rpost1, rpost2, rpost3, rpost4, rpost5, envOf, ↓reduceIte, Nat.reduceEqDiff, List.getElem?_toArray, List.getElem?_cons_zero, List.getElem?_cons_succ, reduceCtorEq, Nat.reduceAdd, Nat.reduceSub, Nat.reduceMul, Nat.reduceLeDiff, Nat.reduceLT, Nat.reduceDiv, Nat.reduceMod, Int.reduceEq, Int.reduceNe, Int.reduceLT, Int.reduceLE, Int.reduceGT, Int.reduceGE, Int.reduceAdd, Int.reduceSub, Int.reduceMul, Int.reduceNeg, Int.reduceToNat , f0, f7, f8, f9, f3, ty3, ty31, ty39, ty30, ty9, ty4, ty48, hg2, hrow, hm, h1, word_text, word_named]
      exact LoopG_ret ⟨hlow _ _, .inr ⟨rfl, rfl, by rw [← fu]; simp [h1]⟩⟩
theorem word_attrs (H : Heap) (lo : Nat) (v : Value) (l : List AtD) (hlo : lo ≤ H.next) (hv : SlI H lo 3 AtR v l) (hn : l.length ≤ 1048576) : CL Try.prog lib0 22 [v] H = some (.bool (wAttrs l), none) := by
  obtain ⟨a, c, hvs⟩ := hv.slice
  rw [CL_light fn22 rfl _ (by simp)]
  simp (config := {maxSteps := 20000000, dsimp := false}) (disch := first | omega | (simp only [low_push, low_put, next_push, next_put, next_mk, len_next, List.length_cons, List.length_nil] <;> omega) | fail) only [↓rpre, rpost1, rpost2, rpost3, rpost4, rpost5, envOf, ↓reduceIte, Nat.reduceEqDiff, List.getElem?_toArray, List.getElem?_cons_zero, List.getElem?_cons_succ, reduceCtorEq, Nat.reduceAdd, Nat.reduceSub, Nat.reduceMul, Nat.reduceLeDiff, Nat.reduceLT, Nat.reduceDiv, Nat.reduceMod, Int.reduceEq, Int.reduceNe, Int.reduceLT, Int.reduceLE, Int.reduceGT, Int.reduceGE, Int.reduceAdd, Int.reduceSub, Int.reduceMul, Int.reduceNeg, Int.reduceToNat , ty48, ty31, hvs]
  have hv2 : SlI H lo 3 AtR (.slice a l.length c) l := by rw [← hvs]; exact hv
  refine after_prop (F := fun z => bodyRet _ _ _ (thenDo (inBlock 0 z) _) = _) (attrs_loop H lo (.slice a l.length c) l H.next hlo hv2 hn (Nat.le_refl _) (aGo [] l) l.length _ _ ⟨0, [], rfl, by omega, rfl, rfl, rfl, rfl, rfl, ?_, Stay.first H _, ?_, rfl⟩) ?_
  · simp (config := {maxSteps := 20000000, dsimp := false}) (disch := first | omega | (simp only [low_push, low_put, next_push, next_put, next_mk, len_next, List.length_cons, List.length_nil] <;> omega) | fail) only [↓rpre, rpost1, rpost2, rpost3, rpost4, rpost5, envOf, ↓reduceIte, Nat.reduceEqDiff, List.getElem?_toArray, List.getElem?_cons_zero, List.getElem?_cons_succ, reduceCtorEq, Nat.reduceAdd, Nat.reduceSub, Nat.reduceMul, Nat.reduceLeDiff, Nat.reduceLT, Nat.reduceDiv, Nat.reduceMod, Int.reduceEq, Int.reduceNe, Int.reduceLT, Int.reduceLE, Int.reduceGT, Int.reduceGE, Int.reduceAdd, Int.reduceSub, Int.reduceMul, Int.reduceNeg, Int.reduceToNat , seenB]
  · simp (config := {maxSteps := 20000000, dsimp := false}) (disch := first | omega | (simp only [low_push, low_put, next_push, next_put, next_mk, len_next, List.length_cons, List.length_nil] <;> omega) | fail) only [↓rpre, rpost1, rpost2, rpost3, rpost4, rpost5, envOf, ↓reduceIte, Nat.reduceEqDiff, List.getElem?_toArray, List.getElem?_cons_zero, List.getElem?_cons_succ, reduceCtorEq, Nat.reduceAdd, Nat.reduceSub, Nat.reduceMul, Nat.reduceLeDiff, Nat.reduceLT, Nat.reduceDiv, Nat.reduceMod, Int.reduceEq, Int.reduceNe, Int.reduceLT, Int.reduceLE, Int.reduceGT, Int.reduceGE, Int.reduceAdd, Int.reduceSub, Int.reduceMul, Int.reduceNeg, Int.reduceToNat , if_true]
  rw [wAttrs]
  rintro o e' H' ⟨hl, ⟨ho, h0, hr⟩ | ⟨ho, h2, hr⟩⟩
  · simp (config := {maxSteps := 20000000, dsimp := false}) (disch := first | omega | (simp only [low_push, low_put, next_push, next_put, next_mk, len_next, List.length_cons, List.length_nil] <;> omega) | fail) only [↓rpre, rpost1, rpost2, rpost3, rpost4, rpost5, envOf, ↓reduceIte, Nat.reduceEqDiff, List.getElem?_toArray, List.getElem?_cons_zero, List.getElem?_cons_succ, reduceCtorEq, Nat.reduceAdd, Nat.reduceSub, Nat.reduceMul, Nat.reduceLeDiff, Nat.reduceLT, Nat.reduceDiv, Nat.reduceMod, Int.reduceEq, Int.reduceNe, Int.reduceLT, Int.reduceLE, Int.reduceGT, Int.reduceGE, Int.reduceAdd, Int.reduceSub, Int.reduceMul, Int.reduceNeg, Int.reduceToNat , ho, h0, hr, ty31]
    have : decide ((l.length : Int) ≤ 32) = decide (l.length ≤ 32) := decide_eq_decide.2 (by omega)
    rw [this]
  · simp (config := {maxSteps := 20000000, dsimp := false}) (disch := first | omega | (simp only [low_push, low_put, next_push, next_put, next_mk, len_next, List.length_cons, List.length_nil] <;> omega) | fail) only [↓rpre, rpost1, rpost2, rpost3, rpost4, rpost5, envOf, ↓reduceIte, Nat.reduceEqDiff, List.getElem?_toArray, List.getElem?_cons_zero, List.getElem?_cons_succ, reduceCtorEq, Nat.reduceAdd, Nat.reduceSub, Nat.reduceMul, Nat.reduceLeDiff, Nat.reduceLT, Nat.reduceDiv, Nat.reduceMod, Int.reduceEq, Int.reduceNe, Int.reduceLT, Int.reduceLE, Int.reduceGT, Int.reduceGE, Int.reduceAdd, Int.reduceSub, Int.reduceMul, Int.reduceNeg, Int.reduceToNat , ho, h2, hr]
/-- events -/
structure EvD where
  kind : Int
  space : ByteArray
  loc : ByteArray
  attrs : List AtD
  text : ByteArray
def EvR (H : Heap) (lo : Nat) (cs : List Value) (e : EvD) : Prop :=
  ∃ v, cs = [.int .i64 e.kind, .string e.space, .string e.loc, v, .string e.text] ∧ SlI H lo 3 AtR v e.attrs ∧ e.space.size ≤ 1048576 ∧ e.loc.size ≤ 1048576 ∧ e.text.size ≤ 1048576 ∧ e.attrs.length ≤ 1048576
theorem EvR.mono {H H' : Heap} {lo lo' : Nat} (hg : ∀ j, j < lo → H'.get j = H.get j) (hlo : lo ≤ lo') {cs : List Value} {e : EvD} (h : EvR H lo cs e) : EvR H' lo' cs e := by
  obtain ⟨v, h1, h2, h3⟩ := h
  exact ⟨v, h1, h2.mono hg hlo (fun _ _ h => h), h3⟩
def emp : ByteArray := ByteArray.empty
def wRight (e : EvD) : Bool :=
  if e.kind = 1 then decide (e.text = .empty) && wNamed e.space e.loc && wAttrs e.attrs
  else if e.kind = 2 then !decide (e.text = .empty) && wText e.text && (decide (e.space = .empty) && decide (e.loc = .empty)) && decide (e.attrs.length = 0)
  else if e.kind = 3 then decide (e.text = .empty) && (decide (e.space = .empty) && decide (e.loc = .empty)) && decide (e.attrs.length = 0)
  else false
theorem word_right (H : Heap) (lo : Nat) (cs : List Value) (e : EvD) (hlo : lo ≤ H.next) (hv : EvR H lo cs e) : CL Try.prog lib0 16 [.agg cs.toArray] H = some (.bool (wRight e), none) := by
  obtain ⟨v, rfl, hv, hz1, hz2, hz3, hz4⟩ := hv
  obtain ⟨a, c, rfl⟩ := hv.slice
  have hat : ∀ H', Stay H.next H H' → CL Try.prog lib0 22 [.slice a e.attrs.length c] H' = some (.bool (wAttrs e.attrs), none) := fun H' hS => word_attrs H' lo _ _ (by have := hS.next; omega) (hv.mono (fun j hj => hS.get j (by omega)) (Nat.le_refl _) (fun _ _ h => h)) hz4
  have hat1 := fun B => hat _ (Stay.first H B)
  have n0 : decide (((e.attrs.length : Nat) : Int) = 0) = decide (e.attrs.length = 0) := decide_eq_decide.2 (by omega)
  rw [CL_light fn16 rfl _ (by simp), wRight]
  simp (config := {maxSteps := 20000000, dsimp := false}) (disch := first | omega | (simp only [low_push, low_put, next_push, next_put, next_mk, len_next, List.length_cons, List.length_nil] <;> omega) | fail) only [↓rpre, rpost1, rpost2, rpost3, rpost4, rpost5, envOf, ↓reduceIte, Nat.reduceEqDiff, List.getElem?_toArray, List.getElem?_cons_zero, List.getElem?_cons_succ, reduceCtorEq, Nat.reduceAdd, Nat.reduceSub, Nat.reduceMul, Nat.reduceLeDiff, Nat.reduceLT, Nat.reduceDiv, Nat.reduceMod, Int.reduceEq, Int.reduceNe, Int.reduceLT, Int.reduceLE, Int.reduceGT, Int.reduceGE, Int.reduceAdd, Int.reduceSub, Int.reduceMul, Int.reduceNeg, Int.reduceToNat , ty3, ty31, ty39, ty30, ty9, ty4, ty33]
  by_cases k1 : e.kind = 1
  · rw [if_pos k1]
    simp (config := {maxSteps := 20000000, dsimp := false}) (disch := first | omega | (simp only [low_push, low_put, next_push, next_put, next_mk, len_next, List.length_cons, List.length_nil] <;> omega) | fail) only [↓rpre, rpost1, rpost2, rpost3, rpost4, rpost5, envOf, ↓reduceIte, Nat.reduceEqDiff, List.getElem?_toArray, List.getElem?_cons_zero, List.getElem?_cons_succ, reduceCtorEq, Nat.reduceAdd, Nat.reduceSub, Nat.reduceMul, Nat.reduceLeDiff, Nat.reduceLT, Nat.reduceDiv, Nat.reduceMod, Int.reduceEq, Int.reduceNe, Int.reduceLT, Int.reduceLE, Int.reduceGT, Int.reduceGE, Int.reduceAdd, Int.reduceSub, Int.reduceMul, Int.reduceNeg, Int.reduceToNat , k1, ty3, ty31, ty39, ty30, ty9, ty4, ty33]
    rcases h1 : decide (e.text = ByteArray.empty) with _ | _
    · simp (config := {maxSteps := 20000000, dsimp := false}) (disch := first | omega | (simp only [low_push, low_put, next_push, next_put, next_mk, len_next, List.length_cons, List.length_nil] <;> omega) | fail) only [↓rpre, rpost1, rpost2, rpost3, rpost4, rpost5, envOf, ↓reduceIte, Nat.reduceEqDiff, List.getElem?_toArray, List.getElem?_cons_zero, List.getElem?_cons_succ, reduceCtorEq, Nat.reduceAdd, Nat.reduceSub, Nat.reduceMul, Nat.reduceLeDiff, Nat.reduceLT, Nat.reduceDiv, Nat.reduceMod, Int.reduceEq, Int.reduceNe, Int.reduceLT, Int.reduceLE, Int.reduceGT, Int.reduceGE, Int.reduceAdd, Int.reduceSub, Int.reduceMul, Int.reduceNeg, Int.reduceToNat , k1, h1, ty3, ty31, ty39, ty30, ty9, ty4, ty33]
    rcases h2 : wNamed e.space e.loc with _ | _
    · simp (config := {maxSteps := 20000000, dsimp := false}) (disch := first | omega | (simp only [low_push, low_put, next_push, next_put, next_mk, len_next, List.length_cons, List.length_nil] <;> omega) | fail) only [↓rpre, rpost1, rpost2, rpost3, rpost4, rpost5, envOf, ↓reduceIte, Nat.reduceEqDiff, List.getElem?_toArray, List.getElem?_cons_zero, List.getElem?_cons_succ, reduceCtorEq, Nat.reduceAdd, Nat.reduceSub, Nat.reduceMul, Nat.reduceLeDiff, Nat.reduceLT, Nat.reduceDiv, Nat.reduceMod, Int.reduceEq, Int.reduceNe, Int.reduceLT, Int.reduceLE, Int.reduceGT, Int.reduceGE, Int.reduceAdd, Int.reduceSub, Int.reduceMul, Int.reduceNeg, Int.reduceToNat , k1, h1, h2, ty3, ty31, ty39, ty30, ty9, ty4, ty33, word_named]
    simp (config := {maxSteps := 20000000, dsimp := false}) (disch := first | omega | (simp only [low_push, low_put, next_push, next_put, next_mk, len_next, List.length_cons, List.length_nil] <;> omega) | fail) only [↓rpre, rpost1, rpost2, rpost3, rpost4, rpost5, envOf, ↓reduceIte, Nat.reduceEqDiff, List.getElem?_toArray, List.getElem?_cons_zero, List.getElem?_cons_succ, reduceCtorEq, Nat.reduceAdd, Nat.reduceSub, Nat.reduceMul, Nat.reduceLeDiff, Nat.reduceLT, Nat.reduceDiv, Nat.reduceMod, Int.reduceEq, Int.reduceNe, Int.reduceLT, Int.reduceLE, Int.reduceGT, Int.reduceGE, Int.reduceAdd, Int.reduceSub, Int.reduceMul, Int.reduceNeg, Int.reduceToNat , k1, h1, h2, ty3, ty31, ty39, ty30, ty9, ty4, ty33, word_named, hat1]
  rw [if_neg k1]
  by_cases k2 : e.kind = 2
  · rw [if_pos k2]
    simp (config := {maxSteps := 20000000, dsimp := false}) (disch := first | omega | (simp only [low_push, low_put, next_push, next_put, next_mk, len_next, List.length_cons, List.length_nil] <;> omega) | fail) only [↓rpre, rpost1, rpost2, rpost3, rpost4, rpost5, envOf, ↓reduceIte, Nat.reduceEqDiff, List.getElem?_toArray, List.getElem?_cons_zero, List.getElem?_cons_succ, reduceCtorEq, Nat.reduceAdd, Nat.reduceSub, Nat.reduceMul, Nat.reduceLeDiff, Nat.reduceLT, Nat.reduceDiv, Nat.reduceMod, Int.reduceEq, Int.reduceNe, Int.reduceLT, Int.reduceLE, Int.reduceGT, Int.reduceGE, Int.reduceAdd, Int.reduceSub, Int.reduceMul, Int.reduceNeg, Int.reduceToNat , k1, k2, ty3, ty31, ty39, ty30, ty9, ty4, ty33]
    rcases h1 : decide (e.text = ByteArray.empty) with _ | _
    · rcases h2 : wText e.text with _ | _
      · simp (config := {maxSteps := 20000000, dsimp := false}) (disch := first | omega | (simp only [low_push, low_put, next_push, next_put, next_mk, len_next, List.length_cons, List.length_nil] <;> omega) | fail) only [↓rpre, rpost1, rpost2, rpost3, rpost4, rpost5, envOf, ↓reduceIte, Nat.reduceEqDiff, List.getElem?_toArray, List.getElem?_cons_zero, List.getElem?_cons_succ, reduceCtorEq, Nat.reduceAdd, Nat.reduceSub, Nat.reduceMul, Nat.reduceLeDiff, Nat.reduceLT, Nat.reduceDiv, Nat.reduceMod, Int.reduceEq, Int.reduceNe, Int.reduceLT, Int.reduceLE, Int.reduceGT, Int.reduceGE, Int.reduceAdd, Int.reduceSub, Int.reduceMul, Int.reduceNeg, Int.reduceToNat , k2, h1, h2, ty3, ty31, ty39, ty30, ty9, ty4, ty33, word_text]
      rcases h3 : (decide (e.space = ByteArray.empty) && decide (e.loc = ByteArray.empty)) with _ | _
      · simp (config := {maxSteps := 20000000, dsimp := false}) (disch := first | omega | (simp only [low_push, low_put, next_push, next_put, next_mk, len_next, List.length_cons, List.length_nil] <;> omega) | fail) only [↓rpre, rpost1, rpost2, rpost3, rpost4, rpost5, envOf, ↓reduceIte, Nat.reduceEqDiff, List.getElem?_toArray, List.getElem?_cons_zero, List.getElem?_cons_succ, reduceCtorEq, Nat.reduceAdd, Nat.reduceSub, Nat.reduceMul, Nat.reduceLeDiff, Nat.reduceLT, Nat.reduceDiv, Nat.reduceMod, Int.reduceEq, Int.reduceNe, Int.reduceLT, Int.reduceLE, Int.reduceGT, Int.reduceGE, Int.reduceAdd, Int.reduceSub, Int.reduceMul, Int.reduceNeg, Int.reduceToNat , k2, h1, h2, h3, ty3, ty31, ty39, ty30, ty9, ty4, ty33, word_text]
      simp (config := {maxSteps := 20000000, dsimp := false}) (disch := first | omega | (simp only [low_push, low_put, next_push, next_put, next_mk, len_next, List.length_cons, List.length_nil] <;> omega) | fail) only [↓rpre, rpost1, rpost2, rpost3, rpost4, rpost5, envOf, ↓reduceIte, Nat.reduceEqDiff, List.getElem?_toArray, List.getElem?_cons_zero, List.getElem?_cons_succ, reduceCtorEq, Nat.reduceAdd, Nat.reduceSub, Nat.reduceMul, Nat.reduceLeDiff, Nat.reduceLT, Nat.reduceDiv, Nat.reduceMod, Int.reduceEq, Int.reduceNe, Int.reduceLT, Int.reduceLE, Int.reduceGT, Int.reduceGE, Int.reduceAdd, Int.reduceSub, Int.reduceMul, Int.reduceNeg, Int.reduceToNat , k2, h1, h2, h3, ty3, ty31, ty39, ty30, ty9, ty4, ty33, word_text, n0]
    simp (config := {maxSteps := 20000000, dsimp := false}) (disch := first | omega | (simp only [low_push, low_put, next_push, next_put, next_mk, len_next, List.length_cons, List.length_nil] <;> omega) | fail) only [↓rpre, rpost1, rpost2, rpost3, rpost4, rpost5, envOf, ↓reduceIte, Nat.reduceEqDiff, List.getElem?_toArray, List.getElem?_cons_zero, List.getElem?_cons_succ, reduceCtorEq, Nat.reduceAdd, Nat.reduceSub, Nat.reduceMul, Nat.reduceLeDiff, Nat.reduceLT, Nat.reduceDiv, Nat.reduceMod, Int.reduceEq, Int.reduceNe, Int.reduceLT, Int.reduceLE, Int.reduceGT, Int.reduceGE, Int.reduceAdd, Int.reduceSub, Int.reduceMul, Int.reduceNeg, Int.reduceToNat , k2, h1, ty3, ty31, ty39, ty30, ty9, ty4, ty33]
  rw [if_neg k2]
  by_cases k3 : e.kind = 3
  · rw [if_pos k3]
    simp (config := {maxSteps := 20000000, dsimp := false}) (disch := first | omega | (simp only [low_push, low_put, next_push, next_put, next_mk, len_next, List.length_cons, List.length_nil] <;> omega) | fail) only [↓rpre, rpost1, rpost2, rpost3, rpost4, rpost5, envOf, ↓reduceIte, Nat.reduceEqDiff, List.getElem?_toArray, List.getElem?_cons_zero, List.getElem?_cons_succ, reduceCtorEq, Nat.reduceAdd, Nat.reduceSub, Nat.reduceMul, Nat.reduceLeDiff, Nat.reduceLT, Nat.reduceDiv, Nat.reduceMod, Int.reduceEq, Int.reduceNe, Int.reduceLT, Int.reduceLE, Int.reduceGT, Int.reduceGE, Int.reduceAdd, Int.reduceSub, Int.reduceMul, Int.reduceNeg, Int.reduceToNat , k1, k2, k3, ty3, ty31, ty39, ty30, ty9, ty4, ty33]
    rcases h1 : decide (e.text = ByteArray.empty) with _ | _
    · simp (config := {maxSteps := 20000000, dsimp := false}) (disch := first | omega | (simp only [low_push, low_put, next_push, next_put, next_mk, len_next, List.length_cons, List.length_nil] <;> omega) | fail) only [↓rpre, rpost1, rpost2, rpost3, rpost4, rpost5, envOf, ↓reduceIte, Nat.reduceEqDiff, List.getElem?_toArray, List.getElem?_cons_zero, List.getElem?_cons_succ, reduceCtorEq, Nat.reduceAdd, Nat.reduceSub, Nat.reduceMul, Nat.reduceLeDiff, Nat.reduceLT, Nat.reduceDiv, Nat.reduceMod, Int.reduceEq, Int.reduceNe, Int.reduceLT, Int.reduceLE, Int.reduceGT, Int.reduceGE, Int.reduceAdd, Int.reduceSub, Int.reduceMul, Int.reduceNeg, Int.reduceToNat , k3, h1, ty3, ty31, ty39, ty30, ty9, ty4, ty33]
    rcases h3 : (decide (e.space = ByteArray.empty) && decide (e.loc = ByteArray.empty)) with _ | _
    · simp (config := {maxSteps := 20000000, dsimp := false}) (disch := first | omega | (simp only [low_push, low_put, next_push, next_put, next_mk, len_next, List.length_cons, List.length_nil] <;> omega) | fail) only [↓rpre, rpost1, rpost2, rpost3, rpost4, rpost5, envOf, ↓reduceIte, Nat.reduceEqDiff, List.getElem?_toArray, List.getElem?_cons_zero, List.getElem?_cons_succ, reduceCtorEq, Nat.reduceAdd, Nat.reduceSub, Nat.reduceMul, Nat.reduceLeDiff, Nat.reduceLT, Nat.reduceDiv, Nat.reduceMod, Int.reduceEq, Int.reduceNe, Int.reduceLT, Int.reduceLE, Int.reduceGT, Int.reduceGE, Int.reduceAdd, Int.reduceSub, Int.reduceMul, Int.reduceNeg, Int.reduceToNat , k3, h1, h3, ty3, ty31, ty39, ty30, ty9, ty4, ty33]
    simp (config := {maxSteps := 20000000, dsimp := false}) (disch := first | omega | (simp only [low_push, low_put, next_push, next_put, next_mk, len_next, List.length_cons, List.length_nil] <;> omega) | fail) only [↓rpre, rpost1, rpost2, rpost3, rpost4, rpost5, envOf, ↓reduceIte, Nat.reduceEqDiff, List.getElem?_toArray, List.getElem?_cons_zero, List.getElem?_cons_succ, reduceCtorEq, Nat.reduceAdd, Nat.reduceSub, Nat.reduceMul, Nat.reduceLeDiff, Nat.reduceLT, Nat.reduceDiv, Nat.reduceMod, Int.reduceEq, Int.reduceNe, Int.reduceLT, Int.reduceLE, Int.reduceGT, Int.reduceGE, Int.reduceAdd, Int.reduceSub, Int.reduceMul, Int.reduceNeg, Int.reduceToNat , k3, h1, h3, ty3, ty31, ty39, ty30, ty9, ty4, ty33, n0]
  rw [if_neg k3]
  simp (config := {maxSteps := 20000000, dsimp := false}) (disch := first | omega | (simp only [low_push, low_put, next_push, next_put, next_mk, len_next, List.length_cons, List.length_nil] <;> omega) | fail) only [↓rpre, rpost1, rpost2, rpost3, rpost4, rpost5, envOf, ↓reduceIte, Nat.reduceEqDiff, List.getElem?_toArray, List.getElem?_cons_zero, List.getElem?_cons_succ, reduceCtorEq, Nat.reduceAdd, Nat.reduceSub, Nat.reduceMul, Nat.reduceLeDiff, Nat.reduceLT, Nat.reduceDiv, Nat.reduceMod, Int.reduceEq, Int.reduceNe, Int.reduceLT, Int.reduceLE, Int.reduceGT, Int.reduceGE, Int.reduceAdd, Int.reduceSub, Int.reduceMul, Int.reduceNeg, Int.reduceToNat , k1, k2, k3, ty3, ty31, ty39, ty30, ty9, ty4, ty33]
end Go.Proofs.Ytcpolfjnbbodgaa.Ve
