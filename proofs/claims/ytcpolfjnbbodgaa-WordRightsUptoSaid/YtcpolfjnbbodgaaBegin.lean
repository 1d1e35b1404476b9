/- The runs of word's Begins, Depth, Whole, Nodes. Conditions: none here. -/
import Derived.Test.YtcpolfjnbbodgaaWord
namespace Go.Proofs.Ytcpolfjnbbodgaa.Ve
open Go Go.RowKit
set_option linter.unusedVariables false
set_option linter.unusedSimpArgs false
set_option maxRecDepth 100000
set_option maxHeartbeats 0

def dStep (d : Int) (k : Int) : Int := if k = 1 then d + 1 else if k = 3 then d - 1 else d
def bGo : Option Int → Int → List EvD → Bool
  | _, _, [] => true
  | p, d, e :: r =>
    if !wRight e || (decide (p = none) && !decide (e.kind = 1)) || (!decide (p = none) && decide (d = 0)) || (decide (e.kind = 2) && decide (p = some 2)) then false
    else if 64 < dStep d e.kind then false else bGo (some e.kind) (dStep d e.kind) r
def wBegins (l : List EvD) : Bool := bGo none 0 l
def prevK (l : List EvD) (i : Nat) : Option Int := if i = 0 then none else (l[i - 1]?).map (·.kind)
abbrev EvsR (H : Heap) (lo : Nat) (v : Value) (l : List EvD) : Prop := SlI H lo 5 (EvR H lo) v l
theorem EvsR.mono {H H' : Heap} {lo lo' : Nat} {v : Value} {l : List EvD} (h : EvsR H lo v l) (hg : ∀ j, j < lo → H'.get j = H.get j) (hlo : lo ≤ lo') : EvsR H' lo' v l :=
  SlI.mono h hg hlo fun _ _ q => q.mono hg hlo
def begI (H : Heap) (v : Value) (l : List EvD) (r : Bool) (k : Nat) (e : Env) (H2 : Heap) : Prop :=
  ∃ (i : Nat) (d : Int), k = l.length - i ∧ i ≤ l.length ∧ -(i : Int) ≤ d ∧ d ≤ 64 ∧ e.get 0 = v ∧ e.get 6 = v ∧ e.get 7 = .int .i64 l.length ∧ e.get 8 = .int .i64 i ∧ e.get 3 = .int .i64 d ∧ Stay H.next H H2 ∧ H.next ≤ H2.low ∧ bGo (prevK l i) d (l.drop i) = r
def begQ (H : Heap) (r : Bool) (o : Out) (e : Env) (H2 : Heap) : Prop := H.next ≤ H2.low ∧ ((o = .exit 0 ∧ r = true) ∨ (o = .ret ∧ e.get 2 = .bool false ∧ r = false))

/-- behind the test: the depth -/
theorem beg_tail (H H2 : Heap) (v : Value) (l : List EvD) (ev : EvD) (r : Bool) (k i : Nat) (d : Int) (e : Env) (pb : Nat) (rest : List Value)
    (hk : k = l.length - i) (hi : i < l.length) (hn : l.length ≤ 2000000) (hd1 : -(i : Int) ≤ d) (hd2 : d ≤ 64) (f0 : e.get 0 = v) (f6 : e.get 6 = v) (f7 : e.get 7 = .int .i64 l.length) (f8 : e.get 8 = .int .i64 i) (f3 : e.get 3 = .int .i64 d) (f5 : e.get 5 = .pointer (some ⟨pb, 0, none⟩))
    (hg : H2.get pb = some (.cells (.int .i64 ev.kind :: rest) true 1)) (hS : Stay H.next H H2) (hl : H.next ≤ H2.low) (hp : prevK l (i + 1) = some ev.kind) (fu : (if 64 < dStep d ev.kind then false else bGo (some ev.kind) (dStep d ev.kind) (l.drop (i + 1))) = r) :
    After (thenDo (inBlock 1 (LE Try.prog lib0 f10t e H2)) (LE Try.prog lib0 (.ops [⟨some 59, .binOp .add 3 (.tmp 8) (.const (.int .i64 1)) 3, none⟩, ⟨some 8, .move (.tmp 59), none⟩])))
      (LoopG k (begI H v l r) (begQ H r)) := by
  have fin : ∀ (e' : Env) (d' : Int), dStep d ev.kind = d' → d' ≤ 64 → -((i + 1 : Nat) : Int) ≤ d' → e'.get 0 = v → e'.get 6 = v → e'.get 7 = .int .i64 l.length → e'.get 8 = .int .i64 ((i : Int) + 1) → e'.get 3 = .int .i64 d' → LoopG k (begI H v l r) (begQ H r) .normal e' H2 := by
    intro e' d' hd' h1 h2 g0 g6 g7 g8 g3
    refine LoopG_normal (k - 1) (by omega) ⟨i + 1, d', by omega, by omega, h2, h1, g0, g6, g7, g8, g3, hS, hl, ?_⟩
    rw [hp, ← fu, hd', if_neg (by omega)]
  rw [f10t]
  simp (config := {maxSteps := 20000000, dsimp := false}) (disch := first | omega | (simp only [low_push, low_put, next_push, next_put, next_mk, len_next, List.length_cons, List.length_nil] <;> omega) | fail) only [↓rpre, rpost1, rpost2, rpost3, rpost4, rpost5, envOf, ↓reduceIte, Nat.reduceEqDiff, List.getElem?_toArray, List.getElem?_cons_zero, List.getElem?_cons_succ, reduceCtorEq, Nat.reduceAdd, Nat.reduceSub, Nat.reduceMul, Nat.reduceLeDiff, Nat.reduceLT, Nat.reduceDiv, Nat.reduceMod, Int.reduceEq, Int.reduceNe, Int.reduceLT, Int.reduceLE, Int.reduceGT, Int.reduceGE, Int.reduceAdd, Int.reduceSub, Int.reduceMul, Int.reduceNeg, Int.reduceToNat , f5, hg, ty33, ty3]
  by_cases k1 : ev.kind = 1
  · simp (config := {maxSteps := 20000000, dsimp := false}) (disch := first | omega | (simp only [low_push, low_put, next_push, next_put, next_mk, len_next, List.length_cons, List.length_nil] <;> omega) | fail) only [↓rpre, rpost1, rpost2, rpost3, rpost4, rpost5, envOf, ↓reduceIte, Nat.reduceEqDiff, List.getElem?_toArray, List.getElem?_cons_zero, List.getElem?_cons_succ, reduceCtorEq, Nat.reduceAdd, Nat.reduceSub, Nat.reduceMul, Nat.reduceLeDiff, Nat.reduceLT, Nat.reduceDiv, Nat.reduceMod, Int.reduceEq, Int.reduceNe, Int.reduceLT, Int.reduceLE, Int.reduceGT, Int.reduceGE, Int.reduceAdd, Int.reduceSub, Int.reduceMul, Int.reduceNeg, Int.reduceToNat , k1, f3, f8, ty33, ty3, wrap_small]
    have hds : dStep d ev.kind = d + 1 := by rw [dStep, if_pos k1]
    rcases hb : decide (64 < d + 1) with _ | _
    · have hb' := of_decide_eq_false hb
      simp (config := {maxSteps := 20000000, dsimp := false}) (disch := first | omega | (simp only [low_push, low_put, next_push, next_put, next_mk, len_next, List.length_cons, List.length_nil] <;> omega) | fail) only [↓rpre, rpost1, rpost2, rpost3, rpost4, rpost5, envOf, ↓reduceIte, Nat.reduceEqDiff, List.getElem?_toArray, List.getElem?_cons_zero, List.getElem?_cons_succ, reduceCtorEq, Nat.reduceAdd, Nat.reduceSub, Nat.reduceMul, Nat.reduceLeDiff, Nat.reduceLT, Nat.reduceDiv, Nat.reduceMod, Int.reduceEq, Int.reduceNe, Int.reduceLT, Int.reduceLE, Int.reduceGT, Int.reduceGE, Int.reduceAdd, Int.reduceSub, Int.reduceMul, Int.reduceNeg, Int.reduceToNat , k1, f3, f8, ty33, ty3, wrap_small]
      exact fin _ (d + 1) hds (by omega) (by omega) f0 f6 f7 rfl rfl
    · have hb' := of_decide_eq_true hb
      simp (config := {maxSteps := 20000000, dsimp := false}) (disch := first | omega | (simp only [low_push, low_put, next_push, next_put, next_mk, len_next, List.length_cons, List.length_nil] <;> omega) | fail) only [↓rpre, rpost1, rpost2, rpost3, rpost4, rpost5, envOf, ↓reduceIte, Nat.reduceEqDiff, List.getElem?_toArray, List.getElem?_cons_zero, List.getElem?_cons_succ, reduceCtorEq, Nat.reduceAdd, Nat.reduceSub, Nat.reduceMul, Nat.reduceLeDiff, Nat.reduceLT, Nat.reduceDiv, Nat.reduceMod, Int.reduceEq, Int.reduceNe, Int.reduceLT, Int.reduceLE, Int.reduceGT, Int.reduceGE, Int.reduceAdd, Int.reduceSub, Int.reduceMul, Int.reduceNeg, Int.reduceToNat , k1, f3, f8, ty33, ty3, wrap_small]
      exact LoopG_ret ⟨hl, .inr ⟨rfl, rfl, by rw [← fu, hds, if_pos hb']⟩⟩
  by_cases k3 : ev.kind = 3
  · simp (config := {maxSteps := 20000000, dsimp := false}) (disch := first | omega | (simp only [low_push, low_put, next_push, next_put, next_mk, len_next, List.length_cons, List.length_nil] <;> omega) | fail) only [↓rpre, rpost1, rpost2, rpost3, rpost4, rpost5, envOf, ↓reduceIte, Nat.reduceEqDiff, List.getElem?_toArray, List.getElem?_cons_zero, List.getElem?_cons_succ, reduceCtorEq, Nat.reduceAdd, Nat.reduceSub, Nat.reduceMul, Nat.reduceLeDiff, Nat.reduceLT, Nat.reduceDiv, Nat.reduceMod, Int.reduceEq, Int.reduceNe, Int.reduceLT, Int.reduceLE, Int.reduceGT, Int.reduceGE, Int.reduceAdd, Int.reduceSub, Int.reduceMul, Int.reduceNeg, Int.reduceToNat , k1, k3, f3, f8, ty33, ty3, wrap_small]
    have hds : dStep d ev.kind = d - 1 := by rw [dStep, if_neg k1, if_pos k3]
    have hb' : ¬ 64 < d - 1 := by omega
    simp (config := {maxSteps := 20000000, dsimp := false}) (disch := first | omega | (simp only [low_push, low_put, next_push, next_put, next_mk, len_next, List.length_cons, List.length_nil] <;> omega) | fail) only [↓rpre, rpost1, rpost2, rpost3, rpost4, rpost5, envOf, ↓reduceIte, Nat.reduceEqDiff, List.getElem?_toArray, List.getElem?_cons_zero, List.getElem?_cons_succ, reduceCtorEq, Nat.reduceAdd, Nat.reduceSub, Nat.reduceMul, Nat.reduceLeDiff, Nat.reduceLT, Nat.reduceDiv, Nat.reduceMod, Int.reduceEq, Int.reduceNe, Int.reduceLT, Int.reduceLE, Int.reduceGT, Int.reduceGE, Int.reduceAdd, Int.reduceSub, Int.reduceMul, Int.reduceNeg, Int.reduceToNat , k3, f3, f8, ty33, ty3, wrap_small, hb']
    exact fin _ (d - 1) hds (by omega) (by omega) f0 f6 f7 rfl rfl
  · have hds : dStep d ev.kind = d := by rw [dStep, if_neg k1, if_neg k3]
    have hb' : ¬ 64 < d := by omega
    simp (config := {maxSteps := 20000000, dsimp := false}) (disch := first | omega | (simp only [low_push, low_put, next_push, next_put, next_mk, len_next, List.length_cons, List.length_nil] <;> omega) | fail) only [↓rpre, rpost1, rpost2, rpost3, rpost4, rpost5, envOf, ↓reduceIte, Nat.reduceEqDiff, List.getElem?_toArray, List.getElem?_cons_zero, List.getElem?_cons_succ, reduceCtorEq, Nat.reduceAdd, Nat.reduceSub, Nat.reduceMul, Nat.reduceLeDiff, Nat.reduceLT, Nat.reduceDiv, Nat.reduceMod, Int.reduceEq, Int.reduceNe, Int.reduceLT, Int.reduceLE, Int.reduceGT, Int.reduceGE, Int.reduceAdd, Int.reduceSub, Int.reduceMul, Int.reduceNeg, Int.reduceToNat , k1, k3, f3, f8, ty33, ty3, wrap_small, hb']
    exact fin _ d hds (by omega) (by omega) f0 f6 f7 rfl f3
theorem beg_loop (H : Heap) (lo : Nat) (v : Value) (l : List EvD) (hlo : lo ≤ H.next) (hv : EvsR H lo v l) (hn : l.length ≤ 2000000) (r : Bool) : ∀ k e H2, begI H v l r k e H2 → After (LE Try.prog lib0 (.loop f10b0) e H2) (begQ H r) := by
  refine loopL_after _ _ ?_
  rintro k e H2 ⟨i, d, hk, hi, hd1, hd2, f0, f6, f7, f8, f3, hS, hl, fu⟩
  simp (config := {maxSteps := 20000000, dsimp := false}) (disch := first | omega | (simp only [low_push, low_put, next_push, next_put, next_mk, len_next, List.length_cons, List.length_nil] <;> omega) | fail) only [↓rpre, rpost1, rpost2, rpost3, rpost4, rpost5, envOf, ↓reduceIte, Nat.reduceEqDiff, List.getElem?_toArray, List.getElem?_cons_zero, List.getElem?_cons_succ, reduceCtorEq, Nat.reduceAdd, Nat.reduceSub, Nat.reduceMul, Nat.reduceLeDiff, Nat.reduceLT, Nat.reduceDiv, Nat.reduceMod, Int.reduceEq, Int.reduceNe, Int.reduceLT, Int.reduceLE, Int.reduceGT, Int.reduceGE, Int.reduceAdd, Int.reduceSub, Int.reduceMul, Int.reduceNeg, Int.reduceToNat , f6, f7, f8, ty3]
  rcases hb : decide ((i : Int) < l.length) with _ | _
  · have hb' := of_decide_eq_false hb
    have : l.drop i = [] := List.drop_eq_nil_of_le (by omega)
    rw [this, bGo] at fu
    simp (config := {maxSteps := 20000000, dsimp := false}) (disch := first | omega | (simp only [low_push, low_put, next_push, next_put, next_mk, len_next, List.length_cons, List.length_nil] <;> omega) | fail) only [↓rpre, rpost1, rpost2, rpost3, rpost4, rpost5, envOf, ↓reduceIte, Nat.reduceEqDiff, List.getElem?_toArray, List.getElem?_cons_zero, List.getElem?_cons_succ, reduceCtorEq, Nat.reduceAdd, Nat.reduceSub, Nat.reduceMul, Nat.reduceLeDiff, Nat.reduceLT, Nat.reduceDiv, Nat.reduceMod, Int.reduceEq, Int.reduceNe, Int.reduceLT, Int.reduceLE, Int.reduceGT, Int.reduceGE, Int.reduceAdd, Int.reduceSub, Int.reduceMul, Int.reduceNeg, Int.reduceToNat , if_true]
    exact LoopG_exit ⟨hl, .inl ⟨rfl, fu.symm⟩⟩
  · have hb' := of_decide_eq_true hb
    have hi' : i < l.length := by omega
    obtain ⟨ev, ha⟩ : ∃ a, l[i]? = some a := ⟨l[i], by simp [hi']⟩
    have hd : l.drop i = ev :: l.drop (i + 1) := by rw [List.drop_eq_getElem_cons hi']; congr 1; rw [List.getElem?_eq_getElem hi'] at ha; exact Option.some.inj ha
    rw [hd, bGo] at fu
    have hp1 : prevK l (i + 1) = some ev.kind := by rw [prevK, if_neg (by omega), Nat.add_sub_cancel, ha]; rfl
    obtain ⟨b, o, c, cs, own, hv', hblo, hg, hle, hr⟩ := hv.at_ ha
    have hg2 : H2.get b = some (.cells cs own 5) := by rw [hS.get b (by omega)]; exact hg
    have hbl := get_lt hg2
    have hSn := hS.next
    obtain ⟨av, hr5, hav, hz1, hz2, hz3, hz4⟩ := id hr
    obtain ⟨aa, ac, rfl⟩ := hav.slice
    have hrow := row_agg hle hr5
    have hSp : ∀ B B', Stay H.next H ((H2.push B).put H2.next B') := fun B B' => hS.trans ((Stay.push hSn).trans (Stay.put hSn))
    have hrt : ∀ B B', CL Try.prog lib0 16 [.agg #[.int .i64 ev.kind, .string ev.space, .string ev.loc, .slice aa ev.attrs.length ac, .string ev.text]] ((H2.push B).put H2.next B') = some (.bool (wRight ev), none) := fun B B' => by
      have := word_right ((H2.push B).put H2.next B') lo _ ev (by have := (hSp B B').next; omega) (EvR.mono (fun j hj => (hSp B B').get j (by omega)) (Nat.le_refl _) hr)
      rw [hr5] at this
      exact this
    have hlow : ∀ B B', H.next ≤ ((H2.push B).put H2.next B').low := fun B B' => by rw [low_put, low_push]; omega
    have tail : ∀ (e' : Env) (B : Blk), e'.get 0 = v → e'.get 6 = v → e'.get 7 = .int .i64 l.length → e'.get 8 = .int .i64 i → e'.get 3 = .int .i64 d → e'.get 5 = .pointer (some ⟨H2.next, 0, none⟩) → (!wRight ev || (decide (prevK l i = none) && !decide (ev.kind = 1)) || (!decide (prevK l i = none) && decide (d = 0)) || (decide (ev.kind = 2) && decide (prevK l i = some 2))) = false →
        After (thenDo (inBlock 1 (LE Try.prog lib0 f10t e' ((H2.push B).put H2.next (.cells [.int .i64 ev.kind, .string ev.space, .string ev.loc, .slice aa ev.attrs.length ac, .string ev.text] true 1)))) (LE Try.prog lib0 (.ops [⟨some 59, .binOp .add 3 (.tmp 8) (.const (.int .i64 1)) 3, none⟩, ⟨some 8, .move (.tmp 59), none⟩]))) (LoopG k (begI H v l r) (begQ H r)) := fun e' B g0 g6 g7 g8 g3 g5 hok =>
      beg_tail H _ v l ev r k i d e' H2.next _ hk hi' hn hd1 hd2 g0 g6 g7 g8 g3 g5 (get_put_same (by rw [next_push]; omega)) (hSp _ _) (hlow _ _) hp1 (by rw [← fu, hok]; rfl)
    have bad : ∀ (e' : Env) (H' : Heap), H.next ≤ H'.low → e'.get 2 = .bool false → (!wRight ev || (decide (prevK l i = none) && !decide (ev.kind = 1)) || (!decide (prevK l i = none) && decide (d = 0)) || (decide (ev.kind = 2) && decide (prevK l i = some 2))) = true → LoopG k (begI H v l r) (begQ H r) .ret e' H' := fun e' H' h1 h2 h3 =>
      LoopG_ret ⟨h1, .inr ⟨rfl, h2, by rw [← fu, h3]; rfl⟩⟩
    have f6' := f6
    have f0' := f0
    rw [hv'] at f6' f0'
    simp (config := {maxSteps := 20000000, dsimp := false}) (disch := first | omega | (simp only [low_push, low_put, next_push, next_put, next_mk, len_next, List.length_cons, List.length_nil] <;> omega) | fail) only [↓rpre, rpost1, rpost2, rpost3, rpost4, rpost5, envOf, ↓reduceIte, Nat.reduceEqDiff, List.getElem?_toArray, List.getElem?_cons_zero, List.getElem?_cons_succ, reduceCtorEq, Nat.reduceAdd, Nat.reduceSub, Nat.reduceMul, Nat.reduceLeDiff, Nat.reduceLT, Nat.reduceDiv, Nat.reduceMod, Int.reduceEq, Int.reduceNe, Int.reduceLT, Int.reduceLE, Int.reduceGT, Int.reduceGE, Int.reduceAdd, Int.reduceSub, Int.reduceMul, Int.reduceNeg, Int.reduceToNat , f0', f6', f7, f8, f3, ty3, ty22, ty33, ty9, ty4, hg2, hrow, hrt]
    rcases h1 : wRight ev with _ | _
    · simp (config := {maxSteps := 20000000, dsimp := false}) (disch := first | omega | (simp only [low_push, low_put, next_push, next_put, next_mk, len_next, List.length_cons, List.length_nil] <;> omega) | fail) only [↓rpre, rpost1, rpost2, rpost3, rpost4, rpost5, envOf, ↓reduceIte, Nat.reduceEqDiff, List.getElem?_toArray, List.getElem?_cons_zero, List.getElem?_cons_succ, reduceCtorEq, Nat.reduceAdd, Nat.reduceSub, Nat.reduceMul, Nat.reduceLeDiff, Nat.reduceLT, Nat.reduceDiv, Nat.reduceMod, Int.reduceEq, Int.reduceNe, Int.reduceLT, Int.reduceLE, Int.reduceGT, Int.reduceGE, Int.reduceAdd, Int.reduceSub, Int.reduceMul, Int.reduceNeg, Int.reduceToNat , f0', f6', f7, f8, f3, ty3, ty22, ty33, ty9, ty4, h1]
      exact bad _ _ (hlow _ _) rfl (by simp [h1])
    rcases b2 : decide ((i : Int) = 0) with _ | _
    · have h2 : i ≠ 0 := by have := of_decide_eq_false b2; omega
      have b2' : decide (0 < (i : Int)) = true := decide_eq_true (by omega)
      obtain ⟨pe, hpe⟩ : ∃ a, l[i - 1]? = some a := ⟨l[i - 1]'(by omega), List.getElem?_eq_getElem (by omega)⟩
      have hp0 : prevK l i = some pe.kind := by rw [prevK, if_neg h2, hpe]; rfl
      obtain ⟨b', o', c', cs', own', hv2, _, hg', hle', hr'⟩ := hv.at_ hpe
      rw [hv'] at hv2
      obtain ⟨⟨rfl, rfl⟩, rfl⟩ : (b = b' ∧ o = o') ∧ c = c' := by simpa using hv2
      rw [hg] at hg'
      obtain ⟨rfl, rfl⟩ : cs = cs' ∧ own = own' := by simpa using hg'
      obtain ⟨pv, hpr, _⟩ := hr'
      have hpc : cs[o + (i - 1) * 5]? = some (.int .i64 pe.kind) := by
        have := row_cell (k := 0) (by omega) hpr
        simpa using this
      have nt : ((i : Int) - 1).toNat = i - 1 := by omega
      rcases b3 : decide (d = 0) with _ | _
      · rcases b4 : decide (ev.kind = 2) with _ | _
        · simp (config := {maxSteps := 20000000, dsimp := false}) (disch := first | omega | (simp only [low_push, low_put, next_push, next_put, next_mk, len_next, List.length_cons, List.length_nil] <;> omega) | fail) only [↓rpre, rpost1, rpost2, rpost3, rpost4, rpost5, envOf, ↓reduceIte, Nat.reduceEqDiff, List.getElem?_toArray, List.getElem?_cons_zero, List.getElem?_cons_succ, reduceCtorEq, Nat.reduceAdd, Nat.reduceSub, Nat.reduceMul, Nat.reduceLeDiff, Nat.reduceLT, Nat.reduceDiv, Nat.reduceMod, Int.reduceEq, Int.reduceNe, Int.reduceLT, Int.reduceLE, Int.reduceGT, Int.reduceGE, Int.reduceAdd, Int.reduceSub, Int.reduceMul, Int.reduceNeg, Int.reduceToNat , f0', f6', f7, f8, f3, ty3, ty22, ty33, ty9, ty4, h1, b2, b2', b3, b4]
          exact tail _ _ f0 f6 f7 f8 f3 rfl (by simp [h1, hp0, b3, b4])
        · rcases b5 : decide (pe.kind = 2) with _ | _
          · simp (config := {maxSteps := 20000000, dsimp := false}) (disch := first | omega | (simp only [low_push, low_put, next_push, next_put, next_mk, len_next, List.length_cons, List.length_nil] <;> omega) | fail) only [↓rpre, rpost1, rpost2, rpost3, rpost4, rpost5, envOf, ↓reduceIte, Nat.reduceEqDiff, List.getElem?_toArray, List.getElem?_cons_zero, List.getElem?_cons_succ, reduceCtorEq, Nat.reduceAdd, Nat.reduceSub, Nat.reduceMul, Nat.reduceLeDiff, Nat.reduceLT, Nat.reduceDiv, Nat.reduceMod, Int.reduceEq, Int.reduceNe, Int.reduceLT, Int.reduceLE, Int.reduceGT, Int.reduceGE, Int.reduceAdd, Int.reduceSub, Int.reduceMul, Int.reduceNeg, Int.reduceToNat , f0', f6', f7, f8, f3, ty3, ty22, ty33, ty9, ty4, h1, b2, b2', b3, b4, b5, wrap_small, nt, hg2, hpc]
            exact tail _ _ f0 f6 f7 f8 f3 rfl (by simp [h1, hp0, b3, b4, of_decide_eq_false b5])
          · simp (config := {maxSteps := 20000000, dsimp := false}) (disch := first | omega | (simp only [low_push, low_put, next_push, next_put, next_mk, len_next, List.length_cons, List.length_nil] <;> omega) | fail) only [↓rpre, rpost1, rpost2, rpost3, rpost4, rpost5, envOf, ↓reduceIte, Nat.reduceEqDiff, List.getElem?_toArray, List.getElem?_cons_zero, List.getElem?_cons_succ, reduceCtorEq, Nat.reduceAdd, Nat.reduceSub, Nat.reduceMul, Nat.reduceLeDiff, Nat.reduceLT, Nat.reduceDiv, Nat.reduceMod, Int.reduceEq, Int.reduceNe, Int.reduceLT, Int.reduceLE, Int.reduceGT, Int.reduceGE, Int.reduceAdd, Int.reduceSub, Int.reduceMul, Int.reduceNeg, Int.reduceToNat , f0', f6', f7, f8, f3, ty3, ty22, ty33, ty9, ty4, h1, b2, b2', b3, b4, b5, wrap_small, nt, hg2, hpc]
            exact bad _ _ (hlow _ _) rfl (by simp [h1, hp0, b3, b4, of_decide_eq_true b5])
      · simp (config := {maxSteps := 20000000, dsimp := false}) (disch := first | omega | (simp only [low_push, low_put, next_push, next_put, next_mk, len_next, List.length_cons, List.length_nil] <;> omega) | fail) only [↓rpre, rpost1, rpost2, rpost3, rpost4, rpost5, envOf, ↓reduceIte, Nat.reduceEqDiff, List.getElem?_toArray, List.getElem?_cons_zero, List.getElem?_cons_succ, reduceCtorEq, Nat.reduceAdd, Nat.reduceSub, Nat.reduceMul, Nat.reduceLeDiff, Nat.reduceLT, Nat.reduceDiv, Nat.reduceMod, Int.reduceEq, Int.reduceNe, Int.reduceLT, Int.reduceLE, Int.reduceGT, Int.reduceGE, Int.reduceAdd, Int.reduceSub, Int.reduceMul, Int.reduceNeg, Int.reduceToNat , f0', f6', f7, f8, f3, ty3, ty22, ty33, ty9, ty4, h1, b2, b2', b3]
        exact bad _ _ (hlow _ _) rfl (by simp [h1, hp0, b3])
    · have h2 : i = 0 := by have := of_decide_eq_true b2; omega
      have b2' : decide (0 < (i : Int)) = false := decide_eq_false (by omega)
      have hp0 : prevK l i = none := by rw [prevK, if_pos h2]
      rcases b3 : decide (ev.kind = 1) with _ | _
      · simp (config := {maxSteps := 20000000, dsimp := false}) (disch := first | omega | (simp only [low_push, low_put, next_push, next_put, next_mk, len_next, List.length_cons, List.length_nil] <;> omega) | fail) only [↓rpre, rpost1, rpost2, rpost3, rpost4, rpost5, envOf, ↓reduceIte, Nat.reduceEqDiff, List.getElem?_toArray, List.getElem?_cons_zero, List.getElem?_cons_succ, reduceCtorEq, Nat.reduceAdd, Nat.reduceSub, Nat.reduceMul, Nat.reduceLeDiff, Nat.reduceLT, Nat.reduceDiv, Nat.reduceMod, Int.reduceEq, Int.reduceNe, Int.reduceLT, Int.reduceLE, Int.reduceGT, Int.reduceGE, Int.reduceAdd, Int.reduceSub, Int.reduceMul, Int.reduceNeg, Int.reduceToNat , f0', f6', f7, f8, f3, ty3, ty22, ty33, ty9, ty4, h1, b2, b2', b3]
        exact bad _ _ (hlow _ _) rfl (by simp [h1, hp0, b3])
      · have b4 : decide (ev.kind = 2) = false := decide_eq_false (by have := of_decide_eq_true b3; omega)
        simp (config := {maxSteps := 20000000, dsimp := false}) (disch := first | omega | (simp only [low_push, low_put, next_push, next_put, next_mk, len_next, List.length_cons, List.length_nil] <;> omega) | fail) only [↓rpre, rpost1, rpost2, rpost3, rpost4, rpost5, envOf, ↓reduceIte, Nat.reduceEqDiff, List.getElem?_toArray, List.getElem?_cons_zero, List.getElem?_cons_succ, reduceCtorEq, Nat.reduceAdd, Nat.reduceSub, Nat.reduceMul, Nat.reduceLeDiff, Nat.reduceLT, Nat.reduceDiv, Nat.reduceMod, Int.reduceEq, Int.reduceNe, Int.reduceLT, Int.reduceLE, Int.reduceGT, Int.reduceGE, Int.reduceAdd, Int.reduceSub, Int.reduceMul, Int.reduceNeg, Int.reduceToNat , f0', f6', f7, f8, f3, ty3, ty22, ty33, ty9, ty4, h1, b2, b2', b3, b4]
        exact tail _ _ f0 f6 f7 f8 f3 rfl (by simp [h1, hp0, b3, b4])
theorem word_begins (H : Heap) (lo : Nat) (v : Value) (l : List EvD) (hlo : lo ≤ H.next) (hv : EvsR H lo v l) (hn : l.length ≤ 2000000) : CL Try.prog lib0 10 [v] H = some (.bool (wBegins l), none) := by
  obtain ⟨a, c, hvs⟩ := hv.slice
  have hv2 : EvsR H lo (.slice a l.length c) l := by rw [← hvs]; exact hv
  rw [CL_light fn10 rfl _ (by simp), hvs]
  simp (config := {maxSteps := 20000000, dsimp := false}) (disch := first | omega | (simp only [low_push, low_put, next_push, next_put, next_mk, len_next, List.length_cons, List.length_nil] <;> omega) | fail) only [↓rpre, rpost1, rpost2, rpost3, rpost4, rpost5, envOf, ↓reduceIte, Nat.reduceEqDiff, List.getElem?_toArray, List.getElem?_cons_zero, List.getElem?_cons_succ, reduceCtorEq, Nat.reduceAdd, Nat.reduceSub, Nat.reduceMul, Nat.reduceLeDiff, Nat.reduceLT, Nat.reduceDiv, Nat.reduceMod, Int.reduceEq, Int.reduceNe, Int.reduceLT, Int.reduceLE, Int.reduceGT, Int.reduceGE, Int.reduceAdd, Int.reduceSub, Int.reduceMul, Int.reduceNeg, Int.reduceToNat , ty22]
  refine after_prop (F := fun z => bodyRet _ _ _ (thenDo (inBlock 0 z) _) = _) (beg_loop H lo _ l hlo hv2 hn (wBegins l) l.length _ _ ⟨0, 0, rfl, by omega, by omega, by omega, rfl, rfl, rfl, rfl, rfl, Stay.start H, Nat.le_refl _, rfl⟩) ?_
  rintro o e' H' ⟨hl, ⟨ho, hr⟩ | ⟨ho, h2, hr⟩⟩
  · simp (config := {maxSteps := 20000000, dsimp := false}) (disch := first | omega | (simp only [low_push, low_put, next_push, next_put, next_mk, len_next, List.length_cons, List.length_nil] <;> omega) | fail) only [↓rpre, rpost1, rpost2, rpost3, rpost4, rpost5, envOf, ↓reduceIte, Nat.reduceEqDiff, List.getElem?_toArray, List.getElem?_cons_zero, List.getElem?_cons_succ, reduceCtorEq, Nat.reduceAdd, Nat.reduceSub, Nat.reduceMul, Nat.reduceLeDiff, Nat.reduceLT, Nat.reduceDiv, Nat.reduceMod, Int.reduceEq, Int.reduceNe, Int.reduceLT, Int.reduceLE, Int.reduceGT, Int.reduceGE, Int.reduceAdd, Int.reduceSub, Int.reduceMul, Int.reduceNeg, Int.reduceToNat , ho, hr]
  · simp (config := {maxSteps := 20000000, dsimp := false}) (disch := first | omega | (simp only [low_push, low_put, next_push, next_put, next_mk, len_next, List.length_cons, List.length_nil] <;> omega) | fail) only [↓rpre, rpost1, rpost2, rpost3, rpost4, rpost5, envOf, ↓reduceIte, Nat.reduceEqDiff, List.getElem?_toArray, List.getElem?_cons_zero, List.getElem?_cons_succ, reduceCtorEq, Nat.reduceAdd, Nat.reduceSub, Nat.reduceMul, Nat.reduceLeDiff, Nat.reduceLT, Nat.reduceDiv, Nat.reduceMod, Int.reduceEq, Int.reduceNe, Int.reduceLT, Int.reduceLE, Int.reduceGT, Int.reduceGE, Int.reduceAdd, Int.reduceSub, Int.reduceMul, Int.reduceNeg, Int.reduceToNat , ho, h2, hr]
end Go.Proofs.Ytcpolfjnbbodgaa.Ve
