/- The runs of the reference's Right and Depth: they tell what the word's own do. Conditions: none here. -/
import Derived.Test.YtcpolfjnbbodgaaRefN
import Derived.Test.YtcpolfjnbbodgaaSame
namespace Go.Proofs.Ytcpolfjnbbodgaa.Ve
open Go Go.RowKit
set_option linter.unusedVariables false
set_option linter.unusedSimpArgs false
set_option maxRecDepth 100000
set_option maxHeartbeats 0

def nm (a : AtD) : ByteArray × ByteArray := (a.space, a.loc)
theorem seen_any (x : ByteArray × ByteArray) (l : List AtD) : seen2 x (l.map nm) = l.any fun a => decide (x = nm a) := by
  rw [seen2, List.any_map]; rfl
theorem nm_dec (a b : AtD) : (decide (a.space = b.space) && decide (a.loc = b.loc)) = decide (nm a = nm b) := by
  rw [← Bool.decide_and]; exact decide_eq_decide.2 (by rw [nm, nm, Prod.mk.injEq])
theorem twice_loop (H0 : Heap) (lo : Nat) (p : Option Addr) (c pb : Nat) (row : List Value) (l : List AtD) (hn : l.length ≤ 1048576) (hv : SlI H0 lo 3 AtR (.slice p l.length c) l) (g1 : H0.get pb = some (.cells row true 1)) (k1 : row[3]? = some (.slice p l.length c)) (i : Nat) (x : AtD) (hx : l[i]? = some x) (r : Bool) :
    ∀ k e H2, (∃ j : Nat, k = i - j ∧ j ≤ i ∧ e.get 1 = .pointer (some ⟨pb, 0, none⟩) ∧ e.get 4 = .int .i64 i ∧ e.get 5 = .int .i64 j ∧ H2 = H0 ∧ ((l.take i).drop j).any (fun a => decide (nm x = nm a)) = r) →
    After (LE Try.prog lib0 (.loop f17b0) e H2) (fun o e H2 => H2 = H0 ∧ ((o = .exit 2 ∧ r = false ∧ e.get 1 = .pointer (some ⟨pb, 0, none⟩) ∧ e.get 4 = .int .i64 i) ∨ (o = .ret ∧ e.get 2 = .bool false ∧ r = true))) := by
  have hi : i < l.length := (List.getElem?_eq_some_iff.1 hx).1
  refine loopL_after _ _ ?_
  rintro k e H2 ⟨j, hk, hj, f1, f4, f5, hH, fu⟩
  subst hH
  rcases b : decide ((j : Int) < i) with _ | _
  · have hb' := of_decide_eq_false b
    have : (l.take i).drop j = [] := List.drop_eq_nil_of_le (by rw [List.length_take]; omega)
    rw [this, List.any_nil] at fu
    simp (config := {maxSteps := 20000000, dsimp := false}) (disch := first | omega | (simp only [low_push, low_put, next_push, next_put, next_mk, len_next, List.length_cons, List.length_nil] <;> omega) | fail) only [↓rpre, rpost1, rpost2, rpost3, rpost4, rpost5, envOf, ↓reduceIte, Nat.reduceEqDiff, List.getElem?_toArray, List.getElem?_cons_zero, List.getElem?_cons_succ, reduceCtorEq, Nat.reduceAdd, Nat.reduceSub, Nat.reduceMul, Nat.reduceLeDiff, Nat.reduceLT, Nat.reduceDiv, Nat.reduceMod, Int.reduceEq, Int.reduceNe, Int.reduceLT, Int.reduceLE, Int.reduceGT, Int.reduceGE, Int.reduceAdd, Int.reduceSub, Int.reduceMul, Int.reduceNeg, Int.reduceToNat , f4, f5, ty3, b]
    exact LoopG_exit ⟨rfl, .inl ⟨rfl, fu.symm, f1, f4⟩⟩
  · have hb' := of_decide_eq_true b
    obtain ⟨y, hy, hdy⟩ := drop_cons (l := l.take i) (i := j) (by rw [List.length_take]; omega)
    have hy2 : l[j]? = some y := by rw [List.getElem?_take, if_pos (by omega)] at hy; exact hy
    rw [hdy, List.any_cons] at fu
    obtain ⟨b1, o1, q1, cs1, w1, e1, _, gg1, row1⟩ := at_row hv hx
    obtain ⟨b2, o2, q2, cs2, w2, e2, _, gg2, row2⟩ := at_row hv hy2
    obtain ⟨rfl, rfl⟩ : p = some ⟨b1, o1, none⟩ ∧ c = q1 := by simpa using e1
    obtain ⟨⟨rfl, rfl⟩, rfl⟩ : (b1 = b2 ∧ o1 = o2) ∧ c = q2 := by simpa using e2
    rw [gg1] at gg2
    obtain ⟨rfl, rfl⟩ : cs1 = cs2 ∧ w1 = w2 := by simpa using gg2
    obtain ⟨bx, ox, cx, csx, wx, ex, _, ggx, hlx, hrx, _⟩ := hv.at_ hx
    obtain ⟨by_, oy, cy, csy, wy, ey, _, ggy, hly, hry, _⟩ := hv.at_ hy2
    obtain ⟨⟨rfl, rfl⟩, rfl⟩ : (b1 = bx ∧ o1 = ox) ∧ c = cx := by simpa using ex
    obtain ⟨⟨rfl, rfl⟩, rfl⟩ : (b1 = by_ ∧ o1 = oy) ∧ c = cy := by simpa using ey
    rw [gg1] at ggx ggy
    obtain ⟨rfl, rfl⟩ : cs1 = csx ∧ w1 = wx := by simpa using ggx
    obtain ⟨rfl, rfl⟩ : cs1 = csy ∧ w1 = wy := by simpa using ggy
    have nmx : ldC (some true) (some 2) (o1 + i * 3) cs1 = some (.agg #[.string x.space, .string x.loc]) := by
      refine row_agg (by omega) ?_
      have : ((cs1.drop (o1 + i * 3)).take 3).take 2 = [.string x.space, .string x.loc] := by rw [hrx]; rfl
      rw [List.take_take] at this; exact this
    have nmy : ldC (some true) (some 2) (o1 + j * 3) cs1 = some (.agg #[.string y.space, .string y.loc]) := by
      refine row_agg (by omega) ?_
      have : ((cs1.drop (o1 + j * 3)).take 3).take 2 = [.string y.space, .string y.loc] := by rw [hry]; rfl
      rw [List.take_take] at this; exact this
    have nt : (i : Int).toNat = i := Int.toNat_natCast i
    have nt2 : (j : Int).toNat = j := Int.toNat_natCast j
    have hsym : decide (nm y = nm x) = decide (nm x = nm y) := decide_eq_decide.2 ⟨Eq.symm, Eq.symm⟩
    rcases hq : decide (nm x = nm y) with _ | _
    · rw [hq] at fu
      simp (config := {maxSteps := 20000000, dsimp := false}) (disch := first | omega | (simp only [low_push, low_put, next_push, next_put, next_mk, len_next, List.length_cons, List.length_nil] <;> omega) | fail) only [↓rpre, rpost1, rpost2, rpost3, rpost4, rpost5, envOf, ↓reduceIte, Nat.reduceEqDiff, List.getElem?_toArray, List.getElem?_cons_zero, List.getElem?_cons_succ, reduceCtorEq, Nat.reduceAdd, Nat.reduceSub, Nat.reduceMul, Nat.reduceLeDiff, Nat.reduceLT, Nat.reduceDiv, Nat.reduceMod, Int.reduceEq, Int.reduceNe, Int.reduceLT, Int.reduceLE, Int.reduceGT, Int.reduceGE, Int.reduceAdd, Int.reduceSub, Int.reduceMul, Int.reduceNeg, Int.reduceToNat , f1, f4, f5, g1, k1, ty33, ty31, ty3, ty39, ty30, b, gg1, nmx, nmy, nm_dec, hsym, hq, wrap_small]
      exact LoopG_normal (k - 1) (by omega) ⟨j + 1, by omega, by omega, f1, f4, rfl, rfl, by rw [← fu]; rfl⟩
    · rw [hq] at fu
      simp (config := {maxSteps := 20000000, dsimp := false}) (disch := first | omega | (simp only [low_push, low_put, next_push, next_put, next_mk, len_next, List.length_cons, List.length_nil] <;> omega) | fail) only [↓rpre, rpost1, rpost2, rpost3, rpost4, rpost5, envOf, ↓reduceIte, Nat.reduceEqDiff, List.getElem?_toArray, List.getElem?_cons_zero, List.getElem?_cons_succ, reduceCtorEq, Nat.reduceAdd, Nat.reduceSub, Nat.reduceMul, Nat.reduceLeDiff, Nat.reduceLT, Nat.reduceDiv, Nat.reduceMod, Int.reduceEq, Int.reduceNe, Int.reduceLT, Int.reduceLE, Int.reduceGT, Int.reduceGE, Int.reduceAdd, Int.reduceSub, Int.reduceMul, Int.reduceNeg, Int.reduceToNat , f1, f4, f5, g1, k1, ty33, ty31, ty3, ty39, ty30, b, gg1, nmx, nmy, nm_dec, hsym, hq, wrap_small]
      exact LoopG_ret ⟨rfl, .inr ⟨rfl, rfl, by rw [← fu]; rfl⟩⟩
theorem rattr_loop (H0 : Heap) (lo : Nat) (hlo : lo ≤ H0.next) (p : Option Addr) (c pb : Nat) (row : List Value) (l : List AtD) (hn : l.length ≤ 1048576) (hv : SlI H0 lo 3 AtR (.slice p l.length c) l) (g1 : H0.get pb = some (.cells row true 1)) (k1 : row[3]? = some (.slice p l.length c)) (r : Bool) :
    ∀ k e H2, (∃ i : Nat, k = l.length - i ∧ i ≤ l.length ∧ e.get 1 = .pointer (some ⟨pb, 0, none⟩) ∧ e.get 4 = .int .i64 i ∧ H2 = H0 ∧ aGo ((l.take i).map nm) (l.drop i) = r) →
    After (LE Try.prog lib0 (.loop f17b1) e H2) (fun o e H2 => H2 = H0 ∧ ((o = .exit 0 ∧ r = true) ∨ (o = .ret ∧ e.get 2 = .bool false ∧ r = false))) := by
  refine loopL_after _ _ ?_
  rintro k e H2 ⟨i, hk, hi, f1, f4, hH, fu⟩
  subst hH
  rcases b : decide ((i : Int) < l.length) with _ | _
  · have hb' := of_decide_eq_false b
    have : l.drop i = [] := List.drop_eq_nil_of_le (by omega)
    rw [this, aGo] at fu
    simp (config := {maxSteps := 20000000, dsimp := false}) (disch := first | omega | (simp only [low_push, low_put, next_push, next_put, next_mk, len_next, List.length_cons, List.length_nil] <;> omega) | fail) only [↓rpre, rpost1, rpost2, rpost3, rpost4, rpost5, envOf, ↓reduceIte, Nat.reduceEqDiff, List.getElem?_toArray, List.getElem?_cons_zero, List.getElem?_cons_succ, reduceCtorEq, Nat.reduceAdd, Nat.reduceSub, Nat.reduceMul, Nat.reduceLeDiff, Nat.reduceLT, Nat.reduceDiv, Nat.reduceMod, Int.reduceEq, Int.reduceNe, Int.reduceLT, Int.reduceLE, Int.reduceGT, Int.reduceGE, Int.reduceAdd, Int.reduceSub, Int.reduceMul, Int.reduceNeg, Int.reduceToNat , f1, f4, g1, k1, ty33, ty31, ty3, b]
    exact LoopG_exit ⟨rfl, .inl ⟨rfl, fu.symm⟩⟩
  · have hb' := of_decide_eq_true b
    obtain ⟨x, hx, hd⟩ := drop_cons (l := l) (i := i) (by omega)
    rw [hd, aGo] at fu
    have hseen := seen_any (nm x) (l.take i)
    have hseen' : seen2 (x.space, x.loc) ((l.take i).map nm) = (l.take i).any fun a => decide (nm x = nm a) := hseen
    rw [hseen'] at fu
    obtain ⟨bx, ox, cx, csx, wx, ex, _, gg1, hlx, hrx, z1, z2, z3⟩ := hv.at_ hx
    obtain ⟨rfl, rfl⟩ : p = some ⟨bx, ox, none⟩ ∧ c = cx := by simpa using ex
    have nmx : ldC (some true) (some 2) (ox + i * 3) csx = some (.agg #[.string x.space, .string x.loc]) := by
      refine row_agg (by omega) ?_
      have : ((csx.drop (ox + i * 3)).take 3).take 2 = [.string x.space, .string x.loc] := by rw [hrx]; rfl
      rw [List.take_take] at this; exact this
    have a2 : csx[ox + i * 3 + 2]? = some (.string x.val) := by rw [row_cell (k := 2) (by omega) hrx]; rfl
    have nt : (i : Int).toNat = i := Int.toNat_natCast i
    rcases h1 : wNamed x.space x.loc with _ | _
    · simp (config := {maxSteps := 20000000, dsimp := false}) (disch := first | omega | (simp only [low_push, low_put, next_push, next_put, next_mk, len_next, List.length_cons, List.length_nil] <;> omega) | fail) only [↓rpre, rpost1, rpost2, rpost3, rpost4, rpost5, envOf, ↓reduceIte, Nat.reduceEqDiff, List.getElem?_toArray, List.getElem?_cons_zero, List.getElem?_cons_succ, reduceCtorEq, Nat.reduceAdd, Nat.reduceSub, Nat.reduceMul, Nat.reduceLeDiff, Nat.reduceLT, Nat.reduceDiv, Nat.reduceMod, Int.reduceEq, Int.reduceNe, Int.reduceLT, Int.reduceLE, Int.reduceGT, Int.reduceGE, Int.reduceAdd, Int.reduceSub, Int.reduceMul, Int.reduceNeg, Int.reduceToNat , f1, f4, g1, k1, ty33, ty31, ty3, ty39, ty30, ty9, b, gg1, nmx, a2, ref_named, ref_text, h1]
      exact LoopG_ret ⟨rfl, .inr ⟨rfl, rfl, by rw [← fu, h1]; simp⟩⟩
    rcases h2 : wText x.val with _ | _
    · simp (config := {maxSteps := 20000000, dsimp := false}) (disch := first | omega | (simp only [low_push, low_put, next_push, next_put, next_mk, len_next, List.length_cons, List.length_nil] <;> omega) | fail) only [↓rpre, rpost1, rpost2, rpost3, rpost4, rpost5, envOf, ↓reduceIte, Nat.reduceEqDiff, List.getElem?_toArray, List.getElem?_cons_zero, List.getElem?_cons_succ, reduceCtorEq, Nat.reduceAdd, Nat.reduceSub, Nat.reduceMul, Nat.reduceLeDiff, Nat.reduceLT, Nat.reduceDiv, Nat.reduceMod, Int.reduceEq, Int.reduceNe, Int.reduceLT, Int.reduceLE, Int.reduceGT, Int.reduceGE, Int.reduceAdd, Int.reduceSub, Int.reduceMul, Int.reduceNeg, Int.reduceToNat , f1, f4, g1, k1, ty33, ty31, ty3, ty39, ty30, ty9, b, gg1, nmx, a2, ref_named, ref_text, h1, h2]
      exact LoopG_ret ⟨rfl, .inr ⟨rfl, rfl, by rw [← fu, h2]; simp⟩⟩
    simp (config := {maxSteps := 20000000, dsimp := false}) (disch := first | omega | (simp only [low_push, low_put, next_push, next_put, next_mk, len_next, List.length_cons, List.length_nil] <;> omega) | fail) only [↓rpre, rpost1, rpost2, rpost3, rpost4, rpost5, envOf, ↓reduceIte, Nat.reduceEqDiff, List.getElem?_toArray, List.getElem?_cons_zero, List.getElem?_cons_succ, reduceCtorEq, Nat.reduceAdd, Nat.reduceSub, Nat.reduceMul, Nat.reduceLeDiff, Nat.reduceLT, Nat.reduceDiv, Nat.reduceMod, Int.reduceEq, Int.reduceNe, Int.reduceLT, Int.reduceLE, Int.reduceGT, Int.reduceGE, Int.reduceAdd, Int.reduceSub, Int.reduceMul, Int.reduceNeg, Int.reduceToNat , f1, f4, g1, k1, ty33, ty31, ty3, ty39, ty30, ty9, b, gg1, nmx, a2, ref_named, ref_text, h1, h2]
    refine after_then (F := fun z => thenDo (inBlock 1 (inBlock 2 z)) _) (twice_loop H2 lo _ c pb row l hn hv g1 k1 i x hx ((l.take i).any fun a => decide (nm x = nm a)) i _ _ ⟨0, rfl, by omega, ?_, ?_, rfl, rfl, rfl⟩) ?_
    · exact f1
    · exact f4
    rintro o e' H' ⟨hH, ⟨ho, hr, g1', g4⟩ | ⟨ho, g2, hr⟩⟩
    · simp (config := {maxSteps := 20000000, dsimp := false}) (disch := first | omega | (simp only [low_push, low_put, next_push, next_put, next_mk, len_next, List.length_cons, List.length_nil] <;> omega) | fail) only [↓rpre, rpost1, rpost2, rpost3, rpost4, rpost5, envOf, ↓reduceIte, Nat.reduceEqDiff, List.getElem?_toArray, List.getElem?_cons_zero, List.getElem?_cons_succ, reduceCtorEq, Nat.reduceAdd, Nat.reduceSub, Nat.reduceMul, Nat.reduceLeDiff, Nat.reduceLT, Nat.reduceDiv, Nat.reduceMod, Int.reduceEq, Int.reduceNe, Int.reduceLT, Int.reduceLE, Int.reduceGT, Int.reduceGE, Int.reduceAdd, Int.reduceSub, Int.reduceMul, Int.reduceNeg, Int.reduceToNat , ho, hH, g4, ty3, wrap_small]
      refine LoopG_normal (k - 1) (by omega) ⟨i + 1, by omega, by omega, g1', rfl, rfl, ?_⟩
      rw [← fu, hr, h1, h2]
      have : (l.take (i + 1)).map nm = (l.take i).map nm ++ [(x.space, x.loc)] := by
        rw [List.take_add_one, hx]; simp [nm]
      rw [this]; simp
    · simp (config := {maxSteps := 20000000, dsimp := false}) (disch := first | omega | (simp only [low_push, low_put, next_push, next_put, next_mk, len_next, List.length_cons, List.length_nil] <;> omega) | fail) only [↓rpre, rpost1, rpost2, rpost3, rpost4, rpost5, envOf, ↓reduceIte, Nat.reduceEqDiff, List.getElem?_toArray, List.getElem?_cons_zero, List.getElem?_cons_succ, reduceCtorEq, Nat.reduceAdd, Nat.reduceSub, Nat.reduceMul, Nat.reduceLeDiff, Nat.reduceLT, Nat.reduceDiv, Nat.reduceMod, Int.reduceEq, Int.reduceNe, Int.reduceLT, Int.reduceLE, Int.reduceGT, Int.reduceGE, Int.reduceAdd, Int.reduceSub, Int.reduceMul, Int.reduceNeg, Int.reduceToNat , ho, hH]
      exact LoopG_ret ⟨rfl, .inr ⟨rfl, g2, by rw [← fu, hr]; simp⟩⟩
theorem ref_right (H : Heap) (lo : Nat) (cs : List Value) (e : EvD) (hlo : lo ≤ H.next) (hv : EvR H lo cs e) : CL Try.prog lib0 17 [.agg cs.toArray] H = some (.bool (wRight e), none) := by
  obtain ⟨v, rfl, hv, hz1, hz2, hz3, hz4⟩ := hv
  obtain ⟨a, c, rfl⟩ := hv.slice
  have n0 : decide (((e.attrs.length : Nat) : Int) = 0) = decide (e.attrs.length = 0) := decide_eq_decide.2 (by omega)
  have n32 : decide ((32 : Int) < ((e.attrs.length : Nat) : Int)) = !decide (e.attrs.length ≤ 32) := by
    rw [← decide_not]; exact decide_eq_decide.2 (by omega)
  have loop : ∀ (e' : Env) (H0 : Heap), H0 = Heap.push ⟨H.bs, H.next⟩ (.cells [.int .i64 e.kind, .string e.space, .string e.loc, .slice a e.attrs.length c, .string e.text] true 1) → (e'.get 1 = .pointer (some ⟨H.next, 0, none⟩) ∧ e'.get 4 = .int .i64 0) →
      bodyRet Try.prog [ResultVar.tmp 2] H (thenDo (inBlock 0 (LE Try.prog lib0 (.loop f17b1) e' H0)) (LE Try.prog lib0 (.seq (.ops [⟨some 2, .assign (.const (.bool true)), none⟩]) .ret))) = some (.bool (aGo [] e.attrs), none) := by
    intro e' H0 hH0 hg
    have hS : Stay H.next H H0 := by rw [hH0]; exact Stay.first H _
    have hlow : H.next ≤ H0.low := by rw [hH0]; exact Nat.le_refl _
    refine after_prop (F := fun z => bodyRet _ _ _ (thenDo (inBlock 0 z) _) = _) (rattr_loop H0 lo (by have := hS.next; omega) a c H.next _ e.attrs hz4 (hv.mono (fun j hj => hS.get j (by omega)) (Nat.le_refl _) (fun _ _ h => h)) (by rw [hH0]; exact get_push_next) rfl (aGo [] e.attrs) e.attrs.length e' H0 ⟨0, rfl, by omega, hg.1, hg.2, rfl, rfl⟩) ?_
    rintro o e2 H' ⟨hH, ⟨ho, hr⟩ | ⟨ho, h2, hr⟩⟩
    · simp (config := {maxSteps := 20000000, dsimp := false}) (disch := first | omega | (simp only [low_push, low_put, next_push, next_put, next_mk, len_next, List.length_cons, List.length_nil] <;> omega) | fail) only [↓rpre, rpost1, rpost2, rpost3, rpost4, rpost5, envOf, ↓reduceIte, Nat.reduceEqDiff, List.getElem?_toArray, List.getElem?_cons_zero, List.getElem?_cons_succ, reduceCtorEq, Nat.reduceAdd, Nat.reduceSub, Nat.reduceMul, Nat.reduceLeDiff, Nat.reduceLT, Nat.reduceDiv, Nat.reduceMod, Int.reduceEq, Int.reduceNe, Int.reduceLT, Int.reduceLE, Int.reduceGT, Int.reduceGE, Int.reduceAdd, Int.reduceSub, Int.reduceMul, Int.reduceNeg, Int.reduceToNat , ho, hr, hH]
    · simp (config := {maxSteps := 20000000, dsimp := false}) (disch := first | omega | (simp only [low_push, low_put, next_push, next_put, next_mk, len_next, List.length_cons, List.length_nil] <;> omega) | fail) only [↓rpre, rpost1, rpost2, rpost3, rpost4, rpost5, envOf, ↓reduceIte, Nat.reduceEqDiff, List.getElem?_toArray, List.getElem?_cons_zero, List.getElem?_cons_succ, reduceCtorEq, Nat.reduceAdd, Nat.reduceSub, Nat.reduceMul, Nat.reduceLeDiff, Nat.reduceLT, Nat.reduceDiv, Nat.reduceMod, Int.reduceEq, Int.reduceNe, Int.reduceLT, Int.reduceLE, Int.reduceGT, Int.reduceGE, Int.reduceAdd, Int.reduceSub, Int.reduceMul, Int.reduceNeg, Int.reduceToNat , ho, h2, hr, hH]
  rw [CL_light fn17 rfl _ (by simp), wRight]
  rcases b0 : (decide (e.space = ByteArray.empty) && decide (e.loc = ByteArray.empty)) with _ | _
  · skip
    rcases k2 : decide (e.kind = 2) with _ | _
    · have k2' := of_decide_eq_false k2
      rcases k3 : decide (e.kind = 3) with _ | _
      · have k3' := of_decide_eq_false k3
        rcases k1 : decide (e.kind = 1) with _ | _
        · have k1' := of_decide_eq_false k1
          rw [if_neg k1', if_neg k2', if_neg k3']
          simp (config := {maxSteps := 20000000, dsimp := false}) (disch := first | omega | (simp only [low_push, low_put, next_push, next_put, next_mk, len_next, List.length_cons, List.length_nil] <;> omega) | fail) only [↓rpre, rpost1, rpost2, rpost3, rpost4, rpost5, envOf, ↓reduceIte, Nat.reduceEqDiff, List.getElem?_toArray, List.getElem?_cons_zero, List.getElem?_cons_succ, reduceCtorEq, Nat.reduceAdd, Nat.reduceSub, Nat.reduceMul, Nat.reduceLeDiff, Nat.reduceLT, Nat.reduceDiv, Nat.reduceMod, Int.reduceEq, Int.reduceNe, Int.reduceLT, Int.reduceLE, Int.reduceGT, Int.reduceGE, Int.reduceAdd, Int.reduceSub, Int.reduceMul, Int.reduceNeg, Int.reduceToNat , ty3, ty31, ty39, ty30, ty9, ty4, ty33, b0, k1, k2, k3]
        · have k1' := of_decide_eq_true k1
          rw [if_pos k1']
          rcases t1 : decide (e.text = ByteArray.empty) with _ | _
          · simp (config := {maxSteps := 20000000, dsimp := false}) (disch := first | omega | (simp only [low_push, low_put, next_push, next_put, next_mk, len_next, List.length_cons, List.length_nil] <;> omega) | fail) only [↓rpre, rpost1, rpost2, rpost3, rpost4, rpost5, envOf, ↓reduceIte, Nat.reduceEqDiff, List.getElem?_toArray, List.getElem?_cons_zero, List.getElem?_cons_succ, reduceCtorEq, Nat.reduceAdd, Nat.reduceSub, Nat.reduceMul, Nat.reduceLeDiff, Nat.reduceLT, Nat.reduceDiv, Nat.reduceMod, Int.reduceEq, Int.reduceNe, Int.reduceLT, Int.reduceLE, Int.reduceGT, Int.reduceGE, Int.reduceAdd, Int.reduceSub, Int.reduceMul, Int.reduceNeg, Int.reduceToNat , ty3, ty31, ty39, ty30, ty9, ty4, ty33, b0, k1, k2, k3, t1]
          rcases t2 : wNamed e.space e.loc with _ | _
          · simp (config := {maxSteps := 20000000, dsimp := false}) (disch := first | omega | (simp only [low_push, low_put, next_push, next_put, next_mk, len_next, List.length_cons, List.length_nil] <;> omega) | fail) only [↓rpre, rpost1, rpost2, rpost3, rpost4, rpost5, envOf, ↓reduceIte, Nat.reduceEqDiff, List.getElem?_toArray, List.getElem?_cons_zero, List.getElem?_cons_succ, reduceCtorEq, Nat.reduceAdd, Nat.reduceSub, Nat.reduceMul, Nat.reduceLeDiff, Nat.reduceLT, Nat.reduceDiv, Nat.reduceMod, Int.reduceEq, Int.reduceNe, Int.reduceLT, Int.reduceLE, Int.reduceGT, Int.reduceGE, Int.reduceAdd, Int.reduceSub, Int.reduceMul, Int.reduceNeg, Int.reduceToNat , ty3, ty31, ty39, ty30, ty9, ty4, ty33, b0, k1, k2, k3, t1, t2, ref_named]
          rcases t3 : decide (e.attrs.length ≤ 32) with _ | _
          · rw [wAttrs, t3, Bool.and_false, Bool.and_false]
            simp (config := {maxSteps := 20000000, dsimp := false}) (disch := first | omega | (simp only [low_push, low_put, next_push, next_put, next_mk, len_next, List.length_cons, List.length_nil] <;> omega) | fail) only [↓rpre, rpost1, rpost2, rpost3, rpost4, rpost5, envOf, ↓reduceIte, Nat.reduceEqDiff, List.getElem?_toArray, List.getElem?_cons_zero, List.getElem?_cons_succ, reduceCtorEq, Nat.reduceAdd, Nat.reduceSub, Nat.reduceMul, Nat.reduceLeDiff, Nat.reduceLT, Nat.reduceDiv, Nat.reduceMod, Int.reduceEq, Int.reduceNe, Int.reduceLT, Int.reduceLE, Int.reduceGT, Int.reduceGE, Int.reduceAdd, Int.reduceSub, Int.reduceMul, Int.reduceNeg, Int.reduceToNat , ty3, ty31, ty39, ty30, ty9, ty4, ty33, b0, k1, k2, k3, t1, t2, t3, n32, ref_named]
          rw [wAttrs, t3, Bool.true_and, Bool.true_and, Bool.and_true]
          simp (config := {maxSteps := 20000000, dsimp := false}) (disch := first | omega | (simp only [low_push, low_put, next_push, next_put, next_mk, len_next, List.length_cons, List.length_nil] <;> omega) | fail) only [↓rpre, rpost1, rpost2, rpost3, rpost4, rpost5, envOf, ↓reduceIte, Nat.reduceEqDiff, List.getElem?_toArray, List.getElem?_cons_zero, List.getElem?_cons_succ, reduceCtorEq, Nat.reduceAdd, Nat.reduceSub, Nat.reduceMul, Nat.reduceLeDiff, Nat.reduceLT, Nat.reduceDiv, Nat.reduceMod, Int.reduceEq, Int.reduceNe, Int.reduceLT, Int.reduceLE, Int.reduceGT, Int.reduceGE, Int.reduceAdd, Int.reduceSub, Int.reduceMul, Int.reduceNeg, Int.reduceToNat , ty3, ty31, ty39, ty30, ty9, ty4, ty33, b0, k1, k2, k3, t1, t2, t3, n32, ref_named]
          exact loop _ _ rfl ⟨rfl, rfl⟩
      · have k3' := of_decide_eq_true k3
        have k1' : ¬ e.kind = 1 := by omega
        rw [if_neg k1', if_neg k2', if_pos k3']
        rcases t1 : decide (e.text = ByteArray.empty) with _ | _
        · simp (config := {maxSteps := 20000000, dsimp := false}) (disch := first | omega | (simp only [low_push, low_put, next_push, next_put, next_mk, len_next, List.length_cons, List.length_nil] <;> omega) | fail) only [↓rpre, rpost1, rpost2, rpost3, rpost4, rpost5, envOf, ↓reduceIte, Nat.reduceEqDiff, List.getElem?_toArray, List.getElem?_cons_zero, List.getElem?_cons_succ, reduceCtorEq, Nat.reduceAdd, Nat.reduceSub, Nat.reduceMul, Nat.reduceLeDiff, Nat.reduceLT, Nat.reduceDiv, Nat.reduceMod, Int.reduceEq, Int.reduceNe, Int.reduceLT, Int.reduceLE, Int.reduceGT, Int.reduceGE, Int.reduceAdd, Int.reduceSub, Int.reduceMul, Int.reduceNeg, Int.reduceToNat , ty3, ty31, ty39, ty30, ty9, ty4, ty33, b0, k2, k3, t1]
        · simp (config := {maxSteps := 20000000, dsimp := false}) (disch := first | omega | (simp only [low_push, low_put, next_push, next_put, next_mk, len_next, List.length_cons, List.length_nil] <;> omega) | fail) only [↓rpre, rpost1, rpost2, rpost3, rpost4, rpost5, envOf, ↓reduceIte, Nat.reduceEqDiff, List.getElem?_toArray, List.getElem?_cons_zero, List.getElem?_cons_succ, reduceCtorEq, Nat.reduceAdd, Nat.reduceSub, Nat.reduceMul, Nat.reduceLeDiff, Nat.reduceLT, Nat.reduceDiv, Nat.reduceMod, Int.reduceEq, Int.reduceNe, Int.reduceLT, Int.reduceLE, Int.reduceGT, Int.reduceGE, Int.reduceAdd, Int.reduceSub, Int.reduceMul, Int.reduceNeg, Int.reduceToNat , ty3, ty31, ty39, ty30, ty9, ty4, ty33, b0, k2, k3, t1]
    · have k2' := of_decide_eq_true k2
      have k1' : ¬ e.kind = 1 := by omega
      rw [if_neg k1', if_pos k2']
      rcases t1 : decide (e.text = ByteArray.empty) with _ | _
      · rcases t2 : wText e.text with _ | _
        · simp (config := {maxSteps := 20000000, dsimp := false}) (disch := first | omega | (simp only [low_push, low_put, next_push, next_put, next_mk, len_next, List.length_cons, List.length_nil] <;> omega) | fail) only [↓rpre, rpost1, rpost2, rpost3, rpost4, rpost5, envOf, ↓reduceIte, Nat.reduceEqDiff, List.getElem?_toArray, List.getElem?_cons_zero, List.getElem?_cons_succ, reduceCtorEq, Nat.reduceAdd, Nat.reduceSub, Nat.reduceMul, Nat.reduceLeDiff, Nat.reduceLT, Nat.reduceDiv, Nat.reduceMod, Int.reduceEq, Int.reduceNe, Int.reduceLT, Int.reduceLE, Int.reduceGT, Int.reduceGE, Int.reduceAdd, Int.reduceSub, Int.reduceMul, Int.reduceNeg, Int.reduceToNat , ty3, ty31, ty39, ty30, ty9, ty4, ty33, b0, k2, t1, t2, ref_text]
        · simp (config := {maxSteps := 20000000, dsimp := false}) (disch := first | omega | (simp only [low_push, low_put, next_push, next_put, next_mk, len_next, List.length_cons, List.length_nil] <;> omega) | fail) only [↓rpre, rpost1, rpost2, rpost3, rpost4, rpost5, envOf, ↓reduceIte, Nat.reduceEqDiff, List.getElem?_toArray, List.getElem?_cons_zero, List.getElem?_cons_succ, reduceCtorEq, Nat.reduceAdd, Nat.reduceSub, Nat.reduceMul, Nat.reduceLeDiff, Nat.reduceLT, Nat.reduceDiv, Nat.reduceMod, Int.reduceEq, Int.reduceNe, Int.reduceLT, Int.reduceLE, Int.reduceGT, Int.reduceGE, Int.reduceAdd, Int.reduceSub, Int.reduceMul, Int.reduceNeg, Int.reduceToNat , ty3, ty31, ty39, ty30, ty9, ty4, ty33, b0, k2, t1, t2, ref_text]
      · simp (config := {maxSteps := 20000000, dsimp := false}) (disch := first | omega | (simp only [low_push, low_put, next_push, next_put, next_mk, len_next, List.length_cons, List.length_nil] <;> omega) | fail) only [↓rpre, rpost1, rpost2, rpost3, rpost4, rpost5, envOf, ↓reduceIte, Nat.reduceEqDiff, List.getElem?_toArray, List.getElem?_cons_zero, List.getElem?_cons_succ, reduceCtorEq, Nat.reduceAdd, Nat.reduceSub, Nat.reduceMul, Nat.reduceLeDiff, Nat.reduceLT, Nat.reduceDiv, Nat.reduceMod, Int.reduceEq, Int.reduceNe, Int.reduceLT, Int.reduceLE, Int.reduceGT, Int.reduceGE, Int.reduceAdd, Int.reduceSub, Int.reduceMul, Int.reduceNeg, Int.reduceToNat , ty3, ty31, ty39, ty30, ty9, ty4, ty33, b0, k2, t1]
  rcases b1 : decide (e.attrs.length = 0) with _ | _
  · skip
    rcases k2 : decide (e.kind = 2) with _ | _
    · have k2' := of_decide_eq_false k2
      rcases k3 : decide (e.kind = 3) with _ | _
      · have k3' := of_decide_eq_false k3
        rcases k1 : decide (e.kind = 1) with _ | _
        · have k1' := of_decide_eq_false k1
          rw [if_neg k1', if_neg k2', if_neg k3']
          simp (config := {maxSteps := 20000000, dsimp := false}) (disch := first | omega | (simp only [low_push, low_put, next_push, next_put, next_mk, len_next, List.length_cons, List.length_nil] <;> omega) | fail) only [↓rpre, rpost1, rpost2, rpost3, rpost4, rpost5, envOf, ↓reduceIte, Nat.reduceEqDiff, List.getElem?_toArray, List.getElem?_cons_zero, List.getElem?_cons_succ, reduceCtorEq, Nat.reduceAdd, Nat.reduceSub, Nat.reduceMul, Nat.reduceLeDiff, Nat.reduceLT, Nat.reduceDiv, Nat.reduceMod, Int.reduceEq, Int.reduceNe, Int.reduceLT, Int.reduceLE, Int.reduceGT, Int.reduceGE, Int.reduceAdd, Int.reduceSub, Int.reduceMul, Int.reduceNeg, Int.reduceToNat , ty3, ty31, ty39, ty30, ty9, ty4, ty33, b0, n0, b1, k1, k2, k3]
        · have k1' := of_decide_eq_true k1
          rw [if_pos k1']
          rcases t1 : decide (e.text = ByteArray.empty) with _ | _
          · simp (config := {maxSteps := 20000000, dsimp := false}) (disch := first | omega | (simp only [low_push, low_put, next_push, next_put, next_mk, len_next, List.length_cons, List.length_nil] <;> omega) | fail) only [↓rpre, rpost1, rpost2, rpost3, rpost4, rpost5, envOf, ↓reduceIte, Nat.reduceEqDiff, List.getElem?_toArray, List.getElem?_cons_zero, List.getElem?_cons_succ, reduceCtorEq, Nat.reduceAdd, Nat.reduceSub, Nat.reduceMul, Nat.reduceLeDiff, Nat.reduceLT, Nat.reduceDiv, Nat.reduceMod, Int.reduceEq, Int.reduceNe, Int.reduceLT, Int.reduceLE, Int.reduceGT, Int.reduceGE, Int.reduceAdd, Int.reduceSub, Int.reduceMul, Int.reduceNeg, Int.reduceToNat , ty3, ty31, ty39, ty30, ty9, ty4, ty33, b0, n0, b1, k1, k2, k3, t1]
          rcases t2 : wNamed e.space e.loc with _ | _
          · simp (config := {maxSteps := 20000000, dsimp := false}) (disch := first | omega | (simp only [low_push, low_put, next_push, next_put, next_mk, len_next, List.length_cons, List.length_nil] <;> omega) | fail) only [↓rpre, rpost1, rpost2, rpost3, rpost4, rpost5, envOf, ↓reduceIte, Nat.reduceEqDiff, List.getElem?_toArray, List.getElem?_cons_zero, List.getElem?_cons_succ, reduceCtorEq, Nat.reduceAdd, Nat.reduceSub, Nat.reduceMul, Nat.reduceLeDiff, Nat.reduceLT, Nat.reduceDiv, Nat.reduceMod, Int.reduceEq, Int.reduceNe, Int.reduceLT, Int.reduceLE, Int.reduceGT, Int.reduceGE, Int.reduceAdd, Int.reduceSub, Int.reduceMul, Int.reduceNeg, Int.reduceToNat , ty3, ty31, ty39, ty30, ty9, ty4, ty33, b0, n0, b1, k1, k2, k3, t1, t2, ref_named]
          rcases t3 : decide (e.attrs.length ≤ 32) with _ | _
          · rw [wAttrs, t3, Bool.and_false, Bool.and_false]
            simp (config := {maxSteps := 20000000, dsimp := false}) (disch := first | omega | (simp only [low_push, low_put, next_push, next_put, next_mk, len_next, List.length_cons, List.length_nil] <;> omega) | fail) only [↓rpre, rpost1, rpost2, rpost3, rpost4, rpost5, envOf, ↓reduceIte, Nat.reduceEqDiff, List.getElem?_toArray, List.getElem?_cons_zero, List.getElem?_cons_succ, reduceCtorEq, Nat.reduceAdd, Nat.reduceSub, Nat.reduceMul, Nat.reduceLeDiff, Nat.reduceLT, Nat.reduceDiv, Nat.reduceMod, Int.reduceEq, Int.reduceNe, Int.reduceLT, Int.reduceLE, Int.reduceGT, Int.reduceGE, Int.reduceAdd, Int.reduceSub, Int.reduceMul, Int.reduceNeg, Int.reduceToNat , ty3, ty31, ty39, ty30, ty9, ty4, ty33, b0, n0, b1, k1, k2, k3, t1, t2, t3, n32, ref_named]
          rw [wAttrs, t3, Bool.true_and, Bool.true_and, Bool.and_true]
          simp (config := {maxSteps := 20000000, dsimp := false}) (disch := first | omega | (simp only [low_push, low_put, next_push, next_put, next_mk, len_next, List.length_cons, List.length_nil] <;> omega) | fail) only [↓rpre, rpost1, rpost2, rpost3, rpost4, rpost5, envOf, ↓reduceIte, Nat.reduceEqDiff, List.getElem?_toArray, List.getElem?_cons_zero, List.getElem?_cons_succ, reduceCtorEq, Nat.reduceAdd, Nat.reduceSub, Nat.reduceMul, Nat.reduceLeDiff, Nat.reduceLT, Nat.reduceDiv, Nat.reduceMod, Int.reduceEq, Int.reduceNe, Int.reduceLT, Int.reduceLE, Int.reduceGT, Int.reduceGE, Int.reduceAdd, Int.reduceSub, Int.reduceMul, Int.reduceNeg, Int.reduceToNat , ty3, ty31, ty39, ty30, ty9, ty4, ty33, b0, n0, b1, k1, k2, k3, t1, t2, t3, n32, ref_named]
          exact loop _ _ rfl ⟨rfl, rfl⟩
      · have k3' := of_decide_eq_true k3
        have k1' : ¬ e.kind = 1 := by omega
        rw [if_neg k1', if_neg k2', if_pos k3']
        rcases t1 : decide (e.text = ByteArray.empty) with _ | _
        · simp (config := {maxSteps := 20000000, dsimp := false}) (disch := first | omega | (simp only [low_push, low_put, next_push, next_put, next_mk, len_next, List.length_cons, List.length_nil] <;> omega) | fail) only [↓rpre, rpost1, rpost2, rpost3, rpost4, rpost5, envOf, ↓reduceIte, Nat.reduceEqDiff, List.getElem?_toArray, List.getElem?_cons_zero, List.getElem?_cons_succ, reduceCtorEq, Nat.reduceAdd, Nat.reduceSub, Nat.reduceMul, Nat.reduceLeDiff, Nat.reduceLT, Nat.reduceDiv, Nat.reduceMod, Int.reduceEq, Int.reduceNe, Int.reduceLT, Int.reduceLE, Int.reduceGT, Int.reduceGE, Int.reduceAdd, Int.reduceSub, Int.reduceMul, Int.reduceNeg, Int.reduceToNat , ty3, ty31, ty39, ty30, ty9, ty4, ty33, b0, n0, b1, k2, k3, t1]
        · simp (config := {maxSteps := 20000000, dsimp := false}) (disch := first | omega | (simp only [low_push, low_put, next_push, next_put, next_mk, len_next, List.length_cons, List.length_nil] <;> omega) | fail) only [↓rpre, rpost1, rpost2, rpost3, rpost4, rpost5, envOf, ↓reduceIte, Nat.reduceEqDiff, List.getElem?_toArray, List.getElem?_cons_zero, List.getElem?_cons_succ, reduceCtorEq, Nat.reduceAdd, Nat.reduceSub, Nat.reduceMul, Nat.reduceLeDiff, Nat.reduceLT, Nat.reduceDiv, Nat.reduceMod, Int.reduceEq, Int.reduceNe, Int.reduceLT, Int.reduceLE, Int.reduceGT, Int.reduceGE, Int.reduceAdd, Int.reduceSub, Int.reduceMul, Int.reduceNeg, Int.reduceToNat , ty3, ty31, ty39, ty30, ty9, ty4, ty33, b0, n0, b1, k2, k3, t1]
    · have k2' := of_decide_eq_true k2
      have k1' : ¬ e.kind = 1 := by omega
      rw [if_neg k1', if_pos k2']
      rcases t1 : decide (e.text = ByteArray.empty) with _ | _
      · rcases t2 : wText e.text with _ | _
        · simp (config := {maxSteps := 20000000, dsimp := false}) (disch := first | omega | (simp only [low_push, low_put, next_push, next_put, next_mk, len_next, List.length_cons, List.length_nil] <;> omega) | fail) only [↓rpre, rpost1, rpost2, rpost3, rpost4, rpost5, envOf, ↓reduceIte, Nat.reduceEqDiff, List.getElem?_toArray, List.getElem?_cons_zero, List.getElem?_cons_succ, reduceCtorEq, Nat.reduceAdd, Nat.reduceSub, Nat.reduceMul, Nat.reduceLeDiff, Nat.reduceLT, Nat.reduceDiv, Nat.reduceMod, Int.reduceEq, Int.reduceNe, Int.reduceLT, Int.reduceLE, Int.reduceGT, Int.reduceGE, Int.reduceAdd, Int.reduceSub, Int.reduceMul, Int.reduceNeg, Int.reduceToNat , ty3, ty31, ty39, ty30, ty9, ty4, ty33, b0, n0, b1, k2, t1, t2, ref_text]
        · simp (config := {maxSteps := 20000000, dsimp := false}) (disch := first | omega | (simp only [low_push, low_put, next_push, next_put, next_mk, len_next, List.length_cons, List.length_nil] <;> omega) | fail) only [↓rpre, rpost1, rpost2, rpost3, rpost4, rpost5, envOf, ↓reduceIte, Nat.reduceEqDiff, List.getElem?_toArray, List.getElem?_cons_zero, List.getElem?_cons_succ, reduceCtorEq, Nat.reduceAdd, Nat.reduceSub, Nat.reduceMul, Nat.reduceLeDiff, Nat.reduceLT, Nat.reduceDiv, Nat.reduceMod, Int.reduceEq, Int.reduceNe, Int.reduceLT, Int.reduceLE, Int.reduceGT, Int.reduceGE, Int.reduceAdd, Int.reduceSub, Int.reduceMul, Int.reduceNeg, Int.reduceToNat , ty3, ty31, ty39, ty30, ty9, ty4, ty33, b0, n0, b1, k2, t1, t2, ref_text]
      · simp (config := {maxSteps := 20000000, dsimp := false}) (disch := first | omega | (simp only [low_push, low_put, next_push, next_put, next_mk, len_next, List.length_cons, List.length_nil] <;> omega) | fail) only [↓rpre, rpost1, rpost2, rpost3, rpost4, rpost5, envOf, ↓reduceIte, Nat.reduceEqDiff, List.getElem?_toArray, List.getElem?_cons_zero, List.getElem?_cons_succ, reduceCtorEq, Nat.reduceAdd, Nat.reduceSub, Nat.reduceMul, Nat.reduceLeDiff, Nat.reduceLT, Nat.reduceDiv, Nat.reduceMod, Int.reduceEq, Int.reduceNe, Int.reduceLT, Int.reduceLE, Int.reduceGT, Int.reduceGE, Int.reduceAdd, Int.reduceSub, Int.reduceMul, Int.reduceNeg, Int.reduceToNat , ty3, ty31, ty39, ty30, ty9, ty4, ty33, b0, n0, b1, k2, t1]
  · skip
    rcases k2 : decide (e.kind = 2) with _ | _
    · have k2' := of_decide_eq_false k2
      rcases k3 : decide (e.kind = 3) with _ | _
      · have k3' := of_decide_eq_false k3
        rcases k1 : decide (e.kind = 1) with _ | _
        · have k1' := of_decide_eq_false k1
          rw [if_neg k1', if_neg k2', if_neg k3']
          simp (config := {maxSteps := 20000000, dsimp := false}) (disch := first | omega | (simp only [low_push, low_put, next_push, next_put, next_mk, len_next, List.length_cons, List.length_nil] <;> omega) | fail) only [↓rpre, rpost1, rpost2, rpost3, rpost4, rpost5, envOf, ↓reduceIte, Nat.reduceEqDiff, List.getElem?_toArray, List.getElem?_cons_zero, List.getElem?_cons_succ, reduceCtorEq, Nat.reduceAdd, Nat.reduceSub, Nat.reduceMul, Nat.reduceLeDiff, Nat.reduceLT, Nat.reduceDiv, Nat.reduceMod, Int.reduceEq, Int.reduceNe, Int.reduceLT, Int.reduceLE, Int.reduceGT, Int.reduceGE, Int.reduceAdd, Int.reduceSub, Int.reduceMul, Int.reduceNeg, Int.reduceToNat , ty3, ty31, ty39, ty30, ty9, ty4, ty33, b0, n0, b1, k1, k2, k3]
        · have k1' := of_decide_eq_true k1
          rw [if_pos k1']
          rcases t1 : decide (e.text = ByteArray.empty) with _ | _
          · simp (config := {maxSteps := 20000000, dsimp := false}) (disch := first | omega | (simp only [low_push, low_put, next_push, next_put, next_mk, len_next, List.length_cons, List.length_nil] <;> omega) | fail) only [↓rpre, rpost1, rpost2, rpost3, rpost4, rpost5, envOf, ↓reduceIte, Nat.reduceEqDiff, List.getElem?_toArray, List.getElem?_cons_zero, List.getElem?_cons_succ, reduceCtorEq, Nat.reduceAdd, Nat.reduceSub, Nat.reduceMul, Nat.reduceLeDiff, Nat.reduceLT, Nat.reduceDiv, Nat.reduceMod, Int.reduceEq, Int.reduceNe, Int.reduceLT, Int.reduceLE, Int.reduceGT, Int.reduceGE, Int.reduceAdd, Int.reduceSub, Int.reduceMul, Int.reduceNeg, Int.reduceToNat , ty3, ty31, ty39, ty30, ty9, ty4, ty33, b0, n0, b1, k1, k2, k3, t1]
          rcases t2 : wNamed e.space e.loc with _ | _
          · simp (config := {maxSteps := 20000000, dsimp := false}) (disch := first | omega | (simp only [low_push, low_put, next_push, next_put, next_mk, len_next, List.length_cons, List.length_nil] <;> omega) | fail) only [↓rpre, rpost1, rpost2, rpost3, rpost4, rpost5, envOf, ↓reduceIte, Nat.reduceEqDiff, List.getElem?_toArray, List.getElem?_cons_zero, List.getElem?_cons_succ, reduceCtorEq, Nat.reduceAdd, Nat.reduceSub, Nat.reduceMul, Nat.reduceLeDiff, Nat.reduceLT, Nat.reduceDiv, Nat.reduceMod, Int.reduceEq, Int.reduceNe, Int.reduceLT, Int.reduceLE, Int.reduceGT, Int.reduceGE, Int.reduceAdd, Int.reduceSub, Int.reduceMul, Int.reduceNeg, Int.reduceToNat , ty3, ty31, ty39, ty30, ty9, ty4, ty33, b0, n0, b1, k1, k2, k3, t1, t2, ref_named]
          rcases t3 : decide (e.attrs.length ≤ 32) with _ | _
          · rw [wAttrs, t3, Bool.and_false, Bool.and_false]
            simp (config := {maxSteps := 20000000, dsimp := false}) (disch := first | omega | (simp only [low_push, low_put, next_push, next_put, next_mk, len_next, List.length_cons, List.length_nil] <;> omega) | fail) only [↓rpre, rpost1, rpost2, rpost3, rpost4, rpost5, envOf, ↓reduceIte, Nat.reduceEqDiff, List.getElem?_toArray, List.getElem?_cons_zero, List.getElem?_cons_succ, reduceCtorEq, Nat.reduceAdd, Nat.reduceSub, Nat.reduceMul, Nat.reduceLeDiff, Nat.reduceLT, Nat.reduceDiv, Nat.reduceMod, Int.reduceEq, Int.reduceNe, Int.reduceLT, Int.reduceLE, Int.reduceGT, Int.reduceGE, Int.reduceAdd, Int.reduceSub, Int.reduceMul, Int.reduceNeg, Int.reduceToNat , ty3, ty31, ty39, ty30, ty9, ty4, ty33, b0, n0, b1, k1, k2, k3, t1, t2, t3, n32, ref_named]
          rw [wAttrs, t3, Bool.true_and, Bool.true_and, Bool.and_true]
          simp (config := {maxSteps := 20000000, dsimp := false}) (disch := first | omega | (simp only [low_push, low_put, next_push, next_put, next_mk, len_next, List.length_cons, List.length_nil] <;> omega) | fail) only [↓rpre, rpost1, rpost2, rpost3, rpost4, rpost5, envOf, ↓reduceIte, Nat.reduceEqDiff, List.getElem?_toArray, List.getElem?_cons_zero, List.getElem?_cons_succ, reduceCtorEq, Nat.reduceAdd, Nat.reduceSub, Nat.reduceMul, Nat.reduceLeDiff, Nat.reduceLT, Nat.reduceDiv, Nat.reduceMod, Int.reduceEq, Int.reduceNe, Int.reduceLT, Int.reduceLE, Int.reduceGT, Int.reduceGE, Int.reduceAdd, Int.reduceSub, Int.reduceMul, Int.reduceNeg, Int.reduceToNat , ty3, ty31, ty39, ty30, ty9, ty4, ty33, b0, n0, b1, k1, k2, k3, t1, t2, t3, n32, ref_named]
          exact loop _ _ rfl ⟨rfl, rfl⟩
      · have k3' := of_decide_eq_true k3
        have k1' : ¬ e.kind = 1 := by omega
        rw [if_neg k1', if_neg k2', if_pos k3']
        rcases t1 : decide (e.text = ByteArray.empty) with _ | _
        · simp (config := {maxSteps := 20000000, dsimp := false}) (disch := first | omega | (simp only [low_push, low_put, next_push, next_put, next_mk, len_next, List.length_cons, List.length_nil] <;> omega) | fail) only [↓rpre, rpost1, rpost2, rpost3, rpost4, rpost5, envOf, ↓reduceIte, Nat.reduceEqDiff, List.getElem?_toArray, List.getElem?_cons_zero, List.getElem?_cons_succ, reduceCtorEq, Nat.reduceAdd, Nat.reduceSub, Nat.reduceMul, Nat.reduceLeDiff, Nat.reduceLT, Nat.reduceDiv, Nat.reduceMod, Int.reduceEq, Int.reduceNe, Int.reduceLT, Int.reduceLE, Int.reduceGT, Int.reduceGE, Int.reduceAdd, Int.reduceSub, Int.reduceMul, Int.reduceNeg, Int.reduceToNat , ty3, ty31, ty39, ty30, ty9, ty4, ty33, b0, n0, b1, k2, k3, t1]
        · simp (config := {maxSteps := 20000000, dsimp := false}) (disch := first | omega | (simp only [low_push, low_put, next_push, next_put, next_mk, len_next, List.length_cons, List.length_nil] <;> omega) | fail) only [↓rpre, rpost1, rpost2, rpost3, rpost4, rpost5, envOf, ↓reduceIte, Nat.reduceEqDiff, List.getElem?_toArray, List.getElem?_cons_zero, List.getElem?_cons_succ, reduceCtorEq, Nat.reduceAdd, Nat.reduceSub, Nat.reduceMul, Nat.reduceLeDiff, Nat.reduceLT, Nat.reduceDiv, Nat.reduceMod, Int.reduceEq, Int.reduceNe, Int.reduceLT, Int.reduceLE, Int.reduceGT, Int.reduceGE, Int.reduceAdd, Int.reduceSub, Int.reduceMul, Int.reduceNeg, Int.reduceToNat , ty3, ty31, ty39, ty30, ty9, ty4, ty33, b0, n0, b1, k2, k3, t1]
    · have k2' := of_decide_eq_true k2
      have k1' : ¬ e.kind = 1 := by omega
      rw [if_neg k1', if_pos k2']
      rcases t1 : decide (e.text = ByteArray.empty) with _ | _
      · rcases t2 : wText e.text with _ | _
        · simp (config := {maxSteps := 20000000, dsimp := false}) (disch := first | omega | (simp only [low_push, low_put, next_push, next_put, next_mk, len_next, List.length_cons, List.length_nil] <;> omega) | fail) only [↓rpre, rpost1, rpost2, rpost3, rpost4, rpost5, envOf, ↓reduceIte, Nat.reduceEqDiff, List.getElem?_toArray, List.getElem?_cons_zero, List.getElem?_cons_succ, reduceCtorEq, Nat.reduceAdd, Nat.reduceSub, Nat.reduceMul, Nat.reduceLeDiff, Nat.reduceLT, Nat.reduceDiv, Nat.reduceMod, Int.reduceEq, Int.reduceNe, Int.reduceLT, Int.reduceLE, Int.reduceGT, Int.reduceGE, Int.reduceAdd, Int.reduceSub, Int.reduceMul, Int.reduceNeg, Int.reduceToNat , ty3, ty31, ty39, ty30, ty9, ty4, ty33, b0, n0, b1, k2, t1, t2, ref_text]
        · simp (config := {maxSteps := 20000000, dsimp := false}) (disch := first | omega | (simp only [low_push, low_put, next_push, next_put, next_mk, len_next, List.length_cons, List.length_nil] <;> omega) | fail) only [↓rpre, rpost1, rpost2, rpost3, rpost4, rpost5, envOf, ↓reduceIte, Nat.reduceEqDiff, List.getElem?_toArray, List.getElem?_cons_zero, List.getElem?_cons_succ, reduceCtorEq, Nat.reduceAdd, Nat.reduceSub, Nat.reduceMul, Nat.reduceLeDiff, Nat.reduceLT, Nat.reduceDiv, Nat.reduceMod, Int.reduceEq, Int.reduceNe, Int.reduceLT, Int.reduceLE, Int.reduceGT, Int.reduceGE, Int.reduceAdd, Int.reduceSub, Int.reduceMul, Int.reduceNeg, Int.reduceToNat , ty3, ty31, ty39, ty30, ty9, ty4, ty33, b0, n0, b1, k2, t1, t2, ref_text]
      · simp (config := {maxSteps := 20000000, dsimp := false}) (disch := first | omega | (simp only [low_push, low_put, next_push, next_put, next_mk, len_next, List.length_cons, List.length_nil] <;> omega) | fail) only [↓rpre, rpost1, rpost2, rpost3, rpost4, rpost5, envOf, ↓reduceIte, Nat.reduceEqDiff, List.getElem?_toArray, List.getElem?_cons_zero, List.getElem?_cons_succ, reduceCtorEq, Nat.reduceAdd, Nat.reduceSub, Nat.reduceMul, Nat.reduceLeDiff, Nat.reduceLT, Nat.reduceDiv, Nat.reduceMod, Int.reduceEq, Int.reduceNe, Int.reduceLT, Int.reduceLE, Int.reduceGT, Int.reduceGE, Int.reduceAdd, Int.reduceSub, Int.reduceMul, Int.reduceNeg, Int.reduceToNat , ty3, ty31, ty39, ty30, ty9, ty4, ty33, b0, n0, b1, k2, t1]
end Go.Proofs.Ytcpolfjnbbodgaa.Ve
