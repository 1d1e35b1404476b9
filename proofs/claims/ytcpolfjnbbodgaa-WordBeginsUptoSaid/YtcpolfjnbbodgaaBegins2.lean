/- The run of the law WordBegins: it answers true. Conditions: none here. -/
import Derived.Test.YtcpolfjnbbodgaaRefE
import Derived.Test.YtcpolfjnbbodgaaKeeps
namespace Go.Proofs.Ytcpolfjnbbodgaa.Ve
open Go Go.RowKit
set_option linter.unusedVariables false
set_option linter.unusedSimpArgs false
set_option maxRecDepth 100000
set_option maxHeartbeats 0

theorem count_loop (H0 : Heap) (lo : Nat) (v : Value) (l : List EvD) (hv : EvsR H0 lo v l) (hn : l.length ≤ 2000000) (a4 : Option Addr) (c4 : Nat) (n : Int) (hO : OwnC H0 lo 1 (.slice a4 (nodesFrom 0 l).length c4) (nodesFrom 0 l).length ((nodesFrom 0 l).map intV)) (hnl : (nodesFrom 0 l).length ≤ 2000000) :
    ∀ k e H2, (∃ (i : Nat) (pre : List Nat), k = l.length - i ∧ i ≤ l.length ∧ pre ++ nodesFrom i (l.drop i) = nodesFrom 0 l ∧ e.get 0 = v ∧ e.get 3 = .int .i64 n ∧ e.get 4 = .slice a4 (nodesFrom 0 l).length c4 ∧ e.get 5 = .int .i64 pre.length ∧ e.get 6 = .int .i64 i ∧ H2 = H0) →
    After (LE Try.prog lib0 (.loop f3b0) e H2) (fun o e H2 => o = .exit 0 ∧ H2 = H0 ∧ e.get 0 = v ∧ e.get 3 = .int .i64 n ∧ e.get 4 = .slice a4 (nodesFrom 0 l).length c4 ∧ e.get 5 = .int .i64 (nodesFrom 0 l).length) := by
  refine loopL_after _ _ ?_
  rintro k e H2 ⟨i, pre, hk, hi, hpre, f0, f3, f4, f5, f6, hH⟩
  subst hH
  obtain ⟨va, vc, hvs⟩ := hv.slice
  have f0s := f0
  rw [hvs] at f0s
  rcases b : decide ((i : Int) < l.length) with _ | _
  · have hb' := of_decide_eq_false b
    have : l.drop i = [] := List.drop_eq_nil_of_le (by omega)
    rw [this, nodesFrom, List.append_nil] at hpre
    simp (config := {maxSteps := 20000000, dsimp := false}) (disch := first | omega | (simp only [low_push, low_put, next_push, next_put, next_mk, len_next, List.length_cons, List.length_nil] <;> omega) | fail) only [↓rpre, rpost1, rpost2, rpost3, rpost4, rpost5, envOf, ↓reduceIte, Nat.reduceEqDiff, List.getElem?_toArray, List.getElem?_cons_zero, List.getElem?_cons_succ, reduceCtorEq, Nat.reduceAdd, Nat.reduceSub, Nat.reduceMul, Nat.reduceLeDiff, Nat.reduceLT, Nat.reduceDiv, Nat.reduceMod, Int.reduceEq, Int.reduceNe, Int.reduceLT, Int.reduceLE, Int.reduceGT, Int.reduceGE, Int.reduceAdd, Int.reduceSub, Int.reduceMul, Int.reduceNeg, Int.reduceToNat , f0s, f6, ty22, ty3, b]
    exact LoopG_exit ⟨rfl, rfl, f0, f3, f4, by rw [← hpre]; exact f5⟩
  have hb' := of_decide_eq_true b
  obtain ⟨ev, ha, hd⟩ := drop_cons (l := l) (i := i) (by omega)
  obtain ⟨nb, o, c, cs, own, aa, ac, hv', hblo, hg, hle, hr5, hav, _⟩ := ev_row hv ha
  have c0 : cs[o + i * 5]? = some (.int .i64 ev.kind) := by have := row_cell (k := 0) (by omega) hr5; simpa using this
  have nt : (i : Int).toNat = i := Int.toNat_natCast i
  have f0' := f0
  rw [hv'] at f0'
  rw [hd, nodesFrom] at hpre
  by_cases k3 : ev.kind = 3
  · have k3d : decide (ev.kind = 3) = true := decide_eq_true k3
    rw [if_pos k3] at hpre
    simp (config := {maxSteps := 20000000, dsimp := false}) (disch := first | omega | (simp only [low_push, low_put, next_push, next_put, next_mk, len_next, List.length_cons, List.length_nil] <;> omega) | fail) only [↓rpre, rpost1, rpost2, rpost3, rpost4, rpost5, envOf, ↓reduceIte, Nat.reduceEqDiff, List.getElem?_toArray, List.getElem?_cons_zero, List.getElem?_cons_succ, reduceCtorEq, Nat.reduceAdd, Nat.reduceSub, Nat.reduceMul, Nat.reduceLeDiff, Nat.reduceLT, Nat.reduceDiv, Nat.reduceMod, Int.reduceEq, Int.reduceNe, Int.reduceLT, Int.reduceLE, Int.reduceGT, Int.reduceGE, Int.reduceAdd, Int.reduceSub, Int.reduceMul, Int.reduceNeg, Int.reduceToNat , f0', f6, ty22, ty33, ty3, b, hg, c0, k3d, wrap_small]
    exact LoopG_normal (k - 1) (by omega) ⟨i + 1, pre, by omega, by omega, hpre, f0, f3, f4, f5, rfl, rfl⟩
  · have k3d : decide (ev.kind = 3) = false := decide_eq_false k3
    rw [if_neg k3] at hpre
    have hlen : pre.length < (nodesFrom 0 l).length := by rw [← hpre]; simp
    rcases hO with ⟨_, h0, _⟩ | ⟨mb, c', h1, hg4, _, _⟩
    · omega
    obtain ⟨rfl, _⟩ : a4 = some ⟨mb, 0, none⟩ ∧ c4 = c' := by simpa using h1
    have hk4 : ((nodesFrom 0 l).map intV)[pre.length]? = some (.int .i64 i) := by
      rw [← hpre]; simp [intV]
    have b4 : decide (((nodesFrom 0 l).length : Int) ≤ pre.length) = false := decide_eq_false (by omega)
    have nt2 : (pre.length : Int).toNat = pre.length := Int.toNat_natCast _
    have hlen' : (pre.length : Int) < (nodesFrom 0 l).length := by omega
    have bi : decide ((i : Int) = i) = true := decide_eq_true rfl
    simp (config := {maxSteps := 20000000, dsimp := false}) (disch := first | omega | (simp only [low_push, low_put, next_push, next_put, next_mk, len_next, List.length_cons, List.length_nil] <;> omega) | fail) only [↓rpre, rpost1, rpost2, rpost3, rpost4, rpost5, envOf, ↓reduceIte, Nat.reduceEqDiff, List.getElem?_toArray, List.getElem?_cons_zero, List.getElem?_cons_succ, reduceCtorEq, Nat.reduceAdd, Nat.reduceSub, Nat.reduceMul, Nat.reduceLeDiff, Nat.reduceLT, Nat.reduceDiv, Nat.reduceMod, Int.reduceEq, Int.reduceNe, Int.reduceLT, Int.reduceLE, Int.reduceGT, Int.reduceGE, Int.reduceAdd, Int.reduceSub, Int.reduceMul, Int.reduceNeg, Int.reduceToNat , f0', f4, f5, f6, ty22, ty33, ty26, ty3, b, hg, c0, k3d, wrap_small, b4, hg4, hk4, Nat.mul_one, bi]
    exact LoopG_normal (k - 1) (by omega) ⟨i + 1, pre ++ [i], by omega, by omega, by rw [← hpre]; simp, f0, f3, f4, by simp only [List.length_append, List.length_cons, List.length_nil]; rfl, rfl, rfl⟩
theorem law_begins (H : Heap) (v : Value) (l : List EvD) (hv : EvsR H H.next v l) (hn : l.length ≤ 1048576) : CL Try.prog lib0 3 [v] H = some (.bool true, none) := by
  obtain ⟨a, c, hvs⟩ := hv.slice
  have hv0 : EvsR ⟨H.bs, H.next⟩ H.next v l := hv.mono (fun _ _ => rfl) (Nat.le_refl _)
  have hz : Heap.next ⟨H.bs, H.next⟩ = H.next := rfl
  obtain ⟨t, hfew⟩ := ref_few ⟨H.bs, H.next⟩ H.next v l (Nat.le_refl _) hv0 (by omega)
  have hrd := ref_depth ⟨H.bs, H.next⟩ H.next v l (Nat.le_refl _) hv0 (by omega)
  have hbe := word_begins ⟨H.bs, H.next⟩ H.next v l (Nat.le_refl _) hv0 (by omega)
  have hwh := word_whole ⟨H.bs, H.next⟩ H.next v l (Nat.le_refl _) hv0 (by omega)
  have hde := word_depth ⟨H.bs, H.next⟩ H.next v l (Nat.le_refl _) hv0 (by omega)
  obtain ⟨w3, h3, H3, hc3, g3, hO3, hS3⟩ := word_nodes ⟨H.bs, H.next⟩ H.next v l (Nat.le_refl _) hv0 (by omega)
  have hn3 : H.next ≤ H3.next := hS3.next
  have hl3 : H.next ≤ H3.low := hS3.low (Nat.le_refl _)
  have hv3 : EvsR H3 H.next v l := EvsR.mono hv0 (fun j hj => hS3.get j hj) (Nat.le_refl _)
  obtain ⟨w5, h5, H5, hc5, g5, hO5, hS5⟩ := word_closers H3 H.next v l hn3 hv3 (by omega)
  have hl5 : H.next ≤ H5.low := hS5.lowAll _ hn3 hl3
  have hde3 := word_depth H3 H.next v l hn3 hv3 (by omega)
  have bnb : ∀ x y : Bool, binA Try.prog .neq 4 (.bool x) (.bool y) = some (.bool (!(x == y))) := fun x y => bin_neq_bool 4 x y ty4.2.2.2.2.2.2.1
  have tt : (true == true) = true := rfl
  have tf : (true == false) = false := rfl
  have ft : (false == true) = false := rfl
  have ff : (false == false) = true := rfl
  obtain ⟨a3, c3, rfl⟩ := hO3.ownC.slice
  obtain ⟨a5, c5, rfl⟩ := hO5.slice
  rw [hvs] at hfew hrd hbe hwh hde hc3 hc5 hde3
  rw [CL_light fn3 rfl _ (by simp), hvs]
  cases t with
  | false => simp (config := {maxSteps := 20000000, dsimp := false}) (disch := first | omega | (simp only [low_push, low_put, next_push, next_put, next_mk, len_next, List.length_cons, List.length_nil] <;> omega) | fail) only [↓rpre, rpost1, rpost2, rpost3, rpost4, rpost5, envOf, ↓reduceIte, Nat.reduceEqDiff, List.getElem?_toArray, List.getElem?_cons_zero, List.getElem?_cons_succ, reduceCtorEq, Nat.reduceAdd, Nat.reduceSub, Nat.reduceMul, Nat.reduceLeDiff, Nat.reduceLT, Nat.reduceDiv, Nat.reduceMod, Int.reduceEq, Int.reduceNe, Int.reduceLT, Int.reduceLE, Int.reduceGT, Int.reduceGE, Int.reduceAdd, Int.reduceSub, Int.reduceMul, Int.reduceNeg, Int.reduceToNat , awake, hfew]
  | true =>
    rcases hb : wBegins l with _ | _
    · have q1 : wWhole l = false := by rw [wWhole, hb]; simp
      have q2 : wDepth l = 0 := by rw [wDepth, hb]; rfl
      have q3 : (wNodes l).length = 0 := by rw [wNodes, hb]; rfl
      have q4 : (wClosers l).length = 0 := by rw [wClosers, hb]; rfl
      have z0 : ((0 : Nat) : Int) = 0 := rfl
      rw [hb] at hrd hbe
      rw [q1] at hwh
      rw [q2] at hde
      rw [q3] at hc3
      rw [q4] at hc5
      simp (config := {maxSteps := 20000000, dsimp := false}) (disch := first | omega | (simp only [low_push, low_put, next_push, next_put, next_mk, len_next, List.length_cons, List.length_nil] <;> omega) | fail) only [↓rpre, rpost1, rpost2, rpost3, rpost4, rpost5, envOf, ↓reduceIte, Nat.reduceEqDiff, List.getElem?_toArray, List.getElem?_cons_zero, List.getElem?_cons_succ, reduceCtorEq, Nat.reduceAdd, Nat.reduceSub, Nat.reduceMul, Nat.reduceLeDiff, Nat.reduceLT, Nat.reduceDiv, Nat.reduceMod, Int.reduceEq, Int.reduceNe, Int.reduceLT, Int.reduceLE, Int.reduceGT, Int.reduceGE, Int.reduceAdd, Int.reduceSub, Int.reduceMul, Int.reduceNeg, Int.reduceToNat , awake, hfew, hrd, hbe, hwh, hde, hc3, g3, hc5, g5, bnb, tt, tf, ft, ff, ty3, ty26, ty22, ty4, z0]
    · obtain ⟨d0, d64⟩ := wBegins_dep hb
      have q2 : wDepth l = dep 0 l := by rw [wDepth, if_pos hb]
      have q3 : wNodes l = nodesFrom 0 l := by rw [wNodes, if_pos hb]
      have hge : decide (0 ≤ dep 0 l) = true := decide_eq_true d0
      have hlt : decide (dep 0 l < 0) = false := decide_eq_false (by omega)
      rw [hb] at hrd hbe
      rw [if_pos rfl] at hrd
      have hwe : wWhole l = (decide (dep 0 l = 0) && decide ((0 : Int) < l.length)) := by
        have : decide ((0 : Int) < l.length) = decide (0 < l.length) := decide_eq_decide.2 (by omega)
        rw [wWhole, hb, q2, this]; cases decide (0 < l.length) <;> simp
      rw [hwe] at hwh
      rw [q2] at hde3
      have hnl := nodes_len l
      rw [q3] at hc3 hO3 hnl
      have tail : ∀ (e' : Env), e'.get 0 = v → e'.get 3 = .int .i64 (dep 0 l) → e'.get 4 = .slice a3 (nodesFrom 0 l).length c3 → e'.get 5 = .int .i64 0 → e'.get 6 = .int .i64 0 →
          bodyRet Try.prog [ResultVar.tmp 2] H (thenDo (inBlock 0 (LE Try.prog lib0 (.loop f3b0) e' H3)) (LE Try.prog lib0 (.seq (.ops [⟨some 80, .move (.tmp 3), none⟩, ⟨some 7, .assign (.tmp 80), none⟩]) f3k7))) = some (.bool true, none) := by
        intro e' k0 k3 k4 k5 k6
        refine after_prop (F := fun z => bodyRet _ _ _ (thenDo (inBlock 0 z) _) = _) (count_loop H3 H.next v l hv3 (by omega) a3 c3 (dep 0 l) hO3.ownC (by omega) l.length e' H3 ⟨0, [], rfl, by omega, rfl, k0, k3, k4, k5, k6, rfl⟩) ?_
        rintro o e2 H4 ⟨ho, hH4, p0, p3, p4, p5⟩
        rw [hvs] at p0
        have e1 : decide (dep 0 l = dep 0 l) = true := decide_eq_true rfl
        have e2 : decide (((nodesFrom 0 l).length : Int) = ((nodesFrom 0 l).length : Int)) = true := decide_eq_true rfl
        have d0' : decide ((l.length : Int) = 0) = decide (l = []) := decide_eq_decide.2 (by rw [← List.length_eq_zero_iff]; omega)
        rcases hl0 : decide (l = []) with _ | _
        · have hne := of_decide_eq_false hl0
          have e3 : decide (((wClosers l).length : Int) = dep 0 l) = true := decide_eq_true (by rw [wClosers, if_pos hb, if_neg hne, List.length_replicate, Int.toNat_of_nonneg d0])
          simp (config := {maxSteps := 20000000, dsimp := false}) (disch := first | omega | (simp only [low_push, low_put, next_push, next_put, next_mk, len_next, List.length_cons, List.length_nil] <;> omega) | fail) only [↓rpre, rpost1, rpost2, rpost3, rpost4, rpost5, envOf, ↓reduceIte, Nat.reduceEqDiff, List.getElem?_toArray, List.getElem?_cons_zero, List.getElem?_cons_succ, reduceCtorEq, Nat.reduceAdd, Nat.reduceSub, Nat.reduceMul, Nat.reduceLeDiff, Nat.reduceLT, Nat.reduceDiv, Nat.reduceMod, Int.reduceEq, Int.reduceNe, Int.reduceLT, Int.reduceLE, Int.reduceGT, Int.reduceGE, Int.reduceAdd, Int.reduceSub, Int.reduceMul, Int.reduceNeg, Int.reduceToNat , ho, hH4, p0, p3, p4, p5, ty22, ty3, ty26, d0', hl0, hde3, e1, e2, hc5, g5, e3]
        · have he := of_decide_eq_true hl0
          have e3 : decide (((wClosers l).length : Int) = 2) = true := decide_eq_true (by rw [wClosers, if_pos hb, if_pos he]; rfl)
          simp (config := {maxSteps := 20000000, dsimp := false}) (disch := first | omega | (simp only [low_push, low_put, next_push, next_put, next_mk, len_next, List.length_cons, List.length_nil] <;> omega) | fail) only [↓rpre, rpost1, rpost2, rpost3, rpost4, rpost5, envOf, ↓reduceIte, Nat.reduceEqDiff, List.getElem?_toArray, List.getElem?_cons_zero, List.getElem?_cons_succ, reduceCtorEq, Nat.reduceAdd, Nat.reduceSub, Nat.reduceMul, Nat.reduceLeDiff, Nat.reduceLT, Nat.reduceDiv, Nat.reduceMod, Int.reduceEq, Int.reduceNe, Int.reduceLT, Int.reduceLE, Int.reduceGT, Int.reduceGE, Int.reduceAdd, Int.reduceSub, Int.reduceMul, Int.reduceNeg, Int.reduceToNat , ho, hH4, p0, p3, p4, p5, ty22, ty3, ty26, d0', hl0, hde3, e1, e2, hc5, g5, e3]
      rcases b0 : decide (dep 0 l = 0) with _ | _
      · rw [b0, Bool.false_and] at hwh
        simp (config := {maxSteps := 20000000, dsimp := false}) (disch := first | omega | (simp only [low_push, low_put, next_push, next_put, next_mk, len_next, List.length_cons, List.length_nil] <;> omega) | fail) only [↓rpre, rpost1, rpost2, rpost3, rpost4, rpost5, envOf, ↓reduceIte, Nat.reduceEqDiff, List.getElem?_toArray, List.getElem?_cons_zero, List.getElem?_cons_succ, reduceCtorEq, Nat.reduceAdd, Nat.reduceSub, Nat.reduceMul, Nat.reduceLeDiff, Nat.reduceLT, Nat.reduceDiv, Nat.reduceMod, Int.reduceEq, Int.reduceNe, Int.reduceLT, Int.reduceLE, Int.reduceGT, Int.reduceGE, Int.reduceAdd, Int.reduceSub, Int.reduceMul, Int.reduceNeg, Int.reduceToNat , awake, hfew, hrd, hbe, hwh, bnb, tt, tf, ft, ff, ty3, ty26, ty22, ty4, hge, hlt, b0, hc3, g3]
        exact tail _ hvs.symm rfl rfl rfl rfl
      · rcases b1 : decide ((0 : Int) < l.length) with _ | _
        · rw [b0, b1] at hwh
          simp (config := {maxSteps := 20000000, dsimp := false}) (disch := first | omega | (simp only [low_push, low_put, next_push, next_put, next_mk, len_next, List.length_cons, List.length_nil] <;> omega) | fail) only [↓rpre, rpost1, rpost2, rpost3, rpost4, rpost5, envOf, ↓reduceIte, Nat.reduceEqDiff, List.getElem?_toArray, List.getElem?_cons_zero, List.getElem?_cons_succ, reduceCtorEq, Nat.reduceAdd, Nat.reduceSub, Nat.reduceMul, Nat.reduceLeDiff, Nat.reduceLT, Nat.reduceDiv, Nat.reduceMod, Int.reduceEq, Int.reduceNe, Int.reduceLT, Int.reduceLE, Int.reduceGT, Int.reduceGE, Int.reduceAdd, Int.reduceSub, Int.reduceMul, Int.reduceNeg, Int.reduceToNat , awake, hfew, hrd, hbe, hwh, bnb, tt, tf, ft, ff, ty3, ty26, ty22, ty4, hge, hlt, b0, b1, hc3, g3]
          exact tail _ hvs.symm rfl rfl rfl rfl
        · rw [b0, b1] at hwh
          simp (config := {maxSteps := 20000000, dsimp := false}) (disch := first | omega | (simp only [low_push, low_put, next_push, next_put, next_mk, len_next, List.length_cons, List.length_nil] <;> omega) | fail) only [↓rpre, rpost1, rpost2, rpost3, rpost4, rpost5, envOf, ↓reduceIte, Nat.reduceEqDiff, List.getElem?_toArray, List.getElem?_cons_zero, List.getElem?_cons_succ, reduceCtorEq, Nat.reduceAdd, Nat.reduceSub, Nat.reduceMul, Nat.reduceLeDiff, Nat.reduceLT, Nat.reduceDiv, Nat.reduceMod, Int.reduceEq, Int.reduceNe, Int.reduceLT, Int.reduceLE, Int.reduceGT, Int.reduceGE, Int.reduceAdd, Int.reduceSub, Int.reduceMul, Int.reduceNeg, Int.reduceToNat , awake, hfew, hrd, hbe, hwh, bnb, tt, tf, ft, ff, ty3, ty26, ty22, ty4, hge, hlt, b0, b1, hc3, g3]
          exact tail _ hvs.symm rfl rfl rfl rfl
end Go.Proofs.Ytcpolfjnbbodgaa.Ve
