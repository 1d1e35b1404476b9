/- The runs of word's Depth, Whole, Nodes. Conditions: none here. -/
import Derived.Test.YtcpolfjnbbodgaaBegin
namespace Go.Proofs.Ytcpolfjnbbodgaa.Ve
open Go Go.RowKit
set_option linter.unusedVariables false
set_option linter.unusedSimpArgs false
set_option maxRecDepth 100000
set_option maxHeartbeats 0

/-! plain laws of depths -/
def dep (d : Int) (l : List EvD) : Int := l.foldl (fun d e => dStep d e.kind) d
theorem dStep_range (d k : Int) : d - 1 ≤ dStep d k ∧ dStep d k ≤ d + 1 := by unfold dStep; split <;> (try split) <;> omega
theorem dep_range : ∀ (l : List EvD) (d : Int), d - l.length ≤ dep d l ∧ dep d l ≤ d + l.length
  | [], d => by simp [dep]
  | e :: l, d => by
    have h := dep_range l (dStep d e.kind)
    have k := dStep_range d e.kind
    simp only [dep, List.foldl_cons, List.length_cons] at h ⊢
    omega
theorem bGo_dep : ∀ (l : List EvD) (p : Option Int) (d : Int), 0 ≤ d → d ≤ 64 → (p = none → d = 0) → bGo p d l = true → 0 ≤ dep d l ∧ dep d l ≤ 64
  | [], p, d, h0, h1, _, _ => ⟨h0, h1⟩
  | e :: l, p, d, h0, h1, hp, h => by
    rw [bGo] at h
    split at h
    · cases h
    · rename_i hc
      split at h
      · cases h
      · rename_i h64
        refine bGo_dep l (some e.kind) (dStep d e.kind) ?_ (by omega) (fun q => by cases q) h
        have := dStep_range d e.kind
        by_cases hz : d = 0
        · cases p with
          | none =>
            simp at hc
            have : e.kind = 1 := by
              by_cases k : e.kind = 1
              · exact k
              · simp [k] at hc
            rw [dStep, if_pos this]; omega
          | some q => simp [hz] at hc
        · omega
theorem wBegins_dep {l : List EvD} (h : wBegins l = true) : 0 ≤ dep 0 l ∧ dep 0 l ≤ 64 := bGo_dep l none 0 (by omega) (by omega) (fun _ => rfl) h
def wDepth (l : List EvD) : Int := if wBegins l then dep 0 l else 0

/-- what all loops over events have: an element's row -/
theorem ev_row {H : Heap} {lo : Nat} {v : Value} {l : List EvD} (hv : EvsR H lo v l) {i : Nat} {ev : EvD} (ha : l[i]? = some ev) :
    ∃ b o c cs own aa ac, v = .slice (some ⟨b, o, none⟩) l.length c ∧ b < lo ∧ H.get b = some (.cells cs own 5) ∧ o + i * 5 + 5 ≤ cs.length ∧
      (cs.drop (o + i * 5)).take 5 = [.int .i64 ev.kind, .string ev.space, .string ev.loc, .slice aa ev.attrs.length ac, .string ev.text] ∧
      SlI H lo 3 AtR (.slice aa ev.attrs.length ac) ev.attrs ∧ ev.space.size ≤ 1048576 ∧ ev.loc.size ≤ 1048576 ∧ ev.text.size ≤ 1048576 ∧ ev.attrs.length ≤ 1048576 := by
  obtain ⟨b, o, c, cs, own, hv', hblo, hg, hle, av, hr5, hav, hz⟩ := hv.at_ ha
  obtain ⟨aa, ac, rfl⟩ := hav.slice
  exact ⟨b, o, c, cs, own, aa, ac, hv', hblo, hg, hle, hr5, hav, hz⟩
theorem drop_cons {α : Type} {l : List α} {i : Nat} (hi : i < l.length) : ∃ a, l[i]? = some a ∧ l.drop i = a :: l.drop (i + 1) :=
  ⟨l[i], List.getElem?_eq_getElem hi, List.drop_eq_getElem_cons hi⟩

theorem dep_loop (H : Heap) (lo : Nat) (v : Value) (l : List EvD) (hlo : lo ≤ H.next) (hv : EvsR H lo v l) (hn : l.length ≤ 2000000) (r : Int) :
    ∀ k e H2, (∃ (i : Nat) (d : Int), k = l.length - i ∧ i ≤ l.length ∧ -(i : Int) ≤ d ∧ d ≤ i ∧ e.get 9 = v ∧ e.get 10 = .int .i64 l.length ∧ e.get 11 = .int .i64 i ∧ e.get 3 = .int .i64 d ∧ Stay H.next H H2 ∧ H.next ≤ H2.low ∧ dep d (l.drop i) = r) →
    After (LE Try.prog lib0 (.loop f12b0) e H2) (fun o e H2 => H.next ≤ H2.low ∧ o = .exit 0 ∧ e.get 3 = .int .i64 r) := by
  refine loopL_after _ _ ?_
  rintro k e H2 ⟨i, d, hk, hi, hd1, hd2, f9, f10, f11, f3, hS, hl, fu⟩
  simp (config := {maxSteps := 20000000, dsimp := false}) (disch := first | omega | (simp only [low_push, low_put, next_push, next_put, next_mk, len_next, List.length_cons, List.length_nil] <;> omega) | fail) only [↓rpre, rpost1, rpost2, rpost3, rpost4, rpost5, envOf, ↓reduceIte, Nat.reduceEqDiff, List.getElem?_toArray, List.getElem?_cons_zero, List.getElem?_cons_succ, reduceCtorEq, Nat.reduceAdd, Nat.reduceSub, Nat.reduceMul, Nat.reduceLeDiff, Nat.reduceLT, Nat.reduceDiv, Nat.reduceMod, Int.reduceEq, Int.reduceNe, Int.reduceLT, Int.reduceLE, Int.reduceGT, Int.reduceGE, Int.reduceAdd, Int.reduceSub, Int.reduceMul, Int.reduceNeg, Int.reduceToNat , f10, f11, ty3]
  rcases hb : decide ((i : Int) < l.length) with _ | _
  · have hb' := of_decide_eq_false hb
    have : l.drop i = [] := List.drop_eq_nil_of_le (by omega)
    rw [this] at fu
    simp (config := {maxSteps := 20000000, dsimp := false}) (disch := first | omega | (simp only [low_push, low_put, next_push, next_put, next_mk, len_next, List.length_cons, List.length_nil] <;> omega) | fail) only [↓rpre, rpost1, rpost2, rpost3, rpost4, rpost5, envOf, ↓reduceIte, Nat.reduceEqDiff, List.getElem?_toArray, List.getElem?_cons_zero, List.getElem?_cons_succ, reduceCtorEq, Nat.reduceAdd, Nat.reduceSub, Nat.reduceMul, Nat.reduceLeDiff, Nat.reduceLT, Nat.reduceDiv, Nat.reduceMod, Int.reduceEq, Int.reduceNe, Int.reduceLT, Int.reduceLE, Int.reduceGT, Int.reduceGE, Int.reduceAdd, Int.reduceSub, Int.reduceMul, Int.reduceNeg, Int.reduceToNat , if_true]
    refine LoopG_exit ⟨hl, rfl, ?_⟩
    rw [← fu]; exact f3
  · have hb' := of_decide_eq_true hb
    obtain ⟨ev, ha, hd⟩ := drop_cons (l := l) (i := i) (by omega)
    rw [hd] at fu
    obtain ⟨b, o, c, cs, own, aa, ac, hv', hblo, hg, hle, hr5, hav, _⟩ := ev_row hv ha
    have hg2 : H2.get b = some (.cells cs own 5) := by rw [hS.get b (by omega)]; exact hg
    have hbl := get_lt hg2
    have hSn := hS.next
    have hrow := row_agg hle hr5
    have f9' := f9
    rw [hv'] at f9'
    have hr := dStep_range d ev.kind
    have fin : ∀ (e' : Env) B B', e'.get 9 = v → e'.get 10 = .int .i64 l.length → e'.get 11 = .int .i64 ((i : Int) + 1) → e'.get 3 = .int .i64 (dStep d ev.kind) →
        LoopG k (fun k e H2 => ∃ (i : Nat) (d : Int), k = l.length - i ∧ i ≤ l.length ∧ -(i : Int) ≤ d ∧ d ≤ i ∧ e.get 9 = v ∧ e.get 10 = .int .i64 l.length ∧ e.get 11 = .int .i64 i ∧ e.get 3 = .int .i64 d ∧ Stay H.next H H2 ∧ H.next ≤ H2.low ∧ dep d (l.drop i) = r) (fun o e H2 => H.next ≤ H2.low ∧ o = .exit 0 ∧ e.get 3 = .int .i64 r) .normal e' ((H2.push B).put H2.next B') := fun e' B B' g9 g10 g11 g3 =>
      LoopG_normal (k - 1) (by omega) ⟨i + 1, dStep d ev.kind, by omega, by omega, by omega, by omega, g9, g10, g11, g3, hS.trans ((Stay.push hSn).trans (Stay.put hSn)), by rw [low_put, low_push]; omega, fu⟩
    simp (config := {maxSteps := 20000000, dsimp := false}) (disch := first | omega | (simp only [low_push, low_put, next_push, next_put, next_mk, len_next, List.length_cons, List.length_nil] <;> omega) | fail) only [↓rpre, rpost1, rpost2, rpost3, rpost4, rpost5, envOf, ↓reduceIte, Nat.reduceEqDiff, List.getElem?_toArray, List.getElem?_cons_zero, List.getElem?_cons_succ, reduceCtorEq, Nat.reduceAdd, Nat.reduceSub, Nat.reduceMul, Nat.reduceLeDiff, Nat.reduceLT, Nat.reduceDiv, Nat.reduceMod, Int.reduceEq, Int.reduceNe, Int.reduceLT, Int.reduceLE, Int.reduceGT, Int.reduceGE, Int.reduceAdd, Int.reduceSub, Int.reduceMul, Int.reduceNeg, Int.reduceToNat , f9', f10, f11, f3, ty3, ty22, ty33, hg2, hrow]
    by_cases k1 : ev.kind = 1
    · have k1d : decide (ev.kind = 1) = true := decide_eq_true k1
      simp (config := {maxSteps := 20000000, dsimp := false}) (disch := first | omega | (simp only [low_push, low_put, next_push, next_put, next_mk, len_next, List.length_cons, List.length_nil] <;> omega) | fail) only [↓rpre, rpost1, rpost2, rpost3, rpost4, rpost5, envOf, ↓reduceIte, Nat.reduceEqDiff, List.getElem?_toArray, List.getElem?_cons_zero, List.getElem?_cons_succ, reduceCtorEq, Nat.reduceAdd, Nat.reduceSub, Nat.reduceMul, Nat.reduceLeDiff, Nat.reduceLT, Nat.reduceDiv, Nat.reduceMod, Int.reduceEq, Int.reduceNe, Int.reduceLT, Int.reduceLE, Int.reduceGT, Int.reduceGE, Int.reduceAdd, Int.reduceSub, Int.reduceMul, Int.reduceNeg, Int.reduceToNat , f9', f10, f11, f3, ty3, ty22, ty33, k1d, wrap_small]
      exact fin _ _ _ f9 f10 rfl (by rw [dStep, if_pos k1]; rfl)
    have k1d : decide (ev.kind = 1) = false := decide_eq_false k1
    by_cases k3 : ev.kind = 3
    · have k3d : decide (ev.kind = 3) = true := decide_eq_true k3
      simp (config := {maxSteps := 20000000, dsimp := false}) (disch := first | omega | (simp only [low_push, low_put, next_push, next_put, next_mk, len_next, List.length_cons, List.length_nil] <;> omega) | fail) only [↓rpre, rpost1, rpost2, rpost3, rpost4, rpost5, envOf, ↓reduceIte, Nat.reduceEqDiff, List.getElem?_toArray, List.getElem?_cons_zero, List.getElem?_cons_succ, reduceCtorEq, Nat.reduceAdd, Nat.reduceSub, Nat.reduceMul, Nat.reduceLeDiff, Nat.reduceLT, Nat.reduceDiv, Nat.reduceMod, Int.reduceEq, Int.reduceNe, Int.reduceLT, Int.reduceLE, Int.reduceGT, Int.reduceGE, Int.reduceAdd, Int.reduceSub, Int.reduceMul, Int.reduceNeg, Int.reduceToNat , f9', f10, f11, f3, ty3, ty22, ty33, k1d, k3d, wrap_small]
      exact fin _ _ _ f9 f10 rfl (by rw [dStep, if_neg k1, if_pos k3]; rfl)
    have k3d : decide (ev.kind = 3) = false := decide_eq_false k3
    simp (config := {maxSteps := 20000000, dsimp := false}) (disch := first | omega | (simp only [low_push, low_put, next_push, next_put, next_mk, len_next, List.length_cons, List.length_nil] <;> omega) | fail) only [↓rpre, rpost1, rpost2, rpost3, rpost4, rpost5, envOf, ↓reduceIte, Nat.reduceEqDiff, List.getElem?_toArray, List.getElem?_cons_zero, List.getElem?_cons_succ, reduceCtorEq, Nat.reduceAdd, Nat.reduceSub, Nat.reduceMul, Nat.reduceLeDiff, Nat.reduceLT, Nat.reduceDiv, Nat.reduceMod, Int.reduceEq, Int.reduceNe, Int.reduceLT, Int.reduceLE, Int.reduceGT, Int.reduceGE, Int.reduceAdd, Int.reduceSub, Int.reduceMul, Int.reduceNeg, Int.reduceToNat , f9', f10, f11, f3, ty3, ty22, ty33, k1d, k3d, wrap_small]
    exact fin _ _ _ f9 f10 rfl (by rw [dStep, if_neg k1, if_neg k3]; exact f3)
theorem word_depth (H : Heap) (lo : Nat) (v : Value) (l : List EvD) (hlo : lo ≤ H.next) (hv : EvsR H lo v l) (hn : l.length ≤ 2000000) : CL Try.prog lib0 12 [v] H = some (.int .i64 (wDepth l), none) := by
  obtain ⟨a, c, hvs⟩ := hv.slice
  have hv2 : EvsR H lo (.slice a l.length c) l := by rw [← hvs]; exact hv
  have hbe := word_begins ⟨H.bs, H.next⟩ lo _ l hlo (hv2.mono (fun _ _ => rfl) (Nat.le_refl _)) hn
  rw [CL_light fn12 rfl _ (by simp), hvs, wDepth]
  simp (config := {maxSteps := 20000000, dsimp := false}) (disch := first | omega | (simp only [low_push, low_put, next_push, next_put, next_mk, len_next, List.length_cons, List.length_nil] <;> omega) | fail) only [↓rpre, rpost1, rpost2, rpost3, rpost4, rpost5, envOf, ↓reduceIte, Nat.reduceEqDiff, List.getElem?_toArray, List.getElem?_cons_zero, List.getElem?_cons_succ, reduceCtorEq, Nat.reduceAdd, Nat.reduceSub, Nat.reduceMul, Nat.reduceLeDiff, Nat.reduceLT, Nat.reduceDiv, Nat.reduceMod, Int.reduceEq, Int.reduceNe, Int.reduceLT, Int.reduceLE, Int.reduceGT, Int.reduceGE, Int.reduceAdd, Int.reduceSub, Int.reduceMul, Int.reduceNeg, Int.reduceToNat , ty22, hbe]
  rcases h1 : wBegins l with _ | _
  · simp (config := {maxSteps := 20000000, dsimp := false}) (disch := first | omega | (simp only [low_push, low_put, next_push, next_put, next_mk, len_next, List.length_cons, List.length_nil] <;> omega) | fail) only [↓rpre, rpost1, rpost2, rpost3, rpost4, rpost5, envOf, ↓reduceIte, Nat.reduceEqDiff, List.getElem?_toArray, List.getElem?_cons_zero, List.getElem?_cons_succ, reduceCtorEq, Nat.reduceAdd, Nat.reduceSub, Nat.reduceMul, Nat.reduceLeDiff, Nat.reduceLT, Nat.reduceDiv, Nat.reduceMod, Int.reduceEq, Int.reduceNe, Int.reduceLT, Int.reduceLE, Int.reduceGT, Int.reduceGE, Int.reduceAdd, Int.reduceSub, Int.reduceMul, Int.reduceNeg, Int.reduceToNat , h1]
    try rfl
  · simp (config := {maxSteps := 20000000, dsimp := false}) (disch := first | omega | (simp only [low_push, low_put, next_push, next_put, next_mk, len_next, List.length_cons, List.length_nil] <;> omega) | fail) only [↓rpre, rpost1, rpost2, rpost3, rpost4, rpost5, envOf, ↓reduceIte, Nat.reduceEqDiff, List.getElem?_toArray, List.getElem?_cons_zero, List.getElem?_cons_succ, reduceCtorEq, Nat.reduceAdd, Nat.reduceSub, Nat.reduceMul, Nat.reduceLeDiff, Nat.reduceLT, Nat.reduceDiv, Nat.reduceMod, Int.reduceEq, Int.reduceNe, Int.reduceLT, Int.reduceLE, Int.reduceGT, Int.reduceGE, Int.reduceAdd, Int.reduceSub, Int.reduceMul, Int.reduceNeg, Int.reduceToNat , h1, ty22]
    refine after_prop (F := fun z => bodyRet _ _ _ (thenDo (inBlock 0 z) _) = _) (dep_loop H lo _ l hlo hv2 hn (dep 0 l) l.length _ _ ⟨0, 0, rfl, by omega, by omega, by omega, rfl, rfl, rfl, rfl, Stay.start H, Nat.le_refl _, rfl⟩) ?_
    rintro o e' H' ⟨hl, ho, h3⟩
    simp (config := {maxSteps := 20000000, dsimp := false}) (disch := first | omega | (simp only [low_push, low_put, next_push, next_put, next_mk, len_next, List.length_cons, List.length_nil] <;> omega) | fail) only [↓rpre, rpost1, rpost2, rpost3, rpost4, rpost5, envOf, ↓reduceIte, Nat.reduceEqDiff, List.getElem?_toArray, List.getElem?_cons_zero, List.getElem?_cons_succ, reduceCtorEq, Nat.reduceAdd, Nat.reduceSub, Nat.reduceMul, Nat.reduceLeDiff, Nat.reduceLT, Nat.reduceDiv, Nat.reduceMod, Int.reduceEq, Int.reduceNe, Int.reduceLT, Int.reduceLE, Int.reduceGT, Int.reduceGE, Int.reduceAdd, Int.reduceSub, Int.reduceMul, Int.reduceNeg, Int.reduceToNat , ho, h3]
def wWhole (l : List EvD) : Bool := decide (0 < l.length) && wBegins l && decide (wDepth l = 0)
theorem word_whole (H : Heap) (lo : Nat) (v : Value) (l : List EvD) (hlo : lo ≤ H.next) (hv : EvsR H lo v l) (hn : l.length ≤ 2000000) : CL Try.prog lib0 11 [v] H = some (.bool (wWhole l), none) := by
  obtain ⟨a, c, hvs⟩ := hv.slice
  have hv2 : EvsR H lo (.slice a l.length c) l := by rw [← hvs]; exact hv
  have hv3 : EvsR ⟨H.bs, H.next⟩ lo (.slice a l.length c) l := hv2.mono (fun _ _ => rfl) (Nat.le_refl _)
  have hbe := word_begins ⟨H.bs, H.next⟩ lo _ l hlo hv3 hn
  have hde := word_depth ⟨H.bs, H.next⟩ lo _ l hlo hv3 hn
  have hd : decide (0 < ((l.length : Nat) : Int)) = decide (0 < l.length) := decide_eq_decide.2 (by omega)
  rw [CL_light fn11 rfl _ (by simp), hvs, wWhole]
  simp (config := {maxSteps := 20000000, dsimp := false}) (disch := first | omega | (simp only [low_push, low_put, next_push, next_put, next_mk, len_next, List.length_cons, List.length_nil] <;> omega) | fail) only [↓rpre, rpost1, rpost2, rpost3, rpost4, rpost5, envOf, ↓reduceIte, Nat.reduceEqDiff, List.getElem?_toArray, List.getElem?_cons_zero, List.getElem?_cons_succ, reduceCtorEq, Nat.reduceAdd, Nat.reduceSub, Nat.reduceMul, Nat.reduceLeDiff, Nat.reduceLT, Nat.reduceDiv, Nat.reduceMod, Int.reduceEq, Int.reduceNe, Int.reduceLT, Int.reduceLE, Int.reduceGT, Int.reduceGE, Int.reduceAdd, Int.reduceSub, Int.reduceMul, Int.reduceNeg, Int.reduceToNat , ty22, ty3, hd]
  rcases h0 : decide (0 < l.length) with _ | _
  · simp (config := {maxSteps := 20000000, dsimp := false}) (disch := first | omega | (simp only [low_push, low_put, next_push, next_put, next_mk, len_next, List.length_cons, List.length_nil] <;> omega) | fail) only [↓rpre, rpost1, rpost2, rpost3, rpost4, rpost5, envOf, ↓reduceIte, Nat.reduceEqDiff, List.getElem?_toArray, List.getElem?_cons_zero, List.getElem?_cons_succ, reduceCtorEq, Nat.reduceAdd, Nat.reduceSub, Nat.reduceMul, Nat.reduceLeDiff, Nat.reduceLT, Nat.reduceDiv, Nat.reduceMod, Int.reduceEq, Int.reduceNe, Int.reduceLT, Int.reduceLE, Int.reduceGT, Int.reduceGE, Int.reduceAdd, Int.reduceSub, Int.reduceMul, Int.reduceNeg, Int.reduceToNat , h0]
  rcases h1 : wBegins l with _ | _
  · simp (config := {maxSteps := 20000000, dsimp := false}) (disch := first | omega | (simp only [low_push, low_put, next_push, next_put, next_mk, len_next, List.length_cons, List.length_nil] <;> omega) | fail) only [↓rpre, rpost1, rpost2, rpost3, rpost4, rpost5, envOf, ↓reduceIte, Nat.reduceEqDiff, List.getElem?_toArray, List.getElem?_cons_zero, List.getElem?_cons_succ, reduceCtorEq, Nat.reduceAdd, Nat.reduceSub, Nat.reduceMul, Nat.reduceLeDiff, Nat.reduceLT, Nat.reduceDiv, Nat.reduceMod, Int.reduceEq, Int.reduceNe, Int.reduceLT, Int.reduceLE, Int.reduceGT, Int.reduceGE, Int.reduceAdd, Int.reduceSub, Int.reduceMul, Int.reduceNeg, Int.reduceToNat , h0, hbe, h1]
  simp (config := {maxSteps := 20000000, dsimp := false}) (disch := first | omega | (simp only [low_push, low_put, next_push, next_put, next_mk, len_next, List.length_cons, List.length_nil] <;> omega) | fail) only [↓rpre, rpost1, rpost2, rpost3, rpost4, rpost5, envOf, ↓reduceIte, Nat.reduceEqDiff, List.getElem?_toArray, List.getElem?_cons_zero, List.getElem?_cons_succ, reduceCtorEq, Nat.reduceAdd, Nat.reduceSub, Nat.reduceMul, Nat.reduceLeDiff, Nat.reduceLT, Nat.reduceDiv, Nat.reduceMod, Int.reduceEq, Int.reduceNe, Int.reduceLT, Int.reduceLE, Int.reduceGT, Int.reduceGE, Int.reduceAdd, Int.reduceSub, Int.reduceMul, Int.reduceNeg, Int.reduceToNat , h0, hbe, h1, hde]
/-- the places of nodes from a place on -/
def nodesFrom : Nat → List EvD → List Nat
  | _, [] => []
  | i, e :: l => if e.kind = 3 then nodesFrom (i + 1) l else i :: nodesFrom (i + 1) l
def wNodes (l : List EvD) : List Nat := if wBegins l then nodesFrom 0 l else []
def intV (i : Nat) : Value := .int .i64 i
theorem nodes_loop (H : Heap) (lo : Nat) (v : Value) (l : List EvD) (hlo : lo ≤ H.next) (hv : EvsR H lo v l) (hn : l.length ≤ 2000000) (r : List Nat) :
    ∀ k e H2, (∃ (i : Nat) (w : Value) (ns : List Nat), k = l.length - i ∧ i ≤ l.length ∧ ns.length ≤ i ∧ e.get 9 = v ∧ e.get 10 = .int .i64 l.length ∧ e.get 11 = .int .i64 i ∧ e.get 3 = w ∧ OwnSl H2 H.next 1 w ns.length (ns.map intV) ∧ Stay H.next H H2 ∧ H.next ≤ H2.low ∧ ns ++ nodesFrom i (l.drop i) = r) →
    After (LE Try.prog lib0 (.loop f13b0) e H2) (fun o e H2 => o = .exit 0 ∧ ∃ w, e.get 3 = w ∧ H.next ≤ H2.low ∧ OwnSl H2 H.next 1 w r.length (r.map intV) ∧ Stay H.next H H2) := by
  refine loopL_after _ _ ?_
  rintro k e H2 ⟨i, w, ns, hk, hi, hns, f9, f10, f11, f3, hO, hS, hl, fu⟩
  simp (config := {maxSteps := 20000000, dsimp := false}) (disch := first | omega | (simp only [low_push, low_put, next_push, next_put, next_mk, len_next, List.length_cons, List.length_nil] <;> omega) | fail) only [↓rpre, rpost1, rpost2, rpost3, rpost4, rpost5, envOf, ↓reduceIte, Nat.reduceEqDiff, List.getElem?_toArray, List.getElem?_cons_zero, List.getElem?_cons_succ, reduceCtorEq, Nat.reduceAdd, Nat.reduceSub, Nat.reduceMul, Nat.reduceLeDiff, Nat.reduceLT, Nat.reduceDiv, Nat.reduceMod, Int.reduceEq, Int.reduceNe, Int.reduceLT, Int.reduceLE, Int.reduceGT, Int.reduceGE, Int.reduceAdd, Int.reduceSub, Int.reduceMul, Int.reduceNeg, Int.reduceToNat , f10, f11, ty3]
  rcases hb : decide ((i : Int) < l.length) with _ | _
  · have hb' := of_decide_eq_false hb
    have : l.drop i = [] := List.drop_eq_nil_of_le (by omega)
    rw [this, nodesFrom, List.append_nil] at fu
    simp (config := {maxSteps := 20000000, dsimp := false}) (disch := first | omega | (simp only [low_push, low_put, next_push, next_put, next_mk, len_next, List.length_cons, List.length_nil] <;> omega) | fail) only [↓rpre, rpost1, rpost2, rpost3, rpost4, rpost5, envOf, ↓reduceIte, Nat.reduceEqDiff, List.getElem?_toArray, List.getElem?_cons_zero, List.getElem?_cons_succ, reduceCtorEq, Nat.reduceAdd, Nat.reduceSub, Nat.reduceMul, Nat.reduceLeDiff, Nat.reduceLT, Nat.reduceDiv, Nat.reduceMod, Int.reduceEq, Int.reduceNe, Int.reduceLT, Int.reduceLE, Int.reduceGT, Int.reduceGE, Int.reduceAdd, Int.reduceSub, Int.reduceMul, Int.reduceNeg, Int.reduceToNat , if_true]
    refine LoopG_exit ⟨rfl, w, f3, hl, ?_, hS⟩
    rw [← fu]; exact hO
  · have hb' := of_decide_eq_true hb
    obtain ⟨ev, ha, hd⟩ := drop_cons (l := l) (i := i) (by omega)
    rw [hd, nodesFrom] at fu
    obtain ⟨b, o, c, cs, own, aa, ac, hv', hblo, hg, hle, hr5, hav, _⟩ := ev_row hv ha
    have hg2 : H2.get b = some (.cells cs own 5) := by rw [hS.get b (by omega)]; exact hg
    have hbl := get_lt hg2
    have hSn := hS.next
    have hrow := row_agg hle hr5
    have f9' := f9
    rw [hv'] at f9'
    have hS3 : ∀ B B', Stay H.next H ((H2.push B).put H2.next B') := fun B B' => hS.trans ((Stay.push hSn).trans (Stay.put hSn))
    have hl3 : ∀ B B', H.next ≤ ((H2.push B).put H2.next B').low := fun B B' => by rw [low_put, low_push]; omega
    have hO3 : ∀ B B', OwnSl ((H2.push B).put H2.next B') H.next 1 w ns.length (ns.map intV) := fun B B' => (hO.push B).put B' (by
      intro q hq
      rcases hO with ⟨h0, _⟩ | ⟨q2, h1, h2, _⟩
      · rw [hq] at h0; cases h0
      · rw [hq] at h1
        have : q = q2 := by simpa using h1
        have := get_lt h2
        omega)
    simp (config := {maxSteps := 20000000, dsimp := false}) (disch := first | omega | (simp only [low_push, low_put, next_push, next_put, next_mk, len_next, List.length_cons, List.length_nil] <;> omega) | fail) only [↓rpre, rpost1, rpost2, rpost3, rpost4, rpost5, envOf, ↓reduceIte, Nat.reduceEqDiff, List.getElem?_toArray, List.getElem?_cons_zero, List.getElem?_cons_succ, reduceCtorEq, Nat.reduceAdd, Nat.reduceSub, Nat.reduceMul, Nat.reduceLeDiff, Nat.reduceLT, Nat.reduceDiv, Nat.reduceMod, Int.reduceEq, Int.reduceNe, Int.reduceLT, Int.reduceLE, Int.reduceGT, Int.reduceGE, Int.reduceAdd, Int.reduceSub, Int.reduceMul, Int.reduceNeg, Int.reduceToNat , f9', f10, f11, f3, ty3, ty22, ty33, hg2, hrow]
    by_cases k3 : ev.kind = 3
    · have k3d : decide (ev.kind = 3) = true := decide_eq_true k3
      rw [if_pos k3] at fu
      simp (config := {maxSteps := 20000000, dsimp := false}) (disch := first | omega | (simp only [low_push, low_put, next_push, next_put, next_mk, len_next, List.length_cons, List.length_nil] <;> omega) | fail) only [↓rpre, rpost1, rpost2, rpost3, rpost4, rpost5, envOf, ↓reduceIte, Nat.reduceEqDiff, List.getElem?_toArray, List.getElem?_cons_zero, List.getElem?_cons_succ, reduceCtorEq, Nat.reduceAdd, Nat.reduceSub, Nat.reduceMul, Nat.reduceLeDiff, Nat.reduceLT, Nat.reduceDiv, Nat.reduceMod, Int.reduceEq, Int.reduceNe, Int.reduceLT, Int.reduceLE, Int.reduceGT, Int.reduceGE, Int.reduceAdd, Int.reduceSub, Int.reduceMul, Int.reduceNeg, Int.reduceToNat , f9', f10, f11, f3, ty3, ty22, ty33, k3d, wrap_small]
      exact LoopG_normal (k - 1) (by omega) ⟨i + 1, w, ns, by omega, by omega, by omega, f9, f10, rfl, f3, hO3 _ _, hS3 _ _, hl3 _ _, fu⟩
    · have k3d : decide (ev.kind = 3) = false := decide_eq_false k3
      rw [if_neg k3] at fu
      have key : ∀ B B', ∃ v' H', appendA Try.prog (((H2.push B).put H2.next B').push (.cells [.int .i64 i] true 1)) [26, 26] w (.slice (some ⟨H2.next + 1, 0, none⟩) 1 1) = some (v', some H') ∧ OwnSl H' H.next 1 v' (ns.length + 1) (ns.map intV ++ [.int .i64 i]) ∧ Stay H.next (((H2.push B).put H2.next B').push (.cells [.int .i64 i] true 1)) H' := fun B B' =>
        append_own (P := Try.prog) (t := 26) ty26.2.2.2.2.2.2 ty3.1 ty3.2.1 ty3.2.2.1 (by omega) (by omega) ((hO3 B B').push _) (c := H2.next + 1) (m := 1) (k := 1) (el := [.int .i64 i]) (get_push_eq (by rw [next_put, next_push]; omega)) (by omega) (by simp) (by omega) (by rw [next_push, next_put, next_push]; omega)
      obtain ⟨v', H', ha', hO', hS'⟩ := key (.cells [.int .i64 0, .string ByteArray.empty, .string ByteArray.empty, .slice none 0 0, .string ByteArray.empty] true 1) (.cells [.int .i64 ev.kind, .string ev.space, .string ev.loc, .slice aa ev.attrs.length ac, .string ev.text] true 1)
      simp (config := {maxSteps := 20000000, dsimp := false}) (disch := first | omega | (simp only [low_push, low_put, next_push, next_put, next_mk, len_next, List.length_cons, List.length_nil] <;> omega) | fail) only [↓rpre, rpost1, rpost2, rpost3, rpost4, rpost5, envOf, ↓reduceIte, Nat.reduceEqDiff, List.getElem?_toArray, List.getElem?_cons_zero, List.getElem?_cons_succ, reduceCtorEq, Nat.reduceAdd, Nat.reduceSub, Nat.reduceMul, Nat.reduceLeDiff, Nat.reduceLT, Nat.reduceDiv, Nat.reduceMod, Int.reduceEq, Int.reduceNe, Int.reduceLT, Int.reduceLE, Int.reduceGT, Int.reduceGE, Int.reduceAdd, Int.reduceSub, Int.reduceMul, Int.reduceNeg, Int.reduceToNat , f9', f10, f11, f3, ty3, ty22, ty33, ty26, k3d, wrap_small, ha']
      have hl4 : H.next ≤ H'.low := hS'.low (by rw [low_push]; exact hl3 _ _)
      refine LoopG_normal (k - 1) (by omega) ⟨i + 1, v', ns ++ [i], by omega, by omega, by simp; omega, f9, f10, rfl, rfl, by simpa [intV] using hO', ((hS3 _ _).trans (Stay.push (by rw [next_put, next_push]; omega))).trans hS', hl4, by rw [← fu]; simp⟩
theorem word_nodes (H : Heap) (lo : Nat) (v : Value) (l : List EvD) (hlo : lo ≤ H.next) (hv : EvsR H lo v l) (hn : l.length ≤ 2000000) : Ret (CL Try.prog lib0 13 [v] H) H fun w H1 => OwnSl H1 H.next 1 w (wNodes l).length ((wNodes l).map intV) ∧ Stay H.next H H1 := by
  obtain ⟨a, c, hvs⟩ := hv.slice
  have hv2 : EvsR H lo (.slice a l.length c) l := by rw [← hvs]; exact hv
  have hbe := word_begins ⟨H.bs, H.next⟩ lo _ l hlo (hv2.mono (fun _ _ => rfl) (Nat.le_refl _)) hn
  rw [CL_light fn13 rfl _ (by simp), hvs, wNodes]
  simp (config := {maxSteps := 20000000, dsimp := false}) (disch := first | omega | (simp only [low_push, low_put, next_push, next_put, next_mk, len_next, List.length_cons, List.length_nil] <;> omega) | fail) only [↓rpre, rpost1, rpost2, rpost3, rpost4, rpost5, envOf, ↓reduceIte, Nat.reduceEqDiff, List.getElem?_toArray, List.getElem?_cons_zero, List.getElem?_cons_succ, reduceCtorEq, Nat.reduceAdd, Nat.reduceSub, Nat.reduceMul, Nat.reduceLeDiff, Nat.reduceLT, Nat.reduceDiv, Nat.reduceMod, Int.reduceEq, Int.reduceNe, Int.reduceLT, Int.reduceLE, Int.reduceGT, Int.reduceGE, Int.reduceAdd, Int.reduceSub, Int.reduceMul, Int.reduceNeg, Int.reduceToNat , ty22, hbe]
  rcases h1 : wBegins l with _ | _
  · simp (config := {maxSteps := 20000000, dsimp := false}) (disch := first | omega | (simp only [low_push, low_put, next_push, next_put, next_mk, len_next, List.length_cons, List.length_nil] <;> omega) | fail) only [↓rpre, rpost1, rpost2, rpost3, rpost4, rpost5, envOf, ↓reduceIte, Nat.reduceEqDiff, List.getElem?_toArray, List.getElem?_cons_zero, List.getElem?_cons_succ, reduceCtorEq, Nat.reduceAdd, Nat.reduceSub, Nat.reduceMul, Nat.reduceLeDiff, Nat.reduceLT, Nat.reduceDiv, Nat.reduceMod, Int.reduceEq, Int.reduceNe, Int.reduceLT, Int.reduceLE, Int.reduceGT, Int.reduceGE, Int.reduceAdd, Int.reduceSub, Int.reduceMul, Int.reduceNeg, Int.reduceToNat , h1]
    exact ⟨_, none, H, rfl, rfl, .inl ⟨rfl, rfl, rfl⟩, Stay.refl _ _⟩
  · simp (config := {maxSteps := 20000000, dsimp := false}) (disch := first | omega | (simp only [low_push, low_put, next_push, next_put, next_mk, len_next, List.length_cons, List.length_nil] <;> omega) | fail) only [↓rpre, rpost1, rpost2, rpost3, rpost4, rpost5, envOf, ↓reduceIte, Nat.reduceEqDiff, List.getElem?_toArray, List.getElem?_cons_zero, List.getElem?_cons_succ, reduceCtorEq, Nat.reduceAdd, Nat.reduceSub, Nat.reduceMul, Nat.reduceLeDiff, Nat.reduceLT, Nat.reduceDiv, Nat.reduceMod, Int.reduceEq, Int.reduceNe, Int.reduceLT, Int.reduceLE, Int.reduceGT, Int.reduceGE, Int.reduceAdd, Int.reduceSub, Int.reduceMul, Int.reduceNeg, Int.reduceToNat , h1, ty22]
    refine after_prop (F := fun z => Ret (bodyRet _ _ _ (thenDo (inBlock 0 z) _)) _ _) (nodes_loop H lo _ l hlo hv2 hn (nodesFrom 0 l) l.length _ _ ⟨0, _, [], rfl, by omega, by simp, rfl, rfl, rfl, rfl, .inl ⟨rfl, rfl, rfl⟩, Stay.start H, Nat.le_refl _, rfl⟩) ?_
    rintro o e' H' ⟨ho, w, h3, hl, hO, hS⟩
    simp (config := {maxSteps := 20000000, dsimp := false}) (disch := first | omega | (simp only [low_push, low_put, next_push, next_put, next_mk, len_next, List.length_cons, List.length_nil] <;> omega) | fail) only [↓rpre, rpost1, rpost2, rpost3, rpost4, rpost5, envOf, ↓reduceIte, Nat.reduceEqDiff, List.getElem?_toArray, List.getElem?_cons_zero, List.getElem?_cons_succ, reduceCtorEq, Nat.reduceAdd, Nat.reduceSub, Nat.reduceMul, Nat.reduceLeDiff, Nat.reduceLT, Nat.reduceDiv, Nat.reduceMod, Int.reduceEq, Int.reduceNe, Int.reduceLT, Int.reduceLE, Int.reduceGT, Int.reduceGE, Int.reduceAdd, Int.reduceSub, Int.reduceMul, Int.reduceNeg, Int.reduceToNat , ho, h3]
    refine Ret_finish (fun hna _ => ⟨?_, Stay.refl _ _⟩) ⟨hO.low _, hS.ret hl⟩
    rcases hO with ⟨q1, q2, q3⟩ | ⟨b, q1, _⟩
    · exact .inl ⟨q1, q2, q3⟩
    · rw [q1] at hna; cases hna
end Go.Proofs.Ytcpolfjnbbodgaa.Ve
