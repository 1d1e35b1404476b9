/- The run of the law WordPrefixes: it answers true. Conditions: none here. -/
import Derived.Test.YtcpolfjnbbodgaaAwake
namespace Go.Proofs.Ytcpolfjnbbodgaa.Ve
open Go Go.RowKit
set_option linter.unusedVariables false
set_option linter.unusedSimpArgs false
set_option maxRecDepth 100000
set_option maxHeartbeats 0

/-! the plain law -/
def lastK : Option Int → List EvD → Option Int
  | p, [] => p
  | _, e :: l => lastK (some e.kind) l
theorem bGo_append : ∀ (l1 l2 : List EvD) (p : Option Int) (d : Int), bGo p d (l1 ++ l2) = (bGo p d l1 && bGo (lastK p l1) (dep d l1) l2)
  | [], l2, p, d => by simp [bGo, lastK, dep]
  | e :: l1, l2, p, d => by
    rw [List.cons_append, bGo, bGo]
    split
    · rfl
    · split
      · rfl
      · rw [bGo_append l1 l2]; rfl
theorem dep_append (d : Int) (l1 l2 : List EvD) : dep d (l1 ++ l2) = dep (dep d l1) l2 := by simp [dep]
theorem begins_take {l : List EvD} (h : wBegins l = true) (k : Nat) : wBegins (l.take k) = true := by
  have e := bGo_append (l.take k) (l.drop k) none 0
  rw [List.take_append_drop] at e
  rw [wBegins, e, Bool.and_eq_true] at h
  exact h.1
theorem close_all : ∀ (n : Nat) (k : Int), n ≤ 64 → bGo (some k) n (List.replicate n closeEv) = true ∧ dep n (List.replicate n closeEv) = 0
  | 0, k, _ => ⟨rfl, rfl⟩
  | n + 1, k, h => by
    have hs : dStep ((n + 1 : Nat) : Int) closeEv.kind = n := by
      show dStep ((n + 1 : Nat) : Int) 3 = n
      rw [dStep, if_neg (by omega), if_pos rfl]; omega
    have ih := close_all n 3 (by omega)
    rw [List.replicate_succ]
    constructor
    · rw [bGo, right_close, hs, if_neg, if_neg (by omega)]
      · exact ih.1
      · have h3 : closeEv.kind = 3 := rfl
        simp [h3]; omega
    · simp only [dep, List.foldl_cons, hs]
      exact ih.2
theorem lastK_some : ∀ (l : List EvD) (p : Option Int), l ≠ [] ∨ p ≠ none → ∃ k, lastK p l = some k
  | [], none, h => by simp at h
  | [], some k, _ => ⟨k, rfl⟩
  | e :: l, p, _ => lastK_some l (some e.kind) (.inr (by simp))
theorem closed_whole {u : List EvD} (h : wBegins u = true) : wBegins (u ++ wClosers u) = true ∧ dep 0 (u ++ wClosers u) = 0 ∧ 0 < (u ++ wClosers u).length := by
  by_cases hu : u = []
  · subst hu
    have h1 : openA.kind = 1 := rfl
    have h3 : closeEv.kind = 3 := rfl
    have : wClosers [] = [openA, closeEv] := rfl
    rw [List.nil_append, this]
    refine ⟨?_, by simp [dep, h1, h3, dStep], by simp⟩
    simp [wBegins, bGo, right_a, right_close, h1, h3, dStep]
  · obtain ⟨h0, h64⟩ := wBegins_dep h
    obtain ⟨k, hk⟩ := lastK_some u none (.inl hu)
    have hc := close_all (dep 0 u).toNat k (by omega)
    rw [Int.toNat_of_nonneg h0] at hc
    rw [wClosers, if_pos h, if_neg hu]
    refine ⟨?_, ?_, ?_⟩
    · rw [wBegins, bGo_append, hk]
      rw [wBegins] at h
      rw [h, hc.1]; rfl
    · rw [dep_append, hc.2]
    · have := List.length_pos_iff.2 hu
      rw [List.length_append]; omega
theorem nodesFrom_append : ∀ (l1 l2 : List EvD) (i : Nat), nodesFrom i (l1 ++ l2) = nodesFrom i l1 ++ nodesFrom (i + l1.length) l2
  | [], l2, i => by simp [nodesFrom]
  | e :: l1, l2, i => by
    have ih := nodesFrom_append l1 l2 (i + 1)
    have e2 : i + 1 + l1.length = i + (l1.length + 1) := by omega
    rw [e2] at ih
    rw [List.cons_append, nodesFrom, nodesFrom, ih]
    split <;> simp
theorem nodes_take {l : List EvD} (h : wBegins l = true) (k : Nat) : (wNodes (l.take k)).length ≤ (wNodes l).length := by
  have e := nodesFrom_append (l.take k) (l.drop k) 0
  rw [List.take_append_drop] at e
  rw [wNodes, wNodes, if_pos (begins_take h k), if_pos h, e, List.length_append]
  omega

/-! the run -/
theorem slice_take {P : Program} {H : Heap} {lo sz : Nat} {α : Type} {R : List Value → α → Prop} {v : Value} {l : List α} {t e : TypeId} (hv : SlI H lo sz R v l) (hc : ∀ a n c, v = .slice a n c → n = 0 ∨ c = n + 1) (ht : P.underlying t = some (.slice e)) (hs : tSize P e = some sz) (h0 : 0 < sz) (k : Nat) (hk : k ≤ l.length) :
    ∃ u, sliceA P H t v none (some (.int .i64 k)) none = some u ∧ SlI H lo sz R u (l.take k) := by
  rcases hv with ⟨rfl, rfl⟩ | ⟨b, o, c, rfl, h⟩
  · have : k = 0 := by simpa using hk
    subst this
    refine ⟨.slice none 0 0, ?_, .inl ⟨rfl, by simp⟩⟩
    simp [sliceA, ht, hs, bnd]; omega
  · by_cases hl : l = []
    · subst hl
      have : k = 0 := by simpa using hk
      subst this
      refine ⟨.slice (some ⟨b, o, none⟩) 0 c, ?_, .inr ⟨b, o, c, by simp, .inl (by simp)⟩⟩
      simp [sliceA, ht, hs, bnd]; omega
    · rcases h with h | ⟨cs, own, h1, h2, h3, h4⟩
      · exact absurd h hl
      have hpos := List.length_pos_iff.2 hl
      have hcn : c = l.length + 1 := by
        rcases hc _ _ _ rfl with h | h
        · omega
        · exact h
      subst hcn
      refine ⟨_, sliceA_to ht hs h0 hpos hk h2, .inr ⟨b, o, k + 1, by rw [List.length_take, Nat.min_eq_left hk], .inr ⟨cs, own, h1, h2, ?_, fun i a hi => ?_⟩⟩⟩
      · have : (l.take k).length * sz ≤ l.length * sz := Nat.mul_le_mul_right _ (by rw [List.length_take]; omega)
        omega
      · have hik : i < k := by
          have := (List.getElem?_eq_some_iff.1 hi).1
          rw [List.length_take] at this; omega
        rw [List.getElem?_take, if_pos hik] at hi
        exact h4 i a hi
theorem law_prefixes (H : Heap) (v : Value) (l : List EvD) (cut : Nat) (hcut : cut ≤ 255) (hv : EvsR H H.next v l) (hc : ∀ a n c, v = .slice a n c → n = 0 ∨ c = n + 1) (hn : l.length ≤ 1048576) (hlow : H.next ≤ H.low) :
    CL Try.prog lib0 4 [v, .int .u8 cut] H = some (.bool true, none) := by
  obtain ⟨a, c, hvs⟩ := hv.slice
  have hv0 : EvsR ⟨H.bs, H.next⟩ H.next v l := hv.mono (fun _ _ => rfl) (Nat.le_refl _)
  obtain ⟨t, hfew⟩ := ref_few ⟨H.bs, H.next⟩ H.next v l (Nat.le_refl _) hv0 (by omega)
  have hbe := word_begins ⟨H.bs, H.next⟩ H.next v l (Nat.le_refl _) hv0 (by omega)
  rw [hvs] at hfew hbe
  rw [CL_light fn4 rfl _ (by simp), hvs]
  cases t with
  | false => simp (config := {maxSteps := 20000000, dsimp := false}) (disch := first | omega | (simp only [low_push, low_put, next_push, next_put, next_mk, len_next, List.length_cons, List.length_nil] <;> omega) | fail) only [↓rpre, rpost1, rpost2, rpost3, rpost4, rpost5, envOf, ↓reduceIte, Nat.reduceEqDiff, List.getElem?_toArray, List.getElem?_cons_zero, List.getElem?_cons_succ, reduceCtorEq, Nat.reduceAdd, Nat.reduceSub, Nat.reduceMul, Nat.reduceLeDiff, Nat.reduceLT, Nat.reduceDiv, Nat.reduceMod, Int.reduceEq, Int.reduceNe, Int.reduceLT, Int.reduceLE, Int.reduceGT, Int.reduceGE, Int.reduceAdd, Int.reduceSub, Int.reduceMul, Int.reduceNeg, Int.reduceToNat , awake, hfew]
  | true =>
    rcases hb : wBegins l with _ | _
    · rw [hb] at hbe
      simp (config := {maxSteps := 20000000, dsimp := false}) (disch := first | omega | (simp only [low_push, low_put, next_push, next_put, next_mk, len_next, List.length_cons, List.length_nil] <;> omega) | fail) only [↓rpre, rpost1, rpost2, rpost3, rpost4, rpost5, envOf, ↓reduceIte, Nat.reduceEqDiff, List.getElem?_toArray, List.getElem?_cons_zero, List.getElem?_cons_succ, reduceCtorEq, Nat.reduceAdd, Nat.reduceSub, Nat.reduceMul, Nat.reduceLeDiff, Nat.reduceLT, Nat.reduceDiv, Nat.reduceMod, Int.reduceEq, Int.reduceNe, Int.reduceLT, Int.reduceLE, Int.reduceGT, Int.reduceGE, Int.reduceAdd, Int.reduceSub, Int.reduceMul, Int.reduceNeg, Int.reduceToNat , awake, hfew, hbe]
    rw [hb] at hbe
    have hk : cut % (l.length + 1) ≤ l.length := by have := Nat.mod_lt cut (show l.length + 1 > 0 by omega); omega
    obtain ⟨k, hkd⟩ : ∃ k, k = cut % (l.length + 1) := ⟨_, rfl⟩
    rw [← hkd] at hk
    have hrem : binA Try.prog .rem 3 (.int .i64 cut) (.int .i64 ((l.length : Int) + 1)) = some (.int .i64 k) := by
      simp only [binA, if_true]
      rw [if_neg (by omega), hkd]
      have : ((l.length : Int) + 1) = ((l.length + 1 : Nat) : Int) := by omega
      rw [this, ← Int.ofNat_tmod]
    obtain ⟨u, hu, hur⟩ := slice_take (P := Try.prog) (t := 22) hv0 hc ty22.2.2.2.2.2.2 ty33.1 (by omega) k hk
    rw [hvs] at hu
    have hbu := begins_take hb k
    have hul : (l.take k).length = k := by rw [List.length_take]; omega
    obtain ⟨w, h1, H1, hcl, g1, hO1, hS1⟩ := word_closers ⟨H.bs, H.next⟩ H.next u (l.take k) (Nat.le_refl _) hur (by omega)
    have hn1 : H.next ≤ H1.next := hS1.next
    have hl1 : H.next ≤ H1.low := hS1.low (Nat.le_refl _)
    have hSp : Stay H.next ⟨H.bs, H.next⟩ (H1.push (.cells [] true 5)) := hS1.trans (Stay.push hn1)
    have hub : SlI (H1.push (.cells [] true 5)) H.next 5 (EvR (H1.push (.cells [] true 5)) H.next) u (l.take k) := EvsR.mono hur (fun j hj => hSp.get j hj) (Nat.le_refl _)
    obtain ⟨el1, hel1, hrow1⟩ := hub.cells
    obtain ⟨au, cu, hus⟩ := hur.slice
    rw [hus] at hel1
    obtain ⟨v2, h2, H2, hc2, g2, hO2, hS2⟩ := append_ownC (P := Try.prog) (t := 22) ty22.2.2.2.2.2.2 ty33.1 ty33.2.1 ty33.2.2.1 (by omega) (by omega) (H := H1.push (.cells [] true 5)) (lo := H1.next) (v := .slice (some ⟨H1.next, 0, none⟩) 0 0) (n := 0) (cs := []) (.inr ⟨H1.next, 0, rfl, get_push_next, Nat.le_refl _, rfl⟩) hel1 hrow1.1 (by rw [hul]; omega) (by rw [next_push]; omega)
    have hn2 : H1.next ≤ H2.next := by have := hS2.next; rw [next_push] at this; omega
    have hO1' : OwnC H2 H.next 5 w (wClosers (l.take k)).length ((wClosers (l.take k)).flatMap evRow) := hO1.mono (Nat.le_refl _) (fun j hj => by rw [hS2.get j hj, get_push_lt hj])
    obtain ⟨aw, cw, hws, hel2⟩ := hO1'.cells (by omega)
    have hrow2 : RowsR 5 (fun cs e => cs = evRow e) ((wClosers (l.take k)).flatMap evRow) (wClosers (l.take k)) := rows_enc (enc := evRow) (sz := 5) (fun _ => rfl) _
    have hcl64 : (wClosers (l.take k)).length ≤ 64 := by
      obtain ⟨q0, q64⟩ := wBegins_dep hbu
      rw [wClosers, if_pos hbu]
      split
      · simp
      · rw [List.length_replicate]; omega
    have hcbare : ∀ e ∈ wClosers (l.take k), Bare e := by
      intro e he
      rw [wClosers, if_pos hbu] at he
      split at he
      · simp at he
        rcases he with rfl | rfl <;> exact ⟨rfl, by decide, by decide, by decide⟩
      · rw [(List.mem_replicate.1 he).2]; exact ⟨rfl, by decide, by decide, by decide⟩
    obtain ⟨v3, h3, H3, hc3, g3, hO3, hS3⟩ := append_ownC (P := Try.prog) (t := 22) ty22.2.2.2.2.2.2 ty33.1 ty33.2.1 ty33.2.2.1 (by omega) (by omega) hO2 hel2 hrow2.1 (by rw [hul]; omega) hn2
    have hn3 : H2.next ≤ H3.next := hS3.next
    have hS03 : Stay H.next ⟨H.bs, H.next⟩ H3 := (hSp.trans (hS2.weaken hn1)).trans (hS3.weaken hn1)
    have hall : EvsR H3 H3.next v3 (l.take k ++ wClosers (l.take k)) := by
      refine OwnC.sl (lo := H1.next) (cs := [] ++ el1 ++ (wClosers (l.take k)).flatMap evRow) ?_ ?_
      · rw [List.length_append, ← Nat.zero_add (l.take k).length]; exact hO3
      · rw [List.nil_append]
        refine RowsR.append ⟨hrow1.1, fun i a hi => EvR.mono (fun j hj => ?_) (by omega) (hrow1.2 i a hi)⟩ (bare_rows hcbare H3 _)
        rw [hS3.get j (by omega), hS2.get j (by omega)]
    obtain ⟨p1, p2, p3⟩ := closed_whole hbu
    have hu3 : EvsR H3 H.next u (l.take k) := EvsR.mono hur (fun j hj => hS03.get j hj) (Nat.le_refl _)
    have e1 := word_begins H3 H.next u _ (by omega) hu3 (by omega)
    have hal : (l.take k ++ wClosers (l.take k)).length ≤ 2000000 := by rw [List.length_append]; omega
    have e2 := word_whole H3 H3.next v3 _ (Nat.le_refl _) hall hal
    have e3 := word_depth H3 H3.next v3 _ (Nat.le_refl _) hall hal
    have q3 : wDepth (l.take k ++ wClosers (l.take k)) = 0 := by rw [wDepth, if_pos p1, p2]
    have q2 : wWhole (l.take k ++ wClosers (l.take k)) = true := by rw [wWhole, p1, q3]; simp; simp at p3; omega
    rw [hbu] at e1; rw [q2] at e2; rw [q3] at e3
    obtain ⟨w4, h4, H4, hc4, g4, hO4, hS4⟩ := word_nodes H3 H.next u (l.take k) (by omega) hu3 (by omega)
    have hS04 : Stay H.next ⟨H.bs, H.next⟩ H4 := hS03.trans (hS4.weaken (by omega))
    have hn4 : H3.next ≤ H4.next := hS4.next
    have hv4 : EvsR H4 H.next v l := EvsR.mono hv0 (fun j hj => hS04.get j hj) (Nat.le_refl _)
    rw [hvs] at hv4
    obtain ⟨w5, h5, H5, hc5, g5, hO5, hS5⟩ := word_nodes H4 H.next _ l (by omega) hv4 (by omega)
    have hS05 : Stay H.next ⟨H.bs, H.next⟩ H5 := hS04.trans (hS5.weaken (by omega))
    have hl5 : H.next ≤ H5.low := hS05.low (Nat.le_refl _)
    obtain ⟨a4, k4, rfl⟩ := hO4.ownC.slice
    obtain ⟨a5, k5, rfl⟩ := hO5.ownC.slice
    have hle : decide ((((wNodes (l.take k)).length : Nat) : Int) ≤ ((wNodes l).length : Nat)) = true := decide_eq_true (by have := nodes_take hb k; omega)
    subst hws
    rw [hus] at hu hcl e1 hc4
    simp (config := {maxSteps := 20000000, dsimp := false}) (disch := first | omega | (simp only [low_push, low_put, next_push, next_put, next_mk, len_next, List.length_cons, List.length_nil] <;> omega) | fail) only [↓rpre, rpost1, rpost2, rpost3, rpost4, rpost5, envOf, ↓reduceIte, Nat.reduceEqDiff, List.getElem?_toArray, List.getElem?_cons_zero, List.getElem?_cons_succ, reduceCtorEq, Nat.reduceAdd, Nat.reduceSub, Nat.reduceMul, Nat.reduceLeDiff, Nat.reduceLT, Nat.reduceDiv, Nat.reduceMod, Int.reduceEq, Int.reduceNe, Int.reduceLT, Int.reduceLE, Int.reduceGT, Int.reduceGE, Int.reduceAdd, Int.reduceSub, Int.reduceMul, Int.reduceNeg, Int.reduceToNat , awake, hfew, hbe, ty5, ty3, ty22, ty33, ty26, wrap_small, hrem, hu, hcl, g1, hc2, g2, hc3, g3, e1, e2, e3, hc4, g4, hc5, g5, hle]
end Go.Proofs.Ytcpolfjnbbodgaa.Ve
