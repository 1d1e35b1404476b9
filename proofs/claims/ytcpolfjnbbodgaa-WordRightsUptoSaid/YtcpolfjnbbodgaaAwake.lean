/- The run of awake: it answers true. Conditions: none here. -/
import Derived.Test.YtcpolfjnbbodgaaFew
namespace Go.Proofs.Ytcpolfjnbbodgaa.Ve
open Go Go.RowKit
set_option linter.unusedVariables false
set_option linter.unusedSimpArgs false
set_option maxRecDepth 100000
set_option maxHeartbeats 0

/-! events without attributes -/
def Bare (e : EvD) : Prop := e.attrs = [] ∧ e.space.size ≤ 1048576 ∧ e.loc.size ≤ 1048576 ∧ e.text.size ≤ 1048576
theorem Bare.R {e : EvD} (h : Bare e) (H : Heap) (lo : Nat) : EvR H lo (evRow e) e :=
  ⟨_, rfl, .inl ⟨rfl, h.1⟩, h.2.1, h.2.2.1, h.2.2.2, by rw [h.1]; simp⟩
theorem bare_rows {l : List EvD} (hp : ∀ e ∈ l, Bare e) (H : Heap) (lo : Nat) : RowsR 5 (EvR H lo) (l.flatMap evRow) l := by
  have h := rows_enc (enc := evRow) (sz := 5) (fun _ => rfl) l
  refine ⟨h.1, fun i a hi => ?_⟩
  rw [h.2 i a hi]
  exact (hp a (List.mem_of_getElem? hi)).R H lo
theorem bare_evs {H : Heap} {lo : Nat} {v : Value} {l : List EvD} (hp : ∀ e ∈ l, Bare e) (h : OwnC H lo 5 v l.length (l.flatMap evRow)) : EvsR H H.next v l := h.sl (bare_rows hp H _)
theorem SlI.drop {H : Heap} {lo sz : Nat} {α : Type} {R : List Value → α → Prop} {b o c : Nat} {l : List α} (h : SlI H lo sz R (.slice (some ⟨b, o, none⟩) l.length c) l) (k c' : Nat) (hk : k ≤ l.length) :
    SlI H lo sz R (.slice (some ⟨b, o + k * sz, none⟩) (l.length - k) c') (l.drop k) := by
  rcases h with ⟨h, _⟩ | ⟨b', o', c2, hv, h⟩
  · cases h
  · obtain ⟨⟨rfl, rfl⟩, rfl⟩ : (b = b' ∧ o = o') ∧ c = c2 := by simpa using hv
    refine .inr ⟨b, o + k * sz, c', by rw [List.length_drop], ?_⟩
    rcases h with h | ⟨cs, own, h1, h2, h3, h4⟩
    · subst h; exact .inl (by simp)
    · refine .inr ⟨cs, own, h1, h2, ?_, fun i a hi => ?_⟩
      · rw [List.length_drop, Nat.add_assoc, ← Nat.add_mul, show k + (l.length - k) = l.length by omega]; exact h3
      · rw [List.getElem?_drop] at hi
        have := h4 _ a hi
        rw [Nat.add_mul, ← Nat.add_assoc] at this
        exact this
theorem sliceA_exact {P : Program} {H : Heap} {t e : TypeId} {size b o n i : Nat} {cs : List Value} {own : Bool} (ht : P.underlying t = some (.slice e)) (hs : tSize P e = some size) (h0 : 0 < size) (hn : 0 < n) (hi : i ≤ n) (hg : H.get b = some (.cells cs own size)) :
    sliceA P H t (.slice (some ⟨b, o, none⟩) n n) (some (.int .i64 i)) none none = some (.slice (some ⟨b, o + i * size, none⟩) (n - i) (n - i)) := by
  simp only [sliceA, ht, hs, bnd, szAt, hg, Int.toNat_natCast, Int.natCast_nonneg, if_true, ne_eq, not_true_eq_false, if_false]
  rw [if_neg (by omega), if_pos (by omega), if_neg (by omega)]

/-! what the literal's events are -/
theorem uRune_a : uRune ⟨#[97]⟩ 0 = (97, 1, 0) := by decide
theorem uRune_x : uRune ⟨#[120]⟩ 0 = (120, 1, 0) := by decide
theorem uErr_end (s : ByteArray) (i : Nat) (h : s.size ≤ i) : uErr s i = 0 := by rw [uErr, dif_neg (by omega)]
theorem cAll_end (f : Int → Bool) (s : ByteArray) (i : Nat) (h : s.size ≤ i) : cAll f s i = true := by rw [cAll, dif_neg (by omega)]
theorem nPlain_end (s : ByteArray) (i : Nat) (h : s.size ≤ i) : nPlain s i = true := by rw [nPlain, dif_neg (by omega)]
theorem wText_empty : wText ByteArray.empty = true := by
  rw [wText, uErr_end ByteArray.empty 0 (by decide), cAll_end _ ByteArray.empty 0 (by decide)]; rfl
theorem wText_a : wText ⟨#[97]⟩ = true := by
  have h1 : uErr ⟨#[97]⟩ 0 = 0 := by
    rw [uErr, dif_pos (by decide), dif_pos (by rw [uRune_a]), uRune_a]
    exact uErr_end _ _ (by decide)
  have h2 : cAll cChar ⟨#[97]⟩ 0 = true := by
    rw [cAll, dif_pos (by decide), if_pos (by decide)]
    exact cAll_end _ _ _ (by decide)
  rw [wText, h1, h2]; rfl
theorem wText_x : wText ⟨#[120]⟩ = true := by
  have h1 : uErr ⟨#[120]⟩ 0 = 0 := by
    rw [uErr, dif_pos (by decide), dif_pos (by rw [uRune_x]), uRune_x]
    exact uErr_end _ _ (by decide)
  have h2 : cAll cChar ⟨#[120]⟩ 0 = true := by
    rw [cAll, dif_pos (by decide), if_pos (by decide)]
    exact cAll_end _ _ _ (by decide)
  rw [wText, h1, h2]; rfl
theorem wPlain_a : wPlain ⟨#[97]⟩ = true := by
  have h1 : nPlain ⟨#[97]⟩ 0 = true := by
    rw [nPlain, dif_pos (by decide), if_neg (by decide)]
    exact nPlain_end _ _ (by decide)
  rw [wPlain, h1]; decide
def textX : EvD := ⟨2, ByteArray.empty, ByteArray.empty, [], ⟨#[120]⟩⟩
theorem right_a : wRight openA = true := by
  have : wNamed ByteArray.empty ⟨#[97]⟩ = true := by rw [wNamed, wPlain_a, wText_a, wText_empty]; decide
  rw [wRight, if_pos (by rfl), openA, this]; decide
theorem right_x : wRight textX = true := by
  rw [wRight, if_neg (by decide), if_pos (by rfl), textX]
  simp only [wText_x]; decide
theorem right_close : wRight closeEv = true := by decide
theorem begins_l : wBegins [openA, textX] = true := by
  have h1 : openA.kind = 1 := rfl
  have h2 : textX.kind = 2 := rfl
  simp [wBegins, bGo, right_a, right_x, h1, h2, dStep]
theorem begins_1 : wBegins [textX] = false := by
  have h2 : textX.kind = 2 := rfl
  simp [wBegins, bGo, right_x, h2]
theorem begins_nil : wBegins [] = true := rfl
theorem depth_l : wDepth [openA, textX] = 1 := by rw [wDepth, begins_l]; decide
theorem nodes_l : (wNodes [openA, textX]).length = 2 := by rw [wNodes, begins_l]; decide
theorem closers_l : (wClosers [openA, textX]).length = 1 := by rw [wClosers, begins_l]; decide
theorem closers_nil : (wClosers []).length = 2 := rfl
theorem whole_l : wWhole [openA, textX] = false := by rw [wWhole, depth_l]; simp
theorem bare_l : ∀ e ∈ [openA, textX], Bare e := by
  intro e he
  simp at he
  rcases he with rfl | rfl <;> exact ⟨rfl, by decide, by decide, by decide⟩

theorem awake (H : Heap) : CL Try.prog lib0 7 [] H = some (.bool true, none) := by
  have hn : Heap.next ⟨H.bs, H.next⟩ = H.next := rfl
  obtain ⟨H0, hH0⟩ : ∃ H0, H0 = Heap.push ⟨H.bs, H.next⟩ (.cells ([openA, textX].flatMap evRow) true 5) := ⟨_, rfl⟩
  have hn0 : H0.next = H.next + 1 := by rw [hH0, next_push, hn]
  have hg0 : H0.get H.next = some (.cells ([openA, textX].flatMap evRow) true 5) := by rw [hH0]; exact get_push_next
  have hl0 : H0.low = H.next := by rw [hH0]; rfl
  have hv : EvsR H0 H0.next (.slice (some ⟨H.next, 0, none⟩) 2 2) [openA, textX] := bare_evs bare_l (.inr ⟨H.next, 2, rfl, hg0, Nat.le_refl _, rfl⟩)
  have hv1 : EvsR H0 H0.next (.slice (some ⟨H.next, 5, none⟩) 1 1) [textX] := by
    have := SlI.drop (l := [openA, textX]) (b := H.next) (o := 0) (c := 2) hv 1 1 (by decide)
    exact this
  have c1 := word_begins H0 H0.next _ _ (Nat.le_refl _) hv (by decide)
  have c2 := word_whole H0 H0.next _ _ (Nat.le_refl _) hv (by decide)
  have c3 := word_depth H0 H0.next _ _ (Nat.le_refl _) hv (by decide)
  obtain ⟨w4, h4, H1, c4, g4, hO4, hS4⟩ := word_nodes H0 H0.next _ _ (Nat.le_refl _) hv (by decide)
  have hn1 := hS4.next
  have mv : ∀ {H' : Heap}, Stay H0.next H0 H' → EvsR H' H0.next (.slice (some ⟨H.next, 0, none⟩) 2 2) [openA, textX] := fun hS => hv.mono (fun j hj => hS.get j hj) (Nat.le_refl _)
  obtain ⟨w5, h5, H2, c5, g5, hO5, hS5'⟩ := word_closers H1 H0.next _ _ hn1 (mv hS4) (by decide)
  have hS5 : Stay H0.next H0 H2 := hS4.trans (hS5'.weaken hn1)
  have hn2 := hS5.next
  have hnil : ∀ H' : Heap, EvsR H' 0 (.slice none 0 0) [] := fun H' => .inl ⟨rfl, rfl⟩
  have c6 := word_begins H2 0 _ _ (Nat.zero_le _) (hnil H2) (by decide)
  have c7 := word_begins H2 H0.next _ _ hn2 (hv1.mono (fun j hj => hS5.get j hj) (Nat.le_refl _)) (by decide)
  obtain ⟨w8, h8, H3, c8, g8, hO8, hS8'⟩ := word_closers H2 0 _ _ (Nat.zero_le _) (hnil H2) (by decide)
  have hS8 : Stay H0.next H0 H3 := hS5.trans (hS8'.weaken hn2)
  have hl3 : H.next ≤ H3.low := hS8.lowAll H.next (by omega) (by omega)
  obtain ⟨a4, k4, rfl⟩ := hO4.ownC.slice
  obtain ⟨a5, k5, rfl⟩ := hO5.slice
  obtain ⟨a8, k8, rfl⟩ := hO8.slice
  have hsl := sliceA_exact (P := Try.prog) (H := H2) (t := 22) (o := 0) (n := 2) (i := 1) (own := true) ty22.2.2.2.2.2.2 ty33.1 (by omega) (by omega) (by omega) (by rw [hS5.get H.next (by omega)]; exact hg0)
  rw [begins_l] at c1; rw [whole_l] at c2; rw [depth_l] at c3; rw [nodes_l] at c4; rw [closers_l] at c5; rw [begins_nil] at c6; rw [begins_1] at c7; rw [closers_nil] at c8
  rw [CL_light fn7 rfl _ (by simp)]
  have hfold : Heap.push ⟨H.bs, H.next⟩ (.cells [.int .i64 1, .string ByteArray.empty, .string ⟨#[97]⟩, .slice none 0 0, .string ByteArray.empty, .int .i64 2, .string ByteArray.empty, .string ByteArray.empty, .slice none 0 0, .string ⟨#[120]⟩] true 5) = H0 := hH0.symm
  have k2 : ((2 : Nat) : Int) = 2 := rfl
  have k1 : ((1 : Nat) : Int) = 1 := rfl
  have hsl' : sliceA Try.prog H2 22 (.slice (some ⟨H.next, 0, none⟩) 2 2) (some (.int .i64 1)) none none = some (.slice (some ⟨H.next, 5, none⟩) 1 1) := hsl
  simp (config := {maxSteps := 20000000, dsimp := false}) (disch := first | omega | (simp only [low_push, low_put, next_push, next_put, next_mk, len_next, List.length_cons, List.length_nil] <;> omega) | fail) only [↓rpre, rpost1, rpost2, rpost3, rpost4, rpost5, envOf, ↓reduceIte, Nat.reduceEqDiff, List.getElem?_toArray, List.getElem?_cons_zero, List.getElem?_cons_succ, reduceCtorEq, Nat.reduceAdd, Nat.reduceSub, Nat.reduceMul, Nat.reduceLeDiff, Nat.reduceLT, Nat.reduceDiv, Nat.reduceMod, Int.reduceEq, Int.reduceNe, Int.reduceLT, Int.reduceLE, Int.reduceGT, Int.reduceGE, Int.reduceAdd, Int.reduceSub, Int.reduceMul, Int.reduceNeg, Int.reduceToNat , ty22, ty3, ty33, ty30, ty9, ty26, hfold, c1, c2, c3, c4, g4, c5, g5, c6, c7, c8, g8, hsl', k1, k2]
end Go.Proofs.Ytcpolfjnbbodgaa.Ve
