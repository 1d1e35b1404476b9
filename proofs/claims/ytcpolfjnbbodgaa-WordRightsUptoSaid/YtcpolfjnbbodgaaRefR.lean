/- The runs of the reference's Rune and All: they decode by the one law. Conditions: none here. -/
import Derived.Test.YtcpolfjnbbodgaaRefCut
namespace Go.Proofs.Ytcpolfjnbbodgaa.Ve
open Go Go.RowKit
set_option linter.unusedVariables false
set_option linter.unusedSimpArgs false
set_option maxRecDepth 100000
set_option maxHeartbeats 0

def rCand (s : ByteArray) (i n : Nat) : Int := if n = 1 then strAt s i else rVal s i n
def rOkN (s : ByteArray) (i n : Nat) : Bool := decide ((putL (rCand s i n)).length = n) && rBeg s i (putL (rCand s i n))
theorem putL_1 {r : Int} (h : (putL r).length = 1) : 0 ≤ r ∧ r < 128 ∧ putL r = [r] := by
  unfold putL at h ⊢
  split at h
  · simp at h
  · rename_i c; rw [if_neg c]
    split at h
    · rename_i c1; rw [if_pos c1]; exact ⟨by omega, c1, rfl⟩
    · split at h
      · simp at h
      · split at h <;> simp at h
theorem putL_2 {r : Int} (h : (putL r).length = 2) : 128 ≤ r ∧ r < 2048 ∧ putL r = [192 + r / 64, 128 + r % 64] := by
  unfold putL at h ⊢
  split at h
  · simp at h
  · rename_i c; rw [if_neg c]
    split at h
    · simp at h
    · rename_i c1; rw [if_neg c1]
      split at h
      · rename_i c2; rw [if_pos c2]; exact ⟨by omega, c2, rfl⟩
      · split at h <;> simp at h
theorem putL_3 {r : Int} (h : (putL r).length = 3) : 2048 ≤ r ∧ r < 65536 ∧ ¬(55296 ≤ r ∧ r ≤ 57343) ∧ putL r = [224 + r / 4096, 128 + r / 64 % 64, 128 + r % 64] := by
  unfold putL at h ⊢
  split at h
  · simp at h
  · rename_i c; rw [if_neg c]
    split at h
    · simp at h
    · rename_i c1; rw [if_neg c1]
      split at h
      · simp at h
      · rename_i c2; rw [if_neg c2]
        split at h
        · rename_i c3; rw [if_pos c3]; exact ⟨by omega, c3, by omega, rfl⟩
        · simp at h
theorem putL_4 {r : Int} (h : (putL r).length = 4) : 65536 ≤ r ∧ r ≤ 1114111 ∧ putL r = [240 + r / 262144, 128 + r / 4096 % 64, 128 + r / 64 % 64, 128 + r % 64] := by
  unfold putL at h ⊢
  split at h
  · simp at h
  · rename_i c; rw [if_neg c]
    split at h
    · simp at h
    · rename_i c1; rw [if_neg c1]
      split at h
      · simp at h
      · rename_i c2; rw [if_neg c2]
        split at h
        · simp at h
        · rename_i c3; rw [if_neg c3]; exact ⟨by omega, by omega, rfl⟩
theorem rBeg_iff {s : ByteArray} {i : Nat} {l : List Int} : rBeg s i l = true ↔ l ≠ [] ∧ i + l.length ≤ s.size ∧ begGo s i l = true := by simp [rBeg, and_assoc]
theorem begGo_cons {s : ByteArray} {k : Nat} {b : Int} {r : List Int} : begGo s k (b :: r) = true ↔ strAt s k = b ∧ begGo s (k + 1) r = true := by
  rw [begGo]; split
  · rename_i h; simp [h]
  · rename_i h; simp [h]
theorem begGo_nil {s : ByteArray} {k : Nat} : begGo s k [] = true := rfl
/-- what the reference finds is the law's -/
theorem rOk_dec (s : ByteArray) (i n : Nat) (h1 : 1 ≤ n) (h4 : n ≤ 4) (h : rOkN s i n = true) : 0 ≤ rCand s i n ∧ i + n ≤ s.size ∧ dec s i = some ((rCand s i n).toNat, n) := by
  rw [rOkN, Bool.and_eq_true, decide_eq_true_eq] at h
  obtain ⟨hl, hb⟩ := h
  rw [rBeg_iff, hl] at hb
  obtain ⟨_, hs, hb⟩ := hb
  have q0 := bAt_lt s i
  have q1 := bAt_lt s (i + 1)
  have q2 := bAt_lt s (i + 2)
  have q3 := bAt_lt s (i + 3)
  have e0 := strAt_eq s i
  have e1 := strAt_eq s (i + 1)
  have e2 := strAt_eq s (i + 2)
  have e3 := strAt_eq s (i + 3)
  obtain rfl | rfl | rfl | rfl : n = 1 ∨ n = 2 ∨ n = 3 ∨ n = 4 := by omega
  · obtain ⟨k0, k1, k2⟩ := putL_1 hl
    have hv : rCand s i 1 = strAt s i := rfl
    rw [hv] at k0 k1 ⊢
    refine ⟨k0, hs, ?_⟩
    rw [dec, if_pos (by omega), e0, Int.toNat_natCast]
  · obtain ⟨k0, k1, k2⟩ := putL_2 hl
    rw [k2, begGo_cons, begGo_cons] at hb
    obtain ⟨p0, p1, _⟩ := hb
    have hv : rCand s i 2 = (strAt s i - 192) * 64 + (strAt s (i + 1) - 128) := rfl
    generalize rCand s i 2 = v at *
    have c1 : contB s (i + 1) = true := contB_iff.2 ⟨by omega, by omega⟩
    refine ⟨by omega, hs, ?_⟩
    rw [dec, if_neg (by omega), if_pos (by omega), if_pos ⟨c1, by omega⟩]
    congr 2; omega
  · obtain ⟨k0, k1, k1', k2⟩ := putL_3 hl
    rw [k2, begGo_cons, begGo_cons, begGo_cons] at hb
    obtain ⟨p0, p1, p2, _⟩ := hb
    have p2' : strAt s (i + 2) = 128 + rCand s i 3 % 64 := p2
    have hv : rCand s i 3 = ((strAt s i - 224) * 64 + (strAt s (i + 1) - 128)) * 64 + (strAt s (i + 2) - 128) := rfl
    generalize rCand s i 3 = v at *
    have c1 : contB s (i + 1) = true := contB_iff.2 ⟨by omega, by omega⟩
    have c2 : contB s (i + 2) = true := contB_iff.2 ⟨by omega, by omega⟩
    refine ⟨by omega, hs, ?_⟩
    rw [dec, if_neg (by omega), if_neg (by omega), if_pos (by omega), if_pos ⟨c1, c2, by omega, by omega⟩]
    congr 2; omega
  · obtain ⟨k0, k1, k2⟩ := putL_4 hl
    rw [k2, begGo_cons, begGo_cons, begGo_cons, begGo_cons] at hb
    obtain ⟨p0, p1, p2, p3, _⟩ := hb
    have p2' : strAt s (i + 2) = 128 + rCand s i 4 / 64 % 64 := p2
    have p3' : strAt s (i + 3) = 128 + rCand s i 4 % 64 := p3
    have hv : rCand s i 4 = (((strAt s i - 240) * 64 + (strAt s (i + 1) - 128)) * 64 + (strAt s (i + 2) - 128)) * 64 + (strAt s (i + 3) - 128) := rfl
    generalize rCand s i 4 = v at *
    have c1 : contB s (i + 1) = true := contB_iff.2 ⟨by omega, by omega⟩
    have c2 : contB s (i + 2) = true := contB_iff.2 ⟨by omega, by omega⟩
    have c3 : contB s (i + 3) = true := contB_iff.2 ⟨by omega, by omega⟩
    refine ⟨by omega, hs, ?_⟩
    rw [dec, if_neg (by omega), if_neg (by omega), if_neg (by omega), if_pos (by omega), if_pos ⟨c1, c2, c3, by omega, by omega⟩]
    congr 2; omega
/-- and what the law finds, the reference finds -/
theorem dec_rOk (s : ByteArray) (i c n : Nat) (hi : i < s.size) (h : dec s i = some (c, n)) : 1 ≤ n ∧ n ≤ 4 ∧ i + n ≤ s.size ∧ rOkN s i n = true ∧ rCand s i n = (c : Int) := by
  have q0 := bAt_lt s i
  have q1 := bAt_lt s (i + 1)
  have q2 := bAt_lt s (i + 2)
  have q3 := bAt_lt s (i + 3)
  have e0 := strAt_eq s i
  have e1 := strAt_eq s (i + 1)
  have e2 := strAt_eq s (i + 2)
  have e3 := strAt_eq s (i + 3)
  have ok : ∀ (n : Nat) (l : List Int), putL (rCand s i n) = l → l ≠ [] → l.length = n → i + n ≤ s.size → begGo s i l = true → rOkN s i n = true := by
    intro n l h1 h2 h3 h4 h5
    rw [rOkN, h1, Bool.and_eq_true, decide_eq_true_eq, rBeg_iff, h3]
    exact ⟨rfl, h2, h4, h5⟩
  unfold dec at h
  split at h
  · cases h
    rename_i h1
    have hv : rCand s i 1 = strAt s i := rfl
    refine ⟨by omega, by omega, by omega, ok 1 [strAt s i] ?_ (by simp) rfl (by omega) (begGo_cons.2 ⟨rfl, rfl⟩), by rw [hv, e0]⟩
    rw [hv, putL, if_neg (by omega), if_pos (by omega)]
  · rename_i h1
    split at h
    · rename_i h2
      split at h
      · rename_i h3
        cases h
        obtain ⟨g1, g1'⟩ := contB_iff.1 h3.1
        have hv : rCand s i 2 = (strAt s i - 192) * 64 + (strAt s (i + 1) - 128) := rfl
        have hc : rCand s i 2 = ((bAt s i % 32 * 64 + bAt s (i + 1) % 64 : Nat) : Int) := by omega
        generalize hw : rCand s i 2 = v at *
        refine ⟨by omega, by omega, by omega, ok 2 [192 + v / 64, 128 + v % 64] ?_ (by simp) rfl (by omega) (begGo_cons.2 ⟨by omega, begGo_cons.2 ⟨by omega, rfl⟩⟩), hc⟩
        rw [hw, putL, if_neg (by omega), if_neg (by omega), if_pos (by omega)]
      · cases h
    · rename_i h2
      split at h
      · rename_i h4
        split at h
        · rename_i h5
          cases h
          obtain ⟨g1, g1'⟩ := contB_iff.1 h5.1
          obtain ⟨g2, g2'⟩ := contB_iff.1 h5.2.1
          have hv : rCand s i 3 = ((strAt s i - 224) * 64 + (strAt s (i + 1) - 128)) * 64 + (strAt s (i + 2) - 128) := rfl
          have hc : rCand s i 3 = ((bAt s i % 16 * 4096 + bAt s (i + 1) % 64 * 64 + bAt s (i + 2) % 64 : Nat) : Int) := by omega
          have h52 := h5.2.2
          generalize hw : rCand s i 3 = v at *
          refine ⟨by omega, by omega, by omega, ok 3 [224 + v / 4096, 128 + v / 64 % 64, 128 + v % 64] ?_ (by simp) rfl (by omega) (begGo_cons.2 ⟨by omega, begGo_cons.2 ⟨by omega, begGo_cons.2 ⟨by show strAt s (i + 2) = _; omega, rfl⟩⟩⟩), hc⟩
          rw [hw, putL, if_neg (by omega), if_neg (by omega), if_neg (by omega), if_pos (by omega)]
        · cases h
      · rename_i h4
        split at h
        · rename_i h6
          split at h
          · rename_i h7
            cases h
            obtain ⟨g1, g1'⟩ := contB_iff.1 h7.1
            obtain ⟨g2, g2'⟩ := contB_iff.1 h7.2.1
            obtain ⟨g3, g3'⟩ := contB_iff.1 h7.2.2.1
            have h72 := h7.2.2.2
            have hv : rCand s i 4 = (((strAt s i - 240) * 64 + (strAt s (i + 1) - 128)) * 64 + (strAt s (i + 2) - 128)) * 64 + (strAt s (i + 3) - 128) := rfl
            have hc : rCand s i 4 = ((bAt s i % 8 * 262144 + bAt s (i + 1) % 64 * 4096 + bAt s (i + 2) % 64 * 64 + bAt s (i + 3) % 64 : Nat) : Int) := by omega
            generalize hw : rCand s i 4 = v at *
            refine ⟨by omega, by omega, by omega, ok 4 [240 + v / 262144, 128 + v / 4096 % 64, 128 + v / 64 % 64, 128 + v % 64] ?_ (by simp) rfl (by omega) (begGo_cons.2 ⟨by omega, begGo_cons.2 ⟨by omega, begGo_cons.2 ⟨by show strAt s (i + 2) = _; omega, begGo_cons.2 ⟨by show strAt s (i + 3) = _; omega, rfl⟩⟩⟩⟩), hc⟩
            rw [hw, putL, if_neg (by omega), if_neg (by omega), if_neg (by omega), if_neg (by omega)]
          · cases h
        · cases h
def runeQ (H : Heap) (s : ByteArray) (i : Nat) (o : Out) (e : Env) (H2 : Heap) : Prop :=
  H.next ≤ H2.low ∧ Stay H.next H H2 ∧ ((o = .exit 0 ∧ dec s i = none ∧ e.get 0 = .string s ∧ e.get 1 = .int .i64 i) ∨ (o = .ret ∧ ∃ c n : Nat, dec s i = some (c, n) ∧ e.get 4 = .int .i64 c ∧ e.get 5 = .int .i64 n ∧ e.get 6 = .int .i64 0))
theorem rune_loop (H : Heap) (s : ByteArray) (i : Nat) (hi : i < s.size) (hz : s.size ≤ 1048576) : ∀ k e H2, (∃ n : Nat, k = 5 - n ∧ 1 ≤ n ∧ n ≤ 5 ∧ (∀ m, 1 ≤ m → m < n → i + m ≤ s.size → rOkN s i m = false) ∧ e.get 0 = .string s ∧ e.get 1 = .int .i64 i ∧ e.get 7 = .int .i64 n ∧ Stay H.next H H2 ∧ H.next ≤ H2.low) →
    After (LE Try.prog lib0 (.loop f42b0) e H2) (runeQ H s i) := by
  refine loopL_after _ _ ?_
  rintro k e H2 ⟨n, hk, h1, h5, hno, f0, f1, f7, hS, hl⟩
  have none_of : (∀ m, 1 ≤ m → m ≤ 4 → i + m ≤ s.size → rOkN s i m = false) → dec s i = none := by
    intro hall
    cases hd : dec s i with
    | none => rfl
    | some q =>
      obtain ⟨c, m⟩ := q
      obtain ⟨m1, m4, ms, mo, _⟩ := dec_rOk s i c m hi hd
      rw [hall m m1 m4 ms] at mo
      cases mo
  rcases b1 : decide ((n : Int) ≤ 4) with _ | _
  · have hb := of_decide_eq_false b1
    simp (config := {maxSteps := 20000000, dsimp := false}) (disch := first | omega | (simp only [low_push, low_put, next_push, next_put, next_mk, len_next, List.length_cons, List.length_nil] <;> omega) | fail) only [↓rpre, rpost1, rpost2, rpost3, rpost4, rpost5, envOf, ↓reduceIte, Nat.reduceEqDiff, List.getElem?_toArray, List.getElem?_cons_zero, List.getElem?_cons_succ, reduceCtorEq, Nat.reduceAdd, Nat.reduceSub, Nat.reduceMul, Nat.reduceLeDiff, Nat.reduceLT, Nat.reduceDiv, Nat.reduceMod, Int.reduceEq, Int.reduceNe, Int.reduceLT, Int.reduceLE, Int.reduceGT, Int.reduceGE, Int.reduceAdd, Int.reduceSub, Int.reduceMul, Int.reduceNeg, Int.reduceToNat , f0, f1, f7, ty9, ty3, b1]
    exact LoopG_exit ⟨hl, hS, .inl ⟨rfl, none_of fun m a b c => hno m a (by omega) c, f0, f1⟩⟩
  have hb1 := of_decide_eq_true b1
  rcases b2 : decide ((i : Int) + n ≤ s.size) with _ | _
  · have hb := of_decide_eq_false b2
    simp (config := {maxSteps := 20000000, dsimp := false}) (disch := first | omega | (simp only [low_push, low_put, next_push, next_put, next_mk, len_next, List.length_cons, List.length_nil] <;> omega) | fail) only [↓rpre, rpost1, rpost2, rpost3, rpost4, rpost5, envOf, ↓reduceIte, Nat.reduceEqDiff, List.getElem?_toArray, List.getElem?_cons_zero, List.getElem?_cons_succ, reduceCtorEq, Nat.reduceAdd, Nat.reduceSub, Nat.reduceMul, Nat.reduceLeDiff, Nat.reduceLT, Nat.reduceDiv, Nat.reduceMod, Int.reduceEq, Int.reduceNe, Int.reduceLT, Int.reduceLE, Int.reduceGT, Int.reduceGE, Int.reduceAdd, Int.reduceSub, Int.reduceMul, Int.reduceNeg, Int.reduceToNat , f0, f1, f7, ty9, ty3, b1, b2, wrap_small]
    exact LoopG_exit ⟨hl, hS, .inl ⟨rfl, none_of fun m a b c => hno m a (by omega) c, f0, f1⟩⟩
  have hb2 := of_decide_eq_true b2
  have nt : (i : Int).toNat = i := Int.toNat_natCast i
  have q0 := strAt_range s i
  have hSn := hS.next
  have qv := rVal_range s i n
  -- behind the candidate
  have tail : ∀ e' : Env, e'.get 0 = .string s → e'.get 1 = .int .i64 i → e'.get 7 = .int .i64 n → e'.get 8 = .int .i64 (rCand s i n) → After (thenDo (inBlock 1 (LE Try.prog lib0 f42t e' H2)) (LE Try.prog lib0 f42k6)) (LoopG k (fun k e H2 => ∃ n : Nat, k = 5 - n ∧ 1 ≤ n ∧ n ≤ 5 ∧ (∀ m, 1 ≤ m → m < n → i + m ≤ s.size → rOkN s i m = false) ∧ e.get 0 = .string s ∧ e.get 1 = .int .i64 i ∧ e.get 7 = .int .i64 n ∧ Stay H.next H H2 ∧ H.next ≤ H2.low) (runeQ H s i)) := by
    intro e' g0 g1 g7 g8
    obtain ⟨w, h, H3, hc, hh, hO, hS3'⟩ := ref_put H2 (rCand s i n)
    have hS3 : Stay H.next H H3 := hS.trans (hS3'.weaken hSn)
    have hl3 : H.next ≤ H3.low := hS3'.lowAll _ hSn hl
    have hpl : (putL (rCand s i n)).length ≤ 4 := by unfold putL; split <;> (try split) <;> (try split) <;> (try split) <;> simp
    have hbg := ref_begins H3 H2.next s i (putL (rCand s i n)) w hO (by omega) (by omega) (by omega)
    obtain ⟨a, c, rfl⟩ := hO.slice
    have en : decide (((putL (rCand s i n)).length : Int) = n) = decide ((putL (rCand s i n)).length = n) := decide_eq_decide.2 (by omega)
    have next : rOkN s i n = false → ∀ e2 : Env, e2.get 0 = .string s → e2.get 1 = .int .i64 i → e2.get 7 = .int .i64 ((n : Int) + 1) → LoopG k (fun k e H2 => ∃ n : Nat, k = 5 - n ∧ 1 ≤ n ∧ n ≤ 5 ∧ (∀ m, 1 ≤ m → m < n → i + m ≤ s.size → rOkN s i m = false) ∧ e.get 0 = .string s ∧ e.get 1 = .int .i64 i ∧ e.get 7 = .int .i64 n ∧ Stay H.next H H2 ∧ H.next ≤ H2.low) (runeQ H s i) .normal e2 H3 := fun hno2 e2 k0 k1 k7 =>
      LoopG_normal (k - 1) (by omega) ⟨n + 1, by omega, by omega, by omega, fun m a b c => by
        by_cases hm : m = n
        · rw [hm]; exact hno2
        · exact hno m a (by omega) c, k0, k1, k7, hS3, hl3⟩
    rw [f42t]
    rcases b3 : decide ((putL (rCand s i n)).length = n) with _ | _
    · simp (config := {maxSteps := 20000000, dsimp := false}) (disch := first | omega | (simp only [low_push, low_put, next_push, next_put, next_mk, len_next, List.length_cons, List.length_nil] <;> omega) | fail) only [↓rpre, rpost1, rpost2, rpost3, rpost4, rpost5, envOf, ↓reduceIte, Nat.reduceEqDiff, List.getElem?_toArray, List.getElem?_cons_zero, List.getElem?_cons_succ, reduceCtorEq, Nat.reduceAdd, Nat.reduceSub, Nat.reduceMul, Nat.reduceLeDiff, Nat.reduceLT, Nat.reduceDiv, Nat.reduceMod, Int.reduceEq, Int.reduceNe, Int.reduceLT, Int.reduceLE, Int.reduceGT, Int.reduceGE, Int.reduceAdd, Int.reduceSub, Int.reduceMul, Int.reduceNeg, Int.reduceToNat , g0, g1, g7, g8, ty80, ty3, hc, hh, en, b3, wrap_small]
      exact next (by rw [rOkN, b3]; rfl) _ g0 g1 rfl
    · rcases b4 : rBeg s i (putL (rCand s i n)) with _ | _
      · rw [b4] at hbg
        simp (config := {maxSteps := 20000000, dsimp := false}) (disch := first | omega | (simp only [low_push, low_put, next_push, next_put, next_mk, len_next, List.length_cons, List.length_nil] <;> omega) | fail) only [↓rpre, rpost1, rpost2, rpost3, rpost4, rpost5, envOf, ↓reduceIte, Nat.reduceEqDiff, List.getElem?_toArray, List.getElem?_cons_zero, List.getElem?_cons_succ, reduceCtorEq, Nat.reduceAdd, Nat.reduceSub, Nat.reduceMul, Nat.reduceLeDiff, Nat.reduceLT, Nat.reduceDiv, Nat.reduceMod, Int.reduceEq, Int.reduceNe, Int.reduceLT, Int.reduceLE, Int.reduceGT, Int.reduceGE, Int.reduceAdd, Int.reduceSub, Int.reduceMul, Int.reduceNeg, Int.reduceToNat , g0, g1, g7, g8, ty80, ty3, hc, hh, en, b3, hbg, wrap_small]
        exact next (by rw [rOkN, b3, b4]; rfl) _ g0 g1 rfl
      · rw [b4] at hbg
        obtain ⟨r0, _, rd⟩ := rOk_dec s i n h1 (by omega) (by rw [rOkN, b3, b4]; rfl)
        simp (config := {maxSteps := 20000000, dsimp := false}) (disch := first | omega | (simp only [low_push, low_put, next_push, next_put, next_mk, len_next, List.length_cons, List.length_nil] <;> omega) | fail) only [↓rpre, rpost1, rpost2, rpost3, rpost4, rpost5, envOf, ↓reduceIte, Nat.reduceEqDiff, List.getElem?_toArray, List.getElem?_cons_zero, List.getElem?_cons_succ, reduceCtorEq, Nat.reduceAdd, Nat.reduceSub, Nat.reduceMul, Nat.reduceLeDiff, Nat.reduceLT, Nat.reduceDiv, Nat.reduceMod, Int.reduceEq, Int.reduceNe, Int.reduceLT, Int.reduceLE, Int.reduceGT, Int.reduceGE, Int.reduceAdd, Int.reduceSub, Int.reduceMul, Int.reduceNeg, Int.reduceToNat , g0, g1, g7, g8, ty80, ty3, hc, hh, en, b3, hbg, wrap_small]
        refine LoopG_ret ⟨hl3, hS3, .inr ⟨rfl, _, n, rd, ?_, rfl, rfl⟩⟩
        rw [Int.toNat_of_nonneg r0]; rfl
  rcases b5 : decide (1 < (n : Int)) with _ | _
  · have hb5 := of_decide_eq_false b5
    have hn1 : n = 1 := by omega
    simp (config := {maxSteps := 20000000, dsimp := false}) (disch := first | omega | (simp only [low_push, low_put, next_push, next_put, next_mk, len_next, List.length_cons, List.length_nil] <;> omega) | fail) only [↓rpre, rpost1, rpost2, rpost3, rpost4, rpost5, envOf, ↓reduceIte, Nat.reduceEqDiff, List.getElem?_toArray, List.getElem?_cons_zero, List.getElem?_cons_succ, reduceCtorEq, Nat.reduceAdd, Nat.reduceSub, Nat.reduceMul, Nat.reduceLeDiff, Nat.reduceLT, Nat.reduceDiv, Nat.reduceMod, Int.reduceEq, Int.reduceNe, Int.reduceLT, Int.reduceLE, Int.reduceGT, Int.reduceGE, Int.reduceAdd, Int.reduceSub, Int.reduceMul, Int.reduceNeg, Int.reduceToNat , f0, f1, f7, ty9, ty3, ty5, b1, b2, b5, wrap_small, nt]
    exact tail _ f0 f1 f7 (by rw [rCand, if_pos hn1]; rfl)
  · have hb5 := of_decide_eq_true b5
    have hv := ref_value H2 s i n (by omega) (by omega) (by omega) (by omega)
    simp (config := {maxSteps := 20000000, dsimp := false}) (disch := first | omega | (simp only [low_push, low_put, next_push, next_put, next_mk, len_next, List.length_cons, List.length_nil] <;> omega) | fail) only [↓rpre, rpost1, rpost2, rpost3, rpost4, rpost5, envOf, ↓reduceIte, Nat.reduceEqDiff, List.getElem?_toArray, List.getElem?_cons_zero, List.getElem?_cons_succ, reduceCtorEq, Nat.reduceAdd, Nat.reduceSub, Nat.reduceMul, Nat.reduceLeDiff, Nat.reduceLT, Nat.reduceDiv, Nat.reduceMod, Int.reduceEq, Int.reduceNe, Int.reduceLT, Int.reduceLE, Int.reduceGT, Int.reduceGE, Int.reduceAdd, Int.reduceSub, Int.reduceMul, Int.reduceNeg, Int.reduceToNat , f0, f1, f7, ty9, ty3, ty5, b1, b2, b5, wrap_small, nt, hv]
    exact tail _ f0 f1 f7 (by rw [rCand, if_neg (by omega)]; rfl)
theorem ref_rune (H : Heap) (s : ByteArray) (i : Nat) (hi : i < s.size) (hz : s.size ≤ 1048576) : (∀ c n, dec s i = some (c, n) → CL Try.prog lib0 42 [.string s, .int .i64 i] H = some (.tuple #[.int .i64 c, .int .i64 n, .int .i64 0], none)) ∧ (dec s i = none → ∃ q : Int, q ≠ 0 ∧ CL Try.prog lib0 42 [.string s, .int .i64 i] H = some (.tuple #[.int .i64 0, .int .i64 0, .int .i64 q], none)) := by
  have d1 : decide ((i : Int) < 0) = false := decide_eq_false (by omega)
  have d2 : decide ((s.size : Int) ≤ i) = false := decide_eq_false (by omega)
  rw [CL_light fn42 rfl _ (by simp)]
  simp (config := {maxSteps := 20000000, dsimp := false}) (disch := first | omega | (simp only [low_push, low_put, next_push, next_put, next_mk, len_next, List.length_cons, List.length_nil] <;> omega) | fail) only [↓rpre, rpost1, rpost2, rpost3, rpost4, rpost5, envOf, ↓reduceIte, Nat.reduceEqDiff, List.getElem?_toArray, List.getElem?_cons_zero, List.getElem?_cons_succ, reduceCtorEq, Nat.reduceAdd, Nat.reduceSub, Nat.reduceMul, Nat.reduceLeDiff, Nat.reduceLT, Nat.reduceDiv, Nat.reduceMod, Int.reduceEq, Int.reduceNe, Int.reduceLT, Int.reduceLE, Int.reduceGT, Int.reduceGE, Int.reduceAdd, Int.reduceSub, Int.reduceMul, Int.reduceNeg, Int.reduceToNat , ty9, ty3, d1, d2]
  refine after_prop (F := fun z => (∀ c n, dec s i = some (c, n) → bodyRet _ _ _ (thenDo (inBlock 0 z) _) = some (.tuple #[.int .i64 c, .int .i64 n, .int .i64 0], none)) ∧ (dec s i = none → ∃ q : Int, q ≠ 0 ∧ bodyRet _ _ _ (thenDo (inBlock 0 z) _) = some (.tuple #[.int .i64 0, .int .i64 0, .int .i64 q], none))) (rune_loop H s i hi hz 4 _ _ ⟨1, rfl, by omega, by omega, fun m a b => by omega, rfl, rfl, rfl, Stay.start H, Nat.le_refl _⟩) ?_
  rintro o e' H' ⟨hl, hS, ⟨ho, hd, h0, h1⟩ | ⟨ho, c, n, hd, h4, h5, h6⟩⟩
  · refine ⟨fun c n h => (by rw [hd] at h; cases h), fun _ => ?_⟩
    obtain ⟨t, ht⟩ := ref_cut H' s i (by omega) hz
    cases t with
    | true =>
      refine ⟨7, by decide, ?_⟩
      simp (config := {maxSteps := 20000000, dsimp := false}) (disch := first | omega | (simp only [low_push, low_put, next_push, next_put, next_mk, len_next, List.length_cons, List.length_nil] <;> omega) | fail) only [↓rpre, rpost1, rpost2, rpost3, rpost4, rpost5, envOf, ↓reduceIte, Nat.reduceEqDiff, List.getElem?_toArray, List.getElem?_cons_zero, List.getElem?_cons_succ, reduceCtorEq, Nat.reduceAdd, Nat.reduceSub, Nat.reduceMul, Nat.reduceLeDiff, Nat.reduceLT, Nat.reduceDiv, Nat.reduceMod, Int.reduceEq, Int.reduceNe, Int.reduceLT, Int.reduceLE, Int.reduceGT, Int.reduceGE, Int.reduceAdd, Int.reduceSub, Int.reduceMul, Int.reduceNeg, Int.reduceToNat , ho, h0, h1, ht]
    | false =>
      refine ⟨2, by decide, ?_⟩
      simp (config := {maxSteps := 20000000, dsimp := false}) (disch := first | omega | (simp only [low_push, low_put, next_push, next_put, next_mk, len_next, List.length_cons, List.length_nil] <;> omega) | fail) only [↓rpre, rpost1, rpost2, rpost3, rpost4, rpost5, envOf, ↓reduceIte, Nat.reduceEqDiff, List.getElem?_toArray, List.getElem?_cons_zero, List.getElem?_cons_succ, reduceCtorEq, Nat.reduceAdd, Nat.reduceSub, Nat.reduceMul, Nat.reduceLeDiff, Nat.reduceLT, Nat.reduceDiv, Nat.reduceMod, Int.reduceEq, Int.reduceNe, Int.reduceLT, Int.reduceLE, Int.reduceGT, Int.reduceGE, Int.reduceAdd, Int.reduceSub, Int.reduceMul, Int.reduceNeg, Int.reduceToNat , ho, h0, h1, ht]
  · refine ⟨fun c' n' h => ?_, fun h => (by rw [hd] at h; cases h)⟩
    rw [hd] at h
    cases h
    simp (config := {maxSteps := 20000000, dsimp := false}) (disch := first | omega | (simp only [low_push, low_put, next_push, next_put, next_mk, len_next, List.length_cons, List.length_nil] <;> omega) | fail) only [↓rpre, rpost1, rpost2, rpost3, rpost4, rpost5, envOf, ↓reduceIte, Nat.reduceEqDiff, List.getElem?_toArray, List.getElem?_cons_zero, List.getElem?_cons_succ, reduceCtorEq, Nat.reduceAdd, Nat.reduceSub, Nat.reduceMul, Nat.reduceLeDiff, Nat.reduceLT, Nat.reduceDiv, Nat.reduceMod, Int.reduceEq, Int.reduceNe, Int.reduceLT, Int.reduceLE, Int.reduceGT, Int.reduceGE, Int.reduceAdd, Int.reduceSub, Int.reduceMul, Int.reduceNeg, Int.reduceToNat , ho, h4, h5, h6]
end Go.Proofs.Ytcpolfjnbbodgaa.Ve
