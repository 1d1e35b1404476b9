/- The runs of the reference's All, Right (of texts), Plain, named: they tell what the word's own do. Conditions: none here. -/
import Derived.Test.YtcpolfjnbbodgaaRefR
namespace Go.Proofs.Ytcpolfjnbbodgaa.Ve
open Go Go.RowKit
set_option linter.unusedVariables false
set_option linter.unusedSimpArgs false
set_option maxRecDepth 100000
set_option maxHeartbeats 0

theorem dec_pos {s : ByteArray} {i c n : Nat} (hi : i < s.size) (h : dec s i = some (c, n)) : 1 ≤ n ∧ i + n ≤ s.size := ⟨(dec_rOk s i c n hi h).1, (dec_rOk s i c n hi h).2.2.1⟩
theorem dec_small {s : ByteArray} {i c n : Nat} (h : dec s i = some (c, n)) : c ≤ 2097152 := by
  have := bAt_lt s i
  unfold dec at h
  split at h
  · cases h; omega
  · split at h
    · split at h
      · cases h; omega
      · cases h
    · split at h
      · split at h
        · cases h; omega
        · cases h
      · split at h
        · split at h
          · cases h; omega
          · cases h
        · cases h
/-- the runes of a text, up to the first that is none; are there any such? -/
def rLs (s : ByteArray) (i : Nat) : List Int :=
  if h : i < s.size then
    match hd : dec s i with
    | some (c, n) => (c : Int) :: rLs s (i + n)
    | none => []
  else []
termination_by s.size - i
decreasing_by have := dec_pos h hd; omega
def rAll (s : ByteArray) (i : Nat) : Bool :=
  if h : i < s.size then
    match hd : dec s i with
    | some (c, n) => rAll s (i + n)
    | none => false
  else true
termination_by s.size - i
decreasing_by have := dec_pos h hd; omega
theorem rLs_some {s : ByteArray} {i c n : Nat} (hi : i < s.size) (h : dec s i = some (c, n)) : rLs s i = (c : Int) :: rLs s (i + n) := by
  rw [rLs, dif_pos hi]; split
  · rename_i c' n' h'; rw [h] at h'; cases h'; rfl
  · rename_i h'; rw [h] at h'; cases h'
theorem rLs_none {s : ByteArray} {i : Nat} (h : i < s.size → dec s i = none) : rLs s i = [] := by
  rw [rLs]; split
  · rename_i hi
    split
    · rename_i c' n' h'; rw [h hi] at h'; cases h'
    · rfl
  · rfl
theorem rAll_some {s : ByteArray} {i c n : Nat} (hi : i < s.size) (h : dec s i = some (c, n)) : rAll s i = rAll s (i + n) := by
  rw [rAll, dif_pos hi]; split
  · rename_i c' n' h'; rw [h] at h'; cases h'; rfl
  · rename_i h'; rw [h] at h'; cases h'
theorem rAll_none {s : ByteArray} {i : Nat} (hi : i < s.size) (h : dec s i = none) : rAll s i = false := by
  rw [rAll, dif_pos hi]; split
  · rename_i c' n' h'; rw [h] at h'; cases h'
  · rfl
theorem rAll_end {s : ByteArray} {i : Nat} (hi : s.size ≤ i) : rAll s i = true := by rw [rAll, dif_neg (by omega)]
theorem uErr_all (s : ByteArray) : ∀ k i, s.size - i = k → (uErr s i = 0 ↔ rAll s i = true) := by
  intro k
  induction k using Nat.strongRecOn with
  | ind k ih =>
    intro i hk
    by_cases hi : i < s.size
    · rw [uErr, dif_pos hi]
      obtain ⟨h1, h2⟩ := uRune_dec s i hi
      cases hd : dec s i with
      | none =>
        rw [dif_neg (h2 hd), rAll_none hi hd]
        have := h2 hd
        simp [this]
      | some q =>
        obtain ⟨c, n⟩ := q
        have e := h1 c n hd
        obtain ⟨p1, p2⟩ := dec_pos hi hd
        rw [dif_pos (by rw [e]), e, rAll_some hi hd]
        simp only [Int.toNat_natCast]
        exact ih (s.size - (i + n)) (by omega) (i + n) rfl
    · rw [uErr, dif_neg hi, rAll_end (by omega)]; simp
theorem cAll_all (f : Int → Bool) (s : ByteArray) : ∀ k i, s.size - i = k → rAll s i = true → cAll f s i = (rLs s i).all f := by
  intro k
  induction k using Nat.strongRecOn with
  | ind k ih =>
    intro i hk h
    by_cases hi : i < s.size
    · cases hd : dec s i with
      | none => rw [rAll_none hi hd] at h; cases h
      | some q =>
        obtain ⟨c, n⟩ := q
        obtain ⟨p1, p2⟩ := dec_pos hi hd
        rw [rAll_some hi hd] at h
        rw [cAll, dif_pos hi, decode_dec s i hi c n hd, rLs_some hi hd, List.all_cons, ← ih (s.size - (i + n)) (by omega) (i + n) rfl h]
        simp only
        cases f c <;> simp
    · rw [cAll, dif_neg hi, rLs_none (fun q => absurd q hi)]; rfl
/-- both tell the same of a text -/
theorem wText_ref (s : ByteArray) : wText s = ((rLs s 0).all cChar && rAll s 0) := by
  rw [wText]
  have h := uErr_all s _ 0 rfl
  cases hr : rAll s 0 with
  | true => rw [decide_eq_true (h.2 hr), cAll_all cChar s _ 0 rfl hr]; simp
  | false =>
    have : ¬ uErr s 0 = 0 := fun q => by rw [h.1 q] at hr; cases hr
    rw [decide_eq_false this]; simp
def i32V (n : Int) : Value := .int .i32 n
theorem ref_all_loop (s : ByteArray) (H : Heap) (hs : s.size ≤ 1048576) (L : List Int) (t : Bool) : ∀ k e H2, (∃ (i : Nat) (v : Value) (l : List Int), k = s.size - i ∧ i ≤ s.size ∧ l.length ≤ i ∧ e.get 0 = .string s ∧ e.get 5 = v ∧ e.get 6 = .int .i64 i ∧ OwnSl H2 H.next 1 v l.length (l.map i32V) ∧ Stay H.next H H2 ∧ H.next ≤ H2.low ∧ l ++ rLs s i = L ∧ rAll s i = t) →
    After (LE Try.prog lib0 (.loop f32b0) e H2) (fun o e H2 => ∃ (a : Int) (v : Value), OwnSl H2 H.next 1 v L.length (L.map i32V) ∧ Stay H.next H H2 ∧ H.next ≤ H2.low ∧ ((o = .exit 0 ∧ t = true ∧ e.get 5 = v ∧ e.get 6 = .int .i64 a) ∨ (o = .ret ∧ t = false ∧ e.get 2 = v ∧ e.get 3 = .int .i64 a ∧ ∃ q : Int, q ≠ 0 ∧ e.get 4 = .int .i64 q))) := by
  refine loopL_after _ _ ?_
  rintro k e H2 ⟨i, v, l, hk, hi, hl0, f0, f5, f6, hO, hS, hl, fu, ft⟩
  rcases hb : decide ((i : Int) < s.size) with _ | _
  · have hb' := of_decide_eq_false hb
    simp (config := {maxSteps := 20000000, dsimp := false}) (disch := first | omega | (simp only [low_push, low_put, next_push, next_put, next_mk, len_next, List.length_cons, List.length_nil] <;> omega) | fail) only [↓rpre, rpost1, rpost2, rpost3, rpost4, rpost5, envOf, ↓reduceIte, Nat.reduceEqDiff, List.getElem?_toArray, List.getElem?_cons_zero, List.getElem?_cons_succ, reduceCtorEq, Nat.reduceAdd, Nat.reduceSub, Nat.reduceMul, Nat.reduceLeDiff, Nat.reduceLT, Nat.reduceDiv, Nat.reduceMod, Int.reduceEq, Int.reduceNe, Int.reduceLT, Int.reduceLE, Int.reduceGT, Int.reduceGE, Int.reduceAdd, Int.reduceSub, Int.reduceMul, Int.reduceNeg, Int.reduceToNat , f0, f6, ty9, ty3, hb]
    rw [rLs_none (fun q => by omega), List.append_nil] at fu
    rw [rAll_end (by omega)] at ft
    exact LoopG_exit ⟨i, v, by rw [← fu]; exact hO, hS, hl, .inl ⟨rfl, ft.symm, f5, f6⟩⟩
  · have hb' := of_decide_eq_true hb
    have hi' : i < s.size := by omega
    obtain ⟨r1, r2⟩ := ref_rune H2 s i hi' hs
    cases hd : dec s i with
    | none =>
      obtain ⟨q, hq, hc⟩ := r2 hd
      have hq' : decide (q = 0) = false := decide_eq_false hq
      simp (config := {maxSteps := 20000000, dsimp := false}) (disch := first | omega | (simp only [low_push, low_put, next_push, next_put, next_mk, len_next, List.length_cons, List.length_nil] <;> omega) | fail) only [↓rpre, rpost1, rpost2, rpost3, rpost4, rpost5, envOf, ↓reduceIte, Nat.reduceEqDiff, List.getElem?_toArray, List.getElem?_cons_zero, List.getElem?_cons_succ, reduceCtorEq, Nat.reduceAdd, Nat.reduceSub, Nat.reduceMul, Nat.reduceLeDiff, Nat.reduceLT, Nat.reduceDiv, Nat.reduceMod, Int.reduceEq, Int.reduceNe, Int.reduceLT, Int.reduceLE, Int.reduceGT, Int.reduceGE, Int.reduceAdd, Int.reduceSub, Int.reduceMul, Int.reduceNeg, Int.reduceToNat , f0, f5, f6, ty9, ty3, hb, hc, hq']
      rw [rLs_none (fun _ => hd), List.append_nil] at fu
      rw [rAll_none hi' hd] at ft
      exact LoopG_ret ⟨i, v, by rw [← fu]; exact hO, hS, hl, .inr ⟨rfl, ft.symm, rfl, rfl, q, hq, rfl⟩⟩
    | some q =>
      obtain ⟨c, n⟩ := q
      obtain ⟨p1, p2⟩ := dec_pos hi' hd
      have hcs := dec_small hd
      have hc := r1 c n hd
      have hw : IntKind.wrap .i32 (c : Int) = c := wrap_i32 (by omega) (by omega)
      obtain ⟨v', H3, ha, hO2, hS2⟩ := append_own (P := Try.prog) (t := 49) ty49.2.2.2.2.2.2 ty21.1 ty21.2.1 ty21.2.2.1 (by omega) (by omega) (hO.push (.cells [.int .i32 c] true 1)) (c := H2.next) (m := 1) (k := 1) (el := [.int .i32 c]) get_push_next (by omega) (by simp) (by omega) (by rw [next_push]; have := hS.next; omega)
      have hS3 := (hS.trans (Stay.push (B := .cells [.int .i32 c] true 1) hS.next)).trans hS2
      simp (config := {maxSteps := 20000000, dsimp := false}) (disch := first | omega | (simp only [low_push, low_put, next_push, next_put, next_mk, len_next, List.length_cons, List.length_nil] <;> omega) | fail) only [↓rpre, rpost1, rpost2, rpost3, rpost4, rpost5, envOf, ↓reduceIte, Nat.reduceEqDiff, List.getElem?_toArray, List.getElem?_cons_zero, List.getElem?_cons_succ, reduceCtorEq, Nat.reduceAdd, Nat.reduceSub, Nat.reduceMul, Nat.reduceLeDiff, Nat.reduceLT, Nat.reduceDiv, Nat.reduceMod, Int.reduceEq, Int.reduceNe, Int.reduceLT, Int.reduceLE, Int.reduceGT, Int.reduceGE, Int.reduceAdd, Int.reduceSub, Int.reduceMul, Int.reduceNeg, Int.reduceToNat , f0, f5, f6, ty9, ty3, ty21, ty49, hb, hc, hw, ha, wrap_small]
      rw [rLs_some hi' hd] at fu
      rw [rAll_some hi' hd] at ft
      refine LoopG_normal (k - n) (by omega) ⟨i + n, v', l ++ [(c : Int)], by omega, by omega, by simp; omega, f0, rfl, rfl, ?_, hS3, hS2.low hl, by rw [← fu]; simp, ft⟩
      have e1 : (l ++ [(c : Int)]).length = l.length + 1 := by simp
      have e2 : (l ++ [(c : Int)]).map i32V = l.map i32V ++ [.int .i32 c] := by simp [i32V]
      rw [e1, e2]
      exact hO2
theorem ref_all (H : Heap) (s : ByteArray) (hs : s.size ≤ 1048576) : Ret (CL Try.prog lib0 32 [.string s] H) H fun w H1 => ∃ (v : Value) (a q : Int), w = .tuple #[v, .int .i64 a, .int .i64 q] ∧ decide (q = 0) = rAll s 0 ∧ OwnSl H1 H.next 1 v (rLs s 0).length ((rLs s 0).map i32V) ∧ Stay H.next H H1 := by
  rw [CL_light fn32 rfl _ (by simp)]
  simp (config := {maxSteps := 20000000, dsimp := false}) (disch := first | omega | (simp only [low_push, low_put, next_push, next_put, next_mk, len_next, List.length_cons, List.length_nil] <;> omega) | fail) only [↓rpre, rpost1, rpost2, rpost3, rpost4, rpost5, envOf, ↓reduceIte, Nat.reduceEqDiff, List.getElem?_toArray, List.getElem?_cons_zero, List.getElem?_cons_succ, reduceCtorEq, Nat.reduceAdd, Nat.reduceSub, Nat.reduceMul, Nat.reduceLeDiff, Nat.reduceLT, Nat.reduceDiv, Nat.reduceMod, Int.reduceEq, Int.reduceNe, Int.reduceLT, Int.reduceLE, Int.reduceGT, Int.reduceGE, Int.reduceAdd, Int.reduceSub, Int.reduceMul, Int.reduceNeg, Int.reduceToNat , if_true]
  refine after_prop (F := fun z => Ret (bodyRet _ _ _ (thenDo (inBlock 0 z) _)) _ _) (ref_all_loop s H hs (rLs s 0) (rAll s 0) s.size _ _ ⟨0, _, [], rfl, by omega, by simp, rfl, rfl, rfl, .inl ⟨rfl, rfl, rfl⟩, Stay.start H, Nat.le_refl _, rfl, rfl⟩) ?_
  rintro o e' H' ⟨a, v, hO, hS, hl, ⟨ho, hr, h5, h6⟩ | ⟨ho, hr, h2, h3, q, hq, h4⟩⟩
  · simp (config := {maxSteps := 20000000, dsimp := false}) (disch := first | omega | (simp only [low_push, low_put, next_push, next_put, next_mk, len_next, List.length_cons, List.length_nil] <;> omega) | fail) only [↓rpre, rpost1, rpost2, rpost3, rpost4, rpost5, envOf, ↓reduceIte, Nat.reduceEqDiff, List.getElem?_toArray, List.getElem?_cons_zero, List.getElem?_cons_succ, reduceCtorEq, Nat.reduceAdd, Nat.reduceSub, Nat.reduceMul, Nat.reduceLeDiff, Nat.reduceLT, Nat.reduceDiv, Nat.reduceMod, Int.reduceEq, Int.reduceNe, Int.reduceLT, Int.reduceLE, Int.reduceGT, Int.reduceGE, Int.reduceAdd, Int.reduceSub, Int.reduceMul, Int.reduceNeg, Int.reduceToNat , ho, h5, h6]
    rw [hr]
    exact Ret_br (fun hn => ⟨v, a, 0, rfl, rfl, hO.na (by simpa using hn), Stay.refl _ _⟩) ⟨v, a, 0, rfl, rfl, hO.low _, hS.ret hl⟩
  · simp (config := {maxSteps := 20000000, dsimp := false}) (disch := first | omega | (simp only [low_push, low_put, next_push, next_put, next_mk, len_next, List.length_cons, List.length_nil] <;> omega) | fail) only [↓rpre, rpost1, rpost2, rpost3, rpost4, rpost5, envOf, ↓reduceIte, Nat.reduceEqDiff, List.getElem?_toArray, List.getElem?_cons_zero, List.getElem?_cons_succ, reduceCtorEq, Nat.reduceAdd, Nat.reduceSub, Nat.reduceMul, Nat.reduceLeDiff, Nat.reduceLT, Nat.reduceDiv, Nat.reduceMod, Int.reduceEq, Int.reduceNe, Int.reduceLT, Int.reduceLE, Int.reduceGT, Int.reduceGE, Int.reduceAdd, Int.reduceSub, Int.reduceMul, Int.reduceNeg, Int.reduceToNat , ho, h2, h3, h4]
    rw [hr]
    exact Ret_br (fun hn => ⟨v, a, q, rfl, decide_eq_false hq, hO.na (by simpa using hn), Stay.refl _ _⟩) ⟨v, a, q, rfl, decide_eq_false hq, hO.low _, hS.ret hl⟩
/-! rows of runes are looked through -/
theorem text_loop (H0 : Heap) (lo : Nat) (a : Option Addr) (c : Nat) (q : Int) (l : List Int) (hn : l.length ≤ 1048576) (hr : ∀ x ∈ l, -2147483648 ≤ x ∧ x ≤ 2147483647) (hv : OwnSl H0 lo 1 (.slice a l.length c) l.length (l.map i32V)) (r : Bool) :
    ∀ k e H2, (∃ i : Nat, k = l.length - i ∧ i ≤ l.length ∧ e.get 3 = .slice a l.length c ∧ e.get 5 = .int .i64 q ∧ e.get 6 = .int .i64 i ∧ H2 = H0 ∧ (l.drop i).all cChar = r) →
    After (LE Try.prog lib0 (.loop f24b0) e H2) (fun o e H2 => H2 = H0 ∧ ((o = .exit 0 ∧ r = true ∧ e.get 5 = .int .i64 q) ∨ (o = .ret ∧ e.get 2 = .bool false ∧ r = false))) := by
  refine loopL_after _ _ ?_
  rintro k e H2 ⟨i, hk, hi, f3, f5, f6, hH, fu⟩
  subst hH
  rcases b : decide ((i : Int) < l.length) with _ | _
  · have hb' := of_decide_eq_false b
    have : l.drop i = [] := List.drop_eq_nil_of_le (by omega)
    rw [this, List.all_nil] at fu
    simp (config := {maxSteps := 20000000, dsimp := false}) (disch := first | omega | (simp only [low_push, low_put, next_push, next_put, next_mk, len_next, List.length_cons, List.length_nil] <;> omega) | fail) only [↓rpre, rpost1, rpost2, rpost3, rpost4, rpost5, envOf, ↓reduceIte, Nat.reduceEqDiff, List.getElem?_toArray, List.getElem?_cons_zero, List.getElem?_cons_succ, reduceCtorEq, Nat.reduceAdd, Nat.reduceSub, Nat.reduceMul, Nat.reduceLeDiff, Nat.reduceLT, Nat.reduceDiv, Nat.reduceMod, Int.reduceEq, Int.reduceNe, Int.reduceLT, Int.reduceLE, Int.reduceGT, Int.reduceGE, Int.reduceAdd, Int.reduceSub, Int.reduceMul, Int.reduceNeg, Int.reduceToNat , f3, f6, ty49, ty3, b]
    exact LoopG_exit ⟨rfl, .inl ⟨rfl, fu.symm, f5⟩⟩
  · have hb' := of_decide_eq_true b
    rcases hv with ⟨_, h0, _⟩ | ⟨nb, h1, hg, _, _⟩
    · omega
    obtain ⟨rfl, rfl⟩ : a = some ⟨nb, 0, none⟩ ∧ c = l.length + 1 := by simpa using h1
    obtain ⟨x, hx, hd⟩ := drop_cons (l := l) (i := i) (by omega)
    have hxr := hr x (List.mem_of_getElem? hx)
    rw [hd, List.all_cons] at fu
    have nt : (i : Int).toNat = i := Int.toNat_natCast i
    have hc : (l.map i32V)[i]? = some (.int .i32 x) := by rw [List.getElem?_map, hx]; rfl
    rcases hq : cChar x with _ | _
    · rw [hq] at fu
      simp (config := {maxSteps := 20000000, dsimp := false}) (disch := first | omega | (simp only [low_push, low_put, next_push, next_put, next_mk, len_next, List.length_cons, List.length_nil] <;> omega) | fail) only [↓rpre, rpost1, rpost2, rpost3, rpost4, rpost5, envOf, ↓reduceIte, Nat.reduceEqDiff, List.getElem?_toArray, List.getElem?_cons_zero, List.getElem?_cons_succ, reduceCtorEq, Nat.reduceAdd, Nat.reduceSub, Nat.reduceMul, Nat.reduceLeDiff, Nat.reduceLT, Nat.reduceDiv, Nat.reduceMod, Int.reduceEq, Int.reduceNe, Int.reduceLT, Int.reduceLE, Int.reduceGT, Int.reduceGE, Int.reduceAdd, Int.reduceSub, Int.reduceMul, Int.reduceNeg, Int.reduceToNat , f3, f6, ty49, ty21, ty3, b, hg, wrap_small, Nat.mul_one, hc, ref_char, hq]
      exact LoopG_ret ⟨rfl, .inr ⟨rfl, rfl, by rw [← fu]; rfl⟩⟩
    · rw [hq] at fu
      simp (config := {maxSteps := 20000000, dsimp := false}) (disch := first | omega | (simp only [low_push, low_put, next_push, next_put, next_mk, len_next, List.length_cons, List.length_nil] <;> omega) | fail) only [↓rpre, rpost1, rpost2, rpost3, rpost4, rpost5, envOf, ↓reduceIte, Nat.reduceEqDiff, List.getElem?_toArray, List.getElem?_cons_zero, List.getElem?_cons_succ, reduceCtorEq, Nat.reduceAdd, Nat.reduceSub, Nat.reduceMul, Nat.reduceLeDiff, Nat.reduceLT, Nat.reduceDiv, Nat.reduceMod, Int.reduceEq, Int.reduceNe, Int.reduceLT, Int.reduceLE, Int.reduceGT, Int.reduceGE, Int.reduceAdd, Int.reduceSub, Int.reduceMul, Int.reduceNeg, Int.reduceToNat , f3, f6, ty49, ty21, ty3, b, hg, wrap_small, Nat.mul_one, hc, ref_char, hq]
      exact LoopG_normal (k - 1) (by omega) ⟨i + 1, by omega, by omega, f3, f5, rfl, rfl, by rw [← fu]; rfl⟩
theorem rLs_facts (s : ByteArray) : ∀ k i, s.size - i = k → (rLs s i).length ≤ s.size - i ∧ ∀ x ∈ rLs s i, -2147483648 ≤ x ∧ x ≤ 2147483647 := by
  intro k
  induction k using Nat.strongRecOn with
  | ind k ih =>
    intro i hk
    by_cases hi : i < s.size
    · cases hd : dec s i with
      | none => rw [rLs_none (fun _ => hd)]; simp
      | some q =>
        obtain ⟨c, n⟩ := q
        obtain ⟨p1, p2⟩ := dec_pos hi hd
        have hcs := dec_small hd
        obtain ⟨h1, h2⟩ := ih (s.size - (i + n)) (by omega) (i + n) rfl
        rw [rLs_some hi hd]
        refine ⟨by rw [List.length_cons]; omega, fun x hx => ?_⟩
        rcases List.mem_cons.1 hx with rfl | hx
        · omega
        · exact h2 x hx
    · rw [rLs_none (fun q => absurd q hi)]; simp
theorem ref_text (H : Heap) (s : ByteArray) (hs : s.size ≤ 1048576) : CL Try.prog lib0 24 [.string s] H = some (.bool (wText s), none) := by
  obtain ⟨w, h, H1, hc, hh, v, a, q, rfl, hq, hO, hS⟩ := ref_all ⟨H.bs, H.next⟩ s hs
  have hO' := hO
  obtain ⟨av, cv, rfl⟩ := hO.ownC.slice
  have hl1 : H.next ≤ H1.low := hS.low (Nat.le_refl _)
  obtain ⟨f1, f2⟩ := rLs_facts s _ 0 rfl
  rw [CL_light fn24 rfl _ (by simp), wText_ref]
  simp (config := {maxSteps := 20000000, dsimp := false}) (disch := first | omega | (simp only [low_push, low_put, next_push, next_put, next_mk, len_next, List.length_cons, List.length_nil] <;> omega) | fail) only [↓rpre, rpost1, rpost2, rpost3, rpost4, rpost5, envOf, ↓reduceIte, Nat.reduceEqDiff, List.getElem?_toArray, List.getElem?_cons_zero, List.getElem?_cons_succ, reduceCtorEq, Nat.reduceAdd, Nat.reduceSub, Nat.reduceMul, Nat.reduceLeDiff, Nat.reduceLT, Nat.reduceDiv, Nat.reduceMod, Int.reduceEq, Int.reduceNe, Int.reduceLT, Int.reduceLE, Int.reduceGT, Int.reduceGE, Int.reduceAdd, Int.reduceSub, Int.reduceMul, Int.reduceNeg, Int.reduceToNat , ty3, ty9, hc, hh]
  refine after_prop (F := fun z => bodyRet _ _ _ (thenDo (inBlock 0 z) _) = _) (text_loop H1 H.next av cv q (rLs s 0) (by omega) f2 hO' ((rLs s 0).all cChar) (rLs s 0).length _ _ ⟨0, rfl, by omega, rfl, rfl, rfl, rfl, rfl⟩) ?_
  rintro o e' H' ⟨hH, ⟨ho, hr, h5⟩ | ⟨ho, h2, hr⟩⟩
  · simp (config := {maxSteps := 20000000, dsimp := false}) (disch := first | omega | (simp only [low_push, low_put, next_push, next_put, next_mk, len_next, List.length_cons, List.length_nil] <;> omega) | fail) only [↓rpre, rpost1, rpost2, rpost3, rpost4, rpost5, envOf, ↓reduceIte, Nat.reduceEqDiff, List.getElem?_toArray, List.getElem?_cons_zero, List.getElem?_cons_succ, reduceCtorEq, Nat.reduceAdd, Nat.reduceSub, Nat.reduceMul, Nat.reduceLeDiff, Nat.reduceLT, Nat.reduceDiv, Nat.reduceMod, Int.reduceEq, Int.reduceNe, Int.reduceLT, Int.reduceLE, Int.reduceGT, Int.reduceGE, Int.reduceAdd, Int.reduceSub, Int.reduceMul, Int.reduceNeg, Int.reduceToNat , ho, hH, h5, ty3, hq, hr]
  · simp (config := {maxSteps := 20000000, dsimp := false}) (disch := first | omega | (simp only [low_push, low_put, next_push, next_put, next_mk, len_next, List.length_cons, List.length_nil] <;> omega) | fail) only [↓rpre, rpost1, rpost2, rpost3, rpost4, rpost5, envOf, ↓reduceIte, Nat.reduceEqDiff, List.getElem?_toArray, List.getElem?_cons_zero, List.getElem?_cons_succ, reduceCtorEq, Nat.reduceAdd, Nat.reduceSub, Nat.reduceMul, Nat.reduceLeDiff, Nat.reduceLT, Nat.reduceDiv, Nat.reduceMod, Int.reduceEq, Int.reduceNe, Int.reduceLT, Int.reduceLE, Int.reduceGT, Int.reduceGE, Int.reduceAdd, Int.reduceSub, Int.reduceMul, Int.reduceNeg, Int.reduceToNat , ho, hH, h2, hr]
end Go.Proofs.Ytcpolfjnbbodgaa.Ve
