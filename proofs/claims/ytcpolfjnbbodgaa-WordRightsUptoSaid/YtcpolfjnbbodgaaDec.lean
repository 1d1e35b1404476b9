/- Decoding, plainly: one law of runes' bytes, and that the package utf and the model's ranges decode by it. Conditions: none here. -/
import Derived.Test.YtcpolfjnbbodgaaText
namespace Go.Proofs.Ytcpolfjnbbodgaa.Ve
open Go Go.RowKit
set_option linter.unusedVariables false
set_option linter.unusedSimpArgs false
set_option maxRecDepth 100000
set_option maxHeartbeats 0

/-- a byte -/
def bAt (s : ByteArray) (i : Nat) : Nat := (s.data.toList.getD i 0).toNat
theorem strAt_eq (s : ByteArray) (i : Nat) : strAt s i = (bAt s i : Int) := rfl
theorem bAt_lt (s : ByteArray) (i : Nat) : bAt s i < 256 := by
  have := (s.data.toList.getD i 0).toNat_lt
  simpa [bAt] using this
theorem get_eq (s : ByteArray) (i : Nat) (h : i < s.size) : (s.get! i).toNat = bAt s i := by
  have h' : i < s.data.toList.length := by simpa using h
  have : s.get! i = s.data[i]! := by cases s; rfl
  rw [this, bAt, List.getD_eq_getElem?_getD, List.getElem?_eq_getElem h', getElem!_pos _ _ (by simpa using h)]
  simp
def contB (s : ByteArray) (i : Nat) : Bool := decide (i < s.size) && decide (bAt s i / 64 = 2)
/-- the rune that begins at a place, and how many bytes it has -/
def dec (s : ByteArray) (i : Nat) : Option (Nat × Nat) :=
  if bAt s i < 128 then some (bAt s i, 1)
  else if bAt s i / 32 = 6 then
    if contB s (i + 1) = true ∧ 128 ≤ bAt s i % 32 * 64 + bAt s (i + 1) % 64 then some (bAt s i % 32 * 64 + bAt s (i + 1) % 64, 2) else none
  else if bAt s i / 16 = 14 then
    if contB s (i + 1) = true ∧ contB s (i + 2) = true ∧ 2048 ≤ bAt s i % 16 * 4096 + bAt s (i + 1) % 64 * 64 + bAt s (i + 2) % 64 ∧ ¬(55296 ≤ bAt s i % 16 * 4096 + bAt s (i + 1) % 64 * 64 + bAt s (i + 2) % 64 ∧ bAt s i % 16 * 4096 + bAt s (i + 1) % 64 * 64 + bAt s (i + 2) % 64 ≤ 57343)
      then some (bAt s i % 16 * 4096 + bAt s (i + 1) % 64 * 64 + bAt s (i + 2) % 64, 3) else none
  else if bAt s i / 8 = 30 then
    if contB s (i + 1) = true ∧ contB s (i + 2) = true ∧ contB s (i + 3) = true ∧ 65536 ≤ bAt s i % 8 * 262144 + bAt s (i + 1) % 64 * 4096 + bAt s (i + 2) % 64 * 64 + bAt s (i + 3) % 64 ∧ bAt s i % 8 * 262144 + bAt s (i + 1) % 64 * 4096 + bAt s (i + 2) % 64 * 64 + bAt s (i + 3) % 64 ≤ 1114111
      then some (bAt s i % 8 * 262144 + bAt s (i + 1) % 64 * 4096 + bAt s (i + 2) % 64 * 64 + bAt s (i + 3) % 64, 4) else none
  else none
theorem contB_iff {s : ByteArray} {i : Nat} : contB s i = true ↔ i < s.size ∧ bAt s i / 64 = 2 := by simp [contB]

/-! the model's ranges -/
theorem decode_dec (s : ByteArray) (i : Nat) (hi : i < s.size) (c n : Nat) (h : dec s i = some (c, n)) : Utf8.decode s i = (c, n) := by
  have g0 := get_eq s i hi
  have gk : ∀ k, contB s (i + k) = true → (s.get! (i + k)).toNat = bAt s (i + k) ∧ (decide (i + k < s.size) && (s.get! (i + k)).toNat / 64 == 2) = true := by
    intro k hk
    rw [contB_iff] at hk
    have := get_eq s (i + k) hk.1
    refine ⟨this, ?_⟩
    rw [this, hk.2]; simp [hk.1]
  unfold dec at h
  unfold Utf8.decode
  simp only [Nat.add_zero, g0]
  split at h
  · rename_i h1
    rw [if_pos h1]
    cases h; rfl
  · rename_i h1
    rw [if_neg h1]
    split at h
    · rename_i h2
      split at h
      · rename_i h3
        obtain ⟨k1, k1'⟩ := gk 1 h3.1
        have e2 : (bAt s i / 32 == 6) = true := by simp [h2]
        rw [e2, k1']
        simp only [Bool.and_self, if_true, k1]
        rw [if_pos h3.2]
        cases h; rfl
      · cases h
    · rename_i h2
      have e2 : (bAt s i / 32 == 6) = false := by simp [h2]
      rw [e2]
      simp only [Bool.false_and, Bool.false_eq_true, if_false]
      split at h
      · rename_i h4
        split at h
        · rename_i h5
          obtain ⟨k1, k1'⟩ := gk 1 h5.1
          obtain ⟨k2, k2'⟩ := gk 2 h5.2.1
          have e4 : (bAt s i / 16 == 14) = true := by simp [h4]
          rw [e4, k1', k2']
          simp only [Bool.and_self, if_true, k1, k2]
          have hv : Utf8.valid ((bAt s i % 16 * 4096 + bAt s (i + 1) % 64 * 64 + bAt s (i + 2) % 64 : Nat) : Int) = true := by
            have := h5.2.2.2
            have b0 := bAt_lt s i
            simp only [Utf8.valid, Bool.or_eq_true, Bool.and_eq_true, decide_eq_true_eq]
            omega
          have hv2 : (decide (2048 ≤ bAt s i % 16 * 4096 + bAt s (i + 1) % 64 * 64 + bAt s (i + 2) % 64) && Utf8.valid ((bAt s i % 16 * 4096 + bAt s (i + 1) % 64 * 64 + bAt s (i + 2) % 64 : Nat) : Int)) = true := by rw [hv]; simp [h5.2.2.1]
          rw [if_pos (by simpa using hv2)]
          cases h; rfl
        · cases h
      · rename_i h4
        have e4 : (bAt s i / 16 == 14) = false := by simp [h4]
        rw [e4]
        simp only [Bool.false_and, Bool.false_eq_true, if_false]
        split at h
        · rename_i h6
          split at h
          · rename_i h7
            obtain ⟨k1, k1'⟩ := gk 1 h7.1
            obtain ⟨k2, k2'⟩ := gk 2 h7.2.1
            obtain ⟨k3, k3'⟩ := gk 3 h7.2.2.1
            have e6 : (bAt s i / 8 == 30) = true := by simp [h6]
            rw [e6, k1', k2', k3']
            simp only [Bool.and_self, if_true, k1, k2, k3]
            have hv : Utf8.valid ((bAt s i % 8 * 262144 + bAt s (i + 1) % 64 * 4096 + bAt s (i + 2) % 64 * 64 + bAt s (i + 3) % 64 : Nat) : Int) = true := by
              have := h7.2.2.2
              simp only [Utf8.valid, Bool.or_eq_true, Bool.and_eq_true, decide_eq_true_eq]
              omega
            have hv2 : (decide (65536 ≤ bAt s i % 8 * 262144 + bAt s (i + 1) % 64 * 4096 + bAt s (i + 2) % 64 * 64 + bAt s (i + 3) % 64) && Utf8.valid ((bAt s i % 8 * 262144 + bAt s (i + 1) % 64 * 4096 + bAt s (i + 2) % 64 * 64 + bAt s (i + 3) % 64 : Nat) : Int)) = true := by rw [hv]; simp [h7.2.2.2.1]
            rw [if_pos (by simpa using hv2)]
            cases h; rfl
          · cases h
        · cases h

/-! the package utf -/
theorem byte_form : ∀ b : Fin 256, (Go.bits .and .u8 (b.val : Int) 128 = 0 ↔ b.val < 128) ∧ (Go.bits .and .u8 (b.val : Int) 224 = 192 ↔ b.val / 32 = 6) ∧ (Go.bits .and .u8 (b.val : Int) 240 = 224 ↔ b.val / 16 = 14) ∧ (Go.bits .and .u8 (b.val : Int) 248 = 240 ↔ b.val / 8 = 30) := by decide
theorem byte_rest : ∀ b : Fin 256, Go.bits .andNot .u8 (b.val : Int) 128 = (b.val % 128 : Nat) ∧ Go.bits .andNot .u8 (b.val : Int) 224 = (b.val % 32 : Nat) ∧ Go.bits .andNot .u8 (b.val : Int) 240 = (b.val % 16 : Nat) ∧ Go.bits .andNot .u8 (b.val : Int) 248 = (b.val % 8 : Nat) := by decide
theorem byte_cont : ∀ b : Fin 256, (Go.bits .and .u8 (b.val : Int) 192 = 128 ↔ b.val / 64 = 2) ∧ Go.bits .and .u8 (b.val : Int) 63 = (b.val % 64 : Nat) := by decide
theorem wrap_i32 {n : Int} (h0 : -2147483648 ≤ n) (h1 : n ≤ 2147483647) : IntKind.wrap .i32 n = n := by
  simp [IntKind.wrap, IntKind.min, IntKind.max, IntKind.signed, IntKind.bits]; omega
theorem bits_or (a b : Nat) (ha : a < 16777216) (hb : b < 64) : Go.bits .or .i32 ((a * 64 : Nat) : Int) (b : Int) = ((a * 64 + b : Nat) : Int) := by
  have h1 : (BitVec.ofInt 32 ((a * 64 : Nat) : Int)) = BitVec.ofNat 32 (a * 64) := BitVec.ofInt_natCast _ _
  have h2 : (BitVec.ofInt 32 (b : Int)) = BitVec.ofNat 32 b := BitVec.ofInt_natCast _ _
  have h3 : (BitVec.ofNat 32 (a * 64) ||| BitVec.ofNat 32 b).toNat = a * 64 + b := by
    rw [BitVec.toNat_or, BitVec.toNat_ofNat, BitVec.toNat_ofNat, Nat.mod_eq_of_lt (by omega), Nat.mod_eq_of_lt (by omega)]
    have := Nat.two_pow_add_eq_or_of_lt (i := 6) (b := b) (by omega) a
    have e6 : (2 : Nat) ^ 6 * a = a * 64 := by rw [Nat.mul_comm]
    rw [e6] at this
    omega
  show IntKind.wrap .i32 (((BitVec.ofInt 32 ((a * 64 : Nat) : Int)) ||| (BitVec.ofInt 32 (b : Int))).toNat : Int) = _
  rw [h1, h2, h3]
  exact wrap_i32 (by omega) (by omega)
theorem bits_or0 (v : Nat) (hv : v < 2147483648) : Go.bits .or .i32 (v : Int) 0 = (v : Int) := by
  have h1 : (BitVec.ofInt 32 (v : Int)) = BitVec.ofNat 32 v := BitVec.ofInt_natCast _ _
  have h2 : (BitVec.ofInt 32 (0 : Int)) = BitVec.ofNat 32 0 := by decide
  have h3 : (BitVec.ofNat 32 v ||| BitVec.ofNat 32 0).toNat = v := by
    rw [BitVec.toNat_or, BitVec.toNat_ofNat, BitVec.toNat_ofNat, Nat.mod_eq_of_lt (by omega)]
    simp
  show IntKind.wrap .i32 (((BitVec.ofInt 32 (v : Int)) ||| (BitVec.ofInt 32 (0 : Int))).toNat : Int) = _
  rw [h1, h2, h3]
  exact wrap_i32 (by omega) (by omega)
theorem uMore_step (s : ByteArray) (at_ n k v h : Nat) (hv : v < 16777216) : uMore s at_ n (k + 1) (v : Int) h = if contB s (at_ + h) = true then uMore s at_ n k ((v * 64 + bAt s (at_ + h) % 64 : Nat) : Int) (h + 1) else ((v : Int), h) := by
  have hb := bAt_lt s (at_ + h)
  obtain ⟨c1, c2⟩ := byte_cont ⟨bAt s (at_ + h), hb⟩
  simp only at c1 c2
  rw [uMore, strAt_eq, c2]
  have e1 : IntKind.wrap .i32 ((v : Int) * 2 ^ min (Int.toNat 6) 32) = ((v * 64 : Nat) : Int) := by
    have : (v : Int) * 2 ^ min (Int.toNat 6) 32 = ((v * 64 : Nat) : Int) := by
      rw [Int.natCast_mul]; rfl
    rw [this]
    exact wrap_i32 (by omega) (by omega)
  have e2 : IntKind.wrap .i32 ((bAt s (at_ + h) % 64 : Nat) : Int) = ((bAt s (at_ + h) % 64 : Nat) : Int) := wrap_i32 (by omega) (by omega)
  rw [e1, e2, bits_or v _ hv (Nat.mod_lt _ (by omega))]
  by_cases hc : contB s (at_ + h) = true
  · rw [if_pos hc, if_pos]
    rw [contB_iff] at hc
    exact ⟨hc.1, c1.2 hc.2⟩
  · rw [if_neg hc, if_neg]
    intro q
    exact hc (contB_iff.2 ⟨q.1, c1.1 q.2⟩)
theorem uSpan_0 (v : Nat) (hv : v < 2147483648) : uSpan (v : Int) 0 = ((v : Int), (v : Int)) := by
  have e1 : IntKind.wrap .i32 ((v : Int) * 2 ^ min (6 * (0 : Int)).toNat 32) = (v : Int) := by
    have : (v : Int) * 2 ^ min (6 * (0 : Int)).toNat 32 = (v : Int) := by simp
    rw [this]; exact wrap_i32 (by omega) (by omega)
  have e2 : IntKind.wrap .i32 (IntKind.wrap .i32 (1 * 2 ^ min (6 * (0 : Int)).toNat 32) - 1) = 0 := by decide
  rw [uSpan, e1, e2, bits_or0 v hv]
theorem uEnd_full (s : ByteArray) (at_ n v : Nat) (least : Int) (hv : v < 2147483648) : uEnd s at_ n least (v : Int) (n + 1) = if (v : Int) < least ∨ (1114111 : Int) < v ∨ ((55296 : Int) ≤ v ∧ (v : Int) ≤ 57343) then (0, 0, 2) else ((v : Int), ((n + 1 : Nat) : Int), 0) := by
  have e : ((n : Int) + 1 - ((n + 1 : Nat) : Int)) = 0 := by omega
  rw [uEnd, e, uSpan_0 v hv]
  simp only [if_true]
theorem uEnd_part (s : ByteArray) (at_ n h : Nat) (least v : Int) (hh : h ≠ n + 1) : (uEnd s at_ n least v h).2.2 ≠ 0 := by
  rw [uEnd]
  split
  · decide
  · split <;> (try decide)
theorem and_form (s : ByteArray) (i : Nat) : (Go.bits .and .u8 (strAt s i) 128 = 0 ↔ bAt s i < 128) ∧ (Go.bits .and .u8 (strAt s i) 224 = 192 ↔ bAt s i / 32 = 6) ∧ (Go.bits .and .u8 (strAt s i) 240 = 224 ↔ bAt s i / 16 = 14) ∧ (Go.bits .and .u8 (strAt s i) 248 = 240 ↔ bAt s i / 8 = 30) := byte_form ⟨bAt s i, bAt_lt s i⟩
theorem rest_form (s : ByteArray) (i : Nat) : Go.bits .andNot .u8 (strAt s i) 128 = (bAt s i % 128 : Nat) ∧ Go.bits .andNot .u8 (strAt s i) 224 = (bAt s i % 32 : Nat) ∧ Go.bits .andNot .u8 (strAt s i) 240 = (bAt s i % 16 : Nat) ∧ Go.bits .andNot .u8 (strAt s i) 248 = (bAt s i % 8 : Nat) := byte_rest ⟨bAt s i, bAt_lt s i⟩
/-- the package utf decodes by that law -/
theorem uRune_dec (s : ByteArray) (i : Nat) (hi : i < s.size) : (∀ c n, dec s i = some (c, n) → uRune s i = ((c : Int), (n : Int), 0)) ∧ (dec s i = none → (uRune s i).2.2 ≠ 0) := by
  have hb := bAt_lt s i
  obtain ⟨f1, f2, f3, f4⟩ := and_form s i
  obtain ⟨r1, r2, r3, r4⟩ := rest_form s i
  have w : ∀ n : Nat, n < 256 → IntKind.wrap .i32 (n : Int) = (n : Int) := fun n h => wrap_i32 (by omega) (by omega)
  have hu : uRune s i = uFrom s i 4 0 := by rw [uRune, if_pos hi]
  by_cases h1 : bAt s i < 128
  · have e : uRune s i = ((bAt s i : Int), 1, 0) := by
      rw [hu, uFrom, uForm, if_pos (f1.2 h1)]
      simp only
      rw [r1, w _ (by omega), uMore, Nat.mod_eq_of_lt h1]
      rw [uEnd_full s i 0 _ 0 (by omega), if_neg (by omega)]; rfl
    have d : dec s i = some (bAt s i, 1) := by rw [dec, if_pos h1]
    rw [d, e]
    refine ⟨fun c n h => ?_, fun h => by cases h⟩
    cases h; rfl
  have g1 : ¬ Go.bits .and .u8 (strAt s i) 128 = 0 := fun q => h1 (f1.1 q)
  by_cases h2 : bAt s i / 32 = 6
  · have e : uRune s i = uEnd s i 1 128 (uMore s i 1 1 ((bAt s i % 32 : Nat) : Int) 1).1 (uMore s i 1 1 ((bAt s i % 32 : Nat) : Int) 1).2 := by
      rw [hu, uFrom, uForm, if_neg g1, uFrom, uForm, if_pos (f2.2 h2)]
      simp only
      rw [r2, w _ (by omega)]
    have d : dec s i = if contB s (i + 1) = true ∧ 128 ≤ bAt s i % 32 * 64 + bAt s (i + 1) % 64 then some (bAt s i % 32 * 64 + bAt s (i + 1) % 64, 2) else none := by rw [dec, if_neg h1, if_pos h2]
    rw [uMore_step _ _ _ _ _ _ (by omega)] at e
    by_cases hc : contB s (i + 1) = true
    · rw [if_pos hc, uMore] at e
      simp only at e
      rw [uEnd_full s i 1 _ 128 (by omega)] at e
      by_cases hr : 128 ≤ bAt s i % 32 * 64 + bAt s (i + 1) % 64
      · rw [if_neg (by omega)] at e
        rw [if_pos ⟨hc, hr⟩] at d
        rw [d, e]
        exact ⟨fun c n h => by cases h; rfl, fun h => by cases h⟩
      · rw [if_pos (by omega)] at e
        rw [if_neg (fun q => hr q.2)] at d
        rw [d, e]
        exact ⟨fun c n h => (by cases h), fun _ => by decide⟩
    · rw [if_neg hc] at e
      rw [if_neg (fun q => hc q.1)] at d
      rw [d, e]
      exact ⟨fun c n h => (by cases h), fun _ => uEnd_part _ _ _ _ _ _ (by omega)⟩
  have g2 : ¬ Go.bits .and .u8 (strAt s i) 224 = 192 := fun q => h2 (f2.1 q)
  by_cases h3 : bAt s i / 16 = 14
  · have e : uRune s i = uEnd s i 2 2048 (uMore s i 2 2 ((bAt s i % 16 : Nat) : Int) 1).1 (uMore s i 2 2 ((bAt s i % 16 : Nat) : Int) 1).2 := by
      rw [hu, uFrom, uForm, if_neg g1, uFrom, uForm, if_neg g2, uFrom, uForm, if_pos (f3.2 h3)]
      simp only
      rw [r3, w _ (by omega)]
    rw [uMore_step _ _ _ _ _ _ (by omega)] at e
    by_cases hc : contB s (i + 1) = true
    · rw [if_pos hc, uMore_step _ _ _ _ _ _ (by omega)] at e
      by_cases hc2 : contB s (i + 2) = true
      · rw [if_pos hc2, uMore] at e
        simp only at e
        have ev : (bAt s i % 16 * 64 + bAt s (i + 1) % 64) * 64 + bAt s (i + 1 + 1) % 64 = bAt s i % 16 * 4096 + bAt s (i + 1) % 64 * 64 + bAt s (i + 2) % 64 := by
          show (bAt s i % 16 * 64 + bAt s (i + 1) % 64) * 64 + bAt s (i + 2) % 64 = _; omega
        rw [show i + (1 + 1) = i + 1 + 1 from rfl, ev, uEnd_full s i 2 _ 2048 (by omega)] at e
        by_cases hr : 2048 ≤ bAt s i % 16 * 4096 + bAt s (i + 1) % 64 * 64 + bAt s (i + 2) % 64 ∧ ¬(55296 ≤ bAt s i % 16 * 4096 + bAt s (i + 1) % 64 * 64 + bAt s (i + 2) % 64 ∧ bAt s i % 16 * 4096 + bAt s (i + 1) % 64 * 64 + bAt s (i + 2) % 64 ≤ 57343)
        · rw [if_neg (by omega)] at e
          have d : dec s i = some (bAt s i % 16 * 4096 + bAt s (i + 1) % 64 * 64 + bAt s (i + 2) % 64, 3) := by rw [dec, if_neg h1, if_neg h2, if_pos h3, if_pos ⟨hc, hc2, hr.1, hr.2⟩]
          rw [d, e]
          exact ⟨fun c n h => by cases h; rfl, fun h => by cases h⟩
        · rw [if_pos (by omega)] at e
          have d : dec s i = none := by rw [dec, if_neg h1, if_neg h2, if_pos h3, if_neg (fun q => hr q.2.2)]
          rw [d, e]
          exact ⟨fun c n h => (by cases h), fun _ => by decide⟩
      · rw [if_neg hc2] at e
        have d : dec s i = none := by rw [dec, if_neg h1, if_neg h2, if_pos h3, if_neg (fun q => hc2 q.2.1)]
        rw [d, e]
        exact ⟨fun c n h => (by cases h), fun _ => uEnd_part _ _ _ _ _ _ (by omega)⟩
    · rw [if_neg hc] at e
      have d : dec s i = none := by rw [dec, if_neg h1, if_neg h2, if_pos h3, if_neg (fun q => hc q.1)]
      rw [d, e]
      exact ⟨fun c n h => (by cases h), fun _ => uEnd_part _ _ _ _ _ _ (by omega)⟩
  have g3 : ¬ Go.bits .and .u8 (strAt s i) 240 = 224 := fun q => h3 (f3.1 q)
  by_cases h4 : bAt s i / 8 = 30
  · have e : uRune s i = uEnd s i 3 65536 (uMore s i 3 3 ((bAt s i % 8 : Nat) : Int) 1).1 (uMore s i 3 3 ((bAt s i % 8 : Nat) : Int) 1).2 := by
      rw [hu, uFrom, uForm, if_neg g1, uFrom, uForm, if_neg g2, uFrom, uForm, if_neg g3, uFrom, uForm, if_pos (f4.2 h4)]
      simp only
      rw [r4, w _ (by omega)]
      all_goals (intro q; omega)
    rw [uMore_step _ _ _ _ _ _ (by omega)] at e
    by_cases hc : contB s (i + 1) = true
    · rw [if_pos hc, uMore_step _ _ _ _ _ _ (by omega)] at e
      by_cases hc2 : contB s (i + 2) = true
      · rw [if_pos hc2, uMore_step _ _ _ _ _ _ (by omega)] at e
        by_cases hc3 : contB s (i + 3) = true
        · rw [if_pos hc3, uMore] at e
          simp only at e
          have ev : ((bAt s i % 8 * 64 + bAt s (i + 1) % 64) * 64 + bAt s (i + (1 + 1)) % 64) * 64 + bAt s (i + (1 + 1 + 1)) % 64 = bAt s i % 8 * 262144 + bAt s (i + 1) % 64 * 4096 + bAt s (i + 2) % 64 * 64 + bAt s (i + 3) % 64 := by
            show ((bAt s i % 8 * 64 + bAt s (i + 1) % 64) * 64 + bAt s (i + 2) % 64) * 64 + bAt s (i + 3) % 64 = _; omega
          rw [ev, uEnd_full s i 3 _ 65536 (by omega)] at e
          by_cases hr : 65536 ≤ bAt s i % 8 * 262144 + bAt s (i + 1) % 64 * 4096 + bAt s (i + 2) % 64 * 64 + bAt s (i + 3) % 64 ∧ bAt s i % 8 * 262144 + bAt s (i + 1) % 64 * 4096 + bAt s (i + 2) % 64 * 64 + bAt s (i + 3) % 64 ≤ 1114111
          · rw [if_neg (by omega)] at e
            have d : dec s i = some (bAt s i % 8 * 262144 + bAt s (i + 1) % 64 * 4096 + bAt s (i + 2) % 64 * 64 + bAt s (i + 3) % 64, 4) := by rw [dec, if_neg h1, if_neg h2, if_neg h3, if_pos h4, if_pos ⟨hc, hc2, hc3, hr.1, hr.2⟩]
            rw [d, e]
            exact ⟨fun c n h => by cases h; rfl, fun h => by cases h⟩
          · rw [if_pos (by omega)] at e
            have d : dec s i = none := by rw [dec, if_neg h1, if_neg h2, if_neg h3, if_pos h4, if_neg (fun q => hr q.2.2.2)]
            rw [d, e]
            exact ⟨fun c n h => (by cases h), fun _ => by decide⟩
        · rw [if_neg hc3] at e
          have d : dec s i = none := by rw [dec, if_neg h1, if_neg h2, if_neg h3, if_pos h4, if_neg (fun q => hc3 q.2.2.1)]
          rw [d, e]
          exact ⟨fun c n h => (by cases h), fun _ => uEnd_part _ _ _ _ _ _ (by omega)⟩
      · rw [if_neg hc2] at e
        have d : dec s i = none := by rw [dec, if_neg h1, if_neg h2, if_neg h3, if_pos h4, if_neg (fun q => hc2 q.2.1)]
        rw [d, e]
        exact ⟨fun c n h => (by cases h), fun _ => uEnd_part _ _ _ _ _ _ (by omega)⟩
    · rw [if_neg hc] at e
      have d : dec s i = none := by rw [dec, if_neg h1, if_neg h2, if_neg h3, if_pos h4, if_neg (fun q => hc q.1)]
      rw [d, e]
      exact ⟨fun c n h => (by cases h), fun _ => uEnd_part _ _ _ _ _ _ (by omega)⟩
  have g4 : ¬ Go.bits .and .u8 (strAt s i) 248 = 240 := fun q => h4 (f4.1 q)
  have e : uRune s i = (0, 0, 2) := by
    rw [hu, uFrom, uForm, if_neg g1, uFrom, uForm, if_neg g2, uFrom, uForm, if_neg g3, uFrom, uForm, if_neg g4, uFrom]
    all_goals (intro q; omega)
  have d : dec s i = none := by rw [dec, if_neg h1, if_neg h2, if_neg h3, if_neg h4]
  rw [d, e]
  exact ⟨fun c n h => (by cases h), fun _ => by decide⟩
end Go.Proofs.Ytcpolfjnbbodgaa.Ve
