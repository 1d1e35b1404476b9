/- More operations that leave the heap alone: slices, structs, maps that are asked, lengths, conversions. Conditions: none here. -/
import Derived.Test.YtcpolfjnbbodgaaVeOps
import Derived.Laws.Tables
namespace Go.Proofs.Ytcpolfjnbbodgaa.Ve
open Go Go.RowKit
set_option linter.unusedVariables false
set_option linter.unusedSimpArgs false

section
variable {P : Program} {base : Nat} {w0 : World} {φ : List Loc} {S : List Blk} {w : World}

/-! ### slices -/
theorem bnd_spec {x x' : Option Value} {d n : Nat} (h : bnd x d = some n) (hx : ∀ v v', x = some v → x' = some v' → VR φ v v') (hn : x.isSome = x'.isSome) :
    x' = x ∧ ((x = none ∧ n = d) ∨ ∃ k i, x = some (.int k i) ∧ 0 ≤ i ∧ n = i.toNat) := by
  unfold bnd at h
  split at h
  · cases h
    cases x' with
    | none => exact ⟨rfl, .inl ⟨rfl, rfl⟩⟩
    | some _ => simp at hn
  · rename_i k i _
    split at h
    · rename_i h0
      cases h
      cases x' with
      | none => simp at hn
      | some v' =>
        have := hx _ _ rfl rfl
        cases this
        exact ⟨rfl, .inr ⟨_, _, rfl, h0, rfl⟩⟩
    · cases h
  · cases h

theorem run_bounds {isSlice : Bool} {len cap : Nat} {lo hi : Option Value} {l h : Nat} (hl : (lo = none ∧ l = 0) ∨ ∃ k i, lo = some (.int k i) ∧ 0 ≤ i ∧ l = i.toNat)
    (hh : (hi = none ∧ h = len) ∨ ∃ k i, hi = some (.int k i) ∧ 0 ≤ i ∧ h = i.toNat) (h1 : l ≤ h) (h2 : h ≤ len) (h3 : len ≤ cap) (w : World) :
    (Instr.sliceBounds isSlice len cap lo hi none).run P w = .ok (l, h, cap) w := by
  have sb : ∀ k (i : Int) (y : Nat) code, 0 ≤ i → i.toNat ≤ y → (Instr.sliceBound (.int k i) y code).run P w = .ok i.toNat w := fun k i y code h0 hy => run_sliceBound w k i y code h0 (by omega)
  rcases hl with ⟨rfl, rfl⟩ | ⟨k, i, rfl, i0, rfl⟩ <;> rcases hh with ⟨rfl, rfl⟩ | ⟨k', j, rfl, j0, rfl⟩
  · simp [Instr.sliceBounds]
  · simp [Instr.sliceBounds, sb k' j cap _ j0 (by omega)]
  · simp [Instr.sliceBounds, sb k i h _ i0 (by omega)]
  · simp [Instr.sliceBounds, sb k' j cap _ j0 (by omega), sb k i j.toNat _ i0 (by omega)]
theorem run_bounds3 {isSlice : Bool} {len cap : Nat} {lo hi mx : Option Value} {l h : Nat} (hl : (lo = none ∧ l = 0) ∨ ∃ k i, lo = some (.int k i) ∧ 0 ≤ i ∧ l = i.toNat)
    (hh : ∃ k i, hi = some (.int k i) ∧ 0 ≤ i ∧ h = i.toNat) (hm : ∃ k i, mx = some (.int k i) ∧ 0 ≤ i ∧ h = i.toNat) (h1 : l ≤ h) (h2 : h ≤ len) (h3 : len ≤ cap) (w : World) :
    (Instr.sliceBounds isSlice len cap lo hi mx).run P w = .ok (l, h, h) w := by
  have sb : ∀ k (i : Int) (y : Nat) code, 0 ≤ i → i.toNat ≤ y → (Instr.sliceBound (.int k i) y code).run P w = .ok i.toNat w := fun k i y code h0 hy => run_sliceBound w k i y code h0 (by omega)
  obtain ⟨k', j, rfl, j0, rfl⟩ := hh
  obtain ⟨k2, m, rfl, m0, e⟩ := hm
  rcases hl with ⟨rfl, rfl⟩ | ⟨k, i, rfl, i0, rfl⟩
  · simp [Instr.sliceBounds, sb k2 m cap _ m0 (by omega), sb k' j m.toNat _ j0 (by omega)]
    omega
  · simp [Instr.sliceBounds, sb k2 m cap _ m0 (by omega), sb k' j m.toNat _ j0 (by omega), sb k i j.toNat _ i0 (by omega)]
    omega

theorem szAt_spec {H : Heap} (hW : WR base w0 φ H.bs w) {b size : Nat} (h : szAt H b = some size) {l : Loc} (hl : φ[b]? = some l) : l.sz = size := by
  unfold szAt at h
  split at h
  · rename_i c own sz hg
    cases h
    obtain ⟨l', hl', hbr⟩ := hW.loc hg
    rw [hl] at hl'; cases hl'
    exact hbr.1
  · cases h

theorem slice_sound {H : Heap} {t : TypeId} {x x' v : Value} {lo hi mx lo' hi' mx' : Option Value} (hW : WR base w0 φ H.bs w) (h : sliceA P H t x lo hi mx = some v) (hx : VR φ x x')
    (hlo : (∀ v v', lo = some v → lo' = some v' → VR φ v v') ∧ lo.isSome = lo'.isSome) (hhi : (∀ v v', hi = some v → hi' = some v' → VR φ v v') ∧ hi.isSome = hi'.isSome)
    (hmx : (∀ v v', mx = some v → mx' = some v' → VR φ v v') ∧ mx.isSome = mx'.isSome) :
    ∃ v', VR φ v v' ∧ ∀ w', (Instr.sliceAt t x' lo' hi' mx').run P w' = .ok v' w' := by
  unfold sliceA at h
  split at h
  · rename_i s hu
    cases hx
    split at h
    rotate_left
    · cases h
    rename_i l hh hl1 hh1 
    split at h
    rotate_left
    · cases h
    rename_i hb
    cases h
    obtain ⟨rfl, L⟩ := bnd_spec hl1 hlo.1 hlo.2
    obtain ⟨rfl, R⟩ := bnd_spec hh1 hhi.1 hhi.2
    obtain rfl : mx' = none := by cases mx' <;> simp at hmx ⊢
    refine ⟨_, .string _, fun w' => ?_⟩
    simp [Instr.sliceAt, Instr.slice, run_underlying hu, run_bounds L R hb.1 hb.2 (Nat.le_refl _)]
  · rename_i e a n c hu
    split at h
    rotate_left
    · cases h
    rename_i size l hh hs hl1 hh1
    split at h
    · cases h
    rename_i hsz
    split at h
    rotate_left
    · cases h
    rename_i hb
    obtain ⟨rfl, L⟩ := bnd_spec hl1 hlo.1 hlo.2
    obtain ⟨rfl, R⟩ := bnd_spec hh1 hhi.1 hhi.2
    split at h
    · -- no third index
      obtain rfl : mx' = none := by cases mx' <;> simp at hmx ⊢
      have run : ∀ a' (cap : Nat), n ≤ cap → ∀ w', (Instr.sliceAt t (.slice a' n cap) lo' hi' none).run P w' = .ok (.slice (if cap = l then a' else a'.map (·.add (l * size))) (hh - l) (cap - l)) w' := by
        intro a' cap hc w'
        simp [Instr.sliceAt, Instr.slice, run_underlying hu, run_bounds L R hb.1 hb.2 hc, run_sizeOf' hs]
      split at h
      · cases h
        cases hx
        exact ⟨_, .nilslice, fun w' => by rw [run _ _ (Nat.le_refl _)]; simp; omega⟩
      · rename_i b o
        by_cases hn0 : n = 0
        · subst hn0
          rw [if_pos rfl] at h
          cases h
          have e0 : l = 0 := by omega
          have e1 : hh = 0 := by omega
          subst e0 e1
          cases hx with
          | slice0 => exact ⟨.slice (some _) 0 0, .slice0, fun w' => by rw [run _ _ (Nat.le_refl _)]; simp; rfl⟩
          | exact hl => exact ⟨.slice (some _) 0 0, .slice0, fun w' => by rw [run _ _ (Nat.le_refl _)]; simp; rfl⟩
          | slice hl hn hc =>
            rename_i c' lc
            by_cases hc0 : c' = 0
            · subst hc0; exact ⟨.slice (some _) 0 0, .slice0, fun w' => by rw [run _ _ (Nat.le_refl _)]; simp; rfl⟩
            · refine ⟨_, ?_, fun w' => run _ _ hn w'⟩
              rw [if_neg hc0]
              simp only [Option.map_some, Addr.add_none, Nat.add_assoc, Nat.zero_mul, Nat.add_zero, Nat.sub_zero]
              exact .slice hl (Nat.zero_le _) hc
        rw [if_neg hn0] at h
        split at h
        · cases h
        rename_i hsa
        have hsa : szAt H b = some size := Decidable.not_not.1 hsa
        split at h
        · rename_i hcn
          subst hcn
          split at h
          rotate_left
          · cases h
          rename_i hhn
          subst hhn
          cases h
          cases hx with
          | slice0 =>
            have h0 : l = 0 := by omega
            subst h0
            exact ⟨.slice (some _) 0 0, .slice0, fun w' => by rw [run _ _ (Nat.le_refl _)]; simp; rfl⟩
          | exact hl =>
            rename_i lc
            by_cases hcl : hh = l
            · subst hcl
              refine ⟨_, ?_, fun w' => run _ _ (Nat.le_refl _) w'⟩
              rw [if_pos rfl]
              have : hh - hh = 0 := by omega
              rw [this]; exact .slice0
            · refine ⟨_, ?_, fun w' => run _ _ (Nat.le_refl _) w'⟩
              rw [if_neg hcl]
              simp only [Option.map_some, Addr.add_none, Nat.add_assoc]
              exact .exact hl
        · rename_i hcn
          cases h
          cases hx with
          | slice0 =>
            have h0 : l = 0 := by omega
            have h1 : hh = 0 := by omega
            subst h0 h1
            exact ⟨.slice (some _) 0 0, .slice0, fun w' => by rw [run _ _ (Nat.le_refl _)]; simp; rfl⟩
          | exact hl => exact absurd rfl hcn
          | slice hl hn hc =>
            rename_i c' lc
            refine ⟨_, ?_, fun w' => run _ _ hn w'⟩
            by_cases hcl : c' = l
            · subst hcl
              rw [if_pos rfl]
              have e1 : hh - c' = 0 := by omega
              have e2 : c' - c' = 0 := by omega
              rw [e1, e2]; exact .slice0
            · rw [if_neg hcl]
              simp only [Option.map_some, Addr.add_none, Nat.add_assoc]
              refine .slice hl (by omega) ?_
              have hz := szAt_spec hW hsa hl
              rw [hz] at hc ⊢
              have : o + l * size + (c' - l) * size = o + c' * size := by
                have : l ≤ c' := by omega
                rw [Nat.add_assoc, ← Nat.add_mul, Nat.add_sub_cancel' this]
              omega
      · cases h
    · rename_i m
      split at h
      rotate_left
      · cases h
      rename_i hm1
      obtain ⟨rfl, M⟩ := bnd_spec hm1.1 hmx.1 hmx.2
      have M' : ∃ k i, some m = some (.int k i) ∧ 0 ≤ i ∧ hh = i.toNat := by
        rcases M with ⟨h1, _⟩ | h1
        · cases h1
        · exact h1
      have R' : hi'.isSome → ∃ k i, hi' = some (.int k i) ∧ 0 ≤ i ∧ hh = i.toNat := by
        intro hs'
        rcases R with ⟨h1, _⟩ | h1
        · subst h1; cases hs'
        · exact h1
      have run : ∀ a' (cap : Nat), n ≤ cap → ∀ w', (Instr.sliceAt t (.slice a' n cap) lo' hi' (some m)).run P w' = .ok (.slice (if hh = l then a' else a'.map (·.add (l * size))) (hh - l) (hh - l)) w' := by
        intro a' cap hc w'
        simp [Instr.sliceAt, Instr.slice, run_underlying hu, run_bounds3 L (R' hm1.2) M' hb.1 hb.2 hc, run_sizeOf' hs]
      split at h
      · cases h
        cases hx
        exact ⟨_, .nilslice, fun w' => by rw [run _ _ (Nat.le_refl _)]; simp; omega⟩
      · rename_i b o
        cases h
        have fin : ∀ a' (cap : Nat), n ≤ cap → (hh = l ∨ ∃ lc : Loc, φ[b]? = some lc ∧ a' = some ⟨lc.blk, lc.off + o, none⟩) → a'.isSome →
            ∃ v', VR φ (.slice (some ⟨b, o + l * size, none⟩) (hh - l) (hh - l)) v' ∧ ∀ w', (Instr.sliceAt t (.slice a' n cap) lo' hi' (some m)).run P w' = .ok v' w' := by
          intro a' cap hc hor hsm
          refine ⟨_, ?_, fun w' => run _ _ hc w'⟩
          by_cases hcl : hh = l
          · subst hcl
            rw [if_pos rfl]
            have : hh - hh = 0 := by omega
            rw [this]
            cases a' with
            | none => cases hsm
            | some a' => exact .slice0
          · rw [if_neg hcl]
            rcases hor with h1 | ⟨lc, hl, rfl⟩
            · exact absurd h1 hcl
            · simp only [Option.map_some, Addr.add_none, Nat.add_assoc]
              exact .exact hl
        cases hx with
        | slice0 => exact fin _ _ (Nat.le_refl _) (.inl (by omega)) rfl
        | exact hl => exact fin _ _ (Nat.le_refl _) (.inr ⟨_, hl, rfl⟩) rfl
        | slice hl hn hc => exact fin _ _ hn (.inr ⟨_, hl, rfl⟩) rfl
      · cases h
  · cases h

/-! ### structs, made of parts -/
theorem splice_length (c : List Value) (o : Nat) (xs : List Value) : (splice c o xs).length = c.length := by
  induction xs generalizing c o with
  | nil => rfl
  | cons x xs ih => simp [splice, ih]
theorem VRs.splice {a b xs ys : List Value} (h : VRs φ a b) (o : Nat) (k : VRs φ xs ys) : VRs φ (Ve.splice a o xs) (Ve.splice b o ys) := by
  induction xs generalizing a b o ys with
  | nil => rw [k.of_nil]; exact h
  | cons x xs ih =>
    obtain ⟨y, ys, rfl, h1, h2⟩ := k.of_cons
    exact ih (h.set o h1) (o + 1) h2

theorem foldl_splice (l : List Value) : ∀ (k off : Nat) (cs : Array Value), (l.zipIdx k).foldl (fun cs (c, j) => cs.setIfInBounds (off + j) c) cs = (splice cs.toList (off + k) l).toArray := by
  induction l with
  | nil => intro k off cs; simp [splice]
  | cons x xs ih =>
    intro k off cs
    simp only [List.zipIdx_cons, List.foldl_cons, ih, splice]
    congr 1
    rw [Array.toList_setIfInBounds]
    rw [Nat.add_assoc]

/-- parts: the same places, values alike -/
def Parts (φ : List Loc) (a b : List (Nat × Value)) : Prop := a.length = b.length ∧ ∀ (i : Nat) x y, a[i]? = some x → b[i]? = some y → x.1 = y.1 ∧ VR φ x.2 y.2
theorem Parts.of_cons {i : Nat} {x : Value} {xs zs : List (Nat × Value)} (h : Parts φ ((i, x) :: xs) zs) : ∃ y ys, zs = (i, y) :: ys ∧ VR φ x y ∧ Parts φ xs ys := by
  cases zs with
  | nil => have := h.1; simp at this
  | cons y ys =>
    obtain ⟨j, y⟩ := y
    have h0 := h.2 0 (i, x) (j, y) (by simp) (by simp)
    simp only at h0
    obtain ⟨rfl, hv⟩ := h0
    exact ⟨y, ys, rfl, hv, by have := h.1; simpa using this, fun k a b p q => h.2 (k + 1) a b (by simpa using p) (by simpa using q)⟩
theorem Parts.of_nil {zs : List (Nat × Value)} (h : Parts φ [] zs) : zs = [] := by
  have := h.1; cases zs with
  | nil => rfl
  | cons _ _ => simp at this

theorem fill_sound {place : Nat → Option (Nat × Nat)} {parts parts' : List (Nat × Value)} : ∀ {cs cs' l : List Value}, fillL place cs parts = some l → VRs φ cs cs' → Parts φ parts parts' →
    ∃ l', Instr.fill place cs'.toArray parts' = some l'.toArray ∧ VRs φ l l' := by
  induction parts generalizing parts' with
  | nil =>
    intro cs cs' l h hc hp
    rw [hp.of_nil]
    simp only [fillL, Option.some.injEq] at h
    subst h
    exact ⟨cs', rfl, hc⟩
  | cons p parts ih =>
    intro cs cs' l h hc hp
    obtain ⟨i, x⟩ := p
    obtain ⟨y, ys, rfl, hv, hp'⟩ := hp.of_cons
    simp only [fillL] at h
    cases hpl : place i with
    | none => simp [hpl] at h
    | some q =>
      obtain ⟨off, size⟩ := q
      simp only [hpl] at h
      split at h
      · cases h
      rename_i hcond
      have hsz : y.cells.toList.length = x.cells.toList.length := hv.cells.1.symm
      have hlen := hc.1
      obtain ⟨l', e1, e2⟩ := ih h (hc.splice off hv.cells) hp'
      refine ⟨l', ?_, e2⟩
      simp only [Instr.fill, hpl]
      have hy : y.cells.size = size := by
        have : y.cells.toList.length = y.cells.size := by simp
        omega
      have hcond' : ((decide (y.cells.size ≠ size)) || decide (off + y.cells.size > cs'.toArray.size)) = false := by
        simp only [hy, ne_eq, not_true_eq_false, decide_false, Bool.false_or, decide_eq_false_iff_not, List.size_toArray]
        omega
      rw [hcond']
      simp only [Bool.false_eq_true, if_false]
      rw [← e1]
      congr 1
      rw [← Array.foldl_toList, Array.toList_zipIdx, foldl_splice]
      simp

theorem build_sound {t : TypeId} {parts parts' : List (Nat × Value)} {v : Value} (h : buildA P t parts = some v) (hp : Parts φ parts parts') :
    ∃ v', VR φ v v' ∧ ∀ w, (Instr.build t parts'.toArray).run P w = .ok v' w := by
  unfold buildA at h
  have zspec : ∀ z, tZero P t = some z → ∃ it zv, P.info? t = some it ∧ it.zero = some zv ∧ zv.cells.toList = z ∧ z.all Ve.na0 = true := by
    intro z hz
    unfold tZero at hz
    cases hi : P.info? t with
    | none => simp [hi] at hz
    | some it =>
      cases hzz : it.zero with
      | none => simp [hi, hzz] at hz
      | some zv =>
        simp only [hi, hzz, Option.bind_some] at hz
        split at hz
        · rename_i hc; cases hz
          simp only [Bool.and_eq_true] at hc
          exact ⟨it, zv, rfl, hzz, rfl, hc.1⟩
        · cases hz
  split at h
  · rename_i z ps hz hpl
    obtain ⟨it, zv, hi, hzz, rfl, hna⟩ := zspec z hz
    simp only [Option.map_eq_some_iff] at h
    obtain ⟨l, hl, rfl⟩ := h
    obtain ⟨l', e1, e2⟩ := fill_sound hl (VRs.na0 hna) hp
    refine ⟨_, VR.toAgg e2, fun w => run_build w t _ _ ?_⟩
    unfold tPlc at hpl
    split at hpl
    · rename_i fs hu
      simp only [Option.map_eq_some_iff] at hpl
      obtain ⟨ps', hps, he⟩ := hpl
      cases he
      have hps' : fs.toList.mapM (fun f => (P.info? f.type).map fun i => (f.offset, i.size)) = some ps := by
        rw [← hps]
        congr 1
        funext f
        simp [tSize, Option.map_map, Function.comp_def]
      simp only [Program.built, hi, hu, hzz, hps']
      simpa using e1
    · rename_i n e hu
      simp at hpl
    · cases hpl
  · rename_i z s hz hpl
    obtain ⟨it, zv, hi, hzz, rfl, hna⟩ := zspec z hz
    simp only [Option.map_eq_some_iff] at h
    obtain ⟨l, hl, rfl⟩ := h
    obtain ⟨l', e1, e2⟩ := fill_sound hl (VRs.na0 hna) hp
    refine ⟨_, VR.toAgg e2, fun w => run_build w t _ _ ?_⟩
    unfold tPlc at hpl
    split at hpl
    · simp at hpl
    · rename_i n e hu
      simp only [Option.map_eq_some_iff] at hpl
      obtain ⟨s', hs, he⟩ := hpl
      cases he
      unfold tSize at hs
      cases hie : P.info? e with
      | none => simp [hie] at hs
      | some ie =>
        simp [hie] at hs
        subst hs
        simp only [Program.built, hi, hu, hzz, hie]
        simpa using e1
    · cases hpl
  · cases h

/-! ### lengths; the greatest, the least -/
theorem len_sound {H : Heap} {ts : List TypeId} {x x' v : Value} (hW : WR base w0 φ H.bs w) (h : lenA P H ts x = some v) (hx : VR φ x x') (ty : TypeId) :
    ∃ v', VR φ v v' ∧ ∀ w', Cls base w0 φ H.bs w w' → (Builtin.len_ ts.toArray ty #[x']).run P w' = .ok v' w' := by
  unfold lenA at h
  have hd : ∀ d, ts.head?.bind P.underlying = some d → ∃ t, ts.toArray[0]? = some t ∧ P.underlying t = some d := by
    intro d hd
    cases ts with
    | nil => simp at hd
    | cons t ts => exact ⟨t, by simp, by simpa using hd⟩
  split at h
  · rename_i s hu
    obtain ⟨t, ht, hu⟩ := hd _ hu
    cases h; cases hx
    exact ⟨_, .int _ _, fun w' _ => by simp [Builtin.len_, ht, run_underlying hu, goInt]⟩
  · rename_i e a n c hu
    obtain ⟨t, ht, hu⟩ := hd _ hu
    cases h
    cases hx <;> exact ⟨_, .int _ _, fun w' _ => by simp [Builtin.len_, ht, run_underlying hu, goInt]⟩
  · rename_i n e x hu
    obtain ⟨t, ht, hu⟩ := hd _ hu
    cases h
    exact ⟨_, .int _ _, fun w' _ => by simp [Builtin.len_, ht, run_underlying hu, goInt]⟩
  · rename_i k e hu
    obtain ⟨t, ht, hu⟩ := hd _ hu
    cases h; cases hx
    exact ⟨_, .int _ _, fun w' _ => by simp [Builtin.len_, ht, run_underlying hu, goInt]⟩
  · rename_i k e b hu
    obtain ⟨t, ht, hu⟩ := hd _ hu
    split at h
    rotate_left
    · cases h
    rename_i es hg
    cases h
    cases hx with
    | map hl =>
      rename_i l
      obtain ⟨l', hl', hbr⟩ := hW.loc hg
      rw [hl] at hl'; cases hl'
      obtain ⟨hb, es', cl, h1, h2, h3⟩ := hbr
      refine ⟨_, .int _ _, fun w' hc => ?_⟩
      have hh : w'.heap[l.blk]? = some (.map es' cl) := by rw [hc.same _ _ l hg (by simp) hl]; exact h1
      simp [Builtin.len_, ht, run_underlying hu, getObj, Sem.run, hh, goInt, h2]
  · cases h

theorem minMax_sound {mx : Bool} : ∀ {xs : List Value} {v : Value}, minMax mx xs = some v → ∀ ys, VRs φ xs ys → ∃ y rest, ys = y :: rest ∧ VR φ v v ∧ ∀ w, (rest.foldlM (if mx then Builtin.max2 else Builtin.min2) y).run P w = .ok v w := by
  intro xs
  induction hn : xs.length using Nat.strongRecOn generalizing xs with
  | _ n ih =>
    intro v h ys hy
    unfold minMax at h
    split at h
    · cases h
      obtain ⟨y, ys, rfl, h1, h2⟩ := hy.of_cons
      rw [h2.of_nil]
      cases h1
      exact ⟨_, [], rfl, .int _ _, fun w => by simp⟩
    · rename_i k a k' b rest
      split at h
      rotate_left
      · cases h
      rename_i hk; subst hk
      obtain ⟨y, ys, rfl, h1, h2⟩ := hy.of_cons
      obtain ⟨y2, ys, rfl, h3, h4⟩ := h2.of_cons
      cases h1; cases h3
      obtain ⟨y3, rest3, e, hv, hr⟩ := ih _ (by simp at hn ⊢; omega) rfl h (_ :: ys) (.cons (.int k _) h4)
      obtain ⟨rfl, rfl⟩ := List.cons.inj e
      refine ⟨_, _, rfl, hv, fun w => ?_⟩
      rw [List.foldlM_cons, Sem.run_bind]
      have : ((if mx then Builtin.max2 else Builtin.min2) (.int k a) (.int k b)).run P w = .ok (.int k (if mx then (if b > a then b else a) else (if b < a then b else a))) w := by
        cases mx <;> rfl
      rw [this, Result.andThen_ok]
      exact hr w
    · cases h

/-! ### maps -/
theorem bytes_beq (s : ByteArray) : (s == s) = true := by rw [beq_toListBytes]; simp
theorem leaf_eq {k : Leaf} {x : Value} (h : leafOk k x = true) : cellEq k x x = some true := by
  unfold leafOk at h
  split at h
  · simp [cellEq]
  · simp [cellEq]
  · simp [cellEq, bytes_beq]
  · cases h
theorem leaves_eq {ks : List Leaf} {xs : List Value} (h : leavesOk ks xs = true) : cellsEq ks xs xs = some true := by
  induction ks generalizing xs with
  | nil =>
    cases xs with
    | nil => rfl
    | cons _ _ => cases h
  | cons k ks ih =>
    cases xs with
    | nil => cases h
    | cons x xs =>
      simp only [leavesOk, Bool.and_eq_true] at h
      simp [cellsEq, leaf_eq h.1, ih h.2]

theorem flat_tagg {d : Nat} {t : TypeId} {ks : List Leaf} (h : tFlat P d t = some ks) : ∃ q, tAgg P t = some q := by
  cases d with
  | zero => cases h
  | succ d =>
    unfold tAgg; unfold tFlat at h
    split at h <;> rename_i hu' <;> first | exact ⟨_, by rw [hu']⟩ | cases h
theorem flat_one {d : Nat} {t : TypeId} {ks : List Leaf} (h : tFlat P d t = some ks) (hq : tAgg P t = some false) : ∃ k, ks = [k] := by
  cases d with
  | zero => cases h
  | succ d => obtain ⟨k, hk, _⟩ := flat_scalar h hq; exact ⟨k, hk⟩

theorem checkKey_scalar {empty : Bool} {d : Nat} {t : TypeId} {ks : List Leaf} (h : tFlat P d t = some ks) (hq : tAgg P t = some false) (D : Nat) (v : Value) (w : World) {k : Leaf} (hv : cellEq k v v = some true) :
    (Instr.checkKey empty (D + 1) t v).run P w = .ok () w := by
  cases d with
  | zero => cases h
  | succ d =>
    unfold tAgg at hq; unfold tFlat at h
    unfold cellEq at hv
    split at h <;> rename_i hu <;> (try rw [hu] at hq) <;> first | (cases hq; done) | (cases h; done) | skip
    all_goals
      split at hv <;> first | (cases hv; done) | simp [Instr.checkKey, run_underlying hu]

theorem checkKey_agg {empty : Bool} : ∀ {d : Nat} {t : TypeId} {ks : List Leaf}, tFlat P d t = some ks → tAgg P t = some true → ∀ D, d ≤ D → ∀ (xs : Array Value) (w : World),
    cellsEq ks xs.toList xs.toList = some true → (Instr.checkKey empty D t (.agg xs)).run P w = .ok () w := by
  intro d
  induction d with
  | zero => intro t ks h; cases h
  | succ d ih =>
    intro t ks h hq D hD xs w hc
    obtain ⟨D, rfl⟩ : ∃ m, D = m + 1 := ⟨D - 1, by omega⟩
    unfold tAgg at hq; unfold tFlat at h
    split at h <;> rename_i hu <;> (try rw [hu] at hq) <;> first | (cases hq; done) | (cases h; done) | skip
    rename_i fs
    split at h
    · cases h
    simp only [Instr.checkKey, Sem.run_bind, run_underlying hu, Result.andThen_ok]
    rw [← Array.forIn_toList]
    have key : ∀ (fl : List Field) (n : Nat) (r : List Leaf), flatFs P (tFlat P d) fl n = some r → cellsEq r (xs.toList.drop n) (xs.toList.drop n) = some true →
        (Sem.run P (forIn fl PUnit.unit fun f __s =>
            if f.name ≠ "_" then do
              let __do_lift ← part f.type xs f.offset
              Instr.checkKey empty D f.type __do_lift
              pure (ForInStep.yield PUnit.unit)
            else pure (ForInStep.yield PUnit.unit)) w) = .ok PUnit.unit w := by
      intro fl
      induction fl with
      | nil => intro n r h1 h2; rfl
      | cons f fl ihf =>
        intro n r h1 h2
        simp only [flatFs] at h1
        split at h1
        rotate_left
        · cases h1
        rename_i hn
        split at h1
        rotate_left
        · cases h1
        rename_i m hm
        split at h1
        rotate_left
        · cases h1
        rename_i hs
        simp only [Option.map_eq_some_iff] at h1
        obtain ⟨r', hr', rfl⟩ := h1
        obtain ⟨b1, b2, e1, e2, e3⟩ := cellsEq_append h2
        obtain ⟨rfl, rfl⟩ : b1 = true ∧ b2 = true := by cases b1 <;> cases b2 <;> simp at e3 ⊢
        rw [List.drop_drop] at e2
        have ihf' := ihf _ _ hr' e2
        have hln := cellsEq_length e1
        have hstep : ∃ a, (part f.type xs f.offset).run P w = .ok a w ∧ (Instr.checkKey empty D f.type a).run P w = .ok () w := by
          obtain ⟨q, hq'⟩ := flat_tagg hm
          cases q with
          | true =>
            refine ⟨.agg (xs.extract f.offset (f.offset + m.length)), by simp [part, run_isAgg' hq', run_sizeOf' hs], ih hm hq' D (by omega) _ w ?_⟩
            rw [hn.2]
            simpa [List.take_drop] using e1
          | false =>
            obtain ⟨k, rfl⟩ := flat_one hm hq'
            obtain ⟨D', rfl⟩ : ∃ z, D = z + 1 := ⟨D - 1, by cases d with
              | zero => cases hm
              | succ d => omega⟩
            simp only [List.length_cons, List.length_nil, Nat.zero_add] at e1 hln
            obtain ⟨x, hx⟩ : ∃ x, (xs.toList.drop n).take 1 = [x] := List.length_eq_one_iff.1 hln.1
            rw [hx] at e1
            have hx' : xs[f.offset]? = some x := by
              have : ((xs.toList.drop n).take 1)[0]? = some x := by rw [hx]; rfl
              rw [hn.2]; simpa [List.getElem?_take, List.getElem?_drop] using this
            refine ⟨x, by simp [part, run_isAgg' hq', hx'], checkKey_scalar hm hq' D' x w (k := k) ?_⟩
            unfold cellsEq at e1
            cases hce : cellEq k x x with
            | none => simp [hce] at e1
            | some z => simp [hce, cellsEq] at e1; rw [e1]
        obtain ⟨a, s1, s2⟩ := hstep
        rw [List.forIn_cons]
        simp only [hn.1, ne_eq, not_false_eq_true, if_true, Sem.run_bind, s1, s2, Result.andThen_ok, Sem.run_pure]
        simpa using ihf'
    rw [key fs.toList 0 ks h (by simpa using hc)]
    rfl

theorem keyFit_check {kt : TypeId} {k : Value} (h : keyFit P kt k = true) (empty : Bool) (w : World) : (Instr.checkKey empty 10000 kt k).run P w = .ok () w := by
  unfold keyFit at h
  split at h
  · rename_i ks cs hc ha
    exact checkKey_agg (tCmp_spec hc).2 ha 10000 (by omega) cs w (leaves_eq h)
  · rename_i ks hc ha
    obtain ⟨kk, rfl⟩ := flat_one (tCmp_spec hc).2 ha
    simp only [leavesOk, Bool.and_true] at h
    exact checkKey_scalar (tCmp_spec hc).2 ha 9999 _ w (leaf_eq h)
  · cases h
theorem keyFit_same {kt : TypeId} {k k' : Value} (h : keyFit P kt k = true) (hv : VR φ k k') : k' = k := by
  unfold keyFit at h
  split at h
  · rename_i ks cs hc ha
    cases hv with
    | agg e1 e2 =>
      have := (cellsEq_vr (leaves_eq h) ⟨e1, e2⟩ ⟨e1, e2⟩).1
      rw [Array.toList_inj.1 this]
  · rename_i ks hc ha
    obtain ⟨kk, rfl⟩ := flat_one (tCmp_spec hc).2 ha
    simp only [leavesOk, Bool.and_true] at h
    exact (cellEq_vr (leaf_eq h) hv hv).1
  · cases h

/-- equal keys of a plain type are the same -/
theorem cellEq_true {k : Leaf} {x y : Value} (h : cellEq k x y = some true) : x = y := by
  unfold cellEq at h
  split at h
  · simp only [Option.some.injEq, beq_iff_eq] at h; rw [h]
  · split at h
    · rename_i hk; subst hk; simp only [Option.some.injEq, beq_iff_eq] at h; rw [h]
    · cases h
  · simp only [Option.some.injEq] at h
    rw [beq_toListBytes, beq_iff_eq, ByteArray.toList_eq, ByteArray.toList_eq] at h
    have h2 := Array.toList_inj.1 h
    rename_i a b
    obtain ⟨a⟩ := a; obtain ⟨b⟩ := b
    simp only at h2
    rw [h2]
  · cases h
theorem cellsEq_true {ks : List Leaf} {xs ys : List Value} (h : cellsEq ks xs ys = some true) : xs = ys := by
  induction ks generalizing xs ys with
  | nil => cases xs <;> cases ys <;> first | rfl | cases h
  | cons k ks ih =>
    cases xs with
    | nil => cases h
    | cons x xs =>
      cases ys with
      | nil => cases h
      | cons y ys =>
        simp only [cellsEq] at h
        split at h
        · rename_i a b h1 h2
          obtain ⟨rfl, rfl⟩ : a = true ∧ b = true := by cases a <;> cases b <;> simp at h ⊢
          rw [cellEq_true h1, ih h2]
        · cases h

theorem cellEq_na {k : Leaf} {x y : Value} {b : Bool} (h : cellEq k x y = some b) : Ve.na0 x = true := by
  unfold cellEq at h
  split at h <;> first | rfl | cases h
theorem cellsEq_na {ks : List Leaf} {xs ys : List Value} {b : Bool} (h : cellsEq ks xs ys = some b) : ∀ (i : Nat) (x : Value), xs[i]? = some x → ∃ _z : Unit, xs = xs ∧ Ve.na0 x = true := by
  induction ks generalizing xs ys b with
  | nil => cases xs <;> cases ys <;> first | (intro i x hx; simp at hx; done) | cases h
  | cons k ks ih =>
    cases xs with
    | nil => cases h
    | cons x xs =>
      cases ys with
      | nil => cases h
      | cons y ys =>
        simp only [cellsEq] at h
        split at h
        · rename_i a b h1 h2
          intro i z hz
          cases i with
          | zero => simp at hz; subst hz; exact ⟨(), rfl, cellEq_na h1⟩
          | succ i => obtain ⟨_, _, h3⟩ := ih h2 i z (by simpa using hz); exact ⟨(), rfl, h3⟩
        · cases h

/-- what '==' says of keys, the model says -/
theorem key_eq {kt : TypeId} {k x x' : Value} {b : Bool} (h : keyEq P kt k x = some b) (hx : VR φ x x') :
    x' = x ∧ (∀ w, (Op.equal kt k x').run P w = .ok b w) ∧ (b = true → x = k) := by
  unfold keyEq at h
  split at h
  · rename_i ks hc ha
    split at h
    · rename_i xs ys
      cases hx with
      | agg e1 e2 =>
        have hy := (cellsEq_vr (φ := φ) (xs' := xs.toList) h ⟨rfl, fun i p q h1 h2 => ?_⟩ ⟨e1, e2⟩).2
        · obtain rfl := Array.toList_inj.1 hy
          exact ⟨rfl, fun w => flat_agg (tCmp_spec hc).2 ha 10000 (by omega) _ _ b w h, fun hb => by subst hb; rw [Array.toList_inj.1 (cellsEq_true h)]⟩
        · rw [h1] at h2; cases h2
          obtain ⟨z, _, hz⟩ := cellsEq_na h _ _ h1
          exact VR.na0 hz
    · cases h
  · rename_i kk hc ha
    obtain ⟨k1, e, hk⟩ := flat_scalar (d := 8) (tCmp_spec hc).2 ha
    cases e
    have := (cellEq_vr h (VR.na0 (cellEq_na h)) hx).2
    subst this
    exact ⟨rfl, fun w => hk 9999 _ _ b w h, fun hb => by subst hb; exact (cellEq_true h).symm⟩
  · cases h

theorem sameNow_eq {kt : TypeId} {k x : Value} {b c : Bool} {d : TypeDesc} (h : keyEq P kt k x = some b) (hs : Instr.sameNow d k x = some c) : c = b := by
  unfold keyEq at h
  split at h
  · split at h
    · unfold Instr.sameNow at hs; split at hs <;> simp_all
    · cases h
  · unfold cellEq at h
    split at h
    · unfold Instr.sameNow at hs
      split at hs <;> first | (cases hs; done) | skip
      all_goals first | (rename_i e1 e2; cases e1; done) | skip
      all_goals simp_all
    · split at h
      · rename_i hk; subst hk
        unfold Instr.sameNow at hs
        split at hs <;> first | (cases hs; done) | skip
        all_goals simp_all
      · cases h
    · unfold Instr.sameNow at hs
      split at hs <;> first | (cases hs; done) | skip
      all_goals simp_all
    · cases h
  · cases h

theorem find_sound {kt : TypeId} {k : Value} : ∀ {es : List (Value × Value)} {es' : List MapEntry} {i : Nat} {r : Option (Nat × Value)}, findA P kt k es i = some r → es.length = es'.length →
    (∀ (j : Nat) a m, es[j]? = some a → es'[j]? = some m → VR φ a.1 m.key ∧ VR φ a.2 m.val) →
    ∃ r', (∀ w, (Instr.findAsking kt k es' i).run P w = .ok r' w) ∧ (∀ d z, Instr.findNow d k es' i = some z → z = r') ∧
      (match r, r' with | none, none => True | some (j, v), some (j', v') => j = j' ∧ VR φ v v' ∧ i ≤ j ∧ es[j - i]? = some (k, v) ∧ (es'[j - i]?).map (·.key) = some k | _, _ => False) := by
  intro es
  induction es with
  | nil =>
    intro es' i r h hl he
    cases es' with
    | cons _ _ => simp at hl
    | nil =>
      cases h
      exact ⟨none, fun w => by simp [Instr.findAsking], fun d z hz => by simp [Instr.findNow] at hz; exact hz.symm, trivial⟩
  | cons a es ih =>
    intro es' i r h hl he
    obtain ⟨ka, va⟩ := a
    cases es' with
    | nil => simp at hl
    | cons m es' =>
      obtain ⟨hk, hv⟩ := he 0 (ka, va) m (by simp) (by simp)
      simp only [findA] at h
      split at h
      · rename_i hkey
        cases h
        obtain ⟨e1, e2, e3⟩ := key_eq hkey hk
        have e4 := e3 rfl
        refine ⟨some (i, m.val), fun w => ?_, fun d z hz => ?_, rfl, hv, Nat.le_refl _, by simp [e4], by simp [e1, e4]⟩
        · simp [Instr.findAsking, e2 w]
        · rw [Instr.findNow, e1] at hz
          split at hz
          · exact (Option.some.inj hz).symm
          · rename_i hs; have := sameNow_eq hkey hs; cases this
          · cases hz
      · rename_i hkey
        obtain ⟨e1, e2, e3⟩ := key_eq hkey hk
        obtain ⟨r', f1, f2, f3⟩ := ih h (by simpa using hl) (fun j a m' p q => he (j + 1) a m' (by simpa using p) (by simpa using q))
        refine ⟨r', fun w => ?_, fun d z hz => ?_, ?_⟩
        · simp [Instr.findAsking, e2 w, f1 w]
        · rw [Instr.findNow, e1] at hz
          split at hz
          · rename_i hs; have := sameNow_eq hkey hs; cases this
          · exact f2 d z hz
          · cases hz
        · cases r with
          | none => cases r' <;> first | exact f3 | exact f3.elim
          | some q =>
            obtain ⟨j, v⟩ := q
            cases r' with
            | none => exact f3.elim
            | some q' =>
              obtain ⟨j', v'⟩ := q'
              obtain ⟨g1, g2, g3, g4, g5⟩ := f3
              refine ⟨g1, g2, by omega, ?_, ?_⟩
              · rw [show j - i = (j - (i + 1)) + 1 by omega]; simpa using g4
              · rw [show j - i = (j - (i + 1)) + 1 by omega]; simpa using g5
      · cases h

theorem findKey_sound {kt : TypeId} {k : Value} {es : List (Value × Value)} {es' : List MapEntry} {r : Option (Nat × Value)} (hk : keyFit P kt k = true) (h : findA P kt k es 0 = some r) (hl : es.length = es'.length)
    (he : ∀ (j : Nat) a m, es[j]? = some a → es'[j]? = some m → VR φ a.1 m.key ∧ VR φ a.2 m.val) :
    ∃ r', (∀ w, (Instr.findKey kt k es').run P w = .ok r' w) ∧
      (match r, r' with | none, none => True | some (j, v), some (j', v') => j = j' ∧ VR φ v v' ∧ es[j]? = some (k, v) ∧ (es'[j]?).map (·.key) = some k | _, _ => False) := by
  obtain ⟨r', f1, f2, f3⟩ := find_sound h hl he
  have hu : ∃ d, P.underlying kt = some d := by
    unfold keyFit at hk
    cases hc : tCmp P kt with
    | none => simp [hc] at hk
    | some ks =>
      have := (tCmp_spec hc).2
      unfold tFlat at this
      split at this <;> rename_i hu <;> first | exact ⟨_, hu⟩ | cases this
  obtain ⟨d, hd⟩ := hu
  refine ⟨r', fun w => ?_, ?_⟩
  · simp only [Instr.findKey, Sem.run_bind, run_underlying hd, Result.andThen_ok]
    split
    · rename_i z hz
      rw [f2 d z hz]; rfl
    · exact f1 w
  · cases r with
    | none => cases r' <;> first | exact f3 | exact f3.elim
    | some q =>
      cases r' with
      | none => exact f3.elim
      | some q' => obtain ⟨g1, g2, g3, g4, g5⟩ := f3; exact ⟨g1, g2, by simpa using g4, by simpa using g5⟩

theorem tMap_spec {t k e : TypeId} (h : tMap P t = some (k, e)) : P.underlying t = some (.map k e) := by
  unfold tMap at h
  split at h
  · cases h; assumption
  · cases h

theorem lookup_sound {H : Heap} {t : TypeId} {m k m' k' v : Value} {ok : Bool} (hW : WR base w0 φ H.bs w) (h : lookupA P H t m k ok = some v) (hm : VR φ m m') (hk : VR φ k k') :
    ∃ v', VR φ v v' ∧ ∀ w', Cls base w0 φ H.bs w w' → (Instr.lookup t m' k' ok).run P w' = .ok v' w' := by
  unfold lookupA at h
  split at h
  rotate_left
  · cases h
  rename_i kt et hmp
  have hu := tMap_spec hmp
  split at h
  rotate_left
  · cases h
  rename_i hfit
  obtain rfl := keyFit_same hfit hk
  have wrap : ∀ (z z' : Value) (b : Bool), VR φ z z' → VR φ (if ok then .tuple #[z, .bool b] else z) (if ok then .tuple #[z', .bool b] else z') := by
    intro z z' b hz
    cases ok
    · exact hz
    · exact VR.toTuple (a := [z, .bool b]) (b := [z', .bool b]) (.cons hz (.cons (.bool b) (.nil φ)))
  split at h
  · rename_i b
    split at h
    rotate_left
    · cases h
    rename_i es hg
    cases hm with
    | map hl =>
      rename_i l
      obtain ⟨l', hl', hbr⟩ := hW.loc hg
      rw [hl] at hl'; cases hl'
      obtain ⟨hb, es', cl, h1, h2, h3⟩ := hbr
      have hh : ∀ w', Cls base w0 φ H.bs w w' → w'.heap[l.blk]? = some (.map es' cl) := fun w' hc => by rw [hc.same _ _ l hg (by simp) hl]; exact h1
      split at h
      · rename_i j va z hf hz
        cases h
        obtain ⟨r', f1, f2⟩ := findKey_sound (φ := φ) hfit hf (by simpa using h2.symm) (fun j a m p q => h3 j a.1 a.2 m p q)
        cases r' with
        | none => exact f2.elim
        | some q =>
          obtain ⟨j', v'⟩ := q
          obtain ⟨g1, g2, _⟩ := f2
          refine ⟨_, wrap va v' true g2, fun w' hc => ?_⟩
          simp only [Instr.lookup, Sem.run_bind, run_underlying hu, Result.andThen_ok, getObj, Sem.run, hh w' hc, keyFit_check hfit, f1, Sem.run_pure]
      · rename_i z hf hz
        cases h
        obtain ⟨r', f1, f2⟩ := findKey_sound (φ := φ) hfit hf (by simpa using h2.symm) (fun j a m p q => h3 j a.1 a.2 m p q)
        cases r' with
        | some q => exact f2.elim
        | none =>
          refine ⟨_, wrap z z false (VR.na1 (run_zeroValue' hz w).2), fun w' hc => ?_⟩
          simp only [Instr.lookup, Sem.run_bind, run_underlying hu, Result.andThen_ok, getObj, Sem.run, hh w' hc, keyFit_check hfit, f1, Sem.run_pure, (run_zeroValue' hz w').1]
      · cases h
  · cases hm
    simp only [Option.map_eq_some_iff] at h
    obtain ⟨z, hz, rfl⟩ := h
    obtain ⟨d, hd⟩ : ∃ d, P.underlying kt = some d := by
      unfold keyFit at hfit
      cases hc : tCmp P kt with
      | none => simp [hc] at hfit
      | some ks =>
        have := (tCmp_spec hc).2
        unfold tFlat at this
        split at this <;> rename_i hu <;> first | exact ⟨_, hu⟩ | cases this
    refine ⟨_, wrap z z false (VR.na1 (run_zeroValue' hz w).2), fun w' hc => ?_⟩
    simp [Instr.lookup, run_underlying hu, keyFit_check hfit, Instr.findKey, run_underlying hd, Instr.findNow, (run_zeroValue' hz w').1]
  · cases h
end
end Go.Proofs.Ytcpolfjnbbodgaa.Ve
