/- All operations that leave the heap alone, under one theorem. Conditions: none here. -/
import Derived.Test.YtcpolfjnbbodgaaVeOps2
namespace Go.Proofs.Ytcpolfjnbbodgaa.Ve
open Go Go.RowKit
set_option linter.unusedVariables false
set_option linter.unusedSimpArgs false

section
variable {P : Program} {base : Nat} {w0 : World} {φ : List Loc} {S : List Blk} {w : World}

theorem sliceCells_sound {H : Heap} {size n c : Nat} {a : Option Addr} {x' : Value} {l : List Value} (hW : WR base w0 φ H.bs w) (h : sliceCells H size (.slice a n c) = some l) (hx : VR φ (.slice a n c) x') :
    ∃ a' c' l', x' = .slice a' n c' ∧ l'.length = n * size ∧ VRs φ l l' ∧ ∀ w', Cls base w0 φ H.bs w w' → ∀ k, k ≤ n → (Builtin.firstCells size k x').run P w' = .ok (l'.take (k * size)).toArray w' := by
  unfold sliceCells at h
  split at h
  · rename_i c0 e
    cases e
    cases h
    cases hx
    exact ⟨none, 0, [], rfl, by simp, .nil φ, fun w' _ k _ => by simp [Builtin.firstCells]⟩
  · rename_i b o n0 c0 e
    cases e
    split at h
    · rename_i hn
      subst hn
      cases h
      have : ∀ a' c', ∃ a'' c'' l', (Value.slice (some a') 0 c') = .slice a'' 0 c'' ∧ l'.length = 0 * size ∧ VRs φ [] l' ∧ ∀ w', Cls base w0 φ H.bs w w' → ∀ k, k ≤ 0 → (Builtin.firstCells size k (.slice (some a') 0 c')).run P w' = .ok (l'.take (k * size)).toArray w' :=
        fun a' c' => ⟨some a', c', [], rfl, by simp, .nil φ, fun w' _ k hk => (by have h0 : k = 0 := (by omega); subst h0; simp [Builtin.firstCells, loadCells, loadCellsFrom])⟩
      cases hx <;> exact this _ _
    · rename_i hn
      split at h
      rotate_left
      · cases h
      rename_i cs own sz hg
      split at h
      rotate_left
      · cases h
      rename_i hlt
      cases h
      have fin : ∀ (lc : Loc) c', φ[b]? = some lc → ∃ a'' c'' l', (Value.slice (some ⟨lc.blk, lc.off + o, none⟩) n c') = .slice a'' n c'' ∧ l'.length = n * size ∧ VRs φ ((cs.drop o).take (n * size)) l' ∧
          ∀ w', Cls base w0 φ H.bs w w' → ∀ k, k ≤ n → (Builtin.firstCells size k (.slice (some ⟨lc.blk, lc.off + o, none⟩) n c')).run P w' = .ok (l'.take (k * size)).toArray w' := by
        intro lc c' hl
        obtain ⟨ys, hv, hc⟩ := cells_class hW hg hl
        have hlen : ((ys.drop o).take (n * size)).length = n * size := by have := hv.1; simp; omega
        refine ⟨_, _, _, rfl, hlen, (hv.drop o).take (n * size), fun w' hcl k hk => ?_⟩
        simp only [Builtin.firstCells]
        have hks : k * size ≤ n * size := Nat.mul_le_mul_right _ hk
        rw [run_cells (hc w' hcl) o (k * size) (by rw [← hv.1]; omega), List.take_take, Nat.min_eq_left hks]
      cases hx with
      | slice0 => exact absurd rfl hn
      | exact hl => exact fin _ _ hl
      | slice hl => exact fin _ _ hl
  · cases h

theorem mapM_byteOf {l l' : List Value} {bs : List UInt8} (h : l.mapM byteOf = some bs) (hv : VRs φ l l') : l' = l := by
  induction l generalizing l' bs with
  | nil => exact hv.of_nil
  | cons x xs ih =>
    obtain ⟨y, ys, rfl, h1, h2⟩ := hv.of_cons
    simp only [List.mapM_cons, Option.bind_eq_bind, Option.pure_def] at h
    cases hx : byteOf x with
    | none => simp [hx] at h
    | some b =>
      cases hxs : xs.mapM byteOf with
      | none => simp [hx, hxs] at h
      | some r =>
        have hy : y = x := by
          unfold byteOf at hx
          split at hx
          · cases h1; rfl
          · cases hx
        rw [hy, ih hxs h2]

theorem bytes_loop (l : List Value) : ∀ (acc : ByteArray) (bs : List UInt8) (w : World), l.mapM byteOf = some bs →
    (forIn l acc (fun c s => (match c with
      | .int .u8 n => pure (ForInStep.yield (s.push (UInt8.ofNat n.toNat)))
      | _ => (do stuck "bytesToString: byte expected"; pure (ForInStep.yield s)) : Sem (ForInStep ByteArray)))).run P w = .ok ⟨acc.data ++ bs.toArray⟩ w := by
  induction l with
  | nil => intro acc bs w h; simp at h; subst h; simp
  | cons x xs ih =>
    intro acc bs w h
    simp only [List.mapM_cons, Option.bind_eq_bind, Option.pure_def] at h
    cases hx : byteOf x with
    | none => simp [hx] at h
    | some b =>
      cases hxs : xs.mapM byteOf with
      | none => simp [hx, hxs] at h
      | some r =>
        simp [hx, hxs] at h
        subst h
        unfold byteOf at hx
        split at hx
        · cases hx
          rw [List.forIn_cons]
          simp only [Sem.run_bind, Sem.run_pure, Result.andThen_ok, ih _ _ w hxs]
          congr 2
          simp [ByteArray.push]
        · cases hx

theorem opv_sound {nt : Nat} {e : Env} {ts : Array Value} (hE : ts.size = nt ∧ ∀ t, VR φ (e.get t) (ts.getD t undef)) {a : Act} (ha : a.tmps = ts) {x : Operand} (hx : okOperand x = true) : VR φ (opv e x) (a.eval x) := by
  cases x with
  | tmp t => simpa [opv, Act.eval, ha] using hE.2 t
  | const v => exact VR.na hx
  | global g => cases hx
  | func f => exact .func f rfl (fun i x y p => by simp at p) rfl (fun i x y p => by simp at p)
end
end Go.Proofs.Ytcpolfjnbbodgaa.Ve
