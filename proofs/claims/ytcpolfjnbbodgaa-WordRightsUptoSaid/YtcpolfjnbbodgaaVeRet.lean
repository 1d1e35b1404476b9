/- What a call answers together with the heap behind it; strings that are ranged over; maps. Conditions: none here. -/
import Derived.Test.YtcpolfjnbbodgaaVeRows
namespace Go.Proofs.Ytcpolfjnbbodgaa.Ve
open Go Go.RowKit
set_option linter.unusedVariables false
set_option linter.unusedSimpArgs false

def retV (v : Value) (h : Option Heap) : Option (Value × Option Heap) := some (v, h)
/-- a call's value, and the heap behind it -/
def Ret (x : Option (Value × Option Heap)) (H : Heap) (Q : Value → Heap → Prop) : Prop := ∃ v h H1, x = retV v h ∧ h.getD H = H1 ∧ Q v H1
theorem contO_get (v : Value) (h : Option Heap) (H : Heap) (f : Value → Heap → Option (Env × Heap)) : contO (retV v h) H f = f v (h.getD H) := by cases h <;> rfl
/-- after a body: what a value and a heap are answered as -/
theorem finish_getD (v : Value) (H H' : Heap) (Q : Value → Heap → Prop) (h1 : noAddr v = true → H.next ≤ H'.low → Q v H) (h2 : Q v ⟨H'.bs, min H.low H'.low⟩) : ∃ w h, finish v H H' = (w, h) ∧ Q w (h.getD H) := by
  unfold finish
  by_cases h : (noAddr v && decide (H.bs.length ≤ H'.low)) = true
  · rw [if_pos h]
    simp only [Bool.and_eq_true, decide_eq_true_eq] at h
    exact ⟨v, none, rfl, h1 h.1 h.2⟩
  · rw [if_neg h]
    exact ⟨v, _, rfl, h2⟩
theorem Ret_finish {v : Value} {H H' : Heap} {Q : Value → Heap → Prop} (h1 : noAddr v = true → H.next ≤ H'.low → Q v H) (h2 : Q v ⟨H'.bs, min H.low H'.low⟩) : Ret (some (finish v H H')) H Q := by
  obtain ⟨w, h, h3, h4⟩ := finish_getD v H H' Q h1 h2
  exact ⟨w, h, _, by rw [h3, retV], rfl, h4⟩
theorem Ret_br {v : Value} {c : Bool} {H H1 : Heap} {Q : Value → Heap → Prop} (h1 : c = true → Q v H) (h2 : Q v H1) : Ret (some (br c (v, none) (v, some H1))) H Q := by
  cases c
  · exact ⟨v, _, _, rfl, rfl, h2⟩
  · exact ⟨v, _, _, rfl, rfl, h1 rfl⟩
theorem OwnSl.na {H H0 : Heap} {lo sz : Nat} {v : Value} {n : Nat} {cs : List Value} (h : OwnSl H lo sz v n cs) (hv : na1 v = true) : OwnSl H0 lo sz v n cs := by
  rcases h with h | ⟨b, h1, h2, h3⟩
  · exact .inl h
  · rw [h1] at hv; cases hv
theorem OwnSl.low {H : Heap} {lo sz : Nat} {v : Value} {n : Nat} {cs : List Value} (h : OwnSl H lo sz v n cs) (l : Nat) : OwnSl ⟨H.bs, l⟩ lo sz v n cs := by
  rcases h with h | ⟨b, h1, h2, h3⟩
  · exact .inl h
  · exact .inr ⟨b, h1, h2, h3⟩

theorem after_prop (F : Option (Out × Env × Heap) → Prop) {x : Option (Out × Env × Heap)} {Q : Out → Env → Heap → Prop} (h : After x Q) (fin : ∀ o e H, Q o e H → F (some (o, e, H))) : F x := by
  obtain ⟨o, e, H, hx, hq⟩ := h
  rw [hx]
  exact fin o e H hq

section
variable {P : Program}
def rangeB (d : Option TypeDesc) (H : Heap) (s : ByteArray) : Option (Value × Option Heap) :=
  match d with
  | some .string => some (.pointer (some ⟨H.next, 0, none⟩), some (H.push (.iter s 0)))
  | _ => none
theorem rangeA_str (t : TypeId) (H : Heap) (s : ByteArray) : rangeA P t H (.string s) = rangeB (P.underlying t) H s := by
  unfold rangeA rangeB
  cases P.underlying t with
  | none => rfl
  | some d => cases d <;> rfl
theorem rangeB_str (H : Heap) (s : ByteArray) : rangeB (some .string) H s = some (.pointer (some ⟨H.next, 0, none⟩), some (H.push (.iter s 0))) := Eq.trans rfl rfl
def nextB (x : Option Blk) (H : Heap) (b : Nat) : Option (Value × Option Heap) :=
  match x with
  | some (.iter s pos) => br (decide (pos < s.size)) (some (.tuple #[.bool true, .int .i64 pos, .int .i32 (Utf8.decode s pos).1], some (H.put b (.iter s (pos + (Utf8.decode s pos).2))))) (some (.tuple #[.bool false], none))
  | _ => none
theorem nextA_ptr (H : Heap) (b : Nat) : nextA H (.pointer (some ⟨b, 0, none⟩)) = nextB (H.get b) H b := by
  unfold nextA nextB
  simp only
  generalize H.get b = q
  cases q with
  | none => rfl
  | some x => cases x <;> simp [br, goInt]
theorem nextB_iter (s : ByteArray) (pos : Nat) (H : Heap) (b : Nat) : nextB (some (.iter s pos)) H b = br (decide (pos < s.size)) (some (.tuple #[.bool true, .int .i64 pos, .int .i32 (Utf8.decode s pos).1], some (H.put b (.iter s (pos + (Utf8.decode s pos).2))))) (some (.tuple #[.bool false], none)) := Eq.trans rfl rfl
theorem decode_pos (s : ByteArray) (i : Nat) : 1 ≤ (Utf8.decode s i).2 := by
  unfold Utf8.decode
  simp only
  split
  · simp
  · split
    · split <;> simp
    · split
      · split <;> simp
      · split
        · split <;> simp
        · simp
end
end Go.Proofs.Ytcpolfjnbbodgaa.Ve
