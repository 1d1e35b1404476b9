/- Rows that a run makes: own slices, and how they grow. Conditions: none here. -/
import Derived.Test.YtcpolfjnbbodgaaVeLight
namespace Go.Proofs.Ytcpolfjnbbodgaa.Ve
open Go Go.RowKit
set_option linter.unusedVariables false
set_option linter.unusedSimpArgs false

/-- a heap that came about of another one, of which the blocks below 'lo' stayed -/
structure Stay (lo : Nat) (H H' : Heap) : Prop where
  next : H.next ≤ H'.next
  lowAll : ∀ k, k ≤ lo → k ≤ H.low → k ≤ H'.low
  get : ∀ j, j < lo → H'.get j = H.get j
theorem Stay.low {lo : Nat} {H H' : Heap} (h : Stay lo H H') (q : lo ≤ H.low) : lo ≤ H'.low := h.lowAll lo (Nat.le_refl _) q
theorem Stay.weaken {lo lo' : Nat} {H H' : Heap} (h : Stay lo H H') (k : lo' ≤ lo) : Stay lo' H H' := ⟨h.next, fun j hj => h.lowAll j (by omega), fun j hj => h.get j (by omega)⟩
theorem Stay.refl (lo : Nat) (H : Heap) : Stay lo H H := ⟨Nat.le_refl _, fun _ _ h => h, fun _ _ => rfl⟩
theorem Stay.trans {lo : Nat} {a b c : Heap} (h : Stay lo a b) (k : Stay lo b c) : Stay lo a c := ⟨Nat.le_trans h.next k.next, fun j hj q => k.lowAll j hj (h.lowAll j hj q), fun j hj => by rw [k.get j hj, h.get j hj]⟩
theorem Stay.push {lo : Nat} {H : Heap} {B : Blk} (h : lo ≤ H.next) : Stay lo H (H.push B) := ⟨by rw [next_push]; omega, fun _ _ q => q, fun j hj => get_push_lt (by omega)⟩
theorem Stay.put {lo b : Nat} {H : Heap} {B : Blk} (h : lo ≤ b) : Stay lo H (H.put b B) := ⟨Nat.le_refl _ |> fun q => by rw [next_put]; exact q, fun k hk q => by rw [low_put]; omega, fun j hj => get_put_ne (by omega)⟩
theorem Stay.start (H : Heap) : Stay H.next H ⟨H.bs, H.next⟩ := ⟨Nat.le_refl _, fun _ h _ => h, fun _ _ => rfl⟩
theorem Stay.ret {lo : Nat} {H H' : Heap} (h : Stay lo H H') (hl : lo ≤ H'.low) : Stay lo H ⟨H'.bs, min H.low H'.low⟩ := ⟨h.next, fun k hk q => by simp only; omega, h.get⟩

/-- an own slice (nil, or the whole of an own block that no other slice has): its cells -/
def OwnSl (H : Heap) (lo sz : Nat) (v : Value) (n : Nat) (cs : List Value) : Prop :=
  (v = .slice none 0 0 ∧ n = 0 ∧ cs = []) ∨ ∃ b, v = .slice (some ⟨b, 0, none⟩) n (n + 1) ∧ H.get b = some (.cells cs true sz) ∧ lo ≤ b ∧ cs.length = n * sz
theorem OwnSl.push {H : Heap} {lo sz : Nat} {v : Value} {n : Nat} {cs : List Value} (h : OwnSl H lo sz v n cs) (B : Blk) : OwnSl (H.push B) lo sz v n cs := by
  rcases h with h | ⟨b, h1, h2, h3⟩
  · exact .inl h
  · exact .inr ⟨b, h1, by rw [get_push_lt (get_lt h2)]; exact h2, h3⟩
theorem OwnSl.put {H : Heap} {lo sz : Nat} {v : Value} {n : Nat} {cs : List Value} (h : OwnSl H lo sz v n cs) {b : Nat} (B : Blk) (hb : ∀ c, v = .slice (some ⟨c, 0, none⟩) n (n + 1) → b ≠ c) : OwnSl (H.put b B) lo sz v n cs := by
  rcases h with h | ⟨c, h1, h2, h3⟩
  · exact .inl h
  · exact .inr ⟨c, h1, by rw [get_put_ne (hb c h1)]; exact h2, h3⟩

section
variable {P : Program}
theorem append_own {t e : TypeId} {sz bytes : Nat} {z : List Value} (ht : P.underlying t = some (.slice e)) (hs : tSize P e = some sz) (hb : tBytes P e = some bytes) (hz : tZero P e = some z) (h0 : 0 < sz) (h1 : 0 < bytes)
    {H : Heap} {lo : Nat} {v : Value} {n : Nat} {cs : List Value} (h : OwnSl H lo sz v n cs) {c m k : Nat} {el : List Value} {own : Bool} {q : Nat} (hc : H.get c = some (.cells el own q)) (hm : 0 < m) (hel : el.length = m * sz) (hr : (n + m) * bytes ≤ 140737488355328) (hlo : lo ≤ H.next) :
    ∃ v' H', appendA P H [t, t] v (.slice (some ⟨c, 0, none⟩) m k) = some (v', some H') ∧ OwnSl H' lo sz v' (n + m) (cs ++ el) ∧ Stay lo H H' := by
  have hte : tElem P t = some e := by simp [tElem, ht]
  have hadd : addedA P H sz (some t) (.slice (some ⟨c, 0, none⟩) m k) = some (m, el) := by
    simp only [addedA, Option.bind_some, ht, sliceCells, hc]
    rw [if_neg (by omega), if_pos (by omega)]
    simp [← hel]
  have hsz : ¬ (sz = 0 ∨ bytes = 0) := by omega
  rcases h with ⟨rfl, rfl, rfl⟩ | ⟨b, rfl, hg, hlb, hlen⟩
  · refine ⟨.slice (some ⟨H.next, 0, none⟩) m (m + 1), H.push (.cells el true sz), ?_, .inr ⟨H.next, by rw [Nat.zero_add], get_push_next, hlo, by simpa using hel⟩, Stay.push hlo⟩
    simp only [appendA, List.head?_cons, Option.bind_some, hte, hs, hb, hz, List.getElem?_cons_succ, List.getElem?_cons_zero, if_neg hsz, hadd]
    rw [if_neg (by omega), if_pos (by simpa using hr)]
  · have hbl := get_lt hg
    refine ⟨.slice (some ⟨H.next, 0, none⟩) (n + m) (n + m + 1), (H.put b .dead).push (.cells (cs ++ el) true sz), ?_, .inr ⟨H.next, rfl, get_push_eq ⟨by simp [next_put], by simp [next_put]⟩, hlo, by rw [List.length_append, hlen, hel, Nat.add_mul]⟩, (Stay.put hlb).trans (Stay.push (by rw [next_put]; exact hlo))⟩
    simp only [appendA, List.head?_cons, Option.bind_some, hte, hs, hb, hz, List.getElem?_cons_succ, List.getElem?_cons_zero, if_neg hsz, hadd, hg]
    rw [if_neg (by omega), if_pos hr, if_pos (by simp; omega), if_neg (by omega)]
    simp [← hlen]
end
end Go.Proofs.Ytcpolfjnbbodgaa.Ve
