/- Slices of data in a heap of ours: what their elements are; maps of strings. Conditions: none here. -/
import Derived.Test.YtcpolfjnbbodgaaVeRet
namespace Go.Proofs.Ytcpolfjnbbodgaa.Ve
open Go Go.RowKit
set_option linter.unusedVariables false
set_option linter.unusedSimpArgs false

theorem Stay.first (H : Heap) (B : Blk) : Stay H.next H (Heap.push ⟨H.bs, H.next⟩ B) := (Stay.start H).trans (Stay.push (Nat.le_refl _))
/-- a slice (in blocks below 'lo') of elements that are read by R -/
def SlI (H : Heap) (lo sz : Nat) {α : Type} (R : List Value → α → Prop) (v : Value) (l : List α) : Prop :=
  (v = .slice none 0 0 ∧ l = []) ∨
  ∃ b o c, v = .slice (some ⟨b, o, none⟩) l.length c ∧
    (l = [] ∨ ∃ cs own, b < lo ∧ H.get b = some (.cells cs own sz) ∧ o + l.length * sz ≤ cs.length ∧ ∀ (i : Nat) a, l[i]? = some a → R ((cs.drop (o + i * sz)).take sz) a)
theorem SlI.mono {H H' : Heap} {lo lo' sz : Nat} {α : Type} {R R' : List Value → α → Prop} {v : Value} {l : List α} (h : SlI H lo sz R v l) (hg : ∀ j, j < lo → H'.get j = H.get j) (hlo : lo ≤ lo') (hR : ∀ cs a, R cs a → R' cs a) : SlI H' lo' sz R' v l := by
  rcases h with h | ⟨b, o, c, hv, h⟩
  · exact .inl h
  · refine .inr ⟨b, o, c, hv, ?_⟩
    rcases h with h | ⟨cs, own, h1, h2, h3, h4⟩
    · exact .inl h
    · exact .inr ⟨cs, own, by omega, by rw [hg b h1]; exact h2, h3, fun i a hi => hR _ _ (h4 i a hi)⟩
/-- its form -/
theorem SlI.form {H : Heap} {lo sz : Nat} {α : Type} {R : List Value → α → Prop} {v : Value} {l : List α} (h : SlI H lo sz R v l) :
    (v = .slice none 0 0 ∧ l = []) ∨ (∃ b o c, v = .slice (some ⟨b, o, none⟩) 0 c ∧ l = []) ∨
    ∃ b o c cs own, v = .slice (some ⟨b, o, none⟩) l.length c ∧ 0 < l.length ∧ b < lo ∧ H.get b = some (.cells cs own sz) ∧ o + l.length * sz ≤ cs.length ∧ ∀ (i : Nat) a, l[i]? = some a → R ((cs.drop (o + i * sz)).take sz) a := by
  rcases h with h | ⟨b, o, c, hv, h⟩
  · exact .inl h
  · rcases h with h | ⟨cs, own, h1, h2, h3, h4⟩
    · subst h; exact .inr (.inl ⟨b, o, c, hv, rfl⟩)
    · by_cases hl : l = []
      · subst hl; exact .inr (.inl ⟨b, o, c, hv, rfl⟩)
      · exact .inr (.inr ⟨b, o, c, cs, own, hv, List.length_pos_iff.2 hl, h1, h2, h3, h4⟩)
theorem SlI.slice {H : Heap} {lo sz : Nat} {α : Type} {R : List Value → α → Prop} {v : Value} {l : List α} (h : SlI H lo sz R v l) : ∃ a c, v = .slice a l.length c := by
  rcases h with ⟨h, h2⟩ | ⟨b, o, c, hv, h⟩
  · exact ⟨none, 0, by rw [h, h2]; rfl⟩
  · exact ⟨_, _, hv⟩
/-- an element -/
theorem SlI.at_ {H : Heap} {lo sz : Nat} {α : Type} {R : List Value → α → Prop} {v : Value} {l : List α} (h : SlI H lo sz R v l) {i : Nat} {a : α} (hi : l[i]? = some a) :
    ∃ b o c cs own, v = .slice (some ⟨b, o, none⟩) l.length c ∧ b < lo ∧ H.get b = some (.cells cs own sz) ∧ o + i * sz + sz ≤ cs.length ∧ R ((cs.drop (o + i * sz)).take sz) a := by
  have hl : i < l.length := (List.getElem?_eq_some_iff.1 hi).1
  rcases h with ⟨_, h⟩ | ⟨b, o, c, hv, h⟩
  · subst h; simp at hl
  · rcases h with h | ⟨cs, own, h1, h2, h3, h4⟩
    · subst h; simp at hl
    · refine ⟨b, o, c, cs, own, hv, h1, h2, ?_, h4 i a hi⟩
      have : (i + 1) * sz ≤ l.length * sz := Nat.mul_le_mul_right _ hl
      rw [Nat.add_mul] at this
      omega
theorem row_agg {cs enc : List Value} {o sz : Nat} (h : o + sz ≤ cs.length) (hr : (cs.drop o).take sz = enc) : ldC (some true) (some sz) o cs = some (.agg enc.toArray) := by rw [ldC_agg _ _ _ h, hr]
theorem row_cell {cs enc : List Value} {o sz k : Nat} (hk : k < sz) (hr : (cs.drop o).take sz = enc) : cs[o + k]? = enc[k]? := by
  rw [← hr, List.getElem?_take, if_pos hk, List.getElem?_drop]

/-! own slices, whatever their capacity -/
def OwnC (H : Heap) (lo sz : Nat) (v : Value) (n : Nat) (cs : List Value) : Prop :=
  (v = .slice none 0 0 ∧ n = 0 ∧ cs = []) ∨ ∃ b c, v = .slice (some ⟨b, 0, none⟩) n c ∧ H.get b = some (.cells cs true sz) ∧ lo ≤ b ∧ cs.length = n * sz
theorem OwnC.mono {H H' : Heap} {lo lo2 sz : Nat} {v : Value} {n : Nat} {cs : List Value} (h : OwnC H lo sz v n cs) (hl : lo2 ≤ lo) (hg : ∀ j, j < H.next → H'.get j = H.get j) : OwnC H' lo2 sz v n cs := by
  rcases h with h | ⟨b, c, h1, h2, h3, h4⟩
  · exact .inl h
  · exact .inr ⟨b, c, h1, by rw [hg b (get_lt h2)]; exact h2, by omega, h4⟩
theorem OwnSl.ownC {H : Heap} {lo sz : Nat} {v : Value} {n : Nat} {cs : List Value} (h : OwnSl H lo sz v n cs) : OwnC H lo sz v n cs := by
  rcases h with h | ⟨b, h1, h2⟩
  · exact .inl h
  · exact .inr ⟨b, _, h1, h2⟩
theorem OwnC.slice {H : Heap} {lo sz : Nat} {v : Value} {n : Nat} {cs : List Value} (h : OwnC H lo sz v n cs) : ∃ a c, v = .slice a n c := by
  rcases h with ⟨h, rfl, _⟩ | ⟨b, c, h1, _⟩
  · exact ⟨none, 0, h⟩
  · exact ⟨_, _, h1⟩
theorem OwnC.cells {H : Heap} {lo sz : Nat} {v : Value} {n : Nat} {cs : List Value} (h : OwnC H lo sz v n cs) (h0 : 0 < sz) : ∃ a c, v = .slice a n c ∧ sliceCells H sz (.slice a n c) = some cs := by
  rcases h with ⟨rfl, rfl, rfl⟩ | ⟨b, c, rfl, h2, h3, h4⟩
  · exact ⟨none, 0, rfl, rfl⟩
  · refine ⟨_, _, rfl, ?_⟩
    simp only [sliceCells, h2]
    by_cases hn : n = 0
    · subst hn
      have : cs = [] := List.length_eq_zero_iff.1 (by omega)
      simp [this]
    · rw [if_neg hn, if_pos (by omega), List.drop_zero, List.take_of_length_le (by omega)]
/-- rows of cells -/
def RowsR {α : Type} (sz : Nat) (R : List Value → α → Prop) (cs : List Value) (l : List α) : Prop :=
  cs.length = l.length * sz ∧ ∀ (i : Nat) a, l[i]? = some a → R ((cs.drop (i * sz)).take sz) a
theorem RowsR.append {α : Type} {sz : Nat} {R : List Value → α → Prop} {c1 c2 : List Value} {l1 l2 : List α} (h : RowsR sz R c1 l1) (k : RowsR sz R c2 l2) : RowsR sz R (c1 ++ c2) (l1 ++ l2) := by
  refine ⟨by rw [List.length_append, List.length_append, h.1, k.1, Nat.add_mul], fun i a hi => ?_⟩
  by_cases hl : i < l1.length
  · rw [List.getElem?_append_left hl] at hi
    have := h.2 i a hi
    have hle : (i + 1) * sz ≤ l1.length * sz := Nat.mul_le_mul_right _ hl
    rw [Nat.add_mul] at hle
    rw [List.drop_append_of_le_length (by rw [h.1]; omega), List.take_append_of_le_length (by rw [List.length_drop, h.1]; omega)]
    exact this
  · rw [List.getElem?_append_right (by omega)] at hi
    have := k.2 _ a hi
    have e : i * sz = c1.length + (i - l1.length) * sz := by rw [h.1, ← Nat.add_mul]; congr 1; omega
    rw [e, ← List.drop_drop, List.drop_left]
    exact this
theorem SlI.cells {H : Heap} {lo sz : Nat} {α : Type} {R : List Value → α → Prop} {v : Value} {l : List α} (h : SlI H lo sz R v l) : ∃ el, sliceCells H sz v = some el ∧ RowsR sz R el l := by
  rcases h.form with ⟨rfl, rfl⟩ | ⟨b, o, c, rfl, rfl⟩ | ⟨b, o, c, cs, own, rfl, h0, h1, h2, h3, h4⟩
  · exact ⟨[], rfl, by simp [RowsR]⟩
  · exact ⟨[], by simp [sliceCells], by simp [RowsR]⟩
  · refine ⟨(cs.drop o).take (l.length * sz), by simp only [sliceCells, h2]; rw [if_neg (by omega), if_pos h3], by rw [List.length_take, List.length_drop]; omega, fun i a hi => ?_⟩
    have := h4 i a hi
    have hl : i < l.length := (List.getElem?_eq_some_iff.1 hi).1
    have hle : (i + 1) * sz ≤ l.length * sz := Nat.mul_le_mul_right _ hl
    rw [Nat.add_mul] at hle
    rw [List.drop_take, List.take_take, List.drop_drop, Nat.min_eq_left (by omega)]
    exact this
theorem RowsR.mono {α : Type} {sz : Nat} {R R' : List Value → α → Prop} {c : List Value} {l : List α} (h : RowsR sz R c l) (hR : ∀ cs a, R cs a → R' cs a) : RowsR sz R' c l := ⟨h.1, fun i a hi => hR _ _ (h.2 i a hi)⟩
theorem OwnC.sl {H : Heap} {lo sz : Nat} {α : Type} {R : List Value → α → Prop} {v : Value} {l : List α} {cs : List Value} (h : OwnC H lo sz v l.length cs) (hR : RowsR sz R cs l) : SlI H H.next sz R v l := by
  rcases h with ⟨h, h2, _⟩ | ⟨b, c, h1, h2, h3, h4⟩
  · exact .inl ⟨h, List.length_eq_zero_iff.1 h2⟩
  · refine .inr ⟨b, 0, c, h1, .inr ⟨cs, true, get_lt h2, h2, by omega, fun i a hi => ?_⟩⟩
    rw [Nat.zero_add]
    exact hR.2 i a hi
theorem rows_enc {α : Type} {sz : Nat} {enc : α → List Value} (hs : ∀ a, (enc a).length = sz) (l : List α) : RowsR sz (fun cs a => cs = enc a) (l.flatMap enc) l := by
  refine ⟨?_, fun i a hi => (flatMap_at hs hi).2⟩
  induction l with
  | nil => simp
  | cons x l ih => rw [List.flatMap_cons, List.length_append, hs, ih, List.length_cons, Nat.add_mul]; omega
theorem append_ownC {P : Program} {t e : TypeId} {sz bytes : Nat} {z : List Value} (ht : P.underlying t = some (.slice e)) (hs : tSize P e = some sz) (hb : tBytes P e = some bytes) (hz : tZero P e = some z) (h0 : 0 < sz) (h1 : 0 < bytes)
    {H : Heap} {lo : Nat} {v : Value} {n : Nat} {cs : List Value} (h : OwnC H lo sz v n cs) {a : Option Addr} {m k : Nat} {el : List Value} (hx : sliceCells H sz (.slice a m k) = some el) (hel : el.length = m * sz) (hr : (n + m) * bytes ≤ 140737488355328) (hlo : lo ≤ H.next) :
    Ret (appendA P H [t, t] v (.slice a m k)) H fun v' H' => OwnC H' lo sz v' (n + m) (cs ++ el) ∧ Stay lo H H' := by
  have hte : tElem P t = some e := by simp [tElem, ht]
  have hadd : addedA P H sz (some t) (.slice a m k) = some (m, el) := by
    simp only [addedA, Option.bind_some, ht, hx, Option.map_some]
  have hsz : ¬ (sz = 0 ∨ bytes = 0) := by omega
  by_cases hm : m = 0
  · subst hm
    have he : el = [] := List.length_eq_zero_iff.1 (by omega)
    subst he
    rw [Nat.add_zero, List.append_nil]
    refine ⟨v, none, H, ?_, rfl, h, Stay.refl _ _⟩
    rcases h with ⟨rfl, rfl, rfl⟩ | ⟨b, c, rfl, hg, hlb, hlen⟩
    · simp [appendA, hte, hs, hb, hz, hsz, hadd, retV]
    · simp [appendA, hte, hs, hb, hz, hsz, hadd, retV]
  · rcases h with ⟨rfl, rfl, rfl⟩ | ⟨b, c, rfl, hg, hlb, hlen⟩
    · refine ⟨.slice (some ⟨H.next, 0, none⟩) m (m + 1), some (H.push (.cells el true sz)), _, ?_, rfl, .inr ⟨H.next, _, by rw [Nat.zero_add], get_push_next, hlo, by simpa using hel⟩, Stay.push hlo⟩
      simp only [appendA, List.head?_cons, Option.bind_some, hte, hs, hb, hz, List.getElem?_cons_succ, List.getElem?_cons_zero, if_neg hsz, hadd]
      rw [if_neg hm, if_pos (by simpa using hr), retV]
    · have hbl := get_lt hg
      have hcs : ((cs.drop 0).take (n * sz)) = cs := by rw [List.drop_zero, List.take_of_length_le (by omega)]
      by_cases hc : c = n
      · refine ⟨.slice (some ⟨H.next, 0, none⟩) (n + m) (n + m + 1), some (H.push (.cells (cs ++ el) true sz)), _, ?_, rfl, .inr ⟨H.next, _, rfl, get_push_next, hlo, by rw [List.length_append, hlen, hel, Nat.add_mul]⟩, Stay.push hlo⟩
        simp only [appendA, List.head?_cons, Option.bind_some, hte, hs, hb, hz, List.getElem?_cons_succ, List.getElem?_cons_zero, if_neg hsz, hadd, hg, hcs]
        rw [if_neg hm, if_pos hr, if_pos (by simp; omega), if_pos hc, retV]
      · refine ⟨.slice (some ⟨H.next, 0, none⟩) (n + m) (n + m + 1), some ((H.put b .dead).push (.cells (cs ++ el) true sz)), _, ?_, rfl, .inr ⟨H.next, _, rfl, get_push_eq ⟨by simp [next_put], by simp [next_put]⟩, hlo, by rw [List.length_append, hlen, hel, Nat.add_mul]⟩, (Stay.put hlb).trans (Stay.push (by rw [next_put]; exact hlo))⟩
        simp only [appendA, List.head?_cons, Option.bind_some, hte, hs, hb, hz, List.getElem?_cons_succ, List.getElem?_cons_zero, if_neg hsz, hadd, hg, hcs]
        rw [if_neg hm, if_pos hr, if_pos (by simp; omega), if_neg hc, if_pos trivial, retV]

/-! maps with keys of two strings -/
section
variable {P : Program}
def key2 (x : ByteArray × ByteArray) : Value := .agg #[.string x.1, .string x.2]
theorem keyEq2 {kt : TypeId} (hc : tCmp P kt = some [.str, .str]) (ha : tAgg P kt = some true) (x y : ByteArray × ByteArray) : keyEq P kt (key2 x) (key2 y) = some (decide (x = y)) := by
  have e : decide (x = y) = (decide (x.1 = y.1) && decide (x.2 = y.2)) := by
    rw [← Bool.decide_and]; exact decide_eq_decide.2 Prod.ext_iff
  simp [keyEq, hc, ha, key2, cellsEq, cellEq, str_beq, e]
theorem keyFit2 {kt : TypeId} (hc : tCmp P kt = some [.str, .str]) (ha : tAgg P kt = some true) (x : ByteArray × ByteArray) : keyFit P kt (key2 x) = true := by
  simp [keyFit, hc, ha, key2, leavesOk, leafOk]
def ent2 (x : (ByteArray × ByteArray) × Value) : Value × Value := (key2 x.1, x.2)
def find2 (k : ByteArray × ByteArray) : List ((ByteArray × ByteArray) × Value) → Nat → Option (Nat × Value)
  | [], _ => none
  | (k', v) :: es, i => if k = k' then some (i, v) else find2 k es (i + 1)
theorem findA2 {kt : TypeId} (hc : tCmp P kt = some [.str, .str]) (ha : tAgg P kt = some true) (k : ByteArray × ByteArray) : ∀ (es : List ((ByteArray × ByteArray) × Value)) (i : Nat), findA P kt (key2 k) (es.map ent2) i = some (find2 k es i)
  | [], i => rfl
  | (k', v) :: es, i => by
    rw [List.map_cons, ent2, findA, keyEq2 hc ha, find2]
    by_cases h : k = k'
    · rw [if_pos h]; simp [h]
    · rw [if_neg h]; simp only [h, decide_false]; exact findA2 hc ha k es (i + 1)
def lookB (P : Program) (q : Option (TypeId × TypeId)) (B : Option Blk) (k : Value) (ok : Bool) : Option Value :=
  match q with
  | some (kt, et) =>
    if keyFit P kt k then
      match B with
      | some (.map es) =>
        match findA P kt k es 0, tZeroV P et with
        | some (some (_, v)), some _ => some (if ok then .tuple #[v, .bool true] else v)
        | some none, some z => some (if ok then .tuple #[z, .bool false] else z)
        | _, _ => none
      | _ => none
    else none
  | none => none
theorem lookupA_map (H : Heap) (t : TypeId) (b : Nat) (k : Value) (ok : Bool) : lookupA P H t (.map (some b)) k ok = lookB P (tMap P t) (H.get b) k ok := by
  unfold lookupA lookB
  cases tMap P t with
  | none => rfl
  | some q =>
    simp only
    split
    · generalize H.get b = B
      cases B with
      | none => rfl
      | some B => cases B <;> rfl
    · rfl
def updB (P : Program) (q : Option (TypeId × TypeId)) (B : Option Blk) (H : Heap) (b : Nat) (k v : Value) : Option Heap :=
  match q with
  | some (kt, _) =>
    if keyFit P kt k then
      match B with
      | some (.map es) =>
        match findA P kt k es 0 with
        | some (some (i, _)) => some (H.put b (.map (es.set i (k, v))))
        | some none => some (H.put b (.map (es ++ [(k, v)])))
        | none => none
      | _ => none
    else none
  | none => none
theorem mapUpdateA_map (H : Heap) (t : TypeId) (b : Nat) (k v : Value) : mapUpdateA P H t (.map (some b)) k v = updB P (tMap P t) (H.get b) H b k v := by
  unfold mapUpdateA updB
  cases tMap P t with
  | none => rfl
  | some q =>
    simp only
    split
    · generalize H.get b = B
      cases B with
      | none => rfl
      | some B => cases B <;> rfl
    · rfl
theorem lookup2 {kt et : TypeId} {z : Value} (hc : tCmp P kt = some [.str, .str]) (ha : tAgg P kt = some true) (hz : tZeroV P et = some z) (es : List ((ByteArray × ByteArray) × Value)) (k : ByteArray × ByteArray) :
    lookB P (some (kt, et)) (some (.map (es.map ent2))) (key2 k) false = some (((find2 k es 0).map (·.2)).getD z) := by
  simp only [lookB, keyFit2 hc ha, if_true, findA2 hc ha, hz]
  cases find2 k es 0 with
  | none => rfl
  | some q => rfl
theorem update2 {kt et : TypeId} (hc : tCmp P kt = some [.str, .str]) (ha : tAgg P kt = some true) (H : Heap) (b : Nat) (es : List ((ByteArray × ByteArray) × Value)) (k : ByteArray × ByteArray) (v : Value) (hn : find2 k es 0 = none) :
    updB P (some (kt, et)) (some (.map (es.map ent2))) H b (key2 k) v = some (H.put b (.map ((es ++ [(k, v)]).map ent2))) := by
  simp only [updB, keyFit2 hc ha, if_true, findA2 hc ha, hn, List.map_append, List.map_cons, List.map_nil, ent2]
/-- '==' of structs -/
def eqT (ks : Option (List Leaf)) (xs ys : List Value) : Option Bool :=
  match ks with
  | some ks => cellsEq ks xs ys
  | none => none
theorem bin_eql_agg (t : TypeId) (xs ys : Array Value) : binA P .eql t (.agg xs) (.agg ys) = (eqT (tCmpS P t) xs.toList ys.toList).map .bool := by
  simp only [binA, eqA, eqT]
  cases tCmpS P t <;> rfl
theorem bin_neq_agg (t : TypeId) (xs ys : Array Value) : binA P .neq t (.agg xs) (.agg ys) = (eqT (tCmpS P t) xs.toList ys.toList).map fun b => .bool !b := by
  simp only [binA, eqA, eqT]
  cases tCmpS P t <;> rfl
theorem eqT_some (ks : List Leaf) (xs ys : List Value) : eqT (some ks) xs ys = cellsEq ks xs ys := Eq.trans rfl rfl
theorem ce_nil : cellsEq [] [] [] = some true := Eq.trans rfl rfl
theorem ce_str (ks : List Leaf) (a b : ByteArray) (xs ys : List Value) : cellsEq (.str :: ks) (.string a :: xs) (.string b :: ys) = (cellsEq ks xs ys).map (decide (a = b) && ·) := by
  simp only [cellsEq, cellEq, str_beq]
  cases cellsEq ks xs ys <;> rfl
/-- the same, with the keys as a row -/
def seen2 (k : ByteArray × ByteArray) (l : List (ByteArray × ByteArray)) : Bool := l.any fun x => decide (k = x)
theorem find2_in (k : ByteArray × ByteArray) (v : Value) : ∀ (l : List (ByteArray × ByteArray)) (i : Nat), ((find2 k (l.map fun x => (x, v)) i).map (·.2)) = if seen2 k l = true then some v else none
  | [], i => by simp [find2, seen2]
  | x :: l, i => by
    rw [List.map_cons, find2]
    by_cases h : k = x
    · simp [h, seen2]
    · have hd : decide (k = x) = false := by simp [h]
      rw [if_neg h, find2_in k v l (i + 1), seen2, seen2, List.any_cons, hd, Bool.false_or]
end
end Go.Proofs.Ytcpolfjnbbodgaa.Ve
