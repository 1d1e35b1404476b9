/- Operations that turn the heap: what the evaluator tells of them, the model's do. Conditions: none here. -/
import Derived.Test.YtcpolfjnbbodgaaVeAppend
namespace Go.Proofs.Ytcpolfjnbbodgaa.Ve
open Go Go.RowKit
set_option linter.unusedVariables false
set_option linter.unusedSimpArgs false

/-- a block of the model's, put anew -/
def setBlk (w : World) (g : Nat) (o : Obj) : World := { w with heap := w.heap.setIfInBounds g o }

section
variable {P : Program} {base : Nat} {w0 : World} {φ : List Loc} {S : List Blk} {w : World}

theorem setBlk_get (w : World) (g : Nat) (o : Obj) (hg : g < w.heap.size) : (setBlk w g o).heap[g]? = some o := by simp [setBlk, hg]
theorem setBlk_other (w : World) (g j : Nat) (o : Obj) (h : g ≠ j) : (setBlk w g o).heap[j]? = w.heap[j]? := by simp [setBlk, h]
theorem setBlk_setBlk (w : World) (g : Nat) (o o' : Obj) : setBlk (setBlk w g o) g o' = setBlk w g o' := by simp [setBlk]
theorem setBlk_but (w : World) (g : Nat) (o : Obj) : But w (setBlk w g o) (some g) := ⟨by simp [setBlk], fun j _ h => setBlk_other w g j o (fun e => h (by rw [e]))⟩
theorem setBlk_below {w : World} {g : Nat} {o : Obj} (h : Below base w0 w) (hg : base ≤ g) : Below base w0 (setBlk w g o) :=
  ⟨h.os, h.tape, h.output, by simpa [setBlk] using h.size, fun k hk => by rw [setBlk_other w g k o (by omega)]; exact h.block k hk⟩
theorem setBlk_self {w : World} {g : Nat} {o : Obj} (h : w.heap[g]? = some o) : setBlk w g o = w := by
  obtain ⟨hg, he⟩ := Array.getElem?_eq_some_iff.1 h
  unfold setBlk
  have : w.heap.setIfInBounds g o = w.heap := by
    apply Array.ext_getElem?
    intro i
    rw [Array.getElem?_setIfInBounds]
    split
    · rename_i hi; subst hi; simp [hg, he]
    · rfl
  rw [this]

theorem setCell_setBlk {w : World} {g p : Nat} {cs : Array Value} {t : TypeId} {fz : Nat × Nat} (h : w.heap[g]? = some (.cells cs t fz)) (v : Value) :
    w.setCell ⟨g, p, none⟩ v = setBlk w g (.cells (cs.setIfInBounds p v) t fz) := by
  unfold World.setCell setBlk
  congr 1
  apply Array.ext_getElem?
  intro i
  rw [Array.getElem?_modify, Array.getElem?_setIfInBounds]
  by_cases hi : g = i
  · subst hi
    have hlt := (Array.getElem?_eq_some_iff.1 h).1
    simp only [if_true, h, Option.map_some, hlt, Option.isSome_none, Bool.false_eq_true, if_false]
  · simp [hi]

theorem storeCells_run (g o : Nat) (t : TypeId) (fz : Nat × Nat) : ∀ (vs : List Value) (i : Nat) (cs : Array Value) (w : World), w.heap[g]? = some (.cells cs t fz) → o + i + vs.length ≤ cs.size →
    (∀ p, p < o + i + vs.length → w.frozen? ⟨g, p, none⟩ = false) → (∀ v ∈ vs, v.oneCell' = true) →
    (storeCells ⟨g, o, none⟩ vs i).run P w = .ok () (setBlk w g (.cells (splice cs.toList (o + i) vs).toArray t fz))
  | [], i, cs, w, hg, _, _, _ => by
    simp only [storeCells, Sem.run_pure, splice, Array.toArray_toList]
    rw [setBlk_self hg]
  | v :: vs, i, cs, w, hg, hl, hf, h1 => by
    simp only [List.length_cons] at hl hf
    have hc : w.cell? ⟨g, o + i, none⟩ = some cs[o + i] := by
      unfold World.cell?
      simp only [hg, Option.isSome_none, Bool.false_eq_true, if_false]
      simp
    have hfr := hf (o + i) (by omega)
    have hst : (store ((⟨g, o, none⟩ : Addr).add i) v).run P w = .ok () (w.setCell ⟨g, o + i, none⟩ v) := by
      rw [Addr.add_none, run_store P w _ v _ (h1 v (by simp)), hc]
      simp only [hfr, Bool.false_eq_true, if_false]
    have hlt := (Array.getElem?_eq_some_iff.1 hg).1
    have hg2 := setBlk_get w g (.cells (cs.setIfInBounds (o + i) v) t fz) hlt
    simp only [storeCells, Sem.run_bind, hst, Result.andThen_ok, setCell_setBlk hg]
    rw [storeCells_run g o t fz vs (i + 1) _ _ hg2 (by simp; omega) (fun p hp => ?_) (fun v hv => h1 v (by simp [hv]))]
    · rw [setBlk_setBlk]
      simp only [splice, Array.toList_setIfInBounds]
      rw [Nat.add_assoc]
    · have := hf p (by omega)
      rw [← setCell_setBlk hg, World.frozen?_setCell]
      exact this

theorem splice_get : ∀ (xs : List Value) (c : List Value) (o i : Nat), o + xs.length ≤ c.length → (splice c o xs)[i]? = if o ≤ i ∧ i < o + xs.length then xs[i - o]? else c[i]?
  | [], c, o, i, h => by simp [splice]; omega
  | x :: xs, c, o, i, h => by
    simp only [List.length_cons] at h
    rw [splice, splice_get xs (c.set o x) (o + 1) i (by simp; omega)]
    simp only [List.length_cons, List.getElem?_set]
    by_cases h1 : o = i
    · subst h1
      have : ¬ (o + 1 ≤ o ∧ o < o + 1 + xs.length) := by omega
      simp [this, show o < c.length by omega]
    · by_cases h2 : o + 1 ≤ i ∧ i < o + 1 + xs.length
      · rw [if_pos h2, if_pos (by omega), show i - o = (i - (o + 1)) + 1 by omega]; simp
      · rw [if_neg h2, if_neg h1, if_neg (by omega)]

theorem mem_splice : ∀ (xs c : List Value) (o : Nat) (v : Value), v ∈ splice c o xs → v ∈ c ∨ v ∈ xs
  | [], c, o, v, h => .inl h
  | x :: xs, c, o, v, h => by
    rcases mem_splice xs (c.set o x) (o + 1) v h with h | h
    · rcases List.mem_or_eq_of_mem_set h with h | h
      · exact .inl h
      · exact .inr (by simp [h])
    · exact .inr (by simp [h])

/-- what is made: a block at the end, where the model's heap ends -/
theorem WR.alloc {w1 : World} (h : WR base w0 φ S w) (hh : w1.heap = w.heap) (ho : w1.os = w.os) (ht : w1.tape = w.tape) (hu : w1.output = w.output) {c xs rest : List Value} {e : TypeId} {sz : Nat} (hx : VRs φ c xs) (hone : ∀ x ∈ c, x.oneCell' = true) :
    WR base w0 (φ ++ [⟨w.heap.size, 0, xs.length + rest.length, sz⟩]) (S ++ [.cells c true sz]) (w1.alloc (.cells (xs ++ rest).toArray e)) ∧
      ∀ (k : Nat) (o : Obj), w.heap[k]? = some o → (w1.alloc (.cells (xs ++ rest).toArray e)).heap[k]? = some o := by
  have hold : ∀ k, k < w.heap.size → (w1.alloc (.cells (xs ++ rest).toArray e)).heap[k]? = w.heap[k]? := fun k hk => by
    rw [Below.heap_alloc _ _ _ (by rw [hh]; exact hk), hh]
  have hnew : (w1.alloc (.cells (xs ++ rest).toArray e)).heap[w.heap.size]? = some (.cells (xs ++ rest).toArray e) := by
    rw [← hh]; exact heap_alloc_new w1 _
  refine ⟨h.push (l := ⟨w.heap.size, 0, xs.length + rest.length, sz⟩) ⟨by simp [hh], fun j hj _ => hold j hj⟩ ?_ (fun _ => Nat.le_refl _) ?_, fun k o hk => by rw [hold k (Array.getElem?_eq_some_iff.1 hk).1]; exact hk⟩
  · exact (h.same_heap hh ho ht hu).below.alloc (by rw [hh]; exact h.size) _
  · have hxx := Ext.snoc φ ⟨w.heap.size, 0, xs.length + rest.length, sz⟩
    refine ⟨rfl, hone, fun i x hi => ?_, (by intro hf; cases hf), fun _ => ⟨h.size, by show c.length ≤ xs.length + rest.length; rw [hx.1]; omega, _, e, (0, 0), hnew, by simp, fun i hi => ?_⟩⟩
    · obtain ⟨y, hy, hv⟩ := hx.get hi
      refine ⟨y, ?_, hv.mono hxx⟩
      unfold World.cell?
      simp only [hnew, Option.isSome_none, Bool.false_eq_true, if_false, Nat.zero_add]
      have hlt : i < xs.length := (List.getElem?_eq_some_iff.1 hy).1
      simp [List.getElem?_append_left hlt, hy]
    · unfold World.frozen?
      simp only [hnew]
      simp

/-- An operation that turns the heap -/
def Turns (P : Program) (base : Nat) (w0 : World) (φ : List Loc) (S : List Blk) (low : Nat) (S' : List Blk) (w : World) (s : Sem Value) (v : Value) : Prop :=
  ∃ v' w' φ', s.run P w = .ok v' w' ∧ Ext φ φ' ∧ VR φ' v v' ∧ WR base w0 φ' S' w' ∧ Fr φ S low w w'

theorem Fr.of_old {low : Nat} {w' : World} (h : WR base w0 φ S w) (hk : ∀ (k : Nat) (o : Obj), w.heap[k]? = some o → w'.heap[k]? = some o) : Fr φ S low w w' := by
  intro b B l _ hb hd hl
  have hbr := h.blk b B l hb hl
  have : ∃ o, w.heap[l.blk]? = some o := by
    by_cases hm : B.mine = true
    · have := (hbr.lt hm).2
      exact ⟨_, Array.getElem?_eq_getElem this⟩
    · cases B with
      | dead => exact absurd rfl hd
      | cells c own sz =>
        have : own = false := by simpa [Blk.mine] using hm
        subst this
        exact ⟨_, Array.getElem?_eq_getElem (Nat.lt_of_lt_of_le hbr.below h.size)⟩
      | map es => exact absurd rfl hm
      | iter s p => exact absurd rfl hm
  obtain ⟨o, ho⟩ := this
  rw [ho, hk _ _ ho]

theorem Fr.of_put {low b : Nat} {B : Blk} {l : Loc} {o : Obj} (h : WR base w0 φ S w) (hb : S[b]? = some B) (hl : φ[b]? = some l) (hm : B.mine = true) (hlow : low ≤ b) : Fr φ S low w (setBlk w l.blk o) := by
  intro c C lc hc hC hd hlc
  refine setBlk_other w _ _ _ ?_
  by_cases hmC : C.mine = true
  · exact h.sep b c B C l lc (by omega) hb hC hm hmC hl hlc
  · cases C with
    | dead => exact absurd rfl hd
    | cells cc own sz =>
      have : own = false := by simpa [Blk.mine] using hmC
      subst this
      have h1 := (h.blk c _ lc hC hlc).below
      have h2 := ((h.blk b B l hb hl).lt hm).1
      omega
    | map es => exact absurd rfl hmC
    | iter s p => exact absurd rfl hmC

/-- stores -/
theorem sto_sound {t : TypeId} {H H' : Heap} {a x a' x' : Value} (hW : WR base w0 φ H.bs w) (h : sto P t H a x = some H') (ha : VR φ a a') (hx : VR φ x x') :
    ∃ w', (Instr.storeAt t a' x').run P w = .ok () w' ∧ WR base w0 φ H'.bs w' ∧ Fr φ H.bs H'.low w w' := by
  unfold sto at h
  split at h
  rotate_left
  · cases h
  rename_i b o
  split at h
  rotate_left
  · cases h
  rename_i c sz hg
  split at h
  rotate_left
  · cases h
  rename_i hcond
  obtain ⟨hs, hlen, hone⟩ := hcond
  cases h
  cases ha with
  | ptr hl =>
    rename_i l
    obtain ⟨l', hl', hbr⟩ := hW.loc hg
    rw [hl] at hl'; cases hl'
    obtain ⟨h0, hcone, h1, h2, h3⟩ := hbr
    obtain ⟨hb, hcap, cs, tt, fz, hh, hsz, hfz⟩ := h3 rfl
    have hxc := hx.cells
    have hxl := hxc.1
    have hone' : ∀ v ∈ x'.cells.toList, v.oneCell' = true := by
      intro v hv
      obtain ⟨i, hi⟩ := List.getElem?_of_mem hv
      have hi' : i < x.cells.toList.length := by rw [hxl]; exact (List.getElem?_eq_some_iff.1 hi).1
      have := hxc.2 i x.cells.toList[i] v (by simp [hi']) hi
      rw [this.oneCell]
      exact List.all_eq_true.1 hone _ (by simp)
    have hrun := storeCells_run (P := P) l.blk (l.off + o) tt fz x'.cells.toList 0 cs w hh (by omega) (fun p hp => hfz p (by omega)) hone'
    refine ⟨setBlk w l.blk (.cells (splice cs.toList (l.off + o + 0) x'.cells.toList).toArray tt fz), ?_, hW.put (l := l) hg hl rfl (setBlk_but w l.blk _) (setBlk_below hW.below hb) ?_, Fr.of_put hW hg hl rfl (Nat.min_le_right _ _)⟩
    · have hs' : x'.cells.toList.length = x.cells.toList.length := hxl.symm
      have : x'.cells.size = x.cells.toList.length := by rw [← hs']; simp
      simp only [Instr.storeAt, Instr.sureAddr, storeVar, Sem.run_bind, Sem.run_pure, Result.andThen_ok, run_sizeOf' hs, this, ne_eq, not_true_eq_false, if_false]
      exact hrun
    · have hlt := (Array.getElem?_eq_some_iff.1 hh).1
      refine ⟨h0, fun v hv => (mem_splice _ _ _ v hv).elim (hcone v) (fun h => List.all_eq_true.1 hone v h), fun i y hy => ?_, (by intro hf; cases hf), fun _ => ⟨hb, by rw [splice_length]; exact hcap, _, tt, fz, setBlk_get w _ _ hlt, by simp [splice_length]; exact hsz, fun i hi => ?_⟩⟩
      · rw [splice_get _ _ _ _ hlen] at hy
        have cellv : ∀ j, (setBlk w l.blk (.cells (splice cs.toList (l.off + o + 0) x'.cells.toList).toArray tt fz)).cell? ⟨l.blk, j, none⟩ = (splice cs.toList (l.off + o) x'.cells.toList)[j]? := by
          intro j
          unfold World.cell?
          simp [setBlk_get w _ _ hlt]
        rw [cellv, splice_get _ _ _ _ (by have : cs.toList.length = cs.size := by simp
                                          omega)]
        split at hy
        · rename_i hin
          obtain ⟨z, hz, hv⟩ := hxc.get hy
          refine ⟨z, ?_, hv⟩
          rw [if_pos (by omega), show l.off + i - (l.off + o) = i - o by omega]
          exact hz
        · rename_i hin
          obtain ⟨z, hz, hv⟩ := h1 i y hy
          refine ⟨z, ?_, hv⟩
          rw [if_neg (by omega)]
          unfold World.cell? at hz
          simpa [hh] using hz
      · have := hfz i hi
        unfold World.frozen? at this ⊢
        simp only [hh] at this
        simp only [setBlk_get w _ _ hlt]
        exact this

/-! ### what is made -/
theorem na0_one {l : List Value} (h : l.all Ve.na0 = true) : ∀ x ∈ l, x.oneCell' = true := fun x hx => by
  have := List.all_eq_true.1 h x hx
  unfold Ve.na0 at this
  split at this <;> first | rfl | cases this
theorem next_loc {l : Loc} (hW : WR base w0 φ S w) : (φ ++ [l])[S.length]? = some l := by rw [← hW.len]; simp

theorem new_turns {H : Heap} (hW : WR base w0 φ H.bs w) {s : Sem Value} {c xs rest : List Value} {e : TypeId} {sz low : Nat} {v v' : Value} {w1 : World} (hh : w1.heap = w.heap) (ho : w1.os = w.os) (ht : w1.tape = w.tape) (hu : w1.output = w.output)
    (hx : VRs φ c xs) (hone : ∀ x ∈ c, x.oneCell' = true) (hr : s.run P w = .ok v' (w1.alloc (.cells (xs ++ rest).toArray e))) (hv : VR (φ ++ [⟨w.heap.size, 0, xs.length + rest.length, sz⟩]) v v') :
    Turns P base w0 φ H.bs low (H.push (.cells c true sz)).bs w s v := by
  obtain ⟨h1, h2⟩ := hW.alloc (e := e) (rest := rest) (sz := sz) hh ho ht hu hx hone
  exact ⟨v', _, _, hr, Ext.snoc _ _, hv, h1, Fr.of_old hW h2⟩

theorem alloc_sound {H : Heap} (hW : WR base w0 φ H.bs w) {t : TypeId} {z : List Value} (hz : tZero P t = some z) (low : Nat) :
    Turns P base w0 φ H.bs low (H.push (.cells z true 1)).bs w (Instr.alloc t true (.tuple #[])) (.pointer (some ⟨H.next, 0, none⟩)) := by
  obtain ⟨zv, h1, h2, h3, h4⟩ := run_zero' hz w
  subst h2
  refine new_turns hW (w1 := w) (xs := zv.cells.toList) (rest := []) (e := t) rfl rfl rfl rfl (VRs.na0 h3) (na0_one h3) (v' := .pointer (some ⟨w.heap.size, 0, none⟩)) ?_ ?_
  · simp only [Instr.alloc, Sem.run_bind, h1, Result.andThen_ok, newVar, newRow, newObj, Sem.run, Sem.run_pure, List.append_nil, Array.toArray_toList]
    rfl
  · exact VR.ptr (l := ⟨w.heap.size, 0, _, 1⟩) (o := 0) (next_loc hW)

theorem box_sound {H : Heap} (hW : WR base w0 φ H.bs w) {t : TypeId} {x x' : Value} (hx : VR φ x x') (hone : x.cells.toList.all Value.oneCell' = true) (low : Nat) :
    Turns P base w0 φ H.bs low (H.push (.cells x.cells.toList true 1)).bs w (Instr.box t x') (.pointer (some ⟨H.next, 0, none⟩)) := by
  refine new_turns hW (w1 := w) (xs := x'.cells.toList) (rest := []) (e := t) rfl rfl rfl rfl hx.cells (fun x hx => List.all_eq_true.1 hone x hx) (v' := .pointer (some ⟨w.heap.size, 0, none⟩)) ?_ ?_
  · simp only [Instr.box, Sem.run_bind, newVar, newRow, newObj, Sem.run, Sem.run_pure, Result.andThen_ok, List.append_nil, Array.toArray_toList]
    rfl
  · exact VR.ptr (l := ⟨w.heap.size, 0, _, 1⟩) (o := 0) (next_loc hW)

theorem reps (z : List Value) (n : Nat) (hz : z.length ≠ 0) : ((List.range (n * z.length)).map fun i => z.toArray[i % z.toArray.size]!) = (List.replicate n z).flatten := by
  induction n with
  | zero => simp
  | succ n ih =>
    rw [Nat.succ_mul, List.range_add, List.map_append, ih, List.replicate_succ', List.flatten_append]
    congr 1
    simp only [List.map_map, List.flatten_cons, List.flatten_nil, List.append_nil]
    apply List.ext_getElem
    · simp
    · intro i h1 h2
      simp only [List.length_map, List.length_range] at h1
      simp only [List.getElem_map, List.getElem_range, Function.comp_apply, List.size_toArray]
      rw [Nat.mul_add_mod_self_right, Nat.mod_eq_of_lt h1]
      simp [h1]

theorem fill_one {place : Nat → Option (Nat × Nat)} : ∀ {parts : List (Nat × Value)} {cs l : List Value}, fillL place cs parts = some l → (∀ x ∈ cs, x.oneCell' = true) → (∀ p ∈ parts, ∀ x ∈ p.2.cells.toList, x.oneCell' = true) → ∀ x ∈ l, x.oneCell' = true := by
  intro parts
  induction parts with
  | nil => intro cs l h hc _; simp only [fillL, Option.some.injEq] at h; subst h; exact hc
  | cons p parts ih =>
    intro cs l h hc hp
    obtain ⟨i, v⟩ := p
    simp only [fillL] at h
    split at h
    · cases h
    · split at h
      · cases h
      · exact ih h (fun x hx => (mem_splice _ _ _ x hx).elim (hc x) (hp (i, v) (by simp) x)) (fun p hq => hp p (by simp [hq]))

theorem buildSlice_sound {H H' : Heap} (hW : WR base w0 φ H.bs w) {t : TypeId} {len : Nat} {parts parts' : List (Nat × Value)} {v : Value} (h : buildSliceA P H t len parts = some (v, H')) (hp : Parts φ parts parts') (low : Nat) :
    Turns P base w0 φ H.bs low H'.bs w (Instr.buildSlice t len parts'.toArray) v := by
  unfold buildSliceA at h
  split at h
  rotate_left
  · cases h
  rename_i e he
  have hu := tElem_spec he
  split at h
  rotate_left
  · cases h
  rename_i z hz
  split at h
  · cases h
  rename_i hb
  split at h
  rotate_left
  · cases h
  rename_i cs hcs
  cases h
  obtain ⟨zv, h1, h2, h3, h4⟩ := run_zero' hz w
  subst h2
  have hz0 : zv.cells.toList.length ≠ 0 := fun h => hb (.inl h)
  have hsz : zv.cells.size = zv.cells.toList.length := by simp
  obtain ⟨cs', e1, e2⟩ := fill_sound hcs (φ := φ) (cs' := (List.replicate len zv.cells.toList).flatten) (VRs.na0 (by
    simp only [List.all_flatten, List.all_replicate]; simp [h3])) hp
  refine new_turns hW (w1 := w) (xs := cs') (rest := []) (e := e) rfl rfl rfl rfl e2 (fill_one hcs (na0_one (by simp only [List.all_flatten, List.all_replicate]; simp [h3])) (fun p hp => by
      have := (Bool.not_eq_false _).mp (fun h => hb (.inr (.inr h)))
      exact fun x hx => List.all_eq_true.1 (List.all_eq_true.1 this p hp) x hx)) (v' := .slice (some ⟨w.heap.size, 0, none⟩) len len) ?_ ?_
  · have hrange : (Array.range (len * zv.cells.toList.length)).map (fun i => zv.cells[i % zv.cells.size]!) = (List.replicate len zv.cells.toList).flatten.toArray := by
      apply Array.toList_inj.1
      rw [← reps zv.cells.toList len hz0]
      simp
    have c1 : ¬ len * zv.cells.toList.length > 2 ^ 24 := by omega
    by_cases hl0 : len * zv.cells.toList.length = 0
    · have : len = 0 := by
        rcases Nat.mul_eq_zero.1 hl0 with h | h
        · exact h
        · exact absurd h hz0
      subst this
      simp only [List.replicate_zero, List.flatten_nil] at e1
      simp only [Instr.buildSlice, Sem.run_bind, run_underlying hu, Result.andThen_ok, run_sizeOf' h4, if_neg c1, hl0, if_true, Sem.run_pure]
      simp only [Array.range_zero', Array.map_empty, e1, Sem.run_bind, newRow, newObj, Sem.run, Sem.run_pure, Result.andThen_ok, List.append_nil]
      rfl
    · simp only [Instr.buildSlice, Sem.run_bind, run_underlying hu, Result.andThen_ok, run_sizeOf' h4, if_neg c1, if_neg hl0, h1, Sem.run_pure, hrange, e1, newRow, newObj, Sem.run, List.append_nil]
      rfl
  · exact VR.exact (l := ⟨w.heap.size, 0, _, _⟩) (o := 0) (next_loc hW)

theorem makeSlice_sound {H H' : Heap} (hW : WR base w0 φ H.bs w) {t : TypeId} {x y x' y' v : Value} (h : makeSliceA P H t x y = some (v, H')) (hx : VR φ x x') (hy : VR φ y y') (low : Nat) :
    Turns P base w0 φ H.bs low H'.bs w (Instr.makeSlice t x' y') v := by
  unfold makeSliceA at h
  split at h
  rotate_left
  · cases h
  rename_i e k n k' m he
  have hu := tElem_spec he
  split at h
  rotate_left
  · cases h
  rename_i z by' hz hby
  split at h
  rotate_left
  · cases h
  rename_i hcond
  obtain ⟨hz0, hn0, hnm, hm1, hm2⟩ := hcond
  cases h
  cases hx; cases hy
  obtain ⟨zv, h1, h2, h3, h4⟩ := run_zero' hz w
  subst h2
  obtain ⟨i, hi, hib⟩ : ∃ i, P.info? e = some i ∧ i.bytes = by' := by
    unfold tBytes at hby
    cases hi : P.info? e with
    | none => simp [hi] at hby
    | some i => simp [hi] at hby; exact ⟨i, rfl, hby⟩
  have hti : (typeInfo e).run P w = .ok i w := by simp [typeInfo, hi]
  have wn : IntKind.i64.wrap n = n := wrap_small n (by omega) (by omega)
  have wm : IntKind.i64.wrap m = m := wrap_small m (by omega) (by omega)
  have hsplit : (List.replicate m.toNat zv.cells.toList).flatten = (List.replicate n.toNat zv.cells.toList).flatten ++ (List.replicate (m.toNat - n.toNat) zv.cells.toList).flatten := by
    rw [← List.flatten_append, List.replicate_append_replicate]
    congr 2
    omega
  have hlen : ((List.replicate n.toNat zv.cells.toList).flatten.length + (List.replicate (m.toNat - n.toNat) zv.cells.toList).flatten.length) = m.toNat * zv.cells.toList.length := by
    rw [← List.length_append, ← hsplit]; simp
  refine new_turns hW (w1 := w) (xs := (List.replicate n.toNat zv.cells.toList).flatten) (rest := (List.replicate (m.toNat - n.toNat) zv.cells.toList).flatten) (e := e) rfl rfl rfl rfl
    (VRs.na0 (by simp only [List.all_flatten, List.all_replicate]; simp [h3])) (na0_one (by simp only [List.all_flatten, List.all_replicate]; simp [h3])) (v' := .slice (some ⟨w.heap.size, 0, none⟩) n.toNat m.toNat) ?_ ?_
  · rw [← hsplit]
    have c1 : ¬ (m < 0 ∨ (i.bytes : Int) * m > 2 ^ 48) := by rw [hib]; omega
    have c2 : ¬ ((decide (m < 0) || decide ((i.bytes : Int) * m > 2 ^ 48) || decide (n < 0) || decide (n > m)) = true) := by
      rw [hib]; simp only [Bool.or_eq_true, decide_eq_true_eq]; omega
    have hcells : (if m.toNat * zv.cells.toList.length = 0 then (#[] : Array Value) else zv.cells) = zv.cells ∨ m.toNat * zv.cells.toList.length = 0 := by
      by_cases h0 : m.toNat * zv.cells.toList.length = 0
      · exact .inr h0
      · left; rw [if_neg h0]
    have hrange : (Array.range (m.toNat * zv.cells.toList.length)).map (fun i => zv.cells[i % zv.cells.size]!) = (List.replicate m.toNat zv.cells.toList).flatten.toArray := by
      apply Array.toList_inj.1
      rw [← reps zv.cells.toList m.toNat hz0]
      simp
    by_cases h0 : m.toNat * zv.cells.toList.length = 0
    · have hm0 : m.toNat = 0 := by
        rcases Nat.mul_eq_zero.1 h0 with h | h
        · exact h
        · exact absurd h hz0
      simp only [Instr.makeSlice, Sem.run_bind, run_underlying hu, Result.andThen_ok, asInt, asIntOf, Sem.run_pure, hti, wn, wm, c2, if_false, run_askRoom, run_sizeOf' h4, h0, if_true, newRow, newObj, Sem.run]
      simp only [hm0, Sem.run_bind, run_askRoom, run_sizeOf' h4, Nat.zero_mul, if_true, Sem.run_pure, Sem.run, Array.range_zero', Array.map_empty, List.replicate_zero, List.flatten_nil, Bool.false_eq_true, if_false, Result.andThen_ok]
      rfl
    · simp only [Instr.makeSlice, Sem.run_bind, run_underlying hu, Result.andThen_ok, asInt, asIntOf, Sem.run_pure, hti, wn, wm, c2, if_false, run_askRoom, run_sizeOf' h4, if_neg h0, h1, newRow, newObj, Sem.run, hrange, Bool.false_eq_true]
      rfl
  · refine VR.slice (l := ⟨w.heap.size, 0, _, _⟩) (o := 0) (next_loc hW) (by omega) ?_
    simp only [Nat.zero_add]
    rw [hlen]
    exact Nat.le_refl _

/-! ### maps, texts that are ranged over -/
theorem push_obj {H : Heap} (hW : WR base w0 φ H.bs w) {B : Blk} {o : Obj} (hB : ∀ φ', BR base φ' B ⟨w.heap.size, 0, 0, 0⟩ (w.alloc o)) : WR base w0 (φ ++ [⟨w.heap.size, 0, 0, 0⟩]) (H.push B).bs (w.alloc o) ∧ ∀ low, Fr φ H.bs low w (w.alloc o) := by
  refine ⟨hW.push (l := ⟨w.heap.size, 0, 0, 0⟩) ⟨by simp, fun j hj _ => Below.heap_alloc _ _ _ hj⟩ (hW.below.alloc hW.size _) (fun _ => Nat.le_refl _) (hB _), fun low => Fr.of_old hW fun k o' hk => ?_⟩
  rw [Below.heap_alloc _ _ _ (Array.getElem?_eq_some_iff.1 hk).1]; exact hk

theorem makeMap_sound {H : Heap} (hW : WR base w0 φ H.bs w) (t : TypeId) (low : Nat) :
    Turns P base w0 φ H.bs low (H.push (.map [])).bs w (Instr.makeMap t none) (.map (some H.next)) := by
  obtain ⟨h1, h2⟩ := push_obj hW (B := .map []) (o := .map #[] 0) (fun φ' => ⟨hW.size, #[], 0, heap_alloc_new w _, rfl, fun i k v m p => by simp at p⟩)
  refine ⟨.map (some w.heap.size), w.alloc (.map #[] 0), _, ?_, Ext.snoc _ _, VR.map (l := ⟨w.heap.size, 0, 0, 0⟩) (next_loc hW), h1, h2 low⟩
  simp only [Instr.makeMap, Sem.run_bind, newObj, Sem.run, Result.andThen_ok, Sem.run_pure]
  rfl

theorem range_sound {H : Heap} (hW : WR base w0 φ H.bs w) {t : TypeId} {s : ByteArray} (hu : P.underlying t = some .string) (low : Nat) :
    Turns P base w0 φ H.bs low (H.push (.iter s 0)).bs w (Instr.range t (.string s)) (.pointer (some ⟨H.next, 0, none⟩)) := by
  obtain ⟨h1, h2⟩ := push_obj hW (B := .iter s 0) (o := .stringIter s 0) (fun φ' => ⟨hW.size, rfl, heap_alloc_new w _⟩)
  refine ⟨.pointer (some ⟨w.heap.size, 0, none⟩), w.alloc (.stringIter s 0), _, ?_, Ext.snoc _ _, VR.ptr (l := ⟨w.heap.size, 0, 0, 0⟩) (o := 0) (next_loc hW), h1, h2 low⟩
  simp only [Instr.range, Sem.run_bind, run_underlying hu, Result.andThen_ok, Sem.run_pure, newObj, Sem.run]
  rfl

theorem run_getObj {r : Nat} {o : Obj} {w : World} (h : w.heap[r]? = some o) (hn : ∀ c t f, o ≠ .cells c t f) : (getObj r).run P w = .ok o w := by
  unfold getObj
  simp only [Sem.run, h]
  try (split <;> first | (exfalso; exact hn _ _ _ rfl) | rfl)
theorem run_setObj {r : Nat} {o o' : Obj} {w : World} (h : w.heap[r]? = some o) (hn : ∀ c t f, o ≠ .cells c t f) : (setObj r o').run P w = .ok () (setBlk w r o') := by
  unfold setObj
  simp only [Sem.run, h]
  cases o <;> first | rfl | exact absurd rfl (hn _ _ _)

theorem next_turn {H H' : Heap} {it it' v : Value} (hW : WR base w0 φ H.bs w) (h : nextA H it = some (v, some H')) (hi : VR φ it it') (ty : TypeId) :
    Turns P base w0 φ H.bs H'.low H'.bs w (Instr.next it' true ty) v := by
  unfold nextA at h
  split at h
  rotate_left
  · cases h
  rename_i b
  split at h
  rotate_left
  · cases h
  rename_i s pos hg
  split at h
  rotate_left
  · simp at h
  rename_i hpos
  simp only [Option.some.injEq, Prod.mk.injEq] at h
  obtain ⟨rfl, rfl⟩ := h
  cases hi with
  | ptr hl =>
    rename_i l
    obtain ⟨l', hl', hbr⟩ := hW.loc hg
    rw [hl] at hl'; cases hl'
    obtain ⟨hb, hl0, hh⟩ := hbr
    have hlt := (Array.getElem?_eq_some_iff.1 hh).1
    refine ⟨.tuple #[.bool true, goInt pos, .int .i32 (Utf8.decode s pos).1], setBlk w l.blk (.stringIter s (pos + (Utf8.decode s pos).2)), φ, ?_, Ext.refl φ, VR.na (by rfl),
      hW.put (l := l) hg hl rfl (setBlk_but w l.blk _) (setBlk_below hW.below hb) ⟨hb, hl0, setBlk_get w _ _ hlt⟩, Fr.of_put hW hg hl rfl (Nat.min_le_right _ _)⟩
    have hz : l.off + 0 = 0 := by omega
    rw [hz]
    simp only [Instr.next, Sem.run_bind, run_getObj hh (by simp), Result.andThen_ok, if_pos hpos, run_setObj hh (by simp), Sem.run_pure]

theorem next_keep {H : Heap} {it it' v : Value} (hW : WR base w0 φ H.bs w) (h : nextA H it = some (v, none)) (hi : VR φ it it') (ty : TypeId) : Keeps P base w0 φ H.bs w (Instr.next it' true ty) v := by
  unfold nextA at h
  split at h
  rotate_left
  · cases h
  rename_i b
  split at h
  rotate_left
  · cases h
  rename_i s pos hg
  split at h
  · simp at h
  rename_i hpos
  simp only [Option.some.injEq, Prod.mk.injEq] at h
  obtain ⟨rfl, _⟩ := h
  cases hi with
  | ptr hl =>
    rename_i l
    obtain ⟨l', hl', hbr⟩ := hW.loc hg
    rw [hl] at hl'; cases hl'
    obtain ⟨hb, hl0, hh⟩ := hbr
    refine ⟨.tuple #[.bool false], VR.na (by rfl), fun w' hc => ?_⟩
    have hh' : w'.heap[l.blk]? = some (.stringIter s pos) := by rw [hc.same _ _ l hg (by simp) hl]; exact hh
    have hz : l.off + 0 = 0 := by omega
    rw [hz]
    simp only [Instr.next, Sem.run_bind, run_getObj hh' (by simp), Result.andThen_ok, if_neg hpos, Sem.run_pure]

theorem leaf_bits {k : Leaf} {x : Value} (h : leafOk k x = true) (n : Nat) : Instr.sameBits n x x = true := by
  unfold leafOk at h
  split at h
  · simp [Instr.sameBits]
  · simp [Instr.sameBits]
  · simp [Instr.sameBits, bytes_beq]
  · cases h
theorem leaves_bits {ks : List Leaf} {xs : List Value} (h : leavesOk ks xs = true) (n : Nat) : ((xs.zip xs).all fun (x, y) => Instr.sameBits n x y) = true := by
  induction ks generalizing xs with
  | nil => cases xs with
    | nil => rfl
    | cons _ _ => cases h
  | cons k ks ih =>
    cases xs with
    | nil => cases h
    | cons x xs =>
      simp only [leavesOk, Bool.and_eq_true] at h
      simp only [List.zip_cons_cons, List.all_cons, leaf_bits h.1, Bool.true_and]
      exact ih h.2
theorem keyFit_bits {kt : TypeId} {k : Value} (h : keyFit P kt k = true) : Instr.sameBits 10000 k k = true := by
  unfold keyFit at h
  split at h
  · show Instr.sameBits (9999 + 1) _ _ = true
    simp only [Instr.sameBits, beq_self_eq_true, Bool.true_and]
    exact leaves_bits h _
  · rename_i ks hc ha
    obtain ⟨kk, rfl⟩ := flat_one (tCmp_spec hc).2 ha
    simp only [leavesOk, Bool.and_true] at h
    exact leaf_bits h _
  · cases h

theorem mapUpdate_sound {H H' : Heap} {t : TypeId} {m k v m' k' v' : Value} (hW : WR base w0 φ H.bs w) (h : mapUpdateA P H t m k v = some H') (hm : VR φ m m') (hk : VR φ k k') (hv : VR φ v v') :
    ∃ w', (Instr.mapUpdate t m' k' v').run P w = .ok () w' ∧ WR base w0 φ H'.bs w' ∧ Fr φ H.bs H'.low w w' := by
  unfold mapUpdateA at h
  split at h
  rotate_left
  · cases h
  rename_i kt et hmp
  have hu := tMap_spec hmp
  split at h
  rotate_left
  · cases h
  rename_i hfit
  obtain rfl := keyFit_same hfit hk
  split at h
  rotate_left
  · cases h
  rename_i b
  split at h
  rotate_left
  · cases h
  rename_i es hg
  cases hm with
  | map hl =>
    rename_i l
    obtain ⟨l', hl', hbr⟩ := hW.loc hg
    rw [hl] at hl'; cases hl'
    obtain ⟨hb, es', cl, h1, h2, h3⟩ := hbr
    have hlt := (Array.getElem?_eq_some_iff.1 h1).1
    split at h
    · rename_i j va hf
      cases h
      obtain ⟨r', f1, f2⟩ := findKey_sound (φ := φ) hfit hf (by simpa using h2.symm) (fun j a m p q => h3 j a.1 a.2 m p q)
      cases r' with
      | none => exact f2.elim
      | some q =>
        obtain ⟨j', v2⟩ := q
        obtain ⟨rfl, g2, g3, g4⟩ := f2
        have hjlt : j < es'.size := by rw [h2]; exact (List.getElem?_eq_some_iff.1 g3).1
        obtain ⟨en, hen⟩ : ∃ en, es'[j]? = some en := ⟨es'[j], by simp [hjlt]⟩
        have hkey : en.key = k' := by
          have : es'.toList[j]? = some en := by simpa using hen
          rw [this] at g4; simpa using g4
        have hkeep : (Instr.keyThatStays (((es'[j]?).map (·.key)).getD k') k').run P w = .ok k' w := by
          rw [hen]
          simp only [Option.map_some, Option.getD_some, hkey, Instr.keyThatStays]
          rw [if_pos (keyFit_bits hfit)]
          rfl
        refine ⟨setBlk w l.blk (.map (es'.modify j fun e => { e with key := k', val := v' }) cl), ?_, hW.put (l := l) hg hl rfl (setBlk_but w l.blk _) (setBlk_below hW.below hb) ⟨hb, _, cl, setBlk_get w _ _ hlt, by simp [h2], ?_⟩, Fr.of_put hW hg hl rfl (Nat.min_le_right _ _)⟩
        · simp only [Instr.mapUpdate, Sem.run_bind, run_underlying hu, Result.andThen_ok, run_getObj h1 (by simp), keyFit_check hfit, f1, hkeep, run_setObj h1 (by simp)]
        · intro i k1 v1 m1 p q
          rw [List.getElem?_set] at p
          have q' : (es'.modify j fun e => { e with key := k', val := v' })[i]? = some m1 := by rw [Array.getElem?_toList] at q; exact q
          rw [Array.getElem?_modify] at q'
          by_cases hij : j = i
          · subst hij
            rw [if_pos rfl] at p q'
            split at p
            · cases p
              rw [hen] at q'
              simp only [Option.map_some, Option.some.injEq] at q'
              subst q'
              exact ⟨hk, hv⟩
            · cases p
          · rw [if_neg hij] at p q'
            exact h3 i k1 v1 m1 p (by simpa using q')
    · rename_i hf
      cases h
      obtain ⟨r', f1, f2⟩ := findKey_sound (φ := φ) hfit hf (by simpa using h2.symm) (fun j a m p q => h3 j a.1 a.2 m p q)
      cases r' with
      | some q => exact f2.elim
      | none =>
        refine ⟨setBlk w l.blk (.map (es'.push { key := k', val := v', born := cl }) (cl + 1)), ?_, hW.put (l := l) hg hl rfl (setBlk_but w l.blk _) (setBlk_below hW.below hb) ⟨hb, _, _, setBlk_get w _ _ hlt, by simp [h2], ?_⟩, Fr.of_put hW hg hl rfl (Nat.min_le_right _ _)⟩
        · simp only [Instr.mapUpdate, Sem.run_bind, run_underlying hu, Result.andThen_ok, run_getObj h1 (by simp), keyFit_check hfit, f1, run_setObj h1 (by simp)]
        · intro i k1 v1 m1 p q
          have q' : (es'.push { key := k', val := v', born := cl })[i]? = some m1 := by rw [Array.getElem?_toList] at q; exact q
          rw [Array.getElem?_push] at q'
          by_cases hi : i = es'.size
          · rw [if_pos hi] at q'
            cases q'
            rw [hi, h2] at p
            simp at p
            obtain ⟨rfl, rfl⟩ := p
            exact ⟨hk, hv⟩
          · rw [if_neg hi] at q'
            have hlt' : i < es.length := by have := (Array.getElem?_eq_some_iff.1 q').1; omega
            rw [List.getElem?_append_left hlt'] at p
            exact h3 i k1 v1 m1 p (by simpa using q')
    · cases h
end
end Go.Proofs.Ytcpolfjnbbodgaa.Ve
