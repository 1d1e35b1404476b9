/- append, copy and conversions that make memory. Conditions: none here. -/
import Derived.Test.YtcpolfjnbbodgaaVeTurn
namespace Go.Proofs.Ytcpolfjnbbodgaa.Ve
open Go Go.RowKit
set_option linter.unusedVariables false
set_option linter.unusedSimpArgs false

section
variable {P : Program} {base : Nat} {w0 : World} {φ : List Loc} {S : List Blk} {w : World}

/-- a block is given up, and its place is another one's -/
theorem WR.move {w' : World} (h : WR base w0 φ S w) {b : Nat} {B B2 : Blk} {l l2 : Loc} (hb : S[b]? = some B) (hl : φ[b]? = some l) (hm : B.mine = true)
    (hw : But w w' (some l.blk)) (hbel : Below base w0 w') (he : l2.blk = l.blk) (hB : BR base (φ ++ [l2]) B2 l2 w') : WR base w0 (φ ++ [l2]) (S.set b .dead ++ [B2]) w' := by
  have hx : Ext φ (φ ++ [l2]) := Ext.snoc φ l2
  have hlb := (h.blk b B l hb hl).lt hm
  have old : ∀ (c : Nat) C, (S.set b .dead ++ [B2])[c]? = some C → (c < S.length ∧ (C = .dead ∨ (c ≠ b ∧ S[c]? = some C))) ∨ (c = S.length ∧ C = B2) := by
    intro c C p
    by_cases hlt : c < S.length
    · left
      refine ⟨hlt, ?_⟩
      rw [List.getElem?_append_left (by simpa using hlt), List.getElem?_set] at p
      by_cases hcb : b = c
      · subst hcb; rw [if_pos rfl, if_pos hlt] at p; exact .inl (by simpa using p.symm)
      · rw [if_neg hcb] at p; exact .inr ⟨fun e => hcb e.symm, p⟩
    · right
      have : c < (S.set b .dead ++ [B2]).length := (List.getElem?_eq_some_iff.1 p).1
      simp at this
      obtain rfl : c = S.length := by omega
      rw [List.getElem?_append_right (by simp)] at p
      simp at p
      exact ⟨rfl, p.symm⟩
  have loc : ∀ (c : Nat) lc, c < S.length → (φ ++ [l2])[c]? = some lc → φ[c]? = some lc := fun c lc hc p => by rwa [List.getElem?_append_left (by rw [h.len]; exact hc)] at p
  have locn : ∀ lc, (φ ++ [l2])[S.length]? = some lc → lc = l2 := fun lc p => by rw [← h.len] at p; simp at p; exact p.symm
  have stay : ∀ (c : Nat) C lc, c ≠ b → S[c]? = some C → C ≠ .dead → φ[c]? = some lc → w'.heap[lc.blk]? = w.heap[lc.blk]? := by
    intro c C lc hcb p hd q
    by_cases hmC : C.mine = true
    · exact hw.2 _ ((h.blk c C lc p q).lt hmC).2 (by simp only [ne_eq, Option.some.injEq]; exact h.sep b c B C l lc (fun e => hcb e.symm) hb p hm hmC hl q)
    · cases C with
      | dead => exact absurd rfl hd
      | cells cc own sz =>
        have : own = false := by simpa [Blk.mine] using hmC
        subst this
        have := (h.blk c _ lc p q).below
        exact hw.2 _ (by have := h.size; omega) (by simp only [ne_eq, Option.some.injEq]; omega)
      | map es => exact absurd rfl hmC
      | iter s p => exact absurd rfl hmC
  refine ⟨by simp [h.len], hbel, Nat.le_trans h.size hw.1, fun c C lc p q => ?_, fun c c' C C' lc lc' hne p p' m m' q q' => ?_⟩
  · rcases old c C p with ⟨hlt, rfl | ⟨hcb, hS⟩⟩ | ⟨rfl, rfl⟩
    · trivial
    · have q := loc c lc hlt q
      by_cases hd : C = .dead
      · subst hd; trivial
      · exact (h.blk c C lc hS q).mono hx (stay c C lc hcb hS hd q)
    · rw [locn lc q]; exact hB
  · rcases old c C p with ⟨hlt, rfl | ⟨hcb, hS⟩⟩ | ⟨rfl, rfl⟩
    · cases m
    · rcases old c' C' p' with ⟨hlt', rfl | ⟨hcb', hS'⟩⟩ | ⟨rfl, rfl⟩
      · cases m'
      · exact h.sep c c' C C' lc lc' hne hS hS' m m' (loc c lc hlt q) (loc c' lc' hlt' q')
      · rw [locn lc' q', he]
        exact h.sep c b C B lc l hcb hS hb m hm (loc c lc hlt q) hl
    · rcases old c' C' p' with ⟨hlt', rfl | ⟨hcb', hS'⟩⟩ | ⟨rfl, rfl⟩
      · cases m'
      · rw [locn lc q, he]
        exact fun e => h.sep c' b C' B lc' l hcb' hS' hb m' hm (loc c' lc' hlt' q') hl e.symm
      · exact absurd rfl hne

theorem sliceCells_len {H : Heap} {size n c : Nat} {a : Option Addr} {l : List Value} (h : sliceCells H size (.slice a n c) = some l) : l.length = n * size := by
  unfold sliceCells at h
  split at h
  · rename_i e; cases e; cases h; simp
  · rename_i e; cases e
    split at h
    · rename_i h0; cases h; subst h0; simp
    · split at h
      · split at h
        · cases h; simp; omega
        · cases h
      · cases h
  · cases h
theorem sliceCells_one {H : Heap} (hW : WR base w0 φ H.bs w) {size n c : Nat} {a : Option Addr} {l : List Value} (h : sliceCells H size (.slice a n c) = some l) : ∀ x ∈ l, x.oneCell' = true := by
  unfold sliceCells at h
  split at h
  · cases h; intro x hx; cases hx
  · split at h
    · cases h; intro x hx; cases hx
    · split at h
      · rename_i cs own sz hg
        split at h
        · cases h
          obtain ⟨l, hl, hbr⟩ := hW.loc hg
          exact fun x hx => hbr.2.1 x (List.mem_of_mem_drop (List.mem_of_mem_take hx))
        · cases h
      · cases h
  · cases h
theorem added_one {H : Heap} (hW : WR base w0 φ H.bs w) {xt : Option TypeId} {size n : Nat} {x : Value} {xs : List Value} (h : addedA P H size xt x = some (n, xs)) : (∀ x ∈ xs, x.oneCell' = true) ∧ xs.length = n * size := by
  unfold addedA at h
  split at h
  · simp only [Option.map_eq_some_iff, Prod.mk.injEq] at h
    obtain ⟨l, hl, rfl, rfl⟩ := h
    exact ⟨sliceCells_one hW hl, sliceCells_len hl⟩
  · split at h
    · rename_i hs
      simp only [Option.some.injEq, Prod.mk.injEq] at h
      obtain ⟨rfl, rfl⟩ := h
      subst hs
      exact ⟨fun x hx => by obtain ⟨b, _, rfl⟩ := List.mem_map.1 hx; rfl, by simp⟩
    · cases h
  · cases h

theorem append_keep {H : Heap} {ts : List TypeId} {s x s' x' v : Value} (hW : WR base w0 φ H.bs w) (h : appendA P H ts s x = some (v, none)) (hs : VR φ s s') (hx : VR φ x x') (ty : TypeId) :
    Keeps P base w0 φ H.bs w (Builtin.append_ ts.toArray ty #[s', x']) v := by
  unfold appendA at h
  split at h
  · cases h
  rename_i e he
  split at h
  rotate_left
  · cases h
  rename_i size by' z hsz hby hz
  split at h
  · cases h
  rename_i hnz
  split at h
  · cases h
  rename_i n xs hadd
  obtain ⟨xs', hv, hl, hrun⟩ := added_run hW he hsz hby hz (fun h => hnz (.inr h)) hadd hx
  have fin : ∀ a m c, n = 0 → m ≤ c → s' = .slice a m c → VR φ v (.slice a m c) → Keeps P base w0 φ H.bs w (Builtin.append_ ts.toArray ty #[s', x']) v := by
    intro a m c h0 hmc hs' hvv
    subst h0 hs'
    have hx0 : xs' = [] := List.length_eq_zero_iff.1 (by simpa using hl)
    subst hx0
    refine ⟨_, hvv, fun w' hc => ?_⟩
    rw [(hrun w' hc a m c ty (.inr rfl) (fun _ => hmc)).1 (by omega)]
    cases a <;> simp [storeCells]
  split at h
  · split at h
    · rename_i h0; cases h; cases hs; exact fin none 0 0 h0 (Nat.le_refl _) rfl .nilslice
    · split at h <;> simp at h
  · rename_i b o len c
    split at h
    · rename_i h0
      cases h
      have hs2 := hs
      cases hs with
      | slice0 => exact fin _ _ _ h0 (Nat.le_refl _) rfl hs2
      | exact hl' => exact fin _ _ _ h0 (Nat.le_refl _) rfl hs2
      | slice hl' hn hc => exact fin _ _ _ h0 hn rfl hs2
    · split at h
      · split at h
        · split at h
          · split at h
            · simp at h
            · split at h <;> simp at h
          · cases h
        · cases h
      · cases h
  · cases h

/-- the cells that are appended to, as the model reads them -/
theorem old_cells {H : Heap} (hW : WR base w0 φ H.bs w) {b o len c size : Nat} {cs : List Value} {own : Bool} {sz : Nat} {x' : Value} (hg : H.get b = some (.cells cs own sz)) (hle : o + len * size ≤ cs.length)
    (hx : VR φ (.slice (some ⟨b, o, none⟩) len c) x') : ∃ a' c' old, x' = .slice a' len c' ∧ VRs φ ((cs.drop o).take (len * size)) old ∧ ∀ w2, Cls base w0 φ H.bs w w2 → (Builtin.firstCells size len x').run P w2 = .ok old.toArray w2 := by
  have : sliceCells H size (.slice (some ⟨b, o, none⟩) len c) = some ((cs.drop o).take (len * size)) := by
    simp only [sliceCells]
    by_cases h0 : len = 0
    · subst h0; simp
    · rw [if_neg h0, hg]
      simp only
      rw [if_pos hle]
  obtain ⟨a', c', old, e, h1, h2, h3⟩ := sliceCells_sound hW this hx
  exact ⟨a', c', old, e, h2, fun w2 hc => by rw [h3 w2 hc _ (Nat.le_refl _), List.take_of_length_le (by omega)]⟩

theorem append_turn {H H' : Heap} {ts : List TypeId} {s x s' x' v : Value} (hW : WR base w0 φ H.bs w) (h : appendA P H ts s x = some (v, some H')) (hs : VR φ s s') (hx : VR φ x x') (ty : TypeId) :
    Turns P base w0 φ H.bs H'.low H'.bs w (Builtin.append_ ts.toArray ty #[s', x']) v := by
  unfold appendA at h
  split at h
  · cases h
  rename_i e he
  split at h
  rotate_left
  · cases h
  rename_i size by' z hsz hby hz
  split at h
  · cases h
  rename_i hnz
  split at h
  · cases h
  rename_i n xs hadd
  obtain ⟨xs', hv, hl, hrun⟩ := added_run hW he hsz hby hz (fun h => hnz (.inr h)) hadd hx
  obtain ⟨hone, hxl⟩ := added_one hW hadd
  split at h
  · -- of nothing
    split at h
    · simp at h
    rename_i hn0
    split at h
    rotate_left
    · simp at h
    rename_i hbd
    simp only [Option.some.injEq, Prod.mk.injEq] at h
    obtain ⟨rfl, rfl⟩ := h
    cases hs
    obtain ⟨k, rest, hrl, hr⟩ := (hrun w hW.cls none 0 0 ty (.inl (by simpa using hbd)) (fun h => absurd h hn0)).2 (by omega) [] (fun w2 _ => by simp [Builtin.firstCells])
    refine new_turns hW (w1 := w.drew) (xs := xs') (rest := rest) (e := e) rfl rfl rfl rfl hv hone (v' := .slice (some ⟨w.heap.size, 0, none⟩) n (n + k)) (by simpa using hr) ?_
    refine VR.slice (l := ⟨w.heap.size, 0, _, _⟩) (o := 0) (next_loc hW) (by omega) ?_
    simp only [Nat.zero_add, hl, hrl, ← Nat.add_mul]
    exact Nat.le_refl _
  · rename_i b o len c
    split at h
    · simp at h
    rename_i hn0
    split at h
    rotate_left
    · cases h
    rename_i hbd
    split at h
    rotate_left
    · cases h
    rename_i cs own sz hg
    split at h
    rotate_left
    · cases h
    rename_i hcond
    obtain ⟨hle, rfl⟩ := hcond
    have hs2 := hs
    obtain ⟨a', c', old, rfl, hold, hfirst⟩ := old_cells (P := P) hW hg hle hs2
    have hcone : ∀ x ∈ (cs.drop o).take (len * sz) ++ xs, x.oneCell' = true := by
      intro x hx
      obtain ⟨l, hl', hbr⟩ := hW.loc hg
      rcases List.mem_append.1 hx with hx | hx
      · exact hbr.2.1 x (List.mem_of_mem_drop (List.mem_of_mem_take hx))
      · exact hone x hx
    have hol : old.length = len * sz := by rw [← hold.1]; simp; omega
    -- a new row
    have grow : ∀ (low : Nat) (S' : List Blk), WR base w0 φ S' w → ¬ len + n ≤ c' → S'.length = H.bs.length → (∀ low, ∀ w', (∀ (k : Nat) (o : Obj), w.heap[k]? = some o → w'.heap[k]? = some o) → Fr φ H.bs low w w') →
        Turns P base w0 φ H.bs low (S' ++ [.cells ((cs.drop o).take (len * sz) ++ xs) true sz]) w (Builtin.append_ ts.toArray ty #[.slice a' len c', x']) (.slice (some ⟨H.next, 0, none⟩) (len + n) (len + n + 1)) := by
      intro low S' hW' hnf hlen hfr
      obtain ⟨k, rest, hrl, hr⟩ := (hrun w hW.cls a' len c' ty (.inl hbd) (fun h => absurd h hn0)).2 hnf old hfirst
      obtain ⟨h1, h2⟩ := hW'.alloc (w1 := w.drew) (c := (cs.drop o).take (len * sz) ++ xs) (xs := old ++ xs') (rest := rest) (e := e) (sz := sz) rfl rfl rfl rfl (hold.append hv) hcone
      refine ⟨_, _, _, hr, Ext.snoc _ _, ?_, h1, hfr low _ h2⟩
      refine VR.slice (l := ⟨w.heap.size, 0, (old ++ xs').length + rest.length, sz⟩) (o := 0) ?_ (by omega) ?_
      · have := next_loc hW' (l := ⟨w.heap.size, 0, (old ++ xs').length + rest.length, sz⟩)
        rw [hlen] at this; exact this
      · simp only [Nat.zero_add, List.length_append, hol, hl, hrl, ← Nat.add_mul]
        exact Nat.le_refl _
    split at h
    · rename_i hcl
      subst hcl
      simp only [Option.some.injEq, Prod.mk.injEq] at h
      obtain ⟨rfl, rfl⟩ := h
      refine grow _ H.bs hW ?_ rfl (fun low w' hk => Fr.of_old hW hk)
      cases hs2 with
      | slice0 => omega
      | exact => omega
    · rename_i hcl
      split at h
      rotate_left
      · cases h
      rename_i hown
      subst hown
      simp only [Option.some.injEq, Prod.mk.injEq] at h
      obtain ⟨rfl, rfl⟩ := h
      by_cases hfit : len + n ≤ c'
      · -- in place
        cases hs2 with
        | slice0 => omega
        | exact => exact absurd rfl hcl
        | slice hlb hn hc =>
          rename_i l
          obtain ⟨l', hl', hbr⟩ := hW.loc hg
          rw [hlb] at hl'; cases hl'
          obtain ⟨h0, hcone0, h1, h2, h3⟩ := hbr
          obtain ⟨hb, hcap, cs2, tt, fz, hh, hsz2, hfz⟩ := h3 rfl
          rw [h0] at hc
          have hroom : o + len * sz + n * sz ≤ l.cap := by
            have : (len + n) * sz ≤ c' * sz := Nat.mul_le_mul_right _ hfit
            rw [Nat.add_mul] at this; omega
          have hone' : ∀ v ∈ xs', v.oneCell' = true := by
            intro v hvm
            obtain ⟨i, hi⟩ := List.getElem?_of_mem hvm
            have hi' : i < xs.length := by rw [hv.1]; exact (List.getElem?_eq_some_iff.1 hi).1
            have := hv.2 i xs[i] v (by simp [hi']) hi
            rw [this.oneCell]
            exact hone _ (by simp)
          have hst := storeCells_run (P := P) l.blk (l.off + o + len * sz) tt fz xs' 0 cs2 w hh (by omega) (fun p hp => hfz p (by omega)) hone'
          have hlt := (Array.getElem?_eq_some_iff.1 hh).1
          refine ⟨.slice (some ⟨l.blk, l.off + o, none⟩) (len + n) c', setBlk w l.blk (.cells (splice cs2.toList (l.off + o + len * sz + 0) xs').toArray tt fz), φ ++ [⟨l.blk, l.off + o, l.cap - o, sz⟩], ?_, Ext.snoc _ _, ?_, ?_, ?_⟩
          · rw [(hrun w hW.cls _ len c' ty (.inl hbd) (fun h => absurd h hn0)).1 hfit]
            simp only [Addr.add_none, hst, Result.andThen_ok]
          · refine VR.slice (l := ⟨l.blk, l.off + o, l.cap - o, sz⟩) (o := 0) ?_ hfit ?_
            · have := next_loc hW (l := ⟨l.blk, l.off + o, l.cap - o, sz⟩)
              simpa [Heap.next, Heap.put] using this
            · simp only [Nat.zero_add]; omega
          · refine hW.move hg hlb rfl (setBlk_but w l.blk _) (setBlk_below hW.below hb) (l2 := ⟨l.blk, l.off + o, l.cap - o, sz⟩) rfl ?_
            have hxx := Ext.snoc φ ⟨l.blk, l.off + o, l.cap - o, sz⟩
            have cellv : ∀ j, (setBlk w l.blk (.cells (splice cs2.toList (l.off + o + len * sz + 0) xs').toArray tt fz)).cell? ⟨l.blk, j, none⟩ = (splice cs2.toList (l.off + o + len * sz) xs')[j]? := by
              intro j
              unfold World.cell?
              simp [setBlk_get w _ _ hlt]
            have hbig : l.off + o + len * sz + xs'.length ≤ cs2.toList.length := by
              have : cs2.toList.length = cs2.size := by simp
              omega
            refine ⟨rfl, hcone, fun i y hy => ?_, (by intro hf; cases hf), fun _ => ⟨hb, ?_, _, tt, fz, setBlk_get w _ _ hlt, ?_, fun i hi => ?_⟩⟩
            · rw [cellv, splice_get _ _ _ _ hbig]
              have hdl : ((cs.drop o).take (len * sz)).length = len * sz := by simp; omega
              by_cases hi : i < len * sz
              · rw [List.getElem?_append_left (by rw [hdl]; exact hi), List.getElem?_take, if_pos hi, List.getElem?_drop] at hy
                obtain ⟨z, hz', hvz⟩ := h1 _ y hy
                refine ⟨z, ?_, hvz.mono hxx⟩
                rw [if_neg (by show ¬ (l.off + o + len * sz ≤ l.off + o + i ∧ _); omega)]
                unfold World.cell? at hz'
                simp only [hh, Option.isSome_none, Bool.false_eq_true, if_false] at hz'
                show cs2.toList[l.off + o + i]? = some z
                rw [Array.getElem?_toList, Nat.add_assoc]; exact hz'
              · rw [List.getElem?_append_right (by rw [hdl]; omega), hdl] at hy
                obtain ⟨z, hz', hvz⟩ := hv.get hy
                refine ⟨z, ?_, hvz.mono hxx⟩
                have hzl : i - len * sz < xs'.length := (List.getElem?_eq_some_iff.1 hz').1
                rw [if_pos (by show l.off + o + len * sz ≤ l.off + o + i ∧ l.off + o + i < l.off + o + len * sz + xs'.length; omega)]
                show xs'[l.off + o + i - (l.off + o + len * sz)]? = some z
                rw [show l.off + o + i - (l.off + o + len * sz) = i - len * sz by omega]; exact hz'
            · show ((cs.drop o).take (len * sz) ++ xs).length ≤ l.cap - o
              simp only [List.length_append, List.length_take, List.length_drop, hxl]; omega
            · show l.off + o + (l.cap - o) ≤ _
              simp [splice_length]; omega
            · have := hfz i (by have : i < l.off + o + (l.cap - o) := hi; omega)
              unfold World.frozen? at this ⊢
              simp only [hh] at this
              simp only [setBlk_get w _ _ hlt]
              exact this
          · exact Fr.of_put hW hg hlb rfl (Nat.min_le_right _ _)
      · exact grow _ (H.bs.set b .dead) (hW.kill b) hfit (by simp) (fun low w' hk => Fr.of_old hW hk)
  · cases h

/-! ### copy -/
theorem copy_run {H : Heap} (hW : WR base w0 φ H.bs w) {ts : List TypeId} {e size : Nat} (he : ts.head?.bind (tElem P) = some e) (hs : tSize P e = some size) {sa : Option Addr} {sn sc dn : Nat} {s' : Value} {ys : List Value}
    (hx : sliceCells H size (.slice sa sn sc) = some ys) (hv : VR φ (.slice sa sn sc) s') :
    ∃ xs', VRs φ (ys.take (min sn dn * size)) xs' ∧ ∀ w', Cls base w0 φ H.bs w w' → ∀ da dc ty, (Builtin.copy_ ts.toArray ty #[.slice da dn dc, s']).run P w' =
      ((match da with | some a => (storeCells a xs').run P w' | none => .ok () w').andThen fun _ w2 => .ok (goInt (min sn dn : Nat)) w2) := by
  obtain ⟨t, ts, rfl⟩ : ∃ t r, ts = t :: r := by cases ts with
    | nil => simp at he
    | cons t r => exact ⟨t, r, rfl⟩
  have hu := tElem_spec (by simpa using he)
  obtain ⟨a', c', l', rfl, h1, h2, h3⟩ := sliceCells_sound (P := P) hW hx hv
  refine ⟨l'.take (min sn dn * size), h2.take _, fun w' hc da dc ty => ?_⟩
  have g0 : (t :: ts).toArray[0]? = some t := by simp
  have hf := h3 w' hc (min sn dn) (Nat.min_le_left _ _)
  have hmin : Nat.min sn dn = min sn dn := rfl
  simp only [Builtin.copy_]
  simp only [g0, List.getElem?_toArray, List.getElem?_cons_zero, List.getElem?_cons_succ, Sem.run_bind, run_underlying hu, Result.andThen_ok, run_sizeOf' hs, Builtin.lenOf, Sem.run_pure, hmin, hf]
  cases da with
  | none => simp only [Sem.run_pure, Result.andThen_ok]
  | some a => simp only [Sem.run_bind, Sem.run_pure]

theorem copy_keep {H : Heap} {ts : List TypeId} {d s d' s' v : Value} (hW : WR base w0 φ H.bs w) (h : copyA P H ts d s = some (v, none)) (hd : VR φ d d') (hs : VR φ s s') (ty : TypeId) :
    Keeps P base w0 φ H.bs w (Builtin.copy_ ts.toArray ty #[d', s']) v := by
  unfold copyA at h
  split at h
  · cases h
  rename_i e he
  split at h
  rotate_left
  · cases h
  rename_i size da dn dc hsz
  split at h
  · cases h
  split at h
  rotate_left
  · cases h
  rename_i sa sn sc
  split at h
  rotate_left
  · cases h
  rename_i ys hys
  split at h
  · rename_i h0
    cases h
    obtain ⟨xs', hv, hrun⟩ := copy_run (P := P) hW he hsz (dn := dn) hys hs
    have hx0 : xs' = [] := by have := hv.1; rw [h0] at this; simp at this; exact List.length_eq_zero_iff.1 this.symm
    subst hx0
    have hd' : ∃ a c, d' = .slice a dn c := by cases hd <;> exact ⟨_, _, rfl⟩
    obtain ⟨a, c, rfl⟩ := hd'
    refine ⟨goInt 0, VR.na (by rfl), fun w' hc => ?_⟩
    rw [hrun w' hc a c ty, h0]
    cases a <;> simp [storeCells]
  · split at h
    · split at h
      · split at h <;> simp at h
      · cases h
    · cases h

theorem copy_turn {H H' : Heap} {ts : List TypeId} {d s d' s' v : Value} (hW : WR base w0 φ H.bs w) (h : copyA P H ts d s = some (v, some H')) (hd : VR φ d d') (hs : VR φ s s') (ty : TypeId) :
    Turns P base w0 φ H.bs H'.low H'.bs w (Builtin.copy_ ts.toArray ty #[d', s']) v := by
  unfold copyA at h
  split at h
  · cases h
  rename_i e he
  split at h
  rotate_left
  · cases h
  rename_i size da dn dc hsz
  split at h
  · cases h
  split at h
  rotate_left
  · cases h
  rename_i sa sn sc
  split at h
  rotate_left
  · cases h
  rename_i ys hys
  split at h
  · simp at h
  rename_i h0
  split at h
  rotate_left
  · cases h
  rename_i b o
  split at h
  rotate_left
  · cases h
  rename_i cs sz hg
  split at h
  rotate_left
  · cases h
  rename_i hle
  simp only [Option.some.injEq, Prod.mk.injEq] at h
  obtain ⟨rfl, rfl⟩ := h
  obtain ⟨xs', hv, hrun⟩ := copy_run (P := P) hW he hsz (dn := dn) hys hs
  have hxl : (ys.take (min sn dn * size)).length = min sn dn * size := by
    have := sliceCells_len hys
    rw [List.length_take, this]
    exact Nat.min_eq_left (Nat.mul_le_mul_right _ (Nat.min_le_left _ _))
  have hd' : ∃ l c, φ[b]? = some l ∧ d' = .slice (some ⟨l.blk, l.off + o, none⟩) dn c := by
    cases hd with
    | slice0 => exfalso; omega
    | exact h => exact ⟨_, _, h, rfl⟩
    | slice h => exact ⟨_, _, h, rfl⟩
  obtain ⟨l, c, hl, rfl⟩ := hd'
  obtain ⟨l', hl', hbr⟩ := hW.loc hg
  rw [hl] at hl'; cases hl'
  obtain ⟨g0, hcone, h1, h2, h3⟩ := hbr
  obtain ⟨hb, hcap, cs2, tt, fz, hh, hsz2, hfz⟩ := h3 rfl
  have hyone := sliceCells_one hW hys
  have hone' : ∀ v ∈ xs', v.oneCell' = true := by
    intro v hvm
    obtain ⟨i, hi⟩ := List.getElem?_of_mem hvm
    obtain ⟨x, hx⟩ : ∃ x, (ys.take (min sn dn * size))[i]? = some x := by
      have hi' : i < (ys.take (min sn dn * size)).length := by rw [hv.1]; exact (List.getElem?_eq_some_iff.1 hi).1
      exact ⟨_, List.getElem?_eq_getElem hi'⟩
    rw [(hv.2 i x v hx hi).oneCell]
    exact hyone x (List.mem_of_mem_take (List.mem_of_getElem? hx))
  have hxl' : xs'.length = min sn dn * size := by rw [← hv.1]; exact hxl
  have hst := storeCells_run (P := P) l.blk (l.off + o) tt fz xs' 0 cs2 w hh (by omega) (fun p hp => hfz p (by omega)) hone'
  have hlt := (Array.getElem?_eq_some_iff.1 hh).1
  refine ⟨goInt (min sn dn : Nat), setBlk w l.blk (.cells (splice cs2.toList (l.off + o + 0) xs').toArray tt fz), φ, ?_, Ext.refl φ, VR.na (by rfl), hW.put (l := l) hg hl rfl (setBlk_but w l.blk _) (setBlk_below hW.below hb) ?_, Fr.of_put hW hg hl rfl (Nat.min_le_right _ _)⟩
  · rw [hrun w hW.cls _ c ty]
    simp only [hst, Result.andThen_ok]
  · refine ⟨g0, fun v hv' => (mem_splice _ _ _ v hv').elim (hcone v) (fun h => hyone v (List.mem_of_mem_take h)), fun i y hy => ?_, (by intro hf; cases hf), fun _ => ⟨hb, by rw [splice_length]; exact hcap, _, tt, fz, setBlk_get w _ _ hlt, by simp [splice_length]; exact hsz2, fun i hi => ?_⟩⟩
    · rw [splice_get _ _ _ _ (by rw [hxl]; exact hle)] at hy
      have cellv : ∀ j, (setBlk w l.blk (.cells (splice cs2.toList (l.off + o + 0) xs').toArray tt fz)).cell? ⟨l.blk, j, none⟩ = (splice cs2.toList (l.off + o) xs')[j]? := by
        intro j
        unfold World.cell?
        simp [setBlk_get w _ _ hlt]
      rw [cellv, splice_get _ _ _ _ (by have : cs2.toList.length = cs2.size := by simp
                                        omega)]
      rw [hxl] at hy
      split at hy
      · rename_i hin
        obtain ⟨z, hz, hvz⟩ := hv.get hy
        refine ⟨z, ?_, hvz⟩
        rw [if_pos (by omega), show l.off + i - (l.off + o) = i - o by omega]
        exact hz
      · rename_i hin
        obtain ⟨z, hz, hvz⟩ := h1 i y hy
        refine ⟨z, ?_, hvz⟩
        rw [if_neg (by omega)]
        unfold World.cell? at hz
        simpa [hh] using hz
    · have := hfz i hi
      unfold World.frozen? at this ⊢
      simp only [hh] at this
      simp only [setBlk_get w _ _ hlt]
      exact this

/-! ### conversions -/
theorem conv_keep {H : Heap} {src dst : TypeId} {x x' v : Value} (hW : WR base w0 φ H.bs w) (h : convA P H src dst x = some (v, none)) (hx : VR φ x x') : Keeps P base w0 φ H.bs w (convert src dst x') v := by
  unfold convA at h
  split at h
  · rename_i d k k0 n hs hd
    cases h; cases hx
    refine ⟨_, .int _ _, fun w' _ => ?_⟩
    simp only [convert, Sem.run_bind, run_underlying hs, run_underlying hd, Result.andThen_ok]
    cases d <;> simp [Conv.intToInt]
  · rename_i d s hs hd
    cases h; cases hx
    refine ⟨_, .string _, fun w' _ => ?_⟩
    simp only [convert, Sem.run_bind, run_underlying hs, run_underlying hd, Result.andThen_ok]
    cases d <;> simp
  · rename_i e a n c hs hd
    split at h
    rotate_left
    · cases h
    rename_i he
    split at h
    rotate_left
    · cases h
    rename_i l hl
    cases h
    simp only [Option.bind_eq_some_iff] at hl
    obtain ⟨cs, hcs, hm⟩ := hl
    obtain ⟨a', c', l', rfl, h1, h2, h3⟩ := sliceCells_sound (P := P) hW hcs hx
    have := mapM_byteOf hm h2
    subst this
    refine ⟨_, .string _, fun w' hc => ?_⟩
    have hf := h3 w' hc n (Nat.le_refl _)
    rw [List.take_of_length_le (by omega)] at hf
    simp only [convert, Sem.run_bind, run_underlying hs, run_underlying hd, Result.andThen_ok, run_underlying he, Conv.bytesToString]
    cases a' with
    | none =>
      simp only [Builtin.firstCells, Sem.run_pure, Result.ok.injEq, and_true] at hf
      have hl0 : l' = [] := by have := congrArg Array.toList hf; simpa using this.symm
      subst hl0
      simp at hm
      subst hm
      simp only [Sem.run_pure]
      rfl
    | some a' =>
      simp only [Builtin.firstCells, Nat.mul_one] at hf
      simp only [Sem.run_bind, hf, Result.andThen_ok]
      rw [← Array.forIn_toList]
      have := bytes_loop (P := P) l' ByteArray.empty l w' hm
      simp only [List.toList_toArray] at this ⊢
      refine (congrArg (fun r => Result.andThen r _) this).trans ?_
      simp only [Result.andThen_ok, Sem.run_pure]
      have he0 : ByteArray.empty.data = #[] := rfl
      rw [he0, Array.empty_append]
  · rename_i d e s hs hd
    split at h
    · cases h
    · cases h
    · cases h
  · cases h

theorem freeze_heap (w : World) (g n : Nat) (cs : Array Value) (t : TypeId) (hg : w.heap[g]? = some (.cells cs t (0, 0))) : (w.freeze ⟨g, n, none⟩ 1) = setBlk w g (.cells cs t (n, n + 1)) := by
  unfold World.freeze setBlk
  simp only [Nat.one_ne_zero, if_false]
  congr 1
  apply Array.ext_getElem?
  intro i
  rw [Array.getElem?_modify, Array.getElem?_setIfInBounds]
  by_cases hi : g = i
  · subst hi
    have hlt := (Array.getElem?_eq_some_iff.1 hg).1
    simp only [if_true, hg, Option.map_some, hlt, beq_self_eq_true]
  · simp [hi]

theorem strBytes_turns {H : Heap} (hW : WR base w0 φ H.bs w) (e : TypeId) (s : ByteArray) (low : Nat) :
    Turns P base w0 φ H.bs low (H.push (.cells (s.data.toList.map byteV) true 1)).bs w (Conv.stringToBytes e s) (.slice (some ⟨H.next, 0, none⟩) s.size (s.size + 1)) := by
  have hch : (choose (Question.appendCap s.size 0 e)).run P w = .ok (s.size + w.tape w.drawn (.appendCap s.size 0 e) % (2 ^ 63 - s.size)) w.drew := by
    rw [run_choose, if_neg (by simp [Question.forced])]; rfl
  generalize hk : w.tape w.drawn (.appendCap s.size 0 e) % (2 ^ 63 - s.size) = k at hch
  have hlen : (s.data.toList.map byteV).length = s.size := by simp
  have hv : VRs φ (s.data.toList.map byteV) (s.data.toList.map byteV) := VRs.map _ _ _ (fun b _ => .int _ _)
  have hone : ∀ x ∈ s.data.toList.map byteV, x.oneCell' = true := fun x hx => by obtain ⟨b, _, rfl⟩ := List.mem_map.1 hx; rfl
  have hold : ∀ j, j < w.heap.size → (w.drew.alloc (.cells (s.data.toList.map byteV ++ List.replicate k (Value.int .u8 0)).toArray e)).heap[j]? = w.heap[j]? := fun j hj => Below.heap_alloc _ _ _ hj
  have hnew : (w.drew.alloc (.cells (s.data.toList.map byteV ++ List.replicate k (Value.int .u8 0)).toArray e)).heap[w.heap.size]? = some (.cells (s.data.toList.map byteV ++ List.replicate k (Value.int .u8 0)).toArray e (0, 0)) := heap_alloc_new w.drew _
  have hrun : (Conv.stringToBytes e s).run P w = .ok (.slice (some ⟨w.heap.size, 0, none⟩) s.size (s.size + k))
      (setBlk (w.drew.alloc (.cells (s.data.toList.map byteV ++ List.replicate k (Value.int .u8 0)).toArray e)) w.heap.size (.cells (s.data.toList.map byteV ++ List.replicate k (Value.int .u8 0)).toArray e (s.size + k, s.size + k + 1))) := by
    have harr : Array.map (fun b => Value.int IntKind.u8 ↑b.toNat) s.data ++ Array.replicate (s.size + k - s.size) (Value.int IntKind.u8 0) = (s.data.toList.map byteV ++ List.replicate k (Value.int .u8 0)).toArray := by
      apply Array.toList_inj.1
      simp only [Array.toList_append, Array.toList_map, Array.toList_replicate]
      rw [show s.size + k - s.size = k by omega]
      rfl
    have hsh : (w.drew.alloc (.cells (s.data.toList.map byteV ++ List.replicate k (Value.int .u8 0)).toArray e)).shape? w.heap.size = some (e, s.size + k) := by
      unfold World.shape?
      rw [hnew]
      simp
    simp only [Conv.stringToBytes, Sem.run_bind, hch, Result.andThen_ok, newRow, newObj, Sem.run, Sem.run_pure, markStringish, run_shape, harr]
    have e1 : w.drew.heap.size = w.heap.size := rfl
    simp only [e1, World.alloc_eq, hsh, run_freeze, freeze_heap _ _ _ _ _ hnew, Result.andThen_ok]
  have hbut : But w (setBlk (w.drew.alloc (.cells (s.data.toList.map byteV ++ List.replicate k (Value.int .u8 0)).toArray e)) w.heap.size (.cells (s.data.toList.map byteV ++ List.replicate k (Value.int .u8 0)).toArray e (s.size + k, s.size + k + 1))) none :=
    ⟨by simp [setBlk], fun j hj _ => by rw [setBlk_other _ _ _ _ (by omega)]; exact hold j hj⟩
  refine ⟨_, _, φ ++ [⟨w.heap.size, 0, s.size + k, 1⟩], hrun, Ext.snoc _ _, ?_, hW.push hbut ?_ (fun _ => Nat.le_refl _) ?_, Fr.of_old hW fun j o hj => ?_⟩
  · refine VR.slice (l := ⟨w.heap.size, 0, s.size + k, 1⟩) (o := 0) (next_loc hW) (by omega) (by simp)
  · exact setBlk_below ((hW.below.drew).alloc hW.size _) hW.size
  · have hget := setBlk_get (w.drew.alloc (.cells (s.data.toList.map byteV ++ List.replicate k (Value.int .u8 0)).toArray e)) w.heap.size (.cells (s.data.toList.map byteV ++ List.replicate k (Value.int .u8 0)).toArray e (s.size + k, s.size + k + 1)) (by simp)
    refine ⟨rfl, hone, fun i x hi => ?_, (by intro hf; cases hf), fun _ => ⟨hW.size, by rw [hlen]; show s.size ≤ s.size + k; omega, _, e, _, hget, by simp, fun i hi => ?_⟩⟩
    · obtain ⟨y, hy, hvy⟩ := hv.get hi
      refine ⟨y, ?_, hvy.mono (Ext.snoc _ _)⟩
      unfold World.cell?
      simp only [hget, Option.isSome_none, Bool.false_eq_true, if_false, Nat.zero_add]
      have hlt : i < (s.data.toList.map byteV).length := (List.getElem?_eq_some_iff.1 hy).1
      rw [List.getElem?_toArray, List.getElem?_append_left hlt]; exact hy
    · unfold World.frozen?
      simp only [hget]
      have : i < 0 + (s.size + k) := hi
      simp only [Bool.and_eq_false_iff, decide_eq_false_iff_not]
      left; omega
  · have hjl := (Array.getElem?_eq_some_iff.1 hj).1
    rw [setBlk_other _ _ _ _ (by omega), hold j hjl]; exact hj

theorem runesFrom_one (s : ByteArray) : ∀ (b i : Nat) (acc : Array Value), (∀ x ∈ acc, ∃ n, x = .int .i32 n) → ∀ x ∈ Conv.runesFrom s b i acc, ∃ n, x = .int .i32 n := by
  intro b
  induction b with
  | zero => intro i acc h; exact h
  | succ b ih =>
    intro i acc h
    unfold Conv.runesFrom
    split
    · refine ih _ _ fun x hx => ?_
      rcases Array.mem_push.1 hx with hx | rfl
      · exact h x hx
      · exact ⟨_, rfl⟩
    · exact h

theorem strRunes_turns {H : Heap} (hW : WR base w0 φ H.bs w) (e : TypeId) (s : ByteArray) (low : Nat) :
    Turns P base w0 φ H.bs low (H.push (.cells (Conv.runesFrom s s.size 0 #[]).toList true 1)).bs w (Conv.stringToRunes e s) (.slice (some ⟨H.next, 0, none⟩) (Conv.runesFrom s s.size 0 #[]).size ((Conv.runesFrom s s.size 0 #[]).size + 1)) := by
  have hall := runesFrom_one s s.size 0 #[] (fun x hx => by simp at hx)
  unfold Conv.stringToRunes
  generalize Conv.runesFrom s s.size 0 #[] = R at hall ⊢
  have hch : (choose (Question.appendCap R.size 0 e)).run P w = .ok (R.size + w.tape w.drawn (.appendCap R.size 0 e) % (2 ^ 63 - R.size)) w.drew := by
    rw [run_choose, if_neg (by simp [Question.forced])]; rfl
  generalize hk : w.tape w.drawn (.appendCap R.size 0 e) % (2 ^ 63 - R.size) = k at hch
  have hv : VRs φ R.toList R.toList := ⟨rfl, fun i x y p q => by
    rw [p] at q; cases q
    obtain ⟨n, rfl⟩ := hall x (by simpa using List.mem_of_getElem? p)
    exact .int _ _⟩
  refine new_turns hW (w1 := w.drew) (xs := R.toList) (rest := List.replicate k (Value.int .i32 0)) (e := e) rfl rfl rfl rfl hv (fun x hx => by obtain ⟨n, rfl⟩ := hall x (by simpa using hx); rfl) (v' := .slice (some ⟨w.heap.size, 0, none⟩) R.size (R.size + k)) ?_ ?_
  · have harr : R ++ Array.replicate (R.size + k - R.size) (Value.int IntKind.i32 0) = (R.toList ++ List.replicate k (Value.int .i32 0)).toArray := by
      apply Array.toList_inj.1
      simp
    simp only [Sem.run_bind, hch, Result.andThen_ok, newRow, newObj, Sem.run, Sem.run_pure, harr]
    rfl
  · exact VR.slice (l := ⟨w.heap.size, 0, _, 1⟩) (o := 0) (next_loc hW) (by omega) (by simp)

theorem conv_turn {H H' : Heap} {src dst : TypeId} {x x' v : Value} (hW : WR base w0 φ H.bs w) (h : convA P H src dst x = some (v, some H')) (hx : VR φ x x') : Turns P base w0 φ H.bs H'.low H'.bs w (convert src dst x') v := by
  unfold convA at h
  split at h
  · cases h
  · cases h
  · split at h
    · split at h <;> cases h
    · cases h
  · rename_i d e s hs hd
    cases hx
    have step8 : P.underlying e = some (.int .u8) → (convert src dst (.string s)).run P w = (Conv.stringToBytes e s).run P w := by
      intro he
      simp only [convert, Sem.run_bind, run_underlying hs, run_underlying hd, Result.andThen_ok]
      cases d <;> simp only [Sem.run_bind, run_underlying he, Result.andThen_ok]
    have step32 : P.underlying e = some (.int .i32) → (convert src dst (.string s)).run P w = (Conv.stringToRunes e s).run P w := by
      intro he
      simp only [convert, Sem.run_bind, run_underlying hs, run_underlying hd, Result.andThen_ok]
      cases d <;> simp only [Sem.run_bind, run_underlying he, Result.andThen_ok]
    have lift : ∀ {q : Sem Value} {S' : List Blk} {v}, (convert src dst (.string s)).run P w = q.run P w → Turns P base w0 φ H.bs H'.low S' w q v → Turns P base w0 φ H.bs H'.low S' w (convert src dst (.string s)) v := by
      intro q S' v hq ⟨v', w', φ', h1, h2⟩
      exact ⟨v', w', φ', hq.trans h1, h2⟩
    split at h
    · rename_i he
      simp only [Option.some.injEq, Prod.mk.injEq] at h
      obtain ⟨rfl, rfl⟩ := h
      exact lift (step8 he) (strBytes_turns hW e s _)
    · rename_i he
      simp only [Option.some.injEq, Prod.mk.injEq] at h
      obtain ⟨rfl, rfl⟩ := h
      exact lift (step32 he) (strRunes_turns hW e s _)
    · cases h
  · cases h
end
end Go.Proofs.Ytcpolfjnbbodgaa.Ve
