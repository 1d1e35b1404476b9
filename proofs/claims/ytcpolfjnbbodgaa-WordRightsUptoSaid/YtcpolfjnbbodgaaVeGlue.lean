/- What comes in: a reading of the model's world, laid as blocks that are only read. Conditions: none here. -/
import Derived.Test.YtcpolfjnbbodgaaVeLimit
import Derived.Test.YtcpolfjnbbodgaaRows
import Derived.ChangeArms
import Derived.ChangeOld
namespace Go.Proofs.Ytcpolfjnbbodgaa.Ve
open Go Go.RowKit
set_option linter.unusedVariables false
set_option linter.unusedSimpArgs false

/-! bulk -/
theorem bulk_pos {H : Type} (d : DataW H) : 1 ≤ Rows.uptoBulk d := by
  cases d with
  | lit l => cases l <;> simp [Rows.uptoBulk]
  | nil => simp [Rows.uptoBulk]
  | ptr d => simp [Rows.uptoBulk]
  | slice elems spare => simp [Rows.uptoBulk]
  | agg parts => simp [Rows.uptoBulk]
  | iface t d => simp [Rows.uptoBulk]
  | map entries => simp [Rows.uptoBulk]
  | held h => simp [Rows.uptoBulk]
theorem bulk_part {H : Type} {d : DataW H} {l : List (DataW H)} (h : d ∈ l) : Rows.uptoBulk d ≤ Rows.uptoBulkAll l := by
  induction l with
  | nil => cases h
  | cons x r ih =>
    simp only [Rows.uptoBulkAll]
    rcases List.mem_cons.1 h with e | e
    · subst e; omega
    · have := ih e; omega
theorem bulk_len {H : Type} (l : List (DataW H)) : l.length ≤ Rows.uptoBulkAll l := by
  induction l with
  | nil => simp [Rows.uptoBulkAll]
  | cons x r ih => have := bulk_pos x; simp only [Rows.uptoBulkAll, List.length_cons]; omega

/-- blocks that are only read stay -/
def Old (S S' : List Blk) : Prop := ∀ (b : Nat) c sz, S[b]? = some (.cells c false sz) → S'[b]? = some (.cells c false sz)
theorem Old.refl (S : List Blk) : Old S S := fun _ _ _ h => h
theorem Old.trans {a b c : List Blk} (h : Old a b) (k : Old b c) : Old a c := fun _ _ _ x => k _ _ _ (h _ _ _ x)
theorem Old.snoc (S : List Blk) (B : Blk) : Old S (S ++ [B]) := fun b c sz h => by
  rw [List.getElem?_append_left]; exact h
  exact (List.getElem?_eq_some_iff.1 h).1
theorem Old.append (S T : List Blk) : Old S (S ++ T) := fun b c sz h => by
  rw [List.getElem?_append_left]; exact h
  exact (List.getElem?_eq_some_iff.1 h).1
theorem Old.set {S : List Blk} {b : Nat} {B : Blk} (h : ∀ c sz, S[b]? ≠ some (.cells c false sz)) (B' : Blk) : Old S (S.set b B') := fun b' c sz hh => by
  rw [List.getElem?_set]
  by_cases e : b = b'
  · subst e; exact absurd hh (h c sz)
  · rw [if_neg e]; exact hh

/-- a slice that came in, of elements that are read by R -/
def Sl (S : List Blk) (sz : Nat) {α : Type} (R : List Value → α → Prop) (v : Value) (l : List α) : Prop :=
  (v = .slice none 0 0 ∧ l = []) ∨
  ∃ b o, v = .slice (some ⟨b, o, none⟩) l.length (l.length + 1) ∧
    (l = [] ∨ ∃ c, S[b]? = some (.cells c false sz) ∧ o + l.length * sz ≤ c.length ∧ ∀ i a, l[i]? = some a → R ((c.drop (o + i * sz)).take sz) a)

theorem Sl.mono {S S' : List Blk} {sz : Nat} {α : Type} {R R' : List Value → α → Prop} {v : Value} {l : List α} (ho : Old S S') (hR : ∀ cs a, R cs a → R' cs a) (h : Sl S sz R v l) : Sl S' sz R' v l := by
  rcases h with h | ⟨b, o, hv, h⟩
  · exact .inl h
  · refine .inr ⟨b, o, hv, ?_⟩
    rcases h with h | ⟨c, h1, h2, h3⟩
    · exact .inl h
    · exact .inr ⟨c, ho _ _ _ h1, h2, fun i a hi => hR _ _ (h3 i a hi)⟩

section
variable {P : Program}

def Absorbs (P : Program) (t : TypeId) {α : Type} (R : List Blk → List Value → α → Prop) : Prop :=
  (∀ S S' cs a, Old S S' → R S cs a → R S' cs a) ∧
  ∀ {H : Type} (enc : TypeId × Value → H) (W : World) (fuel : Nat) (cs : List Value) (d : DataW H) (ps : List MemPlace), DataW.trod enc P W 0 (fun _ => true) true fuel t cs = some (d, ps) →
    Rows.uptoBulk d ≤ 1048576 → ∀ (φ : List Loc) (S : List Blk), WR W.heap.size W φ S W →
    ∃ (φ' : List Loc) (S' : List Blk) (ac : List Value) (a : α), Ext φ φ' ∧ Old S S' ∧ WR W.heap.size W φ' S' W ∧ VRs φ' ac cs ∧ (∀ x ∈ ac, x.oneCell' = true) ∧ R S' ac a

theorem Absorbs.map {t : TypeId} {α β : Type} {R : List Blk → List Value → α → Prop} {R' : List Blk → List Value → β → Prop} (h : Absorbs P t R) (f : α → β)
    (hf : ∀ S cs a, R S cs a → R' S cs (f a)) (hm : ∀ S S' cs a, Old S S' → R' S cs a → R' S' cs a) : Absorbs P t R' :=
  ⟨hm, fun enc W fuel cs d ps ht hw φ S hW => by
    obtain ⟨φ', S', ac, a, h1, h2, h3, h4, h5, h6⟩ := h.2 enc W fuel cs d ps ht hw φ S hW
    exact ⟨φ', S', ac, f a, h1, h2, h3, h4, h5, hf _ _ _ h6⟩⟩

theorem absorb_int {t : TypeId} {k : IntKind} (ht : P.underlying t = some (.int k)) : Absorbs P t (fun _ cs (n : Int) => cs = [.int k n] ∧ (Lit.int k n).wf = true) :=
  ⟨fun _ _ _ _ _ h => h, fun enc W fuel cs d ps h hw φ S hW => by
    obtain ⟨n, rfl, _, hn⟩ := DataW.trod_int ht h
    exact ⟨φ, S, [.int k n], n, Ext.refl φ, Old.refl S, hW, .cons (.int k n) (.nil φ), fun x hx => by simp at hx; subst hx; rfl, rfl, hn⟩⟩
theorem absorb_bool {t : TypeId} (ht : P.underlying t = some .bool) : Absorbs P t (fun _ cs (b : Bool) => cs = [.bool b]) :=
  ⟨fun _ _ _ _ _ h => h, fun enc W fuel cs d ps h hw φ S hW => by
    obtain ⟨b, rfl, _⟩ := DataW.trod_bool ht h
    exact ⟨φ, S, [.bool b], b, Ext.refl φ, Old.refl S, hW, .cons (.bool b) (.nil φ), fun x hx => by simp at hx; subst hx; rfl, rfl⟩⟩
theorem absorb_string {t : TypeId} (ht : P.underlying t = some .string) : Absorbs P t (fun _ cs (s : ByteArray) => cs = [.string s] ∧ s.size ≤ 1048576) :=
  ⟨fun _ _ _ _ _ h => h, fun enc W fuel cs d ps h hw φ S hW => by
    obtain ⟨s, rfl, hx, hs⟩ := DataW.trod_string ht h
    cases hx
    have : s.size ≤ 1048576 := by simp only [Rows.uptoBulk, Array.length_toList] at hw; exact Nat.le_of_succ_le hw
    exact ⟨φ, S, [.string s], s, Ext.refl φ, Old.refl S, hW, .cons (.string s) (.nil φ), fun x hx => by simp at hx; subst hx; rfl, rfl, this⟩⟩

/-! structs: their fields, one behind the other -/
def AbsorbsF (P : Program) (fs : List Field) (off : Nat) {α : Type} (R : List Blk → List Value → α → Prop) : Prop :=
  (∀ S S' cs a, Old S S' → R S cs a → R S' cs a) ∧
  ∀ {H : Type} (enc : TypeId × Value → H) (W : World) (fuel : Nat) (cs : List Value) (xs : List (DataW H × List MemPlace)),
    xs.length = fs.length → (∀ (i : Nat) f, fs[i]? = some f → DataW.trod enc P W 0 (fun _ => true) true fuel f.type ((cs.drop f.offset).take (P.cellsOf f.type)) = xs[i]?) →
    Rows.uptoBulkAll (xs.map (·.1)) ≤ 1048576 → ∀ (φ : List Loc) (S : List Blk), WR W.heap.size W φ S W →
    ∃ (tot : Nat) (φ' : List Loc) (S' : List Blk) (ac : List Value) (a : α), (cs.length = off + ac.length → True) ∧ Ext φ φ' ∧ Old S S' ∧ WR W.heap.size W φ' S' W ∧ VRs φ' ac ((cs.drop off).take tot) ∧
      (fs.foldl (fun n f => n + P.cellsOf f.type) 0 = tot) ∧ (∀ x ∈ ac, x.oneCell' = true) ∧ R S' ac a

theorem absorbF_nil (off : Nat) : AbsorbsF P [] off (fun _ cs (_ : Unit) => cs = []) :=
  ⟨fun _ _ _ _ _ h => h, fun enc W fuel cs xs hl h hw φ S hW => ⟨0, φ, S, [], (), fun _ => trivial, Ext.refl φ, Old.refl S, hW, by simpa using VRs.nil φ, rfl, by simp, rfl⟩⟩

theorem foldl_shift (g : Field → Nat) : ∀ (l : List Field) (k : Nat), l.foldl (fun n f => n + g f) k = k + l.foldl (fun n f => n + g f) 0
  | [], k => by simp
  | f :: l, k => by simp only [List.foldl_cons]; rw [foldl_shift g l (k + g f), foldl_shift g l (0 + g f)]; omega

theorem absorbF_cons {f : Field} {fs : List Field} {off k : Nat} {α β : Type} {R : List Blk → List Value → α → Prop} {Q : List Blk → List Value → β → Prop} (ho : f.offset = off) (hk : P.cellsOf f.type = k)
    (h : Absorbs P f.type R) (g : AbsorbsF P fs (off + k) Q) :
    AbsorbsF P (f :: fs) off (fun S cs (x : α × β) => ∃ c1 c2, cs = c1 ++ c2 ∧ R S c1 x.1 ∧ Q S c2 x.2) :=
  ⟨fun S S' cs a ho ⟨c1, c2, e, h1, h2⟩ => ⟨c1, c2, e, h.1 _ _ _ _ ho h1, g.1 _ _ _ _ ho h2⟩, fun enc W fuel cs xs hl ht hw φ S hW => by
    cases xs with
    | nil => simp at hl
    | cons x xs =>
      have h0 := ht 0 f (by simp)
      rw [List.getElem?_cons_zero, ho, hk] at h0
      simp only [List.map_cons, Rows.uptoBulkAll] at hw
      obtain ⟨φ1, S1, a1, v1, e1, o1, w1, r1, n1, q1⟩ := h.2 enc W fuel _ x.1 x.2 h0 (by omega) φ S hW
      obtain ⟨tot, φ2, S2, a2, v2, _, e2, o2, w2, r2, t2, n2, q2⟩ := g.2 enc W fuel cs xs (by simpa using hl) (fun i f' hf' => by simpa using ht (i + 1) f' (by simpa using hf')) (by omega) φ1 S1 w1
      refine ⟨k + tot, φ2, S2, a1 ++ a2, (v1, v2), fun _ => trivial, e1.trans e2, o1.trans o2, w2, ?_, ?_, ?_, a1, a2, rfl, h.1 _ _ _ _ o2 q1, q2⟩
      · have hs : (cs.drop off).take (k + tot) = (cs.drop off).take k ++ (cs.drop (off + k)).take tot := by
          rw [List.take_add, List.drop_drop]
        rw [hs]
        exact (r1.mono e2).append r2
      · simp only [List.foldl_cons]
        rw [foldl_shift (fun f => P.cellsOf f.type), t2, hk]; omega
      · intro y hy
        rcases List.mem_append.1 hy with hy | hy
        · exact n1 y hy
        · exact n2 y hy⟩

theorem absorb_struct {t : TypeId} {fs : Array Field} {α : Type} {R : List Blk → List Value → α → Prop} (ht : P.underlying t = some (.struct fs)) (hc : P.cellsOf t = fs.toList.foldl (fun n f => n + P.cellsOf f.type) 0)
    (h : AbsorbsF P fs.toList 0 R) : Absorbs P t R :=
  ⟨h.1, fun enc W fuel cs d ps hd hw φ S hW => by
    obtain ⟨xs, n, _, hx, hl, hn, hf⟩ := DataW.trod_struct ht hd
    cases hx
    obtain ⟨tot, φ', S', ac, a, _, e, o, w, r, tt, nn, q⟩ := h.2 enc W n cs xs (by simpa using hn) (fun i f hf' => hf i f (by simpa using hf')) (by simp only [Rows.uptoBulk] at hw; omega) φ S hW
    refine ⟨φ', S', ac, a, e, o, w, ?_, nn, q⟩
    rw [List.drop_zero, List.take_of_length_le (by omega)] at r
    exact r⟩

/-! slices -/
/-- elements, one by one -/
theorem absorb_many {e : TypeId} {α : Type} {R : List Blk → List Value → α → Prop} (h : Absorbs P e R) {H : Type} (enc : TypeId × Value → H) (W : World) (fuel : Nat) :
    ∀ (css : List (List Value)) (ds : List (DataW H × List MemPlace)), css.length = ds.length → (∀ (i : Nat) cs x, css[i]? = some cs → ds[i]? = some x → DataW.trod enc P W 0 (fun _ => true) true fuel e cs = some x) →
      (∀ x ∈ ds, Rows.uptoBulk x.1 ≤ 1048576) → ∀ (φ : List Loc) (S : List Blk), WR W.heap.size W φ S W →
      ∃ (φ' : List Loc) (S' : List Blk) (acs : List (List Value)) (l : List α), Ext φ φ' ∧ Old S S' ∧ WR W.heap.size W φ' S' W ∧ acs.length = css.length ∧ l.length = css.length ∧
        (∀ (i : Nat) ac cs, acs[i]? = some ac → css[i]? = some cs → VRs φ' ac cs) ∧ (∀ ac ∈ acs, ∀ x ∈ ac, x.oneCell' = true) ∧ (∀ (i : Nat) ac a, acs[i]? = some ac → l[i]? = some a → R S' ac a)
  | [], [], _, _, _, φ, S, hW => ⟨φ, S, [], [], Ext.refl φ, Old.refl S, hW, rfl, rfl, by simp, by simp, by simp⟩
  | [], _ :: _, hl, _, _, _, _, _ => by simp at hl
  | _ :: _, [], hl, _, _, _, _, _ => by simp at hl
  | cs :: css, x :: ds, hl, ht, hw, φ, S, hW => by
    obtain ⟨φ1, S1, a1, v1, e1, o1, w1, r1, n1, q1⟩ := h.2 enc W fuel cs x.1 x.2 (ht 0 cs x (by simp) (by simp)) (hw x (by simp)) φ S hW
    obtain ⟨φ2, S2, acs, l, e2, o2, w2, hla, hll, r2, n2, q2⟩ := absorb_many h enc W fuel css ds (by simpa using hl) (fun i c y hc hy => ht (i + 1) c y (by simpa using hc) (by simpa using hy)) (fun y hy => hw y (by simp [hy])) φ1 S1 w1
    refine ⟨φ2, S2, a1 :: acs, v1 :: l, e1.trans e2, o1.trans o2, w2, by simp [hla], by simp [hll], ?_, ?_, ?_⟩
    · intro i ac c ha hc
      cases i with
      | zero => simp at ha hc; subst ha hc; exact r1.mono e2
      | succ i => exact r2 i ac c (by simpa using ha) (by simpa using hc)
    · intro ac ha y hy
      rcases List.mem_cons.1 ha with rfl | ha
      · exact n1 y hy
      · exact n2 ac ha y hy
    · intro i ac a ha hc
      cases i with
      | zero => simp at ha hc; subst ha hc; exact h.1 _ _ _ _ o2 q1
      | succ i => exact q2 i ac a (by simpa using ha) (by simpa using hc)

theorem flat_len {α : Type} {sz : Nat} : ∀ (l : List (List α)), (∀ x ∈ l, x.length = sz) → l.flatten.length = l.length * sz
  | [], _ => by simp
  | x :: l, h => by
    rw [List.flatten_cons, List.length_append, flat_len l (fun y hy => h y (by simp [hy])), h x (by simp), List.length_cons, Nat.add_mul]; omega
theorem flat_get {α : Type} {sz : Nat} : ∀ (l : List (List α)), (∀ x ∈ l, x.length = sz) → ∀ (i : Nat) x, l[i]? = some x → (l.flatten.drop (i * sz)).take sz = x
  | [], _, i, x, hx => by simp at hx
  | y :: l, h, 0, x, hx => by
    simp at hx; subst hx
    have := h y (by simp)
    simp only [Nat.zero_mul, List.drop_zero, List.flatten_cons]
    rw [← this, List.take_append_of_le_length (Nat.le_refl _), List.take_length]
  | y :: l, h, i + 1, x, hx => by
    have hy := h y (by simp)
    have e : (i + 1) * sz = y.length + i * sz := by rw [hy, Nat.add_mul]; omega
    rw [List.flatten_cons, e, ← List.drop_drop, List.drop_left]
    exact flat_get l (fun z hz => h z (by simp [hz])) i x (by simpa using hx)

theorem mapM_get {α β : Type} {f : α → Option β} : ∀ {l : List α} {r : List β}, l.mapM f = some r → r.length = l.length ∧ ∀ (i : Nat) x y, l[i]? = some x → r[i]? = some y → f x = some y
  | [], r, h => by simp at h; subst h; simp
  | a :: l, r, h => by
    rw [List.mapM_cons] at h
    cases hf : f a with
    | none => simp [hf] at h
    | some b =>
      cases hm : l.mapM f with
      | none => simp [hf, hm] at h
      | some r' =>
        simp [hf, hm] at h
        subst h
        obtain ⟨h1, h2⟩ := mapM_get hm
        refine ⟨by simp [h1], fun i x y hx hy => ?_⟩
        cases i with
        | zero => simp at hx hy; subst hx; subst hy; exact hf
        | succ i => exact h2 i x y (by simpa using hx) (by simpa using hy)
theorem cells?_spec {w : World} {a : Addr} {n : Nat} {cs : List Value} (h : w.cells? 0 a n = some cs) : cs.length = n ∧ ∀ (j : Nat) x, cs[j]? = some x → w.cell? (a.add j) = some x := by
  unfold World.cells? at h
  rw [if_pos (Nat.zero_le _)] at h
  obtain ⟨h1, h2⟩ := mapM_get h
  refine ⟨by simpa using h1, fun j x hx => ?_⟩
  have hj : j < cs.length := (List.getElem?_eq_some_iff.1 hx).1
  exact h2 j j x (List.getElem?_range (by simpa [h1] using hj)) hx
theorem cell?_spot {w : World} {a : Addr} {x : Value} (h : w.cell? a = some x) : a.spot = none ∧ a.block < w.heap.size := by
  unfold World.cell? at h
  split at h
  · rename_i c _ _ hc
    refine ⟨?_, (Array.getElem?_eq_some_iff.1 hc).1⟩
    cases hs : a.spot with
    | none => rfl
    | some n => simp [hs] at h
  · cases h
theorem cells?_spot {w : World} {a : Addr} {n : Nat} {cs : List Value} (hn : 0 < n) (h : w.cells? 0 a n = some cs) : a.spot = none ∧ a.block < w.heap.size := by
  obtain ⟨hl, hc⟩ := cells?_spec h
  have := hc 0 (cs[0]'(by omega)) (by first | (simp; done) | (simp; omega))
  exact cell?_spot (by simpa [Addr.add] using this)
theorem add_spot {a : Addr} (h : a.spot = none) (n : Nat) : a.add n = ⟨a.block, a.off + n, none⟩ := by
  obtain ⟨b, o, s⟩ := a
  simp only at h
  subst h
  unfold Addr.add
  split
  · rename_i hn; subst hn; rfl
  · rfl

theorem absorb_slice {t e : TypeId} {sz : Nat} {α : Type} {R : List Blk → List Value → α → Prop} (ht : P.underlying t = some (.slice e)) (hs : P.cellsOf e = sz) (hp : 0 < sz) (h : Absorbs P e R) :
    Absorbs P t (fun S cs (l : List α) => ∃ v, cs = [v] ∧ Sl S sz (R S) v l ∧ l.length ≤ 1048576) :=
  ⟨fun S S' cs l ho ⟨v, e1, e2, e3⟩ => ⟨v, e1, e2.mono ho (fun cs a => h.1 _ _ _ _ ho), e3⟩, fun {H} enc W fuel cs d ps hd hw φ S hW => by
    rcases DataW.trod_slice ht hd with ⟨rfl, hx⟩ | ⟨a, len, cap, elems, rest, n, _, rfl, hx, _, hlc, _, hel, hread, hsp, _⟩
    · exact ⟨φ, S, [.slice none 0 0], [], Ext.refl φ, Old.refl S, hW, .cons .nilslice (.nil φ), fun x hx => by simp at hx; subst hx; rfl, _, rfl, .inl ⟨rfl, rfl⟩, by simp⟩
    · cases hx
      rw [hs] at hread hsp
      simp only [Rows.uptoBulk] at hw
      have hbytes : len ≤ 1048576 := by
        have := bulk_len (elems.map (·.1))
        rw [List.length_map] at this
        omega
      by_cases h0 : len = 0
      · -- none of them
        subst h0
        refine ⟨φ ++ [⟨a.block, a.off, cap * sz, sz⟩], S ++ [.dead], [.slice (some ⟨S.length, 0, none⟩) 0 1], [], Ext.snoc _ _, Old.snoc _ _, ?_, ?_, fun x hx => by simp at hx; subst hx; rfl, _, rfl, .inr ⟨_, _, rfl, .inl rfl⟩, by simp⟩
        · exact hW.push ⟨Nat.le_refl _, fun _ _ _ => rfl⟩ hW.below (fun hm => by cases hm) trivial
        · refine .cons ?_ (.nil _)
          by_cases hc0 : cap = 0
          · subst hc0; exact .slice0
          · obtain ⟨hr1, hr2⟩ := hsp rfl
            have h1 := hr2 0 (by omega)
            have hr0 : rest[0]? = some (rest[0]'(by omega)) := by first | (simp; done) | (simp; omega)
            rw [hr0] at h1
            obtain ⟨cs0, hc1, hc2⟩ := Option.bind_eq_some_iff.1 h1
            have hsp0 := (cells?_spot hp hc1).1
            simp only [Nat.zero_add, Nat.zero_mul] at hsp0
            have hsp1 : a.spot = none := by simpa [Addr.add] using hsp0
            have hl : (φ ++ [(⟨a.block, a.off, cap * sz, sz⟩ : Loc)])[S.length]? = some ⟨a.block, a.off, cap * sz, sz⟩ := by rw [← hW.len]; simp
            have := VR.slice (φ := φ ++ [⟨a.block, a.off, cap * sz, sz⟩]) (b := S.length) (o := 0) (n := 0) (c := cap) hl (Nat.zero_le _) (by simp)
            obtain ⟨ab, ao, asp⟩ := a
            simp only at hsp1
            subst hsp1
            simpa using this
      · have hread' : ∀ i, i < len → ∃ cs x, W.cells? 0 (a.add (i * sz)) sz = some cs ∧ elems[i]? = some x ∧ DataW.trod enc P W 0 (fun _ => true) true n e cs = some x := by
          intro i hi
          have h1 := hread i hi
          have h2 : elems[i]? = some (elems[i]'(by omega)) := by first | (simp; done) | (simp; omega)
          rw [h2] at h1
          obtain ⟨cs0, hc1, hc2⟩ := Option.bind_eq_some_iff.1 h1
          exact ⟨cs0, _, hc1, h2, hc2⟩
        have hspot : a.spot = none ∧ a.block < W.heap.size := by
          obtain ⟨cs0, x0, hc1, _⟩ := hread' 0 (by omega)
          have := cells?_spot hp hc1
          simpa [Addr.add] using this
        let css : List (List Value) := (List.range len).map fun i => (W.cells? 0 (a.add (i * sz)) sz).getD []
        have hcl : css.length = len := by simp [css]
        have hcss : ∀ (i : Nat) c, css[i]? = some c → i < len ∧ W.cells? 0 (a.add (i * sz)) sz = some c := by
          intro i c hc
          have hi : i < len := by rw [← hcl]; exact (List.getElem?_eq_some_iff.1 hc).1
          obtain ⟨cs0, x0, hc1, _⟩ := hread' i hi
          refine ⟨hi, ?_⟩
          simp only [css, List.getElem?_map, List.getElem?_range hi, Option.map_some, hc1, Option.getD_some, Option.some.injEq] at hc
          rw [hc1, hc]
        obtain ⟨φ1, S1, acs, l, e1, o1, w1, hla, hll, hvr, hone, hR⟩ := absorb_many h enc W n css elems (by rw [hcl, hel])
          (fun i c x hc hx => by
            obtain ⟨hi, h1⟩ := hcss i c hc
            obtain ⟨cs0, x0, k1, k2, k3⟩ := hread' i hi
            rw [h1] at k1; cases k1
            rw [hx] at k2; cases k2
            exact k3)
          (fun x hx => by have := bulk_part (List.mem_map_of_mem (f := (·.1)) hx); omega) φ S hW
        have hal : ∀ x ∈ acs, x.length = sz := by
          intro x hx
          obtain ⟨i, hi, rfl⟩ := List.mem_iff_getElem.1 hx
          have hi' : i < css.length := by omega
          have := (hvr i _ _ (List.getElem?_eq_getElem hi) (List.getElem?_eq_getElem hi')).1
          rw [this]
          exact (cells?_spec (hcss i _ (List.getElem?_eq_getElem hi')).2).1
        have hflat : acs.flatten.length = len * sz := by rw [flat_len acs hal, hla, hcl]
        have hl : (φ1 ++ [(⟨a.block, a.off, cap * sz, sz⟩ : Loc)])[S1.length]? = some ⟨a.block, a.off, cap * sz, sz⟩ := by rw [← w1.len]; simp
        refine ⟨φ1 ++ [⟨a.block, a.off, cap * sz, sz⟩], S1 ++ [.cells acs.flatten false sz], [.slice (some ⟨S1.length, 0, none⟩) l.length (l.length + 1)], l, e1.trans (Ext.snoc _ _), o1.trans (Old.snoc _ _), ?_, ?_,
          fun x hx => by simp at hx; subst hx; rfl, _, rfl, .inr ⟨_, _, rfl, .inr ⟨acs.flatten, by simp, ?_, ?_⟩⟩, ?_⟩
        · refine w1.push ⟨Nat.le_refl _, fun _ _ _ => rfl⟩ w1.below (fun hm => by cases hm) ⟨rfl, ?_, ?_, fun _ => hspot.2, fun hh => by cases hh⟩
          · intro x hx
            obtain ⟨ac, h1, h2⟩ := List.mem_flatten.1 hx
            exact hone ac h1 x h2
          · intro j x hx
            have hj : j < len * sz := by rw [← hflat]; exact (List.getElem?_eq_some_iff.1 hx).1
            have hq : j / sz < len := Nat.div_lt_of_lt_mul (by rw [Nat.mul_comm]; exact hj)
            have hm : j % sz < sz := Nat.mod_lt _ hp
            have hi : j / sz < acs.length := by omega
            have hi' : j / sz < css.length := by omega
            have hfg := flat_get acs hal (j / sz) _ (List.getElem?_eq_getElem hi)
            have hx2 : (acs[j / sz])[j % sz]? = some x := by
              rw [← hfg, List.getElem?_take, if_pos hm, List.getElem?_drop, Nat.mul_comm, Nat.div_add_mod]; exact hx
            obtain ⟨y, hy, hxy⟩ := (hvr _ _ _ (List.getElem?_eq_getElem hi) (List.getElem?_eq_getElem hi')).get hx2
            have := (cells?_spec (hcss _ _ (List.getElem?_eq_getElem hi')).2).2 _ y hy
            rw [add_spot hspot.1, add_spot rfl] at this
            refine ⟨y, ?_, hxy.mono (Ext.snoc _ _)⟩
            have e2 : a.off + j / sz * sz + j % sz = a.off + j := by rw [Nat.add_assoc, Nat.mul_comm, Nat.div_add_mod]
            simpa [e2] using this
        · refine .cons ?_ (.nil _)
          have := VR.slice (φ := φ1 ++ [⟨a.block, a.off, cap * sz, sz⟩]) (b := S1.length) (o := 0) (n := len) (c := cap) hl hlc (by simp)
          obtain ⟨ab, ao, asp⟩ := a
          have hsp2 := hspot.1
          simp only at hsp2
          subst hsp2
          rw [hll, hcl]
          simpa using this
        · rw [hll, hcl, hflat]; omega
        · intro i x hx
          have hi : i < acs.length := by have := (List.getElem?_eq_some_iff.1 hx).1; omega
          rw [Nat.zero_add, flat_get acs hal i _ (List.getElem?_eq_getElem hi)]
          exact h.1 _ _ _ _ (Old.snoc _ _) (hR i _ x (List.getElem?_eq_getElem hi) hx)
        · rw [hll, hcl]; exact hbytes⟩

/-! a law -/
theorem law_calls (hm : P.follows .mixedOrders = true) {X : Lib} {W : World} (hX : LibOk P W.heap.size W X) {f : FuncId} {args args' : List Value} {φ : List Loc} {S : List Blk} (hW : WR W.heap.size W φ S W) (ha : VRs φ args args')
    (h : CL P X f args ⟨S, S.length⟩ = some (.bool true, none)) : Calls P f args'.toArray W fun e w' => e = .returned (.bool true) ∧ Below W.heap.size W w' := by
  obtain ⟨k, hk⟩ := CL_some.1 h
  obtain ⟨_, _, _, hc⟩ := call_ok hm hX k f args ⟨S, S.length⟩ (.bool true) none hk
  exact (hc φ W args' ha hW).mono fun e w' ⟨h1, h2⟩ => ⟨h1, h2.1.below⟩
theorem start_wr (W : World) : WR W.heap.size W [] [] W := ⟨rfl, Below.refl _ _, Nat.le_refl _, by simp, by simp⟩
end
end Go.Proofs.Ytcpolfjnbbodgaa.Ve
