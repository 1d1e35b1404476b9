/- How a heap of the evaluator's lies in a world of the model's: blocks have places, values are alike up to these. Conditions: none here. -/
import Derived.Test.YtcpolfjnbbodgaaVeDefs
namespace Go.Proofs.Ytcpolfjnbbodgaa.Ve
open Go Go.RowKit
set_option linter.unusedVariables false
set_option linter.unusedSimpArgs false

/-- where a block lies: the model's block, from which cell on, how many cells of it; how many cells an element has -/
structure Loc where
  blk : Nat
  off : Nat
  cap : Nat
  sz : Nat

def Ext (φ φ' : List Loc) : Prop := ∀ (b : Nat) (l : Loc), φ[b]? = some l → φ'[b]? = some l
theorem Ext.refl (φ : List Loc) : Ext φ φ := fun _ _ h => h
theorem Ext.trans {a b c : List Loc} (h : Ext a b) (k : Ext b c) : Ext a c := fun _ _ x => k _ _ (h _ _ x)
theorem Ext.snoc (φ : List Loc) (l : Loc) : Ext φ (φ ++ [l]) := fun b l' h => by
  rw [List.getElem?_append_left]; exact h
  exact (List.getElem?_eq_some_iff.1 h).1

inductive VR (φ : List Loc) : Value → Value → Prop
  | bool (b : Bool) : VR φ (.bool b) (.bool b)
  | int (k : IntKind) (n : Int) : VR φ (.int k n) (.int k n)
  | string (s : ByteArray) : VR φ (.string s) (.string s)
  | nilptr : VR φ (.pointer none) (.pointer none)
  | ptr {b o : Nat} {l : Loc} (h : φ[b]? = some l) : VR φ (.pointer (some ⟨b, o, none⟩)) (.pointer (some ⟨l.blk, l.off + o, none⟩))
  | nilslice : VR φ (.slice none 0 0) (.slice none 0 0)
  | slice0 {a a' : Addr} {c : Nat} : VR φ (.slice (some a) 0 c) (.slice (some a') 0 0)
  | exact {b o n : Nat} {l : Loc} (h : φ[b]? = some l) : VR φ (.slice (some ⟨b, o, none⟩) n n) (.slice (some ⟨l.blk, l.off + o, none⟩) n n)
  | slice {b o n c : Nat} {l : Loc} (h : φ[b]? = some l) (hn : n ≤ c) (hc : o + c * l.sz ≤ l.cap) :
      VR φ (.slice (some ⟨b, o, none⟩) n (n + 1)) (.slice (some ⟨l.blk, l.off + o, none⟩) n c)
  | nilmap : VR φ (.map none) (.map none)
  | map {b : Nat} {l : Loc} (h : φ[b]? = some l) : VR φ (.map (some b)) (.map (some l.blk))
  | nilFunc : VR φ .nilFunc .nilFunc
  | func (f : FuncId) {a a' c c' : Array Value} (ha : a.toList.length = a'.toList.length) (h : ∀ (i : Nat) x y, a.toList[i]? = some x → a'.toList[i]? = some y → VR φ x y)
      (hc : c.toList.length = c'.toList.length) (h' : ∀ (i : Nat) x y, c.toList[i]? = some x → c'.toList[i]? = some y → VR φ x y) : VR φ (.func (.func f) a c) (.func (.func f) a' c')
  | nilIface : VR φ .nilIface .nilIface
  | iface (t : TypeId) {v v' : Value} (h : VR φ v v') : VR φ (.iface t v) (.iface t v')
  | agg {a a' : Array Value} (ha : a.toList.length = a'.toList.length) (h : ∀ (i : Nat) x y, a.toList[i]? = some x → a'.toList[i]? = some y → VR φ x y) : VR φ (.agg a) (.agg a')
  | tuple {a a' : Array Value} (ha : a.toList.length = a'.toList.length) (h : ∀ (i : Nat) x y, a.toList[i]? = some x → a'.toList[i]? = some y → VR φ x y) : VR φ (.tuple a) (.tuple a')

/-- lists, one by one -/
def VRs (φ : List Loc) (xs ys : List Value) : Prop := xs.length = ys.length ∧ ∀ (i : Nat) x y, xs[i]? = some x → ys[i]? = some y → VR φ x y

theorem VR.mono {φ φ' : List Loc} (hx : Ext φ φ') {a b : Value} (h : VR φ a b) : VR φ' a b := by
  induction h with
  | bool b => exact .bool b
  | int k n => exact .int k n
  | string s => exact .string s
  | nilptr => exact .nilptr
  | ptr h => exact .ptr (hx _ _ h)
  | nilslice => exact .nilslice
  | slice0 => exact .slice0
  | exact h => exact .exact (hx _ _ h)
  | slice h hn hc => exact .slice (hx _ _ h) hn hc
  | nilmap => exact .nilmap
  | map h => exact .map (hx _ _ h)
  | nilFunc => exact .nilFunc
  | func f ha h hc h' ih ih' => exact .func f ha (fun i x y p q => ih i x y p q) hc (fun i x y p q => ih' i x y p q)
  | nilIface => exact .nilIface
  | iface t h ih => exact .iface t ih
  | agg ha h ih => exact .agg ha (fun i x y p q => ih i x y p q)
  | tuple ha h ih => exact .tuple ha (fun i x y p q => ih i x y p q)

theorem VRs.mono {φ φ' : List Loc} (hx : Ext φ φ') {a b : List Value} (h : VRs φ a b) : VRs φ' a b := ⟨h.1, fun i x y p q => (h.2 i x y p q).mono hx⟩
theorem VRs.nil (φ : List Loc) : VRs φ [] [] := ⟨rfl, fun i x y p => by simp at p⟩
theorem VRs.cons {φ : List Loc} {x y : Value} {xs ys : List Value} (h : VR φ x y) (k : VRs φ xs ys) : VRs φ (x :: xs) (y :: ys) :=
  ⟨by simp [k.1], fun i a b p q => by
    cases i with
    | zero => simp at p q; subst p; subst q; exact h
    | succ i => simp at p q; exact k.2 i a b p q⟩
theorem VRs.of_cons {φ : List Loc} {x : Value} {xs zs : List Value} (h : VRs φ (x :: xs) zs) : ∃ y ys, zs = y :: ys ∧ VR φ x y ∧ VRs φ xs ys := by
  cases zs with
  | nil => have := h.1; simp at this
  | cons y ys =>
    refine ⟨y, ys, rfl, h.2 0 x y (by simp) (by simp), by have := h.1; simpa using this, fun i a b p q => h.2 (i + 1) a b (by simpa using p) (by simpa using q)⟩
theorem VRs.of_nil {φ : List Loc} {zs : List Value} (h : VRs φ [] zs) : zs = [] := by
  have := h.1; cases zs with
  | nil => rfl
  | cons _ _ => simp at this
theorem VRs.append {φ : List Loc} {a b c d : List Value} (h : VRs φ a b) (k : VRs φ c d) : VRs φ (a ++ c) (b ++ d) := by
  induction a generalizing b with
  | nil => rw [h.of_nil]; simpa using k
  | cons x xs ih => obtain ⟨y, ys, rfl, h1, h2⟩ := h.of_cons; simpa using VRs.cons h1 (ih h2)
theorem VRs.get {φ : List Loc} {a b : List Value} (h : VRs φ a b) {i : Nat} {x : Value} (hx : a[i]? = some x) : ∃ y, b[i]? = some y ∧ VR φ x y := by
  have hi : i < a.length := (List.getElem?_eq_some_iff.1 hx).1
  have hb : i < b.length := by rw [← h.1]; exact hi
  exact ⟨b[i], by simp [hb], h.2 i x b[i] hx (by simp [hb])⟩
theorem VRs.take {φ : List Loc} {a b : List Value} (h : VRs φ a b) (n : Nat) : VRs φ (a.take n) (b.take n) :=
  ⟨by simp [h.1], fun i x y p q => by
    rw [List.getElem?_take] at p q
    split at p
    · rename_i hi; rw [if_pos hi] at q; exact h.2 i x y p q
    · simp at p⟩
theorem VRs.drop {φ : List Loc} {a b : List Value} (h : VRs φ a b) (n : Nat) : VRs φ (a.drop n) (b.drop n) :=
  ⟨by simp [h.1], fun i x y p q => by rw [List.getElem?_drop] at p q; exact h.2 _ x y p q⟩
theorem VRs.map {φ : List Loc} {α : Type} (f g : α → Value) (l : List α) (h : ∀ x ∈ l, VR φ (f x) (g x)) : VRs φ (l.map f) (l.map g) := by
  induction l with
  | nil => exact .nil φ
  | cons x xs ih => exact .cons (h x (by simp)) (ih fun y hy => h y (by simp [hy]))
theorem VRs.set {φ : List Loc} {a b : List Value} (h : VRs φ a b) (i : Nat) {x y : Value} (hx : VR φ x y) : VRs φ (a.set i x) (b.set i y) :=
  ⟨by simp [h.1], fun j p q hp hq => by
    rw [List.getElem?_set] at hp hq
    by_cases hij : i = j
    · subst hij
      rw [if_pos rfl] at hp hq
      by_cases hi : i < a.length
      · rw [if_pos hi] at hp; rw [if_pos (by rw [← h.1]; exact hi)] at hq
        cases hp; cases hq; exact hx
      · rw [if_neg hi] at hp; cases hp
    · rw [if_neg hij] at hp hq; exact h.2 j p q hp hq⟩
theorem VR.toAgg {φ : List Loc} {a b : List Value} (h : VRs φ a b) : VR φ (.agg a.toArray) (.agg b.toArray) := .agg (by simpa using h.1) (by simpa using h.2)
theorem VR.toTuple {φ : List Loc} {a b : List Value} (h : VRs φ a b) : VR φ (.tuple a.toArray) (.tuple b.toArray) := .tuple (by simpa using h.1) (by simpa using h.2)

theorem VR.na0 {φ : List Loc} {v : Value} (h : na0 v = true) : VR φ v v := by
  unfold Ve.na0 at h
  split at h
  · exact .bool _
  · exact .int _ _
  · exact .string _
  · exact .nilptr
  · exact .nilslice
  · exact .nilmap
  · exact .nilFunc
  · exact .nilIface
  · rename_i f a c
    simp only [Bool.and_eq_true, Array.isEmpty_iff] at h
    obtain ⟨rfl, rfl⟩ := h
    exact .func _ rfl (fun i x y p => by simp at p) rfl (fun i x y p => by simp at p)
  · cases h
theorem VR.na1 {φ : List Loc} {v : Value} (h : na1 v = true) : VR φ v v := by
  unfold Ve.na1 at h
  split at h
  · refine .agg rfl fun i x y p q => ?_
    rw [p] at q; cases q
    exact VR.na0 (List.all_eq_true.1 h x (List.mem_of_getElem? p))
  · exact .iface _ (VR.na0 h)
  · exact VR.na0 h
theorem VR.na {φ : List Loc} {v : Value} (h : noAddr v = true) : VR φ v v := by
  unfold noAddr at h
  split at h
  · refine .tuple rfl fun i x y p q => ?_
    rw [p] at q; cases q
    exact VR.na1 (List.all_eq_true.1 h x (List.mem_of_getElem? p))
  · exact VR.na1 h
theorem VR.undef' (φ : List Loc) : VR φ undef undef := VR.na (by rfl)

/-- a value without addresses is alike itself alone -/
theorem VR.eq_na0 {φ : List Loc} {v v' : Value} (h : VR φ v v') (hn : Ve.na0 v = true) : v' = v := by
  cases h <;> first | rfl | (simp [Ve.na0] at hn; done) | skip
  case func f a a' c c' ha h hc h' =>
    simp only [Ve.na0, Bool.and_eq_true, Array.isEmpty_iff] at hn
    obtain ⟨rfl, rfl⟩ := hn
    have : a' = #[] := Array.eq_empty_of_size_eq_zero (by simpa using ha.symm)
    have : c' = #[] := Array.eq_empty_of_size_eq_zero (by simpa using hc.symm)
    subst_vars; rfl
theorem list_eq_of {φ : List Loc} {P : Value → Bool} (hP : ∀ v v', VR φ v v' → P v = true → v' = v) {a b : List Value} (h : VRs φ a b) (ha : a.all P = true) : b = a := by
  induction a generalizing b with
  | nil => exact h.of_nil
  | cons x xs ih =>
    obtain ⟨y, ys, rfl, h1, h2⟩ := h.of_cons
    simp only [List.all_cons, Bool.and_eq_true] at ha
    rw [hP _ _ h1 ha.1, ih h2 ha.2]
theorem VR.eq_na1 {φ : List Loc} {v v' : Value} (h : VR φ v v') (hn : Ve.na1 v = true) : v' = v := by
  by_cases hg : ∃ a, v = .agg a
  · obtain ⟨a, rfl⟩ := hg
    cases h with
    | agg ha h =>
      rename_i a'
      have := list_eq_of (fun _ _ => VR.eq_na0) ⟨ha, h⟩ hn
      rw [Array.toList_inj.1 this]
  · by_cases hi : ∃ t u, v = .iface t u
    · obtain ⟨t, u, rfl⟩ := hi
      cases h with
      | iface _ h => rw [VR.eq_na0 h hn]
    · refine VR.eq_na0 h ?_
      unfold Ve.na1 at hn
      split at hn
      · exact absurd ⟨_, rfl⟩ hg
      · exact absurd ⟨_, _, rfl⟩ hi
      · exact hn
theorem VR.eq_na {φ : List Loc} {v v' : Value} (h : VR φ v v') (hn : noAddr v = true) : v' = v := by
  by_cases hg : ∃ a, v = .tuple a
  · obtain ⟨a, rfl⟩ := hg
    cases h with
    | tuple ha h =>
      have := list_eq_of (fun _ _ => VR.eq_na1) ⟨ha, h⟩ hn
      rw [Array.toList_inj.1 this]
  · refine VR.eq_na1 h ?_
    unfold noAddr at hn
    split at hn
    · exact absurd ⟨_, rfl⟩ hg
    · exact hn

/-- the cells of a value -/
theorem VR.cells {φ : List Loc} {v v' : Value} (h : VR φ v v') : VRs φ v.cells.toList v'.cells.toList := by
  cases h with
  | agg ha h => exact ⟨ha, h⟩
  | bool b => exact .cons (.bool b) (.nil φ)
  | int k n => exact .cons (.int k n) (.nil φ)
  | string s => exact .cons (.string s) (.nil φ)
  | nilptr => exact .cons .nilptr (.nil φ)
  | ptr h => exact .cons (.ptr h) (.nil φ)
  | nilslice => exact .cons .nilslice (.nil φ)
  | slice0 => exact .cons .slice0 (.nil φ)
  | exact h => exact .cons (.exact h) (.nil φ)
  | slice h hn hc => exact .cons (.slice h hn hc) (.nil φ)
  | nilmap => exact .cons .nilmap (.nil φ)
  | map h => exact .cons (.map h) (.nil φ)
  | nilFunc => exact .cons .nilFunc (.nil φ)
  | func f ha h hc h' => exact .cons (.func f ha h hc h') (.nil φ)
  | nilIface => exact .cons .nilIface (.nil φ)
  | iface t h => exact .cons (.iface t h) (.nil φ)
  | tuple ha h => exact .cons (.tuple ha h) (.nil φ)
theorem VR.oneCell {φ : List Loc} {v v' : Value} (h : VR φ v v') : v'.oneCell' = v.oneCell' := by cases h <;> rfl

/-! ### worlds -/
def Blk.mine : Blk → Bool
  | .cells _ own _ => own
  | .dead => false
  | _ => true

def BR (base : Nat) (φ : List Loc) (B : Blk) (l : Loc) (w : World) : Prop :=
  match B with
  | .dead => True
  | .cells c own sz => l.sz = sz ∧ (∀ x ∈ c, x.oneCell' = true) ∧ (∀ (i : Nat) x, c[i]? = some x → ∃ y, w.cell? ⟨l.blk, l.off + i, none⟩ = some y ∧ VR φ x y) ∧
    (own = false → l.blk < base) ∧
    (own = true → base ≤ l.blk ∧ c.length ≤ l.cap ∧ ∃ cs t fz, w.heap[l.blk]? = some (.cells cs t fz) ∧ l.off + l.cap ≤ cs.size ∧ ∀ i, i < l.off + l.cap → w.frozen? ⟨l.blk, i, none⟩ = false)
  | .map es => base ≤ l.blk ∧ ∃ es' cl, w.heap[l.blk]? = some (.map es' cl) ∧ es'.size = es.length ∧
      ∀ (i : Nat) k v m, es[i]? = some (k, v) → es'.toList[i]? = some m → VR φ k m.key ∧ VR φ v m.val
  | .iter s p => base ≤ l.blk ∧ l.off = 0 ∧ w.heap[l.blk]? = some (.stringIter s p)

structure WR (base : Nat) (w0 : World) (φ : List Loc) (S : List Blk) (w : World) : Prop where
  len : φ.length = S.length
  below : Below base w0 w
  size : base ≤ w.heap.size
  blk : ∀ (b : Nat) B l, S[b]? = some B → φ[b]? = some l → BR base φ B l w
  sep : ∀ (b b' : Nat) B B' l l', b ≠ b' → S[b]? = some B → S[b']? = some B' → B.mine = true → B'.mine = true → φ[b]? = some l → φ[b']? = some l' → l.blk ≠ l'.blk

theorem BR.mono {base : Nat} {φ φ' : List Loc} {B : Blk} {l : Loc} {w w' : World} (hx : Ext φ φ') (hb : w'.heap[l.blk]? = w.heap[l.blk]?) (h : BR base φ B l w) : BR base φ' B l w' := by
  have hc : ∀ i, w'.cell? ⟨l.blk, i, none⟩ = w.cell? ⟨l.blk, i, none⟩ := fun i => World.cell?_of_block (w := w) hb
  have hf : ∀ i, w'.frozen? ⟨l.blk, i, none⟩ = w.frozen? ⟨l.blk, i, none⟩ := fun i => World.frozen?_of_block (w := w) hb
  cases B with
  | dead => trivial
  | cells c own sz =>
    obtain ⟨h0, hone, h1, h2, h3⟩ := h
    refine ⟨h0, hone, fun i x hx' => ?_, h2, fun ho => ?_⟩
    · obtain ⟨y, p, q⟩ := h1 i x hx'
      exact ⟨y, by rw [hc]; exact p, q.mono hx⟩
    · obtain ⟨a, b, cs, t, fz, c1, c2, c3⟩ := h3 ho
      exact ⟨a, b, cs, t, fz, by rw [hb]; exact c1, c2, fun i hi => by rw [hf]; exact c3 i hi⟩
  | map es =>
    obtain ⟨a, es', cl, h1, h2, h3⟩ := h
    exact ⟨a, es', cl, by rw [hb]; exact h1, h2, fun i k v m p q => ⟨(h3 i k v m p q).1.mono hx, (h3 i k v m p q).2.mono hx⟩⟩
  | iter s p => exact ⟨h.1, h.2.1, by rw [hb]; exact h.2.2⟩

theorem BR.lt {base : Nat} {φ : List Loc} {B : Blk} {l : Loc} {w : World} (h : BR base φ B l w) (hm : B.mine = true) : base ≤ l.blk ∧ l.blk < w.heap.size := by
  have key : ∀ o, w.heap[l.blk]? = some o → l.blk < w.heap.size := fun o ho => (Array.getElem?_eq_some_iff.1 ho).1
  cases B with
  | dead => cases hm
  | cells c own sz =>
    simp only [Blk.mine] at hm
    obtain ⟨a, b, cs, t, fz, c1, _⟩ := h.2.2.2.2 hm
    exact ⟨a, key _ c1⟩
  | map es => obtain ⟨a, es', cl, h1, _⟩ := h; exact ⟨a, key _ h1⟩
  | iter s p => exact ⟨h.1, key _ h.2.2⟩

theorem BR.below {base : Nat} {φ : List Loc} {c : List Value} {sz : Nat} {l : Loc} {w : World} (h : BR base φ (.cells c false sz) l w) : l.blk < base := h.2.2.2.1 rfl

/-- old blocks stay: w' has what w had, but for the block at 'k' -/
def But (w w' : World) (k : Option Nat) : Prop := w.heap.size ≤ w'.heap.size ∧ ∀ j, j < w.heap.size → k ≠ some j → w'.heap[j]? = w.heap[j]?

/-- how a world follows another one: blocks below low stay -/
def Fr (φ : List Loc) (S : List Blk) (low : Nat) (w w' : World) : Prop :=
  ∀ (b : Nat) B l, b < low → S[b]? = some B → B ≠ .dead → φ[b]? = some l → w'.heap[l.blk]? = w.heap[l.blk]?

/-- the class of worlds in which the same heap lies, in the same cells -/
structure Cls (base : Nat) (w0 : World) (φ : List Loc) (S : List Blk) (w w' : World) : Prop where
  wr : WR base w0 φ S w'
  same : ∀ (b : Nat) B l, S[b]? = some B → B ≠ .dead → φ[b]? = some l → w'.heap[l.blk]? = w.heap[l.blk]?

theorem WR.cls {base : Nat} {w0 : World} {φ : List Loc} {S : List Blk} {w : World} (h : WR base w0 φ S w) : Cls base w0 φ S w w := ⟨h, fun _ _ _ _ _ _ => rfl⟩

theorem WR.loc {base : Nat} {w0 : World} {φ : List Loc} {S : List Blk} {w : World} (h : WR base w0 φ S w) {b : Nat} {B : Blk} (hb : S[b]? = some B) : ∃ l, φ[b]? = some l ∧ BR base φ B l w := by
  have hi : b < φ.length := by rw [h.len]; exact (List.getElem?_eq_some_iff.1 hb).1
  exact ⟨φ[b], by simp [hi], h.blk b B _ hb (by simp [hi])⟩

/-- a draw turns nothing -/
theorem WR.same_heap {base : Nat} {w0 : World} {φ : List Loc} {S : List Blk} {w w' : World} (h : WR base w0 φ S w) (hh : w'.heap = w.heap) (ho : w'.os = w.os) (ht : w'.tape = w.tape) (hu : w'.output = w.output) : WR base w0 φ S w' :=
  ⟨h.len, ⟨ho.trans h.below.os, ht.trans h.below.tape, hu.trans h.below.output, by rw [hh]; exact h.below.size, fun k hk => by rw [hh]; exact h.below.block k hk⟩,
    by rw [hh]; exact h.size, fun b B l p q => (h.blk b B l p q).mono (Ext.refl φ) (by rw [hh]), h.sep⟩

/-- a new block, at a place that is new -/
theorem WR.push {base : Nat} {w0 : World} {φ : List Loc} {S : List Blk} {w w' : World} (h : WR base w0 φ S w) {B : Blk} {l : Loc}
    (hw : But w w' none) (hb : Below base w0 w') (hl : B.mine = true → w.heap.size ≤ l.blk) (hB : BR base (φ ++ [l]) B l w') : WR base w0 (φ ++ [l]) (S ++ [B]) w' := by
  have hx : Ext φ (φ ++ [l]) := Ext.snoc φ l
  have old : ∀ (b : Nat) B' l', S[b]? = some B' → φ[b]? = some l' → BR base (φ ++ [l]) B' l' w' := by
    intro b B' l' p q
    have hbr := h.blk b B' l' p q
    by_cases hd : B' = .dead
    · subst hd; trivial
    · refine hbr.mono hx ?_
      by_cases hm : B'.mine = true
      · exact hw.2 _ (hbr.lt hm).2 (by simp)
      · cases B' with
        | dead => exact absurd rfl hd
        | cells c own sz =>
          have : own = false := by simpa [Blk.mine] using hm
          subst this
          exact hw.2 _ (Nat.lt_of_lt_of_le hbr.below h.size) (by simp)
        | map es => exact absurd rfl hm
        | iter s p => exact absurd rfl hm
  have split : ∀ (b : Nat) B' l', (S ++ [B])[b]? = some B' → (φ ++ [l])[b]? = some l' → (S[b]? = some B' ∧ φ[b]? = some l') ∨ (b = S.length ∧ B' = B ∧ l' = l) := by
    intro b B' l' p q
    by_cases hlt : b < S.length
    · left
      rw [List.getElem?_append_left hlt] at p
      rw [List.getElem?_append_left (by rw [h.len]; exact hlt)] at q
      exact ⟨p, q⟩
    · right
      have : b < (S ++ [B]).length := (List.getElem?_eq_some_iff.1 p).1
      simp at this
      have hb' : b = S.length := by omega
      subst hb'
      have h1 : (φ ++ [l])[S.length]? = some l := by rw [← h.len]; simp
      rw [h1] at q
      simp at p q
      exact ⟨rfl, p.symm, q.symm⟩
  refine ⟨by simp [h.len], hb, Nat.le_trans h.size hw.1, fun b B' l' p q => ?_, fun b b' B1 B2 l1 l2 hne p1 p2 m1 m2 q1 q2 => ?_⟩
  · rcases split b B' l' p q with ⟨p, q⟩ | ⟨rfl, rfl, rfl⟩
    · exact old b B' l' p q
    · exact hB
  · rcases split b B1 l1 p1 q1 with ⟨x1, y1⟩ | ⟨r1, r2, r3⟩ <;> rcases split b' B2 l2 p2 q2 with ⟨x2, y2⟩ | ⟨s1, s2, s3⟩
    · exact h.sep b b' B1 B2 l1 l2 hne x1 x2 m1 m2 y1 y2
    · have := ((h.blk b B1 l1 x1 y1).lt m1).2
      have := hl (s2 ▸ m2)
      rw [s3]; omega
    · have := ((h.blk b' B2 l2 x2 y2).lt m2).2
      have := hl (r2 ▸ m1)
      rw [r3]; omega
    · omega

/-- a block of the run's own is written: its place stays -/
theorem WR.put {base : Nat} {w0 : World} {φ : List Loc} {S : List Blk} {w w' : World} (h : WR base w0 φ S w) {b : Nat} {B B' : Blk} {l : Loc} (hb : S[b]? = some B) (hl : φ[b]? = some l) (hm : B.mine = true)
    (hw : But w w' (some l.blk)) (hbel : Below base w0 w') (hB : BR base φ B' l w') : WR base w0 φ (S.set b B') w' := by
  have get : ∀ (c : Nat) C, (S.set b B')[c]? = some C → (c = b ∧ C = B') ∨ (c ≠ b ∧ S[c]? = some C) := by
    intro c C p
    rw [List.getElem?_set] at p
    by_cases hcb : b = c
    · subst hcb
      rw [if_pos rfl, if_pos (List.getElem?_eq_some_iff.1 hb).1] at p
      exact .inl ⟨rfl, by simpa using p.symm⟩
    · rw [if_neg hcb] at p
      exact .inr ⟨fun e => hcb e.symm, p⟩
  have hlb := (h.blk b B l hb hl).lt hm
  refine ⟨by simp [h.len], hbel, Nat.le_trans h.size hw.1, fun c C lc p q => ?_, fun c c' C C' lc lc' hne p p' m m' q q' => ?_⟩
  · rcases get c C p with ⟨rfl, rfl⟩ | ⟨hcb, p⟩
    · rw [hl] at q; cases q; exact hB
    · have hbr := h.blk c C lc p q
      by_cases hd : C = .dead
      · subst hd; trivial
      · refine hbr.mono (Ext.refl φ) ?_
        by_cases hmC : C.mine = true
        · exact hw.2 _ (hbr.lt hmC).2 (by simp only [ne_eq, Option.some.injEq]; exact h.sep b c B C l lc (fun e => hcb e.symm) hb p hm hmC hl q)
        · cases C with
          | dead => exact absurd rfl hd
          | cells cc own sz =>
            have : own = false := by simpa [Blk.mine] using hmC
            subst this
            have := hbr.below
            exact hw.2 _ (by have := h.size; omega) (by simp only [ne_eq, Option.some.injEq]; omega)
          | map es => exact absurd rfl hmC
          | iter s p => exact absurd rfl hmC
  · have key : ∀ (c : Nat) C lc, (S.set b B')[c]? = some C → C.mine = true → φ[c]? = some lc → ∃ D, S[c]? = some D ∧ D.mine = true := by
      intro c C lc p m q
      rcases get c C p with ⟨rfl, rfl⟩ | ⟨_, p⟩
      · exact ⟨B, hb, hm⟩
      · exact ⟨C, p, m⟩
    obtain ⟨D, d1, d2⟩ := key c C lc p m q
    obtain ⟨D', d1', d2'⟩ := key c' C' lc' p' m' q'
    exact h.sep c c' D D' lc lc' hne d1 d1' d2 d2' q q'

/-- a block is given up -/
theorem WR.kill {base : Nat} {w0 : World} {φ : List Loc} {S : List Blk} {w : World} (h : WR base w0 φ S w) (b : Nat) : WR base w0 φ (S.set b .dead) w := by
  have get : ∀ (c : Nat) C, (S.set b .dead)[c]? = some C → C = .dead ∨ (c ≠ b ∧ S[c]? = some C) := by
    intro c C p
    rw [List.getElem?_set] at p
    by_cases hcb : b = c
    · subst hcb
      rw [if_pos rfl] at p
      split at p
      · exact .inl (by simpa using p.symm)
      · cases p
    · rw [if_neg hcb] at p; exact .inr ⟨fun e => hcb e.symm, p⟩
  refine ⟨by simp [h.len], h.below, h.size, fun c C lc p q => ?_, fun c c' C C' lc lc' hne p p' m m' q q' => ?_⟩
  · rcases get c C p with rfl | ⟨_, p⟩
    · trivial
    · exact h.blk c C lc p q
  · rcases get c C p with rfl | ⟨_, p⟩
    · cases m
    · rcases get c' C' p' with rfl | ⟨_, p'⟩
      · cases m'
      · exact h.sep c c' C C' lc lc' hne p p' m m' q q'

/-- what a cell of ours holds -/
theorem WR.cell {base : Nat} {w0 : World} {φ : List Loc} {S : List Blk} {w : World} (h : WR base w0 φ S w) {b : Nat} {c : List Value} {own : Bool} {sz : Nat} (hb : S[b]? = some (.cells c own sz)) :
    ∃ l ys, φ[b]? = some l ∧ VRs φ c ys ∧ (∀ w', Cls base w0 φ S w w' → ∀ (i : Nat) y, ys[i]? = some y → w'.cell? ⟨l.blk, l.off + i, none⟩ = some y) ∧ l.sz = sz := by
  obtain ⟨l, hl, hbr⟩ := h.loc hb
  refine ⟨l, c.zipIdx.map fun (_, i) => (w.cell? ⟨l.blk, l.off + i, none⟩).getD undef, hl, ⟨by simp, fun i x y p q => ?_⟩, fun w' hc i y q => ?_, hbr.1⟩
  · obtain ⟨z, hz, hv⟩ := hbr.2.2.1 i x p
    simp [p, hz] at q
    subst q; exact hv
  · simp only [List.getElem?_map, List.getElem?_zipIdx, Option.map_map, Nat.zero_add] at q
    cases hx : c[i]? with
    | none => simp [hx] at q
    | some x =>
      obtain ⟨z, hz, _⟩ := hbr.2.2.1 i x hx
      simp [hx, hz] at q
      subst q
      rw [World.cell?_of_block (w := w) (hc.same b _ l hb (by simp) hl)]
      exact hz
end Go.Proofs.Ytcpolfjnbbodgaa.Ve
