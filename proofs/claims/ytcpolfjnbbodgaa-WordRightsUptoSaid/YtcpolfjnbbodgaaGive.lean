/- What comes in, for the word laws: events as they are read, laid in a heap of ours. Conditions: none here. -/
import Derived.Test.YtcpolfjnbbodgaaVeGlue
import Derived.Test.YtcpolfjnbbodgaaPrefix
namespace Go.Proofs.Ytcpolfjnbbodgaa.Ve
open Go Go.RowKit
set_option linter.unusedVariables false
set_option linter.unusedSimpArgs false
set_option maxRecDepth 100000

theorem slI_of {S : List Blk} {sz : Nat} {α : Type} {R R' : List Value → α → Prop} {v : Value} {l : List α} (h : Sl S sz R v l) (hR : ∀ cs a, R cs a → R' cs a) : SlI ⟨S, S.length⟩ S.length sz R' v l := by
  rcases h with h | ⟨b, o, hv, h⟩
  · exact .inl h
  · refine .inr ⟨b, o, _, hv, ?_⟩
    rcases h with h | ⟨c, h1, h2, h3⟩
    · exact .inl h
    · exact .inr ⟨c, false, (List.getElem?_eq_some_iff.1 h1).1, h1, h2, fun i a hi => hR _ _ (h3 i a hi)⟩
theorem sl_form {S : List Blk} {sz : Nat} {α : Type} {R : List Value → α → Prop} {v : Value} {l : List α} (h : Sl S sz R v l) : ∀ a n c, v = .slice a n c → n = 0 ∨ c = n + 1 := by
  intro a n c hv
  rcases h with ⟨h, _⟩ | ⟨b, o, h, _⟩
  · rw [hv] at h; cases h; exact .inl rfl
  · rw [hv] at h; cases h; exact .inr rfl

abbrev StrR : List Value → ByteArray → Prop := fun cs s => cs = [.string s] ∧ s.size ≤ 1048576
theorem abs_str : Absorbs Try.prog 9 (fun _ cs (s : ByteArray) => cs = [.string s] ∧ s.size ≤ 1048576) := absorb_string Try.underlying9
theorem abs_int : Absorbs Try.prog 3 (fun _ cs (n : Int) => cs = [.int .i64 n] ∧ (Lit.int .i64 n).wf = true) := absorb_int Try.underlying3
def NmR (cs : List Value) (x : ByteArray × ByteArray) : Prop := cs = [.string x.1, .string x.2] ∧ x.1.size ≤ 1048576 ∧ x.2.size ≤ 1048576
theorem abs_name : Absorbs Try.prog 30 (fun _ cs x => NmR cs x) := by
  have h := absorb_struct (P := Try.prog) (t := 30) Try.underlying30 (by kernel_rfl) (absorbF_cons (k := 1) rfl (by kernel_rfl) abs_str (absorbF_cons (k := 1) rfl (by kernel_rfl) abs_str (absorbF_nil _)))
  refine h.map (fun x => (x.1, x.2.1)) ?_ (fun _ _ _ _ _ h => h)
  rintro S cs ⟨a, b, u⟩ ⟨c1, c2, rfl, ⟨rfl, h1⟩, c3, c4, rfl, ⟨rfl, h2⟩, rfl⟩
  exact ⟨rfl, h1, h2⟩
theorem abs_attr : Absorbs Try.prog 39 (fun _ cs a => AtR cs a) := by
  have h := absorb_struct (P := Try.prog) (t := 39) Try.underlying39 (by kernel_rfl) (absorbF_cons (k := 2) rfl (by kernel_rfl) abs_name (absorbF_cons (k := 1) rfl (by kernel_rfl) abs_str (absorbF_nil _)))
  refine h.map (fun x => ⟨x.1.1, x.1.2, x.2.1⟩) ?_ (fun _ _ _ _ _ h => h)
  rintro S cs ⟨a, b, u⟩ ⟨c1, c2, rfl, ⟨rfl, h1, h1'⟩, c3, c4, rfl, ⟨rfl, h2⟩, rfl⟩
  exact ⟨rfl, h1, h1', h2⟩
theorem abs_attrs : Absorbs Try.prog 31 (fun S cs (l : List AtD) => ∃ v, cs = [v] ∧ Sl S 3 AtR v l ∧ l.length ≤ 1048576) := absorb_slice (P := Try.prog) (t := 31) (e := 39) (sz := 3) Try.underlying31 (by kernel_rfl) (by omega) abs_attr
def EvG (S : List Blk) (cs : List Value) (e : EvD) : Prop :=
  ∃ v, cs = [.int .i64 e.kind, .string e.space, .string e.loc, v, .string e.text] ∧ Sl S 3 AtR v e.attrs ∧ e.space.size ≤ 1048576 ∧ e.loc.size ≤ 1048576 ∧ e.text.size ≤ 1048576 ∧ e.attrs.length ≤ 1048576
theorem abs_event : Absorbs Try.prog 33 (fun S cs e => EvG S cs e) := by
  have h := absorb_struct (P := Try.prog) (t := 33) Try.underlying33 (by kernel_rfl) (absorbF_cons (k := 1) rfl (by kernel_rfl) abs_int (absorbF_cons (k := 2) rfl (by kernel_rfl) abs_name (absorbF_cons (k := 1) rfl (by kernel_rfl) abs_attrs (absorbF_cons (k := 1) rfl (by kernel_rfl) abs_str (absorbF_nil _)))))
  refine h.map (fun x => ⟨x.1, x.2.1.1, x.2.1.2, x.2.2.1, x.2.2.2.1⟩) ?_ ?_
  · rintro S cs ⟨k, nm, at_, tx, u⟩ ⟨c1, c2, rfl, ⟨rfl, h1⟩, c3, c4, rfl, ⟨rfl, h2, h2'⟩, c5, c6, rfl, ⟨v, rfl, h3, h3'⟩, c7, c8, rfl, ⟨rfl, h4⟩, rfl⟩
    exact ⟨v, rfl, h3, h2, h2', h4, h3'⟩
  · rintro S S' cs e ho ⟨v, h1, h2, h3⟩
    exact ⟨v, h1, h2.mono ho (fun _ _ h => h), h3⟩
theorem abs_events : Absorbs Try.prog 22 (fun S cs (l : List EvD) => ∃ v, cs = [v] ∧ Sl S 5 (EvG S) v l ∧ l.length ≤ 1048576) := absorb_slice (P := Try.prog) (t := 22) (e := 33) (sz := 5) Try.underlying22 (by kernel_rfl) (by omega) abs_event
theorem evG_R {S : List Blk} {cs : List Value} {e : EvD} (h : EvG S cs e) : EvR ⟨S, S.length⟩ S.length cs e := by
  obtain ⟨v, h1, h2, h3⟩ := h
  exact ⟨v, h1, slI_of h2 (fun _ _ h => h), h3⟩
theorem evs_of {S : List Blk} {v : Value} {l : List EvD} (h : Sl S 5 (EvG S) v l) : EvsR ⟨S, S.length⟩ S.length v l := slI_of h (fun _ _ h => evG_R h)
theorem lib0_ok (P : Program) (base : Nat) (w0 : World) : LibOk P base w0 lib0 := fun f s h => by cases h
end Go.Proofs.Ytcpolfjnbbodgaa.Ve
