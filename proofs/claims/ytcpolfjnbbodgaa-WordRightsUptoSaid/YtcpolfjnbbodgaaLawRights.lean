/- WordRights returns true for every input whose reading is of bulk at most 1048576, and each argument reads behind the call as it read before. Conditions: what comes in is of bulk at most 1048576. -/
import Derived.Test.YtcpolfjnbbodgaaGive
import Derived.Test.YtcpolfjnbbodgaaRights
import Derived.WalkKit
import Derived.ProofKit
import Derived.OpenShut
import Derived.JoinedCond
import Derived.ChangeOld
import Derived.Below
namespace Go.Proofs.Ytcpolfjnbbodgaa.wordRights
open Go.ChangeShapes Go.WideShapes Go.ChangeAt Go.RowKit
open Go Ve
set_option linter.unusedVariables false
set_option maxRecDepth 100000

theorem own : ownKnob Try.prog.godebug = none := by kernel_rfl
theorem laidOut : laidOutB Try.prog = true := by kernel_rfl

theorem contract (H : Type) (enc : TypeId × Value → H) (W : World) (base : Nat) (args : Array Value) (ds gs : List (DataW H)) (before : List MemPlace)
    (hval : ∀ (j : Nat) t v, Try.f6.params[j]? = some t → args[j]? = some v → Value.okWide Try.prog W .any base t v)
    (hW : DataW.Whole enc Try.prog Try.f6.params.toList Rows.wordRightsSpec.vars false W args.toList ds gs before) (hk : Rows.uptoSmall H (ds ++ gs) = true) :
    Calls Try.prog 6 args W fun e W' => ∃ v, e = .returned v ∧ Rows.wordRightsSpec.post enc Try.prog Try.f6 false true false false W args v W' := by
  have hW' := hW
  obtain ⟨p, q, hA0, hV, rfl, hfz, hnd⟩ := hW
  have hA : DataW.TrodAll enc Try.prog W 0 (fun _ => true) true Try.f6.params.toList args.toList ds p := hA0
  rw [Try.params6] at hA hval
  obtain ⟨v0, vs0, d0, ds0, p0, q0, hargs, rfl, rfl, h0, r0⟩ := trodAll_cons hA
  obtain ⟨v1, vs1, d1, ds1, p1, q1, rfl, rfl, rfl, h1, r1⟩ := trodAll_cons r0
  obtain ⟨rfl, rfl, rfl⟩ := trodAll_nil r1
  obtain rfl : args = #[v0, v1] := by cases args; simp_all
  obtain ⟨rfl, rfl⟩ := trodVars_none hV
  obtain ⟨w0, rfl, _⟩ := okWide_struct Try.underlying33 (hval 0 33 v0 rfl rfl)
  obtain ⟨w1, rfl, _⟩ := okWide_struct Try.underlying33 (hval 1 33 v1 rfl rfl)
  have k0 := h0
  have k1 := h1
  have lt0 : ∀ x ∈ p0, x.block < W.heap.size := by obtain ⟨m, hm⟩ := k0; exact DataW.trod_lt m _ _ _ hm
  have lt1 : ∀ x ∈ p1, x.block < W.heap.size := by obtain ⟨m, hm⟩ := k1; exact DataW.trod_lt m _ _ _ hm
  have hb : Rows.uptoBulk d0 ≤ 1048576 ∧ Rows.uptoBulk d1 ≤ 1048576 := by
    have h : Rows.uptoBulkAll ([d0, d1] ++ []) ≤ 1048576 := of_decide_eq_true hk
    simp only [Rows.uptoBulkAll, List.cons_append, List.nil_append] at h
    omega
  obtain ⟨fuel0, hf0⟩ := h0
  obtain ⟨fuel1, hf1⟩ := h1
  obtain ⟨φ1, S1, x1, ea, hE1, hO1, hWR1, hvr1, _, hR1⟩ := abs_event.2 enc W fuel0 _ d0 p0 hf0 hb.1 [] [] (start_wr W)
  obtain ⟨φ2, S2, x2, eb, hE2, hO2, hWR2, hvr2, hone2, hR2⟩ := abs_event.2 enc W fuel1 _ d1 p1 hf1 hb.2 φ1 S1 hWR1
  have hRa := evG_R (abs_event.1 _ _ _ _ hO2 hR1)
  have hRb := evG_R hR2
  have hrun := law_rights ⟨S2, S2.length⟩ x1 x2 ea eb hRa hRb
  have agg : ∀ (φ : List Ve.Loc) (xs : List Value) (ws : Array Value), VRs φ xs (Value.agg ws).cells.toList → VR φ (.agg xs.toArray) (.agg ws) := fun φ xs ws h => .agg (by simpa [Value.cells] using h.1) (fun i x y hx hy => h.2 i x y (by simpa using hx) (by simpa [Value.cells] using hy))
  have hargs' : VRs φ2 [.agg x1.toArray, .agg x2.toArray] [.agg w0, .agg w1] := .cons (agg _ _ _ (hvr1.mono hE2)) (.cons (agg _ _ _ hvr2) (.nil φ2))
  clear hA0
  refine (law_calls (by kernel_rfl) (lib0_ok _ _ _) hWR2 hargs' hrun).mono fun e W' ⟨he, bel⟩ => ?_
  subst he
  exact ⟨_, rfl, _, _, _, [], _, [], hW', trodAll_mk1 (shut_bool Try.underlying4 _), (trodAll_cons_mk (Below.trod laidOut (by kernel_rfl) (of_decide_eq_true (by kernel_rfl)) k0 bel lt0) (trodAll_cons_mk (Below.trod laidOut (by kernel_rfl) (of_decide_eq_true (by kernel_rfl)) k1 bel lt1) trodAll_mk0)), rfl, bel.frame _, fun h => by cases h⟩

theorem lifted (os : Os) (started : os.Started) (H : Type) (enc : TypeId × Value → H) (F : Stop.Interp) :
    ReturnsInHanded {} Try.checked os 6 .any ((Rows.OpenSpec.upto Rows.wordRightsSpec).pre6 enc Try.prog Try.f6 Rows.wordRightsUptoRow.domain false) (((Rows.OpenSpec.upto Rows.wordRightsSpec).at F).post enc Try.prog Try.f6 false true false false) := by
  refine returnsInHanded_of_cond (C := Try.checked) (s := Rows.OpenSpec.upto Rows.wordRightsSpec) (k := Rows.uptoSmall) rfl own started (by kernel_rfl) Try.func6
    (OpenSpec.witness (enc := enc) (C := Try.checked) (s := Rows.OpenSpec.upto Rows.wordRightsSpec) (k := Rows.uptoSmall) rfl false ⟨#[], #[.agg #[.int .i64 0, .string .empty, .string .empty, .slice none 0 0, .string .empty], .agg #[.int .i64 0, .string .empty, .string .empty, .slice none 0 0, .string .empty]], []⟩ 8 (by kernel_rfl) (by kernel_rfl) (by kernel_rfl)
      (x := ([.agg [.lit (.int .i64 0), .agg [.lit (.string []), .lit (.string [])], .nil, .lit (.string [])], .agg [.lit (.int .i64 0), .agg [.lit (.string []), .lit (.string [])], .nil, .lit (.string [])]], [], [])) (by kernel_rfl) rfl (by kernel_rfl)) ?_
  intro W base args ds gs before hval hW _ hk _
  exact contract H enc W base args ds gs before hval hW hk

theorem over : Rows.wordRightsUptoRow.holds Try.pinned (Rows.OpenSpec.upto Rows.wordRightsSpec) :=
  OpenClaim.holds_of_cond 6 Try.f6 rfl rfl rfl rfl rfl rfl rfl ⟨rfl, rfl, rfl, rfl, rfl⟩ rfl rfl rfl rfl rfl (by kernel_rfl) Try.func6 (by kernel_rfl)
    (of_decide_eq_true (by kernel_rfl)) (by unfold Func.isWrapper; first | (rw [if_pos (by decide +kernel)]; kernel_rfl) | (rw [if_neg (by decide +kernel)]; exact ⟨rfl, rfl⟩))
    (fun os started H enc _ F => lifted os started H enc F)

theorem proved : Rows.WordRightsUptoSaid := over
#print axioms proved
end Go.Proofs.Ytcpolfjnbbodgaa.wordRights
namespace Go.Proofs.Ytcpolfjnbbodgaa
/-- The row, under a short name, for the claim. -/
theorem wordRights_holds : Rows.WordRightsUptoSaid := wordRights.proved
end Go.Proofs.Ytcpolfjnbbodgaa
