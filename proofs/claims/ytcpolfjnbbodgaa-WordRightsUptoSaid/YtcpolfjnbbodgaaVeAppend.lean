/- append and copy. Conditions: none here. -/
import Derived.Test.YtcpolfjnbbodgaaVeKeep
namespace Go.Proofs.Ytcpolfjnbbodgaa.Ve
open Go Go.RowKit
set_option linter.unusedVariables false
set_option linter.unusedSimpArgs false

section
variable {P : Program} {base : Nat} {w0 : World} {φ : List Loc} {S : List Blk} {w : World}

theorem Cls.drew {w' : World} (h : Cls base w0 φ S w w') : Cls base w0 φ S w w'.drew :=
  ⟨h.wr.same_heap rfl rfl rfl rfl, fun b B l p q r => h.same b B l p q r⟩

theorem zeroCells_size (z : Array Value) (n : Nat) : (Builtin.zeroCells z n).size = n * z.size := by simp [Builtin.zeroCells]

theorem added_run {H : Heap} (hW : WR base w0 φ H.bs w) {ts : List TypeId} {e size by' n : Nat} {x x' : Value} {xs : List Value} {z : List Value} (he : ts.head?.bind (tElem P) = some e) (hs : tSize P e = some size) (hb : tBytes P e = some by')
    (hz : tZero P e = some z) (hb0 : by' ≠ 0) (h : addedA P H size (ts[1]?) x = some (n, xs)) (hx : VR φ x x') :
    ∃ xs', VRs φ xs xs' ∧ xs'.length = n * size ∧ ∀ w', Cls base w0 φ H.bs w w' → ∀ bs sLen sCap ty, ((sLen + n) * by' ≤ 140737488355328 ∨ n = 0) → (n = 0 → sLen ≤ sCap) →
      (sLen + n ≤ sCap → (Builtin.append_ ts.toArray ty #[.slice bs sLen sCap, x']).run P w' = (match bs with
        | some a => (storeCells (a.add (sLen * size)) xs').run P w'
        | none => .ok () w').andThen fun _ w2 => .ok (.slice bs (sLen + n) sCap) w2) ∧
      (¬ sLen + n ≤ sCap → ∀ old : List Value, (∀ w2, Cls base w0 φ H.bs w w2 → (Builtin.firstCells size sLen (.slice bs sLen sCap)).run P w2 = .ok old.toArray w2) →
        ∃ k rest, rest.length = k * size ∧ (Builtin.append_ ts.toArray ty #[.slice bs sLen sCap, x']).run P w' =
          .ok (.slice (some ⟨w'.heap.size, 0, none⟩) (sLen + n) (sLen + n + k)) (w'.drew.alloc (.cells (old ++ xs' ++ rest).toArray e))) := by
  obtain ⟨t, ts, rfl⟩ : ∃ t r, ts = t :: r := by cases ts with
    | nil => simp at he
    | cons t r => exact ⟨t, r, rfl⟩
  have hu := tElem_spec (by simpa using he)
  obtain ⟨i, hi, hib⟩ : ∃ i, P.info? e = some i ∧ i.bytes = by' := by
    unfold tBytes at hb
    cases hi : P.info? e with
    | none => simp [hi] at hb
    | some i => simp [hi] at hb; exact ⟨i, rfl, hb⟩
  obtain ⟨xt, d, hxt, hd, hni, hlen, xs', hv, hl, hf⟩ : ∃ xt d, ts[0]? = some xt ∧ P.underlying xt = some d ∧ (d = .string ∨ ∃ e', d = .slice e') ∧ (∀ w', (Builtin.lenOf x').run P w' = .ok n w') ∧
      ∃ xs', VRs φ xs xs' ∧ xs'.length = n * size ∧ ∀ w', Cls base w0 φ H.bs w w' → (Builtin.firstCells size n x').run P w' = .ok xs'.toArray w' := by
    unfold addedA at h
    have hd0 : ∀ d, (((t :: ts)[1]?).bind P.underlying) = some d → ∃ xt, ts[0]? = some xt ∧ P.underlying xt = some d := by
      intro d hd
      simp only [List.getElem?_cons_succ] at hd
      cases hxt : ts[0]? with
      | none => simp [hxt] at hd
      | some xt => exact ⟨xt, rfl, by simpa [hxt] using hd⟩
    split at h
    · rename_i ee a m c hd
      obtain ⟨xt, h1, h2⟩ := hd0 _ hd
      simp only [Option.map_eq_some_iff, Prod.mk.injEq] at h
      obtain ⟨l, hl, rfl, rfl⟩ := h
      obtain ⟨a', c', l', rfl, e1, e2, e3⟩ := sliceCells_sound hW hl hx
      exact ⟨xt, _, h1, h2, .inr ⟨_, rfl⟩, fun w' => rfl, l', e2, e1, fun w' hc => by rw [e3 w' hc _ (Nat.le_refl _), List.take_of_length_le (by omega)]⟩
    · rename_i s hd
      obtain ⟨xt, h1, h2⟩ := hd0 _ hd
      split at h
      · rename_i hs1
        simp only [Option.some.injEq, Prod.mk.injEq] at h
        obtain ⟨rfl, rfl⟩ := h
        cases hx
        refine ⟨xt, _, h1, h2, .inl rfl, fun w' => rfl, s.data.toList.map byteV, VRs.map _ _ _ (fun b _ => .int _ _), by subst hs1; simp, fun w' _ => ?_⟩
        simp only [Builtin.firstCells, Sem.run_pure]
        congr 1
        have : s.extract 0 s.size = s := by simp
        rw [this]
        apply Array.toList_inj.1
        simp only [Array.toList_map]
        rfl
      · cases h
    · cases h
  refine ⟨xs', hv, hl, fun w' hc bs sLen sCap ty hbound hn0 => ?_⟩
  have h1 : (t :: ts).toArray[1]? = some xt := by simpa using hxt
  have g0 : (t :: ts).toArray[0]? = some t := by simp
  have hti : (typeInfo e).run P w' = .ok i w' := by simp [typeInfo, hi]
  obtain ⟨zv, hzr, hzc, hza, hzs⟩ := run_zero' hz w'.drew
  have hsz : zv.cells.size = size := by
    rw [hs] at hzs; cases hzs; rw [← hzc]; simp
  simp only [Builtin.append_]
  simp only [g0, h1, List.getElem?_toArray, List.getElem?_cons_zero, List.getElem?_cons_succ, Sem.run_bind, run_underlying hu, run_underlying hd, Result.andThen_ok, run_sizeOf' hs, Sem.run_pure,
    ]
  clear hd
  rcases hni with rfl | ⟨_, rfl⟩
  all_goals
   simp only [Bool.false_eq_true, if_false, hlen, Bool.not_false, if_true, Sem.run_bind, Result.andThen_ok]
   refine ⟨fun hfit => ?_, fun hfit old hold => ?_⟩
   · simp only [if_pos hfit, Sem.run_bind, hf w' hc, Result.andThen_ok]
     cases bs <;> simp
   · have hn : n ≠ 0 := fun h0 => hfit (by subst h0; simpa using hn0 rfl)
     have hbd := hbound.resolve_right hn
     have hneed : sLen + n ≤ 140737488355328 := by
       have : 1 ≤ by' := by omega
       calc sLen + n = (sLen + n) * 1 := by simp
         _ ≤ (sLen + n) * by' := Nat.mul_le_mul_left _ this
         _ ≤ _ := hbd
     have c1 : ¬ (((sLen + n : Nat) : Int) > IntKind.i64.max ∧ (False ∨ i.bytes = 0)) := by rintro ⟨h, _⟩; simp at h; omega
     have c2 : ¬ Builtin.nextslicecap (sLen + n) sCap * i.bytes > 2 ^ 48 := by
       have := growslice_fits (need := sLen + n) (old := sCap) (bytes := by') (by omega) hbd
       rw [hib]; omega
     have hti2 : (typeInfo e).run P w'.drew = .ok i w'.drew := by simp [typeInfo, hi]
     have hch : (choose (Question.appendCap (sLen + n) sCap e)).run P w' = .ok (sLen + n + w'.tape w'.drawn (.appendCap (sLen + n) sCap e) % (2 ^ 63 - (sLen + n))) w'.drew := by
       rw [run_choose, if_neg (by simp [Question.forced])]; rfl
     simp only [if_neg hfit, Sem.run_bind, hti, Result.andThen_ok, if_neg c1, if_neg c2, run_askRoom, hch, hti2, hold _ hc.drew, hf _ hc.drew, hzr, newRow, newObj, Sem.run, Sem.run_pure]
     generalize w'.tape w'.drawn (.appendCap (sLen + n) sCap e) % (2 ^ 63 - (sLen + n)) = k
     refine ⟨k, (Builtin.zeroCells zv.cells (sLen + n + k - (sLen + n))).toList, ?_, ?_⟩
     · rw [Array.length_toList, zeroCells_size, hsz]; congr 1; omega
     · have e1 : old.toArray ++ xs'.toArray ++ Builtin.zeroCells zv.cells (sLen + n + k - (sLen + n)) = (old ++ xs' ++ (Builtin.zeroCells zv.cells (sLen + n + k - (sLen + n))).toList).toArray := by
         apply Array.toList_inj.1; simp
       rw [e1]; rfl
end
end Go.Proofs.Ytcpolfjnbbodgaa.Ve
