/- What the evaluator tells of operations that leave the heap alone, the model's operations do. Conditions: none here. -/
import Derived.Test.YtcpolfjnbbodgaaVeRel
import Derived.Laws.StructEq
namespace Go.Proofs.Ytcpolfjnbbodgaa.Ve
open Go Go.RowKit
set_option linter.unusedVariables false
set_option linter.unusedSimpArgs false

section
variable {P : Program}

theorem run_sizeOf' {t : TypeId} {s : Nat} (h : tSize P t = some s) (w : World) : (sizeOf t).run P w = .ok s w := by
  unfold tSize at h
  cases hi : P.info? t with
  | none => simp [hi] at h
  | some i => simp [hi] at h; simp [sizeOf, typeInfo, hi, h]
theorem run_isAgg' {t : TypeId} {b : Bool} (h : tAgg P t = some b) (w : World) : (isAgg t).run P w = .ok b w := by
  unfold tAgg at h
  cases hu : P.underlying t with
  | none => simp [hu] at h
  | some d => cases d <;> simp_all [isAgg, run_underlying hu]
theorem run_zeroValue' {t : TypeId} {z : Value} (h : tZeroV P t = some z) (w : World) : (zeroValue t).run P w = .ok z w ∧ na1 z = true := by
  unfold tZeroV at h
  cases hi : P.info? t with
  | none => simp [hi] at h
  | some i =>
    cases hz : i.zero with
    | none => simp [hi, hz] at h
    | some z' =>
      simp [hi, hz] at h
      obtain ⟨h1, rfl⟩ := h
      exact ⟨by simp [zeroValue, typeInfo, hi, hz], h1⟩
theorem run_zero' {t : TypeId} {z : List Value} (h : tZero P t = some z) (w : World) : ∃ zv, (zeroValue t).run P w = .ok zv w ∧ zv.cells.toList = z ∧ z.all na0 = true ∧ tSize P t = some z.length := by
  unfold tZero at h
  cases hi : P.info? t with
  | none => simp [hi] at h
  | some i =>
    cases hz : i.zero with
    | none => simp [hi, hz] at h
    | some z' =>
      simp only [hi, hz, Option.bind_some] at h
      split at h
      · rename_i hc
        cases h
        simp only [Bool.and_eq_true, beq_iff_eq] at hc
        exact ⟨z', by simp [zeroValue, typeInfo, hi, hz], rfl, hc.1, by simpa using hc.2⟩
      · cases h
theorem VRs.na0 {φ : List Loc} {l : List Value} (h : l.all na0 = true) : VRs φ l l :=
  ⟨rfl, fun i x y p q => by rw [p] at q; cases q; exact VR.na0 (List.all_eq_true.1 h x (List.mem_of_getElem? p))⟩

end

/-- An operation that leaves the world alone, in the whole class: its value is alike ours. -/
def Keeps (P : Program) (base : Nat) (w0 : World) (φ : List Loc) (S : List Blk) (w : World) (s : Sem Value) (v : Value) : Prop :=
  ∃ v', VR φ v v' ∧ ∀ w', Cls base w0 φ S w w' → s.run P w' = .ok v' w'

section
variable {P : Program} {base : Nat} {w0 : World} {φ : List Loc} {S : List Blk} {w : World}

theorem Keeps.const {s : Sem Value} {v v' : Value} (h : VR φ v v') (hs : ∀ w', s.run P w' = .ok v' w') : Keeps P base w0 φ S w s v := ⟨v', h, fun w' _ => hs w'⟩

theorem cells_class {H : Heap} (hW : WR base w0 φ H.bs w) {b : Nat} {c : List Value} {own : Bool} {sz : Nat} (hg : H.get b = some (.cells c own sz)) {l : Loc} (hl : φ[b]? = some l) :
    ∃ ys, VRs φ c ys ∧ ∀ w', Cls base w0 φ H.bs w w' → ∀ (i : Nat) y, ys[i]? = some y → w'.cell? ⟨l.blk, l.off + i, none⟩ = some y := by
  obtain ⟨l', ys, hl', hv, hc, _⟩ := hW.cell hg
  rw [hl] at hl'; cases hl'
  exact ⟨ys, hv, hc⟩

theorem run_cells {w' : World} {b o : Nat} {ys : List Value} (h : ∀ (i : Nat) y, ys[i]? = some y → w'.cell? ⟨b, o + i, none⟩ = some y) (n : Nat) (k : Nat) (hk : n + k ≤ ys.length) :
    (loadCells ⟨b, o + n, none⟩ k).run P w' = .ok ((ys.drop n).take k).toArray w' := by
  have hlen : ((ys.drop n).take k).length = k := by simp; omega
  have := run_loadCells_list (P := P) w' ⟨b, o + n, none⟩ ((ys.drop n).take k) (fun j v hj => by
    have hadd : (⟨b, o + n, none⟩ : Addr).add j = ⟨b, o + n + j, none⟩ := by unfold Addr.add; split <;> simp_all
    rw [hadd, Nat.add_assoc]
    refine h _ _ ?_
    rw [List.getElem?_take] at hj
    split at hj
    · rwa [List.getElem?_drop] at hj
    · cases hj)
  rwa [hlen] at this

/-- loads -/
theorem ld_sound {t : TypeId} {H : Heap} {a a' v : Value} (hW : WR base w0 φ H.bs w) (h : ld P t H a = some v) (ha : VR φ a a') : Keeps P base w0 φ H.bs w (Instr.loadAt t a') v := by
  unfold ld at h
  split at h
  rotate_left
  · cases h
  rename_i b o
  split at h
  rotate_left
  · cases h
  rename_i c own sz hg
  cases ha with
  | ptr hl =>
    rename_i l
    obtain ⟨ys, hv, hc⟩ := cells_class hW hg hl
    split at h
    · rename_i hagg
      split at h
      rotate_left
      · cases h
      rename_i s hs
      split at h
      rotate_left
      · cases h
      rename_i hlt
      cases h
      refine ⟨.agg ((ys.drop o).take s).toArray, VR.toAgg ((hv.drop o).take s), fun w' hcl => ?_⟩
      simp only [Instr.loadAt, Instr.sureAddr, loadVar, Sem.run_bind, Sem.run_pure, Result.andThen_ok, run_isAgg' hagg, if_true, run_sizeOf' hs,
        run_cells (hc w' hcl) o s (by rw [← hv.1]; exact hlt)]
    · rename_i hagg
      obtain ⟨y, hy, hr⟩ := hv.get h
      refine ⟨y, hr, fun w' hcl => ?_⟩
      simp only [Instr.loadAt, Instr.sureAddr, loadVar, Sem.run_bind, Sem.run_pure, Result.andThen_ok, run_isAgg' hagg, Bool.false_eq_true, if_false, run_load, hc w' hcl o y hy]
    · cases h

/-! ### '==' -/
theorem cellsEq_append {ks ms : List Leaf} {xs ys : List Value} {b : Bool} (h : cellsEq (ks ++ ms) xs ys = some b) :
    ∃ b1 b2, cellsEq ks (xs.take ks.length) (ys.take ks.length) = some b1 ∧ cellsEq ms (xs.drop ks.length) (ys.drop ks.length) = some b2 ∧ b = (b1 && b2) := by
  induction ks generalizing xs ys b with
  | nil => exact ⟨true, b, by simp [cellsEq], by simpa using h, by simp⟩
  | cons k ks ih =>
    cases xs with
    | nil => simp [cellsEq] at h
    | cons x xs =>
      cases ys with
      | nil => simp [cellsEq] at h
      | cons y ys =>
        simp only [List.cons_append, cellsEq] at h
        split at h
        · rename_i a b' h1 h2
          cases h
          obtain ⟨b1, b2, e1, e2, rfl⟩ := ih h2
          exact ⟨a && b1, b2, by simp [cellsEq, h1, e1], by simpa using e2, by rw [Bool.and_assoc]⟩
        · cases h
theorem cellsEq_length {ks : List Leaf} {xs ys : List Value} {b : Bool} (h : cellsEq ks xs ys = some b) : xs.length = ks.length ∧ ys.length = ks.length := by
  induction ks generalizing xs ys b with
  | nil => cases xs <;> cases ys <;> simp_all [cellsEq]
  | cons k ks ih =>
    cases xs with
    | nil => simp [cellsEq] at h
    | cons x xs =>
      cases ys with
      | nil => simp [cellsEq] at h
      | cons y ys =>
        simp only [cellsEq] at h
        split at h
        · rename_i h2; have := ih h2; simp [this.1, this.2]
        · cases h

theorem flat_scalar {d : Nat} {t : TypeId} {ks : List Leaf} (h : tFlat P (d + 1) t = some ks) (ha : tAgg P t = some false) :
    ∃ k, ks = [k] ∧ ∀ D xv yv b (w : World), cellEq k xv yv = some b → (Op.equalIn (D + 1) t xv yv).run P w = .ok b w := by
  unfold tFlat at h
  unfold tAgg at ha
  split at h
  · rename_i hu
    cases h
    refine ⟨_, rfl, fun D xv yv b w hc => ?_⟩
    unfold cellEq at hc
    split at hc <;> first | (simp_all; done) | skip
    cases hc; exact run_equalIn_bool' w D t _ _ hu
  · rename_i k hu
    cases h
    refine ⟨_, rfl, fun D xv yv b w hc => ?_⟩
    unfold cellEq at hc
    split at hc <;> first | (simp_all; done) | skip
    split at hc
    · rename_i hk; subst hk; cases hc; exact run_equalIn_int w D t _ k _ _ hu
    · cases hc
  · rename_i hu
    cases h
    refine ⟨_, rfl, fun D xv yv b w hc => ?_⟩
    unfold cellEq at hc
    split at hc <;> first | (simp_all; done) | skip
    cases hc; rw [run_equalIn_string w D t _ _ hu, beq_toListBytes]
  · rename_i hu; simp [hu] at ha
  · cases h

theorem flat_agg {d : Nat} : ∀ {t : TypeId} {ks : List Leaf}, tFlat P d t = some ks → tAgg P t = some true →
    ∀ D, d ≤ D → ∀ (xs ys : Array Value) b (w : World), cellsEq ks xs.toList ys.toList = some b → (Op.equalIn D t (.agg xs) (.agg ys)).run P w = .ok b w := by
  induction d with
  | zero => intro t ks h; simp [tFlat] at h
  | succ d ih =>
    intro t ks h ha D hD xs ys b w hc
    obtain ⟨D, rfl⟩ : ∃ m, D = m + 1 := ⟨D - 1, by omega⟩
    unfold tFlat at h
    unfold tAgg at ha
    split at h <;> first | (rename_i hu; simp [hu] at ha; done) | (rename_i k hu; simp [hu] at ha; done) | (cases h; done) | skip
    rename_i fs hu
    split at h
    · cases h
    rename_i hst
    have hf : P.underlying t = some (.struct (P.fieldsOf t)) := by simp [Program.fieldsOf, hu]
    have hfs : P.fieldsOf t = fs := by simp [Program.fieldsOf, hu]
    rw [run_equalIn_struct w D t xs ys hf (by simpa using hst), hfs]
    have key : ∀ (fl : List Field) (n : Nat) (r : List Leaf) (b : Bool), flatFs P (tFlat P d) fl n = some r → cellsEq r (xs.toList.drop n) (ys.toList.drop n) = some b →
        (Op.eqFields D xs ys fl).run P w = .ok b w := by
      intro fl
      induction fl with
      | nil => intro n r b h1 h2; simp [flatFs] at h1; subst h1; have := cellsEq_length h2; cases hx : xs.toList.drop n <;> cases hy : ys.toList.drop n <;> simp_all [cellsEq, Op.eqFields]
      | cons f fl ihf =>
        intro n r b h1 h2
        simp only [flatFs] at h1
        split at h1
        rotate_left
        · cases h1
        rename_i hn
        split at h1
        rotate_left
        · cases h1
        rename_i m hm
        split at h1
        rotate_left
        · cases h1
        rename_i hs
        simp only [Option.map_eq_some_iff] at h1
        obtain ⟨r', hr', rfl⟩ := h1
        obtain ⟨b1, b2, e1, e2, rfl⟩ := cellsEq_append h2
        rw [List.drop_drop] at e2
        rw [List.drop_drop] at e2
        have ihf' := ihf _ _ _ hr' e2
        have hln := cellsEq_length e1
        have hstep : ∃ a c, (part f.type xs f.offset).run P w = .ok a w ∧ (part f.type ys f.offset).run P w = .ok c w ∧ (Op.equalIn D f.type a c).run P w = .ok b1 w := by
          have hdpos : ∃ d', d = d' + 1 := by cases d with
            | zero => simp [tFlat] at hm
            | succ d' => exact ⟨d', rfl⟩
          obtain ⟨d', rfl⟩ := hdpos
          have hag : ∃ q, tAgg P f.type = some q := by
            unfold tAgg; unfold tFlat at hm
            split at hm <;> rename_i hu' <;> first | exact ⟨_, by rw [hu']⟩ | cases hm
          obtain ⟨q, hq⟩ := hag
          cases q with
          | true =>
            refine ⟨.agg (xs.extract f.offset (f.offset + m.length)), .agg (ys.extract f.offset (f.offset + m.length)), by simp [part, run_isAgg' hq, run_sizeOf' hs], by simp [part, run_isAgg' hq, run_sizeOf' hs], ?_⟩
            refine ih hm hq D (by omega) _ _ _ w ?_
            rw [hn.2]
            simpa [List.take_drop] using e1
          | false =>
            obtain ⟨k, rfl, hk⟩ := flat_scalar hm hq
            obtain ⟨D', rfl⟩ : ∃ z, D = z + 1 := ⟨D - 1, by omega⟩
            simp only [List.length_cons, List.length_nil, Nat.zero_add] at e1 hln
            obtain ⟨x, hx⟩ : ∃ x, (xs.toList.drop n).take 1 = [x] := List.length_eq_one_iff.1 hln.1
            obtain ⟨y, hy⟩ : ∃ y, (ys.toList.drop n).take 1 = [y] := List.length_eq_one_iff.1 hln.2
            rw [hx, hy] at e1
            have hx' : xs[f.offset]? = some x := by
              have : ((xs.toList.drop n).take 1)[0]? = some x := by rw [hx]; rfl
              rw [hn.2]; simpa [List.getElem?_take, List.getElem?_drop] using this
            have hy' : ys[f.offset]? = some y := by
              have : ((ys.toList.drop n).take 1)[0]? = some y := by rw [hy]; rfl
              rw [hn.2]; simpa [List.getElem?_take, List.getElem?_drop] using this
            refine ⟨x, y, by simp [part, run_isAgg' hq, hx'], by simp [part, run_isAgg' hq, hy'], hk D' x y b1 w ?_⟩
            unfold cellsEq at e1
            split at e1 <;> simp_all [cellsEq]
        obtain ⟨a, c, s1, s2, s3⟩ := hstep
        simp only [Op.eqFields, hn.1, ne_eq, not_false_eq_true, if_true, Sem.run_bind, s1, s2, s3, Result.andThen_ok]
        cases b1
        · simp
        · simpa using ihf'
    exact key fs.toList 0 ks b h (by simpa using hc)

theorem tCmp_spec {t : TypeId} {ks : List Leaf} (h : tCmp P t = some ks) : P.eqGuardType P.depth t = false ∧ tFlat P 9 t = some ks := by
  unfold tCmp at h
  split at h
  · cases h
  · rename_i hq; exact ⟨by simpa using hq, h⟩

theorem cellEq_vr {k : Leaf} {x y x' y' : Value} {b : Bool} (h : cellEq k x y = some b) (hx : VR φ x x') (hy : VR φ y y') : x' = x ∧ y' = y := by
  unfold cellEq at h
  split at h <;> first | (cases h; done) | (cases hx; cases hy; exact ⟨rfl, rfl⟩)
theorem cellsEq_vr {ks : List Leaf} {xs ys xs' ys' : List Value} {b : Bool} (h : cellsEq ks xs ys = some b) (hx : VRs φ xs xs') (hy : VRs φ ys ys') : xs' = xs ∧ ys' = ys := by
  induction ks generalizing xs ys xs' ys' b with
  | nil => cases xs <;> cases ys <;> simp [cellsEq] at h; exact ⟨hx.of_nil, hy.of_nil⟩
  | cons k ks ih =>
    cases xs with
    | nil => simp [cellsEq] at h
    | cons x xs =>
      cases ys with
      | nil => simp [cellsEq] at h
      | cons y ys =>
        simp only [cellsEq] at h
        split at h
        · rename_i a c h1 h2
          obtain ⟨x2, xs2, rfl, p1, p2⟩ := hx.of_cons
          obtain ⟨y2, ys2, rfl, q1, q2⟩ := hy.of_cons
          obtain ⟨rfl, rfl⟩ := cellEq_vr h1 p1 q1
          obtain ⟨rfl, rfl⟩ := ih h2 p2 q2
          exact ⟨rfl, rfl⟩
        · cases h

theorem tElem_spec {t e : TypeId} (h : tElem P t = some e) : P.underlying t = some (.slice e) := by
  unfold tElem at h
  split at h
  · cases h; assumption
  · cases h

theorem eqIn_pn {d : Nat} {t e : TypeId} (hu : P.underlying t = some (.pointer e)) (b : Option Addr) (w : World) : (Op.equalIn (d + 1) t (.pointer none) (.pointer b)).run P w = .ok b.isNone w := by
  simp [Op.equalIn, run_underlying hu]
theorem eqIn_np {d : Nat} {t e : TypeId} (hu : P.underlying t = some (.pointer e)) (a : Addr) (w : World) : (Op.equalIn (d + 1) t (.pointer (some a)) (.pointer none)).run P w = .ok false w := by
  simp [Op.equalIn, run_underlying hu]
theorem eqIn_sn {d : Nat} {t e : TypeId} (hu : P.underlying t = some (.slice e)) (n c m k : Nat) (b : Option Addr) (w : World) : (Op.equalIn (d + 1) t (.slice none n c) (.slice b m k)).run P w = .ok b.isNone w := by
  simp [Op.equalIn, run_underlying hu]
theorem eqIn_ns {d : Nat} {t e : TypeId} (hu : P.underlying t = some (.slice e)) (a : Addr) (n c m k : Nat) (w : World) : (Op.equalIn (d + 1) t (.slice (some a) n c) (.slice none m k)).run P w = .ok false w := by
  simp [Op.equalIn, run_underlying hu]
theorem eql_any {t : TypeId} {x y : Value} {b : Bool} {w : World} (h1 : ∀ op z u, eqGuard op t z u x y = pure ()) (h2 : binOp .eql t x y = (do pure (.bool (← Op.equal t x y)))) (h3 : binOp .neq t x y = (do pure (.bool (!(← Op.equal t x y)))))
    (h : (Op.equalIn (9999 + 1) t x y).run P w = .ok b w) (xo yo : Operand) :
    (do eqGuard .eql t xo yo x y; binOp .eql t x y).run P w = .ok (.bool b) w ∧ (do eqGuard .neq t xo yo x y; binOp .neq t x y).run P w = .ok (.bool !b) w := by
  have h' : (Op.equal t x y).run P w = .ok b w := h
  rw [h1, h1, h2, h3]
  simp only [Sem.run_bind, Sem.run_pure, Result.andThen_ok, h', and_self]
theorem eq_sound {t : TypeId} {x y x' y' : Value} {b : Bool} (h : eqA P t x y = some b) (hx : VR φ x x') (hy : VR φ y y') (xo yo : Operand) (w : World) :
    (do eqGuard .eql t xo yo x' y'; binOp .eql t x' y').run P w = .ok (.bool b) w ∧ (do eqGuard .neq t xo yo x' y'; binOp .neq t x' y').run P w = .ok (.bool !b) w := by
  unfold eqA at h
  split at h
  · split at h
    rotate_left
    · cases h
    rename_i hb
    cases h; cases hx; cases hy
    have hu : P.underlying t = some .bool := by unfold tBool at hb; split at hb <;> first | assumption | cases hb
    simp only [eqGuard_at_bool, Sem.run_bind, Sem.run_pure, Result.andThen_ok, run_eql_bool w t _ _ hu, run_neq_bool w t _ _ hu, and_self]
  · split at h
    rotate_left
    · cases h
    rename_i k hk
    subst hk
    cases h; cases hx; cases hy
    simp [eqGuard_at_int, binOp, Op.intCmp, bne]
  · cases h; cases hx; cases hy
    simp [eqGuard_at_string, binOp, Op.stringOp, beq_toListBytes]
  · cases hx
    split at h
    rotate_left
    · cases h
    rename_i e hu
    cases h
    cases hy <;> exact eql_any (fun _ _ _ => eqGuard_at_pointer ..) rfl rfl (eqIn_pn hu _ w) xo yo
  · cases hx; cases hy
    split at h
    rotate_left
    · cases h
    rename_i e hu
    cases h
    exact eql_any (fun _ _ _ => eqGuard_at_pointer ..) rfl rfl (eqIn_np hu _ w) xo yo
  · cases hx
    split at h
    rotate_left
    · cases h
    rename_i hu
    obtain ⟨e, he⟩ := Option.isSome_iff_exists.1 hu
    cases h
    cases hy <;> exact eql_any (fun _ _ _ => eqGuard_at_slice ..) rfl rfl (eqIn_sn (tElem_spec he) _ _ _ _ _ w) xo yo
  · split at h
    rotate_left
    · cases h
    rename_i hu
    obtain ⟨e, he⟩ := Option.isSome_iff_exists.1 hu
    cases h
    cases hy
    cases hx <;> exact eql_any (fun _ _ _ => eqGuard_at_slice ..) rfl rfl (eqIn_ns (tElem_spec he) _ _ _ _ _ w) xo yo
  · split at h
    rotate_left
    · cases h
    rename_i ks hks
    cases hx with
    | agg ha hxs =>
      cases hy with
      | agg hb hys =>
        rename_i xs xs' ys ys'
        obtain ⟨e1, e2⟩ := cellsEq_vr h ⟨ha, hxs⟩ ⟨hb, hys⟩
        obtain rfl := Array.toList_inj.1 e1
        obtain rfl := Array.toList_inj.1 e2
        unfold tCmpS at hks
        split at hks
        rotate_left
        · cases hks
        rename_i hag
        obtain ⟨hg, hf⟩ := tCmp_spec hks
        simp only [beq_iff_eq] at hag
        have hr := fun w => flat_agg hf hag 10000 (by omega) _ _ b w h
        simp only [Sem.run_bind, run_eqGuard_agg w _ t xo yo _ _ hg, Result.andThen_ok, run_eql_struct, run_neq_struct, hr, and_self]
  · cases h

/-! ### arithmetic -/
theorem bin_sound {op : BinOp} {t : TypeId} {x y x' y' v : Value} (h : binA P op t x y = some v) (hx : VR φ x x') (hy : VR φ y y') (xo yo : Operand) :
    ∃ v', VR φ v v' ∧ ∀ w, (do eqGuard op t xo yo x' y'; binOp op t x' y').run P w = .ok v' w := by
  unfold binA at h
  split at h
  · simp only [Option.map_eq_some_iff] at h
    obtain ⟨b, hb, rfl⟩ := h
    exact ⟨_, .bool b, fun w => (eq_sound hb hx hy xo yo w).1⟩
  · simp only [Option.map_eq_some_iff] at h
    obtain ⟨b, hb, rfl⟩ := h
    exact ⟨_, .bool !b, fun w => (eq_sound hb hx hy xo yo w).2⟩
  · split at h
    · cases hx; cases hy
      split at h
      · rename_i hb; cases h
        exact ⟨_, .int _ _, fun w => by simp [eqGuard_at_int, binOp, Op.shift]; intro; omega⟩
      · cases h
    · cases h
  · split at h
    · cases hx; cases hy
      split at h
      · rename_i hb; cases h
        exact ⟨_, .int _ _, fun w => by simp [eqGuard_at_int, binOp, Op.shift]; intro; omega⟩
      · cases h
    · cases h
  · rename_i n1 n2 n3 n4
    split at h
    · rename_i k a k' b
      cases hx; cases hy
      split at h
      rotate_left
      · cases h
      rename_i hk; subst hk
      split at h
      case h_1 => cases h; exact ⟨_, .int _ _, fun w => by simp [eqGuard_at_int, binOp, Op.intArith]⟩
      case h_2 => cases h; exact ⟨_, .int _ _, fun w => by simp [eqGuard_at_int, binOp, Op.intArith]⟩
      case h_3 => cases h; exact ⟨_, .int _ _, fun w => by simp [eqGuard_at_int, binOp, Op.intArith]⟩
      case h_4 =>
        split at h
        · cases h
        · rename_i hb; cases h; exact ⟨_, .int _ _, fun w => by simp [eqGuard_at_int, binOp, Op.intDiv, hb]⟩
      case h_5 =>
        split at h
        · cases h
        · rename_i hb; cases h; exact ⟨_, .int _ _, fun w => by simp [eqGuard_at_int, binOp, Op.intDiv, hb]⟩
      case h_6 => cases h; exact ⟨_, .int _ _, fun w => by simp [eqGuard_at_int, binOp, Op.intBits, Go.bits]⟩
      case h_7 => cases h; exact ⟨_, .int _ _, fun w => by simp [eqGuard_at_int, binOp, Op.intBits, Go.bits]⟩
      case h_8 => cases h; exact ⟨_, .int _ _, fun w => by simp [eqGuard_at_int, binOp, Op.intBits, Go.bits]⟩
      case h_9 => cases h; exact ⟨_, .int _ _, fun w => by simp [eqGuard_at_int, binOp, Op.intBits, Go.bits]⟩
      case h_10 => cases h; exact ⟨_, .bool _, fun w => by simp [eqGuard_at_int, binOp, Op.intCmp]⟩
      case h_11 => cases h; exact ⟨_, .bool _, fun w => by simp [eqGuard_at_int, binOp, Op.intCmp]⟩
      case h_12 => cases h; exact ⟨_, .bool _, fun w => by simp [eqGuard_at_int, binOp, Op.intCmp]⟩
      case h_13 => cases h; exact ⟨_, .bool _, fun w => by simp [eqGuard_at_int, binOp, Op.intCmp]⟩
      case h_14 => cases h
    · rename_i a b
      cases hx; cases hy
      split at h
      case h_1 =>
        split at h
        · rename_i hs; cases h
          refine ⟨_, .string _, fun w => ?_⟩
          have hs' : ¬ ((a.size + b.size : Nat) : Int) > IntKind.i64.max := by simp; omega
          simp only [eqGuard_at_string, binOp, Op.stringOp, Sem.run_bind, Sem.run_pure, Result.andThen_ok, if_neg hs']
        · cases h
      case h_2 => cases h; exact ⟨_, .bool _, fun w => by simp [eqGuard_at_string, binOp, Op.stringOp]⟩
      case h_3 => cases h; exact ⟨_, .bool _, fun w => by simp [eqGuard_at_string, binOp, Op.stringOp]⟩
      case h_4 => cases h; exact ⟨_, .bool _, fun w => by simp [eqGuard_at_string, binOp, Op.stringOp]⟩
      case h_5 => cases h; exact ⟨_, .bool _, fun w => by simp [eqGuard_at_string, binOp, Op.stringOp]⟩
      case h_6 => cases h
    · cases h

theorem un_sound {op : UnOp} {x x' v : Value} (h : unA op x = some v) (hx : VR φ x x') : ∃ v', VR φ v v' ∧ ∀ w, (Op.unary op x').run P w = .ok v' w := by
  unfold unA at h
  split at h
  · cases h; cases hx; exact ⟨_, .int _ _, fun w => by simp [Op.unary, Op.intArith]⟩
  · cases h; cases hx; exact ⟨_, .bool _, fun w => by simp [Op.unary]⟩
  · cases h; cases hx; exact ⟨_, .int _ _, fun w => by simp [Op.unary, Op.intBits, Go.bits]⟩
  · cases h

/-! ### addresses, parts -/
theorem Addr.add_none (b o n : Nat) : (⟨b, o, none⟩ : Addr).add n = ⟨b, o + n, none⟩ := by unfold Addr.add; split <;> simp_all

theorem indexAddr_sound {t : TypeId} {x ix x' ix' v : Value} (h : indexAddrA P t x ix = some v) (hx : VR φ x x') (hi : VR φ ix ix') : ∃ v', VR φ v v' ∧ ∀ w, (Instr.indexAt t x' ix').run P w = .ok v' w := by
  unfold indexAddrA at h
  split at h
  · rename_i e b o n c k i hu
    cases hi
    split at h
    rotate_left
    · cases h
    rename_i size hs
    split at h
    rotate_left
    · cases h
    rename_i hb
    cases h
    have fin : ∀ (l : Loc) c', φ[b]? = some l → ∃ v', VR φ (.pointer (some ⟨b, o + i.toNat * size, none⟩)) v' ∧ ∀ w, (Instr.indexAt t (.slice (some ⟨l.blk, l.off + o, none⟩) n c') (.int k i)).run P w = .ok v' w := by
      intro l c' hl
      refine ⟨_, .ptr hl, fun w => ?_⟩
      simp only [Instr.indexAt, asIntOf, Sem.run_bind, Sem.run_pure, Result.andThen_ok, run_underlying hu, hb, and_self, if_true, run_sizeOf' hs, Addr.add_none, Nat.add_assoc]
    cases hx with
    | slice0 => exfalso; omega
    | exact hl => exact fin _ _ hl
    | slice hl => exact fin _ _ hl
  · rename_i n e b o k i hu
    cases hi
    split at h
    rotate_left
    · cases h
    rename_i size hs
    split at h
    rotate_left
    · cases h
    rename_i hb
    cases h
    cases hx with
    | ptr hl =>
      refine ⟨_, .ptr hl, fun w => ?_⟩
      simp only [Instr.indexAt, Instr.sureAddr, asIntOf, Sem.run_bind, Sem.run_pure, Result.andThen_ok, run_underlying hu, hb, and_self, if_true, run_sizeOf' hs, Addr.add_none, Nat.add_assoc]
  · cases h

theorem part_sound {t : TypeId} {cs cs' : List Value} {off : Nat} {v : Value} (h : partA P t cs off = some v) (hc : VRs φ cs cs') : ∃ v', VR φ v v' ∧ ∀ w, (part t cs'.toArray off).run P w = .ok v' w := by
  unfold partA at h
  split at h
  · rename_i s ha hs
    cases h
    refine ⟨_, VR.toAgg ((hc.drop off).take s), fun w => ?_⟩
    simp [part, run_isAgg' ha, run_sizeOf' hs]
  · rename_i ha
    obtain ⟨y, hy, hv⟩ := hc.get h
    refine ⟨y, hv, fun w => ?_⟩
    simp only [part, Sem.run_bind, run_isAgg' ‹_›, Result.andThen_ok, Bool.false_eq_true, if_false, List.getElem?_toArray, hy, Sem.run_pure]
  · cases h

theorem field_sound {t : TypeId} {x x' v : Value} {i : Nat} (h : fieldA P t x i = some v) (hx : VR φ x x') : ∃ v', VR φ v v' ∧ ∀ w, (Instr.field t x' i).run P w = .ok v' w := by
  unfold fieldA tFld at h
  split at h
  rotate_left
  · cases h
  rename_i off ft cs hf
  split at hf
  rotate_left
  · cases hf
  rename_i fs hu
  simp only [Option.map_eq_some_iff, Prod.mk.injEq] at hf
  obtain ⟨f, hf, rfl, rfl⟩ := hf
  cases hx with
  | agg ha hc =>
    obtain ⟨v', h1, h2⟩ := part_sound (cs' := _) h ⟨ha, hc⟩
    exact ⟨v', h1, fun w => by simpa [Instr.field, run_underlying hu, hf, asAgg] using h2 w⟩

theorem fieldAddr_sound {t : TypeId} {x x' v : Value} {i : Nat} (h : fieldAddrA P t x i = some v) (hx : VR φ x x') : ∃ v', VR φ v v' ∧ ∀ w, (Instr.fieldAt t x' i).run P w = .ok v' w := by
  unfold fieldAddrA tFld at h
  split at h
  rotate_left
  · cases h
  rename_i off ft b o hf
  split at hf
  rotate_left
  · cases hf
  rename_i fs hu
  simp only [Option.map_eq_some_iff, Prod.mk.injEq] at hf
  obtain ⟨f, hf, rfl, rfl⟩ := hf
  split at h
  rotate_left
  · cases h
  rename_i s hs
  split at h
  · cases h
  rename_i hs0
  cases h
  cases hx with
  | ptr hl =>
    refine ⟨_, .ptr hl, fun w => ?_⟩
    simp only [Instr.fieldAt, Sem.run_bind, run_underlying hu, Result.andThen_ok, hf, Instr.sureAddr, Sem.run_pure, fieldPlace, run_sizeOf' hs, if_neg hs0, Addr.add_none, Nat.add_assoc]

theorem index_sound {t : TypeId} {x ix x' ix' v : Value} (h : indexA P t x ix = some v) (hx : VR φ x x') (hi : VR φ ix ix') : ∃ v', VR φ v v' ∧ ∀ w, (Instr.index t x' ix').run P w = .ok v' w := by
  unfold indexA at h
  split at h
  · rename_i n e cs k i hu
    cases hi
    split at h
    rotate_left
    · cases h
    rename_i size hs
    split at h
    rotate_left
    · cases h
    rename_i hb
    cases hx with
    | agg ha hc =>
      obtain ⟨v', h1, h2⟩ := part_sound (cs' := _) h ⟨ha, hc⟩
      refine ⟨v', h1, fun w => ?_⟩
      have h2' := h2 w
      simp only [Array.toArray_toList] at h2'
      simp only [Instr.index, asIntOf, Sem.run_bind, Sem.run_pure, Result.andThen_ok, run_underlying hu, hb, and_self, if_true, run_sizeOf' hs, h2']
  · rename_i s k i hu
    cases hi; cases hx
    split at h
    rotate_left
    · cases h
    rename_i hb
    cases h
    refine ⟨_, .int _ _, fun w => ?_⟩
    have hlt : i.toNat < s.size := by omega
    have hg : (if 0 ≤ i then s[i.toNat]? else none) = some (s.data.toList.getD i.toNat 0) := by
      rw [if_pos hb.1, ByteArray.getElem?_lt' s i.toNat hlt]
      have : i.toNat < s.data.size := hlt
      simp only [List.getD_eq_getElem?_getD, Array.getElem?_toList, Array.getElem?_eq_getElem this, Option.getD_some]
      rfl
    simp only [Instr.index, asIntOf, Sem.run_bind, Sem.run_pure, Result.andThen_ok, run_underlying hu, hg]
  · cases h
end
end Go.Proofs.Ytcpolfjnbbodgaa.Ve
