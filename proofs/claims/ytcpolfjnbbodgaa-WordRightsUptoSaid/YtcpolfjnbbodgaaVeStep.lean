/- Rules by which a run goes on step by step: branches stand still till their condition is known; the heap's equations. Conditions: none here. -/
import Derived.Test.YtcpolfjnbbodgaaVeRun
namespace Go.Proofs.Ytcpolfjnbbodgaa.Ve
open Go Go.RowKit
set_option linter.unusedVariables false
set_option linter.unusedSimpArgs false

/-- a branch -/
def br {α : Type} (t : Bool) (x y : α) : Of x (Of y α) := if t = true then x else y
theorem br_congr {α : Type} {t t' : Bool} {x y : α} (h : t = t') : br t x y = br t' x y := by rw [h]
theorem br_true {α : Type} (x y : α) : br true x y = x := Eq.trans rfl rfl
theorem br_false {α : Type} (x y : α) : br false x y = y := Eq.trans rfl rfl
theorem br_eq {α : Type} (t : Bool) (x y : α) : br t x y = if t = true then x else y := rfl
theorem br_not {α : Type} (t : Bool) (x y : α) : br (!t) x y = br t y x := by cases t <;> rfl
section
variable {P : Program} {X : Lib}
@[congr] theorem EL_congr {c : Code} {e e' : Env} {H H' : Heap} (he : e = e') (hH : H = H') : EL P X c e H = EL P X c e' H' := by rw [he, hH]
@[congr] theorem runOps_congr {C : CallF} {ops : Array Oper} {l : List Oper} {e e' : Env} {H H' : Heap} (he : e = e') (hH : H = H') : runOps P C ops l e H = runOps P C ops l e' H' := by rw [he, hH]
@[congr] theorem guardA_congr {ops : Array Oper} {j : Nat} {b : Bool} {e e' : Env} (he : e = e') : guardA ops j b e = guardA ops j b e' := by rw [he]
theorem EL_ops (id : Nat) (l : List Oper) (e : Env) (H : Heap) : EL P X (.region id l.toArray false) e H = normally (runOps P (CL P X) l.toArray l e H) := EL_region id l.toArray e H
end
theorem condB_br {α : Type} (t : Bool) (x y : Option α) : condB (.bool t) x y = br t x y := by cases t <;> rfl

section
variable {P : Program} {X : Lib}
theorem runOps_br (ops : Array Oper) (dst : Option Tmp) (op : Op) (ty : TypeId) (pos : String) (after : Array Edge) (j : Nat) (b : Bool) (rest : List Oper) (e : Env) (H : Heap) :
    runOps P (CL P X) ops (⟨dst, op, ty, pos, after, some (j, b)⟩ :: rest) e H =
      br (guardA ops j b e) (contO (aop P (CL P X) op e H) H fun v H' => runOps P (CL P X) ops rest (putA e dst v) H') (runOps P (CL P X) ops rest (putA e dst undef) H) := by
  rw [runOps_guard]; rfl
/-! regions that draw -/
structure LexOk (ops : Array Oper) : Prop where
  ok : Region.lexB .any ops = true
structure TailOk (ops : Array Oper) (i : Nat) : Prop where
  ok : tailB ops i = true
def contD (r : Option (Value × Option Heap)) (f : Value → Option (Env × Heap)) (g : Value → Heap → Option (Env × Heap)) : Of f (Of g (Option (Env × Heap))) :=
  match r with
  | some (v, none) => f v
  | some (v, some H') => g v H'
  | none => none
theorem contD_congr {r r' : Option (Value × Option Heap)} {f : Value → Option (Env × Heap)} {g : Value → Heap → Option (Env × Heap)} (h : r = r') : contD r f g = contD r' f g := by rw [h]
theorem contD_keep (v : Value) (f : Value → Option (Env × Heap)) (g : Value → Heap → Option (Env × Heap)) : contD (some (v, none)) f g = f v := Eq.trans rfl rfl
theorem contD_turn (v : Value) (H' : Heap) (f : Value → Option (Env × Heap)) (g : Value → Heap → Option (Env × Heap)) : contD (some (v, some H')) f g = g v H' := Eq.trans rfl rfl
def drawTail (ops : Array Oper) (i : Nat) (q : Bool) (x : Option (Env × Heap)) : Of ops (Of x (Option (Env × Heap))) := if (!q && tailB ops i) = true then x else none
theorem drawTail_ok (ops : Array Oper) (i : Nat) (x : Option (Env × Heap)) (h : TailOk ops i) : drawTail ops i false x = x := by simp [drawTail, h.ok]
theorem EL_drw (id : Nat) (l : List Oper) (e : Env) (H : Heap) : EL P X (.region id l.toArray true) e H = normally (runDraw P (CL P X) l.toArray 0 false l e H) := EL_draw id l.toArray e H
theorem runDraw_nil (C : CallF) (ops : Array Oper) (i : Nat) (q : Bool) (e : Env) (H : Heap) (h : LexOk ops) : runDraw P C ops i q [] e H = some (e, H) := by simp [runDraw, h.ok]
theorem runDraw_plain (ops : Array Oper) (i : Nat) (q : Bool) (dst : Option Tmp) (op : Op) (ty : TypeId) (pos : String) (after : Array Edge) (rest : List Oper) (e : Env) (H : Heap) :
    runDraw P (CL P X) ops i q (⟨dst, op, ty, pos, after, none⟩ :: rest) e H =
      contD (aop P (CL P X) op e H) (fun v => runDraw P (CL P X) ops (i + 1) (q || isCall op) rest (putA e dst v) H) fun v H' => drawTail ops i q (runOps P (CL P X) ops rest (putA e dst v) H') := by
  simp only [runDraw, wantedA, if_true, contD, drawTail]
  rfl
theorem runDraw_br (ops : Array Oper) (i : Nat) (q : Bool) (dst : Option Tmp) (op : Op) (ty : TypeId) (pos : String) (after : Array Edge) (j : Nat) (b : Bool) (rest : List Oper) (e : Env) (H : Heap) :
    runDraw P (CL P X) ops i q (⟨dst, op, ty, pos, after, some (j, b)⟩ :: rest) e H =
      br (guardA ops j b e) (contD (aop P (CL P X) op e H) (fun v => runDraw P (CL P X) ops (i + 1) (q || isCall op) rest (putA e dst v) H) fun v H' => drawTail ops i q (runOps P (CL P X) ops rest (putA e dst v) H'))
        (runDraw P (CL P X) ops (i + 1) q rest (putA e dst undef) H) := by
  simp only [runDraw, wantedA, contD, drawTail, guardA, br]
  rfl
theorem isCall_fn (f : Operand) (a : Array Operand) (t : Array TypeId) : isCall (.call ⟨.value f, a, t⟩) = true := Eq.trans rfl rfl
theorem isCall_bi (f : Builtin) (a : Array Operand) (t : Array TypeId) : isCall (.call ⟨.builtin f, a, t⟩) = false := Eq.trans rfl rfl
theorem isCall_move (x : Operand) : isCall (.move x) = false := Eq.trans rfl rfl
theorem isCall_assign (x : Operand) : isCall (.assign x) = false := Eq.trans rfl rfl
theorem isCall_pick (x y z : Operand) : isCall (.pick x y z) = false := Eq.trans rfl rfl
theorem isCall_bin (o : BinOp) (t : TypeId) (x y : Operand) (u : TypeId) : isCall (.binOp o t x y u) = false := Eq.trans rfl rfl
theorem isCall_un (o : UnOp) (t : TypeId) (x : Operand) : isCall (.unOp o t x) = false := Eq.trans rfl rfl
theorem isCall_load (t : TypeId) (x : Operand) : isCall (.load t x) = false := Eq.trans rfl rfl
theorem isCall_field (t : TypeId) (x : Operand) (i : Nat) : isCall (.field t x i) = false := Eq.trans rfl rfl
theorem isCall_fieldAddr (t : TypeId) (x : Operand) (i : Nat) : isCall (.fieldAddr t x i) = false := Eq.trans rfl rfl
theorem isCall_index (t : TypeId) (x i : Operand) : isCall (.index t x i) = false := Eq.trans rfl rfl
theorem isCall_indexAddr (t : TypeId) (x i : Operand) : isCall (.indexAddr t x i) = false := Eq.trans rfl rfl
theorem isCall_convert (s t : TypeId) (x : Operand) : isCall (.convert s t x) = false := Eq.trans rfl rfl
theorem isCall_extract (x : Operand) (i : Nat) : isCall (.extract x i) = false := Eq.trans rfl rfl
theorem isCall_build (t : TypeId) (p : Array (Nat × Operand)) : isCall (.build t p) = false := Eq.trans rfl rfl
theorem isCall_slice (t : TypeId) (x : Operand) (a b c : Option Operand) : isCall (.slice t x a b c) = false := Eq.trans rfl rfl
theorem isCall_lookup (t : TypeId) (x y : Operand) (b : Bool) : isCall (.lookup t x y b) = false := Eq.trans rfl rfl
theorem isB_true (t : Bool) : isB (.bool t) true = t := by cases t <;> rfl
theorem isB_false (t : Bool) : isB (.bool t) false = !t := by cases t <;> rfl
theorem isB_und (b : Bool) : isB undef b = false := Eq.trans rfl rfl
end

/-! ### the heap -/
section
variable {H : Heap} {B : Blk} {b c : Nat}
theorem next_push : (H.push B).next = H.next + 1 := by simp [Heap.next, Heap.push]
theorem next_put : (H.put b B).next = H.next := by simp [Heap.next, Heap.put]
theorem get_push_next : (H.push B).get H.next = some B := by simp [Heap.get, Heap.push, Heap.next]
theorem get_push_eq (h : b ≤ H.next ∧ H.next ≤ b) : (H.push B).get b = some B := by
  obtain rfl : b = H.next := by omega
  exact get_push_next
theorem get_push_lt (h : b < H.next) : (H.push B).get b = H.get b := by
  simp only [Heap.get, Heap.push]; exact List.getElem?_append_left h
theorem get_put_same (h : b < H.next) : (H.put b B).get b = some B := by
  simp only [Heap.get, Heap.put, List.getElem?_set]; simp; exact h
theorem get_put_ne (h : b ≠ c) : (H.put b B).get c = H.get c := by
  simp only [Heap.get, Heap.put, List.getElem?_set, if_neg h]
theorem get_lt (h : H.get b = some B) : b < H.next := (List.getElem?_eq_some_iff.1 h).1
theorem low_push : (H.push B).low = H.low := Eq.trans rfl rfl
theorem low_put : (H.put b B).low = min H.low b := Eq.trans rfl rfl
theorem next_mk (bs : List Blk) (n : Nat) : (⟨bs, n⟩ : Heap).next = bs.length := Eq.trans rfl rfl
theorem len_next (H : Heap) : H.bs.length = H.next := Eq.trans rfl rfl
theorem get_mk (bs : List Blk) (n b : Nat) : (⟨bs, n⟩ : Heap).get b = bs[b]? := rfl
end

section
variable {P : Program}
def ldB (P : Program) (t : TypeId) (o : Nat) (B : Option Blk) : Option Value :=
  match B with
  | some (.cells c _ _) =>
    match tAgg P t with
    | some true =>
      match tSize P t with
      | some s => if o + s ≤ c.length then some (.agg ((c.drop o).take s).toArray) else none
      | none => none
    | some false => c[o]?
    | none => none
  | _ => none
theorem ld_ptr (t : TypeId) (H : Heap) (b o : Nat) : ld P t H (.pointer (some ⟨b, o, none⟩)) = ldB P t o (H.get b) := by
  simp only [ld, ldB]; cases H.get b with
  | none => rfl
  | some B => cases B <;> rfl
def ldC (a : Option Bool) (s : Option Nat) (o : Nat) (c : List Value) : Option Value :=
  match a with
  | some true =>
    match s with
    | some s => if o + s ≤ c.length then some (.agg ((c.drop o).take s).toArray) else none
    | none => none
  | some false => c[o]?
  | none => none
theorem ldB_cells (t : TypeId) (o : Nat) (c : List Value) (own : Bool) (sz : Nat) : ldB P t o (some (.cells c own sz)) = ldC (tAgg P t) (tSize P t) o c := Eq.trans rfl rfl
theorem ldC_agg (s o : Nat) (c : List Value) (h : o + s ≤ c.length) : ldC (some true) (some s) o c = some (.agg ((c.drop o).take s).toArray) := by simp [ldC, h]
theorem flatMap_at {α : Type} {enc : α → List Value} {sz : Nat} (hs : ∀ a, (enc a).length = sz) : ∀ {l : List α} {i : Nat} {a : α}, l[i]? = some a → i * sz + sz ≤ (l.flatMap enc).length ∧ ((l.flatMap enc).drop (i * sz)).take sz = enc a
  | [], i, a, h => by simp at h
  | x :: l, 0, a, h => by
    simp at h; subst h
    have := hs x
    simp only [List.flatMap_cons, Nat.zero_mul, List.drop_zero, List.length_append, this, Nat.zero_add]
    refine ⟨by omega, ?_⟩
    rw [← this, List.take_append_of_le_length (Nat.le_refl _), List.take_length]
  | x :: l, i + 1, a, h => by
    have hx := hs x
    obtain ⟨h1, h2⟩ := flatMap_at hs (l := l) (i := i) (a := a) (by simpa using h)
    have e : (i + 1) * sz = (enc x).length + i * sz := by rw [hx, Nat.add_mul]; omega
    rw [List.flatMap_cons, e]
    refine ⟨by rw [List.length_append]; omega, ?_⟩
    rw [← List.drop_drop, List.drop_left]
    exact h2
theorem ldC_row {α : Type} {enc : α → List Value} {sz : Nat} (hs : ∀ a, (enc a).length = sz) {l : List α} {i : Nat} {a : α} (h : l[i]? = some a) :
    ldC (some true) (some sz) (i * sz) (l.flatMap enc) = some (.agg (enc a).toArray) := by
  obtain ⟨h1, h2⟩ := flatMap_at hs h
  rw [ldC_agg _ _ _ h1, h2]
theorem ldC_one (s : Option Nat) (o : Nat) (c : List Value) : ldC (some false) s o c = c[o]? := Eq.trans rfl rfl
theorem res_cell (e : Env) (H : Heap) (a : Nat) (t : TypeId) : [ResultVar.cell a t].mapM (resultA P e H) = (ld P t H (e.get a)).map fun v => [v] := by
  simp only [List.mapM_cons, List.mapM_nil, resultA]
  cases ld P t H (e.get a) <;> rfl
def strAt (s : ByteArray) (i : Nat) : Int := (s.data.toList.getD i 0).toNat
theorem index_strD (t : TypeId) (s : ByteArray) (k : IntKind) (i : Int) (h0 : 0 ≤ i) (h1 : i < s.size) (ht : P.underlying t = some .string) : indexA P t (.string s) (.int k i) = some (.int .u8 (strAt s i.toNat)) := index_str t s k i ht h0 h1
def idxS (d : Option TypeDesc) (s : ByteArray) (i : Nat) : Option Value :=
  match d with
  | some .string => some (.int .u8 (strAt s i))
  | _ => none
theorem idxS_str (s : ByteArray) (i : Nat) : idxS (some .string) s i = some (.int .u8 (strAt s i)) := Eq.trans rfl rfl
theorem index_idxS (t : TypeId) (s : ByteArray) (k : IntKind) (i : Int) (h0 : 0 ≤ i) (h1 : i < s.size) : indexA P t (.string s) (.int k i) = idxS (P.underlying t) s i.toNat := by
  simp only [indexA, idxS]
  cases P.underlying t with
  | none => rfl
  | some d => cases d <;> first | rfl | (simp [h0, h1, strAt])
def idxG (P : Program) (d : Option TypeDesc) (cs : List Value) (i : Int) : Option Value :=
  match d with
  | some (.array n e) => match tSize P e with
    | some size => if 0 ≤ i ∧ i < n then partA P e cs (i.toNat * size) else none
    | none => none
  | _ => none
theorem index_agg (t : TypeId) (a : Array Value) (k : IntKind) (i : Int) : indexA P t (.agg a) (.int k i) = idxG P (P.underlying t) a.toList i := by
  simp only [indexA, idxG]
  cases P.underlying t with
  | none => rfl
  | some d => cases d <;> rfl
def idxP (P : Program) (e : TypeId) (s : Option Nat) (cs : List Value) (i : Int) : Option Value :=
  match s with
  | some size => partA P e cs (i.toNat * size)
  | none => none
theorem idxG_arr (n : Nat) (e : TypeId) (cs : List Value) (i : Int) (h0 : 0 ≤ i) (h1 : i < n) : idxG P (some (.array n e)) cs i = idxP P e (tSize P e) cs i := by simp [idxG, idxP, h0, h1]
theorem idxP_some (e : TypeId) (s : Nat) (cs : List Value) (i : Int) : idxP P e (some s) cs i = partA P e cs (i.toNat * s) := Eq.trans rfl rfl
def stoB (P : Program) (t : TypeId) (H : Heap) (b o : Nat) (x : List Value) (B : Option Blk) : Option Heap :=
  match B with
  | some (.cells c true sz) => if tSize P t = some x.length ∧ o + x.length ≤ c.length ∧ x.all Value.oneCell' = true then some (H.put b (.cells (splice c o x) true sz)) else none
  | _ => none
theorem sto_ptr (t : TypeId) (H : Heap) (b o : Nat) (x : Value) : sto P t H (.pointer (some ⟨b, o, none⟩)) x = stoB P t H b o x.cells.toList (H.get b) := by
  simp only [sto, stoB]; cases H.get b with
  | none => rfl
  | some B => cases B with
    | cells c own sz => cases own <;> rfl
    | _ => rfl
theorem stoB_some (t : TypeId) (H : Heap) (b o : Nat) (x : List Value) (c : List Value) (sz : Nat) : stoB P t H b o x (some (.cells c true sz)) =
    if tSize P t = some x.length ∧ o + x.length ≤ c.length ∧ x.all Value.oneCell' = true then some (H.put b (.cells (splice c o x) true sz)) else none := Eq.trans rfl rfl
theorem cells_agg (a : Array Value) : (Value.agg a).cells.toList = a.toList := Eq.trans rfl rfl
theorem cells_int (k : IntKind) (n : Int) : (Value.int k n).cells.toList = [.int k n] := Eq.trans rfl rfl
theorem cells_bool (b : Bool) : (Value.bool b).cells.toList = [.bool b] := Eq.trans rfl rfl
theorem cells_string (s : ByteArray) : (Value.string s).cells.toList = [.string s] := Eq.trans rfl rfl
theorem cells_slice (a : Option Addr) (n c : Nat) : (Value.slice a n c).cells.toList = [.slice a n c] := Eq.trans rfl rfl
theorem cells_pointer (a : Option Addr) : (Value.pointer a).cells.toList = [.pointer a] := Eq.trans rfl rfl
theorem cells_map (a : Option Nat) : (Value.map a).cells.toList = [.map a] := Eq.trans rfl rfl
theorem cells_func {f : _} (a c : Array Value) : (Value.func f a c).cells.toList = [.func f a c] := Eq.trans rfl rfl
theorem one_int (k : IntKind) (n : Int) : Value.oneCell' (.int k n) = true := Eq.trans rfl rfl
theorem one_bool (b : Bool) : Value.oneCell' (.bool b) = true := Eq.trans rfl rfl
theorem one_string (s : ByteArray) : Value.oneCell' (.string s) = true := Eq.trans rfl rfl
theorem one_slice (a : Option Addr) (n c : Nat) : Value.oneCell' (.slice a n c) = true := Eq.trans rfl rfl
theorem one_pointer (a : Option Addr) : Value.oneCell' (.pointer a) = true := Eq.trans rfl rfl
theorem one_map (a : Option Nat) : Value.oneCell' (.map a) = true := Eq.trans rfl rfl
theorem one_func {f : _} (a c : Array Value) : Value.oneCell' (.func f a c) = true := Eq.trans rfl rfl
theorem splice_nil (c : List Value) (o : Nat) : splice c o [] = c := Eq.trans rfl rfl
theorem splice_cons (c : List Value) (o : Nat) (x : Value) (xs : List Value) : splice c o (x :: xs) = splice (c.set o x) (o + 1) xs := Eq.trans rfl rfl
theorem set_zero (x y : Value) (l : List Value) : (x :: l).set 0 y = y :: l := Eq.trans rfl rfl
theorem set_succ (x y : Value) (l : List Value) (n : Nat) : (x :: l).set (n + 1) y = x :: l.set n y := Eq.trans rfl rfl
def fieldAddrB (P : Program) (q : Option (Nat × TypeId)) (b o : Nat) : Option Value :=
  match q with
  | some (off, ft) => match tSize P ft with
    | some s => if s = 0 then none else some (.pointer (some ⟨b, o + off, none⟩))
    | none => none
  | none => none
theorem fieldAddr_ptr (t : TypeId) (i b o : Nat) : fieldAddrA P t (.pointer (some ⟨b, o, none⟩)) i = fieldAddrB P (tFld P t i) b o := by
  simp only [fieldAddrA, fieldAddrB]; cases tFld P t i <;> rfl
def szNat (s : Option Nat) (b o off : Nat) : Option Value :=
  match s with
  | some s => if s = 0 then none else some (.pointer (some ⟨b, o + off, none⟩))
  | none => none
theorem fieldAddrB_some (off : Nat) (ft : TypeId) (b o : Nat) : fieldAddrB P (some (off, ft)) b o = szNat (tSize P ft) b o off := Eq.trans rfl rfl
theorem szNat_some (s b o off : Nat) : szNat (some s) b o off = if s = 0 then none else some (.pointer (some ⟨b, o + off, none⟩)) := Eq.trans rfl rfl
def partB (a : Option Bool) (s : Option Nat) (cs : List Value) (off : Nat) : Option Value :=
  match a, s with
  | some true, some s => some (.agg ((cs.drop off).take s).toArray)
  | some false, _ => cs[off]?
  | _, _ => none
theorem part_eq (t : TypeId) (cs : List Value) (off : Nat) : partA P t cs off = partB (tAgg P t) (tSize P t) cs off := Eq.trans rfl rfl
theorem partB_agg (s : Nat) (cs : List Value) (off : Nat) : partB (some true) (some s) cs off = some (.agg ((cs.drop off).take s).toArray) := Eq.trans rfl rfl
theorem partB_one (s : Option Nat) (cs : List Value) (off : Nat) : partB (some false) s cs off = cs[off]? := Eq.trans rfl rfl
def fieldB (P : Program) (q : Option (Nat × TypeId)) (a : List Value) : Option Value :=
  match q with
  | some (off, ft) => partA P ft a off
  | none => none
theorem field_agg (t : TypeId) (i : Nat) (a : Array Value) : fieldA P t (.agg a) i = fieldB P (tFld P t i) a.toList := by
  simp only [fieldA, fieldB]; cases tFld P t i <;> rfl
theorem fieldB_some (off : Nat) (ft : TypeId) (a : List Value) : fieldB P (some (off, ft)) a = partA P ft a off := Eq.trans rfl rfl
def indexAddrB (P : Program) (d : Option TypeDesc) (a b o n : Nat) (i : Int) : Option Value :=
  match d with
  | some (.slice e) => match tSize P e with
    | some s => if 0 ≤ i ∧ i < n then some (.pointer (some ⟨b, o + i.toNat * s, none⟩)) else none
    | none => none
  | _ => none
def idxC (s : Option Nat) (b o : Nat) (i : Int) : Option Value :=
  match s with
  | some s => some (.pointer (some ⟨b, o + i.toNat * s, none⟩))
  | none => none
theorem idxC_some (s b o : Nat) (i : Int) : idxC (some s) b o i = some (.pointer (some ⟨b, o + i.toNat * s, none⟩)) := Eq.trans rfl rfl
def idxD (P : Program) (d : Option TypeDesc) (b o : Nat) (i : Int) : Option Value :=
  match d with
  | some (.slice e) => idxC (tSize P e) b o i
  | _ => none
theorem idxD_slice (e : TypeId) (b o : Nat) (i : Int) : idxD P (some (.slice e)) b o i = idxC (tSize P e) b o i := Eq.trans rfl rfl
theorem indexAddr_slice (t : TypeId) (b o n c : Nat) (k : IntKind) (i : Int) (h0 : 0 ≤ i) (h1 : i < n) :
    indexAddrA P t (.slice (some ⟨b, o, none⟩) n c) (.int k i) = idxD P (P.underlying t) b o i := by
  simp only [indexAddrA, idxD]
  cases h : P.underlying t with
  | none => rfl
  | some d =>
    cases d <;> first | rfl | skip
    rename_i e
    simp only [idxC]
    cases tSize P e with
    | none => rfl
    | some s => simp [h0, h1]
def idxE (P : Program) (d : Option TypeDesc) (b o : Nat) (i : Int) : Option Value :=
  match d with
  | some (.array m e) => if 0 ≤ i ∧ i < m then idxC (tSize P e) b o i else none
  | _ => none
theorem idxE_array (m : Nat) (e : TypeId) (b o : Nat) (i : Int) (h0 : 0 ≤ i) (h1 : i < m) : idxE P (some (.array m e)) b o i = idxC (tSize P e) b o i := by simp [idxE, h0, h1]
theorem indexAddr_array (t : TypeId) (b o : Nat) (k : IntKind) (i : Int) : indexAddrA P t (.pointer (some ⟨b, o, none⟩)) (.int k i) = idxE P (P.underlying t) b o i := by
  simp only [indexAddrA, idxE]
  cases h : P.underlying t with
  | none => rfl
  | some d =>
    cases d <;> first | rfl | skip
    rename_i m e
    simp only [idxC]
    cases tSize P e with
    | none => simp
    | some s => rfl
theorem nil_ptr (a : Addr) : nilA (.pointer (some a)) = some (.pointer (some a)) := Eq.trans rfl rfl
theorem nil_fun (g : FuncId) (f c : Array Value) : nilA (.func (.func g) f c) = some (.func (.func g) f c) := Eq.trans rfl rfl
def buildB (z : Option (List Value)) (q : Option (List (Nat × Nat) ⊕ Nat)) (parts : List (Nat × Value)) : Option Value :=
  match z, q with
  | some z, some (.inl ps) => (fillL (fun i => ps[i]?) z parts).map fun l => .agg l.toArray
  | some z, some (.inr s) => (fillL (fun i => some (i * s, s)) z parts).map fun l => .agg l.toArray
  | _, _ => none
theorem build_eq (t : TypeId) (parts : List (Nat × Value)) : buildA P t parts = buildB (tZero P t) (tPlc P t) parts := Eq.trans rfl rfl
theorem buildB_struct (z : List Value) (ps : List (Nat × Nat)) (parts : List (Nat × Value)) : buildB (some z) (some (.inl ps)) parts = (fillL (fun i => ps[i]?) z parts).map fun l => .agg l.toArray := Eq.trans rfl rfl
theorem buildB_array (z : List Value) (s : Nat) (parts : List (Nat × Value)) : buildB (some z) (some (.inr s)) parts = (fillL (fun i => some (i * s, s)) z parts).map fun l => .agg l.toArray := Eq.trans rfl rfl
theorem fill_nil (place : Nat → Option (Nat × Nat)) (cs : List Value) : fillL place cs [] = some cs := Eq.trans rfl rfl
def fillP (place : Nat → Option (Nat × Nat)) (cs : List Value) (v : List Value) (rest : List (Nat × Value)) (q : Option (Nat × Nat)) : Option (List Value) :=
  match q with
  | none => none
  | some (off, size) => if v.length = size ∧ off + size ≤ cs.length then fillL place (splice cs off v) rest else none
theorem fill_cons (place : Nat → Option (Nat × Nat)) (cs : List Value) (i : Nat) (v : Value) (rest : List (Nat × Value)) : fillL place cs ((i, v) :: rest) = fillP place cs v.cells.toList rest (place i) := by
  simp only [fillL, fillP]
  cases place i with
  | none => rfl
  | some q =>
    simp only
    by_cases h : v.cells.toList.length = q.2 ∧ q.1 + q.2 ≤ cs.length
    · rw [if_pos h, if_neg (by omega)]
    · rw [if_neg h, if_pos (by omega)]
theorem fillP_some (place : Nat → Option (Nat × Nat)) (cs : List Value) (v : List Value) (rest : List (Nat × Value)) (off size : Nat) :
    fillP place cs v rest (some (off, size)) = if v.length = size ∧ off + size ≤ cs.length then fillL place (splice cs off v) rest else none := Eq.trans rfl rfl
def bsB (z : Option (List Value)) (H : Heap) (len : Nat) (parts : List (Nat × Value)) : Option (Value × Heap) :=
  match z with
  | some z =>
    if z.length ≠ 0 ∧ len * z.length ≤ 16777216 ∧ (parts.all fun p => p.2.cells.toList.all Value.oneCell') = true then
      (fillL (fun i => some (i * z.length, z.length)) (List.replicate len z).flatten parts).map fun cs => (.slice (some ⟨H.next, 0, none⟩) len len, H.push (.cells cs true z.length))
    else none
  | none => none
def bsA (P : Program) (e : Option TypeId) (H : Heap) (len : Nat) (parts : List (Nat × Value)) : Option (Value × Heap) :=
  match e with
  | some e => bsB (tZero P e) H len parts
  | none => none
theorem buildSlice_eq (t : TypeId) (H : Heap) (len : Nat) (parts : List (Nat × Value)) : buildSliceA P H t len parts = bsA P (tElem P t) H len parts := by
  simp only [buildSliceA, bsA]
  cases tElem P t with
  | none => rfl
  | some e =>
    simp only [bsB]
    cases tZero P e with
    | none => rfl
    | some z =>
      simp only
      by_cases h : z.length ≠ 0 ∧ len * z.length ≤ 16777216 ∧ (parts.all fun p => p.2.cells.toList.all Value.oneCell') = true
      · rw [if_pos h, if_neg (by rw [h.2.2]; simp only [Bool.true_eq_false, or_false]; omega)]
        cases fillL (fun i => some (i * z.length, z.length)) (List.replicate len z).flatten parts <;> rfl
      · rw [if_neg h, if_pos]
        by_cases h3 : (parts.all fun p => p.2.cells.toList.all Value.oneCell') = true
        · rw [h3] at h ⊢; simp only [and_true, Bool.true_eq_false, or_false] at h ⊢; omega
        · exact .inr (.inr (by simpa using h3))
theorem bsA_some (e : TypeId) (H : Heap) (len : Nat) (parts : List (Nat × Value)) : bsA P (some e) H len parts = bsB (tZero P e) H len parts := Eq.trans rfl rfl
theorem bsB_some (z : List Value) (H : Heap) (len : Nat) (parts : List (Nat × Value)) : bsB (some z) H len parts =
    if z.length ≠ 0 ∧ len * z.length ≤ 16777216 ∧ (parts.all fun p => p.2.cells.toList.all Value.oneCell') = true then
      (fillL (fun i => some (i * z.length, z.length)) (List.replicate len z).flatten parts).map fun cs => (.slice (some ⟨H.next, 0, none⟩) len len, H.push (.cells cs true z.length))
    else none := Eq.trans rfl rfl
def convI (s d : Option TypeDesc) (n : Int) : Option (Value × Option Heap) :=
  match s, d with
  | some _, some (.int k) => some (.int k (k.wrap n), none)
  | _, _ => none
theorem conv_eq (H : Heap) (s d : TypeId) (k : IntKind) (n : Int) : convA P H s d (.int k n) = convI (P.underlying s) (P.underlying d) n := by
  simp only [convA, convI]
  cases P.underlying s with
  | none => rfl
  | some a => cases P.underlying d with
    | none => cases a <;> rfl
    | some b => cases a <;> cases b <;> rfl
theorem convI_some (a : TypeDesc) (k : IntKind) (n : Int) : convI (some a) (some (.int k)) n = some (.int k (k.wrap n), none) := Eq.trans rfl rfl
def lenD (d : Option TypeDesc) (s : ByteArray) : Option (Value × Option Heap) :=
  match d with
  | some .string => some (.int .i64 s.size, none)
  | some (.array n _) => some (.int .i64 n, none)
  | _ => none
def lenE (d : Option TypeId) (n : Nat) : Option (Value × Option Heap) :=
  match d with
  | some _ => some (.int .i64 n, none)
  | _ => none
theorem lenD_eq (H : Heap) (t : TypeId) (s : ByteArray) : builtinA P .len [t] [.string s] H = lenD (P.underlying t) s := by
  simp only [builtinA, lenA, lenD, List.head?_cons, Option.bind_some]
  cases P.underlying t with
  | none => rfl
  | some d => cases d <;> rfl
theorem lenD_str (s : ByteArray) : lenD (some .string) s = some (.int .i64 s.size, none) := Eq.trans rfl rfl
theorem lenE_eq (H : Heap) (t : TypeId) (a : Option Addr) (n c : Nat) (e : TypeId) (h : tElem P t = some e) : builtinA P .len [t] [.slice a n c] H = some (.int .i64 n, none) := len_slice H t e a n c h
def lenF (d : Option TypeDesc) (n : Nat) : Option (Value × Option Heap) :=
  match d with
  | some (.slice _) => some (.int .i64 n, none)
  | some (.array m _) => some (.int .i64 m, none)
  | _ => none
theorem lenF_eq (H : Heap) (t : TypeId) (a : Option Addr) (n c : Nat) : builtinA P .len [t] [.slice a n c] H = lenF (P.underlying t) n := by
  simp only [builtinA, lenA, lenF, List.head?_cons, Option.bind_some]
  cases P.underlying t with
  | none => rfl
  | some d => cases d <;> rfl
theorem lenF_slice (e : TypeId) (n : Nat) : lenF (some (.slice e)) n = some (.int .i64 n, none) := Eq.trans rfl rfl
theorem extract_none (v : Value) (n : Nat) : kp none = none := rfl
theorem wrap_small {n : Int} (h0 : -9223372036854775808 ≤ n) (h1 : n ≤ 9223372036854775807) : IntKind.wrap .i64 n = n := by
  simp [IntKind.wrap, IntKind.min, IntKind.max, IntKind.signed, IntKind.bits]; omega
theorem finish_low (v : Value) (H H' : Heap) (hv : noAddr v = true) (hl : H.next ≤ H'.low) : finish v H H' = (v, none) := by
  unfold finish; rw [hv]; simp only [Bool.true_and, decide_eq_true_eq]; exact if_pos hl

theorem finish_bool (b : Bool) (H H' : Heap) (hl : H.next ≤ H'.low) : finish (.bool b) H H' = (.bool b, none) := finish_low _ _ _ rfl hl
theorem finish_int (k : IntKind) (n : Int) (H H' : Heap) (hl : H.next ≤ H'.low) : finish (.int k n) H H' = (.int k n, none) := finish_low _ _ _ rfl hl
theorem finish_string (s : ByteArray) (H H' : Heap) (hl : H.next ≤ H'.low) : finish (.string s) H H' = (.string s, none) := finish_low _ _ _ rfl hl
theorem finish_nil (H H' : Heap) (hl : H.next ≤ H'.low) : finish (.slice none 0 0) H H' = (.slice none 0 0, none) := finish_low _ _ _ rfl hl
theorem finish_tup2 (a b : Value) (H H' : Heap) (hl : H.next ≤ H'.low) : finish (.tuple #[a, b]) H H' = br (na1 a && na1 b) (.tuple #[a, b], none) (.tuple #[a, b], some ⟨H'.bs, min H.low H'.low⟩) := by
  unfold finish br; rw [na_tuple2]
  by_cases h : (na1 a && na1 b) = true
  · rw [if_pos h, h]; simp only [Bool.true_and, decide_eq_true_eq]; exact if_pos hl
  · rw [if_neg h]; simp only [Bool.not_eq_true] at h; rw [h]; rfl
theorem finish_tup3 (a b c : Value) (H H' : Heap) (hl : H.next ≤ H'.low) : finish (.tuple #[a, b, c]) H H' = br (na1 a && (na1 b && na1 c)) (.tuple #[a, b, c], none) (.tuple #[a, b, c], some ⟨H'.bs, min H.low H'.low⟩) := by
  unfold finish br; rw [na_tuple3]
  by_cases h : (na1 a && (na1 b && na1 c)) = true
  · rw [if_pos h, h]; simp only [Bool.true_and, decide_eq_true_eq]; exact if_pos hl
  · rw [if_neg h]; simp only [Bool.not_eq_true] at h; rw [h]; rfl
theorem finish_slice (a : Addr) (n c : Nat) (H H' : Heap) : finish (.slice (some a) n c) H H' = (.slice (some a) n c, some ⟨H'.bs, min H.low H'.low⟩) := Eq.trans rfl rfl
theorem finish_agg (vs : Array Value) (H H' : Heap) (hl : H.next ≤ H'.low) : finish (.agg vs) H H' = br (vs.toList.all na0) (.agg vs, none) (.agg vs, some ⟨H'.bs, min H.low H'.low⟩) := by
  unfold finish br
  have e : noAddr (.agg vs) = vs.toList.all na0 := Eq.trans rfl rfl
  rw [e]
  by_cases h : vs.toList.all na0 = true
  · rw [if_pos h, h]; simp only [Bool.true_and, decide_eq_true_eq]; exact if_pos hl
  · rw [if_neg h]; simp only [Bool.not_eq_true] at h; rw [h]; rfl
theorem na0_bool (b : Bool) : na0 (.bool b) = true := Eq.trans rfl rfl
theorem na0_int (k : IntKind) (n : Int) : na0 (.int k n) = true := Eq.trans rfl rfl
theorem na0_string (s : ByteArray) : na0 (.string s) = true := Eq.trans rfl rfl
theorem na0_slice (a : Addr) (n c : Nat) : na0 (.slice (some a) n c) = false := Eq.trans rfl rfl
theorem na0_nil : na0 (.slice none 0 0) = true := Eq.trans rfl rfl

/-- a loop: what is told of its end holds from each of its heads -/
theorem loop_rule {X : Lib} {B : Code} {α : Type} (F : Option (Out × Env × Heap) → α) (I : Nat → Env → Heap → α → Prop)
    (step : ∀ n e H r, I n e H r → (∀ m e' H' r', m < n → I m e' H' r' → F (EL P X (.loop B) e' H') = r') → F (thenDo (EL P X B e H) (EL P X (.loop B))) = r) :
    ∀ n e H r, I n e H r → F (EL P X (.loop B) e H) = r := by
  intro n
  induction n using Nat.strongRecOn with
  | ind n ih =>
    intro e H r h
    rw [EL_loop]
    exact step n e H r h fun m e' H' r' hm hI => ih m hm e' H' r' hI

/-- what is true behind a piece of code -/
def After (x : Option (Out × Env × Heap)) (G : Out → Env → Heap → Prop) : Of G Prop := ∃ o e H, x = some (o, e, H) ∧ G o e H
theorem After_congr {x x' : Option (Out × Env × Heap)} {G : Out → Env → Heap → Prop} (h : x = x') : After x G = After x' G := by rw [h]
theorem After_some (o : Out) (e : Env) (H : Heap) (G : Out → Env → Heap → Prop) : After (some (o, e, H)) G = G o e H := by
  refine propext ⟨?_, fun h => ⟨o, e, H, rfl, h⟩⟩
  rintro ⟨o', e', H', h, hG⟩
  cases h; exact hG
def LoopG (n : Nat) (I : Nat → Env → Heap → Prop) (Q : Out → Env → Heap → Prop) (o : Out) (e : Env) (H : Heap) : Of n (Of I (Of Q Prop)) :=
  match o with
  | .normal => ∃ m, m < n ∧ I m e H
  | .exit i => Q (.exit i) e H
  | .ret => Q .ret e H
theorem LoopG_normal {n : Nat} {I : Nat → Env → Heap → Prop} {Q : Out → Env → Heap → Prop} {e : Env} {H : Heap} (m : Nat) (hm : m < n) (h : I m e H) : LoopG n I Q .normal e H := ⟨m, hm, h⟩
theorem LoopG_exit {n : Nat} {I : Nat → Env → Heap → Prop} {Q : Out → Env → Heap → Prop} {i : Nat} {e : Env} {H : Heap} (h : Q (.exit i) e H) : LoopG n I Q (.exit i) e H := h
theorem LoopG_ret {n : Nat} {I : Nat → Env → Heap → Prop} {Q : Out → Env → Heap → Prop} {e : Env} {H : Heap} (h : Q .ret e H) : LoopG n I Q .ret e H := h
/-- a loop, by what holds at its heads, and what behind it -/
theorem loop_fin {X : Lib} {B : Code} {α : Type} (F : Option (Out × Env × Heap) → α) (I : Nat → Env → Heap → Prop) (Q : Out → Env → Heap → Prop) {n : Nat} {e : Env} {H : Heap} {r : α} (h : I n e H)
    (step : ∀ n e H, I n e H → After (EL P X B e H) (LoopG n I Q)) (fin : ∀ o e H, Q o e H → F (some (o, e, H)) = r) : F (EL P X (.loop B) e H) = r := by
  have key : ∀ n e H, I n e H → ∃ o e' H', EL P X (.loop B) e H = some (o, e', H') ∧ Q o e' H' := by
    intro n
    induction n using Nat.strongRecOn with
    | ind n ih =>
      intro e H h
      obtain ⟨o, e', H', h1, h2⟩ := step n e H h
      rw [EL_loop, h1]
      cases o with
      | normal =>
        obtain ⟨m, hm, hI⟩ := h2
        exact ih m hm e' H' hI
      | exit i => exact ⟨_, _, _, rfl, h2⟩
      | ret => exact ⟨_, _, _, rfl, h2⟩
  obtain ⟨o, e', H', h1, h2⟩ := key n e H h
  rw [h1]
  exact fin o e' H' h2
end
end Go.Proofs.Ytcpolfjnbbodgaa.Ve
