/- How the evaluator's equations are used: one bundle of rewriting rules. Conditions: none here. -/
import Derived.Test.YtcpolfjnbbodgaaVeLimit
namespace Go.Proofs.Ytcpolfjnbbodgaa.Ve
open Go Go.RowKit
set_option linter.unusedVariables false
set_option linter.unusedSimpArgs false

/-- what follows an operation -/
def contO (r : Option (Value × Option Heap)) (H : Heap) (f : Value → Heap → Option (Env × Heap)) : Of f (Option (Env × Heap)) :=
  match r with
  | some (v, none) => f v H
  | some (v, some H') => f v H'
  | none => none
def guardA (ops : Array Oper) (j : Nat) (b : Bool) (e : Env) : Bool :=
  match (ops[j]?).bind (·.dst) with
  | some d => isB (e.get d) b
  | none => false
def condB {α : Type} (v : Value) (x y : Option α) : Of x (Of y (Option α)) :=
  match v with
  | .bool t => if t then x else y
  | _ => none
def bodyRet (P : Program) (rs : List ResultVar) (H : Heap) (x : Option (Out × Env × Heap)) : Option (Value × Option Heap) :=
  match x with
  | some (.exit _, _, _) => none
  | some (_, e, H') => (rs.mapM (resultA P e H')).map fun vs => finish (packA vs) H H'
  | none => none

section
variable {P : Program} {X : Lib}
theorem runOps_plain (ops : Array Oper) (dst : Option Tmp) (op : Op) (ty : TypeId) (pos : String) (after : Array Edge) (rest : List Oper) (e : Env) (H : Heap) :
    runOps P (CL P X) ops (⟨dst, op, ty, pos, after, none⟩ :: rest) e H = contO (aop P (CL P X) op e H) H fun v H' => runOps P (CL P X) ops rest (putA e dst v) H' := by
  simp only [runOps, wantedA, if_true, contO]
  rfl
theorem runOps_guard (ops : Array Oper) (dst : Option Tmp) (op : Op) (ty : TypeId) (pos : String) (after : Array Edge) (j : Nat) (b : Bool) (rest : List Oper) (e : Env) (H : Heap) :
    runOps P (CL P X) ops (⟨dst, op, ty, pos, after, some (j, b)⟩ :: rest) e H =
      if guardA ops j b e = true then contO (aop P (CL P X) op e H) H fun v H' => runOps P (CL P X) ops rest (putA e dst v) H' else runOps P (CL P X) ops rest (putA e dst undef) H := by
  simp only [runOps, wantedA, contO, guardA]
  rfl
theorem EL_condB (x : Operand) (a b : Code) (e : Env) (H : Heap) : EL P X (.cond x a b) e H = condB (opv e x) (EL P X a e H) (EL P X b e H) := by
  cases h : opv e x with
  | bool t => rw [EL_cond x a b e H h]; rfl
  | _ =>
    refine EL_step (fun k r hr => ?_) fun r hr => ?_
    · simp only [exec, h] at hr; cases hr
    · simp only [condB] at hr; cases hr
theorem CL_run {f : FuncId} {c : Code} {nt : Nat} {rs : List ResultVar} (hf : fnA P f = some (c, nt, rs)) (hX : X f = none) (args : List Value) (hn : args.length ≤ nt) (H : Heap) :
    CL P X f args H = bodyRet P rs H (EL P X c (envOf 0 args) ⟨H.bs, H.bs.length⟩) := by
  rw [CL_body hX, body, hf]
  simp only [if_pos hn, bodyRet]
  cases EL P X c (envOf 0 args) ⟨H.bs, H.bs.length⟩ with
  | none => rfl
  | some z =>
    obtain ⟨o, e, H'⟩ := z
    cases o with
    | exit i => rfl
    | normal => simp only; cases List.mapM (resultA P e H') rs <;> rfl
    | ret => simp only; cases List.mapM (resultA P e H') rs <;> rfl

/-! ### simp goes where the run is, and nowhere else -/
theorem contO_congr {r r' : Option (Value × Option Heap)} {H : Heap} {f : Value → Heap → Option (Env × Heap)} (h : r = r') : contO r H f = contO r' H f := by rw [h]
theorem thenDo_congr {x x' : Option (Out × Env × Heap)} {f : Env → Heap → Option (Out × Env × Heap)} (h : x = x') : thenDo x f = thenDo x' f := by rw [h]
theorem condB_congr {α : Type} {v v' : Value} {x y : Option α} (h : v = v') : condB v x y = condB v' x y := by rw [h]
theorem contO_keep (v : Value) (H : Heap) (f : Value → Heap → Option (Env × Heap)) : contO (some (v, none)) H f = f v H := Eq.trans rfl rfl
theorem contO_turn (v : Value) (H H' : Heap) (f : Value → Heap → Option (Env × Heap)) : contO (some (v, some H')) H f = f v H' := Eq.trans rfl rfl
theorem condB_bool {α : Type} (t : Bool) (x y : Option α) : condB (.bool t) x y = if t = true then x else y := by cases t <;> rfl
theorem normally_some (e : Env) (H : Heap) : normally (some (e, H)) = some (.normal, e, H) := Eq.trans rfl rfl
theorem runOps_nil (C : CallF) (ops : Array Oper) (e : Env) (H : Heap) : runOps P C ops [] e H = some (e, H) := rfl
theorem get_cons (k : Nat) (v : Value) (e : Env) (t : Nat) : Env.get ((k, v) :: e) t = if k = t then v else Env.get e t := Eq.trans rfl rfl
theorem get_nil (t : Nat) : Env.get [] t = undef := rfl
theorem putA_some (e : Env) (d : Nat) (v : Value) : putA e (some d) v = (d, v) :: e := Eq.trans rfl rfl
theorem putA_none (e : Env) (v : Value) : putA e none v = e := Eq.trans rfl rfl
theorem opv_tmp (e : Env) (t : Nat) : opv e (.tmp t) = e.get t := Eq.trans rfl rfl
theorem opv_const (e : Env) (v : Value) : opv e (.const v) = v := Eq.trans rfl rfl
theorem opv_func (e : Env) (f : FuncId) : opv e (.func f) = .func (.func f) #[] #[] := Eq.trans rfl rfl

/-- a value, the heap as it was -/
def kp (v : Option Value) : Option (Value × Option Heap) := keep v
theorem kp_some (v : Value) : kp (some v) = some (v, none) := Eq.trans rfl rfl
def pickV (c x y : Value) : Option Value :=
  match c with
  | .bool t => some (if t then x else y)
  | _ => none
theorem pickV_bool (t : Bool) (x y : Value) : pickV (.bool t) x y = some (if t = true then x else y) := by cases t <;> rfl
section
variable (C : CallF) (e : Env) (H : Heap)
theorem aop_move (x : Operand) : aop P C (.move x) e H = kp (some (opv e x)) := Eq.trans rfl rfl
theorem aop_assign (x : Operand) : aop P C (.assign x) e H = kp (some (opv e x)) := Eq.trans rfl rfl
theorem aop_pick (c x y : Operand) : aop P C (.pick c x y) e H = kp (pickV (opv e c) (opv e x) (opv e y)) := by
  simp only [aop, pickV, kp]
  cases opv e c <;> rfl
theorem aop_alloc (t : TypeId) : aop P C (.alloc t) e H = turn ((tZero P t).map fun z => (.pointer (some ⟨H.next, 0, none⟩), H.push (.cells z true 1))) := Eq.trans rfl rfl
theorem aop_box (t : TypeId) (x : Operand) : aop P C (.box t x) e H = if (opv e x).cells.toList.all Value.oneCell' = true then some (.pointer (some ⟨H.next, 0, none⟩), some (H.push (.cells (opv e x).cells.toList true 1))) else none := Eq.trans rfl rfl
theorem aop_build (t : TypeId) (ps : Array (Nat × Operand)) : aop P C (.build t ps) e H = kp (buildA P t (ps.toList.map fun p => (p.1, opv e p.2))) := Eq.trans rfl rfl
theorem aop_buildSlice (t : TypeId) (n : Nat) (ps : Array (Nat × Operand)) : aop P C (.buildSlice t n ps) e H = turn (buildSliceA P H t n (ps.toList.map fun p => (p.1, opv e p.2))) := Eq.trans rfl rfl
theorem aop_load (t : TypeId) (a : Operand) : aop P C (.load t a) e H = kp (ld P t H (opv e a)) := Eq.trans rfl rfl
theorem aop_store (t : TypeId) (a x : Operand) : aop P C (.store t a x) e H = turn ((sto P t H (opv e a) (opv e x)).map fun H' => (undef, H')) := Eq.trans rfl rfl
def nilA (v : Value) : Option Value :=
  match v with
  | .pointer (some a) => some (.pointer (some a))
  | .func (.func g) f c => some (.func (.func g) f c)
  | _ => none
theorem aop_nilCheck (x : Operand) : aop P C (.nilCheck x) e H = kp (nilA (opv e x)) := by
  simp only [aop, nilA, kp]
  split <;> first | rfl | (split <;> first | rfl | simp_all)
theorem aop_bin (op : BinOp) (t : TypeId) (x y : Operand) (yt : TypeId) : aop P C (.binOp op t x y yt) e H = kp (binA P op t (opv e x) (opv e y)) := Eq.trans rfl rfl
theorem aop_un (op : UnOp) (t : TypeId) (x : Operand) : aop P C (.unOp op t x) e H = kp (unA op (opv e x)) := Eq.trans rfl rfl
theorem aop_convert (s d : TypeId) (x : Operand) : aop P C (.convert s d x) e H = convA P H s d (opv e x) := Eq.trans rfl rfl
theorem aop_iface (t : TypeId) (x : Operand) : aop P C (.makeInterface t x) e H = if P.concrete t = true then some (.iface t (opv e x), none) else none := rfl
theorem aop_func (g : FuncId) (f c : Array Operand) : aop P C (.makeFunc (.func g) f c) e H = some (.func (.func g) (f.toList.map (opv e)).toArray (c.toList.map (opv e)).toArray, none) := Eq.trans rfl rfl
theorem aop_map (t : TypeId) : aop P C (.makeMap t none) e H = some (.map (some H.next), some (H.push (.map []))) := Eq.trans rfl rfl
theorem aop_make (t : TypeId) (l c : Operand) : aop P C (.makeSlice t l c) e H = turn (makeSliceA P H t (opv e l) (opv e c)) := Eq.trans rfl rfl
theorem aop_slice (t : TypeId) (x : Operand) (lo hi mx : Option Operand) : aop P C (.slice t x lo hi mx) e H = kp (sliceA P H t (opv e x) (lo.map (opv e)) (hi.map (opv e)) (mx.map (opv e))) := Eq.trans rfl rfl
theorem aop_fieldAddr (t : TypeId) (x : Operand) (i : Nat) : aop P C (.fieldAddr t x i) e H = kp (fieldAddrA P t (opv e x) i) := Eq.trans rfl rfl
theorem aop_field (t : TypeId) (x : Operand) (i : Nat) : aop P C (.field t x i) e H = kp (fieldA P t (opv e x) i) := Eq.trans rfl rfl
theorem aop_indexAddr (t : TypeId) (x i : Operand) : aop P C (.indexAddr t x i) e H = kp (indexAddrA P t (opv e x) (opv e i)) := Eq.trans rfl rfl
theorem aop_index (t : TypeId) (x i : Operand) : aop P C (.index t x i) e H = kp (indexA P t (opv e x) (opv e i)) := Eq.trans rfl rfl
theorem aop_lookup (t : TypeId) (m k : Operand) (ok : Bool) : aop P C (.lookup t m k ok) e H = kp (lookupA P H t (opv e m) (opv e k) ok) := Eq.trans rfl rfl
theorem aop_mapUpdate (t : TypeId) (m k v : Operand) : aop P C (.mapUpdate t m k v) e H = turn ((mapUpdateA P H t (opv e m) (opv e k) (opv e v)).map fun H' => (undef, H')) := Eq.trans rfl rfl
def rangeA (P : Program) (t : TypeId) (H : Heap) (v : Value) : Option (Value × Option Heap) :=
  match P.underlying t, v with
  | some .string, .string s => some (.pointer (some ⟨H.next, 0, none⟩), some (H.push (.iter s 0)))
  | _, _ => none
theorem aop_range (t : TypeId) (x : Operand) : aop P C (.range t x) e H = rangeA P t H (opv e x) := Eq.trans rfl rfl
theorem aop_next (it : Operand) : aop P C (.next it true) e H = nextA H (opv e it) := Eq.trans rfl rfl
def extractA (v : Value) (i : Nat) : Option Value :=
  match v with
  | .tuple vs => vs.toList[i]?
  | _ => none
theorem extractA_tuple (vs : Array Value) (i : Nat) : extractA (.tuple vs) i = vs.toList[i]? := Eq.trans rfl rfl
theorem aop_extract (x : Operand) (i : Nat) : aop P C (.extract x i) e H = kp (extractA (opv e x) i) := by
  simp only [aop, extractA, kp]
  cases opv e x <;> rfl
theorem aop_builtin (b : Builtin) (as : Array Operand) (ts : Array TypeId) : aop P C (.call ⟨.builtin b, as, ts⟩) e H = builtinA P b ts.toList (as.toList.map (opv e)) H := Eq.trans rfl rfl
def applyA (C : CallF) (f : Value) (args : List Value) (H : Heap) : Option (Value × Option Heap) :=
  match f with
  | .func (.func g) first captured => C g (first.toList ++ args ++ captured.toList) H
  | _ => none
theorem applyA_func (g : FuncId) (f c : Array Value) (args : List Value) : applyA C (.func (.func g) f c) args H = C g (f.toList ++ args ++ c.toList) H := Eq.trans rfl rfl
theorem aop_call (f : Operand) (as : Array Operand) (ts : Array TypeId) : aop P C (.call ⟨.value f, as, ts⟩) e H = applyA C (opv e f) (as.toList.map (opv e)) H := Eq.trans rfl rfl
theorem turn_some (v : Value) (H' : Heap) : turn (some (v, H')) = some (v, some H') := Eq.trans rfl rfl
theorem turn_ite (c : Prop) [Decidable c] (x y : Option (Value × Heap)) : turn (if c then x else y) = if c then turn x else turn y := by split <;> rfl
theorem contO_ite (c : Prop) [Decidable c] (x y : Option (Value × Option Heap)) (f : Value → Heap → Option (Env × Heap)) : contO (if c then x else y) H f = if c then contO x H f else contO y H f := by split <;> rfl
theorem kp_ite (c : Prop) [Decidable c] (x y : Option Value) : kp (if c then x else y) = if c then kp x else kp y := by split <;> rfl

/-! numbers -/
theorem bin_add (t : TypeId) (k : IntKind) (a b : Int) : binA P .add t (.int k a) (.int k b) = some (.int k (k.wrap (a + b))) := by simp [binA]
theorem bin_sub (t : TypeId) (k : IntKind) (a b : Int) : binA P .sub t (.int k a) (.int k b) = some (.int k (k.wrap (a - b))) := by simp [binA]
theorem bin_mul (t : TypeId) (k : IntKind) (a b : Int) : binA P .mul t (.int k a) (.int k b) = some (.int k (k.wrap (a * b))) := by simp [binA]
theorem bin_quo (t : TypeId) (k : IntKind) (a b : Int) (h : b ≠ 0) : binA P .quo t (.int k a) (.int k b) = some (.int k (k.wrap (a.tdiv b))) := by simp [binA, h]
theorem bin_rem (t : TypeId) (k : IntKind) (a b : Int) (h : b ≠ 0) : binA P .rem t (.int k a) (.int k b) = some (.int k (a.tmod b)) := by simp [binA, h]
theorem bin_and (t : TypeId) (k : IntKind) (a b : Int) : binA P .and t (.int k a) (.int k b) = some (.int k (Go.bits .and k a b)) := by simp [binA]
theorem bin_or (t : TypeId) (k : IntKind) (a b : Int) : binA P .or t (.int k a) (.int k b) = some (.int k (Go.bits .or k a b)) := by simp [binA]
theorem bin_xor (t : TypeId) (k : IntKind) (a b : Int) : binA P .xor t (.int k a) (.int k b) = some (.int k (Go.bits .xor k a b)) := by simp [binA]
theorem bin_andNot (t : TypeId) (k : IntKind) (a b : Int) : binA P .andNot t (.int k a) (.int k b) = some (.int k (Go.bits .andNot k a b)) := by simp [binA]
theorem bin_lss (t : TypeId) (k : IntKind) (a b : Int) : binA P .lss t (.int k a) (.int k b) = some (.bool (decide (a < b))) := by simp [binA]
theorem bin_leq (t : TypeId) (k : IntKind) (a b : Int) : binA P .leq t (.int k a) (.int k b) = some (.bool (decide (a ≤ b))) := by simp [binA]
theorem bin_gtr (t : TypeId) (k : IntKind) (a b : Int) : binA P .gtr t (.int k a) (.int k b) = some (.bool (decide (b < a))) := by simp [binA]
theorem bin_geq (t : TypeId) (k : IntKind) (a b : Int) : binA P .geq t (.int k a) (.int k b) = some (.bool (decide (b ≤ a))) := by simp [binA]
theorem bin_eql_int (t : TypeId) (k : IntKind) (a b : Int) : binA P .eql t (.int k a) (.int k b) = some (.bool (decide (a = b))) := by simp [binA, eqA]; rfl
theorem bin_neq_int (t : TypeId) (k : IntKind) (a b : Int) : binA P .neq t (.int k a) (.int k b) = some (.bool (!decide (a = b))) := by simp [binA, eqA]; rfl
theorem str_beq (a b : ByteArray) : (a == b) = decide (a = b) := by
  rw [Bool.eq_iff_iff, decide_eq_true_iff]
  constructor
  · intro h
    rw [beq_toListBytes, beq_iff_eq, ByteArray.toList_eq, ByteArray.toList_eq] at h
    have h2 := Array.toList_inj.1 h
    obtain ⟨a⟩ := a; obtain ⟨b⟩ := b
    simp only at h2
    rw [h2]
  · rintro rfl; exact bytes_beq _
theorem bin_eql_str (t : TypeId) (a b : ByteArray) : binA P .eql t (.string a) (.string b) = some (.bool (decide (a = b))) := by simp [binA, eqA, str_beq]
theorem bin_neq_str (t : TypeId) (a b : ByteArray) : binA P .neq t (.string a) (.string b) = some (.bool (!decide (a = b))) := by simp [binA, eqA, str_beq]
theorem bin_eql_bool (t : TypeId) (a b : Bool) (h : tBool P t = true) : binA P .eql t (.bool a) (.bool b) = some (.bool (a == b)) := by simp [binA, eqA, h]
theorem bin_neq_bool (t : TypeId) (a b : Bool) (h : tBool P t = true) : binA P .neq t (.bool a) (.bool b) = some (.bool (!(a == b))) := by simp [binA, eqA, h]
theorem bin_add_str (t : TypeId) (a b : ByteArray) (h : a.size + b.size ≤ 9223372036854775807) : binA P .add t (.string a) (.string b) = some (.string (a ++ b)) := by simp [binA, h]
theorem bin_shl (t : TypeId) (k k' : IntKind) (a b : Int) (h : 0 ≤ b) : binA P .shl t (.int k a) (.int k' b) = some (.int k (k.wrap (a * 2 ^ (min b.toNat k.bits)))) := by simp [binA, h]
theorem bin_shr (t : TypeId) (k k' : IntKind) (a b : Int) (h : 0 ≤ b) : binA P .shr t (.int k a) (.int k' b) = some (.int k (a.fdiv (2 ^ (min b.toNat k.bits)))) := by simp [binA, h]
theorem un_not (b : Bool) : unA .not (.bool b) = some (.bool !b) := Eq.trans rfl rfl
theorem un_neg (k : IntKind) (n : Int) : unA .neg (.int k n) = some (.int k (k.wrap (0 - n))) := Eq.trans rfl rfl
theorem conv_int (s d : TypeId) (k k' : IntKind) (n : Int) (hs : (P.underlying s).isSome = true) (hd : P.underlying d = some (.int k)) : convA P H s d (.int k' n) = some (.int k (k.wrap n), none) := by
  obtain ⟨x, hx⟩ := Option.isSome_iff_exists.1 hs
  simp [convA, hx, hd]
theorem len_str (t : TypeId) (s : ByteArray) (h : P.underlying t = some .string) : builtinA P .len [t] [.string s] H = some (.int .i64 s.size, none) := by simp [builtinA, lenA, h, goInt]
theorem len_slice (t e' : TypeId) (a : Option Addr) (n c : Nat) (h : tElem P t = some e') : builtinA P .len [t] [.slice a n c] H = some (.int .i64 n, none) := by simp [builtinA, lenA, tElem_spec h, goInt]
theorem bap (ts : List TypeId) (s x : Value) : builtinA P .append ts [s, x] H = appendA P H ts s x := Eq.trans rfl rfl
theorem bcp (ts : List TypeId) (s x : Value) : builtinA P .copy ts [s, x] H = copyA P H ts s x := Eq.trans rfl rfl
theorem index_str (t : TypeId) (s : ByteArray) (k : IntKind) (i : Int) (h : P.underlying t = some .string) (h0 : 0 ≤ i) (h1 : i < s.size) : indexA P t (.string s) (.int k i) = some (.int .u8 (s.data.toList.getD i.toNat 0).toNat) := by simp [indexA, h, h0, h1]
end

/-! ### values without addresses -/
theorem na_bool (b : Bool) : noAddr (.bool b) = true := Eq.trans rfl rfl
theorem na_int (k : IntKind) (n : Int) : noAddr (.int k n) = true := Eq.trans rfl rfl
theorem na_string (s : ByteArray) : noAddr (.string s) = true := Eq.trans rfl rfl
theorem pack_one (v : Value) : packA [v] = v := Eq.trans rfl rfl
theorem pack_two (a b : Value) : packA [a, b] = .tuple #[a, b] := Eq.trans rfl rfl
theorem pack_three (a b c : Value) : packA [a, b, c] = .tuple #[a, b, c] := Eq.trans rfl rfl
theorem finish_eq (v : Value) (H : Heap) (bs : List Blk) : finish v H ⟨bs, H.bs.length⟩ = if noAddr v = true then (v, none) else (v, some ⟨bs, min H.low H.bs.length⟩) := by simp [finish]
theorem na_tuple2 (a b : Value) : noAddr (.tuple #[a, b]) = (na1 a && na1 b) := by simp [noAddr]
theorem na_tuple3 (a b c : Value) : noAddr (.tuple #[a, b, c]) = (na1 a && (na1 b && na1 c)) := by simp [noAddr]
theorem na1_bool (b : Bool) : na1 (.bool b) = true := Eq.trans rfl rfl
theorem na1_int (k : IntKind) (n : Int) : na1 (.int k n) = true := Eq.trans rfl rfl
theorem na1_string (s : ByteArray) : na1 (.string s) = true := Eq.trans rfl rfl
theorem na1_slice (a : Addr) (n c : Nat) : na1 (.slice (some a) n c) = false := Eq.trans rfl rfl
theorem na1_nil : na1 (.slice none 0 0) = true := Eq.trans rfl rfl
theorem na_slice (a : Addr) (n c : Nat) : noAddr (.slice (some a) n c) = false := Eq.trans rfl rfl
theorem na_nil : noAddr (.slice none 0 0) = true := Eq.trans rfl rfl
theorem finish_na (v : Value) (H : Heap) (bs : List Blk) (h : noAddr v = true) : finish v H ⟨bs, H.bs.length⟩ = (v, none) := by simp [finish, h]
theorem bodyRet_normal (rs : List ResultVar) (H : Heap) (e : Env) (H' : Heap) : bodyRet P rs H (some (.normal, e, H')) = (rs.mapM (resultA P e H')).map fun vs => finish (packA vs) H H' := Eq.trans rfl rfl
theorem bodyRet_ret (rs : List ResultVar) (H : Heap) (e : Env) (H' : Heap) : bodyRet P rs H (some (.ret, e, H')) = (rs.mapM (resultA P e H')).map fun vs => finish (packA vs) H H' := Eq.trans rfl rfl
theorem bodyRet_ite (rs : List ResultVar) (H : Heap) (c : Prop) [Decidable c] (x y : Option (Out × Env × Heap)) : bodyRet P rs H (if c then x else y) = if c then bodyRet P rs H x else bodyRet P rs H y := by split <;> rfl
theorem thenDo_ite (c : Prop) [Decidable c] (x y : Option (Out × Env × Heap)) (f : Env → Heap → Option (Out × Env × Heap)) : thenDo (if c then x else y) f = if c then thenDo x f else thenDo y f := by split <;> rfl
theorem inBlock_ite (i : Nat) (c : Prop) [Decidable c] (x y : Option (Out × Env × Heap)) : inBlock i (if c then x else y) = if c then inBlock i x else inBlock i y := by split <;> rfl
theorem normally_ite (c : Prop) [Decidable c] (x y : Option (Env × Heap)) : normally (if c then x else y) = if c then normally x else normally y := by split <;> rfl
theorem res_one (e : Env) (H : Heap) (t : Nat) : [ResultVar.tmp t].mapM (resultA P e H) = some [e.get t] := Eq.trans rfl rfl
theorem res_two (e : Env) (H : Heap) (t u : Nat) : [ResultVar.tmp t, .tmp u].mapM (resultA P e H) = some [e.get t, e.get u] := Eq.trans rfl rfl
theorem res_three (e : Env) (H : Heap) (t u v : Nat) : [ResultVar.tmp t, .tmp u, .tmp v].mapM (resultA P e H) = some [e.get t, e.get u, e.get v] := Eq.trans rfl rfl
theorem guardA_some (ops : Array Oper) (j : Nat) (b : Bool) (e : Env) : guardA ops j b e = match (ops[j]?).bind (·.dst) with | some d => isB (e.get d) b | none => false := rfl
theorem isB_bool (c b : Bool) : isB (.bool c) b = (c == b) := rfl
end
end Go.Proofs.Ytcpolfjnbbodgaa.Ve
