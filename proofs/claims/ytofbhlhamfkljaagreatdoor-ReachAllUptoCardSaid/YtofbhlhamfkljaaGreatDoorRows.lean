/-
  NARROWER THAN 'FOR EVERY INPUT', by the rows' own cells (each row's printed sentence says how): ReachMakes: loops, laid · ReachKeeps: loops, laid · ReachGrows: loops, laid · ReachNexts: loops, laid · ReachRows: loops, laid · ReachAll: loops, laid.
  DERIVED. THE GIVEN ROWS OF THIS SEAT. 6 by the template 'for every input the law returns true; each argument reads behind the call as it read before'; 0 by the template 'total and deterministic' (their statements: YtofbhlhamfkljaaGreatDoorTotals.lean).
  GIVEN WITH THE SEED: the statements are not yours to turn. If you find one false, say at which input.
  Laid BY PROGRAM, IN A SANDBOX (cutbox-rows.mjs): the forced cells as the released guide's own fill.sh prints them over the translation b56b6d9c16ef6bb8… (all of the seat's roots in one cut). By AI agents, Wed Nov 11 2026. No macro, syntax, notation, axiom, sorry.
-/
import Derived.Test.YtofbhlhamfkljaaGreatDoorChecked
import GoSem.Claim
import GoSem.ClaimJoined
import GoSem.ClaimMapViews
import Derived.JoinedTies
import Derived.KernelRfl
namespace Go.Proofs.YtofbhlhamfkljaaGreatDoor
/- THE CELL 'sum', in the pinned program and in every row, IS THE sha256 OF THE DUMP (.gsa) THAT YtofbhlhamfkljaaGreatDoorProg.lean LOADS. Nothing in Lean hashes anything: it is a label: what it is worth is what the hold of that sum in a sandbox is worth. -/
noncomputable def Tryz.pinned : Pinned := { name := "ytofbhlhamfkljaagreatdoor", sum := "b56b6d9c16ef6bb8b483c32e999302d1d65167519af81b09860df64264806510", checked := Tryz.checked }
namespace Rows
def none {H : Type} : Left H := { results := [], args := [] }

/- WHAT THE LISTED PACKAGE-LEVEL VARIABLES READ AS WHEN THE CALL BEGINS. Each datum BY PROGRAM (the guide's laid-datum.mjs) off the statement by which the dump's own 'gosem.cut.vars' lays the variable. In a bare row this is a premise. The card (YtofbhlhamfkljaaGreatDoorCards.lean) ties it to the program's text. -/
def laid_math_bits_deBruijn32tab {H : Type} : DataW H := .agg [.lit (.int .u8 0), .lit (.int .u8 1), .lit (.int .u8 28), .lit (.int .u8 2), .lit (.int .u8 29), .lit (.int .u8 14), .lit (.int .u8 24), .lit (.int .u8 3), .lit (.int .u8 30), .lit (.int .u8 22), .lit (.int .u8 20), .lit (.int .u8 15), .lit (.int .u8 25), .lit (.int .u8 17), .lit (.int .u8 4), .lit (.int .u8 8), .lit (.int .u8 31), .lit (.int .u8 27), .lit (.int .u8 13), .lit (.int .u8 23), .lit (.int .u8 21), .lit (.int .u8 19), .lit (.int .u8 16), .lit (.int .u8 7), .lit (.int .u8 26), .lit (.int .u8 12), .lit (.int .u8 18), .lit (.int .u8 6), .lit (.int .u8 11), .lit (.int .u8 5), .lit (.int .u8 10), .lit (.int .u8 9)]
def laid_math_bits_deBruijn64tab {H : Type} : DataW H := .agg [.lit (.int .u8 0), .lit (.int .u8 1), .lit (.int .u8 56), .lit (.int .u8 2), .lit (.int .u8 57), .lit (.int .u8 49), .lit (.int .u8 28), .lit (.int .u8 3), .lit (.int .u8 61), .lit (.int .u8 58), .lit (.int .u8 42), .lit (.int .u8 50), .lit (.int .u8 38), .lit (.int .u8 29), .lit (.int .u8 17), .lit (.int .u8 4), .lit (.int .u8 62), .lit (.int .u8 47), .lit (.int .u8 59), .lit (.int .u8 36), .lit (.int .u8 45), .lit (.int .u8 43), .lit (.int .u8 51), .lit (.int .u8 22), .lit (.int .u8 53), .lit (.int .u8 39), .lit (.int .u8 33), .lit (.int .u8 30), .lit (.int .u8 24), .lit (.int .u8 18), .lit (.int .u8 12), .lit (.int .u8 5), .lit (.int .u8 63), .lit (.int .u8 55), .lit (.int .u8 48), .lit (.int .u8 27), .lit (.int .u8 60), .lit (.int .u8 41), .lit (.int .u8 37), .lit (.int .u8 16), .lit (.int .u8 46), .lit (.int .u8 35), .lit (.int .u8 44), .lit (.int .u8 21), .lit (.int .u8 52), .lit (.int .u8 32), .lit (.int .u8 23), .lit (.int .u8 11), .lit (.int .u8 54), .lit (.int .u8 26), .lit (.int .u8 40), .lit (.int .u8 15), .lit (.int .u8 34), .lit (.int .u8 20), .lit (.int .u8 31), .lit (.int .u8 10), .lit (.int .u8 25), .lit (.int .u8 14), .lit (.int .u8 19), .lit (.int .u8 9), .lit (.int .u8 13), .lit (.int .u8 8), .lit (.int .u8 7), .lit (.int .u8 6)]
def laid_internal_strconv_uint64pow10 {H : Type} : DataW H := .agg [.lit (.int .u64 1), .lit (.int .u64 10), .lit (.int .u64 100), .lit (.int .u64 1000), .lit (.int .u64 10000), .lit (.int .u64 100000), .lit (.int .u64 1000000), .lit (.int .u64 10000000), .lit (.int .u64 100000000), .lit (.int .u64 1000000000), .lit (.int .u64 10000000000), .lit (.int .u64 100000000000), .lit (.int .u64 1000000000000), .lit (.int .u64 10000000000000), .lit (.int .u64 100000000000000), .lit (.int .u64 1000000000000000), .lit (.int .u64 10000000000000000), .lit (.int .u64 100000000000000000), .lit (.int .u64 1000000000000000000), .lit (.int .u64 10000000000000000000)]

/-- 'oriellaw21.ReachMakes': WHATEVER THE INPUT: true; the input reads as it did. -/
def reachMakesSpec : ChangeSpec := { name := "reachMakes", fn := fun _ => fun
  | [d] => { results := [.lit (.bool true)], args := [d] }
  | _ => none }
def reachMakesRow : OpenClaim := { program := "ytofbhlhamfkljaagreatdoor", sum := "b56b6d9c16ef6bb8b483c32e999302d1d65167519af81b09860df64264806510", func := "oriel/oriellaw21.ReachMakes", spec := "reachMakes", unfollowed := true, recurses := true, named := ["internal/strconv.uint64pow10", "math/bits.deBruijn32tab", "math/bits.deBruijn64tab"], loops := true, plainKeys := false, apart := false, laid := [("math/bits.deBruijn32tab", laid_math_bits_deBruijn32tab), ("math/bits.deBruijn64tab", laid_math_bits_deBruijn64tab), ("internal/strconv.uint64pow10", laid_internal_strconv_uint64pow10)] }
def ReachMakesSaid : Prop := reachMakesRow.holds Tryz.pinned (OpenSpec.ofChange reachMakesSpec)

/-- ITS FALSE NEIGHBOUR: 'it returns false'. Refute it at one input. -/
def reachMakesWrong : ChangeSpec := { name := "reachMakes", fn := fun _ => fun
  | [d] => { results := [.lit (.bool false)], args := [d] }
  | _ => none }
def ReachMakesWrongFalsely : Prop := reachMakesRow.holds Tryz.pinned (OpenSpec.ofChange reachMakesWrong)

/-- 'oriellaw21.ReachKeeps': WHATEVER THE INPUT: true; the input reads as it did. -/
def reachKeepsSpec : ChangeSpec := { name := "reachKeeps", fn := fun _ => fun
  | [d] => { results := [.lit (.bool true)], args := [d] }
  | _ => none }
def reachKeepsRow : OpenClaim := { program := "ytofbhlhamfkljaagreatdoor", sum := "b56b6d9c16ef6bb8b483c32e999302d1d65167519af81b09860df64264806510", func := "oriel/oriellaw21.ReachKeeps", spec := "reachKeeps", unfollowed := true, recurses := true, named := ["internal/strconv.uint64pow10", "math/bits.deBruijn32tab", "math/bits.deBruijn64tab"], loops := true, plainKeys := false, apart := false, laid := [("math/bits.deBruijn32tab", laid_math_bits_deBruijn32tab), ("math/bits.deBruijn64tab", laid_math_bits_deBruijn64tab), ("internal/strconv.uint64pow10", laid_internal_strconv_uint64pow10)] }
def ReachKeepsSaid : Prop := reachKeepsRow.holds Tryz.pinned (OpenSpec.ofChange reachKeepsSpec)

/-- ITS FALSE NEIGHBOUR: 'it returns false'. Refute it at one input. -/
def reachKeepsWrong : ChangeSpec := { name := "reachKeeps", fn := fun _ => fun
  | [d] => { results := [.lit (.bool false)], args := [d] }
  | _ => none }
def ReachKeepsWrongFalsely : Prop := reachKeepsRow.holds Tryz.pinned (OpenSpec.ofChange reachKeepsWrong)

/-- 'oriellaw21.ReachGrows': WHATEVER THE INPUT: true; the input reads as it did. -/
def reachGrowsSpec : ChangeSpec := { name := "reachGrows", fn := fun _ => fun
  | [d] => { results := [.lit (.bool true)], args := [d] }
  | _ => none }
def reachGrowsRow : OpenClaim := { program := "ytofbhlhamfkljaagreatdoor", sum := "b56b6d9c16ef6bb8b483c32e999302d1d65167519af81b09860df64264806510", func := "oriel/oriellaw21.ReachGrows", spec := "reachGrows", unfollowed := true, recurses := true, named := ["internal/strconv.uint64pow10", "math/bits.deBruijn32tab", "math/bits.deBruijn64tab"], loops := true, plainKeys := false, apart := false, laid := [("math/bits.deBruijn32tab", laid_math_bits_deBruijn32tab), ("math/bits.deBruijn64tab", laid_math_bits_deBruijn64tab), ("internal/strconv.uint64pow10", laid_internal_strconv_uint64pow10)] }
def ReachGrowsSaid : Prop := reachGrowsRow.holds Tryz.pinned (OpenSpec.ofChange reachGrowsSpec)

/-- ITS FALSE NEIGHBOUR: 'it returns false'. Refute it at one input. -/
def reachGrowsWrong : ChangeSpec := { name := "reachGrows", fn := fun _ => fun
  | [d] => { results := [.lit (.bool false)], args := [d] }
  | _ => none }
def ReachGrowsWrongFalsely : Prop := reachGrowsRow.holds Tryz.pinned (OpenSpec.ofChange reachGrowsWrong)

/-- 'oriellaw21.ReachNexts': WHATEVER THE INPUT: true; the input reads as it did. -/
def reachNextsSpec : ChangeSpec := { name := "reachNexts", fn := fun _ => fun
  | [d1, d2, d3, d4, d5] => { results := [.lit (.bool true)], args := [d1, d2, d3, d4, d5] }
  | _ => none }
def reachNextsRow : OpenClaim := { program := "ytofbhlhamfkljaagreatdoor", sum := "b56b6d9c16ef6bb8b483c32e999302d1d65167519af81b09860df64264806510", func := "oriel/oriellaw21.ReachNexts", spec := "reachNexts", unfollowed := true, recurses := true, named := ["internal/strconv.uint64pow10", "math/bits.deBruijn32tab", "math/bits.deBruijn64tab"], loops := true, plainKeys := false, apart := false, laid := [("math/bits.deBruijn32tab", laid_math_bits_deBruijn32tab), ("math/bits.deBruijn64tab", laid_math_bits_deBruijn64tab), ("internal/strconv.uint64pow10", laid_internal_strconv_uint64pow10)] }
def ReachNextsSaid : Prop := reachNextsRow.holds Tryz.pinned (OpenSpec.ofChange reachNextsSpec)

/-- ITS FALSE NEIGHBOUR: 'it returns false'. Refute it at one input. -/
def reachNextsWrong : ChangeSpec := { name := "reachNexts", fn := fun _ => fun
  | [d1, d2, d3, d4, d5] => { results := [.lit (.bool false)], args := [d1, d2, d3, d4, d5] }
  | _ => none }
def ReachNextsWrongFalsely : Prop := reachNextsRow.holds Tryz.pinned (OpenSpec.ofChange reachNextsWrong)

/-- 'oriellaw21.ReachRows': WHATEVER THE INPUT: true; the input reads as it did. -/
def reachRowsSpec : ChangeSpec := { name := "reachRows", fn := fun _ => fun
  | [d] => { results := [.lit (.bool true)], args := [d] }
  | _ => none }
def reachRowsRow : OpenClaim := { program := "ytofbhlhamfkljaagreatdoor", sum := "b56b6d9c16ef6bb8b483c32e999302d1d65167519af81b09860df64264806510", func := "oriel/oriellaw21.ReachRows", spec := "reachRows", unfollowed := true, recurses := true, named := ["internal/strconv.uint64pow10", "math/bits.deBruijn32tab", "math/bits.deBruijn64tab"], loops := true, plainKeys := false, apart := false, laid := [("math/bits.deBruijn32tab", laid_math_bits_deBruijn32tab), ("math/bits.deBruijn64tab", laid_math_bits_deBruijn64tab), ("internal/strconv.uint64pow10", laid_internal_strconv_uint64pow10)] }
def ReachRowsSaid : Prop := reachRowsRow.holds Tryz.pinned (OpenSpec.ofChange reachRowsSpec)

/-- ITS FALSE NEIGHBOUR: 'it returns false'. Refute it at one input. -/
def reachRowsWrong : ChangeSpec := { name := "reachRows", fn := fun _ => fun
  | [d] => { results := [.lit (.bool false)], args := [d] }
  | _ => none }
def ReachRowsWrongFalsely : Prop := reachRowsRow.holds Tryz.pinned (OpenSpec.ofChange reachRowsWrong)

/-- 'oriellaw21.ReachAll': WHATEVER THE INPUT: true; the input reads as it did. -/
def reachAllSpec : ChangeSpec := { name := "reachAll", fn := fun _ => fun
  | [d1, d2] => { results := [.lit (.bool true)], args := [d1, d2] }
  | _ => none }
def reachAllRow : OpenClaim := { program := "ytofbhlhamfkljaagreatdoor", sum := "b56b6d9c16ef6bb8b483c32e999302d1d65167519af81b09860df64264806510", func := "oriel/oriellaw21.ReachAll", spec := "reachAll", unfollowed := true, recurses := true, named := ["internal/strconv.uint64pow10", "math/bits.deBruijn32tab", "math/bits.deBruijn64tab"], loops := true, plainKeys := false, apart := false, laid := [("math/bits.deBruijn32tab", laid_math_bits_deBruijn32tab), ("math/bits.deBruijn64tab", laid_math_bits_deBruijn64tab), ("internal/strconv.uint64pow10", laid_internal_strconv_uint64pow10)] }
def ReachAllSaid : Prop := reachAllRow.holds Tryz.pinned (OpenSpec.ofChange reachAllSpec)

/-- ITS FALSE NEIGHBOUR: 'it returns false'. Refute it at one input. -/
def reachAllWrong : ChangeSpec := { name := "reachAll", fn := fun _ => fun
  | [d1, d2] => { results := [.lit (.bool false)], args := [d1, d2] }
  | _ => none }
def ReachAllWrongFalsely : Prop := reachAllRow.holds Tryz.pinned (OpenSpec.ofChange reachAllWrong)

/- THE SECOND FORM. 'bulk': how many values and letters a reading holds, each counted each time it is reached (what is shared counts as often as it is met; a slice's spare places count too). A statement '..UptoSaid' is the law's where the arguments, and the package variables that the reading takes, are together of bulk at most 1048576: NARROWER than '..Said'. Prove '..Said' where nothing that the law and all that it calls make is longer than what came in: it says more and counts as full. Else prove '..UptoSaid'. A law counts once. -/
mutual
def uptoBulk {H : Type} : DataW H → Nat
  | .lit (.string bytes) => bytes.length + 1
  | .lit _ => 1
  | .nil => 1
  | .ptr d => uptoBulk d + 1
  | .slice elems spare => uptoBulkAll elems + uptoBulkAll spare + 1
  | .agg parts => uptoBulkAll parts + 1
  | .iface _ d => uptoBulk d + 1
  | .map entries => uptoBulkEntries entries + 1
  | .held _ => 1
def uptoBulkAll {H : Type} : List (DataW H) → Nat
  | [] => 0
  | d :: r => uptoBulk d + uptoBulkAll r
def uptoBulkEntries {H : Type} : List (Lit × DataW H) → Nat
  | [] => 0
  | x :: r => uptoBulkEntry x + uptoBulkEntries r
def uptoBulkEntry {H : Type} : Lit × DataW H → Nat
  | (.string bytes, d) => bytes.length + uptoBulk d + 1
  | (_, d) => uptoBulk d + 1
 end
def uptoSmall : (H : Type) → List (DataW H) → Bool := fun _ ds => decide (uptoBulkAll ds ≤ 1048576)
def OpenSpec.upto (s : _root_.Go.ChangeSpec) : _root_.Go.OpenSpec := { _root_.Go.OpenSpec.ofChange s with cond := some uptoSmall }

/-- 'oriellaw21.ReachMakes', WHERE WHAT IT READS IS OF BULK AT MOST 1048576: true; the input reads as it did. -/
def reachMakesUptoRow : OpenClaim := { program := "ytofbhlhamfkljaagreatdoor", sum := "b56b6d9c16ef6bb8b483c32e999302d1d65167519af81b09860df64264806510", func := "oriel/oriellaw21.ReachMakes", spec := "reachMakes", unfollowed := true, recurses := true, named := ["internal/strconv.uint64pow10", "math/bits.deBruijn32tab", "math/bits.deBruijn64tab"], loops := true, plainKeys := false, apart := false, laid := [("math/bits.deBruijn32tab", laid_math_bits_deBruijn32tab), ("math/bits.deBruijn64tab", laid_math_bits_deBruijn64tab), ("internal/strconv.uint64pow10", laid_internal_strconv_uint64pow10)], narrowed := true }
def ReachMakesUptoSaid : Prop := reachMakesUptoRow.holds Tryz.pinned (OpenSpec.upto reachMakesSpec)

/-- 'oriellaw21.ReachKeeps', WHERE WHAT IT READS IS OF BULK AT MOST 1048576: true; the input reads as it did. -/
def reachKeepsUptoRow : OpenClaim := { program := "ytofbhlhamfkljaagreatdoor", sum := "b56b6d9c16ef6bb8b483c32e999302d1d65167519af81b09860df64264806510", func := "oriel/oriellaw21.ReachKeeps", spec := "reachKeeps", unfollowed := true, recurses := true, named := ["internal/strconv.uint64pow10", "math/bits.deBruijn32tab", "math/bits.deBruijn64tab"], loops := true, plainKeys := false, apart := false, laid := [("math/bits.deBruijn32tab", laid_math_bits_deBruijn32tab), ("math/bits.deBruijn64tab", laid_math_bits_deBruijn64tab), ("internal/strconv.uint64pow10", laid_internal_strconv_uint64pow10)], narrowed := true }
def ReachKeepsUptoSaid : Prop := reachKeepsUptoRow.holds Tryz.pinned (OpenSpec.upto reachKeepsSpec)

/-- 'oriellaw21.ReachGrows', WHERE WHAT IT READS IS OF BULK AT MOST 1048576: true; the input reads as it did. -/
def reachGrowsUptoRow : OpenClaim := { program := "ytofbhlhamfkljaagreatdoor", sum := "b56b6d9c16ef6bb8b483c32e999302d1d65167519af81b09860df64264806510", func := "oriel/oriellaw21.ReachGrows", spec := "reachGrows", unfollowed := true, recurses := true, named := ["internal/strconv.uint64pow10", "math/bits.deBruijn32tab", "math/bits.deBruijn64tab"], loops := true, plainKeys := false, apart := false, laid := [("math/bits.deBruijn32tab", laid_math_bits_deBruijn32tab), ("math/bits.deBruijn64tab", laid_math_bits_deBruijn64tab), ("internal/strconv.uint64pow10", laid_internal_strconv_uint64pow10)], narrowed := true }
def ReachGrowsUptoSaid : Prop := reachGrowsUptoRow.holds Tryz.pinned (OpenSpec.upto reachGrowsSpec)

/-- 'oriellaw21.ReachNexts', WHERE WHAT IT READS IS OF BULK AT MOST 1048576: true; the input reads as it did. -/
def reachNextsUptoRow : OpenClaim := { program := "ytofbhlhamfkljaagreatdoor", sum := "b56b6d9c16ef6bb8b483c32e999302d1d65167519af81b09860df64264806510", func := "oriel/oriellaw21.ReachNexts", spec := "reachNexts", unfollowed := true, recurses := true, named := ["internal/strconv.uint64pow10", "math/bits.deBruijn32tab", "math/bits.deBruijn64tab"], loops := true, plainKeys := false, apart := false, laid := [("math/bits.deBruijn32tab", laid_math_bits_deBruijn32tab), ("math/bits.deBruijn64tab", laid_math_bits_deBruijn64tab), ("internal/strconv.uint64pow10", laid_internal_strconv_uint64pow10)], narrowed := true }
def ReachNextsUptoSaid : Prop := reachNextsUptoRow.holds Tryz.pinned (OpenSpec.upto reachNextsSpec)

/-- 'oriellaw21.ReachRows', WHERE WHAT IT READS IS OF BULK AT MOST 1048576: true; the input reads as it did. -/
def reachRowsUptoRow : OpenClaim := { program := "ytofbhlhamfkljaagreatdoor", sum := "b56b6d9c16ef6bb8b483c32e999302d1d65167519af81b09860df64264806510", func := "oriel/oriellaw21.ReachRows", spec := "reachRows", unfollowed := true, recurses := true, named := ["internal/strconv.uint64pow10", "math/bits.deBruijn32tab", "math/bits.deBruijn64tab"], loops := true, plainKeys := false, apart := false, laid := [("math/bits.deBruijn32tab", laid_math_bits_deBruijn32tab), ("math/bits.deBruijn64tab", laid_math_bits_deBruijn64tab), ("internal/strconv.uint64pow10", laid_internal_strconv_uint64pow10)], narrowed := true }
def ReachRowsUptoSaid : Prop := reachRowsUptoRow.holds Tryz.pinned (OpenSpec.upto reachRowsSpec)

/-- 'oriellaw21.ReachAll', WHERE WHAT IT READS IS OF BULK AT MOST 1048576: true; the input reads as it did. -/
def reachAllUptoRow : OpenClaim := { program := "ytofbhlhamfkljaagreatdoor", sum := "b56b6d9c16ef6bb8b483c32e999302d1d65167519af81b09860df64264806510", func := "oriel/oriellaw21.ReachAll", spec := "reachAll", unfollowed := true, recurses := true, named := ["internal/strconv.uint64pow10", "math/bits.deBruijn32tab", "math/bits.deBruijn64tab"], loops := true, plainKeys := false, apart := false, laid := [("math/bits.deBruijn32tab", laid_math_bits_deBruijn32tab), ("math/bits.deBruijn64tab", laid_math_bits_deBruijn64tab), ("internal/strconv.uint64pow10", laid_internal_strconv_uint64pow10)], narrowed := true }
def ReachAllUptoSaid : Prop := reachAllUptoRow.holds Tryz.pinned (OpenSpec.upto reachAllSpec)

end Rows
end Go.Proofs.YtofbhlhamfkljaaGreatDoor
