/-
  No cell of these rows narrows 'for every input' (looked for: loops, veiled, ifaces, maps, wideKeys, modest, calm, conditions, laid).
  DERIVED. THE GIVEN ROWS OF THIS SEAT. 4 by the template 'for every input the law returns true; each argument reads behind the call as it read before'; 0 by the template 'total and deterministic' (their statements: YtcpolfjnbbodgaaTotals.lean).
  GIVEN WITH THE SEED: the statements are not yours to turn. If you find one false, say at which input.
  Laid BY PROGRAM, IN A SANDBOX (cutbox-rows.mjs): the forced cells as the released guide's own fill.sh prints them over the translation f1b53157cf2f0e04… (all of the seat's roots in one cut). By AI agents, Wed Nov 11 2026. No macro, syntax, notation, axiom, sorry.
-/
import Derived.Test.YtcpolfjnbbodgaaChecked
import GoSem.Claim
import GoSem.ClaimJoined
import GoSem.ClaimMapViews
import Derived.JoinedTies
import Derived.KernelRfl
namespace Go.Proofs.Ytcpolfjnbbodgaa
/- THE CELL 'sum', in the pinned program and in every row, IS THE sha256 OF THE DUMP (.gsa) THAT YtcpolfjnbbodgaaProg.lean LOADS. Nothing in Lean hashes anything: it is a label: what it is worth is what the hold of that sum in a sandbox is worth. -/
noncomputable def Try.pinned : Pinned := { name := "ytcpolfjnbbodgaa", sum := "f1b53157cf2f0e046816c784fd01fae5342e67b6539c0357e309d6cca560e2a9", checked := Try.checked }
namespace Rows
def none {H : Type} : Left H := { results := [], args := [] }

/-- 'oriellaw09.WordBegins': WHATEVER THE INPUT: true; the input reads as it did. -/
def wordBeginsSpec : ChangeSpec := { name := "wordBegins", fn := fun _ => fun
  | [d] => { results := [.lit (.bool true)], args := [d] }
  | _ => none }
def wordBeginsRow : OpenClaim := { program := "ytcpolfjnbbodgaa", sum := "f1b53157cf2f0e046816c784fd01fae5342e67b6539c0357e309d6cca560e2a9", func := "oriel/oriellaw09.WordBegins", spec := "wordBegins", unfollowed := true, recurses := true, plainKeys := false, apart := false }
def WordBeginsSaid : Prop := wordBeginsRow.holds Try.pinned (OpenSpec.ofChange wordBeginsSpec)

/-- ITS FALSE NEIGHBOUR: 'it returns false'. Refute it at one input. -/
def wordBeginsWrong : ChangeSpec := { name := "wordBegins", fn := fun _ => fun
  | [d] => { results := [.lit (.bool false)], args := [d] }
  | _ => none }
def WordBeginsWrongFalsely : Prop := wordBeginsRow.holds Try.pinned (OpenSpec.ofChange wordBeginsWrong)

/-- 'oriellaw09.WordPrefixes': WHATEVER THE INPUT: true; the input reads as it did. -/
def wordPrefixesSpec : ChangeSpec := { name := "wordPrefixes", fn := fun _ => fun
  | [d1, d2] => { results := [.lit (.bool true)], args := [d1, d2] }
  | _ => none }
def wordPrefixesRow : OpenClaim := { program := "ytcpolfjnbbodgaa", sum := "f1b53157cf2f0e046816c784fd01fae5342e67b6539c0357e309d6cca560e2a9", func := "oriel/oriellaw09.WordPrefixes", spec := "wordPrefixes", unfollowed := true, recurses := true, plainKeys := false, apart := false }
def WordPrefixesSaid : Prop := wordPrefixesRow.holds Try.pinned (OpenSpec.ofChange wordPrefixesSpec)

/-- ITS FALSE NEIGHBOUR: 'it returns false'. Refute it at one input. -/
def wordPrefixesWrong : ChangeSpec := { name := "wordPrefixes", fn := fun _ => fun
  | [d1, d2] => { results := [.lit (.bool false)], args := [d1, d2] }
  | _ => none }
def WordPrefixesWrongFalsely : Prop := wordPrefixesRow.holds Try.pinned (OpenSpec.ofChange wordPrefixesWrong)

/-- 'oriellaw09.WordKeeps': WHATEVER THE INPUT: true; the input reads as it did. -/
def wordKeepsSpec : ChangeSpec := { name := "wordKeeps", fn := fun _ => fun
  | [d] => { results := [.lit (.bool true)], args := [d] }
  | _ => none }
def wordKeepsRow : OpenClaim := { program := "ytcpolfjnbbodgaa", sum := "f1b53157cf2f0e046816c784fd01fae5342e67b6539c0357e309d6cca560e2a9", func := "oriel/oriellaw09.WordKeeps", spec := "wordKeeps", unfollowed := true, recurses := true, plainKeys := false, apart := false }
def WordKeepsSaid : Prop := wordKeepsRow.holds Try.pinned (OpenSpec.ofChange wordKeepsSpec)

/-- ITS FALSE NEIGHBOUR: 'it returns false'. Refute it at one input. -/
def wordKeepsWrong : ChangeSpec := { name := "wordKeeps", fn := fun _ => fun
  | [d] => { results := [.lit (.bool false)], args := [d] }
  | _ => none }
def WordKeepsWrongFalsely : Prop := wordKeepsRow.holds Try.pinned (OpenSpec.ofChange wordKeepsWrong)

/-- 'oriellaw09.WordRights': WHATEVER THE INPUT: true; the input reads as it did. -/
def wordRightsSpec : ChangeSpec := { name := "wordRights", fn := fun _ => fun
  | [d1, d2] => { results := [.lit (.bool true)], args := [d1, d2] }
  | _ => none }
def wordRightsRow : OpenClaim := { program := "ytcpolfjnbbodgaa", sum := "f1b53157cf2f0e046816c784fd01fae5342e67b6539c0357e309d6cca560e2a9", func := "oriel/oriellaw09.WordRights", spec := "wordRights", unfollowed := true, recurses := true, plainKeys := false, apart := false }
def WordRightsSaid : Prop := wordRightsRow.holds Try.pinned (OpenSpec.ofChange wordRightsSpec)

/-- ITS FALSE NEIGHBOUR: 'it returns false'. Refute it at one input. -/
def wordRightsWrong : ChangeSpec := { name := "wordRights", fn := fun _ => fun
  | [d1, d2] => { results := [.lit (.bool false)], args := [d1, d2] }
  | _ => none }
def WordRightsWrongFalsely : Prop := wordRightsRow.holds Try.pinned (OpenSpec.ofChange wordRightsWrong)

/- THE SECOND FORM. 'bulk': how many values and letters a reading holds, each counted each time it is reached (what is shared counts as often as it is met; a slice's spare places count too). A statement '..UptoSaid' is the law's where the arguments, and the package variables that the reading takes, are together of bulk at most 1048576: NARROWER than '..Said'. Prove '..Said' where nothing that the law and all that it calls make is longer than what came in: it says more and counts as full. Else prove '..UptoSaid'. A law counts once. -/
mutual
def uptoBulk {H : Type} : DataW H → Nat
  | .lit (.string bytes) => bytes.length + 1
  | .lit _ => 1
  | .nil => 1
  | .ptr d => uptoBulk d + 1
  | .slice elems spare => uptoBulkAll elems + uptoBulkAll spare + 1
  | .agg parts => uptoBulkAll parts + 1
  | .iface _ d => uptoBulk d + 1
  | .map entries => uptoBulkEntries entries + 1
  | .held _ => 1
def uptoBulkAll {H : Type} : List (DataW H) → Nat
  | [] => 0
  | d :: r => uptoBulk d + uptoBulkAll r
def uptoBulkEntries {H : Type} : List (Lit × DataW H) → Nat
  | [] => 0
  | x :: r => uptoBulkEntry x + uptoBulkEntries r
def uptoBulkEntry {H : Type} : Lit × DataW H → Nat
  | (.string bytes, d) => bytes.length + uptoBulk d + 1
  | (_, d) => uptoBulk d + 1
 end
def uptoSmall : (H : Type) → List (DataW H) → Bool := fun _ ds => decide (uptoBulkAll ds ≤ 1048576)
def OpenSpec.upto (s : _root_.Go.ChangeSpec) : _root_.Go.OpenSpec := { _root_.Go.OpenSpec.ofChange s with cond := some uptoSmall }

/-- 'oriellaw09.WordBegins', WHERE WHAT IT READS IS OF BULK AT MOST 1048576: true; the input reads as it did. -/
def wordBeginsUptoRow : OpenClaim := { program := "ytcpolfjnbbodgaa", sum := "f1b53157cf2f0e046816c784fd01fae5342e67b6539c0357e309d6cca560e2a9", func := "oriel/oriellaw09.WordBegins", spec := "wordBegins", unfollowed := true, recurses := true, plainKeys := false, apart := false, narrowed := true }
def WordBeginsUptoSaid : Prop := wordBeginsUptoRow.holds Try.pinned (OpenSpec.upto wordBeginsSpec)

/-- 'oriellaw09.WordPrefixes', WHERE WHAT IT READS IS OF BULK AT MOST 1048576: true; the input reads as it did. -/
def wordPrefixesUptoRow : OpenClaim := { program := "ytcpolfjnbbodgaa", sum := "f1b53157cf2f0e046816c784fd01fae5342e67b6539c0357e309d6cca560e2a9", func := "oriel/oriellaw09.WordPrefixes", spec := "wordPrefixes", unfollowed := true, recurses := true, plainKeys := false, apart := false, narrowed := true }
def WordPrefixesUptoSaid : Prop := wordPrefixesUptoRow.holds Try.pinned (OpenSpec.upto wordPrefixesSpec)

/-- 'oriellaw09.WordKeeps', WHERE WHAT IT READS IS OF BULK AT MOST 1048576: true; the input reads as it did. -/
def wordKeepsUptoRow : OpenClaim := { program := "ytcpolfjnbbodgaa", sum := "f1b53157cf2f0e046816c784fd01fae5342e67b6539c0357e309d6cca560e2a9", func := "oriel/oriellaw09.WordKeeps", spec := "wordKeeps", unfollowed := true, recurses := true, plainKeys := false, apart := false, narrowed := true }
def WordKeepsUptoSaid : Prop := wordKeepsUptoRow.holds Try.pinned (OpenSpec.upto wordKeepsSpec)

/-- 'oriellaw09.WordRights', WHERE WHAT IT READS IS OF BULK AT MOST 1048576: true; the input reads as it did. -/
def wordRightsUptoRow : OpenClaim := { program := "ytcpolfjnbbodgaa", sum := "f1b53157cf2f0e046816c784fd01fae5342e67b6539c0357e309d6cca560e2a9", func := "oriel/oriellaw09.WordRights", spec := "wordRights", unfollowed := true, recurses := true, plainKeys := false, apart := false, narrowed := true }
def WordRightsUptoSaid : Prop := wordRightsUptoRow.holds Try.pinned (OpenSpec.upto wordRightsSpec)

end Rows
end Go.Proofs.Ytcpolfjnbbodgaa
