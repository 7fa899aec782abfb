/-
  No cell of these rows narrows 'for every input' (looked for: loops, veiled, ifaces, maps, wideKeys, modest, calm, conditions, laid).
  DERIVED. THE GIVEN ROWS OF THIS SEAT. 2 by the template 'for every input the law returns true; each argument reads behind the call as it read before'; 0 by the template 'total and deterministic' (their statements: YtjfbfhoipgldgaaGreatTotals.lean).
  GIVEN WITH THE SEED: the statements are not yours to turn. If you find one false, say at which input.
  Laid BY PROGRAM, IN A SANDBOX (cutbox-rows.mjs): the forced cells as the released guide's own fill.sh prints them over the translation 21aa185dfa97aa80… (all of the seat's roots in one cut). By AI agents, Wed Nov 11 2026. No macro, syntax, notation, axiom, sorry.
-/
import Derived.Test.YtjfbfhoipgldgaaGreatChecked
import GoSem.Claim
import GoSem.ClaimJoined
import GoSem.ClaimMapViews
import Derived.JoinedTies
import Derived.KernelRfl
namespace Go.Proofs.YtjfbfhoipgldgaaGreat
/- THE CELL 'sum', in the pinned program and in every row, IS THE sha256 OF THE DUMP (.gsa) THAT YtjfbfhoipgldgaaGreatProg.lean LOADS. Nothing in Lean hashes anything: it is a label: what it is worth is what the hold of that sum in a sandbox is worth. -/
noncomputable def Tryz.pinned : Pinned := { name := "ytjfbfhoipgldgaagreat", sum := "21aa185dfa97aa80f060a72ccbac67bbbe27d52dda4215e40ebf6bbc433c5edd", checked := Tryz.checked }
namespace Rows
def none {H : Type} : Left H := { results := [], args := [] }

/-- 'interlocutorlaw7.ChartRules': WHATEVER THE INPUT: true; the input reads as it did. -/
def chartRulesSpec : ChangeSpec := { name := "chartRules", fn := fun _ => fun
  | [d1, d2, d3] => { results := [.lit (.bool true)], args := [d1, d2, d3] }
  | _ => none }
def chartRulesRow : OpenClaim := { program := "ytjfbfhoipgldgaagreat", sum := "21aa185dfa97aa80f060a72ccbac67bbbe27d52dda4215e40ebf6bbc433c5edd", func := "interlocutor/interlocutorlaw7.ChartRules", spec := "chartRules", unfollowed := true, recurses := true, plainKeys := false, apart := false }
def ChartRulesSaid : Prop := chartRulesRow.holds Tryz.pinned (OpenSpec.ofChange chartRulesSpec)

/-- ITS FALSE NEIGHBOUR: 'it returns false'. Refute it at one input. -/
def chartRulesWrong : ChangeSpec := { name := "chartRules", fn := fun _ => fun
  | [d1, d2, d3] => { results := [.lit (.bool false)], args := [d1, d2, d3] }
  | _ => none }
def ChartRulesWrongFalsely : Prop := chartRulesRow.holds Tryz.pinned (OpenSpec.ofChange chartRulesWrong)

/-- 'interlocutorlaw7.ChartOwn': WHATEVER THE INPUT: true; the input reads as it did. -/
def chartOwnSpec : ChangeSpec := { name := "chartOwn", fn := fun _ => fun
  | [d1, d2, d3] => { results := [.lit (.bool true)], args := [d1, d2, d3] }
  | _ => none }
def chartOwnRow : OpenClaim := { program := "ytjfbfhoipgldgaagreat", sum := "21aa185dfa97aa80f060a72ccbac67bbbe27d52dda4215e40ebf6bbc433c5edd", func := "interlocutor/interlocutorlaw7.ChartOwn", spec := "chartOwn", unfollowed := true, recurses := true, plainKeys := false, apart := false }
def ChartOwnSaid : Prop := chartOwnRow.holds Tryz.pinned (OpenSpec.ofChange chartOwnSpec)

/-- ITS FALSE NEIGHBOUR: 'it returns false'. Refute it at one input. -/
def chartOwnWrong : ChangeSpec := { name := "chartOwn", fn := fun _ => fun
  | [d1, d2, d3] => { results := [.lit (.bool false)], args := [d1, d2, d3] }
  | _ => none }
def ChartOwnWrongFalsely : Prop := chartOwnRow.holds Tryz.pinned (OpenSpec.ofChange chartOwnWrong)

/- THE SECOND FORM. 'bulk': how many values and letters a reading holds, each counted each time it is reached (what is shared counts as often as it is met; a slice's spare places count too). A statement '..UptoSaid' is the law's where the arguments, and the package variables that the reading takes, are together of bulk at most 1048576: NARROWER than '..Said'. Prove '..Said' where nothing that the law and all that it calls make is longer than what came in: it says more and counts as full. Else prove '..UptoSaid'. A law counts once. -/
mutual
def uptoBulk {H : Type} : DataW H → Nat
  | .lit (.string bytes) => bytes.length + 1
  | .lit _ => 1
  | .nil => 1
  | .ptr d => uptoBulk d + 1
  | .slice elems spare => uptoBulkAll elems + uptoBulkAll spare + 1
  | .agg parts => uptoBulkAll parts + 1
  | .iface _ d => uptoBulk d + 1
  | .map entries => uptoBulkEntries entries + 1
  | .held _ => 1
def uptoBulkAll {H : Type} : List (DataW H) → Nat
  | [] => 0
  | d :: r => uptoBulk d + uptoBulkAll r
def uptoBulkEntries {H : Type} : List (Lit × DataW H) → Nat
  | [] => 0
  | x :: r => uptoBulkEntry x + uptoBulkEntries r
def uptoBulkEntry {H : Type} : Lit × DataW H → Nat
  | (.string bytes, d) => bytes.length + uptoBulk d + 1
  | (_, d) => uptoBulk d + 1
 end
def uptoSmall : (H : Type) → List (DataW H) → Bool := fun _ ds => decide (uptoBulkAll ds ≤ 1048576)
def OpenSpec.upto (s : _root_.Go.ChangeSpec) : _root_.Go.OpenSpec := { _root_.Go.OpenSpec.ofChange s with cond := some uptoSmall }

/-- 'interlocutorlaw7.ChartRules', WHERE WHAT IT READS IS OF BULK AT MOST 1048576: true; the input reads as it did. -/
def chartRulesUptoRow : OpenClaim := { program := "ytjfbfhoipgldgaagreat", sum := "21aa185dfa97aa80f060a72ccbac67bbbe27d52dda4215e40ebf6bbc433c5edd", func := "interlocutor/interlocutorlaw7.ChartRules", spec := "chartRules", unfollowed := true, recurses := true, plainKeys := false, apart := false, narrowed := true }
def ChartRulesUptoSaid : Prop := chartRulesUptoRow.holds Tryz.pinned (OpenSpec.upto chartRulesSpec)

/-- 'interlocutorlaw7.ChartOwn', WHERE WHAT IT READS IS OF BULK AT MOST 1048576: true; the input reads as it did. -/
def chartOwnUptoRow : OpenClaim := { program := "ytjfbfhoipgldgaagreat", sum := "21aa185dfa97aa80f060a72ccbac67bbbe27d52dda4215e40ebf6bbc433c5edd", func := "interlocutor/interlocutorlaw7.ChartOwn", spec := "chartOwn", unfollowed := true, recurses := true, plainKeys := false, apart := false, narrowed := true }
def ChartOwnUptoSaid : Prop := chartOwnUptoRow.holds Tryz.pinned (OpenSpec.upto chartOwnSpec)

end Rows
end Go.Proofs.YtjfbfhoipgldgaaGreat
