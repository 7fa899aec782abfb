/-
  No cell of these rows narrows 'for every input' (looked for: loops, veiled, ifaces, maps, wideKeys, modest, calm, conditions, laid).
  DERIVED. THE GIVEN ROWS OF THIS SEAT. 6 by the template 'for every input the law returns true; each argument reads behind the call as it read before'; 0 by the template 'total and deterministic' (their statements: YtjfbfhoipgldgaaTotals.lean).
  GIVEN WITH THE SEED: the statements are not yours to turn. If you find one false, say at which input.
  Laid BY PROGRAM, IN A SANDBOX (cutbox-rows.mjs): the forced cells as the released guide's own fill.sh prints them over the translation eb940c716d04b050… (all of the seat's roots in one cut). By AI agents, Wed Nov 11 2026. No macro, syntax, notation, axiom, sorry.
-/
import Derived.Test.YtjfbfhoipgldgaaChecked
import GoSem.Claim
import GoSem.ClaimJoined
import GoSem.ClaimMapViews
import Derived.JoinedTies
import Derived.KernelRfl
namespace Go.Proofs.Ytjfbfhoipgldgaa
/- THE CELL 'sum', in the pinned program and in every row, IS THE sha256 OF THE DUMP (.gsa) THAT YtjfbfhoipgldgaaProg.lean LOADS. Nothing in Lean hashes anything: it is a label: what it is worth is what the hold of that sum in a sandbox is worth. -/
noncomputable def Try.pinned : Pinned := { name := "ytjfbfhoipgldgaa", sum := "eb940c716d04b050ca5df125f71ecca4bad70b0988bf6a86c840694678cfdc9b", checked := Try.checked }
namespace Rows
def none {H : Type} : Left H := { results := [], args := [] }

/-- 'interlocutorlaw7.ChartSpans': WHATEVER THE INPUT: true; the input reads as it did. -/
def chartSpansSpec : ChangeSpec := { name := "chartSpans", fn := fun _ => fun
  | [d1, d2] => { results := [.lit (.bool true)], args := [d1, d2] }
  | _ => none }
def chartSpansRow : OpenClaim := { program := "ytjfbfhoipgldgaa", sum := "eb940c716d04b050ca5df125f71ecca4bad70b0988bf6a86c840694678cfdc9b", func := "interlocutor/interlocutorlaw7.ChartSpans", spec := "chartSpans", unfollowed := true, recurses := true, plainKeys := false, apart := false }
def ChartSpansSaid : Prop := chartSpansRow.holds Try.pinned (OpenSpec.ofChange chartSpansSpec)

/-- ITS FALSE NEIGHBOUR: 'it returns false'. Refute it at one input. -/
def chartSpansWrong : ChangeSpec := { name := "chartSpans", fn := fun _ => fun
  | [d1, d2] => { results := [.lit (.bool false)], args := [d1, d2] }
  | _ => none }
def ChartSpansWrongFalsely : Prop := chartSpansRow.holds Try.pinned (OpenSpec.ofChange chartSpansWrong)

/-- 'interlocutorlaw7.ChartPairs': WHATEVER THE INPUT: true; the input reads as it did. -/
def chartPairsSpec : ChangeSpec := { name := "chartPairs", fn := fun _ => fun
  | [d1, d2] => { results := [.lit (.bool true)], args := [d1, d2] }
  | _ => none }
def chartPairsRow : OpenClaim := { program := "ytjfbfhoipgldgaa", sum := "eb940c716d04b050ca5df125f71ecca4bad70b0988bf6a86c840694678cfdc9b", func := "interlocutor/interlocutorlaw7.ChartPairs", spec := "chartPairs", unfollowed := true, recurses := true, plainKeys := false, apart := false }
def ChartPairsSaid : Prop := chartPairsRow.holds Try.pinned (OpenSpec.ofChange chartPairsSpec)

/-- ITS FALSE NEIGHBOUR: 'it returns false'. Refute it at one input. -/
def chartPairsWrong : ChangeSpec := { name := "chartPairs", fn := fun _ => fun
  | [d1, d2] => { results := [.lit (.bool false)], args := [d1, d2] }
  | _ => none }
def ChartPairsWrongFalsely : Prop := chartPairsRow.holds Try.pinned (OpenSpec.ofChange chartPairsWrong)

/-- 'interlocutorlaw7.ChartTwice': WHATEVER THE INPUT: true; the input reads as it did. -/
def chartTwiceSpec : ChangeSpec := { name := "chartTwice", fn := fun _ => fun
  | [d1, d2, d3, d4] => { results := [.lit (.bool true)], args := [d1, d2, d3, d4] }
  | _ => none }
def chartTwiceRow : OpenClaim := { program := "ytjfbfhoipgldgaa", sum := "eb940c716d04b050ca5df125f71ecca4bad70b0988bf6a86c840694678cfdc9b", func := "interlocutor/interlocutorlaw7.ChartTwice", spec := "chartTwice", unfollowed := true, recurses := true, plainKeys := false, apart := false }
def ChartTwiceSaid : Prop := chartTwiceRow.holds Try.pinned (OpenSpec.ofChange chartTwiceSpec)

/-- ITS FALSE NEIGHBOUR: 'it returns false'. Refute it at one input. -/
def chartTwiceWrong : ChangeSpec := { name := "chartTwice", fn := fun _ => fun
  | [d1, d2, d3, d4] => { results := [.lit (.bool false)], args := [d1, d2, d3, d4] }
  | _ => none }
def ChartTwiceWrongFalsely : Prop := chartTwiceRow.holds Try.pinned (OpenSpec.ofChange chartTwiceWrong)

/-- 'interlocutorlaw7.ChartMore': WHATEVER THE INPUT: true; the input reads as it did. -/
def chartMoreSpec : ChangeSpec := { name := "chartMore", fn := fun _ => fun
  | [d1, d2, d3] => { results := [.lit (.bool true)], args := [d1, d2, d3] }
  | _ => none }
def chartMoreRow : OpenClaim := { program := "ytjfbfhoipgldgaa", sum := "eb940c716d04b050ca5df125f71ecca4bad70b0988bf6a86c840694678cfdc9b", func := "interlocutor/interlocutorlaw7.ChartMore", spec := "chartMore", unfollowed := true, recurses := true, plainKeys := false, apart := false }
def ChartMoreSaid : Prop := chartMoreRow.holds Try.pinned (OpenSpec.ofChange chartMoreSpec)

/-- ITS FALSE NEIGHBOUR: 'it returns false'. Refute it at one input. -/
def chartMoreWrong : ChangeSpec := { name := "chartMore", fn := fun _ => fun
  | [d1, d2, d3] => { results := [.lit (.bool false)], args := [d1, d2, d3] }
  | _ => none }
def ChartMoreWrongFalsely : Prop := chartMoreRow.holds Try.pinned (OpenSpec.ofChange chartMoreWrong)

/-- 'interlocutorlaw7.ChartWords': WHATEVER THE INPUT: true; the input reads as it did. -/
def chartWordsSpec : ChangeSpec := { name := "chartWords", fn := fun _ => fun
  | [d1, d2] => { results := [.lit (.bool true)], args := [d1, d2] }
  | _ => none }
def chartWordsRow : OpenClaim := { program := "ytjfbfhoipgldgaa", sum := "eb940c716d04b050ca5df125f71ecca4bad70b0988bf6a86c840694678cfdc9b", func := "interlocutor/interlocutorlaw7.ChartWords", spec := "chartWords", unfollowed := true, recurses := true, plainKeys := false, apart := false }
def ChartWordsSaid : Prop := chartWordsRow.holds Try.pinned (OpenSpec.ofChange chartWordsSpec)

/-- ITS FALSE NEIGHBOUR: 'it returns false'. Refute it at one input. -/
def chartWordsWrong : ChangeSpec := { name := "chartWords", fn := fun _ => fun
  | [d1, d2] => { results := [.lit (.bool false)], args := [d1, d2] }
  | _ => none }
def ChartWordsWrongFalsely : Prop := chartWordsRow.holds Try.pinned (OpenSpec.ofChange chartWordsWrong)

/-- 'interlocutorlaw7.ChartLeft': WHATEVER THE INPUT: true; the input reads as it did. -/
def chartLeftSpec : ChangeSpec := { name := "chartLeft", fn := fun _ => fun
  | [d1, d2] => { results := [.lit (.bool true)], args := [d1, d2] }
  | _ => none }
def chartLeftRow : OpenClaim := { program := "ytjfbfhoipgldgaa", sum := "eb940c716d04b050ca5df125f71ecca4bad70b0988bf6a86c840694678cfdc9b", func := "interlocutor/interlocutorlaw7.ChartLeft", spec := "chartLeft", unfollowed := true, recurses := true, plainKeys := false, apart := false }
def ChartLeftSaid : Prop := chartLeftRow.holds Try.pinned (OpenSpec.ofChange chartLeftSpec)

/-- ITS FALSE NEIGHBOUR: 'it returns false'. Refute it at one input. -/
def chartLeftWrong : ChangeSpec := { name := "chartLeft", fn := fun _ => fun
  | [d1, d2] => { results := [.lit (.bool false)], args := [d1, d2] }
  | _ => none }
def ChartLeftWrongFalsely : Prop := chartLeftRow.holds Try.pinned (OpenSpec.ofChange chartLeftWrong)

/- THE SECOND FORM. 'bulk': how many values and letters a reading holds, each counted each time it is reached (what is shared counts as often as it is met; a slice's spare places count too). A statement '..UptoSaid' is the law's where the arguments, and the package variables that the reading takes, are together of bulk at most 1048576: NARROWER than '..Said'. Prove '..Said' where nothing that the law and all that it calls make is longer than what came in: it says more and counts as full. Else prove '..UptoSaid'. A law counts once. -/
mutual
def uptoBulk {H : Type} : DataW H → Nat
  | .lit (.string bytes) => bytes.length + 1
  | .lit _ => 1
  | .nil => 1
  | .ptr d => uptoBulk d + 1
  | .slice elems spare => uptoBulkAll elems + uptoBulkAll spare + 1
  | .agg parts => uptoBulkAll parts + 1
  | .iface _ d => uptoBulk d + 1
  | .map entries => uptoBulkEntries entries + 1
  | .held _ => 1
def uptoBulkAll {H : Type} : List (DataW H) → Nat
  | [] => 0
  | d :: r => uptoBulk d + uptoBulkAll r
def uptoBulkEntries {H : Type} : List (Lit × DataW H) → Nat
  | [] => 0
  | x :: r => uptoBulkEntry x + uptoBulkEntries r
def uptoBulkEntry {H : Type} : Lit × DataW H → Nat
  | (.string bytes, d) => bytes.length + uptoBulk d + 1
  | (_, d) => uptoBulk d + 1
 end
def uptoSmall : (H : Type) → List (DataW H) → Bool := fun _ ds => decide (uptoBulkAll ds ≤ 1048576)
def OpenSpec.upto (s : _root_.Go.ChangeSpec) : _root_.Go.OpenSpec := { _root_.Go.OpenSpec.ofChange s with cond := some uptoSmall }

/-- 'interlocutorlaw7.ChartSpans', WHERE WHAT IT READS IS OF BULK AT MOST 1048576: true; the input reads as it did. -/
def chartSpansUptoRow : OpenClaim := { program := "ytjfbfhoipgldgaa", sum := "eb940c716d04b050ca5df125f71ecca4bad70b0988bf6a86c840694678cfdc9b", func := "interlocutor/interlocutorlaw7.ChartSpans", spec := "chartSpans", unfollowed := true, recurses := true, plainKeys := false, apart := false, narrowed := true }
def ChartSpansUptoSaid : Prop := chartSpansUptoRow.holds Try.pinned (OpenSpec.upto chartSpansSpec)

/-- 'interlocutorlaw7.ChartPairs', WHERE WHAT IT READS IS OF BULK AT MOST 1048576: true; the input reads as it did. -/
def chartPairsUptoRow : OpenClaim := { program := "ytjfbfhoipgldgaa", sum := "eb940c716d04b050ca5df125f71ecca4bad70b0988bf6a86c840694678cfdc9b", func := "interlocutor/interlocutorlaw7.ChartPairs", spec := "chartPairs", unfollowed := true, recurses := true, plainKeys := false, apart := false, narrowed := true }
def ChartPairsUptoSaid : Prop := chartPairsUptoRow.holds Try.pinned (OpenSpec.upto chartPairsSpec)

/-- 'interlocutorlaw7.ChartTwice', WHERE WHAT IT READS IS OF BULK AT MOST 1048576: true; the input reads as it did. -/
def chartTwiceUptoRow : OpenClaim := { program := "ytjfbfhoipgldgaa", sum := "eb940c716d04b050ca5df125f71ecca4bad70b0988bf6a86c840694678cfdc9b", func := "interlocutor/interlocutorlaw7.ChartTwice", spec := "chartTwice", unfollowed := true, recurses := true, plainKeys := false, apart := false, narrowed := true }
def ChartTwiceUptoSaid : Prop := chartTwiceUptoRow.holds Try.pinned (OpenSpec.upto chartTwiceSpec)

/-- 'interlocutorlaw7.ChartMore', WHERE WHAT IT READS IS OF BULK AT MOST 1048576: true; the input reads as it did. -/
def chartMoreUptoRow : OpenClaim := { program := "ytjfbfhoipgldgaa", sum := "eb940c716d04b050ca5df125f71ecca4bad70b0988bf6a86c840694678cfdc9b", func := "interlocutor/interlocutorlaw7.ChartMore", spec := "chartMore", unfollowed := true, recurses := true, plainKeys := false, apart := false, narrowed := true }
def ChartMoreUptoSaid : Prop := chartMoreUptoRow.holds Try.pinned (OpenSpec.upto chartMoreSpec)

/-- 'interlocutorlaw7.ChartWords', WHERE WHAT IT READS IS OF BULK AT MOST 1048576: true; the input reads as it did. -/
def chartWordsUptoRow : OpenClaim := { program := "ytjfbfhoipgldgaa", sum := "eb940c716d04b050ca5df125f71ecca4bad70b0988bf6a86c840694678cfdc9b", func := "interlocutor/interlocutorlaw7.ChartWords", spec := "chartWords", unfollowed := true, recurses := true, plainKeys := false, apart := false, narrowed := true }
def ChartWordsUptoSaid : Prop := chartWordsUptoRow.holds Try.pinned (OpenSpec.upto chartWordsSpec)

/-- 'interlocutorlaw7.ChartLeft', WHERE WHAT IT READS IS OF BULK AT MOST 1048576: true; the input reads as it did. -/
def chartLeftUptoRow : OpenClaim := { program := "ytjfbfhoipgldgaa", sum := "eb940c716d04b050ca5df125f71ecca4bad70b0988bf6a86c840694678cfdc9b", func := "interlocutor/interlocutorlaw7.ChartLeft", spec := "chartLeft", unfollowed := true, recurses := true, plainKeys := false, apart := false, narrowed := true }
def ChartLeftUptoSaid : Prop := chartLeftUptoRow.holds Try.pinned (OpenSpec.upto chartLeftSpec)

end Rows
end Go.Proofs.Ytjfbfhoipgldgaa
