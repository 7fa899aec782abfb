/-
  No cell of these rows narrows 'for every input' (looked for: loops, veiled, ifaces, maps, wideKeys, modest, calm, conditions, laid).
  DERIVED. THE GIVEN ROWS OF THIS SEAT. 10 by the template 'for every input the law returns true; each argument reads behind the call as it read before'; 0 by the template 'total and deterministic' (their statements: YtjomlfdkmdgclaaTotals.lean).
  GIVEN WITH THE SEED: the statements are not yours to turn. If you find one false, say at which input.
  Laid BY PROGRAM, IN A SANDBOX (cutbox-rows.mjs): the forced cells as the released guide's own fill.sh prints them over the translation 617e1f6ad7b53c73… (all of the seat's roots in one cut). By AI agents, Wed Nov 11 2026. No macro, syntax, notation, axiom, sorry.
-/
import Derived.Test.YtjomlfdkmdgclaaChecked
import GoSem.Claim
import GoSem.ClaimJoined
import GoSem.ClaimMapViews
import Derived.JoinedTies
import Derived.KernelRfl
namespace Go.Proofs.Ytjomlfdkmdgclaa
/- THE CELL 'sum', in the pinned program and in every row, IS THE sha256 OF THE DUMP (.gsa) THAT YtjomlfdkmdgclaaProg.lean LOADS. Nothing in Lean hashes anything: it is a label: what it is worth is what the hold of that sum in a sandbox is worth. -/
noncomputable def Try.pinned : Pinned := { name := "ytjomlfdkmdgclaa", sum := "617e1f6ad7b53c7387f6570dfe1d019b30ae6fd593dafa9c3e162fde5dadd27c", checked := Try.checked }
namespace Rows
def none {H : Type} : Left H := { results := [], args := [] }

/-- 'interlocutorlaw4.GramRight': WHATEVER THE INPUT: true; the input reads as it did. -/
def gramRightSpec : ChangeSpec := { name := "gramRight", fn := fun _ => fun
  | [d1, d2, d3, d4] => { results := [.lit (.bool true)], args := [d1, d2, d3, d4] }
  | _ => none }
def gramRightRow : OpenClaim := { program := "ytjomlfdkmdgclaa", sum := "617e1f6ad7b53c7387f6570dfe1d019b30ae6fd593dafa9c3e162fde5dadd27c", func := "interlocutor/interlocutorlaw4.GramRight", spec := "gramRight", unfollowed := true, recurses := true, plainKeys := false, apart := false }
def GramRightSaid : Prop := gramRightRow.holds Try.pinned (OpenSpec.ofChange gramRightSpec)

/-- ITS FALSE NEIGHBOUR: 'it returns false'. Refute it at one input. -/
def gramRightWrong : ChangeSpec := { name := "gramRight", fn := fun _ => fun
  | [d1, d2, d3, d4] => { results := [.lit (.bool false)], args := [d1, d2, d3, d4] }
  | _ => none }
def GramRightWrongFalsely : Prop := gramRightRow.holds Try.pinned (OpenSpec.ofChange gramRightWrong)

/-- 'interlocutorlaw4.GramChecks': WHATEVER THE INPUT: true; the input reads as it did. -/
def gramChecksSpec : ChangeSpec := { name := "gramChecks", fn := fun _ => fun
  | [d1, d2, d3] => { results := [.lit (.bool true)], args := [d1, d2, d3] }
  | _ => none }
def gramChecksRow : OpenClaim := { program := "ytjomlfdkmdgclaa", sum := "617e1f6ad7b53c7387f6570dfe1d019b30ae6fd593dafa9c3e162fde5dadd27c", func := "interlocutor/interlocutorlaw4.GramChecks", spec := "gramChecks", unfollowed := true, recurses := true, plainKeys := false, apart := false }
def GramChecksSaid : Prop := gramChecksRow.holds Try.pinned (OpenSpec.ofChange gramChecksSpec)

/-- ITS FALSE NEIGHBOUR: 'it returns false'. Refute it at one input. -/
def gramChecksWrong : ChangeSpec := { name := "gramChecks", fn := fun _ => fun
  | [d1, d2, d3] => { results := [.lit (.bool false)], args := [d1, d2, d3] }
  | _ => none }
def GramChecksWrongFalsely : Prop := gramChecksRow.holds Try.pinned (OpenSpec.ofChange gramChecksWrong)

/-- 'interlocutorlaw4.GramRounds': WHATEVER THE INPUT: true; the input reads as it did. -/
def gramRoundsSpec : ChangeSpec := { name := "gramRounds", fn := fun _ => fun
  | [d1, d2, d3] => { results := [.lit (.bool true)], args := [d1, d2, d3] }
  | _ => none }
def gramRoundsRow : OpenClaim := { program := "ytjomlfdkmdgclaa", sum := "617e1f6ad7b53c7387f6570dfe1d019b30ae6fd593dafa9c3e162fde5dadd27c", func := "interlocutor/interlocutorlaw4.GramRounds", spec := "gramRounds", unfollowed := true, recurses := true, plainKeys := false, apart := false }
def GramRoundsSaid : Prop := gramRoundsRow.holds Try.pinned (OpenSpec.ofChange gramRoundsSpec)

/-- ITS FALSE NEIGHBOUR: 'it returns false'. Refute it at one input. -/
def gramRoundsWrong : ChangeSpec := { name := "gramRounds", fn := fun _ => fun
  | [d1, d2, d3] => { results := [.lit (.bool false)], args := [d1, d2, d3] }
  | _ => none }
def GramRoundsWrongFalsely : Prop := gramRoundsRow.holds Try.pinned (OpenSpec.ofChange gramRoundsWrong)

/-- 'interlocutorlaw4.GramMany': WHATEVER THE INPUT: true; the input reads as it did. -/
def gramManySpec : ChangeSpec := { name := "gramMany", fn := fun _ => fun
  | [d] => { results := [.lit (.bool true)], args := [d] }
  | _ => none }
def gramManyRow : OpenClaim := { program := "ytjomlfdkmdgclaa", sum := "617e1f6ad7b53c7387f6570dfe1d019b30ae6fd593dafa9c3e162fde5dadd27c", func := "interlocutor/interlocutorlaw4.GramMany", spec := "gramMany", unfollowed := true, recurses := true, plainKeys := false, apart := false }
def GramManySaid : Prop := gramManyRow.holds Try.pinned (OpenSpec.ofChange gramManySpec)

/-- ITS FALSE NEIGHBOUR: 'it returns false'. Refute it at one input. -/
def gramManyWrong : ChangeSpec := { name := "gramMany", fn := fun _ => fun
  | [d] => { results := [.lit (.bool false)], args := [d] }
  | _ => none }
def GramManyWrongFalsely : Prop := gramManyRow.holds Try.pinned (OpenSpec.ofChange gramManyWrong)

/-- 'interlocutorlaw4.GramReach': WHATEVER THE INPUT: true; the input reads as it did. -/
def gramReachSpec : ChangeSpec := { name := "gramReach", fn := fun _ => fun
  | [d1, d2] => { results := [.lit (.bool true)], args := [d1, d2] }
  | _ => none }
def gramReachRow : OpenClaim := { program := "ytjomlfdkmdgclaa", sum := "617e1f6ad7b53c7387f6570dfe1d019b30ae6fd593dafa9c3e162fde5dadd27c", func := "interlocutor/interlocutorlaw4.GramReach", spec := "gramReach", unfollowed := true, recurses := true, plainKeys := false, apart := false }
def GramReachSaid : Prop := gramReachRow.holds Try.pinned (OpenSpec.ofChange gramReachSpec)

/-- ITS FALSE NEIGHBOUR: 'it returns false'. Refute it at one input. -/
def gramReachWrong : ChangeSpec := { name := "gramReach", fn := fun _ => fun
  | [d1, d2] => { results := [.lit (.bool false)], args := [d1, d2] }
  | _ => none }
def GramReachWrongFalsely : Prop := gramReachRow.holds Try.pinned (OpenSpec.ofChange gramReachWrong)

/-- 'interlocutorlaw4.GramOrder': WHATEVER THE INPUT: true; the input reads as it did. -/
def gramOrderSpec : ChangeSpec := { name := "gramOrder", fn := fun _ => fun
  | [d1, d2, d3] => { results := [.lit (.bool true)], args := [d1, d2, d3] }
  | _ => none }
def gramOrderRow : OpenClaim := { program := "ytjomlfdkmdgclaa", sum := "617e1f6ad7b53c7387f6570dfe1d019b30ae6fd593dafa9c3e162fde5dadd27c", func := "interlocutor/interlocutorlaw4.GramOrder", spec := "gramOrder", unfollowed := true, recurses := true, plainKeys := false, apart := false }
def GramOrderSaid : Prop := gramOrderRow.holds Try.pinned (OpenSpec.ofChange gramOrderSpec)

/-- ITS FALSE NEIGHBOUR: 'it returns false'. Refute it at one input. -/
def gramOrderWrong : ChangeSpec := { name := "gramOrder", fn := fun _ => fun
  | [d1, d2, d3] => { results := [.lit (.bool false)], args := [d1, d2, d3] }
  | _ => none }
def GramOrderWrongFalsely : Prop := gramOrderRow.holds Try.pinned (OpenSpec.ofChange gramOrderWrong)

/-- 'interlocutorlaw4.GramFewer': WHATEVER THE INPUT: true; the input reads as it did. -/
def gramFewerSpec : ChangeSpec := { name := "gramFewer", fn := fun _ => fun
  | [d1, d2, d3] => { results := [.lit (.bool true)], args := [d1, d2, d3] }
  | _ => none }
def gramFewerRow : OpenClaim := { program := "ytjomlfdkmdgclaa", sum := "617e1f6ad7b53c7387f6570dfe1d019b30ae6fd593dafa9c3e162fde5dadd27c", func := "interlocutor/interlocutorlaw4.GramFewer", spec := "gramFewer", unfollowed := true, recurses := true, plainKeys := false, apart := false }
def GramFewerSaid : Prop := gramFewerRow.holds Try.pinned (OpenSpec.ofChange gramFewerSpec)

/-- ITS FALSE NEIGHBOUR: 'it returns false'. Refute it at one input. -/
def gramFewerWrong : ChangeSpec := { name := "gramFewer", fn := fun _ => fun
  | [d1, d2, d3] => { results := [.lit (.bool false)], args := [d1, d2, d3] }
  | _ => none }
def GramFewerWrongFalsely : Prop := gramFewerRow.holds Try.pinned (OpenSpec.ofChange gramFewerWrong)

/-- 'interlocutorlaw4.GramUnits': WHATEVER THE INPUT: true; the input reads as it did. -/
def gramUnitsSpec : ChangeSpec := { name := "gramUnits", fn := fun _ => fun
  | [d1, d2] => { results := [.lit (.bool true)], args := [d1, d2] }
  | _ => none }
def gramUnitsRow : OpenClaim := { program := "ytjomlfdkmdgclaa", sum := "617e1f6ad7b53c7387f6570dfe1d019b30ae6fd593dafa9c3e162fde5dadd27c", func := "interlocutor/interlocutorlaw4.GramUnits", spec := "gramUnits", unfollowed := true, recurses := true, plainKeys := false, apart := false }
def GramUnitsSaid : Prop := gramUnitsRow.holds Try.pinned (OpenSpec.ofChange gramUnitsSpec)

/-- ITS FALSE NEIGHBOUR: 'it returns false'. Refute it at one input. -/
def gramUnitsWrong : ChangeSpec := { name := "gramUnits", fn := fun _ => fun
  | [d1, d2] => { results := [.lit (.bool false)], args := [d1, d2] }
  | _ => none }
def GramUnitsWrongFalsely : Prop := gramUnitsRow.holds Try.pinned (OpenSpec.ofChange gramUnitsWrong)

/-- 'interlocutorlaw4.GramActs': WHATEVER THE INPUT: true; the input reads as it did. -/
def gramActsSpec : ChangeSpec := { name := "gramActs", fn := fun _ => fun
  | [d1, d2, d3] => { results := [.lit (.bool true)], args := [d1, d2, d3] }
  | _ => none }
def gramActsRow : OpenClaim := { program := "ytjomlfdkmdgclaa", sum := "617e1f6ad7b53c7387f6570dfe1d019b30ae6fd593dafa9c3e162fde5dadd27c", func := "interlocutor/interlocutorlaw4.GramActs", spec := "gramActs", unfollowed := true, recurses := true, plainKeys := false, apart := false }
def GramActsSaid : Prop := gramActsRow.holds Try.pinned (OpenSpec.ofChange gramActsSpec)

/-- ITS FALSE NEIGHBOUR: 'it returns false'. Refute it at one input. -/
def gramActsWrong : ChangeSpec := { name := "gramActs", fn := fun _ => fun
  | [d1, d2, d3] => { results := [.lit (.bool false)], args := [d1, d2, d3] }
  | _ => none }
def GramActsWrongFalsely : Prop := gramActsRow.holds Try.pinned (OpenSpec.ofChange gramActsWrong)

/-- 'interlocutorlaw4.GramOwn': WHATEVER THE INPUT: true; the input reads as it did. -/
def gramOwnSpec : ChangeSpec := { name := "gramOwn", fn := fun _ => fun
  | [d1, d2, d3] => { results := [.lit (.bool true)], args := [d1, d2, d3] }
  | _ => none }
def gramOwnRow : OpenClaim := { program := "ytjomlfdkmdgclaa", sum := "617e1f6ad7b53c7387f6570dfe1d019b30ae6fd593dafa9c3e162fde5dadd27c", func := "interlocutor/interlocutorlaw4.GramOwn", spec := "gramOwn", unfollowed := true, recurses := true, plainKeys := false, apart := false }
def GramOwnSaid : Prop := gramOwnRow.holds Try.pinned (OpenSpec.ofChange gramOwnSpec)

/-- ITS FALSE NEIGHBOUR: 'it returns false'. Refute it at one input. -/
def gramOwnWrong : ChangeSpec := { name := "gramOwn", fn := fun _ => fun
  | [d1, d2, d3] => { results := [.lit (.bool false)], args := [d1, d2, d3] }
  | _ => none }
def GramOwnWrongFalsely : Prop := gramOwnRow.holds Try.pinned (OpenSpec.ofChange gramOwnWrong)

/- THE SECOND FORM. 'bulk': how many values and letters a reading holds, each counted each time it is reached (what is shared counts as often as it is met; a slice's spare places count too). A statement '..UptoSaid' is the law's where the arguments, and the package variables that the reading takes, are together of bulk at most 1048576: NARROWER than '..Said'. Prove '..Said' where nothing that the law and all that it calls make is longer than what came in: it says more and counts as full. Else prove '..UptoSaid'. A law counts once. -/
mutual
def uptoBulk {H : Type} : DataW H → Nat
  | .lit (.string bytes) => bytes.length + 1
  | .lit _ => 1
  | .nil => 1
  | .ptr d => uptoBulk d + 1
  | .slice elems spare => uptoBulkAll elems + uptoBulkAll spare + 1
  | .agg parts => uptoBulkAll parts + 1
  | .iface _ d => uptoBulk d + 1
  | .map entries => uptoBulkEntries entries + 1
  | .held _ => 1
def uptoBulkAll {H : Type} : List (DataW H) → Nat
  | [] => 0
  | d :: r => uptoBulk d + uptoBulkAll r
def uptoBulkEntries {H : Type} : List (Lit × DataW H) → Nat
  | [] => 0
  | x :: r => uptoBulkEntry x + uptoBulkEntries r
def uptoBulkEntry {H : Type} : Lit × DataW H → Nat
  | (.string bytes, d) => bytes.length + uptoBulk d + 1
  | (_, d) => uptoBulk d + 1
 end
def uptoSmall : (H : Type) → List (DataW H) → Bool := fun _ ds => decide (uptoBulkAll ds ≤ 1048576)
def OpenSpec.upto (s : _root_.Go.ChangeSpec) : _root_.Go.OpenSpec := { _root_.Go.OpenSpec.ofChange s with cond := some uptoSmall }

/-- 'interlocutorlaw4.GramRight', WHERE WHAT IT READS IS OF BULK AT MOST 1048576: true; the input reads as it did. -/
def gramRightUptoRow : OpenClaim := { program := "ytjomlfdkmdgclaa", sum := "617e1f6ad7b53c7387f6570dfe1d019b30ae6fd593dafa9c3e162fde5dadd27c", func := "interlocutor/interlocutorlaw4.GramRight", spec := "gramRight", unfollowed := true, recurses := true, plainKeys := false, apart := false, narrowed := true }
def GramRightUptoSaid : Prop := gramRightUptoRow.holds Try.pinned (OpenSpec.upto gramRightSpec)

/-- 'interlocutorlaw4.GramChecks', WHERE WHAT IT READS IS OF BULK AT MOST 1048576: true; the input reads as it did. -/
def gramChecksUptoRow : OpenClaim := { program := "ytjomlfdkmdgclaa", sum := "617e1f6ad7b53c7387f6570dfe1d019b30ae6fd593dafa9c3e162fde5dadd27c", func := "interlocutor/interlocutorlaw4.GramChecks", spec := "gramChecks", unfollowed := true, recurses := true, plainKeys := false, apart := false, narrowed := true }
def GramChecksUptoSaid : Prop := gramChecksUptoRow.holds Try.pinned (OpenSpec.upto gramChecksSpec)

/-- 'interlocutorlaw4.GramRounds', WHERE WHAT IT READS IS OF BULK AT MOST 1048576: true; the input reads as it did. -/
def gramRoundsUptoRow : OpenClaim := { program := "ytjomlfdkmdgclaa", sum := "617e1f6ad7b53c7387f6570dfe1d019b30ae6fd593dafa9c3e162fde5dadd27c", func := "interlocutor/interlocutorlaw4.GramRounds", spec := "gramRounds", unfollowed := true, recurses := true, plainKeys := false, apart := false, narrowed := true }
def GramRoundsUptoSaid : Prop := gramRoundsUptoRow.holds Try.pinned (OpenSpec.upto gramRoundsSpec)

/-- 'interlocutorlaw4.GramMany', WHERE WHAT IT READS IS OF BULK AT MOST 1048576: true; the input reads as it did. -/
def gramManyUptoRow : OpenClaim := { program := "ytjomlfdkmdgclaa", sum := "617e1f6ad7b53c7387f6570dfe1d019b30ae6fd593dafa9c3e162fde5dadd27c", func := "interlocutor/interlocutorlaw4.GramMany", spec := "gramMany", unfollowed := true, recurses := true, plainKeys := false, apart := false, narrowed := true }
def GramManyUptoSaid : Prop := gramManyUptoRow.holds Try.pinned (OpenSpec.upto gramManySpec)

/-- 'interlocutorlaw4.GramReach', WHERE WHAT IT READS IS OF BULK AT MOST 1048576: true; the input reads as it did. -/
def gramReachUptoRow : OpenClaim := { program := "ytjomlfdkmdgclaa", sum := "617e1f6ad7b53c7387f6570dfe1d019b30ae6fd593dafa9c3e162fde5dadd27c", func := "interlocutor/interlocutorlaw4.GramReach", spec := "gramReach", unfollowed := true, recurses := true, plainKeys := false, apart := false, narrowed := true }
def GramReachUptoSaid : Prop := gramReachUptoRow.holds Try.pinned (OpenSpec.upto gramReachSpec)

/-- 'interlocutorlaw4.GramOrder', WHERE WHAT IT READS IS OF BULK AT MOST 1048576: true; the input reads as it did. -/
def gramOrderUptoRow : OpenClaim := { program := "ytjomlfdkmdgclaa", sum := "617e1f6ad7b53c7387f6570dfe1d019b30ae6fd593dafa9c3e162fde5dadd27c", func := "interlocutor/interlocutorlaw4.GramOrder", spec := "gramOrder", unfollowed := true, recurses := true, plainKeys := false, apart := false, narrowed := true }
def GramOrderUptoSaid : Prop := gramOrderUptoRow.holds Try.pinned (OpenSpec.upto gramOrderSpec)

/-- 'interlocutorlaw4.GramFewer', WHERE WHAT IT READS IS OF BULK AT MOST 1048576: true; the input reads as it did. -/
def gramFewerUptoRow : OpenClaim := { program := "ytjomlfdkmdgclaa", sum := "617e1f6ad7b53c7387f6570dfe1d019b30ae6fd593dafa9c3e162fde5dadd27c", func := "interlocutor/interlocutorlaw4.GramFewer", spec := "gramFewer", unfollowed := true, recurses := true, plainKeys := false, apart := false, narrowed := true }
def GramFewerUptoSaid : Prop := gramFewerUptoRow.holds Try.pinned (OpenSpec.upto gramFewerSpec)

/-- 'interlocutorlaw4.GramUnits', WHERE WHAT IT READS IS OF BULK AT MOST 1048576: true; the input reads as it did. -/
def gramUnitsUptoRow : OpenClaim := { program := "ytjomlfdkmdgclaa", sum := "617e1f6ad7b53c7387f6570dfe1d019b30ae6fd593dafa9c3e162fde5dadd27c", func := "interlocutor/interlocutorlaw4.GramUnits", spec := "gramUnits", unfollowed := true, recurses := true, plainKeys := false, apart := false, narrowed := true }
def GramUnitsUptoSaid : Prop := gramUnitsUptoRow.holds Try.pinned (OpenSpec.upto gramUnitsSpec)

/-- 'interlocutorlaw4.GramActs', WHERE WHAT IT READS IS OF BULK AT MOST 1048576: true; the input reads as it did. -/
def gramActsUptoRow : OpenClaim := { program := "ytjomlfdkmdgclaa", sum := "617e1f6ad7b53c7387f6570dfe1d019b30ae6fd593dafa9c3e162fde5dadd27c", func := "interlocutor/interlocutorlaw4.GramActs", spec := "gramActs", unfollowed := true, recurses := true, plainKeys := false, apart := false, narrowed := true }
def GramActsUptoSaid : Prop := gramActsUptoRow.holds Try.pinned (OpenSpec.upto gramActsSpec)

/-- 'interlocutorlaw4.GramOwn', WHERE WHAT IT READS IS OF BULK AT MOST 1048576: true; the input reads as it did. -/
def gramOwnUptoRow : OpenClaim := { program := "ytjomlfdkmdgclaa", sum := "617e1f6ad7b53c7387f6570dfe1d019b30ae6fd593dafa9c3e162fde5dadd27c", func := "interlocutor/interlocutorlaw4.GramOwn", spec := "gramOwn", unfollowed := true, recurses := true, plainKeys := false, apart := false, narrowed := true }
def GramOwnUptoSaid : Prop := gramOwnUptoRow.holds Try.pinned (OpenSpec.upto gramOwnSpec)

end Rows
end Go.Proofs.Ytjomlfdkmdgclaa
