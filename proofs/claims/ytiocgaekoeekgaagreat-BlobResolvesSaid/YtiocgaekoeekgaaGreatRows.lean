/-
  No cell of these rows narrows 'for every input' (looked for: loops, veiled, ifaces, maps, wideKeys, modest, calm, conditions, laid).
  DERIVED. THE GIVEN ROWS OF THIS SEAT. 8 by the template 'for every input the law returns true; each argument reads behind the call as it read before'; 0 by the template 'total and deterministic' (their statements: YtiocgaekoeekgaaGreatTotals.lean).
  GIVEN WITH THE SEED: the statements are not yours to turn. If you find one false, say at which input.
  Laid BY PROGRAM, IN A SANDBOX (cutbox-rows.mjs): the forced cells as the released guide's own fill.sh prints them over the translation 3ef9749b0c85a0f4… (all of the seat's roots in one cut). By AI agents, Wed Nov 11 2026. No macro, syntax, notation, axiom, sorry.
-/
import Derived.Test.YtiocgaekoeekgaaGreatChecked
import GoSem.Claim
import GoSem.ClaimJoined
import GoSem.ClaimMapViews
import Derived.JoinedTies
import Derived.KernelRfl
namespace Go.Proofs.YtiocgaekoeekgaaGreat
/- THE CELL 'sum', in the pinned program and in every row, IS THE sha256 OF THE DUMP (.gsa) THAT YtiocgaekoeekgaaGreatProg.lean LOADS. Nothing in Lean hashes anything: it is a label: what it is worth is what the hold of that sum in a sandbox is worth. -/
noncomputable def Tryz.pinned : Pinned := { name := "ytiocgaekoeekgaagreat", sum := "3ef9749b0c85a0f404e1907eb4f92a0c1c1823ff762818ccedb5c81b9b91ecea", checked := Tryz.checked }
namespace Rows
def none {H : Type} : Left H := { results := [], args := [] }

/-- 'interlocutorlaw5.BlobBack': WHATEVER THE INPUT: true; the input reads as it did. -/
def blobBackSpec : ChangeSpec := { name := "blobBack", fn := fun _ => fun
  | [d] => { results := [.lit (.bool true)], args := [d] }
  | _ => none }
def blobBackRow : OpenClaim := { program := "ytiocgaekoeekgaagreat", sum := "3ef9749b0c85a0f404e1907eb4f92a0c1c1823ff762818ccedb5c81b9b91ecea", func := "interlocutor/interlocutorlaw5.BlobBack", spec := "blobBack", unfollowed := true, recurses := true, plainKeys := false, apart := false }
def BlobBackSaid : Prop := blobBackRow.holds Tryz.pinned (OpenSpec.ofChange blobBackSpec)

/-- ITS FALSE NEIGHBOUR: 'it returns false'. Refute it at one input. -/
def blobBackWrong : ChangeSpec := { name := "blobBack", fn := fun _ => fun
  | [d] => { results := [.lit (.bool false)], args := [d] }
  | _ => none }
def BlobBackWrongFalsely : Prop := blobBackRow.holds Tryz.pinned (OpenSpec.ofChange blobBackWrong)

/-- 'interlocutorlaw5.BlobReads': WHATEVER THE INPUT: true; the input reads as it did. -/
def blobReadsSpec : ChangeSpec := { name := "blobReads", fn := fun _ => fun
  | [d1, d2, d3, d4, d5, d6] => { results := [.lit (.bool true)], args := [d1, d2, d3, d4, d5, d6] }
  | _ => none }
def blobReadsRow : OpenClaim := { program := "ytiocgaekoeekgaagreat", sum := "3ef9749b0c85a0f404e1907eb4f92a0c1c1823ff762818ccedb5c81b9b91ecea", func := "interlocutor/interlocutorlaw5.BlobReads", spec := "blobReads", unfollowed := true, recurses := true, plainKeys := false, apart := false }
def BlobReadsSaid : Prop := blobReadsRow.holds Tryz.pinned (OpenSpec.ofChange blobReadsSpec)

/-- ITS FALSE NEIGHBOUR: 'it returns false'. Refute it at one input. -/
def blobReadsWrong : ChangeSpec := { name := "blobReads", fn := fun _ => fun
  | [d1, d2, d3, d4, d5, d6] => { results := [.lit (.bool false)], args := [d1, d2, d3, d4, d5, d6] }
  | _ => none }
def BlobReadsWrongFalsely : Prop := blobReadsRow.holds Tryz.pinned (OpenSpec.ofChange blobReadsWrong)

/-- 'interlocutorlaw5.BlobRight': WHATEVER THE INPUT: true; the input reads as it did. -/
def blobRightSpec : ChangeSpec := { name := "blobRight", fn := fun _ => fun
  | [d1, d2, d3, d4, d5] => { results := [.lit (.bool true)], args := [d1, d2, d3, d4, d5] }
  | _ => none }
def blobRightRow : OpenClaim := { program := "ytiocgaekoeekgaagreat", sum := "3ef9749b0c85a0f404e1907eb4f92a0c1c1823ff762818ccedb5c81b9b91ecea", func := "interlocutor/interlocutorlaw5.BlobRight", spec := "blobRight", unfollowed := true, recurses := true, plainKeys := false, apart := false }
def BlobRightSaid : Prop := blobRightRow.holds Tryz.pinned (OpenSpec.ofChange blobRightSpec)

/-- ITS FALSE NEIGHBOUR: 'it returns false'. Refute it at one input. -/
def blobRightWrong : ChangeSpec := { name := "blobRight", fn := fun _ => fun
  | [d1, d2, d3, d4, d5] => { results := [.lit (.bool false)], args := [d1, d2, d3, d4, d5] }
  | _ => none }
def BlobRightWrongFalsely : Prop := blobRightRow.holds Tryz.pinned (OpenSpec.ofChange blobRightWrong)

/-- 'interlocutorlaw5.BlobResolves': WHATEVER THE INPUT: true; the input reads as it did. -/
def blobResolvesSpec : ChangeSpec := { name := "blobResolves", fn := fun _ => fun
  | [d1, d2, d3] => { results := [.lit (.bool true)], args := [d1, d2, d3] }
  | _ => none }
def blobResolvesRow : OpenClaim := { program := "ytiocgaekoeekgaagreat", sum := "3ef9749b0c85a0f404e1907eb4f92a0c1c1823ff762818ccedb5c81b9b91ecea", func := "interlocutor/interlocutorlaw5.BlobResolves", spec := "blobResolves", unfollowed := true, recurses := true, plainKeys := false, apart := false }
def BlobResolvesSaid : Prop := blobResolvesRow.holds Tryz.pinned (OpenSpec.ofChange blobResolvesSpec)

/-- ITS FALSE NEIGHBOUR: 'it returns false'. Refute it at one input. -/
def blobResolvesWrong : ChangeSpec := { name := "blobResolves", fn := fun _ => fun
  | [d1, d2, d3] => { results := [.lit (.bool false)], args := [d1, d2, d3] }
  | _ => none }
def BlobResolvesWrongFalsely : Prop := blobResolvesRow.holds Tryz.pinned (OpenSpec.ofChange blobResolvesWrong)

/-- 'interlocutorlaw5.BlobCut': WHATEVER THE INPUT: true; the input reads as it did. -/
def blobCutSpec : ChangeSpec := { name := "blobCut", fn := fun _ => fun
  | [d1, d2, d3] => { results := [.lit (.bool true)], args := [d1, d2, d3] }
  | _ => none }
def blobCutRow : OpenClaim := { program := "ytiocgaekoeekgaagreat", sum := "3ef9749b0c85a0f404e1907eb4f92a0c1c1823ff762818ccedb5c81b9b91ecea", func := "interlocutor/interlocutorlaw5.BlobCut", spec := "blobCut", unfollowed := true, recurses := true, plainKeys := false, apart := false }
def BlobCutSaid : Prop := blobCutRow.holds Tryz.pinned (OpenSpec.ofChange blobCutSpec)

/-- ITS FALSE NEIGHBOUR: 'it returns false'. Refute it at one input. -/
def blobCutWrong : ChangeSpec := { name := "blobCut", fn := fun _ => fun
  | [d1, d2, d3] => { results := [.lit (.bool false)], args := [d1, d2, d3] }
  | _ => none }
def BlobCutWrongFalsely : Prop := blobCutRow.holds Tryz.pinned (OpenSpec.ofChange blobCutWrong)

/-- 'interlocutorlaw5.BlobNames': WHATEVER THE INPUT: true; the input reads as it did. -/
def blobNamesSpec : ChangeSpec := { name := "blobNames", fn := fun _ => fun
  | [d1, d2] => { results := [.lit (.bool true)], args := [d1, d2] }
  | _ => none }
def blobNamesRow : OpenClaim := { program := "ytiocgaekoeekgaagreat", sum := "3ef9749b0c85a0f404e1907eb4f92a0c1c1823ff762818ccedb5c81b9b91ecea", func := "interlocutor/interlocutorlaw5.BlobNames", spec := "blobNames", unfollowed := true, recurses := true, plainKeys := false, apart := false }
def BlobNamesSaid : Prop := blobNamesRow.holds Tryz.pinned (OpenSpec.ofChange blobNamesSpec)

/-- ITS FALSE NEIGHBOUR: 'it returns false'. Refute it at one input. -/
def blobNamesWrong : ChangeSpec := { name := "blobNames", fn := fun _ => fun
  | [d1, d2] => { results := [.lit (.bool false)], args := [d1, d2] }
  | _ => none }
def BlobNamesWrongFalsely : Prop := blobNamesRow.holds Tryz.pinned (OpenSpec.ofChange blobNamesWrong)

/-- 'interlocutorlaw5.BlobParents': WHATEVER THE INPUT: true; the input reads as it did. -/
def blobParentsSpec : ChangeSpec := { name := "blobParents", fn := fun _ => fun
  | [d1, d2] => { results := [.lit (.bool true)], args := [d1, d2] }
  | _ => none }
def blobParentsRow : OpenClaim := { program := "ytiocgaekoeekgaagreat", sum := "3ef9749b0c85a0f404e1907eb4f92a0c1c1823ff762818ccedb5c81b9b91ecea", func := "interlocutor/interlocutorlaw5.BlobParents", spec := "blobParents", unfollowed := true, recurses := true, plainKeys := false, apart := false }
def BlobParentsSaid : Prop := blobParentsRow.holds Tryz.pinned (OpenSpec.ofChange blobParentsSpec)

/-- ITS FALSE NEIGHBOUR: 'it returns false'. Refute it at one input. -/
def blobParentsWrong : ChangeSpec := { name := "blobParents", fn := fun _ => fun
  | [d1, d2] => { results := [.lit (.bool false)], args := [d1, d2] }
  | _ => none }
def BlobParentsWrongFalsely : Prop := blobParentsRow.holds Tryz.pinned (OpenSpec.ofChange blobParentsWrong)

/-- 'interlocutorlaw5.BlobOwn': WHATEVER THE INPUT: true; the input reads as it did. -/
def blobOwnSpec : ChangeSpec := { name := "blobOwn", fn := fun _ => fun
  | [d1, d2] => { results := [.lit (.bool true)], args := [d1, d2] }
  | _ => none }
def blobOwnRow : OpenClaim := { program := "ytiocgaekoeekgaagreat", sum := "3ef9749b0c85a0f404e1907eb4f92a0c1c1823ff762818ccedb5c81b9b91ecea", func := "interlocutor/interlocutorlaw5.BlobOwn", spec := "blobOwn", unfollowed := true, recurses := true, plainKeys := false, apart := false }
def BlobOwnSaid : Prop := blobOwnRow.holds Tryz.pinned (OpenSpec.ofChange blobOwnSpec)

/-- ITS FALSE NEIGHBOUR: 'it returns false'. Refute it at one input. -/
def blobOwnWrong : ChangeSpec := { name := "blobOwn", fn := fun _ => fun
  | [d1, d2] => { results := [.lit (.bool false)], args := [d1, d2] }
  | _ => none }
def BlobOwnWrongFalsely : Prop := blobOwnRow.holds Tryz.pinned (OpenSpec.ofChange blobOwnWrong)

/- THE SECOND FORM. 'bulk': how many values and letters a reading holds, each counted each time it is reached (what is shared counts as often as it is met; a slice's spare places count too). A statement '..UptoSaid' is the law's where the arguments, and the package variables that the reading takes, are together of bulk at most 1048576: NARROWER than '..Said'. Prove '..Said' where nothing that the law and all that it calls make is longer than what came in: it says more and counts as full. Else prove '..UptoSaid'. A law counts once. -/
mutual
def uptoBulk {H : Type} : DataW H → Nat
  | .lit (.string bytes) => bytes.length + 1
  | .lit _ => 1
  | .nil => 1
  | .ptr d => uptoBulk d + 1
  | .slice elems spare => uptoBulkAll elems + uptoBulkAll spare + 1
  | .agg parts => uptoBulkAll parts + 1
  | .iface _ d => uptoBulk d + 1
  | .map entries => uptoBulkEntries entries + 1
  | .held _ => 1
def uptoBulkAll {H : Type} : List (DataW H) → Nat
  | [] => 0
  | d :: r => uptoBulk d + uptoBulkAll r
def uptoBulkEntries {H : Type} : List (Lit × DataW H) → Nat
  | [] => 0
  | x :: r => uptoBulkEntry x + uptoBulkEntries r
def uptoBulkEntry {H : Type} : Lit × DataW H → Nat
  | (.string bytes, d) => bytes.length + uptoBulk d + 1
  | (_, d) => uptoBulk d + 1
 end
def uptoSmall : (H : Type) → List (DataW H) → Bool := fun _ ds => decide (uptoBulkAll ds ≤ 1048576)
def OpenSpec.upto (s : _root_.Go.ChangeSpec) : _root_.Go.OpenSpec := { _root_.Go.OpenSpec.ofChange s with cond := some uptoSmall }

/-- 'interlocutorlaw5.BlobBack', WHERE WHAT IT READS IS OF BULK AT MOST 1048576: true; the input reads as it did. -/
def blobBackUptoRow : OpenClaim := { program := "ytiocgaekoeekgaagreat", sum := "3ef9749b0c85a0f404e1907eb4f92a0c1c1823ff762818ccedb5c81b9b91ecea", func := "interlocutor/interlocutorlaw5.BlobBack", spec := "blobBack", unfollowed := true, recurses := true, plainKeys := false, apart := false, narrowed := true }
def BlobBackUptoSaid : Prop := blobBackUptoRow.holds Tryz.pinned (OpenSpec.upto blobBackSpec)

/-- 'interlocutorlaw5.BlobReads', WHERE WHAT IT READS IS OF BULK AT MOST 1048576: true; the input reads as it did. -/
def blobReadsUptoRow : OpenClaim := { program := "ytiocgaekoeekgaagreat", sum := "3ef9749b0c85a0f404e1907eb4f92a0c1c1823ff762818ccedb5c81b9b91ecea", func := "interlocutor/interlocutorlaw5.BlobReads", spec := "blobReads", unfollowed := true, recurses := true, plainKeys := false, apart := false, narrowed := true }
def BlobReadsUptoSaid : Prop := blobReadsUptoRow.holds Tryz.pinned (OpenSpec.upto blobReadsSpec)

/-- 'interlocutorlaw5.BlobRight', WHERE WHAT IT READS IS OF BULK AT MOST 1048576: true; the input reads as it did. -/
def blobRightUptoRow : OpenClaim := { program := "ytiocgaekoeekgaagreat", sum := "3ef9749b0c85a0f404e1907eb4f92a0c1c1823ff762818ccedb5c81b9b91ecea", func := "interlocutor/interlocutorlaw5.BlobRight", spec := "blobRight", unfollowed := true, recurses := true, plainKeys := false, apart := false, narrowed := true }
def BlobRightUptoSaid : Prop := blobRightUptoRow.holds Tryz.pinned (OpenSpec.upto blobRightSpec)

/-- 'interlocutorlaw5.BlobResolves', WHERE WHAT IT READS IS OF BULK AT MOST 1048576: true; the input reads as it did. -/
def blobResolvesUptoRow : OpenClaim := { program := "ytiocgaekoeekgaagreat", sum := "3ef9749b0c85a0f404e1907eb4f92a0c1c1823ff762818ccedb5c81b9b91ecea", func := "interlocutor/interlocutorlaw5.BlobResolves", spec := "blobResolves", unfollowed := true, recurses := true, plainKeys := false, apart := false, narrowed := true }
def BlobResolvesUptoSaid : Prop := blobResolvesUptoRow.holds Tryz.pinned (OpenSpec.upto blobResolvesSpec)

/-- 'interlocutorlaw5.BlobCut', WHERE WHAT IT READS IS OF BULK AT MOST 1048576: true; the input reads as it did. -/
def blobCutUptoRow : OpenClaim := { program := "ytiocgaekoeekgaagreat", sum := "3ef9749b0c85a0f404e1907eb4f92a0c1c1823ff762818ccedb5c81b9b91ecea", func := "interlocutor/interlocutorlaw5.BlobCut", spec := "blobCut", unfollowed := true, recurses := true, plainKeys := false, apart := false, narrowed := true }
def BlobCutUptoSaid : Prop := blobCutUptoRow.holds Tryz.pinned (OpenSpec.upto blobCutSpec)

/-- 'interlocutorlaw5.BlobNames', WHERE WHAT IT READS IS OF BULK AT MOST 1048576: true; the input reads as it did. -/
def blobNamesUptoRow : OpenClaim := { program := "ytiocgaekoeekgaagreat", sum := "3ef9749b0c85a0f404e1907eb4f92a0c1c1823ff762818ccedb5c81b9b91ecea", func := "interlocutor/interlocutorlaw5.BlobNames", spec := "blobNames", unfollowed := true, recurses := true, plainKeys := false, apart := false, narrowed := true }
def BlobNamesUptoSaid : Prop := blobNamesUptoRow.holds Tryz.pinned (OpenSpec.upto blobNamesSpec)

/-- 'interlocutorlaw5.BlobParents', WHERE WHAT IT READS IS OF BULK AT MOST 1048576: true; the input reads as it did. -/
def blobParentsUptoRow : OpenClaim := { program := "ytiocgaekoeekgaagreat", sum := "3ef9749b0c85a0f404e1907eb4f92a0c1c1823ff762818ccedb5c81b9b91ecea", func := "interlocutor/interlocutorlaw5.BlobParents", spec := "blobParents", unfollowed := true, recurses := true, plainKeys := false, apart := false, narrowed := true }
def BlobParentsUptoSaid : Prop := blobParentsUptoRow.holds Tryz.pinned (OpenSpec.upto blobParentsSpec)

/-- 'interlocutorlaw5.BlobOwn', WHERE WHAT IT READS IS OF BULK AT MOST 1048576: true; the input reads as it did. -/
def blobOwnUptoRow : OpenClaim := { program := "ytiocgaekoeekgaagreat", sum := "3ef9749b0c85a0f404e1907eb4f92a0c1c1823ff762818ccedb5c81b9b91ecea", func := "interlocutor/interlocutorlaw5.BlobOwn", spec := "blobOwn", unfollowed := true, recurses := true, plainKeys := false, apart := false, narrowed := true }
def BlobOwnUptoSaid : Prop := blobOwnUptoRow.holds Tryz.pinned (OpenSpec.upto blobOwnSpec)

end Rows
end Go.Proofs.YtiocgaekoeekgaaGreat
