/-
  No cell of these rows narrows 'for every input' (looked for: loops, veiled, ifaces, maps, wideKeys, modest, calm, conditions, laid).
  DERIVED. THE GIVEN ROWS OF THIS SEAT. 12 by the template 'for every input the law returns true; each argument reads behind the call as it read before'; 0 by the template 'total and deterministic' (their statements: YthjlhookepchgaaTotals.lean).
  GIVEN WITH THE SEED: the statements are not yours to turn. If you find one false, say at which input.
  Laid BY PROGRAM, IN A SANDBOX (cutbox-rows.mjs): the forced cells as the released guide's own fill.sh prints them over the translation 2fc37d77b53d4797… (all of the seat's roots in one cut). By AI agents, Wed Nov 11 2026. No macro, syntax, notation, axiom, sorry.
-/
import Derived.Test.YthjlhookepchgaaChecked
import GoSem.Claim
import GoSem.ClaimJoined
import GoSem.ClaimMapViews
import Derived.JoinedTies
import Derived.KernelRfl
namespace Go.Proofs.Ythjlhookepchgaa
/- THE CELL 'sum', in the pinned program and in every row, IS THE sha256 OF THE DUMP (.gsa) THAT YthjlhookepchgaaProg.lean LOADS. Nothing in Lean hashes anything: it is a label: what it is worth is what the hold of that sum in a sandbox is worth. -/
noncomputable def Try.pinned : Pinned := { name := "ythjlhookepchgaa", sum := "2fc37d77b53d47979d1c9af75900dbbd5a2ad7f7e30d5732c18a004115b706c4", checked := Try.checked }
namespace Rows
def none {H : Type} : Left H := { results := [], args := [] }

/-- 'sacristylaw20.TokenChain': WHATEVER THE INPUT: true; the input reads as it did. -/
def tokenChainSpec : ChangeSpec := { name := "tokenChain", fn := fun _ => fun
  | [d1, d2, d3] => { results := [.lit (.bool true)], args := [d1, d2, d3] }
  | _ => none }
def tokenChainRow : OpenClaim := { program := "ythjlhookepchgaa", sum := "2fc37d77b53d47979d1c9af75900dbbd5a2ad7f7e30d5732c18a004115b706c4", func := "sacristy/sacristylaw20.TokenChain", spec := "tokenChain", unfollowed := true, recurses := true, apart := false }
def TokenChainSaid : Prop := tokenChainRow.holds Try.pinned (OpenSpec.ofChange tokenChainSpec)

/-- ITS FALSE NEIGHBOUR: 'it returns false'. Refute it at one input. -/
def tokenChainWrong : ChangeSpec := { name := "tokenChain", fn := fun _ => fun
  | [d1, d2, d3] => { results := [.lit (.bool false)], args := [d1, d2, d3] }
  | _ => none }
def TokenChainWrongFalsely : Prop := tokenChainRow.holds Try.pinned (OpenSpec.ofChange tokenChainWrong)

/-- 'sacristylaw20.TokenFull': WHATEVER THE INPUT: true; the input reads as it did. -/
def tokenFullSpec : ChangeSpec := { name := "tokenFull", fn := fun _ => fun
  | [d1, d2] => { results := [.lit (.bool true)], args := [d1, d2] }
  | _ => none }
def tokenFullRow : OpenClaim := { program := "ythjlhookepchgaa", sum := "2fc37d77b53d47979d1c9af75900dbbd5a2ad7f7e30d5732c18a004115b706c4", func := "sacristy/sacristylaw20.TokenFull", spec := "tokenFull", unfollowed := true, recurses := true, apart := false }
def TokenFullSaid : Prop := tokenFullRow.holds Try.pinned (OpenSpec.ofChange tokenFullSpec)

/-- ITS FALSE NEIGHBOUR: 'it returns false'. Refute it at one input. -/
def tokenFullWrong : ChangeSpec := { name := "tokenFull", fn := fun _ => fun
  | [d1, d2] => { results := [.lit (.bool false)], args := [d1, d2] }
  | _ => none }
def TokenFullWrongFalsely : Prop := tokenFullRow.holds Try.pinned (OpenSpec.ofChange tokenFullWrong)

/-- 'sacristylaw20.TokenTrees': WHATEVER THE INPUT: true; the input reads as it did. -/
def tokenTreesSpec : ChangeSpec := { name := "tokenTrees", fn := fun _ => fun
  | [d1, d2] => { results := [.lit (.bool true)], args := [d1, d2] }
  | _ => none }
def tokenTreesRow : OpenClaim := { program := "ythjlhookepchgaa", sum := "2fc37d77b53d47979d1c9af75900dbbd5a2ad7f7e30d5732c18a004115b706c4", func := "sacristy/sacristylaw20.TokenTrees", spec := "tokenTrees", unfollowed := true, recurses := true, apart := false }
def TokenTreesSaid : Prop := tokenTreesRow.holds Try.pinned (OpenSpec.ofChange tokenTreesSpec)

/-- ITS FALSE NEIGHBOUR: 'it returns false'. Refute it at one input. -/
def tokenTreesWrong : ChangeSpec := { name := "tokenTrees", fn := fun _ => fun
  | [d1, d2] => { results := [.lit (.bool false)], args := [d1, d2] }
  | _ => none }
def TokenTreesWrongFalsely : Prop := tokenTreesRow.holds Try.pinned (OpenSpec.ofChange tokenTreesWrong)

/-- 'sacristylaw22.KvCas': WHATEVER THE INPUT: true; the input reads as it did. -/
def kvCasSpec : ChangeSpec := { name := "kvCas", fn := fun _ => fun
  | [d1, d2] => { results := [.lit (.bool true)], args := [d1, d2] }
  | _ => none }
def kvCasRow : OpenClaim := { program := "ythjlhookepchgaa", sum := "2fc37d77b53d47979d1c9af75900dbbd5a2ad7f7e30d5732c18a004115b706c4", func := "sacristy/sacristylaw22.KvCas", spec := "kvCas", unfollowed := true, recurses := true, apart := false }
def KvCasSaid : Prop := kvCasRow.holds Try.pinned (OpenSpec.ofChange kvCasSpec)

/-- ITS FALSE NEIGHBOUR: 'it returns false'. Refute it at one input. -/
def kvCasWrong : ChangeSpec := { name := "kvCas", fn := fun _ => fun
  | [d1, d2] => { results := [.lit (.bool false)], args := [d1, d2] }
  | _ => none }
def KvCasWrongFalsely : Prop := kvCasRow.holds Try.pinned (OpenSpec.ofChange kvCasWrong)

/-- 'sacristylaw22.KvVersions': WHATEVER THE INPUT: true; the input reads as it did. -/
def kvVersionsSpec : ChangeSpec := { name := "kvVersions", fn := fun _ => fun
  | [d1, d2, d3] => { results := [.lit (.bool true)], args := [d1, d2, d3] }
  | _ => none }
def kvVersionsRow : OpenClaim := { program := "ythjlhookepchgaa", sum := "2fc37d77b53d47979d1c9af75900dbbd5a2ad7f7e30d5732c18a004115b706c4", func := "sacristy/sacristylaw22.KvVersions", spec := "kvVersions", unfollowed := true, recurses := true, apart := false }
def KvVersionsSaid : Prop := kvVersionsRow.holds Try.pinned (OpenSpec.ofChange kvVersionsSpec)

/-- ITS FALSE NEIGHBOUR: 'it returns false'. Refute it at one input. -/
def kvVersionsWrong : ChangeSpec := { name := "kvVersions", fn := fun _ => fun
  | [d1, d2, d3] => { results := [.lit (.bool false)], args := [d1, d2, d3] }
  | _ => none }
def KvVersionsWrongFalsely : Prop := kvVersionsRow.holds Try.pinned (OpenSpec.ofChange kvVersionsWrong)

/-- 'sacristylaw22.KvFull': WHATEVER THE INPUT: true; the input reads as it did. -/
def kvFullSpec : ChangeSpec := { name := "kvFull", fn := fun _ => fun
  | [d1, d2] => { results := [.lit (.bool true)], args := [d1, d2] }
  | _ => none }
def kvFullRow : OpenClaim := { program := "ythjlhookepchgaa", sum := "2fc37d77b53d47979d1c9af75900dbbd5a2ad7f7e30d5732c18a004115b706c4", func := "sacristy/sacristylaw22.KvFull", spec := "kvFull", unfollowed := true, recurses := true, apart := false }
def KvFullSaid : Prop := kvFullRow.holds Try.pinned (OpenSpec.ofChange kvFullSpec)

/-- ITS FALSE NEIGHBOUR: 'it returns false'. Refute it at one input. -/
def kvFullWrong : ChangeSpec := { name := "kvFull", fn := fun _ => fun
  | [d1, d2] => { results := [.lit (.bool false)], args := [d1, d2] }
  | _ => none }
def KvFullWrongFalsely : Prop := kvFullRow.holds Try.pinned (OpenSpec.ofChange kvFullWrong)

/-- 'sacristylaw22.KvSize': WHATEVER THE INPUT: true; the input reads as it did. -/
def kvSizeSpec : ChangeSpec := { name := "kvSize", fn := fun _ => fun
  | [d] => { results := [.lit (.bool true)], args := [d] }
  | _ => none }
def kvSizeRow : OpenClaim := { program := "ythjlhookepchgaa", sum := "2fc37d77b53d47979d1c9af75900dbbd5a2ad7f7e30d5732c18a004115b706c4", func := "sacristy/sacristylaw22.KvSize", spec := "kvSize", unfollowed := true, recurses := true, apart := false }
def KvSizeSaid : Prop := kvSizeRow.holds Try.pinned (OpenSpec.ofChange kvSizeSpec)

/-- ITS FALSE NEIGHBOUR: 'it returns false'. Refute it at one input. -/
def kvSizeWrong : ChangeSpec := { name := "kvSize", fn := fun _ => fun
  | [d] => { results := [.lit (.bool false)], args := [d] }
  | _ => none }
def KvSizeWrongFalsely : Prop := kvSizeRow.holds Try.pinned (OpenSpec.ofChange kvSizeWrong)

/-- 'sacristylaw22.KvRestores': WHATEVER THE INPUT: true; the input reads as it did. -/
def kvRestoresSpec : ChangeSpec := { name := "kvRestores", fn := fun _ => fun
  | [d1, d2, d3] => { results := [.lit (.bool true)], args := [d1, d2, d3] }
  | _ => none }
def kvRestoresRow : OpenClaim := { program := "ythjlhookepchgaa", sum := "2fc37d77b53d47979d1c9af75900dbbd5a2ad7f7e30d5732c18a004115b706c4", func := "sacristy/sacristylaw22.KvRestores", spec := "kvRestores", unfollowed := true, recurses := true, apart := false }
def KvRestoresSaid : Prop := kvRestoresRow.holds Try.pinned (OpenSpec.ofChange kvRestoresSpec)

/-- ITS FALSE NEIGHBOUR: 'it returns false'. Refute it at one input. -/
def kvRestoresWrong : ChangeSpec := { name := "kvRestores", fn := fun _ => fun
  | [d1, d2, d3] => { results := [.lit (.bool false)], args := [d1, d2, d3] }
  | _ => none }
def KvRestoresWrongFalsely : Prop := kvRestoresRow.holds Try.pinned (OpenSpec.ofChange kvRestoresWrong)

/-- 'sacristylaw21.EntityGroups': WHATEVER THE INPUT: true; the input reads as it did. -/
def entityGroupsSpec : ChangeSpec := { name := "entityGroups", fn := fun _ => fun
  | [d1, d2, d3, d4] => { results := [.lit (.bool true)], args := [d1, d2, d3, d4] }
  | _ => none }
def entityGroupsRow : OpenClaim := { program := "ythjlhookepchgaa", sum := "2fc37d77b53d47979d1c9af75900dbbd5a2ad7f7e30d5732c18a004115b706c4", func := "sacristy/sacristylaw21.EntityGroups", spec := "entityGroups", unfollowed := true, recurses := true, apart := false }
def EntityGroupsSaid : Prop := entityGroupsRow.holds Try.pinned (OpenSpec.ofChange entityGroupsSpec)

/-- ITS FALSE NEIGHBOUR: 'it returns false'. Refute it at one input. -/
def entityGroupsWrong : ChangeSpec := { name := "entityGroups", fn := fun _ => fun
  | [d1, d2, d3, d4] => { results := [.lit (.bool false)], args := [d1, d2, d3, d4] }
  | _ => none }
def EntityGroupsWrongFalsely : Prop := entityGroupsRow.holds Try.pinned (OpenSpec.ofChange entityGroupsWrong)

/-- 'sacristylaw21.EntityFull': WHATEVER THE INPUT: true; the input reads as it did. -/
def entityFullSpec : ChangeSpec := { name := "entityFull", fn := fun _ => fun
  | [d1, d2] => { results := [.lit (.bool true)], args := [d1, d2] }
  | _ => none }
def entityFullRow : OpenClaim := { program := "ythjlhookepchgaa", sum := "2fc37d77b53d47979d1c9af75900dbbd5a2ad7f7e30d5732c18a004115b706c4", func := "sacristy/sacristylaw21.EntityFull", spec := "entityFull", unfollowed := true, recurses := true, apart := false }
def EntityFullSaid : Prop := entityFullRow.holds Try.pinned (OpenSpec.ofChange entityFullSpec)

/-- ITS FALSE NEIGHBOUR: 'it returns false'. Refute it at one input. -/
def entityFullWrong : ChangeSpec := { name := "entityFull", fn := fun _ => fun
  | [d1, d2] => { results := [.lit (.bool false)], args := [d1, d2] }
  | _ => none }
def EntityFullWrongFalsely : Prop := entityFullRow.holds Try.pinned (OpenSpec.ofChange entityFullWrong)

/-- 'sacristylaw21.EntityLists': WHATEVER THE INPUT: true; the input reads as it did. -/
def entityListsSpec : ChangeSpec := { name := "entityLists", fn := fun _ => fun
  | [d] => { results := [.lit (.bool true)], args := [d] }
  | _ => none }
def entityListsRow : OpenClaim := { program := "ythjlhookepchgaa", sum := "2fc37d77b53d47979d1c9af75900dbbd5a2ad7f7e30d5732c18a004115b706c4", func := "sacristy/sacristylaw21.EntityLists", spec := "entityLists", unfollowed := true, recurses := true, apart := false }
def EntityListsSaid : Prop := entityListsRow.holds Try.pinned (OpenSpec.ofChange entityListsSpec)

/-- ITS FALSE NEIGHBOUR: 'it returns false'. Refute it at one input. -/
def entityListsWrong : ChangeSpec := { name := "entityLists", fn := fun _ => fun
  | [d] => { results := [.lit (.bool false)], args := [d] }
  | _ => none }
def EntityListsWrongFalsely : Prop := entityListsRow.holds Try.pinned (OpenSpec.ofChange entityListsWrong)

/-- 'sacristylaw21.EntityPlays': WHATEVER THE INPUT: true; the input reads as it did. -/
def entityPlaysSpec : ChangeSpec := { name := "entityPlays", fn := fun _ => fun
  | [d] => { results := [.lit (.bool true)], args := [d] }
  | _ => none }
def entityPlaysRow : OpenClaim := { program := "ythjlhookepchgaa", sum := "2fc37d77b53d47979d1c9af75900dbbd5a2ad7f7e30d5732c18a004115b706c4", func := "sacristy/sacristylaw21.EntityPlays", spec := "entityPlays", inPlace := ["maps.clone"], unfollowed := true, recurses := true, apart := false }
def EntityPlaysSaid : Prop := entityPlaysRow.holds Try.pinned (OpenSpec.ofChange entityPlaysSpec)

/-- ITS FALSE NEIGHBOUR: 'it returns false'. Refute it at one input. -/
def entityPlaysWrong : ChangeSpec := { name := "entityPlays", fn := fun _ => fun
  | [d] => { results := [.lit (.bool false)], args := [d] }
  | _ => none }
def EntityPlaysWrongFalsely : Prop := entityPlaysRow.holds Try.pinned (OpenSpec.ofChange entityPlaysWrong)

/- THE SECOND FORM. 'bulk': how many values and letters a reading holds, each counted each time it is reached (what is shared counts as often as it is met; a slice's spare places count too). A statement '..UptoSaid' is the law's where the arguments, and the package variables that the reading takes, are together of bulk at most 1048576: NARROWER than '..Said'. Prove '..Said' where nothing that the law and all that it calls make is longer than what came in: it says more and counts as full. Else prove '..UptoSaid'. A law counts once. -/
mutual
def uptoBulk {H : Type} : DataW H → Nat
  | .lit (.string bytes) => bytes.length + 1
  | .lit _ => 1
  | .nil => 1
  | .ptr d => uptoBulk d + 1
  | .slice elems spare => uptoBulkAll elems + uptoBulkAll spare + 1
  | .agg parts => uptoBulkAll parts + 1
  | .iface _ d => uptoBulk d + 1
  | .map entries => uptoBulkEntries entries + 1
  | .held _ => 1
def uptoBulkAll {H : Type} : List (DataW H) → Nat
  | [] => 0
  | d :: r => uptoBulk d + uptoBulkAll r
def uptoBulkEntries {H : Type} : List (Lit × DataW H) → Nat
  | [] => 0
  | x :: r => uptoBulkEntry x + uptoBulkEntries r
def uptoBulkEntry {H : Type} : Lit × DataW H → Nat
  | (.string bytes, d) => bytes.length + uptoBulk d + 1
  | (_, d) => uptoBulk d + 1
 end
def uptoSmall : (H : Type) → List (DataW H) → Bool := fun _ ds => decide (uptoBulkAll ds ≤ 1048576)
def OpenSpec.upto (s : _root_.Go.ChangeSpec) : _root_.Go.OpenSpec := { _root_.Go.OpenSpec.ofChange s with cond := some uptoSmall }

/-- 'sacristylaw20.TokenChain', WHERE WHAT IT READS IS OF BULK AT MOST 1048576: true; the input reads as it did. -/
def tokenChainUptoRow : OpenClaim := { program := "ythjlhookepchgaa", sum := "2fc37d77b53d47979d1c9af75900dbbd5a2ad7f7e30d5732c18a004115b706c4", func := "sacristy/sacristylaw20.TokenChain", spec := "tokenChain", unfollowed := true, recurses := true, apart := false, narrowed := true }
def TokenChainUptoSaid : Prop := tokenChainUptoRow.holds Try.pinned (OpenSpec.upto tokenChainSpec)

/-- 'sacristylaw20.TokenFull', WHERE WHAT IT READS IS OF BULK AT MOST 1048576: true; the input reads as it did. -/
def tokenFullUptoRow : OpenClaim := { program := "ythjlhookepchgaa", sum := "2fc37d77b53d47979d1c9af75900dbbd5a2ad7f7e30d5732c18a004115b706c4", func := "sacristy/sacristylaw20.TokenFull", spec := "tokenFull", unfollowed := true, recurses := true, apart := false, narrowed := true }
def TokenFullUptoSaid : Prop := tokenFullUptoRow.holds Try.pinned (OpenSpec.upto tokenFullSpec)

/-- 'sacristylaw20.TokenTrees', WHERE WHAT IT READS IS OF BULK AT MOST 1048576: true; the input reads as it did. -/
def tokenTreesUptoRow : OpenClaim := { program := "ythjlhookepchgaa", sum := "2fc37d77b53d47979d1c9af75900dbbd5a2ad7f7e30d5732c18a004115b706c4", func := "sacristy/sacristylaw20.TokenTrees", spec := "tokenTrees", unfollowed := true, recurses := true, apart := false, narrowed := true }
def TokenTreesUptoSaid : Prop := tokenTreesUptoRow.holds Try.pinned (OpenSpec.upto tokenTreesSpec)

/-- 'sacristylaw22.KvCas', WHERE WHAT IT READS IS OF BULK AT MOST 1048576: true; the input reads as it did. -/
def kvCasUptoRow : OpenClaim := { program := "ythjlhookepchgaa", sum := "2fc37d77b53d47979d1c9af75900dbbd5a2ad7f7e30d5732c18a004115b706c4", func := "sacristy/sacristylaw22.KvCas", spec := "kvCas", unfollowed := true, recurses := true, apart := false, narrowed := true }
def KvCasUptoSaid : Prop := kvCasUptoRow.holds Try.pinned (OpenSpec.upto kvCasSpec)

/-- 'sacristylaw22.KvVersions', WHERE WHAT IT READS IS OF BULK AT MOST 1048576: true; the input reads as it did. -/
def kvVersionsUptoRow : OpenClaim := { program := "ythjlhookepchgaa", sum := "2fc37d77b53d47979d1c9af75900dbbd5a2ad7f7e30d5732c18a004115b706c4", func := "sacristy/sacristylaw22.KvVersions", spec := "kvVersions", unfollowed := true, recurses := true, apart := false, narrowed := true }
def KvVersionsUptoSaid : Prop := kvVersionsUptoRow.holds Try.pinned (OpenSpec.upto kvVersionsSpec)

/-- 'sacristylaw22.KvFull', WHERE WHAT IT READS IS OF BULK AT MOST 1048576: true; the input reads as it did. -/
def kvFullUptoRow : OpenClaim := { program := "ythjlhookepchgaa", sum := "2fc37d77b53d47979d1c9af75900dbbd5a2ad7f7e30d5732c18a004115b706c4", func := "sacristy/sacristylaw22.KvFull", spec := "kvFull", unfollowed := true, recurses := true, apart := false, narrowed := true }
def KvFullUptoSaid : Prop := kvFullUptoRow.holds Try.pinned (OpenSpec.upto kvFullSpec)

/-- 'sacristylaw22.KvSize', WHERE WHAT IT READS IS OF BULK AT MOST 1048576: true; the input reads as it did. -/
def kvSizeUptoRow : OpenClaim := { program := "ythjlhookepchgaa", sum := "2fc37d77b53d47979d1c9af75900dbbd5a2ad7f7e30d5732c18a004115b706c4", func := "sacristy/sacristylaw22.KvSize", spec := "kvSize", unfollowed := true, recurses := true, apart := false, narrowed := true }
def KvSizeUptoSaid : Prop := kvSizeUptoRow.holds Try.pinned (OpenSpec.upto kvSizeSpec)

/-- 'sacristylaw22.KvRestores', WHERE WHAT IT READS IS OF BULK AT MOST 1048576: true; the input reads as it did. -/
def kvRestoresUptoRow : OpenClaim := { program := "ythjlhookepchgaa", sum := "2fc37d77b53d47979d1c9af75900dbbd5a2ad7f7e30d5732c18a004115b706c4", func := "sacristy/sacristylaw22.KvRestores", spec := "kvRestores", unfollowed := true, recurses := true, apart := false, narrowed := true }
def KvRestoresUptoSaid : Prop := kvRestoresUptoRow.holds Try.pinned (OpenSpec.upto kvRestoresSpec)

/-- 'sacristylaw21.EntityGroups', WHERE WHAT IT READS IS OF BULK AT MOST 1048576: true; the input reads as it did. -/
def entityGroupsUptoRow : OpenClaim := { program := "ythjlhookepchgaa", sum := "2fc37d77b53d47979d1c9af75900dbbd5a2ad7f7e30d5732c18a004115b706c4", func := "sacristy/sacristylaw21.EntityGroups", spec := "entityGroups", unfollowed := true, recurses := true, apart := false, narrowed := true }
def EntityGroupsUptoSaid : Prop := entityGroupsUptoRow.holds Try.pinned (OpenSpec.upto entityGroupsSpec)

/-- 'sacristylaw21.EntityFull', WHERE WHAT IT READS IS OF BULK AT MOST 1048576: true; the input reads as it did. -/
def entityFullUptoRow : OpenClaim := { program := "ythjlhookepchgaa", sum := "2fc37d77b53d47979d1c9af75900dbbd5a2ad7f7e30d5732c18a004115b706c4", func := "sacristy/sacristylaw21.EntityFull", spec := "entityFull", unfollowed := true, recurses := true, apart := false, narrowed := true }
def EntityFullUptoSaid : Prop := entityFullUptoRow.holds Try.pinned (OpenSpec.upto entityFullSpec)

/-- 'sacristylaw21.EntityLists', WHERE WHAT IT READS IS OF BULK AT MOST 1048576: true; the input reads as it did. -/
def entityListsUptoRow : OpenClaim := { program := "ythjlhookepchgaa", sum := "2fc37d77b53d47979d1c9af75900dbbd5a2ad7f7e30d5732c18a004115b706c4", func := "sacristy/sacristylaw21.EntityLists", spec := "entityLists", unfollowed := true, recurses := true, apart := false, narrowed := true }
def EntityListsUptoSaid : Prop := entityListsUptoRow.holds Try.pinned (OpenSpec.upto entityListsSpec)

/-- 'sacristylaw21.EntityPlays', WHERE WHAT IT READS IS OF BULK AT MOST 1048576: true; the input reads as it did. -/
def entityPlaysUptoRow : OpenClaim := { program := "ythjlhookepchgaa", sum := "2fc37d77b53d47979d1c9af75900dbbd5a2ad7f7e30d5732c18a004115b706c4", func := "sacristy/sacristylaw21.EntityPlays", spec := "entityPlays", inPlace := ["maps.clone"], unfollowed := true, recurses := true, apart := false, narrowed := true }
def EntityPlaysUptoSaid : Prop := entityPlaysUptoRow.holds Try.pinned (OpenSpec.upto entityPlaysSpec)

end Rows
end Go.Proofs.Ythjlhookepchgaa
