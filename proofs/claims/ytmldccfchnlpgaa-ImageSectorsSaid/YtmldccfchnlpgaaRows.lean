/-
  No cell of these rows narrows 'for every input' (looked for: loops, veiled, ifaces, maps, wideKeys, modest, calm, conditions, laid).
  DERIVED. THE GIVEN ROWS OF THIS SEAT. 29 by the template 'for every input the law returns true; each argument reads behind the call as it read before'; 0 by the template 'total and deterministic' (their statements: YtmldccfchnlpgaaTotals.lean).
  GIVEN WITH THE SEED: the statements are not yours to turn. If you find one false, say at which input.
  Laid BY PROGRAM, IN A SANDBOX (cutbox-rows.mjs): the forced cells as the released guide's own fill.sh prints them over the translation 1a6ac734564ce890… (all of the seat's roots in one cut). By AI agents, Wed Nov 11 2026. No macro, syntax, notation, axiom, sorry.
-/
import Derived.Test.YtmldccfchnlpgaaChecked
import GoSem.Claim
import GoSem.ClaimJoined
import GoSem.ClaimMapViews
import Derived.JoinedTies
import Derived.KernelRfl
namespace Go.Proofs.Ytmldccfchnlpgaa
/- THE CELL 'sum', in the pinned program and in every row, IS THE sha256 OF THE DUMP (.gsa) THAT YtmldccfchnlpgaaProg.lean LOADS. Nothing in Lean hashes anything: it is a label: what it is worth is what the hold of that sum in a sandbox is worth. -/
noncomputable def Try.pinned : Pinned := { name := "ytmldccfchnlpgaa", sum := "1a6ac734564ce89005f944d6d70b9dbc2db19aba3202118de218e7800c33dd3c", checked := Try.checked }
namespace Rows
def none {H : Type} : Left H := { results := [], args := [] }

/-- 'sacristylaw4.StreamTells': WHATEVER THE INPUT: true; the input reads as it did. -/
def streamTellsSpec : ChangeSpec := { name := "streamTells", fn := fun _ => fun
  | [d1, d2, d3, d4, d5, d6, d7, d8] => { results := [.lit (.bool true)], args := [d1, d2, d3, d4, d5, d6, d7, d8] }
  | _ => none }
def streamTellsRow : OpenClaim := { program := "ytmldccfchnlpgaa", sum := "1a6ac734564ce89005f944d6d70b9dbc2db19aba3202118de218e7800c33dd3c", func := "sacristy/sacristylaw4.StreamTells", spec := "streamTells", plainKeys := false, apart := false }
def StreamTellsSaid : Prop := streamTellsRow.holds Try.pinned (OpenSpec.ofChange streamTellsSpec)

/-- ITS FALSE NEIGHBOUR: 'it returns false'. Refute it at one input. -/
def streamTellsWrong : ChangeSpec := { name := "streamTells", fn := fun _ => fun
  | [d1, d2, d3, d4, d5, d6, d7, d8] => { results := [.lit (.bool false)], args := [d1, d2, d3, d4, d5, d6, d7, d8] }
  | _ => none }
def StreamTellsWrongFalsely : Prop := streamTellsRow.holds Try.pinned (OpenSpec.ofChange streamTellsWrong)

/-- 'sacristylaw2.ShaTells': WHATEVER THE INPUT: true; the input reads as it did. -/
def shaTellsSpec : ChangeSpec := { name := "shaTells", fn := fun _ => fun
  | [d1, d2] => { results := [.lit (.bool true)], args := [d1, d2] }
  | _ => none }
def shaTellsRow : OpenClaim := { program := "ytmldccfchnlpgaa", sum := "1a6ac734564ce89005f944d6d70b9dbc2db19aba3202118de218e7800c33dd3c", func := "sacristy/sacristylaw2.ShaTells", spec := "shaTells", plainKeys := false, apart := false }
def ShaTellsSaid : Prop := shaTellsRow.holds Try.pinned (OpenSpec.ofChange shaTellsSpec)

/-- ITS FALSE NEIGHBOUR: 'it returns false'. Refute it at one input. -/
def shaTellsWrong : ChangeSpec := { name := "shaTells", fn := fun _ => fun
  | [d1, d2] => { results := [.lit (.bool false)], args := [d1, d2] }
  | _ => none }
def ShaTellsWrongFalsely : Prop := shaTellsRow.holds Try.pinned (OpenSpec.ofChange shaTellsWrong)

/-- 'sacristylaw2.ShaHex': WHATEVER THE INPUT: true; the input reads as it did. -/
def shaHexSpec : ChangeSpec := { name := "shaHex", fn := fun _ => fun
  | [d1, d2] => { results := [.lit (.bool true)], args := [d1, d2] }
  | _ => none }
def shaHexRow : OpenClaim := { program := "ytmldccfchnlpgaa", sum := "1a6ac734564ce89005f944d6d70b9dbc2db19aba3202118de218e7800c33dd3c", func := "sacristy/sacristylaw2.ShaHex", spec := "shaHex", plainKeys := false, apart := false }
def ShaHexSaid : Prop := shaHexRow.holds Try.pinned (OpenSpec.ofChange shaHexSpec)

/-- ITS FALSE NEIGHBOUR: 'it returns false'. Refute it at one input. -/
def shaHexWrong : ChangeSpec := { name := "shaHex", fn := fun _ => fun
  | [d1, d2] => { results := [.lit (.bool false)], args := [d1, d2] }
  | _ => none }
def ShaHexWrongFalsely : Prop := shaHexRow.holds Try.pinned (OpenSpec.ofChange shaHexWrong)

/-- 'sacristylaw2.ShaChains': WHATEVER THE INPUT: true; the input reads as it did. -/
def shaChainsSpec : ChangeSpec := { name := "shaChains", fn := fun _ => fun
  | [d1, d2, d3] => { results := [.lit (.bool true)], args := [d1, d2, d3] }
  | _ => none }
def shaChainsRow : OpenClaim := { program := "ytmldccfchnlpgaa", sum := "1a6ac734564ce89005f944d6d70b9dbc2db19aba3202118de218e7800c33dd3c", func := "sacristy/sacristylaw2.ShaChains", spec := "shaChains", plainKeys := false, apart := false }
def ShaChainsSaid : Prop := shaChainsRow.holds Try.pinned (OpenSpec.ofChange shaChainsSpec)

/-- ITS FALSE NEIGHBOUR: 'it returns false'. Refute it at one input. -/
def shaChainsWrong : ChangeSpec := { name := "shaChains", fn := fun _ => fun
  | [d1, d2, d3] => { results := [.lit (.bool false)], args := [d1, d2, d3] }
  | _ => none }
def ShaChainsWrongFalsely : Prop := shaChainsRow.holds Try.pinned (OpenSpec.ofChange shaChainsWrong)

/-- 'sacristylaw2.ShaSizes': WHATEVER THE INPUT: true; the input reads as it did. -/
def shaSizesSpec : ChangeSpec := { name := "shaSizes", fn := fun _ => fun
  | [d1, d2] => { results := [.lit (.bool true)], args := [d1, d2] }
  | _ => none }
def shaSizesRow : OpenClaim := { program := "ytmldccfchnlpgaa", sum := "1a6ac734564ce89005f944d6d70b9dbc2db19aba3202118de218e7800c33dd3c", func := "sacristy/sacristylaw2.ShaSizes", spec := "shaSizes", plainKeys := false, apart := false }
def ShaSizesSaid : Prop := shaSizesRow.holds Try.pinned (OpenSpec.ofChange shaSizesSpec)

/-- ITS FALSE NEIGHBOUR: 'it returns false'. Refute it at one input. -/
def shaSizesWrong : ChangeSpec := { name := "shaSizes", fn := fun _ => fun
  | [d1, d2] => { results := [.lit (.bool false)], args := [d1, d2] }
  | _ => none }
def ShaSizesWrongFalsely : Prop := shaSizesRow.holds Try.pinned (OpenSpec.ofChange shaSizesWrong)

/-- 'sacristylaw2.ShaPieces': WHATEVER THE INPUT: true; the input reads as it did. -/
def shaPiecesSpec : ChangeSpec := { name := "shaPieces", fn := fun _ => fun
  | [d1, d2] => { results := [.lit (.bool true)], args := [d1, d2] }
  | _ => none }
def shaPiecesRow : OpenClaim := { program := "ytmldccfchnlpgaa", sum := "1a6ac734564ce89005f944d6d70b9dbc2db19aba3202118de218e7800c33dd3c", func := "sacristy/sacristylaw2.ShaPieces", spec := "shaPieces", plainKeys := false, apart := false }
def ShaPiecesSaid : Prop := shaPiecesRow.holds Try.pinned (OpenSpec.ofChange shaPiecesSpec)

/-- ITS FALSE NEIGHBOUR: 'it returns false'. Refute it at one input. -/
def shaPiecesWrong : ChangeSpec := { name := "shaPieces", fn := fun _ => fun
  | [d1, d2] => { results := [.lit (.bool false)], args := [d1, d2] }
  | _ => none }
def ShaPiecesWrongFalsely : Prop := shaPiecesRow.holds Try.pinned (OpenSpec.ofChange shaPiecesWrong)

/-- 'sacristylaw8.NodeBounds': WHATEVER THE INPUT: true; the input reads as it did. -/
def nodeBoundsSpec : ChangeSpec := { name := "nodeBounds", fn := fun _ => fun
  | [d1, d2] => { results := [.lit (.bool true)], args := [d1, d2] }
  | _ => none }
def nodeBoundsRow : OpenClaim := { program := "ytmldccfchnlpgaa", sum := "1a6ac734564ce89005f944d6d70b9dbc2db19aba3202118de218e7800c33dd3c", func := "sacristy/sacristylaw8.NodeBounds", spec := "nodeBounds", plainKeys := false, apart := false }
def NodeBoundsSaid : Prop := nodeBoundsRow.holds Try.pinned (OpenSpec.ofChange nodeBoundsSpec)

/-- ITS FALSE NEIGHBOUR: 'it returns false'. Refute it at one input. -/
def nodeBoundsWrong : ChangeSpec := { name := "nodeBounds", fn := fun _ => fun
  | [d1, d2] => { results := [.lit (.bool false)], args := [d1, d2] }
  | _ => none }
def NodeBoundsWrongFalsely : Prop := nodeBoundsRow.holds Try.pinned (OpenSpec.ofChange nodeBoundsWrong)

/-- 'sacristylaw8.NodeFull': WHATEVER THE INPUT: true; the input reads as it did. -/
def nodeFullSpec : ChangeSpec := { name := "nodeFull", fn := fun _ => fun
  | [d1, d2] => { results := [.lit (.bool true)], args := [d1, d2] }
  | _ => none }
def nodeFullRow : OpenClaim := { program := "ytmldccfchnlpgaa", sum := "1a6ac734564ce89005f944d6d70b9dbc2db19aba3202118de218e7800c33dd3c", func := "sacristy/sacristylaw8.NodeFull", spec := "nodeFull", plainKeys := false, apart := false }
def NodeFullSaid : Prop := nodeFullRow.holds Try.pinned (OpenSpec.ofChange nodeFullSpec)

/-- ITS FALSE NEIGHBOUR: 'it returns false'. Refute it at one input. -/
def nodeFullWrong : ChangeSpec := { name := "nodeFull", fn := fun _ => fun
  | [d1, d2] => { results := [.lit (.bool false)], args := [d1, d2] }
  | _ => none }
def NodeFullWrongFalsely : Prop := nodeFullRow.holds Try.pinned (OpenSpec.ofChange nodeFullWrong)

/-- 'sacristylaw8.NodeKids': WHATEVER THE INPUT: true; the input reads as it did. -/
def nodeKidsSpec : ChangeSpec := { name := "nodeKids", fn := fun _ => fun
  | [d1, d2] => { results := [.lit (.bool true)], args := [d1, d2] }
  | _ => none }
def nodeKidsRow : OpenClaim := { program := "ytmldccfchnlpgaa", sum := "1a6ac734564ce89005f944d6d70b9dbc2db19aba3202118de218e7800c33dd3c", func := "sacristy/sacristylaw8.NodeKids", spec := "nodeKids", plainKeys := false, apart := false }
def NodeKidsSaid : Prop := nodeKidsRow.holds Try.pinned (OpenSpec.ofChange nodeKidsSpec)

/-- ITS FALSE NEIGHBOUR: 'it returns false'. Refute it at one input. -/
def nodeKidsWrong : ChangeSpec := { name := "nodeKids", fn := fun _ => fun
  | [d1, d2] => { results := [.lit (.bool false)], args := [d1, d2] }
  | _ => none }
def NodeKidsWrongFalsely : Prop := nodeKidsRow.holds Try.pinned (OpenSpec.ofChange nodeKidsWrong)

/-- 'sacristylaw8.NodeReads': WHATEVER THE INPUT: true; the input reads as it did. -/
def nodeReadsSpec : ChangeSpec := { name := "nodeReads", fn := fun _ => fun
  | [d] => { results := [.lit (.bool true)], args := [d] }
  | _ => none }
def nodeReadsRow : OpenClaim := { program := "ytmldccfchnlpgaa", sum := "1a6ac734564ce89005f944d6d70b9dbc2db19aba3202118de218e7800c33dd3c", func := "sacristy/sacristylaw8.NodeReads", spec := "nodeReads", plainKeys := false, apart := false }
def NodeReadsSaid : Prop := nodeReadsRow.holds Try.pinned (OpenSpec.ofChange nodeReadsSpec)

/-- ITS FALSE NEIGHBOUR: 'it returns false'. Refute it at one input. -/
def nodeReadsWrong : ChangeSpec := { name := "nodeReads", fn := fun _ => fun
  | [d] => { results := [.lit (.bool false)], args := [d] }
  | _ => none }
def NodeReadsWrongFalsely : Prop := nodeReadsRow.holds Try.pinned (OpenSpec.ofChange nodeReadsWrong)

/-- 'sacristylaw8.NodeBack': WHATEVER THE INPUT: true; the input reads as it did. -/
def nodeBackSpec : ChangeSpec := { name := "nodeBack", fn := fun _ => fun
  | [d1, d2, d3, d4, d5] => { results := [.lit (.bool true)], args := [d1, d2, d3, d4, d5] }
  | _ => none }
def nodeBackRow : OpenClaim := { program := "ytmldccfchnlpgaa", sum := "1a6ac734564ce89005f944d6d70b9dbc2db19aba3202118de218e7800c33dd3c", func := "sacristy/sacristylaw8.NodeBack", spec := "nodeBack", plainKeys := false, apart := false }
def NodeBackSaid : Prop := nodeBackRow.holds Try.pinned (OpenSpec.ofChange nodeBackSpec)

/-- ITS FALSE NEIGHBOUR: 'it returns false'. Refute it at one input. -/
def nodeBackWrong : ChangeSpec := { name := "nodeBack", fn := fun _ => fun
  | [d1, d2, d3, d4, d5] => { results := [.lit (.bool false)], args := [d1, d2, d3, d4, d5] }
  | _ => none }
def NodeBackWrongFalsely : Prop := nodeBackRow.holds Try.pinned (OpenSpec.ofChange nodeBackWrong)

/-- 'sacristylaw3.MacLong': WHATEVER THE INPUT: true; the input reads as it did. -/
def macLongSpec : ChangeSpec := { name := "macLong", fn := fun _ => fun
  | [d1, d2, d3] => { results := [.lit (.bool true)], args := [d1, d2, d3] }
  | _ => none }
def macLongRow : OpenClaim := { program := "ytmldccfchnlpgaa", sum := "1a6ac734564ce89005f944d6d70b9dbc2db19aba3202118de218e7800c33dd3c", func := "sacristy/sacristylaw3.MacLong", spec := "macLong", plainKeys := false, apart := false }
def MacLongSaid : Prop := macLongRow.holds Try.pinned (OpenSpec.ofChange macLongSpec)

/-- ITS FALSE NEIGHBOUR: 'it returns false'. Refute it at one input. -/
def macLongWrong : ChangeSpec := { name := "macLong", fn := fun _ => fun
  | [d1, d2, d3] => { results := [.lit (.bool false)], args := [d1, d2, d3] }
  | _ => none }
def MacLongWrongFalsely : Prop := macLongRow.holds Try.pinned (OpenSpec.ofChange macLongWrong)

/-- 'sacristylaw3.MacBegins': WHATEVER THE INPUT: true; the input reads as it did. -/
def macBeginsSpec : ChangeSpec := { name := "macBegins", fn := fun _ => fun
  | [d1, d2, d3, d4] => { results := [.lit (.bool true)], args := [d1, d2, d3, d4] }
  | _ => none }
def macBeginsRow : OpenClaim := { program := "ytmldccfchnlpgaa", sum := "1a6ac734564ce89005f944d6d70b9dbc2db19aba3202118de218e7800c33dd3c", func := "sacristy/sacristylaw3.MacBegins", spec := "macBegins", plainKeys := false, apart := false }
def MacBeginsSaid : Prop := macBeginsRow.holds Try.pinned (OpenSpec.ofChange macBeginsSpec)

/-- ITS FALSE NEIGHBOUR: 'it returns false'. Refute it at one input. -/
def macBeginsWrong : ChangeSpec := { name := "macBegins", fn := fun _ => fun
  | [d1, d2, d3, d4] => { results := [.lit (.bool false)], args := [d1, d2, d3, d4] }
  | _ => none }
def MacBeginsWrongFalsely : Prop := macBeginsRow.holds Try.pinned (OpenSpec.ofChange macBeginsWrong)

/-- 'sacristylaw3.MacApart': WHATEVER THE INPUT: true; the input reads as it did. -/
def macApartSpec : ChangeSpec := { name := "macApart", fn := fun _ => fun
  | [d1, d2, d3] => { results := [.lit (.bool true)], args := [d1, d2, d3] }
  | _ => none }
def macApartRow : OpenClaim := { program := "ytmldccfchnlpgaa", sum := "1a6ac734564ce89005f944d6d70b9dbc2db19aba3202118de218e7800c33dd3c", func := "sacristy/sacristylaw3.MacApart", spec := "macApart", plainKeys := false, apart := false }
def MacApartSaid : Prop := macApartRow.holds Try.pinned (OpenSpec.ofChange macApartSpec)

/-- ITS FALSE NEIGHBOUR: 'it returns false'. Refute it at one input. -/
def macApartWrong : ChangeSpec := { name := "macApart", fn := fun _ => fun
  | [d1, d2, d3] => { results := [.lit (.bool false)], args := [d1, d2, d3] }
  | _ => none }
def MacApartWrongFalsely : Prop := macApartRow.holds Try.pinned (OpenSpec.ofChange macApartWrong)

/-- 'sacristylaw3.MacRows': WHATEVER THE INPUT: true; the input reads as it did. -/
def macRowsSpec : ChangeSpec := { name := "macRows", fn := fun _ => fun
  | [d1, d2, d3] => { results := [.lit (.bool true)], args := [d1, d2, d3] }
  | _ => none }
def macRowsRow : OpenClaim := { program := "ytmldccfchnlpgaa", sum := "1a6ac734564ce89005f944d6d70b9dbc2db19aba3202118de218e7800c33dd3c", func := "sacristy/sacristylaw3.MacRows", spec := "macRows", plainKeys := false, apart := false }
def MacRowsSaid : Prop := macRowsRow.holds Try.pinned (OpenSpec.ofChange macRowsSpec)

/-- ITS FALSE NEIGHBOUR: 'it returns false'. Refute it at one input. -/
def macRowsWrong : ChangeSpec := { name := "macRows", fn := fun _ => fun
  | [d1, d2, d3] => { results := [.lit (.bool false)], args := [d1, d2, d3] }
  | _ => none }
def MacRowsWrongFalsely : Prop := macRowsRow.holds Try.pinned (OpenSpec.ofChange macRowsWrong)

/-- 'sacristylaw3.MacEqual': WHATEVER THE INPUT: true; the input reads as it did. -/
def macEqualSpec : ChangeSpec := { name := "macEqual", fn := fun _ => fun
  | [d1, d2, d3, d4] => { results := [.lit (.bool true)], args := [d1, d2, d3, d4] }
  | _ => none }
def macEqualRow : OpenClaim := { program := "ytmldccfchnlpgaa", sum := "1a6ac734564ce89005f944d6d70b9dbc2db19aba3202118de218e7800c33dd3c", func := "sacristy/sacristylaw3.MacEqual", spec := "macEqual", plainKeys := false, apart := false }
def MacEqualSaid : Prop := macEqualRow.holds Try.pinned (OpenSpec.ofChange macEqualSpec)

/-- ITS FALSE NEIGHBOUR: 'it returns false'. Refute it at one input. -/
def macEqualWrong : ChangeSpec := { name := "macEqual", fn := fun _ => fun
  | [d1, d2, d3, d4] => { results := [.lit (.bool false)], args := [d1, d2, d3, d4] }
  | _ => none }
def MacEqualWrongFalsely : Prop := macEqualRow.holds Try.pinned (OpenSpec.ofChange macEqualWrong)

/-- 'sacristylaw3.MacTells': WHATEVER THE INPUT: true; the input reads as it did. -/
def macTellsSpec : ChangeSpec := { name := "macTells", fn := fun _ => fun
  | [d1, d2, d3, d4, d5, d6] => { results := [.lit (.bool true)], args := [d1, d2, d3, d4, d5, d6] }
  | _ => none }
def macTellsRow : OpenClaim := { program := "ytmldccfchnlpgaa", sum := "1a6ac734564ce89005f944d6d70b9dbc2db19aba3202118de218e7800c33dd3c", func := "sacristy/sacristylaw3.MacTells", spec := "macTells", plainKeys := false, apart := false }
def MacTellsSaid : Prop := macTellsRow.holds Try.pinned (OpenSpec.ofChange macTellsSpec)

/-- ITS FALSE NEIGHBOUR: 'it returns false'. Refute it at one input. -/
def macTellsWrong : ChangeSpec := { name := "macTells", fn := fun _ => fun
  | [d1, d2, d3, d4, d5, d6] => { results := [.lit (.bool false)], args := [d1, d2, d3, d4, d5, d6] }
  | _ => none }
def MacTellsWrongFalsely : Prop := macTellsRow.holds Try.pinned (OpenSpec.ofChange macTellsWrong)

/-- 'sacristylaw5.SealTells': WHATEVER THE INPUT: true; the input reads as it did. -/
def sealTellsSpec : ChangeSpec := { name := "sealTells", fn := fun _ => fun
  | [d1, d2, d3, d4, d5, d6, d7, d8] => { results := [.lit (.bool true)], args := [d1, d2, d3, d4, d5, d6, d7, d8] }
  | _ => none }
def sealTellsRow : OpenClaim := { program := "ytmldccfchnlpgaa", sum := "1a6ac734564ce89005f944d6d70b9dbc2db19aba3202118de218e7800c33dd3c", func := "sacristy/sacristylaw5.SealTells", spec := "sealTells", plainKeys := false, apart := false }
def SealTellsSaid : Prop := sealTellsRow.holds Try.pinned (OpenSpec.ofChange sealTellsSpec)

/-- ITS FALSE NEIGHBOUR: 'it returns false'. Refute it at one input. -/
def sealTellsWrong : ChangeSpec := { name := "sealTells", fn := fun _ => fun
  | [d1, d2, d3, d4, d5, d6, d7, d8] => { results := [.lit (.bool false)], args := [d1, d2, d3, d4, d5, d6, d7, d8] }
  | _ => none }
def SealTellsWrongFalsely : Prop := sealTellsRow.holds Try.pinned (OpenSpec.ofChange sealTellsWrong)

/-- 'sacristylaw5.SealBack': WHATEVER THE INPUT: true; the input reads as it did. -/
def sealBackSpec : ChangeSpec := { name := "sealBack", fn := fun _ => fun
  | [d1, d2, d3, d4, d5] => { results := [.lit (.bool true)], args := [d1, d2, d3, d4, d5] }
  | _ => none }
def sealBackRow : OpenClaim := { program := "ytmldccfchnlpgaa", sum := "1a6ac734564ce89005f944d6d70b9dbc2db19aba3202118de218e7800c33dd3c", func := "sacristy/sacristylaw5.SealBack", spec := "sealBack", plainKeys := false, apart := false }
def SealBackSaid : Prop := sealBackRow.holds Try.pinned (OpenSpec.ofChange sealBackSpec)

/-- ITS FALSE NEIGHBOUR: 'it returns false'. Refute it at one input. -/
def sealBackWrong : ChangeSpec := { name := "sealBack", fn := fun _ => fun
  | [d1, d2, d3, d4, d5] => { results := [.lit (.bool false)], args := [d1, d2, d3, d4, d5] }
  | _ => none }
def SealBackWrongFalsely : Prop := sealBackRow.holds Try.pinned (OpenSpec.ofChange sealBackWrong)

/-- 'sacristylaw5.SealTags': WHATEVER THE INPUT: true; the input reads as it did. -/
def sealTagsSpec : ChangeSpec := { name := "sealTags", fn := fun _ => fun
  | [d1, d2, d3, d4, d5, d6, d7] => { results := [.lit (.bool true)], args := [d1, d2, d3, d4, d5, d6, d7] }
  | _ => none }
def sealTagsRow : OpenClaim := { program := "ytmldccfchnlpgaa", sum := "1a6ac734564ce89005f944d6d70b9dbc2db19aba3202118de218e7800c33dd3c", func := "sacristy/sacristylaw5.SealTags", spec := "sealTags", plainKeys := false, apart := false }
def SealTagsSaid : Prop := sealTagsRow.holds Try.pinned (OpenSpec.ofChange sealTagsSpec)

/-- ITS FALSE NEIGHBOUR: 'it returns false'. Refute it at one input. -/
def sealTagsWrong : ChangeSpec := { name := "sealTags", fn := fun _ => fun
  | [d1, d2, d3, d4, d5, d6, d7] => { results := [.lit (.bool false)], args := [d1, d2, d3, d4, d5, d6, d7] }
  | _ => none }
def SealTagsWrongFalsely : Prop := sealTagsRow.holds Try.pinned (OpenSpec.ofChange sealTagsWrong)

/-- 'sacristylaw5.SealWraps': WHATEVER THE INPUT: true; the input reads as it did. -/
def sealWrapsSpec : ChangeSpec := { name := "sealWraps", fn := fun _ => fun
  | [d1, d2, d3, d4, d5, d6] => { results := [.lit (.bool true)], args := [d1, d2, d3, d4, d5, d6] }
  | _ => none }
def sealWrapsRow : OpenClaim := { program := "ytmldccfchnlpgaa", sum := "1a6ac734564ce89005f944d6d70b9dbc2db19aba3202118de218e7800c33dd3c", func := "sacristy/sacristylaw5.SealWraps", spec := "sealWraps", plainKeys := false, apart := false }
def SealWrapsSaid : Prop := sealWrapsRow.holds Try.pinned (OpenSpec.ofChange sealWrapsSpec)

/-- ITS FALSE NEIGHBOUR: 'it returns false'. Refute it at one input. -/
def sealWrapsWrong : ChangeSpec := { name := "sealWraps", fn := fun _ => fun
  | [d1, d2, d3, d4, d5, d6] => { results := [.lit (.bool false)], args := [d1, d2, d3, d4, d5, d6] }
  | _ => none }
def SealWrapsWrongFalsely : Prop := sealWrapsRow.holds Try.pinned (OpenSpec.ofChange sealWrapsWrong)

/-- 'sacristylaw5.SealNonces': WHATEVER THE INPUT: true; the input reads as it did. -/
def sealNoncesSpec : ChangeSpec := { name := "sealNonces", fn := fun _ => fun
  | [d1, d2, d3, d4] => { results := [.lit (.bool true)], args := [d1, d2, d3, d4] }
  | _ => none }
def sealNoncesRow : OpenClaim := { program := "ytmldccfchnlpgaa", sum := "1a6ac734564ce89005f944d6d70b9dbc2db19aba3202118de218e7800c33dd3c", func := "sacristy/sacristylaw5.SealNonces", spec := "sealNonces", plainKeys := false, apart := false }
def SealNoncesSaid : Prop := sealNoncesRow.holds Try.pinned (OpenSpec.ofChange sealNoncesSpec)

/-- ITS FALSE NEIGHBOUR: 'it returns false'. Refute it at one input. -/
def sealNoncesWrong : ChangeSpec := { name := "sealNonces", fn := fun _ => fun
  | [d1, d2, d3, d4] => { results := [.lit (.bool false)], args := [d1, d2, d3, d4] }
  | _ => none }
def SealNoncesWrongFalsely : Prop := sealNoncesRow.holds Try.pinned (OpenSpec.ofChange sealNoncesWrong)

/-- 'sacristylaw5.SealLengths': WHATEVER THE INPUT: true; the input reads as it did. -/
def sealLengthsSpec : ChangeSpec := { name := "sealLengths", fn := fun _ => fun
  | [d1, d2, d3, d4, d5, d6] => { results := [.lit (.bool true)], args := [d1, d2, d3, d4, d5, d6] }
  | _ => none }
def sealLengthsRow : OpenClaim := { program := "ytmldccfchnlpgaa", sum := "1a6ac734564ce89005f944d6d70b9dbc2db19aba3202118de218e7800c33dd3c", func := "sacristy/sacristylaw5.SealLengths", spec := "sealLengths", plainKeys := false, apart := false }
def SealLengthsSaid : Prop := sealLengthsRow.holds Try.pinned (OpenSpec.ofChange sealLengthsSpec)

/-- ITS FALSE NEIGHBOUR: 'it returns false'. Refute it at one input. -/
def sealLengthsWrong : ChangeSpec := { name := "sealLengths", fn := fun _ => fun
  | [d1, d2, d3, d4, d5, d6] => { results := [.lit (.bool false)], args := [d1, d2, d3, d4, d5, d6] }
  | _ => none }
def SealLengthsWrongFalsely : Prop := sealLengthsRow.holds Try.pinned (OpenSpec.ofChange sealLengthsWrong)

/-- 'sacristylaw27.ImageTells': WHATEVER THE INPUT: true; the input reads as it did. -/
def imageTellsSpec : ChangeSpec := { name := "imageTells", fn := fun _ => fun
  | [d1, d2, d3, d4] => { results := [.lit (.bool true)], args := [d1, d2, d3, d4] }
  | _ => none }
def imageTellsRow : OpenClaim := { program := "ytmldccfchnlpgaa", sum := "1a6ac734564ce89005f944d6d70b9dbc2db19aba3202118de218e7800c33dd3c", func := "sacristy/sacristylaw27.ImageTells", spec := "imageTells", inPlace := ["internal/bytealg.IndexByte", "internal/bytealg.Index"], named := ["internal/bytealg.MaxLen"], plainKeys := false, apart := false }
def ImageTellsSaid : Prop := imageTellsRow.holds Try.pinned (OpenSpec.ofChange imageTellsSpec)

/-- ITS FALSE NEIGHBOUR: 'it returns false'. Refute it at one input. -/
def imageTellsWrong : ChangeSpec := { name := "imageTells", fn := fun _ => fun
  | [d1, d2, d3, d4] => { results := [.lit (.bool false)], args := [d1, d2, d3, d4] }
  | _ => none }
def ImageTellsWrongFalsely : Prop := imageTellsRow.holds Try.pinned (OpenSpec.ofChange imageTellsWrong)

/-- 'sacristylaw27.ImageWrapped': WHATEVER THE INPUT: true; the input reads as it did. -/
def imageWrappedSpec : ChangeSpec := { name := "imageWrapped", fn := fun _ => fun
  | [d1, d2, d3, d4, d5, d6, d7, d8, d9] => { results := [.lit (.bool true)], args := [d1, d2, d3, d4, d5, d6, d7, d8, d9] }
  | _ => none }
def imageWrappedRow : OpenClaim := { program := "ytmldccfchnlpgaa", sum := "1a6ac734564ce89005f944d6d70b9dbc2db19aba3202118de218e7800c33dd3c", func := "sacristy/sacristylaw27.ImageWrapped", spec := "imageWrapped", inPlace := ["internal/bytealg.IndexByte", "internal/bytealg.Index"], named := ["internal/bytealg.MaxLen"], plainKeys := false, apart := false }
def ImageWrappedSaid : Prop := imageWrappedRow.holds Try.pinned (OpenSpec.ofChange imageWrappedSpec)

/-- ITS FALSE NEIGHBOUR: 'it returns false'. Refute it at one input. -/
def imageWrappedWrong : ChangeSpec := { name := "imageWrapped", fn := fun _ => fun
  | [d1, d2, d3, d4, d5, d6, d7, d8, d9] => { results := [.lit (.bool false)], args := [d1, d2, d3, d4, d5, d6, d7, d8, d9] }
  | _ => none }
def ImageWrappedWrongFalsely : Prop := imageWrappedRow.holds Try.pinned (OpenSpec.ofChange imageWrappedWrong)

/-- 'sacristylaw27.ImageParts': WHATEVER THE INPUT: true; the input reads as it did. -/
def imagePartsSpec : ChangeSpec := { name := "imageParts", fn := fun _ => fun
  | [d1, d2, d3] => { results := [.lit (.bool true)], args := [d1, d2, d3] }
  | _ => none }
def imagePartsRow : OpenClaim := { program := "ytmldccfchnlpgaa", sum := "1a6ac734564ce89005f944d6d70b9dbc2db19aba3202118de218e7800c33dd3c", func := "sacristy/sacristylaw27.ImageParts", spec := "imageParts", inPlace := ["internal/bytealg.IndexByte", "internal/bytealg.Index"], named := ["internal/bytealg.MaxLen"], plainKeys := false, apart := false }
def ImagePartsSaid : Prop := imagePartsRow.holds Try.pinned (OpenSpec.ofChange imagePartsSpec)

/-- ITS FALSE NEIGHBOUR: 'it returns false'. Refute it at one input. -/
def imagePartsWrong : ChangeSpec := { name := "imageParts", fn := fun _ => fun
  | [d1, d2, d3] => { results := [.lit (.bool false)], args := [d1, d2, d3] }
  | _ => none }
def ImagePartsWrongFalsely : Prop := imagePartsRow.holds Try.pinned (OpenSpec.ofChange imagePartsWrong)

/-- 'sacristylaw27.ImageSectors': WHATEVER THE INPUT: true; the input reads as it did. -/
def imageSectorsSpec : ChangeSpec := { name := "imageSectors", fn := fun _ => fun
  | [d1, d2, d3] => { results := [.lit (.bool true)], args := [d1, d2, d3] }
  | _ => none }
def imageSectorsRow : OpenClaim := { program := "ytmldccfchnlpgaa", sum := "1a6ac734564ce89005f944d6d70b9dbc2db19aba3202118de218e7800c33dd3c", func := "sacristy/sacristylaw27.ImageSectors", spec := "imageSectors", inPlace := ["internal/bytealg.IndexByte", "internal/bytealg.Index"], named := ["internal/bytealg.MaxLen"], plainKeys := false, apart := false }
def ImageSectorsSaid : Prop := imageSectorsRow.holds Try.pinned (OpenSpec.ofChange imageSectorsSpec)

/-- ITS FALSE NEIGHBOUR: 'it returns false'. Refute it at one input. -/
def imageSectorsWrong : ChangeSpec := { name := "imageSectors", fn := fun _ => fun
  | [d1, d2, d3] => { results := [.lit (.bool false)], args := [d1, d2, d3] }
  | _ => none }
def ImageSectorsWrongFalsely : Prop := imageSectorsRow.holds Try.pinned (OpenSpec.ofChange imageSectorsWrong)

/-- 'sacristylaw27.ImagePieces': WHATEVER THE INPUT: true; the input reads as it did. -/
def imagePiecesSpec : ChangeSpec := { name := "imagePieces", fn := fun _ => fun
  | [d1, d2, d3, d4] => { results := [.lit (.bool true)], args := [d1, d2, d3, d4] }
  | _ => none }
def imagePiecesRow : OpenClaim := { program := "ytmldccfchnlpgaa", sum := "1a6ac734564ce89005f944d6d70b9dbc2db19aba3202118de218e7800c33dd3c", func := "sacristy/sacristylaw27.ImagePieces", spec := "imagePieces", inPlace := ["internal/bytealg.IndexByte", "internal/bytealg.Index"], named := ["internal/bytealg.MaxLen"], plainKeys := false, apart := false }
def ImagePiecesSaid : Prop := imagePiecesRow.holds Try.pinned (OpenSpec.ofChange imagePiecesSpec)

/-- ITS FALSE NEIGHBOUR: 'it returns false'. Refute it at one input. -/
def imagePiecesWrong : ChangeSpec := { name := "imagePieces", fn := fun _ => fun
  | [d1, d2, d3, d4] => { results := [.lit (.bool false)], args := [d1, d2, d3, d4] }
  | _ => none }
def ImagePiecesWrongFalsely : Prop := imagePiecesRow.holds Try.pinned (OpenSpec.ofChange imagePiecesWrong)

/-- 'sacristylaw27.ImageFirst': WHATEVER THE INPUT: true; the input reads as it did. -/
def imageFirstSpec : ChangeSpec := { name := "imageFirst", fn := fun _ => fun
  | [d1, d2, d3, d4, d5] => { results := [.lit (.bool true)], args := [d1, d2, d3, d4, d5] }
  | _ => none }
def imageFirstRow : OpenClaim := { program := "ytmldccfchnlpgaa", sum := "1a6ac734564ce89005f944d6d70b9dbc2db19aba3202118de218e7800c33dd3c", func := "sacristy/sacristylaw27.ImageFirst", spec := "imageFirst", inPlace := ["internal/bytealg.IndexByte", "internal/bytealg.Index"], named := ["internal/bytealg.MaxLen"], plainKeys := false, apart := false }
def ImageFirstSaid : Prop := imageFirstRow.holds Try.pinned (OpenSpec.ofChange imageFirstSpec)

/-- ITS FALSE NEIGHBOUR: 'it returns false'. Refute it at one input. -/
def imageFirstWrong : ChangeSpec := { name := "imageFirst", fn := fun _ => fun
  | [d1, d2, d3, d4, d5] => { results := [.lit (.bool false)], args := [d1, d2, d3, d4, d5] }
  | _ => none }
def ImageFirstWrongFalsely : Prop := imageFirstRow.holds Try.pinned (OpenSpec.ofChange imageFirstWrong)

/- THE SECOND FORM. 'bulk': how many values and letters a reading holds, each counted each time it is reached (what is shared counts as often as it is met; a slice's spare places count too). A statement '..UptoSaid' is the law's where the arguments, and the package variables that the reading takes, are together of bulk at most 1048576: NARROWER than '..Said'. Prove '..Said' where nothing that the law and all that it calls make is longer than what came in: it says more and counts as full. Else prove '..UptoSaid'. A law counts once. -/
mutual
def uptoBulk {H : Type} : DataW H → Nat
  | .lit (.string bytes) => bytes.length + 1
  | .lit _ => 1
  | .nil => 1
  | .ptr d => uptoBulk d + 1
  | .slice elems spare => uptoBulkAll elems + uptoBulkAll spare + 1
  | .agg parts => uptoBulkAll parts + 1
  | .iface _ d => uptoBulk d + 1
  | .map entries => uptoBulkEntries entries + 1
  | .held _ => 1
def uptoBulkAll {H : Type} : List (DataW H) → Nat
  | [] => 0
  | d :: r => uptoBulk d + uptoBulkAll r
def uptoBulkEntries {H : Type} : List (Lit × DataW H) → Nat
  | [] => 0
  | x :: r => uptoBulkEntry x + uptoBulkEntries r
def uptoBulkEntry {H : Type} : Lit × DataW H → Nat
  | (.string bytes, d) => bytes.length + uptoBulk d + 1
  | (_, d) => uptoBulk d + 1
 end
def uptoSmall : (H : Type) → List (DataW H) → Bool := fun _ ds => decide (uptoBulkAll ds ≤ 1048576)
def OpenSpec.upto (s : _root_.Go.ChangeSpec) : _root_.Go.OpenSpec := { _root_.Go.OpenSpec.ofChange s with cond := some uptoSmall }

/-- 'sacristylaw4.StreamTells', WHERE WHAT IT READS IS OF BULK AT MOST 1048576: true; the input reads as it did. -/
def streamTellsUptoRow : OpenClaim := { program := "ytmldccfchnlpgaa", sum := "1a6ac734564ce89005f944d6d70b9dbc2db19aba3202118de218e7800c33dd3c", func := "sacristy/sacristylaw4.StreamTells", spec := "streamTells", plainKeys := false, apart := false, narrowed := true }
def StreamTellsUptoSaid : Prop := streamTellsUptoRow.holds Try.pinned (OpenSpec.upto streamTellsSpec)

/-- 'sacristylaw2.ShaTells', WHERE WHAT IT READS IS OF BULK AT MOST 1048576: true; the input reads as it did. -/
def shaTellsUptoRow : OpenClaim := { program := "ytmldccfchnlpgaa", sum := "1a6ac734564ce89005f944d6d70b9dbc2db19aba3202118de218e7800c33dd3c", func := "sacristy/sacristylaw2.ShaTells", spec := "shaTells", plainKeys := false, apart := false, narrowed := true }
def ShaTellsUptoSaid : Prop := shaTellsUptoRow.holds Try.pinned (OpenSpec.upto shaTellsSpec)

/-- 'sacristylaw2.ShaHex', WHERE WHAT IT READS IS OF BULK AT MOST 1048576: true; the input reads as it did. -/
def shaHexUptoRow : OpenClaim := { program := "ytmldccfchnlpgaa", sum := "1a6ac734564ce89005f944d6d70b9dbc2db19aba3202118de218e7800c33dd3c", func := "sacristy/sacristylaw2.ShaHex", spec := "shaHex", plainKeys := false, apart := false, narrowed := true }
def ShaHexUptoSaid : Prop := shaHexUptoRow.holds Try.pinned (OpenSpec.upto shaHexSpec)

/-- 'sacristylaw2.ShaChains', WHERE WHAT IT READS IS OF BULK AT MOST 1048576: true; the input reads as it did. -/
def shaChainsUptoRow : OpenClaim := { program := "ytmldccfchnlpgaa", sum := "1a6ac734564ce89005f944d6d70b9dbc2db19aba3202118de218e7800c33dd3c", func := "sacristy/sacristylaw2.ShaChains", spec := "shaChains", plainKeys := false, apart := false, narrowed := true }
def ShaChainsUptoSaid : Prop := shaChainsUptoRow.holds Try.pinned (OpenSpec.upto shaChainsSpec)

/-- 'sacristylaw2.ShaSizes', WHERE WHAT IT READS IS OF BULK AT MOST 1048576: true; the input reads as it did. -/
def shaSizesUptoRow : OpenClaim := { program := "ytmldccfchnlpgaa", sum := "1a6ac734564ce89005f944d6d70b9dbc2db19aba3202118de218e7800c33dd3c", func := "sacristy/sacristylaw2.ShaSizes", spec := "shaSizes", plainKeys := false, apart := false, narrowed := true }
def ShaSizesUptoSaid : Prop := shaSizesUptoRow.holds Try.pinned (OpenSpec.upto shaSizesSpec)

/-- 'sacristylaw2.ShaPieces', WHERE WHAT IT READS IS OF BULK AT MOST 1048576: true; the input reads as it did. -/
def shaPiecesUptoRow : OpenClaim := { program := "ytmldccfchnlpgaa", sum := "1a6ac734564ce89005f944d6d70b9dbc2db19aba3202118de218e7800c33dd3c", func := "sacristy/sacristylaw2.ShaPieces", spec := "shaPieces", plainKeys := false, apart := false, narrowed := true }
def ShaPiecesUptoSaid : Prop := shaPiecesUptoRow.holds Try.pinned (OpenSpec.upto shaPiecesSpec)

/-- 'sacristylaw8.NodeBounds', WHERE WHAT IT READS IS OF BULK AT MOST 1048576: true; the input reads as it did. -/
def nodeBoundsUptoRow : OpenClaim := { program := "ytmldccfchnlpgaa", sum := "1a6ac734564ce89005f944d6d70b9dbc2db19aba3202118de218e7800c33dd3c", func := "sacristy/sacristylaw8.NodeBounds", spec := "nodeBounds", plainKeys := false, apart := false, narrowed := true }
def NodeBoundsUptoSaid : Prop := nodeBoundsUptoRow.holds Try.pinned (OpenSpec.upto nodeBoundsSpec)

/-- 'sacristylaw8.NodeFull', WHERE WHAT IT READS IS OF BULK AT MOST 1048576: true; the input reads as it did. -/
def nodeFullUptoRow : OpenClaim := { program := "ytmldccfchnlpgaa", sum := "1a6ac734564ce89005f944d6d70b9dbc2db19aba3202118de218e7800c33dd3c", func := "sacristy/sacristylaw8.NodeFull", spec := "nodeFull", plainKeys := false, apart := false, narrowed := true }
def NodeFullUptoSaid : Prop := nodeFullUptoRow.holds Try.pinned (OpenSpec.upto nodeFullSpec)

/-- 'sacristylaw8.NodeKids', WHERE WHAT IT READS IS OF BULK AT MOST 1048576: true; the input reads as it did. -/
def nodeKidsUptoRow : OpenClaim := { program := "ytmldccfchnlpgaa", sum := "1a6ac734564ce89005f944d6d70b9dbc2db19aba3202118de218e7800c33dd3c", func := "sacristy/sacristylaw8.NodeKids", spec := "nodeKids", plainKeys := false, apart := false, narrowed := true }
def NodeKidsUptoSaid : Prop := nodeKidsUptoRow.holds Try.pinned (OpenSpec.upto nodeKidsSpec)

/-- 'sacristylaw8.NodeReads', WHERE WHAT IT READS IS OF BULK AT MOST 1048576: true; the input reads as it did. -/
def nodeReadsUptoRow : OpenClaim := { program := "ytmldccfchnlpgaa", sum := "1a6ac734564ce89005f944d6d70b9dbc2db19aba3202118de218e7800c33dd3c", func := "sacristy/sacristylaw8.NodeReads", spec := "nodeReads", plainKeys := false, apart := false, narrowed := true }
def NodeReadsUptoSaid : Prop := nodeReadsUptoRow.holds Try.pinned (OpenSpec.upto nodeReadsSpec)

/-- 'sacristylaw8.NodeBack', WHERE WHAT IT READS IS OF BULK AT MOST 1048576: true; the input reads as it did. -/
def nodeBackUptoRow : OpenClaim := { program := "ytmldccfchnlpgaa", sum := "1a6ac734564ce89005f944d6d70b9dbc2db19aba3202118de218e7800c33dd3c", func := "sacristy/sacristylaw8.NodeBack", spec := "nodeBack", plainKeys := false, apart := false, narrowed := true }
def NodeBackUptoSaid : Prop := nodeBackUptoRow.holds Try.pinned (OpenSpec.upto nodeBackSpec)

/-- 'sacristylaw3.MacLong', WHERE WHAT IT READS IS OF BULK AT MOST 1048576: true; the input reads as it did. -/
def macLongUptoRow : OpenClaim := { program := "ytmldccfchnlpgaa", sum := "1a6ac734564ce89005f944d6d70b9dbc2db19aba3202118de218e7800c33dd3c", func := "sacristy/sacristylaw3.MacLong", spec := "macLong", plainKeys := false, apart := false, narrowed := true }
def MacLongUptoSaid : Prop := macLongUptoRow.holds Try.pinned (OpenSpec.upto macLongSpec)

/-- 'sacristylaw3.MacBegins', WHERE WHAT IT READS IS OF BULK AT MOST 1048576: true; the input reads as it did. -/
def macBeginsUptoRow : OpenClaim := { program := "ytmldccfchnlpgaa", sum := "1a6ac734564ce89005f944d6d70b9dbc2db19aba3202118de218e7800c33dd3c", func := "sacristy/sacristylaw3.MacBegins", spec := "macBegins", plainKeys := false, apart := false, narrowed := true }
def MacBeginsUptoSaid : Prop := macBeginsUptoRow.holds Try.pinned (OpenSpec.upto macBeginsSpec)

/-- 'sacristylaw3.MacApart', WHERE WHAT IT READS IS OF BULK AT MOST 1048576: true; the input reads as it did. -/
def macApartUptoRow : OpenClaim := { program := "ytmldccfchnlpgaa", sum := "1a6ac734564ce89005f944d6d70b9dbc2db19aba3202118de218e7800c33dd3c", func := "sacristy/sacristylaw3.MacApart", spec := "macApart", plainKeys := false, apart := false, narrowed := true }
def MacApartUptoSaid : Prop := macApartUptoRow.holds Try.pinned (OpenSpec.upto macApartSpec)

/-- 'sacristylaw3.MacRows', WHERE WHAT IT READS IS OF BULK AT MOST 1048576: true; the input reads as it did. -/
def macRowsUptoRow : OpenClaim := { program := "ytmldccfchnlpgaa", sum := "1a6ac734564ce89005f944d6d70b9dbc2db19aba3202118de218e7800c33dd3c", func := "sacristy/sacristylaw3.MacRows", spec := "macRows", plainKeys := false, apart := false, narrowed := true }
def MacRowsUptoSaid : Prop := macRowsUptoRow.holds Try.pinned (OpenSpec.upto macRowsSpec)

/-- 'sacristylaw3.MacEqual', WHERE WHAT IT READS IS OF BULK AT MOST 1048576: true; the input reads as it did. -/
def macEqualUptoRow : OpenClaim := { program := "ytmldccfchnlpgaa", sum := "1a6ac734564ce89005f944d6d70b9dbc2db19aba3202118de218e7800c33dd3c", func := "sacristy/sacristylaw3.MacEqual", spec := "macEqual", plainKeys := false, apart := false, narrowed := true }
def MacEqualUptoSaid : Prop := macEqualUptoRow.holds Try.pinned (OpenSpec.upto macEqualSpec)

/-- 'sacristylaw3.MacTells', WHERE WHAT IT READS IS OF BULK AT MOST 1048576: true; the input reads as it did. -/
def macTellsUptoRow : OpenClaim := { program := "ytmldccfchnlpgaa", sum := "1a6ac734564ce89005f944d6d70b9dbc2db19aba3202118de218e7800c33dd3c", func := "sacristy/sacristylaw3.MacTells", spec := "macTells", plainKeys := false, apart := false, narrowed := true }
def MacTellsUptoSaid : Prop := macTellsUptoRow.holds Try.pinned (OpenSpec.upto macTellsSpec)

/-- 'sacristylaw5.SealTells', WHERE WHAT IT READS IS OF BULK AT MOST 1048576: true; the input reads as it did. -/
def sealTellsUptoRow : OpenClaim := { program := "ytmldccfchnlpgaa", sum := "1a6ac734564ce89005f944d6d70b9dbc2db19aba3202118de218e7800c33dd3c", func := "sacristy/sacristylaw5.SealTells", spec := "sealTells", plainKeys := false, apart := false, narrowed := true }
def SealTellsUptoSaid : Prop := sealTellsUptoRow.holds Try.pinned (OpenSpec.upto sealTellsSpec)

/-- 'sacristylaw5.SealBack', WHERE WHAT IT READS IS OF BULK AT MOST 1048576: true; the input reads as it did. -/
def sealBackUptoRow : OpenClaim := { program := "ytmldccfchnlpgaa", sum := "1a6ac734564ce89005f944d6d70b9dbc2db19aba3202118de218e7800c33dd3c", func := "sacristy/sacristylaw5.SealBack", spec := "sealBack", plainKeys := false, apart := false, narrowed := true }
def SealBackUptoSaid : Prop := sealBackUptoRow.holds Try.pinned (OpenSpec.upto sealBackSpec)

/-- 'sacristylaw5.SealTags', WHERE WHAT IT READS IS OF BULK AT MOST 1048576: true; the input reads as it did. -/
def sealTagsUptoRow : OpenClaim := { program := "ytmldccfchnlpgaa", sum := "1a6ac734564ce89005f944d6d70b9dbc2db19aba3202118de218e7800c33dd3c", func := "sacristy/sacristylaw5.SealTags", spec := "sealTags", plainKeys := false, apart := false, narrowed := true }
def SealTagsUptoSaid : Prop := sealTagsUptoRow.holds Try.pinned (OpenSpec.upto sealTagsSpec)

/-- 'sacristylaw5.SealWraps', WHERE WHAT IT READS IS OF BULK AT MOST 1048576: true; the input reads as it did. -/
def sealWrapsUptoRow : OpenClaim := { program := "ytmldccfchnlpgaa", sum := "1a6ac734564ce89005f944d6d70b9dbc2db19aba3202118de218e7800c33dd3c", func := "sacristy/sacristylaw5.SealWraps", spec := "sealWraps", plainKeys := false, apart := false, narrowed := true }
def SealWrapsUptoSaid : Prop := sealWrapsUptoRow.holds Try.pinned (OpenSpec.upto sealWrapsSpec)

/-- 'sacristylaw5.SealNonces', WHERE WHAT IT READS IS OF BULK AT MOST 1048576: true; the input reads as it did. -/
def sealNoncesUptoRow : OpenClaim := { program := "ytmldccfchnlpgaa", sum := "1a6ac734564ce89005f944d6d70b9dbc2db19aba3202118de218e7800c33dd3c", func := "sacristy/sacristylaw5.SealNonces", spec := "sealNonces", plainKeys := false, apart := false, narrowed := true }
def SealNoncesUptoSaid : Prop := sealNoncesUptoRow.holds Try.pinned (OpenSpec.upto sealNoncesSpec)

/-- 'sacristylaw5.SealLengths', WHERE WHAT IT READS IS OF BULK AT MOST 1048576: true; the input reads as it did. -/
def sealLengthsUptoRow : OpenClaim := { program := "ytmldccfchnlpgaa", sum := "1a6ac734564ce89005f944d6d70b9dbc2db19aba3202118de218e7800c33dd3c", func := "sacristy/sacristylaw5.SealLengths", spec := "sealLengths", plainKeys := false, apart := false, narrowed := true }
def SealLengthsUptoSaid : Prop := sealLengthsUptoRow.holds Try.pinned (OpenSpec.upto sealLengthsSpec)

/-- 'sacristylaw27.ImageTells', WHERE WHAT IT READS IS OF BULK AT MOST 1048576: true; the input reads as it did. -/
def imageTellsUptoRow : OpenClaim := { program := "ytmldccfchnlpgaa", sum := "1a6ac734564ce89005f944d6d70b9dbc2db19aba3202118de218e7800c33dd3c", func := "sacristy/sacristylaw27.ImageTells", spec := "imageTells", inPlace := ["internal/bytealg.IndexByte", "internal/bytealg.Index"], named := ["internal/bytealg.MaxLen"], plainKeys := false, apart := false, narrowed := true }
def ImageTellsUptoSaid : Prop := imageTellsUptoRow.holds Try.pinned (OpenSpec.upto imageTellsSpec)

/-- 'sacristylaw27.ImageWrapped', WHERE WHAT IT READS IS OF BULK AT MOST 1048576: true; the input reads as it did. -/
def imageWrappedUptoRow : OpenClaim := { program := "ytmldccfchnlpgaa", sum := "1a6ac734564ce89005f944d6d70b9dbc2db19aba3202118de218e7800c33dd3c", func := "sacristy/sacristylaw27.ImageWrapped", spec := "imageWrapped", inPlace := ["internal/bytealg.IndexByte", "internal/bytealg.Index"], named := ["internal/bytealg.MaxLen"], plainKeys := false, apart := false, narrowed := true }
def ImageWrappedUptoSaid : Prop := imageWrappedUptoRow.holds Try.pinned (OpenSpec.upto imageWrappedSpec)

/-- 'sacristylaw27.ImageParts', WHERE WHAT IT READS IS OF BULK AT MOST 1048576: true; the input reads as it did. -/
def imagePartsUptoRow : OpenClaim := { program := "ytmldccfchnlpgaa", sum := "1a6ac734564ce89005f944d6d70b9dbc2db19aba3202118de218e7800c33dd3c", func := "sacristy/sacristylaw27.ImageParts", spec := "imageParts", inPlace := ["internal/bytealg.IndexByte", "internal/bytealg.Index"], named := ["internal/bytealg.MaxLen"], plainKeys := false, apart := false, narrowed := true }
def ImagePartsUptoSaid : Prop := imagePartsUptoRow.holds Try.pinned (OpenSpec.upto imagePartsSpec)

/-- 'sacristylaw27.ImageSectors', WHERE WHAT IT READS IS OF BULK AT MOST 1048576: true; the input reads as it did. -/
def imageSectorsUptoRow : OpenClaim := { program := "ytmldccfchnlpgaa", sum := "1a6ac734564ce89005f944d6d70b9dbc2db19aba3202118de218e7800c33dd3c", func := "sacristy/sacristylaw27.ImageSectors", spec := "imageSectors", inPlace := ["internal/bytealg.IndexByte", "internal/bytealg.Index"], named := ["internal/bytealg.MaxLen"], plainKeys := false, apart := false, narrowed := true }
def ImageSectorsUptoSaid : Prop := imageSectorsUptoRow.holds Try.pinned (OpenSpec.upto imageSectorsSpec)

/-- 'sacristylaw27.ImagePieces', WHERE WHAT IT READS IS OF BULK AT MOST 1048576: true; the input reads as it did. -/
def imagePiecesUptoRow : OpenClaim := { program := "ytmldccfchnlpgaa", sum := "1a6ac734564ce89005f944d6d70b9dbc2db19aba3202118de218e7800c33dd3c", func := "sacristy/sacristylaw27.ImagePieces", spec := "imagePieces", inPlace := ["internal/bytealg.IndexByte", "internal/bytealg.Index"], named := ["internal/bytealg.MaxLen"], plainKeys := false, apart := false, narrowed := true }
def ImagePiecesUptoSaid : Prop := imagePiecesUptoRow.holds Try.pinned (OpenSpec.upto imagePiecesSpec)

/-- 'sacristylaw27.ImageFirst', WHERE WHAT IT READS IS OF BULK AT MOST 1048576: true; the input reads as it did. -/
def imageFirstUptoRow : OpenClaim := { program := "ytmldccfchnlpgaa", sum := "1a6ac734564ce89005f944d6d70b9dbc2db19aba3202118de218e7800c33dd3c", func := "sacristy/sacristylaw27.ImageFirst", spec := "imageFirst", inPlace := ["internal/bytealg.IndexByte", "internal/bytealg.Index"], named := ["internal/bytealg.MaxLen"], plainKeys := false, apart := false, narrowed := true }
def ImageFirstUptoSaid : Prop := imageFirstUptoRow.holds Try.pinned (OpenSpec.upto imageFirstSpec)

end Rows
end Go.Proofs.Ytmldccfchnlpgaa
