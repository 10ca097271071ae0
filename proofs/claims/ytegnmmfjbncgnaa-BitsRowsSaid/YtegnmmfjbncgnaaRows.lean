/-
  No cell of these rows narrows 'for every input' (looked for: loops, veiled, ifaces, maps, wideKeys, modest, calm, conditions, laid).
  DERIVED. THE GIVEN ROWS OF THIS SEAT. 11 by the template 'for every input the law returns true; each argument reads behind the call as it read before'; 0 by the template 'total and deterministic' (their statements: YtegnmmfjbncgnaaTotals.lean).
  GIVEN WITH THE SEED: the statements are not yours to turn. If you find one false, say at which input.
  Laid BY PROGRAM, IN A SANDBOX (cutbox-rows.mjs): the forced cells as the released guide's own fill.sh prints them over the translation bab7974d28a5d00a… (all of the seat's roots in one cut). By AI agents, Wed Nov 11 2026. No macro, syntax, notation, axiom, sorry.
-/
import Derived.Test.YtegnmmfjbncgnaaChecked
import GoSem.Claim
import GoSem.ClaimJoined
import GoSem.ClaimMapViews
import Derived.JoinedTies
import Derived.KernelRfl
namespace Go.Proofs.Ytegnmmfjbncgnaa
/- THE CELL 'sum', in the pinned program and in every row, IS THE sha256 OF THE DUMP (.gsa) THAT YtegnmmfjbncgnaaProg.lean LOADS. Nothing in Lean hashes anything: it is a label: what it is worth is what the hold of that sum in a sandbox is worth. -/
noncomputable def Try.pinned : Pinned := { name := "ytegnmmfjbncgnaa", sum := "bab7974d28a5d00a66f0b3d08f2d9cb524f26b4e96084dd00b9459915d0b96ef", checked := Try.checked }
namespace Rows
def none {H : Type} : Left H := { results := [], args := [] }

/-- 'sacristylaw1.BitsTurns': WHATEVER THE INPUT: true; the input reads as it did. -/
def bitsTurnsSpec : ChangeSpec := { name := "bitsTurns", fn := fun _ => fun
  | [d1, d2, d3] => { results := [.lit (.bool true)], args := [d1, d2, d3] }
  | _ => none }
def bitsTurnsRow : OpenClaim := { program := "ytegnmmfjbncgnaa", sum := "bab7974d28a5d00a66f0b3d08f2d9cb524f26b4e96084dd00b9459915d0b96ef", func := "sacristy/sacristylaw1.BitsTurns", spec := "bitsTurns", apart := false }
def BitsTurnsSaid : Prop := bitsTurnsRow.holds Try.pinned (OpenSpec.ofChange bitsTurnsSpec)

/-- ITS FALSE NEIGHBOUR: 'it returns false'. Refute it at one input. -/
def bitsTurnsWrong : ChangeSpec := { name := "bitsTurns", fn := fun _ => fun
  | [d1, d2, d3] => { results := [.lit (.bool false)], args := [d1, d2, d3] }
  | _ => none }
def BitsTurnsWrongFalsely : Prop := bitsTurnsRow.holds Try.pinned (OpenSpec.ofChange bitsTurnsWrong)

/-- 'sacristylaw1.BitsWays': WHATEVER THE INPUT: true; the input reads as it did. -/
def bitsWaysSpec : ChangeSpec := { name := "bitsWays", fn := fun _ => fun
  | [d1, d2] => { results := [.lit (.bool true)], args := [d1, d2] }
  | _ => none }
def bitsWaysRow : OpenClaim := { program := "ytegnmmfjbncgnaa", sum := "bab7974d28a5d00a66f0b3d08f2d9cb524f26b4e96084dd00b9459915d0b96ef", func := "sacristy/sacristylaw1.BitsWays", spec := "bitsWays", apart := false }
def BitsWaysSaid : Prop := bitsWaysRow.holds Try.pinned (OpenSpec.ofChange bitsWaysSpec)

/-- ITS FALSE NEIGHBOUR: 'it returns false'. Refute it at one input. -/
def bitsWaysWrong : ChangeSpec := { name := "bitsWays", fn := fun _ => fun
  | [d1, d2] => { results := [.lit (.bool false)], args := [d1, d2] }
  | _ => none }
def BitsWaysWrongFalsely : Prop := bitsWaysRow.holds Try.pinned (OpenSpec.ofChange bitsWaysWrong)

/-- 'sacristylaw1.BitsXor': WHATEVER THE INPUT: true; the input reads as it did. -/
def bitsXorSpec : ChangeSpec := { name := "bitsXor", fn := fun _ => fun
  | [d1, d2] => { results := [.lit (.bool true)], args := [d1, d2] }
  | _ => none }
def bitsXorRow : OpenClaim := { program := "ytegnmmfjbncgnaa", sum := "bab7974d28a5d00a66f0b3d08f2d9cb524f26b4e96084dd00b9459915d0b96ef", func := "sacristy/sacristylaw1.BitsXor", spec := "bitsXor", apart := false }
def BitsXorSaid : Prop := bitsXorRow.holds Try.pinned (OpenSpec.ofChange bitsXorSpec)

/-- ITS FALSE NEIGHBOUR: 'it returns false'. Refute it at one input. -/
def bitsXorWrong : ChangeSpec := { name := "bitsXor", fn := fun _ => fun
  | [d1, d2] => { results := [.lit (.bool false)], args := [d1, d2] }
  | _ => none }
def BitsXorWrongFalsely : Prop := bitsXorRow.holds Try.pinned (OpenSpec.ofChange bitsXorWrong)

/-- 'sacristylaw1.BitsTell': WHATEVER THE INPUT: true; the input reads as it did. -/
def bitsTellSpec : ChangeSpec := { name := "bitsTell", fn := fun _ => fun
  | [d1, d2, d3, d4, d5, d6] => { results := [.lit (.bool true)], args := [d1, d2, d3, d4, d5, d6] }
  | _ => none }
def bitsTellRow : OpenClaim := { program := "ytegnmmfjbncgnaa", sum := "bab7974d28a5d00a66f0b3d08f2d9cb524f26b4e96084dd00b9459915d0b96ef", func := "sacristy/sacristylaw1.BitsTell", spec := "bitsTell", apart := false }
def BitsTellSaid : Prop := bitsTellRow.holds Try.pinned (OpenSpec.ofChange bitsTellSpec)

/-- ITS FALSE NEIGHBOUR: 'it returns false'. Refute it at one input. -/
def bitsTellWrong : ChangeSpec := { name := "bitsTell", fn := fun _ => fun
  | [d1, d2, d3, d4, d5, d6] => { results := [.lit (.bool false)], args := [d1, d2, d3, d4, d5, d6] }
  | _ => none }
def BitsTellWrongFalsely : Prop := bitsTellRow.holds Try.pinned (OpenSpec.ofChange bitsTellWrong)

/-- 'sacristylaw1.BitsTexts': WHATEVER THE INPUT: true; the input reads as it did. -/
def bitsTextsSpec : ChangeSpec := { name := "bitsTexts", fn := fun _ => fun
  | [d1, d2, d3] => { results := [.lit (.bool true)], args := [d1, d2, d3] }
  | _ => none }
def bitsTextsRow : OpenClaim := { program := "ytegnmmfjbncgnaa", sum := "bab7974d28a5d00a66f0b3d08f2d9cb524f26b4e96084dd00b9459915d0b96ef", func := "sacristy/sacristylaw1.BitsTexts", spec := "bitsTexts", apart := false }
def BitsTextsSaid : Prop := bitsTextsRow.holds Try.pinned (OpenSpec.ofChange bitsTextsSpec)

/-- ITS FALSE NEIGHBOUR: 'it returns false'. Refute it at one input. -/
def bitsTextsWrong : ChangeSpec := { name := "bitsTexts", fn := fun _ => fun
  | [d1, d2, d3] => { results := [.lit (.bool false)], args := [d1, d2, d3] }
  | _ => none }
def BitsTextsWrongFalsely : Prop := bitsTextsRow.holds Try.pinned (OpenSpec.ofChange bitsTextsWrong)

/-- 'sacristylaw1.BitsRows': WHATEVER THE INPUT: true; the input reads as it did. -/
def bitsRowsSpec : ChangeSpec := { name := "bitsRows", fn := fun _ => fun
  | [d1, d2, d3] => { results := [.lit (.bool true)], args := [d1, d2, d3] }
  | _ => none }
def bitsRowsRow : OpenClaim := { program := "ytegnmmfjbncgnaa", sum := "bab7974d28a5d00a66f0b3d08f2d9cb524f26b4e96084dd00b9459915d0b96ef", func := "sacristy/sacristylaw1.BitsRows", spec := "bitsRows", apart := false }
def BitsRowsSaid : Prop := bitsRowsRow.holds Try.pinned (OpenSpec.ofChange bitsRowsSpec)

/-- ITS FALSE NEIGHBOUR: 'it returns false'. Refute it at one input. -/
def bitsRowsWrong : ChangeSpec := { name := "bitsRows", fn := fun _ => fun
  | [d1, d2, d3] => { results := [.lit (.bool false)], args := [d1, d2, d3] }
  | _ => none }
def BitsRowsWrongFalsely : Prop := bitsRowsRow.holds Try.pinned (OpenSpec.ofChange bitsRowsWrong)

/-- 'sacristylaw4.StreamTells': WHATEVER THE INPUT: true; the input reads as it did. -/
def streamTellsSpec : ChangeSpec := { name := "streamTells", fn := fun _ => fun
  | [d1, d2, d3, d4, d5, d6, d7, d8] => { results := [.lit (.bool true)], args := [d1, d2, d3, d4, d5, d6, d7, d8] }
  | _ => none }
def streamTellsRow : OpenClaim := { program := "ytegnmmfjbncgnaa", sum := "bab7974d28a5d00a66f0b3d08f2d9cb524f26b4e96084dd00b9459915d0b96ef", func := "sacristy/sacristylaw4.StreamTells", spec := "streamTells", apart := false }
def StreamTellsSaid : Prop := streamTellsRow.holds Try.pinned (OpenSpec.ofChange streamTellsSpec)

/-- ITS FALSE NEIGHBOUR: 'it returns false'. Refute it at one input. -/
def streamTellsWrong : ChangeSpec := { name := "streamTells", fn := fun _ => fun
  | [d1, d2, d3, d4, d5, d6, d7, d8] => { results := [.lit (.bool false)], args := [d1, d2, d3, d4, d5, d6, d7, d8] }
  | _ => none }
def StreamTellsWrongFalsely : Prop := streamTellsRow.holds Try.pinned (OpenSpec.ofChange streamTellsWrong)

/-- 'sacristylaw4.StreamTwice': WHATEVER THE INPUT: true; the input reads as it did. -/
def streamTwiceSpec : ChangeSpec := { name := "streamTwice", fn := fun _ => fun
  | [d1, d2, d3, d4, d5] => { results := [.lit (.bool true)], args := [d1, d2, d3, d4, d5] }
  | _ => none }
def streamTwiceRow : OpenClaim := { program := "ytegnmmfjbncgnaa", sum := "bab7974d28a5d00a66f0b3d08f2d9cb524f26b4e96084dd00b9459915d0b96ef", func := "sacristy/sacristylaw4.StreamTwice", spec := "streamTwice", apart := false }
def StreamTwiceSaid : Prop := streamTwiceRow.holds Try.pinned (OpenSpec.ofChange streamTwiceSpec)

/-- ITS FALSE NEIGHBOUR: 'it returns false'. Refute it at one input. -/
def streamTwiceWrong : ChangeSpec := { name := "streamTwice", fn := fun _ => fun
  | [d1, d2, d3, d4, d5] => { results := [.lit (.bool false)], args := [d1, d2, d3, d4, d5] }
  | _ => none }
def StreamTwiceWrongFalsely : Prop := streamTwiceRow.holds Try.pinned (OpenSpec.ofChange streamTwiceWrong)

/-- 'sacristylaw4.StreamQuarter': WHATEVER THE INPUT: true; the input reads as it did. -/
def streamQuarterSpec : ChangeSpec := { name := "streamQuarter", fn := fun _ => fun
  | [d1, d2, d3, d4] => { results := [.lit (.bool true)], args := [d1, d2, d3, d4] }
  | _ => none }
def streamQuarterRow : OpenClaim := { program := "ytegnmmfjbncgnaa", sum := "bab7974d28a5d00a66f0b3d08f2d9cb524f26b4e96084dd00b9459915d0b96ef", func := "sacristy/sacristylaw4.StreamQuarter", spec := "streamQuarter", apart := false }
def StreamQuarterSaid : Prop := streamQuarterRow.holds Try.pinned (OpenSpec.ofChange streamQuarterSpec)

/-- ITS FALSE NEIGHBOUR: 'it returns false'. Refute it at one input. -/
def streamQuarterWrong : ChangeSpec := { name := "streamQuarter", fn := fun _ => fun
  | [d1, d2, d3, d4] => { results := [.lit (.bool false)], args := [d1, d2, d3, d4] }
  | _ => none }
def StreamQuarterWrongFalsely : Prop := streamQuarterRow.holds Try.pinned (OpenSpec.ofChange streamQuarterWrong)

/-- 'sacristylaw4.StreamCounts': WHATEVER THE INPUT: true; the input reads as it did. -/
def streamCountsSpec : ChangeSpec := { name := "streamCounts", fn := fun _ => fun
  | [d1, d2, d3, d4] => { results := [.lit (.bool true)], args := [d1, d2, d3, d4] }
  | _ => none }
def streamCountsRow : OpenClaim := { program := "ytegnmmfjbncgnaa", sum := "bab7974d28a5d00a66f0b3d08f2d9cb524f26b4e96084dd00b9459915d0b96ef", func := "sacristy/sacristylaw4.StreamCounts", spec := "streamCounts", apart := false }
def StreamCountsSaid : Prop := streamCountsRow.holds Try.pinned (OpenSpec.ofChange streamCountsSpec)

/-- ITS FALSE NEIGHBOUR: 'it returns false'. Refute it at one input. -/
def streamCountsWrong : ChangeSpec := { name := "streamCounts", fn := fun _ => fun
  | [d1, d2, d3, d4] => { results := [.lit (.bool false)], args := [d1, d2, d3, d4] }
  | _ => none }
def StreamCountsWrongFalsely : Prop := streamCountsRow.holds Try.pinned (OpenSpec.ofChange streamCountsWrong)

/-- 'sacristylaw4.StreamLinear': WHATEVER THE INPUT: true; the input reads as it did. -/
def streamLinearSpec : ChangeSpec := { name := "streamLinear", fn := fun _ => fun
  | [d1, d2, d3, d4, d5] => { results := [.lit (.bool true)], args := [d1, d2, d3, d4, d5] }
  | _ => none }
def streamLinearRow : OpenClaim := { program := "ytegnmmfjbncgnaa", sum := "bab7974d28a5d00a66f0b3d08f2d9cb524f26b4e96084dd00b9459915d0b96ef", func := "sacristy/sacristylaw4.StreamLinear", spec := "streamLinear", apart := false }
def StreamLinearSaid : Prop := streamLinearRow.holds Try.pinned (OpenSpec.ofChange streamLinearSpec)

/-- ITS FALSE NEIGHBOUR: 'it returns false'. Refute it at one input. -/
def streamLinearWrong : ChangeSpec := { name := "streamLinear", fn := fun _ => fun
  | [d1, d2, d3, d4, d5] => { results := [.lit (.bool false)], args := [d1, d2, d3, d4, d5] }
  | _ => none }
def StreamLinearWrongFalsely : Prop := streamLinearRow.holds Try.pinned (OpenSpec.ofChange streamLinearWrong)

/- THE SECOND FORM. 'bulk': how many values and letters a reading holds, each counted each time it is reached (what is shared counts as often as it is met; a slice's spare places count too). A statement '..UptoSaid' is the law's where the arguments, and the package variables that the reading takes, are together of bulk at most 1048576: NARROWER than '..Said'. Prove '..Said' where nothing that the law and all that it calls make is longer than what came in: it says more and counts as full. Else prove '..UptoSaid'. A law counts once. -/
mutual
def uptoBulk {H : Type} : DataW H → Nat
  | .lit (.string bytes) => bytes.length + 1
  | .lit _ => 1
  | .nil => 1
  | .ptr d => uptoBulk d + 1
  | .slice elems spare => uptoBulkAll elems + uptoBulkAll spare + 1
  | .agg parts => uptoBulkAll parts + 1
  | .iface _ d => uptoBulk d + 1
  | .map entries => uptoBulkEntries entries + 1
  | .held _ => 1
def uptoBulkAll {H : Type} : List (DataW H) → Nat
  | [] => 0
  | d :: r => uptoBulk d + uptoBulkAll r
def uptoBulkEntries {H : Type} : List (Lit × DataW H) → Nat
  | [] => 0
  | x :: r => uptoBulkEntry x + uptoBulkEntries r
def uptoBulkEntry {H : Type} : Lit × DataW H → Nat
  | (.string bytes, d) => bytes.length + uptoBulk d + 1
  | (_, d) => uptoBulk d + 1
 end
def uptoSmall : (H : Type) → List (DataW H) → Bool := fun _ ds => decide (uptoBulkAll ds ≤ 1048576)
def OpenSpec.upto (s : _root_.Go.ChangeSpec) : _root_.Go.OpenSpec := { _root_.Go.OpenSpec.ofChange s with cond := some uptoSmall }

/-- 'sacristylaw1.BitsTurns', WHERE WHAT IT READS IS OF BULK AT MOST 1048576: true; the input reads as it did. -/
def bitsTurnsUptoRow : OpenClaim := { program := "ytegnmmfjbncgnaa", sum := "bab7974d28a5d00a66f0b3d08f2d9cb524f26b4e96084dd00b9459915d0b96ef", func := "sacristy/sacristylaw1.BitsTurns", spec := "bitsTurns", apart := false, narrowed := true }
def BitsTurnsUptoSaid : Prop := bitsTurnsUptoRow.holds Try.pinned (OpenSpec.upto bitsTurnsSpec)

/-- 'sacristylaw1.BitsWays', WHERE WHAT IT READS IS OF BULK AT MOST 1048576: true; the input reads as it did. -/
def bitsWaysUptoRow : OpenClaim := { program := "ytegnmmfjbncgnaa", sum := "bab7974d28a5d00a66f0b3d08f2d9cb524f26b4e96084dd00b9459915d0b96ef", func := "sacristy/sacristylaw1.BitsWays", spec := "bitsWays", apart := false, narrowed := true }
def BitsWaysUptoSaid : Prop := bitsWaysUptoRow.holds Try.pinned (OpenSpec.upto bitsWaysSpec)

/-- 'sacristylaw1.BitsXor', WHERE WHAT IT READS IS OF BULK AT MOST 1048576: true; the input reads as it did. -/
def bitsXorUptoRow : OpenClaim := { program := "ytegnmmfjbncgnaa", sum := "bab7974d28a5d00a66f0b3d08f2d9cb524f26b4e96084dd00b9459915d0b96ef", func := "sacristy/sacristylaw1.BitsXor", spec := "bitsXor", apart := false, narrowed := true }
def BitsXorUptoSaid : Prop := bitsXorUptoRow.holds Try.pinned (OpenSpec.upto bitsXorSpec)

/-- 'sacristylaw1.BitsTell', WHERE WHAT IT READS IS OF BULK AT MOST 1048576: true; the input reads as it did. -/
def bitsTellUptoRow : OpenClaim := { program := "ytegnmmfjbncgnaa", sum := "bab7974d28a5d00a66f0b3d08f2d9cb524f26b4e96084dd00b9459915d0b96ef", func := "sacristy/sacristylaw1.BitsTell", spec := "bitsTell", apart := false, narrowed := true }
def BitsTellUptoSaid : Prop := bitsTellUptoRow.holds Try.pinned (OpenSpec.upto bitsTellSpec)

/-- 'sacristylaw1.BitsTexts', WHERE WHAT IT READS IS OF BULK AT MOST 1048576: true; the input reads as it did. -/
def bitsTextsUptoRow : OpenClaim := { program := "ytegnmmfjbncgnaa", sum := "bab7974d28a5d00a66f0b3d08f2d9cb524f26b4e96084dd00b9459915d0b96ef", func := "sacristy/sacristylaw1.BitsTexts", spec := "bitsTexts", apart := false, narrowed := true }
def BitsTextsUptoSaid : Prop := bitsTextsUptoRow.holds Try.pinned (OpenSpec.upto bitsTextsSpec)

/-- 'sacristylaw1.BitsRows', WHERE WHAT IT READS IS OF BULK AT MOST 1048576: true; the input reads as it did. -/
def bitsRowsUptoRow : OpenClaim := { program := "ytegnmmfjbncgnaa", sum := "bab7974d28a5d00a66f0b3d08f2d9cb524f26b4e96084dd00b9459915d0b96ef", func := "sacristy/sacristylaw1.BitsRows", spec := "bitsRows", apart := false, narrowed := true }
def BitsRowsUptoSaid : Prop := bitsRowsUptoRow.holds Try.pinned (OpenSpec.upto bitsRowsSpec)

/-- 'sacristylaw4.StreamTells', WHERE WHAT IT READS IS OF BULK AT MOST 1048576: true; the input reads as it did. -/
def streamTellsUptoRow : OpenClaim := { program := "ytegnmmfjbncgnaa", sum := "bab7974d28a5d00a66f0b3d08f2d9cb524f26b4e96084dd00b9459915d0b96ef", func := "sacristy/sacristylaw4.StreamTells", spec := "streamTells", apart := false, narrowed := true }
def StreamTellsUptoSaid : Prop := streamTellsUptoRow.holds Try.pinned (OpenSpec.upto streamTellsSpec)

/-- 'sacristylaw4.StreamTwice', WHERE WHAT IT READS IS OF BULK AT MOST 1048576: true; the input reads as it did. -/
def streamTwiceUptoRow : OpenClaim := { program := "ytegnmmfjbncgnaa", sum := "bab7974d28a5d00a66f0b3d08f2d9cb524f26b4e96084dd00b9459915d0b96ef", func := "sacristy/sacristylaw4.StreamTwice", spec := "streamTwice", apart := false, narrowed := true }
def StreamTwiceUptoSaid : Prop := streamTwiceUptoRow.holds Try.pinned (OpenSpec.upto streamTwiceSpec)

/-- 'sacristylaw4.StreamQuarter', WHERE WHAT IT READS IS OF BULK AT MOST 1048576: true; the input reads as it did. -/
def streamQuarterUptoRow : OpenClaim := { program := "ytegnmmfjbncgnaa", sum := "bab7974d28a5d00a66f0b3d08f2d9cb524f26b4e96084dd00b9459915d0b96ef", func := "sacristy/sacristylaw4.StreamQuarter", spec := "streamQuarter", apart := false, narrowed := true }
def StreamQuarterUptoSaid : Prop := streamQuarterUptoRow.holds Try.pinned (OpenSpec.upto streamQuarterSpec)

/-- 'sacristylaw4.StreamCounts', WHERE WHAT IT READS IS OF BULK AT MOST 1048576: true; the input reads as it did. -/
def streamCountsUptoRow : OpenClaim := { program := "ytegnmmfjbncgnaa", sum := "bab7974d28a5d00a66f0b3d08f2d9cb524f26b4e96084dd00b9459915d0b96ef", func := "sacristy/sacristylaw4.StreamCounts", spec := "streamCounts", apart := false, narrowed := true }
def StreamCountsUptoSaid : Prop := streamCountsUptoRow.holds Try.pinned (OpenSpec.upto streamCountsSpec)

/-- 'sacristylaw4.StreamLinear', WHERE WHAT IT READS IS OF BULK AT MOST 1048576: true; the input reads as it did. -/
def streamLinearUptoRow : OpenClaim := { program := "ytegnmmfjbncgnaa", sum := "bab7974d28a5d00a66f0b3d08f2d9cb524f26b4e96084dd00b9459915d0b96ef", func := "sacristy/sacristylaw4.StreamLinear", spec := "streamLinear", apart := false, narrowed := true }
def StreamLinearUptoSaid : Prop := streamLinearUptoRow.holds Try.pinned (OpenSpec.upto streamLinearSpec)

end Rows
end Go.Proofs.Ytegnmmfjbncgnaa
