/-
  No cell of these rows narrows 'for every input' (looked for: loops, veiled, ifaces, maps, wideKeys, modest, calm, conditions, laid).
  DERIVED. THE GIVEN ROWS OF THIS SEAT. 6 by the template 'for every input the law returns true; each argument reads behind the call as it read before'; 0 by the template 'total and deterministic' (their statements: YthhgmjclmdggjaaTotals.lean).
  GIVEN WITH THE SEED: the statements are not yours to turn. If you find one false, say at which input.
  Laid BY PROGRAM, IN A SANDBOX (cutbox-rows.mjs): the forced cells as the released guide's own fill.sh prints them over the translation ff93b179added05d… (all of the seat's roots in one cut). By AI agents, Wed Nov 11 2026. No macro, syntax, notation, axiom, sorry.
-/
import Derived.Test.YthhgmjclmdggjaaChecked
import GoSem.Claim
import GoSem.ClaimJoined
import GoSem.ClaimMapViews
import Derived.JoinedTies
import Derived.KernelRfl
namespace Go.Proofs.Ythhgmjclmdggjaa
/- THE CELL 'sum', in the pinned program and in every row, IS THE sha256 OF THE DUMP (.gsa) THAT YthhgmjclmdggjaaProg.lean LOADS. Nothing in Lean hashes anything: it is a label: what it is worth is what the hold of that sum in a sandbox is worth. -/
noncomputable def Try.pinned : Pinned := { name := "ythhgmjclmdggjaa", sum := "ff93b179added05d8cc5080ef55abfa990ff70fe89b63135a350422de882be4c", checked := Try.checked }
namespace Rows
def none {H : Type} : Left H := { results := [], args := [] }

/-- 'sacristylaw6.SectorApart': WHATEVER THE INPUT: true; the input reads as it did. -/
def sectorApartSpec : ChangeSpec := { name := "sectorApart", fn := fun _ => fun
  | [d1, d2, d3, d4] => { results := [.lit (.bool true)], args := [d1, d2, d3, d4] }
  | _ => none }
def sectorApartRow : OpenClaim := { program := "ythhgmjclmdggjaa", sum := "ff93b179added05d8cc5080ef55abfa990ff70fe89b63135a350422de882be4c", func := "sacristy/sacristylaw6.SectorApart", spec := "sectorApart", unfollowed := true, recurses := true, apart := false }
def SectorApartSaid : Prop := sectorApartRow.holds Try.pinned (OpenSpec.ofChange sectorApartSpec)

/-- ITS FALSE NEIGHBOUR: 'it returns false'. Refute it at one input. -/
def sectorApartWrong : ChangeSpec := { name := "sectorApart", fn := fun _ => fun
  | [d1, d2, d3, d4] => { results := [.lit (.bool false)], args := [d1, d2, d3, d4] }
  | _ => none }
def SectorApartWrongFalsely : Prop := sectorApartRow.holds Try.pinned (OpenSpec.ofChange sectorApartWrong)

/-- 'sacristylaw6.SectorKeeps': WHATEVER THE INPUT: true; the input reads as it did. -/
def sectorKeepsSpec : ChangeSpec := { name := "sectorKeeps", fn := fun _ => fun
  | [d1, d2, d3, d4] => { results := [.lit (.bool true)], args := [d1, d2, d3, d4] }
  | _ => none }
def sectorKeepsRow : OpenClaim := { program := "ythhgmjclmdggjaa", sum := "ff93b179added05d8cc5080ef55abfa990ff70fe89b63135a350422de882be4c", func := "sacristy/sacristylaw6.SectorKeeps", spec := "sectorKeeps", unfollowed := true, recurses := true, apart := false }
def SectorKeepsSaid : Prop := sectorKeepsRow.holds Try.pinned (OpenSpec.ofChange sectorKeepsSpec)

/-- ITS FALSE NEIGHBOUR: 'it returns false'. Refute it at one input. -/
def sectorKeepsWrong : ChangeSpec := { name := "sectorKeeps", fn := fun _ => fun
  | [d1, d2, d3, d4] => { results := [.lit (.bool false)], args := [d1, d2, d3, d4] }
  | _ => none }
def SectorKeepsWrongFalsely : Prop := sectorKeepsRow.holds Try.pinned (OpenSpec.ofChange sectorKeepsWrong)

/-- 'sacristylaw6.SectorChoices': WHATEVER THE INPUT: true; the input reads as it did. -/
def sectorChoicesSpec : ChangeSpec := { name := "sectorChoices", fn := fun _ => fun
  | [d1, d2, d3] => { results := [.lit (.bool true)], args := [d1, d2, d3] }
  | _ => none }
def sectorChoicesRow : OpenClaim := { program := "ythhgmjclmdggjaa", sum := "ff93b179added05d8cc5080ef55abfa990ff70fe89b63135a350422de882be4c", func := "sacristy/sacristylaw6.SectorChoices", spec := "sectorChoices", unfollowed := true, recurses := true, apart := false }
def SectorChoicesSaid : Prop := sectorChoicesRow.holds Try.pinned (OpenSpec.ofChange sectorChoicesSpec)

/-- ITS FALSE NEIGHBOUR: 'it returns false'. Refute it at one input. -/
def sectorChoicesWrong : ChangeSpec := { name := "sectorChoices", fn := fun _ => fun
  | [d1, d2, d3] => { results := [.lit (.bool false)], args := [d1, d2, d3] }
  | _ => none }
def SectorChoicesWrongFalsely : Prop := sectorChoicesRow.holds Try.pinned (OpenSpec.ofChange sectorChoicesWrong)

/-- 'sacristylaw6.SectorImage': WHATEVER THE INPUT: true; the input reads as it did. -/
def sectorImageSpec : ChangeSpec := { name := "sectorImage", fn := fun _ => fun
  | [d1, d2, d3] => { results := [.lit (.bool true)], args := [d1, d2, d3] }
  | _ => none }
def sectorImageRow : OpenClaim := { program := "ythhgmjclmdggjaa", sum := "ff93b179added05d8cc5080ef55abfa990ff70fe89b63135a350422de882be4c", func := "sacristy/sacristylaw6.SectorImage", spec := "sectorImage", unfollowed := true, recurses := true, apart := false }
def SectorImageSaid : Prop := sectorImageRow.holds Try.pinned (OpenSpec.ofChange sectorImageSpec)

/-- ITS FALSE NEIGHBOUR: 'it returns false'. Refute it at one input. -/
def sectorImageWrong : ChangeSpec := { name := "sectorImage", fn := fun _ => fun
  | [d1, d2, d3] => { results := [.lit (.bool false)], args := [d1, d2, d3] }
  | _ => none }
def SectorImageWrongFalsely : Prop := sectorImageRow.holds Try.pinned (OpenSpec.ofChange sectorImageWrong)

/-- 'sacristylaw6.SectorPower': WHATEVER THE INPUT: true; the input reads as it did. -/
def sectorPowerSpec : ChangeSpec := { name := "sectorPower", fn := fun _ => fun
  | [d1, d2] => { results := [.lit (.bool true)], args := [d1, d2] }
  | _ => none }
def sectorPowerRow : OpenClaim := { program := "ythhgmjclmdggjaa", sum := "ff93b179added05d8cc5080ef55abfa990ff70fe89b63135a350422de882be4c", func := "sacristy/sacristylaw6.SectorPower", spec := "sectorPower", unfollowed := true, recurses := true, apart := false }
def SectorPowerSaid : Prop := sectorPowerRow.holds Try.pinned (OpenSpec.ofChange sectorPowerSpec)

/-- ITS FALSE NEIGHBOUR: 'it returns false'. Refute it at one input. -/
def sectorPowerWrong : ChangeSpec := { name := "sectorPower", fn := fun _ => fun
  | [d1, d2] => { results := [.lit (.bool false)], args := [d1, d2] }
  | _ => none }
def SectorPowerWrongFalsely : Prop := sectorPowerRow.holds Try.pinned (OpenSpec.ofChange sectorPowerWrong)

/-- 'sacristylaw6.SectorPlays': WHATEVER THE INPUT: true; the input reads as it did. -/
def sectorPlaysSpec : ChangeSpec := { name := "sectorPlays", fn := fun _ => fun
  | [d1, d2] => { results := [.lit (.bool true)], args := [d1, d2] }
  | _ => none }
def sectorPlaysRow : OpenClaim := { program := "ythhgmjclmdggjaa", sum := "ff93b179added05d8cc5080ef55abfa990ff70fe89b63135a350422de882be4c", func := "sacristy/sacristylaw6.SectorPlays", spec := "sectorPlays", inPlace := ["maps.clone"], unfollowed := true, recurses := true, apart := false }
def SectorPlaysSaid : Prop := sectorPlaysRow.holds Try.pinned (OpenSpec.ofChange sectorPlaysSpec)

/-- ITS FALSE NEIGHBOUR: 'it returns false'. Refute it at one input. -/
def sectorPlaysWrong : ChangeSpec := { name := "sectorPlays", fn := fun _ => fun
  | [d1, d2] => { results := [.lit (.bool false)], args := [d1, d2] }
  | _ => none }
def SectorPlaysWrongFalsely : Prop := sectorPlaysRow.holds Try.pinned (OpenSpec.ofChange sectorPlaysWrong)

/- THE SECOND FORM. 'bulk': how many values and letters a reading holds, each counted each time it is reached (what is shared counts as often as it is met; a slice's spare places count too). A statement '..UptoSaid' is the law's where the arguments, and the package variables that the reading takes, are together of bulk at most 1048576: NARROWER than '..Said'. Prove '..Said' where nothing that the law and all that it calls make is longer than what came in: it says more and counts as full. Else prove '..UptoSaid'. A law counts once. -/
mutual
def uptoBulk {H : Type} : DataW H → Nat
  | .lit (.string bytes) => bytes.length + 1
  | .lit _ => 1
  | .nil => 1
  | .ptr d => uptoBulk d + 1
  | .slice elems spare => uptoBulkAll elems + uptoBulkAll spare + 1
  | .agg parts => uptoBulkAll parts + 1
  | .iface _ d => uptoBulk d + 1
  | .map entries => uptoBulkEntries entries + 1
  | .held _ => 1
def uptoBulkAll {H : Type} : List (DataW H) → Nat
  | [] => 0
  | d :: r => uptoBulk d + uptoBulkAll r
def uptoBulkEntries {H : Type} : List (Lit × DataW H) → Nat
  | [] => 0
  | x :: r => uptoBulkEntry x + uptoBulkEntries r
def uptoBulkEntry {H : Type} : Lit × DataW H → Nat
  | (.string bytes, d) => bytes.length + uptoBulk d + 1
  | (_, d) => uptoBulk d + 1
 end
def uptoSmall : (H : Type) → List (DataW H) → Bool := fun _ ds => decide (uptoBulkAll ds ≤ 1048576)
def OpenSpec.upto (s : _root_.Go.ChangeSpec) : _root_.Go.OpenSpec := { _root_.Go.OpenSpec.ofChange s with cond := some uptoSmall }

/-- 'sacristylaw6.SectorApart', WHERE WHAT IT READS IS OF BULK AT MOST 1048576: true; the input reads as it did. -/
def sectorApartUptoRow : OpenClaim := { program := "ythhgmjclmdggjaa", sum := "ff93b179added05d8cc5080ef55abfa990ff70fe89b63135a350422de882be4c", func := "sacristy/sacristylaw6.SectorApart", spec := "sectorApart", unfollowed := true, recurses := true, apart := false, narrowed := true }
def SectorApartUptoSaid : Prop := sectorApartUptoRow.holds Try.pinned (OpenSpec.upto sectorApartSpec)

/-- 'sacristylaw6.SectorKeeps', WHERE WHAT IT READS IS OF BULK AT MOST 1048576: true; the input reads as it did. -/
def sectorKeepsUptoRow : OpenClaim := { program := "ythhgmjclmdggjaa", sum := "ff93b179added05d8cc5080ef55abfa990ff70fe89b63135a350422de882be4c", func := "sacristy/sacristylaw6.SectorKeeps", spec := "sectorKeeps", unfollowed := true, recurses := true, apart := false, narrowed := true }
def SectorKeepsUptoSaid : Prop := sectorKeepsUptoRow.holds Try.pinned (OpenSpec.upto sectorKeepsSpec)

/-- 'sacristylaw6.SectorChoices', WHERE WHAT IT READS IS OF BULK AT MOST 1048576: true; the input reads as it did. -/
def sectorChoicesUptoRow : OpenClaim := { program := "ythhgmjclmdggjaa", sum := "ff93b179added05d8cc5080ef55abfa990ff70fe89b63135a350422de882be4c", func := "sacristy/sacristylaw6.SectorChoices", spec := "sectorChoices", unfollowed := true, recurses := true, apart := false, narrowed := true }
def SectorChoicesUptoSaid : Prop := sectorChoicesUptoRow.holds Try.pinned (OpenSpec.upto sectorChoicesSpec)

/-- 'sacristylaw6.SectorImage', WHERE WHAT IT READS IS OF BULK AT MOST 1048576: true; the input reads as it did. -/
def sectorImageUptoRow : OpenClaim := { program := "ythhgmjclmdggjaa", sum := "ff93b179added05d8cc5080ef55abfa990ff70fe89b63135a350422de882be4c", func := "sacristy/sacristylaw6.SectorImage", spec := "sectorImage", unfollowed := true, recurses := true, apart := false, narrowed := true }
def SectorImageUptoSaid : Prop := sectorImageUptoRow.holds Try.pinned (OpenSpec.upto sectorImageSpec)

/-- 'sacristylaw6.SectorPower', WHERE WHAT IT READS IS OF BULK AT MOST 1048576: true; the input reads as it did. -/
def sectorPowerUptoRow : OpenClaim := { program := "ythhgmjclmdggjaa", sum := "ff93b179added05d8cc5080ef55abfa990ff70fe89b63135a350422de882be4c", func := "sacristy/sacristylaw6.SectorPower", spec := "sectorPower", unfollowed := true, recurses := true, apart := false, narrowed := true }
def SectorPowerUptoSaid : Prop := sectorPowerUptoRow.holds Try.pinned (OpenSpec.upto sectorPowerSpec)

/-- 'sacristylaw6.SectorPlays', WHERE WHAT IT READS IS OF BULK AT MOST 1048576: true; the input reads as it did. -/
def sectorPlaysUptoRow : OpenClaim := { program := "ythhgmjclmdggjaa", sum := "ff93b179added05d8cc5080ef55abfa990ff70fe89b63135a350422de882be4c", func := "sacristy/sacristylaw6.SectorPlays", spec := "sectorPlays", inPlace := ["maps.clone"], unfollowed := true, recurses := true, apart := false, narrowed := true }
def SectorPlaysUptoSaid : Prop := sectorPlaysUptoRow.holds Try.pinned (OpenSpec.upto sectorPlaysSpec)

end Rows
end Go.Proofs.Ythhgmjclmdggjaa
