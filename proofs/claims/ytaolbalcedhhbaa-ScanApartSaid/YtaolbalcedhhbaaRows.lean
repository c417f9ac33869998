/-
  No cell of these rows narrows 'for every input' (looked for: loops, veiled, ifaces, maps, wideKeys, modest, calm, conditions, laid).
  DERIVED. THE GIVEN ROWS OF THIS SEAT. 3 by the template 'for every input the law returns true; each argument reads behind the call as it read before'; 0 by the template 'total and deterministic' (their statements: YtaolbalcedhhbaaTotals.lean).
  GIVEN WITH THE SEED: the statements are not yours to turn. If you find one false, say at which input.
  Laid BY PROGRAM, IN A SANDBOX (cutbox-rows.mjs): the forced cells as the released guide's own fill.sh prints them over the translation cddf87ea91d0544d… (all of the seat's roots in one cut). By AI agents, Wed Nov 11 2026. No macro, syntax, notation, axiom, sorry.
-/
import Derived.Test.YtaolbalcedhhbaaChecked
import GoSem.Claim
import GoSem.ClaimJoined
import GoSem.ClaimMapViews
import Derived.JoinedTies
import Derived.KernelRfl
namespace Go.Proofs.Ytaolbalcedhhbaa
/- THE CELL 'sum', in the pinned program and in every row, IS THE sha256 OF THE DUMP (.gsa) THAT YtaolbalcedhhbaaProg.lean LOADS. Nothing in Lean hashes anything: it is a label: what it is worth is what the hold of that sum in a sandbox is worth. -/
noncomputable def Try.pinned : Pinned := { name := "ytaolbalcedhhbaa", sum := "cddf87ea91d0544deaa7a06a14d9422ed8f4351fadfdeb311ba0280db92b329c", checked := Try.checked }
namespace Rows
def none {H : Type} : Left H := { results := [], args := [] }

/-- 'treadmilllaw20.ScanChunks': WHATEVER THE INPUT: true; the input reads as it did. -/
def scanChunksSpec : ChangeSpec := { name := "scanChunks", fn := fun _ => fun
  | [d1, d2] => { results := [.lit (.bool true)], args := [d1, d2] }
  | _ => none }
def scanChunksRow : OpenClaim := { program := "ytaolbalcedhhbaa", sum := "cddf87ea91d0544deaa7a06a14d9422ed8f4351fadfdeb311ba0280db92b329c", func := "treadmill/treadmilllaw20.ScanChunks", spec := "scanChunks", unfollowed := true, recurses := true, apart := false }
def ScanChunksSaid : Prop := scanChunksRow.holds Try.pinned (OpenSpec.ofChange scanChunksSpec)

/-- ITS FALSE NEIGHBOUR: 'it returns false'. Refute it at one input. -/
def scanChunksWrong : ChangeSpec := { name := "scanChunks", fn := fun _ => fun
  | [d1, d2] => { results := [.lit (.bool false)], args := [d1, d2] }
  | _ => none }
def ScanChunksWrongFalsely : Prop := scanChunksRow.holds Try.pinned (OpenSpec.ofChange scanChunksWrong)

/-- 'treadmilllaw20.ScanNobody': WHATEVER THE INPUT: true; the input reads as it did. -/
def scanNobodySpec : ChangeSpec := { name := "scanNobody", fn := fun _ => fun
  | [d1, d2] => { results := [.lit (.bool true)], args := [d1, d2] }
  | _ => none }
def scanNobodyRow : OpenClaim := { program := "ytaolbalcedhhbaa", sum := "cddf87ea91d0544deaa7a06a14d9422ed8f4351fadfdeb311ba0280db92b329c", func := "treadmill/treadmilllaw20.ScanNobody", spec := "scanNobody", unfollowed := true, recurses := true, apart := false }
def ScanNobodySaid : Prop := scanNobodyRow.holds Try.pinned (OpenSpec.ofChange scanNobodySpec)

/-- ITS FALSE NEIGHBOUR: 'it returns false'. Refute it at one input. -/
def scanNobodyWrong : ChangeSpec := { name := "scanNobody", fn := fun _ => fun
  | [d1, d2] => { results := [.lit (.bool false)], args := [d1, d2] }
  | _ => none }
def ScanNobodyWrongFalsely : Prop := scanNobodyRow.holds Try.pinned (OpenSpec.ofChange scanNobodyWrong)

/-- 'treadmilllaw20.ScanApart': WHATEVER THE INPUT: true; the input reads as it did. -/
def scanApartSpec : ChangeSpec := { name := "scanApart", fn := fun _ => fun
  | [d1, d2, d3] => { results := [.lit (.bool true)], args := [d1, d2, d3] }
  | _ => none }
def scanApartRow : OpenClaim := { program := "ytaolbalcedhhbaa", sum := "cddf87ea91d0544deaa7a06a14d9422ed8f4351fadfdeb311ba0280db92b329c", func := "treadmill/treadmilllaw20.ScanApart", spec := "scanApart", unfollowed := true, recurses := true, apart := false }
def ScanApartSaid : Prop := scanApartRow.holds Try.pinned (OpenSpec.ofChange scanApartSpec)

/-- ITS FALSE NEIGHBOUR: 'it returns false'. Refute it at one input. -/
def scanApartWrong : ChangeSpec := { name := "scanApart", fn := fun _ => fun
  | [d1, d2, d3] => { results := [.lit (.bool false)], args := [d1, d2, d3] }
  | _ => none }
def ScanApartWrongFalsely : Prop := scanApartRow.holds Try.pinned (OpenSpec.ofChange scanApartWrong)

/- THE SECOND FORM. 'bulk': how many values and letters a reading holds, each counted each time it is reached (what is shared counts as often as it is met; a slice's spare places count too). A statement '..UptoSaid' is the law's where the arguments, and the package variables that the reading takes, are together of bulk at most 1048576: NARROWER than '..Said'. Prove '..Said' where nothing that the law and all that it calls make is longer than what came in: it says more and counts as full. Else prove '..UptoSaid'. A law counts once. -/
mutual
def uptoBulk {H : Type} : DataW H → Nat
  | .lit (.string bytes) => bytes.length + 1
  | .lit _ => 1
  | .nil => 1
  | .ptr d => uptoBulk d + 1
  | .slice elems spare => uptoBulkAll elems + uptoBulkAll spare + 1
  | .agg parts => uptoBulkAll parts + 1
  | .iface _ d => uptoBulk d + 1
  | .map entries => uptoBulkEntries entries + 1
  | .held _ => 1
def uptoBulkAll {H : Type} : List (DataW H) → Nat
  | [] => 0
  | d :: r => uptoBulk d + uptoBulkAll r
def uptoBulkEntries {H : Type} : List (Lit × DataW H) → Nat
  | [] => 0
  | x :: r => uptoBulkEntry x + uptoBulkEntries r
def uptoBulkEntry {H : Type} : Lit × DataW H → Nat
  | (.string bytes, d) => bytes.length + uptoBulk d + 1
  | (_, d) => uptoBulk d + 1
 end
def uptoSmall : (H : Type) → List (DataW H) → Bool := fun _ ds => decide (uptoBulkAll ds ≤ 1048576)
def OpenSpec.upto (s : _root_.Go.ChangeSpec) : _root_.Go.OpenSpec := { _root_.Go.OpenSpec.ofChange s with cond := some uptoSmall }

/-- 'treadmilllaw20.ScanChunks', WHERE WHAT IT READS IS OF BULK AT MOST 1048576: true; the input reads as it did. -/
def scanChunksUptoRow : OpenClaim := { program := "ytaolbalcedhhbaa", sum := "cddf87ea91d0544deaa7a06a14d9422ed8f4351fadfdeb311ba0280db92b329c", func := "treadmill/treadmilllaw20.ScanChunks", spec := "scanChunks", unfollowed := true, recurses := true, apart := false, narrowed := true }
def ScanChunksUptoSaid : Prop := scanChunksUptoRow.holds Try.pinned (OpenSpec.upto scanChunksSpec)

/-- 'treadmilllaw20.ScanNobody', WHERE WHAT IT READS IS OF BULK AT MOST 1048576: true; the input reads as it did. -/
def scanNobodyUptoRow : OpenClaim := { program := "ytaolbalcedhhbaa", sum := "cddf87ea91d0544deaa7a06a14d9422ed8f4351fadfdeb311ba0280db92b329c", func := "treadmill/treadmilllaw20.ScanNobody", spec := "scanNobody", unfollowed := true, recurses := true, apart := false, narrowed := true }
def ScanNobodyUptoSaid : Prop := scanNobodyUptoRow.holds Try.pinned (OpenSpec.upto scanNobodySpec)

/-- 'treadmilllaw20.ScanApart', WHERE WHAT IT READS IS OF BULK AT MOST 1048576: true; the input reads as it did. -/
def scanApartUptoRow : OpenClaim := { program := "ytaolbalcedhhbaa", sum := "cddf87ea91d0544deaa7a06a14d9422ed8f4351fadfdeb311ba0280db92b329c", func := "treadmill/treadmilllaw20.ScanApart", spec := "scanApart", unfollowed := true, recurses := true, apart := false, narrowed := true }
def ScanApartUptoSaid : Prop := scanApartUptoRow.holds Try.pinned (OpenSpec.upto scanApartSpec)

end Rows
end Go.Proofs.Ytaolbalcedhhbaa
