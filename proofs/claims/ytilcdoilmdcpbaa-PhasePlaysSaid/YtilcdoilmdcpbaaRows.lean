/-
  No cell of these rows narrows 'for every input' (looked for: loops, veiled, ifaces, maps, wideKeys, modest, calm, conditions, laid).
  DERIVED. THE GIVEN ROWS OF THIS SEAT. 3 by the template 'for every input the law returns true; each argument reads behind the call as it read before'; 0 by the template 'total and deterministic' (their statements: YtilcdoilmdcpbaaTotals.lean).
  GIVEN WITH THE SEED: the statements are not yours to turn. If you find one false, say at which input.
  Laid BY PROGRAM, IN A SANDBOX (cutbox-rows.mjs): the forced cells as the released guide's own fill.sh prints them over the translation 3301632c7ee23f34… (all of the seat's roots in one cut). By AI agents, Wed Nov 11 2026. No macro, syntax, notation, axiom, sorry.
-/
import Derived.Test.YtilcdoilmdcpbaaChecked
import GoSem.Claim
import GoSem.ClaimJoined
import GoSem.ClaimMapViews
import Derived.JoinedTies
import Derived.KernelRfl
namespace Go.Proofs.Ytilcdoilmdcpbaa
/- THE CELL 'sum', in the pinned program and in every row, IS THE sha256 OF THE DUMP (.gsa) THAT YtilcdoilmdcpbaaProg.lean LOADS. Nothing in Lean hashes anything: it is a label: what it is worth is what the hold of that sum in a sandbox is worth. -/
noncomputable def Try.pinned : Pinned := { name := "ytilcdoilmdcpbaa", sum := "3301632c7ee23f34ccfb67a9de1948e92a4b9cc9ac8e36c02f221eee74248297", checked := Try.checked }
namespace Rows
def none {H : Type} : Left H := { results := [], args := [] }

/-- 'treadmilllaw25.PhaseRounds': WHATEVER THE INPUT: true; the input reads as it did. -/
def phaseRoundsSpec : ChangeSpec := { name := "phaseRounds", fn := fun _ => fun
  | [d1, d2] => { results := [.lit (.bool true)], args := [d1, d2] }
  | _ => none }
def phaseRoundsRow : OpenClaim := { program := "ytilcdoilmdcpbaa", sum := "3301632c7ee23f34ccfb67a9de1948e92a4b9cc9ac8e36c02f221eee74248297", func := "treadmill/treadmilllaw25.PhaseRounds", spec := "phaseRounds", apart := false }
def PhaseRoundsSaid : Prop := phaseRoundsRow.holds Try.pinned (OpenSpec.ofChange phaseRoundsSpec)

/-- ITS FALSE NEIGHBOUR: 'it returns false'. Refute it at one input. -/
def phaseRoundsWrong : ChangeSpec := { name := "phaseRounds", fn := fun _ => fun
  | [d1, d2] => { results := [.lit (.bool false)], args := [d1, d2] }
  | _ => none }
def PhaseRoundsWrongFalsely : Prop := phaseRoundsRow.holds Try.pinned (OpenSpec.ofChange phaseRoundsWrong)

/-- 'treadmilllaw25.PhasePlays': WHATEVER THE INPUT: true; the input reads as it did. -/
def phasePlaysSpec : ChangeSpec := { name := "phasePlays", fn := fun _ => fun
  | [d1, d2] => { results := [.lit (.bool true)], args := [d1, d2] }
  | _ => none }
def phasePlaysRow : OpenClaim := { program := "ytilcdoilmdcpbaa", sum := "3301632c7ee23f34ccfb67a9de1948e92a4b9cc9ac8e36c02f221eee74248297", func := "treadmill/treadmilllaw25.PhasePlays", spec := "phasePlays", apart := false }
def PhasePlaysSaid : Prop := phasePlaysRow.holds Try.pinned (OpenSpec.ofChange phasePlaysSpec)

/-- ITS FALSE NEIGHBOUR: 'it returns false'. Refute it at one input. -/
def phasePlaysWrong : ChangeSpec := { name := "phasePlays", fn := fun _ => fun
  | [d1, d2] => { results := [.lit (.bool false)], args := [d1, d2] }
  | _ => none }
def PhasePlaysWrongFalsely : Prop := phasePlaysRow.holds Try.pinned (OpenSpec.ofChange phasePlaysWrong)

/-- 'treadmilllaw25.PhaseCycles': WHATEVER THE INPUT: true; the input reads as it did. -/
def phaseCyclesSpec : ChangeSpec := { name := "phaseCycles", fn := fun _ => fun
  | [d1, d2] => { results := [.lit (.bool true)], args := [d1, d2] }
  | _ => none }
def phaseCyclesRow : OpenClaim := { program := "ytilcdoilmdcpbaa", sum := "3301632c7ee23f34ccfb67a9de1948e92a4b9cc9ac8e36c02f221eee74248297", func := "treadmill/treadmilllaw25.PhaseCycles", spec := "phaseCycles", apart := false }
def PhaseCyclesSaid : Prop := phaseCyclesRow.holds Try.pinned (OpenSpec.ofChange phaseCyclesSpec)

/-- ITS FALSE NEIGHBOUR: 'it returns false'. Refute it at one input. -/
def phaseCyclesWrong : ChangeSpec := { name := "phaseCycles", fn := fun _ => fun
  | [d1, d2] => { results := [.lit (.bool false)], args := [d1, d2] }
  | _ => none }
def PhaseCyclesWrongFalsely : Prop := phaseCyclesRow.holds Try.pinned (OpenSpec.ofChange phaseCyclesWrong)

/- THE SECOND FORM. 'bulk': how many values and letters a reading holds, each counted each time it is reached (what is shared counts as often as it is met; a slice's spare places count too). A statement '..UptoSaid' is the law's where the arguments, and the package variables that the reading takes, are together of bulk at most 1048576: NARROWER than '..Said'. Prove '..Said' where nothing that the law and all that it calls make is longer than what came in: it says more and counts as full. Else prove '..UptoSaid'. A law counts once. -/
mutual
def uptoBulk {H : Type} : DataW H → Nat
  | .lit (.string bytes) => bytes.length + 1
  | .lit _ => 1
  | .nil => 1
  | .ptr d => uptoBulk d + 1
  | .slice elems spare => uptoBulkAll elems + uptoBulkAll spare + 1
  | .agg parts => uptoBulkAll parts + 1
  | .iface _ d => uptoBulk d + 1
  | .map entries => uptoBulkEntries entries + 1
  | .held _ => 1
def uptoBulkAll {H : Type} : List (DataW H) → Nat
  | [] => 0
  | d :: r => uptoBulk d + uptoBulkAll r
def uptoBulkEntries {H : Type} : List (Lit × DataW H) → Nat
  | [] => 0
  | x :: r => uptoBulkEntry x + uptoBulkEntries r
def uptoBulkEntry {H : Type} : Lit × DataW H → Nat
  | (.string bytes, d) => bytes.length + uptoBulk d + 1
  | (_, d) => uptoBulk d + 1
 end
def uptoSmall : (H : Type) → List (DataW H) → Bool := fun _ ds => decide (uptoBulkAll ds ≤ 1048576)
def OpenSpec.upto (s : _root_.Go.ChangeSpec) : _root_.Go.OpenSpec := { _root_.Go.OpenSpec.ofChange s with cond := some uptoSmall }

/-- 'treadmilllaw25.PhaseRounds', WHERE WHAT IT READS IS OF BULK AT MOST 1048576: true; the input reads as it did. -/
def phaseRoundsUptoRow : OpenClaim := { program := "ytilcdoilmdcpbaa", sum := "3301632c7ee23f34ccfb67a9de1948e92a4b9cc9ac8e36c02f221eee74248297", func := "treadmill/treadmilllaw25.PhaseRounds", spec := "phaseRounds", apart := false, narrowed := true }
def PhaseRoundsUptoSaid : Prop := phaseRoundsUptoRow.holds Try.pinned (OpenSpec.upto phaseRoundsSpec)

/-- 'treadmilllaw25.PhasePlays', WHERE WHAT IT READS IS OF BULK AT MOST 1048576: true; the input reads as it did. -/
def phasePlaysUptoRow : OpenClaim := { program := "ytilcdoilmdcpbaa", sum := "3301632c7ee23f34ccfb67a9de1948e92a4b9cc9ac8e36c02f221eee74248297", func := "treadmill/treadmilllaw25.PhasePlays", spec := "phasePlays", apart := false, narrowed := true }
def PhasePlaysUptoSaid : Prop := phasePlaysUptoRow.holds Try.pinned (OpenSpec.upto phasePlaysSpec)

/-- 'treadmilllaw25.PhaseCycles', WHERE WHAT IT READS IS OF BULK AT MOST 1048576: true; the input reads as it did. -/
def phaseCyclesUptoRow : OpenClaim := { program := "ytilcdoilmdcpbaa", sum := "3301632c7ee23f34ccfb67a9de1948e92a4b9cc9ac8e36c02f221eee74248297", func := "treadmill/treadmilllaw25.PhaseCycles", spec := "phaseCycles", apart := false, narrowed := true }
def PhaseCyclesUptoSaid : Prop := phaseCyclesUptoRow.holds Try.pinned (OpenSpec.upto phaseCyclesSpec)

end Rows
end Go.Proofs.Ytilcdoilmdcpbaa
