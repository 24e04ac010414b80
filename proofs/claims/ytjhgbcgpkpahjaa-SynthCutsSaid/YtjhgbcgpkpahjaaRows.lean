/-
  No cell of these rows narrows 'for every input' (looked for: loops, veiled, ifaces, maps, wideKeys, modest, calm, conditions, laid).
  DERIVED. THE GIVEN ROWS OF THIS SEAT. 6 by the template 'for every input the law returns true; each argument reads behind the call as it read before'; 0 by the template 'total and deterministic' (their statements: YtjhgbcgpkpahjaaTotals.lean).
  GIVEN WITH THE SEED: the statements are not yours to turn. If you find one false, say at which input.
  Laid BY PROGRAM, IN A SANDBOX (cutbox-rows.mjs): the forced cells as the released guide's own fill.sh prints them over the translation 4497123f8392bc1f… (all of the seat's roots in one cut). By AI agents, Wed Nov 11 2026. No macro, syntax, notation, axiom, sorry.
-/
import Derived.Test.YtjhgbcgpkpahjaaChecked
import GoSem.Claim
import GoSem.ClaimJoined
import GoSem.ClaimMapViews
import Derived.JoinedTies
import Derived.KernelRfl
namespace Go.Proofs.Ytjhgbcgpkpahjaa
/- THE CELL 'sum', in the pinned program and in every row, IS THE sha256 OF THE DUMP (.gsa) THAT YtjhgbcgpkpahjaaProg.lean LOADS. Nothing in Lean hashes anything: it is a label: what it is worth is what the hold of that sum in a sandbox is worth. -/
noncomputable def Try.pinned : Pinned := { name := "ytjhgbcgpkpahjaa", sum := "4497123f8392bc1ff45ade07b017d82450f899801eaa9f939843dc66cf89391f", checked := Try.checked }
namespace Rows
def none {H : Type} : Left H := { results := [], args := [] }

/-- 'madrigallaw10.SynthKnown': WHATEVER THE INPUT: true; the input reads as it did. -/
def synthKnownSpec : ChangeSpec := { name := "synthKnown", fn := fun _ => fun
  | [] => { results := [.lit (.bool true)], args := [] }
  | _ => none }
def synthKnownRow : OpenClaim := { program := "ytjhgbcgpkpahjaa", sum := "4497123f8392bc1ff45ade07b017d82450f899801eaa9f939843dc66cf89391f", func := "madrigal/madrigallaw10.SynthKnown", spec := "synthKnown", unfollowed := true, recurses := true, apart := false }
def SynthKnownSaid : Prop := synthKnownRow.holds Try.pinned (OpenSpec.ofChange synthKnownSpec)

/-- ITS FALSE NEIGHBOUR: 'it returns false'. Refute it at one input. -/
def synthKnownWrong : ChangeSpec := { name := "synthKnown", fn := fun _ => fun
  | [] => { results := [.lit (.bool false)], args := [] }
  | _ => none }
def SynthKnownWrongFalsely : Prop := synthKnownRow.holds Try.pinned (OpenSpec.ofChange synthKnownWrong)

/-- 'madrigallaw10.SynthRuns': WHATEVER THE INPUT: true; the input reads as it did. -/
def synthRunsSpec : ChangeSpec := { name := "synthRuns", fn := fun _ => fun
  | [d] => { results := [.lit (.bool true)], args := [d] }
  | _ => none }
def synthRunsRow : OpenClaim := { program := "ytjhgbcgpkpahjaa", sum := "4497123f8392bc1ff45ade07b017d82450f899801eaa9f939843dc66cf89391f", func := "madrigal/madrigallaw10.SynthRuns", spec := "synthRuns", unfollowed := true, recurses := true, apart := false }
def SynthRunsSaid : Prop := synthRunsRow.holds Try.pinned (OpenSpec.ofChange synthRunsSpec)

/-- ITS FALSE NEIGHBOUR: 'it returns false'. Refute it at one input. -/
def synthRunsWrong : ChangeSpec := { name := "synthRuns", fn := fun _ => fun
  | [d] => { results := [.lit (.bool false)], args := [d] }
  | _ => none }
def SynthRunsWrongFalsely : Prop := synthRunsRow.holds Try.pinned (OpenSpec.ofChange synthRunsWrong)

/-- 'madrigallaw10.SynthCuts': WHATEVER THE INPUT: true; the input reads as it did. -/
def synthCutsSpec : ChangeSpec := { name := "synthCuts", fn := fun _ => fun
  | [d1, d2, d3] => { results := [.lit (.bool true)], args := [d1, d2, d3] }
  | _ => none }
def synthCutsRow : OpenClaim := { program := "ytjhgbcgpkpahjaa", sum := "4497123f8392bc1ff45ade07b017d82450f899801eaa9f939843dc66cf89391f", func := "madrigal/madrigallaw10.SynthCuts", spec := "synthCuts", unfollowed := true, recurses := true, apart := false }
def SynthCutsSaid : Prop := synthCutsRow.holds Try.pinned (OpenSpec.ofChange synthCutsSpec)

/-- ITS FALSE NEIGHBOUR: 'it returns false'. Refute it at one input. -/
def synthCutsWrong : ChangeSpec := { name := "synthCuts", fn := fun _ => fun
  | [d1, d2, d3] => { results := [.lit (.bool false)], args := [d1, d2, d3] }
  | _ => none }
def SynthCutsWrongFalsely : Prop := synthCutsRow.holds Try.pinned (OpenSpec.ofChange synthCutsWrong)

/-- 'madrigallaw10.SynthSilence': WHATEVER THE INPUT: true; the input reads as it did. -/
def synthSilenceSpec : ChangeSpec := { name := "synthSilence", fn := fun _ => fun
  | [d1, d2, d3] => { results := [.lit (.bool true)], args := [d1, d2, d3] }
  | _ => none }
def synthSilenceRow : OpenClaim := { program := "ytjhgbcgpkpahjaa", sum := "4497123f8392bc1ff45ade07b017d82450f899801eaa9f939843dc66cf89391f", func := "madrigal/madrigallaw10.SynthSilence", spec := "synthSilence", unfollowed := true, recurses := true, apart := false }
def SynthSilenceSaid : Prop := synthSilenceRow.holds Try.pinned (OpenSpec.ofChange synthSilenceSpec)

/-- ITS FALSE NEIGHBOUR: 'it returns false'. Refute it at one input. -/
def synthSilenceWrong : ChangeSpec := { name := "synthSilence", fn := fun _ => fun
  | [d1, d2, d3] => { results := [.lit (.bool false)], args := [d1, d2, d3] }
  | _ => none }
def SynthSilenceWrongFalsely : Prop := synthSilenceRow.holds Try.pinned (OpenSpec.ofChange synthSilenceWrong)

/-- 'madrigallaw10.SynthSigns': WHATEVER THE INPUT: true; the input reads as it did. -/
def synthSignsSpec : ChangeSpec := { name := "synthSigns", fn := fun _ => fun
  | [d] => { results := [.lit (.bool true)], args := [d] }
  | _ => none }
def synthSignsRow : OpenClaim := { program := "ytjhgbcgpkpahjaa", sum := "4497123f8392bc1ff45ade07b017d82450f899801eaa9f939843dc66cf89391f", func := "madrigal/madrigallaw10.SynthSigns", spec := "synthSigns", unfollowed := true, recurses := true, apart := false }
def SynthSignsSaid : Prop := synthSignsRow.holds Try.pinned (OpenSpec.ofChange synthSignsSpec)

/-- ITS FALSE NEIGHBOUR: 'it returns false'. Refute it at one input. -/
def synthSignsWrong : ChangeSpec := { name := "synthSigns", fn := fun _ => fun
  | [d] => { results := [.lit (.bool false)], args := [d] }
  | _ => none }
def SynthSignsWrongFalsely : Prop := synthSignsRow.holds Try.pinned (OpenSpec.ofChange synthSignsWrong)

/-- 'madrigallaw10.SynthBounds': WHATEVER THE INPUT: true; the input reads as it did. -/
def synthBoundsSpec : ChangeSpec := { name := "synthBounds", fn := fun _ => fun
  | [d] => { results := [.lit (.bool true)], args := [d] }
  | _ => none }
def synthBoundsRow : OpenClaim := { program := "ytjhgbcgpkpahjaa", sum := "4497123f8392bc1ff45ade07b017d82450f899801eaa9f939843dc66cf89391f", func := "madrigal/madrigallaw10.SynthBounds", spec := "synthBounds", unfollowed := true, recurses := true, apart := false }
def SynthBoundsSaid : Prop := synthBoundsRow.holds Try.pinned (OpenSpec.ofChange synthBoundsSpec)

/-- ITS FALSE NEIGHBOUR: 'it returns false'. Refute it at one input. -/
def synthBoundsWrong : ChangeSpec := { name := "synthBounds", fn := fun _ => fun
  | [d] => { results := [.lit (.bool false)], args := [d] }
  | _ => none }
def SynthBoundsWrongFalsely : Prop := synthBoundsRow.holds Try.pinned (OpenSpec.ofChange synthBoundsWrong)

/- THE SECOND FORM. 'bulk': how many values and letters a reading holds, each counted each time it is reached (what is shared counts as often as it is met; a slice's spare places count too). A statement '..UptoSaid' is the law's where the arguments, and the package variables that the reading takes, are together of bulk at most 1048576: NARROWER than '..Said'. Prove '..Said' where nothing that the law and all that it calls make is longer than what came in: it says more and counts as full. Else prove '..UptoSaid'. A law counts once. -/
mutual
def uptoBulk {H : Type} : DataW H → Nat
  | .lit (.string bytes) => bytes.length + 1
  | .lit _ => 1
  | .nil => 1
  | .ptr d => uptoBulk d + 1
  | .slice elems spare => uptoBulkAll elems + uptoBulkAll spare + 1
  | .agg parts => uptoBulkAll parts + 1
  | .iface _ d => uptoBulk d + 1
  | .map entries => uptoBulkEntries entries + 1
  | .held _ => 1
def uptoBulkAll {H : Type} : List (DataW H) → Nat
  | [] => 0
  | d :: r => uptoBulk d + uptoBulkAll r
def uptoBulkEntries {H : Type} : List (Lit × DataW H) → Nat
  | [] => 0
  | x :: r => uptoBulkEntry x + uptoBulkEntries r
def uptoBulkEntry {H : Type} : Lit × DataW H → Nat
  | (.string bytes, d) => bytes.length + uptoBulk d + 1
  | (_, d) => uptoBulk d + 1
 end
def uptoSmall : (H : Type) → List (DataW H) → Bool := fun _ ds => decide (uptoBulkAll ds ≤ 1048576)
def OpenSpec.upto (s : _root_.Go.ChangeSpec) : _root_.Go.OpenSpec := { _root_.Go.OpenSpec.ofChange s with cond := some uptoSmall }

/-- 'madrigallaw10.SynthKnown', WHERE WHAT IT READS IS OF BULK AT MOST 1048576: true; the input reads as it did. -/
def synthKnownUptoRow : OpenClaim := { program := "ytjhgbcgpkpahjaa", sum := "4497123f8392bc1ff45ade07b017d82450f899801eaa9f939843dc66cf89391f", func := "madrigal/madrigallaw10.SynthKnown", spec := "synthKnown", unfollowed := true, recurses := true, apart := false, narrowed := true }
def SynthKnownUptoSaid : Prop := synthKnownUptoRow.holds Try.pinned (OpenSpec.upto synthKnownSpec)

/-- 'madrigallaw10.SynthRuns', WHERE WHAT IT READS IS OF BULK AT MOST 1048576: true; the input reads as it did. -/
def synthRunsUptoRow : OpenClaim := { program := "ytjhgbcgpkpahjaa", sum := "4497123f8392bc1ff45ade07b017d82450f899801eaa9f939843dc66cf89391f", func := "madrigal/madrigallaw10.SynthRuns", spec := "synthRuns", unfollowed := true, recurses := true, apart := false, narrowed := true }
def SynthRunsUptoSaid : Prop := synthRunsUptoRow.holds Try.pinned (OpenSpec.upto synthRunsSpec)

/-- 'madrigallaw10.SynthCuts', WHERE WHAT IT READS IS OF BULK AT MOST 1048576: true; the input reads as it did. -/
def synthCutsUptoRow : OpenClaim := { program := "ytjhgbcgpkpahjaa", sum := "4497123f8392bc1ff45ade07b017d82450f899801eaa9f939843dc66cf89391f", func := "madrigal/madrigallaw10.SynthCuts", spec := "synthCuts", unfollowed := true, recurses := true, apart := false, narrowed := true }
def SynthCutsUptoSaid : Prop := synthCutsUptoRow.holds Try.pinned (OpenSpec.upto synthCutsSpec)

/-- 'madrigallaw10.SynthSilence', WHERE WHAT IT READS IS OF BULK AT MOST 1048576: true; the input reads as it did. -/
def synthSilenceUptoRow : OpenClaim := { program := "ytjhgbcgpkpahjaa", sum := "4497123f8392bc1ff45ade07b017d82450f899801eaa9f939843dc66cf89391f", func := "madrigal/madrigallaw10.SynthSilence", spec := "synthSilence", unfollowed := true, recurses := true, apart := false, narrowed := true }
def SynthSilenceUptoSaid : Prop := synthSilenceUptoRow.holds Try.pinned (OpenSpec.upto synthSilenceSpec)

/-- 'madrigallaw10.SynthSigns', WHERE WHAT IT READS IS OF BULK AT MOST 1048576: true; the input reads as it did. -/
def synthSignsUptoRow : OpenClaim := { program := "ytjhgbcgpkpahjaa", sum := "4497123f8392bc1ff45ade07b017d82450f899801eaa9f939843dc66cf89391f", func := "madrigal/madrigallaw10.SynthSigns", spec := "synthSigns", unfollowed := true, recurses := true, apart := false, narrowed := true }
def SynthSignsUptoSaid : Prop := synthSignsUptoRow.holds Try.pinned (OpenSpec.upto synthSignsSpec)

/-- 'madrigallaw10.SynthBounds', WHERE WHAT IT READS IS OF BULK AT MOST 1048576: true; the input reads as it did. -/
def synthBoundsUptoRow : OpenClaim := { program := "ytjhgbcgpkpahjaa", sum := "4497123f8392bc1ff45ade07b017d82450f899801eaa9f939843dc66cf89391f", func := "madrigal/madrigallaw10.SynthBounds", spec := "synthBounds", unfollowed := true, recurses := true, apart := false, narrowed := true }
def SynthBoundsUptoSaid : Prop := synthBoundsUptoRow.holds Try.pinned (OpenSpec.upto synthBoundsSpec)

end Rows
end Go.Proofs.Ytjhgbcgpkpahjaa
