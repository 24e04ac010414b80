/-
  No cell of these rows narrows 'for every input' (looked for: loops, veiled, ifaces, maps, wideKeys, modest, calm, conditions, laid).
  DERIVED. THE GIVEN ROWS OF THIS SEAT. 6 by the template 'for every input the law returns true; each argument reads behind the call as it read before'; 0 by the template 'total and deterministic' (their statements: YtddlkglpgkdgkaaTotals.lean).
  GIVEN WITH THE SEED: the statements are not yours to turn. If you find one false, say at which input.
  Laid BY PROGRAM, IN A SANDBOX (cutbox-rows.mjs): the forced cells as the released guide's own fill.sh prints them over the translation 33a927c1bb75664b… (all of the seat's roots in one cut). By AI agents, Wed Nov 11 2026. No macro, syntax, notation, axiom, sorry.
-/
import Derived.Test.YtddlkglpgkdgkaaChecked
import GoSem.Claim
import GoSem.ClaimJoined
import GoSem.ClaimMapViews
import Derived.JoinedTies
import Derived.KernelRfl
namespace Go.Proofs.Ytddlkglpgkdgkaa
/- THE CELL 'sum', in the pinned program and in every row, IS THE sha256 OF THE DUMP (.gsa) THAT YtddlkglpgkdgkaaProg.lean LOADS. Nothing in Lean hashes anything: it is a label: what it is worth is what the hold of that sum in a sandbox is worth. -/
noncomputable def Try.pinned : Pinned := { name := "ytddlkglpgkdgkaa", sum := "33a927c1bb75664b9e155226dab76a680b57af98a05d3d497bf829a70cc6e664", checked := Try.checked }
namespace Rows
def none {H : Type} : Left H := { results := [], args := [] }

/-- 'madrigallaw16.EmphKnown': WHATEVER THE INPUT: true; the input reads as it did. -/
def emphKnownSpec : ChangeSpec := { name := "emphKnown", fn := fun _ => fun
  | [] => { results := [.lit (.bool true)], args := [] }
  | _ => none }
def emphKnownRow : OpenClaim := { program := "ytddlkglpgkdgkaa", sum := "33a927c1bb75664b9e155226dab76a680b57af98a05d3d497bf829a70cc6e664", func := "madrigal/madrigallaw16.EmphKnown", spec := "emphKnown", unfollowed := true, recurses := true, apart := false }
def EmphKnownSaid : Prop := emphKnownRow.holds Try.pinned (OpenSpec.ofChange emphKnownSpec)

/-- ITS FALSE NEIGHBOUR: 'it returns false'. Refute it at one input. -/
def emphKnownWrong : ChangeSpec := { name := "emphKnown", fn := fun _ => fun
  | [] => { results := [.lit (.bool false)], args := [] }
  | _ => none }
def EmphKnownWrongFalsely : Prop := emphKnownRow.holds Try.pinned (OpenSpec.ofChange emphKnownWrong)

/-- 'madrigallaw16.EmphPlays': WHATEVER THE INPUT: true; the input reads as it did. -/
def emphPlaysSpec : ChangeSpec := { name := "emphPlays", fn := fun _ => fun
  | [d] => { results := [.lit (.bool true)], args := [d] }
  | _ => none }
def emphPlaysRow : OpenClaim := { program := "ytddlkglpgkdgkaa", sum := "33a927c1bb75664b9e155226dab76a680b57af98a05d3d497bf829a70cc6e664", func := "madrigal/madrigallaw16.EmphPlays", spec := "emphPlays", unfollowed := true, recurses := true, apart := false }
def EmphPlaysSaid : Prop := emphPlaysRow.holds Try.pinned (OpenSpec.ofChange emphPlaysSpec)

/-- ITS FALSE NEIGHBOUR: 'it returns false'. Refute it at one input. -/
def emphPlaysWrong : ChangeSpec := { name := "emphPlays", fn := fun _ => fun
  | [d] => { results := [.lit (.bool false)], args := [d] }
  | _ => none }
def EmphPlaysWrongFalsely : Prop := emphPlaysRow.holds Try.pinned (OpenSpec.ofChange emphPlaysWrong)

/-- 'madrigallaw16.EmphBack': WHATEVER THE INPUT: true; the input reads as it did. -/
def emphBackSpec : ChangeSpec := { name := "emphBack", fn := fun _ => fun
  | [d] => { results := [.lit (.bool true)], args := [d] }
  | _ => none }
def emphBackRow : OpenClaim := { program := "ytddlkglpgkdgkaa", sum := "33a927c1bb75664b9e155226dab76a680b57af98a05d3d497bf829a70cc6e664", func := "madrigal/madrigallaw16.EmphBack", spec := "emphBack", unfollowed := true, recurses := true, apart := false }
def EmphBackSaid : Prop := emphBackRow.holds Try.pinned (OpenSpec.ofChange emphBackSpec)

/-- ITS FALSE NEIGHBOUR: 'it returns false'. Refute it at one input. -/
def emphBackWrong : ChangeSpec := { name := "emphBack", fn := fun _ => fun
  | [d] => { results := [.lit (.bool false)], args := [d] }
  | _ => none }
def EmphBackWrongFalsely : Prop := emphBackRow.holds Try.pinned (OpenSpec.ofChange emphBackWrong)

/-- 'madrigallaw16.EmphCuts': WHATEVER THE INPUT: true; the input reads as it did. -/
def emphCutsSpec : ChangeSpec := { name := "emphCuts", fn := fun _ => fun
  | [d1, d2, d3, d4] => { results := [.lit (.bool true)], args := [d1, d2, d3, d4] }
  | _ => none }
def emphCutsRow : OpenClaim := { program := "ytddlkglpgkdgkaa", sum := "33a927c1bb75664b9e155226dab76a680b57af98a05d3d497bf829a70cc6e664", func := "madrigal/madrigallaw16.EmphCuts", spec := "emphCuts", unfollowed := true, recurses := true, apart := false }
def EmphCutsSaid : Prop := emphCutsRow.holds Try.pinned (OpenSpec.ofChange emphCutsSpec)

/-- ITS FALSE NEIGHBOUR: 'it returns false'. Refute it at one input. -/
def emphCutsWrong : ChangeSpec := { name := "emphCuts", fn := fun _ => fun
  | [d1, d2, d3, d4] => { results := [.lit (.bool false)], args := [d1, d2, d3, d4] }
  | _ => none }
def EmphCutsWrongFalsely : Prop := emphCutsRow.holds Try.pinned (OpenSpec.ofChange emphCutsWrong)

/-- 'madrigallaw16.EmphChains': WHATEVER THE INPUT: true; the input reads as it did. -/
def emphChainsSpec : ChangeSpec := { name := "emphChains", fn := fun _ => fun
  | [d1, d2] => { results := [.lit (.bool true)], args := [d1, d2] }
  | _ => none }
def emphChainsRow : OpenClaim := { program := "ytddlkglpgkdgkaa", sum := "33a927c1bb75664b9e155226dab76a680b57af98a05d3d497bf829a70cc6e664", func := "madrigal/madrigallaw16.EmphChains", spec := "emphChains", unfollowed := true, recurses := true, apart := false }
def EmphChainsSaid : Prop := emphChainsRow.holds Try.pinned (OpenSpec.ofChange emphChainsSpec)

/-- ITS FALSE NEIGHBOUR: 'it returns false'. Refute it at one input. -/
def emphChainsWrong : ChangeSpec := { name := "emphChains", fn := fun _ => fun
  | [d1, d2] => { results := [.lit (.bool false)], args := [d1, d2] }
  | _ => none }
def EmphChainsWrongFalsely : Prop := emphChainsRow.holds Try.pinned (OpenSpec.ofChange emphChainsWrong)

/-- 'madrigallaw16.EmphPlain': WHATEVER THE INPUT: true; the input reads as it did. -/
def emphPlainSpec : ChangeSpec := { name := "emphPlain", fn := fun _ => fun
  | [d1, d2] => { results := [.lit (.bool true)], args := [d1, d2] }
  | _ => none }
def emphPlainRow : OpenClaim := { program := "ytddlkglpgkdgkaa", sum := "33a927c1bb75664b9e155226dab76a680b57af98a05d3d497bf829a70cc6e664", func := "madrigal/madrigallaw16.EmphPlain", spec := "emphPlain", unfollowed := true, recurses := true, apart := false }
def EmphPlainSaid : Prop := emphPlainRow.holds Try.pinned (OpenSpec.ofChange emphPlainSpec)

/-- ITS FALSE NEIGHBOUR: 'it returns false'. Refute it at one input. -/
def emphPlainWrong : ChangeSpec := { name := "emphPlain", fn := fun _ => fun
  | [d1, d2] => { results := [.lit (.bool false)], args := [d1, d2] }
  | _ => none }
def EmphPlainWrongFalsely : Prop := emphPlainRow.holds Try.pinned (OpenSpec.ofChange emphPlainWrong)

/- THE SECOND FORM. 'bulk': how many values and letters a reading holds, each counted each time it is reached (what is shared counts as often as it is met; a slice's spare places count too). A statement '..UptoSaid' is the law's where the arguments, and the package variables that the reading takes, are together of bulk at most 1048576: NARROWER than '..Said'. Prove '..Said' where nothing that the law and all that it calls make is longer than what came in: it says more and counts as full. Else prove '..UptoSaid'. A law counts once. -/
mutual
def uptoBulk {H : Type} : DataW H → Nat
  | .lit (.string bytes) => bytes.length + 1
  | .lit _ => 1
  | .nil => 1
  | .ptr d => uptoBulk d + 1
  | .slice elems spare => uptoBulkAll elems + uptoBulkAll spare + 1
  | .agg parts => uptoBulkAll parts + 1
  | .iface _ d => uptoBulk d + 1
  | .map entries => uptoBulkEntries entries + 1
  | .held _ => 1
def uptoBulkAll {H : Type} : List (DataW H) → Nat
  | [] => 0
  | d :: r => uptoBulk d + uptoBulkAll r
def uptoBulkEntries {H : Type} : List (Lit × DataW H) → Nat
  | [] => 0
  | x :: r => uptoBulkEntry x + uptoBulkEntries r
def uptoBulkEntry {H : Type} : Lit × DataW H → Nat
  | (.string bytes, d) => bytes.length + uptoBulk d + 1
  | (_, d) => uptoBulk d + 1
 end
def uptoSmall : (H : Type) → List (DataW H) → Bool := fun _ ds => decide (uptoBulkAll ds ≤ 1048576)
def OpenSpec.upto (s : _root_.Go.ChangeSpec) : _root_.Go.OpenSpec := { _root_.Go.OpenSpec.ofChange s with cond := some uptoSmall }

/-- 'madrigallaw16.EmphKnown', WHERE WHAT IT READS IS OF BULK AT MOST 1048576: true; the input reads as it did. -/
def emphKnownUptoRow : OpenClaim := { program := "ytddlkglpgkdgkaa", sum := "33a927c1bb75664b9e155226dab76a680b57af98a05d3d497bf829a70cc6e664", func := "madrigal/madrigallaw16.EmphKnown", spec := "emphKnown", unfollowed := true, recurses := true, apart := false, narrowed := true }
def EmphKnownUptoSaid : Prop := emphKnownUptoRow.holds Try.pinned (OpenSpec.upto emphKnownSpec)

/-- 'madrigallaw16.EmphPlays', WHERE WHAT IT READS IS OF BULK AT MOST 1048576: true; the input reads as it did. -/
def emphPlaysUptoRow : OpenClaim := { program := "ytddlkglpgkdgkaa", sum := "33a927c1bb75664b9e155226dab76a680b57af98a05d3d497bf829a70cc6e664", func := "madrigal/madrigallaw16.EmphPlays", spec := "emphPlays", unfollowed := true, recurses := true, apart := false, narrowed := true }
def EmphPlaysUptoSaid : Prop := emphPlaysUptoRow.holds Try.pinned (OpenSpec.upto emphPlaysSpec)

/-- 'madrigallaw16.EmphBack', WHERE WHAT IT READS IS OF BULK AT MOST 1048576: true; the input reads as it did. -/
def emphBackUptoRow : OpenClaim := { program := "ytddlkglpgkdgkaa", sum := "33a927c1bb75664b9e155226dab76a680b57af98a05d3d497bf829a70cc6e664", func := "madrigal/madrigallaw16.EmphBack", spec := "emphBack", unfollowed := true, recurses := true, apart := false, narrowed := true }
def EmphBackUptoSaid : Prop := emphBackUptoRow.holds Try.pinned (OpenSpec.upto emphBackSpec)

/-- 'madrigallaw16.EmphCuts', WHERE WHAT IT READS IS OF BULK AT MOST 1048576: true; the input reads as it did. -/
def emphCutsUptoRow : OpenClaim := { program := "ytddlkglpgkdgkaa", sum := "33a927c1bb75664b9e155226dab76a680b57af98a05d3d497bf829a70cc6e664", func := "madrigal/madrigallaw16.EmphCuts", spec := "emphCuts", unfollowed := true, recurses := true, apart := false, narrowed := true }
def EmphCutsUptoSaid : Prop := emphCutsUptoRow.holds Try.pinned (OpenSpec.upto emphCutsSpec)

/-- 'madrigallaw16.EmphChains', WHERE WHAT IT READS IS OF BULK AT MOST 1048576: true; the input reads as it did. -/
def emphChainsUptoRow : OpenClaim := { program := "ytddlkglpgkdgkaa", sum := "33a927c1bb75664b9e155226dab76a680b57af98a05d3d497bf829a70cc6e664", func := "madrigal/madrigallaw16.EmphChains", spec := "emphChains", unfollowed := true, recurses := true, apart := false, narrowed := true }
def EmphChainsUptoSaid : Prop := emphChainsUptoRow.holds Try.pinned (OpenSpec.upto emphChainsSpec)

/-- 'madrigallaw16.EmphPlain', WHERE WHAT IT READS IS OF BULK AT MOST 1048576: true; the input reads as it did. -/
def emphPlainUptoRow : OpenClaim := { program := "ytddlkglpgkdgkaa", sum := "33a927c1bb75664b9e155226dab76a680b57af98a05d3d497bf829a70cc6e664", func := "madrigal/madrigallaw16.EmphPlain", spec := "emphPlain", unfollowed := true, recurses := true, apart := false, narrowed := true }
def EmphPlainUptoSaid : Prop := emphPlainUptoRow.holds Try.pinned (OpenSpec.upto emphPlainSpec)

end Rows
end Go.Proofs.Ytddlkglpgkdgkaa
