/-
  No cell of these rows narrows 'for every input' (looked for: loops, veiled, ifaces, maps, wideKeys, modest, calm, conditions, laid).
  DERIVED. THE GIVEN ROWS OF THIS SEAT. 7 by the template 'for every input the law returns true; each argument reads behind the call as it read before'; 0 by the template 'total and deterministic' (their statements: YtmnknegbbmjcbaaTotals.lean).
  GIVEN WITH THE SEED: the statements are not yours to turn. If you find one false, say at which input.
  Laid BY PROGRAM, IN A SANDBOX (cutbox-rows.mjs): the forced cells as the released guide's own fill.sh prints them over the translation 65eb48b661ee42fa… (all of the seat's roots in one cut). By AI agents, Wed Nov 11 2026. No macro, syntax, notation, axiom, sorry.
-/
import Derived.Test.YtmnknegbbmjcbaaChecked
import GoSem.Claim
import GoSem.ClaimJoined
import GoSem.ClaimMapViews
import Derived.JoinedTies
import Derived.KernelRfl
namespace Go.Proofs.Ytmnknegbbmjcbaa
/- THE CELL 'sum', in the pinned program and in every row, IS THE sha256 OF THE DUMP (.gsa) THAT YtmnknegbbmjcbaaProg.lean LOADS. Nothing in Lean hashes anything: it is a label: what it is worth is what the hold of that sum in a sandbox is worth. -/
noncomputable def Try.pinned : Pinned := { name := "ytmnknegbbmjcbaa", sum := "65eb48b661ee42fa7695b3ca61a5a92d6c22d70e04d404e39dd57fe9aecc0140", checked := Try.checked }
namespace Rows
def none {H : Type} : Left H := { results := [], args := [] }

/-- 'madrigallaw5.TocKnown': WHATEVER THE INPUT: true; the input reads as it did. -/
def tocKnownSpec : ChangeSpec := { name := "tocKnown", fn := fun _ => fun
  | [] => { results := [.lit (.bool true)], args := [] }
  | _ => none }
def tocKnownRow : OpenClaim := { program := "ytmnknegbbmjcbaa", sum := "65eb48b661ee42fa7695b3ca61a5a92d6c22d70e04d404e39dd57fe9aecc0140", func := "madrigal/madrigallaw5.TocKnown", spec := "tocKnown", unfollowed := true, recurses := true, apart := false }
def TocKnownSaid : Prop := tocKnownRow.holds Try.pinned (OpenSpec.ofChange tocKnownSpec)

/-- ITS FALSE NEIGHBOUR: 'it returns false'. Refute it at one input. -/
def tocKnownWrong : ChangeSpec := { name := "tocKnown", fn := fun _ => fun
  | [] => { results := [.lit (.bool false)], args := [] }
  | _ => none }
def TocKnownWrongFalsely : Prop := tocKnownRow.holds Try.pinned (OpenSpec.ofChange tocKnownWrong)

/-- 'madrigallaw5.TocParses': WHATEVER THE INPUT: true; the input reads as it did. -/
def tocParsesSpec : ChangeSpec := { name := "tocParses", fn := fun _ => fun
  | [d] => { results := [.lit (.bool true)], args := [d] }
  | _ => none }
def tocParsesRow : OpenClaim := { program := "ytmnknegbbmjcbaa", sum := "65eb48b661ee42fa7695b3ca61a5a92d6c22d70e04d404e39dd57fe9aecc0140", func := "madrigal/madrigallaw5.TocParses", spec := "tocParses", unfollowed := true, recurses := true, apart := false }
def TocParsesSaid : Prop := tocParsesRow.holds Try.pinned (OpenSpec.ofChange tocParsesSpec)

/-- ITS FALSE NEIGHBOUR: 'it returns false'. Refute it at one input. -/
def tocParsesWrong : ChangeSpec := { name := "tocParses", fn := fun _ => fun
  | [d] => { results := [.lit (.bool false)], args := [d] }
  | _ => none }
def TocParsesWrongFalsely : Prop := tocParsesRow.holds Try.pinned (OpenSpec.ofChange tocParsesWrong)

/-- 'madrigallaw5.TocPacks': WHATEVER THE INPUT: true; the input reads as it did. -/
def tocPacksSpec : ChangeSpec := { name := "tocPacks", fn := fun _ => fun
  | [d] => { results := [.lit (.bool true)], args := [d] }
  | _ => none }
def tocPacksRow : OpenClaim := { program := "ytmnknegbbmjcbaa", sum := "65eb48b661ee42fa7695b3ca61a5a92d6c22d70e04d404e39dd57fe9aecc0140", func := "madrigal/madrigallaw5.TocPacks", spec := "tocPacks", unfollowed := true, recurses := true, apart := false }
def TocPacksSaid : Prop := tocPacksRow.holds Try.pinned (OpenSpec.ofChange tocPacksSpec)

/-- ITS FALSE NEIGHBOUR: 'it returns false'. Refute it at one input. -/
def tocPacksWrong : ChangeSpec := { name := "tocPacks", fn := fun _ => fun
  | [d] => { results := [.lit (.bool false)], args := [d] }
  | _ => none }
def TocPacksWrongFalsely : Prop := tocPacksRow.holds Try.pinned (OpenSpec.ofChange tocPacksWrong)

/-- 'madrigallaw5.TocConfigs': WHATEVER THE INPUT: true; the input reads as it did. -/
def tocConfigsSpec : ChangeSpec := { name := "tocConfigs", fn := fun _ => fun
  | [d1, d2] => { results := [.lit (.bool true)], args := [d1, d2] }
  | _ => none }
def tocConfigsRow : OpenClaim := { program := "ytmnknegbbmjcbaa", sum := "65eb48b661ee42fa7695b3ca61a5a92d6c22d70e04d404e39dd57fe9aecc0140", func := "madrigal/madrigallaw5.TocConfigs", spec := "tocConfigs", unfollowed := true, recurses := true, apart := false }
def TocConfigsSaid : Prop := tocConfigsRow.holds Try.pinned (OpenSpec.ofChange tocConfigsSpec)

/-- ITS FALSE NEIGHBOUR: 'it returns false'. Refute it at one input. -/
def tocConfigsWrong : ChangeSpec := { name := "tocConfigs", fn := fun _ => fun
  | [d1, d2] => { results := [.lit (.bool false)], args := [d1, d2] }
  | _ => none }
def TocConfigsWrongFalsely : Prop := tocConfigsRow.holds Try.pinned (OpenSpec.ofChange tocConfigsWrong)

/-- 'madrigallaw5.TocRepacks': WHATEVER THE INPUT: true; the input reads as it did. -/
def tocRepacksSpec : ChangeSpec := { name := "tocRepacks", fn := fun _ => fun
  | [d] => { results := [.lit (.bool true)], args := [d] }
  | _ => none }
def tocRepacksRow : OpenClaim := { program := "ytmnknegbbmjcbaa", sum := "65eb48b661ee42fa7695b3ca61a5a92d6c22d70e04d404e39dd57fe9aecc0140", func := "madrigal/madrigallaw5.TocRepacks", spec := "tocRepacks", unfollowed := true, recurses := true, apart := false }
def TocRepacksSaid : Prop := tocRepacksRow.holds Try.pinned (OpenSpec.ofChange tocRepacksSpec)

/-- ITS FALSE NEIGHBOUR: 'it returns false'. Refute it at one input. -/
def tocRepacksWrong : ChangeSpec := { name := "tocRepacks", fn := fun _ => fun
  | [d] => { results := [.lit (.bool false)], args := [d] }
  | _ => none }
def TocRepacksWrongFalsely : Prop := tocRepacksRow.holds Try.pinned (OpenSpec.ofChange tocRepacksWrong)

/-- 'madrigallaw5.TocPads': WHATEVER THE INPUT: true; the input reads as it did. -/
def tocPadsSpec : ChangeSpec := { name := "tocPads", fn := fun _ => fun
  | [d1, d2] => { results := [.lit (.bool true)], args := [d1, d2] }
  | _ => none }
def tocPadsRow : OpenClaim := { program := "ytmnknegbbmjcbaa", sum := "65eb48b661ee42fa7695b3ca61a5a92d6c22d70e04d404e39dd57fe9aecc0140", func := "madrigal/madrigallaw5.TocPads", spec := "tocPads", unfollowed := true, recurses := true, apart := false }
def TocPadsSaid : Prop := tocPadsRow.holds Try.pinned (OpenSpec.ofChange tocPadsSpec)

/-- ITS FALSE NEIGHBOUR: 'it returns false'. Refute it at one input. -/
def tocPadsWrong : ChangeSpec := { name := "tocPads", fn := fun _ => fun
  | [d1, d2] => { results := [.lit (.bool false)], args := [d1, d2] }
  | _ => none }
def TocPadsWrongFalsely : Prop := tocPadsRow.holds Try.pinned (OpenSpec.ofChange tocPadsWrong)

/-- 'madrigallaw5.TocTimes': WHATEVER THE INPUT: true; the input reads as it did. -/
def tocTimesSpec : ChangeSpec := { name := "tocTimes", fn := fun _ => fun
  | [d] => { results := [.lit (.bool true)], args := [d] }
  | _ => none }
def tocTimesRow : OpenClaim := { program := "ytmnknegbbmjcbaa", sum := "65eb48b661ee42fa7695b3ca61a5a92d6c22d70e04d404e39dd57fe9aecc0140", func := "madrigal/madrigallaw5.TocTimes", spec := "tocTimes", unfollowed := true, recurses := true, apart := false }
def TocTimesSaid : Prop := tocTimesRow.holds Try.pinned (OpenSpec.ofChange tocTimesSpec)

/-- ITS FALSE NEIGHBOUR: 'it returns false'. Refute it at one input. -/
def tocTimesWrong : ChangeSpec := { name := "tocTimes", fn := fun _ => fun
  | [d] => { results := [.lit (.bool false)], args := [d] }
  | _ => none }
def TocTimesWrongFalsely : Prop := tocTimesRow.holds Try.pinned (OpenSpec.ofChange tocTimesWrong)

/- THE SECOND FORM. 'bulk': how many values and letters a reading holds, each counted each time it is reached (what is shared counts as often as it is met; a slice's spare places count too). A statement '..UptoSaid' is the law's where the arguments, and the package variables that the reading takes, are together of bulk at most 1048576: NARROWER than '..Said'. Prove '..Said' where nothing that the law and all that it calls make is longer than what came in: it says more and counts as full. Else prove '..UptoSaid'. A law counts once. -/
mutual
def uptoBulk {H : Type} : DataW H → Nat
  | .lit (.string bytes) => bytes.length + 1
  | .lit _ => 1
  | .nil => 1
  | .ptr d => uptoBulk d + 1
  | .slice elems spare => uptoBulkAll elems + uptoBulkAll spare + 1
  | .agg parts => uptoBulkAll parts + 1
  | .iface _ d => uptoBulk d + 1
  | .map entries => uptoBulkEntries entries + 1
  | .held _ => 1
def uptoBulkAll {H : Type} : List (DataW H) → Nat
  | [] => 0
  | d :: r => uptoBulk d + uptoBulkAll r
def uptoBulkEntries {H : Type} : List (Lit × DataW H) → Nat
  | [] => 0
  | x :: r => uptoBulkEntry x + uptoBulkEntries r
def uptoBulkEntry {H : Type} : Lit × DataW H → Nat
  | (.string bytes, d) => bytes.length + uptoBulk d + 1
  | (_, d) => uptoBulk d + 1
 end
def uptoSmall : (H : Type) → List (DataW H) → Bool := fun _ ds => decide (uptoBulkAll ds ≤ 1048576)
def OpenSpec.upto (s : _root_.Go.ChangeSpec) : _root_.Go.OpenSpec := { _root_.Go.OpenSpec.ofChange s with cond := some uptoSmall }

/-- 'madrigallaw5.TocKnown', WHERE WHAT IT READS IS OF BULK AT MOST 1048576: true; the input reads as it did. -/
def tocKnownUptoRow : OpenClaim := { program := "ytmnknegbbmjcbaa", sum := "65eb48b661ee42fa7695b3ca61a5a92d6c22d70e04d404e39dd57fe9aecc0140", func := "madrigal/madrigallaw5.TocKnown", spec := "tocKnown", unfollowed := true, recurses := true, apart := false, narrowed := true }
def TocKnownUptoSaid : Prop := tocKnownUptoRow.holds Try.pinned (OpenSpec.upto tocKnownSpec)

/-- 'madrigallaw5.TocParses', WHERE WHAT IT READS IS OF BULK AT MOST 1048576: true; the input reads as it did. -/
def tocParsesUptoRow : OpenClaim := { program := "ytmnknegbbmjcbaa", sum := "65eb48b661ee42fa7695b3ca61a5a92d6c22d70e04d404e39dd57fe9aecc0140", func := "madrigal/madrigallaw5.TocParses", spec := "tocParses", unfollowed := true, recurses := true, apart := false, narrowed := true }
def TocParsesUptoSaid : Prop := tocParsesUptoRow.holds Try.pinned (OpenSpec.upto tocParsesSpec)

/-- 'madrigallaw5.TocPacks', WHERE WHAT IT READS IS OF BULK AT MOST 1048576: true; the input reads as it did. -/
def tocPacksUptoRow : OpenClaim := { program := "ytmnknegbbmjcbaa", sum := "65eb48b661ee42fa7695b3ca61a5a92d6c22d70e04d404e39dd57fe9aecc0140", func := "madrigal/madrigallaw5.TocPacks", spec := "tocPacks", unfollowed := true, recurses := true, apart := false, narrowed := true }
def TocPacksUptoSaid : Prop := tocPacksUptoRow.holds Try.pinned (OpenSpec.upto tocPacksSpec)

/-- 'madrigallaw5.TocConfigs', WHERE WHAT IT READS IS OF BULK AT MOST 1048576: true; the input reads as it did. -/
def tocConfigsUptoRow : OpenClaim := { program := "ytmnknegbbmjcbaa", sum := "65eb48b661ee42fa7695b3ca61a5a92d6c22d70e04d404e39dd57fe9aecc0140", func := "madrigal/madrigallaw5.TocConfigs", spec := "tocConfigs", unfollowed := true, recurses := true, apart := false, narrowed := true }
def TocConfigsUptoSaid : Prop := tocConfigsUptoRow.holds Try.pinned (OpenSpec.upto tocConfigsSpec)

/-- 'madrigallaw5.TocRepacks', WHERE WHAT IT READS IS OF BULK AT MOST 1048576: true; the input reads as it did. -/
def tocRepacksUptoRow : OpenClaim := { program := "ytmnknegbbmjcbaa", sum := "65eb48b661ee42fa7695b3ca61a5a92d6c22d70e04d404e39dd57fe9aecc0140", func := "madrigal/madrigallaw5.TocRepacks", spec := "tocRepacks", unfollowed := true, recurses := true, apart := false, narrowed := true }
def TocRepacksUptoSaid : Prop := tocRepacksUptoRow.holds Try.pinned (OpenSpec.upto tocRepacksSpec)

/-- 'madrigallaw5.TocPads', WHERE WHAT IT READS IS OF BULK AT MOST 1048576: true; the input reads as it did. -/
def tocPadsUptoRow : OpenClaim := { program := "ytmnknegbbmjcbaa", sum := "65eb48b661ee42fa7695b3ca61a5a92d6c22d70e04d404e39dd57fe9aecc0140", func := "madrigal/madrigallaw5.TocPads", spec := "tocPads", unfollowed := true, recurses := true, apart := false, narrowed := true }
def TocPadsUptoSaid : Prop := tocPadsUptoRow.holds Try.pinned (OpenSpec.upto tocPadsSpec)

/-- 'madrigallaw5.TocTimes', WHERE WHAT IT READS IS OF BULK AT MOST 1048576: true; the input reads as it did. -/
def tocTimesUptoRow : OpenClaim := { program := "ytmnknegbbmjcbaa", sum := "65eb48b661ee42fa7695b3ca61a5a92d6c22d70e04d404e39dd57fe9aecc0140", func := "madrigal/madrigallaw5.TocTimes", spec := "tocTimes", unfollowed := true, recurses := true, apart := false, narrowed := true }
def TocTimesUptoSaid : Prop := tocTimesUptoRow.holds Try.pinned (OpenSpec.upto tocTimesSpec)

end Rows
end Go.Proofs.Ytmnknegbbmjcbaa
