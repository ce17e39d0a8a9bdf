/-
  No cell of these rows narrows 'for every input' (looked for: loops, veiled, ifaces, maps, wideKeys, modest, calm, conditions, laid).
  DERIVED. THE GIVEN ROWS OF THIS SEAT. 7 by the template 'for every input the law returns true; each argument reads behind the call as it read before'; 0 by the template 'total and deterministic' (their statements: YtogmlcgiajigfaaTotals.lean).
  GIVEN WITH THE SEED: the statements are not yours to turn. If you find one false, say at which input.
  Laid BY PROGRAM, IN A SANDBOX (cutbox-rows.mjs): the forced cells as the released guide's own fill.sh prints them over the translation 5f17b927d222a829… (all of the seat's roots in one cut). By AI agents, Wed Nov 11 2026. No macro, syntax, notation, axiom, sorry.
-/
import Derived.Test.YtogmlcgiajigfaaChecked
import GoSem.Claim
import GoSem.ClaimJoined
import GoSem.ClaimMapViews
import Derived.JoinedTies
import Derived.KernelRfl
namespace Go.Proofs.Ytogmlcgiajigfaa
/- THE CELL 'sum', in the pinned program and in every row, IS THE sha256 OF THE DUMP (.gsa) THAT YtogmlcgiajigfaaProg.lean LOADS. Nothing in Lean hashes anything: it is a label: what it is worth is what the hold of that sum in a sandbox is worth. -/
noncomputable def Try.pinned : Pinned := { name := "ytogmlcgiajigfaa", sum := "5f17b927d222a82955b98378b48ef2461d242aa3e3674f825967fa0422fc9389", checked := Try.checked }
namespace Rows
def none {H : Type} : Left H := { results := [], args := [] }

/-- 'darkroomlaw22.AroundChecks': WHATEVER THE INPUT: true; the input reads as it did. -/
def aroundChecksSpec : ChangeSpec := { name := "aroundChecks", fn := fun _ => fun
  | [d1, d2] => { results := [.lit (.bool true)], args := [d1, d2] }
  | _ => none }
def aroundChecksRow : OpenClaim := { program := "ytogmlcgiajigfaa", sum := "5f17b927d222a82955b98378b48ef2461d242aa3e3674f825967fa0422fc9389", func := "darkroom/darkroomlaw22.AroundChecks", spec := "aroundChecks", unfollowed := true, recurses := true, apart := false }
def AroundChecksSaid : Prop := aroundChecksRow.holds Try.pinned (OpenSpec.ofChange aroundChecksSpec)

/-- ITS FALSE NEIGHBOUR: 'it returns false'. Refute it at one input. -/
def aroundChecksWrong : ChangeSpec := { name := "aroundChecks", fn := fun _ => fun
  | [d1, d2] => { results := [.lit (.bool false)], args := [d1, d2] }
  | _ => none }
def AroundChecksWrongFalsely : Prop := aroundChecksRow.holds Try.pinned (OpenSpec.ofChange aroundChecksWrong)

/-- 'darkroomlaw22.AroundApplies': WHATEVER THE INPUT: true; the input reads as it did. -/
def aroundAppliesSpec : ChangeSpec := { name := "aroundApplies", fn := fun _ => fun
  | [d1, d2, d3] => { results := [.lit (.bool true)], args := [d1, d2, d3] }
  | _ => none }
def aroundAppliesRow : OpenClaim := { program := "ytogmlcgiajigfaa", sum := "5f17b927d222a82955b98378b48ef2461d242aa3e3674f825967fa0422fc9389", func := "darkroom/darkroomlaw22.AroundApplies", spec := "aroundApplies", unfollowed := true, recurses := true, apart := false }
def AroundAppliesSaid : Prop := aroundAppliesRow.holds Try.pinned (OpenSpec.ofChange aroundAppliesSpec)

/-- ITS FALSE NEIGHBOUR: 'it returns false'. Refute it at one input. -/
def aroundAppliesWrong : ChangeSpec := { name := "aroundApplies", fn := fun _ => fun
  | [d1, d2, d3] => { results := [.lit (.bool false)], args := [d1, d2, d3] }
  | _ => none }
def AroundAppliesWrongFalsely : Prop := aroundAppliesRow.holds Try.pinned (OpenSpec.ofChange aroundAppliesWrong)

/-- 'darkroomlaw22.AroundParts': WHATEVER THE INPUT: true; the input reads as it did. -/
def aroundPartsSpec : ChangeSpec := { name := "aroundParts", fn := fun _ => fun
  | [d1, d2] => { results := [.lit (.bool true)], args := [d1, d2] }
  | _ => none }
def aroundPartsRow : OpenClaim := { program := "ytogmlcgiajigfaa", sum := "5f17b927d222a82955b98378b48ef2461d242aa3e3674f825967fa0422fc9389", func := "darkroom/darkroomlaw22.AroundParts", spec := "aroundParts", unfollowed := true, recurses := true, apart := false }
def AroundPartsSaid : Prop := aroundPartsRow.holds Try.pinned (OpenSpec.ofChange aroundPartsSpec)

/-- ITS FALSE NEIGHBOUR: 'it returns false'. Refute it at one input. -/
def aroundPartsWrong : ChangeSpec := { name := "aroundParts", fn := fun _ => fun
  | [d1, d2] => { results := [.lit (.bool false)], args := [d1, d2] }
  | _ => none }
def AroundPartsWrongFalsely : Prop := aroundPartsRow.holds Try.pinned (OpenSpec.ofChange aroundPartsWrong)

/-- 'darkroomlaw22.AroundFar': WHATEVER THE INPUT: true; the input reads as it did. -/
def aroundFarSpec : ChangeSpec := { name := "aroundFar", fn := fun _ => fun
  | [d1, d2, d3] => { results := [.lit (.bool true)], args := [d1, d2, d3] }
  | _ => none }
def aroundFarRow : OpenClaim := { program := "ytogmlcgiajigfaa", sum := "5f17b927d222a82955b98378b48ef2461d242aa3e3674f825967fa0422fc9389", func := "darkroom/darkroomlaw22.AroundFar", spec := "aroundFar", unfollowed := true, recurses := true, apart := false }
def AroundFarSaid : Prop := aroundFarRow.holds Try.pinned (OpenSpec.ofChange aroundFarSpec)

/-- ITS FALSE NEIGHBOUR: 'it returns false'. Refute it at one input. -/
def aroundFarWrong : ChangeSpec := { name := "aroundFar", fn := fun _ => fun
  | [d1, d2, d3] => { results := [.lit (.bool false)], args := [d1, d2, d3] }
  | _ => none }
def AroundFarWrongFalsely : Prop := aroundFarRow.holds Try.pinned (OpenSpec.ofChange aroundFarWrong)

/-- 'darkroomlaw22.AroundFlat': WHATEVER THE INPUT: true; the input reads as it did. -/
def aroundFlatSpec : ChangeSpec := { name := "aroundFlat", fn := fun _ => fun
  | [d1, d2, d3] => { results := [.lit (.bool true)], args := [d1, d2, d3] }
  | _ => none }
def aroundFlatRow : OpenClaim := { program := "ytogmlcgiajigfaa", sum := "5f17b927d222a82955b98378b48ef2461d242aa3e3674f825967fa0422fc9389", func := "darkroom/darkroomlaw22.AroundFlat", spec := "aroundFlat", unfollowed := true, recurses := true, apart := false }
def AroundFlatSaid : Prop := aroundFlatRow.holds Try.pinned (OpenSpec.ofChange aroundFlatSpec)

/-- ITS FALSE NEIGHBOUR: 'it returns false'. Refute it at one input. -/
def aroundFlatWrong : ChangeSpec := { name := "aroundFlat", fn := fun _ => fun
  | [d1, d2, d3] => { results := [.lit (.bool false)], args := [d1, d2, d3] }
  | _ => none }
def AroundFlatWrongFalsely : Prop := aroundFlatRow.holds Try.pinned (OpenSpec.ofChange aroundFlatWrong)

/-- 'darkroomlaw22.AroundEnds': WHATEVER THE INPUT: true; the input reads as it did. -/
def aroundEndsSpec : ChangeSpec := { name := "aroundEnds", fn := fun _ => fun
  | [d1, d2] => { results := [.lit (.bool true)], args := [d1, d2] }
  | _ => none }
def aroundEndsRow : OpenClaim := { program := "ytogmlcgiajigfaa", sum := "5f17b927d222a82955b98378b48ef2461d242aa3e3674f825967fa0422fc9389", func := "darkroom/darkroomlaw22.AroundEnds", spec := "aroundEnds", unfollowed := true, recurses := true, apart := false }
def AroundEndsSaid : Prop := aroundEndsRow.holds Try.pinned (OpenSpec.ofChange aroundEndsSpec)

/-- ITS FALSE NEIGHBOUR: 'it returns false'. Refute it at one input. -/
def aroundEndsWrong : ChangeSpec := { name := "aroundEnds", fn := fun _ => fun
  | [d1, d2] => { results := [.lit (.bool false)], args := [d1, d2] }
  | _ => none }
def AroundEndsWrongFalsely : Prop := aroundEndsRow.holds Try.pinned (OpenSpec.ofChange aroundEndsWrong)

/-- 'darkroomlaw22.AroundOwn': WHATEVER THE INPUT: true; the input reads as it did. -/
def aroundOwnSpec : ChangeSpec := { name := "aroundOwn", fn := fun _ => fun
  | [d1, d2] => { results := [.lit (.bool true)], args := [d1, d2] }
  | _ => none }
def aroundOwnRow : OpenClaim := { program := "ytogmlcgiajigfaa", sum := "5f17b927d222a82955b98378b48ef2461d242aa3e3674f825967fa0422fc9389", func := "darkroom/darkroomlaw22.AroundOwn", spec := "aroundOwn", unfollowed := true, recurses := true, apart := false }
def AroundOwnSaid : Prop := aroundOwnRow.holds Try.pinned (OpenSpec.ofChange aroundOwnSpec)

/-- ITS FALSE NEIGHBOUR: 'it returns false'. Refute it at one input. -/
def aroundOwnWrong : ChangeSpec := { name := "aroundOwn", fn := fun _ => fun
  | [d1, d2] => { results := [.lit (.bool false)], args := [d1, d2] }
  | _ => none }
def AroundOwnWrongFalsely : Prop := aroundOwnRow.holds Try.pinned (OpenSpec.ofChange aroundOwnWrong)

/- THE SECOND FORM. 'bulk': how many values and letters a reading holds, each counted each time it is reached (what is shared counts as often as it is met; a slice's spare places count too). A statement '..UptoSaid' is the law's where the arguments, and the package variables that the reading takes, are together of bulk at most 1048576: NARROWER than '..Said'. Prove '..Said' where nothing that the law and all that it calls make is longer than what came in: it says more and counts as full. Else prove '..UptoSaid'. A law counts once. -/
mutual
def uptoBulk {H : Type} : DataW H → Nat
  | .lit (.string bytes) => bytes.length + 1
  | .lit _ => 1
  | .nil => 1
  | .ptr d => uptoBulk d + 1
  | .slice elems spare => uptoBulkAll elems + uptoBulkAll spare + 1
  | .agg parts => uptoBulkAll parts + 1
  | .iface _ d => uptoBulk d + 1
  | .map entries => uptoBulkEntries entries + 1
  | .held _ => 1
def uptoBulkAll {H : Type} : List (DataW H) → Nat
  | [] => 0
  | d :: r => uptoBulk d + uptoBulkAll r
def uptoBulkEntries {H : Type} : List (Lit × DataW H) → Nat
  | [] => 0
  | x :: r => uptoBulkEntry x + uptoBulkEntries r
def uptoBulkEntry {H : Type} : Lit × DataW H → Nat
  | (.string bytes, d) => bytes.length + uptoBulk d + 1
  | (_, d) => uptoBulk d + 1
 end
def uptoSmall : (H : Type) → List (DataW H) → Bool := fun _ ds => decide (uptoBulkAll ds ≤ 1048576)
def OpenSpec.upto (s : _root_.Go.ChangeSpec) : _root_.Go.OpenSpec := { _root_.Go.OpenSpec.ofChange s with cond := some uptoSmall }

/-- 'darkroomlaw22.AroundChecks', WHERE WHAT IT READS IS OF BULK AT MOST 1048576: true; the input reads as it did. -/
def aroundChecksUptoRow : OpenClaim := { program := "ytogmlcgiajigfaa", sum := "5f17b927d222a82955b98378b48ef2461d242aa3e3674f825967fa0422fc9389", func := "darkroom/darkroomlaw22.AroundChecks", spec := "aroundChecks", unfollowed := true, recurses := true, apart := false, narrowed := true }
def AroundChecksUptoSaid : Prop := aroundChecksUptoRow.holds Try.pinned (OpenSpec.upto aroundChecksSpec)

/-- 'darkroomlaw22.AroundApplies', WHERE WHAT IT READS IS OF BULK AT MOST 1048576: true; the input reads as it did. -/
def aroundAppliesUptoRow : OpenClaim := { program := "ytogmlcgiajigfaa", sum := "5f17b927d222a82955b98378b48ef2461d242aa3e3674f825967fa0422fc9389", func := "darkroom/darkroomlaw22.AroundApplies", spec := "aroundApplies", unfollowed := true, recurses := true, apart := false, narrowed := true }
def AroundAppliesUptoSaid : Prop := aroundAppliesUptoRow.holds Try.pinned (OpenSpec.upto aroundAppliesSpec)

/-- 'darkroomlaw22.AroundParts', WHERE WHAT IT READS IS OF BULK AT MOST 1048576: true; the input reads as it did. -/
def aroundPartsUptoRow : OpenClaim := { program := "ytogmlcgiajigfaa", sum := "5f17b927d222a82955b98378b48ef2461d242aa3e3674f825967fa0422fc9389", func := "darkroom/darkroomlaw22.AroundParts", spec := "aroundParts", unfollowed := true, recurses := true, apart := false, narrowed := true }
def AroundPartsUptoSaid : Prop := aroundPartsUptoRow.holds Try.pinned (OpenSpec.upto aroundPartsSpec)

/-- 'darkroomlaw22.AroundFar', WHERE WHAT IT READS IS OF BULK AT MOST 1048576: true; the input reads as it did. -/
def aroundFarUptoRow : OpenClaim := { program := "ytogmlcgiajigfaa", sum := "5f17b927d222a82955b98378b48ef2461d242aa3e3674f825967fa0422fc9389", func := "darkroom/darkroomlaw22.AroundFar", spec := "aroundFar", unfollowed := true, recurses := true, apart := false, narrowed := true }
def AroundFarUptoSaid : Prop := aroundFarUptoRow.holds Try.pinned (OpenSpec.upto aroundFarSpec)

/-- 'darkroomlaw22.AroundFlat', WHERE WHAT IT READS IS OF BULK AT MOST 1048576: true; the input reads as it did. -/
def aroundFlatUptoRow : OpenClaim := { program := "ytogmlcgiajigfaa", sum := "5f17b927d222a82955b98378b48ef2461d242aa3e3674f825967fa0422fc9389", func := "darkroom/darkroomlaw22.AroundFlat", spec := "aroundFlat", unfollowed := true, recurses := true, apart := false, narrowed := true }
def AroundFlatUptoSaid : Prop := aroundFlatUptoRow.holds Try.pinned (OpenSpec.upto aroundFlatSpec)

/-- 'darkroomlaw22.AroundEnds', WHERE WHAT IT READS IS OF BULK AT MOST 1048576: true; the input reads as it did. -/
def aroundEndsUptoRow : OpenClaim := { program := "ytogmlcgiajigfaa", sum := "5f17b927d222a82955b98378b48ef2461d242aa3e3674f825967fa0422fc9389", func := "darkroom/darkroomlaw22.AroundEnds", spec := "aroundEnds", unfollowed := true, recurses := true, apart := false, narrowed := true }
def AroundEndsUptoSaid : Prop := aroundEndsUptoRow.holds Try.pinned (OpenSpec.upto aroundEndsSpec)

/-- 'darkroomlaw22.AroundOwn', WHERE WHAT IT READS IS OF BULK AT MOST 1048576: true; the input reads as it did. -/
def aroundOwnUptoRow : OpenClaim := { program := "ytogmlcgiajigfaa", sum := "5f17b927d222a82955b98378b48ef2461d242aa3e3674f825967fa0422fc9389", func := "darkroom/darkroomlaw22.AroundOwn", spec := "aroundOwn", unfollowed := true, recurses := true, apart := false, narrowed := true }
def AroundOwnUptoSaid : Prop := aroundOwnUptoRow.holds Try.pinned (OpenSpec.upto aroundOwnSpec)

end Rows
end Go.Proofs.Ytogmlcgiajigfaa
