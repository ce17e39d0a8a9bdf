/-
  No cell of these rows narrows 'for every input' (looked for: loops, veiled, ifaces, maps, wideKeys, modest, calm, conditions, laid).
  DERIVED. THE GIVEN ROWS OF THIS SEAT. 5 by the template 'for every input the law returns true; each argument reads behind the call as it read before'; 0 by the template 'total and deterministic' (their statements: YtmgbjgjlddifaaaTotals.lean).
  GIVEN WITH THE SEED: the statements are not yours to turn. If you find one false, say at which input.
  Laid BY PROGRAM, IN A SANDBOX (cutbox-rows.mjs): the forced cells as the released guide's own fill.sh prints them over the translation e5c6bb909be8549c… (all of the seat's roots in one cut). By AI agents, Wed Nov 11 2026. No macro, syntax, notation, axiom, sorry.
-/
import Derived.Test.YtmgbjgjlddifaaaChecked
import GoSem.Claim
import GoSem.ClaimJoined
import GoSem.ClaimMapViews
import Derived.JoinedTies
import Derived.KernelRfl
namespace Go.Proofs.Ytmgbjgjlddifaaa
/- THE CELL 'sum', in the pinned program and in every row, IS THE sha256 OF THE DUMP (.gsa) THAT YtmgbjgjlddifaaaProg.lean LOADS. Nothing in Lean hashes anything: it is a label: what it is worth is what the hold of that sum in a sandbox is worth. -/
noncomputable def Try.pinned : Pinned := { name := "ytmgbjgjlddifaaa", sum := "e5c6bb909be8549c56be8eccd29f6ac9879f4a3879b591e8f00b21dda4142c11", checked := Try.checked }
namespace Rows
def none {H : Type} : Left H := { results := [], args := [] }

/-- 'darkroomlaw05.DeflateSmall': WHATEVER THE INPUT: true; the input reads as it did. -/
def deflateSmallSpec : ChangeSpec := { name := "deflateSmall", fn := fun _ => fun
  | [d1, d2] => { results := [.lit (.bool true)], args := [d1, d2] }
  | _ => none }
def deflateSmallRow : OpenClaim := { program := "ytmgbjgjlddifaaa", sum := "e5c6bb909be8549c56be8eccd29f6ac9879f4a3879b591e8f00b21dda4142c11", func := "darkroom/darkroomlaw05.DeflateSmall", spec := "deflateSmall", unfollowed := true, recurses := true, plainKeys := false, apart := false }
def DeflateSmallSaid : Prop := deflateSmallRow.holds Try.pinned (OpenSpec.ofChange deflateSmallSpec)

/-- ITS FALSE NEIGHBOUR: 'it returns false'. Refute it at one input. -/
def deflateSmallWrong : ChangeSpec := { name := "deflateSmall", fn := fun _ => fun
  | [d1, d2] => { results := [.lit (.bool false)], args := [d1, d2] }
  | _ => none }
def DeflateSmallWrongFalsely : Prop := deflateSmallRow.holds Try.pinned (OpenSpec.ofChange deflateSmallWrong)

/-- 'darkroomlaw05.DeflateAlike': WHATEVER THE INPUT: true; the input reads as it did. -/
def deflateAlikeSpec : ChangeSpec := { name := "deflateAlike", fn := fun _ => fun
  | [d1, d2] => { results := [.lit (.bool true)], args := [d1, d2] }
  | _ => none }
def deflateAlikeRow : OpenClaim := { program := "ytmgbjgjlddifaaa", sum := "e5c6bb909be8549c56be8eccd29f6ac9879f4a3879b591e8f00b21dda4142c11", func := "darkroom/darkroomlaw05.DeflateAlike", spec := "deflateAlike", unfollowed := true, recurses := true, plainKeys := false, apart := false }
def DeflateAlikeSaid : Prop := deflateAlikeRow.holds Try.pinned (OpenSpec.ofChange deflateAlikeSpec)

/-- ITS FALSE NEIGHBOUR: 'it returns false'. Refute it at one input. -/
def deflateAlikeWrong : ChangeSpec := { name := "deflateAlike", fn := fun _ => fun
  | [d1, d2] => { results := [.lit (.bool false)], args := [d1, d2] }
  | _ => none }
def DeflateAlikeWrongFalsely : Prop := deflateAlikeRow.holds Try.pinned (OpenSpec.ofChange deflateAlikeWrong)

/-- 'darkroomlaw05.DeflateKinds': WHATEVER THE INPUT: true; the input reads as it did. -/
def deflateKindsSpec : ChangeSpec := { name := "deflateKinds", fn := fun _ => fun
  | [d] => { results := [.lit (.bool true)], args := [d] }
  | _ => none }
def deflateKindsRow : OpenClaim := { program := "ytmgbjgjlddifaaa", sum := "e5c6bb909be8549c56be8eccd29f6ac9879f4a3879b591e8f00b21dda4142c11", func := "darkroom/darkroomlaw05.DeflateKinds", spec := "deflateKinds", unfollowed := true, recurses := true, plainKeys := false, apart := false }
def DeflateKindsSaid : Prop := deflateKindsRow.holds Try.pinned (OpenSpec.ofChange deflateKindsSpec)

/-- ITS FALSE NEIGHBOUR: 'it returns false'. Refute it at one input. -/
def deflateKindsWrong : ChangeSpec := { name := "deflateKinds", fn := fun _ => fun
  | [d] => { results := [.lit (.bool false)], args := [d] }
  | _ => none }
def DeflateKindsWrongFalsely : Prop := deflateKindsRow.holds Try.pinned (OpenSpec.ofChange deflateKindsWrong)

/-- 'darkroomlaw05.DeflateOwn': WHATEVER THE INPUT: true; the input reads as it did. -/
def deflateOwnSpec : ChangeSpec := { name := "deflateOwn", fn := fun _ => fun
  | [d1, d2] => { results := [.lit (.bool true)], args := [d1, d2] }
  | _ => none }
def deflateOwnRow : OpenClaim := { program := "ytmgbjgjlddifaaa", sum := "e5c6bb909be8549c56be8eccd29f6ac9879f4a3879b591e8f00b21dda4142c11", func := "darkroom/darkroomlaw05.DeflateOwn", spec := "deflateOwn", unfollowed := true, recurses := true, plainKeys := false, apart := false }
def DeflateOwnSaid : Prop := deflateOwnRow.holds Try.pinned (OpenSpec.ofChange deflateOwnSpec)

/-- ITS FALSE NEIGHBOUR: 'it returns false'. Refute it at one input. -/
def deflateOwnWrong : ChangeSpec := { name := "deflateOwn", fn := fun _ => fun
  | [d1, d2] => { results := [.lit (.bool false)], args := [d1, d2] }
  | _ => none }
def DeflateOwnWrongFalsely : Prop := deflateOwnRow.holds Try.pinned (OpenSpec.ofChange deflateOwnWrong)

/-- 'darkroomlaw05.DeflateBack': WHATEVER THE INPUT: true; the input reads as it did. -/
def deflateBackSpec : ChangeSpec := { name := "deflateBack", fn := fun _ => fun
  | [d1, d2] => { results := [.lit (.bool true)], args := [d1, d2] }
  | _ => none }
def deflateBackRow : OpenClaim := { program := "ytmgbjgjlddifaaa", sum := "e5c6bb909be8549c56be8eccd29f6ac9879f4a3879b591e8f00b21dda4142c11", func := "darkroom/darkroomlaw05.DeflateBack", spec := "deflateBack", unfollowed := true, recurses := true, plainKeys := false, apart := false }
def DeflateBackSaid : Prop := deflateBackRow.holds Try.pinned (OpenSpec.ofChange deflateBackSpec)

/-- ITS FALSE NEIGHBOUR: 'it returns false'. Refute it at one input. -/
def deflateBackWrong : ChangeSpec := { name := "deflateBack", fn := fun _ => fun
  | [d1, d2] => { results := [.lit (.bool false)], args := [d1, d2] }
  | _ => none }
def DeflateBackWrongFalsely : Prop := deflateBackRow.holds Try.pinned (OpenSpec.ofChange deflateBackWrong)

/- THE SECOND FORM. 'bulk': how many values and letters a reading holds, each counted each time it is reached (what is shared counts as often as it is met; a slice's spare places count too). A statement '..UptoSaid' is the law's where the arguments, and the package variables that the reading takes, are together of bulk at most 1048576: NARROWER than '..Said'. Prove '..Said' where nothing that the law and all that it calls make is longer than what came in: it says more and counts as full. Else prove '..UptoSaid'. A law counts once. -/
mutual
def uptoBulk {H : Type} : DataW H → Nat
  | .lit (.string bytes) => bytes.length + 1
  | .lit _ => 1
  | .nil => 1
  | .ptr d => uptoBulk d + 1
  | .slice elems spare => uptoBulkAll elems + uptoBulkAll spare + 1
  | .agg parts => uptoBulkAll parts + 1
  | .iface _ d => uptoBulk d + 1
  | .map entries => uptoBulkEntries entries + 1
  | .held _ => 1
def uptoBulkAll {H : Type} : List (DataW H) → Nat
  | [] => 0
  | d :: r => uptoBulk d + uptoBulkAll r
def uptoBulkEntries {H : Type} : List (Lit × DataW H) → Nat
  | [] => 0
  | x :: r => uptoBulkEntry x + uptoBulkEntries r
def uptoBulkEntry {H : Type} : Lit × DataW H → Nat
  | (.string bytes, d) => bytes.length + uptoBulk d + 1
  | (_, d) => uptoBulk d + 1
 end
def uptoSmall : (H : Type) → List (DataW H) → Bool := fun _ ds => decide (uptoBulkAll ds ≤ 1048576)
def OpenSpec.upto (s : _root_.Go.ChangeSpec) : _root_.Go.OpenSpec := { _root_.Go.OpenSpec.ofChange s with cond := some uptoSmall }

/-- 'darkroomlaw05.DeflateSmall', WHERE WHAT IT READS IS OF BULK AT MOST 1048576: true; the input reads as it did. -/
def deflateSmallUptoRow : OpenClaim := { program := "ytmgbjgjlddifaaa", sum := "e5c6bb909be8549c56be8eccd29f6ac9879f4a3879b591e8f00b21dda4142c11", func := "darkroom/darkroomlaw05.DeflateSmall", spec := "deflateSmall", unfollowed := true, recurses := true, plainKeys := false, apart := false, narrowed := true }
def DeflateSmallUptoSaid : Prop := deflateSmallUptoRow.holds Try.pinned (OpenSpec.upto deflateSmallSpec)

/-- 'darkroomlaw05.DeflateAlike', WHERE WHAT IT READS IS OF BULK AT MOST 1048576: true; the input reads as it did. -/
def deflateAlikeUptoRow : OpenClaim := { program := "ytmgbjgjlddifaaa", sum := "e5c6bb909be8549c56be8eccd29f6ac9879f4a3879b591e8f00b21dda4142c11", func := "darkroom/darkroomlaw05.DeflateAlike", spec := "deflateAlike", unfollowed := true, recurses := true, plainKeys := false, apart := false, narrowed := true }
def DeflateAlikeUptoSaid : Prop := deflateAlikeUptoRow.holds Try.pinned (OpenSpec.upto deflateAlikeSpec)

/-- 'darkroomlaw05.DeflateKinds', WHERE WHAT IT READS IS OF BULK AT MOST 1048576: true; the input reads as it did. -/
def deflateKindsUptoRow : OpenClaim := { program := "ytmgbjgjlddifaaa", sum := "e5c6bb909be8549c56be8eccd29f6ac9879f4a3879b591e8f00b21dda4142c11", func := "darkroom/darkroomlaw05.DeflateKinds", spec := "deflateKinds", unfollowed := true, recurses := true, plainKeys := false, apart := false, narrowed := true }
def DeflateKindsUptoSaid : Prop := deflateKindsUptoRow.holds Try.pinned (OpenSpec.upto deflateKindsSpec)

/-- 'darkroomlaw05.DeflateOwn', WHERE WHAT IT READS IS OF BULK AT MOST 1048576: true; the input reads as it did. -/
def deflateOwnUptoRow : OpenClaim := { program := "ytmgbjgjlddifaaa", sum := "e5c6bb909be8549c56be8eccd29f6ac9879f4a3879b591e8f00b21dda4142c11", func := "darkroom/darkroomlaw05.DeflateOwn", spec := "deflateOwn", unfollowed := true, recurses := true, plainKeys := false, apart := false, narrowed := true }
def DeflateOwnUptoSaid : Prop := deflateOwnUptoRow.holds Try.pinned (OpenSpec.upto deflateOwnSpec)

/-- 'darkroomlaw05.DeflateBack', WHERE WHAT IT READS IS OF BULK AT MOST 1048576: true; the input reads as it did. -/
def deflateBackUptoRow : OpenClaim := { program := "ytmgbjgjlddifaaa", sum := "e5c6bb909be8549c56be8eccd29f6ac9879f4a3879b591e8f00b21dda4142c11", func := "darkroom/darkroomlaw05.DeflateBack", spec := "deflateBack", unfollowed := true, recurses := true, plainKeys := false, apart := false, narrowed := true }
def DeflateBackUptoSaid : Prop := deflateBackUptoRow.holds Try.pinned (OpenSpec.upto deflateBackSpec)

end Rows
end Go.Proofs.Ytmgbjgjlddifaaa
