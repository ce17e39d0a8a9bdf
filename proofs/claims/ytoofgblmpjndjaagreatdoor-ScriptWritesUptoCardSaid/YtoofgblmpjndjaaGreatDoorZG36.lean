/-
  What a bound on the bulk says of a step, for the reference's Write.
-/
import Derived.Test.YtoofgblmpjndjaaGreatDoorZG20
import Derived.Test.YtoofgblmpjndjaaGreatDoorZG33
set_option linter.unusedVariables false
set_option linter.unusedSimpArgs false
namespace Go.Proofs.YtoofgblmpjndjaaGreatDoor.Shs
open Go.RowKit Scr

theorem srcs_len : ∀ l : List Tx, (srcsT l).length = sumT l
 | [] => rfl
 | t :: r => by
  have h := srcs_len r
  unfold srcsT sumT at h ⊢
  rw [List.flatMap_cons, List.length_append, h, List.map_cons, List.sum_cons, List.length_cons]
theorem opt_len (t : Tx) : (optT t).length ≤ t.length + 1 := by
 unfold optT
 split
 ·exact Nat.zero_le _
 ·rw [List.length_cons]; exact Nat.le_refl _
theorem FewS.fitW {s : St} (h : FewS s) : FitW s := by
 obtain ⟨h1, h2, h3, h4, h5, h6, h7⟩ := h
 refine ⟨?_, h6, h7⟩
 unfold headS
 rw [List.length_append, List.length_append, List.length_append, srcs_len]
 have := opt_len s.dst
 have := opt_len s.file
 omega
end Go.Proofs.YtoofgblmpjndjaaGreatDoor.Shs
