/-
  Walks: Fits.
-/
import Derived.Test.YtogmlcgiajigfaaArdC
set_option linter.unusedVariables false
set_option linter.unusedSimpArgs false
namespace Go.Proofs.Ytogmlcgiajigfaa.Ard
open Go.RowKit K

def FitsP (W H : Int) : Prop := 1 ≤ W ∧ 1 ≤ H ∧ W ≤ 4096 ∧ H ≤ 4096 ∧ W * H ≤ 65536
instance (W H : Int) : Decidable (FitsP W H) := by unfold FitsP; infer_instance
theorem area_in {W H : Int} (h1 : 1 ≤ W) (h2 : 1 ≤ H) (h3 : W ≤ 4096) (h4 : H ≤ 4096) : 0 ≤ W * H ∧ W * H ≤ 16777216 := by
  have h5 : W * H ≤ 4096 * H := Int.mul_le_mul_of_nonneg_right h3 (by omega)
  have h6 : 0 ≤ W * H := Int.mul_nonneg (by omega) (by omega)
  omega
theorem fits_any {W H : Int} (w : World) : Calls Try.prog 41 #[.int .i64 W, .int .i64 H] w fun e w' => e = .returned (.bool (decide (FitsP W H))) ∧ w = w' := by
  by_cases h1 : 1 ≤ W
  · by_cases h2 : 1 ≤ H
    · by_cases h3 : W ≤ 4096
      · by_cases h4 : H ≤ 4096
        · have ha := area_in h1 h2 h3 h4
          have hw : wrap64 (W * H) = W * H := IntWalk.wrap64_in _ (by omega)
          have e0 : decide (FitsP W H) = decide (W * H ≤ 65536) := by simp [FitsP, h1, h2, h3, h4]
          rw [e0]
          clear ha e0
          go_enter Try.func41, Try.ntmps41
          go_wp2
          go_ret
          exact ⟨by simp [hw], rfl⟩
        · have e0 : decide (FitsP W H) = false := by simp [FitsP, h4]
          rw [e0]
          clear e0
          go_enter Try.func41, Try.ntmps41
          go_wp2
          go_ret
          exact ⟨rfl, rfl⟩
      · have e0 : decide (FitsP W H) = false := by simp [FitsP, h3]
        rw [e0]
        clear e0
        go_enter Try.func41, Try.ntmps41
        go_wp2
        go_ret
        exact ⟨rfl, rfl⟩
    · have e0 : decide (FitsP W H) = false := by simp [FitsP, h2]
      rw [e0]
      clear e0
      go_enter Try.func41, Try.ntmps41
      go_wp2
      go_ret
      exact ⟨rfl, rfl⟩
  · have e0 : decide (FitsP W H) = false := by simp [FitsP, h1]
    rw [e0]
    clear e0
    go_enter Try.func41, Try.ntmps41
    go_wp2
    go_ret
    exact ⟨rfl, rfl⟩
end Go.Proofs.Ytogmlcgiajigfaa.Ard
