/-
  Walks: raster.Good.
-/
import Derived.Test.YtogmlcgiajigfaaArdI
set_option linter.unusedVariables false
set_option linter.unusedSimpArgs false
namespace Go.Proofs.Ytogmlcgiajigfaa.Ard
open Go.RowKit K

theorem good_any {W H : Int} {P : Option Addr} {pn pc : Nat} (w : World) (hpn : pn ≤ 140737488351232) : Calls Try.prog 61 #[.agg #[.int .i64 W, .int .i64 H, .slice P pn pc]] w (TestP w (decide (GoodP W H pn))) := by
  have HB := (Below.refl w.heap.size w).alloc (Nat.le_refl _) (.cells #[.int .i64 W, .int .i64 H, .slice P pn pc] 37)
  by_cases hs : 1 ≤ W ∧ 1 ≤ H ∧ W ≤ 4096 ∧ H ≤ 4096
  · obtain ⟨h1, h2, h3, h4⟩ := hs
    have ha := area_in h1 h2 h3 h4
    have e0 : decide (GoodP W H pn) = (decide (W * H ≤ 65536) && decide ((pn : Int) = 4 * W * H)) := by simp [GoodP, FitsP, h1, h2, h3, h4]
    have w0 : wrap64 (W * H) = W * H := IntWalk.wrap64_in _ (by omega)
    have w1 : wrap64 (4 * W) = 4 * W := IntWalk.wrap64_in _ (by omega)
    have w2 : wrap64 (4 * W * H) = 4 * W * H := IntWalk.wrap64_in _ (by rw [Int.mul_assoc]; omega)
    rw [e0]
    clear e0 ha
    by_cases h5 : W * H ≤ 65536
    · have d5 : decide (W * H ≤ 65536) = true := decide_eq_true h5
      rw [d5, Bool.true_and]
      go_enter Try.func61, Try.ntmps61
      go_wp2
      all_goals (
        go_ret
        exact ⟨by simp [w2, beq_dec], HB⟩)
    · have d5 : decide (W * H ≤ 65536) = false := decide_eq_false h5
      rw [d5, Bool.false_and]
      go_enter Try.func61, Try.ntmps61
      go_wp2
      all_goals (
        go_ret
        exact ⟨rfl, HB⟩)
  · have e0 : decide (GoodP W H pn) = false := decide_eq_false fun h => hs ⟨h.1.1, h.1.2.1, h.1.2.2.1, h.1.2.2.2.1⟩
    rw [e0]
    clear e0
    by_cases h1 : 1 ≤ W
    · by_cases h2 : 1 ≤ H
      · have h3 : ¬ (W ≤ 4096 ∧ H ≤ 4096) := fun h => hs ⟨h1, h2, h.1, h.2⟩
        clear hs
        go_enter Try.func61, Try.ntmps61
        go_wp2
        all_goals (
          go_ret
          exact ⟨rfl, HB⟩)
      · clear hs
        go_enter Try.func61, Try.ntmps61
        go_wp2
        all_goals (
          go_ret
          exact ⟨rfl, HB⟩)
    · clear hs
      go_enter Try.func61, Try.ntmps61
      go_wp2
      all_goals (
        go_ret
        exact ⟨rfl, HB⟩)
end Go.Proofs.Ytogmlcgiajigfaa.Ard
