/-
  Walks: rotating two neighbouring ranges of coins.
-/
import Derived.Test.YtpecemkjoklhfaaSrtB
set_option linter.unusedVariables false
set_option linter.unusedSimpArgs false
namespace Go.Proofs.Ytpecemkjoklhfaa.Srt
open Go.RowKit K Go.Sort

theorem swapRange_at {g n c a b m : Nat} {A B M : Int} {f : Nat → Coin} {fv : Value} (w : World) (h : CB w g n f) (h1 : a + m ≤ b) (h2 : b + m ≤ n) (hn : n ≤ 1073741824) (hA : A = a) (hB : B = b) (hM : M = m) :
    Calls Try.prog 60 #[.slice (some ⟨g, 0, none⟩) n c, .int .i64 A, .int .i64 B, .int .i64 M, fv] w fun e w' => e = .returned (.tuple #[]) ∧ w.grownBy w' (some g) ∧ CB w' g n (swr f a b m) := by
  subst hA hB hM; exact swapRange_any w h h1 h2 hn

def rot (f : Nat → Coin) (a m b : Nat) : Nat → Coin := fun k => if a ≤ k ∧ k < a + (b - m) then f (k + (m - a)) else if a + (b - m) ≤ k ∧ k < b then f (k - (b - m)) else f k
theorem rot_gt (f : Nat → Coin) (m i j : Nat) (h0 : i ≤ m) (h1 : j < i) (hj : 1 ≤ j) : rot (swr f (m - i) m j) (m - (i - j)) m (m + j) = rot f (m - i) m (m + j) := by
  funext k
  unfold rot swr
  repeat' split
  all_goals first | rfl | (exfalso; omega) | (congr 1; omega)
theorem rot_lt (f : Nat → Coin) (m i j : Nat) (h0 : i ≤ m) (h1 : i < j) (hi : 1 ≤ i) : rot (swr f (m - i) (m + j - i) i) (m - i) m (m + (j - i)) = rot f (m - i) m (m + j) := by
  funext k
  unfold rot swr
  repeat' split
  all_goals first | rfl | (exfalso; omega) | (congr 1; omega)
theorem rot_eq (f : Nat → Coin) (m i : Nat) (h0 : i ≤ m) : swr f (m - i) m i = rot f (m - i) m (m + i) := by
  funext k
  unfold rot swr
  repeat' split
  all_goals first | rfl | (exfalso; omega) | (congr 1; omega)

set_option maxHeartbeats 1000000 in
theorem rotate_at {g n c a m b : Nat} {A M B : Int} {f : Nat → Coin} {fv : Value} (w : World) (h : CB w g n f) (h1 : a < m) (h2 : m < b) (h3 : b ≤ n) (hn : n ≤ 1073741824) (hA : A = a) (hM : M = m) (hB : B = b) :
    Calls Try.prog 59 #[.slice (some ⟨g, 0, none⟩) n c, .int .i64 A, .int .i64 M, .int .i64 B, fv] w fun e w' => e = .returned (.tuple #[]) ∧ w.grownBy w' (some g) ∧ CB w' g n (rot f a m b) ∧ Pm a b f (rot f a m b) := by
  subst hA hM hB
  go_enter Try.func59, Try.ntmps59
  go_wp2
  go_loopw [10, 11] (fun iv jv wr => ∃ (i j : Nat) (f' : Nat → Coin), 1 ≤ i ∧ 1 ≤ j ∧ i ≤ m - a ∧ j ≤ b - m ∧ iv = .int .i64 i ∧ jv = .int .i64 j ∧ CB wr g n f' ∧ w.grownBy wr (some g) ∧ Hid (Pm a b f f') ∧ Hid (rot f' (m - i) m (m + j) = rot f a m b)) (fun iv jv _ => (intOf iv).toNat + (intOf jv).toNat)
  case atStart => exact ⟨m - a, b - m, f, by omega, by omega, by omega, by omega, eint (by omega), eint (by omega), h, World.grownBy.refl _ _, Pm.refl _ _ _, by
    show rot f _ _ _ = _
    rw [show m - (m - a) = a by omega, show m + (b - m) = b by omega]⟩
  case round =>
    clear h
    obtain ⟨i, j, f', hi1, hj1, hi2, hj2, rfl, rfl, h, hg, HP, HR⟩ := hrel
    by_cases hij : i = j
    · subst hij
      have hb : ((i : Int) != (i : Int)) = false := by simp
      go_wp2_with (go_at_call 60; refine (swapRange_at (a := m - i) (b := m) (m := i) _ h (by omega) (by omega) hn (by omega) rfl rfl).mono ?_; rintro e w' ⟨rfl, hg2, hc2⟩)
      go_end0
      have e1 : swr f' (m - i) m i = rot f a m b := by rw [rot_eq f' m i (by omega)]; exact HR.out
      rw [e1] at hc2
      refine ⟨rfl, grown_trans hg hg2, hc2, ?_⟩
      rw [← e1]
      exact HP.out.trans (Pm.swr f' i (by omega) (by omega) (by omega))
    · have hb : ((i : Int) != (j : Int)) = true := by simp; omega
      have HIJ := Lib.hid hij
      clear hij
      by_cases hgt : j < i
      · have hd : decide ((j : Int) < (i : Int)) = true := by simp; omega
        go_wp2_with (go_at_call 60; refine (swapRange_at (a := m - i) (b := m) (m := j) _ h (by omega) (by omega) hn (by omega) rfl rfl).mono ?_; rintro e w' ⟨rfl, hg2, hc2⟩)
        go_roundw
        case rel => exact ⟨i - j, j, _, by omega, by omega, by omega, by omega, eint (by omega), rfl, hc2, grown_trans hg hg2, HP.out.trans (Pm.swr f' j (by omega) (by omega) (by omega)), by
          show rot (swr f' (m - i) m j) _ _ _ = _
          rw [rot_gt f' m i j (by omega) (by omega) (by omega)]; exact HR.out⟩
        case measure => simp [intOf]; omega
      · have hd : decide ((j : Int) < (i : Int)) = false := by simp; omega
        have hlt : i < j := by have := HIJ.out; omega
        go_wp2_with (go_at_call 60; refine (swapRange_at (a := m - i) (b := m + j - i) (m := i) _ h (by omega) (by omega) hn (by omega) (by omega) rfl).mono ?_; rintro e w' ⟨rfl, hg2, hc2⟩)
        go_roundw
        case rel => exact ⟨i, j - i, _, by omega, by omega, by omega, by omega, rfl, eint (by omega), hc2, grown_trans hg hg2, HP.out.trans (Pm.swr f' i (by omega) (by omega) (by omega)), by
          show rot (swr f' (m - i) (m + j - i) i) _ _ _ = _
          rw [rot_lt f' m i j (by omega) hlt (by omega)]; exact HR.out⟩
        case measure => simp [intOf]; omega
end Go.Proofs.Ytpecemkjoklhfaa.Srt
