/-
  Walks: edge.
-/
import Derived.Test.YtogmlcgiajigfaaArdC
set_option linter.unusedVariables false
set_option linter.unusedSimpArgs false
namespace Go.Proofs.Ytogmlcgiajigfaa.Ard
open Go.RowKit K

def edge1 (l : List Int) : Int := l.getD 2 0 + 2 * l.getD 5 0 + l.getD 8 0 - l.getD 0 0 - 2 * l.getD 3 0 - l.getD 6 0
def edge2 (l : List Int) : Int := l.getD 6 0 + 2 * l.getD 7 0 + l.getD 8 0 - l.getD 0 0 - 2 * l.getD 1 0 - l.getD 2 0
set_option maxHeartbeats 1000000 in
theorem edge_any {A B : Option Addr} {n c m d : Nat} {l : List Int} {own : Int} (w : World) (HB : SI w .i64 B m l) (hw : ∀ v ∈ l, 0 ≤ v ∧ v < 65536) (hm : 9 ≤ m) : Calls Try.prog 50 #[.slice A n c, .agg #[.slice B m d, .int .i64 own]] w (DoP w (absF (edge1 l) + absF (edge2 l))) := by
  obtain ⟨b, off, x, rfl, -, -, hbl⟩ := HB.cells (i := 0) (by omega)
  have HS := HB.below ((Below.refl _ w).alloc (Nat.le_refl _) (.cells #[.slice (some ⟨b, off, none⟩) m d, .int .i64 own] 80)) (Nat.le_refl _)
  have h0 := getD_in hw 0
  have h1 := getD_in hw 1
  have h2 := getD_in hw 2
  have h3 := getD_in hw 3
  have h5 := getD_in hw 5
  have h6 := getD_in hw 6
  have h7 := getD_in hw 7
  have h8 := getD_in hw 8
  have c0 := si_at (A := none) (i := 0) HS (by omega)
  have c1 := si_at (A := none) (i := 1) HS (by omega)
  have c2 := si_at (A := none) (i := 2) HS (by omega)
  have c3 := si_at (A := none) (i := 3) HS (by omega)
  have c5 := si_at (A := none) (i := 5) HS (by omega)
  have c6 := si_at (A := none) (i := 6) HS (by omega)
  have c7 := si_at (A := none) (i := 7) HS (by omega)
  have c8 := si_at (A := none) (i := 8) HS (by omega)
  rw [Nat.add_zero] at c0
  unfold edge1 edge2
  generalize l.getD 0 0 = x0 at *
  generalize l.getD 1 0 = x1 at *
  generalize l.getD 2 0 = x2 at *
  generalize l.getD 3 0 = x3 at *
  generalize l.getD 5 0 = x5 at *
  generalize l.getD 6 0 = x6 at *
  generalize l.getD 7 0 = x7 at *
  generalize l.getD 8 0 = x8 at *
  have i0 : (0 : Int) < (m : Int) := by omega
  have i1 : (1 : Int) < (m : Int) := by omega
  have i2 : (2 : Int) < (m : Int) := by omega
  have i3 : (3 : Int) < (m : Int) := by omega
  have i5 : (5 : Int) < (m : Int) := by omega
  have i6 : (6 : Int) < (m : Int) := by omega
  have i7 : (7 : Int) < (m : Int) := by omega
  have i8 : (8 : Int) < (m : Int) := by omega
  have p1 : wrap64 (2 * x5) = 2 * x5 := IntWalk.wrap64_in _ (by omega)
  have p2 : wrap64 (x2 + 2 * x5) = x2 + 2 * x5 := IntWalk.wrap64_in _ (by omega)
  have p3 : wrap64 (x2 + 2 * x5 + x8) = x2 + 2 * x5 + x8 := IntWalk.wrap64_in _ (by omega)
  have p4 : wrap64 (x2 + 2 * x5 + x8 - x0) = x2 + 2 * x5 + x8 - x0 := IntWalk.wrap64_in _ (by omega)
  have p5 : wrap64 (2 * x3) = 2 * x3 := IntWalk.wrap64_in _ (by omega)
  have p6 : wrap64 (x2 + 2 * x5 + x8 - x0 - 2 * x3) = x2 + 2 * x5 + x8 - x0 - 2 * x3 := IntWalk.wrap64_in _ (by omega)
  have p7 : wrap64 (x2 + 2 * x5 + x8 - x0 - 2 * x3 - x6) = x2 + 2 * x5 + x8 - x0 - 2 * x3 - x6 := IntWalk.wrap64_in _ (by omega)
  have q1 : wrap64 (2 * x7) = 2 * x7 := IntWalk.wrap64_in _ (by omega)
  have q2 : wrap64 (x6 + 2 * x7) = x6 + 2 * x7 := IntWalk.wrap64_in _ (by omega)
  have q3 : wrap64 (x6 + 2 * x7 + x8) = x6 + 2 * x7 + x8 := IntWalk.wrap64_in _ (by omega)
  have q4 : wrap64 (x6 + 2 * x7 + x8 - x0) = x6 + 2 * x7 + x8 - x0 := IntWalk.wrap64_in _ (by omega)
  have q5 : wrap64 (2 * x1) = 2 * x1 := IntWalk.wrap64_in _ (by omega)
  have q6 : wrap64 (x6 + 2 * x7 + x8 - x0 - 2 * x1) = x6 + 2 * x7 + x8 - x0 - 2 * x1 := IntWalk.wrap64_in _ (by omega)
  have q7 : wrap64 (x6 + 2 * x7 + x8 - x0 - 2 * x1 - x2) = x6 + 2 * x7 + x8 - x0 - 2 * x1 - x2 := IntWalk.wrap64_in _ (by omega)
  have HA1 : Hid (∀ W, Calls Try.prog 51 #[.int .i64 (x2 + 2 * x5 + x8 - x0 - 2 * x3 - x6)] W fun e w' => e = .returned (.int .i64 (absF (x2 + 2 * x5 + x8 - x0 - 2 * x3 - x6))) ∧ W = w') := fun W => abs_any W (by omega)
  have HA2 : Hid (∀ W, Calls Try.prog 51 #[.int .i64 (x6 + 2 * x7 + x8 - x0 - 2 * x1 - x2)] W fun e w' => e = .returned (.int .i64 (absF (x6 + 2 * x7 + x8 - x0 - 2 * x1 - x2))) ∧ W = w') := fun W => abs_any W (by omega)
  have q8 : wrap64 (absF (x2 + 2 * x5 + x8 - x0 - 2 * x3 - x6) + absF (x6 + 2 * x7 + x8 - x0 - 2 * x1 - x2)) = absF (x2 + 2 * x5 + x8 - x0 - 2 * x3 - x6) + absF (x6 + 2 * x7 + x8 - x0 - 2 * x1 - x2) := IntWalk.wrap64_in _ (by unfold absF; omega)
  clear h0 h1 h2 h3 h5 h6 h7 h8 HS HB hw
  go_enter Try.func50, Try.ntmps50
  go_wp2_with fail
  go_quiet (first
    | (go_at_call 51; with_reducible exact Calls.quiet_of_same ((HA1.out _).mono fun e w' h => ⟨h.1, h.2.symm⟩))
    | (go_at_call 51; with_reducible exact Calls.quiet_of_same ((HA2.out _).mono fun e w' h => ⟨h.1, h.2.symm⟩)))
  go_wp2_with fail
  go_ret
  refine ⟨?_, below_drewN ((Below.refl _ w).alloc (Nat.le_refl _) _) _⟩
  show Ending.returned (Value.int .i64 (wrap64 _)) = _
  rw [q8]
end Go.Proofs.Ytogmlcgiajigfaa.Ard
