/-
  Walks: wide; slices.Min, slices.Max, and the operators that call them.
-/
import Derived.Test.YtogmlcgiajigfaaArdA
set_option linter.unusedVariables false
set_option linter.unusedSimpArgs false
namespace Go.Proofs.Ytogmlcgiajigfaa.Ard
open Go.RowKit K

theorem getD_at {l : List Int} {i : Nat} {x : Int} (h : l[i]? = some x) : l.getD i 0 = x := by rw [List.getD_eq_getElem?_getD, h]; rfl
theorem wide_any {A : Option Addr} {n c : Nat} {l : List Int} (w : World) (HA : SI w .i64 A n l) (h0 : 0 < n) : Calls Try.prog 46 #[.slice A n c] w fun e w' => e = .returned (.tuple #[.int .i64 (l.getD 0 0), .int .i64 (l.getD 0 0)]) ∧ ∃ k, w.drewN k = w' := by
  obtain ⟨b, off, x, rfl, hc, hx, -⟩ := HA.cells (i := 0) h0
  have hi : (0 : Int) < (n : Int) := by omega
  rw [Nat.add_zero] at hc
  rw [getD_at hx.out]
  clear hx
  go_enter Try.func46, Try.ntmps46
  go_wp2
  go_quiet (fail)
  go_wp2
  go_ret2
  exact ⟨rfl, ⟨_, rfl⟩⟩
theorem min_any {A : Option Addr} {n c : Nat} {l : List Int} (w : World) (HA : SI w .i64 A n l) (h0 : 0 < n) : Calls Try.prog 54 #[.slice A n c] w fun e w' => e = .returned (.int .i64 (minK l n)) ∧ w = w' := by
  have hbig := HA.big
  have hlen := HA.len
  obtain ⟨b0, o0, x0, e0, hc0, hx0, -⟩ := HA.cells (i := 0) h0
  rw [Nat.add_zero] at hc0
  have H1 := Lib.hid (minK_one (l := l) (by omega))
  rw [getD_at hx0.out] at H1
  clear hx0
  have hi : (0 : Int) < (n : Int) := by omega
  have d0 : decide ((n : Int) < 1) = false := decide_eq_false (by omega)
  clear hlen
  subst e0
  go_enter Try.func54, Try.ntmps54
  go_wp2
  go_loop [3, 4] (fun s i => ∃ k : Nat, k ≤ n ∧ 1 ≤ k ∧ i = .int .i64 k ∧ s = .int .i64 (minK l k)) (fun _ i => n - (intOf i).toNat)
  case atStart => exact ⟨1, by omega, Nat.le_refl _, rfl, by rw [H1.out]⟩
  case round =>
    obtain ⟨k, hk, hk1, rfl, rfl⟩ := hrel
    by_cases hlt : k < n
    · obtain ⟨b, off, x, e1, hc, hx, hx2⟩ := HA.cells hlt
      injection e1 with e1
      injection e1 with e2 e3
      subst e2 e3
      have hlt' : (k : Int) < n := by omega
      have HS := Lib.hid (minK_succ hx.out)
      clear hx
      go_wp2
      all_goals (
        go_round
        case rel => exact ⟨k + 1, by omega, by omega, by go_num, by rw [HS.out]; congr 1; omega⟩
        case measure => simp [intOf]; omega)
    · obtain rfl : k = n := by omega
      go_wp2
      go_ret
      exact ⟨rfl, rfl⟩
theorem max_any {A : Option Addr} {n c : Nat} {l : List Int} (w : World) (HA : SI w .i64 A n l) (h0 : 0 < n) : Calls Try.prog 56 #[.slice A n c] w fun e w' => e = .returned (.int .i64 (maxK l n)) ∧ w = w' := by
  have hbig := HA.big
  have hlen := HA.len
  obtain ⟨b0, o0, x0, e0, hc0, hx0, -⟩ := HA.cells (i := 0) h0
  rw [Nat.add_zero] at hc0
  have H1 := Lib.hid (maxK_one (l := l) (by omega))
  rw [getD_at hx0.out] at H1
  clear hx0
  have hi : (0 : Int) < (n : Int) := by omega
  have d0 : decide ((n : Int) < 1) = false := decide_eq_false (by omega)
  clear hlen
  subst e0
  go_enter Try.func56, Try.ntmps56
  go_wp2
  go_loop [3, 4] (fun s i => ∃ k : Nat, k ≤ n ∧ 1 ≤ k ∧ i = .int .i64 k ∧ s = .int .i64 (maxK l k)) (fun _ i => n - (intOf i).toNat)
  case atStart => exact ⟨1, by omega, Nat.le_refl _, rfl, by rw [H1.out]⟩
  case round =>
    obtain ⟨k, hk, hk1, rfl, rfl⟩ := hrel
    by_cases hlt : k < n
    · obtain ⟨b, off, x, e1, hc, hx, hx2⟩ := HA.cells hlt
      injection e1 with e1
      injection e1 with e2 e3
      subst e2 e3
      have hlt' : (k : Int) < n := by omega
      have HS := Lib.hid (maxK_succ hx.out)
      clear hx
      go_wp2
      all_goals (
        go_round
        case rel => exact ⟨k + 1, by omega, by omega, by go_num, by rw [HS.out]; congr 1; omega⟩
        case measure => simp [intOf]; omega)
    · obtain rfl : k = n := by omega
      go_wp2
      go_ret
      exact ⟨rfl, rfl⟩
/-- what an operator's function answers: a number; old memory is as it was -/
def DoP (w : World) (v : Int) (e : Ending) (w' : World) : Prop := e = .returned (.int .i64 v) ∧ Below w.heap.size w w'
theorem wMin_any {A B : Option Addr} {n c m d : Nat} {l : List Int} {own : Int} (w : World) (HB : SI w .i64 B m l) (h0 : 0 < m) : Calls Try.prog 53 #[.slice A n c, .agg #[.slice B m d, .int .i64 own]] w (DoP w (minK l m)) := by
  have H := Lib.hid HB
  clear HB
  go_enter Try.func53, Try.ntmps53
  go_wp2_with fail
  refine (min_any _ (H.out.below ((Below.refl _ w).alloc (Nat.le_refl _) _) (Nat.le_refl _)) h0).mono ?_
  rintro e w' ⟨rfl, rfl⟩
  go_wp2_with fail
  go_ret
  exact ⟨rfl, (Below.refl _ w).alloc (Nat.le_refl _) _⟩
theorem wMax_any {A B : Option Addr} {n c m d : Nat} {l : List Int} {own : Int} (w : World) (HB : SI w .i64 B m l) (h0 : 0 < m) : Calls Try.prog 55 #[.slice A n c, .agg #[.slice B m d, .int .i64 own]] w (DoP w (maxK l m)) := by
  have H := Lib.hid HB
  clear HB
  go_enter Try.func55, Try.ntmps55
  go_wp2_with fail
  refine (max_any _ (H.out.below ((Below.refl _ w).alloc (Nat.le_refl _) _) (Nat.le_refl _)) h0).mono ?_
  rintro e w' ⟨rfl, rfl⟩
  go_wp2_with fail
  go_ret
  exact ⟨rfl, (Below.refl _ w).alloc (Nat.le_refl _) _⟩
end Go.Proofs.Ytogmlcgiajigfaa.Ard
