/-
  Walks: mean, emboss, sharpen.
-/
import Derived.Test.YtogmlcgiajigfaaArdB
set_option linter.unusedVariables false
set_option linter.unusedSimpArgs false
namespace Go.Proofs.Ytogmlcgiajigfaa.Ard
open Go.RowKit K

theorem si_drewN {w : World} {k : IntKind} {A : Option Addr} {n : Nat} {l : List Int} (h : SI w k A n l) (j : Nat) : SI (w.drewN j) k A n l := h.below (below_drewN (Below.refl _ _) _) (Nat.le_refl _)
theorem mean_any {A B : Option Addr} {n c m d : Nat} {l : List Int} {own : Int} (w : World) (HB : SI w .i64 B m l) (hw : ∀ v ∈ l, 0 ≤ v ∧ v < 65536) (h0 : 0 < m) (hm : m ≤ 4096) : Calls Try.prog 47 #[.slice A n c, .agg #[.slice B m d, .int .i64 own]] w (DoP w ((sumK l m + (m : Int) / 2) / m)) := by
  have H := Lib.hid HB
  have HW := Lib.hid hw
  have hs := sumK_in hw m
  clear HB hw
  go_enter Try.func47, Try.ntmps47
  have HS : Hid (SI (w.alloc (.cells #[.slice B m d, .int .i64 own] 80)) .i64 B m l) := H.out.below ((Below.refl _ w).alloc (Nat.le_refl _) _) (Nat.le_refl _)
  have hm0 : (m : Int) ≠ 0 := by omega
  have w1 : wrap64 (sumK l m + (m : Int) / 2) = sumK l m + (m : Int) / 2 := IntWalk.wrap64_in _ (by omega)
  have w2 : (sumK l m + (m : Int) / 2).tdiv m = (sumK l m + (m : Int) / 2) / m := Int.tdiv_eq_ediv_of_nonneg (by omega)
  have w3 : wrap64 ((sumK l m + (m : Int) / 2) / m) = (sumK l m + (m : Int) / 2) / m := by
    have h1 : (sumK l m + (m : Int) / 2) / m ≤ sumK l m + (m : Int) / 2 := Int.ediv_le_self _ (by omega)
    have h2 : 0 ≤ (sumK l m + (m : Int) / 2) / m := Int.ediv_nonneg (by omega) (by omega)
    exact IntWalk.wrap64_in _ (by omega)
  clear hs
  go_wp2_with fail
  go_quiet ((go_at_call 49; exact Calls.quiet_of_same ((sum_any _ (si_drewN HS.out _) HW.out hm).mono fun e w' h => ⟨h.1, h.2.symm⟩)))
  go_wp2_with fail
  go_ret
  refine ⟨?_, below_drewN ((Below.refl _ w).alloc (Nat.le_refl _) _) _⟩
  show Ending.returned (Value.int .i64 (wrap64 ((sumK l m + (m : Int) / 2) / m))) = _
  rw [w3]
theorem getD_in {l : List Int} (hw : ∀ v ∈ l, 0 ≤ v ∧ v < 65536) (i : Nat) : 0 ≤ l.getD i 0 ∧ l.getD i 0 < 65536 := by
  rw [List.getD_eq_getElem?_getD]
  cases h : l[i]? with
  | none => simp
  | some v => exact hw v (List.mem_of_getElem? h)
/-- the cell i of a view, its value said by the list -/
theorem si_at {w : World} {A : Option Addr} {n i : Nat} {l : List Int} {b off : Nat} (h : SI w .i64 (some ⟨b, off, none⟩) n l) (hi : i < n) : w.cell? ⟨b, off + i, none⟩ = some (.int .i64 (l.getD i 0)) := by
  obtain ⟨b', o', x, e, hc, hx, -⟩ := h.cells hi
  injection e with e
  injection e with e1 e2
  subst e1 e2
  rw [getD_at hx.out]; exact hc
theorem emboss_any {A B : Option Addr} {n c m d : Nat} {l : List Int} {own : Int} (w : World) (HB : SI w .i64 B m l) (hw : ∀ v ∈ l, 0 ≤ v ∧ v < 65536) (hm : 9 ≤ m) : Calls Try.prog 52 #[.slice A n c, .agg #[.slice B m d, .int .i64 own]] w (DoP w (l.getD 8 0 - l.getD 0 0 + 32768)) := by
  obtain ⟨b, off, x, rfl, -, -, hbl⟩ := HB.cells (i := 0) (by omega)
  have h8 := getD_in hw 8
  have h0 := getD_in hw 0
  have i0 : (0 : Int) < (m : Int) := by omega
  have i8 : (8 : Int) < (m : Int) := by omega
  have HS := HB.below ((Below.refl _ w).alloc (Nat.le_refl _) (.cells #[.slice (some ⟨b, off, none⟩) m d, .int .i64 own] 80)) (Nat.le_refl _)
  have c8 := si_at (A := none) (i := 8) HS (by omega)
  have c0 := si_at (A := none) (i := 0) HS (by omega)
  rw [Nat.add_zero] at c0
  generalize l.getD 8 0 = x8 at *
  generalize l.getD 0 0 = x0 at *
  have w1 : wrap64 (x8 - x0) = x8 - x0 := IntWalk.wrap64_in _ (by omega)
  have w2 : wrap64 (x8 - x0 + 32768) = x8 - x0 + 32768 := IntWalk.wrap64_in _ (by omega)
  clear h8 h0 HS HB hw
  go_enter Try.func52, Try.ntmps52
  go_wp2_with fail
  go_quiet (fail)
  go_wp2_with fail
  go_ret
  refine ⟨?_, below_drewN ((Below.refl _ w).alloc (Nat.le_refl _) _) _⟩
  show Ending.returned (Value.int .i64 (wrap64 (x8 - x0 + 32768))) = _
  rw [w2]
theorem mul_in {s a : Int} (hs : -600000 ≤ s ∧ s ≤ 600000) (ha : 1 ≤ a ∧ a ≤ 8) : -4800000 ≤ s * a ∧ s * a ≤ 4800000 := by
  have : a = 1 ∨ a = 2 ∨ a = 3 ∨ a = 4 ∨ a = 5 ∨ a = 6 ∨ a = 7 ∨ a = 8 := by omega
  rcases this with rfl | rfl | rfl | rfl | rfl | rfl | rfl | rfl <;> omega
theorem sharpen_any {A B : Option Addr} {n c m d : Nat} {ar l : List Int} {own : Int} (w : World) (HA : SI w .i64 A n ar) (HB : SI w .i64 B m l) (hw : ∀ v ∈ l, 0 ≤ v ∧ v < 65536) (hm : m = 9) (hn : 0 < n) (ho : 0 ≤ own ∧ own < 65536) (ha : 1 ≤ ar.getD 0 0 ∧ ar.getD 0 0 ≤ 8) :
    Calls Try.prog 48 #[.slice A n c, .agg #[.slice B m d, .int .i64 own]] w (DoP w (own + (9 * own - sumK l m) * ar.getD 0 0 / 16)) := by
  obtain ⟨b, off, x, rfl, -, -, hbl⟩ := HA.cells (i := 0) hn
  have H := Lib.hid HB
  have HW := Lib.hid hw
  have hs := sumK_in hw m
  have i0 : (0 : Int) < (n : Int) := by omega
  have hb := (Below.refl w.heap.size w).alloc (Nat.le_refl _) (.cells #[.slice B m d, .int .i64 own] 80)
  have c0 := si_at (A := none) (i := 0) (HA.below hb (Nat.le_refl _)) hn
  rw [Nat.add_zero] at c0
  have HS : Hid (SI (w.alloc (.cells #[.slice B m d, .int .i64 own] 80)) .i64 B m l) := H.out.below hb (Nat.le_refl _)
  generalize ar.getD 0 0 = a at *
  have hsm : 0 ≤ sumK l m ∧ sumK l m ≤ 600000 := by subst hm; omega
  have hmi := mul_in (s := 9 * own - sumK l m) (a := a) (by omega) ha
  have w1 : wrap64 (9 * own) = 9 * own := IntWalk.wrap64_in _ (by omega)
  have w2 : wrap64 (9 * own - sumK l m) = 9 * own - sumK l m := IntWalk.wrap64_in _ (by omega)
  have w3 : wrap64 ((9 * own - sumK l m) * a) = (9 * own - sumK l m) * a := IntWalk.wrap64_in _ (by omega)
  have w4 : wrap64 ((9 * own - sumK l m) * a / 16) = (9 * own - sumK l m) * a / 16 := IntWalk.wrap64_in _ (by omega)
  have w5 : wrap64 (own + (9 * own - sumK l m) * a / 16) = own + (9 * own - sumK l m) * a / 16 := IntWalk.wrap64_in _ (by omega)
  have hm4 : m ≤ 4096 := by omega
  clear HA HB hw hs hsm hmi hm ha ho hb
  go_enter Try.func48, Try.ntmps48
  go_wp2_with fail
  go_quiet ((go_at_call 49; exact Calls.quiet_of_same ((sum_any _ (si_drewN HS.out _) HW.out hm4).mono fun e w' h => ⟨h.1, h.2.symm⟩)))
  go_wp2_with fail
  go_ret
  refine ⟨?_, below_drewN ((Below.refl _ w).alloc (Nat.le_refl _) _) _⟩
  show Ending.returned (Value.int .i64 (wrap64 (own + (9 * own - sumK l m) * a / 16))) = _
  rw [w5]
end Go.Proofs.Ytogmlcgiajigfaa.Ard
