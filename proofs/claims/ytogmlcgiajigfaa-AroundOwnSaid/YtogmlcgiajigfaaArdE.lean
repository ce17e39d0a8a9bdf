/-
  Walks: convolve.
-/
import Derived.Test.YtogmlcgiajigfaaArdC
set_option linter.unusedVariables false
set_option linter.unusedSimpArgs false
namespace Go.Proofs.Ytogmlcgiajigfaa.Ard
open Go.RowKit K

/-- the sum of the first k products -/
def dotK (a l : List Int) : Nat → Int
  | 0 => 0
  | k + 1 => dotK a l k + a.getD k 0 * l.getD k 0
theorem prod_in {a x : Int} (ha : -1024 ≤ a ∧ a ≤ 1024) (hx : 0 ≤ x ∧ x < 65536) : -70000000 ≤ a * x ∧ a * x ≤ 70000000 := by
  have h1 : a * x ≤ 1024 * x := Int.mul_le_mul_of_nonneg_right ha.2 hx.1
  have h2 : -1024 * x ≤ a * x := Int.mul_le_mul_of_nonneg_right ha.1 hx.1
  omega
theorem dotK_in {a l : List Int} (ha : ∀ i, i < 9 → -1024 ≤ a.getD i 0 ∧ a.getD i 0 ≤ 1024) (hw : ∀ v ∈ l, 0 ≤ v ∧ v < 65536) : ∀ k : Nat, k ≤ 9 → -70000000 * (k : Int) ≤ dotK a l k ∧ dotK a l k ≤ 70000000 * (k : Int) := by
  intro k
  induction k with
  | zero => intro _; simp [dotK]
  | succ k ih =>
    intro hk
    have h1 := ih (by omega)
    have h2 := prod_in (ha k (by omega)) (getD_in hw k)
    rw [dotK]
    push_cast
    omega
theorem si_at2 {w : World} {A : Option Addr} {n i : Nat} {l : List Int} (h : SI w .i64 A n l) (hi : i < n) : ∃ b off, A = some ⟨b, off, none⟩ ∧ w.cell? ⟨b, off + i, none⟩ = some (.int .i64 (l.getD i 0)) := by
  obtain ⟨b, o, x, e, hc, hx, -⟩ := h.cells hi
  exact ⟨b, o, e, by rw [getD_at hx.out]; exact hc⟩
set_option maxHeartbeats 1000000 in
theorem conv_any {A B : Option Addr} {n c m d : Nat} {ar l : List Int} {own : Int} (w : World) (HA : SI w .i64 A n ar) (HB : SI w .i64 B m l) (hw : ∀ v ∈ l, 0 ≤ v ∧ v < 65536) (hm : m = 9) (hn : n = 11)
    (ha : ∀ i, i < 9 → -1024 ≤ ar.getD i 0 ∧ ar.getD i 0 ≤ 1024) (h9 : 1 ≤ ar.getD 9 0 ∧ ar.getD 9 0 ≤ 65535) (h10 : -65535 ≤ ar.getD 10 0 ∧ ar.getD 10 0 ≤ 65535) :
    Calls Try.prog 44 #[.slice A n c, .agg #[.slice B m d, .int .i64 own]] w (DoP w (dotK ar l 9 / ar.getD 9 0 + ar.getD 10 0)) := by
  have hb := (Below.refl w.heap.size w).alloc (Nat.le_refl _) (.cells #[.slice B m d, .int .i64 own] 80)
  have HA2 := HA.below hb (Nat.le_refl _)
  have HB2 := HB.below hb (Nat.le_refl _)
  obtain ⟨ba, oa, rfl, c9⟩ := si_at2 (i := 9) HA2 (by omega)
  obtain ⟨bb, ob, rfl, -⟩ := si_at2 (i := 0) HB2 (by omega)
  have c10 := si_at (A := none) (i := 10) HA2 (by omega)
  have HD := Lib.hid (dotK_in ha hw)
  have HP : Hid (∀ i, i < 9 → -70000000 ≤ ar.getD i 0 * l.getD i 0 ∧ ar.getD i 0 * l.getD i 0 ≤ 70000000) := fun i hi => prod_in (ha i hi) (getD_in hw i)
  have HA3 := Lib.hid HA2
  have HB3 := Lib.hid HB2
  have hd9 := HD.out 9 (by omega)
  have hq : -9000000000001 ≤ dotK ar l 9 / ar.getD 9 0 ∧ dotK ar l 9 / ar.getD 9 0 ≤ 9000000000001 := by
    have h1 : dotK ar l 9 / ar.getD 9 0 ≤ 700000000 / ar.getD 9 0 := Int.ediv_le_ediv (by omega) (by omega)
    have h2 : (700000000 : Int) / ar.getD 9 0 ≤ 700000000 := Int.ediv_le_self _ (by omega)
    have h3 : -700000000 ≤ dotK ar l 9 / ar.getD 9 0 := by
      rw [Int.le_ediv_iff_mul_le (by omega)]
      omega
    omega
  have i9 : (9 : Int) < (n : Int) := by omega
  have i10 : (10 : Int) < (n : Int) := by omega
  have HO : Hid (∀ W, Calls Try.prog 45 #[.int .i64 (dotK ar l 9), .int .i64 (ar.getD 9 0)] W fun e w' => e = .returned (.int .i64 (dotK ar l 9 / ar.getD 9 0)) ∧ W = w') := fun W => over_any W ⟨by omega, h9.2⟩ (by omega)
  have hwf : wrap64 (dotK ar l 9 / ar.getD 9 0 + ar.getD 10 0) = dotK ar l 9 / ar.getD 9 0 + ar.getD 10 0 := IntWalk.wrap64_in _ (by omega)
  have hd11 : (0 : Int) ≤ 9 := by omega
  generalize ar.getD 9 0 = a9 at *
  generalize ar.getD 10 0 = a10 at *
  have HM := Lib.hid hm
  have HN := Lib.hid hn
  clear HA HB HA2 HB2 hw ha h9 h10 hd9 hq hb hm hn
  go_enter Try.func44, Try.ntmps44
  go_wp2_with fail
  go_loop [5, 6, 7, 11] (fun s _ _ i => ∃ k : Nat, k ≤ 9 ∧ i = .int .i64 k ∧ s = .int .i64 (dotK ar l k)) (fun _ _ _ i => 9 - (intOf i).toNat)
  case atStart => exact ⟨0, by omega, rfl, rfl⟩
  case round =>
    obtain ⟨k, hk, rfl, rfl⟩ := hrel
    by_cases hlt : k < 9
    · have ck := si_at (A := none) (i := k) HA3.out (by have := HN.out; omega)
      have cl := si_at (A := none) (i := k) HB3.out (by have := HM.out; omega)
      have hkm : (k : Int) < (m : Int) := by have := HM.out; omega
      have hkn : (k : Int) < (n : Int) := by have := HN.out; omega
      have hk0 : (0 : Int) ≤ (k : Int) := by omega
      have hp := HP.out k hlt
      have h1 := HD.out k (by omega)
      have w1 : wrap64 (ar.getD k 0 * l.getD k 0) = ar.getD k 0 * l.getD k 0 := IntWalk.wrap64_in _ (by omega)
      have w2 : wrap64 (dotK ar l k + ar.getD k 0 * l.getD k 0) = dotK ar l k + ar.getD k 0 * l.getD k 0 := IntWalk.wrap64_in _ (by omega)
      have HS : Hid (dotK ar l (k + 1) = dotK ar l k + ar.getD k 0 * l.getD k 0) := rfl
      generalize ar.getD k 0 = a at *
      generalize l.getD k 0 = y at *
      clear hp h1
      go_wp2_with fail
      go_round
      case rel => exact ⟨k + 1, by omega, by go_num, by rw [HS.out, w2]⟩
      case measure => simp [intOf]; omega
    · obtain rfl : k = 9 := by omega
      have hd : decide ((9 : Int) < (m : Int)) = false := decide_eq_false (by have := HM.out; omega)
      simp only [Int.cast_ofNat_Int]
      generalize dotK ar l 9 = z at *
      go_wp2_with fail
      go_quiet ((go_at_call 45; exact Calls.quiet_of_same ((HO.out _).mono fun e w' h => ⟨h.1, h.2.symm⟩)))
      go_wp2_with fail
      go_ret
      refine ⟨?_, below_drewN ((Below.refl _ w).alloc (Nat.le_refl _) _) _⟩
      show Ending.returned (Value.int .i64 (wrap64 _)) = _
      rw [hwf]
end Go.Proofs.Ytogmlcgiajigfaa.Ard
