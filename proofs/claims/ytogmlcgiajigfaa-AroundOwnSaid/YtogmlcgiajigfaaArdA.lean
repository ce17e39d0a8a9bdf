/-
  Walks: the small functions of 'around' and of the document's answer.
-/
import Derived.Test.YtogmlcgiajigfaaChecked
import Derived.Test.YtogmlcgiajigfaaArdM
set_option linter.unusedVariables false
set_option linter.unusedSimpArgs false
namespace Go.Proofs.Ytogmlcgiajigfaa.Ard
open Go.RowKit K

theorem one_any {A : Option Addr} {n c : Nat} (w : World) : Calls Try.prog 43 #[.slice A n c] w fun e w' => e = .returned (.tuple #[.int .i64 1, .int .i64 1]) ∧ w = w' := by
  go_enter Try.func43, Try.ntmps43
  go_wp2
  go_ret2
  exact ⟨rfl, rfl⟩
theorem flat_any {A : Option Addr} {n c : Nat} {l : List Int} (w : World) (HA : SI w .i64 A n l) (h0 : 0 < n) : Calls Try.prog 60 #[.slice A n c] w fun e w' => e = .returned (.tuple #[.int .i64 (l.getD 0 0), .int .i64 0]) ∧ w = w' := by
  obtain ⟨b, off, x, rfl, hc, hx, -⟩ := HA.cells (i := 0) h0
  have hi : (0 : Int) < (n : Int) := by omega
  rw [Nat.add_zero] at hc
  have e0 : l.getD 0 0 = x := by rw [List.getD_eq_getElem?_getD, hx.out]; rfl
  rw [e0]
  clear hx
  go_enter Try.func60, Try.ntmps60
  go_wp2
  go_ret2
  exact ⟨rfl, rfl⟩
theorem sum_any {A : Option Addr} {n c : Nat} {l : List Int} (w : World) (HA : SI w .i64 A n l) (hw : ∀ v ∈ l, 0 ≤ v ∧ v < 65536) (hn : n ≤ 4096) : Calls Try.prog 49 #[.slice A n c] w fun e w' => e = .returned (.int .i64 (sumK l n)) ∧ w = w' := by
  have hbig := HA.big
  have HB := Lib.hid (sumK_in hw)
  clear hw
  go_enter Try.func49, Try.ntmps49
  go_wp2
  go_loop [3, 5, 8] (fun s _ i => ∃ k : Nat, k ≤ n ∧ i = .int .i64 k ∧ s = .int .i64 (sumK l k)) (fun _ _ i => n - (intOf i).toNat)
  case atStart => exact ⟨0, Nat.zero_le _, rfl, by simp [sumK]⟩
  case round =>
    obtain ⟨k, hk, rfl, rfl⟩ := hrel
    by_cases hlt : k < n
    · obtain ⟨b, off, x, rfl, hc, hx, hx2⟩ := HA.cells hlt
      have hlt' : (k : Int) < n := by omega
      have h1 := HB.out k
      have h2 := HB.out (k + 1)
      rw [sumK_succ hx.out] at h2
      have HS := Lib.hid (sumK_succ hx.out)
      have hwr : wrap64 (sumK l k + x) = sumK l k + x := IntWalk.wrap64_in _ (by push_cast at h2; omega)
      clear h1 h2
      go_wp2
      go_round
      case rel => exact ⟨k + 1, by omega, by go_num, by rw [HS.out, hwr]⟩
      case measure => simp [intOf]; omega
    · obtain rfl : k = n := by omega
      go_wp2
      go_ret
      exact ⟨rfl, rfl⟩
theorem rsum_any {A : Option Addr} {n c : Nat} {l : List Int} (w : World) (HA : SI w .i64 A n l) (hw : ∀ v ∈ l, 0 ≤ v ∧ v < 65536) (hn : n ≤ 4096) : Calls Try.prog 66 #[.slice A n c] w fun e w' => e = .returned (.int .i64 (sumK l n)) ∧ w = w' := by
  have hbig := HA.big
  have HB := Lib.hid (sumK_in hw)
  clear hw
  go_enter Try.func66, Try.ntmps66
  go_wp2
  go_loop [3, 4] (fun s i => ∃ k : Nat, k ≤ n ∧ i = .int .i64 k ∧ s = .int .i64 (sumK l k)) (fun _ i => n - (intOf i).toNat)
  case atStart => exact ⟨0, Nat.zero_le _, rfl, by simp [sumK]⟩
  case round =>
    obtain ⟨k, hk, rfl, rfl⟩ := hrel
    by_cases hlt : k < n
    · obtain ⟨b, off, x, rfl, hc, hx, hx2⟩ := HA.cells hlt
      have hlt' : (k : Int) < n := by omega
      have h1 := HB.out k
      have h2 := HB.out (k + 1)
      rw [sumK_succ hx.out] at h2
      have HS := Lib.hid (sumK_succ hx.out)
      have hwr : wrap64 (sumK l k + x) = sumK l k + x := IntWalk.wrap64_in _ (by push_cast at h2; omega)
      clear h1 h2
      go_wp2
      go_round
      case rel => exact ⟨k + 1, by omega, by go_num, by rw [HS.out, hwr]⟩
      case measure => simp [intOf]; omega
    · obtain rfl : k = n := by omega
      go_wp2
      go_ret
      exact ⟨rfl, rfl⟩
/-- the greater of a number and its negative -/
def absF (v : Int) : Int := max v (-v)
theorem abs_any {v : Int} (w : World) (h : -9000000000 ≤ v ∧ v ≤ 9000000000) : Calls Try.prog 51 #[.int .i64 v] w fun e w' => e = .returned (.int .i64 (absF v)) ∧ w = w' := by
  have hw : wrap64 (-v) = -v := IntWalk.wrap64_in _ (by omega)
  have e0 : absF v = max v (-v) := rfl
  rw [e0]
  go_enter Try.func51, Try.ntmps51
  go_wp2
  · have e1 : max v (-v) = -v := Int.max_eq_right (by omega)
    rw [e1]
    go_ret
    exact ⟨rfl, rfl⟩
  · have e1 : max v (-v) = v := Int.max_eq_left (by omega)
    rw [e1]
    go_ret
    exact ⟨rfl, rfl⟩
theorem size_any {v : Int} (w : World) (h : -9000000000 ≤ v ∧ v ≤ 9000000000) : Calls Try.prog 68 #[.int .i64 v] w fun e w' => e = .returned (.int .i64 (absF v)) ∧ w = w' := by
  have hw : wrap64 (-v) = -v := IntWalk.wrap64_in _ (by omega)
  by_cases h0 : v < 0
  · have e0 : absF v = -v := by unfold absF; omega
    rw [e0]
    have d0 : decide (v < 0) = true := decide_eq_true h0
    go_enter Try.func68, Try.ntmps68
    go_wp2
    go_ret
    exact ⟨rfl, rfl⟩
  · have e0 : absF v = v := by unfold absF; omega
    rw [e0]
    have d0 : decide (v < 0) = false := decide_eq_false h0
    go_enter Try.func68, Try.ntmps68
    go_wp2
    go_ret
    exact ⟨rfl, rfl⟩
theorem clamp_any {v : Int} {top : Nat} (w : World) : Calls Try.prog 69 #[.int .i64 v, .int .i64 (top : Int)] w fun e w' => e = .returned (.int .i64 (clampN v top : Int)) ∧ w = w' := by
  rw [← clamp_eq]
  by_cases h0 : v < 0
  · rw [if_pos h0]
    have d0 : decide (v < 0) = true := decide_eq_true h0
    go_enter Try.func69, Try.ntmps69
    go_wp2
    go_ret
    exact ⟨rfl, rfl⟩
  · rw [if_neg h0]
    have d0 : decide (v < 0) = false := decide_eq_false h0
    by_cases h1 : (top : Int) < v
    · rw [if_pos h1]
      have d1 : decide ((top : Int) < v) = true := decide_eq_true h1
      go_enter Try.func69, Try.ntmps69
      go_wp2
      go_ret
      exact ⟨rfl, rfl⟩
    · rw [if_neg h1]
      have d1 : decide ((top : Int) < v) = false := decide_eq_false h1
      go_enter Try.func69, Try.ntmps69
      go_wp2
      go_ret
      exact ⟨rfl, rfl⟩
theorem tdiv_in {v n : Int} (hn : 0 < n ∧ n ≤ 65535) (hv : -9000000000000 ≤ v ∧ v ≤ 9000000000000) : -9000000000001 ≤ v.tdiv n ∧ v.tdiv n ≤ 9000000000001 := by
  have h3 := Int.tdiv_eq_ediv (a := v) (b := n)
  have hs : n.sign = 1 := Int.sign_eq_one_of_pos hn.1
  rw [hs] at h3
  have h4 : v / n ≤ 9000000000000 := by
    have := Int.ediv_le_ediv (c := n) hn.1 hv.2
    have : (9000000000000 : Int) / n ≤ 9000000000000 := Int.ediv_le_self _ (by omega)
    omega
  have h5 : -9000000000000 ≤ v / n := by
    have := Int.ediv_le_ediv (c := n) hn.1 hv.1
    have h6 : -9000000000000 ≤ (-9000000000000 : Int) / n := by
      rw [Int.le_ediv_iff_mul_le hn.1]
      have : (1 : Int) ≤ n := by omega
      omega
    omega
  split at h3 <;> omega
theorem over_any {v n : Int} (w : World) (hn : 0 < n ∧ n ≤ 65535) (hv : -9000000000000 ≤ v ∧ v ≤ 9000000000000) : Calls Try.prog 45 #[.int .i64 v, .int .i64 n] w fun e w' => e = .returned (.int .i64 (v / n)) ∧ w = w' := by
  have HE := Lib.hid (over_prog v n hn.1)
  have h1 := Int.mul_tdiv_add_tmod v n
  have h2 : -n < v.tmod n ∧ v.tmod n < n := by
    have := Int.tmod_lt_of_pos v hn.1
    have := Int.lt_tmod_of_pos v hn.1
    omega
  rw [Int.mul_comm] at h1
  have hn0 : n ≠ 0 := by omega
  have hw0 := tdiv_in hn hv
  have w1 : wrap64 (v.tdiv n) = v.tdiv n := IntWalk.wrap64_in _ (by omega)
  have w2 : wrap64 (v.tdiv n * n) = v.tdiv n * n := IntWalk.wrap64_in _ (by omega)
  have w3 : wrap64 (v.tdiv n - 1) = v.tdiv n - 1 := IntWalk.wrap64_in _ (by omega)
  clear h1 h2 hw0
  by_cases h : v < v.tdiv n * n
  · have he := HE.out
    rw [if_pos h] at he
    rw [← he]
    have d : decide (v < v.tdiv n * n) = true := decide_eq_true h
    clear he h
    go_enter Try.func45, Try.ntmps45
    go_wp2
    go_ret
    refine ⟨?_, rfl⟩
    show Ending.returned (Value.int .i64 (wrap64 (v.tdiv n - 1))) = _
    rw [w3]
  · have he := HE.out
    rw [if_neg h] at he
    rw [← he]
    have d : decide (v < v.tdiv n * n) = false := decide_eq_false h
    clear he h
    go_enter Try.func45, Try.ntmps45
    go_wp2
    go_ret
    exact ⟨rfl, rfl⟩
theorem rover_any {v n : Int} (w : World) (hn : 0 < n ∧ n ≤ 65535) (hv : -9000000000000 ≤ v ∧ v ≤ 9000000000000) : Calls Try.prog 67 #[.int .i64 v, .int .i64 n] w fun e w' => e = .returned (.int .i64 (v / n)) ∧ w = w' := by
  have HE := Lib.hid (over_ref v n hn.1)
  have hw0 := Lib.hid (tdiv_in hn hv)
  have hn0 : n ≠ 0 := by omega
  have h2 : -n < v.tmod n ∧ v.tmod n < n := by
    have := Int.tmod_lt_of_pos v hn.1
    have := Int.lt_tmod_of_pos v hn.1
    omega
  have w1 : wrap64 (v.tdiv n) = v.tdiv n := IntWalk.wrap64_in _ (by have := hw0.out; omega)
  have w2 : wrap64 (v.tmod n) = v.tmod n := IntWalk.wrap64_in _ (by omega)
  have w3 : wrap64 (v.tdiv n - 1) = v.tdiv n - 1 := IntWalk.wrap64_in _ (by have := hw0.out; omega)
  clear h2
  by_cases h : v.tmod n < 0
  · have he := HE.out
    rw [if_pos h] at he
    rw [← he]
    have d : decide (v.tmod n < 0) = true := decide_eq_true h
    clear he h
    go_enter Try.func67, Try.ntmps67
    go_wp2
    go_ret
    refine ⟨?_, rfl⟩
    show Ending.returned (Value.int .i64 (wrap64 (v.tdiv n - 1))) = _
    rw [w3]
  · have he := HE.out
    rw [if_neg h] at he
    rw [← he]
    have d : decide (v.tmod n < 0) = false := decide_eq_false h
    clear he h
    go_enter Try.func67, Try.ntmps67
    go_wp2
    go_ret
    exact ⟨rfl, rfl⟩
end Go.Proofs.Ytogmlcgiajigfaa.Ard
