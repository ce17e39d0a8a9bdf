/-
  Plain law of 'around': what an operator makes of a window; the program's form and the document's.
-/
import Derived.Test.YtogmlcgiajigfaaKit
set_option linter.unusedVariables false
set_option linter.unusedSimpArgs false
namespace Go.Proofs.Ytogmlcgiajigfaa.Ard

/-- a number between 0 and top -/
def clampN (v : Int) (top : Nat) : Nat := (min (max v 0) (top : Int)).toNat
theorem clampN_le (v : Int) (top : Nat) : clampN v top ≤ top := by unfold clampN; omega
theorem clampN_in {v : Int} {top : Nat} (h0 : 0 ≤ v) (h1 : v ≤ top) : (clampN v top : Int) = v := by unfold clampN; omega
/-- the sample k of the pixel at a place, or of the nearest one -/
def atF (W H : Nat) (pix : List Int) (x y : Int) (k : Nat) : Int := pix.getD (4 * (clampN y (H - 1) * W + clampN x (W - 1)) + k) 0
/-- the window: row by row -/
def winF (W H : Nat) (pix : List Int) (x y : Int) (n p k : Nat) : List Int :=
  (List.range (2 * p + 1)).flatMap fun (j : Nat) => (List.range (2 * n + 1)).map fun (i : Nat) => atF W H pix (x - n + i) (y - p + j) k
theorem flat_len (f : Nat → List Int) (c : Nat) (h : ∀ j, (f j).length = c) : ∀ m, ((List.range m).flatMap f).length = m * c := by
  intro m
  induction m with
  | zero => simp
  | succ m ih => rw [List.range_succ, List.flatMap_append, List.length_append, ih]; simp [h, Nat.succ_mul]
theorem winF_len (W H : Nat) (pix : List Int) (x y : Int) (n p k : Nat) : (winF W H pix x y n p k).length = (2 * p + 1) * (2 * n + 1) := flat_len _ _ (fun j => by simp) _
theorem atF_in {W H : Nat} {pix : List Int} {x y : Int} {k : Nat} (hw : ∀ v ∈ pix, 0 ≤ v ∧ v < 65536) : 0 ≤ atF W H pix x y k ∧ atF W H pix x y k < 65536 := by
  unfold atF
  generalize 4 * (clampN y (H - 1) * W + clampN x (W - 1)) + k = q
  rw [List.getD_eq_getElem?_getD]
  cases h : pix[q]? with
  | none => simp
  | some v => exact hw v (List.mem_of_getElem? h)
theorem winF_in {W H : Nat} {pix : List Int} {x y : Int} {n p k : Nat} (hw : ∀ v ∈ pix, 0 ≤ v ∧ v < 65536) : ∀ v ∈ winF W H pix x y n p k, 0 ≤ v ∧ v < 65536 := by
  intro v hv
  unfold winF at hv
  rw [List.mem_flatMap] at hv
  obtain ⟨j, -, hv⟩ := hv
  rw [List.mem_map] at hv
  obtain ⟨i, -, rfl⟩ := hv
  exact atF_in hw
/-- division downwards -/
theorem over_prog (v n : Int) (hn : 0 < n) : (if v < v.tdiv n * n then v.tdiv n - 1 else v.tdiv n) = v / n := by
  have h1 := Int.mul_ediv_add_emod v n
  have h2 := Int.emod_nonneg v (Int.ne_of_gt hn)
  have h3 := Int.emod_lt_of_pos v hn
  have hs : n.sign = 1 := Int.sign_eq_one_of_pos hn
  have h4 : v.tdiv n = v / n + (if 0 ≤ v ∨ n ∣ v then 0 else 1) := by rw [Int.tdiv_eq_ediv, hs]
  by_cases h : 0 ≤ v ∨ n ∣ v
  · rw [if_pos h, Int.add_zero] at h4
    rw [h4, if_neg (by rw [Int.mul_comm]; omega)]
  · rw [if_neg h] at h4
    have h5 : v % n ≠ 0 := fun e => h (.inr (Int.dvd_of_emod_eq_zero e))
    rw [h4, if_pos (by rw [Int.add_mul, Int.one_mul, Int.mul_comm]; omega)]
    omega
theorem over_ref (v n : Int) (hn : 0 < n) : (if v.tmod n < 0 then v.tdiv n - 1 else v.tdiv n) = v / n := by
  have h := over_prog v n hn
  have h1 := Int.tmod_add_mul_tdiv v n
  rw [Int.mul_comm] at h1
  rw [← h]
  have : (v.tmod n < 0) ↔ (v < v.tdiv n * n) := by omega
  simp only [this]
theorem clamp_eq (v : Int) (top : Nat) : (if v < 0 then 0 else if (top : Int) < v then (top : Int) else v) = (clampN v top : Int) := by unfold clampN; split <;> (try split) <;> omega
/-- the least of the first k numbers, and the greatest -/
def minK (l : List Int) (k : Nat) : Int := (l.take k).foldl min (l.getD 0 0)
def maxK (l : List Int) (k : Nat) : Int := (l.take k).foldl max (l.getD 0 0)
theorem take_one {l : List Int} (h : 0 < l.length) : l.take 1 = [l.getD 0 0] := by
  cases l with
  | nil => simp at h
  | cons a l => simp
theorem minK_one {l : List Int} (h : 0 < l.length) : minK l 1 = l.getD 0 0 := by unfold minK; rw [take_one h]; simp
theorem maxK_one {l : List Int} (h : 0 < l.length) : maxK l 1 = l.getD 0 0 := by unfold maxK; rw [take_one h]; simp
theorem take_more {l : List Int} {k : Nat} {v : Int} (h : l[k]? = some v) : l.take (k + 1) = l.take k ++ [v] := by rw [List.take_add_one, h]; rfl
theorem minK_succ {l : List Int} {k : Nat} {v : Int} (h : l[k]? = some v) : minK l (k + 1) = min (minK l k) v := by unfold minK; rw [take_more h, List.foldl_append]; rfl
theorem maxK_succ {l : List Int} {k : Nat} {v : Int} (h : l[k]? = some v) : maxK l (k + 1) = max (maxK l k) v := by unfold maxK; rw [take_more h, List.foldl_append]; rfl
/-- the sum of the first k numbers -/
def sumK (l : List Int) (k : Nat) : Int := (l.take k).sum
theorem sumK_succ {l : List Int} {k : Nat} {v : Int} (h : l[k]? = some v) : sumK l (k + 1) = sumK l k + v := by unfold sumK; rw [take_more h, List.sum_append]; simp
theorem sumK_in {l : List Int} (hw : ∀ v ∈ l, 0 ≤ v ∧ v < 65536) : ∀ k, 0 ≤ sumK l k ∧ sumK l k ≤ 65535 * (k : Int) := by
  intro k
  induction k with
  | zero => simp [sumK]
  | succ k ih =>
    cases h : l[k]? with
    | none =>
      have : sumK l (k + 1) = sumK l k := by
        have := List.getElem?_eq_none_iff.1 h
        unfold sumK; rw [List.take_of_length_le (by omega), List.take_of_length_le (by omega)]
      rw [this]; push_cast; omega
    | some v =>
      rw [sumK_succ h]
      have := hw v (List.mem_of_getElem? h)
      push_cast; omega
end Go.Proofs.Ytogmlcgiajigfaa.Ard
