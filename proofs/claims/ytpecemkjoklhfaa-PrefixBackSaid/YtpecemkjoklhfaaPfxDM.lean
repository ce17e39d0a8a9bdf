/-
  The plain functions of the layer 'prefix', more: what a decoder holds and reads; no program in sight.
-/
import Derived.Test.YtpecemkjoklhfaaPfxM
set_option linter.unusedVariables false
set_option linter.unusedSimpArgs false
namespace Go.Proofs.Ytpecemkjoklhfaa.Pfx
open Go.RowKit K

/-- the symbols of length m among the first k -/
def idx (l : List Int) (m k : Nat) : List Int := ((List.range k).filter (fun i => l.getD i 0 == (m : Int))).map (fun i : Nat => (i : Int))
theorem idx_succ {l : List Int} {k : Nat} {x : Int} (m : Nat) (h : l[k]? = some x) : idx l m (k+1) = idx l m k ++ if x = m then [(k : Int)] else [] := by
  unfold idx
  rw [List.range_succ, List.filter_append, List.map_append]
  congr 1
  have := getD_of h 0
  by_cases e : x = m
  · rw [if_pos e]; simp only [List.filter_cons, this, e]; simp
  · rw [if_neg e]; simp only [List.filter_cons, this]; simp [e]
theorem idx_zero (l : List Int) (m : Nat) : idx l m 0 = [] := rfl
theorem idx_len (l : List Int) (m k : Nat) (hk : k ≤ l.length) : (idx l m k).length = cnt l m k := by
  induction k with
  | zero => simp [idx_zero, cnt_zero]
  | succ k ih =>
    have hx : l[k]? = some l[k] := List.getElem?_eq_getElem (by omega)
    rw [idx_succ m hx, cnt_succ m hx, List.length_append, ih (by omega)]
    split <;> simp
def tabB (l : List Int) : Nat → List Int
  | 0 => []
  | 1 => []
  | n+2 => tabB l (n+1) ++ idx l (n+1) l.length
theorem tabB_succ (l : List Int) (m : Nat) (h : 1 ≤ m) : tabB l (m+1) = tabB l m ++ idx l m l.length := by
  obtain ⟨k, rfl⟩ : ∃ k, m = k + 1 := ⟨m - 1, by omega⟩
  rfl
def startB (l : List Int) (m : Nat) : Nat := (tabB l m).length
theorem startB_succ (l : List Int) (m : Nat) (h : 1 ≤ m) : startB l (m+1) = startB l m + cnt l m l.length := by
  unfold startB; rw [tabB_succ l m h, List.length_append, idx_len l m _ (Nat.le_refl _)]
def deepB (l : List Int) : Nat → Nat
  | 0 => 0
  | 1 => 0
  | n+2 => if 0 < cnt l (n+1) l.length then n+1 else deepB l (n+1)
theorem deepB_succ (l : List Int) (m : Nat) (h : 1 ≤ m) : deepB l (m+1) = if 0 < cnt l m l.length then m else deepB l m := by
  obtain ⟨k, rfl⟩ : ∃ k, m = k + 1 := ⟨m - 1, by omega⟩
  rfl
theorem deepB_lt (l : List Int) (m : Nat) : deepB l (m+1) ≤ m := by
  induction m with
  | zero => simp [deepB]
  | succ m ih => rw [deepB_succ _ _ (by omega)]; split <;> omega
theorem countP_succ (l : List Int) (m : Nat) : l.countP (fun x => decide (1 ≤ x ∧ x ≤ ((m + 1 : Nat) : Int))) = l.countP (fun x => decide (1 ≤ x ∧ x ≤ (m : Int))) + l.count ((m + 1 : Nat) : Int) := by
  induction l with
  | nil => rfl
  | cons x l ih =>
    rw [List.countP_cons, List.countP_cons, List.count_cons, ih]
    by_cases e : x = ((m + 1 : Nat) : Int)
    · have e2 : (x == ((m + 1 : Nat) : Int)) = true := by simp [e]
      rw [e2, if_pos (by simp; omega), if_neg (by simp; omega), if_pos rfl]; omega
    · have e2 : (x == ((m + 1 : Nat) : Int)) = false := by simpa using e
      rw [e2]
      by_cases e3 : 1 ≤ x ∧ x ≤ m
      · rw [if_pos (by simp; omega), if_pos (by simpa using e3), if_neg (by simp)]; omega
      · rw [if_neg (by simp; omega), if_neg (by simp; omega), if_neg (by simp)]; omega
theorem startB_count (l : List Int) (m : Nat) : startB l (m+1) = l.countP (fun x => decide (1 ≤ x ∧ x ≤ (m : Int))) := by
  induction m with
  | zero =>
    show 0 = _
    symm
    rw [List.countP_eq_zero]
    intro x _; simp; omega
  | succ m ih => rw [startB_succ _ _ (by omega), ih, countP_succ]; simp [cnt]
theorem cnt_sum (l : List Int) (m : Nat) : startB l (m+1) + cnt l (m+1) l.length ≤ l.length := by
  rw [← startB_succ _ _ (by omega), startB_count]; exact List.countP_le_length
theorem startB_mono (l : List Int) {a b : Nat} (h1 : 1 ≤ a) (h : a ≤ b) : startB l a ≤ startB l b := by
  obtain ⟨k, rfl⟩ : ∃ k, b = a + k := ⟨b - a, by omega⟩
  clear h
  induction k with
  | zero => exact Nat.le_refl _
  | succ k ih => have := startB_succ l (a + k) (by omega); rw [← Nat.add_assoc, this]; omega
theorem startB_cnt (l : List Int) {m : Nat} (h1 : 1 ≤ m) (h : m ≤ 16) : startB l m + cnt l m l.length ≤ startB l 17 := by
  rw [← startB_succ l m h1]; exact startB_mono l (by omega) (by omega)
theorem first_le0 (l : List Int) (m : Nat) : first l (m+1) + 2 * l.length ≤ 2 ^ m * (2 * l.length) := by
  induction m with
  | zero => simp [first]
  | succ m ih =>
    rw [first_succ l (m+1) (by omega)]
    have := cnt_le l (m+1) l.length
    rw [Nat.pow_succ]
    have e : 2 ^ m * 2 * (2 * l.length) = 2 * (2 ^ m * (2 * l.length)) := by rw [Nat.mul_comm (2 ^ m) 2, Nat.mul_assoc]
    omega
theorem first_le (l : List Int) (m : Nat) (hm : m ≤ 17) (hl : l.length ≤ 4096) : first l m ≤ 536870912 := by
  rcases m with _ | m
  · simp [first]
  · have := first_le0 l m
    have h2 : 2 ^ m ≤ 2 ^ 16 := Nat.pow_le_pow_right (by omega) (by omega)
    have h3 : 2 ^ m * (2 * l.length) ≤ 2 ^ 16 * 8192 := Nat.mul_le_mul h2 (by omega)
    have e : 2 ^ 16 * 8192 = 536870912 := by decide
    omega
/-- the first number of n bits with which no longer code begins -/
def aboveM (l : List Int) (d n : Nat) : Int := if d ≤ n then 0 else ((first l d + cnt l d l.length : Nat) - 1 : Int) / 2 ^ (d - n) + 1
/-- one symbol: the symbol, the error, the place behind it -/
def nx (l : List Int) (d : Nat) (bit : Nat → Int) (total : Nat) : Nat → Nat → Int → Nat → Int × Int × Nat
  | 0, _, _, at_ => (0, 32, at_)
  | f+1, n, v, at_ =>
    if total ≤ at_ then (0, 5, at_) else
    let v' := 2 * v + bit at_
    let k := v' - first l n
    if k < cnt l n l.length ∧ 0 ≤ k then ((tabB l 17).getD (startB l n + k.toNat) 0, 0, at_ + 1)
    else if aboveM l d n ≤ v' then (0, 32, at_ + 1) else nx l d bit total f (n+1) v' (at_ + 1)
def nextM (l : List Int) (bit : Nat → Int) (total at_ : Nat) : Int × Int × Nat := nx l (deepB l 17) bit total (deepB l 17) 1 0 at_
end Go.Proofs.Ytpecemkjoklhfaa.Pfx
