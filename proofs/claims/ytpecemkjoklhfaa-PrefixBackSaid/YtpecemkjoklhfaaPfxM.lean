/-
  The plain functions of the layer 'prefix': what rooms and codes are; no program in sight.
-/
import Derived.Test.YtpecemkjoklhfaaKit
set_option linter.unusedVariables false
set_option linter.unusedSimpArgs false
namespace Go.Proofs.Ytpecemkjoklhfaa.Pfx
open Go.RowKit K

def cost (x : Int) : Int := if 0 < x then 2 ^ (16 - x).toNat else 0
def roomAt (l : List Int) (k : Nat) : Int := 65536 - ((l.take k).map cost).sum
def badLen (x : Int) : Bool := decide (x < 0) || decide (16 < x)
def roomRes (l : List Int) : Int × Int := if 4096 < l.length then (0, 3) else if l.any badLen then (0, 2) else (roomAt l l.length, 0)
def checkedOf (l : List Int) : Int := if (roomRes l).2 = 0 ∧ (roomRes l).1 < 0 then 30 else (roomRes l).2

theorem pow16 {x : Int} (h0 : 0 ≤ x) (h1 : x ≤ 16) : 1 ≤ (2 : Int) ^ (16 - x).toNat ∧ (2 : Int) ^ (16 - x).toNat ≤ 65536 := by
  have : (16 - x).toNat ≤ 16 := by omega
  generalize (16 - x).toNat = m at *
  have : m = 0 ∨ m = 1 ∨ m = 2 ∨ m = 3 ∨ m = 4 ∨ m = 5 ∨ m = 6 ∨ m = 7 ∨ m = 8 ∨ m = 9 ∨ m = 10 ∨ m = 11 ∨ m = 12 ∨ m = 13 ∨ m = 14 ∨ m = 15 ∨ m = 16 := by omega
  rcases this with rfl | rfl | rfl | rfl | rfl | rfl | rfl | rfl | rfl | rfl | rfl | rfl | rfl | rfl | rfl | rfl | rfl <;> decide
theorem roomAt_succ {l : List Int} {k : Nat} {x : Int} (h : l[k]? = some x) : roomAt l (k+1) = roomAt l k - cost x := by
  unfold roomAt; rw [take_snoc h]; simp only [List.map_append, List.map_cons, List.map_nil, List.sum_append_int, List.sum_cons, List.sum_nil]; omega
theorem any_succ {l : List Int} {k : Nat} {x : Int} (p : Int → Bool) (h : l[k]? = some x) : (l.take (k+1)).any p = ((l.take k).any p || p x) := by
  rw [take_snoc h]; simp
theorem bad_of {x : Int} (h : badLen x = false) : 0 ≤ x ∧ x ≤ 16 := by simp [badLen] at h; omega
theorem bad_not {x : Int} (h0 : 0 ≤ x) (h1 : x ≤ 16) : badLen x = false := by simp [badLen]; omega
theorem cost_bd {x : Int} (h0 : 0 ≤ x) (h1 : x ≤ 16) : 0 ≤ cost x ∧ cost x ≤ 65536 := by
  have := pow16 h0 h1
  unfold cost; split <;> omega
theorem roomAt_bd {l : List Int} (k : Nat) (hk : k ≤ l.length) (h : (l.take k).any badLen = false) : 65536 - 65536 * (k : Int) ≤ roomAt l k ∧ roomAt l k ≤ 65536 := by
  induction k with
  | zero => simp [roomAt]
  | succ k ih =>
    have hx : l[k]? = some l[k] := List.getElem?_eq_getElem (by omega)
    rw [any_succ _ hx, Bool.or_eq_false_iff] at h
    obtain ⟨h0, h1⟩ := bad_of h.2
    have := cost_bd h0 h1
    have := ih (by omega) h.1
    rw [roomAt_succ hx]
    omega
theorem any_true_of {l : List Int} {k : Nat} {x : Int} (p : Int → Bool) (h : l[k]? = some x) (hx : p x = true) : l.any p = true := by
  rw [List.any_eq_true]; exact ⟨x, List.mem_of_getElem? h, hx⟩
theorem any_all {l : List Int} {n : Nat} (hn : l.length = n) {p : Int → Bool} (h : (l.take n).any p = false) : l.any p = false := by
  rwa [List.take_of_length_le (by omega)] at h
theorem res_long {l : List Int} (h : 4096 < l.length) : roomRes l = (0, 3) := by unfold roomRes; rw [if_pos h]
theorem res_bad {l : List Int} (h : l.length ≤ 4096) (hb : l.any badLen = true) : roomRes l = (0, 2) := by unfold roomRes; rw [if_neg (by omega), if_pos hb]
theorem res_ok {l : List Int} (h : l.length ≤ 4096) (hb : l.any badLen = false) : roomRes l = (roomAt l l.length, 0) := by unfold roomRes; rw [if_neg (by omega), if_neg (by simp [hb])]

/-- how many of the first k lengths are j -/
def cnt (l : List Int) (j k : Nat) : Nat := (l.take k).count (j : Int)
theorem cnt_le (l : List Int) (j k : Nat) : cnt l j k ≤ k := Nat.le_trans List.count_le_length (by simp; omega)
theorem cnt_succ {l : List Int} {k : Nat} {x : Int} (j : Nat) (h : l[k]? = some x) : cnt l j (k+1) = cnt l j k + if x = j then 1 else 0 := by
  unfold cnt
  rw [take_snoc h]
  simp [List.count_append, List.count_singleton]
theorem cnt_zero (l : List Int) (j : Nat) : cnt l j 0 = 0 := by simp [cnt]
/-- the first code of each length -/
def first (l : List Int) : Nat → Nat
  | 0 => 0
  | 1 => 0
  | n+2 => 2 * (first l (n+1) + cnt l (n+1) l.length)
theorem first_succ (l : List Int) (m : Nat) (h : 1 ≤ m) : first l (m+1) = 2 * (first l m + cnt l m l.length) := by
  obtain ⟨k, rfl⟩ : ∃ k, m = k + 1 := ⟨m - 1, by omega⟩
  rfl
def codeAt (l : List Int) (i : Nat) : Int :=
  let x := l.getD i 0
  if 0 < x then ((first l x.toNat + cnt l x.toNat i : Nat) : Int) % 4294967296 else 0
def codesOf (l : List Int) : List Int := (List.range l.length).map (codeAt l)
end Go.Proofs.Ytpecemkjoklhfaa.Pfx
