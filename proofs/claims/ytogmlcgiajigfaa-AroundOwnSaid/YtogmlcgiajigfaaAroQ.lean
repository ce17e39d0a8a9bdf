/-
  Plain law: sorting by insertion.
-/
import Derived.Test.YtogmlcgiajigfaaArdN
set_option linter.unusedVariables false
set_option linter.unusedSimpArgs false
namespace Go.Proofs.Ytogmlcgiajigfaa.Ard
open Go.RowKit K

/-- rising up to place i, but for the number at k, which is still carried down -/
def insB (l : List Int) (i k : Nat) : Prop := ∀ a b, a < b → b ≤ i → b ≠ k → l.getD a 0 ≤ l.getD b 0
/-- rising up to (not with) place i -/
def risB (l : List Int) (i : Nat) : Prop := ∀ a b, a < b → b < i → l.getD a 0 ≤ l.getD b 0
theorem ins_start {l : List Int} {i : Nat} (h : risB l i) : insB l i i := fun a b hab hb hne => h a b hab (by omega)
theorem ins_done {l : List Int} {i k : Nat} (h : insB l i k) (hk : k ≤ i) (he : k = 0 ∨ l.getD (k - 1) 0 ≤ l.getD k 0) : risB l (i + 1) := fun a b hab hb => by
  by_cases e : b = k
  · subst e
    rcases he with he | he
    · omega
    · by_cases e2 : a = b - 1
      · subst e2; exact he
      · exact Int.le_trans (h a (b - 1) (by omega) (by omega) (by omega)) he
  · exact h a b hab (by omega) e
theorem getD_set2 {l : List Int} {k : Nat} (x y : Int) (hk : 0 < k) (h : k < l.length) (a : Nat) : ((l.set k x).set (k - 1) y).getD a 0 = if a = k - 1 then y else if a = k then x else l.getD a 0 := by
  rw [List.getD_eq_getElem?_getD, List.getElem?_set, List.getElem?_set, List.length_set, List.getD_eq_getElem?_getD]
  by_cases h1 : a = k - 1
  · subst h1; rw [if_pos rfl, if_pos (by omega), if_pos rfl]; rfl
  · rw [if_neg (by omega), if_neg h1]
    by_cases h2 : a = k
    · subst h2; rw [if_pos rfl, if_pos h, if_pos rfl]; rfl
    · rw [if_neg (by omega), if_neg h2]
theorem ins_step {l : List Int} {i k : Nat} (h : insB l i k) (hk : 0 < k) (hki : k ≤ i) (hi : i < l.length) (hgt : l.getD k 0 < l.getD (k - 1) 0) : insB ((l.set k (l.getD (k - 1) 0)).set (k - 1) (l.getD k 0)) i (k - 1) := by
  intro a b hab hb hne
  rw [getD_set2 _ _ hk (by omega), getD_set2 _ _ hk (by omega), if_neg hne]
  by_cases e : b = k
  · rw [if_pos e]
    by_cases e1 : a = k - 1
    · rw [if_pos e1]; omega
    · rw [if_neg e1, if_neg (by omega)]
      exact h a (k - 1) (by omega) (by omega) (by omega)
  · rw [if_neg e]
    by_cases e1 : a = k - 1
    · rw [if_pos e1]
      exact h k b (by omega) hb e
    · rw [if_neg e1]
      by_cases e2 : a = k
      · rw [if_pos e2]
        exact h (k - 1) b (by omega) hb e
      · rw [if_neg e2]
        exact h a b hab hb e
theorem set2_perm {l : List Int} {k : Nat} (hk : 0 < k) (h : k < l.length) : ((l.set k (l.getD (k - 1) 0)).set (k - 1) (l.getD k 0)).Perm l := by
  have e1 : l.getD (k - 1) 0 = l[k - 1] := by rw [List.getD_eq_getElem?_getD, List.getElem?_eq_getElem (by omega)]; rfl
  have e2 : l.getD k 0 = l[k] := by rw [List.getD_eq_getElem?_getD, List.getElem?_eq_getElem h]; rfl
  rw [e1, e2]
  exact List.set_set_perm h (by omega)
theorem ris_sort {l l2 : List Int} (hp : l2.Perm l) (h : risB l2 l2.length) : l2 = sortF l := by
  have h1 : l2.Pairwise (· ≤ ·) := by
    rw [List.pairwise_iff_getElem]
    intro i j hi hj hij
    have := h i j hij hj
    rwa [List.getD_eq_getElem?_getD, List.getD_eq_getElem?_getD, List.getElem?_eq_getElem hi, List.getElem?_eq_getElem hj] at this
  have h2 : (sortF l).Pairwise (· ≤ ·) := by
    have := List.pairwise_mergeSort (le := fun x y : Int => decide (x ≤ y)) (fun a b c h1 h2 => by simp at *; omega) (fun a b => by simp; omega) l
    unfold sortF
    exact this.imp (fun h => by simpa using h)
  have h3 : l2.Perm (sortF l) := hp.trans (List.mergeSort_perm l _).symm
  exact h3.eq_of_pairwise (fun a b _ _ h1 h2 => Int.le_antisymm h1 h2) h1 h2
end Go.Proofs.Ytogmlcgiajigfaa.Ard
