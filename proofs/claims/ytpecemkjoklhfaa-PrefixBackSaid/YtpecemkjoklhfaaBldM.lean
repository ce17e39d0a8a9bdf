/-
  What prefix.Build does, in plain Lean: packing coins; no program in sight.
-/
import Derived.Test.YtpecemkjoklhfaaPfxM
set_option linter.unusedVariables false
set_option linter.unusedSimpArgs false
namespace Go.Proofs.Ytpecemkjoklhfaa.Bld
open Go.RowKit K

abbrev PC := Int × List Int
def pairsA : List PC → List PC
  | a :: b :: t => (a.1 + b.1, a.2 ++ b.2) :: pairsA t
  | _ => []
def ownA (l : List Int) (k : Nat) : List PC := (List.range k).filterMap fun i => if 0 < l.getD i 0 then some (l.getD i 0, [(i : Int)]) else none
theorem ownA_succ {l : List Int} {k : Nat} {x : Int} (h : l[k]? = some x) : ownA l (k+1) = ownA l k ++ if 0 < x then [(x, [(k : Int)])] else [] := by
  unfold ownA
  rw [List.range_succ, List.filterMap_append]
  congr 1
  have := getD_of h 0
  simp only [List.filterMap_cons, List.filterMap_nil, this]
  split <;> simp_all
theorem ownA_mem {l : List Int} {k i : Nat} (hi : i < k) (h : 0 < l.getD i 0) : (l.getD i 0, [(i : Int)]) ∈ ownA l k := by
  simp only [ownA, List.mem_filterMap, List.mem_range]
  exact ⟨i, hi, by rw [if_pos h]⟩
theorem ownA_of {l : List Int} {k : Nat} {c : PC} (h : c ∈ ownA l k) : ∃ i, i < k ∧ 0 < l.getD i 0 ∧ c = (l.getD i 0, [(i : Int)]) := by
  simp only [ownA, List.mem_filterMap, List.mem_range] at h
  obtain ⟨i, hi, he⟩ := h
  split at he
  · rename_i h0; injection he with he; exact ⟨i, hi, h0, he.symm⟩
  · cases he
theorem ownA_one {l : List Int} {k : Nat} {c : PC} (h : ownA l k = [c]) : ∃ i0, i0 < k ∧ c.2 = [(i0 : Int)] ∧ ∀ i, i < k → (0 < l.getD i 0 ↔ i = i0) := by
  obtain ⟨i0, h1, h2, h3⟩ := ownA_of (l := l) (k := k) (c := c) (by rw [h]; simp)
  refine ⟨i0, h1, by rw [h3], fun i hi => ⟨fun h4 => ?_, fun e => by rw [e]; exact h2⟩⟩
  have := ownA_mem hi h4
  rw [h, List.mem_singleton, h3] at this
  injection this with _ this
  injection this with this
  omega
def Lt (a b : PC) : Prop := a.1 ≤ b.1
/-- the row at a level: level 0 is the coins themselves -/
def IsRow (own : List PC) : Nat → List PC → Prop
  | 0, R => R.Perm own ∧ R.Pairwise Lt
  | k+1, R => ∃ R0, IsRow own k R0 ∧ R.Perm (own ++ pairsA R0) ∧ R.Pairwise Lt
theorem pairsA_len (R : List PC) : (pairsA R).length = R.length / 2 := by
  induction R using pairsA.induct with
  | case1 a b t ih => simp only [pairsA, List.length_cons, ih]; omega
  | case2 R h =>
    match R, h with
    | [], _ => rfl
    | [a], _ => simp [pairsA]
    | a :: b :: t, h => exact absurd rfl (h a b t)
theorem pairsA_get (R : List PC) (j : Nat) (hj : 2 * j + 1 < R.length) : (pairsA R)[j]? = some ((R.getD (2 * j) (0, [])).1 + (R.getD (2 * j + 1) (0, [])).1, (R.getD (2 * j) (0, [])).2 ++ (R.getD (2 * j + 1) (0, [])).2) := by
  induction R using pairsA.induct generalizing j with
  | case1 a b t ih =>
    cases j with
    | zero => simp [pairsA]
    | succ j =>
      have := ih j (by simp only [List.length_cons] at hj; omega)
      rw [pairsA, List.getElem?_cons_succ, this, show 2 * (j + 1) = (2 * j) + 1 + 1 by omega]
      simp
  | case2 R h =>
    match R, h with
    | [], _ => simp at hj
    | [a], _ => simp at hj
    | a :: b :: t, h => exact absurd rfl (h a b t)
/-- what holds of each coin -/
def Good (N : Int) (k : Nat) (c : PC) : Prop := 1 ≤ c.1 ∧ c.1 ≤ 1073741824 * 2 ^ k ∧ c.2.length ≤ 2 ^ k ∧ ∀ s ∈ c.2, 0 ≤ s ∧ s < N
theorem Good.up {N : Int} {k : Nat} {c : PC} (h : Good N k c) : Good N (k+1) c := by
  obtain ⟨h1, h2, h3, h4⟩ := h
  have e : (2 : Int) ^ (k+1) = 2 * 2 ^ k := by rw [Int.pow_succ]; omega
  have e2 : (2 : Nat) ^ (k+1) = 2 * 2 ^ k := by rw [Nat.pow_succ]; omega
  have hp : (0 : Int) < 2 ^ k := Int.pow_pos (by omega)
  exact ⟨h1, by rw [e]; omega, by rw [e2]; omega, h4⟩
theorem pairsA_good {N : Int} {k : Nat} {R : List PC} (h : ∀ c ∈ R, Good N k c) : ∀ c ∈ pairsA R, Good N (k+1) c := by
  induction R using pairsA.induct with
  | case1 a b t ih =>
    intro c hc
    rw [pairsA, List.mem_cons] at hc
    rcases hc with rfl | hc
    · obtain ⟨a1, a2, a3, a4⟩ := h a (by simp)
      obtain ⟨b1, b2, b3, b4⟩ := h b (by simp)
      have e : (2 : Int) ^ (k+1) = 2 * 2 ^ k := by rw [Int.pow_succ]; omega
      have e2 : (2 : Nat) ^ (k+1) = 2 * 2 ^ k := by rw [Nat.pow_succ]; omega
      refine ⟨by simp only []; omega, by simp only []; rw [e]; omega, by simp only [List.length_append]; rw [e2]; omega, fun s hs => ?_⟩
      rw [List.mem_append] at hs
      rcases hs with hs | hs
      · exact a4 s hs
      · exact b4 s hs
    · exact ih (fun c hc => h c (by simp [hc])) c hc
  | case2 R hR =>
    intro c hc
    rw [pairsA] at hc
    · cases hc
    · exact hR
theorem IsRow.good {N : Int} {own : List PC} (h0 : ∀ c ∈ own, Good N 0 c) : ∀ (k : Nat) (R : List PC), IsRow own k R → ∀ c ∈ R, Good N k c := by
  intro k
  induction k with
  | zero => intro R h c hc; exact h0 c (h.1.mem_iff.1 hc)
  | succ k ih =>
    intro R ⟨R0, hR0, hp, _⟩ c hc
    have hc2 := hp.mem_iff.1 hc
    rw [List.mem_append] at hc2
    rcases hc2 with hc2 | hc2
    · have : ∀ j, Good N j c := fun j => by
        induction j with
        | zero => exact h0 c hc2
        | succ j ih => exact ih.up
      exact this _
    · exact pairsA_good (ih R0 hR0) c hc2
theorem ownA_good {l : List Int} (hl : ∀ x ∈ l, x ≤ 1073741824) : ∀ c ∈ ownA l l.length, Good l.length 0 c := by
  intro c hc
  simp only [ownA, List.mem_filterMap, List.mem_range] at hc
  obtain ⟨i, hi, he⟩ := hc
  split at he
  · rename_i h0
    injection he with he
    subst he
    have : l.getD i 0 ∈ l := by
      have : l[i]? = some l[i] := List.getElem?_eq_getElem hi
      rw [getD_of this]; exact List.getElem_mem hi
    have := hl _ this
    refine ⟨by omega, ?_, ?_, fun s hs => ?_⟩
    · show l.getD i 0 ≤ 1073741824 * 2 ^ 0
      rw [Int.pow_zero]; omega
    · simp
    · simp at hs; subst hs; omega
  · cases he
theorem IsRow.len_le {own : List PC} (h1 : 1 ≤ own.length) : ∀ (k : Nat) (R : List PC), IsRow own k R → own.length ≤ R.length ∧ R.length ≤ 2 * own.length - 1 := by
  intro k
  induction k with
  | zero => intro R h; rw [h.1.length_eq]; omega
  | succ k ih =>
    intro R ⟨R0, hR0, hp, _⟩
    rw [hp.length_eq, List.length_append, pairsA_len]
    have := ih R0 hR0
    omega
theorem IsRow.len_ge {own : List PC} (h1 : 1 ≤ own.length) : ∀ (k : Nat) (R : List PC), IsRow own k R → 2 * own.length - 1 - R.length = (own.length - 1) / 2 ^ k := by
  intro k
  induction k with
  | zero => intro R h; rw [h.1.length_eq]; simp; omega
  | succ k ih =>
    intro R ⟨R0, hR0, hp, _⟩
    rw [hp.length_eq, List.length_append, pairsA_len, Nat.pow_succ, ← Nat.div_div_eq_div_mul, ← ih R0 hR0]
    have := IsRow.len_le h1 k R0 hR0
    omega
theorem IsRow.enough {own : List PC} {k : Nat} {R : List PC} (h : IsRow own k R) (h1 : 1 ≤ own.length) (h2 : own.length ≤ 2 ^ (k+1)) : 2 * own.length - 2 ≤ R.length := by
  have := IsRow.len_ge h1 k R h
  have h3 : (own.length - 1) / 2 ^ k < 2 := by
    rw [Nat.div_lt_iff_lt_mul (Nat.pow_pos (by omega))]
    rw [Nat.pow_succ] at h2; omega
  omega
theorem ownA_len (l : List Int) (k : Nat) : (ownA l k).length ≤ k := by
  unfold ownA
  exact Nat.le_trans (List.length_filterMap_le _ _) (by simp)
/-- how often each symbol stands in the first coins -/
def occ (R : List PC) (M : Nat) : List Int := (R.take M).flatMap (·.2)
theorem occ_succ {R : List PC} {M : Nat} {c : PC} (h : R[M]? = some c) : occ R (M+1) = occ R M ++ c.2 := by
  unfold occ; rw [take_snoc h, List.flatMap_append]; simp
end Go.Proofs.Ytpecemkjoklhfaa.Bld
