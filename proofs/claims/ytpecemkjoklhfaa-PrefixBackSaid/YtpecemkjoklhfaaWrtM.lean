/-
  How bits lie in bytes, in plain Lean: what a writer holds.
-/
import Derived.Test.YtpecemkjoklhfaaBitsR
set_option linter.unusedVariables false
set_option linter.unusedSimpArgs false
namespace Go.Proofs.Ytpecemkjoklhfaa.Wrt
open Go.RowKit K Bits

theorem byte_fact : ∀ y : Fin 256, ∀ p : Fin 8, y.val / 2 ^ p.val % 2 = 0 → (y.val + 2 ^ p.val < 256 ∧ y.val ||| 2 ^ p.val = y.val + 2 ^ p.val ∧ ∀ r : Fin 8, (y.val + 2 ^ p.val) / 2 ^ r.val % 2 = if r = p then 1 else y.val / 2 ^ r.val % 2) := by decide +kernel
theorem place_inj (up : Bool) {i j : Nat} (h : i / 8 = j / 8) (hne : i ≠ j) : place up i ≠ place up j := by unfold place; split <;> omega
/-- the byte with one more bit -/
theorem byte_set {y x : Int} {p : Nat} (h0 : 0 ≤ y) (h1 : y < 256) (hp : p ≤ 7) (hx : x = 0 ∨ x = 1) (hz : y / 2 ^ p % 2 = 0) :
    0 ≤ y + x * 2 ^ p ∧ y + x * 2 ^ p < 256 ∧ 0 ≤ x * 2 ^ p ∧ x * 2 ^ p < 256 ∧ bits .or .u8 y (x * 2 ^ p) = y + x * 2 ^ p ∧ (y + x * 2 ^ p) / 2 ^ p % 2 = x ∧ ∀ r : Nat, r ≤ 7 → r ≠ p → (y + x * 2 ^ p) / 2 ^ r % 2 = y / 2 ^ r % 2 := by
  obtain ⟨n, rfl⟩ := Int.eq_ofNat_of_zero_le h0
  rcases hx with rfl | rfl
  · simp only [Int.zero_mul, Int.add_zero]
    refine ⟨h0, h1, by omega, by omega, ?_, hz, fun r _ _ => trivial⟩
    rw [u8_or _ _ h0 h1 (by omega) (by omega)]; simp
  · have e : ((1 : Int) * 2 ^ p) = ((2 ^ p : Nat) : Int) := by simp
    have hz' : n / 2 ^ p % 2 = 0 := by have := hz; exact_mod_cast this
    obtain ⟨f1, f2, f3⟩ := byte_fact ⟨n, by omega⟩ ⟨p, by omega⟩ hz'
    simp only [] at f1 f2 f3
    rw [e]
    have hp0 : 0 < 2 ^ p := Nat.pow_pos (by omega)
    generalize hP : 2 ^ p = P at *
    refine ⟨by omega, by omega, by omega, by omega, ?_, ?_, fun r hr hne => ?_⟩
    · rw [u8_or _ _ (by omega) (by omega) (by omega) (by omega)]; simp only [Int.toNat_natCast]; rw [f2]; rfl
    · have := f3 ⟨p, by omega⟩
      rw [if_pos rfl] at this
      simp only [] at this
      rw [hP] at this
      have e2 : (2 : Int) ^ p = ((2 ^ p : Nat) : Int) := by simp
      rw [e2, hP]
      exact_mod_cast this
    · have := f3 ⟨r, by omega⟩
      rw [if_neg (by intro h; injection h with h; exact hne h)] at this
      exact_mod_cast this
structure Pq (B : List Int) (up : Bool) (bs : List Int) : Prop where
  le : bs.length ≤ 8 * B.length
  wf : ∀ x ∈ B, 0 ≤ x ∧ x < 256
  bit : ∀ i, i < 8 * B.length → bitAt B up i = bs.getD i 0
/-- what a writer holds: its bytes, and the bits that were written -/
structure Pk (B : List Int) (up : Bool) (bs : List Int) : Prop where
  q : Pq B up bs
  lt : 8 * B.length < bs.length + 8
theorem Pk.nil (up : Bool) : Pk [] up [] := ⟨⟨by simp, (fun x hx => by cases hx), (fun i hi => by simp at hi)⟩, by simp⟩
theorem Pk.len {B : List Int} {up : Bool} {bs : List Int} (h : Pk B up bs) : B.length = (bs.length + 7) / 8 := by have := h.q.le; have := h.lt; omega
theorem Pq.grow {B : List Int} {up : Bool} {bs : List Int} (h : Pq B up bs) : Pq (B ++ [0]) up bs := by
  refine ⟨by rw [List.length_append]; have := h.le; omega, fun x hx => ?_, fun i hi => ?_⟩
  · rw [List.mem_append] at hx
    rcases hx with hx | hx
    · exact h.wf x hx
    · simp at hx; omega
  · rw [List.length_append] at hi
    simp only [List.length_cons, List.length_nil] at hi
    by_cases hl : i < 8 * B.length
    · rw [← h.bit i hl]; unfold bitAt
      rw [List.getD_eq_getElem?_getD, List.getD_eq_getElem?_getD, List.getElem?_append_left (by omega)]
    · have e : (B ++ [0]).getD (i / 8) 0 = 0 := by
        rw [List.getD_eq_getElem?_getD, List.getElem?_append_right (by omega), show i / 8 - B.length = 0 by omega]; rfl
      unfold bitAt
      rw [e, List.getD_eq_getElem?_getD, List.getElem?_eq_none (by have := h.le; omega)]
      simp
theorem Pq.put {B : List Int} {up : Bool} {bs : List Int} {x y : Int} (h : Pq B up bs) (hl : bs.length < 8 * B.length) (hx : x = 0 ∨ x = 1) (hy : B[bs.length / 8]? = some y) :
    y / 2 ^ place up bs.length % 2 = 0 ∧ 0 ≤ y ∧ y < 256 ∧ Pq (B.set (bs.length / 8) (y + x * 2 ^ place up bs.length)) up (bs ++ [x]) := by
  have hz : y / 2 ^ place up bs.length % 2 = 0 := by
    have := h.bit bs.length hl
    unfold bitAt at this
    rw [getD_of hy] at this
    rw [this, List.getD_eq_getElem?_getD, List.getElem?_eq_none (Nat.le_refl _)]; rfl
  have hw := h.wf y (List.mem_of_getElem? hy)
  obtain ⟨b1, b2, b3, b4, b5, b6, b7⟩ := byte_set hw.1 hw.2 (place_le up bs.length) hx hz
  have hin : bs.length / 8 < B.length := by omega
  refine ⟨hz, hw.1, hw.2, by rw [List.length_set, List.length_append]; simp; omega, fun u hu => ?_, fun i hi => ?_⟩
  · rcases List.mem_or_eq_of_mem_set hu with hu | hu
    · exact h.wf u hu
    · rw [hu]; exact ⟨b1, b2⟩
  · rw [List.length_set] at hi
    have hb := h.bit i hi
    unfold bitAt at hb ⊢
    have happ : (bs ++ [x]).getD i 0 = if i = bs.length then x else bs.getD i 0 := by
      rw [List.getD_eq_getElem?_getD, List.getElem?_append, List.getD_eq_getElem?_getD]
      by_cases h1 : i < bs.length
      · rw [if_pos h1, if_neg (by omega)]
      · rw [if_neg h1]
        by_cases h2 : i = bs.length
        · rw [if_pos h2, h2]; simp
        · rw [if_neg h2, List.getElem?_eq_none (by simp; omega), List.getElem?_eq_none (by omega)]
    rw [happ, List.getD_eq_getElem?_getD, List.getElem?_set]
    by_cases h8 : bs.length / 8 = i / 8
    · rw [if_pos h8, if_pos hin]
      simp only [Option.getD_some]
      by_cases hi2 : i = bs.length
      · rw [if_pos hi2, hi2]; exact b6
      · rw [if_neg hi2, b7 (place up i) (place_le up i) (place_inj up h8.symm hi2), ← hb, ← h8, getD_of hy]
    · rw [if_neg h8, if_neg (fun e => h8 (by rw [e])), ← hb, List.getD_eq_getElem?_getD]
/-- the bits of a number as Put writes them -/
def putV (up : Bool) (v : Int) (n : Nat) : List Int := (List.range n).map (fun i => v / 2 ^ (if up then n - 1 - i else i) % 2)
theorem putV_one (up : Bool) (v : Int) : putV up v 1 = [v % 2] := by
  cases up <;> simp [putV]
end Go.Proofs.Ytpecemkjoklhfaa.Wrt
