/-
  What is written by the codes is read as the symbols: plain Lean, no program in sight.
-/
import Derived.Test.YtpecemkjoklhfaaRefM
import Derived.Test.YtpecemkjoklhfaaPfxB
set_option linter.unusedVariables false
set_option linter.unusedSimpArgs false
namespace Go.Proofs.Ytpecemkjoklhfaa.Bak
open Go.RowKit K Pfx Ref

/-- the numbers of m bits that the codes of at most m bits take -/
def taken (m : Nat) (l : List Int) : Int := (l.map (fun x => if 1 ≤ x ∧ x ≤ (m : Int) then (2 : Int) ^ ((m : Int) - x).toNat else 0)).sum
theorem taken_succ (m : Nat) (l : List Int) : taken (m + 1) l = 2 * taken m l + (l.count ((m + 1 : Nat) : Int) : Nat) := by
  unfold taken
  induction l with
  | nil => rfl
  | cons x l ih =>
    rw [List.map_cons, List.map_cons, List.sum_cons, List.sum_cons, ih, List.count_cons]
    by_cases e : x = ((m + 1 : Nat) : Int)
    · have e2 : (x == ((m + 1 : Nat) : Int)) = true := by simp [e]
      rw [e2, if_pos (by omega), if_neg (by omega), if_pos rfl, show (((m + 1 : Nat) : Int) - x).toNat = 0 by omega]
      push_cast; omega
    · have e2 : (x == ((m + 1 : Nat) : Int)) = false := by simpa using e
      rw [e2]
      by_cases h : 1 ≤ x ∧ x ≤ (m : Int)
      · rw [if_pos (by omega), if_pos h, if_neg (by simp), show (((m + 1 : Nat) : Int) - x).toNat = ((m : Int) - x).toNat + 1 by omega, Int.pow_succ]
        push_cast; omega
      · rw [if_neg (by omega), if_neg h, if_neg (by simp)]
        push_cast; omega
theorem first_taken (l : List Int) (m : Nat) : (first l (m + 1) : Int) + cnt l (m + 1) l.length = taken (m + 1) l := by
  induction m with
  | zero =>
    rw [taken_succ]
    have : taken 0 l = 0 := by
      unfold taken
      induction l with
      | nil => rfl
      | cons x l ih => rw [List.map_cons, List.sum_cons, ih, if_neg (by omega)]; rfl
    rw [this]
    simp [first, cnt]
  | succ m ih =>
    rw [taken_succ, ← ih, first_succ l (m + 1) (by omega)]
    unfold cnt
    rw [List.take_length]
    push_cast; omega
theorem cost_taken {l : List Int} (h : l.any badLen = false) : (l.map cost).sum = taken 16 l := by
  unfold taken
  congr 1
  refine List.map_congr_left fun x hx => ?_
  have := bad_of (by simpa using List.any_eq_false.1 h x hx)
  unfold cost
  by_cases h0 : 0 < x
  · rw [if_pos h0, if_pos (by omega)]; rfl
  · rw [if_neg h0, if_neg (by omega)]
theorem kraft {l : List Int} (h : checkedOf l = 0) {m : Nat} (m1 : 1 ≤ m) (m2 : m ≤ 16) : (first l m : Int) + cnt l m l.length ≤ 2 ^ m := by
  obtain ⟨-, hb, hr⟩ := checked_zero h
  unfold roomAt at hr
  rw [List.take_length, cost_taken hb] at hr
  have h16 := first_taken l 15
  rw [show 15 + 1 = 16 from rfl] at h16
  by_cases e : m = 16
  · subst e
    have : (2 : Int) ^ 16 = 65536 := by decide
    omega
  · obtain ⟨d, hd⟩ : ∃ d, 16 = m + d + 1 := ⟨15 - m, by omega⟩
    have hg := first_ge l m m1 d
    rw [← hd] at hg
    have hp : (0 : Int) < 2 ^ (d + 1) := Int.pow_pos (by omega)
    have e2 : (2 : Int) ^ m * 2 ^ (d + 1) = 65536 := by rw [← Int.pow_add, show m + (d + 1) = 16 by omega]; decide
    have : ((first l m : Int) + cnt l m l.length) * 2 ^ (d + 1) ≤ 2 ^ m * 2 ^ (d + 1) := by rw [e2]; omega
    exact Int.le_of_mul_le_mul_right this hp
theorem code_of {l : List Int} {i : Nat} {x : Int} (hl : l.length ≤ 4096) (hx : l[i]? = some x) (h0 : 0 < x) (h1 : x ≤ 16) : codeAt l i = (first l x.toNat : Int) + cnt l x.toNat i := by
  have hf := first_le l x.toNat (by omega) hl
  have hi : i < l.length := by
    rcases Nat.lt_or_ge i l.length with h | h
    · exact h
    · rw [List.getElem?_eq_none h] at hx; cases hx
  have hc := cnt_le l x.toNat i
  unfold codeAt
  rw [getD_of hx]
  simp only []
  rw [if_pos h0]
  rw [Int.emod_eq_of_lt (by omega) (by omega)]; push_cast; rfl
theorem idx_ext (l : List Int) (m a : Nat) : ∀ k, a + k ≤ l.length → ∃ r, idx l m (a + k) = idx l m a ++ r := by
  intro k
  induction k with
  | zero => intro _; exact ⟨[], by simp⟩
  | succ k ih =>
    intro h
    obtain ⟨r, hr⟩ := ih (by omega)
    have hx : l[a + k]? = some l[a + k] := List.getElem?_eq_getElem (by omega)
    exact ⟨r ++ _, by rw [← Nat.add_assoc, idx_succ m hx, hr, List.append_assoc]⟩
theorem idx_get {l : List Int} {m s : Nat} {x : Int} (hx : l[s]? = some x) (he : x = m) : (idx l m l.length).getD (cnt l m s) 0 = s := by
  have hs : s < l.length := by
    rcases Nat.lt_or_ge s l.length with h | h
    · exact h
    · rw [List.getElem?_eq_none h] at hx; cases hx
  obtain ⟨r, hr⟩ := idx_ext l m (s + 1) (l.length - (s + 1)) (by omega)
  rw [show s + 1 + (l.length - (s + 1)) = l.length by omega, idx_succ m hx, if_pos he] at hr
  rw [hr, List.getD_eq_getElem?_getD, List.append_assoc, List.getElem?_append_right (by rw [idx_len l m s (by omega)]; exact Nat.le_refl _), idx_len l m s (by omega), Nat.sub_self]
  rfl
theorem cnt_lt {l : List Int} {m s : Nat} {x : Int} (hx : l[s]? = some x) (he : x = m) : cnt l m s + 1 ≤ cnt l m l.length := by
  have hs : s < l.length := by
    rcases Nat.lt_or_ge s l.length with h | h
    · exact h
    · rw [List.getElem?_eq_none h] at hx; cases hx
  have := cnt_succ m hx
  rw [if_pos he] at this
  rw [← this]
  unfold cnt
  exact List.Sublist.count_le _ (List.take_sublist_take_left (by omega))
/-- the bits of a symbol's code -/
def codeBits (l : List Int) (s : Nat) : List Int := (List.range (l.getD s 0).toNat).map (fun j => codeAt l s / 2 ^ ((l.getD s 0).toNat - 1 - j) % 2)
theorem codeBits_len (l : List Int) (s : Nat) : (codeBits l s).length = (l.getD s 0).toNat := by simp [codeBits]
theorem walk {l : List Int} (hc : checkedOf l = 0) {s L : Nat} (hs : l[s]? = some (L : Int)) (h1 : 1 ≤ L) (h2 : L ≤ 16) (bit : Nat → Int) (total at_ : Nat) (hb : ∀ j, j < L → bit (at_ + j) = codeAt l s / 2 ^ (L - 1 - j) % 2) (ht : at_ + L ≤ total) :
    ∀ k n, n + k = L → 1 ≤ n → rnx l bit total (17 - n) n (codeAt l s / 2 ^ (k + 1)) (at_ + (n - 1)) = ((s : Int), 0, at_ + L) := by
  have hshort := (checked_zero hc).1
  have hcode := code_of hshort hs (by omega) (by omega)
  rw [show ((L : Int)).toNat = L by omega] at hcode
  have hlt := cnt_lt (m := L) hs rfl
  intro k
  induction k with
  | zero =>
    intro n hn n1
    obtain rfl : n = L := by omega
    obtain ⟨g, hg⟩ : ∃ g, 17 - n = g + 1 := ⟨16 - n, by omega⟩
    rw [hg, rnx, if_neg (by omega)]
    have hbit := hb (n - 1) (by omega)
    rw [show n - 1 - (n - 1) = 0 by omega, Int.pow_zero, Int.ediv_one] at hbit
    have hv : 2 * (codeAt l s / 2 ^ (0 + 1)) + bit (at_ + (n - 1)) = codeAt l s := by
      rw [hbit, Int.pow_succ, Int.pow_zero]; omega
    simp only []
    rw [hv, if_pos (by rw [hcode]; omega), hcode]
    rw [show ((first l n : Int) + (cnt l n s : Nat) - (first l n : Int)).toNat = cnt l n s by omega, idx_get hs rfl]
    simp only [Prod.mk.injEq, true_and]
    omega
  | succ k ih =>
    intro n hn n1
    obtain ⟨g, hg⟩ : ∃ g, 17 - n = g + 1 := ⟨16 - n, by omega⟩
    rw [hg, rnx, if_neg (by omega)]
    have hbit := hb (n - 1) (by omega)
    rw [show L - 1 - (n - 1) = k + 1 by omega] at hbit
    have hp : (0 : Int) < 2 ^ (k + 1) := Int.pow_pos (by omega)
    have hv : 2 * (codeAt l s / 2 ^ (k + 1 + 1)) + bit (at_ + (n - 1)) = codeAt l s / 2 ^ (k + 1) := by
      rw [hbit, Int.pow_succ 2 (k + 1), ← Int.ediv_ediv_of_nonneg (by omega)]
      omega
    simp only []
    rw [hv]
    have hge : (first l n : Int) + cnt l n l.length ≤ codeAt l s / 2 ^ (k + 1) := by
      have := first_ge l n n1 k
      rw [show n + k + 1 = L by omega] at this
      rw [Int.le_ediv_iff_mul_le hp]
      omega
    rw [if_neg (by omega)]
    have hm : moreM l (codeAt l s / 2 ^ (k + 1)) n = true := by
      rw [moreM_iff]
      refine ⟨L, by omega, h2, ?_⟩
      have e : L - n = k + 1 := by omega
      have hd := Int.mul_ediv_add_emod (codeAt l s) (2 ^ (k + 1))
      have hm0 := Int.emod_nonneg (codeAt l s) (b := 2 ^ (k + 1)) (by omega)
      have hm1 := Int.emod_lt_of_pos (codeAt l s) hp
      rw [Int.mul_comm] at hd
      simp only [moreK, Bool.and_eq_true, decide_eq_true_eq, e]
      generalize codeAt l s / 2 ^ (k + 1) * 2 ^ (k + 1) = q at *
      generalize codeAt l s % 2 ^ (k + 1) = r at *
      generalize (2 : Int) ^ (k + 1) = P at *
      omega
    rw [if_neg (by rw [hm]; simp)]
    have := ih (n + 1) (by omega) (by omega)
    rw [show 17 - (n + 1) = g by omega, show at_ + (n + 1 - 1) = at_ + (n - 1) + 1 by omega] at this
    exact this
/-- a code's bits are read as its symbol -/
theorem decode {l : List Int} (hc : checkedOf l = 0) {s : Nat} {x : Int} (hs : l[s]? = some x) (h0 : x ≠ 0) (bit : Nat → Int) (hbit : ∀ i, 0 ≤ bit i) (total at_ : Nat)
    (hb : ∀ j, j < x.toNat → bit (at_ + j) = (codeBits l s).getD j 0) (ht : at_ + x.toNat ≤ total) : nextM l bit total at_ = ((s : Int), 0, at_ + x.toNat) := by
  obtain ⟨hshort, hbad, -⟩ := checked_zero hc
  have hx := len_of hbad hs
  obtain ⟨L, rfl⟩ : ∃ L : Nat, x = L := ⟨x.toNat, by omega⟩
  have hcode := code_of hshort hs (by omega) (by omega)
  simp only [Int.toNat_natCast] at *
  have hlt := cnt_lt (m := L) hs rfl
  have hk := kraft hc (m := L) (by omega) (by omega)
  rw [next_eq l bit hbit]
  have hany : anyM l = true := by
    unfold anyM
    rw [List.any_eq_true]
    exact ⟨L - 1, by rw [List.mem_range]; omega, by rw [show L - 1 + 1 = L by omega]; simp; omega⟩
  unfold rnextM
  rw [hany, if_pos rfl]
  have hz : codeAt l s / 2 ^ (L - 1 + 1) = 0 := by
    rw [show L - 1 + 1 = L by omega, hcode]
    exact Int.ediv_eq_zero_of_lt (by omega) (by omega)
  have := walk hc hs (by omega) (by omega) bit total at_ (fun j hj => by
    rw [hb j hj]; unfold codeBits
    rw [getD_of hs, List.getD_eq_getElem?_getD, List.getElem?_map, List.getElem?_range (by simpa using hj)]
    simp) ht (L - 1) 1 (by omega) (by omega)
  rw [hz] at this
  simpa using this
end Go.Proofs.Ytpecemkjoklhfaa.Bak
