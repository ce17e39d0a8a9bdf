/-
  What the reference's table and its reading are, and that they agree with the decoder's reading; no program in sight.
-/
import Derived.Test.YtpecemkjoklhfaaPfxDM
set_option linter.unusedVariables false
set_option linter.unusedSimpArgs false
namespace Go.Proofs.Ytpecemkjoklhfaa.Ref
open Go.RowKit K Pfx

/-- does a code of k bits begin with the number v of n bits? -/
def moreK (l : List Int) (v : Int) (n k : Nat) : Bool :=
  decide (0 < cnt l k l.length) && (decide (v * 2 ^ (k - n) ≤ (first l k : Int) + cnt l k l.length - 1) && decide ((first l k : Int) ≤ v * 2 ^ (k - n) + 2 ^ (k - n) - 1))
def moreF (l : List Int) (v : Int) (n : Nat) : Nat → Nat → Bool
  | 0, _ => false
  | f+1, k => moreK l v n k || moreF l v n f (k+1)
def moreM (l : List Int) (v : Int) (n : Nat) : Bool := moreF l v n (16 - n) (n + 1)
def rnx (l : List Int) (bit : Nat → Int) (total : Nat) : Nat → Nat → Int → Nat → Int × Int × Nat
  | 0, _, _, at_ => (0, 32, at_)
  | f+1, n, v, at_ =>
    if total ≤ at_ then (0, 5, at_) else
    let v' := 2 * v + bit at_
    if (first l n : Int) ≤ v' ∧ v' < (first l n : Int) + cnt l n l.length then ((idx l n l.length).getD (v' - first l n).toNat 0, 0, at_ + 1)
    else if moreM l v' n = false then (0, 32, at_ + 1) else rnx l bit total f (n+1) v' (at_ + 1)
def anyM (l : List Int) : Bool := (List.range 16).any (fun j => decide (0 < cnt l (j+1) l.length))
def rnextM (l : List Int) (bit : Nat → Int) (total at_ : Nat) : Int × Int × Nat := if anyM l then rnx l bit total 16 1 0 at_ else (0, 32, at_)

theorem moreF_iff (l : List Int) (v : Int) (n : Nat) : ∀ f k, moreF l v n f k = true ↔ ∃ j, k ≤ j ∧ j < k + f ∧ moreK l v n j = true := by
  intro f
  induction f with
  | zero => intro k; simp [moreF]; omega
  | succ f ih =>
    intro k
    rw [moreF, Bool.or_eq_true, ih]
    constructor
    · rintro (h | ⟨j, h1, h2, h3⟩)
      · exact ⟨k, by omega, by omega, h⟩
      · exact ⟨j, by omega, by omega, h3⟩
    · rintro ⟨j, h1, h2, h3⟩
      by_cases e : j = k
      · subst e; exact .inl h3
      · exact .inr ⟨j, by omega, by omega, h3⟩
theorem moreM_iff (l : List Int) (v : Int) (n : Nat) : moreM l v n = true ↔ ∃ j, n < j ∧ j ≤ 16 ∧ moreK l v n j = true := by
  unfold moreM
  rw [moreF_iff]
  constructor
  · rintro ⟨j, h1, h2, h3⟩; exact ⟨j, by omega, by omega, h3⟩
  · rintro ⟨j, h1, h2, h3⟩; exact ⟨j, by omega, by omega, h3⟩
theorem first_ge (l : List Int) (a : Nat) (ha : 1 ≤ a) : ∀ k, ((first l a : Int) + cnt l a l.length) * 2 ^ (k + 1) ≤ (first l (a + k + 1) : Int) := by
  intro k
  induction k with
  | zero => rw [Nat.add_zero, first_succ l a ha]; push_cast; omega
  | succ k ih =>
    rw [Int.pow_succ, ← Int.mul_assoc, show a + (k + 1) + 1 = (a + k + 1) + 1 by omega, first_succ l (a + k + 1) (by omega)]
    push_cast
    omega
theorem deepB_spec (l : List Int) (m : Nat) : (∀ k, deepB l (m+1) < k → k ≤ m → cnt l k l.length = 0) ∧ (0 < deepB l (m+1) → 0 < cnt l (deepB l (m+1)) l.length) := by
  induction m with
  | zero => exact ⟨fun k h1 h2 => by omega, fun h => by simp [deepB] at h⟩
  | succ m ih =>
    rw [deepB_succ _ _ (by omega)]
    by_cases h : 0 < cnt l (m+1) l.length
    · rw [if_pos h]; exact ⟨fun k h1 h2 => by omega, fun _ => h⟩
    · rw [if_neg h]
      refine ⟨fun k h1 h2 => ?_, ih.2⟩
      by_cases e : k = m + 1
      · subst e; omega
      · exact ih.1 k h1 (by omega)
theorem deep17 (l : List Int) : deepB l 17 ≤ 16 ∧ (∀ k, deepB l 17 < k → k ≤ 16 → cnt l k l.length = 0) ∧ (0 < deepB l 17 → 0 < cnt l (deepB l 17) l.length) := ⟨deepB_lt l 16, deepB_spec l 16⟩
theorem pow_pos' (k : Nat) : (0 : Int) < 2 ^ k := Int.pow_pos (by omega)
/-- from 'v lies behind the codes of n bits' and 'v begins the last code': some length's codes are begun -/
theorem climb (l : List Int) (v : Int) (n : Nat) (hn : 1 ≤ n) : ∀ k, (first l n : Int) + cnt l n l.length ≤ v → ¬ (first l (n + k) : Int) + cnt l (n + k) l.length ≤ v * 2 ^ k → ∃ j, 1 ≤ j ∧ j ≤ k ∧ (first l (n + j) : Int) ≤ v * 2 ^ j ∧ v * 2 ^ j < (first l (n + j) : Int) + cnt l (n + j) l.length := by
  intro k h0
  induction k with
  | zero => intro h; exfalso; apply h; simpa using h0
  | succ k ih =>
    intro h
    by_cases hp : (first l (n + k) : Int) + cnt l (n + k) l.length ≤ v * 2 ^ k
    · refine ⟨k + 1, by omega, by omega, ?_, by omega⟩
      rw [show n + (k + 1) = (n + k) + 1 by omega, first_succ l (n + k) (by omega), Int.pow_succ, ← Int.mul_assoc]
      push_cast; omega
    · obtain ⟨j, h1, h2, h3⟩ := ih hp
      exact ⟨j, h1, by omega, h3⟩
theorem above_more (l : List Int) (v : Int) (n : Nat) (hn : 1 ≤ n) (hd : n ≤ deepB l 17) (h : (first l n : Int) + cnt l n l.length ≤ v) : (moreM l v n = false) ↔ aboveM l (deepB l 17) n ≤ v := by
  obtain ⟨hd16, s1, s2⟩ := deep17 l
  have hdc := s2 (by omega)
  generalize deepB l 17 = d at *
  have key : moreM l v n = true ↔ (n < d ∧ v * 2 ^ (d - n) < (first l d : Int) + cnt l d l.length) := by
    rw [moreM_iff]
    constructor
    · rintro ⟨j, h1, h2, h3⟩
      simp only [moreK, Bool.and_eq_true, decide_eq_true_eq] at h3
      obtain ⟨hc, hlo, -⟩ := h3
      have hjd : j ≤ d := by
        rcases Nat.lt_or_ge d j with e | e
        · have := s1 j e (by omega); omega
        · exact e
      refine ⟨by omega, ?_⟩
      by_cases e : j = d
      · subst e; omega
      · obtain ⟨k, rfl⟩ : ∃ k, d = j + k + 1 := ⟨d - j - 1, by omega⟩
        have hg := first_ge l j (by omega) k
        have hp := pow_pos' (k+1)
        rw [show j + k + 1 - n = (j - n) + (k + 1) by omega, Int.pow_add, ← Int.mul_assoc]
        have : v * 2 ^ (j - n) * 2 ^ (k + 1) < ((first l j : Int) + cnt l j l.length) * 2 ^ (k + 1) := Int.mul_lt_mul_of_pos_right (by omega) hp
        omega
    · rintro ⟨h1, h2⟩
      obtain ⟨k, rfl⟩ : ∃ k, d = n + k := ⟨d - n, by omega⟩
      rw [show n + k - n = k by omega] at h2
      obtain ⟨j, j1, j2, j3, j4⟩ := climb l v n hn k h (by omega)
      refine ⟨n + j, by omega, by omega, ?_⟩
      have hp := pow_pos' j
      simp only [moreK, Bool.and_eq_true, decide_eq_true_eq, show n + j - n = j by omega]
      omega
  by_cases e : d = n
  · subst e
    have : moreM l v d = false := by
      rw [← Bool.not_eq_true, key]; omega
    unfold aboveM
    rw [if_pos (Nat.le_refl _)]
    exact ⟨fun _ => by omega, fun _ => this⟩
  · rw [← Bool.not_eq_true, key]
    unfold aboveM
    rw [if_neg (by omega)]
    have hp := pow_pos' (d - n)
    have hq : v * 2 ^ (d - n) < (first l d : Int) + cnt l d l.length ↔ v ≤ ((first l d + cnt l d l.length : Nat) - 1 : Int) / 2 ^ (d - n) := by
      rw [Int.le_ediv_iff_mul_le hp]; push_cast; omega
    rw [hq]
    omega
theorem tabB_ext (l : List Int) (a : Nat) (ha : 1 ≤ a) : ∀ k, ∃ r, tabB l (a + k) = tabB l a ++ r := by
  intro k
  induction k with
  | zero => exact ⟨[], by simp⟩
  | succ k ih =>
    obtain ⟨r, hr⟩ := ih
    exact ⟨r ++ idx l (a + k) l.length, by rw [← Nat.add_assoc, tabB_succ l (a + k) (by omega), hr, List.append_assoc]⟩
theorem tab_idx (l : List Int) (n k : Nat) (h1 : 1 ≤ n) (h2 : n ≤ 16) (hk : k < cnt l n l.length) : (tabB l 17).getD (startB l n + k) 0 = (idx l n l.length).getD k 0 := by
  obtain ⟨r, hr⟩ := tabB_ext l (n+1) (by omega) (16 - n)
  rw [show n + 1 + (16 - n) = 17 by omega] at hr
  rw [hr, tabB_succ l n h1, List.getD_eq_getElem?_getD, List.getD_eq_getElem?_getD, List.append_assoc, List.getElem?_append_right (by unfold startB; omega)]
  have : startB l n + k - (tabB l n).length = k := by unfold startB; omega
  rw [this, List.getElem?_append_left (by rw [idx_len l n _ (Nat.le_refl _)]; exact hk)]
theorem nx_rnx (l : List Int) (bit : Nat → Int) (hbit : ∀ i, 0 ≤ bit i) (total : Nat) : ∀ f n v at_, 1 ≤ n → n + f = deepB l 17 → 0 ≤ v → (first l n : Int) ≤ 2 * v → nx l (deepB l 17) bit total (f+1) n v at_ = rnx l bit total (17 - n) n v at_ := by
  obtain ⟨hd16, -, -⟩ := deep17 l
  intro f
  induction f with
  | zero =>
    intro n v at_ h1 hf hv hfi
    obtain ⟨g, hg⟩ : ∃ g, 17 - n = g + 1 := ⟨16 - n, by omega⟩
    rw [hg, nx, rnx]
    by_cases ht : total ≤ at_
    · rw [if_pos ht, if_pos ht]
    · rw [if_neg ht, if_neg ht]
      have hb := hbit at_
      generalize hv' : 2 * v + bit at_ = v'
      by_cases hr : (first l n : Int) ≤ v' ∧ v' < (first l n : Int) + cnt l n l.length
      · simp only []
        rw [if_pos (by omega), if_pos hr, tab_idx l n _ h1 (by omega) (by omega)]
      · simp only []
        rw [if_neg (by omega), if_neg hr]
        have hm := above_more l v' n h1 (by omega) (by omega)
        have hab : aboveM l (deepB l 17) n ≤ v' := by unfold aboveM; rw [if_pos (by omega)]; omega
        rw [if_pos hab, if_pos (hm.2 hab)]
  | succ f ih =>
    intro n v at_ h1 hf hv hfi
    obtain ⟨g, hg⟩ : ∃ g, 17 - n = g + 1 := ⟨16 - n, by omega⟩
    rw [hg, nx, rnx]
    by_cases ht : total ≤ at_
    · rw [if_pos ht, if_pos ht]
    · rw [if_neg ht, if_neg ht]
      have hb := hbit at_
      generalize hv' : 2 * v + bit at_ = v'
      by_cases hr : (first l n : Int) ≤ v' ∧ v' < (first l n : Int) + cnt l n l.length
      · simp only []
        rw [if_pos (by omega), if_pos hr, tab_idx l n _ h1 (by omega) (by omega)]
      · simp only []
        rw [if_neg (by omega), if_neg hr]
        have hm := above_more l v' n h1 (by omega) (by omega)
        by_cases hab : aboveM l (deepB l 17) n ≤ v'
        · rw [if_pos hab, if_pos (hm.2 hab)]
        · rw [if_neg hab, if_neg (fun e => hab (hm.1 e))]
          have := ih (n+1) v' (at_+1) (by omega) (by omega) (by omega) (by rw [first_succ l n h1]; push_cast; omega)
          rw [this, show 17 - (n + 1) = g by omega]
theorem anyM_deep (l : List Int) : anyM l = decide (0 < deepB l 17) := by
  obtain ⟨hd16, s1, s2⟩ := deep17 l
  by_cases h : 0 < deepB l 17
  · rw [decide_eq_true h]
    unfold anyM
    rw [List.any_eq_true]
    refine ⟨deepB l 17 - 1, by simp; omega, ?_⟩
    rw [show deepB l 17 - 1 + 1 = deepB l 17 by omega]
    simpa using s2 h
  · rw [decide_eq_false h]
    unfold anyM
    rw [List.any_eq_false]
    intro j hj
    simp only [List.mem_range] at hj
    have := s1 (j+1) (by omega) (by omega)
    simp [this]
theorem next_eq (l : List Int) (bit : Nat → Int) (hbit : ∀ i, 0 ≤ bit i) (total at_ : Nat) : nextM l bit total at_ = rnextM l bit total at_ := by
  unfold nextM rnextM
  rw [anyM_deep]
  by_cases h : 0 < deepB l 17
  · rw [decide_eq_true h, if_pos rfl]
    obtain ⟨d, hd⟩ : ∃ d, deepB l 17 = d + 1 := ⟨deepB l 17 - 1, by omega⟩
    have := nx_rnx l bit hbit total d 1 0 at_ (by omega) (by omega) (by omega) (by simp [first])
    rw [hd] at this ⊢
    exact this
  · rw [decide_eq_false h]
    have : deepB l 17 = 0 := by omega
    rw [this]; rfl
end Go.Proofs.Ytpecemkjoklhfaa.Ref
