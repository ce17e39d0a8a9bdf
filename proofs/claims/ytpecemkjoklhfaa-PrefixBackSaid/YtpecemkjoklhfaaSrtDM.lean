/-
  What merging does, in plain Lean: no program in sight.
-/
import Derived.Test.YtpecemkjoklhfaaSrtC
set_option linter.unusedVariables false
set_option linter.unusedSimpArgs false
namespace Go.Proofs.Ytpecemkjoklhfaa.Srt
open Go.RowKit K

/-- coin a is moved right to place k -/
def mvr (f : Nat → Coin) (a k : Nat) : Nat → Coin := fun p => if a ≤ p ∧ p < k then f (p + 1) else if p = k then f a else f p
theorem mvr_zero (f : Nat → Coin) (a : Nat) : mvr f a a = f := by
  funext p; unfold mvr; rw [if_neg (by omega)]; split
  · rename_i h; rw [h]
  · rfl
theorem mvr_succ (f : Nat → Coin) (a k : Nat) (h : a ≤ k) : swp (mvr f a k) k (k+1) = mvr f a (k+1) := by
  funext p; unfold swp upd mvr
  by_cases h1 : p = k + 1
  · subst h1; rw [if_pos rfl, if_neg (by omega), if_pos rfl, if_neg (by omega), if_pos rfl]
  · rw [if_neg h1]
    by_cases h2 : p = k
    · subst h2; rw [if_pos rfl, if_neg (by omega), if_neg (by omega), if_pos (by omega)]
    · rw [if_neg h2]
      by_cases h3 : a ≤ p ∧ p < k
      · rw [if_pos h3, if_pos (by omega)]
      · rw [if_neg h3, if_neg h2, if_neg (by omega), if_neg h1]
/-- coin m is moved left to place k -/
def mvl (f : Nat → Coin) (m k : Nat) : Nat → Coin := fun p => if k < p ∧ p ≤ m then f (p - 1) else if p = k then f m else f p
theorem mvl_zero (f : Nat → Coin) (m : Nat) : mvl f m m = f := by
  funext p; unfold mvl; rw [if_neg (by omega)]; split
  · rename_i h; rw [h]
  · rfl
theorem mvl_succ (f : Nat → Coin) (m k : Nat) (h : k + 1 ≤ m) : swp (mvl f m (k+1)) (k+1) k = mvl f m k := by
  funext p; unfold swp upd mvl
  by_cases h1 : p = k
  · subst h1; rw [if_pos rfl, if_neg (by omega), if_pos rfl, if_neg (by omega), if_pos rfl]
  · rw [if_neg h1]
    by_cases h2 : p = k + 1
    · subst h2; rw [if_pos rfl, if_neg (by omega), if_neg (by omega), if_pos (by omega)]; congr 1
    · rw [if_neg h2]
      by_cases h3 : k + 1 < p ∧ p ≤ m
      · rw [if_pos h3, if_pos (by omega)]
      · rw [if_neg h3, if_neg h2, if_neg (by omega), if_neg h1]
theorem mvr_sorted {f : Nat → Coin} {a i b : Nat} (hi : a + 1 ≤ i) (hib : i ≤ b) (h1 : ∀ p, a + 1 ≤ p → p < i → (f p).w < (f a).w) (h2 : ∀ p, i ≤ p → p < b → (f a).w ≤ (f p).w) (hS : Srtd f (a+1) b) : Srtd (mvr f a (i - 1)) a b := by
  intro p q k1 k2 k3
  unfold mvr
  by_cases p1 : p < i - 1
  · rw [if_pos (by omega)]
    by_cases q1 : q < i - 1
    · rw [if_pos (by omega)]; exact hS _ _ (by omega) (by omega) (by omega)
    · rw [if_neg (by omega)]
      by_cases q2 : q = i - 1
      · rw [if_pos q2]; exact Int.le_of_lt (h1 _ (by omega) (by omega))
      · rw [if_neg q2]; exact hS _ _ (by omega) (by omega) (by omega)
  · rw [if_neg (by omega), if_neg (by omega : ¬ (a ≤ q ∧ q < i - 1))]
    by_cases p2 : p = i - 1
    · rw [if_pos p2]
      by_cases q2 : q = i - 1
      · rw [if_pos q2]; exact Int.le_refl _
      · rw [if_neg q2]; exact h2 _ (by omega) (by omega)
    · rw [if_neg p2, if_neg (by omega)]; exact hS _ _ (by omega) (by omega) (by omega)
theorem mvl_sorted {f : Nat → Coin} {a i m : Nat} (hi : a ≤ i) (him : i ≤ m) (h1 : ∀ p, a ≤ p → p < i → (f p).w ≤ (f m).w) (h2 : ∀ p, i ≤ p → p < m → (f m).w < (f p).w) (hS : Srtd f a m) : Srtd (mvl f m i) a (m+1) := by
  intro p q k1 k2 k3
  unfold mvl
  by_cases q1 : i < q
  · rw [if_pos (by omega : i < q ∧ q ≤ m)]
    by_cases p1 : i < p
    · rw [if_pos (by omega)]; exact hS _ _ (by omega) (by omega) (by omega)
    · rw [if_neg (by omega)]
      by_cases p2 : p = i
      · rw [if_pos p2]; exact Int.le_of_lt (h2 _ (by omega) (by omega))
      · rw [if_neg p2]; exact hS _ _ (by omega) (by omega) (by omega)
  · rw [if_neg (by omega : ¬ (i < q ∧ q ≤ m)), if_neg (by omega : ¬ (i < p ∧ p ≤ m))]
    by_cases q2 : q = i
    · rw [if_pos q2]
      by_cases p2 : p = i
      · rw [if_pos p2]; exact Int.le_refl _
      · rw [if_neg p2]; exact h1 _ (by omega) (by omega)
    · rw [if_neg q2, if_neg (by omega)]; exact hS _ _ (by omega) (by omega) (by omega)

theorem rot_triv (f : Nat → Coin) (s m e : Nat) (h : ¬ (s < m ∧ m < e)) (h1 : s ≤ m) (h2 : m ≤ e) : rot f s m e = f := by
  funext k; unfold rot
  by_cases h3 : s = m
  · subst h3
    by_cases h4 : s ≤ k ∧ k < s + (e - s)
    · rw [if_pos h4, Nat.sub_self, Nat.add_zero]
    · rw [if_neg h4, if_neg (by omega)]
  · obtain rfl : m = e := by omega
    rw [if_neg (by omega)]
    split
    · rw [Nat.sub_self, Nat.sub_zero]
    · rfl
/-- what the search for the place of the symmetric cut has found -/
structure Cut (f : Nat → Coin) (a m b mid s : Nat) : Prop where
  mid1 : mid = (a + b) / 2
  lo : (if mid < m then mid + m - b else a) ≤ s
  hi : s ≤ (if mid < m then mid else m)
  left : (if mid < m then mid + m - b else a) < s → (f (s - 1)).w ≤ (f (mid + m - s)).w
  right : s < (if mid < m then mid else m) → (f (mid + m - 1 - s)).w < (f s).w
theorem Cut.bounds {f : Nat → Coin} {a m b mid s : Nat} (h : Cut f a m b mid s) (h1 : a < m) (h2 : m < b) : a ≤ s ∧ s ≤ m ∧ s ≤ mid ∧ m ≤ mid + m - s ∧ mid ≤ mid + m - s ∧ mid + m - s ≤ b ∧ a < mid ∧ mid < b ∧ s + (mid + m - s - m) = mid := by
  have e := h.mid1
  have l := h.lo
  have r := h.hi
  split at l
  · rw [if_pos (by assumption)] at r; omega
  · rw [if_neg (by assumption)] at r; omega
theorem Cut.facts {f : Nat → Coin} {a m b mid s : Nat} (h : Cut f a m b mid s) (h1 : a < m) (h2 : m < b) (hL : Srtd f a m) (hR : Srtd f m b) :
    Srtd (rot f s m (mid + m - s)) a s ∧ Srtd (rot f s m (mid + m - s)) s mid ∧ Srtd (rot f s m (mid + m - s)) mid (mid + m - s) ∧ Srtd (rot f s m (mid + m - s)) (mid + m - s) b ∧
    ∀ p q, a ≤ p → p < mid → mid ≤ q → q < b → (rot f s m (mid + m - s) p).w ≤ (rot f s m (mid + m - s) q).w := by
  obtain ⟨b1, b2, b3, b4, b5, b6, b7, b8, b9⟩ := h.bounds h1 h2
  have r1 : ∀ k, k < s → rot f s m (mid + m - s) k = f k := fun k hk => by unfold rot; rw [if_neg (by omega), if_neg (by omega)]
  have r2 : ∀ k, s ≤ k → k < mid → rot f s m (mid + m - s) k = f (k + (m - s)) := fun k hk1 hk2 => by unfold rot; rw [if_pos (by omega)]
  have r3 : ∀ k, mid ≤ k → k < mid + m - s → rot f s m (mid + m - s) k = f (k - (mid + m - s - m)) := fun k hk1 hk2 => by unfold rot; rw [if_neg (by omega), if_pos (by omega)]
  have r4 : ∀ k, mid + m - s ≤ k → rot f s m (mid + m - s) k = f k := fun k hk => by unfold rot; rw [if_neg (by omega), if_neg (by omega)]
  refine ⟨fun p q k1 k2 k3 => ?_, fun p q k1 k2 k3 => ?_, fun p q k1 k2 k3 => ?_, fun p q k1 k2 k3 => ?_, fun p q k1 k2 k3 k4 => ?_⟩
  · rw [r1 p (by omega), r1 q (by omega)]; exact hL _ _ k1 k2 (by omega)
  · rw [r2 p k1 (by omega), r2 q (by omega) k3]; exact hR _ _ (by omega) (by omega) (by omega)
  · rw [r3 p k1 (by omega), r3 q (by omega) k3]; exact hL _ _ (by omega) (by omega) (by omega)
  · rw [r4 p k1, r4 q (by omega)]; exact hR _ _ (by omega) (by omega) (by omega)
  · have hl := h.left
    have hr := h.right
    by_cases hp : p < s
    · rw [r1 p hp]
      by_cases hq : q < mid + m - s
      · rw [r3 q k3 hq]; exact hL _ _ (by omega) (by omega) (by omega)
      · rw [r4 q (by omega)]
        have hlo : (if mid < m then mid + m - b else a) < s := by split <;> omega
        have x1 := hl hlo
        have x2 := hL p (s - 1) (by omega) (by omega) (by omega)
        have x3 := hR (mid + m - s) q (by omega) (by omega) (by omega)
        omega
    · rw [r2 p (by omega) k2]
      by_cases hq : q < mid + m - s
      · rw [r3 q k3 hq]
        have hhi : s < (if mid < m then mid else m) := by split <;> omega
        have x1 := hr hhi
        have x2 := hR (p + (m - s)) (mid + m - 1 - s) (by omega) (by omega) (by omega)
        have x3 := hL s (q - (mid + m - s - m)) (by omega) (by omega) (by omega)
        omega
      · rw [r4 q (by omega)]; exact hR _ _ (by omega) (by omega) (by omega)
/-- two halves, each of them sorted anew -/
theorem halves_sorted {F f1 f2 : Nat → Coin} {a mid b : Nat} (h1 : a ≤ mid) (h2 : mid ≤ b) (p1 : Pm a mid F f1) (s1 : Srtd f1 a mid) (p2 : Pm mid b f1 f2) (s2 : Srtd f2 mid b)
    (hx : ∀ p q, a ≤ p → p < mid → mid ≤ q → q < b → (F p).w ≤ (F q).w) : Srtd f2 a b := by
  intro p q k1 k2 k3
  by_cases hq : q < mid
  · rw [p2.off (i := p) (by omega), p2.off (i := q) (by omega)]; exact s1 _ _ k1 k2 hq
  · by_cases hp : mid ≤ p
    · exact s2 _ _ hp k2 k3
    · rw [p2.off (i := p) (by omega)]
      obtain ⟨x, x1, x2, x3⟩ := p1.from (i := p) k1 (by omega)
      obtain ⟨y, y1, y2, y3⟩ := p2.from (i := q) (by omega) k3
      rw [x3, y3, p1.off (i := y) (by omega)]
      exact hx _ _ x1 x2 y1 y2
end Go.Proofs.Ytpecemkjoklhfaa.Srt
