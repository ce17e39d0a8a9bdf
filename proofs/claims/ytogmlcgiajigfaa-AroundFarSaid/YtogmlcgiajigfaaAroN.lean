/-
  Plain law: a pixel farther off than an operator looks makes no difference.
-/
import Derived.Test.YtogmlcgiajigfaaAroG
import Derived.Test.YtogmlcgiajigfaaAroJ
set_option linter.unusedVariables false
set_option linter.unusedSimpArgs false
namespace Go.Proofs.Ytogmlcgiajigfaa.Ard
open Go.RowKit K

theorem place_uniq {W a b x y : Nat} (ha : a < W) (hx : x < W) (h : b * W + a = y * W + x) : a = x ∧ b = y := by
  have h1 : (b * W + a) % W = a := by rw [Nat.mul_comm, Nat.mul_add_mod]; exact Nat.mod_eq_of_lt ha
  have h2 : (y * W + x) % W = x := by rw [Nat.mul_comm, Nat.mul_add_mod]; exact Nat.mod_eq_of_lt hx
  have e : a = x := by rw [← h1, h, h2]
  subst e
  have h3 : b * W = y * W := by omega
  exact ⟨rfl, Nat.eq_of_mul_eq_mul_right (by omega) h3⟩
theorem far_atF {W H x y k : Nat} {u v : Int} {pix l : List Int} (hW : 1 ≤ W) (hx : x < W) (hk : k < 4) (hl : ∀ t, t < 4 * (y * W + x) ∨ 4 * (y * W + x) + 4 ≤ t → l[t]? = pix[t]?)
    (h : clampN u (W - 1) = x → clampN v (H - 1) = y → False) : atF W H l u v k = atF W H pix u v k := by
  unfold atF
  have h1 := clampN_le u (W - 1)
  have hne : ¬ clampN v (H - 1) * W + clampN u (W - 1) = y * W + x := fun e => by
    obtain ⟨e1, e2⟩ := place_uniq (by omega) hx e
    exact h e1 e2
  generalize clampN v (H - 1) * W + clampN u (W - 1) = m at *
  generalize y * W + x = q at *
  rw [List.getD_eq_getElem?_getD, List.getD_eq_getElem?_getD, hl _ (by omega)]
theorem clamp_near {p d : Int} {top n : Nat} (h0 : 0 ≤ p) (h1 : p ≤ top) (hd : -(n : Int) ≤ d ∧ d ≤ n) : p - n ≤ (clampN (p + d) top : Int) ∧ (clampN (p + d) top : Int) ≤ p + n := by unfold clampN; omega
theorem far_win {W H x y k n p a b : Nat} {pix l : List Int} {r : Nat} (hW : 1 ≤ W) (hH : 1 ≤ H) (hx : x < W) (hk : k < 4) (hl : ∀ t, t < 4 * (y * W + x) ∨ 4 * (y * W + x) + 4 ≤ t → l[t]? = pix[t]?)
    (ha : a < W) (hb : b < H) (hn : n ≤ r) (hp : p ≤ r) (hfar : a > x + r ∨ (a : Int) < (x : Int) - r ∨ b > y + r ∨ (b : Int) < (y : Int) - r) : winF W H l a b n p k = winF W H pix a b n p k := by
  unfold winF
  simp only [List.flatMap]
  congr 1
  apply List.map_congr_left
  intro j hj
  apply List.map_congr_left
  intro i hi
  simp only [List.mem_range] at hi hj
  refine far_atF hW hx hk hl fun e1 e2 => ?_
  have h1 := clamp_near (p := (a : Int)) (d := (i : Int) - n) (top := W - 1) (n := n) (by omega) (by omega) (by omega)
  have h2 := clamp_near (p := (b : Int)) (d := (j : Int) - p) (top := H - 1) (n := p) (by omega) (by omega) (by omega)
  rw [show (a : Int) + ((i : Int) - n) = a - n + i by omega, e1] at h1
  rw [show (b : Int) + ((j : Int) - p) = b - p + j by omega, e2] at h2
  omega
theorem far_samp {W H x y k i a b : Nat} {pix l args : List Int} {r : Nat} (hi : i < 9) (hf : fitsB (bndF i) args = true) (hr : rxF i args = (r : Int)) (hW : 1 ≤ W) (hH : 1 ≤ H) (hx : x < W) (hk : k < 4) (hl : ∀ t, t < 4 * (y * W + x) ∨ 4 * (y * W + x) + 4 ≤ t → l[t]? = pix[t]?)
    (ha : a < W) (hb : b < H) (hfar : a > x + r ∨ (a : Int) < (x : Int) - r ∨ b > y + r ∨ (b : Int) < (y : Int) - r) : sampF i args W H l a b k = sampF i args W H pix a b k := by
  have hrx := rx_in hi hf
  have hry : (ryF i args).toNat ≤ r := by
    have : ryF i args ≤ rxF i args := by
      unfold ryF rxF
      unfold rxF at hrx
      split <;> (try split) <;> simp_all <;> omega
    omega
  have h1 : atF W H l a b k = atF W H pix a b k := far_atF hW hx hk hl fun e1 e2 => by
    have g1 := clampN_in (v := (a : Int)) (top := W - 1) (by omega) (by omega)
    have g2 := clampN_in (v := (b : Int)) (top := H - 1) (by omega) (by omega)
    omega
  have h2 := far_win (n := (rxF i args).toNat) (p := (ryF i args).toNat) hW hH hx hk hl ha hb (by omega) hry hfar
  unfold sampF
  rw [h1, h2]
end Go.Proofs.Ytogmlcgiajigfaa.Ard
