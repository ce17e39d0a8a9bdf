/-
  Plain law: an image of one colour, by means, middles, ends, sharpening and edges.
-/
import Derived.Test.YtogmlcgiajigfaaAroG
import Derived.Test.YtogmlcgiajigfaaAroJ
set_option linter.unusedVariables false
set_option linter.unusedSimpArgs false
namespace Go.Proofs.Ytogmlcgiajigfaa.Ard
open Go.RowKit K

theorem fillL_at (r g b a : Int) : ∀ n m k, m < n → k < 4 → (fillL [r, g, b, a] n)[4 * m + k]? = [r, g, b, a][k]? := by
  intro n
  induction n with
  | zero => intro m k hm; omega
  | succ n ih =>
    intro m k hm hk
    rw [fillL_succ]
    by_cases h : m < n
    · rw [List.getElem?_append_left (by rw [fillL_len]; omega)]
      exact ih m k h hk
    · obtain rfl : m = n := by omega
      rw [List.getElem?_append_right (by rw [fillL_len]; omega), fillL_len, Nat.add_sub_cancel_left]
theorem flat_atF {W H : Nat} (r g b a : Int) (x y : Int) {k : Nat} (hW : 1 ≤ W) (hH : 1 ≤ H) (hk : k < 4) : atF W H (fillL [r, g, b, a] (W * H)) x y k = [r, g, b, a].getD k 0 := by
  unfold atF
  have h1 := clampN_le x (W - 1)
  have h2 := clampN_le y (H - 1)
  have h3 : clampN y (H - 1) * W + clampN x (W - 1) < W * H := by
    have := place_in (W := W) (H := H) (a := clampN x (W - 1)) (b := clampN y (H - 1)) (k := 0) (by omega) (by omega) (by omega)
    rw [Nat.mul_assoc] at this
    omega
  rw [List.getD_eq_getElem?_getD, fillL_at r g b a _ _ _ h3 hk, List.getD_eq_getElem?_getD]
theorem flat_win {W H : Nat} (r g b a : Int) (x y : Int) (n p : Nat) {k : Nat} (hW : 1 ≤ W) (hH : 1 ≤ H) (hk : k < 4) :
    winF W H (fillL [r, g, b, a] (W * H)) x y n p k = List.replicate ((2 * p + 1) * (2 * n + 1)) ([r, g, b, a].getD k 0) := by
  refine List.eq_replicate_iff.2 ⟨winF_len _ _ _ _ _ _ _ _, fun v hv => ?_⟩
  unfold winF at hv
  rw [List.mem_flatMap] at hv
  obtain ⟨j, -, hv⟩ := hv
  rw [List.mem_map] at hv
  obtain ⟨i, -, rfl⟩ := hv
  exact flat_atF r g b a _ _ hW hH hk
theorem rep_sum (v : Int) : ∀ n, sumK (List.replicate n v) n = (n : Int) * v := by
  intro n
  unfold sumK
  rw [List.take_of_length_le (by simp)]
  induction n with
  | zero => simp
  | succ n ih => rw [List.replicate_succ, List.sum_cons, ih]; push_cast; rw [Int.add_mul, Int.one_mul]; omega
theorem rep_mean (v : Int) {n : Nat} (h : 0 < n) : ((n : Int) * v + (n : Int) / 2) / (n : Int) = v := by
  rw [Int.add_comm, Int.add_mul_ediv_left _ _ (by omega)]
  have : (n : Int) / 2 / n = 0 := Int.ediv_eq_zero_of_lt (by omega) (by omega)
  omega
theorem fold_min (v : Int) : ∀ n, (List.replicate n v).foldl min v = v := by
  intro n
  induction n with
  | zero => rfl
  | succ n ih => rw [List.replicate_succ, List.foldl_cons, Int.min_self, ih]
theorem fold_max (v : Int) : ∀ n, (List.replicate n v).foldl max v = v := by
  intro n
  induction n with
  | zero => rfl
  | succ n ih => rw [List.replicate_succ, List.foldl_cons, Int.max_self, ih]
theorem rep_get (v : Int) {n i : Nat} (h : i < n) : (List.replicate n v).getD i 0 = v := by
  rw [List.getD_eq_getElem?_getD, List.getElem?_replicate, if_pos h]; rfl
theorem do_flat {i n : Nat} (v : Int) {m : Nat} (hi : i = 1 ∨ i = 2 ∨ i = 5 ∨ i = 6 ∨ i = 7 ∨ i = 8) (hm : 0 < m) (h9 : i = 2 → m = 9) : doF i [(n : Int)] (List.replicate m v) v = v := by
  have hl : (List.replicate m v).length = m := List.length_replicate
  rcases hi with rfl | rfl | rfl | rfl | rfl | rfl
  · show (sumK (List.replicate m v) (List.replicate m v).length + ((List.replicate m v).length : Int) / 2) / (List.replicate m v).length = v
    rw [hl, rep_sum, rep_mean v hm]
  · show v + (9 * v - sumK (List.replicate m v) (List.replicate m v).length) * _ / 16 = v
    rw [hl, rep_sum, h9 rfl, show (9 * v - ((9 : Nat) : Int) * v) = 0 by omega, Int.zero_mul]; simp
  · show minK (List.replicate m v) (List.replicate m v).length = v
    unfold minK; rw [List.take_length, rep_get v hm, fold_min]
  · show maxK (List.replicate m v) (List.replicate m v).length = v
    unfold maxK; rw [List.take_length, rep_get v hm, fold_max]
  · show medF (List.replicate m v) = v
    exact List.eq_of_mem_replicate (med_mem (by rw [hl]; exact hm))
  · show (sumK (List.replicate m v) (List.replicate m v).length + ((List.replicate m v).length : Int) / 2) / (List.replicate m v).length = v
    rw [hl, rep_sum, rep_mean v hm]
theorem col_in {r g b a : Int} (hr : 0 ≤ r ∧ r < 65536) (hg : 0 ≤ g ∧ g < 65536) (hb : 0 ≤ b ∧ b < 65536) (ha : 0 ≤ a ∧ a < 65536) {k : Nat} (hk : k < 4) : 0 ≤ [r, g, b, a].getD k 0 ∧ [r, g, b, a].getD k 0 < 65536 := by
  have : k = 0 ∨ k = 1 ∨ k = 2 ∨ k = 3 := by omega
  rcases this with rfl | rfl | rfl | rfl <;> simpa
theorem fill_in {r g b a : Int} (hr : 0 ≤ r ∧ r < 65536) (hg : 0 ≤ g ∧ g < 65536) (hb : 0 ≤ b ∧ b < 65536) (ha : 0 ≤ a ∧ a < 65536) (n : Nat) : ∀ v ∈ fillL [r, g, b, a] n, 0 ≤ v ∧ v < 65536 := by
  intro v hv
  unfold fillL at hv
  rw [List.mem_flatten] at hv
  obtain ⟨l, hl, hv⟩ := hv
  rw [List.eq_of_mem_replicate hl] at hv
  simp at hv
  rcases hv with rfl | rfl | rfl | rfl <;> assumption
theorem samp_flat {W H i n x y k : Nat} {r g b a : Int} (hr : 0 ≤ r ∧ r < 65536) (hg : 0 ≤ g ∧ g < 65536) (hb : 0 ≤ b ∧ b < 65536) (ha : 0 ≤ a ∧ a < 65536) (hW : 1 ≤ W) (hH : 1 ≤ H) (hk : k < 4) (hi : i = 1 ∨ i = 2 ∨ i = 5 ∨ i = 6 ∨ i = 7 ∨ i = 8) :
    sampF i [(n : Int)] W H (fillL [r, g, b, a] (W * H)) x y k = [r, g, b, a].getD k 0 := by
  unfold sampF
  split
  · exact flat_atF r g b a _ _ hW hH hk
  · rw [flat_win r g b a _ _ _ _ hW hH hk, flat_atF r g b a _ _ hW hH hk, do_flat _ hi (Nat.mul_pos (by omega) (by omega)) (fun e => by subst e; rfl)]
    have := col_in hr hg hb ha hk
    exact clampN_in this.1 (by omega)
theorem flat_out {W H i n : Nat} {r g b a : Int} (hr : 0 ≤ r ∧ r < 65536) (hg : 0 ≤ g ∧ g < 65536) (hb : 0 ≤ b ∧ b < 65536) (ha : 0 ≤ a ∧ a < 65536) (hW : 1 ≤ W) (hH : 1 ≤ H) (hi : i = 1 ∨ i = 2 ∨ i = 5 ∨ i = 6 ∨ i = 7 ∨ i = 8) :
    (List.range (4 * W * H)).map (outS i [(n : Int)] W H (fillL [r, g, b, a] (W * H)) 0 0 W) = fillL [r, g, b, a] (W * H) := by
  have hl : (fillL [r, g, b, a] (W * H)).length = 4 * W * H := by rw [fillL_len, Nat.mul_assoc]
  apply List.ext_getElem?
  intro t
  by_cases ht : t < 4 * W * H
  · rw [out_at i _ _ ht, at_tab hl ht, samp_flat hr hg hb ha hW hH (Nat.mod_lt _ (by omega)) hi, flat_atF r g b a _ _ hW hH (Nat.mod_lt _ (by omega))]
  · rw [List.getElem?_eq_none_iff.2 (by simp; omega), List.getElem?_eq_none_iff.2 (by omega)]
theorem samp_edge {W H x y k : Nat} {r g b a : Int} (ha : 0 ≤ a ∧ a < 65536) (hW : 1 ≤ W) (hH : 1 ≤ H) (hk : k < 4) : sampF 3 [] W H (fillL [r, g, b, a] (W * H)) x y k = if k = 3 then a else 0 := by
  unfold sampF
  by_cases h3 : k = 3
  · subst h3
    rw [if_pos ⟨rfl, rfl⟩, flat_atF r g b a _ _ hW hH hk, if_pos rfl]; rfl
  · rw [if_neg (fun h => h3 h.1), if_neg h3, flat_win r g b a _ _ _ _ hW hH hk]
    generalize [r, g, b, a].getD k 0 = v
    have : doF 3 [] (List.replicate ((2 * (ryF 3 []).toNat + 1) * (2 * (rxF 3 []).toNat + 1)) v) (atF W H (fillL [r, g, b, a] (W * H)) (x : Int) (y : Int) k) = 0 := by
      show absF (edge1 (List.replicate 9 v)) + absF (edge2 (List.replicate 9 v)) = 0
      have h1 : edge1 (List.replicate 9 v) = 0 := by simp [edge1, List.replicate]
      have h2 : edge2 (List.replicate 9 v) = 0 := by simp [edge2, List.replicate]
      rw [h1, h2]; rfl
    rw [this]; rfl
theorem edge_out {W H : Nat} {r g b a : Int} (ha : 0 ≤ a ∧ a < 65536) (hW : 1 ≤ W) (hH : 1 ≤ H) : pixL ((List.range (4 * W * H)).map (outS 3 [] W H (fillL [r, g, b, a] (W * H)) 0 0 W)) 0 = [0, 0, 0, a] := by
  have h0 : 4 ≤ 4 * W * H := by
    have : 0 < W * H := Nat.mul_pos hW hH
    rw [Nat.mul_assoc]; omega
  have hh : ∀ t, t < 4 → ((List.range (4 * W * H)).map (outS 3 [] W H (fillL [r, g, b, a] (W * H)) 0 0 W)).getD t 0 = if t = 3 then a else 0 := by
    intro t ht
    rw [List.getD_eq_getElem?_getD, out_at 3 _ _ (by omega), samp_edge ha hW hH (Nat.mod_lt _ (by omega)), Nat.mod_eq_of_lt ht]; rfl
  unfold pixL
  rw [hh 0 (by omega), hh (0 + 1) (by omega), hh (0 + 2) (by omega), hh (0 + 3) (by omega)]
  rfl
end Go.Proofs.Ytogmlcgiajigfaa.Ard
