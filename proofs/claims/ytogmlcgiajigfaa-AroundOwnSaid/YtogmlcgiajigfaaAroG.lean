/-
  Plain law: least, most and median against the image.
-/
import Derived.Test.YtogmlcgiajigfaaAroE
set_option linter.unusedVariables false
set_option linter.unusedSimpArgs false
namespace Go.Proofs.Ytogmlcgiajigfaa.Ard
open Go.RowKit K

theorem foldl_min_le (l : List Int) : ∀ a, l.foldl min a ≤ a ∧ ∀ v ∈ l, l.foldl min a ≤ v := by
  induction l with
  | nil => intro a; exact ⟨Int.le_refl _, fun v hv => by simp at hv⟩
  | cons b l ih =>
    intro a
    obtain ⟨h1, h2⟩ := ih (min a b)
    rw [List.foldl_cons]
    refine ⟨by omega, fun v hv => ?_⟩
    rcases List.mem_cons.1 hv with rfl | hv
    · omega
    · exact h2 v hv
theorem foldl_max_ge (l : List Int) : ∀ a, a ≤ l.foldl max a ∧ ∀ v ∈ l, v ≤ l.foldl max a := by
  induction l with
  | nil => intro a; exact ⟨Int.le_refl _, fun v hv => by simp at hv⟩
  | cons b l ih =>
    intro a
    obtain ⟨h1, h2⟩ := ih (max a b)
    rw [List.foldl_cons]
    refine ⟨by omega, fun v hv => ?_⟩
    rcases List.mem_cons.1 hv with rfl | hv
    · omega
    · exact h2 v hv
theorem minK_le {l : List Int} {v : Int} (h : v ∈ l) : minK l l.length ≤ v := by
  unfold minK; rw [List.take_length]; exact (foldl_min_le l _).2 v h
theorem maxK_ge {l : List Int} {v : Int} (h : v ∈ l) : v ≤ maxK l l.length := by
  unfold maxK; rw [List.take_length]; exact (foldl_max_ge l _).2 v h
theorem med_mem {l : List Int} (h : 0 < l.length) : medF l ∈ l := by
  have h1 : l.length / 2 < (sortF l).length := by rw [sortF_len]; omega
  have h2 : medF l ∈ sortF l := by
    unfold medF
    rw [List.getD_eq_getElem?_getD, List.getElem?_eq_getElem h1]
    exact List.getElem_mem h1
  exact (List.mergeSort_perm l _).mem_iff.1 h2
theorem own_in_win (W H : Nat) (pix : List Int) (x y n p k : Nat) : atF W H pix x y k ∈ winF W H pix x y n p k := by
  unfold winF
  rw [List.mem_flatMap]
  refine ⟨p, List.mem_range.2 (by omega), ?_⟩
  rw [List.mem_map]
  refine ⟨n, List.mem_range.2 (by omega), ?_⟩
  rw [show (x : Int) - n + n = x by omega, show (y : Int) - p + p = y by omega]
theorem clampN_mono {a b : Int} (h : a ≤ b) (n : Nat) : (clampN a n : Int) ≤ clampN b n := by unfold clampN; omega
theorem win_pos (W H : Nat) (pix : List Int) (x y : Int) (n p k : Nat) : 0 < (winF W H pix x y n p k).length := by
  rw [winF_len]; exact Nat.mul_pos (by omega) (by omega)
theorem samp_ends {W H x y k n : Nat} {pix : List Int} (hw : ∀ v ∈ pix, 0 ≤ v ∧ v < 65536) :
    sampF 5 [(n : Int)] W H pix x y k ≤ atF W H pix x y k ∧ atF W H pix x y k ≤ sampF 6 [(n : Int)] W H pix x y k ∧ sampF 5 [(n : Int)] W H pix x y k ≤ sampF 7 [(n : Int)] W H pix x y k ∧ sampF 7 [(n : Int)] W H pix x y k ≤ sampF 6 [(n : Int)] W H pix x y k := by
  unfold sampF
  simp only [alphaF, doF, rxF, ryF]
  simp only [show ¬ ((5 : Nat) = 0 ∨ (5 : Nat) = 2 ∨ (5 : Nat) = 3 ∨ (5 : Nat) = 4) by omega, show ¬ ((6 : Nat) = 0 ∨ (6 : Nat) = 2 ∨ (6 : Nat) = 3 ∨ (6 : Nat) = 4) by omega, show ¬ ((7 : Nat) = 0 ∨ (7 : Nat) = 2 ∨ (7 : Nat) = 3 ∨ (7 : Nat) = 4) by omega, if_false, show ¬ ((5 : Nat) = 8) by omega, show ¬ ((6 : Nat) = 8) by omega, show ¬ ((7 : Nat) = 8) by omega]
  simp only [show ((5 : Nat) == 5) = true from rfl, show ((6 : Nat) == 5) = false from rfl, show ((6 : Nat) == 6) = true from rfl, show ((7 : Nat) == 5) = false from rfl, show ((7 : Nat) == 6) = false from rfl, show ((7 : Nat) == 7) = true from rfl, Bool.true_or, Bool.false_or, Bool.or_true, Bool.true_eq_false, reduceCtorEq, and_false, if_false, List.getD_cons_zero, Int.toNat_natCast]
  have h1 := own_in_win W H pix x y n n k
  have h2 := med_mem (win_pos W H pix x y n n k)
  have h3 := atF_in (W := W) (H := H) (x := x) (y := y) (k := k) hw
  generalize winF W H pix x y n n k = l at *
  generalize atF W H pix x y k = v at *
  have e := clampN_in (top := 65535) h3.1 (by omega)
  refine ⟨?_, ?_, clampN_mono (minK_le h2) _, clampN_mono (maxK_ge h2) _⟩
  · have := clampN_mono (minK_le h1) 65535; omega
  · have := clampN_mono (maxK_ge h1) 65535; omega
theorem at_tab {W H t : Nat} {pix : List Int} (hp : pix.length = 4 * W * H) (ht : t < 4 * W * H) : pix[t]? = some (atF W H pix (t / 4 % W : Nat) (t / 4 / W : Nat) (t % 4)) := by
  have hRW : 0 < W := by rcases Nat.eq_zero_or_pos W with h | h; subst h; simp at ht; exact h
  obtain ⟨e1, e2, e3⟩ := split_at (t := t) hRW
  have hyy : t / 4 / W < H := by
    rw [Nat.div_div_eq_div_mul]
    exact Nat.div_lt_of_lt_mul ht
  rw [atF_in_place pix (t % 4) e2 hyy, ← e1, List.getD_eq_getElem?_getD, List.getElem?_eq_getElem (by omega)]
  rfl
theorem out_at (i : Nat) (a : List Int) {W H t : Nat} (pix : List Int) (ht : t < 4 * W * H) : ((List.range (4 * W * H)).map (outS i a W H pix 0 0 W))[t]? = some (sampF i a W H pix (t / 4 % W) (t / 4 / W) (t % 4)) := by
  rw [List.getElem?_map, List.getElem?_range ht]
  simp only [Option.map_some, outS, outT, Nat.zero_add]
theorem ends_at {W H n t : Nat} {pix : List Int} (hp : pix.length = 4 * W * H) (hw : ∀ v ∈ pix, 0 ≤ v ∧ v < 65536) (ht : t < 4 * W * H) :
    ∃ v a b c, pix[t]? = some v ∧ ((List.range (4 * W * H)).map (outS 5 [(n : Int)] W H pix 0 0 W))[t]? = some a ∧ ((List.range (4 * W * H)).map (outS 6 [(n : Int)] W H pix 0 0 W))[t]? = some b ∧ ((List.range (4 * W * H)).map (outS 7 [(n : Int)] W H pix 0 0 W))[t]? = some c ∧ a ≤ v ∧ v ≤ b ∧ a ≤ c ∧ c ≤ b :=
  ⟨_, _, _, _, at_tab hp ht, out_at 5 _ pix ht, out_at 6 _ pix ht, out_at 7 _ pix ht, samp_ends hw⟩
end Go.Proofs.Ytogmlcgiajigfaa.Ard
