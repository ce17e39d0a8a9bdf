/-
  What an operator makes of a window and of an image: the plain law; each operator's function by one contract.
-/
import Derived.Test.YtogmlcgiajigfaaArdD
import Derived.Test.YtogmlcgiajigfaaArdE
import Derived.Test.YtogmlcgiajigfaaArdN
import Derived.Test.YtogmlcgiajigfaaArdR
import Derived.Test.YtogmlcgiajigfaaArdX
set_option linter.unusedVariables false
set_option linter.unusedSimpArgs false
namespace Go.Proofs.Ytogmlcgiajigfaa.Ard
open Go.RowKit K

/-- what an operator makes of a window -/
def doF (i : Nat) (a l : List Int) (own : Int) : Int :=
  match i with
  | 0 => dotK a l 9 / a.getD 9 0 + a.getD 10 0
  | 2 => own + (9 * own - sumK l l.length) * a.getD 0 0 / 16
  | 3 => absF (edge1 l) + absF (edge2 l)
  | 4 => l.getD 8 0 - l.getD 0 0 + 32768
  | 5 => minK l l.length
  | 6 => maxK l l.length
  | 7 => medF l
  | _ => (sumK l l.length + (l.length : Int) / 2) / l.length
/-- what sample k at a place becomes -/
def sampF (i : Nat) (a : List Int) (W H : Nat) (pix : List Int) (x y k : Nat) : Int :=
  if k = 3 ∧ alphaF i = false then atF W H pix x y k else (clampN (doF i a (winF W H pix x y (rxF i a).toNat (ryF i a).toNat k) (atF W H pix x y k)) 65535 : Int)
/-- a part's samples by their place in the row -/
def outT (f : Nat → Nat → Nat → Int) (RW t : Nat) : Int := f (t / 4 % RW) (t / 4 / RW) (t % 4)
theorem outT_at (f : Nat → Nat → Nat → Int) {RW x k : Nat} (y : Nat) (hx : x < RW) (hk : k < 4) : outT f RW (4 * (y * RW + x) + k) = f x y k := by
  unfold outT
  have h1 : (4 * (y * RW + x) + k) / 4 = y * RW + x := by omega
  have h2 : (4 * (y * RW + x) + k) % 4 = k := by omega
  rw [h1, h2, Nat.mul_comm y RW, Nat.mul_add_mod, Nat.mod_eq_of_lt hx, Nat.mul_add_div (by omega), Nat.div_eq_of_lt hx, Nat.add_zero]
/-- so far done -/
def stageL (S C : Nat → Int) (n s : Nat) : List Int := (List.range n).map fun t => if t < s then S t else C t
theorem stage_len (S C : Nat → Int) (n s : Nat) : (stageL S C n s).length = n := by simp [stageL]
theorem stage_zero (S C : Nat → Int) (n : Nat) : stageL S C n 0 = (List.range n).map C := by simp [stageL]
theorem stage_all (S C : Nat → Int) (n : Nat) : stageL S C n n = (List.range n).map S := by
  unfold stageL
  apply List.map_congr_left
  intro t ht
  simp at ht
  rw [if_pos ht]
theorem stage_set (S C : Nat → Int) {n s : Nat} : (stageL S C n s).set s (S s) = stageL S C n (s + 1) := by
  apply List.ext_getElem?
  intro j
  rw [List.getElem?_set]
  unfold stageL
  simp only [List.length_map, List.length_range, List.getElem?_map]
  by_cases hj : j < n
  · by_cases e : s = j
    · subst e
      simp [hj]
    · rw [if_neg e, List.getElem?_range hj]
      have : (j < s + 1) ↔ (j < s) := by omega
      simp only [Option.map_some, this]
  · have hjn : (List.range n)[j]? = none := List.getElem?_eq_none_iff.2 (by simpa using Nat.le_of_not_lt hj)
    by_cases e : s = j
    · subst e; simp [hj, hjn]
    · rw [if_neg e, hjn]; rfl
theorem stage_same (S C : Nat → Int) {n s : Nat} (h : S s = C s) : stageL S C n (s + 1) = stageL S C n s := by
  unfold stageL
  apply List.map_congr_left
  intro t ht
  by_cases h1 : t < s
  · rw [if_pos h1, if_pos (by omega)]
  · by_cases h2 : t = s
    · subst h2; rw [if_neg h1, if_pos (by omega), h]
    · rw [if_neg h1, if_neg (by omega)]
theorem flat_at {α : Type} (f : Nat → List α) (c : Nat) : ∀ n, (∀ j, j < n → (f j).length = c) → ((List.range n).flatMap f).length = n * c ∧ ∀ j i, j < n → i < c → ((List.range n).flatMap f)[j * c + i]? = (f j)[i]? := by
  intro n
  induction n with
  | zero => intro _; exact ⟨by simp, fun j i hj => by omega⟩
  | succ n ih =>
    intro h
    obtain ⟨hl, ih2⟩ := ih (fun j hj => h j (by omega))
    rw [List.range_succ, List.flatMap_append]
    refine ⟨by rw [List.length_append, hl]; simp [h n (by omega), Nat.succ_mul], ?_⟩
    intro j i hj hi
    by_cases e : j < n
    · have h1 : j * c + i < n * c := by
        have : (j + 1) * c ≤ n * c := Nat.mul_le_mul_right c e
        rw [Nat.add_mul, Nat.one_mul] at this; omega
      rw [List.getElem?_append_left (by omega)]
      exact ih2 j i e hi
    · obtain rfl : j = n := by omega
      rw [List.getElem?_append_right (by omega), hl, Nat.add_sub_cancel_left]
      simp
theorem split_at {RW t : Nat} (h : 0 < RW) : t = 4 * (t / 4 / RW * RW + t / 4 % RW) + t % 4 ∧ t / 4 % RW < RW ∧ t % 4 < 4 := by
  have h1 := Nat.div_add_mod (t / 4) RW
  rw [Nat.mul_comm] at h1
  have h2 := Nat.mod_lt (t / 4) h
  omega
theorem crop_row_len {W H X Y RW RH : Nat} {pix : List Int} (hp : pix.length = 4 * W * H) (hx : X + RW ≤ W) (hy : Y + RH ≤ H) : ∀ j, j < RH → ((pix.drop (4 * ((Y + j) * W + X))).take (4 * RW)).length = 4 * RW := by
  intro j hj
  have := crop_place (W := W) (H := H) (X := X) (Y := Y) (RW := RW) (k := j) hx (by omega)
  exact part_len hp this
theorem crop_tab {W H X Y RW RH : Nat} {pix : List Int} (hp : pix.length = 4 * W * H) (hx : X + RW ≤ W) (hy : Y + RH ≤ H) :
    cropK W pix X Y RW RH = (List.range (4 * RW * RH)).map (outT (fun x y k => atF W H pix ((X + x : Nat) : Int) ((Y + y : Nat) : Int) k) RW) := by
  obtain ⟨hl, hg⟩ := flat_at (fun j => (pix.drop (4 * ((Y + j) * W + X))).take (4 * RW)) (4 * RW) RH (crop_row_len hp hx hy)
  have hn : 4 * RW * RH = RH * (4 * RW) := Nat.mul_comm _ _
  apply List.ext_getElem?
  intro t
  by_cases ht : t < 4 * RW * RH
  · have hRW : 0 < RW := by rcases Nat.eq_zero_or_pos RW with h | h; subst h; simp at ht; exact h
    obtain ⟨e1, e2, e3⟩ := split_at (t := t) hRW
    rw [List.getElem?_map, List.getElem?_range ht]
    have hyy : t / 4 / RW < RH := by
      rw [Nat.div_div_eq_div_mul]
      exact Nat.div_lt_of_lt_mul ht
    generalize t / 4 / RW = y at *
    generalize t / 4 % RW = x at *
    generalize t % 4 = k at *
    have e4 : t = y * (4 * RW) + (4 * x + k) := by
      rw [e1, Nat.mul_left_comm y 4 RW]; omega
    have h1 := hg y (4 * x + k) hyy (by omega)
    rw [← e4] at h1
    show (cropK W pix X Y RW RH)[t]? = _
    unfold cropK
    rw [h1, List.getElem?_take, if_pos (by omega), List.getElem?_drop]
    have h2 := place_in (W := W) (H := H) (a := X + x) (b := Y + y) (k := k) (by omega) (by omega) e3
    rw [← hp] at h2
    have h3 : 4 * ((Y + y) * W + X) + (4 * x + k) = 4 * ((Y + y) * W + (X + x)) + k := by omega
    rw [h3, List.getElem?_eq_getElem h2]
    simp only [Option.map_some]
    congr 1
    have hO := outT_at (fun x y k => atF W H pix ((X + x : Nat) : Int) ((Y + y : Nat) : Int) k) y e2 e3
    rw [← e1] at hO
    rw [hO, atF_in_place pix k (show X + x < W by omega) (show Y + y < H by omega), List.getD_eq_getElem?_getD, List.getElem?_eq_getElem h2]
    rfl
  · rw [List.getElem?_eq_none_iff.2 (by unfold cropK; rw [hl]; omega), List.getElem?_eq_none_iff.2 (by simp; omega)]
theorem win_len (W H : Nat) (pix : List Int) (x y : Int) (n p k : Nat) : (winF W H pix x y n p k).length = (2 * p + 1) * (2 * n + 1) := winF_len W H pix x y n p k
theorem med_args {i : Nat} {a : List Int} (h : fitsB (bndF 7) a = true) : 1 ≤ a.getD 0 0 ∧ a.getD 0 0 ≤ 3 := by
  have := (fits_at h).2 0 (by simp [bndF]); simpa [bndF] using this
theorem do_enters {i : Nat} (hi : i < 9) : ∀ args w, (callFunc (doN i) args).run Try.prog w = .ok (.enter (doN i) args) w := by
  rcases nine hi with rfl | rfl | rfl | rfl | rfl | rfl | rfl | rfl | rfl
  · exact enters_of Try.func44 (by kernel_rfl) rfl
  · exact enters_of Try.func47 (by kernel_rfl) rfl
  · exact enters_of Try.func48 (by kernel_rfl) rfl
  · exact enters_of Try.func50 (by kernel_rfl) rfl
  · exact enters_of Try.func52 (by kernel_rfl) rfl
  · exact enters_of Try.func53 (by kernel_rfl) rfl
  · exact enters_of Try.func55 (by kernel_rfl) rfl
  · exact enters_of Try.func57 (by kernel_rfl) rfl
  · exact enters_of Try.func47 (by kernel_rfl) rfl
theorem do_any {i : Nat} {A B : Option Addr} {n c m d : Nat} {a l : List Int} {own : Int} (hi : i < 9) (hf : fitsB (bndF i) a = true) (w : World) (HA : SI w .i64 A n a) (HB : SI w .i64 B m l) (hw : ∀ v ∈ l, 0 ≤ v ∧ v < 65536)
    (hm : m = (2 * (ryF i a).toNat + 1) * (2 * (rxF i a).toNat + 1)) (ho : 0 ≤ own ∧ own < 65536) :
    Calls Try.prog (doN i) #[.slice A n c, .agg #[.slice B m d, .int .i64 own]] w (DoP w (doF i a l own)) := by
  obtain ⟨h1, h2⟩ := fits_at hf
  have hn := HA.len
  have hl := HB.len
  have hr := rx_in hi hf
  have hm0 : 0 < m := by rw [hm]; exact Nat.mul_pos (by omega) (by omega)
  have hm4 : m ≤ 4096 := by
    rw [hm]
    exact Nat.le_trans (Nat.mul_le_mul (show 2 * (ryF i a).toNat + 1 ≤ 17 by omega) (show 2 * (rxF i a).toNat + 1 ≤ 17 by omega)) (by omega)
  rcases nine hi with rfl | rfl | rfl | rfl | rfl | rfl | rfl | rfl | rfl
  · have hm9 : m = 9 := by rw [hm]; rfl
    refine conv_any w HA HB hw hm9 (by rw [← hn, h1]; rfl) (fun i h9 => ?_) ?_ ?_
    · have := h2 i (by simp [bndF]; omega)
      rcases nine h9 with rfl | rfl | rfl | rfl | rfl | rfl | rfl | rfl | rfl <;> exact this
    · exact h2 9 (by simp [bndF])
    · exact h2 10 (by simp [bndF])
  · have := mean_any (c := c) (A := A) (n := n) (own := own) (d := d) w HB hw hm0 hm4
    show Calls _ _ _ _ (DoP w ((sumK l l.length + (l.length : Int) / 2) / l.length))
    rw [hl]; exact this
  · have hm9 : m = 9 := by rw [hm]; rfl
    have := sharpen_any (c := c) (d := d) (own := own) w HA HB hw hm9 (by rw [← hn, h1]; simp [bndF]) ho (h2 0 (by simp [bndF]))
    show Calls _ _ _ _ (DoP w (own + (9 * own - sumK l l.length) * a.getD 0 0 / 16))
    rw [hl]; exact this
  · have hm9 : m = 9 := by rw [hm]; rfl
    exact edge_any w HB hw (by omega)
  · have hm9 : m = 9 := by rw [hm]; rfl
    exact emboss_any w HB hw (by omega)
  · have := wMin_any (c := c) (A := A) (n := n) (own := own) (d := d) w HB hm0
    show Calls _ _ _ _ (DoP w (minK l l.length))
    rw [hl]; exact this
  · have := wMax_any (c := c) (A := A) (n := n) (own := own) (d := d) w HB hm0
    show Calls _ _ _ _ (DoP w (maxK l l.length))
    rw [hl]; exact this
  · exact med_any w HB hm0 hm4
  · have := mean_any (c := c) (A := A) (n := n) (own := own) (d := d) w HB hw hm0 hm4
    show Calls _ _ _ _ (DoP w ((sumK l l.length + (l.length : Int) / 2) / l.length))
    rw [hl]; exact this
end Go.Proofs.Ytogmlcgiajigfaa.Ard
