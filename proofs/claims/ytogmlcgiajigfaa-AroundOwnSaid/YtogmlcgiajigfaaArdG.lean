/-
  Walks: the reference's at.
-/
import Derived.Test.YtogmlcgiajigfaaArdC
set_option linter.unusedVariables false
set_option linter.unusedSimpArgs false
namespace Go.Proofs.Ytogmlcgiajigfaa.Ard
open Go.RowKit K

theorem clamp_to {v t : Int} {top : Nat} (w : World) (ht : t = (top : Int)) : Calls Try.prog 69 #[.int .i64 v, .int .i64 t] w fun e w' => e = .returned (.int .i64 (clampN v top : Int)) ∧ w = w' := by
  subst ht; exact clamp_any w
theorem place_in {W H a b k : Nat} (ha : a < W) (hb : b < H) (hk : k < 4) : 4 * (b * W + a) + k < 4 * W * H := by
  have h1 : b * W + a + 1 ≤ W * H := by
    have : (b + 1) * W ≤ H * W := Nat.mul_le_mul_right W hb
    rw [Nat.add_mul, Nat.one_mul, Nat.mul_comm H W] at this
    omega
  rw [Nat.mul_assoc]; omega
theorem at_any {P : Option Addr} {pn pc W H k : Nat} {pix : List Int} {x y : Int} (w : World) (HP : SI w .u16 P pn pix) (hwv : ∀ v ∈ pix, 0 ≤ v ∧ v < 65536) (hW : 1 ≤ W ∧ W ≤ 1000000) (hH : 1 ≤ H ∧ H ≤ 1000000) (hp : pn = 4 * W * H) (hk : k < 4) :
    Calls Try.prog 62 #[.agg #[.int .i64 W, .int .i64 H, .slice P pn pc], .int .i64 x, .int .i64 y, .int .i64 k] w (DoP w (atF W H pix x y k)) := by
  have w1 : wrap64 ((W : Int) - 1) = (W : Int) - 1 := IntWalk.wrap64_in _ (by omega)
  have w2 : wrap64 ((H : Int) - 1) = (H : Int) - 1 := IntWalk.wrap64_in _ (by omega)
  have HC1 : Hid (∀ V, Calls Try.prog 69 #[.int .i64 x, .int .i64 ((W : Int) - 1)] V fun e w' => e = .returned (.int .i64 (clampN x (W - 1) : Int)) ∧ V = w') := fun V => clamp_to V (by omega)
  have HC2 : Hid (∀ V, Calls Try.prog 69 #[.int .i64 y, .int .i64 ((H : Int) - 1)] V fun e w' => e = .returned (.int .i64 (clampN y (H - 1) : Int)) ∧ V = w') := fun V => clamp_to V (by omega)
  have ha := clampN_le x (W - 1)
  have hb := clampN_le y (H - 1)
  unfold atF
  generalize hga : clampN x (W - 1) = a at ha HC1 ⊢
  generalize hgb : clampN y (H - 1) = b at hb HC2 ⊢
  clear hga hgb
  have hin := place_in (W := W) (H := H) (a := a) (b := b) (k := k) (by omega) (by omega) hk
  rw [← hp] at hin
  have hbw : b * W ≤ 1000000000000 := by
    have h1 : b ≤ 1000000 := by omega
    have h2 : b * W ≤ 1000000 * W := Nat.mul_le_mul_right W h1
    omega
  obtain ⟨c1, hc1⟩ : ∃ c : Nat, c = b * W := ⟨_, rfl⟩
  have e1 : (b : Int) * (W : Int) = (c1 : Int) := by rw [hc1]; push_cast; rfl
  rw [← hc1] at hin hbw ⊢
  have HPN : Hid (pn = 4 * W * H) := hp
  have w3 : wrap64 ((b : Int) * (W : Int)) = (c1 : Int) := by rw [e1]; exact IntWalk.wrap64_in _ (by clear e1 hc1 hp hin w1 w2; omega)
  clear hp hc1 e1 w1 w2
  have w4 : wrap64 ((c1 : Int) + (a : Int)) = (c1 : Int) + (a : Int) := IntWalk.wrap64_in _ (by clear w3; omega)
  have w5 : wrap64 (4 * ((c1 : Int) + (a : Int))) = 4 * ((c1 : Int) + (a : Int)) := IntWalk.wrap64_in _ (by clear w3 w4; omega)
  have w6 : wrap64 (4 * ((c1 : Int) + (a : Int)) + (k : Int)) = ((4 * (c1 + a) + k : Nat) : Int) := by
    clear w3 w4 w5
    rw [IntWalk.wrap64_in _ (by omega)]; push_cast; rfl
  have w1 : wrap64 ((W : Int) - 1) = (W : Int) - 1 := IntWalk.wrap64_in _ (by clear w3 w4 w5 w6; omega)
  have w2 : wrap64 ((H : Int) - 1) = (H : Int) - 1 := IntWalk.wrap64_in _ (by clear w3 w4 w5 w6 w1; omega)
  have HB := (Below.refl w.heap.size w).alloc (Nat.le_refl _) (.cells #[.int .i64 W, .int .i64 H, .slice P pn pc] 37)
  obtain ⟨pb, po, v, rfl, hc, hv, -⟩ := (HP.below HB (Nat.le_refl _)).cells hin
  rw [getD_at hv.out]
  have hvb := hwv v (List.mem_of_getElem? hv.out)
  clear hv hwv
  have w7 : IntKind.i64.wrap v = v := IntWalk.i64_in _ (by clear w1 w2 w3 w4 w5 w6; omega)
  generalize 4 * (c1 + a) + k = q at *
  have i0 : (0 : Int) ≤ (q : Int) := by clear w1 w2 w3 w4 w5 w6; omega
  have i1 : (q : Int) < (pn : Int) := by clear w1 w2 w3 w4 w5 w6; omega
  clear HP hin hvb hbw ha hb hW hH HPN
  go_enter Try.func62, Try.ntmps62
  go_wp2_with fail
  go_quiet (first
    | (go_at_call 69; with_reducible exact Calls.quiet_of_same ((HC1.out _).mono fun e w' h => ⟨h.1, h.2.symm⟩))
    | (go_at_call 69; with_reducible exact Calls.quiet_of_same ((HC2.out _).mono fun e w' h => ⟨h.1, h.2.symm⟩)))
  go_wp2_with fail
  go_ret
  exact ⟨rfl, below_drewN HB _⟩
end Go.Proofs.Ytogmlcgiajigfaa.Ard
