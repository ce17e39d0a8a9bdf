/-
  Walks: Good (the reference's and the program's), Within.
-/
import Derived.Test.YtogmlcgiajigfaaArdH
set_option linter.unusedVariables false
set_option linter.unusedSimpArgs false
namespace Go.Proofs.Ytogmlcgiajigfaa.Ard
open Go.RowKit K

def GoodP (W H : Int) (pn : Nat) : Prop := FitsP W H ∧ (pn : Int) = 4 * W * H
instance (W H : Int) (pn : Nat) : Decidable (GoodP W H pn) := by unfold GoodP; infer_instance
/-- a test's post: old memory is as it was -/
def TestP (w : World) (v : Bool) (e : Ending) (w' : World) : Prop := e = .returned (.bool v) ∧ Below w.heap.size w w'
theorem beq_dec (a b : Int) : (a == b) = decide (a = b) := by by_cases h : a = b <;> simp [h]
theorem rgood_any {W H : Int} {P : Option Addr} {pn pc : Nat} (w : World) (hpn : pn ≤ 140737488351232) : Calls Try.prog 25 #[.agg #[.int .i64 W, .int .i64 H, .slice P pn pc]] w (TestP w (decide (GoodP W H pn))) := by
  have HB := (Below.refl w.heap.size w).alloc (Nat.le_refl _) (.cells #[.int .i64 W, .int .i64 H, .slice P pn pc] 37)
  by_cases h : FitsP W H
  · have e0 : decide (GoodP W H pn) = decide ((pn : Int) = 4 * W * H) := by simp [GoodP, h]
    have e1 : decide (FitsP W H) = true := decide_eq_true h
    have ha := area_in h.1 h.2.1 h.2.2.1 h.2.2.2.1
    have hb := h.2.2.1
    have hb1 := h.1
    have w1 : wrap64 (4 * W) = 4 * W := IntWalk.wrap64_in _ (by omega)
    have w2 : wrap64 (4 * W * H) = 4 * W * H := IntWalk.wrap64_in _ (by rw [Int.mul_assoc]; omega)
    rw [e0]
    have HF : Hid (∀ V, Calls Try.prog 41 #[.int .i64 W, .int .i64 H] V fun e w' => e = .returned (.bool true) ∧ V = w') := fun V => by have := fits_any (W := W) (H := H) V; rwa [e1] at this
    clear e0 e1 ha hb hb1 h
    go_enter Try.func25, Try.ntmps25
    go_wp2_with fail
    refine (HF.out _).mono ?_
    rintro e w' ⟨rfl, rfl⟩
    go_wp2_with fail
    go_ret
    exact ⟨by simp [w2, beq_dec], HB⟩
  · have e0 : decide (GoodP W H pn) = false := by simp [GoodP, h]
    have e1 : decide (FitsP W H) = false := decide_eq_false h
    rw [e0]
    have HF : Hid (∀ V, Calls Try.prog 41 #[.int .i64 W, .int .i64 H] V fun e w' => e = .returned (.bool false) ∧ V = w') := fun V => by have := fits_any (W := W) (H := H) V; rwa [e1] at this
    clear e0 e1 h
    go_enter Try.func25, Try.ntmps25
    go_wp2_with fail
    refine (HF.out _).mono ?_
    rintro e w' ⟨rfl, rfl⟩
    go_wp2_with fail
    go_ret
    exact ⟨rfl, HB⟩
def WithinP (x y w h gw gh : Int) : Prop := 1 ≤ w ∧ 1 ≤ h ∧ 0 ≤ x ∧ 0 ≤ y ∧ w ≤ gw ∧ h ≤ gh ∧ x ≤ gw - w ∧ y ≤ gh - h
instance (x y w h gw gh : Int) : Decidable (WithinP x y w h gw gh) := by unfold WithinP; infer_instance
theorem within_any {x y rw rh gw gh : Int} (w : World) (h1 : gw ≤ 4096) (h2 : gh ≤ 4096) : Calls Try.prog 37 #[.int .i64 x, .int .i64 y, .int .i64 rw, .int .i64 rh, .int .i64 gw, .int .i64 gh] w fun e w' => e = .returned (.bool (decide (WithinP x y rw rh gw gh))) ∧ w = w' := by
  by_cases a1 : 1 ≤ rw
  · by_cases a2 : 1 ≤ rh
    · by_cases a3 : rw ≤ gw
      · by_cases a4 : rh ≤ gh
        · have w1 : wrap64 (gw - rw) = gw - rw := IntWalk.wrap64_in _ (by omega)
          have w2 : wrap64 (gh - rh) = gh - rh := IntWalk.wrap64_in _ (by omega)
          have e0 : decide (WithinP x y rw rh gw gh) = (decide (0 ≤ x) && decide (0 ≤ y) && decide (x ≤ gw - rw) && decide (y ≤ gh - rh)) := by simp [WithinP, a1, a2, a3, a4, Bool.and_assoc]
          rw [e0]
          clear e0
          by_cases b1 : 0 ≤ x
          · by_cases b2 : 0 ≤ y
            · by_cases b3 : x ≤ gw - rw
              · go_enter Try.func37, Try.ntmps37
                go_wp2
                go_ret
                exact ⟨by simp [b1, b2, b3, w2], rfl⟩
              · go_enter Try.func37, Try.ntmps37
                go_wp2
                go_ret
                exact ⟨by simp; omega, rfl⟩
            · go_enter Try.func37, Try.ntmps37
              go_wp2
              go_ret
              exact ⟨by simp; omega, rfl⟩
          · go_enter Try.func37, Try.ntmps37
            go_wp2
            go_ret
            exact ⟨by simp; omega, rfl⟩
        · have e0 : decide (WithinP x y rw rh gw gh) = false := by simp [WithinP, a4]
          rw [e0]
          clear e0
          by_cases b1 : 0 ≤ x <;> by_cases b2 : 0 ≤ y <;> (go_enter Try.func37, Try.ntmps37; go_wp2; go_ret; exact ⟨rfl, rfl⟩)
      · have e0 : decide (WithinP x y rw rh gw gh) = false := by simp [WithinP, a3]
        rw [e0]
        clear e0
        by_cases b1 : 0 ≤ x <;> by_cases b2 : 0 ≤ y <;> (go_enter Try.func37, Try.ntmps37; go_wp2; go_ret; exact ⟨rfl, rfl⟩)
    · have e0 : decide (WithinP x y rw rh gw gh) = false := by simp [WithinP, a2]
      rw [e0]
      clear e0
      go_enter Try.func37, Try.ntmps37
      go_wp2
      go_ret
      exact ⟨rfl, rfl⟩
  · have e0 : decide (WithinP x y rw rh gw gh) = false := by simp [WithinP, a1]
    rw [e0]
    clear e0
    go_enter Try.func37, Try.ntmps37
    go_wp2
    go_ret
    exact ⟨rfl, rfl⟩
end Go.Proofs.Ytogmlcgiajigfaa.Ard
