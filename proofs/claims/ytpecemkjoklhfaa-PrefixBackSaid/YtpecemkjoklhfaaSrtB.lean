/-
  Walks: insertion sort of coins.
-/
import Derived.Test.YtpecemkjoklhfaaSrtA
import Derived.Shelf.SlSortCmp.QuietGrown
set_option linter.unusedVariables false
set_option linter.unusedSimpArgs false
namespace Go.Proofs.Ytpecemkjoklhfaa.Srt
open Go.RowKit K Go.Sort

theorem lighter_grown {x y : Coin} {W : World} {n : Nat} {os : Array Obj} :
    Calls Try.prog 33 #[.agg #[.int .i64 x.w, .slice x.a x.n x.c], .agg #[.int .i64 y.w, .slice y.a y.n y.c]] (grow (W.drewN n) os)
      fun e w'' => e = .returned (.int .i64 (cmpI x.w y.w)) ∧ ∃ p : GrownBy, w'' = grow (W.drewN p.n) p.os :=
  Calls.grown_of ((lighter_any x y _).mono fun e w' ⟨he, hw⟩ => ⟨he, 0, #[.cells #[.int .i64 x.w, .slice x.a x.n x.c] 72, .cells #[.int .i64 y.w, .slice y.a y.n y.c] 72], by
    rw [← hw, alloc_eq_grow, alloc_eq_grow, grow_grow]; rfl⟩)
theorem heap_grow (w : World) (os : Array Obj) (k : Nat) (h : k < w.heap.size) : (grow w os).heap[k]? = w.heap[k]? := by
  simp [grow, Array.getElem?_append, h]
theorem CB.grown {w : World} {g n f} (h : CB w g n f) (m : Nat) (os : Array Obj) : CB (grow (w.drewN m) os) g n f := h.of_block (heap_grow (w.drewN m) os g h.lt)
theorem grown_grow {w wr : World} {row : Option Nat} (h : w.grownBy wr row) (m : Nat) (os : Array Obj) : w.grownBy (grow (wr.drewN m) os) row :=
  ⟨h.os, h.tape, h.output, by simp [grow]; have := h.size; omega, fun i hi hne => (heap_grow (wr.drewN m) os i (Nat.lt_of_lt_of_le hi h.size)).trans (h.block i hi hne)⟩
def Ins (f : Nat → Coin) (a i j : Nat) : Prop :=
  (∀ p q, a ≤ p → p ≤ q → q ≤ i → p ≠ j → q ≠ j → (f p).w ≤ (f q).w) ∧ (∀ p, j < p → p ≤ i → (f j).w ≤ (f p).w)
theorem Ins.start {f a i} (h : Srtd f a i) : Ins f a i i := ⟨fun p q h1 h2 h3 h4 h5 => h p q h1 h2 (by omega), fun p h1 h2 => by omega⟩
theorem swp_i (f : Nat → Coin) {i j : Nat} (h : i ≠ j) : swp f i j i = f j := by unfold swp upd; rw [if_neg h, if_pos rfl]
theorem swp_j (f : Nat → Coin) (i j : Nat) : swp f i j j = f i := by unfold swp upd; rw [if_pos rfl]
theorem swp_o (f : Nat → Coin) {i j k : Nat} (h1 : k ≠ i) (h2 : k ≠ j) : swp f i j k = f k := by unfold swp upd; rw [if_neg h2, if_neg h1]
theorem Ins.step {f a i j} (h : Ins f a i (j+1)) (ha : a ≤ j) (hj : j + 1 ≤ i) (hlt : (f (j+1)).w < (f j).w) : Ins (swp f (j+1) j) a i j := by
  obtain ⟨h1, h2⟩ := h
  refine ⟨fun p q k1 k2 k3 k4 k5 => ?_, fun p k1 k2 => ?_⟩
  · by_cases e1 : p = j + 1
    · subst e1
      by_cases e2 : q = j + 1
      · subst e2; exact Int.le_refl _
      · rw [swp_i f (by omega), swp_o f e2 k5]; exact h1 j q ha (by omega) k3 (by omega) e2
    · by_cases e2 : q = j + 1
      · subst e2; rw [swp_i f (by omega), swp_o f e1 k4]; exact h1 p j k1 (by omega) (by omega) e1 (by omega)
      · rw [swp_o f e1 k4, swp_o f e2 k5]; exact h1 p q k1 k2 k3 e1 e2
  · rw [swp_j]
    by_cases e1 : p = j + 1
    · subst e1; rw [swp_i f (by omega)]; omega
    · rw [swp_o f e1 (by omega)]; exact h2 p (by omega) k2
theorem Ins.done0 {f a i} (h : Ins f a i a) : Srtd f a (i+1) := fun p q k1 k2 k3 => by
  by_cases e : q = a
  · obtain rfl : p = q := by omega
    exact Int.le_refl _
  · by_cases e2 : p = a
    · subst e2; exact h.2 q (by omega) (by omega)
    · exact h.1 p q k1 k2 (by omega) e2 e
theorem Ins.done {f a i j} (h : Ins f a i (j+1)) (ha : a ≤ j) (hj : j + 1 ≤ i) (hle : ¬ (f (j+1)).w < (f j).w) : Srtd f a (i+1) := fun p q k1 k2 k3 => by
  by_cases e : q = j + 1
  · subst e
    by_cases e2 : p = j + 1
    · subst e2; exact Int.le_refl _
    · have := h.1 p j k1 (by omega) (by omega) e2 (by omega); omega
  · by_cases e2 : p = j + 1
    · subst e2; exact h.2 q (by omega) (by omega)
    · exact h.1 p q k1 k2 (by omega) e2 e

theorem Srtd.one (f : Nat → Coin) (a : Nat) : Srtd f a (a + 1) := fun p q k1 k2 k3 => by
  obtain rfl : p = q := by omega
  exact Int.le_refl _
def InsPost (w : World) (g n a b : Nat) (f : Nat → Coin) (e : Ending) (w' : World) : Prop :=
  ∃ f', e = .returned (.tuple #[]) ∧ w.grownBy w' (some g) ∧ CB w' g n f' ∧ Pm a b f f' ∧ Srtd f' a b
set_option maxHeartbeats 2000000 in
theorem insertion_any {g n c a b : Nat} {f : Nat → Coin} (w : World) (h : CB w g n f) (h1 : a ≤ b) (h2 : b ≤ n) (hn : n ≤ 1073741824) :
    Calls Try.prog 57 #[.slice (some ⟨g, 0, none⟩) n c, .int .i64 a, .int .i64 b, .func (.func 33) #[] #[]] w (InsPost w g n a b f) := by
  go_enter Try.func57, Try.ntmps57
  go_wp2
  go_loopw [8, 9] (fun i _ wr => ∃ (k : Nat) (f' : Nat → Coin), a + 1 ≤ k ∧ k ≤ b + 1 ∧ (k ≤ b ∨ a = b) ∧ i = .int .i64 k ∧ CB wr g n f' ∧ w.grownBy wr (some g) ∧ Pm a b f f' ∧ Srtd f' a k) (fun i _ _ => b + 1 - (intOf i).toNat)
  case atStart => exact ⟨a + 1, f, by omega, by omega, by omega, by go_num, h, World.grownBy.refl _ _, Pm.refl _ _ _, Srtd.one _ _⟩
  case round =>
    clear h
    obtain ⟨k, f', hk1, hk2, hk3, rfl, h, hg, hP, hS⟩ := hrel
    obtain ⟨wo, rfl⟩ : ∃ wo : World, wo = wr := ⟨_, rfl⟩
    have HP := Lib.hid hP
    have HS := Lib.hid hS
    clear hP hS
    by_cases hlt : k < b
    · have hd : decide ((k : Int) < b) = true := by simp; omega
      go_wp2
      go_loopw [9] (fun jv wr => ∃ (j : Nat) (f' : Nat → Coin), a ≤ j ∧ j ≤ k ∧ jv = .int .i64 j ∧ CB wr g n f' ∧ w.grownBy wr (some g) ∧ Hid (Pm a b f f') ∧ Hid (Ins f' a k j)) (fun jv _ => (intOf jv).toNat)
      case atStart => exact ⟨k, f', by omega, by omega, rfl, h, hg, HP, Ins.start HS.out⟩
      case round =>
        clear h hg HP HS
        obtain ⟨j, f2, hj1, hj2, rfl, h, hg, HP, HI⟩ := hrel
        by_cases hja : a < j
        · have hd2 : decide ((a : Int) < (j : Int)) = true := by simp; omega
          have a0 := h.cell0 (i := j) (by omega)
          have a1 := h.cell1 (i := j) (by omega)
          have b0 := h.cell0 (i := j - 1) (by omega)
          have b1 := h.cell1 (i := j - 1) (by omega)
          have e0 := h.frozen (j * 2)
          have e1 := h.frozen (j * 2 + 1)
          have e2 := h.frozen ((j - 1) * 2)
          have e3 := h.frozen ((j - 1) * 2 + 1)
          have A0 := fun n os => cell_grown h.lt a0 n os
          have A1 := fun n os => cell_grown h.lt a1 n os
          have B0 := fun n os => cell_grown h.lt b0 n os
          have B1 := fun n os => cell_grown h.lt b1 n os
          by_cases hcm : (f2 j).w < (f2 (j - 1)).w
          · have hcb : decide (cmpI (f2 j).w (f2 (j - 1)).w < 0) = true := by rw [cmpI_neg]; simp [hcm]
            have HCM := Lib.hid hcm
            clear hcm
            go_wp2
            refine wp_region_quiet_grown (by kernel_rfl) (by kernel_rfl) ?_
            repeat (first | go_big_quiet_step ((go_at_call 33; exact lighter_grown)) | quiet_step ((go_at_call 33; exact lighter_grown)))
            refine wpQuiet_nil ?_
            intro _ hw'
            obtain ⟨⟨nq, osq⟩, hw''⟩ := hw'
            subst hw''
            have h3 := h.grown nq osq
            have hg3 := grown_grow hg nq osq
            generalize grow (wr.drewN nq) osq = W2 at *
            clear A0 A1 B0 B1 a0 a1 b0 b1 e0 e1 e2 e3 h hg
            have a0 := h3.cell0 (i := j) (by omega)
            have a1 := h3.cell1 (i := j) (by omega)
            have b0 := h3.cell0 (i := j - 1) (by omega)
            have b1 := h3.cell1 (i := j - 1) (by omega)
            have e0 := h3.frozen (j * 2)
            have e1 := h3.frozen (j * 2 + 1)
            have e2 := h3.frozen ((j - 1) * 2)
            have e3 := h3.frozen ((j - 1) * 2 + 1)
            have hs := h3.swap (i := j) (j := j - 1) (by omega) (by omega) rfl rfl
            have HI2 : Ins (swp f2 j (j - 1)) a k (j - 1) := by
              obtain ⟨q, rfl⟩ : ∃ q, j = q + 1 := ⟨j - 1, by omega⟩
              rw [Nat.add_sub_cancel] at HCM ⊢
              exact HI.out.step (by omega) (by omega) HCM.out
            go_wp2
            go_region
            go_wp2
            go_roundw
            case rel => exact ⟨j - 1, _, by omega, by omega, by go_num, hs, grown_swap hg3 _ _ _ _ _ _ _ _, HP.out.trans (Pm.swp _ (by omega) (by omega) (by omega) (by omega)), HI2⟩
            case measure => simp [intOf]; omega
          · have hcb : decide (cmpI (f2 j).w (f2 (j - 1)).w < 0) = false := by rw [cmpI_neg]; simp; omega
            have HCM := Lib.hid hcm
            clear hcm
            go_wp2
            refine wp_region_quiet_grown (by kernel_rfl) (by kernel_rfl) ?_
            repeat (first | go_big_quiet_step ((go_at_call 33; exact lighter_grown)) | quiet_step ((go_at_call 33; exact lighter_grown)))
            refine wpQuiet_nil ?_
            intro _ hw'
            obtain ⟨⟨nq, osq⟩, hw''⟩ := hw'
            subst hw''
            have h3 := h.grown nq osq
            have hg3 := grown_grow hg nq osq
            generalize grow (wr.drewN nq) osq = W2 at *
            have HS : Srtd f2 a (k + 1) := by
              obtain ⟨q, rfl⟩ : ∃ q, j = q + 1 := ⟨j - 1, by omega⟩
              rw [Nat.add_sub_cancel] at HCM
              exact HI.out.done (by omega) (by omega) (by have := HCM.out; omega)
            have HS2 := Lib.hid HS
            clear HS A0 A1 B0 B1 a0 a1 b0 b1 h hg
            go_wp2
            go_roundw
            case rel => exact ⟨k + 1, f2, by omega, by omega, by omega, by go_num, h3, hg3, HP.out, HS2.out⟩
            case measure => simp [intOf]; omega
        · obtain rfl : j = a := by omega
          have hd2 : decide ((j : Int) < (j : Int)) = false := by simp
          have HS2 := Lib.hid (HI.out.done0)
          go_wp2
          go_quiet (fail)
          go_wp2
          go_roundw
          case rel => exact ⟨k + 1, f2, by omega, by omega, by omega, by go_num, h.grown _ #[], grown_drewN hg _, HP.out, HS2.out⟩
          case measure => simp [intOf]; omega
    · go_wp2
      go_end0
      have : Srtd f' a b := by
        rcases (by omega : k = b ∨ a = b) with rfl | rfl
        · exact HS.out
        · intro p q k1 k2 k3; omega
      exact ⟨f', rfl, hg, h, HP.out, this⟩
end Go.Proofs.Ytpecemkjoklhfaa.Srt
