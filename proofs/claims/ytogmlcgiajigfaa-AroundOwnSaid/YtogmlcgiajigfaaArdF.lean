/-
  Walks: the reference's end (least, greatest).
-/
import Derived.Test.YtogmlcgiajigfaaArdC
set_option linter.unusedVariables false
set_option linter.unusedSimpArgs false
namespace Go.Proofs.Ytogmlcgiajigfaa.Ard
open Go.RowKit K

def endK (most : Bool) (l : List Int) (k : Nat) : Int := if most then maxK l k else minK l k
theorem rend_any {A : Option Addr} {n c : Nat} {l : List Int} {most : Bool} (w : World) (HA : SI w .i64 A n l) (h0 : 0 < n) : Calls Try.prog 63 #[.slice A n c, .bool most] w fun e w' => e = .returned (.int .i64 (endK most l n)) ∧ ∃ k, w.drewN k = w' := by
  have hbig := HA.big
  have hlen := HA.len
  obtain ⟨b0, o0, x0, e0, hc0, hx0, -⟩ := HA.cells (i := 0) h0
  rw [Nat.add_zero] at hc0
  have H1 : Hid (endK most l 1 = x0) := by
    show _ = _
    unfold endK
    rw [minK_one (by omega), maxK_one (by omega), getD_at hx0.out]; simp
  clear hx0
  have hi : (0 : Int) < (n : Int) := by omega
  clear hlen
  subst e0
  have HH := Lib.hid HA
  clear HA
  go_enter Try.func63, Try.ntmps63
  go_wp2
  go_loopw [5, 6] (fun s i wr => ∃ k q : Nat, k ≤ n ∧ 1 ≤ k ∧ i = .int .i64 k ∧ s = .int .i64 (endK most l k) ∧ w.drewN q = wr) (fun _ i _ => n - (intOf i).toNat)
  case atStart => exact ⟨1, 0, by omega, Nat.le_refl _, rfl, by rw [H1.out], rfl⟩
  case round =>
    obtain ⟨k, q, hk, hk1, rfl, rfl, rfl⟩ := hrel
    by_cases hlt : k < n
    · obtain ⟨b, off, x, e1, hc, hx, hx2⟩ := HH.out.cells hlt
      injection e1 with e1
      injection e1 with e2 e3
      subst e2 e3
      have hlt' : (k : Int) < n := by omega
      have hk0 : (0 : Int) ≤ (k : Int) := by omega
      have hd : decide ((k : Int) < (n : Int)) = true := by simp; omega
      have HS : Hid (endK most l (k + 1) = if most then max (endK most l k) x else min (endK most l k) x) := by
        show _ = _
        unfold endK
        rw [minK_succ hx.out, maxK_succ hx.out]; cases most <;> rfl
      clear hx
      generalize endK most l k = v at *
      cases most
      · by_cases hv : x < v
        · have dv : decide (x < v) = true := decide_eq_true hv
          go_wp2
          go_roundw
          case rel => exact ⟨k + 1, _, by omega, by omega, by go_num, by rw [HS.out]; congr 1; simp; omega, rfl⟩
          case measure => simp [intOf]; omega
        · have dv : decide (x < v) = false := decide_eq_false hv
          go_wp2
          go_roundw
          case rel => exact ⟨k + 1, _, by omega, by omega, by go_num, by rw [HS.out]; congr 1; simp; omega, rfl⟩
          case measure => simp [intOf]; omega
      · by_cases hv : v < x
        · have dv : decide (v < x) = true := decide_eq_true hv
          go_wp2
          go_roundw
          case rel => exact ⟨k + 1, _, by omega, by omega, by go_num, by rw [HS.out]; congr 1; simp; omega, rfl⟩
          case measure => simp [intOf]; omega
        · have dv : decide (v < x) = false := decide_eq_false hv
          go_wp2
          go_roundw
          case rel => exact ⟨k + 1, _, by omega, by omega, by go_num, by rw [HS.out]; congr 1; simp; omega, rfl⟩
          case measure => simp [intOf]; omega
    · obtain rfl : k = n := by omega
      have hd : decide ((k : Int) < (k : Int)) = false := by simp
      go_wp2
      go_ret
      exact ⟨rfl, _, rfl⟩
end Go.Proofs.Ytogmlcgiajigfaa.Ard
