/-
  The walk of the law PrefixApart, and its plain law: codes of the table begin no other one and rise.
-/
import Derived.Test.YtpecemkjoklhfaaWakA
import Derived.Test.YtpecemkjoklhfaaRefM
set_option linter.unusedVariables false
set_option linter.unusedSimpArgs false
namespace Go.Proofs.Ytpecemkjoklhfaa.LawP
open Go.RowKit K Pfx Bits Bld Wak

theorem cnt_mono (l : List Int) (j : Nat) {a b : Nat} (h : a ≤ b) : cnt l j a ≤ cnt l j b := by
  unfold cnt
  exact List.Sublist.count_le _ (List.take_sublist_take_left h)
theorem code_of {l : List Int} {i : Nat} {x : Int} (hl : l.length ≤ 4096) (hx : l[i]? = some x) (h0 : 0 < x) (h1 : x ≤ 16) : codeAt l i = (first l x.toNat : Int) + cnt l x.toNat i ∧ (first l x.toNat : Int) + cnt l x.toNat i ≤ 536875008 := by
  have hf := first_le l x.toNat (by omega) hl
  have hi : i < l.length := by
    rcases Nat.lt_or_ge i l.length with h | h
    · exact h
    · rw [List.getElem?_eq_none h] at hx; cases hx
  have hc := cnt_le l x.toNat i
  unfold codeAt
  rw [getD_of hx]
  simp only []
  rw [if_pos h0]
  refine ⟨?_, by omega⟩
  rw [Int.emod_eq_of_lt (by omega) (by omega)]; push_cast; rfl
theorem apart_facts {l : List Int} {i k : Nat} {x y : Int} (hl : l.length ≤ 4096) (hx : l[i]? = some x) (hy : l[k]? = some y) (h0 : 0 < x) (hxy : x ≤ y) (hy1 : y ≤ 16) (hne : i ≠ k) :
    codeAt l k / 2 ^ (y - x).toNat ≠ codeAt l i ∧ (x < y → codeAt l i ≤ codeAt l k / 2 ^ (y - x).toNat) ∧ (x = y → i < k → codeAt l i < codeAt l k) := by
  have hi : i < l.length := by
    rcases Nat.lt_or_ge i l.length with h | h
    · exact h
    · rw [List.getElem?_eq_none h] at hx; cases hx
  have hk : k < l.length := by
    rcases Nat.lt_or_ge k l.length with h | h
    · exact h
    · rw [List.getElem?_eq_none h] at hy; cases hy
  rw [(code_of hl hx h0 (by omega)).1, (code_of hl hy (by omega) hy1).1]
  have e1 := cnt_succ x.toNat hx
  rw [if_pos (by omega)] at e1
  have e2 := cnt_succ y.toNat hy
  rw [if_pos (by omega)] at e2
  have m1 := cnt_mono l x.toNat (a := i + 1) (b := l.length) (by omega)
  by_cases e : x = y
  · subst e
    rw [show (x - x).toNat = 0 by omega, Int.pow_zero, Int.ediv_one]
    rcases Nat.lt_or_gt_of_ne hne with h | h
    · have := cnt_mono l x.toNat (a := i + 1) (b := k) (by omega)
      exact ⟨by omega, by omega, fun _ _ => by omega⟩
    · have := cnt_mono l x.toNat (a := k + 1) (b := i) (by omega)
      exact ⟨by omega, by omega, fun _ _ => by omega⟩
  · obtain ⟨d, hd⟩ : ∃ d, y.toNat = x.toNat + d + 1 := ⟨y.toNat - x.toNat - 1, by omega⟩
    have hg := Ref.first_ge l x.toNat (by omega) d
    rw [← hd] at hg
    rw [show (y - x).toNat = d + 1 by omega]
    have hp : (0 : Int) < 2 ^ (d + 1) := Int.pow_pos (by omega)
    have hle : (first l x.toNat : Int) + cnt l x.toNat l.length ≤ ((first l y.toNat : Int) + cnt l y.toNat k) / 2 ^ (d + 1) := by
      rw [Int.le_ediv_iff_mul_le hp]; omega
    generalize ((first l y.toNat : Int) + cnt l y.toNat k) / 2 ^ (d + 1) = q at *
    exact ⟨by omega, fun _ => by omega, fun h => absurd h e⟩
def LawPost (w : World) (e : Ending) (w' : World) : Prop := e = .returned (.bool true) ∧ Below w.heap.size w w'
set_option maxRecDepth 20000 in
set_option maxHeartbeats 4000000 in
theorem prefixApart_any {A : Option Addr} {n c : Nat} {l : List Int} (w : World) (HA : SI w .i64 A n l) :
    Calls Try.prog 5 #[.slice A n c] w (LawPost w) := by
  have hbig := HA.big
  have hlen := Lib.hid HA.len
  by_cases hn : 300 < n
  · go_enter Try.func5, Try.ntmps5
    go_wp2_with fail
    refine (wakes_any _).mono ?_
    rintro e w1 ⟨rfl, hb1⟩
    have Hb := Lib.hid hb1
    clear hb1 HA
    go_wp2
    go_ret
    exact ⟨rfl, Hb.out⟩
  have hn' : n ≤ 300 := by omega
  have hn3 : decide ((300 : Int) < (n : Int)) = false := by simp; omega
  go_enter Try.func5, Try.ntmps5
  go_wp2_with fail
  refine (wakes_any _).mono ?_
  rintro e w1 ⟨rfl, hb1⟩
  have HA1 := HA.below hb1 (Nat.le_refl _)
  clear HA
  go_wp2_with fail
  refine (own_any _ HA1).mono ?_
  rintro e w2 ⟨A2, c2, rfl, hown2, hb2⟩
  have hs2 : SI w2 .i64 A2 n l := SI.of_own hown2 hbig
  have HA2 := HA1.below hb2 (Nat.le_refl _)
  have Hb2 := hb1.trans (hb2.mono hb1.size)
  clear hown2 hb2 HA1 hb1
  by_cases hc : checkedOf l = 0
  · go_wp2_with fail
    refine (codes_ok _ hs2 hc).mono ?_
    rintro e w4 ⟨rfl, h4⟩
    have HA4 := HA2.below h4.bel (Nat.le_refl _)
    have Hb4 := Lib.hid (Hb2.trans (h4.bel.mono Hb2.size))
    have HC : Hid (∀ k, k < n → w4.cell? ⟨w2.heap.size + 2, k, none⟩ = some (.int .u32 (codeAt l k))) := by
      intro k hk
      have := h4.out.cell (i := k) (by rw [hlen.out]; exact hk)
      rwa [if_pos hk] at this
    have HG : Hid (∀ x ∈ l, 0 ≤ x ∧ x ≤ 16) := fun x hx => by
      have := List.any_eq_false.1 (checked_zero hc).2.1 x hx
      exact bad_of (by simpa using this)
    have HL : Hid (l.length ≤ 4096) := (checked_zero hc).1
    have HS := Lib.hid HA4
    have q3 : ((n : Int) != (n : Int)) = false := by simp
    clear h4 HA4 hc HA2 Hb2 hs2
    go_wp2
    go_loopw [37] (fun i wr => ∃ k q : Nat, k ≤ n ∧ i = .int .i64 k ∧ w4.drewN q = wr) (fun i _ => n - (intOf i).toNat)
    case atStart => exact ⟨0, 0, by omega, rfl, rfl⟩
    case round =>
      obtain ⟨i, q, hi, rfl, rfl⟩ := hrel
      by_cases hlt : i < n
      · have hd : decide ((i : Int) < (n : Int)) = true := by simp; omega
        obtain ⟨b1, o1, x, rfl, hc1, hx, -⟩ := HS.out.cells hlt
        have HX := Lib.hid (HG.out x (List.mem_of_getElem? hx.out))
        have hci := HC.out i hlt
        go_wp2
        go_loopw [42] (fun j wr => ∃ k q : Nat, k ≤ n ∧ j = .int .i64 k ∧ w4.drewN q = wr) (fun j _ => n - (intOf j).toNat)
        case atStart => exact ⟨0, q, by omega, rfl, rfl⟩
        case round =>
          obtain ⟨k, q, hk, rfl, rfl⟩ := hrel
          by_cases hlk : k < n
          · have hd2 : decide ((k : Int) < (n : Int)) = true := by simp; omega
            obtain ⟨b2, o2, y, he, hc2, hy, -⟩ := HS.out.cells hlk
            injection he with he
            injection he with he1 he2 he3
            subst he1 he2
            clear he3
            have hck := HC.out k hlk
            have HY := HG.out y (List.mem_of_getElem? hy.out)
            have HXY := Lib.hid HX.out
            by_cases hik : i = k
            · have t1 : ((i : Int) == (k : Int)) = true := by simp [hik]
              clear hik HY
              go_wp2
              go_quiet (fail)
              go_wp2
              go_roundw
              case rel => exact ⟨k + 1, _, by omega, by go_num, rfl⟩
              case measure => simp [intOf]; omega
            have t1 : ((i : Int) == (k : Int)) = false := by simp; omega
            by_cases hx0 : x = 0
            · have t2 : (x == 0) = true := by simp [hx0]
              clear hx0 HY
              go_wp2
              go_quiet (fail)
              go_wp2
              go_roundw
              case rel => exact ⟨k + 1, _, by omega, by go_num, rfl⟩
              case measure => simp [intOf]; omega
            have t2 : (x == 0) = false := by simp [hx0]
            by_cases hy0 : y = 0
            · have t3 : (y == 0) = true := by simp [hy0]
              clear hx0 hy0 HY
              go_wp2
              go_quiet (fail)
              go_wp2
              go_roundw
              case rel => exact ⟨k + 1, _, by omega, by go_num, rfl⟩
              case measure => simp [intOf]; omega
            have t3 : (y == 0) = false := by simp [hy0]
            by_cases hxy : y < x
            · have t4 : decide (y < x) = true := by simp [hxy]
              clear hx0 hy0 hxy HY
              go_wp2
              go_quiet (fail)
              go_wp2
              go_roundw
              case rel => exact ⟨k + 1, _, by omega, by go_num, rfl⟩
              case measure => simp [intOf]; omega
            have t4 : decide (y < x) = false := by simp; omega
            have hX := HX.out
            have hfa := Lib.hid (apart_facts HL.out hx.out hy.out (by omega) (by omega) (by omega) hik)
            have hcb := Lib.hid (code_of HL.out hy.out (by omega) (by omega))
            go_wp2
            go_quiet (fail)
            go_wp2
            go_quiet (fail)
            go_wp2
            have g := hfa.out
            have hle : x ≤ y := by omega
            clear hfa hcb hX hx0 hy0 hxy HX HXY HY t1 t2 t3 t4 hx hy
            generalize codeAt l k / 2 ^ (y - x).toNat = X at *
            generalize codeAt l k = ck at *
            generalize codeAt l i = ci at *
            obtain ⟨g1, g2, g3⟩ := g
            have u1 : (X == ci) = false := by simpa using g1
            by_cases e : x < y
            · have u2 : decide (x < y) = true := by simpa using e
              have u3 : decide (X < ci) = false := by have := g2 e; simp; omega
              have u4 : (x == y) = false := by simp; omega
              clear g1 g2 g3 e hik hle
              go_quiet (fail)
              go_wp2
              go_roundw
              case rel => exact ⟨k + 1, _, by omega, by go_num, rfl⟩
              case measure => simp [intOf]; omega
            by_cases e2 : x = y
            · subst e2
              have g3' := g3 rfl
              have u2 : decide (x < x) = false := by simp
              have u4 : (x == x) = true := by simp
              by_cases e3 : i < k
              · have u5 : decide (i < k) = true := by simp; omega
                have u6 : decide (ck ≤ ci) = false := by have := g3' e3; simp; omega
                clear g1 g2 g3 g3' e e3 hik hle
                go_quiet (fail)
                go_wp2
                go_roundw
                case rel => exact ⟨k + 1, _, by omega, by go_num, rfl⟩
                case measure => simp [intOf]; omega
              · have u5 : decide (i < k) = false := by simp; omega
                clear g1 g2 g3 g3' e e3 hik hle
                go_quiet (fail)
                go_wp2
                go_roundw
                case rel => exact ⟨k + 1, _, by omega, by go_num, rfl⟩
                case measure => simp [intOf]; omega
            · exfalso; omega
          · have hd2 : decide ((k : Int) < (n : Int)) = false := by simp; omega
            go_wp2
            go_roundw
            case rel => exact ⟨i + 1, _, by omega, by go_num, rfl⟩
            case measure => simp [intOf]; omega
      · have hd : decide ((i : Int) < (n : Int)) = false := by simp; omega
        go_wp2
        go_ret
        exact ⟨rfl, below_drewN Hb4.out _⟩
  · have Hc := Lib.hid hc
    have q3 : (checkedOf l != 0) = true := by simp [hc]
    have Hb4 := Lib.hid Hb2
    clear hc Hb2
    go_wp2_with fail
    refine (codes_err _ hs2 Hc.out).mono ?_
    rintro e w4 ⟨rfl, rfl⟩
    clear HA2 hs2
    go_wp2
    go_ret
    exact ⟨rfl, Hb4.out⟩
end Go.Proofs.Ytpecemkjoklhfaa.LawP
