/-
  The walk of the law PrefixCodes.
-/
import Derived.Test.YtpecemkjoklhfaaWakA
set_option linter.unusedVariables false
set_option linter.unusedSimpArgs false
namespace Go.Proofs.Ytpecemkjoklhfaa.Law
open Go.RowKit K Pfx Bits Bld Wak

theorem out_eq {l : List Int} (h0 : l.any badLen = false) {i : Nat} (hi : i < l.length) : (if given l 17 0 i then codeAt l i else 0) = codeAt l i := by
  have h : ∀ x ∈ l, badLen x = false := fun x hx => by
    have := List.any_eq_false.1 h0 x hx
    simpa using this
  by_cases hg : given l 17 0 i = true
  · rw [if_pos hg]
  · rw [if_neg hg]
    have hm : l.getD i 0 ∈ l := by
      rw [List.getD_eq_getElem?_getD, List.getElem?_eq_getElem hi]
      exact List.getElem_mem hi
    have := h _ hm
    unfold codeAt
    simp only [given, badLen, Bool.or_eq_true, Bool.and_eq_true, decide_eq_true_eq, Bool.or_eq_false_iff, decide_eq_false_iff_not] at hg this
    show 0 = if 0 < l.getD i 0 then _ else _
    rw [if_neg (by omega)]
def LawPost (w : World) (e : Ending) (w' : World) : Prop := e = .returned (.bool true) ∧ Below w.heap.size w w'
set_option maxHeartbeats 2000000 in
theorem prefixCodes_any {A : Option Addr} {n c : Nat} {l : List Int} (w : World) (HA : SI w .i64 A n l) :
    Calls Try.prog 3 #[.slice A n c] w (LawPost w) := by
  have hbig := HA.big
  have hlen := Lib.hid HA.len
  go_enter Try.func3, Try.ntmps3
  go_wp2_with fail
  refine (wakes_any _).mono ?_
  rintro e w1 ⟨rfl, hb1⟩
  have HA1 := HA.below hb1 (Nat.le_refl _)
  go_wp2_with fail
  refine (own_any _ HA1).mono ?_
  rintro e w2 ⟨A2, c2, rfl, hown2, hb2⟩
  have hs2 : SI w2 .i64 A2 n l := SI.of_own hown2 hbig
  have HA2 := HA1.below hb2 (Nat.le_refl _)
  have Hb2 := hb1.trans (hb2.mono hb1.size)
  clear hown2 hb2 HA1
  go_wp2_with fail
  refine (room_any _ hs2).mono ?_
  rintro e w3 ⟨rfl, rfl⟩
  go_wp2_with fail
  refine (rroom_any _ HA2).mono ?_
  rintro e w3 ⟨rfl, rfl⟩
  clear hs2
  go_wp2_with fail
  refine (own_any _ HA2).mono ?_
  rintro e w3 ⟨A3, c3, rfl, hown3, hb3⟩
  have hs3 : SI w3 .i64 A3 n l := SI.of_own hown3 hbig
  have HA3 := HA2.below hb3 (Nat.le_refl _)
  have Hb3 := Hb2.trans (hb3.mono Hb2.size)
  clear hown3 hb3 HA2 Hb2 hb1
  have q1 : ((roomRes l).1 != (roomRes l).1) = false := by simp
  have q2 : ((roomRes l).2 != (roomRes l).2) = false := by simp
  by_cases hc : checkedOf l = 0
  · go_wp2_with fail
    refine (codes_ok _ hs3 hc).mono ?_
    rintro e w4 ⟨rfl, h4⟩
    have HA4 := HA3.below h4.bel (Nat.le_refl _)
    have Hb4 := Hb3.trans (h4.bel.mono Hb3.size)
    have o4 := h4.out
    have z4 := h4.sz
    clear h4 HA3 Hb3 hs3
    go_wp2_with fail
    refine (rcodes_ok _ HA4 hc).mono ?_
    rintro e w5 ⟨rfl, h5⟩
    have Hb5 := Lib.hid (Hb4.trans (h5.bel.mono Hb4.size))
    have HC : Hid (∀ k, k < n → w5.cell? ⟨w3.heap.size + 2, k, none⟩ = some (.int .u32 (codeAt l k))) := by
      intro k hk
      have hkl : k < l.length := by rw [hlen.out]; exact hk
      have := (grown_below h5.bel none).cell (o4.cell hkl) (by simp)
      rw [if_pos hk] at this
      exact this
    have HD : Hid (∀ k, k < n → w5.cell? ⟨w4.heap.size, k, none⟩ = some (.int .u32 (codeAt l k))) := by
      intro k hk
      have hkl : k < l.length := by rw [hlen.out]; exact hk
      have := h5.out.cell hkl
      rw [out_eq (checked_zero hc).2.1 hkl] at this
      exact this
    have q3 : ((n : Int) != (n : Int)) = false := by simp
    clear h5 o4 z4 Hb4 HA4 hc HA
    go_wp2
    go_loopw [58] (fun i wr => ∃ k q : Nat, k ≤ n ∧ i = .int .i64 k ∧ w5.drewN q = wr) (fun i _ => n - (intOf i).toNat)
    case atStart => exact ⟨0, 0, by omega, rfl, rfl⟩
    case round =>
      obtain ⟨k, q, hk, rfl, rfl⟩ := hrel
      by_cases hlt : k < n
      · have hc1 := HC.out k hlt
        have hc2 := HD.out k hlt
        have hd : decide ((k : Int) < (n : Int)) = true := by simp; omega
        generalize codeAt l k = y at hc1 hc2
        have hb : (y != y) = false := by simp
        go_wp2
        go_quiet (fail)
        go_wp2
        go_roundw
        case rel => exact ⟨k + 1, _, by omega, by go_num, rfl⟩
        case measure => simp [intOf]; omega
      · have hd : decide ((k : Int) < (n : Int)) = false := by simp; omega
        go_wp2
        go_ret
        exact ⟨rfl, below_drewN Hb5.out _⟩
  · have Hc := Lib.hid hc
    clear hc
    have q3 : (checkedOf l != checkedOf l) = false := by simp
    go_wp2_with fail
    refine (codes_err _ hs3 Hc.out).mono ?_
    rintro e w4 ⟨rfl, rfl⟩
    go_wp2_with fail
    refine (rcodes_err _ HA3 Hc.out).mono ?_
    rintro e w4 ⟨rfl, rfl⟩
    have Hb5 := Lib.hid Hb3
    clear HA3 hs3 Hb3 HA
    go_wp2
    go_loopw [58] (fun i wr => i = .int .i64 0 ∧ w3 = wr) (fun i _ => 0)
    case atStart => exact ⟨rfl, rfl⟩
    case round =>
      obtain ⟨rfl, rfl⟩ := hrel
      go_wp2
      go_ret
      exact ⟨rfl, Hb5.out⟩
end Go.Proofs.Ytpecemkjoklhfaa.Law
