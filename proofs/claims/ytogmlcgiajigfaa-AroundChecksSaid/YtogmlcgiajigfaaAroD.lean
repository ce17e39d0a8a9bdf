/-
  Walks: AroundChecks: true, whatever the operator's name and the arguments.
-/
import Derived.Test.YtogmlcgiajigfaaAroC
set_option linter.unusedVariables false
set_option linter.unusedSimpArgs false
namespace Go.Proofs.Ytogmlcgiajigfaa.Ard
open Go.RowKit K

set_option maxHeartbeats 2000000 in
theorem aroundChecks_any {op : ByteArray} {A : Option Addr} {n c : Nat} {a : List Int} (w : World) (HA : SI w .i64 A n a) : Calls Try.prog 3 #[.string op, .slice A n c] w (TestP w true) := by
  have HAA := Lib.hid HA
  have hbig := HA.big
  clear HA
  go_enter Try.func3, Try.ntmps3
  go_wp2_with fail
  refine (wakes_any w).mono ?_
  rintro e w1 ⟨rfl, hb1⟩
  go_wp2_with fail
  refine (names_any w1).mono ?_
  rintro e w2 ⟨g1, c1, rfl, hs1, hb2⟩
  go_wp2_with fail
  refine (rnames_any w2).mono ?_
  rintro e w3 ⟨g2, rfl, hs2, hb3⟩
  have S1 : Hid (Sl w3 (some ⟨g1, 0, none⟩) namesC) := hs1.below hb3 (Nat.le_refl _)
  have S2 := Lib.hid hs2
  have HB3 : Hid (Below w.heap.size w w3) := (hb1.trans (hb2.mono hb1.size)).trans (hb3.mono (Nat.le_trans hb1.size hb2.size))
  clear hb1 hb2 hb3 hs1 hs2
  go_wp2_with fail
  go_loopw [18] (fun s18 wr => ∃ k q : Nat, k ≤ 9 ∧ s18 = .int .i64 k ∧ w3.drewN q = wr) (fun s18 _ => 9 - (intOf s18).toNat)
  case atStart => exact ⟨0, 0, by omega, rfl, rfl⟩
  case round =>
    obtain ⟨k, q, hk, rfl, rfl⟩ := hrel
    by_cases hlt : k < 9
    · have d0 : decide ((k : Int) < 9) = true := decide_eq_true (by omega)
      have d1 : decide ((9 : Int) ≤ (k : Int)) = false := decide_eq_false (by omega)
      have i0 : (0 : Int) ≤ (k : Int) := by omega
      have i1 : (k : Int) < 9 := by omega
      obtain ⟨b1, o1, e1, hc1⟩ := S1.out k _ (namesC_at hlt)
      injection e1 with e1
      injection e1 with e1 e2
      subst e1 e2
      obtain ⟨b2, o2, e1, hc2⟩ := S2.out k _ (namesC_at hlt)
      injection e1 with e1
      injection e1 with e1 e2
      subst e1 e2
      rw [Nat.zero_add] at hc1 hc2
      go_wp2_with fail
      go_quiet (fail)
      go_wp2_with fail
      go_roundw
      case rel => exact ⟨k + 1, q + nq, by omega, by go_num, by first | rfl | rw [World.drewN_drewN]⟩
      case measure => simp [intOf]; omega
    · obtain rfl : k = 9 := by omega
      simp only [Int.cast_ofNat_Int]
      have HBQ : Hid (Below w.heap.size w (w3.drewN q)) := below_drewN HB3.out q
      generalize w3.drewN q = w4 at HBQ ⊢
      clear S1 S2 HB3
      go_wp2_with fail
      have hlen := HAA.out.len
      have HL : Hid (a.length * kb .i64 ≤ 140737488351232) := by show a.length * 8 ≤ _; omega
      have HN := Lib.hid hlen
      clear hlen hbig hk hlt
      refine (ints_any w4 (HAA.out.below HBQ.out (Nat.le_refl _))).mono ?_
      rintro e w5 ⟨A5, c5, rfl, hown5, hb5⟩
      have HB5 : Hid (Below w.heap.size w w5) := HBQ.out.trans (hb5.mono HBQ.out.size)
      have SI5 : Hid (SI w5 .i64 A5 a.length a) := SI.of_own hown5 HL.out
      clear hown5 hb5
      go_wp2_with fail
      refine (preach_any (op := op) (c := c5) w5 SI5.out).mono ?_
      rintro e w6 ⟨rfl, hb6⟩
      have HB6 : Hid (Below w.heap.size w w6) := HB5.out.trans (hb6.mono HB5.out.size)
      clear hb6
      obtain ⟨rv, hrv⟩ : ∃ rv, (if checkE op a = 0 then reachE op a else 0) = rv := ⟨_, rfl⟩
      have HRV := Lib.hid hrv
      rw [hrv]
      clear hrv
      go_wp2_with fail
      refine (rreach_any (op := op) (c := c) w6 (HAA.out.below HB6.out (Nat.le_refl _))).mono ?_
      rintro e w7 ⟨rfl, hb7⟩
      have HB7 : Hid (Below w.heap.size w w7) := HB6.out.trans (hb7.mono HB6.out.size)
      clear hb7
      rw [HRV.out]
      go_wp2_with fail
      refine (ints_any w7 (HAA.out.below HB7.out (Nat.le_refl _))).mono ?_
      rintro e w8 ⟨A8, c8, rfl, hown8, hb8⟩
      have HB8 : Hid (Below w.heap.size w w8) := HB7.out.trans (hb8.mono HB7.out.size)
      have SI8 : Hid (SI w8 .i64 A8 a.length a) := SI.of_own hown8 HL.out
      clear hown8 hb8
      go_wp2_with fail
      refine (check_any (op := op) (c := c8) w8 SI8.out).mono ?_
      rintro e w9 ⟨rfl, hb9⟩
      have HB9 : Hid (Below w.heap.size w w9) := HB8.out.trans (hb9.mono HB8.out.size)
      clear hb9
      go_wp2_with fail
      refine (rcheck_any (op := op) (c := c) w9 (HAA.out.below HB9.out (Nat.le_refl _))).mono ?_
      rintro e w10 ⟨rfl, hb10⟩
      have HB10 : Hid (Below w.heap.size w w10) := HB9.out.trans (hb10.mono HB9.out.size)
      clear hb10
      go_wp2_with fail
      go_ret
      exact ⟨rfl, HB10.out⟩
end Go.Proofs.Ytogmlcgiajigfaa.Ard
