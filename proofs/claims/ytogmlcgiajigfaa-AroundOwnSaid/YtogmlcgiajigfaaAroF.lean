/-
  Walks: the reference's Same.
-/
import Derived.Test.YtogmlcgiajigfaaArdX
import Derived.Test.YtogmlcgiajigfaaAroB
set_option linter.unusedVariables false
set_option linter.unusedSimpArgs false
namespace Go.Proofs.Ytogmlcgiajigfaa.Ard
open Go.RowKit K

def sameB (W H : Int) (l : List Int) (W2 H2 : Int) (l2 : List Int) : Bool := decide (W = W2 ∧ H = H2 ∧ l = l2)
set_option maxHeartbeats 2000000 in
theorem same_any {W H W2 H2 : Int} {P P2 : Option Addr} {pn pc pn2 pc2 : Nat} {l l2 : List Int} (w : World) (HP : SI w .u16 P pn l) (HP2 : SI w .u16 P2 pn2 l2) :
    Calls Try.prog 21 #[.agg #[.int .i64 W, .int .i64 H, .slice P pn pc], .agg #[.int .i64 W2, .int .i64 H2, .slice P2 pn2 pc2]] w (TestP w (sameB W H l W2 H2 l2)) := by
  have hlen := HP.len
  have hlen2 := HP2.len
  have hbig : pn ≤ 140737488351232 := by have := HP.sz; simp only [kb] at this; omega
  obtain ⟨W0, hW0, r0, r1, hs, hb⟩ := two_allocs w (.cells #[.int .i64 W, .int .i64 H, .slice P pn pc] 37) (.cells #[.int .i64 W2, .int .i64 H2, .slice P2 pn2 pc2] 37)
  have HB := Lib.hid hb
  have x0 := row_cell r0 0
  have x1 := row_cell r0 1
  have x2 := row_cell r0 2
  have y0 := row_cell r1 0
  have y1 := row_cell r1 1
  have y2 := row_cell r1 2
  by_cases h1 : W = W2
  · have n1 : (W != W2) = false := by simp [h1]
    by_cases h2 : H = H2
    · have n2 : (H != H2) = false := by simp [h2]
      by_cases h3 : pn = pn2
      · have n3 : ((pn : Int) != (pn2 : Int)) = false := by simp [h3]
        have HP1 := Lib.hid (HP.below hb (Nat.le_refl _))
        have HPB := Lib.hid (HP2.below hb (Nat.le_refl _))
        have R0 := Lib.hid r0
        have R1 := Lib.hid r1
        have HLL : Hid (l.length = pn ∧ l2.length = pn) := ⟨hlen, by rw [hlen2, h3]⟩
        have H3 := Lib.hid h3
        have HVAL : Hid (sameB W H l W2 H2 l2 = decide (l = l2)) := by show _ = _; unfold sameB; simp [h1, h2]
        clear hlen hlen2 HP HP2 hs hb r0 r1 h1 h2 h3
        go_enter Try.func21, Try.ntmps21
        go_wp2_with fail
        clear hW0 n1 n2 n3 x0 x1 y0 y1
        go_loopw [5] (fun s5 wr => ∃ k q : Nat, k ≤ pn ∧ s5 = .int .i64 k ∧ W0.drewN q = wr ∧ ∀ i, i < k → l[i]? = l2[i]?) (fun s5 _ => pn - (intOf s5).toNat)
        case atStart => exact ⟨0, 0, by omega, rfl, rfl, fun i hi => by omega⟩
        case round =>
          obtain ⟨k, q, hk, rfl, rfl, hin⟩ := hrel
          have HIN := Lib.hid hin
          clear hin
          by_cases hlt : k < pn
          · have d0 : decide ((k : Int) < (pn : Int)) = true := decide_eq_true (by omega)
            have e0 : decide (k < pn) = true := decide_eq_true hlt
            have j0 : (0 : Int) ≤ (k : Int) := by omega
            have j1 : (k : Int) < (pn : Int) := by omega
            have j2 : (k : Int) < (pn2 : Int) := by have := H3.out; omega
            obtain ⟨b1, o1, v1, rfl, c1, hv1, -⟩ := HP1.out.cells hlt
            obtain ⟨b2, o2, v2, rfl, c2, hv2, -⟩ := HPB.out.cells (i := k) (by have := H3.out; omega)
            have HWJ : Hid (wrap64 ((k : Int) + 1) = ((k + 1 : Nat) : Int)) := by show _ = _; rw [IntWalk.wrap64_in _ (by omega)]; rfl
            by_cases hv : v1 = v2
            · have t1 : (v1 != v2) = false := by simp [hv]
              have HEQ : Hid (l[k]? = l2[k]?) := by show _ = _; rw [hv1.out, hv2.out, hv]
              clear hv hv1 hv2
              go_wp2_with fail
              go_quiet (fail)
              go_wp2_with fail
              go_roundw
              case rel => exact ⟨k + 1, q + nq, by omega, by first | rw [HWJ.out] | rfl, by first | rfl | rw [World.drewN_drewN], fun i hi => by
                rcases Nat.lt_or_ge i k with h | h
                · exact HIN.out i h
                · obtain rfl : i = k := by omega
                  exact HEQ.out⟩
              case measure => simp [intOf]; omega
            · have t1 : (v1 != v2) = true := by simp [hv]
              have HNE : Hid (decide (l = l2) = false) := by
                show _ = _
                refine decide_eq_false fun e => hv ?_
                have h1 := hv1.out
                rw [e, hv2.out] at h1
                injection h1 with h1
                exact h1.symm
              clear hv hv1 hv2
              go_wp2_with fail
              go_quiet (fail)
              go_wp2_with fail
              go_ret
              exact ⟨by rw [HVAL.out, HNE.out]; rfl, below_drewN (below_drewN HB.out _) _⟩
          · obtain rfl : k = pn := by omega
            have d0 : decide ((k : Int) < (k : Int)) = false := by simp
            have HEQ : Hid (decide (l = l2) = true) := by
              show _ = _
              refine decide_eq_true (List.ext_getElem? fun i => ?_)
              by_cases hi : i < k
              · exact HIN.out i hi
              · rw [List.getElem?_eq_none_iff.2 (by have := HLL.out.1; omega), List.getElem?_eq_none_iff.2 (by have := HLL.out.2; omega)]
            go_wp2_with fail
            go_ret
            exact ⟨by rw [HVAL.out, HEQ.out]; rfl, below_drewN HB.out _⟩
      · have n3 : ((pn : Int) != (pn2 : Int)) = true := by simp; omega
        have HVAL : Hid (sameB W H l W2 H2 l2 = false) := by
          show _ = _
          refine decide_eq_false fun e => h3 ?_
          rw [← hlen, ← hlen2, e.2.2]
        clear hlen hlen2 HP HP2 hs hb r0 r1 h1 h2 h3
        go_enter Try.func21, Try.ntmps21
        go_wp2_with fail
        go_ret
        exact ⟨by rw [HVAL.out]; rfl, HB.out⟩
    · have n2 : (H != H2) = true := by simp [h2]
      have HVAL : Hid (sameB W H l W2 H2 l2 = false) := decide_eq_false fun e => h2 e.2.1
      clear hlen hlen2 HP HP2 hs hb r0 r1 h1 h2
      go_enter Try.func21, Try.ntmps21
      go_wp2_with fail
      go_ret
      exact ⟨by rw [HVAL.out]; rfl, HB.out⟩
  · have n1 : (W != W2) = true := by simp [h1]
    have HVAL : Hid (sameB W H l W2 H2 l2 = false) := decide_eq_false fun e => h1 e.1
    clear hlen hlen2 HP HP2 hs hb r0 r1 h1
    go_enter Try.func21, Try.ntmps21
    go_wp2_with fail
    go_ret
    exact ⟨by rw [HVAL.out]; rfl, HB.out⟩
end Go.Proofs.Ytogmlcgiajigfaa.Ard
