/-
  The walk of the law PrefixNil.
-/
import Derived.Test.YtpecemkjoklhfaaWakA
set_option linter.unusedVariables false
set_option linter.unusedSimpArgs false
namespace Go.Proofs.Ytpecemkjoklhfaa.LawN
open Go.RowKit K Pfx Bits Bld Wak

def LawPost (w : World) (e : Ending) (w' : World) : Prop := e = .returned (.bool true) ∧ Below w.heap.size w w'
set_option maxHeartbeats 2000000 in
theorem prefixNil_any {A : Option Addr} {n c : Nat} {l : List Int} (w : World) (HA : SI w .i64 A n l) :
    Calls Try.prog 7 #[.slice A n c] w (LawPost w) := by
  have hbig := HA.big
  have hlen := Lib.hid HA.len
  go_enter Try.func7, Try.ntmps7
  go_wp2_with fail
  refine (wakes_any _).mono ?_
  rintro e w1 ⟨rfl, hb1⟩
  have HA1 := HA.below hb1 (Nat.le_refl _)
  go_wp2_with fail
  refine (newReader_any (l := [1]) _ (SI.lit w1 .u8 [1] _ (by decide)) true (by decide)).mono ?_
  rintro e w2 ⟨p, Ar, cr, rfl, hp, -, -, hb2⟩
  have HA2 := (HA1.alloc _).below hb2 (Nat.le_refl _)
  have Hb2 := (hb1.alloc hb1.size _).trans (hb2.mono (by have := hb1.size; simp; omega))
  clear hb2 hb1 HA1 HA hp
  go_wp2_with fail
  refine (next_nil_dec _ _).mono ?_
  rintro e w3 ⟨rfl, rfl⟩
  go_wp2_with fail
  refine (own_any _ HA2).mono ?_
  rintro e w3 ⟨A3, c3, rfl, hown3, hb3⟩
  have hs3 : SI w3 .i64 A3 n l := SI.of_own hown3 hbig
  have Hb3 := Hb2.trans (hb3.mono Hb2.size)
  clear hown3 hb3 HA2 Hb2
  by_cases hc : checkedOf l = 0
  · go_wp2_with fail
    refine (new_ok _ hs3 hc).mono ?_
    rintro e w4 ⟨v, rfl, h4⟩
    have Hb4 := Lib.hid (Hb3.trans (h4.bel.mono Hb3.size))
    clear h4 hs3 Hb3
    go_wp2_with fail
    refine (next_nil_rdr _ _).mono ?_
    rintro e w5 ⟨rfl, rfl⟩
    go_wp2
    go_ret
    exact ⟨rfl, Hb4.out⟩
  · have hb : (checkedOf l != 0) = true := by simp [hc]
    have Hc := Lib.hid hc
    have Hb4 := Lib.hid Hb3
    clear hc Hb3
    go_wp2_with fail
    refine (new_err _ hs3 Hc.out).mono ?_
    rintro e w4 ⟨rfl, rfl⟩
    clear hs3
    go_wp2
    go_ret
    exact ⟨rfl, Hb4.out⟩
end Go.Proofs.Ytpecemkjoklhfaa.LawN
