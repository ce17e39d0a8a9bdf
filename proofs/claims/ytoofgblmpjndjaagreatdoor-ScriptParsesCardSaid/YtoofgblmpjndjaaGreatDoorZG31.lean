/-
  Walks: the law ScriptParses. (Printed by gen_lpa.py.)
-/
import Derived.Test.YtoofgblmpjndjaaGreatDoorZG30
import Derived.Test.YtoofgblmpjndjaaGreatDoorZG21
set_option linter.unusedVariables false
set_option linter.unusedSimpArgs false
namespace Go.Proofs.YtoofgblmpjndjaaGreatDoor.Scr
open Go.RowKit K Go.Lib Go.Shelf

theorem TS.none (w : World) : TS w none 0 [] := ⟨rfl, by omega, fun i p h => by simp at h⟩
set_option maxRecDepth 20000 in
set_option maxHeartbeats 8000000 in
theorem parses_err {t : Tx} (w : World) (HV : Vars w) {line er : Int} (hr : parseM t = .err line er) :
  Calls Tryz.prog 3 #[.string (ba t)] w fun e w' => e = .returned (.bool true) ∧ Below w.heap.size w w' := by
 obtain ⟨V0, hV0⟩ : ∃ x, w = x := ⟨_, rfl⟩
 suffices hsuf : Calls Tryz.prog 3 #[.string (ba t)] V0 fun e w' => e = .returned (.bool true) ∧ Below w.heap.size w w' by rw [hV0] at hsuf ⊢; exact hsuf
 have HB0 : Hid (Below w.heap.size w V0) := by rw [← hV0]; exact Below.refl _ _
 have HV0 : Hid (Vars V0) := by rw [← hV0]; exact HV
 have HP1 : Hid (∀ V, MaxG V → Calls Tryz.prog 9 #[.string (ba t)] V (ParseP V (.err line er))) := fun V h => by have := parse_any (t := t) V h; rw [hr] at this; exact this
 have HP2 : Hid (∀ V, Calls Tryz.prog 10 #[.string (ba t)] V (ParseP V (.err line er))) := fun V => by have := rparse_any (t := t) V; rw [hr] at this; exact this
 have q1 : (line == line) = true := beq_self_eq_true _
 have q2 : (er == er) = true := beq_self_eq_true _
 obtain ⟨z0, hz0⟩ : ∃ z, ba t = z := ⟨_, rfl⟩
 rw [hz0] at HP1 HP2 ⊢
 have HW0 := Lib.hid hV0
 clear hr hz0 HV hV0
 go_enter Tryz.func3, Tryz.ntmps3
 go_wp2_with (first | (go_at_call 8; refine (wakes_any V0 HV0.out).mono ?_; rintro e V1 ⟨rfl, hb⟩; (have HB1 := Lib.hid (HB0.out.trans (hb.mono HB0.out.size))); (have HV1 := Lib.hid (HV0.out.below hb (Nat.le_refl _))); clear HB0 HV0; clear hb) | (go_at_call 9; refine (HP1.out V1 HV1.out.maxG).mono ?_; rintro e V2 ⟨hb, he⟩; (try (simp only at he)); subst he; (have HB2 := Lib.hid (HB1.out.trans (hb.mono HB1.out.size))); (have HV2 := Lib.hid (HV1.out.below hb (Nat.le_refl _))); clear HB1 HV1; clear hb HP1) | (go_at_call 10; refine (HP2.out V2).mono ?_; rintro e V3 ⟨hb, he⟩; (try (simp only at he)); subst he; (have HB3 := Lib.hid (HB2.out.trans (hb.mono HB2.out.size))); (have HV3 := Lib.hid (HV2.out.below hb (Nat.le_refl _))); clear HB2 HV2; clear hb HP2) | (go_at_call 11; refine (lsame_any V3 (TS.none _) (TS.none _)).mono ?_; rintro e V4 ⟨rfl, hb⟩; rw [decide_eq_true (rfl : ([] : List (Int × St)) = ([] : List (Int × St)))]; (have HB4 := Lib.hid (HB3.out.trans (hb.mono HB3.out.size))); (have HV4 := Lib.hid (HV3.out.below hb (Nat.le_refl _))); clear HB3 HV3; clear hb) | fail)
 go_ret
 exact ⟨rfl, HB4.out⟩
set_option maxRecDepth 20000 in
set_option maxHeartbeats 8000000 in
theorem parses_ok {t : Tx} (w : World) (HV : Vars w) {l : List (Int × St)} (hr : parseM t = .ok l) :
  Calls Tryz.prog 3 #[.string (ba t)] w fun e w' => e = .returned (.bool true) ∧ Below w.heap.size w w' := by
 obtain ⟨V0, hV0⟩ : ∃ x, w = x := ⟨_, rfl⟩
 suffices hsuf : Calls Tryz.prog 3 #[.string (ba t)] V0 fun e w' => e = .returned (.bool true) ∧ Below w.heap.size w w' by rw [hV0] at hsuf ⊢; exact hsuf
 have HB0 : Hid (Below w.heap.size w V0) := by rw [← hV0]; exact Below.refl _ _
 have HV0 : Hid (Vars V0) := by rw [← hV0]; exact HV
 have HP1 : Hid (∀ V, MaxG V → Calls Tryz.prog 9 #[.string (ba t)] V (ParseP V (.ok l))) := fun V h => by have := parse_any (t := t) V h; rw [hr] at this; exact this
 have HP2 : Hid (∀ V, Calls Tryz.prog 10 #[.string (ba t)] V (ParseP V (.ok l))) := fun V => by have := rparse_any (t := t) V; rw [hr] at this; exact this
 have HPF := Lib.hid hr
 obtain ⟨z0, hz0⟩ : ∃ z, ba t = z := ⟨_, rfl⟩
 rw [hz0] at HP1 HP2 ⊢
 have HW0 := Lib.hid hV0
 clear hr hz0 HV hV0
 go_enter Tryz.func3, Tryz.ntmps3
 go_wp2_with (first | (go_at_call 8; refine (wakes_any V0 HV0.out).mono ?_; rintro e V1 ⟨rfl, hb⟩; (have HB1 := Lib.hid (HB0.out.trans (hb.mono HB0.out.size))); (have HV1 := Lib.hid (HV0.out.below hb (Nat.le_refl _))); clear HB0 HV0; clear hb) | (go_at_call 9; refine (HP1.out V1 HV1.out.maxG).mono ?_; rintro e V2 ⟨hb, he⟩; (try (simp only at he)); obtain ⟨AP, nP, cP, RP, rfl, hto, hrp⟩ := he; (have HB2 := Lib.hid (HB1.out.trans (hb.mono HB1.out.size))); (have HV2 := Lib.hid (HV1.out.below hb (Nat.le_refl _))); clear HB1 HV1; (have hts := parse_ts HPF.out hto hrp); (have HTP2 := Lib.hid hts.1); (have HNP := Lib.hid hts.2); clear hb hto hrp hts HP1) | (go_at_call 10; refine (HP2.out V2).mono ?_; rintro e V3 ⟨hb, he⟩; (try (simp only at he)); obtain ⟨AQ, nQ, cQ, RQ, rfl, hto, hrp⟩ := he; (have HB3 := Lib.hid (HB2.out.trans (hb.mono HB2.out.size))); (have HV3 := Lib.hid (HV2.out.below hb (Nat.le_refl _))); (have HTP3 := Lib.hid (HTP2.out.below hb)); clear HB2 HV2 HTP2; (have hts := parse_ts HPF.out hto hrp); (have HTQ3 := Lib.hid hts.1); (have HNQ := Lib.hid hts.2); clear hb hto hrp hts HP2) | (go_at_call 11; refine (lsame_any V3 HTP3.out HTQ3.out).mono ?_; rintro e V4 ⟨rfl, hb⟩; rw [decide_eq_true (rfl : l = l)]; (have HB4 := Lib.hid (HB3.out.trans (hb.mono HB3.out.size))); (have HV4 := Lib.hid (HV3.out.below hb (Nat.le_refl _))); (have HTP4 := Lib.hid (HTP3.out.below hb)); (have HTQ4 := Lib.hid (HTQ3.out.below hb)); clear HB3 HV3 HTP3 HTQ3; clear hb) | fail)
 go_ret
 exact ⟨rfl, HB4.out⟩
theorem scriptParses_any {t : Tx} (w : World) (HV : Vars w) : Calls Tryz.prog 3 #[.string (ba t)] w fun e w' => e = .returned (.bool true) ∧ Below w.heap.size w w' := by
 cases hr : parseM t with
 | ok l => exact parses_ok w HV hr
 | err line er => exact parses_err w HV hr
end Go.Proofs.YtoofgblmpjndjaaGreatDoor.Scr
