/-
  Walks: the law ScriptWrites. (Printed by gen_lwa.py.)
-/
import Derived.Test.YtoofgblmpjndjaaGreatDoorZG34
import Derived.Test.YtoofgblmpjndjaaGreatDoorZG10
import Derived.Test.YtoofgblmpjndjaaGreatDoorZG21
set_option linter.unusedVariables false
set_option linter.unusedSimpArgs false
namespace Go.Proofs.YtoofgblmpjndjaaGreatDoor.Scr
open Go.RowKit K Go.Lib Go.Shelf

set_option maxRecDepth 20000 in
set_option maxHeartbeats 8000000 in
theorem scriptWrites_any {A : Option Addr} {n c : Nat} {l : List (Int × St)} (w : World) (HV : Vars w) (H : TS w A n l) (hf : ∀ p ∈ l, FitS p.2) (hw : ∀ p ∈ l, FitW p.2) (hcap : n ≤ c) (hle : l.length ≤ 1099511627776) :
  Calls Tryz.prog 6 #[.slice A n c] w fun e w' => e = .returned (.bool true) ∧ Below w.heap.size w w' := by
 obtain ⟨V0, hV0⟩ : ∃ x, w = x := ⟨_, rfl⟩
 suffices hsuf : Calls Tryz.prog 6 #[.slice A n c] V0 fun e w' => e = .returned (.bool true) ∧ Below w.heap.size w w' by rw [hV0] at hsuf ⊢; exact hsuf
 have HB0 : Hid (Below w.heap.size w V0) := by rw [← hV0]; exact Below.refl _ _
 have HV0 : Hid (Vars V0) := by rw [← hV0]; exact HV
 have HTL0 : Hid (TS V0 A n l) := by rw [← hV0]; exact H
 have HF := Lib.hid hf
 have HFW := Lib.hid hw
 have HLE := Lib.hid hle
 have HCAP := Lib.hid hcap
 obtain ⟨rs, hrs⟩ : ∃ x, writeM (l.map (·.2)) = x := ⟨_, rfl⟩
 obtain ⟨zw, re⟩ := rs
 have HRS := Lib.hid hrs
 obtain ⟨zs, hzs⟩ : ∃ z, ba zw = z := ⟨_, rfl⟩
 have HZS := Lib.hid hzs
 obtain ⟨rd, hrd⟩ : ∃ x, readsM l = x := ⟨_, rfl⟩
 have HRD := Lib.hid hrd
 have q1 : (re == re) = true := beq_self_eq_true _
 have q2 : (zs.toList == zs.toList) = true := beq_self_eq_true _
 have HW0 := Lib.hid hV0
 clear hrs hzs hrd HV H hf hw hle hcap hV0
 go_enter Tryz.func6, Tryz.ntmps6
 go_wp2_with (first | (go_at_call 8; refine (wakes_any V0 HV0.out).mono ?_; rintro e V1 ⟨rfl, hb⟩; (have HB1 := Lib.hid (HB0.out.trans (hb.mono HB0.out.size))); (have HV1 := Lib.hid (HV0.out.below hb (Nat.le_refl _))); (have HTL1 := Lib.hid (HTL0.out.below hb)); clear HB0 HV0 HTL0; clear hb) | (go_at_call 13; refine (steps_any V1 HTL1.out).mono ?_; rintro e V2 ⟨hb, AM, nM, cM, RM, rfl, hto, hrp⟩; (have HB2 := Lib.hid (HB1.out.trans (hb.mono HB1.out.size))); (have HV2 := Lib.hid (HV1.out.below hb (Nat.le_refl _))); (have HTL2 := Lib.hid (HTL1.out.below hb)); clear HB1 HV1 HTL1; (have hts := steps_ts HLE.out HF.out hto hrp); (have HTM2 := Lib.hid hts.1); (have HNM := Lib.hid hts.2); clear hb hto hrp hts) | (go_at_call 12; refine (write_any V2 HTM2.out HV2.out HF.out).mono ?_; rintro e V3 ⟨he, hb⟩; rw [HRS.out] at he; (try (simp only at he)); rw [HZS.out] at he; subst he; (have HB3 := Lib.hid (HB2.out.trans (hb.mono HB2.out.size))); (have HV3 := Lib.hid (HV2.out.below hb (Nat.le_refl _))); (have HTL3 := Lib.hid (HTL2.out.below hb)); (have HTM3 := Lib.hid (HTM2.out.below hb)); clear HB2 HV2 HTL2 HTM2; clear hb) | (go_at_call 15; refine (rwrite_any V3 HTL3.out HV3.out HFW.out HCAP.out).mono ?_; rintro e V4 ⟨he, hb⟩; rw [HRS.out] at he; (try (simp only at he)); rw [HZS.out] at he; subst he; (have HB4 := Lib.hid (HB3.out.trans (hb.mono HB3.out.size))); (have HV4 := Lib.hid (HV3.out.below hb (Nat.le_refl _))); (have HTL4 := Lib.hid (HTL3.out.below hb)); (have HTM4 := Lib.hid (HTM3.out.below hb)); clear HB3 HV3 HTL3 HTM3; clear hb) | (go_at_call 13; refine (steps_any V4 HTL4.out).mono ?_; rintro e V5 ⟨hb, AQ, nQ, cQ, RQ, rfl, hto, hrp⟩; (have HB5 := Lib.hid (HB4.out.trans (hb.mono HB4.out.size))); (have HV5 := Lib.hid (HV4.out.below hb (Nat.le_refl _))); (have HTL5 := Lib.hid (HTL4.out.below hb)); (have HTM5 := Lib.hid (HTM4.out.below hb)); clear HB4 HV4 HTL4 HTM4; (have hts := steps_ts HLE.out HF.out hto hrp); (have HTQ5 := Lib.hid hts.1); (have HNQ := Lib.hid hts.2); clear hb hto hrp hts) | (go_at_call 17; refine (reads_any V5 HTQ5.out).mono ?_; rintro e V6 ⟨AX, cX, rfl, hss, hb⟩; (have HB6 := Lib.hid (HB5.out.trans (hb.mono HB5.out.size))); (have HV6 := Lib.hid (HV5.out.below hb (Nat.le_refl _))); (have HTL6 := Lib.hid (HTL5.out.below hb)); (have HTM6 := Lib.hid (HTM5.out.below hb)); (have HTQ6 := Lib.hid (HTQ5.out.below hb)); clear HB5 HV5 HTL5 HTM5 HTQ5; rw [HRD.out] at hss; rw [HRD.out]; (have HSSX6 := Lib.hid hss); clear hb hss) | (go_at_call 18; refine (rreads_any V6 HTL6.out).mono ?_; rintro e V7 ⟨AY, cY, rfl, hss, hb⟩; (have HB7 := Lib.hid (HB6.out.trans (hb.mono HB6.out.size))); (have HV7 := Lib.hid (HV6.out.below hb (Nat.le_refl _))); (have HTL7 := Lib.hid (HTL6.out.below hb)); (have HTM7 := Lib.hid (HTM6.out.below hb)); (have HTQ7 := Lib.hid (HTQ6.out.below hb)); clear HB6 HV6 HTL6 HTM6 HTQ6; rw [HRD.out] at hss; rw [HRD.out]; (have HSSY7 := Lib.hid hss); (have HSSX7 := Lib.hid (HSSX6.out.below hb)); clear hb hss HSSX6) | (go_at_call 16; refine (rsames_any V7 HSSX7.out HSSY7.out).mono ?_; rintro e V8 ⟨rfl, q, hq⟩; rw [decide_eq_true (rfl : rd = rd)]; (have HBZ : Hid (Below w.heap.size w V8) := (by show Below _ _ _; rw [← hq]; exact HB7.out.trans ((below_drewNg V7 q).mono HB7.out.size))); clear hq HSSX7) | fail)
 go_ret
 exact ⟨rfl, HBZ.out⟩
end Go.Proofs.YtoofgblmpjndjaaGreatDoor.Scr
