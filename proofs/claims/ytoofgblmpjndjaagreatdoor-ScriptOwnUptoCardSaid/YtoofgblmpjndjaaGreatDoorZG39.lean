/-
  Walks: the law ScriptOwn. (Printed by gen_owb.py.)
-/
import Derived.Test.YtoofgblmpjndjaaGreatDoorZG38
import Derived.Test.YtoofgblmpjndjaaGreatDoorZG37
import Derived.Test.YtoofgblmpjndjaaGreatDoorZG30
set_option linter.unusedVariables false
set_option linter.unusedSimpArgs false
namespace Go.Proofs.YtoofgblmpjndjaaGreatDoor.Scr
open Go.RowKit K Go.Lib Go.Shelf

theorem TS.nil0 (w : World) : TS w none 0 [] := ⟨rfl, by omega, fun i p h => by simp at h⟩
theorem st0_infoSt : (Tryz.prog.info? 37).map (·.size) = some st0.size := infoSt
set_option maxRecDepth 20000 in
set_option maxHeartbeats 16000000 in
theorem own_err {t : Tx} {A : Option Addr} {n c : Nat} {l : List (Int × St)} (w : World) (HV : Vars w) (H : TS w A n l) (hf : ∀ p ∈ l, FitS p.2) (hle : l.length ≤ 1099511627776) {line er : Int} (hr : parseM t = .err line er) :
  Calls Tryz.prog 7 #[.string (ba t), .slice A n c] w fun e w' => e = .returned (.bool true) ∧ Below w.heap.size w w' := by
 obtain ⟨V0, hV0⟩ : ∃ x, w = x := ⟨_, rfl⟩
 suffices hsuf : Calls Tryz.prog 7 #[.string (ba t), .slice A n c] V0 fun e w' => e = .returned (.bool true) ∧ Below w.heap.size w w' by rw [hV0] at hsuf ⊢; exact hsuf
 have HB0 : Hid (Below w.heap.size w V0) := by rw [← hV0]; exact Below.refl _ _
 have HV0 : Hid (Vars V0) := by rw [← hV0]; exact HV
 have HTL0 : Hid (TS V0 A n l) := by rw [← hV0]; exact H
 have HF := Lib.hid hf
 have HLE := Lib.hid hle
 obtain ⟨nr, hnr⟩ : ∃ x, (readsM l).length = x := ⟨_, rfl⟩
 have HRN := Lib.hid hnr
 have HNR : Hid (nr ≤ 1099511627776) := by
  have hk : ∀ (x : List (Int × St)) (o : List Tx), (x.foldl rstep o).length ≤ o.length + x.length := fun x => by
   induction x with
   | nil => intro o; exact Nat.le_refl _
   | cons a r ih =>
    intro o
    rw [List.foldl_cons]
    refine Nat.le_trans (ih _) ?_
    have : (rstep o a).length ≤ o.length + 1 := by unfold rstep; split <;> simp
    rw [List.length_cons]
    omega
  show _ ≤ _
  rw [← hnr]
  have := hk l []
  unfold readsM
  simp at this
  omega
 have HP1 : Hid (∀ V, MaxG V → Calls Tryz.prog 9 #[.string (ba t)] V (ParseP V (.err line er))) := fun V h => by have := parse_any (t := t) V h; rw [hr] at this; exact this
 have HP2 := HP1
 have HP3 : Hid (∀ V, Calls Tryz.prog 10 #[.string (ba t)] V (ParseP V (.err line er))) := fun V => by have := rparse_any (t := t) V; rw [hr] at this; exact this
 have HPF := Lib.hid hr
 obtain ⟨z0, hz0⟩ : ∃ z, ba t = z := ⟨_, rfl⟩
 rw [hz0] at HP1 HP2 HP3 ⊢
 have HW0 := Lib.hid hV0
 clear hr hz0 HV H hf hle hV0 hnr
 go_enter Tryz.func7, Tryz.ntmps7
 go_wp2_with (first | (go_at_call 8; refine (wakes_any V0 HV0.out).mono ?_; rintro e V1 ⟨rfl, hb⟩; (have HB1 := Lib.hid (HB0.out.trans (hb.mono HB0.out.size))); (have HV1 := Lib.hid (HV0.out.below hb (Nat.le_refl _))); (have HTL1 := Lib.hid (HTL0.out.below hb)); clear HB0 HV0 HTL0; clear hb) | (go_at_call 13; refine (steps_any V1 HTL1.out).mono ?_; rintro e V2 ⟨hb, AM, nM, cM, RM, rfl, hto, hrp⟩; (have HB2 := Lib.hid (HB1.out.trans (hb.mono HB1.out.size))); (have HV2 := Lib.hid (HV1.out.below hb (Nat.le_refl _))); (have HTL2 := Lib.hid (HTL1.out.below hb)); clear HB1 HV1 HTL1; (have hts := steps_ts HLE.out HF.out hto hrp); (have HTM2 := Lib.hid hts.1); (have HNM := Lib.hid hts.2); clear hb hto hrp hts) | (go_at_call 12; refine (write_any V2 HTM2.out HV2.out HF.out).mono ?_; rintro e V3 ⟨rfl, hb⟩; (have HB3 := Lib.hid (HB2.out.trans (hb.mono HB2.out.size))); (have HV3 := Lib.hid (HV2.out.below hb (Nat.le_refl _))); (have HTL3 := Lib.hid (HTL2.out.below hb)); (have HTM3 := Lib.hid (HTM2.out.below hb)); clear HB2 HV2 HTL2 HTM2; clear hb) | (go_at_call 17; refine (reads_own V3 HTM3.out).mono ?_; rintro e V4 ⟨Ar, cr, rfl, hown, hb⟩; rw [HRN.out] at hown ⊢; (have HRM : Hid (Rm V4 V3.heap.size V4.heap.size 9 Ar nr) := Rm.of_own hown (Nat.le_refl _)); (have HBR : Hid (Below V3.heap.size V3 V4) := hb); clear hb hown) | fail)
 go_loopw [30] (fun s30 wx => ∃ k : Nat, k ≤ nr ∧ s30 = .int .i64 (k : Int) ∧ Hid (Below V3.heap.size V3 wx) ∧ Hid (Rm wx V3.heap.size V4.heap.size 9 Ar nr)) (fun s30 _ => nr - (intOf s30).toNat)
 case atStart => exact ⟨0, Nat.zero_le _, rfl, HBR, HRM⟩
 case round =>
  obtain ⟨k, hk, rfl, HBK, HRK⟩ := hrel
  by_cases hkn : k < nr
  ·have HKN := Lib.hid hkn
   obtain ⟨g, cs, v, rfl, hg1, hg2, hg3, hcv, hfz⟩ := HRK.out.cell hkn
   have g0 : decide ((k : Int) < (nr : Int)) = true := decide_eq_true (by omega)
   have g1 : decide (k < nr) = true := decide_eq_true hkn
   have g2 : (k : Int) < nr := by omega
   have g3 : (0 : Int) ≤ (k : Int) := by omega
   have hkb : k ≤ 1099511627776 := Nat.le_trans hk HNR.out
   obtain ⟨k1, hk1⟩ : ∃ x : Nat, k + 1 = x := ⟨_, rfl⟩
   have g4 : wrap64 ((k : Int) + 1) = (k1 : Int) := wrap1 hkb hk1
   have g5 : IntKind.i64.wrap ((k : Int) + 1) = (k1 : Int) := wrap2 hkb hk1
   have HK1 := Lib.hid hk1
   obtain ⟨W2, hW2⟩ : ∃ x, wr.setCell ⟨g, k, none⟩ (.string ⟨#[103, 111, 110, 101]⟩) = x := ⟨_, rfl⟩
   have HB2 : Hid (Below V3.heap.size V3 W2) := by show Below _ _ _; rw [← hW2]; exact HBK.out.setCell (p := ⟨g, k, none⟩) hg1 _
   have HR2 : Hid (Rm W2 V3.heap.size V4.heap.size 9 (some ⟨g, 0, none⟩) nr) := by rw [← hW2]; exact HRK.out.set hg3 _
   clear hk hkn hk1 hkb hg1 hg2 hg3
   go_wp2_with fail
   go_roundw
   case rel => exact ⟨k1, by have := HK1.out; have := HKN.out; omega, rfl, HB2, HR2⟩
   case measure => show nr - (k1 : Int).toNat < nr - (k : Int).toNat; have := HK1.out; have := HKN.out; simp only [Int.toNat_natCast]; omega
  ·have g0 : decide ((k : Int) < (nr : Int)) = false := decide_eq_false (by omega)
   have g1 : decide (k < nr) = false := decide_eq_false hkn
   obtain ⟨V5, hV5⟩ : ∃ x, wr = x := ⟨_, rfl⟩
   have HB5 : Hid (Below w.heap.size w V5) := by show Below _ _ _; rw [← hV5]; exact HB3.out.trans (HBK.out.mono HB3.out.size)
   have HV5 : Hid (Vars V5) := by rw [← hV5]; exact HV3.out.below HBK.out (Nat.le_refl _)
   have HTL5 : Hid (TS V5 A n l) := by rw [← hV5]; exact HTL3.out.below HBK.out
   have HTM5 : Hid (TS V5 AM nM l) := by rw [← hV5]; exact HTM3.out.below HBK.out
   rw [hV5]
   clear hk hkn hV5
   go_wp2_with (first | (go_at_call 9; refine (HP1.out V5 HV5.out.maxG).mono ?_; rintro e V6 ⟨hb, he⟩; (try (simp only at he)); subst he; (have HB6 := Lib.hid (HB5.out.trans (hb.mono HB5.out.size))); (have HV6 := Lib.hid (HV5.out.below hb (Nat.le_refl _))); (have HTL6 := Lib.hid (HTL5.out.below hb)); (have HTM6 := Lib.hid (HTM5.out.below hb)); clear HB5 HV5 HTL5 HTM5; clear hb HP1) | (go_at_call 9; refine (HP2.out V6 HV6.out.maxG).mono ?_; rintro e V7 ⟨hb, he⟩; (try (simp only at he)); subst he; (have HB7 := Lib.hid (HB6.out.trans (hb.mono HB6.out.size))); (have HV7 := Lib.hid (HV6.out.below hb (Nat.le_refl _))); (have HTL7 := Lib.hid (HTL6.out.below hb)); (have HTM7 := Lib.hid (HTM6.out.below hb)); clear HB6 HV6 HTL6 HTM6; clear hb HP2) | fail)
   go_loopw [51] (fun s51 wx => s51 = .int .i64 0 ∧ V7 = wx) (fun s51 _ => 0)
   case atStart => exact ⟨rfl, rfl⟩
   case round =>
    obtain ⟨rfl, rfl⟩ := hrel
    go_wp2_with (first | (go_at_call 10; refine (HP3.out V7).mono ?_; rintro e V8 ⟨hb, he⟩; (try (simp only at he)); subst he; (have HB8 := Lib.hid (HB7.out.trans (hb.mono HB7.out.size))); (have HV8 := Lib.hid (HV7.out.below hb (Nat.le_refl _))); (have HTL8 := Lib.hid (HTL7.out.below hb)); (have HTM8 := Lib.hid (HTM7.out.below hb)); clear HB7 HV7 HTL7 HTM7; clear hb HP3) | (go_at_call 11; refine (lsame_any V8 HTM8.out HTL8.out).mono ?_; rintro e V9 ⟨rfl, hb⟩; rw [decide_eq_true (rfl : l = l)]; (have HB9 := Lib.hid (HB8.out.trans (hb.mono HB8.out.size))); (have HV9 := Lib.hid (HV8.out.below hb (Nat.le_refl _))); (have HTL9 := Lib.hid (HTL8.out.below hb)); (have HTM9 := Lib.hid (HTM8.out.below hb)); clear HB8 HV8 HTL8 HTM8; clear hb) | (go_at_call 11; refine (lsame_any V9 (TS.nil0 _) (TS.nil0 _)).mono ?_; rintro e V10 ⟨rfl, hb⟩; rw [decide_eq_true (rfl : ([] : List (Int × St)) = [])]; (have HB10 := Lib.hid (HB9.out.trans (hb.mono HB9.out.size))); (have HV10 := Lib.hid (HV9.out.below hb (Nat.le_refl _))); (have HTL10 := Lib.hid (HTL9.out.below hb)); (have HTM10 := Lib.hid (HTM9.out.below hb)); clear HB9 HV9 HTL9 HTM9; clear hb) | fail)
    go_ret
    exact ⟨rfl, HB10.out⟩
set_option maxRecDepth 20000 in
set_option maxHeartbeats 16000000 in
theorem own_ok {t : Tx} {A : Option Addr} {n c : Nat} {l : List (Int × St)} (w : World) (HV : Vars w) (H : TS w A n l) (hf : ∀ p ∈ l, FitS p.2) (hle : l.length ≤ 1099511627776) {lp : List (Int × St)} (hr : parseM t = .ok lp) :
  Calls Tryz.prog 7 #[.string (ba t), .slice A n c] w fun e w' => e = .returned (.bool true) ∧ Below w.heap.size w w' := by
 obtain ⟨V0, hV0⟩ : ∃ x, w = x := ⟨_, rfl⟩
 suffices hsuf : Calls Tryz.prog 7 #[.string (ba t), .slice A n c] V0 fun e w' => e = .returned (.bool true) ∧ Below w.heap.size w w' by rw [hV0] at hsuf ⊢; exact hsuf
 have HB0 : Hid (Below w.heap.size w V0) := by rw [← hV0]; exact Below.refl _ _
 have HV0 : Hid (Vars V0) := by rw [← hV0]; exact HV
 have HTL0 : Hid (TS V0 A n l) := by rw [← hV0]; exact H
 have HF := Lib.hid hf
 have HLE := Lib.hid hle
 obtain ⟨nr, hnr⟩ : ∃ x, (readsM l).length = x := ⟨_, rfl⟩
 have HRN := Lib.hid hnr
 have HNR : Hid (nr ≤ 1099511627776) := by
  have hk : ∀ (x : List (Int × St)) (o : List Tx), (x.foldl rstep o).length ≤ o.length + x.length := fun x => by
   induction x with
   | nil => intro o; exact Nat.le_refl _
   | cons a r ih =>
    intro o
    rw [List.foldl_cons]
    refine Nat.le_trans (ih _) ?_
    have : (rstep o a).length ≤ o.length + 1 := by unfold rstep; split <;> simp
    rw [List.length_cons]
    omega
  show _ ≤ _
  rw [← hnr]
  have := hk l []
  unfold readsM
  simp at this
  omega
 have HP1 : Hid (∀ V, MaxG V → Calls Tryz.prog 9 #[.string (ba t)] V (ParseP V (.ok lp))) := fun V h => by have := parse_any (t := t) V h; rw [hr] at this; exact this
 have HP2 := HP1
 have HP3 : Hid (∀ V, Calls Tryz.prog 10 #[.string (ba t)] V (ParseP V (.ok lp))) := fun V => by have := rparse_any (t := t) V; rw [hr] at this; exact this
 have HPF := Lib.hid hr
 obtain ⟨z0, hz0⟩ : ∃ z, ba t = z := ⟨_, rfl⟩
 rw [hz0] at HP1 HP2 HP3 ⊢
 have HW0 := Lib.hid hV0
 clear hr hz0 HV H hf hle hV0 hnr
 go_enter Tryz.func7, Tryz.ntmps7
 go_wp2_with (first | (go_at_call 8; refine (wakes_any V0 HV0.out).mono ?_; rintro e V1 ⟨rfl, hb⟩; (have HB1 := Lib.hid (HB0.out.trans (hb.mono HB0.out.size))); (have HV1 := Lib.hid (HV0.out.below hb (Nat.le_refl _))); (have HTL1 := Lib.hid (HTL0.out.below hb)); clear HB0 HV0 HTL0; clear hb) | (go_at_call 13; refine (steps_any V1 HTL1.out).mono ?_; rintro e V2 ⟨hb, AM, nM, cM, RM, rfl, hto, hrp⟩; (have HB2 := Lib.hid (HB1.out.trans (hb.mono HB1.out.size))); (have HV2 := Lib.hid (HV1.out.below hb (Nat.le_refl _))); (have HTL2 := Lib.hid (HTL1.out.below hb)); clear HB1 HV1 HTL1; (have hts := steps_ts HLE.out HF.out hto hrp); (have HTM2 := Lib.hid hts.1); (have HNM := Lib.hid hts.2); clear hb hto hrp hts) | (go_at_call 12; refine (write_any V2 HTM2.out HV2.out HF.out).mono ?_; rintro e V3 ⟨rfl, hb⟩; (have HB3 := Lib.hid (HB2.out.trans (hb.mono HB2.out.size))); (have HV3 := Lib.hid (HV2.out.below hb (Nat.le_refl _))); (have HTL3 := Lib.hid (HTL2.out.below hb)); (have HTM3 := Lib.hid (HTM2.out.below hb)); clear HB2 HV2 HTL2 HTM2; clear hb) | (go_at_call 17; refine (reads_own V3 HTM3.out).mono ?_; rintro e V4 ⟨Ar, cr, rfl, hown, hb⟩; rw [HRN.out] at hown ⊢; (have HRM : Hid (Rm V4 V3.heap.size V4.heap.size 9 Ar nr) := Rm.of_own hown (Nat.le_refl _)); (have HBR : Hid (Below V3.heap.size V3 V4) := hb); clear hb hown) | fail)
 go_loopw [30] (fun s30 wx => ∃ k : Nat, k ≤ nr ∧ s30 = .int .i64 (k : Int) ∧ Hid (Below V3.heap.size V3 wx) ∧ Hid (Rm wx V3.heap.size V4.heap.size 9 Ar nr)) (fun s30 _ => nr - (intOf s30).toNat)
 case atStart => exact ⟨0, Nat.zero_le _, rfl, HBR, HRM⟩
 case round =>
  obtain ⟨k, hk, rfl, HBK, HRK⟩ := hrel
  by_cases hkn : k < nr
  ·have HKN := Lib.hid hkn
   obtain ⟨g, cs, v, rfl, hg1, hg2, hg3, hcv, hfz⟩ := HRK.out.cell hkn
   have g0 : decide ((k : Int) < (nr : Int)) = true := decide_eq_true (by omega)
   have g1 : decide (k < nr) = true := decide_eq_true hkn
   have g2 : (k : Int) < nr := by omega
   have g3 : (0 : Int) ≤ (k : Int) := by omega
   have hkb : k ≤ 1099511627776 := Nat.le_trans hk HNR.out
   obtain ⟨k1, hk1⟩ : ∃ x : Nat, k + 1 = x := ⟨_, rfl⟩
   have g4 : wrap64 ((k : Int) + 1) = (k1 : Int) := wrap1 hkb hk1
   have g5 : IntKind.i64.wrap ((k : Int) + 1) = (k1 : Int) := wrap2 hkb hk1
   have HK1 := Lib.hid hk1
   obtain ⟨W2, hW2⟩ : ∃ x, wr.setCell ⟨g, k, none⟩ (.string ⟨#[103, 111, 110, 101]⟩) = x := ⟨_, rfl⟩
   have HB2 : Hid (Below V3.heap.size V3 W2) := by show Below _ _ _; rw [← hW2]; exact HBK.out.setCell (p := ⟨g, k, none⟩) hg1 _
   have HR2 : Hid (Rm W2 V3.heap.size V4.heap.size 9 (some ⟨g, 0, none⟩) nr) := by rw [← hW2]; exact HRK.out.set hg3 _
   clear hk hkn hk1 hkb hg1 hg2 hg3
   go_wp2_with fail
   go_roundw
   case rel => exact ⟨k1, by have := HK1.out; have := HKN.out; omega, rfl, HB2, HR2⟩
   case measure => show nr - (k1 : Int).toNat < nr - (k : Int).toNat; have := HK1.out; have := HKN.out; simp only [Int.toNat_natCast]; omega
  ·have g0 : decide ((k : Int) < (nr : Int)) = false := decide_eq_false (by omega)
   have g1 : decide (k < nr) = false := decide_eq_false hkn
   obtain ⟨V5, hV5⟩ : ∃ x, wr = x := ⟨_, rfl⟩
   have HB5 : Hid (Below w.heap.size w V5) := by show Below _ _ _; rw [← hV5]; exact HB3.out.trans (HBK.out.mono HB3.out.size)
   have HV5 : Hid (Vars V5) := by rw [← hV5]; exact HV3.out.below HBK.out (Nat.le_refl _)
   have HTL5 : Hid (TS V5 A n l) := by rw [← hV5]; exact HTL3.out.below HBK.out
   have HTM5 : Hid (TS V5 AM nM l) := by rw [← hV5]; exact HTM3.out.below HBK.out
   rw [hV5]
   clear hk hkn hV5
   go_wp2_with (first | (go_at_call 9; refine (HP1.out V5 HV5.out.maxG).mono ?_; rintro e V6 ⟨hb, he⟩; (try (simp only at he)); obtain ⟨AP, nP, cP, RP, rfl, hto, hrp⟩ := he; (have HTOP := Lib.hid hto); (have HRPP := Lib.hid hrp); (have HBPP := Lib.hid hb); (have HB6 := Lib.hid (HB5.out.trans (hb.mono HB5.out.size))); (have HV6 := Lib.hid (HV5.out.below hb (Nat.le_refl _))); (have HTL6 := Lib.hid (HTL5.out.below hb)); (have HTM6 := Lib.hid (HTM5.out.below hb)); clear HV5; clear hb hto hrp HP1) | (go_at_call 9; refine (HP2.out V6 HV6.out.maxG).mono ?_; rintro e V7 ⟨hb, he⟩; (try (simp only at he)); obtain ⟨AQ, nQ, cQ, RQ, rfl, hto, hrp⟩ := he; (have HTOQ := Lib.hid hto); (have HRPQ := Lib.hid hrp); (have HBPQ := Lib.hid hb); (have HB7 := Lib.hid (HB6.out.trans (hb.mono HB6.out.size))); (have HV7 := Lib.hid (HV6.out.below hb (Nat.le_refl _))); (have HTL7 := Lib.hid (HTL6.out.below hb)); (have HTM7 := Lib.hid (HTM6.out.below hb)); clear HV6; clear hb hto hrp HP2) | fail)
   have HOA : Hid (OA V5 V7 V7 V5.heap.size V6.heap.size AP nP RP 0) := OA.start HBPP.out HTOP.out HBPQ.out
   have HNP : Hid (nP ≤ 64) := by show _ ≤ _; have h1 := (parseM_len HPF.out).2; rw [← HRPP.out, List.length_map, HTOP.out.2.1] at h1; exact h1
   have HNR2 : Hid (∀ r ∈ RP, r.n ≤ 68719476736 ∧ r.m ≤ 68719476736) := fun r hr => by
    have h1 := (HTOP.out.2.2 r hr).1.1
    have h2 := (HTOP.out.2.2 r hr).2.1
    have h3 := (parse_fit HPF.out) r.p (by rw [← HRPP.out]; exact List.mem_map.2 ⟨r, hr, rfl⟩)
    have h4 := h3.1
    simp at h1 h2
    omega
   go_loopw [51] (fun s51 wx => ∃ i : Nat, i ≤ nP ∧ s51 = .int .i64 (i : Int) ∧ Hid (OA V5 V7 wx V5.heap.size V6.heap.size AP nP RP i)) (fun s51 _ => nP - (intOf s51).toNat)
   case atStart => exact ⟨0, Nat.zero_le _, rfl, HOA⟩
   case round =>
    obtain ⟨i, hi, rfl, HO⟩ := hrel
    clear HOA
    by_cases hin : i < nP
    ·have HIN := Lib.hid hin
     obtain ⟨ga, r, rfl, hri, -, -, -⟩ := HO.out.at' hin
     have HRI := Lib.hid hri
     have HRB := Lib.hid (HNR2.out r (List.mem_of_getElem? hri))
     have y3 : wr.cell? ⟨ga, i * 6 + 3, none⟩ = some (.slice r.A r.n r.c) := HO.out.cells hin rfl hri 3 _ (by omega) rfl
     have p0 : decide ((i : Int) < (nP : Int)) = true := decide_eq_true (by omega)
     have p1 : decide (i < nP) = true := decide_eq_true hin
     have p2 : (i : Int) < nP := by omega
     have p3 : (0 : Int) ≤ (i : Int) := by omega
     have hib : i ≤ 1099511627776 := Nat.le_trans hi (Nat.le_trans HNP.out (by decide))
     obtain ⟨i1, hi1⟩ : ∃ x : Nat, i + 1 = x := ⟨_, rfl⟩
     have p4 : wrap64 ((i : Int) + 1) = (i1 : Int) := wrap1 hib hi1
     have p5 : IntKind.i64.wrap ((i : Int) + 1) = (i1 : Int) := wrap2 hib hi1
     have HI1 := Lib.hid hi1
     clear hi hin hri hi1 hib
     go_wp2_with fail
     clear y3
     go_loopw [60] (fun s60 wy => ∃ k : Nat, k ≤ r.n ∧ s60 = .int .i64 (k : Int) ∧ Hid (OA V5 V7 wy V5.heap.size V6.heap.size (some ⟨ga, 0, none⟩) nP RP i)) (fun s60 _ => r.n - (intOf s60).toNat)
     case atStart => exact ⟨0, Nat.zero_le _, rfl, HO⟩
     case round =>
      obtain ⟨k, hk, rfl, HO⟩ := hrel
      by_cases hkn : k < r.n
      ·have HKN := Lib.hid hkn
       obtain ⟨g, cs, v, hgA, hg1, hg2, hg3, hcv, hfz⟩ := (HO.out.rooms r (List.mem_of_getElem? HRI.out)).1.cell hkn
       have y3 : wr.cell? ⟨ga, i * 6 + 3, none⟩ = some (.slice r.A r.n r.c) := HO.out.cells HIN.out rfl HRI.out 3 _ (by omega) rfl
       rw [hgA] at y3
       have g0 : decide ((k : Int) < (r.n : Int)) = true := decide_eq_true (by omega)
       have g1 : decide (k < r.n) = true := decide_eq_true hkn
       have g2 : (k : Int) < r.n := by omega
       have g3 : (0 : Int) ≤ (k : Int) := by omega
       have hkb : k ≤ 1099511627776 := Nat.le_trans (Nat.le_trans hk HRB.out.1) (by decide)
       obtain ⟨k1, hk1⟩ : ∃ x : Nat, k + 1 = x := ⟨_, rfl⟩
       have g4 : wrap64 ((k : Int) + 1) = (k1 : Int) := wrap1 hkb hk1
       have g5 : IntKind.i64.wrap ((k : Int) + 1) = (k1 : Int) := wrap2 hkb hk1
       have HK1 := Lib.hid hk1
       obtain ⟨W2, hW2⟩ : ∃ x, wr.setCell ⟨g, k, none⟩ (.string ⟨#[103, 111, 110, 101]⟩) = x := ⟨_, rfl⟩
       have HO2 : Hid (OA V5 V7 W2 V5.heap.size V6.heap.size (some ⟨ga, 0, none⟩) nP RP i) := by rw [← hW2]; exact HO.out.store hg3 (by decide) hg1 hg2 _
       clear hk hkn hk1 hkb hg1 hg2 hg3 hgA
       go_wp2_with fail
       go_roundw
       case rel => exact ⟨k1, by have := HK1.out; have := HKN.out; omega, rfl, HO2⟩
       case measure => show r.n - (k1 : Int).toNat < r.n - (k : Int).toNat; have := HK1.out; have := HKN.out; simp only [Int.toNat_natCast]; omega
      ·have g0 : decide ((k : Int) < (r.n : Int)) = false := decide_eq_false (by omega)
       have g1 : decide (k < r.n) = false := decide_eq_false hkn
       have y5 : wr.cell? ⟨ga, i * 6 + 5, none⟩ = some (.slice r.A2 r.m r.c2) := HO.out.cells HIN.out rfl HRI.out 5 _ (by omega) rfl
       clear hk hkn
       go_wp2_with fail
       clear y5
       go_loopw [77] (fun s77 wy => ∃ k : Nat, k ≤ r.m ∧ s77 = .int .i64 (k : Int) ∧ Hid (OA V5 V7 wy V5.heap.size V6.heap.size (some ⟨ga, 0, none⟩) nP RP i)) (fun s77 _ => r.m - (intOf s77).toNat)
       case atStart => exact ⟨0, Nat.zero_le _, rfl, HO⟩
       case round =>
        obtain ⟨k, hk, rfl, HO⟩ := hrel
        by_cases hkn : k < r.m
        ·have HKN := Lib.hid hkn
         obtain ⟨g, cs, v, hgA, hg1, hg2, hg3, hcv, hfz⟩ := (HO.out.rooms r (List.mem_of_getElem? HRI.out)).2.cell hkn
         have y5 : wr.cell? ⟨ga, i * 6 + 5, none⟩ = some (.slice r.A2 r.m r.c2) := HO.out.cells HIN.out rfl HRI.out 5 _ (by omega) rfl
         rw [hgA] at y5
         have g0 : decide ((k : Int) < (r.m : Int)) = true := decide_eq_true (by omega)
         have g1 : decide (k < r.m) = true := decide_eq_true hkn
         have g2 : (k : Int) < r.m := by omega
         have g3 : (0 : Int) ≤ (k : Int) := by omega
         have hkb : k ≤ 1099511627776 := Nat.le_trans (Nat.le_trans hk HRB.out.2) (by decide)
         obtain ⟨k1, hk1⟩ : ∃ x : Nat, k + 1 = x := ⟨_, rfl⟩
         have g4 : wrap64 ((k : Int) + 1) = (k1 : Int) := wrap1 hkb hk1
         have g5 : IntKind.i64.wrap ((k : Int) + 1) = (k1 : Int) := wrap2 hkb hk1
         have HK1 := Lib.hid hk1
         obtain ⟨W2, hW2⟩ : ∃ x, wr.setCell ⟨g, k, none⟩ (.int .i64 (-1)) = x := ⟨_, rfl⟩
         have HO2 : Hid (OA V5 V7 W2 V5.heap.size V6.heap.size (some ⟨ga, 0, none⟩) nP RP i) := by rw [← hW2]; exact HO.out.store hg3 (by decide) hg1 hg2 _
         clear hk hkn hk1 hkb hg1 hg2 hg3 hgA
         go_wp2_with fail
         go_roundw
         case rel => exact ⟨k1, by have := HK1.out; have := HKN.out; omega, rfl, HO2⟩
         case measure => show r.m - (k1 : Int).toNat < r.m - (k : Int).toNat; have := HK1.out; have := HKN.out; simp only [Int.toNat_natCast]; omega
        ·have g0 : decide ((k : Int) < (r.m : Int)) = false := decide_eq_false (by omega)
         have g1 : decide (k < r.m) = false := decide_eq_false hkn
         have HTH := Lib.hid (HO.out.there HIN.out (g := ga) rfl)
         clear hk hkn
         go_wp2_with (first | (refine wpList_store_mid rfl 37 (.tmp 91) (.tmp 90) rfl ga (i * 6) st0 rfl rfl HTH.out st0_infoSt st0_one ?_; obtain ⟨W9, hW9⟩ : ∃ x, wr.setCells ga (i * 6) st0.toList = x := ⟨_, rfl⟩; (have HO9 : Hid (OA V5 V7 W9 V5.heap.size V6.heap.size (some ⟨ga, 0, none⟩) nP RP (i + 1)) := (by rw [← hW9]; exact HO.out.wipeAll HIN.out rfl)); rw [hW9]; clear hW9) | fail)
         go_roundw
         case rel => exact ⟨i1, by have := HI1.out; have := HIN.out; omega, rfl, by rw [← HI1.out]; exact HO9⟩
         case measure => show nP - (i1 : Int).toNat < nP - (i : Int).toNat; have := HI1.out; have := HIN.out; simp only [Int.toNat_natCast]; omega
    ·have p0 : decide ((i : Int) < (nP : Int)) = false := decide_eq_false (by omega)
     have p1 : decide (i < nP) = false := decide_eq_false hin
     have HTL8 : Hid (TS wr A n l) := HTL5.out.below HO.out.low
     have HTM8 : Hid (TS wr AM nM l) := HTM5.out.below HO.out.low
     have HB8 : Hid (Below w.heap.size w wr) := HB5.out.trans (HO.out.low.mono HB5.out.size)
     have htq := HO.out.keeps HTOQ.out
     have HTQ8 : Hid (TS wr AQ nQ lp) := htq.ts HRPQ.out (parse_fit HPF.out) (by have := (parseM_len HPF.out).2; omega)
     obtain ⟨V8, hV8⟩ : ∃ x, wr = x := ⟨_, rfl⟩
     rw [hV8] at HTL8 HTM8 HB8 HTQ8 ⊢
     have HU8 := Lib.hid hV8
     clear hi hin htq hV8
     go_wp2_with (first | (go_at_call 10; refine (HP3.out V8).mono ?_; rintro e V9 ⟨hb, he⟩; (try (simp only at he)); obtain ⟨AZ, nZ, cZ, RZ, rfl, hto, hrp⟩ := he; (have HB9 := Lib.hid (HB8.out.trans (hb.mono HB8.out.size))); (have HTL9 := Lib.hid (HTL8.out.below hb)); (have HTM9 := Lib.hid (HTM8.out.below hb)); (have HTQ9 := Lib.hid (HTQ8.out.below hb)); clear HB8 HTL8 HTM8 HTQ8; (have HTZ9 : Hid (TS V9 AZ nZ lp) := hto.ts hrp (parse_fit HPF.out) (by have := (parseM_len HPF.out).2; omega)); clear hb hto hrp HP3) | (go_at_call 11; refine (lsame_any V9 HTM9.out HTL9.out).mono ?_; rintro e V10 ⟨rfl, hb⟩; rw [decide_eq_true (rfl : l = l)]; (have HB10 := Lib.hid (HB9.out.trans (hb.mono HB9.out.size))); (have HTL10 := Lib.hid (HTL9.out.below hb)); (have HTM10 := Lib.hid (HTM9.out.below hb)); (have HTQ10 := Lib.hid (HTQ9.out.below hb)); (have HTZ10 := Lib.hid (HTZ9.out.below hb)); clear HB9 HTL9 HTM9 HTQ9 HTZ9; clear hb) | (go_at_call 11; refine (lsame_any V10 HTQ10.out HTZ10.out).mono ?_; rintro e V11 ⟨rfl, hb⟩; rw [decide_eq_true (rfl : lp = lp)]; (have HB11 := Lib.hid (HB10.out.trans (hb.mono HB10.out.size))); (have HTL11 := Lib.hid (HTL10.out.below hb)); (have HTM11 := Lib.hid (HTM10.out.below hb)); (have HTQ11 := Lib.hid (HTQ10.out.below hb)); (have HTZ11 := Lib.hid (HTZ10.out.below hb)); clear HB10 HTL10 HTM10 HTQ10 HTZ10; clear hb) | fail)
     go_ret
     exact ⟨rfl, HB11.out⟩
theorem scriptOwn_any {t : Tx} {A : Option Addr} {n c : Nat} {l : List (Int × St)} (w : World) (HV : Vars w) (H : TS w A n l) (hf : ∀ p ∈ l, FitS p.2) (hle : l.length ≤ 1099511627776) :
  Calls Tryz.prog 7 #[.string (ba t), .slice A n c] w fun e w' => e = .returned (.bool true) ∧ Below w.heap.size w w' := by
 cases hr : parseM t with
 | ok lp => exact own_ok w HV H hf hle hr
 | err line er => exact own_err w HV H hf hle hr
end Go.Proofs.YtoofgblmpjndjaaGreatDoor.Scr
