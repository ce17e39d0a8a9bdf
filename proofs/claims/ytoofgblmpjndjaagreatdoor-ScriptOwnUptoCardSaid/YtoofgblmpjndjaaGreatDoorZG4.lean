/-
  Texts of this claim, joined by program (ScA, ScB, ScC, ScF, ScD). Walks: the reference's letters, digits, names of values and files. (Printed by gen_sca.py.)
-/
import Derived.Test.YtoofgblmpjndjaaGreatDoorChecked
import Derived.Test.YtoofgblmpjndjaaGreatDoorZG3
import Derived.Deep.CutBlock
import Derived.Deep.DeepCutAuto
import Derived.Test.YtoofgblmpjndjaaGreatDoorZG1
import Derived.Deep.AppendLies
import Derived.Lib.FieldsP
import Derived.Lib.SpaceUEq
import Derived.Lib.SplitLaws
import Derived.Lib.RuneCount
import Derived.Lib.IndexBytes
set_option linter.unusedVariables false
set_option linter.unusedSimpArgs false
namespace Go.Proofs.YtoofgblmpjndjaaGreatDoor.Scr
open Go.RowKit K Go.Lib

theorem u8_bd (c : UInt8) : c.toNat < 256 := c.toNat_lt
theorem size_len (s : ByteArray) : s.data.toList.length = s.size := Array.length_toList
theorem byte_at {s : ByteArray} {k : Nat} (h : k < s.size) : ∃ c, s[k]'h = c ∧ s.data.toList[k]? = some c := ⟨s[k]'h, rfl, by
 rw [List.getElem?_eq_getElem (by rw [size_len]; exact h)]
 rfl⟩
theorem u8_eq {c : UInt8} {n : Nat} (hn : n < 256) : (c.toNat = n) ↔ c = UInt8.ofNat n := by
 constructor
 ·intro h; rw [← UInt8.toNat_inj, h, UInt8.toNat_ofNat']; omega
 ·rintro rfl; rw [UInt8.toNat_ofNat']; omega
theorem all_take {p : UInt8 → Bool} {l : Tx} {k : Nat} {c : UInt8} (h : (l.take k).all p = true) (hc : l[k]? = some c) (hp : p c = true) : (l.take (k + 1)).all p = true := by
 rw [List.take_add_one, hc, Option.toList_some, List.all_append, h]
 simp [hp]
theorem all_not {p : UInt8 → Bool} {l : Tx} {k : Nat} {c : UInt8} (hc : l[k]? = some c) (hp : p c = false) : l.all p = false := by
 rw [← Bool.not_eq_true, List.all_eq_true]
 intro h
 have := h c (List.mem_of_getElem? hc)
 rw [hp] at this
 cases this
theorem rletter_any (c : UInt8) (w : World) : Calls Tryz.prog 79 #[.int .u8 ((c.toNat : Nat) : Int)] w fun e w' => e = .returned (.bool (isLet c)) ∧ w = w' := by
 by_cases h1 : 97 ≤ c.toNat
 ·have d1 : decide ((97 : Int) ≤ ((c.toNat : Nat) : Int)) = true := decide_eq_true (by omega)
  have d2 : decide (97 ≤ c.toNat) = true := decide_eq_true h1
  have HR : Hid (isLet c = decide (((c.toNat : Nat) : Int) ≤ 122)) := by show _ = _; unfold isLet; rw [decide_eq_decide]; omega
  clear h1
  go_enter Tryz.func79, Tryz.ntmps79
  go_wp2
  go_ret
  exact ⟨by rw [HR.out]; rfl, rfl⟩
 ·have d1 : decide ((97 : Int) ≤ ((c.toNat : Nat) : Int)) = false := decide_eq_false (by omega)
  have d2 : decide (97 ≤ c.toNat) = false := decide_eq_false h1
  have HR : Hid (isLet c = false) := by show _ = _; unfold isLet; exact decide_eq_false (by omega)
  clear h1
  go_enter Tryz.func79, Tryz.ntmps79
  go_wp2
  go_ret
  exact ⟨by rw [HR.out]; rfl, rfl⟩
theorem rdigit_any (c : UInt8) (w : World) : Calls Tryz.prog 80 #[.int .u8 ((c.toNat : Nat) : Int)] w fun e w' => e = .returned (.bool (isDig c)) ∧ w = w' := by
 by_cases h1 : 48 ≤ c.toNat
 ·have d1 : decide ((48 : Int) ≤ ((c.toNat : Nat) : Int)) = true := decide_eq_true (by omega)
  have d2 : decide (48 ≤ c.toNat) = true := decide_eq_true h1
  have HR : Hid (isDig c = decide (((c.toNat : Nat) : Int) ≤ 57)) := by show _ = _; unfold isDig; rw [decide_eq_decide]; omega
  clear h1
  go_enter Tryz.func80, Tryz.ntmps80
  go_wp2
  go_ret
  exact ⟨by rw [HR.out]; rfl, rfl⟩
 ·have d1 : decide ((48 : Int) ≤ ((c.toNat : Nat) : Int)) = false := decide_eq_false (by omega)
  have d2 : decide (48 ≤ c.toNat) = false := decide_eq_false h1
  have HR : Hid (isDig c = false) := by show _ = _; unfold isDig; exact decide_eq_false (by omega)
  clear h1
  go_enter Tryz.func80, Tryz.ntmps80
  go_wp2
  go_ret
  exact ⟨by rw [HR.out]; rfl, rfl⟩
theorem meas_by {n k d : Nat} (h : k < n) (hd : 0 < d) : n - (intOf (.int .i64 ((k + d : Nat) : Int))).toNat < n - (intOf (.int .i64 (k : Int))).toNat := by
 show n - ((k + d : Nat) : Int).toNat < n - ((k : Nat) : Int).toNat
 simp only [Int.toNat_natCast]
 omega
set_option maxHeartbeats 2000000 in
theorem rname_any (s : ByteArray) (w : World) : Calls Tryz.prog 55 #[.string s] w fun e w' => e = .returned (.bool (nameB s.data.toList)) ∧ w = w' := by
 obtain ⟨l, hl⟩ : ∃ l, s.data.toList = l := ⟨_, rfl⟩
 obtain ⟨n, hn⟩ : ∃ n, s.size = n := ⟨_, rfl⟩
 have HTX := Lib.hid hl
 have HSZ := Lib.hid hn
 have HLN : Hid (l.length = n) := by show _ = _; rw [← hl, size_len, hn]
 rw [hl]
 obtain ⟨res, hres⟩ : ∃ b, nameB l = b := ⟨_, rfl⟩
 rw [hres]
 have HRES := Lib.hid hres
 clear hl hres
 by_cases hA : n < 1 ∨ 16 < n
 ·have HE : Hid (res = false) := by
   show _ = _
   rw [← HRES.out]
   unfold nameB madeB
   rw [decide_eq_false (by rw [HLN.out]; omega)]
   simp
  by_cases h1 : n < 1
  ·have d1 : decide ((n : Int) < 1) = true := decide_eq_true (by omega)
   have d2 : decide (n < 1) = true := decide_eq_true h1
   clear hA h1
   go_enter Tryz.func55, Tryz.ntmps55
   go_wp2
   go_ret
   exact ⟨by rw [HE.out]; rfl, rfl⟩
  ·have d1 : decide ((n : Int) < 1) = false := decide_eq_false (by omega)
   have d2 : decide (n < 1) = false := decide_eq_false h1
   have d3 : decide ((16 : Int) < (n : Int)) = true := decide_eq_true (by omega)
   have d4 : decide (16 < n) = true := decide_eq_true (by omega)
   clear hA h1
   go_enter Tryz.func55, Tryz.ntmps55
   go_wp2
   go_ret
   exact ⟨by rw [HE.out]; rfl, rfl⟩
 ·have d1 : decide ((n : Int) < 1) = false := decide_eq_false (by omega)
  have d2 : decide (n < 1) = false := decide_eq_false (by omega)
  have d3 : decide ((16 : Int) < (n : Int)) = false := decide_eq_false (by omega)
  have d4 : decide (16 < n) = false := decide_eq_false (by omega)
  have HN : Hid (1 ≤ n ∧ n ≤ 16) := by show _ ∧ _; omega
  have HMD : Hid (madeB [95] l = l.all (kind [95])) := by show _ = _; unfold madeB; rw [decide_eq_true (by rw [HLN.out]; exact HN.out)]; simp
  clear hA
  obtain ⟨c0, hc0, hcl0⟩ := byte_at (s := s) (k := 0) (by rw [HSZ.out]; exact HN.out.1)
  rw [HTX.out] at hcl0
  have hg0 : l.getD 0 0 = c0 := by rw [List.getD_eq_getElem?_getD, hcl0]; rfl
  have HG0 : Hid (res = (l.all (kind [95]) && isLet c0)) := by show _ = _; rw [← HRES.out]; unfold nameB; rw [HMD.out, hg0]
  have i0 : (0 : Int) < n := by have := HN.out; omega
  clear hcl0 hg0
  by_cases hL : isLet c0 = true
  ·have HGD : Hid (l.all (kind [95]) = false → res = false) := fun h => by rw [HG0.out, h]; rfl
   have HOK : Hid (l.all (kind [95]) = true → res = true) := fun h => by rw [HG0.out, h, hL]; rfl
   go_enter Tryz.func55, Tryz.ntmps55
   go_wp2_with (first | (go_at_call 79; refine (rletter_any _ _).mono ?_; rintro e w' ⟨rfl, rfl⟩) | fail)
   clear d1 d2 d3 d4 hc0 hL i0
   go_loopw [3] (fun s3 wr => ∃ k : Nat, k ≤ n ∧ s3 = .int .i64 (k : Int) ∧ w = wr ∧ Hid ((l.take k).all (kind [95]) = true)) (fun s3 _ => n - (intOf s3).toNat)
   case atStart => exact ⟨0, by omega, rfl, rfl, rfl⟩
   case round =>
    obtain ⟨k, hk, rfl, rfl, HA⟩ := hrel
    by_cases hlt : k < n
    ·have HLT := Lib.hid hlt
     have d0 : decide ((k : Int) < (n : Int)) = true := decide_eq_true (by omega)
     have e0 : decide (k < n) = true := decide_eq_true hlt
     have l0 : (k : Int) < n := by omega
     have z0 : (0 : Int) ≤ k := by omega
     obtain ⟨c, hc, hcl⟩ := byte_at (s := s) (k := k) (by rw [HSZ.out]; exact hlt)
     rw [HTX.out] at hcl
     have HCL := Lib.hid hcl
     have HU : Hid (wrap64 ((k : Int) + 1) = ((k + 1 : Nat) : Int)) := by show _ = _; have := HN.out; rw [IntWalk.wrap64_in _ (by omega)]; rfl
     clear hk hcl
     by_cases h0 : isLet c = true
     ·have HA2 : Hid ((l.take (k + 1)).all (kind [95]) = true) := all_take HA.out HCL.out (by unfold kind; rw [h0]; simp)
      go_wp2_with (first | (go_at_call 79; refine (rletter_any _ _).mono ?_; rintro e w' ⟨rfl, rfl⟩) | (go_at_call 80; refine (rdigit_any _ _).mono ?_; rintro e w' ⟨rfl, rfl⟩) | fail)
      go_roundw
      case rel => exact ⟨k + 1, HLT.out, by first | rfl | rw [HU.out], by trivial, HA2⟩
      case measure => first | exact meas_by (d := 1) HLT.out (by omega) | (rw [HU.out]; exact meas_by (d := 1) HLT.out (by omega))
     ·have g0 : isLet c = false := by simpa using h0
      clear h0
      by_cases h1 : isDig c = true
      ·have HA2 : Hid ((l.take (k + 1)).all (kind [95]) = true) := all_take HA.out HCL.out (by unfold kind; rw [h1]; simp)
       go_wp2_with (first | (go_at_call 79; refine (rletter_any _ _).mono ?_; rintro e w' ⟨rfl, rfl⟩) | (go_at_call 80; refine (rdigit_any _ _).mono ?_; rintro e w' ⟨rfl, rfl⟩) | fail)
       go_roundw
       case rel => exact ⟨k + 1, HLT.out, by first | rfl | rw [HU.out], by trivial, HA2⟩
       case measure => first | exact meas_by (d := 1) HLT.out (by omega) | (rw [HU.out]; exact meas_by (d := 1) HLT.out (by omega))
      ·have g1 : isDig c = false := by simpa using h1
       clear h1
       by_cases h2 : c = 95
       ·have HA2 : Hid ((l.take (k + 1)).all (kind [95]) = true) := all_take HA.out HCL.out (by unfold kind; rw [h2]; simp)
        have q2 : ((c.toNat : Nat) : Int) = 95 := by rw [h2]; rfl
        have p2 : (((c.toNat : Nat) : Int) != 95) = false := by rw [q2]; rfl
        clear h2 q2
        go_wp2_with (first | (go_at_call 79; refine (rletter_any _ _).mono ?_; rintro e w' ⟨rfl, rfl⟩) | (go_at_call 80; refine (rdigit_any _ _).mono ?_; rintro e w' ⟨rfl, rfl⟩) | fail)
        go_roundw
        case rel => exact ⟨k + 1, HLT.out, by first | rfl | rw [HU.out], by trivial, HA2⟩
        case measure => first | exact meas_by (d := 1) HLT.out (by omega) | (rw [HU.out]; exact meas_by (d := 1) HLT.out (by omega))
       ·have n2 : c ≠ 95 := h2
        have p2 : (((c.toNat : Nat) : Int) != 95) = true := by
         have : c.toNat ≠ 95 := fun e => h2 ((u8_eq (n := 95) (by decide)).1 e)
         simp; omega
        clear h2
        have HB : Hid (l.all (kind [95]) = false) := by
         show _ = _
         refine all_not HCL.out ?_
         unfold kind
         rw [g0, g1]
         simp only [List.contains_cons, List.contains_nil, beq_eq_false_iff_ne.2 n2, Bool.or_false]
        clear n2
        go_wp2_with (first | (go_at_call 79; refine (rletter_any _ _).mono ?_; rintro e w' ⟨rfl, rfl⟩) | (go_at_call 80; refine (rdigit_any _ _).mono ?_; rintro e w' ⟨rfl, rfl⟩) | fail)
        go_ret
        exact ⟨by rw [HGD.out HB.out]; rfl, rfl⟩
    ·obtain rfl : k = n := by omega
     have d0 : decide ((k : Int) < (k : Int)) = false := decide_eq_false (by omega)
     have HB : Hid (l.all (kind [95]) = true) := by
      have h := HA.out
      rw [List.take_of_length_le (by rw [← HTX.out, size_len, HSZ.out]; exact Nat.le_refl _)] at h
      exact h
     clear hlt hk
     go_wp2_with fail
     go_ret
     exact ⟨by rw [HOK.out HB.out]; rfl, rfl⟩
  ·have hL' : isLet c0 = false := by simpa using hL
   have HE : Hid (res = false) := by show _ = _; rw [HG0.out, hL', Bool.and_false]
   clear hL
   go_enter Tryz.func55, Tryz.ntmps55
   go_wp2_with (first | (go_at_call 79; refine (rletter_any _ _).mono ?_; rintro e w' ⟨rfl, rfl⟩) | fail)
   go_ret
   exact ⟨by rw [HE.out]; rfl, rfl⟩
set_option maxHeartbeats 2000000 in
theorem rfile_any (s : ByteArray) (w : World) : Calls Tryz.prog 56 #[.string s] w fun e w' => e = .returned (.bool (fileB s.data.toList)) ∧ w = w' := by
 obtain ⟨l, hl⟩ : ∃ l, s.data.toList = l := ⟨_, rfl⟩
 obtain ⟨n, hn⟩ : ∃ n, s.size = n := ⟨_, rfl⟩
 have HTX := Lib.hid hl
 have HSZ := Lib.hid hn
 have HLN : Hid (l.length = n) := by show _ = _; rw [← hl, size_len, hn]
 rw [hl]
 obtain ⟨res, hres⟩ : ∃ b, fileB l = b := ⟨_, rfl⟩
 rw [hres]
 have HRES := Lib.hid hres
 clear hl hres
 by_cases hA : n < 1 ∨ 16 < n
 ·have HE : Hid (res = false) := by
   show _ = _
   rw [← HRES.out]
   unfold fileB madeB
   rw [decide_eq_false (by rw [HLN.out]; omega)]
   simp
  by_cases h1 : n < 1
  ·have d1 : decide ((n : Int) < 1) = true := decide_eq_true (by omega)
   have d2 : decide (n < 1) = true := decide_eq_true h1
   clear hA h1
   go_enter Tryz.func56, Tryz.ntmps56
   go_wp2
   go_ret
   exact ⟨by rw [HE.out]; rfl, rfl⟩
  ·have d1 : decide ((n : Int) < 1) = false := decide_eq_false (by omega)
   have d2 : decide (n < 1) = false := decide_eq_false h1
   have d3 : decide ((16 : Int) < (n : Int)) = true := decide_eq_true (by omega)
   have d4 : decide (16 < n) = true := decide_eq_true (by omega)
   clear hA h1
   go_enter Tryz.func56, Tryz.ntmps56
   go_wp2
   go_ret
   exact ⟨by rw [HE.out]; rfl, rfl⟩
 ·have d1 : decide ((n : Int) < 1) = false := decide_eq_false (by omega)
  have d2 : decide (n < 1) = false := decide_eq_false (by omega)
  have d3 : decide ((16 : Int) < (n : Int)) = false := decide_eq_false (by omega)
  have d4 : decide (16 < n) = false := decide_eq_false (by omega)
  have HN : Hid (1 ≤ n ∧ n ≤ 16) := by show _ ∧ _; omega
  have HMD : Hid (madeB [95, 46, 45] l = l.all (kind [95, 46, 45])) := by show _ = _; unfold madeB; rw [decide_eq_true (by rw [HLN.out]; exact HN.out)]; simp
  clear hA
  have HGD : Hid (l.all (kind [95, 46, 45]) = false → res = false) := fun h => by rw [← HRES.out]; unfold fileB; rw [HMD.out, h]
  have HOK : Hid (l.all (kind [95, 46, 45]) = true → res = true) := fun h => by rw [← HRES.out]; unfold fileB; rw [HMD.out, h]
  go_enter Tryz.func56, Tryz.ntmps56
  go_wp2
  clear d1 d2 d3 d4
  go_loopw [3] (fun s3 wr => ∃ k : Nat, k ≤ n ∧ s3 = .int .i64 (k : Int) ∧ w = wr ∧ Hid ((l.take k).all (kind [95, 46, 45]) = true)) (fun s3 _ => n - (intOf s3).toNat)
  case atStart => exact ⟨0, by omega, rfl, rfl, rfl⟩
  case round =>
   obtain ⟨k, hk, rfl, rfl, HA⟩ := hrel
   by_cases hlt : k < n
   ·have HLT := Lib.hid hlt
    have d0 : decide ((k : Int) < (n : Int)) = true := decide_eq_true (by omega)
    have e0 : decide (k < n) = true := decide_eq_true hlt
    have l0 : (k : Int) < n := by omega
    have z0 : (0 : Int) ≤ k := by omega
    obtain ⟨c, hc, hcl⟩ := byte_at (s := s) (k := k) (by rw [HSZ.out]; exact hlt)
    rw [HTX.out] at hcl
    have HCL := Lib.hid hcl
    have HU : Hid (wrap64 ((k : Int) + 1) = ((k + 1 : Nat) : Int)) := by show _ = _; have := HN.out; rw [IntWalk.wrap64_in _ (by omega)]; rfl
    clear hk hcl
    by_cases h0 : isLet c = true
    ·have HA2 : Hid ((l.take (k + 1)).all (kind [95, 46, 45]) = true) := all_take HA.out HCL.out (by unfold kind; rw [h0]; simp)
     go_wp2_with (first | (go_at_call 79; refine (rletter_any _ _).mono ?_; rintro e w' ⟨rfl, rfl⟩) | (go_at_call 80; refine (rdigit_any _ _).mono ?_; rintro e w' ⟨rfl, rfl⟩) | fail)
     go_roundw
     case rel => exact ⟨k + 1, HLT.out, by first | rfl | rw [HU.out], by trivial, HA2⟩
     case measure => first | exact meas_by (d := 1) HLT.out (by omega) | (rw [HU.out]; exact meas_by (d := 1) HLT.out (by omega))
    ·have g0 : isLet c = false := by simpa using h0
     clear h0
     by_cases h1 : isDig c = true
     ·have HA2 : Hid ((l.take (k + 1)).all (kind [95, 46, 45]) = true) := all_take HA.out HCL.out (by unfold kind; rw [h1]; simp)
      go_wp2_with (first | (go_at_call 79; refine (rletter_any _ _).mono ?_; rintro e w' ⟨rfl, rfl⟩) | (go_at_call 80; refine (rdigit_any _ _).mono ?_; rintro e w' ⟨rfl, rfl⟩) | fail)
      go_roundw
      case rel => exact ⟨k + 1, HLT.out, by first | rfl | rw [HU.out], by trivial, HA2⟩
      case measure => first | exact meas_by (d := 1) HLT.out (by omega) | (rw [HU.out]; exact meas_by (d := 1) HLT.out (by omega))
     ·have g1 : isDig c = false := by simpa using h1
      clear h1
      by_cases h2 : c = 95
      ·have HA2 : Hid ((l.take (k + 1)).all (kind [95, 46, 45]) = true) := all_take HA.out HCL.out (by unfold kind; rw [h2]; simp)
       have q2 : ((c.toNat : Nat) : Int) = 95 := by rw [h2]; rfl
       have p2 : (((c.toNat : Nat) : Int) != 95) = false := by rw [q2]; rfl
       clear h2 q2
       go_wp2_with (first | (go_at_call 79; refine (rletter_any _ _).mono ?_; rintro e w' ⟨rfl, rfl⟩) | (go_at_call 80; refine (rdigit_any _ _).mono ?_; rintro e w' ⟨rfl, rfl⟩) | fail)
       go_roundw
       case rel => exact ⟨k + 1, HLT.out, by first | rfl | rw [HU.out], by trivial, HA2⟩
       case measure => first | exact meas_by (d := 1) HLT.out (by omega) | (rw [HU.out]; exact meas_by (d := 1) HLT.out (by omega))
      ·have n2 : c ≠ 95 := h2
       have p2 : (((c.toNat : Nat) : Int) != 95) = true := by
        have : c.toNat ≠ 95 := fun e => h2 ((u8_eq (n := 95) (by decide)).1 e)
        simp; omega
       clear h2
       by_cases h3 : c = 46
       ·have HA2 : Hid ((l.take (k + 1)).all (kind [95, 46, 45]) = true) := all_take HA.out HCL.out (by unfold kind; rw [h3]; simp)
        have q3 : ((c.toNat : Nat) : Int) = 46 := by rw [h3]; rfl
        have p3 : (((c.toNat : Nat) : Int) != 46) = false := by rw [q3]; rfl
        clear h3 q3
        go_wp2_with (first | (go_at_call 79; refine (rletter_any _ _).mono ?_; rintro e w' ⟨rfl, rfl⟩) | (go_at_call 80; refine (rdigit_any _ _).mono ?_; rintro e w' ⟨rfl, rfl⟩) | fail)
        go_roundw
        case rel => exact ⟨k + 1, HLT.out, by first | rfl | rw [HU.out], by trivial, HA2⟩
        case measure => first | exact meas_by (d := 1) HLT.out (by omega) | (rw [HU.out]; exact meas_by (d := 1) HLT.out (by omega))
       ·have n3 : c ≠ 46 := h3
        have p3 : (((c.toNat : Nat) : Int) != 46) = true := by
         have : c.toNat ≠ 46 := fun e => h3 ((u8_eq (n := 46) (by decide)).1 e)
         simp; omega
        clear h3
        by_cases h4 : c = 45
        ·have HA2 : Hid ((l.take (k + 1)).all (kind [95, 46, 45]) = true) := all_take HA.out HCL.out (by unfold kind; rw [h4]; simp)
         have q4 : ((c.toNat : Nat) : Int) = 45 := by rw [h4]; rfl
         have p4 : (((c.toNat : Nat) : Int) != 45) = false := by rw [q4]; rfl
         clear h4 q4
         go_wp2_with (first | (go_at_call 79; refine (rletter_any _ _).mono ?_; rintro e w' ⟨rfl, rfl⟩) | (go_at_call 80; refine (rdigit_any _ _).mono ?_; rintro e w' ⟨rfl, rfl⟩) | fail)
         go_roundw
         case rel => exact ⟨k + 1, HLT.out, by first | rfl | rw [HU.out], by trivial, HA2⟩
         case measure => first | exact meas_by (d := 1) HLT.out (by omega) | (rw [HU.out]; exact meas_by (d := 1) HLT.out (by omega))
        ·have n4 : c ≠ 45 := h4
         have p4 : (((c.toNat : Nat) : Int) != 45) = true := by
          have : c.toNat ≠ 45 := fun e => h4 ((u8_eq (n := 45) (by decide)).1 e)
          simp; omega
         clear h4
         have HB : Hid (l.all (kind [95, 46, 45]) = false) := by
          show _ = _
          refine all_not HCL.out ?_
          unfold kind
          rw [g0, g1]
          simp only [List.contains_cons, List.contains_nil, beq_eq_false_iff_ne.2 n2, beq_eq_false_iff_ne.2 n3, beq_eq_false_iff_ne.2 n4, Bool.or_false]
         clear n2 n3 n4
         go_wp2_with (first | (go_at_call 79; refine (rletter_any _ _).mono ?_; rintro e w' ⟨rfl, rfl⟩) | (go_at_call 80; refine (rdigit_any _ _).mono ?_; rintro e w' ⟨rfl, rfl⟩) | fail)
         go_ret
         exact ⟨by rw [HGD.out HB.out]; rfl, rfl⟩
   ·obtain rfl : k = n := by omega
    have d0 : decide ((k : Int) < (k : Int)) = false := decide_eq_false (by omega)
    have HB : Hid (l.all (kind [95, 46, 45]) = true) := by
     have h := HA.out
     rw [List.take_of_length_le (by rw [← HTX.out, size_len, HSZ.out]; exact Nat.le_refl _)] at h
     exact h
    clear hlt hk
    go_wp2_with fail
    go_ret
    exact ⟨by rw [HOK.out HB.out]; rfl, rfl⟩
end Go.Proofs.YtoofgblmpjndjaaGreatDoor.Scr
set_option linter.unusedVariables false
set_option linter.unusedSimpArgs false
namespace Go.Proofs.YtoofgblmpjndjaaGreatDoor.Scr
open Go.RowKit K Go.Lib

theorem ext_listB (s : ByteArray) (a b : Nat) : (s.extract a b).data.toList = (s.data.toList.drop a).take (b - a) := by
 rw [ByteArray.data_extract, Array.toList_extract]
theorem digV_take {l : Tx} {k : Nat} {c : UInt8} (h : l[k]? = some c) : digV (l.take (k + 1)) = 10 * digV (l.take k) + ((c.toNat : Int) - 48) := by
 rw [List.take_add_one, h, Option.toList_some, digV_snoc]
theorem pow10_le {k : Nat} (h : k ≤ 9) : (10 : Int) ^ k ≤ 10 ^ 9 := by
 have : (10 : Nat) ^ k ≤ 10 ^ 9 := Nat.pow_le_pow_right (by omega) h
 exact_mod_cast this
theorem dig_facts {v v2 : Int} {c : UInt8} (hv : 0 ≤ v ∧ v ≤ 1000000000) (hc : isDig c = true) (h2 : 10 * v + ((c.toNat : Int) - 48) = v2) :
  ∃ p x : Int, wrap64 (10 * v) = p ∧ IntKind.i64.wrap (10 * v) = p ∧ IntKind.u8.wrap (((c.toNat : Nat) : Int) - 48) = x ∧ IntKind.i64.wrap x = x ∧ wrap64 (p + x) = v2 ∧ IntKind.i64.wrap (p + x) = v2 ∧ 0 ≤ x := by
 have hd : 48 ≤ c.toNat ∧ c.toNat ≤ 57 := of_decide_eq_true hc
 refine ⟨10 * v, (c.toNat : Int) - 48, ?_, ?_, ?_, ?_, ?_, ?_, by omega⟩
 ·rw [IntWalk.wrap64_in _ (by omega)]
 ·rw [IntWalk.i64_in _ (by omega)]
 ·rw [IntKind.wrap_u8]; omega
 ·rw [IntWalk.i64_in _ (by omega)]
 ·rw [IntWalk.wrap64_in _ (by omega)]; omega
 ·rw [IntWalk.i64_in _ (by omega)]; omega
theorem digB_not {l : Tx} (h : l.length < 1 ∨ 9 < l.length) : digB l = false := by
 unfold digB
 rw [decide_eq_false (by omega), Bool.false_and]
theorem digB_all {l : Tx} (h : 1 ≤ l.length ∧ l.length ≤ 9) : digB l = l.all isDig := by
 unfold digB
 rw [decide_eq_true h, Bool.true_and]
def NumP (w : World) (res : Option Int) (e : Ending) (w' : World) : Prop := e = .returned (.tuple #[.int .i64 (res.getD 0), .bool res.isSome]) ∧ w = w'
set_option maxHeartbeats 2000000 in
theorem rnumber_any (s : ByteArray) (w : World) : Calls Tryz.prog 81 #[.string s] w (NumP w (numM s.data.toList)) := by
 obtain ⟨res, hres⟩ : ∃ b, numM s.data.toList = b := ⟨_, rfl⟩
 rw [hres]
 obtain ⟨n, hn⟩ : ∃ n, s.size = n := ⟨_, rfl⟩
 have HSZ := Lib.hid hn
 have hln : s.data.toList.length = n := by rw [size_len, hn]
 match hl : s.data.toList with
 | [] =>
  rw [hl] at hres hln
  have hn0 : n = 0 := by simpa using hln.symm
  have HE : Hid (res = none) := hres.symm
  subst hn0
  clear hres hln hl
  go_enter Tryz.func81, Tryz.ntmps81
  go_wp2
  go_ret2
  exact ⟨by rw [HE.out]; rfl, rfl⟩
 | c0 :: r0 =>
  rw [hl] at hres hln
  have HPOS : Hid (0 < n) := by show _ < _; simp at hln; omega
  have p0 : decide ((0 : Int) < (n : Int)) = true := decide_eq_true (by have := HPOS.out; omega)
  have p1 : decide (0 < n) = true := decide_eq_true HPOS.out
  have p2 : (0 : Int) < n := by have := HPOS.out; omega
  obtain ⟨c, hc, hcl⟩ := byte_at (s := s) (k := 0) (by rw [hn]; exact HPOS.out)
  have hcc : c = c0 := by rw [hl] at hcl; simpa using hcl.symm
  subst hcc
  rw [numM_cons] at hres
  by_cases h45 : c = 45
  ·rw [if_pos h45] at hres
   have q0 : ((c.toNat : Nat) : Int) = 45 := by rw [h45]; rfl
   have q1 : (((c.toNat : Nat) : Int) == 45) = true := by rw [q0]; rfl
   have HTX2 : Hid ((s.extract 1 n).data.toList = r0) := by
    show _ = _
    rw [ext_listB, hl]
    simp at hln ⊢
    rw [List.take_of_length_le (by omega)]
   have HLN2 : Hid (r0.length = n - 1) := by show _ = _; simp at hln; omega
   have HSZ2 : Hid ((s.extract 1 n).size = n - 1) := by show _ = _; rw [← size_len, HTX2.out, HLN2.out]
   have HRS : Hid (res = if digB r0 then some (-(digV r0)) else none) := hres.symm
   have sl1 : (1 : Int) ≤ n := by have := HPOS.out; omega
   obtain ⟨s2, hs2⟩ : ∃ x, s.extract 1 n = x := ⟨_, rfl⟩
   obtain ⟨m, hm⟩ : ∃ x, n - 1 = x := ⟨_, rfl⟩
   obtain ⟨L, hL⟩ : ∃ x, r0 = x := ⟨_, rfl⟩
   rw [hs2] at HTX2 HSZ2
   rw [hm] at HSZ2 HLN2
   rw [hL] at HTX2 HLN2 HRS
   have hsz2 : s2.size = m := HSZ2.out
   clear hres hln hl h45 hcl hm hL q0
   go_enter Tryz.func81, Tryz.ntmps81
   go_upto_region 4 with (fail)
   clear hc hn p0 p1 p2 q1 sl1 hs2 HSZ HPOS
   by_cases hA : m < 1 ∨ 9 < m
   ·have HE : Hid (res = none) := by show _ = _; rw [HRS.out, digB_not (by rw [HLN2.out]; exact hA), if_neg (by decide)]
    by_cases h1 : m < 1
    ·have d1 : decide ((m : Int) < 1) = true := decide_eq_true (by omega)
     have d2 : decide (m < 1) = true := decide_eq_true h1
     clear hA h1
     go_wp2_with fail
     go_ret2
     exact ⟨by rw [HE.out]; rfl, rfl⟩
    ·have d1 : decide ((m : Int) < 1) = false := decide_eq_false (by omega)
     have d2 : decide (m < 1) = false := decide_eq_false h1
     have d3 : decide ((9 : Int) < (m : Int)) = true := decide_eq_true (by omega)
     have d4 : decide (9 < m) = true := decide_eq_true (by omega)
     clear hA h1
     go_wp2_with fail
     go_ret2
     exact ⟨by rw [HE.out]; rfl, rfl⟩
   ·have d1 : decide ((m : Int) < 1) = false := decide_eq_false (by omega)
    have d2 : decide (m < 1) = false := decide_eq_false (by omega)
    have d3 : decide ((9 : Int) < (m : Int)) = false := decide_eq_false (by omega)
    have d4 : decide (9 < m) = false := decide_eq_false (by omega)
    have HM : Hid (1 ≤ m ∧ m ≤ 9) := by show _ ∧ _; omega
    have HDB : Hid (digB L = L.all isDig) := digB_all (by rw [HLN2.out]; exact HM.out)
    clear hA
    go_wp2_with fail
    clear d1 d2 d3 d4
    go_loopw [5, 6] (fun s5 s6 wr => ∃ k : Nat, k ≤ m ∧ s5 = .int .i64 (digV (L.take k)) ∧ s6 = .int .i64 (k : Int) ∧ w = wr ∧ Hid ((L.take k).all isDig = true)) (fun _ s6 _ => m - (intOf s6).toNat)
    case atStart => exact ⟨0, by omega, rfl, rfl, rfl, rfl⟩
    case round =>
     obtain ⟨k, hk, rfl, rfl, rfl, HA⟩ := hrel
     by_cases hlt : k < m
     ·have HLT := Lib.hid hlt
      have d0 : decide ((k : Int) < (m : Int)) = true := decide_eq_true (by omega)
      have e0 : decide (k < m) = true := decide_eq_true hlt
      have l0 : (k : Int) < m := by omega
      have z0 : (0 : Int) ≤ k := by omega
      obtain ⟨c, hc, hcl⟩ := byte_at (s := s2) (k := k) (by rw [HSZ2.out]; exact hlt)
      rw [HTX2.out] at hcl
      have HCL := Lib.hid hcl
      by_cases hD : isDig c = true
      ·have hb := digV_bd k (L.take k) (by rw [List.length_take, HLN2.out]; omega) HA.out
       have hp := pow10_le (k := k) (by have := HM.out; omega)
       have hs := digV_take HCL.out
       obtain ⟨v, hv⟩ : ∃ x, digV (L.take k) = x := ⟨_, rfl⟩
       obtain ⟨v2, hv2⟩ : ∃ x, digV (L.take (k + 1)) = x := ⟨_, rfl⟩
       rw [hv] at hb hs
       rw [hv2] at hs
       rw [hv]
       obtain ⟨p, x, f1, f2, f3, f4, f5, f6, f7⟩ := dig_facts (c := c) (v := v) (v2 := v2) (by omega) hD hs.symm
       have HV2 := Lib.hid hv2
       have HA2 : Hid ((L.take (k + 1)).all isDig = true) := all_take HA.out HCL.out hD
       have HU : Hid (wrap64 ((k : Int) + 1) = ((k + 1 : Nat) : Int)) := by clear f1 f2 f3 f4 f5 f6; show _ = _; have := HM.out; have := HLT.out; rw [IntWalk.wrap64_in _ (by omega)]; rfl
       clear hk hcl hb hp hs hv hv2 f7
       go_wp2_with (first | (go_at_call 80; refine (rdigit_any _ _).mono ?_; rintro e w' ⟨rfl, rfl⟩) | fail)
       go_roundw
       case rel => exact ⟨k + 1, HLT.out, by rw [HV2.out], by first | rfl | rw [HU.out], by trivial, HA2⟩
       case measure => first | exact meas_by (d := 1) HLT.out (by omega) | (rw [HU.out]; exact meas_by (d := 1) HLT.out (by omega))
      ·have hD2 : isDig c = false := by simpa using hD
       have HE : Hid (res = none) := by show _ = _; rw [HRS.out, HDB.out, all_not HCL.out hD2, if_neg (by decide)]
       clear hk hcl hD
       go_wp2_with (first | (go_at_call 80; refine (rdigit_any _ _).mono ?_; rintro e w' ⟨rfl, rfl⟩) | fail)
       go_ret2
       exact ⟨by rw [HE.out]; rfl, rfl⟩
     ·obtain rfl : k = m := by omega
      have d0 : decide ((k : Int) < (k : Int)) = false := decide_eq_false (by omega)
      have hb := digV_bd k (L.take k) (by rw [List.length_take, HLN2.out]; omega) HA.out
      have hp := pow10_le (k := k) (by have := HM.out; omega)
      have ha := HA.out
      rw [List.take_of_length_le (by rw [HLN2.out]; exact Nat.le_refl _)] at hb ha ⊢
      have HE : Hid (res = some (-(digV L))) := by show _ = _; rw [HRS.out, HDB.out, ha, if_pos rfl]
      obtain ⟨v, hv⟩ : ∃ x, digV L = x := ⟨_, rfl⟩
      rw [hv] at hb HE ⊢
      have n1 : wrap64 (-v) = -v := by rw [IntWalk.wrap64_in _ (by omega)]
      have n2 : IntKind.i64.wrap (-v) = -v := by clear n1; rw [IntWalk.i64_in _ (by omega)]
      clear hlt hk hp hv ha hb
      go_wp2_with fail
      go_ret2
      exact ⟨by rw [HE.out]; rfl, rfl⟩
  ·rw [if_neg h45] at hres
   have q1 : (((c.toNat : Nat) : Int) == 45) = false := by
    have : c.toNat ≠ 45 := fun e => h45 ((u8_eq (n := 45) (by decide)).1 e)
    simp; omega
   have HLN2 : Hid ((c :: r0).length = n) := hln
   have HTX2 : Hid (s.data.toList = c :: r0) := hl
   obtain ⟨L, hL⟩ : ∃ x, c :: r0 = x := ⟨_, rfl⟩
   obtain ⟨m, hm⟩ : ∃ x, n = x := ⟨_, rfl⟩
   have HRS : Hid (res = if digB L then some (digV L) else none) := by show _ = _; rw [← hres, hL]
   rw [hL] at HLN2 HTX2
   have HSZ2 := HSZ
   rw [hm] at HSZ2 HLN2
   clear hres hln hl h45 hcl hL
   subst hm
   go_enter Tryz.func81, Tryz.ntmps81
   go_upto_region 4 with (fail)
   clear hc p0 p1 p2 q1 HSZ HPOS
   by_cases hA : n < 1 ∨ 9 < n
   ·have HE : Hid (res = none) := by show _ = _; rw [HRS.out, digB_not (by rw [HLN2.out]; exact hA), if_neg (by decide)]
    by_cases h1 : n < 1
    ·have d1 : decide ((n : Int) < 1) = true := decide_eq_true (by omega)
     have d2 : decide (n < 1) = true := decide_eq_true h1
     clear hA h1
     go_wp2_with fail
     go_ret2
     exact ⟨by rw [HE.out]; rfl, rfl⟩
    ·have d1 : decide ((n : Int) < 1) = false := decide_eq_false (by omega)
     have d2 : decide (n < 1) = false := decide_eq_false h1
     have d3 : decide ((9 : Int) < (n : Int)) = true := decide_eq_true (by omega)
     have d4 : decide (9 < n) = true := decide_eq_true (by omega)
     clear hA h1
     go_wp2_with fail
     go_ret2
     exact ⟨by rw [HE.out]; rfl, rfl⟩
   ·have d1 : decide ((n : Int) < 1) = false := decide_eq_false (by omega)
    have d2 : decide (n < 1) = false := decide_eq_false (by omega)
    have d3 : decide ((9 : Int) < (n : Int)) = false := decide_eq_false (by omega)
    have d4 : decide (9 < n) = false := decide_eq_false (by omega)
    have HM : Hid (1 ≤ n ∧ n ≤ 9) := by show _ ∧ _; omega
    have HDB : Hid (digB L = L.all isDig) := digB_all (by rw [HLN2.out]; exact HM.out)
    clear hA
    go_wp2_with fail
    clear d1 d2 d3 d4
    go_loopw [5, 6] (fun s5 s6 wr => ∃ k : Nat, k ≤ n ∧ s5 = .int .i64 (digV (L.take k)) ∧ s6 = .int .i64 (k : Int) ∧ w = wr ∧ Hid ((L.take k).all isDig = true)) (fun _ s6 _ => n - (intOf s6).toNat)
    case atStart => exact ⟨0, by omega, rfl, rfl, rfl, rfl⟩
    case round =>
     obtain ⟨k, hk, rfl, rfl, rfl, HA⟩ := hrel
     by_cases hlt : k < n
     ·have HLT := Lib.hid hlt
      have d0 : decide ((k : Int) < (n : Int)) = true := decide_eq_true (by omega)
      have e0 : decide (k < n) = true := decide_eq_true hlt
      have l0 : (k : Int) < n := by omega
      have z0 : (0 : Int) ≤ k := by omega
      obtain ⟨c, hc, hcl⟩ := byte_at (s := s) (k := k) (by rw [HSZ2.out]; exact hlt)
      rw [HTX2.out] at hcl
      have HCL := Lib.hid hcl
      by_cases hD : isDig c = true
      ·have hb := digV_bd k (L.take k) (by rw [List.length_take, HLN2.out]; omega) HA.out
       have hp := pow10_le (k := k) (by have := HM.out; omega)
       have hs := digV_take HCL.out
       obtain ⟨v, hv⟩ : ∃ x, digV (L.take k) = x := ⟨_, rfl⟩
       obtain ⟨v2, hv2⟩ : ∃ x, digV (L.take (k + 1)) = x := ⟨_, rfl⟩
       rw [hv] at hb hs
       rw [hv2] at hs
       rw [hv]
       obtain ⟨p, x, f1, f2, f3, f4, f5, f6, f7⟩ := dig_facts (c := c) (v := v) (v2 := v2) (by omega) hD hs.symm
       have HV2 := Lib.hid hv2
       have HA2 : Hid ((L.take (k + 1)).all isDig = true) := all_take HA.out HCL.out hD
       have HU : Hid (wrap64 ((k : Int) + 1) = ((k + 1 : Nat) : Int)) := by clear f1 f2 f3 f4 f5 f6; show _ = _; have := HM.out; have := HLT.out; rw [IntWalk.wrap64_in _ (by omega)]; rfl
       clear hk hcl hb hp hs hv hv2 f7
       go_wp2_with (first | (go_at_call 80; refine (rdigit_any _ _).mono ?_; rintro e w' ⟨rfl, rfl⟩) | fail)
       go_roundw
       case rel => exact ⟨k + 1, HLT.out, by rw [HV2.out], by first | rfl | rw [HU.out], by trivial, HA2⟩
       case measure => first | exact meas_by (d := 1) HLT.out (by omega) | (rw [HU.out]; exact meas_by (d := 1) HLT.out (by omega))
      ·have hD2 : isDig c = false := by simpa using hD
       have HE : Hid (res = none) := by show _ = _; rw [HRS.out, HDB.out, all_not HCL.out hD2, if_neg (by decide)]
       clear hk hcl hD
       go_wp2_with (first | (go_at_call 80; refine (rdigit_any _ _).mono ?_; rintro e w' ⟨rfl, rfl⟩) | fail)
       go_ret2
       exact ⟨by rw [HE.out]; rfl, rfl⟩
     ·obtain rfl : k = n := by omega
      have d0 : decide ((k : Int) < (k : Int)) = false := decide_eq_false (by omega)
      have hb := digV_bd k (L.take k) (by rw [List.length_take, HLN2.out]; omega) HA.out
      have hp := pow10_le (k := k) (by have := HM.out; omega)
      have ha := HA.out
      rw [List.take_of_length_le (by rw [HLN2.out]; exact Nat.le_refl _)] at hb ha ⊢
      have HE : Hid (res = some (digV L)) := by show _ = _; rw [HRS.out, HDB.out, ha, if_pos rfl]
      obtain ⟨v, hv⟩ : ∃ x, digV L = x := ⟨_, rfl⟩
      rw [hv] at hb HE ⊢
      skip
      clear hlt hk hp hv ha hb
      go_wp2_with fail
      go_ret2
      exact ⟨by rw [HE.out]; rfl, rfl⟩
end Go.Proofs.YtoofgblmpjndjaaGreatDoor.Scr
set_option linter.unusedVariables false
set_option linter.unusedSimpArgs false
namespace Go.Proofs.YtoofgblmpjndjaaGreatDoor.Scr
open Go.RowKit K Go.Lib

def vS (t : Tx) : Value := .string (ba t)
structure SS (w : World) (A : Option Addr) (n : Nat) (l : List Tx) : Prop where
 len : l.length = n
 sl : Sl w A (l.map vS)
 sz : n ≤ 8796093022000
theorem SS.below {w w' : World} {A : Option Addr} {n : Nat} {l : List Tx} (h : SS w A n l) (hb : Below w.heap.size w w') : SS w' A n l := ⟨h.len, h.sl.below hb (Nat.le_refl _), h.sz⟩
theorem SS.cell {w : World} {A : Option Addr} {n : Nat} {l : List Tx} (h : SS w A n l) {i : Nat} (hi : i < n) :
  ∃ b off t, A = some ⟨b, off, none⟩ ∧ w.cell? ⟨b, off + i, none⟩ = some (.string (ba t)) ∧ l[i]? = some t ∧ b < w.heap.size := by
 have hl : i < l.length := by rw [h.len]; exact hi
 obtain ⟨b, off, rfl, hc⟩ := h.sl i (vS l[i]) (by rw [List.getElem?_map, List.getElem?_eq_getElem hl]; rfl)
 exact ⟨b, off, _, rfl, hc, List.getElem?_eq_getElem hl, World.block_lt_of_cell? w _ hc⟩
theorem SS.of_own {w : World} {base n c : Nat} {A : Option Addr} {l : List Tx} (h : w.ownsRow base 9 1 (.slice A n c) n (l.map vS)) (hn : n ≤ 8796093022000) : SS w A n l :=
 ⟨by have := h.1; simp at this; omega, Sl.of_own h, hn⟩
theorem infoStr : (Tryz.prog.info? 9).map (fun i => (i.zero, i.size, i.bytes)) = some (some (.string ⟨#[]⟩), 1, 16) := by kernel_rfl
theorem infoInt : (Tryz.prog.info? 3).map (fun i => (i.zero, i.size, i.bytes)) = some (some (.int .i64 0), 1, 8) := by kernel_rfl
theorem wpList_pushS {ops : Array Oper} {rest : List Oper} {o : Oper} {a : Act} {w : World} {Q : Exit → Act → World → Prop} (hgd : o.guard = none) (s x : Operand) (t : TypeId)
  (ho : o.op = .call { callee := .builtin .append, args := #[s, x], argTypes := #[t, t] }) (base : Nat) (ht : Tryz.prog.underlying t = some (.slice 9))
  (A : Option Addr) (n c : Nat) (l : List Tx) (hs : a.eval s = .slice A n c) (hown : w.ownsRow base 9 1 (.slice A n c) n (l.map vS))
  (T : TypeId) (y : Tx) (hx : a.eval x = .slice (some ⟨w.heap.size, 0, none⟩) 1 1) (hn : n ≤ 8796093021999) (hbase : base ≤ w.heap.size)
  (h : ∀ g cap w', w'.ownsRow base 9 1 (.slice (some ⟨g, 0, none⟩) (n + 1) cap) (n + 1) ((l ++ [y]).map vS) → Below base w w' → g < w'.heap.size → wpList Tryz.prog ops Q rest (a.put o.dst (.slice (some ⟨g, 0, none⟩) (n + 1) cap)) w') : wpList Tryz.prog ops Q (o :: rest) a (w.alloc (.cells #[.string (ba y)] T)) := by
 refine Jp.wpList_push hgd s x t ho base 9 1 16 (.string ⟨#[]⟩) ht infoStr rfl (by omega) (.slice A n c) n (l.map vS) hs (hown.alloc _) w.heap.size 1 1 [.string (ba y)] T hx rfl (heap_alloc_new w _) ?_ (by omega) ?_ ?_ ?_ _ rfl ?_
 ·intro u hu; simp at hu; subst hu; rfl
 ·unfold maxLen; omega
 ·omega
 ·simp; omega
 ·intro g cap w' h1 h2 _ h3
  refine h g cap w' ?_ ?_ h3
  ·rw [List.map_append]; exact h1
  ·exact ((Below.refl base w).alloc hbase _).grown h2 (by simp; omega) (fun q hq => (hown.lt q hq).1)
theorem numsM_cons (s : Tx) (r : List Tx) : numsM (s :: r) = match numM s with
  | none => none
  | some v => match numsM r with
   | none => none
   | some l => some (v :: l) := rfl
theorem numsM_snoc : ∀ {l : List Tx} {a : List Int} {t : Tx}, numsM l = some a → ∀ {v}, numM t = some v → numsM (l ++ [t]) = some (a ++ [v])
 | [], a, t, h, v, hv => by injection h with h; subst h; rw [List.nil_append, numsM_cons, hv]; rfl
 | s :: r, a, t, h, v, hv => by
  rw [numsM_cons] at h
  cases h0 : numM s with
  | none => rw [h0] at h; cases h
  | some v0 =>
   rw [h0] at h
   cases h1 : numsM r with
   | none => rw [h1] at h; cases h
   | some l0 =>
    rw [h1] at h
    injection h with h
    subst h
    rw [List.cons_append, numsM_cons, h0, numsM_snoc h1 hv]
    rfl
theorem numsM_bad : ∀ {l : List Tx} {t : Tx}, t ∈ l → numM t = none → numsM l = none
 | s :: r, t, h, hv => by
  rw [numsM_cons]
  rcases List.mem_cons.1 h with rfl | h
  ·rw [hv]
  ·rw [numsM_bad h hv]
   cases numM s <;> rfl
theorem numsM_len : ∀ {l : List Tx} {a : List Int}, numsM l = some a → a.length = l.length
 | [], a, h => by injection h with h; subst h; rfl
 | s :: r, a, h => by
  rw [numsM_cons] at h
  cases h0 : numM s with
  | none => rw [h0] at h; cases h
  | some v0 =>
   rw [h0] at h
   cases h1 : numsM r with
   | none => rw [h1] at h; cases h
   | some l0 =>
    rw [h1] at h
    injection h with h
    subst h
    simp [numsM_len h1]
def RNumsP (w : World) (res : Option (List Int)) (e : Ending) (w' : World) : Prop :=
 Below w.heap.size w w' ∧ match res with
 | none => e = .returned (.tuple #[.slice none 0 0, .bool false])
 | some a => ∃ A c, e = .returned (.tuple #[.slice A a.length c, .bool true]) ∧ w'.ownsRow w.heap.size 3 1 (.slice A a.length c) a.length (a.map (.int .i64))
set_option maxHeartbeats 2000000 in
theorem rnumbers_any {A : Option Addr} {n c : Nat} {l : List Tx} (w : World) (H : SS w A n l) : Calls Tryz.prog 57 #[.slice A n c] w (RNumsP w (numsM l)) := by
 obtain ⟨res, hres⟩ : ∃ b, numsM l = b := ⟨_, rfl⟩
 rw [hres]
 have HRES := Lib.hid hres
 have HS := Lib.hid H
 have HLN := Lib.hid H.len
 have HSZ : Hid (n ≤ 8796093022000) := H.sz
 clear hres H
 go_enter Tryz.func57, Tryz.ntmps57
 go_wp2
 go_loopw [4, 5] (fun s4 s5 wr => ∃ (k : Nat) (A1 : Option Addr) (c1 : Nat) (a : List Int), k ≤ n ∧ s4 = .slice A1 k c1 ∧ s5 = .int .i64 (k : Int) ∧ a.length = k ∧ Hid (numsM (l.take k) = some a) ∧ wr.ownsRow w.heap.size 3 1 (.slice A1 k c1) k (a.map (.int .i64)) ∧ Below w.heap.size w wr) (fun _ s5 _ => n - (intOf s5).toNat)
 case atStart => exact ⟨0, none, 0, [], by omega, rfl, rfl, rfl, rfl, World.ownsRow_nil _ _ _ _, Below.refl _ _⟩
 case round =>
  obtain ⟨k, A1, c1, a, hk, rfl, rfl, hal, HN, ho, hb⟩ := hrel
  have HO := Lib.hid ho
  have HB := Lib.hid hb
  have HAL := Lib.hid hal
  clear ho hb hal
  by_cases hlt : k < n
  ·have HLT := Lib.hid hlt
   obtain ⟨b, off, t, rfl, hc, ht, -⟩ := (HS.out.below HB.out).cell hlt
   have d0 : decide ((k : Int) < (n : Int)) = true := decide_eq_true (by omega)
   have e0 : decide (k < n) = true := decide_eq_true hlt
   have l0 : (k : Int) < n := by omega
   have z0 : (0 : Int) ≤ k := by omega
   have HT := Lib.hid ht
   have hcall := rnumber_any (ba t) wr
   rw [ba_list] at hcall
   have HU : Hid (wrap64 ((k : Int) + 1) = ((k + 1 : Nat) : Int)) := by show _ = _; have := HSZ.out; rw [IntWalk.wrap64_in _ (by omega)]; rfl
   cases hv : numM t with
   | none =>
    have HE : Hid (res = none) := by show _ = _; rw [← HRES.out]; exact numsM_bad (List.mem_of_getElem? HT.out) hv
    rw [hv] at hcall
    have HC : Hid (Calls Tryz.prog 81 #[.string (ba t)] wr fun e w' => e = .returned (.tuple #[.int .i64 0, .bool false]) ∧ wr = w') := hcall
    clear hcall hv ht hk hlt
    go_wp2_with (first | (go_at_call 81; refine HC.out.mono ?_; rintro e w' ⟨rfl, rfl⟩) | fail)
    go_ret2
    refine ⟨HB.out, ?_⟩
    rw [HE.out]
    rfl
   | some v =>
    have HN2 : Hid (numsM (l.take (k + 1)) = some (a ++ [v])) := by show _ = _; rw [List.take_add_one, HT.out, Option.toList_some]; exact numsM_snoc HN.out hv
    rw [hv] at hcall
    have HC : Hid (Calls Tryz.prog 81 #[.string (ba t)] wr fun e w' => e = .returned (.tuple #[.int .i64 v, .bool true]) ∧ wr = w') := hcall
    clear hcall hv ht hk hlt
    go_wp2_with (first | (go_at_call 81; refine HC.out.mono ?_; rintro e w' ⟨rfl, rfl⟩) | (at_builtin; refine Jp.wpList_push rfl (.tmp 24) (.tmp 26) _ rfl w.heap.size 3 1 8 (.int .i64 0) Tryz.underlying35 infoInt rfl (by omega) (.slice A1 k c1) k (a.map (.int .i64)) rfl (HO.out.alloc _) wr.heap.size 1 1 [.int .i64 v] 3 rfl rfl (heap_alloc_new wr _) (by simp [Value.oneCell']) (by omega) (by have := HSZ.out; have := HLT.out; unfold maxLen; omega) (by have := HSZ.out; have := HLT.out; omega) (by have := HB.out.size; simp; omega) _ rfl ?_) | fail)
    intro g cap w5 ho5 hg5 _ hlt5
    have HO5 : Hid (w5.ownsRow w.heap.size 3 1 (.slice (some ⟨g, 0, none⟩) (k + 1) cap) (k + 1) ((a ++ [v]).map (.int .i64))) := by show World.ownsRow _ _ _ _ _ _ _; rw [List.map_append]; exact ho5
    have HB5 : Hid (Below w.heap.size w w5) := (HB.out.alloc HB.out.size _).grown hg5 (by have := HB.out.size; simp; omega) (fun q hq => (HO.out.lt q hq).1)
    clear ho5 hg5 hlt5
    go_wp2_with fail
    go_roundw
    case rel => exact ⟨k + 1, _, cap, a ++ [v], HLT.out, rfl, by first | rfl | rw [HU.out], by rw [List.length_append, HAL.out]; rfl, HN2, HO5.out, HB5.out⟩
    case measure => first | exact meas_by (d := 1) HLT.out (by omega) | (rw [HU.out]; exact meas_by (d := 1) HLT.out (by omega))
  ·obtain rfl : k = n := by omega
   have d0 : decide ((k : Int) < (k : Int)) = false := decide_eq_false (by omega)
   have hn := HN.out
   rw [List.take_of_length_le (by rw [HLN.out]; exact Nat.le_refl _)] at hn
   have HE : Hid (res = some a) := by show _ = _; rw [← HRES.out]; exact hn
   clear hn hlt hk
   go_wp2_with fail
   go_ret2
   refine ⟨HB.out, ?_⟩
   rw [HE.out]
   refine ⟨A1, c1, ?_, ?_⟩
   ·rw [HAL.out]; rfl
   ·rw [HAL.out]; exact HO.out
end Go.Proofs.YtoofgblmpjndjaaGreatDoor.Scr
set_option linter.unusedVariables false
set_option linter.unusedSimpArgs false
namespace Go.Proofs.YtoofgblmpjndjaaGreatDoor.Scr
open Go.RowKit K Go.Lib

def blR (r : Nat) : Bool := r == 32 || r == 9 || r == 13
theorem isBl_nat (c : UInt8) : isBl c = blR c.toNat := by
 have h : ∀ n : UInt8, (c == n) = (c.toNat == n.toNat) := fun n => by
  rw [Bool.eq_iff_iff]
  simp [← UInt8.toNat_inj]
 unfold isBl blR
 rw [h, h, h]
 rfl
theorem blR_big {n : Nat} (h : 128 ≤ n) : blR n = false := by
 have e : ∀ k, k < 128 → (n == k) = false := fun k hk => by simp; omega
 unfold blR
 rw [e 32 (by omega), e 9 (by omega), e 13 (by omega)]
 rfl
theorem decodeN_big (n b0 b1 b2 b3 : Nat) (h : 128 ≤ b0) : 128 ≤ (decodeN n b0 b1 b2 b3).1 := by
 unfold decodeN
 repeat' split
 all_goals (simp only; omega)
theorem cont_bl {c : UInt8} (h : c.toNat / 64 = 2) : isBl c = false := by
 rw [isBl_nat]; exact blR_big (by omega)
theorem rune_bl (l : List UInt8) (hne : l ≠ []) : blR (decodeL l).1 = isBl (l.getD 0 0) ∧ (isBl (l.getD 0 0) = false → (decodeL l).2 ≤ l.length ∧ ∀ j, j < (decodeL l).2 → isBl (l.getD j 0) = false) ∧ (isBl (l.getD 0 0) = true → (decodeL l).2 = 1) := by
 have hlen : 1 ≤ l.length := by cases l with | nil => exact absurd rfl hne | cons _ _ => simp
 rw [decodeL_N]
 by_cases h0 : (l.getD 0 0).toNat < 128
 ·rw [decodeN_ascii _ _ _ _ _ h0]
  refine ⟨(isBl_nat _).symm, fun hb => ⟨hlen, fun j hj => ?_⟩, fun _ => rfl⟩
  obtain rfl : j = 0 := by simp at hj; omega
  exact hb
 ·have hbig := decodeN_big l.length (l.getD 0 0).toNat (l.getD 1 0).toNat (l.getD 2 0).toNat (l.getD 3 0).toNat (by omega)
  have hc := decodeN_conts l.length (l.getD 0 0).toNat (l.getD 1 0).toNat (l.getD 2 0).toNat (l.getD 3 0).toNat
  generalize decodeN l.length (l.getD 0 0).toNat (l.getD 1 0).toNat (l.getD 2 0).toNat (l.getD 3 0).toNat = r at *
  have hb0 : isBl (l.getD 0 0) = false := by rw [isBl_nat]; exact blR_big (by omega)
  obtain ⟨c1, c2, c3, c4⟩ := hc
  refine ⟨by rw [hb0]; exact blR_big hbig, fun _ => ⟨?_, fun j hj => ?_⟩, fun h => by rw [hb0] at h; cases h⟩
  ·by_cases q4 : 4 ≤ r.2
   ·have := (c3 q4).2; omega
   ·by_cases q3 : 3 ≤ r.2
    ·have := (c2 q3).2; omega
    ·by_cases q2 : 2 ≤ r.2
     ·have := (c1 q2).2; omega
     ·omega
  ·have hj4 : j = 0 ∨ j = 1 ∨ j = 2 ∨ j = 3 := by omega
   rcases hj4 with rfl | rfl | rfl | rfl
   ·exact hb0
   ·exact cont_bl (c1 (by omega)).1
   ·exact cont_bl (c2 (by omega)).1
   ·exact cont_bl (c3 (by omega)).1
theorem fieldsM_skip : ∀ (k : Nat) (l cur : Tx), k ≤ l.length → (∀ j, j < k → isBl (l.getD j 0) = false) → fieldsM l cur = fieldsM (l.drop k) (cur ++ l.take k)
 | 0, l, cur, _, _ => by simp
 | k + 1, [], cur, h, _ => by simp at h
 | k + 1, b :: t, cur, h, hz => by
  have h0 := hz 0 (by omega)
  rw [show fieldsM (b :: t) cur = if isBl b then (if cur = [] then fieldsM t [] else cur :: fieldsM t []) else fieldsM t (cur ++ [b]) from rfl, if_neg (by rw [show isBl b = false from h0]; simp)]
  rw [fieldsM_skip k t (cur ++ [b]) (by simp at h; omega) (fun j hj => by have := hz (j + 1) (by omega); simpa using this)]
  simp
theorem ext_list (s : ByteArray) (a b : Nat) : (s.extract a b).data.toList = (s.data.toList.drop a).take (b - a) := by
 rw [ByteArray.data_extract, Array.toList_extract]
def curOf (l : Tx) (pos : Nat) : Option Nat → Tx
 | none => []
 | some a => (l.drop a).take (pos - a)
theorem spans_eq (s : ByteArray) : ∀ (f pos : Nat) (st : Option Nat) (acc : List (Nat × Nat)), s.data.toList.length ≤ pos + f → pos ≤ s.data.toList.length → (∀ a, st = some a → a < pos) →
  ((closeSpans s (spansFromP blR s f pos st acc)).map fun x => (s.extract x.1 x.2).data.toList) = (acc.map fun x => (s.extract x.1 x.2).data.toList) ++ fieldsM (s.data.toList.drop pos) (curOf s.data.toList pos st) := by
 have hsz : s.size = s.data.toList.length := by exact Array.length_toList.symm
 have hend : ∀ (pos : Nat) (st : Option Nat) (acc : List (Nat × Nat)), pos = s.data.toList.length → (∀ a, st = some a → a < pos) →
   ((closeSpans s (acc, st)).map fun x => (s.extract x.1 x.2).data.toList) = (acc.map fun x => (s.extract x.1 x.2).data.toList) ++ fieldsM (s.data.toList.drop pos) (curOf s.data.toList pos st) := fun pos st acc hp ha => by
  rw [List.drop_eq_nil_of_le (by omega)]
  cases st with
  | none => simp [closeSpans, curOf, fieldsM]
  | some a =>
   have := ha a rfl
   have hne : (s.data.toList.drop a).take (pos - a) ≠ [] := by
    intro e
    have := congrArg List.length e
    simp at this
    omega
   show List.map _ (acc ++ [(a, s.size)]) = _ ++ (if (s.data.toList.drop a).take (pos - a) = [] then [] else [(s.data.toList.drop a).take (pos - a)])
   rw [if_neg hne, List.map_append, List.map_cons, List.map_nil, ext_list, hsz, hp]
 intro f
 induction f with
 | zero =>
  intro pos st acc h1 h2 ha
  exact hend pos st acc (by omega) ha
 | succ f ih =>
  intro pos st acc h1 h2 ha
  by_cases hlt : pos < s.size
  ·have hne : s.data.toList.drop pos ≠ [] := by
    intro e
    have := congrArg List.length e
    rw [List.length_drop] at this
    simp at this
    rw [hsz] at hlt
    simp at hlt
    omega
   obtain ⟨r1, r2, r3⟩ := rune_bl _ hne
   rw [decodeL_drop] at r1 r2 r3
   rw [getD_dropU, Nat.add_zero] at r1 r2 r3
   have hge : 1 ≤ (Utf8.decode s pos).2 := decode_width_pos s pos hlt
   rw [hsz] at hlt
   unfold spansFromP
   rw [hsz, if_pos hlt, r1]
   have hdr : s.data.toList.drop pos = s.data.toList.getD pos 0 :: s.data.toList.drop (pos + 1) := by
    rw [List.drop_eq_getElem_cons hlt, List.getD_eq_getElem?_getD, List.getElem?_eq_getElem hlt]
    rfl
   by_cases hb : isBl (s.data.toList.getD pos 0) = true
   ·rw [if_pos hb, r3 hb]
    have hf : ∀ cur, fieldsM (s.data.toList.drop pos) cur = if cur = [] then fieldsM (s.data.toList.drop (pos + 1)) [] else cur :: fieldsM (s.data.toList.drop (pos + 1)) [] := fun cur => by
     rw [hdr]
     show (if isBl _ = true then _ else _) = _
     rw [if_pos hb]
    cases st with
    | none =>
     show (closeSpans s (spansFromP blR s f (pos + 1) none acc)).map _ = _
     rw [ih (pos + 1) none acc (by omega) (by omega) (fun a e => by cases e), hf]
     show _ ++ fieldsM _ [] = _ ++ (if ([] : Tx) = [] then _ else _)
     rw [if_pos rfl]
    | some a =>
     have hap := ha a rfl
     show (closeSpans s (spansFromP blR s f (pos + 1) none (acc ++ [(a, pos)]))).map _ = _
     rw [ih (pos + 1) none _ (by omega) (by omega) (fun a e => by cases e), hf]
     have hne2 : curOf s.data.toList pos (some a) ≠ [] := by
      intro e
      have := congrArg List.length e
      simp [curOf] at this
      simp at hlt
      omega
     rw [if_neg hne2, List.map_append, List.map_cons, List.map_nil, ext_list, List.append_assoc]
     rfl
   ·have hb' : isBl (s.data.toList.getD pos 0) = false := by simpa using hb
    rw [if_neg hb]
    obtain ⟨q1, q2⟩ := r2 hb'
    rw [List.length_drop] at q1
    have hskip : ∀ cur, fieldsM (s.data.toList.drop pos) cur = fieldsM (s.data.toList.drop (pos + (Utf8.decode s pos).2)) (cur ++ (s.data.toList.drop pos).take (Utf8.decode s pos).2) := fun cur => by
     rw [fieldsM_skip (Utf8.decode s pos).2 (s.data.toList.drop pos) cur (by rw [List.length_drop]; omega) q2, List.drop_drop]
    cases st with
    | none =>
     show (closeSpans s (spansFromP blR s f (pos + (Utf8.decode s pos).2) (some pos) acc)).map _ = _
     rw [ih _ (some pos) acc (by omega) (by omega) (fun a e => by injection e with e; omega), hskip]
     congr 2
     simp [curOf]
    | some a =>
     have hap := ha a rfl
     show (closeSpans s (spansFromP blR s f (pos + (Utf8.decode s pos).2) (some a) acc)).map _ = _
     rw [ih _ (some a) acc (by omega) (by omega) (fun a' e => by injection e with e; omega), hskip]
     congr 2
     show (s.data.toList.drop a).take (pos + (Utf8.decode s pos).2 - a) = (s.data.toList.drop a).take (pos - a) ++ (s.data.toList.drop pos).take (Utf8.decode s pos).2
     rw [show pos + (Utf8.decode s pos).2 - a = (pos - a) + (Utf8.decode s pos).2 by omega, List.take_add, List.drop_drop, show a + (pos - a) = pos by omega]
  ·rw [spansFromP_end _ _ _ _ _ _ hlt]
   exact hend pos st acc (by rw [hsz] at hlt; omega) ha
theorem fields_eq (s : ByteArray) : goFieldsP blR s = (fieldsM s.data.toList []).map ba := by
 have h := spans_eq s s.size 0 none [] (by rw [Array.length_toList]; show s.data.size ≤ 0 + s.data.size; omega) (by omega) (fun a e => by cases e)
 have h2 : (goFieldsP blR s).map (fun b => b.data.toList) = fieldsM s.data.toList [] := by
  unfold goFieldsP spansOfP
  rw [List.map_map]
  rw [List.map_nil, List.nil_append, List.drop_zero] at h
  exact h
 rw [← h2, List.map_map]
 conv => lhs; rw [← List.map_id (goFieldsP blR s)]
 apply List.map_congr_left
 intro b _
 exact (ba_of b).symm
def nl : ByteArray := ⟨#[10]⟩
theorem linesM_skip : ∀ (k : Nat) (l cur : Tx), k ≤ l.length → (∀ j, j < k → l[j]? ≠ some 10) → linesM l cur = linesM (l.drop k) (cur ++ l.take k)
 | 0, l, cur, _, _ => by simp
 | k + 1, [], cur, h, _ => by simp at h
 | k + 1, b :: t, cur, h, hz => by
  have h0 : b ≠ 10 := fun e => hz 0 (by omega) (by simp [e])
  rw [show linesM (b :: t) cur = if b = 10 then cur :: linesM t [] else linesM t (cur ++ [b]) from rfl, if_neg h0]
  rw [linesM_skip k t (cur ++ [b]) (by simp at h; omega) (fun j hj => by have := hz (j + 1) (by omega); simpa using this)]
  simp
theorem lines_list : ∀ (n : Nat) (s : ByteArray), s.size ≤ n → (splitB nl 0 (countB s nl) s).map (fun b => b.data.toList) = linesM s.data.toList []
 | n, s, hn => by
  have hsz : s.size = s.data.toList.length := by exact Array.length_toList.symm
  have hi : indexB s nl = indexByte s.data.toList 10 := index_one _ _
  have hge := indexByte_ge s.data.toList 10
  by_cases hm : indexByte s.data.toList 10 = -1
  ·rw [splitB_miss nl 0 _ s (hi.trans hm)]
   have hno := indexByte_none hm
   rw [linesM_skip s.data.toList.length s.data.toList [] (Nat.le_refl _) (fun j _ => hno j), List.drop_eq_nil_of_le (Nat.le_refl _), List.take_of_length_le (Nat.le_refl _)]
   rfl
  ·obtain ⟨i, hi2⟩ := Int.eq_ofNat_of_zero_le (show 0 ≤ indexByte s.data.toList 10 by omega)
   have hi3 : indexByte s.data.toList 10 = (i : Nat) := hi2
   obtain ⟨h1, h2⟩ := indexByte_some hi3
   have hlt : i < s.data.toList.length := (List.getElem?_eq_some_iff.1 h1).1
   have hc : countB s nl = countB (s.extract (i + nl.size) s.size) nl + 1 := by rw [countB_hit s nl i (by decide) (hi.trans hi3)]; omega
   have hns : nl.size = 1 := rfl
   rw [hc, splitB_hit nl 0 _ s i (hi.trans hi3), hns]
   match n, hn with
   | 0, hn => omega
   | n + 1, hn =>
    have hes : (s.extract (i + 1) s.size).data.toList = s.data.toList.drop (i + 1) := by
     rw [ext_list, hsz]
     exact List.take_of_length_le (by rw [List.length_drop]; omega)
    have ih := lines_list n (s.extract (i + 1) s.size) (by
     have : (s.extract (i + 1) s.size).size = (s.extract (i + 1) s.size).data.toList.length := by exact Array.length_toList.symm
     rw [this, hes, List.length_drop]; omega)
    rw [List.map_cons, ih, hes, ext_list, linesM_skip i s.data.toList [] (by omega) h2]
    have hd : s.data.toList.drop i = 10 :: s.data.toList.drop (i + 1) := by
     rw [List.drop_eq_getElem_cons hlt]
     congr 1
     rw [List.getElem?_eq_getElem hlt] at h1
     injection h1
    rw [hd]
    show _ = (if (10 : UInt8) = 10 then _ else _)
    rw [if_pos rfl]
    simp
theorem lines_eq (s : ByteArray) : splitB nl 0 (countB s nl) s = (linesM s.data.toList []).map ba := by
 rw [← lines_list s.size s (Nat.le_refl _), List.map_map]
 conv => lhs; rw [← List.map_id (splitB nl 0 (countB s nl) s)]
 apply List.map_congr_left
 intro b _
 exact (ba_of b).symm
end Go.Proofs.YtoofgblmpjndjaaGreatDoor.Scr
set_option linter.unusedVariables false
set_option linter.unusedSimpArgs false
namespace Go.Proofs.YtoofgblmpjndjaaGreatDoor.Scr
open Go.RowKit K Go.Lib

def noRem (w : Tx) : Bool := w.getD 0 0 != 35
theorem fieldsM_bl {c : UInt8} {r : Tx} (h : isBl c = true) : fieldsM (c :: r) [] = fieldsM r [] := by
 show (if isBl c = true then (if ([] : Tx) = [] then _ else _) else _) = _
 rw [if_pos h, if_pos rfl]
theorem drop_at {l : Tx} {i : Nat} {c : UInt8} (h : l[i]? = some c) : l.drop i = c :: l.drop (i + 1) := by
 obtain ⟨hlt, rfl⟩ := List.getElem?_eq_some_iff.1 h
 exact List.drop_eq_getElem_cons hlt
theorem field_cut {l : Tx} {i m : Nat} (him : i < m) (hm : m ≤ l.length) (hno : ∀ j, i ≤ j → j < m → isBl (l.getD j 0) = false) (he : m = l.length ∨ isBl (l.getD m 0) = true) :
  fieldsM (l.drop i) [] = ((l.drop i).take (m - i)) :: fieldsM (l.drop m) [] := by
 rw [fieldsM_skip (m - i) (l.drop i) [] (by rw [List.length_drop]; omega) (fun j hj => by rw [Go.Lib.getD_dropU]; exact hno (i + j) (by omega) (by omega)), List.drop_drop, show i + (m - i) = m by omega, List.nil_append]
 have hne : (l.drop i).take (m - i) ≠ [] := by
  intro e
  have := congrArg List.length e
  simp at this
  omega
 by_cases hml : m = l.length
 ·rw [List.drop_eq_nil_of_le (by omega)]
  show (if (l.drop i).take (m - i) = [] then [] else [(l.drop i).take (m - i)]) = _
  rw [if_neg hne]
  rfl
 ·have hb := he.resolve_left hml
  have hlt : m < l.length := by omega
  have hd : l.drop m = l.getD m 0 :: l.drop (m + 1) := by
   rw [List.drop_eq_getElem_cons hlt, List.getD_eq_getElem?_getD, List.getElem?_eq_getElem hlt]; rfl
  rw [hd, fieldsM_bl hb]
  show (if isBl _ = true then (if (l.drop i).take (m - i) = [] then _ else _) else _) = _
  rw [if_pos hb, if_neg hne]
def RWordsP (w : World) (res : List Tx) (e : Ending) (w' : World) : Prop :=
 Below w.heap.size w w' ∧ ∃ A c, e = .returned (.slice A res.length c) ∧ w'.ownsRow w.heap.size 9 1 (.slice A res.length c) res.length (res.map vS)
theorem bl_cases (c : UInt8) (h : isBl c = true) : c = 32 ∨ c = 9 ∨ c = 13 := by
 unfold isBl at h
 simp only [Bool.or_eq_true, beq_iff_eq] at h
 rcases h with (h | h) | h
 ·exact .inl h
 ·exact .inr (.inl h)
 ·exact .inr (.inr h)
theorem bl_third {c : UInt8} (h : isBl c = true) (h1 : ¬ c = 32) (h2 : ¬ c = 9) : c = 13 := (bl_cases c h).elim (fun e => absurd e h1) fun e => e.elim (fun e => absurd e h2) id
theorem neq_nat {c : UInt8} {n : Nat} (hn : n < 256) (h : c ≠ UInt8.ofNat n) : ((c.toNat : Nat) : Int) ≠ (n : Int) := fun e => h ((u8_eq hn).1 (by omega))
set_option maxHeartbeats 4000000 in
theorem rwords_any (s : ByteArray) (w : World) (hbig : s.size ≤ 1099511627776) : Calls Tryz.prog 26 #[.string s] w (RWordsP w (wordsM s.data.toList)) := by
 obtain ⟨l, hl⟩ : ∃ l, s.data.toList = l := ⟨_, rfl⟩
 obtain ⟨n, hn⟩ : ∃ n, s.size = n := ⟨_, rfl⟩
 have HTX := Lib.hid hl
 have HSZ := Lib.hid hn
 have HLN : Hid (l.length = n) := by show _ = _; rw [← hl, size_len, hn]
 rw [hl]
 rw [hn] at hbig
 have HBG := Lib.hid hbig
 obtain ⟨res, hres⟩ : ∃ b, wordsM l = b := ⟨_, rfl⟩
 rw [hres]
 have HRES : Hid ([] ++ (fieldsM (l.drop 0) []).takeWhile noRem = res) := hres
 clear hl hres hbig
 go_enter Tryz.func26, Tryz.ntmps26
 go_wp2
 go_loopw [3, 4] (fun s3 s4 wr => ∃ (i : Nat) (A1 : Option Addr) (c1 : Nat) (ws : List Tx), i ≤ n ∧ s3 = .slice A1 ws.length c1 ∧ s4 = .int .i64 (i : Int) ∧ ws.length ≤ i ∧ Hid (ws ++ (fieldsM (l.drop i) []).takeWhile noRem = res) ∧ wr.ownsRow w.heap.size 9 1 (.slice A1 ws.length c1) ws.length (ws.map vS) ∧ Below w.heap.size w wr) (fun _ s4 _ => n - (intOf s4).toNat)
 case atStart => exact ⟨0, none, 0, [], by omega, rfl, rfl, by simp, HRES.out, World.ownsRow_nil _ _ _ _, Below.refl _ _⟩
 case round =>
  obtain ⟨i, A1, c1, ws, hi, rfl, rfl, hwl, HR, ho, hb⟩ := hrel
  have HO := Lib.hid ho
  have HB := Lib.hid hb
  have HWL := Lib.hid hwl
  clear ho hb hwl HRES
  by_cases hlt : i < n
  ·have HLT := Lib.hid hlt
   have d0 : decide ((i : Int) < (n : Int)) = true := decide_eq_true (by omega)
   have e0 : decide (i < n) = true := decide_eq_true hlt
   have l0 : (i : Int) < n := by omega
   have z0 : (0 : Int) ≤ i := by omega
   obtain ⟨c, hc, hcl⟩ := byte_at (s := s) (k := i) (by rw [HSZ.out]; exact hlt)
   rw [HTX.out] at hcl
   have HCL := Lib.hid hcl
   have HU : Hid (wrap64 ((i : Int) + 1) = ((i + 1 : Nat) : Int)) := by show _ = _; have := HBG.out; rw [IntWalk.wrap64_in _ (by omega)]; rfl
   clear hcl hi
   by_cases hB : isBl c = true
   ·have HR2 : Hid (ws ++ (fieldsM (l.drop (i + 1)) []).takeWhile noRem = res) := by show _ = _; rw [← HR.out, drop_at HCL.out, fieldsM_bl hB]
    by_cases h1 : c = 32
    ·have q1 : ((c.toNat : Nat) : Int) = 32 := by rw [h1]; rfl
     have p1 : (((c.toNat : Nat) : Int) == 32) = true := by rw [q1]; rfl
     have r1 : (((c.toNat : Nat) : Int) != 32) = false := by rw [q1]; rfl
     clear h1 q1 hB
     go_wp2_with fail
     go_roundw
     case rel => exact ⟨i + 1, A1, c1, ws, HLT.out, rfl, by first | rfl | rw [HU.out], by have := HWL.out; omega, HR2, HO.out, HB.out⟩
     case measure => first | exact meas_by (d := 1) HLT.out (by omega) | (rw [HU.out]; exact meas_by (d := 1) HLT.out (by omega))
    ·have p1 : (((c.toNat : Nat) : Int) == 32) = false := beq_eq_false_iff_ne.2 (neq_nat (n := 32) (by decide) h1)
     have r1 : (((c.toNat : Nat) : Int) != 32) = true := by simp; exact neq_nat (n := 32) (by decide) h1
     by_cases h2 : c = 9
     ·have q2 : ((c.toNat : Nat) : Int) = 9 := by rw [h2]; rfl
      have p2 : (((c.toNat : Nat) : Int) == 9) = true := by rw [q2]; rfl
      have r2 : (((c.toNat : Nat) : Int) != 9) = false := by rw [q2]; rfl
      clear h1 h2 q2 hB
      go_wp2_with fail
      go_roundw
      case rel => exact ⟨i + 1, A1, c1, ws, HLT.out, rfl, by first | rfl | rw [HU.out], by have := HWL.out; omega, HR2, HO.out, HB.out⟩
      case measure => first | exact meas_by (d := 1) HLT.out (by omega) | (rw [HU.out]; exact meas_by (d := 1) HLT.out (by omega))
     ·have p2 : (((c.toNat : Nat) : Int) == 9) = false := beq_eq_false_iff_ne.2 (neq_nat (n := 9) (by decide) h2)
      have r2 : (((c.toNat : Nat) : Int) != 9) = true := by simp; exact neq_nat (n := 9) (by decide) h2
      have h3 : c = 13 := bl_third hB h1 h2
      have q3 : ((c.toNat : Nat) : Int) = 13 := by rw [h3]; rfl
      have p3 : (((c.toNat : Nat) : Int) == 13) = true := by rw [q3]; rfl
      have r3 : (((c.toNat : Nat) : Int) != 13) = false := by rw [q3]; rfl
      clear h1 h2 h3 q3 hB
      go_wp2_with fail
      go_roundw
      case rel => exact ⟨i + 1, A1, c1, ws, HLT.out, rfl, by first | rfl | rw [HU.out], by have := HWL.out; omega, HR2, HO.out, HB.out⟩
      case measure => first | exact meas_by (d := 1) HLT.out (by omega) | (rw [HU.out]; exact meas_by (d := 1) HLT.out (by omega))
   ·have hB2 : isBl c = false := by simpa using hB
    have h1 : c ≠ UInt8.ofNat 32 := by rintro rfl; exact absurd hB2 (by decide)
    have h2 : c ≠ UInt8.ofNat 9 := by rintro rfl; exact absurd hB2 (by decide)
    have h3 : c ≠ UInt8.ofNat 13 := by rintro rfl; exact absurd hB2 (by decide)
    have p1 : (((c.toNat : Nat) : Int) == 32) = false := beq_eq_false_iff_ne.2 (neq_nat (n := 32) (by decide) h1)
    have r1 : (((c.toNat : Nat) : Int) != 32) = true := by simp; exact neq_nat (n := 32) (by decide) h1
    have p2 : (((c.toNat : Nat) : Int) == 9) = false := beq_eq_false_iff_ne.2 (neq_nat (n := 9) (by decide) h2)
    have r2 : (((c.toNat : Nat) : Int) != 9) = true := by simp; exact neq_nat (n := 9) (by decide) h2
    have p3 : (((c.toNat : Nat) : Int) == 13) = false := beq_eq_false_iff_ne.2 (neq_nat (n := 13) (by decide) h3)
    have r3 : (((c.toNat : Nat) : Int) != 13) = true := by simp; exact neq_nat (n := 13) (by decide) h3
    have HB2 := Lib.hid hB2
    clear h1 h2 h3 hB hB2
    go_wp2_with fail
    clear p1 p2 p3 r1 r2 r3
    go_loopw [5] (fun s5 wq => ∃ m : Nat, (i ≤ m ∧ m ≤ n) ∧ s5 = .int .i64 (m : Int) ∧ wr = wq ∧ Hid (∀ j, i ≤ j → j < m → isBl (l.getD j 0) = false)) (fun s5 _ => n - (intOf s5).toNat)
    case atStart => exact ⟨i, ⟨Nat.le_refl _, Nat.le_of_lt HLT.out⟩, rfl, rfl, fun j h1 h2 => by omega⟩
    case round =>
     obtain ⟨m, hle, rfl, rfl, HNO⟩ := hrel
     have HLE := Lib.hid hle
     by_cases hm : m < n
     ·have HM := Lib.hid hm
      have dm : decide ((m : Int) < (n : Int)) = true := decide_eq_true (by omega)
      have em : decide (m < n) = true := decide_eq_true hm
      have lm : (m : Int) < n := by omega
      have zm : (0 : Int) ≤ m := by omega
      obtain ⟨c2, hc2, hcl2⟩ := byte_at (s := s) (k := m) (by rw [HSZ.out]; exact hm)
      rw [HTX.out] at hcl2
      have HCL2 := Lib.hid hcl2
      have hgd : l.getD m 0 = c2 := by rw [List.getD_eq_getElem?_getD, hcl2]; rfl
      have HGD := Lib.hid hgd
      clear hcl2 hgd hle
      by_cases hB3 : isBl c2 = true
      ·have HB3 := Lib.hid hB3
       by_cases h1 : c2 = 32
       ·have q1 : ((c2.toNat : Nat) : Int) = 32 := by rw [h1]; rfl
        have p1 : (((c2.toNat : Nat) : Int) == 32) = true := by rw [q1]; rfl
        have r1 : (((c2.toNat : Nat) : Int) != 32) = false := by rw [q1]; rfl
        clear h1 q1 hB3
        have HIM : Hid (i < m) := by
         show _ < _
         rcases Nat.lt_or_ge i m with h | h
         ·exact h
         ·exfalso
          obtain rfl : m = i := by have := HLE.out; omega
          have h1 := HB3.out; rw [show c2 = c from Option.some.inj (HCL2.out.symm.trans HCL.out), HB2.out] at h1; cases h1
        have hcut := field_cut (l := l) HIM.out (by rw [HLN.out]; exact HLE.out.2) HNO.out (.inr (by rw [HGD.out]; exact HB3.out))
        obtain ⟨fw, hfw⟩ : ∃ x, (l.drop i).take (m - i) = x := ⟨_, rfl⟩
        rw [hfw] at hcut
        have hex : s.extract i m = ba fw := by rw [← hfw, ← HTX.out, ← ext_listB, ba_of]
        have hfh : fw.getD 0 0 = c := by rw [← hfw, List.getD_eq_getElem?_getD, List.getElem?_take, if_pos (by have := HIM.out; omega), List.getElem?_drop, Nat.add_zero, HCL.out]; rfl
        have HC := Lib.hid hcut
        have HFH := Lib.hid hfh
        have HEX := Lib.hid hex
        clear hcut hfw hfh hex
        have j0 : (i : Int) ≤ (m : Int) := by have := HIM.out; omega
        have j1 : (m : Int) ≤ (n : Int) := by have := HLE.out; omega
        by_cases h35 : c = 35
        ·have q5 : ((c.toNat : Nat) : Int) = 35 := by rw [h35]; rfl
         have p5 : (((c.toNat : Nat) : Int) == 35) = true := by rw [q5]; rfl
         have HE : Hid (ws = res) := by
          show _ = _
          rw [← HR.out, HC.out, List.takeWhile_cons, if_neg (by unfold noRem; rw [HFH.out, h35]; decide), List.append_nil]
         clear h35 q5
         go_wp2_with fail
         go_ret
         refine ⟨HB.out, A1, c1, ?_, ?_⟩
         ·rw [← HE.out]; rfl
         ·rw [← HE.out]; exact HO.out
        ·have p5 : (((c.toNat : Nat) : Int) == 35) = false := beq_eq_false_iff_ne.2 (neq_nat (n := 35) (by decide) h35)
         have HE : Hid ((ws ++ [fw]) ++ (fieldsM (l.drop m) []).takeWhile noRem = res) := by
          show _ = _
          rw [← HR.out, HC.out, List.takeWhile_cons, if_pos (by unfold noRem; rw [HFH.out]; simpa using h35), List.append_assoc]
          rfl
         have hx := HEX.out
         clear h35
         go_wp2_with (first | (at_builtin; refine wpList_pushS rfl (.tmp 58) (.tmp 63) _ rfl w.heap.size Tryz.underlying34 A1 ws.length c1 ws rfl HO.out 9 fw rfl (by have := HWL.out; have := HBG.out; have := HLE.out; have := HIM.out; omega) HB.out.size ?_) | fail)
         intro g cap w5 ho5 hb5 hlt5
         have HO5 : Hid (w5.ownsRow w.heap.size 9 1 (.slice (some ⟨g, 0, none⟩) (ws ++ [fw]).length cap) (ws ++ [fw]).length ((ws ++ [fw]).map vS)) := by show World.ownsRow _ _ _ _ _ _ _; rw [List.length_append, List.map_append]; exact ho5
         have HB5 : Hid (Below w.heap.size w w5) := HB.out.trans hb5
         clear ho5 hb5 hlt5 hx
         go_wp2_with fail
         go_roundw
         case rel => exact ⟨m, some ⟨g, 0, none⟩, cap, ws ++ [fw], HLE.out.2, by rw [List.length_append]; rfl, rfl, by rw [List.length_append]; have := HWL.out; have := HIM.out; simp; omega, HE, HO5.out, HB5.out⟩
         case measure =>
          show n - (m : Int).toNat < n - (i : Int).toNat
          have := HIM.out
          have := HLE.out
          simp only [Int.toNat_natCast]
          omega
       ·have p1 : (((c2.toNat : Nat) : Int) == 32) = false := beq_eq_false_iff_ne.2 (neq_nat (n := 32) (by decide) h1)
        have r1 : (((c2.toNat : Nat) : Int) != 32) = true := by simp; exact neq_nat (n := 32) (by decide) h1
        by_cases h2 : c2 = 9
        ·have q2 : ((c2.toNat : Nat) : Int) = 9 := by rw [h2]; rfl
         have p2 : (((c2.toNat : Nat) : Int) == 9) = true := by rw [q2]; rfl
         have r2 : (((c2.toNat : Nat) : Int) != 9) = false := by rw [q2]; rfl
         clear h1 h2 q2 hB3
         have HIM : Hid (i < m) := by
          show _ < _
          rcases Nat.lt_or_ge i m with h | h
          ·exact h
          ·exfalso
           obtain rfl : m = i := by have := HLE.out; omega
           have h1 := HB3.out; rw [show c2 = c from Option.some.inj (HCL2.out.symm.trans HCL.out), HB2.out] at h1; cases h1
         have hcut := field_cut (l := l) HIM.out (by rw [HLN.out]; exact HLE.out.2) HNO.out (.inr (by rw [HGD.out]; exact HB3.out))
         obtain ⟨fw, hfw⟩ : ∃ x, (l.drop i).take (m - i) = x := ⟨_, rfl⟩
         rw [hfw] at hcut
         have hex : s.extract i m = ba fw := by rw [← hfw, ← HTX.out, ← ext_listB, ba_of]
         have hfh : fw.getD 0 0 = c := by rw [← hfw, List.getD_eq_getElem?_getD, List.getElem?_take, if_pos (by have := HIM.out; omega), List.getElem?_drop, Nat.add_zero, HCL.out]; rfl
         have HC := Lib.hid hcut
         have HFH := Lib.hid hfh
         have HEX := Lib.hid hex
         clear hcut hfw hfh hex
         have j0 : (i : Int) ≤ (m : Int) := by have := HIM.out; omega
         have j1 : (m : Int) ≤ (n : Int) := by have := HLE.out; omega
         by_cases h35 : c = 35
         ·have q5 : ((c.toNat : Nat) : Int) = 35 := by rw [h35]; rfl
          have p5 : (((c.toNat : Nat) : Int) == 35) = true := by rw [q5]; rfl
          have HE : Hid (ws = res) := by
           show _ = _
           rw [← HR.out, HC.out, List.takeWhile_cons, if_neg (by unfold noRem; rw [HFH.out, h35]; decide), List.append_nil]
          clear h35 q5
          go_wp2_with fail
          go_ret
          refine ⟨HB.out, A1, c1, ?_, ?_⟩
          ·rw [← HE.out]; rfl
          ·rw [← HE.out]; exact HO.out
         ·have p5 : (((c.toNat : Nat) : Int) == 35) = false := beq_eq_false_iff_ne.2 (neq_nat (n := 35) (by decide) h35)
          have HE : Hid ((ws ++ [fw]) ++ (fieldsM (l.drop m) []).takeWhile noRem = res) := by
           show _ = _
           rw [← HR.out, HC.out, List.takeWhile_cons, if_pos (by unfold noRem; rw [HFH.out]; simpa using h35), List.append_assoc]
           rfl
          have hx := HEX.out
          clear h35
          go_wp2_with (first | (at_builtin; refine wpList_pushS rfl (.tmp 58) (.tmp 63) _ rfl w.heap.size Tryz.underlying34 A1 ws.length c1 ws rfl HO.out 9 fw rfl (by have := HWL.out; have := HBG.out; have := HLE.out; have := HIM.out; omega) HB.out.size ?_) | fail)
          intro g cap w5 ho5 hb5 hlt5
          have HO5 : Hid (w5.ownsRow w.heap.size 9 1 (.slice (some ⟨g, 0, none⟩) (ws ++ [fw]).length cap) (ws ++ [fw]).length ((ws ++ [fw]).map vS)) := by show World.ownsRow _ _ _ _ _ _ _; rw [List.length_append, List.map_append]; exact ho5
          have HB5 : Hid (Below w.heap.size w w5) := HB.out.trans hb5
          clear ho5 hb5 hlt5 hx
          go_wp2_with fail
          go_roundw
          case rel => exact ⟨m, some ⟨g, 0, none⟩, cap, ws ++ [fw], HLE.out.2, by rw [List.length_append]; rfl, rfl, by rw [List.length_append]; have := HWL.out; have := HIM.out; simp; omega, HE, HO5.out, HB5.out⟩
          case measure =>
           show n - (m : Int).toNat < n - (i : Int).toNat
           have := HIM.out
           have := HLE.out
           simp only [Int.toNat_natCast]
           omega
        ·have p2 : (((c2.toNat : Nat) : Int) == 9) = false := beq_eq_false_iff_ne.2 (neq_nat (n := 9) (by decide) h2)
         have r2 : (((c2.toNat : Nat) : Int) != 9) = true := by simp; exact neq_nat (n := 9) (by decide) h2
         have h3 : c2 = 13 := bl_third HB3.out h1 h2
         have q3 : ((c2.toNat : Nat) : Int) = 13 := by rw [h3]; rfl
         have p3 : (((c2.toNat : Nat) : Int) == 13) = true := by rw [q3]; rfl
         have r3 : (((c2.toNat : Nat) : Int) != 13) = false := by rw [q3]; rfl
         clear h1 h2 h3 q3 hB3
         have HIM : Hid (i < m) := by
          show _ < _
          rcases Nat.lt_or_ge i m with h | h
          ·exact h
          ·exfalso
           obtain rfl : m = i := by have := HLE.out; omega
           have h1 := HB3.out; rw [show c2 = c from Option.some.inj (HCL2.out.symm.trans HCL.out), HB2.out] at h1; cases h1
         have hcut := field_cut (l := l) HIM.out (by rw [HLN.out]; exact HLE.out.2) HNO.out (.inr (by rw [HGD.out]; exact HB3.out))
         obtain ⟨fw, hfw⟩ : ∃ x, (l.drop i).take (m - i) = x := ⟨_, rfl⟩
         rw [hfw] at hcut
         have hex : s.extract i m = ba fw := by rw [← hfw, ← HTX.out, ← ext_listB, ba_of]
         have hfh : fw.getD 0 0 = c := by rw [← hfw, List.getD_eq_getElem?_getD, List.getElem?_take, if_pos (by have := HIM.out; omega), List.getElem?_drop, Nat.add_zero, HCL.out]; rfl
         have HC := Lib.hid hcut
         have HFH := Lib.hid hfh
         have HEX := Lib.hid hex
         clear hcut hfw hfh hex
         have j0 : (i : Int) ≤ (m : Int) := by have := HIM.out; omega
         have j1 : (m : Int) ≤ (n : Int) := by have := HLE.out; omega
         by_cases h35 : c = 35
         ·have q5 : ((c.toNat : Nat) : Int) = 35 := by rw [h35]; rfl
          have p5 : (((c.toNat : Nat) : Int) == 35) = true := by rw [q5]; rfl
          have HE : Hid (ws = res) := by
           show _ = _
           rw [← HR.out, HC.out, List.takeWhile_cons, if_neg (by unfold noRem; rw [HFH.out, h35]; decide), List.append_nil]
          clear h35 q5
          go_wp2_with fail
          go_ret
          refine ⟨HB.out, A1, c1, ?_, ?_⟩
          ·rw [← HE.out]; rfl
          ·rw [← HE.out]; exact HO.out
         ·have p5 : (((c.toNat : Nat) : Int) == 35) = false := beq_eq_false_iff_ne.2 (neq_nat (n := 35) (by decide) h35)
          have HE : Hid ((ws ++ [fw]) ++ (fieldsM (l.drop m) []).takeWhile noRem = res) := by
           show _ = _
           rw [← HR.out, HC.out, List.takeWhile_cons, if_pos (by unfold noRem; rw [HFH.out]; simpa using h35), List.append_assoc]
           rfl
          have hx := HEX.out
          clear h35
          go_wp2_with (first | (at_builtin; refine wpList_pushS rfl (.tmp 58) (.tmp 63) _ rfl w.heap.size Tryz.underlying34 A1 ws.length c1 ws rfl HO.out 9 fw rfl (by have := HWL.out; have := HBG.out; have := HLE.out; have := HIM.out; omega) HB.out.size ?_) | fail)
          intro g cap w5 ho5 hb5 hlt5
          have HO5 : Hid (w5.ownsRow w.heap.size 9 1 (.slice (some ⟨g, 0, none⟩) (ws ++ [fw]).length cap) (ws ++ [fw]).length ((ws ++ [fw]).map vS)) := by show World.ownsRow _ _ _ _ _ _ _; rw [List.length_append, List.map_append]; exact ho5
          have HB5 : Hid (Below w.heap.size w w5) := HB.out.trans hb5
          clear ho5 hb5 hlt5 hx
          go_wp2_with fail
          go_roundw
          case rel => exact ⟨m, some ⟨g, 0, none⟩, cap, ws ++ [fw], HLE.out.2, by rw [List.length_append]; rfl, rfl, by rw [List.length_append]; have := HWL.out; have := HIM.out; simp; omega, HE, HO5.out, HB5.out⟩
          case measure =>
           show n - (m : Int).toNat < n - (i : Int).toNat
           have := HIM.out
           have := HLE.out
           simp only [Int.toNat_natCast]
           omega
      ·have hB4 : isBl c2 = false := by simpa using hB3
       have HNO2 : Hid (∀ j, i ≤ j → j < m + 1 → isBl (l.getD j 0) = false) := fun j h1 h2 => by
        rcases Nat.lt_or_ge j m with h | h
        ·exact HNO.out j h1 h
        ·obtain rfl : j = m := by omega
         rw [HGD.out]; exact hB4
       have h1 : c2 ≠ UInt8.ofNat 32 := by rintro rfl; exact absurd hB4 (by decide)
       have h2 : c2 ≠ UInt8.ofNat 9 := by rintro rfl; exact absurd hB4 (by decide)
       have h3 : c2 ≠ UInt8.ofNat 13 := by rintro rfl; exact absurd hB4 (by decide)
       have p1 : (((c2.toNat : Nat) : Int) == 32) = false := beq_eq_false_iff_ne.2 (neq_nat (n := 32) (by decide) h1)
       have r1 : (((c2.toNat : Nat) : Int) != 32) = true := by simp; exact neq_nat (n := 32) (by decide) h1
       have p2 : (((c2.toNat : Nat) : Int) == 9) = false := beq_eq_false_iff_ne.2 (neq_nat (n := 9) (by decide) h2)
       have r2 : (((c2.toNat : Nat) : Int) != 9) = true := by simp; exact neq_nat (n := 9) (by decide) h2
       have p3 : (((c2.toNat : Nat) : Int) == 13) = false := beq_eq_false_iff_ne.2 (neq_nat (n := 13) (by decide) h3)
       have r3 : (((c2.toNat : Nat) : Int) != 13) = true := by simp; exact neq_nat (n := 13) (by decide) h3
       have HU2 : Hid (wrap64 ((m : Int) + 1) = ((m + 1 : Nat) : Int)) := by show _ = _; have := HBG.out; rw [IntWalk.wrap64_in _ (by omega)]; rfl
       clear h1 h2 h3 hB3 hB4
       go_wp2_with fail
       go_roundw
       case rel => exact ⟨m + 1, ⟨by have := HLE.out; omega, HM.out⟩, by first | rfl | rw [HU2.out], by trivial, HNO2⟩
       case measure => first | exact meas_by (d := 1) HM.out (by omega) | (rw [HU2.out]; exact meas_by (d := 1) HM.out (by omega))
     ·obtain rfl : m = n := by omega
      have dm : decide ((m : Int) < (m : Int)) = false := decide_eq_false (by omega)
      clear hm hle
      have HIM : Hid (i < m) := by
       show _ < _
       rcases Nat.lt_or_ge i m with h | h
       ·exact h
       ·exfalso
        obtain rfl : m = i := by have := HLE.out; omega
        have := HLT.out; omega
      have hcut := field_cut (l := l) HIM.out (by rw [HLN.out]; exact HLE.out.2) HNO.out (.inl HLN.out.symm)
      obtain ⟨fw, hfw⟩ : ∃ x, (l.drop i).take (m - i) = x := ⟨_, rfl⟩
      rw [hfw] at hcut
      have hex : s.extract i m = ba fw := by rw [← hfw, ← HTX.out, ← ext_listB, ba_of]
      have hfh : fw.getD 0 0 = c := by rw [← hfw, List.getD_eq_getElem?_getD, List.getElem?_take, if_pos (by have := HIM.out; omega), List.getElem?_drop, Nat.add_zero, HCL.out]; rfl
      have HC := Lib.hid hcut
      have HFH := Lib.hid hfh
      have HEX := Lib.hid hex
      clear hcut hfw hfh hex
      have j0 : (i : Int) ≤ (m : Int) := by have := HIM.out; omega
      have j1 : (m : Int) ≤ (m : Int) := by have := HLE.out; omega
      by_cases h35 : c = 35
      ·have q5 : ((c.toNat : Nat) : Int) = 35 := by rw [h35]; rfl
       have p5 : (((c.toNat : Nat) : Int) == 35) = true := by rw [q5]; rfl
       have HE : Hid (ws = res) := by
        show _ = _
        rw [← HR.out, HC.out, List.takeWhile_cons, if_neg (by unfold noRem; rw [HFH.out, h35]; decide), List.append_nil]
       clear h35 q5
       go_wp2_with fail
       go_ret
       refine ⟨HB.out, A1, c1, ?_, ?_⟩
       ·rw [← HE.out]; rfl
       ·rw [← HE.out]; exact HO.out
      ·have p5 : (((c.toNat : Nat) : Int) == 35) = false := beq_eq_false_iff_ne.2 (neq_nat (n := 35) (by decide) h35)
       have HE : Hid ((ws ++ [fw]) ++ (fieldsM (l.drop m) []).takeWhile noRem = res) := by
        show _ = _
        rw [← HR.out, HC.out, List.takeWhile_cons, if_pos (by unfold noRem; rw [HFH.out]; simpa using h35), List.append_assoc]
        rfl
       have hx := HEX.out
       clear h35
       go_wp2_with (first | (at_builtin; refine wpList_pushS rfl (.tmp 58) (.tmp 63) _ rfl w.heap.size Tryz.underlying34 A1 ws.length c1 ws rfl HO.out 9 fw rfl (by have := HWL.out; have := HBG.out; have := HLE.out; have := HIM.out; omega) HB.out.size ?_) | fail)
       intro g cap w5 ho5 hb5 hlt5
       have HO5 : Hid (w5.ownsRow w.heap.size 9 1 (.slice (some ⟨g, 0, none⟩) (ws ++ [fw]).length cap) (ws ++ [fw]).length ((ws ++ [fw]).map vS)) := by show World.ownsRow _ _ _ _ _ _ _; rw [List.length_append, List.map_append]; exact ho5
       have HB5 : Hid (Below w.heap.size w w5) := HB.out.trans hb5
       clear ho5 hb5 hlt5 hx
       go_wp2_with fail
       go_roundw
       case rel => exact ⟨m, some ⟨g, 0, none⟩, cap, ws ++ [fw], HLE.out.2, by rw [List.length_append]; rfl, rfl, by rw [List.length_append]; have := HWL.out; have := HIM.out; simp; omega, HE, HO5.out, HB5.out⟩
       case measure =>
        show m - (m : Int).toNat < m - (i : Int).toNat
        have := HIM.out
        have := HLE.out
        simp only [Int.toNat_natCast]
        omega
  ·obtain rfl : i = n := by omega
   have d0 : decide ((i : Int) < (i : Int)) = false := decide_eq_false (by omega)
   have HE : Hid (ws = res) := by
    show _ = _
    rw [← HR.out, List.drop_eq_nil_of_le (by rw [HLN.out]; exact Nat.le_refl _)]
    show _ = _ ++ List.takeWhile noRem []
    rw [List.takeWhile_nil, List.append_nil]
   clear hlt hi
   go_wp2_with fail
   go_ret
   refine ⟨HB.out, A1, c1, ?_, ?_⟩
   ·rw [← HE.out]; rfl
   ·rw [← HE.out]; exact HO.out
end Go.Proofs.YtoofgblmpjndjaaGreatDoor.Scr
