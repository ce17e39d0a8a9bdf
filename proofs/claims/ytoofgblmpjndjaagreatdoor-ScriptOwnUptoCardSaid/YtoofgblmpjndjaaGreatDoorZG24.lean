/-
  Texts of this claim, joined by program (ScH, Chk, Shb). Walks: the reference's Check of all operators. (Printed by gen_sch.py.)
-/
import Derived.Test.YtoofgblmpjndjaaGreatDoorZG8
import Derived.Test.YtoofgblmpjndjaaGreatDoorZG10
import Derived.Test.YtoofgblmpjndjaaGreatDoorZG11
import Derived.Ground.GgwProg
import Derived.Shelf.Strings.FieldsFuncGrows
import Derived.Shelf.Strings.FuncGrows
import Derived.Shelf.Strings.SlTrimAscii
import Derived.Ground.SlgfProg
import Derived.Shelf.SlicesE.IndexFunc
import Derived.Test.YtoofgblmpjndjaaGreatDoorProg
set_option linter.unusedVariables false
set_option linter.unusedSimpArgs false
namespace Go.Proofs.YtoofgblmpjndjaaGreatDoor.Scr
open Go.RowKit K Go.Lib

theorem ptsM_none {op : Tx} {a : List Int} : ptsM op a = 8 ↔ findM pts op = none := by
 unfold ptsM
 cases findM pts op with
 | none => simp
 | some b =>
  simp only [reduceCtorEq, iff_false]
  split <;> decide
theorem chkM_none {t : List (Tx × List (Int × Int))} {op : Tx} {a : List Int} : chkM t op a = 8 ↔ findM t op = none := by
 unfold chkM
 cases findM t op with
 | none => simp
 | some b =>
  simp only [reduceCtorEq, iff_false]
  split <;> decide
theorem checkM_1 {op : Tx} {a : List Int} (h : (findM pts op).isSome = true) : checkM op a = (ptsM op a, 1) := by
 unfold checkM
 rw [if_pos (fun e => by rw [ptsM_none.1 e] at h; cases h)]
theorem checkM_2 {op : Tx} {a : List Int} (h1 : (findM pts op).isSome = false) (h : (findM mvs op).isSome = true) : checkM op a = (chkM mvs op a, 1) := by
 unfold checkM
 rw [if_neg (fun e => e (ptsM_none.2 (by simpa using h1))), if_pos (fun e => by rw [chkM_none.1 e] at h; cases h)]
theorem checkM_3 {op : Tx} {a : List Int} (h1 : (findM pts op).isSome = false) (h2 : (findM mvs op).isSome = false) (h : (findM ard op).isSome = true) : checkM op a = (chkM ard op a, 1) := by
 unfold checkM
 rw [if_neg (fun e => e (ptsM_none.2 (by simpa using h1))), if_neg (fun e => e (chkM_none.2 (by simpa using h2))), if_pos (fun e => by rw [chkM_none.1 e] at h; cases h)]
theorem checkM_4 {op : Tx} {a : List Int} (h1 : (findM pts op).isSome = false) (h2 : (findM mvs op).isSome = false) (h3 : (findM ard op).isSome = false) : checkM op a = (chkM bld op a, 2) := by
 unfold checkM
 rw [if_neg (fun e => e (ptsM_none.2 (by simpa using h1))), if_neg (fun e => e (chkM_none.2 (by simpa using h2))), if_neg (fun e => e (chkM_none.2 (by simpa using h3)))]
theorem rnames22 (w : World) : Calls Tryz.prog 87 #[] w (TxtsP w (ard.map (·.1))) := by
 have H := Lib.hid (SS.lit w (ard.map (·.1)) 9 (by decide))
 go_enter Tryz.func87, Tryz.ntmps87
 go_wp2
 go_ret
 exact ⟨_, _, rfl, H.out, (Below.refl _ w).alloc (Nat.le_refl _) _⟩
set_option maxHeartbeats 2000000 in
theorem rcheck24_any {op : ByteArray} {A : Option Addr} {n c : Nat} {a : List Int} (w : World) (HA : SI w .i64 A n a) : Calls Tryz.prog 61 #[.string op, .slice A n c] w (fun e w' => e = .returned (.tuple #[.int .i64 (checkM op.data.toList a).1, .int .i64 ((checkM op.data.toList a).2 : Int)]) ∧ Below w.heap.size w w') := by
 have HAA := Lib.hid HA
 have HN1 := Lib.hid (rnames20 w)
 obtain ⟨r, hr⟩ : ∃ r, checkM op.data.toList a = r := ⟨_, rfl⟩
 rw [hr]
 have HR := Lib.hid hr
 clear HA hr
 go_enter Tryz.func61, Tryz.ntmps61
 go_wp2_with fail
 refine HN1.out.mono ?_
 rintro e w1 ⟨A1, c1, rfl, hs1, hb1⟩
 have HB1 := Lib.hid hb1
 have HC1 := Lib.hid (in_any (c := c1) op w1 hs1)
 rw [← findM_in] at HC1
 clear hs1 hb1 HN1
 by_cases h1 : (findM pts op.data.toList).isSome = true
 ·rw [h1] at HC1
  have HE : Hid (r = (ptsM op.data.toList a, 1)) := by show _ = _; rw [← HR.out]; exact checkM_1 h1
  have HK := Lib.hid (rcheck20_any (op := op) (c := c) w1 (HAA.out.below HB1.out (Nat.le_refl _)))
  clear h1
  go_wp2_with fail
  refine HC1.out.mono ?_
  rintro e w' ⟨rfl, rfl⟩
  go_wp2_with fail
  refine HK.out.mono ?_
  rintro e w9 ⟨rfl, hb9⟩
  have HB9 : Hid (Below w.heap.size w w9) := HB1.out.trans (hb9.mono HB1.out.size)
  clear hb9
  go_wp2_with fail
  go_ret2
  exact ⟨by rw [HE.out]; rfl, HB9.out⟩
 ·have g1 : (findM pts op.data.toList).isSome = false := by simpa using h1
  rw [g1] at HC1
  clear h1
  go_wp2_with fail
  refine HC1.out.mono ?_
  rintro e w' ⟨rfl, rfl⟩
  have HN2 := Lib.hid (rnames21 w1)
  go_wp2_with fail
  refine HN2.out.mono ?_
  rintro e w2 ⟨A2, c2, rfl, hs2, hb2⟩
  have HB2 : Hid (Below w.heap.size w w2) := HB1.out.trans (hb2.mono HB1.out.size)
  have HC2 := Lib.hid (in_any (c := c2) op w2 hs2)
  rw [← findM_in] at HC2
  clear hs2 hb2 HN2 HC1
  by_cases h2 : (findM mvs op.data.toList).isSome = true
  ·rw [h2] at HC2
   have HE : Hid (r = (chkM mvs op.data.toList a, 1)) := by show _ = _; rw [← HR.out]; exact checkM_2 g1 h2
   have HK := Lib.hid (rcheck21_any (op := op) (c := c) w2 (HAA.out.below HB2.out (Nat.le_refl _)))
   clear h2 g1
   go_wp2_with fail
   refine HC2.out.mono ?_
   rintro e w' ⟨rfl, rfl⟩
   go_wp2_with fail
   refine HK.out.mono ?_
   rintro e w9 ⟨rfl, hb9⟩
   have HB9 : Hid (Below w.heap.size w w9) := HB2.out.trans (hb9.mono HB2.out.size)
   clear hb9
   go_wp2_with fail
   go_ret2
   exact ⟨by rw [HE.out]; rfl, HB9.out⟩
  ·have g2 : (findM mvs op.data.toList).isSome = false := by simpa using h2
   rw [g2] at HC2
   clear h2
   go_wp2_with fail
   refine HC2.out.mono ?_
   rintro e w' ⟨rfl, rfl⟩
   have HN3 := Lib.hid (rnames22 w2)
   go_wp2_with fail
   refine HN3.out.mono ?_
   rintro e w3 ⟨A3, c3, rfl, hs3, hb3⟩
   have HB3 : Hid (Below w.heap.size w w3) := HB2.out.trans (hb3.mono HB2.out.size)
   have HC3 := Lib.hid (in_any (c := c3) op w3 hs3)
   rw [← findM_in] at HC3
   clear hs3 hb3 HN3 HC2
   by_cases h3 : (findM ard op.data.toList).isSome = true
   ·rw [h3] at HC3
    have HE : Hid (r = (chkM ard op.data.toList a, 1)) := by show _ = _; rw [← HR.out]; exact checkM_3 g1 g2 h3
    have HK := Lib.hid (rcheck22_any (op := op) (c := c) w3 (HAA.out.below HB3.out (Nat.le_refl _)))
    clear h3 g1 g2
    go_wp2_with fail
    refine HC3.out.mono ?_
    rintro e w' ⟨rfl, rfl⟩
    go_wp2_with fail
    refine HK.out.mono ?_
    rintro e w9 ⟨rfl, hb9⟩
    have HB9 : Hid (Below w.heap.size w w9) := HB3.out.trans (hb9.mono HB3.out.size)
    clear hb9
    go_wp2_with fail
    go_ret2
    exact ⟨by rw [HE.out]; rfl, HB9.out⟩
   ·have g3 : (findM ard op.data.toList).isSome = false := by simpa using h3
    rw [g3] at HC3
    clear h3
    go_wp2_with fail
    refine HC3.out.mono ?_
    rintro e w' ⟨rfl, rfl⟩
    have HE : Hid (r = (chkM bld op.data.toList a, 2)) := by show _ = _; rw [← HR.out]; exact checkM_4 g1 g2 g3
    have HK := Lib.hid (rcheck23_any (op := op) (c := c) w3 (HAA.out.below HB3.out (Nat.le_refl _)))
    clear g1 g2 g3
    go_wp2_with fail
    refine HK.out.mono ?_
    rintro e w9 ⟨rfl, hb9⟩
    have HB9 : Hid (Below w.heap.size w w9) := HB3.out.trans (hb9.mono HB3.out.size)
    clear hb9
    go_wp2_with fail
    go_ret2
    exact ⟨by rw [HE.out]; rfl, HB9.out⟩
end Go.Proofs.YtoofgblmpjndjaaGreatDoor.Scr
set_option linter.unusedVariables false
set_option linter.unusedSimpArgs false
namespace Go.Proofs.YtoofgblmpjndjaaGreatDoor.Scr
open Go.RowKit K Go.Lib

def CheckQ (w : World) (r : Int × Nat) (e : Ending) (w' : World) : Prop := e = .returned (.tuple #[.int .i64 (r.2 : Int), .int .i64 r.1]) ∧ Below w.heap.size w w'
theorem acheck_any {op : ByteArray} {A : Option Addr} {n c : Nat} {a : List Int} (w : World) (HA : SI w .i64 A n a) : Calls Tryz.prog 77 #[.string op, .slice A n c] w (ChkP w (chkM ard op.data.toList a)) := by
 rw [← ard_chk]
 exact Ard.check_any w HA
set_option maxRecDepth 20000 in
set_option maxHeartbeats 4000000 in
theorem check_any {op : ByteArray} {A : Option Addr} {n c : Nat} {a : List Int} (w : World) (HA : SI w .i64 A n a) (hsz : op.size ≤ maxLen) : Calls Tryz.prog 53 #[.string op, .slice A n c] w (CheckQ w (checkM op.data.toList a)) := by
 have HAA := Lib.hid HA
 have HSZ := Lib.hid hsz
 obtain ⟨r, hr⟩ : ∃ r, checkM op.data.toList a = r := ⟨_, rfl⟩
 rw [hr]
 have HR := Lib.hid hr
 have hW : ∃ W0, w.alloc (.cells #[.func (.func 75) #[] #[], .func (.func 76) #[] #[], .func (.func 77) #[] #[]] 105) = W0 ∧ W0.heap[w.heap.size]? = some (.cells #[.func (.func 75) #[] #[], .func (.func 76) #[] #[], .func (.func 77) #[] #[]] 105 (0, 0)) ∧ Below w.heap.size w W0 ∧ w.heap.size < W0.heap.size :=
  ⟨_, rfl, heap_alloc_new w _, (Below.refl _ w).alloc (Nat.le_refl _) _, by simp⟩
 obtain ⟨W0, hW0, h0, hb0, hl0⟩ := hW
 have H0 := Lib.hid h0
 have HB0 := Lib.hid hb0
 have HL0 := Lib.hid hl0
 clear HA hr hsz h0 hb0 hl0
 go_enter Tryz.func53, Tryz.ntmps53
 go_wp2_with fail
 try rw [hW0]
 clear hW0
 go_loopw [11] (fun s11 wx => ∃ k : Int, (0 ≤ k ∧ k ≤ 3) ∧ s11 = .int .i64 k ∧ Below W0.heap.size W0 wx ∧ Hid (1 ≤ k → (findM pts op.data.toList).isSome = false) ∧ Hid (2 ≤ k → (findM mvs op.data.toList).isSome = false) ∧ Hid (3 ≤ k → (findM ard op.data.toList).isSome = false)) (fun s11 _ => 3 - (intOf s11).toNat)
 case atStart => exact ⟨0, ⟨by omega, by omega⟩, rfl, Below.refl _ _, fun h => by omega, fun h => by omega, fun h => by omega⟩
 case round =>
  obtain ⟨k, hk, rfl, hb, H1, H2, H3⟩ := hrel
  have HB : Hid (Below w.heap.size w wr) := HB0.out.trans (hb.mono HB0.out.size)
  have HBR := Lib.hid hb
  have z := (hb.block w.heap.size HL0.out).trans H0.out
  have x0 : wr.cell? ⟨w.heap.size, 0, none⟩ = some (.func (.func 75) #[] #[]) := Ard.row_cell z 0
  have x1 : wr.cell? ⟨w.heap.size, 1, none⟩ = some (.func (.func 76) #[] #[]) := Ard.row_cell z 1
  have x2 : wr.cell? ⟨w.heap.size, 2, none⟩ = some (.func (.func 77) #[] #[]) := Ard.row_cell z 2
  have HAW := Lib.hid (HAA.out.below HB.out (Nat.le_refl _))
  clear hb z
  have hk4 : k = 0 ∨ k = 1 ∨ k = 2 ∨ k = 3 := by omega
  rcases hk4 with rfl | rfl | rfl | rfl
  ·have HP := Lib.hid (pcheck_any (op := op) (c := c) wr HAW.out)
   by_cases h8 : (findM pts op.data.toList).isSome = true
   ·have HE : Hid (r = (ptsM op.data.toList a, 1)) := by show _ = _; rw [← HR.out]; exact checkM_1 h8
    have t1 : (ptsM op.data.toList a != 8) = true := by simp; rw [ptsM_none]; intro e; rw [e] at h8; cases h8
    obtain ⟨v, hv⟩ : ∃ v, ptsM op.data.toList a = v := ⟨_, rfl⟩
    rw [hv] at HP HE t1
    clear h8 hv hk
    go_wp2_with (first | (go_at_call 75; refine HP.out.mono ?_; rintro e w' ⟨rfl, hb⟩; have HB9 : Hid (Below w.heap.size w w') := HB.out.trans (hb.mono HB.out.size); clear hb) | fail)
    go_ret2
    exact ⟨by rw [HE.out]; rfl, HB9.out⟩
   ·have g8 : (findM pts op.data.toList).isSome = false := by simpa using h8
    have t1 : (ptsM op.data.toList a != 8) = false := by simp; rw [ptsM_none]; simpa using h8
    have t0 : ptsM op.data.toList a = 8 := by simpa using t1
    rw [t0] at HP
    have HG := Lib.hid g8
    clear h8 g8 t0 t1
    go_wp2_with (first | (go_at_call 75; refine HP.out.mono ?_; rintro e w' ⟨rfl, hb⟩; have HB9 := Lib.hid (HBR.out.trans (hb.mono HBR.out.size)); clear hb) | fail)
    go_roundw
    case rel => exact ⟨1, ⟨by omega, by omega⟩, by go_num, HB9.out, fun h => HG.out, fun h => by omega, fun h => by omega⟩
    case measure => simp [intOf, wrap64]
  ·have HP := Lib.hid (mcheck_any (op := op) (c := c) wr HAW.out)
   by_cases h8 : (findM mvs op.data.toList).isSome = true
   ·have HE : Hid (r = (chkM mvs op.data.toList a, 1)) := by show _ = _; rw [← HR.out]; exact checkM_2 (H1.out (by omega)) h8
    have t1 : (chkM mvs op.data.toList a != 8) = true := by simp; rw [chkM_none]; intro e; rw [e] at h8; cases h8
    obtain ⟨v, hv⟩ : ∃ v, chkM mvs op.data.toList a = v := ⟨_, rfl⟩
    rw [hv] at HP HE t1
    clear h8 hv hk
    go_wp2_with (first | (go_at_call 76; refine HP.out.mono ?_; rintro e w' ⟨rfl, hb⟩; have HB9 : Hid (Below w.heap.size w w') := HB.out.trans (hb.mono HB.out.size); clear hb) | fail)
    go_ret2
    exact ⟨by rw [HE.out]; rfl, HB9.out⟩
   ·have g8 : (findM mvs op.data.toList).isSome = false := by simpa using h8
    have t1 : (chkM mvs op.data.toList a != 8) = false := by simp; rw [chkM_none]; simpa using h8
    have t0 : chkM mvs op.data.toList a = 8 := by simpa using t1
    rw [t0] at HP
    have HG := Lib.hid g8
    clear h8 g8 t0 t1
    go_wp2_with (first | (go_at_call 76; refine HP.out.mono ?_; rintro e w' ⟨rfl, hb⟩; have HB9 := Lib.hid (HBR.out.trans (hb.mono HBR.out.size)); clear hb) | fail)
    go_roundw
    case rel => exact ⟨2, ⟨by omega, by omega⟩, by go_num, HB9.out, fun h => H1.out (by omega), fun h => HG.out, fun h => by omega⟩
    case measure => simp [intOf, wrap64]
  ·have HP := Lib.hid (acheck_any (op := op) (c := c) wr HAW.out)
   by_cases h8 : (findM ard op.data.toList).isSome = true
   ·have HE : Hid (r = (chkM ard op.data.toList a, 1)) := by show _ = _; rw [← HR.out]; exact checkM_3 (H1.out (by omega)) (H2.out (by omega)) h8
    have t1 : (chkM ard op.data.toList a != 8) = true := by simp; rw [chkM_none]; intro e; rw [e] at h8; cases h8
    obtain ⟨v, hv⟩ : ∃ v, chkM ard op.data.toList a = v := ⟨_, rfl⟩
    rw [hv] at HP HE t1
    clear h8 hv hk
    go_wp2_with (first | (go_at_call 77; refine HP.out.mono ?_; rintro e w' ⟨rfl, hb⟩; have HB9 : Hid (Below w.heap.size w w') := HB.out.trans (hb.mono HB.out.size); clear hb) | fail)
    go_ret2
    exact ⟨by rw [HE.out]; rfl, HB9.out⟩
   ·have g8 : (findM ard op.data.toList).isSome = false := by simpa using h8
    have t1 : (chkM ard op.data.toList a != 8) = false := by simp; rw [chkM_none]; simpa using h8
    have t0 : chkM ard op.data.toList a = 8 := by simpa using t1
    rw [t0] at HP
    have HG := Lib.hid g8
    clear h8 g8 t0 t1
    go_wp2_with (first | (go_at_call 77; refine HP.out.mono ?_; rintro e w' ⟨rfl, hb⟩; have HB9 := Lib.hid (HBR.out.trans (hb.mono HBR.out.size)); clear hb) | fail)
    go_roundw
    case rel => exact ⟨3, ⟨by omega, by omega⟩, by go_num, HB9.out, fun h => H1.out (by omega), fun h => H2.out (by omega), fun h => HG.out⟩
    case measure => simp [intOf, wrap64]
  ·have HP := Lib.hid (bcheck_any (op := op) (c := c) wr HAW.out HSZ.out)
   have HE : Hid (r = (chkM bld op.data.toList a, 2)) := by show _ = _; rw [← HR.out]; exact checkM_4 (H1.out (by omega)) (H2.out (by omega)) (H3.out (by omega))
   go_wp2_with (first | (go_at_call 78; refine HP.out.mono ?_; rintro e w' ⟨rfl, hb⟩; have HB9 : Hid (Below w.heap.size w w') := HB.out.trans (hb.mono HB.out.size); clear hb) | fail)
   go_ret2
   exact ⟨by rw [HE.out]; rfl, HB9.out⟩
end Go.Proofs.YtoofgblmpjndjaaGreatDoor.Scr
set_option linter.unusedVariables false
namespace Go.Proofs.YtoofgblmpjndjaaGreatDoor.Scs
open Go.Shelf Go.Proofs
def lays229_ren : Go.Shelf.Ren := ⟨fun | 229 => 41 | n => n, fun | 9 => 9 | 40 => 75 | 31 => 34 | 152 => 99 | 3 => 3 | 0 => 0 | 4 => 4 | 21 => 21 | 154 => 101 | n => n, fun | n => n⟩
theorem lays229 : Go.Proofs.Lays.n229 Tryz.prog lays229_ren := {
 mixed := by kernel_rfl
 f229 := Tryz.func41.trans (congrArg some (by kernel_rfl))
 t0 := Tryz.underlying0
 a0 := Tryz.isAgg0
 z0 := Tryz.sizeOf0
 v0 := Tryz.zeroValue0
 t3 := Tryz.underlying3
 a3 := Tryz.isAgg3
 z3 := Tryz.sizeOf3
 v3 := Tryz.zeroValue3
 t4 := Tryz.underlying4
 a4 := Tryz.isAgg4
 z4 := Tryz.sizeOf4
 v4 := Tryz.zeroValue4
 t9 := Tryz.underlying9
 a9 := Tryz.isAgg9
 z9 := Tryz.sizeOf9
 v9 := Tryz.zeroValue9
 t21 := Tryz.underlying21
 a21 := Tryz.isAgg21
 z21 := Tryz.sizeOf21
 v21 := Tryz.zeroValue21
 t31 := Tryz.underlying34
 a31 := Tryz.isAgg34
 z31 := Tryz.sizeOf34
 v31 := Tryz.zeroValue34
 t40 := Tryz.underlying75
 a40 := Tryz.isAgg75
 z40 := Tryz.sizeOf75
 v40 := Tryz.zeroValue75
 t152 := Tryz.underlying99
 a152 := Tryz.isAgg99
 z152 := Tryz.sizeOf99
 v152 := Tryz.zeroValue99
 t154 := Tryz.underlying101
 a154 := Tryz.isAgg101
 z154 := Tryz.sizeOf101
 v154 := Tryz.zeroValue101 }
open Go.RowKit Go.Lib in
theorem strings_FieldsFunc_grows (g : Nat) (lb : Array Value) (eg : ∀ args w, (callFunc g args).run Tryz.prog w = .ok (.enter g args) w) (p : Nat → Bool) (s : ByteArray) (w : World) (hs : s.size ≤ 4294967296) (hp : PredGrows Tryz.prog g lb p w) :
  Calls Tryz.prog 41 #[.string s, .func (.func g) #[] lb] w fun e w' => ∃ A, e = .returned (.slice (some ⟨A, 0, none⟩) (Lib.goFieldsP p s).length (Lib.goFieldsP p s).length) ∧ w.heap.size ≤ A ∧
   w'.ownsRow w.heap.size 9 1 (.slice (some ⟨A, 0, none⟩) (Lib.goFieldsP p s).length (Lib.goFieldsP p s).length) (Lib.goFieldsP p s).length ((Lib.goFieldsP p s).map Value.string) ∧ Below w.heap.size w w' := Any.strings_FieldsFunc_grows lays229 g lb eg p s w hs hp (by kernel_rfl) (by kernel_rfl)
def laysGw17_ren : Go.Shelf.Ren := ⟨fun | 17 => 98 | 15 => 126 | 20 => 150 | n => n, fun | 9 => 9 | 23 => 75 | 4 => 4 | 3 => 3 | 0 => 0 | 21 => 21 | n => n, fun | n => n⟩
theorem laysGw17 : Go.Proofs.LaysGw.n17 Tryz.prog laysGw17_ren := {
 mixed := by kernel_rfl
 f15 := Tryz.func126.trans (congrArg some (by kernel_rfl))
 f17 := Tryz.func98.trans (congrArg some (by kernel_rfl))
 f20 := Tryz.func150.trans (congrArg some (by kernel_rfl))
 t0 := Tryz.underlying0
 a0 := Tryz.isAgg0
 z0 := Tryz.sizeOf0
 v0 := Tryz.zeroValue0
 i0 := by kernel_rfl
 t3 := Tryz.underlying3
 a3 := Tryz.isAgg3
 z3 := Tryz.sizeOf3
 v3 := Tryz.zeroValue3
 i3 := by kernel_rfl
 t4 := Tryz.underlying4
 a4 := Tryz.isAgg4
 z4 := Tryz.sizeOf4
 v4 := Tryz.zeroValue4
 i4 := by kernel_rfl
 t9 := Tryz.underlying9
 a9 := Tryz.isAgg9
 z9 := Tryz.sizeOf9
 v9 := Tryz.zeroValue9
 i9 := by kernel_rfl
 t21 := Tryz.underlying21
 a21 := Tryz.isAgg21
 z21 := Tryz.sizeOf21
 v21 := Tryz.zeroValue21
 i21 := by kernel_rfl
 t23 := Tryz.underlying75
 a23 := Tryz.isAgg75
 z23 := Tryz.sizeOf75
 v23 := Tryz.zeroValue75
 i23 := by kernel_rfl }
open Go.RowKit Go.Lib in
theorem strings_ContainsFunc_grows (g : Nat) (lb : Array Value) (eg : ∀ args w, (callFunc g args).run Tryz.prog w = .ok (.enter g args) w) (p : Nat → Bool) (s : ByteArray) (w : World) (hp : PredGrows Tryz.prog g lb p w) :
  Calls Tryz.prog 98 #[.string s, .func (.func g) #[] lb] w fun e w' => e = .returned (.bool (decide (0 ≤ Lib.idxFunc p true s))) ∧ Below w.heap.size w w' := Any.strings_ContainsFunc_grows laysGw17 g lb eg p s w hp
def lays160_ren : Go.Shelf.Ren := ⟨fun | 160 => 97 | 232 => 120 | 231 => 119 | 227 => 121 | 234 => 123 | 233 => 122 | 236 => 125 | 235 => 124 | 228 => 148 | 271 => 149 | 151 => 100 | 197 => 94 | 120 => 237 | 152 => 127 | 260 => 114 | 137 => 151 | 119 => 152 | 224 => 117 | 225 => 116 | 217 => 115 | 266 => 146 | n => n, fun | 9 => 9 | 4 => 4 | 3 => 3 | 5 => 5 | 117 => 150 | 116 => 149 | 0 => 0 | 124 => 153 | 21 => 21 | 105 => 113 | 46 => 146 | 119 => 172 | 139 => 175 | 138 => 174 | n => n, fun | 3 => 1 | 4 => 2 | n => n⟩
theorem lays160 : Go.Proofs.Lays.n160 Tryz.prog lays160_ren := {
 mixed := by kernel_rfl
 f119 := Tryz.func152.trans (congrArg some (by kernel_rfl))
 f120 := Tryz.func237.trans (congrArg some (by kernel_rfl))
 f137 := Tryz.func151.trans (congrArg some (by kernel_rfl))
 f151 := Tryz.func100.trans (congrArg some (by kernel_rfl))
 f152 := Tryz.func127.trans (congrArg some (by kernel_rfl))
 f160 := Tryz.func97.trans (congrArg some (by kernel_rfl))
 f197 := Tryz.func94.trans (congrArg some (by kernel_rfl))
 f217 := Tryz.func115.trans (congrArg some (by kernel_rfl))
 f224 := Tryz.func117.trans (congrArg some (by kernel_rfl))
 f225 := Tryz.func116.trans (congrArg some (by kernel_rfl))
 f227 := Tryz.func121.trans (congrArg some (by kernel_rfl))
 f228 := Tryz.func148.trans (congrArg some (by kernel_rfl))
 f231 := Tryz.func119.trans (congrArg some (by kernel_rfl))
 f232 := Tryz.func120.trans (congrArg some (by kernel_rfl))
 f233 := Tryz.func122.trans (congrArg some (by kernel_rfl))
 f234 := Tryz.func123.trans (congrArg some (by kernel_rfl))
 f235 := Tryz.func124.trans (congrArg some (by kernel_rfl))
 f236 := Tryz.func125.trans (congrArg some (by kernel_rfl))
 f260 := Tryz.func114.trans (congrArg some (by kernel_rfl))
 f266 := Tryz.func146.trans (congrArg some (by kernel_rfl))
 f271 := Tryz.func149.trans (congrArg some (by kernel_rfl))
 t0 := Tryz.underlying0
 a0 := Tryz.isAgg0
 z0 := Tryz.sizeOf0
 v0 := Tryz.zeroValue0
 t3 := Tryz.underlying3
 a3 := Tryz.isAgg3
 z3 := Tryz.sizeOf3
 v3 := Tryz.zeroValue3
 t4 := Tryz.underlying4
 a4 := Tryz.isAgg4
 z4 := Tryz.sizeOf4
 v4 := Tryz.zeroValue4
 t5 := Tryz.underlying5
 a5 := Tryz.isAgg5
 z5 := Tryz.sizeOf5
 v5 := Tryz.zeroValue5
 t9 := Tryz.underlying9
 a9 := Tryz.isAgg9
 z9 := Tryz.sizeOf9
 v9 := Tryz.zeroValue9
 t21 := Tryz.underlying21
 a21 := Tryz.isAgg21
 z21 := Tryz.sizeOf21
 v21 := Tryz.zeroValue21
 t46 := Tryz.underlying146
 a46 := Tryz.isAgg146
 z46 := Tryz.sizeOf146
 v46 := Tryz.zeroValue146
 t105 := Tryz.underlying113
 a105 := Tryz.isAgg113
 z105 := Tryz.sizeOf113
 v105 := Tryz.zeroValue113
 t116 := Tryz.underlying149
 a116 := Tryz.isAgg149
 z116 := Tryz.sizeOf149
 t117 := Tryz.underlying150
 a117 := Tryz.isAgg150
 z117 := Tryz.sizeOf150
 v117 := Tryz.zeroValue150
 t119 := Tryz.underlying172
 a119 := Tryz.isAgg172
 z119 := Tryz.sizeOf172
 t124 := Tryz.underlying153
 a124 := Tryz.isAgg153
 z124 := Tryz.sizeOf153
 v124 := Tryz.zeroValue153
 t138 := Tryz.underlying174
 a138 := Tryz.isAgg174
 z138 := Tryz.sizeOf174
 v138 := Tryz.zeroValue174
 t139 := Tryz.underlying175
 a139 := Tryz.isAgg175
 z139 := Tryz.sizeOf175
 v139 := Tryz.zeroValue175
 g3 := by kernel_rfl
 g4 := by kernel_rfl }
def laysSlH8_f24_ren : Go.Shelf.Ren := ⟨fun | 8 => 24 | 6 => 54 | n => n, fun | 22 => 34 | 23 => 9 | 25 => 30 | 4 => 4 | 3 => 3 | 0 => 0 | n => n, fun | n => n⟩
theorem laysSlH8_f24 : Go.Proofs.SlLaysH.n8 Tryz.prog laysSlH8_f24_ren := {
 mixed := by kernel_rfl
 f6 := ⟨Tryz.f54.name, by decide, Tryz.func54.trans (congrArg some (by kernel_rfl))⟩
 f8 := ⟨Tryz.f24.name, by decide, Tryz.func24.trans (congrArg some (by kernel_rfl))⟩
 t0 := Tryz.underlying0
 a0 := Tryz.isAgg0
 z0 := Tryz.sizeOf0
 v0 := Tryz.zeroValue0
 t3 := Tryz.underlying3
 a3 := Tryz.isAgg3
 z3 := Tryz.sizeOf3
 v3 := Tryz.zeroValue3
 t4 := Tryz.underlying4
 a4 := Tryz.isAgg4
 z4 := Tryz.sizeOf4
 v4 := Tryz.zeroValue4
 t22 := Tryz.underlying34
 a22 := Tryz.isAgg34
 z22 := Tryz.sizeOf34
 v22 := Tryz.zeroValue34
 a23 := Tryz.isAgg9
 z23 := Tryz.sizeOf9
 t25 := Tryz.underlying30
 a25 := Tryz.isAgg30
 z25 := Tryz.sizeOf30
 v25 := Tryz.zeroValue30 }
open Go.RowKit Go.Lib in
theorem slices_ContainsFunc {α : Type} [Inhabited α] (enc : α → Value) (p : α → Bool) (g : Nat) (lb : Array Value) (eg : ∀ args w, (callFunc g args).run Tryz.prog w = .ok (.enter g args) w) (b off n c : Nat) (zs : List α) (w : World) (hp : PredAt Tryz.prog g lb enc p w) (hz : n ≤ zs.length) (hbig : n ≤ 9223372036854775807) (hc : ∀ j, j < zs.length → w.cell? ⟨b, off + j, none⟩ = some (enc zs[j]!)) :
  Calls Tryz.prog 24 #[.slice (some ⟨b, off, none⟩) n c, .func (.func g) #[] lb] w fun e w' => e = .returned (.bool ((zs.take n).any p)) ∧ ∃ q, w' = w.drewN q := AnyE.slices_ContainsFunc laysSlH8_f24 enc p g lb eg b off n c zs w hp hz hbig hc
open Go.RowKit Go.Lib in
theorem slices_ContainsFunc_empty {α : Type} [Inhabited α] (a : Option Addr) (c : Nat) (fv : Value) (w : World) :
  Calls Tryz.prog 24 #[.slice a 0 c, fv] w fun e w' => e = .returned (.bool false) ∧ w' = w := AnyE.slices_ContainsFunc_empty laysSlH8_f24 a c fv w
def lays315_ren : Go.Shelf.Ren := ⟨fun | 315 => 150 | n => n, fun | 9 => 9 | 40 => 75 | 4 => 4 | 3 => 3 | 0 => 0 | 21 => 21 | n => n, fun | n => n⟩
theorem lays315 : Go.Proofs.Lays.n315 Tryz.prog lays315_ren := {
 mixed := by kernel_rfl
 f315 := Tryz.func150.trans (congrArg some (by kernel_rfl))
 t0 := Tryz.underlying0
 a0 := Tryz.isAgg0
 z0 := Tryz.sizeOf0
 v0 := Tryz.zeroValue0
 t3 := Tryz.underlying3
 a3 := Tryz.isAgg3
 z3 := Tryz.sizeOf3
 v3 := Tryz.zeroValue3
 t4 := Tryz.underlying4
 a4 := Tryz.isAgg4
 z4 := Tryz.sizeOf4
 v4 := Tryz.zeroValue4
 t9 := Tryz.underlying9
 a9 := Tryz.isAgg9
 z9 := Tryz.sizeOf9
 v9 := Tryz.zeroValue9
 t21 := Tryz.underlying21
 a21 := Tryz.isAgg21
 z21 := Tryz.sizeOf21
 v21 := Tryz.zeroValue21
 t40 := Tryz.underlying75
 a40 := Tryz.isAgg75
 z40 := Tryz.sizeOf75
 v40 := Tryz.zeroValue75 }
open Go.RowKit Go.Lib in
theorem strings_indexFunc (g : Nat) (lb : Array Value) (eg : ∀ args w, (callFunc g args).run Tryz.prog w = .ok (.enter g args) w) (p : Nat → Bool) (truth : Bool) (s : ByteArray) (w : World) (hp : PredAt Tryz.prog g lb encR p w) :
  Calls Tryz.prog 150 #[.string s, .func (.func g) #[] lb, .bool truth] w fun e w' => e = .returned (.int .i64 (Lib.idxFunc p truth s)) ∧ Below w.heap.size w w' := Any.strings_indexFunc lays315 g lb eg p truth s w hp
open Go.RowKit Go.Lib in
theorem strings_indexFunc_grows (g : Nat) (lb : Array Value) (eg : ∀ args w, (callFunc g args).run Tryz.prog w = .ok (.enter g args) w) (p : Nat → Bool) (truth : Bool) (s : ByteArray) (w : World) (hp : PredGrows Tryz.prog g lb p w) :
  Calls Tryz.prog 150 #[.string s, .func (.func g) #[] lb, .bool truth] w fun e w' => e = .returned (.int .i64 (Lib.idxFunc p truth s)) ∧ Below w.heap.size w w' := Any.strings_indexFunc_grows lays315 g lb eg p truth s w hp
open Go.RowKit Go.Lib in
theorem strings_Trim_laid (s cutset : ByteArray) (w : World) (hs : s.size ≤ 9223372036854775807) (hcs : cutset.size < 4294967281) (hascii : ∀ (j : Nat) b, cutset.data.toList[j]? = some b → b.toNat < 128) :
  Calls Tryz.prog 97 #[.string s, .string cutset] w fun e w' => e = .returned (.string ⟨(Lib.trimS s.data.toList cutset.data.toList).toArray⟩) ∧ Below w.heap.size w w' := Any.strings_Trim_laid lays160 (by kernel_rfl) s cutset w hs hcs hascii
end Go.Proofs.YtoofgblmpjndjaaGreatDoor.Scs
