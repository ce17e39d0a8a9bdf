/-
  Texts of this claim, joined by program (ScJ, ScK, ScL, ScN, ScQ). Walks: the reference's SameInts, SameTexts. (Printed by gen_scj.py.)
-/
import Derived.Test.YtoofgblmpjndjaaGreatDoorZG6
import Derived.Shelf.LaysM
import Derived.Shelf.Strconv.Itoa3
import Derived.Shelf.Strconv.Atoi
import Derived.Shelf.Strconv.Clone
import Derived.Shelf.Strings.BuilderF
import Derived.Shelf.Strings.OnBuilder
import Derived.Shelf.Strings.Split
import Derived.Shelf.Strings.SplitShaped
import Derived.Shelf.Strings.Prefix
import Derived.Shelf.Strings.Runes
import Derived.Sort.WalkA
import Derived.Shelf.Slices.Turned
import Derived.Shelf.Slices.Equal
import Derived.Shelf.Slices.Empties2
import Derived.Test.YtoofgblmpjndjaaGreatDoorProg
import Derived.Test.YtoofgblmpjndjaaGreatDoorZG3
import Derived.Lib.OthersKept
import Derived.Lib.ItoaLen
import Derived.Shelf.Unicode.DecodeSlow
import Derived.Deep.CutBlock
import Derived.Deep.DeepCutAuto
import Derived.Deep.RegionHeld3
import Derived.BigQuiet
set_option linter.unusedVariables false
set_option linter.unusedSimpArgs false
namespace Go.Proofs.YtoofgblmpjndjaaGreatDoor.Scr
open Go.RowKit K Go.Lib

def EqP (w : World) (b : Bool) (e : Ending) (w' : World) : Prop := e = .returned (.bool b) ∧ ∃ q, w.drewN q = w'
set_option maxHeartbeats 2000000 in
theorem rsamei_any {A B : Option Addr} {n c m c2 : Nat} {l l2 : List Int} (w : World) (HP : SI w .i64 A n l) (HP2 : SI w .i64 B m l2) :
  Calls Tryz.prog 19 #[.slice A n c, .slice B m c2] w (EqP w (decide (l = l2))) := by
 have hlen := HP.len
 have hlen2 := HP2.len
 have hbig : n ≤ 140737488351232 := by have := HP.sz; simp only [kb] at this; omega
 obtain ⟨res, hres⟩ : ∃ b, decide (l = l2) = b := ⟨_, rfl⟩
 rw [hres]
 by_cases h3 : n = m
 ·have n3 : ((n : Int) != (m : Int)) = false := by simp [h3]
  have HP1 := Lib.hid HP
  have HPB := Lib.hid HP2
  have HLL : Hid (l.length = n ∧ l2.length = n) := ⟨hlen, by rw [hlen2, h3]⟩
  have H3 := Lib.hid h3
  have HVAL := Lib.hid hres
  clear hlen hlen2 HP HP2 h3 hres
  go_enter Tryz.func19, Tryz.ntmps19
  go_wp2_with fail
  clear n3
  go_loopw [5] (fun s5 wr => ∃ k q : Nat, k ≤ n ∧ s5 = .int .i64 k ∧ w.drewN q = wr ∧ ∀ i, i < k → l[i]? = l2[i]?) (fun s5 _ => n - (intOf s5).toNat)
  case atStart => exact ⟨0, 0, by omega, rfl, rfl, fun i hi => by omega⟩
  case round =>
   obtain ⟨k, q, hk, rfl, rfl, hin⟩ := hrel
   have HIN := Lib.hid hin
   clear hin
   by_cases hlt : k < n
   ·have d0 : decide ((k : Int) < (n : Int)) = true := decide_eq_true (by omega)
    have e0 : decide (k < n) = true := decide_eq_true hlt
    have j0 : (0 : Int) ≤ (k : Int) := by omega
    have j1 : (k : Int) < (n : Int) := by omega
    have j2 : (k : Int) < (m : Int) := by have := H3.out; omega
    obtain ⟨b1, o1, v1, rfl, c1, hv1, -⟩ := HP1.out.cells hlt
    obtain ⟨b2, o2, v2, rfl, c2', hv2, -⟩ := HPB.out.cells (i := k) (by have := H3.out; omega)
    have HWJ : Hid (wrap64 ((k : Int) + 1) = ((k + 1 : Nat) : Int)) := by show _ = _; rw [IntWalk.wrap64_in _ (by omega)]; rfl
    by_cases hv : v1 = v2
    ·have t1 : (v1 != v2) = false := by simp [hv]
     have HEQ : Hid (l[k]? = l2[k]?) := by show _ = _; rw [hv1.out, hv2.out, hv]
     clear hv hv1 hv2
     go_wp2_with fail
     go_quiet (fail)
     go_wp2_with fail
     go_roundw
     case rel => exact ⟨k + 1, q + nq, by omega, by first | rw [HWJ.out] | rfl, by first | rfl | rw [World.drewN_drewN], fun i hi => by
      rcases Nat.lt_or_ge i k with h | h
      ·exact HIN.out i h
      ·obtain rfl : i = k := by omega
       exact HEQ.out⟩
     case measure => simp [intOf]; omega
    ·have t1 : (v1 != v2) = true := by simp [hv]
     have HNE : Hid (res = false) := by
      show _ = _
      rw [← HVAL.out]
      refine decide_eq_false fun e => hv ?_
      have h1 := hv1.out
      rw [e, hv2.out] at h1
      injection h1 with h1
      exact h1.symm
     clear hv hv1 hv2
     go_wp2_with fail
     go_quiet (fail)
     go_wp2_with fail
     go_ret
     exact ⟨by rw [HNE.out]; rfl, ⟨_, (World.drewN_drewN _ _ _).symm⟩⟩
   ·obtain rfl : k = n := by omega
    have d0 : decide ((k : Int) < (k : Int)) = false := by simp
    have HEQ : Hid (res = true) := by
     show _ = _
     rw [← HVAL.out]
     refine decide_eq_true (List.ext_getElem? fun i => ?_)
     by_cases hi : i < k
     ·exact HIN.out i hi
     ·rw [List.getElem?_eq_none_iff.2 (by have := HLL.out.1; omega), List.getElem?_eq_none_iff.2 (by have := HLL.out.2; omega)]
    go_wp2_with fail
    go_ret
    exact ⟨by rw [HEQ.out]; rfl, ⟨_, rfl⟩⟩
 ·have n3 : ((n : Int) != (m : Int)) = true := by simp; omega
  have HVAL : Hid (res = false) := by
   show _ = _
   rw [← hres]
   refine decide_eq_false fun e => h3 ?_
   rw [← hlen, ← hlen2, e]
  clear hlen hlen2 HP HP2 h3 hres
  go_enter Tryz.func19, Tryz.ntmps19
  go_wp2_with fail
  go_ret
  exact ⟨by rw [HVAL.out]; rfl, ⟨0, rfl⟩⟩
set_option maxHeartbeats 2000000 in
theorem rsames_any {A B : Option Addr} {n c m c2 : Nat} {l l2 : List Tx} (w : World) (HP : SS w A n l) (HP2 : SS w B m l2) :
  Calls Tryz.prog 16 #[.slice A n c, .slice B m c2] w (EqP w (decide (l = l2))) := by
 have hlen := HP.len
 have hlen2 := HP2.len
 have hbig : n ≤ 140737488351232 := by have := HP.sz; omega
 obtain ⟨res, hres⟩ : ∃ b, decide (l = l2) = b := ⟨_, rfl⟩
 rw [hres]
 by_cases h3 : n = m
 ·have n3 : ((n : Int) != (m : Int)) = false := by simp [h3]
  have HP1 := Lib.hid HP
  have HPB := Lib.hid HP2
  have HLL : Hid (l.length = n ∧ l2.length = n) := ⟨hlen, by rw [hlen2, h3]⟩
  have H3 := Lib.hid h3
  have HVAL := Lib.hid hres
  clear hlen hlen2 HP HP2 h3 hres
  go_enter Tryz.func16, Tryz.ntmps16
  go_wp2_with fail
  clear n3
  go_loopw [5] (fun s5 wr => ∃ k q : Nat, k ≤ n ∧ s5 = .int .i64 k ∧ w.drewN q = wr ∧ ∀ i, i < k → l[i]? = l2[i]?) (fun s5 _ => n - (intOf s5).toNat)
  case atStart => exact ⟨0, 0, by omega, rfl, rfl, fun i hi => by omega⟩
  case round =>
   obtain ⟨k, q, hk, rfl, rfl, hin⟩ := hrel
   have HIN := Lib.hid hin
   clear hin
   by_cases hlt : k < n
   ·have d0 : decide ((k : Int) < (n : Int)) = true := decide_eq_true (by omega)
    have e0 : decide (k < n) = true := decide_eq_true hlt
    have j0 : (0 : Int) ≤ (k : Int) := by omega
    have j1 : (k : Int) < (n : Int) := by omega
    have j2 : (k : Int) < (m : Int) := by have := H3.out; omega
    obtain ⟨b1, o1, v1, rfl, c1, hv1', -⟩ := HP1.out.cell hlt
    obtain ⟨b2, o2, v2, rfl, c2', hv2', -⟩ := HPB.out.cell (i := k) (by have := H3.out; omega)
    have hv1 := Lib.hid hv1'
    have hv2 := Lib.hid hv2'
    clear hv1' hv2'
    obtain ⟨x1, hx1⟩ : ∃ z, ba v1 = z := ⟨_, rfl⟩
    obtain ⟨x2, hx2⟩ : ∃ z, ba v2 = z := ⟨_, rfl⟩
    have hbe : (x1.toList == x2.toList) = (v1 == v2) := by rw [← hx1, ← hx2, tl_ba, tl_ba]
    rw [hx1] at c1
    rw [hx2] at c2'
    clear hx1 hx2
    have HWJ : Hid (wrap64 ((k : Int) + 1) = ((k + 1 : Nat) : Int)) := by show _ = _; rw [IntWalk.wrap64_in _ (by omega)]; rfl
    by_cases hv : v1 = v2
    ·have t1 : (x1.toList == x2.toList) = true := by rw [hbe, hv]; exact beq_self_eq_true _
     have t2 : (x1.toList != x2.toList) = false := by unfold bne; rw [t1]; rfl
     clear hbe
     have HEQ : Hid (l[k]? = l2[k]?) := by show _ = _; rw [hv1.out, hv2.out, hv]
     clear hv hv1 hv2
     go_wp2_with fail
     go_quiet (fail)
     go_wp2_with fail
     go_roundw
     case rel => exact ⟨k + 1, q + nq, by omega, by first | rw [HWJ.out] | rfl, by first | rfl | rw [World.drewN_drewN], fun i hi => by
      rcases Nat.lt_or_ge i k with h | h
      ·exact HIN.out i h
      ·obtain rfl : i = k := by omega
       exact HEQ.out⟩
     case measure => simp [intOf]; omega
    ·have t1 : (x1.toList == x2.toList) = false := by rw [hbe]; exact beq_eq_false_iff_ne.2 hv
     have t2 : (x1.toList != x2.toList) = true := by unfold bne; rw [t1]; rfl
     clear hbe
     have HNE : Hid (res = false) := by
      show _ = _
      rw [← HVAL.out]
      refine decide_eq_false fun e => hv ?_
      have h1 := hv1.out
      rw [e, hv2.out] at h1
      injection h1 with h1
      exact h1.symm
     clear hv hv1 hv2
     go_wp2_with fail
     go_quiet (fail)
     go_wp2_with fail
     go_ret
     exact ⟨by rw [HNE.out]; rfl, ⟨_, (World.drewN_drewN _ _ _).symm⟩⟩
   ·obtain rfl : k = n := by omega
    have d0 : decide ((k : Int) < (k : Int)) = false := by simp
    have HEQ : Hid (res = true) := by
     show _ = _
     rw [← HVAL.out]
     refine decide_eq_true (List.ext_getElem? fun i => ?_)
     by_cases hi : i < k
     ·exact HIN.out i hi
     ·rw [List.getElem?_eq_none_iff.2 (by have := HLL.out.1; omega), List.getElem?_eq_none_iff.2 (by have := HLL.out.2; omega)]
    go_wp2_with fail
    go_ret
    exact ⟨by rw [HEQ.out]; rfl, ⟨_, rfl⟩⟩
 ·have n3 : ((n : Int) != (m : Int)) = true := by simp; omega
  have HVAL : Hid (res = false) := by
   show _ = _
   rw [← hres]
   refine decide_eq_false fun e => h3 ?_
   rw [← hlen, ← hlen2, e]
  clear hlen hlen2 HP HP2 h3 hres
  go_enter Tryz.func16, Tryz.ntmps16
  go_wp2_with fail
  go_ret
  exact ⟨by rw [HVAL.out]; rfl, ⟨0, rfl⟩⟩
end Go.Proofs.YtoofgblmpjndjaaGreatDoor.Scr
set_option linter.unusedVariables false
namespace Go.Proofs.YtoofgblmpjndjaaGreatDoor.Scs
open Go.Shelf Go.Proofs
def lays170_ren : Go.Shelf.Ren := ⟨fun | 170 => 34 | n => n, fun | 70 => 57 | 3 => 3 | 0 => 0 | 72 => 60 | 37 => 58 | 5 => 5 | n => n, fun | n => n⟩
theorem lays170 : Go.Proofs.Lays.n170 Tryz.prog lays170_ren := {
 mixed := by kernel_rfl
 f170 := Tryz.func34.trans (congrArg some (by kernel_rfl))
 t0 := Tryz.underlying0
 a0 := Tryz.isAgg0
 z0 := Tryz.sizeOf0
 v0 := Tryz.zeroValue0
 t3 := Tryz.underlying3
 a3 := Tryz.isAgg3
 z3 := Tryz.sizeOf3
 v3 := Tryz.zeroValue3
 t37 := Tryz.underlying58
 a37 := Tryz.isAgg58
 z37 := Tryz.sizeOf58
 v37 := Tryz.zeroValue58
 t70 := Tryz.underlying57
 a70 := Tryz.isAgg57
 z70 := Tryz.sizeOf57
 v70 := Tryz.zeroValue57
 t72 := Tryz.underlying60
 a72 := Tryz.isAgg60
 z72 := Tryz.sizeOf60
 v72 := Tryz.zeroValue60 }
def lays169_ren : Go.Shelf.Ren := ⟨fun | 169 => 35 | n => n, fun | 70 => 57 | 9 => 9 | 0 => 0 | 72 => 60 | 37 => 58 | 127 => 96 | 3 => 3 | 5 => 5 | n => n, fun | n => n⟩
theorem lays169 : Go.Proofs.Lays.n169 Tryz.prog lays169_ren := {
 mixed := by kernel_rfl
 f169 := Tryz.func35.trans (congrArg some (by kernel_rfl))
 t0 := Tryz.underlying0
 a0 := Tryz.isAgg0
 z0 := Tryz.sizeOf0
 v0 := Tryz.zeroValue0
 t3 := Tryz.underlying3
 a3 := Tryz.isAgg3
 z3 := Tryz.sizeOf3
 v3 := Tryz.zeroValue3
 t9 := Tryz.underlying9
 a9 := Tryz.isAgg9
 z9 := Tryz.sizeOf9
 v9 := Tryz.zeroValue9
 t37 := Tryz.underlying58
 a37 := Tryz.isAgg58
 z37 := Tryz.sizeOf58
 v37 := Tryz.zeroValue58
 t70 := Tryz.underlying57
 a70 := Tryz.isAgg57
 z70 := Tryz.sizeOf57
 v70 := Tryz.zeroValue57
 t72 := Tryz.underlying60
 a72 := Tryz.isAgg60
 z72 := Tryz.sizeOf60
 v72 := Tryz.zeroValue60
 t127 := Tryz.underlying96
 a127 := Tryz.isAgg96
 z127 := Tryz.sizeOf96
 v127 := Tryz.zeroValue96 }
theorem Builder_Extra_169 : Builder.Extra Tryz.prog lays169_ren := {
 sizeBuilder := by kernel_rfl
 liesBuilder := by kernel_rfl
 t5 := Tryz.underlying5
 a5 := Tryz.isAgg5
 z5 := Tryz.sizeOf5
 v5 := Tryz.zeroValue5
 infoByte := by kernel_rfl
 cellsByte := by kernel_rfl
 sizeByte := by kernel_rfl
 neB5 := by decide }
def lays156_ren : Go.Shelf.Ren := ⟨fun | 156 => 33 | 165 => 66 | 166 => 32 | 169 => 35 | 240 => 65 | 241 => 92 | 276 => 91 | 277 => 113 | n => n, fun | 31 => 34 | 9 => 9 | 3 => 3 | 4 => 4 | 0 => 0 | 20 => 20 | 72 => 60 | 76 => 65 | 70 => 57 | 37 => 58 | 75 => 64 | 127 => 96 | 164 => 111 | 5 => 5 | 80 => 69 | n => n, fun | n => n⟩
theorem lays156 : Go.Proofs.Lays.n156 Tryz.prog lays156_ren := {
 mixed := by kernel_rfl
 f156 := Tryz.func33.trans (congrArg some (by kernel_rfl))
 f165 := Tryz.func66.trans (congrArg some (by kernel_rfl))
 f166 := Tryz.func32.trans (congrArg some (by kernel_rfl))
 f169 := Tryz.func35.trans (congrArg some (by kernel_rfl))
 f240 := Tryz.func65.trans (congrArg some (by kernel_rfl))
 f241 := Tryz.func92.trans (congrArg some (by kernel_rfl))
 f276 := Tryz.func91.trans (congrArg some (by kernel_rfl))
 f277 := Tryz.func113.trans (congrArg some (by kernel_rfl))
 t0 := Tryz.underlying0
 a0 := Tryz.isAgg0
 z0 := Tryz.sizeOf0
 v0 := Tryz.zeroValue0
 t3 := Tryz.underlying3
 a3 := Tryz.isAgg3
 z3 := Tryz.sizeOf3
 v3 := Tryz.zeroValue3
 t4 := Tryz.underlying4
 a4 := Tryz.isAgg4
 z4 := Tryz.sizeOf4
 v4 := Tryz.zeroValue4
 t9 := Tryz.underlying9
 a9 := Tryz.isAgg9
 z9 := Tryz.sizeOf9
 v9 := Tryz.zeroValue9
 t20 := Tryz.underlying20
 a20 := Tryz.isAgg20
 z20 := Tryz.sizeOf20
 v20 := Tryz.zeroValue20
 t31 := Tryz.underlying34
 a31 := Tryz.isAgg34
 z31 := Tryz.sizeOf34
 v31 := Tryz.zeroValue34
 t37 := Tryz.underlying58
 a37 := Tryz.isAgg58
 z37 := Tryz.sizeOf58
 v37 := Tryz.zeroValue58
 t70 := Tryz.underlying57
 a70 := Tryz.isAgg57
 z70 := Tryz.sizeOf57
 v70 := Tryz.zeroValue57
 t72 := Tryz.underlying60
 a72 := Tryz.isAgg60
 z72 := Tryz.sizeOf60
 v72 := Tryz.zeroValue60
 t75 := Tryz.underlying64
 a75 := Tryz.isAgg64
 z75 := Tryz.sizeOf64
 v75 := Tryz.zeroValue64
 t76 := Tryz.underlying65
 a76 := Tryz.isAgg65
 z76 := Tryz.sizeOf65
 v76 := Tryz.zeroValue65
 t127 := Tryz.underlying96
 a127 := Tryz.isAgg96
 z127 := Tryz.sizeOf96
 v127 := Tryz.zeroValue96
 t164 := Tryz.underlying111
 a164 := Tryz.isAgg111
 z164 := Tryz.sizeOf111
 v164 := Tryz.zeroValue111 }
theorem Builder_Extra_156 : Builder.Extra Tryz.prog lays156_ren := {
 sizeBuilder := by kernel_rfl
 liesBuilder := by kernel_rfl
 t5 := Tryz.underlying5
 a5 := Tryz.isAgg5
 z5 := Tryz.sizeOf5
 v5 := Tryz.zeroValue5
 infoByte := by kernel_rfl
 cellsByte := by kernel_rfl
 sizeByte := by kernel_rfl
 neB5 := by decide }
open Go.RowKit in
theorem strings_Join_none (a : Option Addr) (c : Nat) (sep : ByteArray) (w : World) :
  Calls Tryz.prog 33 #[.slice a 0 c, .string sep] w fun e w' => e = .returned (.string ⟨#[]⟩) ∧ w' = w := Any.strings_Join_none lays156 Builder_Extra_156 a c sep w
open Go.RowKit in
theorem strings_Join (bk o c : Nat) (xs : List ByteArray) (sep : ByteArray) (w : World) (hcells : ∀ (j : Nat) x, xs[j]? = some x → w.cell? ⟨bk, o + j, none⟩ = some (.string x)) (hbk : bk < w.heap.size) (hN : xs.length ≤ 140737488355328) (hcap : xs.length ≤ c) (hlen : (Lib.join (xs.map (·.data.toList)) sep.data.toList).length ≤ 140737488355328) :
  Calls Tryz.prog 33 #[.slice (some ⟨bk, o, none⟩) xs.length c, .string sep] w fun e w' => e = .returned (.string ⟨(Lib.join (xs.map (·.data.toList)) sep.data.toList).toArray⟩) ∧ Below w.heap.size w w' := Any.strings_Join lays156 Builder_Extra_156 bk o c xs sep w hcells hbk hN hcap hlen
open Go.RowKit in
theorem Builder_Len_f (B b : Nat) (bs : List Value) (w : World) (h : Lib.IsBuilderF 60 5 B b bs w) :
  Calls Tryz.prog 34 #[.pointer (some ⟨b, 0, none⟩)] w fun e w' => e = .returned (.int .i64 bs.length) ∧ w' = w := Any.Builder_Len_f lays170 B b bs w h
open Go.RowKit in
theorem Builder_String_f (B b : Nat) (l : List UInt8) (w : World) (h : Lib.IsBuilderF 60 5 B b (Lib.byteCells l) w) (h0 : l ≠ []) :
  Calls Tryz.prog 35 #[.pointer (some ⟨b, 0, none⟩)] w fun e w' => e = .returned (.string ⟨l.toArray⟩) ∧ (Lib.IsBuilderF 60 5 B b (Lib.byteCells l) w' ∧ Below B w w') := Any.Builder_String_f lays169 Builder_Extra_169 B b l w h h0
open Go.RowKit in
theorem Builder_String_empty_f (B b : Nat) (w : World) (h : Lib.IsBuilderF 60 5 B b [] w) (hBw : B ≤ w.heap.size) :
  Calls Tryz.prog 35 #[.pointer (some ⟨b, 0, none⟩)] w fun e w' => e = .returned (.string ⟨#[]⟩) ∧ (Lib.IsBuilderF 60 5 B b [] w' ∧ Below B w w') := Any.Builder_String_empty_f lays169 Builder_Extra_169 B b w h hBw
open Go.RowKit in
theorem Builder_String_any_f (B b : Nat) (l : List UInt8) (w : World) (h : Lib.IsBuilderF 60 5 B b (Lib.byteCells l) w) (hBw : B ≤ w.heap.size) :
  Calls Tryz.prog 35 #[.pointer (some ⟨b, 0, none⟩)] w fun e w' => e = .returned (.string ⟨l.toArray⟩) ∧ (Lib.IsBuilderF 60 5 B b (Lib.byteCells l) w' ∧ Below B w w') := Any.Builder_String_any_f lays169 Builder_Extra_169 B b l w h hBw
def lays172_ren : Go.Shelf.Ren := ⟨fun | 172 => 102 | 244 => 129 | 245 => 130 | 247 => 154 | 279 => 155 | 280 => 156 | 281 => 157 | 282 => 158 | 287 => 238 | 316 => 70 | 171 => 62 | 205 => 239 | 321 => 250 | 322 => 251 | 243 => 90 | 246 => 112 | 283 => 142 | 284 => 143 | 285 => 144 | 286 => 145 | 129 => 233 | 317 => 232 | 318 => 234 | 319 => 235 | 320 => 236 | 337 => 248 | 338 => 249 | n => n, fun | 9 => 9 | 3 => 3 | 75 => 64 | 76 => 65 | 4 => 4 | 5 => 5 | 167 => 180 | 37 => 58 | 0 => 0 | 85 => 181 | 2 => 2 | 168 => 183 | 53 => 167 | 175 => 218 | 46 => 146 | 210 => 221 | 127 => 96 | 145 => 231 | 143 => 229 | 21 => 21 | 171 => 166 | 173 => 170 | 212 => 214 | 51 => 176 | 20 => 20 | 213 => 215 | 232 => 237 | 233 => 238 | 80 => 69 | n => n, fun | 15 => 4 | 16 => 5 | 17 => 3 | 18 => 6 | 19 => 7 | n => n⟩
theorem lays172 : Go.Proofs.Lays.n172 Tryz.prog lays172_ren := {
 mixed := by kernel_rfl
 f129 := Tryz.func233.trans (congrArg some (by kernel_rfl))
 f171 := Tryz.func62.trans (congrArg some (by kernel_rfl))
 f172 := Tryz.func102.trans (congrArg some (by kernel_rfl))
 f205 := Tryz.func239.trans (congrArg some (by kernel_rfl))
 f243 := Tryz.func90.trans (congrArg some (by kernel_rfl))
 f244 := Tryz.func129.trans (congrArg some (by kernel_rfl))
 f245 := Tryz.func130.trans (congrArg some (by kernel_rfl))
 f246 := Tryz.func112.trans (congrArg some (by kernel_rfl))
 f247 := Tryz.func154.trans (congrArg some (by kernel_rfl))
 f279 := Tryz.func155.trans (congrArg some (by kernel_rfl))
 f280 := Tryz.func156.trans (congrArg some (by kernel_rfl))
 f281 := Tryz.func157.trans (congrArg some (by kernel_rfl))
 f282 := Tryz.func158.trans (congrArg some (by kernel_rfl))
 f283 := Tryz.func142.trans (congrArg some (by kernel_rfl))
 f284 := Tryz.func143.trans (congrArg some (by kernel_rfl))
 f285 := Tryz.func144.trans (congrArg some (by kernel_rfl))
 f286 := Tryz.func145.trans (congrArg some (by kernel_rfl))
 f287 := Tryz.func238.trans (congrArg some (by kernel_rfl))
 f316 := Tryz.func70.trans (congrArg some (by kernel_rfl))
 f317 := Tryz.func232.trans (congrArg some (by kernel_rfl))
 f318 := Tryz.func234.trans (congrArg some (by kernel_rfl))
 f319 := Tryz.func235.trans (congrArg some (by kernel_rfl))
 f320 := Tryz.func236.trans (congrArg some (by kernel_rfl))
 f321 := Tryz.func250.trans (congrArg some (by kernel_rfl))
 f322 := Tryz.func251.trans (congrArg some (by kernel_rfl))
 f337 := Tryz.func248.trans (congrArg some (by kernel_rfl))
 f338 := Tryz.func249.trans (congrArg some (by kernel_rfl))
 t0 := Tryz.underlying0
 a0 := Tryz.isAgg0
 z0 := Tryz.sizeOf0
 v0 := Tryz.zeroValue0
 t2 := Tryz.underlying2
 a2 := Tryz.isAgg2
 z2 := Tryz.sizeOf2
 v2 := Tryz.zeroValue2
 t3 := Tryz.underlying3
 a3 := Tryz.isAgg3
 z3 := Tryz.sizeOf3
 v3 := Tryz.zeroValue3
 t4 := Tryz.underlying4
 a4 := Tryz.isAgg4
 z4 := Tryz.sizeOf4
 v4 := Tryz.zeroValue4
 t5 := Tryz.underlying5
 a5 := Tryz.isAgg5
 z5 := Tryz.sizeOf5
 v5 := Tryz.zeroValue5
 t9 := Tryz.underlying9
 a9 := Tryz.isAgg9
 z9 := Tryz.sizeOf9
 v9 := Tryz.zeroValue9
 t20 := Tryz.underlying20
 a20 := Tryz.isAgg20
 z20 := Tryz.sizeOf20
 v20 := Tryz.zeroValue20
 t21 := Tryz.underlying21
 a21 := Tryz.isAgg21
 z21 := Tryz.sizeOf21
 v21 := Tryz.zeroValue21
 t37 := Tryz.underlying58
 a37 := Tryz.isAgg58
 z37 := Tryz.sizeOf58
 v37 := Tryz.zeroValue58
 t46 := Tryz.underlying146
 a46 := Tryz.isAgg146
 z46 := Tryz.sizeOf146
 v46 := Tryz.zeroValue146
 t51 := Tryz.underlying176
 a51 := Tryz.isAgg176
 z51 := Tryz.sizeOf176
 v51 := Tryz.zeroValue176
 t53 := Tryz.underlying167
 a53 := Tryz.isAgg167
 z53 := Tryz.sizeOf167
 v53 := Tryz.zeroValue167
 t75 := Tryz.underlying64
 a75 := Tryz.isAgg64
 z75 := Tryz.sizeOf64
 v75 := Tryz.zeroValue64
 t76 := Tryz.underlying65
 a76 := Tryz.isAgg65
 z76 := Tryz.sizeOf65
 v76 := Tryz.zeroValue65
 t85 := Tryz.underlying181
 a85 := Tryz.isAgg181
 z85 := Tryz.sizeOf181
 v85 := Tryz.zeroValue181
 t127 := Tryz.underlying96
 a127 := Tryz.isAgg96
 z127 := Tryz.sizeOf96
 v127 := Tryz.zeroValue96
 t143 := Tryz.underlying229
 a143 := Tryz.isAgg229
 z143 := Tryz.sizeOf229
 v143 := Tryz.zeroValue229
 t145 := Tryz.underlying231
 a145 := Tryz.isAgg231
 z145 := Tryz.sizeOf231
 v145 := Tryz.zeroValue231
 t167 := Tryz.underlying180
 a167 := Tryz.isAgg180
 z167 := Tryz.sizeOf180
 v167 := Tryz.zeroValue180
 t168 := Tryz.underlying183
 a168 := Tryz.isAgg183
 z168 := Tryz.sizeOf183
 v168 := Tryz.zeroValue183
 t171 := Tryz.underlying166
 a171 := Tryz.isAgg166
 z171 := Tryz.sizeOf166
 v171 := Tryz.zeroValue166
 t173 := Tryz.underlying170
 a173 := Tryz.isAgg170
 z173 := Tryz.sizeOf170
 v173 := Tryz.zeroValue170
 t175 := Tryz.underlying218
 a175 := Tryz.isAgg218
 z175 := Tryz.sizeOf218
 v175 := Tryz.zeroValue218
 t210 := Tryz.underlying221
 a210 := Tryz.isAgg221
 z210 := Tryz.sizeOf221
 v210 := Tryz.zeroValue221
 t212 := Tryz.underlying214
 a212 := Tryz.isAgg214
 z212 := Tryz.sizeOf214
 v212 := Tryz.zeroValue214
 t213 := Tryz.underlying215
 a213 := Tryz.isAgg215
 z213 := Tryz.sizeOf215
 t232 := Tryz.underlying237
 a232 := Tryz.isAgg237
 z232 := Tryz.sizeOf237
 v232 := Tryz.zeroValue237
 t233 := Tryz.underlying238
 a233 := Tryz.isAgg238
 z233 := Tryz.sizeOf238
 v233 := Tryz.zeroValue238
 g15 := by kernel_rfl
 g16 := by kernel_rfl
 g17 := by kernel_rfl
 g18 := by kernel_rfl
 g19 := by kernel_rfl }
open Go.RowKit in
theorem strconv_Atoi (s : ByteArray) (n : Int) (hl : s.size ≤ 18) (h : Lib.atoi s.data.toList = some n) (w : World) :
  Calls Tryz.prog 102 #[.string s] w fun e w' => e = .returned (.tuple #[.int .i64 n, .nilIface]) ∧ ∃ t, w' = Lib.bytesWorld w 5 t := Any.strconv_Atoi lays172 s n hl h w
def laysM171_ren : Go.Shelf.Ren := ⟨fun | 171 => 62 | 243 => 90 | 246 => 112 | 283 => 142 | 284 => 143 | 285 => 144 | 286 => 145 | 129 => 233 | 317 => 232 | 318 => 234 | 319 => 235 | 320 => 236 | 337 => 248 | 338 => 249 | n => n, fun | 3 => 3 | 9 => 9 | 2 => 2 | 4 => 4 | 171 => 166 | 0 => 0 | 53 => 167 | 37 => 58 | 5 => 5 | 173 => 170 | 212 => 214 | 51 => 176 | 20 => 20 | 213 => 215 | 46 => 146 | 232 => 237 | 233 => 238 | n => n, fun | 17 => 3 | 18 => 6 | 19 => 7 | n => n⟩
theorem laysM171 : Go.Proofs.LaysM.n171 Tryz.prog laysM171_ren := {
 mixed := by kernel_rfl
 f129 := Tryz.func233.trans (congrArg some (by kernel_rfl))
 f171 := Tryz.func62.trans (congrArg some (by kernel_rfl))
 f243 := Tryz.func90.trans (congrArg some (by kernel_rfl))
 f246 := Tryz.func112.trans (congrArg some (by kernel_rfl))
 f283 := Tryz.func142.trans (congrArg some (by kernel_rfl))
 f284 := Tryz.func143.trans (congrArg some (by kernel_rfl))
 f285 := Tryz.func144.trans (congrArg some (by kernel_rfl))
 f286 := Tryz.func145.trans (congrArg some (by kernel_rfl))
 f317 := Tryz.func232.trans (congrArg some (by kernel_rfl))
 f318 := Tryz.func234.trans (congrArg some (by kernel_rfl))
 f319 := Tryz.func235.trans (congrArg some (by kernel_rfl))
 f320 := Tryz.func236.trans (congrArg some (by kernel_rfl))
 f337 := Tryz.func248.trans (congrArg some (by kernel_rfl))
 f338 := Tryz.func249.trans (congrArg some (by kernel_rfl))
 t0 := Tryz.underlying0
 a0 := Tryz.isAgg0
 z0 := Tryz.sizeOf0
 v0 := Tryz.zeroValue0
 t2 := Tryz.underlying2
 a2 := Tryz.isAgg2
 z2 := Tryz.sizeOf2
 v2 := Tryz.zeroValue2
 t3 := Tryz.underlying3
 a3 := Tryz.isAgg3
 z3 := Tryz.sizeOf3
 v3 := Tryz.zeroValue3
 t4 := Tryz.underlying4
 a4 := Tryz.isAgg4
 z4 := Tryz.sizeOf4
 v4 := Tryz.zeroValue4
 t5 := Tryz.underlying5
 a5 := Tryz.isAgg5
 z5 := Tryz.sizeOf5
 v5 := Tryz.zeroValue5
 t9 := Tryz.underlying9
 a9 := Tryz.isAgg9
 z9 := Tryz.sizeOf9
 v9 := Tryz.zeroValue9
 t20 := Tryz.underlying20
 a20 := Tryz.isAgg20
 z20 := Tryz.sizeOf20
 v20 := Tryz.zeroValue20
 t37 := Tryz.underlying58
 a37 := Tryz.isAgg58
 z37 := Tryz.sizeOf58
 v37 := Tryz.zeroValue58
 t46 := Tryz.underlying146
 a46 := Tryz.isAgg146
 z46 := Tryz.sizeOf146
 v46 := Tryz.zeroValue146
 t51 := Tryz.underlying176
 a51 := Tryz.isAgg176
 z51 := Tryz.sizeOf176
 v51 := Tryz.zeroValue176
 t53 := Tryz.underlying167
 a53 := Tryz.isAgg167
 z53 := Tryz.sizeOf167
 v53 := Tryz.zeroValue167
 t171 := Tryz.underlying166
 a171 := Tryz.isAgg166
 z171 := Tryz.sizeOf166
 v171 := Tryz.zeroValue166
 t173 := Tryz.underlying170
 a173 := Tryz.isAgg170
 z173 := Tryz.sizeOf170
 v173 := Tryz.zeroValue170
 t212 := Tryz.underlying214
 a212 := Tryz.isAgg214
 z212 := Tryz.sizeOf214
 v212 := Tryz.zeroValue214
 t213 := Tryz.underlying215
 a213 := Tryz.isAgg215
 z213 := Tryz.sizeOf215
 t232 := Tryz.underlying237
 a232 := Tryz.isAgg237
 z232 := Tryz.sizeOf237
 v232 := Tryz.zeroValue237
 t233 := Tryz.underlying238
 a233 := Tryz.isAgg238
 z233 := Tryz.sizeOf238
 v233 := Tryz.zeroValue238
 g17 := by kernel_rfl
 g18 := by kernel_rfl
 g19 := by kernel_rfl
 i0 := by kernel_rfl
 i2 := by kernel_rfl
 i3 := by kernel_rfl
 i4 := by kernel_rfl
 i5 := by kernel_rfl
 i9 := by kernel_rfl
 i20 := by kernel_rfl
 i37 := by kernel_rfl
 i46 := by kernel_rfl
 i51 := by kernel_rfl
 i53 := by kernel_rfl
 i171 := by kernel_rfl
 i173 := by kernel_rfl
 i212 := by kernel_rfl
 i232 := by kernel_rfl
 i233 := by kernel_rfl
 m17 := by kernel_rfl
 m18 := by kernel_rfl
 m19 := by kernel_rfl }
open Go.RowKit Go.Sort Go.Lib in
theorem strconv_Itoa (n : Int) (h0 : -9223372036854775808 ≤ n) (h1 : n ≤ 9223372036854775807) (w : World) (htab : Lib.TabIs Tryz.prog w "internal/strconv.uint64pow10" .u64 Lib.pow10Tab) :
  Calls Tryz.prog 62 #[.int .i64 n] w fun e w' => e = .returned (.string ⟨(Lib.itoa n).toArray⟩) ∧ ∃ k os, w' = grow (w.drewN k) os := Any.strconv_Itoa laysM171 n h0 h1 w htab
def laysM316_ren : Go.Shelf.Ren := ⟨fun | 316 => 70 | n => n, fun | 9 => 9 | 3 => 3 | 4 => 4 | 37 => 58 | 0 => 0 | 127 => 96 | 5 => 5 | n => n, fun | n => n⟩
theorem laysM316 : Go.Proofs.LaysM.n316 Tryz.prog laysM316_ren := {
 mixed := by kernel_rfl
 f316 := Tryz.func70.trans (congrArg some (by kernel_rfl))
 t0 := Tryz.underlying0
 a0 := Tryz.isAgg0
 z0 := Tryz.sizeOf0
 v0 := Tryz.zeroValue0
 t3 := Tryz.underlying3
 a3 := Tryz.isAgg3
 z3 := Tryz.sizeOf3
 v3 := Tryz.zeroValue3
 t4 := Tryz.underlying4
 a4 := Tryz.isAgg4
 z4 := Tryz.sizeOf4
 v4 := Tryz.zeroValue4
 t9 := Tryz.underlying9
 a9 := Tryz.isAgg9
 z9 := Tryz.sizeOf9
 v9 := Tryz.zeroValue9
 t37 := Tryz.underlying58
 a37 := Tryz.isAgg58
 z37 := Tryz.sizeOf58
 v37 := Tryz.zeroValue58
 t127 := Tryz.underlying96
 a127 := Tryz.isAgg96
 z127 := Tryz.sizeOf96
 v127 := Tryz.zeroValue96
 t5 := Tryz.underlying5
 a5 := Tryz.isAgg5
 z5 := Tryz.sizeOf5
 v5 := Tryz.zeroValue5
 i0 := by kernel_rfl
 i3 := by kernel_rfl
 i4 := by kernel_rfl
 i5 := by kernel_rfl
 i9 := by kernel_rfl
 i37 := by kernel_rfl
 i127 := by kernel_rfl }
open Go.RowKit in
theorem stringslite_Clone (s : ByteArray) (w : World) (hlim : s.size ≤ 281474976710656) :
  Calls Tryz.prog 70 #[.string s] w fun e w' => e = .returned (.string s) ∧ Below w.heap.size w w' := Any.stringslite_Clone laysM316 s w hlim
def lays101_ren : Go.Shelf.Ren := ⟨fun | 101 => 101 | 208 => 128 | 206 => 153 | n => n, fun | 9 => 9 | 4 => 4 | 3 => 3 | n => n, fun | n => n⟩
theorem lays101 : Go.Proofs.Lays.n101 Tryz.prog lays101_ren := {
 mixed := by kernel_rfl
 f101 := Tryz.func101.trans (congrArg some (by kernel_rfl))
 f206 := Tryz.func153.trans (congrArg some (by kernel_rfl))
 f208 := Tryz.func128.trans (congrArg some (by kernel_rfl))
 t3 := Tryz.underlying3
 a3 := Tryz.isAgg3
 z3 := Tryz.sizeOf3
 v3 := Tryz.zeroValue3
 t4 := Tryz.underlying4
 a4 := Tryz.isAgg4
 z4 := Tryz.sizeOf4
 v4 := Tryz.zeroValue4
 t9 := Tryz.underlying9
 a9 := Tryz.isAgg9
 z9 := Tryz.sizeOf9
 v9 := Tryz.zeroValue9 }
open Go.RowKit Go.Lib in
theorem strings_TrimPrefix (s p : ByteArray) (w : World) :
  Calls Tryz.prog 101 #[.string s, .string p] w fun e w' => e = .returned (.string ⟨(Lib.trimPrefix s.data.toList p.data.toList).toArray⟩) ∧ w' = w := Any.strings_TrimPrefix lays101 s p w
def lays146_ren : Go.Shelf.Ren := ⟨fun | 146 => 20 | 221 => 38 | 268 => 67 | 138 => 68 | 143 => 69 | 195 => 93 | 197 => 94 | 218 => 95 | 219 => 96 | 260 => 114 | 217 => 115 | 225 => 116 | 224 => 117 | 267 => 118 | 266 => 146 | 314 => 147 | n => n, fun | 9 => 9 | 31 => 34 | 3 => 3 | 4 => 4 | 0 => 0 | 105 => 113 | 21 => 21 | 5 => 5 | 46 => 146 | 119 => 172 | 139 => 175 | 138 => 174 | 146 => 177 | 51 => 176 | n => n, fun | 1 => 0 | 3 => 1 | 4 => 2 | n => n⟩
theorem lays146 : Go.Proofs.Lays.n146 Tryz.prog lays146_ren := {
 mixed := by kernel_rfl
 f138 := Tryz.func68.trans (congrArg some (by kernel_rfl))
 f143 := Tryz.func69.trans (congrArg some (by kernel_rfl))
 f146 := Tryz.func20.trans (congrArg some (by kernel_rfl))
 f195 := Tryz.func93.trans (congrArg some (by kernel_rfl))
 f197 := Tryz.func94.trans (congrArg some (by kernel_rfl))
 f217 := Tryz.func115.trans (congrArg some (by kernel_rfl))
 f218 := Tryz.func95.trans (congrArg some (by kernel_rfl))
 f219 := Tryz.func96.trans (congrArg some (by kernel_rfl))
 f221 := Tryz.func38.trans (congrArg some (by kernel_rfl))
 f224 := Tryz.func117.trans (congrArg some (by kernel_rfl))
 f225 := Tryz.func116.trans (congrArg some (by kernel_rfl))
 f260 := Tryz.func114.trans (congrArg some (by kernel_rfl))
 f266 := Tryz.func146.trans (congrArg some (by kernel_rfl))
 f267 := Tryz.func118.trans (congrArg some (by kernel_rfl))
 f268 := Tryz.func67.trans (congrArg some (by kernel_rfl))
 f314 := Tryz.func147.trans (congrArg some (by kernel_rfl))
 t0 := Tryz.underlying0
 a0 := Tryz.isAgg0
 z0 := Tryz.sizeOf0
 v0 := Tryz.zeroValue0
 t3 := Tryz.underlying3
 a3 := Tryz.isAgg3
 z3 := Tryz.sizeOf3
 v3 := Tryz.zeroValue3
 t4 := Tryz.underlying4
 a4 := Tryz.isAgg4
 z4 := Tryz.sizeOf4
 v4 := Tryz.zeroValue4
 t5 := Tryz.underlying5
 a5 := Tryz.isAgg5
 z5 := Tryz.sizeOf5
 v5 := Tryz.zeroValue5
 t9 := Tryz.underlying9
 a9 := Tryz.isAgg9
 z9 := Tryz.sizeOf9
 v9 := Tryz.zeroValue9
 t21 := Tryz.underlying21
 a21 := Tryz.isAgg21
 z21 := Tryz.sizeOf21
 v21 := Tryz.zeroValue21
 t31 := Tryz.underlying34
 a31 := Tryz.isAgg34
 z31 := Tryz.sizeOf34
 v31 := Tryz.zeroValue34
 t46 := Tryz.underlying146
 a46 := Tryz.isAgg146
 z46 := Tryz.sizeOf146
 v46 := Tryz.zeroValue146
 t51 := Tryz.underlying176
 a51 := Tryz.isAgg176
 z51 := Tryz.sizeOf176
 v51 := Tryz.zeroValue176
 t105 := Tryz.underlying113
 a105 := Tryz.isAgg113
 z105 := Tryz.sizeOf113
 v105 := Tryz.zeroValue113
 t119 := Tryz.underlying172
 a119 := Tryz.isAgg172
 z119 := Tryz.sizeOf172
 t138 := Tryz.underlying174
 a138 := Tryz.isAgg174
 z138 := Tryz.sizeOf174
 v138 := Tryz.zeroValue174
 t139 := Tryz.underlying175
 a139 := Tryz.isAgg175
 z139 := Tryz.sizeOf175
 v139 := Tryz.zeroValue175
 t146 := Tryz.underlying177
 a146 := Tryz.isAgg177
 z146 := Tryz.sizeOf177
 v146 := Tryz.zeroValue177
 g1 := by kernel_rfl
 g3 := by kernel_rfl
 g4 := by kernel_rfl }
open Go.RowKit Go.Lib in
theorem strings_Split (s sep : ByteArray) (m : Int) (w : World) (hs : s.size < 4294967281) (hm : w.cell? ⟨0, 0, none⟩ = some (.int .i64 m)) (h1 : 1 ≤ sep.size) :
  Calls Tryz.prog 20 #[.string s, .string sep] w fun e w' =>
   e = .returned (.slice (some ⟨w.heap.size, 0, none⟩) (Lib.countB s sep + 1) (Lib.countB s sep + 1)) ∧ w' = w.alloc (.cells ((Lib.splitB sep 0 (Lib.countB s sep) s).map Value.string).toArray 9) := Any.strings_Split lays146 (by kernel_rfl) s sep m w hs hm h1
def laysM146_ren : Go.Shelf.Ren := ⟨fun | 146 => 20 | 221 => 38 | 268 => 67 | 138 => 68 | 143 => 69 | 195 => 93 | 197 => 94 | 218 => 95 | 219 => 96 | 260 => 114 | 217 => 115 | 225 => 116 | 224 => 117 | 267 => 118 | 266 => 146 | 314 => 147 | n => n, fun | 9 => 9 | 31 => 34 | 3 => 3 | 4 => 4 | 0 => 0 | 105 => 113 | 21 => 21 | 5 => 5 | 46 => 146 | 119 => 172 | 139 => 175 | 138 => 174 | 146 => 177 | 51 => 176 | n => n, fun | 1 => 0 | 3 => 1 | 4 => 2 | n => n⟩
theorem laysM146 : Go.Proofs.LaysM.n146 Tryz.prog laysM146_ren := {
 mixed := by kernel_rfl
 f138 := Tryz.func68.trans (congrArg some (by kernel_rfl))
 f143 := Tryz.func69.trans (congrArg some (by kernel_rfl))
 f146 := Tryz.func20.trans (congrArg some (by kernel_rfl))
 f195 := Tryz.func93.trans (congrArg some (by kernel_rfl))
 f197 := Tryz.func94.trans (congrArg some (by kernel_rfl))
 f217 := Tryz.func115.trans (congrArg some (by kernel_rfl))
 f218 := Tryz.func95.trans (congrArg some (by kernel_rfl))
 f219 := Tryz.func96.trans (congrArg some (by kernel_rfl))
 f221 := Tryz.func38.trans (congrArg some (by kernel_rfl))
 f224 := Tryz.func117.trans (congrArg some (by kernel_rfl))
 f225 := Tryz.func116.trans (congrArg some (by kernel_rfl))
 f260 := Tryz.func114.trans (congrArg some (by kernel_rfl))
 f266 := Tryz.func146.trans (congrArg some (by kernel_rfl))
 f267 := Tryz.func118.trans (congrArg some (by kernel_rfl))
 f268 := Tryz.func67.trans (congrArg some (by kernel_rfl))
 f314 := Tryz.func147.trans (congrArg some (by kernel_rfl))
 t0 := Tryz.underlying0
 a0 := Tryz.isAgg0
 z0 := Tryz.sizeOf0
 v0 := Tryz.zeroValue0
 t3 := Tryz.underlying3
 a3 := Tryz.isAgg3
 z3 := Tryz.sizeOf3
 v3 := Tryz.zeroValue3
 t4 := Tryz.underlying4
 a4 := Tryz.isAgg4
 z4 := Tryz.sizeOf4
 v4 := Tryz.zeroValue4
 t5 := Tryz.underlying5
 a5 := Tryz.isAgg5
 z5 := Tryz.sizeOf5
 v5 := Tryz.zeroValue5
 t9 := Tryz.underlying9
 a9 := Tryz.isAgg9
 z9 := Tryz.sizeOf9
 v9 := Tryz.zeroValue9
 t21 := Tryz.underlying21
 a21 := Tryz.isAgg21
 z21 := Tryz.sizeOf21
 v21 := Tryz.zeroValue21
 t31 := Tryz.underlying34
 a31 := Tryz.isAgg34
 z31 := Tryz.sizeOf34
 v31 := Tryz.zeroValue34
 t46 := Tryz.underlying146
 a46 := Tryz.isAgg146
 z46 := Tryz.sizeOf146
 v46 := Tryz.zeroValue146
 t51 := Tryz.underlying176
 a51 := Tryz.isAgg176
 z51 := Tryz.sizeOf176
 v51 := Tryz.zeroValue176
 t105 := Tryz.underlying113
 a105 := Tryz.isAgg113
 z105 := Tryz.sizeOf113
 v105 := Tryz.zeroValue113
 t119 := Tryz.underlying172
 a119 := Tryz.isAgg172
 z119 := Tryz.sizeOf172
 t138 := Tryz.underlying174
 a138 := Tryz.isAgg174
 z138 := Tryz.sizeOf174
 v138 := Tryz.zeroValue174
 t139 := Tryz.underlying175
 a139 := Tryz.isAgg175
 z139 := Tryz.sizeOf175
 v139 := Tryz.zeroValue175
 t146 := Tryz.underlying177
 a146 := Tryz.isAgg177
 z146 := Tryz.sizeOf177
 v146 := Tryz.zeroValue177
 g1 := by kernel_rfl
 g3 := by kernel_rfl
 g4 := by kernel_rfl
 i0 := by kernel_rfl
 i3 := by kernel_rfl
 i4 := by kernel_rfl
 i5 := by kernel_rfl
 i9 := by kernel_rfl
 i21 := by kernel_rfl
 i31 := by kernel_rfl
 i46 := by kernel_rfl
 i51 := by kernel_rfl
 i105 := by kernel_rfl
 i138 := by kernel_rfl
 i139 := by kernel_rfl
 i146 := by kernel_rfl
 m1 := by kernel_rfl
 s1_3 := fun w h => Go.Proofs.cell_of_shapedOpen_int (zero := #[.int .i64 0]) (t := 3) h (of_decide_eq_true (by kernel_rfl)) (by kernel_rfl) rfl (by kernel_rfl) (by kernel_rfl) Tryz.underlying3
 m3 := by kernel_rfl
 m4 := by kernel_rfl }
open Go.RowKit Go.Lib in
theorem strings_Split_shaped (s sep : ByteArray) (w : World) (h : w.ShapedOpen Tryz.prog) (hs : s.size < 4294967281) (h1 : 1 ≤ sep.size) :
  Calls Tryz.prog 20 #[.string s, .string sep] w fun e w' =>
   e = .returned (.slice (some ⟨w.heap.size, 0, none⟩) (Lib.countB s sep + 1) (Lib.countB s sep + 1)) ∧ w' = w.alloc (.cells ((Lib.splitB sep 0 (Lib.countB s sep) s).map Value.string).toArray 9) := Any.strings_Split_shaped laysM146 s sep w h hs h1
def lays151_ren : Go.Shelf.Ren := ⟨fun | 151 => 100 | 152 => 127 | 137 => 151 | 119 => 152 | 224 => 117 | 225 => 116 | 217 => 115 | 266 => 146 | n => n, fun | 9 => 9 | 21 => 21 | 4 => 4 | 3 => 3 | 5 => 5 | 0 => 0 | 46 => 146 | n => n, fun | n => n⟩
theorem lays151 : Go.Proofs.Lays.n151 Tryz.prog lays151_ren := {
 mixed := by kernel_rfl
 f119 := Tryz.func152.trans (congrArg some (by kernel_rfl))
 f137 := Tryz.func151.trans (congrArg some (by kernel_rfl))
 f151 := Tryz.func100.trans (congrArg some (by kernel_rfl))
 f152 := Tryz.func127.trans (congrArg some (by kernel_rfl))
 f217 := Tryz.func115.trans (congrArg some (by kernel_rfl))
 f224 := Tryz.func117.trans (congrArg some (by kernel_rfl))
 f225 := Tryz.func116.trans (congrArg some (by kernel_rfl))
 f266 := Tryz.func146.trans (congrArg some (by kernel_rfl))
 t0 := Tryz.underlying0
 a0 := Tryz.isAgg0
 z0 := Tryz.sizeOf0
 v0 := Tryz.zeroValue0
 t3 := Tryz.underlying3
 a3 := Tryz.isAgg3
 z3 := Tryz.sizeOf3
 v3 := Tryz.zeroValue3
 t4 := Tryz.underlying4
 a4 := Tryz.isAgg4
 z4 := Tryz.sizeOf4
 v4 := Tryz.zeroValue4
 t5 := Tryz.underlying5
 a5 := Tryz.isAgg5
 z5 := Tryz.sizeOf5
 v5 := Tryz.zeroValue5
 t9 := Tryz.underlying9
 a9 := Tryz.isAgg9
 z9 := Tryz.sizeOf9
 v9 := Tryz.zeroValue9
 t21 := Tryz.underlying21
 a21 := Tryz.isAgg21
 z21 := Tryz.sizeOf21
 v21 := Tryz.zeroValue21
 t46 := Tryz.underlying146
 a46 := Tryz.isAgg146
 z46 := Tryz.sizeOf146
 v46 := Tryz.zeroValue146 }
open Go.RowKit Go.Lib in
theorem strings_ContainsRune_ascii (s : ByteArray) (r : Int) (w : World) (h0 : 0 ≤ r) (h1 : r < 128) :
  Calls Tryz.prog 100 #[.string s, .int .i32 r] w fun e w' => e = .returned (.bool (decide (0 ≤ Lib.indexByte s.data.toList r.toNat.toUInt8))) ∧ w' = w := Any.strings_ContainsRune_ascii lays151 s r w h0 h1
def lays107_ren : Go.Shelf.Ren := ⟨fun | 107 => 74 | 108 => 103 | n => n, fun | 28 => 35 | 3 => 3 | 4 => 4 | 0 => 0 | n => n, fun | n => n⟩
theorem lays107 : Go.Proofs.Lays.n107 Tryz.prog lays107_ren := {
 mixed := by kernel_rfl
 f107 := Tryz.func74.trans (congrArg some (by kernel_rfl))
 f108 := Tryz.func103.trans (congrArg some (by kernel_rfl))
 t0 := Tryz.underlying0
 a0 := Tryz.isAgg0
 z0 := Tryz.sizeOf0
 v0 := Tryz.zeroValue0
 t3 := Tryz.underlying3
 a3 := Tryz.isAgg3
 z3 := Tryz.sizeOf3
 v3 := Tryz.zeroValue3
 t4 := Tryz.underlying4
 a4 := Tryz.isAgg4
 z4 := Tryz.sizeOf4
 v4 := Tryz.zeroValue4
 t28 := Tryz.underlying35
 a28 := Tryz.isAgg35
 z28 := Tryz.sizeOf35
 v28 := Tryz.zeroValue35 }
open Go.Lib in
theorem slices_Contains_int (b off n c : Nat) (zs : List Int) (x : Int) (w : World) (hz : n ≤ zs.length) (hbig : n ≤ 9223372036854775807) (hc : ∀ j, j < zs.length → w.cell? ⟨b, off + j, none⟩ = some (.int .i64 (zs.getD j 0))) :
  Calls Tryz.prog 74 #[.slice (some ⟨b, off, none⟩) n c, .int .i64 x] w fun e w' => e = .returned (.bool ((zs.take n).contains x)) ∧ w' = w := Any.slices_Contains_int lays107 b off n c zs x w hz hbig hc
def lays109_ren : Go.Shelf.Ren := ⟨fun | 109 => 48 | n => n, fun | 31 => 34 | 9 => 9 | 3 => 3 | 0 => 0 | 4 => 4 | n => n, fun | n => n⟩
theorem lays109 : Go.Proofs.Lays.n109 Tryz.prog lays109_ren := {
 mixed := by kernel_rfl
 f109 := Tryz.func48.trans (congrArg some (by kernel_rfl))
 t0 := Tryz.underlying0
 a0 := Tryz.isAgg0
 z0 := Tryz.sizeOf0
 v0 := Tryz.zeroValue0
 t3 := Tryz.underlying3
 a3 := Tryz.isAgg3
 z3 := Tryz.sizeOf3
 v3 := Tryz.zeroValue3
 t4 := Tryz.underlying4
 a4 := Tryz.isAgg4
 z4 := Tryz.sizeOf4
 v4 := Tryz.zeroValue4
 t9 := Tryz.underlying9
 a9 := Tryz.isAgg9
 z9 := Tryz.sizeOf9
 v9 := Tryz.zeroValue9
 t31 := Tryz.underlying34
 a31 := Tryz.isAgg34
 z31 := Tryz.sizeOf34
 v31 := Tryz.zeroValue34 }
open Go.Lib in
theorem slices_Index_string (b off n c : Nat) (zs : List ByteArray) (x : ByteArray) (w : World) (hz : n ≤ zs.length) (hbig : n ≤ 9223372036854775807) (hc : ∀ j, j < zs.length → w.cell? ⟨b, off + j, none⟩ = some (.string (zs.getD j ByteArray.empty))) :
  Calls Tryz.prog 48 #[.slice (some ⟨b, off, none⟩) n c, .string x] w fun e w' => e = .returned (.int .i64 (Lib.idxOfS (zs.take n) x)) ∧ w' = w := Any.slices_Index_string lays109 b off n c zs x w hz hbig hc
open Go.Lib in
theorem slices_Index_string_empty (a : Option Addr) (c : Nat) (x : ByteArray) (w : World) :
  Calls Tryz.prog 48 #[.slice a 0 c, .string x] w fun e w' => e = .returned (.int .i64 (Lib.idxOfS [] x)) ∧ w' = w := Any.slices_Index_string_empty lays109 a c x w
def lays110_ren : Go.Shelf.Ren := ⟨fun | 110 => 37 | 109 => 48 | n => n, fun | 31 => 34 | 9 => 9 | 4 => 4 | 3 => 3 | 0 => 0 | n => n, fun | n => n⟩
theorem lays110 : Go.Proofs.Lays.n110 Tryz.prog lays110_ren := {
 mixed := by kernel_rfl
 f109 := Tryz.func48.trans (congrArg some (by kernel_rfl))
 f110 := Tryz.func37.trans (congrArg some (by kernel_rfl))
 t0 := Tryz.underlying0
 a0 := Tryz.isAgg0
 z0 := Tryz.sizeOf0
 v0 := Tryz.zeroValue0
 t3 := Tryz.underlying3
 a3 := Tryz.isAgg3
 z3 := Tryz.sizeOf3
 v3 := Tryz.zeroValue3
 t4 := Tryz.underlying4
 a4 := Tryz.isAgg4
 z4 := Tryz.sizeOf4
 v4 := Tryz.zeroValue4
 t9 := Tryz.underlying9
 a9 := Tryz.isAgg9
 z9 := Tryz.sizeOf9
 v9 := Tryz.zeroValue9
 t31 := Tryz.underlying34
 a31 := Tryz.isAgg34
 z31 := Tryz.sizeOf34
 v31 := Tryz.zeroValue34 }
open Go.Lib in
theorem slices_Contains_string (b off n c : Nat) (zs : List ByteArray) (x : ByteArray) (w : World) (hz : n ≤ zs.length) (hbig : n ≤ 9223372036854775807) (hc : ∀ j, j < zs.length → w.cell? ⟨b, off + j, none⟩ = some (.string (zs.getD j ByteArray.empty))) :
  Calls Tryz.prog 37 #[.slice (some ⟨b, off, none⟩) n c, .string x] w fun e w' => e = .returned (.bool (Lib.containsS (zs.take n) x)) ∧ w' = w := Any.slices_Contains_string lays110 b off n c zs x w hz hbig hc
open Go.Lib in
theorem slices_Contains_string_empty (a : Option Addr) (c : Nat) (x : ByteArray) (w : World) :
  Calls Tryz.prog 37 #[.slice a 0 c, .string x] w fun e w' => e = .returned (.bool false) ∧ w' = w := Any.slices_Contains_string_empty lays110 a c x w
def lays111_ren : Go.Shelf.Ren := ⟨fun | 111 => 64 | n => n, fun | 28 => 35 | 3 => 3 | 4 => 4 | 0 => 0 | n => n, fun | n => n⟩
theorem lays111 : Go.Proofs.Lays.n111 Tryz.prog lays111_ren := {
 mixed := by kernel_rfl
 f111 := Tryz.func64.trans (congrArg some (by kernel_rfl))
 t0 := Tryz.underlying0
 a0 := Tryz.isAgg0
 z0 := Tryz.sizeOf0
 v0 := Tryz.zeroValue0
 t3 := Tryz.underlying3
 a3 := Tryz.isAgg3
 z3 := Tryz.sizeOf3
 v3 := Tryz.zeroValue3
 t4 := Tryz.underlying4
 a4 := Tryz.isAgg4
 z4 := Tryz.sizeOf4
 v4 := Tryz.zeroValue4
 t28 := Tryz.underlying35
 a28 := Tryz.isAgg35
 z28 := Tryz.sizeOf35
 v28 := Tryz.zeroValue35 }
open Go.RowKit Go.Lib in
theorem slices_Equal_int (b1 o1 n c b2 o2 m d : Nat) (xs ys : List Int) (w : World) (hx : n ≤ xs.length) (hy : m ≤ ys.length) (hbig : n ≤ 9223372036854775807) (hbig2 : m ≤ 9223372036854775807) (hc1 : ∀ j, j < xs.length → w.cell? ⟨b1, o1 + j, none⟩ = some (.int .i64 (xs.getD j 0))) (hc2 : ∀ j, j < ys.length → w.cell? ⟨b2, o2 + j, none⟩ = some (.int .i64 (ys.getD j 0))) :
  Calls Tryz.prog 64 #[.slice (some ⟨b1, o1, none⟩) n c, .slice (some ⟨b2, o2, none⟩) m d] w fun e w' => e = .returned (.bool (xs.take n == ys.take m)) ∧ ∃ q, w' = w.drewN q := Any.slices_Equal_int lays111 b1 o1 n c b2 o2 m d xs ys w hx hy hbig hbig2 hc1 hc2
open Go.RowKit Go.Lib in
theorem slices_Equal_int_empty (a1 a2 : Option Addr) (c m d : Nat) (w : World) (hbig2 : m ≤ 9223372036854775807) :
  Calls Tryz.prog 64 #[.slice a1 0 c, .slice a2 m d] w fun e w' => e = .returned (.bool (decide (m = 0))) ∧ w' = w := Any.slices_Equal_int_empty lays111 a1 a2 c m d w hbig2
def lays193_ren : Go.Shelf.Ren := ⟨fun | 193 => 63 | n => n, fun | 31 => 34 | 9 => 9 | 4 => 4 | 3 => 3 | 0 => 0 | n => n, fun | n => n⟩
theorem lays193 : Go.Proofs.Lays.n193 Tryz.prog lays193_ren := {
 mixed := by kernel_rfl
 f193 := Tryz.func63.trans (congrArg some (by kernel_rfl))
 t0 := Tryz.underlying0
 a0 := Tryz.isAgg0
 z0 := Tryz.sizeOf0
 v0 := Tryz.zeroValue0
 t3 := Tryz.underlying3
 a3 := Tryz.isAgg3
 z3 := Tryz.sizeOf3
 v3 := Tryz.zeroValue3
 t4 := Tryz.underlying4
 a4 := Tryz.isAgg4
 z4 := Tryz.sizeOf4
 v4 := Tryz.zeroValue4
 t9 := Tryz.underlying9
 a9 := Tryz.isAgg9
 z9 := Tryz.sizeOf9
 v9 := Tryz.zeroValue9
 t31 := Tryz.underlying34
 a31 := Tryz.isAgg34
 z31 := Tryz.sizeOf34
 v31 := Tryz.zeroValue34 }
open Go.RowKit Go.Lib in
theorem slices_Equal_string (b1 o1 n c b2 o2 m d : Nat) (xs ys : List ByteArray) (w : World) (hx : n ≤ xs.length) (hy : m ≤ ys.length) (hbig : n ≤ 9223372036854775807) (hbig2 : m ≤ 9223372036854775807) (hc1 : ∀ j, j < xs.length → w.cell? ⟨b1, o1 + j, none⟩ = some (.string (xs.getD j ByteArray.empty))) (hc2 : ∀ j, j < ys.length → w.cell? ⟨b2, o2 + j, none⟩ = some (.string (ys.getD j ByteArray.empty))) :
  Calls Tryz.prog 63 #[.slice (some ⟨b1, o1, none⟩) n c, .slice (some ⟨b2, o2, none⟩) m d] w fun e w' => e = .returned (.bool (decide (xs.take n = ys.take m))) ∧ ∃ q, w' = w.drewN q := Any.slices_Equal_string lays193 b1 o1 n c b2 o2 m d xs ys w hx hy hbig hbig2 hc1 hc2
open Go.RowKit Go.Lib in
theorem slices_Equal_string_empty (a1 a2 : Option Addr) (c m d : Nat) (w : World) (hbig2 : m ≤ 9223372036854775807) :
  Calls Tryz.prog 63 #[.slice a1 0 c, .slice a2 m d] w fun e w' => e = .returned (.bool (decide (m = 0))) ∧ w' = w := Any.slices_Equal_string_empty lays193 a1 a2 c m d w hbig2
open Go.RowKit Go.Lib in
theorem slices_Equal_int_lens (a1 a2 : Option Addr) (n c m d : Nat) (w : World) (hnm : n ≠ m) :
  Calls Tryz.prog 64 #[.slice a1 n c, .slice a2 m d] w fun e w' => e = .returned (.bool false) ∧ w' = w := Any.slices_Equal_int_lens lays111 a1 a2 n c m d w hnm
open Go.RowKit Go.Lib in
theorem slices_Equal_string_lens (a1 a2 : Option Addr) (n c m d : Nat) (w : World) (hnm : n ≠ m) :
  Calls Tryz.prog 63 #[.slice a1 n c, .slice a2 m d] w fun e w' => e = .returned (.bool false) ∧ w' = w := Any.slices_Equal_string_lens lays193 a1 a2 n c m d w hnm
end Go.Proofs.YtoofgblmpjndjaaGreatDoor.Scs
set_option linter.unusedVariables false
set_option linter.unusedSimpArgs false
namespace Go.Proofs.YtoofgblmpjndjaaGreatDoor.Scr
open Go.RowKit K Go.Lib

def vb : Nat := max (max 0 1) (max 2 3) + 1
structure Vars (w : World) : Prop where
 len : vb ≤ w.heap.size
 most : ∃ m, w.cell? ⟨0, 0, none⟩ = some (.int .i64 m)
 utf : Lib.Utf8Tabs 1 2 w
 tab : Lib.TabIs Tryz.prog w "internal/strconv.uint64pow10" .u64 Lib.pow10Tab
theorem gPow : Tryz.prog.globalNamed "internal/strconv.uint64pow10" = some 3 := by kernel_rfl
theorem cell_same {w w' : World} {g : Nat} (h : w'.heap[g]? = w.heap[g]?) (i : Nat) : w'.cell? ⟨g, i, none⟩ = w.cell? ⟨g, i, none⟩ := by simp [World.cell?, h]
theorem Vars.kept {w w' : World} (h : Vars w) (hs : w.heap.size ≤ w'.heap.size) (hk : ∀ g, g < vb → w'.heap[g]? = w.heap[g]?) : Vars w' := by
 obtain ⟨h1, ⟨m, h2⟩, ⟨h3, h4⟩, h5⟩ := h
 refine ⟨Nat.le_trans h1 hs, ⟨m, (cell_same (hk 0 (by decide)) 0).trans h2⟩, ⟨fun c hc => (cell_same (hk 1 (by decide)) c).trans (h3 c hc), fun i hi => ⟨(cell_same (hk 2 (by decide)) _).trans (h4 i hi).1, (cell_same (hk 2 (by decide)) _).trans (h4 i hi).2⟩⟩, ?_⟩
 unfold Lib.TabIs World.var? at h5 ⊢
 rw [gPow] at h5 ⊢
 simp only [Option.bind_some] at h5 ⊢
 rw [hk 3 (by decide)]
 exact h5
theorem Vars.below {w w' : World} {B : Nat} (h : Vars w) (hb : Below B w w') (hB : w.heap.size ≤ B) : Vars w' := h.kept hb.size (fun g hg => hb.block g (by have := h.len; omega))
theorem Vars.belowv {w w' : World} {B : Nat} (h : Vars w) (hb : Below B w w') (hB : vb ≤ B) : Vars w' := h.kept hb.size (fun g hg => hb.block g (by omega))
theorem below_grow (w : World) (k : Nat) (os : Array Obj) : Below w.heap.size w (Sort.grow (w.drewN k) os) :=
 ⟨rfl, rfl, rfl, by simp [Sort.grow, World.drewN], fun i hi => by
  show (w.heap ++ os)[i]? = w.heap[i]?
  rw [Array.getElem?_append_left hi]⟩
theorem itoa_any (n : Int) (h0 : -9223372036854775808 ≤ n) (h1 : n ≤ 9223372036854775807) (w : World) (H : Vars w) :
  Calls Tryz.prog 62 #[.int .i64 n] w fun e w' => e = .returned (.string (ba (itoa n))) ∧ Below w.heap.size w w' :=
 (Scs.strconv_Itoa n h0 h1 w H.tab).mono fun e w' ⟨he, k, os, hw⟩ => ⟨he, hw ▸ below_grow w k os⟩
theorem rformats_new (w : World) : Calls Tryz.prog 58 #[] w fun e w' => e = .returned (.slice (some ⟨w.heap.size, 0, none⟩) 6 6) ∧ w' = w.alloc (.cells #[.string ⟨#[112, 110, 109]⟩, .string ⟨#[98, 109, 112]⟩, .string ⟨#[112, 110, 103]⟩, .string ⟨#[103, 105, 102]⟩, .string ⟨#[116, 105, 102, 102]⟩, .string ⟨#[106, 112, 101, 103]⟩] 9) := by
 go_enter Tryz.func58, Tryz.ntmps58
 go_wp2
 go_ret
 exact ⟨rfl, rfl⟩
end Go.Proofs.YtoofgblmpjndjaaGreatDoor.Scr
set_option linter.unusedVariables false
set_option linter.unusedSimpArgs false
set_option linter.unnecessarySimpa false
namespace Go.Proofs.YtoofgblmpjndjaaGreatDoor.Scr
open Go.RowKit K Go.Lib

def writeT : Tx := [119, 114, 105, 116, 101]
def optT (t : Tx) : Tx := if t = [] then [] else 32 :: t
def srcsT (l : List Tx) : Tx := l.flatMap (32 :: ·)
def headS (s : St) : Tx := s.op ++ (optT s.dst ++ (srcsT s.srcs ++ optT s.file))
def wordA (op : Tx) (k : Nat) (a : Int) : Tx := if op = writeT ∧ k = 0 then fmtsM.getD (a - 1).toNat [] else itoa a
def stopA (op : Tx) (k : Nat) (a : Int) : Prop := op = writeT ∧ k = 0 ∧ (a < 1 ∨ 6 < a)
instance (op : Tx) (k : Nat) (a : Int) : Decidable (stopA op k a) := by unfold stopA; infer_instance
def argsS (op : Tx) : Nat → List Int → Tx
 | _, [] => []
 | k, a :: r => if stopA op k a then [] else 32 :: wordA op k a ++ argsS op (k + 1) r
def spellT (s : St) : Tx := headS s ++ argsS s.op 0 s.args
def goA (op : Tx) : Nat → List Int → Prop
 | _, [] => True
 | k, a :: r => ¬ stopA op k a ∧ goA op (k + 1) r
theorem argsS_cons (op : Tx) (k : Nat) (a : Int) (r : List Int) : argsS op k (a :: r) = if stopA op k a then [] else 32 :: wordA op k a ++ argsS op (k + 1) r := rfl
theorem argsS_append {op : Tx} : ∀ {l r : List Int} {k : Nat}, goA op k l → argsS op k (l ++ r) = argsS op k l ++ argsS op (k + l.length) r
 | [], r, k, h => rfl
 | a :: l, r, k, h => by
  rw [List.cons_append, argsS_cons, argsS_cons, if_neg h.1, if_neg h.1, argsS_append h.2, List.length_cons, show k + (l.length + 1) = k + 1 + l.length by omega]
  simp
theorem goA_snoc {op : Tx} : ∀ {l : List Int} {a : Int} {k : Nat}, goA op k l → ¬ stopA op (k + l.length) a → goA op k (l ++ [a])
 | [], a, k, h, ha => ⟨ha, trivial⟩
 | b :: l, a, k, h, ha => ⟨h.1, goA_snoc h.2 (by rw [show k + 1 + l.length = k + (b :: l).length by simp; omega]; exact ha)⟩
theorem argsS_stop {op : Tx} {a : Int} {r : List Int} {k : Nat} (h : stopA op k a) : argsS op k (a :: r) = [] := by rw [argsS_cons, if_pos h]
theorem argsS_one {op : Tx} {a : Int} {k : Nat} (h : ¬ stopA op k a) : argsS op k [a] = 32 :: wordA op k a := by
 rw [argsS_cons, if_neg h]
 show _ ++ [] = _
 rw [List.append_nil]
theorem alloc_cell {w : World} {cs : List Value} {T : TypeId} {i : Nat} {v : Value} (h : cs[i]? = some v) : (w.alloc (.cells cs.toArray T)).cell? ⟨w.heap.size, i, none⟩ = some v := by
 obtain ⟨b, off, h1, h2⟩ := Ard.sl_new w cs T i v h
 injection h1 with h1
 injection h1 with h3 h4
 subst h3 h4
 rw [Nat.zero_add] at h2
 exact h2
theorem rformats_at (w : World) : Calls Tryz.prog 58 #[] w fun e w' => ∃ gf, e = .returned (.slice (some ⟨gf, 0, none⟩) 6 6) ∧ (∀ i, i < 6 → w'.cell? ⟨gf, i, none⟩ = some (.string (ba (fmtsM.getD i [])))) ∧ Below w.heap.size w w' :=
 (rformats_new w).mono fun e w' ⟨he, hw⟩ => ⟨_, he, fun i hi => by
  subst hw
  refine alloc_cell ?_
  match i, hi with
  | 0, _ => rfl
  | 1, _ => rfl
  | 2, _ => rfl
  | 3, _ => rfl
  | 4, _ => rfl
  | 5, _ => rfl, by subst hw; exact (Below.refl _ w).alloc (Nat.le_refl _) _⟩
theorem bel_dr {N : Nat} {w w' : World} (h : Below N w w') : Below N w w'.drew := h.drew
structure BoxS (w : World) (b : Nat) (op dst file : Tx) (A : Option Addr) (n c : Nat) (A2 : Option Addr) (m c2 : Nat) : Prop where
 lt : b < w.heap.size
 x1 : w.cell? ⟨b, 1, none⟩ = some (.string (ba op))
 x2 : w.cell? ⟨b, 2, none⟩ = some (.string (ba dst))
 x3 : w.cell? ⟨b, 3, none⟩ = some (.slice A n c)
 x4 : w.cell? ⟨b, 4, none⟩ = some (.string (ba file))
 x5 : w.cell? ⟨b, 5, none⟩ = some (.slice A2 m c2)
theorem BoxS.below {w w' : World} {b : Nat} {op dst file : Tx} {A A2 : Option Addr} {n c m c2 B : Nat} (h : BoxS w b op dst file A n c A2 m c2) (hb : Below B w w') (hB : b < B) : BoxS w' b op dst file A n c A2 m c2 :=
 have e := hb.block b hB
 ⟨Nat.lt_of_lt_of_le h.lt hb.size, (cell_same e _).trans h.x1, (cell_same e _).trans h.x2, (cell_same e _).trans h.x3, (cell_same e _).trans h.x4, (cell_same e _).trans h.x5⟩
theorem ba_app (s t : Tx) : ba (s ++ t) = ba s ++ ba t := by
 apply ByteArray.ext
 simp [ba, ByteArray.data_append]
theorem lit_beq2 {t u : Tx} : ((ba t).toList == u) = decide (t = u) := by rw [tl_ba]; by_cases h : t = u <;> simp [h]
theorem BoxS.new (w : World) (line : Value) (op dst file : Tx) (A : Option Addr) (n c : Nat) (A2 : Option Addr) (m c2 : Nat) :
  BoxS (w.alloc (.cells #[line, .string (ba op), .string (ba dst), .slice A n c, .string (ba file), .slice A2 m c2] 37)) w.heap.size op dst file A n c A2 m c2 :=
 
 have hc : ∀ {i v}, [line, .string (ba op), .string (ba dst), .slice A n c, .string (ba file), .slice A2 m c2][i]? = some v → _ := fun {i v} h => alloc_cell (w := w) (T := 37) h
 ⟨by simp, hc rfl, hc rfl, hc rfl, hc rfl, hc rfl⟩
theorem srcsT_snoc (l : List Tx) (t : Tx) : srcsT (l ++ [t]) = srcsT l ++ 32 :: t := by unfold srcsT; rw [List.flatMap_append]; simp
theorem srcsT_le (l : List Tx) (k : Nat) : (srcsT (l.take k)).length ≤ (srcsT l).length := by
 have h : srcsT l = srcsT (l.take k) ++ srcsT (l.drop k) := by unfold srcsT; rw [← List.flatMap_append, List.take_append_drop]
 rw [h, List.length_append]
 omega
theorem fmts_len (i : Nat) : (fmtsM.getD i []).length ≤ 4 := by
 match i with
 | 0 | 1 | 2 | 3 | 4 | 5 => decide
 | n + 6 => exact Nat.zero_le _
theorem wordA_len {op : Tx} {k : Nat} {a : Int} (h : -9223372036854775808 ≤ a ∧ a ≤ 9223372036854775807) : (wordA op k a).length ≤ 21 := by
 unfold wordA
 split
 ·exact Nat.le_trans (fmts_len _) (by omega)
 ·exact itoa_length_le _ h.1 h.2
end Go.Proofs.YtoofgblmpjndjaaGreatDoor.Scr
set_option linter.unusedVariables false
set_option linter.unusedSimpArgs false
namespace Go.Proofs.YtoofgblmpjndjaaGreatDoor.Scr
open Go.RowKit K Go.Lib

def bk : List PanicEntry := [{ v := .iface 78 (.agg #[]), recovered := false }]
theorem bodyPost_panic {P : Program} {fn : Func} {R : Ending → World → Prop} {ch : List PanicEntry} {tmps : Array Value} {w : World} (h : R (.panicked ch) w) : bodyPost P fn R (.panic ch) { tmps := tmps, defers := [] } w := ⟨rfl, h⟩
theorem must_yes (w : World) : Calls Tryz.prog 45 #[.bool true] w fun e w' => e = .returned (.tuple #[]) ∧ w = w' := by
 go_enter Tryz.func45, Tryz.ntmps45
 go_wp2
 go_end0
 exact ⟨rfl, rfl⟩
theorem must_no (w : World) : Calls Tryz.prog 45 #[.bool false] w fun e w' => e = .panicked bk ∧ w = w' := by
 go_enter Tryz.func45, Tryz.ntmps45
 go_wp2
 exact bodyPost_panic ⟨rfl, rfl⟩
theorem SS.all {w : World} {b o n : Nat} {l : List Tx} (h : SS w (some ⟨b, o, none⟩) n l) : ∀ j, j < (l.map ba).length → w.cell? ⟨b, o + j, none⟩ = some (.string ((l.map ba).getD j ByteArray.empty)) := by
 intro j hj
 rw [List.length_map] at hj
 obtain ⟨b', off', e, hc⟩ := h.sl j (vS l[j]) (by rw [List.getElem?_map, List.getElem?_eq_getElem hj]; rfl)
 injection e with e
 injection e with e1 e2
 subst e1 e2
 rw [hc, List.getD_eq_getElem?_getD, List.getElem?_map, List.getElem?_eq_getElem hj]
 rfl
theorem SI.all {w : World} {b o n : Nat} {l : List Int} (h : SI w .i64 (some ⟨b, o, none⟩) n l) : ∀ j, j < l.length → w.cell? ⟨b, o + j, none⟩ = some (.int .i64 (l.getD j 0)) := by
 intro j hj
 obtain ⟨b', off', e, hc⟩ := h.sl j (.int .i64 l[j]) (by rw [List.getElem?_map, List.getElem?_eq_getElem hj]; rfl)
 injection e with e
 injection e with e1 e2
 subst e1 e2
 rw [hc, List.getD_eq_getElem?_getD, List.getElem?_eq_getElem hj]
 rfl
theorem map_ba_inj : ∀ {l l2 : List Tx}, l.map ba = l2.map ba → l = l2
 | [], [], _ => rfl
 | [], _ :: _, h => by simp at h
 | _ :: _, [], h => by simp at h
 | a :: l, b :: l2, h => by
  rw [List.map_cons, List.map_cons] at h
  injection h with h1 h2
  rw [ba_inj h1, map_ba_inj h2]
theorem equalS {w : World} {A B : Option Addr} {n c m d : Nat} {l l2 : List Tx} (H : SS w A n l) (H2 : SS w B m l2) : Calls Tryz.prog 63 #[.slice A n c, .slice B m d] w (EqP w (decide (l = l2))) := by
 by_cases hnm : n = m
 ·subst hnm
  by_cases h0 : n = 0
  ·subst h0
   refine (Scs.slices_Equal_string_empty A B c 0 d w (by omega)).mono ?_
   rintro e w' ⟨rfl, rfl⟩
   have h1 := List.eq_nil_of_length_eq_zero H.len
   have h2 := List.eq_nil_of_length_eq_zero H2.len
   subst h1 h2
   exact ⟨rfl, 0, rfl⟩
  ·obtain ⟨b, o, _, rfl, -, -, -⟩ := H.cell (i := 0) (by omega)
   obtain ⟨b2, o2, _, rfl, -, -, -⟩ := H2.cell (i := 0) (by omega)
   refine (Scs.slices_Equal_string b o n c b2 o2 n d (l.map ba) (l2.map ba) w (by rw [List.length_map, H.len]; exact Nat.le_refl _) (by rw [List.length_map, H2.len]; exact Nat.le_refl _) (by have := H.sz; omega) (by have := H.sz; omega) H.all H2.all).mono ?_
   rintro e w' ⟨rfl, q, rfl⟩
   refine ⟨?_, q, rfl⟩
   rw [List.take_of_length_le (by rw [List.length_map, H.len]; exact Nat.le_refl _), List.take_of_length_le (by rw [List.length_map, H2.len]; exact Nat.le_refl _)]
   congr 2
   exact decide_eq_decide.2 ⟨map_ba_inj, fun h => by rw [h]⟩
 ·refine (Scs.slices_Equal_string_lens A B n c m d w hnm).mono ?_
  rintro e w' ⟨rfl, rfl⟩
  refine ⟨?_, 0, rfl⟩
  rw [decide_eq_false (fun h => hnm (by rw [← H.len, ← H2.len, h]))]
theorem equalI {w : World} {A B : Option Addr} {n c m d : Nat} {l l2 : List Int} (H : SI w .i64 A n l) (H2 : SI w .i64 B m l2) : Calls Tryz.prog 64 #[.slice A n c, .slice B m d] w (EqP w (decide (l = l2))) := by
 by_cases hnm : n = m
 ·subst hnm
  by_cases h0 : n = 0
  ·subst h0
   refine (Scs.slices_Equal_int_empty A B c 0 d w (by omega)).mono ?_
   rintro e w' ⟨rfl, rfl⟩
   have h1 := List.eq_nil_of_length_eq_zero H.len
   have h2 := List.eq_nil_of_length_eq_zero H2.len
   subst h1 h2
   exact ⟨rfl, 0, rfl⟩
  ·obtain ⟨b, o, _, rfl, -, -, -⟩ := H.cells (i := 0) (by omega)
   obtain ⟨b2, o2, _, rfl, -, -, -⟩ := H2.cells (i := 0) (by omega)
   refine (Scs.slices_Equal_int b o n c b2 o2 n d l l2 w (by rw [H.len]; exact Nat.le_refl _) (by rw [H2.len]; exact Nat.le_refl _) (by have := H.big; omega) (by have := H.big; omega) (SI.all H) (SI.all H2)).mono ?_
   rintro e w' ⟨rfl, q, rfl⟩
   refine ⟨?_, q, rfl⟩
   rw [List.take_of_length_le (by rw [H.len]; exact Nat.le_refl _), List.take_of_length_le (by rw [H2.len]; exact Nat.le_refl _)]
   congr 2
   by_cases h : l = l2 <;> simp [h]
 ·refine (Scs.slices_Equal_int_lens A B n c m d w hnm).mono ?_
  rintro e w' ⟨rfl, rfl⟩
  refine ⟨?_, 0, rfl⟩
  rw [decide_eq_false (fun h => hnm (by rw [← H.len, ← H2.len, h]))]
theorem two_allocs (w : World) (a b : Obj) : ∃ W0, (w.alloc a).alloc b = W0 ∧ W0.heap[w.heap.size]? = some a ∧ W0.heap[w.heap.size + 1]? = some b ∧ W0.heap.size = w.heap.size + 2 ∧ Below w.heap.size w W0 := by
 refine ⟨_, rfl, ?_, ?_, by simp, ((Below.refl _ w).alloc (Nat.le_refl _) _).alloc (by simp) _⟩
 ·exact (heap_alloc_old (w.alloc a) b (by simp)).trans (heap_alloc_new w a)
 ·have := heap_alloc_new (w.alloc a) b
  rw [World.size_alloc] at this
  exact this
theorem BoxS.at1 {w w0 : World} {b : Nat} {op dst file : Tx} {A A2 : Option Addr} {n c m c2 : Nat} {line : Value} (h : w.heap[b]? = some (.cells #[line, .string (ba op), .string (ba dst), .slice A n c, .string (ba file), .slice A2 m c2] 37)) : BoxS w b op dst file A n c A2 m c2 := by
 have hl : b < w.heap.size := by
  rcases Nat.lt_or_ge b w.heap.size with h1 | h1
  ·exact h1
  ·rw [Array.getElem?_eq_none h1] at h; cases h
 exact ⟨hl, Ard.row_cell h 1, Ard.row_cell h 2, Ard.row_cell h 3, Ard.row_cell h 4, Ard.row_cell h 5⟩
theorem same_iff {s s2 : St} : ((decide (s.op = s2.op)) && ((decide (s.dst = s2.dst)) && ((decide (s.file = s2.file)) && ((decide (s.srcs = s2.srcs)) && (decide (s.args = s2.args)))))) = true ↔ s = s2 := by
 obtain ⟨a, b, c, d, e⟩ := s
 obtain ⟨a2, b2, c2, d2, e2⟩ := s2
 simp only [Bool.and_eq_true, decide_eq_true_eq, St.mk.injEq]
 constructor
 ·rintro ⟨h1, h2, h3, h4, h5⟩
  exact ⟨h1, h2, h4, h3, h5⟩
 ·rintro ⟨h1, h2, h4, h3, h5⟩
  exact ⟨h1, h2, h3, h4, h5⟩
set_option maxRecDepth 20000 in
set_option maxHeartbeats 4000000 in
theorem same_any {s s2 : St} {line line2 : Int} {A A2 B B2 : Option Addr} {n c m c2 n' c' m' c2' : Nat} (w : World) (HS : SS w A n s.srcs) (HA : SI w .i64 A2 m s.args) (HS2 : SS w B n' s2.srcs) (HA2 : SI w .i64 B2 m' s2.args) :
  Calls Tryz.prog 30 #[.agg #[.int .i64 line, .string (ba s.op), .string (ba s.dst), .slice A n c, .string (ba s.file), .slice A2 m c2], .agg #[.int .i64 line2, .string (ba s2.op), .string (ba s2.dst), .slice B n' c', .string (ba s2.file), .slice B2 m' c2']] w
   fun e w' => ∃ r : Bool, e = .returned (.bool r) ∧ (r = true ↔ s = s2) ∧ Below w.heap.size w w' := by
 suffices h : ∀ E1 E2 E3 E4 E5 : Bool, ((ba s.op).toList == (ba s2.op).toList) = E1 → ((ba s.dst).toList == (ba s2.dst).toList) = E2 → ((ba s.file).toList == (ba s2.file).toList) = E3 → decide (s.srcs = s2.srcs) = E4 → decide (s.args = s2.args) = E5 →
   Calls Tryz.prog 30 #[.agg #[.int .i64 line, .string (ba s.op), .string (ba s.dst), .slice A n c, .string (ba s.file), .slice A2 m c2], .agg #[.int .i64 line2, .string (ba s2.op), .string (ba s2.dst), .slice B n' c', .string (ba s2.file), .slice B2 m' c2']] w
    fun e w' => e = .returned (.bool (E1 && (E2 && (E3 && (E4 && E5))))) ∧ Below w.heap.size w w' by
  refine (h _ _ _ _ _ rfl rfl rfl rfl rfl).mono ?_
  rintro e w' ⟨rfl, hb⟩
  refine ⟨_, rfl, ?_, hb⟩
  rw [← same_iff]
  simp [tl_ba]
 intro E1 E2 E3 E4 E5 h1 h2 h3 h4 h5
 obtain ⟨W0, hW0, r0, r1, hs, hb⟩ := two_allocs w (.cells #[.int .i64 line, .string (ba s.op), .string (ba s.dst), .slice A n c, .string (ba s.file), .slice A2 m c2] 37) (.cells #[.int .i64 line2, .string (ba s2.op), .string (ba s2.dst), .slice B n' c', .string (ba s2.file), .slice B2 m' c2'] 37)
 have HC4 : Hid (∀ V, Below w.heap.size w V → Calls Tryz.prog 63 #[.slice A n c, .slice B n' c'] V (EqP V E4)) := by
  show ∀ _, _ → _
  intro V hV
  rw [← h4]
  exact equalS (HS.below hV) (HS2.below hV)
 have HC5 : Hid (∀ V, Below w.heap.size w V → Calls Tryz.prog 64 #[.slice A2 m c2, .slice B2 m' c2'] V (EqP V E5)) := by
  show ∀ _, _ → _
  intro V hV
  rw [← h5]
  exact equalI (HA.below hV (Nat.le_refl _)) (HA2.below hV (Nat.le_refl _))
 have HB := Lib.hid hb
 have HX0 := Lib.hid (BoxS.at1 (w0 := w) r0)
 have HX1 := Lib.hid (BoxS.at1 (w0 := w) r1)
 have HX0Q : Hid (∀ q, BoxS (W0.drewN q) w.heap.size s.op s.dst s.file A n c A2 m c2) := fun q => HX0.out.below (Go.Proofs.YtoofgblmpjndjaaGreatDoor.K.below_drewN (Below.refl _ _) q) HX0.out.lt
 have HX1Q : Hid (∀ q, BoxS (W0.drewN q) (w.heap.size + 1) s2.op s2.dst s2.file B n' c' B2 m' c2') := fun q => HX1.out.below (Go.Proofs.YtoofgblmpjndjaaGreatDoor.K.below_drewN (Below.refl _ _) q) HX1.out.lt
 have x1 := HX0.out.x1
 have x2 := HX0.out.x2
 have x3 := HX0.out.x3
 have x4 := HX0.out.x4
 have x5 := HX0.out.x5
 have y1 := HX1.out.x1
 have y2 := HX1.out.x2
 have y3 := HX1.out.x3
 have y4 := HX1.out.x4
 have y5 := HX1.out.x5
 clear hb r0 r1 hs HS HA HS2 HA2 h4 h5
 cases E1 with
 | false =>
  go_enter Tryz.func30, Tryz.ntmps30
  go_wp2_with fail
  go_ret
  exact ⟨rfl, HB.out⟩
 | true =>
 cases E2 with
 | false =>
  go_enter Tryz.func30, Tryz.ntmps30
  go_wp2_with fail
  go_ret
  exact ⟨rfl, HB.out⟩
 | true =>
 cases E3 with
 | false =>
  go_enter Tryz.func30, Tryz.ntmps30
  go_wp2_with fail
  go_ret
  exact ⟨rfl, HB.out⟩
 | true =>
 cases E4 with
 | false =>
  go_enter Tryz.func30, Tryz.ntmps30
  go_wp2_with (first | (go_at_call 63; refine (HC4.out _ HB.out).mono ?_; rintro e w' ⟨rfl, q, rfl⟩) | fail)
  go_ret
  exact ⟨rfl, Go.Proofs.YtoofgblmpjndjaaGreatDoor.K.below_drewN HB.out _⟩
 | true =>
  go_enter Tryz.func30, Tryz.ntmps30
  go_wp2_with (first | (go_at_call 63; refine (HC4.out _ HB.out).mono ?_; rintro e w' ⟨rfl, q, rfl⟩; have x5 := (HX0Q.out q).x5; have y5 := (HX1Q.out q).x5) | (go_at_call 64; refine (HC5.out _ (Go.Proofs.YtoofgblmpjndjaaGreatDoor.K.below_drewN HB.out _)).mono ?_; rintro e w' ⟨rfl, q2, rfl⟩) | fail)
  go_ret
  exact ⟨rfl, Go.Proofs.YtoofgblmpjndjaaGreatDoor.K.below_drewN HB.out _⟩
end Go.Proofs.YtoofgblmpjndjaaGreatDoor.Scr
