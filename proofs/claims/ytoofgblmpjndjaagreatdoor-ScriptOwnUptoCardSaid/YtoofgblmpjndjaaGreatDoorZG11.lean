/-
  Walks: blend.sums (a map of functions by names), blend.Check. (Printed by gen_blend.py.)
-/
import Derived.Test.YtoofgblmpjndjaaGreatDoorZG23
import Derived.Test.YtoofgblmpjndjaaGreatDoorZG10
set_option linter.unusedVariables false
set_option linter.unusedSimpArgs false
namespace Go.Proofs.YtoofgblmpjndjaaGreatDoor.Scr
open Go.RowKit K Go.Maps

def rdF (v : Value) : Option (DataW Nat × List MemPlace) :=
 match v with
 | .func .. => some (.lit (.bool true), [])
 | .nilFunc => some (.lit (.bool false), [])
 | _ => none
theorem zeroF (w : World) : (zeroValue 139).run Tryz.prog w = .ok .nilFunc w := by kernel_rfl
def FM (w : World) (B n : Nat) (p : Tx → Bool) : Prop := ∃ D : DataW Nat, w.ownsMap Tryz.prog 9 rdF B n D ∧ IsMap D ∧ ∀ t : Tx, D.atKey (.string t) (.lit (.bool false)) = .lit (.bool (p t))
theorem FM.made (w : World) : FM (w.alloc (.map #[] 0)) w.heap.size 0 (fun _ => false) := ⟨.map [], World.ownsMap_made w _ _ _, isMap_empty, fun t => rfl⟩
theorem rdF_inv {v : Value} {z : DataW Nat × List MemPlace} {b : Bool} (h : rdF v = some z) (hz : z.1 = .lit (.bool b)) : (b = true ∧ ∃ f x y, v = .func f x y) ∨ (b = false ∧ v = .nilFunc) := by
 unfold rdF at h
 split at h
 ·injection h with h
  subst h
  injection hz with hz
  injection hz with hz
  exact .inl ⟨hz.symm, _, _, _, rfl⟩
 ·injection h with h
  subst h
  injection hz with hz
  injection hz with hz
  exact .inr ⟨hz.symm, rfl⟩
 ·cases h
set_option maxRecDepth 100000 in
theorem FM.look {w : World} {B n : Nat} {p : Tx → Bool} (h : FM w B n p) {t : Tx} (ht : t.length ≤ maxLen) : ∃ v, (Instr.lookup 140 (.map (some B)) (.string (ba t)) false).run Tryz.prog w = .ok v w ∧ ((p t = true ∧ ∃ f x y, v = .func f x y) ∨ (p t = false ∧ v = .nilFunc)) := by
 obtain ⟨D, ho, hm, hD⟩ := h
 obtain ⟨v, ps, h1, h2⟩ := ho.lookup (t := 140) keyS Tryz.underlying140 (zeroF w) (zd := .lit (.bool false)) (zp := []) rfl (keyOf_tx ht)
 exact ⟨v, h1, rdF_inv h2 (hD t)⟩
set_option maxRecDepth 100000 in
theorem FM.put {w : World} {B n : Nat} {p : Tx → Bool} (h : FM w B n p) (hn : n < maxLen) {t : Tx} (ht : t.length ≤ maxLen) (f : Fn) (x y : Array Value) :
  ∃ w', (Instr.mapUpdate 140 (.map (some B)) (.string (ba t)) (.func f x y)).run Tryz.prog w = .ok () w' ∧ FM w' B (n + 1) (fun u => u == t || p u) ∧ w.grownBy w' (some B) := by
 obtain ⟨D, ho, hm, hD⟩ := h
 obtain ⟨w', h1, h2, h3⟩ := ho.update (t := 140) keyS Tryz.underlying140 hn (keyOf_tx ht) (val := .func f x y) (d := .lit (.bool true)) (ps := []) rfl
 refine ⟨w', h1, ⟨_, h2, hm.put _ _, fun u => ?_⟩, h3⟩
 by_cases hu : u = t
 ·subst hu
  rw [atKey_put_same hm (by exact trivial)]
  simp
 ·rw [atKey_put_other (fun e => hu (by injection e)), hD u]
  simp [hu]
def sumsL : List Tx := [[112, 108, 117, 115], [109, 105, 110, 117, 115], [116, 105, 109, 101, 115], [115, 99, 114, 101, 101, 110], [100, 105, 102, 102, 101, 114], [108, 105, 103, 104, 116, 101, 114], [100, 97, 114, 107, 101, 114], [109, 97, 115, 107]]
theorem eqNil1 (w : World) : (binOp .eql 139 .nilFunc .nilFunc).run Tryz.prog w = .ok (.bool true) w := by kernel_rfl
theorem eqNil2 (f : Fn) (x y : Array Value) (w : World) : (binOp .eql 139 (.func f x y) .nilFunc).run Tryz.prog w = .ok (.bool false) w := by kernel_rfl
set_option maxRecDepth 100000 in
theorem sums_any (w : World) : Calls Tryz.prog 107 #[] w fun e w' => ∃ B n p, e = .returned (.map (some B)) ∧ FM w' B n p ∧ (∀ t, p t = sumsL.contains t) ∧ Below w.heap.size w w' := by
 have HF := Lib.hid (FM.made w)
 have HB : Hid (w.grownBy (w.alloc (.map #[] 0)) (some w.heap.size)) := World.grownBy_alloc w _ _
 obtain ⟨W, hW⟩ : ∃ W, w.alloc (.map #[] 0) = W := ⟨_, rfl⟩
 rw [hW] at HF HB
 obtain ⟨W0, r0, hf0, hg0⟩ := HF.out.put (n := 0) (by unfold maxLen; omega) (t := [112, 108, 117, 115]) (by unfold maxLen; simp) (.func 134) #[] #[]
 replace HF := Lib.hid hf0
 replace HB : Hid (w.grownBy W0 (some w.heap.size)) := grown_trans HB.out hg0
 simp only [ba] at r0
 clear hf0 hg0
 obtain ⟨W1, r1, hf1, hg1⟩ := HF.out.put (n := 1) (by unfold maxLen; omega) (t := [109, 105, 110, 117, 115]) (by unfold maxLen; simp) (.func 135) #[] #[]
 replace HF := Lib.hid hf1
 replace HB : Hid (w.grownBy W1 (some w.heap.size)) := grown_trans HB.out hg1
 simp only [ba] at r1
 clear hf1 hg1
 obtain ⟨W2, r2, hf2, hg2⟩ := HF.out.put (n := 2) (by unfold maxLen; omega) (t := [116, 105, 109, 101, 115]) (by unfold maxLen; simp) (.func 136) #[] #[]
 replace HF := Lib.hid hf2
 replace HB : Hid (w.grownBy W2 (some w.heap.size)) := grown_trans HB.out hg2
 simp only [ba] at r2
 clear hf2 hg2
 obtain ⟨W3, r3, hf3, hg3⟩ := HF.out.put (n := 3) (by unfold maxLen; omega) (t := [115, 99, 114, 101, 101, 110]) (by unfold maxLen; simp) (.func 137) #[] #[]
 replace HF := Lib.hid hf3
 replace HB : Hid (w.grownBy W3 (some w.heap.size)) := grown_trans HB.out hg3
 simp only [ba] at r3
 clear hf3 hg3
 obtain ⟨W4, r4, hf4, hg4⟩ := HF.out.put (n := 4) (by unfold maxLen; omega) (t := [100, 105, 102, 102, 101, 114]) (by unfold maxLen; simp) (.func 138) #[] #[]
 replace HF := Lib.hid hf4
 replace HB : Hid (w.grownBy W4 (some w.heap.size)) := grown_trans HB.out hg4
 simp only [ba] at r4
 clear hf4 hg4
 obtain ⟨W5, r5, hf5, hg5⟩ := HF.out.put (n := 5) (by unfold maxLen; omega) (t := [108, 105, 103, 104, 116, 101, 114]) (by unfold maxLen; simp) (.func 139) #[] #[]
 replace HF := Lib.hid hf5
 replace HB : Hid (w.grownBy W5 (some w.heap.size)) := grown_trans HB.out hg5
 simp only [ba] at r5
 clear hf5 hg5
 obtain ⟨W6, r6, hf6, hg6⟩ := HF.out.put (n := 6) (by unfold maxLen; omega) (t := [100, 97, 114, 107, 101, 114]) (by unfold maxLen; simp) (.func 140) #[] #[]
 replace HF := Lib.hid hf6
 replace HB : Hid (w.grownBy W6 (some w.heap.size)) := grown_trans HB.out hg6
 simp only [ba] at r6
 clear hf6 hg6
 obtain ⟨W7, r7, hf7, hg7⟩ := HF.out.put (n := 7) (by unfold maxLen; omega) (t := [109, 97, 115, 107]) (by unfold maxLen; simp) (.func 141) #[] #[]
 replace HF := Lib.hid hf7
 replace HB : Hid (w.grownBy W7 (some w.heap.size)) := grown_trans HB.out hg7
 simp only [ba] at r7
 clear hf7 hg7
 have hmk : ∀ (t : TypeId) (w : World), (Instr.makeMap t none).run Tryz.prog w = .ok (.map (some w.heap.size)) (w.alloc (.map #[] 0)) := fun _ _ => rfl
 go_enter Tryz.func107, Tryz.ntmps107
 go_wp2_with fail
 go_ret
 refine ⟨_, _, _, rfl, HF.out, fun t => ?_, Go.Proofs.YtoofgblmpjndjaaGreatDoor.K.below_grown HB.out (Nat.le_refl _) (Nat.le_refl _)⟩
 simp only [sumsL, List.contains_cons, List.contains_nil]
 ac_rfl
set_option maxRecDepth 20000 in
set_option maxHeartbeats 4000000 in
theorem bcheck_any {op : ByteArray} {A : Option Addr} {n c : Nat} {a : List Int} (w : World) (HA : SI w .i64 A n a) (hsz : op.size ≤ maxLen) : Calls Tryz.prog 78 #[.string op, .slice A n c] w (ChkP w (chkM bld op.data.toList a)) := by
 have hopb := (ba_of op).symm
 have HOPB : Hid (∀ l : Tx, (op.toList == l) = (op.data.toList == l)) := fun l => lit_beq hopb
 have HN := Lib.hid HA.len
 have HAA := Lib.hid HA
 obtain ⟨r, hr⟩ : ∃ r, chkM bld op.data.toList a = r := ⟨_, rfl⟩
 rw [hr]
 have HR := Lib.hid hr
 obtain ⟨t, ht⟩ : ∃ t, op.data.toList = t := ⟨_, rfl⟩
 have hbt : op = ba t := by rw [← ht]; exact hopb
 have htl : t.length ≤ maxLen := by rw [hbt, ba_size] at hsz; exact hsz
 rw [ht] at HR HOPB
 clear HA hr hopb hsz ht
 by_cases hn0 : t = [111, 118, 101, 114]
 ·have HE0 : Hid (r = if fitM [((-4096), 4096), ((-4096), 4096)] a then 0 else 190) := by show _ = _; rw [← HR.out, hn0]; rfl
  have q0 : (op.toList == [111, 118, 101, 114]) = true := by rw [HOPB.out, hn0]; rfl
  have q1 : (op.toList == [109, 105, 120]) = false := by rw [HOPB.out, hn0]; rfl
  have q2 : (op.toList == [98, 101, 115, 105, 100, 101]) = false := by rw [HOPB.out, hn0]; rfl
  have q3 : (op.toList == [98, 101, 108, 111, 119]) = false := by rw [HOPB.out, hn0]; rfl
  obtain ⟨WB, rfl⟩ : ∃ W, W = w := ⟨_, rfl⟩
  have HBB : Hid (Below WB.heap.size WB WB) := Below.refl _ _
  clear hn0 hbt htl
  go_enter Tryz.func78, Tryz.ntmps78
  by_cases hl : n = 2
  ·have hl1 : ((n : Int) != 2) = false := by simp; omega
   subst hl
   go_wp2_with fail
   go_loopw [28] (fun s28 wx => ∃ j : Nat, j ≤ 2 ∧ s28 = .int .i64 j ∧ WB = wx ∧ Hid (∀ i, i < j → inB [((-4096), 4096), ((-4096), 4096)] a i = true)) (fun s28 _ => 2 - (intOf s28).toNat)
   case atStart => exact ⟨0, by omega, rfl, rfl, fun i hi => by omega⟩
   case round =>
    obtain ⟨j, hj, rfl, rfl, HIN⟩ := hrel
    by_cases hlt : j < 2
    ·have d1 : decide ((j : Int) < 2) = true := decide_eq_true (by omega)
     have e1 : decide (j < 2) = true := decide_eq_true hlt
     have j0 : (0 : Int) ≤ (j : Int) := by omega
     have j1 : (j : Int) < 2 := by omega
     obtain ⟨ab, ao, av, rfl, ac, hav, -⟩ := (HAA.out.below HBB.out (Nat.le_refl _)).cells (i := j) hlt
     have HINJ : Hid (inB [((-4096), 4096), ((-4096), 4096)] a j = (decide ((-4096) ≤ av) && decide (av ≤ 4096))) := by
      show _ = _
      unfold inB
      rw [Ard.getD_at hav.out]
      match j, hlt with
      | 0, _ => rfl
      | 1, _ => rfl
     have HWJ : Hid (wrap64 ((j : Int) + 1) = ((j + 1 : Nat) : Int)) := by show _ = _; rw [IntWalk.wrap64_in _ (by omega)]; rfl
     have HLT := Lib.hid hlt
     have HBAD : Hid (inB [((-4096), 4096), ((-4096), 4096)] a j = false → r = 190) := by
      show _ → _
      intro h
      have : fitM [((-4096), 4096), ((-4096), 4096)] a = false := Bool.eq_false_iff.2 fun hf => by
       have := (fit_all HN.out).1 hf j hlt
       rw [h] at this
       cases this
      rw [HE0.out, this]
      rfl
     clear hav hj hlt
     by_cases h1 : av < (-4096)
     ·have t1 : decide (av < (-4096)) = true := decide_eq_true h1
      have HE : Hid (r = 190) := HBAD.out (by rw [HINJ.out, Bool.and_eq_false_iff, decide_eq_false_iff_not, decide_eq_false_iff_not]; omega)
      clear h1
      go_wp2_with fail
      go_ret
      exact ⟨by rw [HE.out]; rfl, HBB.out⟩
     ·have t1 : decide (av < (-4096)) = false := decide_eq_false h1
      by_cases h2 : 4096 < av
      ·have t2 : decide (4096 < av) = true := decide_eq_true h2
       have HE : Hid (r = 190) := HBAD.out (by rw [HINJ.out, Bool.and_eq_false_iff, decide_eq_false_iff_not, decide_eq_false_iff_not]; omega)
       clear h1 h2
       go_wp2_with fail
       go_ret
       exact ⟨by rw [HE.out]; rfl, HBB.out⟩
      ·have t2 : decide (4096 < av) = false := decide_eq_false h2
       have HI2 : Hid (inB [((-4096), 4096), ((-4096), 4096)] a j = true) := by show _ = _; rw [HINJ.out, Bool.and_eq_true, decide_eq_true_eq, decide_eq_true_eq]; omega
       clear h1 h2
       go_wp2_with fail
       go_roundw
       case rel => exact ⟨j + 1, HLT.out, by first | rw [HWJ.out] | rfl, by first | rfl | trivial, fun i hi => by
        rcases Nat.lt_or_ge i j with h | h
        ·exact HIN.out i h
        ·obtain rfl : i = j := by omega
         exact HI2.out⟩
       case measure => (try rw [HWJ.out]); simp [intOf]; have := HLT.out; omega
    ·obtain rfl : j = 2 := by omega
     have HE : Hid (r = 0) := by
      show _ = _
      rw [HE0.out, (fit_all (b := [((-4096), 4096), ((-4096), 4096)]) HN.out).2 (fun i hi => HIN.out i hi)]
      rfl
     clear hj hlt
     go_wp2_with fail
     go_ret
     exact ⟨by rw [HE.out]; rfl, HBB.out⟩
  ·have hl1 : ((n : Int) != 2) = true := by simp; omega
   have HE : Hid (r = 190) := by show _ = _; rw [HE0.out, fit_len (by rw [HN.out]; exact hl)]; rfl
   clear hl
   go_wp2_with fail
   go_ret
   exact ⟨by rw [HE.out]; rfl, HBB.out⟩
 by_cases hn1 : t = [109, 105, 120]
 ·have HE0 : Hid (r = if fitM [(0, 256)] a then 0 else 190) := by show _ = _; rw [← HR.out, hn1]; rfl
  have q0 : (op.toList == [111, 118, 101, 114]) = false := by rw [HOPB.out, hn1]; rfl
  have q1 : (op.toList == [109, 105, 120]) = true := by rw [HOPB.out, hn1]; rfl
  have q2 : (op.toList == [98, 101, 115, 105, 100, 101]) = false := by rw [HOPB.out, hn1]; rfl
  have q3 : (op.toList == [98, 101, 108, 111, 119]) = false := by rw [HOPB.out, hn1]; rfl
  obtain ⟨WB, rfl⟩ : ∃ W, W = w := ⟨_, rfl⟩
  have HBB : Hid (Below WB.heap.size WB WB) := Below.refl _ _
  clear hn1 hbt htl
  clear hn0
  go_enter Tryz.func78, Tryz.ntmps78
  by_cases hl : n = 1
  ·have hl1 : ((n : Int) != 1) = false := by simp; omega
   subst hl
   go_wp2_with fail
   go_loopw [28] (fun s28 wx => ∃ j : Nat, j ≤ 1 ∧ s28 = .int .i64 j ∧ WB = wx ∧ Hid (∀ i, i < j → inB [(0, 256)] a i = true)) (fun s28 _ => 1 - (intOf s28).toNat)
   case atStart => exact ⟨0, by omega, rfl, rfl, fun i hi => by omega⟩
   case round =>
    obtain ⟨j, hj, rfl, rfl, HIN⟩ := hrel
    by_cases hlt : j < 1
    ·have d1 : decide ((j : Int) < 1) = true := decide_eq_true (by omega)
     have e1 : decide (j < 1) = true := decide_eq_true hlt
     have j0 : (0 : Int) ≤ (j : Int) := by omega
     have j1 : (j : Int) < 1 := by omega
     obtain ⟨ab, ao, av, rfl, ac, hav, -⟩ := (HAA.out.below HBB.out (Nat.le_refl _)).cells (i := j) hlt
     have HINJ : Hid (inB [(0, 256)] a j = (decide (0 ≤ av) && decide (av ≤ 256))) := by
      show _ = _
      unfold inB
      rw [Ard.getD_at hav.out]
      match j, hlt with
      | 0, _ => rfl
     have HWJ : Hid (wrap64 ((j : Int) + 1) = ((j + 1 : Nat) : Int)) := by show _ = _; rw [IntWalk.wrap64_in _ (by omega)]; rfl
     have HLT := Lib.hid hlt
     have HBAD : Hid (inB [(0, 256)] a j = false → r = 190) := by
      show _ → _
      intro h
      have : fitM [(0, 256)] a = false := Bool.eq_false_iff.2 fun hf => by
       have := (fit_all HN.out).1 hf j hlt
       rw [h] at this
       cases this
      rw [HE0.out, this]
      rfl
     clear hav hj hlt
     by_cases h1 : av < 0
     ·have t1 : decide (av < 0) = true := decide_eq_true h1
      have HE : Hid (r = 190) := HBAD.out (by rw [HINJ.out, Bool.and_eq_false_iff, decide_eq_false_iff_not, decide_eq_false_iff_not]; omega)
      clear h1
      go_wp2_with fail
      go_ret
      exact ⟨by rw [HE.out]; rfl, HBB.out⟩
     ·have t1 : decide (av < 0) = false := decide_eq_false h1
      by_cases h2 : 256 < av
      ·have t2 : decide (256 < av) = true := decide_eq_true h2
       have HE : Hid (r = 190) := HBAD.out (by rw [HINJ.out, Bool.and_eq_false_iff, decide_eq_false_iff_not, decide_eq_false_iff_not]; omega)
       clear h1 h2
       go_wp2_with fail
       go_ret
       exact ⟨by rw [HE.out]; rfl, HBB.out⟩
      ·have t2 : decide (256 < av) = false := decide_eq_false h2
       have HI2 : Hid (inB [(0, 256)] a j = true) := by show _ = _; rw [HINJ.out, Bool.and_eq_true, decide_eq_true_eq, decide_eq_true_eq]; omega
       clear h1 h2
       go_wp2_with fail
       go_roundw
       case rel => exact ⟨j + 1, HLT.out, by first | rw [HWJ.out] | rfl, by first | rfl | trivial, fun i hi => by
        rcases Nat.lt_or_ge i j with h | h
        ·exact HIN.out i h
        ·obtain rfl : i = j := by omega
         exact HI2.out⟩
       case measure => (try rw [HWJ.out]); simp [intOf]; have := HLT.out; omega
    ·obtain rfl : j = 1 := by omega
     have HE : Hid (r = 0) := by
      show _ = _
      rw [HE0.out, (fit_all (b := [(0, 256)]) HN.out).2 (fun i hi => HIN.out i hi)]
      rfl
     clear hj hlt
     go_wp2_with fail
     go_ret
     exact ⟨by rw [HE.out]; rfl, HBB.out⟩
  ·have hl1 : ((n : Int) != 1) = true := by simp; omega
   have HE : Hid (r = 190) := by show _ = _; rw [HE0.out, fit_len (by rw [HN.out]; exact hl)]; rfl
   clear hl
   go_wp2_with fail
   go_ret
   exact ⟨by rw [HE.out]; rfl, HBB.out⟩
 by_cases hn2 : t = [98, 101, 115, 105, 100, 101]
 ·have HE0 : Hid (r = if fitM [] a then 0 else 190) := by show _ = _; rw [← HR.out, hn2]; rfl
  have q0 : (op.toList == [111, 118, 101, 114]) = false := by rw [HOPB.out, hn2]; rfl
  have q1 : (op.toList == [109, 105, 120]) = false := by rw [HOPB.out, hn2]; rfl
  have q2 : (op.toList == [98, 101, 115, 105, 100, 101]) = true := by rw [HOPB.out, hn2]; rfl
  have q3 : (op.toList == [98, 101, 108, 111, 119]) = false := by rw [HOPB.out, hn2]; rfl
  obtain ⟨WB, rfl⟩ : ∃ W, W = w := ⟨_, rfl⟩
  have HBB : Hid (Below WB.heap.size WB WB) := Below.refl _ _
  clear hn2 hbt htl
  clear hn0
  clear hn1
  go_enter Tryz.func78, Tryz.ntmps78
  by_cases hl : n = 0
  ·have hl1 : ((n : Int) != 0) = false := by simp; omega
   have HE : Hid (r = 0) := by show _ = _; rw [HE0.out, List.eq_nil_of_length_eq_zero (HN.out.trans hl)]; rfl
   subst hl
   go_wp2_with fail
   go_loopw [28] (fun s28 wx => s28 = .int .i64 0 ∧ WB = wx) (fun _ _ => 0)
   case atStart => exact ⟨rfl, rfl⟩
   case round =>
    obtain ⟨rfl, rfl⟩ := hrel
    go_wp2_with fail
    go_ret
    exact ⟨by rw [HE.out]; rfl, HBB.out⟩
  ·have hl1 : ((n : Int) != 0) = true := by simp; omega
   have HE : Hid (r = 190) := by show _ = _; rw [HE0.out, fit_len (by rw [HN.out]; exact hl)]; rfl
   clear hl
   go_wp2_with fail
   go_ret
   exact ⟨by rw [HE.out]; rfl, HBB.out⟩
 by_cases hn3 : t = [98, 101, 108, 111, 119]
 ·have HE0 : Hid (r = if fitM [] a then 0 else 190) := by show _ = _; rw [← HR.out, hn3]; rfl
  have q0 : (op.toList == [111, 118, 101, 114]) = false := by rw [HOPB.out, hn3]; rfl
  have q1 : (op.toList == [109, 105, 120]) = false := by rw [HOPB.out, hn3]; rfl
  have q2 : (op.toList == [98, 101, 115, 105, 100, 101]) = false := by rw [HOPB.out, hn3]; rfl
  have q3 : (op.toList == [98, 101, 108, 111, 119]) = true := by rw [HOPB.out, hn3]; rfl
  obtain ⟨WB, rfl⟩ : ∃ W, W = w := ⟨_, rfl⟩
  have HBB : Hid (Below WB.heap.size WB WB) := Below.refl _ _
  clear hn3 hbt htl
  clear hn0
  clear hn1
  clear hn2
  go_enter Tryz.func78, Tryz.ntmps78
  by_cases hl : n = 0
  ·have hl1 : ((n : Int) != 0) = false := by simp; omega
   have HE : Hid (r = 0) := by show _ = _; rw [HE0.out, List.eq_nil_of_length_eq_zero (HN.out.trans hl)]; rfl
   subst hl
   go_wp2_with fail
   go_loopw [28] (fun s28 wx => s28 = .int .i64 0 ∧ WB = wx) (fun _ _ => 0)
   case atStart => exact ⟨rfl, rfl⟩
   case round =>
    obtain ⟨rfl, rfl⟩ := hrel
    go_wp2_with fail
    go_ret
    exact ⟨by rw [HE.out]; rfl, HBB.out⟩
  ·have hl1 : ((n : Int) != 0) = true := by simp; omega
   have HE : Hid (r = 190) := by show _ = _; rw [HE0.out, fit_len (by rw [HN.out]; exact hl)]; rfl
   clear hl
   go_wp2_with fail
   go_ret
   exact ⟨by rw [HE.out]; rfl, HBB.out⟩
 have HSU := Lib.hid (sums_any w)
 have hb1 : ∀ w, (binOp .eql 139 .nilFunc .nilFunc).run Tryz.prog w = .ok (.bool true) w := eqNil1
 have hb2 : ∀ f x y w, (binOp .eql 139 (.func f x y) .nilFunc).run Tryz.prog w = .ok (.bool false) w := eqNil2
 have HNN := Lib.hid (And.intro hn0 (And.intro hn1 (And.intro hn2 hn3)))
 have q0 : (op.toList == [111, 118, 101, 114]) = false := by rw [HOPB.out]; exact beq_eq_false_iff_ne.2 hn0
 have q1 : (op.toList == [109, 105, 120]) = false := by rw [HOPB.out]; exact beq_eq_false_iff_ne.2 hn1
 have q2 : (op.toList == [98, 101, 115, 105, 100, 101]) = false := by rw [HOPB.out]; exact beq_eq_false_iff_ne.2 hn2
 have q3 : (op.toList == [98, 101, 108, 111, 119]) = false := by rw [HOPB.out]; exact beq_eq_false_iff_ne.2 hn3
 have HTL := Lib.hid htl
 have HBT := Lib.hid hbt
 clear hn0 hn1 hn2 hn3 htl hbt
 go_enter Tryz.func78, Tryz.ntmps78
 go_wp2_with fail
 refine HSU.out.mono ?_
 rintro e WB ⟨B, m, p, rfl, hF, hp, hb⟩
 have HBB := Lib.hid hb
 have hlk := hF.look HTL.out
 rw [← HBT.out] at hlk
 obtain ⟨v, hv, hcase⟩ := hlk
 have HP := Lib.hid hp
 clear hF hp hb
 rcases hcase with ⟨hpt, f, x, y, rfl⟩ | ⟨hpt, rfl⟩
 ·have HE0 : Hid (r = if fitM [] a then 0 else 190) := by
   show _ = _
   rw [← HR.out]
   rw [HP.out] at hpt
   simp only [sumsL, List.contains_cons, List.contains_nil, Bool.or_false, Bool.or_eq_true, beq_iff_eq] at hpt
   rcases hpt with h | h | h | h | h | h | h | h <;> (rw [h]; rfl)
  clear hpt
  by_cases hl : n = 0
  ·have hl1 : ((n : Int) != 0) = false := by simp; omega
   have HE : Hid (r = 0) := by show _ = _; rw [HE0.out, List.eq_nil_of_length_eq_zero (HN.out.trans hl)]; rfl
   subst hl
   go_wp2_with fail
   go_loopw [28] (fun s28 wx => s28 = .int .i64 0 ∧ WB = wx) (fun _ _ => 0)
   case atStart => exact ⟨rfl, rfl⟩
   case round =>
    obtain ⟨rfl, rfl⟩ := hrel
    go_wp2_with fail
    go_ret
    exact ⟨by rw [HE.out]; rfl, HBB.out⟩
  ·have hl1 : ((n : Int) != 0) = true := by simp; omega
   have HE : Hid (r = 190) := by show _ = _; rw [HE0.out, fit_len (by rw [HN.out]; exact hl)]; rfl
   clear hl
   go_wp2_with fail
   go_ret
   exact ⟨by rw [HE.out]; rfl, HBB.out⟩
 ·have HE : Hid (r = 8) := by
   show _ = _
   rw [← HR.out]
   unfold chkM
   rw [findM_no (fun i q hq => ?_)]
   rw [HP.out] at hpt
   intro e
   have hall : ∀ q ∈ bld, q.1 = [111, 118, 101, 114] ∨ q.1 = [109, 105, 120] ∨ q.1 = [98, 101, 115, 105, 100, 101] ∨ q.1 = [98, 101, 108, 111, 119] ∨ sumsL.contains q.1 = true := by decide
   obtain ⟨h0, h1, h2, h3⟩ := HNN.out
   rcases hall q (List.mem_of_getElem? hq) with h | h | h | h | h
   ·exact h0 (e.symm.trans h)
   ·exact h1 (e.symm.trans h)
   ·exact h2 (e.symm.trans h)
   ·exact h3 (e.symm.trans h)
   ·rw [e, hpt] at h; cases h
  clear hpt
  go_wp2_with fail
  go_ret
  exact ⟨by rw [HE.out]; rfl, HBB.out⟩
end Go.Proofs.YtoofgblmpjndjaaGreatDoor.Scr
