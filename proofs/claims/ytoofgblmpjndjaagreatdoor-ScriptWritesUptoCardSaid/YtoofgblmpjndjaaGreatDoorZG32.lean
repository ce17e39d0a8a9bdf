/-
  Walks: the reference's spelling of a step.
-/
import Derived.Test.YtoofgblmpjndjaaGreatDoorZG9
import Derived.Deep.CutBlock
import Derived.Deep.DeepCutAuto
import Derived.Deep.RegionHeld3
import Derived.BigQuiet
set_option linter.unusedVariables false
set_option linter.unusedSimpArgs false
set_option linter.unnecessarySimpa false
namespace Go.Proofs.YtoofgblmpjndjaaGreatDoor.Scr
open Go.RowKit K Go.Lib

set_option maxRecDepth 20000 in
set_option maxHeartbeats 4000000 in
theorem rspell_any {s : St} {line : Int} {A A2 : Option Addr} {n c m c2 : Nat} (w : World) (HV : Vars w) (HS : SS w A n s.srcs) (HA : SI w .i64 A2 m s.args)
  (hbd : ∀ a ∈ s.args, -9223372036854775808 ≤ a ∧ a ≤ 9223372036854775807) (hh : (headS s).length ≤ 1099511627776) :
  Calls Tryz.prog 36 #[.agg #[.int .i64 line, .string (ba s.op), .string (ba s.dst), .slice A n c, .string (ba s.file), .slice A2 m c2]] w fun e w' => e = .returned (.string (ba (spellT s))) ∧ Below w.heap.size w w' := by
 obtain ⟨op, dst, srcs, file, args⟩ := s
 simp only at HS HA hbd
 have hlen : op.length + (optT dst).length + (srcsT srcs).length + (optT file).length ≤ 1099511627776 := by
  simp only [headS, List.length_append] at hh
  omega
 have HBX := Lib.hid (BoxS.new w (.int .i64 line) op dst file A n c A2 m c2)
 obtain ⟨W0, hW0⟩ : ∃ x, w.alloc (.cells #[.int .i64 line, .string (ba op), .string (ba dst), .slice A n c, .string (ba file), .slice A2 m c2] 37) = x := ⟨_, rfl⟩
 have HB0 : Hid (Below w.heap.size w W0) := by show Below _ _ _; rw [← hW0]; exact (Below.refl _ w).alloc (Nat.le_refl _) _
 rw [hW0] at HBX
 have HVV := Lib.hid (HV.below HB0.out (Nat.le_refl _))
 have HSS := Lib.hid (HS.below HB0.out)
 have HAA := Lib.hid (HA.below HB0.out (Nat.le_refl _))
 have HLEN := Lib.hid hlen
 have HBD := Lib.hid hbd
 clear hlen hh HV HS HA hbd
 have x1 := HBX.out.x1
 have x2 := HBX.out.x2
 obtain ⟨eD, hD⟩ : ∃ e, (!(ba dst).toList.isEmpty) = e := ⟨_, rfl⟩
 have HD := Lib.hid hD
 go_enter Tryz.func36, Tryz.ntmps36
 go_upto_if 10 with (fail)
 clear hD
 go_cut [3] from 11 (fun s3 wx => s3 = .string (ba (op ++ optT dst)) ∧ wx = W0)
 case first =>
  by_cases hd : dst = []
  ·subst hd
   obtain rfl : eD = false := by rw [← HD.out, tl_ba]; rfl
   have HE : Hid (op ++ optT [] = op) := by show _ = _; unfold optT; rw [if_pos rfl, List.append_nil]
   go_wp2_with fail
   go_meet
   exact ⟨by rw [HE.out], rfl⟩
  ·obtain rfl : eD = true := by rw [← HD.out, tl_ba]; simpa using hd
   have HE : Hid (op ++ optT dst = op ++ 32 :: dst) := by show _ = _; unfold optT; rw [if_neg hd]
   have z1 : (ba op).size + 1 ≤ 9223372036854775807 := by rw [ba_size]; have := HLEN.out; omega
   have z2 : (ba op).size + 1 + (ba dst).size ≤ 9223372036854775807 := by rw [ba_size, ba_size]; have := HLEN.out; unfold optT at this; rw [if_neg hd, List.length_cons] at this; omega
   go_wp2_with fail
   go_meet
   refine ⟨?_, rfl⟩
   rw [HE.out, show op ++ 32 :: dst = (op ++ [32]) ++ dst by simp, ba_app, ba_app]
   rfl
 case rest =>
 obtain ⟨rfl, rfl⟩ := hcut
 have x3 := HBX.out.x3
 clear x1 HD
 obtain ⟨zo, hzo⟩ : ∃ z, ba (op ++ optT dst) = z := ⟨_, rfl⟩
 have HZ := Lib.hid hzo
 rw [hzo]
 clear hzo
 go_upto_region 4 with (fail)
 go_wp2_with fail
 go_loopw [3, 4] (fun s3 s4 wr => ∃ k : Nat, k ≤ n ∧ s3 = .string (ba (op ++ optT dst ++ srcsT (srcs.take k))) ∧ s4 = .int .i64 (k : Int) ∧ wc = wr) (fun _ s4 _ => n - (intOf s4).toNat)
 case atStart => exact ⟨0, by omega, by rw [← HZ.out]; simp [srcsT], rfl, rfl⟩
 case round =>
  obtain ⟨k, hk, rfl, rfl, rfl⟩ := hrel
  by_cases hlt : k < n
  ·have HLT := Lib.hid hlt
   obtain ⟨b, off, t, rfl, hc, ht, -⟩ := HSS.out.cell hlt
   have d0 : decide ((k : Int) < (n : Int)) = true := decide_eq_true (by omega)
   have e0 : decide (k < n) = true := decide_eq_true hlt
   have l0 : (k : Int) < n := by omega
   have z0 : (0 : Int) ≤ k := by omega
   have HU : Hid (wrap64 ((k : Int) + 1) = ((k + 1 : Nat) : Int)) := by show _ = _; have := HSS.out.sz; rw [IntWalk.wrap64_in _ (by omega)]; rfl
   have HS1 : Hid (srcsT (srcs.take (k + 1)) = srcsT (srcs.take k) ++ 32 :: t) := by show _ = _; rw [List.take_add_one, ht, Option.toList_some, srcsT_snoc]
   have hle := srcsT_le srcs (k + 1)
   rw [HS1.out, List.length_append, List.length_cons] at hle
   obtain ⟨zk, hzk⟩ : ∃ z, ba (op ++ optT dst ++ srcsT (srcs.take k)) = z := ⟨_, rfl⟩
   have HZK := Lib.hid hzk
   have z1 : zk.size + 1 ≤ 9223372036854775807 := by rw [← hzk, ba_size]; have := HLEN.out; simp only [List.length_append]; omega
   have z2 : zk.size + 1 + (ba t).size ≤ 9223372036854775807 := by rw [← hzk, ba_size, ba_size]; have := HLEN.out; simp only [List.length_append]; omega
   rw [hzk]
   clear hzk hle ht hk hlt
   go_wp2_with fail
   go_roundw
   case rel =>
    refine ⟨k + 1, HLT.out, ?_, by first | rfl | rw [HU.out], by first | rfl | trivial⟩
    rw [HS1.out, show op ++ optT dst ++ (srcsT (srcs.take k) ++ 32 :: t) = (op ++ optT dst ++ srcsT (srcs.take k) ++ [32]) ++ t by simp, ba_app, ba_app, HZK.out]
    rfl
   case measure => first | exact meas_by (d := 1) HLT.out (by omega) | (rw [HU.out]; exact meas_by (d := 1) HLT.out (by omega))
  ·obtain rfl : k = n := by omega
   have d0 : decide ((k : Int) < (k : Int)) = false := decide_eq_false (by omega)
   rw [List.take_of_length_le (by rw [HSS.out.len]; exact Nat.le_refl _)]
   obtain ⟨z3, hz3⟩ : ∃ z, ba (op ++ optT dst ++ srcsT srcs) = z := ⟨_, rfl⟩
   rw [hz3]
   have HZ3 := Lib.hid hz3
   clear hz3 hlt hk x2 HZ x3
   have x4 := HBX.out.x4
   obtain ⟨eF, hF⟩ : ∃ e, (!(ba file).toList.isEmpty) = e := ⟨_, rfl⟩
   have HF := Lib.hid hF
   have x3 := HBX.out.x3
   go_upto_if 33 with (fail)
   obtain ⟨H, hH⟩ : ∃ h, headS ⟨op, dst, srcs, file, args⟩ = h := ⟨_, rfl⟩
   have HH := Lib.hid hH
   have HHL : Hid (H.length ≤ 1099511627776) := by show _ ≤ _; rw [← hH]; have := HLEN.out; simp only [headS, List.length_append]; omega
   clear hH hF x3
   go_cut [3] from 34 (fun s3 wx => s3 = .string (ba H) ∧ wx = wc)
   case first =>
    by_cases hd : file = []
    ·subst hd
     obtain rfl : eF = false := by rw [← HF.out, tl_ba]; rfl
     have HE : Hid (z3 = ba H) := by show _ = _; rw [← HZ3.out, ← HH.out]; simp [headS, optT]
     go_wp2_with fail
     go_meet
     exact ⟨by rw [HE.out], rfl⟩
    ·obtain rfl : eF = true := by rw [← HF.out, tl_ba]; simpa using hd
     have z1 : z3.size + 1 ≤ 9223372036854775807 := by rw [← HZ3.out, ba_size]; have := HLEN.out; simp only [List.length_append]; omega
     have z2 : z3.size + 1 + (ba file).size ≤ 9223372036854775807 := by rw [← HZ3.out, ba_size, ba_size]; have := HLEN.out; unfold optT at this; rw [if_neg hd, List.length_cons] at this; simp only [List.length_append]; unfold optT; omega
     go_wp2_with fail
     go_meet
     refine ⟨?_, rfl⟩
     rw [← HH.out, show headS ⟨op, dst, srcs, file, args⟩ = (op ++ optT dst ++ srcsT srcs ++ [32]) ++ file by simp [headS, optT, hd], ba_app, ba_app, HZ3.out]
     rfl
   case rest =>
   obtain ⟨rfl, rfl⟩ := hcut
   have x5 := HBX.out.x5
   obtain ⟨zh, hzh⟩ : ∃ z, ba H = z := ⟨_, rfl⟩
   rw [hzh]
   have HZH := Lib.hid hzh
   clear hzh x4 HF
   go_upto_region 10 with (fail)
   go_wp2_with fail
   clear x5
   go_loopw [3, 5] (fun s3 s5 wr => ∃ k : Nat, k ≤ m ∧ s3 = .string (ba (H ++ argsS op 0 (args.take k))) ∧ s5 = .int .i64 (k : Int) ∧ goA op 0 (args.take k) ∧ (argsS op 0 (args.take k)).length ≤ 22 * k ∧ Below wc.heap.size wc wr) (fun _ s5 _ => m - (intOf s5).toNat)
   case atStart => exact ⟨0, by omega, by rw [← HZH.out]; simp [argsS], rfl, trivial, by simp [argsS], Below.refl _ _⟩
   case round =>
    obtain ⟨k, hk, rfl, rfl, hgo, hlk, hbr⟩ := hrel
    have HGO := Lib.hid hgo
    have HLK := Lib.hid hlk
    have HBR := Lib.hid hbr
    have HBX2 := Lib.hid (HBX.out.below hbr HBX.out.lt)
    have HAR := Lib.hid (HAA.out.below hbr (Nat.le_refl _))
    have HVR := Lib.hid (HVV.out.below hbr (Nat.le_refl _))
    have x5 := HBX2.out.x5
    clear hgo hlk hbr
    by_cases hlt : k < m
    ·have HLT := Lib.hid hlt
     obtain ⟨b, off, v, rfl, hc, hv, -⟩ := HAR.out.cells hlt
     have d0 : decide ((k : Int) < (m : Int)) = true := decide_eq_true (by omega)
     have e0 : decide (k < m) = true := decide_eq_true hlt
     have l0 : (k : Int) < m := by omega
     have y0 : (0 : Int) ≤ k := by omega
     have HU : Hid (wrap64 ((k : Int) + 1) = ((k + 1 : Nat) : Int)) := by show _ = _; have := HAR.out.big; rw [IntWalk.wrap64_in _ (by omega)]; rfl
     have HTK : Hid (args.take (k + 1) = args.take k ++ [v]) := by show _ = _; rw [List.take_add_one, hv.out, Option.toList_some]
     have HKL : Hid ((args.take k).length = k) := by show _ = _; rw [List.length_take, HAR.out.len]; omega
     have HVB : Hid (-9223372036854775808 ≤ v ∧ v ≤ 9223372036854775807) := HBD.out v (List.mem_of_getElem? hv.out)
     have HDR : Hid (args.drop k = v :: args.drop (k + 1)) := by
      show _ = _
      rw [List.drop_eq_getElem_cons (by rw [HAR.out.len]; exact hlt)]
      have := hv.out
      rw [List.getElem?_eq_getElem (by rw [HAR.out.len]; exact hlt)] at this
      injection this with this
      rw [this]
     have HSPL : Hid (argsS op 0 args = argsS op 0 (args.take k) ++ argsS op k (args.drop k)) := by
      show _ = _
      have := argsS_append (op := op) (r := args.drop k) HGO.out
      rw [List.take_append_drop, HKL.out, Nat.zero_add] at this
      exact this
     obtain ⟨zk, hzk⟩ : ∃ z, ba (H ++ argsS op 0 (args.take k)) = z := ⟨_, rfl⟩
     have HZK := Lib.hid hzk
     have HM := HAR.out.big
     have z1 : zk.size + 1 ≤ 9223372036854775807 := by rw [← hzk, ba_size]; have := HHL.out; have := HLK.out; simp only [List.length_append]; omega
     have z2 : ∀ t : ByteArray, t.size ≤ 21 → zk.size + 1 + t.size ≤ 9223372036854775807 := by intro t ht; rw [← hzk, ba_size]; have := HHL.out; have := HLK.out; simp only [List.length_append]; omega
     have HZ2 := Lib.hid z2
     rw [hzk]
     have x1 := HBX2.out.x1
     obtain ⟨eW, hW⟩ : ∃ e, ((ba op).toList == [119, 114, 105, 116, 101]) = e := ⟨_, rfl⟩
     have HW : Hid (eW = decide (op = writeT)) := by show _ = _; rw [← hW]; exact lit_beq2
     obtain ⟨e0', hE0⟩ : ∃ e, ((k : Int) == 0) = e := ⟨_, rfl⟩
     have HE0 : Hid (e0' = decide (k = 0)) := by show _ = _; rw [← hE0]; by_cases h : k = 0 <;> simp [h]
     have HRET : Hid (∀ e : Ending, True) := fun _ => trivial
     clear hzk z2 hk hlt HM
     by_cases hs : stopA op k v
     ·obtain ⟨hop, hk0, hv0⟩ := hs
      obtain rfl : eW = true := by rw [HW.out]; exact decide_eq_true hop
      obtain rfl : e0' = true := by rw [HE0.out]; exact decide_eq_true hk0
      have HE : Hid (zk = ba (spellT ⟨op, dst, srcs, file, args⟩)) := by
       show _ = _
       rw [← HZK.out]
       unfold spellT
       rw [HH.out, HSPL.out, HDR.out, argsS_stop ⟨hop, hk0, hv0⟩, List.append_nil]
      subst hk0
      have j0 : (0 : Int) < m := by have := HLT.out; omega
      have j1 : m ≠ 0 := by have := HLT.out; omega
      have hc0 : wr.cell? ⟨b, off, none⟩ = some (.int .i64 v) := hc
      have HV0 := Lib.hid hv0
      clear hop hv0 hc
      by_cases h1 : v < 1
      ·have t1 : decide (v < 1) = true := decide_eq_true h1
       go_wp2_with fail
       go_ret
       exact ⟨by rw [HE.out]; rfl, HB0.out.trans (HBR.out.mono HB0.out.size)⟩
      ·have t1 : decide (v < 1) = false := decide_eq_false h1
       have h6 : 6 < v := by have := HV0.out; omega
       have t6 : decide (6 < v) = true := decide_eq_true h6
       go_wp2_with fail
       go_ret
       exact ⟨by rw [HE.out]; rfl, HB0.out.trans (HBR.out.mono HB0.out.size)⟩
     ·by_cases hw : op = writeT ∧ k = 0
      ·obtain ⟨hop, hk0⟩ := hw
       obtain rfl : eW = true := by rw [HW.out]; exact decide_eq_true hop
       obtain rfl : e0' = true := by rw [HE0.out]; exact decide_eq_true hk0
       subst hk0
       have HWA : Hid (wordA op 0 v = fmtsM.getD (v - 1).toNat []) := by show _ = _; unfold wordA; rw [if_pos ⟨hop, rfl⟩]
       have HNS := Lib.hid hs
       have hv1 : 1 ≤ v ∧ v ≤ 6 := by
        rcases Int.lt_or_le v 1 with h | h
        ·exact absurd ⟨hop, rfl, .inl h⟩ hs
        ·rcases Int.lt_or_le 6 v with h2 | h2
         ·exact absurd ⟨hop, rfl, .inr h2⟩ hs
         ·exact ⟨h, h2⟩
       have HG2 : Hid (goA op 0 (args.take (0 + 1))) := by
        show goA _ _ _
        rw [HTK.out]
        exact goA_snoc HGO.out (by rw [HKL.out, Nat.zero_add]; exact HNS.out)
       have HA2 : Hid (argsS op 0 (args.take (0 + 1)) = argsS op 0 (args.take 0) ++ 32 :: fmtsM.getD (v - 1).toNat []) := by
        show _ = _
        rw [HTK.out, argsS_append HGO.out, HKL.out, Nat.zero_add, argsS_one HNS.out, HWA.out]
       have HBND : Hid ((argsS op 0 (args.take (0 + 1))).length ≤ 22 * (0 + 1)) := by
        show _ ≤ _
        rw [HA2.out, List.length_append, List.length_cons]
        have := fmts_len (v - 1).toNat
        have := HLK.out
        omega
       have j0 : (0 : Int) < m := by have := HLT.out; omega
       have j1 : m ≠ 0 := by have := HLT.out; omega
       have j2 : 0 < m := HLT.out
       have j3 : decide ((0 : Int) < m) = true := decide_eq_true j0
       have y1 : ¬ (9223372036854775807 < zk.size + 1) := by omega
       have hc0 : wr.cell? ⟨b, off, none⟩ = some (.int .i64 v) := hc
       have hbl : b < wr.heap.size := World.block_lt_of_cell? wr _ hc
       have hgl : w.heap.size < wr.heap.size := HBX2.out.lt
       obtain ⟨i, hi⟩ : ∃ i : Nat, v - 1 = i := ⟨(v - 1).toNat, by omega⟩
       have hi6 : i < 6 := by omega
       obtain ⟨zf, hzf⟩ : ∃ z, ba (fmtsM.getD i []) = z := ⟨_, rfl⟩
       have z3 : zk.size + 1 + zf.size ≤ 9223372036854775807 := HZ2.out zf (by rw [← hzf, ba_size]; exact Nat.le_trans (fmts_len _) (by omega))
       have z4 : ¬ (9223372036854775807 < zk.size + 1 + zf.size) := by omega
       have HZF := Lib.hid hzf
       have HI6 := Lib.hid hi6
       have HIE : Hid ((v - 1).toNat = i) := by show _ = _; omega
       have q1 : wrap64 (v - 1) = i := by rw [IntWalk.wrap64_in _ (by omega)]; exact hi
       have q2 : IntKind.i64.wrap (v - 1) = i := by rw [IntKind.wrap_i64]; omega
       have t1 : decide (v < 1) = false := decide_eq_false (by omega)
       have t6 : decide (6 < v) = false := decide_eq_false (by omega)
       have q3 : (0 : Int) ≤ i := by omega
       have q4 : (i : Int) < 6 := by omega
       have q5 : i < 6 := by omega
       have HHW : Hid (Below wr.heap.size wr wr) := Below.refl _ _
       clear hop hs hc hv1 hi hzf hi6
       go_upto_region 16 with (fail)
       refine wp_region_held_drew (S := fun V => V.cell? ⟨w.heap.size, 5, none⟩ = some (.slice (some ⟨b, off, none⟩) m c2) ∧ V.cell? ⟨b, off, none⟩ = some (.int .i64 v)) (by kernel_rfl) ⟨x5, hc0⟩ (fun hHeld => ?_)
       obtain ⟨wv, hwv⟩ : ∃ x, wr.drew = x := ⟨_, rfl⟩
       have HHW : Hid (Below wr.heap.size wr wv) := by show Below _ _ _; rw [← hwv]; exact (Below.refl _ wr).drew
       rw [hwv] at hHeld ⊢
       clear hwv
       refine wpAnyH_take (i := 0) (v := .string zk) rfl (by kernel_rfl) (by kernel_rfl) (by kernel_rfl) (fun _ _ _ h => h) (Or.inl ⟨by rfl, ?_⟩) hHeld ?_
       ·intro wz hSw; obtain ⟨s5, sv⟩ := hSw; go_simp
       try simp only [Act.put, List.getElem_toArray, List.getElem_cons_succ, List.getElem_cons_zero, List.setIfInBounds_toArray, List.set_cons_zero, List.set_cons_succ]
       refine wpAnyH_take (i := 1) (v := .string (zk ++ ⟨#[32]⟩)) rfl (by kernel_rfl) (by kernel_rfl) (by kernel_rfl) (fun _ _ _ h => h) (Or.inl ⟨by rfl, ?_⟩) hHeld ?_
       ·intro wz hSw; obtain ⟨s5, sv⟩ := hSw; go_simp
       try simp only [Act.put, List.getElem_toArray, List.getElem_cons_succ, List.getElem_cons_zero, List.setIfInBounds_toArray, List.set_cons_zero, List.set_cons_succ]
       refine wpAnyH_take (i := 3) (v := .pointer (some ⟨w.heap.size, 5, none⟩)) rfl (by kernel_rfl) (by kernel_rfl) (by kernel_rfl) (fun _ _ _ h => h) (Or.inl ⟨by rfl, ?_⟩) hHeld ?_
       ·intro wz hSw; obtain ⟨s5, sv⟩ := hSw; go_simp
       try simp only [Act.put, List.getElem_toArray, List.getElem_cons_succ, List.getElem_cons_zero, List.setIfInBounds_toArray, List.set_cons_zero, List.set_cons_succ]
       refine wpAnyH_take (i := 4) (v := .slice (some ⟨b, off, none⟩) m c2) rfl (by kernel_rfl) (by kernel_rfl) (by kernel_rfl) (fun _ _ _ h => h) (Or.inl ⟨by rfl, ?_⟩) hHeld ?_
       ·intro wz hSw; obtain ⟨s5, sv⟩ := hSw; go_simp
       try simp only [Act.put, List.getElem_toArray, List.getElem_cons_succ, List.getElem_cons_zero, List.setIfInBounds_toArray, List.set_cons_zero, List.set_cons_succ]
       refine wpAnyH_take (i := 5) (v := .pointer (some ⟨b, off, none⟩)) rfl (by kernel_rfl) (by kernel_rfl) (by kernel_rfl) (fun _ _ _ h => h) (Or.inl ⟨by rfl, ?_⟩) hHeld ?_
       ·intro wz hSw; obtain ⟨s5, sv⟩ := hSw; go_simp
       try simp only [Act.put, List.getElem_toArray, List.getElem_cons_succ, List.getElem_cons_zero, List.setIfInBounds_toArray, List.set_cons_zero, List.set_cons_succ]
       refine wpAnyH_take (i := 6) (v := .int .i64 v) rfl (by kernel_rfl) (by kernel_rfl) (by kernel_rfl) (fun _ _ _ h => h) (Or.inl ⟨by rfl, ?_⟩) hHeld ?_
       ·intro wz hSw; obtain ⟨s5, sv⟩ := hSw; go_simp
       try simp only [Act.put, List.getElem_toArray, List.getElem_cons_succ, List.getElem_cons_zero, List.setIfInBounds_toArray, List.set_cons_zero, List.set_cons_succ]
       refine wpAnyH_take (i := 7) (v := .int .i64 (i : Int)) rfl (by kernel_rfl) (by kernel_rfl) (by kernel_rfl) (fun _ _ _ h => h) (Or.inl ⟨by rfl, ?_⟩) hHeld ?_
       ·intro wz hSw; obtain ⟨s5, sv⟩ := hSw; go_simp
       try simp only [Act.put, List.getElem_toArray, List.getElem_cons_succ, List.getElem_cons_zero, List.setIfInBounds_toArray, List.set_cons_zero, List.set_cons_succ]
       refine wpAnyH_ready (rs := [2]) (by kernel_rfl) (by simp) ?_
       refine AllReadyH.cons rfl (fun K hK => ?_) AllReadyH.nil
       go_simp
       refine (rformats_at _).mono ?_
       rintro e w2 ⟨gf, rfl, hcf, hb2⟩
       have cf := hcf i HI6.out
       rw [HZF.out] at cf
       have HB2 : Hid (Below wr.heap.size wr w2) := HHW.out.trans (hb2.mono HHW.out.size)
       clear hcf
       refine hK.out _ _ ⟨(hb2.cell (p := ⟨w.heap.size, 5, none⟩) (Nat.lt_of_lt_of_le hgl HHW.out.size)).trans hHeld.1, (hb2.cell (p := ⟨b, off, none⟩) (Nat.lt_of_lt_of_le hbl HHW.out.size)).trans hHeld.2⟩ (fun hHeld => ?_)
       clear hK K
       try simp only [Act.put, List.getElem_toArray, List.getElem_cons_succ, List.getElem_cons_zero, List.setIfInBounds_toArray, List.set_cons_zero, List.set_cons_succ]
       clear hb2
       refine wpAnyH_ready (rs := [8]) (by kernel_rfl) (by simp) ?_
       refine AllReadyH.cons rfl (fun K hK => ?_) AllReadyH.nil
       go_simp
       refine hK.out _ _ hHeld (fun hHeld => ?_)
       clear hK K
       try simp only [Act.put, List.getElem_toArray, List.getElem_cons_succ, List.getElem_cons_zero, List.setIfInBounds_toArray, List.set_cons_zero, List.set_cons_succ]
       refine wpAnyH_ready (rs := [9]) (by kernel_rfl) (by simp) ?_
       refine AllReadyH.cons rfl (fun K hK => ?_) AllReadyH.nil
       go_simp
       refine hK.out _ _ hHeld (fun hHeld => ?_)
       clear hK K
       try simp only [Act.put, List.getElem_toArray, List.getElem_cons_succ, List.getElem_cons_zero, List.setIfInBounds_toArray, List.set_cons_zero, List.set_cons_succ]
       refine wpAnyH_ready (rs := [10]) (by kernel_rfl) (by simp) ?_
       refine AllReadyH.cons rfl (fun K hK => ?_) AllReadyH.nil
       go_simp
       refine hK.out _ _ hHeld (fun hHeld => ?_)
       clear hK K
       try simp only [Act.put, List.getElem_toArray, List.getElem_cons_succ, List.getElem_cons_zero, List.setIfInBounds_toArray, List.set_cons_zero, List.set_cons_succ]
       refine wpAnyH_ready (rs := [11]) (by kernel_rfl) (by simp) ?_
       refine AllReadyH.cons rfl (fun K hK => ?_) AllReadyH.nil
       go_simp
       refine hK.out _ _ hHeld (fun hHeld => ?_)
       clear hK K
       try simp only [Act.put, List.getElem_toArray, List.getElem_cons_succ, List.getElem_cons_zero, List.setIfInBounds_toArray, List.set_cons_zero, List.set_cons_succ]
       refine wpAnyH_done (by kernel_rfl) ?_ _
       go_wp2_with fail
       go_roundw
       case rel =>
        refine ⟨0 + 1, HLT.out, ?_, by first | rfl | rw [HU.out], HG2.out, HBND.out, HBR.out.trans (HB2.out.mono HBR.out.size)⟩
        rw [HA2.out, HIE.out, show H ++ (argsS op 0 (args.take 0) ++ 32 :: fmtsM.getD i []) = (H ++ argsS op 0 (args.take 0) ++ [32]) ++ fmtsM.getD i [] by simp, ba_app, ba_app, HZK.out, HZF.out]
        rfl
       case measure => first | exact meas_by (d := 1) HLT.out (by omega) | (rw [HU.out]; exact meas_by (d := 1) HLT.out (by omega))
      ·have HWA : Hid (wordA op k v = itoa v) := by show _ = _; unfold wordA; rw [if_neg hw]
       have HNS := Lib.hid hs
       have z3 := HZ2.out (ba (itoa v)) (by rw [ba_size]; exact itoa_length_le _ HVB.out.1 HVB.out.2)
       have HIT := Lib.hid (itoa_any v HVB.out.1 HVB.out.2 _ HVR.out)
       have HG2 : Hid (goA op 0 (args.take (k + 1))) := by
        show goA _ _ _
        rw [HTK.out]
        exact goA_snoc HGO.out (by rw [HKL.out, Nat.zero_add]; exact HNS.out)
       have HA2 : Hid (argsS op 0 (args.take (k + 1)) = argsS op 0 (args.take k) ++ 32 :: itoa v) := by
        show _ = _
        rw [HTK.out, argsS_append HGO.out, HKL.out, Nat.zero_add, argsS_one HNS.out, HWA.out]
       have HWK : Hid (eW = false ∨ e0' = false) := by
        show _ ∨ _
        rw [HW.out, HE0.out]
        by_cases h : op = writeT
        ·right; exact decide_eq_false fun h2 => hw ⟨h, h2⟩
        ·left; exact decide_eq_false h
       have HBND : Hid ((argsS op 0 (args.take (k + 1))).length ≤ 22 * (k + 1)) := by
        show _ ≤ _
        rw [HA2.out, List.length_append, List.length_cons]
        have := itoa_length_le _ HVB.out.1 HVB.out.2
        have := HLK.out
        omega
       clear hs hw
       rcases HWK.out with h | h
       ·subst h
        go_wp2_with (first | (go_at_call 62; refine HIT.out.mono ?_; rintro e w5 ⟨rfl, hb5⟩; have HB5 := Lib.hid hb5; clear hb5) | fail)
        go_wp2_with fail
        go_roundw
        case rel =>
         refine ⟨k + 1, HLT.out, ?_, by first | rfl | rw [HU.out], HG2.out, HBND.out, HBR.out.trans (HB5.out.mono HBR.out.size)⟩
         rw [HA2.out, show H ++ (argsS op 0 (args.take k) ++ 32 :: itoa v) = (H ++ argsS op 0 (args.take k) ++ [32]) ++ itoa v by simp, ba_app, ba_app, HZK.out]
         rfl
        case measure => first | exact meas_by (d := 1) HLT.out (by omega) | (rw [HU.out]; exact meas_by (d := 1) HLT.out (by omega))
       ·subst h
        cases eW with
        | false =>
         go_wp2_with (first | (go_at_call 62; refine HIT.out.mono ?_; rintro e w5 ⟨rfl, hb5⟩; have HB5 := Lib.hid hb5; clear hb5) | fail)
         go_wp2_with fail
         go_roundw
         case rel =>
          refine ⟨k + 1, HLT.out, ?_, by first | rfl | rw [HU.out], HG2.out, HBND.out, HBR.out.trans (HB5.out.mono HBR.out.size)⟩
          rw [HA2.out, show H ++ (argsS op 0 (args.take k) ++ 32 :: itoa v) = (H ++ argsS op 0 (args.take k) ++ [32]) ++ itoa v by simp, ba_app, ba_app, HZK.out]
          rfl
         case measure => first | exact meas_by (d := 1) HLT.out (by omega) | (rw [HU.out]; exact meas_by (d := 1) HLT.out (by omega))
        | true =>
         go_wp2_with (first | (go_at_call 62; refine HIT.out.mono ?_; rintro e w5 ⟨rfl, hb5⟩; have HB5 := Lib.hid hb5; clear hb5) | fail)
         go_wp2_with fail
         go_roundw
         case rel =>
          refine ⟨k + 1, HLT.out, ?_, by first | rfl | rw [HU.out], HG2.out, HBND.out, HBR.out.trans (HB5.out.mono HBR.out.size)⟩
          rw [HA2.out, show H ++ (argsS op 0 (args.take k) ++ 32 :: itoa v) = (H ++ argsS op 0 (args.take k) ++ [32]) ++ itoa v by simp, ba_app, ba_app, HZK.out]
          rfl
         case measure => first | exact meas_by (d := 1) HLT.out (by omega) | (rw [HU.out]; exact meas_by (d := 1) HLT.out (by omega))
    ·obtain rfl : k = m := by omega
     have d0 : decide ((k : Int) < (k : Int)) = false := decide_eq_false (by omega)
     have HE : Hid (ba (H ++ argsS op 0 (args.take k)) = ba (spellT ⟨op, dst, srcs, file, args⟩)) := by
      show _ = _
      rw [List.take_of_length_le (by rw [HAA.out.len]; exact Nat.le_refl _)]
      unfold spellT
      rw [HH.out]
     rw [HE.out]
     clear hlt hk
     go_wp2_with fail
     go_ret
     exact ⟨rfl, HB0.out.trans (HBR.out.mono HB0.out.size)⟩
end Go.Proofs.YtoofgblmpjndjaaGreatDoor.Scr
