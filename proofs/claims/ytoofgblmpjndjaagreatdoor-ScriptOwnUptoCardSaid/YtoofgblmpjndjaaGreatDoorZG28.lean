/-
  Walks: the reference's step: the operators; the whole of it. (Printed by gen_rstep.py.)
-/
import Derived.Test.YtoofgblmpjndjaaGreatDoorZG26
import Derived.Test.YtoofgblmpjndjaaGreatDoorZG27
import Derived.Test.YtoofgblmpjndjaaGreatDoorZG15
import Derived.Deep.CutBlock
import Derived.Deep.DeepCutAuto
import Derived.Lib.SmallJoins
set_option linter.unusedVariables false
set_option linter.unusedSimpArgs false
namespace Go.Proofs.YtoofgblmpjndjaaGreatDoor.Scr
open Go.RowKit K Go.Lib

theorem all_ends {l : List Tx} {m : Nat} (h : m = 1 ∨ m = 2) (hl : 2 + m ≤ l.length) : ((l.drop 2).take m).all nameB = (nameB (l.getD 2 []) && nameB (l.getD (2 + (m - 1)) [])) := by
 rcases h with rfl | rfl
 ·match l, hl with
  | a :: b :: c :: r, _ => show (nameB c && true) = (nameB c && nameB c); rw [Bool.and_self, Bool.and_true]
 ·match l, hl with
  | a :: b :: c :: d :: r, _ => show (nameB c && (nameB d && true)) = (nameB c && nameB d); rw [Bool.and_true]
set_option maxRecDepth 20000 in
set_option maxHeartbeats 16000000 in
theorem rstep_op {A : Option Addr} {n c : Nat} {l : List Tx} (w : World) (H : SS w A n l) (hn : 1 ≤ n) (hcap : n ≤ c) {op : Tx} (h0 : l.getD 0 [] = op) (h1 : op ≠ readT) (h2 : op ≠ writeT) (h3 : op ≠ fillT) :
  Calls Tryz.prog 27 #[.slice A n c] w (RStepP w (stepM l)) := by
 have HS := Lib.hid H
 have HLN := Lib.hid H.len
 have HCAP := Lib.hid hcap
 have HNS := Lib.hid H.sz
 have H0 := Lib.hid h0
 obtain ⟨r, hr0⟩ : ∃ r, stepM l = r := ⟨_, rfl⟩
 rw [hr0]
 have HR := Lib.hid hr0
 obtain ⟨b0, o0, t0, rfl, hc0, ht0, hb0⟩ := H.cell (i := 0) (by omega)
 have HB0 := Lib.hid hb0
 rw [Nat.add_zero] at hc0
 have htr : op = t0 := by rw [← h0, List.getD_eq_getElem?_getD, ht0]; rfl
 subst htr
 have HNEW : Hid (((w.alloc (.cells #[.int .i64 0, .string ⟨#[]⟩, .string ⟨#[]⟩, .slice none 0 0, .string ⟨#[]⟩, .slice none 0 0] 37)).alloc (.cells #[.int .i64 0, .string ⟨#[]⟩, .string ⟨#[]⟩, .slice none 0 0, .string ⟨#[]⟩, .slice none 0 0] 37)).heap[w.heap.size + 1]? = some (.cells st0 37 (0, 0))) := by
  show _ = _
  have := heap_alloc_new (w.alloc (.cells #[.int .i64 0, .string ⟨#[]⟩, .string ⟨#[]⟩, .slice none 0 0, .string ⟨#[]⟩, .slice none 0 0] 37)) (.cells #[.int .i64 0, .string ⟨#[]⟩, .string ⟨#[]⟩, .slice none 0 0, .string ⟨#[]⟩, .slice none 0 0] 37)
  rwa [World.size_alloc] at this
 have hcA : (w.alloc (.cells #[.int .i64 0, .string ⟨#[]⟩, .string ⟨#[]⟩, .slice none 0 0, .string ⟨#[]⟩, .slice none 0 0] 37)).cell? ⟨b0, o0, none⟩ = some (.string (ba op)) := (((Below.refl _ w).alloc (Nat.le_refl _) _).cell (p := ⟨b0, o0, none⟩) hb0).trans hc0
 have n0 : (0 : Int) < n := by omega
 have n1 : 0 < n := hn
 have n2 : n ≠ 0 := by omega
 have r0 : ((ba op).toList == [114, 101, 97, 100]) = false := by rw [tl_ba]; exact beq_eq_false_iff_ne.2 h1
 have r1 : ((ba op).toList == [119, 114, 105, 116, 101]) = false := by rw [tl_ba]; exact beq_eq_false_iff_ne.2 h2
 have r2 : ((ba op).toList == [102, 105, 108, 108]) = false := by rw [tl_ba]; exact beq_eq_false_iff_ne.2 h3
 have HOP : Hid (op ≠ readT ∧ op ≠ writeT ∧ op ≠ fillT) := ⟨h1, h2, h3⟩
 obtain ⟨zr, hzr⟩ : ∃ z, ba op = z := ⟨_, rfl⟩
 have HZR := Lib.hid hzr
 have HT0 : Hid (zr.data.toList = op) := by show _ = _; rw [← hzr]; rfl
 rw [hzr] at hc0 hcA r0 r1 r2
 have HC0 := Lib.hid hc0
 clear H ht0 h0 hzr hr0 hcap hb0 hc0 h1 h2 h3
 obtain ⟨mq, hmq⟩ : ∃ x, (checkM op []).2 = x := ⟨_, rfl⟩
 have HMQ := Lib.hid hmq
 have htwo := checkM_two op []
 rw [hmq] at htwo
 have HTWO := Lib.hid htwo
 obtain ⟨e0, he0⟩ : ∃ x, (checkM op []).1 = x := ⟨_, rfl⟩
 have HCK : Hid (∀ V, Calls Tryz.prog 61 #[.string zr, .slice none 0 0] V fun e w' => e = .returned (.tuple #[.int .i64 e0, .int .i64 (mq : Int)]) ∧ Below V.heap.size V w') := fun V => by have := rcheck24_any (op := zr) (c := 0) V (SI.nil V); rw [HT0.out, he0, hmq] at this; exact this
 obtain ⟨m2, hm2⟩ : ∃ x, 2 + mq = x := ⟨_, rfl⟩
 have HM2 := Lib.hid hm2
 obtain ⟨q1, hq1⟩ : ∃ x, mq - 1 = x := ⟨_, rfl⟩
 have HQ1 := Lib.hid hq1
 have u1 : wrap64 (2 + (mq : Int)) = (m2 : Int) := by rw [IntWalk.wrap64_in _ (by omega)]; omega
 have u2 : IntKind.i64.wrap (2 + (mq : Int)) = (m2 : Int) := by rw [IntKind.wrap_i64]; omega
 have u3 : wrap64 ((mq : Int) - 1) = (q1 : Int) := by rw [IntWalk.wrap64_in _ (by omega)]; omega
 have u4 : IntKind.i64.wrap ((mq : Int) - 1) = (q1 : Int) := by rw [IntKind.wrap_i64]; omega
 have v0 : (0 : Int) < (mq : Int) := by omega
 have v1 : (q1 : Int) < (mq : Int) := by omega
 have v2 : (0 : Int) ≤ (q1 : Int) := by omega
 have v3 : 0 < mq := by omega
 have v4 : mq ≠ 0 := by omega
 clear hmq he0
 by_cases hm : ¬ m2 ≤ n
 ·have t3 : decide ((n : Int) < (m2 : Int)) = true := decide_eq_true (by omega)
  have t4 : decide (n < m2) = true := decide_eq_true (by omega)
  have HM := Lib.hid hm
  clear hm hm2 hq1 htwo
  go_enter Tryz.func27, Tryz.ntmps27
  have HE : Hid (r = none) := by show _ = _; rw [← HR.out]; rw [stepM_op rfl (by have := H0.out; rw [this]; exact HOP.out.1) (by have := H0.out; rw [this]; exact HOP.out.2.1) (by have := H0.out; rw [this]; exact HOP.out.2.2), if_neg (fun h => HM.out (by have h1 := h.1; rw [H0.out, HMQ.out, HM2.out, HLN.out] at h1; exact h1))]
  go_wp2_with (first | (refine wpList_store_rowG rfl 37 (.tmp 4) (.tmp 15) rfl (w.heap.size + 1) (stC 0 zr ⟨#[]⟩ none 0 0 ⟨#[]⟩ none 0 0) rfl rfl 37 st0 HNEW.out infoSt rfl (stC_one _ _ _ _ _ _ _ _ _ _) ?_; intro W1 hr1 hg1; (have HQ : Hid (RQ w W1 zr ⟨#[]⟩ none 0 0 ⟨#[]⟩ none 0 0) := RQ.start hr1 hg1); clear hr1 hg1 hcA HNEW; (have d0 := (HQ.out.bel.cell (p := ⟨b0, o0, none⟩) HB0.out).trans HC0.out); obtain ⟨SC, HROW, HS6, HONE, HSC⟩ := HQ.out.row; clear HROW HS6 HONE HSC SC) | (go_at_call 61; refine (HCK.out W1).mono ?_; rintro e V2 ⟨rfl, hbv⟩; (have HQ := Lib.hid (HQ.out.on (hbv.mono (by have := HQ.out.lt; omega)))); clear hbv HCK; obtain ⟨SC, HROW, HS6, HONE, HSC⟩ := HQ.out.row) | (refine wpList_load_row rfl 37 (.tmp 4) rfl (w.heap.size + 1) rfl 37 SC (0, 0) _ HROW.out Tryz.underlying37 rfl (by rw [HS6.out]; exact infoSt) ?_) | (refine wpList_store_rowG rfl 37 (.tmp 2) (.tmp 144) rfl w.heap.size SC rfl rfl 37 st0 HQ.out.r (by rw [HS6.out]; exact infoSt) (by rw [HS6.out]; rfl) HONE.out ?_; intro W2 hr2 hg2; (have HR2 := Lib.hid hr2); (have HGW := Lib.hid hg2); clear hr2 hg2) | fail)
  try rw [Exit.noGoto_ret]
  refine bodyPost_ret (Ard.results_row_tmp rfl _ _ w.heap.size 37 (SC) (0, 0) _ rfl HR2.out Tryz.underlying37 rfl (by first | exact infoSt | (rw [HS6.out]; exact infoSt))) rfl ?_
  rw [HE.out]
  exact rno HQ.out HSC.out HGW.out
 replace hm := Decidable.not_not.1 hm
 obtain ⟨b1', o1', t1, e1, hc1, ht1, -⟩ := HS.out.cell (i := 1) (by omega)
 injection e1 with e1
 injection e1 with ea1 eb1
 subst ea1 eb1
 have HG1 : Hid (l.getD 1 [] = t1) := by show _ = _; rw [List.getD_eq_getElem?_getD, ht1]; rfl
 obtain ⟨z1, hz1⟩ : ∃ z, ba t1 = z := ⟨_, rfl⟩
 have HZ1 := Lib.hid hz1
 have HT1 : Hid (z1.data.toList = t1) := by show _ = _; rw [← hz1]; rfl
 rw [hz1] at hc1
 have HC1 := Lib.hid hc1
 have i1 : (1 : Int) < n := by omega
 clear hc1 ht1 hz1
 have t3 : decide ((n : Int) < (m2 : Int)) = false := decide_eq_false (by omega)
 have t4 : decide (n < m2) = false := decide_eq_false (by omega)
 have hsp := fun w => run_part (P := Tryz.prog) (t := 34) (e := 9) (n := n) (c := c) (A := some ⟨b0, o0, none⟩) (a := 2) (m := m2) (i := 2) (j := (m2 : Int)) Tryz.underlying34 szS rfl rfl (by omega) (by have := HCAP.out; omega) w
 have HST := Lib.hid (ssTake (m := mq) (ssDrop HS.out (a := 2) (c := c) (by omega) HCAP.out) (by omega))
 obtain ⟨XS, hXS⟩ : ∃ x, subA (some ⟨b0, o0, none⟩) 2 c = x := ⟨_, rfl⟩
 obtain ⟨cs, hcs⟩ : ∃ x, c - 2 = x := ⟨_, rfl⟩
 rw [hXS, show m2 - 2 = mq by omega, hcs] at hsp
 rw [hXS] at HST
 clear hXS hcs
 have hsl := fun w => run_from (P := Tryz.prog) (t := 34) (e := 9) (n := n) (c := c) (A := some ⟨b0, o0, none⟩) (a := m2) (i := (m2 : Int)) Tryz.underlying34 szS rfl hm w
 have HSD := Lib.hid (ssDrop HS.out (a := m2) (c := c) hm HCAP.out)
 obtain ⟨X, hX⟩ : ∃ x, subA (some ⟨b0, o0, none⟩) m2 c = x := ⟨_, rfl⟩
 obtain ⟨m, hmm⟩ : ∃ x, n - m2 = x := ⟨_, rfl⟩
 obtain ⟨cm, hcm⟩ : ∃ x, c - m2 = x := ⟨_, rfl⟩
 rw [hX, hmm, hcm] at hsl
 rw [hX, hmm] at HSD
 clear hX hmm hcm
 obtain ⟨a0, ha0⟩ : ∃ x, (numsM (l.drop m2)).getD [] = x := ⟨_, rfl⟩
 have HA0 := Lib.hid ha0
 obtain ⟨okb, hok⟩ : ∃ x, (numsM (l.drop m2)).isSome = x := ⟨_, rfl⟩
 have HOK := Lib.hid hok
 obtain ⟨na, hna⟩ : ∃ x, a0.length = x := ⟨_, rfl⟩
 have HNA := Lib.hid hna
 have HNUMS : Hid (∀ V, Below w.heap.size w V → Calls Tryz.prog 57 #[.slice X m cm] V fun e w' => Below V.heap.size V w' ∧ ∃ A c, e = .returned (.tuple #[.slice A na c, .bool okb]) ∧ w'.ownsRow V.heap.size 3 1 (.slice A na c) na (a0.map (.int .i64))) := fun V hV => by have := rnumbers_u (c := cm) V (HSD.out.below hV); rw [ha0, hok, hna] at this; exact this
 have HNL : Hid (na * 8 ≤ 70368744176000) := by
  show _ ≤ _
  rw [← hna, ← ha0]
  have h2 := HSD.out.len
  have h4 := HSD.out.sz
  cases hx : numsM (l.drop m2) with
  | none => exact Nat.zero_le _
  | some y => have h1 := numsM_len hx; show y.length * 8 ≤ _; omega
 clear ha0 hok hna
 have HM := Lib.hid hm
 have HSQ : Hid ((((l.drop 2).take mq).map vS)[0]? = some (vS (l.getD 2 [])) ∧ (((l.drop 2).take mq).map vS)[q1]? = some (vS (l.getD (2 + q1) []))) := by
  have hl := HLN.out
  refine ⟨?_, ?_⟩
  ·rw [List.getElem?_map, List.getElem?_take, if_pos (by omega), List.getElem?_drop, List.getElem?_eq_getElem (by omega), List.getD_eq_getElem?_getD, List.getElem?_eq_getElem (by omega)]; rfl
  ·rw [List.getElem?_map, List.getElem?_take, if_pos (by omega), List.getElem?_drop, List.getElem?_eq_getElem (by omega), List.getD_eq_getElem?_getD, List.getElem?_eq_getElem (by omega)]; rfl
 have HALL := Lib.hid (all_ends (l := l) htwo (by rw [HLN.out]; omega))
 rw [hq1] at HALL
 obtain ⟨ts, hts⟩ : ∃ x, l.getD 2 [] = x := ⟨_, rfl⟩
 obtain ⟨tq, htq⟩ : ∃ x, l.getD (2 + q1) [] = x := ⟨_, rfl⟩
 rw [hts, htq] at HSQ HALL
 obtain ⟨zs, hzs⟩ : ∃ z, ba ts = z := ⟨_, rfl⟩
 have HZS : Hid (zs.data.toList = ts) := by show _ = _; rw [← hzs]; rfl
 obtain ⟨zq, hzq⟩ : ∃ z, ba tq = z := ⟨_, rfl⟩
 have HZQ : Hid (zq.data.toList = tq) := by show _ = _; rw [← hzq]; rfl
 have HSQ : Hid ((((l.drop 2).take mq).map vS)[0]? = some (.string zs) ∧ (((l.drop 2).take mq).map vS)[q1]? = some (.string zq)) := by rw [← hzs, ← hzq]; exact HSQ.out
 clear hts htq hzs hzq hm hm2 hq1 htwo
 go_enter Tryz.func27, Tryz.ntmps27
 go_upto_region 34 with (first | (refine wpList_store_rowG rfl 37 (.tmp 4) (.tmp 15) rfl (w.heap.size + 1) (stC 0 zr ⟨#[]⟩ none 0 0 ⟨#[]⟩ none 0 0) rfl rfl 37 st0 HNEW.out infoSt rfl (stC_one _ _ _ _ _ _ _ _ _ _) ?_; intro W1 hr1 hg1; (have HQ : Hid (RQ w W1 zr ⟨#[]⟩ none 0 0 ⟨#[]⟩ none 0 0) := RQ.start hr1 hg1); clear hr1 hg1 hcA HNEW; (have d0 := (HQ.out.bel.cell (p := ⟨b0, o0, none⟩) HB0.out).trans HC0.out); obtain ⟨SC, HROW, HS6, HONE, HSC⟩ := HQ.out.row; clear HROW HS6 HONE HSC SC) | (go_at_call 61; refine (HCK.out W1).mono ?_; rintro e V2 ⟨rfl, hbv⟩; (have HQ := Lib.hid (HQ.out.on (hbv.mono (by have := HQ.out.lt; omega)))); clear hbv HCK; (have d1 := (HQ.out.bel.cell (p := ⟨b0, o0 + 1, none⟩) HB0.out).trans HC1.out); (have yc := HQ.out.cells); obtain ⟨⟨y1, y2, y3, y4, y5⟩, yf⟩ := yc; (have f2 := yf 2); obtain ⟨W3, hWW3, hqn⟩ : ∃ x, V2.setCell ⟨w.heap.size + 1, 2, none⟩ (.string z1) = x ∧ RQ w x zr z1 none 0 0 ⟨#[]⟩ none 0 0 := ⟨_, rfl, HQ.out.setDst z1⟩; (have HQ := Lib.hid hqn); clear hqn; clear y1 y3 y4 y5 yf; obtain ⟨V4, hV4⟩ : ∃ x, W3.alloc (.cells #[] 9) = x := ⟨_, rfl⟩; (have hbase : w.heap.size + 2 ≤ W3.heap.size := by have := HQ.out.lt; omega); (have HO4 : Hid (V4.ownsRow (w.heap.size + 2) 9 1 (.slice (some ⟨W3.heap.size, 0, none⟩) 0 0) 0 []) := (by rw [← hV4]; exact own_lower (own_lit W3 [] 9 (Nat.zero_le _)) hbase)); (have hbv : Below W3.heap.size W3 V4 := by rw [← hV4]; exact (Below.refl _ _).alloc (Nat.le_refl _) _); (have HQ := Lib.hid (HQ.out.on (hbv.mono hbase))); (have HB4 : Hid (w.heap.size + 2 ≤ V4.heap.size) := (by show _ ≤ _; have := HQ.out.lt; omega)); (have HBASE := Lib.hid hbase); (have HST4 := Lib.hid (HST.out.below HQ.out.bel)); clear hbv hbase) | (at_builtin; refine wpList_append_slS rfl (.tmp 149) (.tmp 153) _ rfl (w.heap.size + 2) 9 1 16 (.string ⟨#[]⟩) Tryz.underlying34 infoStr rfl (by omega) (.slice (some ⟨W3.heap.size, 0, none⟩) 0 0) 0 [] rfl HO4.out XS mq cs (((l.drop 2).take mq).map vS) rfl (by rw [List.length_map, HST4.out.len]; omega) HST4.out.sl (by intro u hu; obtain ⟨x, _, rfl⟩ := List.mem_map.1 hu; rfl) (by have := HST4.out.sz; unfold maxLen; omega) (by have := HST4.out.sz; omega) HB4.out ?_; intro A5 c5 V5 _ ho hg0; (have hg : V4.grownBy V5 (some W3.heap.size) := hg0); (have HSRC : Hid (V5.ownsRow (w.heap.size + 2) 9 1 (.slice A5 mq c5) mq (((l.drop 2).take mq).map vS)) := (by have h := ho; rw [Nat.zero_add] at h; exact h)); (have hQ2 := HQ.out.on ((Below.refl _ _).grown hg HB4.out (fun k e => by injection e with e; have := HBASE.out; omega))); clear ho hg hg0; obtain ⟨⟨y1, y2, y3, y4, y5⟩, yf⟩ := hQ2.cells; (have f3 := yf 3); obtain ⟨W6, hW6, hqn⟩ : ∃ x, V5.setCell ⟨w.heap.size + 1, 3, none⟩ (.slice A5 mq c5) = x ∧ RQ w x zr z1 A5 mq c5 ⟨#[]⟩ none 0 0 := ⟨_, rfl, hQ2.setSrcs A5 mq c5⟩; (have HQ := Lib.hid hqn); (have HSRC := Lib.hid (ownsRow_setCell_below HSRC.out (a := ⟨w.heap.size + 1, 3, none⟩) (by show w.heap.size + 1 < w.heap.size + 2; omega) (.slice A5 mq c5))); rw [hW6] at HSRC; clear hqn hQ2 y1 y2 y4 y5 yf HST4) | (go_at_call 57; refine (HNUMS.out W6 HQ.out.bel).mono ?_; rintro e Vn ⟨hbv, A2, cA, rfl, hown⟩; (have hbase : w.heap.size + 2 ≤ W6.heap.size := by have := HQ.out.lt; omega); (have HQ := Lib.hid (HQ.out.on (hbv.mono hbase))); (have HOWN := Lib.hid (own_lower hown hbase)); (have HSRC := Lib.hid (own_below HSRC.out hbv)); clear hbv hown hbase HNUMS; (have yc := HQ.out.cells); obtain ⟨⟨y1, y2, y3, y4, y5⟩, yf⟩ := yc; (have f5 := yf 5); obtain ⟨W8, hWn, hqn⟩ : ∃ x, Vn.setCell ⟨w.heap.size + 1, 5, none⟩ (.slice A2 na cA) = x ∧ RQ w x zr z1 A5 mq c5 ⟨#[]⟩ A2 na cA := ⟨_, rfl, HQ.out.setArgs A2 na cA⟩; (have HOWN := Lib.hid (ownsRow_setCell_below HOWN.out (a := ⟨w.heap.size + 1, 5, none⟩) (by show w.heap.size + 1 < w.heap.size + 2; omega) (.slice A2 na cA))); rw [hWn] at HOWN; (have HSRC := Lib.hid (ownsRow_setCell_below HSRC.out (a := ⟨w.heap.size + 1, 5, none⟩) (by show w.heap.size + 1 < w.heap.size + 2; omega) (.slice A2 na cA))); rw [hWn] at HSRC; (have HQ := Lib.hid hqn); clear y1 y2 y3 y4 yf hqn) | fail)
 obtain ⟨g5, c5', hg5⟩ := Go.Joins.ownsRow_form HSRC.out v3
 injection hg5 with hg5 _ hc5
 subst hg5 hc5
 have w3 := HQ.out.cells.1.2.2.1
 have w2 := HQ.out.cells.1.2.1
 have ws := HSRC.out.cells (g := g5) rfl 0 _ HSQ.out.1
 have wq := HSRC.out.cells (g := g5) rfl q1 _ HSQ.out.2
 rw [Addr.add_lit] at ws wq
 rw [Nat.zero_add] at ws wq
 obtain ⟨nb, hnb⟩ : ∃ b, nameB z1.data.toList = b := ⟨_, rfl⟩
 have HNB := Lib.hid hnb
 obtain ⟨ns, hns⟩ : ∃ b, nameB zs.data.toList = b := ⟨_, rfl⟩
 have HNS2 := Lib.hid hns
 obtain ⟨nq, hnq⟩ : ∃ b, nameB zq.data.toList = b := ⟨_, rfl⟩
 have HNQ := Lib.hid hnq
 clear hnb hns hnq
 have hcA0 : True := trivial
 cases okb
 case false =>
  obtain ⟨SC, HROW, HS6, HONE, HSC⟩ := HQ.out.row
  have HE : Hid (r = none) := by
   show _ = _
   have HRA : Hid (numsM (l.drop m2) = none) := by
    show _ = _
    have h1 := HOK.out
    cases hx : numsM (l.drop m2) with
    | none => rfl
    | some y => rw [hx] at h1; cases h1
   rw [← HR.out, stepM_op rfl (by have := H0.out; rw [this]; exact HOP.out.1) (by have := H0.out; rw [this]; exact HOP.out.2.1) (by have := H0.out; rw [this]; exact HOP.out.2.2), H0.out, HMQ.out, HM2.out, HRA.out]
   exact ite_self _
  go_upto_region 35 with (fail)
  clear hV4 hW6 hWn hsl hsp v0 v1 v2 v3 v4 u1 u2 u3 u4 w3 w2 ws wq
  go_wp2_with (first | (refine wpList_load_row rfl 37 (.tmp 4) rfl (w.heap.size + 1) rfl 37 SC (0, 0) _ HROW.out Tryz.underlying37 rfl (by rw [HS6.out]; exact infoSt) ?_) | (refine wpList_store_rowG rfl 37 (.tmp 2) (.tmp 191) rfl w.heap.size SC rfl rfl 37 st0 HQ.out.r (by rw [HS6.out]; exact infoSt) (by rw [HS6.out]; rfl) HONE.out ?_; intro W2 hr2 hg2; (have HR2 := Lib.hid hr2); (have HGW := Lib.hid hg2); clear hr2 hg2) | fail)
  try rw [Exit.noGoto_ret]
  refine bodyPost_ret (Ard.results_row_tmp rfl _ _ w.heap.size 37 (SC) (0, 0) _ rfl HR2.out Tryz.underlying37 rfl (by first | exact infoSt | (rw [HS6.out]; exact infoSt))) rfl ?_
  rw [HE.out]
  exact rno HQ.out HSC.out HGW.out
 case true =>
  cases nb
  case false =>
   obtain ⟨SC, HROW, HS6, HONE, HSC⟩ := HQ.out.row
   have HE : Hid (r = none) := by
    show _ = _
    rw [← HR.out, stepM_op rfl (by have := H0.out; rw [this]; exact HOP.out.1) (by have := H0.out; rw [this]; exact HOP.out.2.1) (by have := H0.out; rw [this]; exact HOP.out.2.2), H0.out, HMQ.out, HM2.out, if_neg (fun h => by have h2 := h.2.1; rw [HG1.out, ← HT1.out, HNB.out] at h2; exact absurd h2 (by decide))]
   go_upto_region 35 with (first | (go_at_call 55; (have k1 := HNB.out); refine (rname_any z1 _).mono ?_; rintro e w' ⟨rfl, rfl⟩; rw [k1]; clear HNB k1) | fail)
   clear hV4 hW6 hWn hsl hsp v0 v1 v2 v3 v4 u1 u2 u3 u4 w3 w2 ws wq
   go_wp2_with (first | (refine wpList_load_row rfl 37 (.tmp 4) rfl (w.heap.size + 1) rfl 37 SC (0, 0) _ HROW.out Tryz.underlying37 rfl (by rw [HS6.out]; exact infoSt) ?_) | (refine wpList_store_rowG rfl 37 (.tmp 2) (.tmp 191) rfl w.heap.size SC rfl rfl 37 st0 HQ.out.r (by rw [HS6.out]; exact infoSt) (by rw [HS6.out]; rfl) HONE.out ?_; intro W2 hr2 hg2; (have HR2 := Lib.hid hr2); (have HGW := Lib.hid hg2); clear hr2 hg2) | fail)
   try rw [Exit.noGoto_ret]
   refine bodyPost_ret (Ard.results_row_tmp rfl _ _ w.heap.size 37 (SC) (0, 0) _ rfl HR2.out Tryz.underlying37 rfl (by first | exact infoSt | (rw [HS6.out]; exact infoSt))) rfl ?_
   rw [HE.out]
   exact rno HQ.out HSC.out HGW.out
  case true =>
   have HN1 := HNB
   cases ns
   case false =>
    obtain ⟨SC, HROW, HS6, HONE, HSC⟩ := HQ.out.row
    have HE : Hid (r = none) := by
     show _ = _
     rw [← HR.out, stepM_op rfl (by have := H0.out; rw [this]; exact HOP.out.1) (by have := H0.out; rw [this]; exact HOP.out.2.1) (by have := H0.out; rw [this]; exact HOP.out.2.2), H0.out, HMQ.out, HM2.out, if_neg (fun h => by have h2 := h.2.2; rw [HALL.out, ← HZS.out, HNS2.out, Bool.false_and] at h2; exact absurd h2 (by decide))]
    go_upto_region 35 with (first | (go_at_call 55; (have k1 := HNB.out); refine (rname_any z1 _).mono ?_; rintro e w' ⟨rfl, rfl⟩; rw [k1]; clear HNB k1) | (go_at_call 55; (have k1 := HNS2.out); refine (rname_any zs _).mono ?_; rintro e w' ⟨rfl, rfl⟩; rw [k1]; clear HNS2 k1) | fail)
    clear hV4 hW6 hWn hsl hsp v0 v1 v2 v3 v4 u1 u2 u3 u4 w3 w2 ws wq
    go_wp2_with (first | (refine wpList_load_row rfl 37 (.tmp 4) rfl (w.heap.size + 1) rfl 37 SC (0, 0) _ HROW.out Tryz.underlying37 rfl (by rw [HS6.out]; exact infoSt) ?_) | (refine wpList_store_rowG rfl 37 (.tmp 2) (.tmp 191) rfl w.heap.size SC rfl rfl 37 st0 HQ.out.r (by rw [HS6.out]; exact infoSt) (by rw [HS6.out]; rfl) HONE.out ?_; intro W2 hr2 hg2; (have HR2 := Lib.hid hr2); (have HGW := Lib.hid hg2); clear hr2 hg2) | fail)
    try rw [Exit.noGoto_ret]
    refine bodyPost_ret (Ard.results_row_tmp rfl _ _ w.heap.size 37 (SC) (0, 0) _ rfl HR2.out Tryz.underlying37 rfl (by first | exact infoSt | (rw [HS6.out]; exact infoSt))) rfl ?_
    rw [HE.out]
    exact rno HQ.out HSC.out HGW.out
   case true =>
    have HN2 := HNS2
    cases nq
    case false =>
     obtain ⟨SC, HROW, HS6, HONE, HSC⟩ := HQ.out.row
     have HE : Hid (r = none) := by
      show _ = _
      rw [← HR.out, stepM_op rfl (by have := H0.out; rw [this]; exact HOP.out.1) (by have := H0.out; rw [this]; exact HOP.out.2.1) (by have := H0.out; rw [this]; exact HOP.out.2.2), H0.out, HMQ.out, HM2.out, if_neg (fun h => by have h2 := h.2.2; rw [HALL.out, ← HZQ.out, HNQ.out, Bool.and_false] at h2; exact absurd h2 (by decide))]
     go_upto_region 35 with (first | (go_at_call 55; (have k1 := HNB.out); refine (rname_any z1 _).mono ?_; rintro e w' ⟨rfl, rfl⟩; rw [k1]; clear HNB k1) | (go_at_call 55; (have k1 := HNS2.out); refine (rname_any zs _).mono ?_; rintro e w' ⟨rfl, rfl⟩; rw [k1]; clear HNS2 k1) | (go_at_call 55; (have k1 := HNQ.out); refine (rname_any zq _).mono ?_; rintro e w' ⟨rfl, rfl⟩; rw [k1]; clear HNQ k1) | fail)
     clear hV4 hW6 hWn hsl hsp v0 v1 v2 v3 v4 u1 u2 u3 u4 w3 w2 ws wq
     go_wp2_with (first | (refine wpList_load_row rfl 37 (.tmp 4) rfl (w.heap.size + 1) rfl 37 SC (0, 0) _ HROW.out Tryz.underlying37 rfl (by rw [HS6.out]; exact infoSt) ?_) | (refine wpList_store_rowG rfl 37 (.tmp 2) (.tmp 191) rfl w.heap.size SC rfl rfl 37 st0 HQ.out.r (by rw [HS6.out]; exact infoSt) (by rw [HS6.out]; rfl) HONE.out ?_; intro W2 hr2 hg2; (have HR2 := Lib.hid hr2); (have HGW := Lib.hid hg2); clear hr2 hg2) | fail)
     try rw [Exit.noGoto_ret]
     refine bodyPost_ret (Ard.results_row_tmp rfl _ _ w.heap.size 37 (SC) (0, 0) _ rfl HR2.out Tryz.underlying37 rfl (by first | exact infoSt | (rw [HS6.out]; exact infoSt))) rfl ?_
     rw [HE.out]
     exact rno HQ.out HSC.out HGW.out
    case true =>
     have HN3 := HNQ
     obtain ⟨e1, he1⟩ : ∃ x, (checkM op a0).1 = x := ⟨_, rfl⟩
     have HE1 := Lib.hid he1
     obtain ⟨q2, hq2⟩ : ∃ x, ((checkM op a0).2 : Int) = x := ⟨_, rfl⟩
     have HCK2 : Hid (∀ V, SI V .i64 A2 na a0 → Calls Tryz.prog 61 #[.string zr, .slice A2 na cA] V fun e w' => e = .returned (.tuple #[.int .i64 e1, .int .i64 q2]) ∧ Below V.heap.size V w') := fun V h => by have := rcheck24_any (op := zr) (c := cA) V h; rw [HT0.out, he1, hq2] at this; exact this
     obtain ⟨fo, hfo⟩ : ∃ b, (e1 == 0) = b := ⟨_, rfl⟩
     have fo2 : decide (e1 = 0) = fo := by rw [← hfo]; rfl
     have HFO : Hid ((e1 == 0) = fo) := hfo
     clear he1 hq2
     go_upto_region 36 with (first | (go_at_call 55; (have k1 := HNB.out); refine (rname_any z1 _).mono ?_; rintro e w' ⟨rfl, rfl⟩; rw [k1]; clear HNB k1) | (go_at_call 55; (have k1 := HNS2.out); refine (rname_any zs _).mono ?_; rintro e w' ⟨rfl, rfl⟩; rw [k1]; clear HNS2 k1) | (go_at_call 55; (have k1 := HNQ.out); refine (rname_any zq _).mono ?_; rintro e w' ⟨rfl, rfl⟩; rw [k1]; clear HNQ k1) | fail)
     clear hV4 hW6 hWn hsl hsp v0 v1 v2 v3 v4 u1 u2 u3 u4 w3 w2 ws wq
     refine wp_region_held_drew (S := fun V => V.cell? ⟨b0, o0, none⟩ = some (.string zr) ∧ V.cell? ⟨w.heap.size + 1, 5, none⟩ = some (.slice A2 na cA)) (by kernel_rfl) ⟨(HQ.out.bel.cell (p := ⟨b0, o0, none⟩) HB0.out).trans HC0.out, HQ.out.cells.1.2.2.2.2⟩ (fun hHeld => ?_)
     obtain ⟨V50, hV⟩ : ∃ x, W8.drew = x := ⟨_, rfl⟩
     have HQ := Lib.hid (HQ.out.on (Below.refl _ _).drew)
     have HSRC := Lib.hid (own_below HSRC.out (Below.refl _ _).drew)
     have HOWN := Lib.hid (own_below HOWN.out (Below.refl _ _).drew)
     rw [hV] at HQ HSRC HOWN hHeld ⊢
     clear hV
     refine wpAnyH_take (i := 0) (v := .slice (some ⟨b0, o0, none⟩) n c) rfl (by kernel_rfl) (by kernel_rfl) (by kernel_rfl) (fun _ _ _ h => h) (Or.inl ⟨by rfl, ?_⟩) hHeld ?_
     ·intro wz hSw; obtain ⟨s0, s5⟩ := hSw; go_simp
     try simp only [Act.put, List.getElem_toArray, List.getElem_cons_succ, List.getElem_cons_zero, List.setIfInBounds_toArray, List.set_cons_zero, List.set_cons_succ]
     refine wpAnyH_take (i := 1) (v := .pointer (some ⟨b0, o0, none⟩)) rfl (by kernel_rfl) (by kernel_rfl) (by kernel_rfl) (fun _ _ _ h => h) (Or.inl ⟨by rfl, ?_⟩) hHeld ?_
     ·intro wz hSw; obtain ⟨s0, s5⟩ := hSw; go_simp
     try simp only [Act.put, List.getElem_toArray, List.getElem_cons_succ, List.getElem_cons_zero, List.setIfInBounds_toArray, List.set_cons_zero, List.set_cons_succ]
     refine wpAnyH_take (i := 2) (v := .string zr) rfl (by kernel_rfl) (by kernel_rfl) (by kernel_rfl) (fun _ _ _ h => h) (Or.inl ⟨by rfl, ?_⟩) hHeld ?_
     ·intro wz hSw; obtain ⟨s0, s5⟩ := hSw; go_simp
     try simp only [Act.put, List.getElem_toArray, List.getElem_cons_succ, List.getElem_cons_zero, List.setIfInBounds_toArray, List.set_cons_zero, List.set_cons_succ]
     refine wpAnyH_take (i := 3) (v := .pointer (some ⟨w.heap.size + 1, 5, none⟩)) rfl (by kernel_rfl) (by kernel_rfl) (by kernel_rfl) (fun _ _ _ h => h) (Or.inl ⟨by rfl, ?_⟩) hHeld ?_
     ·intro wz hSw; obtain ⟨s0, s5⟩ := hSw; go_simp
     try simp only [Act.put, List.getElem_toArray, List.getElem_cons_succ, List.getElem_cons_zero, List.setIfInBounds_toArray, List.set_cons_zero, List.set_cons_succ]
     refine wpAnyH_take (i := 4) (v := .slice A2 na cA) rfl (by kernel_rfl) (by kernel_rfl) (by kernel_rfl) (fun _ _ _ h => h) (Or.inl ⟨by rfl, ?_⟩) hHeld ?_
     ·intro wz hSw; obtain ⟨s0, s5⟩ := hSw; go_simp
     try simp only [Act.put, List.getElem_toArray, List.getElem_cons_succ, List.getElem_cons_zero, List.setIfInBounds_toArray, List.set_cons_zero, List.set_cons_succ]
     refine wpAnyH_ready (rs := [5]) (by kernel_rfl) (by simp) ?_
     refine AllReadyH.cons rfl (fun K hK => ?_) AllReadyH.nil
     go_simp
     refine (HCK2.out _ (SI.of_own HOWN.out (by have := HNL.out; show na * 8 ≤ _; omega))).mono ?_
     rintro e V52 ⟨rfl, hbv⟩
     have HQ := Lib.hid (HQ.out.on (hbv.mono (by have := HQ.out.lt; omega)))
     have HOWN := Lib.hid (own_below HOWN.out hbv)
     have HSRC := Lib.hid (own_below HSRC.out hbv)
     clear hbv
     refine hK.out _ _ ⟨(HQ.out.bel.cell (p := ⟨b0, o0, none⟩) HB0.out).trans HC0.out, HQ.out.cells.1.2.2.2.2⟩ (fun hHeld => ?_)
     clear hK K
     try simp only [Act.put, List.getElem_toArray, List.getElem_cons_succ, List.getElem_cons_zero, List.setIfInBounds_toArray, List.set_cons_zero, List.set_cons_succ]
     refine wpAnyH_take (i := 6) (v := .tuple #[.int .i64 e1, .int .i64 q2]) rfl (by kernel_rfl) (by kernel_rfl) (by kernel_rfl) (fun _ _ _ h => h) (Or.inl ⟨by rfl, ?_⟩) hHeld ?_
     ·intro wz hSw; obtain ⟨s0, s5⟩ := hSw; go_simp
     try simp only [Act.put, List.getElem_toArray, List.getElem_cons_succ, List.getElem_cons_zero, List.setIfInBounds_toArray, List.set_cons_zero, List.set_cons_succ]
     refine wpAnyH_take (i := 7) (v := .int .i64 e1) rfl (by kernel_rfl) (by kernel_rfl) (by kernel_rfl) (fun _ _ _ h => h) (Or.inl ⟨by rfl, ?_⟩) hHeld ?_
     ·intro wz hSw; obtain ⟨s0, s5⟩ := hSw; go_simp
     try simp only [Act.put, List.getElem_toArray, List.getElem_cons_succ, List.getElem_cons_zero, List.setIfInBounds_toArray, List.set_cons_zero, List.set_cons_succ]
     refine wpAnyH_take (i := 8) (v := .int .i64 q2) rfl (by kernel_rfl) (by kernel_rfl) (by kernel_rfl) (fun _ _ _ h => h) (Or.inl ⟨by rfl, ?_⟩) hHeld ?_
     ·intro wz hSw; obtain ⟨s0, s5⟩ := hSw; go_simp
     try simp only [Act.put, List.getElem_toArray, List.getElem_cons_succ, List.getElem_cons_zero, List.setIfInBounds_toArray, List.set_cons_zero, List.set_cons_succ]
     refine wpAnyH_ready (rs := [9]) (by kernel_rfl) (by simp) ?_
     refine AllReadyH.cons rfl (fun K hK => ?_) AllReadyH.nil
     go_simp
     refine hK.out _ _ hHeld (fun hHeld => ?_)
     clear hK K
     try simp only [Act.put, List.getElem_toArray, List.getElem_cons_succ, List.getElem_cons_zero, List.setIfInBounds_toArray, List.set_cons_zero, List.set_cons_succ]
     refine wpAnyH_ready (rs := [10]) (by kernel_rfl) (by simp) ?_
     refine AllReadyH.cons rfl (fun K hK => ?_) AllReadyH.nil
     go_simp
     refine hK.out _ _ hHeld (fun hHeld => ?_)
     clear hK K
     try simp only [Act.put, List.getElem_toArray, List.getElem_cons_succ, List.getElem_cons_zero, List.setIfInBounds_toArray, List.set_cons_zero, List.set_cons_succ]
     refine wpAnyH_done (by kernel_rfl) ?_ _
     obtain ⟨SC, HROW, HS6, HONE, HSC⟩ := HQ.out.row
     go_wp2_with (first | (refine wpList_load_row rfl 37 (.tmp 4) rfl (w.heap.size + 1) rfl 37 SC (0, 0) _ HROW.out Tryz.underlying37 rfl (by rw [HS6.out]; exact infoSt) ?_) | (refine wpList_store_rowG rfl 37 (.tmp 2) (.tmp 201) rfl w.heap.size SC rfl rfl 37 st0 HQ.out.r (by rw [HS6.out]; exact infoSt) (by rw [HS6.out]; rfl) HONE.out ?_; intro W2 hr2 hg2; (have HR2 := Lib.hid hr2); (have HGW := Lib.hid hg2); clear hr2 hg2) | fail)
     try rw [Exit.noGoto_ret]
     refine bodyPost_ret (Ard.results_row_tmp rfl _ _ w.heap.size 37 (SC) (0, 0) _ rfl HR2.out Tryz.underlying37 rfl (by first | exact infoSt | (rw [HS6.out]; exact infoSt))) rfl ?_
     have HRA : Hid (numsM (l.drop m2) = some a0) := by
      show _ = _
      have h1 := HOK.out
      rw [← HA0.out]
      cases hx : numsM (l.drop m2) with
      | none => rw [hx] at h1; cases h1
      | some y => rfl
     have HE : Hid (r = if fo then some ⟨op, t1, (l.drop 2).take mq, [], a0⟩ else none) := by
      show _ = _
      rw [← HR.out, stepM_op rfl (by have := H0.out; rw [this]; exact HOP.out.1) (by have := H0.out; rw [this]; exact HOP.out.2.1) (by have := H0.out; rw [this]; exact HOP.out.2.2), H0.out, HMQ.out, HM2.out, if_pos ⟨by rw [HLN.out]; exact HM.out, by rw [HG1.out, ← HT1.out]; exact HN1.out, by rw [HALL.out, ← HZS.out, ← HZQ.out, HN2.out, HN3.out]; rfl⟩, HRA.out, HG1.out]
      show (if (checkM op a0).1 = 0 then _ else _) = _
      rw [HE1.out, ← HFO.out]
      by_cases hz : e1 = 0
      ·rw [if_pos hz, if_pos (by rw [hz]; rfl)]
      ·rw [if_neg hz, if_neg (by simpa using hz)]
     rw [HE.out]
     exact rend fo HQ.out HSC.out HGW.out HZR.out HZ1.out rfl HSRC.out HOWN.out
theorem rstep_any {A : Option Addr} {n c : Nat} {l : List Tx} (w : World) (H : SS w A n l) (hn : 1 ≤ n) (hcap : n ≤ c) : Calls Tryz.prog 27 #[.slice A n c] w (RStepP w (stepM l)) := by
 by_cases h1 : l.getD 0 [] = readT
 ·exact rstep_read w H hn hcap h1
 by_cases h2 : l.getD 0 [] = writeT
 ·exact rstep_write w H hn hcap h2
 by_cases h3 : l.getD 0 [] = fillT
 ·exact rstep_fill w H hn hcap h3
 exact rstep_op w H hn hcap rfl h1 h2 h3
end Go.Proofs.YtoofgblmpjndjaaGreatDoor.Scr
