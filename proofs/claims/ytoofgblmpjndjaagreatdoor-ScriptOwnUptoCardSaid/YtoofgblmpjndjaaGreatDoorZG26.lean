/-
  Walks: the reference's step: 'read', 'fill'. (Printed by gen_rstep.py.)
-/
import Derived.Test.YtoofgblmpjndjaaGreatDoorZG25
set_option linter.unusedVariables false
set_option linter.unusedSimpArgs false
namespace Go.Proofs.YtoofgblmpjndjaaGreatDoor.Scr
open Go.RowKit K Go.Lib

set_option maxRecDepth 20000 in
set_option maxHeartbeats 16000000 in
theorem rstep_read {A : Option Addr} {n c : Nat} {l : List Tx} (w : World) (H : SS w A n l) (hn : 1 ≤ n) (hcap : n ≤ c) (h0 : l.getD 0 [] = readT) :
  Calls Tryz.prog 27 #[.slice A n c] w (RStepP w (stepM l)) := by
 have HS := Lib.hid H
 have HLN := Lib.hid H.len
 have HCAP := Lib.hid hcap
 have HNS := Lib.hid H.sz
 have H0 := Lib.hid h0
 obtain ⟨r, hr0⟩ : ∃ r, stepM l = r := ⟨_, rfl⟩
 rw [hr0]
 have HR := Lib.hid hr0
 obtain ⟨b0, o0, t0, rfl, hc0, ht0, hb0⟩ := H.cell (i := 0) (by omega)
 have HB0 := Lib.hid hb0
 rw [Nat.add_zero] at hc0
 have htr : readT = t0 := by rw [← h0, List.getD_eq_getElem?_getD, ht0]; rfl
 subst htr
 have HNEW : Hid (((w.alloc (.cells #[.int .i64 0, .string ⟨#[]⟩, .string ⟨#[]⟩, .slice none 0 0, .string ⟨#[]⟩, .slice none 0 0] 37)).alloc (.cells #[.int .i64 0, .string ⟨#[]⟩, .string ⟨#[]⟩, .slice none 0 0, .string ⟨#[]⟩, .slice none 0 0] 37)).heap[w.heap.size + 1]? = some (.cells st0 37 (0, 0))) := by
  show _ = _
  have := heap_alloc_new (w.alloc (.cells #[.int .i64 0, .string ⟨#[]⟩, .string ⟨#[]⟩, .slice none 0 0, .string ⟨#[]⟩, .slice none 0 0] 37)) (.cells #[.int .i64 0, .string ⟨#[]⟩, .string ⟨#[]⟩, .slice none 0 0, .string ⟨#[]⟩, .slice none 0 0] 37)
  rwa [World.size_alloc] at this
 have hcA : (w.alloc (.cells #[.int .i64 0, .string ⟨#[]⟩, .string ⟨#[]⟩, .slice none 0 0, .string ⟨#[]⟩, .slice none 0 0] 37)).cell? ⟨b0, o0, none⟩ = some (.string (ba readT)) := (((Below.refl _ w).alloc (Nat.le_refl _) _).cell (p := ⟨b0, o0, none⟩) hb0).trans hc0
 have n0 : (0 : Int) < n := by omega
 have n1 : 0 < n := hn
 have n2 : n ≠ 0 := by omega
 have r0 : ((ba readT).toList == [114, 101, 97, 100]) = true := by rw [tl_ba]; rfl
 obtain ⟨zr, hzr⟩ : ∃ z, ba readT = z := ⟨_, rfl⟩
 have HZR := Lib.hid hzr
 rw [hzr] at hc0 hcA r0
 have HC0 := Lib.hid hc0
 clear H ht0 h0 hzr hr0 hcap hb0 hc0
 by_cases hm : ¬ n = 3
 ·have t3 : ((n : Int) != 3) = true := by simp; omega
  have t4 : ((n : Int) == 3) = false := by simp; omega
  have HM := Lib.hid hm
  clear hm
  go_enter Tryz.func27, Tryz.ntmps27
  have HE : Hid (r = none) := by show _ = _; rw [← HR.out]; rw [stepM_read H0.out, if_neg (fun h => HM.out (HLN.out.symm.trans h.1))]
  go_wp2_with (first | (refine wpList_store_rowG rfl 37 (.tmp 4) (.tmp 15) rfl (w.heap.size + 1) (stC 0 zr ⟨#[]⟩ none 0 0 ⟨#[]⟩ none 0 0) rfl rfl 37 st0 HNEW.out infoSt rfl (stC_one _ _ _ _ _ _ _ _ _ _) ?_; intro W1 hr1 hg1; (have HQ : Hid (RQ w W1 zr ⟨#[]⟩ none 0 0 ⟨#[]⟩ none 0 0) := RQ.start hr1 hg1); clear hr1 hg1 hcA HNEW; (have d0 := (HQ.out.bel.cell (p := ⟨b0, o0, none⟩) HB0.out).trans HC0.out); obtain ⟨SC, HROW, HS6, HONE, HSC⟩ := HQ.out.row) | (refine wpList_load_row rfl 37 (.tmp 4) rfl (w.heap.size + 1) rfl 37 SC (0, 0) _ HROW.out Tryz.underlying37 rfl (by rw [HS6.out]; exact infoSt) ?_) | (refine wpList_store_rowG rfl 37 (.tmp 2) (.tmp 24) rfl w.heap.size SC rfl rfl 37 st0 HQ.out.r (by rw [HS6.out]; exact infoSt) (by rw [HS6.out]; rfl) HONE.out ?_; intro W2 hr2 hg2; (have HR2 := Lib.hid hr2); (have HGW := Lib.hid hg2); clear hr2 hg2) | fail)
  try rw [Exit.noGoto_ret]
  refine bodyPost_ret (Ard.results_row_tmp rfl _ _ w.heap.size 37 (SC) (0, 0) _ rfl HR2.out Tryz.underlying37 rfl (by first | exact infoSt | (rw [HS6.out]; exact infoSt))) rfl ?_
  rw [HE.out]
  exact rno HQ.out HSC.out HGW.out
 replace hm := Decidable.not_not.1 hm
 obtain ⟨b1', o1', t1, e1, hc1, ht1, -⟩ := HS.out.cell (i := 1) (by omega)
 injection e1 with e1
 injection e1 with ea1 eb1
 subst ea1 eb1
 have HG1 : Hid (l.getD 1 [] = t1) := by show _ = _; rw [List.getD_eq_getElem?_getD, ht1]; rfl
 obtain ⟨z1, hz1⟩ : ∃ z, ba t1 = z := ⟨_, rfl⟩
 have HZ1 := Lib.hid hz1
 have HT1 : Hid (z1.data.toList = t1) := by show _ = _; rw [← hz1]; rfl
 rw [hz1] at hc1
 have HC1 := Lib.hid hc1
 have i1 : (1 : Int) < n := by omega
 clear hc1 ht1 hz1
 obtain ⟨b2', o2', t2, e2, hc2, ht2, -⟩ := HS.out.cell (i := 2) (by omega)
 injection e2 with e2
 injection e2 with ea2 eb2
 subst ea2 eb2
 have HG2 : Hid (l.getD 2 [] = t2) := by show _ = _; rw [List.getD_eq_getElem?_getD, ht2]; rfl
 obtain ⟨z2, hz2⟩ : ∃ z, ba t2 = z := ⟨_, rfl⟩
 have HZ2 := Lib.hid hz2
 have HT2 : Hid (z2.data.toList = t2) := by show _ = _; rw [← hz2]; rfl
 rw [hz2] at hc2
 have HC2 := Lib.hid hc2
 have i2 : (2 : Int) < n := by omega
 clear hc2 ht2 hz2
 have t3 : ((n : Int) != 3) = false := by simp; omega
 have t4 : ((n : Int) == 3) = true := by simp; omega
 have HM := Lib.hid hm
 clear hm
 go_enter Tryz.func27, Tryz.ntmps27
 go_wp2_with (first | (refine wpList_store_rowG rfl 37 (.tmp 4) (.tmp 15) rfl (w.heap.size + 1) (stC 0 zr ⟨#[]⟩ none 0 0 ⟨#[]⟩ none 0 0) rfl rfl 37 st0 HNEW.out infoSt rfl (stC_one _ _ _ _ _ _ _ _ _ _) ?_; intro W1 hr1 hg1; (have HQ : Hid (RQ w W1 zr ⟨#[]⟩ none 0 0 ⟨#[]⟩ none 0 0) := RQ.start hr1 hg1); clear hr1 hg1 hcA HNEW; (have d0 := (HQ.out.bel.cell (p := ⟨b0, o0, none⟩) HB0.out).trans HC0.out); obtain ⟨SC, HROW, HS6, HONE, HSC⟩ := HQ.out.row) | fail)
 clear HROW HS6 HONE HSC
 refine wp_region_held_drew (S := fun V => V.cell? ⟨b0, o0 + 1, none⟩ = some (.string z1) ∧ V.cell? ⟨b0, o0 + 2, none⟩ = some (.string z2)) (by kernel_rfl) ⟨(HQ.out.bel.cell (p := ⟨b0, o0 + 1, none⟩) HB0.out).trans HC1.out, (HQ.out.bel.cell (p := ⟨b0, o0 + 2, none⟩) HB0.out).trans HC2.out⟩ (fun hHeld => ?_)
 obtain ⟨V0, hV⟩ : ∃ x, W1.drew = x := ⟨_, rfl⟩
 have HQ := Lib.hid (HQ.out.on (Below.refl _ _).drew)
 rw [hV] at HQ  hHeld ⊢
 clear hV
 refine wpAnyH_take (i := 0) (v := .slice (some ⟨b0, o0, none⟩) n c) rfl (by kernel_rfl) (by kernel_rfl) (by kernel_rfl) (fun _ _ _ h => h) (Or.inl ⟨by rfl, ?_⟩) hHeld ?_
 ·intro wz hSw; obtain ⟨s1, s2⟩ := hSw; go_simp
 try simp only [Act.put, List.getElem_toArray, List.getElem_cons_succ, List.getElem_cons_zero, List.setIfInBounds_toArray, List.set_cons_zero, List.set_cons_succ]
 refine wpAnyH_take (i := 1) (v := .pointer (some ⟨b0, o0 + 1, none⟩)) rfl (by kernel_rfl) (by kernel_rfl) (by kernel_rfl) (fun _ _ _ h => h) (Or.inl ⟨by rfl, ?_⟩) hHeld ?_
 ·intro wz hSw; obtain ⟨s1, s2⟩ := hSw; go_simp
 try simp only [Act.put, List.getElem_toArray, List.getElem_cons_succ, List.getElem_cons_zero, List.setIfInBounds_toArray, List.set_cons_zero, List.set_cons_succ]
 refine wpAnyH_take (i := 2) (v := .string z1) rfl (by kernel_rfl) (by kernel_rfl) (by kernel_rfl) (fun _ _ _ h => h) (Or.inl ⟨by rfl, ?_⟩) hHeld ?_
 ·intro wz hSw; obtain ⟨s1, s2⟩ := hSw; go_simp
 try simp only [Act.put, List.getElem_toArray, List.getElem_cons_succ, List.getElem_cons_zero, List.setIfInBounds_toArray, List.set_cons_zero, List.set_cons_succ]
 refine wpAnyH_take (i := 3) (v := .slice (some ⟨b0, o0, none⟩) n c) rfl (by kernel_rfl) (by kernel_rfl) (by kernel_rfl) (fun _ _ _ h => h) (Or.inl ⟨by rfl, ?_⟩) hHeld ?_
 ·intro wz hSw; obtain ⟨s1, s2⟩ := hSw; go_simp
 try simp only [Act.put, List.getElem_toArray, List.getElem_cons_succ, List.getElem_cons_zero, List.setIfInBounds_toArray, List.set_cons_zero, List.set_cons_succ]
 refine wpAnyH_take (i := 4) (v := .pointer (some ⟨b0, o0 + 2, none⟩)) rfl (by kernel_rfl) (by kernel_rfl) (by kernel_rfl) (fun _ _ _ h => h) (Or.inl ⟨by rfl, ?_⟩) hHeld ?_
 ·intro wz hSw; obtain ⟨s1, s2⟩ := hSw; go_simp
 try simp only [Act.put, List.getElem_toArray, List.getElem_cons_succ, List.getElem_cons_zero, List.setIfInBounds_toArray, List.set_cons_zero, List.set_cons_succ]
 refine wpAnyH_take (i := 5) (v := .string z2) rfl (by kernel_rfl) (by kernel_rfl) (by kernel_rfl) (fun _ _ _ h => h) (Or.inl ⟨by rfl, ?_⟩) hHeld ?_
 ·intro wz hSw; obtain ⟨s1, s2⟩ := hSw; go_simp
 try simp only [Act.put, List.getElem_toArray, List.getElem_cons_succ, List.getElem_cons_zero, List.setIfInBounds_toArray, List.set_cons_zero, List.set_cons_succ]
 refine wpAnyH_take (i := 6) (v := .pointer (some ⟨w.heap.size + 1, 2, none⟩)) rfl (by kernel_rfl) (by kernel_rfl) (by kernel_rfl) (fun _ _ _ h => h) (Or.inl ⟨by rfl, ?_⟩) hHeld ?_
 ·intro wz hSw; obtain ⟨s1, s2⟩ := hSw; go_simp
 try simp only [Act.put, List.getElem_toArray, List.getElem_cons_succ, List.getElem_cons_zero, List.setIfInBounds_toArray, List.set_cons_zero, List.set_cons_succ]
 refine wpAnyH_ready (rs := [7]) (by kernel_rfl) (by simp) ?_
 refine AllReadyH.cons rfl (fun K hK => ?_) AllReadyH.nil
 have yc := HQ.out.cells.1
 have yf := HQ.out.cells.2 2
 obtain ⟨y1, y2, y3, y4, y5⟩ := yc
 have HQ := Lib.hid (HQ.out.setDst z1)
 obtain ⟨V1, hV⟩ : ∃ x, V0.setCell ⟨w.heap.size + 1, 2, none⟩ (.string z1) = x := ⟨_, rfl⟩
 rw [hV] at HQ
 go_simp
 try rw [hV]
 clear hV y1 y2 y3 y4 y5 yf
 refine hK.out _ _ ⟨(HQ.out.bel.cell (p := ⟨b0, o0 + 1, none⟩) HB0.out).trans HC1.out, (HQ.out.bel.cell (p := ⟨b0, o0 + 2, none⟩) HB0.out).trans HC2.out⟩ (fun hHeld => ?_)
 clear hK K
 try simp only [Act.put, List.getElem_toArray, List.getElem_cons_succ, List.getElem_cons_zero, List.setIfInBounds_toArray, List.set_cons_zero, List.set_cons_succ]
 refine wpAnyH_take (i := 8) (v := .pointer (some ⟨w.heap.size + 1, 4, none⟩)) rfl (by kernel_rfl) (by kernel_rfl) (by kernel_rfl) (fun _ _ _ h => h) (Or.inl ⟨by rfl, ?_⟩) hHeld ?_
 ·intro wz hSw; obtain ⟨s1, s2⟩ := hSw; go_simp
 try simp only [Act.put, List.getElem_toArray, List.getElem_cons_succ, List.getElem_cons_zero, List.setIfInBounds_toArray, List.set_cons_zero, List.set_cons_succ]
 refine wpAnyH_ready (rs := [9]) (by kernel_rfl) (by simp) ?_
 refine AllReadyH.cons rfl (fun K hK => ?_) AllReadyH.nil
 have yc := HQ.out.cells.1
 have yf := HQ.out.cells.2 4
 obtain ⟨y1, y2, y3, y4, y5⟩ := yc
 have HQ := Lib.hid (HQ.out.setFile z2)
 obtain ⟨V2, hV⟩ : ∃ x, V1.setCell ⟨w.heap.size + 1, 4, none⟩ (.string z2) = x := ⟨_, rfl⟩
 rw [hV] at HQ
 go_simp
 try rw [hV]
 clear hV y1 y2 y3 y4 y5 yf
 refine hK.out _ _ ⟨(HQ.out.bel.cell (p := ⟨b0, o0 + 1, none⟩) HB0.out).trans HC1.out, (HQ.out.bel.cell (p := ⟨b0, o0 + 2, none⟩) HB0.out).trans HC2.out⟩ (fun hHeld => ?_)
 clear hK K
 try simp only [Act.put, List.getElem_toArray, List.getElem_cons_succ, List.getElem_cons_zero, List.setIfInBounds_toArray, List.set_cons_zero, List.set_cons_succ]
 refine wpAnyH_done (by kernel_rfl) ?_ _
 go_wp2_with fail
 obtain ⟨fb, hfb⟩ : ∃ b, fileB z2.data.toList = b := ⟨_, rfl⟩
 have HFB := Lib.hid hfb
 obtain ⟨nb, hnb⟩ : ∃ b, nameB z1.data.toList = b := ⟨_, rfl⟩
 have HNB := Lib.hid hnb
 clear hfb hnb
 have hrow := HQ.out.s
 cases nb
 ·refine wp_region_held_drew (S := fun V => V.heap[w.heap.size + 1]? = some (.cells (stC 0 zr z1 none 0 0 z2 none 0 0) 37 (0, 0))) (by kernel_rfl) hrow (fun hHeld => ?_)
  obtain ⟨V3, hV⟩ : ∃ x, V2.drew = x := ⟨_, rfl⟩
  have HQ := Lib.hid (HQ.out.on (Below.refl _ _).drew)
  rw [hV] at HQ  hHeld ⊢
  clear hV
  refine wpAnyH_take (i := 0) (v := .agg (stC 0 zr z1 none 0 0 z2 none 0 0)) rfl (by kernel_rfl) (by kernel_rfl) (by kernel_rfl) (fun _ _ _ h => h) (yields_row (by rfl) 37 _ rfl (w.heap.size + 1) rfl 37 (stC 0 zr z1 none 0 0 z2 none 0 0) (0, 0) _ (fun _ h => h) Tryz.underlying37 rfl (infoSt)) hHeld ?_
  try simp only [Act.put, List.getElem_toArray, List.getElem_cons_succ, List.getElem_cons_zero, List.setIfInBounds_toArray, List.set_cons_zero, List.set_cons_succ]
  refine wpAnyH_take (i := 1) (v := .pointer (some ⟨w.heap.size + 1, 2, none⟩)) rfl (by kernel_rfl) (by kernel_rfl) (by kernel_rfl) (fun _ _ _ h => h) (Or.inl ⟨by rfl, ?_⟩) hHeld ?_
  ·intro wz hSw; go_simp
  try simp only [Act.put, List.getElem_toArray, List.getElem_cons_succ, List.getElem_cons_zero, List.setIfInBounds_toArray, List.set_cons_zero, List.set_cons_succ]
  refine wpAnyH_take (i := 2) (v := .string z1) rfl (by kernel_rfl) (by kernel_rfl) (by kernel_rfl) (fun _ _ _ h => h) (Or.inl ⟨by rfl, ?_⟩) hHeld ?_
  ·intro wz hSw; (have e1 : wz.cell? ⟨w.heap.size + 1, 2, none⟩ = some (.string z1) := Ard.row_cell hSw 2); go_simp
  try simp only [Act.put, List.getElem_toArray, List.getElem_cons_succ, List.getElem_cons_zero, List.setIfInBounds_toArray, List.set_cons_zero, List.set_cons_succ]
  refine wpAnyH_ready (rs := [3]) (by kernel_rfl) (by simp) ?_
  refine AllReadyH.cons rfl (fun K hK => ?_) AllReadyH.nil
  go_simp
  refine (rname_any z1 _).mono ?_
  rintro e w' ⟨rfl, rfl⟩
  rw [HNB.out]
  refine hK.out _ _ hHeld (fun hHeld => ?_)
  clear hK K
  try simp only [Act.put, List.getElem_toArray, List.getElem_cons_succ, List.getElem_cons_zero, List.setIfInBounds_toArray, List.set_cons_zero, List.set_cons_succ]
  refine wpAnyH_take (i := 4) (v := .bool false) rfl (by kernel_rfl) (by kernel_rfl) (by kernel_rfl) (fun _ _ _ h => h) (Or.inl ⟨by rfl, ?_⟩) hHeld ?_
  ·intro wz hSw; go_simp
  try simp only [Act.put, List.getElem_toArray, List.getElem_cons_succ, List.getElem_cons_zero, List.setIfInBounds_toArray, List.set_cons_zero, List.set_cons_succ]
  refine Ord.held_skip (i := 5) (d := 38) rfl rfl (by kernel_rfl) (by kernel_rfl) (by kernel_rfl) (fun _ _ _ h => h) (by kernel_rfl) hHeld ?_
  try simp only [Act.put, List.getElem_toArray, List.getElem_cons_succ, List.getElem_cons_zero, List.setIfInBounds_toArray, List.set_cons_zero, List.set_cons_succ]
  refine Ord.held_skip (i := 6) (d := 39) rfl rfl (by kernel_rfl) (by kernel_rfl) (by kernel_rfl) (fun _ _ _ h => h) (by kernel_rfl) hHeld ?_
  try simp only [Act.put, List.getElem_toArray, List.getElem_cons_succ, List.getElem_cons_zero, List.setIfInBounds_toArray, List.set_cons_zero, List.set_cons_succ]
  refine wpAnyH_ready (rs := [7]) (by kernel_rfl) (by simp) ?_
  refine AllReadyH.cons rfl (fun K hK => ?_) AllReadyH.nil
  go_simp
  refine hK.out _ _ hHeld (fun hHeld => ?_)
  clear hK K
  try simp only [Act.put, List.getElem_toArray, List.getElem_cons_succ, List.getElem_cons_zero, List.setIfInBounds_toArray, List.set_cons_zero, List.set_cons_succ]
  refine wpAnyH_take (i := 8) (v := .bool false) rfl (by kernel_rfl) (by kernel_rfl) (by kernel_rfl) (fun _ _ _ h => h) (Or.inl ⟨by rfl, ?_⟩) hHeld ?_
  ·intro wz hSw; go_simp
  try simp only [Act.put, List.getElem_toArray, List.getElem_cons_succ, List.getElem_cons_zero, List.setIfInBounds_toArray, List.set_cons_zero, List.set_cons_succ]
  refine wpAnyH_ready (rs := [9]) (by kernel_rfl) (by simp) ?_
  refine AllReadyH.cons rfl (fun K hK => ?_) AllReadyH.nil
  rw [if_pos (by rfl)]
  refine wp_store_rowG 37 _ _ rfl w.heap.size (stC 0 zr z1 none 0 0 z2 none 0 0) rfl rfl 37 st0 HQ.out.r infoSt rfl (stC_one _ _ _ _ _ _ _ _ _ _) ?_
  intro W2 hr2 hg2
  have HR2 := Lib.hid hr2
  have HGW := Lib.hid hg2
  have k2 := (HQ.out.fin hg2).2.1
  clear hr2 hg2
  refine hK.out _ _ k2 (fun hHeld => ?_)
  clear hK K
  try simp only [Act.put, List.getElem_toArray, List.getElem_cons_succ, List.getElem_cons_zero, List.setIfInBounds_toArray, List.set_cons_zero, List.set_cons_succ]
  clear k2
  refine wpAnyH_ready (rs := [10]) (by kernel_rfl) (by simp) ?_
  refine AllReadyH.cons rfl (fun K hK => ?_) AllReadyH.nil
  go_simp
  refine hK.out _ _ hHeld (fun hHeld => ?_)
  clear hK K
  try simp only [Act.put, List.getElem_toArray, List.getElem_cons_succ, List.getElem_cons_zero, List.setIfInBounds_toArray, List.set_cons_zero, List.set_cons_succ]
  refine wpAnyH_done (by kernel_rfl) ?_ _
  go_wp2_with fail
  try rw [Exit.noGoto_ret]
  refine bodyPost_ret (Ard.results_row_tmp rfl _ _ w.heap.size 37 (stC 0 zr z1 none 0 0 z2 none 0 0) (0, 0) _ rfl HR2.out Tryz.underlying37 rfl (by first | exact infoSt | (rw [HS6.out]; exact infoSt))) rfl ?_
  have HE : Hid (r = none) := by show _ = _; rw [← HR.out, stepM_read H0.out, if_neg (fun h => by rw [HG1.out, ← HT1.out, HNB.out] at h; exact absurd h.2.1 (by decide))]
  rw [HE.out]
  exact rno HQ.out rfl HGW.out
 ·refine wp_region_held_drew (S := fun V => V.heap[w.heap.size + 1]? = some (.cells (stC 0 zr z1 none 0 0 z2 none 0 0) 37 (0, 0))) (by kernel_rfl) hrow (fun hHeld => ?_)
  obtain ⟨V3, hV⟩ : ∃ x, V2.drew = x := ⟨_, rfl⟩
  have HQ := Lib.hid (HQ.out.on (Below.refl _ _).drew)
  rw [hV] at HQ  hHeld ⊢
  clear hV
  refine wpAnyH_take (i := 0) (v := .agg (stC 0 zr z1 none 0 0 z2 none 0 0)) rfl (by kernel_rfl) (by kernel_rfl) (by kernel_rfl) (fun _ _ _ h => h) (yields_row (by rfl) 37 _ rfl (w.heap.size + 1) rfl 37 (stC 0 zr z1 none 0 0 z2 none 0 0) (0, 0) _ (fun _ h => h) Tryz.underlying37 rfl (infoSt)) hHeld ?_
  try simp only [Act.put, List.getElem_toArray, List.getElem_cons_succ, List.getElem_cons_zero, List.setIfInBounds_toArray, List.set_cons_zero, List.set_cons_succ]
  refine wpAnyH_take (i := 1) (v := .pointer (some ⟨w.heap.size + 1, 2, none⟩)) rfl (by kernel_rfl) (by kernel_rfl) (by kernel_rfl) (fun _ _ _ h => h) (Or.inl ⟨by rfl, ?_⟩) hHeld ?_
  ·intro wz hSw; go_simp
  try simp only [Act.put, List.getElem_toArray, List.getElem_cons_succ, List.getElem_cons_zero, List.setIfInBounds_toArray, List.set_cons_zero, List.set_cons_succ]
  refine wpAnyH_take (i := 2) (v := .string z1) rfl (by kernel_rfl) (by kernel_rfl) (by kernel_rfl) (fun _ _ _ h => h) (Or.inl ⟨by rfl, ?_⟩) hHeld ?_
  ·intro wz hSw; (have e1 : wz.cell? ⟨w.heap.size + 1, 2, none⟩ = some (.string z1) := Ard.row_cell hSw 2); go_simp
  try simp only [Act.put, List.getElem_toArray, List.getElem_cons_succ, List.getElem_cons_zero, List.setIfInBounds_toArray, List.set_cons_zero, List.set_cons_succ]
  refine wpAnyH_ready (rs := [3]) (by kernel_rfl) (by simp) ?_
  refine AllReadyH.cons rfl (fun K hK => ?_) AllReadyH.nil
  go_simp
  refine (rname_any z1 _).mono ?_
  rintro e w' ⟨rfl, rfl⟩
  rw [HNB.out]
  refine hK.out _ _ hHeld (fun hHeld => ?_)
  clear hK K
  try simp only [Act.put, List.getElem_toArray, List.getElem_cons_succ, List.getElem_cons_zero, List.setIfInBounds_toArray, List.set_cons_zero, List.set_cons_succ]
  refine wpAnyH_take (i := 4) (v := .bool true) rfl (by kernel_rfl) (by kernel_rfl) (by kernel_rfl) (fun _ _ _ h => h) (Or.inl ⟨by rfl, ?_⟩) hHeld ?_
  ·intro wz hSw; go_simp
  try simp only [Act.put, List.getElem_toArray, List.getElem_cons_succ, List.getElem_cons_zero, List.setIfInBounds_toArray, List.set_cons_zero, List.set_cons_succ]
  refine wpAnyH_take (i := 5) (v := .pointer (some ⟨w.heap.size + 1, 4, none⟩)) rfl (by kernel_rfl) (by kernel_rfl) (by kernel_rfl) (fun _ _ _ h => h) (Or.inl ⟨by kernel_rfl, ?_⟩) hHeld ?_
  ·intro wz hSw; go_simp
  try simp only [Act.put, List.getElem_toArray, List.getElem_cons_succ, List.getElem_cons_zero, List.setIfInBounds_toArray, List.set_cons_zero, List.set_cons_succ]
  refine wpAnyH_take (i := 6) (v := .string z2) rfl (by kernel_rfl) (by kernel_rfl) (by kernel_rfl) (fun _ _ _ h => h) (Or.inl ⟨by kernel_rfl, ?_⟩) hHeld ?_
  ·intro wz hSw; (have e1 : wz.cell? ⟨w.heap.size + 1, 4, none⟩ = some (.string z2) := Ard.row_cell hSw 4); go_simp
  try simp only [Act.put, List.getElem_toArray, List.getElem_cons_succ, List.getElem_cons_zero, List.setIfInBounds_toArray, List.set_cons_zero, List.set_cons_succ]
  refine wpAnyH_ready (rs := [7]) (by kernel_rfl) (by simp) ?_
  refine AllReadyH.cons rfl (fun K hK => ?_) AllReadyH.nil
  go_simp
  refine (rfile_any z2 _).mono ?_
  rintro e w' ⟨rfl, rfl⟩
  rw [HFB.out]
  refine hK.out _ _ hHeld (fun hHeld => ?_)
  clear hK K
  try simp only [Act.put, List.getElem_toArray, List.getElem_cons_succ, List.getElem_cons_zero, List.setIfInBounds_toArray, List.set_cons_zero, List.set_cons_succ]
  refine wpAnyH_take (i := 8) (v := .bool fb) rfl (by kernel_rfl) (by kernel_rfl) (by kernel_rfl) (fun _ _ _ h => h) (Or.inl ⟨by rfl, ?_⟩) hHeld ?_
  ·intro wz hSw; go_simp
  try simp only [Act.put, List.getElem_toArray, List.getElem_cons_succ, List.getElem_cons_zero, List.setIfInBounds_toArray, List.set_cons_zero, List.set_cons_succ]
  refine wpAnyH_ready (rs := [9]) (by kernel_rfl) (by simp) ?_
  refine AllReadyH.cons rfl (fun K hK => ?_) AllReadyH.nil
  rw [if_pos (by rfl)]
  refine wp_store_rowG 37 _ _ rfl w.heap.size (stC 0 zr z1 none 0 0 z2 none 0 0) rfl rfl 37 st0 HQ.out.r infoSt rfl (stC_one _ _ _ _ _ _ _ _ _ _) ?_
  intro W2 hr2 hg2
  have HR2 := Lib.hid hr2
  have HGW := Lib.hid hg2
  have k2 := (HQ.out.fin hg2).2.1
  clear hr2 hg2
  refine hK.out _ _ k2 (fun hHeld => ?_)
  clear hK K
  try simp only [Act.put, List.getElem_toArray, List.getElem_cons_succ, List.getElem_cons_zero, List.setIfInBounds_toArray, List.set_cons_zero, List.set_cons_succ]
  clear k2
  refine wpAnyH_ready (rs := [10]) (by kernel_rfl) (by simp) ?_
  refine AllReadyH.cons rfl (fun K hK => ?_) AllReadyH.nil
  go_simp
  refine hK.out _ _ hHeld (fun hHeld => ?_)
  clear hK K
  try simp only [Act.put, List.getElem_toArray, List.getElem_cons_succ, List.getElem_cons_zero, List.setIfInBounds_toArray, List.set_cons_zero, List.set_cons_succ]
  refine wpAnyH_done (by kernel_rfl) ?_ _
  go_wp2_with fail
  try rw [Exit.noGoto_ret]
  refine bodyPost_ret (Ard.results_row_tmp rfl _ _ w.heap.size 37 (stC 0 zr z1 none 0 0 z2 none 0 0) (0, 0) _ rfl HR2.out Tryz.underlying37 rfl (by first | exact infoSt | (rw [HS6.out]; exact infoSt))) rfl ?_
  have h1 : nameB t1 = true := by rw [← HT1.out]; exact HNB.out
  have h2 : fileB t2 = fb := by rw [← HT2.out]; exact HFB.out
  have HE : Hid (r = if fb then some ⟨readT, t1, [], t2, []⟩ else none) := by
   show _ = _
   rw [← HR.out, stepM_read H0.out, HG1.out, HG2.out]
   cases fb
   ·rw [if_neg (fun h => by rw [h2] at h; exact absurd h.2.2 (by decide))]; rfl
   ·rw [if_pos ⟨HLN.out.trans HM.out, h1, h2⟩]; rfl
  rw [HE.out]
  exact rend fb HQ.out rfl HGW.out HZR.out HZ1.out HZ2.out (World.ownsRow_nil _ _ _ _) (World.ownsRow_nil _ _ _ _)
set_option maxRecDepth 20000 in
set_option maxHeartbeats 16000000 in
theorem rstep_fill {A : Option Addr} {n c : Nat} {l : List Tx} (w : World) (H : SS w A n l) (hn : 1 ≤ n) (hcap : n ≤ c) (h0 : l.getD 0 [] = fillT) :
  Calls Tryz.prog 27 #[.slice A n c] w (RStepP w (stepM l)) := by
 have HS := Lib.hid H
 have HLN := Lib.hid H.len
 have HCAP := Lib.hid hcap
 have HNS := Lib.hid H.sz
 have H0 := Lib.hid h0
 obtain ⟨r, hr0⟩ : ∃ r, stepM l = r := ⟨_, rfl⟩
 rw [hr0]
 have HR := Lib.hid hr0
 obtain ⟨b0, o0, t0, rfl, hc0, ht0, hb0⟩ := H.cell (i := 0) (by omega)
 have HB0 := Lib.hid hb0
 rw [Nat.add_zero] at hc0
 have htr : fillT = t0 := by rw [← h0, List.getD_eq_getElem?_getD, ht0]; rfl
 subst htr
 have HNEW : Hid (((w.alloc (.cells #[.int .i64 0, .string ⟨#[]⟩, .string ⟨#[]⟩, .slice none 0 0, .string ⟨#[]⟩, .slice none 0 0] 37)).alloc (.cells #[.int .i64 0, .string ⟨#[]⟩, .string ⟨#[]⟩, .slice none 0 0, .string ⟨#[]⟩, .slice none 0 0] 37)).heap[w.heap.size + 1]? = some (.cells st0 37 (0, 0))) := by
  show _ = _
  have := heap_alloc_new (w.alloc (.cells #[.int .i64 0, .string ⟨#[]⟩, .string ⟨#[]⟩, .slice none 0 0, .string ⟨#[]⟩, .slice none 0 0] 37)) (.cells #[.int .i64 0, .string ⟨#[]⟩, .string ⟨#[]⟩, .slice none 0 0, .string ⟨#[]⟩, .slice none 0 0] 37)
  rwa [World.size_alloc] at this
 have hcA : (w.alloc (.cells #[.int .i64 0, .string ⟨#[]⟩, .string ⟨#[]⟩, .slice none 0 0, .string ⟨#[]⟩, .slice none 0 0] 37)).cell? ⟨b0, o0, none⟩ = some (.string (ba fillT)) := (((Below.refl _ w).alloc (Nat.le_refl _) _).cell (p := ⟨b0, o0, none⟩) hb0).trans hc0
 have n0 : (0 : Int) < n := by omega
 have n1 : 0 < n := hn
 have n2 : n ≠ 0 := by omega
 have r0 : ((ba fillT).toList == [114, 101, 97, 100]) = false := by rw [tl_ba]; rfl
 have r1 : ((ba fillT).toList == [119, 114, 105, 116, 101]) = false := by rw [tl_ba]; rfl
 have r2 : ((ba fillT).toList == [102, 105, 108, 108]) = true := by rw [tl_ba]; rfl
 obtain ⟨zr, hzr⟩ : ∃ z, ba fillT = z := ⟨_, rfl⟩
 have HZR := Lib.hid hzr
 rw [hzr] at hc0 hcA r0 r1 r2
 have HC0 := Lib.hid hc0
 clear H ht0 h0 hzr hr0 hcap hb0 hc0
 by_cases hm : ¬ 2 ≤ n
 ·have t3 : decide ((n : Int) < 2) = true := decide_eq_true (by omega)
  have t4 : decide (n < 2) = true := decide_eq_true (by omega)
  have HM := Lib.hid hm
  clear hm
  go_enter Tryz.func27, Tryz.ntmps27
  have HE : Hid (r = none) := by show _ = _; rw [← HR.out]; rw [stepM_fill H0.out, if_neg (fun h => HM.out (by rw [← HLN.out]; exact h.1))]
  go_wp2_with (first | (refine wpList_store_rowG rfl 37 (.tmp 4) (.tmp 15) rfl (w.heap.size + 1) (stC 0 zr ⟨#[]⟩ none 0 0 ⟨#[]⟩ none 0 0) rfl rfl 37 st0 HNEW.out infoSt rfl (stC_one _ _ _ _ _ _ _ _ _ _) ?_; intro W1 hr1 hg1; (have HQ : Hid (RQ w W1 zr ⟨#[]⟩ none 0 0 ⟨#[]⟩ none 0 0) := RQ.start hr1 hg1); clear hr1 hg1 hcA HNEW; (have d0 := (HQ.out.bel.cell (p := ⟨b0, o0, none⟩) HB0.out).trans HC0.out); obtain ⟨SC, HROW, HS6, HONE, HSC⟩ := HQ.out.row) | (refine wpList_load_row rfl 37 (.tmp 4) rfl (w.heap.size + 1) rfl 37 SC (0, 0) _ HROW.out Tryz.underlying37 rfl (by rw [HS6.out]; exact infoSt) ?_) | (refine wpList_store_rowG rfl 37 (.tmp 2) (.tmp 108) rfl w.heap.size SC rfl rfl 37 st0 HQ.out.r (by rw [HS6.out]; exact infoSt) (by rw [HS6.out]; rfl) HONE.out ?_; intro W2 hr2 hg2; (have HR2 := Lib.hid hr2); (have HGW := Lib.hid hg2); clear hr2 hg2) | fail)
  try rw [Exit.noGoto_ret]
  refine bodyPost_ret (Ard.results_row_tmp rfl _ _ w.heap.size 37 (SC) (0, 0) _ rfl HR2.out Tryz.underlying37 rfl (by first | exact infoSt | (rw [HS6.out]; exact infoSt))) rfl ?_
  rw [HE.out]
  exact rno HQ.out HSC.out HGW.out
 replace hm := Decidable.not_not.1 hm
 obtain ⟨b1', o1', t1, e1, hc1, ht1, -⟩ := HS.out.cell (i := 1) (by omega)
 injection e1 with e1
 injection e1 with ea1 eb1
 subst ea1 eb1
 have HG1 : Hid (l.getD 1 [] = t1) := by show _ = _; rw [List.getD_eq_getElem?_getD, ht1]; rfl
 obtain ⟨z1, hz1⟩ : ∃ z, ba t1 = z := ⟨_, rfl⟩
 have HZ1 := Lib.hid hz1
 have HT1 : Hid (z1.data.toList = t1) := by show _ = _; rw [← hz1]; rfl
 rw [hz1] at hc1
 have HC1 := Lib.hid hc1
 have i1 : (1 : Int) < n := by omega
 clear hc1 ht1 hz1
 have t3 : decide ((n : Int) < 2) = false := decide_eq_false (by omega)
 have t4 : decide (n < 2) = false := decide_eq_false (by omega)
 have hsl := fun w => run_from (P := Tryz.prog) (t := 34) (e := 9) (n := n) (c := c) (A := some ⟨b0, o0, none⟩) (a := 2) (i := 2) Tryz.underlying34 szS rfl (by omega) w
 have HSD := Lib.hid (ssDrop HS.out (a := 2) (c := c) (by omega) HCAP.out)
 obtain ⟨X, hX⟩ : ∃ x, subA (some ⟨b0, o0, none⟩) 2 c = x := ⟨_, rfl⟩
 obtain ⟨m, hm2⟩ : ∃ x, n - 2 = x := ⟨_, rfl⟩
 obtain ⟨cm, hcm⟩ : ∃ x, c - 2 = x := ⟨_, rfl⟩
 rw [hX, hm2, hcm] at hsl
 rw [hX, hm2] at HSD
 clear hX hm2 hcm
 obtain ⟨a0, ha0⟩ : ∃ x, (numsM (l.drop 2)).getD [] = x := ⟨_, rfl⟩
 have HA0 := Lib.hid ha0
 obtain ⟨okb, hok⟩ : ∃ x, (numsM (l.drop 2)).isSome = x := ⟨_, rfl⟩
 have HOK := Lib.hid hok
 obtain ⟨na, hna⟩ : ∃ x, a0.length = x := ⟨_, rfl⟩
 have HNA := Lib.hid hna
 have HNUMS : Hid (∀ V, Below w.heap.size w V → Calls Tryz.prog 57 #[.slice X m cm] V fun e w' => Below V.heap.size V w' ∧ ∃ A c, e = .returned (.tuple #[.slice A na c, .bool okb]) ∧ w'.ownsRow V.heap.size 3 1 (.slice A na c) na (a0.map (.int .i64))) := fun V hV => by have := rnumbers_u (c := cm) V (HSD.out.below hV); rw [ha0, hok, hna] at this; exact this
 have HNL : Hid (na * 8 ≤ 70368744176000) := by
  show _ ≤ _
  rw [← hna, ← ha0]
  have h2 := HSD.out.len
  have h4 := HSD.out.sz
  cases hx : numsM (l.drop 2) with
  | none => exact Nat.zero_le _
  | some y => have h1 := numsM_len hx; show y.length * 8 ≤ _; omega
 clear ha0 hok hna
 have HM := Lib.hid hm
 clear hm
 go_enter Tryz.func27, Tryz.ntmps27
 go_wp2_with (first | (refine wpList_store_rowG rfl 37 (.tmp 4) (.tmp 15) rfl (w.heap.size + 1) (stC 0 zr ⟨#[]⟩ none 0 0 ⟨#[]⟩ none 0 0) rfl rfl 37 st0 HNEW.out infoSt rfl (stC_one _ _ _ _ _ _ _ _ _ _) ?_; intro W1 hr1 hg1; (have HQ : Hid (RQ w W1 zr ⟨#[]⟩ none 0 0 ⟨#[]⟩ none 0 0) := RQ.start hr1 hg1); clear hr1 hg1 hcA HNEW; (have d0 := (HQ.out.bel.cell (p := ⟨b0, o0, none⟩) HB0.out).trans HC0.out); obtain ⟨SC, HROW, HS6, HONE, HSC⟩ := HQ.out.row; clear HROW HS6 HONE HSC SC; (have d1 := (HQ.out.bel.cell (p := ⟨b0, o0 + 1, none⟩) HB0.out).trans HC1.out); (have yc := HQ.out.cells); obtain ⟨⟨y1, y2, y3, y4, y5⟩, yf⟩ := yc; (have f2 := yf 2); obtain ⟨W3, hWW3, hqn⟩ : ∃ x, W1.setCell ⟨w.heap.size + 1, 2, none⟩ (.string z1) = x ∧ RQ w x zr z1 none 0 0 ⟨#[]⟩ none 0 0 := ⟨_, rfl, HQ.out.setDst z1⟩; (have HQ := Lib.hid hqn); clear hqn) | (go_at_call 57; refine (HNUMS.out W3 HQ.out.bel).mono ?_; rintro e Vn ⟨hbv, A2, cA, rfl, hown⟩; (have hbase : w.heap.size + 2 ≤ W3.heap.size := by have := HQ.out.lt; omega); (have HQ := Lib.hid (HQ.out.on (hbv.mono hbase))); (have HOWN := Lib.hid (own_lower hown hbase)); clear hbv hown hbase HNUMS; (have yc := HQ.out.cells); obtain ⟨⟨y1, y2, y3, y4, y5⟩, yf⟩ := yc; (have f5 := yf 5); obtain ⟨W5, hWn, hqn⟩ : ∃ x, Vn.setCell ⟨w.heap.size + 1, 5, none⟩ (.slice A2 na cA) = x ∧ RQ w x zr z1 none 0 0 ⟨#[]⟩ A2 na cA := ⟨_, rfl, HQ.out.setArgs A2 na cA⟩; (have HOWN := Lib.hid (ownsRow_setCell_below HOWN.out (a := ⟨w.heap.size + 1, 5, none⟩) (by show w.heap.size + 1 < w.heap.size + 2; omega) (.slice A2 na cA))); rw [hWn] at HOWN; (have HQ := Lib.hid hqn); clear y1 y2 y3 y4 yf hqn) | fail)
 have hrow := HQ.out.s
 obtain ⟨nb, hnb⟩ : ∃ b, nameB z1.data.toList = b := ⟨_, rfl⟩
 have HNB := Lib.hid hnb
 obtain ⟨fb, hfb⟩ : ∃ b, fillB a0 = b := ⟨_, rfl⟩
 have HFB := Lib.hid hfb
 clear hnb hfb
 cases okb
 ·refine wp_region_held_drew (S := fun V => V.heap[w.heap.size + 1]? = some (.cells (stC 0 zr z1 none 0 0 ⟨#[]⟩ A2 na cA) 37 (0, 0))) (by kernel_rfl) hrow (fun hHeld => ?_)
  obtain ⟨V7, hV⟩ : ∃ x, W5.drew = x := ⟨_, rfl⟩
  have HQ := Lib.hid (HQ.out.on (Below.refl _ _).drew)
  have HOWN := Lib.hid (own_below HOWN.out (Below.refl _ _).drew)
  rw [hV] at HQ HOWN hHeld ⊢
  clear hV
  refine wpAnyH_take (i := 0) (v := .agg (stC 0 zr z1 none 0 0 ⟨#[]⟩ A2 na cA)) rfl (by kernel_rfl) (by kernel_rfl) (by kernel_rfl) (fun _ _ _ h => h) (yields_row (by rfl) 37 _ rfl (w.heap.size + 1) rfl 37 (stC 0 zr z1 none 0 0 ⟨#[]⟩ A2 na cA) (0, 0) _ (fun _ h => h) Tryz.underlying37 rfl (infoSt)) hHeld ?_
  try simp only [Act.put, List.getElem_toArray, List.getElem_cons_succ, List.getElem_cons_zero, List.setIfInBounds_toArray, List.set_cons_zero, List.set_cons_succ]
  refine wpAnyH_take (i := 1) (v := .bool false) rfl (by kernel_rfl) (by kernel_rfl) (by kernel_rfl) (fun _ _ _ h => h) (Or.inl ⟨by rfl, ?_⟩) hHeld ?_
  ·intro wz hSw; go_simp
  try simp only [Act.put, List.getElem_toArray, List.getElem_cons_succ, List.getElem_cons_zero, List.setIfInBounds_toArray, List.set_cons_zero, List.set_cons_succ]
  refine wpAnyH_take (i := 2) (v := .bool false) rfl (by kernel_rfl) (by kernel_rfl) (by kernel_rfl) (fun _ _ _ h => h) (Or.inl ⟨by rfl, ?_⟩) hHeld ?_
  ·intro wz hSw; go_simp
  try simp only [Act.put, List.getElem_toArray, List.getElem_cons_succ, List.getElem_cons_zero, List.setIfInBounds_toArray, List.set_cons_zero, List.set_cons_succ]
  refine Ord.held_skip (i := 3) (d := 123) rfl rfl (by kernel_rfl) (by kernel_rfl) (by kernel_rfl) (fun _ _ _ h => h) (by kernel_rfl) hHeld ?_
  try simp only [Act.put, List.getElem_toArray, List.getElem_cons_succ, List.getElem_cons_zero, List.setIfInBounds_toArray, List.set_cons_zero, List.set_cons_succ]
  refine Ord.held_skip (i := 4) (d := 124) rfl rfl (by kernel_rfl) (by kernel_rfl) (by kernel_rfl) (fun _ _ _ h => h) (by kernel_rfl) hHeld ?_
  try simp only [Act.put, List.getElem_toArray, List.getElem_cons_succ, List.getElem_cons_zero, List.setIfInBounds_toArray, List.set_cons_zero, List.set_cons_succ]
  refine wpAnyH_ready (rs := [5]) (by kernel_rfl) (by simp) ?_
  refine AllReadyH.cons rfl (fun K hK => ?_) AllReadyH.nil
  go_simp
  refine hK.out _ _ hHeld (fun hHeld => ?_)
  clear hK K
  try simp only [Act.put, List.getElem_toArray, List.getElem_cons_succ, List.getElem_cons_zero, List.setIfInBounds_toArray, List.set_cons_zero, List.set_cons_succ]
  refine wpAnyH_take (i := 6) (v := .bool false) rfl (by kernel_rfl) (by kernel_rfl) (by kernel_rfl) (fun _ _ _ h => h) (Or.inl ⟨by rfl, ?_⟩) hHeld ?_
  ·intro wz hSw; go_simp
  try simp only [Act.put, List.getElem_toArray, List.getElem_cons_succ, List.getElem_cons_zero, List.setIfInBounds_toArray, List.set_cons_zero, List.set_cons_succ]
  refine wpAnyH_take (i := 7) (v := .bool false) rfl (by kernel_rfl) (by kernel_rfl) (by kernel_rfl) (fun _ _ _ h => h) (Or.inl ⟨by rfl, ?_⟩) hHeld ?_
  ·intro wz hSw; go_simp
  try simp only [Act.put, List.getElem_toArray, List.getElem_cons_succ, List.getElem_cons_zero, List.setIfInBounds_toArray, List.set_cons_zero, List.set_cons_succ]
  refine Ord.held_skip (i := 8) (d := 128) rfl rfl (by kernel_rfl) (by kernel_rfl) (by kernel_rfl) (fun _ _ _ h => h) (by kernel_rfl) hHeld ?_
  try simp only [Act.put, List.getElem_toArray, List.getElem_cons_succ, List.getElem_cons_zero, List.setIfInBounds_toArray, List.set_cons_zero, List.set_cons_succ]
  refine Ord.held_skip (i := 9) (d := 129) rfl rfl (by kernel_rfl) (by kernel_rfl) (by kernel_rfl) (fun _ _ _ h => h) (by kernel_rfl) hHeld ?_
  try simp only [Act.put, List.getElem_toArray, List.getElem_cons_succ, List.getElem_cons_zero, List.setIfInBounds_toArray, List.set_cons_zero, List.set_cons_succ]
  refine wpAnyH_ready (rs := [10]) (by kernel_rfl) (by simp) ?_
  refine AllReadyH.cons rfl (fun K hK => ?_) AllReadyH.nil
  go_simp
  refine hK.out _ _ hHeld (fun hHeld => ?_)
  clear hK K
  try simp only [Act.put, List.getElem_toArray, List.getElem_cons_succ, List.getElem_cons_zero, List.setIfInBounds_toArray, List.set_cons_zero, List.set_cons_succ]
  refine wpAnyH_take (i := 11) (v := .bool false) rfl (by kernel_rfl) (by kernel_rfl) (by kernel_rfl) (fun _ _ _ h => h) (Or.inl ⟨by rfl, ?_⟩) hHeld ?_
  ·intro wz hSw; go_simp
  try simp only [Act.put, List.getElem_toArray, List.getElem_cons_succ, List.getElem_cons_zero, List.setIfInBounds_toArray, List.set_cons_zero, List.set_cons_succ]
  refine wpAnyH_ready (rs := [12]) (by kernel_rfl) (by simp) ?_
  refine AllReadyH.cons rfl (fun K hK => ?_) AllReadyH.nil
  rw [if_pos (by rfl)]
  refine wp_store_rowG 37 _ _ rfl w.heap.size (stC 0 zr z1 none 0 0 ⟨#[]⟩ A2 na cA) rfl rfl 37 st0 HQ.out.r infoSt rfl (stC_one _ _ _ _ _ _ _ _ _ _) ?_
  intro W2 hr2 hg2
  have HR2 := Lib.hid hr2
  have HGW := Lib.hid hg2
  have k2 := (HQ.out.fin hg2).2.1
  clear hr2 hg2
  refine hK.out _ _ k2 (fun hHeld => ?_)
  clear hK K
  try simp only [Act.put, List.getElem_toArray, List.getElem_cons_succ, List.getElem_cons_zero, List.setIfInBounds_toArray, List.set_cons_zero, List.set_cons_succ]
  clear k2
  refine wpAnyH_ready (rs := [13]) (by kernel_rfl) (by simp) ?_
  refine AllReadyH.cons rfl (fun K hK => ?_) AllReadyH.nil
  go_simp
  refine hK.out _ _ hHeld (fun hHeld => ?_)
  clear hK K
  try simp only [Act.put, List.getElem_toArray, List.getElem_cons_succ, List.getElem_cons_zero, List.setIfInBounds_toArray, List.set_cons_zero, List.set_cons_succ]
  refine wpAnyH_done (by kernel_rfl) ?_ _
  go_wp2_with fail
  try rw [Exit.noGoto_ret]
  refine bodyPost_ret (Ard.results_row_tmp rfl _ _ w.heap.size 37 (stC 0 zr z1 none 0 0 ⟨#[]⟩ A2 na cA) (0, 0) _ rfl HR2.out Tryz.underlying37 rfl (by first | exact infoSt | (rw [HS6.out]; exact infoSt))) rfl ?_
  have HRA : Hid (numsM (l.drop 2) = none) := by
   show _ = _
   have h1 := HOK.out
   cases hx : numsM (l.drop 2) with
   | none => rfl
   | some y => rw [hx] at h1; cases h1
  have HE : Hid (r = none) := by
   show _ = _
   rw [← HR.out, stepM_fill H0.out, HRA.out]
   exact ite_self _
  rw [HE.out]
  exact rno HQ.out rfl HGW.out
 ·cases nb
  ·refine wp_region_held_drew (S := fun V => V.heap[w.heap.size + 1]? = some (.cells (stC 0 zr z1 none 0 0 ⟨#[]⟩ A2 na cA) 37 (0, 0))) (by kernel_rfl) hrow (fun hHeld => ?_)
   obtain ⟨V7, hV⟩ : ∃ x, W5.drew = x := ⟨_, rfl⟩
   have HQ := Lib.hid (HQ.out.on (Below.refl _ _).drew)
   have HOWN := Lib.hid (own_below HOWN.out (Below.refl _ _).drew)
   rw [hV] at HQ HOWN hHeld ⊢
   clear hV
   refine wpAnyH_take (i := 0) (v := .agg (stC 0 zr z1 none 0 0 ⟨#[]⟩ A2 na cA)) rfl (by kernel_rfl) (by kernel_rfl) (by kernel_rfl) (fun _ _ _ h => h) (yields_row (by rfl) 37 _ rfl (w.heap.size + 1) rfl 37 (stC 0 zr z1 none 0 0 ⟨#[]⟩ A2 na cA) (0, 0) _ (fun _ h => h) Tryz.underlying37 rfl (infoSt)) hHeld ?_
   try simp only [Act.put, List.getElem_toArray, List.getElem_cons_succ, List.getElem_cons_zero, List.setIfInBounds_toArray, List.set_cons_zero, List.set_cons_succ]
   refine wpAnyH_take (i := 1) (v := .bool true) rfl (by kernel_rfl) (by kernel_rfl) (by kernel_rfl) (fun _ _ _ h => h) (Or.inl ⟨by rfl, ?_⟩) hHeld ?_
   ·intro wz hSw; go_simp
   try simp only [Act.put, List.getElem_toArray, List.getElem_cons_succ, List.getElem_cons_zero, List.setIfInBounds_toArray, List.set_cons_zero, List.set_cons_succ]
   refine wpAnyH_take (i := 2) (v := .bool true) rfl (by kernel_rfl) (by kernel_rfl) (by kernel_rfl) (fun _ _ _ h => h) (Or.inl ⟨by rfl, ?_⟩) hHeld ?_
   ·intro wz hSw; go_simp
   try simp only [Act.put, List.getElem_toArray, List.getElem_cons_succ, List.getElem_cons_zero, List.setIfInBounds_toArray, List.set_cons_zero, List.set_cons_succ]
   refine wpAnyH_take (i := 3) (v := .pointer (some ⟨w.heap.size + 1, 2, none⟩)) rfl (by kernel_rfl) (by kernel_rfl) (by kernel_rfl) (fun _ _ _ h => h) (Or.inl ⟨by kernel_rfl, ?_⟩) hHeld ?_
   ·intro wz hSw; go_simp
   try simp only [Act.put, List.getElem_toArray, List.getElem_cons_succ, List.getElem_cons_zero, List.setIfInBounds_toArray, List.set_cons_zero, List.set_cons_succ]
   refine wpAnyH_take (i := 4) (v := .string z1) rfl (by kernel_rfl) (by kernel_rfl) (by kernel_rfl) (fun _ _ _ h => h) (Or.inl ⟨by kernel_rfl, ?_⟩) hHeld ?_
   ·intro wz hSw; (have e1 : wz.cell? ⟨w.heap.size + 1, 2, none⟩ = some (.string z1) := Ard.row_cell hSw 2); go_simp
   try simp only [Act.put, List.getElem_toArray, List.getElem_cons_succ, List.getElem_cons_zero, List.setIfInBounds_toArray, List.set_cons_zero, List.set_cons_succ]
   refine wpAnyH_ready (rs := [5]) (by kernel_rfl) (by simp) ?_
   refine AllReadyH.cons rfl (fun K hK => ?_) AllReadyH.nil
   go_simp
   refine (rname_any z1 _).mono ?_
   rintro e w' ⟨rfl, rfl⟩
   rw [HNB.out]
   refine hK.out _ _ hHeld (fun hHeld => ?_)
   clear hK K
   try simp only [Act.put, List.getElem_toArray, List.getElem_cons_succ, List.getElem_cons_zero, List.setIfInBounds_toArray, List.set_cons_zero, List.set_cons_succ]
   refine wpAnyH_take (i := 6) (v := .bool false) rfl (by kernel_rfl) (by kernel_rfl) (by kernel_rfl) (fun _ _ _ h => h) (Or.inl ⟨by rfl, ?_⟩) hHeld ?_
   ·intro wz hSw; go_simp
   try simp only [Act.put, List.getElem_toArray, List.getElem_cons_succ, List.getElem_cons_zero, List.setIfInBounds_toArray, List.set_cons_zero, List.set_cons_succ]
   refine wpAnyH_take (i := 7) (v := .bool false) rfl (by kernel_rfl) (by kernel_rfl) (by kernel_rfl) (fun _ _ _ h => h) (Or.inl ⟨by rfl, ?_⟩) hHeld ?_
   ·intro wz hSw; go_simp
   try simp only [Act.put, List.getElem_toArray, List.getElem_cons_succ, List.getElem_cons_zero, List.setIfInBounds_toArray, List.set_cons_zero, List.set_cons_succ]
   refine Ord.held_skip (i := 8) (d := 128) rfl rfl (by kernel_rfl) (by kernel_rfl) (by kernel_rfl) (fun _ _ _ h => h) (by kernel_rfl) hHeld ?_
   try simp only [Act.put, List.getElem_toArray, List.getElem_cons_succ, List.getElem_cons_zero, List.setIfInBounds_toArray, List.set_cons_zero, List.set_cons_succ]
   refine Ord.held_skip (i := 9) (d := 129) rfl rfl (by kernel_rfl) (by kernel_rfl) (by kernel_rfl) (fun _ _ _ h => h) (by kernel_rfl) hHeld ?_
   try simp only [Act.put, List.getElem_toArray, List.getElem_cons_succ, List.getElem_cons_zero, List.setIfInBounds_toArray, List.set_cons_zero, List.set_cons_succ]
   refine wpAnyH_ready (rs := [10]) (by kernel_rfl) (by simp) ?_
   refine AllReadyH.cons rfl (fun K hK => ?_) AllReadyH.nil
   go_simp
   refine hK.out _ _ hHeld (fun hHeld => ?_)
   clear hK K
   try simp only [Act.put, List.getElem_toArray, List.getElem_cons_succ, List.getElem_cons_zero, List.setIfInBounds_toArray, List.set_cons_zero, List.set_cons_succ]
   refine wpAnyH_take (i := 11) (v := .bool false) rfl (by kernel_rfl) (by kernel_rfl) (by kernel_rfl) (fun _ _ _ h => h) (Or.inl ⟨by rfl, ?_⟩) hHeld ?_
   ·intro wz hSw; go_simp
   try simp only [Act.put, List.getElem_toArray, List.getElem_cons_succ, List.getElem_cons_zero, List.setIfInBounds_toArray, List.set_cons_zero, List.set_cons_succ]
   refine wpAnyH_ready (rs := [12]) (by kernel_rfl) (by simp) ?_
   refine AllReadyH.cons rfl (fun K hK => ?_) AllReadyH.nil
   rw [if_pos (by rfl)]
   refine wp_store_rowG 37 _ _ rfl w.heap.size (stC 0 zr z1 none 0 0 ⟨#[]⟩ A2 na cA) rfl rfl 37 st0 HQ.out.r infoSt rfl (stC_one _ _ _ _ _ _ _ _ _ _) ?_
   intro W2 hr2 hg2
   have HR2 := Lib.hid hr2
   have HGW := Lib.hid hg2
   have k2 := (HQ.out.fin hg2).2.1
   clear hr2 hg2
   refine hK.out _ _ k2 (fun hHeld => ?_)
   clear hK K
   try simp only [Act.put, List.getElem_toArray, List.getElem_cons_succ, List.getElem_cons_zero, List.setIfInBounds_toArray, List.set_cons_zero, List.set_cons_succ]
   clear k2
   refine wpAnyH_ready (rs := [13]) (by kernel_rfl) (by simp) ?_
   refine AllReadyH.cons rfl (fun K hK => ?_) AllReadyH.nil
   go_simp
   refine hK.out _ _ hHeld (fun hHeld => ?_)
   clear hK K
   try simp only [Act.put, List.getElem_toArray, List.getElem_cons_succ, List.getElem_cons_zero, List.setIfInBounds_toArray, List.set_cons_zero, List.set_cons_succ]
   refine wpAnyH_done (by kernel_rfl) ?_ _
   go_wp2_with fail
   try rw [Exit.noGoto_ret]
   refine bodyPost_ret (Ard.results_row_tmp rfl _ _ w.heap.size 37 (stC 0 zr z1 none 0 0 ⟨#[]⟩ A2 na cA) (0, 0) _ rfl HR2.out Tryz.underlying37 rfl (by first | exact infoSt | (rw [HS6.out]; exact infoSt))) rfl ?_
   have HE : Hid (r = none) := by show _ = _; rw [← HR.out, stepM_fill H0.out, if_neg (fun h => by rw [HG1.out, ← HT1.out, HNB.out] at h; exact absurd h.2 (by decide))]
   rw [HE.out]
   exact rno HQ.out rfl HGW.out
  ·refine wp_region_held_drew (S := fun V => V.heap[w.heap.size + 1]? = some (.cells (stC 0 zr z1 none 0 0 ⟨#[]⟩ A2 na cA) 37 (0, 0))) (by kernel_rfl) hrow (fun hHeld => ?_)
   obtain ⟨V7, hV⟩ : ∃ x, W5.drew = x := ⟨_, rfl⟩
   have HQ := Lib.hid (HQ.out.on (Below.refl _ _).drew)
   have HOWN := Lib.hid (own_below HOWN.out (Below.refl _ _).drew)
   rw [hV] at HQ HOWN hHeld ⊢
   clear hV
   refine wpAnyH_take (i := 0) (v := .agg (stC 0 zr z1 none 0 0 ⟨#[]⟩ A2 na cA)) rfl (by kernel_rfl) (by kernel_rfl) (by kernel_rfl) (fun _ _ _ h => h) (yields_row (by rfl) 37 _ rfl (w.heap.size + 1) rfl 37 (stC 0 zr z1 none 0 0 ⟨#[]⟩ A2 na cA) (0, 0) _ (fun _ h => h) Tryz.underlying37 rfl (infoSt)) hHeld ?_
   try simp only [Act.put, List.getElem_toArray, List.getElem_cons_succ, List.getElem_cons_zero, List.setIfInBounds_toArray, List.set_cons_zero, List.set_cons_succ]
   refine wpAnyH_take (i := 1) (v := .bool true) rfl (by kernel_rfl) (by kernel_rfl) (by kernel_rfl) (fun _ _ _ h => h) (Or.inl ⟨by rfl, ?_⟩) hHeld ?_
   ·intro wz hSw; go_simp
   try simp only [Act.put, List.getElem_toArray, List.getElem_cons_succ, List.getElem_cons_zero, List.setIfInBounds_toArray, List.set_cons_zero, List.set_cons_succ]
   refine wpAnyH_take (i := 2) (v := .bool true) rfl (by kernel_rfl) (by kernel_rfl) (by kernel_rfl) (fun _ _ _ h => h) (Or.inl ⟨by rfl, ?_⟩) hHeld ?_
   ·intro wz hSw; go_simp
   try simp only [Act.put, List.getElem_toArray, List.getElem_cons_succ, List.getElem_cons_zero, List.setIfInBounds_toArray, List.set_cons_zero, List.set_cons_succ]
   refine wpAnyH_take (i := 3) (v := .pointer (some ⟨w.heap.size + 1, 2, none⟩)) rfl (by kernel_rfl) (by kernel_rfl) (by kernel_rfl) (fun _ _ _ h => h) (Or.inl ⟨by kernel_rfl, ?_⟩) hHeld ?_
   ·intro wz hSw; go_simp
   try simp only [Act.put, List.getElem_toArray, List.getElem_cons_succ, List.getElem_cons_zero, List.setIfInBounds_toArray, List.set_cons_zero, List.set_cons_succ]
   refine wpAnyH_take (i := 4) (v := .string z1) rfl (by kernel_rfl) (by kernel_rfl) (by kernel_rfl) (fun _ _ _ h => h) (Or.inl ⟨by kernel_rfl, ?_⟩) hHeld ?_
   ·intro wz hSw; (have e1 : wz.cell? ⟨w.heap.size + 1, 2, none⟩ = some (.string z1) := Ard.row_cell hSw 2); go_simp
   try simp only [Act.put, List.getElem_toArray, List.getElem_cons_succ, List.getElem_cons_zero, List.setIfInBounds_toArray, List.set_cons_zero, List.set_cons_succ]
   refine wpAnyH_ready (rs := [5]) (by kernel_rfl) (by simp) ?_
   refine AllReadyH.cons rfl (fun K hK => ?_) AllReadyH.nil
   go_simp
   refine (rname_any z1 _).mono ?_
   rintro e w' ⟨rfl, rfl⟩
   rw [HNB.out]
   refine hK.out _ _ hHeld (fun hHeld => ?_)
   clear hK K
   try simp only [Act.put, List.getElem_toArray, List.getElem_cons_succ, List.getElem_cons_zero, List.setIfInBounds_toArray, List.set_cons_zero, List.set_cons_succ]
   refine wpAnyH_take (i := 6) (v := .bool true) rfl (by kernel_rfl) (by kernel_rfl) (by kernel_rfl) (fun _ _ _ h => h) (Or.inl ⟨by rfl, ?_⟩) hHeld ?_
   ·intro wz hSw; go_simp
   try simp only [Act.put, List.getElem_toArray, List.getElem_cons_succ, List.getElem_cons_zero, List.setIfInBounds_toArray, List.set_cons_zero, List.set_cons_succ]
   refine wpAnyH_take (i := 7) (v := .bool true) rfl (by kernel_rfl) (by kernel_rfl) (by kernel_rfl) (fun _ _ _ h => h) (Or.inl ⟨by rfl, ?_⟩) hHeld ?_
   ·intro wz hSw; go_simp
   try simp only [Act.put, List.getElem_toArray, List.getElem_cons_succ, List.getElem_cons_zero, List.setIfInBounds_toArray, List.set_cons_zero, List.set_cons_succ]
   refine wpAnyH_take (i := 8) (v := .pointer (some ⟨w.heap.size + 1, 5, none⟩)) rfl (by kernel_rfl) (by kernel_rfl) (by kernel_rfl) (fun _ _ _ h => h) (Or.inl ⟨by kernel_rfl, ?_⟩) hHeld ?_
   ·intro wz hSw; go_simp
   try simp only [Act.put, List.getElem_toArray, List.getElem_cons_succ, List.getElem_cons_zero, List.setIfInBounds_toArray, List.set_cons_zero, List.set_cons_succ]
   refine wpAnyH_take (i := 9) (v := .slice A2 na cA) rfl (by kernel_rfl) (by kernel_rfl) (by kernel_rfl) (fun _ _ _ h => h) (Or.inl ⟨by kernel_rfl, ?_⟩) hHeld ?_
   ·intro wz hSw; (have e1 : wz.cell? ⟨w.heap.size + 1, 5, none⟩ = some (.slice A2 na cA) := Ard.row_cell hSw 5); go_simp
   try simp only [Act.put, List.getElem_toArray, List.getElem_cons_succ, List.getElem_cons_zero, List.setIfInBounds_toArray, List.set_cons_zero, List.set_cons_succ]
   refine wpAnyH_ready (rs := [10]) (by kernel_rfl) (by simp) ?_
   refine AllReadyH.cons rfl (fun K hK => ?_) AllReadyH.nil
   go_simp
   refine (rfill_any (c := cA) _ (SI.of_own HOWN.out (by have := HNL.out; show na * 8 ≤ _; omega))).mono ?_
   rintro e V8 ⟨rfl, hbv⟩
   rw [HFB.out]
   have HQ := Lib.hid (HQ.out.on (hbv.mono (by have := HQ.out.lt; omega)))
   have HOWN := Lib.hid (own_below HOWN.out hbv)
   clear hbv
   refine hK.out _ _ HQ.out.s (fun hHeld => ?_)
   clear hK K
   try simp only [Act.put, List.getElem_toArray, List.getElem_cons_succ, List.getElem_cons_zero, List.setIfInBounds_toArray, List.set_cons_zero, List.set_cons_succ]
   refine wpAnyH_take (i := 11) (v := .bool fb) rfl (by kernel_rfl) (by kernel_rfl) (by kernel_rfl) (fun _ _ _ h => h) (Or.inl ⟨by rfl, ?_⟩) hHeld ?_
   ·intro wz hSw; go_simp
   try simp only [Act.put, List.getElem_toArray, List.getElem_cons_succ, List.getElem_cons_zero, List.setIfInBounds_toArray, List.set_cons_zero, List.set_cons_succ]
   refine wpAnyH_ready (rs := [12]) (by kernel_rfl) (by simp) ?_
   refine AllReadyH.cons rfl (fun K hK => ?_) AllReadyH.nil
   rw [if_pos (by rfl)]
   refine wp_store_rowG 37 _ _ rfl w.heap.size (stC 0 zr z1 none 0 0 ⟨#[]⟩ A2 na cA) rfl rfl 37 st0 HQ.out.r infoSt rfl (stC_one _ _ _ _ _ _ _ _ _ _) ?_
   intro W2 hr2 hg2
   have HR2 := Lib.hid hr2
   have HGW := Lib.hid hg2
   have k2 := (HQ.out.fin hg2).2.1
   clear hr2 hg2
   refine hK.out _ _ k2 (fun hHeld => ?_)
   clear hK K
   try simp only [Act.put, List.getElem_toArray, List.getElem_cons_succ, List.getElem_cons_zero, List.setIfInBounds_toArray, List.set_cons_zero, List.set_cons_succ]
   clear k2
   refine wpAnyH_ready (rs := [13]) (by kernel_rfl) (by simp) ?_
   refine AllReadyH.cons rfl (fun K hK => ?_) AllReadyH.nil
   go_simp
   refine hK.out _ _ hHeld (fun hHeld => ?_)
   clear hK K
   try simp only [Act.put, List.getElem_toArray, List.getElem_cons_succ, List.getElem_cons_zero, List.setIfInBounds_toArray, List.set_cons_zero, List.set_cons_succ]
   refine wpAnyH_done (by kernel_rfl) ?_ _
   go_wp2_with fail
   try rw [Exit.noGoto_ret]
   refine bodyPost_ret (Ard.results_row_tmp rfl _ _ w.heap.size 37 (stC 0 zr z1 none 0 0 ⟨#[]⟩ A2 na cA) (0, 0) _ rfl HR2.out Tryz.underlying37 rfl (by first | exact infoSt | (rw [HS6.out]; exact infoSt))) rfl ?_
   have HRA : Hid (numsM (l.drop 2) = some a0) := by
    show _ = _
    have h1 := HOK.out
    rw [← HA0.out]
    cases hx : numsM (l.drop 2) with
    | none => rw [hx] at h1; cases h1
    | some y => rfl
   have HE : Hid (r = if fb then some ⟨fillT, t1, [], [], a0⟩ else none) := by
    show _ = _
    rw [← HR.out, stepM_fill H0.out, if_pos ⟨by rw [HLN.out]; exact HM.out, by rw [HG1.out, ← HT1.out]; exact HNB.out⟩, HRA.out, HG1.out]
    show (if fillB a0 = true then _ else _) = _
    rw [HFB.out]
   rw [HE.out]
   exact rend fb HQ.out rfl HGW.out HZR.out HZ1.out rfl (World.ownsRow_nil _ _ _ _) (by show World.ownsRow _ _ _ _ _ _ _; exact HOWN.out)
end Go.Proofs.YtoofgblmpjndjaaGreatDoor.Scr
