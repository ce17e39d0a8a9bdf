/-
  Walks: the reference's step: 'write'. (Printed by gen_rstep.py.)
-/
import Derived.Test.YtoofgblmpjndjaaGreatDoorZG25
import Derived.Test.YtoofgblmpjndjaaGreatDoorZG16
import Derived.Test.YtoofgblmpjndjaaGreatDoorZG9
import Derived.Test.YtoofgblmpjndjaaGreatDoorZG20
set_option linter.unusedVariables false
set_option linter.unusedSimpArgs false
namespace Go.Proofs.YtoofgblmpjndjaaGreatDoor.Scr
open Go.RowKit K Go.Lib

def kfM (t : Tx) : Nat → Int
 | 0 => 0
 | i + 1 => if fmtsM.getD i [] = t then ((i + 1 : Nat) : Int) else kfM t i
theorem kf_six (t : Tx) : kfM t 6 = fmtN t := by
 by_cases h : t ∈ fmtsM
 ·have h2 := h
  simp only [fmtsM, List.mem_cons, List.not_mem_nil, or_false] at h2
  rcases h2 with rfl | rfl | rfl | rfl | rfl | rfl <;> decide
 ·have hn : ∀ i, i < 6 → ¬ fmtsM.getD i [] = t := fun i hi e => h (by
   rw [← e, List.getD_eq_getElem?_getD, List.getElem?_eq_getElem (by show i < 6; exact hi)]
   exact List.getElem_mem _)
  unfold fmtN
  rw [if_neg h]
  unfold kfM; rw [if_neg (hn 5 (by omega))]
  unfold kfM; rw [if_neg (hn 4 (by omega))]
  unfold kfM; rw [if_neg (hn 3 (by omega))]
  unfold kfM; rw [if_neg (hn 2 (by omega))]
  unfold kfM; rw [if_neg (hn 1 (by omega))]
  unfold kfM; rw [if_neg (hn 0 (by omega))]
  rfl
set_option maxRecDepth 20000 in
set_option maxHeartbeats 16000000 in
theorem rstep_write {A : Option Addr} {n c : Nat} {l : List Tx} (w : World) (H : SS w A n l) (hn : 1 ≤ n) (hcap : n ≤ c) (h0 : l.getD 0 [] = writeT) :
  Calls Tryz.prog 27 #[.slice A n c] w (RStepP w (stepM l)) := by
 have HS := Lib.hid H
 have HLN := Lib.hid H.len
 have HCAP := Lib.hid hcap
 have HNS := Lib.hid H.sz
 have H0 := Lib.hid h0
 obtain ⟨r, hr0⟩ : ∃ r, stepM l = r := ⟨_, rfl⟩
 rw [hr0]
 have HR := Lib.hid hr0
 obtain ⟨b0, o0, t0, rfl, hc0, ht0, hb0⟩ := H.cell (i := 0) (by omega)
 have HB0 := Lib.hid hb0
 rw [Nat.add_zero] at hc0
 have htr : writeT = t0 := by rw [← h0, List.getD_eq_getElem?_getD, ht0]; rfl
 subst htr
 have HNEW : Hid (((w.alloc (.cells #[.int .i64 0, .string ⟨#[]⟩, .string ⟨#[]⟩, .slice none 0 0, .string ⟨#[]⟩, .slice none 0 0] 37)).alloc (.cells #[.int .i64 0, .string ⟨#[]⟩, .string ⟨#[]⟩, .slice none 0 0, .string ⟨#[]⟩, .slice none 0 0] 37)).heap[w.heap.size + 1]? = some (.cells st0 37 (0, 0))) := by
  show _ = _
  have := heap_alloc_new (w.alloc (.cells #[.int .i64 0, .string ⟨#[]⟩, .string ⟨#[]⟩, .slice none 0 0, .string ⟨#[]⟩, .slice none 0 0] 37)) (.cells #[.int .i64 0, .string ⟨#[]⟩, .string ⟨#[]⟩, .slice none 0 0, .string ⟨#[]⟩, .slice none 0 0] 37)
  rwa [World.size_alloc] at this
 have hcA : (w.alloc (.cells #[.int .i64 0, .string ⟨#[]⟩, .string ⟨#[]⟩, .slice none 0 0, .string ⟨#[]⟩, .slice none 0 0] 37)).cell? ⟨b0, o0, none⟩ = some (.string (ba writeT)) := (((Below.refl _ w).alloc (Nat.le_refl _) _).cell (p := ⟨b0, o0, none⟩) hb0).trans hc0
 have n0 : (0 : Int) < n := by omega
 have n1 : 0 < n := hn
 have n2 : n ≠ 0 := by omega
 have r0 : ((ba writeT).toList == [114, 101, 97, 100]) = false := by rw [tl_ba]; rfl
 have r1 : ((ba writeT).toList == [119, 114, 105, 116, 101]) = true := by rw [tl_ba]; rfl
 obtain ⟨zr, hzr⟩ : ∃ z, ba writeT = z := ⟨_, rfl⟩
 have HZR := Lib.hid hzr
 rw [hzr] at hc0 hcA r0 r1
 have HC0 := Lib.hid hc0
 clear H ht0 h0 hzr hr0 hcap hb0 hc0
 by_cases hm : ¬ 4 ≤ n
 ·have t3 : decide ((n : Int) < 4) = true := decide_eq_true (by omega)
  have t4 : decide (n < 4) = true := decide_eq_true (by omega)
  have HM := Lib.hid hm
  clear hm
  go_enter Tryz.func27, Tryz.ntmps27
  have HE : Hid (r = none) := by show _ = _; rw [← HR.out]; rw [stepM_write H0.out, if_neg (fun h => HM.out (by rw [← HLN.out]; exact h.1))]
  go_wp2_with (first | (refine wpList_store_rowG rfl 37 (.tmp 4) (.tmp 15) rfl (w.heap.size + 1) (stC 0 zr ⟨#[]⟩ none 0 0 ⟨#[]⟩ none 0 0) rfl rfl 37 st0 HNEW.out infoSt rfl (stC_one _ _ _ _ _ _ _ _ _ _) ?_; intro W1 hr1 hg1; (have HQ : Hid (RQ w W1 zr ⟨#[]⟩ none 0 0 ⟨#[]⟩ none 0 0) := RQ.start hr1 hg1); clear hr1 hg1 hcA HNEW; (have d0 := (HQ.out.bel.cell (p := ⟨b0, o0, none⟩) HB0.out).trans HC0.out); obtain ⟨SC, HROW, HS6, HONE, HSC⟩ := HQ.out.row) | (refine wpList_load_row rfl 37 (.tmp 4) rfl (w.heap.size + 1) rfl 37 SC (0, 0) _ HROW.out Tryz.underlying37 rfl (by rw [HS6.out]; exact infoSt) ?_) | (refine wpList_store_rowG rfl 37 (.tmp 2) (.tmp 47) rfl w.heap.size SC rfl rfl 37 st0 HQ.out.r (by rw [HS6.out]; exact infoSt) (by rw [HS6.out]; rfl) HONE.out ?_; intro W2 hr2 hg2; (have HR2 := Lib.hid hr2); (have HGW := Lib.hid hg2); clear hr2 hg2) | fail)
  try rw [Exit.noGoto_ret]
  refine bodyPost_ret (Ard.results_row_tmp rfl _ _ w.heap.size 37 (SC) (0, 0) _ rfl HR2.out Tryz.underlying37 rfl (by first | exact infoSt | (rw [HS6.out]; exact infoSt))) rfl ?_
  rw [HE.out]
  exact rno HQ.out HSC.out HGW.out
 replace hm := Decidable.not_not.1 hm
 obtain ⟨b1', o1', t1, e1, hc1, ht1, -⟩ := HS.out.cell (i := 1) (by omega)
 injection e1 with e1
 injection e1 with ea1 eb1
 subst ea1 eb1
 have HG1 : Hid (l.getD 1 [] = t1) := by show _ = _; rw [List.getD_eq_getElem?_getD, ht1]; rfl
 obtain ⟨z1, hz1⟩ : ∃ z, ba t1 = z := ⟨_, rfl⟩
 have HZ1 := Lib.hid hz1
 have HT1 : Hid (z1.data.toList = t1) := by show _ = _; rw [← hz1]; rfl
 rw [hz1] at hc1
 have HC1 := Lib.hid hc1
 have i1 : (1 : Int) < n := by omega
 clear hc1 ht1 hz1
 obtain ⟨b2', o2', t2, e2, hc2, ht2, -⟩ := HS.out.cell (i := 2) (by omega)
 injection e2 with e2
 injection e2 with ea2 eb2
 subst ea2 eb2
 have HG2 : Hid (l.getD 2 [] = t2) := by show _ = _; rw [List.getD_eq_getElem?_getD, ht2]; rfl
 obtain ⟨z2, hz2⟩ : ∃ z, ba t2 = z := ⟨_, rfl⟩
 have HZ2 := Lib.hid hz2
 have HT2 : Hid (z2.data.toList = t2) := by show _ = _; rw [← hz2]; rfl
 rw [hz2] at hc2
 have HC2 := Lib.hid hc2
 have i2 : (2 : Int) < n := by omega
 clear hc2 ht2 hz2
 obtain ⟨b3', o3', t3, e3, hc3, ht3, -⟩ := HS.out.cell (i := 3) (by omega)
 injection e3 with e3
 injection e3 with ea3 eb3
 subst ea3 eb3
 have HG3 : Hid (l.getD 3 [] = t3) := by show _ = _; rw [List.getD_eq_getElem?_getD, ht3]; rfl
 obtain ⟨z3, hz3⟩ : ∃ z, ba t3 = z := ⟨_, rfl⟩
 have HZ3 := Lib.hid hz3
 have HT3 : Hid (z3.data.toList = t3) := by show _ = _; rw [← hz3]; rfl
 rw [hz3] at hc3
 have HC3 := Lib.hid hc3
 have i3 : (3 : Int) < n := by omega
 clear hc3 ht3 hz3
 have t3' : decide ((n : Int) < 4) = false := decide_eq_false (by omega)
 have t4' : decide (n < 4) = false := decide_eq_false (by omega)
 have hsl := fun w => run_from (P := Tryz.prog) (t := 34) (e := 9) (n := n) (c := c) (A := some ⟨b0, o0, none⟩) (a := 4) (i := 4) Tryz.underlying34 szS rfl (by omega) w
 have HSD := Lib.hid (ssDrop HS.out (a := 4) (c := c) (by omega) HCAP.out)
 obtain ⟨X, hX⟩ : ∃ x, subA (some ⟨b0, o0, none⟩) 4 c = x := ⟨_, rfl⟩
 obtain ⟨m, hm2⟩ : ∃ x, n - 4 = x := ⟨_, rfl⟩
 obtain ⟨cm, hcm⟩ : ∃ x, c - 4 = x := ⟨_, rfl⟩
 rw [hX, hm2, hcm] at hsl
 rw [hX, hm2] at HSD
 clear hX hm2 hcm
 obtain ⟨a0, ha0⟩ : ∃ x, (numsM (l.drop 4)).getD [] = x := ⟨_, rfl⟩
 have HA0 := Lib.hid ha0
 obtain ⟨okb, hok⟩ : ∃ x, (numsM (l.drop 4)).isSome = x := ⟨_, rfl⟩
 have HOK := Lib.hid hok
 obtain ⟨na, hna⟩ : ∃ x, a0.length = x := ⟨_, rfl⟩
 have HNA := Lib.hid hna
 have HNUMS : Hid (∀ V, Below w.heap.size w V → Calls Tryz.prog 57 #[.slice X m cm] V fun e w' => Below V.heap.size V w' ∧ ∃ A c, e = .returned (.tuple #[.slice A na c, .bool okb]) ∧ w'.ownsRow V.heap.size 3 1 (.slice A na c) na (a0.map (.int .i64))) := fun V hV => by have := rnumbers_u (c := cm) V (HSD.out.below hV); rw [ha0, hok, hna] at this; exact this
 have HNL : Hid (na * 8 ≤ 70368744176000) := by
  show _ ≤ _
  rw [← hna, ← ha0]
  have h2 := HSD.out.len
  have h4 := HSD.out.sz
  cases hx : numsM (l.drop 4) with
  | none => exact Nat.zero_le _
  | some y => have h1 := numsM_len hx; show y.length * 8 ≤ _; omega
 clear ha0 hok hna
 have HM := Lib.hid hm
 clear hm
 go_enter Tryz.func27, Tryz.ntmps27
 go_wp2_with (first | (refine wpList_store_rowG rfl 37 (.tmp 4) (.tmp 15) rfl (w.heap.size + 1) (stC 0 zr ⟨#[]⟩ none 0 0 ⟨#[]⟩ none 0 0) rfl rfl 37 st0 HNEW.out infoSt rfl (stC_one _ _ _ _ _ _ _ _ _ _) ?_; intro W1 hr1 hg1; (have HQ : Hid (RQ w W1 zr ⟨#[]⟩ none 0 0 ⟨#[]⟩ none 0 0) := RQ.start hr1 hg1); clear hr1 hg1 hcA HNEW; (have d0 := (HQ.out.bel.cell (p := ⟨b0, o0, none⟩) HB0.out).trans HC0.out); obtain ⟨SC, HROW, HS6, HONE, HSC⟩ := HQ.out.row) | fail)
 clear HROW HS6 HONE HSC
 refine wp_region_held_drew (S := fun V => V.cell? ⟨b0, o0 + 1, none⟩ = some (.string z1) ∧ V.cell? ⟨b0, o0 + 2, none⟩ = some (.string z2)) (by kernel_rfl) ⟨(HQ.out.bel.cell (p := ⟨b0, o0 + 1, none⟩) HB0.out).trans HC1.out, (HQ.out.bel.cell (p := ⟨b0, o0 + 2, none⟩) HB0.out).trans HC2.out⟩ (fun hHeld => ?_)
 obtain ⟨V0, hV⟩ : ∃ x, W1.drew = x := ⟨_, rfl⟩
 have HQ := Lib.hid (HQ.out.on (Below.refl _ _).drew)
 rw [hV] at HQ  hHeld ⊢
 clear hV
 refine wpAnyH_take (i := 0) (v := .slice (some ⟨b0, o0, none⟩) n c) rfl (by kernel_rfl) (by kernel_rfl) (by kernel_rfl) (fun _ _ _ h => h) (Or.inl ⟨by rfl, ?_⟩) hHeld ?_
 ·intro wz hSw; obtain ⟨s1, s2⟩ := hSw; go_simp
 try simp only [Act.put, List.getElem_toArray, List.getElem_cons_succ, List.getElem_cons_zero, List.setIfInBounds_toArray, List.set_cons_zero, List.set_cons_succ]
 refine wpAnyH_take (i := 1) (v := .pointer (some ⟨b0, o0 + 1, none⟩)) rfl (by kernel_rfl) (by kernel_rfl) (by kernel_rfl) (fun _ _ _ h => h) (Or.inl ⟨by rfl, ?_⟩) hHeld ?_
 ·intro wz hSw; obtain ⟨s1, s2⟩ := hSw; go_simp
 try simp only [Act.put, List.getElem_toArray, List.getElem_cons_succ, List.getElem_cons_zero, List.setIfInBounds_toArray, List.set_cons_zero, List.set_cons_succ]
 refine wpAnyH_take (i := 2) (v := .string z1) rfl (by kernel_rfl) (by kernel_rfl) (by kernel_rfl) (fun _ _ _ h => h) (Or.inl ⟨by rfl, ?_⟩) hHeld ?_
 ·intro wz hSw; obtain ⟨s1, s2⟩ := hSw; go_simp
 try simp only [Act.put, List.getElem_toArray, List.getElem_cons_succ, List.getElem_cons_zero, List.setIfInBounds_toArray, List.set_cons_zero, List.set_cons_succ]
 refine wpAnyH_take (i := 4) (v := .slice (some ⟨b0, o0, none⟩) n c) rfl (by kernel_rfl) (by kernel_rfl) (by kernel_rfl) (fun _ _ _ h => h) (Or.inl ⟨by rfl, ?_⟩) hHeld ?_
 ·intro wz hSw; obtain ⟨s1, s2⟩ := hSw; go_simp
 try simp only [Act.put, List.getElem_toArray, List.getElem_cons_succ, List.getElem_cons_zero, List.setIfInBounds_toArray, List.set_cons_zero, List.set_cons_succ]
 refine wpAnyH_take (i := 5) (v := .pointer (some ⟨b0, o0 + 2, none⟩)) rfl (by kernel_rfl) (by kernel_rfl) (by kernel_rfl) (fun _ _ _ h => h) (Or.inl ⟨by rfl, ?_⟩) hHeld ?_
 ·intro wz hSw; obtain ⟨s1, s2⟩ := hSw; go_simp
 try simp only [Act.put, List.getElem_toArray, List.getElem_cons_succ, List.getElem_cons_zero, List.setIfInBounds_toArray, List.set_cons_zero, List.set_cons_succ]
 refine wpAnyH_take (i := 6) (v := .string z2) rfl (by kernel_rfl) (by kernel_rfl) (by kernel_rfl) (fun _ _ _ h => h) (Or.inl ⟨by rfl, ?_⟩) hHeld ?_
 ·intro wz hSw; obtain ⟨s1, s2⟩ := hSw; go_simp
 try simp only [Act.put, List.getElem_toArray, List.getElem_cons_succ, List.getElem_cons_zero, List.setIfInBounds_toArray, List.set_cons_zero, List.set_cons_succ]
 refine wpAnyH_ready (rs := [3]) (by kernel_rfl) (by simp) ?_
 refine AllReadyH.cons rfl (fun K hK => ?_) AllReadyH.nil
 go_simp
 have hbase : w.heap.size + 2 ≤ V0.heap.size := by have := HQ.out.lt; omega
 obtain ⟨V1, hV⟩ : ∃ x, V0.alloc (.cells #[.string z1] 9) = x := ⟨_, rfl⟩
 have hown := own_lower (own_lit V0 [.string z1] 9 (by show 1 ≤ maxLen; decide)) hbase
 have hbv : Below V0.heap.size V0 V1 := by rw [← hV]; exact (Below.refl _ _).alloc (Nat.le_refl _) _
 have HQ := Lib.hid (HQ.out.on (hbv.mono hbase))
 obtain ⟨gs, hg⟩ : ∃ g, V0.heap.size = g := ⟨_, rfl⟩
 have HSRC : Hid (V1.ownsRow (w.heap.size + 2) 9 1 (.slice (some ⟨V0.heap.size, 0, none⟩) 1 1) 1 [.string z1]) := by rw [← hV]; exact hown
 rw [hg] at HSRC ⊢
 try rw [hV]
 clear hV hg hown hbase hbv
 refine hK.out _ _ ⟨(HQ.out.bel.cell (p := ⟨b0, o0 + 1, none⟩) HB0.out).trans HC1.out, (HQ.out.bel.cell (p := ⟨b0, o0 + 2, none⟩) HB0.out).trans HC2.out⟩ (fun hHeld => ?_)
 clear hK K
 try simp only [Act.put, List.getElem_toArray, List.getElem_cons_succ, List.getElem_cons_zero, List.setIfInBounds_toArray, List.set_cons_zero, List.set_cons_succ]
 refine wpAnyH_take (i := 7) (v := .pointer (some ⟨w.heap.size + 1, 3, none⟩)) rfl (by kernel_rfl) (by kernel_rfl) (by kernel_rfl) (fun _ _ _ h => h) (Or.inl ⟨by rfl, ?_⟩) hHeld ?_
 ·intro wz hSw; obtain ⟨s1, s2⟩ := hSw; go_simp
 try simp only [Act.put, List.getElem_toArray, List.getElem_cons_succ, List.getElem_cons_zero, List.setIfInBounds_toArray, List.set_cons_zero, List.set_cons_succ]
 refine wpAnyH_ready (rs := [8]) (by kernel_rfl) (by simp) ?_
 refine AllReadyH.cons rfl (fun K hK => ?_) AllReadyH.nil
 have yc := HQ.out.cells.1
 have yf := HQ.out.cells.2 3
 obtain ⟨y1, y2, y3, y4, y5⟩ := yc
 have HQ := Lib.hid (HQ.out.setSrcs (some ⟨gs, 0, none⟩) 1 1)
 obtain ⟨V2, hV⟩ : ∃ x, V1.setCell ⟨w.heap.size + 1, 3, none⟩ (.slice (some ⟨gs, 0, none⟩) 1 1) = x := ⟨_, rfl⟩
 rw [hV] at HQ
 have HSRC := Lib.hid (ownsRow_setCell_below HSRC.out (a := ⟨w.heap.size + 1, 3, none⟩) (by show w.heap.size + 1 < w.heap.size + 2; omega) (.slice (some ⟨gs, 0, none⟩) 1 1))
 rw [hV] at HSRC
 go_simp
 try rw [hV]
 clear hV y1 y2 y3 y4 y5 yf
 refine hK.out _ _ ⟨(HQ.out.bel.cell (p := ⟨b0, o0 + 1, none⟩) HB0.out).trans HC1.out, (HQ.out.bel.cell (p := ⟨b0, o0 + 2, none⟩) HB0.out).trans HC2.out⟩ (fun hHeld => ?_)
 clear hK K
 try simp only [Act.put, List.getElem_toArray, List.getElem_cons_succ, List.getElem_cons_zero, List.setIfInBounds_toArray, List.set_cons_zero, List.set_cons_succ]
 refine wpAnyH_take (i := 9) (v := .pointer (some ⟨w.heap.size + 1, 4, none⟩)) rfl (by kernel_rfl) (by kernel_rfl) (by kernel_rfl) (fun _ _ _ h => h) (Or.inl ⟨by rfl, ?_⟩) hHeld ?_
 ·intro wz hSw; obtain ⟨s1, s2⟩ := hSw; go_simp
 try simp only [Act.put, List.getElem_toArray, List.getElem_cons_succ, List.getElem_cons_zero, List.setIfInBounds_toArray, List.set_cons_zero, List.set_cons_succ]
 refine wpAnyH_ready (rs := [10]) (by kernel_rfl) (by simp) ?_
 refine AllReadyH.cons rfl (fun K hK => ?_) AllReadyH.nil
 have yc := HQ.out.cells.1
 have yf := HQ.out.cells.2 4
 obtain ⟨y1, y2, y3, y4, y5⟩ := yc
 have HQ := Lib.hid (HQ.out.setFile z2)
 obtain ⟨V3, hV⟩ : ∃ x, V2.setCell ⟨w.heap.size + 1, 4, none⟩ (.string z2) = x := ⟨_, rfl⟩
 rw [hV] at HQ
 have HSRC := Lib.hid (ownsRow_setCell_below HSRC.out (a := ⟨w.heap.size + 1, 4, none⟩) (by show w.heap.size + 1 < w.heap.size + 2; omega) (.string z2))
 rw [hV] at HSRC
 go_simp
 try rw [hV]
 clear hV y1 y2 y3 y4 y5 yf
 refine hK.out _ _ ⟨(HQ.out.bel.cell (p := ⟨b0, o0 + 1, none⟩) HB0.out).trans HC1.out, (HQ.out.bel.cell (p := ⟨b0, o0 + 2, none⟩) HB0.out).trans HC2.out⟩ (fun hHeld => ?_)
 clear hK K
 try simp only [Act.put, List.getElem_toArray, List.getElem_cons_succ, List.getElem_cons_zero, List.setIfInBounds_toArray, List.set_cons_zero, List.set_cons_succ]
 refine wpAnyH_done (by kernel_rfl) ?_ _
 have hslp := hsl
 go_wp2_with (first | (go_at_call 57; refine (HNUMS.out V3 HQ.out.bel).mono ?_; rintro e Vn ⟨hbv, A2, cA, rfl, hown⟩; (have hbase : w.heap.size + 2 ≤ V3.heap.size := by have := HQ.out.lt; omega); (have HQ := Lib.hid (HQ.out.on (hbv.mono hbase))); (have HOWN := Lib.hid (own_lower hown hbase)); (have HSRC := Lib.hid (own_below HSRC.out hbv)); clear hbv hown hbase HNUMS; (have yc := HQ.out.cells); obtain ⟨⟨y1, y2, y3, y4, y5⟩, yf⟩ := yc; (have f5 := yf 5); obtain ⟨V15, hWn, hqn⟩ : ∃ x, Vn.setCell ⟨w.heap.size + 1, 5, none⟩ (.slice A2 na cA) = x ∧ RQ w x zr ⟨#[]⟩ (some ⟨gs, 0, none⟩) 1 1 z2 A2 na cA := ⟨_, rfl, HQ.out.setArgs A2 na cA⟩; (have HOWN := Lib.hid (ownsRow_setCell_below HOWN.out (a := ⟨w.heap.size + 1, 5, none⟩) (by show w.heap.size + 1 < w.heap.size + 2; omega) (.slice A2 na cA))); rw [hWn] at HOWN; (have HSRC := Lib.hid (ownsRow_setCell_below HSRC.out (a := ⟨w.heap.size + 1, 5, none⟩) (by show w.heap.size + 1 < w.heap.size + 2; omega) (.slice A2 na cA))); rw [hWn] at HSRC; (have HQ := Lib.hid hqn); clear y1 y2 y3 y4 yf hqn) | fail)
 clear f5 hsl hslp
 go_loopw [6, 7] (fun s6 s7 wx => ∃ i : Nat, i ≤ 6 ∧ s6 = .int .i64 (kfM t3 i) ∧ s7 = .int .i64 (i : Int) ∧ Hid (Below V15.heap.size V15 wx)) (fun _ s7 _ => 6 - (intOf s7).toNat)
 case atStart => exact ⟨0, by omega, rfl, rfl, Below.refl _ _⟩
 case round =>
  obtain ⟨i, hi, rfl, rfl, HBL⟩ := hrel
  have HQ := Lib.hid (HQ.out.on (HBL.out.mono (by have := HQ.out.lt; omega)))
  have HSRC := Lib.hid (own_below HSRC.out HBL.out)
  have HOWN := Lib.hid (own_below HOWN.out HBL.out)
  by_cases hlt : i < 6
  ·have HLT := Lib.hid hlt
   have p0 : decide ((i : Int) < 6) = true := decide_eq_true (by omega)
   have p1 : decide (i < 6) = true := decide_eq_true hlt
   have i0 : (0 : Int) ≤ i := by omega
   have i6 : (i : Int) < 6 := by omega
   obtain ⟨k1, hk1⟩ : ∃ x : Nat, i + 1 = x := ⟨_, rfl⟩
   have u1 : wrap64 ((i : Int) + 1) = (k1 : Int) := by rw [IntWalk.wrap64_in _ (by omega)]; omega
   have u2 : IntKind.i64.wrap ((i : Int) + 1) = (k1 : Int) := by rw [IntKind.wrap_i64]; omega
   have HK1 := Lib.hid hk1
   obtain ⟨qb, hqb⟩ : ∃ b, decide (fmtsM.getD i [] = t3) = b := ⟨_, rfl⟩
   have HQB := Lib.hid hqb
   obtain ⟨zi, hzi⟩ : ∃ z, ba (fmtsM.getD i []) = z := ⟨_, rfl⟩
   have q1 : (zi.toList == z3.toList) = qb := by rw [← hzi, ← HZ3.out, ← hqb, lit_beq2, tl_ba]
   have HZI := Lib.hid hzi
   clear hi hlt hk1 hqb hzi
   go_wp2_with fail
   refine wp_region_held_drew (S := fun V => V.cell? ⟨b0, o0 + 3, none⟩ = some (.string z3)) (by kernel_rfl) ((HQ.out.bel.cell (p := ⟨b0, o0 + 3, none⟩) HB0.out).trans HC3.out) (fun hHeld => ?_)
   obtain ⟨V20, hV⟩ : ∃ x, wr.drew = x := ⟨_, rfl⟩
   have HQ := Lib.hid (HQ.out.on (Below.refl _ _).drew)
   rw [hV] at HQ  hHeld ⊢
   have HBL2 : Hid (Below V15.heap.size V15 V20) := by show Below _ _ _; rw [← hV]; exact HBL.out.drew
   clear hV
   refine wpAnyH_take (i := 1) (v := .int .i64 (i : Int)) rfl (by kernel_rfl) (by kernel_rfl) (by kernel_rfl) (fun _ _ _ h => h) (Or.inl ⟨by rfl, ?_⟩) hHeld ?_
   ·intro wz hSw; go_simp
   try simp only [Act.put, List.getElem_toArray, List.getElem_cons_succ, List.getElem_cons_zero, List.setIfInBounds_toArray, List.set_cons_zero, List.set_cons_succ]
   refine wpAnyH_take (i := 4) (v := .slice (some ⟨b0, o0, none⟩) n c) rfl (by kernel_rfl) (by kernel_rfl) (by kernel_rfl) (fun _ _ _ h => h) (Or.inl ⟨by rfl, ?_⟩) hHeld ?_
   ·intro wz hSw; go_simp
   try simp only [Act.put, List.getElem_toArray, List.getElem_cons_succ, List.getElem_cons_zero, List.setIfInBounds_toArray, List.set_cons_zero, List.set_cons_succ]
   refine wpAnyH_take (i := 5) (v := .pointer (some ⟨b0, o0 + 3, none⟩)) rfl (by kernel_rfl) (by kernel_rfl) (by kernel_rfl) (fun _ _ _ h => h) (Or.inl ⟨by rfl, ?_⟩) hHeld ?_
   ·intro wz hSw; go_simp
   try simp only [Act.put, List.getElem_toArray, List.getElem_cons_succ, List.getElem_cons_zero, List.setIfInBounds_toArray, List.set_cons_zero, List.set_cons_succ]
   refine wpAnyH_take (i := 6) (v := .string z3) rfl (by kernel_rfl) (by kernel_rfl) (by kernel_rfl) (fun _ _ _ h => h) (Or.inl ⟨by rfl, ?_⟩) hHeld ?_
   ·intro wz hSw; go_simp
   try simp only [Act.put, List.getElem_toArray, List.getElem_cons_succ, List.getElem_cons_zero, List.setIfInBounds_toArray, List.set_cons_zero, List.set_cons_succ]
   refine wpAnyH_ready (rs := [0]) (by kernel_rfl) (by simp) ?_
   refine AllReadyH.cons rfl (fun K hK => ?_) AllReadyH.nil
   go_simp
   refine (rformats_at _).mono ?_
   rintro e V21 ⟨gf, rfl, hfm, hbv⟩
   have hcf := hfm i HLT.out
   rw [HZI.out] at hcf
   have HQ := Lib.hid (HQ.out.on (hbv.mono (by have := HQ.out.lt; omega)))
   have HBL2 : Hid (Below V15.heap.size V15 V21) := HBL2.out.trans (hbv.mono HBL2.out.size)
   clear hbv hfm
   refine hK.out _ _ ((HQ.out.bel.cell (p := ⟨b0, o0 + 3, none⟩) HB0.out).trans HC3.out) (fun hHeld => ?_)
   clear hK K
   try simp only [Act.put, List.getElem_toArray, List.getElem_cons_succ, List.getElem_cons_zero, List.setIfInBounds_toArray, List.set_cons_zero, List.set_cons_succ]
   refine wpAnyH_ready (rs := [2]) (by kernel_rfl) (by simp) ?_
   refine AllReadyH.cons rfl (fun K hK => ?_) AllReadyH.nil
   go_simp
   refine hK.out _ _ hHeld (fun hHeld => ?_)
   clear hK K
   try simp only [Act.put, List.getElem_toArray, List.getElem_cons_succ, List.getElem_cons_zero, List.setIfInBounds_toArray, List.set_cons_zero, List.set_cons_succ]
   refine wpAnyH_ready (rs := [3]) (by kernel_rfl) (by simp) ?_
   refine AllReadyH.cons rfl (fun K hK => ?_) AllReadyH.nil
   go_simp
   refine hK.out _ _ hHeld (fun hHeld => ?_)
   clear hK K
   try simp only [Act.put, List.getElem_toArray, List.getElem_cons_succ, List.getElem_cons_zero, List.setIfInBounds_toArray, List.set_cons_zero, List.set_cons_succ]
   refine wpAnyH_ready (rs := [7]) (by kernel_rfl) (by simp) ?_
   refine AllReadyH.cons rfl (fun K hK => ?_) AllReadyH.nil
   go_simp
   refine hK.out _ _ hHeld (fun hHeld => ?_)
   clear hK K
   try simp only [Act.put, List.getElem_toArray, List.getElem_cons_succ, List.getElem_cons_zero, List.setIfInBounds_toArray, List.set_cons_zero, List.set_cons_succ]
   refine wpAnyH_done (by kernel_rfl) ?_ _
   cases qb
   ·go_wp2_with fail
    go_roundw
    case rel => exact ⟨k1, by have := HK1.out; have := HLT.out; omega, by rw [← HK1.out]; show _ = Value.int .i64 (if fmtsM.getD i [] = t3 then _ else _); rw [if_neg (of_decide_eq_false HQB.out)], rfl, HBL2⟩
    case measure => show 6 - (k1 : Int).toNat < 6 - (i : Int).toNat; have := HK1.out; have := HLT.out; simp only [Int.toNat_natCast]; omega
   ·go_wp2_with fail
    go_roundw
    case rel => exact ⟨k1, by have := HK1.out; have := HLT.out; omega, by rw [← HK1.out]; show _ = Value.int .i64 (if fmtsM.getD i [] = t3 then _ else _); rw [if_pos (of_decide_eq_true HQB.out)], rfl, HBL2⟩
    case measure => show 6 - (k1 : Int).toNat < 6 - (i : Int).toNat; have := HK1.out; have := HLT.out; simp only [Int.toNat_natCast]; omega
  ·have HKF : Hid (kfM t3 i = fmtN t3) := by show _ = _; rw [show i = 6 by omega]; exact kf_six t3
   have p0 : decide ((i : Int) < 6) = false := decide_eq_false (by omega)
   have p1 : decide (i < 6) = false := decide_eq_false hlt
   obtain ⟨KF, hKF⟩ : ∃ k, kfM t3 i = k := ⟨_, rfl⟩
   rw [hKF] at HKF ⊢
   have hbase : w.heap.size + 2 ≤ wr.heap.size := by have := HQ.out.lt; omega
   have HBASE := Lib.hid hbase
   obtain ⟨V31, hV31⟩ : ∃ x, wr.alloc (.cells #[.int .i64 KF] 3) = x := ⟨_, rfl⟩
   have HK : Hid (V31.ownsRow (w.heap.size + 2) 3 1 (.slice (some ⟨wr.heap.size, 0, none⟩) 1 1) 1 [.int .i64 KF]) := by rw [← hV31]; exact own_lower (own_lit wr [.int .i64 KF] 3 (by show 1 ≤ maxLen; decide)) hbase
   have hbv : Below wr.heap.size wr V31 := by rw [← hV31]; exact (Below.refl _ _).alloc (Nat.le_refl _) _
   have HQ := Lib.hid (HQ.out.on (hbv.mono hbase))
   have HSRC := Lib.hid (own_below HSRC.out hbv)
   have HOWN := Lib.hid (own_below HOWN.out hbv)
   have HB31 : Hid (w.heap.size + 2 ≤ V31.heap.size) := by show _ ≤ _; have := HQ.out.lt; omega
   have HSA := Lib.hid (SI.of_own HOWN.out (by have := HNL.out; show na * 8 ≤ _; omega))
   have y5 := HQ.out.cells.1.2.2.2.2
   clear hi hlt hKF hbase hbv
   go_wp2_with (first | (at_builtin; refine wpList_append_slS rfl (.tmp 79) (.tmp 81) _ rfl (w.heap.size + 2) 3 1 8 (.int .i64 0) Tryz.underlying35 infoInt rfl (by omega) (.slice (some ⟨wr.heap.size, 0, none⟩) 1 1) 1 [.int .i64 KF] rfl HK.out A2 na cA (a0.map (.int .i64)) rfl (by rw [List.length_map, HNA.out]; omega) HSA.out.sl (by intro u hu; obtain ⟨x, _, rfl⟩ := List.mem_map.1 hu; rfl) (by have := HNL.out; unfold maxLen; omega) (by have := HNL.out; omega) HB31.out ?_; intro A3 c3 V32 _ ho hg0; (have hg : V31.grownBy V32 (some wr.heap.size) := hg0); (have hQ2 := HQ.out.on ((Below.refl _ _).grown hg HB31.out (fun k e => by injection e with e; have := HBASE.out; omega))); (have HSRC := Lib.hid (HSRC.out.kept hg (own_apart HSRC.out HK.out (by decide)))); obtain ⟨m3, hm3⟩ : ∃ k, 1 + na = k := ⟨_, rfl⟩; rw [hm3] at ho ⊢; (have HCP := Lib.hid (own_cap ho)); (have HM3 : Hid (m3 * 8 ≤ 70368744176008) := (by show _ ≤ _; have := HNL.out; omega)); (have HARG : Hid (V32.ownsRow (w.heap.size + 2) 3 1 (.slice A3 m3 c3) m3 ((KF :: a0).map (.int .i64))) := ho); clear ho hg hg0 y5; obtain ⟨⟨y1, y2, y3, y4, y5⟩, yf⟩ := hQ2.cells; (have f5 := yf 5); obtain ⟨V33, hV33, hqn⟩ : ∃ x, V32.setCell ⟨w.heap.size + 1, 5, none⟩ (.slice A3 m3 c3) = x ∧ RQ w x zr ⟨#[]⟩ (some ⟨gs, 0, none⟩) 1 1 z2 A3 m3 c3 := ⟨_, rfl, hQ2.setArgs A3 m3 c3⟩; (have HQ := Lib.hid hqn); (have HSRC := Lib.hid (ownsRow_setCell_below HSRC.out (a := ⟨w.heap.size + 1, 5, none⟩) (by show w.heap.size + 1 < w.heap.size + 2; omega) (.slice A3 m3 c3))); rw [hV33] at HSRC; (have HARG := Lib.hid (ownsRow_setCell_below HARG.out (a := ⟨w.heap.size + 1, 5, none⟩) (by show w.heap.size + 1 < w.heap.size + 2; omega) (.slice A3 m3 c3))); rw [hV33] at HARG; clear hqn hQ2 y1 y2 y3 y4 yf) | fail)
   have hrow := HQ.out.s
   obtain ⟨nb, hnb⟩ : ∃ b, nameB z1.data.toList = b := ⟨_, rfl⟩
   have HNB := Lib.hid hnb
   obtain ⟨fb, hfb⟩ : ∃ b, fileB z2.data.toList = b := ⟨_, rfl⟩
   have HFB := Lib.hid hfb
   obtain ⟨fo, hfo⟩ : ∃ b, formatB (KF :: a0) = b := ⟨_, rfl⟩
   have HFO := Lib.hid hfo
   clear hnb hfb hfo
   cases okb
   ·refine wp_region_held_drew (S := fun V => V.heap[w.heap.size + 1]? = some (.cells (stC 0 zr ⟨#[]⟩ (some ⟨gs, 0, none⟩) 1 1 z2 A3 m3 c3) 37 (0, 0)) ∧ V.cell? ⟨b0, o0 + 1, none⟩ = some (.string z1) ∧ V.cell? ⟨b0, o0 + 2, none⟩ = some (.string z2)) (by kernel_rfl) ⟨HQ.out.s, (HQ.out.bel.cell (p := ⟨b0, o0 + 1, none⟩) HB0.out).trans HC1.out, (HQ.out.bel.cell (p := ⟨b0, o0 + 2, none⟩) HB0.out).trans HC2.out⟩ (fun hHeld => ?_)
    obtain ⟨V40, hV⟩ : ∃ x, V33.drew = x := ⟨_, rfl⟩
    have HQ := Lib.hid (HQ.out.on (Below.refl _ _).drew)
    have HSRC := Lib.hid (own_below HSRC.out (Below.refl _ _).drew)
    have HARG := Lib.hid (own_below HARG.out (Below.refl _ _).drew)
    rw [hV] at HQ HSRC HARG hHeld ⊢
    clear hV
    refine wpAnyH_take (i := 0) (v := .agg (stC 0 zr ⟨#[]⟩ (some ⟨gs, 0, none⟩) 1 1 z2 A3 m3 c3)) rfl (by kernel_rfl) (by kernel_rfl) (by kernel_rfl) (fun _ _ _ h => h) (yields_row (by rfl) 37 _ rfl (w.heap.size + 1) rfl 37 (stC 0 zr ⟨#[]⟩ (some ⟨gs, 0, none⟩) 1 1 z2 A3 m3 c3) (0, 0) _ (fun _ h => h.1) Tryz.underlying37 rfl (infoSt)) hHeld ?_
    try simp only [Act.put, List.getElem_toArray, List.getElem_cons_succ, List.getElem_cons_zero, List.setIfInBounds_toArray, List.set_cons_zero, List.set_cons_succ]
    refine wpAnyH_take (i := 1) (v := .bool false) rfl (by kernel_rfl) (by kernel_rfl) (by kernel_rfl) (fun _ _ _ h => h) (Or.inl ⟨by rfl, ?_⟩) hHeld ?_
    ·intro wz hSw; go_simp
    try simp only [Act.put, List.getElem_toArray, List.getElem_cons_succ, List.getElem_cons_zero, List.setIfInBounds_toArray, List.set_cons_zero, List.set_cons_succ]
    refine wpAnyH_take (i := 2) (v := .bool false) rfl (by kernel_rfl) (by kernel_rfl) (by kernel_rfl) (fun _ _ _ h => h) (Or.inl ⟨by rfl, ?_⟩) hHeld ?_
    ·intro wz hSw; go_simp
    try simp only [Act.put, List.getElem_toArray, List.getElem_cons_succ, List.getElem_cons_zero, List.setIfInBounds_toArray, List.set_cons_zero, List.set_cons_succ]
    refine Ord.held_skip (i := 3) (d := 87) rfl rfl (by kernel_rfl) (by kernel_rfl) (by kernel_rfl) (fun _ _ _ h => h) (by kernel_rfl) hHeld ?_
    try simp only [Act.put, List.getElem_toArray, List.getElem_cons_succ, List.getElem_cons_zero, List.setIfInBounds_toArray, List.set_cons_zero, List.set_cons_succ]
    refine Ord.held_skip (i := 4) (d := 88) rfl rfl (by kernel_rfl) (by kernel_rfl) (by kernel_rfl) (fun _ _ _ h => h) (by kernel_rfl) hHeld ?_
    try simp only [Act.put, List.getElem_toArray, List.getElem_cons_succ, List.getElem_cons_zero, List.setIfInBounds_toArray, List.set_cons_zero, List.set_cons_succ]
    refine Ord.held_skip (i := 5) (d := 89) rfl rfl (by kernel_rfl) (by kernel_rfl) (by kernel_rfl) (fun _ _ _ h => h) (by kernel_rfl) hHeld ?_
    try simp only [Act.put, List.getElem_toArray, List.getElem_cons_succ, List.getElem_cons_zero, List.setIfInBounds_toArray, List.set_cons_zero, List.set_cons_succ]
    refine wpAnyH_ready (rs := [6]) (by kernel_rfl) (by simp) ?_
    refine AllReadyH.cons rfl (fun K hK => ?_) AllReadyH.nil
    go_simp
    refine hK.out _ _ hHeld (fun hHeld => ?_)
    clear hK K
    try simp only [Act.put, List.getElem_toArray, List.getElem_cons_succ, List.getElem_cons_zero, List.setIfInBounds_toArray, List.set_cons_zero, List.set_cons_succ]
    refine wpAnyH_take (i := 7) (v := .bool false) rfl (by kernel_rfl) (by kernel_rfl) (by kernel_rfl) (fun _ _ _ h => h) (Or.inl ⟨by rfl, ?_⟩) hHeld ?_
    ·intro wz hSw; go_simp
    try simp only [Act.put, List.getElem_toArray, List.getElem_cons_succ, List.getElem_cons_zero, List.setIfInBounds_toArray, List.set_cons_zero, List.set_cons_succ]
    refine wpAnyH_take (i := 8) (v := .bool false) rfl (by kernel_rfl) (by kernel_rfl) (by kernel_rfl) (fun _ _ _ h => h) (Or.inl ⟨by rfl, ?_⟩) hHeld ?_
    ·intro wz hSw; go_simp
    try simp only [Act.put, List.getElem_toArray, List.getElem_cons_succ, List.getElem_cons_zero, List.setIfInBounds_toArray, List.set_cons_zero, List.set_cons_succ]
    refine Ord.held_skip (i := 9) (d := 93) rfl rfl (by kernel_rfl) (by kernel_rfl) (by kernel_rfl) (fun _ _ _ h => h) (by kernel_rfl) hHeld ?_
    try simp only [Act.put, List.getElem_toArray, List.getElem_cons_succ, List.getElem_cons_zero, List.setIfInBounds_toArray, List.set_cons_zero, List.set_cons_succ]
    refine Ord.held_skip (i := 10) (d := 94) rfl rfl (by kernel_rfl) (by kernel_rfl) (by kernel_rfl) (fun _ _ _ h => h) (by kernel_rfl) hHeld ?_
    try simp only [Act.put, List.getElem_toArray, List.getElem_cons_succ, List.getElem_cons_zero, List.setIfInBounds_toArray, List.set_cons_zero, List.set_cons_succ]
    refine Ord.held_skip (i := 11) (d := 95) rfl rfl (by kernel_rfl) (by kernel_rfl) (by kernel_rfl) (fun _ _ _ h => h) (by kernel_rfl) hHeld ?_
    try simp only [Act.put, List.getElem_toArray, List.getElem_cons_succ, List.getElem_cons_zero, List.setIfInBounds_toArray, List.set_cons_zero, List.set_cons_succ]
    refine wpAnyH_ready (rs := [12]) (by kernel_rfl) (by simp) ?_
    refine AllReadyH.cons rfl (fun K hK => ?_) AllReadyH.nil
    go_simp
    refine hK.out _ _ hHeld (fun hHeld => ?_)
    clear hK K
    try simp only [Act.put, List.getElem_toArray, List.getElem_cons_succ, List.getElem_cons_zero, List.setIfInBounds_toArray, List.set_cons_zero, List.set_cons_succ]
    refine wpAnyH_take (i := 13) (v := .bool false) rfl (by kernel_rfl) (by kernel_rfl) (by kernel_rfl) (fun _ _ _ h => h) (Or.inl ⟨by rfl, ?_⟩) hHeld ?_
    ·intro wz hSw; go_simp
    try simp only [Act.put, List.getElem_toArray, List.getElem_cons_succ, List.getElem_cons_zero, List.setIfInBounds_toArray, List.set_cons_zero, List.set_cons_succ]
    refine wpAnyH_take (i := 14) (v := .bool false) rfl (by kernel_rfl) (by kernel_rfl) (by kernel_rfl) (fun _ _ _ h => h) (Or.inl ⟨by rfl, ?_⟩) hHeld ?_
    ·intro wz hSw; go_simp
    try simp only [Act.put, List.getElem_toArray, List.getElem_cons_succ, List.getElem_cons_zero, List.setIfInBounds_toArray, List.set_cons_zero, List.set_cons_succ]
    refine Ord.held_skip (i := 15) (d := 99) rfl rfl (by kernel_rfl) (by kernel_rfl) (by kernel_rfl) (fun _ _ _ h => h) (by kernel_rfl) hHeld ?_
    try simp only [Act.put, List.getElem_toArray, List.getElem_cons_succ, List.getElem_cons_zero, List.setIfInBounds_toArray, List.set_cons_zero, List.set_cons_succ]
    refine Ord.held_skip (i := 16) (d := 100) rfl rfl (by kernel_rfl) (by kernel_rfl) (by kernel_rfl) (fun _ _ _ h => h) (by kernel_rfl) hHeld ?_
    try simp only [Act.put, List.getElem_toArray, List.getElem_cons_succ, List.getElem_cons_zero, List.setIfInBounds_toArray, List.set_cons_zero, List.set_cons_succ]
    refine wpAnyH_ready (rs := [17]) (by kernel_rfl) (by simp) ?_
    refine AllReadyH.cons rfl (fun K hK => ?_) AllReadyH.nil
    go_simp
    refine hK.out _ _ hHeld (fun hHeld => ?_)
    clear hK K
    try simp only [Act.put, List.getElem_toArray, List.getElem_cons_succ, List.getElem_cons_zero, List.setIfInBounds_toArray, List.set_cons_zero, List.set_cons_succ]
    refine wpAnyH_take (i := 18) (v := .bool false) rfl (by kernel_rfl) (by kernel_rfl) (by kernel_rfl) (fun _ _ _ h => h) (Or.inl ⟨by rfl, ?_⟩) hHeld ?_
    ·intro wz hSw; go_simp
    try simp only [Act.put, List.getElem_toArray, List.getElem_cons_succ, List.getElem_cons_zero, List.setIfInBounds_toArray, List.set_cons_zero, List.set_cons_succ]
    refine wpAnyH_ready (rs := [19]) (by kernel_rfl) (by simp) ?_
    refine AllReadyH.cons rfl (fun K hK => ?_) AllReadyH.nil
    rw [if_pos (by rfl)]
    refine wp_store_rowG 37 _ _ rfl w.heap.size (stC 0 zr ⟨#[]⟩ (some ⟨gs, 0, none⟩) 1 1 z2 A3 m3 c3) rfl rfl 37 st0 HQ.out.r infoSt rfl (stC_one _ _ _ _ _ _ _ _ _ _) ?_
    intro W2 hr2 hg2
    have HR2 := Lib.hid hr2
    have HGW := Lib.hid hg2
    have k2 := (HQ.out.fin hg2).2.1
    clear hr2 hg2
    refine hK.out _ _ ⟨k2, ((HQ.out.fin HGW.out).1.cell (p := ⟨b0, o0 + 1, none⟩) HB0.out).trans HC1.out, ((HQ.out.fin HGW.out).1.cell (p := ⟨b0, o0 + 2, none⟩) HB0.out).trans HC2.out⟩ (fun hHeld => ?_)
    clear hK K
    try simp only [Act.put, List.getElem_toArray, List.getElem_cons_succ, List.getElem_cons_zero, List.setIfInBounds_toArray, List.set_cons_zero, List.set_cons_succ]
    clear k2
    refine wpAnyH_ready (rs := [20]) (by kernel_rfl) (by simp) ?_
    refine AllReadyH.cons rfl (fun K hK => ?_) AllReadyH.nil
    go_simp
    refine hK.out _ _ hHeld (fun hHeld => ?_)
    clear hK K
    try simp only [Act.put, List.getElem_toArray, List.getElem_cons_succ, List.getElem_cons_zero, List.setIfInBounds_toArray, List.set_cons_zero, List.set_cons_succ]
    refine wpAnyH_done (by kernel_rfl) ?_ _
    go_wp2_with fail
    try rw [Exit.noGoto_ret]
    refine bodyPost_ret (Ard.results_row_tmp rfl _ _ w.heap.size 37 (stC 0 zr ⟨#[]⟩ (some ⟨gs, 0, none⟩) 1 1 z2 A3 m3 c3) (0, 0) _ rfl HR2.out Tryz.underlying37 rfl (by first | exact infoSt | (rw [HS6.out]; exact infoSt))) rfl ?_
    have HRA : Hid (numsM (l.drop 4) = none) := by
     show _ = _
     have h1 := HOK.out
     cases hx : numsM (l.drop 4) with
     | none => rfl
     | some y => rw [hx] at h1; cases h1
    have HE : Hid (r = none) := by
     show _ = _
     rw [← HR.out, stepM_write H0.out, HRA.out]
     exact ite_self _
    rw [HE.out]
    exact rno HQ.out rfl HGW.out
   ·cases nb
    ·refine wp_region_held_drew (S := fun V => V.heap[w.heap.size + 1]? = some (.cells (stC 0 zr ⟨#[]⟩ (some ⟨gs, 0, none⟩) 1 1 z2 A3 m3 c3) 37 (0, 0)) ∧ V.cell? ⟨b0, o0 + 1, none⟩ = some (.string z1) ∧ V.cell? ⟨b0, o0 + 2, none⟩ = some (.string z2)) (by kernel_rfl) ⟨HQ.out.s, (HQ.out.bel.cell (p := ⟨b0, o0 + 1, none⟩) HB0.out).trans HC1.out, (HQ.out.bel.cell (p := ⟨b0, o0 + 2, none⟩) HB0.out).trans HC2.out⟩ (fun hHeld => ?_)
     obtain ⟨V40, hV⟩ : ∃ x, V33.drew = x := ⟨_, rfl⟩
     have HQ := Lib.hid (HQ.out.on (Below.refl _ _).drew)
     have HSRC := Lib.hid (own_below HSRC.out (Below.refl _ _).drew)
     have HARG := Lib.hid (own_below HARG.out (Below.refl _ _).drew)
     rw [hV] at HQ HSRC HARG hHeld ⊢
     clear hV
     refine wpAnyH_take (i := 0) (v := .agg (stC 0 zr ⟨#[]⟩ (some ⟨gs, 0, none⟩) 1 1 z2 A3 m3 c3)) rfl (by kernel_rfl) (by kernel_rfl) (by kernel_rfl) (fun _ _ _ h => h) (yields_row (by rfl) 37 _ rfl (w.heap.size + 1) rfl 37 (stC 0 zr ⟨#[]⟩ (some ⟨gs, 0, none⟩) 1 1 z2 A3 m3 c3) (0, 0) _ (fun _ h => h.1) Tryz.underlying37 rfl (infoSt)) hHeld ?_
     try simp only [Act.put, List.getElem_toArray, List.getElem_cons_succ, List.getElem_cons_zero, List.setIfInBounds_toArray, List.set_cons_zero, List.set_cons_succ]
     refine wpAnyH_take (i := 1) (v := .bool true) rfl (by kernel_rfl) (by kernel_rfl) (by kernel_rfl) (fun _ _ _ h => h) (Or.inl ⟨by rfl, ?_⟩) hHeld ?_
     ·intro wz hSw; go_simp
     try simp only [Act.put, List.getElem_toArray, List.getElem_cons_succ, List.getElem_cons_zero, List.setIfInBounds_toArray, List.set_cons_zero, List.set_cons_succ]
     refine wpAnyH_take (i := 2) (v := .bool true) rfl (by kernel_rfl) (by kernel_rfl) (by kernel_rfl) (fun _ _ _ h => h) (Or.inl ⟨by rfl, ?_⟩) hHeld ?_
     ·intro wz hSw; go_simp
     try simp only [Act.put, List.getElem_toArray, List.getElem_cons_succ, List.getElem_cons_zero, List.setIfInBounds_toArray, List.set_cons_zero, List.set_cons_succ]
     refine wpAnyH_take (i := 3) (v := .slice (some ⟨b0, o0, none⟩) n c) rfl (by kernel_rfl) (by kernel_rfl) (by kernel_rfl) (fun _ _ _ h => h) (Or.inl ⟨by kernel_rfl, ?_⟩) hHeld ?_
     ·intro wz hSw; go_simp
     try simp only [Act.put, List.getElem_toArray, List.getElem_cons_succ, List.getElem_cons_zero, List.setIfInBounds_toArray, List.set_cons_zero, List.set_cons_succ]
     refine wpAnyH_take (i := 4) (v := .pointer (some ⟨b0, o0 + 1, none⟩)) rfl (by kernel_rfl) (by kernel_rfl) (by kernel_rfl) (fun _ _ _ h => h) (Or.inl ⟨by kernel_rfl, ?_⟩) hHeld ?_
     ·intro wz hSw; go_simp
     try simp only [Act.put, List.getElem_toArray, List.getElem_cons_succ, List.getElem_cons_zero, List.setIfInBounds_toArray, List.set_cons_zero, List.set_cons_succ]
     refine wpAnyH_take (i := 5) (v := .string z1) rfl (by kernel_rfl) (by kernel_rfl) (by kernel_rfl) (fun _ _ _ h => h) (Or.inl ⟨by kernel_rfl, ?_⟩) hHeld ?_
     ·intro wz hSw; (have e1 : wz.cell? ⟨b0, o0 + 1, none⟩ = some (.string z1) := hSw.2.1); go_simp
     try simp only [Act.put, List.getElem_toArray, List.getElem_cons_succ, List.getElem_cons_zero, List.setIfInBounds_toArray, List.set_cons_zero, List.set_cons_succ]
     refine wpAnyH_ready (rs := [6]) (by kernel_rfl) (by simp) ?_
     refine AllReadyH.cons rfl (fun K hK => ?_) AllReadyH.nil
     go_simp
     refine (rname_any z1 _).mono ?_
     rintro e w' ⟨rfl, rfl⟩
     rw [HNB.out]
     refine hK.out _ _ hHeld (fun hHeld => ?_)
     clear hK K
     try simp only [Act.put, List.getElem_toArray, List.getElem_cons_succ, List.getElem_cons_zero, List.setIfInBounds_toArray, List.set_cons_zero, List.set_cons_succ]
     refine wpAnyH_take (i := 7) (v := .bool false) rfl (by kernel_rfl) (by kernel_rfl) (by kernel_rfl) (fun _ _ _ h => h) (Or.inl ⟨by rfl, ?_⟩) hHeld ?_
     ·intro wz hSw; go_simp
     try simp only [Act.put, List.getElem_toArray, List.getElem_cons_succ, List.getElem_cons_zero, List.setIfInBounds_toArray, List.set_cons_zero, List.set_cons_succ]
     refine wpAnyH_take (i := 8) (v := .bool false) rfl (by kernel_rfl) (by kernel_rfl) (by kernel_rfl) (fun _ _ _ h => h) (Or.inl ⟨by rfl, ?_⟩) hHeld ?_
     ·intro wz hSw; go_simp
     try simp only [Act.put, List.getElem_toArray, List.getElem_cons_succ, List.getElem_cons_zero, List.setIfInBounds_toArray, List.set_cons_zero, List.set_cons_succ]
     refine Ord.held_skip (i := 9) (d := 93) rfl rfl (by kernel_rfl) (by kernel_rfl) (by kernel_rfl) (fun _ _ _ h => h) (by kernel_rfl) hHeld ?_
     try simp only [Act.put, List.getElem_toArray, List.getElem_cons_succ, List.getElem_cons_zero, List.setIfInBounds_toArray, List.set_cons_zero, List.set_cons_succ]
     refine Ord.held_skip (i := 10) (d := 94) rfl rfl (by kernel_rfl) (by kernel_rfl) (by kernel_rfl) (fun _ _ _ h => h) (by kernel_rfl) hHeld ?_
     try simp only [Act.put, List.getElem_toArray, List.getElem_cons_succ, List.getElem_cons_zero, List.setIfInBounds_toArray, List.set_cons_zero, List.set_cons_succ]
     refine Ord.held_skip (i := 11) (d := 95) rfl rfl (by kernel_rfl) (by kernel_rfl) (by kernel_rfl) (fun _ _ _ h => h) (by kernel_rfl) hHeld ?_
     try simp only [Act.put, List.getElem_toArray, List.getElem_cons_succ, List.getElem_cons_zero, List.setIfInBounds_toArray, List.set_cons_zero, List.set_cons_succ]
     refine wpAnyH_ready (rs := [12]) (by kernel_rfl) (by simp) ?_
     refine AllReadyH.cons rfl (fun K hK => ?_) AllReadyH.nil
     go_simp
     refine hK.out _ _ hHeld (fun hHeld => ?_)
     clear hK K
     try simp only [Act.put, List.getElem_toArray, List.getElem_cons_succ, List.getElem_cons_zero, List.setIfInBounds_toArray, List.set_cons_zero, List.set_cons_succ]
     refine wpAnyH_take (i := 13) (v := .bool false) rfl (by kernel_rfl) (by kernel_rfl) (by kernel_rfl) (fun _ _ _ h => h) (Or.inl ⟨by rfl, ?_⟩) hHeld ?_
     ·intro wz hSw; go_simp
     try simp only [Act.put, List.getElem_toArray, List.getElem_cons_succ, List.getElem_cons_zero, List.setIfInBounds_toArray, List.set_cons_zero, List.set_cons_succ]
     refine wpAnyH_take (i := 14) (v := .bool false) rfl (by kernel_rfl) (by kernel_rfl) (by kernel_rfl) (fun _ _ _ h => h) (Or.inl ⟨by rfl, ?_⟩) hHeld ?_
     ·intro wz hSw; go_simp
     try simp only [Act.put, List.getElem_toArray, List.getElem_cons_succ, List.getElem_cons_zero, List.setIfInBounds_toArray, List.set_cons_zero, List.set_cons_succ]
     refine Ord.held_skip (i := 15) (d := 99) rfl rfl (by kernel_rfl) (by kernel_rfl) (by kernel_rfl) (fun _ _ _ h => h) (by kernel_rfl) hHeld ?_
     try simp only [Act.put, List.getElem_toArray, List.getElem_cons_succ, List.getElem_cons_zero, List.setIfInBounds_toArray, List.set_cons_zero, List.set_cons_succ]
     refine Ord.held_skip (i := 16) (d := 100) rfl rfl (by kernel_rfl) (by kernel_rfl) (by kernel_rfl) (fun _ _ _ h => h) (by kernel_rfl) hHeld ?_
     try simp only [Act.put, List.getElem_toArray, List.getElem_cons_succ, List.getElem_cons_zero, List.setIfInBounds_toArray, List.set_cons_zero, List.set_cons_succ]
     refine wpAnyH_ready (rs := [17]) (by kernel_rfl) (by simp) ?_
     refine AllReadyH.cons rfl (fun K hK => ?_) AllReadyH.nil
     go_simp
     refine hK.out _ _ hHeld (fun hHeld => ?_)
     clear hK K
     try simp only [Act.put, List.getElem_toArray, List.getElem_cons_succ, List.getElem_cons_zero, List.setIfInBounds_toArray, List.set_cons_zero, List.set_cons_succ]
     refine wpAnyH_take (i := 18) (v := .bool false) rfl (by kernel_rfl) (by kernel_rfl) (by kernel_rfl) (fun _ _ _ h => h) (Or.inl ⟨by rfl, ?_⟩) hHeld ?_
     ·intro wz hSw; go_simp
     try simp only [Act.put, List.getElem_toArray, List.getElem_cons_succ, List.getElem_cons_zero, List.setIfInBounds_toArray, List.set_cons_zero, List.set_cons_succ]
     refine wpAnyH_ready (rs := [19]) (by kernel_rfl) (by simp) ?_
     refine AllReadyH.cons rfl (fun K hK => ?_) AllReadyH.nil
     rw [if_pos (by rfl)]
     refine wp_store_rowG 37 _ _ rfl w.heap.size (stC 0 zr ⟨#[]⟩ (some ⟨gs, 0, none⟩) 1 1 z2 A3 m3 c3) rfl rfl 37 st0 HQ.out.r infoSt rfl (stC_one _ _ _ _ _ _ _ _ _ _) ?_
     intro W2 hr2 hg2
     have HR2 := Lib.hid hr2
     have HGW := Lib.hid hg2
     have k2 := (HQ.out.fin hg2).2.1
     clear hr2 hg2
     refine hK.out _ _ ⟨k2, ((HQ.out.fin HGW.out).1.cell (p := ⟨b0, o0 + 1, none⟩) HB0.out).trans HC1.out, ((HQ.out.fin HGW.out).1.cell (p := ⟨b0, o0 + 2, none⟩) HB0.out).trans HC2.out⟩ (fun hHeld => ?_)
     clear hK K
     try simp only [Act.put, List.getElem_toArray, List.getElem_cons_succ, List.getElem_cons_zero, List.setIfInBounds_toArray, List.set_cons_zero, List.set_cons_succ]
     clear k2
     refine wpAnyH_ready (rs := [20]) (by kernel_rfl) (by simp) ?_
     refine AllReadyH.cons rfl (fun K hK => ?_) AllReadyH.nil
     go_simp
     refine hK.out _ _ hHeld (fun hHeld => ?_)
     clear hK K
     try simp only [Act.put, List.getElem_toArray, List.getElem_cons_succ, List.getElem_cons_zero, List.setIfInBounds_toArray, List.set_cons_zero, List.set_cons_succ]
     refine wpAnyH_done (by kernel_rfl) ?_ _
     go_wp2_with fail
     try rw [Exit.noGoto_ret]
     refine bodyPost_ret (Ard.results_row_tmp rfl _ _ w.heap.size 37 (stC 0 zr ⟨#[]⟩ (some ⟨gs, 0, none⟩) 1 1 z2 A3 m3 c3) (0, 0) _ rfl HR2.out Tryz.underlying37 rfl (by first | exact infoSt | (rw [HS6.out]; exact infoSt))) rfl ?_
     have HE : Hid (r = none) := by show _ = _; rw [← HR.out, stepM_write H0.out, if_neg (fun h => by have h2 := h.2.1; rw [HG1.out, ← HT1.out, HNB.out] at h2; exact absurd h2 (by decide))]
     rw [HE.out]
     exact rno HQ.out rfl HGW.out
    ·cases fb
     ·refine wp_region_held_drew (S := fun V => V.heap[w.heap.size + 1]? = some (.cells (stC 0 zr ⟨#[]⟩ (some ⟨gs, 0, none⟩) 1 1 z2 A3 m3 c3) 37 (0, 0)) ∧ V.cell? ⟨b0, o0 + 1, none⟩ = some (.string z1) ∧ V.cell? ⟨b0, o0 + 2, none⟩ = some (.string z2)) (by kernel_rfl) ⟨HQ.out.s, (HQ.out.bel.cell (p := ⟨b0, o0 + 1, none⟩) HB0.out).trans HC1.out, (HQ.out.bel.cell (p := ⟨b0, o0 + 2, none⟩) HB0.out).trans HC2.out⟩ (fun hHeld => ?_)
      obtain ⟨V40, hV⟩ : ∃ x, V33.drew = x := ⟨_, rfl⟩
      have HQ := Lib.hid (HQ.out.on (Below.refl _ _).drew)
      have HSRC := Lib.hid (own_below HSRC.out (Below.refl _ _).drew)
      have HARG := Lib.hid (own_below HARG.out (Below.refl _ _).drew)
      rw [hV] at HQ HSRC HARG hHeld ⊢
      clear hV
      refine wpAnyH_take (i := 0) (v := .agg (stC 0 zr ⟨#[]⟩ (some ⟨gs, 0, none⟩) 1 1 z2 A3 m3 c3)) rfl (by kernel_rfl) (by kernel_rfl) (by kernel_rfl) (fun _ _ _ h => h) (yields_row (by rfl) 37 _ rfl (w.heap.size + 1) rfl 37 (stC 0 zr ⟨#[]⟩ (some ⟨gs, 0, none⟩) 1 1 z2 A3 m3 c3) (0, 0) _ (fun _ h => h.1) Tryz.underlying37 rfl (infoSt)) hHeld ?_
      try simp only [Act.put, List.getElem_toArray, List.getElem_cons_succ, List.getElem_cons_zero, List.setIfInBounds_toArray, List.set_cons_zero, List.set_cons_succ]
      refine wpAnyH_take (i := 1) (v := .bool true) rfl (by kernel_rfl) (by kernel_rfl) (by kernel_rfl) (fun _ _ _ h => h) (Or.inl ⟨by rfl, ?_⟩) hHeld ?_
      ·intro wz hSw; go_simp
      try simp only [Act.put, List.getElem_toArray, List.getElem_cons_succ, List.getElem_cons_zero, List.setIfInBounds_toArray, List.set_cons_zero, List.set_cons_succ]
      refine wpAnyH_take (i := 2) (v := .bool true) rfl (by kernel_rfl) (by kernel_rfl) (by kernel_rfl) (fun _ _ _ h => h) (Or.inl ⟨by rfl, ?_⟩) hHeld ?_
      ·intro wz hSw; go_simp
      try simp only [Act.put, List.getElem_toArray, List.getElem_cons_succ, List.getElem_cons_zero, List.setIfInBounds_toArray, List.set_cons_zero, List.set_cons_succ]
      refine wpAnyH_take (i := 3) (v := .slice (some ⟨b0, o0, none⟩) n c) rfl (by kernel_rfl) (by kernel_rfl) (by kernel_rfl) (fun _ _ _ h => h) (Or.inl ⟨by kernel_rfl, ?_⟩) hHeld ?_
      ·intro wz hSw; go_simp
      try simp only [Act.put, List.getElem_toArray, List.getElem_cons_succ, List.getElem_cons_zero, List.setIfInBounds_toArray, List.set_cons_zero, List.set_cons_succ]
      refine wpAnyH_take (i := 4) (v := .pointer (some ⟨b0, o0 + 1, none⟩)) rfl (by kernel_rfl) (by kernel_rfl) (by kernel_rfl) (fun _ _ _ h => h) (Or.inl ⟨by kernel_rfl, ?_⟩) hHeld ?_
      ·intro wz hSw; go_simp
      try simp only [Act.put, List.getElem_toArray, List.getElem_cons_succ, List.getElem_cons_zero, List.setIfInBounds_toArray, List.set_cons_zero, List.set_cons_succ]
      refine wpAnyH_take (i := 5) (v := .string z1) rfl (by kernel_rfl) (by kernel_rfl) (by kernel_rfl) (fun _ _ _ h => h) (Or.inl ⟨by kernel_rfl, ?_⟩) hHeld ?_
      ·intro wz hSw; (have e1 : wz.cell? ⟨b0, o0 + 1, none⟩ = some (.string z1) := hSw.2.1); go_simp
      try simp only [Act.put, List.getElem_toArray, List.getElem_cons_succ, List.getElem_cons_zero, List.setIfInBounds_toArray, List.set_cons_zero, List.set_cons_succ]
      refine wpAnyH_ready (rs := [6]) (by kernel_rfl) (by simp) ?_
      refine AllReadyH.cons rfl (fun K hK => ?_) AllReadyH.nil
      go_simp
      refine (rname_any z1 _).mono ?_
      rintro e w' ⟨rfl, rfl⟩
      rw [HNB.out]
      refine hK.out _ _ hHeld (fun hHeld => ?_)
      clear hK K
      try simp only [Act.put, List.getElem_toArray, List.getElem_cons_succ, List.getElem_cons_zero, List.setIfInBounds_toArray, List.set_cons_zero, List.set_cons_succ]
      refine wpAnyH_take (i := 7) (v := .bool true) rfl (by kernel_rfl) (by kernel_rfl) (by kernel_rfl) (fun _ _ _ h => h) (Or.inl ⟨by rfl, ?_⟩) hHeld ?_
      ·intro wz hSw; go_simp
      try simp only [Act.put, List.getElem_toArray, List.getElem_cons_succ, List.getElem_cons_zero, List.setIfInBounds_toArray, List.set_cons_zero, List.set_cons_succ]
      refine wpAnyH_take (i := 8) (v := .bool true) rfl (by kernel_rfl) (by kernel_rfl) (by kernel_rfl) (fun _ _ _ h => h) (Or.inl ⟨by rfl, ?_⟩) hHeld ?_
      ·intro wz hSw; go_simp
      try simp only [Act.put, List.getElem_toArray, List.getElem_cons_succ, List.getElem_cons_zero, List.setIfInBounds_toArray, List.set_cons_zero, List.set_cons_succ]
      refine wpAnyH_take (i := 9) (v := .slice (some ⟨b0, o0, none⟩) n c) rfl (by kernel_rfl) (by kernel_rfl) (by kernel_rfl) (fun _ _ _ h => h) (Or.inl ⟨by kernel_rfl, ?_⟩) hHeld ?_
      ·intro wz hSw; go_simp
      try simp only [Act.put, List.getElem_toArray, List.getElem_cons_succ, List.getElem_cons_zero, List.setIfInBounds_toArray, List.set_cons_zero, List.set_cons_succ]
      refine wpAnyH_take (i := 10) (v := .pointer (some ⟨b0, o0 + 2, none⟩)) rfl (by kernel_rfl) (by kernel_rfl) (by kernel_rfl) (fun _ _ _ h => h) (Or.inl ⟨by kernel_rfl, ?_⟩) hHeld ?_
      ·intro wz hSw; go_simp
      try simp only [Act.put, List.getElem_toArray, List.getElem_cons_succ, List.getElem_cons_zero, List.setIfInBounds_toArray, List.set_cons_zero, List.set_cons_succ]
      refine wpAnyH_take (i := 11) (v := .string z2) rfl (by kernel_rfl) (by kernel_rfl) (by kernel_rfl) (fun _ _ _ h => h) (Or.inl ⟨by kernel_rfl, ?_⟩) hHeld ?_
      ·intro wz hSw; (have e1 : wz.cell? ⟨b0, o0 + 2, none⟩ = some (.string z2) := hSw.2.2); go_simp
      try simp only [Act.put, List.getElem_toArray, List.getElem_cons_succ, List.getElem_cons_zero, List.setIfInBounds_toArray, List.set_cons_zero, List.set_cons_succ]
      refine wpAnyH_ready (rs := [12]) (by kernel_rfl) (by simp) ?_
      refine AllReadyH.cons rfl (fun K hK => ?_) AllReadyH.nil
      go_simp
      refine (rfile_any z2 _).mono ?_
      rintro e w' ⟨rfl, rfl⟩
      rw [HFB.out]
      refine hK.out _ _ hHeld (fun hHeld => ?_)
      clear hK K
      try simp only [Act.put, List.getElem_toArray, List.getElem_cons_succ, List.getElem_cons_zero, List.setIfInBounds_toArray, List.set_cons_zero, List.set_cons_succ]
      refine wpAnyH_take (i := 13) (v := .bool false) rfl (by kernel_rfl) (by kernel_rfl) (by kernel_rfl) (fun _ _ _ h => h) (Or.inl ⟨by rfl, ?_⟩) hHeld ?_
      ·intro wz hSw; go_simp
      try simp only [Act.put, List.getElem_toArray, List.getElem_cons_succ, List.getElem_cons_zero, List.setIfInBounds_toArray, List.set_cons_zero, List.set_cons_succ]
      refine wpAnyH_take (i := 14) (v := .bool false) rfl (by kernel_rfl) (by kernel_rfl) (by kernel_rfl) (fun _ _ _ h => h) (Or.inl ⟨by rfl, ?_⟩) hHeld ?_
      ·intro wz hSw; go_simp
      try simp only [Act.put, List.getElem_toArray, List.getElem_cons_succ, List.getElem_cons_zero, List.setIfInBounds_toArray, List.set_cons_zero, List.set_cons_succ]
      refine Ord.held_skip (i := 15) (d := 99) rfl rfl (by kernel_rfl) (by kernel_rfl) (by kernel_rfl) (fun _ _ _ h => h) (by kernel_rfl) hHeld ?_
      try simp only [Act.put, List.getElem_toArray, List.getElem_cons_succ, List.getElem_cons_zero, List.setIfInBounds_toArray, List.set_cons_zero, List.set_cons_succ]
      refine Ord.held_skip (i := 16) (d := 100) rfl rfl (by kernel_rfl) (by kernel_rfl) (by kernel_rfl) (fun _ _ _ h => h) (by kernel_rfl) hHeld ?_
      try simp only [Act.put, List.getElem_toArray, List.getElem_cons_succ, List.getElem_cons_zero, List.setIfInBounds_toArray, List.set_cons_zero, List.set_cons_succ]
      refine wpAnyH_ready (rs := [17]) (by kernel_rfl) (by simp) ?_
      refine AllReadyH.cons rfl (fun K hK => ?_) AllReadyH.nil
      go_simp
      refine hK.out _ _ hHeld (fun hHeld => ?_)
      clear hK K
      try simp only [Act.put, List.getElem_toArray, List.getElem_cons_succ, List.getElem_cons_zero, List.setIfInBounds_toArray, List.set_cons_zero, List.set_cons_succ]
      refine wpAnyH_take (i := 18) (v := .bool false) rfl (by kernel_rfl) (by kernel_rfl) (by kernel_rfl) (fun _ _ _ h => h) (Or.inl ⟨by rfl, ?_⟩) hHeld ?_
      ·intro wz hSw; go_simp
      try simp only [Act.put, List.getElem_toArray, List.getElem_cons_succ, List.getElem_cons_zero, List.setIfInBounds_toArray, List.set_cons_zero, List.set_cons_succ]
      refine wpAnyH_ready (rs := [19]) (by kernel_rfl) (by simp) ?_
      refine AllReadyH.cons rfl (fun K hK => ?_) AllReadyH.nil
      rw [if_pos (by rfl)]
      refine wp_store_rowG 37 _ _ rfl w.heap.size (stC 0 zr ⟨#[]⟩ (some ⟨gs, 0, none⟩) 1 1 z2 A3 m3 c3) rfl rfl 37 st0 HQ.out.r infoSt rfl (stC_one _ _ _ _ _ _ _ _ _ _) ?_
      intro W2 hr2 hg2
      have HR2 := Lib.hid hr2
      have HGW := Lib.hid hg2
      have k2 := (HQ.out.fin hg2).2.1
      clear hr2 hg2
      refine hK.out _ _ ⟨k2, ((HQ.out.fin HGW.out).1.cell (p := ⟨b0, o0 + 1, none⟩) HB0.out).trans HC1.out, ((HQ.out.fin HGW.out).1.cell (p := ⟨b0, o0 + 2, none⟩) HB0.out).trans HC2.out⟩ (fun hHeld => ?_)
      clear hK K
      try simp only [Act.put, List.getElem_toArray, List.getElem_cons_succ, List.getElem_cons_zero, List.setIfInBounds_toArray, List.set_cons_zero, List.set_cons_succ]
      clear k2
      refine wpAnyH_ready (rs := [20]) (by kernel_rfl) (by simp) ?_
      refine AllReadyH.cons rfl (fun K hK => ?_) AllReadyH.nil
      go_simp
      refine hK.out _ _ hHeld (fun hHeld => ?_)
      clear hK K
      try simp only [Act.put, List.getElem_toArray, List.getElem_cons_succ, List.getElem_cons_zero, List.setIfInBounds_toArray, List.set_cons_zero, List.set_cons_succ]
      refine wpAnyH_done (by kernel_rfl) ?_ _
      go_wp2_with fail
      try rw [Exit.noGoto_ret]
      refine bodyPost_ret (Ard.results_row_tmp rfl _ _ w.heap.size 37 (stC 0 zr ⟨#[]⟩ (some ⟨gs, 0, none⟩) 1 1 z2 A3 m3 c3) (0, 0) _ rfl HR2.out Tryz.underlying37 rfl (by first | exact infoSt | (rw [HS6.out]; exact infoSt))) rfl ?_
      have HE : Hid (r = none) := by show _ = _; rw [← HR.out, stepM_write H0.out, if_neg (fun h => by have h2 := h.2.2; rw [HG2.out, ← HT2.out, HFB.out] at h2; exact absurd h2 (by decide))]
      rw [HE.out]
      exact rno HQ.out rfl HGW.out
     ·refine wp_region_held_drew (S := fun V => V.heap[w.heap.size + 1]? = some (.cells (stC 0 zr ⟨#[]⟩ (some ⟨gs, 0, none⟩) 1 1 z2 A3 m3 c3) 37 (0, 0)) ∧ V.cell? ⟨b0, o0 + 1, none⟩ = some (.string z1) ∧ V.cell? ⟨b0, o0 + 2, none⟩ = some (.string z2)) (by kernel_rfl) ⟨HQ.out.s, (HQ.out.bel.cell (p := ⟨b0, o0 + 1, none⟩) HB0.out).trans HC1.out, (HQ.out.bel.cell (p := ⟨b0, o0 + 2, none⟩) HB0.out).trans HC2.out⟩ (fun hHeld => ?_)
      obtain ⟨V40, hV⟩ : ∃ x, V33.drew = x := ⟨_, rfl⟩
      have HQ := Lib.hid (HQ.out.on (Below.refl _ _).drew)
      have HSRC := Lib.hid (own_below HSRC.out (Below.refl _ _).drew)
      have HARG := Lib.hid (own_below HARG.out (Below.refl _ _).drew)
      rw [hV] at HQ HSRC HARG hHeld ⊢
      clear hV
      refine wpAnyH_take (i := 0) (v := .agg (stC 0 zr ⟨#[]⟩ (some ⟨gs, 0, none⟩) 1 1 z2 A3 m3 c3)) rfl (by kernel_rfl) (by kernel_rfl) (by kernel_rfl) (fun _ _ _ h => h) (yields_row (by rfl) 37 _ rfl (w.heap.size + 1) rfl 37 (stC 0 zr ⟨#[]⟩ (some ⟨gs, 0, none⟩) 1 1 z2 A3 m3 c3) (0, 0) _ (fun _ h => h.1) Tryz.underlying37 rfl (infoSt)) hHeld ?_
      try simp only [Act.put, List.getElem_toArray, List.getElem_cons_succ, List.getElem_cons_zero, List.setIfInBounds_toArray, List.set_cons_zero, List.set_cons_succ]
      refine wpAnyH_take (i := 1) (v := .bool true) rfl (by kernel_rfl) (by kernel_rfl) (by kernel_rfl) (fun _ _ _ h => h) (Or.inl ⟨by rfl, ?_⟩) hHeld ?_
      ·intro wz hSw; go_simp
      try simp only [Act.put, List.getElem_toArray, List.getElem_cons_succ, List.getElem_cons_zero, List.setIfInBounds_toArray, List.set_cons_zero, List.set_cons_succ]
      refine wpAnyH_take (i := 2) (v := .bool true) rfl (by kernel_rfl) (by kernel_rfl) (by kernel_rfl) (fun _ _ _ h => h) (Or.inl ⟨by rfl, ?_⟩) hHeld ?_
      ·intro wz hSw; go_simp
      try simp only [Act.put, List.getElem_toArray, List.getElem_cons_succ, List.getElem_cons_zero, List.setIfInBounds_toArray, List.set_cons_zero, List.set_cons_succ]
      refine wpAnyH_take (i := 3) (v := .slice (some ⟨b0, o0, none⟩) n c) rfl (by kernel_rfl) (by kernel_rfl) (by kernel_rfl) (fun _ _ _ h => h) (Or.inl ⟨by kernel_rfl, ?_⟩) hHeld ?_
      ·intro wz hSw; go_simp
      try simp only [Act.put, List.getElem_toArray, List.getElem_cons_succ, List.getElem_cons_zero, List.setIfInBounds_toArray, List.set_cons_zero, List.set_cons_succ]
      refine wpAnyH_take (i := 4) (v := .pointer (some ⟨b0, o0 + 1, none⟩)) rfl (by kernel_rfl) (by kernel_rfl) (by kernel_rfl) (fun _ _ _ h => h) (Or.inl ⟨by kernel_rfl, ?_⟩) hHeld ?_
      ·intro wz hSw; go_simp
      try simp only [Act.put, List.getElem_toArray, List.getElem_cons_succ, List.getElem_cons_zero, List.setIfInBounds_toArray, List.set_cons_zero, List.set_cons_succ]
      refine wpAnyH_take (i := 5) (v := .string z1) rfl (by kernel_rfl) (by kernel_rfl) (by kernel_rfl) (fun _ _ _ h => h) (Or.inl ⟨by kernel_rfl, ?_⟩) hHeld ?_
      ·intro wz hSw; (have e1 : wz.cell? ⟨b0, o0 + 1, none⟩ = some (.string z1) := hSw.2.1); go_simp
      try simp only [Act.put, List.getElem_toArray, List.getElem_cons_succ, List.getElem_cons_zero, List.setIfInBounds_toArray, List.set_cons_zero, List.set_cons_succ]
      refine wpAnyH_ready (rs := [6]) (by kernel_rfl) (by simp) ?_
      refine AllReadyH.cons rfl (fun K hK => ?_) AllReadyH.nil
      go_simp
      refine (rname_any z1 _).mono ?_
      rintro e w' ⟨rfl, rfl⟩
      rw [HNB.out]
      refine hK.out _ _ hHeld (fun hHeld => ?_)
      clear hK K
      try simp only [Act.put, List.getElem_toArray, List.getElem_cons_succ, List.getElem_cons_zero, List.setIfInBounds_toArray, List.set_cons_zero, List.set_cons_succ]
      refine wpAnyH_take (i := 7) (v := .bool true) rfl (by kernel_rfl) (by kernel_rfl) (by kernel_rfl) (fun _ _ _ h => h) (Or.inl ⟨by rfl, ?_⟩) hHeld ?_
      ·intro wz hSw; go_simp
      try simp only [Act.put, List.getElem_toArray, List.getElem_cons_succ, List.getElem_cons_zero, List.setIfInBounds_toArray, List.set_cons_zero, List.set_cons_succ]
      refine wpAnyH_take (i := 8) (v := .bool true) rfl (by kernel_rfl) (by kernel_rfl) (by kernel_rfl) (fun _ _ _ h => h) (Or.inl ⟨by rfl, ?_⟩) hHeld ?_
      ·intro wz hSw; go_simp
      try simp only [Act.put, List.getElem_toArray, List.getElem_cons_succ, List.getElem_cons_zero, List.setIfInBounds_toArray, List.set_cons_zero, List.set_cons_succ]
      refine wpAnyH_take (i := 9) (v := .slice (some ⟨b0, o0, none⟩) n c) rfl (by kernel_rfl) (by kernel_rfl) (by kernel_rfl) (fun _ _ _ h => h) (Or.inl ⟨by kernel_rfl, ?_⟩) hHeld ?_
      ·intro wz hSw; go_simp
      try simp only [Act.put, List.getElem_toArray, List.getElem_cons_succ, List.getElem_cons_zero, List.setIfInBounds_toArray, List.set_cons_zero, List.set_cons_succ]
      refine wpAnyH_take (i := 10) (v := .pointer (some ⟨b0, o0 + 2, none⟩)) rfl (by kernel_rfl) (by kernel_rfl) (by kernel_rfl) (fun _ _ _ h => h) (Or.inl ⟨by kernel_rfl, ?_⟩) hHeld ?_
      ·intro wz hSw; go_simp
      try simp only [Act.put, List.getElem_toArray, List.getElem_cons_succ, List.getElem_cons_zero, List.setIfInBounds_toArray, List.set_cons_zero, List.set_cons_succ]
      refine wpAnyH_take (i := 11) (v := .string z2) rfl (by kernel_rfl) (by kernel_rfl) (by kernel_rfl) (fun _ _ _ h => h) (Or.inl ⟨by kernel_rfl, ?_⟩) hHeld ?_
      ·intro wz hSw; (have e1 : wz.cell? ⟨b0, o0 + 2, none⟩ = some (.string z2) := hSw.2.2); go_simp
      try simp only [Act.put, List.getElem_toArray, List.getElem_cons_succ, List.getElem_cons_zero, List.setIfInBounds_toArray, List.set_cons_zero, List.set_cons_succ]
      refine wpAnyH_ready (rs := [12]) (by kernel_rfl) (by simp) ?_
      refine AllReadyH.cons rfl (fun K hK => ?_) AllReadyH.nil
      go_simp
      refine (rfile_any z2 _).mono ?_
      rintro e w' ⟨rfl, rfl⟩
      rw [HFB.out]
      refine hK.out _ _ hHeld (fun hHeld => ?_)
      clear hK K
      try simp only [Act.put, List.getElem_toArray, List.getElem_cons_succ, List.getElem_cons_zero, List.setIfInBounds_toArray, List.set_cons_zero, List.set_cons_succ]
      refine wpAnyH_take (i := 13) (v := .bool true) rfl (by kernel_rfl) (by kernel_rfl) (by kernel_rfl) (fun _ _ _ h => h) (Or.inl ⟨by rfl, ?_⟩) hHeld ?_
      ·intro wz hSw; go_simp
      try simp only [Act.put, List.getElem_toArray, List.getElem_cons_succ, List.getElem_cons_zero, List.setIfInBounds_toArray, List.set_cons_zero, List.set_cons_succ]
      refine wpAnyH_take (i := 14) (v := .bool true) rfl (by kernel_rfl) (by kernel_rfl) (by kernel_rfl) (fun _ _ _ h => h) (Or.inl ⟨by rfl, ?_⟩) hHeld ?_
      ·intro wz hSw; go_simp
      try simp only [Act.put, List.getElem_toArray, List.getElem_cons_succ, List.getElem_cons_zero, List.setIfInBounds_toArray, List.set_cons_zero, List.set_cons_succ]
      refine wpAnyH_take (i := 15) (v := .pointer (some ⟨w.heap.size + 1, 5, none⟩)) rfl (by kernel_rfl) (by kernel_rfl) (by kernel_rfl) (fun _ _ _ h => h) (Or.inl ⟨by kernel_rfl, ?_⟩) hHeld ?_
      ·intro wz hSw; go_simp
      try simp only [Act.put, List.getElem_toArray, List.getElem_cons_succ, List.getElem_cons_zero, List.setIfInBounds_toArray, List.set_cons_zero, List.set_cons_succ]
      refine wpAnyH_take (i := 16) (v := .slice A3 m3 c3) rfl (by kernel_rfl) (by kernel_rfl) (by kernel_rfl) (fun _ _ _ h => h) (Or.inl ⟨by kernel_rfl, ?_⟩) hHeld ?_
      ·intro wz hSw; (have e1 : wz.cell? ⟨w.heap.size + 1, 5, none⟩ = some (.slice A3 m3 c3) := Ard.row_cell hSw.1 5); go_simp
      try simp only [Act.put, List.getElem_toArray, List.getElem_cons_succ, List.getElem_cons_zero, List.setIfInBounds_toArray, List.set_cons_zero, List.set_cons_succ]
      refine wpAnyH_ready (rs := [17]) (by kernel_rfl) (by simp) ?_
      refine AllReadyH.cons rfl (fun K hK => ?_) AllReadyH.nil
      go_simp
      refine (rformat_any (c := c3) _ (SI.of_own HARG.out (by have := HM3.out; have := HNL.out; show m3 * 8 ≤ _; omega)) HCP.out).mono ?_
      rintro e V48 ⟨rfl, hbv⟩
      rw [HFO.out]
      have HQ := Lib.hid (HQ.out.on (hbv.mono (by have := HQ.out.lt; omega)))
      have HARG := Lib.hid (own_below HARG.out hbv)
      have HSRC := Lib.hid (own_below HSRC.out hbv)
      clear hbv
      refine hK.out _ _ ⟨HQ.out.s, (HQ.out.bel.cell (p := ⟨b0, o0 + 1, none⟩) HB0.out).trans HC1.out, (HQ.out.bel.cell (p := ⟨b0, o0 + 2, none⟩) HB0.out).trans HC2.out⟩ (fun hHeld => ?_)
      clear hK K
      try simp only [Act.put, List.getElem_toArray, List.getElem_cons_succ, List.getElem_cons_zero, List.setIfInBounds_toArray, List.set_cons_zero, List.set_cons_succ]
      refine wpAnyH_take (i := 18) (v := .bool fo) rfl (by kernel_rfl) (by kernel_rfl) (by kernel_rfl) (fun _ _ _ h => h) (Or.inl ⟨by rfl, ?_⟩) hHeld ?_
      ·intro wz hSw; go_simp
      try simp only [Act.put, List.getElem_toArray, List.getElem_cons_succ, List.getElem_cons_zero, List.setIfInBounds_toArray, List.set_cons_zero, List.set_cons_succ]
      refine wpAnyH_ready (rs := [19]) (by kernel_rfl) (by simp) ?_
      refine AllReadyH.cons rfl (fun K hK => ?_) AllReadyH.nil
      rw [if_pos (by rfl)]
      refine wp_store_rowG 37 _ _ rfl w.heap.size (stC 0 zr ⟨#[]⟩ (some ⟨gs, 0, none⟩) 1 1 z2 A3 m3 c3) rfl rfl 37 st0 HQ.out.r infoSt rfl (stC_one _ _ _ _ _ _ _ _ _ _) ?_
      intro W2 hr2 hg2
      have HR2 := Lib.hid hr2
      have HGW := Lib.hid hg2
      have k2 := (HQ.out.fin hg2).2.1
      clear hr2 hg2
      refine hK.out _ _ ⟨k2, ((HQ.out.fin HGW.out).1.cell (p := ⟨b0, o0 + 1, none⟩) HB0.out).trans HC1.out, ((HQ.out.fin HGW.out).1.cell (p := ⟨b0, o0 + 2, none⟩) HB0.out).trans HC2.out⟩ (fun hHeld => ?_)
      clear hK K
      try simp only [Act.put, List.getElem_toArray, List.getElem_cons_succ, List.getElem_cons_zero, List.setIfInBounds_toArray, List.set_cons_zero, List.set_cons_succ]
      clear k2
      refine wpAnyH_ready (rs := [20]) (by kernel_rfl) (by simp) ?_
      refine AllReadyH.cons rfl (fun K hK => ?_) AllReadyH.nil
      go_simp
      refine hK.out _ _ hHeld (fun hHeld => ?_)
      clear hK K
      try simp only [Act.put, List.getElem_toArray, List.getElem_cons_succ, List.getElem_cons_zero, List.setIfInBounds_toArray, List.set_cons_zero, List.set_cons_succ]
      refine wpAnyH_done (by kernel_rfl) ?_ _
      go_wp2_with fail
      try rw [Exit.noGoto_ret]
      refine bodyPost_ret (Ard.results_row_tmp rfl _ _ w.heap.size 37 (stC 0 zr ⟨#[]⟩ (some ⟨gs, 0, none⟩) 1 1 z2 A3 m3 c3) (0, 0) _ rfl HR2.out Tryz.underlying37 rfl (by first | exact infoSt | (rw [HS6.out]; exact infoSt))) rfl ?_
      have HRA : Hid (numsM (l.drop 4) = some a0) := by
       show _ = _
       have h1 := HOK.out
       rw [← HA0.out]
       cases hx : numsM (l.drop 4) with
       | none => rw [hx] at h1; cases h1
       | some y => rfl
      have HE : Hid (r = if fo then some ⟨writeT, [], [t1], t2, KF :: a0⟩ else none) := by
       show _ = _
       rw [← HR.out, stepM_write H0.out, if_pos ⟨by rw [HLN.out]; exact HM.out, by rw [HG1.out, ← HT1.out]; exact HNB.out, by rw [HG2.out, ← HT2.out]; exact HFB.out⟩, HRA.out, HG1.out, HG2.out, HG3.out, ← HKF.out]
       show (if formatB (KF :: a0) = true then _ else _) = _
       rw [HFO.out]
      rw [HE.out]
      exact rend fo HQ.out rfl HGW.out HZR.out rfl HZ2.out (by show World.ownsRow _ _ _ _ _ _ [.string (ba t1)]; rw [HZ1.out]; exact HSRC.out) HARG.out
end Go.Proofs.YtoofgblmpjndjaaGreatDoor.Scr
