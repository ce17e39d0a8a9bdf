/-
  Texts of this claim, joined by program (StpC, App, ScU). Walks: the program's step: 'fill'. (Printed by gen_step.py.)
-/
import Derived.Test.YtoofgblmpjndjaaGreatDoorZG13
import Derived.Test.YtoofgblmpjndjaaGreatDoorZG10
import Derived.Test.YtoofgblmpjndjaaGreatDoorZG12
import Derived.Maps.AppendAt
set_option linter.unusedVariables false
set_option linter.unusedSimpArgs false
namespace Go.Proofs.YtoofgblmpjndjaaGreatDoor.Scr
open Go.RowKit K Go.Lib

theorem fill_two {a : List Int} (h : fitM [(1, 4096), (1, 4096), (0, 65535), (0, 65535), (0, 65535), (0, 65535)] a = true) : ∃ x y, a[0]? = some x ∧ a[1]? = some y ∧ (1 ≤ x ∧ x ≤ 4096) ∧ 1 ≤ y ∧ y ≤ 4096 := by
 have hal := fitM_len h
 match a, hal, h with
 | x :: y :: rest, hal, h => exact ⟨x, y, rfl, rfl, (fitM_iff hal).1 h 0 _ x rfl rfl, (fitM_iff hal).1 h 1 _ y rfl rfl⟩
set_option maxRecDepth 20000 in
set_option maxHeartbeats 8000000 in
theorem step_fill {A : Option Addr} {n c : Nat} {l : List Tx} (w : World) (H : SS w A n l) (hn : 1 ≤ n) (hcap : n ≤ c) (h0 : l.getD 0 [] = fillT) :
  Calls Tryz.prog 23 #[.slice A n c] w (StepP w (stepM l)) := by
 have hmf : ∀ (fn : Fn) (first cap : Array Value) (w : World), (Instr.makeFunc fn first cap).run Tryz.prog w = .ok (.func fn first cap) w := fun _ _ _ _ => rfl
 have HS := Lib.hid H
 have HLN := Lib.hid H.len
 have HCAP := Lib.hid hcap
 have HNS := Lib.hid H.sz
 have H0 := Lib.hid h0
 obtain ⟨r, hr0⟩ : ∃ r, stepM l = r := ⟨_, rfl⟩
 rw [hr0]
 have HR := Lib.hid hr0
 obtain ⟨W, hW, hq⟩ := SQ.named w
 obtain ⟨b0, o0, t0, rfl, hc0, ht0, hb0⟩ := H.cell (i := 0) (by omega)
 have HB0 := Lib.hid hb0
 rw [Nat.add_zero] at hc0
 have htr : fillT = t0 := by rw [← h0, List.getD_eq_getElem?_getD, ht0]; rfl
 subst htr
 have hc0 := (hq.bel.cell (p := ⟨b0, o0, none⟩) hb0).trans hc0
 have c1 : W.cell? ⟨w.heap.size, 1, none⟩ = some (.string ⟨#[]⟩) := hq.cells.1.1
 have f1 := hq.cells.2.1 1
 have n0 : (0 : Int) < n := by omega
 have n1 : 0 < n := hn
 have n2 : n ≠ 0 := by omega
 obtain ⟨W1, hW1, hq1⟩ : ∃ W1, W.setCell ⟨w.heap.size, 1, none⟩ (.string (ba fillT)) = W1 ∧ SQ w W1 (ba fillT) ⟨#[]⟩ none 0 0 ⟨#[]⟩ none 0 0 := ⟨_, rfl, hq.setOp _⟩
 have d1 := hq1.cells.1.1
 have r0 : ((ba fillT).toList == [114, 101, 97, 100]) = false := by rw [tl_ba]; rfl
 have r1 : ((ba fillT).toList == [119, 114, 105, 116, 101]) = false := by rw [tl_ba]; rfl
 have r2 : ((ba fillT).toList == [102, 105, 108, 108]) = true := by rw [tl_ba]; rfl
 obtain ⟨zr, hzr⟩ : ∃ z, ba fillT = z := ⟨_, rfl⟩
 have HZR := Lib.hid hzr
 rw [hzr] at hc0 hW1 d1 hq1 r0 r1 r2
 have HQ1 := Lib.hid hq1
 clear H hq ht0 h0 hq1 hzr hr0 hcap hb0
 go_enter_defers Tryz.func23, Tryz.ntmps23
 go_wp2_with fail
 have HX := Lib.hid (must_no W1)
 have HY := Lib.hid (must_yes W1)
 by_cases hm : ¬ (2 ≤ n)
 ·have t3 : decide ((2 : Int) ≤ (n : Int)) = false := decide_eq_false (by omega)
  have HE : Hid (r = none) := by show _ = _; rw [← HR.out]; rw [stepM_fill H0.out, if_neg (fun h => hm (by rw [← HLN.out]; exact h.1))]
  rw [t3]
  clear hm
  refine HX.out.mono ?_
  rintro e w' ⟨rfl, rfl⟩
  go_wp2_with fail
  rw [HE.out]
  exact door_bad rfl rfl HQ1.out
 replace hm := Decidable.not_not.1 hm
 obtain ⟨b1', o1', t1, e1, hc1, ht1, -⟩ := HS.out.cell (i := 1) (by omega)
 injection e1 with e1
 injection e1 with ea1 eb1
 subst ea1 eb1
 have HG1 : Hid (l.getD 1 [] = t1) := by show _ = _; rw [List.getD_eq_getElem?_getD, ht1]; rfl
 obtain ⟨z1, hz1⟩ : ∃ z, ba t1 = z := ⟨_, rfl⟩
 have HZ1 := Lib.hid hz1
 rw [hz1] at hc1
 have HC1 := Lib.hid hc1
 have x1 := (HQ1.out.bel.cell (p := ⟨b0, o0 + 1, none⟩) HB0.out).trans hc1
 have i1 : (1 : Int) < n := by omega
 clear hc1 ht1 hz1
 have t3 : decide ((2 : Int) ≤ (n : Int)) = true := decide_eq_true (by omega)
 rw [t3]
 have hsl := fun w => run_from (P := Tryz.prog) (t := 34) (e := 9) (n := n) (c := c) (A := some ⟨b0, o0, none⟩) (a := 2) (i := 2) Tryz.underlying34 szS rfl (by omega) w
 have HSD := Lib.hid (ssDrop HS.out (a := 2) (c := c) (by omega) HCAP.out)
 obtain ⟨X, hX⟩ : ∃ x, subA (some ⟨b0, o0, none⟩) 2 c = x := ⟨_, rfl⟩
 obtain ⟨m, hm2⟩ : ∃ x, n - 2 = x := ⟨_, rfl⟩
 obtain ⟨cm, hcm⟩ : ∃ x, c - 2 = x := ⟨_, rfl⟩
 rw [hX, hm2, hcm] at hsl
 rw [hX, hm2] at HSD
 clear hX hm2 hcm
 obtain ⟨ra, hra⟩ : ∃ x, numsM (l.drop 2) = x := ⟨_, rfl⟩
 have HRA := Lib.hid hra
 have HNUMS : Hid (∀ V, Below w.heap.size w V → Calls Tryz.prog 50 #[.slice X m cm] V (NumbersP V ra)) := fun V hV => by rw [← hra]; exact numbers_any V (HSD.out.below hV) (fun t V2 _ => number_any V2)
 clear hra
 have HM := Lib.hid hm
 clear hm t3
 refine HY.out.mono ?_
 rintro e w' ⟨rfl, rfl⟩
 go_wp2_with fail
 have HN1 : Hid (∀ V, Calls Tryz.prog 46 #[.string z1] V (TextP V t1 (nameB t1))) := fun V => by rw [← HZ1.out]; exact name_made V
 refine wp_region_held_drew (S := fun V => V.cell? ⟨b0, o0 + 1, none⟩ = some (.string z1)) (by kernel_rfl) x1 (fun hHeld => ?_)
 obtain ⟨V0, hV0⟩ : ∃ x, W1.drew = x := ⟨_, rfl⟩
 have HQ := Lib.hid (HQ1.out.on (Below.refl _ _).drew)
 rw [hV0] at HQ hHeld ⊢
 clear hV0
 refine wpAnyH_take (i := 0) (v := .slice (some ⟨b0, o0, none⟩) n c) rfl (by kernel_rfl) (by kernel_rfl) (by kernel_rfl) (fun _ _ _ h => bodyD_put (by decide) (by decide) h) (Or.inl ⟨by rfl, ?_⟩) hHeld ?_
 ·intro wz hSw; obtain s1 := hSw; go_simp
 try simp only [Act.put, List.getElem_toArray, List.getElem_cons_succ, List.getElem_cons_zero, List.setIfInBounds_toArray, List.set_cons_zero, List.set_cons_succ]
 refine wpAnyH_take (i := 1) (v := .pointer (some ⟨b0, o0 + 1, none⟩)) rfl (by kernel_rfl) (by kernel_rfl) (by kernel_rfl) (fun _ _ _ h => bodyD_put (by decide) (by decide) h) (Or.inl ⟨by rfl, ?_⟩) hHeld ?_
 ·intro wz hSw; obtain s1 := hSw; go_simp
 try simp only [Act.put, List.getElem_toArray, List.getElem_cons_succ, List.getElem_cons_zero, List.setIfInBounds_toArray, List.set_cons_zero, List.set_cons_succ]
 refine wpAnyH_take (i := 2) (v := .string z1) rfl (by kernel_rfl) (by kernel_rfl) (by kernel_rfl) (fun _ _ _ h => bodyD_put (by decide) (by decide) h) (Or.inl ⟨by rfl, ?_⟩) hHeld ?_
 ·intro wz hSw; obtain s1 := hSw; go_simp
 try simp only [Act.put, List.getElem_toArray, List.getElem_cons_succ, List.getElem_cons_zero, List.setIfInBounds_toArray, List.set_cons_zero, List.set_cons_succ]
 refine wpAnyH_take (i := 4) (v := .slice (some ⟨b0, o0, none⟩) n c) rfl (by kernel_rfl) (by kernel_rfl) (by kernel_rfl) (fun _ _ _ h => bodyD_put (by decide) (by decide) h) (Or.inl ⟨by rfl, ?_⟩) hHeld ?_
 ·intro wz hSw; obtain s1 := hSw; go_simp
 try simp only [Act.put, List.getElem_toArray, List.getElem_cons_succ, List.getElem_cons_zero, List.setIfInBounds_toArray, List.set_cons_zero, List.set_cons_succ]
 refine wpAnyH_take (i := 5) (v := .slice X m cm) rfl (by kernel_rfl) (by kernel_rfl) (by kernel_rfl) (fun _ _ _ h => bodyD_put (by decide) (by decide) h) (Or.inl ⟨by rfl, ?_⟩) hHeld ?_
 ·intro wz hSw; obtain s1 := hSw; go_simp
 try simp only [Act.put, List.getElem_toArray, List.getElem_cons_succ, List.getElem_cons_zero, List.setIfInBounds_toArray, List.set_cons_zero, List.set_cons_succ]
 refine wpAnyH_ready (rs := [3]) (by kernel_rfl) (by simp) ?_
 refine AllReadyH.cons rfl (fun K hK => ?_) AllReadyH.nil
 go_simp
 refine (HN1.out _).mono ?_
 rintro e V1 ⟨hbv, he⟩
 have HQ := Lib.hid (HQ.out.on (hbv.mono (by have := HQ.out.lt; omega)))
 clear hbv
 by_cases hn1 : ¬ (nameB t1 = true)
 ·rw [if_neg hn1] at he
  subst he
  have HE : Hid (r = none) := by show _ = _; rw [← HR.out]; rw [stepM_fill H0.out, if_neg (fun h => hn1 (by rw [← HG1.out]; exact h.2))]
  rw [HE.out]
  exact door_bad rfl rfl HQ.out
 replace hn1 := Decidable.not_not.1 hn1
 rw [if_pos hn1] at he
 rw [HZ1.out] at he
 subst he
 have HHN1 := Lib.hid hn1
 clear hn1
 refine hK.out _ _ ((HQ.out.bel.cell (p := ⟨b0, o0 + 1, none⟩) HB0.out).trans HC1.out) (fun hHeld => ?_)
 clear hK K
 try simp only [Act.put, List.getElem_toArray, List.getElem_cons_succ, List.getElem_cons_zero, List.setIfInBounds_toArray, List.set_cons_zero, List.set_cons_succ]
 refine wpAnyH_take (i := 7) (v := .pointer (some ⟨w.heap.size, 2, none⟩)) rfl (by kernel_rfl) (by kernel_rfl) (by kernel_rfl) (fun _ _ _ h => bodyD_put (by decide) (by decide) h) (Or.inl ⟨by rfl, ?_⟩) hHeld ?_
 ·intro wz hSw; obtain s1 := hSw; go_simp
 try simp only [Act.put, List.getElem_toArray, List.getElem_cons_succ, List.getElem_cons_zero, List.setIfInBounds_toArray, List.set_cons_zero, List.set_cons_succ]
 refine wpAnyH_ready (rs := [6]) (by kernel_rfl) (by simp) ?_
 refine AllReadyH.cons rfl (fun K hK => ?_) AllReadyH.nil
 go_simp
 refine (HNUMS.out _ HQ.out.bel).mono ?_
 rintro e V2 ⟨hbv, he⟩
 have hbase : w.heap.size + 2 ≤ V1.heap.size := by have := HQ.out.lt; omega
 have HQ := Lib.hid (HQ.out.on (hbv.mono hbase))
 clear hbv
 by_cases hra : ra = none
 ·subst hra
  simp only at he
  subst he
  have HE : Hid (r = none) := by show _ = _; rw [← HR.out]; rw [stepM_fill H0.out, if_pos ⟨by rw [HLN.out]; exact HM.out, by rw [HG1.out]; exact HHN1.out⟩, HRA.out]
  rw [HE.out]
  exact door_bad rfl rfl HQ.out
 obtain ⟨a, rfl⟩ := Option.ne_none_iff_exists'.1 hra
 clear hra
 obtain ⟨A2, c2, rfl, hown⟩ := he
 have HOWN := Lib.hid (own_lower hown hbase)
 clear hown hbase
 refine hK.out _ _ ((HQ.out.bel.cell (p := ⟨b0, o0 + 1, none⟩) HB0.out).trans HC1.out) (fun hHeld => ?_)
 clear hK K
 try simp only [Act.put, List.getElem_toArray, List.getElem_cons_succ, List.getElem_cons_zero, List.setIfInBounds_toArray, List.set_cons_zero, List.set_cons_succ]
 refine wpAnyH_ready (rs := [8]) (by kernel_rfl) (by simp) ?_
 refine AllReadyH.cons rfl (fun K hK => ?_) AllReadyH.nil
 have yc := HQ.out.cells.1
 have yf := HQ.out.cells.2.1 2
 obtain ⟨y1, y2, y3, y4, y5, -⟩ := yc
 have HQ := Lib.hid (HQ.out.setDst z1)
 obtain ⟨V3, hV⟩ : ∃ x, V2.setCell ⟨w.heap.size, 2, none⟩ (.string z1) = x := ⟨_, rfl⟩
 rw [hV] at HQ
 have HOWN := Lib.hid (ownsRow_setCell_below HOWN.out (a := ⟨w.heap.size, 2, none⟩) (by show w.heap.size < w.heap.size + 2; omega) (.string z1))
 rw [hV] at HOWN
 go_simp
 try rw [hV]
 clear hV y1 y2 y3 y4 y5 yf
 refine hK.out _ _ ((HQ.out.bel.cell (p := ⟨b0, o0 + 1, none⟩) HB0.out).trans HC1.out) (fun hHeld => ?_)
 clear hK K
 try simp only [Act.put, List.getElem_toArray, List.getElem_cons_succ, List.getElem_cons_zero, List.setIfInBounds_toArray, List.set_cons_zero, List.set_cons_succ]
 refine wpAnyH_take (i := 9) (v := .pointer (some ⟨w.heap.size, 5, none⟩)) rfl (by kernel_rfl) (by kernel_rfl) (by kernel_rfl) (fun _ _ _ h => bodyD_put (by decide) (by decide) h) (Or.inl ⟨by rfl, ?_⟩) hHeld ?_
 ·intro wz hSw; obtain s1 := hSw; go_simp
 try simp only [Act.put, List.getElem_toArray, List.getElem_cons_succ, List.getElem_cons_zero, List.setIfInBounds_toArray, List.set_cons_zero, List.set_cons_succ]
 refine wpAnyH_ready (rs := [10]) (by kernel_rfl) (by simp) ?_
 refine AllReadyH.cons rfl (fun K hK => ?_) AllReadyH.nil
 have yc := HQ.out.cells.1
 have yf := HQ.out.cells.2.1 5
 obtain ⟨y1, y2, y3, y4, y5, -⟩ := yc
 have HQ := Lib.hid (HQ.out.setArgs A2 a.length c2)
 obtain ⟨V4, hV⟩ : ∃ x, V3.setCell ⟨w.heap.size, 5, none⟩ (.slice A2 a.length c2) = x := ⟨_, rfl⟩
 rw [hV] at HQ
 have HOWN := Lib.hid (ownsRow_setCell_below HOWN.out (a := ⟨w.heap.size, 5, none⟩) (by show w.heap.size < w.heap.size + 2; omega) (.slice A2 a.length c2))
 rw [hV] at HOWN
 go_simp
 try rw [hV]
 clear hV y1 y2 y3 y4 y5 yf
 refine hK.out _ _ ((HQ.out.bel.cell (p := ⟨b0, o0 + 1, none⟩) HB0.out).trans HC1.out) (fun hHeld => ?_)
 clear hK K
 try simp only [Act.put, List.getElem_toArray, List.getElem_cons_succ, List.getElem_cons_zero, List.setIfInBounds_toArray, List.set_cons_zero, List.set_cons_succ]
 refine wpAnyH_done (by kernel_rfl) ?_ _
 have y5 := HQ.out.cells.1.2.2.2.2.1
 have HSZA : Hid (a.length * 8 ≤ 140737488351232) := by show _ ≤ _; have h1 := numsM_len HRA.out; have h2 := HSD.out.len; have h3 := HNS.out; have h4 := HSD.out.sz; rw [h1, h2]; omega
 have HSA := Lib.hid (SI.of_own HOWN.out HSZA.out)
 obtain ⟨V, hV⟩ : ∃ x, V4.alloc (.cells #[.int .i64 1, .int .i64 4096, .int .i64 1, .int .i64 4096, .int .i64 0, .int .i64 65535, .int .i64 0, .int .i64 65535, .int .i64 0, .int .i64 65535, .int .i64 0, .int .i64 65535] 3) = x := ⟨_, rfl⟩
 have hbV : Below V4.heap.size V4 V := by rw [← hV]; exact (Below.refl _ _).alloc (Nat.le_refl _) _
 have HLIT : Hid (SI V .i64 (some ⟨V4.heap.size, 0, none⟩) 12 (flatB [(1, 4096), (1, 4096), (0, 65535), (0, 65535), (0, 65535), (0, 65535)])) := by rw [← hV]; exact Ard.SI.lit V4 [1, 4096, 1, 4096, 0, 65535, 0, 65535, 0, 65535, 0, 65535] 3 (by decide)
 have HSA := Lib.hid (HSA.out.below hbV (Nat.le_refl _))
 have HOWN := Lib.hid (own_below HOWN.out hbV)
 have HQ := Lib.hid (HQ.out.on (hbV.mono (by have := HQ.out.lt; omega)))
 have y5V := HQ.out.cells.1.2.2.2.2.1
 have HWI := Lib.hid (within_any (c := c2) (c2 := 12) V HSA.out HLIT.out)
 have HST : Hid (r = if fillB a then some ⟨fillT, t1, [], [], a⟩ else none) := by show _ = _; rw [← HR.out, stepM_fill H0.out, if_pos ⟨by rw [HLN.out]; exact HM.out, by rw [HG1.out]; exact HHN1.out⟩, HRA.out, HG1.out]
 clear hbV
 by_cases hfit : ¬ (fitM [(1, 4096), (1, 4096), (0, 65535), (0, 65535), (0, 65535), (0, 65535)] a = true)
 ·rw [Bool.eq_false_iff.2 hfit] at HWI
  have HE : Hid (r = none) := by show _ = _; rw [HST.out, if_neg (by unfold fillB; rw [Bool.eq_false_iff.2 hfit]; simp)]
  clear hfit
  go_wp2_with (first | (go_at_call 52; refine HWI.out.mono ?_; rintro e w' ⟨rfl, rfl⟩) | fail)
  rw [HE.out]
  exact door_bad rfl rfl HQ.out
 replace hfit := Decidable.not_not.1 hfit
 rw [hfit] at HWI
 have HFIT := Lib.hid hfit
 have hal := fitM_len hfit
 obtain ⟨x, y, hgx, hgy, hbx⟩ := fill_two hfit
 have HGX := Lib.hid hgx
 have HGY := Lib.hid hgy
 have HBX := Lib.hid hbx
 have hal2 : a.length = 6 := hal
 have HAL := Lib.hid hal2
 obtain ⟨AL, hAL⟩ : ∃ k, a.length = k := ⟨_, rfl⟩
 rw [hAL] at y5 y5V HSA HOWN HWI HQ
 obtain ⟨ab, ao, x', rfl, hcx, hx', hab⟩ := HSA.out.cells (i := 0) (by omega)
 obtain ⟨ab', ao', y', e', hcy, hy', -⟩ := HSA.out.cells (i := 1) (by omega)
 injection e' with e'
 injection e' with e1 e2
 subst e1 e2
 have hxx : x' = x := Option.some.inj (hx'.out.symm.trans hgx)
 have hyy : y' = y := Option.some.inj (hy'.out.symm.trans hgy)
 subst hxx hyy
 rw [Nat.add_zero] at hcx
 have HCX := Lib.hid hcx
 have HCY := Lib.hid hcy
 have j0 : (0 : Int) < (AL : Int) := by omega
 have j1 : (1 : Int) < (AL : Int) := by omega
 have j2 : AL ≠ 0 := by omega
 have HALN : Hid (AL = 6) := hAL.symm.trans hal2
 clear hfit hal hbx hal2 hAL hgx hgy hx' hy' hab
 go_wp2_with (first | (go_at_call 52; refine HWI.out.mono ?_; rintro e w' ⟨rfl, rfl⟩) | fail)
 have hP0 : 0 ≤ x' * y' := Int.mul_nonneg (by have := HBX.out; omega) (by have := HBX.out; omega)
 have hP1 : x' * y' ≤ 4096 * 4096 := Int.mul_le_mul HBX.out.1.2 HBX.out.2.2 (by have := HBX.out; omega) (by omega)
 obtain ⟨P, hP⟩ : ∃ p, x' * y' = p := ⟨_, rfl⟩
 have HP := Lib.hid hP
 have w1 : wrap64 (x' * y') = P := by rw [hP] at hP0 hP1 ⊢; rw [IntWalk.wrap64_in _ (by omega)]
 have w2 : IntKind.i64.wrap (x' * y') = P := by rw [hP] at hP0 hP1 ⊢; rw [IntKind.wrap_i64]; omega
 have HFB : Hid (P ≤ 65536 ↔ fillB a = true) := by
  show _ ↔ _
  unfold fillB
  rw [HFIT.out, Bool.true_and, decide_eq_true_eq, List.getD_eq_getElem?_getD, List.getD_eq_getElem?_getD, HGX.out, HGY.out, ← HP.out]
  rfl
 clear hP hP0 hP1
 refine wp_region_held_drew (S := fun V => V.cell? ⟨w.heap.size, 5, none⟩ = some (.slice (some ⟨ab, ao, none⟩) AL c2) ∧ V.cell? ⟨ab, ao, none⟩ = some (.int .i64 x') ∧ V.cell? ⟨ab, ao + 1, none⟩ = some (.int .i64 y')) (by kernel_rfl) ⟨y5V, HCX.out, HCY.out⟩ (fun hHeld => ?_)
 obtain ⟨VD, hVD⟩ : ∃ x, V.drew = x := ⟨_, rfl⟩
 have HQ := Lib.hid (HQ.out.on (Below.refl _ _).drew)
 have HOWN := Lib.hid (own_below HOWN.out (Below.refl _ _).drew)
 rw [hVD] at HQ HOWN hHeld ⊢
 clear hVD
 refine wpAnyH_take (i := 0) (v := .pointer (some ⟨w.heap.size, 5, none⟩)) rfl (by kernel_rfl) (by kernel_rfl) (by kernel_rfl) (fun _ _ _ h => bodyD_put (by decide) (by decide) h) (Or.inl ⟨by rfl, ?_⟩) hHeld ?_
 ·intro wz hSw; obtain ⟨s1, s2, s3⟩ := hSw; go_simp
 try simp only [Act.put, List.getElem_toArray, List.getElem_cons_succ, List.getElem_cons_zero, List.setIfInBounds_toArray, List.set_cons_zero, List.set_cons_succ]
 refine wpAnyH_take (i := 1) (v := .slice (some ⟨ab, ao, none⟩) AL c2) rfl (by kernel_rfl) (by kernel_rfl) (by kernel_rfl) (fun _ _ _ h => bodyD_put (by decide) (by decide) h) (Or.inl ⟨by rfl, ?_⟩) hHeld ?_
 ·intro wz hSw; obtain ⟨s1, s2, s3⟩ := hSw; go_simp
 try simp only [Act.put, List.getElem_toArray, List.getElem_cons_succ, List.getElem_cons_zero, List.setIfInBounds_toArray, List.set_cons_zero, List.set_cons_succ]
 refine wpAnyH_take (i := 2) (v := .pointer (some ⟨ab, ao, none⟩)) rfl (by kernel_rfl) (by kernel_rfl) (by kernel_rfl) (fun _ _ _ h => bodyD_put (by decide) (by decide) h) (Or.inl ⟨by rfl, ?_⟩) hHeld ?_
 ·intro wz hSw; obtain ⟨s1, s2, s3⟩ := hSw; go_simp
 try simp only [Act.put, List.getElem_toArray, List.getElem_cons_succ, List.getElem_cons_zero, List.setIfInBounds_toArray, List.set_cons_zero, List.set_cons_succ]
 refine wpAnyH_take (i := 3) (v := .int .i64 x') rfl (by kernel_rfl) (by kernel_rfl) (by kernel_rfl) (fun _ _ _ h => bodyD_put (by decide) (by decide) h) (Or.inl ⟨by rfl, ?_⟩) hHeld ?_
 ·intro wz hSw; obtain ⟨s1, s2, s3⟩ := hSw; go_simp
 try simp only [Act.put, List.getElem_toArray, List.getElem_cons_succ, List.getElem_cons_zero, List.setIfInBounds_toArray, List.set_cons_zero, List.set_cons_succ]
 refine wpAnyH_take (i := 4) (v := .pointer (some ⟨w.heap.size, 5, none⟩)) rfl (by kernel_rfl) (by kernel_rfl) (by kernel_rfl) (fun _ _ _ h => bodyD_put (by decide) (by decide) h) (Or.inl ⟨by rfl, ?_⟩) hHeld ?_
 ·intro wz hSw; obtain ⟨s1, s2, s3⟩ := hSw; go_simp
 try simp only [Act.put, List.getElem_toArray, List.getElem_cons_succ, List.getElem_cons_zero, List.setIfInBounds_toArray, List.set_cons_zero, List.set_cons_succ]
 refine wpAnyH_take (i := 5) (v := .slice (some ⟨ab, ao, none⟩) AL c2) rfl (by kernel_rfl) (by kernel_rfl) (by kernel_rfl) (fun _ _ _ h => bodyD_put (by decide) (by decide) h) (Or.inl ⟨by rfl, ?_⟩) hHeld ?_
 ·intro wz hSw; obtain ⟨s1, s2, s3⟩ := hSw; go_simp
 try simp only [Act.put, List.getElem_toArray, List.getElem_cons_succ, List.getElem_cons_zero, List.setIfInBounds_toArray, List.set_cons_zero, List.set_cons_succ]
 refine wpAnyH_take (i := 6) (v := .pointer (some ⟨ab, ao + 1, none⟩)) rfl (by kernel_rfl) (by kernel_rfl) (by kernel_rfl) (fun _ _ _ h => bodyD_put (by decide) (by decide) h) (Or.inl ⟨by rfl, ?_⟩) hHeld ?_
 ·intro wz hSw; obtain ⟨s1, s2, s3⟩ := hSw; go_simp
 try simp only [Act.put, List.getElem_toArray, List.getElem_cons_succ, List.getElem_cons_zero, List.setIfInBounds_toArray, List.set_cons_zero, List.set_cons_succ]
 refine wpAnyH_take (i := 7) (v := .int .i64 y') rfl (by kernel_rfl) (by kernel_rfl) (by kernel_rfl) (fun _ _ _ h => bodyD_put (by decide) (by decide) h) (Or.inl ⟨by rfl, ?_⟩) hHeld ?_
 ·intro wz hSw; obtain ⟨s1, s2, s3⟩ := hSw; go_simp
 try simp only [Act.put, List.getElem_toArray, List.getElem_cons_succ, List.getElem_cons_zero, List.setIfInBounds_toArray, List.set_cons_zero, List.set_cons_succ]
 refine wpAnyH_take (i := 8) (v := .int .i64 P) rfl (by kernel_rfl) (by kernel_rfl) (by kernel_rfl) (fun _ _ _ h => bodyD_put (by decide) (by decide) h) (Or.inl ⟨by rfl, ?_⟩) hHeld ?_
 ·intro wz hSw; obtain ⟨s1, s2, s3⟩ := hSw; go_simp
 try simp only [Act.put, List.getElem_toArray, List.getElem_cons_succ, List.getElem_cons_zero, List.setIfInBounds_toArray, List.set_cons_zero, List.set_cons_succ]
 refine wpAnyH_take (i := 9) (v := .bool (decide (P ≤ 65536))) rfl (by kernel_rfl) (by kernel_rfl) (by kernel_rfl) (fun _ _ _ h => bodyD_put (by decide) (by decide) h) (Or.inl ⟨by rfl, ?_⟩) hHeld ?_
 ·intro wz hSw; obtain ⟨s1, s2, s3⟩ := hSw; go_simp
 try simp only [Act.put, List.getElem_toArray, List.getElem_cons_succ, List.getElem_cons_zero, List.setIfInBounds_toArray, List.set_cons_zero, List.set_cons_succ]
 refine wpAnyH_ready (rs := [10]) (by kernel_rfl) (by simp) ?_
 refine AllReadyH.cons rfl (fun K hK => ?_) AllReadyH.nil
 go_simp
 by_cases hp2 : ¬ (P ≤ 65536)
 ·rw [decide_eq_false hp2]
  have HE : Hid (r = none) := by show _ = _; rw [HST.out, if_neg (fun h => hp2 (HFB.out.2 h))]
  clear hp2
  refine (must_no _).mono ?_
  rintro e w' ⟨rfl, rfl⟩
  rw [HE.out]
  exact door_bad rfl rfl HQ.out
 replace hp2 := Decidable.not_not.1 hp2
 rw [decide_eq_true hp2]
 have HP2 := Lib.hid hp2
 clear hp2
 refine (must_yes _).mono ?_
 rintro e V11 ⟨rfl, hw⟩
 subst hw
 refine hK.out _ _ hHeld (fun hHeld => ?_)
 clear hK K
 try simp only [Act.put, List.getElem_toArray, List.getElem_cons_succ, List.getElem_cons_zero, List.setIfInBounds_toArray, List.set_cons_zero, List.set_cons_succ]
 refine wpAnyH_done (by kernel_rfl) ?_ _
 obtain ⟨SC, hSC⟩ : ∃ x, stC 0 zr z1 none 0 0 ⟨#[]⟩ (some ⟨ab, ao, none⟩) AL c2 = x := ⟨_, rfl⟩
 have HSC := Lib.hid hSC
 have hrow := HQ.out.s
 rw [hSC] at hrow
 have HROW := Lib.hid hrow
 have hsz6 : SC.size = 6 := by rw [← hSC]; rfl
 have HS6 := Lib.hid hsz6
 have hone : SC.all (·.oneCell') = true := by rw [← hSC]; exact stC_one _ _ _ _ _ _ _ _ _ _
 have HONE := Lib.hid hone
 clear hrow hsz6 hone hSC
 go_wp2_with (first | (refine wpList_load_row rfl 37 (.tmp 2) rfl w.heap.size rfl 37 SC (0, 0) _ HROW.out Tryz.underlying37 rfl (by rw [HS6.out]; exact infoSt) ?_) | (refine wpList_store_rowG rfl 37 (.tmp 2) (.tmp 97) rfl w.heap.size SC rfl rfl 37 SC HROW.out (by rw [HS6.out]; exact infoSt) rfl HONE.out ?_) | fail)
 intro W2 hr2 hg2
 rw [← HSC.out] at hr2
 obtain ⟨W3, hW3, k1, k2, HFIN⟩ := HQ.out.fin hr2 hg2
 clear hr2 hg2
 go_wp2_with fail
 try rw [hW3]
 obtain ⟨g1, g2, g3, g4⟩ := HFIN.out
 have HE : Hid (r = some ⟨fillT, t1, [], [], a⟩) := by show _ = _; rw [← HR.out]; rw [HR.out, HST.out, if_pos (HFB.out.1 HP2.out)]
 rw [HE.out]
 refine door_yes rfl rfl g3 (by show _ = some (Obj.cells (stC 0 (ba fillT) (ba t1) none 0 0 (ba []) (some ⟨ab, ao, none⟩) AL c2) 37 (0, 0)); rw [HZR.out, HZ1.out]; exact g1) g2 (g4 _ _ _ _ (World.ownsRow_nil _ _ _ _)) (g4 _ _ _ _ HOWN.out)
end Go.Proofs.YtoofgblmpjndjaaGreatDoor.Scr
set_option linter.unusedVariables false
set_option linter.unusedSimpArgs false
namespace Go.Proofs.YtoofgblmpjndjaaGreatDoor.Scr
open Go.RowKit K Go.Lib

theorem wp_append_sl {P : Program} {o : Oper} {a : Act} {w : World} {K : Act → World → Prop} {Q : Exit → Act → World → Prop} (s x : Operand) (t : TypeId)
  (ho : o.op = .call { callee := .builtin .append, args := #[s, x], argTypes := #[t, t] })
  (base e size bytes : Nat) (z : Value) (ht : P.underlying t = some (.slice e)) (hinfo : (P.info? e).map (fun i => (i.zero, i.size, i.bytes)) = some (some z, size, bytes)) (hzs : z.cells.size = size) (hsz : 0 < size)
  (v : Value) (n : Nat) (xs : List Value) (hs : a.eval s = v) (hown : w.ownsRow base e size v n xs)
  (A : Option Addr) (m c : Nat) (news : List Value) (hx : a.eval x = .slice A m c) (hl : news.length = m * size) (hr : Sl w A news) (h1 : ∀ u ∈ news, u.oneCell' = true)
  (h63 : n + m ≤ maxLen) (hbytes : (n + m) * bytes ≤ 140737488355328) (hbase : base ≤ w.heap.size)
  (h : ∀ v' w', w'.ownsRow base e size v' (n + m) (xs ++ news) → w.grownBy w' v.ownBlock → (v'.ownBlock = v.ownBlock ∨ v'.ownBlock = some w.heap.size) → K (a.put o.dst v') w') : o.wp P a w K Q := by
 obtain ⟨i, hi, hz, hz1, hz2⟩ := info_parts hinfo
 rcases Nat.eq_zero_or_pos m with hm | hm
 ·subst hm
  have hn0 : news = [] := List.eq_nil_of_length_eq_zero (by simpa using hl)
  subst hn0
  have hrun : (Builtin.append_ #[t, t] o.type #[v, .slice A 0 c]).run P w = .ok v w := by
   rcases hown.2 with ⟨rfl, rfl⟩ | ⟨g, cap, cur, rfl, _, _, hnc, _⟩
   ·cases A <;> simp [Builtin.append_, run_underlying ht, sizeOf, typeInfo, hi, Builtin.lenOf, Builtin.firstCells, loadCells, loadCellsFrom]
   ·cases A <;> simp [Builtin.append_, run_underlying ht, sizeOf, typeInfo, hi, Builtin.lenOf, Builtin.firstCells, hnc, storeCells, loadCells, loadCellsFrom]
  unfold Oper.wp execOp
  simp only [ho, resolve, invoke, builtin, Sem.run_bind, Sem.run_pure, Result.andThen_ok, List.map_toArray, List.map_cons, List.map_nil, hs, hx, hrun]
  exact h v w (by simpa using hown) (World.grownBy.refl w _) (.inl rfl)
 ·have h0 : 0 < news.length := by rw [hl]; exact Nat.mul_pos hm hsz
  obtain ⟨b, off, rfl, _⟩ := hr 0 news[0] (List.getElem?_eq_getElem h0)
  have hnews : ∀ j u, news[j]? = some u → w.cell? ((⟨b, off, none⟩ : Addr).add j) = some u := by
   intro j u hu
   obtain ⟨b', off', e', hc⟩ := hr j u hu
   injection e' with e'
   injection e' with e1 e2
   subst e1 e2
   rw [Addr.add_lit]
   exact hc
  obtain ⟨v', w', hr, h2, h3, h4, h5⟩ := run_append_own_at (P := P) w base t o.type e i z size bytes ht hi hz hz1 hz2 hzs hsz v n xs hown ⟨b, off, none⟩ m c news hl hnews h1 h63 hbytes hbase
  unfold Oper.wp execOp
  simp only [ho, resolve, invoke, builtin, Sem.run_bind, Sem.run_pure, Result.andThen_ok, List.map_toArray, List.map_cons, List.map_nil, hs, hx, hr]
  exact h v' w' h2 h3 h5
theorem idx_miss (x : ByteArray) : ∀ (zs : List ByteArray) (i : Nat), (∀ z ∈ zs, z ≠ x) → Lib.idxFromS zs x i = -1
 | [], _, _ => rfl
 | z :: zs, i, h => by
  unfold Lib.idxFromS
  rw [if_neg (h z (by simp)), idx_miss x zs (i + 1) (fun z hz => h z (by simp [hz]))]
theorem idx_fmt (t : Tx) : Lib.idxOfS (fmtsM.map ba) (ba t) + 1 = fmtN t := by
 by_cases h : t ∈ fmtsM
 ·have h2 := h
  simp only [fmtsM, List.mem_cons, List.not_mem_nil, or_false] at h2
  rcases h2 with rfl | rfl | rfl | rfl | rfl | rfl <;> decide
 ·unfold Lib.idxOfS fmtN
  rw [idx_miss _ _ _ (fun z hz e => by
   obtain ⟨u, hu, rfl⟩ := List.mem_map.1 hz
   exact h (by rw [← ba_inj e]; exact hu)), if_neg h]
  rfl
end Go.Proofs.YtoofgblmpjndjaaGreatDoor.Scr
set_option linter.unusedVariables false
set_option linter.unusedSimpArgs false
namespace Go.Proofs.YtoofgblmpjndjaaGreatDoor.Scr
open Go.RowKit K Go.Lib

def MustP (w : World) (r : Bool) (e : Ending) (w' : World) : Prop := Below w.heap.size w w' ∧ e = (if r then .returned (.tuple #[]) else .panicked bk)
theorem deep_any (v : Int) (w : World) : Calls Tryz.prog 73 #[.int .i64 v] w (WithinP w ([8, 16].contains v)) := by
 have HY := Lib.hid (must_yes w)
 have HX := Lib.hid (must_no w)
 by_cases h8 : v = 8
 ·have t1 : (v == 8) = true := beq_iff_eq.2 h8
  have HE : Hid (([8, 16] : List Int).contains v = true) := by show _ = _; subst h8; decide
  rw [HE.out]
  clear h8
  go_enter Tryz.func73, Tryz.ntmps73
  go_wp2_with (first | (go_at_call 45; refine HY.out.mono ?_; rintro e w' ⟨rfl, rfl⟩) | fail)
  go_end0
  exact ⟨rfl, rfl⟩
 ·have t1 : (v == 8) = false := beq_eq_false_iff_ne.2 h8
  by_cases h6 : v = 16
  ·have t2 : (v == 16) = true := beq_iff_eq.2 h6
   have HE : Hid (([8, 16] : List Int).contains v = true) := by show _ = _; subst h6; decide
   rw [HE.out]
   clear h8 h6
   go_enter Tryz.func73, Tryz.ntmps73
   go_wp2_with (first | (go_at_call 45; refine HY.out.mono ?_; rintro e w' ⟨rfl, rfl⟩) | fail)
   go_end0
   exact ⟨rfl, rfl⟩
  ·have t2 : (v == 16) = false := beq_eq_false_iff_ne.2 h6
   have HE : Hid (([8, 16] : List Int).contains v = false) := by show _ = _; simp [h8, h6]
   rw [HE.out]
   clear h8 h6
   go_enter Tryz.func73, Tryz.ntmps73
   go_wp2_with (first | (go_at_call 45; refine HX.out.mono ?_; rintro e w' ⟨rfl, rfl⟩) | fail)
   exact bodyPost_panic ⟨rfl, rfl⟩
theorem fit2c {lo hi lo2 hi2 : Int} {a : List Int} (h : fitM [(lo, hi), (lo2, hi2)] a = true) : ∃ x y, a = [x, y] ∧ lo ≤ x ∧ x ≤ hi := by
 match a, h with
 | [], h => simp [fitM] at h
 | [x], h => simp [fitM] at h
 | [x, y], h =>
  have h' : (Scr.within (lo, hi) x && (Scr.within (lo2, hi2) y && fitM [] [])) = true := h
  simp only [Bool.and_eq_true, Scr.within, decide_eq_true_eq] at h'
  exact ⟨x, y, rfl, h'.1.1, h'.1.2⟩
 | x :: y :: z :: r, h =>
  have h' : (Scr.within (lo, hi) x && (Scr.within (lo2, hi2) y && fitM [] (z :: r))) = true := h
  simp [fitM] at h'
theorem SI.nil (w : World) : SI w .i64 none 0 [] := ⟨rfl, by decide, fun j u h => by simp at h⟩
set_option maxRecDepth 20000 in
set_option maxHeartbeats 4000000 in
theorem format_any {A : Option Addr} {n c : Nat} {k : Int} {r : List Int} (w : World) (HA : SI w .i64 A n (k :: r)) (hcap : n ≤ c) : Calls Tryz.prog 51 #[.slice A n c] w (MustP w (formatB (k :: r))) := by
 obtain ⟨res, hres⟩ : ∃ x, formatB (k :: r) = x := ⟨_, rfl⟩
 rw [hres]
 have hlen : r.length + 1 = n := HA.len
 have HRT : Hid (SI w .i64 (subA A 1 c) (n - 1) r) := by have := siDrop HA (a := 1) (c := c) (by omega) hcap; exact this
 have hsl := fun w => run_from (P := Tryz.prog) (t := 35) (e := 3) (n := n) (c := c) (A := A) (a := 1) (i := 1) Tryz.underlying35 szI rfl (by omega) w
 obtain ⟨kb0, ko, k', rfl, hk0, hkx, -⟩ := HA.cells (i := 0) (by omega)
 have hkk : k' = k := (Option.some.inj hkx.out).symm
 subst hkk
 rw [Nat.add_zero] at hk0
 have d0 : decide ((n : Int) < 1) = false := decide_eq_false (by omega)
 have d1 : decide (n < 1) = false := decide_eq_false (by omega)
 have n0 : (0 : Int) < n := by omega
 have nne : n ≠ 0 := by omega
 rw [formatB_cons] at hres
 obtain ⟨X, hX⟩ : ∃ x, subA (some ⟨kb0, ko, none⟩) 1 c = x := ⟨_, rfl⟩
 obtain ⟨m, hm⟩ : ∃ x, n - 1 = x := ⟨_, rfl⟩
 have HML : Hid (r.length = m) := by show _ = _; omega
 rw [hX, hm] at hsl HRT
 clear HA hkx hX hm hcap hlen
 by_cases h1 : k' = 1
 ·have e1 : (k' == 1) = true := beq_iff_eq.2 h1
  rw [if_pos h1] at hres
  have HE : Hid (res = fitM [(1, 6), (1, 65535)] r) := hres.symm
  clear hres h1
  have HSL : Hid (SI _ .i64 _ 4 (flatB [(1, 6), (1, 65535)])) := Ard.SI.lit w [1, 6, 1, 65535] 3 (by decide)
  have HBL : Hid (Below w.heap.size w (w.alloc (.cells ([1, 6, 1, 65535].map (Value.int .i64)).toArray 3))) := (Below.refl _ w).alloc (Nat.le_refl _) _
  have HF := Lib.hid (within_any (c := c - 1) (c2 := 4) (w.alloc (.cells ([1, 6, 1, 65535].map (Value.int .i64)).toArray 3)) (HRT.out.below HBL.out (Nat.le_refl _)) HSL.out)
  rw [HE.out]
  cases hfit : fitM [(1, 6), (1, 65535)] r
  ·rw [hfit] at HF
   clear hfit HE
   go_enter Tryz.func51, Tryz.ntmps51
   go_wp2_with (first | (go_at_call 52; refine HF.out.mono ?_; rintro e w4 ⟨rfl, rfl⟩) | fail)
   exact bodyPost_panic ⟨HBL.out, rfl⟩
  ·rw [hfit] at HF
   clear hfit HE
   go_enter Tryz.func51, Tryz.ntmps51
   go_wp2_with (first | (go_at_call 52; refine HF.out.mono ?_; rintro e w4 ⟨rfl, rfl⟩) | fail)
   go_end0
   exact ⟨HBL.out, rfl⟩
 ·have e1 : (k' == 1) = false := beq_eq_false_iff_ne.2 h1
  rw [if_neg h1] at hres
  clear h1
  by_cases h2 : k' = 2
  ·have e2 : (k' == 2) = true := beq_iff_eq.2 h2
   rw [if_pos h2] at hres
   have HE : Hid (res = fitM [(0, 1)] r) := hres.symm
   clear hres h2
   have HSL : Hid (SI _ .i64 _ 2 (flatB [(0, 1)])) := Ard.SI.lit w [0, 1] 3 (by decide)
   have HBL : Hid (Below w.heap.size w (w.alloc (.cells ([0, 1].map (Value.int .i64)).toArray 3))) := (Below.refl _ w).alloc (Nat.le_refl _) _
   have HF := Lib.hid (within_any (c := c - 1) (c2 := 2) (w.alloc (.cells ([0, 1].map (Value.int .i64)).toArray 3)) (HRT.out.below HBL.out (Nat.le_refl _)) HSL.out)
   rw [HE.out]
   cases hfit : fitM [(0, 1)] r
   ·rw [hfit] at HF
    clear hfit HE
    go_enter Tryz.func51, Tryz.ntmps51
    go_wp2_with (first | (go_at_call 52; refine HF.out.mono ?_; rintro e w4 ⟨rfl, rfl⟩) | fail)
    exact bodyPost_panic ⟨HBL.out, rfl⟩
   ·rw [hfit] at HF
    clear hfit HE
    go_enter Tryz.func51, Tryz.ntmps51
    go_wp2_with (first | (go_at_call 52; refine HF.out.mono ?_; rintro e w4 ⟨rfl, rfl⟩) | fail)
    go_end0
    exact ⟨HBL.out, rfl⟩
  ·have e2 : (k' == 2) = false := beq_eq_false_iff_ne.2 h2
   rw [if_neg h2] at hres
   clear h2
   by_cases h3 : k' = 3
   ·have e3 : (k' == 3) = true := beq_iff_eq.2 h3
    rw [if_pos h3] at hres
    obtain ⟨W1, hW1⟩ : ∃ x, w.alloc (.cells #[.int .i64 0, .int .i64 6, .int .i64 8, .int .i64 16] 3) = x := ⟨_, rfl⟩
    have HSL : Hid (SI W1 .i64 (some ⟨w.heap.size, 0, none⟩) 4 (flatB [(0, 6), (8, 16)])) := by show SI _ _ _ _ _; rw [← hW1]; exact Ard.SI.lit w [0, 6, 8, 16] 3 (by decide)
    have HBL : Hid (Below w.heap.size w W1) := by show Below _ _ _; rw [← hW1]; exact (Below.refl _ w).alloc (Nat.le_refl _) _
    have HF := Lib.hid (within_any (c := c - 1) (c2 := 4) W1 (HRT.out.below HBL.out (Nat.le_refl _)) HSL.out)
    clear h3
    cases hfit : fitM [(0, 6), (8, 16)] r
    ·rw [hfit] at HF hres
     have HE : Hid (res = false) := hres.symm
     rw [HE.out]
     clear hfit HE hres
     go_enter Tryz.func51, Tryz.ntmps51
     go_wp2_with (first | (go_at_call 52; refine HF.out.mono ?_; rintro e w4 ⟨rfl, rfl⟩) | fail)
     exact bodyPost_panic ⟨HBL.out, rfl⟩
    ·obtain ⟨x, y, rfl, hx0, hx1⟩ := fit2c hfit
     rw [hfit] at HF hres
     have HE : Hid (res = ([0, 2, 4, 6].contains x && [8, 16].contains y)) := by show _ = _; rw [← hres]; rfl
     obtain rfl : m = 2 := HML.out.symm
     obtain ⟨xb, xo, x', rfl, hc0, hxx, -⟩ := HRT.out.cells (i := 0) (by omega)
     obtain ⟨yb, yo, y', ee, hc1, hyy, -⟩ := HRT.out.cells (i := 1) (by omega)
     injection ee with ee
     injection ee with ee1 ee2
     subst ee1 ee2
     obtain rfl : x = x' := Option.some.inj hxx.out
     obtain rfl : y = y' := Option.some.inj hyy.out
     rw [Nat.add_zero] at hc0
     have hbx : xb < w.heap.size := World.block_lt_of_cell? w _ hc0
     have a0 : W1.cell? ⟨xb, xo, none⟩ = some (.int .i64 x) := (HBL.out.cell (p := ⟨xb, xo, none⟩) hbx).trans hc0
     have a1 : W1.cell? ⟨xb, xo + 1, none⟩ = some (.int .i64 y) := (HBL.out.cell (p := ⟨xb, xo + 1, none⟩) hbx).trans hc1
     clear hfit hres hxx hyy
   
     have HY := Lib.hid (must_yes W1)
     have HX := Lib.hid (must_no W1)
     have HD := Lib.hid (deep_any y W1)
     have h7 : x = 0 ∨ x = 1 ∨ x = 2 ∨ x = 3 ∨ x = 4 ∨ x = 5 ∨ x = 6 := by omega
     clear hx0 hx1 hc0 hc1
     obtain ⟨D, hD⟩ : ∃ d, ([8, 16] : List Int).contains y = d := ⟨_, rfl⟩
     rw [hD] at HD HE
     clear hD
     rcases h7 with rfl | rfl | rfl | rfl | rfl | rfl | rfl
     ·rw [HE.out]
      cases D
      ·go_enter Tryz.func51, Tryz.ntmps51
       go_wp2_with (first | (go_at_call 52; refine HF.out.mono ?_; rintro e w4 ⟨rfl, rfl⟩) | (go_at_call 45; refine HY.out.mono ?_; rintro e w' ⟨rfl, rfl⟩) | (go_at_call 73; refine HD.out.mono ?_; rintro e w' ⟨rfl, rfl⟩) | fail)
       exact bodyPost_panic ⟨HBL.out, rfl⟩
      ·go_enter Tryz.func51, Tryz.ntmps51
       go_wp2_with (first | (go_at_call 52; refine HF.out.mono ?_; rintro e w4 ⟨rfl, rfl⟩) | (go_at_call 45; refine HY.out.mono ?_; rintro e w' ⟨rfl, rfl⟩) | (go_at_call 73; refine HD.out.mono ?_; rintro e w' ⟨rfl, rfl⟩) | fail)
       go_end0
       exact ⟨HBL.out, rfl⟩
     ·rw [HE.out]
      go_enter Tryz.func51, Tryz.ntmps51
      go_wp2_with (first | (go_at_call 52; refine HF.out.mono ?_; rintro e w4 ⟨rfl, rfl⟩) | (go_at_call 45; refine HX.out.mono ?_; rintro e w' ⟨rfl, rfl⟩) | fail)
      exact bodyPost_panic ⟨HBL.out, by cases D <;> rfl⟩
     ·rw [HE.out]
      cases D
      ·go_enter Tryz.func51, Tryz.ntmps51
       go_wp2_with (first | (go_at_call 52; refine HF.out.mono ?_; rintro e w4 ⟨rfl, rfl⟩) | (go_at_call 45; refine HY.out.mono ?_; rintro e w' ⟨rfl, rfl⟩) | (go_at_call 73; refine HD.out.mono ?_; rintro e w' ⟨rfl, rfl⟩) | fail)
       exact bodyPost_panic ⟨HBL.out, rfl⟩
      ·go_enter Tryz.func51, Tryz.ntmps51
       go_wp2_with (first | (go_at_call 52; refine HF.out.mono ?_; rintro e w4 ⟨rfl, rfl⟩) | (go_at_call 45; refine HY.out.mono ?_; rintro e w' ⟨rfl, rfl⟩) | (go_at_call 73; refine HD.out.mono ?_; rintro e w' ⟨rfl, rfl⟩) | fail)
       go_end0
       exact ⟨HBL.out, rfl⟩
     ·rw [HE.out]
      go_enter Tryz.func51, Tryz.ntmps51
      go_wp2_with (first | (go_at_call 52; refine HF.out.mono ?_; rintro e w4 ⟨rfl, rfl⟩) | (go_at_call 45; refine HX.out.mono ?_; rintro e w' ⟨rfl, rfl⟩) | fail)
      exact bodyPost_panic ⟨HBL.out, by cases D <;> rfl⟩
     ·rw [HE.out]
      cases D
      ·go_enter Tryz.func51, Tryz.ntmps51
       go_wp2_with (first | (go_at_call 52; refine HF.out.mono ?_; rintro e w4 ⟨rfl, rfl⟩) | (go_at_call 45; refine HY.out.mono ?_; rintro e w' ⟨rfl, rfl⟩) | (go_at_call 73; refine HD.out.mono ?_; rintro e w' ⟨rfl, rfl⟩) | fail)
       exact bodyPost_panic ⟨HBL.out, rfl⟩
      ·go_enter Tryz.func51, Tryz.ntmps51
       go_wp2_with (first | (go_at_call 52; refine HF.out.mono ?_; rintro e w4 ⟨rfl, rfl⟩) | (go_at_call 45; refine HY.out.mono ?_; rintro e w' ⟨rfl, rfl⟩) | (go_at_call 73; refine HD.out.mono ?_; rintro e w' ⟨rfl, rfl⟩) | fail)
       go_end0
       exact ⟨HBL.out, rfl⟩
     ·rw [HE.out]
      go_enter Tryz.func51, Tryz.ntmps51
      go_wp2_with (first | (go_at_call 52; refine HF.out.mono ?_; rintro e w4 ⟨rfl, rfl⟩) | (go_at_call 45; refine HX.out.mono ?_; rintro e w' ⟨rfl, rfl⟩) | fail)
      exact bodyPost_panic ⟨HBL.out, by cases D <;> rfl⟩
     ·rw [HE.out]
      cases D
      ·go_enter Tryz.func51, Tryz.ntmps51
       go_wp2_with (first | (go_at_call 52; refine HF.out.mono ?_; rintro e w4 ⟨rfl, rfl⟩) | (go_at_call 45; refine HY.out.mono ?_; rintro e w' ⟨rfl, rfl⟩) | (go_at_call 73; refine HD.out.mono ?_; rintro e w' ⟨rfl, rfl⟩) | fail)
       exact bodyPost_panic ⟨HBL.out, rfl⟩
      ·go_enter Tryz.func51, Tryz.ntmps51
       go_wp2_with (first | (go_at_call 52; refine HF.out.mono ?_; rintro e w4 ⟨rfl, rfl⟩) | (go_at_call 45; refine HY.out.mono ?_; rintro e w' ⟨rfl, rfl⟩) | (go_at_call 73; refine HD.out.mono ?_; rintro e w' ⟨rfl, rfl⟩) | fail)
       go_end0
       exact ⟨HBL.out, rfl⟩
   ·have e3 : (k' == 3) = false := beq_eq_false_iff_ne.2 h3
    rw [if_neg h3] at hres
    clear h3
    by_cases h4 : k' = 4
    ·have e4 : (k' == 4) = true := beq_iff_eq.2 h4
     rw [if_pos h4] at hres
     have HE : Hid (res = fitM [] r) := by show _ = _; rw [← hres]; cases r <;> rfl
     clear hres h4
     have HF := Lib.hid (within_any (c := c - 1) (c2 := 0) (bs := []) w HRT.out (SI.nil w))
     rw [HE.out]
     cases hfit : fitM [] r
     ·rw [hfit] at HF
      clear hfit HE
      go_enter Tryz.func51, Tryz.ntmps51
      go_wp2_with (first | (go_at_call 52; refine HF.out.mono ?_; rintro e w4 ⟨rfl, rfl⟩) | fail)
      exact bodyPost_panic ⟨Below.refl _ _, rfl⟩
     ·rw [hfit] at HF
      clear hfit HE
      go_enter Tryz.func51, Tryz.ntmps51
      go_wp2_with (first | (go_at_call 52; refine HF.out.mono ?_; rintro e w4 ⟨rfl, rfl⟩) | fail)
      go_end0
      exact ⟨Below.refl _ _, rfl⟩
    ·have e4 : (k' == 4) = false := beq_eq_false_iff_ne.2 h4
     rw [if_neg h4] at hres
     clear h4
     by_cases h5 : k' = 5
     ·have e5 : (k' == 5) = true := beq_iff_eq.2 h5
      rw [if_pos h5] at hres
      obtain ⟨W1, hW1⟩ : ∃ x, w.alloc (.cells #[.int .i64 1, .int .i64 32773, .int .i64 8, .int .i64 16] 3) = x := ⟨_, rfl⟩
      have HSL : Hid (SI W1 .i64 (some ⟨w.heap.size, 0, none⟩) 4 (flatB [(1, 32773), (8, 16)])) := by show SI _ _ _ _ _; rw [← hW1]; exact Ard.SI.lit w [1, 32773, 8, 16] 3 (by decide)
      have HBL : Hid (Below w.heap.size w W1) := by show Below _ _ _; rw [← hW1]; exact (Below.refl _ w).alloc (Nat.le_refl _) _
      have HF := Lib.hid (within_any (c := c - 1) (c2 := 4) W1 (HRT.out.below HBL.out (Nat.le_refl _)) HSL.out)
      clear h5
      cases hfit : fitM [(1, 32773), (8, 16)] r
      ·rw [hfit] at HF hres
       have HE : Hid (res = false) := hres.symm
       rw [HE.out]
       clear hfit HE hres
       go_enter Tryz.func51, Tryz.ntmps51
       go_wp2_with (first | (go_at_call 52; refine HF.out.mono ?_; rintro e w4 ⟨rfl, rfl⟩) | fail)
       exact bodyPost_panic ⟨HBL.out, rfl⟩
      ·obtain ⟨x, y, rfl, hx0, hx1⟩ := fit2c hfit
       rw [hfit] at HF hres
       have HE : Hid (res = ([1, 5, 8, 32773].contains x && [8, 16].contains y)) := by show _ = _; rw [← hres]; rfl
       obtain rfl : m = 2 := HML.out.symm
       obtain ⟨xb, xo, x', rfl, hc0, hxx, -⟩ := HRT.out.cells (i := 0) (by omega)
       obtain ⟨yb, yo, y', ee, hc1, hyy, -⟩ := HRT.out.cells (i := 1) (by omega)
       injection ee with ee
       injection ee with ee1 ee2
       subst ee1 ee2
       obtain rfl : x = x' := Option.some.inj hxx.out
       obtain rfl : y = y' := Option.some.inj hyy.out
       rw [Nat.add_zero] at hc0
       have hbx : xb < w.heap.size := World.block_lt_of_cell? w _ hc0
       have a0 : W1.cell? ⟨xb, xo, none⟩ = some (.int .i64 x) := (HBL.out.cell (p := ⟨xb, xo, none⟩) hbx).trans hc0
       have a1 : W1.cell? ⟨xb, xo + 1, none⟩ = some (.int .i64 y) := (HBL.out.cell (p := ⟨xb, xo + 1, none⟩) hbx).trans hc1
       clear hfit hres hxx hyy
     
       obtain ⟨W2, hW2⟩ : ∃ x, W1.alloc (.cells #[.int .i64 1, .int .i64 5, .int .i64 8, .int .i64 32773] 3) = x := ⟨_, rfl⟩
       have HSL2 : Hid (SI W2 .i64 (some ⟨W1.heap.size, 0, none⟩) 4 [1, 5, 8, 32773]) := by show SI _ _ _ _ _; rw [← hW2]; exact Ard.SI.lit W1 [1, 5, 8, 32773] 3 (by decide)
       have HBL2 : Hid (Below w.heap.size w W2) := by show Below _ _ _; rw [← hW2]; exact HBL.out.alloc HBL.out.size _
       have HC := Lib.hid (Scs.slices_Contains_int _ _ 4 4 [1, 5, 8, 32773] x W2 (by decide) (by decide) (SI.all HSL2.out))
       have HY := Lib.hid (must_yes W2)
       have HX := Lib.hid (must_no W2)
       have HD := Lib.hid (deep_any y W2)
       have b0 : W2.cell? ⟨xb, xo, none⟩ = some (.int .i64 x) := (HBL2.out.cell (p := ⟨xb, xo, none⟩) hbx).trans hc0
       have b1 : W2.cell? ⟨xb, xo + 1, none⟩ = some (.int .i64 y) := (HBL2.out.cell (p := ⟨xb, xo + 1, none⟩) hbx).trans hc1
       clear hx0 hx1 hc0 hc1
       obtain ⟨D, hD⟩ : ∃ d, ([8, 16] : List Int).contains y = d := ⟨_, rfl⟩
       rw [hD] at HD HE
       clear hD
       rw [show (([1, 5, 8, 32773] : List Int).take 4) = [1, 5, 8, 32773] from rfl] at HC
       obtain ⟨E, hE⟩ : ∃ d, ([1, 5, 8, 32773] : List Int).contains x = d := ⟨_, rfl⟩
       rw [hE] at HC HE
       clear hE
       rw [HE.out]
       cases E
       ·go_enter Tryz.func51, Tryz.ntmps51
        go_wp2_with (first | (go_at_call 52; refine HF.out.mono ?_; rintro e w4 ⟨rfl, rfl⟩) | (go_at_call 74; refine HC.out.mono ?_; rintro e w4 ⟨rfl, rfl⟩) | (go_at_call 45; refine HX.out.mono ?_; rintro e w' ⟨rfl, rfl⟩) | fail)
        exact bodyPost_panic ⟨HBL2.out, rfl⟩
       ·cases D
        ·go_enter Tryz.func51, Tryz.ntmps51
         go_wp2_with (first | (go_at_call 52; refine HF.out.mono ?_; rintro e w4 ⟨rfl, rfl⟩) | (go_at_call 74; refine HC.out.mono ?_; rintro e w4 ⟨rfl, rfl⟩) | (go_at_call 45; refine HY.out.mono ?_; rintro e w' ⟨rfl, rfl⟩) | (go_at_call 73; refine HD.out.mono ?_; rintro e w' ⟨rfl, rfl⟩) | fail)
         exact bodyPost_panic ⟨HBL2.out, rfl⟩
        ·go_enter Tryz.func51, Tryz.ntmps51
         go_wp2_with (first | (go_at_call 52; refine HF.out.mono ?_; rintro e w4 ⟨rfl, rfl⟩) | (go_at_call 74; refine HC.out.mono ?_; rintro e w4 ⟨rfl, rfl⟩) | (go_at_call 45; refine HY.out.mono ?_; rintro e w' ⟨rfl, rfl⟩) | (go_at_call 73; refine HD.out.mono ?_; rintro e w' ⟨rfl, rfl⟩) | fail)
         go_end0
         exact ⟨HBL2.out, rfl⟩
     ·have e5 : (k' == 5) = false := beq_eq_false_iff_ne.2 h5
      rw [if_neg h5] at hres
      clear h5
      by_cases h6 : k' = 6
      ·have e6 : (k' == 6) = true := beq_iff_eq.2 h6
       rw [if_pos h6] at hres
       have HE : Hid (res = fitM [(1, 100), (0, 2)] r) := hres.symm
       clear hres h6
       have HSL : Hid (SI _ .i64 _ 4 (flatB [(1, 100), (0, 2)])) := Ard.SI.lit w [1, 100, 0, 2] 3 (by decide)
       have HBL : Hid (Below w.heap.size w (w.alloc (.cells ([1, 100, 0, 2].map (Value.int .i64)).toArray 3))) := (Below.refl _ w).alloc (Nat.le_refl _) _
       have HF := Lib.hid (within_any (c := c - 1) (c2 := 4) (w.alloc (.cells ([1, 100, 0, 2].map (Value.int .i64)).toArray 3)) (HRT.out.below HBL.out (Nat.le_refl _)) HSL.out)
       rw [HE.out]
       cases hfit : fitM [(1, 100), (0, 2)] r
       ·rw [hfit] at HF
        clear hfit HE
        go_enter Tryz.func51, Tryz.ntmps51
        go_wp2_with (first | (go_at_call 52; refine HF.out.mono ?_; rintro e w4 ⟨rfl, rfl⟩) | fail)
        exact bodyPost_panic ⟨HBL.out, rfl⟩
       ·rw [hfit] at HF
        clear hfit HE
        go_enter Tryz.func51, Tryz.ntmps51
        go_wp2_with (first | (go_at_call 52; refine HF.out.mono ?_; rintro e w4 ⟨rfl, rfl⟩) | fail)
        go_end0
        exact ⟨HBL.out, rfl⟩
      ·have e6 : (k' == 6) = false := beq_eq_false_iff_ne.2 h6
       rw [if_neg h6] at hres
       clear h6
       have HE : Hid (res = false) := hres.symm
       rw [HE.out]
       clear hres
       go_enter Tryz.func51, Tryz.ntmps51
       go_wp2_with fail
       exact bodyPost_panic ⟨Below.refl _ _, rfl⟩
end Go.Proofs.YtoofgblmpjndjaaGreatDoor.Scr
