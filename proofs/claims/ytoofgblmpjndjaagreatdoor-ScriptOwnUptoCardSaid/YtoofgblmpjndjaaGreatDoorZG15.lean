/-
  Texts of this claim, joined by program (StpD, StpE, StpF). Walks: the program's step: 'write'. (Printed by gen_step.py.)
-/
import Derived.Test.YtoofgblmpjndjaaGreatDoorZG13
import Derived.Test.YtoofgblmpjndjaaGreatDoorZG14
import Derived.Test.YtoofgblmpjndjaaGreatDoorZG10
import Derived.Test.YtoofgblmpjndjaaGreatDoorZG7
set_option linter.unusedVariables false
set_option linter.unusedSimpArgs false
namespace Go.Proofs.YtoofgblmpjndjaaGreatDoor.Scr
open Go.RowKit K Go.Lib

theorem own_shape {w : World} {base : Nat} {e : TypeId} {size : Nat} {v : Value} {n : Nat} {xs : List Value} (h : w.ownsRow base e size v n xs) : ∃ A c, v = .slice A n c ∧ n ≤ c := by
 rcases h.2 with ⟨rfl, rfl⟩ | ⟨g, cap, cur, rfl, -, -, h2, -⟩
 ·exact ⟨none, 0, rfl, Nat.le_refl _⟩
 ·exact ⟨_, _, rfl, h2⟩
theorem fmtN_le (t : Tx) : 0 ≤ fmtN t ∧ fmtN t ≤ 6 := by
 by_cases h : t ∈ fmtsM
 ·have h2 := h
  simp only [fmtsM, List.mem_cons, List.not_mem_nil, or_false] at h2
  rcases h2 with rfl | rfl | rfl | rfl | rfl | rfl <;> decide
 ·unfold fmtN
  rw [if_neg h]
  decide
set_option maxRecDepth 20000 in
set_option maxHeartbeats 8000000 in
theorem step_write {A : Option Addr} {n c : Nat} {l : List Tx} (w : World) (H : SS w A n l) (hn : 1 ≤ n) (hcap : n ≤ c) (h0 : l.getD 0 [] = writeT) :
  Calls Tryz.prog 23 #[.slice A n c] w (StepP w (stepM l)) := by
 have hmf : ∀ (fn : Fn) (first cap : Array Value) (w : World), (Instr.makeFunc fn first cap).run Tryz.prog w = .ok (.func fn first cap) w := fun _ _ _ _ => rfl
 have HS := Lib.hid H
 have HLN := Lib.hid H.len
 have HCAP := Lib.hid hcap
 have HNS := Lib.hid H.sz
 have H0 := Lib.hid h0
 obtain ⟨r, hr0⟩ : ∃ r, stepM l = r := ⟨_, rfl⟩
 rw [hr0]
 have HR := Lib.hid hr0
 obtain ⟨W, hW, hq⟩ := SQ.named w
 obtain ⟨b0, o0, t0, rfl, hc0, ht0, hb0⟩ := H.cell (i := 0) (by omega)
 have HB0 := Lib.hid hb0
 rw [Nat.add_zero] at hc0
 have htr : writeT = t0 := by rw [← h0, List.getD_eq_getElem?_getD, ht0]; rfl
 subst htr
 have hc0 := (hq.bel.cell (p := ⟨b0, o0, none⟩) hb0).trans hc0
 have c1 : W.cell? ⟨w.heap.size, 1, none⟩ = some (.string ⟨#[]⟩) := hq.cells.1.1
 have f1 := hq.cells.2.1 1
 have n0 : (0 : Int) < n := by omega
 have n1 : 0 < n := hn
 have n2 : n ≠ 0 := by omega
 obtain ⟨W1, hW1, hq1⟩ : ∃ W1, W.setCell ⟨w.heap.size, 1, none⟩ (.string (ba writeT)) = W1 ∧ SQ w W1 (ba writeT) ⟨#[]⟩ none 0 0 ⟨#[]⟩ none 0 0 := ⟨_, rfl, hq.setOp _⟩
 have d1 := hq1.cells.1.1
 have r0 : ((ba writeT).toList == [114, 101, 97, 100]) = false := by rw [tl_ba]; rfl
 have r1 : ((ba writeT).toList == [119, 114, 105, 116, 101]) = true := by rw [tl_ba]; rfl
 obtain ⟨zr, hzr⟩ : ∃ z, ba writeT = z := ⟨_, rfl⟩
 have HZR := Lib.hid hzr
 rw [hzr] at hc0 hW1 d1 hq1 r0 r1
 have HQ1 := Lib.hid hq1
 clear H hq ht0 h0 hq1 hzr hr0 hcap hb0
 go_enter_defers Tryz.func23, Tryz.ntmps23
 go_wp2_with fail
 have HX := Lib.hid (must_no W1)
 have HY := Lib.hid (must_yes W1)
 by_cases hm : ¬ (4 ≤ n)
 ·have t3 : decide ((4 : Int) ≤ (n : Int)) = false := decide_eq_false (by omega)
  have HE : Hid (r = none) := by show _ = _; rw [← HR.out]; rw [stepM_write H0.out, if_neg (fun h => hm (by rw [← HLN.out]; exact h.1))]
  rw [t3]
  clear hm
  refine HX.out.mono ?_
  rintro e w' ⟨rfl, rfl⟩
  go_wp2_with fail
  rw [HE.out]
  exact door_bad rfl rfl HQ1.out
 replace hm := Decidable.not_not.1 hm
 obtain ⟨b1', o1', t1, e1, hc1, ht1, -⟩ := HS.out.cell (i := 1) (by omega)
 injection e1 with e1
 injection e1 with ea1 eb1
 subst ea1 eb1
 have HG1 : Hid (l.getD 1 [] = t1) := by show _ = _; rw [List.getD_eq_getElem?_getD, ht1]; rfl
 obtain ⟨z1, hz1⟩ : ∃ z, ba t1 = z := ⟨_, rfl⟩
 have HZ1 := Lib.hid hz1
 rw [hz1] at hc1
 have HC1 := Lib.hid hc1
 have x1 := (HQ1.out.bel.cell (p := ⟨b0, o0 + 1, none⟩) HB0.out).trans hc1
 have i1 : (1 : Int) < n := by omega
 clear hc1 ht1 hz1
 obtain ⟨b2', o2', t2, e2, hc2, ht2, -⟩ := HS.out.cell (i := 2) (by omega)
 injection e2 with e2
 injection e2 with ea2 eb2
 subst ea2 eb2
 have HG2 : Hid (l.getD 2 [] = t2) := by show _ = _; rw [List.getD_eq_getElem?_getD, ht2]; rfl
 obtain ⟨z2, hz2⟩ : ∃ z, ba t2 = z := ⟨_, rfl⟩
 have HZ2 := Lib.hid hz2
 rw [hz2] at hc2
 have HC2 := Lib.hid hc2
 have x2 := (HQ1.out.bel.cell (p := ⟨b0, o0 + 2, none⟩) HB0.out).trans hc2
 have i2 : (2 : Int) < n := by omega
 clear hc2 ht2 hz2
 obtain ⟨b3', o3', t3, e3, hc3, ht3, -⟩ := HS.out.cell (i := 3) (by omega)
 injection e3 with e3
 injection e3 with ea3 eb3
 subst ea3 eb3
 have HG3 : Hid (l.getD 3 [] = t3) := by show _ = _; rw [List.getD_eq_getElem?_getD, ht3]; rfl
 obtain ⟨z3, hz3⟩ : ∃ z, ba t3 = z := ⟨_, rfl⟩
 have HZ3 := Lib.hid hz3
 rw [hz3] at hc3
 have HC3 := Lib.hid hc3
 have x3 := (HQ1.out.bel.cell (p := ⟨b0, o0 + 3, none⟩) HB0.out).trans hc3
 have i3 : (3 : Int) < n := by omega
 clear hc3 ht3 hz3
 have t3 : decide ((4 : Int) ≤ (n : Int)) = true := decide_eq_true (by omega)
 rw [t3]
 have hsl := fun w => run_from (P := Tryz.prog) (t := 34) (e := 9) (n := n) (c := c) (A := some ⟨b0, o0, none⟩) (a := 4) (i := 4) Tryz.underlying34 szS rfl (by omega) w
 have HSD := Lib.hid (ssDrop HS.out (a := 4) (c := c) (by omega) HCAP.out)
 obtain ⟨X, hX⟩ : ∃ x, subA (some ⟨b0, o0, none⟩) 4 c = x := ⟨_, rfl⟩
 obtain ⟨m, hm2⟩ : ∃ x, n - 4 = x := ⟨_, rfl⟩
 obtain ⟨cm, hcm⟩ : ∃ x, c - 4 = x := ⟨_, rfl⟩
 rw [hX, hm2, hcm] at hsl
 rw [hX, hm2] at HSD
 clear hX hm2 hcm
 obtain ⟨ra, hra⟩ : ∃ x, numsM (l.drop 4) = x := ⟨_, rfl⟩
 have HRA := Lib.hid hra
 have HNUMS : Hid (∀ V, Below w.heap.size w V → Calls Tryz.prog 50 #[.slice X m cm] V (NumbersP V ra)) := fun V hV => by rw [← hra]; exact numbers_any V (HSD.out.below hV) (fun t V2 _ => number_any V2)
 clear hra
 have HM := Lib.hid hm
 clear hm t3
 refine HY.out.mono ?_
 rintro e w' ⟨rfl, rfl⟩
 go_wp2_with fail
 have HN1 : Hid (∀ V, Calls Tryz.prog 46 #[.string z1] V (TextP V t1 (nameB t1))) := fun V => by rw [← HZ1.out]; exact name_made V
 have HN2 : Hid (∀ V, Calls Tryz.prog 47 #[.string z2] V (TextP V t2 (fileB t2))) := fun V => by rw [← HZ2.out]; exact file_made V
 refine wp_region_held_drew (S := fun V => V.cell? ⟨b0, o0 + 1, none⟩ = some (.string z1) ∧ V.cell? ⟨b0, o0 + 2, none⟩ = some (.string z2)) (by kernel_rfl) ⟨x1, x2⟩ (fun hHeld => ?_)
 obtain ⟨V0, hV0⟩ : ∃ x, W1.drew = x := ⟨_, rfl⟩
 have HQ := Lib.hid (HQ1.out.on (Below.refl _ _).drew)
 rw [hV0] at HQ hHeld ⊢
 clear hV0
 refine wpAnyH_take (i := 0) (v := .slice (some ⟨b0, o0, none⟩) n c) rfl (by kernel_rfl) (by kernel_rfl) (by kernel_rfl) (fun _ _ _ h => bodyD_put (by decide) (by decide) h) (Or.inl ⟨by rfl, ?_⟩) hHeld ?_
 ·intro wz hSw; obtain ⟨s1, s2⟩ := hSw; go_simp
 try simp only [Act.put, List.getElem_toArray, List.getElem_cons_succ, List.getElem_cons_zero, List.setIfInBounds_toArray, List.set_cons_zero, List.set_cons_succ]
 refine wpAnyH_take (i := 1) (v := .pointer (some ⟨b0, o0 + 1, none⟩)) rfl (by kernel_rfl) (by kernel_rfl) (by kernel_rfl) (fun _ _ _ h => bodyD_put (by decide) (by decide) h) (Or.inl ⟨by rfl, ?_⟩) hHeld ?_
 ·intro wz hSw; obtain ⟨s1, s2⟩ := hSw; go_simp
 try simp only [Act.put, List.getElem_toArray, List.getElem_cons_succ, List.getElem_cons_zero, List.setIfInBounds_toArray, List.set_cons_zero, List.set_cons_succ]
 refine wpAnyH_take (i := 2) (v := .string z1) rfl (by kernel_rfl) (by kernel_rfl) (by kernel_rfl) (fun _ _ _ h => bodyD_put (by decide) (by decide) h) (Or.inl ⟨by rfl, ?_⟩) hHeld ?_
 ·intro wz hSw; obtain ⟨s1, s2⟩ := hSw; go_simp
 try simp only [Act.put, List.getElem_toArray, List.getElem_cons_succ, List.getElem_cons_zero, List.setIfInBounds_toArray, List.set_cons_zero, List.set_cons_succ]
 refine wpAnyH_take (i := 5) (v := .slice (some ⟨b0, o0, none⟩) n c) rfl (by kernel_rfl) (by kernel_rfl) (by kernel_rfl) (fun _ _ _ h => bodyD_put (by decide) (by decide) h) (Or.inl ⟨by rfl, ?_⟩) hHeld ?_
 ·intro wz hSw; obtain ⟨s1, s2⟩ := hSw; go_simp
 try simp only [Act.put, List.getElem_toArray, List.getElem_cons_succ, List.getElem_cons_zero, List.setIfInBounds_toArray, List.set_cons_zero, List.set_cons_succ]
 refine wpAnyH_take (i := 6) (v := .pointer (some ⟨b0, o0 + 2, none⟩)) rfl (by kernel_rfl) (by kernel_rfl) (by kernel_rfl) (fun _ _ _ h => bodyD_put (by decide) (by decide) h) (Or.inl ⟨by rfl, ?_⟩) hHeld ?_
 ·intro wz hSw; obtain ⟨s1, s2⟩ := hSw; go_simp
 try simp only [Act.put, List.getElem_toArray, List.getElem_cons_succ, List.getElem_cons_zero, List.setIfInBounds_toArray, List.set_cons_zero, List.set_cons_succ]
 refine wpAnyH_take (i := 7) (v := .string z2) rfl (by kernel_rfl) (by kernel_rfl) (by kernel_rfl) (fun _ _ _ h => bodyD_put (by decide) (by decide) h) (Or.inl ⟨by rfl, ?_⟩) hHeld ?_
 ·intro wz hSw; obtain ⟨s1, s2⟩ := hSw; go_simp
 try simp only [Act.put, List.getElem_toArray, List.getElem_cons_succ, List.getElem_cons_zero, List.setIfInBounds_toArray, List.set_cons_zero, List.set_cons_succ]
 refine wpAnyH_ready (rs := [3]) (by kernel_rfl) (by simp) ?_
 refine AllReadyH.cons rfl (fun K hK => ?_) AllReadyH.nil
 go_simp
 refine (HN1.out _).mono ?_
 rintro e V1 ⟨hbv, he⟩
 have HQ := Lib.hid (HQ.out.on (hbv.mono (by have := HQ.out.lt; omega)))
 clear hbv
 by_cases hn1 : ¬ (nameB t1 = true)
 ·rw [if_neg hn1] at he
  subst he
  have HE : Hid (r = none) := by show _ = _; rw [← HR.out]; rw [stepM_write H0.out, if_neg (fun h => hn1 (by rw [← HG1.out]; exact h.2.1))]
  rw [HE.out]
  exact door_bad rfl rfl HQ.out
 replace hn1 := Decidable.not_not.1 hn1
 rw [if_pos hn1] at he
 rw [HZ1.out] at he
 subst he
 have HHN1 := Lib.hid hn1
 clear hn1
 refine hK.out _ _ ⟨(HQ.out.bel.cell (p := ⟨b0, o0 + 1, none⟩) HB0.out).trans HC1.out, (HQ.out.bel.cell (p := ⟨b0, o0 + 2, none⟩) HB0.out).trans HC2.out⟩ (fun hHeld => ?_)
 clear hK K
 try simp only [Act.put, List.getElem_toArray, List.getElem_cons_succ, List.getElem_cons_zero, List.setIfInBounds_toArray, List.set_cons_zero, List.set_cons_succ]
 refine wpAnyH_ready (rs := [4, 8]) (by kernel_rfl) (by simp) ?_
 refine AllReadyH.cons rfl (fun K hK => ?_) (AllReadyH.cons rfl (fun K hK => ?_) AllReadyH.nil)
 ·go_simp
  have hbase : w.heap.size + 2 ≤ V1.heap.size := by have := HQ.out.lt; omega
  obtain ⟨V2, hV⟩ : ∃ x, V1.alloc (.cells #[.string z1] 9) = x := ⟨_, rfl⟩
  have hown := own_lower (own_lit V1 [.string z1] 9 (by show 1 ≤ maxLen; decide)) hbase
  have hbv : Below V1.heap.size V1 V2 := by rw [← hV]; exact (Below.refl _ _).alloc (Nat.le_refl _) _
  have HQ := Lib.hid (HQ.out.on (hbv.mono hbase))
  obtain ⟨gs, hg⟩ : ∃ g, V1.heap.size = g := ⟨_, rfl⟩
  have HSRC : Hid (V2.ownsRow (w.heap.size + 2) 9 1 (.slice (some ⟨V1.heap.size, 0, none⟩) 1 1) 1 [.string z1]) := by rw [← hV]; exact hown
  rw [hg] at HSRC ⊢
  try rw [hV]
  clear hV hg hown hbase hbv
  refine hK.out _ _ ⟨(HQ.out.bel.cell (p := ⟨b0, o0 + 1, none⟩) HB0.out).trans HC1.out, (HQ.out.bel.cell (p := ⟨b0, o0 + 2, none⟩) HB0.out).trans HC2.out⟩ (fun hHeld => ?_)
  clear hK K
  try simp only [Act.put, List.getElem_toArray, List.getElem_cons_succ, List.getElem_cons_zero, List.setIfInBounds_toArray, List.set_cons_zero, List.set_cons_succ]
  refine wpAnyH_take (i := 9) (v := .pointer (some ⟨w.heap.size, 3, none⟩)) rfl (by kernel_rfl) (by kernel_rfl) (by kernel_rfl) (fun _ _ _ h => bodyD_put (by decide) (by decide) h) (Or.inl ⟨by rfl, ?_⟩) hHeld ?_
  ·intro wz hSw; obtain ⟨s1, s2⟩ := hSw; go_simp
  try simp only [Act.put, List.getElem_toArray, List.getElem_cons_succ, List.getElem_cons_zero, List.setIfInBounds_toArray, List.set_cons_zero, List.set_cons_succ]
  refine wpAnyH_ready (rs := [8]) (by kernel_rfl) (by simp) ?_
  refine AllReadyH.cons rfl (fun K hK => ?_) AllReadyH.nil
  go_simp
  refine (HN2.out _).mono ?_
  rintro e V3 ⟨hbv, he⟩
  have HQ := Lib.hid (HQ.out.on (hbv.mono (by have := HQ.out.lt; omega)))
  have HSRC := Lib.hid (own_below HSRC.out hbv)
  clear hbv
  by_cases hn2 : ¬ (fileB t2 = true)
  ·rw [if_neg hn2] at he
   subst he
   have HE : Hid (r = none) := by show _ = _; rw [← HR.out]; rw [stepM_write H0.out, if_neg (fun h => hn2 (by rw [← HG2.out]; exact h.2.2))]
   rw [HE.out]
   exact door_bad rfl rfl HQ.out
  replace hn2 := Decidable.not_not.1 hn2
  rw [if_pos hn2] at he
  rw [HZ2.out] at he
  subst he
  have HHN2 := Lib.hid hn2
  clear hn2
  refine hK.out _ _ ⟨(HQ.out.bel.cell (p := ⟨b0, o0 + 1, none⟩) HB0.out).trans HC1.out, (HQ.out.bel.cell (p := ⟨b0, o0 + 2, none⟩) HB0.out).trans HC2.out⟩ (fun hHeld => ?_)
  clear hK K
  try simp only [Act.put, List.getElem_toArray, List.getElem_cons_succ, List.getElem_cons_zero, List.setIfInBounds_toArray, List.set_cons_zero, List.set_cons_succ]
  refine wpAnyH_ready (rs := [10]) (by kernel_rfl) (by simp) ?_
  refine AllReadyH.cons rfl (fun K hK => ?_) AllReadyH.nil
  have yc := HQ.out.cells.1
  have yf := HQ.out.cells.2.1 3
  obtain ⟨y1, y2, y3, y4, y5, -⟩ := yc
  have HQ := Lib.hid (HQ.out.setSrcs (some ⟨gs, 0, none⟩) 1 1)
  obtain ⟨V4, hV⟩ : ∃ x, V3.setCell ⟨w.heap.size, 3, none⟩ (.slice (some ⟨gs, 0, none⟩) 1 1) = x := ⟨_, rfl⟩
  rw [hV] at HQ
  have HSRC := Lib.hid (ownsRow_setCell_below HSRC.out (a := ⟨w.heap.size, 3, none⟩) (by show w.heap.size < w.heap.size + 2; omega) (.slice (some ⟨gs, 0, none⟩) 1 1))
  rw [hV] at HSRC
  go_simp
  try rw [hV]
  clear hV y1 y2 y3 y4 y5 yf
  refine hK.out _ _ ⟨(HQ.out.bel.cell (p := ⟨b0, o0 + 1, none⟩) HB0.out).trans HC1.out, (HQ.out.bel.cell (p := ⟨b0, o0 + 2, none⟩) HB0.out).trans HC2.out⟩ (fun hHeld => ?_)
  clear hK K
  try simp only [Act.put, List.getElem_toArray, List.getElem_cons_succ, List.getElem_cons_zero, List.setIfInBounds_toArray, List.set_cons_zero, List.set_cons_succ]
  refine wpAnyH_take (i := 11) (v := .pointer (some ⟨w.heap.size, 4, none⟩)) rfl (by kernel_rfl) (by kernel_rfl) (by kernel_rfl) (fun _ _ _ h => bodyD_put (by decide) (by decide) h) (Or.inl ⟨by rfl, ?_⟩) hHeld ?_
  ·intro wz hSw; obtain ⟨s1, s2⟩ := hSw; go_simp
  try simp only [Act.put, List.getElem_toArray, List.getElem_cons_succ, List.getElem_cons_zero, List.setIfInBounds_toArray, List.set_cons_zero, List.set_cons_succ]
  refine wpAnyH_ready (rs := [12]) (by kernel_rfl) (by simp) ?_
  refine AllReadyH.cons rfl (fun K hK => ?_) AllReadyH.nil
  have yc := HQ.out.cells.1
  have yf := HQ.out.cells.2.1 4
  obtain ⟨y1, y2, y3, y4, y5, -⟩ := yc
  have HQ := Lib.hid (HQ.out.setFile z2)
  obtain ⟨V5, hV⟩ : ∃ x, V4.setCell ⟨w.heap.size, 4, none⟩ (.string z2) = x := ⟨_, rfl⟩
  rw [hV] at HQ
  have HSRC := Lib.hid (ownsRow_setCell_below HSRC.out (a := ⟨w.heap.size, 4, none⟩) (by show w.heap.size < w.heap.size + 2; omega) (.string z2))
  rw [hV] at HSRC
  go_simp
  try rw [hV]
  clear hV y1 y2 y3 y4 y5 yf
  refine hK.out _ _ ⟨(HQ.out.bel.cell (p := ⟨b0, o0 + 1, none⟩) HB0.out).trans HC1.out, (HQ.out.bel.cell (p := ⟨b0, o0 + 2, none⟩) HB0.out).trans HC2.out⟩ (fun hHeld => ?_)
  clear hK K
  try simp only [Act.put, List.getElem_toArray, List.getElem_cons_succ, List.getElem_cons_zero, List.setIfInBounds_toArray, List.set_cons_zero, List.set_cons_succ]
  refine wpAnyH_done (by kernel_rfl) ?_ _
  go_wp2_with fail
  obtain ⟨KF, hKF⟩ : ∃ k, fmtN t3 = k := ⟨_, rfl⟩
  have HKFN := Lib.hid hKF
  obtain ⟨IX, hIX⟩ : ∃ k, Lib.idxOfS (fmtsM.map ba) z3 = k := ⟨_, rfl⟩
  have HIX := Lib.hid hIX
  have hix : IX + 1 = KF := by rw [← hIX, ← hKF, ← HZ3.out]; exact idx_fmt t3
  have hkf := fmtN_le t3
  rw [hKF] at hkf
  have HKB := Lib.hid hkf
  have w1 : wrap64 (IX + 1) = KF := by rw [hix, IntWalk.wrap64_in _ (by omega)]
  have w2 : IntKind.i64.wrap (IX + 1) = KF := by rw [hix, IntKind.wrap_i64]; omega
  clear hIX hKF hix hkf
  refine wp_region_held_drew (S := fun V => V.cell? ⟨b0, o0 + 3, none⟩ = some (.string z3)) (by kernel_rfl) ((HQ.out.bel.cell (p := ⟨b0, o0 + 3, none⟩) HB0.out).trans HC3.out) (fun hHeld => ?_)
  obtain ⟨VD, hVD⟩ : ∃ x, V5.drew = x := ⟨_, rfl⟩
  have HQ := Lib.hid (HQ.out.on ((Below.refl _ _).drew))
  have HSRC := Lib.hid (own_below HSRC.out (Below.refl _ _).drew)
  rw [hVD] at HQ HSRC hHeld ⊢
  clear hVD
  refine wpAnyH_take (i := 1) (v := .slice (some ⟨b0, o0, none⟩) n c) rfl (by kernel_rfl) (by kernel_rfl) (by kernel_rfl) (fun _ _ _ h => bodyD_put (by decide) (by decide) h) (Or.inl ⟨by rfl, ?_⟩) hHeld ?_
  ·intro wz hSw; obtain s3 := hSw; go_simp
  try simp only [Act.put, List.getElem_toArray, List.getElem_cons_succ, List.getElem_cons_zero, List.setIfInBounds_toArray, List.set_cons_zero, List.set_cons_succ]
  refine wpAnyH_take (i := 2) (v := .pointer (some ⟨b0, o0 + 3, none⟩)) rfl (by kernel_rfl) (by kernel_rfl) (by kernel_rfl) (fun _ _ _ h => bodyD_put (by decide) (by decide) h) (Or.inl ⟨by rfl, ?_⟩) hHeld ?_
  ·intro wz hSw; obtain s3 := hSw; go_simp
  try simp only [Act.put, List.getElem_toArray, List.getElem_cons_succ, List.getElem_cons_zero, List.setIfInBounds_toArray, List.set_cons_zero, List.set_cons_succ]
  refine wpAnyH_take (i := 3) (v := .string z3) rfl (by kernel_rfl) (by kernel_rfl) (by kernel_rfl) (fun _ _ _ h => bodyD_put (by decide) (by decide) h) (Or.inl ⟨by rfl, ?_⟩) hHeld ?_
  ·intro wz hSw; obtain s3 := hSw; go_simp
  try simp only [Act.put, List.getElem_toArray, List.getElem_cons_succ, List.getElem_cons_zero, List.setIfInBounds_toArray, List.set_cons_zero, List.set_cons_succ]
  refine wpAnyH_take (i := 7) (v := .slice (some ⟨b0, o0, none⟩) n c) rfl (by kernel_rfl) (by kernel_rfl) (by kernel_rfl) (fun _ _ _ h => bodyD_put (by decide) (by decide) h) (Or.inl ⟨by rfl, ?_⟩) hHeld ?_
  ·intro wz hSw; obtain s3 := hSw; go_simp
  try simp only [Act.put, List.getElem_toArray, List.getElem_cons_succ, List.getElem_cons_zero, List.setIfInBounds_toArray, List.set_cons_zero, List.set_cons_succ]
  refine wpAnyH_take (i := 8) (v := .slice X m cm) rfl (by kernel_rfl) (by kernel_rfl) (by kernel_rfl) (fun _ _ _ h => bodyD_put (by decide) (by decide) h) (Or.inl ⟨by rfl, ?_⟩) hHeld ?_
  ·intro wz hSw; obtain s3 := hSw; go_simp
  try simp only [Act.put, List.getElem_toArray, List.getElem_cons_succ, List.getElem_cons_zero, List.setIfInBounds_toArray, List.set_cons_zero, List.set_cons_succ]
  refine wpAnyH_ready (rs := [0]) (by kernel_rfl) (by simp) ?_
  refine AllReadyH.cons rfl (fun K hK => ?_) AllReadyH.nil
  go_simp
  refine (formats_at _).mono ?_
  rintro e V101 ⟨gf, rfl, -, hss, hbv⟩
  have HSF := Lib.hid hss
  have HQ := Lib.hid (HQ.out.on (hbv.mono (by have := HQ.out.lt; omega)))
  have HSRC := Lib.hid (own_below HSRC.out hbv)
  clear hbv hss
  refine hK.out _ _ ((HQ.out.bel.cell (p := ⟨b0, o0 + 3, none⟩) HB0.out).trans HC3.out) (fun hHeld => ?_)
  clear hK K
  try simp only [Act.put, List.getElem_toArray, List.getElem_cons_succ, List.getElem_cons_zero, List.setIfInBounds_toArray, List.set_cons_zero, List.set_cons_succ]
  refine wpAnyH_ready (rs := [4]) (by kernel_rfl) (by simp) ?_
  refine AllReadyH.cons rfl (fun K hK => ?_) AllReadyH.nil
  go_simp
  have hall : ∀ j, j < (fmtsM.map ba).length → V101.cell? ⟨gf, 0 + j, none⟩ = some (.string ((fmtsM.map ba).getD j ByteArray.empty)) := HSF.out.all
  refine (Scs.slices_Index_string gf 0 6 6 (fmtsM.map ba) z3 _ (by decide) (by decide) hall).mono ?_
  rintro e V' ⟨rfl, hw⟩
  rw [hw]
  clear hw V'
  have htk : (fmtsM.map ba).take 6 = fmtsM.map ba := rfl
  rw [htk, HIX.out]
  clear htk hall HSF
  refine hK.out _ _ ((HQ.out.bel.cell (p := ⟨b0, o0 + 3, none⟩) HB0.out).trans HC3.out) (fun hHeld => ?_)
  clear hK K
  try simp only [Act.put, List.getElem_toArray, List.getElem_cons_succ, List.getElem_cons_zero, List.setIfInBounds_toArray, List.set_cons_zero, List.set_cons_succ]
  refine wpAnyH_take (i := 5) (v := .int .i64 KF) rfl (by kernel_rfl) (by kernel_rfl) (by kernel_rfl) (fun _ _ _ h => bodyD_put (by decide) (by decide) h) (Or.inl ⟨by rfl, ?_⟩) hHeld ?_
  ·intro wz hSw; obtain s3 := hSw; go_simp
  try simp only [Act.put, List.getElem_toArray, List.getElem_cons_succ, List.getElem_cons_zero, List.setIfInBounds_toArray, List.set_cons_zero, List.set_cons_succ]
  refine wpAnyH_ready (rs := [6, 9]) (by kernel_rfl) (by simp) ?_
  refine AllReadyH.cons rfl (fun K hK => ?_) (AllReadyH.cons rfl (fun K hK => ?_) AllReadyH.nil)
  ·go_simp
   have hbase : w.heap.size + 2 ≤ V101.heap.size := by have := HQ.out.lt; omega
   obtain ⟨V102, hV⟩ : ∃ x, V101.alloc (.cells #[.int .i64 KF] 3) = x := ⟨_, rfl⟩
   have hown := own_lower (own_lit V101 [.int .i64 KF] 3 (by show 1 ≤ maxLen; decide)) hbase
   have hbv : Below V101.heap.size V101 V102 := by rw [← hV]; exact (Below.refl _ _).alloc (Nat.le_refl _) _
   have HQ := Lib.hid (HQ.out.on (hbv.mono hbase))
   have hne : gs ≠ V101.heap.size := by have := (HSRC.out.lt gs rfl).2; omega
   have HSRC := Lib.hid (own_below HSRC.out hbv)
   obtain ⟨gk, hg⟩ : ∃ g, V101.heap.size = g := ⟨_, rfl⟩
   have HK : Hid (V102.ownsRow (w.heap.size + 2) 3 1 (.slice (some ⟨V101.heap.size, 0, none⟩) 1 1) 1 [.int .i64 KF]) := by rw [← hV]; exact hown
   rw [hg] at HK ⊢
   have HNE : Hid (gs ≠ gk) := by show _ ≠ _; rw [← hg]; exact hne
   try rw [hV]
   clear hV hg hown hbase hbv hne
   refine hK.out _ _ ((HQ.out.bel.cell (p := ⟨b0, o0 + 3, none⟩) HB0.out).trans HC3.out) (fun hHeld => ?_)
   clear hK K
   try simp only [Act.put, List.getElem_toArray, List.getElem_cons_succ, List.getElem_cons_zero, List.setIfInBounds_toArray, List.set_cons_zero, List.set_cons_succ]
   refine wpAnyH_ready (rs := [9]) (by kernel_rfl) (by simp) ?_
   refine AllReadyH.cons rfl (fun K hK => ?_) AllReadyH.nil
   go_simp
   refine (HNUMS.out _ HQ.out.bel).mono ?_
   rintro e V103 ⟨hbv, he⟩
   have hbase : w.heap.size + 2 ≤ V102.heap.size := by have := HQ.out.lt; omega
   have HQ := Lib.hid (HQ.out.on (hbv.mono hbase))
   have HSRC := Lib.hid (own_below HSRC.out hbv)
   have HK := Lib.hid (own_below HK.out hbv)
   clear hbv
   by_cases hra : ra = none
   ·subst hra
    simp only at he
    subst he
    have HE : Hid (r = none) := by show _ = _; rw [← HR.out]; rw [stepM_write H0.out, if_pos ⟨by rw [HLN.out]; exact HM.out, by rw [HG1.out]; exact HHN1.out, by rw [HG2.out]; exact HHN2.out⟩, HRA.out]
    rw [HE.out]
    exact door_bad rfl rfl HQ.out
   obtain ⟨a, rfl⟩ := Option.ne_none_iff_exists'.1 hra
   clear hra
   obtain ⟨A2, c2, rfl, hown⟩ := he
   have HOWN := Lib.hid (own_lower hown hbase)
   clear hown hbase
   refine hK.out _ _ ((HQ.out.bel.cell (p := ⟨b0, o0 + 3, none⟩) HB0.out).trans HC3.out) (fun hHeld => ?_)
   clear hK K
   try simp only [Act.put, List.getElem_toArray, List.getElem_cons_succ, List.getElem_cons_zero, List.setIfInBounds_toArray, List.set_cons_zero, List.set_cons_succ]
   refine wpAnyH_ready (rs := [10]) (by kernel_rfl) (by simp) ?_
   refine AllReadyH.cons rfl (fun K hK => ?_) AllReadyH.nil
   rw [if_pos (by rfl)]
   have hlen : a.length ≤ 8796093022000 := by have h1 := numsM_len HRA.out; have h2 := HSD.out.len; have h3 := HSD.out.sz; omega
   have hbase : w.heap.size + 2 ≤ V103.heap.size := by have := HQ.out.lt; omega
   refine wp_append_sl (.tmp 57) (.tmp 60) 35 rfl (w.heap.size + 2) 3 1 8 (.int .i64 0) Tryz.underlying35 infoInt rfl (by decide) (.slice (some ⟨gk, 0, none⟩) 1 1) 1 [.int .i64 KF] rfl HK.out A2 a.length c2 (a.map (.int .i64)) rfl (by simp) (SI.of_own HOWN.out (by show a.length * 8 ≤ _; omega)).sl (by simp [Value.oneCell']) (by unfold maxLen; omega) (by omega) hbase ?_
   rintro v' V104 h1 h2 -
   have h2 : V103.grownBy V104 (some gk) := h2
   have hgk := (HK.out.lt gk rfl).1
   have hne : gs ≠ gk := HNE.out
   obtain ⟨A3, c3, rfl, hc3⟩ := own_shape h1
   have HQ := Lib.hid (HQ.out.on ((Below.refl _ _).grown h2 hbase (fun k e => by injection e with e; omega)))
   have HSRC := Lib.hid (HSRC.out.kept h2 (by right; intro e; injection e with e; exact hne e))
   have HARG : Hid (V104.ownsRow (w.heap.size + 2) 3 1 (.slice A3 (1 + a.length) c3) (1 + a.length) ((KF :: a).map (.int .i64))) := h1
   obtain ⟨m3, hm3⟩ : ∃ k, 1 + a.length = k := ⟨_, rfl⟩
   rw [hm3] at HARG hc3 ⊢
   have HM3 : Hid (m3 ≤ 8796093022001) := by show m3 ≤ _; omega
   have HCP := Lib.hid hc3
   clear h1 h2 hgk hne hm3 hc3 hlen hbase
   refine hK.out _ _ ((HQ.out.bel.cell (p := ⟨b0, o0 + 3, none⟩) HB0.out).trans HC3.out) (fun hHeld => ?_)
   clear hK K
   try simp only [Act.put, List.getElem_toArray, List.getElem_cons_succ, List.getElem_cons_zero, List.setIfInBounds_toArray, List.set_cons_zero, List.set_cons_succ]
   refine wpAnyH_take (i := 11) (v := .pointer (some ⟨w.heap.size, 5, none⟩)) rfl (by kernel_rfl) (by kernel_rfl) (by kernel_rfl) (fun _ _ _ h => bodyD_put (by decide) (by decide) h) (Or.inl ⟨by rfl, ?_⟩) hHeld ?_
   ·intro wz hSw; obtain s3 := hSw; go_simp
   try simp only [Act.put, List.getElem_toArray, List.getElem_cons_succ, List.getElem_cons_zero, List.setIfInBounds_toArray, List.set_cons_zero, List.set_cons_succ]
   refine wpAnyH_ready (rs := [12]) (by kernel_rfl) (by simp) ?_
   refine AllReadyH.cons rfl (fun K hK => ?_) AllReadyH.nil
   have yc := HQ.out.cells.1
   have yf := HQ.out.cells.2.1 5
   obtain ⟨y1, y2, y3, y4, y5, -⟩ := yc
   have HQ := Lib.hid (HQ.out.setArgs A3 m3 c3)
   obtain ⟨V105, hV⟩ : ∃ x, V104.setCell ⟨w.heap.size, 5, none⟩ (.slice A3 m3 c3) = x := ⟨_, rfl⟩
   rw [hV] at HQ
   have HSRC := Lib.hid (ownsRow_setCell_below HSRC.out (a := ⟨w.heap.size, 5, none⟩) (by show w.heap.size < w.heap.size + 2; omega) (.slice A3 m3 c3))
   rw [hV] at HSRC
   have HARG := Lib.hid (ownsRow_setCell_below HARG.out (a := ⟨w.heap.size, 5, none⟩) (by show w.heap.size < w.heap.size + 2; omega) (.slice A3 m3 c3))
   rw [hV] at HARG
   go_simp
   try rw [hV]
   clear hV y1 y2 y3 y4 y5 yf
   refine hK.out _ _ ((HQ.out.bel.cell (p := ⟨b0, o0 + 3, none⟩) HB0.out).trans HC3.out) (fun hHeld => ?_)
   clear hK K
   try simp only [Act.put, List.getElem_toArray, List.getElem_cons_succ, List.getElem_cons_zero, List.setIfInBounds_toArray, List.set_cons_zero, List.set_cons_succ]
   refine wpAnyH_done (by kernel_rfl) ?_ _
   have y5 := HQ.out.cells.1.2.2.2.2.1
   have hsa : SI V105 .i64 A3 m3 (KF :: a) := SI.of_own HARG.out (by show m3 * 8 ≤ _; have := HM3.out; omega)
   have HF := Lib.hid (format_any V105 hsa HCP.out)
   clear hsa
   have HST : Hid (r = if formatB (KF :: a) then some ⟨writeT, [], [t1], t2, KF :: a⟩ else none) := by show _ = _; rw [← HR.out, stepM_write H0.out, if_pos ⟨by rw [HLN.out]; exact HM.out, by rw [HG1.out]; exact HHN1.out, by rw [HG2.out]; exact HHN2.out⟩, HRA.out, HG1.out, HG2.out, HG3.out, HKFN.out]
   obtain ⟨fb, hfb⟩ : ∃ b, formatB (KF :: a) = b := ⟨_, rfl⟩
   rw [hfb] at HF HST
   clear hfb
   cases fb
   ·go_wp2_with (first | (go_at_call 51; refine HF.out.mono ?_; rintro e VF ⟨hbv, he⟩; simp only [Bool.false_eq_true, if_false] at he; subst he; have HQ := Lib.hid (HQ.out.on (hbv.mono (by have := HQ.out.lt; omega))); clear hbv) | fail)
    rw [HST.out]
    exact door_bad rfl rfl HQ.out
   go_wp2_with (first | (go_at_call 51; refine HF.out.mono ?_; rintro e VF ⟨hbv, he⟩; simp only [if_true] at he; subst he; have HQ := Lib.hid (HQ.out.on (hbv.mono (by have := HQ.out.lt; omega))); have HSRC := Lib.hid (own_below HSRC.out hbv); have HARG := Lib.hid (own_below HARG.out hbv); clear hbv; (obtain ⟨SC, hSC⟩ : ∃ x, stC 0 zr ⟨#[]⟩ (some ⟨gs, 0, none⟩) 1 1 z2 A3 m3 c3 = x := ⟨_, rfl⟩); (have HSC := Lib.hid hSC); (have hrow := HQ.out.s); (rw [hSC] at hrow); (have HROW := Lib.hid hrow); (have hsz6 : SC.size = 6 := by rw [← hSC]; rfl); (have HS6 := Lib.hid hsz6); (have hone : SC.all (·.oneCell') = true := by rw [← hSC]; exact stC_one _ _ _ _ _ _ _ _ _ _); (have HONE := Lib.hid hone); (clear hrow hsz6 hone hSC)) | (refine wpList_load_row rfl 37 (.tmp 2) rfl w.heap.size rfl 37 SC (0, 0) _ HROW.out Tryz.underlying37 rfl (by rw [HS6.out]; exact infoSt) ?_) | (refine wpList_store_rowG rfl 37 (.tmp 2) (.tmp 66) rfl w.heap.size SC rfl rfl 37 SC HROW.out (by rw [HS6.out]; exact infoSt) rfl HONE.out ?_) | fail)
   intro W2 hr2 hg2
   rw [← HSC.out] at hr2
   obtain ⟨W3, hW3, k1, k2, HFIN⟩ := HQ.out.fin hr2 hg2
   clear hr2 hg2
   go_wp2_with fail
   try rw [hW3]
   obtain ⟨g1, g2, g3, g4⟩ := HFIN.out
   have HE : Hid (r = some ⟨writeT, [], [t1], t2, KF :: a⟩) := by show _ = _; exact HST.out
   rw [HE.out]
   refine door_yes rfl rfl g3 (by show _ = some (Obj.cells (stC 0 (ba writeT) (ba []) (some ⟨gs, 0, none⟩) 1 1 (ba t2) A3 m3 c3) 37 (0, 0)); rw [HZR.out, HZ2.out]; exact g1) g2 (by show World.ownsRow _ _ _ _ _ _ [.string (ba t1)]; rw [HZ1.out]; exact g4 _ _ _ _ HSRC.out) (g4 _ _ _ _ HARG.out)
  ·go_simp
   refine (HNUMS.out _ HQ.out.bel).mono ?_
   rintro e V102 ⟨hbv, he⟩
   have hbase : w.heap.size + 2 ≤ V101.heap.size := by have := HQ.out.lt; omega
   have HQ := Lib.hid (HQ.out.on (hbv.mono hbase))
   have HSRC := Lib.hid (own_below HSRC.out hbv)
   clear hbv
   by_cases hra : ra = none
   ·subst hra
    simp only at he
    subst he
    have HE : Hid (r = none) := by show _ = _; rw [← HR.out]; rw [stepM_write H0.out, if_pos ⟨by rw [HLN.out]; exact HM.out, by rw [HG1.out]; exact HHN1.out, by rw [HG2.out]; exact HHN2.out⟩, HRA.out]
    rw [HE.out]
    exact door_bad rfl rfl HQ.out
   obtain ⟨a, rfl⟩ := Option.ne_none_iff_exists'.1 hra
   clear hra
   obtain ⟨A2, c2, rfl, hown⟩ := he
   have HOWN := Lib.hid (own_lower hown hbase)
   clear hown hbase
   refine hK.out _ _ ((HQ.out.bel.cell (p := ⟨b0, o0 + 3, none⟩) HB0.out).trans HC3.out) (fun hHeld => ?_)
   clear hK K
   try simp only [Act.put, List.getElem_toArray, List.getElem_cons_succ, List.getElem_cons_zero, List.setIfInBounds_toArray, List.set_cons_zero, List.set_cons_succ]
   refine wpAnyH_ready (rs := [6]) (by kernel_rfl) (by simp) ?_
   refine AllReadyH.cons rfl (fun K hK => ?_) AllReadyH.nil
   go_simp
   have hbase : w.heap.size + 2 ≤ V102.heap.size := by have := HQ.out.lt; omega
   obtain ⟨V103, hV⟩ : ∃ x, V102.alloc (.cells #[.int .i64 KF] 3) = x := ⟨_, rfl⟩
   have hown := own_lower (own_lit V102 [.int .i64 KF] 3 (by show 1 ≤ maxLen; decide)) hbase
   have hbv : Below V102.heap.size V102 V103 := by rw [← hV]; exact (Below.refl _ _).alloc (Nat.le_refl _) _
   have HQ := Lib.hid (HQ.out.on (hbv.mono hbase))
   have hne : gs ≠ V102.heap.size := by have := (HSRC.out.lt gs rfl).2; omega
   have HSRC := Lib.hid (own_below HSRC.out hbv)
   have HOWN := Lib.hid (own_below HOWN.out hbv)
   obtain ⟨gk, hg⟩ : ∃ g, V102.heap.size = g := ⟨_, rfl⟩
   have HK : Hid (V103.ownsRow (w.heap.size + 2) 3 1 (.slice (some ⟨V102.heap.size, 0, none⟩) 1 1) 1 [.int .i64 KF]) := by rw [← hV]; exact hown
   rw [hg] at HK ⊢
   have HNE : Hid (gs ≠ gk) := by show _ ≠ _; rw [← hg]; exact hne
   try rw [hV]
   clear hV hg hown hbase hbv hne
   refine hK.out _ _ ((HQ.out.bel.cell (p := ⟨b0, o0 + 3, none⟩) HB0.out).trans HC3.out) (fun hHeld => ?_)
   clear hK K
   try simp only [Act.put, List.getElem_toArray, List.getElem_cons_succ, List.getElem_cons_zero, List.setIfInBounds_toArray, List.set_cons_zero, List.set_cons_succ]
   refine wpAnyH_ready (rs := [10]) (by kernel_rfl) (by simp) ?_
   refine AllReadyH.cons rfl (fun K hK => ?_) AllReadyH.nil
   rw [if_pos (by rfl)]
   have hlen : a.length ≤ 8796093022000 := by have h1 := numsM_len HRA.out; have h2 := HSD.out.len; have h3 := HSD.out.sz; omega
   have hbase : w.heap.size + 2 ≤ V103.heap.size := by have := HQ.out.lt; omega
   refine wp_append_sl (.tmp 57) (.tmp 60) 35 rfl (w.heap.size + 2) 3 1 8 (.int .i64 0) Tryz.underlying35 infoInt rfl (by decide) (.slice (some ⟨gk, 0, none⟩) 1 1) 1 [.int .i64 KF] rfl HK.out A2 a.length c2 (a.map (.int .i64)) rfl (by simp) (SI.of_own HOWN.out (by show a.length * 8 ≤ _; omega)).sl (by simp [Value.oneCell']) (by unfold maxLen; omega) (by omega) hbase ?_
   rintro v' V104 h1 h2 -
   have h2 : V103.grownBy V104 (some gk) := h2
   have hgk := (HK.out.lt gk rfl).1
   have hne : gs ≠ gk := HNE.out
   obtain ⟨A3, c3, rfl, hc3⟩ := own_shape h1
   have HQ := Lib.hid (HQ.out.on ((Below.refl _ _).grown h2 hbase (fun k e => by injection e with e; omega)))
   have HSRC := Lib.hid (HSRC.out.kept h2 (by right; intro e; injection e with e; exact hne e))
   have HARG : Hid (V104.ownsRow (w.heap.size + 2) 3 1 (.slice A3 (1 + a.length) c3) (1 + a.length) ((KF :: a).map (.int .i64))) := h1
   obtain ⟨m3, hm3⟩ : ∃ k, 1 + a.length = k := ⟨_, rfl⟩
   rw [hm3] at HARG hc3 ⊢
   have HM3 : Hid (m3 ≤ 8796093022001) := by show m3 ≤ _; omega
   have HCP := Lib.hid hc3
   clear h1 h2 hgk hne hm3 hc3 hlen hbase
   refine hK.out _ _ ((HQ.out.bel.cell (p := ⟨b0, o0 + 3, none⟩) HB0.out).trans HC3.out) (fun hHeld => ?_)
   clear hK K
   try simp only [Act.put, List.getElem_toArray, List.getElem_cons_succ, List.getElem_cons_zero, List.setIfInBounds_toArray, List.set_cons_zero, List.set_cons_succ]
   refine wpAnyH_take (i := 11) (v := .pointer (some ⟨w.heap.size, 5, none⟩)) rfl (by kernel_rfl) (by kernel_rfl) (by kernel_rfl) (fun _ _ _ h => bodyD_put (by decide) (by decide) h) (Or.inl ⟨by rfl, ?_⟩) hHeld ?_
   ·intro wz hSw; obtain s3 := hSw; go_simp
   try simp only [Act.put, List.getElem_toArray, List.getElem_cons_succ, List.getElem_cons_zero, List.setIfInBounds_toArray, List.set_cons_zero, List.set_cons_succ]
   refine wpAnyH_ready (rs := [12]) (by kernel_rfl) (by simp) ?_
   refine AllReadyH.cons rfl (fun K hK => ?_) AllReadyH.nil
   have yc := HQ.out.cells.1
   have yf := HQ.out.cells.2.1 5
   obtain ⟨y1, y2, y3, y4, y5, -⟩ := yc
   have HQ := Lib.hid (HQ.out.setArgs A3 m3 c3)
   obtain ⟨V105, hV⟩ : ∃ x, V104.setCell ⟨w.heap.size, 5, none⟩ (.slice A3 m3 c3) = x := ⟨_, rfl⟩
   rw [hV] at HQ
   have HSRC := Lib.hid (ownsRow_setCell_below HSRC.out (a := ⟨w.heap.size, 5, none⟩) (by show w.heap.size < w.heap.size + 2; omega) (.slice A3 m3 c3))
   rw [hV] at HSRC
   have HARG := Lib.hid (ownsRow_setCell_below HARG.out (a := ⟨w.heap.size, 5, none⟩) (by show w.heap.size < w.heap.size + 2; omega) (.slice A3 m3 c3))
   rw [hV] at HARG
   go_simp
   try rw [hV]
   clear hV y1 y2 y3 y4 y5 yf
   refine hK.out _ _ ((HQ.out.bel.cell (p := ⟨b0, o0 + 3, none⟩) HB0.out).trans HC3.out) (fun hHeld => ?_)
   clear hK K
   try simp only [Act.put, List.getElem_toArray, List.getElem_cons_succ, List.getElem_cons_zero, List.setIfInBounds_toArray, List.set_cons_zero, List.set_cons_succ]
   refine wpAnyH_done (by kernel_rfl) ?_ _
   have y5 := HQ.out.cells.1.2.2.2.2.1
   have hsa : SI V105 .i64 A3 m3 (KF :: a) := SI.of_own HARG.out (by show m3 * 8 ≤ _; have := HM3.out; omega)
   have HF := Lib.hid (format_any V105 hsa HCP.out)
   clear hsa
   have HST : Hid (r = if formatB (KF :: a) then some ⟨writeT, [], [t1], t2, KF :: a⟩ else none) := by show _ = _; rw [← HR.out, stepM_write H0.out, if_pos ⟨by rw [HLN.out]; exact HM.out, by rw [HG1.out]; exact HHN1.out, by rw [HG2.out]; exact HHN2.out⟩, HRA.out, HG1.out, HG2.out, HG3.out, HKFN.out]
   obtain ⟨fb, hfb⟩ : ∃ b, formatB (KF :: a) = b := ⟨_, rfl⟩
   rw [hfb] at HF HST
   clear hfb
   cases fb
   ·go_wp2_with (first | (go_at_call 51; refine HF.out.mono ?_; rintro e VF ⟨hbv, he⟩; simp only [Bool.false_eq_true, if_false] at he; subst he; have HQ := Lib.hid (HQ.out.on (hbv.mono (by have := HQ.out.lt; omega))); clear hbv) | fail)
    rw [HST.out]
    exact door_bad rfl rfl HQ.out
   go_wp2_with (first | (go_at_call 51; refine HF.out.mono ?_; rintro e VF ⟨hbv, he⟩; simp only [if_true] at he; subst he; have HQ := Lib.hid (HQ.out.on (hbv.mono (by have := HQ.out.lt; omega))); have HSRC := Lib.hid (own_below HSRC.out hbv); have HARG := Lib.hid (own_below HARG.out hbv); clear hbv; (obtain ⟨SC, hSC⟩ : ∃ x, stC 0 zr ⟨#[]⟩ (some ⟨gs, 0, none⟩) 1 1 z2 A3 m3 c3 = x := ⟨_, rfl⟩); (have HSC := Lib.hid hSC); (have hrow := HQ.out.s); (rw [hSC] at hrow); (have HROW := Lib.hid hrow); (have hsz6 : SC.size = 6 := by rw [← hSC]; rfl); (have HS6 := Lib.hid hsz6); (have hone : SC.all (·.oneCell') = true := by rw [← hSC]; exact stC_one _ _ _ _ _ _ _ _ _ _); (have HONE := Lib.hid hone); (clear hrow hsz6 hone hSC)) | (refine wpList_load_row rfl 37 (.tmp 2) rfl w.heap.size rfl 37 SC (0, 0) _ HROW.out Tryz.underlying37 rfl (by rw [HS6.out]; exact infoSt) ?_) | (refine wpList_store_rowG rfl 37 (.tmp 2) (.tmp 66) rfl w.heap.size SC rfl rfl 37 SC HROW.out (by rw [HS6.out]; exact infoSt) rfl HONE.out ?_) | fail)
   intro W2 hr2 hg2
   rw [← HSC.out] at hr2
   obtain ⟨W3, hW3, k1, k2, HFIN⟩ := HQ.out.fin hr2 hg2
   clear hr2 hg2
   go_wp2_with fail
   try rw [hW3]
   obtain ⟨g1, g2, g3, g4⟩ := HFIN.out
   have HE : Hid (r = some ⟨writeT, [], [t1], t2, KF :: a⟩) := by show _ = _; exact HST.out
   rw [HE.out]
   refine door_yes rfl rfl g3 (by show _ = some (Obj.cells (stC 0 (ba writeT) (ba []) (some ⟨gs, 0, none⟩) 1 1 (ba t2) A3 m3 c3) 37 (0, 0)); rw [HZR.out, HZ2.out]; exact g1) g2 (by show World.ownsRow _ _ _ _ _ _ [.string (ba t1)]; rw [HZ1.out]; exact g4 _ _ _ _ HSRC.out) (g4 _ _ _ _ HARG.out)
 ·go_simp
  refine (HN2.out _).mono ?_
  rintro e V2 ⟨hbv, he⟩
  have HQ := Lib.hid (HQ.out.on (hbv.mono (by have := HQ.out.lt; omega)))
  clear hbv
  by_cases hn2 : ¬ (fileB t2 = true)
  ·rw [if_neg hn2] at he
   subst he
   have HE : Hid (r = none) := by show _ = _; rw [← HR.out]; rw [stepM_write H0.out, if_neg (fun h => hn2 (by rw [← HG2.out]; exact h.2.2))]
   rw [HE.out]
   exact door_bad rfl rfl HQ.out
  replace hn2 := Decidable.not_not.1 hn2
  rw [if_pos hn2] at he
  rw [HZ2.out] at he
  subst he
  have HHN2 := Lib.hid hn2
  clear hn2
  refine hK.out _ _ ⟨(HQ.out.bel.cell (p := ⟨b0, o0 + 1, none⟩) HB0.out).trans HC1.out, (HQ.out.bel.cell (p := ⟨b0, o0 + 2, none⟩) HB0.out).trans HC2.out⟩ (fun hHeld => ?_)
  clear hK K
  try simp only [Act.put, List.getElem_toArray, List.getElem_cons_succ, List.getElem_cons_zero, List.setIfInBounds_toArray, List.set_cons_zero, List.set_cons_succ]
  refine wpAnyH_ready (rs := [4]) (by kernel_rfl) (by simp) ?_
  refine AllReadyH.cons rfl (fun K hK => ?_) AllReadyH.nil
  go_simp
  have hbase : w.heap.size + 2 ≤ V2.heap.size := by have := HQ.out.lt; omega
  obtain ⟨V3, hV⟩ : ∃ x, V2.alloc (.cells #[.string z1] 9) = x := ⟨_, rfl⟩
  have hown := own_lower (own_lit V2 [.string z1] 9 (by show 1 ≤ maxLen; decide)) hbase
  have hbv : Below V2.heap.size V2 V3 := by rw [← hV]; exact (Below.refl _ _).alloc (Nat.le_refl _) _
  have HQ := Lib.hid (HQ.out.on (hbv.mono hbase))
  obtain ⟨gs, hg⟩ : ∃ g, V2.heap.size = g := ⟨_, rfl⟩
  have HSRC : Hid (V3.ownsRow (w.heap.size + 2) 9 1 (.slice (some ⟨V2.heap.size, 0, none⟩) 1 1) 1 [.string z1]) := by rw [← hV]; exact hown
  rw [hg] at HSRC ⊢
  try rw [hV]
  clear hV hg hown hbase hbv
  refine hK.out _ _ ⟨(HQ.out.bel.cell (p := ⟨b0, o0 + 1, none⟩) HB0.out).trans HC1.out, (HQ.out.bel.cell (p := ⟨b0, o0 + 2, none⟩) HB0.out).trans HC2.out⟩ (fun hHeld => ?_)
  clear hK K
  try simp only [Act.put, List.getElem_toArray, List.getElem_cons_succ, List.getElem_cons_zero, List.setIfInBounds_toArray, List.set_cons_zero, List.set_cons_succ]
  refine wpAnyH_take (i := 9) (v := .pointer (some ⟨w.heap.size, 3, none⟩)) rfl (by kernel_rfl) (by kernel_rfl) (by kernel_rfl) (fun _ _ _ h => bodyD_put (by decide) (by decide) h) (Or.inl ⟨by rfl, ?_⟩) hHeld ?_
  ·intro wz hSw; obtain ⟨s1, s2⟩ := hSw; go_simp
  try simp only [Act.put, List.getElem_toArray, List.getElem_cons_succ, List.getElem_cons_zero, List.setIfInBounds_toArray, List.set_cons_zero, List.set_cons_succ]
  refine wpAnyH_ready (rs := [10]) (by kernel_rfl) (by simp) ?_
  refine AllReadyH.cons rfl (fun K hK => ?_) AllReadyH.nil
  have yc := HQ.out.cells.1
  have yf := HQ.out.cells.2.1 3
  obtain ⟨y1, y2, y3, y4, y5, -⟩ := yc
  have HQ := Lib.hid (HQ.out.setSrcs (some ⟨gs, 0, none⟩) 1 1)
  obtain ⟨V4, hV⟩ : ∃ x, V3.setCell ⟨w.heap.size, 3, none⟩ (.slice (some ⟨gs, 0, none⟩) 1 1) = x := ⟨_, rfl⟩
  rw [hV] at HQ
  have HSRC := Lib.hid (ownsRow_setCell_below HSRC.out (a := ⟨w.heap.size, 3, none⟩) (by show w.heap.size < w.heap.size + 2; omega) (.slice (some ⟨gs, 0, none⟩) 1 1))
  rw [hV] at HSRC
  go_simp
  try rw [hV]
  clear hV y1 y2 y3 y4 y5 yf
  refine hK.out _ _ ⟨(HQ.out.bel.cell (p := ⟨b0, o0 + 1, none⟩) HB0.out).trans HC1.out, (HQ.out.bel.cell (p := ⟨b0, o0 + 2, none⟩) HB0.out).trans HC2.out⟩ (fun hHeld => ?_)
  clear hK K
  try simp only [Act.put, List.getElem_toArray, List.getElem_cons_succ, List.getElem_cons_zero, List.setIfInBounds_toArray, List.set_cons_zero, List.set_cons_succ]
  refine wpAnyH_take (i := 11) (v := .pointer (some ⟨w.heap.size, 4, none⟩)) rfl (by kernel_rfl) (by kernel_rfl) (by kernel_rfl) (fun _ _ _ h => bodyD_put (by decide) (by decide) h) (Or.inl ⟨by rfl, ?_⟩) hHeld ?_
  ·intro wz hSw; obtain ⟨s1, s2⟩ := hSw; go_simp
  try simp only [Act.put, List.getElem_toArray, List.getElem_cons_succ, List.getElem_cons_zero, List.setIfInBounds_toArray, List.set_cons_zero, List.set_cons_succ]
  refine wpAnyH_ready (rs := [12]) (by kernel_rfl) (by simp) ?_
  refine AllReadyH.cons rfl (fun K hK => ?_) AllReadyH.nil
  have yc := HQ.out.cells.1
  have yf := HQ.out.cells.2.1 4
  obtain ⟨y1, y2, y3, y4, y5, -⟩ := yc
  have HQ := Lib.hid (HQ.out.setFile z2)
  obtain ⟨V5, hV⟩ : ∃ x, V4.setCell ⟨w.heap.size, 4, none⟩ (.string z2) = x := ⟨_, rfl⟩
  rw [hV] at HQ
  have HSRC := Lib.hid (ownsRow_setCell_below HSRC.out (a := ⟨w.heap.size, 4, none⟩) (by show w.heap.size < w.heap.size + 2; omega) (.string z2))
  rw [hV] at HSRC
  go_simp
  try rw [hV]
  clear hV y1 y2 y3 y4 y5 yf
  refine hK.out _ _ ⟨(HQ.out.bel.cell (p := ⟨b0, o0 + 1, none⟩) HB0.out).trans HC1.out, (HQ.out.bel.cell (p := ⟨b0, o0 + 2, none⟩) HB0.out).trans HC2.out⟩ (fun hHeld => ?_)
  clear hK K
  try simp only [Act.put, List.getElem_toArray, List.getElem_cons_succ, List.getElem_cons_zero, List.setIfInBounds_toArray, List.set_cons_zero, List.set_cons_succ]
  refine wpAnyH_done (by kernel_rfl) ?_ _
  go_wp2_with fail
  obtain ⟨KF, hKF⟩ : ∃ k, fmtN t3 = k := ⟨_, rfl⟩
  have HKFN := Lib.hid hKF
  obtain ⟨IX, hIX⟩ : ∃ k, Lib.idxOfS (fmtsM.map ba) z3 = k := ⟨_, rfl⟩
  have HIX := Lib.hid hIX
  have hix : IX + 1 = KF := by rw [← hIX, ← hKF, ← HZ3.out]; exact idx_fmt t3
  have hkf := fmtN_le t3
  rw [hKF] at hkf
  have HKB := Lib.hid hkf
  have w1 : wrap64 (IX + 1) = KF := by rw [hix, IntWalk.wrap64_in _ (by omega)]
  have w2 : IntKind.i64.wrap (IX + 1) = KF := by rw [hix, IntKind.wrap_i64]; omega
  clear hIX hKF hix hkf
  refine wp_region_held_drew (S := fun V => V.cell? ⟨b0, o0 + 3, none⟩ = some (.string z3)) (by kernel_rfl) ((HQ.out.bel.cell (p := ⟨b0, o0 + 3, none⟩) HB0.out).trans HC3.out) (fun hHeld => ?_)
  obtain ⟨VD, hVD⟩ : ∃ x, V5.drew = x := ⟨_, rfl⟩
  have HQ := Lib.hid (HQ.out.on ((Below.refl _ _).drew))
  have HSRC := Lib.hid (own_below HSRC.out (Below.refl _ _).drew)
  rw [hVD] at HQ HSRC hHeld ⊢
  clear hVD
  refine wpAnyH_take (i := 1) (v := .slice (some ⟨b0, o0, none⟩) n c) rfl (by kernel_rfl) (by kernel_rfl) (by kernel_rfl) (fun _ _ _ h => bodyD_put (by decide) (by decide) h) (Or.inl ⟨by rfl, ?_⟩) hHeld ?_
  ·intro wz hSw; obtain s3 := hSw; go_simp
  try simp only [Act.put, List.getElem_toArray, List.getElem_cons_succ, List.getElem_cons_zero, List.setIfInBounds_toArray, List.set_cons_zero, List.set_cons_succ]
  refine wpAnyH_take (i := 2) (v := .pointer (some ⟨b0, o0 + 3, none⟩)) rfl (by kernel_rfl) (by kernel_rfl) (by kernel_rfl) (fun _ _ _ h => bodyD_put (by decide) (by decide) h) (Or.inl ⟨by rfl, ?_⟩) hHeld ?_
  ·intro wz hSw; obtain s3 := hSw; go_simp
  try simp only [Act.put, List.getElem_toArray, List.getElem_cons_succ, List.getElem_cons_zero, List.setIfInBounds_toArray, List.set_cons_zero, List.set_cons_succ]
  refine wpAnyH_take (i := 3) (v := .string z3) rfl (by kernel_rfl) (by kernel_rfl) (by kernel_rfl) (fun _ _ _ h => bodyD_put (by decide) (by decide) h) (Or.inl ⟨by rfl, ?_⟩) hHeld ?_
  ·intro wz hSw; obtain s3 := hSw; go_simp
  try simp only [Act.put, List.getElem_toArray, List.getElem_cons_succ, List.getElem_cons_zero, List.setIfInBounds_toArray, List.set_cons_zero, List.set_cons_succ]
  refine wpAnyH_take (i := 7) (v := .slice (some ⟨b0, o0, none⟩) n c) rfl (by kernel_rfl) (by kernel_rfl) (by kernel_rfl) (fun _ _ _ h => bodyD_put (by decide) (by decide) h) (Or.inl ⟨by rfl, ?_⟩) hHeld ?_
  ·intro wz hSw; obtain s3 := hSw; go_simp
  try simp only [Act.put, List.getElem_toArray, List.getElem_cons_succ, List.getElem_cons_zero, List.setIfInBounds_toArray, List.set_cons_zero, List.set_cons_succ]
  refine wpAnyH_take (i := 8) (v := .slice X m cm) rfl (by kernel_rfl) (by kernel_rfl) (by kernel_rfl) (fun _ _ _ h => bodyD_put (by decide) (by decide) h) (Or.inl ⟨by rfl, ?_⟩) hHeld ?_
  ·intro wz hSw; obtain s3 := hSw; go_simp
  try simp only [Act.put, List.getElem_toArray, List.getElem_cons_succ, List.getElem_cons_zero, List.setIfInBounds_toArray, List.set_cons_zero, List.set_cons_succ]
  refine wpAnyH_ready (rs := [0]) (by kernel_rfl) (by simp) ?_
  refine AllReadyH.cons rfl (fun K hK => ?_) AllReadyH.nil
  go_simp
  refine (formats_at _).mono ?_
  rintro e V101 ⟨gf, rfl, -, hss, hbv⟩
  have HSF := Lib.hid hss
  have HQ := Lib.hid (HQ.out.on (hbv.mono (by have := HQ.out.lt; omega)))
  have HSRC := Lib.hid (own_below HSRC.out hbv)
  clear hbv hss
  refine hK.out _ _ ((HQ.out.bel.cell (p := ⟨b0, o0 + 3, none⟩) HB0.out).trans HC3.out) (fun hHeld => ?_)
  clear hK K
  try simp only [Act.put, List.getElem_toArray, List.getElem_cons_succ, List.getElem_cons_zero, List.setIfInBounds_toArray, List.set_cons_zero, List.set_cons_succ]
  refine wpAnyH_ready (rs := [4]) (by kernel_rfl) (by simp) ?_
  refine AllReadyH.cons rfl (fun K hK => ?_) AllReadyH.nil
  go_simp
  have hall : ∀ j, j < (fmtsM.map ba).length → V101.cell? ⟨gf, 0 + j, none⟩ = some (.string ((fmtsM.map ba).getD j ByteArray.empty)) := HSF.out.all
  refine (Scs.slices_Index_string gf 0 6 6 (fmtsM.map ba) z3 _ (by decide) (by decide) hall).mono ?_
  rintro e V' ⟨rfl, hw⟩
  rw [hw]
  clear hw V'
  have htk : (fmtsM.map ba).take 6 = fmtsM.map ba := rfl
  rw [htk, HIX.out]
  clear htk hall HSF
  refine hK.out _ _ ((HQ.out.bel.cell (p := ⟨b0, o0 + 3, none⟩) HB0.out).trans HC3.out) (fun hHeld => ?_)
  clear hK K
  try simp only [Act.put, List.getElem_toArray, List.getElem_cons_succ, List.getElem_cons_zero, List.setIfInBounds_toArray, List.set_cons_zero, List.set_cons_succ]
  refine wpAnyH_take (i := 5) (v := .int .i64 KF) rfl (by kernel_rfl) (by kernel_rfl) (by kernel_rfl) (fun _ _ _ h => bodyD_put (by decide) (by decide) h) (Or.inl ⟨by rfl, ?_⟩) hHeld ?_
  ·intro wz hSw; obtain s3 := hSw; go_simp
  try simp only [Act.put, List.getElem_toArray, List.getElem_cons_succ, List.getElem_cons_zero, List.setIfInBounds_toArray, List.set_cons_zero, List.set_cons_succ]
  refine wpAnyH_ready (rs := [6, 9]) (by kernel_rfl) (by simp) ?_
  refine AllReadyH.cons rfl (fun K hK => ?_) (AllReadyH.cons rfl (fun K hK => ?_) AllReadyH.nil)
  ·go_simp
   have hbase : w.heap.size + 2 ≤ V101.heap.size := by have := HQ.out.lt; omega
   obtain ⟨V102, hV⟩ : ∃ x, V101.alloc (.cells #[.int .i64 KF] 3) = x := ⟨_, rfl⟩
   have hown := own_lower (own_lit V101 [.int .i64 KF] 3 (by show 1 ≤ maxLen; decide)) hbase
   have hbv : Below V101.heap.size V101 V102 := by rw [← hV]; exact (Below.refl _ _).alloc (Nat.le_refl _) _
   have HQ := Lib.hid (HQ.out.on (hbv.mono hbase))
   have hne : gs ≠ V101.heap.size := by have := (HSRC.out.lt gs rfl).2; omega
   have HSRC := Lib.hid (own_below HSRC.out hbv)
   obtain ⟨gk, hg⟩ : ∃ g, V101.heap.size = g := ⟨_, rfl⟩
   have HK : Hid (V102.ownsRow (w.heap.size + 2) 3 1 (.slice (some ⟨V101.heap.size, 0, none⟩) 1 1) 1 [.int .i64 KF]) := by rw [← hV]; exact hown
   rw [hg] at HK ⊢
   have HNE : Hid (gs ≠ gk) := by show _ ≠ _; rw [← hg]; exact hne
   try rw [hV]
   clear hV hg hown hbase hbv hne
   refine hK.out _ _ ((HQ.out.bel.cell (p := ⟨b0, o0 + 3, none⟩) HB0.out).trans HC3.out) (fun hHeld => ?_)
   clear hK K
   try simp only [Act.put, List.getElem_toArray, List.getElem_cons_succ, List.getElem_cons_zero, List.setIfInBounds_toArray, List.set_cons_zero, List.set_cons_succ]
   refine wpAnyH_ready (rs := [9]) (by kernel_rfl) (by simp) ?_
   refine AllReadyH.cons rfl (fun K hK => ?_) AllReadyH.nil
   go_simp
   refine (HNUMS.out _ HQ.out.bel).mono ?_
   rintro e V103 ⟨hbv, he⟩
   have hbase : w.heap.size + 2 ≤ V102.heap.size := by have := HQ.out.lt; omega
   have HQ := Lib.hid (HQ.out.on (hbv.mono hbase))
   have HSRC := Lib.hid (own_below HSRC.out hbv)
   have HK := Lib.hid (own_below HK.out hbv)
   clear hbv
   by_cases hra : ra = none
   ·subst hra
    simp only at he
    subst he
    have HE : Hid (r = none) := by show _ = _; rw [← HR.out]; rw [stepM_write H0.out, if_pos ⟨by rw [HLN.out]; exact HM.out, by rw [HG1.out]; exact HHN1.out, by rw [HG2.out]; exact HHN2.out⟩, HRA.out]
    rw [HE.out]
    exact door_bad rfl rfl HQ.out
   obtain ⟨a, rfl⟩ := Option.ne_none_iff_exists'.1 hra
   clear hra
   obtain ⟨A2, c2, rfl, hown⟩ := he
   have HOWN := Lib.hid (own_lower hown hbase)
   clear hown hbase
   refine hK.out _ _ ((HQ.out.bel.cell (p := ⟨b0, o0 + 3, none⟩) HB0.out).trans HC3.out) (fun hHeld => ?_)
   clear hK K
   try simp only [Act.put, List.getElem_toArray, List.getElem_cons_succ, List.getElem_cons_zero, List.setIfInBounds_toArray, List.set_cons_zero, List.set_cons_succ]
   refine wpAnyH_ready (rs := [10]) (by kernel_rfl) (by simp) ?_
   refine AllReadyH.cons rfl (fun K hK => ?_) AllReadyH.nil
   rw [if_pos (by rfl)]
   have hlen : a.length ≤ 8796093022000 := by have h1 := numsM_len HRA.out; have h2 := HSD.out.len; have h3 := HSD.out.sz; omega
   have hbase : w.heap.size + 2 ≤ V103.heap.size := by have := HQ.out.lt; omega
   refine wp_append_sl (.tmp 57) (.tmp 60) 35 rfl (w.heap.size + 2) 3 1 8 (.int .i64 0) Tryz.underlying35 infoInt rfl (by decide) (.slice (some ⟨gk, 0, none⟩) 1 1) 1 [.int .i64 KF] rfl HK.out A2 a.length c2 (a.map (.int .i64)) rfl (by simp) (SI.of_own HOWN.out (by show a.length * 8 ≤ _; omega)).sl (by simp [Value.oneCell']) (by unfold maxLen; omega) (by omega) hbase ?_
   rintro v' V104 h1 h2 -
   have h2 : V103.grownBy V104 (some gk) := h2
   have hgk := (HK.out.lt gk rfl).1
   have hne : gs ≠ gk := HNE.out
   obtain ⟨A3, c3, rfl, hc3⟩ := own_shape h1
   have HQ := Lib.hid (HQ.out.on ((Below.refl _ _).grown h2 hbase (fun k e => by injection e with e; omega)))
   have HSRC := Lib.hid (HSRC.out.kept h2 (by right; intro e; injection e with e; exact hne e))
   have HARG : Hid (V104.ownsRow (w.heap.size + 2) 3 1 (.slice A3 (1 + a.length) c3) (1 + a.length) ((KF :: a).map (.int .i64))) := h1
   obtain ⟨m3, hm3⟩ : ∃ k, 1 + a.length = k := ⟨_, rfl⟩
   rw [hm3] at HARG hc3 ⊢
   have HM3 : Hid (m3 ≤ 8796093022001) := by show m3 ≤ _; omega
   have HCP := Lib.hid hc3
   clear h1 h2 hgk hne hm3 hc3 hlen hbase
   refine hK.out _ _ ((HQ.out.bel.cell (p := ⟨b0, o0 + 3, none⟩) HB0.out).trans HC3.out) (fun hHeld => ?_)
   clear hK K
   try simp only [Act.put, List.getElem_toArray, List.getElem_cons_succ, List.getElem_cons_zero, List.setIfInBounds_toArray, List.set_cons_zero, List.set_cons_succ]
   refine wpAnyH_take (i := 11) (v := .pointer (some ⟨w.heap.size, 5, none⟩)) rfl (by kernel_rfl) (by kernel_rfl) (by kernel_rfl) (fun _ _ _ h => bodyD_put (by decide) (by decide) h) (Or.inl ⟨by rfl, ?_⟩) hHeld ?_
   ·intro wz hSw; obtain s3 := hSw; go_simp
   try simp only [Act.put, List.getElem_toArray, List.getElem_cons_succ, List.getElem_cons_zero, List.setIfInBounds_toArray, List.set_cons_zero, List.set_cons_succ]
   refine wpAnyH_ready (rs := [12]) (by kernel_rfl) (by simp) ?_
   refine AllReadyH.cons rfl (fun K hK => ?_) AllReadyH.nil
   have yc := HQ.out.cells.1
   have yf := HQ.out.cells.2.1 5
   obtain ⟨y1, y2, y3, y4, y5, -⟩ := yc
   have HQ := Lib.hid (HQ.out.setArgs A3 m3 c3)
   obtain ⟨V105, hV⟩ : ∃ x, V104.setCell ⟨w.heap.size, 5, none⟩ (.slice A3 m3 c3) = x := ⟨_, rfl⟩
   rw [hV] at HQ
   have HSRC := Lib.hid (ownsRow_setCell_below HSRC.out (a := ⟨w.heap.size, 5, none⟩) (by show w.heap.size < w.heap.size + 2; omega) (.slice A3 m3 c3))
   rw [hV] at HSRC
   have HARG := Lib.hid (ownsRow_setCell_below HARG.out (a := ⟨w.heap.size, 5, none⟩) (by show w.heap.size < w.heap.size + 2; omega) (.slice A3 m3 c3))
   rw [hV] at HARG
   go_simp
   try rw [hV]
   clear hV y1 y2 y3 y4 y5 yf
   refine hK.out _ _ ((HQ.out.bel.cell (p := ⟨b0, o0 + 3, none⟩) HB0.out).trans HC3.out) (fun hHeld => ?_)
   clear hK K
   try simp only [Act.put, List.getElem_toArray, List.getElem_cons_succ, List.getElem_cons_zero, List.setIfInBounds_toArray, List.set_cons_zero, List.set_cons_succ]
   refine wpAnyH_done (by kernel_rfl) ?_ _
   have y5 := HQ.out.cells.1.2.2.2.2.1
   have hsa : SI V105 .i64 A3 m3 (KF :: a) := SI.of_own HARG.out (by show m3 * 8 ≤ _; have := HM3.out; omega)
   have HF := Lib.hid (format_any V105 hsa HCP.out)
   clear hsa
   have HST : Hid (r = if formatB (KF :: a) then some ⟨writeT, [], [t1], t2, KF :: a⟩ else none) := by show _ = _; rw [← HR.out, stepM_write H0.out, if_pos ⟨by rw [HLN.out]; exact HM.out, by rw [HG1.out]; exact HHN1.out, by rw [HG2.out]; exact HHN2.out⟩, HRA.out, HG1.out, HG2.out, HG3.out, HKFN.out]
   obtain ⟨fb, hfb⟩ : ∃ b, formatB (KF :: a) = b := ⟨_, rfl⟩
   rw [hfb] at HF HST
   clear hfb
   cases fb
   ·go_wp2_with (first | (go_at_call 51; refine HF.out.mono ?_; rintro e VF ⟨hbv, he⟩; simp only [Bool.false_eq_true, if_false] at he; subst he; have HQ := Lib.hid (HQ.out.on (hbv.mono (by have := HQ.out.lt; omega))); clear hbv) | fail)
    rw [HST.out]
    exact door_bad rfl rfl HQ.out
   go_wp2_with (first | (go_at_call 51; refine HF.out.mono ?_; rintro e VF ⟨hbv, he⟩; simp only [if_true] at he; subst he; have HQ := Lib.hid (HQ.out.on (hbv.mono (by have := HQ.out.lt; omega))); have HSRC := Lib.hid (own_below HSRC.out hbv); have HARG := Lib.hid (own_below HARG.out hbv); clear hbv; (obtain ⟨SC, hSC⟩ : ∃ x, stC 0 zr ⟨#[]⟩ (some ⟨gs, 0, none⟩) 1 1 z2 A3 m3 c3 = x := ⟨_, rfl⟩); (have HSC := Lib.hid hSC); (have hrow := HQ.out.s); (rw [hSC] at hrow); (have HROW := Lib.hid hrow); (have hsz6 : SC.size = 6 := by rw [← hSC]; rfl); (have HS6 := Lib.hid hsz6); (have hone : SC.all (·.oneCell') = true := by rw [← hSC]; exact stC_one _ _ _ _ _ _ _ _ _ _); (have HONE := Lib.hid hone); (clear hrow hsz6 hone hSC)) | (refine wpList_load_row rfl 37 (.tmp 2) rfl w.heap.size rfl 37 SC (0, 0) _ HROW.out Tryz.underlying37 rfl (by rw [HS6.out]; exact infoSt) ?_) | (refine wpList_store_rowG rfl 37 (.tmp 2) (.tmp 66) rfl w.heap.size SC rfl rfl 37 SC HROW.out (by rw [HS6.out]; exact infoSt) rfl HONE.out ?_) | fail)
   intro W2 hr2 hg2
   rw [← HSC.out] at hr2
   obtain ⟨W3, hW3, k1, k2, HFIN⟩ := HQ.out.fin hr2 hg2
   clear hr2 hg2
   go_wp2_with fail
   try rw [hW3]
   obtain ⟨g1, g2, g3, g4⟩ := HFIN.out
   have HE : Hid (r = some ⟨writeT, [], [t1], t2, KF :: a⟩) := by show _ = _; exact HST.out
   rw [HE.out]
   refine door_yes rfl rfl g3 (by show _ = some (Obj.cells (stC 0 (ba writeT) (ba []) (some ⟨gs, 0, none⟩) 1 1 (ba t2) A3 m3 c3) 37 (0, 0)); rw [HZR.out, HZ2.out]; exact g1) g2 (by show World.ownsRow _ _ _ _ _ _ [.string (ba t1)]; rw [HZ1.out]; exact g4 _ _ _ _ HSRC.out) (g4 _ _ _ _ HARG.out)
  ·go_simp
   refine (HNUMS.out _ HQ.out.bel).mono ?_
   rintro e V102 ⟨hbv, he⟩
   have hbase : w.heap.size + 2 ≤ V101.heap.size := by have := HQ.out.lt; omega
   have HQ := Lib.hid (HQ.out.on (hbv.mono hbase))
   have HSRC := Lib.hid (own_below HSRC.out hbv)
   clear hbv
   by_cases hra : ra = none
   ·subst hra
    simp only at he
    subst he
    have HE : Hid (r = none) := by show _ = _; rw [← HR.out]; rw [stepM_write H0.out, if_pos ⟨by rw [HLN.out]; exact HM.out, by rw [HG1.out]; exact HHN1.out, by rw [HG2.out]; exact HHN2.out⟩, HRA.out]
    rw [HE.out]
    exact door_bad rfl rfl HQ.out
   obtain ⟨a, rfl⟩ := Option.ne_none_iff_exists'.1 hra
   clear hra
   obtain ⟨A2, c2, rfl, hown⟩ := he
   have HOWN := Lib.hid (own_lower hown hbase)
   clear hown hbase
   refine hK.out _ _ ((HQ.out.bel.cell (p := ⟨b0, o0 + 3, none⟩) HB0.out).trans HC3.out) (fun hHeld => ?_)
   clear hK K
   try simp only [Act.put, List.getElem_toArray, List.getElem_cons_succ, List.getElem_cons_zero, List.setIfInBounds_toArray, List.set_cons_zero, List.set_cons_succ]
   refine wpAnyH_ready (rs := [6]) (by kernel_rfl) (by simp) ?_
   refine AllReadyH.cons rfl (fun K hK => ?_) AllReadyH.nil
   go_simp
   have hbase : w.heap.size + 2 ≤ V102.heap.size := by have := HQ.out.lt; omega
   obtain ⟨V103, hV⟩ : ∃ x, V102.alloc (.cells #[.int .i64 KF] 3) = x := ⟨_, rfl⟩
   have hown := own_lower (own_lit V102 [.int .i64 KF] 3 (by show 1 ≤ maxLen; decide)) hbase
   have hbv : Below V102.heap.size V102 V103 := by rw [← hV]; exact (Below.refl _ _).alloc (Nat.le_refl _) _
   have HQ := Lib.hid (HQ.out.on (hbv.mono hbase))
   have hne : gs ≠ V102.heap.size := by have := (HSRC.out.lt gs rfl).2; omega
   have HSRC := Lib.hid (own_below HSRC.out hbv)
   have HOWN := Lib.hid (own_below HOWN.out hbv)
   obtain ⟨gk, hg⟩ : ∃ g, V102.heap.size = g := ⟨_, rfl⟩
   have HK : Hid (V103.ownsRow (w.heap.size + 2) 3 1 (.slice (some ⟨V102.heap.size, 0, none⟩) 1 1) 1 [.int .i64 KF]) := by rw [← hV]; exact hown
   rw [hg] at HK ⊢
   have HNE : Hid (gs ≠ gk) := by show _ ≠ _; rw [← hg]; exact hne
   try rw [hV]
   clear hV hg hown hbase hbv hne
   refine hK.out _ _ ((HQ.out.bel.cell (p := ⟨b0, o0 + 3, none⟩) HB0.out).trans HC3.out) (fun hHeld => ?_)
   clear hK K
   try simp only [Act.put, List.getElem_toArray, List.getElem_cons_succ, List.getElem_cons_zero, List.setIfInBounds_toArray, List.set_cons_zero, List.set_cons_succ]
   refine wpAnyH_ready (rs := [10]) (by kernel_rfl) (by simp) ?_
   refine AllReadyH.cons rfl (fun K hK => ?_) AllReadyH.nil
   rw [if_pos (by rfl)]
   have hlen : a.length ≤ 8796093022000 := by have h1 := numsM_len HRA.out; have h2 := HSD.out.len; have h3 := HSD.out.sz; omega
   have hbase : w.heap.size + 2 ≤ V103.heap.size := by have := HQ.out.lt; omega
   refine wp_append_sl (.tmp 57) (.tmp 60) 35 rfl (w.heap.size + 2) 3 1 8 (.int .i64 0) Tryz.underlying35 infoInt rfl (by decide) (.slice (some ⟨gk, 0, none⟩) 1 1) 1 [.int .i64 KF] rfl HK.out A2 a.length c2 (a.map (.int .i64)) rfl (by simp) (SI.of_own HOWN.out (by show a.length * 8 ≤ _; omega)).sl (by simp [Value.oneCell']) (by unfold maxLen; omega) (by omega) hbase ?_
   rintro v' V104 h1 h2 -
   have h2 : V103.grownBy V104 (some gk) := h2
   have hgk := (HK.out.lt gk rfl).1
   have hne : gs ≠ gk := HNE.out
   obtain ⟨A3, c3, rfl, hc3⟩ := own_shape h1
   have HQ := Lib.hid (HQ.out.on ((Below.refl _ _).grown h2 hbase (fun k e => by injection e with e; omega)))
   have HSRC := Lib.hid (HSRC.out.kept h2 (by right; intro e; injection e with e; exact hne e))
   have HARG : Hid (V104.ownsRow (w.heap.size + 2) 3 1 (.slice A3 (1 + a.length) c3) (1 + a.length) ((KF :: a).map (.int .i64))) := h1
   obtain ⟨m3, hm3⟩ : ∃ k, 1 + a.length = k := ⟨_, rfl⟩
   rw [hm3] at HARG hc3 ⊢
   have HM3 : Hid (m3 ≤ 8796093022001) := by show m3 ≤ _; omega
   have HCP := Lib.hid hc3
   clear h1 h2 hgk hne hm3 hc3 hlen hbase
   refine hK.out _ _ ((HQ.out.bel.cell (p := ⟨b0, o0 + 3, none⟩) HB0.out).trans HC3.out) (fun hHeld => ?_)
   clear hK K
   try simp only [Act.put, List.getElem_toArray, List.getElem_cons_succ, List.getElem_cons_zero, List.setIfInBounds_toArray, List.set_cons_zero, List.set_cons_succ]
   refine wpAnyH_take (i := 11) (v := .pointer (some ⟨w.heap.size, 5, none⟩)) rfl (by kernel_rfl) (by kernel_rfl) (by kernel_rfl) (fun _ _ _ h => bodyD_put (by decide) (by decide) h) (Or.inl ⟨by rfl, ?_⟩) hHeld ?_
   ·intro wz hSw; obtain s3 := hSw; go_simp
   try simp only [Act.put, List.getElem_toArray, List.getElem_cons_succ, List.getElem_cons_zero, List.setIfInBounds_toArray, List.set_cons_zero, List.set_cons_succ]
   refine wpAnyH_ready (rs := [12]) (by kernel_rfl) (by simp) ?_
   refine AllReadyH.cons rfl (fun K hK => ?_) AllReadyH.nil
   have yc := HQ.out.cells.1
   have yf := HQ.out.cells.2.1 5
   obtain ⟨y1, y2, y3, y4, y5, -⟩ := yc
   have HQ := Lib.hid (HQ.out.setArgs A3 m3 c3)
   obtain ⟨V105, hV⟩ : ∃ x, V104.setCell ⟨w.heap.size, 5, none⟩ (.slice A3 m3 c3) = x := ⟨_, rfl⟩
   rw [hV] at HQ
   have HSRC := Lib.hid (ownsRow_setCell_below HSRC.out (a := ⟨w.heap.size, 5, none⟩) (by show w.heap.size < w.heap.size + 2; omega) (.slice A3 m3 c3))
   rw [hV] at HSRC
   have HARG := Lib.hid (ownsRow_setCell_below HARG.out (a := ⟨w.heap.size, 5, none⟩) (by show w.heap.size < w.heap.size + 2; omega) (.slice A3 m3 c3))
   rw [hV] at HARG
   go_simp
   try rw [hV]
   clear hV y1 y2 y3 y4 y5 yf
   refine hK.out _ _ ((HQ.out.bel.cell (p := ⟨b0, o0 + 3, none⟩) HB0.out).trans HC3.out) (fun hHeld => ?_)
   clear hK K
   try simp only [Act.put, List.getElem_toArray, List.getElem_cons_succ, List.getElem_cons_zero, List.setIfInBounds_toArray, List.set_cons_zero, List.set_cons_succ]
   refine wpAnyH_done (by kernel_rfl) ?_ _
   have y5 := HQ.out.cells.1.2.2.2.2.1
   have hsa : SI V105 .i64 A3 m3 (KF :: a) := SI.of_own HARG.out (by show m3 * 8 ≤ _; have := HM3.out; omega)
   have HF := Lib.hid (format_any V105 hsa HCP.out)
   clear hsa
   have HST : Hid (r = if formatB (KF :: a) then some ⟨writeT, [], [t1], t2, KF :: a⟩ else none) := by show _ = _; rw [← HR.out, stepM_write H0.out, if_pos ⟨by rw [HLN.out]; exact HM.out, by rw [HG1.out]; exact HHN1.out, by rw [HG2.out]; exact HHN2.out⟩, HRA.out, HG1.out, HG2.out, HG3.out, HKFN.out]
   obtain ⟨fb, hfb⟩ : ∃ b, formatB (KF :: a) = b := ⟨_, rfl⟩
   rw [hfb] at HF HST
   clear hfb
   cases fb
   ·go_wp2_with (first | (go_at_call 51; refine HF.out.mono ?_; rintro e VF ⟨hbv, he⟩; simp only [Bool.false_eq_true, if_false] at he; subst he; have HQ := Lib.hid (HQ.out.on (hbv.mono (by have := HQ.out.lt; omega))); clear hbv) | fail)
    rw [HST.out]
    exact door_bad rfl rfl HQ.out
   go_wp2_with (first | (go_at_call 51; refine HF.out.mono ?_; rintro e VF ⟨hbv, he⟩; simp only [if_true] at he; subst he; have HQ := Lib.hid (HQ.out.on (hbv.mono (by have := HQ.out.lt; omega))); have HSRC := Lib.hid (own_below HSRC.out hbv); have HARG := Lib.hid (own_below HARG.out hbv); clear hbv; (obtain ⟨SC, hSC⟩ : ∃ x, stC 0 zr ⟨#[]⟩ (some ⟨gs, 0, none⟩) 1 1 z2 A3 m3 c3 = x := ⟨_, rfl⟩); (have HSC := Lib.hid hSC); (have hrow := HQ.out.s); (rw [hSC] at hrow); (have HROW := Lib.hid hrow); (have hsz6 : SC.size = 6 := by rw [← hSC]; rfl); (have HS6 := Lib.hid hsz6); (have hone : SC.all (·.oneCell') = true := by rw [← hSC]; exact stC_one _ _ _ _ _ _ _ _ _ _); (have HONE := Lib.hid hone); (clear hrow hsz6 hone hSC)) | (refine wpList_load_row rfl 37 (.tmp 2) rfl w.heap.size rfl 37 SC (0, 0) _ HROW.out Tryz.underlying37 rfl (by rw [HS6.out]; exact infoSt) ?_) | (refine wpList_store_rowG rfl 37 (.tmp 2) (.tmp 66) rfl w.heap.size SC rfl rfl 37 SC HROW.out (by rw [HS6.out]; exact infoSt) rfl HONE.out ?_) | fail)
   intro W2 hr2 hg2
   rw [← HSC.out] at hr2
   obtain ⟨W3, hW3, k1, k2, HFIN⟩ := HQ.out.fin hr2 hg2
   clear hr2 hg2
   go_wp2_with fail
   try rw [hW3]
   obtain ⟨g1, g2, g3, g4⟩ := HFIN.out
   have HE : Hid (r = some ⟨writeT, [], [t1], t2, KF :: a⟩) := by show _ = _; exact HST.out
   rw [HE.out]
   refine door_yes rfl rfl g3 (by show _ = some (Obj.cells (stC 0 (ba writeT) (ba []) (some ⟨gs, 0, none⟩) 1 1 (ba t2) A3 m3 c3) 37 (0, 0)); rw [HZR.out, HZ2.out]; exact g1) g2 (by show World.ownsRow _ _ _ _ _ _ [.string (ba t1)]; rw [HZ1.out]; exact g4 _ _ _ _ HSRC.out) (g4 _ _ _ _ HARG.out)
end Go.Proofs.YtoofgblmpjndjaaGreatDoor.Scr
set_option linter.unusedVariables false
set_option linter.unusedSimpArgs false
namespace Go.Proofs.YtoofgblmpjndjaaGreatDoor.Scr
open Go.RowKit K Go.Lib

theorem checkM_two (op : Tx) (a : List Int) : (checkM op a).2 = 1 ∨ (checkM op a).2 = 2 := by
 unfold checkM
 split
 ·exact .inl rfl
 ·split
  ·exact .inl rfl
  ·split
   ·exact .inl rfl
   ·exact .inr rfl
theorem all_mem {l : List Tx} {k n : Nat} {t : Tx} (h : l[2 + k]? = some t) (hk : k < n) (hb : nameB t = false) : ((l.drop 2).take n).all nameB = false := by
 cases h2 : ((l.drop 2).take n).all nameB with
 | false => rfl
 | true =>
  rw [List.all_eq_true] at h2
  have hm : t ∈ (l.drop 2).take n := by
   refine List.mem_of_getElem? (i := k) ?_
   rw [List.getElem?_take, if_pos hk, List.getElem?_drop]
   exact h
  rw [h2 t hm] at hb
  cases hb
theorem take_next {l : List Tx} {k : Nat} {t : Tx} (h : l[2 + k]? = some t) : (l.drop 2).take (k + 1) = (l.drop 2).take k ++ [t] := by
 rw [List.take_add_one, List.getElem?_drop, h]
 rfl
theorem sl_own1 {w : World} {base : Nat} {T : TypeId} {g : Nat} {v : Value} (h : w.ownsRow base T 1 (.slice (some ⟨g, 0, none⟩) 1 1) 1 [v]) : Sl w (some ⟨g, 0, none⟩) [v] := fun j u hu => by
 refine ⟨g, 0, rfl, ?_⟩
 have hc := h.cells rfl j u hu
 rw [Addr.add_lit] at hc
 exact hc
theorem subA_two {b o c : Nat} (h : 3 ≤ c) : subA (some ⟨b, o, none⟩) 2 c = some ⟨b, o + 2, none⟩ := by
 unfold subA
 rw [if_neg (by omega), Option.map_some, Addr.add_lit]
set_option maxRecDepth 20000 in
set_option maxHeartbeats 8000000 in
theorem step_op {A : Option Addr} {n c : Nat} {l : List Tx} {op : Tx} (w : World) (H : SS w A n l) (hn : 1 ≤ n) (hcap : n ≤ c) (h0 : l.getD 0 [] = op) (h1 : op ≠ readT) (h2 : op ≠ writeT) (h3 : op ≠ fillT) (hsz : op.length ≤ maxLen) :
  Calls Tryz.prog 23 #[.slice A n c] w (StepP w (stepM l)) := by
 have hmf : ∀ (fn : Fn) (first cap : Array Value) (w : World), (Instr.makeFunc fn first cap).run Tryz.prog w = .ok (.func fn first cap) w := fun _ _ _ _ => rfl
 have HS := Lib.hid H
 have HLN := Lib.hid H.len
 have HCAP := Lib.hid hcap
 have HNS := Lib.hid H.sz
 have H0 := Lib.hid h0
 obtain ⟨r, hr0⟩ : ∃ r, stepM l = r := ⟨_, rfl⟩
 rw [hr0]
 have HR := Lib.hid hr0
 obtain ⟨W, hW, hq⟩ := SQ.named w
 obtain ⟨b0, o0, t0, rfl, hc0, ht0, hb0⟩ := H.cell (i := 0) (by omega)
 have HB0 := Lib.hid hb0
 rw [Nat.add_zero] at hc0
 have htr : op = t0 := by rw [← h0, List.getD_eq_getElem?_getD, ht0]; rfl
 subst htr
 have hc0 := (hq.bel.cell (p := ⟨b0, o0, none⟩) hb0).trans hc0
 have c1 : W.cell? ⟨w.heap.size, 1, none⟩ = some (.string ⟨#[]⟩) := hq.cells.1.1
 have f1 := hq.cells.2.1 1
 have n0 : (0 : Int) < n := by omega
 have n1 : 0 < n := hn
 have n2 : n ≠ 0 := by omega
 obtain ⟨W1, hW1, hq1⟩ : ∃ W1, W.setCell ⟨w.heap.size, 1, none⟩ (.string (ba op)) = W1 ∧ SQ w W1 (ba op) ⟨#[]⟩ none 0 0 ⟨#[]⟩ none 0 0 := ⟨_, rfl, hq.setOp _⟩
 have d1 := hq1.cells.1.1
 have r0 : ((ba op).toList == [114, 101, 97, 100]) = false := by rw [tl_ba]; exact beq_eq_false_iff_ne.2 h1
 have r1 : ((ba op).toList == [119, 114, 105, 116, 101]) = false := by rw [tl_ba]; exact beq_eq_false_iff_ne.2 h2
 have r2 : ((ba op).toList == [102, 105, 108, 108]) = false := by rw [tl_ba]; exact beq_eq_false_iff_ne.2 h3
 have HST : Hid (r = (if 2 + (checkM op []).2 ≤ l.length ∧ nameB (l.getD 1 []) = true ∧ ((l.drop 2).take (checkM op []).2).all nameB = true then match numsM (l.drop (2 + (checkM op []).2)) with | none => none | some a => if (checkM op a).1 = 0 then some ⟨op, l.getD 1 [], (l.drop 2).take (checkM op []).2, [], a⟩ else none else none)) := by show _ = _; rw [← hr0]; exact stepM_op h0 h1 h2 h3
 have HCK : Hid (Calls Tryz.prog 53 #[.string (ba op), .slice none 0 0] W1 (CheckQ W1 (checkM op []))) := check_any W1 (SI.nil W1) hsz
 have h12 := checkM_two op []
 obtain ⟨⟨E0, N⟩, hck⟩ : ∃ k, checkM op [] = k := ⟨_, rfl⟩
 rw [hck] at HST HCK h12
 have HCKN := Lib.hid hck
 have h12 : N = 1 ∨ N = 2 := h12
 have HSZO := Lib.hid hsz
 obtain ⟨zr, hzr⟩ : ∃ z, ba op = z := ⟨_, rfl⟩
 have HZR := Lib.hid hzr
 rw [hzr] at hc0 hW1 d1 hq1 r0 r1 r2 HCK
 have HQ1 := Lib.hid hq1
 obtain ⟨M2, hM2⟩ : ∃ k, 2 + N = k := ⟨_, rfl⟩
 have HM2 := Lib.hid hM2
 have H12 := Lib.hid h12
 have w1 : wrap64 (2 + (N : Int)) = (M2 : Int) := by rw [IntWalk.wrap64_in _ (by omega)]; omega
 have w2 : IntKind.i64.wrap (2 + (N : Int)) = (M2 : Int) := by rw [IntKind.wrap_i64]; omega
 clear H hq ht0 h0 hq1 hzr hr0 hcap hb0 h1 h2 h3 hsz hck h12 hM2
 go_enter_defers Tryz.func23, Tryz.ntmps23
 go_wp2_with (first | (go_at_call 53; refine HCK.out.mono ?_; rintro e V1 ⟨rfl, hb⟩; have HQ1 := Lib.hid (HQ1.out.on (hb.mono (by have := HQ1.out.lt; omega))); have HX := Lib.hid (must_no V1); have HY := Lib.hid (must_yes V1); clear hb) | fail)
 have HX := Lib.hid (must_no V1)
 have HY := Lib.hid (must_yes V1)
 by_cases hm : ¬ (M2 ≤ n)
 ·have t3 : decide (M2 ≤ n) = false := decide_eq_false (by omega)
  have HE : Hid (r = none) := by show _ = _; rw [HST.out, if_neg (fun h => hm (by rw [← HM2.out, ← HLN.out]; exact h.1))]
  rw [t3]
  clear hm
  refine HX.out.mono ?_
  rintro e w' ⟨rfl, rfl⟩
  go_wp2_with fail
  rw [HE.out]
  exact door_bad rfl rfl HQ1.out
 replace hm := Decidable.not_not.1 hm
 have hn3 : 3 ≤ n := by have := HM2.out; have := H12.out; omega
 obtain ⟨b1', o1', t1, e1, hc1, ht1, -⟩ := HS.out.cell (i := 1) (by omega)
 injection e1 with e1
 injection e1 with ea1 eb1
 subst ea1 eb1
 have HG1 : Hid (l.getD 1 [] = t1) := by show _ = _; rw [List.getD_eq_getElem?_getD, ht1]; rfl
 obtain ⟨z1, hz1⟩ : ∃ z, ba t1 = z := ⟨_, rfl⟩
 have HZ1 := Lib.hid hz1
 rw [hz1] at hc1
 have HC1 := Lib.hid hc1
 have x1 := (HQ1.out.bel.cell (p := ⟨b0, o0 + 1, none⟩) HB0.out).trans hc1
 have i1 : (1 : Int) < n := by omega
 clear hc1 ht1 hz1
 have t3 : decide (M2 ≤ n) = true := decide_eq_true (by omega)
 rw [t3]
 have hsp := fun w => run_part (P := Tryz.prog) (t := 34) (e := 9) (n := n) (c := c) (A := some ⟨b0, o0, none⟩) (a := 2) (m := M2) (i := 2) (j := (M2 : Int)) Tryz.underlying34 szS rfl rfl (by have := HM2.out; omega) (by have := HCAP.out; omega) w
 rw [subA_two (by have := HCAP.out; omega), show M2 - 2 = N from by have := HM2.out; omega] at hsp
 obtain ⟨c2p, hc2p⟩ : ∃ x, c - 2 = x := ⟨_, rfl⟩
 rw [hc2p] at hsp
 clear hc2p
 have hsl := fun w => run_from (P := Tryz.prog) (t := 34) (e := 9) (n := n) (c := c) (A := some ⟨b0, o0, none⟩) (a := M2) (i := (M2 : Int)) Tryz.underlying34 szS rfl hm w
 have HSD := Lib.hid (ssDrop HS.out (a := M2) (c := c) hm HCAP.out)
 obtain ⟨X, hX⟩ : ∃ x, subA (some ⟨b0, o0, none⟩) M2 c = x := ⟨_, rfl⟩
 obtain ⟨m, hm2⟩ : ∃ x, n - M2 = x := ⟨_, rfl⟩
 obtain ⟨cm, hcm⟩ : ∃ x, c - M2 = x := ⟨_, rfl⟩
 rw [hX, hm2, hcm] at hsl
 rw [hX, hm2] at HSD
 clear hX hm2 hcm
 obtain ⟨ra, hra⟩ : ∃ x, numsM (l.drop M2) = x := ⟨_, rfl⟩
 have HRA := Lib.hid hra
 have HNUMS : Hid (∀ V, Below w.heap.size w V → Calls Tryz.prog 50 #[.slice X m cm] V (NumbersP V ra)) := fun V hV => by rw [← hra]; exact numbers_any V (HSD.out.below hV) (fun t V2 _ => number_any V2)
 clear hra
 have HM := Lib.hid hm
 clear hm hn3 t3
 have HNM : Hid (Calls Tryz.prog 46 #[.string z1] V1 (TextP V1 t1 (nameB t1))) := by rw [← HZ1.out]; exact name_made V1
 refine HY.out.mono ?_
 rintro e w' ⟨rfl, rfl⟩
 by_cases hn1 : ¬ (nameB t1 = true)
 ·have HE : Hid (r = none) := by show _ = _; rw [HST.out, if_neg (fun h => hn1 (by rw [← HG1.out]; exact h.2.1))]
  have HNO := Lib.hid hn1
  clear hn1
  go_wp2_with (first | (go_at_call 46; refine HNM.out.mono ?_; rintro e V2 ⟨hbv, he⟩; rw [if_neg HNO.out] at he; subst he; have HQ := Lib.hid (HQ1.out.on (hbv.mono (by have := HQ1.out.lt; omega))); clear hbv) | fail)
  rw [HE.out]
  exact door_bad rfl rfl HQ.out
 replace hn1 := Decidable.not_not.1 hn1
 have HHN1 := Lib.hid hn1
 clear hn1
 go_wp2_with (first | (go_at_call 46; refine HNM.out.mono ?_; rintro e V2 ⟨hbv, he⟩; rw [if_pos HHN1.out, HZ1.out] at he; subst he; have HQ := Lib.hid (HQ1.out.on (hbv.mono (by have := HQ1.out.lt; omega))); clear hbv; obtain ⟨y1, y2, y3, y4, y5, -⟩ := HQ.out.cells.1; have yf := HQ.out.cells.2.1 2; have HQ := Lib.hid (HQ.out.setDst z1); obtain ⟨V3, hV3⟩ : ∃ x, V2.setCell ⟨w.heap.size, 2, none⟩ (.string z1) = x := ⟨_, rfl⟩; rw [hV3] at HQ) | fail)
 try rw [hV3]
 clear hV3 y1 y2 y3 y4 y5 yf x1
 go_loopw [7, 120] (fun s7 s120 wx => ∃ (k : Nat) (A1 : Option Addr) (c1 : Nat), k ≤ N ∧ s120 = .int .i64 (k : Int) ∧ Hid (SQ w wx zr z1 A1 k c1 ⟨#[]⟩ none 0 0) ∧ Hid (((l.drop 2).take k).all nameB = true) ∧ Hid (wx.ownsRow (w.heap.size + 2) 9 1 (.slice A1 k c1) k (((l.drop 2).take k).map vS))) (fun _ s120 _ => N - (intOf s120).toNat)
 case atStart => exact ⟨0, none, 0, Nat.zero_le _, rfl, HQ, rfl, World.ownsRow_nil _ _ _ _⟩
 case round =>
  obtain ⟨k, A1, c1, hk, rfl, HQ, HAL, HOS⟩ := hrel
  by_cases hlt : k < N
  ·have HLT := Lib.hid hlt
   obtain ⟨bk', ok', tt, ek, hck, htt, -⟩ := HS.out.cell (i := 2 + k) (by have := HM.out; have := HM2.out; omega)
   injection ek with ek
   injection ek with ea eb
   subst ea eb
   have HTT := Lib.hid htt
   obtain ⟨zt, hzt⟩ : ∃ z, ba tt = z := ⟨_, rfl⟩
   have HZt := Lib.hid hzt
   rw [hzt, ← Nat.add_assoc] at hck
   have xt := (HQ.out.bel.cell (p := ⟨b0, o0 + 2 + k, none⟩) HB0.out).trans hck
   have d0 : decide ((k : Int) < (N : Int)) = true := decide_eq_true (by omega)
   have e0 : decide (k < N) = true := decide_eq_true hlt
   have l0 : (k : Int) < N := by omega
   have z0 : (0 : Int) ≤ k := by omega
   have HU : Hid (wrap64 ((k : Int) + 1) = ((k + 1 : Nat) : Int)) := by show _ = _; have := H12.out; rw [IntWalk.wrap64_in _ (by omega)]; rfl
   have HNT : Hid (∀ V, Calls Tryz.prog 46 #[.string zt] V (TextP V tt (nameB tt))) := fun V => by rw [← HZt.out]; exact name_made V
   clear hck htt hzt hlt hk
   go_wp2_with fail
   refine Ord.region_K (fun V => V.cell? ⟨w.heap.size, 3, none⟩ = some (.slice A1 k c1)) 7 (by kernel_rfl) ?_
   obtain ⟨V0, hV0⟩ : ∃ x, wr.drew = x := ⟨_, rfl⟩
   have HQ := Lib.hid (HQ.out.on (Below.refl _ _).drew)
   have HOS := Lib.hid (own_below HOS.out (Below.refl _ _).drew)
   rw [hV0] at HQ HOS ⊢
   clear hV0
   refine Ord.anyK_take (i := 0) (v := .pointer (some ⟨w.heap.size, 3, none⟩)) HQ.out.cells.1.2.2.1 rfl (by kernel_rfl) (by kernel_rfl) (by kernel_rfl) (by kernel_rfl) (fun _ _ _ h => bodyD_put (by decide) (by decide) h) (Or.inl ⟨by rfl, ?_⟩) ?_
   ·intro wz hSw; obtain s1 := hSw; go_simp
   try simp only [Act.put, List.getElem_toArray, List.getElem_cons_succ, List.getElem_cons_zero, List.setIfInBounds_toArray, List.set_cons_zero, List.set_cons_succ]
   refine Ord.anyK_take (i := 1) (v := .slice A1 k c1) HQ.out.cells.1.2.2.1 rfl (by kernel_rfl) (by kernel_rfl) (by kernel_rfl) (by kernel_rfl) (fun _ _ _ h => bodyD_put (by decide) (by decide) h) (Or.inl ⟨by rfl, ?_⟩) ?_
   ·intro wz hSw; obtain s1 := hSw; go_simp
   try simp only [Act.put, List.getElem_toArray, List.getElem_cons_succ, List.getElem_cons_zero, List.setIfInBounds_toArray, List.set_cons_zero, List.set_cons_succ]
   refine Ord.anyK_take (i := 2) (v := .string zt) HQ.out.cells.1.2.2.1 rfl (by kernel_rfl) (by kernel_rfl) (by kernel_rfl) (by kernel_rfl) (fun _ _ _ h => bodyD_put (by decide) (by decide) h) (Or.inl ⟨by rfl, ?_⟩) ?_
   ·intro wz hSw; obtain s1 := hSw; go_simp
   try simp only [Act.put, List.getElem_toArray, List.getElem_cons_succ, List.getElem_cons_zero, List.setIfInBounds_toArray, List.set_cons_zero, List.set_cons_succ]
   refine Ord.anyK_ready (rs := [3]) (by kernel_rfl) (by simp) ?_
   refine Ord.AllK.cons rfl (fun K hK => ?_) Ord.AllK.nil
   go_simp
   refine (HNT.out _).mono ?_
   rintro e V1 ⟨hbv, he⟩
   have HQ := Lib.hid (HQ.out.on (hbv.mono (by have := HQ.out.lt; omega)))
   have HOS := Lib.hid (own_below HOS.out hbv)
   clear hbv
   by_cases hnt : ¬ (nameB tt = true)
   ·rw [if_neg hnt] at he
    subst he
    have HE : Hid (r = none) := by show _ = _; rw [HST.out, if_neg (fun h => hnt (by cases hb2 : nameB tt with | true => rfl | false => (have := all_mem HTT.out HLT.out hb2; rw [this] at h; exact absurd h.2.2 (by decide))))]
    try dsimp only
    go_wp2_with fail
    rw [HE.out]
    exact door_bad rfl rfl HQ.out
   replace hnt := Decidable.not_not.1 hnt
   rw [if_pos hnt] at he
   rw [HZt.out] at he
   subst he
   have HHNT := Lib.hid hnt
   clear hnt
   refine hK.out _ _ (fun _ => HQ.out.cells.1.2.2.1) ?_
   clear hK K
   try simp only [Act.put, List.getElem_toArray, List.getElem_cons_succ, List.getElem_cons_zero, List.setIfInBounds_toArray, List.set_cons_zero, List.set_cons_succ]
   refine Ord.anyK_ready (rs := [4]) (by kernel_rfl) (by simp) ?_
   refine Ord.AllK.cons rfl (fun K hK => ?_) Ord.AllK.nil
   go_simp
   have hbase : w.heap.size + 2 ≤ V1.heap.size := by have := HQ.out.lt; omega
   obtain ⟨V2, hV⟩ : ∃ x, V1.alloc (.cells #[.string zt] 9) = x := ⟨_, rfl⟩
   have hown := own_lower (own_lit V1 [.string zt] 9 (by show 1 ≤ maxLen; decide)) hbase
   have hbv : Below V1.heap.size V1 V2 := by rw [← hV]; exact (Below.refl _ _).alloc (Nat.le_refl _) _
   have HQ := Lib.hid (HQ.out.on (hbv.mono hbase))
   have HOS := Lib.hid (own_below HOS.out hbv)
   obtain ⟨gk, hg⟩ : ∃ g, V1.heap.size = g := ⟨_, rfl⟩
   have HK : Hid (V2.ownsRow (w.heap.size + 2) 9 1 (.slice (some ⟨V1.heap.size, 0, none⟩) 1 1) 1 [.string zt]) := by rw [← hV]; exact hown
   rw [hg] at HK ⊢
   try rw [hV]
   clear hV hg hown hbase hbv
   refine hK.out _ _ (fun _ => HQ.out.cells.1.2.2.1) ?_
   clear hK K
   try simp only [Act.put, List.getElem_toArray, List.getElem_cons_succ, List.getElem_cons_zero, List.setIfInBounds_toArray, List.set_cons_zero, List.set_cons_succ]
   refine Ord.anyK_ready (rs := [5]) (by kernel_rfl) (by simp) ?_
   refine Ord.AllK.cons rfl (fun K hK => ?_) Ord.AllK.nil
   rw [if_pos (by rfl)]
   have hbase : w.heap.size + 2 ≤ V2.heap.size := by have := HQ.out.lt; omega
   have hsl1 : Sl V2 (some ⟨gk, 0, none⟩) [.string zt] := sl_own1 HK.out
   refine wp_append_sl (.tmp 125) (.tmp 128) 34 rfl (w.heap.size + 2) 9 1 16 (.string ⟨#[]⟩) Tryz.underlying34 infoStr rfl (by decide) (.slice A1 k c1) k (((l.drop 2).take k).map vS) rfl HOS.out (some ⟨gk, 0, none⟩) 1 1 [.string zt] rfl rfl hsl1 (by simp [Value.oneCell']) (by have := HLT.out; have := H12.out; unfold maxLen; omega) (by have := HLT.out; have := H12.out; omega) hbase ?_
   rintro v' V3 h1 h2 -
   obtain ⟨A3, c3, rfl, hc3⟩ := own_shape h1
   have HQ := Lib.hid (HQ.out.on ((Below.refl _ _).grown h2 hbase (fun q hq => (HOS.out.lt q hq).1)))
   have HNX : Hid (V3.ownsRow (w.heap.size + 2) 9 1 (.slice A3 (k + 1) c3) (k + 1) (((l.drop 2).take (k + 1)).map vS)) := by
    show World.ownsRow _ _ _ _ _ _ _
    rw [take_next HTT.out, List.map_append]
    show World.ownsRow _ _ _ _ _ _ (_ ++ [.string (ba tt)])
    rw [HZt.out]
    exact h1
   have HAN : Hid (((l.drop 2).take (k + 1)).all nameB = true) := by show _ = _; rw [take_next HTT.out, List.all_append, HAL.out]; simp [HHNT.out]
   clear h1 h2 hc3 hbase hsl1
   refine hK.out _ _ (fun _ => HQ.out.cells.1.2.2.1) ?_
   clear hK K
   try simp only [Act.put, List.getElem_toArray, List.getElem_cons_succ, List.getElem_cons_zero, List.setIfInBounds_toArray, List.set_cons_zero, List.set_cons_succ]
   refine Ord.anyK_take (i := 6) (v := .pointer (some ⟨w.heap.size, 3, none⟩)) HQ.out.cells.1.2.2.1 rfl (by kernel_rfl) (by kernel_rfl) (by kernel_rfl) (by kernel_rfl) (fun _ _ _ h => bodyD_put (by decide) (by decide) h) (Or.inl ⟨by rfl, ?_⟩) ?_
   ·intro wz hSw; obtain s1 := hSw; go_simp
   try simp only [Act.put, List.getElem_toArray, List.getElem_cons_succ, List.getElem_cons_zero, List.setIfInBounds_toArray, List.set_cons_zero, List.set_cons_succ]
   refine Ord.anyK_ready (rs := [7]) (by kernel_rfl) (by simp) ?_
   refine Ord.AllK.cons rfl (fun K hK => ?_) Ord.AllK.nil
   have yc := HQ.out.cells.1
   have yf := HQ.out.cells.2.1 3
   obtain ⟨y1, y2, y3, y4, y5, -⟩ := yc
   have HQ := Lib.hid (HQ.out.setSrcs A3 (k + 1) c3)
   obtain ⟨V4, hV⟩ : ∃ x, V3.setCell ⟨w.heap.size, 3, none⟩ (.slice A3 (k + 1) c3) = x := ⟨_, rfl⟩
   rw [hV] at HQ
   have HNX : Hid (V4.ownsRow (w.heap.size + 2) 9 1 (.slice A3 (k + 1) c3) (k + 1) (((l.drop 2).take (k + 1)).map vS)) := by rw [← hV]; exact ownsRow_setCell_below HNX.out (a := ⟨w.heap.size, 3, none⟩) (by show w.heap.size < w.heap.size + 2; omega) _
   go_simp
   try rw [hV]
   clear hV y1 y2 y3 y4 y5 yf
   refine hK.out _ _ (fun h => absurd h (by decide)) ?_
   clear hK K
   try simp only [Act.put, List.getElem_toArray, List.getElem_cons_succ, List.getElem_cons_zero, List.setIfInBounds_toArray, List.set_cons_zero, List.set_cons_succ]
   refine Ord.anyK_done (by kernel_rfl) ?_ _
   go_wp2_with fail
   go_roundw
   case rel => exact ⟨k + 1, A3, c3, HLT.out, by first | rfl | rw [HU.out], HQ, HAN, HNX⟩
   case measure => first | exact meas_by (d := 1) HLT.out (by omega) | (rw [HU.out]; exact meas_by (d := 1) HLT.out (by omega))
  ·obtain rfl : k = N := by omega
   have d0 : decide ((k : Int) < (k : Int)) = false := decide_eq_false (by omega)
   have HNU := Lib.hid (HNUMS.out wr HQ.out.bel)
   have hbase : w.heap.size + 2 ≤ wr.heap.size := by have := HQ.out.lt; omega
   have HBASE := Lib.hid hbase
   have HIF : Hid (2 + k ≤ l.length ∧ nameB (l.getD 1 []) = true ∧ ((l.drop 2).take k).all nameB = true) := ⟨by rw [HLN.out, HM2.out]; exact HM.out, by rw [HG1.out]; exact HHN1.out, HAL.out⟩
   clear hlt hk hbase
   cases ra with
   | none =>
    go_wp2_with (first | (go_at_call 50; refine HNU.out.mono ?_; rintro e V4 ⟨hbv, he⟩; (try (simp only at he)); subst he; have HQ := Lib.hid (HQ.out.on (hbv.mono HBASE.out)); clear hbv) | fail)
    rw [show r = none from by rw [HST.out, if_pos HIF.out, HM2.out, HRA.out]]
    exact door_bad rfl rfl HQ.out
   | some a =>
    have HST3 : Hid (r = if (checkM op a).1 = 0 then some ⟨op, t1, (l.drop 2).take k, [], a⟩ else none) := by show _ = _; rw [HST.out, if_pos HIF.out, HM2.out, HRA.out, HG1.out]
    have HLENA : Hid (a.length ≤ 8796093022000) := by show _ ≤ _; have h1 := numsM_len HRA.out; have h2 := HSD.out.len; have h3 := HSD.out.sz; omega
    go_wp2_with (first | (go_at_call 50; refine HNU.out.mono ?_; rintro e V4 ⟨hbv, he⟩; obtain ⟨A2, c2, rfl, hown⟩ := he; have HQ := Lib.hid (HQ.out.on (hbv.mono HBASE.out)); have HOS := Lib.hid (own_below HOS.out hbv); have HARG := Lib.hid (own_lower hown HBASE.out); clear hbv hown; obtain ⟨AL, hAL⟩ : ∃ k, a.length = k := ⟨_, rfl⟩; have HALN := Lib.hid hAL; rw [hAL] at HARG ⊢; clear hAL; obtain ⟨y1, y2, y3, y4, y5, -⟩ := HQ.out.cells.1; have yf := HQ.out.cells.2.1 5; have HQ := Lib.hid (HQ.out.setArgs A2 AL c2); have HOS := Lib.hid (ownsRow_setCell_below HOS.out (a := ⟨w.heap.size, 5, none⟩) (by show w.heap.size < w.heap.size + 2; omega) (.slice A2 AL c2)); have HARG := Lib.hid (ownsRow_setCell_below HARG.out (a := ⟨w.heap.size, 5, none⟩) (by show w.heap.size < w.heap.size + 2; omega) (.slice A2 AL c2)); obtain ⟨V5, hV5⟩ : ∃ x, V4.setCell ⟨w.heap.size, 5, none⟩ (.slice A2 AL c2) = x := ⟨_, rfl⟩; rw [hV5] at HQ HOS HARG; clear y1 y2 y3 y4; obtain ⟨q1, q2, q3, q4, q5, -⟩ := HQ.out.cells.1; have hsa : SI V5 .i64 A2 AL a := SI.of_own HARG.out (by show AL * 8 ≤ _; have := HLENA.out; have := HALN.out; omega); have HC2 : Hid (Calls Tryz.prog 53 #[.string zr, .slice A2 AL c2] V5 (CheckQ V5 (checkM op a))) := (by rw [← HZR.out]; exact check_any V5 hsa HSZO.out); clear hsa; obtain ⟨⟨E1, N1⟩, hck1⟩ : ∃ k, checkM op a = k := ⟨_, rfl⟩; rw [hck1] at HC2; have HCK1 := Lib.hid hck1; clear hck1) | (go_at_call 53; refine HC2.out.mono ?_; rintro e V6 ⟨rfl, hbv⟩; have HQ := Lib.hid (HQ.out.on (hbv.mono (by have := HQ.out.lt; omega))); have HOS := Lib.hid (own_below HOS.out hbv); have HARG := Lib.hid (own_below HARG.out hbv); clear hbv q1 q2 q3 q4 q5 y5 yf) | fail)
    by_cases he1 : ¬ (E1 = 0)
    ·have t4 : (E1 == 0) = false := by simpa using he1
     have HE : Hid (r = none) := by show _ = _; rw [HST3.out, HCK1.out, if_neg he1]
     rw [t4]
     clear he1
     refine (must_no _).mono ?_
     rintro e w' ⟨rfl, rfl⟩
     go_wp2_with fail
     rw [HE.out]
     exact door_bad rfl rfl HQ.out
    replace he1 := Decidable.not_not.1 he1
    have HE : Hid (r = some ⟨op, t1, (l.drop 2).take k, [], a⟩) := by show _ = _; rw [HST3.out, HCK1.out, if_pos he1]
    have t4 : (E1 == 0) = true := by simpa using he1
    rw [t4]
    clear he1
    refine (must_yes _).mono ?_
    rintro e w' ⟨rfl, hw⟩
    subst hw
    obtain ⟨SC, hSC⟩ : ∃ x, stC 0 zr z1 A1 k c1 ⟨#[]⟩ A2 AL c2 = x := ⟨_, rfl⟩
    have HSC := Lib.hid hSC
    have hrow := HQ.out.s
    rw [hSC] at hrow
    have HROW := Lib.hid hrow
    have hsz6 : SC.size = 6 := by rw [← hSC]; rfl
    have HS6 := Lib.hid hsz6
    have hone : SC.all (·.oneCell') = true := by rw [← hSC]; exact stC_one _ _ _ _ _ _ _ _ _ _
    have HONE := Lib.hid hone
    clear hrow hsz6 hone hSC
    go_wp2_with (first | (refine wpList_load_row rfl 37 (.tmp 2) rfl w.heap.size rfl 37 SC (0, 0) _ HROW.out Tryz.underlying37 rfl (by rw [HS6.out]; exact infoSt) ?_) | (refine wpList_store_rowG rfl 37 (.tmp 2) (.tmp 149) rfl w.heap.size SC rfl rfl 37 SC HROW.out (by rw [HS6.out]; exact infoSt) rfl HONE.out ?_) | fail)
    intro W2 hr2 hg2
    rw [← HSC.out] at hr2
    obtain ⟨W3, hW3, k1, k2, HFIN⟩ := HQ.out.fin hr2 hg2
    clear hr2 hg2
    go_wp2_with fail
    try rw [hW3]
    obtain ⟨g1, g2, g3, g4⟩ := HFIN.out
    have HE : Hid (r = some ⟨op, t1, (l.drop 2).take k, [], a⟩) := by show _ = _; exact HE.out
    rw [HE.out]
    refine door_yes rfl rfl g3 (by show _ = some (Obj.cells (stC 0 (ba op) (ba t1) A1 k c1 (ba []) A2 AL c2) 37 (0, 0)); rw [HZR.out, HZ1.out]; exact g1) g2 (g4 _ _ _ _ HOS.out) (g4 _ _ _ _ HARG.out)
end Go.Proofs.YtoofgblmpjndjaaGreatDoor.Scr
set_option linter.unusedVariables false
set_option linter.unusedSimpArgs false
namespace Go.Proofs.YtoofgblmpjndjaaGreatDoor.Scr
open Go.RowKit K Go.Lib

theorem step_any {A : Option Addr} {n c : Nat} {l : List Tx} (w : World) (H : SS w A n l) (hn : 1 ≤ n) (hcap : n ≤ c) (hsz : (l.getD 0 []).length ≤ maxLen) : Calls Tryz.prog 23 #[.slice A n c] w (StepP w (stepM l)) := by
 by_cases h1 : l.getD 0 [] = readT
 ·exact step_read w H hn hcap h1
 by_cases h2 : l.getD 0 [] = writeT
 ·exact step_write w H hn hcap h2
 by_cases h3 : l.getD 0 [] = fillT
 ·exact step_fill w H hn hcap h3
 exact step_op w H hn hcap rfl h1 h2 h3 hsz
end Go.Proofs.YtoofgblmpjndjaaGreatDoor.Scr
