/-
  Walks: the reference's Check of the operators.
-/
import Derived.Test.YtoofgblmpjndjaaGreatDoorZG6
import Derived.Deep.RegionHeld3
import Derived.Test.YtoofgblmpjndjaaGreatDoorZG7
set_option linter.unusedVariables false
set_option linter.unusedSimpArgs false
namespace Go.Proofs.YtoofgblmpjndjaaGreatDoor.Scr
open Go.RowKit K Go.Lib

theorem fits_fit : ∀ (b : List (Int × Int)) (a : List Int), Ard.fitsB b a = fitM b a
 | [], [] => rfl
 | [], v :: a => by unfold Ard.fitsB fitM; simp
 | p :: b, [] => by unfold Ard.fitsB fitM; simp
 | p :: b, v :: a => by
  show _ = (within p v && fitM b a)
  rw [← fits_fit b a]
  unfold Ard.fitsB within
  simp only [List.length_cons, List.range_succ_eq_map, List.all_cons, List.all_map, List.getD_cons_zero]
  have e : ((fun i => decide (((p :: b).getD i (0, 0)).1 ≤ (v :: a).getD i 0) && decide ((v :: a).getD i 0 ≤ ((p :: b).getD i (0, 0)).2)) ∘ Nat.succ) = (fun i => decide ((b.getD i (0, 0)).1 ≤ a.getD i 0) && decide (a.getD i 0 ≤ (b.getD i (0, 0)).2)) := by
   funext i
   simp only [Function.comp, Nat.succ_eq_add_one, List.getD_cons_succ]
  rw [e]
  rw [Bool.eq_iff_iff]
  simp only [Bool.and_eq_true, decide_eq_true_eq, Nat.add_right_cancel_iff]
  constructor
  ·rintro ⟨h1, h2, h3⟩; exact ⟨h2, h1, h3⟩
  ·rintro ⟨h2, h1, h3⟩; exact ⟨h1, h2, h3⟩
theorem flatP_len (b : List (Int × Int)) : (Ard.flatP b).length = 2 * b.length := by
 unfold Ard.flatP
 induction b with
 | nil => rfl
 | cons p b ih => rw [List.flatMap_cons, List.length_append, ih]; simp; omega
theorem findM_len {t : List (Tx × List (Int × Int))} {k : Nat} (ht : ∀ p ∈ t, p.2.length ≤ k) {op : Tx} {b : List (Int × Int)} (h : findM t op = some b) : b.length ≤ k := by
 obtain ⟨i, hi, hp⟩ := findM_at h
 exact ht _ (List.mem_of_getElem? hp)
theorem pts_len : ∀ p ∈ pts, p.2.length ≤ 11 := by decide
theorem mvs_len : ∀ p ∈ mvs, p.2.length ≤ 11 := by decide
theorem bld_len : ∀ p ∈ bld, p.2.length ≤ 11 := by decide
def ChkP (w : World) (r : Int) (e : Ending) (w' : World) : Prop := e = .returned (.int .i64 r) ∧ Below w.heap.size w w'
set_option maxHeartbeats 2000000 in
theorem rcheck21_any {op : ByteArray} {A : Option Addr} {n c : Nat} {a : List Int} (w : World) (HA : SI w .i64 A n a) : Calls Tryz.prog 86 #[.string op, .slice A n c] w (ChkP w (chkM mvs op.data.toList a)) := by
 have HAA := Lib.hid HA
 have HN := Lib.hid (rnames21 w)
 obtain ⟨r, hr⟩ : ∃ r, chkM mvs op.data.toList a = r := ⟨_, rfl⟩
 rw [hr]
 have HR := Lib.hid hr
 clear HA hr
 go_enter Tryz.func86, Tryz.ntmps86
 go_wp2_with fail
 refine HN.out.mono ?_
 rintro e w1 ⟨A1, c1, rfl, hs1, hb1⟩
 have HB1 := Lib.hid hb1
 have HC := Lib.hid (in_any (c := c1) op w1 hs1)
 rw [← findM_in] at HC
 clear hs1 hb1 HN
 cases hf : findM mvs op.data.toList with
 | none =>
  have HE : Hid (r = 8) := by show _ = _; rw [← HR.out]; unfold chkM; rw [hf]
  rw [hf] at HC
  have HC2 : Hid (Calls Tryz.prog 28 #[.string op, .slice A1 (mvs.map (·.1)).length c1] w1 fun e w' => e = .returned (.bool false) ∧ w1 = w') := HC
  clear hf HC
  go_wp2_with fail
  refine HC2.out.mono ?_
  rintro e w' ⟨rfl, rfl⟩
  go_wp2_with fail
  go_ret
  exact ⟨by rw [HE.out]; rfl, HB1.out⟩
 | some b =>
  have HE : Hid (r = if fitM b a then 0 else 190) := by show _ = _; rw [← HR.out]; unfold chkM; rw [hf]
  rw [hf] at HC
  have HC2 : Hid (Calls Tryz.prog 28 #[.string op, .slice A1 (mvs.map (·.1)).length c1] w1 fun e w' => e = .returned (.bool true) ∧ w1 = w') := HC
  have HBD := Lib.hid (rb21_any w1 hf)
  have HLN := Lib.hid (findM_len mvs_len hf)
  clear hf HC
  go_wp2_with fail
  refine HC2.out.mono ?_
  rintro e w' ⟨rfl, rfl⟩
  go_wp2_with fail
  refine HBD.out.mono ?_
  rintro e w2 ⟨A2, c2, rfl, hs2, hb2⟩
  have HB2 : Hid (Below w.heap.size w w2) := HB1.out.trans (hb2.mono HB1.out.size)
  have HF := Lib.hid (Ard.fit_any (c := c) (d := c2) w2 (HAA.out.below HB2.out (Nat.le_refl _)) rfl (flatP_len b) hs2 HLN.out)
  rw [fits_fit] at HF
  clear hs2 hb2 HC2 HBD
  cases hfit : fitM b a
  ·rw [hfit] at HE HF
   have HE2 : Hid (r = 190) := HE.out
   clear hfit HE
   go_wp2_with fail
   refine HF.out.mono ?_
   rintro e w4 ⟨rfl, q, rfl⟩
   go_wp2_with fail
   go_ret
   exact ⟨by rw [HE2.out]; rfl, Go.Proofs.YtoofgblmpjndjaaGreatDoor.K.below_drewN HB2.out _⟩
  ·rw [hfit] at HE HF
   have HE2 : Hid (r = 0) := HE.out
   clear hfit HE
   go_wp2_with fail
   refine HF.out.mono ?_
   rintro e w4 ⟨rfl, q, rfl⟩
   go_wp2_with fail
   go_ret
   exact ⟨by rw [HE2.out]; rfl, Go.Proofs.YtoofgblmpjndjaaGreatDoor.K.below_drewN HB2.out _⟩
-- by gen_scg.py
theorem ptsM_some {op : Tx} {a : List Int} {b : List (Int × Int)} (h : findM pts op = some b) : ptsM op a = if fitM b a && !moreB op a then 0 else 190 := by unfold ptsM; rw [h]
theorem moreB_no {op : Tx} {a : List Int} (h1 : (op == [108, 101, 118, 101, 108, 115]) = false) (h2 : (op == [115, 113, 117, 101, 101, 122, 101]) = false) : moreB op a = false := by unfold moreB; rw [h1, h2]; rfl
theorem moreB_lv {op : Tx} {a : List Int} (h1 : (op == [108, 101, 118, 101, 108, 115]) = true) (h2 : (op == [115, 113, 117, 101, 101, 122, 101]) = false) : moreB op a = decide (a.getD 1 0 ≤ a.getD 0 0) := by unfold moreB; rw [h1, h2]; simp
theorem moreB_sq {op : Tx} {a : List Int} (h1 : (op == [108, 101, 118, 101, 108, 115]) = false) (h2 : (op == [115, 113, 117, 101, 101, 122, 101]) = true) : moreB op a = decide (a.getD 1 0 < a.getD 0 0) := by unfold moreB; rw [h1, h2]; simp
theorem two_args {op : Tx} {b : List (Int × Int)} {a : List Int} (h : findM pts op = some b) (ho : op = [108, 101, 118, 101, 108, 115] ∨ op = [115, 113, 117, 101, 101, 122, 101]) (hf : fitM b a = true) : a.length = 2 := by
 have hb : b = [(0, 65535), (0, 65535)] := by
  rcases ho with rfl | rfl
  ·exact (Option.some.inj ((by decide : findM pts [108, 101, 118, 101, 108, 115] = some [(0, 65535), (0, 65535)]).symm.trans h)).symm
  ·exact (Option.some.inj ((by decide : findM pts [115, 113, 117, 101, 101, 122, 101] = some [(0, 65535), (0, 65535)]).symm.trans h)).symm
 subst hb
 match a, hf with
 | [x, y], _ => rfl
 | [], hf => exact absurd hf (by decide)
 | [x], hf => simp [fitM] at hf
 | x :: y :: z :: r, hf => simp [fitM] at hf
set_option maxRecDepth 20000 in
set_option maxHeartbeats 4000000 in
theorem rcheck20_any {op : ByteArray} {A : Option Addr} {n c : Nat} {a : List Int} (w : World) (HA : SI w .i64 A n a) : Calls Tryz.prog 84 #[.string op, .slice A n c] w (ChkP w (ptsM op.data.toList a)) := by
 have HAA := Lib.hid HA
 have HN := Lib.hid (rnames20 w)
 obtain ⟨r, hr⟩ : ∃ r, ptsM op.data.toList a = r := ⟨_, rfl⟩
 rw [hr]
 have HR := Lib.hid hr
 have hop := (ba_of op).symm
 have m1 : (op.toList == [108, 101, 118, 101, 108, 115]) = (op.data.toList == [108, 101, 118, 101, 108, 115]) := lit_beq hop
 have m2 : (op.toList == [115, 113, 117, 101, 101, 122, 101]) = (op.data.toList == [115, 113, 117, 101, 101, 122, 101]) := lit_beq hop
 clear HA hr hop
 go_enter Tryz.func84, Tryz.ntmps84
 go_wp2_with fail
 refine HN.out.mono ?_
 rintro e w1 ⟨A1, c1, rfl, hs1, hb1⟩
 have HB1 := Lib.hid hb1
 have HC := Lib.hid (in_any (c := c1) op w1 hs1)
 rw [← findM_in] at HC
 clear hs1 hb1 HN
 cases hf : findM pts op.data.toList with
 | none =>
  have HE : Hid (r = 8) := by show _ = _; rw [← HR.out]; unfold ptsM; rw [hf]
  rw [hf] at HC
  have HC2 : Hid (Calls Tryz.prog 28 #[.string op, .slice A1 (pts.map (·.1)).length c1] w1 fun e w' => e = .returned (.bool false) ∧ w1 = w') := HC
  clear hf HC m1 m2
  go_wp2_with fail
  refine HC2.out.mono ?_
  rintro e w' ⟨rfl, rfl⟩
  go_wp2_with fail
  go_ret
  exact ⟨by rw [HE.out]; rfl, HB1.out⟩
 | some b =>
  have HRB : Hid (r = if fitM b a && !moreB op.data.toList a then 0 else 190) := by show _ = _; rw [← HR.out]; exact ptsM_some hf
  rw [hf] at HC
  have HC2 : Hid (Calls Tryz.prog 28 #[.string op, .slice A1 (pts.map (·.1)).length c1] w1 fun e w' => e = .returned (.bool true) ∧ w1 = w') := HC
  have HFI := Lib.hid hf
  have HLN := Lib.hid (findM_len pts_len hf)
  obtain ⟨t, ht⟩ : ∃ t, op.data.toList = t := ⟨_, rfl⟩
  have HT := Lib.hid ht
  rw [ht] at m1 m2 HRB
  clear hf HC ht HR
  go_wp2_with fail
  refine HC2.out.mono ?_
  rintro e w' ⟨rfl, rfl⟩
  cases hfit : fitM b a with
  | false =>
   have HFT := Lib.hid hfit
   have HE : Hid (r = 190) := by show _ = _; rw [HRB.out, hfit]; rfl
   clear hfit m1 m2
   go_upto_region 3 with (fail)
   refine wp_region_held_drew (S := fun _ => True) (by kernel_rfl) trivial (fun hHeld => ?_)
   refine wpAnyH_take (i := 0) (v := .slice A n c) rfl (by kernel_rfl) (by kernel_rfl) (by kernel_rfl) (fun _ _ _ h => h) (Or.inl ⟨by rfl, ?_⟩) hHeld ?_
   ·intro wz hSw; go_simp
   try simp only [Act.put, List.getElem_toArray, List.getElem_cons_succ, List.getElem_cons_zero, List.setIfInBounds_toArray, List.set_cons_zero, List.set_cons_succ]
   refine wpAnyH_take (i := 1) (v := .string op) rfl (by kernel_rfl) (by kernel_rfl) (by kernel_rfl) (fun _ _ _ h => h) (Or.inl ⟨by rfl, ?_⟩) hHeld ?_
   ·intro wz hSw; go_simp
   try simp only [Act.put, List.getElem_toArray, List.getElem_cons_succ, List.getElem_cons_zero, List.setIfInBounds_toArray, List.set_cons_zero, List.set_cons_succ]
   refine wpAnyH_ready (rs := [2]) (by kernel_rfl) (by simp) ?_
   refine AllReadyH.cons rfl (fun K hK => ?_) AllReadyH.nil
   go_simp
   refine (rb20_any _ HFI.out).mono ?_
   rintro e w2 ⟨A2, c2, rfl, hs2, hb2⟩
   have HB2 : Hid (Below w.heap.size w w2) := (HB1.out.drew).trans (hb2.mono (by have := HB1.out.size; simpa using this))
   have HS2 := Lib.hid hs2
   clear hs2 hb2
   refine hK.out _ _ trivial (fun hHeld => ?_)
   clear hK K
   try simp only [Act.put, List.getElem_toArray, List.getElem_cons_succ, List.getElem_cons_zero, List.setIfInBounds_toArray, List.set_cons_zero, List.set_cons_succ]
   refine wpAnyH_ready (rs := [3]) (by kernel_rfl) (by simp) ?_
   refine AllReadyH.cons rfl (fun K hK => ?_) AllReadyH.nil
   go_simp
   refine (Ard.fit_any (c := c) (d := c2) w2 (HAA.out.below HB2.out (Nat.le_refl _)) rfl (flatP_len b) HS2.out HLN.out).mono ?_
   rintro e w4 ⟨rfl, q, rfl⟩
   rw [fits_fit, HFT.out]
   have HB4 : Hid (Below w.heap.size w (w2.drewN q)) := Go.Proofs.YtoofgblmpjndjaaGreatDoor.K.below_drewN HB2.out _
   refine hK.out _ _ trivial (fun hHeld => ?_)
   clear hK K
   try simp only [Act.put, List.getElem_toArray, List.getElem_cons_succ, List.getElem_cons_zero, List.setIfInBounds_toArray, List.set_cons_zero, List.set_cons_succ]
   refine wpAnyH_take (i := 4) (v := .bool true) rfl (by kernel_rfl) (by kernel_rfl) (by kernel_rfl) (fun _ _ _ h => h) (Or.inl ⟨by rfl, ?_⟩) hHeld ?_
   ·intro wz hSw; go_simp
   try simp only [Act.put, List.getElem_toArray, List.getElem_cons_succ, List.getElem_cons_zero, List.setIfInBounds_toArray, List.set_cons_zero, List.set_cons_succ]
   refine wpAnyH_take (i := 5) (v := .bool true) rfl (by kernel_rfl) (by kernel_rfl) (by kernel_rfl) (fun _ _ _ h => h) (Or.inl ⟨by rfl, ?_⟩) hHeld ?_
   ·intro wz hSw; go_simp
   try simp only [Act.put, List.getElem_toArray, List.getElem_cons_succ, List.getElem_cons_zero, List.setIfInBounds_toArray, List.set_cons_zero, List.set_cons_succ]
   refine Ord.held_skip (i := 6) (d := 15) rfl rfl (by kernel_rfl) (by kernel_rfl) (by kernel_rfl) (fun _ _ _ h => h) (by kernel_rfl) hHeld ?_
   try simp only [Act.put, List.getElem_toArray, List.getElem_cons_succ, List.getElem_cons_zero, List.setIfInBounds_toArray, List.set_cons_zero, List.set_cons_succ]
   refine Ord.held_skip (i := 7) (d := 16) rfl rfl (by kernel_rfl) (by kernel_rfl) (by kernel_rfl) (fun _ _ _ h => h) (by kernel_rfl) hHeld ?_
   try simp only [Act.put, List.getElem_toArray, List.getElem_cons_succ, List.getElem_cons_zero, List.setIfInBounds_toArray, List.set_cons_zero, List.set_cons_succ]
   refine Ord.held_skip (i := 8) (d := 17) rfl rfl (by kernel_rfl) (by kernel_rfl) (by kernel_rfl) (fun _ _ _ h => h) (by kernel_rfl) hHeld ?_
   try simp only [Act.put, List.getElem_toArray, List.getElem_cons_succ, List.getElem_cons_zero, List.setIfInBounds_toArray, List.set_cons_zero, List.set_cons_succ]
   refine Ord.held_skip (i := 9) (d := 18) rfl rfl (by kernel_rfl) (by kernel_rfl) (by kernel_rfl) (fun _ _ _ h => h) (by kernel_rfl) hHeld ?_
   try simp only [Act.put, List.getElem_toArray, List.getElem_cons_succ, List.getElem_cons_zero, List.setIfInBounds_toArray, List.set_cons_zero, List.set_cons_succ]
   refine Ord.held_skip (i := 10) (d := 19) rfl rfl (by kernel_rfl) (by kernel_rfl) (by kernel_rfl) (fun _ _ _ h => h) (by kernel_rfl) hHeld ?_
   try simp only [Act.put, List.getElem_toArray, List.getElem_cons_succ, List.getElem_cons_zero, List.setIfInBounds_toArray, List.set_cons_zero, List.set_cons_succ]
   refine Ord.held_skip (i := 11) (d := 20) rfl rfl (by kernel_rfl) (by kernel_rfl) (by kernel_rfl) (fun _ _ _ h => h) (by kernel_rfl) hHeld ?_
   try simp only [Act.put, List.getElem_toArray, List.getElem_cons_succ, List.getElem_cons_zero, List.setIfInBounds_toArray, List.set_cons_zero, List.set_cons_succ]
   refine Ord.held_skip (i := 12) (d := 21) rfl rfl (by kernel_rfl) (by kernel_rfl) (by kernel_rfl) (fun _ _ _ h => h) (by kernel_rfl) hHeld ?_
   try simp only [Act.put, List.getElem_toArray, List.getElem_cons_succ, List.getElem_cons_zero, List.setIfInBounds_toArray, List.set_cons_zero, List.set_cons_succ]
   refine Ord.held_skip (i := 13) (d := 22) rfl rfl (by kernel_rfl) (by kernel_rfl) (by kernel_rfl) (fun _ _ _ h => h) (by kernel_rfl) hHeld ?_
   try simp only [Act.put, List.getElem_toArray, List.getElem_cons_succ, List.getElem_cons_zero, List.setIfInBounds_toArray, List.set_cons_zero, List.set_cons_succ]
   refine Ord.held_skip (i := 14) (d := 23) rfl rfl (by kernel_rfl) (by kernel_rfl) (by kernel_rfl) (fun _ _ _ h => h) (by kernel_rfl) hHeld ?_
   try simp only [Act.put, List.getElem_toArray, List.getElem_cons_succ, List.getElem_cons_zero, List.setIfInBounds_toArray, List.set_cons_zero, List.set_cons_succ]
   refine Ord.held_skip (i := 15) (d := 24) rfl rfl (by kernel_rfl) (by kernel_rfl) (by kernel_rfl) (fun _ _ _ h => h) (by kernel_rfl) hHeld ?_
   try simp only [Act.put, List.getElem_toArray, List.getElem_cons_succ, List.getElem_cons_zero, List.setIfInBounds_toArray, List.set_cons_zero, List.set_cons_succ]
   refine Ord.held_skip (i := 16) (d := 25) rfl rfl (by kernel_rfl) (by kernel_rfl) (by kernel_rfl) (fun _ _ _ h => h) (by kernel_rfl) hHeld ?_
   try simp only [Act.put, List.getElem_toArray, List.getElem_cons_succ, List.getElem_cons_zero, List.setIfInBounds_toArray, List.set_cons_zero, List.set_cons_succ]
   refine wpAnyH_take (i := 17) (v := .bool true) rfl (by kernel_rfl) (by kernel_rfl) (by kernel_rfl) (fun _ _ _ h => h) (Or.inl ⟨by rfl, ?_⟩) hHeld ?_
   ·intro wz hSw; go_simp
   try simp only [Act.put, List.getElem_toArray, List.getElem_cons_succ, List.getElem_cons_zero, List.setIfInBounds_toArray, List.set_cons_zero, List.set_cons_succ]
   refine wpAnyH_take (i := 18) (v := .bool true) rfl (by kernel_rfl) (by kernel_rfl) (by kernel_rfl) (fun _ _ _ h => h) (Or.inl ⟨by rfl, ?_⟩) hHeld ?_
   ·intro wz hSw; go_simp
   try simp only [Act.put, List.getElem_toArray, List.getElem_cons_succ, List.getElem_cons_zero, List.setIfInBounds_toArray, List.set_cons_zero, List.set_cons_succ]
   refine Ord.held_skip (i := 19) (d := 28) rfl rfl (by kernel_rfl) (by kernel_rfl) (by kernel_rfl) (fun _ _ _ h => h) (by kernel_rfl) hHeld ?_
   try simp only [Act.put, List.getElem_toArray, List.getElem_cons_succ, List.getElem_cons_zero, List.setIfInBounds_toArray, List.set_cons_zero, List.set_cons_succ]
   refine Ord.held_skip (i := 20) (d := 29) rfl rfl (by kernel_rfl) (by kernel_rfl) (by kernel_rfl) (fun _ _ _ h => h) (by kernel_rfl) hHeld ?_
   try simp only [Act.put, List.getElem_toArray, List.getElem_cons_succ, List.getElem_cons_zero, List.setIfInBounds_toArray, List.set_cons_zero, List.set_cons_succ]
   refine Ord.held_skip (i := 21) (d := 30) rfl rfl (by kernel_rfl) (by kernel_rfl) (by kernel_rfl) (fun _ _ _ h => h) (by kernel_rfl) hHeld ?_
   try simp only [Act.put, List.getElem_toArray, List.getElem_cons_succ, List.getElem_cons_zero, List.setIfInBounds_toArray, List.set_cons_zero, List.set_cons_succ]
   refine Ord.held_skip (i := 22) (d := 31) rfl rfl (by kernel_rfl) (by kernel_rfl) (by kernel_rfl) (fun _ _ _ h => h) (by kernel_rfl) hHeld ?_
   try simp only [Act.put, List.getElem_toArray, List.getElem_cons_succ, List.getElem_cons_zero, List.setIfInBounds_toArray, List.set_cons_zero, List.set_cons_succ]
   refine Ord.held_skip (i := 23) (d := 32) rfl rfl (by kernel_rfl) (by kernel_rfl) (by kernel_rfl) (fun _ _ _ h => h) (by kernel_rfl) hHeld ?_
   try simp only [Act.put, List.getElem_toArray, List.getElem_cons_succ, List.getElem_cons_zero, List.setIfInBounds_toArray, List.set_cons_zero, List.set_cons_succ]
   refine Ord.held_skip (i := 24) (d := 33) rfl rfl (by kernel_rfl) (by kernel_rfl) (by kernel_rfl) (fun _ _ _ h => h) (by kernel_rfl) hHeld ?_
   try simp only [Act.put, List.getElem_toArray, List.getElem_cons_succ, List.getElem_cons_zero, List.setIfInBounds_toArray, List.set_cons_zero, List.set_cons_succ]
   refine Ord.held_skip (i := 25) (d := 34) rfl rfl (by kernel_rfl) (by kernel_rfl) (by kernel_rfl) (fun _ _ _ h => h) (by kernel_rfl) hHeld ?_
   try simp only [Act.put, List.getElem_toArray, List.getElem_cons_succ, List.getElem_cons_zero, List.setIfInBounds_toArray, List.set_cons_zero, List.set_cons_succ]
   refine Ord.held_skip (i := 26) (d := 35) rfl rfl (by kernel_rfl) (by kernel_rfl) (by kernel_rfl) (fun _ _ _ h => h) (by kernel_rfl) hHeld ?_
   try simp only [Act.put, List.getElem_toArray, List.getElem_cons_succ, List.getElem_cons_zero, List.setIfInBounds_toArray, List.set_cons_zero, List.set_cons_succ]
   refine Ord.held_skip (i := 27) (d := 36) rfl rfl (by kernel_rfl) (by kernel_rfl) (by kernel_rfl) (fun _ _ _ h => h) (by kernel_rfl) hHeld ?_
   try simp only [Act.put, List.getElem_toArray, List.getElem_cons_succ, List.getElem_cons_zero, List.setIfInBounds_toArray, List.set_cons_zero, List.set_cons_succ]
   refine Ord.held_skip (i := 28) (d := 37) rfl rfl (by kernel_rfl) (by kernel_rfl) (by kernel_rfl) (fun _ _ _ h => h) (by kernel_rfl) hHeld ?_
   try simp only [Act.put, List.getElem_toArray, List.getElem_cons_succ, List.getElem_cons_zero, List.setIfInBounds_toArray, List.set_cons_zero, List.set_cons_succ]
   refine Ord.held_skip (i := 29) (d := 38) rfl rfl (by kernel_rfl) (by kernel_rfl) (by kernel_rfl) (fun _ _ _ h => h) (by kernel_rfl) hHeld ?_
   try simp only [Act.put, List.getElem_toArray, List.getElem_cons_succ, List.getElem_cons_zero, List.setIfInBounds_toArray, List.set_cons_zero, List.set_cons_succ]
   refine wpAnyH_take (i := 30) (v := .bool true) rfl (by kernel_rfl) (by kernel_rfl) (by kernel_rfl) (fun _ _ _ h => h) (Or.inl ⟨by rfl, ?_⟩) hHeld ?_
   ·intro wz hSw; go_simp
   try simp only [Act.put, List.getElem_toArray, List.getElem_cons_succ, List.getElem_cons_zero, List.setIfInBounds_toArray, List.set_cons_zero, List.set_cons_succ]
   refine wpAnyH_done (by kernel_rfl) ?_ _
   go_wp2_with fail
   go_ret
   exact ⟨by rw [HE.out]; rfl, HB4.out⟩
  | true =>
   have HFT := Lib.hid hfit
   by_cases h1 : (t == [108, 101, 118, 101, 108, 115]) = true
   ·have h2 : (t == [115, 113, 117, 101, 101, 122, 101]) = false := by rw [beq_iff_eq.1 h1]; decide
    have hl2 := two_args HFI.out (.inl (by rw [HT.out]; exact beq_iff_eq.1 h1)) hfit
    have hlen := HAA.out.len
    obtain ⟨ab, ao, x, rfl, hc0, hx0, -⟩ := HAA.out.cells (i := 0) (by omega)
    obtain ⟨ab', ao', y, e', hc1, hx1, -⟩ := HAA.out.cells (i := 1) (by omega)
    injection e' with e'
    injection e' with e1 e2
    subst e1 e2
    have hgx : a.getD 0 0 = x := by rw [List.getD_eq_getElem?_getD, hx0.out]; rfl
    have hgy : a.getD 1 0 = y := by rw [List.getD_eq_getElem?_getD, hx1.out]; rfl
    have HCX : Hid (∀ W, Below w.heap.size w W → W.cell? ⟨ab, ao, none⟩ = some (.int .i64 x) ∧ W.cell? ⟨ab, ao + 1, none⟩ = some (.int .i64 y)) := fun W hb => ⟨(hb.cell (p := ⟨ab, ao, none⟩) (World.block_lt_of_cell? _ _ hc0)).trans hc0, (hb.cell (p := ⟨ab, ao + 1, none⟩) (World.block_lt_of_cell? _ _ hc1)).trans hc1⟩
    have i0 : (0 : Int) < n := by omega
    have hne : n ≠ 0 := by omega
    have i1 : (1 : Int) < n := by omega
    have HM : Hid (moreB t a = decide (y ≤ x)) := by show _ = _; rw [moreB_lv h1 h2, hgx, hgy]
    rw [h1] at m1
    rw [h2] at m2
    clear hc0 hc1 hx0 hx1 hgx hgy hl2 hlen h1 h2
    by_cases hyx : y ≤ x
    ·have dd : decide (y ≤ x) = true := decide_eq_true hyx
     have HE : Hid (r = 190) := by show _ = _; rw [HRB.out, hfit, HM.out, dd]; rfl
     clear hfit hyx
     go_upto_region 3 with (fail)
     refine wp_region_held_drew (S := fun w' => w'.cell? ⟨ab, ao, none⟩ = some (.int .i64 x) ∧ w'.cell? ⟨ab, ao + 1, none⟩ = some (.int .i64 y)) (by kernel_rfl) (HCX.out _ HB1.out.drew) (fun hHeld => ?_)
     refine wpAnyH_take (i := 0) (v := .slice (some ⟨ab, ao, none⟩) n c) rfl (by kernel_rfl) (by kernel_rfl) (by kernel_rfl) (fun _ _ _ h => h) (Or.inl ⟨by rfl, ?_⟩) hHeld ?_
     ·intro wz hSw; obtain ⟨s0, s1⟩ := hSw; go_simp
     try simp only [Act.put, List.getElem_toArray, List.getElem_cons_succ, List.getElem_cons_zero, List.setIfInBounds_toArray, List.set_cons_zero, List.set_cons_succ]
     refine wpAnyH_take (i := 1) (v := .string op) rfl (by kernel_rfl) (by kernel_rfl) (by kernel_rfl) (fun _ _ _ h => h) (Or.inl ⟨by rfl, ?_⟩) hHeld ?_
     ·intro wz hSw; obtain ⟨s0, s1⟩ := hSw; go_simp
     try simp only [Act.put, List.getElem_toArray, List.getElem_cons_succ, List.getElem_cons_zero, List.setIfInBounds_toArray, List.set_cons_zero, List.set_cons_succ]
     refine wpAnyH_ready (rs := [2]) (by kernel_rfl) (by simp) ?_
     refine AllReadyH.cons rfl (fun K hK => ?_) AllReadyH.nil
     go_simp
     refine (rb20_any _ HFI.out).mono ?_
     rintro e w2 ⟨A2, c2, rfl, hs2, hb2⟩
     have HB2 : Hid (Below w.heap.size w w2) := (HB1.out.drew).trans (hb2.mono (by have := HB1.out.size; simpa using this))
     have HS2 := Lib.hid hs2
     clear hs2 hb2
     refine hK.out _ _ (HCX.out _ HB2.out) (fun hHeld => ?_)
     clear hK K
     try simp only [Act.put, List.getElem_toArray, List.getElem_cons_succ, List.getElem_cons_zero, List.setIfInBounds_toArray, List.set_cons_zero, List.set_cons_succ]
     refine wpAnyH_ready (rs := [3]) (by kernel_rfl) (by simp) ?_
     refine AllReadyH.cons rfl (fun K hK => ?_) AllReadyH.nil
     go_simp
     refine (Ard.fit_any (c := c) (d := c2) w2 (HAA.out.below HB2.out (Nat.le_refl _)) rfl (flatP_len b) HS2.out HLN.out).mono ?_
     rintro e w4 ⟨rfl, q, rfl⟩
     rw [fits_fit, HFT.out]
     have HB4 : Hid (Below w.heap.size w (w2.drewN q)) := Go.Proofs.YtoofgblmpjndjaaGreatDoor.K.below_drewN HB2.out _
     refine hK.out _ _ (HCX.out _ HB4.out) (fun hHeld => ?_)
     clear hK K
     try simp only [Act.put, List.getElem_toArray, List.getElem_cons_succ, List.getElem_cons_zero, List.setIfInBounds_toArray, List.set_cons_zero, List.set_cons_succ]
     refine wpAnyH_take (i := 4) (v := .bool false) rfl (by kernel_rfl) (by kernel_rfl) (by kernel_rfl) (fun _ _ _ h => h) (Or.inl ⟨by rfl, ?_⟩) hHeld ?_
     ·intro wz hSw; obtain ⟨s0, s1⟩ := hSw; go_simp
     try simp only [Act.put, List.getElem_toArray, List.getElem_cons_succ, List.getElem_cons_zero, List.setIfInBounds_toArray, List.set_cons_zero, List.set_cons_succ]
     refine wpAnyH_take (i := 5) (v := .bool false) rfl (by kernel_rfl) (by kernel_rfl) (by kernel_rfl) (fun _ _ _ h => h) (Or.inl ⟨by rfl, ?_⟩) hHeld ?_
     ·intro wz hSw; obtain ⟨s0, s1⟩ := hSw; go_simp
     try simp only [Act.put, List.getElem_toArray, List.getElem_cons_succ, List.getElem_cons_zero, List.setIfInBounds_toArray, List.set_cons_zero, List.set_cons_succ]
     refine wpAnyH_take (i := 6) (v := .string op) rfl (by kernel_rfl) (by kernel_rfl) (by kernel_rfl) (fun _ _ _ h => h) (Or.inl ⟨by kernel_rfl, ?_⟩) hHeld ?_
     ·intro wz hSw; obtain ⟨s0, s1⟩ := hSw; go_simp
     try simp only [Act.put, List.getElem_toArray, List.getElem_cons_succ, List.getElem_cons_zero, List.setIfInBounds_toArray, List.set_cons_zero, List.set_cons_succ]
     refine wpAnyH_take (i := 7) (v := .bool true) rfl (by kernel_rfl) (by kernel_rfl) (by kernel_rfl) (fun _ _ _ h => h) (Or.inl ⟨by kernel_rfl, ?_⟩) hHeld ?_
     ·intro wz hSw; obtain ⟨s0, s1⟩ := hSw; go_simp
     try simp only [Act.put, List.getElem_toArray, List.getElem_cons_succ, List.getElem_cons_zero, List.setIfInBounds_toArray, List.set_cons_zero, List.set_cons_succ]
     refine wpAnyH_take (i := 8) (v := .bool true) rfl (by kernel_rfl) (by kernel_rfl) (by kernel_rfl) (fun _ _ _ h => h) (Or.inl ⟨by kernel_rfl, ?_⟩) hHeld ?_
     ·intro wz hSw; obtain ⟨s0, s1⟩ := hSw; go_simp
     try simp only [Act.put, List.getElem_toArray, List.getElem_cons_succ, List.getElem_cons_zero, List.setIfInBounds_toArray, List.set_cons_zero, List.set_cons_succ]
     refine wpAnyH_take (i := 9) (v := .slice (some ⟨ab, ao, none⟩) n c) rfl (by kernel_rfl) (by kernel_rfl) (by kernel_rfl) (fun _ _ _ h => h) (Or.inl ⟨by kernel_rfl, ?_⟩) hHeld ?_
     ·intro wz hSw; obtain ⟨s0, s1⟩ := hSw; go_simp
     try simp only [Act.put, List.getElem_toArray, List.getElem_cons_succ, List.getElem_cons_zero, List.setIfInBounds_toArray, List.set_cons_zero, List.set_cons_succ]
     refine wpAnyH_take (i := 10) (v := .pointer (some ⟨ab, ao, none⟩)) rfl (by kernel_rfl) (by kernel_rfl) (by kernel_rfl) (fun _ _ _ h => h) (Or.inl ⟨by kernel_rfl, ?_⟩) hHeld ?_
     ·intro wz hSw; obtain ⟨s0, s1⟩ := hSw; go_simp
     try simp only [Act.put, List.getElem_toArray, List.getElem_cons_succ, List.getElem_cons_zero, List.setIfInBounds_toArray, List.set_cons_zero, List.set_cons_succ]
     refine wpAnyH_take (i := 11) (v := .int .i64 x) rfl (by kernel_rfl) (by kernel_rfl) (by kernel_rfl) (fun _ _ _ h => h) (Or.inl ⟨by kernel_rfl, ?_⟩) hHeld ?_
     ·intro wz hSw; obtain ⟨s0, s1⟩ := hSw; go_simp
     try simp only [Act.put, List.getElem_toArray, List.getElem_cons_succ, List.getElem_cons_zero, List.setIfInBounds_toArray, List.set_cons_zero, List.set_cons_succ]
     refine wpAnyH_take (i := 12) (v := .slice (some ⟨ab, ao, none⟩) n c) rfl (by kernel_rfl) (by kernel_rfl) (by kernel_rfl) (fun _ _ _ h => h) (Or.inl ⟨by kernel_rfl, ?_⟩) hHeld ?_
     ·intro wz hSw; obtain ⟨s0, s1⟩ := hSw; go_simp
     try simp only [Act.put, List.getElem_toArray, List.getElem_cons_succ, List.getElem_cons_zero, List.setIfInBounds_toArray, List.set_cons_zero, List.set_cons_succ]
     refine wpAnyH_take (i := 13) (v := .pointer (some ⟨ab, ao + 1, none⟩)) rfl (by kernel_rfl) (by kernel_rfl) (by kernel_rfl) (fun _ _ _ h => h) (Or.inl ⟨by kernel_rfl, ?_⟩) hHeld ?_
     ·intro wz hSw; obtain ⟨s0, s1⟩ := hSw; go_simp
     try simp only [Act.put, List.getElem_toArray, List.getElem_cons_succ, List.getElem_cons_zero, List.setIfInBounds_toArray, List.set_cons_zero, List.set_cons_succ]
     refine wpAnyH_take (i := 14) (v := .int .i64 y) rfl (by kernel_rfl) (by kernel_rfl) (by kernel_rfl) (fun _ _ _ h => h) (Or.inl ⟨by kernel_rfl, ?_⟩) hHeld ?_
     ·intro wz hSw; obtain ⟨s0, s1⟩ := hSw; go_simp
     try simp only [Act.put, List.getElem_toArray, List.getElem_cons_succ, List.getElem_cons_zero, List.setIfInBounds_toArray, List.set_cons_zero, List.set_cons_succ]
     refine wpAnyH_take (i := 15) (v := .bool true) rfl (by kernel_rfl) (by kernel_rfl) (by kernel_rfl) (fun _ _ _ h => h) (Or.inl ⟨by kernel_rfl, ?_⟩) hHeld ?_
     ·intro wz hSw; obtain ⟨s0, s1⟩ := hSw; go_simp
     try simp only [Act.put, List.getElem_toArray, List.getElem_cons_succ, List.getElem_cons_zero, List.setIfInBounds_toArray, List.set_cons_zero, List.set_cons_succ]
     refine wpAnyH_take (i := 16) (v := .bool true) rfl (by kernel_rfl) (by kernel_rfl) (by kernel_rfl) (fun _ _ _ h => h) (Or.inl ⟨by kernel_rfl, ?_⟩) hHeld ?_
     ·intro wz hSw; obtain ⟨s0, s1⟩ := hSw; go_simp
     try simp only [Act.put, List.getElem_toArray, List.getElem_cons_succ, List.getElem_cons_zero, List.setIfInBounds_toArray, List.set_cons_zero, List.set_cons_succ]
     refine wpAnyH_take (i := 17) (v := .bool true) rfl (by kernel_rfl) (by kernel_rfl) (by kernel_rfl) (fun _ _ _ h => h) (Or.inl ⟨by rfl, ?_⟩) hHeld ?_
     ·intro wz hSw; obtain ⟨s0, s1⟩ := hSw; go_simp
     try simp only [Act.put, List.getElem_toArray, List.getElem_cons_succ, List.getElem_cons_zero, List.setIfInBounds_toArray, List.set_cons_zero, List.set_cons_succ]
     refine wpAnyH_take (i := 18) (v := .bool true) rfl (by kernel_rfl) (by kernel_rfl) (by kernel_rfl) (fun _ _ _ h => h) (Or.inl ⟨by rfl, ?_⟩) hHeld ?_
     ·intro wz hSw; obtain ⟨s0, s1⟩ := hSw; go_simp
     try simp only [Act.put, List.getElem_toArray, List.getElem_cons_succ, List.getElem_cons_zero, List.setIfInBounds_toArray, List.set_cons_zero, List.set_cons_succ]
     refine Ord.held_skip (i := 19) (d := 28) rfl rfl (by kernel_rfl) (by kernel_rfl) (by kernel_rfl) (fun _ _ _ h => h) (by kernel_rfl) hHeld ?_
     try simp only [Act.put, List.getElem_toArray, List.getElem_cons_succ, List.getElem_cons_zero, List.setIfInBounds_toArray, List.set_cons_zero, List.set_cons_succ]
     refine Ord.held_skip (i := 20) (d := 29) rfl rfl (by kernel_rfl) (by kernel_rfl) (by kernel_rfl) (fun _ _ _ h => h) (by kernel_rfl) hHeld ?_
     try simp only [Act.put, List.getElem_toArray, List.getElem_cons_succ, List.getElem_cons_zero, List.setIfInBounds_toArray, List.set_cons_zero, List.set_cons_succ]
     refine Ord.held_skip (i := 21) (d := 30) rfl rfl (by kernel_rfl) (by kernel_rfl) (by kernel_rfl) (fun _ _ _ h => h) (by kernel_rfl) hHeld ?_
     try simp only [Act.put, List.getElem_toArray, List.getElem_cons_succ, List.getElem_cons_zero, List.setIfInBounds_toArray, List.set_cons_zero, List.set_cons_succ]
     refine Ord.held_skip (i := 22) (d := 31) rfl rfl (by kernel_rfl) (by kernel_rfl) (by kernel_rfl) (fun _ _ _ h => h) (by kernel_rfl) hHeld ?_
     try simp only [Act.put, List.getElem_toArray, List.getElem_cons_succ, List.getElem_cons_zero, List.setIfInBounds_toArray, List.set_cons_zero, List.set_cons_succ]
     refine Ord.held_skip (i := 23) (d := 32) rfl rfl (by kernel_rfl) (by kernel_rfl) (by kernel_rfl) (fun _ _ _ h => h) (by kernel_rfl) hHeld ?_
     try simp only [Act.put, List.getElem_toArray, List.getElem_cons_succ, List.getElem_cons_zero, List.setIfInBounds_toArray, List.set_cons_zero, List.set_cons_succ]
     refine Ord.held_skip (i := 24) (d := 33) rfl rfl (by kernel_rfl) (by kernel_rfl) (by kernel_rfl) (fun _ _ _ h => h) (by kernel_rfl) hHeld ?_
     try simp only [Act.put, List.getElem_toArray, List.getElem_cons_succ, List.getElem_cons_zero, List.setIfInBounds_toArray, List.set_cons_zero, List.set_cons_succ]
     refine Ord.held_skip (i := 25) (d := 34) rfl rfl (by kernel_rfl) (by kernel_rfl) (by kernel_rfl) (fun _ _ _ h => h) (by kernel_rfl) hHeld ?_
     try simp only [Act.put, List.getElem_toArray, List.getElem_cons_succ, List.getElem_cons_zero, List.setIfInBounds_toArray, List.set_cons_zero, List.set_cons_succ]
     refine Ord.held_skip (i := 26) (d := 35) rfl rfl (by kernel_rfl) (by kernel_rfl) (by kernel_rfl) (fun _ _ _ h => h) (by kernel_rfl) hHeld ?_
     try simp only [Act.put, List.getElem_toArray, List.getElem_cons_succ, List.getElem_cons_zero, List.setIfInBounds_toArray, List.set_cons_zero, List.set_cons_succ]
     refine Ord.held_skip (i := 27) (d := 36) rfl rfl (by kernel_rfl) (by kernel_rfl) (by kernel_rfl) (fun _ _ _ h => h) (by kernel_rfl) hHeld ?_
     try simp only [Act.put, List.getElem_toArray, List.getElem_cons_succ, List.getElem_cons_zero, List.setIfInBounds_toArray, List.set_cons_zero, List.set_cons_succ]
     refine Ord.held_skip (i := 28) (d := 37) rfl rfl (by kernel_rfl) (by kernel_rfl) (by kernel_rfl) (fun _ _ _ h => h) (by kernel_rfl) hHeld ?_
     try simp only [Act.put, List.getElem_toArray, List.getElem_cons_succ, List.getElem_cons_zero, List.setIfInBounds_toArray, List.set_cons_zero, List.set_cons_succ]
     refine Ord.held_skip (i := 29) (d := 38) rfl rfl (by kernel_rfl) (by kernel_rfl) (by kernel_rfl) (fun _ _ _ h => h) (by kernel_rfl) hHeld ?_
     try simp only [Act.put, List.getElem_toArray, List.getElem_cons_succ, List.getElem_cons_zero, List.setIfInBounds_toArray, List.set_cons_zero, List.set_cons_succ]
     refine wpAnyH_take (i := 30) (v := .bool true) rfl (by kernel_rfl) (by kernel_rfl) (by kernel_rfl) (fun _ _ _ h => h) (Or.inl ⟨by rfl, ?_⟩) hHeld ?_
     ·intro wz hSw; obtain ⟨s0, s1⟩ := hSw; go_simp
     try simp only [Act.put, List.getElem_toArray, List.getElem_cons_succ, List.getElem_cons_zero, List.setIfInBounds_toArray, List.set_cons_zero, List.set_cons_succ]
     refine wpAnyH_done (by kernel_rfl) ?_ _
     go_wp2_with fail
     go_ret
     exact ⟨by rw [HE.out]; rfl, HB4.out⟩
    ·have dd : decide (y ≤ x) = false := decide_eq_false hyx
     have HE : Hid (r = 0) := by show _ = _; rw [HRB.out, hfit, HM.out, dd]; rfl
     clear hfit hyx
     go_upto_region 3 with (fail)
     refine wp_region_held_drew (S := fun w' => w'.cell? ⟨ab, ao, none⟩ = some (.int .i64 x) ∧ w'.cell? ⟨ab, ao + 1, none⟩ = some (.int .i64 y)) (by kernel_rfl) (HCX.out _ HB1.out.drew) (fun hHeld => ?_)
     refine wpAnyH_take (i := 0) (v := .slice (some ⟨ab, ao, none⟩) n c) rfl (by kernel_rfl) (by kernel_rfl) (by kernel_rfl) (fun _ _ _ h => h) (Or.inl ⟨by rfl, ?_⟩) hHeld ?_
     ·intro wz hSw; obtain ⟨s0, s1⟩ := hSw; go_simp
     try simp only [Act.put, List.getElem_toArray, List.getElem_cons_succ, List.getElem_cons_zero, List.setIfInBounds_toArray, List.set_cons_zero, List.set_cons_succ]
     refine wpAnyH_take (i := 1) (v := .string op) rfl (by kernel_rfl) (by kernel_rfl) (by kernel_rfl) (fun _ _ _ h => h) (Or.inl ⟨by rfl, ?_⟩) hHeld ?_
     ·intro wz hSw; obtain ⟨s0, s1⟩ := hSw; go_simp
     try simp only [Act.put, List.getElem_toArray, List.getElem_cons_succ, List.getElem_cons_zero, List.setIfInBounds_toArray, List.set_cons_zero, List.set_cons_succ]
     refine wpAnyH_ready (rs := [2]) (by kernel_rfl) (by simp) ?_
     refine AllReadyH.cons rfl (fun K hK => ?_) AllReadyH.nil
     go_simp
     refine (rb20_any _ HFI.out).mono ?_
     rintro e w2 ⟨A2, c2, rfl, hs2, hb2⟩
     have HB2 : Hid (Below w.heap.size w w2) := (HB1.out.drew).trans (hb2.mono (by have := HB1.out.size; simpa using this))
     have HS2 := Lib.hid hs2
     clear hs2 hb2
     refine hK.out _ _ (HCX.out _ HB2.out) (fun hHeld => ?_)
     clear hK K
     try simp only [Act.put, List.getElem_toArray, List.getElem_cons_succ, List.getElem_cons_zero, List.setIfInBounds_toArray, List.set_cons_zero, List.set_cons_succ]
     refine wpAnyH_ready (rs := [3]) (by kernel_rfl) (by simp) ?_
     refine AllReadyH.cons rfl (fun K hK => ?_) AllReadyH.nil
     go_simp
     refine (Ard.fit_any (c := c) (d := c2) w2 (HAA.out.below HB2.out (Nat.le_refl _)) rfl (flatP_len b) HS2.out HLN.out).mono ?_
     rintro e w4 ⟨rfl, q, rfl⟩
     rw [fits_fit, HFT.out]
     have HB4 : Hid (Below w.heap.size w (w2.drewN q)) := Go.Proofs.YtoofgblmpjndjaaGreatDoor.K.below_drewN HB2.out _
     refine hK.out _ _ (HCX.out _ HB4.out) (fun hHeld => ?_)
     clear hK K
     try simp only [Act.put, List.getElem_toArray, List.getElem_cons_succ, List.getElem_cons_zero, List.setIfInBounds_toArray, List.set_cons_zero, List.set_cons_succ]
     refine wpAnyH_take (i := 4) (v := .bool false) rfl (by kernel_rfl) (by kernel_rfl) (by kernel_rfl) (fun _ _ _ h => h) (Or.inl ⟨by rfl, ?_⟩) hHeld ?_
     ·intro wz hSw; obtain ⟨s0, s1⟩ := hSw; go_simp
     try simp only [Act.put, List.getElem_toArray, List.getElem_cons_succ, List.getElem_cons_zero, List.setIfInBounds_toArray, List.set_cons_zero, List.set_cons_succ]
     refine wpAnyH_take (i := 5) (v := .bool false) rfl (by kernel_rfl) (by kernel_rfl) (by kernel_rfl) (fun _ _ _ h => h) (Or.inl ⟨by rfl, ?_⟩) hHeld ?_
     ·intro wz hSw; obtain ⟨s0, s1⟩ := hSw; go_simp
     try simp only [Act.put, List.getElem_toArray, List.getElem_cons_succ, List.getElem_cons_zero, List.setIfInBounds_toArray, List.set_cons_zero, List.set_cons_succ]
     refine wpAnyH_take (i := 6) (v := .string op) rfl (by kernel_rfl) (by kernel_rfl) (by kernel_rfl) (fun _ _ _ h => h) (Or.inl ⟨by kernel_rfl, ?_⟩) hHeld ?_
     ·intro wz hSw; obtain ⟨s0, s1⟩ := hSw; go_simp
     try simp only [Act.put, List.getElem_toArray, List.getElem_cons_succ, List.getElem_cons_zero, List.setIfInBounds_toArray, List.set_cons_zero, List.set_cons_succ]
     refine wpAnyH_take (i := 7) (v := .bool true) rfl (by kernel_rfl) (by kernel_rfl) (by kernel_rfl) (fun _ _ _ h => h) (Or.inl ⟨by kernel_rfl, ?_⟩) hHeld ?_
     ·intro wz hSw; obtain ⟨s0, s1⟩ := hSw; go_simp
     try simp only [Act.put, List.getElem_toArray, List.getElem_cons_succ, List.getElem_cons_zero, List.setIfInBounds_toArray, List.set_cons_zero, List.set_cons_succ]
     refine wpAnyH_take (i := 8) (v := .bool true) rfl (by kernel_rfl) (by kernel_rfl) (by kernel_rfl) (fun _ _ _ h => h) (Or.inl ⟨by kernel_rfl, ?_⟩) hHeld ?_
     ·intro wz hSw; obtain ⟨s0, s1⟩ := hSw; go_simp
     try simp only [Act.put, List.getElem_toArray, List.getElem_cons_succ, List.getElem_cons_zero, List.setIfInBounds_toArray, List.set_cons_zero, List.set_cons_succ]
     refine wpAnyH_take (i := 9) (v := .slice (some ⟨ab, ao, none⟩) n c) rfl (by kernel_rfl) (by kernel_rfl) (by kernel_rfl) (fun _ _ _ h => h) (Or.inl ⟨by kernel_rfl, ?_⟩) hHeld ?_
     ·intro wz hSw; obtain ⟨s0, s1⟩ := hSw; go_simp
     try simp only [Act.put, List.getElem_toArray, List.getElem_cons_succ, List.getElem_cons_zero, List.setIfInBounds_toArray, List.set_cons_zero, List.set_cons_succ]
     refine wpAnyH_take (i := 10) (v := .pointer (some ⟨ab, ao, none⟩)) rfl (by kernel_rfl) (by kernel_rfl) (by kernel_rfl) (fun _ _ _ h => h) (Or.inl ⟨by kernel_rfl, ?_⟩) hHeld ?_
     ·intro wz hSw; obtain ⟨s0, s1⟩ := hSw; go_simp
     try simp only [Act.put, List.getElem_toArray, List.getElem_cons_succ, List.getElem_cons_zero, List.setIfInBounds_toArray, List.set_cons_zero, List.set_cons_succ]
     refine wpAnyH_take (i := 11) (v := .int .i64 x) rfl (by kernel_rfl) (by kernel_rfl) (by kernel_rfl) (fun _ _ _ h => h) (Or.inl ⟨by kernel_rfl, ?_⟩) hHeld ?_
     ·intro wz hSw; obtain ⟨s0, s1⟩ := hSw; go_simp
     try simp only [Act.put, List.getElem_toArray, List.getElem_cons_succ, List.getElem_cons_zero, List.setIfInBounds_toArray, List.set_cons_zero, List.set_cons_succ]
     refine wpAnyH_take (i := 12) (v := .slice (some ⟨ab, ao, none⟩) n c) rfl (by kernel_rfl) (by kernel_rfl) (by kernel_rfl) (fun _ _ _ h => h) (Or.inl ⟨by kernel_rfl, ?_⟩) hHeld ?_
     ·intro wz hSw; obtain ⟨s0, s1⟩ := hSw; go_simp
     try simp only [Act.put, List.getElem_toArray, List.getElem_cons_succ, List.getElem_cons_zero, List.setIfInBounds_toArray, List.set_cons_zero, List.set_cons_succ]
     refine wpAnyH_take (i := 13) (v := .pointer (some ⟨ab, ao + 1, none⟩)) rfl (by kernel_rfl) (by kernel_rfl) (by kernel_rfl) (fun _ _ _ h => h) (Or.inl ⟨by kernel_rfl, ?_⟩) hHeld ?_
     ·intro wz hSw; obtain ⟨s0, s1⟩ := hSw; go_simp
     try simp only [Act.put, List.getElem_toArray, List.getElem_cons_succ, List.getElem_cons_zero, List.setIfInBounds_toArray, List.set_cons_zero, List.set_cons_succ]
     refine wpAnyH_take (i := 14) (v := .int .i64 y) rfl (by kernel_rfl) (by kernel_rfl) (by kernel_rfl) (fun _ _ _ h => h) (Or.inl ⟨by kernel_rfl, ?_⟩) hHeld ?_
     ·intro wz hSw; obtain ⟨s0, s1⟩ := hSw; go_simp
     try simp only [Act.put, List.getElem_toArray, List.getElem_cons_succ, List.getElem_cons_zero, List.setIfInBounds_toArray, List.set_cons_zero, List.set_cons_succ]
     refine wpAnyH_take (i := 15) (v := .bool false) rfl (by kernel_rfl) (by kernel_rfl) (by kernel_rfl) (fun _ _ _ h => h) (Or.inl ⟨by kernel_rfl, ?_⟩) hHeld ?_
     ·intro wz hSw; obtain ⟨s0, s1⟩ := hSw; go_simp
     try simp only [Act.put, List.getElem_toArray, List.getElem_cons_succ, List.getElem_cons_zero, List.setIfInBounds_toArray, List.set_cons_zero, List.set_cons_succ]
     refine wpAnyH_take (i := 16) (v := .bool false) rfl (by kernel_rfl) (by kernel_rfl) (by kernel_rfl) (fun _ _ _ h => h) (Or.inl ⟨by kernel_rfl, ?_⟩) hHeld ?_
     ·intro wz hSw; obtain ⟨s0, s1⟩ := hSw; go_simp
     try simp only [Act.put, List.getElem_toArray, List.getElem_cons_succ, List.getElem_cons_zero, List.setIfInBounds_toArray, List.set_cons_zero, List.set_cons_succ]
     refine wpAnyH_take (i := 17) (v := .bool false) rfl (by kernel_rfl) (by kernel_rfl) (by kernel_rfl) (fun _ _ _ h => h) (Or.inl ⟨by rfl, ?_⟩) hHeld ?_
     ·intro wz hSw; obtain ⟨s0, s1⟩ := hSw; go_simp
     try simp only [Act.put, List.getElem_toArray, List.getElem_cons_succ, List.getElem_cons_zero, List.setIfInBounds_toArray, List.set_cons_zero, List.set_cons_succ]
     refine wpAnyH_take (i := 18) (v := .bool false) rfl (by kernel_rfl) (by kernel_rfl) (by kernel_rfl) (fun _ _ _ h => h) (Or.inl ⟨by rfl, ?_⟩) hHeld ?_
     ·intro wz hSw; obtain ⟨s0, s1⟩ := hSw; go_simp
     try simp only [Act.put, List.getElem_toArray, List.getElem_cons_succ, List.getElem_cons_zero, List.setIfInBounds_toArray, List.set_cons_zero, List.set_cons_succ]
     refine wpAnyH_take (i := 19) (v := .string op) rfl (by kernel_rfl) (by kernel_rfl) (by kernel_rfl) (fun _ _ _ h => h) (Or.inl ⟨by kernel_rfl, ?_⟩) hHeld ?_
     ·intro wz hSw; obtain ⟨s0, s1⟩ := hSw; go_simp
     try simp only [Act.put, List.getElem_toArray, List.getElem_cons_succ, List.getElem_cons_zero, List.setIfInBounds_toArray, List.set_cons_zero, List.set_cons_succ]
     refine wpAnyH_take (i := 20) (v := .bool false) rfl (by kernel_rfl) (by kernel_rfl) (by kernel_rfl) (fun _ _ _ h => h) (Or.inl ⟨by kernel_rfl, ?_⟩) hHeld ?_
     ·intro wz hSw; obtain ⟨s0, s1⟩ := hSw; go_simp
     try simp only [Act.put, List.getElem_toArray, List.getElem_cons_succ, List.getElem_cons_zero, List.setIfInBounds_toArray, List.set_cons_zero, List.set_cons_succ]
     refine wpAnyH_take (i := 21) (v := .bool false) rfl (by kernel_rfl) (by kernel_rfl) (by kernel_rfl) (fun _ _ _ h => h) (Or.inl ⟨by kernel_rfl, ?_⟩) hHeld ?_
     ·intro wz hSw; obtain ⟨s0, s1⟩ := hSw; go_simp
     try simp only [Act.put, List.getElem_toArray, List.getElem_cons_succ, List.getElem_cons_zero, List.setIfInBounds_toArray, List.set_cons_zero, List.set_cons_succ]
     refine Ord.held_skip (i := 22) (d := 31) rfl rfl (by kernel_rfl) (by kernel_rfl) (by kernel_rfl) (fun _ _ _ h => h) (by kernel_rfl) hHeld ?_
     try simp only [Act.put, List.getElem_toArray, List.getElem_cons_succ, List.getElem_cons_zero, List.setIfInBounds_toArray, List.set_cons_zero, List.set_cons_succ]
     refine Ord.held_skip (i := 23) (d := 32) rfl rfl (by kernel_rfl) (by kernel_rfl) (by kernel_rfl) (fun _ _ _ h => h) (by kernel_rfl) hHeld ?_
     try simp only [Act.put, List.getElem_toArray, List.getElem_cons_succ, List.getElem_cons_zero, List.setIfInBounds_toArray, List.set_cons_zero, List.set_cons_succ]
     refine Ord.held_skip (i := 24) (d := 33) rfl rfl (by kernel_rfl) (by kernel_rfl) (by kernel_rfl) (fun _ _ _ h => h) (by kernel_rfl) hHeld ?_
     try simp only [Act.put, List.getElem_toArray, List.getElem_cons_succ, List.getElem_cons_zero, List.setIfInBounds_toArray, List.set_cons_zero, List.set_cons_succ]
     refine Ord.held_skip (i := 25) (d := 34) rfl rfl (by kernel_rfl) (by kernel_rfl) (by kernel_rfl) (fun _ _ _ h => h) (by kernel_rfl) hHeld ?_
     try simp only [Act.put, List.getElem_toArray, List.getElem_cons_succ, List.getElem_cons_zero, List.setIfInBounds_toArray, List.set_cons_zero, List.set_cons_succ]
     refine Ord.held_skip (i := 26) (d := 35) rfl rfl (by kernel_rfl) (by kernel_rfl) (by kernel_rfl) (fun _ _ _ h => h) (by kernel_rfl) hHeld ?_
     try simp only [Act.put, List.getElem_toArray, List.getElem_cons_succ, List.getElem_cons_zero, List.setIfInBounds_toArray, List.set_cons_zero, List.set_cons_succ]
     refine Ord.held_skip (i := 27) (d := 36) rfl rfl (by kernel_rfl) (by kernel_rfl) (by kernel_rfl) (fun _ _ _ h => h) (by kernel_rfl) hHeld ?_
     try simp only [Act.put, List.getElem_toArray, List.getElem_cons_succ, List.getElem_cons_zero, List.setIfInBounds_toArray, List.set_cons_zero, List.set_cons_succ]
     refine Ord.held_skip (i := 28) (d := 37) rfl rfl (by kernel_rfl) (by kernel_rfl) (by kernel_rfl) (fun _ _ _ h => h) (by kernel_rfl) hHeld ?_
     try simp only [Act.put, List.getElem_toArray, List.getElem_cons_succ, List.getElem_cons_zero, List.setIfInBounds_toArray, List.set_cons_zero, List.set_cons_succ]
     refine wpAnyH_take (i := 29) (v := .bool false) rfl (by kernel_rfl) (by kernel_rfl) (by kernel_rfl) (fun _ _ _ h => h) (Or.inl ⟨by kernel_rfl, ?_⟩) hHeld ?_
     ·intro wz hSw; obtain ⟨s0, s1⟩ := hSw; go_simp
     try simp only [Act.put, List.getElem_toArray, List.getElem_cons_succ, List.getElem_cons_zero, List.setIfInBounds_toArray, List.set_cons_zero, List.set_cons_succ]
     refine wpAnyH_take (i := 30) (v := .bool false) rfl (by kernel_rfl) (by kernel_rfl) (by kernel_rfl) (fun _ _ _ h => h) (Or.inl ⟨by rfl, ?_⟩) hHeld ?_
     ·intro wz hSw; obtain ⟨s0, s1⟩ := hSw; go_simp
     try simp only [Act.put, List.getElem_toArray, List.getElem_cons_succ, List.getElem_cons_zero, List.setIfInBounds_toArray, List.set_cons_zero, List.set_cons_succ]
     refine wpAnyH_done (by kernel_rfl) ?_ _
     go_wp2_with fail
     go_ret
     exact ⟨by rw [HE.out]; rfl, HB4.out⟩
   ·have h1' : (t == [108, 101, 118, 101, 108, 115]) = false := by simpa using h1
    by_cases h2 : (t == [115, 113, 117, 101, 101, 122, 101]) = true
    ·have hl2 := two_args HFI.out (.inr (by rw [HT.out]; exact beq_iff_eq.1 h2)) hfit
     have hlen := HAA.out.len
     obtain ⟨ab, ao, x, rfl, hc0, hx0, -⟩ := HAA.out.cells (i := 0) (by omega)
     obtain ⟨ab', ao', y, e', hc1, hx1, -⟩ := HAA.out.cells (i := 1) (by omega)
     injection e' with e'
     injection e' with e1 e2
     subst e1 e2
     have hgx : a.getD 0 0 = x := by rw [List.getD_eq_getElem?_getD, hx0.out]; rfl
     have hgy : a.getD 1 0 = y := by rw [List.getD_eq_getElem?_getD, hx1.out]; rfl
     have HCX : Hid (∀ W, Below w.heap.size w W → W.cell? ⟨ab, ao, none⟩ = some (.int .i64 x) ∧ W.cell? ⟨ab, ao + 1, none⟩ = some (.int .i64 y)) := fun W hb => ⟨(hb.cell (p := ⟨ab, ao, none⟩) (World.block_lt_of_cell? _ _ hc0)).trans hc0, (hb.cell (p := ⟨ab, ao + 1, none⟩) (World.block_lt_of_cell? _ _ hc1)).trans hc1⟩
     have i0 : (0 : Int) < n := by omega
     have hne : n ≠ 0 := by omega
     have i1 : (1 : Int) < n := by omega
     have HM : Hid (moreB t a = decide (y < x)) := by show _ = _; rw [moreB_sq h1' h2, hgx, hgy]
     rw [h1'] at m1
     rw [h2] at m2
     clear hc0 hc1 hx0 hx1 hgx hgy hl2 hlen h1 h2 h1'
     by_cases hyx : y < x
     ·have dd : decide (y < x) = true := decide_eq_true hyx
      have HE : Hid (r = 190) := by show _ = _; rw [HRB.out, hfit, HM.out, dd]; rfl
      clear hfit hyx
      go_upto_region 3 with (fail)
      refine wp_region_held_drew (S := fun w' => w'.cell? ⟨ab, ao, none⟩ = some (.int .i64 x) ∧ w'.cell? ⟨ab, ao + 1, none⟩ = some (.int .i64 y)) (by kernel_rfl) (HCX.out _ HB1.out.drew) (fun hHeld => ?_)
      refine wpAnyH_take (i := 0) (v := .slice (some ⟨ab, ao, none⟩) n c) rfl (by kernel_rfl) (by kernel_rfl) (by kernel_rfl) (fun _ _ _ h => h) (Or.inl ⟨by rfl, ?_⟩) hHeld ?_
      ·intro wz hSw; obtain ⟨s0, s1⟩ := hSw; go_simp
      try simp only [Act.put, List.getElem_toArray, List.getElem_cons_succ, List.getElem_cons_zero, List.setIfInBounds_toArray, List.set_cons_zero, List.set_cons_succ]
      refine wpAnyH_take (i := 1) (v := .string op) rfl (by kernel_rfl) (by kernel_rfl) (by kernel_rfl) (fun _ _ _ h => h) (Or.inl ⟨by rfl, ?_⟩) hHeld ?_
      ·intro wz hSw; obtain ⟨s0, s1⟩ := hSw; go_simp
      try simp only [Act.put, List.getElem_toArray, List.getElem_cons_succ, List.getElem_cons_zero, List.setIfInBounds_toArray, List.set_cons_zero, List.set_cons_succ]
      refine wpAnyH_ready (rs := [2]) (by kernel_rfl) (by simp) ?_
      refine AllReadyH.cons rfl (fun K hK => ?_) AllReadyH.nil
      go_simp
      refine (rb20_any _ HFI.out).mono ?_
      rintro e w2 ⟨A2, c2, rfl, hs2, hb2⟩
      have HB2 : Hid (Below w.heap.size w w2) := (HB1.out.drew).trans (hb2.mono (by have := HB1.out.size; simpa using this))
      have HS2 := Lib.hid hs2
      clear hs2 hb2
      refine hK.out _ _ (HCX.out _ HB2.out) (fun hHeld => ?_)
      clear hK K
      try simp only [Act.put, List.getElem_toArray, List.getElem_cons_succ, List.getElem_cons_zero, List.setIfInBounds_toArray, List.set_cons_zero, List.set_cons_succ]
      refine wpAnyH_ready (rs := [3]) (by kernel_rfl) (by simp) ?_
      refine AllReadyH.cons rfl (fun K hK => ?_) AllReadyH.nil
      go_simp
      refine (Ard.fit_any (c := c) (d := c2) w2 (HAA.out.below HB2.out (Nat.le_refl _)) rfl (flatP_len b) HS2.out HLN.out).mono ?_
      rintro e w4 ⟨rfl, q, rfl⟩
      rw [fits_fit, HFT.out]
      have HB4 : Hid (Below w.heap.size w (w2.drewN q)) := Go.Proofs.YtoofgblmpjndjaaGreatDoor.K.below_drewN HB2.out _
      refine hK.out _ _ (HCX.out _ HB4.out) (fun hHeld => ?_)
      clear hK K
      try simp only [Act.put, List.getElem_toArray, List.getElem_cons_succ, List.getElem_cons_zero, List.setIfInBounds_toArray, List.set_cons_zero, List.set_cons_succ]
      refine wpAnyH_take (i := 4) (v := .bool false) rfl (by kernel_rfl) (by kernel_rfl) (by kernel_rfl) (fun _ _ _ h => h) (Or.inl ⟨by rfl, ?_⟩) hHeld ?_
      ·intro wz hSw; obtain ⟨s0, s1⟩ := hSw; go_simp
      try simp only [Act.put, List.getElem_toArray, List.getElem_cons_succ, List.getElem_cons_zero, List.setIfInBounds_toArray, List.set_cons_zero, List.set_cons_succ]
      refine wpAnyH_take (i := 5) (v := .bool false) rfl (by kernel_rfl) (by kernel_rfl) (by kernel_rfl) (fun _ _ _ h => h) (Or.inl ⟨by rfl, ?_⟩) hHeld ?_
      ·intro wz hSw; obtain ⟨s0, s1⟩ := hSw; go_simp
      try simp only [Act.put, List.getElem_toArray, List.getElem_cons_succ, List.getElem_cons_zero, List.setIfInBounds_toArray, List.set_cons_zero, List.set_cons_succ]
      refine wpAnyH_take (i := 6) (v := .string op) rfl (by kernel_rfl) (by kernel_rfl) (by kernel_rfl) (fun _ _ _ h => h) (Or.inl ⟨by kernel_rfl, ?_⟩) hHeld ?_
      ·intro wz hSw; obtain ⟨s0, s1⟩ := hSw; go_simp
      try simp only [Act.put, List.getElem_toArray, List.getElem_cons_succ, List.getElem_cons_zero, List.setIfInBounds_toArray, List.set_cons_zero, List.set_cons_succ]
      refine wpAnyH_take (i := 7) (v := .bool false) rfl (by kernel_rfl) (by kernel_rfl) (by kernel_rfl) (fun _ _ _ h => h) (Or.inl ⟨by kernel_rfl, ?_⟩) hHeld ?_
      ·intro wz hSw; obtain ⟨s0, s1⟩ := hSw; go_simp
      try simp only [Act.put, List.getElem_toArray, List.getElem_cons_succ, List.getElem_cons_zero, List.setIfInBounds_toArray, List.set_cons_zero, List.set_cons_succ]
      refine wpAnyH_take (i := 8) (v := .bool false) rfl (by kernel_rfl) (by kernel_rfl) (by kernel_rfl) (fun _ _ _ h => h) (Or.inl ⟨by kernel_rfl, ?_⟩) hHeld ?_
      ·intro wz hSw; obtain ⟨s0, s1⟩ := hSw; go_simp
      try simp only [Act.put, List.getElem_toArray, List.getElem_cons_succ, List.getElem_cons_zero, List.setIfInBounds_toArray, List.set_cons_zero, List.set_cons_succ]
      refine Ord.held_skip (i := 9) (d := 18) rfl rfl (by kernel_rfl) (by kernel_rfl) (by kernel_rfl) (fun _ _ _ h => h) (by kernel_rfl) hHeld ?_
      try simp only [Act.put, List.getElem_toArray, List.getElem_cons_succ, List.getElem_cons_zero, List.setIfInBounds_toArray, List.set_cons_zero, List.set_cons_succ]
      refine Ord.held_skip (i := 10) (d := 19) rfl rfl (by kernel_rfl) (by kernel_rfl) (by kernel_rfl) (fun _ _ _ h => h) (by kernel_rfl) hHeld ?_
      try simp only [Act.put, List.getElem_toArray, List.getElem_cons_succ, List.getElem_cons_zero, List.setIfInBounds_toArray, List.set_cons_zero, List.set_cons_succ]
      refine Ord.held_skip (i := 11) (d := 20) rfl rfl (by kernel_rfl) (by kernel_rfl) (by kernel_rfl) (fun _ _ _ h => h) (by kernel_rfl) hHeld ?_
      try simp only [Act.put, List.getElem_toArray, List.getElem_cons_succ, List.getElem_cons_zero, List.setIfInBounds_toArray, List.set_cons_zero, List.set_cons_succ]
      refine Ord.held_skip (i := 12) (d := 21) rfl rfl (by kernel_rfl) (by kernel_rfl) (by kernel_rfl) (fun _ _ _ h => h) (by kernel_rfl) hHeld ?_
      try simp only [Act.put, List.getElem_toArray, List.getElem_cons_succ, List.getElem_cons_zero, List.setIfInBounds_toArray, List.set_cons_zero, List.set_cons_succ]
      refine Ord.held_skip (i := 13) (d := 22) rfl rfl (by kernel_rfl) (by kernel_rfl) (by kernel_rfl) (fun _ _ _ h => h) (by kernel_rfl) hHeld ?_
      try simp only [Act.put, List.getElem_toArray, List.getElem_cons_succ, List.getElem_cons_zero, List.setIfInBounds_toArray, List.set_cons_zero, List.set_cons_succ]
      refine Ord.held_skip (i := 14) (d := 23) rfl rfl (by kernel_rfl) (by kernel_rfl) (by kernel_rfl) (fun _ _ _ h => h) (by kernel_rfl) hHeld ?_
      try simp only [Act.put, List.getElem_toArray, List.getElem_cons_succ, List.getElem_cons_zero, List.setIfInBounds_toArray, List.set_cons_zero, List.set_cons_succ]
      refine Ord.held_skip (i := 15) (d := 24) rfl rfl (by kernel_rfl) (by kernel_rfl) (by kernel_rfl) (fun _ _ _ h => h) (by kernel_rfl) hHeld ?_
      try simp only [Act.put, List.getElem_toArray, List.getElem_cons_succ, List.getElem_cons_zero, List.setIfInBounds_toArray, List.set_cons_zero, List.set_cons_succ]
      refine wpAnyH_take (i := 16) (v := .bool false) rfl (by kernel_rfl) (by kernel_rfl) (by kernel_rfl) (fun _ _ _ h => h) (Or.inl ⟨by kernel_rfl, ?_⟩) hHeld ?_
      ·intro wz hSw; obtain ⟨s0, s1⟩ := hSw; go_simp
      try simp only [Act.put, List.getElem_toArray, List.getElem_cons_succ, List.getElem_cons_zero, List.setIfInBounds_toArray, List.set_cons_zero, List.set_cons_succ]
      refine wpAnyH_take (i := 17) (v := .bool false) rfl (by kernel_rfl) (by kernel_rfl) (by kernel_rfl) (fun _ _ _ h => h) (Or.inl ⟨by rfl, ?_⟩) hHeld ?_
      ·intro wz hSw; obtain ⟨s0, s1⟩ := hSw; go_simp
      try simp only [Act.put, List.getElem_toArray, List.getElem_cons_succ, List.getElem_cons_zero, List.setIfInBounds_toArray, List.set_cons_zero, List.set_cons_succ]
      refine wpAnyH_take (i := 18) (v := .bool false) rfl (by kernel_rfl) (by kernel_rfl) (by kernel_rfl) (fun _ _ _ h => h) (Or.inl ⟨by rfl, ?_⟩) hHeld ?_
      ·intro wz hSw; obtain ⟨s0, s1⟩ := hSw; go_simp
      try simp only [Act.put, List.getElem_toArray, List.getElem_cons_succ, List.getElem_cons_zero, List.setIfInBounds_toArray, List.set_cons_zero, List.set_cons_succ]
      refine wpAnyH_take (i := 19) (v := .string op) rfl (by kernel_rfl) (by kernel_rfl) (by kernel_rfl) (fun _ _ _ h => h) (Or.inl ⟨by kernel_rfl, ?_⟩) hHeld ?_
      ·intro wz hSw; obtain ⟨s0, s1⟩ := hSw; go_simp
      try simp only [Act.put, List.getElem_toArray, List.getElem_cons_succ, List.getElem_cons_zero, List.setIfInBounds_toArray, List.set_cons_zero, List.set_cons_succ]
      refine wpAnyH_take (i := 20) (v := .bool true) rfl (by kernel_rfl) (by kernel_rfl) (by kernel_rfl) (fun _ _ _ h => h) (Or.inl ⟨by kernel_rfl, ?_⟩) hHeld ?_
      ·intro wz hSw; obtain ⟨s0, s1⟩ := hSw; go_simp
      try simp only [Act.put, List.getElem_toArray, List.getElem_cons_succ, List.getElem_cons_zero, List.setIfInBounds_toArray, List.set_cons_zero, List.set_cons_succ]
      refine wpAnyH_take (i := 21) (v := .bool true) rfl (by kernel_rfl) (by kernel_rfl) (by kernel_rfl) (fun _ _ _ h => h) (Or.inl ⟨by kernel_rfl, ?_⟩) hHeld ?_
      ·intro wz hSw; obtain ⟨s0, s1⟩ := hSw; go_simp
      try simp only [Act.put, List.getElem_toArray, List.getElem_cons_succ, List.getElem_cons_zero, List.setIfInBounds_toArray, List.set_cons_zero, List.set_cons_succ]
      refine wpAnyH_take (i := 22) (v := .slice (some ⟨ab, ao, none⟩) n c) rfl (by kernel_rfl) (by kernel_rfl) (by kernel_rfl) (fun _ _ _ h => h) (Or.inl ⟨by kernel_rfl, ?_⟩) hHeld ?_
      ·intro wz hSw; obtain ⟨s0, s1⟩ := hSw; go_simp
      try simp only [Act.put, List.getElem_toArray, List.getElem_cons_succ, List.getElem_cons_zero, List.setIfInBounds_toArray, List.set_cons_zero, List.set_cons_succ]
      refine wpAnyH_take (i := 23) (v := .pointer (some ⟨ab, ao, none⟩)) rfl (by kernel_rfl) (by kernel_rfl) (by kernel_rfl) (fun _ _ _ h => h) (Or.inl ⟨by kernel_rfl, ?_⟩) hHeld ?_
      ·intro wz hSw; obtain ⟨s0, s1⟩ := hSw; go_simp
      try simp only [Act.put, List.getElem_toArray, List.getElem_cons_succ, List.getElem_cons_zero, List.setIfInBounds_toArray, List.set_cons_zero, List.set_cons_succ]
      refine wpAnyH_take (i := 24) (v := .int .i64 x) rfl (by kernel_rfl) (by kernel_rfl) (by kernel_rfl) (fun _ _ _ h => h) (Or.inl ⟨by kernel_rfl, ?_⟩) hHeld ?_
      ·intro wz hSw; obtain ⟨s0, s1⟩ := hSw; go_simp
      try simp only [Act.put, List.getElem_toArray, List.getElem_cons_succ, List.getElem_cons_zero, List.setIfInBounds_toArray, List.set_cons_zero, List.set_cons_succ]
      refine wpAnyH_take (i := 25) (v := .slice (some ⟨ab, ao, none⟩) n c) rfl (by kernel_rfl) (by kernel_rfl) (by kernel_rfl) (fun _ _ _ h => h) (Or.inl ⟨by kernel_rfl, ?_⟩) hHeld ?_
      ·intro wz hSw; obtain ⟨s0, s1⟩ := hSw; go_simp
      try simp only [Act.put, List.getElem_toArray, List.getElem_cons_succ, List.getElem_cons_zero, List.setIfInBounds_toArray, List.set_cons_zero, List.set_cons_succ]
      refine wpAnyH_take (i := 26) (v := .pointer (some ⟨ab, ao + 1, none⟩)) rfl (by kernel_rfl) (by kernel_rfl) (by kernel_rfl) (fun _ _ _ h => h) (Or.inl ⟨by kernel_rfl, ?_⟩) hHeld ?_
      ·intro wz hSw; obtain ⟨s0, s1⟩ := hSw; go_simp
      try simp only [Act.put, List.getElem_toArray, List.getElem_cons_succ, List.getElem_cons_zero, List.setIfInBounds_toArray, List.set_cons_zero, List.set_cons_succ]
      refine wpAnyH_take (i := 27) (v := .int .i64 y) rfl (by kernel_rfl) (by kernel_rfl) (by kernel_rfl) (fun _ _ _ h => h) (Or.inl ⟨by kernel_rfl, ?_⟩) hHeld ?_
      ·intro wz hSw; obtain ⟨s0, s1⟩ := hSw; go_simp
      try simp only [Act.put, List.getElem_toArray, List.getElem_cons_succ, List.getElem_cons_zero, List.setIfInBounds_toArray, List.set_cons_zero, List.set_cons_succ]
      refine wpAnyH_take (i := 28) (v := .bool true) rfl (by kernel_rfl) (by kernel_rfl) (by kernel_rfl) (fun _ _ _ h => h) (Or.inl ⟨by kernel_rfl, ?_⟩) hHeld ?_
      ·intro wz hSw; obtain ⟨s0, s1⟩ := hSw; go_simp
      try simp only [Act.put, List.getElem_toArray, List.getElem_cons_succ, List.getElem_cons_zero, List.setIfInBounds_toArray, List.set_cons_zero, List.set_cons_succ]
      refine wpAnyH_take (i := 29) (v := .bool true) rfl (by kernel_rfl) (by kernel_rfl) (by kernel_rfl) (fun _ _ _ h => h) (Or.inl ⟨by kernel_rfl, ?_⟩) hHeld ?_
      ·intro wz hSw; obtain ⟨s0, s1⟩ := hSw; go_simp
      try simp only [Act.put, List.getElem_toArray, List.getElem_cons_succ, List.getElem_cons_zero, List.setIfInBounds_toArray, List.set_cons_zero, List.set_cons_succ]
      refine wpAnyH_take (i := 30) (v := .bool true) rfl (by kernel_rfl) (by kernel_rfl) (by kernel_rfl) (fun _ _ _ h => h) (Or.inl ⟨by rfl, ?_⟩) hHeld ?_
      ·intro wz hSw; obtain ⟨s0, s1⟩ := hSw; go_simp
      try simp only [Act.put, List.getElem_toArray, List.getElem_cons_succ, List.getElem_cons_zero, List.setIfInBounds_toArray, List.set_cons_zero, List.set_cons_succ]
      refine wpAnyH_done (by kernel_rfl) ?_ _
      go_wp2_with fail
      go_ret
      exact ⟨by rw [HE.out]; rfl, HB4.out⟩
     ·have dd : decide (y < x) = false := decide_eq_false hyx
      have HE : Hid (r = 0) := by show _ = _; rw [HRB.out, hfit, HM.out, dd]; rfl
      clear hfit hyx
      go_upto_region 3 with (fail)
      refine wp_region_held_drew (S := fun w' => w'.cell? ⟨ab, ao, none⟩ = some (.int .i64 x) ∧ w'.cell? ⟨ab, ao + 1, none⟩ = some (.int .i64 y)) (by kernel_rfl) (HCX.out _ HB1.out.drew) (fun hHeld => ?_)
      refine wpAnyH_take (i := 0) (v := .slice (some ⟨ab, ao, none⟩) n c) rfl (by kernel_rfl) (by kernel_rfl) (by kernel_rfl) (fun _ _ _ h => h) (Or.inl ⟨by rfl, ?_⟩) hHeld ?_
      ·intro wz hSw; obtain ⟨s0, s1⟩ := hSw; go_simp
      try simp only [Act.put, List.getElem_toArray, List.getElem_cons_succ, List.getElem_cons_zero, List.setIfInBounds_toArray, List.set_cons_zero, List.set_cons_succ]
      refine wpAnyH_take (i := 1) (v := .string op) rfl (by kernel_rfl) (by kernel_rfl) (by kernel_rfl) (fun _ _ _ h => h) (Or.inl ⟨by rfl, ?_⟩) hHeld ?_
      ·intro wz hSw; obtain ⟨s0, s1⟩ := hSw; go_simp
      try simp only [Act.put, List.getElem_toArray, List.getElem_cons_succ, List.getElem_cons_zero, List.setIfInBounds_toArray, List.set_cons_zero, List.set_cons_succ]
      refine wpAnyH_ready (rs := [2]) (by kernel_rfl) (by simp) ?_
      refine AllReadyH.cons rfl (fun K hK => ?_) AllReadyH.nil
      go_simp
      refine (rb20_any _ HFI.out).mono ?_
      rintro e w2 ⟨A2, c2, rfl, hs2, hb2⟩
      have HB2 : Hid (Below w.heap.size w w2) := (HB1.out.drew).trans (hb2.mono (by have := HB1.out.size; simpa using this))
      have HS2 := Lib.hid hs2
      clear hs2 hb2
      refine hK.out _ _ (HCX.out _ HB2.out) (fun hHeld => ?_)
      clear hK K
      try simp only [Act.put, List.getElem_toArray, List.getElem_cons_succ, List.getElem_cons_zero, List.setIfInBounds_toArray, List.set_cons_zero, List.set_cons_succ]
      refine wpAnyH_ready (rs := [3]) (by kernel_rfl) (by simp) ?_
      refine AllReadyH.cons rfl (fun K hK => ?_) AllReadyH.nil
      go_simp
      refine (Ard.fit_any (c := c) (d := c2) w2 (HAA.out.below HB2.out (Nat.le_refl _)) rfl (flatP_len b) HS2.out HLN.out).mono ?_
      rintro e w4 ⟨rfl, q, rfl⟩
      rw [fits_fit, HFT.out]
      have HB4 : Hid (Below w.heap.size w (w2.drewN q)) := Go.Proofs.YtoofgblmpjndjaaGreatDoor.K.below_drewN HB2.out _
      refine hK.out _ _ (HCX.out _ HB4.out) (fun hHeld => ?_)
      clear hK K
      try simp only [Act.put, List.getElem_toArray, List.getElem_cons_succ, List.getElem_cons_zero, List.setIfInBounds_toArray, List.set_cons_zero, List.set_cons_succ]
      refine wpAnyH_take (i := 4) (v := .bool false) rfl (by kernel_rfl) (by kernel_rfl) (by kernel_rfl) (fun _ _ _ h => h) (Or.inl ⟨by rfl, ?_⟩) hHeld ?_
      ·intro wz hSw; obtain ⟨s0, s1⟩ := hSw; go_simp
      try simp only [Act.put, List.getElem_toArray, List.getElem_cons_succ, List.getElem_cons_zero, List.setIfInBounds_toArray, List.set_cons_zero, List.set_cons_succ]
      refine wpAnyH_take (i := 5) (v := .bool false) rfl (by kernel_rfl) (by kernel_rfl) (by kernel_rfl) (fun _ _ _ h => h) (Or.inl ⟨by rfl, ?_⟩) hHeld ?_
      ·intro wz hSw; obtain ⟨s0, s1⟩ := hSw; go_simp
      try simp only [Act.put, List.getElem_toArray, List.getElem_cons_succ, List.getElem_cons_zero, List.setIfInBounds_toArray, List.set_cons_zero, List.set_cons_succ]
      refine wpAnyH_take (i := 6) (v := .string op) rfl (by kernel_rfl) (by kernel_rfl) (by kernel_rfl) (fun _ _ _ h => h) (Or.inl ⟨by kernel_rfl, ?_⟩) hHeld ?_
      ·intro wz hSw; obtain ⟨s0, s1⟩ := hSw; go_simp
      try simp only [Act.put, List.getElem_toArray, List.getElem_cons_succ, List.getElem_cons_zero, List.setIfInBounds_toArray, List.set_cons_zero, List.set_cons_succ]
      refine wpAnyH_take (i := 7) (v := .bool false) rfl (by kernel_rfl) (by kernel_rfl) (by kernel_rfl) (fun _ _ _ h => h) (Or.inl ⟨by kernel_rfl, ?_⟩) hHeld ?_
      ·intro wz hSw; obtain ⟨s0, s1⟩ := hSw; go_simp
      try simp only [Act.put, List.getElem_toArray, List.getElem_cons_succ, List.getElem_cons_zero, List.setIfInBounds_toArray, List.set_cons_zero, List.set_cons_succ]
      refine wpAnyH_take (i := 8) (v := .bool false) rfl (by kernel_rfl) (by kernel_rfl) (by kernel_rfl) (fun _ _ _ h => h) (Or.inl ⟨by kernel_rfl, ?_⟩) hHeld ?_
      ·intro wz hSw; obtain ⟨s0, s1⟩ := hSw; go_simp
      try simp only [Act.put, List.getElem_toArray, List.getElem_cons_succ, List.getElem_cons_zero, List.setIfInBounds_toArray, List.set_cons_zero, List.set_cons_succ]
      refine Ord.held_skip (i := 9) (d := 18) rfl rfl (by kernel_rfl) (by kernel_rfl) (by kernel_rfl) (fun _ _ _ h => h) (by kernel_rfl) hHeld ?_
      try simp only [Act.put, List.getElem_toArray, List.getElem_cons_succ, List.getElem_cons_zero, List.setIfInBounds_toArray, List.set_cons_zero, List.set_cons_succ]
      refine Ord.held_skip (i := 10) (d := 19) rfl rfl (by kernel_rfl) (by kernel_rfl) (by kernel_rfl) (fun _ _ _ h => h) (by kernel_rfl) hHeld ?_
      try simp only [Act.put, List.getElem_toArray, List.getElem_cons_succ, List.getElem_cons_zero, List.setIfInBounds_toArray, List.set_cons_zero, List.set_cons_succ]
      refine Ord.held_skip (i := 11) (d := 20) rfl rfl (by kernel_rfl) (by kernel_rfl) (by kernel_rfl) (fun _ _ _ h => h) (by kernel_rfl) hHeld ?_
      try simp only [Act.put, List.getElem_toArray, List.getElem_cons_succ, List.getElem_cons_zero, List.setIfInBounds_toArray, List.set_cons_zero, List.set_cons_succ]
      refine Ord.held_skip (i := 12) (d := 21) rfl rfl (by kernel_rfl) (by kernel_rfl) (by kernel_rfl) (fun _ _ _ h => h) (by kernel_rfl) hHeld ?_
      try simp only [Act.put, List.getElem_toArray, List.getElem_cons_succ, List.getElem_cons_zero, List.setIfInBounds_toArray, List.set_cons_zero, List.set_cons_succ]
      refine Ord.held_skip (i := 13) (d := 22) rfl rfl (by kernel_rfl) (by kernel_rfl) (by kernel_rfl) (fun _ _ _ h => h) (by kernel_rfl) hHeld ?_
      try simp only [Act.put, List.getElem_toArray, List.getElem_cons_succ, List.getElem_cons_zero, List.setIfInBounds_toArray, List.set_cons_zero, List.set_cons_succ]
      refine Ord.held_skip (i := 14) (d := 23) rfl rfl (by kernel_rfl) (by kernel_rfl) (by kernel_rfl) (fun _ _ _ h => h) (by kernel_rfl) hHeld ?_
      try simp only [Act.put, List.getElem_toArray, List.getElem_cons_succ, List.getElem_cons_zero, List.setIfInBounds_toArray, List.set_cons_zero, List.set_cons_succ]
      refine Ord.held_skip (i := 15) (d := 24) rfl rfl (by kernel_rfl) (by kernel_rfl) (by kernel_rfl) (fun _ _ _ h => h) (by kernel_rfl) hHeld ?_
      try simp only [Act.put, List.getElem_toArray, List.getElem_cons_succ, List.getElem_cons_zero, List.setIfInBounds_toArray, List.set_cons_zero, List.set_cons_succ]
      refine wpAnyH_take (i := 16) (v := .bool false) rfl (by kernel_rfl) (by kernel_rfl) (by kernel_rfl) (fun _ _ _ h => h) (Or.inl ⟨by kernel_rfl, ?_⟩) hHeld ?_
      ·intro wz hSw; obtain ⟨s0, s1⟩ := hSw; go_simp
      try simp only [Act.put, List.getElem_toArray, List.getElem_cons_succ, List.getElem_cons_zero, List.setIfInBounds_toArray, List.set_cons_zero, List.set_cons_succ]
      refine wpAnyH_take (i := 17) (v := .bool false) rfl (by kernel_rfl) (by kernel_rfl) (by kernel_rfl) (fun _ _ _ h => h) (Or.inl ⟨by rfl, ?_⟩) hHeld ?_
      ·intro wz hSw; obtain ⟨s0, s1⟩ := hSw; go_simp
      try simp only [Act.put, List.getElem_toArray, List.getElem_cons_succ, List.getElem_cons_zero, List.setIfInBounds_toArray, List.set_cons_zero, List.set_cons_succ]
      refine wpAnyH_take (i := 18) (v := .bool false) rfl (by kernel_rfl) (by kernel_rfl) (by kernel_rfl) (fun _ _ _ h => h) (Or.inl ⟨by rfl, ?_⟩) hHeld ?_
      ·intro wz hSw; obtain ⟨s0, s1⟩ := hSw; go_simp
      try simp only [Act.put, List.getElem_toArray, List.getElem_cons_succ, List.getElem_cons_zero, List.setIfInBounds_toArray, List.set_cons_zero, List.set_cons_succ]
      refine wpAnyH_take (i := 19) (v := .string op) rfl (by kernel_rfl) (by kernel_rfl) (by kernel_rfl) (fun _ _ _ h => h) (Or.inl ⟨by kernel_rfl, ?_⟩) hHeld ?_
      ·intro wz hSw; obtain ⟨s0, s1⟩ := hSw; go_simp
      try simp only [Act.put, List.getElem_toArray, List.getElem_cons_succ, List.getElem_cons_zero, List.setIfInBounds_toArray, List.set_cons_zero, List.set_cons_succ]
      refine wpAnyH_take (i := 20) (v := .bool true) rfl (by kernel_rfl) (by kernel_rfl) (by kernel_rfl) (fun _ _ _ h => h) (Or.inl ⟨by kernel_rfl, ?_⟩) hHeld ?_
      ·intro wz hSw; obtain ⟨s0, s1⟩ := hSw; go_simp
      try simp only [Act.put, List.getElem_toArray, List.getElem_cons_succ, List.getElem_cons_zero, List.setIfInBounds_toArray, List.set_cons_zero, List.set_cons_succ]
      refine wpAnyH_take (i := 21) (v := .bool true) rfl (by kernel_rfl) (by kernel_rfl) (by kernel_rfl) (fun _ _ _ h => h) (Or.inl ⟨by kernel_rfl, ?_⟩) hHeld ?_
      ·intro wz hSw; obtain ⟨s0, s1⟩ := hSw; go_simp
      try simp only [Act.put, List.getElem_toArray, List.getElem_cons_succ, List.getElem_cons_zero, List.setIfInBounds_toArray, List.set_cons_zero, List.set_cons_succ]
      refine wpAnyH_take (i := 22) (v := .slice (some ⟨ab, ao, none⟩) n c) rfl (by kernel_rfl) (by kernel_rfl) (by kernel_rfl) (fun _ _ _ h => h) (Or.inl ⟨by kernel_rfl, ?_⟩) hHeld ?_
      ·intro wz hSw; obtain ⟨s0, s1⟩ := hSw; go_simp
      try simp only [Act.put, List.getElem_toArray, List.getElem_cons_succ, List.getElem_cons_zero, List.setIfInBounds_toArray, List.set_cons_zero, List.set_cons_succ]
      refine wpAnyH_take (i := 23) (v := .pointer (some ⟨ab, ao, none⟩)) rfl (by kernel_rfl) (by kernel_rfl) (by kernel_rfl) (fun _ _ _ h => h) (Or.inl ⟨by kernel_rfl, ?_⟩) hHeld ?_
      ·intro wz hSw; obtain ⟨s0, s1⟩ := hSw; go_simp
      try simp only [Act.put, List.getElem_toArray, List.getElem_cons_succ, List.getElem_cons_zero, List.setIfInBounds_toArray, List.set_cons_zero, List.set_cons_succ]
      refine wpAnyH_take (i := 24) (v := .int .i64 x) rfl (by kernel_rfl) (by kernel_rfl) (by kernel_rfl) (fun _ _ _ h => h) (Or.inl ⟨by kernel_rfl, ?_⟩) hHeld ?_
      ·intro wz hSw; obtain ⟨s0, s1⟩ := hSw; go_simp
      try simp only [Act.put, List.getElem_toArray, List.getElem_cons_succ, List.getElem_cons_zero, List.setIfInBounds_toArray, List.set_cons_zero, List.set_cons_succ]
      refine wpAnyH_take (i := 25) (v := .slice (some ⟨ab, ao, none⟩) n c) rfl (by kernel_rfl) (by kernel_rfl) (by kernel_rfl) (fun _ _ _ h => h) (Or.inl ⟨by kernel_rfl, ?_⟩) hHeld ?_
      ·intro wz hSw; obtain ⟨s0, s1⟩ := hSw; go_simp
      try simp only [Act.put, List.getElem_toArray, List.getElem_cons_succ, List.getElem_cons_zero, List.setIfInBounds_toArray, List.set_cons_zero, List.set_cons_succ]
      refine wpAnyH_take (i := 26) (v := .pointer (some ⟨ab, ao + 1, none⟩)) rfl (by kernel_rfl) (by kernel_rfl) (by kernel_rfl) (fun _ _ _ h => h) (Or.inl ⟨by kernel_rfl, ?_⟩) hHeld ?_
      ·intro wz hSw; obtain ⟨s0, s1⟩ := hSw; go_simp
      try simp only [Act.put, List.getElem_toArray, List.getElem_cons_succ, List.getElem_cons_zero, List.setIfInBounds_toArray, List.set_cons_zero, List.set_cons_succ]
      refine wpAnyH_take (i := 27) (v := .int .i64 y) rfl (by kernel_rfl) (by kernel_rfl) (by kernel_rfl) (fun _ _ _ h => h) (Or.inl ⟨by kernel_rfl, ?_⟩) hHeld ?_
      ·intro wz hSw; obtain ⟨s0, s1⟩ := hSw; go_simp
      try simp only [Act.put, List.getElem_toArray, List.getElem_cons_succ, List.getElem_cons_zero, List.setIfInBounds_toArray, List.set_cons_zero, List.set_cons_succ]
      refine wpAnyH_take (i := 28) (v := .bool false) rfl (by kernel_rfl) (by kernel_rfl) (by kernel_rfl) (fun _ _ _ h => h) (Or.inl ⟨by kernel_rfl, ?_⟩) hHeld ?_
      ·intro wz hSw; obtain ⟨s0, s1⟩ := hSw; go_simp
      try simp only [Act.put, List.getElem_toArray, List.getElem_cons_succ, List.getElem_cons_zero, List.setIfInBounds_toArray, List.set_cons_zero, List.set_cons_succ]
      refine wpAnyH_take (i := 29) (v := .bool false) rfl (by kernel_rfl) (by kernel_rfl) (by kernel_rfl) (fun _ _ _ h => h) (Or.inl ⟨by kernel_rfl, ?_⟩) hHeld ?_
      ·intro wz hSw; obtain ⟨s0, s1⟩ := hSw; go_simp
      try simp only [Act.put, List.getElem_toArray, List.getElem_cons_succ, List.getElem_cons_zero, List.setIfInBounds_toArray, List.set_cons_zero, List.set_cons_succ]
      refine wpAnyH_take (i := 30) (v := .bool false) rfl (by kernel_rfl) (by kernel_rfl) (by kernel_rfl) (fun _ _ _ h => h) (Or.inl ⟨by rfl, ?_⟩) hHeld ?_
      ·intro wz hSw; obtain ⟨s0, s1⟩ := hSw; go_simp
      try simp only [Act.put, List.getElem_toArray, List.getElem_cons_succ, List.getElem_cons_zero, List.setIfInBounds_toArray, List.set_cons_zero, List.set_cons_succ]
      refine wpAnyH_done (by kernel_rfl) ?_ _
      go_wp2_with fail
      go_ret
      exact ⟨by rw [HE.out]; rfl, HB4.out⟩
    ·have h2' : (t == [115, 113, 117, 101, 101, 122, 101]) = false := by simpa using h2
     have HE : Hid (r = 0) := by show _ = _; rw [HRB.out, hfit, moreB_no h1' h2']; rfl
     rw [h1'] at m1
     rw [h2'] at m2
     clear hfit h1 h2 h1' h2'
     go_upto_region 3 with (fail)
     refine wp_region_held_drew (S := fun _ => True) (by kernel_rfl) trivial (fun hHeld => ?_)
     refine wpAnyH_take (i := 0) (v := .slice A n c) rfl (by kernel_rfl) (by kernel_rfl) (by kernel_rfl) (fun _ _ _ h => h) (Or.inl ⟨by rfl, ?_⟩) hHeld ?_
     ·intro wz hSw; go_simp
     try simp only [Act.put, List.getElem_toArray, List.getElem_cons_succ, List.getElem_cons_zero, List.setIfInBounds_toArray, List.set_cons_zero, List.set_cons_succ]
     refine wpAnyH_take (i := 1) (v := .string op) rfl (by kernel_rfl) (by kernel_rfl) (by kernel_rfl) (fun _ _ _ h => h) (Or.inl ⟨by rfl, ?_⟩) hHeld ?_
     ·intro wz hSw; go_simp
     try simp only [Act.put, List.getElem_toArray, List.getElem_cons_succ, List.getElem_cons_zero, List.setIfInBounds_toArray, List.set_cons_zero, List.set_cons_succ]
     refine wpAnyH_ready (rs := [2]) (by kernel_rfl) (by simp) ?_
     refine AllReadyH.cons rfl (fun K hK => ?_) AllReadyH.nil
     go_simp
     refine (rb20_any _ HFI.out).mono ?_
     rintro e w2 ⟨A2, c2, rfl, hs2, hb2⟩
     have HB2 : Hid (Below w.heap.size w w2) := (HB1.out.drew).trans (hb2.mono (by have := HB1.out.size; simpa using this))
     have HS2 := Lib.hid hs2
     clear hs2 hb2
     refine hK.out _ _ trivial (fun hHeld => ?_)
     clear hK K
     try simp only [Act.put, List.getElem_toArray, List.getElem_cons_succ, List.getElem_cons_zero, List.setIfInBounds_toArray, List.set_cons_zero, List.set_cons_succ]
     refine wpAnyH_ready (rs := [3]) (by kernel_rfl) (by simp) ?_
     refine AllReadyH.cons rfl (fun K hK => ?_) AllReadyH.nil
     go_simp
     refine (Ard.fit_any (c := c) (d := c2) w2 (HAA.out.below HB2.out (Nat.le_refl _)) rfl (flatP_len b) HS2.out HLN.out).mono ?_
     rintro e w4 ⟨rfl, q, rfl⟩
     rw [fits_fit, HFT.out]
     have HB4 : Hid (Below w.heap.size w (w2.drewN q)) := Go.Proofs.YtoofgblmpjndjaaGreatDoor.K.below_drewN HB2.out _
     refine hK.out _ _ trivial (fun hHeld => ?_)
     clear hK K
     try simp only [Act.put, List.getElem_toArray, List.getElem_cons_succ, List.getElem_cons_zero, List.setIfInBounds_toArray, List.set_cons_zero, List.set_cons_succ]
     refine wpAnyH_take (i := 4) (v := .bool false) rfl (by kernel_rfl) (by kernel_rfl) (by kernel_rfl) (fun _ _ _ h => h) (Or.inl ⟨by rfl, ?_⟩) hHeld ?_
     ·intro wz hSw; go_simp
     try simp only [Act.put, List.getElem_toArray, List.getElem_cons_succ, List.getElem_cons_zero, List.setIfInBounds_toArray, List.set_cons_zero, List.set_cons_succ]
     refine wpAnyH_take (i := 5) (v := .bool false) rfl (by kernel_rfl) (by kernel_rfl) (by kernel_rfl) (fun _ _ _ h => h) (Or.inl ⟨by rfl, ?_⟩) hHeld ?_
     ·intro wz hSw; go_simp
     try simp only [Act.put, List.getElem_toArray, List.getElem_cons_succ, List.getElem_cons_zero, List.setIfInBounds_toArray, List.set_cons_zero, List.set_cons_succ]
     refine wpAnyH_take (i := 6) (v := .string op) rfl (by kernel_rfl) (by kernel_rfl) (by kernel_rfl) (fun _ _ _ h => h) (Or.inl ⟨by kernel_rfl, ?_⟩) hHeld ?_
     ·intro wz hSw; go_simp
     try simp only [Act.put, List.getElem_toArray, List.getElem_cons_succ, List.getElem_cons_zero, List.setIfInBounds_toArray, List.set_cons_zero, List.set_cons_succ]
     refine wpAnyH_take (i := 7) (v := .bool false) rfl (by kernel_rfl) (by kernel_rfl) (by kernel_rfl) (fun _ _ _ h => h) (Or.inl ⟨by kernel_rfl, ?_⟩) hHeld ?_
     ·intro wz hSw; go_simp
     try simp only [Act.put, List.getElem_toArray, List.getElem_cons_succ, List.getElem_cons_zero, List.setIfInBounds_toArray, List.set_cons_zero, List.set_cons_succ]
     refine wpAnyH_take (i := 8) (v := .bool false) rfl (by kernel_rfl) (by kernel_rfl) (by kernel_rfl) (fun _ _ _ h => h) (Or.inl ⟨by kernel_rfl, ?_⟩) hHeld ?_
     ·intro wz hSw; go_simp
     try simp only [Act.put, List.getElem_toArray, List.getElem_cons_succ, List.getElem_cons_zero, List.setIfInBounds_toArray, List.set_cons_zero, List.set_cons_succ]
     refine Ord.held_skip (i := 9) (d := 18) rfl rfl (by kernel_rfl) (by kernel_rfl) (by kernel_rfl) (fun _ _ _ h => h) (by kernel_rfl) hHeld ?_
     try simp only [Act.put, List.getElem_toArray, List.getElem_cons_succ, List.getElem_cons_zero, List.setIfInBounds_toArray, List.set_cons_zero, List.set_cons_succ]
     refine Ord.held_skip (i := 10) (d := 19) rfl rfl (by kernel_rfl) (by kernel_rfl) (by kernel_rfl) (fun _ _ _ h => h) (by kernel_rfl) hHeld ?_
     try simp only [Act.put, List.getElem_toArray, List.getElem_cons_succ, List.getElem_cons_zero, List.setIfInBounds_toArray, List.set_cons_zero, List.set_cons_succ]
     refine Ord.held_skip (i := 11) (d := 20) rfl rfl (by kernel_rfl) (by kernel_rfl) (by kernel_rfl) (fun _ _ _ h => h) (by kernel_rfl) hHeld ?_
     try simp only [Act.put, List.getElem_toArray, List.getElem_cons_succ, List.getElem_cons_zero, List.setIfInBounds_toArray, List.set_cons_zero, List.set_cons_succ]
     refine Ord.held_skip (i := 12) (d := 21) rfl rfl (by kernel_rfl) (by kernel_rfl) (by kernel_rfl) (fun _ _ _ h => h) (by kernel_rfl) hHeld ?_
     try simp only [Act.put, List.getElem_toArray, List.getElem_cons_succ, List.getElem_cons_zero, List.setIfInBounds_toArray, List.set_cons_zero, List.set_cons_succ]
     refine Ord.held_skip (i := 13) (d := 22) rfl rfl (by kernel_rfl) (by kernel_rfl) (by kernel_rfl) (fun _ _ _ h => h) (by kernel_rfl) hHeld ?_
     try simp only [Act.put, List.getElem_toArray, List.getElem_cons_succ, List.getElem_cons_zero, List.setIfInBounds_toArray, List.set_cons_zero, List.set_cons_succ]
     refine Ord.held_skip (i := 14) (d := 23) rfl rfl (by kernel_rfl) (by kernel_rfl) (by kernel_rfl) (fun _ _ _ h => h) (by kernel_rfl) hHeld ?_
     try simp only [Act.put, List.getElem_toArray, List.getElem_cons_succ, List.getElem_cons_zero, List.setIfInBounds_toArray, List.set_cons_zero, List.set_cons_succ]
     refine Ord.held_skip (i := 15) (d := 24) rfl rfl (by kernel_rfl) (by kernel_rfl) (by kernel_rfl) (fun _ _ _ h => h) (by kernel_rfl) hHeld ?_
     try simp only [Act.put, List.getElem_toArray, List.getElem_cons_succ, List.getElem_cons_zero, List.setIfInBounds_toArray, List.set_cons_zero, List.set_cons_succ]
     refine wpAnyH_take (i := 16) (v := .bool false) rfl (by kernel_rfl) (by kernel_rfl) (by kernel_rfl) (fun _ _ _ h => h) (Or.inl ⟨by kernel_rfl, ?_⟩) hHeld ?_
     ·intro wz hSw; go_simp
     try simp only [Act.put, List.getElem_toArray, List.getElem_cons_succ, List.getElem_cons_zero, List.setIfInBounds_toArray, List.set_cons_zero, List.set_cons_succ]
     refine wpAnyH_take (i := 17) (v := .bool false) rfl (by kernel_rfl) (by kernel_rfl) (by kernel_rfl) (fun _ _ _ h => h) (Or.inl ⟨by rfl, ?_⟩) hHeld ?_
     ·intro wz hSw; go_simp
     try simp only [Act.put, List.getElem_toArray, List.getElem_cons_succ, List.getElem_cons_zero, List.setIfInBounds_toArray, List.set_cons_zero, List.set_cons_succ]
     refine wpAnyH_take (i := 18) (v := .bool false) rfl (by kernel_rfl) (by kernel_rfl) (by kernel_rfl) (fun _ _ _ h => h) (Or.inl ⟨by rfl, ?_⟩) hHeld ?_
     ·intro wz hSw; go_simp
     try simp only [Act.put, List.getElem_toArray, List.getElem_cons_succ, List.getElem_cons_zero, List.setIfInBounds_toArray, List.set_cons_zero, List.set_cons_succ]
     refine wpAnyH_take (i := 19) (v := .string op) rfl (by kernel_rfl) (by kernel_rfl) (by kernel_rfl) (fun _ _ _ h => h) (Or.inl ⟨by kernel_rfl, ?_⟩) hHeld ?_
     ·intro wz hSw; go_simp
     try simp only [Act.put, List.getElem_toArray, List.getElem_cons_succ, List.getElem_cons_zero, List.setIfInBounds_toArray, List.set_cons_zero, List.set_cons_succ]
     refine wpAnyH_take (i := 20) (v := .bool false) rfl (by kernel_rfl) (by kernel_rfl) (by kernel_rfl) (fun _ _ _ h => h) (Or.inl ⟨by kernel_rfl, ?_⟩) hHeld ?_
     ·intro wz hSw; go_simp
     try simp only [Act.put, List.getElem_toArray, List.getElem_cons_succ, List.getElem_cons_zero, List.setIfInBounds_toArray, List.set_cons_zero, List.set_cons_succ]
     refine wpAnyH_take (i := 21) (v := .bool false) rfl (by kernel_rfl) (by kernel_rfl) (by kernel_rfl) (fun _ _ _ h => h) (Or.inl ⟨by kernel_rfl, ?_⟩) hHeld ?_
     ·intro wz hSw; go_simp
     try simp only [Act.put, List.getElem_toArray, List.getElem_cons_succ, List.getElem_cons_zero, List.setIfInBounds_toArray, List.set_cons_zero, List.set_cons_succ]
     refine Ord.held_skip (i := 22) (d := 31) rfl rfl (by kernel_rfl) (by kernel_rfl) (by kernel_rfl) (fun _ _ _ h => h) (by kernel_rfl) hHeld ?_
     try simp only [Act.put, List.getElem_toArray, List.getElem_cons_succ, List.getElem_cons_zero, List.setIfInBounds_toArray, List.set_cons_zero, List.set_cons_succ]
     refine Ord.held_skip (i := 23) (d := 32) rfl rfl (by kernel_rfl) (by kernel_rfl) (by kernel_rfl) (fun _ _ _ h => h) (by kernel_rfl) hHeld ?_
     try simp only [Act.put, List.getElem_toArray, List.getElem_cons_succ, List.getElem_cons_zero, List.setIfInBounds_toArray, List.set_cons_zero, List.set_cons_succ]
     refine Ord.held_skip (i := 24) (d := 33) rfl rfl (by kernel_rfl) (by kernel_rfl) (by kernel_rfl) (fun _ _ _ h => h) (by kernel_rfl) hHeld ?_
     try simp only [Act.put, List.getElem_toArray, List.getElem_cons_succ, List.getElem_cons_zero, List.setIfInBounds_toArray, List.set_cons_zero, List.set_cons_succ]
     refine Ord.held_skip (i := 25) (d := 34) rfl rfl (by kernel_rfl) (by kernel_rfl) (by kernel_rfl) (fun _ _ _ h => h) (by kernel_rfl) hHeld ?_
     try simp only [Act.put, List.getElem_toArray, List.getElem_cons_succ, List.getElem_cons_zero, List.setIfInBounds_toArray, List.set_cons_zero, List.set_cons_succ]
     refine Ord.held_skip (i := 26) (d := 35) rfl rfl (by kernel_rfl) (by kernel_rfl) (by kernel_rfl) (fun _ _ _ h => h) (by kernel_rfl) hHeld ?_
     try simp only [Act.put, List.getElem_toArray, List.getElem_cons_succ, List.getElem_cons_zero, List.setIfInBounds_toArray, List.set_cons_zero, List.set_cons_succ]
     refine Ord.held_skip (i := 27) (d := 36) rfl rfl (by kernel_rfl) (by kernel_rfl) (by kernel_rfl) (fun _ _ _ h => h) (by kernel_rfl) hHeld ?_
     try simp only [Act.put, List.getElem_toArray, List.getElem_cons_succ, List.getElem_cons_zero, List.setIfInBounds_toArray, List.set_cons_zero, List.set_cons_succ]
     refine Ord.held_skip (i := 28) (d := 37) rfl rfl (by kernel_rfl) (by kernel_rfl) (by kernel_rfl) (fun _ _ _ h => h) (by kernel_rfl) hHeld ?_
     try simp only [Act.put, List.getElem_toArray, List.getElem_cons_succ, List.getElem_cons_zero, List.setIfInBounds_toArray, List.set_cons_zero, List.set_cons_succ]
     refine wpAnyH_take (i := 29) (v := .bool false) rfl (by kernel_rfl) (by kernel_rfl) (by kernel_rfl) (fun _ _ _ h => h) (Or.inl ⟨by kernel_rfl, ?_⟩) hHeld ?_
     ·intro wz hSw; go_simp
     try simp only [Act.put, List.getElem_toArray, List.getElem_cons_succ, List.getElem_cons_zero, List.setIfInBounds_toArray, List.set_cons_zero, List.set_cons_succ]
     refine wpAnyH_take (i := 30) (v := .bool false) rfl (by kernel_rfl) (by kernel_rfl) (by kernel_rfl) (fun _ _ _ h => h) (Or.inl ⟨by rfl, ?_⟩) hHeld ?_
     ·intro wz hSw; go_simp
     try simp only [Act.put, List.getElem_toArray, List.getElem_cons_succ, List.getElem_cons_zero, List.setIfInBounds_toArray, List.set_cons_zero, List.set_cons_succ]
     refine wpAnyH_done (by kernel_rfl) ?_ _
     go_wp2_with fail
     go_ret
     exact ⟨by rw [HE.out]; rfl, HB4.out⟩
theorem bld_kinds {op : Tx} {b : List (Int × Int)} (h : findM bld op = some b) : b = if op = [111, 118, 101, 114] then [(-4096, 4096), (-4096, 4096)] else if op = [109, 105, 120] then [(0, 256)] else [] := by
 obtain ⟨i, hi, hp⟩ := findM_at h
 match i, hi, hp with
 | 0, _, hp => injection hp with hp; injection hp with e1 e2; rw [← e1, ← e2]; decide
 | 1, _, hp => injection hp with hp; injection hp with e1 e2; rw [← e1, ← e2]; decide
 | 2, _, hp => injection hp with hp; injection hp with e1 e2; rw [← e1, ← e2]; decide
 | 3, _, hp => injection hp with hp; injection hp with e1 e2; rw [← e1, ← e2]; decide
 | 4, _, hp => injection hp with hp; injection hp with e1 e2; rw [← e1, ← e2]; decide
 | 5, _, hp => injection hp with hp; injection hp with e1 e2; rw [← e1, ← e2]; decide
 | 6, _, hp => injection hp with hp; injection hp with e1 e2; rw [← e1, ← e2]; decide
 | 7, _, hp => injection hp with hp; injection hp with e1 e2; rw [← e1, ← e2]; decide
 | 8, _, hp => injection hp with hp; injection hp with e1 e2; rw [← e1, ← e2]; decide
 | 9, _, hp => injection hp with hp; injection hp with e1 e2; rw [← e1, ← e2]; decide
 | 10, _, hp => injection hp with hp; injection hp with e1 e2; rw [← e1, ← e2]; decide
 | 11, _, hp => injection hp with hp; injection hp with e1 e2; rw [← e1, ← e2]; decide
 | i + 12, hi, _ => exact absurd hi (by show ¬ i + 12 < 12; omega)
set_option maxHeartbeats 4000000 in
theorem rcheck23_any {op : ByteArray} {A : Option Addr} {n c : Nat} {a : List Int} (w : World) (HA : SI w .i64 A n a) : Calls Tryz.prog 89 #[.string op, .slice A n c] w (ChkP w (chkM bld op.data.toList a)) := by
 have HAA := Lib.hid HA
 have HN := Lib.hid (rnames23 w)
 obtain ⟨r, hr⟩ : ∃ r, chkM bld op.data.toList a = r := ⟨_, rfl⟩
 rw [hr]
 have HR := Lib.hid hr
 have hop := (ba_of op).symm
 have m1 : (op.toList == [111, 118, 101, 114]) = (op.data.toList == [111, 118, 101, 114]) := lit_beq hop
 have m2 : (op.toList == [109, 105, 120]) = (op.data.toList == [109, 105, 120]) := lit_beq hop
 clear HA hr hop
 go_enter Tryz.func89, Tryz.ntmps89
 go_wp2_with fail
 refine HN.out.mono ?_
 rintro e w1 ⟨A1, c1, rfl, hs1, hb1⟩
 have HB1 := Lib.hid hb1
 have HC := Lib.hid (in_any (c := c1) op w1 hs1)
 rw [← findM_in] at HC
 clear hs1 hb1 HN
 cases hf : findM bld op.data.toList with
 | none =>
  have HE : Hid (r = 8) := by show _ = _; rw [← HR.out]; unfold chkM; rw [hf]
  rw [hf] at HC
  have HC2 : Hid (Calls Tryz.prog 28 #[.string op, .slice A1 (bld.map (·.1)).length c1] w1 fun e w' => e = .returned (.bool false) ∧ w1 = w') := HC
  clear hf HC m1 m2
  go_wp2_with fail
  refine HC2.out.mono ?_
  rintro e w' ⟨rfl, rfl⟩
  go_wp2_with fail
  go_ret
  exact ⟨by rw [HE.out]; rfl, HB1.out⟩
 | some b =>
  have HE : Hid (r = if fitM b a then 0 else 190) := by show _ = _; rw [← HR.out]; unfold chkM; rw [hf]
  rw [hf] at HC
  have HC2 : Hid (Calls Tryz.prog 28 #[.string op, .slice A1 (bld.map (·.1)).length c1] w1 fun e w' => e = .returned (.bool true) ∧ w1 = w') := HC
  have hk := bld_kinds hf
  obtain ⟨t, ht⟩ : ∃ t, op.data.toList = t := ⟨_, rfl⟩
  rw [ht] at m1 m2 hk
  clear hf HC ht HR
  by_cases h1 : t = [111, 118, 101, 114]
  ·rw [if_pos h1] at hk
   have h2 : (t == [109, 105, 120]) = false := by rw [h1]; decide
   rw [h1] at m1
   have m1 : (op.toList == [111, 118, 101, 114]) = true := m1
   rw [h2] at m2
   subst hk
   clear h1 h2
   have HSL := Lib.hid (Ard.SI.lit w1 [-4096, 4096, -4096, 4096] 3 (by decide))
   have HBL : Hid (Below w.heap.size w (w1.alloc (.cells ([-4096, 4096, -4096, 4096].map (Value.int .i64)).toArray 3))) := HB1.out.alloc HB1.out.size _
   have HF := Lib.hid (Ard.fit_any (c := c) (d := 4) (b := [(-4096, 4096), (-4096, 4096)]) (bn := 2) (m := 4) (w1.alloc (.cells ([-4096, 4096, -4096, 4096].map (Value.int .i64)).toArray 3)) (HAA.out.below HBL.out (Nat.le_refl _)) rfl rfl HSL.out (by decide))
   rw [fits_fit] at HF
   cases hfit : fitM [(-4096, 4096), (-4096, 4096)] a
   ·rw [hfit] at HE HF
    have HE2 : Hid (r = 190) := HE.out
    clear hfit HE
    go_wp2_with fail
    refine HC2.out.mono ?_
    rintro e w' ⟨rfl, rfl⟩
    go_wp2_with fail
    refine HF.out.mono ?_
    rintro e w4 ⟨rfl, q, rfl⟩
    go_wp2_with fail
    go_ret
    exact ⟨by rw [HE2.out]; rfl, Go.Proofs.YtoofgblmpjndjaaGreatDoor.K.below_drewN HBL.out _⟩
   ·rw [hfit] at HE HF
    have HE2 : Hid (r = 0) := HE.out
    clear hfit HE
    go_wp2_with fail
    refine HC2.out.mono ?_
    rintro e w' ⟨rfl, rfl⟩
    go_wp2_with fail
    refine HF.out.mono ?_
    rintro e w4 ⟨rfl, q, rfl⟩
    go_wp2_with fail
    go_ret
    exact ⟨by rw [HE2.out]; rfl, Go.Proofs.YtoofgblmpjndjaaGreatDoor.K.below_drewN HBL.out _⟩
  ·rw [if_neg h1] at hk
   rw [show (t == [111, 118, 101, 114]) = false from beq_eq_false_iff_ne.2 h1] at m1
   by_cases h2 : t = [109, 105, 120]
   ·rw [if_pos h2] at hk
    rw [h2] at m2
    have m2 : (op.toList == [109, 105, 120]) = true := m2
    subst hk
    clear h1 h2
    have HSL := Lib.hid (Ard.SI.lit w1 [0, 256] 3 (by decide))
    have HBL : Hid (Below w.heap.size w (w1.alloc (.cells ([0, 256].map (Value.int .i64)).toArray 3))) := HB1.out.alloc HB1.out.size _
    have HF := Lib.hid (Ard.fit_any (c := c) (d := 2) (b := [(0, 256)]) (bn := 1) (m := 2) (w1.alloc (.cells ([0, 256].map (Value.int .i64)).toArray 3)) (HAA.out.below HBL.out (Nat.le_refl _)) rfl rfl HSL.out (by decide))
    rw [fits_fit] at HF
    cases hfit : fitM [(0, 256)] a
    ·rw [hfit] at HE HF
     have HE2 : Hid (r = 190) := HE.out
     clear hfit HE
     go_wp2_with fail
     refine HC2.out.mono ?_
     rintro e w' ⟨rfl, rfl⟩
     go_wp2_with fail
     refine HF.out.mono ?_
     rintro e w4 ⟨rfl, q, rfl⟩
     go_wp2_with fail
     go_ret
     exact ⟨by rw [HE2.out]; rfl, Go.Proofs.YtoofgblmpjndjaaGreatDoor.K.below_drewN HBL.out _⟩
    ·rw [hfit] at HE HF
     have HE2 : Hid (r = 0) := HE.out
     clear hfit HE
     go_wp2_with fail
     refine HC2.out.mono ?_
     rintro e w' ⟨rfl, rfl⟩
     go_wp2_with fail
     refine HF.out.mono ?_
     rintro e w4 ⟨rfl, q, rfl⟩
     go_wp2_with fail
     go_ret
     exact ⟨by rw [HE2.out]; rfl, Go.Proofs.YtoofgblmpjndjaaGreatDoor.K.below_drewN HBL.out _⟩
   ·rw [if_neg h2] at hk
    rw [show (t == [109, 105, 120]) = false from beq_eq_false_iff_ne.2 h2] at m2
    subst hk
    clear h1 h2
    have HF := Lib.hid (Ard.fit_any (c := c) (d := 0) (b := []) (bn := 0) (m := 0) w1 (HAA.out.below HB1.out (Nat.le_refl _)) rfl rfl (SI.nil _ _ none) (by decide))
    rw [fits_fit] at HF
    cases hfit : fitM [] a
    ·rw [hfit] at HE HF
     have HE2 : Hid (r = 190) := HE.out
     clear hfit HE
     go_wp2_with fail
     refine HC2.out.mono ?_
     rintro e w' ⟨rfl, rfl⟩
     go_wp2_with fail
     refine HF.out.mono ?_
     rintro e w4 ⟨rfl, q, rfl⟩
     go_wp2_with fail
     go_ret
     exact ⟨by rw [HE2.out]; rfl, Go.Proofs.YtoofgblmpjndjaaGreatDoor.K.below_drewN HB1.out _⟩
    ·rw [hfit] at HE HF
     have HE2 : Hid (r = 0) := HE.out
     clear hfit HE
     go_wp2_with fail
     refine HC2.out.mono ?_
     rintro e w' ⟨rfl, rfl⟩
     go_wp2_with fail
     refine HF.out.mono ?_
     rintro e w4 ⟨rfl, q, rfl⟩
     go_wp2_with fail
     go_ret
     exact ⟨by rw [HE2.out]; rfl, Go.Proofs.YtoofgblmpjndjaaGreatDoor.K.below_drewN HB1.out _⟩
theorem ard_at : ∀ i, i < 9 → ard[i]? = some ((Ard.nameF i).data.toList, Ard.bndF i) := by decide
theorem ard_find : ∀ (op : ByteArray), findM ard op.data.toList = (Ard.idxF op).map Ard.bndF := fun op => by
 have hi : ∀ i, i < 9 → ((Ard.nameF i).data.toList = op.data.toList ↔ Ard.nameF i = op) := fun i _ => ⟨fun h => by rw [← ba_of (Ard.nameF i), h, ba_of], fun h => by rw [h]⟩
 cases hf : findM ard op.data.toList with
 | none =>
  have hno : ∀ i, i < 9 → Ard.nameF i ≠ op := fun i h e => by
   have h1 : (findM ard op.data.toList).isSome = true := by
    rw [findM_in, List.contains_iff_mem, List.mem_map]
    exact ⟨_, List.mem_of_getElem? (ard_at i h), (hi i h).2 e⟩
   rw [hf] at h1
   cases h1
  rw [Ard.idxF_none hno]
  rfl
 | some b =>
  obtain ⟨i, hlt, hp⟩ := findM_at hf
  have h9 : i < 9 := hlt
  rw [ard_at i h9] at hp
  injection hp with hp
  injection hp with e1 e2
  have hid : ∃ k, Ard.idxF op = some k := by
   cases hq : Ard.idxF op with
   | some k => exact ⟨k, rfl⟩
   | none =>
    have := List.find?_eq_none.1 hq i (List.mem_range.2 h9)
    simp [(hi i h9).1 e1] at this
  obtain ⟨k, hk⟩ := hid
  obtain ⟨hk9, hop⟩ := Ard.idxF_some hk
  have : k = i := Ard.name_inj k hk9 i h9 (hop.symm.trans ((hi i h9).1 e1).symm)
  subst this
  rw [hk, ← e2]
  rfl
theorem ard_chk (op : ByteArray) (a : List Int) : Ard.checkE op a = chkM ard op.data.toList a := by
 unfold Ard.checkE chkM
 rw [ard_find]
 cases Ard.idxF op with
 | none => rfl
 | some i =>
  show (if Ard.fitsB (Ard.bndF i) a = true then (0 : Int) else 190) = _
  rw [fits_fit]
  rfl
theorem rcheck22_any {op : ByteArray} {A : Option Addr} {n c : Nat} {a : List Int} (w : World) (HA : SI w .i64 A n a) : Calls Tryz.prog 88 #[.string op, .slice A n c] w (ChkP w (chkM ard op.data.toList a)) := by
 rw [← ard_chk]
 exact Ard.rcheck_any w HA
end Go.Proofs.YtoofgblmpjndjaaGreatDoor.Scr
