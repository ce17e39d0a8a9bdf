/-
  Walks: AroundParts.
-/
import Derived.Test.YtogmlcgiajigfaaAroV
import Derived.Test.YtogmlcgiajigfaaAroW
set_option linter.unusedVariables false
set_option linter.unusedSimpArgs false
namespace Go.Proofs.Ytogmlcgiajigfaa.Ard
open Go.RowKit K

def wkC (op : ByteArray) (A : Option Addr) (n c : Nat) (X Y RW RH : Int) : Array Value := #[.string op, .slice A n c, .int .i64 X, .int .i64 Y, .int .i64 RW, .int .i64 RH]
theorem wk_cells {w : World} {g : Nat} {T : TypeId} {op : ByteArray} {A : Option Addr} {n c : Nat} {X Y RW RH : Int} (h : w.heap[g]? = some (.cells (wkC op A n c X Y RW RH) T (0, 0))) :
    w.cell? ⟨g, 0, none⟩ = some (.string op) ∧ w.cell? ⟨g, 1, none⟩ = some (.slice A n c) ∧ w.cell? ⟨g, 2, none⟩ = some (.int .i64 X) ∧ w.cell? ⟨g, 3, none⟩ = some (.int .i64 Y) ∧ w.cell? ⟨g, 4, none⟩ = some (.int .i64 RW) ∧ w.cell? ⟨g, 5, none⟩ = some (.int .i64 RH) :=
  ⟨row_cell h 0, row_cell h 1, row_cell h 2, row_cell h 3, row_cell h 4, row_cell h 5⟩
theorem whole_within {W H : Int} {pn : Nat} (h : GoodP W H pn) : WithinP 0 0 W H W H := by
  have hF := h.1
  unfold FitsP at hF
  unfold WithinP
  omega
theorem part_zero {op : ByteArray} {a : List Int} {W H X Y RW RH : Int} {pn : Nat} (h : partE op a W H pn X Y RW RH = 0) : checkE op a = 0 ∧ GoodP W H pn ∧ WithinP X Y RW RH W H := by
  unfold partE at h
  by_cases hc : checkE op a = 0
  · by_cases hg : GoodP W H pn
    · by_cases hw : WithinP X Y RW RH W H
      · exact ⟨hc, hg, hw⟩
      · simp [hc, hg, hw] at h
    · simp [hc, hg] at h
  · simp [hc] at h
theorem whole_zero {op : ByteArray} {a : List Int} {W H : Int} {pn : Nat} (hc : checkE op a = 0) (hg : GoodP W H pn) : partE op a W H pn 0 0 W H = 0 := by
  unfold partE
  simp [hc, hg, whole_within hg]
theorem whole_len {op : ByteArray} {a pix : List Int} {W H pn : Nat} (hc : checkE op a = 0) (hg : GoodP W H pn) : (partL op a W H pix 0 0 W H).length = pn := by
  obtain ⟨i, hi, hid, -, -⟩ := check_ok hc
  unfold partL
  rw [hid]
  simp only [List.length_map, List.length_range, Int.toNat_natCast]
  have := hg.2
  have h4 : ((4 * W * H : Nat) : Int) = 4 * (W : Int) * (H : Int) := by push_cast; rfl
  omega
/-- a part of the whole outcome is the part's outcome -/
theorem part_crop {op : ByteArray} {a pix : List Int} {W H X Y RW RH pn : Nat} (hc : checkE op a = 0) (hg : GoodP W H pn) (hw : WithinP X Y RW RH W H) :
    soFar (crF W (partL op a W H pix 0 0 W H) X Y RW) (4 * RW * RH) = partL op a W H pix X Y RW RH := by
  obtain ⟨i, hi, hid, -, -⟩ := check_ok hc
  unfold WithinP at hw
  unfold partL
  rw [hid]
  simp only [Int.toNat_natCast]
  unfold soFar
  apply List.map_congr_left
  intro s hs
  rw [List.mem_range] at hs
  unfold crF outS outT
  have hRW : 1 ≤ RW := by omega
  have hx : s / 4 % RW < RW := Nat.mod_lt _ (by omega)
  have hy : s / 4 / RW < RH := by
    rw [Nat.div_div_eq_div_mul]
    exact Nat.div_lt_of_lt_mul (by rw [Nat.mul_comm] at hs; rw [Nat.mul_comm (4 * RW)]; omega)
  have hk : s % 4 < 4 := Nat.mod_lt _ (by omega)
  generalize s / 4 % RW = x at *
  generalize s / 4 / RW = y at *
  generalize s % 4 = k at *
  have hlt : 4 * ((Y + y) * W + (X + x)) + k < 4 * W * H := place_in (by omega) (by omega) hk
  dsimp only
  rw [List.getD_eq_getElem?_getD, List.getElem?_map, List.getElem?_range hlt]
  simp only [Option.map_some, Option.getD_some]
  have h := outT_at (fun x y k => sampF i a W H pix (Int.toNat 0 + x) (Int.toNat 0 + y) k) (RW := W) (x := X + x) (k := k) (Y + y) (by omega) hk
  unfold outT at h
  dsimp only at h
  rw [h]
  simp
set_option maxRecDepth 20000 in
set_option maxHeartbeats 4000000 in
theorem aroundParts_any {op : ByteArray} {A : Option Addr} {n c : Nat} {a : List Int} {X Y RW RH W H : Int} {P : Option Addr} {pn pc : Nat} {pix : List Int} (w : World) (HA : SI w .i64 A n a) (HP : SI w .u16 P pn pix) (hwv : ∀ v ∈ pix, 0 ≤ v ∧ v < 65536) :
    Calls Try.prog 5 #[.agg (wkC op A n c X Y RW RH), .agg #[.int .i64 W, .int .i64 H, .slice P pn pc]] w (TestP w true) := by
  have HPP := Lib.hid HP
  have HII := Lib.hid HA
  have HWV := Lib.hid hwv
  have hbig : pn * 2 ≤ 140737488351232 := HP.sz
  have hbiga : n * 8 ≤ 140737488351232 := HA.sz
  have HAB : Hid (n ≤ 17592186043904) := by show _ ≤ _; omega
  have HPB : Hid (pn ≤ 70368744175616) := by show _ ≤ _; omega
  have HAL := Lib.hid HA.len
  have HPL := Lib.hid HP.len
  obtain ⟨w0, hw0, r0, r1, hs0, hb0⟩ := two_allocs w (.cells (wkC op A n c X Y RW RH) 48) (.cells #[.int .i64 W, .int .i64 H, .slice P pn pc] 37)
  have R0 := Lib.hid r0
  have R1 := Lib.hid r1
  have HB0 := Lib.hid hb0
  obtain ⟨gw, hgw⟩ : ∃ x, w.heap.size = x := ⟨_, rfl⟩
  have HGW := Lib.hid hgw
  rw [hgw] at R0 R1
  obtain ⟨E, hE⟩ : ∃ E, partE op a W H pn X Y RW RH = E := ⟨_, rfl⟩
  obtain ⟨LL, hL⟩ : ∃ l, lE E (partL op a W H pix X Y RW RH) = l := ⟨_, rfl⟩
  have HLL : Hid (LL.length ≤ 67108864) := by show _ ≤ _; rw [← hL, ← hE]; exact lE_len
  have HAP : Hid (∀ V AI kI AC cC, SI V .i64 AI n a → SI V .u16 AC pn pix → pn ≤ cC ∧ cC ≤ maxLen → Calls Try.prog 22 #[.string op, .slice AI n kI, .agg #[.int .i64 W, .int .i64 H, .slice AC pn cC], .agg #[.int .i64 X, .int .i64 Y, .int .i64 RW, .int .i64 RH]] V (ImgP V (zE E RW) (zE E RH) LL E)) := fun V AI kI AC cC h1 h2 h3 => by
    have hcap := h3.2
    unfold maxLen at hcap
    have := (part_any (op := op) (c := kI) (W := W) (H := H) (X := X) (Y := Y) (RW := RW) (RH := RH) V h1 h2 hwv h3.1 (by omega)).mono fun e w' h => ans_img h
    rwa [hE, hL] at this
  have HRP : Hid (∀ V, SI V .i64 A n a → SI V .u16 P pn pix → Calls Try.prog 23 #[.string op, .slice A n c, .agg #[.int .i64 W, .int .i64 H, .slice P pn pc], .agg #[.int .i64 X, .int .i64 Y, .int .i64 RW, .int .i64 RH]] V (ImgP V (zE E RW) (zE E RH) LL E)) := fun V h1 h2 => by
    have := (rpart_any (op := op) (c := c) (W := W) (H := H) (X := X) (Y := Y) (RW := RW) (RH := RH) (pc := pc) V h1 h2 hwv).mono fun e w' h => ans_img h
    rwa [hE, hL] at this
  have HEE := Lib.hid hE
  have HLE := Lib.hid hL
  clear HP HA hwv hE hL hbig hbiga r0 r1 hs0 hb0
  unfold wkC at hw0
  unfold wkC
  go_enter Try.func5, Try.ntmps5
  go_wp2_with fail
  try rw [hw0]
  clear hw0 hgw
  refine (wakes_any _).mono ?_
  rintro e w1 ⟨rfl, hb1⟩
  have HB1 : Hid (Below w.heap.size w w1) := bel_tr HB0.out hb1
  have T0 : Hid (w1.heap[gw]? = some (.cells (wkC op A n c X Y RW RH) 48 (0, 0))) := row_tr R0.out hb1
  have T1 : Hid (w1.heap[gw + 1]? = some (.cells #[.int .i64 W, .int .i64 H, .slice P pn pc] 37 (0, 0))) := row_tr R1.out hb1
  have HI1 : Hid (SI w1 .i64 A n a) := HII.out.below HB1.out (Nat.le_refl _)
  have HP1 : Hid (SI w1 .u16 P pn pix) := HPP.out.below HB1.out (Nat.le_refl _)
  clear hb1 HB0 R0 R1 HII HPP
  try rw [HGW.out]
  go_upto_region 3 with (fail)
--<region1
  have HBV : Hid (Below w1.heap.size w1 w1) := Below.refl _ _
  obtain ⟨c0, c1, c2, c3, c4, c5⟩ := wk_cells (row_tr T0.out HBV.out)
  obtain ⟨d0, d1, d2⟩ := img_cells (row_tr T1.out HBV.out)
  have hsv := HBV.out.size
  have gw0 : gw < w1.heap.size := World.block_lt_of_cell? w1 _ c0
  have gw1 : gw + 1 < w1.heap.size := World.block_lt_of_cell? w1 _ d0
  go_cut [5, 6] (fun s12 s13 wx => ∃ gy A1 c1, s12 = .pointer (some ⟨gy, 0, none⟩) ∧ s13 = .int .i64 E ∧ Got w1 wx gy (zE E RW) (zE E RH) A1 c1 LL)
  case first =>
    go_region_held3 (fun w' => w'.cell? ⟨gw, 0, none⟩ = some (.string op) ∧ w'.cell? ⟨gw, 1, none⟩ = some (.slice A n c) ∧ w'.cell? ⟨gw, 2, none⟩ = some (.int .i64 X) ∧ w'.cell? ⟨gw, 3, none⟩ = some (.int .i64 Y) ∧ w'.cell? ⟨gw, 4, none⟩ = some (.int .i64 RW) ∧ w'.cell? ⟨gw, 5, none⟩ = some (.int .i64 RH) ∧ w'.cell? ⟨gw + 1, 0, none⟩ = some (.int .i64 W) ∧ w'.cell? ⟨gw + 1, 1, none⟩ = some (.int .i64 H) ∧ w'.cell? ⟨gw + 1, 2, none⟩ = some (.slice P pn pc))
      (first
        | go_keep
        | exact ⟨c0, c1, c2, c3, c4, c5, d0, d1, d2⟩
        | exact ⟨cell_set3 c0 (by show gw ≠ _; omega), cell_set3 c1 (by show gw ≠ _; omega), cell_set3 c2 (by show gw ≠ _; omega), cell_set3 c3 (by show gw ≠ _; omega), cell_set3 c4 (by show gw ≠ _; omega), cell_set3 c5 (by show gw ≠ _; omega), cell_set3 d0 (by show gw + 1 ≠ _; omega), cell_set3 d1 (by show gw + 1 ≠ _; omega), cell_set3 d2 (by show gw + 1 ≠ _; omega)⟩)
      ((first
        | (go_at_call 14
           (with_reducible refine (ints_any _ (si_tr HI1.out (by (repeat (first | with_reducible exact HBV.out | with_reducible refine bel_al ?_ _ | with_reducible refine bel_dr ?_)); all_goals fail))).mono ?_)
           rintro e v1 ⟨AI, kI, rfl, hownI, hb1⟩
           have SA : Hid (SI v1 .i64 AI n a) := by show SI _ _ _ _ _; rw [← HAL.out]; exact SI.of_own hownI (by have := HAL.out; have := HAB.out; simp only [kb]; omega)
           rw [HAL.out]
           have HBV : Hid (Below w1.heap.size w1 v1) := bel_tr (by (repeat (first | with_reducible exact HBV.out | with_reducible refine bel_al ?_ _ | with_reducible refine bel_dr ?_)); all_goals fail) hb1
           first
             | have HZ : Hid (v1.heap[w1.heap.size]? = some (.cells zimg 37 (0, 0))) := row_tr (row_dr (row_new rfl)) hb1
             | skip
           obtain ⟨c0, c1, c2, c3, c4, c5⟩ := wk_cells (row_tr T0.out HBV.out)
           obtain ⟨d0, d1, d2⟩ := img_cells (row_tr T1.out HBV.out)
           have hsv := HBV.out.size
           have gw0 : gw < v1.heap.size := World.block_lt_of_cell? v1 _ c0
           have gw1 : gw + 1 < v1.heap.size := World.block_lt_of_cell? v1 _ d0
           skip)
        | (go_at_call 19
           (with_reducible refine (own_any (pc := pc) _ (si_tr HP1.out (by (repeat (first | with_reducible exact HBV.out | with_reducible refine bel_al ?_ _ | with_reducible refine bel_dr ?_)); all_goals fail))).mono ?_)
           rintro e v2 ⟨hb2, AC, cC, rfl, hown2, hc1, hc2⟩
           have SP2 : Hid (SI v2 .u16 AC pn pix) := by show SI _ _ _ _ _; rw [← HPL.out]; exact SI.of_own hown2 (by have := HPL.out; have := HPB.out; simp only [kb]; omega)
           have HC2 : Hid (pn ≤ cC ∧ cC ≤ maxLen) := by show _ ∧ _; rw [← HPL.out]; exact ⟨hc1, hc2⟩
           have SA := Lib.hid (si_tr (k := .i64) (A := AI) (n := n) (l := a) (by (repeat (first | with_reducible exact SA.out | with_reducible refine SI.alloc ?_ _ | with_reducible refine si_dr ?_)); all_goals fail) hb2)
           rw [HPL.out]
           have HBV : Hid (Below w1.heap.size w1 v2) := bel_tr (by (repeat (first | with_reducible exact HBV.out | with_reducible refine bel_al ?_ _ | with_reducible refine bel_dr ?_)); all_goals fail) hb2
           first
             | have HZ := Lib.hid (row_tr HZ.out hb2)
             | have HZ : Hid (v2.heap[v1.heap.size]? = some (.cells zimg 37 (0, 0))) := row_tr (row_new rfl) hb2
             | skip
           obtain ⟨c0, c1, c2, c3, c4, c5⟩ := wk_cells (row_tr T0.out HBV.out)
           obtain ⟨d0, d1, d2⟩ := img_cells (row_tr T1.out HBV.out)
           have hsv := HBV.out.size
           have gw0 : gw < v2.heap.size := World.block_lt_of_cell? v2 _ c0
           have gw1 : gw + 1 < v2.heap.size := World.block_lt_of_cell? v2 _ d0
           skip)
        | (go_at_call 22
           (with_reducible refine (HAP.out _ _ _ _ _ (by (repeat (first | with_reducible exact SA.out | with_reducible refine SI.alloc ?_ _ | with_reducible refine si_dr ?_)); all_goals fail) (by (repeat (first | with_reducible exact SP2.out | with_reducible refine SI.alloc ?_ _ | with_reducible refine si_dr ?_)); all_goals fail) HC2.out).mono ?_)
           rintro e v3 ⟨hb3, A1, c1', rfl, hown3⟩
           have HOX : Hid (v3.ownsRow w1.heap.size 53 1 (.slice A1 (LL).length c1') (LL).length ((LL).map (.int .u16))) := own_base hown3 (Below.size (by (repeat (first | with_reducible exact HBV.out | with_reducible refine bel_al ?_ _ | with_reducible refine bel_dr ?_)); all_goals fail))
           first
             | have HZ := Lib.hid (row_tr HZ.out hb3)
             | have HZ : Hid (v3.heap[v2.heap.size]? = some (.cells zimg 37 (0, 0))) := row_tr (row_new rfl) hb3
             | skip
           have hs12 := HBV.out.size
           have HBV : Hid (Below w1.heap.size w1 v3) := bel_tr (by (repeat (first | with_reducible exact HBV.out | with_reducible refine bel_al ?_ _ | with_reducible refine bel_dr ?_)); all_goals fail) hb3
           first
             | (have zz := zi_cells HZ.out
                obtain ⟨z0, z1, z2, q0, q1, q2⟩ := zz)
             | skip
           obtain ⟨c0, c1, c2, c3, c4, c5⟩ := wk_cells (row_tr T0.out HBV.out)
           obtain ⟨d0, d1, d2⟩ := img_cells (row_tr T1.out HBV.out)
           have hsv := HBV.out.size
           have gw0 : gw < v3.heap.size := World.block_lt_of_cell? v3 _ c0
           have gw1 : gw + 1 < v3.heap.size := World.block_lt_of_cell? v3 _ d0
           skip)))
    all_goals (
      try refine NoPanic.normal ?_
      go_wp2
      go_meet
      case rel =>
        first
          | exact ⟨_, A1, c1', rfl, rfl, got_alloc HBV.out HOX.out⟩
          | exact ⟨_, A1, c1', rfl, rfl, got_set HBV.out HOX.out HZ.out (by omega)⟩)
--region1>
  case rest =>
    obtain ⟨gx, A1, c1', rfl, rfl, hgot⟩ := hcut
    have HGX := Lib.hid hgot
    have HBX : Hid (Below w.heap.size w wc) := bel_tr HB1.out hgot.bel
    obtain ⟨y0, y1, y2, y3, y4, y5⟩ := wk_cells (row_tr T0.out hgot.bel)
    obtain ⟨x0, x1, x2⟩ := img_cells (row_tr T1.out hgot.bel)
    have HRC := Lib.hid (HRP.out _ (si_tr HI1.out hgot.bel) (si_tr HP1.out hgot.bel))
    clear hgot
    go_wp2_with fail
    refine HRC.out.mono ?_
    rintro e w5 ⟨hb5, A2, c2', rfl, hown5⟩
    obtain ⟨w6, hw6⟩ : ∃ v, w5.alloc (.cells #[.int .i64 (zE E RW), .int .i64 (zE E RH), .slice A2 LL.length c2'] 37) = v := ⟨_, rfl⟩
    have hb6 : Below wc.heap.size wc w6 := by rw [← hw6]; exact bel_al hb5 _
    have hbg : Below w1.heap.size w1 w6 := bel_tr HGX.out.bel hb6
    have Q0 : Hid (w6.heap[gx]? = some (.cells #[.int .i64 (zE E RW), .int .i64 (zE E RH), .slice A1 LL.length c1'] 37 (0, 0))) := row_tr HGX.out.row hb6
    have Q1 : Hid (w6.heap[w5.heap.size]? = some (.cells #[.int .i64 (zE E RW), .int .i64 (zE E RH), .slice A2 LL.length c2'] 37 (0, 0))) := by show _ = _; rw [← hw6]; exact heap_alloc_new _ _
    have S0 : Hid (SI w6 .u16 A1 LL.length LL) := si_tr (HGX.out.si (by have := HLL.out; omega)) hb6
    have S1 : Hid (SI w6 .u16 A2 LL.length LL) := by show SI _ _ _ _ _; rw [← hw6]; exact (SI.of_own hown5 (by have := HLL.out; simp only [kb]; omega)).alloc _
    have T0b := Lib.hid (row_tr T0.out hbg)
    have T1b := Lib.hid (row_tr T1.out hbg)
    have HI6 := Lib.hid (si_tr HI1.out hbg)
    have HP6 := Lib.hid (si_tr HP1.out hbg)
    have HB6 : Hid (Below w.heap.size w w6) := bel_tr HBX.out hb6
    have HSB : Hid (sameB (zE E RW) (zE E RH) LL (zE E RW) (zE E RH) LL = true) := decide_eq_true ⟨rfl, rfl, rfl⟩
    clear hb5 hown5 hb6 hbg x0 x1 x2 y0 y1 y2 y3 y4 y5
    go_upto_region 5 with (fail)
    try rw [hw6]
    clear hw6
    obtain ⟨x0, x1, x2⟩ := img_cells Q0.out
    obtain ⟨y0, y1, y2⟩ := img_cells Q1.out
    have HSM : Hid (Calls Try.prog 21 #[.agg #[.int .i64 (zE E RW), .int .i64 (zE E RH), .slice A1 LL.length c1'], .agg #[.int .i64 (zE E RW), .int .i64 (zE E RH), .slice A2 LL.length c2']] w6 (TestP w6 true)) := by
      have := same_any (W := zE E RW) (H := zE E RH) (W2 := zE E RW) (H2 := zE E RH) (pc := c1') (pc2 := c2') w6 S0.out S1.out
      rwa [HSB.out] at this
    have nE : (E != E) = false := by simp
    have HZW : Hid (E = 0 → zE E RW = RW) := fun h => by simp [zE, h]
    have HZH : Hid (E = 0 → zE E RH = RH) := fun h => by simp [zE, h]
    clear HSB
    generalize zE E RW = zW at *
    generalize zE E RH = zH at *
    go_wp2_with fail
    refine HSM.out.mono ?_
    rintro e w7 ⟨rfl, hb7⟩
    have hbg : Below w6.heap.size w6 w7 := hb7
    have Q0 := Lib.hid (row_tr Q0.out hb7)
    have S0 := Lib.hid (si_tr S0.out hb7)
    have U0 : Hid (w7.heap[gw]? = some (.cells (wkC op A n c X Y RW RH) 48 (0, 0))) := row_tr T0b.out hb7
    have U1 : Hid (w7.heap[gw + 1]? = some (.cells #[.int .i64 W, .int .i64 H, .slice P pn pc] 37 (0, 0))) := row_tr T1b.out hb7
    have HI7 := Lib.hid (si_tr HI6.out hb7)
    have HP7 := Lib.hid (si_tr HP6.out hb7)
    have HB7 : Hid (Below w.heap.size w w7) := bel_tr HB6.out hb7
    clear hb7 hbg x0 x1 x2 y0 y1 y2 T0b T1b HI6 HP6 HB6 HSM S1 Q1 HGX HBX HRC HI1 HP1 T0 T1 HB1
    by_cases h0 : E = 0
    · have hz1 := HZW.out h0
      have hz2 := HZH.out h0
      subst hz1 hz2 h0
      obtain ⟨hck, hgd, hwi⟩ := part_zero HEE.out
      have hee := HEE.out
      have hle := HLE.out
      unfold lE at hle
      rw [if_pos rfl] at hle
      obtain ⟨W, H, rfl, rfl⟩ := nat_of hgd
      have hw2 := hwi
      unfold WithinP at hw2
      obtain ⟨X, rfl⟩ := Int.eq_ofNat_of_zero_le (show 0 ≤ X by omega)
      obtain ⟨Y, rfl⟩ := Int.eq_ofNat_of_zero_le (show 0 ≤ Y by omega)
      obtain ⟨RW, rfl⟩ := Int.eq_ofNat_of_zero_le (show 0 ≤ zW by omega)
      obtain ⟨RH, rfl⟩ := Int.eq_ofNat_of_zero_le (show 0 ≤ zH by omega)
      obtain ⟨L2, hL2⟩ : ∃ l, partL op a W H pix 0 0 W H = l := ⟨_, rfl⟩
      have hlen2 : L2.length = pn := by rw [← hL2]; exact whole_len hck hgd
      have hcrop := part_crop (pix := pix) hck hgd hwi
      rw [hL2, hle] at hcrop
      have HL2 : Hid (L2.length ≤ 67108864) := by
        show _ ≤ _
        have := lE_len (op := op) (a := a) (pix := pix) (W := W) (H := H) (X := 0) (Y := 0) (RW := W) (RH := H) (pn := pn)
        rw [whole_zero hck hgd] at this
        unfold lE at this
        rw [if_pos rfl, hL2] at this
        exact this
      have HAQ : Hid (∀ V AI kI AC cC, SI V .i64 AI n a → SI V .u16 AC pn pix → pn ≤ cC ∧ cC ≤ maxLen → Calls Try.prog 18 #[.string op, .slice AI n kI, .agg #[.int .i64 W, .int .i64 H, .slice AC pn cC]] V (ImgP V W H L2 0)) := fun V AI kI AC cC h1 h2 h3 => by
        have := papply_img (op := op) (c := kI) (W := W) (H := H) V h1 h2 HWV.out h3
        rw [whole_zero hck hgd] at this
        simpa only [zE, lE, if_true, hL2] using this
      have HCR : Hid (∀ V PA cA, SI V .u16 PA L2.length L2 → Calls Try.prog 24 #[.agg #[.int .i64 W, .int .i64 H, .slice PA L2.length cA], .agg #[.int .i64 X, .int .i64 Y, .int .i64 RW, .int .i64 RH]] V (ImgP V RW RH LL 0)) := fun V PA cA h1 => by
        have := rcrop_in (pc := cA) V h1 (by rw [hlen2]; exact hgd) hwi
        rwa [hcrop] at this
      have HSB : Hid (sameB RW RH LL RW RH LL = true) := decide_eq_true ⟨rfl, rfl, rfl⟩
      clear hck hgd hwi hee hle hw2 hL2 hlen2 hcrop HEE HLE HAP HRP HZW HZH
      have n0 : ((0 : Int) != 0) = false := by simp
      go_upto_region 9 with (fail)
--<region2
      have HBV : Hid (Below w7.heap.size w7 w7) := Below.refl _ _
      obtain ⟨c0, c1, -, -, -, -⟩ := wk_cells (row_tr U0.out HBV.out)
      obtain ⟨d0, d1, d2⟩ := img_cells (row_tr U1.out HBV.out)
      have hsv := HBV.out.size
      have gw0 : gw < w7.heap.size := World.block_lt_of_cell? w7 _ c0
      have gw1 : gw + 1 < w7.heap.size := World.block_lt_of_cell? w7 _ d0
      go_cut [9, 10] (fun s12 s13 wx => ∃ gy A1 c1, s12 = .pointer (some ⟨gy, 0, none⟩) ∧ s13 = .int .i64 0 ∧ Got w7 wx gy W H A1 c1 L2)
      case first =>
        go_region_held3 (fun w' => w'.cell? ⟨gw, 0, none⟩ = some (.string op) ∧ w'.cell? ⟨gw, 1, none⟩ = some (.slice A n c) ∧ w'.cell? ⟨gw + 1, 0, none⟩ = some (.int .i64 W) ∧ w'.cell? ⟨gw + 1, 1, none⟩ = some (.int .i64 H) ∧ w'.cell? ⟨gw + 1, 2, none⟩ = some (.slice P pn pc))
          (first
            | go_keep
            | exact ⟨c0, c1, d0, d1, d2⟩
            | exact ⟨cell_set3 c0 (by show gw ≠ _; omega), cell_set3 c1 (by show gw ≠ _; omega), cell_set3 d0 (by show gw + 1 ≠ _; omega), cell_set3 d1 (by show gw + 1 ≠ _; omega), cell_set3 d2 (by show gw + 1 ≠ _; omega)⟩)
          ((first
            | (go_at_call 14
               (with_reducible refine (ints_any _ (si_tr HI7.out (by (repeat (first | with_reducible exact HBV.out | with_reducible refine bel_al ?_ _ | with_reducible refine bel_dr ?_)); all_goals fail))).mono ?_)
               rintro e v1 ⟨AI, kI, rfl, hownI, hb1⟩
               have SA : Hid (SI v1 .i64 AI n a) := by show SI _ _ _ _ _; rw [← HAL.out]; exact SI.of_own hownI (by have := HAL.out; have := HAB.out; simp only [kb]; omega)
               rw [HAL.out]
               have HBV : Hid (Below w7.heap.size w7 v1) := bel_tr (by (repeat (first | with_reducible exact HBV.out | with_reducible refine bel_al ?_ _ | with_reducible refine bel_dr ?_)); all_goals fail) hb1
               first
                 | have HZ : Hid (v1.heap[w7.heap.size]? = some (.cells zimg 37 (0, 0))) := row_tr (row_dr (row_new rfl)) hb1
                 | skip
               obtain ⟨c0, c1, -, -, -, -⟩ := wk_cells (row_tr U0.out HBV.out)
               obtain ⟨d0, d1, d2⟩ := img_cells (row_tr U1.out HBV.out)
               have hsv := HBV.out.size
               have gw0 : gw < v1.heap.size := World.block_lt_of_cell? v1 _ c0
               have gw1 : gw + 1 < v1.heap.size := World.block_lt_of_cell? v1 _ d0
               skip)
            | (go_at_call 19
               (with_reducible refine (own_any (pc := pc) _ (si_tr HP7.out (by (repeat (first | with_reducible exact HBV.out | with_reducible refine bel_al ?_ _ | with_reducible refine bel_dr ?_)); all_goals fail))).mono ?_)
               rintro e v2 ⟨hb2, AC, cC, rfl, hown2, hc1, hc2⟩
               have SP2 : Hid (SI v2 .u16 AC pn pix) := by show SI _ _ _ _ _; rw [← HPL.out]; exact SI.of_own hown2 (by have := HPL.out; have := HPB.out; simp only [kb]; omega)
               have HC2 : Hid (pn ≤ cC ∧ cC ≤ maxLen) := by show _ ∧ _; rw [← HPL.out]; exact ⟨hc1, hc2⟩
               have SA := Lib.hid (si_tr (k := .i64) (A := AI) (n := n) (l := a) (by (repeat (first | with_reducible exact SA.out | with_reducible refine SI.alloc ?_ _ | with_reducible refine si_dr ?_)); all_goals fail) hb2)
               rw [HPL.out]
               have HBV : Hid (Below w7.heap.size w7 v2) := bel_tr (by (repeat (first | with_reducible exact HBV.out | with_reducible refine bel_al ?_ _ | with_reducible refine bel_dr ?_)); all_goals fail) hb2
               first
                 | have HZ := Lib.hid (row_tr HZ.out hb2)
                 | have HZ : Hid (v2.heap[v1.heap.size]? = some (.cells zimg 37 (0, 0))) := row_tr (row_new rfl) hb2
                 | skip
               obtain ⟨c0, c1, -, -, -, -⟩ := wk_cells (row_tr U0.out HBV.out)
               obtain ⟨d0, d1, d2⟩ := img_cells (row_tr U1.out HBV.out)
               have hsv := HBV.out.size
               have gw0 : gw < v2.heap.size := World.block_lt_of_cell? v2 _ c0
               have gw1 : gw + 1 < v2.heap.size := World.block_lt_of_cell? v2 _ d0
               skip)
            | (go_at_call 18
               (with_reducible refine (HAQ.out _ _ _ _ _ (by (repeat (first | with_reducible exact SA.out | with_reducible refine SI.alloc ?_ _ | with_reducible refine si_dr ?_)); all_goals fail) (by (repeat (first | with_reducible exact SP2.out | with_reducible refine SI.alloc ?_ _ | with_reducible refine si_dr ?_)); all_goals fail) HC2.out).mono ?_)
               rintro e v3 ⟨hb3, A1, c1', rfl, hown3⟩
               have HOX : Hid (v3.ownsRow w7.heap.size 53 1 (.slice A1 (L2).length c1') (L2).length ((L2).map (.int .u16))) := own_base hown3 (Below.size (by (repeat (first | with_reducible exact HBV.out | with_reducible refine bel_al ?_ _ | with_reducible refine bel_dr ?_)); all_goals fail))
               first
                 | have HZ := Lib.hid (row_tr HZ.out hb3)
                 | have HZ : Hid (v3.heap[v2.heap.size]? = some (.cells zimg 37 (0, 0))) := row_tr (row_new rfl) hb3
                 | skip
               have hs12 := HBV.out.size
               have HBV : Hid (Below w7.heap.size w7 v3) := bel_tr (by (repeat (first | with_reducible exact HBV.out | with_reducible refine bel_al ?_ _ | with_reducible refine bel_dr ?_)); all_goals fail) hb3
               first
                 | (have zz := zi_cells HZ.out
                    obtain ⟨z0, z1, z2, q0, q1, q2⟩ := zz)
                 | skip
               obtain ⟨c0, c1, -, -, -, -⟩ := wk_cells (row_tr U0.out HBV.out)
               obtain ⟨d0, d1, d2⟩ := img_cells (row_tr U1.out HBV.out)
               have hsv := HBV.out.size
               have gw0 : gw < v3.heap.size := World.block_lt_of_cell? v3 _ c0
               have gw1 : gw + 1 < v3.heap.size := World.block_lt_of_cell? v3 _ d0
               skip)))
        all_goals (
          try refine NoPanic.normal ?_
          go_wp2
          go_meet
          case rel =>
            first
              | exact ⟨_, A1, c1', rfl, rfl, got_alloc HBV.out HOX.out⟩
              | exact ⟨_, A1, c1', rfl, rfl, got_set HBV.out HOX.out HZ.out (by omega)⟩)
--region2>
      case rest =>
        obtain ⟨gz, A4, c4, rfl, rfl, hgot⟩ := hcut
        have HGZ := Lib.hid hgot
        have Q2 := Lib.hid (row_tr Q0.out hgot.bel)
        have S2 := Lib.hid (si_tr S0.out hgot.bel)
        have HBZ := Lib.hid (bel_tr HB7.out hgot.bel)
        obtain ⟨y0, y1, y2, y3, y4, y5⟩ := wk_cells (row_tr U0.out hgot.bel)
        obtain ⟨z0, z1, z2⟩ := img_cells hgot.row
        have HC := Lib.hid (HCR.out wc A4 c4 (hgot.si (by have := HL2.out; omega)))
        clear hgot c0 c1 d0 d1 d2 hsv gw0 gw1
        go_wp2_with fail
        refine HC.out.mono ?_
        rintro e w8 ⟨hb8, A5, c5, rfl, hown8⟩
        obtain ⟨w9, hw9⟩ : ∃ v, w8.alloc (.cells #[.int .i64 RW, .int .i64 RH, .slice A5 LL.length c5] 37) = v := ⟨_, rfl⟩
        have hb9 : Below wc.heap.size wc w9 := by rw [← hw9]; exact bel_al hb8 _
        have Q3 := Lib.hid (row_tr Q2.out hb9)
        have S3 := Lib.hid (si_tr S2.out hb9)
        have Q4 : Hid (w9.heap[w8.heap.size]? = some (.cells #[.int .i64 RW, .int .i64 RH, .slice A5 LL.length c5] 37 (0, 0))) := by show _ = _; rw [← hw9]; exact heap_alloc_new _ _
        have S4 : Hid (SI w9 .u16 A5 LL.length LL) := by show SI _ _ _ _ _; rw [← hw9]; exact (SI.of_own hown8 (by have := HLL.out; simp only [kb]; omega)).alloc _
        have HB9 : Hid (Below w.heap.size w w9) := bel_tr HBZ.out hb9
        have HSM : Hid (Calls Try.prog 21 #[.agg #[.int .i64 RW, .int .i64 RH, .slice A1 LL.length c1'], .agg #[.int .i64 RW, .int .i64 RH, .slice A5 LL.length c5]] w9 (TestP w9 true)) := by
          have := same_any (W := RW) (H := RH) (W2 := RW) (H2 := RH) (pc := c1') (pc2 := c5) w9 S3.out S4.out
          rwa [HSB.out] at this
        clear hb8 hown8 hb9 y0 y1 y2 y3 y4 y5 z0 z1 z2
        go_upto_region 11 with (fail)
        try rw [hw9]
        clear hw9
        obtain ⟨x0, x1, x2⟩ := img_cells Q3.out
        obtain ⟨y0, y1, y2⟩ := img_cells Q4.out
        go_wp2_with fail
        refine HSM.out.mono ?_
        rintro e wA ⟨rfl, hbA⟩
        have HBA : Hid (Below w.heap.size w wA) := bel_tr HB9.out hbA
        clear hbA
        go_wp2_with fail
        go_ret
        exact ⟨rfl, HBA.out⟩
    · have n0 : (E != 0) = true := by simp [h0]
      clear h0
      go_wp2_with fail
      go_ret
      exact ⟨rfl, HB7.out⟩
end Go.Proofs.Ytogmlcgiajigfaa.Ard
