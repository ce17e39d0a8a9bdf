/-
  Walks: AroundApplies.
-/
import Derived.Test.YtogmlcgiajigfaaAroC
import Derived.Test.YtogmlcgiajigfaaAroF
import Derived.Test.YtogmlcgiajigfaaAroU
import Derived.Test.YtogmlcgiajigfaaGot
import Derived.Deep.RegionHeld3
import Derived.Deep.DeepCutAuto
import Derived.Deep.CutBlock
set_option linter.unusedVariables false
set_option linter.unusedSimpArgs false
namespace Go.Proofs.Ytogmlcgiajigfaa.Ard
open Go.RowKit K

/-- what is answered with a fault is empty -/
def zE (E v : Int) : Int := if E = 0 then v else 0
def lE (E : Int) (l : List Int) : List Int := if E = 0 then l else []
theorem ans_img {w w' : World} {W H E : Int} {l : List Int} {e : Ending} (h : AnsP w W H l E e w') : ImgP w (zE E W) (zE E H) (lE E l) E e w' := by
  unfold AnsP at h
  unfold zE lE
  by_cases h0 : E = 0
  · subst h0; simpa using h
  · simpa [h0] using h
theorem lE_len {op : ByteArray} {a pix : List Int} {W H X Y RW RH : Int} {pn : Nat} : (lE (partE op a W H pn X Y RW RH) (partL op a W H pix X Y RW RH)).length ≤ 67108864 := by
  unfold lE
  by_cases h0 : partE op a W H pn X Y RW RH = 0
  · rw [if_pos h0]
    unfold partE at h0
    by_cases hc : checkE op a = 0
    · by_cases hg : GoodP W H pn
      · by_cases hw : WithinP X Y RW RH W H
        · unfold partL
          cases idxF op with
          | none => simp
          | some i =>
            have hF := hg.1
            unfold FitsP at hF
            unfold WithinP at hw
            simp only [List.length_map, List.length_range]
            exact Nat.le_trans (Nat.mul_le_mul (show 4 * RW.toNat ≤ 16384 by omega) (show RH.toNat ≤ 4096 by omega)) (by omega)
        · simp [hc, hg, hw] at h0
      · simp [hc, hg] at h0
    · simp [hc] at h0
  · rw [if_neg h0]; simp
set_option maxHeartbeats 1000000 in
theorem rapply_of {op : ByteArray} {A : Option Addr} {n c : Nat} {W H RW RH code : Int} {l : List Int} {P : Option Addr} {pn pc : Nat} (w : World)
    (HPA : ∀ V, Below w.heap.size w V → Calls Try.prog 23 #[.string op, .slice A n c, .agg #[.int .i64 W, .int .i64 H, .slice P pn pc], .agg #[.int .i64 0, .int .i64 0, .int .i64 W, .int .i64 H]] V (ImgP V RW RH l code)) :
    Calls Try.prog 20 #[.string op, .slice A n c, .agg #[.int .i64 W, .int .i64 H, .slice P pn pc]] w (ImgP w RW RH l code) := by
  obtain ⟨W0, hW0, r0, r1, hs, hb⟩ := two_allocs w (.cells #[.int .i64 W, .int .i64 H, .slice P pn pc] 37) (.cells zimg 37)
  have HP := Lib.hid HPA
  have R1 := Lib.hid r1
  have HS := Lib.hid hs
  have HB := Lib.hid hb
  obtain ⟨x0, x1, x2⟩ := img_cells r0
  clear HPA r0 r1 hs hb
  go_enter Try.func20, Try.ntmps20
  go_wp2_with fail
  unfold zimg at hW0
  rw [hW0]
  refine (HP.out W0 HB.out).mono ?_
  rintro e w1 ⟨hb1, A2, c2, rfl, hown⟩
  have R1b : Hid (w1.heap[w.heap.size + 1]? = some (.cells zimg 37 (0, 0))) := row_tr R1.out hb1
  have HB1 : Hid (Below w.heap.size w w1) := bel_tr HB.out hb1
  have HOW : Hid (w1.ownsRow w.heap.size 53 1 (.slice A2 l.length c2) l.length (l.map (.int .u16))) := own_base hown (by have := HS.out; omega)
  have HOI : Hid ((#[.int .i64 RW, .int .i64 RH, .slice A2 l.length c2] : Array Value).all (·.oneCell') = true) := by show _ = _; simp [Value.oneCell']
  clear hb1 hown hW0
  go_wp2_with (refine wpList_store_row rfl 37 (.tmp 6) (.tmp 17) rfl (w.heap.size + 1) #[.int .i64 RW, .int .i64 RH, .slice A2 l.length c2] rfl rfl 37 zimg R1b.out imgInfo rfl HOI.out ?_)
  refine bodyPost_ret (results_row_tmp rfl _ _ (w.heap.size + 1) 37 _ (0, 0) _ rfl (setRow_heap _ _ _ _ _ _ R1b.out) Try.underlying37 rfl imgInfo) rfl ?_
  exact ⟨below_setRow HB1.out (Nat.le_add_right _ _) _, A2, c2, rfl, HOW.out.kept (grown_row _ _ _) (.inr (own_ne HOW.out R1b.out (by decide)).symm)⟩
theorem rapply_img {op : ByteArray} {A : Option Addr} {n c : Nat} {a : List Int} {W H : Int} {pn pc : Nat} {P : Option Addr} {pix : List Int} (w : World) (HA : SI w .i64 A n a) (HP : SI w .u16 P pn pix) (hwv : ∀ v ∈ pix, 0 ≤ v ∧ v < 65536) :
    Calls Try.prog 20 #[.string op, .slice A n c, .agg #[.int .i64 W, .int .i64 H, .slice P pn pc]] w (ImgP w (zE (partE op a W H pn 0 0 W H) W) (zE (partE op a W H pn 0 0 W H) H) (lE (partE op a W H pn 0 0 W H) (partL op a W H pix 0 0 W H)) (partE op a W H pn 0 0 W H)) :=
  rapply_of w fun V hV => (rpart_any (op := op) (c := c) (a := a) (W := W) (H := H) (X := 0) (Y := 0) (RW := W) (RH := H) (pc := pc) V (HA.below hV (Nat.le_refl _)) (HP.below hV (Nat.le_refl _)) hwv).mono fun e w' h => ans_img h
theorem papply_img {op : ByteArray} {A : Option Addr} {n c : Nat} {a : List Int} {W H : Int} {pn pc : Nat} {P : Option Addr} {pix : List Int} (w : World) (HA : SI w .i64 A n a) (HP : SI w .u16 P pn pix) (hwv : ∀ v ∈ pix, 0 ≤ v ∧ v < 65536) (hpc : pn ≤ pc ∧ pc ≤ maxLen) :
    Calls Try.prog 18 #[.string op, .slice A n c, .agg #[.int .i64 W, .int .i64 H, .slice P pn pc]] w (ImgP w (zE (partE op a W H pn 0 0 W H) W) (zE (partE op a W H pn 0 0 W H) H) (lE (partE op a W H pn 0 0 W H) (partL op a W H pix 0 0 W H)) (partE op a W H pn 0 0 W H)) := by
  have hcap := hpc.2
  unfold maxLen at hcap
  exact (apply_any (op := op) (c := c) (a := a) w HA HP hwv hpc.1 (by omega)).mono fun e w' h => ans_img h
set_option maxRecDepth 20000 in
set_option maxHeartbeats 4000000 in
theorem aroundApplies_any {op : ByteArray} {A : Option Addr} {n c : Nat} {a : List Int} {W H : Int} {P : Option Addr} {pn pc : Nat} {pix : List Int} (w : World) (HA : SI w .i64 A n a) (HP : SI w .u16 P pn pix) (hwv : ∀ v ∈ pix, 0 ≤ v ∧ v < 65536) :
    Calls Try.prog 4 #[.string op, .slice A n c, .agg #[.int .i64 W, .int .i64 H, .slice P pn pc]] w (TestP w true) := by
  have HPP := Lib.hid HP
  have HII := Lib.hid HA
  have HWV := Lib.hid hwv
  have hbig : pn * 2 ≤ 140737488351232 := HP.sz
  have hbiga : n * 8 ≤ 140737488351232 := HA.sz
  have HAB : Hid (n ≤ 17592186043904) := by show _ ≤ _; omega
  have HPB : Hid (pn ≤ 70368744175616) := by show _ ≤ _; omega
  have HAL := Lib.hid HA.len
  have HPL := Lib.hid HP.len
  have HB0 : Hid (Below w.heap.size w (w.alloc (.cells #[.int .i64 W, .int .i64 H, .slice P pn pc] 37))) := (Below.refl _ w).alloc (Nat.le_refl _) _
  have R0 : Hid ((w.alloc (.cells #[.int .i64 W, .int .i64 H, .slice P pn pc] 37)).heap[w.heap.size]? = some (.cells #[.int .i64 W, .int .i64 H, .slice P pn pc] 37 (0, 0))) := heap_alloc_new _ _
  obtain ⟨E, hE⟩ : ∃ E, partE op a W H pn 0 0 W H = E := ⟨_, rfl⟩
  obtain ⟨LL, hL⟩ : ∃ l, lE E (partL op a W H pix 0 0 W H) = l := ⟨_, rfl⟩
  have HLL : Hid (LL.length ≤ 67108864) := by show _ ≤ _; rw [← hL, ← hE]; exact lE_len
  have HAP : Hid (∀ V AI kI AC cC, SI V .i64 AI n a → SI V .u16 AC pn pix → pn ≤ cC ∧ cC ≤ maxLen → Calls Try.prog 18 #[.string op, .slice AI n kI, .agg #[.int .i64 W, .int .i64 H, .slice AC pn cC]] V (ImgP V (zE E W) (zE E H) LL E)) := fun V AI kI AC cC h1 h2 h3 => by
    have := papply_img (op := op) (c := kI) (W := W) (H := H) V h1 h2 hwv h3
    rwa [hE, hL] at this
  have HRP : Hid (∀ V, SI V .i64 A n a → SI V .u16 P pn pix → Calls Try.prog 20 #[.string op, .slice A n c, .agg #[.int .i64 W, .int .i64 H, .slice P pn pc]] V (ImgP V (zE E W) (zE E H) LL E)) := fun V h1 h2 => by
    have := rapply_img (op := op) (c := c) (W := W) (H := H) (pc := pc) V h1 h2 hwv
    rwa [hE, hL] at this
  have HEE := Lib.hid hE
  clear HP HA hwv hE hL hbig hbiga
  go_enter Try.func4, Try.ntmps4
  go_wp2_with fail
  refine (wakes_any _).mono ?_
  rintro e w1 ⟨rfl, hb1⟩
  have HB1 : Hid (Below w.heap.size w w1) := bel_tr HB0.out hb1
  have R1 : Hid (w1.heap[w.heap.size]? = some (.cells #[.int .i64 W, .int .i64 H, .slice P pn pc] 37 (0, 0))) := row_tr R0.out hb1
  have HI1 : Hid (SI w1 .i64 A n a) := HII.out.below HB1.out (Nat.le_refl _)
  have HP1 : Hid (SI w1 .u16 P pn pix) := HPP.out.below HB1.out (Nat.le_refl _)
  clear hb1 HB0 R0 HII HPP
  go_upto_region 3 with (fail)
  obtain ⟨gI, hgI⟩ : ∃ x, w.heap.size = x := ⟨_, rfl⟩
  rw [hgI] at R1 ⊢
  have HGI := Lib.hid hgI
  clear hgI
--<region
  have HBV : Hid (Below w1.heap.size w1 w1) := Below.refl _ _
  obtain ⟨d0, d1, d2⟩ := img_cells (row_tr R1.out HBV.out)
  have hsv := HBV.out.size
  have gw0 : gI < w1.heap.size := World.block_lt_of_cell? w1 _ d0
  go_cut [7, 8] (fun s12 s13 wx => ∃ gy A1 c1, s12 = .pointer (some ⟨gy, 0, none⟩) ∧ s13 = .int .i64 E ∧ Got w1 wx gy (zE E W) (zE E H) A1 c1 LL)
  case first =>
    go_region_held3 (fun w' => w'.cell? ⟨gI, 0, none⟩ = some (.int .i64 W) ∧ w'.cell? ⟨gI, 1, none⟩ = some (.int .i64 H) ∧ w'.cell? ⟨gI, 2, none⟩ = some (.slice P pn pc))
      (first
        | go_keep
        | exact ⟨d0, d1, d2⟩
        | exact ⟨cell_set3 d0 (by show gI ≠ _; omega), cell_set3 d1 (by show gI ≠ _; omega), cell_set3 d2 (by show gI ≠ _; omega)⟩)
      ((first
        | (go_at_call 14
           (with_reducible refine (ints_any _ (si_tr HI1.out (by (repeat (first | with_reducible exact HBV.out | with_reducible refine bel_al ?_ _ | with_reducible refine bel_dr ?_)); all_goals fail))).mono ?_)
           rintro e v1 ⟨AI, kI, rfl, hownI, hb1⟩
           have SA : Hid (SI v1 .i64 AI n a) := by show SI _ _ _ _ _; rw [← HAL.out]; exact SI.of_own hownI (by have := HAL.out; have := HAB.out; simp only [kb]; omega)
           rw [HAL.out]
           have HBV : Hid (Below w1.heap.size w1 v1) := bel_tr (by (repeat (first | with_reducible exact HBV.out | with_reducible refine bel_al ?_ _ | with_reducible refine bel_dr ?_)); all_goals fail) hb1
           first
             | have HZ : Hid (v1.heap[w1.heap.size]? = some (.cells zimg 37 (0, 0))) := row_tr (row_dr (row_new rfl)) hb1
             | skip
           obtain ⟨d0, d1, d2⟩ := img_cells (row_tr R1.out HBV.out)
           have hsv := HBV.out.size
           have gw0 : gI < v1.heap.size := World.block_lt_of_cell? v1 _ d0
           skip)
        | (go_at_call 19
           (with_reducible refine (own_any (pc := pc) _ (si_tr HP1.out (by (repeat (first | with_reducible exact HBV.out | with_reducible refine bel_al ?_ _ | with_reducible refine bel_dr ?_)); all_goals fail))).mono ?_)
           rintro e v2 ⟨hb2, AC, cC, rfl, hown2, hc1, hc2⟩
           have SP2 : Hid (SI v2 .u16 AC pn pix) := by show SI _ _ _ _ _; rw [← HPL.out]; exact SI.of_own hown2 (by have := HPL.out; have := HPB.out; simp only [kb]; omega)
           have HC2 : Hid (pn ≤ cC ∧ cC ≤ maxLen) := by show _ ∧ _; rw [← HPL.out]; exact ⟨hc1, hc2⟩
           have SA := Lib.hid (si_tr (k := .i64) (A := AI) (n := n) (l := a) (by (repeat (first | with_reducible exact SA.out | with_reducible refine SI.alloc ?_ _ | with_reducible refine si_dr ?_)); all_goals fail) hb2)
           rw [HPL.out]
           have HBV : Hid (Below w1.heap.size w1 v2) := bel_tr (by (repeat (first | with_reducible exact HBV.out | with_reducible refine bel_al ?_ _ | with_reducible refine bel_dr ?_)); all_goals fail) hb2
           first
             | have HZ := Lib.hid (row_tr HZ.out hb2)
             | have HZ : Hid (v2.heap[v1.heap.size]? = some (.cells zimg 37 (0, 0))) := row_tr (row_new rfl) hb2
             | skip
           obtain ⟨d0, d1, d2⟩ := img_cells (row_tr R1.out HBV.out)
           have hsv := HBV.out.size
           have gw0 : gI < v2.heap.size := World.block_lt_of_cell? v2 _ d0
           skip)
        | (go_at_call 18
           (with_reducible refine (HAP.out _ _ _ _ _ (by (repeat (first | with_reducible exact SA.out | with_reducible refine SI.alloc ?_ _ | with_reducible refine si_dr ?_)); all_goals fail) (by (repeat (first | with_reducible exact SP2.out | with_reducible refine SI.alloc ?_ _ | with_reducible refine si_dr ?_)); all_goals fail) HC2.out).mono ?_)
           rintro e v3 ⟨hb3, A1, c1', rfl, hown3⟩
           have HOX : Hid (v3.ownsRow w1.heap.size 53 1 (.slice A1 (LL).length c1') (LL).length ((LL).map (.int .u16))) := own_base hown3 (Below.size (by (repeat (first | with_reducible exact HBV.out | with_reducible refine bel_al ?_ _ | with_reducible refine bel_dr ?_)); all_goals fail))
           first
             | have HZ := Lib.hid (row_tr HZ.out hb3)
             | have HZ : Hid (v3.heap[v2.heap.size]? = some (.cells zimg 37 (0, 0))) := row_tr (row_new rfl) hb3
             | skip
           have hs12 := HBV.out.size
           have HBV : Hid (Below w1.heap.size w1 v3) := bel_tr (by (repeat (first | with_reducible exact HBV.out | with_reducible refine bel_al ?_ _ | with_reducible refine bel_dr ?_)); all_goals fail) hb3
           first
             | (have zz := zi_cells HZ.out
                obtain ⟨z0, z1, z2, q0, q1, q2⟩ := zz)
             | skip
           obtain ⟨d0, d1, d2⟩ := img_cells (row_tr R1.out HBV.out)
           have hsv := HBV.out.size
           have gw0 : gI < v3.heap.size := World.block_lt_of_cell? v3 _ d0
           skip)))
    all_goals (
      try refine NoPanic.normal ?_
      go_wp2
      go_meet
      case rel =>
        first
          | exact ⟨_, A1, c1', rfl, rfl, got_alloc HBV.out HOX.out⟩
          | exact ⟨_, A1, c1', rfl, rfl, got_set HBV.out HOX.out HZ.out (by omega)⟩)
--region>
  case rest =>
    obtain ⟨gx, A1, c1, rfl, rfl, hgot⟩ := hcut
    have HGX := Lib.hid hgot
    have HBX : Hid (Below w.heap.size w wc) := bel_tr HB1.out hgot.bel
    obtain ⟨d0, d1, d2⟩ := img_cells (row_tr R1.out hgot.bel)
    have HRC : Hid (Calls Try.prog 20 #[.string op, .slice A n c, .agg #[.int .i64 W, .int .i64 H, .slice P pn pc]] wc (ImgP wc (zE E W) (zE E H) LL E)) := HRP.out _ (si_tr HI1.out hgot.bel) (si_tr HP1.out hgot.bel)
    clear hgot
    go_wp2_with fail
    refine HRC.out.mono ?_
    rintro e w5 ⟨hb5, A2, c2, rfl, hown5⟩
    obtain ⟨w6, hw6⟩ : ∃ v, w5.alloc (.cells #[.int .i64 (zE E W), .int .i64 (zE E H), .slice A2 LL.length c2] 37) = v := ⟨_, rfl⟩
    have hb6 : Below wc.heap.size wc w6 := by rw [← hw6]; exact bel_al hb5 _
    have Q0 : Hid (w6.heap[gx]? = some (.cells #[.int .i64 (zE E W), .int .i64 (zE E H), .slice A1 LL.length c1] 37 (0, 0))) := row_tr HGX.out.row hb6
    have Q1 : Hid (w6.heap[w5.heap.size]? = some (.cells #[.int .i64 (zE E W), .int .i64 (zE E H), .slice A2 LL.length c2] 37 (0, 0))) := by show _ = _; rw [← hw6]; exact heap_alloc_new _ _
    have T0 : Hid (SI w6 .u16 A1 LL.length LL) := si_tr (HGX.out.si (by have := HLL.out; omega)) hb6
    have T1 : Hid (SI w6 .u16 A2 LL.length LL) := by show SI _ _ _ _ _; rw [← hw6]; exact (SI.of_own hown5 (by have := HLL.out; simp only [kb]; omega)).alloc _
    have HB6 : Hid (Below w.heap.size w w6) := bel_tr HBX.out hb6
    have HSB : Hid (sameB (zE E W) (zE E H) LL (zE E W) (zE E H) LL = true) := decide_eq_true ⟨rfl, rfl, rfl⟩
    clear hb5 hown5 hb6 d0 d1 d2
    go_upto_region 5 with (fail)
    try rw [hw6]
    clear hw6
    obtain ⟨x0, x1, x2⟩ := img_cells Q0.out
    obtain ⟨y0, y1, y2⟩ := img_cells Q1.out
    have HSM : Hid (∀ V, SI V .u16 A1 LL.length LL → SI V .u16 A2 LL.length LL → Calls Try.prog 21 #[.agg #[.int .i64 (zE E W), .int .i64 (zE E H), .slice A1 LL.length c1], .agg #[.int .i64 (zE E W), .int .i64 (zE E H), .slice A2 LL.length c2]] V (TestP V true)) := fun V h1 h2 => by
      have := same_any (W := zE E W) (H := zE E H) (W2 := zE E W) (H2 := zE E H) (pc := c1) (pc2 := c2) V h1 h2
      rwa [HSB.out] at this
    generalize zE E W = zW at *
    generalize zE E H = zH at *
    go_wp2_with fail
    refine (HSM.out _ T0.out T1.out).mono ?_
    rintro e w7 ⟨rfl, hb7⟩
    have HB7 : Hid (Below w.heap.size w w7) := bel_tr HB6.out hb7
    clear hb7
    go_wp2_with fail
    go_ret
    exact ⟨rfl, HB7.out⟩
end Go.Proofs.Ytogmlcgiajigfaa.Ard
