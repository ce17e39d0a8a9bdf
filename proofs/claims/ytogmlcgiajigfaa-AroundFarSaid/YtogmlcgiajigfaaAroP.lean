/-
  Walks: AroundFar.
-/
import Derived.Test.YtogmlcgiajigfaaAroC
import Derived.Test.YtogmlcgiajigfaaAroF
import Derived.Test.YtogmlcgiajigfaaAroH
import Derived.Test.YtogmlcgiajigfaaAroN
import Derived.Test.YtogmlcgiajigfaaGot
import Derived.Deep.RegionHeld3
import Derived.Deep.DeepCutAuto
import Derived.Deep.CutBlock
set_option linter.unusedVariables false
set_option linter.unusedSimpArgs false
namespace Go.Proofs.Ytogmlcgiajigfaa.Ard
open Go.RowKit K

/-- a place within a size, of any number -/
def inF (x : Int) (W : Nat) : Nat := ((x % 18446744073709551616) % (W : Int)).toNat
theorem inF_lt (x : Int) {W : Nat} (h : 1 ≤ W) : inF x W < W := by
  unfold inF
  have h1 := Int.emod_nonneg (x % 18446744073709551616) (show (W : Int) ≠ 0 by omega)
  have h2 := Int.emod_lt_of_pos (x % 18446744073709551616) (show (0 : Int) < W by omega)
  omega
theorem in_wraps (x : Int) {W : Nat} (h : 1 ≤ W) (h2 : W ≤ 4096) : IntKind.u64.wrap (W : Int) = (W : Int) ∧ (IntKind.u64.wrap x).tmod (W : Int) = (inF x W : Int) ∧ ((W : Int) == 0) = false := by
  have h1 : IntKind.u64.wrap x = x % 18446744073709551616 := rfl
  have h3 : IntKind.u64.wrap (W : Int) = (W : Int) % 18446744073709551616 := rfl
  have h4 : (x % 18446744073709551616).tmod (W : Int) = x % 18446744073709551616 % (W : Int) := Int.tmod_eq_emod_of_nonneg (by omega)
  have h5 := Int.emod_nonneg (x % 18446744073709551616) (show (W : Int) ≠ 0 by omega)
  refine ⟨by rw [h3]; omega, ?_, by simp; omega⟩
  rw [h1, h4]; unfold inF; omega
def workC (op : ByteArray) (A : Option Addr) (n c : Nat) (X Y RW RH : Int) : Array Value := #[.string op, .slice A n c, .int .i64 X, .int .i64 Y, .int .i64 RW, .int .i64 RH]
theorem work_cells {w : World} {g : Nat} {T : TypeId} {op : ByteArray} {A : Option Addr} {n c : Nat} {X Y RW RH : Int} (h : w.heap[g]? = some (.cells (workC op A n c X Y RW RH) T (0, 0))) :
    w.cell? ⟨g, 0, none⟩ = some (.string op) ∧ w.cell? ⟨g, 1, none⟩ = some (.slice A n c) ∧ w.cell? ⟨g, 2, none⟩ = some (.int .i64 X) ∧ w.cell? ⟨g, 3, none⟩ = some (.int .i64 Y) ∧ w.cell? ⟨g, 4, none⟩ = some (.int .i64 RW) ∧ w.cell? ⟨g, 5, none⟩ = some (.int .i64 RH) :=
  ⟨row_cell h 0, row_cell h 1, row_cell h 2, row_cell h 3, row_cell h 4, row_cell h 5⟩
theorem apply_good {op : ByteArray} {A : Option Addr} {n c : Nat} {a : List Int} {W H : Int} {pn pc : Nat} {P : Option Addr} {pix : List Int} (w : World) (h0 : checkE op a = 0) (hg : GoodP W H pn) (HA : SI w .i64 A n a) (HP : SI w .u16 P pn pix) (hwv : ∀ v ∈ pix, 0 ≤ v ∧ v < 65536) (hpc : pn ≤ pc ∧ pc ≤ maxLen) :
    Calls Try.prog 18 #[.string op, .slice A n c, .agg #[.int .i64 W, .int .i64 H, .slice P pn pc]] w (ImgP w W H (genL op a W H pn pix) 0) := by
  have hcap := hpc.2
  unfold maxLen at hcap
  refine (apply_gen (op := op) (c := c) (a := a) w h0 HA HP hwv hpc.1 (by omega)).mono fun e w' h => ?_
  unfold genZ genE at h
  simpa only [hg, if_true] using h
theorem genL_good {op : ByteArray} {a : List Int} {W H : Int} {pn : Nat} (pix : List Int) (hg : GoodP W H pn) (h0 : checkE op a = 0) : (genL op a W H pn pix).length = pn := by
  obtain ⟨i, hi, hid, -, -⟩ := check_ok h0
  unfold genL partL
  rw [if_pos hg, hid]
  simp [good_nat hg]
theorem pq_wraps {m W : Nat} (hm : m ≤ 70368744175616) (hW : 1 ≤ W) (hW2 : W ≤ 4096) : wrap64 ((m : Int) / 4) = ((m / 4 : Nat) : Int) ∧ (((m / 4 : Nat) : Int)).tmod (W : Int) = ((m / 4 % W : Nat) : Int) ∧
    wrap64 (((m / 4 : Nat) : Int).tdiv (W : Int)) = ((m / 4 / W : Nat) : Int) ∧ wrap64 (((m / 4 : Nat) : Int) / (W : Int)) = ((m / 4 / W : Nat) : Int) ∧ wrap64 ((m / 4 % W : Nat) : Int) = ((m / 4 % W : Nat) : Int) ∧ ((W : Int) == 0) = false := by
  have a1 : (m : Int) / 4 = ((m / 4 : Nat) : Int) := by omega
  have a2 : m / 4 ≤ m := Nat.div_le_self _ _
  have a0 : ((m / 4 : Nat) : Int) / (W : Int) = ((m / 4 / W : Nat) : Int) := (Int.natCast_ediv _ _).symm
  have a3 : (((m / 4 : Nat) : Int)).tdiv (W : Int) = ((m / 4 / W : Nat) : Int) := by rw [Int.tdiv_eq_ediv_of_nonneg (by omega)]; exact a0
  have a4 : m / 4 / W ≤ m / 4 := Nat.div_le_self _ _
  have a5 : m / 4 % W < W := Nat.mod_lt _ (by omega)
  generalize m / 4 / W = q at *
  refine ⟨?_, ?_, ?_, ?_, IntWalk.wrap64_in _ (by omega), by simp; omega⟩
  · rw [a1]; exact IntWalk.wrap64_in _ (by omega)
  · rw [Int.tmod_eq_emod_of_nonneg (by omega)]; exact (Int.natCast_emod _ _).symm
  · rw [a3]; exact IntWalk.wrap64_in _ (by omega)
  · rw [a0]; exact IntWalk.wrap64_in _ (by omega)
theorem near_wraps {x R : Nat} (h : x ≤ 4096) (hR : R ≤ 8) : wrap64 ((x : Int) + (R : Int)) = (x : Int) + (R : Int) ∧ wrap64 ((x : Int) - (R : Int)) = (x : Int) - (R : Int) := ⟨IntWalk.wrap64_in _ (by omega), IntWalk.wrap64_in _ (by omega)⟩
theorem far_arith {m W H x y R pn : Nat} (hb : pn ≤ 70368744175616) (hm : m < pn) (hW : 1 ≤ W ∧ W ≤ 4096) (hH : 1 ≤ H ∧ H ≤ 4096) (hx : x < W) (hy : y < H) (hR : R ≤ 8) :
    (wrap64 ((m : Int) / 4) = ((m / 4 : Nat) : Int) ∧ (((m / 4 : Nat) : Int)).tmod (W : Int) = ((m / 4 % W : Nat) : Int) ∧
    wrap64 (((m / 4 : Nat) : Int).tdiv (W : Int)) = ((m / 4 / W : Nat) : Int) ∧ wrap64 (((m / 4 : Nat) : Int) / (W : Int)) = ((m / 4 / W : Nat) : Int) ∧ wrap64 ((m / 4 % W : Nat) : Int) = ((m / 4 % W : Nat) : Int) ∧ ((W : Int) == 0) = false) ∧
    (wrap64 ((x : Int) + (R : Int)) = (x : Int) + (R : Int) ∧ wrap64 ((x : Int) - (R : Int)) = (x : Int) - (R : Int)) ∧
    (wrap64 ((y : Int) + (R : Int)) = (y : Int) + (R : Int) ∧ wrap64 ((y : Int) - (R : Int)) = (y : Int) - (R : Int)) ∧ ¬ W = 0 ∧ ((W : Int) != 0) = true :=
  ⟨pq_wraps (by omega) hW.1 hW.2, near_wraps (by omega) hR, near_wraps (by omega) hR, by omega, by simp; omega⟩
theorem nat_gt {x R p : Nat} (h : (x : Int) + R < p) : p > x + R := by omega
theorem meas_lt {m pn : Nat} (h : m < pn) : pn - ((m + 1 : Nat) : Int).toNat < pn - (m : Int).toNat := by omega
set_option maxRecDepth 20000 in
set_option maxHeartbeats 4000000 in
theorem aroundFar_any {op : ByteArray} {A : Option Addr} {n c : Nat} {a : List Int} {X Y RW RH W H r g b al : Int} {P : Option Addr} {pn pc : Nat} {pix : List Int} (w : World) (HA : SI w .i64 A n a) (HP : SI w .u16 P pn pix) (hwv : ∀ v ∈ pix, 0 ≤ v ∧ v < 65536) (hpc : pn ≤ pc) (hpc2 : pc ≤ 9223372036854775807)
    (hr : 0 ≤ r ∧ r < 65536) (hg : 0 ≤ g ∧ g < 65536) (hb : 0 ≤ b ∧ b < 65536) (ha : 0 ≤ al ∧ al < 65536) :
    Calls Try.prog 6 #[.agg (workC op A n c X Y RW RH), .agg #[.int .i64 W, .int .i64 H, .slice P pn pc], .agg #[.int .u16 r, .int .u16 g, .int .u16 b, .int .u16 al]] w (TestP w true) := by
  have HR := Lib.hid hr
  have HG := Lib.hid hg
  have HBB := Lib.hid hb
  have HAA := Lib.hid ha
  have HPP := Lib.hid HP
  have HII := Lib.hid HA
  have HWV := Lib.hid hwv
  have hbig : pn * 2 ≤ 140737488351232 := HP.sz
  have HAL := Lib.hid HA.len
  have HPL := Lib.hid HP.len
  clear hr hg hb ha HP HA hwv
  obtain ⟨w0, hw0, r0, r1, r2, hs0, hb0⟩ := three_allocs w (.cells (workC op A n c X Y RW RH) 48) (.cells #[.int .i64 W, .int .i64 H, .slice P pn pc] 37) (.cells (colC r g b al) 55)
  have R0 := Lib.hid r0
  have R1 := Lib.hid r1
  have R2 := Lib.hid r2
  have HB0 := Lib.hid hb0
  have HS0 := Lib.hid hs0
  clear r0 r1 r2 hb0 hs0
  obtain ⟨gw, hgw⟩ : ∃ x, w.heap.size = x := ⟨_, rfl⟩
  have HGW := Lib.hid hgw
  rw [hgw] at R0 R1 R2 HS0
  unfold colC workC at hw0
  unfold workC
  go_enter Try.func6, Try.ntmps6
  go_wp2_with fail
  try rw [hw0]
  clear hw0 hgw
  refine (wakes_any _).mono ?_
  rintro e w1 ⟨rfl, hb1⟩
  have HB1 : Hid (Below w.heap.size w w1) := bel_tr HB0.out hb1
  have T0 : Hid (w1.heap[gw]? = some (.cells (workC op A n c X Y RW RH) 48 (0, 0))) := row_tr R0.out hb1
  have T1 : Hid (w1.heap[gw + 1]? = some (.cells #[.int .i64 W, .int .i64 H, .slice P pn pc] 37 (0, 0))) := row_tr R1.out hb1
  have T2 : Hid (w1.heap[gw + 2]? = some (.cells (colC r g b al) 55 (0, 0))) := row_tr R2.out hb1
  have c0 : w1.cell? ⟨gw, 0, none⟩ = some (.string op) := row_cell T0.out 0
  have c1 : w1.cell? ⟨gw, 1, none⟩ = some (.slice A n c) := row_cell T0.out 1
  clear hb1 R0 R1 R2 HB0 HS0
  try rw [HGW.out]
  go_upto_region 3 with (fail)
  have HBV : Hid (Below w1.heap.size w1 w1) := Below.refl _ _
  have HI1 : Hid (SI w1 .i64 A n a) := HII.out.below HB1.out (Nat.le_refl _)
  have HP1 : Hid (SI w1 .u16 P pn pix) := HPP.out.below HB1.out (Nat.le_refl _)
  obtain ⟨RV, hRV⟩ : ∃ x, (if checkE op a = 0 then reachE op a else 0) = x := ⟨_, rfl⟩
  obtain ⟨CE, hCE⟩ : ∃ x, checkE op a = x := ⟨_, rfl⟩
  have HRC : Hid (∀ V A1 k1, SI V .i64 A1 n a → Calls Try.prog 13 #[.string op, .slice A1 n k1] V fun e w' => e = .returned (.tuple #[.int .i64 RV, .int .i64 CE]) ∧ Below V.heap.size V w') := fun V A1 k1 h => by
    refine (preach_any (op := op) (c := k1) V h).mono fun e w' h => ?_
    unfold ReachP at h
    rw [hRV, hCE] at h
    exact h
  have HRV := Lib.hid hRV
  have HCE := Lib.hid hCE
  clear HII HPP hRV hCE
  have HAB : Hid (n ≤ 17592186043904) := by show _ ≤ _; have := HI1.out.sz; simp only [kb] at this; omega
  have HPB : Hid (pn ≤ 70368744175616) := by show _ ≤ _; omega
  clear hbig
  go_cut [7, 8] (fun s7 s8 wx => s7 = .int .i64 RV ∧ s8 = .int .i64 CE ∧ Below w1.heap.size w1 wx)
  case first =>
    go_region_held3 (fun w' => w'.cell? ⟨gw, 0, none⟩ = some (.string op) ∧ w'.cell? ⟨gw, 1, none⟩ = some (.slice A n c))
      (first
        | go_keep
        | exact ⟨c0, c1⟩)
      ((first
      | (go_at_call 14
         (with_reducible refine (ints_any _ (si_tr HI1.out HBV.out.drew)).mono ?_)
         rintro e v1 ⟨A1, k1, rfl, hown1, hb1⟩
         have SA : Hid (SI v1 .i64 A1 n a) := by show SI _ _ _ _ _; rw [← HAL.out]; exact SI.of_own hown1 (by have := HAL.out; have := HAB.out; simp only [kb]; omega)
         rw [HAL.out]
         have T0 : Hid (v1.heap[gw]? = some (.cells (workC op A n c X Y RW RH) 48 (0, 0))) := row_tr (row_dr T0.out) hb1
         obtain ⟨c0, c1, -, -, -, -⟩ := work_cells T0.out
         have HBV : Hid (Below w1.heap.size w1 v1) := bel_tr HBV.out.drew hb1)
      | (go_at_call 13
         (with_reducible refine (HRC.out _ _ _ SA.out).mono ?_)
         rintro e v2 ⟨rfl, hb2⟩
         have T0 : Hid (v2.heap[gw]? = some (.cells (workC op A n c X Y RW RH) 48 (0, 0))) := row_tr T0.out hb2
         obtain ⟨c0, c1, -, -, -, -⟩ := work_cells T0.out
         have HBV : Hid (Below w1.heap.size w1 v2) := bel_tr HBV.out hb2)))
    all_goals (
      try refine NoPanic.normal ?_
      go_wp2
      go_meet
      case rel => exact ⟨rfl, rfl, HBV.out⟩)
  case rest =>
    obtain ⟨rfl, rfl, hbc⟩ := hcut
    have HBC := Lib.hid hbc
    have U1 : Hid (wc.heap[gw + 1]? = some (.cells #[.int .i64 W, .int .i64 H, .slice P pn pc] 37 (0, 0))) := row_tr T1.out hbc
    clear hbc c0 c1
    by_cases h0 : CE = 0
    · have n0 : (CE != 0) = false := by simp [h0]
      obtain ⟨d0, d1, d2⟩ := img_cells U1.out
      have HC0 := Lib.hid h0
      clear h0
      go_wp2_with fail
      refine (rgood_any (W := W) (H := H) (P := P) (pn := pn) (pc := pc) wc (by have := HPB.out; omega)).mono ?_
      rintro e w2 ⟨rfl, hb2⟩
      have HB2 : Hid (Below w1.heap.size w1 w2) := bel_tr HBC.out hb2
      have U0 : Hid (w2.heap[gw]? = some (.cells (workC op A n c X Y RW RH) 48 (0, 0))) := row_tr T0.out HB2.out
      have U1 : Hid (w2.heap[gw + 1]? = some (.cells #[.int .i64 W, .int .i64 H, .slice P pn pc] 37 (0, 0))) := row_tr T1.out HB2.out
      have U2 : Hid (w2.heap[gw + 2]? = some (.cells (colC r g b al) 55 (0, 0))) := row_tr T2.out HB2.out
      have HP2 : Hid (SI w2 .u16 P pn pix) := si_tr HP1.out HB2.out
      have HI2 : Hid (SI w2 .i64 A n a) := si_tr HI1.out HB2.out
      have HBW : Hid (Below w.heap.size w w2) := HB1.out.trans (HB2.out.mono HB1.out.size)
      clear hb2 d0 d1 d2 HBC T0 T1 T2 HP1 HI1 HB2 HB1
      by_cases hgd : GoodP W H pn
      · rw [decide_eq_true hgd]
        go_upto_region 6 with (fail)
        obtain ⟨W, H, rfl, rfl⟩ := nat_of hgd
        have hF := hgd.1
        have hpn : pn = 4 * W * H := by have := hgd.2; have h4 : ((4 * W * H : Nat) : Int) = 4 * (W : Int) * (H : Int) := by push_cast; rfl
                                        omega
        unfold FitsP at hF
        have HWB : Hid (1 ≤ W ∧ W ≤ 4096) := ⟨by omega, by omega⟩
        have HHB : Hid (1 ≤ H ∧ H ≤ 4096) := ⟨by omega, by omega⟩
        have HPN := Lib.hid hpn
        have HGD := Lib.hid hgd
        clear hF hpn hgd
        obtain ⟨e1, e2, z1⟩ := in_wraps X HWB.out.1 HWB.out.2
        obtain ⟨e3, e4, z2⟩ := in_wraps Y HHB.out.1 HHB.out.2
        have HX := Lib.hid (inF_lt X HWB.out.1)
        have HY := Lib.hid (inF_lt Y HHB.out.1)
        generalize inF X W = x at *
        generalize inF Y H = y at *
        have e5 : IntKind.u64.wrap (x : Int) = (x : Int) := by have h : IntKind.u64.wrap (x : Int) = (x : Int) % 18446744073709551616 := rfl; have := HX.out; have := HWB.out; rw [h]; clear e1 e2 e3 e4; omega
        have e6 : IntKind.u64.wrap (y : Int) = (y : Int) := by have h : IntKind.u64.wrap (y : Int) = (y : Int) % 18446744073709551616 := rfl; have := HY.out; have := HHB.out; rw [h]; clear e1 e2 e3 e4 e5; omega
        have e7 : IntKind.i64.wrap (x : Int) = (x : Int) := IntWalk.i64_in _ (by have := HX.out; have := HWB.out; clear e1 e2 e3 e4 e5 e6; omega)
        have e8 : IntKind.i64.wrap (y : Int) = (y : Int) := IntWalk.i64_in _ (by have := HY.out; have := HHB.out; clear e1 e2 e3 e4 e5 e6 e7; omega)
        obtain ⟨-, -, k2, k3, -, -⟩ := work_cells U0.out
        obtain ⟨d0, d1, d2⟩ := img_cells U1.out
        have z3 : ¬ W = 0 := by have := HWB.out; clear e1 e2 e3 e4 e5 e6 e7 e8; omega
        have z4 : ¬ H = 0 := by have := HHB.out; clear e1 e2 e3 e4 e5 e6 e7 e8; omega
        go_quiet (fail)
        clear z3 z4 e1 e2 e3 e4 e5 e6 e7 e8 z1 z2 k2 k3 d0 d1 d2
        go_upto_region 7 with (fail)
        have hbd : Below w2.heap.size w2 (w2.drewN nq) := below_drewN (Below.refl _ _) _
        obtain ⟨w3, hw3⟩ : ∃ v, w2.drewN nq = v := ⟨_, rfl⟩
        rw [hw3] at hbd ⊢
        clear hw3
        have U0 := Lib.hid (row_tr U0.out hbd)
        have U1 := Lib.hid (row_tr U1.out hbd)
        have U2 := Lib.hid (row_tr U2.out hbd)
        have HP2 := Lib.hid (si_tr HP2.out hbd)
        have HI2 := Lib.hid (si_tr HI2.out hbd)
        have HBW := Lib.hid (bel_tr HBW.out hbd)
        clear hbd
        obtain ⟨d0, d1, d2⟩ := img_cells U1.out
        go_wp2_with fail
        refine (own_any (pc := pc) _ HP2.out).mono ?_
        rintro e w4 ⟨hb4, AC, cC, rfl, hown4, hc1, hc2⟩
        clear d0 d1 d2
        obtain ⟨go, rfl⟩ : ∃ go, AC = some ⟨go, 0, none⟩ := by
          rcases hown4.2 with ⟨hv, h⟩ | ⟨go, cap, cur, hv, -⟩
          · exact absurd h (by have := HPL.out; have := HPN.out; have := HWB.out; have := HHB.out; have : 0 < W * H := Nat.mul_pos (by omega) (by omega); rw [Nat.mul_assoc] at *; omega)
          · injection hv with hv; exact ⟨go, hv⟩
        have HB4 : Hid (Below w3.heap.size w3 w4) := hb4
        have hgo := (hown4.lt go rfl)
        obtain ⟨w5, hw5⟩ : ∃ v, w4.alloc (.cells #[.int .i64 W, .int .i64 H, .slice (some ⟨go, 0, none⟩) pix.length cC] 37) = v := ⟨_, rfl⟩
        have HB5 : Hid (Below w3.heap.size w3 w5) := by show Below _ _ _; rw [← hw5]; exact bel_al hb4 _
        have HO5 : Hid (w5.ownsRow w3.heap.size 53 1 (.slice (some ⟨go, 0, none⟩) pix.length cC) pix.length (pix.map (.int .u16))) := by show World.ownsRow _ _ _ _ _ _ _; rw [← hw5]; exact hown4.alloc _
        have R5 : Hid (w5.heap[w4.heap.size]? = some (.cells #[.int .i64 W, .int .i64 H, .slice (some ⟨go, 0, none⟩) pix.length cC] 37 (0, 0))) := by show _ = _; rw [← hw5]; exact heap_alloc_new _ _
        obtain ⟨gx, hgx⟩ : ∃ x, w4.heap.size = x := ⟨_, rfl⟩
        rw [hgx] at R5
        have HGO : Hid (w3.heap.size ≤ go ∧ go < gx) := by show _ ∧ _; rw [← hgx]; exact hgo
        have HCC : Hid (pix.length ≤ cC ∧ cC ≤ maxLen) := ⟨hc1, hc2⟩
        have U2 := Lib.hid (row_tr U2.out HB5.out)
        clear hb4 hown4 hc1 hc2 hgo HB4
        go_upto_region 8 with (fail)
        try rw [hw5]
        try rw [hgx]
        clear hw5 hgx
        obtain ⟨d0, d1, d2⟩ := img_cells R5.out
        have y0 : w5.cell? ⟨gw + 2, 0, none⟩ = some (.int .u16 r) := row_cell U2.out 0
        have y1 : w5.cell? ⟨gw + 2, 1, none⟩ = some (.int .u16 g) := row_cell U2.out 1
        have y2 : w5.cell? ⟨gw + 2, 2, none⟩ = some (.int .u16 b) := row_cell U2.out 2
        have y3 : w5.cell? ⟨gw + 2, 3, none⟩ = some (.int .u16 al) := row_cell U2.out 3
        have HPT : Hid (Calls Try.prog 26 #[.agg #[.int .i64 W, .int .i64 H, .slice (some ⟨go, 0, none⟩) pix.length cC], .int .i64 x, .int .i64 y, .agg #[.int .u16 r, .int .u16 g, .int .u16 b, .int .u16 al]] w5 fun e w' => e = .returned (.tuple #[]) ∧ PutR w3.heap.size go cC (4 * (y * W + x)) w5 pix w') :=
          put_any w5 HO5.out HWV.out (by rw [HPL.out, HPN.out]) HWB.out.2 HHB.out.2 HX.out HY.out HR.out HG.out HBB.out HAA.out HB5.out.size
        go_wp2_with fail
        refine HPT.out.mono ?_
        rintro e w6 ⟨rfl, hput⟩
        have HPT2 := Lib.hid hput
        clear hput HPT
        obtain ⟨l, hlo, hlt, hlw, hlg⟩ := HPT2.out
        have hb6 : Below w3.heap.size w3 w6 := HB5.out.grown hlg HB5.out.size (fun b e => by injection e with e; have := HGO.out.1; omega)
        have HBW := Lib.hid (bel_tr HBW.out hb6)
        have Z0 := Lib.hid (row_tr U0.out hb6)
        have Z1 := Lib.hid (row_tr U1.out hb6)
        have HP6 := Lib.hid (si_tr HP2.out hb6)
        have HI6 := Lib.hid (si_tr HI2.out hb6)
        have Z2 : Hid (w6.heap[gx]? = some (.cells #[.int .i64 W, .int .i64 H, .slice (some ⟨go, 0, none⟩) pix.length cC] 37 (0, 0))) := (hlg.block _ (Array.getElem?_eq_some_iff.1 R5.out).1 (by have := HGO.out.2; simp; omega)).trans R5.out
        rw [HPL.out] at Z2 hlo
        have HCC2 : Hid (pn ≤ cC ∧ cC ≤ maxLen) := by have := HCC.out; rwa [HPL.out] at this
        have SO6 : Hid (SI w6 .u16 (some ⟨go, 0, none⟩) pn l) := SI.of_own hlo (by have := HPB.out; simp only [kb]; omega)
        have HLT := Lib.hid hlt
        have HLW := Lib.hid hlw
        have HCE0 : Hid (checkE op a = 0) := by show _ = _; rw [HCE.out]; exact HC0.out
        have HPCC : Hid (pn ≤ pc ∧ pc ≤ 9223372036854775807) := ⟨hpc, hpc2⟩
        clear hlo hlt hlw hlg hb6 U0 U1 U2 HP2 HI2 R5 HO5 HB5 HGO HPT2 hpc hpc2 y0 y1 y2 y3 d0 d1 d2 HCC
        go_upto_region 9 with (fail)
        have HBV : Hid (Below w6.heap.size w6 w6) := Below.refl _ _
        obtain ⟨c0, c1, -, -, -, -⟩ := work_cells (row_tr Z0.out HBV.out)
        obtain ⟨d0, d1, d2⟩ := img_cells (row_tr Z1.out HBV.out)
        have hsv := HBV.out.size
        have gw0 : gw < w6.heap.size := World.block_lt_of_cell? w6 _ c0
        have gw1 : gw + 1 < w6.heap.size := World.block_lt_of_cell? w6 _ d0
        go_cut [12, 13] (fun s12 s13 wx => ∃ gy A1 c1, s12 = .pointer (some ⟨gy, 0, none⟩) ∧ s13 = .int .i64 0 ∧ Got w6 wx gy W H A1 c1 (genL op a W H pn pix))
        case first =>
          go_region_held3 (fun w' => w'.cell? ⟨gw, 0, none⟩ = some (.string op) ∧ w'.cell? ⟨gw, 1, none⟩ = some (.slice A n c) ∧ w'.cell? ⟨gw + 1, 0, none⟩ = some (.int .i64 W) ∧ w'.cell? ⟨gw + 1, 1, none⟩ = some (.int .i64 H) ∧ w'.cell? ⟨gw + 1, 2, none⟩ = some (.slice P pn pc))
            (first
              | go_keep
              | exact ⟨c0, c1, d0, d1, d2⟩
              | exact ⟨cell_set3 c0 (by show gw ≠ _; omega), cell_set3 c1 (by show gw ≠ _; omega), cell_set3 d0 (by show gw + 1 ≠ _; omega), cell_set3 d1 (by show gw + 1 ≠ _; omega), cell_set3 d2 (by show gw + 1 ≠ _; omega)⟩)
            ((first
          | (go_at_call 14
             (with_reducible refine (ints_any _ (si_tr HI6.out (by (repeat (first | with_reducible exact HBV.out | with_reducible refine bel_al ?_ _ | with_reducible refine bel_dr ?_)); all_goals fail))).mono ?_)
             rintro e v1 ⟨AI, kI, rfl, hownI, hb1⟩
             have SA : Hid (SI v1 .i64 AI n a) := by show SI _ _ _ _ _; rw [← HAL.out]; exact SI.of_own hownI (by have := HAL.out; have := HAB.out; simp only [kb]; omega)
             rw [HAL.out]
             have HBV : Hid (Below w6.heap.size w6 v1) := bel_tr (by (repeat (first | with_reducible exact HBV.out | with_reducible refine bel_al ?_ _ | with_reducible refine bel_dr ?_)); all_goals fail) hb1
             first
               | have HZ : Hid (v1.heap[w6.heap.size]? = some (.cells zimg 37 (0, 0))) := row_tr (row_dr (row_new rfl)) hb1
               | skip
             obtain ⟨c0, c1, -, -, -, -⟩ := work_cells (row_tr Z0.out HBV.out)
             obtain ⟨d0, d1, d2⟩ := img_cells (row_tr Z1.out HBV.out)
             have hsv := HBV.out.size
             have gw0 : gw < v1.heap.size := World.block_lt_of_cell? v1 _ c0
             have gw1 : gw + 1 < v1.heap.size := World.block_lt_of_cell? v1 _ d0
             skip)
          | (go_at_call 19
             (with_reducible refine (own_any (pc := pc) _ (si_tr HP6.out (by (repeat (first | with_reducible exact HBV.out | with_reducible refine bel_al ?_ _ | with_reducible refine bel_dr ?_)); all_goals fail))).mono ?_)
             rintro e v2 ⟨hb2, AC, cC, rfl, hown2, hc1, hc2⟩
             have SP2 : Hid (SI v2 .u16 AC pn pix) := by show SI _ _ _ _ _; rw [← HPL.out]; exact SI.of_own hown2 (by have := HPL.out; have := HPB.out; simp only [kb]; omega)
             have HC2 : Hid (pn ≤ cC ∧ cC ≤ maxLen) := by show _ ∧ _; rw [← HPL.out]; exact ⟨hc1, hc2⟩
             have SA := Lib.hid (si_tr (k := .i64) (A := AI) (n := n) (l := a) (by (repeat (first | with_reducible exact SA.out | with_reducible refine SI.alloc ?_ _ | with_reducible refine si_dr ?_)); all_goals fail) hb2)
             rw [HPL.out]
             have HBV : Hid (Below w6.heap.size w6 v2) := bel_tr (by (repeat (first | with_reducible exact HBV.out | with_reducible refine bel_al ?_ _ | with_reducible refine bel_dr ?_)); all_goals fail) hb2
             first
               | have HZ := Lib.hid (row_tr HZ.out hb2)
               | have HZ : Hid (v2.heap[v1.heap.size]? = some (.cells zimg 37 (0, 0))) := row_tr (row_new rfl) hb2
               | skip
             obtain ⟨c0, c1, -, -, -, -⟩ := work_cells (row_tr Z0.out HBV.out)
             obtain ⟨d0, d1, d2⟩ := img_cells (row_tr Z1.out HBV.out)
             have hsv := HBV.out.size
             have gw0 : gw < v2.heap.size := World.block_lt_of_cell? v2 _ c0
             have gw1 : gw + 1 < v2.heap.size := World.block_lt_of_cell? v2 _ d0
             skip)
          | (go_at_call 18
             (with_reducible refine (apply_good _ HCE0.out HGD.out (by (repeat (first | with_reducible exact SA.out | with_reducible refine SI.alloc ?_ _ | with_reducible refine si_dr ?_)); all_goals fail) (by (repeat (first | with_reducible exact SP2.out | with_reducible refine SI.alloc ?_ _ | with_reducible refine si_dr ?_)); all_goals fail) HWV.out HC2.out).mono ?_)
             rintro e v3 ⟨hb3, A1, c1', rfl, hown3⟩
             have HOX : Hid (v3.ownsRow w6.heap.size 53 1 (.slice A1 ((genL op a W H pn pix)).length c1') ((genL op a W H pn pix)).length (((genL op a W H pn pix)).map (.int .u16))) := own_base hown3 (Below.size (by (repeat (first | with_reducible exact HBV.out | with_reducible refine bel_al ?_ _ | with_reducible refine bel_dr ?_)); all_goals fail))
             first
               | have HZ := Lib.hid (row_tr HZ.out hb3)
               | have HZ : Hid (v3.heap[v2.heap.size]? = some (.cells zimg 37 (0, 0))) := row_tr (row_new rfl) hb3
               | skip
             have hs12 := HBV.out.size
             have HBV : Hid (Below w6.heap.size w6 v3) := bel_tr (by (repeat (first | with_reducible exact HBV.out | with_reducible refine bel_al ?_ _ | with_reducible refine bel_dr ?_)); all_goals fail) hb3
             first
               | (have zz := zi_cells HZ.out
                  obtain ⟨z0, z1, z2, q0, q1, q2⟩ := zz)
               | skip
             obtain ⟨c0, c1, -, -, -, -⟩ := work_cells (row_tr Z0.out HBV.out)
             obtain ⟨d0, d1, d2⟩ := img_cells (row_tr Z1.out HBV.out)
             have hsv := HBV.out.size
             have gw0 : gw < v3.heap.size := World.block_lt_of_cell? v3 _ c0
             have gw1 : gw + 1 < v3.heap.size := World.block_lt_of_cell? v3 _ d0
             skip)))
          all_goals (
            try refine NoPanic.normal ?_
            go_wp2
            go_meet
            case rel =>
              first
                | exact ⟨_, A1, c1', rfl, rfl, got_alloc HBV.out HOX.out⟩
                | exact ⟨_, A1, c1', rfl, rfl, got_set HBV.out HOX.out HZ.out (by omega)⟩)
        case rest =>
          obtain ⟨ga, Aa, ca, rfl, rfl, hga⟩ := hcut
          obtain ⟨w7, hw7⟩ : ∃ v, wc = v := ⟨_, rfl⟩
          rw [hw7] at hga ⊢
          clear hw7 HBV c0 c1 d0 d1 d2 gw0 gw1 hsv
          have HGA := Lib.hid hga
          have Z0 := Lib.hid (row_tr Z0.out hga.bel)
          have Z1 := Lib.hid (row_tr Z1.out hga.bel)
          have Z2 := Lib.hid (row_tr Z2.out hga.bel)
          have HP6 := Lib.hid (si_tr HP6.out hga.bel)
          have HI6 := Lib.hid (si_tr HI6.out hga.bel)
          have SO6 := Lib.hid (si_tr SO6.out hga.bel)
          have HBW := Lib.hid (bel_tr HBW.out hga.bel)
          clear hga
          go_upto_region 10 with (fail)
          have HBV : Hid (Below w7.heap.size w7 w7) := Below.refl _ _
          obtain ⟨c0, c1, -, -, -, -⟩ := work_cells (row_tr Z0.out HBV.out)
          obtain ⟨d0, d1, d2⟩ := img_cells (row_tr Z2.out HBV.out)
          have hsv := HBV.out.size
          have gw0 : gw < w7.heap.size := World.block_lt_of_cell? w7 _ c0
          have gw1 : gx < w7.heap.size := World.block_lt_of_cell? w7 _ d0
          go_cut [14, 15] (fun s12 s13 wx => ∃ gy A1 c1, s12 = .pointer (some ⟨gy, 0, none⟩) ∧ s13 = .int .i64 0 ∧ Got w7 wx gy W H A1 c1 (genL op a W H pn l))
          case first =>
            go_region_held3 (fun w' => w'.cell? ⟨gw, 0, none⟩ = some (.string op) ∧ w'.cell? ⟨gw, 1, none⟩ = some (.slice A n c) ∧ w'.cell? ⟨gx, 0, none⟩ = some (.int .i64 W) ∧ w'.cell? ⟨gx, 1, none⟩ = some (.int .i64 H) ∧ w'.cell? ⟨gx, 2, none⟩ = some (.slice (some ⟨go, 0, none⟩) pn cC))
              (first
                | go_keep
                | exact ⟨c0, c1, d0, d1, d2⟩
                | exact ⟨cell_set3 c0 (by show gw ≠ _; omega), cell_set3 c1 (by show gw ≠ _; omega), cell_set3 d0 (by show gx ≠ _; omega), cell_set3 d1 (by show gx ≠ _; omega), cell_set3 d2 (by show gx ≠ _; omega)⟩)
              ((first
            | (go_at_call 14
               (with_reducible refine (ints_any _ (si_tr HI6.out (by (repeat (first | with_reducible exact HBV.out | with_reducible refine bel_al ?_ _ | with_reducible refine bel_dr ?_)); all_goals fail))).mono ?_)
               rintro e v1 ⟨AI, kI, rfl, hownI, hb1⟩
               have SA : Hid (SI v1 .i64 AI n a) := by show SI _ _ _ _ _; rw [← HAL.out]; exact SI.of_own hownI (by have := HAL.out; have := HAB.out; simp only [kb]; omega)
               rw [HAL.out]
               have HBV : Hid (Below w7.heap.size w7 v1) := bel_tr (by (repeat (first | with_reducible exact HBV.out | with_reducible refine bel_al ?_ _ | with_reducible refine bel_dr ?_)); all_goals fail) hb1
               first
                 | have HZ : Hid (v1.heap[w7.heap.size]? = some (.cells zimg 37 (0, 0))) := row_tr (row_dr (row_new rfl)) hb1
                 | skip
               obtain ⟨c0, c1, -, -, -, -⟩ := work_cells (row_tr Z0.out HBV.out)
               obtain ⟨d0, d1, d2⟩ := img_cells (row_tr Z2.out HBV.out)
               have hsv := HBV.out.size
               have gw0 : gw < v1.heap.size := World.block_lt_of_cell? v1 _ c0
               have gw1 : gx < v1.heap.size := World.block_lt_of_cell? v1 _ d0
               skip)
            | (go_at_call 18
               (with_reducible refine (apply_good _ HCE0.out HGD.out (by (repeat (first | with_reducible exact SA.out | with_reducible refine SI.alloc ?_ _ | with_reducible refine si_dr ?_)); all_goals fail) (si_tr SO6.out (by (repeat (first | with_reducible exact HBV.out | with_reducible refine bel_al ?_ _ | with_reducible refine bel_dr ?_)); all_goals fail)) HLW.out HCC2.out).mono ?_)
               rintro e v3 ⟨hb3, A1, c1', rfl, hown3⟩
               have HOX : Hid (v3.ownsRow w7.heap.size 53 1 (.slice A1 ((genL op a W H pn l)).length c1') ((genL op a W H pn l)).length (((genL op a W H pn l)).map (.int .u16))) := own_base hown3 (Below.size (by (repeat (first | with_reducible exact HBV.out | with_reducible refine bel_al ?_ _ | with_reducible refine bel_dr ?_)); all_goals fail))
               first
                 | have HZ := Lib.hid (row_tr HZ.out hb3)
                 | have HZ : Hid (v3.heap[v1.heap.size]? = some (.cells zimg 37 (0, 0))) := row_tr (row_new rfl) hb3
                 | skip
               have hs12 := HBV.out.size
               have HBV : Hid (Below w7.heap.size w7 v3) := bel_tr (by (repeat (first | with_reducible exact HBV.out | with_reducible refine bel_al ?_ _ | with_reducible refine bel_dr ?_)); all_goals fail) hb3
               first
                 | (have zz := zi_cells HZ.out
                    obtain ⟨z0, z1, z2, q0, q1, q2⟩ := zz)
                 | skip
               obtain ⟨c0, c1, -, -, -, -⟩ := work_cells (row_tr Z0.out HBV.out)
               obtain ⟨d0, d1, d2⟩ := img_cells (row_tr Z2.out HBV.out)
               have hsv := HBV.out.size
               have gw0 : gw < v3.heap.size := World.block_lt_of_cell? v3 _ c0
               have gw1 : gx < v3.heap.size := World.block_lt_of_cell? v3 _ d0
               skip)))
            all_goals (
              try refine NoPanic.normal ?_
              go_wp2
              go_meet
              case rel =>
                first
                  | exact ⟨_, A1, c1', rfl, rfl, got_alloc HBV.out HOX.out⟩
                  | exact ⟨_, A1, c1', rfl, rfl, got_set HBV.out HOX.out HZ.out (by omega)⟩)
          case rest =>
            obtain ⟨gb, Ab, cb, rfl, rfl, hgb⟩ := hcut
            have HBV := Lib.hid (bel_tr HBW.out hgb.bel)
            have hl1 := genL_good pix HGD.out HCE0.out
            have hl2 := genL_good l HGD.out HCE0.out
            have hr1 := row_tr HGA.out.row hgb.bel
            have hr2 := hgb.row
            rw [hl1] at hr1
            rw [hl2] at hr2
            have hs1 := si_tr (HGA.out.si (by rw [hl1]; exact HPB.out)) hgb.bel
            have hs2 := hgb.si (by rw [hl2]; exact HPB.out)
            rw [hl1] at hs1
            rw [hl2] at hs2
            have Z1 := Lib.hid (row_tr Z1.out hgb.bel)
            have RA := Lib.hid hr1
            have RB := Lib.hid hr2
            have SSA := Lib.hid hs1
            have SSB := Lib.hid hs2
            obtain ⟨i, hi, hid, -, hfit⟩ := check_ok HCE0.out
            have hRV : RV = rxF i a := by rw [← HRV.out, if_pos HCE0.out]; unfold reachE; rw [hid]
            have hrx := rx_in hi hfit
            obtain ⟨R, rfl⟩ := Int.eq_ofNat_of_zero_le (show 0 ≤ RV by omega)
            have HFAR : Hid (∀ t, t < pn → (t / 4 % W > x + R ∨ ((t / 4 % W : Nat) : Int) < (x : Int) - R ∨ t / 4 / W > y + R ∨ ((t / 4 / W : Nat) : Int) < (y : Int) - R) → (genL op a W H pn pix)[t]? = (genL op a W H pn l)[t]?) := by
              intro t ht hfar
              have hn := HPN.out
              have hW := HWB.out
              have hH := HHB.out
              have hyy : t / 4 / W < H := by
                rw [Nat.div_div_eq_div_mul]
                exact Nat.div_lt_of_lt_mul (by rw [← hn]; exact ht)
              have e : ∀ q : List Int, genL op a W H pn q = (List.range (4 * W * H)).map (outS i a W H q 0 0 W) := fun q => by
                unfold genL partL
                rw [if_pos HGD.out, hid]; rfl
              rw [e, e, out_at i a pix (by omega), out_at i a l (by omega)]
              congr 1
              exact (far_samp hi hfit hRV.symm hW.1 hH.1 HX.out (Nat.mod_lt _ (by omega)) HLT.out (Nat.mod_lt _ (by omega)) hyy hfar).symm
            have HRR : Hid (R ≤ 8) := by show _ ≤ _; omega
            generalize genL op a W H pn pix = la at *
            generalize genL op a W H pn l = lb at *
            clear hgb hl1 hl2 hr1 hr2 hs1 hs2 HBW HGA Z0 Z2 HP6 HI6 SO6 hi hid hfit hRV hrx HRC HRV HLT HLW
            obtain ⟨a0, a1, a2⟩ := img_cells RA.out
            obtain ⟨b0, b1, b2⟩ := img_cells RB.out
            obtain ⟨m0, m1, m2⟩ := img_cells Z1.out
            go_wp2_with fail
            clear a0 a1 b0 b1 m1 m2 c0 c1 d0 d1 d2 hsv gw0 gw1 n0 Z1 RA RB
            go_loopw [117] (fun s117 wr => ∃ k q : Nat, k ≤ pn ∧ s117 = .int .i64 k ∧ wc.drewN q = wr) (fun s117 _ => pn - (intOf s117).toNat)
            case atStart => exact ⟨0, 0, by omega, rfl, rfl⟩
            case round =>
              obtain ⟨m, q, hm, rfl, rfl⟩ := hrel
              by_cases hlt : m < pn
              · have l0 : decide ((m : Int) < (pn : Int)) = true := decide_eq_true (by omega)
                have j0 : (0 : Int) ≤ (m : Int) := by omega
                have j1 : (m : Int) < (pn : Int) := by omega
                obtain ⟨b1, o1, v1, rfl, k1, hv1, -⟩ := SSA.out.cells hlt
                obtain ⟨b2, o2, v2, rfl, k2, hv2, -⟩ := SSB.out.cells hlt
                have HVV : Hid (m / 4 % W > x + R ∨ ((m / 4 % W : Nat) : Int) < (x : Int) - R ∨ m / 4 / W > y + R ∨ ((m / 4 / W : Nat) : Int) < (y : Int) - R → (v1 != v2) = false) := by
                  intro h
                  have e := HFAR.out m hlt h
                  rw [hv1.out, hv2.out] at e
                  injection e with e
                  simp [e]
                have HWJ : Hid (wrap64 ((m : Int) + 1) = ((m + 1 : Nat) : Int)) := by show _ = _; rw [IntWalk.wrap64_in _ (by have := HPB.out; omega)]; rfl
                obtain ⟨⟨e1, e2, e3, e3', e4, zW⟩, ⟨g1, g2⟩, ⟨g3, g4⟩, zW2, zW3⟩ := far_arith HPB.out hlt HWB.out HHB.out HX.out HY.out HRR.out
                generalize m / 4 % W = pp at *
                generalize m / 4 / W = qq at *
                generalize m / 4 = mm at *
                clear hv1 hv2
                go_wp2_with fail
                go_quiet (fail)
                go_upto_region 17 with (fail)
                obtain ⟨q1, hq1⟩ : ∃ q1, (wc.drewN q).drewN nq = wc.drewN q1 := ⟨q + nq, by rw [World.drewN_drewN]⟩
                rw [hq1]
                clear hq1
                try simp only [e1, e2, e3, e3', e4]
                clear e1 e2 e3 e3' e4 zW zW2 zW3
                by_cases f1 : (x : Int) + R < pp
                · have t1 : decide ((x : Int) + R < pp) = true := decide_eq_true f1
                  have t5 := HVV.out (.inl (nat_gt f1))
                  clear f1 g3 g4
                  go_quiet (fail)
                  go_wp2_with fail
                  go_roundw
                  case rel => exact ⟨m + 1, q1 + nq, hlt, by first | rw [HWJ.out] | rfl, by first | rfl | rw [World.drewN_drewN]⟩
                  case measure => (rw [HWJ.out]; exact meas_lt hlt)
                have t1 : decide ((x : Int) + R < pp) = false := decide_eq_false f1
                by_cases f2 : (pp : Int) < (x : Int) - R
                · have t2 : decide ((pp : Int) < (x : Int) - R) = true := decide_eq_true f2
                  have t5 := HVV.out (.inr (.inl f2))
                  clear f1 f2 g3 g4
                  go_quiet (fail)
                  go_wp2_with fail
                  go_roundw
                  case rel => exact ⟨m + 1, q1 + nq, hlt, by first | rw [HWJ.out] | rfl, by first | rfl | rw [World.drewN_drewN]⟩
                  case measure => (rw [HWJ.out]; exact meas_lt hlt)
                have t2 : decide ((pp : Int) < (x : Int) - R) = false := decide_eq_false f2
                by_cases f3 : (y : Int) + R < qq
                · have t3 : decide ((y : Int) + R < qq) = true := decide_eq_true f3
                  have t5 := HVV.out (.inr (.inr (.inl (nat_gt f3))))
                  clear f1 f2 f3
                  go_quiet (fail)
                  go_wp2_with fail
                  go_roundw
                  case rel => exact ⟨m + 1, q1 + nq, hlt, by first | rw [HWJ.out] | rfl, by first | rfl | rw [World.drewN_drewN]⟩
                  case measure => (rw [HWJ.out]; exact meas_lt hlt)
                have t3 : decide ((y : Int) + R < qq) = false := decide_eq_false f3
                by_cases f4 : (qq : Int) < (y : Int) - R
                · have t4 : decide ((qq : Int) < (y : Int) - R) = true := decide_eq_true f4
                  have t5 := HVV.out (.inr (.inr (.inr f4)))
                  clear f1 f2 f3 f4
                  go_quiet (fail)
                  go_wp2_with fail
                  go_roundw
                  case rel => exact ⟨m + 1, q1 + nq, hlt, by first | rw [HWJ.out] | rfl, by first | rfl | rw [World.drewN_drewN]⟩
                  case measure => (rw [HWJ.out]; exact meas_lt hlt)
                have t4 : decide ((qq : Int) < (y : Int) - R) = false := decide_eq_false f4
                clear f1 f2 f3 f4
                go_quiet (fail)
                go_wp2_with fail
                go_roundw
                case rel => exact ⟨m + 1, q1 + nq, hlt, by first | rw [HWJ.out] | rfl, by first | rfl | rw [World.drewN_drewN]⟩
                case measure => (rw [HWJ.out]; exact meas_lt hlt)
              · obtain rfl : m = pn := by omega
                have d0 : decide ((m : Int) < (m : Int)) = false := by simp
                go_wp2_with fail
                go_ret
                exact ⟨rfl, below_drewN HBV.out _⟩
      · rw [decide_eq_false hgd]
        obtain ⟨d0, d1, d2⟩ := img_cells U1.out
        have HGF : Hid (Calls Try.prog 25 #[.agg #[.int .i64 W, .int .i64 H, .slice P pn pc]] w2 (TestP w2 false)) := by
          have := rgood_any (W := W) (H := H) (P := P) (pn := pn) (pc := pc) w2 (by have := HPB.out; omega)
          rwa [decide_eq_false hgd] at this
        clear hgd
        go_wp2_with fail
        refine HGF.out.mono ?_
        rintro e w3 ⟨rfl, hb3⟩
        have HB3 : Hid (Below w.heap.size w w3) := bel_tr HBW.out hb3
        clear hb3
        go_wp2_with fail
        go_ret
        exact ⟨rfl, HB3.out⟩
    · have n0 : (CE != 0) = true := by simp [h0]
      clear h0
      go_wp2_with fail
      go_ret
      exact ⟨rfl, HB1.out.trans (HBC.out.mono HB1.out.size)⟩
end Go.Proofs.Ytogmlcgiajigfaa.Ard
