/-
  Walks: AroundFlat.
-/
import Derived.Test.YtogmlcgiajigfaaAroC
import Derived.Test.YtogmlcgiajigfaaAroF
import Derived.Test.YtogmlcgiajigfaaAroH
import Derived.Test.YtogmlcgiajigfaaAroK
import Derived.Test.YtogmlcgiajigfaaGot
import Derived.Deep.RegionHeld3
import Derived.Deep.DeepCutAuto
import Derived.Deep.CutBlock
set_option linter.unusedVariables false
set_option linter.unusedSimpArgs false
namespace Go.Proofs.Ytogmlcgiajigfaa.Ard
open Go.RowKit K

def sideF (n : Int) : Nat := 1 + ((n % 18446744073709551616) % 12).toNat
theorem sideF_in (n : Int) : 1 ≤ sideF n ∧ sideF n ≤ 12 := by unfold sideF; omega
theorem side_wrap (n : Int) : wrap64 (1 + wrap64 ((IntKind.u64.wrap n).tmod 12)) = (sideF n : Int) := by
  have h1 : IntKind.u64.wrap n = n % 18446744073709551616 := rfl
  rw [h1]
  have h2 : (n % 18446744073709551616).tmod 12 = n % 18446744073709551616 % 12 := Int.tmod_eq_emod_of_nonneg (by omega)
  rw [h2, IntWalk.wrap64_in (n % 18446744073709551616 % 12) (by omega), IntWalk.wrap64_in _ (by omega)]
  unfold sideF; omega
theorem kF_wrap (n : Int) : wrap64 (1 + wrap64 ((IntKind.u64.wrap n).tmod 3)) = (kF n : Int) := by
  have h1 : IntKind.u64.wrap n = n % 18446744073709551616 := rfl
  rw [h1]
  have h2 : (n % 18446744073709551616).tmod 3 = n % 18446744073709551616 % 3 := Int.tmod_eq_emod_of_nonneg (by omega)
  rw [h2, IntWalk.wrap64_in (n % 18446744073709551616 % 3) (by omega), IntWalk.wrap64_in _ (by omega)]
  unfold kF; omega
def flatOp : Nat → ByteArray
  | 0 => ⟨#[98, 108, 117, 114]⟩
  | 1 => ⟨#[108, 105, 110, 101, 115]⟩
  | 2 => ⟨#[115, 104, 97, 114, 112, 101, 110]⟩
  | 3 => ⟨#[108, 101, 97, 115, 116]⟩
  | 4 => ⟨#[109, 111, 115, 116]⟩
  | _ => ⟨#[109, 101, 100, 105, 97, 110]⟩
def flatId : Nat → Nat
  | 0 => 1
  | 1 => 8
  | 2 => 2
  | 3 => 5
  | 4 => 6
  | _ => 7
theorem edge_check : checkE edgeB [] = 0 ∧ idxF edgeB = some 3 := by decide +kernel
theorem flat_check {k n : Nat} (hk : k < 6) (h1 : 1 ≤ n) (h3 : n ≤ 3) : checkE (flatOp k) [(n : Int)] = 0 ∧ idxF (flatOp k) = some (flatId k) := by
  have h : n = 1 ∨ n = 2 ∨ n = 3 := by omega
  have h2 : k = 0 ∨ k = 1 ∨ k = 2 ∨ k = 3 ∨ k = 4 ∨ k = 5 := by omega
  rcases h with rfl | rfl | rfl <;> rcases h2 with rfl | rfl | rfl | rfl | rfl | rfl <;> decide +kernel
theorem flat_ids {k : Nat} (hk : k < 6) : flatId k = 1 ∨ flatId k = 2 ∨ flatId k = 5 ∨ flatId k = 6 ∨ flatId k = 7 ∨ flatId k = 8 := by
  have h2 : k = 0 ∨ k = 1 ∨ k = 2 ∨ k = 3 ∨ k = 4 ∨ k = 5 := by omega
  rcases h2 with rfl | rfl | rfl | rfl | rfl | rfl <;> simp [flatId]
def flatOps : Array Value := #[.string ⟨#[98, 108, 117, 114]⟩, .string ⟨#[108, 105, 110, 101, 115]⟩, .string ⟨#[115, 104, 97, 114, 112, 101, 110]⟩, .string ⟨#[108, 101, 97, 115, 116]⟩, .string ⟨#[109, 111, 115, 116]⟩, .string ⟨#[109, 101, 100, 105, 97, 110]⟩]
theorem flatOps_at {k : Nat} (hk : k < 6) : flatOps[k]? = some (.string (flatOp k)) := by
  have h2 : k = 0 ∨ k = 1 ∨ k = 2 ∨ k = 3 ∨ k = 4 ∨ k = 5 := by omega
  rcases h2 with rfl | rfl | rfl | rfl | rfl | rfl <;> rfl
section
variable {W H pn pc m : Nat} {r g b a : Int} {P A : Option Addr} {pix : List Int}
theorem good_of (hW : 1 ≤ W ∧ W ≤ 12) (hH : 1 ≤ H ∧ H ≤ 12) (hpn : pn = 4 * W * H) : GoodP W H pn := by
  have h1 : W * H ≤ 12 * 12 := Nat.mul_le_mul hW.2 hH.2
  have h2 : (W : Int) * (H : Int) = ((W * H : Nat) : Int) := (Int.natCast_mul _ _).symm
  refine ⟨?_, ?_⟩
  · unfold FitsP; rw [h2]; omega
  · rw [hpn]; push_cast; rfl
theorem flat_apply {k : Nat} (V : World) (hk : k < 6) (hm : 1 ≤ m ∧ m ≤ 3) (hW : 1 ≤ W ∧ W ≤ 12) (hH : 1 ≤ H ∧ H ≤ 12) (hr : 0 ≤ r ∧ r < 65536) (hg : 0 ≤ g ∧ g < 65536) (hb : 0 ≤ b ∧ b < 65536) (ha : 0 ≤ a ∧ a < 65536) (hpix : fillL [r, g, b, a] (W * H) = pix)
    (HA : SI V .i64 A 1 [(m : Int)]) (HP : SI V .u16 P pn pix) (hpc : pn ≤ pc ∧ pc ≤ maxLen) :
    Calls Try.prog 18 #[.string (flatOp k), .slice A 1 1, .agg #[.int .i64 W, .int .i64 H, .slice P pn pc]] V (ImgP V W H pix 0) := by
  have hl : pn = 4 * W * H := by rw [← HP.len, ← hpix, fillL_len, Nat.mul_assoc]
  have hgd := good_of hW hH hl
  have hc := flat_check hk hm.1 hm.2
  have hcap := hpc.2
  unfold maxLen at hcap
  refine (apply_gen (op := flatOp k) (c := 1) (pc := pc) (a := [(m : Int)]) V hc.1 HA HP (by rw [← hpix]; exact fill_in hr hg hb ha _) hpc.1 (by omega)).mono fun e w' h => ?_
  have e1 : genL (flatOp k) [(m : Int)] W H pn pix = pix := by
    unfold genL partL
    rw [if_pos hgd, hc.2]
    simp only [Int.toNat_natCast]
    rw [← hpix]
    exact flat_out hr hg hb ha hW.1 hH.1 (flat_ids hk)
  rw [e1] at h
  unfold genZ genE at h
  simpa only [hgd, if_true] using h
theorem edge_apply (V : World) (hW : 1 ≤ W ∧ W ≤ 12) (hH : 1 ≤ H ∧ H ≤ 12) (hr : 0 ≤ r ∧ r < 65536) (hg : 0 ≤ g ∧ g < 65536) (hb : 0 ≤ b ∧ b < 65536) (ha : 0 ≤ a ∧ a < 65536) (hpix : fillL [r, g, b, a] (W * H) = pix)
    (HP : SI V .u16 P pn pix) (hpc : pn ≤ pc ∧ pc ≤ maxLen) :
    ∃ l : List Int, l.length = pn ∧ pixL l 0 = [0, 0, 0, a] ∧ Calls Try.prog 18 #[.string edgeB, .slice none 0 0, .agg #[.int .i64 W, .int .i64 H, .slice P pn pc]] V (ImgP V W H l 0) := by
  have hl : pn = 4 * W * H := by rw [← HP.len, ← hpix, fillL_len, Nat.mul_assoc]
  have hgd := good_of hW hH hl
  have hcap := hpc.2
  unfold maxLen at hcap
  refine ⟨(List.range (4 * W * H)).map (outS 3 [] W H pix 0 0 W), by simp [hl], by rw [← hpix]; exact edge_out ha hW.1 hH.1, ?_⟩
  refine (apply_gen (op := edgeB) (c := 0) (pc := pc) (a := []) (A := none) (n := 0) V edge_check.1 (SI.nil V .i64 none) HP (by rw [← hpix]; exact fill_in hr hg hb ha _) hpc.1 (by omega)).mono fun e w' h => ?_
  have e1 : genL edgeB [] W H pn pix = (List.range (4 * W * H)).map (outS 3 [] W H pix 0 0 W) := by
    unfold genL partL
    rw [if_pos hgd, edge_check.2]
    rfl
  rw [e1] at h
  unfold genZ genE at h
  simpa only [hgd, if_true] using h
end
set_option maxRecDepth 20000 in
set_option maxHeartbeats 4000000 in
theorem aroundFlat_any {r g b a s0 s1 n : Int} (w : World) (hr : 0 ≤ r ∧ r < 65536) (hg : 0 ≤ g ∧ g < 65536) (hb : 0 ≤ b ∧ b < 65536) (ha : 0 ≤ a ∧ a < 65536) :
    Calls Try.prog 7 #[.agg #[.int .u16 r, .int .u16 g, .int .u16 b, .int .u16 a], .agg #[.int .i64 s0, .int .i64 s1], .int .i64 n] w (TestP w true) := by
  have HR := Lib.hid hr
  have HG := Lib.hid hg
  have HBB := Lib.hid hb
  have HA := Lib.hid ha
  clear hr hg hb ha
  obtain ⟨w0, hw0, r0, r1, hs0, hb0⟩ := two_allocs w (.cells (colC r g b a) 55) (.cells #[.int .i64 s0, .int .i64 s1] 60)
  have R0 := Lib.hid r0
  have R1 := Lib.hid r1
  have HB0 := Lib.hid hb0
  have HS0 := Lib.hid hs0
  clear r0 r1 hb0 hs0
  unfold colC at hw0
  go_enter Try.func7, Try.ntmps7
  go_wp2_with fail
  try rw [hw0]
  clear hw0
  refine (wakes_any _).mono ?_
  rintro e w1 ⟨rfl, hb1⟩
  have HB1 : Hid (Below w.heap.size w w1) := HB0.out.trans (hb1.mono HB0.out.size)
  have R0b : Hid (w1.heap[w.heap.size]? = some (.cells (colC r g b a) 55 (0, 0))) := (hb1.block _ (by have := HS0.out; omega)).trans R0.out
  have R1b : Hid (w1.heap[w.heap.size + 1]? = some (.cells #[.int .i64 s0, .int .i64 s1] 60 (0, 0))) := (hb1.block _ (by have := HS0.out; omega)).trans R1.out
  have x0 : w1.cell? ⟨w.heap.size, 0, none⟩ = some (.int .u16 r) := row_cell R0b.out 0
  have x1 : w1.cell? ⟨w.heap.size, 1, none⟩ = some (.int .u16 g) := row_cell R0b.out 1
  have x2 : w1.cell? ⟨w.heap.size, 2, none⟩ = some (.int .u16 b) := row_cell R0b.out 2
  have x3 : w1.cell? ⟨w.heap.size, 3, none⟩ = some (.int .u16 a) := row_cell R0b.out 3
  have y0 : w1.cell? ⟨w.heap.size + 1, 0, none⟩ = some (.int .i64 s0) := row_cell R1b.out 0
  have y1 : w1.cell? ⟨w.heap.size + 1, 1, none⟩ = some (.int .i64 s1) := row_cell R1b.out 1
  clear hb1 R0 R1 HB0 HS0
  go_wp2_with fail
  rw [side_wrap s0, side_wrap s1]
  have HW := Lib.hid (sideF_in s0)
  have HH := Lib.hid (sideF_in s1)
  generalize sideF s0 = W at *
  generalize sideF s1 = H at *
  refine (fill9_any w1 (by have := HW.out; omega) (by have := HH.out; omega)).mono ?_
  rintro e w2 ⟨hb2, A, c, rfl, hown⟩
  have HPX : Hid ((fillL [r, g, b, a] (W * H)).length = 4 * W * H ∧ (∀ v ∈ fillL [r, g, b, a] (W * H), 0 ≤ v ∧ v < 65536)) := ⟨by rw [fillL_len, Nat.mul_assoc], fill_in HR.out HG.out HBB.out HA.out _⟩
  have hcaps := own_caps hown
  obtain ⟨pix, hpix⟩ : ∃ l, fillL [r, g, b, a] (W * H) = l := ⟨_, rfl⟩
  rw [hpix] at hown HPX hcaps ⊢
  have HPIX := Lib.hid hpix
  obtain ⟨pn, hpn⟩ : ∃ m, pix.length = m := ⟨_, rfl⟩
  rw [hpn] at hown HPX hcaps ⊢
  have HPN := Lib.hid hpn
  have HCAPS := Lib.hid hcaps
  have hpb : pn ≤ 576 := by
    have h1 : W * H ≤ 12 * 12 := Nat.mul_le_mul HW.out.2 HH.out.2
    rw [HPX.out.1, Nat.mul_assoc]; omega
  have SP2 : Hid (SI w2 .u16 A pn pix) := SI.of_own hown (by simp only [kb]; omega)
  have HB2 : Hid (Below w.heap.size w w2) := HB1.out.trans (hb2.mono HB1.out.size)
  have R0c : Hid (w2.heap[w.heap.size]? = some (.cells (colC r g b a) 55 (0, 0))) := (hb2.block _ (Array.getElem?_eq_some_iff.1 R0b.out).1).trans R0b.out
  have HPB := Lib.hid hpb
  clear hb2 hown hpix hpn hcaps hpb x0 x1 x2 x3 y0 y1 HB1 R0b R1b
  go_upto_region 5 with (fail)
  rw [kF_wrap n]
  have HKI := Lib.hid (kF_in n)
  generalize kF n = m at *
  obtain ⟨w3, hw3⟩ : ∃ w3, w2.alloc (.cells #[.int .i64 W, .int .i64 H, .slice A pn c] 37) = w3 := ⟨_, rfl⟩
  obtain ⟨w4, hw4⟩ : ∃ w4, w3.alloc (.cells flatOps 9) = w4 := ⟨_, rfl⟩
  have HB34 : Hid (Below w.heap.size w w4) := by show Below _ _ _; rw [← hw4, ← hw3]; exact (HB2.out.alloc HB2.out.size _).alloc (by have := HB2.out.size; simp; omega) _
  have RM : Hid (w4.heap[w2.heap.size]? = some (.cells #[.int .i64 W, .int .i64 H, .slice A pn c] 37 (0, 0))) := by show _ = _; rw [← hw4, ← hw3]; exact heap_alloc_old _ _ (heap_alloc_new w2 _)
  have RO : Hid (w4.heap[w3.heap.size]? = some (.cells flatOps 9 (0, 0))) := by show _ = _; rw [← hw4]; exact heap_alloc_new w3 _
  have RC : Hid (w4.heap[w.heap.size]? = some (.cells (colC r g b a) 55 (0, 0))) := by show _ = _; rw [← hw4, ← hw3]; exact heap_alloc_old _ _ (heap_alloc_old _ _ R0c.out)
  have SP4 : Hid (SI w4 .u16 A pn pix) := by show SI _ _ _ _ _; rw [← hw4, ← hw3]; exact (SP2.out.alloc _).alloc _
  obtain ⟨gm, hgm⟩ : ∃ x, w2.heap.size = x := ⟨_, rfl⟩
  obtain ⟨gp, hgp⟩ : ∃ x, w3.heap.size = x := ⟨_, rfl⟩
  rw [hgm] at RM
  rw [hgp] at RO
  clear SP2 HB2 R0c
  unfold flatOps at hw4
  go_wp2_with fail
  try rw [hw4]
  try rw [hgm]
  try rw [hgp]
  clear hw3 hw4 hgm hgp
  go_loopw [45, 11] (fun s45 s11 wr => ∃ k : Nat, k ≤ 6 ∧ s45 = .int .i64 k ∧ Below w4.heap.size w4 wr) (fun s45 _ _ => 6 - (intOf s45).toNat)
  case atStart => exact ⟨0, by omega, rfl, Below.refl _ _⟩
  case round =>
    obtain ⟨k, hk, rfl, hbr⟩ := hrel
    have HBR := Lib.hid hbr
    clear hbr
    by_cases hlt : k < 6
    · have d0 : decide ((k : Int) < 6) = true := decide_eq_true (by omega)
      have j0 : (0 : Int) ≤ (k : Int) := by omega
      have j1 : (k : Int) < 6 := by omega
      have HLT := Lib.hid hlt
      clear hlt
      go_upto_region 9 with (fail)
      have HBV : Hid (Below w4.heap.size w4 wr) := HBR.out
      have c0 : wr.cell? ⟨gm, 0, none⟩ = some (.int .i64 W) := (img_cells (row_tr RM.out HBV.out)).1
      have c1 : wr.cell? ⟨gm, 1, none⟩ = some (.int .i64 H) := (img_cells (row_tr RM.out HBV.out)).2.1
      have c2 : wr.cell? ⟨gm, 2, none⟩ = some (.slice A pn c) := (img_cells (row_tr RM.out HBV.out)).2.2
      have c3 : wr.cell? ⟨gp, k, none⟩ = some (.string (flatOp k)) := (row_cell (row_tr RO.out HBV.out) k).trans (flatOps_at HLT.out)
      have gm1 : gm < wr.heap.size := World.block_lt_of_cell? wr _ c0
      have gp1 : gp < wr.heap.size := World.block_lt_of_cell? wr _ c3
      go_cut [12, 13] (fun s12 s13 wx => ∃ gx A1 c1, s12 = .pointer (some ⟨gx, 0, none⟩) ∧ s13 = .int .i64 0 ∧ Got w4 wx gx W H A1 c1 pix)
      case first =>
        go_region_held3 (fun w' => w'.cell? ⟨gm, 0, none⟩ = some (.int .i64 W) ∧ w'.cell? ⟨gm, 1, none⟩ = some (.int .i64 H) ∧ w'.cell? ⟨gm, 2, none⟩ = some (.slice A pn c) ∧ w'.cell? ⟨gp, k, none⟩ = some (.string (flatOp k)))
          (first
            | go_keep
            | exact ⟨c0, c1, c2, c3⟩
            | exact ⟨cell_set3 c0 (by show gm ≠ _; omega), cell_set3 c1 (by show gm ≠ _; omega), cell_set3 c2 (by show gm ≠ _; omega), cell_set3 c3 (by show gp ≠ _; omega)⟩)
          ((first
          | (go_at_call 19
             (with_reducible refine (own_any (pc := c) _ (SP4.out.below (B := w4.heap.size) (by (repeat (first | with_reducible exact HBV.out | with_reducible refine bel_al ?_ _ | with_reducible refine bel_dr ?_)); all_goals fail) (Nat.le_refl _))).mono ?_)
             rintro e v1 ⟨hb2, AC, cC, rfl, hown2, hc1, hc2⟩
             have HBV : Hid (Below w4.heap.size w4 v1) := bel_tr (by (repeat (first | with_reducible exact HBV.out | with_reducible refine bel_al ?_ _ | with_reducible refine bel_dr ?_)); all_goals fail) hb2
             have SP2 : Hid (SI v1 .u16 AC pn pix) := by show SI _ _ _ _ _; rw [← HPN.out]; exact SI.of_own hown2 (by have := HPN.out; have := HPB.out; simp only [kb]; omega)
             have HCC : Hid (pn ≤ cC ∧ cC ≤ maxLen) := by show _ ∧ _; rw [← HPN.out]; exact ⟨hc1, hc2⟩
             first
               | have SA : Hid (SI v1 .i64 (some ⟨wr.heap.size, 0, none⟩) 1 [(m : Int)]) := si_tr (si_dr (si_lit rfl)) hb2
               | have SA : Hid (SI v1 .i64 (some ⟨wr.heap.size, 0, none⟩) 1 [(m : Int)]) := si_tr (si_dr ((si_lit rfl).alloc _)) hb2
               | have SA : Hid (SI v1 .i64 (some ⟨wr.heap.size + 1, 0, none⟩) 1 [(m : Int)]) := si_tr (si_dr (si_lit (World.size_alloc _ _))) hb2
               | skip
             first
               | have HZ : Hid (v1.heap[wr.heap.size]? = some (.cells zimg 37 (0, 0))) := row_tr (row_dr (row_new rfl)) hb2
               | have HZ : Hid (v1.heap[wr.heap.size]? = some (.cells zimg 37 (0, 0))) := row_tr (row_dr (row_al (row_new rfl))) hb2
               | have HZ : Hid (v1.heap[wr.heap.size + 1]? = some (.cells zimg 37 (0, 0))) := row_tr (row_dr (row_new (World.size_alloc _ _))) hb2
               | skip
             have c0 : v1.cell? ⟨gm, 0, none⟩ = some (.int .i64 W) := (img_cells (row_tr RM.out HBV.out)).1
             have c1 : v1.cell? ⟨gm, 1, none⟩ = some (.int .i64 H) := (img_cells (row_tr RM.out HBV.out)).2.1
             have c2 : v1.cell? ⟨gm, 2, none⟩ = some (.slice A pn c) := (img_cells (row_tr RM.out HBV.out)).2.2
             have c3 : v1.cell? ⟨gp, k, none⟩ = some (.string (flatOp k)) := (row_cell (row_tr RO.out HBV.out) k).trans (flatOps_at HLT.out)
             have gm1 : gm < v1.heap.size := World.block_lt_of_cell? v1 _ c0
             have gp1 : gp < v1.heap.size := World.block_lt_of_cell? v1 _ c3
             rw [HPN.out]
             clear hb2 hown2 hc1 hc2)
          | (go_at_call 18
             (with_reducible refine (flat_apply _ HLT.out HKI.out HW.out HH.out HR.out HG.out HBB.out HA.out HPIX.out (by (repeat (first | with_reducible exact SA.out | with_reducible exact si_lit (by simp) | with_reducible refine SI.alloc ?_ _ | with_reducible refine si_dr ?_)); all_goals fail) (by (repeat (first | with_reducible exact SP2.out | with_reducible refine SI.alloc ?_ _ | with_reducible refine si_dr ?_)); all_goals fail) HCC.out).mono ?_)
             rintro e v2 ⟨hb3, A1, c1', rfl, hown3⟩
             have HOX : Hid (v2.ownsRow w4.heap.size 53 1 (.slice A1 pix.length c1') pix.length (pix.map (.int .u16))) := own_base hown3 (Below.size (by (repeat (first | with_reducible exact HBV.out | with_reducible refine bel_al ?_ _ | with_reducible refine bel_dr ?_)); all_goals fail))
             first
               | have HZ := Lib.hid (row_tr HZ.out hb3)
               | have HZ := Lib.hid (row_tr (row_al HZ.out) hb3)
               | have HZ : Hid (v2.heap[v1.heap.size]? = some (.cells zimg 37 (0, 0))) := row_tr (row_new rfl) hb3
               | have HZ : Hid (v2.heap[v1.heap.size]? = some (.cells zimg 37 (0, 0))) := row_tr (row_al (row_new rfl)) hb3
               | have HZ : Hid (v2.heap[v1.heap.size + 1]? = some (.cells zimg 37 (0, 0))) := row_tr (row_new (World.size_alloc _ _)) hb3
               | skip
             have hs12 := HBV.out.size
             have HBV : Hid (Below w4.heap.size w4 v2) := bel_tr (by (repeat (first | with_reducible exact HBV.out | with_reducible refine bel_al ?_ _ | with_reducible refine bel_dr ?_)); all_goals fail) hb3
             first
               | (have zz := zi_cells HZ.out
                  obtain ⟨z0, z1, z2, q0, q1, q2⟩ := zz)
               | skip
             have c0 : v2.cell? ⟨gm, 0, none⟩ = some (.int .i64 W) := (img_cells (row_tr RM.out HBV.out)).1
             have c1 : v2.cell? ⟨gm, 1, none⟩ = some (.int .i64 H) := (img_cells (row_tr RM.out HBV.out)).2.1
             have c2 : v2.cell? ⟨gm, 2, none⟩ = some (.slice A pn c) := (img_cells (row_tr RM.out HBV.out)).2.2
             have c3 : v2.cell? ⟨gp, k, none⟩ = some (.string (flatOp k)) := (row_cell (row_tr RO.out HBV.out) k).trans (flatOps_at HLT.out)
             have gm1 : gm < v2.heap.size := World.block_lt_of_cell? v2 _ c0
             have gp1 : gp < v2.heap.size := World.block_lt_of_cell? v2 _ c3
             skip)))
        all_goals (
          try refine NoPanic.normal ?_
          go_wp2
          go_meet
          case rel =>
            first
              | exact ⟨_, A1, c1', rfl, rfl, got_alloc HBV.out HOX.out⟩
              | exact ⟨_, A1, c1', rfl, rfl, got_set HBV.out HOX.out HZ.out (by have := HBR.out.size; omega)⟩)
      case rest =>
        obtain ⟨gx, A1, c1', rfl, rfl, hgot⟩ := hcut
        have HGOT := Lib.hid hgot
        have hgr := hgot.row
        rw [HPN.out] at hgr
        obtain ⟨u0, u1, u2⟩ := img_cells hgr
        obtain ⟨m0, m1, m2⟩ := img_cells (row_tr RM.out hgot.bel)
        have HS1 : Hid (SI wc .u16 A1 pn pix) := by have h := hgot.si (by have := HPB.out; have := HPN.out; omega); rwa [HPN.out] at h
        have HS2 : Hid (SI wc .u16 A pn pix) := si_tr SP4.out hgot.bel
        have HSB : Hid (sameB W H pix W H pix = true) := decide_eq_true ⟨rfl, rfl, rfl⟩
        have HWJ : Hid (wrap64 ((k : Int) + 1) = ((k + 1 : Nat) : Int)) := by show _ = _; rw [IntWalk.wrap64_in _ (by omega)]; rfl
        clear hgot hgr c0 c1 c2 c3 gm1 gp1
        go_wp2_with fail
        refine (same_any (W := W) (H := H) (W2 := W) (H2 := H) wc HS1.out HS2.out).mono ?_
        rintro e w6 ⟨rfl, hb6⟩
        rw [HSB.out]
        have HB6 : Hid (Below w4.heap.size w4 w6) := bel_tr HGOT.out.bel hb6
        clear hb6
        go_wp2_with fail
        go_roundw
        case rel => exact ⟨k + 1, HLT.out, by first | rw [HWJ.out] | rfl, HB6.out⟩
        case measure => have := HLT.out; simp [intOf]; omega
    · obtain rfl : k = 6 := by omega
      have hsz := HBR.out.size
      obtain ⟨m0, m1, m2⟩ := img_cells (row_tr RM.out HBR.out)
      go_wp2_with fail
      refine (own_any (pc := c) _ (si_tr SP4.out HBR.out)).mono ?_
      rintro e v1 ⟨hb2, AC, cC, rfl, hown2, hc1, hc2⟩
      have HBV : Hid (Below w4.heap.size w4 v1) := bel_tr HBR.out hb2
      have SP2 : Hid (SI v1 .u16 AC pn pix) := by show SI _ _ _ _ _; rw [← HPN.out]; exact SI.of_own hown2 (by have := HPN.out; have := HPB.out; simp only [kb]; omega)
      have HCC : Hid (pn ≤ cC ∧ cC ≤ maxLen) := by show _ ∧ _; rw [← HPN.out]; exact ⟨hc1, hc2⟩
      rw [HPN.out]
      clear hb2 hown2 hc1 hc2 m0 m1 m2 hsz HBR
      obtain ⟨l, hl, hpx, hcall⟩ := edge_apply (pc := cC) v1 HW.out HH.out HR.out HG.out HBB.out HA.out HPIX.out SP2.out HCC.out
      have HL := Lib.hid hl
      have HPXL := Lib.hid hpx
      have HCALL := Lib.hid hcall
      clear hl hpx hcall
      unfold edgeB at HCALL
      go_wp2_with fail
      refine HCALL.out.mono ?_
      rintro e v2 ⟨hb3, A1, c1', rfl, hown3⟩
      have HB2 : Hid (Below w4.heap.size w4 v2) := bel_tr HBV.out hb3
      have hgot : Got w4 (v2.alloc (.cells #[.int .i64 W, .int .i64 H, .slice A1 l.length c1'] 37)) v2.heap.size W H A1 c1' l := got_alloc HB2.out (own_base hown3 HBV.out.size)
      obtain ⟨v3, hv3⟩ : ∃ v, v2.alloc (.cells #[.int .i64 W, .int .i64 H, .slice A1 l.length c1'] 37) = v := ⟨_, rfl⟩
      rw [hv3] at hgot
      have HGOT := Lib.hid hgot
      clear hgot hb3 hown3 HCALL
      rw [HL.out]
      go_upto_region 14 with (fail)
      rw [HL.out] at hv3
      obtain ⟨gx, hgx⟩ : ∃ x, v2.heap.size = x := ⟨_, rfl⟩
      try rw [hv3]
      rw [hgx] at HGOT ⊢
      clear hv3 hgx
      have hgr := HGOT.out.row
      rw [HL.out] at hgr
      obtain ⟨u0, u1, u2⟩ := img_cells hgr
      have HSX : Hid (SI v3 .u16 A1 pn l) := by have h := HGOT.out.si (by have := HPB.out; have := HL.out; omega); rwa [HL.out] at h
      have HAT := Lib.hid (at9_any (x := 0) (y := 0) (pc := c1') v3 HSX.out (good_of HW.out HH.out HPX.out.1) (by have := HW.out; omega) (by have := HH.out; omega))
      have HQ : Hid (4 * (0 * W + 0) = 0) := by show _ = _; omega
      rw [HQ.out, HPXL.out] at HAT
      clear hgr
      go_wp2_with fail
      refine HAT.out.mono ?_
      rintro e v4 ⟨rfl, hb4⟩
      have HB4 : Hid (Below w4.heap.size w4 v4) := bel_tr HGOT.out.bel hb4
      have R4 : Hid (v4.heap[w.heap.size]? = some (.cells (colC r g b a) 55 (0, 0))) := row_tr RC.out HB4.out
      have y3 : v4.cell? ⟨w.heap.size, 3, none⟩ = some (.int .u16 a) := row_cell R4.out 3
      have hlt4 : w.heap.size < v4.heap.size := World.block_lt_of_cell? v4 _ y3
      clear u0 u1 u2 hb4 HAT
      simp only [List.getD_cons_zero, List.getD_cons_succ]
      unfold colC
      go_wp2_with fail
      go_ret
      have hbz : Below w.heap.size w v4 := HB34.out.trans (HB4.out.mono HB34.out.size)
      exact ⟨rfl, bel_al hbz _⟩
end Go.Proofs.Ytogmlcgiajigfaa.Ard
