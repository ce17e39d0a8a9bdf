/-
  Walks: AroundEnds.
-/
import Derived.Test.YtogmlcgiajigfaaAroC
import Derived.Test.YtogmlcgiajigfaaAroF
import Derived.Test.YtogmlcgiajigfaaAroG
set_option linter.unusedVariables false
set_option linter.unusedSimpArgs false
namespace Go.Proofs.Ytogmlcgiajigfaa.Ard
open Go.RowKit K

def leastB : ByteArray := ⟨#[108, 101, 97, 115, 116]⟩
def mostB : ByteArray := ⟨#[109, 111, 115, 116]⟩
def kF (n : Int) : Nat := 1 + ((n % 18446744073709551616) % 3).toNat
theorem kF_in (n : Int) : 1 ≤ kF n ∧ kF n ≤ 3 := by unfold kF; omega
theorem ends_check {n : Nat} (h1 : 1 ≤ n) (h3 : n ≤ 3) : checkE leastB [(n : Int)] = 0 ∧ checkE mostB [(n : Int)] = 0 ∧ checkE medB [(n : Int)] = 0 ∧ idxF leastB = some 5 ∧ idxF mostB = some 6 ∧ idxF medB = some 7 := by
  have : n = 1 ∨ n = 2 ∨ n = 3 := by omega
  rcases this with rfl | rfl | rfl <;> decide +kernel
theorem good_within {W H : Int} {pn : Nat} (h : GoodP W H pn) : WithinP 0 0 W H W H := by
  obtain ⟨h1, -⟩ := h
  unfold FitsP at h1
  unfold WithinP; omega
theorem part_code {op : ByteArray} {a : List Int} {W H : Int} {pn : Nat} (h : checkE op a = 0) : partE op a W H pn 0 0 W H = if GoodP W H pn then 0 else 6 := by
  unfold partE
  rw [if_neg (by rw [h]; simp)]
  by_cases hg : GoodP W H pn
  · simp [hg, good_within hg]
  · simp [hg]
/-- an image or the zero one -/
theorem ans_img {w w' : World} {W H : Int} {l : List Int} {code : Int} {e : Ending} (h : AnsP w W H l code e w') : ImgP w (if code = 0 then W else 0) (if code = 0 then H else 0) (if code = 0 then l else []) code e w' := by
  unfold AnsP at h
  by_cases hc : code = 0
  · simp only [hc, if_true] at h ⊢; exact h
  · simp only [hc, if_false] at h ⊢; exact h
/-- an image's outcome, or nothing -/
def genL (op : ByteArray) (a : List Int) (W H : Int) (pn : Nat) (pix : List Int) : List Int := if GoodP W H pn then partL op a W H pix 0 0 W H else []
def genE (W H : Int) (pn : Nat) : Int := if GoodP W H pn then 0 else 6
def genZ (W H : Int) (pn : Nat) (v : Int) : Int := if GoodP W H pn then v else 0
theorem good_nat {W H : Int} {pn : Nat} (h : GoodP W H pn) : 4 * W.toNat * H.toNat = pn := by
  obtain ⟨h1, h2⟩ := h
  unfold FitsP at h1
  obtain ⟨W, rfl⟩ := Int.eq_ofNat_of_zero_le (show 0 ≤ W by omega)
  obtain ⟨H, rfl⟩ := Int.eq_ofNat_of_zero_le (show 0 ≤ H by omega)
  simp only [Int.toNat_natCast]
  exact_mod_cast h2.symm
theorem genL_len (op : ByteArray) (a : List Int) (W H : Int) (pn : Nat) (pix : List Int) : (genL op a W H pn pix).length ≤ pn := by
  unfold genL
  by_cases h : GoodP W H pn
  · rw [if_pos h]
    unfold partL
    cases idxF op with
    | none => exact Nat.zero_le _
    | some i => simp only [List.length_map, List.length_range]; exact Nat.le_of_eq (good_nat h)
  · rw [if_neg h]; exact Nat.zero_le _
theorem apply_gen {op : ByteArray} {A : Option Addr} {n c : Nat} {a : List Int} {W H : Int} {pn pc : Nat} {P : Option Addr} {pix : List Int} (w : World) (h0 : checkE op a = 0) (HA : SI w .i64 A n a) (HP : SI w .u16 P pn pix) (hwv : ∀ v ∈ pix, 0 ≤ v ∧ v < 65536) (hpc : pn ≤ pc) (hpc2 : pc ≤ 9223372036854775807) :
    Calls Try.prog 18 #[.string op, .slice A n c, .agg #[.int .i64 W, .int .i64 H, .slice P pn pc]] w (ImgP w (genZ W H pn W) (genZ W H pn H) (genL op a W H pn pix) (genE W H pn)) := by
  refine (apply_any (op := op) (c := c) (a := a) w HA HP hwv hpc hpc2).mono fun e w' h => ?_
  rw [part_code h0] at h
  unfold AnsP at h
  unfold genL genE genZ
  by_cases hg : GoodP W H pn
  · simp only [hg, if_true] at h ⊢; exact h
  · simp only [hg, if_false] at h ⊢; exact h
set_option maxRecDepth 20000 in
set_option maxHeartbeats 4000000 in
theorem aroundEnds_any {W H n : Int} {P : Option Addr} {pn pc : Nat} {pix : List Int} (w : World) (HP : SI w .u16 P pn pix) (hwv : ∀ v ∈ pix, 0 ≤ v ∧ v < 65536) (hpc : pn ≤ pc) (hpc2 : pc ≤ 9223372036854775807) :
    Calls Try.prog 8 #[.agg #[.int .i64 W, .int .i64 H, .slice P pn pc], .int .i64 n] w (TestP w true) := by
  have hlen := HP.len
  have hbig : pn * 2 ≤ 140737488351232 := HP.sz
  have HPP := Lib.hid HP
  have HL := Lib.hid hlen
  have HWV := Lib.hid hwv
  clear HP hlen hwv
  obtain ⟨w0, hw0⟩ : ∃ w0, w.alloc (.cells #[.int .i64 W, .int .i64 H, .slice P pn pc] 37) = w0 := ⟨_, rfl⟩
  have HB0 : Hid (Below w.heap.size w w0) := by show Below _ _ _; rw [← hw0]; exact (Below.refl _ w).alloc (Nat.le_refl _) _
  have R0 : Hid (w0.heap[w.heap.size]? = some (.cells #[.int .i64 W, .int .i64 H, .slice P pn pc] 37 (0, 0))) := by show _ = _; rw [← hw0]; exact heap_alloc_new w _
  have HS0 : Hid (w0.heap.size = w.heap.size + 1) := by show _ = _; rw [← hw0]; simp
  obtain ⟨g, hg⟩ : ∃ g, w.heap.size = g := ⟨_, rfl⟩
  have HK : Hid (wrap64 (1 + wrap64 ((IntKind.u64.wrap n).tmod 3)) = (kF n : Int)) := by
    show _ = _
    have h1 : IntKind.u64.wrap n = n % 18446744073709551616 := rfl
    rw [h1]
    have h2 : (n % 18446744073709551616).tmod 3 = n % 18446744073709551616 % 3 := Int.tmod_eq_emod_of_nonneg (by omega)
    rw [h2, IntWalk.wrap64_in (n % 18446744073709551616 % 3) (by omega), IntWalk.wrap64_in _ (by omega)]
    unfold kF; omega
  have HKI : Hid (1 ≤ kF n ∧ kF n ≤ 3) := kF_in n
  go_enter Try.func8, Try.ntmps8
  go_wp2_with fail
  clear hw0
  refine (wakes_any _).mono ?_
  rintro e w1 ⟨rfl, hb1⟩
  have R1 : Hid (w1.heap[g]? = some (.cells #[.int .i64 W, .int .i64 H, .slice P pn pc] 37 (0, 0))) := (hb1.block _ (by have := HS0.out; omega)).trans (by rw [← hg]; exact R0.out)
  have HB1 : Hid (Below w.heap.size w w1) := HB0.out.trans (hb1.mono (by have := HS0.out; omega))
  have HPW : Hid (SI w1 .u16 P pn pix) := HPP.out.below HB1.out (Nat.le_refl _)
  clear hb1 HB0 R0 HS0 HPP
  go_upto_region 4 with (fail)
  rw [HK.out]
  have HGW := Lib.hid hg
  clear hg HK
  generalize kF n = k at HKI ⊢
  have x0 : ∀ o, (w1.alloc o).cell? ⟨g, 0, none⟩ = some (.int .i64 W) := fun o => row_cell (heap_alloc_old _ o R1.out) 0
  have x1 : ∀ o, (w1.alloc o).cell? ⟨g, 1, none⟩ = some (.int .i64 H) := fun o => row_cell (heap_alloc_old _ o R1.out) 1
  have x2 : ∀ o, (w1.alloc o).cell? ⟨g, 2, none⟩ = some (.slice P pn pc) := fun o => row_cell (heap_alloc_old _ o R1.out) 2
  go_wp2_with fail
  obtain ⟨E, hE⟩ : ∃ E, genE W H pn = E := ⟨_, rfl⟩
  obtain ⟨WG, hWG⟩ : ∃ x, genZ W H pn W = x := ⟨_, rfl⟩
  obtain ⟨HG, hHG⟩ : ∃ x, genZ W H pn H = x := ⟨_, rfl⟩
  have HE := Lib.hid hE
  have HWG := Lib.hid hWG
  have HHG := Lib.hid hHG
  clear hE hWG hHG
--<stages
  refine (own_any (W := W) (H := H) (pc := pc) _ (HPW.out.alloc _)).mono ?_
  rintro e v1a ⟨hb2, AC, cC, rfl, hown2, hc1, hc2⟩
  rw [HL.out] at hown2 hc1 ⊢
  have SP2 : Hid (SI v1a .u16 AC pn pix) := SI.of_own hown2 (by simp only [kb]; omega)
  have SA2 : Hid (SI v1a .i64 (some ⟨w1.heap.size, 0, none⟩) 1 [(k : Int)]) := (SI.lit0 w1 .i64 [(k : Int)] 3 (by show 1 * 8 ≤ _; omega)).below hb2 (Nat.le_refl _)
  have HB2 : Hid (Below w1.heap.size w1 v1a) := ((Below.refl _ w1).alloc (Nat.le_refl _) _).trans (hb2.mono (by simp))
  have HC1 := Lib.hid hc1
  have HC2 := Lib.hid hc2
  clear hb2 hown2 hc1 hc2 x0 x1 x2
  go_wp2_with fail
  refine (apply_gen (op := leastB) (c := 1) (pc := cC) v1a (ends_check HKI.out.1 HKI.out.2).1 SA2.out SP2.out HWV.out HC1.out (by have := HC2.out; unfold maxLen at this; omega)).mono ?_
  rintro e v1b ⟨hb3, A1, c1, rfl, hown3⟩
  rw [HE.out, HWG.out, HHG.out]
  obtain ⟨l1, hl1⟩ : ∃ l, genL leastB [(k : Int)] W H pn pix = l := ⟨_, rfl⟩
  have HLL1 : Hid (l1.length ≤ pn) := by show _ ≤ _; rw [← hl1]; exact genL_len _ _ _ _ _ _
  rw [hl1] at hown3 ⊢
  have Hl1 := Lib.hid hl1
  have SR : Hid (SI v1b .u16 A1 l1.length l1) := SI.of_own hown3 (by have := HLL1.out; simp only [kb]; omega)
  have HB3 : Hid (Below w1.heap.size w1 v1b) := HB2.out.trans (hb3.mono HB2.out.size)
  clear hb3 hown3 SP2 SA2 HB2 HC1 HC2 hl1
  obtain ⟨w2, hw2⟩ : ∃ w2, v1b.alloc (.cells #[.int .i64 WG, .int .i64 HG, .slice A1 l1.length c1] 37) = w2 := ⟨_, rfl⟩
  have HBX : Hid (Below w1.heap.size w1 w2) := by show Below _ _ _; rw [← hw2]; exact HB3.out.alloc HB3.out.size _
  have RR1 : Hid (w2.heap[v1b.heap.size]? = some (.cells #[.int .i64 WG, .int .i64 HG, .slice A1 l1.length c1] 37 (0, 0))) := by show _ = _; rw [← hw2]; exact heap_alloc_new v1b _
  have SS1 : Hid (SI w2 .u16 A1 l1.length l1) := by show SI _ _ _ _ _; rw [← hw2]; exact SR.out.alloc _
  have HZ1 : Hid (w2.heap.size = v1b.heap.size + 1) := by show _ = _; rw [← hw2]; simp
  have RN : Hid (w2.heap[g]? = some (.cells #[.int .i64 W, .int .i64 H, .slice P pn pc] 37 (0, 0))) := (HBX.out.block _ (Array.getElem?_eq_some_iff.1 R1.out).1).trans R1.out
  have HPN : Hid (SI w2 .u16 P pn pix) := HPW.out.below HBX.out (Nat.le_refl _)
  have HBN : Hid (Below w.heap.size w w2) := HB1.out.trans (HBX.out.mono HB1.out.size)
  clear R1 HPW HB1 SR HB3 HBX 
  have R1 := RN
  have HPW := HPN
  have HB1 := HBN
  clear RN HPN HBN
  obtain ⟨q1, hq1⟩ : ∃ q, v1b.heap.size = q := ⟨_, rfl⟩
  go_upto_region 5 with (fail)
  rw [hq1] at RR1 HZ1
  clear hw2
  have x0 : ∀ o, (w2.alloc o).cell? ⟨g, 0, none⟩ = some (.int .i64 W) := fun o => row_cell (heap_alloc_old _ o R1.out) 0
  have x1 : ∀ o, (w2.alloc o).cell? ⟨g, 1, none⟩ = some (.int .i64 H) := fun o => row_cell (heap_alloc_old _ o R1.out) 1
  have x2 : ∀ o, (w2.alloc o).cell? ⟨g, 2, none⟩ = some (.slice P pn pc) := fun o => row_cell (heap_alloc_old _ o R1.out) 2
  go_wp2_with fail
  refine (own_any (W := W) (H := H) (pc := pc) _ (HPW.out.alloc _)).mono ?_
  rintro e v2a ⟨hb2, AC, cC, rfl, hown2, hc1, hc2⟩
  rw [HL.out] at hown2 hc1 ⊢
  have SP2 : Hid (SI v2a .u16 AC pn pix) := SI.of_own hown2 (by simp only [kb]; omega)
  have SA2 : Hid (SI v2a .i64 (some ⟨w2.heap.size, 0, none⟩) 1 [(k : Int)]) := (SI.lit0 w2 .i64 [(k : Int)] 3 (by show 1 * 8 ≤ _; omega)).below hb2 (Nat.le_refl _)
  have HB2 : Hid (Below w2.heap.size w2 v2a) := ((Below.refl _ w2).alloc (Nat.le_refl _) _).trans (hb2.mono (by simp))
  have HC1 := Lib.hid hc1
  have HC2 := Lib.hid hc2
  clear hb2 hown2 hc1 hc2 x0 x1 x2
  go_wp2_with fail
  refine (apply_gen (op := mostB) (c := 1) (pc := cC) v2a (ends_check HKI.out.1 HKI.out.2).2.1 SA2.out SP2.out HWV.out HC1.out (by have := HC2.out; unfold maxLen at this; omega)).mono ?_
  rintro e v2b ⟨hb3, A2, c2, rfl, hown3⟩
  rw [HE.out, HWG.out, HHG.out]
  obtain ⟨l2, hl2⟩ : ∃ l, genL mostB [(k : Int)] W H pn pix = l := ⟨_, rfl⟩
  have HLL2 : Hid (l2.length ≤ pn) := by show _ ≤ _; rw [← hl2]; exact genL_len _ _ _ _ _ _
  rw [hl2] at hown3 ⊢
  have Hl2 := Lib.hid hl2
  have SR : Hid (SI v2b .u16 A2 l2.length l2) := SI.of_own hown3 (by have := HLL2.out; simp only [kb]; omega)
  have HB3 : Hid (Below w2.heap.size w2 v2b) := HB2.out.trans (hb3.mono HB2.out.size)
  clear hb3 hown3 SP2 SA2 HB2 HC1 HC2 hl2
  obtain ⟨w3, hw3⟩ : ∃ w3, v2b.alloc (.cells #[.int .i64 WG, .int .i64 HG, .slice A2 l2.length c2] 37) = w3 := ⟨_, rfl⟩
  have HBX : Hid (Below w2.heap.size w2 w3) := by show Below _ _ _; rw [← hw3]; exact HB3.out.alloc HB3.out.size _
  have RR2 : Hid (w3.heap[v2b.heap.size]? = some (.cells #[.int .i64 WG, .int .i64 HG, .slice A2 l2.length c2] 37 (0, 0))) := by show _ = _; rw [← hw3]; exact heap_alloc_new v2b _
  have SS2 : Hid (SI w3 .u16 A2 l2.length l2) := by show SI _ _ _ _ _; rw [← hw3]; exact SR.out.alloc _
  have HZ2 : Hid (w3.heap.size = v2b.heap.size + 1) := by show _ = _; rw [← hw3]; simp
  have RN : Hid (w3.heap[g]? = some (.cells #[.int .i64 W, .int .i64 H, .slice P pn pc] 37 (0, 0))) := (HBX.out.block _ (Array.getElem?_eq_some_iff.1 R1.out).1).trans R1.out
  have HPN : Hid (SI w3 .u16 P pn pix) := HPW.out.below HBX.out (Nat.le_refl _)
  have HBN : Hid (Below w.heap.size w w3) := HB1.out.trans (HBX.out.mono HB1.out.size)
  have RT1 : Hid (w3.heap[q1]? = some (.cells #[.int .i64 WG, .int .i64 HG, .slice A1 l1.length c1] 37 (0, 0))) := (HBX.out.block _ (Array.getElem?_eq_some_iff.1 RR1.out).1).trans RR1.out
  have ST1 : Hid (SI w3 .u16 A1 l1.length l1) := SS1.out.below HBX.out (Nat.le_refl _)
  clear R1 HPW HB1 SR HB3 HBX RR1 SS1
  have R1 := RN
  have HPW := HPN
  have HB1 := HBN
  have RR1 := RT1
  have SS1 := ST1
  clear RN HPN HBN RT1 ST1
  obtain ⟨q2, hq2⟩ : ∃ q, v2b.heap.size = q := ⟨_, rfl⟩
  go_upto_region 6 with (fail)
  rw [hq2] at RR2 HZ2
  clear hw3
  have x0 : ∀ o, (w3.alloc o).cell? ⟨g, 0, none⟩ = some (.int .i64 W) := fun o => row_cell (heap_alloc_old _ o R1.out) 0
  have x1 : ∀ o, (w3.alloc o).cell? ⟨g, 1, none⟩ = some (.int .i64 H) := fun o => row_cell (heap_alloc_old _ o R1.out) 1
  have x2 : ∀ o, (w3.alloc o).cell? ⟨g, 2, none⟩ = some (.slice P pn pc) := fun o => row_cell (heap_alloc_old _ o R1.out) 2
  go_wp2_with fail
  refine (own_any (W := W) (H := H) (pc := pc) _ (HPW.out.alloc _)).mono ?_
  rintro e v3a ⟨hb2, AC, cC, rfl, hown2, hc1, hc2⟩
  rw [HL.out] at hown2 hc1 ⊢
  have SP2 : Hid (SI v3a .u16 AC pn pix) := SI.of_own hown2 (by simp only [kb]; omega)
  have SA2 : Hid (SI v3a .i64 (some ⟨w3.heap.size, 0, none⟩) 1 [(k : Int)]) := (SI.lit0 w3 .i64 [(k : Int)] 3 (by show 1 * 8 ≤ _; omega)).below hb2 (Nat.le_refl _)
  have HB2 : Hid (Below w3.heap.size w3 v3a) := ((Below.refl _ w3).alloc (Nat.le_refl _) _).trans (hb2.mono (by simp))
  have HC1 := Lib.hid hc1
  have HC2 := Lib.hid hc2
  clear hb2 hown2 hc1 hc2 x0 x1 x2
  go_wp2_with fail
  refine (apply_gen (op := medB) (c := 1) (pc := cC) v3a (ends_check HKI.out.1 HKI.out.2).2.2.1 SA2.out SP2.out HWV.out HC1.out (by have := HC2.out; unfold maxLen at this; omega)).mono ?_
  rintro e v3b ⟨hb3, A3, c3, rfl, hown3⟩
  rw [HE.out, HWG.out, HHG.out]
  obtain ⟨l3, hl3⟩ : ∃ l, genL medB [(k : Int)] W H pn pix = l := ⟨_, rfl⟩
  have HLL3 : Hid (l3.length ≤ pn) := by show _ ≤ _; rw [← hl3]; exact genL_len _ _ _ _ _ _
  rw [hl3] at hown3 ⊢
  have Hl3 := Lib.hid hl3
  have SR : Hid (SI v3b .u16 A3 l3.length l3) := SI.of_own hown3 (by have := HLL3.out; simp only [kb]; omega)
  have HB3 : Hid (Below w3.heap.size w3 v3b) := HB2.out.trans (hb3.mono HB2.out.size)
  clear hb3 hown3 SP2 SA2 HB2 HC1 HC2 hl3
  obtain ⟨w4, hw4⟩ : ∃ w4, v3b.alloc (.cells #[.int .i64 WG, .int .i64 HG, .slice A3 l3.length c3] 37) = w4 := ⟨_, rfl⟩
  have HBX : Hid (Below w3.heap.size w3 w4) := by show Below _ _ _; rw [← hw4]; exact HB3.out.alloc HB3.out.size _
  have RR3 : Hid (w4.heap[v3b.heap.size]? = some (.cells #[.int .i64 WG, .int .i64 HG, .slice A3 l3.length c3] 37 (0, 0))) := by show _ = _; rw [← hw4]; exact heap_alloc_new v3b _
  have SS3 : Hid (SI w4 .u16 A3 l3.length l3) := by show SI _ _ _ _ _; rw [← hw4]; exact SR.out.alloc _
  have HZ3 : Hid (w4.heap.size = v3b.heap.size + 1) := by show _ = _; rw [← hw4]; simp
  have RN : Hid (w4.heap[g]? = some (.cells #[.int .i64 W, .int .i64 H, .slice P pn pc] 37 (0, 0))) := (HBX.out.block _ (Array.getElem?_eq_some_iff.1 R1.out).1).trans R1.out
  have HPN : Hid (SI w4 .u16 P pn pix) := HPW.out.below HBX.out (Nat.le_refl _)
  have HBN : Hid (Below w.heap.size w w4) := HB1.out.trans (HBX.out.mono HB1.out.size)
  have RT1 : Hid (w4.heap[q1]? = some (.cells #[.int .i64 WG, .int .i64 HG, .slice A1 l1.length c1] 37 (0, 0))) := (HBX.out.block _ (Array.getElem?_eq_some_iff.1 RR1.out).1).trans RR1.out
  have ST1 : Hid (SI w4 .u16 A1 l1.length l1) := SS1.out.below HBX.out (Nat.le_refl _)
  have RT2 : Hid (w4.heap[q2]? = some (.cells #[.int .i64 WG, .int .i64 HG, .slice A2 l2.length c2] 37 (0, 0))) := (HBX.out.block _ (Array.getElem?_eq_some_iff.1 RR2.out).1).trans RR2.out
  have ST2 : Hid (SI w4 .u16 A2 l2.length l2) := SS2.out.below HBX.out (Nat.le_refl _)
  clear R1 HPW HB1 SR HB3 HBX RR1 SS1 RR2 SS2
  have R1 := RN
  have HPW := HPN
  have HB1 := HBN
  have RR1 := RT1
  have SS1 := ST1
  have RR2 := RT2
  have SS2 := ST2
  clear RN HPN HBN RT1 ST1 RT2 ST2
  obtain ⟨q3, hq3⟩ : ∃ q, v3b.heap.size = q := ⟨_, rfl⟩
  go_upto_region 7 with (fail)
  rw [hq3] at RR3 HZ3
  clear hw4
--stages>
  have x0 := row_cell R1.out 0
  have x1 := row_cell R1.out 1
  have x2 := row_cell R1.out 2
  go_wp2_with fail
  refine (rgood_any (W := W) (H := H) (P := P) (pn := pn) (pc := pc) w4 (by omega)).mono ?_
  rintro e w5 ⟨rfl, hb5⟩
  have R5 : Hid (w5.heap[g]? = some (.cells #[.int .i64 W, .int .i64 H, .slice P pn pc] 37 (0, 0))) := (hb5.block _ (Array.getElem?_eq_some_iff.1 R1.out).1).trans R1.out
  have Q1 : Hid (w5.heap[q1]? = some (.cells #[.int .i64 WG, .int .i64 HG, .slice A1 l1.length c1] 37 (0, 0))) := (hb5.block _ (Array.getElem?_eq_some_iff.1 RR1.out).1).trans RR1.out
  have Q2 : Hid (w5.heap[q2]? = some (.cells #[.int .i64 WG, .int .i64 HG, .slice A2 l2.length c2] 37 (0, 0))) := (hb5.block _ (Array.getElem?_eq_some_iff.1 RR2.out).1).trans RR2.out
  have Q3 : Hid (w5.heap[q3]? = some (.cells #[.int .i64 WG, .int .i64 HG, .slice A3 l3.length c3] 37 (0, 0))) := (hb5.block _ (Array.getElem?_eq_some_iff.1 RR3.out).1).trans RR3.out
  have T1 : Hid (SI w5 .u16 A1 l1.length l1) := SS1.out.below hb5 (Nat.le_refl _)
  have T2 : Hid (SI w5 .u16 A2 l2.length l2) := SS2.out.below hb5 (Nat.le_refl _)
  have T3 : Hid (SI w5 .u16 A3 l3.length l3) := SS3.out.below hb5 (Nat.le_refl _)
  have T0 : Hid (SI w5 .u16 P pn pix) := HPW.out.below hb5 (Nat.le_refl _)
  have HB5 : Hid (Below w.heap.size w w5) := HB1.out.trans (hb5.mono HB1.out.size)
  clear hb5 R1 RR1 RR2 RR3 SS1 SS2 SS3 HPW HB1 x0 x1 x2
  by_cases hg : GoodP W H pn
  · rw [decide_eq_true hg]
    have hE : E = 0 := by rw [← HE.out]; unfold genE; rw [if_pos hg]
    have hk := ends_check HKI.out.1 HKI.out.2
    have hn := good_nat hg
    have e1 : (List.range (4 * W.toNat * H.toNat)).map (outS 5 [(k : Int)] W.toNat H.toNat pix 0 0 W.toNat) = l1 := by rw [← Hl1.out]; unfold genL partL; rw [if_pos hg, hk.2.2.2.1]; rfl
    have e2 : (List.range (4 * W.toNat * H.toNat)).map (outS 6 [(k : Int)] W.toNat H.toNat pix 0 0 W.toNat) = l2 := by rw [← Hl2.out]; unfold genL partL; rw [if_pos hg, hk.2.2.2.2.1]; rfl
    have e3 : (List.range (4 * W.toNat * H.toNat)).map (outS 7 [(k : Int)] W.toNat H.toNat pix 0 0 W.toNat) = l3 := by rw [← Hl3.out]; unfold genL partL; rw [if_pos hg, hk.2.2.2.2.2]; rfl
    have f1 : l1.length = pn := by rw [← e1]; simp [hn]
    have f2 : l2.length = pn := by rw [← e2]; simp [hn]
    have f3 : l3.length = pn := by rw [← e3]; simp [hn]
    have HAT : Hid (∀ t, t < pn → ∃ v a b c, pix[t]? = some v ∧ l1[t]? = some a ∧ l2[t]? = some b ∧ l3[t]? = some c ∧ a ≤ v ∧ v ≤ b ∧ a ≤ c ∧ c ≤ b) := fun t ht => by
      have := ends_at (n := k) (W := W.toNat) (H := H.toNat) (t := t) (by rw [HL.out, hn]) HWV.out (by omega)
      rwa [e1, e2, e3] at this
    rw [f1] at Q1 T1
    rw [f2] at Q2 T2
    rw [f3] at Q3 T3
    subst hE
    clear e1 e2 e3 f1 f2 f3 hk hn hg Hl1 Hl2 Hl3 HLL1 HLL2 HLL3
    have x2 := row_cell R5.out 2
    have z1 := row_cell Q1.out 2
    have z2 := row_cell Q2.out 2
    have z3 := row_cell Q3.out 2
    go_wp2_with fail
    clear x2 z1 z2 z3 HWG HHG hq1 hq2 hq3
    go_loopw [99] (fun s99 wr => ∃ k q : Nat, k ≤ pn ∧ s99 = .int .i64 k ∧ w5.drewN q = wr) (fun s99 _ => pn - (intOf s99).toNat)
    case atStart => exact ⟨0, 0, by omega, rfl, rfl⟩
    case round =>
      obtain ⟨m, q, hm, rfl, rfl⟩ := hrel
      by_cases hlt : m < pn
      · have d0 : decide ((m : Int) < (pn : Int)) = true := decide_eq_true (by omega)
        have j0 : (0 : Int) ≤ (m : Int) := by omega
        have j1 : (m : Int) < (pn : Int) := by omega
        obtain ⟨b0, o0, v0, rfl, k0, hv0, -⟩ := T0.out.cells hlt
        obtain ⟨b1, o1, v1, rfl, k1, hv1, -⟩ := T1.out.cells hlt
        obtain ⟨b2, o2, v2, rfl, k2, hv2, -⟩ := T2.out.cells hlt
        obtain ⟨b3, o3, v3, rfl, k3, hv3, -⟩ := T3.out.cells hlt
        obtain ⟨v, a, b, c, p0, p1, p2, p3, r0, r1, r2, r3⟩ := HAT.out m hlt
        rw [hv0.out] at p0; injection p0 with p0; subst p0
        rw [hv1.out] at p1; injection p1 with p1; subst p1
        rw [hv2.out] at p2; injection p2 with p2; subst p2
        rw [hv3.out] at p3; injection p3 with p3; subst p3
        have t1 : decide (v0 < v1) = false := decide_eq_false (by omega)
        have t2 : decide (v2 < v0) = false := decide_eq_false (by omega)
        have t3 : decide (v3 < v1) = false := decide_eq_false (by omega)
        have t4 : decide (v2 < v3) = false := decide_eq_false (by omega)
        have HWJ : Hid (wrap64 ((m : Int) + 1) = ((m + 1 : Nat) : Int)) := by show _ = _; rw [IntWalk.wrap64_in _ (by omega)]; rfl
        clear hv0 hv1 hv2 hv3 r0 r1 r2 r3
        have x2 := row_cell R5.out 2
        have z1 := row_cell Q1.out 2
        have z2 := row_cell Q2.out 2
        have z3 := row_cell Q3.out 2
        go_wp2_with fail
        go_quiet (fail)
        go_wp2_with fail
        go_roundw
        case rel => exact ⟨m + 1, q + nq, by omega, by first | rw [HWJ.out] | rfl, by first | rfl | rw [World.drewN_drewN]⟩
        case measure => simp [intOf]; omega
      · obtain rfl : m = pn := by omega
        have d0 : decide ((m : Int) < (m : Int)) = false := by simp
        go_wp2_with fail
        go_ret
        exact ⟨rfl, below_drewN HB5.out _⟩
  · rw [decide_eq_false hg]
    have hE : E = 6 := by rw [← HE.out]; unfold genE; rw [if_neg hg]
    subst hE
    go_wp2_with fail
    go_ret
    exact ⟨rfl, HB5.out⟩
end Go.Proofs.Ytogmlcgiajigfaa.Ard
