/-
  Walks: the reference's sample, the operators of a window of nine.
-/
import Derived.Test.YtogmlcgiajigfaaAroS
import Derived.Test.YtogmlcgiajigfaaArdD
import Derived.Test.YtogmlcgiajigfaaArdE
set_option linter.unusedVariables false
set_option linter.unusedSimpArgs false
namespace Go.Proofs.Ytogmlcgiajigfaa.Ard
open Go.RowKit K

theorem prod8 {d a : Int} (h1 : -700000 ≤ d ∧ d ≤ 700000) (ha : 1 ≤ a ∧ a ≤ 8) : -5600000 ≤ d * a ∧ d * a ≤ 5600000 := by
  have h : a = 1 ∨ a = 2 ∨ a = 3 ∨ a = 4 ∨ a = 5 ∨ a = 6 ∨ a = 7 ∨ a = 8 := by omega
  rcases h with rfl | rfl | rfl | rfl | rfl | rfl | rfl | rfl <;> omega
theorem sharp_in {v0 s a0 : Int} (hv : 0 ≤ v0 ∧ v0 < 65536) (ha : 1 ≤ a0 ∧ a0 ≤ 8) (hs : 0 ≤ s ∧ s ≤ 600000) :
    wrap64 (8 * v0) = 8 * v0 ∧ wrap64 (s - v0) = s - v0 ∧ wrap64 (8 * v0 - (s - v0)) = 8 * v0 - (s - v0) ∧ wrap64 ((8 * v0 - (s - v0)) * a0) = (8 * v0 - (s - v0)) * a0 ∧
    Hid (-9000000000000 ≤ (8 * v0 - (s - v0)) * a0 ∧ (8 * v0 - (s - v0)) * a0 ≤ 9000000000000) ∧ wrap64 (v0 + (8 * v0 - (s - v0)) * a0 / 16) = v0 + (8 * v0 - (s - v0)) * a0 / 16 ∧ Hid (9 * v0 - s = 8 * v0 - (s - v0)) := by
  have h1 := prod8 (d := 8 * v0 - (s - v0)) (by omega) ha
  refine ⟨IntWalk.wrap64_in _ (by omega), IntWalk.wrap64_in _ (by omega), IntWalk.wrap64_in _ (by omega), IntWalk.wrap64_in _ (by omega), ?_, ?_, ?_⟩
  · show _ ∧ _
    omega
  · generalize (8 * v0 - (s - v0)) * a0 = z at *
    exact IntWalk.wrap64_in _ (by omega)
  · show _ = _
    omega
theorem abs_sum {p q : Int} (hp : -900000 ≤ p ∧ p ≤ 900000) (hq : -900000 ≤ q ∧ q ≤ 900000) : -9223372036854775808 ≤ absF p + absF q ∧ absF p + absF q ≤ 9223372036854775807 := by unfold absF; omega
theorem conv_in {z a9 a10 : Int} (hz : -70000000 * ((9 : Nat) : Int) ≤ z ∧ z ≤ 70000000 * ((9 : Nat) : Int)) (h9 : 1 ≤ a9 ∧ a9 ≤ 65535) (h10 : -65535 ≤ a10 ∧ a10 ≤ 65535) : (-9000000000001 ≤ z / a9 ∧ z / a9 ≤ 9000000000001) ∧ wrap64 (z / a9 + a10) = z / a9 + a10 := by
  have h1 : z / a9 ≤ 700000000 / a9 := Int.ediv_le_ediv (by omega) (by omega)
  have h2 : (700000000 : Int) / a9 ≤ 700000000 := Int.ediv_le_self _ (by omega)
  have h3 : -700000000 ≤ z / a9 := by
    rw [Int.le_ediv_iff_mul_le (by omega)]
    omega
  exact ⟨by omega, IntWalk.wrap64_in _ (by omega)⟩
theorem conv_args {a : List Int} (h : ∀ j, j < (bndF 0).length → ((bndF 0).getD j (0, 0)).1 ≤ a.getD j 0 ∧ a.getD j 0 ≤ ((bndF 0).getD j (0, 0)).2) : ∀ i, i < 9 → -1024 ≤ a.getD i 0 ∧ a.getD i 0 ≤ 1024 := by
  intro i hi
  have h1 := h i (by simp [bndF]; omega)
  have hh : i = 0 ∨ i = 1 ∨ i = 2 ∨ i = 3 ∨ i = 4 ∨ i = 5 ∨ i = 6 ∨ i = 7 ∨ i = 8 := by omega
  rcases hh with rfl | rfl | rfl | rfl | rfl | rfl | rfl | rfl | rfl <;> simpa [bndF] using h1
theorem meas_lt9 {m : Nat} (h : m < 9) : 9 - ((m + 1 : Nat) : Int).toNat < 9 - (m : Int).toNat := by omega
--cases>
set_option maxRecDepth 100000 in
set_option maxHeartbeats 4000000 in
theorem sample_4 {op : ByteArray} {A : Option Addr} {n c : Nat} {a : List Int} {P : Option Addr} {pn pc W H x y k : Nat} {pix : List Int} (w : World) (hk3 : k ≠ 3) (hop : op = nameF 4) (HS : SmpH w op A n a P pn pc W H 4 x y k pix) :
    Calls Try.prog 38 #[.string op, .slice A n c, .agg #[.int .i64 W, .int .i64 H, .slice P pn pc], .int .i64 x, .int .i64 y, .int .i64 k] w (DoP w (sampF 4 a W H pix x y k)) := by
  have HH := Lib.hid HS
  clear HS
  have n5 : (op.toList == [108, 101, 97, 115, 116]) = false := lit_is (j := 5) (by omega) (by omega) hop rfl
  have n6 : (op.toList == [109, 111, 115, 116]) = false := lit_is (j := 6) (by omega) (by omega) hop rfl
  have n7 : (op.toList == [109, 101, 100, 105, 97, 110]) = false := lit_is (j := 7) (by omega) (by omega) hop rfl
  have n1 : (op.toList == [98, 108, 117, 114]) = false := lit_is (j := 1) (by omega) (by omega) hop rfl
  have n8 : (op.toList == [108, 105, 110, 101, 115]) = false := lit_is (j := 8) (by omega) (by omega) hop rfl
  have n0 : (op.toList == [99, 111, 110, 118, 111, 108, 118, 101]) = false := lit_is (j := 0) (by omega) (by omega) hop rfl
  have n2 : (op.toList == [115, 104, 97, 114, 112, 101, 110]) = false := lit_is (j := 2) (by omega) (by omega) hop rfl
  have n3 : (op.toList == [101, 100, 103, 101]) = false := lit_is (j := 3) (by omega) (by omega) hop rfl
  have n4 : (op.toList == [101, 109, 98, 111, 115, 115]) = true := lit_is (j := 4) (by omega) (by omega) hop rfl
  have k3 : ((k : Int) == 3) = false := by simp; omega
  have hlen : (winF W H pix x y 1 1 k).length = 9 := by rw [winF_len]
  have HVAL : Hid (∀ l, winF W H pix x y 1 1 k = l → sampF 4 a W H pix x y k = (clampN (doF 4 a l (atF W H pix x y k)) 65535 : Int)) := fun l hl => by
    subst hl
    exact samp_clamp (i := 4) (fun h => hk3 h.1)
  have HWL := Lib.hid (HH.out.wv 1 1)
  have HL9 := Lib.hid hlen
  have HW1 : Hid (∀ V, Below w.heap.size w V → Calls Try.prog 64 #[.agg #[.int .i64 W, .int .i64 H, .slice P pn pc], .int .i64 x, .int .i64 y, .int .i64 1, .int .i64 1, .int .i64 k] V (NewI V (winF W H pix x y 1 1 k))) := fun V hV => HH.out.win V 1 1 hV (by omega) (by omega)
  have HAT := Lib.hid HH.out.at'
  have hv0 := HH.out.own
  obtain ⟨l, hl⟩ : ∃ l, winF W H pix x y 1 1 k = l := ⟨_, rfl⟩
  rw [HVAL.out l hl]
  rw [hl] at HL9 HW1 HWL
  generalize atF W H pix x y k = v0 at *
  obtain ⟨m, hm⟩ : ∃ m, l.length = m := ⟨_, rfl⟩
  have HM := Lib.hid hm
  rw [hm] at HL9
  show Calls _ _ _ _ (DoP w (clampN (l.getD 8 0 - l.getD 0 0 + 32768) 65535 : Int))
  clear hm hlen hl HVAL HH hop hk3 hv0
  have HBX : Hid (Below w.heap.size w (w.alloc (.cells #[.int .i64 W, .int .i64 H, .slice P pn pc] 37))) := (Below.refl _ w).alloc (Nat.le_refl _) _
  have HRX : Hid ((w.alloc (.cells #[.int .i64 W, .int .i64 H, .slice P pn pc] 37)).heap[w.heap.size]? = some (.cells #[.int .i64 W, .int .i64 H, .slice P pn pc] 37 (0, 0))) := heap_alloc_new _ _
  go_enter Try.func38, Try.ntmps38
  go_wp2_with fail
  refine (HAT.out _ HBX.out).mono ?_
  rintro e w1 ⟨rfl, hb1⟩
  have HB1 : Hid (Below w.heap.size w w1) := HBX.out.trans (hb1.mono HBX.out.size)
  have R1 : Hid (w1.heap[w.heap.size]? = some (.cells #[.int .i64 W, .int .i64 H, .slice P pn pc] 37 (0, 0))) := row_tr HRX.out hb1
  obtain ⟨x0, x1, x2⟩ := img_cells R1.out
  clear hb1
  go_wp2_with fail
  refine (HW1.out _ HB1.out).mono ?_
  rintro e w2 ⟨A2, c2, rfl, hown2, hb2⟩
  have SL : Hid (SI w2 .i64 A2 l.length l) := SI.of_own hown2 (by rw [HM.out, HL9.out]; simp only [kb]; omega)
  have HB2 := Lib.hid (bel_tr HB1.out hb2)
  rw [HM.out] at SL ⊢
  have h9 := HL9.out
  clear hb2 hown2 x0 x1 x2 HRX R1
  obtain ⟨bl, ol, rfl, c0⟩ := si_at2 (i := 0) SL.out (by omega)
  rw [Nat.add_zero] at c0
  have c8 := si_at (A := none) (i := 8) SL.out (by omega)
  have r0 := getD_in HWL.out 0
  have r8 := getD_in HWL.out 8
  have i0 : (0 : Int) < (m : Int) := by omega
  have i8 : (8 : Int) < (m : Int) := by omega
  generalize l.getD 0 0 = x0 at *
  generalize l.getD 8 0 = x8 at *
  have p1 : wrap64 (x8 - x0) = x8 - x0 := IntWalk.wrap64_in _ (by omega)
  have p2 : wrap64 (x8 - x0 + 32768) = x8 - x0 + 32768 := IntWalk.wrap64_in _ (by omega)
  have HC : Hid (∀ V, Calls Try.prog 69 #[.int .i64 (x8 - x0 + 32768), .int .i64 65535] V fun e w' => e = .returned (.int .i64 (clampN (x8 - x0 + 32768) 65535 : Int)) ∧ V = w') := fun V => clamp_any (top := 65535) V
  clear h9 HL9 r0 r8
  go_wp2_with fail
  go_quiet (fail)
  go_wp2_with fail
  refine (HC.out _).mono ?_
  rintro e w3 ⟨rfl, rfl⟩
  go_wp2_with fail
  go_ret
  exact ⟨rfl, below_drewN HB2.out _⟩
set_option maxRecDepth 100000 in
set_option maxHeartbeats 4000000 in
theorem sample_2 {op : ByteArray} {A : Option Addr} {n c : Nat} {a : List Int} {P : Option Addr} {pn pc W H x y k : Nat} {pix : List Int} (w : World) (hk3 : k ≠ 3) (hop : op = nameF 2) (HS : SmpH w op A n a P pn pc W H 2 x y k pix) :
    Calls Try.prog 38 #[.string op, .slice A n c, .agg #[.int .i64 W, .int .i64 H, .slice P pn pc], .int .i64 x, .int .i64 y, .int .i64 k] w (DoP w (sampF 2 a W H pix x y k)) := by
  have HH := Lib.hid HS
  clear HS
  have n5 : (op.toList == [108, 101, 97, 115, 116]) = false := lit_is (j := 5) (by omega) (by omega) hop rfl
  have n6 : (op.toList == [109, 111, 115, 116]) = false := lit_is (j := 6) (by omega) (by omega) hop rfl
  have n7 : (op.toList == [109, 101, 100, 105, 97, 110]) = false := lit_is (j := 7) (by omega) (by omega) hop rfl
  have n1 : (op.toList == [98, 108, 117, 114]) = false := lit_is (j := 1) (by omega) (by omega) hop rfl
  have n8 : (op.toList == [108, 105, 110, 101, 115]) = false := lit_is (j := 8) (by omega) (by omega) hop rfl
  have n0 : (op.toList == [99, 111, 110, 118, 111, 108, 118, 101]) = false := lit_is (j := 0) (by omega) (by omega) hop rfl
  have n2 : (op.toList == [115, 104, 97, 114, 112, 101, 110]) = true := lit_is (j := 2) (by omega) (by omega) hop rfl
  have n3 : (op.toList == [101, 100, 103, 101]) = false := lit_is (j := 3) (by omega) (by omega) hop rfl
  have n4 : (op.toList == [101, 109, 98, 111, 115, 115]) = false := lit_is (j := 4) (by omega) (by omega) hop rfl
  have k3 : ((k : Int) == 3) = false := by simp; omega
  have hlen : (winF W H pix x y 1 1 k).length = 9 := by rw [winF_len]
  have HVAL : Hid (∀ l, winF W H pix x y 1 1 k = l → sampF 2 a W H pix x y k = (clampN (doF 2 a l (atF W H pix x y k)) 65535 : Int)) := fun l hl => by
    subst hl
    exact samp_clamp (i := 2) (fun h => hk3 h.1)
  have HWL := Lib.hid (HH.out.wv 1 1)
  have HL9 := Lib.hid hlen
  have HW1 : Hid (∀ V, Below w.heap.size w V → Calls Try.prog 64 #[.agg #[.int .i64 W, .int .i64 H, .slice P pn pc], .int .i64 x, .int .i64 y, .int .i64 1, .int .i64 1, .int .i64 k] V (NewI V (winF W H pix x y 1 1 k))) := fun V hV => HH.out.win V 1 1 hV (by omega) (by omega)
  have HAT := Lib.hid HH.out.at'
  have hv0 := HH.out.own
  obtain ⟨l, hl⟩ : ∃ l, winF W H pix x y 1 1 k = l := ⟨_, rfl⟩
  rw [HVAL.out l hl]
  rw [hl] at HL9 HW1 HWL
  generalize atF W H pix x y k = v0 at *
  obtain ⟨m, hm⟩ : ∃ m, l.length = m := ⟨_, rfl⟩
  have HM := Lib.hid hm
  rw [hm] at HL9
  show Calls _ _ _ _ (DoP w (clampN (v0 + (9 * v0 - sumK l l.length) * a.getD 0 0 / 16) 65535 : Int))
  have ha0 := HH.out.arg 0 (by simp [bndF])
  have hn1 : n = 1 := by rw [HH.out.len]; rfl
  have hb : 1 ≤ a.getD 0 0 ∧ a.getD 0 0 ≤ 8 := by simpa [bndF] using ha0
  obtain ⟨b, off, rfl, c0⟩ := si_at2 (i := 0) HH.out.si (by omega)
  rw [Nat.add_zero] at c0
  have hbb : b < w.heap.size := World.block_lt_of_cell? w _ c0
  subst hn1
  generalize a.getD 0 0 = a0 at *
  have HC0 : Hid (∀ V, Below w.heap.size w V → V.cell? ⟨b, off, none⟩ = some (.int .i64 a0)) := fun V hV => (hV.cell (p := ⟨b, off, none⟩) hbb).trans c0
  have hs := sumK_in HWL.out m
  have h9' := HL9.out
  rw [HM.out]
  have HSM : Hid (∀ V A2 c2, SI V .i64 A2 m l → Calls Try.prog 66 #[.slice A2 m c2] V fun e w' => e = .returned (.int .i64 (sumK l m)) ∧ V = w') := fun V A2 c2 hV => rsum_any V hV HWL.out (by omega)
  obtain ⟨s, hs2⟩ : ∃ s, sumK l m = s := ⟨_, rfl⟩
  rw [hs2] at hs HSM ⊢
  have HSS : Hid (0 ≤ s ∧ s ≤ 600000) := by show _ ∧ _; omega
  have HPP := Lib.hid (sharp_in hv0 hb HSS.out)
  rw [HPP.out.2.2.2.2.2.2.out]
  clear hs hs2 h9' hm hlen hl HVAL HH hop hk3 c0 ha0 hb hv0
  have HBX : Hid (Below w.heap.size w (w.alloc (.cells #[.int .i64 W, .int .i64 H, .slice P pn pc] 37))) := (Below.refl _ w).alloc (Nat.le_refl _) _
  have HRX : Hid ((w.alloc (.cells #[.int .i64 W, .int .i64 H, .slice P pn pc] 37)).heap[w.heap.size]? = some (.cells #[.int .i64 W, .int .i64 H, .slice P pn pc] 37 (0, 0))) := heap_alloc_new _ _
  go_enter Try.func38, Try.ntmps38
  go_wp2_with fail
  refine (HAT.out _ HBX.out).mono ?_
  rintro e w1 ⟨rfl, hb1⟩
  have HB1 : Hid (Below w.heap.size w w1) := HBX.out.trans (hb1.mono HBX.out.size)
  have R1 : Hid (w1.heap[w.heap.size]? = some (.cells #[.int .i64 W, .int .i64 H, .slice P pn pc] 37 (0, 0))) := row_tr HRX.out hb1
  obtain ⟨x0, x1, x2⟩ := img_cells R1.out
  clear hb1
  go_wp2_with fail
  refine (HW1.out _ HB1.out).mono ?_
  rintro e w2 ⟨A2, c2, rfl, hown2, hb2⟩
  have SL : Hid (SI w2 .i64 A2 l.length l) := SI.of_own hown2 (by rw [HM.out, HL9.out]; simp only [kb]; omega)
  have HB2 := Lib.hid (bel_tr HB1.out hb2)
  rw [HM.out] at SL ⊢
  have h9 := HL9.out
  clear hb2 hown2 x0 x1 x2 HRX R1
  have ca := HC0.out w2 HB2.out
  obtain ⟨p1, p2, p3, p4, p5, p6, -⟩ := HPP.out
  have HO : Hid (∀ V, Calls Try.prog 67 #[.int .i64 ((8 * v0 - (s - v0)) * a0), .int .i64 16] V fun e w' => e = .returned (.int .i64 ((8 * v0 - (s - v0)) * a0 / 16)) ∧ V = w') := fun V => rover_any V (by omega) p5.out
  have HC : Hid (∀ V, Calls Try.prog 69 #[.int .i64 (v0 + (8 * v0 - (s - v0)) * a0 / 16), .int .i64 65535] V fun e w' => e = .returned (.int .i64 (clampN (v0 + (8 * v0 - (s - v0)) * a0 / 16) 65535 : Int)) ∧ V = w') := fun V => clamp_any (top := 65535) V
  clear h9 HL9
  go_wp2_with fail
  go_quiet (first
    | (go_at_call 66; with_reducible exact Calls.quiet_of_same ((HSM.out _ _ _ (si_drewN SL.out _)).mono fun e w' h => ⟨h.1, h.2.symm⟩))
    | (go_at_call 67; with_reducible exact Calls.quiet_of_same ((HO.out _).mono fun e w' h => ⟨h.1, h.2.symm⟩)))
  go_wp2_with fail
  refine (HC.out _).mono ?_
  rintro e w3 ⟨rfl, rfl⟩
  go_wp2_with fail
  go_ret
  exact ⟨rfl, below_drewN HB2.out _⟩
set_option maxRecDepth 100000 in
set_option maxHeartbeats 4000000 in
theorem sample_3 {op : ByteArray} {A : Option Addr} {n c : Nat} {a : List Int} {P : Option Addr} {pn pc W H x y k : Nat} {pix : List Int} (w : World) (hk3 : k ≠ 3) (hop : op = nameF 3) (HS : SmpH w op A n a P pn pc W H 3 x y k pix) :
    Calls Try.prog 38 #[.string op, .slice A n c, .agg #[.int .i64 W, .int .i64 H, .slice P pn pc], .int .i64 x, .int .i64 y, .int .i64 k] w (DoP w (sampF 3 a W H pix x y k)) := by
  have HH := Lib.hid HS
  clear HS
  have n5 : (op.toList == [108, 101, 97, 115, 116]) = false := lit_is (j := 5) (by omega) (by omega) hop rfl
  have n6 : (op.toList == [109, 111, 115, 116]) = false := lit_is (j := 6) (by omega) (by omega) hop rfl
  have n7 : (op.toList == [109, 101, 100, 105, 97, 110]) = false := lit_is (j := 7) (by omega) (by omega) hop rfl
  have n1 : (op.toList == [98, 108, 117, 114]) = false := lit_is (j := 1) (by omega) (by omega) hop rfl
  have n8 : (op.toList == [108, 105, 110, 101, 115]) = false := lit_is (j := 8) (by omega) (by omega) hop rfl
  have n0 : (op.toList == [99, 111, 110, 118, 111, 108, 118, 101]) = false := lit_is (j := 0) (by omega) (by omega) hop rfl
  have n2 : (op.toList == [115, 104, 97, 114, 112, 101, 110]) = false := lit_is (j := 2) (by omega) (by omega) hop rfl
  have n3 : (op.toList == [101, 100, 103, 101]) = true := lit_is (j := 3) (by omega) (by omega) hop rfl
  have n4 : (op.toList == [101, 109, 98, 111, 115, 115]) = false := lit_is (j := 4) (by omega) (by omega) hop rfl
  have k3 : ((k : Int) == 3) = false := by simp; omega
  have hlen : (winF W H pix x y 1 1 k).length = 9 := by rw [winF_len]
  have HVAL : Hid (∀ l, winF W H pix x y 1 1 k = l → sampF 3 a W H pix x y k = (clampN (doF 3 a l (atF W H pix x y k)) 65535 : Int)) := fun l hl => by
    subst hl
    exact samp_clamp (i := 3) (fun h => hk3 h.1)
  have HWL := Lib.hid (HH.out.wv 1 1)
  have HL9 := Lib.hid hlen
  have HW1 : Hid (∀ V, Below w.heap.size w V → Calls Try.prog 64 #[.agg #[.int .i64 W, .int .i64 H, .slice P pn pc], .int .i64 x, .int .i64 y, .int .i64 1, .int .i64 1, .int .i64 k] V (NewI V (winF W H pix x y 1 1 k))) := fun V hV => HH.out.win V 1 1 hV (by omega) (by omega)
  have HAT := Lib.hid HH.out.at'
  have hv0 := HH.out.own
  obtain ⟨l, hl⟩ : ∃ l, winF W H pix x y 1 1 k = l := ⟨_, rfl⟩
  rw [HVAL.out l hl]
  rw [hl] at HL9 HW1 HWL
  generalize atF W H pix x y k = v0 at *
  obtain ⟨m, hm⟩ : ∃ m, l.length = m := ⟨_, rfl⟩
  have HM := Lib.hid hm
  rw [hm] at HL9
  show Calls _ _ _ _ (DoP w (clampN (absF (edge1 l) + absF (edge2 l)) 65535 : Int))
  obtain ⟨ep, hep⟩ : ∃ e, edge1 l = e := ⟨_, rfl⟩
  obtain ⟨eq, heq⟩ : ∃ e, edge2 l = e := ⟨_, rfl⟩
  rw [hep, heq]
  have HEP := Lib.hid hep
  have HEQ := Lib.hid heq
  clear hep heq hm hlen hl HVAL HH hop hk3 hv0
  have HBX : Hid (Below w.heap.size w (w.alloc (.cells #[.int .i64 W, .int .i64 H, .slice P pn pc] 37))) := (Below.refl _ w).alloc (Nat.le_refl _) _
  have HRX : Hid ((w.alloc (.cells #[.int .i64 W, .int .i64 H, .slice P pn pc] 37)).heap[w.heap.size]? = some (.cells #[.int .i64 W, .int .i64 H, .slice P pn pc] 37 (0, 0))) := heap_alloc_new _ _
  go_enter Try.func38, Try.ntmps38
  go_wp2_with fail
  refine (HAT.out _ HBX.out).mono ?_
  rintro e w1 ⟨rfl, hb1⟩
  have HB1 : Hid (Below w.heap.size w w1) := HBX.out.trans (hb1.mono HBX.out.size)
  have R1 : Hid (w1.heap[w.heap.size]? = some (.cells #[.int .i64 W, .int .i64 H, .slice P pn pc] 37 (0, 0))) := row_tr HRX.out hb1
  obtain ⟨x0, x1, x2⟩ := img_cells R1.out
  clear hb1
  go_wp2_with fail
  refine (HW1.out _ HB1.out).mono ?_
  rintro e w2 ⟨A2, c2, rfl, hown2, hb2⟩
  have SL : Hid (SI w2 .i64 A2 l.length l) := SI.of_own hown2 (by rw [HM.out, HL9.out]; simp only [kb]; omega)
  have HB2 := Lib.hid (bel_tr HB1.out hb2)
  rw [HM.out] at SL ⊢
  have h9 := HL9.out
  clear hb2 hown2 x0 x1 x2 HRX R1
  have hep := HEP.out
  have heq := HEQ.out
  unfold edge1 at hep
  unfold edge2 at heq
  clear HEP HEQ
  obtain ⟨bl, ol, rfl, c0⟩ := si_at2 (i := 0) SL.out (by omega)
  rw [Nat.add_zero] at c0
  have c1 := si_at (A := none) (i := 1) SL.out (by omega)
  have c2 := si_at (A := none) (i := 2) SL.out (by omega)
  have c3 := si_at (A := none) (i := 3) SL.out (by omega)
  have c5 := si_at (A := none) (i := 5) SL.out (by omega)
  have c6 := si_at (A := none) (i := 6) SL.out (by omega)
  have c7 := si_at (A := none) (i := 7) SL.out (by omega)
  have c8 := si_at (A := none) (i := 8) SL.out (by omega)
  have r0 := getD_in HWL.out 0
  have r1 := getD_in HWL.out 1
  have r2 := getD_in HWL.out 2
  have r3 := getD_in HWL.out 3
  have r5 := getD_in HWL.out 5
  have r6 := getD_in HWL.out 6
  have r7 := getD_in HWL.out 7
  have r8 := getD_in HWL.out 8
  have i0 : (0 : Int) < (m : Int) := by omega
  have i1 : (1 : Int) < (m : Int) := by omega
  have i2 : (2 : Int) < (m : Int) := by omega
  have i3 : (3 : Int) < (m : Int) := by omega
  have i5 : (5 : Int) < (m : Int) := by omega
  have i6 : (6 : Int) < (m : Int) := by omega
  have i7 : (7 : Int) < (m : Int) := by omega
  have i8 : (8 : Int) < (m : Int) := by omega
  generalize l.getD 0 0 = x0 at *
  generalize l.getD 1 0 = x1 at *
  generalize l.getD 2 0 = x2 at *
  generalize l.getD 3 0 = x3 at *
  generalize l.getD 5 0 = x5 at *
  generalize l.getD 6 0 = x6 at *
  generalize l.getD 7 0 = x7 at *
  generalize l.getD 8 0 = x8 at *
  have p1 : wrap64 (x2 - x0) = x2 - x0 := IntWalk.wrap64_in _ (by omega)
  have p2 : wrap64 (x5 - x3) = x5 - x3 := IntWalk.wrap64_in _ (by omega)
  have p3 : wrap64 (2 * (x5 - x3)) = 2 * (x5 - x3) := IntWalk.wrap64_in _ (by omega)
  have p4 : wrap64 (x2 - x0 + 2 * (x5 - x3)) = x2 - x0 + 2 * (x5 - x3) := IntWalk.wrap64_in _ (by omega)
  have p5 : wrap64 (x2 - x0 + 2 * (x5 - x3) + x8) = x2 - x0 + 2 * (x5 - x3) + x8 := IntWalk.wrap64_in _ (by omega)
  have p6 : wrap64 (x2 - x0 + 2 * (x5 - x3) + x8 - x6) = x2 - x0 + 2 * (x5 - x3) + x8 - x6 := IntWalk.wrap64_in _ (by omega)
  have q1 : wrap64 (x6 - x0) = x6 - x0 := IntWalk.wrap64_in _ (by omega)
  have q2 : wrap64 (x7 - x1) = x7 - x1 := IntWalk.wrap64_in _ (by omega)
  have q3 : wrap64 (2 * (x7 - x1)) = 2 * (x7 - x1) := IntWalk.wrap64_in _ (by omega)
  have q4 : wrap64 (x6 - x0 + 2 * (x7 - x1)) = x6 - x0 + 2 * (x7 - x1) := IntWalk.wrap64_in _ (by omega)
  have q5 : wrap64 (x6 - x0 + 2 * (x7 - x1) + x8) = x6 - x0 + 2 * (x7 - x1) + x8 := IntWalk.wrap64_in _ (by omega)
  have q6 : wrap64 (x6 - x0 + 2 * (x7 - x1) + x8 - x2) = x6 - x0 + 2 * (x7 - x1) + x8 - x2 := IntWalk.wrap64_in _ (by omega)
  have hep1 : x2 - x0 + 2 * (x5 - x3) + x8 - x6 = ep := by clear p1 p2 p3 p4 p5 p6 q1 q2 q3 q4 q5 q6; omega
  have heq1 : x6 - x0 + 2 * (x7 - x1) + x8 - x2 = eq := by clear p1 p2 p3 p4 p5 p6 q1 q2 q3 q4 q5 q6; omega
  have hE : (-900000 ≤ ep ∧ ep ≤ 900000) ∧ (-900000 ≤ eq ∧ eq ≤ 900000) := by clear p1 p2 p3 p4 p5 p6 q1 q2 q3 q4 q5 q6; omega
  have p7 := p6.trans hep1
  have q7 := q6.trans heq1
  clear p6 q6
  have HA1 : Hid (∀ V, Calls Try.prog 68 #[.int .i64 ep] V fun e w' => e = .returned (.int .i64 (absF ep)) ∧ V = w') := fun V => size_any V (by omega)
  have HA2 : Hid (∀ V, Calls Try.prog 68 #[.int .i64 eq] V fun e w' => e = .returned (.int .i64 (absF eq)) ∧ V = w') := fun V => size_any V (by omega)
  have q8 : wrap64 (absF ep + absF eq) = absF ep + absF eq := IntWalk.wrap64_in _ (abs_sum hE.1 hE.2)
  have HC : Hid (∀ V, Calls Try.prog 69 #[.int .i64 (absF ep + absF eq), .int .i64 65535] V fun e w' => e = .returned (.int .i64 (clampN (absF ep + absF eq) 65535 : Int)) ∧ V = w') := fun V => clamp_any (top := 65535) V
  clear h9 HL9 r0 r1 r2 r3 r5 r6 r7 r8 hep heq hep1 heq1 hE
  go_wp2_with fail
  go_quiet (fail)
  go_wp2_with fail
  go_quiet (fail)
  go_wp2_with fail
  refine (HA1.out _).mono ?_
  rintro e w3 ⟨rfl, rfl⟩
  go_wp2_with fail
  refine (HA2.out _).mono ?_
  rintro e w4 ⟨rfl, rfl⟩
  go_wp2_with fail
  refine (HC.out _).mono ?_
  rintro e w3 ⟨rfl, rfl⟩
  go_wp2_with fail
  go_ret
  exact ⟨rfl, by first | exact below_drewN HB2.out _ | exact below_drewN (below_drewN HB2.out _) _⟩
set_option maxRecDepth 100000 in
set_option maxHeartbeats 4000000 in
theorem sample_0 {op : ByteArray} {A : Option Addr} {n c : Nat} {a : List Int} {P : Option Addr} {pn pc W H x y k : Nat} {pix : List Int} (w : World) (hk3 : k ≠ 3) (hop : op = nameF 0) (HS : SmpH w op A n a P pn pc W H 0 x y k pix) :
    Calls Try.prog 38 #[.string op, .slice A n c, .agg #[.int .i64 W, .int .i64 H, .slice P pn pc], .int .i64 x, .int .i64 y, .int .i64 k] w (DoP w (sampF 0 a W H pix x y k)) := by
  have HH := Lib.hid HS
  clear HS
  have n5 : (op.toList == [108, 101, 97, 115, 116]) = false := lit_is (j := 5) (by omega) (by omega) hop rfl
  have n6 : (op.toList == [109, 111, 115, 116]) = false := lit_is (j := 6) (by omega) (by omega) hop rfl
  have n7 : (op.toList == [109, 101, 100, 105, 97, 110]) = false := lit_is (j := 7) (by omega) (by omega) hop rfl
  have n1 : (op.toList == [98, 108, 117, 114]) = false := lit_is (j := 1) (by omega) (by omega) hop rfl
  have n8 : (op.toList == [108, 105, 110, 101, 115]) = false := lit_is (j := 8) (by omega) (by omega) hop rfl
  have n0 : (op.toList == [99, 111, 110, 118, 111, 108, 118, 101]) = true := lit_is (j := 0) (by omega) (by omega) hop rfl
  have n2 : (op.toList == [115, 104, 97, 114, 112, 101, 110]) = false := lit_is (j := 2) (by omega) (by omega) hop rfl
  have n3 : (op.toList == [101, 100, 103, 101]) = false := lit_is (j := 3) (by omega) (by omega) hop rfl
  have n4 : (op.toList == [101, 109, 98, 111, 115, 115]) = false := lit_is (j := 4) (by omega) (by omega) hop rfl
  have k3 : ((k : Int) == 3) = false := by simp; omega
  have hlen : (winF W H pix x y 1 1 k).length = 9 := by rw [winF_len]
  have HVAL : Hid (∀ l, winF W H pix x y 1 1 k = l → sampF 0 a W H pix x y k = (clampN (doF 0 a l (atF W H pix x y k)) 65535 : Int)) := fun l hl => by
    subst hl
    exact samp_clamp (i := 0) (fun h => hk3 h.1)
  have HWL := Lib.hid (HH.out.wv 1 1)
  have HL9 := Lib.hid hlen
  have HW1 : Hid (∀ V, Below w.heap.size w V → Calls Try.prog 64 #[.agg #[.int .i64 W, .int .i64 H, .slice P pn pc], .int .i64 x, .int .i64 y, .int .i64 1, .int .i64 1, .int .i64 k] V (NewI V (winF W H pix x y 1 1 k))) := fun V hV => HH.out.win V 1 1 hV (by omega) (by omega)
  have HAT := Lib.hid HH.out.at'
  have hv0 := HH.out.own
  obtain ⟨l, hl⟩ : ∃ l, winF W H pix x y 1 1 k = l := ⟨_, rfl⟩
  rw [HVAL.out l hl]
  rw [hl] at HL9 HW1 HWL
  generalize atF W H pix x y k = v0 at *
  obtain ⟨m, hm⟩ : ∃ m, l.length = m := ⟨_, rfl⟩
  have HM := Lib.hid hm
  rw [hm] at HL9
  show Calls _ _ _ _ (DoP w (clampN (dotK a l 9 / a.getD 9 0 + a.getD 10 0) 65535 : Int))
  have ha : ∀ i, i < 9 → -1024 ≤ a.getD i 0 ∧ a.getD i 0 ≤ 1024 := conv_args HH.out.arg
  have h9 := HH.out.arg 9 (by simp [bndF])
  have h10 := HH.out.arg 10 (by simp [bndF])
  have hb9 : 1 ≤ a.getD 9 0 ∧ a.getD 9 0 ≤ 65535 := by simpa [bndF] using h9
  have hb10 : -65535 ≤ a.getD 10 0 ∧ a.getD 10 0 ≤ 65535 := by simpa [bndF] using h10
  have hn1 : n = 11 := by rw [HH.out.len]; rfl
  have HSI := Lib.hid HH.out.si
  have HHA := Lib.hid ha
  have HB9 := Lib.hid hb9
  have HB10 := Lib.hid hb10
  have HN := Lib.hid hn1
  clear hm hlen hl HVAL HH hop hk3 ha hb9 hb10 hn1 h9 h10 hv0
  have HBX : Hid (Below w.heap.size w (w.alloc (.cells #[.int .i64 W, .int .i64 H, .slice P pn pc] 37))) := (Below.refl _ w).alloc (Nat.le_refl _) _
  have HRX : Hid ((w.alloc (.cells #[.int .i64 W, .int .i64 H, .slice P pn pc] 37)).heap[w.heap.size]? = some (.cells #[.int .i64 W, .int .i64 H, .slice P pn pc] 37 (0, 0))) := heap_alloc_new _ _
  go_enter Try.func38, Try.ntmps38
  go_wp2_with fail
  refine (HAT.out _ HBX.out).mono ?_
  rintro e w1 ⟨rfl, hb1⟩
  have HB1 : Hid (Below w.heap.size w w1) := HBX.out.trans (hb1.mono HBX.out.size)
  have R1 : Hid (w1.heap[w.heap.size]? = some (.cells #[.int .i64 W, .int .i64 H, .slice P pn pc] 37 (0, 0))) := row_tr HRX.out hb1
  obtain ⟨x0, x1, x2⟩ := img_cells R1.out
  clear hb1
  go_wp2_with fail
  refine (HW1.out _ HB1.out).mono ?_
  rintro e w2 ⟨A2, c2, rfl, hown2, hb2⟩
  have SL : Hid (SI w2 .i64 A2 l.length l) := SI.of_own hown2 (by rw [HM.out, HL9.out]; simp only [kb]; omega)
  have HB2 := Lib.hid (bel_tr HB1.out hb2)
  rw [HM.out] at SL ⊢
  have h9 := HL9.out
  clear hb2 hown2 x0 x1 x2 HRX R1
  have HS2 : Hid (SI w2 .i64 A n a) := si_tr HSI.out HB2.out
  obtain ⟨ba, oa, rfl, c9⟩ := si_at2 (i := 9) HS2.out (by have := HN.out; omega)
  have c10 := si_at (A := none) (i := 10) HS2.out (by have := HN.out; omega)
  obtain ⟨bb, ob, rfl, -⟩ := si_at2 (i := 0) SL.out (by omega)
  have HD := Lib.hid (dotK_in HHA.out HWL.out)
  have HP : Hid (∀ i, i < 9 → -70000000 ≤ a.getD i 0 * l.getD i 0 ∧ a.getD i 0 * l.getD i 0 ≤ 70000000) := fun i hi => prod_in (HHA.out i hi) (getD_in HWL.out i)
  obtain ⟨q1, q2⟩ := conv_in (HD.out 9 (by omega)) HB9.out HB10.out
  have HO : Hid (∀ V, Calls Try.prog 67 #[.int .i64 (dotK a l 9), .int .i64 (a.getD 9 0)] V fun e w' => e = .returned (.int .i64 (dotK a l 9 / a.getD 9 0)) ∧ V = w') := fun V => rover_any V (by have := HB9.out; omega) (by have := HD.out 9 (by omega); omega)
  have HC : Hid (∀ V, Calls Try.prog 69 #[.int .i64 (dotK a l 9 / a.getD 9 0 + a.getD 10 0), .int .i64 65535] V fun e w' => e = .returned (.int .i64 (clampN (dotK a l 9 / a.getD 9 0 + a.getD 10 0) 65535 : Int)) ∧ V = w') := fun V => clamp_any (top := 65535) V
  have HQ := Lib.hid q2
  have g9 : (9 : Int) < (n : Int) := by have := HN.out; omega
  have g10 : (10 : Int) < (n : Int) := by have := HN.out; omega
  have g0 : (0 : Int) ≤ 9 := by omega
  generalize a.getD 9 0 = a9 at *
  generalize a.getD 10 0 = a10 at *
  clear q1 q2 h9 HB9 HB10 HHA
  go_wp2_with fail
  go_loopw [18, 19] (fun s18 s19 wr => ∃ j q : Nat, j ≤ 9 ∧ s19 = .int .i64 j ∧ s18 = .int .i64 (dotK a l j) ∧ w2.drewN q = wr) (fun _ s19 _ => 9 - (intOf s19).toNat)
  case atStart => exact ⟨0, 0, by omega, rfl, rfl, rfl⟩
  case round =>
    obtain ⟨j, q, hj, rfl, rfl, rfl⟩ := hrel
    by_cases hlt : j < 9
    · have l0 : decide ((j : Int) < 9) = true := decide_eq_true (by omega)
      have cj := si_at (A := none) (i := j) HS2.out (by have := HN.out; omega)
      have cl := si_at (A := none) (i := j) SL.out (by have := HL9.out; omega)
      have hkm : (j : Int) < (m : Int) := by have := HL9.out; omega
      have hkn : (j : Int) < (n : Int) := by have := HN.out; omega
      have hk0 : (0 : Int) ≤ (j : Int) := by omega
      have hp := HP.out j hlt
      have h1 := HD.out j (by omega)
      have w1 : wrap64 (a.getD j 0 * l.getD j 0) = a.getD j 0 * l.getD j 0 := IntWalk.wrap64_in _ (by omega)
      have w2' : wrap64 (dotK a l j + a.getD j 0 * l.getD j 0) = dotK a l j + a.getD j 0 * l.getD j 0 := IntWalk.wrap64_in _ (by clear w1; omega)
      have HS : Hid (dotK a l (j + 1) = dotK a l j + a.getD j 0 * l.getD j 0) := rfl
      have HWJ : Hid (wrap64 ((j : Int) + 1) = ((j + 1 : Nat) : Int)) := by show _ = _; rw [IntWalk.wrap64_in _ (by clear w1 w2'; omega)]; rfl
      generalize a.getD j 0 = aj at *
      generalize l.getD j 0 = yj at *
      clear hp h1
      go_wp2_with fail
      go_quiet (fail)
      go_wp2_with fail
      go_roundw
      case rel => exact ⟨j + 1, q + nq, hlt, by first | rw [HWJ.out] | rfl, by first | rw [HS.out, w2'] | rw [HS.out], by first | rfl | rw [World.drewN_drewN]⟩
      case measure => first | (rw [HWJ.out]; exact meas_lt9 hlt) | exact meas_lt9 hlt
    · obtain rfl : j = 9 := by omega
      have l0 : decide ((9 : Int) < 9) = false := by simp
      simp only [Int.cast_ofNat_Int]
      generalize dotK a l 9 = z at *
      have HBQ : Hid (Below w.heap.size w (w2.drewN q)) := below_drewN HB2.out _
      have b9 : (w2.drewN q).cell? ⟨ba, oa + 9, none⟩ = some (.int .i64 a9) := ((below_drewN (Below.refl w2.heap.size w2) q).cell (p := ⟨ba, oa + 9, none⟩) (World.block_lt_of_cell? w2 _ c9)).trans c9
      have b10 : (w2.drewN q).cell? ⟨ba, oa + 10, none⟩ = some (.int .i64 a10) := ((below_drewN (Below.refl w2.heap.size w2) q).cell (p := ⟨ba, oa + 10, none⟩) (World.block_lt_of_cell? w2 _ c10)).trans c10
      obtain ⟨wq, hwq⟩ : ∃ v, w2.drewN q = v := ⟨_, rfl⟩
      rw [hwq] at HBQ b9 b10 ⊢
      clear hwq c9 c10
      go_wp2_with fail
      go_quiet ((go_at_call 67; exact Calls.quiet_of_same ((HO.out _).mono fun e w' h => ⟨h.1, h.2.symm⟩)))
      go_wp2_with fail
      refine ((by rw [HQ.out]; exact HC.out _) : Calls _ _ _ _ _).mono ?_
      rintro e w3 ⟨rfl, rfl⟩
      go_wp2_with fail
      go_ret
      exact ⟨rfl, below_drewN HBQ.out _⟩
--<cases
end Go.Proofs.Ytogmlcgiajigfaa.Ard
