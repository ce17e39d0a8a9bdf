/-
  Walks: the reference's sample.
-/
import Derived.Test.YtogmlcgiajigfaaAroR
import Derived.Test.YtogmlcgiajigfaaAroG
import Derived.Test.YtogmlcgiajigfaaArdF
import Derived.Test.YtogmlcgiajigfaaGot
import Derived.Test.YtogmlcgiajigfaaArdT
import Derived.Deep.RegionHeld3
import Derived.BigQuiet
set_option linter.unusedVariables false
set_option linter.unusedSimpArgs false
namespace Go.Proofs.Ytogmlcgiajigfaa.Ard
open Go.RowKit K

theorem samp_raw {i W H x y k : Nat} {a pix : List Int} (h : ¬ (k = 3 ∧ alphaF i = false)) (hin : 0 ≤ doF i a (winF W H pix x y (rxF i a).toNat (ryF i a).toNat k) (atF W H pix x y k) ∧ doF i a (winF W H pix x y (rxF i a).toNat (ryF i a).toNat k) (atF W H pix x y k) < 65536) :
    sampF i a W H pix x y k = doF i a (winF W H pix x y (rxF i a).toNat (ryF i a).toNat k) (atF W H pix x y k) := by
  unfold sampF
  rw [if_neg h, clampN_in hin.1 (by omega)]
theorem samp_clamp {i W H x y k : Nat} {a pix : List Int} (h : ¬ (k = 3 ∧ alphaF i = false)) :
    sampF i a W H pix x y k = (clampN (doF i a (winF W H pix x y (rxF i a).toNat (ryF i a).toNat k) (atF W H pix x y k)) 65535 : Int) := by unfold sampF; rw [if_neg h]
theorem minK_in {l : List Int} (hw : ∀ v ∈ l, 0 ≤ v ∧ v < 65536) (h0 : 0 < l.length) : ∀ k, k + 1 ≤ l.length → 0 ≤ minK l (k + 1) ∧ minK l (k + 1) < 65536 ∧ 0 ≤ maxK l (k + 1) ∧ maxK l (k + 1) < 65536 := by
  intro k
  induction k with
  | zero => intro _; rw [minK_one h0, maxK_one h0]; have := getD_in hw 0; omega
  | succ k ih =>
    intro hk
    have h1 := ih (by omega)
    have h2 : l[k + 1]? = some l[k + 1] := List.getElem?_eq_getElem (by omega)
    have h3 := hw _ (List.mem_of_getElem? h2)
    rw [minK_succ h2, maxK_succ h2]
    omega
theorem mean_in {l : List Int} (hw : ∀ v ∈ l, 0 ≤ v ∧ v < 65536) (h0 : 0 < l.length) : 0 ≤ (sumK l l.length + (l.length : Int) / 2) / l.length ∧ (sumK l l.length + (l.length : Int) / 2) / l.length < 65536 := by
  have hs := sumK_in hw l.length
  generalize sumK l l.length = s at *
  generalize l.length = m at *
  refine ⟨Int.ediv_nonneg (by omega) (by omega), ?_⟩
  exact Int.ediv_lt_of_lt_mul (by omega) (by omega)
theorem doF_in {i : Nat} {a l : List Int} {own : Int} (hw : ∀ v ∈ l, 0 ≤ v ∧ v < 65536) (h0 : 0 < l.length) (hi : i = 1 ∨ i = 5 ∨ i = 6 ∨ i = 7 ∨ i = 8) : 0 ≤ doF i a l own ∧ doF i a l own < 65536 := by
  have h1 := minK_in hw h0 (l.length - 1) (by omega)
  rw [Nat.sub_add_cancel h0] at h1
  have h2 := mean_in hw h0
  have h3 := hw _ (med_mem h0)
  rcases hi with rfl | rfl | rfl | rfl | rfl
  · exact h2
  · exact ⟨h1.1, h1.2.1⟩
  · exact h1.2.2
  · exact h3
  · exact h2
section
variable {op : ByteArray} {A : Option Addr} {n c : Nat} {a : List Int} {P : Option Addr} {pn pc W H i x y k : Nat} {pix : List Int}
/-- what the walks of sample know -/
structure SmpH (w : World) (op : ByteArray) (A : Option Addr) (n : Nat) (a : List Int) (P : Option Addr) (pn pc W H i x y k : Nat) (pix : List Int) : Prop where
  at' : ∀ V, Below w.heap.size w V → Calls Try.prog 62 #[.agg #[.int .i64 W, .int .i64 H, .slice P pn pc], .int .i64 x, .int .i64 y, .int .i64 k] V (DoP V (atF W H pix x y k))
  win : ∀ V (u v : Int), Below w.heap.size w V → 0 ≤ u ∧ u ≤ 8 → 0 ≤ v ∧ v ≤ 8 → Calls Try.prog 64 #[.agg #[.int .i64 W, .int .i64 H, .slice P pn pc], .int .i64 x, .int .i64 y, .int .i64 u, .int .i64 v, .int .i64 k] V (NewI V (winF W H pix x y u.toNat v.toNat k))
  wv : ∀ u v : Nat, ∀ z ∈ winF W H pix x y u v k, 0 ≤ z ∧ z < 65536
  len : n = (bndF i).length
  arg : ∀ j, j < (bndF i).length → ((bndF i).getD j (0, 0)).1 ≤ a.getD j 0 ∧ a.getD j 0 ≤ ((bndF i).getD j (0, 0)).2
  si : SI w .i64 A n a
  own : 0 ≤ atF W H pix x y k ∧ atF W H pix x y k < 65536
theorem smpH_of (w : World) (hf : fitsB (bndF i) a = true) (HA : SI w .i64 A n a) (HP : SI w .u16 P pn pix) (hwv : ∀ v ∈ pix, 0 ≤ v ∧ v < 65536) (hW : 1 ≤ W ∧ W ≤ 4096) (hH : 1 ≤ H ∧ H ≤ 4096) (hp : pn = 4 * W * H) (hx : x < W) (hy : y < H) (hk : k < 4) :
    SmpH w op A n a P pn pc W H i x y k pix := by
  obtain ⟨h1, h2⟩ := fits_at hf
  refine ⟨fun V hV => at_any V (HP.below hV (Nat.le_refl _)) hwv (by omega) (by omega) hp hk, fun V u v hV hu hv => ?_, fun u v z hz => winF_in hwv z hz, by rw [← HA.len, h1], h2, HA, atF_in hwv⟩
  obtain ⟨u, rfl⟩ := Int.eq_ofNat_of_zero_le hu.1
  obtain ⟨v, rfl⟩ := Int.eq_ofNat_of_zero_le hv.1
  exact rwin_any V (HP.below hV (Nat.le_refl _)) hwv (by omega) (by omega) hp hk (by omega) (by omega) (by omega) (by omega)
end
theorem lit_is {op : ByteArray} {i j : Nat} {b : Bool} (hi : i < 9) (hj : j < 9) (h : op = nameF i) (hb : (i == j) = b) : (op.toList == litF j) = b := by rw [name_beq hi hj h, hb]
theorem own_some {w : World} {base e n c : Nat} {A : Option Addr} {xs : List Value} (h : w.ownsRow base e 1 (.slice A n c) n xs) (h0 : 0 < n) : ∃ g, A = some ⟨g, 0, none⟩ := by
  rcases h.2 with ⟨hv, hx⟩ | ⟨g, cap, cur, hv, -⟩
  · have := h.1; subst hx; simp at this; omega
  · injection hv with e1; exact ⟨g, e1⟩
--cases>
set_option maxRecDepth 100000 in
set_option maxHeartbeats 4000000 in
theorem sample_k3 {op : ByteArray} {A : Option Addr} {n c : Nat} {a : List Int} {P : Option Addr} {pn pc W H i x y k : Nat} {pix : List Int} (w : World) (hi : i < 9) (hal : alphaF i = false) (hk : k = 3) (hop : op = nameF i) (HS : SmpH w op A n a P pn pc W H i x y k pix) :
    Calls Try.prog 38 #[.string op, .slice A n c, .agg #[.int .i64 W, .int .i64 H, .slice P pn pc], .int .i64 x, .int .i64 y, .int .i64 k] w (DoP w (sampF i a W H pix x y k)) := by
  have HH := Lib.hid HS
  clear HS
  have n5 : (op.toList == [108, 101, 97, 115, 116]) = false := lit_is (j := 5) hi (by omega) hop (by simp; rintro rfl; simp [alphaF] at hal)
  have n6 : (op.toList == [109, 111, 115, 116]) = false := lit_is (j := 6) hi (by omega) hop (by simp; rintro rfl; simp [alphaF] at hal)
  have n7 : (op.toList == [109, 101, 100, 105, 97, 110]) = false := lit_is (j := 7) hi (by omega) hop (by simp; rintro rfl; simp [alphaF] at hal)
  have hval : sampF i a W H pix x y k = atF W H pix x y k := by unfold sampF; rw [if_pos ⟨hk, hal⟩]
  rw [hval]
  have HAT := Lib.hid HH.out.at'
  generalize atF W H pix x y k = v0 at *
  have k3 : ((k : Int) == 3) = true := by simp; omega
  clear hop hk hal hi hval HH
  have HBX : Hid (Below w.heap.size w (w.alloc (.cells #[.int .i64 W, .int .i64 H, .slice P pn pc] 37))) := (Below.refl _ w).alloc (Nat.le_refl _) _
  have HRX : Hid ((w.alloc (.cells #[.int .i64 W, .int .i64 H, .slice P pn pc] 37)).heap[w.heap.size]? = some (.cells #[.int .i64 W, .int .i64 H, .slice P pn pc] 37 (0, 0))) := heap_alloc_new _ _
  go_enter Try.func38, Try.ntmps38
  go_wp2_with fail
  refine (HAT.out _ HBX.out).mono ?_
  rintro e w1 ⟨rfl, hb1⟩
  have HB1 : Hid (Below w.heap.size w w1) := HBX.out.trans (hb1.mono HBX.out.size)
  have R1 : Hid (w1.heap[w.heap.size]? = some (.cells #[.int .i64 W, .int .i64 H, .slice P pn pc] 37 (0, 0))) := row_tr HRX.out hb1
  obtain ⟨x0, x1, x2⟩ := img_cells R1.out
  clear hb1
  go_wp2_with fail
  go_ret
  exact ⟨rfl, HB1.out⟩
set_option maxRecDepth 100000 in
set_option maxHeartbeats 4000000 in
theorem sample_5 {op : ByteArray} {A : Option Addr} {n c : Nat} {a : List Int} {P : Option Addr} {pn pc W H x y k : Nat} {pix : List Int} (w : World) (hop : op = nameF 5) (HS : SmpH w op A n a P pn pc W H 5 x y k pix) :
    Calls Try.prog 38 #[.string op, .slice A n c, .agg #[.int .i64 W, .int .i64 H, .slice P pn pc], .int .i64 x, .int .i64 y, .int .i64 k] w (DoP w (sampF 5 a W H pix x y k)) := by
  have HH := Lib.hid HS
  clear HS
  have n5 : (op.toList == [108, 101, 97, 115, 116]) = true := lit_is (j := 5) (by omega) (by omega) hop rfl
  have n6 : (op.toList == [109, 111, 115, 116]) = false := lit_is (j := 6) (by omega) (by omega) hop rfl
  have n7 : (op.toList == [109, 101, 100, 105, 97, 110]) = false := lit_is (j := 7) (by omega) (by omega) hop rfl
  have ha0 := HH.out.arg 0 (by simp [bndF])
  have hn1 : n = 1 := by rw [HH.out.len]; rfl
  have hb : 1 ≤ a.getD 0 0 ∧ a.getD 0 0 ≤ 8 := by simpa [bndF] using ha0
  have hb1 : 0 ≤ a.getD 0 0 ∧ a.getD 0 0 ≤ 8 := by omega
  have hlen : 0 < (winF W H pix x y (a.getD 0 0).toNat (a.getD 0 0).toNat k).length := win_pos _ _ _ _ _ _ _ _
  have hlen2 : (winF W H pix x y (a.getD 0 0).toNat (a.getD 0 0).toNat k).length ≤ 400 := by
    rw [winF_len]
    exact Nat.le_trans (Nat.mul_le_mul (show 2 * (a.getD 0 0).toNat + 1 ≤ 17 by omega) (show 2 * (a.getD 0 0).toNat + 1 ≤ 17 by omega)) (by omega)
  have HVAL : Hid (∀ l, winF W H pix x y (a.getD 0 0).toNat (a.getD 0 0).toNat k = l → sampF 5 a W H pix x y k = minK l l.length) := fun l hl => by
    subst hl
    exact samp_raw (i := 5) (by simp [alphaF]) (doF_in (i := 5) (HH.out.wv _ _) (win_pos _ _ _ _ _ _ _ _) (by omega))
  have HWL := Lib.hid (HH.out.wv (a.getD 0 0).toNat (a.getD 0 0).toNat)
  have HLE := Lib.hid hlen
  have HLE2 := Lib.hid hlen2
  have HW1 : Hid (∀ V, Below w.heap.size w V → Calls Try.prog 64 #[.agg #[.int .i64 W, .int .i64 H, .slice P pn pc], .int .i64 x, .int .i64 y, .int .i64 (a.getD 0 0), .int .i64 (a.getD 0 0), .int .i64 k] V (NewI V (winF W H pix x y (a.getD 0 0).toNat (a.getD 0 0).toNat k))) := fun V hV => HH.out.win V _ _ hV hb1 hb1
  have HAT := Lib.hid HH.out.at'
  obtain ⟨l, hl⟩ : ∃ l, winF W H pix x y (a.getD 0 0).toNat (a.getD 0 0).toNat k = l := ⟨_, rfl⟩
  rw [HVAL.out l hl]
  rw [hl] at HLE HLE2 HW1 HWL
  generalize atF W H pix x y k = v0 at *
  obtain ⟨b, off, rfl, c0⟩ := si_at2 (i := 0) HH.out.si (by omega)
  rw [Nat.add_zero] at c0
  have hbb : b < w.heap.size := World.block_lt_of_cell? w _ c0
  subst hn1
  clear hb hb1 hlen hlen2 ha0 hl HVAL HH hop
  generalize a.getD 0 0 = a0 at *
  have HC0 : Hid (∀ V, Below w.heap.size w V → V.cell? ⟨b, off, none⟩ = some (.int .i64 a0)) := fun V hV => (hV.cell (p := ⟨b, off, none⟩) hbb).trans c0
  clear c0
  have HBX : Hid (Below w.heap.size w (w.alloc (.cells #[.int .i64 W, .int .i64 H, .slice P pn pc] 37))) := (Below.refl _ w).alloc (Nat.le_refl _) _
  have HRX : Hid ((w.alloc (.cells #[.int .i64 W, .int .i64 H, .slice P pn pc] 37)).heap[w.heap.size]? = some (.cells #[.int .i64 W, .int .i64 H, .slice P pn pc] 37 (0, 0))) := heap_alloc_new _ _
  go_enter Try.func38, Try.ntmps38
  go_wp2_with fail
  refine (HAT.out _ HBX.out).mono ?_
  rintro e w1 ⟨rfl, hb1⟩
  have HB1 : Hid (Below w.heap.size w w1) := HBX.out.trans (hb1.mono HBX.out.size)
  have R1 : Hid (w1.heap[w.heap.size]? = some (.cells #[.int .i64 W, .int .i64 H, .slice P pn pc] 37 (0, 0))) := row_tr HRX.out hb1
  obtain ⟨x0, x1, x2⟩ := img_cells R1.out
  have ca := HC0.out w1 HB1.out
  clear hb1
  go_upto_region 5 with (fail)
  go_region_held3 (fun w' => w'.cell? ⟨w.heap.size, 0, none⟩ = some (.int .i64 W) ∧ w'.cell? ⟨w.heap.size, 1, none⟩ = some (.int .i64 H) ∧ w'.cell? ⟨w.heap.size, 2, none⟩ = some (.slice P pn pc) ∧ w'.cell? ⟨b, off, none⟩ = some (.int .i64 a0)) (go_keep)
      (first
        | (go_at_call 64
           (with_reducible refine (HW1.out _ (bel_dr HB1.out)).mono ?_)
           rintro e w2 ⟨A2, c2, rfl, hown2, hb2⟩
           have SL : Hid (SI w2 .i64 A2 l.length l) := SI.of_own hown2 (by have := HLE2.out; simp only [kb]; omega)
           have HO2 := Lib.hid hown2
           have HB2 : Hid (Below w.heap.size w w2) := bel_tr (bel_dr HB1.out) hb2
           have HS2 : Hid (w.heap.size ≤ w1.drew.heap.size) := by show _ ≤ _; have := HB1.out.size; simpa using this
           obtain ⟨x0, x1, x2⟩ := img_cells (row_tr (row_dr R1.out) hb2)
           have ca := HC0.out w2 HB2.out
           clear hb2 hown2)
        | (go_at_call 63
           (with_reducible refine (rend_any _ SL.out HLE.out).mono ?_)
           rintro e w3 ⟨rfl, q, rfl⟩))
  all_goals (
      try refine NoPanic.normal ?_
      go_wp2
      go_ret
      exact ⟨rfl, below_drewN HB2.out _⟩)
set_option maxRecDepth 100000 in
set_option maxHeartbeats 4000000 in
theorem sample_6 {op : ByteArray} {A : Option Addr} {n c : Nat} {a : List Int} {P : Option Addr} {pn pc W H x y k : Nat} {pix : List Int} (w : World) (hop : op = nameF 6) (HS : SmpH w op A n a P pn pc W H 6 x y k pix) :
    Calls Try.prog 38 #[.string op, .slice A n c, .agg #[.int .i64 W, .int .i64 H, .slice P pn pc], .int .i64 x, .int .i64 y, .int .i64 k] w (DoP w (sampF 6 a W H pix x y k)) := by
  have HH := Lib.hid HS
  clear HS
  have n5 : (op.toList == [108, 101, 97, 115, 116]) = false := lit_is (j := 5) (by omega) (by omega) hop rfl
  have n6 : (op.toList == [109, 111, 115, 116]) = true := lit_is (j := 6) (by omega) (by omega) hop rfl
  have n7 : (op.toList == [109, 101, 100, 105, 97, 110]) = false := lit_is (j := 7) (by omega) (by omega) hop rfl
  have ha0 := HH.out.arg 0 (by simp [bndF])
  have hn1 : n = 1 := by rw [HH.out.len]; rfl
  have hb : 1 ≤ a.getD 0 0 ∧ a.getD 0 0 ≤ 8 := by simpa [bndF] using ha0
  have hb1 : 0 ≤ a.getD 0 0 ∧ a.getD 0 0 ≤ 8 := by omega
  have hlen : 0 < (winF W H pix x y (a.getD 0 0).toNat (a.getD 0 0).toNat k).length := win_pos _ _ _ _ _ _ _ _
  have hlen2 : (winF W H pix x y (a.getD 0 0).toNat (a.getD 0 0).toNat k).length ≤ 400 := by
    rw [winF_len]
    exact Nat.le_trans (Nat.mul_le_mul (show 2 * (a.getD 0 0).toNat + 1 ≤ 17 by omega) (show 2 * (a.getD 0 0).toNat + 1 ≤ 17 by omega)) (by omega)
  have HVAL : Hid (∀ l, winF W H pix x y (a.getD 0 0).toNat (a.getD 0 0).toNat k = l → sampF 6 a W H pix x y k = maxK l l.length) := fun l hl => by
    subst hl
    exact samp_raw (i := 6) (by simp [alphaF]) (doF_in (i := 6) (HH.out.wv _ _) (win_pos _ _ _ _ _ _ _ _) (by omega))
  have HWL := Lib.hid (HH.out.wv (a.getD 0 0).toNat (a.getD 0 0).toNat)
  have HLE := Lib.hid hlen
  have HLE2 := Lib.hid hlen2
  have HW1 : Hid (∀ V, Below w.heap.size w V → Calls Try.prog 64 #[.agg #[.int .i64 W, .int .i64 H, .slice P pn pc], .int .i64 x, .int .i64 y, .int .i64 (a.getD 0 0), .int .i64 (a.getD 0 0), .int .i64 k] V (NewI V (winF W H pix x y (a.getD 0 0).toNat (a.getD 0 0).toNat k))) := fun V hV => HH.out.win V _ _ hV hb1 hb1
  have HAT := Lib.hid HH.out.at'
  obtain ⟨l, hl⟩ : ∃ l, winF W H pix x y (a.getD 0 0).toNat (a.getD 0 0).toNat k = l := ⟨_, rfl⟩
  rw [HVAL.out l hl]
  rw [hl] at HLE HLE2 HW1 HWL
  generalize atF W H pix x y k = v0 at *
  obtain ⟨b, off, rfl, c0⟩ := si_at2 (i := 0) HH.out.si (by omega)
  rw [Nat.add_zero] at c0
  have hbb : b < w.heap.size := World.block_lt_of_cell? w _ c0
  subst hn1
  clear hb hb1 hlen hlen2 ha0 hl HVAL HH hop
  generalize a.getD 0 0 = a0 at *
  have HC0 : Hid (∀ V, Below w.heap.size w V → V.cell? ⟨b, off, none⟩ = some (.int .i64 a0)) := fun V hV => (hV.cell (p := ⟨b, off, none⟩) hbb).trans c0
  clear c0
  have HBX : Hid (Below w.heap.size w (w.alloc (.cells #[.int .i64 W, .int .i64 H, .slice P pn pc] 37))) := (Below.refl _ w).alloc (Nat.le_refl _) _
  have HRX : Hid ((w.alloc (.cells #[.int .i64 W, .int .i64 H, .slice P pn pc] 37)).heap[w.heap.size]? = some (.cells #[.int .i64 W, .int .i64 H, .slice P pn pc] 37 (0, 0))) := heap_alloc_new _ _
  go_enter Try.func38, Try.ntmps38
  go_wp2_with fail
  refine (HAT.out _ HBX.out).mono ?_
  rintro e w1 ⟨rfl, hb1⟩
  have HB1 : Hid (Below w.heap.size w w1) := HBX.out.trans (hb1.mono HBX.out.size)
  have R1 : Hid (w1.heap[w.heap.size]? = some (.cells #[.int .i64 W, .int .i64 H, .slice P pn pc] 37 (0, 0))) := row_tr HRX.out hb1
  obtain ⟨x0, x1, x2⟩ := img_cells R1.out
  have ca := HC0.out w1 HB1.out
  clear hb1
  go_upto_region 5 with (fail)
  go_region_held3 (fun w' => w'.cell? ⟨w.heap.size, 0, none⟩ = some (.int .i64 W) ∧ w'.cell? ⟨w.heap.size, 1, none⟩ = some (.int .i64 H) ∧ w'.cell? ⟨w.heap.size, 2, none⟩ = some (.slice P pn pc) ∧ w'.cell? ⟨b, off, none⟩ = some (.int .i64 a0)) (go_keep)
      (first
        | (go_at_call 64
           (with_reducible refine (HW1.out _ (bel_dr HB1.out)).mono ?_)
           rintro e w2 ⟨A2, c2, rfl, hown2, hb2⟩
           have SL : Hid (SI w2 .i64 A2 l.length l) := SI.of_own hown2 (by have := HLE2.out; simp only [kb]; omega)
           have HO2 := Lib.hid hown2
           have HB2 : Hid (Below w.heap.size w w2) := bel_tr (bel_dr HB1.out) hb2
           have HS2 : Hid (w.heap.size ≤ w1.drew.heap.size) := by show _ ≤ _; have := HB1.out.size; simpa using this
           obtain ⟨x0, x1, x2⟩ := img_cells (row_tr (row_dr R1.out) hb2)
           have ca := HC0.out w2 HB2.out
           clear hb2 hown2)
        | (go_at_call 63
           (with_reducible refine (rend_any _ SL.out HLE.out).mono ?_)
           rintro e w3 ⟨rfl, q, rfl⟩))
  all_goals (
      try refine NoPanic.normal ?_
      go_wp2
      go_ret
      exact ⟨rfl, below_drewN HB2.out _⟩)
set_option maxRecDepth 100000 in
set_option maxHeartbeats 4000000 in
theorem sample_7 {op : ByteArray} {A : Option Addr} {n c : Nat} {a : List Int} {P : Option Addr} {pn pc W H x y k : Nat} {pix : List Int} (w : World) (hop : op = nameF 7) (HS : SmpH w op A n a P pn pc W H 7 x y k pix) :
    Calls Try.prog 38 #[.string op, .slice A n c, .agg #[.int .i64 W, .int .i64 H, .slice P pn pc], .int .i64 x, .int .i64 y, .int .i64 k] w (DoP w (sampF 7 a W H pix x y k)) := by
  have HH := Lib.hid HS
  clear HS
  have n5 : (op.toList == [108, 101, 97, 115, 116]) = false := lit_is (j := 5) (by omega) (by omega) hop rfl
  have n6 : (op.toList == [109, 111, 115, 116]) = false := lit_is (j := 6) (by omega) (by omega) hop rfl
  have n7 : (op.toList == [109, 101, 100, 105, 97, 110]) = true := lit_is (j := 7) (by omega) (by omega) hop rfl
  have ha0 := HH.out.arg 0 (by simp [bndF])
  have hn1 : n = 1 := by rw [HH.out.len]; rfl
  have hb : 1 ≤ a.getD 0 0 ∧ a.getD 0 0 ≤ 3 := by simpa [bndF] using ha0
  have hb1 : 0 ≤ a.getD 0 0 ∧ a.getD 0 0 ≤ 8 := by omega
  have hlen : 0 < (winF W H pix x y (a.getD 0 0).toNat (a.getD 0 0).toNat k).length := win_pos _ _ _ _ _ _ _ _
  have hlen2 : (winF W H pix x y (a.getD 0 0).toNat (a.getD 0 0).toNat k).length ≤ 400 := by
    rw [winF_len]
    exact Nat.le_trans (Nat.mul_le_mul (show 2 * (a.getD 0 0).toNat + 1 ≤ 17 by omega) (show 2 * (a.getD 0 0).toNat + 1 ≤ 17 by omega)) (by omega)
  have HVAL : Hid (∀ l, winF W H pix x y (a.getD 0 0).toNat (a.getD 0 0).toNat k = l → sampF 7 a W H pix x y k = medF l) := fun l hl => by
    subst hl
    exact samp_raw (i := 7) (by simp [alphaF]) (doF_in (i := 7) (HH.out.wv _ _) (win_pos _ _ _ _ _ _ _ _) (by omega))
  have HWL := Lib.hid (HH.out.wv (a.getD 0 0).toNat (a.getD 0 0).toNat)
  have HLE := Lib.hid hlen
  have HLE2 := Lib.hid hlen2
  have HW1 : Hid (∀ V, Below w.heap.size w V → Calls Try.prog 64 #[.agg #[.int .i64 W, .int .i64 H, .slice P pn pc], .int .i64 x, .int .i64 y, .int .i64 (a.getD 0 0), .int .i64 (a.getD 0 0), .int .i64 k] V (NewI V (winF W H pix x y (a.getD 0 0).toNat (a.getD 0 0).toNat k))) := fun V hV => HH.out.win V _ _ hV hb1 hb1
  have HAT := Lib.hid HH.out.at'
  obtain ⟨l, hl⟩ : ∃ l, winF W H pix x y (a.getD 0 0).toNat (a.getD 0 0).toNat k = l := ⟨_, rfl⟩
  rw [HVAL.out l hl]
  rw [hl] at HLE HLE2 HW1 HWL
  generalize atF W H pix x y k = v0 at *
  obtain ⟨b, off, rfl, c0⟩ := si_at2 (i := 0) HH.out.si (by omega)
  rw [Nat.add_zero] at c0
  have hbb : b < w.heap.size := World.block_lt_of_cell? w _ c0
  subst hn1
  clear hb hb1 hlen hlen2 ha0 hl HVAL HH hop
  generalize a.getD 0 0 = a0 at *
  have HC0 : Hid (∀ V, Below w.heap.size w V → V.cell? ⟨b, off, none⟩ = some (.int .i64 a0)) := fun V hV => (hV.cell (p := ⟨b, off, none⟩) hbb).trans c0
  clear c0
  have HBX : Hid (Below w.heap.size w (w.alloc (.cells #[.int .i64 W, .int .i64 H, .slice P pn pc] 37))) := (Below.refl _ w).alloc (Nat.le_refl _) _
  have HRX : Hid ((w.alloc (.cells #[.int .i64 W, .int .i64 H, .slice P pn pc] 37)).heap[w.heap.size]? = some (.cells #[.int .i64 W, .int .i64 H, .slice P pn pc] 37 (0, 0))) := heap_alloc_new _ _
  go_enter Try.func38, Try.ntmps38
  go_wp2_with fail
  refine (HAT.out _ HBX.out).mono ?_
  rintro e w1 ⟨rfl, hb1⟩
  have HB1 : Hid (Below w.heap.size w w1) := HBX.out.trans (hb1.mono HBX.out.size)
  have R1 : Hid (w1.heap[w.heap.size]? = some (.cells #[.int .i64 W, .int .i64 H, .slice P pn pc] 37 (0, 0))) := row_tr HRX.out hb1
  obtain ⟨x0, x1, x2⟩ := img_cells R1.out
  have ca := HC0.out w1 HB1.out
  clear hb1
  go_upto_region 7 with (fail)
  go_region_held3 (fun w' => w'.cell? ⟨w.heap.size, 0, none⟩ = some (.int .i64 W) ∧ w'.cell? ⟨w.heap.size, 1, none⟩ = some (.int .i64 H) ∧ w'.cell? ⟨w.heap.size, 2, none⟩ = some (.slice P pn pc) ∧ w'.cell? ⟨b, off, none⟩ = some (.int .i64 a0)) (go_keep)
      (first
        | (go_at_call 64
           (with_reducible refine (HW1.out _ (bel_dr HB1.out)).mono ?_)
           rintro e w2 ⟨A2, c2, rfl, hown2, hb2⟩
           have SL : Hid (SI w2 .i64 A2 l.length l) := SI.of_own hown2 (by have := HLE2.out; simp only [kb]; omega)
           have HO2 := Lib.hid hown2
           have HB2 : Hid (Below w.heap.size w w2) := bel_tr (bel_dr HB1.out) hb2
           have HS2 : Hid (w.heap.size ≤ w1.drew.heap.size) := by show _ ≤ _; have := HB1.out.size; simpa using this
           obtain ⟨x0, x1, x2⟩ := img_cells (row_tr (row_dr R1.out) hb2)
           have ca := HC0.out w2 HB2.out
           have HR2 := Lib.hid (row_tr (row_dr R1.out) hb2)
           have HZ2 : Hid (w1.drew.heap.size ≤ w2.heap.size) := hb2.size
           have HZ1 : Hid (w.heap.size < w1.drew.heap.size) := (Array.getElem?_eq_some_iff.1 R1.out).1
           clear hb2 hown2)
        | (go_at_call 65
           (obtain ⟨g, rfl⟩ : ∃ g, A2 = some ⟨g, 0, none⟩ := own_some HO2.out HLE.out)
           (with_reducible refine (rsorted_any _ HO2.out HLE.out (Nat.le_trans HLE2.out (by omega)) HZ2.out).mono ?_)
           rintro e w3 ⟨rfl, hown3, hb3⟩
           have HO3 := Lib.hid hown3
           have HB3 : Hid (Below w.heap.size w w3) := HB2.out.trans (hb3.mono (by have := HZ1.out; omega))
           obtain ⟨x0, x1, x2⟩ := img_cells ((hb3.block _ HZ1.out).trans HR2.out)
           have ca := HC0.out w3 HB3.out
           clear hown3 hb3))
  all_goals (
      try refine NoPanic.normal ?_
      have hcell : w3.cell? ⟨g, l.length / 2, none⟩ = some (.int .i64 (medF l)) := by
        rw [HO3.out.cellAt (g := g) (l.length / 2) (by have := HLE.out; omega), List.getElem?_map]
        unfold medF
        rw [List.getElem?_eq_getElem (by rw [sortF_len]; have := HLE.out; omega), List.getD_eq_getElem?_getD, List.getElem?_eq_getElem (by rw [sortF_len]; have := HLE.out; omega)]; rfl
      have hl0 := HLE.out
      have hl1 := HLE2.out
      generalize medF l = md at *
      generalize l.length = m at *
      have t1 : ((m : Int) / 2).toNat = m / 2 := by omega
      have i0 : (0 : Int) ≤ (m : Int) / 2 := by omega
      have i1 : (m : Int) / 2 < (m : Int) := by omega
      go_wp2
      go_ret
      exact ⟨rfl, HB3.out⟩)
set_option maxRecDepth 100000 in
set_option maxHeartbeats 4000000 in
theorem sample_1 {op : ByteArray} {A : Option Addr} {n c : Nat} {a : List Int} {P : Option Addr} {pn pc W H x y k : Nat} {pix : List Int} (w : World) (hk3 : k ≠ 3) (hop : op = nameF 1) (HS : SmpH w op A n a P pn pc W H 1 x y k pix) :
    Calls Try.prog 38 #[.string op, .slice A n c, .agg #[.int .i64 W, .int .i64 H, .slice P pn pc], .int .i64 x, .int .i64 y, .int .i64 k] w (DoP w (sampF 1 a W H pix x y k)) := by
  have HH := Lib.hid HS
  clear HS
  have n5 : (op.toList == [108, 101, 97, 115, 116]) = false := lit_is (j := 5) (by omega) (by omega) hop rfl
  have n6 : (op.toList == [109, 111, 115, 116]) = false := lit_is (j := 6) (by omega) (by omega) hop rfl
  have n7 : (op.toList == [109, 101, 100, 105, 97, 110]) = false := lit_is (j := 7) (by omega) (by omega) hop rfl
  have n1 : (op.toList == [98, 108, 117, 114]) = true := lit_is (j := 1) (by omega) (by omega) hop rfl
  have n8 : (op.toList == [108, 105, 110, 101, 115]) = false := lit_is (j := 8) (by omega) (by omega) hop rfl
  have k3 : ((k : Int) == 3) = false := by simp; omega
  have ha0 := HH.out.arg 0 (by simp [bndF])
  have hn1 : n = 1 := by rw [HH.out.len]; rfl
  have hb : 1 ≤ a.getD 0 0 ∧ a.getD 0 0 ≤ 8 := by simpa [bndF] using ha0
  have hb1 : 0 ≤ a.getD 0 0 ∧ a.getD 0 0 ≤ 8 := by omega
  have hlen : 0 < (winF W H pix x y (a.getD 0 0).toNat (a.getD 0 0).toNat k).length := win_pos _ _ _ _ _ _ _ _
  have hlen2 : (winF W H pix x y (a.getD 0 0).toNat (a.getD 0 0).toNat k).length ≤ 400 := by
    rw [winF_len]
    exact Nat.le_trans (Nat.mul_le_mul (show 2 * (a.getD 0 0).toNat + 1 ≤ 17 by omega) (show 2 * (a.getD 0 0).toNat + 1 ≤ 17 by omega)) (by omega)
  have HVAL : Hid (∀ l, winF W H pix x y (a.getD 0 0).toNat (a.getD 0 0).toNat k = l → sampF 1 a W H pix x y k = (sumK l l.length + (l.length : Int) / 2) / l.length) := fun l hl => by
    subst hl
    exact samp_raw (i := 1) (fun h => hk3 h.1) (doF_in (i := 1) (HH.out.wv _ _) (win_pos _ _ _ _ _ _ _ _) (by omega))
  have HWL := Lib.hid (HH.out.wv (a.getD 0 0).toNat (a.getD 0 0).toNat)
  have HLE := Lib.hid hlen
  have HLE2 := Lib.hid hlen2
  have HW1 : Hid (∀ V, Below w.heap.size w V → Calls Try.prog 64 #[.agg #[.int .i64 W, .int .i64 H, .slice P pn pc], .int .i64 x, .int .i64 y, .int .i64 (a.getD 0 0), .int .i64 (a.getD 0 0), .int .i64 k] V (NewI V (winF W H pix x y (a.getD 0 0).toNat (a.getD 0 0).toNat k))) := fun V hV => HH.out.win V _ _ hV hb1 hb1
  have HAT := Lib.hid HH.out.at'
  obtain ⟨l, hl⟩ : ∃ l, winF W H pix x y (a.getD 0 0).toNat (a.getD 0 0).toNat k = l := ⟨_, rfl⟩
  rw [HVAL.out l hl]
  rw [hl] at HLE HLE2 HW1 HWL
  generalize atF W H pix x y k = v0 at *
  obtain ⟨b, off, rfl, c0⟩ := si_at2 (i := 0) HH.out.si (by omega)
  rw [Nat.add_zero] at c0
  have hbb : b < w.heap.size := World.block_lt_of_cell? w _ c0
  subst hn1
  clear hb hb1 hlen hlen2 ha0 hl HVAL HH hop
  generalize a.getD 0 0 = a0 at *
  have HC0 : Hid (∀ V, Below w.heap.size w V → V.cell? ⟨b, off, none⟩ = some (.int .i64 a0)) := fun V hV => (hV.cell (p := ⟨b, off, none⟩) hbb).trans c0
  clear c0
  have hs := sumK_in HWL.out l.length
  have hl0 := HLE.out
  have hl1 := HLE2.out
  have HL4 : Hid (l.length ≤ 4096) := by show _ ≤ _; omega
  obtain ⟨m, hm⟩ : ∃ m, l.length = m := ⟨_, rfl⟩
  rw [hm] at hs hl0 hl1
  have hm0 : (m : Int) ≠ 0 := by omega
  have hm1 : ((m : Int) == 0) = false := by simp; omega
  have f0 : wrap64 ((m : Int) / 2) = (m : Int) / 2 := IntWalk.wrap64_in _ (by omega)
  have f1 : wrap64 (sumK l m + (m : Int) / 2) = sumK l m + (m : Int) / 2 := IntWalk.wrap64_in _ (by omega)
  have f2 : (sumK l m + (m : Int) / 2).tdiv m = (sumK l m + (m : Int) / 2) / m := Int.tdiv_eq_ediv_of_nonneg (by omega)
  have f3 : wrap64 ((sumK l m + (m : Int) / 2) / m) = (sumK l m + (m : Int) / 2) / m := by
    have h1 : (sumK l m + (m : Int) / 2) / m ≤ sumK l m + (m : Int) / 2 := Int.ediv_le_self _ (by omega)
    have h2 : 0 ≤ (sumK l m + (m : Int) / 2) / m := Int.ediv_nonneg (by omega) (by omega)
    exact IntWalk.wrap64_in _ (by omega)
  have HM := Lib.hid hm
  rw [hm]
  clear hs hl0 hl1 hm hk3
  have HBX : Hid (Below w.heap.size w (w.alloc (.cells #[.int .i64 W, .int .i64 H, .slice P pn pc] 37))) := (Below.refl _ w).alloc (Nat.le_refl _) _
  have HRX : Hid ((w.alloc (.cells #[.int .i64 W, .int .i64 H, .slice P pn pc] 37)).heap[w.heap.size]? = some (.cells #[.int .i64 W, .int .i64 H, .slice P pn pc] 37 (0, 0))) := heap_alloc_new _ _
  go_enter Try.func38, Try.ntmps38
  go_wp2_with fail
  refine (HAT.out _ HBX.out).mono ?_
  rintro e w1 ⟨rfl, hb1⟩
  have HB1 : Hid (Below w.heap.size w w1) := HBX.out.trans (hb1.mono HBX.out.size)
  have R1 : Hid (w1.heap[w.heap.size]? = some (.cells #[.int .i64 W, .int .i64 H, .slice P pn pc] 37 (0, 0))) := row_tr HRX.out hb1
  obtain ⟨x0, x1, x2⟩ := img_cells R1.out
  have ca := HC0.out w1 HB1.out
  clear hb1
  go_upto_region 13 with (fail)
  go_region_held3 (fun w' => w'.cell? ⟨w.heap.size, 0, none⟩ = some (.int .i64 W) ∧ w'.cell? ⟨w.heap.size, 1, none⟩ = some (.int .i64 H) ∧ w'.cell? ⟨w.heap.size, 2, none⟩ = some (.slice P pn pc) ∧ w'.cell? ⟨b, off, none⟩ = some (.int .i64 a0)) (go_keep)
      (first
        | (go_at_call 64
           (with_reducible refine (HW1.out _ (bel_dr HB1.out)).mono ?_)
           rintro e w2 ⟨A2, c2, rfl, hown2, hb2⟩
           have SL : Hid (SI w2 .i64 A2 l.length l) := SI.of_own hown2 (by have := HLE2.out; simp only [kb]; omega)
           have HO2 := Lib.hid hown2
           have HB2 : Hid (Below w.heap.size w w2) := bel_tr (bel_dr HB1.out) hb2
           have HS2 : Hid (w.heap.size ≤ w1.drew.heap.size) := by show _ ≤ _; have := HB1.out.size; simpa using this
           obtain ⟨x0, x1, x2⟩ := img_cells (row_tr (row_dr R1.out) hb2)
           have ca := HC0.out w2 HB2.out
           rw [HM.out] at SL ⊢
           clear hb2 hown2 HO2))
  all_goals (
      try refine NoPanic.normal ?_
      go_wp2_with fail
      refine (rsum_any _ SL.out HWL.out (by rw [← HM.out]; exact HL4.out)).mono ?_
      rintro e w3 ⟨rfl, rfl⟩
      go_wp2_with fail
      go_ret
      exact ⟨by (show Ending.returned (Value.int .i64 (wrap64 ((sumK l m + (m : Int) / 2) / (m : Int)))) = _); rw [f3], HB2.out⟩)
set_option maxRecDepth 100000 in
set_option maxHeartbeats 4000000 in
theorem sample_8 {op : ByteArray} {A : Option Addr} {n c : Nat} {a : List Int} {P : Option Addr} {pn pc W H x y k : Nat} {pix : List Int} (w : World) (hk3 : k ≠ 3) (hop : op = nameF 8) (HS : SmpH w op A n a P pn pc W H 8 x y k pix) :
    Calls Try.prog 38 #[.string op, .slice A n c, .agg #[.int .i64 W, .int .i64 H, .slice P pn pc], .int .i64 x, .int .i64 y, .int .i64 k] w (DoP w (sampF 8 a W H pix x y k)) := by
  have HH := Lib.hid HS
  clear HS
  have n5 : (op.toList == [108, 101, 97, 115, 116]) = false := lit_is (j := 5) (by omega) (by omega) hop rfl
  have n6 : (op.toList == [109, 111, 115, 116]) = false := lit_is (j := 6) (by omega) (by omega) hop rfl
  have n7 : (op.toList == [109, 101, 100, 105, 97, 110]) = false := lit_is (j := 7) (by omega) (by omega) hop rfl
  have n1 : (op.toList == [98, 108, 117, 114]) = false := lit_is (j := 1) (by omega) (by omega) hop rfl
  have n8 : (op.toList == [108, 105, 110, 101, 115]) = true := lit_is (j := 8) (by omega) (by omega) hop rfl
  have k3 : ((k : Int) == 3) = false := by simp; omega
  have ha0 := HH.out.arg 0 (by simp [bndF])
  have hn1 : n = 1 := by rw [HH.out.len]; rfl
  have hb : 1 ≤ a.getD 0 0 ∧ a.getD 0 0 ≤ 8 := by simpa [bndF] using ha0
  have hb1 : 0 ≤ a.getD 0 0 ∧ a.getD 0 0 ≤ 8 := by omega
  have hlen : 0 < (winF W H pix x y (a.getD 0 0).toNat (0 : Int).toNat k).length := win_pos _ _ _ _ _ _ _ _
  have hlen2 : (winF W H pix x y (a.getD 0 0).toNat (0 : Int).toNat k).length ≤ 400 := by
    rw [winF_len]
    exact Nat.le_trans (Nat.mul_le_mul (show 2 * (0 : Int).toNat + 1 ≤ 17 by omega) (show 2 * (a.getD 0 0).toNat + 1 ≤ 17 by omega)) (by omega)
  have HVAL : Hid (∀ l, winF W H pix x y (a.getD 0 0).toNat (0 : Int).toNat k = l → sampF 8 a W H pix x y k = (sumK l l.length + (l.length : Int) / 2) / l.length) := fun l hl => by
    subst hl
    exact samp_raw (i := 8) (fun h => hk3 h.1) (doF_in (i := 8) (HH.out.wv _ _) (win_pos _ _ _ _ _ _ _ _) (by omega))
  have HWL := Lib.hid (HH.out.wv (a.getD 0 0).toNat (0 : Int).toNat)
  have HLE := Lib.hid hlen
  have HLE2 := Lib.hid hlen2
  have HW1 : Hid (∀ V, Below w.heap.size w V → Calls Try.prog 64 #[.agg #[.int .i64 W, .int .i64 H, .slice P pn pc], .int .i64 x, .int .i64 y, .int .i64 (a.getD 0 0), .int .i64 0, .int .i64 k] V (NewI V (winF W H pix x y (a.getD 0 0).toNat (0 : Int).toNat k))) := fun V hV => HH.out.win V _ _ hV hb1 (by omega)
  have HAT := Lib.hid HH.out.at'
  obtain ⟨l, hl⟩ : ∃ l, winF W H pix x y (a.getD 0 0).toNat (0 : Int).toNat k = l := ⟨_, rfl⟩
  rw [HVAL.out l hl]
  rw [hl] at HLE HLE2 HW1 HWL
  generalize atF W H pix x y k = v0 at *
  obtain ⟨b, off, rfl, c0⟩ := si_at2 (i := 0) HH.out.si (by omega)
  rw [Nat.add_zero] at c0
  have hbb : b < w.heap.size := World.block_lt_of_cell? w _ c0
  subst hn1
  clear hb hb1 hlen hlen2 ha0 hl HVAL HH hop
  generalize a.getD 0 0 = a0 at *
  have HC0 : Hid (∀ V, Below w.heap.size w V → V.cell? ⟨b, off, none⟩ = some (.int .i64 a0)) := fun V hV => (hV.cell (p := ⟨b, off, none⟩) hbb).trans c0
  clear c0
  have hs := sumK_in HWL.out l.length
  have hl0 := HLE.out
  have hl1 := HLE2.out
  have HL4 : Hid (l.length ≤ 4096) := by show _ ≤ _; omega
  obtain ⟨m, hm⟩ : ∃ m, l.length = m := ⟨_, rfl⟩
  rw [hm] at hs hl0 hl1
  have hm0 : (m : Int) ≠ 0 := by omega
  have hm1 : ((m : Int) == 0) = false := by simp; omega
  have f0 : wrap64 ((m : Int) / 2) = (m : Int) / 2 := IntWalk.wrap64_in _ (by omega)
  have f1 : wrap64 (sumK l m + (m : Int) / 2) = sumK l m + (m : Int) / 2 := IntWalk.wrap64_in _ (by omega)
  have f2 : (sumK l m + (m : Int) / 2).tdiv m = (sumK l m + (m : Int) / 2) / m := Int.tdiv_eq_ediv_of_nonneg (by omega)
  have f3 : wrap64 ((sumK l m + (m : Int) / 2) / m) = (sumK l m + (m : Int) / 2) / m := by
    have h1 : (sumK l m + (m : Int) / 2) / m ≤ sumK l m + (m : Int) / 2 := Int.ediv_le_self _ (by omega)
    have h2 : 0 ≤ (sumK l m + (m : Int) / 2) / m := Int.ediv_nonneg (by omega) (by omega)
    exact IntWalk.wrap64_in _ (by omega)
  have HM := Lib.hid hm
  rw [hm]
  clear hs hl0 hl1 hm hk3
  have HBX : Hid (Below w.heap.size w (w.alloc (.cells #[.int .i64 W, .int .i64 H, .slice P pn pc] 37))) := (Below.refl _ w).alloc (Nat.le_refl _) _
  have HRX : Hid ((w.alloc (.cells #[.int .i64 W, .int .i64 H, .slice P pn pc] 37)).heap[w.heap.size]? = some (.cells #[.int .i64 W, .int .i64 H, .slice P pn pc] 37 (0, 0))) := heap_alloc_new _ _
  go_enter Try.func38, Try.ntmps38
  go_wp2_with fail
  refine (HAT.out _ HBX.out).mono ?_
  rintro e w1 ⟨rfl, hb1⟩
  have HB1 : Hid (Below w.heap.size w w1) := HBX.out.trans (hb1.mono HBX.out.size)
  have R1 : Hid (w1.heap[w.heap.size]? = some (.cells #[.int .i64 W, .int .i64 H, .slice P pn pc] 37 (0, 0))) := row_tr HRX.out hb1
  obtain ⟨x0, x1, x2⟩ := img_cells R1.out
  have ca := HC0.out w1 HB1.out
  clear hb1
  go_upto_region 16 with (fail)
  go_region_held3 (fun w' => w'.cell? ⟨w.heap.size, 0, none⟩ = some (.int .i64 W) ∧ w'.cell? ⟨w.heap.size, 1, none⟩ = some (.int .i64 H) ∧ w'.cell? ⟨w.heap.size, 2, none⟩ = some (.slice P pn pc) ∧ w'.cell? ⟨b, off, none⟩ = some (.int .i64 a0)) (go_keep)
      (first
        | (go_at_call 64
           (with_reducible refine (HW1.out _ (bel_dr HB1.out)).mono ?_)
           rintro e w2 ⟨A2, c2, rfl, hown2, hb2⟩
           have SL : Hid (SI w2 .i64 A2 l.length l) := SI.of_own hown2 (by have := HLE2.out; simp only [kb]; omega)
           have HO2 := Lib.hid hown2
           have HB2 : Hid (Below w.heap.size w w2) := bel_tr (bel_dr HB1.out) hb2
           have HS2 : Hid (w.heap.size ≤ w1.drew.heap.size) := by show _ ≤ _; have := HB1.out.size; simpa using this
           obtain ⟨x0, x1, x2⟩ := img_cells (row_tr (row_dr R1.out) hb2)
           have ca := HC0.out w2 HB2.out
           rw [HM.out] at SL ⊢
           clear hb2 hown2 HO2))
  all_goals (
      try refine NoPanic.normal ?_
      go_wp2_with fail
      refine (rsum_any _ SL.out HWL.out (by rw [← HM.out]; exact HL4.out)).mono ?_
      rintro e w3 ⟨rfl, rfl⟩
      go_wp2_with fail
      go_ret
      exact ⟨by (show Ending.returned (Value.int .i64 (wrap64 ((sumK l m + (m : Int) / 2) / (m : Int)))) = _); rw [f3], HB2.out⟩)
end Go.Proofs.Ytogmlcgiajigfaa.Ard
