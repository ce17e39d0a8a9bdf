/-
  Walks: the reference's Part.
-/
import Derived.Test.YtogmlcgiajigfaaAroT
import Derived.Test.YtogmlcgiajigfaaAroE
import Derived.Test.YtogmlcgiajigfaaAroI
import Derived.Test.YtogmlcgiajigfaaArdU
set_option linter.unusedVariables false
set_option linter.unusedSimpArgs false
namespace Go.Proofs.Ytogmlcgiajigfaa.Ard
open Go.RowKit K

theorem sample_any {op : ByteArray} {A : Option Addr} {n c : Nat} {a : List Int} {P : Option Addr} {pn pc W H i x y k : Nat} {pix : List Int} (w : World) (hi : i < 9) (hop : op = nameF i) (hf : fitsB (bndF i) a = true) (HA : SI w .i64 A n a) (HP : SI w .u16 P pn pix)
    (hwv : ∀ v ∈ pix, 0 ≤ v ∧ v < 65536) (hW : 1 ≤ W ∧ W ≤ 4096) (hH : 1 ≤ H ∧ H ≤ 4096) (hp : pn = 4 * W * H) (hx : x < W) (hy : y < H) (hk : k < 4) :
    Calls Try.prog 38 #[.string op, .slice A n c, .agg #[.int .i64 W, .int .i64 H, .slice P pn pc], .int .i64 x, .int .i64 y, .int .i64 k] w (DoP w (sampF i a W H pix x y k)) := by
  have HS := smpH_of (op := op) (pc := pc) (k := k) w hf HA HP hwv hW hH hp hx hy hk
  by_cases h3 : k = 3 ∧ alphaF i = false
  · exact sample_k3 w hi h3.2 h3.1 hop HS
  · by_cases hal : alphaF i = true
    · have h : i = 5 ∨ i = 6 ∨ i = 7 := by simp [alphaF] at hal; omega
      rcases h with rfl | rfl | rfl
      · exact sample_5 w hop HS
      · exact sample_6 w hop HS
      · exact sample_7 w hop HS
    · have hk3 : k ≠ 3 := fun e => h3 ⟨e, by simpa using hal⟩
      have h : i = 0 ∨ i = 1 ∨ i = 2 ∨ i = 3 ∨ i = 4 ∨ i = 8 := by simp [alphaF] at hal; omega
      rcases h with rfl | rfl | rfl | rfl | rfl | rfl
      · exact sample_0 w hk3 hop HS
      · exact sample_1 w hk3 hop HS
      · exact sample_2 w hk3 hop HS
      · exact sample_3 w hk3 hop HS
      · exact sample_4 w hk3 hop HS
      · exact sample_8 w hk3 hop HS
theorem sampF_in {i W H x y k : Nat} {a pix : List Int} (hw : ∀ v ∈ pix, 0 ≤ v ∧ v < 65536) : 0 ≤ sampF i a W H pix x y k ∧ sampF i a W H pix x y k < 65536 := by
  unfold sampF
  split
  · exact atF_in hw
  · have := clampN_le (doF i a (winF W H pix x y (rxF i a).toNat (ryF i a).toNat k) (atF W H pix x y k)) 65535
    omega
/-- while the image gathers: wS the world when its block had been made, gi the block -/
structure Rp (wS wr : World) (gi : Nat) (RW RH : Int) (A : Option Addr) (c : Nat) (l : List Int) : Prop where
  bel : Below gi wS wr
  row : wr.heap[gi]? = some (.cells #[.int .i64 RW, .int .i64 RH, .slice A l.length c] 37 (0, 0))
  own : wr.ownsRow gi 53 1 (.slice A l.length c) l.length (l.map (.int .u16))
theorem Rp.lt {wS wr : World} {gi c : Nat} {RW RH : Int} {A : Option Addr} {l : List Int} (h : Rp wS wr gi RW RH A c l) : gi < wr.heap.size := (Array.getElem?_eq_some_iff.1 h.row).1
theorem Rp.on {wS wr w' : World} {gi c : Nat} {RW RH : Int} {A : Option Addr} {l : List Int} (h : Rp wS wr gi RW RH A c l) (hb : Below wr.heap.size wr w') : Rp wS w' gi RW RH A c l :=
  ⟨h.bel.trans (hb.mono (Nat.le_of_lt h.lt)), row_tr h.row hb, own_b h.own hb⟩
theorem Rp.push {wS wr w5 : World} {gi c g cap : Nat} {RW RH v : Int} {A : Option Addr} {l : List Int} {o : Obj} (h : Rp wS wr gi RW RH A c l)
    (hown : w5.ownsRow gi 53 1 (.slice (some ⟨g, 0, none⟩) (l.length + 1) cap) (l.length + 1) (l.map (.int .u16) ++ [.int .u16 v])) (hg : (wr.alloc o).grownBy w5 (Value.slice A l.length c).ownBlock) :
    w5.heap[gi]? = some (.cells #[.int .i64 RW, .int .i64 RH, .slice A l.length c] 37 (0, 0)) ∧
    Rp wS (w5.setCell ⟨gi, 2, none⟩ (.slice (some ⟨g, 0, none⟩) (l.length + 1) cap)) gi RW RH (some ⟨g, 0, none⟩) cap (l ++ [v]) := by
  have hlt := h.lt
  have h1 : w5.heap[gi]? = some (.cells #[.int .i64 RW, .int .i64 RH, .slice A l.length c] 37 (0, 0)) := (hg.block gi (by simp; omega) (own_ne h.own h.row (by decide))).trans (heap_alloc_old _ _ h.row)
  have hb5 : Below gi wS w5 := (h.bel.alloc (by omega) o).grown hg (by simp; omega) (fun b e => (h.own.lt b e).1)
  refine ⟨h1, hb5.setCell (p := ⟨gi, 2, none⟩) (Nat.le_refl _) _, ?_, ?_⟩
  · rw [List.length_append]; exact set_row2 h1
  · rw [List.length_append, List.map_append]
    exact hown.kept (grown_set1 w5 gi 2 _) (.inr (own_ne hown h1 (by decide)).symm)
set_option maxHeartbeats 1000000 in
theorem rpart_bad1 {op : ByteArray} {A : Option Addr} {n c : Nat} {a : List Int} {W H X Y RW RH : Int} {P : Option Addr} {pn pc : Nat} (w : World) (HA : SI w .i64 A n a) (h0 : checkE op a ≠ 0) :
    Calls Try.prog 23 #[.string op, .slice A n c, .agg #[.int .i64 W, .int .i64 H, .slice P pn pc], .agg #[.int .i64 X, .int .i64 Y, .int .i64 RW, .int .i64 RH]] w (ImgP w 0 0 [] (checkE op a)) := by
  obtain ⟨W0, hW0, -, -, r2, hs, hb⟩ := three_allocs w (.cells #[.int .i64 W, .int .i64 H, .slice P pn pc] 37) (.cells #[.int .i64 X, .int .i64 Y, .int .i64 RW, .int .i64 RH] 46) (.cells zimg 37)
  have HF := Lib.hid (rcheck_any (op := op) (c := c) W0 (HA.below hb (Nat.le_refl _)))
  have R2 := Lib.hid r2
  have HB := Lib.hid hb
  have hnv : (checkE op a != 0) = true := by simpa using h0
  clear HA r2 hs hb h0
  generalize checkE op a = v at *
  go_enter Try.func23, Try.ntmps23
  go_wp2_with fail
  unfold zimg at hW0
  rw [hW0]
  clear hW0
  refine HF.out.mono ?_
  rintro e w1 ⟨rfl, hb1⟩
  have R2b : Hid (w1.heap[w.heap.size + 2]? = some (.cells zimg 37 (0, 0))) := row_tr R2.out hb1
  have HB1 : Hid (Below w.heap.size w w1) := bel_tr HB.out hb1
  clear hb1
  go_wp2_with (refine wpList_store_rowW rfl 37 (.tmp 8) (.tmp 20) rfl (w.heap.size + 2) zimg rfl rfl 37 zimg R2b.out imgInfo rfl zimgAll w.heap.size w HB1.out (Nat.le_add_right _ _) ?_; intro W3 HW4 HW5 HW6)
  refine bodyPost_ret (results_row_tmp rfl _ _ (w.heap.size + 2) 37 zimg (0, 0) _ rfl HW4.out Try.underlying37 rfl imgInfo) rfl ?_
  exact ImgP.zero HW5.out
set_option maxHeartbeats 1000000 in
theorem rpart_bad2 {op : ByteArray} {A : Option Addr} {n c : Nat} {a : List Int} {W H X Y RW RH : Int} {P : Option Addr} {pn pc : Nat} (w : World) (HA : SI w .i64 A n a) (hbig : pn ≤ 140737488351232) (h0 : checkE op a = 0) (hg : ¬ GoodP W H pn) :
    Calls Try.prog 23 #[.string op, .slice A n c, .agg #[.int .i64 W, .int .i64 H, .slice P pn pc], .agg #[.int .i64 X, .int .i64 Y, .int .i64 RW, .int .i64 RH]] w (ImgP w 0 0 [] 6) := by
  obtain ⟨W0, hW0, r0, -, r2, hs, hb⟩ := three_allocs w (.cells #[.int .i64 W, .int .i64 H, .slice P pn pc] 37) (.cells #[.int .i64 X, .int .i64 Y, .int .i64 RW, .int .i64 RH] 46) (.cells zimg 37)
  have HF : Hid (Calls Try.prog 17 #[.string op, .slice A n c] W0 (CheckP W0 0)) := by
    have := rcheck_any (op := op) (c := c) W0 (HA.below hb (Nat.le_refl _))
    rwa [h0] at this
  have HGF : Hid (∀ V, Calls Try.prog 25 #[.agg #[.int .i64 W, .int .i64 H, .slice P pn pc]] V (TestP V false)) := fun V => by
    have := rgood_any (W := W) (H := H) (P := P) (pn := pn) (pc := pc) V hbig
    rwa [decide_eq_false hg] at this
  have R0 := Lib.hid r0
  have R2 := Lib.hid r2
  have HB := Lib.hid hb
  clear HA r0 r2 hs hb h0 hg
  go_enter Try.func23, Try.ntmps23
  go_wp2_with fail
  unfold zimg at hW0
  rw [hW0]
  clear hW0
  refine HF.out.mono ?_
  rintro e w1 ⟨rfl, hb1⟩
  have R0b := Lib.hid (row_tr R0.out hb1)
  have R2b : Hid (w1.heap[w.heap.size + 2]? = some (.cells zimg 37 (0, 0))) := row_tr R2.out hb1
  have HB1 : Hid (Below w.heap.size w w1) := bel_tr HB.out hb1
  obtain ⟨x0, x1, x2⟩ := img_cells R0b.out
  clear hb1
  go_wp2_with fail
  refine (HGF.out _).mono ?_
  rintro e w2 ⟨rfl, hb2⟩
  have R2c : Hid (w2.heap[w.heap.size + 2]? = some (.cells zimg 37 (0, 0))) := row_tr R2b.out hb2
  have HB2 : Hid (Below w.heap.size w w2) := bel_tr HB1.out hb2
  clear hb2 x0 x1 x2
  go_wp2_with (refine wpList_store_rowW rfl 37 (.tmp 8) (.tmp 25) rfl (w.heap.size + 2) zimg rfl rfl 37 zimg R2c.out imgInfo rfl zimgAll w.heap.size w HB2.out (Nat.le_add_right _ _) ?_; intro W3 HW4 HW5 HW6)
  refine bodyPost_ret (results_row_tmp rfl _ _ (w.heap.size + 2) 37 zimg (0, 0) _ rfl HW4.out Try.underlying37 rfl imgInfo) rfl ?_
  exact ImgP.zero HW5.out
set_option maxHeartbeats 1000000 in
theorem rpart_bad3 {op : ByteArray} {A : Option Addr} {n c : Nat} {a : List Int} {W H X Y RW RH : Int} {P : Option Addr} {pn pc : Nat} (w : World) (HA : SI w .i64 A n a) (hbig : pn ≤ 140737488351232) (h0 : checkE op a = 0) (hg : GoodP W H pn) (hw : ¬ WithinP X Y RW RH W H) :
    Calls Try.prog 23 #[.string op, .slice A n c, .agg #[.int .i64 W, .int .i64 H, .slice P pn pc], .agg #[.int .i64 X, .int .i64 Y, .int .i64 RW, .int .i64 RH]] w (ImgP w 0 0 [] 2) := by
  obtain ⟨W0, hW0, r0, r1, r2, hs, hb⟩ := three_allocs w (.cells #[.int .i64 W, .int .i64 H, .slice P pn pc] 37) (.cells #[.int .i64 X, .int .i64 Y, .int .i64 RW, .int .i64 RH] 46) (.cells zimg 37)
  have HF : Hid (Calls Try.prog 17 #[.string op, .slice A n c] W0 (CheckP W0 0)) := by
    have := rcheck_any (op := op) (c := c) W0 (HA.below hb (Nat.le_refl _))
    rwa [h0] at this
  have HGF : Hid (∀ V, Calls Try.prog 25 #[.agg #[.int .i64 W, .int .i64 H, .slice P pn pc]] V (TestP V true)) := fun V => by
    have := rgood_any (W := W) (H := H) (P := P) (pn := pn) (pc := pc) V hbig
    rwa [decide_eq_true hg] at this
  have HWF : Hid (∀ V, Calls Try.prog 37 #[.int .i64 X, .int .i64 Y, .int .i64 RW, .int .i64 RH, .int .i64 W, .int .i64 H] V fun e w' => e = .returned (.bool false) ∧ V = w') := fun V => by
    have hF := hg.1
    unfold FitsP at hF
    have := within_any (x := X) (y := Y) (rw := RW) (rh := RH) V hF.2.2.1 hF.2.2.2.1
    rwa [decide_eq_false hw] at this
  have R0 := Lib.hid r0
  have R1 := Lib.hid r1
  have R2 := Lib.hid r2
  have HB := Lib.hid hb
  clear HA r0 r1 r2 hs hb h0 hg hw
  go_enter Try.func23, Try.ntmps23
  go_wp2_with fail
  unfold zimg at hW0
  rw [hW0]
  clear hW0
  refine HF.out.mono ?_
  rintro e w1 ⟨rfl, hb1⟩
  have R0b := Lib.hid (row_tr R0.out hb1)
  have R1b := Lib.hid (row_tr R1.out hb1)
  have R2b : Hid (w1.heap[w.heap.size + 2]? = some (.cells zimg 37 (0, 0))) := row_tr R2.out hb1
  have HB1 : Hid (Below w.heap.size w w1) := bel_tr HB.out hb1
  obtain ⟨x0, x1, x2⟩ := img_cells R0b.out
  clear hb1
  go_wp2_with fail
  refine (HGF.out _).mono ?_
  rintro e w2 ⟨rfl, hb2⟩
  have R2c : Hid (w2.heap[w.heap.size + 2]? = some (.cells zimg 37 (0, 0))) := row_tr R2b.out hb2
  have HB2 : Hid (Below w.heap.size w w2) := bel_tr HB1.out hb2
  have R0c := row_tr R0b.out hb2
  have R1c := row_tr R1b.out hb2
  clear hb2 x0 x1 x2
  have x0 := row_cell R0c 0
  have x1 := row_cell R0c 1
  have y0 := row_cell R1c 0
  have y1 := row_cell R1c 1
  have y2 := row_cell R1c 2
  have y3 := row_cell R1c 3
  clear R0c R1c
  go_wp2_with fail
  refine (HWF.out _).mono ?_
  rintro e w3 ⟨rfl, rfl⟩
  clear x0 x1 y0 y1 y2 y3
  go_wp2_with (refine wpList_store_rowW rfl 37 (.tmp 8) (.tmp 40) rfl (w.heap.size + 2) zimg rfl rfl 37 zimg R2c.out imgInfo rfl zimgAll w.heap.size w HB2.out (Nat.le_add_right _ _) ?_; intro W3 HW4 HW5 HW6)
  refine bodyPost_ret (results_row_tmp rfl _ _ (w.heap.size + 2) 37 zimg (0, 0) _ rfl HW4.out Try.underlying37 rfl imgInfo) rfl ?_
  exact ImgP.zero HW5.out
/-- the samples so far -/
def soFar (f : Nat → Int) (s : Nat) : List Int := (List.range s).map f
theorem soFar_len (f : Nat → Int) (s : Nat) : (soFar f s).length = s := by simp [soFar]
theorem soFar_succ (f : Nat → Int) (s : Nat) : soFar f (s + 1) = soFar f s ++ [f s] := by simp [soFar, List.range_succ]
theorem part_bound {y x k RW RH : Nat} (hy : y < RH) (hx : x < RW) (hk : k < 4) (hW : RW ≤ 4096) (hH : RH ≤ 4096) : 4 * (y * RW + x) + k < 67108864 := by
  have h1 : y * RW ≤ 4095 * 4096 := Nat.mul_le_mul (by omega) hW
  omega
theorem meas_up {p z : Nat} (h : p < z) : z - (((p + 1 : Nat) : Int)).toNat < z - ((p : Int)).toNat := by omega
theorem wrap_up {p z : Nat} (h : p < z) (hz : z ≤ 4096) : wrap64 ((p : Int) + 1) = ((p + 1 : Nat) : Int) := by rw [IntWalk.wrap64_in _ (by omega)]; rfl
set_option maxRecDepth 100000 in
set_option maxHeartbeats 4000000 in
theorem rpart_ok {op : ByteArray} {A : Option Addr} {n c i : Nat} {a : List Int} {W H X Y RW RH pn pc : Nat} {P : Option Addr} {pix : List Int} (w : World) (HA : SI w .i64 A n a) (h0 : checkE op a = 0) (hi : i < 9) (hop : op = nameF i) (hf : fitsB (bndF i) a = true)
    (HP : SI w .u16 P pn pix) (hwv : ∀ v ∈ pix, 0 ≤ v ∧ v < 65536) (hg : GoodP W H pn) (hw : WithinP X Y RW RH W H) :
    Calls Try.prog 23 #[.string op, .slice A n c, .agg #[.int .i64 W, .int .i64 H, .slice P pn pc], .agg #[.int .i64 X, .int .i64 Y, .int .i64 RW, .int .i64 RH]] w (ImgP w RW RH (soFar (outS i a W H pix X Y RW) (4 * RW * RH)) 0) := by
  have hbig : pn ≤ 140737488351232 := by have := HP.sz; simp only [kb] at this; omega
  obtain ⟨W0, hW0, r0, r1, r2, hs, hb⟩ := three_allocs w (.cells #[.int .i64 W, .int .i64 H, .slice P pn pc] 37) (.cells #[.int .i64 X, .int .i64 Y, .int .i64 RW, .int .i64 RH] 46) (.cells zimg 37)
  have HF : Hid (Calls Try.prog 17 #[.string op, .slice A n c] W0 (CheckP W0 0)) := by
    have := rcheck_any (op := op) (c := c) W0 (HA.below hb (Nat.le_refl _))
    rwa [h0] at this
  have HGF : Hid (∀ V, Calls Try.prog 25 #[.agg #[.int .i64 W, .int .i64 H, .slice P pn pc]] V (TestP V true)) := fun V => by
    have := rgood_any (W := W) (H := H) (P := P) (pn := pn) (pc := pc) V hbig
    rwa [decide_eq_true hg] at this
  obtain ⟨hF, hpe⟩ := hg
  unfold FitsP at hF
  have HWF : Hid (∀ V, Calls Try.prog 37 #[.int .i64 X, .int .i64 Y, .int .i64 RW, .int .i64 RH, .int .i64 W, .int .i64 H] V fun e w' => e = .returned (.bool true) ∧ V = w') := fun V => by
    have := within_any (x := X) (y := Y) (rw := RW) (rh := RH) V hF.2.2.1 hF.2.2.2.1
    rwa [decide_eq_true hw] at this
  unfold WithinP at hw
  have hW : 1 ≤ W ∧ W ≤ 4096 := by omega
  have hH : 1 ≤ H ∧ H ≤ 4096 := by omega
  have hpn : pn = 4 * W * H := by have : ((4 * W * H : Nat) : Int) = 4 * (W : Int) * (H : Int) := by push_cast; rfl
                                  omega
  have HBD : Hid (X + RW ≤ W ∧ Y + RH ≤ H ∧ 1 ≤ RW ∧ 1 ≤ RH ∧ W ≤ 4096 ∧ H ≤ 4096) := by show _ ∧ _; omega
  have HSM : Hid (∀ V (px py k : Nat), Below w.heap.size w V → px < W → py < H → k < 4 → Calls Try.prog 38 #[.string op, .slice A n c, .agg #[.int .i64 W, .int .i64 H, .slice P pn pc], .int .i64 px, .int .i64 py, .int .i64 k] V (DoP V (sampF i a W H pix px py k))) := fun V px py k hV h1 h2 h3 =>
    sample_any V hi hop hf (HA.below hV (Nat.le_refl _)) (HP.below hV (Nat.le_refl _)) hwv hW hH hpn h1 h2 h3
  have HWV := Lib.hid hwv
  have R0 := Lib.hid r0
  have R1 := Lib.hid r1
  have R2 := Lib.hid r2
  have HB := Lib.hid hb
  obtain ⟨zx, hzx⟩ : ∃ z, X + RW = z := ⟨_, rfl⟩
  obtain ⟨zy, hzy⟩ : ∃ z, Y + RH = z := ⟨_, rfl⟩
  have HZX := Lib.hid hzx
  have HZY := Lib.hid hzy
  have HWX : Hid (wrap64 ((X : Int) + (RW : Int)) = (zx : Int)) := by show _ = _; rw [show (X : Int) + (RW : Int) = (zx : Int) by omega]; exact IntWalk.wrap64_in _ (by omega)
  have HWY : Hid (wrap64 ((Y : Int) + (RH : Int)) = (zy : Int)) := by show _ = _; rw [show (Y : Int) + (RH : Int) = (zy : Int) by omega]; exact IntWalk.wrap64_in _ (by omega)
  clear HA r0 r1 r2 hs hb h0 hf HP hwv hF hpe hw hbig hW hH hpn hop hzx hzy
  go_enter Try.func23, Try.ntmps23
  go_wp2_with fail
  unfold zimg at hW0
  rw [hW0]
  clear hW0
  refine HF.out.mono ?_
  rintro e w1 ⟨rfl, hb1⟩
  have R0b := Lib.hid (row_tr R0.out hb1)
  have R1b := Lib.hid (row_tr R1.out hb1)
  have R2b : Hid (w1.heap[w.heap.size + 2]? = some (.cells zimg 37 (0, 0))) := row_tr R2.out hb1
  have HB1 : Hid (Below w.heap.size w w1) := bel_tr HB.out hb1
  obtain ⟨x0, x1, x2⟩ := img_cells R0b.out
  clear hb1
  go_wp2_with fail
  refine (HGF.out _).mono ?_
  rintro e w2 ⟨rfl, hb2⟩
  have R2c : Hid (w2.heap[w.heap.size + 2]? = some (.cells zimg 37 (0, 0))) := row_tr R2b.out hb2
  have HB2 : Hid (Below w.heap.size w w2) := bel_tr HB1.out hb2
  have R0c := Lib.hid (row_tr R0b.out hb2)
  have R1c := Lib.hid (row_tr R1b.out hb2)
  clear hb2 x0 x1 x2 R0b R1b R2b HB1 HB R0 R1 R2
  have x0 := row_cell R0c.out 0
  have x1 := row_cell R0c.out 1
  have y0 := row_cell R1c.out 0
  have y1 := row_cell R1c.out 1
  have y2 := row_cell R1c.out 2
  have y3 := row_cell R1c.out 3
  go_wp2_with fail
  refine (HWF.out _).mono ?_
  rintro e w3 ⟨rfl, rfl⟩
  clear x0 x1 y0 y1 y2 y3
  have y2 := row_cell R1c.out 2
  have y3 := row_cell R1c.out 3
  go_upto_region 9 with (fail)
  clear y2 y3
  obtain ⟨wS, hwS⟩ : ∃ v, w2.alloc (.cells #[.int .i64 RW, .int .i64 RH, .slice none 0 0] 37) = v := ⟨_, rfl⟩
  obtain ⟨gi, hgi⟩ : ∃ v, w2.heap.size = v := ⟨_, rfl⟩
  have S0 : Hid (wS.heap[w.heap.size]? = some (.cells #[.int .i64 W, .int .i64 H, .slice P pn pc] 37 (0, 0))) := by show _ = _; rw [← hwS]; exact row_al R0c.out
  have S1 : Hid (wS.heap[w.heap.size + 1]? = some (.cells #[.int .i64 X, .int .i64 Y, .int .i64 RW, .int .i64 RH] 46 (0, 0))) := by show _ = _; rw [← hwS]; exact row_al R1c.out
  have S2 : Hid (wS.heap[w.heap.size + 2]? = some (.cells zimg 37 (0, 0))) := by show _ = _; rw [← hwS]; exact row_al R2c.out
  have HGI : Hid (w.heap.size + 2 < gi) := by show _ < _; rw [← hgi]; exact (Array.getElem?_eq_some_iff.1 R2c.out).1
  have HBS : Hid (Below w.heap.size w wS) := by show Below _ _ _; rw [← hwS]; exact bel_al HB2.out _
  have HRP0 : Hid (Rp wS wS gi RW RH none 0 (soFar (outS i a W H pix X Y RW) (4 * (0 * RW)))) := by
    show Rp _ _ _ _ _ _ _ _
    rw [Nat.zero_mul]
    refine ⟨Below.refl _ _, ?_, World.ownsRow_nil _ _ _ _⟩
    rw [← hwS, ← hgi]
    exact heap_alloc_new _ _
  rw [hwS, hgi]
  clear hwS hgi R0c R1c R2c HB2
  have z1 := row_cell S1.out 1
  go_wp2_with fail
  clear z1
  go_loopw [12] (fun s12 wr => ∃ (y py : Nat) (A3 : Option Addr) (c3 : Nat), y ≤ RH ∧ Y + y = py ∧ s12 = .int .i64 py ∧ Rp wS wr gi RW RH A3 c3 (soFar (outS i a W H pix X Y RW) (4 * (y * RW)))) (fun s12 _ => zy - (intOf s12).toNat)
  case atStart => exact ⟨0, Y, none, 0, by omega, rfl, rfl, HRP0.out⟩
  case round =>
    clear HRP0
    obtain ⟨y, py, A3, c3, hyR, hpy, rfl, hrp⟩ := hrel
    have HRP := Lib.hid hrp
    have HT1 : Hid (wr.heap[w.heap.size + 1]? = some (.cells #[.int .i64 X, .int .i64 Y, .int .i64 RW, .int .i64 RH] 46 (0, 0))) := (hrp.bel.block _ (by have := HGI.out; omega)).trans S1.out
    have z1 := row_cell HT1.out 1
    have z3 := row_cell HT1.out 3
    have z0 := row_cell HT1.out 0
    have HPY := Lib.hid hpy
    clear hrp
    by_cases hlt : y < RH
    · have d0 : decide ((py : Int) < (zy : Int)) = true := decide_eq_true (by have := HZY.out; omega)
      have e0 : decide (py < zy) = true := decide_eq_true (by have := HZY.out; omega)
      have HLY := Lib.hid hlt
      clear hpy hyR hlt
      have wy := HWY.out
      go_wp2_with fail
      clear z0 z1 z3
      try simp only [wy]
      clear wy
      go_loopw [13] (fun s13 wr => ∃ (x px : Nat) (A3 : Option Addr) (c3 : Nat), x ≤ RW ∧ X + x = px ∧ s13 = .int .i64 px ∧ Rp wS wr gi RW RH A3 c3 (soFar (outS i a W H pix X Y RW) (4 * (y * RW + x)))) (fun s13 _ => zx - (intOf s13).toNat)
      case atStart => exact ⟨0, X, A3, c3, by omega, rfl, rfl, HRP.out⟩
      case round =>
        clear HRP
        obtain ⟨x, px, A3, c3, hxR, hpx, rfl, hrp⟩ := hrel
        have HRP := Lib.hid hrp
        have HT1 : Hid (wr.heap[w.heap.size + 1]? = some (.cells #[.int .i64 X, .int .i64 Y, .int .i64 RW, .int .i64 RH] 46 (0, 0))) := (hrp.bel.block _ (by have := HGI.out; omega)).trans S1.out
        have z0 := row_cell HT1.out 0
        have z2 := row_cell HT1.out 2
        have HPX := Lib.hid hpx
        clear hrp
        by_cases hlx : x < RW
        · have d1 : decide ((px : Int) < (zx : Int)) = true := decide_eq_true (by have := HZX.out; omega)
          have e1 : decide (px < zx) = true := decide_eq_true (by have := HZX.out; omega)
          have HLX := Lib.hid hlx
          clear hpx hxR hlx
          have wx := HWX.out
          go_wp2_with fail
          clear z0 z2
          try simp only [wx]
          clear wx
          go_loopw [14] (fun s14 wr => ∃ (k : Nat) (A3 : Option Addr) (c3 : Nat), k ≤ 4 ∧ s14 = .int .i64 k ∧ Rp wS wr gi RW RH A3 c3 (soFar (outS i a W H pix X Y RW) (4 * (y * RW + x) + k))) (fun s14 _ => 4 - (intOf s14).toNat)
          case atStart => exact ⟨0, A3, c3, by omega, rfl, HRP.out⟩
          case round =>
            clear HRP
            obtain ⟨k, A3, c3, hk4, rfl, hrp⟩ := hrel
            have HRP := Lib.hid hrp
            by_cases hlk : k < 4
            · have d2 : decide ((k : Int) < 4) = true := decide_eq_true (by omega)
              have HIM : Hid (wr.heap[w.heap.size]? = some (.cells #[.int .i64 W, .int .i64 H, .slice P pn pc] 37 (0, 0))) := (hrp.bel.block _ (by have := HGI.out; omega)).trans S0.out
              have HS1 := Lib.hid (soFar_succ (outS i a W H pix X Y RW) (4 * (y * RW + x) + k))
              have hfs : outS i a W H pix X Y RW (4 * (y * RW + x) + k) = sampF i a W H pix px py k := by
                rw [← HPX.out, ← HPY.out]
                exact outT_at (fun x y k => sampF i a W H pix (X + x) (Y + y) k) y HLX.out hlk
              have HSV : Hid (∀ V, Below wr.heap.size wr V → Calls Try.prog 38 #[.string op, .slice A n c, .agg #[.int .i64 W, .int .i64 H, .slice P pn pc], .int .i64 px, .int .i64 py, .int .i64 k] V (DoP V (sampF i a W H pix px py k))) := fun V hV =>
                HSM.out V px py k ((HBS.out.trans (hrp.bel.mono (by have := HGI.out; omega))).trans (hV.mono (by have := hrp.lt; have := HGI.out; omega))) (by have := HPX.out; have := HLX.out; have := HBD.out; omega) (by have := HPY.out; have := HLY.out; have := HBD.out; omega) hlk
              have hlen : (soFar (outS i a W H pix X Y RW) (4 * (y * RW + x) + k)).length ≤ 67108864 := by
                rw [soFar_len]
                exact Nat.le_of_lt (part_bound HLY.out HLX.out hlk (by have := HBD.out; omega) (by have := HBD.out; omega))
              rw [hfs] at HS1
              have hv := sampF_in (i := i) (W := W) (H := H) (x := px) (y := py) (k := k) (a := a) HWV.out
              have y2 := row_cell hrp.row 2
              generalize soFar (outS i a W H pix X Y RW) (4 * (y * RW + x) + k) = l1 at *
              generalize sampF i a W H pix px py k = v at *
              have wv : IntKind.u16.wrap v = v := by rw [IntKind.wrap_u16]; omega
              clear hrp hfs hv
              go_upto_region 18 with (fail)
--<region
              refine wp_region_noPanic ?_
              refine wp_region_held_drew (S := fun w' => w'.cell? ⟨w.heap.size, 0, none⟩ = some (.int .i64 W) ∧ w'.cell? ⟨w.heap.size, 1, none⟩ = some (.int .i64 H) ∧ w'.cell? ⟨w.heap.size, 2, none⟩ = some (.slice P pn pc)) (by kernel_rfl) (img_cells (row_dr HIM.out)) (fun hHeld => ?_)
              refine wpAnyH_take (i := 0) (v := .pointer (some ⟨gi, 2, none⟩)) rfl (by kernel_rfl) (by kernel_rfl) (by kernel_rfl) (fun _ _ _ h => h) (Or.inl ⟨by rfl, ?_⟩) hHeld ?_
              · intro wz hSw; (try dsimp only at hSw); obtain ⟨s0, s1, s2⟩ := hSw; go_simp
              try simp only [Act.put, List.setIfInBounds_toArray, List.set_cons_zero, List.set_cons_succ]
              refine wpAnyH_take (i := 2) (v := .string op) rfl (by kernel_rfl) (by kernel_rfl) (by kernel_rfl) (fun _ _ _ h => h) (Or.inl ⟨by rfl, ?_⟩) hHeld ?_
              · intro wz hSw; (try dsimp only at hSw); obtain ⟨s0, s1, s2⟩ := hSw; go_simp
              try simp only [Act.put, List.setIfInBounds_toArray, List.set_cons_zero, List.set_cons_succ]
              refine wpAnyH_take (i := 3) (v := .slice A n c) rfl (by kernel_rfl) (by kernel_rfl) (by kernel_rfl) (fun _ _ _ h => h) (Or.inl ⟨by rfl, ?_⟩) hHeld ?_
              · intro wz hSw; (try dsimp only at hSw); obtain ⟨s0, s1, s2⟩ := hSw; go_simp
              try simp only [Act.put, List.setIfInBounds_toArray, List.set_cons_zero, List.set_cons_succ]
              refine wpAnyH_take (i := 4) (v := .agg #[.int .i64 W, .int .i64 H, .slice P pn pc]) rfl (by kernel_rfl) (by kernel_rfl) (by kernel_rfl) (fun _ _ _ h => h) (Or.inl ⟨by rfl, ?_⟩) hHeld ?_
              · intro wz hSw; (try dsimp only at hSw); obtain ⟨s0, s1, s2⟩ := hSw; go_simp
              try simp only [Act.put, List.setIfInBounds_toArray, List.set_cons_zero, List.set_cons_succ]
              refine wpAnyH_take (i := 5) (v := .int .i64 px) rfl (by kernel_rfl) (by kernel_rfl) (by kernel_rfl) (fun _ _ _ h => h) (Or.inl ⟨by rfl, ?_⟩) hHeld ?_
              · intro wz hSw; (try dsimp only at hSw); obtain ⟨s0, s1, s2⟩ := hSw; go_simp
              try simp only [Act.put, List.setIfInBounds_toArray, List.set_cons_zero, List.set_cons_succ]
              refine wpAnyH_take (i := 6) (v := .int .i64 py) rfl (by kernel_rfl) (by kernel_rfl) (by kernel_rfl) (fun _ _ _ h => h) (Or.inl ⟨by rfl, ?_⟩) hHeld ?_
              · intro wz hSw; (try dsimp only at hSw); obtain ⟨s0, s1, s2⟩ := hSw; go_simp
              try simp only [Act.put, List.setIfInBounds_toArray, List.set_cons_zero, List.set_cons_succ]
              refine wpAnyH_take (i := 7) (v := .int .i64 k) rfl (by kernel_rfl) (by kernel_rfl) (by kernel_rfl) (fun _ _ _ h => h) (Or.inl ⟨by rfl, ?_⟩) hHeld ?_
              · intro wz hSw; (try dsimp only at hSw); obtain ⟨s0, s1, s2⟩ := hSw; go_simp
              try simp only [Act.put, List.setIfInBounds_toArray, List.set_cons_zero, List.set_cons_succ]
              refine wpAnyH_ready (rs := [1, 8]) (by kernel_rfl) (by simp) ?_
              refine AllReadyH.cons rfl (fun K hK => ?_) (AllReadyH.cons rfl (fun K hK => ?_) AllReadyH.nil)
              · go_simp
                refine hK.out _ _ (img_cells (row_dr HIM.out)) (fun hHeld => ?_)
                clear hK K
                try simp only [Act.put, List.setIfInBounds_toArray, List.set_cons_zero, List.set_cons_succ]
                refine wpAnyH_ready (rs := [8]) (by kernel_rfl) (by simp) ?_
                refine AllReadyH.cons rfl (fun K hK => ?_) AllReadyH.nil
                go_simp
                refine (HSV.out _ (Below.refl _ _).drew).mono ?_
                rintro e w6 ⟨rfl, hb6⟩
                have HB6 : Hid (Below wr.heap.size wr w6) := (Below.refl wr.heap.size wr).drew.trans hb6
                have HR6 := Lib.hid (HRP.out.on HB6.out)
                have y2 := row_cell HR6.out.row 2
                have HIM6 := Lib.hid (row_tr HIM.out HB6.out)
                clear hb6
                go_wp2_with fail
                refine hK.out _ _ (img_cells HIM6.out) (fun hHeld => ?_)
                clear hK K
                try simp only [Act.put, List.setIfInBounds_toArray, List.set_cons_zero, List.set_cons_succ]
                refine wpAnyH_take (i := 9) (v := .int .u16 v) rfl (by kernel_rfl) (by kernel_rfl) (by kernel_rfl) (fun _ _ _ h => h) (Or.inl ⟨by rfl, ?_⟩) hHeld ?_
                · intro wz hSw; (try dsimp only at hSw); obtain ⟨s0, s1, s2⟩ := hSw; go_simp
                try simp only [Act.put, List.setIfInBounds_toArray, List.set_cons_zero, List.set_cons_succ]
                refine wpAnyH_ready (rs := [10]) (by kernel_rfl) (by simp) ?_
                refine AllReadyH.cons rfl (fun K hK => ?_) AllReadyH.nil
                go_simp
                refine hK.out _ _ (img_cells (row_al HIM6.out)) (fun hHeld => ?_)
                clear hK K
                try simp only [Act.put, List.setIfInBounds_toArray, List.set_cons_zero, List.set_cons_succ]
                refine wpAnyH_ready (rs := [11]) (by kernel_rfl) (by simp) ?_
                refine AllReadyH.cons rfl (fun K hK => ?_) AllReadyH.nil
                refine step_push (by rfl) (.tmp 73) (.tmp 82) _ (by rfl) gi 53 1 2 _ Try.underlying35 infoU16 rfl (by omega) (.slice A3 l1.length c3) l1.length _ (by rfl) (HR6.out.own.alloc _) w6.heap.size 1 [.int .u16 v] 53 (by rfl) (by rfl) (heap_alloc_new w6 _) (by simp [Value.oneCell']) (by unfold maxLen; omega) (by omega) (by have := HR6.out.lt; simp; omega) (w6.heap.size + 1) (by simp) ?_
                intro gg cap w5 hown5 hg5 hat5 hlt5
                have HPS := Lib.hid (HR6.out.push hown5 hg5)
                have HI5 : Hid (w5.heap[w.heap.size]? = some (.cells #[.int .i64 W, .int .i64 H, .slice P pn pc] 37 (0, 0))) := (hg5.block _ (by have := HGI.out; have := HR6.out.lt; simp; omega) (own_ne HR6.out.own HIM6.out (by decide))).trans (row_al HIM6.out)
                have y5 := row_cell HPS.out.1 2
                have y6 := row_frozen HPS.out.1 2
                refine hK.out _ _ (img_cells HI5.out) (fun hHeld => ?_)
                clear hK K
                try simp only [Act.put, List.setIfInBounds_toArray, List.set_cons_zero, List.set_cons_succ]
                refine wpAnyH_take (i := 12) (v := .pointer (some ⟨gi, 2, none⟩)) rfl (by kernel_rfl) (by kernel_rfl) (by kernel_rfl) (fun _ _ _ h => h) (Or.inl ⟨by rfl, ?_⟩) hHeld ?_
                · intro wz hSw; (try dsimp only at hSw); obtain ⟨s0, s1, s2⟩ := hSw; go_simp
                try simp only [Act.put, List.setIfInBounds_toArray, List.set_cons_zero, List.set_cons_succ]
                refine wpAnyH_ready (rs := [13]) (by kernel_rfl) (by simp) ?_
                refine AllReadyH.cons rfl (fun K hK => ?_) AllReadyH.nil
                go_simp
                refine hK.out _ _ (img_cells ((Below.heap_setCell _ _ _ _ (by show w.heap.size ≠ gi; have := HGI.out; omega)).trans HI5.out)) (fun hHeld => ?_)
                clear hK K
                try simp only [Act.put, List.setIfInBounds_toArray, List.set_cons_zero, List.set_cons_succ]
                refine wpAnyH_done (by kernel_rfl) ?_ _
                refine NoPanic.normal ?_
                have HEND := Lib.hid HPS.out.2
                clear hown5 hg5 hat5 hlt5 y5 y6 y2
                go_wp2_with fail
                go_roundw
                case rel => exact ⟨k + 1, some ⟨gg, 0, none⟩, cap, by omega, by go_num, by rw [← Nat.add_assoc, HS1.out]; exact HEND.out⟩
                case measure => simp [intOf]; omega
              · go_simp
                refine (HSV.out _ (Below.refl _ _).drew).mono ?_
                rintro e w6 ⟨rfl, hb6⟩
                have HB6 : Hid (Below wr.heap.size wr w6) := (Below.refl wr.heap.size wr).drew.trans hb6
                have HR6 := Lib.hid (HRP.out.on HB6.out)
                have y2 := row_cell HR6.out.row 2
                have HIM6 := Lib.hid (row_tr HIM.out HB6.out)
                clear hb6
                go_wp2_with fail
                refine hK.out _ _ (img_cells HIM6.out) (fun hHeld => ?_)
                clear hK K
                try simp only [Act.put, List.setIfInBounds_toArray, List.set_cons_zero, List.set_cons_succ]
                refine wpAnyH_take (i := 9) (v := .int .u16 v) rfl (by kernel_rfl) (by kernel_rfl) (by kernel_rfl) (fun _ _ _ h => h) (Or.inl ⟨by rfl, ?_⟩) hHeld ?_
                · intro wz hSw; (try dsimp only at hSw); obtain ⟨s0, s1, s2⟩ := hSw; go_simp
                try simp only [Act.put, List.setIfInBounds_toArray, List.set_cons_zero, List.set_cons_succ]
                refine wpAnyH_ready (rs := [1, 10]) (by kernel_rfl) (by simp) ?_
                refine AllReadyH.cons rfl (fun K hK => ?_) (AllReadyH.cons rfl (fun K hK => ?_) AllReadyH.nil)
                · go_simp
                  refine hK.out _ _ (img_cells HIM6.out) (fun hHeld => ?_)
                  clear hK K
                  try simp only [Act.put, List.setIfInBounds_toArray, List.set_cons_zero, List.set_cons_succ]
                  refine wpAnyH_ready (rs := [10]) (by kernel_rfl) (by simp) ?_
                  refine AllReadyH.cons rfl (fun K hK => ?_) AllReadyH.nil
                  go_simp
                  refine hK.out _ _ (img_cells (row_al HIM6.out)) (fun hHeld => ?_)
                  clear hK K
                  try simp only [Act.put, List.setIfInBounds_toArray, List.set_cons_zero, List.set_cons_succ]
                  refine wpAnyH_ready (rs := [11]) (by kernel_rfl) (by simp) ?_
                  refine AllReadyH.cons rfl (fun K hK => ?_) AllReadyH.nil
                  refine step_push (by rfl) (.tmp 73) (.tmp 82) _ (by rfl) gi 53 1 2 _ Try.underlying35 infoU16 rfl (by omega) (.slice A3 l1.length c3) l1.length _ (by rfl) (HR6.out.own.alloc _) w6.heap.size 1 [.int .u16 v] 53 (by rfl) (by rfl) (heap_alloc_new w6 _) (by simp [Value.oneCell']) (by unfold maxLen; omega) (by omega) (by have := HR6.out.lt; simp; omega) (w6.heap.size + 1) (by simp) ?_
                  intro gg cap w5 hown5 hg5 hat5 hlt5
                  have HPS := Lib.hid (HR6.out.push hown5 hg5)
                  have HI5 : Hid (w5.heap[w.heap.size]? = some (.cells #[.int .i64 W, .int .i64 H, .slice P pn pc] 37 (0, 0))) := (hg5.block _ (by have := HGI.out; have := HR6.out.lt; simp; omega) (own_ne HR6.out.own HIM6.out (by decide))).trans (row_al HIM6.out)
                  have y5 := row_cell HPS.out.1 2
                  have y6 := row_frozen HPS.out.1 2
                  refine hK.out _ _ (img_cells HI5.out) (fun hHeld => ?_)
                  clear hK K
                  try simp only [Act.put, List.setIfInBounds_toArray, List.set_cons_zero, List.set_cons_succ]
                  refine wpAnyH_take (i := 12) (v := .pointer (some ⟨gi, 2, none⟩)) rfl (by kernel_rfl) (by kernel_rfl) (by kernel_rfl) (fun _ _ _ h => h) (Or.inl ⟨by rfl, ?_⟩) hHeld ?_
                  · intro wz hSw; (try dsimp only at hSw); obtain ⟨s0, s1, s2⟩ := hSw; go_simp
                  try simp only [Act.put, List.setIfInBounds_toArray, List.set_cons_zero, List.set_cons_succ]
                  refine wpAnyH_ready (rs := [13]) (by kernel_rfl) (by simp) ?_
                  refine AllReadyH.cons rfl (fun K hK => ?_) AllReadyH.nil
                  go_simp
                  refine hK.out _ _ (img_cells ((Below.heap_setCell _ _ _ _ (by show w.heap.size ≠ gi; have := HGI.out; omega)).trans HI5.out)) (fun hHeld => ?_)
                  clear hK K
                  try simp only [Act.put, List.setIfInBounds_toArray, List.set_cons_zero, List.set_cons_succ]
                  refine wpAnyH_done (by kernel_rfl) ?_ _
                  refine NoPanic.normal ?_
                  have HEND := Lib.hid HPS.out.2
                  clear hown5 hg5 hat5 hlt5 y5 y6 y2
                  go_wp2_with fail
                  go_roundw
                  case rel => exact ⟨k + 1, some ⟨gg, 0, none⟩, cap, by omega, by go_num, by rw [← Nat.add_assoc, HS1.out]; exact HEND.out⟩
                  case measure => simp [intOf]; omega
                · go_simp
                  refine hK.out _ _ (img_cells (row_al HIM6.out)) (fun hHeld => ?_)
                  clear hK K
                  try simp only [Act.put, List.setIfInBounds_toArray, List.set_cons_zero, List.set_cons_succ]
                  have y2a : (w6.alloc (.cells #[.int .u16 v] 53)).cell? ⟨gi, 2, none⟩ = some (.slice A3 l1.length c3) := row_cell (row_al HR6.out.row) 2
                  refine wpAnyH_ready (rs := [1]) (by kernel_rfl) (by simp) ?_
                  refine AllReadyH.cons rfl (fun K hK => ?_) AllReadyH.nil
                  go_simp
                  refine hK.out _ _ (img_cells (row_al HIM6.out)) (fun hHeld => ?_)
                  clear hK K
                  try simp only [Act.put, List.setIfInBounds_toArray, List.set_cons_zero, List.set_cons_succ]
                  clear y2a
                  refine wpAnyH_ready (rs := [11]) (by kernel_rfl) (by simp) ?_
                  refine AllReadyH.cons rfl (fun K hK => ?_) AllReadyH.nil
                  refine step_push (by rfl) (.tmp 73) (.tmp 82) _ (by rfl) gi 53 1 2 _ Try.underlying35 infoU16 rfl (by omega) (.slice A3 l1.length c3) l1.length _ (by rfl) (HR6.out.own.alloc _) w6.heap.size 1 [.int .u16 v] 53 (by rfl) (by rfl) (heap_alloc_new w6 _) (by simp [Value.oneCell']) (by unfold maxLen; omega) (by omega) (by have := HR6.out.lt; simp; omega) (w6.heap.size + 1) (by simp) ?_
                  intro gg cap w5 hown5 hg5 hat5 hlt5
                  have HPS := Lib.hid (HR6.out.push hown5 hg5)
                  have HI5 : Hid (w5.heap[w.heap.size]? = some (.cells #[.int .i64 W, .int .i64 H, .slice P pn pc] 37 (0, 0))) := (hg5.block _ (by have := HGI.out; have := HR6.out.lt; simp; omega) (own_ne HR6.out.own HIM6.out (by decide))).trans (row_al HIM6.out)
                  have y5 := row_cell HPS.out.1 2
                  have y6 := row_frozen HPS.out.1 2
                  refine hK.out _ _ (img_cells HI5.out) (fun hHeld => ?_)
                  clear hK K
                  try simp only [Act.put, List.setIfInBounds_toArray, List.set_cons_zero, List.set_cons_succ]
                  refine wpAnyH_take (i := 12) (v := .pointer (some ⟨gi, 2, none⟩)) rfl (by kernel_rfl) (by kernel_rfl) (by kernel_rfl) (fun _ _ _ h => h) (Or.inl ⟨by rfl, ?_⟩) hHeld ?_
                  · intro wz hSw; (try dsimp only at hSw); obtain ⟨s0, s1, s2⟩ := hSw; go_simp
                  try simp only [Act.put, List.setIfInBounds_toArray, List.set_cons_zero, List.set_cons_succ]
                  refine wpAnyH_ready (rs := [13]) (by kernel_rfl) (by simp) ?_
                  refine AllReadyH.cons rfl (fun K hK => ?_) AllReadyH.nil
                  go_simp
                  refine hK.out _ _ (img_cells ((Below.heap_setCell _ _ _ _ (by show w.heap.size ≠ gi; have := HGI.out; omega)).trans HI5.out)) (fun hHeld => ?_)
                  clear hK K
                  try simp only [Act.put, List.setIfInBounds_toArray, List.set_cons_zero, List.set_cons_succ]
                  refine wpAnyH_done (by kernel_rfl) ?_ _
                  refine NoPanic.normal ?_
                  have HEND := Lib.hid HPS.out.2
                  clear hown5 hg5 hat5 hlt5 y5 y6 y2
                  go_wp2_with fail
                  go_roundw
                  case rel => exact ⟨k + 1, some ⟨gg, 0, none⟩, cap, by omega, by go_num, by rw [← Nat.add_assoc, HS1.out]; exact HEND.out⟩
                  case measure => simp [intOf]; omega
--region>
            · obtain rfl : k = 4 := by omega
              have HE : Hid (4 * (y * RW + (x + 1)) = 4 * (y * RW + x) + 4) := by show _ = _; omega
              clear hrp
              go_wp2_with fail
              go_roundw
              case rel => exact ⟨x + 1, px + 1, A3, c3, by have := HLX.out; omega, by have := HPX.out; omega, by first | rfl | (congr 1; rw [IntWalk.wrap64_in _ (by have := HBD.out; have := HPX.out; have := HLX.out; omega)]; rfl), by rw [HE.out]; exact HRP.out⟩
              case measure => (have hq : px < zx := (by have := HZX.out; have := HPX.out; have := HLX.out; omega); rw [wrap_up hq (by have := HZX.out; have := HBD.out; omega)]; exact meas_up hq)
        · obtain rfl : x = RW := by omega
          have d1 : decide ((px : Int) < (zx : Int)) = false := decide_eq_false (by have := HZX.out; omega)
          have e1 : decide (px < zx) = false := decide_eq_false (by have := HZX.out; omega)
          have HE : Hid (4 * ((y + 1) * x) = 4 * (y * x + x)) := by show _ = _; rw [Nat.add_mul, Nat.one_mul]
          clear hpx hxR hlx
          have wx := HWX.out
          go_wp2_with fail
          clear z0 z2 wx
          go_roundw
          case rel => exact ⟨y + 1, py + 1, A3, c3, by have := HLY.out; omega, by have := HPY.out; omega, by first | rfl | (congr 1; rw [IntWalk.wrap64_in _ (by have := HBD.out; have := HPY.out; have := HLY.out; omega)]; rfl), by rw [HE.out]; exact HRP.out⟩
          case measure => (have hq : py < zy := (by have := HZY.out; have := HPY.out; have := HLY.out; omega); rw [wrap_up hq (by have := HZY.out; have := HBD.out; omega)]; exact meas_up hq)
    · obtain rfl : y = RH := by omega
      have d0 : decide ((py : Int) < (zy : Int)) = false := decide_eq_false (by have := HZY.out; omega)
      have e0 : decide (py < zy) = false := decide_eq_false (by have := HZY.out; omega)
      have CZ : Hid (wr.heap[w.heap.size + 2]? = some (.cells zimg 37 (0, 0))) := (HRP.out.bel.block _ (by have := HGI.out; omega)).trans S2.out
      have HN : Hid (4 * (y * RW) = 4 * RW * y) := by show _ = _; rw [Nat.mul_comm y RW, Nat.mul_assoc]
      rw [HN.out] at HRP
      have q0 := row_cell HRP.out.row 0
      have q1 := row_cell HRP.out.row 1
      have q2 := row_cell HRP.out.row 2
      have HOI : Hid ((#[.int .i64 RW, .int .i64 y, .slice A3 (soFar (outS i a W H pix X Y RW) (4 * RW * y)).length c3] : Array Value).all (·.oneCell') = true) := by show _ = _; simp [Value.oneCell']
      clear hpy hyR hlt
      have wy := HWY.out
      generalize soFar (outS i a W H pix X Y RW) (4 * RW * y) = l1 at *
      go_wp2_with (refine wpList_store_row rfl 37 (.tmp 8) (.tmp 85) rfl (w.heap.size + 2) #[.int .i64 RW, .int .i64 y, .slice A3 l1.length c3] rfl rfl 37 zimg CZ.out imgInfo rfl HOI.out ?_)
      refine bodyPost_ret (results_row_tmp rfl _ _ (w.heap.size + 2) 37 #[.int .i64 RW, .int .i64 y, .slice A3 l1.length c3] (0, 0) _ rfl (setRow_heap _ _ _ _ _ _ CZ.out) Try.underlying37 rfl imgInfo) rfl ?_
      refine ⟨below_setRow (HBS.out.trans (HRP.out.bel.mono (by have := HGI.out; omega))) (Nat.le_add_right _ _) _, A3, c3, by first | rfl | simp, ?_⟩
      exact (own_base HRP.out.own (by have := HGI.out; omega)).kept (grown_row _ _ _) (.inr (own_ne HRP.out.own CZ.out (by decide)).symm)
theorem rpart_any {op : ByteArray} {A : Option Addr} {n c : Nat} {a : List Int} {W H X Y RW RH : Int} {pn pc : Nat} {P : Option Addr} {pix : List Int} (w : World) (HA : SI w .i64 A n a) (HP : SI w .u16 P pn pix) (hwv : ∀ v ∈ pix, 0 ≤ v ∧ v < 65536) :
    Calls Try.prog 23 #[.string op, .slice A n c, .agg #[.int .i64 W, .int .i64 H, .slice P pn pc], .agg #[.int .i64 X, .int .i64 Y, .int .i64 RW, .int .i64 RH]] w (AnsP w RW RH (partL op a W H pix X Y RW RH) (partE op a W H pn X Y RW RH)) := by
  have hbig : pn ≤ 140737488351232 := by have := HP.sz; simp only [kb] at this; omega
  by_cases h0 : checkE op a = 0
  · by_cases hg : GoodP W H pn
    · by_cases hw : WithinP X Y RW RH W H
      · have hE : partE op a W H pn X Y RW RH = 0 := by unfold partE; simp [h0, hg, hw]
        unfold AnsP
        rw [if_pos hE]
        obtain ⟨i, hi, hid, hop, hf⟩ := check_ok h0
        obtain ⟨W, H, rfl, rfl⟩ := nat_of hg
        have hw2 := hw
        unfold WithinP at hw2
        obtain ⟨X, rfl⟩ := Int.eq_ofNat_of_zero_le (show 0 ≤ X by omega)
        obtain ⟨Y, rfl⟩ := Int.eq_ofNat_of_zero_le (show 0 ≤ Y by omega)
        obtain ⟨RW, rfl⟩ := Int.eq_ofNat_of_zero_le (show 0 ≤ RW by omega)
        obtain ⟨RH, rfl⟩ := Int.eq_ofNat_of_zero_le (show 0 ≤ RH by omega)
        have := rpart_ok (c := c) (pc := pc) w HA h0 hi hop hf HP hwv hg hw
        unfold partL
        rw [hid]
        simpa [soFar] using this
      · have hE : partE op a W H pn X Y RW RH = 2 := by unfold partE; simp [h0, hg, hw]
        unfold AnsP
        rw [hE, if_neg (by omega)]
        exact rpart_bad3 w HA hbig h0 hg hw
    · have hE : partE op a W H pn X Y RW RH = 6 := by unfold partE; simp [h0, hg]
      unfold AnsP
      rw [hE, if_neg (by omega)]
      exact rpart_bad2 w HA hbig h0 hg
  · have hE : partE op a W H pn X Y RW RH = checkE op a := by unfold partE; simp [h0]
    unfold AnsP
    rw [hE, if_neg h0]
    exact rpart_bad1 w HA h0
--<more
end Go.Proofs.Ytogmlcgiajigfaa.Ard
