/-
  Walks: Part, where it answers an image.
-/
import Derived.Test.YtogmlcgiajigfaaArdU
import Derived.Test.YtogmlcgiajigfaaArdZ
set_option linter.unusedVariables false
set_option linter.unusedSimpArgs false
namespace Go.Proofs.Ytogmlcgiajigfaa.Ard
open Go.RowKit K

/-- Part's samples by place, and the image's -/
def outS (i : Nat) (a : List Int) (W H : Nat) (pix : List Int) (X Y RW : Nat) : Nat → Int := outT (fun x y k => sampF i a W H pix (X + x) (Y + y) k) RW
def outC (W H : Nat) (pix : List Int) (X Y RW : Nat) : Nat → Int := outT (fun x y k => atF W H pix ((X + x : Nat) : Int) ((Y + y : Nat) : Int) k) RW
/-- Part's loops: wS the world when they begin, Bw the window's block, g the samples' block -/
structure Pt (base : Nat) (wS wr : World) (Bw g c N : Nat) (l : List Int) : Prop where
  blk : ∀ b, b < Bw → b ≠ g → wr.heap[b]? = wS.heap[b]?
  bel : Below base wS wr
  row : wr.ownsRow base 53 1 (.slice (some ⟨g, 0, none⟩) N c) N (l.map (.int .u16))
  win : ∃ A n cc own xs, wr.heap[Bw]? = some (.cells #[.slice A n cc, own] 80 (0, 0)) ∧ wr.ownsRow Bw 3 1 (.slice A n cc) n xs
theorem own_set {w : World} {base e g n c i : Nat} {xs : List Value} {v : Value} (h : w.ownsRow base e 1 (.slice (some ⟨g, 0, none⟩) n c) n xs) (hi : i < n) : (w.setCell ⟨g, i, none⟩ v).ownsRow base e 1 (.slice (some ⟨g, 0, none⟩) n c) n (xs.set i v) := by
  refine ⟨by have := h.1; simpa using this, ?_⟩
  rcases h.2 with ⟨hv, -⟩ | ⟨g', cap, cur, hv, h1, h2, h3, h4, h5, h6⟩
  · cases hv
  · injection hv with e1 e2 e3
    injection e1 with e1
    injection e1 with e1
    subst e1 e3
    refine .inr ⟨g, c, cur.setIfInBounds i v, rfl, h1, ?_, h3, h4, by simpa using h5, ?_⟩
    · rw [setCell_eq_setRow w g i cur e (0, 0) v h2]; exact setRow_heap _ _ _ _ _ _ h2
    · rw [Array.toList_setIfInBounds, List.take_set, h6]
theorem own_cell {w : World} {base e g n c i : Nat} {l : List Int} (h : w.ownsRow base e 1 (.slice (some ⟨g, 0, none⟩) n c) n (l.map (.int .u16))) (hi : i < n) : (∃ u, w.cell? ⟨g, i, none⟩ = some u) ∧ w.frozen? ⟨g, i, none⟩ = false := by
  have hl : l.length = n := by have := h.1; simpa using this
  exact ⟨⟨_, by rw [h.cellAt (g := g) i (by omega), List.getElem?_map, List.getElem?_eq_getElem (by omega)]; rfl⟩, h.frozenAt i⟩
/-- fill, its arguments as they come -/
theorem fill_to {base Bw n0 c0 : Nat} {A0 : Option Addr} {own0 : Value} {xs : List Value} {P : Option Addr} {pn pc W H k x y : Nat} {ix iy irx iry : Int} {pix : List Int} (w : World) (HP : SI w .u16 P pn pix) (hpk : ∀ b o, P = some ⟨b, o, none⟩ → b < base) (hbs : base ≤ w.heap.size) (hbw : base ≤ Bw)
    (hwv : ∀ v ∈ pix, 0 ≤ v ∧ v < 65536) (hW : 1 ≤ W ∧ W ≤ 4096) (hH : 1 ≤ H ∧ H ≤ 4096) (hp : pn = 4 * W * H) (hk : k < 4) (hrx : 0 ≤ irx ∧ irx ≤ 8) (hry : 0 ≤ iry ∧ iry ≤ 8) (hx : x < W) (hy : y < H) (ex : ix = (x : Int)) (ey : iy = (y : Int))
    (hwin : w.heap[Bw]? = some (.cells #[.slice A0 n0 c0, own0] 80 (0, 0))) (hrow : w.ownsRow base 3 1 (.slice A0 n0 c0) n0 xs) :
    Calls Try.prog 36 #[.pointer (some ⟨Bw, 0, none⟩), .agg #[.int .i64 W, .int .i64 H, .slice P pn pc], .int .i64 ix, .int .i64 iy, .int .i64 k, .int .i64 irx, .int .i64 iry] w (FillP base w Bw (winF W H pix x y irx.toNat iry.toNat k) (atF W H pix x y k)) := by
  subst ex ey
  obtain ⟨rx, rfl⟩ := Int.eq_ofNat_of_zero_le hrx.1
  obtain ⟨ry, rfl⟩ := Int.eq_ofNat_of_zero_le hry.1
  exact fill_any w HP hpk hbs hbw hwv hW hH hp hk (by omega) (by omega) hx hy hwin hrow
/-- from fill's end to the next: the samples' block and all that lay stay -/
theorem Pt.filled {base : Nat} {wS wr w5 : World} {Bw g c N : Nat} {l lw : List Int} {own : Int} (h : Pt base wS wr Bw g c N l) (hg : g < Bw) (hb : base ≤ Bw) (hs : Bw < wS.heap.size) (hB : base ≤ wS.heap.size) (hf : Below Bw wr w5)
    (hw : ∃ A cc, w5.heap[Bw]? = some (.cells #[.slice A lw.length cc, .int .i64 own] 80 (0, 0)) ∧ w5.ownsRow Bw 3 1 (.slice A lw.length cc) lw.length (lw.map (.int .i64))) : Pt base wS w5 Bw g c N l := by
  obtain ⟨A, cc, h1, h2⟩ := hw
  refine ⟨fun b hb1 hb2 => (hf.block b hb1).trans (h.blk b hb1 hb2), h.bel.trans (hf.mono hb), ?_, A, _, cc, _, _, h1, h2⟩
  rcases h.row.2 with ⟨hv, -⟩ | ⟨g', cap, cur, hv, k1, k2, k3⟩
  · cases hv
  · injection hv with e1 e2 e3
    injection e1 with e1
    injection e1 with e1
    subst e1
    exact ⟨h.row.1, .inr ⟨g, cap, cur, by rw [e3], k1, (hf.block g hg).trans k2, k3⟩⟩
theorem Pt.onto {base : Nat} {wS wr w5 : World} {Bw g c N : Nat} {l : List Int} (h : Pt base wS wr Bw g c N l) (hs : Bw < wS.heap.size) (hB : base ≤ wS.heap.size) (hf : Below wr.heap.size wr w5) : Pt base wS w5 Bw g c N l := by
  have hz := h.bel.size
  obtain ⟨A, n, cc, own, xs, h1, h2⟩ := h.win
  refine ⟨fun b hb1 hb2 => (hf.block b (by omega)).trans (h.blk b hb1 hb2), h.bel.trans (hf.mono (by omega)), own_on h.row hf, A, n, cc, own, xs, (hf.block _ (by omega)).trans h1, own_on h2 hf⟩
theorem Pt.put {base : Nat} {wS wr : World} {Bw g c N s : Nat} {l : List Int} {v : Int} (h : Pt base wS wr Bw g c N l) (hg : base ≤ g) (hgB : g < Bw) (hs : s < N) : Pt base wS (wr.setCell ⟨g, s, none⟩ (.int .u16 v)) Bw g c N (l.set s v) := by
  obtain ⟨A, n, cc, own, xs, h1, h2⟩ := h.win
  refine ⟨fun b hb1 hb2 => (Below.heap_setCell _ _ _ _ (fun e => hb2 e)).trans (h.blk b hb1 hb2), h.bel.setCell (p := ⟨g, s, none⟩) hg _, ?_, A, n, cc, own, xs, (Below.heap_setCell _ _ _ _ (fun e => by simp at e; omega)).trans h1, ?_⟩
  · rw [List.map_set]; exact own_set h.row hs
  · exact h2.kept (grown_set1 wr g s _) (.inr (fun e => by have := (h2.lt g e).1; omega))
set_option maxHeartbeats 4000000 in
theorem part_ok {op : ByteArray} {A : Option Addr} {n c i : Nat} {a : List Int} {W H X Y RW RH pn pc : Nat} {P : Option Addr} {pix : List Int} (w : World) (HA : SI w .i64 A n a) (h0 : checkE op a = 0) (hid0 : idxF op = some i) (hf : fitsB (bndF i) a = true)
    (HP : SI w .u16 P pn pix) (hwv : ∀ v ∈ pix, 0 ≤ v ∧ v < 65536) (hpc : pn ≤ pc) (hpc2 : pc ≤ 9223372036854775807) (hg : GoodP W H pn) (hw : WithinP X Y RW RH W H) :
    Calls Try.prog 22 #[.string op, .slice A n c, .agg #[.int .i64 W, .int .i64 H, .slice P pn pc], .agg #[.int .i64 X, .int .i64 Y, .int .i64 RW, .int .i64 RH]] w (ImgP w RW RH ((List.range (4 * RW * RH)).map (outS i a W H pix X Y RW)) 0) := by
  have HCR : Hid (∀ V, Below w.heap.size w V → Calls Try.prog 35 #[.agg #[.int .i64 W, .int .i64 H, .slice P pn pc], .agg #[.int .i64 X, .int .i64 Y, .int .i64 RW, .int .i64 RH]] V (ImgP V RW RH (cropK W pix X Y RW RH) 0)) := fun V hV => crop_in V (HP.below hV (Nat.le_refl _)) hpc hpc2 hg hw
  obtain ⟨W0, hW0, r0, r1, r2, hs, hb⟩ := three_allocs w (.cells #[.int .i64 W, .int .i64 H, .slice P pn pc] 37) (.cells #[.int .i64 X, .int .i64 Y, .int .i64 RW, .int .i64 RH] 46) (.cells zimg 37)
  have HF := Lib.hid (find_any (op := op) (c := c) W0 (HA.below hb (Nat.le_refl _)))
  have R0 := Lib.hid r0
  have R1 := Lib.hid r1
  have R2 := Lib.hid r2
  have HS := Lib.hid hs
  have HB := Lib.hid hb
  have H0 := Lib.hid h0
  have HID := Lib.hid hid0
  have HFT := Lib.hid hf
  have HAA := Lib.hid HA
  have HPP := Lib.hid HP
  have HWV := Lib.hid hwv
  have HI := Lib.hid (idxF_some hid0).1
  obtain ⟨hF, hpe⟩ := hg
  unfold FitsP at hF
  unfold WithinP at hw
  have hW : 1 ≤ W ∧ W ≤ 4096 := by omega
  have hH : 1 ≤ H ∧ H ≤ 4096 := by omega
  have HPN : Hid (pn = 4 * W * H) := by show _ = _; have : ((4 * W * H : Nat) : Int) = 4 * (W : Int) * (H : Int) := by push_cast; rfl
                                        omega
  have hx : X + RW ≤ W := by omega
  have hy : Y + RH ≤ H := by omega
  have hRW : 1 ≤ RW := by omega
  have hRH : 1 ≤ RH := by omega
  clear HA r0 r1 r2 hs hb h0 hid0 hf HP hwv hpc hpc2 hF hpe hw
  go_enter Try.func22, Try.ntmps22
  go_wp2_with fail
  unfold zimg at hW0
  rw [hW0]
  refine HF.out.mono ?_
  rintro e w1 ⟨hb1, ⟨hne, rfl⟩ | ⟨i', B, bn, bc, hi, h0, hid, hf, rfl⟩⟩
  · exact absurd H0.out hne
  · obtain rfl : i' = i := by rw [HID.out] at hid; injection hid with hid; exact hid.symm
    have R2b : Hid (w1.heap[w.heap.size + 2]? = some (.cells zimg 37 (0, 0))) := (hb1.block _ (by have := HS.out; omega)).trans R2.out
    have R0b : Hid (w1.heap[w.heap.size]? = some (.cells #[.int .i64 W, .int .i64 H, .slice P pn pc] 37 (0, 0))) := (hb1.block _ (by have := HS.out; omega)).trans R0.out
    have R1b : Hid (w1.heap[w.heap.size + 1]? = some (.cells #[.int .i64 X, .int .i64 Y, .int .i64 RW, .int .i64 RH] 46 (0, 0))) := (hb1.block _ (by have := HS.out; omega)).trans R1.out
    have HB1 : Hid (Below w.heap.size w w1) := HB.out.trans (hb1.mono HB.out.size)
    have HSZ : Hid (w.heap.size + 3 ≤ w1.heap.size) := by have := hb1.size; have := HS.out; show _ ≤ _; omega
    have hw : Hid (∀ o, Below w1.heap.size w1 (w1.alloc o)) := fun o => (Below.refl _ _).alloc (Nat.le_refl _) o
    clear hb1 hW0 hi h0 hid hf
    go_wp2_with (first
      | (refine wpList_store_rowW rfl 72 (.tmp 10) (.tmp 23) rfl w1.heap.size (opCells i' B bn bc) rfl rfl 72 zeroOp (heap_alloc_new w1 _) opInfo rfl (opAll _ _ _ _) w1.heap.size w1 (hw.out _) (Nat.le_refl _) ?_; intro W2 HW1 HW2 HW3; have R0c := (HW2.out.block _ (by have := HSZ.out; omega)).trans R0b.out; have R1c := (HW2.out.block _ (by have := HSZ.out; omega)).trans R1b.out; have x0 := row_cell R0c 0; have x1 := row_cell R0c 1; have x2 := row_cell R0c 2; have y0 := row_cell R1c 0; have y1 := row_cell R1c 1; have y2 := row_cell R1c 2; have y3 := row_cell R1c 3; clear R0c R1c))
    have HS2 : Hid (W2.heap.size = w1.heap.size + 1) := by show _ = _; rw [HW3.out]; simp
    have R0d : Hid (W2.heap[w.heap.size]? = some (.cells #[.int .i64 W, .int .i64 H, .slice P pn pc] 37 (0, 0))) := (HW2.out.block _ (by have := HSZ.out; omega)).trans R0b.out
    have R1d : Hid (W2.heap[w.heap.size + 1]? = some (.cells #[.int .i64 X, .int .i64 Y, .int .i64 RW, .int .i64 RH] 46 (0, 0))) := (HW2.out.block _ (by have := HSZ.out; omega)).trans R1b.out
    have R2d : Hid (W2.heap[w.heap.size + 2]? = some (.cells zimg 37 (0, 0))) := (HW2.out.block _ (by have := HSZ.out; omega)).trans R2b.out
    have HBW2 : Hid (Below w.heap.size w W2) := HB1.out.trans (HW2.out.mono HB1.out.size)
    clear R0b R1b R2b x0 x1 x2 y0 y1 y2 y3
    refine (HCR.out W2 HBW2.out).mono ?_
    rintro e w3 ⟨hb3, A3, c3, rfl, hown3⟩
    have hct := crop_tab (H := H) (RH := RH) (pix := pix) (HPP.out.len.trans HPN.out) hx hy
    have hN1 : 1 ≤ 4 * RW * RH := Nat.mul_pos (by omega) (by omega)
    have hN2 : 4 * RW * RH ≤ 67108864 := Nat.le_trans (Nat.mul_le_mul (show 4 * RW ≤ 16384 by omega) (show RH ≤ 4096 by omega)) (by omega)
    obtain ⟨N, hN⟩ : ∃ N, 4 * RW * RH = N := ⟨_, rfl⟩
    have hlenN : (cropK W pix X Y RW RH).length = N := by rw [hct]; simp [hN]
    rw [hlenN] at hown3 ⊢
    rw [hct, hN] at hown3
    rw [hN] at hN1 hN2
    obtain ⟨g, hg3, hgb⟩ : ∃ g, A3 = some ⟨g, 0, none⟩ ∧ W2.heap.size ≤ g ∧ g < w3.heap.size := by
      rcases hown3.2 with ⟨-, hz⟩ | ⟨g, cap, cur, hv, hb, hgh, -⟩
      · omega
      · injection hv with hv
        exact ⟨g, hv, hb, (Array.getElem?_eq_some_iff.1 hgh).1⟩
    subst hg3
    have HOW3 : Hid (w3.ownsRow W2.heap.size 53 1 (.slice (some ⟨g, 0, none⟩) N c3) N (((List.range N).map (outC W H pix X Y RW)).map (.int .u16))) := hown3
    have HNN := Lib.hid hN
    have HB3 := Lib.hid hb3
    have hre := reach_enters HI.out
    have HR : Hid (∀ V, Below w.heap.size w V → Calls Try.prog (reachN i') #[.slice A n c] V fun e w' => e = .returned (.tuple #[.int .i64 (rxF i' a), .int .i64 (ryF i' a)]) ∧ ∃ k, V.drewN k = w') := fun V hV => reach_any HI.out HFT.out V (HAA.out.below hV (Nat.le_refl _))
    have y2r : ∀ o, (w3.alloc o).cell? ⟨w1.heap.size, 2, none⟩ = some (.func (.func (reachN i')) #[] #[]) := fun o => row_cell (heap_alloc_old _ o ((hb3.block _ (by have := HS2.out; omega)).trans HW1.out)) 2
    have HBW3 : Hid (Below w.heap.size w w3) := HBW2.out.trans (hb3.mono HBW2.out.size)
    have y3r : ∀ o n, ((w3.alloc o).drewN n).cell? ⟨w.heap.size + 1, 3, none⟩ = some (.int .i64 RH) := fun o n => row_cell (heap_alloc_old _ o ((hb3.block _ (by have := HS2.out; have := HSZ.out; omega)).trans R1d.out)) 3
    have y3s : ∀ o n o2, (((w3.alloc o).drewN n).alloc o2).cell? ⟨w.heap.size + 1, 3, none⟩ = some (.int .i64 RH) := fun o n o2 => row_cell (heap_alloc_old _ o2 (show ((w3.alloc o).drewN n).heap[w.heap.size + 1]? = _ from heap_alloc_old _ o ((hb3.block _ (by have := HS2.out; have := HSZ.out; omega)).trans R1d.out))) 3
    clear hown3 hct hlenN hb3 hN
    go_wp2_with (with_reducible refine (HR.out _ (HBW3.out.alloc HBW3.out.size _)).mono ?_; rintro e w4 ⟨rfl, kq, rfl⟩)
    obtain ⟨wS, hwS⟩ : ∃ wS, ((w3.alloc (.cells #[.int .i64 RW, .int .i64 RH, .slice (some ⟨g, 0, none⟩) N c3] 37)).drewN kq).alloc (.cells #[.slice none 0 0, .int .i64 0] 80) = wS := ⟨_, rfl⟩
    have hsS : wS.heap.size = w3.heap.size + 2 := by rw [← hwS]; simp
    have hup : ∀ b x, w3.heap[b]? = some x → wS.heap[b]? = some x := fun b x hbx => by rw [← hwS]; exact heap_alloc_old _ _ (show ((w3.alloc _).drewN kq).heap[b]? = _ from heap_alloc_old _ _ hbx)
    have hbS : Below w3.heap.size w3 wS := by rw [← hwS]; exact (below_drewN ((Below.refl _ _).alloc (Nat.le_refl _) _) kq).alloc (by simp) _
    have BW : Hid (wS.heap[w3.heap.size + 1]? = some (.cells #[.slice none 0 0, .int .i64 0] 80 (0, 0))) := by
      show _ = _
      rw [← hwS]
      have := heap_alloc_new ((w3.alloc (.cells #[.int .i64 RW, .int .i64 RH, .slice (some ⟨g, 0, none⟩) N c3] 37)).drewN kq) (.cells #[.slice none 0 0, .int .i64 0] 80)
      simpa using this
    have BO : Hid (wS.heap[w3.heap.size]? = some (.cells #[.int .i64 RW, .int .i64 RH, .slice (some ⟨g, 0, none⟩) N c3] 37 (0, 0))) := by
      show _ = _
      rw [← hwS]
      exact heap_alloc_old _ _ (show ((w3.alloc _).drewN kq).heap[w3.heap.size]? = _ from heap_alloc_new w3 _)
    have BP : Hid (wS.heap[w1.heap.size]? = some (.cells (opCells i' B bn bc) 72 (0, 0))) := hup _ _ ((HB3.out.block _ (by have := HS2.out; omega)).trans HW1.out)
    have BR : Hid (wS.heap[w.heap.size + 1]? = some (.cells #[.int .i64 X, .int .i64 Y, .int .i64 RW, .int .i64 RH] 46 (0, 0))) := hup _ _ ((HB3.out.block _ (by have := HS2.out; have := HSZ.out; omega)).trans R1d.out)
    have BI : Hid (wS.heap[w.heap.size]? = some (.cells #[.int .i64 W, .int .i64 H, .slice P pn pc] 37 (0, 0))) := hup _ _ ((HB3.out.block _ (by have := HS2.out; have := HSZ.out; omega)).trans R0d.out)
    have BZ : Hid (wS.heap[w.heap.size + 2]? = some (.cells zimg 37 (0, 0))) := hup _ _ ((HB3.out.block _ (by have := HS2.out; have := HSZ.out; omega)).trans R2d.out)
    have HBS : Hid (Below w.heap.size w wS) := HBW3.out.trans (hbS.mono HBW3.out.size)
    have HG1 : Hid (w.heap.size + 3 ≤ w1.heap.size ∧ w1.heap.size < g ∧ g < w3.heap.size ∧ wS.heap.size = w3.heap.size + 2) := ⟨HSZ.out, by have := HS2.out; omega, hgb.2, hsS⟩
    have HPT0 : Hid (Pt w.heap.size wS wS (w3.heap.size + 1) g c3 N (stageL (outS i' a W H pix X Y RW) (outC W H pix X Y RW) N (4 * (0 * RW)))) := by
      refine ⟨fun b _ _ => rfl, Below.refl _ _, ?_, Option.none, 0, 0, .int .i64 0, [], BW.out, World.ownsRow_nil _ _ _ _⟩
      rw [Nat.zero_mul, Nat.mul_zero, stage_zero]
      exact own_base (own_on HOW3.out hbS) (by have := HS2.out; have := HSZ.out; omega)
    rw [hwS]
    clear y2r y3r hwS hsS hup hbS hre hgb y3s
    go_loopw [48] (fun s48 wr => ∃ y : Nat, y ≤ RH ∧ s48 = .int .i64 y ∧ Pt w.heap.size wS wr (w3.heap.size + 1) g c3 N (stageL (outS i' a W H pix X Y RW) (outC W H pix X Y RW) N (4 * (y * RW)))) (fun s48 _ => RH - (intOf s48).toNat)
    case atStart => exact ⟨0, by omega, rfl, HPT0.out⟩
    case round =>
      clear HPT0
      obtain ⟨y, hyR, rfl, hpt⟩ := hrel
      have HPT := Lib.hid hpt
      have y2 : wr.cell? ⟨w.heap.size + 1, 2, none⟩ = some (.int .i64 RW) := row_cell ((hpt.blk _ (by have := HG1.out; omega) (by have := HG1.out; omega)).trans BR.out) 2
      clear hpt
      by_cases hlt : y < RH
      · have d0 : decide ((y : Int) < (RH : Int)) = true := decide_eq_true (by omega)
        have e0 : decide (y < RH) = true := decide_eq_true hlt
        go_wp2_with fail
        clear y2
        go_loopw [53] (fun s53 wr => ∃ x : Nat, x ≤ RW ∧ s53 = .int .i64 x ∧ Pt w.heap.size wS wr (w3.heap.size + 1) g c3 N (stageL (outS i' a W H pix X Y RW) (outC W H pix X Y RW) N (4 * (y * RW + x)))) (fun s53 _ => RW - (intOf s53).toNat)
        case atStart => exact ⟨0, by omega, rfl, HPT.out⟩
        case round =>
          clear HPT
          obtain ⟨x, hxR, rfl, hpt⟩ := hrel
          have HPT := Lib.hid hpt
          clear hpt
          by_cases hlx : x < RW
          · have d1 : decide ((x : Int) < (RW : Int)) = true := decide_eq_true (by omega)
            have e1 : decide (x < RW) = true := decide_eq_true hlx
            go_wp2_with fail
            go_loopw [56] (fun s56 wr => ∃ k : Nat, k ≤ 4 ∧ s56 = .int .i64 k ∧ Pt w.heap.size wS wr (w3.heap.size + 1) g c3 N (stageL (outS i' a W H pix X Y RW) (outC W H pix X Y RW) N (4 * (y * RW + x) + k))) (fun s56 _ => 4 - (intOf s56).toNat)
            case atStart => exact ⟨0, by omega, rfl, HPT.out⟩
            case round =>
              clear HPT
              obtain ⟨k, hk4, rfl, hpt⟩ := hrel
              have HPT := Lib.hid hpt
              clear hpt
              by_cases hlk : k < 4
              · have d2 : decide ((k : Int) < 4) = true := decide_eq_true (by omega)
                have CO : Hid (wr.heap[w3.heap.size]? = some (.cells #[.int .i64 RW, .int .i64 RH, .slice (some ⟨g, 0, none⟩) N c3] 37 (0, 0))) := (HPT.out.blk _ (by omega) (by have := HG1.out; omega)).trans BO.out
                have CP : Hid (wr.heap[w1.heap.size]? = some (.cells (opCells i' B bn bc) 72 (0, 0))) := (HPT.out.blk _ (by have := HG1.out; omega) (by have := HG1.out; omega)).trans BP.out
                have CR : Hid (wr.heap[w.heap.size + 1]? = some (.cells #[.int .i64 X, .int .i64 Y, .int .i64 RW, .int .i64 RH] 46 (0, 0))) := (HPT.out.blk _ (by have := HG1.out; omega) (by have := HG1.out; omega)).trans BR.out
                have CI : Hid (wr.heap[w.heap.size]? = some (.cells #[.int .i64 W, .int .i64 H, .slice P pn pc] 37 (0, 0))) := (HPT.out.blk _ (by have := HG1.out; omega) (by have := HG1.out; omega)).trans BI.out
                have z4 : wr.cell? ⟨w1.heap.size, 4, none⟩ = some (.bool (alphaF i')) := row_cell CP.out 4
                have HSV : Hid (outS i' a W H pix X Y RW (4 * (y * RW + x) + k) = sampF i' a W H pix (X + x) (Y + y) k) := outT_at (fun x y k => sampF i' a W H pix (X + x) (Y + y) k) y hlx hlk
                have HCV : Hid (outC W H pix X Y RW (4 * (y * RW + x) + k) = atF W H pix ((X + x : Nat) : Int) ((Y + y : Nat) : Int) k) := outT_at (fun x y k => atF W H pix ((X + x : Nat) : Int) ((Y + y : Nat) : Int) k) y hlx hlk
                by_cases hbr : k = 3 ∧ alphaF i' = false
                · obtain ⟨rfl, hal⟩ := hbr
                  have HST : Hid (stageL (outS i' a W H pix X Y RW) (outC W H pix X Y RW) N (4 * (y * RW + (x + 1))) = stageL (outS i' a W H pix X Y RW) (outC W H pix X Y RW) N (4 * (y * RW + x) + 3)) := by
                    show _ = _
                    rw [show 4 * (y * RW + (x + 1)) = 4 * (y * RW + x) + 3 + 1 by omega]
                    refine stage_same _ _ ?_
                    rw [HSV.out, HCV.out]
                    unfold sampF
                    rw [if_pos ⟨rfl, hal⟩]
                  rw [hal] at z4
                  clear hal
                  go_wp2_with fail
                  go_roundw
                  case rel => exact ⟨x + 1, by omega, by go_num, by rw [HST.out]; exact HPT.out⟩
                  case measure => simp [intOf]; omega
                · have HSN : Hid (outS i' a W H pix X Y RW (4 * (y * RW + x) + k) = (clampN (doF i' a (winF W H pix ((X + x : Nat) : Int) ((Y + y : Nat) : Int) (rxF i' a).toNat (ryF i' a).toNat k) (atF W H pix ((X + x : Nat) : Int) ((Y + y : Nat) : Int) k)) 65535 : Int)) := by
                    show _ = _
                    rw [HSV.out]; unfold sampF; rw [if_neg hbr]
                  have q0 := row_cell CI.out 0
                  have q1 := row_cell CI.out 1
                  have q2 := row_cell CI.out 2
                  have p0 := row_cell CR.out 0
                  have p1 := row_cell CR.out 1
                  have hb3 : (((k : Int) == 3) = false) ∨ (((k : Int) == 3) = true ∧ alphaF i' = true) := by
                    by_cases e : k = 3
                    · refine .inr ⟨by simp [e], ?_⟩
                      cases h : alphaF i' with
                      | true => rfl
                      | false => exact absurd ⟨e, h⟩ hbr
                    · exact .inl (by simp; omega)
                  have hXx : X + x < W := by omega
                  have hYy : Y + y < H := by omega
                  have vX : IntKind.i64.wrap ((X : Int) + (x : Int)) = ((X + x : Nat) : Int) := by rw [IntWalk.i64_in _ (by omega)]; push_cast; rfl
                  have vY : IntKind.i64.wrap ((Y : Int) + (y : Int)) = ((Y + y : Nat) : Int) := by rw [IntWalk.i64_in _ (by omega)]; push_cast; rfl
                  have HFILL : Hid (∀ ix iy : Int, ix = ((X + x : Nat) : Int) → iy = ((Y + y : Nat) : Int) → Calls Try.prog 36 #[.pointer (some ⟨w3.heap.size + 1, 0, none⟩), .agg #[.int .i64 W, .int .i64 H, .slice P pn pc], .int .i64 ix, .int .i64 iy, .int .i64 k, .int .i64 (rxF i' a), .int .i64 (ryF i' a)] wr (FillP (w3.heap.size + 1) wr (w3.heap.size + 1) (winF W H pix ((X + x : Nat) : Int) ((Y + y : Nat) : Int) (rxF i' a).toNat (ryF i' a).toNat k) (atF W H pix ((X + x : Nat) : Int) ((Y + y : Nat) : Int) k))) := by
                    intro ix iy ex ey
                    obtain ⟨A0, n0, c0, own0, xs, hw1, hw2⟩ := HPT.out.win
                    have hrr := rx_in HI.out HFT.out
                    refine fill_to wr (HPP.out.below (HBS.out.trans HPT.out.bel) (Nat.le_refl _)) ?_ ?_ (Nat.le_refl _) HWV.out hW hH HPN.out hlk ⟨by omega, hrr.2.1⟩ hrr.2.2 hXx hYy ex ey hw1 hw2
                    · intro b o e
                      have := HPP.out.cells (i := 0) (by have := HPN.out; have h4 : 0 < 4 * W * H := Nat.mul_pos (by omega) (by omega); omega)
                      obtain ⟨b', o', v', e', -, -, hlt'⟩ := this
                      rw [e] at e'
                      injection e' with e'
                      injection e' with e1 e2
                      have := HG1.out
                      omega
                    · have := HPT.out.bel.size; have := (Array.getElem?_eq_some_iff.1 hw1).1; omega
                  clear hbr HSV HCV vX vY
                  rcases hb3 with hb3 | ⟨hb3, hal⟩
                  · go_wp2_with fail
                    refine (HFILL.out _ _ (by push_cast; rfl) (by push_cast; rfl)).mono ?_
                    rintro e w5 ⟨rfl, hbf, hwf⟩
                    have HPT5 := Lib.hid (HPT.out.filled (by have := HG1.out; omega) (by have := HG1.out; omega) (by have := HG1.out; omega) (by have := HG1.out; omega) hbf hwf)
                    obtain ⟨A6, c6, hw1, hw2⟩ := hwf
                    have HW1 := Lib.hid hw1
                    have HW2 := Lib.hid hw2
                    have HBW5 : Hid (Below w.heap.size w w5) := HBS.out.trans HPT5.out.bel
                    have HML : Hid ((winF W H pix ((X + x : Nat) : Int) ((Y + y : Nat) : Int) (rxF i' a).toNat (ryF i' a).toNat k).length = (2 * (ryF i' a).toNat + 1) * (2 * (rxF i' a).toNat + 1)) := winF_len _ _ _ _ _ _ _ _
                    have HWI : Hid (∀ v ∈ winF W H pix ((X + x : Nat) : Int) ((Y + y : Nat) : Int) (rxF i' a).toNat (ryF i' a).toNat k, 0 ≤ v ∧ v < 65536) := winF_in HWV.out
                    have HOI : Hid (0 ≤ atF W H pix ((X + x : Nat) : Int) ((Y + y : Nat) : Int) k ∧ atF W H pix ((X + x : Nat) : Int) ((Y + y : Nat) : Int) k < 65536) := atF_in HWV.out
                    clear hbf hw1 hw2 z4 q0 q1 q2 p0 p1
                    generalize winF W H pix ((X + x : Nat) : Int) ((Y + y : Nat) : Int) (rxF i' a).toNat (ryF i' a).toNat k = l6 at HW1 HW2 HML HWI HSN
                    generalize atF W H pix ((X + x : Nat) : Int) ((Y + y : Nat) : Int) k = own6 at HW1 HOI HSN
                    have hm8 : l6.length * 8 ≤ 140737488351232 := by
                      have hrr := rx_in HI.out HFT.out
                      rw [HML.out]
                      have : (2 * (ryF i' a).toNat + 1) * (2 * (rxF i' a).toNat + 1) ≤ 17 * 17 := Nat.mul_le_mul (by omega) (by omega)
                      omega
                    have HDO : Hid (∀ V, Below w5.heap.size w5 V → Calls Try.prog (doN i') #[.slice A n c, .agg #[.slice A6 l6.length c6, .int .i64 own6]] V (DoP V (doF i' a l6 own6))) := fun V hV => do_any HI.out HFT.out V (HAA.out.below (HBW5.out.trans (hV.mono HBW5.out.size)) (Nat.le_refl _)) ((SI.of_own (l := l6) HW2.out hm8).below hV (Nat.le_refl _)) HWI.out HML.out HOI.out
                    have hde := do_enters HI.out
                    have hsN : 4 * (y * RW + x) + k < N := by rw [← HNN.out]; exact place_in hlx hlt hlk
                    have hr1 : y * RW ≤ 16777216 := Nat.le_trans (Nat.mul_le_mul (show y ≤ 4096 by omega) (show RW ≤ 4096 by omega)) (by omega)
                    have hx4 : x ≤ 4096 := by omega
                    obtain ⟨r1, hr⟩ : ∃ r1 : Nat, y * RW = r1 := ⟨_, rfl⟩
                    obtain ⟨sp, hsp⟩ : ∃ sp : Nat, 4 * (y * RW + x) + k = sp := ⟨_, rfl⟩
                    have hsp2 := hsp
                    rw [hr] at hr1 hsp2
                    have m1 : IntKind.i64.wrap ((y : Int) * (RW : Int)) = (r1 : Int) := by rw [← Int.natCast_mul, hr]; exact IntWalk.i64_in _ (by omega)
                    obtain ⟨m2, m3, m4⟩ := idx_facts hr1 hx4 hlk hsp2
                    rw [hsp] at hsN HSN
                    have HSP := Lib.hid hsp
                    have i0 : (0 : Int) ≤ (sp : Int) := Int.natCast_nonneg _
                    have i1 : (sp : Int) < (N : Int) := Int.ofNat_lt.2 hsN
                    have HCV2 := Lib.hid (clampN_le (doF i' a l6 own6) 65535)
                    have t1 : (if doF i' a l6 own6 < 0 then (0 : Int) else doF i' a l6 own6) = max (doF i' a l6 own6) 0 := max_ite _
                    have t2 : (if (65535 : Int) < max (doF i' a l6 own6) 0 then (65535 : Int) else max (doF i' a l6 own6) 0) = (clampN (doF i' a l6 own6) 65535 : Int) := by rw [min_ite]; unfold clampN; omega
                    generalize doF i' a l6 own6 = dv at *
                    have t6 : min (max dv 0) 65535 = (clampN dv 65535 : Int) := by unfold clampN; omega
                    generalize hcv : clampN dv 65535 = cv at *
                    obtain ⟨mx, t5⟩ : ∃ mx, max dv 0 = mx := ⟨_, rfl⟩
                    rw [t5] at t1 t2 t6
                    have t3 : IntKind.u16.wrap (cv : Int) = (cv : Int) := by rw [IntKind.wrap_u16]; have := HCV2.out; omega
                    clear hsp hsp2 hr hcv hr1 hx4 hm8
                    have HSF : Hid (∀ V, Below w5.heap.size w5 V → V.cell? ⟨w3.heap.size, 2, none⟩ = some (.slice (some ⟨g, 0, none⟩) N c3) ∧ V.cell? ⟨w.heap.size + 1, 2, none⟩ = some (.int .i64 RW) ∧ V.cell? ⟨w1.heap.size, 3, none⟩ = some (.func (.func (doN i')) #[] #[]) ∧ V.cell? ⟨w3.heap.size + 1, 0, none⟩ = some (.slice A6 l6.length c6) ∧ V.cell? ⟨w3.heap.size + 1, 1, none⟩ = some (.int .i64 own6)) := fun V hV => by
                      have hz : w3.heap.size + 2 ≤ w5.heap.size := by have := HPT5.out.bel.size; have := HG1.out; omega
                      have hup : ∀ b x, b < w3.heap.size + 1 → b ≠ g → wS.heap[b]? = some x → V.heap[b]? = some x := fun b x h1 h2 h3 => (hV.block b (by omega)).trans ((HPT5.out.blk b h1 h2).trans h3)
                      refine ⟨row_cell (hup _ _ (by omega) (by have := HG1.out; omega) BO.out) 2, row_cell (hup _ _ (by have := HG1.out; omega) (by have := HG1.out; omega) BR.out) 2, row_cell (hup _ _ (by have := HG1.out; omega) (by have := HG1.out; omega) BP.out) 3, row_cell ((hV.block _ (by omega)).trans HW1.out) 0, row_cell ((hV.block _ (by omega)).trans HW1.out) 1⟩
                    go_wp2_with fail
                    refine wp_region_noPanic ?_
                    refine wp_region_held_drew (S := fun w' => w'.cell? ⟨w3.heap.size, 2, none⟩ = some (.slice (some ⟨g, 0, none⟩) N c3) ∧ w'.cell? ⟨w.heap.size + 1, 2, none⟩ = some (.int .i64 RW) ∧ w'.cell? ⟨w1.heap.size, 3, none⟩ = some (.func (.func (doN i')) #[] #[]) ∧ w'.cell? ⟨w3.heap.size + 1, 0, none⟩ = some (.slice A6 l6.length c6) ∧ w'.cell? ⟨w3.heap.size + 1, 1, none⟩ = some (.int .i64 own6)) (by kernel_rfl) (HSF.out _ (Below.refl _ _).drew) (fun hHeld => ?_)
                    refine wpAnyH_take (i := 0) (v := .pointer (some ⟨w3.heap.size, 2, none⟩)) rfl (by kernel_rfl) (by kernel_rfl) (by kernel_rfl) (fun _ _ _ h => h) (Or.inl ⟨by rfl, ?_⟩) hHeld ?_
                    · intro wz hSw; (try dsimp only at hSw); obtain ⟨s0, s1, s2, s3, s4⟩ := hSw; go_simp
                    try simp only [Act.put, List.setIfInBounds_toArray, List.set_cons_zero, List.set_cons_succ]
                    refine wpAnyH_take (i := 1) (v := .slice (some ⟨g, 0, none⟩) N c3) rfl (by kernel_rfl) (by kernel_rfl) (by kernel_rfl) (fun _ _ _ h => h) (Or.inl ⟨by rfl, ?_⟩) hHeld ?_
                    · intro wz hSw; (try dsimp only at hSw); obtain ⟨s0, s1, s2, s3, s4⟩ := hSw; go_simp
                    try simp only [Act.put, List.setIfInBounds_toArray, List.set_cons_zero, List.set_cons_succ]
                    refine wpAnyH_take (i := 2) (v := .int .i64 y) rfl (by kernel_rfl) (by kernel_rfl) (by kernel_rfl) (fun _ _ _ h => h) (Or.inl ⟨by rfl, ?_⟩) hHeld ?_
                    · intro wz hSw; (try dsimp only at hSw); obtain ⟨s0, s1, s2, s3, s4⟩ := hSw; go_simp
                    try simp only [Act.put, List.setIfInBounds_toArray, List.set_cons_zero, List.set_cons_succ]
                    refine wpAnyH_take (i := 3) (v := .pointer (some ⟨w.heap.size + 1, 2, none⟩)) rfl (by kernel_rfl) (by kernel_rfl) (by kernel_rfl) (fun _ _ _ h => h) (Or.inl ⟨by rfl, ?_⟩) hHeld ?_
                    · intro wz hSw; (try dsimp only at hSw); obtain ⟨s0, s1, s2, s3, s4⟩ := hSw; go_simp
                    try simp only [Act.put, List.setIfInBounds_toArray, List.set_cons_zero, List.set_cons_succ]
                    refine wpAnyH_take (i := 4) (v := .int .i64 RW) rfl (by kernel_rfl) (by kernel_rfl) (by kernel_rfl) (fun _ _ _ h => h) (Or.inl ⟨by rfl, ?_⟩) hHeld ?_
                    · intro wz hSw; (try dsimp only at hSw); obtain ⟨s0, s1, s2, s3, s4⟩ := hSw; go_simp
                    try simp only [Act.put, List.setIfInBounds_toArray, List.set_cons_zero, List.set_cons_succ]
                    refine wpAnyH_take (i := 5) (v := .int .i64 r1) rfl (by kernel_rfl) (by kernel_rfl) (by kernel_rfl) (fun _ _ _ h => h) (Or.inl ⟨by rfl, ?_⟩) hHeld ?_
                    · intro wz hSw; (try dsimp only at hSw); obtain ⟨s0, s1, s2, s3, s4⟩ := hSw; go_simp
                    try simp only [Act.put, List.setIfInBounds_toArray, List.set_cons_zero, List.set_cons_succ]
                    refine wpAnyH_take (i := 6) (v := .int .i64 x) rfl (by kernel_rfl) (by kernel_rfl) (by kernel_rfl) (fun _ _ _ h => h) (Or.inl ⟨by rfl, ?_⟩) hHeld ?_
                    · intro wz hSw; (try dsimp only at hSw); obtain ⟨s0, s1, s2, s3, s4⟩ := hSw; go_simp
                    try simp only [Act.put, List.setIfInBounds_toArray, List.set_cons_zero, List.set_cons_succ]
                    refine wpAnyH_take (i := 7) (v := .int .i64 ((r1 : Int) + (x : Int))) rfl (by kernel_rfl) (by kernel_rfl) (by kernel_rfl) (fun _ _ _ h => h) (Or.inl ⟨by rfl, ?_⟩) hHeld ?_
                    · intro wz hSw; (try dsimp only at hSw); obtain ⟨s0, s1, s2, s3, s4⟩ := hSw; go_simp
                    try simp only [Act.put, List.setIfInBounds_toArray, List.set_cons_zero, List.set_cons_succ]
                    refine wpAnyH_take (i := 8) (v := .int .i64 (4 * ((r1 : Int) + (x : Int)))) rfl (by kernel_rfl) (by kernel_rfl) (by kernel_rfl) (fun _ _ _ h => h) (Or.inl ⟨by rfl, ?_⟩) hHeld ?_
                    · intro wz hSw; (try dsimp only at hSw); obtain ⟨s0, s1, s2, s3, s4⟩ := hSw; go_simp
                    try simp only [Act.put, List.setIfInBounds_toArray, List.set_cons_zero, List.set_cons_succ]
                    refine wpAnyH_take (i := 9) (v := .int .i64 k) rfl (by kernel_rfl) (by kernel_rfl) (by kernel_rfl) (fun _ _ _ h => h) (Or.inl ⟨by rfl, ?_⟩) hHeld ?_
                    · intro wz hSw; (try dsimp only at hSw); obtain ⟨s0, s1, s2, s3, s4⟩ := hSw; go_simp
                    try simp only [Act.put, List.setIfInBounds_toArray, List.set_cons_zero, List.set_cons_succ]
                    refine wpAnyH_take (i := 10) (v := .int .i64 sp) rfl (by kernel_rfl) (by kernel_rfl) (by kernel_rfl) (fun _ _ _ h => h) (Or.inl ⟨by rfl, ?_⟩) hHeld ?_
                    · intro wz hSw; (try dsimp only at hSw); obtain ⟨s0, s1, s2, s3, s4⟩ := hSw; go_simp
                    try simp only [Act.put, List.setIfInBounds_toArray, List.set_cons_zero, List.set_cons_succ]
                    refine wpAnyH_take (i := 11) (v := .pointer (some ⟨w1.heap.size, 3, none⟩)) rfl (by kernel_rfl) (by kernel_rfl) (by kernel_rfl) (fun _ _ _ h => h) (Or.inl ⟨by rfl, ?_⟩) hHeld ?_
                    · intro wz hSw; (try dsimp only at hSw); obtain ⟨s0, s1, s2, s3, s4⟩ := hSw; go_simp
                    try simp only [Act.put, List.setIfInBounds_toArray, List.set_cons_zero, List.set_cons_succ]
                    refine wpAnyH_take (i := 12) (v := .func (.func (doN i')) #[] #[]) rfl (by kernel_rfl) (by kernel_rfl) (by kernel_rfl) (fun _ _ _ h => h) (Or.inl ⟨by rfl, ?_⟩) hHeld ?_
                    · intro wz hSw; (try dsimp only at hSw); obtain ⟨s0, s1, s2, s3, s4⟩ := hSw; go_simp
                    try simp only [Act.put, List.setIfInBounds_toArray, List.set_cons_zero, List.set_cons_succ]
                    refine wpAnyH_take (i := 13) (v := .slice A n c) rfl (by kernel_rfl) (by kernel_rfl) (by kernel_rfl) (fun _ _ _ h => h) (Or.inl ⟨by rfl, ?_⟩) hHeld ?_
                    · intro wz hSw; (try dsimp only at hSw); obtain ⟨s0, s1, s2, s3, s4⟩ := hSw; go_simp
                    try simp only [Act.put, List.setIfInBounds_toArray, List.set_cons_zero, List.set_cons_succ]
                    refine wpAnyH_take (i := 14) (v := .agg #[.slice A6 l6.length c6, .int .i64 own6]) rfl (by kernel_rfl) (by kernel_rfl) (by kernel_rfl) (fun _ _ _ h => h) (Or.inl ⟨by rfl, ?_⟩) hHeld ?_
                    · intro wz hSw; (try dsimp only at hSw); obtain ⟨s0, s1, s2, s3, s4⟩ := hSw; go_simp
                    try simp only [Act.put, List.setIfInBounds_toArray, List.set_cons_zero, List.set_cons_succ]
                    refine wpAnyH_ready (rs := [15]) (by kernel_rfl) (by simp) ?_
                    refine AllReadyH.cons rfl (fun K hK => ?_) AllReadyH.nil
                    go_simp
                    refine (HDO.out _ (Below.refl _ _).drew).mono ?_
                    rintro e w6 ⟨rfl, hb6⟩
                    have HB6 : Hid (Below w5.heap.size w5 w6) := (Below.refl w5.heap.size w5).drew.trans hb6
                    have HPT6 := Lib.hid (HPT5.out.onto (by have := HG1.out; omega) (by have := HG1.out; omega) HB6.out)
                    obtain ⟨⟨ou, hou⟩, hfr⟩ := own_cell HPT6.out.row hsN
                    have HSET := Lib.hid (HPT6.out.put (v := (cv : Int)) (by have := HG1.out; omega) (by have := HG1.out; omega) hsN)
                    clear hb6
                    go_wp2_with fail
                    refine hK.out _ _ (HSF.out _ HB6.out) (fun hHeld => ?_)
                    clear hK K
                    try simp only [Act.put, List.setIfInBounds_toArray, List.set_cons_zero, List.set_cons_succ]
                    refine wpAnyH_take (i := 16) (v := .int .i64 mx) rfl (by kernel_rfl) (by kernel_rfl) (by kernel_rfl) (fun _ _ _ h => h) (Or.inl ⟨by rfl, ?_⟩) hHeld ?_
                    · intro wz hSw; (try dsimp only at hSw); obtain ⟨s0, s1, s2, s3, s4⟩ := hSw; go_simp
                    try simp only [Act.put, List.setIfInBounds_toArray, List.set_cons_zero, List.set_cons_succ]
                    refine wpAnyH_take (i := 17) (v := .int .i64 cv) rfl (by kernel_rfl) (by kernel_rfl) (by kernel_rfl) (fun _ _ _ h => h) (Or.inl ⟨by rfl, ?_⟩) hHeld ?_
                    · intro wz hSw; (try dsimp only at hSw); obtain ⟨s0, s1, s2, s3, s4⟩ := hSw; go_simp
                    try simp only [Act.put, List.setIfInBounds_toArray, List.set_cons_zero, List.set_cons_succ]
                    refine wpAnyH_take (i := 18) (v := .int .u16 cv) rfl (by kernel_rfl) (by kernel_rfl) (by kernel_rfl) (fun _ _ _ h => h) (Or.inl ⟨by rfl, ?_⟩) hHeld ?_
                    · intro wz hSw; (try dsimp only at hSw); obtain ⟨s0, s1, s2, s3, s4⟩ := hSw; go_simp
                    try simp only [Act.put, List.setIfInBounds_toArray, List.set_cons_zero, List.set_cons_succ]
                    refine wpAnyH_take (i := 19) (v := .pointer (some ⟨g, sp, none⟩)) rfl (by kernel_rfl) (by kernel_rfl) (by kernel_rfl) (fun _ _ _ h => h) (Or.inl ⟨by rfl, ?_⟩) hHeld ?_
                    · intro wz hSw; (try dsimp only at hSw); obtain ⟨s0, s1, s2, s3, s4⟩ := hSw; go_simp
                    try simp only [Act.put, List.setIfInBounds_toArray, List.set_cons_zero, List.set_cons_succ]
                    refine wpAnyH_ready (rs := [20]) (by kernel_rfl) (by simp) ?_
                    refine AllReadyH.cons rfl (fun K hK => ?_) AllReadyH.nil
                    go_simp
                    refine hK.out _ _ (by obtain ⟨s0, s1, s2, s3, s4⟩ := HSF.out _ HB6.out; have hgg := HG1.out; exact ⟨(World.cell?_setCell_far _ ⟨g, sp, none⟩ ⟨w3.heap.size, 2, none⟩ _ (by show g ≠ w3.heap.size; omega)).trans s0, (World.cell?_setCell_far _ ⟨g, sp, none⟩ ⟨w.heap.size + 1, 2, none⟩ _ (by show g ≠ w.heap.size + 1; omega)).trans s1, (World.cell?_setCell_far _ ⟨g, sp, none⟩ ⟨w1.heap.size, 3, none⟩ _ (by show g ≠ w1.heap.size; omega)).trans s2, (World.cell?_setCell_far _ ⟨g, sp, none⟩ ⟨w3.heap.size + 1, 0, none⟩ _ (by show g ≠ w3.heap.size + 1; omega)).trans s3, (World.cell?_setCell_far _ ⟨g, sp, none⟩ ⟨w3.heap.size + 1, 1, none⟩ _ (by show g ≠ w3.heap.size + 1; omega)).trans s4⟩) (fun hHeld => ?_)
                    clear hK K
                    try simp only [Act.put, List.setIfInBounds_toArray, List.set_cons_zero, List.set_cons_succ]
                    refine wpAnyH_done (by kernel_rfl) ?_ _
                    refine NoPanic.normal ?_
                    have HEND : Hid (Pt w.heap.size wS (w6.setCell ⟨g, sp, none⟩ (.int .u16 cv)) (w3.heap.size + 1) g c3 N (stageL (outS i' a W H pix X Y RW) (outC W H pix X Y RW) N (4 * (y * RW + x) + (k + 1)))) := by
                      have h1 := HSET.out
                      have h2 := stage_set (outS i' a W H pix X Y RW) (outC W H pix X Y RW) (n := N) (s := sp)
                      rw [HSN.out] at h2
                      rw [HSP.out, h2] at h1
                      show Pt _ _ _ _ _ _ _ _
                      rw [← Nat.add_assoc, HSP.out]; exact h1
                    clear hou hfr hde
                    go_wp2_with fail
                    go_roundw
                    case rel => exact ⟨k + 1, by omega, by go_num, HEND.out⟩
                    case measure => simp [intOf]; omega
                  · rw [hal] at z4
                    clear hal
                    go_wp2_with fail
                    refine (HFILL.out _ _ (by push_cast; rfl) (by push_cast; rfl)).mono ?_
                    rintro e w5 ⟨rfl, hbf, hwf⟩
                    have HPT5 := Lib.hid (HPT.out.filled (by have := HG1.out; omega) (by have := HG1.out; omega) (by have := HG1.out; omega) (by have := HG1.out; omega) hbf hwf)
                    obtain ⟨A6, c6, hw1, hw2⟩ := hwf
                    have HW1 := Lib.hid hw1
                    have HW2 := Lib.hid hw2
                    have HBW5 : Hid (Below w.heap.size w w5) := HBS.out.trans HPT5.out.bel
                    have HML : Hid ((winF W H pix ((X + x : Nat) : Int) ((Y + y : Nat) : Int) (rxF i' a).toNat (ryF i' a).toNat k).length = (2 * (ryF i' a).toNat + 1) * (2 * (rxF i' a).toNat + 1)) := winF_len _ _ _ _ _ _ _ _
                    have HWI : Hid (∀ v ∈ winF W H pix ((X + x : Nat) : Int) ((Y + y : Nat) : Int) (rxF i' a).toNat (ryF i' a).toNat k, 0 ≤ v ∧ v < 65536) := winF_in HWV.out
                    have HOI : Hid (0 ≤ atF W H pix ((X + x : Nat) : Int) ((Y + y : Nat) : Int) k ∧ atF W H pix ((X + x : Nat) : Int) ((Y + y : Nat) : Int) k < 65536) := atF_in HWV.out
                    clear hbf hw1 hw2 z4 q0 q1 q2 p0 p1
                    generalize winF W H pix ((X + x : Nat) : Int) ((Y + y : Nat) : Int) (rxF i' a).toNat (ryF i' a).toNat k = l6 at HW1 HW2 HML HWI HSN
                    generalize atF W H pix ((X + x : Nat) : Int) ((Y + y : Nat) : Int) k = own6 at HW1 HOI HSN
                    have hm8 : l6.length * 8 ≤ 140737488351232 := by
                      have hrr := rx_in HI.out HFT.out
                      rw [HML.out]
                      have : (2 * (ryF i' a).toNat + 1) * (2 * (rxF i' a).toNat + 1) ≤ 17 * 17 := Nat.mul_le_mul (by omega) (by omega)
                      omega
                    have HDO : Hid (∀ V, Below w5.heap.size w5 V → Calls Try.prog (doN i') #[.slice A n c, .agg #[.slice A6 l6.length c6, .int .i64 own6]] V (DoP V (doF i' a l6 own6))) := fun V hV => do_any HI.out HFT.out V (HAA.out.below (HBW5.out.trans (hV.mono HBW5.out.size)) (Nat.le_refl _)) ((SI.of_own (l := l6) HW2.out hm8).below hV (Nat.le_refl _)) HWI.out HML.out HOI.out
                    have hde := do_enters HI.out
                    have hsN : 4 * (y * RW + x) + k < N := by rw [← HNN.out]; exact place_in hlx hlt hlk
                    have hr1 : y * RW ≤ 16777216 := Nat.le_trans (Nat.mul_le_mul (show y ≤ 4096 by omega) (show RW ≤ 4096 by omega)) (by omega)
                    have hx4 : x ≤ 4096 := by omega
                    obtain ⟨r1, hr⟩ : ∃ r1 : Nat, y * RW = r1 := ⟨_, rfl⟩
                    obtain ⟨sp, hsp⟩ : ∃ sp : Nat, 4 * (y * RW + x) + k = sp := ⟨_, rfl⟩
                    have hsp2 := hsp
                    rw [hr] at hr1 hsp2
                    have m1 : IntKind.i64.wrap ((y : Int) * (RW : Int)) = (r1 : Int) := by rw [← Int.natCast_mul, hr]; exact IntWalk.i64_in _ (by omega)
                    obtain ⟨m2, m3, m4⟩ := idx_facts hr1 hx4 hlk hsp2
                    rw [hsp] at hsN HSN
                    have HSP := Lib.hid hsp
                    have i0 : (0 : Int) ≤ (sp : Int) := Int.natCast_nonneg _
                    have i1 : (sp : Int) < (N : Int) := Int.ofNat_lt.2 hsN
                    have HCV2 := Lib.hid (clampN_le (doF i' a l6 own6) 65535)
                    have t1 : (if doF i' a l6 own6 < 0 then (0 : Int) else doF i' a l6 own6) = max (doF i' a l6 own6) 0 := max_ite _
                    have t2 : (if (65535 : Int) < max (doF i' a l6 own6) 0 then (65535 : Int) else max (doF i' a l6 own6) 0) = (clampN (doF i' a l6 own6) 65535 : Int) := by rw [min_ite]; unfold clampN; omega
                    generalize doF i' a l6 own6 = dv at *
                    have t6 : min (max dv 0) 65535 = (clampN dv 65535 : Int) := by unfold clampN; omega
                    generalize hcv : clampN dv 65535 = cv at *
                    obtain ⟨mx, t5⟩ : ∃ mx, max dv 0 = mx := ⟨_, rfl⟩
                    rw [t5] at t1 t2 t6
                    have t3 : IntKind.u16.wrap (cv : Int) = (cv : Int) := by rw [IntKind.wrap_u16]; have := HCV2.out; omega
                    clear hsp hsp2 hr hcv hr1 hx4 hm8
                    have HSF : Hid (∀ V, Below w5.heap.size w5 V → V.cell? ⟨w3.heap.size, 2, none⟩ = some (.slice (some ⟨g, 0, none⟩) N c3) ∧ V.cell? ⟨w.heap.size + 1, 2, none⟩ = some (.int .i64 RW) ∧ V.cell? ⟨w1.heap.size, 3, none⟩ = some (.func (.func (doN i')) #[] #[]) ∧ V.cell? ⟨w3.heap.size + 1, 0, none⟩ = some (.slice A6 l6.length c6) ∧ V.cell? ⟨w3.heap.size + 1, 1, none⟩ = some (.int .i64 own6)) := fun V hV => by
                      have hz : w3.heap.size + 2 ≤ w5.heap.size := by have := HPT5.out.bel.size; have := HG1.out; omega
                      have hup : ∀ b x, b < w3.heap.size + 1 → b ≠ g → wS.heap[b]? = some x → V.heap[b]? = some x := fun b x h1 h2 h3 => (hV.block b (by omega)).trans ((HPT5.out.blk b h1 h2).trans h3)
                      refine ⟨row_cell (hup _ _ (by omega) (by have := HG1.out; omega) BO.out) 2, row_cell (hup _ _ (by have := HG1.out; omega) (by have := HG1.out; omega) BR.out) 2, row_cell (hup _ _ (by have := HG1.out; omega) (by have := HG1.out; omega) BP.out) 3, row_cell ((hV.block _ (by omega)).trans HW1.out) 0, row_cell ((hV.block _ (by omega)).trans HW1.out) 1⟩
                    go_wp2_with fail
                    refine wp_region_noPanic ?_
                    refine wp_region_held_drew (S := fun w' => w'.cell? ⟨w3.heap.size, 2, none⟩ = some (.slice (some ⟨g, 0, none⟩) N c3) ∧ w'.cell? ⟨w.heap.size + 1, 2, none⟩ = some (.int .i64 RW) ∧ w'.cell? ⟨w1.heap.size, 3, none⟩ = some (.func (.func (doN i')) #[] #[]) ∧ w'.cell? ⟨w3.heap.size + 1, 0, none⟩ = some (.slice A6 l6.length c6) ∧ w'.cell? ⟨w3.heap.size + 1, 1, none⟩ = some (.int .i64 own6)) (by kernel_rfl) (HSF.out _ (Below.refl _ _).drew) (fun hHeld => ?_)
                    refine wpAnyH_take (i := 0) (v := .pointer (some ⟨w3.heap.size, 2, none⟩)) rfl (by kernel_rfl) (by kernel_rfl) (by kernel_rfl) (fun _ _ _ h => h) (Or.inl ⟨by rfl, ?_⟩) hHeld ?_
                    · intro wz hSw; (try dsimp only at hSw); obtain ⟨s0, s1, s2, s3, s4⟩ := hSw; go_simp
                    try simp only [Act.put, List.setIfInBounds_toArray, List.set_cons_zero, List.set_cons_succ]
                    refine wpAnyH_take (i := 1) (v := .slice (some ⟨g, 0, none⟩) N c3) rfl (by kernel_rfl) (by kernel_rfl) (by kernel_rfl) (fun _ _ _ h => h) (Or.inl ⟨by rfl, ?_⟩) hHeld ?_
                    · intro wz hSw; (try dsimp only at hSw); obtain ⟨s0, s1, s2, s3, s4⟩ := hSw; go_simp
                    try simp only [Act.put, List.setIfInBounds_toArray, List.set_cons_zero, List.set_cons_succ]
                    refine wpAnyH_take (i := 2) (v := .int .i64 y) rfl (by kernel_rfl) (by kernel_rfl) (by kernel_rfl) (fun _ _ _ h => h) (Or.inl ⟨by rfl, ?_⟩) hHeld ?_
                    · intro wz hSw; (try dsimp only at hSw); obtain ⟨s0, s1, s2, s3, s4⟩ := hSw; go_simp
                    try simp only [Act.put, List.setIfInBounds_toArray, List.set_cons_zero, List.set_cons_succ]
                    refine wpAnyH_take (i := 3) (v := .pointer (some ⟨w.heap.size + 1, 2, none⟩)) rfl (by kernel_rfl) (by kernel_rfl) (by kernel_rfl) (fun _ _ _ h => h) (Or.inl ⟨by rfl, ?_⟩) hHeld ?_
                    · intro wz hSw; (try dsimp only at hSw); obtain ⟨s0, s1, s2, s3, s4⟩ := hSw; go_simp
                    try simp only [Act.put, List.setIfInBounds_toArray, List.set_cons_zero, List.set_cons_succ]
                    refine wpAnyH_take (i := 4) (v := .int .i64 RW) rfl (by kernel_rfl) (by kernel_rfl) (by kernel_rfl) (fun _ _ _ h => h) (Or.inl ⟨by rfl, ?_⟩) hHeld ?_
                    · intro wz hSw; (try dsimp only at hSw); obtain ⟨s0, s1, s2, s3, s4⟩ := hSw; go_simp
                    try simp only [Act.put, List.setIfInBounds_toArray, List.set_cons_zero, List.set_cons_succ]
                    refine wpAnyH_take (i := 5) (v := .int .i64 r1) rfl (by kernel_rfl) (by kernel_rfl) (by kernel_rfl) (fun _ _ _ h => h) (Or.inl ⟨by rfl, ?_⟩) hHeld ?_
                    · intro wz hSw; (try dsimp only at hSw); obtain ⟨s0, s1, s2, s3, s4⟩ := hSw; go_simp
                    try simp only [Act.put, List.setIfInBounds_toArray, List.set_cons_zero, List.set_cons_succ]
                    refine wpAnyH_take (i := 6) (v := .int .i64 x) rfl (by kernel_rfl) (by kernel_rfl) (by kernel_rfl) (fun _ _ _ h => h) (Or.inl ⟨by rfl, ?_⟩) hHeld ?_
                    · intro wz hSw; (try dsimp only at hSw); obtain ⟨s0, s1, s2, s3, s4⟩ := hSw; go_simp
                    try simp only [Act.put, List.setIfInBounds_toArray, List.set_cons_zero, List.set_cons_succ]
                    refine wpAnyH_take (i := 7) (v := .int .i64 ((r1 : Int) + (x : Int))) rfl (by kernel_rfl) (by kernel_rfl) (by kernel_rfl) (fun _ _ _ h => h) (Or.inl ⟨by rfl, ?_⟩) hHeld ?_
                    · intro wz hSw; (try dsimp only at hSw); obtain ⟨s0, s1, s2, s3, s4⟩ := hSw; go_simp
                    try simp only [Act.put, List.setIfInBounds_toArray, List.set_cons_zero, List.set_cons_succ]
                    refine wpAnyH_take (i := 8) (v := .int .i64 (4 * ((r1 : Int) + (x : Int)))) rfl (by kernel_rfl) (by kernel_rfl) (by kernel_rfl) (fun _ _ _ h => h) (Or.inl ⟨by rfl, ?_⟩) hHeld ?_
                    · intro wz hSw; (try dsimp only at hSw); obtain ⟨s0, s1, s2, s3, s4⟩ := hSw; go_simp
                    try simp only [Act.put, List.setIfInBounds_toArray, List.set_cons_zero, List.set_cons_succ]
                    refine wpAnyH_take (i := 9) (v := .int .i64 k) rfl (by kernel_rfl) (by kernel_rfl) (by kernel_rfl) (fun _ _ _ h => h) (Or.inl ⟨by rfl, ?_⟩) hHeld ?_
                    · intro wz hSw; (try dsimp only at hSw); obtain ⟨s0, s1, s2, s3, s4⟩ := hSw; go_simp
                    try simp only [Act.put, List.setIfInBounds_toArray, List.set_cons_zero, List.set_cons_succ]
                    refine wpAnyH_take (i := 10) (v := .int .i64 sp) rfl (by kernel_rfl) (by kernel_rfl) (by kernel_rfl) (fun _ _ _ h => h) (Or.inl ⟨by rfl, ?_⟩) hHeld ?_
                    · intro wz hSw; (try dsimp only at hSw); obtain ⟨s0, s1, s2, s3, s4⟩ := hSw; go_simp
                    try simp only [Act.put, List.setIfInBounds_toArray, List.set_cons_zero, List.set_cons_succ]
                    refine wpAnyH_take (i := 11) (v := .pointer (some ⟨w1.heap.size, 3, none⟩)) rfl (by kernel_rfl) (by kernel_rfl) (by kernel_rfl) (fun _ _ _ h => h) (Or.inl ⟨by rfl, ?_⟩) hHeld ?_
                    · intro wz hSw; (try dsimp only at hSw); obtain ⟨s0, s1, s2, s3, s4⟩ := hSw; go_simp
                    try simp only [Act.put, List.setIfInBounds_toArray, List.set_cons_zero, List.set_cons_succ]
                    refine wpAnyH_take (i := 12) (v := .func (.func (doN i')) #[] #[]) rfl (by kernel_rfl) (by kernel_rfl) (by kernel_rfl) (fun _ _ _ h => h) (Or.inl ⟨by rfl, ?_⟩) hHeld ?_
                    · intro wz hSw; (try dsimp only at hSw); obtain ⟨s0, s1, s2, s3, s4⟩ := hSw; go_simp
                    try simp only [Act.put, List.setIfInBounds_toArray, List.set_cons_zero, List.set_cons_succ]
                    refine wpAnyH_take (i := 13) (v := .slice A n c) rfl (by kernel_rfl) (by kernel_rfl) (by kernel_rfl) (fun _ _ _ h => h) (Or.inl ⟨by rfl, ?_⟩) hHeld ?_
                    · intro wz hSw; (try dsimp only at hSw); obtain ⟨s0, s1, s2, s3, s4⟩ := hSw; go_simp
                    try simp only [Act.put, List.setIfInBounds_toArray, List.set_cons_zero, List.set_cons_succ]
                    refine wpAnyH_take (i := 14) (v := .agg #[.slice A6 l6.length c6, .int .i64 own6]) rfl (by kernel_rfl) (by kernel_rfl) (by kernel_rfl) (fun _ _ _ h => h) (Or.inl ⟨by rfl, ?_⟩) hHeld ?_
                    · intro wz hSw; (try dsimp only at hSw); obtain ⟨s0, s1, s2, s3, s4⟩ := hSw; go_simp
                    try simp only [Act.put, List.setIfInBounds_toArray, List.set_cons_zero, List.set_cons_succ]
                    refine wpAnyH_ready (rs := [15]) (by kernel_rfl) (by simp) ?_
                    refine AllReadyH.cons rfl (fun K hK => ?_) AllReadyH.nil
                    go_simp
                    refine (HDO.out _ (Below.refl _ _).drew).mono ?_
                    rintro e w6 ⟨rfl, hb6⟩
                    have HB6 : Hid (Below w5.heap.size w5 w6) := (Below.refl w5.heap.size w5).drew.trans hb6
                    have HPT6 := Lib.hid (HPT5.out.onto (by have := HG1.out; omega) (by have := HG1.out; omega) HB6.out)
                    obtain ⟨⟨ou, hou⟩, hfr⟩ := own_cell HPT6.out.row hsN
                    have HSET := Lib.hid (HPT6.out.put (v := (cv : Int)) (by have := HG1.out; omega) (by have := HG1.out; omega) hsN)
                    clear hb6
                    go_wp2_with fail
                    refine hK.out _ _ (HSF.out _ HB6.out) (fun hHeld => ?_)
                    clear hK K
                    try simp only [Act.put, List.setIfInBounds_toArray, List.set_cons_zero, List.set_cons_succ]
                    refine wpAnyH_take (i := 16) (v := .int .i64 mx) rfl (by kernel_rfl) (by kernel_rfl) (by kernel_rfl) (fun _ _ _ h => h) (Or.inl ⟨by rfl, ?_⟩) hHeld ?_
                    · intro wz hSw; (try dsimp only at hSw); obtain ⟨s0, s1, s2, s3, s4⟩ := hSw; go_simp
                    try simp only [Act.put, List.setIfInBounds_toArray, List.set_cons_zero, List.set_cons_succ]
                    refine wpAnyH_take (i := 17) (v := .int .i64 cv) rfl (by kernel_rfl) (by kernel_rfl) (by kernel_rfl) (fun _ _ _ h => h) (Or.inl ⟨by rfl, ?_⟩) hHeld ?_
                    · intro wz hSw; (try dsimp only at hSw); obtain ⟨s0, s1, s2, s3, s4⟩ := hSw; go_simp
                    try simp only [Act.put, List.setIfInBounds_toArray, List.set_cons_zero, List.set_cons_succ]
                    refine wpAnyH_take (i := 18) (v := .int .u16 cv) rfl (by kernel_rfl) (by kernel_rfl) (by kernel_rfl) (fun _ _ _ h => h) (Or.inl ⟨by rfl, ?_⟩) hHeld ?_
                    · intro wz hSw; (try dsimp only at hSw); obtain ⟨s0, s1, s2, s3, s4⟩ := hSw; go_simp
                    try simp only [Act.put, List.setIfInBounds_toArray, List.set_cons_zero, List.set_cons_succ]
                    refine wpAnyH_take (i := 19) (v := .pointer (some ⟨g, sp, none⟩)) rfl (by kernel_rfl) (by kernel_rfl) (by kernel_rfl) (fun _ _ _ h => h) (Or.inl ⟨by rfl, ?_⟩) hHeld ?_
                    · intro wz hSw; (try dsimp only at hSw); obtain ⟨s0, s1, s2, s3, s4⟩ := hSw; go_simp
                    try simp only [Act.put, List.setIfInBounds_toArray, List.set_cons_zero, List.set_cons_succ]
                    refine wpAnyH_ready (rs := [20]) (by kernel_rfl) (by simp) ?_
                    refine AllReadyH.cons rfl (fun K hK => ?_) AllReadyH.nil
                    go_simp
                    refine hK.out _ _ (by obtain ⟨s0, s1, s2, s3, s4⟩ := HSF.out _ HB6.out; have hgg := HG1.out; exact ⟨(World.cell?_setCell_far _ ⟨g, sp, none⟩ ⟨w3.heap.size, 2, none⟩ _ (by show g ≠ w3.heap.size; omega)).trans s0, (World.cell?_setCell_far _ ⟨g, sp, none⟩ ⟨w.heap.size + 1, 2, none⟩ _ (by show g ≠ w.heap.size + 1; omega)).trans s1, (World.cell?_setCell_far _ ⟨g, sp, none⟩ ⟨w1.heap.size, 3, none⟩ _ (by show g ≠ w1.heap.size; omega)).trans s2, (World.cell?_setCell_far _ ⟨g, sp, none⟩ ⟨w3.heap.size + 1, 0, none⟩ _ (by show g ≠ w3.heap.size + 1; omega)).trans s3, (World.cell?_setCell_far _ ⟨g, sp, none⟩ ⟨w3.heap.size + 1, 1, none⟩ _ (by show g ≠ w3.heap.size + 1; omega)).trans s4⟩) (fun hHeld => ?_)
                    clear hK K
                    try simp only [Act.put, List.setIfInBounds_toArray, List.set_cons_zero, List.set_cons_succ]
                    refine wpAnyH_done (by kernel_rfl) ?_ _
                    refine NoPanic.normal ?_
                    have HEND : Hid (Pt w.heap.size wS (w6.setCell ⟨g, sp, none⟩ (.int .u16 cv)) (w3.heap.size + 1) g c3 N (stageL (outS i' a W H pix X Y RW) (outC W H pix X Y RW) N (4 * (y * RW + x) + (k + 1)))) := by
                      have h1 := HSET.out
                      have h2 := stage_set (outS i' a W H pix X Y RW) (outC W H pix X Y RW) (n := N) (s := sp)
                      rw [HSN.out] at h2
                      rw [HSP.out, h2] at h1
                      show Pt _ _ _ _ _ _ _ _
                      rw [← Nat.add_assoc, HSP.out]; exact h1
                    clear hou hfr hde
                    go_wp2_with fail
                    go_roundw
                    case rel => exact ⟨k + 1, by omega, by go_num, HEND.out⟩
                    case measure => simp [intOf]; omega
              · obtain rfl : k = 4 := by omega
                have HE : Hid (4 * (y * RW + (x + 1)) = 4 * (y * RW + x) + 4) := by show _ = _; omega
                go_wp2_with fail
                go_roundw
                case rel => exact ⟨x + 1, by omega, by go_num, by rw [HE.out]; exact HPT.out⟩
                case measure => simp [intOf]; omega
          · obtain rfl : x = RW := by omega
            have d1 : decide ((x : Int) < (x : Int)) = false := by simp
            have HE : Hid (4 * ((y + 1) * x) = 4 * (y * x + x)) := by show _ = _; rw [Nat.add_mul, Nat.one_mul]
            go_wp2_with fail
            go_roundw
            case rel => exact ⟨y + 1, by omega, by go_num, by rw [HE.out]; exact HPT.out⟩
            case measure => simp [intOf]; omega
      · obtain rfl : y = RH := by omega
        have d0 : decide ((y : Int) < (y : Int)) = false := by simp
        have CO : Hid (wr.heap[w3.heap.size]? = some (.cells #[.int .i64 RW, .int .i64 y, .slice (some ⟨g, 0, none⟩) N c3] 37 (0, 0))) := (HPT.out.blk _ (by omega) (by have := HG1.out; omega)).trans BO.out
        have CZ : Hid (wr.heap[w.heap.size + 2]? = some (.cells zimg 37 (0, 0))) := (HPT.out.blk _ (by have := HG1.out; omega) (by have := HG1.out; omega)).trans BZ.out
        have z0 := row_cell CO.out 0
        have z1 := row_cell CO.out 1
        have z2 := row_cell CO.out 2
        have HSTG : Hid (stageL (outS i' a W H pix X Y RW) (outC W H pix X Y RW) N (4 * (y * RW)) = (List.range N).map (outS i' a W H pix X Y RW)) := by
          show _ = _
          rw [show 4 * (y * RW) = N by rw [← HNN.out, Nat.mul_assoc, Nat.mul_comm y RW]]
          exact stage_all _ _ _
        have HOI : Hid ((#[.int .i64 RW, .int .i64 y, .slice (some ⟨g, 0, none⟩) N c3] : Array Value).all (·.oneCell') = true) := by show _ = _; simp [Value.oneCell']
        clear y2
        go_wp2_with (refine wpList_store_row rfl 37 (.tmp 8) (.tmp 102) rfl (w.heap.size + 2) #[.int .i64 RW, .int .i64 y, .slice (some ⟨g, 0, none⟩) N c3] rfl rfl 37 zimg CZ.out imgInfo rfl HOI.out ?_)
        refine bodyPost_ret (results_row_tmp rfl _ _ (w.heap.size + 2) 37 _ (0, 0) _ rfl (setRow_heap _ _ _ _ _ _ CZ.out) Try.underlying37 rfl imgInfo) rfl ?_
        have hrow := HPT.out.row
        rw [HSTG.out] at hrow
        refine ⟨below_setRow (HBS.out.trans HPT.out.bel) (Nat.le_add_right _ _) _, some ⟨g, 0, none⟩, c3, ?_, ?_⟩
        · rw [HNN.out]; simp
        · rw [HNN.out, show ((List.range N).map (outS i' a W H pix X Y RW)).length = N by simp]
          exact hrow.kept (grown_row _ _ _) (.inr (own_ne hrow CZ.out (by decide)).symm)
end Go.Proofs.Ytogmlcgiajigfaa.Ard
