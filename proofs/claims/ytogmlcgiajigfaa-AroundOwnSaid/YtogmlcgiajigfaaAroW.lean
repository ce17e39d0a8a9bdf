/-
  Walks: the reference's Crop, of a part that is there.
-/
import Derived.Test.YtogmlcgiajigfaaAroU
import Derived.Test.YtogmlcgiajigfaaAroI
set_option linter.unusedVariables false
set_option linter.unusedSimpArgs false
namespace Go.Proofs.Ytogmlcgiajigfaa.Ard
open Go.RowKit K

theorem img_all {w : World} {g : Nat} {T : TypeId} {a b c : Value} (h : w.heap[g]? = some (.cells #[a, b, c] T (0, 0))) : w.cell? ⟨g, 0, none⟩ = some a ∧ w.cell? ⟨g, 1, none⟩ = some b ∧ w.cell? ⟨g, 2, none⟩ = some c ∧
    w.frozen? ⟨g, 0, none⟩ = false ∧ w.frozen? ⟨g, 1, none⟩ = false ∧ w.frozen? ⟨g, 2, none⟩ = false :=
  ⟨row_cell h 0, row_cell h 1, row_cell h 2, row_frozen h 0, row_frozen h 1, row_frozen h 2⟩
theorem row_set3 {w : World} {b g : Nat} {o : Obj} {x y z : Value} (hne : b ≠ g) (h : w.heap[b]? = some o) : (((w.setCell ⟨g, 0, none⟩ x).setCell ⟨g, 1, none⟩ y).setCell ⟨g, 2, none⟩ z).heap[b]? = some o := by
  rw [Below.heap_setCell _ _ _ _ hne, Below.heap_setCell _ _ _ _ hne, Below.heap_setCell _ _ _ _ hne]
  exact h
theorem held_of {w : World} {b0 b1 : Nat} {T U : TypeId} {a b c x y z u : Value} (h : w.heap[b0]? = some (.cells #[a, b, c] T (0, 0))) (k : w.heap[b1]? = some (.cells #[x, y, z, u] U (0, 0))) :
    (w.cell? ⟨b0, 0, none⟩ = some a ∧ w.cell? ⟨b0, 1, none⟩ = some b ∧ w.cell? ⟨b0, 2, none⟩ = some c) ∧ w.cell? ⟨b1, 0, none⟩ = some x ∧ w.cell? ⟨b1, 1, none⟩ = some y :=
  ⟨img_cells h, row_cell k 0, row_cell k 1⟩
theorem Rp.add {wS wr w7 : World} {gi c g cap : Nat} {RW RH : Int} {A : Option Addr} {l p : List Int} (h : Rp wS wr gi RW RH A c l) (hp : p.length = 4)
    (hown : w7.ownsRow gi 53 1 (.slice (some ⟨g, 0, none⟩) (l.length + 4) cap) (l.length + 4) ((l ++ p).map (.int .u16))) (hg : wr.grownBy w7 (Value.slice A l.length c).ownBlock) :
    w7.heap[gi]? = some (.cells #[.int .i64 RW, .int .i64 RH, .slice A l.length c] 37 (0, 0)) ∧
    Rp wS (((w7.setCell ⟨gi, 0, none⟩ (.int .i64 RW)).setCell ⟨gi, 1, none⟩ (.int .i64 RH)).setCell ⟨gi, 2, none⟩ (.slice (some ⟨g, 0, none⟩) (l.length + 4) cap)) gi RW RH (some ⟨g, 0, none⟩) cap (l ++ p) := by
  have hlt := h.lt
  have h1 : w7.heap[gi]? = some (.cells #[.int .i64 RW, .int .i64 RH, .slice A l.length c] 37 (0, 0)) := (hg.block gi hlt (own_ne h.own h.row (by decide))).trans h.row
  have hb7 : Below gi wS w7 := h.bel.grown hg (Nat.le_of_lt hlt) (fun b e => (h.own.lt b e).1)
  have hlen : (l ++ p).length = l.length + 4 := by rw [List.length_append, hp]
  have hk : ∀ {V V' : World}, V.ownsRow gi 53 1 (.slice (some ⟨g, 0, none⟩) (l.length + 4) cap) (l.length + 4) ((l ++ p).map (.int .u16)) → V.grownBy V' (some gi) → V'.ownsRow gi 53 1 (.slice (some ⟨g, 0, none⟩) (l.length + 4) cap) (l.length + 4) ((l ++ p).map (.int .u16)) :=
    fun h hg => h.kept hg (.inr (own_ne hown h1 (by decide)).symm)
  refine ⟨h1, ((hb7.setCell (p := ⟨gi, 0, none⟩) (Nat.le_refl _) _).setCell (p := ⟨gi, 1, none⟩) (Nat.le_refl _) _).setCell (p := ⟨gi, 2, none⟩) (Nat.le_refl _) _, ?_, ?_⟩
  · rw [hlen]; exact row_sets h1
  · rw [hlen]; exact hk (hk (hk hown (grown_set1 _ _ _ _)) (grown_set1 _ _ _ _)) (grown_set1 _ _ _ _)
/-- the pixels of a part, sample by sample -/
def crF (W : Nat) (pix : List Int) (X Y RW : Nat) : Nat → Int := outT (fun x y k => pix.getD (4 * ((Y + y) * W + (X + x)) + k) 0) RW
theorem crF_pixel (W : Nat) (pix : List Int) (X Y : Nat) {RW x y : Nat} (hx : x < RW) : soFar (crF W pix X Y RW) (4 * (y * RW + (x + 1))) = soFar (crF W pix X Y RW) (4 * (y * RW + x)) ++
    [pix.getD (4 * ((Y + y) * W + (X + x))) 0, pix.getD (4 * ((Y + y) * W + (X + x)) + 1) 0, pix.getD (4 * ((Y + y) * W + (X + x)) + 2) 0, pix.getD (4 * ((Y + y) * W + (X + x)) + 3) 0] := by
  have h : ∀ k, k < 4 → crF W pix X Y RW (4 * (y * RW + x) + k) = pix.getD (4 * ((Y + y) * W + (X + x)) + k) 0 := fun k hk => outT_at (fun x y k => pix.getD (4 * ((Y + y) * W + (X + x)) + k) 0) y hx hk
  rw [show 4 * (y * RW + (x + 1)) = 4 * (y * RW + x) + 1 + 1 + 1 + 1 by omega, soFar_succ, soFar_succ, soFar_succ, soFar_succ]
  have h0 := h 0 (by omega)
  rw [Nat.add_zero, Nat.add_zero] at h0
  rw [h0, h 1 (by omega), show 4 * (y * RW + x) + 1 + 1 = 4 * (y * RW + x) + 2 by omega, h 2 (by omega), show 4 * (y * RW + x) + 2 + 1 = 4 * (y * RW + x) + 3 by omega, h 3 (by omega)]
  simp
theorem crop_small {W H X Y RW RH x y : Nat} (hx : X + RW ≤ W) (hy : Y + RH ≤ H) (h : W * H ≤ 65536) (h1 : x < RW) (h2 : y < RH) : 4 * (y * RW + x) ≤ 16777216 := by
  have h3 : (y + 1) * RW ≤ RH * RW := Nat.mul_le_mul_right _ h2
  have h4 : RH * RW ≤ H * W := Nat.mul_le_mul (by omega) (by omega)
  rw [Nat.mul_comm H W] at h4
  rw [Nat.add_mul, Nat.one_mul] at h3
  omega
set_option maxRecDepth 100000 in
set_option maxHeartbeats 4000000 in
theorem rcrop_in {W H X Y RW RH pn pc : Nat} {P : Option Addr} {pix : List Int} (w : World) (HP : SI w .u16 P pn pix) (hg : GoodP W H pn) (hw : WithinP X Y RW RH W H) :
    Calls Try.prog 24 #[.agg #[.int .i64 W, .int .i64 H, .slice P pn pc], .agg #[.int .i64 X, .int .i64 Y, .int .i64 RW, .int .i64 RH]] w (ImgP w RW RH (soFar (crF W pix X Y RW) (4 * RW * RH)) 0) := by
  have hbig : pn ≤ 140737488351232 := by have := HP.sz; simp only [kb] at this; omega
  obtain ⟨W0, hW0, r0, r1, r2, hs, hb⟩ := three_allocs w (.cells #[.int .i64 W, .int .i64 H, .slice P pn pc] 37) (.cells #[.int .i64 X, .int .i64 Y, .int .i64 RW, .int .i64 RH] 46) (.cells zimg 37)
  have HGF : Hid (∀ V, Calls Try.prog 25 #[.agg #[.int .i64 W, .int .i64 H, .slice P pn pc]] V (TestP V true)) := fun V => by
    have := rgood_any (W := W) (H := H) (P := P) (pn := pn) (pc := pc) V hbig
    rwa [decide_eq_true hg] at this
  obtain ⟨hF, hpe⟩ := hg
  unfold FitsP at hF
  have HWF : Hid (∀ V, Calls Try.prog 37 #[.int .i64 X, .int .i64 Y, .int .i64 RW, .int .i64 RH, .int .i64 W, .int .i64 H] V fun e w' => e = .returned (.bool true) ∧ V = w') := fun V => by
    have := within_any (x := X) (y := Y) (rw := RW) (rh := RH) V hF.2.2.1 hF.2.2.2.1
    rwa [decide_eq_true hw] at this
  unfold WithinP at hw
  have hW : 1 ≤ W ∧ W ≤ 4096 := by omega
  have hH : 1 ≤ H ∧ H ≤ 4096 := by omega
  have hwh : W * H ≤ 65536 := by
    have h5 := hF.2.2.2.2
    rw [← Int.natCast_mul] at h5
    omega
  have hpn : pn = 4 * W * H := by have : ((4 * W * H : Nat) : Int) = 4 * (W : Int) * (H : Int) := by push_cast; rfl
                                  omega
  have HBD : Hid (X + RW ≤ W ∧ Y + RH ≤ H ∧ 1 ≤ RW ∧ 1 ≤ RH ∧ W ≤ 4096 ∧ H ≤ 4096 ∧ W * H ≤ 65536) := by show _ ∧ _; omega
  have HPX : Hid (∀ V (px py : Nat), Below w.heap.size w V → px < W → py < H → Calls Try.prog 40 #[.agg #[.int .i64 W, .int .i64 H, .slice P pn pc], .int .i64 px, .int .i64 py] V fun e w' => Below V.heap.size V w' ∧
      e = .returned (.agg #[.int .u16 (pix.getD (4 * (py * W + px)) 0), .int .u16 (pix.getD (4 * (py * W + px) + 1) 0), .int .u16 (pix.getD (4 * (py * W + px) + 2) 0), .int .u16 (pix.getD (4 * (py * W + px) + 3) 0)])) := fun V px py hV h1 h2 =>
    pixel_any V (HP.below hV (Nat.le_refl _)) hpn hW.2 hH.2 h1 h2
  have R0 := Lib.hid r0
  have R1 := Lib.hid r1
  have R2 := Lib.hid r2
  have HB := Lib.hid hb
  clear r0 r1 r2 hs hb HP hF hpe hw hbig hW hH hpn hwh
  go_enter Try.func24, Try.ntmps24
  obtain ⟨x0, x1, x2⟩ := img_cells R0.out
  go_wp2_with fail
  unfold zimg at hW0
  try rw [hW0]
  clear hW0
  refine (HGF.out _).mono ?_
  rintro e w2 ⟨rfl, hb2⟩
  have R2c : Hid (w2.heap[w.heap.size + 2]? = some (.cells zimg 37 (0, 0))) := row_tr R2.out hb2
  have HB2 : Hid (Below w.heap.size w w2) := bel_tr HB.out hb2
  have R0c := Lib.hid (row_tr R0.out hb2)
  have R1c := Lib.hid (row_tr R1.out hb2)
  clear hb2 x0 x1 x2 HB R0 R1 R2
  have x0 := row_cell R0c.out 0
  have x1 := row_cell R0c.out 1
  have y0 := row_cell R1c.out 0
  have y1 := row_cell R1c.out 1
  have y2 := row_cell R1c.out 2
  have y3 := row_cell R1c.out 3
  go_wp2_with fail
  refine (HWF.out _).mono ?_
  rintro e w3 ⟨rfl, rfl⟩
  clear x0 x1 y0 y1 y2 y3
  have y2 := row_cell R1c.out 2
  have y3 := row_cell R1c.out 3
  go_upto_region 6 with (fail)
  clear y2 y3
  obtain ⟨wS, hwS⟩ : ∃ v, w2.alloc (.cells #[.int .i64 RW, .int .i64 RH, .slice none 0 0] 37) = v := ⟨_, rfl⟩
  obtain ⟨gi, hgi⟩ : ∃ v, w2.heap.size = v := ⟨_, rfl⟩
  have S0 : Hid (wS.heap[w.heap.size]? = some (.cells #[.int .i64 W, .int .i64 H, .slice P pn pc] 37 (0, 0))) := by show _ = _; rw [← hwS]; exact row_al R0c.out
  have S1 : Hid (wS.heap[w.heap.size + 1]? = some (.cells #[.int .i64 X, .int .i64 Y, .int .i64 RW, .int .i64 RH] 46 (0, 0))) := by show _ = _; rw [← hwS]; exact row_al R1c.out
  have S2 : Hid (wS.heap[w.heap.size + 2]? = some (.cells zimg 37 (0, 0))) := by show _ = _; rw [← hwS]; exact row_al R2c.out
  have HGI : Hid (w.heap.size + 2 < gi) := by show _ < _; rw [← hgi]; exact (Array.getElem?_eq_some_iff.1 R2c.out).1
  have HNE : Hid (w.heap.size ≠ gi ∧ w.heap.size + 1 ≠ gi) := by show _ ∧ _; have := HGI.out; omega
  have HBS : Hid (Below w.heap.size w wS) := by show Below _ _ _; rw [← hwS]; exact bel_al HB2.out _
  have HRP0 : Hid (Rp wS wS gi RW RH none 0 (soFar (crF W pix X Y RW) (4 * (0 * RW)))) := by
    show Rp _ _ _ _ _ _ _ _
    rw [Nat.zero_mul]
    refine ⟨Below.refl _ _, ?_, World.ownsRow_nil _ _ _ _⟩
    rw [← hwS, ← hgi]
    exact heap_alloc_new _ _
  rw [hwS, hgi]
  clear hwS hgi R0c R1c R2c HB2
  go_wp2_with fail
  go_loopw [7] (fun s7 wr => ∃ (y : Nat) (A3 : Option Addr) (c3 : Nat), y ≤ RH ∧ s7 = .int .i64 y ∧ Rp wS wr gi RW RH A3 c3 (soFar (crF W pix X Y RW) (4 * (y * RW)))) (fun s7 _ => RH - (intOf s7).toNat)
  case atStart => exact ⟨0, none, 0, by omega, rfl, HRP0.out⟩
  case round =>
    clear HRP0
    obtain ⟨y, A3, c3, hyR, rfl, hrp⟩ := hrel
    have HRP := Lib.hid hrp
    have HT1 : Hid (wr.heap[w.heap.size + 1]? = some (.cells #[.int .i64 X, .int .i64 Y, .int .i64 RW, .int .i64 RH] 46 (0, 0))) := (hrp.bel.block _ (by have := HGI.out; omega)).trans S1.out
    have z3 := row_cell HT1.out 3
    clear hrp
    by_cases hlt : y < RH
    · have d0 : decide ((y : Int) < (RH : Int)) = true := decide_eq_true (by omega)
      have e0 : decide (y < RH) = true := decide_eq_true hlt
      have HLY := Lib.hid hlt
      clear hyR hlt
      go_wp2_with fail
      clear z3
      go_loopw [8] (fun s8 wr => ∃ (x : Nat) (A3 : Option Addr) (c3 : Nat), x ≤ RW ∧ s8 = .int .i64 x ∧ Rp wS wr gi RW RH A3 c3 (soFar (crF W pix X Y RW) (4 * (y * RW + x)))) (fun s8 _ => RW - (intOf s8).toNat)
      case atStart => exact ⟨0, A3, c3, by omega, rfl, HRP.out⟩
      case round =>
        clear HRP
        obtain ⟨x, A3, c3, hxR, rfl, hrp⟩ := hrel
        have HRP := Lib.hid hrp
        have HRC : Hid (wr.heap[w.heap.size + 1]? = some (.cells #[.int .i64 X, .int .i64 Y, .int .i64 RW, .int .i64 RH] 46 (0, 0))) := (hrp.bel.block _ (by have := HGI.out; omega)).trans S1.out
        have HIM : Hid (wr.heap[w.heap.size]? = some (.cells #[.int .i64 W, .int .i64 H, .slice P pn pc] 37 (0, 0))) := (hrp.bel.block _ (by have := HGI.out; omega)).trans S0.out
        have z2 := row_cell HRC.out 2
        by_cases hlx : x < RW
        · have d1 : decide ((x : Int) < (RW : Int)) = true := decide_eq_true (by omega)
          have e1 : decide (x < RW) = true := decide_eq_true hlx
          have HLX := Lib.hid hlx
          obtain ⟨px, hpx⟩ : ∃ v, X + x = v := ⟨_, rfl⟩
          obtain ⟨py, hpy⟩ : ∃ v, Y + y = v := ⟨_, rfl⟩
          have HWX : Hid (wrap64 ((x : Int) + 1) = ((x + 1 : Nat) : Int)) := wrap_up hlx (by have := HBD.out; omega)
          have HM1 : Hid (IntKind.i64.wrap ((X : Int) + (x : Int)) = (px : Int)) := by show _ = _; rw [show (X : Int) + (x : Int) = (px : Int) by omega]; exact IntWalk.i64_in _ (by have := HBD.out; omega)
          have HM2 : Hid (IntKind.i64.wrap ((Y : Int) + (y : Int)) = (py : Int)) := by show _ = _; rw [show (Y : Int) + (y : Int) = (py : Int) by omega]; exact IntWalk.i64_in _ (by have := HBD.out; have := HLY.out; omega)
          have HPIX := Lib.hid (fun V (hV : Below wr.heap.size wr V) => HPX.out V px py ((HBS.out.trans (hrp.bel.mono (by have := HGI.out; omega))).trans (hV.mono (by have := hrp.lt; have := HGI.out; omega))) (by have := HBD.out; omega) (by have := HBD.out; have := HLY.out; omega))
          have hs1 := crF_pixel W pix X Y (y := y) hlx
          rw [hpx, hpy] at hs1
          have HS1 := Lib.hid hs1
          have HLEN : Hid ((soFar (crF W pix X Y RW) (4 * (y * RW + x))).length ≤ 16777216) := by show _ ≤ _; rw [soFar_len]; exact crop_small HBD.out.1 HBD.out.2.1 HBD.out.2.2.2.2.2.2 hlx HLY.out
          obtain ⟨q0, q1, q2⟩ := img_cells hrp.row
          generalize soFar (crF W pix X Y RW) (4 * (y * RW + x)) = l1 at *
          generalize pix.getD (4 * (py * W + px)) 0 = p0 at *
          generalize pix.getD (4 * (py * W + px) + 1) 0 = p1 at *
          generalize pix.getD (4 * (py * W + px) + 2) 0 = p2 at *
          generalize pix.getD (4 * (py * W + px) + 3) 0 = p3 at *
          clear hrp hlx hxR hpx hpy hs1
          go_upto_region 12 with (fail)
          clear z2
          have m1 := HM1.out
          have m2 := HM2.out
--<region
          refine wp_region_noPanic ?_
          refine wp_region_held_drew (S := fun w' => (w'.cell? ⟨w.heap.size, 0, none⟩ = some (.int .i64 W) ∧ w'.cell? ⟨w.heap.size, 1, none⟩ = some (.int .i64 H) ∧ w'.cell? ⟨w.heap.size, 2, none⟩ = some (.slice P pn pc)) ∧ w'.cell? ⟨w.heap.size + 1, 0, none⟩ = some (.int .i64 X) ∧ w'.cell? ⟨w.heap.size + 1, 1, none⟩ = some (.int .i64 Y)) (by kernel_rfl) (held_of (row_dr HIM.out) (row_dr HRC.out)) (fun hHeld => ?_)
          refine wpAnyH_take (i := 1) (v := .agg #[.int .i64 W, .int .i64 H, .slice P pn pc]) rfl (by kernel_rfl) (by kernel_rfl) (by kernel_rfl) (fun _ _ _ h => h) (Or.inl ⟨by rfl, ?_⟩) hHeld ?_
          · intro wz hSw; (try dsimp only at hSw); obtain ⟨⟨s0, s1, s2⟩, s3, s4⟩ := hSw; go_simp
          try simp only [Act.put, List.setIfInBounds_toArray, List.set_cons_zero, List.set_cons_succ]
          refine wpAnyH_take (i := 2) (v := .pointer (some ⟨w.heap.size + 1, 0, none⟩)) rfl (by kernel_rfl) (by kernel_rfl) (by kernel_rfl) (fun _ _ _ h => h) (Or.inl ⟨by rfl, ?_⟩) hHeld ?_
          · intro wz hSw; (try dsimp only at hSw); obtain ⟨⟨s0, s1, s2⟩, s3, s4⟩ := hSw; go_simp
          try simp only [Act.put, List.setIfInBounds_toArray, List.set_cons_zero, List.set_cons_succ]
          refine wpAnyH_take (i := 3) (v := .int .i64 X) rfl (by kernel_rfl) (by kernel_rfl) (by kernel_rfl) (fun _ _ _ h => h) (Or.inl ⟨by rfl, ?_⟩) hHeld ?_
          · intro wz hSw; (try dsimp only at hSw); obtain ⟨⟨s0, s1, s2⟩, s3, s4⟩ := hSw; go_simp
          try simp only [Act.put, List.setIfInBounds_toArray, List.set_cons_zero, List.set_cons_succ]
          refine wpAnyH_take (i := 4) (v := .int .i64 x) rfl (by kernel_rfl) (by kernel_rfl) (by kernel_rfl) (fun _ _ _ h => h) (Or.inl ⟨by rfl, ?_⟩) hHeld ?_
          · intro wz hSw; (try dsimp only at hSw); obtain ⟨⟨s0, s1, s2⟩, s3, s4⟩ := hSw; go_simp
          try simp only [Act.put, List.setIfInBounds_toArray, List.set_cons_zero, List.set_cons_succ]
          refine wpAnyH_take (i := 5) (v := .int .i64 px) rfl (by kernel_rfl) (by kernel_rfl) (by kernel_rfl) (fun _ _ _ h => h) (Or.inl ⟨by rfl, ?_⟩) hHeld ?_
          · intro wz hSw; (try dsimp only at hSw); obtain ⟨⟨s0, s1, s2⟩, s3, s4⟩ := hSw; go_simp
          try simp only [Act.put, List.setIfInBounds_toArray, List.set_cons_zero, List.set_cons_succ]
          refine wpAnyH_take (i := 6) (v := .pointer (some ⟨w.heap.size + 1, 1, none⟩)) rfl (by kernel_rfl) (by kernel_rfl) (by kernel_rfl) (fun _ _ _ h => h) (Or.inl ⟨by rfl, ?_⟩) hHeld ?_
          · intro wz hSw; (try dsimp only at hSw); obtain ⟨⟨s0, s1, s2⟩, s3, s4⟩ := hSw; go_simp
          try simp only [Act.put, List.setIfInBounds_toArray, List.set_cons_zero, List.set_cons_succ]
          refine wpAnyH_take (i := 7) (v := .int .i64 Y) rfl (by kernel_rfl) (by kernel_rfl) (by kernel_rfl) (fun _ _ _ h => h) (Or.inl ⟨by rfl, ?_⟩) hHeld ?_
          · intro wz hSw; (try dsimp only at hSw); obtain ⟨⟨s0, s1, s2⟩, s3, s4⟩ := hSw; go_simp
          try simp only [Act.put, List.setIfInBounds_toArray, List.set_cons_zero, List.set_cons_succ]
          refine wpAnyH_take (i := 8) (v := .int .i64 y) rfl (by kernel_rfl) (by kernel_rfl) (by kernel_rfl) (fun _ _ _ h => h) (Or.inl ⟨by rfl, ?_⟩) hHeld ?_
          · intro wz hSw; (try dsimp only at hSw); obtain ⟨⟨s0, s1, s2⟩, s3, s4⟩ := hSw; go_simp
          try simp only [Act.put, List.setIfInBounds_toArray, List.set_cons_zero, List.set_cons_succ]
          refine wpAnyH_take (i := 9) (v := .int .i64 py) rfl (by kernel_rfl) (by kernel_rfl) (by kernel_rfl) (fun _ _ _ h => h) (Or.inl ⟨by rfl, ?_⟩) hHeld ?_
          · intro wz hSw; (try dsimp only at hSw); obtain ⟨⟨s0, s1, s2⟩, s3, s4⟩ := hSw; go_simp
          try simp only [Act.put, List.setIfInBounds_toArray, List.set_cons_zero, List.set_cons_succ]
          refine wpAnyH_ready (rs := [0, 10]) (by kernel_rfl) (by simp) ?_
          refine AllReadyH.cons rfl (fun K hK => ?_) (AllReadyH.cons rfl (fun K hK => ?_) AllReadyH.nil)
          · go_simp
            refine hK.out _ _ (held_of (row_dr HIM.out) (row_dr HRC.out)) (fun hHeld => ?_)
            clear hK K
            try simp only [Act.put, List.setIfInBounds_toArray, List.set_cons_zero, List.set_cons_succ]
            clear q0 q1 q2
            refine wpAnyH_ready (rs := [10]) (by kernel_rfl) (by simp) ?_
            refine AllReadyH.cons rfl (fun K hK => ?_) AllReadyH.nil
            go_simp
            refine (HPIX.out _ (Below.refl _ _).drew).mono ?_
            rintro e w6 ⟨hb6, rfl⟩
            have HB6 : Hid (Below wr.heap.size wr w6) := (Below.refl wr.heap.size wr).drew.trans hb6
            have HR6 := Lib.hid (HRP.out.on HB6.out)
            have HIM6 := Lib.hid (row_tr HIM.out HB6.out)
            have HRC6 := Lib.hid (row_tr HRC.out HB6.out)
            obtain ⟨q0, q1, q2⟩ := img_cells HR6.out.row
            clear hb6
            go_wp2_with fail
            refine hK.out _ _ (held_of HIM6.out HRC6.out) (fun hHeld => ?_)
            clear hK K
            try simp only [Act.put, List.setIfInBounds_toArray, List.set_cons_zero, List.set_cons_succ]
            refine wpAnyH_ready (rs := [11]) (by kernel_rfl) (by simp) ?_
            refine AllReadyH.cons rfl (fun K hK => ?_) AllReadyH.nil
            go_simp
            refine (add_any (base := gi) w6 HR6.out.own HLEN.out (Nat.le_of_lt HR6.out.lt)).mono ?_
            rintro e w7 ⟨gg, cap, rfl, hown7, hg7, -, -⟩
            have HPS := Lib.hid (HR6.out.add rfl hown7 hg7)
            have HI7 := Lib.hid ((hg7.block _ (Array.getElem?_eq_some_iff.1 HIM6.out).1 (own_ne HR6.out.own HIM6.out (by decide))).trans HIM6.out)
            have HC7 := Lib.hid ((hg7.block _ (Array.getElem?_eq_some_iff.1 HRC6.out).1 (own_ne HR6.out.own HRC6.out (by decide))).trans HRC6.out)
            clear hown7 hg7 q0 q1 q2
            obtain ⟨q0, q1, q2, q3, q4, q5⟩ := img_all HPS.out.1
            go_wp2_with fail
            refine hK.out _ _ (held_of HI7.out HC7.out) (fun hHeld => ?_)
            clear hK K
            try simp only [Act.put, List.setIfInBounds_toArray, List.set_cons_zero, List.set_cons_succ]
            refine wpAnyH_ready (rs := [12]) (by kernel_rfl) (by simp) ?_
            refine AllReadyH.cons rfl (fun K hK => ?_) AllReadyH.nil
            go_simp
            refine hK.out _ _ (held_of (row_set3 HNE.out.1 HI7.out) (row_set3 HNE.out.2 HC7.out)) (fun hHeld => ?_)
            clear hK K
            try simp only [Act.put, List.setIfInBounds_toArray, List.set_cons_zero, List.set_cons_succ]
            refine wpAnyH_done (by kernel_rfl) ?_ _
            refine NoPanic.normal ?_
            have HEND := Lib.hid HPS.out.2
            clear q0 q1 q2 q3 q4 q5
            go_wp2_with fail
            go_roundw
            case rel => exact ⟨x + 1, some ⟨gg, 0, none⟩, cap, HLX.out, by first | rfl | rw [HWX.out], by rw [HS1.out]; exact HEND.out⟩
            case measure => first | (rw [HWX.out]; exact meas_up HLX.out) | exact meas_up HLX.out
          · clear q0 q1 q2
            go_simp
            refine (HPIX.out _ (Below.refl _ _).drew).mono ?_
            rintro e w6 ⟨hb6, rfl⟩
            have HB6 : Hid (Below wr.heap.size wr w6) := (Below.refl wr.heap.size wr).drew.trans hb6
            have HR6 := Lib.hid (HRP.out.on HB6.out)
            have HIM6 := Lib.hid (row_tr HIM.out HB6.out)
            have HRC6 := Lib.hid (row_tr HRC.out HB6.out)
            obtain ⟨q0, q1, q2⟩ := img_cells HR6.out.row
            clear hb6
            go_wp2_with fail
            refine hK.out _ _ (held_of HIM6.out HRC6.out) (fun hHeld => ?_)
            clear hK K
            try simp only [Act.put, List.setIfInBounds_toArray, List.set_cons_zero, List.set_cons_succ]
            refine wpAnyH_ready (rs := [0]) (by kernel_rfl) (by simp) ?_
            refine AllReadyH.cons rfl (fun K hK => ?_) AllReadyH.nil
            go_simp
            refine hK.out _ _ (held_of HIM6.out HRC6.out) (fun hHeld => ?_)
            clear hK K
            try simp only [Act.put, List.setIfInBounds_toArray, List.set_cons_zero, List.set_cons_succ]
            refine wpAnyH_ready (rs := [11]) (by kernel_rfl) (by simp) ?_
            refine AllReadyH.cons rfl (fun K hK => ?_) AllReadyH.nil
            go_simp
            refine (add_any (base := gi) w6 HR6.out.own HLEN.out (Nat.le_of_lt HR6.out.lt)).mono ?_
            rintro e w7 ⟨gg, cap, rfl, hown7, hg7, -, -⟩
            have HPS := Lib.hid (HR6.out.add rfl hown7 hg7)
            have HI7 := Lib.hid ((hg7.block _ (Array.getElem?_eq_some_iff.1 HIM6.out).1 (own_ne HR6.out.own HIM6.out (by decide))).trans HIM6.out)
            have HC7 := Lib.hid ((hg7.block _ (Array.getElem?_eq_some_iff.1 HRC6.out).1 (own_ne HR6.out.own HRC6.out (by decide))).trans HRC6.out)
            clear hown7 hg7 q0 q1 q2
            obtain ⟨q0, q1, q2, q3, q4, q5⟩ := img_all HPS.out.1
            go_wp2_with fail
            refine hK.out _ _ (held_of HI7.out HC7.out) (fun hHeld => ?_)
            clear hK K
            try simp only [Act.put, List.setIfInBounds_toArray, List.set_cons_zero, List.set_cons_succ]
            refine wpAnyH_ready (rs := [12]) (by kernel_rfl) (by simp) ?_
            refine AllReadyH.cons rfl (fun K hK => ?_) AllReadyH.nil
            go_simp
            refine hK.out _ _ (held_of (row_set3 HNE.out.1 HI7.out) (row_set3 HNE.out.2 HC7.out)) (fun hHeld => ?_)
            clear hK K
            try simp only [Act.put, List.setIfInBounds_toArray, List.set_cons_zero, List.set_cons_succ]
            refine wpAnyH_done (by kernel_rfl) ?_ _
            refine NoPanic.normal ?_
            have HEND := Lib.hid HPS.out.2
            clear q0 q1 q2 q3 q4 q5
            go_wp2_with fail
            go_roundw
            case rel => exact ⟨x + 1, some ⟨gg, 0, none⟩, cap, HLX.out, by first | rfl | rw [HWX.out], by rw [HS1.out]; exact HEND.out⟩
            case measure => first | (rw [HWX.out]; exact meas_up HLX.out) | exact meas_up HLX.out
--region>
        · obtain rfl : x = RW := by omega
          have d1 : decide ((x : Int) < (x : Int)) = false := by simp
          have HE : Hid (4 * ((y + 1) * x) = 4 * (y * x + x)) := by show _ = _; rw [Nat.add_mul, Nat.one_mul]
          have HWY : Hid (wrap64 ((y : Int) + 1) = ((y + 1 : Nat) : Int)) := wrap_up HLY.out (by have := HBD.out; omega)
          clear hrp hlx hxR
          go_wp2_with fail
          go_roundw
          case rel => exact ⟨y + 1, A3, c3, HLY.out, by first | rfl | rw [HWY.out], by rw [HE.out]; exact HRP.out⟩
          case measure => first | (rw [HWY.out]; exact meas_up HLY.out) | exact meas_up HLY.out
    · obtain rfl : y = RH := by omega
      have d0 : decide ((y : Int) < (y : Int)) = false := by simp
      have CZ : Hid (wr.heap[w.heap.size + 2]? = some (.cells zimg 37 (0, 0))) := (HRP.out.bel.block _ (by have := HGI.out; omega)).trans S2.out
      have HN : Hid (4 * (y * RW) = 4 * RW * y) := by show _ = _; rw [Nat.mul_comm y RW, Nat.mul_assoc]
      rw [HN.out] at HRP
      have q0 := row_cell HRP.out.row 0
      have q1 := row_cell HRP.out.row 1
      have q2 := row_cell HRP.out.row 2
      have HOI : Hid ((#[.int .i64 RW, .int .i64 y, .slice A3 (soFar (crF W pix X Y RW) (4 * RW * y)).length c3] : Array Value).all (·.oneCell') = true) := by show _ = _; simp [Value.oneCell']
      clear hyR hlt
      generalize soFar (crF W pix X Y RW) (4 * RW * y) = l1 at *
      go_wp2_with (refine wpList_store_row rfl 37 (.tmp 4) (.tmp 57) rfl (w.heap.size + 2) #[.int .i64 RW, .int .i64 y, .slice A3 l1.length c3] rfl rfl 37 zimg CZ.out imgInfo rfl HOI.out ?_)
      refine bodyPost_ret (results_row_tmp rfl _ _ (w.heap.size + 2) 37 #[.int .i64 RW, .int .i64 y, .slice A3 l1.length c3] (0, 0) _ rfl (setRow_heap _ _ _ _ _ _ CZ.out) Try.underlying37 rfl imgInfo) rfl ?_
      refine ⟨below_setRow (HBS.out.trans (HRP.out.bel.mono (by have := HGI.out; omega))) (Nat.le_add_right _ _) _, A3, c3, by first | rfl | simp, ?_⟩
      exact (own_base HRP.out.own (by have := HGI.out; omega)).kept (grown_row _ _ _) (.inr (own_ne HRP.out.own CZ.out (by decide)).symm)
end Go.Proofs.Ytogmlcgiajigfaa.Ard
