/-
  Walks: raster.Crop, where the part lies within the image.
-/
import Derived.Test.YtogmlcgiajigfaaArdW
set_option linter.unusedVariables false
set_option linter.unusedSimpArgs false
namespace Go.Proofs.Ytogmlcgiajigfaa.Ard
open Go.RowKit K

/-- an image that is being built: its block, and what its slice owns -/
structure Cr (base : Nat) (wB wr : World) (bo : Nat) (a b : Value) (A : Option Addr) (c : Nat) (l : List Int) : Prop where
  bel : Below base wB wr
  win : wr.heap[bo]? = some (.cells #[a, b, .slice A l.length c] 37 (0, 0))
  row : wr.ownsRow base 53 1 (.slice A l.length c) l.length (l.map (.int .u16))
theorem set_row2 {w : World} {b : Nat} {u v x y : Value} {t : TypeId} (h : w.heap[b]? = some (.cells #[x, y, u] t (0, 0))) : (w.setCell ⟨b, 2, none⟩ v).heap[b]? = some (.cells #[x, y, v] t (0, 0)) := by
  rw [setCell_eq_setRow w b 2 _ t (0, 0) v h, setRow_heap _ _ _ _ _ _ h]; rfl
theorem grown_set1 (w : World) (b i : Nat) (v : Value) : w.grownBy (w.setCell ⟨b, i, none⟩ v) (some b) :=
  ⟨rfl, rfl, rfl, by simp [World.setCell], fun k _ hk => Below.heap_setCell _ _ _ k (fun e => hk (by rw [e]))⟩
theorem grown_row (w : World) (g : Nat) (cs : Array Value) : w.grownBy (w.setRow g cs) (some g) :=
  ⟨rfl, rfl, rfl, by simp [World.setRow], fun k _ hk => setRow_other w g k cs (fun e => hk (by rw [e]))⟩
theorem Cr.app {base : Nat} {wB wr w5 : World} {bo : Nat} {a b : Value} {A A5 : Option Addr} {c c5 : Nat} {l l2 : List Int} (h : Cr base wB wr bo a b A c l) (hbo : base ≤ bo) (hB : base ≤ wB.heap.size)
    (hown : w5.ownsRow base 53 1 (.slice A5 (l.length + l2.length) c5) (l.length + l2.length) (l.map (.int .u16) ++ l2.map (.int .u16))) (hg : wr.drew.grownBy w5 (Value.slice A l.length c).ownBlock) :
    w5.heap[bo]? = some (.cells #[a, b, .slice A l.length c] 37 (0, 0)) ∧ Below base wB w5 ∧ Cr base wB (w5.setCell ⟨bo, 2, none⟩ (.slice A5 (l.length + l2.length) c5)) bo a b A5 c5 (l ++ l2) := by
  have hsz := h.bel.size
  have h1 : w5.heap[bo]? = some (.cells #[a, b, .slice A l.length c] 37 (0, 0)) := (hg.block bo (Array.getElem?_eq_some_iff.1 h.win).1 (own_ne h.row h.win (by decide))).trans h.win
  have hb5 : Below base wB w5 := h.bel.drew.grown hg (by show base ≤ wr.heap.size; omega) (fun b e => (h.row.lt b e).1)
  refine ⟨h1, hb5, hb5.setCell (p := ⟨bo, 2, none⟩) hbo _, ?_, ?_⟩
  · rw [List.length_append]; exact set_row2 h1
  · rw [List.length_append, List.map_append]
    exact hown.kept (grown_set1 w5 bo 2 _) (.inr (own_ne hown h1 (by decide)).symm)
theorem cropK_len {W : Nat} {pix : List Int} {X Y RW H k : Nat} (hp : pix.length = 4 * W * H) (hx : X + RW ≤ W) (hk : Y + k ≤ H) : (cropK W pix X Y RW k).length = k * (4 * RW) := by
  induction k with
  | zero => simp [cropK]
  | succ k ih =>
    rw [cropK_succ, List.length_append, ih (by omega), List.length_take, List.length_drop, hp]
    have h1 : (Y + k + 1) * W ≤ H * W := Nat.mul_le_mul_right W (by omega)
    rw [Nat.add_mul, Nat.one_mul] at h1
    have h2 : 4 * W * H = 4 * (H * W) := by rw [Nat.mul_assoc, Nat.mul_comm W H]
    rw [h2, show (k + 1) * (4 * RW) = k * (4 * RW) + 4 * RW by rw [Nat.add_mul, Nat.one_mul]]
    generalize (Y + k) * W = a at *
    generalize H * W = b at *
    omega
theorem sl_part {w : World} {pb po pn : Nat} {pix : List Int} (h : SI w .u16 (some ⟨pb, po, none⟩) pn pix) (at_ m : Nat) : Sl w (some ⟨pb, po + at_, none⟩) (((pix.drop at_).take m).map (.int .u16)) := by
  intro j u hu
  rw [List.getElem?_map, Option.map_eq_some_iff] at hu
  obtain ⟨x, hx, rfl⟩ := hu
  rw [List.getElem?_take] at hx
  split at hx
  · rw [List.getElem?_drop] at hx
    obtain ⟨b, off, e, hc⟩ := h.sl (at_ + j) (.int .u16 x) (by rw [List.getElem?_map, hx]; rfl)
    injection e with e
    injection e with e1 e2
    subst e1 e2
    exact ⟨pb, po + at_, rfl, by rw [Nat.add_assoc]; exact hc⟩
  · cases hx
theorem crop_place {W H X Y RW k : Nat} (hx : X + RW ≤ W) (hk : Y + k + 1 ≤ H) : 4 * ((Y + k) * W + X) + 4 * RW ≤ 4 * W * H := by
  have h1 : (Y + k + 1) * W ≤ H * W := Nat.mul_le_mul_right W hk
  rw [Nat.add_mul, Nat.one_mul] at h1
  have h2 : 4 * W * H = 4 * (H * W) := by rw [Nat.mul_assoc, Nat.mul_comm W H]
  rw [h2]
  generalize (Y + k) * W = a at *
  generalize H * W = b at *
  omega
theorem crop_len_in {W : Nat} {pix : List Int} {X Y RW RH H k : Nat} (hp : pix.length = 4 * W * H) (hx : X + RW ≤ W) (hy : Y + RH ≤ H) (hk : k ≤ RH) (hW : W ≤ 4096) (hH : H ≤ 4096) : (cropK W pix X Y RW k).length ≤ 67108864 := by
  rw [cropK_len (H := H) hp hx (by omega)]
  exact Nat.le_trans (Nat.mul_le_mul (show k ≤ 4096 by omega) (show 4 * RW ≤ 16384 by omega)) (by omega)
theorem part_len {pix : List Int} {q m pn : Nat} (hl : pix.length = pn) (h : q + m ≤ pn) : ((pix.drop q).take m).length = m := by
  rw [List.length_take, List.length_drop, hl]; omega
set_option maxHeartbeats 4000000 in
theorem crop_in {W H X Y RW RH pn pc : Nat} {P : Option Addr} {pix : List Int} (w : World) (HP : SI w .u16 P pn pix) (hpc : pn ≤ pc) (hpc2 : pc ≤ 9223372036854775807) (hg : GoodP W H pn) (hw : WithinP X Y RW RH W H) :
    Calls Try.prog 35 #[.agg #[.int .i64 W, .int .i64 H, .slice P pn pc], .agg #[.int .i64 X, .int .i64 Y, .int .i64 RW, .int .i64 RH]] w (ImgP w RW RH (cropK W pix X Y RW RH) 0) := by
  have hbig : pn ≤ 140737488351232 := by have := HP.sz; simp only [kb] at this; omega
  have HG : Hid (∀ V, Calls Try.prog 61 #[.agg #[.int .i64 W, .int .i64 H, .slice P pn pc]] V (TestP V true)) := fun V => by have := good_any (W := W) (H := H) (P := P) (pc := pc) V hbig; rwa [decide_eq_true hg] at this
  obtain ⟨W0, hW0, r0, r1, r2, hs, hb⟩ := three_allocs w (.cells #[.int .i64 W, .int .i64 H, .slice P pn pc] 37) (.cells #[.int .i64 X, .int .i64 Y, .int .i64 RW, .int .i64 RH] 46) (.cells zimg 37)
  have R0 := Lib.hid r0
  have R1 := Lib.hid r1
  have R2 := Lib.hid r2
  have HS := Lib.hid hs
  have HB := Lib.hid hb
  obtain ⟨hF, hpe⟩ := hg
  unfold FitsP at hF
  unfold WithinP at hw
  have hW : 1 ≤ W ∧ W ≤ 4096 := by omega
  have hH : 1 ≤ H ∧ H ≤ 4096 := by omega
  have hpn : pn = 4 * W * H := by have : ((4 * W * H : Nat) : Int) = 4 * (W : Int) * (H : Int) := by push_cast; rfl
                                  omega
  have hx : X + RW ≤ W := by omega
  have hy : Y + RH ≤ H := by omega
  have hRW1 : 1 ≤ RW := by omega
  have d1 : decide ((RW : Int) < 1) = false := decide_eq_false (by omega)
  have d2 : decide ((RH : Int) < 1) = false := decide_eq_false (by omega)
  have d3 : decide ((W : Int) < (RW : Int)) = false := decide_eq_false (by omega)
  have d4 : decide ((H : Int) < (RH : Int)) = false := decide_eq_false (by omega)
  have d5 : decide ((X : Int) < 0) = false := decide_eq_false (by omega)
  have d6 : decide ((Y : Int) < 0) = false := decide_eq_false (by omega)
  have w1 : wrap64 ((W : Int) - RW) = (W : Int) - RW := IntWalk.wrap64_in _ (by omega)
  have w2 : wrap64 ((H : Int) - RH) = (H : Int) - RH := IntWalk.wrap64_in _ (by omega)
  have d7 : decide ((W : Int) - RW < (X : Int)) = false := decide_eq_false (by omega)
  have d8 : decide ((H : Int) - RH < (Y : Int)) = false := decide_eq_false (by omega)
  have e3 : decide (W < RW) = false := decide_eq_false (by omega)
  have e4 : decide (H < RH) = false := decide_eq_false (by omega)
  have HHP := Lib.hid HP
  have HPN := Lib.hid hpn
  have HPC := Lib.hid hpc
  clear r0 r1 r2 hs hb hF hpe hw HP hpn hpc hbig
  go_enter Try.func35, Try.ntmps35
  go_wp2_with fail
  unfold zimg at hW0
  rw [hW0]
  refine (HG.out W0).mono ?_
  rintro e wa ⟨rfl, hb1⟩
  have R2b := (hb1.block _ (by have := HS.out; omega)).trans R2.out
  have R0b := (hb1.block _ (by have := HS.out; omega)).trans R0.out
  have R1b := (hb1.block _ (by have := HS.out; omega)).trans R1.out
  have x0 := row_cell R0b 0
  have x1 := row_cell R0b 1
  have y0 := row_cell R1b 0
  have y1 := row_cell R1b 1
  have y2 := row_cell R1b 2
  have y3 := row_cell R1b 3
  have u2 : ∀ o, (wa.alloc o).cell? ⟨w.heap.size + 1, 2, none⟩ = some (.int .i64 RW) := fun o => row_cell (heap_alloc_old _ o R1b) 2
  have u3 : ∀ o, (wa.alloc o).cell? ⟨w.heap.size + 1, 3, none⟩ = some (.int .i64 RH) := fun o => row_cell (heap_alloc_old _ o R1b) 3
  have HB1 : Hid (Below w.heap.size w wa) := HB.out.trans (hb1.mono HB.out.size)
  have HSA : Hid (w.heap.size + 3 ≤ wa.heap.size) := by have := hb1.size; have := HS.out; show _ ≤ _; omega
  have R2A := Lib.hid R2b
  have R0A := Lib.hid R0b
  have R1A := Lib.hid R1b
  clear hb1 hW0 R0b R1b R2b
  go_wp2_with fail
  obtain ⟨wB, hwB⟩ : ∃ wB, wa.alloc (.cells #[.int .i64 RW, .int .i64 RH, .slice none 0 0] 37) = wB := ⟨_, rfl⟩
  have hsB : wB.heap.size = wa.heap.size + 1 := by rw [← hwB]; simp
  have HSB := Lib.hid hsB
  have HCB : Hid (Cr wa.heap.size wB wB wa.heap.size (.int .i64 RW) (.int .i64 RH) none 0 []) := by
    refine ⟨Below.refl _ _, ?_, World.ownsRow_nil _ _ _ _⟩
    rw [← hwB]; exact heap_alloc_new wa _
  have HKS : Hid (∀ V, Below wa.heap.size wB V → V.cell? ⟨w.heap.size, 2, none⟩ = some (.slice P pn pc) ∧ V.cell? ⟨w.heap.size + 1, 2, none⟩ = some (.int .i64 RW)) := fun V hV => by
    have h1 : Below wa.heap.size wa wB := by rw [← hwB]; exact (Below.refl _ _).alloc (Nat.le_refl _) _
    have h2 := h1.trans hV
    exact ⟨row_cell ((h2.block _ (by have := HSA.out; omega)).trans R0A.out) 2, row_cell ((h2.block _ (by have := HSA.out; omega)).trans R1A.out) 2⟩
  have HROW : Hid (∀ V, Below wa.heap.size wB V → V.heap[w.heap.size]? = some (.cells #[.int .i64 W, .int .i64 H, .slice P pn pc] 37 (0, 0)) ∧ V.heap[w.heap.size + 1]? = some (.cells #[.int .i64 X, .int .i64 Y, .int .i64 RW, .int .i64 RH] 46 (0, 0)) ∧ V.heap[w.heap.size + 2]? = some (.cells zimg 37 (0, 0)) ∧ Below w.heap.size w V ∧ SI V .u16 P pn pix) := fun V hV => by
    have h1 : Below wa.heap.size wa wB := by rw [← hwB]; exact (Below.refl _ _).alloc (Nat.le_refl _) _
    have h2 := h1.trans hV
    have h3 : Below w.heap.size w V := HB1.out.trans (h2.mono (by have := HSA.out; omega))
    exact ⟨(h2.block _ (by have := HSA.out; omega)).trans R0A.out, (h2.block _ (by have := HSA.out; omega)).trans R1A.out, (h2.block _ (by have := HSA.out; omega)).trans R2A.out, h3, HHP.out.below h3 (Nat.le_refl _)⟩
  rw [hwB]
  clear u2 u3 x0 x1 y0 y1 y2 y3 d1 d2 d3 d4 d5 d6 d7 d8 e3 e4 w1 w2 hwB hsB
  go_loopw [73] (fun s73 wr => ∃ (k : Nat) (A2 : Option Addr) (c2 : Nat), k ≤ RH ∧ s73 = .int .i64 k ∧ Cr wa.heap.size wB wr wa.heap.size (.int .i64 RW) (.int .i64 RH) A2 c2 (cropK W pix X Y RW k)) (fun s73 _ => RH - (intOf s73).toNat)
  case atStart => exact ⟨0, none, 0, by omega, rfl, HCB.out⟩
  case round =>
    obtain ⟨k, A2, c2, hk, rfl, hcr⟩ := hrel
    have HC := Lib.hid hcr
    obtain ⟨q0, q1, q2, q3, q4⟩ := HROW.out wr hcr.bel
    have HR2 := Lib.hid q2
    have HSI := Lib.hid q4
    have HBW := Lib.hid q3
    have y0 := row_cell q1 0
    have y1 := row_cell q1 1
    have y2 := row_cell q1 2
    have x0 := row_cell q0 0
    clear q0 q1 q2 q3 q4 hcr
    by_cases hlt : k < RH
    · have d0 : decide ((k : Int) < (RH : Int)) = true := decide_eq_true (by omega)
      have e0 : decide (k < RH) = true := decide_eq_true hlt
      have hin := crop_place (W := W) (H := H) (X := X) (Y := Y) (RW := RW) (k := k) hx (by omega)
      rw [← HPN.out] at hin
      have hyk : Y + k ≤ 4096 := by omega
      have hm : (Y + k) * W ≤ 16777216 := Nat.le_trans (Nat.mul_le_mul hyk hW.2) (by omega)
      obtain ⟨pb, po, px, hP, -, -, -⟩ := HSI.out.cells (i := 0) (by have := HPN.out; clear hm hin; have : 0 < 4 * W * H := Nat.mul_pos (by omega) (by omega); omega)
      obtain ⟨rv, hrv⟩ : ∃ rv : Nat, (Y + k) * W = rv := ⟨_, rfl⟩
      rw [hrv] at hm hin
      have hx4 : X ≤ 4096 := by omega
      obtain ⟨q, hq⟩ : ∃ q : Nat, 4 * (rv + X) = q := ⟨_, rfl⟩
      have VQ : Hid (wrap64 (4 * wrap64 (wrap64 (((Y : Int) + (k : Int)) * (W : Int)) + (X : Int))) = (q : Int)) := by
        show _ = _
        have h1 : ((Y : Int) + (k : Int)) * (W : Int) = (rv : Int) := by rw [← hrv]; push_cast; rfl
        rw [h1, IntWalk.wrap64_in (rv : Int) (by omega), IntWalk.wrap64_in ((rv : Int) + (X : Int)) (by omega), IntWalk.wrap64_in _ (by omega), ← hq]; push_cast; rfl
      have hCK := cropK_succ W pix X Y RW k
      rw [hrv, hq] at hCK
      rw [hq] at hin
      have HRV := Lib.hid hrv
      obtain ⟨q2, hq2⟩ : ∃ q2 : Nat, q + 4 * RW = q2 := ⟨_, rfl⟩
      have v6 : IntKind.i64.wrap (4 * (RW : Int)) = 4 * (RW : Int) := IntWalk.i64_in _ (by omega)
      have v7 : IntKind.i64.wrap ((q : Int) + 4 * (RW : Int)) = (q2 : Int) := by rw [IntWalk.i64_in _ (by omega), ← hq2]; push_cast; rfl
      have i0 : (0 : Int) ≤ (q : Int) := Int.natCast_nonneg _
      have i1 : (q : Int) ≤ (q2 : Int) := by omega
      have i2 : (q2 : Int) ≤ (pc : Int) := by have := HPC.out; omega
      have i3 : (q2 : Int).toNat - (q : Int).toNat = 4 * RW := by omega
      have i4 : q2 - q = 4 * RW := by omega
      have hRW : 1 ≤ RW := hRW1
      have i5 : ¬ (pc = q) := by have := HPC.out; omega
      subst hP
      have SN : Hid (Sl wr (some ⟨pb, po + q, none⟩) (((pix.drop q).take (4 * RW)).map (.int .u16))) := sl_part HSI.out q (4 * RW)
      have hl2 : ((pix.drop q).take (4 * RW)).length = 4 * RW := part_len HSI.out.len hin
      have HLEN : Hid ((cropK W pix X Y RW k).length ≤ 67108864) := crop_len_in (H := H) (HSI.out.len.trans HPN.out) hx hy hk hW.2 hH.2
      have z2 := row_cell HC.out.win 2
      have KA : Hid (wr.cell? ⟨w.heap.size, 2, none⟩ = some (.slice (some ⟨pb, po, none⟩) pn pc) ∧ wr.cell? ⟨w.heap.size + 1, 2, none⟩ = some (.int .i64 RW)) := HKS.out wr HC.out.bel
      have HL2 := Lib.hid hl2
      generalize (pix.drop q).take (4 * RW) = l2 at SN HL2 hCK
      have HCK := Lib.hid hCK
      have hlen := HLEN.out
      generalize hl1 : cropK W pix X Y RW k = l1 at HC hCK hlen z2
      have HCK2 : Hid (cropK W pix X Y RW (k + 1) = l1 ++ l2) := hCK
      clear hrv hq hq2 hin hm hl2 hCK HCK HLEN hl1 hyk
      go_wp2_with fail
      rw [VQ.out]
      refine wp_region_noPanic ?_
      refine wp_region_held_drew (S := fun w' => w'.cell? ⟨w.heap.size, 2, none⟩ = some (.slice (some ⟨pb, po, none⟩) pn pc) ∧ w'.cell? ⟨w.heap.size + 1, 2, none⟩ = some (.int .i64 RW)) (by kernel_rfl) KA.out (fun hHeld => ?_)
      refine wpAnyH_take (i := 0) (v := .pointer (some ⟨wa.heap.size, 2, none⟩)) rfl (by kernel_rfl) (by kernel_rfl) (by kernel_rfl) (fun _ _ _ h => h) (Or.inl ⟨by rfl, ?_⟩) hHeld ?_
      · intro wz hSw; (try dsimp only at hSw); obtain ⟨s2, s3⟩ := hSw; go_simp
      try simp only [Act.put, List.setIfInBounds_toArray, List.set_cons_zero, List.set_cons_succ]
      refine wpAnyH_take (i := 2) (v := .pointer (some ⟨w.heap.size, 2, none⟩)) rfl (by kernel_rfl) (by kernel_rfl) (by kernel_rfl) (fun _ _ _ h => h) (Or.inl ⟨by rfl, ?_⟩) hHeld ?_
      · intro wz hSw; (try dsimp only at hSw); obtain ⟨s2, s3⟩ := hSw; go_simp
      try simp only [Act.put, List.setIfInBounds_toArray, List.set_cons_zero, List.set_cons_succ]
      refine wpAnyH_take (i := 3) (v := .slice (some ⟨pb, po, none⟩) pn pc) rfl (by kernel_rfl) (by kernel_rfl) (by kernel_rfl) (fun _ _ _ h => h) (Or.inl ⟨by rfl, ?_⟩) hHeld ?_
      · intro wz hSw; (try dsimp only at hSw); obtain ⟨s2, s3⟩ := hSw; go_simp
      try simp only [Act.put, List.setIfInBounds_toArray, List.set_cons_zero, List.set_cons_succ]
      refine wpAnyH_take (i := 4) (v := .int .i64 q) rfl (by kernel_rfl) (by kernel_rfl) (by kernel_rfl) (fun _ _ _ h => h) (Or.inl ⟨by rfl, ?_⟩) hHeld ?_
      · intro wz hSw; (try dsimp only at hSw); obtain ⟨s2, s3⟩ := hSw; go_simp
      try simp only [Act.put, List.setIfInBounds_toArray, List.set_cons_zero, List.set_cons_succ]
      refine wpAnyH_take (i := 5) (v := .int .i64 q) rfl (by kernel_rfl) (by kernel_rfl) (by kernel_rfl) (fun _ _ _ h => h) (Or.inl ⟨by rfl, ?_⟩) hHeld ?_
      · intro wz hSw; (try dsimp only at hSw); obtain ⟨s2, s3⟩ := hSw; go_simp
      try simp only [Act.put, List.setIfInBounds_toArray, List.set_cons_zero, List.set_cons_succ]
      refine wpAnyH_take (i := 6) (v := .pointer (some ⟨w.heap.size + 1, 2, none⟩)) rfl (by kernel_rfl) (by kernel_rfl) (by kernel_rfl) (fun _ _ _ h => h) (Or.inl ⟨by rfl, ?_⟩) hHeld ?_
      · intro wz hSw; (try dsimp only at hSw); obtain ⟨s2, s3⟩ := hSw; go_simp
      try simp only [Act.put, List.setIfInBounds_toArray, List.set_cons_zero, List.set_cons_succ]
      refine wpAnyH_take (i := 7) (v := .int .i64 RW) rfl (by kernel_rfl) (by kernel_rfl) (by kernel_rfl) (fun _ _ _ h => h) (Or.inl ⟨by rfl, ?_⟩) hHeld ?_
      · intro wz hSw; (try dsimp only at hSw); obtain ⟨s2, s3⟩ := hSw; go_simp
      try simp only [Act.put, List.setIfInBounds_toArray, List.set_cons_zero, List.set_cons_succ]
      refine wpAnyH_take (i := 8) (v := .int .i64 (4 * (RW : Int))) rfl (by kernel_rfl) (by kernel_rfl) (by kernel_rfl) (fun _ _ _ h => h) (Or.inl ⟨by rfl, ?_⟩) hHeld ?_
      · intro wz hSw; (try dsimp only at hSw); obtain ⟨s2, s3⟩ := hSw; go_simp
      try simp only [Act.put, List.setIfInBounds_toArray, List.set_cons_zero, List.set_cons_succ]
      refine wpAnyH_take (i := 9) (v := .int .i64 q2) rfl (by kernel_rfl) (by kernel_rfl) (by kernel_rfl) (fun _ _ _ h => h) (Or.inl ⟨by rfl, ?_⟩) hHeld ?_
      · intro wz hSw; (try dsimp only at hSw); obtain ⟨s2, s3⟩ := hSw; go_simp
      try simp only [Act.put, List.setIfInBounds_toArray, List.set_cons_zero, List.set_cons_succ]
      refine wpAnyH_take (i := 10) (v := .slice (some ⟨pb, po + q, none⟩) (4 * RW) (pc - q)) rfl (by kernel_rfl) (by kernel_rfl) (by kernel_rfl) (fun _ _ _ h => h) (Or.inl ⟨by rfl, ?_⟩) hHeld ?_
      · intro wz hSw; (try dsimp only at hSw); obtain ⟨s2, s3⟩ := hSw; go_simp
      try simp only [Act.put, List.setIfInBounds_toArray, List.set_cons_zero, List.set_cons_succ]
      refine wpAnyH_ready (rs := [1]) (by kernel_rfl) (by simp) ?_
      refine AllReadyH.cons rfl (fun K hK => ?_) AllReadyH.nil
      go_simp
      refine hK.out _ _ KA.out (fun hHeld => ?_)
      clear hK K
      try simp only [Act.put, List.setIfInBounds_toArray, List.set_cons_zero, List.set_cons_succ]
      refine wpAnyH_ready (rs := [11]) (by kernel_rfl) (by simp) ?_
      refine AllReadyH.cons rfl (fun K hK => ?_) AllReadyH.nil
      refine step_append_sl (by rfl) (.tmp 88) (.tmp 97) _ (by rfl) wa.heap.size 53 1 2 _ Try.underlying35 infoU16 rfl (by omega) (.slice A2 l1.length c2) l1.length _ (by rfl) HC.out.row _ (4 * RW) (pc - q) (l2.map (.int .u16)) (by rfl) (by rw [List.length_map, HL2.out, Nat.mul_one]) SN.out (by intro u hu; rw [List.mem_map] at hu; obtain ⟨_, -, rfl⟩ := hu; rfl) (by unfold maxLen; omega) (by omega) (by have := HC.out.bel.size; have := HSB.out; show wa.heap.size ≤ wr.heap.size; omega) ?_
      intro v' w5 hown5 hg5 hat5
      obtain ⟨A5, c5, rfl⟩ := own_form hown5
      rw [← HL2.out] at hown5 ⊢
      have HAP := Lib.hid (HC.out.app (Nat.le_refl _) (by have := HSB.out; omega) hown5 hg5)
      have y5 := row_cell HAP.out.1 2
      have y6 := row_frozen HAP.out.1 2
      refine hK.out _ _ (HKS.out _ HAP.out.2.1) (fun hHeld => ?_)
      clear hK K
      try simp only [Act.put, List.setIfInBounds_toArray, List.set_cons_zero, List.set_cons_succ]
      refine wpAnyH_take (i := 12) (v := .pointer (some ⟨wa.heap.size, 2, none⟩)) rfl (by kernel_rfl) (by kernel_rfl) (by kernel_rfl) (fun _ _ _ h => h) (Or.inl ⟨by rfl, ?_⟩) hHeld ?_
      · intro wz hSw; (try dsimp only at hSw); obtain ⟨s2, s3⟩ := hSw; go_simp
      try simp only [Act.put, List.setIfInBounds_toArray, List.set_cons_zero, List.set_cons_succ]
      refine wpAnyH_ready (rs := [13]) (by kernel_rfl) (by simp) ?_
      refine AllReadyH.cons rfl (fun K hK => ?_) AllReadyH.nil
      go_simp
      refine hK.out _ _ (HKS.out _ HAP.out.2.2.bel) (fun hHeld => ?_)
      clear hK K
      try simp only [Act.put, List.setIfInBounds_toArray, List.set_cons_zero, List.set_cons_succ]
      refine wpAnyH_done (by kernel_rfl) ?_ _
      refine NoPanic.normal ?_
      have HF5 : Hid (Cr wa.heap.size wB (w5.setCell ⟨wa.heap.size, 2, none⟩ (.slice A5 (l1.length + l2.length) c5)) wa.heap.size (.int .i64 RW) (.int .i64 RH) A5 c5 (cropK W pix X Y RW (k + 1))) := by
        show Cr _ _ _ _ _ _ _ _ _
        rw [HCK2.out]; exact HAP.out.2.2
      clear hown5 hg5 hat5 y5 y6
      go_wp2_with fail
      go_roundw
      case rel => exact ⟨k + 1, A5, c5, by omega, by go_num, HF5.out⟩
      case measure => simp [intOf]; omega
    · obtain rfl : k = RH := by omega
      have d0 : decide ((k : Int) < (k : Int)) = false := by simp
      have z0 := row_cell HC.out.win 0
      have z1 := row_cell HC.out.win 1
      have z2 := row_cell HC.out.win 2
      have HOI : Hid (∀ A c n, (#[.int .i64 RW, .int .i64 k, .slice A n c] : Array Value).all (·.oneCell') = true) := fun A c n => by simp [Value.oneCell']
      go_wp2_with (refine wpList_store_row rfl 37 (.tmp 4) (.tmp 101) rfl (w.heap.size + 2) #[.int .i64 RW, .int .i64 k, .slice A2 (cropK W pix X Y RW k).length c2] rfl rfl 37 zimg HR2.out imgInfo rfl (HOI.out _ _ _) ?_)
      refine bodyPost_ret (results_row_tmp rfl _ _ (w.heap.size + 2) 37 _ (0, 0) _ rfl (setRow_heap _ _ _ _ _ _ HR2.out) Try.underlying37 rfl imgInfo) rfl ?_
      refine ⟨below_setRow HBW.out (Nat.le_add_right _ _) _, A2, c2, rfl, ?_⟩
      exact (own_base HC.out.row (by have := HSA.out; omega)).kept (grown_row _ _ _) (.inr (own_ne HC.out.row HR2.out (by decide)).symm)
end Go.Proofs.Ytogmlcgiajigfaa.Ard
