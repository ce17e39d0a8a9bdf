/-
  Walks: Part, where it refuses.
-/
import Derived.Test.YtogmlcgiajigfaaArdY
set_option linter.unusedVariables false
set_option linter.unusedSimpArgs false
namespace Go.Proofs.Ytogmlcgiajigfaa.Ard
open Go.RowKit K

set_option maxHeartbeats 1000000 in
theorem part_bad1 {op : ByteArray} {A : Option Addr} {n c : Nat} {a : List Int} {W H X Y RW RH : Int} {P : Option Addr} {pn pc : Nat} (w : World) (HA : SI w .i64 A n a) (h0 : checkE op a ≠ 0) :
    Calls Try.prog 22 #[.string op, .slice A n c, .agg #[.int .i64 W, .int .i64 H, .slice P pn pc], .agg #[.int .i64 X, .int .i64 Y, .int .i64 RW, .int .i64 RH]] w (ImgP w 0 0 [] (checkE op a)) := by
  obtain ⟨W0, hW0, -, -, r2, hs, hb⟩ := three_allocs w (.cells #[.int .i64 W, .int .i64 H, .slice P pn pc] 37) (.cells #[.int .i64 X, .int .i64 Y, .int .i64 RW, .int .i64 RH] 46) (.cells zimg 37)
  have HF := Lib.hid (find_any (op := op) (c := c) W0 (HA.below hb (Nat.le_refl _)))
  have R2 := Lib.hid r2
  have HS := Lib.hid hs
  have HB := Lib.hid hb
  have H0 := Lib.hid h0
  clear HA r2 hs hb h0
  go_enter Try.func22, Try.ntmps22
  go_wp2_with fail
  unfold zimg at hW0
  rw [hW0]
  refine HF.out.mono ?_
  rintro e w1 ⟨hb1, ⟨hne, rfl⟩ | ⟨i, B, bn, bc, hi, h0, hid, hf, rfl⟩⟩
  · have R2b : Hid (w1.heap[w.heap.size + 2]? = some (.cells zimg 37 (0, 0))) := (hb1.block _ (by have := HS.out; omega)).trans R2.out
    have HB1 : Hid (Below w.heap.size w w1) := HB.out.trans (hb1.mono HB.out.size)
    have HSZ := Lib.hid hb1.size
    have hw : Hid (∀ o, Below w1.heap.size w1 (w1.alloc o)) := fun o => (Below.refl _ _).alloc (Nat.le_refl _) o
    have hnv : (checkE op a != 0) = true := by simpa using hne
    clear hb1 hW0 hne
    generalize checkE op a = v at *
    go_wp2_with (first
      | (refine wpList_store_rowW rfl 72 (.tmp 10) (.tmp 23) rfl w1.heap.size zeroOp rfl rfl 72 zeroOp (heap_alloc_new w1 _) opInfo rfl zeroAll w1.heap.size w1 (hw.out _) (Nat.le_refl _) ?_; intro W2 HW1 HW2 HW3; have R2c : Hid (W2.heap[w.heap.size + 2]? = some (.cells zimg 37 (0, 0))) := (HW2.out.block _ (by have := HS.out; have := HSZ.out; omega)).trans R2b.out)
      | (refine wpList_store_rowW rfl 37 (.tmp 8) (.tmp 27) rfl (w.heap.size + 2) zimg rfl rfl 37 zimg R2c.out imgInfo rfl zimgAll w.heap.size w (HB1.out.trans (HW2.out.mono HB1.out.size)) (Nat.le_add_right _ _) ?_; intro W3 HW4 HW5 HW6))
    refine bodyPost_ret (results_row_tmp rfl _ _ (w.heap.size + 2) 37 zimg (0, 0) _ rfl HW4.out Try.underlying37 rfl imgInfo) rfl ?_
    exact ImgP.zero HW5.out
  · exact absurd h0 H0.out
set_option maxHeartbeats 1000000 in
theorem part_bad2 {op : ByteArray} {A : Option Addr} {n c : Nat} {a : List Int} {W H X Y RW RH code : Int} {P : Option Addr} {pn pc : Nat} (w : World) (HA : SI w .i64 A n a) (h0 : checkE op a = 0) (hc : code ≠ 0)
    (HC0 : ∀ V, Calls Try.prog 35 #[.agg #[.int .i64 W, .int .i64 H, .slice P pn pc], .agg #[.int .i64 X, .int .i64 Y, .int .i64 RW, .int .i64 RH]] V (ImgP V 0 0 [] code)) :
    Calls Try.prog 22 #[.string op, .slice A n c, .agg #[.int .i64 W, .int .i64 H, .slice P pn pc], .agg #[.int .i64 X, .int .i64 Y, .int .i64 RW, .int .i64 RH]] w (ImgP w 0 0 [] code) := by
  obtain ⟨W0, hW0, r0, r1, r2, hs, hb⟩ := three_allocs w (.cells #[.int .i64 W, .int .i64 H, .slice P pn pc] 37) (.cells #[.int .i64 X, .int .i64 Y, .int .i64 RW, .int .i64 RH] 46) (.cells zimg 37)
  have HF := Lib.hid (find_any (op := op) (c := c) W0 (HA.below hb (Nat.le_refl _)))
  have HCR := Lib.hid HC0
  have R0 := Lib.hid r0
  have R1 := Lib.hid r1
  have R2 := Lib.hid r2
  have HS := Lib.hid hs
  have HB := Lib.hid hb
  have H0 := Lib.hid h0
  have hnv : (code != 0) = true := by simpa using hc
  clear HA r0 r1 r2 hs hb h0 HC0
  go_enter Try.func22, Try.ntmps22
  go_wp2_with fail
  unfold zimg at hW0
  rw [hW0]
  refine HF.out.mono ?_
  rintro e w1 ⟨hb1, ⟨hne, rfl⟩ | ⟨i, B, bn, bc, hi, h0, hid, hf, rfl⟩⟩
  · exact absurd H0.out hne
  · have R2b : Hid (w1.heap[w.heap.size + 2]? = some (.cells zimg 37 (0, 0))) := (hb1.block _ (by have := HS.out; omega)).trans R2.out
    have R0b : Hid (w1.heap[w.heap.size]? = some (.cells #[.int .i64 W, .int .i64 H, .slice P pn pc] 37 (0, 0))) := (hb1.block _ (by have := HS.out; omega)).trans R0.out
    have R1b : Hid (w1.heap[w.heap.size + 1]? = some (.cells #[.int .i64 X, .int .i64 Y, .int .i64 RW, .int .i64 RH] 46 (0, 0))) := (hb1.block _ (by have := HS.out; omega)).trans R1.out
    have HB1 : Hid (Below w.heap.size w w1) := HB.out.trans (hb1.mono HB.out.size)
    have HSZ := Lib.hid hb1.size
    have hw : Hid (∀ o, Below w1.heap.size w1 (w1.alloc o)) := fun o => (Below.refl _ _).alloc (Nat.le_refl _) o
    clear hb1 hW0 hi h0 hid hf hc
    go_wp2_with (first
      | (refine wpList_store_rowW rfl 72 (.tmp 10) (.tmp 23) rfl w1.heap.size (opCells i B bn bc) rfl rfl 72 zeroOp (heap_alloc_new w1 _) opInfo rfl (opAll _ _ _ _) w1.heap.size w1 (hw.out _) (Nat.le_refl _) ?_; intro W2 HW1 HW2 HW3; have R2c : Hid (W2.heap[w.heap.size + 2]? = some (.cells zimg 37 (0, 0))) := (HW2.out.block _ (by have := HS.out; have := HSZ.out; omega)).trans R2b.out; have R0c := (HW2.out.block _ (by have := HS.out; have := HSZ.out; omega)).trans R0b.out; have R1c := (HW2.out.block _ (by have := HS.out; have := HSZ.out; omega)).trans R1b.out; have x0 := row_cell R0c 0; have x1 := row_cell R0c 1; have x2 := row_cell R0c 2; have y0 := row_cell R1c 0; have y1 := row_cell R1c 1; have y2 := row_cell R1c 2; have y3 := row_cell R1c 3; clear R0c R1c)
      | (go_at_call 35; refine (HCR.out _).mono ?_; rintro e w3 ⟨hb3, A3, c3, rfl, -⟩; have HW : Hid (Below w.heap.size w w3 ∧ w3.heap[w.heap.size + 2]? = some (.cells zimg 37 (0, 0))) := ⟨(HB1.out.trans (HW2.out.mono HB1.out.size)).trans (hb3.mono (by have := HSZ.out; have := HS.out; have := HW2.out.size; omega)), (hb3.block _ (by have := HSZ.out; have := HS.out; have := HW2.out.size; omega)).trans R2c.out⟩; have HA3 : Hid (∀ o, (w3.alloc o).heap[w.heap.size + 2]? = some (.cells zimg 37 (0, 0))) := fun o => heap_alloc_old _ o HW.out.2; have HB3 : Hid (∀ o, Below w.heap.size w (w3.alloc o)) := fun o => HW.out.1.alloc HW.out.1.size o; clear hb3)
      | (refine wpList_store_rowW rfl 37 (.tmp 8) (.tmp 37) rfl (w.heap.size + 2) zimg rfl rfl 37 zimg (HA3.out _) imgInfo rfl zimgAll w.heap.size w (HB3.out _) (Nat.le_add_right _ _) ?_; intro W3 HW4 HW5 HW6))
    refine bodyPost_ret (results_row_tmp rfl _ _ (w.heap.size + 2) 37 zimg (0, 0) _ rfl HW4.out Try.underlying37 rfl imgInfo) rfl ?_
    exact ImgP.zero HW5.out
end Go.Proofs.Ytogmlcgiajigfaa.Ard
