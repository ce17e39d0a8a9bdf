/-
  Texts of this claim, joined by program (EncA, EncB, EncC, EncD). Walks: what is written of a pixel, of both sides.
-/
import Derived.Test.YtbmlopklhgladaaDoorZG9
import Derived.StillTailTactics
import Derived.Lib.BufferOld
import Derived.Lib.ItoaLen
set_option linter.unusedVariables false
set_option linter.unusedSimpArgs false
namespace Go.Proofs.YtbmlopklhgladaaDoor.Pnm
open Go.RowKit K

def lumaI (r g b : Int) : Int := (19595 * r + 38470 * g + 7471 * b + 32768) / 65536
def downI (v top : Int) : Int := (v * top + 32767) / 65535
/-- a pixel's samples, as they are written -/
def smpsI (kind top r g b : Int) : List Int :=
  if kind = 1 ∨ kind = 4 then (if lumaI r g b < 32768 then [1] else [0])
  else if kind = 2 ∨ kind = 5 then [downI (lumaI r g b) top]
  else [downI r top, downI g top, downI b top]
theorem lumaI_bd {r g b : Int} (hr : 0 ≤ r ∧ r < 65536) (hg : 0 ≤ g ∧ g < 65536) (hb : 0 ≤ b ∧ b < 65536) : 0 ≤ lumaI r g b ∧ lumaI r g b < 65536 := by
  unfold lumaI; omega
theorem downI_bd {v top : Int} (hv : 0 ≤ v ∧ v < 65536) (t1 : 1 ≤ top) (t2 : top ≤ 65535) : 0 ≤ downI v top ∧ downI v top ≤ top := by
  unfold downI
  have h1 : 0 ≤ v * top := Int.mul_nonneg hv.1 (by omega)
  have h2 : v * top ≤ 65535 * top := Int.mul_le_mul_of_nonneg_right (by omega) (by omega)
  omega
theorem prod_bd {v top : Int} (hv : 0 ≤ v ∧ v < 65536) (t1 : 1 ≤ top) (t2 : top ≤ 65535) : 0 ≤ v * top ∧ v * top ≤ 4294836225 := by
  have h1 : 0 ≤ v * top := Int.mul_nonneg hv.1 (by omega)
  have h2 : v * top ≤ 65535 * top := Int.mul_le_mul_of_nonneg_right (by omega) (by omega)
  omega
set_option maxHeartbeats 1000000 in
theorem rdown_any {v top : Int} (w : World) (hv : 0 ≤ v ∧ v < 65536) (t1 : 1 ≤ top) (t2 : top ≤ 65535) :
    Calls Tryd.prog 40 #[.int .u16 v, .int .i64 top] w fun e w' => e = .returned (.tuple #[.int .i64 (downI v top), .int .i64 0]) ∧ w = w' := by
  have d1 : decide (top < 1) = false := decide_eq_false (by omega)
  have d2 : decide (65535 < top) = false := decide_eq_false (by omega)
  have hp := prod_bd hv t1 t2
  have e1 : (v * top + 32767).tdiv 65535 = downI v top := by rw [Int.tdiv_eq_ediv_of_nonneg (by omega)]; rfl
  have e2 : (v * top + 32767) / 65535 = downI v top := rfl
  have hd := downI_bd hv t1 t2
  generalize downI v top = d at *
  go_enter Tryd.func40, Tryd.ntmps40
  go_wp2
  go_ret2
  exact ⟨rfl, rfl⟩
set_option maxHeartbeats 1000000 in
theorem down_any {v top : Int} (w : World) (hv : 0 ≤ v ∧ v < 65536) (t1 : 1 ≤ top) (t2 : top ≤ 65535) :
    Calls Tryd.prog 59 #[.int .u16 v, .int .i64 top] w fun e w' => e = .returned (.tuple #[.int .i64 (downI v top), .int .i64 0]) ∧ w = w' := by
  have d1 : decide (top < 1) = false := decide_eq_false (by omega)
  have d2 : decide (65535 < top) = false := decide_eq_false (by omega)
  have hp := prod_bd hv t1 t2
  have e1 : (v * top + 32767).tdiv 65535 = downI v top := by rw [Int.tdiv_eq_ediv_of_nonneg (by omega)]; rfl
  have e2 : (v * top + 32767) / 65535 = downI v top := rfl
  have hd := downI_bd hv t1 t2
  generalize downI v top = d at *
  go_enter Tryd.func59, Tryd.ntmps59
  go_wp2
  go_ret2
  exact ⟨rfl, rfl⟩
set_option maxHeartbeats 2000000 in
theorem rluma_any {r g b a : Int} (w : World) (hr : 0 ≤ r ∧ r < 65536) (hg : 0 ≤ g ∧ g < 65536) (hb : 0 ≤ b ∧ b < 65536) :
    Calls Tryd.prog 18 #[.agg #[.int .u16 r, .int .u16 g, .int .u16 b, .int .u16 a]] w fun e w' => e = .returned (.int .u16 (lumaI r g b)) ∧ Below w.heap.size w w' := by
  have hl := lumaI_bd hr hg hb
  have e1 : (19595 * r + 38470 * g + 7471 * b + 32768).tdiv 65536 = lumaI r g b := by rw [Int.tdiv_eq_ediv_of_nonneg (by omega)]; rfl
  have e2 : (19595 * r + 38470 * g + 7471 * b + 32768) / 65536 = lumaI r g b := rfl
  generalize lumaI r g b = L at *
  have HB := Lib.hid ((Below.refl _ w).alloc (Nat.le_refl _) (.cells #[.int .u16 r, .int .u16 g, .int .u16 b, .int .u16 a] 45))
  go_enter Tryd.func18, Tryd.ntmps18
  go_wp2
  go_ret
  exact ⟨rfl, HB.out⟩
set_option maxHeartbeats 2000000 in
theorem luma_any {r g b a : Int} (w : World) (hr : 0 ≤ r ∧ r < 65536) (hg : 0 ≤ g ∧ g < 65536) (hb : 0 ≤ b ∧ b < 65536) :
    Calls Tryd.prog 60 #[.agg #[.int .u16 r, .int .u16 g, .int .u16 b, .int .u16 a]] w fun e w' => e = .returned (.int .u16 (lumaI r g b)) ∧ Below w.heap.size w w' := by
  have hl := lumaI_bd hr hg hb
  have e2 : (19595 * r + 38470 * g + 7471 * b + 32768) / 65536 = lumaI r g b := rfl
  generalize lumaI r g b = L at *
  have HB := Lib.hid (((Below.refl _ w).alloc (Nat.le_refl _) (.cells #[.int .u16 r, .int .u16 g, .int .u16 b, .int .u16 a] 45)).alloc (by simp) (.cells #[.int .i64 19595, .int .i64 38470, .int .i64 7471] 119))
  go_enter Tryd.func60, Tryd.ntmps60
  go_wp2
  trace_state
  go_ret
  exact ⟨rfl, HB.out⟩
end Go.Proofs.YtbmlopklhgladaaDoor.Pnm
set_option linter.unusedVariables false
set_option linter.unusedSimpArgs false
namespace Go.Proofs.YtbmlopklhgladaaDoor.Pnm
open Go.RowKit K

theorem down1_any {v top : Int} {tb : Nat} (w : World) (hc : w.cell? ⟨tb, 0, none⟩ = some (.int .i64 top)) (hv : 0 ≤ v ∧ v < 65536) (t1 : 1 ≤ top) (t2 : top ≤ 65535) :
    Calls Tryd.prog 58 #[.int .u16 v, .pointer (some ⟨tb, 0, none⟩)] w fun e w' => e = .returned (.int .i64 (downI v top)) ∧ w = w' := by
  have HD := Lib.hid (down_any w hv t1 t2)
  go_enter Tryd.func58, Tryd.ntmps58
  go_wp2_with fail
  refine HD.out.mono ?_
  rintro e w' ⟨rfl, rfl⟩
  go_wp2_with fail
  go_ret
  exact ⟨rfl, rfl⟩
/-- a row that has just been laid -/
theorem SI.new (w : World) (l : List Int) (h : l.length * 8 ≤ 140737488351232) : SI (w.alloc (.cells (l.map (.int .i64)).toArray 3)) .i64 (some ⟨w.heap.size, 0, none⟩) l.length l := SI.lit0 w .i64 l 3 h
def SmpsP (w : World) (l : List Int) (e : Ending) (w' : World) : Prop :=
  Below w.heap.size w w' ∧ ∃ A c, e = .returned (.slice A l.length c) ∧ SI w' .i64 A l.length l ∧ ∀ a, A = some a → w.heap.size ≤ a.block
set_option maxRecDepth 20000 in
set_option maxHeartbeats 2000000 in
theorem psmps_1 {top r g b a : Int} (w : World) (hr : 0 ≤ r ∧ r < 65536) (hg : 0 ≤ g ∧ g < 65536) (hb : 0 ≤ b ∧ b < 65536) (t1 : 1 ≤ top) (t2 : top ≤ 65535) :
    Calls Tryd.prog 35 #[.agg #[.int .u16 r, .int .u16 g, .int .u16 b, .int .u16 a], .int .i64 1, .int .i64 top] w (SmpsP w (smpsI 1 top r g b)) := by
  have hb2 : Below w.heap.size w ((w.alloc (.cells #[.int .u16 r, .int .u16 g, .int .u16 b, .int .u16 a] 45)).alloc (.cells #[.int .i64 top] 3)) := ((Below.refl _ w).alloc (Nat.le_refl _) _).alloc (by simp) _
  have hc : ((w.alloc (.cells #[.int .u16 r, .int .u16 g, .int .u16 b, .int .u16 a] 45)).alloc (.cells #[.int .i64 top] 3)).cell? ⟨w.heap.size + 1, 0, none⟩ = some (.int .i64 top) := by
    have := heap_alloc_new (w.alloc (.cells #[.int .u16 r, .int .u16 g, .int .u16 b, .int .u16 a] 45)) (.cells #[.int .i64 top] 3)
    rw [World.size_alloc] at this
    unfold World.cell?
    simp only [this]
    rfl
  have hs2 : ((w.alloc (.cells #[.int .u16 r, .int .u16 g, .int .u16 b, .int .u16 a] 45)).alloc (.cells #[.int .i64 top] 3)).heap.size = w.heap.size + 1 + 1 := by simp
  have HB2 := Lib.hid hb2
  have HC := Lib.hid hc
  have HS2 := Lib.hid hs2
  have HCO : Hid (((w.alloc (.cells #[.int .u16 r, .int .u16 g, .int .u16 b, .int .u16 a] 45)).alloc (.cells #[.int .i64 top] 3)).cell? ⟨w.heap.size, 0, none⟩ = some (.int .u16 r) ∧ ((w.alloc (.cells #[.int .u16 r, .int .u16 g, .int .u16 b, .int .u16 a] 45)).alloc (.cells #[.int .i64 top] 3)).cell? ⟨w.heap.size, 1, none⟩ = some (.int .u16 g) ∧ ((w.alloc (.cells #[.int .u16 r, .int .u16 g, .int .u16 b, .int .u16 a] 45)).alloc (.cells #[.int .i64 top] 3)).cell? ⟨w.heap.size, 2, none⟩ = some (.int .u16 b)) := by
    have h0 := ((Below.refl _ (w.alloc (.cells #[.int .u16 r, .int .u16 g, .int .u16 b, .int .u16 a] 45))).alloc (Nat.le_refl _) (.cells #[.int .i64 top] 3)).block w.heap.size (by simp)
    rw [heap_alloc_new] at h0
    unfold World.cell?
    simp only [h0]
    exact ⟨rfl, rfl, rfl⟩
  clear hb2 hc hs2
  go_enter Tryd.func35, Tryd.ntmps35
  go_wp2_with fail
  refine (luma_any _ hr hg hb).mono ?_
  rintro e w3 ⟨rfl, hb3⟩
  have HB3 : Hid (Below w.heap.size w w3) := HB2.out.trans (hb3.mono HB2.out.size)
  have HC3 := Lib.hid (((hb3.cell (p := ⟨w.heap.size + 1, 0, none⟩) (by show w.heap.size + 1 < _; rw [HS2.out]; omega))).trans HC.out)
  have hl := lumaI_bd hr hg hb
  clear hb3 HB2 HC HS2
  by_cases hlt : lumaI r g b < 32768
  · have d1 : decide (lumaI r g b < 32768) = true := decide_eq_true hlt
    have HF : Hid (smpsI 1 top r g b = [1]) := by show _ = _; unfold smpsI; rw [if_pos (by omega), if_pos hlt]
    generalize lumaI r g b = L at d1 hl ⊢
    have HN := Lib.hid (SI.new w3 [1] (by decide))
    have HBN := Lib.hid (HB3.out.alloc HB3.out.size (.cells #[.int .i64 1] 3))
    clear hlt
    go_wp2_with fail
    go_ret
    rw [HF.out]
    exact ⟨HBN.out, _, _, rfl, HN.out, fun a e => by injection e with e; subst e; exact HB3.out.size⟩
  · have d1 : decide (lumaI r g b < 32768) = false := decide_eq_false hlt
    have HF : Hid (smpsI 1 top r g b = [0]) := by show _ = _; unfold smpsI; rw [if_pos (by omega), if_neg hlt]
    generalize lumaI r g b = L at d1 hl ⊢
    have HN := Lib.hid (SI.new w3 [0] (by decide))
    have HBN := Lib.hid (HB3.out.alloc HB3.out.size (.cells #[.int .i64 0] 3))
    clear hlt
    go_wp2_with fail
    go_ret
    rw [HF.out]
    exact ⟨HBN.out, _, _, rfl, HN.out, fun a e => by injection e with e; subst e; exact HB3.out.size⟩
set_option maxRecDepth 20000 in
set_option maxHeartbeats 2000000 in
theorem psmps_2 {top r g b a : Int} (w : World) (hr : 0 ≤ r ∧ r < 65536) (hg : 0 ≤ g ∧ g < 65536) (hb : 0 ≤ b ∧ b < 65536) (t1 : 1 ≤ top) (t2 : top ≤ 65535) :
    Calls Tryd.prog 35 #[.agg #[.int .u16 r, .int .u16 g, .int .u16 b, .int .u16 a], .int .i64 2, .int .i64 top] w (SmpsP w (smpsI 2 top r g b)) := by
  have hb2 : Below w.heap.size w ((w.alloc (.cells #[.int .u16 r, .int .u16 g, .int .u16 b, .int .u16 a] 45)).alloc (.cells #[.int .i64 top] 3)) := ((Below.refl _ w).alloc (Nat.le_refl _) _).alloc (by simp) _
  have hc : ((w.alloc (.cells #[.int .u16 r, .int .u16 g, .int .u16 b, .int .u16 a] 45)).alloc (.cells #[.int .i64 top] 3)).cell? ⟨w.heap.size + 1, 0, none⟩ = some (.int .i64 top) := by
    have := heap_alloc_new (w.alloc (.cells #[.int .u16 r, .int .u16 g, .int .u16 b, .int .u16 a] 45)) (.cells #[.int .i64 top] 3)
    rw [World.size_alloc] at this
    unfold World.cell?
    simp only [this]
    rfl
  have hs2 : ((w.alloc (.cells #[.int .u16 r, .int .u16 g, .int .u16 b, .int .u16 a] 45)).alloc (.cells #[.int .i64 top] 3)).heap.size = w.heap.size + 1 + 1 := by simp
  have HB2 := Lib.hid hb2
  have HC := Lib.hid hc
  have HS2 := Lib.hid hs2
  have HCO : Hid (((w.alloc (.cells #[.int .u16 r, .int .u16 g, .int .u16 b, .int .u16 a] 45)).alloc (.cells #[.int .i64 top] 3)).cell? ⟨w.heap.size, 0, none⟩ = some (.int .u16 r) ∧ ((w.alloc (.cells #[.int .u16 r, .int .u16 g, .int .u16 b, .int .u16 a] 45)).alloc (.cells #[.int .i64 top] 3)).cell? ⟨w.heap.size, 1, none⟩ = some (.int .u16 g) ∧ ((w.alloc (.cells #[.int .u16 r, .int .u16 g, .int .u16 b, .int .u16 a] 45)).alloc (.cells #[.int .i64 top] 3)).cell? ⟨w.heap.size, 2, none⟩ = some (.int .u16 b)) := by
    have h0 := ((Below.refl _ (w.alloc (.cells #[.int .u16 r, .int .u16 g, .int .u16 b, .int .u16 a] 45))).alloc (Nat.le_refl _) (.cells #[.int .i64 top] 3)).block w.heap.size (by simp)
    rw [heap_alloc_new] at h0
    unfold World.cell?
    simp only [h0]
    exact ⟨rfl, rfl, rfl⟩
  clear hb2 hc hs2
  go_enter Tryd.func35, Tryd.ntmps35
  go_wp2_with fail
  refine (luma_any _ hr hg hb).mono ?_
  rintro e w3 ⟨rfl, hb3⟩
  have HB3 : Hid (Below w.heap.size w w3) := HB2.out.trans (hb3.mono HB2.out.size)
  have HC3 := Lib.hid (((hb3.cell (p := ⟨w.heap.size + 1, 0, none⟩) (by show w.heap.size + 1 < _; rw [HS2.out]; omega))).trans HC.out)
  have hl := lumaI_bd hr hg hb
  clear hb3 HB2 HC HS2
  have HF : Hid (smpsI 2 top r g b = [downI (lumaI r g b) top]) := by show _ = _; unfold smpsI; rw [if_neg (by omega), if_pos (by omega)]
  generalize lumaI r g b = L at hl HF ⊢
  go_wp2_with fail
  refine (down1_any (top := top) w3 HC3.out hl t1 t2).mono ?_
  rintro e w4 ⟨rfl, rfl⟩
  generalize downI L top = d at HF ⊢
  have HN := Lib.hid (SI.new w3 [d] (by simp))
  have HBN := Lib.hid (HB3.out.alloc HB3.out.size (.cells #[.int .i64 d] 3))
  go_wp2_with fail
  go_ret
  rw [HF.out]
  exact ⟨HBN.out, _, _, rfl, HN.out, fun a e => by injection e with e; subst e; exact HB3.out.size⟩
set_option maxRecDepth 20000 in
set_option maxHeartbeats 2000000 in
theorem psmps_3 {top r g b a : Int} (w : World) (hr : 0 ≤ r ∧ r < 65536) (hg : 0 ≤ g ∧ g < 65536) (hb : 0 ≤ b ∧ b < 65536) (t1 : 1 ≤ top) (t2 : top ≤ 65535) :
    Calls Tryd.prog 35 #[.agg #[.int .u16 r, .int .u16 g, .int .u16 b, .int .u16 a], .int .i64 3, .int .i64 top] w (SmpsP w (smpsI 3 top r g b)) := by
  have hb2 : Below w.heap.size w ((w.alloc (.cells #[.int .u16 r, .int .u16 g, .int .u16 b, .int .u16 a] 45)).alloc (.cells #[.int .i64 top] 3)) := ((Below.refl _ w).alloc (Nat.le_refl _) _).alloc (by simp) _
  have hc : ((w.alloc (.cells #[.int .u16 r, .int .u16 g, .int .u16 b, .int .u16 a] 45)).alloc (.cells #[.int .i64 top] 3)).cell? ⟨w.heap.size + 1, 0, none⟩ = some (.int .i64 top) := by
    have := heap_alloc_new (w.alloc (.cells #[.int .u16 r, .int .u16 g, .int .u16 b, .int .u16 a] 45)) (.cells #[.int .i64 top] 3)
    rw [World.size_alloc] at this
    unfold World.cell?
    simp only [this]
    rfl
  have hs2 : ((w.alloc (.cells #[.int .u16 r, .int .u16 g, .int .u16 b, .int .u16 a] 45)).alloc (.cells #[.int .i64 top] 3)).heap.size = w.heap.size + 1 + 1 := by simp
  have HB2 := Lib.hid hb2
  have HC := Lib.hid hc
  have HS2 := Lib.hid hs2
  have HCO : Hid (((w.alloc (.cells #[.int .u16 r, .int .u16 g, .int .u16 b, .int .u16 a] 45)).alloc (.cells #[.int .i64 top] 3)).cell? ⟨w.heap.size, 0, none⟩ = some (.int .u16 r) ∧ ((w.alloc (.cells #[.int .u16 r, .int .u16 g, .int .u16 b, .int .u16 a] 45)).alloc (.cells #[.int .i64 top] 3)).cell? ⟨w.heap.size, 1, none⟩ = some (.int .u16 g) ∧ ((w.alloc (.cells #[.int .u16 r, .int .u16 g, .int .u16 b, .int .u16 a] 45)).alloc (.cells #[.int .i64 top] 3)).cell? ⟨w.heap.size, 2, none⟩ = some (.int .u16 b)) := by
    have h0 := ((Below.refl _ (w.alloc (.cells #[.int .u16 r, .int .u16 g, .int .u16 b, .int .u16 a] 45))).alloc (Nat.le_refl _) (.cells #[.int .i64 top] 3)).block w.heap.size (by simp)
    rw [heap_alloc_new] at h0
    unfold World.cell?
    simp only [h0]
    exact ⟨rfl, rfl, rfl⟩
  clear hb2 hc hs2
  go_enter Tryd.func35, Tryd.ntmps35
  go_wp2_with fail
  have HF : Hid (smpsI 3 top r g b = [downI r top, downI g top, downI b top]) := by show _ = _; unfold smpsI; rw [if_neg (by omega), if_neg (by omega)]
  have HR0 := Lib.hid hr
  generalize (w.alloc (.cells #[.int .u16 r, .int .u16 g, .int .u16 b, .int .u16 a] 45)).alloc (.cells #[.int .i64 top] 3) = W at HB2 HC HS2 HCO ⊢
  obtain ⟨c0, c1, c2⟩ := HCO.out
  have HCD : Hid (W.drew.cell? ⟨w.heap.size + 1, 0, none⟩ = some (.int .i64 top)) := HC.out
  refine wp_region_still_tail 12 (by kernel_rfl) (by kernel_rfl) ?_
  simp only [List.take_succ_cons, List.take_zero, List.drop_succ_cons, List.drop_zero]
  repeat still_step
  still_call (by exact ((down1_any (top := top) W.drew HCD.out hr t1 t2).mono fun _ _ h => ⟨h.1, h.2.symm⟩))
  repeat still_step
  still_call (by exact ((down1_any (top := top) W.drew HCD.out hg t1 t2).mono fun _ _ h => ⟨h.1, h.2.symm⟩))
  repeat still_step
  still_call (by exact ((down1_any (top := top) W.drew HCD.out hb t1 t2).mono fun _ _ h => ⟨h.1, h.2.symm⟩))
  repeat still_step
  refine wpStill_nil ?_
  change wpList _ _ _ _ _ (World.drew _)
  have HBD : Hid (Below w.heap.size w W.drew) := HB2.out.drew
  generalize W.drew = W3 at HBD ⊢
  generalize downI r top = d1 at HF ⊢
  generalize downI g top = d2 at HF ⊢
  generalize downI b top = d3 at HF ⊢
  have HN := Lib.hid (SI.new W3 [d1, d2, d3] (by simp))
  have HBN := Lib.hid (HBD.out.alloc HBD.out.size (.cells #[.int .i64 d1, .int .i64 d2, .int .i64 d3] 3))
  go_wp2_with fail
  go_ret
  rw [HF.out]
  exact ⟨HBN.out, _, _, rfl, HN.out, fun a e => by injection e with e; subst e; exact HBD.out.size⟩
set_option maxRecDepth 20000 in
set_option maxHeartbeats 2000000 in
theorem psmps_4 {top r g b a : Int} (w : World) (hr : 0 ≤ r ∧ r < 65536) (hg : 0 ≤ g ∧ g < 65536) (hb : 0 ≤ b ∧ b < 65536) (t1 : 1 ≤ top) (t2 : top ≤ 65535) :
    Calls Tryd.prog 35 #[.agg #[.int .u16 r, .int .u16 g, .int .u16 b, .int .u16 a], .int .i64 4, .int .i64 top] w (SmpsP w (smpsI 4 top r g b)) := by
  have hb2 : Below w.heap.size w ((w.alloc (.cells #[.int .u16 r, .int .u16 g, .int .u16 b, .int .u16 a] 45)).alloc (.cells #[.int .i64 top] 3)) := ((Below.refl _ w).alloc (Nat.le_refl _) _).alloc (by simp) _
  have hc : ((w.alloc (.cells #[.int .u16 r, .int .u16 g, .int .u16 b, .int .u16 a] 45)).alloc (.cells #[.int .i64 top] 3)).cell? ⟨w.heap.size + 1, 0, none⟩ = some (.int .i64 top) := by
    have := heap_alloc_new (w.alloc (.cells #[.int .u16 r, .int .u16 g, .int .u16 b, .int .u16 a] 45)) (.cells #[.int .i64 top] 3)
    rw [World.size_alloc] at this
    unfold World.cell?
    simp only [this]
    rfl
  have hs2 : ((w.alloc (.cells #[.int .u16 r, .int .u16 g, .int .u16 b, .int .u16 a] 45)).alloc (.cells #[.int .i64 top] 3)).heap.size = w.heap.size + 1 + 1 := by simp
  have HB2 := Lib.hid hb2
  have HC := Lib.hid hc
  have HS2 := Lib.hid hs2
  have HCO : Hid (((w.alloc (.cells #[.int .u16 r, .int .u16 g, .int .u16 b, .int .u16 a] 45)).alloc (.cells #[.int .i64 top] 3)).cell? ⟨w.heap.size, 0, none⟩ = some (.int .u16 r) ∧ ((w.alloc (.cells #[.int .u16 r, .int .u16 g, .int .u16 b, .int .u16 a] 45)).alloc (.cells #[.int .i64 top] 3)).cell? ⟨w.heap.size, 1, none⟩ = some (.int .u16 g) ∧ ((w.alloc (.cells #[.int .u16 r, .int .u16 g, .int .u16 b, .int .u16 a] 45)).alloc (.cells #[.int .i64 top] 3)).cell? ⟨w.heap.size, 2, none⟩ = some (.int .u16 b)) := by
    have h0 := ((Below.refl _ (w.alloc (.cells #[.int .u16 r, .int .u16 g, .int .u16 b, .int .u16 a] 45))).alloc (Nat.le_refl _) (.cells #[.int .i64 top] 3)).block w.heap.size (by simp)
    rw [heap_alloc_new] at h0
    unfold World.cell?
    simp only [h0]
    exact ⟨rfl, rfl, rfl⟩
  clear hb2 hc hs2
  go_enter Tryd.func35, Tryd.ntmps35
  go_wp2_with fail
  refine (luma_any _ hr hg hb).mono ?_
  rintro e w3 ⟨rfl, hb3⟩
  have HB3 : Hid (Below w.heap.size w w3) := HB2.out.trans (hb3.mono HB2.out.size)
  have HC3 := Lib.hid (((hb3.cell (p := ⟨w.heap.size + 1, 0, none⟩) (by show w.heap.size + 1 < _; rw [HS2.out]; omega))).trans HC.out)
  have hl := lumaI_bd hr hg hb
  clear hb3 HB2 HC HS2
  by_cases hlt : lumaI r g b < 32768
  · have d1 : decide (lumaI r g b < 32768) = true := decide_eq_true hlt
    have HF : Hid (smpsI 4 top r g b = [1]) := by show _ = _; unfold smpsI; rw [if_pos (by omega), if_pos hlt]
    generalize lumaI r g b = L at d1 hl ⊢
    have HN := Lib.hid (SI.new w3 [1] (by decide))
    have HBN := Lib.hid (HB3.out.alloc HB3.out.size (.cells #[.int .i64 1] 3))
    clear hlt
    go_wp2_with fail
    go_ret
    rw [HF.out]
    exact ⟨HBN.out, _, _, rfl, HN.out, fun a e => by injection e with e; subst e; exact HB3.out.size⟩
  · have d1 : decide (lumaI r g b < 32768) = false := decide_eq_false hlt
    have HF : Hid (smpsI 4 top r g b = [0]) := by show _ = _; unfold smpsI; rw [if_pos (by omega), if_neg hlt]
    generalize lumaI r g b = L at d1 hl ⊢
    have HN := Lib.hid (SI.new w3 [0] (by decide))
    have HBN := Lib.hid (HB3.out.alloc HB3.out.size (.cells #[.int .i64 0] 3))
    clear hlt
    go_wp2_with fail
    go_ret
    rw [HF.out]
    exact ⟨HBN.out, _, _, rfl, HN.out, fun a e => by injection e with e; subst e; exact HB3.out.size⟩
set_option maxRecDepth 20000 in
set_option maxHeartbeats 2000000 in
theorem psmps_5 {top r g b a : Int} (w : World) (hr : 0 ≤ r ∧ r < 65536) (hg : 0 ≤ g ∧ g < 65536) (hb : 0 ≤ b ∧ b < 65536) (t1 : 1 ≤ top) (t2 : top ≤ 65535) :
    Calls Tryd.prog 35 #[.agg #[.int .u16 r, .int .u16 g, .int .u16 b, .int .u16 a], .int .i64 5, .int .i64 top] w (SmpsP w (smpsI 5 top r g b)) := by
  have hb2 : Below w.heap.size w ((w.alloc (.cells #[.int .u16 r, .int .u16 g, .int .u16 b, .int .u16 a] 45)).alloc (.cells #[.int .i64 top] 3)) := ((Below.refl _ w).alloc (Nat.le_refl _) _).alloc (by simp) _
  have hc : ((w.alloc (.cells #[.int .u16 r, .int .u16 g, .int .u16 b, .int .u16 a] 45)).alloc (.cells #[.int .i64 top] 3)).cell? ⟨w.heap.size + 1, 0, none⟩ = some (.int .i64 top) := by
    have := heap_alloc_new (w.alloc (.cells #[.int .u16 r, .int .u16 g, .int .u16 b, .int .u16 a] 45)) (.cells #[.int .i64 top] 3)
    rw [World.size_alloc] at this
    unfold World.cell?
    simp only [this]
    rfl
  have hs2 : ((w.alloc (.cells #[.int .u16 r, .int .u16 g, .int .u16 b, .int .u16 a] 45)).alloc (.cells #[.int .i64 top] 3)).heap.size = w.heap.size + 1 + 1 := by simp
  have HB2 := Lib.hid hb2
  have HC := Lib.hid hc
  have HS2 := Lib.hid hs2
  have HCO : Hid (((w.alloc (.cells #[.int .u16 r, .int .u16 g, .int .u16 b, .int .u16 a] 45)).alloc (.cells #[.int .i64 top] 3)).cell? ⟨w.heap.size, 0, none⟩ = some (.int .u16 r) ∧ ((w.alloc (.cells #[.int .u16 r, .int .u16 g, .int .u16 b, .int .u16 a] 45)).alloc (.cells #[.int .i64 top] 3)).cell? ⟨w.heap.size, 1, none⟩ = some (.int .u16 g) ∧ ((w.alloc (.cells #[.int .u16 r, .int .u16 g, .int .u16 b, .int .u16 a] 45)).alloc (.cells #[.int .i64 top] 3)).cell? ⟨w.heap.size, 2, none⟩ = some (.int .u16 b)) := by
    have h0 := ((Below.refl _ (w.alloc (.cells #[.int .u16 r, .int .u16 g, .int .u16 b, .int .u16 a] 45))).alloc (Nat.le_refl _) (.cells #[.int .i64 top] 3)).block w.heap.size (by simp)
    rw [heap_alloc_new] at h0
    unfold World.cell?
    simp only [h0]
    exact ⟨rfl, rfl, rfl⟩
  clear hb2 hc hs2
  go_enter Tryd.func35, Tryd.ntmps35
  go_wp2_with fail
  refine (luma_any _ hr hg hb).mono ?_
  rintro e w3 ⟨rfl, hb3⟩
  have HB3 : Hid (Below w.heap.size w w3) := HB2.out.trans (hb3.mono HB2.out.size)
  have HC3 := Lib.hid (((hb3.cell (p := ⟨w.heap.size + 1, 0, none⟩) (by show w.heap.size + 1 < _; rw [HS2.out]; omega))).trans HC.out)
  have hl := lumaI_bd hr hg hb
  clear hb3 HB2 HC HS2
  have HF : Hid (smpsI 5 top r g b = [downI (lumaI r g b) top]) := by show _ = _; unfold smpsI; rw [if_neg (by omega), if_pos (by omega)]
  generalize lumaI r g b = L at hl HF ⊢
  go_wp2_with fail
  refine (down1_any (top := top) w3 HC3.out hl t1 t2).mono ?_
  rintro e w4 ⟨rfl, rfl⟩
  generalize downI L top = d at HF ⊢
  have HN := Lib.hid (SI.new w3 [d] (by simp))
  have HBN := Lib.hid (HB3.out.alloc HB3.out.size (.cells #[.int .i64 d] 3))
  go_wp2_with fail
  go_ret
  rw [HF.out]
  exact ⟨HBN.out, _, _, rfl, HN.out, fun a e => by injection e with e; subst e; exact HB3.out.size⟩
set_option maxRecDepth 20000 in
set_option maxHeartbeats 2000000 in
theorem psmps_6 {top r g b a : Int} (w : World) (hr : 0 ≤ r ∧ r < 65536) (hg : 0 ≤ g ∧ g < 65536) (hb : 0 ≤ b ∧ b < 65536) (t1 : 1 ≤ top) (t2 : top ≤ 65535) :
    Calls Tryd.prog 35 #[.agg #[.int .u16 r, .int .u16 g, .int .u16 b, .int .u16 a], .int .i64 6, .int .i64 top] w (SmpsP w (smpsI 6 top r g b)) := by
  have hb2 : Below w.heap.size w ((w.alloc (.cells #[.int .u16 r, .int .u16 g, .int .u16 b, .int .u16 a] 45)).alloc (.cells #[.int .i64 top] 3)) := ((Below.refl _ w).alloc (Nat.le_refl _) _).alloc (by simp) _
  have hc : ((w.alloc (.cells #[.int .u16 r, .int .u16 g, .int .u16 b, .int .u16 a] 45)).alloc (.cells #[.int .i64 top] 3)).cell? ⟨w.heap.size + 1, 0, none⟩ = some (.int .i64 top) := by
    have := heap_alloc_new (w.alloc (.cells #[.int .u16 r, .int .u16 g, .int .u16 b, .int .u16 a] 45)) (.cells #[.int .i64 top] 3)
    rw [World.size_alloc] at this
    unfold World.cell?
    simp only [this]
    rfl
  have hs2 : ((w.alloc (.cells #[.int .u16 r, .int .u16 g, .int .u16 b, .int .u16 a] 45)).alloc (.cells #[.int .i64 top] 3)).heap.size = w.heap.size + 1 + 1 := by simp
  have HB2 := Lib.hid hb2
  have HC := Lib.hid hc
  have HS2 := Lib.hid hs2
  have HCO : Hid (((w.alloc (.cells #[.int .u16 r, .int .u16 g, .int .u16 b, .int .u16 a] 45)).alloc (.cells #[.int .i64 top] 3)).cell? ⟨w.heap.size, 0, none⟩ = some (.int .u16 r) ∧ ((w.alloc (.cells #[.int .u16 r, .int .u16 g, .int .u16 b, .int .u16 a] 45)).alloc (.cells #[.int .i64 top] 3)).cell? ⟨w.heap.size, 1, none⟩ = some (.int .u16 g) ∧ ((w.alloc (.cells #[.int .u16 r, .int .u16 g, .int .u16 b, .int .u16 a] 45)).alloc (.cells #[.int .i64 top] 3)).cell? ⟨w.heap.size, 2, none⟩ = some (.int .u16 b)) := by
    have h0 := ((Below.refl _ (w.alloc (.cells #[.int .u16 r, .int .u16 g, .int .u16 b, .int .u16 a] 45))).alloc (Nat.le_refl _) (.cells #[.int .i64 top] 3)).block w.heap.size (by simp)
    rw [heap_alloc_new] at h0
    unfold World.cell?
    simp only [h0]
    exact ⟨rfl, rfl, rfl⟩
  clear hb2 hc hs2
  go_enter Tryd.func35, Tryd.ntmps35
  go_wp2_with fail
  have HF : Hid (smpsI 6 top r g b = [downI r top, downI g top, downI b top]) := by show _ = _; unfold smpsI; rw [if_neg (by omega), if_neg (by omega)]
  have HR0 := Lib.hid hr
  generalize (w.alloc (.cells #[.int .u16 r, .int .u16 g, .int .u16 b, .int .u16 a] 45)).alloc (.cells #[.int .i64 top] 3) = W at HB2 HC HS2 HCO ⊢
  obtain ⟨c0, c1, c2⟩ := HCO.out
  have HCD : Hid (W.drew.cell? ⟨w.heap.size + 1, 0, none⟩ = some (.int .i64 top)) := HC.out
  refine wp_region_still_tail 12 (by kernel_rfl) (by kernel_rfl) ?_
  simp only [List.take_succ_cons, List.take_zero, List.drop_succ_cons, List.drop_zero]
  repeat still_step
  still_call (by exact ((down1_any (top := top) W.drew HCD.out hr t1 t2).mono fun _ _ h => ⟨h.1, h.2.symm⟩))
  repeat still_step
  still_call (by exact ((down1_any (top := top) W.drew HCD.out hg t1 t2).mono fun _ _ h => ⟨h.1, h.2.symm⟩))
  repeat still_step
  still_call (by exact ((down1_any (top := top) W.drew HCD.out hb t1 t2).mono fun _ _ h => ⟨h.1, h.2.symm⟩))
  repeat still_step
  refine wpStill_nil ?_
  change wpList _ _ _ _ _ (World.drew _)
  have HBD : Hid (Below w.heap.size w W.drew) := HB2.out.drew
  generalize W.drew = W3 at HBD ⊢
  generalize downI r top = d1 at HF ⊢
  generalize downI g top = d2 at HF ⊢
  generalize downI b top = d3 at HF ⊢
  have HN := Lib.hid (SI.new W3 [d1, d2, d3] (by simp))
  have HBN := Lib.hid (HBD.out.alloc HBD.out.size (.cells #[.int .i64 d1, .int .i64 d2, .int .i64 d3] 3))
  go_wp2_with fail
  go_ret
  rw [HF.out]
  exact ⟨HBN.out, _, _, rfl, HN.out, fun a e => by injection e with e; subst e; exact HBD.out.size⟩
end Go.Proofs.YtbmlopklhgladaaDoor.Pnm
set_option linter.unusedVariables false
set_option linter.unusedSimpArgs false
namespace Go.Proofs.YtbmlopklhgladaaDoor.Pnm
open Go.RowKit K

theorem psmps_any {kind top r g b a : Int} (w : World) (k1 : 1 ≤ kind) (k2 : kind ≤ 6) (hr : 0 ≤ r ∧ r < 65536) (hg : 0 ≤ g ∧ g < 65536) (hb : 0 ≤ b ∧ b < 65536) (t1 : 1 ≤ top) (t2 : top ≤ 65535) :
    Calls Tryd.prog 35 #[.agg #[.int .u16 r, .int .u16 g, .int .u16 b, .int .u16 a], .int .i64 kind, .int .i64 top] w (SmpsP w (smpsI kind top r g b)) := by
  rcases (by omega : kind = 1 ∨ kind = 2 ∨ kind = 3 ∨ kind = 4 ∨ kind = 5 ∨ kind = 6) with rfl | rfl | rfl | rfl | rfl | rfl
  · exact psmps_1 w hr hg hb t1 t2
  · exact psmps_2 w hr hg hb t1 t2
  · exact psmps_3 w hr hg hb t1 t2
  · exact psmps_4 w hr hg hb t1 t2
  · exact psmps_5 w hr hg hb t1 t2
  · exact psmps_6 w hr hg hb t1 t2
set_option maxRecDepth 20000 in
set_option maxHeartbeats 2000000 in
theorem rsmps_1 {top r g b a : Int} (w : World) (hr : 0 ≤ r ∧ r < 65536) (hg : 0 ≤ g ∧ g < 65536) (hb : 0 ≤ b ∧ b < 65536) (t1 : 1 ≤ top) (t2 : top ≤ 65535) :
    Calls Tryd.prog 62 #[.agg #[.int .u16 r, .int .u16 g, .int .u16 b, .int .u16 a], .int .i64 1, .int .i64 top] w (SmpsP w (smpsI 1 top r g b)) := by
  have HB2 : Hid (Below w.heap.size w (w.alloc (.cells #[.int .u16 r, .int .u16 g, .int .u16 b, .int .u16 a] 45))) := (Below.refl _ w).alloc (Nat.le_refl _) _
  have HRW : Hid ((w.alloc (.cells #[.int .u16 r, .int .u16 g, .int .u16 b, .int .u16 a] 45)).heap[w.heap.size]? = some (.cells #[.int .u16 r, .int .u16 g, .int .u16 b, .int .u16 a] 45 (0, 0))) := heap_alloc_new _ _
  have hl := lumaI_bd hr hg hb
  go_enter Tryd.func62, Tryd.ntmps62
  go_wp2_with fail
  generalize w.alloc (.cells #[.int .u16 r, .int .u16 g, .int .u16 b, .int .u16 a] 45) = W at HB2 HRW ⊢
  refine (rluma_any W hr hg hb).mono ?_
  rintro e w3 ⟨rfl, hb3⟩
  have HB3 : Hid (Below w.heap.size w w3) := HB2.out.trans (hb3.mono HB2.out.size)
  have hrow := (hb3.block _ (Array.getElem?_eq_some_iff.1 HRW.out).1).trans HRW.out
  have c0 := Ard.row_cell hrow 0
  have c1 := Ard.row_cell hrow 1
  have c2 := Ard.row_cell hrow 2
  simp only [List.getElem?_toArray, List.getElem?_cons_zero, List.getElem?_cons_succ] at c0 c1 c2
  clear hb3 hrow HRW HB2
  by_cases hlt : lumaI r g b < 32768
  · have d1 : decide (lumaI r g b < 32768) = true := decide_eq_true hlt
    have HF : Hid (smpsI 1 top r g b = [1]) := by show _ = _; unfold smpsI; rw [if_pos (by omega), if_pos hlt]
    generalize lumaI r g b = L at d1 hl ⊢
    clear hlt
    have HN := Lib.hid (SI.new w3 [1] (by simp))
    have HBN := Lib.hid (HB3.out.alloc HB3.out.size (.cells #[.int .i64 1] 3))
    go_wp2_with fail
    go_ret
    rw [HF.out]
    exact ⟨HBN.out, _, _, rfl, HN.out, fun a e => by injection e with e; subst e; exact HB3.out.size⟩
  · have d1 : decide (lumaI r g b < 32768) = false := decide_eq_false hlt
    have HF : Hid (smpsI 1 top r g b = [0]) := by show _ = _; unfold smpsI; rw [if_pos (by omega), if_neg hlt]
    generalize lumaI r g b = L at d1 hl ⊢
    clear hlt
    have HN := Lib.hid (SI.new w3 [0] (by simp))
    have HBN := Lib.hid (HB3.out.alloc HB3.out.size (.cells #[.int .i64 0] 3))
    go_wp2_with fail
    go_ret
    rw [HF.out]
    exact ⟨HBN.out, _, _, rfl, HN.out, fun a e => by injection e with e; subst e; exact HB3.out.size⟩
set_option maxRecDepth 20000 in
set_option maxHeartbeats 2000000 in
theorem rsmps_2 {top r g b a : Int} (w : World) (hr : 0 ≤ r ∧ r < 65536) (hg : 0 ≤ g ∧ g < 65536) (hb : 0 ≤ b ∧ b < 65536) (t1 : 1 ≤ top) (t2 : top ≤ 65535) :
    Calls Tryd.prog 62 #[.agg #[.int .u16 r, .int .u16 g, .int .u16 b, .int .u16 a], .int .i64 2, .int .i64 top] w (SmpsP w (smpsI 2 top r g b)) := by
  have HB2 : Hid (Below w.heap.size w (w.alloc (.cells #[.int .u16 r, .int .u16 g, .int .u16 b, .int .u16 a] 45))) := (Below.refl _ w).alloc (Nat.le_refl _) _
  have HRW : Hid ((w.alloc (.cells #[.int .u16 r, .int .u16 g, .int .u16 b, .int .u16 a] 45)).heap[w.heap.size]? = some (.cells #[.int .u16 r, .int .u16 g, .int .u16 b, .int .u16 a] 45 (0, 0))) := heap_alloc_new _ _
  have hl := lumaI_bd hr hg hb
  go_enter Tryd.func62, Tryd.ntmps62
  go_wp2_with fail
  generalize w.alloc (.cells #[.int .u16 r, .int .u16 g, .int .u16 b, .int .u16 a] 45) = W at HB2 HRW ⊢
  refine (rluma_any W hr hg hb).mono ?_
  rintro e w3 ⟨rfl, hb3⟩
  have HB3 : Hid (Below w.heap.size w w3) := HB2.out.trans (hb3.mono HB2.out.size)
  have hrow := (hb3.block _ (Array.getElem?_eq_some_iff.1 HRW.out).1).trans HRW.out
  have c0 := Ard.row_cell hrow 0
  have c1 := Ard.row_cell hrow 1
  have c2 := Ard.row_cell hrow 2
  simp only [List.getElem?_toArray, List.getElem?_cons_zero, List.getElem?_cons_succ] at c0 c1 c2
  clear hb3 hrow HRW HB2
  have HF : Hid (smpsI 2 top r g b = [downI (lumaI r g b) top]) := by show _ = _; unfold smpsI; rw [if_neg (by omega), if_pos (by omega)]
  generalize lumaI r g b = L at hl HF ⊢
  go_wp2_with fail
  refine (rdown_any w3 hl t1 t2).mono ?_
  rintro e w4 ⟨rfl, rfl⟩
  generalize downI L top = d at HF ⊢
  have HN := Lib.hid (SI.new w3 [d] (by simp))
  have HBN := Lib.hid (HB3.out.alloc HB3.out.size (.cells #[.int .i64 d] 3))
  go_wp2_with fail
  go_ret
  rw [HF.out]
  exact ⟨HBN.out, _, _, rfl, HN.out, fun a e => by injection e with e; subst e; exact HB3.out.size⟩
set_option maxRecDepth 20000 in
set_option maxHeartbeats 2000000 in
theorem rsmps_3 {top r g b a : Int} (w : World) (hr : 0 ≤ r ∧ r < 65536) (hg : 0 ≤ g ∧ g < 65536) (hb : 0 ≤ b ∧ b < 65536) (t1 : 1 ≤ top) (t2 : top ≤ 65535) :
    Calls Tryd.prog 62 #[.agg #[.int .u16 r, .int .u16 g, .int .u16 b, .int .u16 a], .int .i64 3, .int .i64 top] w (SmpsP w (smpsI 3 top r g b)) := by
  have HB2 : Hid (Below w.heap.size w (w.alloc (.cells #[.int .u16 r, .int .u16 g, .int .u16 b, .int .u16 a] 45))) := (Below.refl _ w).alloc (Nat.le_refl _) _
  have HRW : Hid ((w.alloc (.cells #[.int .u16 r, .int .u16 g, .int .u16 b, .int .u16 a] 45)).heap[w.heap.size]? = some (.cells #[.int .u16 r, .int .u16 g, .int .u16 b, .int .u16 a] 45 (0, 0))) := heap_alloc_new _ _
  have hl := lumaI_bd hr hg hb
  go_enter Tryd.func62, Tryd.ntmps62
  go_wp2_with fail
  generalize w.alloc (.cells #[.int .u16 r, .int .u16 g, .int .u16 b, .int .u16 a] 45) = W at HB2 HRW ⊢
  refine (rluma_any W hr hg hb).mono ?_
  rintro e w3 ⟨rfl, hb3⟩
  have HB3 : Hid (Below w.heap.size w w3) := HB2.out.trans (hb3.mono HB2.out.size)
  have hrow := (hb3.block _ (Array.getElem?_eq_some_iff.1 HRW.out).1).trans HRW.out
  have c0 := Ard.row_cell hrow 0
  have c1 := Ard.row_cell hrow 1
  have c2 := Ard.row_cell hrow 2
  simp only [List.getElem?_toArray, List.getElem?_cons_zero, List.getElem?_cons_succ] at c0 c1 c2
  clear hb3 hrow HRW HB2
  have HF : Hid (smpsI 3 top r g b = [downI r top, downI g top, downI b top]) := by show _ = _; unfold smpsI; rw [if_neg (by omega), if_neg (by omega)]
  go_wp2_with fail
  refine (rdown_any w3 hr t1 t2).mono ?_
  rintro e w4 ⟨rfl, rfl⟩
  go_wp2_with fail
  refine (rdown_any w3 hg t1 t2).mono ?_
  rintro e w4 ⟨rfl, rfl⟩
  go_wp2_with fail
  refine (rdown_any w3 hb t1 t2).mono ?_
  rintro e w4 ⟨rfl, rfl⟩
  generalize downI r top = d1 at HF ⊢
  generalize downI g top = d2 at HF ⊢
  generalize downI b top = d3 at HF ⊢
  have HN := Lib.hid (SI.new w3 [d1, d2, d3] (by simp))
  have HBN := Lib.hid (HB3.out.alloc HB3.out.size (.cells #[.int .i64 d1, .int .i64 d2, .int .i64 d3] 3))
  go_wp2_with fail
  go_ret
  rw [HF.out]
  exact ⟨HBN.out, _, _, rfl, HN.out, fun a e => by injection e with e; subst e; exact HB3.out.size⟩
set_option maxRecDepth 20000 in
set_option maxHeartbeats 2000000 in
theorem rsmps_4 {top r g b a : Int} (w : World) (hr : 0 ≤ r ∧ r < 65536) (hg : 0 ≤ g ∧ g < 65536) (hb : 0 ≤ b ∧ b < 65536) (t1 : 1 ≤ top) (t2 : top ≤ 65535) :
    Calls Tryd.prog 62 #[.agg #[.int .u16 r, .int .u16 g, .int .u16 b, .int .u16 a], .int .i64 4, .int .i64 top] w (SmpsP w (smpsI 4 top r g b)) := by
  have HB2 : Hid (Below w.heap.size w (w.alloc (.cells #[.int .u16 r, .int .u16 g, .int .u16 b, .int .u16 a] 45))) := (Below.refl _ w).alloc (Nat.le_refl _) _
  have HRW : Hid ((w.alloc (.cells #[.int .u16 r, .int .u16 g, .int .u16 b, .int .u16 a] 45)).heap[w.heap.size]? = some (.cells #[.int .u16 r, .int .u16 g, .int .u16 b, .int .u16 a] 45 (0, 0))) := heap_alloc_new _ _
  have hl := lumaI_bd hr hg hb
  go_enter Tryd.func62, Tryd.ntmps62
  go_wp2_with fail
  generalize w.alloc (.cells #[.int .u16 r, .int .u16 g, .int .u16 b, .int .u16 a] 45) = W at HB2 HRW ⊢
  refine (rluma_any W hr hg hb).mono ?_
  rintro e w3 ⟨rfl, hb3⟩
  have HB3 : Hid (Below w.heap.size w w3) := HB2.out.trans (hb3.mono HB2.out.size)
  have hrow := (hb3.block _ (Array.getElem?_eq_some_iff.1 HRW.out).1).trans HRW.out
  have c0 := Ard.row_cell hrow 0
  have c1 := Ard.row_cell hrow 1
  have c2 := Ard.row_cell hrow 2
  simp only [List.getElem?_toArray, List.getElem?_cons_zero, List.getElem?_cons_succ] at c0 c1 c2
  clear hb3 hrow HRW HB2
  by_cases hlt : lumaI r g b < 32768
  · have d1 : decide (lumaI r g b < 32768) = true := decide_eq_true hlt
    have HF : Hid (smpsI 4 top r g b = [1]) := by show _ = _; unfold smpsI; rw [if_pos (by omega), if_pos hlt]
    generalize lumaI r g b = L at d1 hl ⊢
    clear hlt
    have HN := Lib.hid (SI.new w3 [1] (by simp))
    have HBN := Lib.hid (HB3.out.alloc HB3.out.size (.cells #[.int .i64 1] 3))
    go_wp2_with fail
    go_ret
    rw [HF.out]
    exact ⟨HBN.out, _, _, rfl, HN.out, fun a e => by injection e with e; subst e; exact HB3.out.size⟩
  · have d1 : decide (lumaI r g b < 32768) = false := decide_eq_false hlt
    have HF : Hid (smpsI 4 top r g b = [0]) := by show _ = _; unfold smpsI; rw [if_pos (by omega), if_neg hlt]
    generalize lumaI r g b = L at d1 hl ⊢
    clear hlt
    have HN := Lib.hid (SI.new w3 [0] (by simp))
    have HBN := Lib.hid (HB3.out.alloc HB3.out.size (.cells #[.int .i64 0] 3))
    go_wp2_with fail
    go_ret
    rw [HF.out]
    exact ⟨HBN.out, _, _, rfl, HN.out, fun a e => by injection e with e; subst e; exact HB3.out.size⟩
set_option maxRecDepth 20000 in
set_option maxHeartbeats 2000000 in
theorem rsmps_5 {top r g b a : Int} (w : World) (hr : 0 ≤ r ∧ r < 65536) (hg : 0 ≤ g ∧ g < 65536) (hb : 0 ≤ b ∧ b < 65536) (t1 : 1 ≤ top) (t2 : top ≤ 65535) :
    Calls Tryd.prog 62 #[.agg #[.int .u16 r, .int .u16 g, .int .u16 b, .int .u16 a], .int .i64 5, .int .i64 top] w (SmpsP w (smpsI 5 top r g b)) := by
  have HB2 : Hid (Below w.heap.size w (w.alloc (.cells #[.int .u16 r, .int .u16 g, .int .u16 b, .int .u16 a] 45))) := (Below.refl _ w).alloc (Nat.le_refl _) _
  have HRW : Hid ((w.alloc (.cells #[.int .u16 r, .int .u16 g, .int .u16 b, .int .u16 a] 45)).heap[w.heap.size]? = some (.cells #[.int .u16 r, .int .u16 g, .int .u16 b, .int .u16 a] 45 (0, 0))) := heap_alloc_new _ _
  have hl := lumaI_bd hr hg hb
  go_enter Tryd.func62, Tryd.ntmps62
  go_wp2_with fail
  generalize w.alloc (.cells #[.int .u16 r, .int .u16 g, .int .u16 b, .int .u16 a] 45) = W at HB2 HRW ⊢
  refine (rluma_any W hr hg hb).mono ?_
  rintro e w3 ⟨rfl, hb3⟩
  have HB3 : Hid (Below w.heap.size w w3) := HB2.out.trans (hb3.mono HB2.out.size)
  have hrow := (hb3.block _ (Array.getElem?_eq_some_iff.1 HRW.out).1).trans HRW.out
  have c0 := Ard.row_cell hrow 0
  have c1 := Ard.row_cell hrow 1
  have c2 := Ard.row_cell hrow 2
  simp only [List.getElem?_toArray, List.getElem?_cons_zero, List.getElem?_cons_succ] at c0 c1 c2
  clear hb3 hrow HRW HB2
  have HF : Hid (smpsI 5 top r g b = [downI (lumaI r g b) top]) := by show _ = _; unfold smpsI; rw [if_neg (by omega), if_pos (by omega)]
  generalize lumaI r g b = L at hl HF ⊢
  go_wp2_with fail
  refine (rdown_any w3 hl t1 t2).mono ?_
  rintro e w4 ⟨rfl, rfl⟩
  generalize downI L top = d at HF ⊢
  have HN := Lib.hid (SI.new w3 [d] (by simp))
  have HBN := Lib.hid (HB3.out.alloc HB3.out.size (.cells #[.int .i64 d] 3))
  go_wp2_with fail
  go_ret
  rw [HF.out]
  exact ⟨HBN.out, _, _, rfl, HN.out, fun a e => by injection e with e; subst e; exact HB3.out.size⟩
set_option maxRecDepth 20000 in
set_option maxHeartbeats 2000000 in
theorem rsmps_6 {top r g b a : Int} (w : World) (hr : 0 ≤ r ∧ r < 65536) (hg : 0 ≤ g ∧ g < 65536) (hb : 0 ≤ b ∧ b < 65536) (t1 : 1 ≤ top) (t2 : top ≤ 65535) :
    Calls Tryd.prog 62 #[.agg #[.int .u16 r, .int .u16 g, .int .u16 b, .int .u16 a], .int .i64 6, .int .i64 top] w (SmpsP w (smpsI 6 top r g b)) := by
  have HB2 : Hid (Below w.heap.size w (w.alloc (.cells #[.int .u16 r, .int .u16 g, .int .u16 b, .int .u16 a] 45))) := (Below.refl _ w).alloc (Nat.le_refl _) _
  have HRW : Hid ((w.alloc (.cells #[.int .u16 r, .int .u16 g, .int .u16 b, .int .u16 a] 45)).heap[w.heap.size]? = some (.cells #[.int .u16 r, .int .u16 g, .int .u16 b, .int .u16 a] 45 (0, 0))) := heap_alloc_new _ _
  have hl := lumaI_bd hr hg hb
  go_enter Tryd.func62, Tryd.ntmps62
  go_wp2_with fail
  generalize w.alloc (.cells #[.int .u16 r, .int .u16 g, .int .u16 b, .int .u16 a] 45) = W at HB2 HRW ⊢
  refine (rluma_any W hr hg hb).mono ?_
  rintro e w3 ⟨rfl, hb3⟩
  have HB3 : Hid (Below w.heap.size w w3) := HB2.out.trans (hb3.mono HB2.out.size)
  have hrow := (hb3.block _ (Array.getElem?_eq_some_iff.1 HRW.out).1).trans HRW.out
  have c0 := Ard.row_cell hrow 0
  have c1 := Ard.row_cell hrow 1
  have c2 := Ard.row_cell hrow 2
  simp only [List.getElem?_toArray, List.getElem?_cons_zero, List.getElem?_cons_succ] at c0 c1 c2
  clear hb3 hrow HRW HB2
  have HF : Hid (smpsI 6 top r g b = [downI r top, downI g top, downI b top]) := by show _ = _; unfold smpsI; rw [if_neg (by omega), if_neg (by omega)]
  go_wp2_with fail
  refine (rdown_any w3 hr t1 t2).mono ?_
  rintro e w4 ⟨rfl, rfl⟩
  go_wp2_with fail
  refine (rdown_any w3 hg t1 t2).mono ?_
  rintro e w4 ⟨rfl, rfl⟩
  go_wp2_with fail
  refine (rdown_any w3 hb t1 t2).mono ?_
  rintro e w4 ⟨rfl, rfl⟩
  generalize downI r top = d1 at HF ⊢
  generalize downI g top = d2 at HF ⊢
  generalize downI b top = d3 at HF ⊢
  have HN := Lib.hid (SI.new w3 [d1, d2, d3] (by simp))
  have HBN := Lib.hid (HB3.out.alloc HB3.out.size (.cells #[.int .i64 d1, .int .i64 d2, .int .i64 d3] 3))
  go_wp2_with fail
  go_ret
  rw [HF.out]
  exact ⟨HBN.out, _, _, rfl, HN.out, fun a e => by injection e with e; subst e; exact HB3.out.size⟩
theorem rsmps_any {kind top r g b a : Int} (w : World) (k1 : 1 ≤ kind) (k2 : kind ≤ 6) (hr : 0 ≤ r ∧ r < 65536) (hg : 0 ≤ g ∧ g < 65536) (hb : 0 ≤ b ∧ b < 65536) (t1 : 1 ≤ top) (t2 : top ≤ 65535) :
    Calls Tryd.prog 62 #[.agg #[.int .u16 r, .int .u16 g, .int .u16 b, .int .u16 a], .int .i64 kind, .int .i64 top] w (SmpsP w (smpsI kind top r g b)) := by
  rcases (by omega : kind = 1 ∨ kind = 2 ∨ kind = 3 ∨ kind = 4 ∨ kind = 5 ∨ kind = 6) with rfl | rfl | rfl | rfl | rfl | rfl
  · exact rsmps_1 w hr hg hb t1 t2
  · exact rsmps_2 w hr hg hb t1 t2
  · exact rsmps_3 w hr hg hb t1 t2
  · exact rsmps_4 w hr hg hb t1 t2
  · exact rsmps_5 w hr hg hb t1 t2
  · exact rsmps_6 w hr hg hb t1 t2
end Go.Proofs.YtbmlopklhgladaaDoor.Pnm
set_option linter.unusedVariables false
set_option linter.unusedSimpArgs false
namespace Go.Proofs.YtbmlopklhgladaaDoor.Pnm
open Go.RowKit K Ian

def itoaI (v : Int) : List Int := (Lib.itoa v).map fun b => (b.toNat : Int)
/-- samples in digits -/
def textL (l : List Int) : Nat → List Int
  | 0 => []
  | k+1 => textL l k ++ (if 0 < k then [32] else []) ++ itoaI (l.getD k 0)
/-- .. as bytes -/
def valsL (l : List Int) (top : Int) : Nat → List Int
  | 0 => []
  | k+1 => valsL l top k ++ (if 255 < top then [l.getD k 0 / 256] else []) ++ [l.getD k 0 % 256]
/-- .. as bits: m of a byte's -/
def pkTo (l : List Int) (b : Nat) : Nat → Int
  | 0 => 0
  | m+1 => pkTo l b m + l.getD (8 * b + m) 0 * 2 ^ (7 - m)
def packL (l : List Int) (n : Nat) : List Int := (List.range n).map fun b => pkTo l b 8
/-- a buffer that is written, since the world w0 -/
structure Bf (w0 w : World) (B bb : Nat) (bs : List Int) : Prop where
  buf : Lib.IsBuffer 74 5 B bb (bs.map (.int .u8)) w
  bel : Below B w0 w
  oth : Lib.OthersKept 5 (some bb) w0 w
theorem Bf.old {w0 w w' : World} {B bb : Nat} {bs : List Int} (h : Bf w0 w B bb bs) (hB : B ≤ w.heap.size) (hb : Below w.heap.size w w') : Bf w0 w' B bb bs :=
  ⟨h.buf.old hb, h.bel.trans (hb.mono hB), h.oth.trans (fun k o hk _ _ => (hb.block k (Array.getElem?_eq_some_iff.1 hk).1).trans hk)⟩
theorem byteCells_itoa (v : Int) : Lib.byteCells (Lib.itoa v) = (itoaI v).map (.int .u8) := by
  unfold Lib.byteCells itoaI
  rw [List.map_map]; rfl
theorem u8_one (bs : List Int) : ∀ v ∈ bs.map (Value.int .u8), v.oneCell' = true := ints_oneCell .u8 bs
theorem Bf.byte {w0 w : World} {B bb : Nat} {bs : List Int} {x : Int} (h : Bf w0 w B bb bs) (hB : B ≤ w.heap.size) (hl : bs.length ≤ 100000000) :
    Calls Tryd.prog 61 #[.pointer (some ⟨bb, 0, none⟩), .int .u8 x] w fun e w' => e = .returned .nilIface ∧ Bf w0 w' B bb (bs ++ [x]) ∧ B ≤ w'.heap.size :=
  (Shf.writeByte B bb (bs.map (.int .u8)) x w h.buf hB (u8_one bs) (by rw [List.length_map]; omega)).mono fun e w' ⟨he, hb, hbl, ho⟩ =>
    ⟨he, ⟨by rw [List.map_append]; exact hb, h.bel.trans hbl, h.oth.trans ho⟩, Nat.le_trans hB hbl.size⟩
theorem Bf.str {w0 w : World} {B bb : Nat} {bs ys : List Int} {s : ByteArray} (h : Bf w0 w B bb bs) (hs : Lib.byteCells s.data.toList = ys.map (.int .u8)) (hB : B ≤ w.heap.size) (hl : bs.length ≤ 100000000) (hl2 : ys.length ≤ 100000000) :
    Calls Tryd.prog 32 #[.pointer (some ⟨bb, 0, none⟩), .string s] w fun e w' => (∃ v, e = .returned (.tuple #[v, .nilIface])) ∧ Bf w0 w' B bb (bs ++ ys) ∧ B ≤ w'.heap.size :=
  (Shf.writeString B bb (bs.map (.int .u8)) s w h.buf hB (u8_one bs) (by
    have := congrArg List.length hs
    unfold Lib.byteCells at this
    rw [List.length_map, List.length_map] at this
    have h2 := Lib.size_eq s
    rw [List.length_map]; omega)).mono fun e w' ⟨he, hb, hbl, ho⟩ =>
    ⟨⟨_, he⟩, ⟨by rw [List.map_append, ← hs]; exact hb, h.bel.trans hbl, h.oth.trans ho⟩, Nat.le_trans hB hbl.size⟩
theorem itoaI_len (v : Int) (h : 0 ≤ v ∧ v ≤ 65535) : (itoaI v).length ≤ 21 := by unfold itoaI; rw [List.length_map]; exact Lib.itoa_length_le v (by omega) (by omega)
theorem getD_all {l : List Int} (hl : ∀ x ∈ l, 0 ≤ x ∧ x ≤ 65535) (k : Nat) : 0 ≤ l.getD k 0 ∧ l.getD k 0 ≤ 65535 := by
  rw [List.getD_eq_getElem?_getD]
  cases h : l[k]? with
  | none => simp
  | some x => exact hl x (List.mem_of_getElem? h)
theorem textL_len {l : List Int} (hl : ∀ x ∈ l, 0 ≤ x ∧ x ≤ 65535) (k : Nat) : (textL l k).length ≤ 22 * k := by
  induction k with
  | zero => simp [textL]
  | succ k ih =>
    have := itoaI_len (l.getD k 0) (getD_all hl k)
    rw [textL, List.length_append, List.length_append]
    split <;> simp only [List.length_cons, List.length_nil] <;> omega
/-- numbers that stay while the buffer is written -/
def Stay (w0 : World) (B bb : Nat) (A : Option Addr) (n : Nat) (l : List Int) : Prop := ∀ w, Below B w0 w → Lib.OthersKept 5 (some bb) w0 w → SI w .i64 A n l
set_option maxRecDepth 20000 in
set_option maxHeartbeats 4000000 in
theorem line_text {w0 : World} {B bb n c : Nat} {A : Option Addr} {l bs : List Int} {kind top : Int} (w : World) (HB : Bf w0 w B bb bs) (hB : B ≤ w.heap.size) (HS : Stay w0 B bb A n l) (HV : Vars w0) (hvb : vb ≤ B) (hk : kind < 4) (hl : ∀ x ∈ l, 0 ≤ x ∧ x ≤ 65535) (hn : n ≤ 65536) (hbs : bs.length ≤ 50000000) :
    Calls Tryd.prog 36 #[.pointer (some ⟨bb, 0, none⟩), .slice A n c, .int .i64 kind, .int .i64 top] w fun e w' => e = .returned (.tuple #[]) ∧ Bf w0 w' B bb (bs ++ (textL l n ++ [10])) ∧ B ≤ w'.heap.size := by
  have HBB := Lib.hid HB
  have HBS := Lib.hid hB
  have HSS := Lib.hid HS
  have HVV := Lib.hid HV
  have HLL := Lib.hid hl
  have HLN := Lib.hid (HS w HB.bel HB.oth).len
  have d4 : decide (kind < 4) = true := decide_eq_true hk
  clear HB HS HV hl hB hk
  go_enter Tryd.func36, Tryd.ntmps36
  go_wp2
  go_loopw [13] (fun si wr => ∃ k : Nat, k ≤ n ∧ si = .int .i64 k ∧ Hid (Bf w0 wr B bb (bs ++ textL l k)) ∧ Hid (B ≤ wr.heap.size)) (fun si _ => n - (intOf si).toNat)
  case atStart => exact ⟨0, by omega, rfl, by rw [show textL l 0 = [] from rfl, List.append_nil]; exact HBB, HBS⟩
  case round =>
    obtain ⟨k, hk, rfl, HBR, HSR⟩ := hrel
    have HLT : Hid ((bs ++ textL l k).length ≤ 60000000) := by show _ ≤ _; rw [List.length_append]; have := textL_len HLL.out k; omega
    by_cases hlt : k < n
    · have d1 : decide ((k : Int) < (n : Int)) = true := decide_eq_true (by omega)
      obtain ⟨b3, o3, rfl, hc⟩ := int_at (HSS.out wr HBR.out.bel HBR.out.oth) hlt
      have HX : Hid (0 ≤ l.getD k 0 ∧ l.getD k 0 ≤ 65535) := by
        exact getD_all HLL.out k
      have HTX : Hid (textL l (k + 1) = textL l k ++ (if 0 < k then [32] else []) ++ itoaI (l.getD k 0)) := rfl
      generalize l.getD k 0 = x at hc HX HTX
      by_cases h0 : 0 < k
      · have d2 : decide ((0 : Int) < (k : Int)) = true := decide_eq_true (by omega)
        have d2n : decide (0 < k) = true := decide_eq_true (by omega)
        have HTN : Hid (bs ++ textL l (k + 1) = (bs ++ textL l k ++ [32]) ++ itoaI x) := by show _ = _; rw [HTX.out, if_pos h0]; simp [List.append_assoc]
        clear h0
        go_wp2_with fail
        refine (HBR.out.byte HSR.out (by have := HLT.out; omega)).mono ?_
        rintro e w1 ⟨rfl, hb1, hs1⟩
        have HB1 := Lib.hid hb1
        have HS1 := Lib.hid hs1
        clear hb1 hs1 hc
        go_wp2_with fail
        refine (Shf.itoa x (by have := HX.out; omega) (by have := HX.out; omega) w1 (HVV.out.belowv HB1.out.bel hvb).tab).mono ?_
        rintro e w2 ⟨rfl, hb2⟩
        have HB2 := Lib.hid (HB1.out.old HS1.out hb2)
        have HS2 : Hid (B ≤ w2.heap.size) := Nat.le_trans HS1.out hb2.size
        clear hb2
        go_wp2_with fail
        refine (HB2.out.str (ys := itoaI x) (byteCells_itoa x) HS2.out (by have := HLT.out; rw [List.length_append]; simp only [List.length_cons, List.length_nil]; omega) (by have := itoaI_len x HX.out; omega)).mono ?_
        rintro e w3 ⟨⟨v3, rfl⟩, hb3, hs3⟩
        have HB3 : Hid (Bf w0 w3 B bb (bs ++ textL l (k + 1))) := by show Bf _ _ _ _ _; rw [HTN.out]; exact hb3
        have HS3 := Lib.hid hs3
        clear hb3 hs3
        go_wp2_with fail
        refine ⟨⟨k + 1, by omega, by go_num, HB3, HS3⟩, ?_⟩
        simp [intOf]; omega
      · have d2 : decide ((0 : Int) < (k : Int)) = false := decide_eq_false (by omega)
        have d2n : decide (0 < k) = false := decide_eq_false (by omega)
        have HTN : Hid (bs ++ textL l (k + 1) = (bs ++ textL l k) ++ itoaI x) := by show _ = _; rw [HTX.out, if_neg h0]; simp [List.append_assoc]
        clear h0
        go_wp2_with fail
        refine (Shf.itoa x (by have := HX.out; omega) (by have := HX.out; omega) wr (HVV.out.belowv HBR.out.bel hvb).tab).mono ?_
        rintro e w2 ⟨rfl, hb2⟩
        have HB2 := Lib.hid (HBR.out.old HSR.out hb2)
        have HS2 : Hid (B ≤ w2.heap.size) := Nat.le_trans HSR.out hb2.size
        clear hb2 hc
        go_wp2_with fail
        refine (HB2.out.str (ys := itoaI x) (byteCells_itoa x) HS2.out (by have := HLT.out; omega) (by have := itoaI_len x HX.out; omega)).mono ?_
        rintro e w3 ⟨⟨v3, rfl⟩, hb3, hs3⟩
        have HB3 : Hid (Bf w0 w3 B bb (bs ++ textL l (k + 1))) := by show Bf _ _ _ _ _; rw [HTN.out]; exact hb3
        have HS3 := Lib.hid hs3
        clear hb3 hs3
        go_wp2_with fail
        refine ⟨⟨k + 1, by omega, by go_num, HB3, HS3⟩, ?_⟩
        simp [intOf]; omega
    · obtain rfl : k = n := by omega
      have d1 : decide ((k : Int) < (k : Int)) = false := by simp
      go_wp2_with fail
      refine (HBR.out.byte HSR.out (by have := HLT.out; omega)).mono ?_
      rintro e w1 ⟨rfl, hb1, hs1⟩
      have HB1 : Hid (Bf w0 w1 B bb (bs ++ (textL l k ++ [10]))) := by show Bf _ _ _ _ _; rw [← List.append_assoc]; exact hb1
      have HS1 := Lib.hid hs1
      clear hb1 hs1
      go_wp2_with fail
      go_end0
      exact ⟨rfl, HB1.out, HS1.out⟩
theorem valsL_len (l : List Int) (top : Int) (k : Nat) : (valsL l top k).length ≤ 2 * k := by
  induction k with
  | zero => simp [valsL]
  | succ k ih =>
    rw [valsL, List.length_append, List.length_append]
    split <;> simp only [List.length_cons, List.length_nil] <;> omega
set_option maxRecDepth 20000 in
set_option maxHeartbeats 4000000 in
theorem line_vals {w0 : World} {B bb n c : Nat} {A : Option Addr} {l bs : List Int} {kind top : Int} (w : World) (HB : Bf w0 w B bb bs) (hB : B ≤ w.heap.size) (HS : Stay w0 B bb A n l) (hk : 4 < kind) (hl : ∀ x ∈ l, 0 ≤ x ∧ x ≤ 65535) (hn : n ≤ 65536) (hbs : bs.length ≤ 50000000) :
    Calls Tryd.prog 36 #[.pointer (some ⟨bb, 0, none⟩), .slice A n c, .int .i64 kind, .int .i64 top] w fun e w' => e = .returned (.tuple #[]) ∧ Bf w0 w' B bb (bs ++ valsL l top n) ∧ B ≤ w'.heap.size := by
  have HBB := Lib.hid HB
  have HBS := Lib.hid hB
  have HSS := Lib.hid HS
  have HLL := Lib.hid hl
  have HLN := Lib.hid (HS w HB.bel HB.oth).len
  have d4 : decide (kind < 4) = false := decide_eq_false (by omega)
  have d5 : (kind == 4) = false := by simp; omega
  clear HB HS hl hB hk
  go_enter Tryd.func36, Tryd.ntmps36
  go_wp2
  go_loopw [13] (fun si wr => ∃ k : Nat, k ≤ n ∧ si = .int .i64 k ∧ Hid (Bf w0 wr B bb (bs ++ valsL l top k)) ∧ Hid (B ≤ wr.heap.size)) (fun si _ => n - (intOf si).toNat)
  case atStart => exact ⟨0, by omega, rfl, by rw [show valsL l top 0 = [] from rfl, List.append_nil]; exact HBB, HBS⟩
  case round =>
    obtain ⟨k, hk, rfl, HBR, HSR⟩ := hrel
    have HLT : Hid ((bs ++ valsL l top k).length ≤ 60000000) := by show _ ≤ _; rw [List.length_append]; have := valsL_len l top k; omega
    by_cases hlt : k < n
    · have d1 : decide ((k : Int) < (n : Int)) = true := decide_eq_true (by omega)
      obtain ⟨b3, o3, rfl, hc⟩ := int_at (HSS.out wr HBR.out.bel HBR.out.oth) hlt
      have hx := getD_all HLL.out k
      have HTX : Hid (valsL l top (k + 1) = valsL l top k ++ (if 255 < top then [l.getD k 0 / 256] else []) ++ [l.getD k 0 % 256]) := rfl
      generalize l.getD k 0 = x at hc hx HTX
      have w1 : IntKind.u8.wrap (x / 256) = x / 256 := IntWalk.u8_in _ (by omega)
      have w2 : IntKind.u8.wrap x = x % 256 := by rw [IntKind.wrap_u8]
      by_cases h0 : 255 < top
      · have d2 : decide (255 < top) = true := decide_eq_true h0
        have HTN : Hid (bs ++ valsL l top (k + 1) = (bs ++ valsL l top k ++ [x / 256]) ++ [x % 256]) := by show _ = _; rw [HTX.out, if_pos h0]; simp [List.append_assoc]
        clear h0
        go_wp2_with fail
        refine (HBR.out.byte HSR.out (by have := HLT.out; omega)).mono ?_
        rintro e w1 ⟨rfl, hb1, hs1⟩
        have HB1 := Lib.hid hb1
        have HS1 := Lib.hid hs1
        clear hb1 hs1 hc
        go_wp2_with fail
        refine (HB1.out.byte (x := x % 256) HS1.out (by have := HLT.out; rw [List.length_append]; simp only [List.length_cons, List.length_nil]; omega)).mono ?_
        rintro e w3 ⟨rfl, hb3, hs3⟩
        have HB3 : Hid (Bf w0 w3 B bb (bs ++ valsL l top (k + 1))) := by show Bf _ _ _ _ _; rw [HTN.out]; exact hb3
        have HS3 := Lib.hid hs3
        clear hb3 hs3
        go_wp2_with fail
        refine ⟨⟨k + 1, by omega, by go_num, HB3, HS3⟩, ?_⟩
        simp [intOf]; omega
      · have d2 : decide (255 < top) = false := decide_eq_false h0
        have HTN : Hid (bs ++ valsL l top (k + 1) = (bs ++ valsL l top k) ++ [x % 256]) := by show _ = _; rw [HTX.out, if_neg h0]; simp [List.append_assoc]
        clear h0
        go_wp2_with fail
        refine (HBR.out.byte (x := x % 256) HSR.out (by have := HLT.out; omega)).mono ?_
        rintro e w3 ⟨rfl, hb3, hs3⟩
        have HB3 : Hid (Bf w0 w3 B bb (bs ++ valsL l top (k + 1))) := by show Bf _ _ _ _ _; rw [HTN.out]; exact hb3
        have HS3 := Lib.hid hs3
        clear hb3 hs3 hc
        go_wp2_with fail
        refine ⟨⟨k + 1, by omega, by go_num, HB3, HS3⟩, ?_⟩
        simp [intOf]; omega
    · obtain rfl : k = n := by omega
      have d1 : decide ((k : Int) < (k : Int)) = false := by simp
      go_wp2_with fail
      go_end0
      exact ⟨rfl, HBR.out, HSR.out⟩
theorem pkTo_bd {l : List Int} (hl : ∀ x ∈ l, 0 ≤ x ∧ x ≤ 1) (b : Nat) : ∀ m, m ≤ 8 → 0 ≤ pkTo l b m ∧ pkTo l b m < 256 ∧ pkTo l b m % 2 ^ (8 - m) = 0 := by
  have key : ∀ m, m ≤ 8 → ∃ q : Int, 0 ≤ q ∧ q < 2 ^ m ∧ pkTo l b m = q * 2 ^ (8 - m) := by
    intro m
    induction m with
    | zero => intro _; exact ⟨0, by omega, by decide, rfl⟩
    | succ m ih =>
      intro hm
      obtain ⟨q, q0, q1, hq⟩ := ih (by omega)
      have hx : 0 ≤ l.getD (8 * b + m) 0 ∧ l.getD (8 * b + m) 0 ≤ 1 := by
        rw [List.getD_eq_getElem?_getD]
        cases h : l[8 * b + m]? with
        | none => simp
        | some x => exact hl x (List.mem_of_getElem? h)
      refine ⟨2 * q + l.getD (8 * b + m) 0, by omega, by rw [Int.pow_succ]; omega, ?_⟩
      rw [pkTo, hq, show 8 - m = (8 - (m + 1)) + 1 by omega, Int.pow_succ, show 7 - m = 8 - (m + 1) by omega, Int.add_mul]
      congr 1
      rw [Int.mul_comm (2 ^ (8 - (m + 1))) 2, ← Int.mul_assoc, Int.mul_comm q 2]
  intro m hm
  obtain ⟨q, q0, q1, hq⟩ := key m hm
  have hp : (0 : Int) < 2 ^ (8 - m) := Int.pow_pos (by omega)
  refine ⟨by rw [hq]; exact Int.mul_nonneg q0 (by omega), ?_, by rw [hq]; exact Int.mul_emod_left _ _⟩
  rw [hq]
  have h1 : q * 2 ^ (8 - m) < 2 ^ m * 2 ^ (8 - m) := Int.mul_lt_mul_of_pos_right q1 hp
  have h2 : (2 : Int) ^ m * 2 ^ (8 - m) = 256 := by rw [← Int.pow_add, show m + (8 - m) = 8 by omega]; rfl
  omega
theorem pkTo_end {l : List Int} {b m : Nat} (h : l.length ≤ 8 * b + m) : ∀ j, pkTo l b (m + j) = pkTo l b m := by
  intro j
  induction j with
  | zero => rfl
  | succ j ih =>
    rw [← Nat.add_assoc, pkTo, ih, List.getD_eq_getElem?_getD, List.getElem?_eq_none (by omega)]
    simp
theorem packL_succ (l : List Int) (n : Nat) : packL l (n + 1) = packL l n ++ [pkTo l n 8] := by unfold packL; rw [List.range_succ, List.map_append]; rfl
theorem packL_len (l : List Int) (n : Nat) : (packL l n).length = n := by unfold packL; simp
/-- one bit more in a byte -/
theorem bit_or {e x : Int} {m : Nat} (hm : m < 8) (h0 : 0 ≤ e) (h1 : e < 256) (hz : e % 2 ^ (8 - m) = 0) (hx : 0 ≤ x ∧ x ≤ 1) : bits .or .u8 e (x * 2 ^ (7 - m)) = e + x * 2 ^ (7 - m) := by
  have hp : (0 : Int) < 2 ^ (7 - m) := Int.pow_pos (by omega)
  have h8 : (2 : Int) ^ (8 - m) = 2 * 2 ^ (7 - m) := by rw [show 8 - m = (7 - m) + 1 by omega, Int.pow_succ, Int.mul_comm]
  have hle : (2 : Int) ^ (7 - m) ≤ 128 := by
    have := Nat.pow_le_pow_right (n := 2) (by omega) (show 7 - m ≤ 7 by omega)
    have e2 : (2 : Int) ^ (7 - m) = ((2 ^ (7 - m) : Nat) : Int) := by simp
    rw [e2]; have : 2 ^ (7 - m) ≤ 128 := this
    omega
  have hy0 : 0 ≤ x * 2 ^ (7 - m) := Int.mul_nonneg hx.1 (by omega)
  have hy1 : x * 2 ^ (7 - m) ≤ 2 ^ (7 - m) := by
    have := Int.mul_le_mul_of_nonneg_right hx.2 (show (0 : Int) ≤ 2 ^ (7 - m) by omega)
    omega
  rw [u8_or _ _ h0 h1 hy0 (by omega)]
  obtain ⟨a, rfl⟩ := Int.eq_ofNat_of_zero_le h0
  obtain ⟨y, hy⟩ := Int.eq_ofNat_of_zero_le hy0
  rw [hy] at hy1 ⊢
  simp only [Int.toNat_natCast]
  have e1 : a % 2 ^ (8 - m) = 0 := by have := hz; exact_mod_cast this
  have e2 : y < 2 ^ (8 - m) := by
    have : (y : Int) < 2 ^ (8 - m) := by omega
    exact_mod_cast this
  rw [nat_join (8 - m) a y e1 e2]; rfl
set_option maxRecDepth 20000 in
set_option maxHeartbeats 4000000 in
theorem line_bits {w0 : World} {B bb n c : Nat} {A : Option Addr} {l bs : List Int} {kind top : Int} (w : World) (HB : Bf w0 w B bb bs) (hB : B ≤ w.heap.size) (HS : Stay w0 B bb A n l) (hk : kind = 4) (hl : ∀ x ∈ l, 0 ≤ x ∧ x ≤ 1) (hn : n ≤ 65536) (hn1 : 1 ≤ n) (hbs : bs.length ≤ 50000000) :
    Calls Tryd.prog 36 #[.pointer (some ⟨bb, 0, none⟩), .slice A n c, .int .i64 kind, .int .i64 top] w fun e w' => e = .returned (.tuple #[]) ∧ Bf w0 w' B bb (bs ++ packL l ((n + 7) / 8)) ∧ B ≤ w'.heap.size := by
  have HBB := Lib.hid HB
  have HBS := Lib.hid hB
  have HSS := Lib.hid HS
  have HLL := Lib.hid hl
  have HLN := Lib.hid (HS w HB.bel HB.oth).len
  have d4 : decide (kind < 4) = false := decide_eq_false (by omega)
  have d5 : (kind == 4) = true := by simp [hk]
  clear HB HS hl hB hk
  go_enter Tryd.func36, Tryd.ntmps36
  go_wp2
  go_loopw [8, 13] (fun se si wr => ∃ (k : Nat) (ev : Int), k ≤ n ∧ si = .int .i64 k ∧ se = .int .u8 ev ∧ Hid (k < n → ev = pkTo l (k / 8) (k % 8)) ∧ Hid (Bf w0 wr B bb (bs ++ packL l (if k = n then (n + 7) / 8 else k / 8))) ∧ Hid (B ≤ wr.heap.size)) (fun _ si _ => n - (intOf si).toNat)
  case atStart => exact ⟨0, 0, by omega, rfl, rfl, fun _ => rfl, by rw [if_neg (by omega)]; rw [show packL l (0 / 8) = [] from rfl, List.append_nil]; exact HBB, HBS⟩
  case round =>
    obtain ⟨k, ev, hk, rfl, rfl, HE, HBR, HSR⟩ := hrel
    by_cases hlt : k < n
    · have d1 : decide ((k : Int) < (n : Int)) = true := decide_eq_true (by omega)
      have HBK : Hid (Bf w0 wr B bb (bs ++ packL l (k / 8))) := by have := HBR.out; rw [if_neg (by omega)] at this; exact this
      clear HBR
      obtain ⟨b3, o3, rfl, hc⟩ := int_at (HSS.out wr HBK.out.bel HBK.out.oth) hlt
      have hx : 0 ≤ l.getD k 0 ∧ l.getD k 0 ≤ 1 := by
        have hk2 : k < l.length := by rw [HLN.out]; exact hlt
        rw [List.getD_eq_getElem?_getD, List.getElem?_eq_getElem hk2]
        exact HLL.out _ (List.getElem_mem hk2)
      obtain ⟨m, hm⟩ : ∃ m, k % 8 = m := ⟨_, rfl⟩
      obtain ⟨b, hb⟩ : ∃ b, k / 8 = b := ⟨_, rfl⟩
      have HKB : Hid (k = 8 * b + m) := by show _ = _; omega
      have hm8 : m < 8 := by omega
      have hpb := pkTo_bd HLL.out b m (by omega)
      have HEV := HE.out hlt
      rw [hm, hb] at HEV
      have hor := bit_or hm8 hpb.1 hpb.2.1 hpb.2.2 hx
      have HNX : Hid (pkTo l b (m + 1) = pkTo l b m + l.getD k 0 * 2 ^ (7 - m)) := by show _ = _; rw [pkTo, ← HKB.out]
      rw [← HNX.out, ← HEV] at hor
      have hm6 : (k : Int) % 8 = (m : Int) := by omega
      have HM := Lib.hid hm
      have HB8 := Lib.hid hb
      have HP := Lib.hid hpb
      have HEW := Lib.hid HEV
      have HX := Lib.hid hx
      generalize l.getD k 0 = x at hc hor hx HX HNX
      clear hm hb hpb HEV
      have hp2 : (2 : Int) ^ (7 - m) ≤ 128 ∧ (0 : Int) ≤ 2 ^ (7 - m) := by
        have := Nat.pow_le_pow_right (n := 2) (by omega) (show 7 - m ≤ 7 by omega)
        have e2 : (2 : Int) ^ (7 - m) = ((2 ^ (7 - m) : Nat) : Int) := by simp
        have h128 : 2 ^ (7 - m) ≤ 128 := this
        rw [e2]
        generalize 2 ^ (7 - m) = q at h128
        exact ⟨by omega, by omega⟩
      have hy0 : 0 ≤ x * 2 ^ (7 - m) := Int.mul_nonneg hx.1 hp2.2
      have hy1 := Int.mul_le_mul_of_nonneg_right hx.2 hp2.2
      have HW : Hid (x % 256 * 2 ^ (7 - m) % 256 = x * 2 ^ (7 - m)) := by
        show _ = _
        rw [show x % 256 = x by omega]
        omega
      have HOR := Lib.hid hor
      clear hy0 hy1 hp2 hx hor
      have HGO : Hid (bits .or .u8 ev (x % 256 * 2 ^ (7 - m) % 256) = pkTo l b (m + 1)) := by show _ = _; rw [HW.out, HOR.out]
      by_cases h7 : m = 7
      · have d7 : ((m : Int) == 7) = true := by simp; omega
        have HT8 : pkTo l b 8 = pkTo l b (m + 1) := by rw [h7]
        have HTP : Hid (bs ++ packL l b ++ [pkTo l b (m + 1)] = bs ++ packL l (b + 1)) := by show _ = _; rw [packL_succ, HT8, List.append_assoc]
        have HNB : Hid ((if k + 1 = n then (n + 7) / 8 else (k + 1) / 8) = b + 1) := by show _ = _; have := HKB.out; split <;> omega
        have HNE : Hid ((k + 1) / 8 = b + 1 ∧ (k + 1) % 8 = 0 ∨ k + 1 = n) := by show _ ∨ _; have := HKB.out; omega
        clear HT8 h7
        go_wp2_with fail
        rw [HGO.out]
        rw [HB8.out] at HBK
        refine (HBK.out.byte HSR.out (by have := HKB.out; rw [List.length_append, packL_len]; omega)).mono ?_
        rintro e w1 ⟨rfl, hb1, hs1⟩
        rw [HTP.out] at hb1
        have HB1 := Lib.hid hb1
        have HS1 := Lib.hid hs1
        clear hb1 hs1 hc
        go_wp2_with fail
        refine ⟨⟨k + 1, 0, by omega, by go_num, by go_num, ?_, ?_, HS1⟩, ?_⟩
        · intro hkn
          rcases HNE.out with h | h
          · rw [h.1, h.2]; rfl
          · omega
        · rw [HNB.out]; exact HB1
        · simp [intOf]; omega
      · have d7 : ((m : Int) == 7) = false := by simp; omega
        by_cases h8 : k + 1 = n
        · have d8 : ((k : Int) == (n : Int) - 1) = true := by simp; omega
          have HT8 : pkTo l b 8 = pkTo l b (m + 1) := by
            have := pkTo_end (l := l) (b := b) (m := m + 1) (by have := HKB.out; have := HLN.out; omega) (7 - m)
            rw [show m + 1 + (7 - m) = 8 by omega] at this
            exact this
          have HTP : Hid (bs ++ packL l b ++ [pkTo l b (m + 1)] = bs ++ packL l (b + 1)) := by show _ = _; rw [packL_succ, HT8, List.append_assoc]
          have HNB : Hid ((if k + 1 = n then (n + 7) / 8 else (k + 1) / 8) = b + 1) := by show _ = _; have := HKB.out; split <;> omega
          have HNE : Hid ((k + 1) / 8 = b + 1 ∧ (k + 1) % 8 = 0 ∨ k + 1 = n) := by show _ ∨ _; have := HKB.out; omega
          clear HT8 h8
          go_wp2_with fail
          rw [HGO.out]
          rw [HB8.out] at HBK
          refine (HBK.out.byte HSR.out (by have := HKB.out; rw [List.length_append, packL_len]; omega)).mono ?_
          rintro e w1 ⟨rfl, hb1, hs1⟩
          rw [HTP.out] at hb1
          have HB1 := Lib.hid hb1
          have HS1 := Lib.hid hs1
          clear hb1 hs1 hc
          go_wp2_with fail
          refine ⟨⟨k + 1, 0, by omega, by go_num, by go_num, ?_, ?_, HS1⟩, ?_⟩
          · intro hkn
            rcases HNE.out with h | h
            · rw [h.1, h.2]; rfl
            · omega
          · rw [HNB.out]; exact HB1
          · simp [intOf]; omega
        · have d8 : ((k : Int) == (n : Int) - 1) = false := by simp; omega
          have HNE : Hid ((k + 1) / 8 = b ∧ (k + 1) % 8 = m + 1) := by show _ ∧ _; have := HKB.out; omega
          have HNB : Hid ((if k + 1 = n then (n + 7) / 8 else (k + 1) / 8) = b) := by show _ = _; rw [if_neg h8]; exact HNE.out.1
          go_wp2_with fail
          rw [HB8.out] at HBK
          refine ⟨⟨k + 1, _, by omega, by go_num, rfl, ?_, ?_, HSR⟩, ?_⟩
          · intro hkn
            rw [HNE.out.1, HNE.out.2]; exact HGO.out
          · rw [HNB.out]; exact HBK
          · simp [intOf]; omega
    · obtain rfl : k = n := by omega
      have d1 : decide ((k : Int) < (k : Int)) = false := by simp
      have HBK : Hid (Bf w0 wr B bb (bs ++ packL l ((k + 7) / 8))) := by have := HBR.out; rw [if_pos rfl] at this; exact this
      go_wp2_with fail
      go_end0
      exact ⟨rfl, HBK.out, HSR.out⟩
/-- a row, by the kind of file -/
def lineI (l : List Int) (kind top : Int) (n : Nat) : List Int :=
  if kind < 4 then textL l n ++ [10] else if kind = 4 then packL l ((n + 7) / 8) else valsL l top n
theorem line_any {w0 : World} {B bb n c : Nat} {A : Option Addr} {l bs : List Int} {kind top : Int} (w : World) (HB : Bf w0 w B bb bs) (hB : B ≤ w.heap.size) (HS : Stay w0 B bb A n l) (HV : Vars w0) (hvb : vb ≤ B) (hl : ∀ x ∈ l, 0 ≤ x ∧ x ≤ 65535) (hl1 : kind = 4 → ∀ x ∈ l, x ≤ 1) (hn : n ≤ 65536) (hn1 : 1 ≤ n) (hbs : bs.length ≤ 50000000) :
    Calls Tryd.prog 36 #[.pointer (some ⟨bb, 0, none⟩), .slice A n c, .int .i64 kind, .int .i64 top] w fun e w' => e = .returned (.tuple #[]) ∧ Bf w0 w' B bb (bs ++ lineI l kind top n) ∧ B ≤ w'.heap.size := by
  unfold lineI
  by_cases h1 : kind < 4
  · rw [if_pos h1]; exact line_text w HB hB HS HV hvb h1 hl hn hbs
  rw [if_neg h1]
  by_cases h2 : kind = 4
  · rw [if_pos h2]; exact line_bits w HB hB HS h2 (fun x hx => ⟨(hl x hx).1, hl1 h2 x hx⟩) hn hn1 hbs
  · rw [if_neg h2]; exact line_vals w HB hB HS (by omega) hl hn hbs
end Go.Proofs.YtbmlopklhgladaaDoor.Pnm
