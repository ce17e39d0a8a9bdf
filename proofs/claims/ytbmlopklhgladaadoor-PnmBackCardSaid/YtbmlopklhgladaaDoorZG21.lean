/-
  Plain: the round trip's samples; the walk of Round.
-/
import Derived.Test.YtbmlopklhgladaaDoorZG16
import Derived.Test.YtbmlopklhgladaaDoorZG18
import Derived.Test.YtbmlopklhgladaaDoorZG19
set_option linter.unusedVariables false
set_option linter.unusedSimpArgs false
namespace Go.Proofs.YtbmlopklhgladaaDoor.Pnm
open Go.RowKit K Ian Ard

/-- what a sample is read as again -/
def wantI (kind top : Int) (r g b : Int) (k : Nat) : Int :=
  if kind = 1 ∨ kind = 4 then (if lumaI r g b < 32768 then 0 else 65535)
  else upI (downI (if kind = 3 ∨ kind = 6 then [r, g, b].getD k 0 else lumaI r g b) top) top
theorem back_at {pix : List Int} {kind top : Int} {W H : Nat} (k1 : 1 ≤ kind) (k2 : kind ≤ 6) {i k : Nat} (hi : i < W * H) (hk : k < 3) :
    (pixM (ssN pix kind top (H * W)) kind (topR kind top) (eachOf kind) (W * H)).getD (4 * i + k) 0 = wantI kind top (pix.getD (4 * i) 0) (pix.getD (4 * i + 1) 0) (pix.getD (4 * i + 2) 0) k := by
  have hf := (flatG (pix4 (ssN pix kind top (H * W)) kind (topR kind top) (eachOf kind)) 4 (W * H) (fun _ _ => rfl)).2 i k hi (by omega)
  unfold pixM
  rw [hf]
  have hs := (ssN_at (pix := pix) (top := top) k1 k2 (H * W)).2 i (k % eachOf kind) (by rw [Nat.mul_comm]; exact hi) (Nat.mod_lt _ (each_bd kind).1)
  have h4 : (pix4 (ssN pix kind top (H * W)) kind (topR kind top) (eachOf kind) i).getD k 0 = smp3 (ssN pix kind top (H * W)) kind (topR kind top) (eachOf kind) i k := by
    unfold pix4
    rcases (by omega : k = 0 ∨ k = 1 ∨ k = 2) with rfl | rfl | rfl <;> rfl
  rw [h4]
  unfold smp3
  rw [hs]
  unfold pxS smpsI wantI topR
  by_cases h1 : kind = 1 ∨ kind = 4
  · have he : eachOf kind = 1 := by unfold eachOf; rw [if_neg (by omega)]
    rw [if_pos h1, if_pos h1, if_pos h1, if_pos h1, he, Nat.mod_one]
    by_cases hl : lumaI (pix.getD (4 * i) 0) (pix.getD (4 * i + 1) 0) (pix.getD (4 * i + 2) 0) < 32768
    · rw [if_pos hl, if_pos hl]; rfl
    · rw [if_neg hl, if_neg hl]; rfl
  · rw [if_neg h1, if_neg h1, if_neg h1, if_neg h1]
    by_cases h2 : kind = 2 ∨ kind = 5
    · have he : eachOf kind = 1 := by unfold eachOf; rw [if_neg (by omega)]
      rw [if_pos h2, if_neg (show ¬ (kind = 3 ∨ kind = 6) by omega), he, Nat.mod_one]
      rfl
    · have he : eachOf kind = 3 := by unfold eachOf; rw [if_pos (by omega)]
      rw [if_neg h2, if_pos (show kind = 3 ∨ kind = 6 by omega), he]
      rcases (by omega : k = 0 ∨ k = 1 ∨ k = 2) with rfl | rfl | rfl <;> rfl
theorem back_a {L : List Int} {kind top : Int} {each n i : Nat} (hi : i < n) : (pixM L kind top each n).getD (4 * i + 3) 0 = 65535 := by
  have hf := (flatG (pix4 L kind top each) 4 n (fun _ _ => rfl)).2 i 3 hi (by omega)
  unfold pixM
  rw [hf]
  rfl
theorem upI_u16 {v top : Int} (t1 : 1 ≤ top) : 0 ≤ upI v top ∧ upI v top < 65536 := by
  unfold upI
  split
  · omega
  · exact upI_bd t1 (by omega) (by omega)
set_option maxHeartbeats 1000000 in
theorem round_any {v top : Int} (w : World) (hv : 0 ≤ v ∧ v < 65536) (t1 : 1 ≤ top) (t2 : top ≤ 65535) :
    Calls Tryd.prog 19 #[.int .u16 v, .int .i64 top] w fun e w' => e = .returned (.int .u16 (upI (downI v top) top)) ∧ w = w' := by
  have hd := downI_bd hv t1 t2
  have HD := Lib.hid (rdown_any (v := v) (top := top) w hv t1 t2)
  have HU := Lib.hid (rup_any (v := downI v top) (top := top) w t1 t2 (by omega) (by omega))
  generalize upI (downI v top) top = u at *
  generalize downI v top = d at *
  clear hd
  go_enter Tryd.func19, Tryd.ntmps19
  go_wp2_with fail
  refine HD.out.mono ?_
  rintro e w' ⟨rfl, rfl⟩
  go_wp2_with fail
  refine HU.out.mono ?_
  rintro e w' ⟨⟨er, rfl⟩, rfl⟩
  go_wp2_with fail
  go_ret
  exact ⟨rfl, rfl⟩
end Go.Proofs.YtbmlopklhgladaaDoor.Pnm
