/-
  Walks: the reference's At, Fill, Put.
-/
import Derived.Test.YtogmlcgiajigfaaAroI
import Derived.BigRegion
import Derived.Deep.RegionHeld3
set_option linter.unusedVariables false
set_option linter.unusedSimpArgs false
namespace Go.Proofs.Ytogmlcgiajigfaa.Ard
open Go.RowKit K

def pixL (pix : List Int) (q : Nat) : List Int := [pix.getD q 0, pix.getD (q + 1) 0, pix.getD (q + 2) 0, pix.getD (q + 3) 0]
def ColP (w : World) (l : List Int) (e : Ending) (w' : World) : Prop := e = .returned (.tuple #[.agg (colC (l.getD 0 0) (l.getD 1 0) (l.getD 2 0) (l.getD 3 0)), .bool true]) ∧ Below w.heap.size w w'
set_option maxRecDepth 20000 in
set_option maxHeartbeats 2000000 in
theorem at9_any {W H x y pn pc : Nat} {P : Option Addr} {pix : List Int} (w : World) (HP : SI w .u16 P pn pix) (hg : GoodP W H pn) (hx : x < W) (hy : y < H) :
    Calls Try.prog 28 #[.agg #[.int .i64 W, .int .i64 H, .slice P pn pc], .int .i64 x, .int .i64 y] w (ColP w (pixL pix (4 * (y * W + x)))) := by
  have hbig : pn ≤ 140737488351232 := by have := HP.sz; simp only [kb] at this; omega
  have HG : Hid (∀ V, Calls Try.prog 25 #[.agg #[.int .i64 W, .int .i64 H, .slice P pn pc]] V (TestP V true)) := fun V => by have := rgood_any (W := W) (H := H) (P := P) (pc := pc) V hbig; rwa [decide_eq_true hg] at this
  obtain ⟨W0, hW0, r0, r1, hs, hb⟩ := two_allocs w (.cells #[.int .i64 W, .int .i64 H, .slice P pn pc] 37) (.cells (colC 0 0 0 0) 55)
  obtain ⟨hF, hpe⟩ := hg
  unfold FitsP at hF
  have hpn : pn = 4 * W * H := by have : ((4 * W * H : Nat) : Int) = 4 * (W : Int) * (H : Int) := by push_cast; rfl
                                  omega
  have hW : W ≤ 4096 := by omega
  have hH : H ≤ 4096 := by omega
  have HPX : Hid (∀ V, Below w.heap.size w V → Calls Try.prog 40 #[.agg #[.int .i64 W, .int .i64 H, .slice P pn pc], .int .i64 x, .int .i64 y] V fun e w' => Below V.heap.size V w' ∧
      e = .returned (.agg #[.int .u16 (pix.getD (4 * (y * W + x)) 0), .int .u16 (pix.getD (4 * (y * W + x) + 1) 0), .int .u16 (pix.getD (4 * (y * W + x) + 2) 0), .int .u16 (pix.getD (4 * (y * W + x) + 3) 0)])) :=
    fun V hV => pixel_any V (HP.below hV (Nat.le_refl _)) hpn hW hH hx hy
  have d1 : decide ((x : Int) < 0) = false := decide_eq_false (by omega)
  have d2 : decide ((y : Int) < 0) = false := decide_eq_false (by omega)
  have d3 : decide (W ≤ x) = false := decide_eq_false (by omega)
  have d4 : decide (H ≤ y) = false := decide_eq_false (by omega)
  have R0 := Lib.hid r0
  have R1 := Lib.hid r1
  have HB := Lib.hid hb
  have HS := Lib.hid hs
  generalize 4 * (y * W + x) = q at HPX ⊢
  unfold pixL ColP
  simp only [List.getD_cons_zero, List.getD_cons_succ]
  generalize pix.getD q 0 = v0 at *
  generalize pix.getD (q + 1) 0 = v1 at *
  generalize pix.getD (q + 2) 0 = v2 at *
  generalize pix.getD (q + 3) 0 = v3 at *
  have x0 := row_cell r0 0
  have x1 := row_cell r0 1
  have x2 := row_cell r0 2
  clear hpn hpe hF hW hH hx hy HP hbig hb hs r0 r1
  unfold colC at hW0
  go_enter Try.func28, Try.ntmps28
  go_wp2_with fail
  refine (HG.out W0).mono ?_
  rintro e w1 ⟨rfl, hb1⟩
  have R0b : Hid (w1.heap[w.heap.size]? = some (.cells #[.int .i64 W, .int .i64 H, .slice P pn pc] 37 (0, 0))) := (hb1.block _ (by have := HS.out; omega)).trans R0.out
  have R1b : Hid (w1.heap[w.heap.size + 1]? = some (.cells (colC 0 0 0 0) 55 (0, 0))) := (hb1.block _ (by have := HS.out; omega)).trans R1.out
  have HB1 : Hid (Below w.heap.size w w1) := HB.out.trans (hb1.mono HB.out.size)
  have HS1 : Hid (w.heap.size + 2 ≤ w1.heap.size) := by show _ ≤ _; have := hb1.size; have := HS.out; omega
  have z0 := row_cell R0b.out 0
  have z1 := row_cell R0b.out 1
  have z2 := row_cell R0b.out 2
  clear x0 x1 x2 hb1 hW0 R0 R1 HB HS
  go_wp2_with fail
  refine (HPX.out w1 HB1.out).mono ?_
  rintro e w2 ⟨hb2, rfl⟩
  have R1c : Hid (w2.heap[w.heap.size + 1]? = some (.cells (colC 0 0 0 0) 55 (0, 0))) := (hb2.block _ (by have := HS1.out; omega)).trans R1b.out
  have HB2 : Hid (Below w.heap.size w w2) := HB1.out.trans (hb2.mono HB1.out.size)
  have HOI : Hid ((#[.int .u16 v0, .int .u16 v1, .int .u16 v2, .int .u16 v3] : Array Value).all (·.oneCell') = true) := by show _ = _; simp [Value.oneCell']
  clear hb2
  go_wp2_with (refine wpList_store_row rfl 55 (.tmp 6) (.tmp 35) rfl (w.heap.size + 1) #[.int .u16 v0, .int .u16 v1, .int .u16 v2, .int .u16 v3] rfl rfl 55 (colC 0 0 0 0) R1c.out colInfo rfl HOI.out ?_)
  refine bodyPost_ret (results_row_tmp rfl _ _ (w.heap.size + 1) 55 _ (0, 0) _ rfl (setRow_heap _ _ _ _ _ _ R1c.out) Try.underlying55 rfl colInfo) rfl ?_
  exact ⟨rfl, below_setRow HB2.out (Nat.le_add_right _ _) _⟩
def fillL (c : List Int) (k : Nat) : List Int := (List.replicate k c).flatten
theorem fillL_succ (c : List Int) (k : Nat) : fillL c (k + 1) = fillL c k ++ c := by unfold fillL; rw [List.replicate_succ', List.flatten_append]; simp
theorem fillL_len (r g b a : Int) (k : Nat) : (fillL [r, g, b, a] k).length = 4 * k := by
  induction k with
  | zero => rfl
  | succ k ih => rw [fillL_succ, List.length_append, ih]; simp; omega
/-- an image that is being filled -/
structure Fz (w wr : World) (W H r g b a : Int) (k : Nat) (A : Option Addr) (c : Nat) : Prop where
  bel : Below w.heap.size w wr
  clr : wr.heap[w.heap.size]? = some (.cells (colC r g b a) 55 (0, 0))
  res : wr.heap[w.heap.size + 1]? = some (.cells zimg 37 (0, 0))
  img : wr.heap[w.heap.size + 2]? = some (.cells #[.int .i64 W, .int .i64 H, .slice A (4 * k) c] 37 (0, 0))
  own : wr.ownsRow w.heap.size 53 1 (.slice A (4 * k) c) (4 * k) ((fillL [r, g, b, a] k).map (.int .u16))
theorem Fz.step {w wr w2 : World} {W H r g b a : Int} {k c g2 c2 : Nat} {A : Option Addr} (h : Fz w wr W H r g b a k A c) (hown : w2.ownsRow w.heap.size 53 1 (.slice (some ⟨g2, 0, none⟩) (4 * k + 4) c2) (4 * k + 4) ((fillL [r, g, b, a] k ++ [r, g, b, a]).map (.int .u16)))
    (hg : wr.grownBy w2 (Value.slice A (4 * k) c).ownBlock) : w2.heap[w.heap.size + 2]? = some (.cells #[.int .i64 W, .int .i64 H, .slice A (4 * k) c] 37 (0, 0)) ∧ Fz w (w2.setRow (w.heap.size + 2) #[.int .i64 W, .int .i64 H, .slice (some ⟨g2, 0, none⟩) (4 * (k + 1)) c2]) W H r g b a (k + 1) (some ⟨g2, 0, none⟩) c2 := by
  have hin : ∀ {i : Nat} {o : Obj}, wr.heap[i]? = some o → i < wr.heap.size := fun h => (Array.getElem?_eq_some_iff.1 h).1
  have h1 := (hg.block _ (hin h.clr) (own_ne h.own h.clr (by decide))).trans h.clr
  have h2 := (hg.block _ (hin h.res) (own_ne h.own h.res (by decide))).trans h.res
  have h3 := (hg.block _ (hin h.img) (own_ne h.own h.img (by decide))).trans h.img
  refine ⟨h3, below_setRow (h.bel.grown hg h.bel.size (fun b e => (h.own.lt b e).1)) (by omega) _, ?_, ?_, setRow_heap _ _ _ _ _ _ h3, ?_⟩
  · exact (setRow_other _ _ _ _ (by omega)).trans h1
  · exact (setRow_other _ _ _ _ (by omega)).trans h2
  · rw [fillL_succ]
    exact hown.kept (grown_row _ _ _) (.inr (own_ne hown h3 (by decide)).symm)
set_option maxRecDepth 20000 in
set_option maxHeartbeats 2000000 in
theorem fill9_any {W H : Nat} {r g b a : Int} (w : World) (hW : 1 ≤ W ∧ W ≤ 16) (hH : 1 ≤ H ∧ H ≤ 16) :
    Calls Try.prog 27 #[.int .i64 W, .int .i64 H, .agg #[.int .u16 r, .int .u16 g, .int .u16 b, .int .u16 a]] w (ImgP w W H (fillL [r, g, b, a] (W * H)) 0) := by
  have hm : W * H ≤ 256 := Nat.mul_le_mul hW.2 hH.2
  have hF : FitsP W H := by
    have h2 : (W : Int) * (H : Int) = ((W * H : Nat) : Int) := (Int.natCast_mul _ _).symm
    unfold FitsP; rw [h2]; omega
  have HFT : Hid (∀ V, Calls Try.prog 41 #[.int .i64 W, .int .i64 H] V fun e w' => e = .returned (.bool true) ∧ V = w') := fun V => by have := fits_any (W := W) (H := H) V; rwa [decide_eq_true hF] at this
  obtain ⟨m, hmd⟩ : ∃ m, W * H = m := ⟨_, rfl⟩
  have HWM : Hid (wrap64 ((W : Int) * (H : Int)) = (m : Int)) := by
    show _ = _
    have h2 : (W : Int) * (H : Int) = ((W * H : Nat) : Int) := (Int.natCast_mul _ _).symm
    rw [h2, hmd]; exact IntWalk.wrap64_in _ (by omega)
  rw [hmd] at hm ⊢
  clear hmd hF hW hH
  obtain ⟨W0, hW0, r0, r1, r2, hs, hb⟩ := three_allocs w (.cells (colC r g b a) 55) (.cells zimg 37) (.cells zimg 37)
  have R2 := Lib.hid r2
  have HF0 : Hid (Fz w (W0.setRow (w.heap.size + 2) #[.int .i64 W, .int .i64 H, .slice none 0 0]) W H r g b a 0 none 0) :=
    ⟨below_setRow hb (by omega) _, (setRow_other _ _ _ _ (by omega)).trans r0, (setRow_other _ _ _ _ (by omega)).trans r1, setRow_heap _ _ _ _ _ _ r2, World.ownsRow_nil _ _ _ _⟩
  have HOI : Hid ((#[.int .i64 W, .int .i64 H, .slice none 0 0] : Array Value).all (·.oneCell') = true) := by show _ = _; simp [Value.oneCell']
  clear r0 r1 r2 hs hb
  unfold colC zimg at hW0
  go_enter Try.func27, Try.ntmps27
  go_wp2_with fail
  refine (HFT.out _).mono ?_
  rintro e w' ⟨rfl, rfl⟩
  go_upto_region 3 with (fail)
  go_wp2_with (refine wpList_store_row rfl 37 (.tmp 8) (.tmp 17) rfl (w.heap.size + 2) #[.int .i64 W, .int .i64 H, .slice none 0 0] rfl rfl 37 zimg R2.out imgInfo rfl HOI.out ?_)
  clear hW0 R2 HOI HFT
  go_loopw [9] (fun s9 wr => ∃ (k : Nat) (A : Option Addr) (c : Nat), k ≤ m ∧ s9 = .int .i64 k ∧ Fz w wr W H r g b a k A c) (fun s9 _ => m - (intOf s9).toNat)
  case atStart => exact ⟨0, none, 0, by omega, rfl, HF0.out⟩
  case round =>
    clear HF0
    obtain ⟨k, A, c, hk, rfl, hf⟩ := hrel
    have HFZ := Lib.hid hf
    have hsz := hf.bel.size
    have x0 := row_cell hf.img 0
    have x1 := row_cell hf.img 1
    have x2 := row_cell hf.img 2
    clear hf
    by_cases hlt : k < m
    · have HLT := Lib.hid hlt
      have d0 : decide ((k : Int) < (m : Int)) = true := decide_eq_true (by omega)
      have e0 : decide (k < m) = true := decide_eq_true hlt
      have y0 : wr.cell? ⟨w.heap.size, 0, none⟩ = some (.int .u16 r) := row_cell HFZ.out.clr 0
      have y1 : wr.cell? ⟨w.heap.size, 1, none⟩ = some (.int .u16 g) := row_cell HFZ.out.clr 1
      have y2 : wr.cell? ⟨w.heap.size, 2, none⟩ = some (.int .u16 b) := row_cell HFZ.out.clr 2
      have y3 : wr.cell? ⟨w.heap.size, 3, none⟩ = some (.int .u16 a) := row_cell HFZ.out.clr 3
      have HWJ : Hid (wrap64 ((k : Int) + 1) = ((k + 1 : Nat) : Int)) := by show _ = _; rw [IntWalk.wrap64_in _ (by omega)]; rfl
      have HADD : Hid (Calls Try.prog 39 #[.agg #[.int .i64 W, .int .i64 H, .slice A (4 * k) c], .agg #[.int .u16 r, .int .u16 g, .int .u16 b, .int .u16 a]] wr (AddP w.heap.size wr W H A (4 * k) c (fillL [r, g, b, a] k ++ [r, g, b, a]))) := add_any wr HFZ.out.own (by omega) hsz
      have hwm := HWM.out
      clear hlt
      go_wp2_with fail
      clear hwm
      refine HADD.out.mono ?_
      rintro e w2 ⟨g2, c2, rfl, hown, hgr, -, -⟩
      obtain ⟨h1, h2⟩ := HFZ.out.step hown hgr
      have H1 := Lib.hid h1
      have H2 := Lib.hid h2
      have HOI : Hid ((#[.int .i64 W, .int .i64 H, .slice (some ⟨g2, 0, none⟩) (4 * k + 4) c2] : Array Value).all (·.oneCell') = true) := by show _ = _; simp [Value.oneCell']
      clear h1 h2 hown hgr HADD HFZ x0 x1 x2 y0 y1 y2 y3
      go_wp2_with (refine wpList_store_row rfl 37 (.tmp 8) (.tmp 27) rfl (w.heap.size + 2) #[.int .i64 W, .int .i64 H, .slice (some ⟨g2, 0, none⟩) (4 * k + 4) c2] rfl rfl 37 _ H1.out imgInfo rfl HOI.out ?_)
      go_roundw
      case rel => exact ⟨k + 1, _, c2, HLT.out, by first | rw [HWJ.out] | rfl, H2.out⟩
      case measure => have := HLT.out; simp [intOf]; omega
    · obtain rfl : k = m := by omega
      have d0 : decide ((k : Int) < (k : Int)) = false := by simp
      have HOI : Hid ((#[.int .i64 W, .int .i64 H, .slice A (4 * k) c] : Array Value).all (·.oneCell') = true) := by show _ = _; simp [Value.oneCell']
      have hwm := HWM.out
      clear hlt
      go_wp2_with (refine wpList_store_row rfl 37 (.tmp 6) (.tmp 28) rfl (w.heap.size + 1) #[.int .i64 W, .int .i64 H, .slice A (4 * k) c] rfl rfl 37 zimg HFZ.out.res imgInfo rfl HOI.out ?_)
      refine bodyPost_ret (results_row_tmp rfl _ _ (w.heap.size + 1) 37 #[.int .i64 W, .int .i64 H, .slice A (4 * k) c] (0, 0) _ rfl (setRow_heap _ _ _ _ _ _ HFZ.out.res) Try.underlying37 rfl imgInfo) rfl ?_
      refine ⟨below_setRow HFZ.out.bel (by omega) _, A, c, by rw [fillL_len]; rfl, ?_⟩
      rw [fillL_len]
      exact HFZ.out.own.kept (grown_row _ _ _) (.inr (own_ne HFZ.out.own HFZ.out.res (by decide)).symm)
/-- an owned image of which the four samples from q on may be others -/
def PutR (base g pc q : Nat) (w0 : World) (pix : List Int) (w : World) : Prop :=
  ∃ l : List Int, w.ownsRow base 53 1 (.slice (some ⟨g, 0, none⟩) pix.length pc) pix.length (l.map (.int .u16)) ∧ (∀ t, t < q ∨ q + 4 ≤ t → l[t]? = pix[t]?) ∧ (∀ v ∈ l, 0 ≤ v ∧ v < 65536) ∧ w0.grownBy w (some g)
theorem own_setJ {w : World} {base e g n c i : Nat} {xs : List Value} {v : Value} (h : w.ownsRow base e 1 (.slice (some ⟨g, 0, none⟩) n c) n xs) : (w.setCell ⟨g, i, none⟩ v).ownsRow base e 1 (.slice (some ⟨g, 0, none⟩) n c) n (xs.set i v) := by
  refine ⟨by have := h.1; simpa using this, ?_⟩
  rcases h.2 with ⟨hv, -⟩ | ⟨g', cap, cur, hv, h1, h2, h3, h4, h5, h6⟩
  · cases hv
  · injection hv with e1 e2 e3
    injection e1 with e1
    injection e1 with e1
    subst e1 e3
    refine .inr ⟨g, c, cur.setIfInBounds i v, rfl, h1, ?_, h3, h4, by simpa using h5, ?_⟩
    · rw [setCell_eq_setRow w g i cur e (0, 0) v h2]; exact setRow_heap _ _ _ _ _ _ h2
    · rw [Array.toList_setIfInBounds, List.take_set, h6]
theorem PutR.set {base g pc q i : Nat} {w0 w : World} {pix : List Int} {v : Int} (h : PutR base g pc q w0 pix w) (h1 : q ≤ i) (h2 : i < q + 4) (hv : 0 ≤ v ∧ v < 65536) : PutR base g pc q w0 pix (w.setCell ⟨g, i, none⟩ (.int .u16 v)) := by
  obtain ⟨l, ho, hl, hw, hb⟩ := h
  refine ⟨l.set i v, ?_, ?_, ?_, grown_set hb i _⟩
  · rw [List.map_set]; exact own_setJ ho
  · intro t ht
    rw [List.getElem?_set_ne (by omega)]
    exact hl t ht
  · intro x hx
    rcases List.mem_or_eq_of_mem_set hx with h | rfl
    · exact hw x h
    · exact hv
theorem PutR.drew {base g pc q : Nat} {w0 w : World} {pix : List Int} (h : PutR base g pc q w0 pix w) : PutR base g pc q w0 pix w.drew := by
  obtain ⟨l, ho, hl, hw, hb⟩ := h
  exact ⟨l, ho, hl, hw, grown_drew hb⟩
set_option maxRecDepth 20000 in
set_option maxHeartbeats 4000000 in
/-- a pixel of an owned image is set -/
theorem put_any {W H x y pc g base : Nat} {r gg b a : Int} {pix : List Int} (w : World) (hown : w.ownsRow base 53 1 (.slice (some ⟨g, 0, none⟩) pix.length pc) pix.length (pix.map (.int .u16))) (hwv : ∀ v ∈ pix, 0 ≤ v ∧ v < 65536) (hpn : pix.length = 4 * W * H) (hW : W ≤ 4096) (hH : H ≤ 4096) (hx : x < W) (hy : y < H)
    (hr : 0 ≤ r ∧ r < 65536) (hgg : 0 ≤ gg ∧ gg < 65536) (hbb : 0 ≤ b ∧ b < 65536) (haa : 0 ≤ a ∧ a < 65536) (hbase : base ≤ w.heap.size) :
    Calls Try.prog 26 #[.agg #[.int .i64 W, .int .i64 H, .slice (some ⟨g, 0, none⟩) pix.length pc], .int .i64 x, .int .i64 y, .agg #[.int .u16 r, .int .u16 gg, .int .u16 b, .int .u16 a]] w fun e w' => e = .returned (.tuple #[]) ∧ PutR base g pc (4 * (y * W + x)) w pix w' := by
  obtain ⟨W0, hW0, r0, r1, hs, hb⟩ := two_allocs w (.cells #[.int .i64 W, .int .i64 H, .slice (some ⟨g, 0, none⟩) pix.length pc] 37) (.cells (colC r gg b a) 55)
  obtain ⟨hpl, hp2⟩ := pix_place hpn hW hH hx hy
  obtain ⟨f1, f2, f3⟩ := pix_wraps hpn hW hH hx hy
  obtain ⟨q, hq⟩ : ∃ q, 4 * (y * W + x) = q := ⟨_, rfl⟩
  rw [hq] at hpl f3 ⊢
  clear hq hpn hW hH hx hy
  obtain ⟨y1, hy1⟩ : ∃ m, y * W = m := ⟨_, rfl⟩
  rw [hy1] at f1 f2 f3
  obtain ⟨y2, hy2⟩ : ∃ m, y1 + x = m := ⟨_, rfl⟩
  rw [hy2] at f2 f3
  clear hy1 hy2
  have F1 := Lib.hid f1
  have F2 := Lib.hid f2
  have F3 := Lib.hid f3
  clear f1 f2 f3
  have HPU : Hid (PutR base g pc q w pix W0) := ⟨pix, own_b hown hb, fun _ _ => rfl, hwv, grown_below hb _⟩
  have HRR := Lib.hid hr
  have HGG := Lib.hid hgg
  have HBB := Lib.hid hbb
  have HAA := Lib.hid haa
  have x0 : W0.cell? ⟨w.heap.size, 0, none⟩ = some (.int .i64 W) := row_cell r0 0
  have x2 : W0.cell? ⟨w.heap.size, 2, none⟩ = some (.slice (some ⟨g, 0, none⟩) pix.length pc) := row_cell r0 2
  have z0 : W0.cell? ⟨w.heap.size + 1, 0, none⟩ = some (.int .u16 r) := row_cell r1 0
  have z1 : W0.cell? ⟨w.heap.size + 1, 1, none⟩ = some (.int .u16 gg) := row_cell r1 1
  have z2 : W0.cell? ⟨w.heap.size + 1, 2, none⟩ = some (.int .u16 b) := row_cell r1 2
  have z3 : W0.cell? ⟨w.heap.size + 1, 3, none⟩ = some (.int .u16 a) := row_cell r1 3
  have hgw : g < w.heap.size := by
    rcases hown.2 with ⟨hv, -⟩ | ⟨g', cap, cur, hv, h1, h2, -⟩
    · cases hv
    · injection hv with e1; injection e1 with e1; injection e1 with e1; subst e1; exact (Array.getElem?_eq_some_iff.1 h2).1
  have hc0 : ∀ i, i < pix.length → ∃ v, W0.cell? ⟨g, i, none⟩ = some v := fun i hi =>
    ⟨_, by rw [(own_b hown hb).cellAt (g := g) i (by omega), List.getElem?_map, List.getElem?_eq_getElem (by omega)]; rfl⟩
  have q0 := (own_b hown hb).frozenAt q
  have q1 := (own_b hown hb).frozenAt (q + 1)
  have q2 := (own_b hown hb).frozenAt (q + 2)
  have q3 := (own_b hown hb).frozenAt (q + 3)
  obtain ⟨u0, v0⟩ := hc0 q (by omega)
  obtain ⟨u1, v1⟩ := hc0 (q + 1) (by omega)
  obtain ⟨u2, v2⟩ := hc0 (q + 2) (by omega)
  obtain ⟨u3, v3⟩ := hc0 (q + 3) (by omega)
  have ne1 : ¬ w.heap.size = g := by omega
  have ne2 : ¬ w.heap.size + 1 = g := by omega
  have ne3 : ¬ g = w.heap.size := by omega
  have ne4 : ¬ g = w.heap.size + 1 := by omega
  have i0 : (0 : Int) ≤ (q : Int) := by omega
  have j0 : (q : Int) < (pix.length : Int) := by omega
  have i1 : (0 : Int) ≤ (q : Int) + 1 := by omega
  have j1 : (q : Int) + 1 < (pix.length : Int) := by omega
  have i2 : (0 : Int) ≤ (q : Int) + 2 := by omega
  have j2 : (q : Int) + 2 < (pix.length : Int) := by omega
  have i3 : (0 : Int) ≤ (q : Int) + 3 := by omega
  have j3 : (q : Int) + 3 < (pix.length : Int) := by omega
  have t1 : ((q : Int) + 1).toNat = q + 1 := by omega
  have t2 : ((q : Int) + 2).toNat = q + 2 := by omega
  have t3 : ((q : Int) + 3).toNat = q + 3 := by omega
  have a1 : IntKind.i64.wrap ((q : Int) + 1) = (q : Int) + 1 := IntWalk.i64_in _ (by omega)
  have a2 : IntKind.i64.wrap ((q : Int) + 2) = (q : Int) + 2 := IntWalk.i64_in _ (by omega)
  have a3 : IntKind.i64.wrap ((q : Int) + 3) = (q : Int) + 3 := IntWalk.i64_in _ (by omega)
  clear hown hb hs r0 r1 hc0 hwv hbase hr hgg hbb haa hpl hp2
  generalize pix.length = pn at *
  have f1 := F1.out
  have f2 := F2.out
  unfold colC at hW0
  go_enter Try.func26, Try.ntmps26
  go_upto_region 2 with (fail)
  try rw [hW0]
  rw [F3.out]
  clear hW0 F1 F2 F3 f1 f2 x0
  go_region_held3 (fun w' => w'.cell? ⟨w.heap.size, 2, none⟩ = some (.slice (some ⟨g, 0, none⟩) pn pc) ∧ w'.cell? ⟨w.heap.size + 1, 0, none⟩ = some (.int .u16 r) ∧ w'.cell? ⟨w.heap.size + 1, 1, none⟩ = some (.int .u16 gg) ∧ w'.cell? ⟨w.heap.size + 1, 2, none⟩ = some (.int .u16 b) ∧ w'.cell? ⟨w.heap.size + 1, 3, none⟩ = some (.int .u16 a)) (go_keep) (fail)
  try refine NoPanic.normal ?_
  have HFIN := (((HPU.out.drew.set (i := q) (by omega) (by omega) HRR.out).set (i := q + 1) (by omega) (by omega) HGG.out).set (i := q + 2) (by omega) (by omega) HBB.out).set (i := q + 3) (by omega) (by omega) HAA.out
  go_wp2
  go_end0
  exact ⟨rfl, HFIN⟩
end Go.Proofs.Ytogmlcgiajigfaa.Ard
