/-
  Walks: the law's wakes.
-/
import Derived.Test.YtogmlcgiajigfaaAroA
import Derived.Test.YtogmlcgiajigfaaAroB
set_option linter.unusedVariables false
set_option linter.unusedSimpArgs false
namespace Go.Proofs.Ytogmlcgiajigfaa.Ard
open Go.RowKit K

def wkPix : List Int := [0, 0, 0, 1, 0, 0, 0, 2, 90, 90, 90, 3]
def wkOut : List Int := (List.range 12).map (outS 1 [1] 3 1 wkPix 0 0 3)
theorem wk_at : wkOut[0]? = some 0 ∧ wkOut[4]? = some 30 ∧ wkOut[8]? = some 60 ∧ wkOut[11]? = some 3 := by decide +kernel
def blurB : ByteArray := ⟨#[98, 108, 117, 114]⟩
def medB : ByteArray := ⟨#[109, 101, 100, 105, 97, 110]⟩
def edgeB : ByteArray := ⟨#[101, 100, 103, 101]⟩
def flyB : ByteArray := ⟨#[102, 108, 121]⟩
theorem wk_check : checkE blurB [1] = 0 ∧ idxF blurB = some 1 ∧ fitsB (bndF 1) [1] = true ∧ checkE medB [3] = 0 ∧ reachE medB [3] = 3 ∧ checkE edgeB [1] = 190 ∧ checkE flyB [] = 8 := by decide +kernel
theorem wk_apply {A P : Option Addr} {c pc : Nat} (w : World) (HA : SI w .i64 A 1 [1]) (HP : SI w .u16 P 12 wkPix) (hpc : 12 ≤ pc) (hpc2 : pc ≤ 9223372036854775807) :
    Calls Try.prog 18 #[.string blurB, .slice A 1 c, .agg #[.int .i64 3, .int .i64 1, .slice P 12 pc]] w (ImgP w 3 1 wkOut 0) := by
  obtain ⟨h1, h2, h3, -⟩ := wk_check
  refine apply_of w fun V hV => ?_
  have := part_ok (op := blurB) (c := c) (W := 3) (H := 1) (X := 0) (Y := 0) (RW := 3) (RH := 1) V (HA.below hV (Nat.le_refl _)) h1 h2 h3 (HP.below hV (Nat.le_refl _)) (by decide) hpc hpc2 (by decide) (by decide)
  exact this
theorem wk_len : wkOut.length = 12 := by decide +kernel
/-- a cell of what is owned -/
theorem own_val {w w' : World} {base n c i : Nat} {A : Option Addr} {l : List Int} {x : Int} (h : w.ownsRow base 53 1 (.slice A n c) n (l.map (.int .u16))) (hl : l[i]? = some x) (hb : Below w.heap.size w w') : ∃ g, A = some ⟨g, 0, none⟩ ∧ w'.cell? ⟨g, i, none⟩ = some (.int .u16 x) := by
  obtain ⟨b, off, e, hc⟩ := Sl.of_own h i (.int .u16 x) (by rw [List.getElem?_map, hl]; rfl)
  rcases h.2 with ⟨hv, hz⟩ | ⟨g, cap, cur, hv, -⟩
  · injection hv with e1
    rw [e] at e1; cases e1
  · injection hv with e1
    rw [e] at e1
    injection e1 with e1
    injection e1 with e1 e2
    subst e1 e2
    rw [Nat.zero_add] at hc
    exact ⟨b, e, (hb.cell (p := ⟨b, i, none⟩) (World.block_lt_of_cell? w _ hc)).trans hc⟩
set_option maxHeartbeats 2000000 in
theorem wakes_any (w : World) : Calls Try.prog 10 #[] w (TestP w true) := by
  go_enter Try.func10, Try.ntmps10
  go_wp2_with fail
  obtain ⟨wA, hwA⟩ : ∃ wA, (w.alloc (.cells (wkPix.map (Value.int .u16)).toArray 53)).alloc (.cells #[.int .i64 3, .int .i64 1, .slice (some ⟨w.heap.size, 0, none⟩) 12 12] 37) = wA := ⟨_, rfl⟩
  have hsA : wA.heap.size = w.heap.size + 1 + 1 := by rw [← hwA]; simp
  have SP : Hid (SI wA .u16 (some ⟨w.heap.size, 0, none⟩) 12 wkPix) := by
    show SI _ _ _ _ _
    rw [← hwA]; exact (SI.lit0 w .u16 wkPix 53 (by decide)).alloc _
  have HBA : Hid (Below w.heap.size w wA) := by
    show Below _ _ _
    rw [← hwA]; exact ((Below.refl _ w).alloc (Nat.le_refl _) _).alloc (by simp) _
  simp only [wkPix, List.map_cons, List.map_nil] at hwA
  rw [hwA]
  obtain ⟨wB, hwB⟩ : ∃ wB, wA.alloc (.cells #[.int .i64 1] 3) = wB := ⟨_, rfl⟩
  have SA : Hid (SI wB .i64 (some ⟨w.heap.size + 1 + 1, 0, none⟩) 1 [1]) := by
    show SI _ _ _ _ _
    have := SI.lit0 wA .i64 [1] 3 (by decide)
    rw [hsA] at this
    rw [← hwB]; exact this
  have SP2 : Hid (SI wB .u16 (some ⟨w.heap.size, 0, none⟩) 12 wkPix) := by
    show SI _ _ _ _ _
    rw [← hwB]; exact SP.out.alloc _
  have HBB : Hid (Below w.heap.size w wB) := by
    show Below _ _ _
    rw [← hwB]; exact HBA.out.alloc HBA.out.size _
  rw [hwB]
  clear hwA hwB hsA SP HBA
  refine (own_any (W := 3) (H := 1) (pc := 12) wB SP2.out).mono ?_
  rintro e w1 ⟨hb1, A1, c1, rfl, hown1, hc1, hc2⟩
  rw [show wkPix.length = 12 from rfl] at hown1 hc1 ⊢
  have SP3 : Hid (SI w1 .u16 A1 12 wkPix) := SI.of_own hown1 (by decide)
  have SA2 : Hid (SI w1 .i64 (some ⟨w.heap.size + 1 + 1, 0, none⟩) 1 [1]) := SA.out.below hb1 (Nat.le_refl _)
  have HB1 : Hid (Below w.heap.size w w1) := HBB.out.trans (hb1.mono HBB.out.size)
  have HC1 := Lib.hid hc1
  have HC2 := Lib.hid hc2
  clear hb1 hown1 hc1 hc2 SP2 SA HBB
  go_wp2_with fail
  refine (wk_apply (c := 1) (pc := c1) w1 SA2.out SP3.out HC1.out (by have := HC2.out; unfold maxLen at this; omega)).mono ?_
  rintro e w2 ⟨hb2, A2, c2, rfl, hown2⟩
  rw [wk_len] at hown2 ⊢
  have HB2 : Hid (Below w.heap.size w w2) := HB1.out.trans (hb2.mono HB1.out.size)
  have HO2 := Lib.hid hown2
  obtain ⟨g, hgA, -⟩ := own_val hown2 wk_at.1 (Below.refl _ _)
  subst hgA
  clear hb2 hown2 SP3 SA2
  go_wp2_with fail
  obtain ⟨wC, hwC⟩ : ∃ wC, (w2.alloc (.cells #[.int .i64 3, .int .i64 1, .slice (some ⟨g, 0, none⟩) 12 c2] 37)).alloc (.cells #[.int .i64 3] 3) = wC := ⟨_, rfl⟩
  have SC : Hid (SI wC .i64 (some ⟨w2.heap.size + 1, 0, none⟩) 1 [3]) := by
    show SI _ _ _ _ _
    have := SI.lit0 (w2.alloc (.cells #[.int .i64 3, .int .i64 1, .slice (some ⟨g, 0, none⟩) 12 c2] 37)) .i64 [3] 3 (by decide)
    rw [World.size_alloc] at this
    rw [← hwC]; exact this
  have RC : Hid (wC.heap[w2.heap.size]? = some (.cells #[.int .i64 3, .int .i64 1, .slice (some ⟨g, 0, none⟩) 12 c2] 37 (0, 0))) := by
    show _ = _
    rw [← hwC]; exact heap_alloc_old _ _ (heap_alloc_new w2 _)
  have HBC : Hid (Below w2.heap.size w2 wC) := by
    show Below _ _ _
    rw [← hwC]; exact ((Below.refl _ _).alloc (Nat.le_refl _) _).alloc (by simp) _
  have HSC : Hid (wC.heap.size = w2.heap.size + 2) := by show _ = _; rw [← hwC]; simp
  rw [hwC]
  clear hwC
  refine (preach_any (op := medB) (c := 1) wC SC.out).mono ?_
  rintro e w4 ⟨rfl, hb4⟩
  rw [wk_check.2.2.2.1, wk_check.2.2.2.2.1, if_pos rfl]
  have R4 : w4.heap[w2.heap.size]? = some (.cells #[.int .i64 3, .int .i64 1, .slice (some ⟨g, 0, none⟩) 12 c2] 37 (0, 0)) := (hb4.block _ (by have := HSC.out; omega)).trans RC.out
  have HB24 : Below w2.heap.size w2 w4 := HBC.out.trans (hb4.mono (by have := HSC.out; omega))
  have x2 := row_cell R4 2
  obtain ⟨g0, e0, v0⟩ := own_val HO2.out wk_at.1 HB24
  obtain ⟨g4, e4, v4⟩ := own_val HO2.out wk_at.2.1 HB24
  obtain ⟨g8, e8, v8⟩ := own_val HO2.out wk_at.2.2.1 HB24
  obtain ⟨g9, e9, v9⟩ := own_val HO2.out wk_at.2.2.2 HB24
  injection e0 with e0; injection e0 with e0
  injection e4 with e4; injection e4 with e4
  injection e8 with e8; injection e8 with e8
  injection e9 with e9; injection e9 with e9
  subst e0 e4 e8 e9
  have HB4 : Hid (Below w.heap.size w w4) := HB2.out.trans (HB24.mono HB2.out.size)
  clear R4 HB24 hb4
  go_wp2_with fail
  refine (names_any w4).mono ?_
  rintro e w5 ⟨gn, cn, rfl, -, hb5⟩
  have HB5 : Hid (Below w.heap.size w w5) := HB4.out.trans (hb5.mono HB4.out.size)
  clear x2 v0 v4 v8 v9 hb5
  go_wp2_with fail
  refine (check_any (op := edgeB) (c := 1) (w5.alloc (.cells #[.int .i64 1] 3)) (SI.lit0 w5 .i64 [1] 3 (by decide))).mono ?_
  rintro e w6 ⟨rfl, hb6⟩
  rw [wk_check.2.2.2.2.2.1]
  have HB6 : Hid (Below w.heap.size w w6) := (HB5.out.alloc HB5.out.size _).trans (hb6.mono (by have := HB5.out.size; simp; omega))
  clear hb6
  go_wp2_with fail
  refine (check_any (op := flyB) (c := 0) w6 (SI.nil w6 .i64 none)).mono ?_
  rintro e w7 ⟨rfl, hb7⟩
  rw [wk_check.2.2.2.2.2.2]
  have HB7 : Hid (Below w.heap.size w w7) := HB6.out.trans (hb7.mono HB6.out.size)
  clear hb7
  go_wp2_with fail
  go_ret
  exact ⟨rfl, HB7.out⟩
end Go.Proofs.Ytogmlcgiajigfaa.Ard
