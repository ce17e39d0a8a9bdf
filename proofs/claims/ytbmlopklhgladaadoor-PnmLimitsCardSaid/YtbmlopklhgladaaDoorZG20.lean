/-
  The walk of the law PnmLimits.
-/
import Derived.Test.YtbmlopklhgladaaDoorZG16
import Derived.Test.YtbmlopklhgladaaDoorZG18
import Derived.Test.YtbmlopklhgladaaDoorZG19
import Derived.Lib.AppendStr
set_option linter.unusedVariables false
set_option linter.unusedSimpArgs false
namespace Go.Proofs.YtbmlopklhgladaaDoor.Ard
open Go.RowKit K
set_option maxRecDepth 20000 in
set_option maxHeartbeats 2000000 in
theorem fill40_any {W H : Nat} {r g b a : Int} (w : World) (hW : 1 ≤ W ∧ W ≤ 40) (hH : 1 ≤ H ∧ H ≤ 40) :
    Calls Tryd.prog 20 #[.int .i64 W, .int .i64 H, .agg #[.int .u16 r, .int .u16 g, .int .u16 b, .int .u16 a]] w (ImgP w W H (fillL [r, g, b, a] (W * H)) 0) := by
  have hm : W * H ≤ 1600 := Nat.mul_le_mul hW.2 hH.2
  have hF : FitsP W H := by
    have h2 : (W : Int) * (H : Int) = ((W * H : Nat) : Int) := (Int.natCast_mul _ _).symm
    unfold FitsP; rw [h2]; omega
  have HFT : Hid (∀ V, Calls Tryd.prog 39 #[.int .i64 W, .int .i64 H] V fun e w' => e = .returned (.bool true) ∧ V = w') := fun V => by have := fits_any (W := W) (H := H) V; rwa [decide_eq_true hF] at this
  obtain ⟨m, hmd⟩ : ∃ m, W * H = m := ⟨_, rfl⟩
  have HWM : Hid (wrap64 ((W : Int) * (H : Int)) = (m : Int)) := by
    show _ = _
    have h2 : (W : Int) * (H : Int) = ((W * H : Nat) : Int) := (Int.natCast_mul _ _).symm
    rw [h2, hmd]; exact IntWalk.wrap64_in _ (by omega)
  rw [hmd] at hm ⊢
  clear hmd hF hW hH
  obtain ⟨W0, hW0, r0, r1, r2, hs, hb⟩ := three_allocs w (.cells (colC r g b a) 45) (.cells zimg 26) (.cells zimg 26)
  have R2 := Lib.hid r2
  have HF0 : Hid (Fz w (W0.setRow (w.heap.size + 2) #[.int .i64 W, .int .i64 H, .slice none 0 0]) W H r g b a 0 none 0) :=
    ⟨below_setRow hb (by omega) _, (setRow_other _ _ _ _ (by omega)).trans r0, (setRow_other _ _ _ _ (by omega)).trans r1, setRow_heap _ _ _ _ _ _ r2, World.ownsRow_nil _ _ _ _⟩
  have HOI : Hid ((#[.int .i64 W, .int .i64 H, .slice none 0 0] : Array Value).all (·.oneCell') = true) := by show _ = _; simp [Value.oneCell']
  clear r0 r1 r2 hs hb
  unfold colC zimg at hW0
  go_enter Tryd.func20, Tryd.ntmps20
  go_wp2_with fail
  refine (HFT.out _).mono ?_
  rintro e w' ⟨rfl, rfl⟩
  go_upto_region 3 with (fail)
  go_wp2_with (refine wpList_store_row rfl 26 (.tmp 8) (.tmp 17) rfl (w.heap.size + 2) #[.int .i64 W, .int .i64 H, .slice none 0 0] rfl rfl 26 zimg R2.out imgInfo rfl HOI.out ?_)
  clear hW0 R2 HOI HFT
  go_loopw [9] (fun s9 wr => ∃ (k : Nat) (A : Option Addr) (c : Nat), k ≤ m ∧ s9 = .int .i64 k ∧ Fz w wr W H r g b a k A c) (fun s9 _ => m - (intOf s9).toNat)
  case atStart => exact ⟨0, none, 0, by omega, rfl, HF0.out⟩
  case round =>
    clear HF0
    obtain ⟨k, A, c, hk, rfl, hf⟩ := hrel
    have HFZ := Lib.hid hf
    have hsz := hf.bel.size
    have x0 := row_cell hf.img 0
    have x1 := row_cell hf.img 1
    have x2 := row_cell hf.img 2
    clear hf
    by_cases hlt : k < m
    · have HLT := Lib.hid hlt
      have d0 : decide ((k : Int) < (m : Int)) = true := decide_eq_true (by omega)
      have e0 : decide (k < m) = true := decide_eq_true hlt
      have y0 : wr.cell? ⟨w.heap.size, 0, none⟩ = some (.int .u16 r) := row_cell HFZ.out.clr 0
      have y1 : wr.cell? ⟨w.heap.size, 1, none⟩ = some (.int .u16 g) := row_cell HFZ.out.clr 1
      have y2 : wr.cell? ⟨w.heap.size, 2, none⟩ = some (.int .u16 b) := row_cell HFZ.out.clr 2
      have y3 : wr.cell? ⟨w.heap.size, 3, none⟩ = some (.int .u16 a) := row_cell HFZ.out.clr 3
      have HWJ : Hid (wrap64 ((k : Int) + 1) = ((k + 1 : Nat) : Int)) := by show _ = _; rw [IntWalk.wrap64_in _ (by omega)]; rfl
      have HADD : Hid (Calls Tryd.prog 30 #[.agg #[.int .i64 W, .int .i64 H, .slice A (4 * k) c], .agg #[.int .u16 r, .int .u16 g, .int .u16 b, .int .u16 a]] wr (AddP w.heap.size wr W H A (4 * k) c (fillL [r, g, b, a] k ++ [r, g, b, a]))) := add_any wr HFZ.out.own (by omega) hsz
      have hwm := HWM.out
      clear hlt
      go_wp2_with fail
      clear hwm
      refine HADD.out.mono ?_
      rintro e w2 ⟨g2, c2, rfl, hown, hgr, -, -⟩
      obtain ⟨h1, h2⟩ := HFZ.out.step hown hgr
      have H1 := Lib.hid h1
      have H2 := Lib.hid h2
      have HOI : Hid ((#[.int .i64 W, .int .i64 H, .slice (some ⟨g2, 0, none⟩) (4 * k + 4) c2] : Array Value).all (·.oneCell') = true) := by show _ = _; simp [Value.oneCell']
      clear h1 h2 hown hgr HADD HFZ x0 x1 x2 y0 y1 y2 y3
      go_wp2_with (refine wpList_store_row rfl 26 (.tmp 8) (.tmp 27) rfl (w.heap.size + 2) #[.int .i64 W, .int .i64 H, .slice (some ⟨g2, 0, none⟩) (4 * k + 4) c2] rfl rfl 26 _ H1.out imgInfo rfl HOI.out ?_)
      go_roundw
      case rel => exact ⟨k + 1, _, c2, HLT.out, by first | rw [HWJ.out] | rfl, H2.out⟩
      case measure => have := HLT.out; simp [intOf]; omega
    · obtain rfl : k = m := by omega
      have d0 : decide ((k : Int) < (k : Int)) = false := by simp
      have HOI : Hid ((#[.int .i64 W, .int .i64 H, .slice A (4 * k) c] : Array Value).all (·.oneCell') = true) := by show _ = _; simp [Value.oneCell']
      have hwm := HWM.out
      clear hlt
      go_wp2_with (refine wpList_store_row rfl 26 (.tmp 6) (.tmp 28) rfl (w.heap.size + 1) #[.int .i64 W, .int .i64 H, .slice A (4 * k) c] rfl rfl 26 zimg HFZ.out.res imgInfo rfl HOI.out ?_)
      refine bodyPost_ret (results_row_tmp rfl _ _ (w.heap.size + 1) 26 #[.int .i64 W, .int .i64 H, .slice A (4 * k) c] (0, 0) _ rfl (setRow_heap _ _ _ _ _ _ HFZ.out.res) Tryd.underlying26 rfl imgInfo) rfl ?_
      refine ⟨below_setRow HFZ.out.bel (by omega) _, A, c, by rw [fillL_len]; rfl, ?_⟩
      rw [fillL_len]
      exact HFZ.out.own.kept (grown_row _ _ _) (.inr (own_ne HFZ.out.own HFZ.out.res (by decide)).symm)
end Go.Proofs.YtbmlopklhgladaaDoor.Ard
namespace Go.Proofs.YtbmlopklhgladaaDoor.Pnm
open Go.RowKit K Ian Ard

theorem own_lt {w : World} {base e n c : Nat} {A : Option Addr} {xs : List Value} (h : w.ownsRow base e 1 (.slice A n c) n xs) {a : Addr} (ha : A = some a) : a.block < w.heap.size := by
  rcases h.2 with ⟨hv, -⟩ | ⟨g, cap, cur, hv, -⟩
  · injection hv with e1; rw [e1] at ha; cases ha
  · injection hv with e1
    refine (h.lt a.block ?_).2
    rw [e1] at ha ⊢; injection ha with ha; rw [← ha]; rfl
def tlB : List Int := [98, 101, 104, 105, 110, 100, 32, 105, 116]
theorem fillL_bd (n : Nat) : ∀ x ∈ fillL [9, 0, 0, 65535] n, 0 ≤ x ∧ x < 65536 := by
  induction n with
  | zero => intro x hx; simp [fillL] at hx
  | succ n ih =>
    intro x hx
    rw [fillL_succ, List.mem_append] at hx
    rcases hx with h | h
    · exact ih x h
    · simp at h; omega
theorem encM_in {W H : Nat} {kind top : Int} {pix : List Int} {pn : Nat} (hg : GoodP W H pn) (k1 : 1 ≤ kind) (k2 : kind ≤ 6) (t1 : 1 ≤ top) (t2 : top ≤ 65535) : encM W H pn pix kind top = ⟨0, headB W H kind ++ topB kind top ++ rowsB pix W kind top H⟩ := by
  unfold encM
  rw [if_neg (by simpa using hg), if_neg (by omega)]
  rfl
set_option maxRecDepth 20000 in
set_option maxHeartbeats 8000000 in
theorem limits_in {W H : Nat} {kind : Int} (w : World) (hW : 1 ≤ W ∧ W ≤ 40) (hH : 1 ≤ H ∧ H ≤ 40) (k1 : 1 ≤ kind) (k2 : kind ≤ 6) (HV : Vars w) :
    Calls Tryd.prog 6 #[.int .i64 W, .int .i64 H, .int .i64 kind] w (YesP w) := by
  have HWK := Lib.hid (wakes_any w HV)
  have HVV := Lib.hid HV
  have hWH : W * H ≤ 1600 := Nat.mul_le_mul hW.2 hH.2
  obtain ⟨m, hm⟩ : ∃ m, W * H = m := ⟨_, rfl⟩
  have hmI : (W : Int) * (H : Int) = (m : Int) := by rw [← hm]; push_cast; rfl
  have HMW : Hid (wrap64 ((W : Int) * (H : Int)) = (m : Int)) := by show _ = _; rw [hmI]; exact IntWalk.wrap64_in _ (by omega)
  have HMW1 : Hid (wrap64 ((m : Int) - 1) = (m : Int) - 1) := by show _ = _; exact IntWalk.wrap64_in _ (by omega)
  have h1m : 1 ≤ m := by rw [← hm]; exact Nat.mul_pos (by omega) (by omega)
  have HL4 : (fillL [9, 0, 0, 65535] m).length = 4 * m := fillL_len 9 0 0 65535 m
  have hgood : GoodP W H (4 * m) := by
    unfold GoodP FitsP
    have : 4 * (W : Int) * (H : Int) = 4 * ((W : Int) * (H : Int)) := by rw [Int.mul_assoc]
    rw [this, hmI]
    push_cast
    omega
  have HE : Hid (encM W H (4 * m) (fillL [9, 0, 0, 65535] m) kind 300 = ⟨0, headB W H kind ++ topB kind 300 ++ rowsB (fillL [9, 0, 0, 65535] m) W kind 300 H⟩) := encM_in hgood k1 k2 (by omega) (by omega)
  have HD1 : ∀ (tl : List Int) (most : Int), (tl = [] ∨ 4 ≤ kind) → tl.length ≤ 1000 → decM (headB W H kind ++ topB kind 300 ++ rowsB (fillL [9, 0, 0, 65535] m) W kind 300 H ++ tl) most = if greatB (W : Int) (H : Int) most = true then ⟨11, 0, 0, []⟩ else ⟨0, W, H, pixM (ssN (fillL [9, 0, 0, 65535] m) kind 300 (H * W)) kind (topR kind 300) (eachOf kind) (W * H)⟩ :=
    fun tl most h1 h2 => dec_enc (fillL_bd m) k1 k2 (by omega) (by omega) hW.1 (by omega) hH.1 (by omega) (by omega) h1 h2
  have hgr1 : greatB (W : Int) (H : Int) (m : Int) = false := by unfold greatB; rw [hmI]; exact decide_eq_false (by omega)
  have hgr2 : greatB (W : Int) (H : Int) ((m : Int) - 1) = true := by unfold greatB; rw [hmI]; exact decide_eq_true (by omega)
  obtain ⟨B, hB⟩ : ∃ B, headB (W : Int) (H : Int) kind ++ topB kind 300 ++ rowsB (fillL [9, 0, 0, 65535] m) W kind 300 H = B := ⟨_, rfl⟩
  rw [hB] at HE HD1
  have HX1 : Hid ((decM B m).err = 0) := by
    show _ = _
    have := HD1 [] m (.inl rfl) (by simp)
    rw [List.append_nil, if_neg (by rw [hgr1]; simp)] at this
    rw [this]
  have HX2 : Hid ((decM B ((m : Int) - 1)).err = 11) := by
    show _ = _
    have := HD1 [] ((m : Int) - 1) (.inl rfl) (by simp)
    rw [List.append_nil, if_pos hgr2] at this
    rw [this]
  have HX3 : Hid (4 ≤ kind → (decM (B ++ tlB) m).err = 0) := fun h => by
    have := HD1 tlB m (.inr h) (by simp [tlB])
    rw [if_neg (by rw [hgr1]; simp)] at this
    rw [this]
  have HEL : Hid (B.length ≤ 6000000) := by
    have := encM_len (W := W) (H := H) (pn := 4 * m) (kind := kind) (top := 300) (fillL_bd m)
    rw [HE.out] at this
    exact this
  have HBU : Hid (∀ x ∈ B, 0 ≤ x ∧ x < 256) := by
    show ∀ x ∈ B, _
    rw [← hB]
    exact enc_u8 (fillL_bd m) (by omega) (by omega) H
  have HFL : Hid (∀ V, Calls Tryd.prog 20 #[.int .i64 W, .int .i64 H, .agg #[.int .u16 9, .int .u16 0, .int .u16 0, .int .u16 65535]] V (ImgP V W H (fillL [9, 0, 0, 65535] m) 0)) := fun V => by
    have := fill40_any (r := 9) (g := 0) (b := 0) (a := 65535) V hW hH
    rwa [hm] at this
  have HLB := Lib.hid (fillL_bd m)
  obtain ⟨L, hL⟩ : ∃ L, fillL [9, 0, 0, 65535] m = L := ⟨_, rfl⟩
  rw [hL] at HL4 HE HFL HLB
  have HLL : Hid (L.length = 4 * m) := HL4
  have hmb : m ≤ 1600 := by omega
  have HMB := Lib.hid hmb
  have HPE : Hid (∀ V A c, SI V .u16 A L.length L → L.length ≤ c → Vars V → Calls Tryd.prog 13 #[.agg #[.int .i64 W, .int .i64 H, .slice A L.length c], .int .i64 kind, .int .i64 300] V (EncP V ⟨0, B⟩)) := fun V A c h1 h2 h3 => by
    have := pencode_any (W := W) (H := H) (kind := kind) (top := 300) V h1 HLB.out h2 h3
    rw [HLL.out] at this
    rw [HE.out] at this
    rwa [HLL.out]
  have g1 : decide ((W : Int) < 1) = false := decide_eq_false (by omega)
  have g2 : decide ((H : Int) < 1) = false := decide_eq_false (by omega)
  have g3 : decide ((40 : Int) < (W : Int)) = false := decide_eq_false (by omega)
  have g4 : decide ((40 : Int) < (H : Int)) = false := decide_eq_false (by omega)
  have g5 : decide (kind < 1) = false := decide_eq_false (by omega)
  have g6 : decide (6 < kind) = false := decide_eq_false (by omega)
  have n1 : decide (W < 1) = false := decide_eq_false (by omega)
  have n2 : decide (H < 1) = false := decide_eq_false (by omega)
  have n3 : decide (40 < W) = false := decide_eq_false (by omega)
  have n4 : decide (40 < H) = false := decide_eq_false (by omega)
  have HK : Hid (¬ kind < 4 → 4 ≤ kind) := fun h => by omega
  clear hgood hB hL hmI hm hWH hW hH k1 k2 HD1 HE HL4 hgr1 hgr2 h1m hmb HV
  go_enter Tryd.func6, Tryd.ntmps6
  go_wp2_with fail
  refine HWK.out.mono ?_
  rintro e w1 ⟨rfl, hb1⟩
  have HB1 := Lib.hid hb1
  clear hb1 HWK
  go_wp2_with fail
  clear g1 g2 g3 g4 g5 g6 n1 n2 n3 n4
  refine (HFL.out w1).mono ?_
  rintro e w2 ⟨hb2, A2, c2, rfl, ho2⟩
  have hm2 := heap_alloc_new w2 (.cells #[.int .i64 W, .int .i64 H, .slice A2 L.length c2] 26)
  have ho3 := ho2.alloc (.cells #[.int .i64 W, .int .i64 H, .slice A2 L.length c2] 26)
  have hb3 : Below w1.heap.size w1 (w2.alloc (.cells #[.int .i64 W, .int .i64 H, .slice A2 L.length c2] 26)) := bel_al hb2 _
  go_upto_region 6 with (fail)
  generalize w2.alloc (.cells #[.int .i64 W, .int .i64 H, .slice A2 L.length c2] 26) = X1 at hm2 ho3 hb3 ⊢
  obtain ⟨gm, hgm⟩ : ∃ mb, w2.heap.size = mb := ⟨_, rfl⟩
  rw [hgm] at hm2 ⊢
  have HB3 : Hid (Below w.heap.size w X1) := bel_tr HB1.out hb3
  have HR := Lib.hid (HPE.out X1 A2 c2 (SI.of_own ho3 (by have := HMB.out; have := HLL.out; simp only [kb]; omega)) (own_caps ho3).1 (HVV.out.below HB3.out (Nat.le_refl _)))
  obtain ⟨z0, z1, z2⟩ := img_cells hm2
  clear hb2 ho2 hm2 ho3 hb3 hgm HFL HPE HB1
  go_wp2_with fail
  refine HR.out.mono ?_
  rintro e w3 ⟨A3, c3, rfl, ho3, hb3⟩
  clear z0 z1 z2 HR
  have HS3 : Hid (SI w3 .u8 A3 B.length B) := SI.of_own ho3 (by have := HEL.out; simp only [kb]; omega)
  have HB4 : Hid (Below w.heap.size w w3) := bel_tr HB3.out hb3
  clear ho3 hb3 HB3
  have HOW : Hid (∀ V, Below w3.heap.size w3 V → Calls Tryd.prog 10 #[.slice A3 B.length c3] V (OwnP V B.length B)) := fun V h => ownb_any V (si_tr HS3.out h)
  have HPD : Hid (∀ V A c most (S : List Int), S.length ≤ 7000000 → (∀ x ∈ S, 0 ≤ x ∧ x < 256) → Below w3.heap.size w3 V → V.ownsRow w3.heap.size 5 1 (.slice A S.length c) S.length (S.map (.int .u8)) → Calls Tryd.prog 9 #[.slice A S.length c, .int .i64 most] V (DecP V (decM S most))) := fun V A c most S hl hu hb ho =>
    pdecode_any V (SI.of_own ho (by simp only [kb]; omega)) hu (own_caps ho).1 (fun a e => own_lt ho e) (HVV.out.below (bel_tr HB4.out hb) (Nat.le_refl _))
  have hbl : Below w3.heap.size w3 w3 := Below.refl _ _
  have HOWc := HOW.out w3 hbl
  go_wp2_with fail
  refine HOWc.mono ?_
  rintro e w4 ⟨A4, c4, rfl, ho4, hb4, -⟩
  have HDc := Lib.hid (HPD.out w4 A4 c4 m B (by have := HEL.out; omega) HBU.out hb4 ho4)
  have HB5 := Lib.hid hb4
  have mw := HMW.out
  clear ho4 hb4 HOWc hbl
  go_wp2_with fail
  clear mw
  refine HDc.out.mono ?_
  rintro e w5 ⟨A5, c5, rfl, ho5, hb5⟩
  obtain ⟨d, hd⟩ : ∃ d, decM B m = d := ⟨_, rfl⟩
  rw [hd] at ho5 ⊢
  rw [hd] at HX1
  clear hd HDc
  have HB6 : Hid (Below w3.heap.size w3 (w5.alloc (.cells #[.int .i64 d.w, .int .i64 d.h, .slice A5 d.pix.length c5] 26))) := bel_al (bel_tr HB5.out hb5) _
  rw [HX1.out]
  clear ho5 hb5 HB5
  go_upto_region 8 with (fail)
  generalize w5.alloc (.cells #[.int .i64 d.w, .int .i64 d.h, .slice A5 d.pix.length c5] 26) = X2 at HB6 ⊢
  generalize w5.heap.size = gx
  have HOWc := HOW.out X2 HB6.out
  go_wp2_with fail
  refine HOWc.mono ?_
  rintro e w6 ⟨A6, c6, rfl, ho6, hb6, -⟩
  have HB7 : Hid (Below w3.heap.size w3 w6) := bel_tr HB6.out hb6
  have HDc := Lib.hid (HPD.out w6 A6 c6 ((m : Int) - 1) B (by have := HEL.out; omega) HBU.out HB7.out (own_base ho6 HB6.out.size))
  have mw := HMW.out
  have mw1 := HMW1.out
  clear ho6 hb6 HOWc
  go_wp2_with fail
  clear mw mw1
  refine HDc.out.mono ?_
  rintro e w7 ⟨A7, c7, rfl, ho7, hb7⟩
  obtain ⟨d2, hd2⟩ : ∃ d, decM B ((m : Int) - 1) = d := ⟨_, rfl⟩
  rw [hd2] at ho7 ⊢
  rw [hd2] at HX2
  clear hd2 HDc
  have HB8 : Hid (Below w3.heap.size w3 (w7.alloc (.cells #[.int .i64 d2.w, .int .i64 d2.h, .slice A7 d2.pix.length c7] 26))) := bel_al (bel_tr HB7.out hb7) _
  rw [HX2.out]
  clear ho7 hb7 HB7
  go_upto_region 9 with (fail)
  generalize w7.alloc (.cells #[.int .i64 d2.w, .int .i64 d2.h, .slice A7 d2.pix.length c7] 26) = X3 at HB8 ⊢
  generalize w7.heap.size = gy
  have HOWc := HOW.out X3 HB8.out
  go_wp2_with fail
  refine HOWc.mono ?_
  rintro e w8 ⟨A8, c8, rfl, ho8, hb8, -⟩
  have HB9 : Hid (Below w3.heap.size w3 w8) := bel_tr HB8.out hb8
  have HO8 := Lib.hid ho8
  have HS8 := Lib.hid hb8.size
  have HXS := Lib.hid HB8.out.size
  clear ho8 hb8 HOWc
  obtain ⟨inf, hinf, einf⟩ := Option.map_eq_some_iff.1 infoU8
  have ez : inf.zero = some (.int .u8 0) := by injection einf
  have es : inf.size = 1 := by injection einf with _ e; injection e
  have eb : inf.bytes = 1 := by injection einf with _ e; injection e
  go_wp2_with (at_builtin; refine Lib.wpList_append_own_string _ rfl (.tmp 75) _ _ _ rfl X3.heap.size 5 inf Tryd.underlying22 Tryd.underlying9 hinf ez es eb (.slice A8 B.length c8) B.length (B.map (.int .u8)) rfl HO8.out _ rfl ?c1 ?c2 ?c3 ?_)
  case c1 => have := HEL.out; show B.length + 9 ≤ _; unfold maxLen; omega
  case c2 => have := HEL.out; show B.length + 9 ≤ _; omega
  case c3 => exact HS8.out
  intro v' w9 hown hg _
  obtain ⟨A9, c9, rfl⟩ := own_form hown
  have e9 : B.length + 9 = (B ++ tlB).length := by rw [List.length_append]; rfl
  have em : B.map (Value.int .u8) ++ Lib.strCells ⟨#[98, 101, 104, 105, 110, 100, 32, 105, 116]⟩ = (B ++ tlB).map (.int .u8) := by rw [List.map_append]; rfl
  have hsl : (B ++ tlB).length ≤ 7000000 := by have := HEL.out; rw [← e9]; omega
  have hsu : ∀ x ∈ B ++ tlB, 0 ≤ x ∧ x < 256 := all_app HBU.out (by unfold tlB; intro x hx; simp at hx; omega)
  rw [e9, em] at hown
  obtain ⟨SS, hSS⟩ : ∃ SS, B ++ tlB = SS := ⟨_, rfl⟩
  rw [hSS] at hown hsl hsu e9 HX3
  obtain ⟨sn, hsn⟩ : ∃ n, SS.length = n := ⟨_, rfl⟩
  rw [hsn] at hown hsl e9
  have HBa : Hid (Below w3.heap.size w3 w9) := HB9.out.grown hg HB9.out.size (fun b e => Nat.le_trans HXS.out (HO8.out.lt b e).1)
  have HDc := Lib.hid (HPD.out w9 A9 c9 m SS (by rw [hsn]; exact hsl) hsu HBa.out (by rw [hsn]; exact own_base hown HXS.out))
  rw [hsn] at HDc
  rw [e9]
  have mw := HMW.out
  clear hown hg e9 em ez es eb hinf HO8 hsl hsu hSS hsn einf
  go_wp2_with fail
  clear mw
  refine HDc.out.mono ?_
  rintro e w10 ⟨A10, c10, rfl, ho10, hb10⟩
  obtain ⟨d3, hd3⟩ : ∃ d, decM SS m = d := ⟨_, rfl⟩
  rw [hd3] at ho10 ⊢
  rw [hd3] at HX3
  clear hd3 HDc
  have HBb : Hid (Below w3.heap.size w3 (w10.alloc (.cells #[.int .i64 d3.w, .int .i64 d3.h, .slice A10 d3.pix.length c10] 26))) := bel_al (bel_tr HBa.out hb10) _
  clear ho10 hb10 HBa
  go_upto_region 10 with (fail)
  generalize w10.alloc (.cells #[.int .i64 d3.w, .int .i64 d3.h, .slice A10 d3.pix.length c10] 26) = X4 at HBb ⊢
  generalize w10.heap.size = gz
  have HBc : Hid (Below w.heap.size w X4) := bel_tr HB4.out HBb.out
  obtain ⟨e3, he3⟩ : ∃ e, d3.err = e := ⟨_, rfl⟩
  rw [he3] at HX3 ⊢
  clear he3
  by_cases h0 : e3 = 0
  · have t0 : (e3 == 0) = true := by simp [h0]
    clear h0 HX3
    go_wp2_with fail
    go_ret
    exact ⟨rfl, HBc.out⟩
  · have t0 : (e3 == 0) = false := by simp [h0]
    have k4 : decide (kind < 4) = true := decide_eq_true (by
      by_cases h4 : kind < 4
      · exact h4
      · exact absurd (HX3.out (by omega)) h0)
    clear h0 HX3
    go_wp2_with fail
    go_ret
    exact ⟨rfl, HBc.out⟩
set_option maxRecDepth 20000 in
set_option maxHeartbeats 4000000 in
theorem limits_out {x y kind : Int} (w : World) (ho : x < 1 ∨ y < 1 ∨ 40 < x ∨ 40 < y ∨ kind < 1 ∨ 6 < kind) (HV : Vars w) :
    Calls Tryd.prog 6 #[.int .i64 x, .int .i64 y, .int .i64 kind] w (YesP w) := by
  have HWK := Lib.hid (wakes_any w HV)
  go_enter Tryd.func6, Tryd.ntmps6
  go_wp2_with fail
  refine HWK.out.mono ?_
  rintro e w1 ⟨rfl, hb1⟩
  have HFIN : Hid (YesP w (.returned (.bool true)) w1) := ⟨rfl, hb1⟩
  clear hb1 HWK HV
  by_cases h0 : x < 1
  · have d0 : decide (x < 1) = true := decide_eq_true h0
    clear ho h0
    go_wp2_with fail
    go_ret
    exact HFIN.out
  have d0 : decide (x < 1) = false := decide_eq_false h0
  by_cases h1 : y < 1
  · have d1 : decide (y < 1) = true := decide_eq_true h1
    clear ho h0 h1
    go_wp2_with fail
    go_ret
    exact HFIN.out
  have d1 : decide (y < 1) = false := decide_eq_false h1
  by_cases h2 : 40 < x
  · have d2 : decide (40 < x) = true := decide_eq_true h2
    clear ho h0 h1 h2
    go_wp2_with fail
    go_ret
    exact HFIN.out
  have d2 : decide (40 < x) = false := decide_eq_false h2
  by_cases h3 : 40 < y
  · have d3 : decide (40 < y) = true := decide_eq_true h3
    clear ho h0 h1 h2 h3
    go_wp2_with fail
    go_ret
    exact HFIN.out
  have d3 : decide (40 < y) = false := decide_eq_false h3
  by_cases h4 : kind < 1
  · have d4 : decide (kind < 1) = true := decide_eq_true h4
    clear ho h0 h1 h2 h3 h4
    go_wp2_with fail
    go_ret
    exact HFIN.out
  have d4 : decide (kind < 1) = false := decide_eq_false h4
  have d5 : decide (6 < kind) = true := decide_eq_true (by omega)
  clear ho h0 h1 h2 h3 h4
  go_wp2_with fail
  go_ret
  exact HFIN.out
theorem pnmLimits_any {x y kind : Int} (w : World) (HV : Vars w) : Calls Tryd.prog 6 #[.int .i64 x, .int .i64 y, .int .i64 kind] w (YesP w) := by
  by_cases ho : x < 1 ∨ y < 1 ∨ 40 < x ∨ 40 < y ∨ kind < 1 ∨ 6 < kind
  · exact limits_out w ho HV
  · obtain ⟨W, rfl⟩ := Int.eq_ofNat_of_zero_le (show 0 ≤ x by omega)
    obtain ⟨H, rfl⟩ := Int.eq_ofNat_of_zero_le (show 0 ≤ y by omega)
    exact limits_in w (by omega) (by omega) (by omega) (by omega) HV
end Go.Proofs.YtbmlopklhgladaaDoor.Pnm
