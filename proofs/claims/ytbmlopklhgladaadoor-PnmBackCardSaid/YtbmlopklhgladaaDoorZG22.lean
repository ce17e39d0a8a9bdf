/-
  The walk of the law PnmBack.
-/
import Derived.Test.YtbmlopklhgladaaDoorZG21
import Derived.BigQuiet
import Derived.Deep.RegionHeld3
set_option linter.unusedVariables false
set_option linter.unusedSimpArgs false
namespace Go.Proofs.YtbmlopklhgladaaDoor.Pnm
open Go.RowKit K Ian Ard

theorem encM_inB {W H : Nat} {kind top : Int} {pix : List Int} {pn : Nat} (hg : GoodP W H pn) (k1 : 1 ≤ kind) (k2 : kind ≤ 6) (t1 : 1 ≤ top) (t2 : top ≤ 65535) : encM W H pn pix kind top = ⟨0, headB W H kind ++ topB kind top ++ rowsB pix W kind top H⟩ := by
  unfold encM
  rw [if_neg (by simpa using hg), if_neg (by omega)]
  rfl
theorem encP_bad {w w' : World} {er : Int} {e : Ending} (h : EncP w ⟨er, []⟩ e w') : (∃ A c, e = .returned (.tuple #[.slice A 0 c, .int .i64 er])) ∧ Below w.heap.size w w' := by
  obtain ⟨A, c, h1, -, h3⟩ := h
  exact ⟨⟨A, c, h1⟩, h3⟩
set_option maxRecDepth 20000 in
set_option maxHeartbeats 4000000 in
theorem back_bad {W H kind top er : Int} {P : Option Addr} {pn pc : Nat} {pix : List Int} (w : World) (HP : SI w .u16 P pn pix) (hwf : ∀ x ∈ pix, 0 ≤ x ∧ x < 65536) (HV : Vars w) (he : encM W H pix.length pix kind top = ⟨er, []⟩) (h0 : er ≠ 0) :
    Calls Tryd.prog 5 #[.agg #[.int .i64 W, .int .i64 H, .slice P pn pc], .int .i64 kind, .int .i64 top] w (YesP w) := by
  have hb0 : Below w.heap.size w (w.alloc (.cells #[.int .i64 W, .int .i64 H, .slice P pn pc] 26)) := (Below.refl _ w).alloc (Nat.le_refl _) _
  have hr0 : (w.alloc (.cells #[.int .i64 W, .int .i64 H, .slice P pn pc] 26)).heap[w.heap.size]? = some (.cells #[.int .i64 W, .int .i64 H, .slice P pn pc] 26 (0, 0)) := heap_alloc_new w _
  have HWK := Lib.hid (wakes_any _ (HV.below hb0 (Nat.le_refl _)))
  have HSI := Lib.hid HP
  have HVV := Lib.hid HV
  have HWF := Lib.hid hwf
  have HPL := Lib.hid HP.len
  have HE := Lib.hid he
  have e1 : (er != 0) = true := by simp [h0]
  clear HP HV hwf he h0
  go_enter Tryd.func5, Tryd.ntmps5
  go_upto_region 1 with (fail)
  generalize w.alloc (.cells #[.int .i64 W, .int .i64 H, .slice P pn pc] 26) = W0 at hb0 hr0 HWK ⊢
  have HB0 := Lib.hid hb0
  have HR0 := Lib.hid hr0
  clear hb0 hr0
  go_wp2_with fail
  refine HWK.out.mono ?_
  rintro e w1 ⟨rfl, hb1⟩
  have HB1 : Hid (Below w.heap.size w w1) := HB0.out.trans (hb1.mono HB0.out.size)
  have HR1 : Hid (w1.heap[w.heap.size]? = some (.cells #[.int .i64 W, .int .i64 H, .slice P pn pc] 26 (0, 0))) := row_tr HR0.out hb1
  clear hb1 HWK HB0 HR0
  obtain ⟨q0, q1, q2⟩ := img_cells HR1.out
  have HCP := Lib.hid (Ard.copy_any (W := W) (H := H) (pc := pc) w1 (HSI.out.below HB1.out (Nat.le_refl _)))
  go_wp2_with fail
  refine HCP.out.mono ?_
  rintro e w2 ⟨hb2, A2, c2, rfl, ho2, hc2, -⟩
  have HB2 : Hid (Below w.heap.size w w2) := HB1.out.trans (hb2.mono HB1.out.size)
  have hs2 : SI w2 .u16 A2 pix.length pix := SI.of_own ho2 (by have := HSI.out.sz; have := HPL.out; simp only [kb] at *; omega)
  have HPE : Hid (Calls Tryd.prog 13 #[.agg #[.int .i64 W, .int .i64 H, .slice A2 pix.length c2], .int .i64 kind, .int .i64 top] w2 (EncP w2 ⟨er, []⟩)) := by
    have := pencode_any (W := W) (H := H) (kind := kind) (top := top) w2 hs2 HWF.out hc2 (HVV.out.below HB2.out (Nat.le_refl _))
    rwa [HE.out] at this
  clear hb2 ho2 hc2 hs2 q0 q1 q2 HB1 HCP
  go_wp2_with fail
  refine HPE.out.mono ?_
  intro e w3 h3
  obtain ⟨⟨A3, c3, rfl⟩, hb3⟩ := encP_bad h3
  have HB3 : Hid (Below w.heap.size w w3) := HB2.out.trans (hb3.mono HB2.out.size)
  clear hb3 HB2 HPE h3
  go_wp2_with fail
  go_ret
  exact ⟨rfl, HB3.out⟩
theorem si_at {w : World} {k : IntKind} {b o n q : Nat} {l : List Int} (h : SI w k (some ⟨b, o, none⟩) n l) (hq : q < n) : w.cell? ⟨b, o + q, none⟩ = some (.int k (l.getD q 0)) := by
  obtain ⟨b1, o1, x, e, hc, hx, -⟩ := h.cells hq
  injection e with e
  injection e with e1 e2
  subst e1 e2
  rw [List.getD_eq_getElem?_getD, hx.out]
  exact hc
theorem gd_bd {l : List Int} (h : ∀ x ∈ l, 0 ≤ x ∧ x < 65536) (i : Nat) : 0 ≤ l.getD i 0 ∧ l.getD i 0 < 65536 := by
  rw [List.getD_eq_getElem?_getD]
  cases hx : l[i]? with
  | none => exact ⟨by simp, by simp⟩
  | some y => exact h y (List.mem_of_getElem? hx)
theorem meas_up {p z : Nat} (h : p < z) : z - (((p + 1 : Nat) : Int)).toNat < z - ((p : Int)).toNat := by omega
theorem meas_by {n k d : Nat} (h : k < n) (hd : 0 < d) : n - (intOf (.int .i64 ((k + d : Nat) : Int))).toNat < n - (intOf (.int .i64 (k : Int))).toNat := by
  show n - ((k + d : Nat) : Int).toNat < n - ((k : Nat) : Int).toNat
  simp only [Int.toNat_natCast]
  omega
theorem wp_store3 {w : World} {g : Nat} {a b c : Value} {T : TypeId} (h : w.heap[g]? = some (.cells #[a, b, c] T (0, 0))) (x y z : Value) :
    (((w.setCell ⟨g, 0, none⟩ x).setCell ⟨g, 1, none⟩ y).setCell ⟨g, 2, none⟩ z).heap[g]? = some (.cells #[x, y, z] T (0, 0)) ∧ Below g w (((w.setCell ⟨g, 0, none⟩ x).setCell ⟨g, 1, none⟩ y).setCell ⟨g, 2, none⟩ z) := by
  refine ⟨by simp [World.setCell, Array.getElem?_modify, h], ?_⟩
  exact (((Below.refl g w).setCell (p := ⟨g, 0, none⟩) (Nat.le_refl _) _).setCell (p := ⟨g, 1, none⟩) (Nat.le_refl _) _).setCell (p := ⟨g, 2, none⟩) (Nat.le_refl _) _
/-- a pixel's colour, laid -/
def Cx (w0 w : World) (r g b a : Int) : Prop := w.heap[w0.heap.size]? = some (.cells #[.int .u16 r, .int .u16 g, .int .u16 b, .int .u16 a] 45 (0, 0)) ∧ Below w0.heap.size w0 w
theorem cx_alloc {w0 : World} {r g b a : Int} (n : Nat) : Cx w0 ((w0.drewN n).alloc (.cells #[.int .u16 r, .int .u16 g, .int .u16 b, .int .u16 a] 45)) r g b a :=
  ⟨heap_alloc_new (w0.drewN n) _, (below_drewN (Below.refl _ _) n).alloc (Nat.le_refl _) _⟩
theorem cell_set4 {w : World} {p : Addr} {g : Nat} {x a b c d : Value} (h : w.cell? p = some x) (hne : p.block ≠ g) : ((((w.setCell ⟨g, 0, none⟩ a).setCell ⟨g, 1, none⟩ b).setCell ⟨g, 2, none⟩ c).setCell ⟨g, 3, none⟩ d).cell? p = some x := by
  have h1 := cell_set3 (a := a) (b := b) (c := c) h hne
  rw [← h1]
  exact World.cell?_setCell_far _ _ _ _ (Ne.symm hne)
set_option maxRecDepth 20000 in
set_option maxHeartbeats 8000000 in
theorem back_in {W H : Nat} {kind top : Int} {P : Option Addr} {pn pc : Nat} {pix : List Int} (w : World) (HP : SI w .u16 P pn pix) (hwf : ∀ x ∈ pix, 0 ≤ x ∧ x < 65536) (HV : Vars w) (hg : GoodP W H pn) (hW : 1 ≤ W) (hW2 : W ≤ 4096) (hH : 1 ≤ H) (hH2 : H ≤ 4096) (hWH : W * H ≤ 65536) (hpn : pn = 4 * (W * H)) (k1 : 1 ≤ kind) (k2 : kind ≤ 6) (t1 : 1 ≤ top) (t2 : top ≤ 65535) :
    Calls Tryd.prog 5 #[.agg #[.int .i64 W, .int .i64 H, .slice P pn pc], .int .i64 kind, .int .i64 top] w (YesP w) := by
  have hb0 : Below w.heap.size w (w.alloc (.cells #[.int .i64 W, .int .i64 H, .slice P pn pc] 26)) := (Below.refl _ w).alloc (Nat.le_refl _) _
  have hr0 : (w.alloc (.cells #[.int .i64 W, .int .i64 H, .slice P pn pc] 26)).heap[w.heap.size]? = some (.cells #[.int .i64 W, .int .i64 H, .slice P pn pc] 26 (0, 0)) := heap_alloc_new w _
  have HWK := Lib.hid (wakes_any _ (HV.below hb0 (Nat.le_refl _)))
  have HSI := Lib.hid HP
  have HVV := Lib.hid HV
  have HWF := Lib.hid hwf
  have hlen := HP.len
  obtain ⟨M, hM⟩ : ∃ M, W * H = M := ⟨_, rfl⟩
  have HPN : Hid (pn = 4 * M) := by show _ = _; rw [hpn, hM]
  have HMB : Hid (M ≤ 65536) := by show _ ≤ _; omega
  have he := encM_inB (pix := pix) (kind := kind) (top := top) hg k1 k2 t1 t2
  have hel := encM_len (W := W) (H := H) (pn := pn) (kind := kind) (top := top) hwf
  have hd := dec_enc (tl := []) (most := 65536) hwf k1 k2 t1 t2 hW hW2 hH hH2 hWH (.inl rfl) (by simp)
  have hgr : greatB (W : Int) (H : Int) 65536 = false := by
    have : (W : Int) * (H : Int) = ((W * H : Nat) : Int) := by push_cast; rfl
    unfold greatB; rw [this]; exact decide_eq_false (by omega)
  rw [List.append_nil, if_neg (by rw [hgr]; simp)] at hd
  rw [he] at hel
  have hu8 := enc_u8 (v1 := (W : Int)) (v2 := (H : Int)) (kind := kind) (W := W) hwf t1 t2 H
  obtain ⟨B, hB⟩ : ∃ B, headB (W : Int) (H : Int) kind ++ topB kind top ++ rowsB pix W kind top H = B := ⟨_, rfl⟩
  rw [hB] at he hel hd hu8
  have HBA : Hid (∀ i k, i < M → k < 3 → (pixM (ssN pix kind top (H * W)) kind (topR kind top) (eachOf kind) (W * H)).getD (4 * i + k) 0 = wantI kind top (pix.getD (4 * i) 0) (pix.getD (4 * i + 1) 0) (pix.getD (4 * i + 2) 0) k) := fun i k hi hk => back_at k1 k2 (by rw [hM]; exact hi) hk
  have HBB : Hid (∀ i, i < M → (pixM (ssN pix kind top (H * W)) kind (topR kind top) (eachOf kind) (W * H)).getD (4 * i + 3) 0 = 65535) := fun i hi => back_a (by rw [hM]; exact hi)
  have hDL := pixM_len (ssN pix kind top (H * W)) kind (topR kind top) (eachOf kind) (W * H)
  obtain ⟨D, hD⟩ : ∃ D, pixM (ssN pix kind top (H * W)) kind (topR kind top) (eachOf kind) (W * H) = D := ⟨_, rfl⟩
  rw [hD] at hd HBA HBB hDL
  rw [hM, ← HPN.out] at hDL
  have HDL := Lib.hid hDL
  have HEL : Hid (B.length ≤ 6000000) := hel
  have HPL : Hid (pix.length = pn) := hlen
  have HPE : Hid (∀ V A c, SI V .u16 A pn pix → pn ≤ c → Vars V → Calls Tryd.prog 13 #[.agg #[.int .i64 W, .int .i64 H, .slice A pn c], .int .i64 kind, .int .i64 top] V (EncP V ⟨0, B⟩)) := fun V A c h1 h2 h3 => by
    have := pencode_any (W := W) (H := H) (kind := kind) (top := top) V h1 hwf h2 h3
    rwa [he] at this
  have HRG : Hid (∀ V, Calls Tryd.prog 17 #[.agg #[.int .i64 W, .int .i64 H, .slice P pn pc]] V (Ard.TestP V true)) := fun V => by
    have := Ard.rgood_any (W := W) (H := H) (P := P) (pn := pn) (pc := pc) V (by have := HPN.out; have := HMB.out; omega)
    rwa [decide_eq_true hg] at this
  have HPD : Hid (∀ V A c, SI V .u8 A B.length B → B.length ≤ c → (∀ a, A = some a → a.block < V.heap.size) → Vars V → Calls Tryd.prog 9 #[.slice A B.length c, .int .i64 65536] V (DecP V ⟨0, W, H, D⟩)) := fun V A c h1 h2 h3 h4 => by
    have := pdecode_any (most := 65536) V h1 hu8 h2 h3 h4
    rwa [hd] at this
  have HT := Lib.hid (And.intro t1 t2)
  clear HP HV hwf hlen hM hpn hg hW hW2 hH hH2 hWH he hel hd hgr hu8 hB hD hDL t1 t2
  go_enter Tryd.func5, Tryd.ntmps5
  go_upto_region 1 with (fail)
  generalize w.alloc (.cells #[.int .i64 W, .int .i64 H, .slice P pn pc] 26) = W0 at hb0 hr0 HWK ⊢
  obtain ⟨gm, hgm⟩ : ∃ g, w.heap.size = g := ⟨_, rfl⟩
  have HB0 := Lib.hid hb0
  rw [hgm] at hr0 ⊢
  have HGM := Lib.hid hgm
  have HR0 := Lib.hid hr0
  clear hb0 hr0 hgm
  go_wp2_with fail
  refine HWK.out.mono ?_
  rintro e w1 ⟨rfl, hb1⟩
  have HB1 : Hid (Below w.heap.size w w1) := HB0.out.trans (hb1.mono HB0.out.size)
  have HR1 : Hid (w1.heap[gm]? = some (.cells #[.int .i64 W, .int .i64 H, .slice P pn pc] 26 (0, 0))) := row_tr HR0.out hb1
  clear hb1 HWK HB0 HR0
  obtain ⟨q0, q1, q2⟩ := img_cells HR1.out
  have HCP := Lib.hid (Ard.copy_any (W := W) (H := H) (pc := pc) w1 (HSI.out.below HB1.out (Nat.le_refl _)))
  go_wp2_with fail
  refine HCP.out.mono ?_
  rintro e w2 ⟨hb2, A2, c2, rfl, ho2, hc2, -⟩
  rw [HPL.out] at ho2 hc2 ⊢
  have HB2 : Hid (Below w.heap.size w w2) := HB1.out.trans (hb2.mono HB1.out.size)
  have HR2 := Lib.hid (row_tr HR1.out hb2)
  have hs2 : SI w2 .u16 A2 pn pix := SI.of_own ho2 (by have := HPN.out; have := HMB.out; simp only [kb]; omega)
  have HEc := Lib.hid (HPE.out w2 A2 c2 hs2 hc2 (HVV.out.below HB2.out (Nat.le_refl _)))
  clear hb2 ho2 hc2 hs2 q0 q1 q2 HB1 HCP HR1
  go_wp2_with fail
  refine HEc.out.mono ?_
  rintro e w3 ⟨A3, c3, rfl, ho3, hb3⟩
  have HB3 : Hid (Below w.heap.size w w3) := HB2.out.trans (hb3.mono HB2.out.size)
  have HR3 := Lib.hid (row_tr HR2.out hb3)
  have HS3 : Hid (SI w3 .u8 A3 B.length B) := SI.of_own ho3 (by have := HEL.out; simp only [kb]; omega)
  have HO3 := Lib.hid ho3
  clear hb3 ho3 HB2 HR2 HEc HPE
  obtain ⟨q0, q1, q2⟩ := img_cells HR3.out
  have HGc := Lib.hid (HRG.out w3)
  go_wp2_with fail
  refine HGc.out.mono ?_
  rintro e w4 ⟨rfl, hb4⟩
  have HB4 : Hid (Below w.heap.size w w4) := HB3.out.trans (hb4.mono HB3.out.size)
  have HR4 := Lib.hid (row_tr HR3.out hb4)
  have HDc := Lib.hid (HPD.out w4 A3 c3 (si_tr HS3.out hb4) (own_caps HO3.out).1 (fun a e => by
    rcases HO3.out.2 with ⟨hv, -⟩ | ⟨g, cap, cur, hv, -⟩
    · injection hv with e1; rw [e1] at e; cases e
    · injection hv with e1
      refine Nat.lt_of_lt_of_le (HO3.out.lt a.block ?_).2 hb4.size
      rw [e1] at e ⊢; injection e with e; rw [← e]; rfl) (HVV.out.below HB4.out (Nat.le_refl _)))
  clear hb4 q0 q1 q2 HGc HRG HB3 HR3 HS3 HO3 HPD
  go_wp2_with fail
  refine HDc.out.mono ?_
  rintro e w5 ⟨A5, c5, rfl, ho5, hb5⟩
  have hm5 := heap_alloc_new w5 (.cells #[.int .i64 W, .int .i64 H, .slice A5 D.length c5] 26)
  have ho6 := ho5.alloc (.cells #[.int .i64 W, .int .i64 H, .slice A5 D.length c5] 26)
  have hb6 : Below w4.heap.size w4 (w5.alloc (.cells #[.int .i64 W, .int .i64 H, .slice A5 D.length c5] 26)) := bel_al hb5 _
  simp only [] at hm5 ho6 hb6 ⊢
  go_upto_region 7 with (fail)
  generalize w5.alloc (.cells #[.int .i64 W, .int .i64 H, .slice A5 D.length c5] 26) = X1 at hm5 ho6 hb6 ⊢
  obtain ⟨gx, hgx⟩ : ∃ mb, w5.heap.size = mb := ⟨_, rfl⟩
  rw [hgx] at hm5 ⊢
  rw [HDL.out] at hm5 ho6 ⊢
  have HB6 : Hid (Below w.heap.size w X1) := bel_tr HB4.out hb6
  have HR6 := Lib.hid (row_tr HR4.out hb6)
  have HX6 := Lib.hid hm5
  have HS6 : Hid (SI X1 .u16 A5 pn D) := SI.of_own (by have := HDL.out; rw [this] at *; exact ho6) (by have := HPN.out; have := HMB.out; simp only [kb]; omega)
  have HP6 := Lib.hid (HSI.out.below HB6.out (Nat.le_refl _))
  clear ho5 hb5 hm5 ho6 hb6 hgx HDc HB4 HR4
  obtain ⟨q0, q1, q2⟩ := img_cells HR6.out
  obtain ⟨x0, x1, x2⟩ := img_cells HX6.out
  have n1 : ((W : Int) != (W : Int)) = false := by simp
  have n2 : ((H : Int) != (H : Int)) = false := by simp
  have n3 : ((pn : Int) != (pn : Int)) = false := by simp
  go_wp2_with fail
  clear q0 q1 q2 x0 x1 x2 n1 n2 n3
  go_loopw [11] (fun s11 wr => ∃ k q : Nat, Hid (q = 4 * k) ∧ k ≤ M ∧ s11 = .int .i64 q ∧ Below X1.heap.size X1 wr) (fun s11 _ => pn - (intOf s11).toNat)
  case atStart => exact ⟨0, 0, rfl, by omega, rfl, Below.refl _ _⟩
  case round =>
    obtain ⟨k, q, HQ, hk, rfl, hb⟩ := hrel
    have HBW := Lib.hid hb
    have HRw := Lib.hid (row_tr HR6.out hb)
    have HXw := Lib.hid (row_tr HX6.out hb)
    have HSw := Lib.hid (si_tr HS6.out hb)
    have HPw := Lib.hid (si_tr HP6.out hb)
    have HKM := Lib.hid hk
    clear hb hk
    by_cases hlt : k < M
    · have hq3 : q + 3 < pn := by have := HQ.out; have := HPN.out; omega
      have d0 : decide ((q : Int) < (pn : Int)) = true := decide_eq_true (by omega)
      have e0 : decide (q < pn) = true := decide_eq_true (by omega)
      have hqb : q ≤ 262144 := by have := HQ.out; have := HMB.out; omega
      obtain ⟨qa, hqa⟩ : ∃ x, q + 1 = x := ⟨_, rfl⟩
      obtain ⟨qb, hqb2⟩ : ∃ x, q + 2 = x := ⟨_, rfl⟩
      obtain ⟨qc, hqc⟩ : ∃ x, q + 3 = x := ⟨_, rfl⟩
      have HQS := Lib.hid (And.intro hqa (And.intro hqb2 hqc))
      have HW4 : Hid (wrap64 ((q : Int) + 4) = ((q + 4 : Nat) : Int)) := by show _ = _; rw [IntWalk.wrap64_in _ (by omega)]; rfl
      obtain ⟨pb, po, rfl⟩ := si_some HPw.out (by omega)
      have p0 := si_at HPw.out (q := q) (by omega)
      have p1 := si_at HPw.out (q := qa) (by omega)
      have p2 := si_at HPw.out (q := qb) (by omega)
      have p3 := si_at HPw.out (q := qc) (by omega)
      obtain ⟨q0, q1, q2⟩ := img_cells HRw.out
      have l0 : (q : Int) < (pn : Int) := by omega
      have l1 : (qa : Int) < (pn : Int) := by omega
      have l2 : (qb : Int) < (pn : Int) := by omega
      have l3 : (qc : Int) < (pn : Int) := by omega
      have z0 : (0 : Int) ≤ (q : Int) := by omega
      have z1 : (0 : Int) ≤ (qa : Int) := by omega
      have z2 : (0 : Int) ≤ (qb : Int) := by omega
      have z3 : (0 : Int) ≤ (qc : Int) := by omega
      have m0 : q < pn := by omega
      have m1 : qa < pn := by omega
      have m2 : qb < pn := by omega
      have m3 : qc < pn := by omega
      have u1 : IntKind.i64.wrap ((q : Int) + 1) = (qa : Int) := by rw [IntWalk.i64_in _ (by omega)]; omega
      have u2 : IntKind.i64.wrap ((q : Int) + 2) = (qb : Int) := by clear u1; rw [IntWalk.i64_in _ (by omega)]; omega
      have u3 : IntKind.i64.wrap ((q : Int) + 3) = (qc : Int) := by clear u1 u2; rw [IntWalk.i64_in _ (by omega)]; omega
      have v1 : wrap64 ((q : Int) + 1) = (qa : Int) := by clear u1 u2 u3; rw [IntWalk.wrap64_in _ (by omega)]; omega
      have v2 : wrap64 ((q : Int) + 2) = (qb : Int) := by clear u1 u2 u3 v1; rw [IntWalk.wrap64_in _ (by omega)]; omega
      have v3 : wrap64 ((q : Int) + 3) = (qc : Int) := by clear u1 u2 u3 v1 v2; rw [IntWalk.wrap64_in _ (by omega)]; omega
      have HGM2 : Hid (gm < wr.heap.size) := World.block_lt_of_cell? wr _ q2
      have HGP : Hid (pb < wr.heap.size) := World.block_lt_of_cell? wr _ p0
      have HLT := Lib.hid hlt
      obtain ⟨r, hr⟩ : ∃ r, pix.getD q 0 = r := ⟨_, rfl⟩
      obtain ⟨g, hg⟩ : ∃ r, pix.getD qa 0 = r := ⟨_, rfl⟩
      obtain ⟨b, hb⟩ : ∃ r, pix.getD qb 0 = r := ⟨_, rfl⟩
      obtain ⟨a, ha⟩ : ∃ r, pix.getD qc 0 = r := ⟨_, rfl⟩
      rw [hr] at p0
      rw [hg] at p1
      rw [hb] at p2
      rw [ha] at p3
      have HPX := Lib.hid (And.intro hr (And.intro hg hb))
      have HFV : Hid (∀ W, Below wr.heap.size wr W → W.cell? ⟨gm, 2, none⟩ = some (.slice (some ⟨pb, po, none⟩) pn pc) ∧ W.cell? ⟨pb, po + q, none⟩ = some (.int .u16 r) ∧ W.cell? ⟨pb, po + qa, none⟩ = some (.int .u16 g) ∧ W.cell? ⟨pb, po + qb, none⟩ = some (.int .u16 b) ∧ W.cell? ⟨pb, po + qc, none⟩ = some (.int .u16 a)) := fun W hW => ⟨(hW.cell HGM2.out).trans q2, (hW.cell HGP.out).trans p0, (hW.cell HGP.out).trans p1, (hW.cell HGP.out).trans p2, (hW.cell HGP.out).trans p3⟩
      clear hr hg hb ha hlt hq3 hqb hqa hqb2 hqc q0 q1
      go_upto_region 12 with (fail)
      go_cut [12] (fun s12 wx => s12 = .pointer (some ⟨wr.heap.size, 0, none⟩) ∧ Cx wr wx r g b a)
      case first =>
-- <region
        refine wp_region_noPanic ?_
        refine wp_region_held_drew (S := fun w' => w'.cell? ⟨gm, 2, none⟩ = some (.slice (some ⟨pb, po, none⟩) pn pc) ∧ w'.cell? ⟨pb, po + q, none⟩ = some (.int .u16 r) ∧ w'.cell? ⟨pb, po + qa, none⟩ = some (.int .u16 g) ∧ w'.cell? ⟨pb, po + qb, none⟩ = some (.int .u16 b) ∧ w'.cell? ⟨pb, po + qc, none⟩ = some (.int .u16 a)) (by kernel_rfl) (HFV.out _ (below_drewN (Below.refl _ wr) 1)) (fun hHeld => ?_)
        refine wpAnyH_take (i := 0) (v := .pointer (some ⟨gm, 2, none⟩)) rfl (by kernel_rfl) (by kernel_rfl) (by kernel_rfl) (fun _ _ _ h => h) (Or.inl ⟨by rfl, ?_⟩) hHeld ?_
        · intro wz hSw; (try dsimp only at hSw); obtain ⟨s0, s1, s2, s3, s4⟩ := hSw; go_simp
        try simp only [Act.put, List.setIfInBounds_toArray, List.set_cons_zero, List.set_cons_succ]
        refine wpAnyH_take (i := 1) (v := .slice (some ⟨pb, po, none⟩) pn pc) rfl (by kernel_rfl) (by kernel_rfl) (by kernel_rfl) (fun _ _ _ h => h) (Or.inl ⟨by rfl, ?_⟩) hHeld ?_
        · intro wz hSw; (try dsimp only at hSw); obtain ⟨s0, s1, s2, s3, s4⟩ := hSw; go_simp
        try simp only [Act.put, List.setIfInBounds_toArray, List.set_cons_zero, List.set_cons_succ]
        refine wpAnyH_take (i := 2) (v := .int .i64 q) rfl (by kernel_rfl) (by kernel_rfl) (by kernel_rfl) (fun _ _ _ h => h) (Or.inl ⟨by rfl, ?_⟩) hHeld ?_
        · intro wz hSw; (try dsimp only at hSw); obtain ⟨s0, s1, s2, s3, s4⟩ := hSw; go_simp
        try simp only [Act.put, List.setIfInBounds_toArray, List.set_cons_zero, List.set_cons_succ]
        refine wpAnyH_take (i := 3) (v := .pointer (some ⟨pb, po + q, none⟩)) rfl (by kernel_rfl) (by kernel_rfl) (by kernel_rfl) (fun _ _ _ h => h) (Or.inl ⟨by rfl, ?_⟩) hHeld ?_
        · intro wz hSw; (try dsimp only at hSw); obtain ⟨s0, s1, s2, s3, s4⟩ := hSw; go_simp
        try simp only [Act.put, List.setIfInBounds_toArray, List.set_cons_zero, List.set_cons_succ]
        refine wpAnyH_take (i := 4) (v := .int .u16 r) rfl (by kernel_rfl) (by kernel_rfl) (by kernel_rfl) (fun _ _ _ h => h) (Or.inl ⟨by rfl, ?_⟩) hHeld ?_
        · intro wz hSw; (try dsimp only at hSw); obtain ⟨s0, s1, s2, s3, s4⟩ := hSw; go_simp
        try simp only [Act.put, List.setIfInBounds_toArray, List.set_cons_zero, List.set_cons_succ]
        refine wpAnyH_take (i := 5) (v := .pointer (some ⟨gm, 2, none⟩)) rfl (by kernel_rfl) (by kernel_rfl) (by kernel_rfl) (fun _ _ _ h => h) (Or.inl ⟨by rfl, ?_⟩) hHeld ?_
        · intro wz hSw; (try dsimp only at hSw); obtain ⟨s0, s1, s2, s3, s4⟩ := hSw; go_simp
        try simp only [Act.put, List.setIfInBounds_toArray, List.set_cons_zero, List.set_cons_succ]
        refine wpAnyH_take (i := 6) (v := .slice (some ⟨pb, po, none⟩) pn pc) rfl (by kernel_rfl) (by kernel_rfl) (by kernel_rfl) (fun _ _ _ h => h) (Or.inl ⟨by rfl, ?_⟩) hHeld ?_
        · intro wz hSw; (try dsimp only at hSw); obtain ⟨s0, s1, s2, s3, s4⟩ := hSw; go_simp
        try simp only [Act.put, List.setIfInBounds_toArray, List.set_cons_zero, List.set_cons_succ]
        refine wpAnyH_take (i := 7) (v := .int .i64 q) rfl (by kernel_rfl) (by kernel_rfl) (by kernel_rfl) (fun _ _ _ h => h) (Or.inl ⟨by rfl, ?_⟩) hHeld ?_
        · intro wz hSw; (try dsimp only at hSw); obtain ⟨s0, s1, s2, s3, s4⟩ := hSw; go_simp
        try simp only [Act.put, List.setIfInBounds_toArray, List.set_cons_zero, List.set_cons_succ]
        refine wpAnyH_take (i := 8) (v := .int .i64 qa) rfl (by kernel_rfl) (by kernel_rfl) (by kernel_rfl) (fun _ _ _ h => h) (Or.inl ⟨by rfl, ?_⟩) hHeld ?_
        · intro wz hSw; (try dsimp only at hSw); obtain ⟨s0, s1, s2, s3, s4⟩ := hSw; go_simp
        try simp only [Act.put, List.setIfInBounds_toArray, List.set_cons_zero, List.set_cons_succ]
        refine wpAnyH_take (i := 9) (v := .pointer (some ⟨pb, po + qa, none⟩)) rfl (by kernel_rfl) (by kernel_rfl) (by kernel_rfl) (fun _ _ _ h => h) (Or.inl ⟨by rfl, ?_⟩) hHeld ?_
        · intro wz hSw; (try dsimp only at hSw); obtain ⟨s0, s1, s2, s3, s4⟩ := hSw; go_simp
        try simp only [Act.put, List.setIfInBounds_toArray, List.set_cons_zero, List.set_cons_succ]
        refine wpAnyH_take (i := 10) (v := .int .u16 g) rfl (by kernel_rfl) (by kernel_rfl) (by kernel_rfl) (fun _ _ _ h => h) (Or.inl ⟨by rfl, ?_⟩) hHeld ?_
        · intro wz hSw; (try dsimp only at hSw); obtain ⟨s0, s1, s2, s3, s4⟩ := hSw; go_simp
        try simp only [Act.put, List.setIfInBounds_toArray, List.set_cons_zero, List.set_cons_succ]
        refine wpAnyH_take (i := 11) (v := .pointer (some ⟨gm, 2, none⟩)) rfl (by kernel_rfl) (by kernel_rfl) (by kernel_rfl) (fun _ _ _ h => h) (Or.inl ⟨by rfl, ?_⟩) hHeld ?_
        · intro wz hSw; (try dsimp only at hSw); obtain ⟨s0, s1, s2, s3, s4⟩ := hSw; go_simp
        try simp only [Act.put, List.setIfInBounds_toArray, List.set_cons_zero, List.set_cons_succ]
        refine wpAnyH_take (i := 12) (v := .slice (some ⟨pb, po, none⟩) pn pc) rfl (by kernel_rfl) (by kernel_rfl) (by kernel_rfl) (fun _ _ _ h => h) (Or.inl ⟨by rfl, ?_⟩) hHeld ?_
        · intro wz hSw; (try dsimp only at hSw); obtain ⟨s0, s1, s2, s3, s4⟩ := hSw; go_simp
        try simp only [Act.put, List.setIfInBounds_toArray, List.set_cons_zero, List.set_cons_succ]
        refine wpAnyH_take (i := 13) (v := .int .i64 q) rfl (by kernel_rfl) (by kernel_rfl) (by kernel_rfl) (fun _ _ _ h => h) (Or.inl ⟨by rfl, ?_⟩) hHeld ?_
        · intro wz hSw; (try dsimp only at hSw); obtain ⟨s0, s1, s2, s3, s4⟩ := hSw; go_simp
        try simp only [Act.put, List.setIfInBounds_toArray, List.set_cons_zero, List.set_cons_succ]
        refine wpAnyH_take (i := 14) (v := .int .i64 qb) rfl (by kernel_rfl) (by kernel_rfl) (by kernel_rfl) (fun _ _ _ h => h) (Or.inl ⟨by rfl, ?_⟩) hHeld ?_
        · intro wz hSw; (try dsimp only at hSw); obtain ⟨s0, s1, s2, s3, s4⟩ := hSw; go_simp
        try simp only [Act.put, List.setIfInBounds_toArray, List.set_cons_zero, List.set_cons_succ]
        refine wpAnyH_take (i := 15) (v := .pointer (some ⟨pb, po + qb, none⟩)) rfl (by kernel_rfl) (by kernel_rfl) (by kernel_rfl) (fun _ _ _ h => h) (Or.inl ⟨by rfl, ?_⟩) hHeld ?_
        · intro wz hSw; (try dsimp only at hSw); obtain ⟨s0, s1, s2, s3, s4⟩ := hSw; go_simp
        try simp only [Act.put, List.setIfInBounds_toArray, List.set_cons_zero, List.set_cons_succ]
        refine wpAnyH_take (i := 16) (v := .int .u16 b) rfl (by kernel_rfl) (by kernel_rfl) (by kernel_rfl) (fun _ _ _ h => h) (Or.inl ⟨by rfl, ?_⟩) hHeld ?_
        · intro wz hSw; (try dsimp only at hSw); obtain ⟨s0, s1, s2, s3, s4⟩ := hSw; go_simp
        try simp only [Act.put, List.setIfInBounds_toArray, List.set_cons_zero, List.set_cons_succ]
        refine wpAnyH_take (i := 17) (v := .pointer (some ⟨gm, 2, none⟩)) rfl (by kernel_rfl) (by kernel_rfl) (by kernel_rfl) (fun _ _ _ h => h) (Or.inl ⟨by rfl, ?_⟩) hHeld ?_
        · intro wz hSw; (try dsimp only at hSw); obtain ⟨s0, s1, s2, s3, s4⟩ := hSw; go_simp
        try simp only [Act.put, List.setIfInBounds_toArray, List.set_cons_zero, List.set_cons_succ]
        refine wpAnyH_take (i := 18) (v := .slice (some ⟨pb, po, none⟩) pn pc) rfl (by kernel_rfl) (by kernel_rfl) (by kernel_rfl) (fun _ _ _ h => h) (Or.inl ⟨by rfl, ?_⟩) hHeld ?_
        · intro wz hSw; (try dsimp only at hSw); obtain ⟨s0, s1, s2, s3, s4⟩ := hSw; go_simp
        try simp only [Act.put, List.setIfInBounds_toArray, List.set_cons_zero, List.set_cons_succ]
        refine wpAnyH_take (i := 19) (v := .int .i64 q) rfl (by kernel_rfl) (by kernel_rfl) (by kernel_rfl) (fun _ _ _ h => h) (Or.inl ⟨by rfl, ?_⟩) hHeld ?_
        · intro wz hSw; (try dsimp only at hSw); obtain ⟨s0, s1, s2, s3, s4⟩ := hSw; go_simp
        try simp only [Act.put, List.setIfInBounds_toArray, List.set_cons_zero, List.set_cons_succ]
        refine wpAnyH_take (i := 20) (v := .int .i64 qc) rfl (by kernel_rfl) (by kernel_rfl) (by kernel_rfl) (fun _ _ _ h => h) (Or.inl ⟨by rfl, ?_⟩) hHeld ?_
        · intro wz hSw; (try dsimp only at hSw); obtain ⟨s0, s1, s2, s3, s4⟩ := hSw; go_simp
        try simp only [Act.put, List.setIfInBounds_toArray, List.set_cons_zero, List.set_cons_succ]
        refine wpAnyH_take (i := 21) (v := .pointer (some ⟨pb, po + qc, none⟩)) rfl (by kernel_rfl) (by kernel_rfl) (by kernel_rfl) (fun _ _ _ h => h) (Or.inl ⟨by rfl, ?_⟩) hHeld ?_
        · intro wz hSw; (try dsimp only at hSw); obtain ⟨s0, s1, s2, s3, s4⟩ := hSw; go_simp
        try simp only [Act.put, List.setIfInBounds_toArray, List.set_cons_zero, List.set_cons_succ]
        refine wpAnyH_take (i := 22) (v := .int .u16 a) rfl (by kernel_rfl) (by kernel_rfl) (by kernel_rfl) (fun _ _ _ h => h) (Or.inl ⟨by rfl, ?_⟩) hHeld ?_
        · intro wz hSw; (try dsimp only at hSw); obtain ⟨s0, s1, s2, s3, s4⟩ := hSw; go_simp
        try simp only [Act.put, List.setIfInBounds_toArray, List.set_cons_zero, List.set_cons_succ]
        refine wpAnyH_take (i := 23) (v := .agg #[.int .u16 r, .int .u16 g, .int .u16 b, .int .u16 a]) rfl (by kernel_rfl) (by kernel_rfl) (by kernel_rfl) (fun _ _ _ h => h) (Or.inl ⟨by rfl, ?_⟩) hHeld ?_
        · intro wz hSw; (try dsimp only at hSw); obtain ⟨s0, s1, s2, s3, s4⟩ := hSw; go_simp
        try simp only [Act.put, List.setIfInBounds_toArray, List.set_cons_zero, List.set_cons_succ]
        refine wpAnyH_ready (rs := [24]) (by kernel_rfl) (by simp) ?_
        refine AllReadyH.cons rfl (fun K hK => ?_) AllReadyH.nil
        go_simp
        refine hK.out _ _ (HFV.out _ ((below_drewN (Below.refl _ wr) 1).alloc (Nat.le_refl _) _)) (fun hHeld => ?_)
        clear hK K
        try simp only [Act.put, List.setIfInBounds_toArray, List.set_cons_zero, List.set_cons_succ]
        refine wpAnyH_ready (rs := [25]) (by kernel_rfl) (by simp) ?_
        refine AllReadyH.cons rfl (fun K hK => ?_) AllReadyH.nil
        go_simp
        refine hK.out _ _ (HFV.out _ (((Below.refl _ wr).alloc (Nat.le_refl _) _).drew)) (fun hHeld => ?_)
        clear hK K
        try simp only [Act.put, List.setIfInBounds_toArray, List.set_cons_zero, List.set_cons_succ]
        refine wpAnyH_done (by kernel_rfl) ?_ _
        refine NoPanic.normal ?_
-- region>
        go_wp2
        go_meet
        case rel => exact ⟨rfl, heap_alloc_new wr _, ((Below.refl _ wr).alloc (Nat.le_refl _) _).drew⟩
      case rest =>
        obtain ⟨rfl, hcx, hbc⟩ := hcut
        have HTP := HT.out
        have HRB : Hid (0 ≤ r ∧ r < 65536) := by show _ ∧ _; rw [← HPX.out.1]; exact gd_bd HWF.out _
        have HGB : Hid (0 ≤ g ∧ g < 65536) := by show _ ∧ _; rw [← HPX.out.2.1]; exact gd_bd HWF.out _
        have HBBd : Hid (0 ≤ b ∧ b < 65536) := by show _ ∧ _; rw [← HPX.out.2.2]; exact gd_bd HWF.out _
        have HRC := Lib.hid hcx
        have HLU := Lib.hid (rluma_any (a := a) wc HRB.out HGB.out HBBd.out)
        have HXc := Lib.hid (row_tr HXw.out hbc)
        have HSc := Lib.hid (si_tr HSw.out hbc)
        have HMc := Lib.hid (row_tr HRw.out hbc)
        have HBc : Hid (Below X1.heap.size X1 wc) := bel_tr HBW.out hbc
        obtain ⟨gc, hgc⟩ : ∃ x, wr.heap.size = x := ⟨_, rfl⟩
        have HRC2 : Hid (wc.heap[gc]? = some (.cells #[.int .u16 r, .int .u16 g, .int .u16 b, .int .u16 a] 45 (0, 0))) := by show _ = _; rw [← hgc]; exact HRC.out
        rw [hgc] at *
        have c0 := row_cell HRC2.out 0
        have c1 := row_cell HRC2.out 1
        have c2 := row_cell HRC2.out 2
        have c3 := row_cell HRC2.out 3
        have HLB : Hid (0 ≤ lumaI r g b ∧ lumaI r g b < 65536) := lumaI_bd HRB.out HGB.out HBBd.out
        obtain ⟨L, hL⟩ : ∃ x, lumaI r g b = x := ⟨_, rfl⟩
        rw [hL] at HLU HLB
        have HWT : Hid (∀ j, j < 3 → D.getD (q + j) 0 = wantI kind top r g b j) := fun j hj => by
          have := HBA.out k j HLT.out hj
          rw [← HQ.out] at this
          have e := HQS.out
          rw [this, e.1, e.2.1, HPX.out.1, HPX.out.2.1, HPX.out.2.2]
        have HWA : Hid (D.getD qc 0 = 65535) := by have := HBB.out k HLT.out; rw [← HQ.out, HQS.out.2.2] at this; exact this
        have HLL := Lib.hid hL
        clear hL hcx hbc HRC hgc p0 p1 p2 p3 q2 HRw HXw HSw HPw HFV HTP u1 u2 u3 v1 v2 v3 HR6 HP6 HSI
        go_wp2_with fail
        refine HLU.out.mono ?_
        rintro e w6 ⟨rfl, hb6⟩
        have HX6b := Lib.hid (row_tr HXc.out hb6)
        have HS6b := Lib.hid (si_tr HSc.out hb6)
        have HRC6 := Lib.hid (row_tr HRC2.out hb6)
        have HB6b : Hid (Below X1.heap.size X1 w6) := bel_tr HBc.out hb6
        clear hb6 c0 c1 c2 c3 HRC2 HXc HSc HMc HBc HLU
        have c0 := row_cell HRC6.out 0
        have c1 := row_cell HRC6.out 1
        have c2 := row_cell HRC6.out 2
        have hr7 := heap_alloc_new w6 (.cells #[.int .u16 r, .int .u16 g, .int .u16 b] 47)
        have hb7 := (Below.refl w6.heap.size w6).alloc (Nat.le_refl _) (.cells #[.int .u16 r, .int .u16 g, .int .u16 b] 47)
        go_upto_region 15 with (fail)
        generalize w6.alloc (.cells #[.int .u16 r, .int .u16 g, .int .u16 b] 47) = w7 at hr7 hb7 ⊢
        obtain ⟨gw, hgw⟩ : ∃ x, w6.heap.size = x := ⟨_, rfl⟩
        have HX7 := Lib.hid (row_tr HX6b.out hb7)
        have HS7 := Lib.hid (si_tr HS6b.out hb7)
        have HB7 : Hid (Below X1.heap.size X1 w7) := bel_tr HB6b.out hb7
        rw [hgw] at hr7 ⊢
        have HGW : Hid (X1.heap.size ≤ gw) := by show _ ≤ _; rw [← hgw]; exact HB6b.out.size
        have HR7 := Lib.hid hr7
        clear hr7 hb7 hgw c0 c1 c2 HRC6 HX6b HS6b HB6b
        obtain ⟨o0, ho0⟩ : ∃ x, (if kind = 3 ∨ kind = 6 then [r, g, b].getD 0 0 else L) = x := ⟨_, rfl⟩
        obtain ⟨o1, ho1⟩ : ∃ x, (if kind = 3 ∨ kind = 6 then [r, g, b].getD 1 0 else L) = x := ⟨_, rfl⟩
        obtain ⟨o2, ho2⟩ : ∃ x, (if kind = 3 ∨ kind = 6 then [r, g, b].getD 2 0 else L) = x := ⟨_, rfl⟩
        have HO : Hid ((if kind = 3 ∨ kind = 6 then [r, g, b].getD 0 0 else L) = o0 ∧ (if kind = 3 ∨ kind = 6 then [r, g, b].getD 1 0 else L) = o1 ∧ (if kind = 3 ∨ kind = 6 then [r, g, b].getD 2 0 else L) = o2) := ⟨ho0, ho1, ho2⟩
        clear ho0 ho1 ho2
        obtain ⟨tk, htk⟩ : ∃ x, decide (¬ (kind = 3 ∨ kind = 6)) = x := ⟨_, rfl⟩
        have HTK := Lib.hid htk
        clear htk
        go_cut [116] (fun s116 wx => s116 = .bool tk ∧ w7 = wx)
        case first =>
          by_cases h3 : kind = 3
          · have d3 : (kind != 3) = false := by simp [h3]
            have HF : Hid (tk = false) := by show _ = _; rw [← HTK.out]; simp [h3]
            clear h3
            go_wp2_with fail
            go_meet
            case rel => exact ⟨by rw [HF.out], rfl⟩
          · have d3 : (kind != 3) = true := by simp [h3]
            by_cases h6 : kind = 6
            · have d6 : (kind != 6) = false := by simp [h6]
              have HF : Hid (tk = false) := by show _ = _; rw [← HTK.out]; simp [h6]
              clear h3 h6
              go_wp2_with fail
              go_meet
              case rel => exact ⟨by rw [HF.out], rfl⟩
            · have d6 : (kind != 6) = true := by simp [h6]
              have HF : Hid (tk = true) := by show _ = _; rw [← HTK.out]; simp [h3, h6]
              clear h3 h6
              go_wp2_with fail
              go_meet
              case rel => exact ⟨by rw [HF.out], rfl⟩
        obtain ⟨rfl, rfl⟩ := hcut
        go_upto_if 116 with (fail)
        go_cut [] (fun wx => Below gw w7 wx ∧ wx.heap[gw]? = some (.cells #[.int .u16 o0, .int .u16 o1, .int .u16 o2] 47 (0, 0)))
        case first =>
          have y0 := row_cell HR7.out 0
          have y1 := row_cell HR7.out 1
          have y2 := row_cell HR7.out 2
          cases tk with
          | false =>
            have h36 : kind = 3 ∨ kind = 6 := by have := HTK.out; rw [decide_eq_false_iff_not] at this; omega
            have hO : r = o0 ∧ g = o1 ∧ b = o2 := by
              have := HO.out
              rw [if_pos h36, if_pos h36, if_pos h36] at this
              exact this
            have t3 : Hid (w7.heap[gw]? = some (.cells #[.int .u16 o0, .int .u16 o1, .int .u16 o2] 47 (0, 0))) := by show _ = _; rw [← hO.1, ← hO.2.1, ← hO.2.2]; exact HR7.out
            clear hO h36
            go_wp2_with fail
            go_meet
            case rel => exact ⟨Below.refl _ _, t3.out⟩
          | true =>
            have h36 : ¬ (kind = 3 ∨ kind = 6) := of_decide_eq_true HTK.out
            have hO : L = o0 ∧ L = o1 ∧ L = o2 := by
              have := HO.out
              rw [if_neg h36, if_neg h36, if_neg h36] at this
              exact this
            have HOO := Lib.hid hO
            clear hO h36
            go_wp2_with (refine Ard.wpList_store_rowW rfl 47 (.tmp 14) (.tmp 120) rfl gw #[.int .u16 L, .int .u16 L, .int .u16 L] rfl rfl 47 #[.int .u16 r, .int .u16 g, .int .u16 b] HR7.out (by kernel_rfl) rfl (by simp [Value.oneCell']) gw w7 (Below.refl _ _) (Nat.le_refl _) ?_)
            intro W3 hw1 hw2 hw3
            have HST : Hid (W3.heap[gw]? = some (.cells #[.int .u16 o0, .int .u16 o1, .int .u16 o2] 47 (0, 0))) := by
              obtain ⟨a1, a2, a3⟩ := HOO.out
              show _ = _
              rw [← a1, ← a2, ← a3]
              exact hw1.out
            go_wp2
            go_meet
            case rel => exact ⟨hw2.out, HST.out⟩
        obtain ⟨hb8, hr8⟩ := hcut
        have HB8 : Hid (Below X1.heap.size X1 wc) := HB7.out.trans (hb8.mono HGW.out)
        have HR8 := Lib.hid hr8
        clear hb8 hr8 HR7 HX7 HS7 HB7
        go_wp2_with fail
        go_loopw [15] (fun s15 wj => ∃ j : Nat, j ≤ 3 ∧ s15 = .int .i64 j ∧ Below wc.heap.size wc wj) (fun s15 _ => 3 - (intOf s15).toNat)
        case atStart => exact ⟨0, by omega, rfl, Below.refl _ _⟩
        case round =>
          obtain ⟨j, hj, rfl, hbj⟩ := hrel
          have HB9 : Hid (Below X1.heap.size X1 wr) := bel_tr HB8.out hbj
          have HX9 : Hid (wr.heap[gx]? = _) := (HB9.out.block gx (Array.getElem?_eq_some_iff.1 HX6.out).1).trans HX6.out
          have HS9 := Lib.hid (HS6.out.below HB9.out (Nat.le_refl _))
          have HR9 := Lib.hid (row_tr HR8.out hbj)
          have HBJ := Lib.hid hbj
          clear hbj
          by_cases h3 : j < 3
          · have HJ3 := Lib.hid h3
            have d3 : decide ((j : Int) < 3) = true := decide_eq_true (by omega)
            have hjq : q + j < pn := by have := HQ.out; have := HPN.out; have := HLT.out; omega
            obtain ⟨x0, x1, x2⟩ := img_cells HX9.out
            obtain ⟨xb, xo, rfl⟩ := si_some HS9.out (by omega)
            have px := si_at HS9.out (q := q + j) hjq
            rw [HWT.out j h3] at px
            obtain ⟨qj, hqj⟩ : ∃ x, q + j = x := ⟨_, rfl⟩
            rw [hqj] at px hjq
            have hqj2 : (q : Int) + (j : Int) = (qj : Int) := by omega
            have l9 : (qj : Int) < (pn : Int) := by omega
            have z9 : (0 : Int) ≤ (qj : Int) := by omega
            have zj : (0 : Int) ≤ (j : Int) := by omega
            have lj : (j : Int) < 3 := by omega
            have hqb2 : qj ≤ 262144 := by have := HPN.out; have := HMB.out; omega
            have HW5 : Hid (wrap64 ((j : Int) + 1) = ((j + 1 : Nat) : Int)) := by show _ = _; rw [IntWalk.wrap64_in _ (by omega)]; rfl
            have u9 : IntKind.i64.wrap ((q : Int) + (j : Int)) = (qj : Int) := by rw [IntWalk.i64_in _ (by omega)]; exact hqj2
            have v9 : wrap64 ((q : Int) + (j : Int)) = (qj : Int) := by clear u9; rw [IntWalk.wrap64_in _ (by omega)]; exact hqj2
            obtain ⟨oj, hoj, hoc, hob⟩ : ∃ oj, (if kind = 3 ∨ kind = 6 then [r, g, b].getD j 0 else L) = oj ∧ wr.cell? ⟨gw, j, none⟩ = some (.int .u16 oj) ∧ (0 ≤ oj ∧ oj < 65536) := by
              clear u9 v9
              have e := HO.out
              have hbd : ∀ i, 0 ≤ (if kind = 3 ∨ kind = 6 then [r, g, b].getD i 0 else L) ∧ (if kind = 3 ∨ kind = 6 then [r, g, b].getD i 0 else L) < 65536 := fun i => by
                split
                · exact gd_bd (fun x hx => by
                    simp only [List.mem_cons, List.not_mem_nil, or_false] at hx
                    rcases hx with rfl | rfl | rfl
                    · exact HRB.out
                    · exact HGB.out
                    · exact HBBd.out) i
                · exact HLB.out
              rcases (by omega : j = 0 ∨ j = 1 ∨ j = 2) with h | h | h
              · rw [h]; exact ⟨o0, e.1, row_cell HR9.out 0, by rw [← e.1]; exact hbd 0⟩
              · rw [h]; exact ⟨o1, e.2.1, row_cell HR9.out 1, by rw [← e.2.1]; exact hbd 1⟩
              · rw [h]; exact ⟨o2, e.2.2, row_cell HR9.out 2, by rw [← e.2.2]; exact hbd 2⟩
            have HRD := Lib.hid (round_any (v := oj) (top := top) wr hob HT.out.1 HT.out.2)
            have HOJ : Hid (wantI kind top r g b j = if kind = 1 ∨ kind = 4 then (if L < 32768 then 0 else 65535) else upI (downI oj top) top) := by
              show _ = _
              unfold wantI
              rw [HLL.out, hoj]
            obtain ⟨wv, hwv⟩ : ∃ x, wantI kind top r g b j = x := ⟨_, rfl⟩
            rw [hwv] at px HOJ
            obtain ⟨rv, hrv⟩ : ∃ x, upI (downI oj top) top = x := ⟨_, rfl⟩
            rw [hrv] at HOJ HRD
            clear hwv hrv hoj hob hqj hqj2 h3 hj hqb2
            go_wp2_with fail
            refine HRD.out.mono ?_
            rintro e wq ⟨rfl, rfl⟩
            obtain ⟨tk1, htk1⟩ : ∃ x, decide (kind = 1 ∨ kind = 4) = x := ⟨_, rfl⟩
            have HTK1 := Lib.hid htk1
            clear htk1 HRD
            go_upto_region 21 with (fail)
            go_cut [135] (fun s wx => s = .bool tk1 ∧ wr = wx)
            case first =>
              by_cases h3 : kind = 1
              · have d3 : (kind == 1) = true := by simp [h3]
                have HF : Hid (tk1 = true) := by show _ = _; rw [← HTK1.out]; simp [h3]
                clear h3
                go_wp2_with fail
                go_meet
                case rel => exact ⟨by rw [HF.out], rfl⟩
              · have d3 : (kind == 1) = false := by simp [h3]
                by_cases h6 : kind = 4
                · have d6 : (kind == 4) = true := by simp [h6]
                  have HF : Hid (tk1 = true) := by show _ = _; rw [← HTK1.out]; simp [h6]
                  clear h3 h6
                  go_wp2_with fail
                  go_meet
                  case rel => exact ⟨by rw [HF.out], rfl⟩
                · have d6 : (kind == 4) = false := by simp [h6]
                  have HF : Hid (tk1 = false) := by show _ = _; rw [← HTK1.out]; simp [h3, h6]
                  clear h3 h6
                  go_wp2_with fail
                  go_meet
                  case rel => exact ⟨by rw [HF.out], rfl⟩
            obtain ⟨rfl, rfl⟩ := hcut
            go_upto_if 135 with (fail)
            go_cut [16] (fun s wx => s = .int .u16 wv ∧ wr = wx)
            case first =>
              cases tk1 with
              | false =>
                have hk : ¬ (kind = 1 ∨ kind = 4) := of_decide_eq_false HTK1.out
                have HV : Hid (wv = rv) := by show _ = _; rw [HOJ.out, if_neg hk]
                clear hk
                go_wp2_with fail
                go_meet
                case rel => exact ⟨by rw [HV.out], rfl⟩
              | true =>
                have hk : kind = 1 ∨ kind = 4 := of_decide_eq_true HTK1.out
                by_cases hL : L < 32768
                · have HV : Hid (wv = 0) := by show _ = _; rw [HOJ.out, if_pos hk, if_pos hL]
                  have dl : decide (32768 ≤ L) = false := decide_eq_false (by omega)
                  clear hk hL
                  go_wp2_with fail
                  go_meet
                  case rel => exact ⟨by rw [HV.out], rfl⟩
                · have HV : Hid (wv = 65535) := by show _ = _; rw [HOJ.out, if_pos hk, if_neg hL]
                  have dl : decide (32768 ≤ L) = true := decide_eq_true (by omega)
                  clear hk hL
                  go_wp2_with fail
                  go_meet
                  case rel => exact ⟨by rw [HV.out], rfl⟩
            obtain ⟨rfl, rfl⟩ := hcut
            have dn : (wv != wv) = false := by simp
            go_wp2_with fail
            go_roundw
            case rel => exact ⟨j + 1, HJ3.out, rfl, HBJ.out⟩
            case measure => exact meas_by (d := 1) HJ3.out (by omega)
          · obtain rfl : j = 3 := by omega
            obtain ⟨x0, x1, x2⟩ := img_cells HX9.out
            obtain ⟨xb, xo, rfl⟩ := si_some HS9.out (by omega)
            have px := si_at HS9.out (q := qc) m3
            rw [HWA.out] at px
            have HBE : Hid (Below X1.heap.size X1 wr) := HB9.out
            have u3 : IntKind.i64.wrap ((q : Int) + 3) = (qc : Int) := by have := HQS.out; have := HPN.out; have := HMB.out; rw [IntWalk.i64_in _ (by omega)]; omega
            have v3 : wrap64 ((q : Int) + 3) = (qc : Int) := by clear u3; have := HQS.out; have := HPN.out; have := HMB.out; rw [IntWalk.wrap64_in _ (by omega)]; omega
            clear h3 hj
            go_wp2_with fail
            go_roundw
            case rel => exact ⟨k + 1, q + 4, by show _ = _; have := HQ.out; omega, HLT.out, by rw [HW4.out], HBE.out⟩
            case measure => rw [HW4.out]; exact meas_by m0 (by omega)
    · obtain rfl : k = M := by have := HKM.out; omega
      have hqn : q = pn := by have := HQ.out; have := HPN.out; omega
      have d0 : decide ((q : Int) < (pn : Int)) = false := decide_eq_false (by omega)
      have e0 : decide (q < pn) = false := decide_eq_false (by omega)
      obtain ⟨q0, q1, q2⟩ := img_cells HRw.out
      have HF : Hid (Below w.heap.size w wr) := bel_tr HB6.out HBW.out
      clear hqn hlt
      go_wp2_with fail
      go_ret
      exact ⟨rfl, HF.out⟩
theorem pnmBack_any {W H kind top : Int} {P : Option Addr} {pn pc : Nat} {pix : List Int} (w : World) (HP : SI w .u16 P pn pix) (hwf : ∀ x ∈ pix, 0 ≤ x ∧ x < 65536) (HV : Vars w) :
    Calls Tryd.prog 5 #[.agg #[.int .i64 W, .int .i64 H, .slice P pn pc], .int .i64 kind, .int .i64 top] w (YesP w) := by
  have hl : pix.length = pn := HP.len
  by_cases hg : GoodP W H pn
  · by_cases hk : kind < 1 ∨ 6 < kind ∨ top < 1 ∨ 65535 < top
    · exact back_bad (er := 2) w HP hwf HV (by unfold encM; rw [hl, if_neg (by simpa using hg), if_pos hk]) (by omega)
    · obtain ⟨⟨h1, h2, h3, h4, h5⟩, h6⟩ := hg
      obtain ⟨Wn, rfl⟩ := Int.eq_ofNat_of_zero_le (show 0 ≤ W by omega)
      obtain ⟨Hn, rfl⟩ := Int.eq_ofNat_of_zero_le (show 0 ≤ H by omega)
      have e5 : (Wn : Int) * (Hn : Int) = ((Wn * Hn : Nat) : Int) := by push_cast; rfl
      rw [Int.mul_assoc, e5] at h6
      rw [e5] at h5
      exact back_in w HP hwf HV ⟨⟨h1, h2, h3, h4, by rw [e5]; exact h5⟩, by rw [Int.mul_assoc, e5]; exact h6⟩ (by omega) (by omega) (by omega) (by omega) (by omega) (by omega) (by omega) (by omega) (by omega) (by omega)
  · exact back_bad (er := 6) w HP hwf HV (by unfold encM; rw [hl, if_pos hg]) (by omega)
end Go.Proofs.YtbmlopklhgladaaDoor.Pnm
