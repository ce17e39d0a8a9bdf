/-
  Walks: AroundOwn.
-/
import Derived.Test.YtogmlcgiajigfaaAroX
import Derived.BigQuiet
set_option linter.unusedVariables false
set_option linter.unusedSimpArgs false
namespace Go.Proofs.Ytogmlcgiajigfaa.Ard
open Go.RowKit K

theorem own_own {w : World} {base base2 e e2 sz sz2 n n2 : Nat} {v v2 : Value} {xs xs2 : List Value} (h : w.ownsRow base e sz v n xs) (k : w.ownsRow base2 e2 sz2 v2 n2 xs2) (hne : e ≠ e2) : v.ownBlock = none ∨ v.ownBlock ≠ v2.ownBlock := by
  rcases h.2 with ⟨rfl, -⟩ | ⟨g, cap, cur, rfl, -, hg, -⟩
  · exact .inl rfl
  · exact .inr (own_ne k hg hne)
theorem own_new {w : World} {base e sz n g : Nat} {v : Value} {xs : List Value} (h : w.ownsRow base e sz v n xs) (hg : w.heap.size ≤ g) : some g ≠ v.ownBlock := fun he => by
  have := (h.lt g he.symm).2
  omega
theorem row_gr {w w' : World} {b : Nat} {o : Obj} {row : Option Nat} (h : w.heap[b]? = some o) (hg : w.grownBy w' row) (hne : some b ≠ row) : w'.heap[b]? = some o := (hg.block _ (Array.getElem?_eq_some_iff.1 h).1 hne).trans h
/-- from and by, as they were made -/
structure Ow (w1 V : World) (gz : Nat) (W H : Int) (AC : Option Addr) (cC pn : Nat) (pix : List Int) (gg cap n : Nat) (a : List Int) : Prop where
  bel : Below w1.heap.size w1 V
  row : V.heap[gz]? = some (.cells #[.int .i64 W, .int .i64 H, .slice AC pn cC] 37 (0, 0))
  sp : SI V .u16 AC pn pix
  si : SI V .i64 (some ⟨gg, 0, none⟩) n a
  c77 : V.cell? ⟨gg, n, none⟩ = some (.int .i64 77)
  cp : pn ≤ cC ∧ cC ≤ maxLen
  cb : n + 1 ≤ cap ∧ cap ≤ maxLen
theorem si_app {V : World} {base gg cap n : Nat} {a : List Int} (ho : V.ownsRow base 3 1 (.slice (some ⟨gg, 0, none⟩) (n + 1) cap) (n + 1) (a.map (.int .i64) ++ [.int .i64 77])) (hal : a.length = n) (hab : n ≤ 17592186043904) : SI V .i64 (some ⟨gg, 0, none⟩) n a := by
  refine ⟨hal, by show n * 8 ≤ 140737488351232; omega, fun j u hu => Sl.of_own ho j u ?_⟩
  have hj : j < a.length := by
    have := (List.getElem?_eq_some_iff.1 hu).1
    simpa using this
  rw [List.getElem?_append_left (by simpa using hj)]
  exact hu
theorem c77_app {V : World} {base gg cap n : Nat} {a : List Int} (ho : V.ownsRow base 3 1 (.slice (some ⟨gg, 0, none⟩) (n + 1) cap) (n + 1) (a.map (.int .i64) ++ [.int .i64 77])) (hal : a.length = n) : V.cell? ⟨gg, n, none⟩ = some (.int .i64 77) := by
  rw [ho.cellAt (g := gg) n (by omega), List.getElem?_append_right (by simp; omega)]
  simp [hal]
theorem ow_alloc {w1 v : World} {W H : Int} {AC : Option Addr} {cC pn gg cap n : Nat} {pix a : List Int} (hb : Below w1.heap.size w1 v) (ho : v.ownsRow w1.heap.size 53 1 (.slice AC pn cC) pn (pix.map (.int .u16)))
    (hi : v.ownsRow w1.heap.size 3 1 (.slice (some ⟨gg, 0, none⟩) (n + 1) cap) (n + 1) (a.map (.int .i64) ++ [.int .i64 77])) (hal : a.length = n) (hpb : pn ≤ 70368744175616) (hab : n ≤ 17592186043904) :
    Ow w1 (v.alloc (.cells #[.int .i64 W, .int .i64 H, .slice AC pn cC] 37)) v.heap.size W H AC cC pn pix gg cap n a :=
  ⟨bel_al hb _, heap_alloc_new _ _, (SI.of_own ho (by simp only [kb]; omega)).alloc _, (si_app hi hal hab).alloc _, c77_app (hi.alloc _) hal, own_caps ho, own_caps hi⟩
theorem ow_set {w1 v : World} {gz : Nat} {W H : Int} {AC : Option Addr} {cC pn gg cap n : Nat} {pix a : List Int} (hb : Below w1.heap.size w1 v) (ho : v.ownsRow w1.heap.size 53 1 (.slice AC pn cC) pn (pix.map (.int .u16)))
    (hi : v.ownsRow w1.heap.size 3 1 (.slice (some ⟨gg, 0, none⟩) (n + 1) cap) (n + 1) (a.map (.int .i64) ++ [.int .i64 77])) (hz : v.heap[gz]? = some (.cells zimg 37 (0, 0))) (hg : w1.heap.size ≤ gz) (hal : a.length = n) (hpb : pn ≤ 70368744175616) (hab : n ≤ 17592186043904) :
    Ow w1 (((v.setCell ⟨gz, 0, none⟩ (.int .i64 W)).setCell ⟨gz, 1, none⟩ (.int .i64 H)).setCell ⟨gz, 2, none⟩ (.slice AC pn cC)) gz W H AC cC pn pix gg cap n a := by
  have hk : ∀ {e : Nat} {u : Value} {m : Nat} {xs : List Value} {V V' : World}, some gz ≠ u.ownBlock → V.ownsRow w1.heap.size e 1 u m xs → V.grownBy V' (some gz) → V'.ownsRow w1.heap.size e 1 u m xs :=
    fun hne h hg => h.kept hg (.inr hne.symm)
  have n1 := own_ne ho hz (by decide)
  have n2 := own_ne hi hz (by decide)
  have o2 := hk n1 (hk n1 (hk n1 ho (grown_set1 _ _ 0 (.int .i64 W))) (grown_set1 _ _ 1 (.int .i64 H))) (grown_set1 _ _ 2 (.slice AC pn cC))
  have i2 := hk n2 (hk n2 (hk n2 hi (grown_set1 _ _ 0 (.int .i64 W))) (grown_set1 _ _ 1 (.int .i64 H))) (grown_set1 _ _ 2 (.slice AC pn cC))
  exact ⟨((hb.setCell (p := ⟨gz, 0, none⟩) hg _).setCell (p := ⟨gz, 1, none⟩) hg _).setCell (p := ⟨gz, 2, none⟩) hg _, row_sets hz, SI.of_own o2 (by simp only [kb]; omega), si_app i2 hal hab, c77_app i2 hal, own_caps ho, own_caps hi⟩
/-- while the outcome's samples are turned -/
structure Xw (w4 wr : World) (base : Nat) (A1 : Option Addr) (N c1 : Nat) (l : List Int) : Prop where
  own : wr.ownsRow base 53 1 (.slice A1 N c1) N (l.map (.int .u16))
  gr : w4.grownBy wr (Value.slice A1 N c1).ownBlock
theorem Xw.set {w4 wr : World} {base b1 N c1 : Nat} {l : List Int} (h : Xw w4 wr base (some ⟨b1, 0, none⟩) N c1 l) (i : Nat) (v : Int) : Xw w4 (wr.setCell ⟨b1, i, none⟩ (.int .u16 v)) base (some ⟨b1, 0, none⟩) N c1 (l.set i v) :=
  ⟨by rw [List.map_set]; exact own_setJ h.own, grown_set h.gr i _⟩
theorem Xw.drew {w4 wr : World} {base N c1 : Nat} {A1 : Option Addr} {l : List Int} (h : Xw w4 wr base A1 N c1 l) : Xw w4 wr.drew base A1 N c1 l :=
  ⟨own_b h.own (Below.refl _ _).drew, grown_drew h.gr⟩
theorem own_apart {w : World} {base base2 e e2 sz sz2 n n2 z : Nat} {v v2 : Value} {xs xs2 : List Value} (h : w.ownsRow base e sz v n xs) {V : World} (k : V.ownsRow base2 e2 sz2 v2 n2 xs2) (hk : V.heap.size ≤ base) : v.ownBlock = none ∨ v.ownBlock ≠ v2.ownBlock := by
  cases hv : v.ownBlock with
  | none => exact .inl rfl
  | some b =>
    refine .inr fun e => ?_
    have h1 := (h.lt b hv).1
    have h2 := (k.lt b e.symm).2
    omega
set_option maxRecDepth 20000 in
set_option maxHeartbeats 8000000 in
theorem aroundOwn_any {op : ByteArray} {A : Option Addr} {n c : Nat} {a : List Int} {X Y RW RH W H : Int} {P : Option Addr} {pn pc : Nat} {pix : List Int} (w : World) (HA : SI w .i64 A n a) (HP : SI w .u16 P pn pix) (hwv : ∀ v ∈ pix, 0 ≤ v ∧ v < 65536) :
    Calls Try.prog 9 #[.agg (wkC op A n c X Y RW RH), .agg #[.int .i64 W, .int .i64 H, .slice P pn pc]] w (TestP w true) := by
  have HPP := Lib.hid HP
  have HII := Lib.hid HA
  have HWV := Lib.hid hwv
  have hbig : pn * 2 ≤ 140737488351232 := HP.sz
  have hbiga : n * 8 ≤ 140737488351232 := HA.sz
  have HAB : Hid (n ≤ 17592186043904) := by show _ ≤ _; omega
  have HPB : Hid (pn ≤ 70368744175616) := by show _ ≤ _; omega
  have HAL := Lib.hid HA.len
  have HPL := Lib.hid HP.len
  obtain ⟨w0, hw0, r0, r1, hs0, hb0⟩ := two_allocs w (.cells (wkC op A n c X Y RW RH) 48) (.cells #[.int .i64 W, .int .i64 H, .slice P pn pc] 37)
  have R0 := Lib.hid r0
  have R1 := Lib.hid r1
  have HB0 := Lib.hid hb0
  obtain ⟨gw, hgw⟩ : ∃ x, w.heap.size = x := ⟨_, rfl⟩
  have HGW := Lib.hid hgw
  rw [hgw] at R0 R1
  obtain ⟨E, hE⟩ : ∃ E, partE op a W H pn X Y RW RH = E := ⟨_, rfl⟩
  obtain ⟨LL, hL⟩ : ∃ l, lE E (partL op a W H pix X Y RW RH) = l := ⟨_, rfl⟩
  have HLL : Hid (LL.length ≤ 67108864) := by show _ ≤ _; rw [← hL, ← hE]; exact lE_len
  have HAP : Hid (∀ V AI kI AC cC, SI V .i64 AI n a → SI V .u16 AC pn pix → pn ≤ cC ∧ cC ≤ maxLen → Calls Try.prog 22 #[.string op, .slice AI n kI, .agg #[.int .i64 W, .int .i64 H, .slice AC pn cC], .agg #[.int .i64 X, .int .i64 Y, .int .i64 RW, .int .i64 RH]] V (ImgP V (zE E RW) (zE E RH) LL E)) := fun V AI kI AC cC h1 h2 h3 => by
    have hcap := h3.2
    unfold maxLen at hcap
    have := (part_any (op := op) (c := kI) (W := W) (H := H) (X := X) (Y := Y) (RW := RW) (RH := RH) V h1 h2 hwv h3.1 (by omega)).mono fun e w' h => ans_img h
    rwa [hE, hL] at this
  have HRP : Hid (∀ V, SI V .i64 A n a → SI V .u16 P pn pix → Calls Try.prog 23 #[.string op, .slice A n c, .agg #[.int .i64 W, .int .i64 H, .slice P pn pc], .agg #[.int .i64 X, .int .i64 Y, .int .i64 RW, .int .i64 RH]] V (ImgP V (zE E RW) (zE E RH) LL E)) := fun V h1 h2 => by
    have := (rpart_any (op := op) (c := c) (W := W) (H := H) (X := X) (Y := Y) (RW := RW) (RH := RH) (pc := pc) V h1 h2 hwv).mono fun e w' h => ans_img h
    rwa [hE, hL] at this
  clear HP HA hwv hE hL hbig hbiga r0 r1 hs0 hb0 HWV
  unfold wkC at hw0
  unfold wkC
  go_enter Try.func9, Try.ntmps9
  go_wp2_with fail
  try rw [hw0]
  clear hw0 hgw
  refine (wakes_any _).mono ?_
  rintro e w1 ⟨rfl, hb1⟩
  have HB1 : Hid (Below w.heap.size w w1) := bel_tr HB0.out hb1
  have T0 : Hid (w1.heap[gw]? = some (.cells (wkC op A n c X Y RW RH) 48 (0, 0))) := row_tr R0.out hb1
  have T1 : Hid (w1.heap[gw + 1]? = some (.cells #[.int .i64 W, .int .i64 H, .slice P pn pc] 37 (0, 0))) := row_tr R1.out hb1
  have HI1 : Hid (SI w1 .i64 A n a) := HII.out.below HB1.out (Nat.le_refl _)
  have HP1 : Hid (SI w1 .u16 P pn pix) := HPP.out.below HB1.out (Nat.le_refl _)
  clear hb1 HB0 R0 R1 HII HPP
  try rw [HGW.out]
  go_upto_region 3 with (fail)
--<region1
  have HBV : Hid (Below w1.heap.size w1 w1) := Below.refl _ _
  obtain ⟨-, c1, -, -, -, -⟩ := wk_cells (row_tr T0.out HBV.out)
  obtain ⟨d0, d1, d2⟩ := img_cells (row_tr T1.out HBV.out)
  have hsv := HBV.out.size
  have gw0 : gw < w1.heap.size := World.block_lt_of_cell? w1 _ c1
  have gw1 : gw + 1 < w1.heap.size := World.block_lt_of_cell? w1 _ d0
  go_cut [5, 6] (fun s5 s6 wx => ∃ gz AC cC gg cap, s5 = .pointer (some ⟨gz, 0, none⟩) ∧ s6 = .slice (some ⟨gg, 0, none⟩) (n + 1) cap ∧ Ow w1 wx gz W H AC cC pn pix gg cap n a)
  case first =>
    go_region_held3 (fun w' => w'.cell? ⟨gw, 1, none⟩ = some (.slice A n c) ∧ w'.cell? ⟨gw + 1, 0, none⟩ = some (.int .i64 W) ∧ w'.cell? ⟨gw + 1, 1, none⟩ = some (.int .i64 H) ∧ w'.cell? ⟨gw + 1, 2, none⟩ = some (.slice P pn pc))
      (first
        | go_keep
        | exact ⟨c1, d0, d1, d2⟩
        | exact ⟨cell_set3 c1 (by show gw ≠ _; omega), cell_set3 d0 (by show gw + 1 ≠ _; omega), cell_set3 d1 (by show gw + 1 ≠ _; omega), cell_set3 d2 (by show gw + 1 ≠ _; omega)⟩)
      ((first
        | (go_at_call 19
           (with_reducible refine (own_any (pc := pc) _ (si_tr HP1.out (by (repeat (first | with_reducible exact HBV.out | with_reducible refine bel_al ?_ _ | with_reducible refine bel_dr ?_)); all_goals fail))).mono ?_)
           rintro e v2 ⟨hb2, AC, cC, rfl, hown2, hc1, hc2⟩
           rw [HPL.out]
           have HOWN : Hid (v2.ownsRow w1.heap.size 53 1 (.slice AC pix.length cC) pix.length (pix.map (.int .u16))) := own_base hown2 (by exact Below.size (by (repeat (first | with_reducible exact HBV.out | with_reducible refine bel_al ?_ _ | with_reducible refine bel_dr ?_)); all_goals fail))
           rw [HPL.out] at HOWN
           have HBV : Hid (Below w1.heap.size w1 v2) := bel_tr (by (repeat (first | with_reducible exact HBV.out | with_reducible refine bel_al ?_ _ | with_reducible refine bel_dr ?_)); all_goals fail) hb2
           first
             | have HZ := Lib.hid (row_tr HZ.out hb2)
             | have HZ := Lib.hid (row_tr (row_al HZ.out) hb2)
             | have HZ : Hid (v2.heap[w1.heap.size]? = some (.cells zimg 37 (0, 0))) := row_tr (row_dr (row_new rfl)) hb2
             | have HZ : Hid (v2.heap[w1.heap.size]? = some (.cells zimg 37 (0, 0))) := row_tr (row_dr (row_al (row_new rfl))) hb2
             | have HZ : Hid (v2.heap[w1.heap.size + 1]? = some (.cells zimg 37 (0, 0))) := row_tr (row_dr (row_new (World.size_alloc _ _))) hb2
             | skip
           first
             | have H7 := Lib.hid (row_tr H7.out hb2)
             | have H7 := Lib.hid (row_tr (row_al H7.out) hb2)
             | have H7 : Hid (v2.heap[w1.heap.size]? = some (.cells #[.int .i64 77] 3 (0, 0))) := row_tr (row_dr (row_new rfl)) hb2
             | have H7 : Hid (v2.heap[w1.heap.size]? = some (.cells #[.int .i64 77] 3 (0, 0))) := row_tr (row_dr (row_al (row_new rfl))) hb2
             | have H7 : Hid (v2.heap[w1.heap.size + 1]? = some (.cells #[.int .i64 77] 3 (0, 0))) := row_tr (row_dr (row_new (World.size_alloc _ _))) hb2
             | skip
           obtain ⟨-, c1, -, -, -, -⟩ := wk_cells (row_tr T0.out HBV.out)
           obtain ⟨d0, d1, d2⟩ := img_cells (row_tr T1.out HBV.out)
           have hsv := HBV.out.size
           have gw0 : gw < v2.heap.size := World.block_lt_of_cell? v2 _ c1
           have gw1 : gw + 1 < v2.heap.size := World.block_lt_of_cell? v2 _ d0
           clear hb2 hown2 hc1 hc2)
        | (go_at_call 14
           (with_reducible refine (ints_any _ (si_tr HI1.out (by (repeat (first | with_reducible exact HBV.out | with_reducible refine bel_al ?_ _ | with_reducible refine bel_dr ?_)); all_goals fail))).mono ?_)
           rintro e v1 ⟨AI, kI, rfl, hownI, hb1⟩
           rw [HAL.out]
           have HOI : Hid (v1.ownsRow w1.heap.size 3 1 (.slice AI a.length kI) a.length (a.map (.int .i64))) := own_base hownI (by exact Below.size (by (repeat (first | with_reducible exact HBV.out | with_reducible refine bel_al ?_ _ | with_reducible refine bel_dr ?_)); all_goals fail))
           rw [HAL.out] at HOI
           have HOWN : Hid (v1.ownsRow w1.heap.size 53 1 (.slice AC pn cC) pn (pix.map (.int .u16))) := by
             refine Lib.hid (own_b ?ka hb1)
             case ka => (repeat (first | with_reducible exact HOWN.out | with_reducible refine World.ownsRow.alloc ?_ _)); all_goals fail
           have HBV : Hid (Below w1.heap.size w1 v1) := bel_tr (by (repeat (first | with_reducible exact HBV.out | with_reducible refine bel_al ?_ _ | with_reducible refine bel_dr ?_)); all_goals fail) hb1
           first
             | have HZ := Lib.hid (row_tr HZ.out hb1)
             | have HZ := Lib.hid (row_tr (row_al HZ.out) hb1)
             | have HZ : Hid (v1.heap[v2.heap.size]? = some (.cells zimg 37 (0, 0))) := row_tr (row_new rfl) hb1
             | have HZ : Hid (v1.heap[v2.heap.size]? = some (.cells zimg 37 (0, 0))) := row_tr (row_al (row_new rfl)) hb1
             | have HZ : Hid (v1.heap[v2.heap.size + 1]? = some (.cells zimg 37 (0, 0))) := row_tr (row_new (World.size_alloc _ _)) hb1
             | skip
           first
             | have H7 := Lib.hid (row_tr H7.out hb1)
             | have H7 := Lib.hid (row_tr (row_al H7.out) hb1)
             | have H7 : Hid (v1.heap[v2.heap.size]? = some (.cells #[.int .i64 77] 3 (0, 0))) := row_tr (row_new rfl) hb1
             | have H7 : Hid (v1.heap[v2.heap.size]? = some (.cells #[.int .i64 77] 3 (0, 0))) := row_tr (row_al (row_new rfl)) hb1
             | have H7 : Hid (v1.heap[v2.heap.size + 1]? = some (.cells #[.int .i64 77] 3 (0, 0))) := row_tr (row_new (World.size_alloc _ _)) hb1
             | skip
           obtain ⟨-, c1, -, -, -, -⟩ := wk_cells (row_tr T0.out HBV.out)
           obtain ⟨d0, d1, d2⟩ := img_cells (row_tr T1.out HBV.out)
           have hsv := HBV.out.size
           have gw0 : gw < v1.heap.size := World.block_lt_of_cell? v1 _ c1
           have gw1 : gw + 1 < v1.heap.size := World.block_lt_of_cell? v1 _ d0
           clear hb1 hownI)
        | (refine step_push (by rfl) (.tmp 21) (.tmp 22) _ (by rfl) w1.heap.size 3 1 8 _ Try.underlying22 infoInt rfl (by omega) (Value.slice AI n kI) n (List.map (Value.int IntKind.i64) a) (by rfl) ?hown _ 1 [Value.int IntKind.i64 77] 3 (by rfl) (by rfl) ?hblk (by simp [Value.oneCell']) (by have := HAB.out; unfold maxLen; omega) (by have := HAB.out; omega) ?hbel _ rfl ?_
           case hown => (repeat (first | with_reducible exact HOI.out | with_reducible refine World.ownsRow.alloc ?_ _)); all_goals fail
           case hblk => first | with_reducible exact H7.out | with_reducible exact row_al H7.out | with_reducible exact row_new rfl | with_reducible exact row_al (row_new rfl) | with_reducible exact row_new (World.size_alloc _ _)
           case hbel => exact Below.size (by (repeat (first | with_reducible exact HBV.out | with_reducible refine bel_al ?_ _ | with_reducible refine bel_dr ?_)); all_goals fail)
           intro gg cap w5 hown5 hg5 hat5 hlt5
           have HOWN : Hid (w5.ownsRow w1.heap.size 53 1 (.slice AC pn cC) pn (pix.map (.int .u16))) := by
             refine Lib.hid (World.ownsRow.kept ?ka hg5 ?kb)
             case ka => (repeat (first | with_reducible exact HOWN.out | with_reducible refine World.ownsRow.alloc ?_ _)); all_goals fail
             case kb => exact own_own HOWN.out HOI.out (by decide)
           have HO5 := Lib.hid hown5
           have HBV : Hid (Below w1.heap.size w1 w5) := by
             refine Lib.hid (Below.grown ?ka hg5 ?kb (fun b e => (HOI.out.lt b e).1))
             case ka => exact (by (repeat (first | with_reducible exact HBV.out | with_reducible refine bel_al ?_ _ | with_reducible refine bel_dr ?_)); all_goals fail)
             case kb => exact Below.size (by (repeat (first | with_reducible exact HBV.out | with_reducible refine bel_al ?_ _ | with_reducible refine bel_dr ?_)); all_goals fail)
           first
             | have HZ := Lib.hid (row_gr HZ.out hg5 (own_ne HOI.out HZ.out (by decide)))
             | have HZ := Lib.hid (row_gr (row_al HZ.out) hg5 (own_ne HOI.out HZ.out (by decide)))
             | have HZ : Hid (w5.heap[v1.heap.size]? = some (.cells zimg 37 (0, 0))) := row_gr (row_new rfl) hg5 (own_new HOI.out (by exact Nat.le_refl _))
             | have HZ : Hid (w5.heap[v1.heap.size]? = some (.cells zimg 37 (0, 0))) := row_gr (row_al (row_new rfl)) hg5 (own_new HOI.out (by exact Nat.le_refl _))
             | have HZ : Hid (w5.heap[v1.heap.size + 1]? = some (.cells zimg 37 (0, 0))) := row_gr (row_new (World.size_alloc _ _)) hg5 (own_new HOI.out (by omega))
             | skip
           first
             | (have zz := zi_cells HZ.out
                obtain ⟨z0, z1, z2, q0, q1, q2⟩ := zz)
             | skip
           obtain ⟨-, c1, -, -, -, -⟩ := wk_cells (row_tr T0.out HBV.out)
           obtain ⟨d0, d1, d2⟩ := img_cells (row_tr T1.out HBV.out)
           have hsv := HBV.out.size
           have gw0 : gw < w5.heap.size := World.block_lt_of_cell? w5 _ c1
           have gw1 : gw + 1 < w5.heap.size := World.block_lt_of_cell? w5 _ d0
           clear hown5 hg5 hat5 hlt5)
        | fail))
    all_goals (
      try refine NoPanic.normal ?_
      go_wp2
      go_meet
      case rel =>
        first
          | exact ⟨_, AC, cC, gg, cap, rfl, rfl, ow_alloc HBV.out HOWN.out HO5.out HAL.out HPB.out HAB.out⟩
          | exact ⟨_, AC, cC, gg, cap, rfl, rfl, ow_set HBV.out HOWN.out HO5.out HZ.out (by omega) HAL.out HPB.out HAB.out⟩)
--region1>
  case rest =>
    obtain ⟨gz, AC, cC, gg, cap, rfl, rfl, how⟩ := hcut
    obtain ⟨w2, hw2⟩ : ∃ v, wc = v := ⟨_, rfl⟩
    rw [hw2] at how ⊢
    clear hw2
    have HB2 : Hid (Below w.heap.size w w2) := bel_tr HB1.out how.bel
    have V0 : Hid (w2.heap[gw]? = some (.cells (wkC op A n c X Y RW RH) 48 (0, 0))) := row_tr T0.out how.bel
    have V2 : Hid (w2.heap[gw + 1]? = some (.cells #[.int .i64 W, .int .i64 H, .slice P pn pc] 37 (0, 0))) := row_tr T1.out how.bel
    have V1 : Hid (w2.heap[gz]? = some (.cells #[.int .i64 W, .int .i64 H, .slice AC pn cC] 37 (0, 0))) := how.row
    have HI2 := Lib.hid (si_tr HI1.out how.bel)
    have HP2 := Lib.hid (si_tr HP1.out how.bel)
    have HSP := Lib.hid how.sp
    have HSI := Lib.hid how.si
    have HC77 := Lib.hid how.c77
    have HCC := Lib.hid how.cp
    have HCB := Lib.hid how.cb
    have j0 : (0 : Int) ≤ (n : Int) := by omega
    have j1 : (n : Int) ≤ (cap : Int) := by have := HCB.out; omega
    have j2 : n ≤ cap := by have := HCB.out; omega
    clear how c1 d0 d1 d2 hsv gw0 gw1 HBV T0 T1 HI1 HP1 HB1
    go_upto_region 4 with (fail)
--<region2
    have HBV : Hid (Below w2.heap.size w2 w2) := Below.refl _ _
    obtain ⟨c0, c1, c2, c3, c4, c5⟩ := wk_cells (row_tr V0.out HBV.out)
    obtain ⟨d0, d1, d2⟩ := img_cells (row_tr V1.out HBV.out)
    have hsv := HBV.out.size
    have gw0 : gw < w2.heap.size := World.block_lt_of_cell? w2 _ c0
    have gw1 : gz < w2.heap.size := World.block_lt_of_cell? w2 _ d0
    go_cut [7, 8] (fun s12 s13 wx => ∃ gy A1 c1, s12 = .pointer (some ⟨gy, 0, none⟩) ∧ s13 = .int .i64 E ∧ Got w2 wx gy (zE E RW) (zE E RH) A1 c1 LL)
    case first =>
      go_region_held3 (fun w' => w'.cell? ⟨gw, 0, none⟩ = some (.string op) ∧ w'.cell? ⟨gw, 1, none⟩ = some (.slice A n c) ∧ w'.cell? ⟨gw, 2, none⟩ = some (.int .i64 X) ∧ w'.cell? ⟨gw, 3, none⟩ = some (.int .i64 Y) ∧ w'.cell? ⟨gw, 4, none⟩ = some (.int .i64 RW) ∧ w'.cell? ⟨gw, 5, none⟩ = some (.int .i64 RH) ∧ w'.cell? ⟨gz, 0, none⟩ = some (.int .i64 W) ∧ w'.cell? ⟨gz, 1, none⟩ = some (.int .i64 H) ∧ w'.cell? ⟨gz, 2, none⟩ = some (.slice AC pn cC))
        (first
          | go_keep
          | exact ⟨c0, c1, c2, c3, c4, c5, d0, d1, d2⟩
          | exact ⟨cell_set3 c0 (by show gw ≠ _; omega), cell_set3 c1 (by show gw ≠ _; omega), cell_set3 c2 (by show gw ≠ _; omega), cell_set3 c3 (by show gw ≠ _; omega), cell_set3 c4 (by show gw ≠ _; omega), cell_set3 c5 (by show gw ≠ _; omega), cell_set3 d0 (by show gz ≠ _; omega), cell_set3 d1 (by show gz ≠ _; omega), cell_set3 d2 (by show gz ≠ _; omega)⟩)
        ((first
          | (go_at_call 22
             (with_reducible refine (HAP.out _ _ _ _ _ (si_tr HSI.out (by (repeat (first | with_reducible exact HBV.out | with_reducible refine bel_al ?_ _ | with_reducible refine bel_dr ?_)); all_goals fail)) (si_tr HSP.out (by (repeat (first | with_reducible exact HBV.out | with_reducible refine bel_al ?_ _ | with_reducible refine bel_dr ?_)); all_goals fail)) HCC.out).mono ?_)
             rintro e v3 ⟨hb3, A1, c1', rfl, hown3⟩
             have HOX : Hid (v3.ownsRow w2.heap.size 53 1 (.slice A1 (LL).length c1') (LL).length ((LL).map (.int .u16))) := own_base hown3 (Below.size (by (repeat (first | with_reducible exact HBV.out | with_reducible refine bel_al ?_ _ | with_reducible refine bel_dr ?_)); all_goals fail))
             first
               | have HZ : Hid (v3.heap[w2.heap.size]? = some (.cells zimg 37 (0, 0))) := row_tr (row_dr (row_new rfl)) hb3
               | skip
             have hs12 := HBV.out.size
             have HBV : Hid (Below w2.heap.size w2 v3) := bel_tr (by (repeat (first | with_reducible exact HBV.out | with_reducible refine bel_al ?_ _ | with_reducible refine bel_dr ?_)); all_goals fail) hb3
             first
               | (have zz := zi_cells HZ.out
                  obtain ⟨z0, z1, z2, q0, q1, q2⟩ := zz)
               | skip
             obtain ⟨c0, c1, c2, c3, c4, c5⟩ := wk_cells (row_tr V0.out HBV.out)
             obtain ⟨d0, d1, d2⟩ := img_cells (row_tr V1.out HBV.out)
             have hsv := HBV.out.size
             have gw0 : gw < v3.heap.size := World.block_lt_of_cell? v3 _ c0
             have gw1 : gz < v3.heap.size := World.block_lt_of_cell? v3 _ d0
             skip)))
      all_goals (
        try refine NoPanic.normal ?_
        go_wp2
        go_meet
        case rel =>
          first
            | exact ⟨_, A1, c1', rfl, rfl, got_alloc HBV.out HOX.out⟩
            | exact ⟨_, A1, c1', rfl, rfl, got_set HBV.out HOX.out HZ.out (by omega)⟩)
--region2>
    case rest =>
      obtain ⟨gx, A1, c1', rfl, rfl, hgot⟩ := hcut
      obtain ⟨w3, hw3⟩ : ∃ v, wc = v := ⟨_, rfl⟩
      rw [hw3] at hgot ⊢
      clear hw3
      have HGX := Lib.hid hgot
      have W0 : Hid (w3.heap[gw]? = some (.cells (wkC op A n c X Y RW RH) 48 (0, 0))) := row_tr V0.out hgot.bel
      have W1 : Hid (w3.heap[gz]? = some (.cells #[.int .i64 W, .int .i64 H, .slice AC pn cC] 37 (0, 0))) := row_tr V1.out hgot.bel
      have HSI3 := Lib.hid (si_tr HSI.out hgot.bel)
      have HSP3 := Lib.hid (si_tr HSP.out hgot.bel)
      clear hgot c0 c1 c2 c3 c4 c5 d0 d1 d2 hsv gw0 gw1 HBV
      go_upto_region 5 with (fail)
--<region3
      have HBV : Hid (Below w3.heap.size w3 w3) := Below.refl _ _
      obtain ⟨c0, c1, c2, c3, c4, c5⟩ := wk_cells (row_tr W0.out HBV.out)
      obtain ⟨d0, d1, d2⟩ := img_cells (row_tr W1.out HBV.out)
      have hsv := HBV.out.size
      have gw0 : gw < w3.heap.size := World.block_lt_of_cell? w3 _ c0
      have gw1 : gz < w3.heap.size := World.block_lt_of_cell? w3 _ d0
      go_cut [9, 10] (fun s12 s13 wx => ∃ gy A1 c1, s12 = .pointer (some ⟨gy, 0, none⟩) ∧ s13 = .int .i64 E ∧ Got w3 wx gy (zE E RW) (zE E RH) A1 c1 LL)
      case first =>
        go_region_held3 (fun w' => w'.cell? ⟨gw, 0, none⟩ = some (.string op) ∧ w'.cell? ⟨gw, 1, none⟩ = some (.slice A n c) ∧ w'.cell? ⟨gw, 2, none⟩ = some (.int .i64 X) ∧ w'.cell? ⟨gw, 3, none⟩ = some (.int .i64 Y) ∧ w'.cell? ⟨gw, 4, none⟩ = some (.int .i64 RW) ∧ w'.cell? ⟨gw, 5, none⟩ = some (.int .i64 RH) ∧ w'.cell? ⟨gz, 0, none⟩ = some (.int .i64 W) ∧ w'.cell? ⟨gz, 1, none⟩ = some (.int .i64 H) ∧ w'.cell? ⟨gz, 2, none⟩ = some (.slice AC pn cC))
          (first
            | go_keep
            | exact ⟨c0, c1, c2, c3, c4, c5, d0, d1, d2⟩
            | exact ⟨cell_set3 c0 (by show gw ≠ _; omega), cell_set3 c1 (by show gw ≠ _; omega), cell_set3 c2 (by show gw ≠ _; omega), cell_set3 c3 (by show gw ≠ _; omega), cell_set3 c4 (by show gw ≠ _; omega), cell_set3 c5 (by show gw ≠ _; omega), cell_set3 d0 (by show gz ≠ _; omega), cell_set3 d1 (by show gz ≠ _; omega), cell_set3 d2 (by show gz ≠ _; omega)⟩)
          ((first
            | (go_at_call 22
               (with_reducible refine (HAP.out _ _ _ _ _ (si_tr HSI3.out (by (repeat (first | with_reducible exact HBV.out | with_reducible refine bel_al ?_ _ | with_reducible refine bel_dr ?_)); all_goals fail)) (si_tr HSP3.out (by (repeat (first | with_reducible exact HBV.out | with_reducible refine bel_al ?_ _ | with_reducible refine bel_dr ?_)); all_goals fail)) HCC.out).mono ?_)
               rintro e v3 ⟨hb3, A1, c1', rfl, hown3⟩
               have HOX : Hid (v3.ownsRow w3.heap.size 53 1 (.slice A1 (LL).length c1') (LL).length ((LL).map (.int .u16))) := own_base hown3 (Below.size (by (repeat (first | with_reducible exact HBV.out | with_reducible refine bel_al ?_ _ | with_reducible refine bel_dr ?_)); all_goals fail))
               first
                 | have HZ : Hid (v3.heap[w3.heap.size]? = some (.cells zimg 37 (0, 0))) := row_tr (row_dr (row_new rfl)) hb3
                 | skip
               have hs12 := HBV.out.size
               have HBV : Hid (Below w3.heap.size w3 v3) := bel_tr (by (repeat (first | with_reducible exact HBV.out | with_reducible refine bel_al ?_ _ | with_reducible refine bel_dr ?_)); all_goals fail) hb3
               first
                 | (have zz := zi_cells HZ.out
                    obtain ⟨z0, z1, z2, q0, q1, q2⟩ := zz)
                 | skip
               obtain ⟨c0, c1, c2, c3, c4, c5⟩ := wk_cells (row_tr W0.out HBV.out)
               obtain ⟨d0, d1, d2⟩ := img_cells (row_tr W1.out HBV.out)
               have hsv := HBV.out.size
               have gw0 : gw < v3.heap.size := World.block_lt_of_cell? v3 _ c0
               have gw1 : gz < v3.heap.size := World.block_lt_of_cell? v3 _ d0
               skip)))
        all_goals (
          try refine NoPanic.normal ?_
          go_wp2
          go_meet
          case rel =>
            first
              | exact ⟨_, A1, c1', rfl, rfl, got_alloc HBV.out HOX.out⟩
              | exact ⟨_, A1, c1', rfl, rfl, got_set HBV.out HOX.out HZ.out (by omega)⟩)
--region3>
      case rest =>
        obtain ⟨gy, A2, c2', rfl, rfl, hgot⟩ := hcut
        obtain ⟨w4, hw4⟩ : ∃ v, wc = v := ⟨_, rfl⟩
        rw [hw4] at hgot ⊢
        clear hw4
        have HGY := Lib.hid hgot
        have HXO : Hid (w4.ownsRow w2.heap.size 53 1 (.slice A1 LL.length c1') LL.length (LL.map (.int .u16))) := own_b HGX.out.own hgot.bel
        have HXR : Hid (w4.heap[gx]? = some (.cells #[.int .i64 (zE E RW), .int .i64 (zE E RH), .slice A1 LL.length c1'] 37 (0, 0))) := row_tr HGX.out.row hgot.bel
        have HB24 : Hid (Below w2.heap.size w2 w4) := bel_tr HGX.out.bel hgot.bel
        have HYX : Hid ((Value.slice A2 LL.length c2').ownBlock = none ∨ (Value.slice A2 LL.length c2').ownBlock ≠ (Value.slice A1 LL.length c1').ownBlock) := own_apart (z := 0) hgot.own HGX.out.own (Nat.le_refl _)
        have HX0 : Hid (Xw w4 w4 w2.heap.size A1 LL.length c1' LL) := ⟨HXO.out, rfl, rfl, rfl, Nat.le_refl _, fun _ _ _ => rfl⟩
        obtain ⟨x0, x1, x2⟩ := img_cells HXR.out
        clear hgot c0 c1 c2 c3 c4 c5 d0 d1 d2 hsv gw0 gw1 HBV j0 j1 j2
        go_wp2_with fail
        clear x0 x1 x2
        go_loopw [55] (fun s55 wr => ∃ (k : Nat) (l : List Int), k ≤ LL.length ∧ s55 = .int .i64 k ∧ l.length = LL.length ∧ Xw w4 wr w2.heap.size A1 LL.length c1' l) (fun s55 _ => LL.length - (intOf s55).toNat)
        case atStart => exact ⟨0, LL, by omega, rfl, rfl, HX0.out⟩
        case round =>
          obtain ⟨m, l, hm, rfl, hl, hxw⟩ := hrel
          have HXW := Lib.hid hxw
          have HL := Lib.hid hl
          have HXR2 : Hid (wr.heap[gx]? = some (.cells #[.int .i64 (zE E RW), .int .i64 (zE E RH), .slice A1 LL.length c1'] 37 (0, 0))) := row_gr HXR.out hxw.gr (own_ne HXO.out HXR.out (by decide))
          clear hxw hl
          by_cases hlt : m < LL.length
          · have d0 : decide ((m : Int) < (LL.length : Int)) = true := decide_eq_true (by omega)
            have e0 : decide (m < LL.length) = true := decide_eq_true hlt
            have j0 : (0 : Int) ≤ (m : Int) := by omega
            have j1 : (m : Int) < (LL.length : Int) := by omega
            have HWJ : Hid (wrap64 ((m : Int) + 1) = ((m + 1 : Nat) : Int)) := by show _ = _; rw [IntWalk.wrap64_in _ (by have := HLL.out; omega)]; rfl
            obtain ⟨b1, rfl⟩ : ∃ g, A1 = some ⟨g, 0, none⟩ := own_some HXW.out.own (by omega)
            have hcl : wr.cell? ⟨b1, m, none⟩ = some (.int .u16 (l.getD m 0)) := by
              rw [HXW.out.own.cellAt (g := b1) m (by omega), List.getElem?_map, List.getElem?_eq_getElem (by have := HL.out; omega), List.getD_eq_getElem?_getD, List.getElem?_eq_getElem (by have := HL.out; omega)]
              rfl
            have hfz : wr.frozen? ⟨b1, m, none⟩ = false := HXW.out.own.frozenAt m
            have hcl2 : ∃ x, wr.drew.cell? ⟨b1, m, none⟩ = some x := ⟨_, hcl⟩
            have hfz2 : wr.drew.frozen? ⟨b1, m, none⟩ = false := hfz
            obtain ⟨u, hu⟩ : ∃ u, IntKind.u16.wrap (l.getD m 0 + 1) = u := ⟨_, rfl⟩
            generalize l.getD m 0 = v at *
            have x2 : wr.cell? ⟨gx, 2, none⟩ = some (.slice (some ⟨b1, 0, none⟩) LL.length c1') := row_cell HXR2.out 2
            have HLT := Lib.hid hlt
            clear hlt hm
            go_wp2_with fail
            refine wp_region_still_tail 10 (by kernel_rfl) (by kernel_rfl) ?_
            simp only [List.take_succ_cons, List.take_zero, List.drop_succ_cons, List.drop_zero]
            repeat still_step
            refine wpStill_nil ?_
            change wpList _ _ _ _ _ wr.drew
            obtain ⟨xo, hxo⟩ := hcl2
            go_wp2_with fail
            clear hcl hfz hfz2 hxo hu x2 j0 j1
            go_roundw
            case rel => exact ⟨m + 1, l.set m u, HLT.out, by first | rw [HWJ.out] | rfl, by rw [List.length_set]; exact HL.out, by first | exact HXW.out.drew.set m u | exact (HXW.out.set m u).drew⟩
            case measure => first | (rw [HWJ.out]; exact meas_up HLT.out) | exact meas_up HLT.out
          · obtain rfl : m = LL.length := by omega
            have d0 : decide ((LL.length : Int) < (LL.length : Int)) = false := by simp
            have e0 : decide (LL.length < LL.length) = false := by simp
            have HB2w : Hid (Below w2.heap.size w2 wr) := HB24.out.grown HXW.out.gr HB24.out.size (fun b e => (HXO.out.lt b e).1)
            have P0 := Lib.hid (row_tr V0.out HB2w.out)
            have P1 := Lib.hid (row_tr V1.out HB2w.out)
            have P2 := Lib.hid (row_tr V2.out HB2w.out)
            have PYR : Hid (wr.heap[gy]? = some (.cells #[.int .i64 (zE E RW), .int .i64 (zE E RH), .slice A2 LL.length c2'] 37 (0, 0))) := row_gr HGY.out.row HXW.out.gr (own_ne HXO.out HGY.out.row (by decide))
            have PYS : Hid (SI wr .u16 A2 LL.length LL) := SI.of_own (World.ownsRow.kept HGY.out.own HXW.out.gr HYX.out) (by have := HLL.out; simp only [kb]; omega)
            have PSI := Lib.hid (si_tr HSI.out HB2w.out)
            have PSP := Lib.hid (si_tr HSP.out HB2w.out)
            have PI := Lib.hid (si_tr HI2.out HB2w.out)
            have PP := Lib.hid (si_tr HP2.out HB2w.out)
            have PB : Hid (Below w.heap.size w wr) := bel_tr HB2.out HB2w.out
            obtain ⟨y0, y1, y2, y3, y4, y5⟩ := wk_cells P0.out
            obtain ⟨x0, x1, x2⟩ := img_cells P2.out
            have HRC := Lib.hid (HRP.out wr PI.out PP.out)
            clear hm hlt
            go_wp2_with fail
            refine HRC.out.mono ?_
            rintro e w5 ⟨hb5, A3, c3', rfl, hown5⟩
            clear y0 y1 y2 y3 y4 y5 x0 x1 x2
            obtain ⟨w6, hw6⟩ : ∃ v, w5.alloc (.cells #[.int .i64 (zE E RW), .int .i64 (zE E RH), .slice A3 LL.length c3'] 37) = v := ⟨_, rfl⟩
            have hb6 : Below wr.heap.size wr w6 := by rw [← hw6]; exact bel_al hb5 _
            have Q0 := Lib.hid (row_tr P0.out hb6)
            have Q1 := Lib.hid (row_tr P1.out hb6)
            have Q2 := Lib.hid (row_tr P2.out hb6)
            have QY := Lib.hid (row_tr PYR.out hb6)
            have QW : Hid (w6.heap[w5.heap.size]? = some (.cells #[.int .i64 (zE E RW), .int .i64 (zE E RH), .slice A3 LL.length c3'] 37 (0, 0))) := by show _ = _; rw [← hw6]; exact heap_alloc_new _ _
            have QYS := Lib.hid (si_tr PYS.out hb6)
            have QWS : Hid (SI w6 .u16 A3 LL.length LL) := by show SI _ _ _ _ _; rw [← hw6]; exact (SI.of_own hown5 (by have := HLL.out; simp only [kb]; omega)).alloc _
            have QSI := Lib.hid (si_tr PSI.out hb6)
            have QSP := Lib.hid (si_tr PSP.out hb6)
            have QI := Lib.hid (si_tr PI.out hb6)
            have QP := Lib.hid (si_tr PP.out hb6)
            have QB : Hid (Below w.heap.size w w6) := bel_tr PB.out hb6
            have Q77 : Hid (w6.cell? ⟨gg, n, none⟩ = some (.int .i64 77)) := ((bel_tr HB2w.out hb6).cell (p := ⟨gg, n, none⟩) (World.block_lt_of_cell? w2 _ HC77.out)).trans HC77.out
            clear hb5 hown5 hb6
            go_upto_region 12 with (fail)
            try rw [hw6]
            clear hw6
            generalize zE E RW = zW at *
            generalize zE E RH = zH at *
            have q1 : w6.cell? ⟨gw, 1, none⟩ = some (.slice A n c) := row_cell Q0.out 1
            obtain ⟨z0, z1, z2⟩ := img_cells Q1.out
            obtain ⟨m0, m1, m2⟩ := img_cells Q2.out
            have g77 := Q77.out
            have k0 : (0 : Int) ≤ (n : Int) := by omega
            have k1 : (n : Int) < ((n + 1 : Nat) : Int) := by omega
            have k2 : (n : Int) < (n : Int) + 1 := by omega
            have HSM1 : Hid (Calls Try.prog 21 #[.agg #[.int .i64 W, .int .i64 H, .slice AC pn cC], .agg #[.int .i64 W, .int .i64 H, .slice P pn pc]] w6 (TestP w6 true)) := by
              have := same_any (W := W) (H := H) (W2 := W) (H2 := H) (pc := cC) (pc2 := pc) w6 QSP.out QP.out
              rwa [show sameB W H pix W H pix = true from decide_eq_true ⟨rfl, rfl, rfl⟩] at this
            go_wp2_with fail
            refine HSM1.out.mono ?_
            rintro e w7 ⟨rfl, hb7⟩
            have S0 := Lib.hid (row_tr Q0.out hb7)
            have SY := Lib.hid (row_tr QY.out hb7)
            have SW := Lib.hid (row_tr QW.out hb7)
            have SSI := Lib.hid (si_tr QSI.out hb7)
            have SA := Lib.hid (si_tr QI.out hb7)
            have SB : Hid (Below w.heap.size w w7) := bel_tr QB.out hb7
            have HSM2 : Hid (Calls Try.prog 21 #[.agg #[.int .i64 zW, .int .i64 zH, .slice A2 LL.length c2'], .agg #[.int .i64 zW, .int .i64 zH, .slice A3 LL.length c3']] w7 (TestP w7 true)) := by
              have := same_any (W := zW) (H := zH) (W2 := zW) (H2 := zH) (pc := c2') (pc2 := c3') w7 (si_tr QYS.out hb7) (si_tr QWS.out hb7)
              rwa [show sameB zW zH LL zW zH LL = true from decide_eq_true ⟨rfl, rfl, rfl⟩] at this
            clear hb7 q1 z0 z1 z2 m0 m1 m2 g77 k0 k1 k2
            obtain ⟨z0, z1, z2⟩ := img_cells SY.out
            obtain ⟨m0, m1, m2⟩ := img_cells SW.out
            go_wp2_with fail
            refine HSM2.out.mono ?_
            rintro e w8 ⟨rfl, hb8⟩
            have U0 := Lib.hid (row_tr S0.out hb8)
            have USI := Lib.hid (si_tr SSI.out hb8)
            have UA := Lib.hid (si_tr SA.out hb8)
            have UB : Hid (Below w.heap.size w w8) := bel_tr SB.out hb8
            clear hb8 z0 z1 z2 m0 m1 m2
            have q1 : w8.cell? ⟨gw, 1, none⟩ = some (.slice A n c) := row_cell U0.out 1
            go_wp2_with fail
            clear d0 e0
            go_loopw [102] (fun s102 wr => ∃ k q : Nat, k ≤ n ∧ s102 = .int .i64 k ∧ w8.drewN q = wr) (fun s102 _ => n - (intOf s102).toNat)
            case atStart => exact ⟨0, 0, by omega, rfl, rfl⟩
            case round =>
              obtain ⟨k, q, hk, rfl, rfl⟩ := hrel
              by_cases hlt : k < n
              · have d0 : decide ((k : Int) < (n : Int)) = true := decide_eq_true (by omega)
                have e0 : decide (k < n) = true := decide_eq_true hlt
                have j0 : (0 : Int) ≤ (k : Int) := by omega
                have j1 : (k : Int) < (n : Int) := by omega
                have j2 : (k : Int) < ((n + 1 : Nat) : Int) := by omega
                have j3 : (k : Int) < (n : Int) + 1 := by omega
                obtain ⟨b1, o1, v1, e1, k1, hv1, -⟩ := USI.out.cells hlt
                obtain ⟨b2, o2, v2, e2, k2, hv2, -⟩ := UA.out.cells hlt
                injection e1 with e1
                injection e1 with e1 e1'
                subst e1 e1'
                subst e2
                have t1 : (v1 != v2) = false := by have h1 := hv1.out; rw [hv2.out] at h1; injection h1 with h1; simp [h1]
                have HWJ : Hid (wrap64 ((k : Int) + 1) = ((k + 1 : Nat) : Int)) := by show _ = _; rw [IntWalk.wrap64_in _ (by have := HAB.out; omega)]; rfl
                rw [Nat.zero_add] at k1
                have HLT := Lib.hid hlt
                clear hv1 hv2 hlt hk
                go_wp2_with fail
                go_quiet (fail)
                go_wp2_with fail
                go_roundw
                case rel => exact ⟨k + 1, q + nq, HLT.out, by first | rw [HWJ.out] | rfl, by first | rfl | rw [World.drewN_drewN]⟩
                case measure => first | (rw [HWJ.out]; exact meas_up HLT.out) | exact meas_up HLT.out
              · obtain rfl : k = n := by omega
                have d0 : decide ((k : Int) < (k : Int)) = false := by simp
                have e0 : decide (k < k) = false := by simp
                go_wp2_with fail
                go_ret
                exact ⟨rfl, below_drewN UB.out _⟩
end Go.Proofs.Ytogmlcgiajigfaa.Ard
