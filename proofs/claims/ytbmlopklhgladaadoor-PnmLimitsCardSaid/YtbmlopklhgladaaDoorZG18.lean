/-
  Texts of this claim, joined by program (Got, Pwn). A statement 'x, e := F(.., ints(..), own(m))' draws its order, and the making of x's block floats: lemmas that tell of every such world.
-/
import Derived.Test.YtbmlopklhgladaaDoorZG5
import Derived.Test.YtbmlopklhgladaaDoorZG16
import Derived.BigQuiet
set_option linter.unusedVariables false
set_option linter.unusedSimpArgs false
namespace Go.Proofs.YtbmlopklhgladaaDoor.Ard
open Go.RowKit K

section
variable {w V V2 : World} {b g : Nat} {x o : Obj} {k : IntKind} {A : Option Addr} {n : Nat} {l : List Int}
theorem bel_al (h : Below w.heap.size w V) (o : Obj) : Below w.heap.size w (V.alloc o) := h.alloc h.size o
theorem bel_dr (h : Below w.heap.size w V) : Below w.heap.size w V.drew := h.drew
theorem bel_tr (h : Below w.heap.size w V) (k : Below V.heap.size V V2) : Below w.heap.size w V2 := h.trans (k.mono h.size)
theorem row_al (h : w.heap[b]? = some x) : (w.alloc o).heap[b]? = some x := heap_alloc_old _ _ h
theorem row_dr (h : w.heap[b]? = some x) : w.drew.heap[b]? = some x := h
theorem row_new (hs : w.heap.size = g) : (w.alloc o).heap[g]? = some o := by rw [← hs]; exact heap_alloc_new w o
theorem row_tr (h : V.heap[b]? = some x) (k : Below V.heap.size V V2) : V2.heap[b]? = some x := (k.block _ (Array.getElem?_eq_some_iff.1 h).1).trans h
theorem si_dr (h : SI w k A n l) : SI w.drew k A n l := h.below (Below.refl _ _).drew (Nat.le_refl _)
theorem si_lit {m : Int} {T : TypeId} (hs : w.heap.size = g) : SI (w.alloc (.cells #[.int .i64 m] T)) .i64 (some ⟨g, 0, none⟩) 1 [m] := by
  rw [← hs]; exact SI.lit0 w .i64 [m] T (by show 1 * 8 ≤ _; omega)
theorem si_tr (h : SI V k A n l) (hb : Below V.heap.size V V2) : SI V2 k A n l := h.below hb (Nat.le_refl _)
theorem zi_cells {T : TypeId} (h : w.heap[g]? = some (.cells zimg T (0, 0))) : w.cell? ⟨g, 0, none⟩ = some (.int .i64 0) ∧ w.cell? ⟨g, 1, none⟩ = some (.int .i64 0) ∧ w.cell? ⟨g, 2, none⟩ = some (.slice none 0 0) ∧
    w.frozen? ⟨g, 0, none⟩ = false ∧ w.frozen? ⟨g, 1, none⟩ = false ∧ w.frozen? ⟨g, 2, none⟩ = false :=
  ⟨row_cell h 0, row_cell h 1, row_cell h 2, row_frozen h 0, row_frozen h 1, row_frozen h 2⟩
theorem img_cells {T : TypeId} {a b c : Value} (h : w.heap[g]? = some (.cells #[a, b, c] T (0, 0))) : w.cell? ⟨g, 0, none⟩ = some a ∧ w.cell? ⟨g, 1, none⟩ = some b ∧ w.cell? ⟨g, 2, none⟩ = some c :=
  ⟨row_cell h 0, row_cell h 1, row_cell h 2⟩
end
theorem cell_set3 {w : World} {p : Addr} {g : Nat} {x a b c : Value} (h : w.cell? p = some x) (hne : p.block ≠ g) : (((w.setCell ⟨g, 0, none⟩ a).setCell ⟨g, 1, none⟩ b).setCell ⟨g, 2, none⟩ c).cell? p = some x := by
  unfold World.cell? at h ⊢
  rw [Below.heap_setCell _ _ _ _ hne, Below.heap_setCell _ _ _ _ hne, Below.heap_setCell _ _ _ _ hne]
  exact h
/-- an image was answered and laid -/
structure Got (w4 V : World) (gx : Nat) (W H : Int) (A : Option Addr) (c : Nat) (l : List Int) : Prop where
  bel : Below w4.heap.size w4 V
  row : V.heap[gx]? = some (.cells #[.int .i64 W, .int .i64 H, .slice A l.length c] 26 (0, 0))
  own : V.ownsRow w4.heap.size 43 1 (.slice A l.length c) l.length (l.map (.int .u16))
  big : w4.heap.size ≤ gx
theorem got_alloc {w4 v2 : World} {W H : Int} {A : Option Addr} {c : Nat} {l : List Int} (hb : Below w4.heap.size w4 v2) (ho : v2.ownsRow w4.heap.size 43 1 (.slice A l.length c) l.length (l.map (.int .u16))) :
    Got w4 (v2.alloc (.cells #[.int .i64 W, .int .i64 H, .slice A l.length c] 26)) v2.heap.size W H A c l :=
  ⟨bel_al hb _, heap_alloc_new _ _, ho.alloc _, hb.size⟩
theorem row_sets {w : World} {g : Nat} {T : TypeId} {x y z a b c : Value} (h : w.heap[g]? = some (.cells #[x, y, z] T (0, 0))) : (((w.setCell ⟨g, 0, none⟩ a).setCell ⟨g, 1, none⟩ b).setCell ⟨g, 2, none⟩ c).heap[g]? = some (.cells #[a, b, c] T (0, 0)) := by
  have h0 : (w.setCell ⟨g, 0, none⟩ a).heap[g]? = some (.cells #[a, y, z] T (0, 0)) := by rw [setCell_eq_setRow w g 0 _ T (0, 0) a h, setRow_heap _ _ _ _ _ _ h]; rfl
  have h1 : ((w.setCell ⟨g, 0, none⟩ a).setCell ⟨g, 1, none⟩ b).heap[g]? = some (.cells #[a, b, z] T (0, 0)) := by rw [setCell_eq_setRow _ g 1 _ T (0, 0) b h0, setRow_heap _ _ _ _ _ _ h0]; rfl
  rw [setCell_eq_setRow _ g 2 _ T (0, 0) c h1, setRow_heap _ _ _ _ _ _ h1]; rfl
theorem got_set {w4 v2 : World} {gx : Nat} {W H : Int} {A : Option Addr} {c : Nat} {l : List Int} (hb : Below w4.heap.size w4 v2) (ho : v2.ownsRow w4.heap.size 43 1 (.slice A l.length c) l.length (l.map (.int .u16)))
    (hz : v2.heap[gx]? = some (.cells zimg 26 (0, 0))) (hg : w4.heap.size ≤ gx) :
    Got w4 (((v2.setCell ⟨gx, 0, none⟩ (.int .i64 W)).setCell ⟨gx, 1, none⟩ (.int .i64 H)).setCell ⟨gx, 2, none⟩ (.slice A l.length c)) gx W H A c l := by
  have hk : ∀ {V V' : World}, V.ownsRow w4.heap.size 43 1 (.slice A l.length c) l.length (l.map (.int .u16)) → V.grownBy V' (some gx) → V'.ownsRow w4.heap.size 43 1 (.slice A l.length c) l.length (l.map (.int .u16)) :=
    fun h hg => h.kept hg (.inr (own_ne ho hz (by decide)).symm)
  refine ⟨((hb.setCell (p := ⟨gx, 0, none⟩) hg _).setCell (p := ⟨gx, 1, none⟩) hg _).setCell (p := ⟨gx, 2, none⟩) hg _, row_sets hz, ?_, hg⟩
  exact hk (hk (hk ho (grown_set1 _ _ _ _)) (grown_set1 _ _ _ _)) (grown_set1 _ _ _ _)
theorem Got.si {w4 V : World} {gx : Nat} {W H : Int} {A : Option Addr} {c : Nat} {l : List Int} (h : Got w4 V gx W H A c l) (hl : l.length ≤ 70368744175616) : SI V .u16 A l.length l := SI.of_own h.own (by simp only [kb]; omega)
end Go.Proofs.YtbmlopklhgladaaDoor.Ard
set_option linter.unusedVariables false
set_option linter.unusedSimpArgs false
namespace Go.Proofs.YtbmlopklhgladaaDoor.Pnm
open Go.RowKit K Ian Ard

theorem own_own {w : World} {base base2 e e2 sz sz2 n n2 : Nat} {v v2 : Value} {xs xs2 : List Value} (h : w.ownsRow base e sz v n xs) (k : w.ownsRow base2 e2 sz2 v2 n2 xs2) (hne : e ≠ e2) : v.ownBlock = none ∨ v.ownBlock ≠ v2.ownBlock := by
  rcases h.2 with ⟨rfl, -⟩ | ⟨g, cap, cur, rfl, -, hg, -⟩
  · exact .inl rfl
  · exact .inr (own_ne k hg hne)
theorem own_new {w : World} {base e sz n g : Nat} {v : Value} {xs : List Value} (h : w.ownsRow base e sz v n xs) (hg : w.heap.size ≤ g) : some g ≠ v.ownBlock := fun he => by
  have := (h.lt g he.symm).2
  omega
theorem row_gr {w w' : World} {b : Nat} {o : Obj} {row : Option Nat} (h : w.heap[b]? = some o) (hg : w.grownBy w' row) (hne : some b ≠ row) : w'.heap[b]? = some o := (hg.block _ (Array.getElem?_eq_some_iff.1 h).1 hne).trans h
theorem own_some2 {w : World} {base e n c : Nat} {A : Option Addr} {xs : List Value} (h : w.ownsRow base e 1 (.slice A n c) n xs) (h0 : 0 < n) : ∃ g, A = some ⟨g, 0, none⟩ := by
  rcases h.2 with ⟨hv, hx⟩ | ⟨g, cap, cur, hv, -⟩
  · have := h.1; subst hx; simp at this; omega
  · injection hv with e1; exact ⟨g, e1⟩
theorem meas_up2 {p z : Nat} (h : p < z) : z - (((p + 1 : Nat) : Int)).toNat < z - ((p : Int)).toNat := by omega
/-- in and from, as they were made -/
structure Po (w1 V : World) (gz : Nat) (W H : Int) (AC : Option Addr) (cC pn : Nat) (pix : List Int) (gg cap n : Nat) (l : List Int) : Prop where
  bel : Below w1.heap.size w1 V
  row : V.heap[gz]? = some (.cells #[.int .i64 W, .int .i64 H, .slice AC pn cC] 26 (0, 0))
  sp : SI V .u16 AC pn pix
  si : SI V .u8 (some ⟨gg, 0, none⟩) n l
  lt : gg < V.heap.size
  c77 : V.cell? ⟨gg, n, none⟩ = some (.int .u8 77)
  cp : pn ≤ cC ∧ cC ≤ maxLen
  cb : n + 1 ≤ cap ∧ cap ≤ maxLen
/-- while a row of one's own is turned -/
structure Xk (k : IntKind) (T : TypeId) (w4 wr : World) (base : Nat) (A1 : Option Addr) (N c1 : Nat) (l : List Int) : Prop where
  own : wr.ownsRow base T 1 (.slice A1 N c1) N (l.map (.int k))
  gr : w4.grownBy wr (Value.slice A1 N c1).ownBlock
theorem Xk.set {k : IntKind} {T : TypeId} {w4 wr : World} {base b1 N c1 : Nat} {l : List Int} (h : Xk k T w4 wr base (some ⟨b1, 0, none⟩) N c1 l) (i : Nat) (v : Int) : Xk k T w4 (wr.setCell ⟨b1, i, none⟩ (.int k v)) base (some ⟨b1, 0, none⟩) N c1 (l.set i v) :=
  ⟨by rw [List.map_set]; exact own_setJ h.own, grown_set h.gr i _⟩
theorem Xk.drew {k : IntKind} {T : TypeId} {w4 wr : World} {base N c1 : Nat} {A1 : Option Addr} {l : List Int} (h : Xk k T w4 wr base A1 N c1 l) : Xk k T w4 wr.drew base A1 N c1 l :=
  ⟨own_b h.own (Below.refl _ _).drew, grown_drew h.gr⟩
theorem Xk.cell {k : IntKind} {T : TypeId} {w4 wr : World} {base b1 N c1 m : Nat} {l : List Int} (h : Xk k T w4 wr base (some ⟨b1, 0, none⟩) N c1 l) (hl : l.length = N) (hm : m < N) : wr.cell? ⟨b1, m, none⟩ = some (.int k (l.getD m 0)) := by
  rw [h.own.cellAt (g := b1) m (by omega), List.getElem?_map, List.getElem?_eq_getElem (by omega), List.getD_eq_getElem?_getD, List.getElem?_eq_getElem (by omega)]
  rfl
theorem own_apart {w : World} {base base2 e e2 sz sz2 n n2 : Nat} {v v2 : Value} {xs xs2 : List Value} (h : w.ownsRow base e sz v n xs) {V : World} (k : V.ownsRow base2 e2 sz2 v2 n2 xs2) (hk : V.heap.size ≤ base) : v.ownBlock = none ∨ v.ownBlock ≠ v2.ownBlock := by
  cases hv : v.ownBlock with
  | none => exact .inl rfl
  | some b =>
    refine .inr fun e => ?_
    have h1 := (h.lt b hv).1
    have h2 := (k.lt b e.symm).2
    omega
theorem si_app8 {V : World} {base gg cap n : Nat} {l : List Int} (ho : V.ownsRow base 5 1 (.slice (some ⟨gg, 0, none⟩) (n + 1) cap) (n + 1) (l.map (.int .u8) ++ [.int .u8 77])) (hal : l.length = n) (hab : n ≤ 140737488351232) : SI V .u8 (some ⟨gg, 0, none⟩) n l := by
  refine ⟨hal, by show n * 1 ≤ 140737488351232; omega, fun j u hu => Sl.of_own ho j u ?_⟩
  have hj : j < l.length := by
    have := (List.getElem?_eq_some_iff.1 hu).1
    simpa using this
  rw [List.getElem?_append_left (by simpa using hj)]
  exact hu
theorem c77_app8 {V : World} {base gg cap n : Nat} {l : List Int} (ho : V.ownsRow base 5 1 (.slice (some ⟨gg, 0, none⟩) (n + 1) cap) (n + 1) (l.map (.int .u8) ++ [.int .u8 77])) (hal : l.length = n) : V.cell? ⟨gg, n, none⟩ = some (.int .u8 77) := by
  rw [ho.cellAt (g := gg) n (by omega), List.getElem?_append_right (by simp; omega)]
  simp [hal]
theorem po_alloc {w1 v : World} {W H : Int} {AC : Option Addr} {cC pn gg cap n : Nat} {pix l : List Int} (hb : Below w1.heap.size w1 v) (ho : v.ownsRow w1.heap.size 43 1 (.slice AC pn cC) pn (pix.map (.int .u16)))
    (hi : v.ownsRow w1.heap.size 5 1 (.slice (some ⟨gg, 0, none⟩) (n + 1) cap) (n + 1) (l.map (.int .u8) ++ [.int .u8 77])) (hal : l.length = n) (hpb : pn ≤ 70368744175616) (hab : n ≤ 140737488351232) :
    Po w1 (v.alloc (.cells #[.int .i64 W, .int .i64 H, .slice AC pn cC] 26)) v.heap.size W H AC cC pn pix gg cap n l :=
  ⟨bel_al hb _, heap_alloc_new _ _, (SI.of_own ho (by simp only [kb]; omega)).alloc _, (si_app8 hi hal hab).alloc _, ((hi.alloc _).lt gg rfl).2, c77_app8 (hi.alloc _) hal, own_caps ho, own_caps hi⟩
theorem po_set {w1 v : World} {gz : Nat} {W H : Int} {AC : Option Addr} {cC pn gg cap n : Nat} {pix l : List Int} (hb : Below w1.heap.size w1 v) (ho : v.ownsRow w1.heap.size 43 1 (.slice AC pn cC) pn (pix.map (.int .u16)))
    (hi : v.ownsRow w1.heap.size 5 1 (.slice (some ⟨gg, 0, none⟩) (n + 1) cap) (n + 1) (l.map (.int .u8) ++ [.int .u8 77])) (hz : v.heap[gz]? = some (.cells zimg 26 (0, 0))) (hg : w1.heap.size ≤ gz) (hal : l.length = n) (hpb : pn ≤ 70368744175616) (hab : n ≤ 140737488351232) :
    Po w1 (((v.setCell ⟨gz, 0, none⟩ (.int .i64 W)).setCell ⟨gz, 1, none⟩ (.int .i64 H)).setCell ⟨gz, 2, none⟩ (.slice AC pn cC)) gz W H AC cC pn pix gg cap n l := by
  have hk : ∀ {e : Nat} {u : Value} {m : Nat} {xs : List Value} {V V' : World}, some gz ≠ u.ownBlock → V.ownsRow w1.heap.size e 1 u m xs → V.grownBy V' (some gz) → V'.ownsRow w1.heap.size e 1 u m xs :=
    fun hne h hg => h.kept hg (.inr hne.symm)
  have n1 := own_ne ho hz (by decide)
  have n2 := own_ne hi hz (by decide)
  have o2 := hk n1 (hk n1 (hk n1 ho (grown_set1 _ _ 0 (.int .i64 W))) (grown_set1 _ _ 1 (.int .i64 H))) (grown_set1 _ _ 2 (.slice AC pn cC))
  have i2 := hk n2 (hk n2 (hk n2 hi (grown_set1 _ _ 0 (.int .i64 W))) (grown_set1 _ _ 1 (.int .i64 H))) (grown_set1 _ _ 2 (.slice AC pn cC))
  exact ⟨((hb.setCell (p := ⟨gz, 0, none⟩) hg _).setCell (p := ⟨gz, 1, none⟩) hg _).setCell (p := ⟨gz, 2, none⟩) hg _, row_sets hz, SI.of_own o2 (by simp only [kb]; omega), si_app8 i2 hal hab, (i2.lt gg rfl).2, c77_app8 i2 hal, own_caps ho, own_caps hi⟩
set_option maxRecDepth 20000 in
set_option maxHeartbeats 8000000 in
theorem pnmOwn_any {A : Option Addr} {n c : Nat} {l : List Int} {W H kind : Int} {P : Option Addr} {pn pc : Nat} {pix : List Int} (w : World) (HA : SI w .u8 A n l) (hwf : ∀ x ∈ l, 0 ≤ x ∧ x < 256) (HP : SI w .u16 P pn pix) (hwv : ∀ v ∈ pix, 0 ≤ v ∧ v < 65536) (HV : Vars w) :
    Calls Tryd.prog 7 #[.slice A n c, .agg #[.int .i64 W, .int .i64 H, .slice P pn pc], .int .i64 kind] w (YesP w) := by
  have hb0 : Below w.heap.size w (w.alloc (.cells #[.int .i64 W, .int .i64 H, .slice P pn pc] 26)) := (Below.refl _ w).alloc (Nat.le_refl _) _
  have hr0 : (w.alloc (.cells #[.int .i64 W, .int .i64 H, .slice P pn pc] 26)).heap[w.heap.size]? = some (.cells #[.int .i64 W, .int .i64 H, .slice P pn pc] 26 (0, 0)) := heap_alloc_new w _
  have HWK := Lib.hid (wakes_any _ (HV.below hb0 (Nat.le_refl _)))
  have hbig : pn * 2 ≤ 140737488351232 := HP.sz
  have hbign := HA.bigb
  have HNB : Hid (n ≤ 140737488351232) := by show _ ≤ _; omega
  have HPB : Hid (pn ≤ 70368744175616) := by show _ ≤ _; omega
  have HSI := Lib.hid HP
  have HAA := Lib.hid HA
  have HVV := Lib.hid HV
  have HWF := Lib.hid hwf
  have HWV := Lib.hid hwv
  have HPL := Lib.hid HP.len
  have HAL := Lib.hid HA.len
  clear HP HA HV hwf hwv hbig hbign
  go_enter Tryd.func7, Tryd.ntmps7
  go_upto_region 1 with (fail)
  generalize w.alloc (.cells #[.int .i64 W, .int .i64 H, .slice P pn pc] 26) = W0 at hb0 hr0 HWK ⊢
  have HB0 := Lib.hid hb0
  obtain ⟨gw, hgw⟩ : ∃ g, w.heap.size = g := ⟨_, rfl⟩
  rw [hgw] at hr0 ⊢
  have HGW := Lib.hid hgw
  have HR0 := Lib.hid hr0
  clear hb0 hr0 hgw
  go_wp2_with fail
  refine HWK.out.mono ?_
  rintro e w1 ⟨rfl, hb1⟩
  have HB1 : Hid (Below w.heap.size w w1) := HB0.out.trans (hb1.mono HB0.out.size)
  have T1 : Hid (w1.heap[gw]? = some (.cells #[.int .i64 W, .int .i64 H, .slice P pn pc] 26 (0, 0))) := row_tr HR0.out hb1
  have HA1 : Hid (SI w1 .u8 A n l) := HAA.out.below HB1.out (Nat.le_refl _)
  have HP1 : Hid (SI w1 .u16 P pn pix) := HSI.out.below HB1.out (Nat.le_refl _)
  clear hb1 HWK HB0 HR0 HAA HSI
  go_upto_region 3 with (fail)
--<region1
  have HBV : Hid (Below w1.heap.size w1 w1) := Below.refl _ _
  obtain ⟨d0, d1, d2⟩ := img_cells (row_tr T1.out HBV.out)
  have hsv := HBV.out.size
  have gw0 : gw < w1.heap.size := World.block_lt_of_cell? w1 _ d0
  go_cut [7, 8] (fun s7 s8 wx => ∃ gz AC cC gg cap, s8 = .pointer (some ⟨gz, 0, none⟩) ∧ s7 = .slice (some ⟨gg, 0, none⟩) (n + 1) cap ∧ Po w1 wx gz W H AC cC pn pix gg cap n l)
  case first =>
    go_region_held3 (fun w' => w'.cell? ⟨gw, 0, none⟩ = some (.int .i64 W) ∧ w'.cell? ⟨gw, 1, none⟩ = some (.int .i64 H) ∧ w'.cell? ⟨gw, 2, none⟩ = some (.slice P pn pc))
      (first
        | go_keep
        | exact ⟨d0, d1, d2⟩
        | exact ⟨cell_set3 d0 (by show gw ≠ _; omega), cell_set3 d1 (by show gw ≠ _; omega), cell_set3 d2 (by show gw ≠ _; omega)⟩)
      ((first
        | (go_at_call 10
           (with_reducible refine (ownb_any _ (si_tr HA1.out (by (repeat (first | with_reducible exact HBV.out | with_reducible refine bel_al ?_ _ | with_reducible refine bel_dr ?_)); all_goals fail))).mono ?_)
           rintro e v1 ⟨AI, kI, rfl, hownI, hb1, hcI⟩
           have HOI : Hid (v1.ownsRow w1.heap.size 5 1 (.slice AI n kI) n (l.map (.int .u8))) := own_base hownI (by exact Below.size (by (repeat (first | with_reducible exact HBV.out | with_reducible refine bel_al ?_ _ | with_reducible refine bel_dr ?_)); all_goals fail))
           have HBV : Hid (Below w1.heap.size w1 v1) := bel_tr (by (repeat (first | with_reducible exact HBV.out | with_reducible refine bel_al ?_ _ | with_reducible refine bel_dr ?_)); all_goals fail) hb1
           first
             | have HZ := Lib.hid (row_tr HZ.out hb1)
             | have HZ := Lib.hid (row_tr (row_al HZ.out) hb1)
             | have HZ : Hid (v1.heap[w1.heap.size]? = some (.cells zimg 26 (0, 0))) := row_tr (row_dr (row_new rfl)) hb1
             | have HZ : Hid (v1.heap[w1.heap.size]? = some (.cells zimg 26 (0, 0))) := row_tr (row_dr (row_al (row_new rfl))) hb1
             | have HZ : Hid (v1.heap[w1.heap.size + 1]? = some (.cells zimg 26 (0, 0))) := row_tr (row_dr (row_new (World.size_alloc _ _))) hb1
             | skip
           first
             | have H7 := Lib.hid (row_tr H7.out hb1)
             | have H7 := Lib.hid (row_tr (row_al H7.out) hb1)
             | have H7 : Hid (v1.heap[w1.heap.size]? = some (.cells #[.int .u8 77] 5 (0, 0))) := row_tr (row_dr (row_new rfl)) hb1
             | have H7 : Hid (v1.heap[w1.heap.size]? = some (.cells #[.int .u8 77] 5 (0, 0))) := row_tr (row_dr (row_al (row_new rfl))) hb1
             | have H7 : Hid (v1.heap[w1.heap.size + 1]? = some (.cells #[.int .u8 77] 5 (0, 0))) := row_tr (row_dr (row_new (World.size_alloc _ _))) hb1
             | skip
           obtain ⟨d0, d1, d2⟩ := img_cells (row_tr T1.out HBV.out)
           have hsv := HBV.out.size
           have gw0 : gw < v1.heap.size := World.block_lt_of_cell? v1 _ d0
           clear hb1 hownI hcI)
        | (go_at_call 14
           (with_reducible refine (Ard.copy_any (W := W) (H := H) (pc := pc) _ (si_tr HP1.out (by (repeat (first | with_reducible exact HBV.out | with_reducible refine bel_al ?_ _ | with_reducible refine bel_dr ?_)); all_goals fail))).mono ?_)
           rintro e v2 ⟨hb2, AC, cC, rfl, hown2, hc2, hc3⟩
           rw [HPL.out]
           have HOWN : Hid (v2.ownsRow w1.heap.size 43 1 (.slice AC pix.length cC) pix.length (pix.map (.int .u16))) := own_base hown2 (by exact Below.size (by (repeat (first | with_reducible exact HBV.out | with_reducible refine bel_al ?_ _ | with_reducible refine bel_dr ?_)); all_goals fail))
           rw [HPL.out] at HOWN
           first
             | have HO5 : Hid (v2.ownsRow w1.heap.size 5 1 (.slice (some ⟨gg, 0, none⟩) (n + 1) cap) (n + 1) (l.map (.int .u8) ++ [.int .u8 77])) := own_b (by (repeat (first | with_reducible exact HO5.out | with_reducible refine World.ownsRow.alloc ?_ _)); all_goals fail) hb2
             | have HOI : Hid (v2.ownsRow w1.heap.size 5 1 (.slice AI n kI) n (l.map (.int .u8))) := own_b (by (repeat (first | with_reducible exact HOI.out | with_reducible refine World.ownsRow.alloc ?_ _)); all_goals fail) hb2
           have HBV : Hid (Below w1.heap.size w1 v2) := bel_tr (by (repeat (first | with_reducible exact HBV.out | with_reducible refine bel_al ?_ _ | with_reducible refine bel_dr ?_)); all_goals fail) hb2
           first
             | have HZ := Lib.hid (row_tr HZ.out hb2)
             | have HZ := Lib.hid (row_tr (row_al HZ.out) hb2)
             | have HZ : Hid (v2.heap[v1.heap.size]? = some (.cells zimg 26 (0, 0))) := row_tr (row_new rfl) hb2
             | have HZ : Hid (v2.heap[v1.heap.size]? = some (.cells zimg 26 (0, 0))) := row_tr (row_al (row_new rfl)) hb2
             | have HZ : Hid (v2.heap[v1.heap.size + 1]? = some (.cells zimg 26 (0, 0))) := row_tr (row_new (World.size_alloc _ _)) hb2
             | have HZ : Hid (v2.heap[w5.heap.size]? = some (.cells zimg 26 (0, 0))) := row_tr (row_new rfl) hb2
             | have HZ : Hid (v2.heap[w5.heap.size]? = some (.cells zimg 26 (0, 0))) := row_tr (row_al (row_new rfl)) hb2
             | have HZ : Hid (v2.heap[w5.heap.size + 1]? = some (.cells zimg 26 (0, 0))) := row_tr (row_new (World.size_alloc _ _)) hb2
             | skip
           first
             | have H7 := Lib.hid (row_tr H7.out hb2)
             | have H7 := Lib.hid (row_tr (row_al H7.out) hb2)
             | have H7 : Hid (v2.heap[v1.heap.size]? = some (.cells #[.int .u8 77] 5 (0, 0))) := row_tr (row_new rfl) hb2
             | have H7 : Hid (v2.heap[v1.heap.size]? = some (.cells #[.int .u8 77] 5 (0, 0))) := row_tr (row_al (row_new rfl)) hb2
             | have H7 : Hid (v2.heap[v1.heap.size + 1]? = some (.cells #[.int .u8 77] 5 (0, 0))) := row_tr (row_new (World.size_alloc _ _)) hb2
             | have H7 : Hid (v2.heap[w5.heap.size]? = some (.cells #[.int .u8 77] 5 (0, 0))) := row_tr (row_new rfl) hb2
             | have H7 : Hid (v2.heap[w5.heap.size]? = some (.cells #[.int .u8 77] 5 (0, 0))) := row_tr (row_al (row_new rfl)) hb2
             | have H7 : Hid (v2.heap[w5.heap.size + 1]? = some (.cells #[.int .u8 77] 5 (0, 0))) := row_tr (row_new (World.size_alloc _ _)) hb2
             | skip
           first
             | (have zz := zi_cells HZ.out
                obtain ⟨z0, z1, z2, q0, q1, q2⟩ := zz)
             | skip
           obtain ⟨d0, d1, d2⟩ := img_cells (row_tr T1.out HBV.out)
           have hsv := HBV.out.size
           have gw0 : gw < v2.heap.size := World.block_lt_of_cell? v2 _ d0
           clear hb2 hown2 hc2 hc3)
        | (refine step_push (by rfl) (.tmp 22) (.tmp 23) _ (by rfl) w1.heap.size 5 1 1 _ Tryd.underlying22 infoU8 rfl (by omega) (Value.slice AI n kI) n (List.map (Value.int IntKind.u8) l) (by rfl) ?hown _ 1 [Value.int IntKind.u8 77] 5 (by rfl) (by rfl) ?hblk (by simp [Value.oneCell']) (by have := HNB.out; unfold maxLen; omega) (by have := HNB.out; omega) ?hbel _ rfl ?_
           case hown => (repeat (first | with_reducible exact HOI.out | with_reducible refine World.ownsRow.alloc ?_ _)); all_goals fail
           case hblk => first | with_reducible exact H7.out | with_reducible exact row_al H7.out | with_reducible exact row_new rfl | with_reducible exact row_al (row_new rfl) | with_reducible exact row_new (World.size_alloc _ _)
           case hbel => exact Below.size (by (repeat (first | with_reducible exact HBV.out | with_reducible refine bel_al ?_ _ | with_reducible refine bel_dr ?_)); all_goals fail)
           intro gg cap w5 hown5 hg5 hat5 hlt5
           first
             | have HOWN : Hid (w5.ownsRow w1.heap.size 43 1 (.slice AC pn cC) pn (pix.map (.int .u16))) := World.ownsRow.kept (by (repeat (first | with_reducible exact HOWN.out | with_reducible refine World.ownsRow.alloc ?_ _)); all_goals fail) hg5 (own_own HOWN.out HOI.out (by decide))
             | skip
           have HO5 := Lib.hid hown5
           have HBV : Hid (Below w1.heap.size w1 w5) := by
             refine Lib.hid (Below.grown ?ka hg5 ?kb (fun b e => (HOI.out.lt b e).1))
             case ka => exact (by (repeat (first | with_reducible exact HBV.out | with_reducible refine bel_al ?_ _ | with_reducible refine bel_dr ?_)); all_goals fail)
             case kb => exact Below.size (by (repeat (first | with_reducible exact HBV.out | with_reducible refine bel_al ?_ _ | with_reducible refine bel_dr ?_)); all_goals fail)
           first
             | have HZ := Lib.hid (row_gr HZ.out hg5 (own_ne HOI.out HZ.out (by decide)))
             | have HZ := Lib.hid (row_gr (row_al HZ.out) hg5 (own_ne HOI.out HZ.out (by decide)))
             | have HZ : Hid (w5.heap[v1.heap.size]? = some (.cells zimg 26 (0, 0))) := row_gr (row_new rfl) hg5 (own_new HOI.out (by exact Nat.le_refl _))
             | have HZ : Hid (w5.heap[v1.heap.size]? = some (.cells zimg 26 (0, 0))) := row_gr (row_al (row_new rfl)) hg5 (own_new HOI.out (by exact Nat.le_refl _))
             | have HZ : Hid (w5.heap[v1.heap.size + 1]? = some (.cells zimg 26 (0, 0))) := row_gr (row_new (World.size_alloc _ _)) hg5 (own_new HOI.out (by omega))
             | have HZ : Hid (w5.heap[v2.heap.size]? = some (.cells zimg 26 (0, 0))) := row_gr (row_new rfl) hg5 (own_new HOI.out (by exact Nat.le_refl _))
             | have HZ : Hid (w5.heap[v2.heap.size]? = some (.cells zimg 26 (0, 0))) := row_gr (row_al (row_new rfl)) hg5 (own_new HOI.out (by exact Nat.le_refl _))
             | have HZ : Hid (w5.heap[v2.heap.size + 1]? = some (.cells zimg 26 (0, 0))) := row_gr (row_new (World.size_alloc _ _)) hg5 (own_new HOI.out (by omega))
             | skip
           first
             | (have zz := zi_cells HZ.out
                obtain ⟨z0, z1, z2, q0, q1, q2⟩ := zz)
             | skip
           obtain ⟨d0, d1, d2⟩ := img_cells (row_tr T1.out HBV.out)
           have hsv := HBV.out.size
           have gw0 : gw < w5.heap.size := World.block_lt_of_cell? w5 _ d0
           clear hown5 hg5 hat5 hlt5)
        | fail))
    all_goals (
      try refine NoPanic.normal ?_
      go_wp2
      go_meet
      case rel =>
        first
          | exact ⟨_, AC, cC, gg, cap, rfl, rfl, po_alloc HBV.out (by (repeat (first | with_reducible exact HOWN.out | with_reducible refine World.ownsRow.alloc ?_ _)); all_goals fail) (by (repeat (first | with_reducible exact HO5.out | with_reducible refine World.ownsRow.alloc ?_ _)); all_goals fail) HAL.out HPB.out HNB.out⟩
          | exact ⟨_, AC, cC, gg, cap, rfl, rfl, po_set HBV.out (by (repeat (first | with_reducible exact HOWN.out | with_reducible refine World.ownsRow.alloc ?_ _)); all_goals fail) (by (repeat (first | with_reducible exact HO5.out | with_reducible refine World.ownsRow.alloc ?_ _)); all_goals fail) HZ.out (by omega) HAL.out HPB.out HNB.out⟩
          | fail)
--region1>
  case rest =>
    obtain ⟨gz, AC, cC, gg, cap, rfl, rfl, how⟩ := hcut
    obtain ⟨w2, hw2⟩ : ∃ v, wc = v := ⟨_, rfl⟩
    rw [hw2] at how ⊢
    clear hw2
    have HB2 : Hid (Below w.heap.size w w2) := bel_tr HB1.out how.bel
    have V2 : Hid (w2.heap[gw]? = some (.cells #[.int .i64 W, .int .i64 H, .slice P pn pc] 26 (0, 0))) := row_tr T1.out how.bel
    have V1 : Hid (w2.heap[gz]? = some (.cells #[.int .i64 W, .int .i64 H, .slice AC pn cC] 26 (0, 0))) := how.row
    have HA2 := Lib.hid (si_tr HA1.out how.bel)
    have HP2 := Lib.hid (si_tr HP1.out how.bel)
    have HSP := Lib.hid how.sp
    have HSI := Lib.hid how.si
    have HLT := Lib.hid how.lt
    have HC77 := Lib.hid how.c77
    have HCC := Lib.hid how.cp
    have HCB := Lib.hid how.cb
    have HDL := Lib.hid (decM_len l 9999)
    obtain ⟨d, hd⟩ : ∃ d, decM l 9999 = d := ⟨_, rfl⟩
    rw [hd] at HDL
    have HPD : Hid (∀ V, Below w2.heap.size w2 V → Calls Tryd.prog 9 #[.slice (some ⟨gg, 0, none⟩) n cap, .int .i64 9999] V (DecP V d)) := fun V hV => by
      have := pdecode_any (most := 9999) V (si_tr HSI.out hV) HWF.out (c := cap) (by have := HCB.out; omega) (fun a e => by injection e with e; rw [← e]; exact Nat.lt_of_lt_of_le HLT.out hV.size) (HVV.out.below (bel_tr HB2.out hV) (Nat.le_refl _))
      rwa [hd] at this
    have HRD : Hid (∀ V, Below w2.heap.size w2 V → Calls Tryd.prog 11 #[.slice A n c, .int .i64 9999] V (DecP V d)) := fun V hV => by
      have := rdecode_any (c := c) (most := 9999) V (si_tr HA2.out hV) HWF.out
      rwa [hd] at this
    have HEL := Lib.hid (encM_len (W := W) (H := H) (pn := pn) (kind := kind) (top := 255) HWV.out)
    obtain ⟨r, hr⟩ : ∃ r, encM W H pn pix kind 255 = r := ⟨_, rfl⟩
    rw [hr] at HEL
    have HPE : Hid (∀ V, Below w2.heap.size w2 V → Calls Tryd.prog 13 #[.agg #[.int .i64 W, .int .i64 H, .slice AC pn cC], .int .i64 kind, .int .i64 255] V (EncP V r)) := fun V hV => by
      have := pencode_any (W := W) (H := H) (kind := kind) (top := 255) V (si_tr HSP.out hV) HWV.out HCC.out.1 (HVV.out.below (bel_tr HB2.out hV) (Nat.le_refl _))
      rwa [hr] at this
    have j0 : (0 : Int) ≤ (n : Int) := by omega
    have j1 : (n : Int) ≤ (cap : Int) := by have := HCB.out; omega
    have j2 : n ≤ cap := by have := HCB.out; omega
    clear how hd hr d0 d1 d2 hsv gw0 HBV T1 HA1 HP1 HB1
    go_wp2_with fail
    refine (HPD.out _ (Below.refl _ _)).mono ?_
    rintro e w3 ⟨A3, c3, rfl, ho3, hb3⟩
    have hm3 : (w3.alloc (.cells #[.int .i64 d.w, .int .i64 d.h, .slice A3 d.pix.length c3] 26)).heap[w3.heap.size]? = some (.cells #[.int .i64 d.w, .int .i64 d.h, .slice A3 d.pix.length c3] 26 (0, 0)) := heap_alloc_new w3 _
    have ho4 := ho3.alloc (.cells #[.int .i64 d.w, .int .i64 d.h, .slice A3 d.pix.length c3] 26)
    have hb4 : Below w2.heap.size w2 (w3.alloc (.cells #[.int .i64 d.w, .int .i64 d.h, .slice A3 d.pix.length c3] 26)) := bel_al hb3 _
    go_upto_region 5 with (fail)
    generalize w3.alloc (.cells #[.int .i64 d.w, .int .i64 d.h, .slice A3 d.pix.length c3] 26) = X1 at hm3 ho4 hb4 ⊢
    obtain ⟨gx, hgx⟩ : ∃ mb, w3.heap.size = mb := ⟨_, rfl⟩
    rw [hgx] at hm3 ⊢
    have HX1 := Lib.hid ho4
    have RX1 := Lib.hid hm3
    have HB4 := Lib.hid hb4
    clear ho3 hb3 hm3 ho4 hb4 hgx
    go_wp2_with fail
    refine (HPD.out _ HB4.out).mono ?_
    rintro e w5 ⟨A5, c5, rfl, ho5, hb5⟩
    have hm5 : (w5.alloc (.cells #[.int .i64 d.w, .int .i64 d.h, .slice A5 d.pix.length c5] 26)).heap[w5.heap.size]? = some (.cells #[.int .i64 d.w, .int .i64 d.h, .slice A5 d.pix.length c5] 26 (0, 0)) := heap_alloc_new w5 _
    have ho6 := ho5.alloc (.cells #[.int .i64 d.w, .int .i64 d.h, .slice A5 d.pix.length c5] 26)
    have hb6 : Below X1.heap.size X1 (w5.alloc (.cells #[.int .i64 d.w, .int .i64 d.h, .slice A5 d.pix.length c5] 26)) := bel_al hb5 _
    go_upto_region 6 with (fail)
    generalize w5.alloc (.cells #[.int .i64 d.w, .int .i64 d.h, .slice A5 d.pix.length c5] 26) = X2 at hm5 ho6 hb6 ⊢
    obtain ⟨gy, hgy⟩ : ∃ mb, w5.heap.size = mb := ⟨_, rfl⟩
    rw [hgy] at hm5 ⊢
    have HYX : Hid ((Value.slice A5 d.pix.length c5).ownBlock = none ∨ (Value.slice A5 d.pix.length c5).ownBlock ≠ (Value.slice A3 d.pix.length c3).ownBlock) := own_apart ho6 HX1.out (Nat.le_refl _)
    have HY2 := Lib.hid ho6
    have RY2 := Lib.hid hm5
    have HX2 := Lib.hid (own_b HX1.out hb6)
    have RX2 := Lib.hid (row_tr RX1.out hb6)
    have HB6 : Hid (Below w2.heap.size w2 X2) := bel_tr HB4.out hb6
    have RZ2 := Lib.hid (row_tr V1.out HB6.out)
    have HBS2 : Hid (w2.heap.size ≤ X2.heap.size) := HB6.out.size
    clear ho5 hb5 hm5 ho6 hb6 hgy HX1 RX1 HB4 j0 j1 j2
    obtain ⟨z0, z1, z2⟩ := img_cells RZ2.out
    go_wp2_with fail
    refine (HPE.out _ HB6.out).mono ?_
    rintro e w7 ⟨A7, c7, rfl, ho7, hb7⟩
    have HPX : Hid ((Value.slice A7 r.bytes.length c7).ownBlock = none ∨ (Value.slice A7 r.bytes.length c7).ownBlock ≠ (Value.slice A3 d.pix.length c3).ownBlock) := own_apart ho7 HX2.out (Nat.le_refl _)
    have HPY : Hid ((Value.slice A5 d.pix.length c5).ownBlock = none ∨ (Value.slice A5 d.pix.length c5).ownBlock ≠ (Value.slice A7 r.bytes.length c7).ownBlock) := by
      rcases own_apart ho7 HY2.out (Nat.le_refl _) with h | h
      · cases hv : (Value.slice A5 d.pix.length c5).ownBlock with
        | none => exact .inl rfl
        | some b => exact .inr (by rw [h]; simp)
      · exact .inr h.symm
    have HP7 := Lib.hid ho7
    have HX7 := Lib.hid (own_b HX2.out hb7)
    have HY7 := Lib.hid (own_b HY2.out hb7)
    have RX7 := Lib.hid (row_tr RX2.out hb7)
    have RY7 := Lib.hid (row_tr RY2.out hb7)
    have HB7 : Hid (Below w2.heap.size w2 w7) := bel_tr HB6.out hb7
    have HK0 : Hid (Xk .u16 43 w7 w7 w2.heap.size A3 d.pix.length c3 d.pix) := ⟨HX7.out, rfl, rfl, rfl, Nat.le_refl _, fun _ _ _ => rfl⟩
    clear ho7 hb7 z0 z1 z2 HX2 RX2 HY2 RY2 RZ2 HB6
    obtain ⟨N, hN⟩ : ∃ N, d.pix.length = N := ⟨_, rfl⟩
    rw [hN] at HDL HYX HPX HPY HX7 HY7 RX7 RY7 HK0 ⊢
    have HN := Lib.hid hN
    clear hN
    obtain ⟨M, hM⟩ : ∃ M, r.bytes.length = M := ⟨_, rfl⟩
    rw [hM] at HEL HPX HPY HP7 ⊢
    have HM := Lib.hid hM
    clear hM
    obtain ⟨x0, x1, x2⟩ := img_cells RX7.out
    go_wp2_with fail
    clear x0 x1 x2
    go_loopw [52] (fun s52 wr => ∃ (k : Nat) (q : List Int), k ≤ N ∧ s52 = .int .i64 k ∧ q.length = N ∧ Xk .u16 43 w7 wr w2.heap.size A3 N c3 q) (fun s52 _ => N - (intOf s52).toNat)
    case atStart => exact ⟨0, d.pix, by omega, rfl, HN.out, HK0.out⟩
    case round =>
      obtain ⟨m, q, hm, rfl, hl, hxw⟩ := hrel
      have HXW := Lib.hid hxw
      have HL := Lib.hid hl
      have HXR2 : Hid (wr.heap[gx]? = some (.cells #[.int .i64 d.w, .int .i64 d.h, .slice A3 N c3] 26 (0, 0))) := row_gr RX7.out hxw.gr (own_ne HX7.out RX7.out (by decide))
      clear hxw hl
      by_cases hlt : m < N
      · have d0 : decide ((m : Int) < (N : Int)) = true := decide_eq_true (by omega)
        have e0 : decide (m < N) = true := decide_eq_true hlt
        have j0 : (0 : Int) ≤ (m : Int) := by omega
        have j1 : (m : Int) < (N : Int) := by omega
        have HWJ : Hid (wrap64 ((m : Int) + 1) = ((m + 1 : Nat) : Int)) := by show _ = _; rw [IntWalk.wrap64_in _ (by have := HDL.out; omega)]; rfl
        obtain ⟨b1, rfl⟩ : ∃ g, A3 = some ⟨g, 0, none⟩ := own_some2 HXW.out.own (by omega)
        have hcl : wr.cell? ⟨b1, m, none⟩ = some (.int .u16 (q.getD m 0)) := HXW.out.cell HL.out hlt
        have hfz : wr.frozen? ⟨b1, m, none⟩ = false := HXW.out.own.frozenAt m
        have hcl2 : ∃ x, wr.drew.cell? ⟨b1, m, none⟩ = some x := ⟨_, hcl⟩
        have hfz2 : wr.drew.frozen? ⟨b1, m, none⟩ = false := hfz
        obtain ⟨u, hu⟩ : ∃ u, IntKind.u16.wrap (q.getD m 0 + 1) = u := ⟨_, rfl⟩
        generalize q.getD m 0 = v at hcl hu
        have x2 : wr.cell? ⟨gx, 2, none⟩ = some (.slice (some ⟨b1, 0, none⟩) N c3) := row_cell HXR2.out 2
        have HLT := Lib.hid hlt
        clear hlt hm
        go_wp2_with fail
        refine wp_region_still_tail 10 (by kernel_rfl) (by kernel_rfl) ?_
        simp only [List.take_succ_cons, List.take_zero, List.drop_succ_cons, List.drop_zero]
        repeat still_step
        refine wpStill_nil ?_
        change wpList _ _ _ _ _ wr.drew
        obtain ⟨xo, hxo⟩ := hcl2
        go_wp2_with fail
        clear hcl hfz hfz2 hxo hu x2 j0 j1
        go_roundw
        case rel => exact ⟨m + 1, q.set m u, HLT.out, by first | rw [HWJ.out] | rfl, by rw [List.length_set]; exact HL.out, by first | exact HXW.out.drew.set m u | exact (HXW.out.set m u).drew⟩
        case measure => first | (rw [HWJ.out]; exact meas_up2 HLT.out) | exact meas_up2 HLT.out
      · obtain rfl : m = N := by omega
        have d0 : decide ((m : Int) < (m : Int)) = false := by simp
        have e0 : decide (m < m) = false := by simp
        have HB9 : Hid (Below w2.heap.size w2 wr) := HB7.out.grown HXW.out.gr HB7.out.size (fun b e => (HX7.out.lt b e).1)
        have HP9 : Hid (wr.ownsRow X2.heap.size 5 1 (.slice A7 M c7) M (r.bytes.map (.int .u8))) := World.ownsRow.kept HP7.out HXW.out.gr HPX.out
        have HY9 := Lib.hid (World.ownsRow.kept HY7.out HXW.out.gr HYX.out)
        have RY9 := Lib.hid (row_gr RY7.out HXW.out.gr (own_ne HX7.out RY7.out (by decide)))
        have HK1 : Hid (Xk .u8 5 wr wr X2.heap.size A7 M c7 r.bytes) := ⟨HP9.out, rfl, rfl, rfl, Nat.le_refl _, fun _ _ _ => rfl⟩
        have HBX : Hid (w2.heap.size ≤ X2.heap.size) := HBS2.out
        clear hm hlt
        obtain ⟨w9, hw9⟩ : ∃ v, wr = v := ⟨_, rfl⟩
        rw [hw9] at HB9 HP9 HY9 RY9 HK1 ⊢
        clear HXW hw9 HXR2
        go_wp2_with fail
        clear d0 e0
        go_loopw [68] (fun s68 wr => ∃ (k : Nat) (q : List Int), k ≤ M ∧ s68 = .int .i64 k ∧ q.length = M ∧ Xk .u8 5 w9 wr X2.heap.size A7 M c7 q) (fun s68 _ => M - (intOf s68).toNat)
        case atStart => exact ⟨0, r.bytes, by omega, rfl, HM.out, HK1.out⟩
        case round =>
          obtain ⟨k, q, hm, rfl, hl, hxw⟩ := hrel
          have HXW := Lib.hid hxw
          have HL := Lib.hid hl
          clear hxw hl
          by_cases hlt : k < M
          · have d0 : decide ((k : Int) < (M : Int)) = true := decide_eq_true (by omega)
            have e0 : decide (k < M) = true := decide_eq_true hlt
            have j0 : (0 : Int) ≤ (k : Int) := by omega
            have j1 : (k : Int) < (M : Int) := by omega
            have HWJ : Hid (wrap64 ((k : Int) + 1) = ((k + 1 : Nat) : Int)) := by show _ = _; rw [IntWalk.wrap64_in _ (by have := HEL.out; omega)]; rfl
            obtain ⟨b1, rfl⟩ : ∃ g, A7 = some ⟨g, 0, none⟩ := own_some2 HXW.out.own (by omega)
            have hcl : wr.cell? ⟨b1, k, none⟩ = some (.int .u8 (q.getD k 0)) := HXW.out.cell HL.out hlt
            have hfz : wr.frozen? ⟨b1, k, none⟩ = false := HXW.out.own.frozenAt k
            have HLT := Lib.hid hlt
            clear hlt hm
            go_wp2_with fail
            clear hcl hfz j0 j1
            go_roundw
            case rel => exact ⟨k + 1, q.set k 0, HLT.out, by first | rw [HWJ.out] | rfl, by rw [List.length_set]; exact HL.out, HXW.out.set k 0⟩
            case measure => first | (rw [HWJ.out]; exact meas_up2 HLT.out) | exact meas_up2 HLT.out
          · obtain rfl : k = M := by omega
            have d0 : decide ((k : Int) < (k : Int)) = false := by simp
            have e0 : decide (k < k) = false := by simp
            have HBa : Hid (Below w2.heap.size w2 wr) := HB9.out.grown HXW.out.gr HB9.out.size (fun b e => Nat.le_trans HBX.out (HP9.out.lt b e).1)
            have HYa : Hid (SI wr .u16 A5 m d.pix) := SI.of_own (World.ownsRow.kept HY9.out HXW.out.gr HPY.out) (by have := HDL.out; simp only [kb]; omega)
            have RYa := Lib.hid (row_gr RY9.out HXW.out.gr (own_ne HP9.out RY9.out (by decide)))
            clear hm hlt HXW
            have HRC := Lib.hid (HRD.out wr HBa.out)
            go_wp2_with fail
            refine HRC.out.mono ?_
            rintro e w10 ⟨A10, c10, rfl, ho10, hb10⟩
            have hm11 : (w10.alloc (.cells #[.int .i64 d.w, .int .i64 d.h, .slice A10 d.pix.length c10] 26)).heap[w10.heap.size]? = some (.cells #[.int .i64 d.w, .int .i64 d.h, .slice A10 d.pix.length c10] 26 (0, 0)) := heap_alloc_new w10 _
            have ho11 := ho10.alloc (.cells #[.int .i64 d.w, .int .i64 d.h, .slice A10 d.pix.length c10] 26)
            have hb11 : Below wr.heap.size wr (w10.alloc (.cells #[.int .i64 d.w, .int .i64 d.h, .slice A10 d.pix.length c10] 26)) := bel_al hb10 _
            go_upto_region 18 with (fail)
            generalize w10.alloc (.cells #[.int .i64 d.w, .int .i64 d.h, .slice A10 d.pix.length c10] 26) = X3 at hm11 ho11 hb11 ⊢
            obtain ⟨gv, hgv⟩ : ∃ mb, w10.heap.size = mb := ⟨_, rfl⟩
            rw [hgv] at hm11 ⊢
            rw [HN.out] at hm11 ho11 ⊢
            have HBb : Hid (Below w2.heap.size w2 X3) := bel_tr HBa.out hb11
            have HYb := Lib.hid (si_tr HYa.out hb11)
            have RYb := Lib.hid (row_tr RYa.out hb11)
            have HVb : Hid (SI X3 .u16 A10 m d.pix) := SI.of_own ho11 (by have := HDL.out; simp only [kb]; omega)
            have RVb := Lib.hid hm11
            have RZb := Lib.hid (row_tr V1.out HBb.out)
            have RMb := Lib.hid (row_tr V2.out HBb.out)
            clear ho10 hb10 hm11 ho11 hb11 hgv HYa RYa HBa
            have g77 : X3.cell? ⟨gg, n, none⟩ = some (.int .u8 77) := (HBb.out.cell (p := ⟨gg, n, none⟩) HLT.out).trans HC77.out
            have j0 : (0 : Int) ≤ (n : Int) := by omega
            have j1 : (n : Int) ≤ (cap : Int) := by have := HCB.out; omega
            have j2 : n ≤ cap := by have := HCB.out; omega
            have k1 : (n : Int) < ((n + 1 : Nat) : Int) := by omega
            have k2 : (n : Int) < (n : Int) + 1 := by omega
            have HSM := Lib.hid (bsame_any (c := cap) (d := c) X3 (si_tr HSI.out HBb.out) (si_tr HA2.out HBb.out))
            rw [decide_eq_true (rfl : l = l)] at HSM
            go_wp2_with fail
            refine HSM.out.mono ?_
            rintro e X4 ⟨rfl, kq, rfl⟩
            have hb12 : Below X3.heap.size X3 (X3.drewN kq) := below_drewN (Below.refl _ _) kq
            generalize X3.drewN kq = X4 at hb12 ⊢
            have HBc : Hid (Below w2.heap.size w2 X4) := bel_tr HBb.out hb12
            have HYc := Lib.hid (si_tr HYb.out hb12)
            have RYc := Lib.hid (row_tr RYb.out hb12)
            have HVc := Lib.hid (si_tr HVb.out hb12)
            have RVc := Lib.hid (row_tr RVb.out hb12)
            clear hb12 g77 j0 j1 j2 k1 k2 HYb RYb HVb RVb RZb RMb HSM HBb
            obtain ⟨z0, z1, z2⟩ := img_cells (row_tr V1.out HBc.out)
            obtain ⟨m0, m1, m2⟩ := img_cells (row_tr V2.out HBc.out)
            have HSM1 : Hid (Calls Tryd.prog 12 #[.agg #[.int .i64 W, .int .i64 H, .slice AC pn cC], .agg #[.int .i64 W, .int .i64 H, .slice P pn pc]] X4 (Ard.TestP X4 true)) := by
              have := Ard.same_any (W := W) (H := H) (W2 := W) (H2 := H) (pc := cC) (pc2 := pc) X4 (si_tr HSP.out HBc.out) (si_tr HP2.out HBc.out)
              rwa [show sameB W H pix W H pix = true from decide_eq_true ⟨rfl, rfl, rfl⟩] at this
            go_wp2_with fail
            refine HSM1.out.mono ?_
            rintro e X5 ⟨rfl, hb13⟩
            have HBd : Hid (Below w2.heap.size w2 X5) := bel_tr HBc.out hb13
            have HSM2 : Hid (Calls Tryd.prog 12 #[.agg #[.int .i64 d.w, .int .i64 d.h, .slice A5 m c5], .agg #[.int .i64 d.w, .int .i64 d.h, .slice A10 m c10]] X5 (Ard.TestP X5 true)) := by
              have := Ard.same_any (W := d.w) (H := d.h) (W2 := d.w) (H2 := d.h) (pc := c5) (pc2 := c10) X5 (si_tr HYc.out hb13) (si_tr HVc.out hb13)
              rwa [show sameB d.w d.h d.pix d.w d.h d.pix = true from decide_eq_true ⟨rfl, rfl, rfl⟩] at this
            clear z0 z1 z2 m0 m1 m2 HSM1
            obtain ⟨z0, z1, z2⟩ := img_cells (row_tr RYc.out hb13)
            obtain ⟨m0, m1, m2⟩ := img_cells (row_tr RVc.out hb13)
            clear hb13
            go_wp2_with fail
            refine HSM2.out.mono ?_
            rintro e X6 ⟨rfl, hb14⟩
            have HBe : Hid (Below w.heap.size w X6) := bel_tr (bel_tr HB2.out HBd.out) hb14
            clear hb14 z0 z1 z2 m0 m1 m2
            go_wp2_with fail
            go_ret
            exact ⟨rfl, HBe.out⟩
end Go.Proofs.YtbmlopklhgladaaDoor.Pnm
