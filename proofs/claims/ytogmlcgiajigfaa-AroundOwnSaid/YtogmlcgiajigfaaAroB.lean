/-
  Walks: Apply; Copy, own, ints.
-/
import Derived.Test.YtogmlcgiajigfaaArdX
set_option linter.unusedVariables false
set_option linter.unusedSimpArgs false
namespace Go.Proofs.Ytogmlcgiajigfaa.Ard
open Go.RowKit K

theorem two_allocs (w : World) (a b : Obj) : ∃ W0, (w.alloc a).alloc b = W0 ∧ W0.heap[w.heap.size]? = some a ∧ W0.heap[w.heap.size + 1]? = some b ∧ W0.heap.size = w.heap.size + 2 ∧ Below w.heap.size w W0 := by
  refine ⟨_, rfl, ?_, ?_, by simp, ((Below.refl _ w).alloc (Nat.le_refl _) _).alloc (by simp) _⟩
  · exact heap_alloc_old _ _ (heap_alloc_new w a)
  · have := heap_alloc_new (w.alloc a) b
    rw [World.size_alloc] at this
    exact this
set_option maxHeartbeats 1000000 in
theorem apply_of {op : ByteArray} {A : Option Addr} {n c : Nat} {W H RW RH code : Int} {l : List Int} {P : Option Addr} {pn pc : Nat} (w : World)
    (HPA : ∀ V, Below w.heap.size w V → Calls Try.prog 22 #[.string op, .slice A n c, .agg #[.int .i64 W, .int .i64 H, .slice P pn pc], .agg #[.int .i64 0, .int .i64 0, .int .i64 W, .int .i64 H]] V (ImgP V RW RH l code)) :
    Calls Try.prog 18 #[.string op, .slice A n c, .agg #[.int .i64 W, .int .i64 H, .slice P pn pc]] w (ImgP w RW RH l code) := by
  obtain ⟨W0, hW0, r0, r1, hs, hb⟩ := two_allocs w (.cells #[.int .i64 W, .int .i64 H, .slice P pn pc] 37) (.cells zimg 37)
  have HP := Lib.hid HPA
  have R1 := Lib.hid r1
  have HS := Lib.hid hs
  have HB := Lib.hid hb
  clear HPA r0 r1 hs hb
  go_enter Try.func18, Try.ntmps18
  go_wp2_with fail
  unfold zimg at hW0
  rw [hW0]
  refine (HP.out W0 HB.out).mono ?_
  rintro e w1 ⟨hb1, A2, c2, rfl, hown⟩
  have R1b : Hid (w1.heap[w.heap.size + 1]? = some (.cells zimg 37 (0, 0))) := (hb1.block _ (by have := HS.out; omega)).trans R1.out
  have HB1 : Hid (Below w.heap.size w w1) := HB.out.trans (hb1.mono HB.out.size)
  have HOW : Hid (w1.ownsRow w.heap.size 53 1 (.slice A2 l.length c2) l.length (l.map (.int .u16))) := own_base hown (by have := HS.out; omega)
  have HOI : Hid ((#[.int .i64 RW, .int .i64 RH, .slice A2 l.length c2] : Array Value).all (·.oneCell') = true) := by show _ = _; simp [Value.oneCell']
  clear hb1 hown hW0
  go_wp2_with (refine wpList_store_row rfl 37 (.tmp 6) (.tmp 17) rfl (w.heap.size + 1) #[.int .i64 RW, .int .i64 RH, .slice A2 l.length c2] rfl rfl 37 zimg R1b.out imgInfo rfl HOI.out ?_)
  refine bodyPost_ret (results_row_tmp rfl _ _ (w.heap.size + 1) 37 _ (0, 0) _ rfl (setRow_heap _ _ _ _ _ _ R1b.out) Try.underlying37 rfl imgInfo) rfl ?_
  exact ⟨below_setRow HB1.out (Nat.le_add_right _ _) _, A2, c2, rfl, HOW.out.kept (grown_row _ _ _) (.inr (own_ne HOW.out R1b.out (by decide)).symm)⟩
/-- a copy of an image: new memory -/
def CopyP (w : World) (W H : Int) (l : List Int) (e : Ending) (w' : World) : Prop :=
  Below w.heap.size w w' ∧ ∃ A c, e = .returned (.agg #[.int .i64 W, .int .i64 H, .slice A l.length c]) ∧ w'.ownsRow w.heap.size 53 1 (.slice A l.length c) l.length (l.map (.int .u16)) ∧ l.length ≤ c ∧ c ≤ maxLen
theorem own_caps {w : World} {base e n c : Nat} {A : Option Addr} {xs : List Value} (h : w.ownsRow base e 1 (.slice A n c) n xs) : n ≤ c ∧ c ≤ maxLen := by
  rcases h.2 with ⟨hv, rfl⟩ | ⟨g, cap, cur, hv, h1, h2, h3, h4, h5⟩
  · injection hv with e1 e2 e3; exact ⟨by omega, by rw [e3]; exact Nat.zero_le _⟩
  · injection hv with e1 e2 e3; subst e3; exact ⟨h3, h4⟩
theorem own_empty (w : World) (base T : Nat) (hb : base ≤ w.heap.size) : (w.alloc (.cells #[] T)).ownsRow base T 1 (.slice (some ⟨w.heap.size, 0, none⟩) 0 0) 0 [] :=
  ⟨rfl, .inr ⟨w.heap.size, 0, #[], rfl, hb, heap_alloc_new w _, Nat.le_refl _, Nat.zero_le _, rfl, rfl⟩⟩
theorem ints_any {A : Option Addr} {n c : Nat} {l : List Int} (w : World) (HA : SI w .i64 A n l) : Calls Try.prog 14 #[.slice A n c] w (NewI w l) := by
  have hbig := HA.big
  have hlen := HA.len
  have HAA := Lib.hid HA
  have HL := Lib.hid hlen
  clear HA hlen
  go_enter Try.func14, Try.ntmps14
  go_wp2_with (at_builtin; refine wpList_append_sl _ rfl (.tmp 3) (.tmp 4) _ rfl w.heap.size 3 1 8 _ Try.underlying22 infoInt rfl (by omega) (.slice (some ⟨w.heap.size, 0, none⟩) 0 0) 0 [] rfl (own_empty w w.heap.size 3 (Nat.le_refl _)) A n c (l.map (.int .i64)) rfl (by rw [List.length_map, HL.out, Nat.mul_one]) (HAA.out.alloc _).sl (ones .i64 l) ?c2 ?c3 ?c4 ?_)
  case c2 => unfold maxLen; omega
  case c3 => omega
  case c4 => simp
  intro v' w5 hown5 hg5 hat5
  obtain ⟨A5, c5, rfl⟩ := own_form hown5
  have HB5 : Hid (Below w.heap.size w w5) := ((Below.refl _ w).alloc (Nat.le_refl _) _).grown hg5 (by simp) (fun b e => by simp [Value.ownBlock] at e; omega)
  have HO5 : Hid (w5.ownsRow w.heap.size 3 1 (.slice A5 l.length c5) l.length (l.map (.int .i64))) := by
    show World.ownsRow _ _ _ _ _ _ _
    rw [HL.out]; exact hown5
  clear hown5 hg5 hat5
  go_wp2_with fail
  go_ret
  exact ⟨A5, c5, by rw [HL.out]; rfl, HO5.out, HB5.out⟩
theorem copy_any {W H : Int} {P : Option Addr} {pn pc : Nat} {pix : List Int} (w : World) (HP : SI w .u16 P pn pix) : Calls Try.prog 34 #[.agg #[.int .i64 W, .int .i64 H, .slice P pn pc]] w (CopyP w W H pix) := by
  have hbig : pn * 2 ≤ 140737488351232 := HP.sz
  have hlen := HP.len
  obtain ⟨W0, hW0, r0, r1, hs, hb⟩ := two_allocs w (.cells #[.int .i64 W, .int .i64 H, .slice P pn pc] 37) (.cells zimg 37)
  have HPP := Lib.hid HP
  have HL := Lib.hid hlen
  have R0 := Lib.hid r0
  have R1 := Lib.hid r1
  have HS := Lib.hid hs
  have HB := Lib.hid hb
  clear HP hlen r0 r1 hs hb
  go_enter Try.func34, Try.ntmps34
  go_upto_region 1 with (fail)
  unfold zimg at hW0
  rw [hW0]
  clear hW0
  have x2a : ∀ o, (W0.alloc o).cell? ⟨w.heap.size, 2, none⟩ = some (.slice P pn pc) := fun o => row_cell (heap_alloc_old _ o R0.out) 2
  have HSl : Hid (Sl (W0.alloc (.cells #[] 53)) P (pix.map (.int .u16))) := ((HPP.out.below HB.out (Nat.le_refl _)).alloc _).sl
  have HOE : Hid ((W0.alloc (.cells #[] 53)).ownsRow w.heap.size 53 1 (.slice (some ⟨W0.heap.size, 0, none⟩) 0 0) 0 []) := own_empty W0 w.heap.size 53 HB.out.size
  have HLN : Hid ((pix.map (Value.int .u16)).length = pn * 1) := by show _ = _; rw [List.length_map, HL.out, Nat.mul_one]
  go_wp2_with (at_builtin; refine wpList_append_sl _ rfl (.tmp 3) (.tmp 5) _ rfl w.heap.size 53 1 2 _ Try.underlying35 infoU16 rfl (by omega) (.slice (some ⟨W0.heap.size, 0, none⟩) 0 0) 0 [] rfl HOE.out P pn pc (pix.map (.int .u16)) rfl HLN.out HSl.out (ones .u16 pix) ?c2 ?c3 ?c4 ?_)
  case c2 => unfold maxLen; omega
  case c3 => omega
  case c4 => have := HB.out.size; simp; omega
  intro v' w5 hown5 hg5 hat5
  obtain ⟨A5, c5, rfl⟩ := own_form hown5
  have hne : ∀ b, b < W0.heap.size → some b ≠ (Value.slice (some ⟨W0.heap.size, 0, none⟩) 0 0).ownBlock := fun b hb => by simp [Value.ownBlock]; omega
  have Q0 : Hid (w5.heap[w.heap.size]? = some (.cells #[.int .i64 W, .int .i64 H, .slice P pn pc] 37 (0, 0))) := (hg5.block _ (by have := HS.out; simp; omega) (hne _ (by have := HS.out; omega))).trans (heap_alloc_old _ _ R0.out)
  have Q1 : Hid (w5.heap[w.heap.size + 1]? = some (.cells zimg 37 (0, 0))) := (hg5.block _ (by have := HS.out; simp; omega) (hne _ (by have := HS.out; omega))).trans (heap_alloc_old _ _ R1.out)
  have HB5 : Hid (Below w.heap.size w w5) := (HB.out.alloc HB.out.size _).grown hg5 (by have := HS.out; simp; omega) (fun b e => by have := HS.out; simp [Value.ownBlock] at e; omega)
  have HO5 : Hid (w5.ownsRow w.heap.size 53 1 (.slice A5 pix.length c5) pix.length (pix.map (.int .u16))) := by
    show World.ownsRow _ _ _ _ _ _ _
    rw [HL.out]; exact hown5
  have y2 : w5.cell? ⟨w.heap.size, 2, none⟩ = some (.slice P pn pc) := row_cell Q0.out 2
  have y3 : w5.frozen? ⟨w.heap.size, 2, none⟩ = false := row_frozen Q0.out 2
  have S0 : Hid ((w5.setCell ⟨w.heap.size, 2, none⟩ (.slice A5 pn c5)).heap[w.heap.size]? = some (.cells #[.int .i64 W, .int .i64 H, .slice A5 pn c5] 37 (0, 0))) := set_row2 Q0.out
  have S1 : Hid ((w5.setCell ⟨w.heap.size, 2, none⟩ (.slice A5 pn c5)).heap[w.heap.size + 1]? = some (.cells zimg 37 (0, 0))) := (Below.heap_setCell _ _ _ _ (by simp)).trans Q1.out
  have HOS : Hid ((w5.setCell ⟨w.heap.size, 2, none⟩ (.slice A5 pn c5)).ownsRow w.heap.size 53 1 (.slice A5 pix.length c5) pix.length (pix.map (.int .u16))) := HO5.out.kept (grown_set1 _ _ _ _) (.inr (own_ne HO5.out Q0.out (by decide)).symm)
  have HBS : Hid (Below w.heap.size w (w5.setCell ⟨w.heap.size, 2, none⟩ (.slice A5 pn c5))) := HB5.out.setCell (p := ⟨w.heap.size, 2, none⟩) (Nat.le_refl _) _
  have HOI : Hid ((#[.int .i64 W, .int .i64 H, .slice A5 pn c5] : Array Value).all (·.oneCell') = true) := by show _ = _; simp [Value.oneCell']
  clear hown5 hg5 hat5 hne x2a
  go_upto_region 2 with (fail)
  generalize w5.setCell ⟨w.heap.size, 2, none⟩ (.slice A5 pn c5) = w6 at S0 S1 HOS HBS ⊢
  have u0 := row_cell S0.out 0
  have u1 := row_cell S0.out 1
  have u2 := row_cell S0.out 2
  go_wp2_with (refine wpList_store_row rfl 37 (.tmp 2) (.tmp 8) rfl (w.heap.size + 1) #[.int .i64 W, .int .i64 H, .slice A5 pn c5] rfl rfl 37 zimg S1.out imgInfo rfl HOI.out ?_)
  refine bodyPost_ret (results_cell_row rfl _ _ (w.heap.size + 1) 37 _ (0, 0) _ rfl (setRow_heap _ _ _ _ _ _ S1.out) Try.underlying37 rfl imgInfo) rfl ?_
  refine ⟨below_setRow HBS.out (Nat.le_add_right _ _) _, A5, c5, by rw [HL.out], HOS.out.kept (grown_row _ _ _) (.inr (own_ne HOS.out S1.out (by decide)).symm), own_caps HOS.out⟩
theorem own_any {W H : Int} {P : Option Addr} {pn pc : Nat} {pix : List Int} (w : World) (HP : SI w .u16 P pn pix) : Calls Try.prog 19 #[.agg #[.int .i64 W, .int .i64 H, .slice P pn pc]] w (CopyP w W H pix) := by
  obtain ⟨W0, hW0, r0, r1, hs, hb⟩ := two_allocs w (.cells #[.int .i64 W, .int .i64 H, .slice P pn pc] 37) (.cells zimg 37)
  have HC := Lib.hid (copy_any (W := W) (H := H) (pc := pc) W0 (HP.below hb (Nat.le_refl _)))
  have R1 := Lib.hid r1
  have HS := Lib.hid hs
  have HB := Lib.hid hb
  clear HP r0 r1 hs hb
  go_enter Try.func19, Try.ntmps19
  go_wp2_with fail
  unfold zimg at hW0
  rw [hW0]
  refine HC.out.mono ?_
  rintro e w1 ⟨hb1, A2, c2, rfl, hown, hc1, hc2⟩
  have R1b : Hid (w1.heap[w.heap.size + 1]? = some (.cells zimg 37 (0, 0))) := (hb1.block _ (by have := HS.out; omega)).trans R1.out
  have HB1 : Hid (Below w.heap.size w w1) := HB.out.trans (hb1.mono HB.out.size)
  have HOW : Hid (w1.ownsRow w.heap.size 53 1 (.slice A2 pix.length c2) pix.length (pix.map (.int .u16))) := own_base hown (by have := HS.out; omega)
  have HOI : Hid ((#[.int .i64 W, .int .i64 H, .slice A2 pix.length c2] : Array Value).all (·.oneCell') = true) := by show _ = _; simp [Value.oneCell']
  clear hb1 hown hW0
  go_wp2_with (refine wpList_store_row rfl 37 (.tmp 2) (.tmp 4) rfl (w.heap.size + 1) #[.int .i64 W, .int .i64 H, .slice A2 pix.length c2] rfl rfl 37 zimg R1b.out imgInfo rfl HOI.out ?_)
  refine bodyPost_ret (results_cell_row rfl _ _ (w.heap.size + 1) 37 _ (0, 0) _ rfl (setRow_heap _ _ _ _ _ _ R1b.out) Try.underlying37 rfl imgInfo) rfl ?_
  exact ⟨below_setRow HB1.out (Nat.le_add_right _ _) _, A2, c2, rfl, HOW.out.kept (grown_row _ _ _) (.inr (own_ne HOW.out R1b.out (by decide)).symm), hc1, hc2⟩
end Go.Proofs.Ytogmlcgiajigfaa.Ard
