/-
  Walks: the reference's Add, Pixel.
-/
import Derived.Test.YtogmlcgiajigfaaAroB
import Derived.StillTailTactics
set_option linter.unusedVariables false
set_option linter.unusedSimpArgs false
namespace Go.Proofs.Ytogmlcgiajigfaa.Ard
open Go.RowKit K

theorem grown_tr {a b c : World} {row : Option Nat} (h : a.grownBy b row) (k : b.grownBy c row) : a.grownBy c row :=
  ⟨k.os.trans h.os, k.tape.trans h.tape, k.output.trans h.output, Nat.le_trans h.size k.size, fun i hi hr => (k.block i (Nat.lt_of_lt_of_le hi h.size) hr).trans (h.block i hi hr)⟩
theorem grown_al {a b : World} {row : Option Nat} (h : a.grownBy b row) (o : Obj) : a.grownBy (b.alloc o) row := grown_tr h (World.grownBy_alloc b o row)
/-- cells of new blocks may change -/
theorem grown_new {a b c : World} {row : Option Nat} {x : Nat} (h : a.grownBy b row) (k : b.grownBy c (some x)) (hx : a.heap.size ≤ x) : a.grownBy c row :=
  ⟨k.os.trans h.os, k.tape.trans h.tape, k.output.trans h.output, Nat.le_trans h.size k.size, fun i hi hr => (k.block i (Nat.lt_of_lt_of_le hi h.size) (by simp; omega)).trans (h.block i hi hr)⟩
theorem own_b {w w' : World} {base e sz n : Nat} {v : Value} {xs : List Value} (h : w.ownsRow base e sz v n xs) (hb : Below w.heap.size w w') : w'.ownsRow base e sz v n xs := h.kept (grown_below hb none) (by cases hv : v.ownBlock <;> simp)
/-- an append of what has just been laid, in the text's order -/
theorem wpList_push {P : Program} {ops : Array Oper} {rest : List Oper} {o : Oper} {a : Act} {w : World} {Q : Exit → Act → World → Prop} (hgd : o.guard = none) (s x : Operand) (t : TypeId)
    (ho : o.op = .call { callee := .builtin .append, args := #[s, x], argTypes := #[t, t] }) (base e size bytes : Nat) (z : Value) (ht : P.underlying t = some (.slice e))
    (hinfo : (P.info? e).map (fun i => (i.zero, i.size, i.bytes)) = some (some z, size, bytes)) (hzs : z.cells.size = size) (hsz : 0 < size)
    (v : Value) (n : Nat) (xs : List Value) (hs : a.eval s = v) (hown : w.ownsRow base e size v n xs) (B m c : Nat) (cs : List Value) (T : TypeId)
    (hx : a.eval x = .slice (some ⟨B, 0, none⟩) m c) (hl : cs.length = m * size) (hb : w.heap[B]? = some (.cells cs.toArray T (0, 0))) (h1 : ∀ u ∈ cs, u.oneCell' = true) (hm : 0 < m)
    (h63 : n + m ≤ maxLen) (hbytes : (n + m) * bytes ≤ 140737488355328) (hbase : base ≤ w.heap.size) (H : Nat) (hH : w.heap.size = H)
    (h : ∀ g cap w', w'.ownsRow base e size (.slice (some ⟨g, 0, none⟩) (n + m) cap) (n + m) (xs ++ cs) → w.grownBy w' v.ownBlock → (v.ownBlock = some g ∨ g = H) → g < w'.heap.size → wpList P ops Q rest (a.put o.dst (.slice (some ⟨g, 0, none⟩) (n + m) cap)) w') : wpList P ops Q (o :: rest) a w := by
  obtain ⟨i, hi, hz, h2, h3⟩ := info_parts hinfo
  exact wpList_append_lies w hgd s x t ho base e i z size bytes ht hi hz h2 h3 hzs hsz v n xs hs hown ⟨B, 0, none⟩ m c cs hx hl (by simpa using World.news_of_block hb) h1 hm h63 hbytes hbase H hH h
theorem colInfo : (Try.prog.info? 55).map (·.size) = some 4 := by kernel_rfl
def colC (r g b a : Int) : Array Value := #[.int .u16 r, .int .u16 g, .int .u16 b, .int .u16 a]
/-- a pixel more at an owned image's end -/
def AddP (base : Nat) (w : World) (W H : Int) (A : Option Addr) (n c : Nat) (l : List Int) (e : Ending) (w' : World) : Prop :=
  ∃ g cap, e = .returned (.agg #[.int .i64 W, .int .i64 H, .slice (some ⟨g, 0, none⟩) (n + 4) cap]) ∧ w'.ownsRow base 53 1 (.slice (some ⟨g, 0, none⟩) (n + 4) cap) (n + 4) (l.map (.int .u16)) ∧ w.grownBy w' (Value.slice A n c).ownBlock ∧ ((Value.slice A n c).ownBlock = some g ∨ w.heap.size ≤ g) ∧ g < w'.heap.size
set_option maxHeartbeats 2000000 in
theorem add_any {W H r g b a : Int} {A : Option Addr} {n c base : Nat} {l : List Int} (w : World) (hown : w.ownsRow base 53 1 (.slice A n c) n (l.map (.int .u16))) (hn : n ≤ 16777216) (hbase : base ≤ w.heap.size) :
    Calls Try.prog 39 #[.agg #[.int .i64 W, .int .i64 H, .slice A n c], .agg #[.int .u16 r, .int .u16 g, .int .u16 b, .int .u16 a]] w (AddP base w W H A n c (l ++ [r, g, b, a])) := by
  obtain ⟨W0, hW0, r0, r1, r2, hs, hb⟩ := three_allocs w (.cells #[.int .i64 W, .int .i64 H, .slice A n c] 37) (.cells (colC r g b a) 55) (.cells zimg 37)
  have HOWN0 : Hid (W0.ownsRow base 53 1 (.slice A n c) n (l.map (.int .u16))) := own_b hown hb
  have HLT : Hid (∀ k, (Value.slice A n c).ownBlock = some k → base ≤ k ∧ k < w.heap.size) := hown.lt
  have HB := Lib.hid hb
  have HS := Lib.hid hs
  have R0 := Lib.hid r0
  have R1 := Lib.hid r1
  have R2 := Lib.hid r2
  have y2 : W0.cell? ⟨w.heap.size, 2, none⟩ = some (.slice A n c) := row_cell r0 2
  have z0 : W0.cell? ⟨w.heap.size + 1, 0, none⟩ = some (.int .u16 r) := row_cell r1 0
  have z1 : W0.cell? ⟨w.heap.size + 1, 1, none⟩ = some (.int .u16 g) := row_cell r1 1
  have z2 : W0.cell? ⟨w.heap.size + 1, 2, none⟩ = some (.int .u16 b) := row_cell r1 2
  have z3 : W0.cell? ⟨w.heap.size + 1, 3, none⟩ = some (.int .u16 a) := row_cell r1 3
  have HL : Hid (n = l.length) := by have := hown.1; show _ = _; simpa using this.symm
  clear hown hb hs r0 r1 r2
  unfold colC zimg at hW0
  go_enter Try.func39, Try.ntmps39
  go_wp2_with (at_builtin; refine wpList_push rfl (.tmp 6) (.tmp 15) _ rfl base 53 1 2 _ Try.underlying35 infoU16 rfl (by omega) (.slice A n c) n (l.map (.int .u16)) rfl (HOWN0.out.alloc _) W0.heap.size 4 4 [.int .u16 r, .int .u16 g, .int .u16 b, .int .u16 a] 53 rfl rfl (heap_alloc_new W0 _) ?c2 (by omega) ?c3 ?c4 ?c5 _ rfl ?_)
  case c2 => intro u hu; simp at hu; rcases hu with rfl | rfl | rfl | rfl <;> rfl
  case c3 => unfold maxLen; omega
  case c4 => omega
  case c5 => have := HB.out.size; simp; omega
  intro g1 cap1 w5 hown5 hg5 hat5 hlt5
  have hne : ∀ b, w.heap.size ≤ b → some b ≠ (Value.slice A n c).ownBlock := fun b hb e => by have := (HLT.out b e.symm).2; omega
  have Q0 : Hid (w5.heap[w.heap.size]? = some (.cells #[.int .i64 W, .int .i64 H, .slice A n c] 37 (0, 0))) := (hg5.block _ (by have := HS.out; simp; omega) (hne _ (Nat.le_refl _))).trans (heap_alloc_old _ _ R0.out)
  have Q2 : Hid (w5.heap[w.heap.size + 1 + 1]? = some (.cells zimg 37 (0, 0))) := (hg5.block _ (by have := HS.out; simp; omega) (hne _ (by omega))).trans (heap_alloc_old _ _ R2.out)
  have HG5 : Hid (w.grownBy w5 (Value.slice A n c).ownBlock) := grown_tr (grown_al (grown_below HB.out _) _) hg5
  have HA5 : Hid ((Value.slice A n c).ownBlock = some g1 ∨ w.heap.size + 3 ≤ g1) := by
    rcases hat5 with h | h
    · exact .inl h
    · exact .inr (by rw [h]; have := HS.out; simp; omega)
  have HLT5 := Lib.hid hlt5
  have HO5 := Lib.hid hown5
  have y2 : w5.cell? ⟨w.heap.size, 2, none⟩ = some (.slice A n c) := row_cell Q0.out 2
  have y3 : w5.frozen? ⟨w.heap.size, 2, none⟩ = false := row_frozen Q0.out 2
  obtain ⟨w6, hw6⟩ : ∃ w6, w5.setCell ⟨w.heap.size, 2, none⟩ (.slice (some ⟨g1, 0, none⟩) (n + 4) cap1) = w6 := ⟨_, rfl⟩
  have S0 : Hid (w6.heap[w.heap.size]? = some (.cells #[.int .i64 W, .int .i64 H, .slice (some ⟨g1, 0, none⟩) (n + 4) cap1] 37 (0, 0))) := by show _ = _; rw [← hw6]; exact set_row2 Q0.out
  have S2 : Hid (w6.heap[w.heap.size + 1 + 1]? = some (.cells zimg 37 (0, 0))) := by show _ = _; rw [← hw6]; exact (Below.heap_setCell _ _ _ _ (by show w.heap.size + 1 + 1 ≠ w.heap.size; omega)).trans Q2.out
  have HG6 : Hid (w.grownBy w6 (Value.slice A n c).ownBlock) := by show World.grownBy _ _ _; rw [← hw6]; exact grown_new HG5.out (grown_set1 _ _ _ _) (Nat.le_refl _)
  have HO6 : Hid (w6.ownsRow base 53 1 (.slice (some ⟨g1, 0, none⟩) (n + 4) cap1) (n + 4) ((l ++ [r, g, b, a]).map (.int .u16))) := by
    show World.ownsRow _ _ _ _ _ _ _
    rw [← hw6, List.map_append]
    exact HO5.out.kept (grown_set1 _ _ _ _) (.inr (own_ne HO5.out Q0.out (by decide)).symm)
  have HL6 : Hid (g1 < w6.heap.size) := by show _ < _; rw [← hw6]; have := HLT5.out; simpa using this
  have HOI : Hid ((#[.int .i64 W, .int .i64 H, .slice (some ⟨g1, 0, none⟩) (n + 4) cap1] : Array Value).all (·.oneCell') = true) := by show _ = _; simp [Value.oneCell']
  have u0 : w6.cell? ⟨w.heap.size, 0, none⟩ = some (.int .i64 W) := row_cell S0.out 0
  have u1 : w6.cell? ⟨w.heap.size, 1, none⟩ = some (.int .i64 H) := row_cell S0.out 1
  have u2 : w6.cell? ⟨w.heap.size, 2, none⟩ = some (.slice (some ⟨g1, 0, none⟩) (n + 4) cap1) := row_cell S0.out 2
  clear hown5 hg5 hat5 hlt5 hne z0 z1 z2 z3
  go_wp2_with (refine wpList_store_row rfl 37 (.tmp 4) (.tmp 18) rfl (w.heap.size + 1 + 1) #[.int .i64 W, .int .i64 H, .slice (some ⟨g1, 0, none⟩) (n + 4) cap1] rfl rfl 37 zimg S2.out imgInfo rfl HOI.out ?_)
  refine bodyPost_ret (results_cell_row rfl _ _ (w.heap.size + 1 + 1) 37 _ (0, 0) _ rfl (setRow_heap _ _ _ _ _ _ S2.out) Try.underlying37 rfl imgInfo) rfl ?_
  refine ⟨g1, cap1, rfl, HO6.out.kept (grown_row _ _ _) (.inr (own_ne HO6.out S2.out (by decide)).symm), grown_new HG6.out (grown_row _ _ _) (by omega), HA5.out.imp id (by omega), by have := HL6.out; simpa using this⟩
theorem pix_place {W H x y pn : Nat} (hpn : pn = 4 * W * H) (hW : W ≤ 4096) (hH : H ≤ 4096) (hx : x < W) (hy : y < H) : 4 * (y * W + x) + 3 < pn ∧ pn ≤ 67108864 := by
  have hpl := place_in (W := W) (H := H) (a := x) (b := y) (k := 3) hx hy (by omega)
  have h1 : W * H ≤ 4096 * 4096 := Nat.mul_le_mul hW hH
  have h2 : 4 * W * H = 4 * (W * H) := Nat.mul_assoc _ _ _
  rw [hpn]
  omega
theorem pix_wraps {W H x y pn : Nat} (hpn : pn = 4 * W * H) (hW : W ≤ 4096) (hH : H ≤ 4096) (hx : x < W) (hy : y < H) :
    wrap64 ((y : Int) * (W : Int)) = ((y * W : Nat) : Int) ∧ wrap64 (((y * W : Nat) : Int) + (x : Int)) = ((y * W + x : Nat) : Int) ∧ wrap64 (4 * ((y * W + x : Nat) : Int)) = ((4 * (y * W + x) : Nat) : Int) := by
  obtain ⟨h1, h2⟩ := pix_place hpn hW hH hx hy
  clear hpn hW hH hy
  have e1 : (y : Int) * (W : Int) = ((y * W : Nat) : Int) := (Int.natCast_mul _ _).symm
  rw [e1]
  generalize y * W = a at *
  refine ⟨IntWalk.wrap64_in _ (by omega), ?_, ?_⟩
  · rw [IntWalk.wrap64_in _ (by omega)]; rfl
  · rw [IntWalk.wrap64_in _ (by omega)]; omega
set_option maxRecDepth 20000 in
set_option maxHeartbeats 2000000 in
theorem pixel_any {W H : Nat} {P : Option Addr} {pn pc x y : Nat} {pix : List Int} (w : World) (HP : SI w .u16 P pn pix) (hpn : pn = 4 * W * H) (hW : W ≤ 4096) (hH : H ≤ 4096) (hx : x < W) (hy : y < H) :
    Calls Try.prog 40 #[.agg #[.int .i64 W, .int .i64 H, .slice P pn pc], .int .i64 x, .int .i64 y] w fun e w' => Below w.heap.size w w' ∧
      e = .returned (.agg #[.int .u16 (pix.getD (4 * (y * W + x)) 0), .int .u16 (pix.getD (4 * (y * W + x) + 1) 0), .int .u16 (pix.getD (4 * (y * W + x) + 2) 0), .int .u16 (pix.getD (4 * (y * W + x) + 3) 0)]) := by
  obtain ⟨W0, hW0, r0, r1, hs, hb⟩ := two_allocs w (.cells #[.int .i64 W, .int .i64 H, .slice P pn pc] 37) (.cells (colC 0 0 0 0) 55)
  obtain ⟨hpl, hp2⟩ := pix_place hpn hW hH hx hy
  obtain ⟨f1, f2, f3⟩ := pix_wraps hpn hW hH hx hy
  obtain ⟨q, hq⟩ : ∃ q, 4 * (y * W + x) = q := ⟨_, rfl⟩
  rw [hq] at hpl f3 ⊢
  clear hq hpn hW hH hx hy
  have SP := HP.below hb (Nat.le_refl _)
  obtain ⟨b0, o0, v0, rfl, k0, hv0, -⟩ := SP.cells (i := q) (by omega)
  obtain ⟨b1, o1, v1, e1, k1, hv1, -⟩ := SP.cells (i := q + 1) (by omega)
  injection e1 with e1; injection e1 with e1 e2; subst e1 e2
  obtain ⟨b2, o2, v2, e1, k2, hv2, -⟩ := SP.cells (i := q + 2) (by omega)
  injection e1 with e1; injection e1 with e1 e2; subst e1 e2
  obtain ⟨b3, o3, v3, e1, k3, hv3, -⟩ := SP.cells (i := q + 3) (by omega)
  injection e1 with e1; injection e1 with e1 e2; subst e1 e2
  have g0 : pix.getD q 0 = v0 := by rw [List.getD_eq_getElem?_getD, hv0.out]; rfl
  have g1 : pix.getD (q + 1) 0 = v1 := by rw [List.getD_eq_getElem?_getD, hv1.out]; rfl
  have g2 : pix.getD (q + 2) 0 = v2 := by rw [List.getD_eq_getElem?_getD, hv2.out]; rfl
  have g3 : pix.getD (q + 3) 0 = v3 := by rw [List.getD_eq_getElem?_getD, hv3.out]; rfl
  rw [g0, g1, g2, g3]
  obtain ⟨y1, hy1⟩ : ∃ m, y * W = m := ⟨_, rfl⟩
  rw [hy1] at f1 f2 f3
  obtain ⟨y2, hy2⟩ : ∃ m, y1 + x = m := ⟨_, rfl⟩
  rw [hy2] at f2 f3
  clear hy1 hy2
  have x0 : W0.cell? ⟨w.heap.size, 0, none⟩ = some (.int .i64 W) := row_cell r0 0
  have x2 : W0.cell? ⟨w.heap.size, 2, none⟩ = some (.slice (some ⟨b0, o0, none⟩) pn pc) := row_cell r0 2
  have R1 := Lib.hid r1
  have HB := Lib.hid hb
  clear HP SP hv0 hv1 hv2 hv3 g0 g1 g2 g3 r0 r1 hb hs
  unfold colC at hW0
  go_enter Try.func40, Try.ntmps40
  go_upto_region 2 with (fail)
  try rw [hW0]
  rw [f3]
  clear hW0 f1 f2 f3
  have a1 : IntKind.i64.wrap ((q : Int) + 1) = (q : Int) + 1 := IntWalk.i64_in _ (by omega)
  have a2 : IntKind.i64.wrap ((q : Int) + 2) = (q : Int) + 2 := IntWalk.i64_in _ (by omega)
  have a3 : IntKind.i64.wrap ((q : Int) + 3) = (q : Int) + 3 := IntWalk.i64_in _ (by omega)
  have t1 : ((q : Int) + 1).toNat = q + 1 := by omega
  have t2 : ((q : Int) + 2).toNat = q + 2 := by omega
  have t3 : ((q : Int) + 3).toNat = q + 3 := by omega
  have i0 : (0 : Int) ≤ (q : Int) := by omega
  have j0 : (q : Int) < (pn : Int) := by omega
  have i1 : (0 : Int) ≤ (q : Int) + 1 := by omega
  have j1 : (q : Int) + 1 < (pn : Int) := by omega
  have i2 : (0 : Int) ≤ (q : Int) + 2 := by omega
  have j2 : (q : Int) + 2 < (pn : Int) := by omega
  have i3 : (0 : Int) ≤ (q : Int) + 3 := by omega
  have j3 : (q : Int) + 3 < (pn : Int) := by omega
  have HOI : Hid ((#[.int .u16 v0, .int .u16 v1, .int .u16 v2, .int .u16 v3] : Array Value).all (·.oneCell') = true) := by show _ = _; simp [Value.oneCell']
  refine wp_region_still_tail 24 (by kernel_rfl) (by kernel_rfl) ?_
  simp only [List.take_succ_cons, List.take_zero, List.drop_succ_cons, List.drop_zero]
  repeat still_step
  refine wpStill_nil ?_
  change wpList _ _ _ _ _ W0.drew
  go_wp2_with (refine wpList_store_row rfl 55 (.tmp 6) (.tmp 38) rfl (w.heap.size + 1) #[.int .u16 v0, .int .u16 v1, .int .u16 v2, .int .u16 v3] rfl rfl 55 (colC 0 0 0 0) R1.out colInfo rfl HOI.out ?_)
  refine bodyPost_ret (results_cell_row rfl _ _ (w.heap.size + 1) 55 _ (0, 0) _ rfl (setRow_heap _ _ _ _ _ _ R1.out) Try.underlying55 rfl colInfo) rfl ?_
  exact ⟨below_setRow (below_drewN HB.out 1) (Nat.le_add_right _ _) _, rfl⟩
end Go.Proofs.Ytogmlcgiajigfaa.Ard
