/-
  Walks: raster.Crop.
-/
import Derived.Deep.Cut
import Derived.Test.YtogmlcgiajigfaaArdJ
import Derived.Test.YtogmlcgiajigfaaArdV
set_option linter.unusedVariables false
set_option linter.unusedSimpArgs false
namespace Go.Proofs.Ytogmlcgiajigfaa.Ard
open Go.RowKit K

theorem infoU16 : (Try.prog.info? 53).map (fun i => (i.zero, i.size, i.bytes)) = some (some (.int .u16 0), 1, 2) := by kernel_rfl
theorem imgInfo : (Try.prog.info? 37).map (·.size) = some 3 := by kernel_rfl
def zimg : Array Value := #[.int .i64 0, .int .i64 0, .slice none 0 0]
theorem zimgAll : zimg.all (·.oneCell') = true := by simp [zimg, Value.oneCell']
/-- the first k rows of a part -/
def cropK (W : Nat) (pix : List Int) (X Y RW : Nat) (k : Nat) : List Int := (List.range k).flatMap fun j => (pix.drop (4 * ((Y + j) * W + X))).take (4 * RW)
theorem cropK_succ (W : Nat) (pix : List Int) (X Y RW k : Nat) : cropK W pix X Y RW (k + 1) = cropK W pix X Y RW k ++ (pix.drop (4 * ((Y + k) * W + X))).take (4 * RW) := by
  unfold cropK; rw [List.range_succ, List.flatMap_append]; simp
/-- an image that is answered: new memory -/
def ImgP (w : World) (W H : Int) (l : List Int) (code : Int) (e : Ending) (w' : World) : Prop :=
  Below w.heap.size w w' ∧ ∃ A c, e = .returned (.tuple #[.agg #[.int .i64 W, .int .i64 H, .slice A l.length c], .int .i64 code]) ∧ w'.ownsRow w.heap.size 53 1 (.slice A l.length c) l.length (l.map (.int .u16))
theorem ImgP.zero {w w' : World} {code : Int} (h : Below w.heap.size w w') : ImgP w 0 0 [] code (.returned (.tuple #[.agg zimg, .int .i64 code])) w' := ⟨h, Option.none, 0, rfl, World.ownsRow_nil _ _ _ _⟩
theorem step_append_sl {P : Program} {ops : Array Oper} {o : Oper} {a : Act} {w : World} {K : Act → World → Prop} {Q : Exit → Act → World → Prop} {E : Prop} (hgd : o.guard = none) (s x : Operand) (t : TypeId)
    (ho : o.op = .call { callee := .builtin .append, args := #[s, x], argTypes := #[t, t] }) (base e size bytes : Nat) (z : Value) (ht : P.underlying t = some (.slice e))
    (hinfo : (P.info? e).map (fun i => (i.zero, i.size, i.bytes)) = some (some z, size, bytes)) (hzs : z.cells.size = size) (hsz : 0 < size)
    (v : Value) (n : Nat) (xs : List Value) (hs : a.eval s = v) (hown : w.ownsRow base e size v n xs)
    (A : Option Addr) (m c : Nat) (news : List Value) (hx : a.eval x = .slice A m c) (hl : news.length = m * size) (hr : Sl w A news) (h1 : ∀ u ∈ news, u.oneCell' = true)
    (h63 : n + m ≤ maxLen) (hbytes : (n + m) * bytes ≤ 140737488355328) (hbase : base ≤ w.heap.size)
    (h : ∀ v' w', w'.ownsRow base e size v' (n + m) (xs ++ news) → w.grownBy w' v.ownBlock → (v'.ownBlock = v.ownBlock ∨ v'.ownBlock = some w.heap.size) → K (a.put o.dst v') w') :
    if Region.wanted o (yielded ops a.tmps) = true then Oper.wp P o a w K Q else E := by
  have hw : Region.wanted o (yielded ops a.tmps) = true := by simp [Region.wanted, hgd]
  rw [if_pos hw]
  obtain ⟨i, hi, hz, hz1, hz2⟩ := info_parts hinfo
  obtain ⟨v', w', hrun, g1, g2, g3⟩ : ∃ v' w', (Builtin.append_ #[t, t] o.type #[v, .slice A m c]).run P w = .ok v' w' ∧ w'.ownsRow base e size v' (n + m) (xs ++ news) ∧ w.grownBy w' v.ownBlock ∧ (v'.ownBlock = v.ownBlock ∨ v'.ownBlock = some w.heap.size) := by
    rcases Nat.eq_zero_or_pos m with hm | hm
    · subst hm
      have hn0 : news = [] := List.eq_nil_of_length_eq_zero (by simpa using hl)
      subst hn0
      refine ⟨v, w, ?_, by simpa using hown, World.grownBy.refl w _, .inl rfl⟩
      rcases hown.2 with ⟨rfl, rfl⟩ | ⟨g, cap, cur, rfl, _, _, hnc, _⟩
      · cases A <;> simp [Builtin.append_, run_underlying ht, sizeOf, typeInfo, hi, Builtin.lenOf, Builtin.firstCells, loadCells, loadCellsFrom]
      · cases A <;> simp [Builtin.append_, run_underlying ht, sizeOf, typeInfo, hi, Builtin.lenOf, Builtin.firstCells, hnc, storeCells, loadCells, loadCellsFrom]
    · have h0 : 0 < news.length := by rw [hl]; exact Nat.mul_pos hm hsz
      obtain ⟨b, off, rfl, _⟩ := hr 0 news[0] (List.getElem?_eq_getElem h0)
      obtain ⟨v', w', hr1, h2, h3, _, h5⟩ := run_append_own_at (P := P) w base t o.type e i z size bytes ht hi hz hz1 hz2 hzs hsz v n xs hown ⟨b, off, none⟩ m c news hl (fun j u hu => by
        obtain ⟨b', off', e', hc⟩ := hr j u hu
        injection e' with e'
        injection e' with e1 e2
        subst e1 e2
        rw [Addr.add_lit]
        exact hc) h1 h63 hbytes hbase
      exact ⟨v', w', hr1, h2, h3, h5⟩
  unfold Oper.wp execOp
  simp only [ho, resolve, invoke, builtin, Sem.run_bind, Sem.run_pure, Result.andThen_ok, List.map_toArray, List.map_cons, List.map_nil, hs, hx, hrun]
  exact h _ _ g1 g2 g3
theorem three_allocs (w : World) (a b c : Obj) : ∃ W0, ((w.alloc a).alloc b).alloc c = W0 ∧ W0.heap[w.heap.size]? = some a ∧ W0.heap[w.heap.size + 1]? = some b ∧ W0.heap[w.heap.size + 2]? = some c ∧ W0.heap.size = w.heap.size + 3 ∧ Below w.heap.size w W0 := by
  refine ⟨_, rfl, ?_, ?_, ?_, by simp, (((Below.refl _ w).alloc (Nat.le_refl _) _).alloc (by simp) _).alloc (by simp; omega) _⟩
  · exact heap_alloc_old _ _ (heap_alloc_old _ _ (heap_alloc_new w a))
  · have := heap_alloc_new (w.alloc a) b
    rw [World.size_alloc] at this
    exact heap_alloc_old _ _ this
  · have := heap_alloc_new ((w.alloc a).alloc b) c
    rw [World.size_alloc, World.size_alloc] at this
    exact this
set_option maxHeartbeats 2000000 in
theorem crop_bad {W H X Y RW RH : Int} {P : Option Addr} {pn pc : Nat} (w : World) (hpn : pn ≤ 140737488351232) (hg : ¬ GoodP W H pn) : Calls Try.prog 35 #[.agg #[.int .i64 W, .int .i64 H, .slice P pn pc], .agg #[.int .i64 X, .int .i64 Y, .int .i64 RW, .int .i64 RH]] w (ImgP w 0 0 [] 6) := by
  have HG : Hid (∀ V, Calls Try.prog 61 #[.agg #[.int .i64 W, .int .i64 H, .slice P pn pc]] V (TestP V false)) := fun V => by have := good_any (W := W) (H := H) (P := P) (pc := pc) V hpn; rwa [decide_eq_false hg] at this
  obtain ⟨W0, hW0, r0, r1, r2, hs, hb⟩ := three_allocs w (.cells #[.int .i64 W, .int .i64 H, .slice P pn pc] 37) (.cells #[.int .i64 X, .int .i64 Y, .int .i64 RW, .int .i64 RH] 46) (.cells zimg 37)
  have R2 := Lib.hid r2
  have HS := Lib.hid hs
  have HB := Lib.hid hb
  clear r0 r1 r2 hs hb hg
  go_enter Try.func35, Try.ntmps35
  go_wp2_with fail
  unfold zimg at hW0
  rw [hW0]
  refine (HG.out W0).mono ?_
  rintro e w1 ⟨rfl, hb1⟩
  have R2b : Hid (w1.heap[w.heap.size + 2]? = some (.cells zimg 37 (0, 0))) := (hb1.block _ (by have := HS.out; omega)).trans R2.out
  have HB1 : Hid (Below w.heap.size w w1) := HB.out.trans (hb1.mono HB.out.size)
  clear hb1 hW0
  go_wp2_with (refine wpList_store_rowW rfl 37 (.tmp 4) (.tmp 12) rfl (w.heap.size + 2) zimg rfl rfl 37 zimg R2b.out imgInfo rfl zimgAll w.heap.size w HB1.out (Nat.le_add_right _ _) ?_; intro W2 HW1 HW2 HW3)
  refine bodyPost_ret (results_row_tmp rfl _ _ (w.heap.size + 2) 37 zimg (0, 0) _ rfl HW1.out Try.underlying37 rfl imgInfo) rfl ?_
  exact ImgP.zero HW2.out
set_option maxHeartbeats 4000000 in
theorem crop_out {W H X Y RW RH : Int} {P : Option Addr} {pn pc : Nat} (w : World) (hpn : pn ≤ 140737488351232) (hg : GoodP W H pn) (hw : ¬ WithinP X Y RW RH W H) : Calls Try.prog 35 #[.agg #[.int .i64 W, .int .i64 H, .slice P pn pc], .agg #[.int .i64 X, .int .i64 Y, .int .i64 RW, .int .i64 RH]] w (ImgP w 0 0 [] 2) := by
  have HG : Hid (∀ V, Calls Try.prog 61 #[.agg #[.int .i64 W, .int .i64 H, .slice P pn pc]] V (TestP V true)) := fun V => by have := good_any (W := W) (H := H) (P := P) (pc := pc) V hpn; rwa [decide_eq_true hg] at this
  obtain ⟨W0, hW0, r0, r1, r2, hs, hb⟩ := three_allocs w (.cells #[.int .i64 W, .int .i64 H, .slice P pn pc] 37) (.cells #[.int .i64 X, .int .i64 Y, .int .i64 RW, .int .i64 RH] 46) (.cells zimg 37)
  have R0 := Lib.hid r0
  have R1 := Lib.hid r1
  have R2 := Lib.hid r2
  have HS := Lib.hid hs
  have HB := Lib.hid hb
  have hF := hg.1
  unfold FitsP at hF
  unfold WithinP at hw
  clear r0 r1 r2 hs hb hg
  have s1 : RW ≤ W → 1 ≤ RW → wrap64 (W - RW) = W - RW := fun _ _ => IntWalk.wrap64_in _ (by omega)
  have s2 : RH ≤ H → 1 ≤ RH → wrap64 (H - RH) = H - RH := fun _ _ => IntWalk.wrap64_in _ (by omega)
  have S1 := Lib.hid s1
  have S2 := Lib.hid s2
  clear s1 s2 hF
  by_cases a1 : RW < 1
  · have d1 : decide (RW < 1) = true := decide_eq_true a1
    clear a1 hw
    go_enter Try.func35, Try.ntmps35
    go_wp2_with fail
    unfold zimg at hW0
    rw [hW0]
    refine (HG.out W0).mono ?_
    rintro e w1 ⟨rfl, hb1⟩
    have R2b : Hid (w1.heap[w.heap.size + 2]? = some (.cells zimg 37 (0, 0))) := (hb1.block _ (by have := HS.out; omega)).trans R2.out
    have R0b := (hb1.block _ (by have := HS.out; omega)).trans R0.out
    have R1b := (hb1.block _ (by have := HS.out; omega)).trans R1.out
    have x0 := row_cell R0b 0
    have x1 := row_cell R0b 1
    have y0 := row_cell R1b 0
    have y1 := row_cell R1b 1
    have y2 := row_cell R1b 2
    have y3 := row_cell R1b 3
    have HB1 : Hid (Below w.heap.size w w1) := HB.out.trans (hb1.mono HB.out.size)
    clear hb1 hW0 R0b R1b
    go_upto_region 4 with (fail)
    go_wp2_with (refine wpList_store_rowW rfl 37 (.tmp 4) (.tmp 65) rfl (w.heap.size + 2) zimg rfl rfl 37 zimg R2b.out imgInfo rfl zimgAll w.heap.size w HB1.out (Nat.le_add_right _ _) ?_; intro W2 HW1 HW2 HW3)
    refine bodyPost_ret (results_row_tmp rfl _ _ (w.heap.size + 2) 37 zimg (0, 0) _ rfl HW1.out Try.underlying37 rfl imgInfo) rfl ?_
    exact ImgP.zero HW2.out
  · by_cases a2 : RH < 1
    · have d1 : decide (RW < 1) = false := decide_eq_false a1
      have d2 : decide (RH < 1) = true := decide_eq_true a2
      clear a1 a2 hw
      go_enter Try.func35, Try.ntmps35
      go_wp2_with fail
      unfold zimg at hW0
      rw [hW0]
      refine (HG.out W0).mono ?_
      rintro e w1 ⟨rfl, hb1⟩
      have R2b : Hid (w1.heap[w.heap.size + 2]? = some (.cells zimg 37 (0, 0))) := (hb1.block _ (by have := HS.out; omega)).trans R2.out
      have R0b := (hb1.block _ (by have := HS.out; omega)).trans R0.out
      have R1b := (hb1.block _ (by have := HS.out; omega)).trans R1.out
      have x0 := row_cell R0b 0
      have x1 := row_cell R0b 1
      have y0 := row_cell R1b 0
      have y1 := row_cell R1b 1
      have y2 := row_cell R1b 2
      have y3 := row_cell R1b 3
      have HB1 : Hid (Below w.heap.size w w1) := HB.out.trans (hb1.mono HB.out.size)
      clear hb1 hW0 R0b R1b
      go_upto_region 4 with (fail)
      go_wp2_with (refine wpList_store_rowW rfl 37 (.tmp 4) (.tmp 65) rfl (w.heap.size + 2) zimg rfl rfl 37 zimg R2b.out imgInfo rfl zimgAll w.heap.size w HB1.out (Nat.le_add_right _ _) ?_; intro W2 HW1 HW2 HW3)
      refine bodyPost_ret (results_row_tmp rfl _ _ (w.heap.size + 2) 37 zimg (0, 0) _ rfl HW1.out Try.underlying37 rfl imgInfo) rfl ?_
      exact ImgP.zero HW2.out
    · by_cases a3 : W < RW
      · have d1 : decide (RW < 1) = false := decide_eq_false a1
        have d2 : decide (RH < 1) = false := decide_eq_false a2
        have d3 : decide (W < RW) = true := decide_eq_true a3
        clear a1 a2 a3 hw
        go_enter Try.func35, Try.ntmps35
        go_wp2_with fail
        unfold zimg at hW0
        rw [hW0]
        refine (HG.out W0).mono ?_
        rintro e w1 ⟨rfl, hb1⟩
        have R2b : Hid (w1.heap[w.heap.size + 2]? = some (.cells zimg 37 (0, 0))) := (hb1.block _ (by have := HS.out; omega)).trans R2.out
        have R0b := (hb1.block _ (by have := HS.out; omega)).trans R0.out
        have R1b := (hb1.block _ (by have := HS.out; omega)).trans R1.out
        have x0 := row_cell R0b 0
        have x1 := row_cell R0b 1
        have y0 := row_cell R1b 0
        have y1 := row_cell R1b 1
        have y2 := row_cell R1b 2
        have y3 := row_cell R1b 3
        have HB1 : Hid (Below w.heap.size w w1) := HB.out.trans (hb1.mono HB.out.size)
        clear hb1 hW0 R0b R1b
        go_upto_region 4 with (fail)
        go_wp2_with (refine wpList_store_rowW rfl 37 (.tmp 4) (.tmp 65) rfl (w.heap.size + 2) zimg rfl rfl 37 zimg R2b.out imgInfo rfl zimgAll w.heap.size w HB1.out (Nat.le_add_right _ _) ?_; intro W2 HW1 HW2 HW3)
        refine bodyPost_ret (results_row_tmp rfl _ _ (w.heap.size + 2) 37 zimg (0, 0) _ rfl HW1.out Try.underlying37 rfl imgInfo) rfl ?_
        exact ImgP.zero HW2.out
      · by_cases a4 : H < RH
        · have d1 : decide (RW < 1) = false := decide_eq_false a1
          have d2 : decide (RH < 1) = false := decide_eq_false a2
          have d3 : decide (W < RW) = false := decide_eq_false a3
          have d4 : decide (H < RH) = true := decide_eq_true a4
          clear a1 a2 a3 a4 hw
          go_enter Try.func35, Try.ntmps35
          go_wp2_with fail
          unfold zimg at hW0
          rw [hW0]
          refine (HG.out W0).mono ?_
          rintro e w1 ⟨rfl, hb1⟩
          have R2b : Hid (w1.heap[w.heap.size + 2]? = some (.cells zimg 37 (0, 0))) := (hb1.block _ (by have := HS.out; omega)).trans R2.out
          have R0b := (hb1.block _ (by have := HS.out; omega)).trans R0.out
          have R1b := (hb1.block _ (by have := HS.out; omega)).trans R1.out
          have x0 := row_cell R0b 0
          have x1 := row_cell R0b 1
          have y0 := row_cell R1b 0
          have y1 := row_cell R1b 1
          have y2 := row_cell R1b 2
          have y3 := row_cell R1b 3
          have HB1 : Hid (Below w.heap.size w w1) := HB.out.trans (hb1.mono HB.out.size)
          clear hb1 hW0 R0b R1b
          go_upto_region 4 with (fail)
          go_wp2_with (refine wpList_store_rowW rfl 37 (.tmp 4) (.tmp 65) rfl (w.heap.size + 2) zimg rfl rfl 37 zimg R2b.out imgInfo rfl zimgAll w.heap.size w HB1.out (Nat.le_add_right _ _) ?_; intro W2 HW1 HW2 HW3)
          refine bodyPost_ret (results_row_tmp rfl _ _ (w.heap.size + 2) 37 zimg (0, 0) _ rfl HW1.out Try.underlying37 rfl imgInfo) rfl ?_
          exact ImgP.zero HW2.out
        · have w1 := S1.out (by omega) (by omega)
          have w2 := S2.out (by omega) (by omega)
          by_cases a5 : X < 0
          · have d1 : decide (RW < 1) = false := decide_eq_false a1
            have d2 : decide (RH < 1) = false := decide_eq_false a2
            have d3 : decide (W < RW) = false := decide_eq_false a3
            have d4 : decide (H < RH) = false := decide_eq_false a4
            have d5 : decide (X < 0) = true := decide_eq_true a5
            clear a1 a2 a3 a4 a5 hw
            go_enter Try.func35, Try.ntmps35
            go_wp2_with fail
            unfold zimg at hW0
            rw [hW0]
            refine (HG.out W0).mono ?_
            rintro e w1 ⟨rfl, hb1⟩
            have R2b : Hid (w1.heap[w.heap.size + 2]? = some (.cells zimg 37 (0, 0))) := (hb1.block _ (by have := HS.out; omega)).trans R2.out
            have R0b := (hb1.block _ (by have := HS.out; omega)).trans R0.out
            have R1b := (hb1.block _ (by have := HS.out; omega)).trans R1.out
            have x0 := row_cell R0b 0
            have x1 := row_cell R0b 1
            have y0 := row_cell R1b 0
            have y1 := row_cell R1b 1
            have y2 := row_cell R1b 2
            have y3 := row_cell R1b 3
            have HB1 : Hid (Below w.heap.size w w1) := HB.out.trans (hb1.mono HB.out.size)
            clear hb1 hW0 R0b R1b
            go_upto_region 4 with (fail)
            go_wp2_with (refine wpList_store_rowW rfl 37 (.tmp 4) (.tmp 65) rfl (w.heap.size + 2) zimg rfl rfl 37 zimg R2b.out imgInfo rfl zimgAll w.heap.size w HB1.out (Nat.le_add_right _ _) ?_; intro W2 HW1 HW2 HW3)
            refine bodyPost_ret (results_row_tmp rfl _ _ (w.heap.size + 2) 37 zimg (0, 0) _ rfl HW1.out Try.underlying37 rfl imgInfo) rfl ?_
            exact ImgP.zero HW2.out
          · by_cases a6 : Y < 0
            · have d1 : decide (RW < 1) = false := decide_eq_false a1
              have d2 : decide (RH < 1) = false := decide_eq_false a2
              have d3 : decide (W < RW) = false := decide_eq_false a3
              have d4 : decide (H < RH) = false := decide_eq_false a4
              have d5 : decide (X < 0) = false := decide_eq_false a5
              have d6 : decide (Y < 0) = true := decide_eq_true a6
              clear a1 a2 a3 a4 a5 a6 hw
              go_enter Try.func35, Try.ntmps35
              go_wp2_with fail
              unfold zimg at hW0
              rw [hW0]
              refine (HG.out W0).mono ?_
              rintro e w1 ⟨rfl, hb1⟩
              have R2b : Hid (w1.heap[w.heap.size + 2]? = some (.cells zimg 37 (0, 0))) := (hb1.block _ (by have := HS.out; omega)).trans R2.out
              have R0b := (hb1.block _ (by have := HS.out; omega)).trans R0.out
              have R1b := (hb1.block _ (by have := HS.out; omega)).trans R1.out
              have x0 := row_cell R0b 0
              have x1 := row_cell R0b 1
              have y0 := row_cell R1b 0
              have y1 := row_cell R1b 1
              have y2 := row_cell R1b 2
              have y3 := row_cell R1b 3
              have HB1 : Hid (Below w.heap.size w w1) := HB.out.trans (hb1.mono HB.out.size)
              clear hb1 hW0 R0b R1b
              go_upto_region 4 with (fail)
              go_wp2_with (refine wpList_store_rowW rfl 37 (.tmp 4) (.tmp 65) rfl (w.heap.size + 2) zimg rfl rfl 37 zimg R2b.out imgInfo rfl zimgAll w.heap.size w HB1.out (Nat.le_add_right _ _) ?_; intro W2 HW1 HW2 HW3)
              refine bodyPost_ret (results_row_tmp rfl _ _ (w.heap.size + 2) 37 zimg (0, 0) _ rfl HW1.out Try.underlying37 rfl imgInfo) rfl ?_
              exact ImgP.zero HW2.out
            · by_cases a7 : W - RW < X
              · have d1 : decide (RW < 1) = false := decide_eq_false a1
                have d2 : decide (RH < 1) = false := decide_eq_false a2
                have d3 : decide (W < RW) = false := decide_eq_false a3
                have d4 : decide (H < RH) = false := decide_eq_false a4
                have d5 : decide (X < 0) = false := decide_eq_false a5
                have d6 : decide (Y < 0) = false := decide_eq_false a6
                have d7 : decide (W - RW < X) = true := decide_eq_true a7
                clear a1 a2 a3 a4 a5 a6 a7 hw
                go_enter Try.func35, Try.ntmps35
                go_wp2_with fail
                unfold zimg at hW0
                rw [hW0]
                refine (HG.out W0).mono ?_
                rintro e w1 ⟨rfl, hb1⟩
                have R2b : Hid (w1.heap[w.heap.size + 2]? = some (.cells zimg 37 (0, 0))) := (hb1.block _ (by have := HS.out; omega)).trans R2.out
                have R0b := (hb1.block _ (by have := HS.out; omega)).trans R0.out
                have R1b := (hb1.block _ (by have := HS.out; omega)).trans R1.out
                have x0 := row_cell R0b 0
                have x1 := row_cell R0b 1
                have y0 := row_cell R1b 0
                have y1 := row_cell R1b 1
                have y2 := row_cell R1b 2
                have y3 := row_cell R1b 3
                have HB1 : Hid (Below w.heap.size w w1) := HB.out.trans (hb1.mono HB.out.size)
                clear hb1 hW0 R0b R1b
                go_upto_region 4 with (fail)
                go_wp2_with (refine wpList_store_rowW rfl 37 (.tmp 4) (.tmp 65) rfl (w.heap.size + 2) zimg rfl rfl 37 zimg R2b.out imgInfo rfl zimgAll w.heap.size w HB1.out (Nat.le_add_right _ _) ?_; intro W2 HW1 HW2 HW3)
                refine bodyPost_ret (results_row_tmp rfl _ _ (w.heap.size + 2) 37 zimg (0, 0) _ rfl HW1.out Try.underlying37 rfl imgInfo) rfl ?_
                exact ImgP.zero HW2.out
              · by_cases a8 : H - RH < Y
                · have d1 : decide (RW < 1) = false := decide_eq_false a1
                  have d2 : decide (RH < 1) = false := decide_eq_false a2
                  have d3 : decide (W < RW) = false := decide_eq_false a3
                  have d4 : decide (H < RH) = false := decide_eq_false a4
                  have d5 : decide (X < 0) = false := decide_eq_false a5
                  have d6 : decide (Y < 0) = false := decide_eq_false a6
                  have d7 : decide (W - RW < X) = false := decide_eq_false a7
                  have d8 : decide (H - RH < Y) = true := decide_eq_true a8
                  clear a1 a2 a3 a4 a5 a6 a7 a8 hw
                  go_enter Try.func35, Try.ntmps35
                  go_wp2_with fail
                  unfold zimg at hW0
                  rw [hW0]
                  refine (HG.out W0).mono ?_
                  rintro e w1 ⟨rfl, hb1⟩
                  have R2b : Hid (w1.heap[w.heap.size + 2]? = some (.cells zimg 37 (0, 0))) := (hb1.block _ (by have := HS.out; omega)).trans R2.out
                  have R0b := (hb1.block _ (by have := HS.out; omega)).trans R0.out
                  have R1b := (hb1.block _ (by have := HS.out; omega)).trans R1.out
                  have x0 := row_cell R0b 0
                  have x1 := row_cell R0b 1
                  have y0 := row_cell R1b 0
                  have y1 := row_cell R1b 1
                  have y2 := row_cell R1b 2
                  have y3 := row_cell R1b 3
                  have HB1 : Hid (Below w.heap.size w w1) := HB.out.trans (hb1.mono HB.out.size)
                  clear hb1 hW0 R0b R1b
                  go_upto_region 4 with (fail)
                  go_wp2_with (refine wpList_store_rowW rfl 37 (.tmp 4) (.tmp 65) rfl (w.heap.size + 2) zimg rfl rfl 37 zimg R2b.out imgInfo rfl zimgAll w.heap.size w HB1.out (Nat.le_add_right _ _) ?_; intro W2 HW1 HW2 HW3)
                  refine bodyPost_ret (results_row_tmp rfl _ _ (w.heap.size + 2) 37 zimg (0, 0) _ rfl HW1.out Try.underlying37 rfl imgInfo) rfl ?_
                  exact ImgP.zero HW2.out
                · exact absurd ⟨by omega, by omega, by omega, by omega, by omega, by omega, by omega, by omega⟩ hw
end Go.Proofs.Ytogmlcgiajigfaa.Ard
