/-
  Walks: window.fill.
-/
import Derived.Deep.AppendLies
import Derived.Deep.RegionHeld3
import Derived.RangeFuncBox
import Derived.Laws.CopyRow
import Derived.Test.YtogmlcgiajigfaaArdQ
set_option linter.unusedVariables false
set_option linter.unusedSimpArgs false
namespace Go.Proofs.Ytogmlcgiajigfaa.Ard
open Go.RowKit K

/-- an append of one number that has just been laid, in a region that draws its order -/
theorem step_push {P : Program} {ops : Array Oper} {o : Oper} {a : Act} {w : World} {K : Act → World → Prop} {Q : Exit → Act → World → Prop} {E : Prop} (hgd : o.guard = none) (s x : Operand) (t : TypeId)
    (ho : o.op = .call { callee := .builtin .append, args := #[s, x], argTypes := #[t, t] }) (base e size bytes : Nat) (z : Value) (ht : P.underlying t = some (.slice e))
    (hinfo : (P.info? e).map (fun i => (i.zero, i.size, i.bytes)) = some (some z, size, bytes)) (hzs : z.cells.size = size) (hsz : 0 < size)
    (v : Value) (n : Nat) (xs : List Value) (hs : a.eval s = v) (hown : w.ownsRow base e size v n xs) (B c : Nat) (cs : List Value) (T : TypeId)
    (hx : a.eval x = .slice (some ⟨B, 0, none⟩) 1 c) (hl : cs.length = size) (hb : w.heap[B]? = some (.cells cs.toArray T (0, 0))) (h1 : ∀ u ∈ cs, u.oneCell' = true)
    (h63 : n + 1 ≤ maxLen) (hbytes : (n + 1) * bytes ≤ 140737488355328) (hbase : base ≤ w.heap.size) (H : Nat) (hH : w.heap.size = H)
    (h : ∀ g cap w', w'.ownsRow base e size (.slice (some ⟨g, 0, none⟩) (n + 1) cap) (n + 1) (xs ++ cs) → w.grownBy w' v.ownBlock → (v.ownBlock = some g ∨ g = H) → g < w'.heap.size → K (a.put o.dst (.slice (some ⟨g, 0, none⟩) (n + 1) cap)) w') :
    if Region.wanted o (yielded ops a.tmps) = true then Oper.wp P o a w K Q else E := by
  obtain ⟨i, hi, hz, h2, h3⟩ := info_parts hinfo
  exact step_append_lies w hgd s x t ho base e i z size bytes ht hi hz h2 h3 hzs hsz v n xs hs hown ⟨B, 0, none⟩ 1 c cs hx (by rw [hl, Nat.one_mul]) (by simpa using World.news_of_block hb) h1 (by omega) h63 hbytes hbase H hH h
theorem step_max2 {P : Program} {ops : Array Oper} {o : Oper} {a : Act} {w : World} {K : Act → World → Prop} {Q : Exit → Act → World → Prop} {E : Prop} (hgd : o.guard = none) (x y : Operand) (t : TypeId)
    (ho : o.op = .call { callee := .builtin .max, args := #[x, y], argTypes := #[t, t] }) (m n r : Int) (hx : a.eval x = .int .i64 m) (hy : a.eval y = .int .i64 n) (hr : (if m < n then n else m) = r) (h : K (a.put o.dst (.int .i64 r)) w) :
    if Region.wanted o (yielded ops a.tmps) = true then Oper.wp P o a w K Q else E := by
  have hw : Region.wanted o (yielded ops a.tmps) = true := by simp [Region.wanted, hgd]
  rw [if_pos hw]
  unfold Oper.wp
  simp [execOp, ho, resolve, invoke, builtin, hx, hy, run_max_int2, Result.andThen, hr]
  exact h
theorem step_min2 {P : Program} {ops : Array Oper} {o : Oper} {a : Act} {w : World} {K : Act → World → Prop} {Q : Exit → Act → World → Prop} {E : Prop} (hgd : o.guard = none) (x y : Operand) (t : TypeId)
    (ho : o.op = .call { callee := .builtin .min, args := #[x, y], argTypes := #[t, t] }) (m n r : Int) (hx : a.eval x = .int .i64 m) (hy : a.eval y = .int .i64 n) (hr : (if n < m then n else m) = r) (h : K (a.put o.dst (.int .i64 r)) w) :
    if Region.wanted o (yielded ops a.tmps) = true then Oper.wp P o a w K Q else E := by
  have hw : Region.wanted o (yielded ops a.tmps) = true := by simp [Region.wanted, hgd]
  rw [if_pos hw]
  unfold Oper.wp
  simp [execOp, ho, resolve, invoke, builtin, hx, hy, run_min_int2, Result.andThen, hr]
  exact h
/-- fill's loops -/
structure Fl (base : Nat) (w wr : World) (Bw Bm : Nat) (W H : Int) (P : Option Addr) (pn pc : Nat) (own : Value) (A : Option Addr) (c : Nat) (l : List Int) : Prop where
  bel : Below base w wr
  win : wr.heap[Bw]? = some (.cells #[.slice A l.length c, own] 80 (0, 0))
  img : wr.heap[Bm]? = some (.cells #[.int .i64 W, .int .i64 H, .slice P pn pc] 37 (0, 0))
  row : wr.ownsRow base 3 1 (.slice A l.length c) l.length (l.map (.int .i64))
theorem own_ne {w : World} {base e sz n b : Nat} {v : Value} {xs : List Value} {cs : Array Value} {t : TypeId} (h : w.ownsRow base e sz v n xs) (hb : w.heap[b]? = some (.cells cs t (0, 0))) (hne : t ≠ e) : some b ≠ v.ownBlock := by
  intro he
  rcases h.2 with ⟨rfl, -⟩ | ⟨g, cap, cur, rfl, -, hg, -⟩
  · simp [Value.ownBlock] at he
  · simp [Value.ownBlock] at he
    subst he
    rw [hb] at hg
    injection hg with hg
    injection hg with h1 h2 h3
    exact hne h2
theorem heap_alloc_old (w : World) (o : Obj) {b : Nat} {x : Obj} (h : w.heap[b]? = some x) : (w.alloc o).heap[b]? = some x := (Below.heap_alloc _ _ _ (Array.getElem?_eq_some_iff.1 h).1).trans h
theorem set_row0 {w : World} {b : Nat} {u v x : Value} {t : TypeId} (h : w.heap[b]? = some (.cells #[u, x] t (0, 0))) : (w.setCell ⟨b, 0, none⟩ v).heap[b]? = some (.cells #[v, x] t (0, 0)) := by
  rw [setCell_eq_setRow w b 0 _ t (0, 0) v h, setRow_heap _ _ _ _ _ _ h]; rfl
theorem set_row1 {w : World} {b : Nat} {u v x : Value} {t : TypeId} (h : w.heap[b]? = some (.cells #[x, u] t (0, 0))) : (w.setCell ⟨b, 1, none⟩ v).heap[b]? = some (.cells #[x, v] t (0, 0)) := by
  rw [setCell_eq_setRow w b 1 _ t (0, 0) v h, setRow_heap _ _ _ _ _ _ h]; rfl
theorem Fl.push {base : Nat} {w wr w5 : World} {Bw Bm : Nat} {W H : Int} {P : Option Addr} {pn pc : Nat} {own : Value} {A : Option Addr} {c g cap : Nat} {l : List Int} {v : Int} {o : Obj}
    (h : Fl base w wr Bw Bm W H P pn pc own A c l) (hbw : base ≤ Bw) (hbb : Bw ≠ Bm) (hw : base ≤ w.heap.size)
    (hown : w5.ownsRow base 3 1 (.slice (some ⟨g, 0, none⟩) (l.length + 1) cap) (l.length + 1) (l.map (.int .i64) ++ [.int .i64 v])) (hg : (wr.alloc o).drew.grownBy w5 (Value.slice A l.length c).ownBlock) :
    w5.heap[Bw]? = some (.cells #[.slice A l.length c, own] 80 (0, 0)) ∧ w5.heap[Bm]? = some (.cells #[.int .i64 W, .int .i64 H, .slice P pn pc] 37 (0, 0)) ∧
    Fl base w (w5.setCell ⟨Bw, 0, none⟩ (.slice (some ⟨g, 0, none⟩) (l.length + 1) cap)) Bw Bm W H P pn pc own (some ⟨g, 0, none⟩) cap (l ++ [v]) := by
  have hsz := h.bel.size
  have h1 : w5.heap[Bw]? = some (.cells #[.slice A l.length c, own] 80 (0, 0)) := (hg.block Bw (by have := (Array.getElem?_eq_some_iff.1 h.win).1; simp; omega) (own_ne h.row h.win (by decide))).trans (heap_alloc_old _ _ h.win)
  have h2 : w5.heap[Bm]? = some (.cells #[.int .i64 W, .int .i64 H, .slice P pn pc] 37 (0, 0)) := (hg.block Bm (by have := (Array.getElem?_eq_some_iff.1 h.img).1; simp; omega) (own_ne h.row h.img (by decide))).trans (heap_alloc_old _ _ h.img)
  have hb5 : Below base w w5 := ((h.bel.alloc (by omega) o).drew).grown hg (by simp; omega) (fun b e => (h.row.lt b e).1)
  refine ⟨h1, h2, ?_, ?_, ?_, ?_⟩
  · exact hb5.setCell (p := ⟨Bw, 0, none⟩) hbw _
  · rw [List.length_append]; exact set_row0 h1
  · exact (Below.heap_setCell _ _ _ _ (fun e => hbb e.symm)).trans h2
  · rw [List.length_append, List.map_append]
    exact hown.kept (grownBy_setCell' w5 Bw _) (.inr (own_ne hown h1 (by decide)).symm)
theorem undrew {w wr : World} {row : Option Nat} (h : w.drew.grownBy wr row) : w.grownBy wr row := ⟨h.os, h.tape, h.output, h.size, h.block⟩
theorem cellP {w wx : World} {o : Obj} {a : Addr} {v : Value} {row : Option Nat} (h : w.cell? a = some v) (hg : (w.alloc o).grownBy wx row) (hne : some a.block ≠ row) : wx.cell? a = some v := by
  have hlt := World.block_lt_of_cell? w a h
  exact hg.cell (by rw [World.cell?_alloc_lt _ _ _ hlt]; exact h) hne
theorem max_ite (v : Int) : (if v < 0 then (0 : Int) else v) = max v 0 := by omega
theorem min_ite (m t : Int) : (if t < m then t else m) = min m t := by omega
theorem clamp_ite (v : Int) {H : Nat} (hH : 1 ≤ H) : min (max v 0) ((H : Int) - 1) = (clampN v (H - 1) : Int) := by unfold clampN; omega
theorem idx_facts {rv cx k q : Nat} (h1 : rv ≤ 16777216) (h2 : cx ≤ 4096) (h3 : k < 4) (hq : 4 * (rv + cx) + k = q) :
    IntKind.i64.wrap ((rv : Int) + (cx : Int)) = (rv : Int) + (cx : Int) ∧ IntKind.i64.wrap (4 * ((rv : Int) + (cx : Int))) = 4 * ((rv : Int) + (cx : Int)) ∧ IntKind.i64.wrap (4 * ((rv : Int) + (cx : Int)) + (k : Int)) = (q : Int) := by
  refine ⟨IntWalk.i64_in _ (by omega), IntWalk.i64_in _ (by omega), ?_⟩
  rw [IntWalk.i64_in _ (by omega), ← hq]; push_cast; rfl
theorem gath_len (W H : Nat) (pix : List Int) (x y : Int) {rx ry : Nat} (k : Nat) {j i : Nat} (hrx : rx ≤ 8) (hry : ry ≤ 8) (hj : j ≤ 2 * ry + 1) (hi : i ≤ 2 * rx + 1) : (partF W H pix x y rx ry k j ++ rowF W H pix x y rx ry k j i).length ≤ 400 := by
  rw [List.length_append, partF_len, show (rowF W H pix x y rx ry k j i).length = i by simp [rowF]]
  have : j * (2 * rx + 1) ≤ 17 * 17 := Nat.mul_le_mul (by omega) (by omega)
  omega
theorem atF_in_place {W H x y : Nat} (pix : List Int) (k : Nat) (hx : x < W) (hy : y < H) : atF W H pix x y k = pix.getD (4 * (y * W + x) + k) 0 := by
  unfold atF
  rw [show clampN (x : Int) (W - 1) = x by unfold clampN; omega, show clampN (y : Int) (H - 1) = y by unfold clampN; omega]
/-- what fill leaves -/
def FillP (base : Nat) (w : World) (Bw : Nat) (l : List Int) (own : Int) (e : Ending) (w' : World) : Prop :=
  e = .returned (.tuple #[]) ∧ Below base w w' ∧ ∃ A c, w'.heap[Bw]? = some (.cells #[.slice A l.length c, .int .i64 own] 80 (0, 0)) ∧ w'.ownsRow base 3 1 (.slice A l.length c) l.length (l.map (.int .i64))
theorem row_cut {w : World} {base e n c : Nat} {A : Option Addr} {xs : List Value} (h : w.ownsRow base e 1 (.slice A n c) n xs) : w.ownsRow base e 1 (.slice A 0 c) 0 [] := by
  rcases h.2 with ⟨hv, rfl⟩ | ⟨g, cap, cur, hv, h1, h2, h3, h4, h5, h6⟩
  · injection hv with e1 e2 e3
    subst e1 e3
    exact World.ownsRow_nil _ _ _ _
  · injection hv with e1 e2 e3
    subst e1 e3
    exact ⟨rfl, .inr ⟨g, c, cur, rfl, h1, h2, Nat.zero_le _, h4, h5, by simp⟩⟩
set_option maxHeartbeats 4000000 in
theorem fill_any {base Bw n0 c0 : Nat} {A0 : Option Addr} {own0 : Value} {xs : List Value} {P : Option Addr} {pn pc W H rx ry k x y : Nat} {pix : List Int} (w : World) (HP : SI w .u16 P pn pix) (hpk : ∀ b o, P = some ⟨b, o, none⟩ → b < base) (hbs : base ≤ w.heap.size) (hbw : base ≤ Bw)
    (hwv : ∀ v ∈ pix, 0 ≤ v ∧ v < 65536) (hW : 1 ≤ W ∧ W ≤ 4096) (hH : 1 ≤ H ∧ H ≤ 4096) (hp : pn = 4 * W * H) (hk : k < 4) (hrx : rx ≤ 8) (hry : ry ≤ 8) (hx : x < W) (hy : y < H)
    (hwin : w.heap[Bw]? = some (.cells #[.slice A0 n0 c0, own0] 80 (0, 0))) (hrow : w.ownsRow base 3 1 (.slice A0 n0 c0) n0 xs) :
    Calls Try.prog 36 #[.pointer (some ⟨Bw, 0, none⟩), .agg #[.int .i64 W, .int .i64 H, .slice P pn pc], .int .i64 x, .int .i64 y, .int .i64 k, .int .i64 rx, .int .i64 ry] w (FillP base w Bw (winF W H pix x y rx ry k) (atF W H pix x y k)) := by
  have hlt := (Array.getElem?_eq_some_iff.1 hwin).1
  have hneb : Bw ≠ w.heap.size := by omega
  have hss : (w.setCell ⟨Bw, 0, none⟩ (.slice A0 0 c0)).heap.size = w.heap.size := by simp [World.setCell]
  have HF0 : Hid (Fl base w ((w.setCell ⟨Bw, 0, none⟩ (.slice A0 0 c0)).alloc (.cells #[.int .i64 W, .int .i64 H, .slice P pn pc] 37)) Bw w.heap.size W H P pn pc own0 A0 c0 []) := by
    refine ⟨((Below.refl base w).setCell (p := ⟨Bw, 0, none⟩) hbw _).alloc (by rw [hss]; exact hbs) _, heap_alloc_old _ _ (set_row0 hwin), by have := heap_alloc_new (w.setCell ⟨Bw, 0, none⟩ (.slice A0 0 c0)) (.cells #[.int .i64 W, .int .i64 H, .slice P pn pc] 37); rwa [hss] at this, ?_⟩
    have h1 := row_cut hrow
    exact (h1.kept (grownBy_setCell' _ Bw _) (.inr (own_ne h1 hwin (by decide)).symm)).alloc _
  have HWIN := Lib.hid hwin
  have z0 : w.cell? ⟨Bw, 0, none⟩ = some (.slice A0 n0 c0) := row_cell hwin 0
  have z1 : w.frozen? ⟨Bw, 0, none⟩ = false := row_frozen hwin 0
  have z2 : ∀ o, (w.alloc o).cell? ⟨Bw, 0, none⟩ = some (.slice A0 n0 c0) := fun o => row_cell (heap_alloc_old _ o hwin) 0
  have z3 : ∀ o, (w.alloc o).frozen? ⟨Bw, 0, none⟩ = false := fun o => row_frozen (heap_alloc_old _ o hwin) 0
  have hn : n0 ≤ c0 := by
    rcases hrow.2 with ⟨hv, -⟩ | ⟨g, cap, cur, hv, -, -, h, -⟩
    · injection hv with _ h2 h3; omega
    · injection hv with _ h2 h3; omega
  have i1 : (0 : Int) ≤ (c0 : Int) := by omega
  have HHP := Lib.hid HP
  have HPK := Lib.hid hpk
  have HWV := Lib.hid hwv
  have HPP := Lib.hid hp
  clear HP hpk hwv hp hwin hrow hss hn
  go_enter Try.func36, Try.ntmps36
  go_wp2_with fail
  clear z0 z1 z2 z3 i1
  go_loopw [14] (fun s14 wr => ∃ (j : Nat) (A2 : Option Addr) (c2 : Nat), j ≤ 2 * ry + 1 ∧ s14 = .int .i64 ((y : Int) - ry + j) ∧ Fl base w wr Bw w.heap.size W H P pn pc own0 A2 c2 (partF W H pix x y rx ry k j)) (fun s14 _ => ((y : Int) + ry + 1 - intOf s14).toNat)
  case atStart => exact ⟨0, A0, c0, by omega, by simp, HF0.out⟩
  case round =>
    clear HF0
    obtain ⟨j, A2, c2, hj, rfl, hfl⟩ := hrel
    have HFL := Lib.hid hfl
    have z0 := row_cell hfl.img 0
    have z1 := row_cell hfl.img 1
    have z2 := row_cell hfl.img 2
    clear hfl
    by_cases hlt : j ≤ 2 * ry
    · have hd : decide ((y : Int) - ry + j ≤ (y : Int) + ry) = true := decide_eq_true (by omega)
      have wj : wrap64 ((y : Int) - ry + j + 1) = (y : Int) - ry + ((j + 1 : Nat) : Int) := by rw [IntWalk.wrap64_in _ (by omega)]; push_cast; omega
      have wh : wrap64 ((H : Int) - 1) = (H : Int) - 1 := IntWalk.wrap64_in _ (by omega)
      have hcy := clampN_le ((y : Int) - ry + j) (H - 1)
      have q1 : (if (y : Int) - ry + j < 0 then 0 else (y : Int) - ry + j) = max ((y : Int) - ry + j) 0 := max_ite _
      have q2 : (if (H : Int) - 1 < max ((y : Int) - ry + j) 0 then (H : Int) - 1 else max ((y : Int) - ry + j) 0) = (clampN ((y : Int) - ry + j) (H - 1) : Int) := by rw [min_ite, clamp_ite _ hH.1]
      obtain ⟨cy, hcyd⟩ : ∃ cy, clampN ((y : Int) - ry + j) (H - 1) = cy := ⟨_, rfl⟩
      have HCY := Lib.hid hcyd
      rw [hcyd] at hcy q2
      have hbw2 : cy * W ≤ 16777216 := Nat.le_trans (Nat.mul_le_mul (show cy ≤ 4096 by omega) hW.2) (by omega)
      obtain ⟨rv, hrv⟩ : ∃ rv : Nat, cy * W = rv := ⟨_, rfl⟩
      have wm : wrap64 ((cy : Int) * (W : Int)) = (rv : Int) := by rw [← Int.natCast_mul, hrv]; rw [hrv] at hbw2; exact IntWalk.wrap64_in _ (by omega)
      have HRV := Lib.hid hrv
      rw [hrv] at hbw2
      clear hcyd hrv
      generalize hmx : max ((y : Int) - ry + j) 0 = mx at q1 q2
      clear hmx
      go_wp2_with fail
      rw [wm]
      clear z0 z1 z2 q1 q2 wm wh
      go_loopw [16] (fun s16 wr => ∃ (i : Nat) (A3 : Option Addr) (c3 : Nat), i ≤ 2 * rx + 1 ∧ s16 = .int .i64 ((x : Int) - rx + i) ∧ Fl base w wr Bw w.heap.size W H P pn pc own0 A3 c3 (partF W H pix x y rx ry k j ++ rowF W H pix x y rx ry k j i)) (fun s16 _ => ((x : Int) + rx + 1 - intOf s16).toNat)
      case atStart => exact ⟨0, A2, c2, by omega, by simp, by simpa [rowF] using HFL.out⟩
      case round =>
        clear HFL
        obtain ⟨i, A3, c3, hi, rfl, hfl⟩ := hrel
        have HFL := Lib.hid hfl
        by_cases hlt2 : i ≤ 2 * rx
        · have hd2 : decide ((x : Int) - rx + i ≤ (x : Int) + rx) = true := decide_eq_true (by omega)
          have wi : wrap64 ((x : Int) - rx + i + 1) = (x : Int) - rx + ((i + 1 : Nat) : Int) := by rw [IntWalk.wrap64_in _ (by omega)]; push_cast; omega
          have wh : wrap64 ((W : Int) - 1) = (W : Int) - 1 := IntWalk.wrap64_in _ (by omega)
          have hcx := clampN_le ((x : Int) - rx + i) (W - 1)
          have q1 : (if (x : Int) - rx + i < 0 then 0 else (x : Int) - rx + i) = max ((x : Int) - rx + i) 0 := max_ite _
          have q2 : (if (W : Int) - 1 < max ((x : Int) - rx + i) 0 then (W : Int) - 1 else max ((x : Int) - rx + i) 0) = (clampN ((x : Int) - rx + i) (W - 1) : Int) := by rw [min_ite, clamp_ite _ hW.1]
          have hin := place_in (W := W) (H := H) (a := clampN ((x : Int) - rx + i) (W - 1)) (b := cy) (k := k) (by omega) (by omega) hk
          have HRS := Lib.hid (rowF_succ W H pix x y rx ry k j i)
          obtain ⟨cx, hcxd⟩ : ∃ cx, clampN ((x : Int) - rx + i) (W - 1) = cx := ⟨_, rfl⟩
          have hat : atF W H pix ((x : Int) - rx + i) ((y : Int) - ry + j) k = pix.getD (4 * (rv + cx) + k) 0 := by unfold atF; rw [hcxd, HCY.out, HRV.out]
          rw [hcxd] at hcx q2 hin
          rw [HRV.out, ← HPP.out] at hin
          clear hcxd
          have hb0w : Below base w wr := hfl.bel
          obtain ⟨pb, po, v, rfl, hc0, hv, -⟩ := HHP.out.cells hin
          have hpb : pb < base := HPK.out pb po rfl
          have hc : wr.cell? ⟨pb, po + (4 * (rv + cx) + k), none⟩ = some (.int .u16 v) := (hb0w.cell (p := ⟨pb, _, none⟩) hpb).trans hc0
          clear hc0
          rw [getD_at hv.out] at hat
          rw [hat] at HRS
          have hvb := HWV.out v (List.mem_of_getElem? hv.out)
          have w7 : IntKind.i64.wrap v = v := IntWalk.i64_in _ (by clear hat hin q1 q2 wi wh hd2; omega)
          obtain ⟨q, hq⟩ : ∃ q : Nat, 4 * (rv + cx) + k = q := ⟨_, rfl⟩
          obtain ⟨w3, w4, w5⟩ := idx_facts hbw2 (by omega) hk hq
          have v0 : IntKind.i64.wrap ((W : Int) - 1) = (W : Int) - 1 := IntWalk.i64_in _ (by clear hat hin q1 q2 wi wh hd2 w3 w4 w5; omega)
          rw [hq] at hin hc
          have i0 : (0 : Int) ≤ (q : Int) := Int.natCast_nonneg _
          have i1 : (q : Int) < (pn : Int) := Int.ofNat_lt.2 hin
          generalize hmx : max ((x : Int) - rx + i) 0 = mx2 at q1 q2
          have z0 := row_cell hfl.img 0
          have z2 := row_cell hfl.img 2
          have y0 := row_cell hfl.win 0
          have hlen := gath_len W H pix x y k hrx hry hj hi
          have HGL : Hid ((partF W H pix x y rx ry k j ++ rowF W H pix x y rx ry k j (i + 1)) = (partF W H pix x y rx ry k j ++ rowF W H pix x y rx ry k j i) ++ [v]) := by show _ = _; rw [HRS.out, List.append_assoc]
          clear hfl hmx hq hat hv hvb hb0w HRS hcx
          obtain ⟨l2, hl2d⟩ : ∃ l2, l2 = partF W H pix x y rx ry k j ++ rowF W H pix x y rx ry k j (i + 1) := ⟨_, rfl⟩
          rw [← hl2d] at HGL
          have HL2 := Lib.hid hl2d
          clear hl2d
          generalize partF W H pix x y rx ry k j ++ rowF W H pix x y rx ry k j i = l1 at HFL hlen HGL y0
          have hne : some pb ≠ (Value.slice A3 l1.length c3).ownBlock := fun e => by
            have h1 := (HFL.out.row.lt pb e.symm).1
            have h2 := hpb
            omega
          have HNE := Lib.hid hne
          have HPB : Hid (Bw ≠ pb) := by show _ ≠ _; have := hpb; omega
          clear hne
          have KA : Hid (wr.cell? ⟨w.heap.size, 0, none⟩ = some (.int .i64 W) ∧ wr.cell? ⟨w.heap.size, 2, none⟩ = some (.slice (some ⟨pb, po, none⟩) pn pc) ∧ wr.cell? ⟨pb, po + q, none⟩ = some (.int .u16 v)) := ⟨z0, z2, hc⟩
          have KB : Hid (∀ o, (wr.alloc o).cell? ⟨w.heap.size, 0, none⟩ = some (.int .i64 W) ∧ (wr.alloc o).cell? ⟨w.heap.size, 2, none⟩ = some (.slice (some ⟨pb, po, none⟩) pn pc) ∧ (wr.alloc o).cell? ⟨pb, po + q, none⟩ = some (.int .u16 v)) := fun o =>
            ⟨row_cell (heap_alloc_old _ o HFL.out.img) 0, row_cell (heap_alloc_old _ o HFL.out.img) 2, (World.cell?_alloc_lt _ _ _ (World.block_lt_of_cell? wr _ hc)).trans hc⟩
          have HC := Lib.hid hc
          have HBR : Hid (base ≤ wr.heap.size) := Nat.le_trans hbs HFL.out.bel.size
          have y0a : ∀ o, (wr.alloc o).cell? ⟨Bw, 0, none⟩ = some (.slice A3 l1.length c3) := fun o => row_cell (heap_alloc_old _ o HFL.out.win) 0
          clear hc z0 z2
          go_wp2_with fail
          refine wp_region_noPanic ?_
          refine wp_region_held_drew (S := fun w' => w'.cell? ⟨w.heap.size, 0, none⟩ = some (.int .i64 W) ∧ w'.cell? ⟨w.heap.size, 2, none⟩ = some (.slice (some ⟨pb, po, none⟩) pn pc) ∧ w'.cell? ⟨pb, po + q, none⟩ = some (.int .u16 v)) (by kernel_rfl) KA.out (fun hHeld => ?_)
          refine wpAnyH_take (i := 0) (v := .pointer (some ⟨Bw, 0, none⟩)) rfl (by kernel_rfl) (by kernel_rfl) (by kernel_rfl) (fun _ _ _ h => h) (Or.inl ⟨by rfl, ?_⟩) hHeld ?_
          · intro wz hSw; (try dsimp only at hSw); obtain ⟨s0, s2, s3⟩ := hSw; go_simp
          try simp only [Act.put, List.setIfInBounds_toArray, List.set_cons_zero, List.set_cons_succ]
          refine wpAnyH_take (i := 1) (v := .pointer (some ⟨Bw, 0, none⟩)) rfl (by kernel_rfl) (by kernel_rfl) (by kernel_rfl) (fun _ _ _ h => h) (Or.inl ⟨by rfl, ?_⟩) hHeld ?_
          · intro wz hSw; (try dsimp only at hSw); obtain ⟨s0, s2, s3⟩ := hSw; go_simp
          try simp only [Act.put, List.setIfInBounds_toArray, List.set_cons_zero, List.set_cons_succ]
          refine wpAnyH_take (i := 2) (v := .pointer (some ⟨Bw, 0, none⟩)) rfl (by kernel_rfl) (by kernel_rfl) (by kernel_rfl) (fun _ _ _ h => h) (Or.inl ⟨by rfl, ?_⟩) hHeld ?_
          · intro wz hSw; (try dsimp only at hSw); obtain ⟨s0, s2, s3⟩ := hSw; go_simp
          try simp only [Act.put, List.setIfInBounds_toArray, List.set_cons_zero, List.set_cons_succ]
          refine wpAnyH_take (i := 3) (v := .pointer (some ⟨Bw, 0, none⟩)) rfl (by kernel_rfl) (by kernel_rfl) (by kernel_rfl) (fun _ _ _ h => h) (Or.inl ⟨by rfl, ?_⟩) hHeld ?_
          · intro wz hSw; (try dsimp only at hSw); obtain ⟨s0, s2, s3⟩ := hSw; go_simp
          try simp only [Act.put, List.setIfInBounds_toArray, List.set_cons_zero, List.set_cons_succ]
          refine wpAnyH_take (i := 5) (v := .pointer (some ⟨w.heap.size, 2, none⟩)) rfl (by kernel_rfl) (by kernel_rfl) (by kernel_rfl) (fun _ _ _ h => h) (Or.inl ⟨by rfl, ?_⟩) hHeld ?_
          · intro wz hSw; (try dsimp only at hSw); obtain ⟨s0, s2, s3⟩ := hSw; go_simp
          try simp only [Act.put, List.setIfInBounds_toArray, List.set_cons_zero, List.set_cons_succ]
          refine wpAnyH_take (i := 6) (v := .slice (some ⟨pb, po, none⟩) pn pc) rfl (by kernel_rfl) (by kernel_rfl) (by kernel_rfl) (fun _ _ _ h => h) (Or.inl ⟨by rfl, ?_⟩) hHeld ?_
          · intro wz hSw; (try dsimp only at hSw); obtain ⟨s0, s2, s3⟩ := hSw; go_simp
          try simp only [Act.put, List.setIfInBounds_toArray, List.set_cons_zero, List.set_cons_succ]
          refine wpAnyH_take (i := 7) (v := .int .i64 rv) rfl (by kernel_rfl) (by kernel_rfl) (by kernel_rfl) (fun _ _ _ h => h) (Or.inl ⟨by rfl, ?_⟩) hHeld ?_
          · intro wz hSw; (try dsimp only at hSw); obtain ⟨s0, s2, s3⟩ := hSw; go_simp
          try simp only [Act.put, List.setIfInBounds_toArray, List.set_cons_zero, List.set_cons_succ]
          refine wpAnyH_take (i := 8) (v := .int .i64 ((x : Int) - rx + i)) rfl (by kernel_rfl) (by kernel_rfl) (by kernel_rfl) (fun _ _ _ h => h) (Or.inl ⟨by rfl, ?_⟩) hHeld ?_
          · intro wz hSw; (try dsimp only at hSw); obtain ⟨s0, s2, s3⟩ := hSw; go_simp
          try simp only [Act.put, List.setIfInBounds_toArray, List.set_cons_zero, List.set_cons_succ]
          refine wpAnyH_take (i := 9) (v := .int .i64 mx2) rfl (by kernel_rfl) (by kernel_rfl) (by kernel_rfl) (fun _ _ _ h => h) (Or.inl ⟨by rfl, ?_⟩) hHeld ?_
          · intro wz hSw; (try dsimp only at hSw); obtain ⟨s0, s2, s3⟩ := hSw; go_simp
          try simp only [Act.put, List.setIfInBounds_toArray, List.set_cons_zero, List.set_cons_succ]
          refine wpAnyH_take (i := 10) (v := .pointer (some ⟨w.heap.size, 0, none⟩)) rfl (by kernel_rfl) (by kernel_rfl) (by kernel_rfl) (fun _ _ _ h => h) (Or.inl ⟨by rfl, ?_⟩) hHeld ?_
          · intro wz hSw; (try dsimp only at hSw); obtain ⟨s0, s2, s3⟩ := hSw; go_simp
          try simp only [Act.put, List.setIfInBounds_toArray, List.set_cons_zero, List.set_cons_succ]
          refine wpAnyH_take (i := 11) (v := .int .i64 W) rfl (by kernel_rfl) (by kernel_rfl) (by kernel_rfl) (fun _ _ _ h => h) (Or.inl ⟨by rfl, ?_⟩) hHeld ?_
          · intro wz hSw; (try dsimp only at hSw); obtain ⟨s0, s2, s3⟩ := hSw; go_simp
          try simp only [Act.put, List.setIfInBounds_toArray, List.set_cons_zero, List.set_cons_succ]
          refine wpAnyH_take (i := 12) (v := .int .i64 ((W : Int) - 1)) rfl (by kernel_rfl) (by kernel_rfl) (by kernel_rfl) (fun _ _ _ h => h) (Or.inl ⟨by rfl, ?_⟩) hHeld ?_
          · intro wz hSw; (try dsimp only at hSw); obtain ⟨s0, s2, s3⟩ := hSw; go_simp
          try simp only [Act.put, List.setIfInBounds_toArray, List.set_cons_zero, List.set_cons_succ]
          refine wpAnyH_take (i := 13) (v := .int .i64 cx) rfl (by kernel_rfl) (by kernel_rfl) (by kernel_rfl) (fun _ _ _ h => h) (Or.inl ⟨by rfl, ?_⟩) hHeld ?_
          · intro wz hSw; (try dsimp only at hSw); obtain ⟨s0, s2, s3⟩ := hSw; go_simp
          try simp only [Act.put, List.setIfInBounds_toArray, List.set_cons_zero, List.set_cons_succ]
          refine wpAnyH_take (i := 14) (v := .int .i64 ((rv : Int) + (cx : Int))) rfl (by kernel_rfl) (by kernel_rfl) (by kernel_rfl) (fun _ _ _ h => h) (Or.inl ⟨by rfl, ?_⟩) hHeld ?_
          · intro wz hSw; (try dsimp only at hSw); obtain ⟨s0, s2, s3⟩ := hSw; go_simp
          try simp only [Act.put, List.setIfInBounds_toArray, List.set_cons_zero, List.set_cons_succ]
          refine wpAnyH_take (i := 15) (v := .int .i64 (4 * ((rv : Int) + (cx : Int)))) rfl (by kernel_rfl) (by kernel_rfl) (by kernel_rfl) (fun _ _ _ h => h) (Or.inl ⟨by rfl, ?_⟩) hHeld ?_
          · intro wz hSw; (try dsimp only at hSw); obtain ⟨s0, s2, s3⟩ := hSw; go_simp
          try simp only [Act.put, List.setIfInBounds_toArray, List.set_cons_zero, List.set_cons_succ]
          refine wpAnyH_take (i := 16) (v := .int .i64 k) rfl (by kernel_rfl) (by kernel_rfl) (by kernel_rfl) (fun _ _ _ h => h) (Or.inl ⟨by rfl, ?_⟩) hHeld ?_
          · intro wz hSw; (try dsimp only at hSw); obtain ⟨s0, s2, s3⟩ := hSw; go_simp
          try simp only [Act.put, List.setIfInBounds_toArray, List.set_cons_zero, List.set_cons_succ]
          refine wpAnyH_take (i := 17) (v := .int .i64 q) rfl (by kernel_rfl) (by kernel_rfl) (by kernel_rfl) (fun _ _ _ h => h) (Or.inl ⟨by rfl, ?_⟩) hHeld ?_
          · intro wz hSw; (try dsimp only at hSw); obtain ⟨s0, s2, s3⟩ := hSw; go_simp
          try simp only [Act.put, List.setIfInBounds_toArray, List.set_cons_zero, List.set_cons_succ]
          refine wpAnyH_take (i := 18) (v := .pointer (some ⟨pb, po + q, none⟩)) rfl (by kernel_rfl) (by kernel_rfl) (by kernel_rfl) (fun _ _ _ h => h) (Or.inl ⟨by rfl, ?_⟩) hHeld ?_
          · intro wz hSw; (try dsimp only at hSw); obtain ⟨s0, s2, s3⟩ := hSw; go_simp
          try simp only [Act.put, List.setIfInBounds_toArray, List.set_cons_zero, List.set_cons_succ]
          refine wpAnyH_take (i := 19) (v := .int .u16 v) rfl (by kernel_rfl) (by kernel_rfl) (by kernel_rfl) (fun _ _ _ h => h) (Or.inl ⟨by rfl, ?_⟩) hHeld ?_
          · intro wz hSw; (try dsimp only at hSw); obtain ⟨s0, s2, s3⟩ := hSw; go_simp
          try simp only [Act.put, List.setIfInBounds_toArray, List.set_cons_zero, List.set_cons_succ]
          refine wpAnyH_take (i := 20) (v := .int .i64 v) rfl (by kernel_rfl) (by kernel_rfl) (by kernel_rfl) (fun _ _ _ h => h) (Or.inl ⟨by rfl, ?_⟩) hHeld ?_
          · intro wz hSw; (try dsimp only at hSw); obtain ⟨s0, s2, s3⟩ := hSw; go_simp
          try simp only [Act.put, List.setIfInBounds_toArray, List.set_cons_zero, List.set_cons_succ]
          refine wpAnyH_ready (rs := [4, 21]) (by kernel_rfl) (by simp) ?_
          refine AllReadyH.cons rfl (fun K hK => ?_) (AllReadyH.cons rfl (fun K hK => ?_) AllReadyH.nil)
          · go_simp
            refine hK.out _ _ KA.out (fun hHeld2 => ?_)
            clear hK K
            try simp only [Act.put, List.setIfInBounds_toArray, List.set_cons_zero, List.set_cons_succ]
            refine wpAnyH_ready (rs := [21]) (by kernel_rfl) (by simp) ?_
            refine AllReadyH.cons rfl (fun K hK => ?_) AllReadyH.nil
            go_simp
            refine hK.out _ _ (KB.out _) (fun hHeld2 => ?_)
            clear hK K
            try simp only [Act.put, List.setIfInBounds_toArray, List.set_cons_zero, List.set_cons_succ]
            refine wpAnyH_ready (rs := [22]) (by kernel_rfl) (by simp) ?_
            refine AllReadyH.cons rfl (fun K hK => ?_) AllReadyH.nil
            refine step_push (by rfl) (.tmp 58) (.tmp 75) _ (by rfl) base 3 1 8 _ Try.underlying22 infoInt rfl (by omega) (.slice A3 l1.length c3) l1.length _ (by rfl) (HFL.out.row.alloc _).drew wr.heap.size 1 [.int .i64 v] 3 (by rfl) (by rfl) (heap_alloc_new wr _) (by simp [Value.oneCell']) (by unfold maxLen; omega) (by omega) (by have := HBR.out; simp; omega) (wr.heap.size + 1) (by simp) ?_
            intro gg cap w5 hown5 hg5 hat5 hlt5
            have HPS := Lib.hid (HFL.out.push hbw hneb hbs hown5 hg5)
            have PC5 : Hid (w5.cell? ⟨pb, po + q, none⟩ = some (.int .u16 v)) := cellP HC.out (undrew hg5) HNE.out
            have PC6 : Hid ((w5.setCell ⟨Bw, 0, none⟩ (.slice (some ⟨gg, 0, none⟩) (l1.length + 1) cap)).cell? ⟨pb, po + q, none⟩ = some (.int .u16 v)) := (World.cell?_setCell_far _ _ _ _ HPB.out).trans PC5.out
            have y5 := row_cell HPS.out.1 0
            have y6 := row_frozen HPS.out.1 0
            refine hK.out _ _ ⟨row_cell HPS.out.2.1 0, row_cell HPS.out.2.1 2, PC5.out⟩ (fun hHeld2 => ?_)
            clear hK K
            try simp only [Act.put, List.setIfInBounds_toArray, List.set_cons_zero, List.set_cons_succ]
            refine wpAnyH_take (i := 23) (v := .pointer (some ⟨Bw, 0, none⟩)) rfl (by kernel_rfl) (by kernel_rfl) (by kernel_rfl) (fun _ _ _ h => h) (Or.inl ⟨by rfl, ?_⟩) hHeld2 ?_
            · intro wz hSw; (try dsimp only at hSw); obtain ⟨s0, s2, s3⟩ := hSw; go_simp
            try simp only [Act.put, List.setIfInBounds_toArray, List.set_cons_zero, List.set_cons_succ]
            refine wpAnyH_take (i := 24) (v := .pointer (some ⟨Bw, 0, none⟩)) rfl (by kernel_rfl) (by kernel_rfl) (by kernel_rfl) (fun _ _ _ h => h) (Or.inl ⟨by rfl, ?_⟩) hHeld2 ?_
            · intro wz hSw; (try dsimp only at hSw); obtain ⟨s0, s2, s3⟩ := hSw; go_simp
            try simp only [Act.put, List.setIfInBounds_toArray, List.set_cons_zero, List.set_cons_succ]
            refine wpAnyH_ready (rs := [25]) (by kernel_rfl) (by simp) ?_
            refine AllReadyH.cons rfl (fun K hK => ?_) AllReadyH.nil
            go_simp
            refine hK.out _ _ ⟨row_cell HPS.out.2.2.img 0, row_cell HPS.out.2.2.img 2, PC6.out⟩ (fun hHeld2 => ?_)
            clear hK K
            try simp only [Act.put, List.setIfInBounds_toArray, List.set_cons_zero, List.set_cons_succ]
            refine wpAnyH_done (by kernel_rfl) ?_ _
            refine NoPanic.normal ?_
            have HF5 : Hid (Fl base w (w5.setCell ⟨Bw, 0, none⟩ (.slice (some ⟨gg, 0, none⟩) (l1.length + 1) cap)) Bw w.heap.size W H (some ⟨pb, po, none⟩) pn pc own0 (some ⟨gg, 0, none⟩) cap l2) := by
              show Fl _ _ _ _ _ _ _ _ _ _ _ _ _ _
              rw [HGL.out]; exact HPS.out.2.2
            clear hown5 hg5 y5 y6
            go_wp2_with fail
            go_roundw
            case rel => exact ⟨i + 1, some ⟨gg, 0, none⟩, cap, by omega, by congr 1; push_cast; omega, by rw [← HL2.out]; exact HF5.out⟩
            case measure => simp [intOf]; omega
          · go_simp
            refine hK.out _ _ (KB.out _) (fun hHeld2 => ?_)
            clear hK K
            try simp only [Act.put, List.setIfInBounds_toArray, List.set_cons_zero, List.set_cons_succ]
            refine wpAnyH_ready (rs := [4]) (by kernel_rfl) (by simp) ?_
            refine AllReadyH.cons rfl (fun K hK => ?_) AllReadyH.nil
            go_simp
            refine hK.out _ _ (KB.out _) (fun hHeld2 => ?_)
            clear hK K
            try simp only [Act.put, List.setIfInBounds_toArray, List.set_cons_zero, List.set_cons_succ]
            refine wpAnyH_ready (rs := [22]) (by kernel_rfl) (by simp) ?_
            refine AllReadyH.cons rfl (fun K hK => ?_) AllReadyH.nil
            refine step_push (by rfl) (.tmp 58) (.tmp 75) _ (by rfl) base 3 1 8 _ Try.underlying22 infoInt rfl (by omega) (.slice A3 l1.length c3) l1.length _ (by rfl) (HFL.out.row.alloc _).drew wr.heap.size 1 [.int .i64 v] 3 (by rfl) (by rfl) (heap_alloc_new wr _) (by simp [Value.oneCell']) (by unfold maxLen; omega) (by omega) (by have := HBR.out; simp; omega) (wr.heap.size + 1) (by simp) ?_
            intro gg cap w5 hown5 hg5 hat5 hlt5
            have HPS := Lib.hid (HFL.out.push hbw hneb hbs hown5 hg5)
            have PC5 : Hid (w5.cell? ⟨pb, po + q, none⟩ = some (.int .u16 v)) := cellP HC.out (undrew hg5) HNE.out
            have PC6 : Hid ((w5.setCell ⟨Bw, 0, none⟩ (.slice (some ⟨gg, 0, none⟩) (l1.length + 1) cap)).cell? ⟨pb, po + q, none⟩ = some (.int .u16 v)) := (World.cell?_setCell_far _ _ _ _ HPB.out).trans PC5.out
            have y5 := row_cell HPS.out.1 0
            have y6 := row_frozen HPS.out.1 0
            refine hK.out _ _ ⟨row_cell HPS.out.2.1 0, row_cell HPS.out.2.1 2, PC5.out⟩ (fun hHeld2 => ?_)
            clear hK K
            try simp only [Act.put, List.setIfInBounds_toArray, List.set_cons_zero, List.set_cons_succ]
            refine wpAnyH_take (i := 23) (v := .pointer (some ⟨Bw, 0, none⟩)) rfl (by kernel_rfl) (by kernel_rfl) (by kernel_rfl) (fun _ _ _ h => h) (Or.inl ⟨by rfl, ?_⟩) hHeld2 ?_
            · intro wz hSw; (try dsimp only at hSw); obtain ⟨s0, s2, s3⟩ := hSw; go_simp
            try simp only [Act.put, List.setIfInBounds_toArray, List.set_cons_zero, List.set_cons_succ]
            refine wpAnyH_take (i := 24) (v := .pointer (some ⟨Bw, 0, none⟩)) rfl (by kernel_rfl) (by kernel_rfl) (by kernel_rfl) (fun _ _ _ h => h) (Or.inl ⟨by rfl, ?_⟩) hHeld2 ?_
            · intro wz hSw; (try dsimp only at hSw); obtain ⟨s0, s2, s3⟩ := hSw; go_simp
            try simp only [Act.put, List.setIfInBounds_toArray, List.set_cons_zero, List.set_cons_succ]
            refine wpAnyH_ready (rs := [25]) (by kernel_rfl) (by simp) ?_
            refine AllReadyH.cons rfl (fun K hK => ?_) AllReadyH.nil
            go_simp
            refine hK.out _ _ ⟨row_cell HPS.out.2.2.img 0, row_cell HPS.out.2.2.img 2, PC6.out⟩ (fun hHeld2 => ?_)
            clear hK K
            try simp only [Act.put, List.setIfInBounds_toArray, List.set_cons_zero, List.set_cons_succ]
            refine wpAnyH_done (by kernel_rfl) ?_ _
            refine NoPanic.normal ?_
            have HF5 : Hid (Fl base w (w5.setCell ⟨Bw, 0, none⟩ (.slice (some ⟨gg, 0, none⟩) (l1.length + 1) cap)) Bw w.heap.size W H (some ⟨pb, po, none⟩) pn pc own0 (some ⟨gg, 0, none⟩) cap l2) := by
              show Fl _ _ _ _ _ _ _ _ _ _ _ _ _ _
              rw [HGL.out]; exact HPS.out.2.2
            clear hown5 hg5 y5 y6
            go_wp2_with fail
            go_roundw
            case rel => exact ⟨i + 1, some ⟨gg, 0, none⟩, cap, by omega, by congr 1; push_cast; omega, by rw [← HL2.out]; exact HF5.out⟩
            case measure => simp [intOf]; omega
        · obtain rfl : i = 2 * rx + 1 := by omega
          have hd2 : decide ((x : Int) - rx + ((2 * rx + 1 : Nat) : Int) ≤ (x : Int) + rx) = false := decide_eq_false (by omega)
          have HPS := Lib.hid (partF_succ W H pix x y rx ry k j)
          rw [← HPS.out] at hfl
          generalize ((2 * rx + 1 : Nat) : Int) = z at *
          have HFL := Lib.hid hfl
          clear hfl
          go_wp2_with fail
          go_roundw
          case rel => exact ⟨j + 1, A3, c3, by omega, by congr 1; push_cast; omega, HFL.out⟩
          case measure => simp [intOf]; omega
    · obtain rfl : j = 2 * ry + 1 := by omega
      have hd : decide ((y : Int) - ry + ((2 * ry + 1 : Nat) : Int) ≤ (y : Int) + ry) = false := decide_eq_false (by omega)
      have HL : Hid (partF W H pix x y rx ry k (2 * ry + 1) = winF W H pix x y rx ry k) := partF_all _ _ _ _ _ _ _ _
      have hin := place_in (W := W) (H := H) (a := x) (b := y) (k := k) hx hy hk
      rw [← HPP.out] at hin
      have hbw2 : y * W ≤ 16777216 := Nat.le_trans (Nat.mul_le_mul (show y ≤ 4096 by omega) hW.2) (by omega)
      have hat := atF_in_place (W := W) (H := H) pix k hx hy
      obtain ⟨pb, po, v, rfl, hc0, hv, -⟩ := HHP.out.cells hin
      have hpb : pb < base := HPK.out pb po rfl
      rw [getD_at hv.out] at hat
      have hvb := HWV.out v (List.mem_of_getElem? hv.out)
      have w7 : IntKind.i64.wrap v = v := IntWalk.i64_in _ (by clear hat hin hd; omega)
      obtain ⟨rv, hrv⟩ : ∃ rv : Nat, y * W = rv := ⟨_, rfl⟩
      rw [hrv] at hbw2 hin hc0
      have wm0 : IntKind.i64.wrap ((y : Int) * (W : Int)) = (rv : Int) := by rw [← Int.natCast_mul, hrv]; exact IntWalk.i64_in _ (by omega)
      have wm1 : wrap64 ((y : Int) * (W : Int)) = (rv : Int) := by rw [← Int.natCast_mul, hrv]; exact IntWalk.wrap64_in _ (by omega)
      clear hrv
      have hx4 : x ≤ 4096 := by omega
      obtain ⟨q, hq⟩ : ∃ q : Nat, 4 * (rv + x) + k = q := ⟨_, rfl⟩
      obtain ⟨w3, w4, w5⟩ := idx_facts hbw2 hx4 hk hq
      have u3 : wrap64 ((rv : Int) + (x : Int)) = (rv : Int) + (x : Int) := by clear w3 w4 w5 wm0 wm1 hd hat hin; exact IntWalk.wrap64_in _ (by omega)
      have u4 : wrap64 (4 * ((rv : Int) + (x : Int))) = 4 * ((rv : Int) + (x : Int)) := by clear w3 w4 w5 wm0 wm1 hd hat hin u3; exact IntWalk.wrap64_in _ (by omega)
      have u5 : wrap64 (4 * ((rv : Int) + (x : Int)) + (k : Int)) = (q : Int) := by clear w3 w4 w5 wm0 wm1 hd hat hin u3 u4; rw [IntWalk.wrap64_in _ (by omega), ← hq]; push_cast; rfl
      rw [hq] at hin hc0
      have i0 : (0 : Int) ≤ (q : Int) := Int.natCast_nonneg _
      have i1 : (q : Int) < (pn : Int) := Int.ofNat_lt.2 hin
      have hc : wr.cell? ⟨pb, po + q, none⟩ = some (.int .u16 v) := (HFL.out.bel.cell (p := ⟨pb, _, none⟩) hpb).trans hc0
      have y5 := row_cell HFL.out.win 1
      have y6 := row_frozen HFL.out.win 1
      have HAT := Lib.hid hat
      have HPOST : Hid (FillP base w Bw (winF W H pix x y rx ry k) v (.returned (.tuple #[])) (wr.setCell ⟨Bw, 1, none⟩ (.int .i64 v))) := by
        refine ⟨rfl, HFL.out.bel.setCell (p := ⟨Bw, 1, none⟩) hbw _, A2, c2, ?_, ?_⟩
        · rw [← HL.out]; exact set_row1 HFL.out.win
        · rw [← HL.out]
          exact HFL.out.row.kept ⟨rfl, rfl, rfl, by simp [World.setCell], fun b hb hne => Below.heap_setCell _ _ _ _ (fun e => hne (by rw [e]))⟩ (.inr (own_ne HFL.out.row HFL.out.win (by decide)).symm)
      generalize ((2 * ry + 1 : Nat) : Int) = z at *
      generalize partF W H pix x y rx ry k (2 * ry + 1) = l at *
      clear hq hat hin hvb hv hc0
      go_wp2_with fail
      go_end0
      rw [HAT.out]
      exact HPOST.out
end Go.Proofs.Ytogmlcgiajigfaa.Ard
