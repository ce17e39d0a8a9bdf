/-
  Walks: slices.Repeat of one pair, nine times.
-/
import Derived.Laws.CopyOwn
import Derived.Laws.CopyRow
import Derived.Deep.RegionLaw
import Derived.Test.YtogmlcgiajigfaaArdC
set_option linter.unusedVariables false
set_option linter.unusedSimpArgs false
namespace Go.Proofs.Ytogmlcgiajigfaa.Ard
open Go.RowKit K

theorem mul64_nine (w : World) : Calls Try.prog 75 #[.int .u64 1, .int .u64 9] w fun e w' => e = .returned (.tuple #[.int .u64 0, .int .u64 9]) ∧ w = w' := by
  have a1 : bits .and .u64 1 4294967295 = 1 := by decide +kernel
  have a2 : bits .and .u64 9 4294967295 = 9 := by decide +kernel
  have a8 : bits .and .u64 0 4294967295 = 0 := by decide +kernel
  go_enter Try.func75, Try.ntmps75
  go_wp2
  go_ret2
  exact ⟨rfl, rfl⟩
theorem mul_nine (w : World) : Calls Try.prog 70 #[.int .u64 1, .int .u64 9] w fun e w' => e = .returned (.tuple #[.int .u64 0, .int .u64 9]) ∧ w = w' := by
  go_enter Try.func70, Try.ntmps70
  go_wp2_with (go_at_call 75; refine (mul64_nine _).mono ?_; rintro e w1 ⟨rfl, rfl⟩)
  go_ret2
  exact ⟨rfl, rfl⟩
theorem pair_info : (Try.prog.info? 60).map (·.size) = some 2 := by kernel_rfl
theorem run_copy_pairs {P : Program} (w : World) (dT sT ty elem : TypeId) (g o dLen dCap : Nat) (a : Addr) (sLen sCap : Nat) (cur : Array Value) (t : TypeId) (cs : List Value)
    (hu : P.underlying dT = some (.slice elem)) (hs : (P.info? elem).map (·.size) = some 2)
    (hg : w.heap[g]? = some (.cells cur t (0, 0))) (hn : cs.length = Nat.min sLen dLen * 2)
    (hsrc : ∀ j v, cs[j]? = some v → w.cell? (a.add j) = some v) (hfit : o + cs.length ≤ cur.size) (h1 : ∀ v ∈ cs, v.oneCell' = true) :
    (Builtin.copy_ #[dT, sT] ty #[.slice (some ⟨g, o, none⟩) dLen dCap, .slice (some a) sLen sCap]).run P w =
      .ok (goInt (Nat.min sLen dLen)) (w.setRow g (cur.toList.take o ++ cs ++ cur.toList.drop (o + cs.length)).toArray) := by
  have hl := run_loadCells_list (P := P) w a cs hsrc
  have hst := run_storeCells_at P g o t cs 0 cur w hg (by simpa using hfit) h1
  cases hq : P.info? elem with
  | none => simp [hq] at hs
  | some i =>
    have hi : i.size = 2 := by simpa [hq] using hs
    rw [hn] at hl
    simp [Builtin.copy_, run_underlying hu, Builtin.lenOf, Builtin.firstCells, sizeOf, typeInfo, hq, hi, hl, hst]
theorem wpList_copy2 {P : Program} (w : World) {ops : Array Oper} {rest : List Oper} {o : Oper} {a : Act} {Q : Exit → Act → World → Prop} (hgd : o.guard = none) (d s : Operand) (t t' : TypeId)
    (ho : o.op = .call { callee := .builtin .copy, args := #[d, s], argTypes := #[t, t'] }) (v u : Value) (hd : a.eval d = v) (hs : a.eval s = u) {v' : Value} {w' : World}
    (hr : (Builtin.copy_ #[t, t'] o.type #[v, u]).run P w = .ok v' w') (h : wpList P ops Q rest (a.put o.dst v') w') : wpList P ops Q (o :: rest) a w := by
  refine wpList_plain hgd fun K hK => ?_
  unfold Oper.wp execOp
  simp only [ho, resolve, invoke, builtin, Sem.run_bind, Sem.run_pure, Result.andThen_ok, List.map_toArray, List.map_cons, List.map_nil, hd, hs, hr]
  exact hK _ _ h
theorem step_copy2 {P : Program} {ops : Array Oper} {o : Oper} {a : Act} {w : World} {K : Act → World → Prop} {Q : Exit → Act → World → Prop} {E : Prop}
    (hg : o.guard = none) (d x : Operand) (dT sT : TypeId) (hop : o.op = Op.call { callee := Callee.builtin Builtin.copy, args := #[d, x], argTypes := #[dT, sT] })
    (v u : Value) (hd : a.eval d = v) (hx : a.eval x = u) {v' : Value} {w' : World} (hr : (Builtin.copy_ #[dT, sT] o.type #[v, u]).run P w = .ok v' w') (hK : K (a.put o.dst v') w') :
    if Region.wanted o (yielded ops a.tmps) = true then Oper.wp P o a w K Q else E := by
  have hw : Region.wanted o (yielded ops a.tmps) = true := by simp [Region.wanted, hg]
  rw [if_pos hw]
  unfold Oper.wp
  simp [execOp, hop, resolve, invoke, builtin, hd, hx, hr, Result.andThen]
  exact hK
theorem pairInfo : (Try.prog.info? 60).map (fun i => (i.zero, i.size, i.bytes)) = some (some (.agg #[.int .i64 0, .int .i64 0]), 2, 16) := by kernel_rfl
theorem made_two (n : Nat) : madeCells #[Value.int .i64 0, Value.int .i64 0] n = (List.replicate n (Value.int .i64 0)).toArray := by
  unfold madeCells
  apply Array.ext
  · simp
  · intro i h1 h2
    have : i % 2 = 0 ∨ i % 2 = 1 := by omega
    rcases this with h | h <;> simp [h]
theorem run_nine (w : World) : (Instr.makeSlice 68 (.int .i64 9) (.int .i64 9)).run Try.prog w = .ok (.slice (some ⟨w.heap.size, 0, none⟩) 9 9) (w.alloc (.cells (List.replicate 18 (Value.int .i64 0)).toArray 60)) := by
  obtain ⟨i, hi, hz0, hz1, hz2⟩ := info_parts pairInfo
  have := run_make (P := Try.prog) w 68 60 i _ Try.underlying68 hi hz0 .i64 .i64 9 9 (by omega) (by omega) (by rw [hz2]; decide) (by omega)
  rw [this, hz1, show (Int.toNat 9 * 2) = 18 from rfl, ← made_two]; rfl
def pairRow (x y : Int) (n : Nat) : List Value := (List.replicate n [Value.int .i64 x, Value.int .i64 y]).flatten ++ List.replicate (2 * (9 - n)) (Value.int .i64 0)
/-- what Repeat's loop keeps: n copies, then noughts -/
structure R2 (w wr : World) (x y : Int) (n : Nat) : Prop where
  bel : Below w.heap.size w wr
  row : wr.heap[w.heap.size]? = some (.cells (pairRow x y n).toArray 60 (0, 0))
def Rep2Post (w : World) (x y : Int) (e : Ending) (w' : World) : Prop :=
  e = .returned (.slice (some ⟨w.heap.size, 0, none⟩) 9 9) ∧ R2 w w' x y 9
theorem R2.step {w wr : World} {x y : Int} {n m : Nat} (h : R2 w wr x y n) (hm : (n = 1 ∧ m = 1) ∨ (n = 2 ∧ m = 2) ∨ (n = 4 ∧ m = 4) ∨ (n = 8 ∧ m = 1)) :
    ∃ W4, (Builtin.copy_ #[68, 68] 3 #[.slice (some ⟨w.heap.size, n * 2, none⟩) (9 - n) (9 - n), .slice (some ⟨w.heap.size, 0, none⟩) n 9]).run Try.prog wr.drew = .ok (.int .i64 (m : Int)) W4 ∧ R2 w W4 x y (n + m) := by
  have hg : wr.drew.heap[w.heap.size]? = some (.cells (pairRow x y n).toArray 60 (0, 0)) := h.row
  have hmn : Nat.min n (9 - n) = m := by rcases hm with ⟨rfl, rfl⟩ | ⟨rfl, rfl⟩ | ⟨rfl, rfl⟩ | ⟨rfl, rfl⟩ <;> rfl
  refine ⟨_, (run_copy_pairs (P := Try.prog) wr.drew 68 68 3 60 w.heap.size (n * 2) (9 - n) (9 - n) ⟨w.heap.size, 0, none⟩ n 9 _ 60 ((pairRow x y n).take (m * 2)) Try.underlying68 pair_info hg ?_ ?_ ?_ ?_).trans (by rw [hmn]; rfl), ?_⟩
  · rw [hmn]; rcases hm with ⟨rfl, rfl⟩ | ⟨rfl, rfl⟩ | ⟨rfl, rfl⟩ | ⟨rfl, rfl⟩ <;> rfl
  · intro j u hu
    have h1 : (pairRow x y n)[j]? = some u := by
      rw [List.getElem?_take] at hu
      split at hu
      · exact hu
      · cases hu
    rw [Addr.add_lit, Nat.zero_add]
    simp [World.cell?, hg, h1]
  · rcases hm with ⟨rfl, rfl⟩ | ⟨rfl, rfl⟩ | ⟨rfl, rfl⟩ | ⟨rfl, rfl⟩ <;> simp [pairRow]
  · intro v hv
    have hv2 := List.mem_of_mem_take hv
    unfold pairRow at hv2
    simp only [List.mem_append, List.mem_flatten, List.mem_replicate] at hv2
    rcases hv2 with ⟨l, ⟨-, rfl⟩, hv2⟩ | ⟨-, rfl⟩
    · simp at hv2; rcases hv2 with rfl | rfl <;> rfl
    · rfl
  · refine ⟨below_setRow h.bel.drew (Nat.le_refl _) _, ?_⟩
    rw [setRow_heap _ _ _ _ 60 _ hg]
    rcases hm with ⟨rfl, rfl⟩ | ⟨rfl, rfl⟩ | ⟨rfl, rfl⟩ | ⟨rfl, rfl⟩ <;> rfl
set_option maxRecDepth 20000 in
set_option maxHeartbeats 1000000 in
theorem repeat2_any {A : Option Addr} {cp : Nat} {x y : Int} (w : World) (HA : Sl w A [.int .i64 x, .int .i64 y]) :
    Calls Try.prog 42 #[.slice A 1 cp, .int .i64 9] w (Rep2Post w x y) := by
  obtain ⟨b, off, rfl, c0⟩ := HA 0 _ rfl
  rw [Nat.add_zero] at c0
  have hb := World.block_lt_of_cell? w _ c0
  have hmk := run_nine w
  obtain ⟨W0, hW0⟩ : ∃ W0, w.alloc (.cells (List.replicate 18 (Value.int .i64 0)).toArray 60) = W0 := ⟨_, rfl⟩
  rw [hW0] at hmk
  have hb0 : Below w.heap.size w W0 := by rw [← hW0]; exact (Below.refl _ w).alloc (Nat.le_refl _) _
  have hg0 : W0.heap[w.heap.size]? = some (.cells (pairRow x y 0).toArray 60 (0, 0)) := by rw [← hW0]; exact heap_alloc_new w _
  have hcp : ∃ W1, (Builtin.copy_ #[68, 68] 3 #[.slice (some ⟨w.heap.size, 0, none⟩) 9 9, .slice (some ⟨b, off, none⟩) 1 cp]).run Try.prog W0 = .ok (.int .i64 1) W1 ∧ R2 w W1 x y 1 := by
    refine ⟨_, run_copy_pairs (P := Try.prog) W0 68 68 3 60 w.heap.size 0 9 9 ⟨b, off, none⟩ 1 cp _ 60 [.int .i64 x, .int .i64 y] Try.underlying68 pair_info hg0 rfl ?_ (by simp [pairRow]) (by intro v hv; simp at hv; rcases hv with rfl | rfl <;> rfl), ?_⟩
    · intro j u hu
      obtain ⟨b', off', e, hc⟩ := HA j u hu
      injection e with e
      injection e with e1 e2
      subst e1 e2
      rw [Addr.add_lit]
      exact (hb0.cell (p := ⟨b, off + j, none⟩) hb).trans hc
    · refine ⟨below_setRow hb0 (Nat.le_refl _) _, ?_⟩
      rw [setRow_heap _ _ _ _ 60 _ hg0]
      rfl
  obtain ⟨W1, hcp, hR1⟩ := hcp
  have HR1 := Lib.hid hR1
  clear hW0 hb0 hg0 hR1
  go_enter Try.func42, Try.ntmps42
  go_wp2_with (first | (go_at_call 70; refine (mul_nine _).mono ?_; rintro e w1 ⟨rfl, rfl⟩))
  clear hmk hcp
  go_loopw [8] (fun si wr => (si = .int .i64 1 ∧ R2 w wr x y 1) ∨ (si = .int .i64 2 ∧ R2 w wr x y 2) ∨ (si = .int .i64 4 ∧ R2 w wr x y 4) ∨ (si = .int .i64 8 ∧ R2 w wr x y 8) ∨ (si = .int .i64 9 ∧ R2 w wr x y 9)) (fun si _ => 9 - (intOf si).toNat)
  case atStart => exact .inl ⟨rfl, HR1.out⟩
  case round =>
    clear HR1
    rcases hrel with ⟨rfl, hR⟩ | ⟨rfl, hR⟩ | ⟨rfl, hR⟩ | ⟨rfl, hR⟩ | ⟨rfl, hR⟩
    · obtain ⟨W4, hcp, hR4⟩ := hR.step (m := 1) (by simp)
      have HR4 := Lib.hid hR4
      clear hR hR4
      go_wp2
      go_region
      go_wp2
      go_roundw
      case rel => exact .inr (.inl ⟨rfl, HR4.out⟩)
      case measure => simp [intOf]
    · obtain ⟨W4, hcp, hR4⟩ := hR.step (m := 2) (by simp)
      have HR4 := Lib.hid hR4
      clear hR hR4
      go_wp2
      go_region
      go_wp2
      go_roundw
      case rel => exact .inr (.inr (.inl ⟨rfl, HR4.out⟩))
      case measure => simp [intOf]
    · obtain ⟨W4, hcp, hR4⟩ := hR.step (m := 4) (by simp)
      have HR4 := Lib.hid hR4
      clear hR hR4
      go_wp2
      go_region
      go_wp2
      go_roundw
      case rel => exact .inr (.inr (.inr (.inl ⟨rfl, HR4.out⟩)))
      case measure => simp [intOf]
    · obtain ⟨W4, hcp, hR4⟩ := hR.step (m := 1) (by simp)
      have HR4 := Lib.hid hR4
      clear hR hR4
      go_wp2
      go_region
      go_wp2
      go_roundw
      case rel => exact .inr (.inr (.inr (.inr ⟨rfl, HR4.out⟩)))
      case measure => simp [intOf]
    · have HR := Lib.hid hR
      clear hR
      go_wp2
      go_ret
      exact ⟨rfl, HR.out⟩
end Go.Proofs.Ytogmlcgiajigfaa.Ard
