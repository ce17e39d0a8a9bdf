/-
  Texts of this claim, joined by program (ArdC, ArdH, ArdI, ArdJ, ArdO). Walks: mean, emboss, sharpen.
-/
import Derived.Test.YtbmlopklhgladaaDoorZG1
import Derived.Laws.CopyOwn
import Derived.Laws.CopyRow
import Derived.Deep.RegionLaw
set_option linter.unusedVariables false
set_option linter.unusedSimpArgs false
namespace Go.Proofs.YtbmlopklhgladaaDoor.Ard
open Go.RowKit K

theorem si_drewN {w : World} {k : IntKind} {A : Option Addr} {n : Nat} {l : List Int} (h : SI w k A n l) (j : Nat) : SI (w.drewN j) k A n l := h.below (below_drewN (Below.refl _ _) _) (Nat.le_refl _)
theorem getD_in {l : List Int} (hw : ∀ v ∈ l, 0 ≤ v ∧ v < 65536) (i : Nat) : 0 ≤ l.getD i 0 ∧ l.getD i 0 < 65536 := by
  rw [List.getD_eq_getElem?_getD]
  cases h : l[i]? with
  | none => simp
  | some v => exact hw v (List.mem_of_getElem? h)
/-- the cell i of a view, its value said by the list -/
theorem si_at {w : World} {A : Option Addr} {n i : Nat} {l : List Int} {b off : Nat} (h : SI w .i64 (some ⟨b, off, none⟩) n l) (hi : i < n) : w.cell? ⟨b, off + i, none⟩ = some (.int .i64 (l.getD i 0)) := by
  obtain ⟨b', o', x, e, hc, hx, -⟩ := h.cells hi
  injection e with e
  injection e with e1 e2
  subst e1 e2
  rw [getD_at hx.out]; exact hc
theorem mul_in {s a : Int} (hs : -600000 ≤ s ∧ s ≤ 600000) (ha : 1 ≤ a ∧ a ≤ 8) : -4800000 ≤ s * a ∧ s * a ≤ 4800000 := by
  have : a = 1 ∨ a = 2 ∨ a = 3 ∨ a = 4 ∨ a = 5 ∨ a = 6 ∨ a = 7 ∨ a = 8 := by omega
  rcases this with rfl | rfl | rfl | rfl | rfl | rfl | rfl | rfl <;> omega
end Go.Proofs.YtbmlopklhgladaaDoor.Ard
set_option linter.unusedVariables false
set_option linter.unusedSimpArgs false
namespace Go.Proofs.YtbmlopklhgladaaDoor.Ard
open Go.RowKit K

def FitsP (W H : Int) : Prop := 1 ≤ W ∧ 1 ≤ H ∧ W ≤ 4096 ∧ H ≤ 4096 ∧ W * H ≤ 65536
instance (W H : Int) : Decidable (FitsP W H) := by unfold FitsP; infer_instance
theorem area_in {W H : Int} (h1 : 1 ≤ W) (h2 : 1 ≤ H) (h3 : W ≤ 4096) (h4 : H ≤ 4096) : 0 ≤ W * H ∧ W * H ≤ 16777216 := by
  have h5 : W * H ≤ 4096 * H := Int.mul_le_mul_of_nonneg_right h3 (by omega)
  have h6 : 0 ≤ W * H := Int.mul_nonneg (by omega) (by omega)
  omega
theorem fits_any {W H : Int} (w : World) : Calls Tryd.prog 39 #[.int .i64 W, .int .i64 H] w fun e w' => e = .returned (.bool (decide (FitsP W H))) ∧ w = w' := by
  by_cases h1 : 1 ≤ W
  · by_cases h2 : 1 ≤ H
    · by_cases h3 : W ≤ 4096
      · by_cases h4 : H ≤ 4096
        · have ha := area_in h1 h2 h3 h4
          have hw : wrap64 (W * H) = W * H := IntWalk.wrap64_in _ (by omega)
          have e0 : decide (FitsP W H) = decide (W * H ≤ 65536) := by simp [FitsP, h1, h2, h3, h4]
          rw [e0]
          clear ha e0
          go_enter Tryd.func39, Tryd.ntmps39
          go_wp2
          go_ret
          exact ⟨by simp [hw], rfl⟩
        · have e0 : decide (FitsP W H) = false := by simp [FitsP, h4]
          rw [e0]
          clear e0
          go_enter Tryd.func39, Tryd.ntmps39
          go_wp2
          go_ret
          exact ⟨rfl, rfl⟩
      · have e0 : decide (FitsP W H) = false := by simp [FitsP, h3]
        rw [e0]
        clear e0
        go_enter Tryd.func39, Tryd.ntmps39
        go_wp2
        go_ret
        exact ⟨rfl, rfl⟩
    · have e0 : decide (FitsP W H) = false := by simp [FitsP, h2]
      rw [e0]
      clear e0
      go_enter Tryd.func39, Tryd.ntmps39
      go_wp2
      go_ret
      exact ⟨rfl, rfl⟩
  · have e0 : decide (FitsP W H) = false := by simp [FitsP, h1]
    rw [e0]
    clear e0
    go_enter Tryd.func39, Tryd.ntmps39
    go_wp2
    go_ret
    exact ⟨rfl, rfl⟩
end Go.Proofs.YtbmlopklhgladaaDoor.Ard
set_option linter.unusedVariables false
set_option linter.unusedSimpArgs false
namespace Go.Proofs.YtbmlopklhgladaaDoor.Ard
open Go.RowKit K

def GoodP (W H : Int) (pn : Nat) : Prop := FitsP W H ∧ (pn : Int) = 4 * W * H
instance (W H : Int) (pn : Nat) : Decidable (GoodP W H pn) := by unfold GoodP; infer_instance
/-- a test's post: old memory is as it was -/
def TestP (w : World) (v : Bool) (e : Ending) (w' : World) : Prop := e = .returned (.bool v) ∧ Below w.heap.size w w'
theorem beq_dec (a b : Int) : (a == b) = decide (a = b) := by by_cases h : a = b <;> simp [h]
theorem rgood_any {W H : Int} {P : Option Addr} {pn pc : Nat} (w : World) (hpn : pn ≤ 140737488351232) : Calls Tryd.prog 17 #[.agg #[.int .i64 W, .int .i64 H, .slice P pn pc]] w (TestP w (decide (GoodP W H pn))) := by
  have HB := (Below.refl w.heap.size w).alloc (Nat.le_refl _) (.cells #[.int .i64 W, .int .i64 H, .slice P pn pc] 26)
  by_cases h : FitsP W H
  · have e0 : decide (GoodP W H pn) = decide ((pn : Int) = 4 * W * H) := by simp [GoodP, h]
    have e1 : decide (FitsP W H) = true := decide_eq_true h
    have ha := area_in h.1 h.2.1 h.2.2.1 h.2.2.2.1
    have hb := h.2.2.1
    have hb1 := h.1
    have w1 : wrap64 (4 * W) = 4 * W := IntWalk.wrap64_in _ (by omega)
    have w2 : wrap64 (4 * W * H) = 4 * W * H := IntWalk.wrap64_in _ (by rw [Int.mul_assoc]; omega)
    rw [e0]
    have HF : Hid (∀ V, Calls Tryd.prog 39 #[.int .i64 W, .int .i64 H] V fun e w' => e = .returned (.bool true) ∧ V = w') := fun V => by have := fits_any (W := W) (H := H) V; rwa [e1] at this
    clear e0 e1 ha hb hb1 h
    go_enter Tryd.func17, Tryd.ntmps17
    go_wp2_with fail
    refine (HF.out _).mono ?_
    rintro e w' ⟨rfl, rfl⟩
    go_wp2_with fail
    go_ret
    exact ⟨by simp [w2, beq_dec], HB⟩
  · have e0 : decide (GoodP W H pn) = false := by simp [GoodP, h]
    have e1 : decide (FitsP W H) = false := decide_eq_false h
    rw [e0]
    have HF : Hid (∀ V, Calls Tryd.prog 39 #[.int .i64 W, .int .i64 H] V fun e w' => e = .returned (.bool false) ∧ V = w') := fun V => by have := fits_any (W := W) (H := H) V; rwa [e1] at this
    clear e0 e1 h
    go_enter Tryd.func17, Tryd.ntmps17
    go_wp2_with fail
    refine (HF.out _).mono ?_
    rintro e w' ⟨rfl, rfl⟩
    go_wp2_with fail
    go_ret
    exact ⟨rfl, HB⟩
def WithinP (x y w h gw gh : Int) : Prop := 1 ≤ w ∧ 1 ≤ h ∧ 0 ≤ x ∧ 0 ≤ y ∧ w ≤ gw ∧ h ≤ gh ∧ x ≤ gw - w ∧ y ≤ gh - h
instance (x y w h gw gh : Int) : Decidable (WithinP x y w h gw gh) := by unfold WithinP; infer_instance
end Go.Proofs.YtbmlopklhgladaaDoor.Ard
set_option linter.unusedVariables false
set_option linter.unusedSimpArgs false
namespace Go.Proofs.YtbmlopklhgladaaDoor.Ard
open Go.RowKit K

theorem good_any {W H : Int} {P : Option Addr} {pn pc : Nat} (w : World) (hpn : pn ≤ 140737488351232) : Calls Tryd.prog 48 #[.agg #[.int .i64 W, .int .i64 H, .slice P pn pc]] w (TestP w (decide (GoodP W H pn))) := by
  have HB := (Below.refl w.heap.size w).alloc (Nat.le_refl _) (.cells #[.int .i64 W, .int .i64 H, .slice P pn pc] 26)
  by_cases hs : 1 ≤ W ∧ 1 ≤ H ∧ W ≤ 4096 ∧ H ≤ 4096
  · obtain ⟨h1, h2, h3, h4⟩ := hs
    have ha := area_in h1 h2 h3 h4
    have e0 : decide (GoodP W H pn) = (decide (W * H ≤ 65536) && decide ((pn : Int) = 4 * W * H)) := by simp [GoodP, FitsP, h1, h2, h3, h4]
    have w0 : wrap64 (W * H) = W * H := IntWalk.wrap64_in _ (by omega)
    have w1 : wrap64 (4 * W) = 4 * W := IntWalk.wrap64_in _ (by omega)
    have w2 : wrap64 (4 * W * H) = 4 * W * H := IntWalk.wrap64_in _ (by rw [Int.mul_assoc]; omega)
    rw [e0]
    clear e0 ha
    by_cases h5 : W * H ≤ 65536
    · have d5 : decide (W * H ≤ 65536) = true := decide_eq_true h5
      rw [d5, Bool.true_and]
      go_enter Tryd.func48, Tryd.ntmps48
      go_wp2
      all_goals (
        go_ret
        exact ⟨by simp [w2, beq_dec], HB⟩)
    · have d5 : decide (W * H ≤ 65536) = false := decide_eq_false h5
      rw [d5, Bool.false_and]
      go_enter Tryd.func48, Tryd.ntmps48
      go_wp2
      all_goals (
        go_ret
        exact ⟨rfl, HB⟩)
  · have e0 : decide (GoodP W H pn) = false := decide_eq_false fun h => hs ⟨h.1.1, h.1.2.1, h.1.2.2.1, h.1.2.2.2.1⟩
    rw [e0]
    clear e0
    by_cases h1 : 1 ≤ W
    · by_cases h2 : 1 ≤ H
      · have h3 : ¬ (W ≤ 4096 ∧ H ≤ 4096) := fun h => hs ⟨h1, h2, h.1, h.2⟩
        clear hs
        go_enter Tryd.func48, Tryd.ntmps48
        go_wp2
        all_goals (
          go_ret
          exact ⟨rfl, HB⟩)
      · clear hs
        go_enter Tryd.func48, Tryd.ntmps48
        go_wp2
        all_goals (
          go_ret
          exact ⟨rfl, HB⟩)
    · clear hs
      go_enter Tryd.func48, Tryd.ntmps48
      go_wp2
      all_goals (
        go_ret
        exact ⟨rfl, HB⟩)
end Go.Proofs.YtbmlopklhgladaaDoor.Ard
set_option linter.unusedVariables false
set_option linter.unusedSimpArgs false
namespace Go.Proofs.YtbmlopklhgladaaDoor.Ard
open Go.RowKit K

theorem run_copy_pairs {P : Program} (w : World) (dT sT ty elem : TypeId) (g o dLen dCap : Nat) (a : Addr) (sLen sCap : Nat) (cur : Array Value) (t : TypeId) (cs : List Value)
    (hu : P.underlying dT = some (.slice elem)) (hs : (P.info? elem).map (·.size) = some 2)
    (hg : w.heap[g]? = some (.cells cur t (0, 0))) (hn : cs.length = Nat.min sLen dLen * 2)
    (hsrc : ∀ j v, cs[j]? = some v → w.cell? (a.add j) = some v) (hfit : o + cs.length ≤ cur.size) (h1 : ∀ v ∈ cs, v.oneCell' = true) :
    (Builtin.copy_ #[dT, sT] ty #[.slice (some ⟨g, o, none⟩) dLen dCap, .slice (some a) sLen sCap]).run P w =
      .ok (goInt (Nat.min sLen dLen)) (w.setRow g (cur.toList.take o ++ cs ++ cur.toList.drop (o + cs.length)).toArray) := by
  have hl := run_loadCells_list (P := P) w a cs hsrc
  have hst := run_storeCells_at P g o t cs 0 cur w hg (by simpa using hfit) h1
  cases hq : P.info? elem with
  | none => simp [hq] at hs
  | some i =>
    have hi : i.size = 2 := by simpa [hq] using hs
    rw [hn] at hl
    simp [Builtin.copy_, run_underlying hu, Builtin.lenOf, Builtin.firstCells, sizeOf, typeInfo, hq, hi, hl, hst]
theorem wpList_copy2 {P : Program} (w : World) {ops : Array Oper} {rest : List Oper} {o : Oper} {a : Act} {Q : Exit → Act → World → Prop} (hgd : o.guard = none) (d s : Operand) (t t' : TypeId)
    (ho : o.op = .call { callee := .builtin .copy, args := #[d, s], argTypes := #[t, t'] }) (v u : Value) (hd : a.eval d = v) (hs : a.eval s = u) {v' : Value} {w' : World}
    (hr : (Builtin.copy_ #[t, t'] o.type #[v, u]).run P w = .ok v' w') (h : wpList P ops Q rest (a.put o.dst v') w') : wpList P ops Q (o :: rest) a w := by
  refine wpList_plain hgd fun K hK => ?_
  unfold Oper.wp execOp
  simp only [ho, resolve, invoke, builtin, Sem.run_bind, Sem.run_pure, Result.andThen_ok, List.map_toArray, List.map_cons, List.map_nil, hd, hs, hr]
  exact hK _ _ h
theorem step_copy2 {P : Program} {ops : Array Oper} {o : Oper} {a : Act} {w : World} {K : Act → World → Prop} {Q : Exit → Act → World → Prop} {E : Prop}
    (hg : o.guard = none) (d x : Operand) (dT sT : TypeId) (hop : o.op = Op.call { callee := Callee.builtin Builtin.copy, args := #[d, x], argTypes := #[dT, sT] })
    (v u : Value) (hd : a.eval d = v) (hx : a.eval x = u) {v' : Value} {w' : World} (hr : (Builtin.copy_ #[dT, sT] o.type #[v, u]).run P w = .ok v' w') (hK : K (a.put o.dst v') w') :
    if Region.wanted o (yielded ops a.tmps) = true then Oper.wp P o a w K Q else E := by
  have hw : Region.wanted o (yielded ops a.tmps) = true := by simp [Region.wanted, hg]
  rw [if_pos hw]
  unfold Oper.wp
  simp [execOp, hop, resolve, invoke, builtin, hd, hx, hr, Result.andThen]
  exact hK
theorem made_two (n : Nat) : madeCells #[Value.int .i64 0, Value.int .i64 0] n = (List.replicate n (Value.int .i64 0)).toArray := by
  unfold madeCells
  apply Array.ext
  · simp
  · intro i h1 h2
    have : i % 2 = 0 ∨ i % 2 = 1 := by omega
    rcases this with h | h <;> simp [h]
def pairRow (x y : Int) (n : Nat) : List Value := (List.replicate n [Value.int .i64 x, Value.int .i64 y]).flatten ++ List.replicate (2 * (9 - n)) (Value.int .i64 0)
end Go.Proofs.YtbmlopklhgladaaDoor.Ard
