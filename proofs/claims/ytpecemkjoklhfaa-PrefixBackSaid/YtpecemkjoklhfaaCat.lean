/-
  Walks: slices.Grow of a nil slice, slices.Concat of two slices; at []int and at []coin.
-/
import Derived.Test.YtpecemkjoklhfaaChecked
import Derived.Test.YtpecemkjoklhfaaKit
import Derived.Lib.AppendZeros
set_option linter.unusedVariables false
set_option linter.unusedSimpArgs false
namespace Go.Proofs.Ytpecemkjoklhfaa.Cat
open Go.RowKit K

theorem infoInt : (Try.prog.info? 3).map (fun i => (i.zero, i.size, i.bytes)) = some (some (.int .i64 0), 1, 8) := by kernel_rfl
theorem infoCoin : (Try.prog.info? 72).map (fun i => (i.zero, i.size, i.bytes)) = some (some (.agg #[.int .i64 0, .slice none 0 0]), 2, 32) := by kernel_rfl
def cont (k : Nat) (xs ys : List Value) : List Value := if k = 0 then [] else if k = 1 then xs else xs ++ ys
def clen (k n m : Nat) : Nat := if k = 0 then 0 else if k = 1 then n else n + m
/-- what a slice of two slices holds -/
structure Two (w : World) (A : Option Addr) (A1 : Option Addr) (n1 c1 : Nat) (A2 : Option Addr) (n2 c2 : Nat) : Prop where
  sl : Sl w A [.slice A1 n1 c1, .slice A2 n2 c2]
def CatPost (base T sz n : Nat) (xs : List Value) (w : World) (e : Ending) (w' : World) : Prop := ∃ A' c', e = .returned (.slice A' n c') ∧ w'.ownsRow base T sz (.slice A' n c') n xs ∧ Below w.heap.size w w'

theorem zerosI (w : World) (k : Nat) (h0 : 0 < k) (hk : k ≤ 1099511627776) : (Builtin.append_ #[22, 3] 22 #[.slice none 0 0, .int .i64 k]).run Try.prog w =
    .ok (.slice (some ⟨w.heap.size, 0, none⟩) k (grownCap w k 0 3)) (w.drew.alloc (.cells (Builtin.zeroCells (Value.cells (.int .i64 0)) k ++ Builtin.zeroCells (Value.cells (.int .i64 0)) (grownCap w k 0 3 - k)) 3)) := by
  obtain ⟨i0, hi, hz0, hz1, hz2⟩ := info_parts infoInt
  exact Lib.run_append_nil_zeros (P := Try.prog) w 22 3 22 3 i0 _ .i64 .i64 Try.underlying22 Try.underlying3 hi hz0 k h0 (by omega) (by omega) (by rw [hz2]; omega)
set_option maxHeartbeats 1000000 in
theorem growI_any (w : World) (k : Nat) (hk : k ≤ 1099511627776) :
    Calls Try.prog 50 #[.slice none 0 0, .int .i64 k] w (CatPost w.heap.size 3 1 0 [] w) := by
  rcases Nat.eq_zero_or_pos k with h0 | h0
  · subst h0
    go_enter Try.func50, Try.ntmps50
    go_wp2
    go_ret
    exact ⟨none, 0, rfl, World.ownsRow_nil _ _ _ _, Below.refl _ _⟩
  · go_enter Try.func50, Try.ntmps50
    go_wp2_with (at_builtin; refine Lib.wpList_append_run _ rfl (.tmp 20) (.tmp 21) _ _ rfl (.slice none 0 0) (.int .i64 k) rfl rfl _ _ (zerosI _ k h0 hk) ?_)
    have hle := grownCap_le_maxLen w k 0 3 (by unfold maxLen; omega)
    have hge := grownCap_ge w k 0 3
    generalize grownCap w k 0 3 = cp at *
    have HLE := Lib.hid hle
    have HGE := Lib.hid hge
    clear hle hge
    go_wp2
    go_ret
    have hle2 : cp ≤ maxLen := HLE.out
    unfold maxLen at hle2
    have hge := HGE.out
    refine ⟨_, _, rfl, ⟨by simp, .inr ⟨w.heap.size, cp, _, rfl, Nat.le_refl _, heap_alloc_new _ _, by omega, by unfold maxLen; omega, ?_, by simp⟩⟩, ((Below.refl _ _).drew).alloc (Nat.le_refl _) _⟩
    rw [Array.size_append, size_zeroCells, size_zeroCells]
    simp only [List.size_toArray, List.length_cons, List.length_nil]
    omega

set_option maxHeartbeats 2000000 in
theorem concatI_any {A A1 A2 : Option Addr} {c n1 c1 n2 c2 : Nat} {xs ys : List Value} (w : World) (HA : Two w A A1 n1 c1 A2 n2 c2) (HX : Sl w A1 xs) (HY : Sl w A2 ys)
    (hx : xs.length = n1 * 1) (hy : ys.length = n2 * 1) (hx1 : ∀ u ∈ xs, u.oneCell' = true) (hy1 : ∀ u ∈ ys, u.oneCell' = true) (hn1 : n1 ≤ 1073741824) (hn2 : n2 ≤ 1073741824) :
    Calls Try.prog 36 #[.slice A 2 c] w (CatPost w.heap.size 3 1 (n1 + n2) (xs ++ ys) w) := by
  have hlx := Lib.hid hx
  have hly := Lib.hid hy
  have hox := Lib.hid hx1
  have hoy := Lib.hid hy1
  obtain ⟨b, off, rfl, hc0⟩ := HA.sl 0 _ rfl
  obtain ⟨b', off', e, hc1⟩ := HA.sl 1 _ rfl
  injection e with e; injection e with e1 e2; subst e1 e2
  have hb := World.block_lt_of_cell? w _ hc0
  simp only [Nat.add_zero] at hc0
  clear hx hy hx1 hy1
  go_enter Try.func36, Try.ntmps36
  go_wp2
  go_loop [3, 5, 11] (fun sv _ i => ∃ k : Nat, k ≤ 2 ∧ i = .int .i64 k ∧ sv = .int .i64 (clen k n1 n2)) (fun _ _ i => 2 - (intOf i).toNat)
  case atStart => exact ⟨0, by omega, rfl, rfl⟩
  case round =>
    obtain ⟨k, hk, rfl, rfl⟩ := hrel
    rcases (by omega : k = 0 ∨ k = 1 ∨ k = 2) with rfl | rfl | rfl
    · have e0 : clen 0 n1 n2 = 0 := rfl
      rw [e0]
      go_wp2
      go_round
      case rel => exact ⟨1, by omega, rfl, eint (by simp [clen])⟩
      case measure => simp [intOf]
    · have e0 : clen 1 n1 n2 = n1 := rfl
      rw [e0]
      go_wp2
      go_round
      case rel => exact ⟨2, by omega, rfl, eint (by simp [clen])⟩
      case measure => simp [intOf]
    · have e0 : clen 2 n1 n2 = n1 + n2 := rfl
      rw [e0]
      go_wp2_with (go_at_call 50; refine (growI_any _ (n1 + n2) (by omega)).mono ?_; rintro e w1 ⟨A', c', rfl, hown, hbel⟩)
      go_loopw [6, 8, 27] (fun v _ i wr => ∃ (k : Nat) (Ar : Option Addr) (cr : Nat), k ≤ 2 ∧ i = .int .i64 k ∧ v = .slice Ar (clen k n1 n2) cr ∧ wr.ownsRow w.heap.size 3 1 (.slice Ar (clen k n1 n2) cr) (clen k n1 n2) (cont k xs ys) ∧ Below w.heap.size w wr) (fun _ _ i _ => 2 - (intOf i).toNat)
      case atStart => exact ⟨0, A', c', by omega, rfl, rfl, hown, hbel⟩
      case round =>
        clear hown hbel
        obtain ⟨k, Ar, cr, hk, rfl, rfl, hown, hbel⟩ := hrel
        have d0 := (hbel.cell (p := ⟨b, off, none⟩) hb).trans hc0
        have d1 := (hbel.cell (p := ⟨b, off + 1, none⟩) hb).trans hc1
        have hsz := hbel.size
        rcases (by omega : k = 0 ∨ k = 1 ∨ k = 2) with rfl | rfl | rfl
        · have e0 : clen 0 n1 n2 = 0 := rfl
          have e1 : cont 0 xs ys = [] := rfl
          rw [e0, e1] at hown
          rw [e0]
          have HX2 := HX.below hbel (Nat.le_refl _)
          go_wp2_with (at_builtin; refine wpList_append_sl _ rfl (.tmp 31) (.tmp 32) _ rfl w.heap.size 3 1 8 _ Try.underlying22 infoInt rfl (by omega) (.slice Ar 0 cr) 0 [] rfl hown A1 n1 c1 xs rfl hlx.out HX2 hox.out ?c1 ?c2 hsz ?_)
          case c1 => unfold maxLen; omega
          case c2 => omega
          intro v' w2 hown2 hg2 _
          obtain ⟨A3, c3, rfl⟩ := own_form hown2
          have hb2 : Below w.heap.size w w2 := hbel.grown hg2 hsz (fun q hq => (hown.lt q hq).1)
          go_wp2
          go_roundw
          case rel => exact ⟨1, A3, c3, by omega, rfl, by simp [clen], by simpa [clen, cont] using hown2, hb2⟩
          case measure => simp [intOf]
        · have e0 : clen 1 n1 n2 = n1 := rfl
          have e1 : cont 1 xs ys = xs := rfl
          rw [e0, e1] at hown
          rw [e0]
          have HY2 := HY.below hbel (Nat.le_refl _)
          go_wp2_with (at_builtin; refine wpList_append_sl _ rfl (.tmp 31) (.tmp 32) _ rfl w.heap.size 3 1 8 _ Try.underlying22 infoInt rfl (by omega) (.slice Ar n1 cr) n1 xs rfl hown A2 n2 c2 ys rfl hly.out HY2 hoy.out ?c3 ?c4 hsz ?_)
          case c3 => unfold maxLen; omega
          case c4 => omega
          intro v' w2 hown2 hg2 _
          obtain ⟨A3, c3, rfl⟩ := own_form hown2
          have hb2 : Below w.heap.size w w2 := hbel.grown hg2 hsz (fun q hq => (hown.lt q hq).1)
          go_wp2
          go_roundw
          case rel => exact ⟨2, A3, c3, by omega, rfl, by simp [clen], by simpa [clen, cont] using hown2, hb2⟩
          case measure => simp [intOf]
        · have e0 : clen 2 n1 n2 = n1 + n2 := rfl
          have e1 : cont 2 xs ys = xs ++ ys := rfl
          rw [e0, e1] at hown
          rw [e0]
          go_wp2
          go_ret
          exact ⟨Ar, cr, rfl, hown, hbel⟩

theorem zerosC (w : World) (k : Nat) (h0 : 0 < k) (hk : k ≤ 1099511627776) : (Builtin.append_ #[70, 3] 70 #[.slice none 0 0, .int .i64 k]).run Try.prog w =
    .ok (.slice (some ⟨w.heap.size, 0, none⟩) k (grownCap w k 0 72)) (w.drew.alloc (.cells (Builtin.zeroCells (Value.cells (.agg #[.int .i64 0, .slice none 0 0])) k ++ Builtin.zeroCells (Value.cells (.agg #[.int .i64 0, .slice none 0 0])) (grownCap w k 0 72 - k)) 72)) := by
  obtain ⟨i0, hi, hz0, hz1, hz2⟩ := info_parts infoCoin
  exact Lib.run_append_nil_zeros (P := Try.prog) w 70 3 70 72 i0 _ .i64 .i64 Try.underlying70 Try.underlying3 hi hz0 k h0 (by omega) (by omega) (by rw [hz2]; omega)
set_option maxHeartbeats 1000000 in
theorem growC_any (w : World) (k : Nat) (hk : k ≤ 1099511627776) :
    Calls Try.prog 51 #[.slice none 0 0, .int .i64 k] w (CatPost w.heap.size 72 2 0 [] w) := by
  rcases Nat.eq_zero_or_pos k with h0 | h0
  · subst h0
    go_enter Try.func51, Try.ntmps51
    go_wp2
    go_ret
    exact ⟨none, 0, rfl, World.ownsRow_nil _ _ _ _, Below.refl _ _⟩
  · go_enter Try.func51, Try.ntmps51
    go_wp2_with (at_builtin; refine Lib.wpList_append_run _ rfl (.tmp 20) (.tmp 21) _ _ rfl (.slice none 0 0) (.int .i64 k) rfl rfl _ _ (zerosC _ k h0 hk) ?_)
    have hle := grownCap_le_maxLen w k 0 72 (by unfold maxLen; omega)
    have hge := grownCap_ge w k 0 72
    generalize grownCap w k 0 72 = cp at *
    have HLE := Lib.hid hle
    have HGE := Lib.hid hge
    clear hle hge
    go_wp2
    go_ret
    have hle2 : cp ≤ maxLen := HLE.out
    unfold maxLen at hle2
    have hge := HGE.out
    refine ⟨_, _, rfl, ⟨by simp, .inr ⟨w.heap.size, cp, _, rfl, Nat.le_refl _, heap_alloc_new _ _, by omega, by unfold maxLen; omega, ?_, by simp⟩⟩, ((Below.refl _ _).drew).alloc (Nat.le_refl _) _⟩
    rw [Array.size_append, size_zeroCells, size_zeroCells]
    simp only [List.size_toArray, List.length_cons, List.length_nil]
    omega

set_option maxHeartbeats 2000000 in
theorem concatC_any {A A1 A2 : Option Addr} {c n1 c1 n2 c2 : Nat} {xs ys : List Value} (w : World) (HA : Two w A A1 n1 c1 A2 n2 c2) (HX : Sl w A1 xs) (HY : Sl w A2 ys)
    (hx : xs.length = n1 * 2) (hy : ys.length = n2 * 2) (hx1 : ∀ u ∈ xs, u.oneCell' = true) (hy1 : ∀ u ∈ ys, u.oneCell' = true) (hn1 : n1 ≤ 1073741824) (hn2 : n2 ≤ 1073741824) :
    Calls Try.prog 37 #[.slice A 2 c] w (CatPost w.heap.size 72 2 (n1 + n2) (xs ++ ys) w) := by
  have hlx := Lib.hid hx
  have hly := Lib.hid hy
  have hox := Lib.hid hx1
  have hoy := Lib.hid hy1
  obtain ⟨b, off, rfl, hc0⟩ := HA.sl 0 _ rfl
  obtain ⟨b', off', e, hc1⟩ := HA.sl 1 _ rfl
  injection e with e; injection e with e1 e2; subst e1 e2
  have hb := World.block_lt_of_cell? w _ hc0
  simp only [Nat.add_zero] at hc0
  clear hx hy hx1 hy1
  go_enter Try.func37, Try.ntmps37
  go_wp2
  go_loop [3, 5, 11] (fun sv _ i => ∃ k : Nat, k ≤ 2 ∧ i = .int .i64 k ∧ sv = .int .i64 (clen k n1 n2)) (fun _ _ i => 2 - (intOf i).toNat)
  case atStart => exact ⟨0, by omega, rfl, rfl⟩
  case round =>
    obtain ⟨k, hk, rfl, rfl⟩ := hrel
    rcases (by omega : k = 0 ∨ k = 1 ∨ k = 2) with rfl | rfl | rfl
    · have e0 : clen 0 n1 n2 = 0 := rfl
      rw [e0]
      go_wp2
      go_round
      case rel => exact ⟨1, by omega, rfl, eint (by simp [clen])⟩
      case measure => simp [intOf]
    · have e0 : clen 1 n1 n2 = n1 := rfl
      rw [e0]
      go_wp2
      go_round
      case rel => exact ⟨2, by omega, rfl, eint (by simp [clen])⟩
      case measure => simp [intOf]
    · have e0 : clen 2 n1 n2 = n1 + n2 := rfl
      rw [e0]
      go_wp2_with (go_at_call 51; refine (growC_any _ (n1 + n2) (by omega)).mono ?_; rintro e w1 ⟨A', c', rfl, hown, hbel⟩)
      go_loopw [6, 8, 27] (fun v _ i wr => ∃ (k : Nat) (Ar : Option Addr) (cr : Nat), k ≤ 2 ∧ i = .int .i64 k ∧ v = .slice Ar (clen k n1 n2) cr ∧ wr.ownsRow w.heap.size 72 2 (.slice Ar (clen k n1 n2) cr) (clen k n1 n2) (cont k xs ys) ∧ Below w.heap.size w wr) (fun _ _ i _ => 2 - (intOf i).toNat)
      case atStart => exact ⟨0, A', c', by omega, rfl, rfl, hown, hbel⟩
      case round =>
        clear hown hbel
        obtain ⟨k, Ar, cr, hk, rfl, rfl, hown, hbel⟩ := hrel
        have d0 := (hbel.cell (p := ⟨b, off, none⟩) hb).trans hc0
        have d1 := (hbel.cell (p := ⟨b, off + 1, none⟩) hb).trans hc1
        have hsz := hbel.size
        rcases (by omega : k = 0 ∨ k = 1 ∨ k = 2) with rfl | rfl | rfl
        · have e0 : clen 0 n1 n2 = 0 := rfl
          have e1 : cont 0 xs ys = [] := rfl
          rw [e0, e1] at hown
          rw [e0]
          have HX2 := HX.below hbel (Nat.le_refl _)
          go_wp2_with (at_builtin; refine wpList_append_sl _ rfl (.tmp 31) (.tmp 32) _ rfl w.heap.size 72 2 32 _ Try.underlying70 infoCoin rfl (by omega) (.slice Ar 0 cr) 0 [] rfl hown A1 n1 c1 xs rfl hlx.out HX2 hox.out ?c1 ?c2 hsz ?_)
          case c1 => unfold maxLen; omega
          case c2 => omega
          intro v' w2 hown2 hg2 _
          obtain ⟨A3, c3, rfl⟩ := own_form hown2
          have hb2 : Below w.heap.size w w2 := hbel.grown hg2 hsz (fun q hq => (hown.lt q hq).1)
          go_wp2
          go_roundw
          case rel => exact ⟨1, A3, c3, by omega, rfl, by simp [clen], by simpa [clen, cont] using hown2, hb2⟩
          case measure => simp [intOf]
        · have e0 : clen 1 n1 n2 = n1 := rfl
          have e1 : cont 1 xs ys = xs := rfl
          rw [e0, e1] at hown
          rw [e0]
          have HY2 := HY.below hbel (Nat.le_refl _)
          go_wp2_with (at_builtin; refine wpList_append_sl _ rfl (.tmp 31) (.tmp 32) _ rfl w.heap.size 72 2 32 _ Try.underlying70 infoCoin rfl (by omega) (.slice Ar n1 cr) n1 xs rfl hown A2 n2 c2 ys rfl hly.out HY2 hoy.out ?c3 ?c4 hsz ?_)
          case c3 => unfold maxLen; omega
          case c4 => omega
          intro v' w2 hown2 hg2 _
          obtain ⟨A3, c3, rfl⟩ := own_form hown2
          have hb2 : Below w.heap.size w w2 := hbel.grown hg2 hsz (fun q hq => (hown.lt q hq).1)
          go_wp2
          go_roundw
          case rel => exact ⟨2, A3, c3, by omega, rfl, by simp [clen], by simpa [clen, cont] using hown2, hb2⟩
          case measure => simp [intOf]
        · have e0 : clen 2 n1 n2 = n1 + n2 := rfl
          have e1 : cont 2 xs ys = xs ++ ys := rfl
          rw [e0, e1] at hown
          rw [e0]
          go_wp2
          go_ret
          exact ⟨Ar, cr, rfl, hown, hbel⟩
end Go.Proofs.Ytpecemkjoklhfaa.Cat
