/-
  Walks: the reference's bit, Left and Take.
-/
import Derived.Test.YtmgbjgjlddifaaaGreatZG3
set_option linter.unusedVariables false
set_option linter.unusedSimpArgs false
namespace Go.Proofs.YtmgbjgjlddifaaaGreat.RefR
open Go.RowKit K Bits

theorem bit_up (l : List Int) (i : Nat) (x : Int) (hx : l[i / 8]? = some x) : bitAt l true i = x / 2 ^ (7 - i % 8) % 2 := by
  unfold bitAt place; rw [getD_of hx, if_pos rfl]
theorem bit_lo (l : List Int) (i : Nat) (x : Int) (hx : l[i / 8]? = some x) : bitAt l false i = x / 2 ^ (i % 8) % 2 := by
  unfold bitAt place; rw [getD_of hx]; simp
set_option maxHeartbeats 1000000 in
theorem rbit_up {A : Option Addr} {c i : Nat} {l : List Int} (w : World) (HA : SI w .u8 A l.length l) (hwf : ∀ x ∈ l, 0 ≤ x ∧ x < 256) (hi : i < 8 * l.length) :
    Calls Tryz.prog 86 #[.slice A l.length c, .bool true, .int .i64 i] w fun e w' => e = .returned (.int .u32 (bitAt l true i)) ∧ w = w' := by
  have hbig := HA.bigb
  obtain ⟨b, off, x, rfl, hc, hx, hbl⟩ := HA.cells (i := i / 8) (by omega)
  have hx01 := hwf x (List.mem_of_getElem? hx.out)
  rw [bit_up l i x hx.out]
  clear hwf hx
  go_enter Tryz.func86, Tryz.ntmps86
  have hp : 0 ≤ x / 2 ^ (7 - i % 8 : Nat) := Int.ediv_nonneg hx01.1 (Int.pow_nonneg (by decide))
  go_wp2
  go_ret
  exact ⟨rfl, rfl⟩
set_option maxHeartbeats 1000000 in
theorem rbit_lo {A : Option Addr} {c i : Nat} {l : List Int} (w : World) (HA : SI w .u8 A l.length l) (hwf : ∀ x ∈ l, 0 ≤ x ∧ x < 256) (hi : i < 8 * l.length) :
    Calls Tryz.prog 86 #[.slice A l.length c, .bool false, .int .i64 i] w fun e w' => e = .returned (.int .u32 (bitAt l false i)) ∧ w = w' := by
  have hbig := HA.bigb
  obtain ⟨b, off, x, rfl, hc, hx, hbl⟩ := HA.cells (i := i / 8) (by omega)
  have hx01 := hwf x (List.mem_of_getElem? hx.out)
  rw [bit_lo l i x hx.out]
  clear hwf hx
  go_enter Tryz.func86, Tryz.ntmps86
  have hp : 0 ≤ x / 2 ^ (i % 8 : Nat) := Int.ediv_nonneg hx01.1 (Int.pow_nonneg (by decide))
  go_wp2
  go_ret
  exact ⟨rfl, rfl⟩
theorem rbit_any {A : Option Addr} {c i : Nat} {l : List Int} {up : Bool} (w : World) (HA : SI w .u8 A l.length l) (hwf : ∀ x ∈ l, 0 ≤ x ∧ x < 256) (hi : i < 8 * l.length) :
    Calls Tryz.prog 86 #[.slice A l.length c, .bool up, .int .i64 i] w fun e w' => e = .returned (.int .u32 (bitAt l up i)) ∧ w = w' := by
  cases up
  · exact rbit_lo w HA hwf hi
  · exact rbit_up w HA hwf hi
theorem rleft_any {A : Option Addr} {n c at_ : Nat} {up : Bool} (w : World) (hn : n ≤ 140737488351232) (ha : at_ ≤ 8 * n) :
    Calls Tryz.prog 85 #[.agg #[.slice A n c, .bool up, .int .i64 at_]] w fun e w' => e = .returned (.int .i64 (8 * (n : Int) - at_)) ∧ Below w.heap.size w w' := by
  go_enter Tryz.func85, Tryz.ntmps85
  go_wp2
  go_ret
  exact ⟨rfl, (Below.refl _ _).alloc (Nat.le_refl _) _⟩
def RTakePost (w : World) (A : Option Addr) (c : Nat) (l : List Int) (at_ : Nat) (up : Bool) (n : Nat) (e : Ending) (w' : World) : Prop :=
  e = .returned (.tuple #[.agg #[.slice A l.length c, .bool up, .int .i64 ((at_ + n : Nat) : Int)], .int .u32 (takeV l up at_ n), .int .i64 0]) ∧ Below w.heap.size w w'
def rrF (A : Option Addr) (n c at_ : Nat) (up : Bool) : Nat → Value
  | 0 => .slice A n c
  | 1 => .bool up
  | _ => .int .i64 at_
theorem rrF_row (A : Option Addr) (n c at_ : Nat) (up : Bool) (w : World) : (w.alloc (.cells #[.slice A n c, .bool up, .int .i64 at_] 56)).rowIs w.heap.size 56 3 (rrF A n c at_ up) :=
  World.rowIs_alloc w _ _ _ (fun i hi => by
    simp only [List.size_toArray, List.length_cons, List.length_nil] at hi
    have : i = 0 ∨ i = 1 ∨ i = 2 := by omega
    rcases this with rfl | rfl | rfl <;> rfl)
set_option maxHeartbeats 1000000 in
theorem rtake_up {A : Option Addr} {c : Nat} {l : List Int} {at_ : Nat} (w : World) (HA : SI w .u8 A l.length l) (hwf : ∀ x ∈ l, 0 ≤ x ∧ x < 256) (n : Nat) (hn : n ≤ 32) (hl : at_ + n ≤ 8 * l.length) :
    Calls Tryz.prog 57 #[.agg #[.slice A l.length c, .bool true, .int .i64 at_], .int .i64 n] w (RTakePost w A c l at_ true n) := by
  have hbig := HA.bigb
  go_enter Tryz.func57, Tryz.ntmps57
  go_wp2_with fail
  refine (rleft_any _ hbig (by omega)).mono ?_
  rintro e w1 ⟨rfl, hb1⟩
  have hr0 := ((rrF_row A l.length c at_ true w).of_block (w' := w1) (by rw [hb1.block _ (by simp; omega)]; exact Below.heap_alloc _ _ _ (by simp)))
  have hr1 := ((rrF_row none 0 0 0 false (w.alloc (.cells #[.slice A l.length c, .bool true, .int .i64 at_] 56))).of_block (w' := w1) (hb1.block _ (by simp)))
  have HS := Lib.hid (((HA.alloc (.cells #[.slice A l.length c, .bool true, .int .i64 at_] 56)).alloc (.cells #[.slice none 0 0, .bool false, .int .i64 0] 56)).below hb1 (Nat.le_refl _))
  have Hb1 := Lib.hid ((((Below.refl w.heap.size w).alloc (Nat.le_refl _) (.cells #[.slice A l.length c, .bool true, .int .i64 at_] 56)).alloc (by simp) (.cells #[.slice none 0 0, .bool false, .int .i64 0] 56)).trans (hb1.mono (by simp; omega)))
  have c0 := hr0.cell (i := 0) (by omega)
  have c1 := hr0.cell (i := 1) (by omega)
  have c2 := hr0.cell (i := 2) (by omega)
  have d0 := hr1.cell (i := 0) (by omega)
  have d1 := hr1.cell (i := 1) (by omega)
  have d2 := hr1.cell (i := 2) (by omega)
  have f2 := hr0.frozen 2
  have g0 := hr1.frozen 0
  have g1 := hr1.frozen 1
  have g2 := hr1.frozen 2
  simp only [rrF, World.size_alloc] at c0 c1 c2 d0 d1 d2 g0 g1 g2
  have Hwf := Lib.hid hwf
  have Hr0 := Lib.hid hr0
  have Hr1 := Lib.hid hr1
  clear hb1 HA hr0 hr1 hwf
  go_wp2
  go_loopw [7, 8, 9] (fun v i _ wr => ∃ k : Nat, k ≤ n ∧ i = .int .i64 k ∧ v = .int .u32 (takeV l true at_ k) ∧ w1 = wr) (fun _ i _ _ => n - (intOf i).toNat)
  case atStart => exact ⟨0, by omega, rfl, rfl, rfl⟩
  case round =>
    obtain ⟨k, hk, rfl, rfl, rfl⟩ := hrel
    by_cases hlt : k < n
    · have hd : decide ((k : Int) < (n : Int)) = true := by simp; omega
      have htv := takeV_bd l true at_ k
      have hbv := bitAt_bd l true (at_ + k)
      go_wp2_with fail
      refine (rbit_any (i := at_ + k) _ HS.out Hwf.out (by omega)).mono ?_
      rintro e w2 ⟨rfl, rfl⟩
      have hp := pow_le32 (k := k + 1) (by omega)
      rw [Int.pow_succ] at hp
      have hv := Lib.hid (show 2 * takeV l true at_ k + bitAt l true (at_ + k) = takeV l true at_ (k + 1) by rw [takeV, if_pos rfl]; omega)
      go_wp2
      go_roundw
      case rel => exact ⟨k + 1, by omega, by go_num, eint hv.out, trivial⟩
      case measure => simp [intOf]; omega
    · obtain rfl : k = n := by omega
      have hd : decide ((k : Int) < (k : Int)) = false := by simp
      go_wp2
      have r0 : w1.rowIs (w.heap.size + 1) 56 3 (rrF none 0 0 0 false) := by have := Hr1.out; rwa [World.size_alloc] at this
      have r1 := (((r0.of_block (w' := w1.setCell ⟨w.heap.size, 2, none⟩ (.int .i64 ((at_ : Int) + k))) (Below.heap_setCell _ _ _ _ (by simp))).set 0 (.slice A l.length c)).set 1 (.bool true)).set 2 (.int .i64 ((at_ : Int) + k))
      have e0 := r1.cell (i := 0) (by omega)
      have e1 := r1.cell (i := 1) (by omega)
      have e2 := r1.cell (i := 2) (by omega)
      have hb : Below w.heap.size w ((((w1.setCell ⟨w.heap.size, 2, none⟩ (.int .i64 ((at_ : Int) + k))).setCell ⟨w.heap.size + 1, 0, none⟩ (.slice A l.length c)).setCell ⟨w.heap.size + 1, 1, none⟩ (.bool true)).setCell ⟨w.heap.size + 1, 2, none⟩ (.int .i64 ((at_ : Int) + k))) :=
        (((Hb1.out.setCell (by simp) _).setCell (by simp) _).setCell (by simp) _).setCell (by simp) _
      clear r1 r0 Hr1 Hr0 c0 c1 c2 d0 d1 d2 f2 g0 g1 g2
      simp [rrF] at e0 e1 e2
      generalize ((((w1.setCell ⟨w.heap.size, 2, none⟩ (.int .i64 ((at_ : Int) + k))).setCell ⟨w.heap.size + 1, 0, none⟩ (.slice A l.length c)).setCell ⟨w.heap.size + 1, 1, none⟩ (.bool true)).setCell ⟨w.heap.size + 1, 2, none⟩ (.int .i64 ((at_ : Int) + k))) = W at *
      refine bodyPost_ret (v := .tuple #[.agg #[.slice A l.length c, .bool true, .int .i64 ((at_ + k : Nat) : Int)], .int .u32 (takeV l true at_ k), .int .i64 0]) ?_ rfl ⟨rfl, hb⟩
      simp [results, Tryz.results57, go_sem, e0, e1, e2]
set_option maxHeartbeats 1000000 in
theorem rtake_lo {A : Option Addr} {c : Nat} {l : List Int} {at_ : Nat} (w : World) (HA : SI w .u8 A l.length l) (hwf : ∀ x ∈ l, 0 ≤ x ∧ x < 256) (n : Nat) (hn : n ≤ 32) (hl : at_ + n ≤ 8 * l.length) :
    Calls Tryz.prog 57 #[.agg #[.slice A l.length c, .bool false, .int .i64 at_], .int .i64 n] w (RTakePost w A c l at_ false n) := by
  have hbig := HA.bigb
  go_enter Tryz.func57, Tryz.ntmps57
  go_wp2_with fail
  refine (rleft_any _ hbig (by omega)).mono ?_
  rintro e w1 ⟨rfl, hb1⟩
  have hr0 := ((rrF_row A l.length c at_ false w).of_block (w' := w1) (by rw [hb1.block _ (by simp; omega)]; exact Below.heap_alloc _ _ _ (by simp)))
  have hr1 := ((rrF_row none 0 0 0 false (w.alloc (.cells #[.slice A l.length c, .bool false, .int .i64 at_] 56))).of_block (w' := w1) (hb1.block _ (by simp)))
  have HS := Lib.hid (((HA.alloc (.cells #[.slice A l.length c, .bool false, .int .i64 at_] 56)).alloc (.cells #[.slice none 0 0, .bool false, .int .i64 0] 56)).below hb1 (Nat.le_refl _))
  have Hb1 := Lib.hid ((((Below.refl w.heap.size w).alloc (Nat.le_refl _) (.cells #[.slice A l.length c, .bool false, .int .i64 at_] 56)).alloc (by simp) (.cells #[.slice none 0 0, .bool false, .int .i64 0] 56)).trans (hb1.mono (by simp; omega)))
  have c0 := hr0.cell (i := 0) (by omega)
  have c1 := hr0.cell (i := 1) (by omega)
  have c2 := hr0.cell (i := 2) (by omega)
  have d0 := hr1.cell (i := 0) (by omega)
  have d1 := hr1.cell (i := 1) (by omega)
  have d2 := hr1.cell (i := 2) (by omega)
  have f2 := hr0.frozen 2
  have g0 := hr1.frozen 0
  have g1 := hr1.frozen 1
  have g2 := hr1.frozen 2
  simp only [rrF, World.size_alloc] at c0 c1 c2 d0 d1 d2 g0 g1 g2
  have Hwf := Lib.hid hwf
  have Hr0 := Lib.hid hr0
  have Hr1 := Lib.hid hr1
  clear hb1 HA hr0 hr1 hwf
  go_wp2
  go_loopw [7, 8, 9] (fun v i _ wr => ∃ k : Nat, k ≤ n ∧ i = .int .i64 k ∧ v = .int .u32 (takeV l false at_ k) ∧ w1 = wr) (fun _ i _ _ => n - (intOf i).toNat)
  case atStart => exact ⟨0, by omega, rfl, rfl, rfl⟩
  case round =>
    obtain ⟨k, hk, rfl, rfl, rfl⟩ := hrel
    by_cases hlt : k < n
    · have hd : decide ((k : Int) < (n : Int)) = true := by simp; omega
      have htv := takeV_bd l false at_ k
      have hbv := bitAt_bd l false (at_ + k)
      go_wp2_with fail
      refine (rbit_any (i := at_ + k) _ HS.out Hwf.out (by omega)).mono ?_
      rintro e w2 ⟨rfl, rfl⟩
      have hv : Hid ((takeV l false at_ k + bitAt l false (at_ + k) * 2 ^ k % 4294967296) % 4294967296 = takeV l false at_ (k + 1)) := by
        show _ = _
        have hp := pow_le32 (k := k + 1) (by omega)
        rw [Int.pow_succ] at hp
        rw [takeV]
        simp only [Bool.false_eq_true, if_false]
        rcases (by omega : bitAt l false (at_ + k) = 0 ∨ bitAt l false (at_ + k) = 1) with h | h <;> rw [h] <;> omega
      go_wp2
      go_roundw
      case rel => exact ⟨k + 1, by omega, by go_num, eint hv.out, trivial⟩
      case measure => simp [intOf]; omega
    · obtain rfl : k = n := by omega
      have hd : decide ((k : Int) < (k : Int)) = false := by simp
      go_wp2
      have r0 : w1.rowIs (w.heap.size + 1) 56 3 (rrF none 0 0 0 false) := by have := Hr1.out; rwa [World.size_alloc] at this
      have r1 := (((r0.of_block (w' := w1.setCell ⟨w.heap.size, 2, none⟩ (.int .i64 ((at_ : Int) + k))) (Below.heap_setCell _ _ _ _ (by simp))).set 0 (.slice A l.length c)).set 1 (.bool false)).set 2 (.int .i64 ((at_ : Int) + k))
      have e0 := r1.cell (i := 0) (by omega)
      have e1 := r1.cell (i := 1) (by omega)
      have e2 := r1.cell (i := 2) (by omega)
      have hb : Below w.heap.size w ((((w1.setCell ⟨w.heap.size, 2, none⟩ (.int .i64 ((at_ : Int) + k))).setCell ⟨w.heap.size + 1, 0, none⟩ (.slice A l.length c)).setCell ⟨w.heap.size + 1, 1, none⟩ (.bool false)).setCell ⟨w.heap.size + 1, 2, none⟩ (.int .i64 ((at_ : Int) + k))) :=
        (((Hb1.out.setCell (by simp) _).setCell (by simp) _).setCell (by simp) _).setCell (by simp) _
      clear r1 r0 Hr1 Hr0 c0 c1 c2 d0 d1 d2 f2 g0 g1 g2
      simp [rrF] at e0 e1 e2
      generalize ((((w1.setCell ⟨w.heap.size, 2, none⟩ (.int .i64 ((at_ : Int) + k))).setCell ⟨w.heap.size + 1, 0, none⟩ (.slice A l.length c)).setCell ⟨w.heap.size + 1, 1, none⟩ (.bool false)).setCell ⟨w.heap.size + 1, 2, none⟩ (.int .i64 ((at_ : Int) + k))) = W at *
      refine bodyPost_ret (v := .tuple #[.agg #[.slice A l.length c, .bool false, .int .i64 ((at_ + k : Nat) : Int)], .int .u32 (takeV l false at_ k), .int .i64 0]) ?_ rfl ⟨rfl, hb⟩
      simp [results, Tryz.results57, go_sem, e0, e1, e2]
theorem rtake_any {A : Option Addr} {c : Nat} {l : List Int} {at_ : Nat} {up : Bool} (w : World) (HA : SI w .u8 A l.length l) (hwf : ∀ x ∈ l, 0 ≤ x ∧ x < 256) (n : Nat) (hn : n ≤ 32) (hl : at_ + n ≤ 8 * l.length) :
    Calls Tryz.prog 57 #[.agg #[.slice A l.length c, .bool up, .int .i64 at_], .int .i64 n] w (RTakePost w A c l at_ up n) := by
  cases up
  · exact rtake_lo w HA hwf n hn hl
  · exact rtake_up w HA hwf n hn hl
set_option maxHeartbeats 1000000 in
theorem rtake_end {A : Option Addr} {n c at_ : Nat} {up : Bool} (w : World) (hbig : n ≤ 140737488351232) (m : Nat) (hm : m ≤ 32) (ha : at_ ≤ 8 * n) (hl : 8 * n < at_ + m) :
    Calls Tryz.prog 57 #[.agg #[.slice A n c, .bool up, .int .i64 at_], .int .i64 m] w fun e w' => e = .returned (.tuple #[.agg #[.slice A n c, .bool up, .int .i64 at_], .int .u32 0, .int .i64 5]) ∧ Below w.heap.size w w' := by
  go_enter Tryz.func57, Tryz.ntmps57
  go_wp2_with fail
  refine (rleft_any _ hbig (by omega)).mono ?_
  rintro e w1 ⟨rfl, hb1⟩
  have hr0 := ((rrF_row A n c at_ up w).of_block (w' := w1) (by rw [hb1.block _ (by simp; omega)]; exact Below.heap_alloc _ _ _ (by simp)))
  have hr1 := ((rrF_row none 0 0 0 false (w.alloc (.cells #[.slice A n c, .bool up, .int .i64 at_] 56))).of_block (w' := w1) (hb1.block _ (by simp)))
  have Hb1 := Lib.hid ((((Below.refl w.heap.size w).alloc (Nat.le_refl _) (.cells #[.slice A n c, .bool up, .int .i64 at_] 56)).alloc (by simp) (.cells #[.slice none 0 0, .bool false, .int .i64 0] 56)).trans (hb1.mono (by simp; omega)))
  have c0 := hr0.cell (i := 0) (by omega)
  have c1 := hr0.cell (i := 1) (by omega)
  have c2 := hr0.cell (i := 2) (by omega)
  have d0 := hr1.cell (i := 0) (by omega)
  have d1 := hr1.cell (i := 1) (by omega)
  have d2 := hr1.cell (i := 2) (by omega)
  have g0 := hr1.frozen 0
  have g1 := hr1.frozen 1
  have g2 := hr1.frozen 2
  simp only [rrF, World.size_alloc] at c0 c1 c2 d0 d1 d2 g0 g1 g2
  have Hr1 := Lib.hid hr1
  clear hb1 hr0 hr1
  go_wp2
  have r0 : w1.rowIs (w.heap.size + 1) 56 3 (rrF none 0 0 0 false) := by have := Hr1.out; rwa [World.size_alloc] at this
  have r1 := ((r0.set 0 (.slice A n c)).set 1 (.bool up)).set 2 (.int .i64 at_)
  have e0 := r1.cell (i := 0) (by omega)
  have e1 := r1.cell (i := 1) (by omega)
  have e2 := r1.cell (i := 2) (by omega)
  have hb : Below w.heap.size w (((w1.setCell ⟨w.heap.size + 1, 0, none⟩ (.slice A n c)).setCell ⟨w.heap.size + 1, 1, none⟩ (.bool up)).setCell ⟨w.heap.size + 1, 2, none⟩ (.int .i64 at_)) :=
    ((Hb1.out.setCell (by simp) _).setCell (by simp) _).setCell (by simp) _
  clear r1 r0 Hr1 c0 c1 c2 d0 d1 d2 g0 g1 g2
  simp [rrF] at e0 e1 e2
  generalize (((w1.setCell ⟨w.heap.size + 1, 0, none⟩ (.slice A n c)).setCell ⟨w.heap.size + 1, 1, none⟩ (.bool up)).setCell ⟨w.heap.size + 1, 2, none⟩ (.int .i64 at_)) = W at *
  refine bodyPost_ret (v := .tuple #[.agg #[.slice A n c, .bool up, .int .i64 at_], .int .u32 0, .int .i64 5]) ?_ rfl ⟨rfl, hb⟩
  simp [results, Tryz.results57, go_sem, e0, e1, e2]
end Go.Proofs.YtmgbjgjlddifaaaGreat.RefR
