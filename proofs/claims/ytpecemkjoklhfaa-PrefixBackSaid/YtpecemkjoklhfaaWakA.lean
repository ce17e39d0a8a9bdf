/-
  Walks: SameInts, and the law's wakes: it answers true.
-/
import Derived.Test.YtpecemkjoklhfaaPfxE
import Derived.Test.YtpecemkjoklhfaaPfxC
import Derived.Test.YtpecemkjoklhfaaBldC
import Derived.Test.YtpecemkjoklhfaaWakM
set_option linter.unusedVariables false
set_option linter.unusedSimpArgs false
namespace Go.Proofs.Ytpecemkjoklhfaa.Wak
open Go.RowKit K Pfx Bits Bld

theorem SI.lit (w : World) (k : IntKind) (l : List Int) (T : TypeId) (h : l.length * kb k ≤ 140737488351232) : SI (w.alloc (.cells (l.map (.int k)).toArray T)) k (some ⟨w.heap.size, 0, none⟩) l.length l :=
  ⟨rfl, h, Sl.new w _ T⟩
set_option maxHeartbeats 1000000 in
theorem sameInts_any {A B : Option Addr} {n c m d : Nat} {l r : List Int} (w : World) (HA : SI w .i64 A n l) (HB : SI w .i64 B m r) :
    Calls Try.prog 20 #[.slice A n c, .slice B m d] w fun e w' => e = .returned (.bool (decide (l = r))) ∧ ∃ k, w' = w.drewN k := by
  have ha := HA.big
  have hb := HB.big
  have la := Lib.hid HA.len
  have lb := Lib.hid HB.len
  generalize hres : decide (l = r) = res
  have HRS := Lib.hid hres
  clear hres
  by_cases hnm : n = m
  · subst hnm
    have hne : ((n : Int) != (n : Int)) = false := by simp
    go_enter Try.func20, Try.ntmps20
    go_wp2
    go_loopw [5] (fun i wr => ∃ k q : Nat, k ≤ n ∧ i = .int .i64 k ∧ w.drewN q = wr ∧ Hid (l.take k = r.take k)) (fun i _ => n - (intOf i).toNat)
    case atStart => exact ⟨0, 0, by omega, rfl, rfl, rfl⟩
    case round =>
      obtain ⟨k, q, hk, rfl, rfl, HK⟩ := hrel
      by_cases hlt : k < n
      · obtain ⟨b1, o1, x, rfl, hc1, hx, _⟩ := HA.cells hlt
        obtain ⟨b2, o2, y, rfl, hc2, hy, _⟩ := HB.cells hlt
        have hd : decide ((k : Int) < (n : Int)) = true := by simp; omega
        by_cases hxy : x = y
        · subst hxy
          have hb : (x != x) = false := by simp
          have hs : Hid (l.take (k+1) = r.take (k+1)) := by show _ = _; rw [take_snoc hx.out, take_snoc hy.out, HK.out]
          go_wp2
          go_quiet (fail)
          go_wp2
          go_roundw
          case rel => exact ⟨k + 1, _, by omega, by go_num, rfl, hs⟩
          case measure => simp [intOf]; omega
        · have hb : (x != y) = true := by simp [hxy]
          have HXY := Lib.hid hxy
          clear hxy
          go_wp2
          go_quiet (fail)
          go_wp2
          go_ret
          have hlr : l ≠ r := fun e => by
            have h1 := hx.out
            rw [e, hy.out] at h1
            injection h1 with h1
            exact HXY.out h1.symm
          rw [← HRS.out, decide_eq_false hlr]
          exact ⟨rfl, q + nq, World.drewN_drewN _ _ _⟩
      · obtain rfl : k = n := by omega
        have hd : decide ((k : Int) < (k : Int)) = false := by simp
        have hlr : l = r := by
          have := HK.out
          rwa [List.take_of_length_le (by rw [la.out]; omega), List.take_of_length_le (by rw [lb.out]; omega)] at this
        have HLR := Lib.hid hlr
        clear hlr
        go_wp2
        go_ret
        rw [← HRS.out, decide_eq_true HLR.out]
        exact ⟨rfl, q, rfl⟩
  · have hne : ((n : Int) != (m : Int)) = true := by simp; omega
    go_enter Try.func20, Try.ntmps20
    go_wp2
    go_ret
    have hlr : l ≠ r := fun e => by have := la.out; rw [e, lb.out] at this; omega
    rw [← HRS.out, decide_eq_false hlr]
    exact ⟨rfl, 0, rfl⟩

theorem chk : checkedOf [2, 1, 3, 3] = 0 := by decide +kernel
theorem rres : roomRes [2, 1, 3, 3] = (0, 0) := by decide +kernel
theorem chk1 : checkedOf [1] = 0 := by decide +kernel
theorem nx1 : nextM [1] (bitAt [64] true) 8 0 = (0, 0, 1) := by decide +kernel
def WakesPost (w : World) (e : Ending) (w' : World) : Prop := e = .returned (.bool true) ∧ Below w.heap.size w w'
set_option maxRecDepth 100000 in
set_option maxHeartbeats 1000000 in
theorem wakes_any (w : World) : Calls Try.prog 10 #[] w (WakesPost w) := by
  go_enter Try.func10, Try.ntmps10
  go_wp2_with fail
  refine (codes_ok (n := 4) (l := [2, 1, 3, 3]) _ (SI.lit w .i64 [2, 1, 3, 3] _ (by decide)) chk).mono ?_
  rintro e w1 ⟨rfl, h1⟩
  have hb1 : Below w.heap.size w w1 := ((Below.refl w.heap.size w).alloc (Nat.le_refl _) _).trans (h1.bel.mono (by simp))
  have k0 := h1.out.cell (i := 0) (by decide)
  have k1 := h1.out.cell (i := 1) (by decide)
  have k2 := h1.out.cell (i := 2) (by decide)
  have k3 := h1.out.cell (i := 3) (by decide)
  have e0 : (if 0 < 4 then codeAt [2, 1, 3, 3] 0 else 0) = 2 := by decide +kernel
  have e1 : (if 1 < 4 then codeAt [2, 1, 3, 3] 1 else 0) = 0 := by decide +kernel
  have e2 : (if 2 < 4 then codeAt [2, 1, 3, 3] 2 else 0) = 6 := by decide +kernel
  have e3 : (if 3 < 4 then codeAt [2, 1, 3, 3] 3 else 0) = 7 := by decide +kernel
  rw [e0] at k0
  rw [e1] at k1
  rw [e2] at k2
  rw [e3] at k3
  simp only [World.size_alloc] at k0 k1 k2 k3
  clear e0 e1 e2 e3 h1
  go_wp2_with fail
  refine (room_any (n := 4) (l := [2, 1, 3, 3]) _ (SI.lit w1 .i64 [2, 1, 3, 3] _ (by decide))).mono ?_
  rintro e w2 ⟨rfl, hw2⟩
  rw [rres]
  have hb2 : Below w.heap.size w w2 := by rw [← hw2]; exact hb1.alloc hb1.size _
  have hq2 : w1.grownBy w2 none := by rw [← hw2]; exact World.grownBy_alloc _ _ _
  replace k0 := hq2.cell k0 (by simp)
  replace k1 := hq2.cell k1 (by simp)
  replace k2 := hq2.cell k2 (by simp)
  replace k3 := hq2.cell k3 (by simp)
  clear hq2 hw2
  go_wp2_with fail
  refine (build_ok (n := 4) (most := 15) (l := [5, 1, 1, 0]) _ (SI.lit w2 .i64 [5, 1, 1, 0] _ (by decide)) (by omega) (by omega) (by omega) (by decide)).mono ?_
  rintro e w3 ⟨hb3, hp3⟩
  have hown3 : (ownA [5, 1, 1, 0] ([5, 1, 1, 0] : List Int).length).length = 3 := by decide
  rw [if_neg (by rw [hown3]; decide)] at hp3
  obtain ⟨b3, o3, hb3b, rfl, hr3, ho3⟩ := hp3
  rw [if_neg (by rw [hown3]; decide), if_neg (by rw [hown3]; decide)] at ho3
  obtain ⟨R, hR, ho3⟩ := ho3
  have hSI3 : SI w3 .i64 (some ⟨b3, 0, none⟩) 4 [1, 2, 2, 0] := by
    have := SI.of_row hr3 (by decide)
    have e : (List.range ([5, 1, 1, 0] : List Int).length).map o3 = [1, 2, 2, 0] := by
      have h0 : ∀ i, i < 4 → o3 i = (([1, 2, 2, 0].getD i 0 : Nat) : Int) := fun i hi => by rw [ho3, hown3]; exact congrArg _ (built hR i hi)
      show [o3 0, o3 1, o3 2, o3 3] = _
      rw [h0 0 (by omega), h0 1 (by omega), h0 2 (by omega), h0 3 (by omega)]; rfl
    rw [e] at this
    exact this
  have hq3 : w2.grownBy w3 none := grown_trans (World.grownBy_alloc w2 _ none) (grown_below hb3 none)
  have hb3' : Below w.heap.size w w3 := (hb2.alloc hb2.size _).trans (hb3.mono (by have := hb2.size; simp; omega))
  replace k0 := hq3.cell k0 (by simp)
  replace k1 := hq3.cell k1 (by simp)
  replace k2 := hq3.cell k2 (by simp)
  replace k3 := hq3.cell k3 (by simp)
  clear hq3 hb3 hb3b hr3 R hR ho3 hown3 hb2 hb1
  go_wp2_with fail
  refine (new_ok (n := 1) (l := [1]) _ (SI.lit w3 .i64 [1] _ (by decide)) chk1).mono ?_
  rintro e w4 ⟨v4, rfl, h4⟩
  have hq4 : w3.grownBy w4 none := grown_trans (World.grownBy_alloc w3 _ none) (grown_below h4.bel none)
  have hb4 : Below w.heap.size w w4 := (hb3'.alloc hb3'.size _).trans (h4.bel.mono (by have := hb3'.size; simp; omega))
  replace k0 := hq4.cell k0 (by simp)
  replace k1 := hq4.cell k1 (by simp)
  replace k2 := hq4.cell k2 (by simp)
  replace k3 := hq4.cell k3 (by simp)
  have hSI4 := (hSI3.alloc (.cells (([1] : List Int).map (.int .i64)).toArray 3)).below h4.bel (Nat.le_refl _)
  obtain ⟨A4, c4, rfl, hD4, hA4⟩ := Dc.of_D1 h4 (by decide)
  rw [World.size_alloc] at hD4
  have hd4 : w3.heap.size + 1 < w4.heap.size := by
    have := World.block_lt_of_cell? w4 _ (hD4.row.cell (i := 0) (by decide))
    simpa using this
  have ha4 : ∀ b off s, A4 = some ⟨b, off, s⟩ → b < w4.heap.size := by
    obtain ⟨b, o, x, rfl, hc, -, -⟩ := hD4.tab.cells (i := 0) (by decide)
    intro b' off s e
    injection e with e
    injection e with e1 e2 e3
    subst e1
    exact World.block_lt_of_cell? w4 _ hc
  have hk4 : w.heap.size + 1 + 2 < w4.heap.size := World.block_lt_of_cell? w4 _ k0
  have Hd4 := Lib.hid hD4
  have Ha4 := Lib.hid ha4
  have Hb4 := Lib.hid hb4
  have Hs4 := Lib.hid hSI4
  have hb34 : b3 < w4.heap.size := by
    obtain ⟨b, o, x, e, hc, -, -⟩ := hSI4.cells (i := 0) (by decide)
    have hlt := World.block_lt_of_cell? w4 _ hc
    injection e with e
    injection e with e1 e2 e3
    simp at hlt; omega
  clear hD4 ha4 hA4 h4 hq4 hb4 hb3' hSI3 hSI4
  go_wp2_with fail
  refine (newReader_any (l := [64]) _ (SI.lit w4 .u8 [64] _ (by decide)) true (by decide)).mono ?_
  rintro e w5 ⟨p, Ar, cr, rfl, hp, hAr, hR, hb5⟩
  have hb5' := hb5
  have hp4 : w4.heap.size < p := by simp at hp; omega
  have hb3p : b3 < p := by omega
  have hq5 : w4.grownBy w5 none := grown_trans (World.grownBy_alloc w4 _ none) (grown_below hb5 none)
  have Hd5 := Lib.hid ((Hd4.out.keep (w' := w5) (hq5.block _ (by simpa using hd4) (by simp)) (fun b off s e hb => hq5.block _ hb (by simp))))
  have hSI5 := Lib.hid ((Hs4.out.alloc (.cells (([64] : List Int).map (.int .u8)).toArray 5)).below hb5 (Nat.le_refl _))
  have Hb5 := Lib.hid ((Hb4.out.alloc Hb4.out.size (.cells (([64] : List Int).map (.int .u8)).toArray 5)).trans (hb5.mono (by have := Hb4.out.size; simp; omega)))
  replace k0 := hq5.cell k0 (by simp)
  replace k1 := hq5.cell k1 (by simp)
  replace k2 := hq5.cell k2 (by simp)
  replace k3 := hq5.cell k3 (by simp)
  have HR5 := Lib.hid hR
  clear hq5 hb5 hb5' hR hAr Hd4 Hs4 Hb4
  go_wp2_with fail
  refine (next_any _ Hd5.out HR5.out (by simp; omega) (fun b off s e => by have := Ha4.out b off s e; omega)).mono ?_
  rintro e w6 ⟨rfl, hR6, hg6⟩
  rw [show 8 * ([64] : List Int).length = 8 from rfl, nx1]
  replace k0 := hg6.cell k0 (by simp; omega)
  replace k1 := hg6.cell k1 (by simp; omega)
  replace k2 := hg6.cell k2 (by simp; omega)
  replace k3 := hg6.cell k3 (by simp; omega)
  have Hb6 := Lib.hid (Hb5.out.trans (below_grown (B := w.heap.size) hg6 (by omega) Hb5.out.size))
  have HS6 := Lib.hid (show SI w6 .i64 (some ⟨b3, 0, none⟩) 4 [1, 2, 2, 0] from ⟨hSI5.out.len, hSI5.out.sz, fun j u hu => by
    obtain ⟨b, off, e, hc⟩ := hSI5.out.sl j u hu
    refine ⟨b, off, e, hg6.cell hc ?_⟩
    have hb3 : b < p := by
      injection e with e
      injection e with e1 e2 e3
      omega
    simp; omega⟩)
  clear hR6 hg6 HR5 Hb5 hSI5 Hd5 Ha4 hp hd4 hk4
  go_wp2_with fail
  refine (sameInts_any (l := [1, 2, 2, 0]) (r := [1, 2, 2, 0]) _ (HS6.out.alloc _) (SI.lit w6 .i64 [1, 2, 2, 0] _ (by decide))).mono ?_
  rintro e w7 ⟨rfl, q7, rfl⟩
  go_wp2
  go_ret
  exact ⟨rfl, below_drewN (Hb6.out.alloc Hb6.out.size _) _⟩
end Go.Proofs.Ytpecemkjoklhfaa.Wak
