/-
  The walk of the law DeflateAlike.
-/
import Derived.Test.YtmgbjgjlddifaaaZG25
set_option linter.unusedVariables false
set_option linter.unusedSimpArgs false
namespace Go.Proofs.Ytmgbjgjlddifaaa.Law
open Go.RowKit K Pfx Bits Def Wrt Inf

theorem rep_alike (n : Nat) (x : Int) : ∀ i, i < (List.replicate n x).length → (List.replicate n x).getD i 0 = (List.replicate n x).getD 0 0 := fun i hi => by
  rw [List.length_replicate] at hi
  rw [List.getD_eq_getElem?_getD, List.getD_eq_getElem?_getD, List.getElem?_replicate, List.getElem?_replicate, if_pos hi, if_pos (by omega)]
theorem rep_wf {n : Nat} {x : Int} (h : 0 ≤ x ∧ x < 256) : ∀ y ∈ List.replicate n x, 0 ≤ y ∧ y < 256 := fun y hy => by rw [(List.mem_replicate.1 hy).2]; exact h
set_option maxHeartbeats 1000000 in
theorem alike_out {x n : Int} (w : World) (h : n < 0 ∨ 5000 < n) : Calls Try.prog 4 #[.int .u8 x, .int .i64 n] w (LawPost w) := by
  go_enter Try.func4, Try.ntmps4
  go_wp2_with fail
  refine (wakes_any _).mono ?_
  rintro e w1 ⟨rfl, hb1⟩
  have HB1 := Lib.hid hb1
  clear hb1
  rcases h with h | h
  · have d1 : decide (n < 0) = true := decide_eq_true h
    go_wp2_with fail
    go_ret
    exact ⟨rfl, HB1.out⟩
  · have d1 : decide (n < 0) = false := decide_eq_false (by omega)
    have d2 : decide ((5000 : Int) < n) = true := decide_eq_true h
    go_wp2_with fail
    go_ret
    exact ⟨rfl, HB1.out⟩
/-- what is kept of so many bytes of one kind that are deflated -/
theorem alike_str {b x : List Int} {level : Nat} (h : Str b level x) (hl : 1 ≤ level) (ha : ∀ i, i < b.length → b.getD i 0 = b.getD 0 0) (hn : b.length ≤ 5000) : Pk x false (fixBits b) ∧ x.length ≤ 32 + b.length / 64 := ⟨alike_fix h hl ha hn, (small_ok h).2 hl ha⟩
set_option maxRecDepth 20000 in
set_option maxHeartbeats 8000000 in
theorem alike_in {x : Int} {n : Nat} (w : World) (hx : 0 ≤ x ∧ x < 256) (hn : n ≤ 5000) : Calls Try.prog 4 #[.int .u8 x, .int .i64 n] w (LawPost w) := by
  have d1 : decide ((n : Int) < 0) = false := decide_eq_false (by omega)
  have d2 : decide ((5000 : Int) < (n : Int)) = false := decide_eq_false (by omega)
  go_enter Try.func4, Try.ntmps4
  go_wp2_with fail
  refine (wakes_any _).mono ?_
  rintro e w1 ⟨rfl, hb1⟩
  have HB1 := Lib.hid hb1
  have HX := Lib.hid hx
  clear hb1 hx
  go_wp2_with fail
  go_loopw [5, 6] (fun s5 s6 wr => ∃ (k : Nat) (A2 : Option Addr) (c2 : Nat), k ≤ n ∧ s6 = .int .i64 k ∧ s5 = .slice A2 k c2 ∧ wr.ownsRow w1.heap.size 5 1 (.slice A2 k c2) k ((List.replicate k x).map (.int .u8)) ∧ Below w1.heap.size w1 wr) (fun _ s6 _ => n - (intOf s6).toNat)
  case atStart => exact ⟨0, none, 0, by omega, rfl, rfl, World.ownsRow_nil _ _ _ _, Below.refl _ _⟩
  case round =>
    obtain ⟨k, A2, c2, hk, rfl, rfl, ho, hb⟩ := hrel
    have HO := Lib.hid ho
    have HB := Lib.hid hb
    clear ho hb
    by_cases hlt : k < n
    · have hd : decide ((k : Int) < (n : Int)) = true := by simp; omega
      have hbs := HB.out.size
      go_wp2_with (at_builtin; refine wpList_append_sl _ rfl (.tmp 30) (.tmp 32) _ rfl w1.heap.size 5 1 1 _ Try.underlying22 infoU8 rfl (by omega) (.slice A2 k c2) k _ rfl (HO.out.alloc _) _ 1 1 [.int .u8 x] rfl rfl (Bld.Sl.new wr [.int .u8 x] _) ?c1 ?c2 ?c3 ?c4 ?_)
      case c1 => simp [Value.oneCell']
      case c2 => unfold maxLen; omega
      case c3 => omega
      case c4 => simp; omega
      intro v' w5 hown5 hg5 hat5
      obtain ⟨A5, c5, rfl⟩ := own_form hown5
      have HO5 : Hid (w5.ownsRow w1.heap.size 5 1 (.slice A5 (k + 1) c5) (k + 1) ((List.replicate (k + 1) x).map (.int .u8))) := by
        show World.ownsRow _ _ _ _ _ _ _
        rw [List.replicate_succ', List.map_append, List.map_replicate]; exact hown5
      have HB5 : Hid (Below w1.heap.size w1 w5) := (HB.out.alloc hbs _).grown hg5 (by simp; omega) (fun b e => (HO.out.lt b e).1)
      clear hown5 hg5 hat5
      go_wp2_with fail
      go_roundw
      case rel => exact ⟨k + 1, A5, c5, by omega, by go_num, rfl, HO5.out, HB5.out⟩
      case measure => simp [intOf]; omega
    · obtain rfl : k = n := by omega
      have hd : decide ((k : Int) < (k : Int)) = false := by simp
      have hlen : (List.replicate k x).length = k := List.length_replicate
      have hwf := rep_wf (n := k) HX.out
      have hal := rep_alike k x
      generalize List.replicate k x = b at HO hlen hwf hal
      have HLEN := Lib.hid hlen
      have HWF := Lib.hid hwf
      have HAL := Lib.hid hal
      have HS : Hid (SI wr .u8 A2 k b) := SI.of_own HO.out (by show _ * 1 ≤ _; omega)
      have HB2 := Lib.hid (HB1.out.trans (HB.out.mono HB1.out.size))
      clear hlen hwf hal HO HB HB1
      go_wp2_with fail
      refine (ownb_any _ HS.out).mono ?_
      rintro e w2 ⟨A3, c3, rfl, ho3, hb3, hc3⟩
      have HO3 : Hid (SI w2 .u8 A3 k b) := SI.of_own ho3 (by show _ * 1 ≤ _; omega)
      have HS3 := Lib.hid (HS.out.below hb3 (Nat.le_refl _))
      have HB3 := Lib.hid (HB2.out.trans (hb3.mono HB2.out.size))
      clear ho3 hb3 HB2 HS
      go_wp2_with fail
      refine (raw_any (level := 1) w2 HO3.out hc3 (by omega) HWF.out (by omega)).mono ?_
      rintro e w3 ⟨A4, c4, p, rfl, ho4, hb4, hs4⟩
      have hq4 := alike_str hs4 (by omega) HAL.out (by rw [HLEN.out]; exact hn)
      rw [HLEN.out] at hq4
      have HP4 := Lib.hid hq4.1
      have hl4 := hq4.2
      have HO4 : Hid (SI w3 .u8 A4 p.length p) := SI.of_own ho4 (by show _ * 1 ≤ _; omega)
      have HS4 := Lib.hid (HS3.out.below hb4 (Nat.le_refl _))
      have HB4 := Lib.hid (HB3.out.trans (hb4.mono HB3.out.size))
      clear ho4 hb4 hs4 hq4 HB3 HS3 HO3
      go_wp2_with fail
      refine (ownb_any _ HS4.out).mono ?_
      rintro e w4 ⟨A5, c5, rfl, ho5, hb5, hc5⟩
      have HO5 : Hid (SI w4 .u8 A5 k b) := SI.of_own ho5 (by show _ * 1 ≤ _; omega)
      have HP5 := Lib.hid (HO4.out.below hb5 (Nat.le_refl _))
      have HS5 := Lib.hid (HS4.out.below hb5 (Nat.le_refl _))
      have HB5 := Lib.hid (HB4.out.trans (hb5.mono HB4.out.size))
      clear ho5 hb5 HB4 HS4 HO4
      go_wp2_with fail
      refine (raw_any (level := 2) w4 HO5.out hc5 (by omega) HWF.out (by omega)).mono ?_
      rintro e w5 ⟨A6, c6, q, rfl, ho6, hb6, hs6⟩
      have hq6 := alike_str hs6 (by omega) HAL.out (by rw [HLEN.out]; exact hn)
      rw [HLEN.out] at hq6
      have HP6 := Lib.hid hq6.1
      have hl6 := hq6.2
      have HO6 : Hid (SI w5 .u8 A6 q.length q) := SI.of_own ho6 (by show _ * 1 ≤ _; omega)
      have HQ6 := Lib.hid (HP5.out.below hb6 (Nat.le_refl _))
      have HS6 := Lib.hid (HS5.out.below hb6 (Nat.le_refl _))
      have HB6 := Lib.hid (HB5.out.trans (hb6.mono HB5.out.size))
      clear ho6 hb6 hs6 hq6 HB5 HS5 HO5 HP5
      go_wp2_with fail
      refine (rraw_fixed (b := b) (most := k) w5 HQ6.out HP4.out.q.wf HWF.out HP4.out (by rw [HLEN.out]; exact Int.le_refl _) (by omega)).mono ?_
      rintro e w6 ⟨A7, c7, rfl, hs7, hb7⟩
      have HY7 : Hid (SI w6 .u8 A7 b.length b) := hs7
      have HO7 := Lib.hid (HO6.out.below hb7 (Nat.le_refl _))
      have HS7 := Lib.hid (HS6.out.below hb7 (Nat.le_refl _))
      have HB7 := Lib.hid (HB6.out.trans (hb7.mono HB6.out.size))
      clear hs7 hb7 HB6 HS6 HO6 HQ6
      go_wp2_with fail
      refine (rraw_fixed (b := b) (most := k) w6 HO7.out HP6.out.q.wf HWF.out HP6.out (by rw [HLEN.out]; exact Int.le_refl _) (by omega)).mono ?_
      rintro e w7 ⟨A8, c8, rfl, hs8, hb8⟩
      have HY8 : Hid (SI w7 .u8 A8 b.length b) := hs8
      have HZ8 := Lib.hid (HY7.out.below hb8 (Nat.le_refl _))
      have HS8 := Lib.hid (HS7.out.below hb8 (Nat.le_refl _))
      have HB8 := Lib.hid (HB7.out.trans (hb8.mono HB7.out.size))
      clear hs8 hb8 HB7 HS7 HO7 HY7
      have d3 : decide ((p.length : Int) ≤ 32 + (k : Int) / 64) = true := decide_eq_true (by omega)
      have d4 : decide ((q.length : Int) ≤ 32 + (k : Int) / 64) = true := decide_eq_true (by omega)
      go_wp2_with fail
      refine (same_any _ HZ8.out HS8.out).mono ?_
      rintro e w8 ⟨rfl, k8, rfl⟩
      have HS9 := Lib.hid (HS8.out.below (below_drewN (Below.refl _ w7) k8) (Nat.le_refl _))
      have HY9 := Lib.hid (HY8.out.below (below_drewN (Below.refl _ w7) k8) (Nat.le_refl _))
      simp only [decide_true]
      go_wp2_with fail
      refine (same_any _ HY9.out HS9.out).mono ?_
      rintro e w9 ⟨rfl, k9, rfl⟩
      simp only [decide_true]
      go_wp2_with fail
      go_ret
      exact ⟨rfl, below_drewN HB8.out _⟩
theorem deflateAlike_any {x n : Int} (w : World) (hx : 0 ≤ x ∧ x < 256) : Calls Try.prog 4 #[.int .u8 x, .int .i64 n] w fun e w' => e = .returned (.bool true) ∧ Below w.heap.size w w' := by
  by_cases h : n < 0 ∨ 5000 < n
  · exact alike_out w h
  · obtain ⟨k, rfl⟩ := Int.eq_ofNat_of_zero_le (show 0 ≤ n by omega)
    exact alike_in w hx (by omega)
end Go.Proofs.Ytmgbjgjlddifaaa.Law
