/-
  Texts of this claim, joined by program (CatN, Rep, DefU). Walks: slices.Concat of whatever many slices of numbers.
-/
import Derived.Test.YtmgbjgjlddifaaaGreatZG11
import Derived.Test.YtmgbjgjlddifaaaGreatChecked
import Derived.Laws.CopyOwn
import Derived.Deep.RegionLaw
import Derived.Test.YtmgbjgjlddifaaaGreatZG15
set_option linter.unusedVariables false
set_option linter.unusedSimpArgs false
namespace Go.Proofs.YtmgbjgjlddifaaaGreat.Cat
open Go.RowKit K

structure Prt where
  A : Option Addr
  n : Nat
  c : Nat
  l : List Int
def pv (p : Prt) : Value := .slice p.A p.n p.c
def sumN (ps : List Prt) (k : Nat) : Nat := ((ps.take k).map (·.n)).sum
def allN (ps : List Prt) (k : Nat) : List Int := (ps.take k).flatMap (·.l)
theorem sumN_succ {ps : List Prt} {k : Nat} {p : Prt} (h : ps[k]? = some p) : sumN ps (k+1) = sumN ps k + p.n := by unfold sumN; rw [take_snoc h]; simp
theorem allN_succ {ps : List Prt} {k : Nat} {p : Prt} (h : ps[k]? = some p) : allN ps (k+1) = allN ps k ++ p.l := by unfold allN; rw [take_snoc h]; simp
theorem sumN_le (ps : List Prt) (k : Nat) : sumN ps k ≤ (ps.map (·.n)).sum := by
  unfold sumN
  have h : (ps.map (·.n)).sum = ((ps.take k).map (·.n)).sum + ((ps.drop k).map (·.n)).sum := by rw [← List.sum_append_nat, ← List.map_append, List.take_append_drop]
  omega
theorem Sl.lits (w : World) (l : List Value) (T : TypeId) : Sl (w.alloc (.cells l.toArray T)) (some ⟨w.heap.size, 0, none⟩) l := fun j u hu =>
  ⟨w.heap.size, 0, rfl, by rw [World.cell?_alloc_new]; simpa using hu⟩
theorem infoByteN : (Tryz.prog.info? 5).map (fun i => (i.zero, i.size, i.bytes)) = some (some (.int .u8 0), 1, 1) := by kernel_rfl
theorem zerosB (w : World) (k : Nat) (h0 : 0 < k) (hk : k ≤ 1099511627776) : (Builtin.append_ #[22, 3] 22 #[.slice none 0 0, .int .i64 k]).run Tryz.prog w =
    .ok (.slice (some ⟨w.heap.size, 0, none⟩) k (grownCap w k 0 5)) (w.drew.alloc (.cells (Builtin.zeroCells (Value.cells (.int .u8 0)) k ++ Builtin.zeroCells (Value.cells (.int .u8 0)) (grownCap w k 0 5 - k)) 5)) := by
  obtain ⟨i0, hi, hz0, hz1, hz2⟩ := info_parts infoByteN
  exact Lib.run_append_nil_zeros (P := Tryz.prog) w 22 3 22 5 i0 _ .i64 .i64 Tryz.underlying22 Tryz.underlying3 hi hz0 k h0 (by omega) (by omega) (by rw [hz2]; omega)
set_option maxHeartbeats 1000000 in
theorem growB_any (w : World) (k : Nat) (hk : k ≤ 1099511627776) :
    Calls Tryz.prog 33 #[.slice none 0 0, .int .i64 k] w (CatPost w.heap.size 5 1 0 [] w) := by
  rcases Nat.eq_zero_or_pos k with h0 | h0
  · subst h0
    go_enter Tryz.func33, Tryz.ntmps33
    go_wp2
    go_ret
    exact ⟨none, 0, rfl, World.ownsRow_nil _ _ _ _, Below.refl _ _⟩
  · go_enter Tryz.func33, Tryz.ntmps33
    go_wp2_with (at_builtin; refine Lib.wpList_append_run _ rfl (.tmp 20) (.tmp 21) _ _ rfl (.slice none 0 0) (.int .i64 k) rfl rfl _ _ (zerosB _ k h0 hk) ?_)
    have hle := grownCap_le_maxLen w k 0 5 (by unfold maxLen; omega)
    have hge := grownCap_ge w k 0 5
    generalize grownCap w k 0 5 = cp at *
    have HLE := Lib.hid hle
    have HGE := Lib.hid hge
    clear hle hge
    go_wp2
    go_ret
    have hle2 : cp ≤ maxLen := HLE.out
    unfold maxLen at hle2
    have hge := HGE.out
    refine ⟨_, _, rfl, ⟨by simp, .inr ⟨w.heap.size, cp, _, rfl, Nat.le_refl _, heap_alloc_new _ _, by omega, by unfold maxLen; omega, ?_, by simp⟩⟩, ((Below.refl _ _).drew).alloc (Nat.le_refl _) _⟩
    rw [Array.size_append, size_zeroCells, size_zeroCells]
    simp only [List.size_toArray, List.length_cons, List.length_nil]
    omega

set_option maxRecDepth 20000 in
set_option maxHeartbeats 2000000 in
theorem concatIN {A : Option Addr} {c m : Nat} {ps : List Prt} (w : World) (HA : Sl w A (ps.map pv)) (hm : ps.length = m) (HP : ∀ p ∈ ps, SI w .i64 p.A p.n p.l) (hn : (ps.map (·.n)).sum ≤ 1073741824) (hl : m ≤ 1000) :
    Calls Tryz.prog 38 #[.slice A m c] w (CatPost w.heap.size 3 1 (ps.map (·.n)).sum ((ps.flatMap (·.l)).map (.int .i64)) w) := by
  have HPP := Lib.hid HP
  have HAA := Lib.hid HA
  have HM := Lib.hid hm
  have hsl := sumN_le ps
  have hfin : sumN ps m = (ps.map (·.n)).sum := by unfold sumN; rw [List.take_of_length_le (by omega)]
  have hfinl : allN ps m = ps.flatMap (·.l) := by unfold allN; rw [List.take_of_length_le (by omega)]
  have HF := Lib.hid hfin
  have HFL := Lib.hid hfinl
  have HSL := Lib.hid hsl
  clear HA HP hm hfin hfinl hsl
  go_enter Tryz.func38, Tryz.ntmps38
  go_wp2
  go_loop [3, 5, 11] (fun sv _ i => ∃ k : Nat, k ≤ m ∧ i = .int .i64 k ∧ sv = .int .i64 (sumN ps k)) (fun _ _ i => m - (intOf i).toNat)
  case atStart => exact ⟨0, by omega, rfl, rfl⟩
  case round =>
    obtain ⟨k, hk, rfl, rfl⟩ := hrel
    by_cases hkm : k < m
    · obtain ⟨p, hx⟩ : ∃ p, ps[k]? = some p := ⟨_, List.getElem?_eq_getElem (by have := HM.out; omega)⟩
      obtain ⟨b, off, rfl, hc0⟩ := HAA.out k _ (by rw [List.getElem?_map, hx]; rfl)
      have hsu := sumN_succ hx
      have hb1 := HSL.out (k+1)
      have hb0 := HSL.out k
      have d1 : decide ((k : Int) < (m : Int)) = true := decide_eq_true (by omega)
      have hw : IntKind.i64.wrap ((sumN ps k : Int) + (p.n : Int)) = ((sumN ps (k+1) : Nat) : Int) := by rw [IntWalk.i64_in _ (by omega)]; omega
      have d2 : decide (((sumN ps (k+1) : Nat) : Int) < 0) = false := decide_eq_false (by omega)
      have HSU := Lib.hid hsu
      clear hsu hx
      unfold pv at hc0
      go_wp2
      go_round
      case rel => exact ⟨k + 1, by omega, by go_num, rfl⟩
      case measure => simp [intOf]; omega
    · obtain rfl : k = m := by omega
      have d1 : decide ((k : Int) < (k : Int)) = false := decide_eq_false (by omega)
      have hb0 := HSL.out k
      go_wp2_with (go_at_call 66; refine (growI_any _ (sumN ps k) (by omega)).mono ?_; rintro e w1 ⟨A', c', rfl, hown, hbel⟩)
      have HOW := Lib.hid hown
      have HBE := Lib.hid hbel
      clear hown hbel
      go_loopw [6, 8, 27] (fun v _ i wr => ∃ (k2 : Nat) (Ar : Option Addr) (cr : Nat), k2 ≤ k ∧ i = .int .i64 k2 ∧ v = .slice Ar (sumN ps k2) cr ∧ wr.ownsRow w.heap.size 3 1 (.slice Ar (sumN ps k2) cr) (sumN ps k2) ((allN ps k2).map (.int .i64)) ∧ Below w.heap.size w wr) (fun _ _ i _ => k - (intOf i).toNat)
      case atStart => exact ⟨0, A', c', by omega, rfl, rfl, HOW.out, HBE.out⟩
      case round =>
        clear HOW HBE
        obtain ⟨k2, Ar, cr, hk2, rfl, rfl, hown, hbel⟩ := hrel
        have hsz := hbel.size
        by_cases hlt : k2 < k
        · obtain ⟨p, hx⟩ : ∃ p, ps[k2]? = some p := ⟨_, List.getElem?_eq_getElem (by have := HM.out; omega)⟩
          have hmem := List.mem_of_getElem? hx
          obtain ⟨b, off, rfl, hc0⟩ := HAA.out k2 _ (by rw [List.getElem?_map, hx]; rfl)
          have hb := World.block_lt_of_cell? w _ hc0
          have hc1 := (hbel.cell (p := ⟨b, off + k2, none⟩) hb).trans hc0
          have hsp := HPP.out p hmem
          have hlen : (p.l.map (Value.int .i64)).length = p.n * 1 := by rw [List.length_map, hsp.len]; omega
          have HLEN := Lib.hid hlen
          have HSP := Lib.hid (hsp.sl.below hbel (Nat.le_refl _))
          have hsu := sumN_succ hx
          have hal := allN_succ hx
          have hb1 := HSL.out (k2+1)
          have hb0' := HSL.out k2
          have HSU := Lib.hid hsu
          have HAL := Lib.hid hal
          have HOW := Lib.hid hown
          have d2 : decide ((k2 : Int) < (k : Int)) = true := decide_eq_true (by omega)
          clear hsu hal hsp hlen hx hc0 hown
          unfold pv at hc1
          go_wp2_with (at_builtin; refine wpList_append_sl _ rfl (.tmp 31) (.tmp 32) _ rfl w.heap.size 3 1 8 _ Tryz.underlying43 infoInt rfl (by omega) (.slice Ar (sumN ps k2) cr) (sumN ps k2) ((allN ps k2).map (.int .i64)) rfl HOW.out p.A p.n p.c (p.l.map (.int .i64)) rfl HLEN.out HSP.out (ones _ _) ?c1 ?c2 hsz ?_)
          case c1 => have := HSU.out; unfold maxLen; omega
          case c2 => have := HSU.out; omega
          intro v' w2 hown2 hg2 _
          obtain ⟨A3, c3, rfl⟩ := own_form hown2
          have hb2 : Below w.heap.size w w2 := hbel.grown hg2 hsz (fun q hq => (HOW.out.lt q hq).1)
          rw [← HSU.out, ← List.map_append, ← HAL.out] at hown2
          have HO2 := Lib.hid hown2
          have HB2 := Lib.hid hb2
          have hsl : (p.n : Int) + (sumN ps k2 : Int) = (sumN ps (k2+1) : Nat) := by have := HSU.out; omega
          have hsl2 : (Value.slice A3 (sumN ps k2 + p.n) c3) = .slice A3 (sumN ps (k2+1)) c3 := by rw [HSU.out]
          have HSL2 := Lib.hid hsl2
          clear hown2 hb2 hg2 hsl hsl2
          go_wp2
          go_roundw
          case rel => exact ⟨k2 + 1, A3, c3, by omega, by go_num, HSL2.out, HO2.out, HB2.out⟩
          case measure => simp [intOf]; omega
        · obtain rfl : k2 = k := by omega
          have d2 : decide ((k2 : Int) < (k2 : Int)) = false := decide_eq_false (by omega)
          have HOW : Hid (wr.ownsRow w.heap.size 3 1 (.slice Ar (sumN ps k2) cr) (ps.map (·.n)).sum ((ps.flatMap (·.l)).map (.int .i64))) := by
            show World.ownsRow _ _ _ _ _ _ _
            rw [HF.out, HFL.out] at hown
            rw [HF.out]; exact hown
          have hval : (Value.slice Ar (sumN ps k2) cr) = .slice Ar (ps.map (·.n)).sum cr := by rw [HF.out]
          have HV := Lib.hid hval
          clear hown hval
          go_wp2
          go_ret
          refine ⟨Ar, cr, ret1 HV.out, ?_, hbel⟩
          have := HOW.out
          rwa [HV.out] at this

set_option maxRecDepth 20000 in
set_option maxHeartbeats 2000000 in
theorem concatBN {A : Option Addr} {c m : Nat} {ps : List Prt} (w : World) (HA : Sl w A (ps.map pv)) (hm : ps.length = m) (HP : ∀ p ∈ ps, SI w .u8 p.A p.n p.l) (hn : (ps.map (·.n)).sum ≤ 1073741824) (hl : m ≤ 1000) :
    Calls Tryz.prog 13 #[.slice A m c] w (CatPost w.heap.size 5 1 (ps.map (·.n)).sum ((ps.flatMap (·.l)).map (.int .u8)) w) := by
  have HPP := Lib.hid HP
  have HAA := Lib.hid HA
  have HM := Lib.hid hm
  have hsl := sumN_le ps
  have hfin : sumN ps m = (ps.map (·.n)).sum := by unfold sumN; rw [List.take_of_length_le (by omega)]
  have hfinl : allN ps m = ps.flatMap (·.l) := by unfold allN; rw [List.take_of_length_le (by omega)]
  have HF := Lib.hid hfin
  have HFL := Lib.hid hfinl
  have HSL := Lib.hid hsl
  clear HA HP hm hfin hfinl hsl
  go_enter Tryz.func13, Tryz.ntmps13
  go_wp2
  go_loop [3, 5, 11] (fun sv _ i => ∃ k : Nat, k ≤ m ∧ i = .int .i64 k ∧ sv = .int .i64 (sumN ps k)) (fun _ _ i => m - (intOf i).toNat)
  case atStart => exact ⟨0, by omega, rfl, rfl⟩
  case round =>
    obtain ⟨k, hk, rfl, rfl⟩ := hrel
    by_cases hkm : k < m
    · obtain ⟨p, hx⟩ : ∃ p, ps[k]? = some p := ⟨_, List.getElem?_eq_getElem (by have := HM.out; omega)⟩
      obtain ⟨b, off, rfl, hc0⟩ := HAA.out k _ (by rw [List.getElem?_map, hx]; rfl)
      have hsu := sumN_succ hx
      have hb1 := HSL.out (k+1)
      have hb0 := HSL.out k
      have d1 : decide ((k : Int) < (m : Int)) = true := decide_eq_true (by omega)
      have hw : IntKind.i64.wrap ((sumN ps k : Int) + (p.n : Int)) = ((sumN ps (k+1) : Nat) : Int) := by rw [IntWalk.i64_in _ (by omega)]; omega
      have d2 : decide (((sumN ps (k+1) : Nat) : Int) < 0) = false := decide_eq_false (by omega)
      have HSU := Lib.hid hsu
      clear hsu hx
      unfold pv at hc0
      go_wp2
      go_round
      case rel => exact ⟨k + 1, by omega, by go_num, rfl⟩
      case measure => simp [intOf]; omega
    · obtain rfl : k = m := by omega
      have d1 : decide ((k : Int) < (k : Int)) = false := decide_eq_false (by omega)
      have hb0 := HSL.out k
      go_wp2_with (go_at_call 33; refine (growB_any _ (sumN ps k) (by omega)).mono ?_; rintro e w1 ⟨A', c', rfl, hown, hbel⟩)
      have HOW := Lib.hid hown
      have HBE := Lib.hid hbel
      clear hown hbel
      go_loopw [6, 8, 27] (fun v _ i wr => ∃ (k2 : Nat) (Ar : Option Addr) (cr : Nat), k2 ≤ k ∧ i = .int .i64 k2 ∧ v = .slice Ar (sumN ps k2) cr ∧ wr.ownsRow w.heap.size 5 1 (.slice Ar (sumN ps k2) cr) (sumN ps k2) ((allN ps k2).map (.int .u8)) ∧ Below w.heap.size w wr) (fun _ _ i _ => k - (intOf i).toNat)
      case atStart => exact ⟨0, A', c', by omega, rfl, rfl, HOW.out, HBE.out⟩
      case round =>
        clear HOW HBE
        obtain ⟨k2, Ar, cr, hk2, rfl, rfl, hown, hbel⟩ := hrel
        have hsz := hbel.size
        by_cases hlt : k2 < k
        · obtain ⟨p, hx⟩ : ∃ p, ps[k2]? = some p := ⟨_, List.getElem?_eq_getElem (by have := HM.out; omega)⟩
          have hmem := List.mem_of_getElem? hx
          obtain ⟨b, off, rfl, hc0⟩ := HAA.out k2 _ (by rw [List.getElem?_map, hx]; rfl)
          have hb := World.block_lt_of_cell? w _ hc0
          have hc1 := (hbel.cell (p := ⟨b, off + k2, none⟩) hb).trans hc0
          have hsp := HPP.out p hmem
          have hlen : (p.l.map (Value.int .u8)).length = p.n * 1 := by rw [List.length_map, hsp.len]; omega
          have HLEN := Lib.hid hlen
          have HSP := Lib.hid (hsp.sl.below hbel (Nat.le_refl _))
          have hsu := sumN_succ hx
          have hal := allN_succ hx
          have hb1 := HSL.out (k2+1)
          have hb0' := HSL.out k2
          have HSU := Lib.hid hsu
          have HAL := Lib.hid hal
          have HOW := Lib.hid hown
          have d2 : decide ((k2 : Int) < (k : Int)) = true := decide_eq_true (by omega)
          clear hsu hal hsp hlen hx hc0 hown
          unfold pv at hc1
          go_wp2_with (at_builtin; refine wpList_append_sl _ rfl (.tmp 31) (.tmp 32) _ rfl w.heap.size 5 1 1 _ Tryz.underlying22 infoByteN rfl (by omega) (.slice Ar (sumN ps k2) cr) (sumN ps k2) ((allN ps k2).map (.int .u8)) rfl HOW.out p.A p.n p.c (p.l.map (.int .u8)) rfl HLEN.out HSP.out (ones _ _) ?c1 ?c2 hsz ?_)
          case c1 => have := HSU.out; unfold maxLen; omega
          case c2 => have := HSU.out; omega
          intro v' w2 hown2 hg2 _
          obtain ⟨A3, c3, rfl⟩ := own_form hown2
          have hb2 : Below w.heap.size w w2 := hbel.grown hg2 hsz (fun q hq => (HOW.out.lt q hq).1)
          rw [← HSU.out, ← List.map_append, ← HAL.out] at hown2
          have HO2 := Lib.hid hown2
          have HB2 := Lib.hid hb2
          have hsl : (p.n : Int) + (sumN ps k2 : Int) = (sumN ps (k2+1) : Nat) := by have := HSU.out; omega
          have hsl2 : (Value.slice A3 (sumN ps k2 + p.n) c3) = .slice A3 (sumN ps (k2+1)) c3 := by rw [HSU.out]
          have HSL2 := Lib.hid hsl2
          clear hown2 hb2 hg2 hsl hsl2
          go_wp2
          go_roundw
          case rel => exact ⟨k2 + 1, A3, c3, by omega, by go_num, HSL2.out, HO2.out, HB2.out⟩
          case measure => simp [intOf]; omega
        · obtain rfl : k2 = k := by omega
          have d2 : decide ((k2 : Int) < (k2 : Int)) = false := decide_eq_false (by omega)
          have HOW : Hid (wr.ownsRow w.heap.size 5 1 (.slice Ar (sumN ps k2) cr) (ps.map (·.n)).sum ((ps.flatMap (·.l)).map (.int .u8))) := by
            show World.ownsRow _ _ _ _ _ _ _
            rw [HF.out, HFL.out] at hown
            rw [HF.out]; exact hown
          have hval : (Value.slice Ar (sumN ps k2) cr) = .slice Ar (ps.map (·.n)).sum cr := by rw [HF.out]
          have HV := Lib.hid hval
          clear hown hval
          go_wp2
          go_ret
          refine ⟨Ar, cr, ret1 HV.out, ?_, hbel⟩
          have := HOW.out
          rwa [HV.out] at this
end Go.Proofs.YtmgbjgjlddifaaaGreat.Cat
set_option linter.unusedVariables false
set_option linter.unusedSimpArgs false
namespace Go.Proofs.YtmgbjgjlddifaaaGreat.Rep
open Go.RowKit K

theorem mul64_any (w : World) (x y : Nat) (hx : x < 65536) (hy : y < 65536) :
    Calls Tryz.prog 91 #[.int .u64 x, .int .u64 y] w fun e w' => e = .returned (.tuple #[.int .u64 0, .int .u64 ((x : Int) * (y : Int))]) ∧ w = w' := by
  have h1 : x * y < 65536 * 65536 := Nat.mul_lt_mul'' hx hy
  have a1 : bits .and .u64 (x : Int) 4294967295 = (x : Int) := by
    rw [u64_and _ _ (by omega) (by omega) (by omega) (by omega)]
    rw [show (4294967295 : Int).toNat = 2 ^ 32 - 1 from rfl, Int.toNat_natCast, Nat.and_two_pow_sub_one_eq_mod, Nat.mod_eq_of_lt (by omega)]
  have a2 : bits .and .u64 (y : Int) 4294967295 = (y : Int) := by
    rw [u64_and _ _ (by omega) (by omega) (by omega) (by omega)]
    rw [show (4294967295 : Int).toNat = 2 ^ 32 - 1 from rfl, Int.toNat_natCast, Nat.and_two_pow_sub_one_eq_mod, Nat.mod_eq_of_lt (by omega)]
  have a3 : (x : Int) / 4294967296 = 0 := Int.ediv_eq_zero_of_lt (by omega) (by omega)
  have a4 : (y : Int) / 4294967296 = 0 := Int.ediv_eq_zero_of_lt (by omega) (by omega)
  have a5 : IntKind.u64.wrap ((x : Int) * (y : Int)) = (x : Int) * (y : Int) := by
    rw [IntKind.wrap_u64, ← Int.natCast_mul]
    generalize x * y = m at h1 ⊢
    omega
  have a6 : (x : Int) * (y : Int) / 4294967296 = 0 := by
    rw [← Int.natCast_mul]
    generalize x * y = m at h1 ⊢
    omega
  have a7 : IntKind.u64.wrap 0 = 0 := by decide
  have a8 : bits .and .u64 0 4294967295 = 0 := by decide +kernel
  go_enter Tryz.func91, Tryz.ntmps91
  go_wp2
  go_ret2
  exact ⟨rfl, rfl⟩
theorem mul_any (w : World) (x y : Nat) (hx : x < 65536) (hy : y < 65536) :
    Calls Tryz.prog 67 #[.int .u64 x, .int .u64 y] w fun e w' => e = .returned (.tuple #[.int .u64 0, .int .u64 ((x : Int) * (y : Int))]) ∧ w = w' := by
  go_enter Tryz.func67, Tryz.ntmps67
  go_wp2_with (go_at_call 91; refine (mul64_any _ x y hx hy).mono ?_; rintro e w1 ⟨rfl, rfl⟩)
  go_ret2
  exact ⟨rfl, rfl⟩
theorem rep_info : (Tryz.prog.info? 3).map (·.size) = some 1 := by kernel_rfl
/-- what Repeat's loop keeps: n copies, then noughts -/
structure R1 (w wr : World) (v : Int) (c n : Nat) : Prop where
  bel : Below w.heap.size w wr
  row : wr.heap[w.heap.size]? = some (.cells (List.replicate n (Value.int .i64 v) ++ List.replicate (c - n) (Value.int .i64 0)).toArray 3 (0, 0))
def RepPost (w : World) (v : Int) (c : Nat) (e : Ending) (w' : World) : Prop :=
  e = .returned (.slice (some ⟨w.heap.size, 0, none⟩) c c) ∧ R1 w w' v c c
theorem R1.start (w : World) (v : Int) {c : Nat} (h1 : 1 ≤ c) : R1 w (World.setRow (w.alloc (.cells (madeCells #[.int .i64 0] c) 3)) w.heap.size (Value.int .i64 v :: (madeCells #[Value.int .i64 0] c).toList.tail).toArray) v c 1 := by
  refine ⟨below_setRow ((Below.refl _ _).alloc (Nat.le_refl _) _) (Nat.le_refl _) _, ?_⟩
  rw [setRow_heap _ _ _ _ 3 _ (heap_alloc_new _ _)]
  rw [toList_madeCells_one]
  simp
theorem R1.cell {w wr : World} {v : Int} {c n : Nat} (h : R1 w wr v c n) {j : Nat} (hj : j < n) : wr.cell? ⟨w.heap.size, j, none⟩ = some (.int .i64 v) := by
  unfold World.cell?
  simp [h.row, List.getElem?_append, hj]
def repRow (v : Int) (c n : Nat) : List Value := List.replicate n (Value.int .i64 v) ++ List.replicate (c - n) (Value.int .i64 0)
theorem R1.step {w wr : World} {v : Int} {c n m : Nat} (hm : n + m ≤ c) (hb : Below w.heap.size w wr) (hr : wr.heap[w.heap.size]? = some (.cells (splice (repRow v c n) n (List.replicate m (Value.int .i64 v))).toArray 3 (0, 0))) : R1 w wr v c (n + m) := by
  refine ⟨hb, ?_⟩
  rw [hr]
  have e1 : (repRow v c n).take n = List.replicate n (Value.int .i64 v) := by
    unfold repRow; rw [List.take_append_of_le_length (by simp)]; simp
  have e2 : (repRow v c n).drop (n + m) = List.replicate (c - (n + m)) (Value.int .i64 0) := by
    unfold repRow; rw [List.drop_append, List.drop_eq_nil_of_le (by simp)]; simp; omega
  simp only [splice, List.length_replicate, e1, e2, ← List.append_assoc, List.replicate_append_replicate]
set_option maxRecDepth 20000 in
set_option maxHeartbeats 1000000 in
theorem repeat_any {A : Option Addr} {cp c : Nat} {v : Int} (w : World) (HA : SI w .i64 A 1 [v]) (h1 : 1 ≤ c) (h2 : c ≤ 4096) :
    Calls Tryz.prog 39 #[.slice A 1 cp, .int .i64 c] w (RepPost w v c) := by
  obtain ⟨b, off, x, rfl, c0, hx, -⟩ := HA.cells (i := 0) (by omega)
  obtain rfl : v = x := by have := hx.out; simpa using this
  have hb := World.block_lt_of_cell? w _ c0
  have hd : decide ((c : Int) < 0) = false := decide_eq_false (by omega)
  have hmk := fun w => run_make_row' (P := Tryz.prog) 43 3 (.int .i64 0) 8 Tryz.underlying43 Cat.infoInt rfl .i64 .i64 c (by omega) (by omega) w
  have dd : decide ((9223372036854775807 : Int) < (c : Int)) = false := decide_eq_false (by omega)
  have HS := Lib.hid (R1.start w v h1)
  go_enter Tryz.func39, Tryz.ntmps39
  go_wp2_with (first | (go_at_call 67; refine (mul_any _ 1 c (by omega) (by omega)).mono ?_; rintro e w1 ⟨rfl, rfl⟩) | (refine wpList_copy_own rfl (.tmp 31) (.tmp 32) 43 43 rfl 3 Tryz.underlying43 rep_info w.heap.size 0 c c ⟨b, off, none⟩ 1 cp rfl rfl (madeCells #[.int .i64 0] c) 3 (heap_alloc_new _ _) [.int .i64 v] ?h1 ?h2 ?h3 ?h4 ?_))
  case h1 => have := Nat.min_eq_left (a := 1) (b := c) h1; simp [this]
  case h2 =>
    intro j u hu
    have hj : j = 0 := by
      rcases Nat.eq_zero_or_pos j with h | h
      · exact h
      · rw [List.getElem?_eq_none (by simp; omega)] at hu; cases hu
    subst hj
    simp at hu
    subst hu
    exact (((Below.refl w.heap.size w).alloc (Nat.le_refl _) _).cell (p := ⟨b, off + 0, none⟩) hb).trans c0
  case h3 => rw [size_madeCells]; simp; omega
  case h4 => intro u hu; simp at hu; subst hu; rfl
  generalize (World.setRow _ _ _) = W at HS ⊢
  clear hmk c0 hx HA hd dd
  go_loopw [8] (fun si wr => ∃ n : Nat, 1 ≤ n ∧ n ≤ c ∧ si = .int .i64 n ∧ R1 w wr v c n) (fun si _ => c - (intOf si).toNat)
  case atStart => exact ⟨1, by omega, by omega, rfl, HS.out⟩
  case round =>
    clear HS
    obtain ⟨n, n1, n2, rfl, hR⟩ := hrel
    have HR := Lib.hid hR
    clear hR
    by_cases hlt : n < c
    · have d1 : decide ((n : Int) < (c : Int)) = true := decide_eq_true (by omega)
      have i0 : (0 : Int) ≤ (n : Int) := by omega
      have i1 : (n : Int) ≤ (c : Int) := by omega
      go_wp2_with fail
      obtain ⟨m, hm⟩ : ∃ m, m = Nat.min n (c - n) := ⟨_, rfl⟩
      have HM := Lib.hid hm
      have hm1 : 1 ≤ m ∧ m ≤ n ∧ n + m ≤ c := by rw [hm]; rcases Nat.le_total n (c - n) with h | h; rw [show Nat.min n (c - n) = n from Nat.min_eq_left h]; omega; rw [show Nat.min n (c - n) = c - n from Nat.min_eq_right h]; omega
      have hne : ¬ c = n := by omega
      have hrow : Hid (wr.drew.heap[w.heap.size]? = some (.cells (repRow v c n).toArray 3 (0, 0))) := HR.out.row
      clear hm
      have HL : Hid ((List.replicate m (Value.int .i64 v)).length = Nat.min n (c - n)) := by show _ = _; rw [List.length_replicate]; exact HM.out
      have HC : Hid (0 < (List.replicate m (Value.int .i64 v)).length → (some (⟨w.heap.size, n, none⟩ : Addr)) = some ⟨w.heap.size, n, none⟩ ∧ ∃ ad, (some (⟨w.heap.size, 0, none⟩ : Addr)) = some ad ∧ ∀ j u, (List.replicate m (Value.int .i64 v))[j]? = some u → wr.drew.cell? (ad.add j) = some u) := fun _ => ⟨rfl, _, rfl, fun j u hu => by
        rw [List.getElem?_replicate] at hu
        by_cases hj : j < m
        · rw [if_pos hj] at hu; injection hu with hu; subst hu
          have := HR.out.cell (j := j) (by omega)
          rw [Addr.add_lit, Nat.zero_add]; exact this
        · rw [if_neg hj] at hu; cases hu⟩
      have HFIT : Hid (n + (List.replicate m (Value.int .i64 v)).length ≤ (repRow v c n).length) := by show _ ≤ _; unfold repRow; simp; omega
      have HONE : Hid (∀ u ∈ List.replicate m (Value.int .i64 v), u.oneCell' = true) := fun u hu => by rw [List.eq_of_mem_replicate hu]; rfl
      have HBD := Lib.hid HR.out.bel.drew
      go_region_law (refine step_copy_splice rfl (.tmp 41) (.tmp 44) 43 43 rfl 3 Tryz.underlying43 rep_info (some ⟨w.heap.size, n, none⟩) (some ⟨w.heap.size, 0, none⟩) (c - n) (c - n) n c (by simp [Act.eval, Act.put]) (by simp [Act.eval, Act.put]) w.heap.size n (repRow v c n) 3 hrow.out (List.replicate m (Value.int .i64 v)) HL.out HC.out HFIT.out HONE.out w.heap.size w HBD.out (Nat.le_refl _) ?_; intro w4 hg4 hb4)
      have HR4 := Lib.hid (R1.step (by omega) hb4 hg4.out)
      have hgo : goInt ((List.replicate m (Value.int .i64 v)).length : Int) = .int .i64 (m : Int) := by rw [List.length_replicate]; rfl
      have hwr : IntKind.i64.wrap ((n : Int) + (m : Int)) = ((n + m : Nat) : Int) := by rw [IntWalk.i64_in _ (by omega)]; omega
      clear hb4 hg4 hne d1 i0 i1
      go_wp2
      go_roundw
      case rel => exact ⟨n + m, by omega, by omega, by first | rfl | (rw [hwr]) | go_num, HR4.out⟩
      case measure => simp [intOf, hwr]; omega
    · obtain rfl : n = c := by omega
      have d1 : decide ((n : Int) < (n : Int)) = false := decide_eq_false (by omega)
      go_wp2
      go_ret
      exact ⟨rfl, HR.out⟩
end Go.Proofs.YtmgbjgjlddifaaaGreat.Rep
set_option linter.unusedVariables false
set_option linter.unusedSimpArgs false
namespace Go.Proofs.YtmgbjgjlddifaaaGreat.Def
open Go.RowKit K Bits Wrt Pfx Bak Rep Cat

theorem R1_si {w w' : World} {v : Int} {c : Nat} (h : R1 w w' v c c) (hc : c ≤ 4096) : SI w' .i64 (some ⟨w.heap.size, 0, none⟩) c (List.replicate c v) :=
  ⟨by simp, by show _ * 8 ≤ _; omega, fun j u hu => by
    have hj : j < c := by
      rcases Nat.lt_or_ge j c with h1 | h1
      · exact h1
      · rw [List.getElem?_eq_none (by simp; omega)] at hu; cases hu
    refine ⟨_, 0, rfl, ?_⟩
    rw [List.map_replicate, List.getElem?_replicate, if_pos hj] at hu
    injection hu with hu
    subst hu
    rw [Nat.zero_add]
    exact h.cell hj⟩
theorem si_one (w : World) (v : Int) (T : TypeId) : SI (w.alloc (.cells #[.int .i64 v] T)) .i64 (some ⟨w.heap.size, 0, none⟩) 1 [v] := SI.lit0 w .i64 [v] T (by show 1 * 8 ≤ _; omega)
theorem repeat_si {cp c : Nat} {v : Int} (w w0 : World) (hw : w = w0.alloc (.cells #[.int .i64 v] 3)) (h1 : 1 ≤ c) (h2 : c ≤ 4096) :
    Calls Tryz.prog 39 #[.slice (some ⟨w0.heap.size, 0, none⟩) 1 cp, .int .i64 c] w fun e w' => ∃ X, w0.heap.size ≤ X ∧ e = .returned (.slice (some ⟨X, 0, none⟩) c c) ∧ SI w' .i64 (some ⟨X, 0, none⟩) c (List.replicate c v) ∧ Below w0.heap.size w0 w' := by
  subst hw
  refine (repeat_any _ (si_one w0 v 3) h1 h2).mono ?_
  rintro e w' ⟨rfl, h⟩
  exact ⟨_, by simp, rfl, R1_si h h2, ((Below.refl _ _).alloc (Nat.le_refl _) _).trans (h.bel.mono (by simp))⟩
structure FixP (w : World) (XL XD : Option Addr) (w' : World) : Prop where
  bel : Below w.heap.size w w'
  l : SI w' .i64 XL 288 fixL
  d : SI w' .i64 XD 30 fixD
  lo : ∀ b o s, XL = some ⟨b, o, s⟩ → w.heap.size ≤ b
  do_ : ∀ b o s, XD = some ⟨b, o, s⟩ → w.heap.size ≤ b
def FixPost (w : World) (e : Ending) (w' : World) : Prop := ∃ XL cl XD cd, e = .returned (.tuple #[.slice XL 288 cl, .slice XD 30 cd]) ∧ FixP w XL XD w'
theorem fix_cat {X1 X2 X3 X4 : Nat} (w : World) (T : TypeId) (h1 : SI w .i64 (some ⟨X1, 0, none⟩) 144 (List.replicate 144 8)) (h2 : SI w .i64 (some ⟨X2, 0, none⟩) 112 (List.replicate 112 9)) (h3 : SI w .i64 (some ⟨X3, 0, none⟩) 24 (List.replicate 24 7)) (h4 : SI w .i64 (some ⟨X4, 0, none⟩) 8 (List.replicate 8 8)) :
    Calls Tryz.prog 38 #[.slice (some ⟨w.heap.size, 0, none⟩) 4 4] (w.alloc (.cells #[.slice (some ⟨X1, 0, none⟩) 144 144, .slice (some ⟨X2, 0, none⟩) 112 112, .slice (some ⟨X3, 0, none⟩) 24 24, .slice (some ⟨X4, 0, none⟩) 8 8] T))
      fun e w' => ∃ A c, e = .returned (.slice A 288 c) ∧ SI w' .i64 A 288 fixL ∧ Below w.heap.size w w' ∧ ∀ b o s, A = some ⟨b, o, s⟩ → w.heap.size ≤ b := by
  have hps := concatIN (ps := [⟨some ⟨X1, 0, none⟩, 144, 144, List.replicate 144 8⟩, ⟨some ⟨X2, 0, none⟩, 112, 112, List.replicate 112 9⟩, ⟨some ⟨X3, 0, none⟩, 24, 24, List.replicate 24 7⟩, ⟨some ⟨X4, 0, none⟩, 8, 8, List.replicate 8 8⟩]) (c := 4)
    (w.alloc (.cells #[.slice (some ⟨X1, 0, none⟩) 144 144, .slice (some ⟨X2, 0, none⟩) 112 112, .slice (some ⟨X3, 0, none⟩) 24 24, .slice (some ⟨X4, 0, none⟩) 8 8] T)) (A := some ⟨w.heap.size, 0, none⟩) (m := 4)
    (Cat.Sl.lits w [.slice (some ⟨X1, 0, none⟩) 144 144, .slice (some ⟨X2, 0, none⟩) 112 112, .slice (some ⟨X3, 0, none⟩) 24 24, .slice (some ⟨X4, 0, none⟩) 8 8] T) rfl
    (fun p hp => by
      simp only [List.mem_cons, List.not_mem_nil, or_false] at hp
      rcases hp with rfl | rfl | rfl | rfl
      · exact h1.alloc _
      · exact h2.alloc _
      · exact h3.alloc _
      · exact h4.alloc _) (by show 288 ≤ 1073741824; omega) (by omega)
  refine hps.mono ?_
  rintro e w' ⟨A, c, rfl, ho, hb⟩
  have e1 : (List.map (fun x : Prt => x.n) [⟨some ⟨X1, 0, none⟩, 144, 144, List.replicate 144 8⟩, ⟨some ⟨X2, 0, none⟩, 112, 112, List.replicate 112 9⟩, ⟨some ⟨X3, 0, none⟩, 24, 24, List.replicate 24 7⟩, ⟨some ⟨X4, 0, none⟩, 8, 8, List.replicate 8 8⟩]).sum = 288 := rfl
  have e2 : List.flatMap (fun x : Prt => x.l) [⟨some ⟨X1, 0, none⟩, 144, 144, List.replicate 144 8⟩, ⟨some ⟨X2, 0, none⟩, 112, 112, List.replicate 112 9⟩, ⟨some ⟨X3, 0, none⟩, 24, 24, List.replicate 24 7⟩, ⟨some ⟨X4, 0, none⟩, 8, 8, List.replicate 8 8⟩] = fixL := by
    unfold fixL; simp only [List.flatMap_cons, List.flatMap_nil, List.append_nil, List.append_assoc]
  rw [e1, e2] at ho
  rw [e1]
  refine ⟨A, c, rfl, SI.of_own ho (by show 288 * 8 ≤ _; omega), ((Below.refl _ _).alloc (Nat.le_refl _) _).trans (hb.mono (by simp)), fun b o s hA => ?_⟩
  subst hA
  have := ho.lt b (by rfl)
  simp at this
  omega
set_option maxRecDepth 20000 in
set_option maxHeartbeats 2000000 in
theorem fixed_any (w : World) : Calls Tryz.prog 18 #[] w (FixPost w) := by
  go_enter Tryz.func18, Tryz.ntmps18
  go_wp2_with fail
  refine (repeat_si (c := 144) _ w rfl (by omega) (by omega)).mono ?_
  rintro e w1 ⟨X1, hx1, rfl, hs1, hb1⟩
  have HS1 := Lib.hid hs1
  have HB1 := Lib.hid hb1
  clear hs1 hb1
  go_wp2_with fail
  refine (repeat_si (c := 112) _ w1 rfl (by omega) (by omega)).mono ?_
  rintro e w2 ⟨X2, hx2, rfl, hs2, hb2⟩
  have HS2 := Lib.hid hs2
  have HB2 := Lib.hid hb2
  clear hs2 hb2
  go_wp2_with fail
  refine (repeat_si (c := 24) _ w2 rfl (by omega) (by omega)).mono ?_
  rintro e w3 ⟨X3, hx3, rfl, hs3, hb3⟩
  have HS3 := Lib.hid hs3
  have HB3 := Lib.hid hb3
  clear hs3 hb3
  go_wp2_with fail
  refine (repeat_si (c := 8) _ w3 rfl (by omega) (by omega)).mono ?_
  rintro e w4 ⟨X4, hx4, rfl, hs4, hb4⟩
  have HS4 := Lib.hid hs4
  have HB4 := Lib.hid hb4
  clear hs4 hb4
  go_wp2_with fail
  have hb24 := HB3.out.trans (HB4.out.mono HB3.out.size)
  have hb14 := HB2.out.trans (hb24.mono HB2.out.size)
  have HB14 := Lib.hid (HB1.out.trans (hb14.mono HB1.out.size))
  have HT1 := Lib.hid (HS1.out.below hb14 (Nat.le_refl _))
  have HT2 := Lib.hid (HS2.out.below hb24 (Nat.le_refl _))
  have HT3 := Lib.hid (HS3.out.below HB4.out (Nat.le_refl _))
  clear hb24 hb14 HS1 HS2 HS3
  refine (fix_cat w4 _ HT1.out HT2.out HT3.out HS4.out).mono ?_
  rintro e w5 ⟨A5, c5, rfl, hs5, hb5, hlo5⟩
  have HS5 := Lib.hid hs5
  have HB5 := Lib.hid (HB14.out.trans (hb5.mono HB14.out.size))
  have HLO := Lib.hid hlo5
  have HZ := Lib.hid HB14.out.size
  clear hs5 hb5 hlo5
  go_wp2_with fail
  refine (repeat_si (c := 30) _ w5 rfl (by omega) (by omega)).mono ?_
  rintro e w6 ⟨X6, hx6, rfl, hs6, hb6⟩
  have HS6 := Lib.hid hs6
  have HB6 := Lib.hid hb6
  clear hs6 hb6
  go_wp2
  go_ret2
  refine ⟨_, _, _, _, rfl, HB5.out.trans (HB6.out.mono HB5.out.size), HS5.out.below HB6.out (Nat.le_refl _), HS6.out, fun b o s h => ?_, fun b o s h => ?_⟩
  · exact Nat.le_trans HZ.out (HLO.out b o s h)
  · injection h with h
    injection h with h _ _
    have := HB5.out.size
    omega
end Go.Proofs.YtmgbjgjlddifaaaGreat.Def
