/-
  Texts of this claim, joined by program (PnmB, PnmC, AroB, AroF, AroI, AroJ). Walks: the reference's reading of gaps and numbers.
-/
import Derived.Test.YtbmlopklhgladaaDoorZG4
import Derived.StillTailTactics
import Derived.BigRegion
import Derived.Deep.RegionHeld3
set_option linter.unusedVariables false
set_option linter.unusedSimpArgs false
namespace Go.Proofs.YtbmlopklhgladaaDoor.Pnm
open Go.RowKit K

/-- the cell of the byte at a place -/
theorem byte_at {w : World} {A : Option Addr} {n a : Nat} {l : List Int} (h : SI w .u8 A n l) (ha : a < n) : ∃ b o, A = some ⟨b, o, none⟩ ∧ w.cell? ⟨b, o + a, none⟩ = some (.int .u8 (l.getD a 0)) := by
  have hl := h.len
  obtain ⟨b, o, hA, hc⟩ := h.sl a (.int .u8 (l.getD a 0)) (by rw [List.getElem?_map, List.getD_eq_getElem?_getD, List.getElem?_eq_getElem (by omega)]; rfl)
  exact ⟨b, o, hA, hc⟩
theorem getD_wf {l : List Int} (hwf : ∀ x ∈ l, 0 ≤ x ∧ x < 256) (a : Nat) : 0 ≤ l.getD a 0 ∧ l.getD a 0 < 256 := by
  rw [List.getD_eq_getElem?_getD]
  cases h : l[a]? with
  | none => simp
  | some x => exact hwf x (List.mem_of_getElem? h)
set_option maxRecDepth 20000 in
set_option maxHeartbeats 4000000 in
theorem gap_any {A : Option Addr} {n c a : Nat} {l : List Int} (w : World) (HA : SI w .u8 A n l) :
    Calls Tryd.prog 45 #[.slice A n c, .int .i64 a] w fun e w' => e = .returned (.int .i64 (ixI (gapM l a))) ∧ w = w' := by
  have HAA := Lib.hid HA
  have HLEN := Lib.hid HA.len
  have hbig := HA.bigb
  clear HA
  go_enter Tryd.func45, Tryd.ntmps45
  go_wp2
  go_loopw [5] (fun si wr => ∃ k : Nat, a ≤ k ∧ (k ≤ n ∨ k = a) ∧ si = .int .i64 k ∧ Hid (gapM l a = gapM l k) ∧ w = wr) (fun si _ => n - (intOf si).toNat)
  case atStart => exact ⟨a, by omega, by omega, rfl, rfl, rfl⟩
  case round =>
    obtain ⟨k, hk1, hk2, rfl, HG, rfl⟩ := hrel
    by_cases hlt : k < n
    · have d1 : decide ((k : Int) < (n : Int)) = true := decide_eq_true (by omega)
      obtain ⟨b1, o1, hA1, hcell⟩ := byte_at HAA.out hlt
      subst hA1
      have hkl : k < l.length := by have := HLEN.out; omega
      obtain ⟨x, hx⟩ : ∃ x, l.getD k 0 = x := ⟨_, rfl⟩
      rw [hx] at hcell
      have HX := Lib.hid hx
      clear hx
      go_wp2_with fail
      refine (space_any x w).mono ?_
      rintro e w' ⟨rfl, rfl⟩
      by_cases hs : spaceB x = true
      · rw [hs]
        have HN : Hid (gapM l a = gapM l (k + 1)) := by show _ = _; rw [HG.out, gapM_space hkl (by rw [HX.out]; exact hs)]
        go_wp2
        go_roundw
        case rel => exact ⟨k + 1, by omega, by omega, by go_num, HN, trivial⟩
        case measure => simp [intOf]; omega
      · rw [Bool.eq_false_iff.2 hs]
        by_cases h35 : x = 35
        · have d2 : (x != 35) = false := by simp [h35]
          have HC : Hid (l.getD k 0 = 35) := HX.out.trans h35
          go_wp2_with fail
          go_loopw [5] (fun si wr => ∃ j : Nat, k ≤ j ∧ j ≤ n ∧ si = .int .i64 j ∧ Hid ((j = k ∨ k + 1 ≤ j) ∧ (j ≠ k → nlM l (k + 1) = nlM l j)) ∧ w = wr) (fun si _ => n - (intOf si).toNat)
          case atStart => exact ⟨k, by omega, by omega, rfl, ⟨.inl rfl, fun h => absurd rfl h⟩, rfl⟩
          case round =>
            clear hcell d2
            obtain ⟨j, hj1, hj2, rfl, HJ, rfl⟩ := hrel
            obtain ⟨hja, hjb⟩ := HJ.out
            clear HJ
            have HJB := Lib.hid hjb
            clear hjb
            by_cases hjn : j < n
            · have e1 : decide ((j : Int) < (n : Int)) = true := decide_eq_true (by omega)
              have hjl : j < l.length := by have := HLEN.out; omega
              obtain ⟨b2, o2, hA2, hcell⟩ := byte_at HAA.out hjn
              injection hA2 with hA2
              injection hA2 with q1 q2 q3
              subst q1 q2
              obtain ⟨y, hy⟩ : ∃ y, l.getD j 0 = y := ⟨_, rfl⟩
              rw [hy] at hcell
              have HY := Lib.hid hy
              clear hy
              by_cases h10 : y = 10
              · have e2 : (y != 10) = false := by simp [h10]
                have e3 : decide ((n : Int) ≤ (j : Int)) = false := decide_eq_false (by omega)
                have hjk : j ≠ k := fun e => by have := HC.out; rw [← e, HY.out] at this; omega
                have HN : Hid (gapM l a = gapM l j) := by
                  show _ = _
                  rw [HG.out]
                  exact gapM_line hkl HC.out (by rw [HJB.out hjk]; exact nlM_hit hjl (.inl (by rw [HY.out]; exact h10)))
                go_wp2
                go_roundw
                case rel => exact ⟨j, by omega, by omega, rfl, HN, trivial⟩
                case measure => simp [intOf]; omega
              · have e2 : (y != 10) = true := by simp [h10]
                by_cases h13 : y = 13
                · have e4 : (y != 13) = false := by simp [h13]
                  have e3 : decide ((n : Int) ≤ (j : Int)) = false := decide_eq_false (by omega)
                  have hjk : j ≠ k := fun e => by have := HC.out; rw [← e, HY.out] at this; omega
                  have HN : Hid (gapM l a = gapM l j) := by
                    show _ = _
                    rw [HG.out]
                    exact gapM_line hkl HC.out (by rw [HJB.out hjk]; exact nlM_hit hjl (.inr (by rw [HY.out]; exact h13)))
                  go_wp2
                  go_roundw
                  case rel => exact ⟨j, by omega, by omega, rfl, HN, trivial⟩
                  case measure => simp [intOf]; omega
                · have e4 : (y != 13) = true := by simp [h13]
                  have HN : Hid ((j + 1 = k ∨ k + 1 ≤ j + 1) ∧ (j + 1 ≠ k → nlM l (k + 1) = nlM l (j + 1))) := ⟨by omega, fun _ => by
                    by_cases hjk : j = k
                    · rw [hjk]
                    · rw [HJB.out hjk]; exact nlM_step hjl (by rw [HY.out]; omega)⟩
                  go_wp2
                  go_roundw
                  case rel => exact ⟨j + 1, by omega, by omega, by go_num, HN, trivial⟩
                  case measure => simp [intOf]; omega
            · have e1 : decide ((j : Int) < (n : Int)) = false := decide_eq_false (by omega)
              have e3 : decide ((n : Int) ≤ (j : Int)) = true := decide_eq_true (by omega)
              have HN : Hid (gapM l a = none) := by
                show _ = _
                rw [HG.out]
                refine gapM_none hkl HC.out ?_
                rw [HJB.out (by omega)]
                exact nlM_end (by have := HLEN.out; omega)
              go_wp2
              go_ret
              exact ⟨by rw [HN.out]; rfl, rfl⟩
        · have d2 : (x != 35) = true := by simp [h35]
          have HN : Hid (gapM l a = some k) := by show _ = _; rw [HG.out, gapM_stop hkl (by rw [HX.out]; exact hs) (by rw [HX.out]; exact h35)]
          go_wp2_with fail
          go_ret
          exact ⟨by rw [HN.out]; rfl, rfl⟩
    · have d1 : decide ((k : Int) < (n : Int)) = false := decide_eq_false (by omega)
      have HN : Hid (gapM l a = some k) := by show _ = _; rw [HG.out, gapM_end (by have := HLEN.out; omega)]
      go_wp2
      go_ret
      exact ⟨by rw [HN.out]; rfl, rfl⟩
theorem dig_ge {x : Int} (h : digB x = true) : 48 ≤ x ∧ x ≤ 57 := by unfold digB at h; simpa using h
set_option maxRecDepth 20000 in
set_option maxHeartbeats 4000000 in
theorem number_any {A : Option Addr} {n c a : Nat} {l : List Int} (w : World) (HA : SI w .u8 A n l) (ha : a ≤ n) :
    Calls Tryd.prog 46 #[.slice A n c, .int .i64 a] w fun e w' => e = .returned (.tuple #[.int .i64 (numI (numM l a)).1, .int .i64 (numI (numM l a)).2]) ∧ w = w' := by
  have HAA := Lib.hid HA
  have HLEN := Lib.hid HA.len
  have hbig := HA.bigb
  clear HA
  go_enter Tryd.func46, Tryd.ntmps46
  go_wp2
  go_loopw [6, 7] (fun sv si wr => ∃ k : Nat, k ≤ 10 ∧ a + k ≤ n ∧ sv = .int .i64 (valM l a k) ∧ si = .int .i64 ((a + k : Nat) : Int) ∧ Hid (AllD l a k) ∧ w = wr) (fun _ si _ => n - (intOf si).toNat)
  case atStart => exact ⟨0, by omega, by omega, rfl, rfl, AllD.nil l a (by have := HLEN.out; omega), rfl⟩
  case round =>
    obtain ⟨k, hk1, hk2, rfl, rfl, HD, rfl⟩ := hrel
    have hv := HD.out.val
    have hp : (10 : Int) ^ k ≤ 10 ^ 10 := by
      have h2 := Nat.pow_le_pow_right (n := 10) (by omega) hk1
      have : ((10 ^ k : Nat) : Int) ≤ ((10 ^ 10 : Nat) : Int) := by exact_mod_cast h2
      simpa using this
    have hv2 : valM l a k < 10000000000 := by
      have : (10 : Int) ^ 10 = 10000000000 := by decide
      omega
    have hv1 := hv.1
    clear hv hp
    have hend : ∀ (HE : k = 10 ∨ (k ≤ 9 ∧ (l.length ≤ a + k ∨ ¬ digB (l.getD (a + k) 0) = true))), Hid (numI (numM l a) = if k = 0 ∨ k = 10 then (0, -1) else (valM l a k, ((a + k : Nat) : Int))) := fun HE => by
      show _ = _
      rcases HE with rfl | ⟨h9, he⟩
      · rw [numM_ten HD.out, if_pos (.inr rfl)]; rfl
      · rw [numM_at HD.out h9 he]
        by_cases h0 : k = 0
        · rw [if_pos h0, if_pos (.inl h0)]; rfl
        · rw [if_neg h0, if_neg (by omega)]; rfl
    have HEND := Lib.hid hend
    clear hend
    by_cases hlt : a + k < n
    · have d1 : decide (((a + k : Nat) : Int) < (n : Int)) = true := decide_eq_true (by omega)
      by_cases h10 : k < 10
      · have d2 : decide (((a + k : Nat) : Int) < (a : Int) + 10) = true := decide_eq_true (by omega)
        obtain ⟨b1, o1, hA1, hcell⟩ := byte_at HAA.out hlt
        subst hA1
        obtain ⟨x, hx⟩ : ∃ x, l.getD (a + k) 0 = x := ⟨_, rfl⟩
        rw [hx] at hcell
        have HX := Lib.hid hx
        clear hx
        by_cases hs : digB x = true
        · have hsx := dig_ge hs
          have d3 : decide (48 ≤ x) = true := decide_eq_true hsx.1
          have d4 : decide (x ≤ 57) = true := decide_eq_true hsx.2
          have HN : Hid (AllD l a (k + 1)) := HD.out.snoc (by have := HLEN.out; omega) (by rw [HX.out]; exact hs)
          have HV : Hid (valM l a (k + 1) = 10 * valM l a k + (x - 48)) := by show _ = _; rw [valM, HX.out]
          generalize valM l a k = v at hv1 hv2 HV HEND
          go_wp2
          refine ⟨⟨k + 1, by omega, by omega, by rw [HV.out], by go_num, HN, trivial⟩, ?_⟩
          simp [intOf]; omega
        · have HSX : Hid (¬ digB x = true) := hs
          by_cases h48 : 48 ≤ x
          · have d3 : decide (48 ≤ x) = true := decide_eq_true h48
            have d4 : decide (x ≤ 57) = false := decide_eq_false (fun h => hs (by unfold digB; simp [h48, h]))
            clear hs
            have HE := Lib.hid (HEND.out (.inr ⟨by omega, .inr (by rw [HX.out]; exact HSX.out)⟩)).out
            generalize valM l a k = v at hv1 hv2 HE HEND
            clear HEND
            by_cases h0 : k = 0
            · subst h0
              rw [if_pos (.inl rfl)] at HE
              have f1 : ((a : Int) == (a : Int)) = true := by simp
              try simp only [Nat.add_zero] at hcell
              go_wp2
              go_ret2
              exact ⟨by rw [HE.out]; rfl, rfl⟩
            · rw [if_neg (by omega)] at HE
              have f1 : ((a : Int) + (k : Int) == (a : Int)) = false := by simp; omega
              have f2 : ((a : Int) + (k : Int) == (a : Int) + 10) = false := by simp; omega
              go_wp2
              go_ret2
              exact ⟨by rw [HE.out]; rfl, rfl⟩
          · have d3 : decide (48 ≤ x) = false := decide_eq_false h48
            clear hs
            have HE := Lib.hid (HEND.out (.inr ⟨by omega, .inr (by rw [HX.out]; exact HSX.out)⟩)).out
            generalize valM l a k = v at hv1 hv2 HE HEND
            clear HEND
            by_cases h0 : k = 0
            · subst h0
              rw [if_pos (.inl rfl)] at HE
              have f1 : ((a : Int) == (a : Int)) = true := by simp
              try simp only [Nat.add_zero] at hcell
              go_wp2
              go_ret2
              exact ⟨by rw [HE.out]; rfl, rfl⟩
            · rw [if_neg (by omega)] at HE
              have f1 : ((a : Int) + (k : Int) == (a : Int)) = false := by simp; omega
              have f2 : ((a : Int) + (k : Int) == (a : Int) + 10) = false := by simp; omega
              go_wp2
              go_ret2
              exact ⟨by rw [HE.out]; rfl, rfl⟩
      · have d2 : decide (((a + k : Nat) : Int) < (a : Int) + 10) = false := decide_eq_false (by omega)
        have HE := Lib.hid (HEND.out (.inl (by omega))).out
        generalize valM l a k = v at hv1 hv2 HE HEND
        clear HEND
        obtain rfl : k = 10 := by omega
        rw [if_pos (.inr rfl)] at HE
        have f1 : ((a : Int) + 10 == (a : Int)) = false := by simp; omega
        have f2 : ((a : Int) + 10 == (a : Int) + 10) = true := by simp
        go_wp2
        go_ret2
        exact ⟨by rw [HE.out]; rfl, rfl⟩
    · have d1 : decide (((a + k : Nat) : Int) < (n : Int)) = false := decide_eq_false (by omega)
      by_cases h10 : k < 10
      · have HE := Lib.hid (HEND.out (.inr ⟨by omega, .inl (by have := HLEN.out; omega)⟩)).out
        generalize valM l a k = v at hv1 hv2 HE HEND
        clear HEND
        by_cases h0 : k = 0
        · subst h0
          rw [if_pos (.inl rfl)] at HE
          have f1 : ((a : Int) == (a : Int)) = true := by simp
          try simp only [Nat.add_zero] at hcell
          go_wp2
          go_ret2
          exact ⟨by rw [HE.out]; rfl, rfl⟩
        · rw [if_neg (by omega)] at HE
          have f1 : ((a : Int) + (k : Int) == (a : Int)) = false := by simp; omega
          have f2 : ((a : Int) + (k : Int) == (a : Int) + 10) = false := by simp; omega
          go_wp2
          go_ret2
          exact ⟨by rw [HE.out]; rfl, rfl⟩
      · have HE := Lib.hid (HEND.out (.inl (by omega))).out
        generalize valM l a k = v at hv1 hv2 HE HEND
        clear HEND
        obtain rfl : k = 10 := by omega
        rw [if_pos (.inr rfl)] at HE
        have f1 : ((a : Int) + 10 == (a : Int)) = false := by simp; omega
        have f2 : ((a : Int) + 10 == (a : Int) + 10) = true := by simp
        go_wp2
        go_ret2
        exact ⟨by rw [HE.out]; rfl, rfl⟩
end Go.Proofs.YtbmlopklhgladaaDoor.Pnm
set_option linter.unusedVariables false
set_option linter.unusedSimpArgs false
namespace Go.Proofs.YtbmlopklhgladaaDoor.Pnm
open Go.RowKit K

theorem behindM_bd {l : List Int} {a : Nat} {v : Int} {e : Nat} (h : behindM l a = some (v, e)) (ha : a ≤ l.length) : 0 ≤ v ∧ v ≤ 999999999 ∧ a < e ∧ e ≤ l.length := by
  unfold behindM at h
  cases hg : gapM l a with
  | none => rw [hg] at h; cases h
  | some j =>
    rw [hg] at h
    simp only at h
    split at h
    · cases h
    · have hj := gapM_ge _ _ _ rfl hg
      have hb := numM_bd h
      have := hb.2.2.2 (by omega)
      omega
set_option maxHeartbeats 1000000 in
theorem behind_any {A : Option Addr} {n c a : Nat} {l : List Int} (w : World) (HA : SI w .u8 A n l) (ha : a ≤ n) :
    Calls Tryd.prog 44 #[.slice A n c, .int .i64 a] w fun e w' => e = .returned (.tuple #[.int .i64 (numI (behindM l a)).1, .int .i64 (numI (behindM l a)).2]) ∧ w = w' := by
  have HAA := Lib.hid HA
  have HLEN := Lib.hid HA.len
  have hbig := HA.bigb
  clear HA
  cases hg : gapM l a with
  | none =>
    have HB : Hid (behindM l a = none) := by show _ = _; unfold behindM; rw [hg]
    have HG := Lib.hid hg
    have d1 : decide ((-1 : Int) ≤ (a : Int)) = true := decide_eq_true (by omega)
    clear hg
    go_enter Tryd.func44, Tryd.ntmps44
    go_wp2_with fail
    refine (gap_any w HAA.out).mono ?_
    rintro e w' ⟨rfl, rfl⟩
    rw [HG.out, show ixI none = (-1 : Int) from rfl]
    go_wp2_with fail
    go_ret2
    exact ⟨by rw [HB.out]; rfl, rfl⟩
  | some j =>
    have hj := gapM_ge _ _ _ rfl hg
    have hjl : j ≤ n := by have := HLEN.out; omega
    have HG := Lib.hid hg
    by_cases hja : j ≤ a
    · have HB : Hid (behindM l a = none) := by show _ = _; unfold behindM; rw [hg]; simp only []; rw [if_pos hja]
      have d1 : decide ((j : Int) ≤ (a : Int)) = true := decide_eq_true (by omega)
      clear hg hj
      go_enter Tryd.func44, Tryd.ntmps44
      go_wp2_with fail
      refine (gap_any w HAA.out).mono ?_
      rintro e w' ⟨rfl, rfl⟩
      rw [HG.out, show ixI (some j) = (j : Int) from rfl]
      go_wp2_with fail
      go_ret2
      exact ⟨by rw [HB.out]; rfl, rfl⟩
    · have HB : Hid (behindM l a = numM l j) := by show _ = _; unfold behindM; rw [hg]; simp only []; rw [if_neg hja]
      have d1 : decide ((j : Int) ≤ (a : Int)) = false := decide_eq_false (by omega)
      clear hg hj
      go_enter Tryd.func44, Tryd.ntmps44
      go_wp2_with fail
      refine (gap_any w HAA.out).mono ?_
      rintro e w' ⟨rfl, rfl⟩
      rw [HG.out, show ixI (some j) = (j : Int) from rfl]
      go_wp2_with fail
      refine (number_any w HAA.out hjl).mono ?_
      rintro e w' ⟨rfl, rfl⟩
      go_wp2_with fail
      go_ret2
      exact ⟨by rw [HB.out]; rfl, rfl⟩
def HeadP (w : World) (o : Option Hd) (e : Ending) (w' : World) : Prop :=
  Below w.heap.size w w' ∧ match o with
  | none => ∃ a b c d f : Int, e = .returned (.tuple #[.agg #[.int .i64 a, .int .i64 b, .int .i64 c, .int .i64 d, .int .i64 f], .bool false])
  | some h => e = .returned (.tuple #[.agg #[.int .i64 h.kind, .int .i64 h.w, .int .i64 h.h, .int .i64 h.top, .int .i64 h.a], .bool true])
set_option maxRecDepth 20000 in
set_option maxHeartbeats 4000000 in
theorem head_any {A : Option Addr} {n c : Nat} {l : List Int} (w : World) (HA : SI w .u8 A n l) (hwf : ∀ x ∈ l, 0 ≤ x ∧ x < 256) :
    Calls Tryd.prog 25 #[.slice A n c] w (HeadP w (headM l)) := by
  have HLEN := Lib.hid HA.len
  have hbig := HA.bigb
  have hb0 : ∀ o, Below w.heap.size w (w.alloc o) := fun o => (Below.refl _ w).alloc (Nat.le_refl _) o
  by_cases h2 : n < 2
  · have HH : Hid (headM l = none) := by show _ = _; unfold headM; rw [if_pos (.inl (by have := HLEN.out; omega))]
    have d1 : decide ((n : Int) < 2) = true := decide_eq_true (by omega)
    go_enter Tryd.func25, Tryd.ntmps25
    go_wp2
    refine bodyPost_ret (v := .tuple #[.agg #[.int .i64 0, .int .i64 0, .int .i64 0, .int .i64 0, .int .i64 0], .bool false]) ?_ rfl ?_
    · simp [results, Tryd.results25, go_sem] <;> omega
    · rw [HH.out]; exact ⟨hb0 _, _, _, _, _, _, rfl⟩
  · have d1 : decide ((n : Int) < 2) = false := decide_eq_false (by omega)
    obtain ⟨b1, o1, hA1, hc0⟩ := byte_at HA (show 0 < n by omega)
    obtain ⟨b2, o2, hA2, hc1⟩ := byte_at HA (show 1 < n by omega)
    rw [hA1] at hA2
    injection hA2 with hA2
    injection hA2 with q1 q2 q3
    subst q1 q2 hA1
    rw [Nat.add_zero] at hc0
    obtain ⟨x0, hx0⟩ : ∃ x, l.getD 0 0 = x := ⟨_, rfl⟩
    obtain ⟨x1, hx1⟩ : ∃ x, l.getD 1 0 = x := ⟨_, rfl⟩
    have hxb := getD_wf hwf 1
    rw [hx0] at hc0
    rw [hx1] at hc1 hxb
    have hl0 : (0 : Int) < (n : Int) := by omega
    have hl1 : (1 : Int) < (n : Int) := by omega
    have HAA := Lib.hid HA
    have hblt := World.block_lt_of_cell? w _ hc0
    have hc0a : ∀ o, (w.alloc o).cell? ⟨b1, o1, none⟩ = some (.int .u8 x0) := fun o => (hb0 o).cell (p := ⟨b1, o1, none⟩) hblt ▸ hc0
    have hc1a : ∀ o, (w.alloc o).cell? ⟨b1, o1 + 1, none⟩ = some (.int .u8 x1) := fun o => (hb0 o).cell (p := ⟨b1, o1 + 1, none⟩) hblt ▸ hc1
    clear HA
    by_cases h80 : x0 = 80
    · have d2 : (x0 != 80) = false := by simp [h80]
      by_cases h49 : x1 < 49
      · have HH : Hid (headM l = none) := by show _ = _; unfold headM; rw [if_pos (.inr (.inr (.inl (by rw [hx1]; exact h49))))]
        have d3 : decide (x1 < 49) = true := decide_eq_true h49
        clear hx0 hx1
        go_enter Tryd.func25, Tryd.ntmps25
        go_wp2
        refine bodyPost_ret (v := .tuple #[.agg #[.int .i64 0, .int .i64 0, .int .i64 0, .int .i64 0, .int .i64 0], .bool false]) ?_ rfl ?_
        · simp [results, Tryd.results25, go_sem] <;> omega
        · rw [HH.out]; exact ⟨hb0 _, _, _, _, _, _, rfl⟩
      · have d3 : decide (x1 < 49) = false := decide_eq_false h49
        by_cases h54 : 54 < x1
        · have HH : Hid (headM l = none) := by show _ = _; unfold headM; rw [if_pos (.inr (.inr (.inr (by rw [hx1]; exact h54))))]
          have d4 : decide (54 < x1) = true := decide_eq_true h54
          clear hx0 hx1
          go_enter Tryd.func25, Tryd.ntmps25
          go_wp2
          refine bodyPost_ret (v := .tuple #[.agg #[.int .i64 0, .int .i64 0, .int .i64 0, .int .i64 0, .int .i64 0], .bool false]) ?_ rfl ?_
          · simp [results, Tryd.results25, go_sem] <;> omega
          · rw [HH.out]; exact ⟨hb0 _, _, _, _, _, _, rfl⟩
        · have d4 : decide (54 < x1) = false := decide_eq_false h54
          have HH : Hid (headM l = match behindM l 2 with
            | none => none
            | some (x, a) => if x < 1 then none else
              match behindM l a with
              | none => none
              | some (y, e) => if y < 1 then none else
                if x1 = 49 ∨ x1 = 52 then some ⟨x1 - 48, x, y, 1, e⟩
                else match behindM l e with
                  | none => none
                  | some (t, g) => if t < 1 ∨ 65535 < t then none else some ⟨x1 - 48, x, y, t, g⟩) := by
            show _ = _
            unfold headM
            rw [if_neg (by rw [hx0, hx1]; have := HLEN.out; omega), hx1]
            rfl
          clear hx0 hx1
          go_enter Tryd.func25, Tryd.ntmps25
          have hb2 : ∀ o o', Below w.heap.size w ((w.alloc o).alloc o') := fun o o' => (hb0 o).alloc (hb0 o).size o'
          have hsi : ∀ o o', SI ((w.alloc o).alloc o') .u8 (some ⟨b1, o1, none⟩) n l := fun o o' => (HAA.out.alloc o).alloc o'
          go_wp2_with fail
          refine (behind_any (a := 2) _ (hsi _ _) (by omega)).mono ?_
          rintro e w' ⟨rfl, rfl⟩
          cases hB : behindM l 2 with
          | none =>
            have HF : Hid (headM l = none) := by show _ = _; rw [HH.out, hB]
            have f1 : decide ((-1 : Int) < 0) = true := by decide
            rw [show numI none = (0, -1) from rfl]
            go_wp2_with fail
            refine bodyPost_ret (v := .tuple #[.agg #[.int .i64 (x1 - 48), .int .i64 0, .int .i64 0, .int .i64 1, .int .i64 0], .bool false]) ?_ rfl ?_
            · simp [results, Tryd.results25, go_sem] <;> omega
            · rw [HF.out]; exact ⟨hb2 _ _, _, _, _, _, _, rfl⟩
          | some xa =>
            obtain ⟨x, a⟩ := xa
            rw [show numI (some (x, a)) = (x, (a : Int)) from rfl]
            have hab := behindM_bd hB (by have := HLEN.out; omega)
            have han : a ≤ n := by have := HLEN.out; omega
            have f1 : decide ((a : Int) < 0) = false := decide_eq_false (by omega)
            have HB := Lib.hid hB
            clear hB
            by_cases hx : x < 1
            · have f2 : decide (x < 1) = true := decide_eq_true hx
              have HF : Hid (headM l = none) := by show _ = _; rw [HH.out, HB.out]; simp only []; rw [if_pos hx]
              go_wp2_with fail
              refine bodyPost_ret (v := .tuple #[.agg #[.int .i64 (x1 - 48), .int .i64 0, .int .i64 0, .int .i64 1, .int .i64 0], .bool false]) ?_ rfl ?_
              · simp [results, Tryd.results25, go_sem] <;> omega
              · rw [HF.out]; exact ⟨hb2 _ _, _, _, _, _, _, rfl⟩
            · have f2 : decide (x < 1) = false := decide_eq_false hx
              go_wp2_with fail
              refine (behind_any (a := a) _ (hsi _ _) (by omega)).mono ?_
              rintro e w' ⟨rfl, rfl⟩
              cases hB2 : behindM l a with
              | none =>
                have HF : Hid (headM l = none) := by show _ = _; rw [HH.out, HB.out]; simp only []; rw [if_neg (by omega), hB2]
                have g1 : decide ((-1 : Int) < 0) = true := by decide
                rw [show numI none = (0, -1) from rfl]
                go_wp2_with fail
                refine bodyPost_ret (v := .tuple #[.agg #[.int .i64 (x1 - 48), .int .i64 0, .int .i64 0, .int .i64 1, .int .i64 0], .bool false]) ?_ rfl ?_
                · simp [results, Tryd.results25, go_sem] <;> omega
                · rw [HF.out]; exact ⟨hb2 _ _, _, _, _, _, _, rfl⟩
              | some ye =>
                obtain ⟨y, e⟩ := ye
                rw [show numI (some (y, e)) = (y, (e : Int)) from rfl]
                have hye := behindM_bd hB2 (by have := HLEN.out; omega)
                have hen : e ≤ n := by have := HLEN.out; omega
                have g1 : decide ((e : Int) < 0) = false := decide_eq_false (by omega)
                have HB2 := Lib.hid hB2
                clear hB2
                by_cases hy : y < 1
                · have g2 : decide (y < 1) = true := decide_eq_true hy
                  have HF : Hid (headM l = none) := by show _ = _; rw [HH.out, HB.out]; simp only []; rw [if_neg (by omega), HB2.out]; simp only []; rw [if_pos hy]
                  go_wp2_with fail
                  refine bodyPost_ret (v := .tuple #[.agg #[.int .i64 (x1 - 48), .int .i64 0, .int .i64 0, .int .i64 1, .int .i64 0], .bool false]) ?_ rfl ?_
                  · simp [results, Tryd.results25, go_sem] <;> omega
                  · rw [HF.out]; exact ⟨hb2 _ _, _, _, _, _, _, rfl⟩
                · have g2 : decide (y < 1) = false := decide_eq_false hy
                  have HT : Hid (headM l = if x1 = 49 ∨ x1 = 52 then some ⟨x1 - 48, x, y, 1, e⟩ else match behindM l e with | none => none | some (t, g) => if t < 1 ∨ 65535 < t then none else some ⟨x1 - 48, x, y, t, g⟩) := by show _ = _; rw [HH.out, HB.out]; simp only []; rw [if_neg (by omega), HB2.out]; simp only []; rw [if_neg (by omega)]
                  clear HH
                  by_cases hk1 : x1 = 49
                  · have k1 : (x1 - 48 != 1) = false := by simp; omega
                    have HF : Hid (headM l = some ⟨x1 - 48, x, y, 1, e⟩) := by show _ = _; rw [HT.out, if_pos (.inl hk1)]
                    go_wp2_with fail
                    refine bodyPost_ret (v := .tuple #[.agg #[.int .i64 (x1 - 48), .int .i64 x, .int .i64 y, .int .i64 1, .int .i64 (e : Int)], .bool true]) ?_ rfl ?_
                    · simp [results, Tryd.results25, go_sem] <;> omega
                    · rw [HF.out]; exact ⟨hb2 _ _, rfl⟩
                  · have k1 : (x1 - 48 != 1) = true := by simp; omega
                    by_cases hk4 : x1 = 52
                    · have k4 : (x1 - 48 != 4) = false := by simp; omega
                      have HF : Hid (headM l = some ⟨x1 - 48, x, y, 1, e⟩) := by show _ = _; rw [HT.out, if_pos (.inr hk4)]
                      go_wp2_with fail
                      refine bodyPost_ret (v := .tuple #[.agg #[.int .i64 (x1 - 48), .int .i64 x, .int .i64 y, .int .i64 1, .int .i64 (e : Int)], .bool true]) ?_ rfl ?_
                      · simp [results, Tryd.results25, go_sem] <;> omega
                      · rw [HF.out]; exact ⟨hb2 _ _, rfl⟩
                    · have k4 : (x1 - 48 != 4) = true := by simp; omega
                      have HT2 : Hid (headM l = match behindM l e with | none => none | some (t, g) => if t < 1 ∨ 65535 < t then none else some ⟨x1 - 48, x, y, t, g⟩) := by show _ = _; rw [HT.out, if_neg (by omega)]
                      clear HT
                      go_wp2_with fail
                      refine (behind_any (a := e) _ (hsi _ _) (by omega)).mono ?_
                      rintro e w' ⟨rfl, rfl⟩
                      cases hB3 : behindM l e with
                      | none =>
                        have HF : Hid (headM l = none) := by show _ = _; rw [HT2.out, hB3]
                        have j1 : decide ((-1 : Int) < 0) = true := by decide
                        rw [show numI none = (0, -1) from rfl]
                        go_wp2_with fail
                        refine bodyPost_ret (v := .tuple #[.agg #[.int .i64 (x1 - 48), .int .i64 x, .int .i64 y, .int .i64 1, .int .i64 (e : Int)], .bool false]) ?_ rfl ?_
                        · simp [results, Tryd.results25, go_sem] <;> omega
                        · rw [HF.out]; exact ⟨hb2 _ _, _, _, _, _, _, rfl⟩
                      | some tg =>
                        obtain ⟨t, g⟩ := tg
                        rw [show numI (some (t, g)) = (t, (g : Int)) from rfl]
                        have HB3 := Lib.hid hB3
                        have j1 : decide ((g : Int) < 0) = false := decide_eq_false (by omega)
                        clear hB3
                        by_cases ht : t < 1
                        · have j2 : decide (t < 1) = true := decide_eq_true ht
                          have HF : Hid (headM l = none) := by show _ = _; rw [HT2.out, HB3.out]; simp only []; rw [if_pos (.inl ht)]
                          go_wp2_with fail
                          refine bodyPost_ret (v := .tuple #[.agg #[.int .i64 (x1 - 48), .int .i64 x, .int .i64 y, .int .i64 1, .int .i64 (e : Int)], .bool false]) ?_ rfl ?_
                          · simp [results, Tryd.results25, go_sem] <;> omega
                          · rw [HF.out]; exact ⟨hb2 _ _, _, _, _, _, _, rfl⟩
                        · have j2 : decide (t < 1) = false := decide_eq_false ht
                          by_cases ht2 : 65535 < t
                          · have j3 : decide (65535 < t) = true := decide_eq_true ht2
                            have HF : Hid (headM l = none) := by show _ = _; rw [HT2.out, HB3.out]; simp only []; rw [if_pos (.inr ht2)]
                            go_wp2_with fail
                            refine bodyPost_ret (v := .tuple #[.agg #[.int .i64 (x1 - 48), .int .i64 x, .int .i64 y, .int .i64 1, .int .i64 (e : Int)], .bool false]) ?_ rfl ?_
                            · simp [results, Tryd.results25, go_sem] <;> omega
                            · rw [HF.out]; exact ⟨hb2 _ _, _, _, _, _, _, rfl⟩
                          · have j3 : decide (65535 < t) = false := decide_eq_false ht2
                            have HF : Hid (headM l = some ⟨x1 - 48, x, y, t, g⟩) := by show _ = _; rw [HT2.out, HB3.out]; simp only []; rw [if_neg (by omega)]
                            go_wp2_with fail
                            refine bodyPost_ret (v := .tuple #[.agg #[.int .i64 (x1 - 48), .int .i64 x, .int .i64 y, .int .i64 t, .int .i64 (g : Int)], .bool true]) ?_ rfl ?_
                            · simp [results, Tryd.results25, go_sem] <;> omega
                            · rw [HF.out]; exact ⟨hb2 _ _, rfl⟩
    · have d2 : (x0 != 80) = true := by simp [h80]
      have HH : Hid (headM l = none) := by show _ = _; unfold headM; rw [if_pos (.inr (.inl (by rw [hx0]; exact h80)))]
      clear hx0 hx1
      go_enter Tryd.func25, Tryd.ntmps25
      go_wp2
      refine bodyPost_ret (v := .tuple #[.agg #[.int .i64 0, .int .i64 0, .int .i64 0, .int .i64 0, .int .i64 0], .bool false]) ?_ rfl ?_
      · simp [results, Tryd.results25, go_sem] <;> omega
      · rw [HH.out]; exact ⟨hb0 _, _, _, _, _, _, rfl⟩
end Go.Proofs.YtbmlopklhgladaaDoor.Pnm
set_option linter.unusedVariables false
set_option linter.unusedSimpArgs false
namespace Go.Proofs.YtbmlopklhgladaaDoor.Ard
open Go.RowKit K

theorem two_allocs (w : World) (a b : Obj) : ∃ W0, (w.alloc a).alloc b = W0 ∧ W0.heap[w.heap.size]? = some a ∧ W0.heap[w.heap.size + 1]? = some b ∧ W0.heap.size = w.heap.size + 2 ∧ Below w.heap.size w W0 := by
  refine ⟨_, rfl, ?_, ?_, by simp, ((Below.refl _ w).alloc (Nat.le_refl _) _).alloc (by simp) _⟩
  · exact heap_alloc_old _ _ (heap_alloc_new w a)
  · have := heap_alloc_new (w.alloc a) b
    rw [World.size_alloc] at this
    exact this
/-- a copy of an image: new memory -/
def CopyP (w : World) (W H : Int) (l : List Int) (e : Ending) (w' : World) : Prop :=
  Below w.heap.size w w' ∧ ∃ A c, e = .returned (.agg #[.int .i64 W, .int .i64 H, .slice A l.length c]) ∧ w'.ownsRow w.heap.size 43 1 (.slice A l.length c) l.length (l.map (.int .u16)) ∧ l.length ≤ c ∧ c ≤ maxLen
theorem own_caps {w : World} {base e n c : Nat} {A : Option Addr} {xs : List Value} (h : w.ownsRow base e 1 (.slice A n c) n xs) : n ≤ c ∧ c ≤ maxLen := by
  rcases h.2 with ⟨hv, rfl⟩ | ⟨g, cap, cur, hv, h1, h2, h3, h4, h5⟩
  · injection hv with e1 e2 e3; exact ⟨by omega, by rw [e3]; exact Nat.zero_le _⟩
  · injection hv with e1 e2 e3; subst e3; exact ⟨h3, h4⟩
theorem own_empty (w : World) (base T : Nat) (hb : base ≤ w.heap.size) : (w.alloc (.cells #[] T)).ownsRow base T 1 (.slice (some ⟨w.heap.size, 0, none⟩) 0 0) 0 [] :=
  ⟨rfl, .inr ⟨w.heap.size, 0, #[], rfl, hb, heap_alloc_new w _, Nat.le_refl _, Nat.zero_le _, rfl, rfl⟩⟩
theorem copy_any {W H : Int} {P : Option Addr} {pn pc : Nat} {pix : List Int} (w : World) (HP : SI w .u16 P pn pix) : Calls Tryd.prog 14 #[.agg #[.int .i64 W, .int .i64 H, .slice P pn pc]] w (CopyP w W H pix) := by
  have hbig : pn * 2 ≤ 140737488351232 := HP.sz
  have hlen := HP.len
  obtain ⟨W0, hW0, r0, r1, hs, hb⟩ := two_allocs w (.cells #[.int .i64 W, .int .i64 H, .slice P pn pc] 26) (.cells zimg 26)
  have HPP := Lib.hid HP
  have HL := Lib.hid hlen
  have R0 := Lib.hid r0
  have R1 := Lib.hid r1
  have HS := Lib.hid hs
  have HB := Lib.hid hb
  clear HP hlen r0 r1 hs hb
  go_enter Tryd.func14, Tryd.ntmps14
  go_upto_region 1 with (fail)
  unfold zimg at hW0
  rw [hW0]
  clear hW0
  have x2a : ∀ o, (W0.alloc o).cell? ⟨w.heap.size, 2, none⟩ = some (.slice P pn pc) := fun o => row_cell (heap_alloc_old _ o R0.out) 2
  have HSl : Hid (Sl (W0.alloc (.cells #[] 43)) P (pix.map (.int .u16))) := ((HPP.out.below HB.out (Nat.le_refl _)).alloc _).sl
  have HOE : Hid ((W0.alloc (.cells #[] 43)).ownsRow w.heap.size 43 1 (.slice (some ⟨W0.heap.size, 0, none⟩) 0 0) 0 []) := own_empty W0 w.heap.size 43 HB.out.size
  have HLN : Hid ((pix.map (Value.int .u16)).length = pn * 1) := by show _ = _; rw [List.length_map, HL.out, Nat.mul_one]
  go_wp2_with (at_builtin; refine wpList_append_sl _ rfl (.tmp 3) (.tmp 5) _ rfl w.heap.size 43 1 2 _ Tryd.underlying24 infoU16 rfl (by omega) (.slice (some ⟨W0.heap.size, 0, none⟩) 0 0) 0 [] rfl HOE.out P pn pc (pix.map (.int .u16)) rfl HLN.out HSl.out (ones .u16 pix) ?c2 ?c3 ?c4 ?_)
  case c2 => unfold maxLen; omega
  case c3 => omega
  case c4 => have := HB.out.size; simp; omega
  intro v' w5 hown5 hg5 hat5
  obtain ⟨A5, c5, rfl⟩ := own_form hown5
  have hne : ∀ b, b < W0.heap.size → some b ≠ (Value.slice (some ⟨W0.heap.size, 0, none⟩) 0 0).ownBlock := fun b hb => by simp [Value.ownBlock]; omega
  have Q0 : Hid (w5.heap[w.heap.size]? = some (.cells #[.int .i64 W, .int .i64 H, .slice P pn pc] 26 (0, 0))) := (hg5.block _ (by have := HS.out; simp; omega) (hne _ (by have := HS.out; omega))).trans (heap_alloc_old _ _ R0.out)
  have Q1 : Hid (w5.heap[w.heap.size + 1]? = some (.cells zimg 26 (0, 0))) := (hg5.block _ (by have := HS.out; simp; omega) (hne _ (by have := HS.out; omega))).trans (heap_alloc_old _ _ R1.out)
  have HB5 : Hid (Below w.heap.size w w5) := (HB.out.alloc HB.out.size _).grown hg5 (by have := HS.out; simp; omega) (fun b e => by have := HS.out; simp [Value.ownBlock] at e; omega)
  have HO5 : Hid (w5.ownsRow w.heap.size 43 1 (.slice A5 pix.length c5) pix.length (pix.map (.int .u16))) := by
    show World.ownsRow _ _ _ _ _ _ _
    rw [HL.out]; exact hown5
  have y2 : w5.cell? ⟨w.heap.size, 2, none⟩ = some (.slice P pn pc) := row_cell Q0.out 2
  have y3 : w5.frozen? ⟨w.heap.size, 2, none⟩ = false := row_frozen Q0.out 2
  have S0 : Hid ((w5.setCell ⟨w.heap.size, 2, none⟩ (.slice A5 pn c5)).heap[w.heap.size]? = some (.cells #[.int .i64 W, .int .i64 H, .slice A5 pn c5] 26 (0, 0))) := set_row2 Q0.out
  have S1 : Hid ((w5.setCell ⟨w.heap.size, 2, none⟩ (.slice A5 pn c5)).heap[w.heap.size + 1]? = some (.cells zimg 26 (0, 0))) := (Below.heap_setCell _ _ _ _ (by simp)).trans Q1.out
  have HOS : Hid ((w5.setCell ⟨w.heap.size, 2, none⟩ (.slice A5 pn c5)).ownsRow w.heap.size 43 1 (.slice A5 pix.length c5) pix.length (pix.map (.int .u16))) := HO5.out.kept (grown_set1 _ _ _ _) (.inr (own_ne HO5.out Q0.out (by decide)).symm)
  have HBS : Hid (Below w.heap.size w (w5.setCell ⟨w.heap.size, 2, none⟩ (.slice A5 pn c5))) := HB5.out.setCell (p := ⟨w.heap.size, 2, none⟩) (Nat.le_refl _) _
  have HOI : Hid ((#[.int .i64 W, .int .i64 H, .slice A5 pn c5] : Array Value).all (·.oneCell') = true) := by show _ = _; simp [Value.oneCell']
  clear hown5 hg5 hat5 hne x2a
  go_upto_region 2 with (fail)
  generalize w5.setCell ⟨w.heap.size, 2, none⟩ (.slice A5 pn c5) = w6 at S0 S1 HOS HBS ⊢
  have u0 := row_cell S0.out 0
  have u1 := row_cell S0.out 1
  have u2 := row_cell S0.out 2
  go_wp2_with (refine wpList_store_row rfl 26 (.tmp 2) (.tmp 8) rfl (w.heap.size + 1) #[.int .i64 W, .int .i64 H, .slice A5 pn c5] rfl rfl 26 zimg S1.out imgInfo rfl HOI.out ?_)
  refine bodyPost_ret (results_cell_row rfl _ _ (w.heap.size + 1) 26 _ (0, 0) _ rfl (setRow_heap _ _ _ _ _ _ S1.out) Tryd.underlying26 rfl imgInfo) rfl ?_
  refine ⟨below_setRow HBS.out (Nat.le_add_right _ _) _, A5, c5, by rw [HL.out], HOS.out.kept (grown_row _ _ _) (.inr (own_ne HOS.out S1.out (by decide)).symm), own_caps HOS.out⟩
end Go.Proofs.YtbmlopklhgladaaDoor.Ard
set_option linter.unusedVariables false
set_option linter.unusedSimpArgs false
namespace Go.Proofs.YtbmlopklhgladaaDoor.Ard
open Go.RowKit K

def sameB (W H : Int) (l : List Int) (W2 H2 : Int) (l2 : List Int) : Bool := decide (W = W2 ∧ H = H2 ∧ l = l2)
set_option maxHeartbeats 2000000 in
theorem same_any {W H W2 H2 : Int} {P P2 : Option Addr} {pn pc pn2 pc2 : Nat} {l l2 : List Int} (w : World) (HP : SI w .u16 P pn l) (HP2 : SI w .u16 P2 pn2 l2) :
    Calls Tryd.prog 12 #[.agg #[.int .i64 W, .int .i64 H, .slice P pn pc], .agg #[.int .i64 W2, .int .i64 H2, .slice P2 pn2 pc2]] w (TestP w (sameB W H l W2 H2 l2)) := by
  have hlen := HP.len
  have hlen2 := HP2.len
  have hbig : pn ≤ 140737488351232 := by have := HP.sz; simp only [kb] at this; omega
  obtain ⟨W0, hW0, r0, r1, hs, hb⟩ := two_allocs w (.cells #[.int .i64 W, .int .i64 H, .slice P pn pc] 26) (.cells #[.int .i64 W2, .int .i64 H2, .slice P2 pn2 pc2] 26)
  have HB := Lib.hid hb
  have x0 := row_cell r0 0
  have x1 := row_cell r0 1
  have x2 := row_cell r0 2
  have y0 := row_cell r1 0
  have y1 := row_cell r1 1
  have y2 := row_cell r1 2
  by_cases h1 : W = W2
  · have n1 : (W != W2) = false := by simp [h1]
    by_cases h2 : H = H2
    · have n2 : (H != H2) = false := by simp [h2]
      by_cases h3 : pn = pn2
      · have n3 : ((pn : Int) != (pn2 : Int)) = false := by simp [h3]
        have HP1 := Lib.hid (HP.below hb (Nat.le_refl _))
        have HPB := Lib.hid (HP2.below hb (Nat.le_refl _))
        have R0 := Lib.hid r0
        have R1 := Lib.hid r1
        have HLL : Hid (l.length = pn ∧ l2.length = pn) := ⟨hlen, by rw [hlen2, h3]⟩
        have H3 := Lib.hid h3
        have HVAL : Hid (sameB W H l W2 H2 l2 = decide (l = l2)) := by show _ = _; unfold sameB; simp [h1, h2]
        clear hlen hlen2 HP HP2 hs hb r0 r1 h1 h2 h3
        go_enter Tryd.func12, Tryd.ntmps12
        go_wp2_with fail
        clear hW0 n1 n2 n3 x0 x1 y0 y1
        go_loopw [5] (fun s5 wr => ∃ k q : Nat, k ≤ pn ∧ s5 = .int .i64 k ∧ W0.drewN q = wr ∧ ∀ i, i < k → l[i]? = l2[i]?) (fun s5 _ => pn - (intOf s5).toNat)
        case atStart => exact ⟨0, 0, by omega, rfl, rfl, fun i hi => by omega⟩
        case round =>
          obtain ⟨k, q, hk, rfl, rfl, hin⟩ := hrel
          have HIN := Lib.hid hin
          clear hin
          by_cases hlt : k < pn
          · have d0 : decide ((k : Int) < (pn : Int)) = true := decide_eq_true (by omega)
            have e0 : decide (k < pn) = true := decide_eq_true hlt
            have j0 : (0 : Int) ≤ (k : Int) := by omega
            have j1 : (k : Int) < (pn : Int) := by omega
            have j2 : (k : Int) < (pn2 : Int) := by have := H3.out; omega
            obtain ⟨b1, o1, v1, rfl, c1, hv1, -⟩ := HP1.out.cells hlt
            obtain ⟨b2, o2, v2, rfl, c2, hv2, -⟩ := HPB.out.cells (i := k) (by have := H3.out; omega)
            have HWJ : Hid (wrap64 ((k : Int) + 1) = ((k + 1 : Nat) : Int)) := by show _ = _; rw [IntWalk.wrap64_in _ (by omega)]; rfl
            by_cases hv : v1 = v2
            · have t1 : (v1 != v2) = false := by simp [hv]
              have HEQ : Hid (l[k]? = l2[k]?) := by show _ = _; rw [hv1.out, hv2.out, hv]
              clear hv hv1 hv2
              go_wp2_with fail
              go_quiet (fail)
              go_wp2_with fail
              go_roundw
              case rel => exact ⟨k + 1, q + nq, by omega, by first | rw [HWJ.out] | rfl, by first | rfl | rw [World.drewN_drewN], fun i hi => by
                rcases Nat.lt_or_ge i k with h | h
                · exact HIN.out i h
                · obtain rfl : i = k := by omega
                  exact HEQ.out⟩
              case measure => simp [intOf]; omega
            · have t1 : (v1 != v2) = true := by simp [hv]
              have HNE : Hid (decide (l = l2) = false) := by
                show _ = _
                refine decide_eq_false fun e => hv ?_
                have h1 := hv1.out
                rw [e, hv2.out] at h1
                injection h1 with h1
                exact h1.symm
              clear hv hv1 hv2
              go_wp2_with fail
              go_quiet (fail)
              go_wp2_with fail
              go_ret
              exact ⟨by rw [HVAL.out, HNE.out]; rfl, below_drewN (below_drewN HB.out _) _⟩
          · obtain rfl : k = pn := by omega
            have d0 : decide ((k : Int) < (k : Int)) = false := by simp
            have HEQ : Hid (decide (l = l2) = true) := by
              show _ = _
              refine decide_eq_true (List.ext_getElem? fun i => ?_)
              by_cases hi : i < k
              · exact HIN.out i hi
              · rw [List.getElem?_eq_none_iff.2 (by have := HLL.out.1; omega), List.getElem?_eq_none_iff.2 (by have := HLL.out.2; omega)]
            go_wp2_with fail
            go_ret
            exact ⟨by rw [HVAL.out, HEQ.out]; rfl, below_drewN HB.out _⟩
      · have n3 : ((pn : Int) != (pn2 : Int)) = true := by simp; omega
        have HVAL : Hid (sameB W H l W2 H2 l2 = false) := by
          show _ = _
          refine decide_eq_false fun e => h3 ?_
          rw [← hlen, ← hlen2, e.2.2]
        clear hlen hlen2 HP HP2 hs hb r0 r1 h1 h2 h3
        go_enter Tryd.func12, Tryd.ntmps12
        go_wp2_with fail
        go_ret
        exact ⟨by rw [HVAL.out]; rfl, HB.out⟩
    · have n2 : (H != H2) = true := by simp [h2]
      have HVAL : Hid (sameB W H l W2 H2 l2 = false) := decide_eq_false fun e => h2 e.2.1
      clear hlen hlen2 HP HP2 hs hb r0 r1 h1 h2
      go_enter Tryd.func12, Tryd.ntmps12
      go_wp2_with fail
      go_ret
      exact ⟨by rw [HVAL.out]; rfl, HB.out⟩
  · have n1 : (W != W2) = true := by simp [h1]
    have HVAL : Hid (sameB W H l W2 H2 l2 = false) := decide_eq_false fun e => h1 e.1
    clear hlen hlen2 HP HP2 hs hb r0 r1 h1
    go_enter Tryd.func12, Tryd.ntmps12
    go_wp2_with fail
    go_ret
    exact ⟨by rw [HVAL.out]; rfl, HB.out⟩
end Go.Proofs.YtbmlopklhgladaaDoor.Ard
set_option linter.unusedVariables false
set_option linter.unusedSimpArgs false
namespace Go.Proofs.YtbmlopklhgladaaDoor.Ard
open Go.RowKit K

theorem grown_tr {a b c : World} {row : Option Nat} (h : a.grownBy b row) (k : b.grownBy c row) : a.grownBy c row :=
  ⟨k.os.trans h.os, k.tape.trans h.tape, k.output.trans h.output, Nat.le_trans h.size k.size, fun i hi hr => (k.block i (Nat.lt_of_lt_of_le hi h.size) hr).trans (h.block i hi hr)⟩
theorem grown_al {a b : World} {row : Option Nat} (h : a.grownBy b row) (o : Obj) : a.grownBy (b.alloc o) row := grown_tr h (World.grownBy_alloc b o row)
/-- cells of new blocks may change -/
theorem grown_new {a b c : World} {row : Option Nat} {x : Nat} (h : a.grownBy b row) (k : b.grownBy c (some x)) (hx : a.heap.size ≤ x) : a.grownBy c row :=
  ⟨k.os.trans h.os, k.tape.trans h.tape, k.output.trans h.output, Nat.le_trans h.size k.size, fun i hi hr => (k.block i (Nat.lt_of_lt_of_le hi h.size) (by simp; omega)).trans (h.block i hi hr)⟩
theorem own_b {w w' : World} {base e sz n : Nat} {v : Value} {xs : List Value} (h : w.ownsRow base e sz v n xs) (hb : Below w.heap.size w w') : w'.ownsRow base e sz v n xs := h.kept (grown_below hb none) (by cases hv : v.ownBlock <;> simp)
/-- an append of what has just been laid, in the text's order -/
theorem wpList_push {P : Program} {ops : Array Oper} {rest : List Oper} {o : Oper} {a : Act} {w : World} {Q : Exit → Act → World → Prop} (hgd : o.guard = none) (s x : Operand) (t : TypeId)
    (ho : o.op = .call { callee := .builtin .append, args := #[s, x], argTypes := #[t, t] }) (base e size bytes : Nat) (z : Value) (ht : P.underlying t = some (.slice e))
    (hinfo : (P.info? e).map (fun i => (i.zero, i.size, i.bytes)) = some (some z, size, bytes)) (hzs : z.cells.size = size) (hsz : 0 < size)
    (v : Value) (n : Nat) (xs : List Value) (hs : a.eval s = v) (hown : w.ownsRow base e size v n xs) (B m c : Nat) (cs : List Value) (T : TypeId)
    (hx : a.eval x = .slice (some ⟨B, 0, none⟩) m c) (hl : cs.length = m * size) (hb : w.heap[B]? = some (.cells cs.toArray T (0, 0))) (h1 : ∀ u ∈ cs, u.oneCell' = true) (hm : 0 < m)
    (h63 : n + m ≤ maxLen) (hbytes : (n + m) * bytes ≤ 140737488355328) (hbase : base ≤ w.heap.size) (H : Nat) (hH : w.heap.size = H)
    (h : ∀ g cap w', w'.ownsRow base e size (.slice (some ⟨g, 0, none⟩) (n + m) cap) (n + m) (xs ++ cs) → w.grownBy w' v.ownBlock → (v.ownBlock = some g ∨ g = H) → g < w'.heap.size → wpList P ops Q rest (a.put o.dst (.slice (some ⟨g, 0, none⟩) (n + m) cap)) w') : wpList P ops Q (o :: rest) a w := by
  obtain ⟨i, hi, hz, h2, h3⟩ := info_parts hinfo
  exact wpList_append_lies w hgd s x t ho base e i z size bytes ht hi hz h2 h3 hzs hsz v n xs hs hown ⟨B, 0, none⟩ m c cs hx hl (by simpa using World.news_of_block hb) h1 hm h63 hbytes hbase H hH h
theorem colInfo : (Tryd.prog.info? 45).map (·.size) = some 4 := by kernel_rfl
def colC (r g b a : Int) : Array Value := #[.int .u16 r, .int .u16 g, .int .u16 b, .int .u16 a]
/-- a pixel more at an owned image's end -/
def AddP (base : Nat) (w : World) (W H : Int) (A : Option Addr) (n c : Nat) (l : List Int) (e : Ending) (w' : World) : Prop :=
  ∃ g cap, e = .returned (.agg #[.int .i64 W, .int .i64 H, .slice (some ⟨g, 0, none⟩) (n + 4) cap]) ∧ w'.ownsRow base 43 1 (.slice (some ⟨g, 0, none⟩) (n + 4) cap) (n + 4) (l.map (.int .u16)) ∧ w.grownBy w' (Value.slice A n c).ownBlock ∧ ((Value.slice A n c).ownBlock = some g ∨ w.heap.size ≤ g) ∧ g < w'.heap.size
set_option maxHeartbeats 2000000 in
theorem add_any {W H r g b a : Int} {A : Option Addr} {n c base : Nat} {l : List Int} (w : World) (hown : w.ownsRow base 43 1 (.slice A n c) n (l.map (.int .u16))) (hn : n ≤ 16777216) (hbase : base ≤ w.heap.size) :
    Calls Tryd.prog 30 #[.agg #[.int .i64 W, .int .i64 H, .slice A n c], .agg #[.int .u16 r, .int .u16 g, .int .u16 b, .int .u16 a]] w (AddP base w W H A n c (l ++ [r, g, b, a])) := by
  obtain ⟨W0, hW0, r0, r1, r2, hs, hb⟩ := three_allocs w (.cells #[.int .i64 W, .int .i64 H, .slice A n c] 26) (.cells (colC r g b a) 45) (.cells zimg 26)
  have HOWN0 : Hid (W0.ownsRow base 43 1 (.slice A n c) n (l.map (.int .u16))) := own_b hown hb
  have HLT : Hid (∀ k, (Value.slice A n c).ownBlock = some k → base ≤ k ∧ k < w.heap.size) := hown.lt
  have HB := Lib.hid hb
  have HS := Lib.hid hs
  have R0 := Lib.hid r0
  have R1 := Lib.hid r1
  have R2 := Lib.hid r2
  have y2 : W0.cell? ⟨w.heap.size, 2, none⟩ = some (.slice A n c) := row_cell r0 2
  have z0 : W0.cell? ⟨w.heap.size + 1, 0, none⟩ = some (.int .u16 r) := row_cell r1 0
  have z1 : W0.cell? ⟨w.heap.size + 1, 1, none⟩ = some (.int .u16 g) := row_cell r1 1
  have z2 : W0.cell? ⟨w.heap.size + 1, 2, none⟩ = some (.int .u16 b) := row_cell r1 2
  have z3 : W0.cell? ⟨w.heap.size + 1, 3, none⟩ = some (.int .u16 a) := row_cell r1 3
  have HL : Hid (n = l.length) := by have := hown.1; show _ = _; simpa using this.symm
  clear hown hb hs r0 r1 r2
  unfold colC zimg at hW0
  go_enter Tryd.func30, Tryd.ntmps30
  go_wp2_with (at_builtin; refine wpList_push rfl (.tmp 6) (.tmp 15) _ rfl base 43 1 2 _ Tryd.underlying24 infoU16 rfl (by omega) (.slice A n c) n (l.map (.int .u16)) rfl (HOWN0.out.alloc _) W0.heap.size 4 4 [.int .u16 r, .int .u16 g, .int .u16 b, .int .u16 a] 43 rfl rfl (heap_alloc_new W0 _) ?c2 (by omega) ?c3 ?c4 ?c5 _ rfl ?_)
  case c2 => intro u hu; simp at hu; rcases hu with rfl | rfl | rfl | rfl <;> rfl
  case c3 => unfold maxLen; omega
  case c4 => omega
  case c5 => have := HB.out.size; simp; omega
  intro g1 cap1 w5 hown5 hg5 hat5 hlt5
  have hne : ∀ b, w.heap.size ≤ b → some b ≠ (Value.slice A n c).ownBlock := fun b hb e => by have := (HLT.out b e.symm).2; omega
  have Q0 : Hid (w5.heap[w.heap.size]? = some (.cells #[.int .i64 W, .int .i64 H, .slice A n c] 26 (0, 0))) := (hg5.block _ (by have := HS.out; simp; omega) (hne _ (Nat.le_refl _))).trans (heap_alloc_old _ _ R0.out)
  have Q2 : Hid (w5.heap[w.heap.size + 1 + 1]? = some (.cells zimg 26 (0, 0))) := (hg5.block _ (by have := HS.out; simp; omega) (hne _ (by omega))).trans (heap_alloc_old _ _ R2.out)
  have HG5 : Hid (w.grownBy w5 (Value.slice A n c).ownBlock) := grown_tr (grown_al (grown_below HB.out _) _) hg5
  have HA5 : Hid ((Value.slice A n c).ownBlock = some g1 ∨ w.heap.size + 3 ≤ g1) := by
    rcases hat5 with h | h
    · exact .inl h
    · exact .inr (by rw [h]; have := HS.out; simp; omega)
  have HLT5 := Lib.hid hlt5
  have HO5 := Lib.hid hown5
  have y2 : w5.cell? ⟨w.heap.size, 2, none⟩ = some (.slice A n c) := row_cell Q0.out 2
  have y3 : w5.frozen? ⟨w.heap.size, 2, none⟩ = false := row_frozen Q0.out 2
  obtain ⟨w6, hw6⟩ : ∃ w6, w5.setCell ⟨w.heap.size, 2, none⟩ (.slice (some ⟨g1, 0, none⟩) (n + 4) cap1) = w6 := ⟨_, rfl⟩
  have S0 : Hid (w6.heap[w.heap.size]? = some (.cells #[.int .i64 W, .int .i64 H, .slice (some ⟨g1, 0, none⟩) (n + 4) cap1] 26 (0, 0))) := by show _ = _; rw [← hw6]; exact set_row2 Q0.out
  have S2 : Hid (w6.heap[w.heap.size + 1 + 1]? = some (.cells zimg 26 (0, 0))) := by show _ = _; rw [← hw6]; exact (Below.heap_setCell _ _ _ _ (by show w.heap.size + 1 + 1 ≠ w.heap.size; omega)).trans Q2.out
  have HG6 : Hid (w.grownBy w6 (Value.slice A n c).ownBlock) := by show World.grownBy _ _ _; rw [← hw6]; exact grown_new HG5.out (grown_set1 _ _ _ _) (Nat.le_refl _)
  have HO6 : Hid (w6.ownsRow base 43 1 (.slice (some ⟨g1, 0, none⟩) (n + 4) cap1) (n + 4) ((l ++ [r, g, b, a]).map (.int .u16))) := by
    show World.ownsRow _ _ _ _ _ _ _
    rw [← hw6, List.map_append]
    exact HO5.out.kept (grown_set1 _ _ _ _) (.inr (own_ne HO5.out Q0.out (by decide)).symm)
  have HL6 : Hid (g1 < w6.heap.size) := by show _ < _; rw [← hw6]; have := HLT5.out; simpa using this
  have HOI : Hid ((#[.int .i64 W, .int .i64 H, .slice (some ⟨g1, 0, none⟩) (n + 4) cap1] : Array Value).all (·.oneCell') = true) := by show _ = _; simp [Value.oneCell']
  have u0 : w6.cell? ⟨w.heap.size, 0, none⟩ = some (.int .i64 W) := row_cell S0.out 0
  have u1 : w6.cell? ⟨w.heap.size, 1, none⟩ = some (.int .i64 H) := row_cell S0.out 1
  have u2 : w6.cell? ⟨w.heap.size, 2, none⟩ = some (.slice (some ⟨g1, 0, none⟩) (n + 4) cap1) := row_cell S0.out 2
  clear hown5 hg5 hat5 hlt5 hne z0 z1 z2 z3
  go_wp2_with (refine wpList_store_row rfl 26 (.tmp 4) (.tmp 18) rfl (w.heap.size + 1 + 1) #[.int .i64 W, .int .i64 H, .slice (some ⟨g1, 0, none⟩) (n + 4) cap1] rfl rfl 26 zimg S2.out imgInfo rfl HOI.out ?_)
  refine bodyPost_ret (results_cell_row rfl _ _ (w.heap.size + 1 + 1) 26 _ (0, 0) _ rfl (setRow_heap _ _ _ _ _ _ S2.out) Tryd.underlying26 rfl imgInfo) rfl ?_
  refine ⟨g1, cap1, rfl, HO6.out.kept (grown_row _ _ _) (.inr (own_ne HO6.out S2.out (by decide)).symm), grown_new HG6.out (grown_row _ _ _) (by omega), HA5.out.imp id (by omega), by have := HL6.out; simpa using this⟩
theorem pix_place {W H x y pn : Nat} (hpn : pn = 4 * W * H) (hW : W ≤ 4096) (hH : H ≤ 4096) (hx : x < W) (hy : y < H) : 4 * (y * W + x) + 3 < pn ∧ pn ≤ 67108864 := by
  have hpl := place_in (W := W) (H := H) (a := x) (b := y) (k := 3) hx hy (by omega)
  have h1 : W * H ≤ 4096 * 4096 := Nat.mul_le_mul hW hH
  have h2 : 4 * W * H = 4 * (W * H) := Nat.mul_assoc _ _ _
  rw [hpn]
  omega
theorem pix_wraps {W H x y pn : Nat} (hpn : pn = 4 * W * H) (hW : W ≤ 4096) (hH : H ≤ 4096) (hx : x < W) (hy : y < H) :
    wrap64 ((y : Int) * (W : Int)) = ((y * W : Nat) : Int) ∧ wrap64 (((y * W : Nat) : Int) + (x : Int)) = ((y * W + x : Nat) : Int) ∧ wrap64 (4 * ((y * W + x : Nat) : Int)) = ((4 * (y * W + x) : Nat) : Int) := by
  obtain ⟨h1, h2⟩ := pix_place hpn hW hH hx hy
  clear hpn hW hH hy
  have e1 : (y : Int) * (W : Int) = ((y * W : Nat) : Int) := (Int.natCast_mul _ _).symm
  rw [e1]
  generalize y * W = a at *
  refine ⟨IntWalk.wrap64_in _ (by omega), ?_, ?_⟩
  · rw [IntWalk.wrap64_in _ (by omega)]; rfl
  · rw [IntWalk.wrap64_in _ (by omega)]; omega
set_option maxRecDepth 20000 in
set_option maxHeartbeats 2000000 in
theorem pixel_any {W H : Nat} {P : Option Addr} {pn pc x y : Nat} {pix : List Int} (w : World) (HP : SI w .u16 P pn pix) (hpn : pn = 4 * W * H) (hW : W ≤ 4096) (hH : H ≤ 4096) (hx : x < W) (hy : y < H) :
    Calls Tryd.prog 63 #[.agg #[.int .i64 W, .int .i64 H, .slice P pn pc], .int .i64 x, .int .i64 y] w fun e w' => Below w.heap.size w w' ∧
      e = .returned (.agg #[.int .u16 (pix.getD (4 * (y * W + x)) 0), .int .u16 (pix.getD (4 * (y * W + x) + 1) 0), .int .u16 (pix.getD (4 * (y * W + x) + 2) 0), .int .u16 (pix.getD (4 * (y * W + x) + 3) 0)]) := by
  obtain ⟨W0, hW0, r0, r1, hs, hb⟩ := two_allocs w (.cells #[.int .i64 W, .int .i64 H, .slice P pn pc] 26) (.cells (colC 0 0 0 0) 45)
  obtain ⟨hpl, hp2⟩ := pix_place hpn hW hH hx hy
  obtain ⟨f1, f2, f3⟩ := pix_wraps hpn hW hH hx hy
  obtain ⟨q, hq⟩ : ∃ q, 4 * (y * W + x) = q := ⟨_, rfl⟩
  rw [hq] at hpl f3 ⊢
  clear hq hpn hW hH hx hy
  have SP := HP.below hb (Nat.le_refl _)
  obtain ⟨b0, o0, v0, rfl, k0, hv0, -⟩ := SP.cells (i := q) (by omega)
  obtain ⟨b1, o1, v1, e1, k1, hv1, -⟩ := SP.cells (i := q + 1) (by omega)
  injection e1 with e1; injection e1 with e1 e2; subst e1 e2
  obtain ⟨b2, o2, v2, e1, k2, hv2, -⟩ := SP.cells (i := q + 2) (by omega)
  injection e1 with e1; injection e1 with e1 e2; subst e1 e2
  obtain ⟨b3, o3, v3, e1, k3, hv3, -⟩ := SP.cells (i := q + 3) (by omega)
  injection e1 with e1; injection e1 with e1 e2; subst e1 e2
  have g0 : pix.getD q 0 = v0 := by rw [List.getD_eq_getElem?_getD, hv0.out]; rfl
  have g1 : pix.getD (q + 1) 0 = v1 := by rw [List.getD_eq_getElem?_getD, hv1.out]; rfl
  have g2 : pix.getD (q + 2) 0 = v2 := by rw [List.getD_eq_getElem?_getD, hv2.out]; rfl
  have g3 : pix.getD (q + 3) 0 = v3 := by rw [List.getD_eq_getElem?_getD, hv3.out]; rfl
  rw [g0, g1, g2, g3]
  obtain ⟨y1, hy1⟩ : ∃ m, y * W = m := ⟨_, rfl⟩
  rw [hy1] at f1 f2 f3
  obtain ⟨y2, hy2⟩ : ∃ m, y1 + x = m := ⟨_, rfl⟩
  rw [hy2] at f2 f3
  clear hy1 hy2
  have x0 : W0.cell? ⟨w.heap.size, 0, none⟩ = some (.int .i64 W) := row_cell r0 0
  have x2 : W0.cell? ⟨w.heap.size, 2, none⟩ = some (.slice (some ⟨b0, o0, none⟩) pn pc) := row_cell r0 2
  have R1 := Lib.hid r1
  have HB := Lib.hid hb
  clear HP SP hv0 hv1 hv2 hv3 g0 g1 g2 g3 r0 r1 hb hs
  unfold colC at hW0
  go_enter Tryd.func63, Tryd.ntmps63
  go_upto_region 2 with (fail)
  try rw [hW0]
  rw [f3]
  clear hW0 f1 f2 f3
  have a1 : IntKind.i64.wrap ((q : Int) + 1) = (q : Int) + 1 := IntWalk.i64_in _ (by omega)
  have a2 : IntKind.i64.wrap ((q : Int) + 2) = (q : Int) + 2 := IntWalk.i64_in _ (by omega)
  have a3 : IntKind.i64.wrap ((q : Int) + 3) = (q : Int) + 3 := IntWalk.i64_in _ (by omega)
  have t1 : ((q : Int) + 1).toNat = q + 1 := by omega
  have t2 : ((q : Int) + 2).toNat = q + 2 := by omega
  have t3 : ((q : Int) + 3).toNat = q + 3 := by omega
  have i0 : (0 : Int) ≤ (q : Int) := by omega
  have j0 : (q : Int) < (pn : Int) := by omega
  have i1 : (0 : Int) ≤ (q : Int) + 1 := by omega
  have j1 : (q : Int) + 1 < (pn : Int) := by omega
  have i2 : (0 : Int) ≤ (q : Int) + 2 := by omega
  have j2 : (q : Int) + 2 < (pn : Int) := by omega
  have i3 : (0 : Int) ≤ (q : Int) + 3 := by omega
  have j3 : (q : Int) + 3 < (pn : Int) := by omega
  have HOI : Hid ((#[.int .u16 v0, .int .u16 v1, .int .u16 v2, .int .u16 v3] : Array Value).all (·.oneCell') = true) := by show _ = _; simp [Value.oneCell']
  refine wp_region_still_tail 24 (by kernel_rfl) (by kernel_rfl) ?_
  simp only [List.take_succ_cons, List.take_zero, List.drop_succ_cons, List.drop_zero]
  repeat still_step
  refine wpStill_nil ?_
  change wpList _ _ _ _ _ W0.drew
  go_wp2_with (refine wpList_store_row rfl 45 (.tmp 6) (.tmp 38) rfl (w.heap.size + 1) #[.int .u16 v0, .int .u16 v1, .int .u16 v2, .int .u16 v3] rfl rfl 45 (colC 0 0 0 0) R1.out colInfo rfl HOI.out ?_)
  refine bodyPost_ret (results_cell_row rfl _ _ (w.heap.size + 1) 45 _ (0, 0) _ rfl (setRow_heap _ _ _ _ _ _ R1.out) Tryd.underlying45 rfl colInfo) rfl ?_
  exact ⟨below_setRow (below_drewN HB.out 1) (Nat.le_add_right _ _) _, rfl⟩
end Go.Proofs.YtbmlopklhgladaaDoor.Ard
set_option linter.unusedVariables false
set_option linter.unusedSimpArgs false
namespace Go.Proofs.YtbmlopklhgladaaDoor.Ard
open Go.RowKit K

def pixL (pix : List Int) (q : Nat) : List Int := [pix.getD q 0, pix.getD (q + 1) 0, pix.getD (q + 2) 0, pix.getD (q + 3) 0]
def ColP (w : World) (l : List Int) (e : Ending) (w' : World) : Prop := e = .returned (.tuple #[.agg (colC (l.getD 0 0) (l.getD 1 0) (l.getD 2 0) (l.getD 3 0)), .bool true]) ∧ Below w.heap.size w w'
def fillL (c : List Int) (k : Nat) : List Int := (List.replicate k c).flatten
theorem fillL_succ (c : List Int) (k : Nat) : fillL c (k + 1) = fillL c k ++ c := by unfold fillL; rw [List.replicate_succ', List.flatten_append]; simp
theorem fillL_len (r g b a : Int) (k : Nat) : (fillL [r, g, b, a] k).length = 4 * k := by
  induction k with
  | zero => rfl
  | succ k ih => rw [fillL_succ, List.length_append, ih]; simp; omega
/-- an image that is being filled -/
structure Fz (w wr : World) (W H r g b a : Int) (k : Nat) (A : Option Addr) (c : Nat) : Prop where
  bel : Below w.heap.size w wr
  clr : wr.heap[w.heap.size]? = some (.cells (colC r g b a) 45 (0, 0))
  res : wr.heap[w.heap.size + 1]? = some (.cells zimg 26 (0, 0))
  img : wr.heap[w.heap.size + 2]? = some (.cells #[.int .i64 W, .int .i64 H, .slice A (4 * k) c] 26 (0, 0))
  own : wr.ownsRow w.heap.size 43 1 (.slice A (4 * k) c) (4 * k) ((fillL [r, g, b, a] k).map (.int .u16))
theorem Fz.step {w wr w2 : World} {W H r g b a : Int} {k c g2 c2 : Nat} {A : Option Addr} (h : Fz w wr W H r g b a k A c) (hown : w2.ownsRow w.heap.size 43 1 (.slice (some ⟨g2, 0, none⟩) (4 * k + 4) c2) (4 * k + 4) ((fillL [r, g, b, a] k ++ [r, g, b, a]).map (.int .u16)))
    (hg : wr.grownBy w2 (Value.slice A (4 * k) c).ownBlock) : w2.heap[w.heap.size + 2]? = some (.cells #[.int .i64 W, .int .i64 H, .slice A (4 * k) c] 26 (0, 0)) ∧ Fz w (w2.setRow (w.heap.size + 2) #[.int .i64 W, .int .i64 H, .slice (some ⟨g2, 0, none⟩) (4 * (k + 1)) c2]) W H r g b a (k + 1) (some ⟨g2, 0, none⟩) c2 := by
  have hin : ∀ {i : Nat} {o : Obj}, wr.heap[i]? = some o → i < wr.heap.size := fun h => (Array.getElem?_eq_some_iff.1 h).1
  have h1 := (hg.block _ (hin h.clr) (own_ne h.own h.clr (by decide))).trans h.clr
  have h2 := (hg.block _ (hin h.res) (own_ne h.own h.res (by decide))).trans h.res
  have h3 := (hg.block _ (hin h.img) (own_ne h.own h.img (by decide))).trans h.img
  refine ⟨h3, below_setRow (h.bel.grown hg h.bel.size (fun b e => (h.own.lt b e).1)) (by omega) _, ?_, ?_, setRow_heap _ _ _ _ _ _ h3, ?_⟩
  · exact (setRow_other _ _ _ _ (by omega)).trans h1
  · exact (setRow_other _ _ _ _ (by omega)).trans h2
  · rw [fillL_succ]
    exact hown.kept (grown_row _ _ _) (.inr (own_ne hown h3 (by decide)).symm)
set_option maxRecDepth 20000 in
set_option maxHeartbeats 2000000 in
theorem fill9_any {W H : Nat} {r g b a : Int} (w : World) (hW : 1 ≤ W ∧ W ≤ 16) (hH : 1 ≤ H ∧ H ≤ 16) :
    Calls Tryd.prog 20 #[.int .i64 W, .int .i64 H, .agg #[.int .u16 r, .int .u16 g, .int .u16 b, .int .u16 a]] w (ImgP w W H (fillL [r, g, b, a] (W * H)) 0) := by
  have hm : W * H ≤ 256 := Nat.mul_le_mul hW.2 hH.2
  have hF : FitsP W H := by
    have h2 : (W : Int) * (H : Int) = ((W * H : Nat) : Int) := (Int.natCast_mul _ _).symm
    unfold FitsP; rw [h2]; omega
  have HFT : Hid (∀ V, Calls Tryd.prog 39 #[.int .i64 W, .int .i64 H] V fun e w' => e = .returned (.bool true) ∧ V = w') := fun V => by have := fits_any (W := W) (H := H) V; rwa [decide_eq_true hF] at this
  obtain ⟨m, hmd⟩ : ∃ m, W * H = m := ⟨_, rfl⟩
  have HWM : Hid (wrap64 ((W : Int) * (H : Int)) = (m : Int)) := by
    show _ = _
    have h2 : (W : Int) * (H : Int) = ((W * H : Nat) : Int) := (Int.natCast_mul _ _).symm
    rw [h2, hmd]; exact IntWalk.wrap64_in _ (by omega)
  rw [hmd] at hm ⊢
  clear hmd hF hW hH
  obtain ⟨W0, hW0, r0, r1, r2, hs, hb⟩ := three_allocs w (.cells (colC r g b a) 45) (.cells zimg 26) (.cells zimg 26)
  have R2 := Lib.hid r2
  have HF0 : Hid (Fz w (W0.setRow (w.heap.size + 2) #[.int .i64 W, .int .i64 H, .slice none 0 0]) W H r g b a 0 none 0) :=
    ⟨below_setRow hb (by omega) _, (setRow_other _ _ _ _ (by omega)).trans r0, (setRow_other _ _ _ _ (by omega)).trans r1, setRow_heap _ _ _ _ _ _ r2, World.ownsRow_nil _ _ _ _⟩
  have HOI : Hid ((#[.int .i64 W, .int .i64 H, .slice none 0 0] : Array Value).all (·.oneCell') = true) := by show _ = _; simp [Value.oneCell']
  clear r0 r1 r2 hs hb
  unfold colC zimg at hW0
  go_enter Tryd.func20, Tryd.ntmps20
  go_wp2_with fail
  refine (HFT.out _).mono ?_
  rintro e w' ⟨rfl, rfl⟩
  go_upto_region 3 with (fail)
  go_wp2_with (refine wpList_store_row rfl 26 (.tmp 8) (.tmp 17) rfl (w.heap.size + 2) #[.int .i64 W, .int .i64 H, .slice none 0 0] rfl rfl 26 zimg R2.out imgInfo rfl HOI.out ?_)
  clear hW0 R2 HOI HFT
  go_loopw [9] (fun s9 wr => ∃ (k : Nat) (A : Option Addr) (c : Nat), k ≤ m ∧ s9 = .int .i64 k ∧ Fz w wr W H r g b a k A c) (fun s9 _ => m - (intOf s9).toNat)
  case atStart => exact ⟨0, none, 0, by omega, rfl, HF0.out⟩
  case round =>
    clear HF0
    obtain ⟨k, A, c, hk, rfl, hf⟩ := hrel
    have HFZ := Lib.hid hf
    have hsz := hf.bel.size
    have x0 := row_cell hf.img 0
    have x1 := row_cell hf.img 1
    have x2 := row_cell hf.img 2
    clear hf
    by_cases hlt : k < m
    · have HLT := Lib.hid hlt
      have d0 : decide ((k : Int) < (m : Int)) = true := decide_eq_true (by omega)
      have e0 : decide (k < m) = true := decide_eq_true hlt
      have y0 : wr.cell? ⟨w.heap.size, 0, none⟩ = some (.int .u16 r) := row_cell HFZ.out.clr 0
      have y1 : wr.cell? ⟨w.heap.size, 1, none⟩ = some (.int .u16 g) := row_cell HFZ.out.clr 1
      have y2 : wr.cell? ⟨w.heap.size, 2, none⟩ = some (.int .u16 b) := row_cell HFZ.out.clr 2
      have y3 : wr.cell? ⟨w.heap.size, 3, none⟩ = some (.int .u16 a) := row_cell HFZ.out.clr 3
      have HWJ : Hid (wrap64 ((k : Int) + 1) = ((k + 1 : Nat) : Int)) := by show _ = _; rw [IntWalk.wrap64_in _ (by omega)]; rfl
      have HADD : Hid (Calls Tryd.prog 30 #[.agg #[.int .i64 W, .int .i64 H, .slice A (4 * k) c], .agg #[.int .u16 r, .int .u16 g, .int .u16 b, .int .u16 a]] wr (AddP w.heap.size wr W H A (4 * k) c (fillL [r, g, b, a] k ++ [r, g, b, a]))) := add_any wr HFZ.out.own (by omega) hsz
      have hwm := HWM.out
      clear hlt
      go_wp2_with fail
      clear hwm
      refine HADD.out.mono ?_
      rintro e w2 ⟨g2, c2, rfl, hown, hgr, -, -⟩
      obtain ⟨h1, h2⟩ := HFZ.out.step hown hgr
      have H1 := Lib.hid h1
      have H2 := Lib.hid h2
      have HOI : Hid ((#[.int .i64 W, .int .i64 H, .slice (some ⟨g2, 0, none⟩) (4 * k + 4) c2] : Array Value).all (·.oneCell') = true) := by show _ = _; simp [Value.oneCell']
      clear h1 h2 hown hgr HADD HFZ x0 x1 x2 y0 y1 y2 y3
      go_wp2_with (refine wpList_store_row rfl 26 (.tmp 8) (.tmp 27) rfl (w.heap.size + 2) #[.int .i64 W, .int .i64 H, .slice (some ⟨g2, 0, none⟩) (4 * k + 4) c2] rfl rfl 26 _ H1.out imgInfo rfl HOI.out ?_)
      go_roundw
      case rel => exact ⟨k + 1, _, c2, HLT.out, by first | rw [HWJ.out] | rfl, H2.out⟩
      case measure => have := HLT.out; simp [intOf]; omega
    · obtain rfl : k = m := by omega
      have d0 : decide ((k : Int) < (k : Int)) = false := by simp
      have HOI : Hid ((#[.int .i64 W, .int .i64 H, .slice A (4 * k) c] : Array Value).all (·.oneCell') = true) := by show _ = _; simp [Value.oneCell']
      have hwm := HWM.out
      clear hlt
      go_wp2_with (refine wpList_store_row rfl 26 (.tmp 6) (.tmp 28) rfl (w.heap.size + 1) #[.int .i64 W, .int .i64 H, .slice A (4 * k) c] rfl rfl 26 zimg HFZ.out.res imgInfo rfl HOI.out ?_)
      refine bodyPost_ret (results_row_tmp rfl _ _ (w.heap.size + 1) 26 #[.int .i64 W, .int .i64 H, .slice A (4 * k) c] (0, 0) _ rfl (setRow_heap _ _ _ _ _ _ HFZ.out.res) Tryd.underlying26 rfl imgInfo) rfl ?_
      refine ⟨below_setRow HFZ.out.bel (by omega) _, A, c, by rw [fillL_len]; rfl, ?_⟩
      rw [fillL_len]
      exact HFZ.out.own.kept (grown_row _ _ _) (.inr (own_ne HFZ.out.own HFZ.out.res (by decide)).symm)
/-- an owned image of which the four samples from q on may be others -/
def PutR (base g pc q : Nat) (w0 : World) (pix : List Int) (w : World) : Prop :=
  ∃ l : List Int, w.ownsRow base 43 1 (.slice (some ⟨g, 0, none⟩) pix.length pc) pix.length (l.map (.int .u16)) ∧ (∀ t, t < q ∨ q + 4 ≤ t → l[t]? = pix[t]?) ∧ (∀ v ∈ l, 0 ≤ v ∧ v < 65536) ∧ w0.grownBy w (some g)
theorem own_setJ {w : World} {base e g n c i : Nat} {xs : List Value} {v : Value} (h : w.ownsRow base e 1 (.slice (some ⟨g, 0, none⟩) n c) n xs) : (w.setCell ⟨g, i, none⟩ v).ownsRow base e 1 (.slice (some ⟨g, 0, none⟩) n c) n (xs.set i v) := by
  refine ⟨by have := h.1; simpa using this, ?_⟩
  rcases h.2 with ⟨hv, -⟩ | ⟨g', cap, cur, hv, h1, h2, h3, h4, h5, h6⟩
  · cases hv
  · injection hv with e1 e2 e3
    injection e1 with e1
    injection e1 with e1
    subst e1 e3
    refine .inr ⟨g, c, cur.setIfInBounds i v, rfl, h1, ?_, h3, h4, by simpa using h5, ?_⟩
    · rw [setCell_eq_setRow w g i cur e (0, 0) v h2]; exact setRow_heap _ _ _ _ _ _ h2
    · rw [Array.toList_setIfInBounds, List.take_set, h6]
theorem PutR.set {base g pc q i : Nat} {w0 w : World} {pix : List Int} {v : Int} (h : PutR base g pc q w0 pix w) (h1 : q ≤ i) (h2 : i < q + 4) (hv : 0 ≤ v ∧ v < 65536) : PutR base g pc q w0 pix (w.setCell ⟨g, i, none⟩ (.int .u16 v)) := by
  obtain ⟨l, ho, hl, hw, hb⟩ := h
  refine ⟨l.set i v, ?_, ?_, ?_, grown_set hb i _⟩
  · rw [List.map_set]; exact own_setJ ho
  · intro t ht
    rw [List.getElem?_set_ne (by omega)]
    exact hl t ht
  · intro x hx
    rcases List.mem_or_eq_of_mem_set hx with h | rfl
    · exact hw x h
    · exact hv
theorem PutR.drew {base g pc q : Nat} {w0 w : World} {pix : List Int} (h : PutR base g pc q w0 pix w) : PutR base g pc q w0 pix w.drew := by
  obtain ⟨l, ho, hl, hw, hb⟩ := h
  exact ⟨l, ho, hl, hw, grown_drew hb⟩
end Go.Proofs.YtbmlopklhgladaaDoor.Ard
