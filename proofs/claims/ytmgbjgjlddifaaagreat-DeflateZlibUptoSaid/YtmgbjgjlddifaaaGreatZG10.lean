/-
  Walks: merging two neighbouring sorted ranges of coins.
-/
import Derived.Test.YtmgbjgjlddifaaaGreatZG9
import Derived.Deep.DeepCutAuto
set_option linter.unusedVariables false
set_option linter.unusedSimpArgs false
namespace Go.Proofs.YtmgbjgjlddifaaaGreat.Srt
open Go.RowKit K Go.Sort

set_option maxRecDepth 100000 in
set_option maxHeartbeats 4000000 in
theorem symMerge_one {g n c a m b : Nat} {f : Nat → Coin} (w : World) (h : CB w g n f) (h1 : m ≤ a + 1) (h1' : a + 1 ≤ m) (h2 : m < b) (h3 : b ≤ n) (hn : n ≤ 1073741824) (hS : Srtd f m b) :
    Calls Tryz.prog 102 #[.slice (some ⟨g, 0, none⟩) n c, .int .i64 a, .int .i64 m, .int .i64 b, .func (.func 72) #[] #[]] w (InsPost w g n a b f) := by
  have HS := Lib.hid hS
  clear hS
  have hb0 : ((m : Int) - (a : Int) == 1) = true := by simp; omega
  go_enter Tryz.func102, Tryz.ntmps102
  go_wp2
  go_loopw [10, 11, 12] (fun iv jv _ wr => ∃ i j : Nat, m ≤ i ∧ i ≤ j ∧ j ≤ b ∧ iv = .int .i64 i ∧ jv = .int .i64 j ∧ CB wr g n f ∧ w.grownBy wr (some g) ∧ Hid ((∀ p, a + 1 ≤ p → p < i → (f p).w < (f a).w) ∧ (∀ p, j ≤ p → p < b → (f a).w ≤ (f p).w))) (fun iv jv _ _ => (intOf jv).toNat - (intOf iv).toNat)
  case atStart => exact ⟨m, b, by omega, by omega, by omega, rfl, rfl, h, World.grownBy.refl _ _, fun p k1 k2 => by omega, fun p k1 k2 => by omega⟩
  case round =>
    clear h
    obtain ⟨i, j, hi1, hij, hjb, rfl, rfl, h, hg, HB⟩ := hrel
    by_cases hlt : i < j
    · have hd : decide ((i : Int) < (j : Int)) = true := by simp; omega
      have A0 := fun n os => cell_grown h.lt (h.cell0 (i := (i + j) / 2) (by omega)) n os
      have A1 := fun n os => cell_grown h.lt (h.cell1 (i := (i + j) / 2) (by omega)) n os
      have B0 := fun n os => cell_grown h.lt (h.cell0 (i := a) (by omega)) n os
      have B1 := fun n os => cell_grown h.lt (h.cell1 (i := a) (by omega)) n os
      by_cases hcm : (f ((i + j) / 2)).w < (f a).w
      · have hcb : decide (cmpI (f ((i + j) / 2)).w (f a).w < 0) = true := by rw [cmpI_neg]; simp [hcm]
        have hB2 : Hid ((∀ p, a + 1 ≤ p → p < (i + j) / 2 + 1 → (f p).w < (f a).w) ∧ (∀ p, j ≤ p → p < b → (f a).w ≤ (f p).w)) :=
          ⟨fun p k1 k2 => Int.lt_of_le_of_lt (HS.out p ((i + j) / 2) (by omega) (by omega) (by omega)) hcm, HB.out.2⟩
        clear hcm
        go_wp2
        refine wp_region_quiet_grown (by kernel_rfl) (by kernel_rfl) ?_
        repeat (first | go_big_quiet_step ((go_at_call 72; exact lighter_grown)) | quiet_step ((go_at_call 72; exact lighter_grown)))
        refine wpQuiet_nil ?_
        intro _ hw'
        obtain ⟨⟨nq, osq⟩, hw''⟩ := hw'
        subst hw''
        have h3 := h.grown nq osq
        have hg3 := grown_grow hg nq osq
        generalize grow (wr.drewN nq) osq = W2 at *
        clear A0 A1 B0 B1 h hg
        go_wp2
        go_roundw
        case rel => exact ⟨(i + j) / 2 + 1, j, by omega, by omega, by omega, eint (by omega), rfl, h3, hg3, hB2⟩
        case measure => simp [intOf]; omega
      · have hcb : decide (cmpI (f ((i + j) / 2)).w (f a).w < 0) = false := by rw [cmpI_neg]; simp; omega
        have hB2 : Hid ((∀ p, a + 1 ≤ p → p < i → (f p).w < (f a).w) ∧ (∀ p, (i + j) / 2 ≤ p → p < b → (f a).w ≤ (f p).w)) :=
          ⟨HB.out.1, fun p k1 k2 => Int.le_trans (by omega) (HS.out ((i + j) / 2) p (by omega) (by omega) (by omega))⟩
        clear hcm
        go_wp2
        refine wp_region_quiet_grown (by kernel_rfl) (by kernel_rfl) ?_
        repeat (first | go_big_quiet_step ((go_at_call 72; exact lighter_grown)) | quiet_step ((go_at_call 72; exact lighter_grown)))
        refine wpQuiet_nil ?_
        intro _ hw'
        obtain ⟨⟨nq, osq⟩, hw''⟩ := hw'
        subst hw''
        have h3 := h.grown nq osq
        have hg3 := grown_grow hg nq osq
        generalize grow (wr.drewN nq) osq = W2 at *
        clear A0 A1 B0 B1 h hg
        go_wp2
        go_roundw
        case rel => exact ⟨i, (i + j) / 2, by omega, by omega, by omega, rfl, eint (by omega), h3, hg3, hB2⟩
        case measure => simp [intOf]; omega
    · obtain rfl : i = j := by omega
      have hd : decide ((i : Int) < (i : Int)) = false := by simp
      have hfin : Hid (Srtd (mvr f a (i - 1)) a b) := mvr_sorted (by omega) (by omega) HB.out.1 HB.out.2 (by have := HS.out; rwa [show m = a + 1 by omega] at this)
      have h0 : CB wr g n (mvr f a a) := by rw [mvr_zero]; exact h
      go_wp2
      go_loopw [13] (fun kv wr => ∃ k : Nat, a ≤ k ∧ k ≤ i - 1 ∧ kv = .int .i64 k ∧ CB wr g n (mvr f a k) ∧ w.grownBy wr (some g) ∧ Hid (Pm a b f (mvr f a k))) (fun kv _ => i - (intOf kv).toNat)
      case atStart => exact ⟨a, by omega, by omega, rfl, h0, hg, by show Pm _ _ _ _; rw [mvr_zero]; exact Pm.refl _ _ _⟩
      case round =>
        clear h h0 hg
        obtain ⟨k, hk1, hk2, rfl, h, hg, HP⟩ := hrel
        by_cases hlt2 : k < i - 1
        · have hd2 : decide ((k : Int) < (i : Int) - 1) = true := by simp; omega
          have a0 := h.cell0 (i := k) (by omega)
          have a1 := h.cell1 (i := k) (by omega)
          have b0 := h.cell0 (i := k + 1) (by omega)
          have b1 := h.cell1 (i := k + 1) (by omega)
          have e0 := h.frozen (k * 2)
          have e1 := h.frozen (k * 2 + 1)
          have e2 := h.frozen ((k + 1) * 2)
          have e3 := h.frozen ((k + 1) * 2 + 1)
          have hs := h.swap (i := k) (j := k + 1) (by omega) (by omega) rfl rfl
          rw [mvr_succ f a k hk1] at hs
          have hP2 : Hid (Pm a b f (mvr f a (k+1))) := by
            show Pm _ _ _ _
            rw [← mvr_succ f a k hk1]
            refine HP.out.trans (Pm.swp _ (by omega) (by omega) (by omega) (by omega) ⟨.inr rfl, ?_⟩)
            have := HB.out.1 (k + 1) (by omega) (by omega)
            unfold mvr
            rw [if_neg (by omega), if_pos rfl, if_neg (by omega), if_neg (by omega)]
            omega
          go_wp2
          go_region
          go_wp2
          go_roundw
          case rel => exact ⟨k + 1, by omega, by omega, by go_num, hs, grown_swap hg _ _ _ _ _ _ _ _, hP2⟩
          case measure => simp [intOf]; omega
        · obtain rfl : k = i - 1 := by omega
          have hd2 : decide (((i - 1 : Nat) : Int) < (i : Int) - 1) = false := by simp; omega
          go_wp2
          refine bodyPost_ret (results_none rfl _ _ _) rfl ?_
          exact ⟨_, rfl, hg, h, HP.out, hfin.out⟩

set_option maxRecDepth 100000 in
set_option maxHeartbeats 4000000 in
theorem symMerge_last {g n c a m b : Nat} {f : Nat → Coin} (w : World) (h : CB w g n f) (h1 : a + 1 < m) (h2 : b ≤ m + 1) (h2' : m + 1 ≤ b) (h3 : b ≤ n) (hn : n ≤ 1073741824) (hS : Srtd f a m) :
    Calls Tryz.prog 102 #[.slice (some ⟨g, 0, none⟩) n c, .int .i64 a, .int .i64 m, .int .i64 b, .func (.func 72) #[] #[]] w (InsPost w g n a b f) := by
  have HS := Lib.hid hS
  clear hS
  have hb0 : ((m : Int) - (a : Int) == 1) = false := by simp; omega
  have hb1 : ((b : Int) - (m : Int) == 1) = true := by simp; omega
  go_enter Tryz.func102, Tryz.ntmps102
  go_wp2
  go_loopw [14, 15, 16] (fun iv jv _ wr => ∃ i j : Nat, a ≤ i ∧ i ≤ j ∧ j ≤ m ∧ iv = .int .i64 i ∧ jv = .int .i64 j ∧ CB wr g n f ∧ w.grownBy wr (some g) ∧ Hid ((∀ p, a ≤ p → p < i → (f p).w ≤ (f m).w) ∧ (∀ p, j ≤ p → p < m → (f m).w < (f p).w))) (fun iv jv _ _ => (intOf jv).toNat - (intOf iv).toNat)
  case atStart => exact ⟨a, m, by omega, by omega, by omega, rfl, rfl, h, World.grownBy.refl _ _, fun p k1 k2 => by omega, fun p k1 k2 => by omega⟩
  case round =>
    clear h
    obtain ⟨i, j, hi1, hij, hjb, rfl, rfl, h, hg, HB⟩ := hrel
    by_cases hlt : i < j
    · have hd : decide ((i : Int) < (j : Int)) = true := by simp; omega
      have A0 := fun n os => cell_grown h.lt (h.cell0 (i := (i + j) / 2) (by omega)) n os
      have A1 := fun n os => cell_grown h.lt (h.cell1 (i := (i + j) / 2) (by omega)) n os
      have B0 := fun n os => cell_grown h.lt (h.cell0 (i := m) (by omega)) n os
      have B1 := fun n os => cell_grown h.lt (h.cell1 (i := m) (by omega)) n os
      by_cases hcm : (f m).w < (f ((i + j) / 2)).w
      · have hcb : decide (cmpI (f m).w (f ((i + j) / 2)).w < 0) = true := by rw [cmpI_neg]; simp [hcm]
        have hB2 : Hid ((∀ p, a ≤ p → p < i → (f p).w ≤ (f m).w) ∧ (∀ p, (i + j) / 2 ≤ p → p < m → (f m).w < (f p).w)) :=
          ⟨HB.out.1, fun p k1 k2 => Int.lt_of_lt_of_le hcm (HS.out ((i + j) / 2) p (by omega) (by omega) (by omega))⟩
        clear hcm
        go_wp2
        refine wp_region_quiet_grown (by kernel_rfl) (by kernel_rfl) ?_
        repeat (first | go_big_quiet_step ((go_at_call 72; exact lighter_grown)) | quiet_step ((go_at_call 72; exact lighter_grown)))
        refine wpQuiet_nil ?_
        intro _ hw'
        obtain ⟨⟨nq, osq⟩, hw''⟩ := hw'
        subst hw''
        have h3 := h.grown nq osq
        have hg3 := grown_grow hg nq osq
        generalize grow (wr.drewN nq) osq = W2 at *
        clear A0 A1 B0 B1 h hg
        go_wp2
        go_roundw
        case rel => exact ⟨i, (i + j) / 2, by omega, by omega, by omega, rfl, eint (by omega), h3, hg3, hB2⟩
        case measure => simp [intOf]; omega
      · have hcb : decide (cmpI (f m).w (f ((i + j) / 2)).w < 0) = false := by rw [cmpI_neg]; simp; omega
        have hB2 : Hid ((∀ p, a ≤ p → p < (i + j) / 2 + 1 → (f p).w ≤ (f m).w) ∧ (∀ p, j ≤ p → p < m → (f m).w < (f p).w)) :=
          ⟨fun p k1 k2 => Int.le_trans (HS.out p ((i + j) / 2) (by omega) (by omega) (by omega)) (by omega), HB.out.2⟩
        clear hcm
        go_wp2
        refine wp_region_quiet_grown (by kernel_rfl) (by kernel_rfl) ?_
        repeat (first | go_big_quiet_step ((go_at_call 72; exact lighter_grown)) | quiet_step ((go_at_call 72; exact lighter_grown)))
        refine wpQuiet_nil ?_
        intro _ hw'
        obtain ⟨⟨nq, osq⟩, hw''⟩ := hw'
        subst hw''
        have h3 := h.grown nq osq
        have hg3 := grown_grow hg nq osq
        generalize grow (wr.drewN nq) osq = W2 at *
        clear A0 A1 B0 B1 h hg
        go_wp2
        go_roundw
        case rel => exact ⟨(i + j) / 2 + 1, j, by omega, by omega, by omega, eint (by omega), rfl, h3, hg3, hB2⟩
        case measure => simp [intOf]; omega
    · obtain rfl : i = j := by omega
      have hd : decide ((i : Int) < (i : Int)) = false := by simp
      have hfin : Hid (Srtd (mvl f m i) a b) := by
        have := mvl_sorted (by omega) hjb HB.out.1 HB.out.2 HS.out
        show Srtd _ _ _
        rwa [show b = m + 1 by omega]
      have h0 : CB wr g n (mvl f m m) := by rw [mvl_zero]; exact h
      go_wp2
      go_loopw [17] (fun kv wr => ∃ k : Nat, i ≤ k ∧ k ≤ m ∧ kv = .int .i64 k ∧ CB wr g n (mvl f m k) ∧ w.grownBy wr (some g) ∧ Hid (Pm a b f (mvl f m k))) (fun kv _ => (intOf kv).toNat)
      case atStart => exact ⟨m, by omega, by omega, rfl, h0, hg, by show Pm _ _ _ _; rw [mvl_zero]; exact Pm.refl _ _ _⟩
      case round =>
        clear h h0 hg
        obtain ⟨k, hk1, hk2, rfl, h, hg, HP⟩ := hrel
        by_cases hlt2 : i < k
        · have hd2 : decide ((i : Int) < (k : Int)) = true := by simp; omega
          have a0 := h.cell0 (i := k) (by omega)
          have a1 := h.cell1 (i := k) (by omega)
          have b0 := h.cell0 (i := k - 1) (by omega)
          have b1 := h.cell1 (i := k - 1) (by omega)
          have e0 := h.frozen (k * 2)
          have e1 := h.frozen (k * 2 + 1)
          have e2 := h.frozen ((k - 1) * 2)
          have e3 := h.frozen ((k - 1) * 2 + 1)
          have hs := h.swap (i := k) (j := k - 1) (by omega) (by omega) rfl rfl
          have hk' : swp (mvl f m k) k (k - 1) = mvl f m (k - 1) := by
            obtain ⟨q, rfl⟩ : ∃ q, k = q + 1 := ⟨k - 1, by omega⟩
            exact mvl_succ f m q (by omega)
          rw [hk'] at hs
          have hP2 : Hid (Pm a b f (mvl f m (k - 1))) := by
            show Pm _ _ _ _
            rw [← hk']
            refine HP.out.trans (Pm.swp _ (by omega) (by omega) (by omega) (by omega) ⟨.inl (by omega), ?_⟩)
            have := HB.out.2 (k - 1) (by omega) (by omega)
            unfold mvl
            rw [if_neg (by omega), if_pos rfl, if_neg (by omega), if_neg (by omega)]
            omega
          clear hk'
          go_wp2
          go_region
          go_wp2
          go_roundw
          case rel => exact ⟨k - 1, by omega, by omega, by go_num, hs, grown_swap hg _ _ _ _ _ _ _ _, hP2⟩
          case measure => simp [intOf]; omega
        · obtain rfl : i = k := by omega
          have hd2 : decide ((i : Int) < (i : Int)) = false := by simp
          go_wp2
          refine bodyPost_ret (results_none rfl _ _ _) rfl ?_
          exact ⟨_, rfl, hg, h, HP.out, hfin.out⟩

def SymOk (N : Nat) : Prop := ∀ (g n c a m b : Nat) (f : Nat → Coin) (w : World), b ≤ a + N → CB w g n f → a < m → m < b → b ≤ n → n ≤ 1073741824 → Srtd f a m → Srtd f m b →
  Calls Tryz.prog 102 #[.slice (some ⟨g, 0, none⟩) n c, .int .i64 a, .int .i64 m, .int .i64 b, .func (.func 72) #[] #[]] w (InsPost w g n a b f)
theorem SymOk.at {N : Nat} (H : SymOk N) {g n c a m b : Nat} {A M B : Int} {f : Nat → Coin} (w : World) (h0 : b ≤ a + N) (h : CB w g n f) (h1 : a < m) (h2 : m < b) (h3 : b ≤ n) (hn : n ≤ 1073741824) (hL : Srtd f a m) (hR : Srtd f m b) (hA : A = a) (hM : M = m) (hB : B = b) :
    Calls Tryz.prog 102 #[.slice (some ⟨g, 0, none⟩) n c, .int .i64 A, .int .i64 M, .int .i64 B, .func (.func 72) #[] #[]] w (InsPost w g n a b f) := by
  subst hA hM hB; exact H g n c a m b f w h0 h h1 h2 h3 hn hL hR

set_option maxRecDepth 100000 in
set_option maxHeartbeats 4000000 in
theorem symMerge_gen {N g n c a m b : Nat} {f : Nat → Coin} (H : SymOk N) (w : World) (h0 : b ≤ a + N + 1) (h : CB w g n f) (h1 : a + 1 < m) (h2 : m + 1 < b) (h3 : b ≤ n) (hn : n ≤ 1073741824) (hL : Srtd f a m) (hR : Srtd f m b) :
    Calls Tryz.prog 102 #[.slice (some ⟨g, 0, none⟩) n c, .int .i64 a, .int .i64 m, .int .i64 b, .func (.func 72) #[] #[]] w (InsPost w g n a b f) := by
  have HL := Lib.hid hL
  have HR := Lib.hid hR
  have HH := Lib.hid H
  clear hL hR H
  have hb0 : ((m : Int) - (a : Int) == 1) = false := by simp; omega
  have hb1 : ((b : Int) - (m : Int) == 1) = false := by simp; omega
  obtain ⟨mid, hm0⟩ : ∃ mid : Nat, mid = (a + b) / 2 := ⟨_, rfl⟩
  have hmid : ((a : Int) + (b : Int)) / 2 = (mid : Int) := by omega
  obtain ⟨lo, hlo⟩ : ∃ lo : Nat, lo = if mid < m then mid + m - b else a := ⟨_, rfl⟩
  obtain ⟨r0, hr0⟩ : ∃ r0 : Nat, r0 = if mid < m then mid else m := ⟨_, rfl⟩
  have hcutF : ∀ s, lo ≤ s → s ≤ r0 → (lo < s → (f (s - 1)).w ≤ (f (mid + m - s)).w) → (s < r0 → (f (mid + m - 1 - s)).w < (f s).w) → Cut f a m b mid s := fun s k1 k2 k3 k4 => ⟨hm0, by rw [← hlo]; exact k1, by rw [← hr0]; exact k2, by rw [← hlo]; exact k3, by rw [← hr0]; exact k4⟩
  have HC := Lib.hid hcutF
  clear hcutF
  have g1 : a ≤ lo ∧ lo ≤ r0 ∧ r0 ≤ mid ∧ r0 ≤ m ∧ mid ≤ b ∧ a + b ≤ 2 * mid + 1 ∧ 2 * mid ≤ a + b ∧ mid + m ≤ lo + b ∧ (mid < m → lo + b ≤ mid + m) ∧ (m ≤ mid → lo ≤ a) ∧ (mid < m → mid ≤ r0) ∧ (m ≤ mid → m ≤ r0) := by
    rw [hlo, hr0]; split <;> omega
  obtain ⟨g1, g2, g3, g4, g5, g6, g7, g8, g9, g10, g11, g12⟩ := g1
  clear hm0 hlo hr0
  go_enter Tryz.func102, Tryz.ntmps102
  go_upto_if 140 with (fail)
  go_cut [20, 21] (fun sv rv wx => sv = .int .i64 lo ∧ rv = .int .i64 r0 ∧ w = wx)
  case first =>
    as_aux_lemma =>
      by_cases hmm : mid < m
      · have hd0 : decide ((mid : Int) < (m : Int)) = true := by simp; omega
        go_wp2
        go_meet
        exact ⟨eint (by omega), eint (by omega), rfl⟩
      · have hd0 : decide ((mid : Int) < (m : Int)) = false := by simp; omega
        go_wp2
        go_meet
        exact ⟨eint (by omega), eint (by omega), rfl⟩
  obtain ⟨rfl, rfl, rfl⟩ := hcut
  go_wp2
  go_loopw [20, 21, 23] (fun sv rv _ wr => ∃ s r : Nat, lo ≤ s ∧ s ≤ r ∧ r ≤ r0 ∧ sv = .int .i64 s ∧ rv = .int .i64 r ∧ CB wr g n f ∧ w.grownBy wr (some g) ∧ Hid ((lo < s → (f (s - 1)).w ≤ (f (mid + m - s)).w) ∧ (r < r0 → (f (mid + m - 1 - r)).w < (f r).w))) (fun sv rv _ _ => (intOf rv).toNat - (intOf sv).toNat)
  case atStart => exact ⟨lo, r0, by omega, by omega, by omega, rfl, rfl, h, World.grownBy.refl _ _, fun k => by omega, fun k => by omega⟩
  case round =>
    clear h
    obtain ⟨s, r, hs1, hsr, hr1, rfl, rfl, h, hg, HB⟩ := hrel
    by_cases hlt : s < r
    · have hd : decide ((s : Int) < (r : Int)) = true := by simp; omega
      have A0 := fun n os => cell_grown h.lt (h.cell0 (i := mid + m - 1 - (s + r) / 2) (by omega)) n os
      have A1 := fun n os => cell_grown h.lt (h.cell1 (i := mid + m - 1 - (s + r) / 2) (by omega)) n os
      have B0 := fun n os => cell_grown h.lt (h.cell0 (i := (s + r) / 2) (by omega)) n os
      have B1 := fun n os => cell_grown h.lt (h.cell1 (i := (s + r) / 2) (by omega)) n os
      by_cases hcm : (f (mid + m - 1 - (s + r) / 2)).w < (f ((s + r) / 2)).w
      · as_aux_lemma =>
          have hcb : decide (cmpI (f (mid + m - 1 - (s + r) / 2)).w (f ((s + r) / 2)).w < 0) = true := by rw [cmpI_neg]; simp [hcm]
          have hB2 : Hid ((lo < s → (f (s - 1)).w ≤ (f (mid + m - s)).w) ∧ ((s + r) / 2 < r0 → (f (mid + m - 1 - (s + r) / 2)).w < (f ((s + r) / 2)).w)) := ⟨HB.out.1, fun _ => hcm⟩
          clear hcm
          go_wp2
          refine wp_region_quiet_grown (by kernel_rfl) (by kernel_rfl) ?_
          repeat (first | go_big_quiet_step ((go_at_call 72; exact lighter_grown)) | quiet_step ((go_at_call 72; exact lighter_grown)))
          refine wpQuiet_nil ?_
          intro _ hw'
          obtain ⟨⟨nq, osq⟩, hw''⟩ := hw'
          subst hw''
          have h3 := h.grown nq osq
          have hg3 := grown_grow hg nq osq
          generalize grow (wr.drewN nq) osq = W2 at *
          clear A0 A1 B0 B1 h hg
          go_wp2
          go_roundw
          case rel => exact ⟨s, (s + r) / 2, by omega, by omega, by omega, rfl, eint (by omega), h3, hg3, hB2⟩
          case measure => simp [intOf]; omega
      · as_aux_lemma =>
          have hcb : decide (cmpI (f (mid + m - 1 - (s + r) / 2)).w (f ((s + r) / 2)).w < 0) = false := by rw [cmpI_neg]; simp; omega
          have hB2 : Hid ((lo < (s + r) / 2 + 1 → (f ((s + r) / 2 + 1 - 1)).w ≤ (f (mid + m - ((s + r) / 2 + 1))).w) ∧ (r < r0 → (f (mid + m - 1 - r)).w < (f r).w)) :=
            ⟨fun _ => by rw [Nat.add_sub_cancel, show mid + m - ((s + r) / 2 + 1) = mid + m - 1 - (s + r) / 2 by omega]; omega, HB.out.2⟩
          clear hcm
          go_wp2
          refine wp_region_quiet_grown (by kernel_rfl) (by kernel_rfl) ?_
          repeat (first | go_big_quiet_step ((go_at_call 72; exact lighter_grown)) | quiet_step ((go_at_call 72; exact lighter_grown)))
          refine wpQuiet_nil ?_
          intro _ hw'
          obtain ⟨⟨nq, osq⟩, hw''⟩ := hw'
          subst hw''
          have h3 := h.grown nq osq
          have hg3 := grown_grow hg nq osq
          generalize grow (wr.drewN nq) osq = W2 at *
          clear A0 A1 B0 B1 h hg
          go_wp2
          go_roundw
          case rel => exact ⟨(s + r) / 2 + 1, r, by omega, by omega, by omega, eint (by omega), rfl, h3, hg3, hB2⟩
          case measure => simp [intOf]; omega
    · obtain rfl : s = r := by omega
      have hd : decide ((s : Int) < (s : Int)) = false := by simp
      have hcutS : Cut f a m b mid s := HC.out s hs1 hr1 HB.out.1 HB.out.2
      obtain ⟨b1, b2, b3, b4, b5, b6, b7, b8, b9⟩ := hcutS.bounds (by omega) (by omega)
      obtain ⟨q1, q2, q3, q4, q5⟩ := hcutS.facts (by omega) (by omega) HL.out HR.out
      have HPM : Hid (s < m ∧ s < mid → Pm a b f (rot f s m (mid + m - s))) := fun hk => hcutS.pm (by omega) (by omega) HL.out HR.out hk
      have Q1 := Lib.hid q1
      have Q2 := Lib.hid q2
      have Q3 := Lib.hid q3
      have Q4 := Lib.hid q4
      have Q5 := Lib.hid q5
      clear q1 q2 q3 q4 q5 hcutS
      have hF0 : ¬ (s < m ∧ s < mid) → rot f s m (mid + m - s) = f := fun hk => rot_triv f s m (mid + m - s) (by omega) (by omega) (by omega)
      have HF0 := Lib.hid hF0
      clear hF0
      go_upto_region 39 with (fail)
      go_cut [185] (fun v wx => ∃ t : Bool, v = .bool t ∧ CB wx g n f ∧ w.grownBy wx (some g) ∧ Hid (t = decide (s < m ∧ s < mid)))
      case first =>
        as_aux_lemma =>
          by_cases ht : s < m
          · have hd1 : decide ((s : Int) < (m : Int)) = true := by simp; omega
            go_wp2
            go_meet
            exact ⟨_, rfl, h, hg, by
              show _ = _
              by_cases ht2 : s < mid
              · rw [decide_eq_true (by omega), decide_eq_true (by omega)]
              · rw [decide_eq_false (by omega), decide_eq_false (by omega)]⟩
          · have hd1 : decide ((s : Int) < (m : Int)) = false := by simp; omega
            go_wp2
            go_meet
            exact ⟨_, rfl, h, hg, by
              show _ = _
              rw [decide_eq_false (by omega)]⟩
      obtain ⟨t, rfl, h, hg, Ht⟩ := hcut
      go_upto_if 185 with (fail)
      go_cut [] (fun wx => CB wx g n (rot f s m (mid + m - s)) ∧ w.grownBy wx (some g) ∧ Hid (Pm a b f (rot f s m (mid + m - s))))
      case first =>
        as_aux_lemma =>
          cases t
          · have hk : ¬ (s < m ∧ s < mid) := of_decide_eq_false Ht.out.symm
            go_wp2
            go_meet
            rw [HF0.out hk]
            exact ⟨h, hg, Pm.refl _ _ _⟩
          · obtain ⟨ht, ht2⟩ : s < m ∧ s < mid := of_decide_eq_true Ht.out.symm
            go_wp2_with (go_at_call 104; refine (rotate_at (a := s) (m := m) (b := mid + m - s) _ h ht (by omega) (by omega) hn rfl rfl (by omega)).mono ?_; rintro e w' ⟨rfl, hg2, hc2, hp2⟩)
            go_meet
            exact ⟨hc2, grown_trans hg hg2, HPM.out ⟨ht, ht2⟩⟩
      obtain ⟨hF, hgF, HPF⟩ := hcut
      clear h hg Ht HPM
      generalize rot f s m (mid + m - s) = F at *
      go_upto_region 41 with (fail)
      go_cut [199] (fun v wx => ∃ t : Bool, v = .bool t ∧ CB wx g n F ∧ w.grownBy wx (some g) ∧ Hid (t = decide (a < s ∧ s < mid)))
      case first =>
        as_aux_lemma =>
          by_cases ht : a < s
          · have hd1 : decide ((a : Int) < (s : Int)) = true := by simp; omega
            go_wp2
            go_meet
            exact ⟨_, rfl, hF, hgF, by
              show _ = _
              by_cases ht2 : s < mid
              · rw [decide_eq_true (by omega), decide_eq_true (by omega)]
              · rw [decide_eq_false (by omega), decide_eq_false (by omega)]⟩
          · have hd1 : decide ((a : Int) < (s : Int)) = false := by simp; omega
            go_wp2
            go_meet
            exact ⟨_, rfl, hF, hgF, by
              show _ = _
              rw [decide_eq_false (by omega)]⟩
      clear hF hgF
      obtain ⟨t, rfl, hF, hgF, Ht⟩ := hcut
      go_upto_if 199 with (fail)
      go_cut [] (fun wx => ∃ f1, CB wx g n f1 ∧ w.grownBy wx (some g) ∧ Hid (Pm a mid F f1) ∧ Hid (Srtd f1 a mid))
      case first =>
        as_aux_lemma =>
          cases t
          · have hk : ¬ (a < s ∧ s < mid) := of_decide_eq_false Ht.out.symm
            go_wp2
            go_meet
            exact ⟨F, hF, hgF, Pm.refl _ _ _, by
              show Srtd _ _ _
              rcases (by omega : s = a ∨ s = mid) with e | e
              · have := Q2.out; rwa [e] at this
              · have := Q1.out; rwa [e] at this⟩
          · obtain ⟨ht, ht2⟩ : a < s ∧ s < mid := of_decide_eq_true Ht.out.symm
            go_wp2_with (go_at_call 102; refine (HH.out.at (a := a) (m := s) (b := mid) _ (by omega) hF ht ht2 (by omega) hn Q1.out Q2.out rfl rfl rfl).mono ?_; rintro e w' ⟨f1, rfl, hg2, hc2, hp2, hs2⟩)
            go_meet
            exact ⟨f1, hc2, grown_trans hgF hg2, hp2, hs2⟩
      obtain ⟨f1, hF1, hgF1, HP1, HS1⟩ := hcut
      clear hF hgF Ht
      have Q3' : Hid (Srtd f1 mid (mid + m - s)) := fun p q k1 k2 k3 => by rw [HP1.out.off (i := p) (by omega), HP1.out.off (i := q) (by omega)]; exact Q3.out p q k1 k2 k3
      have Q4' : Hid (Srtd f1 (mid + m - s) b) := fun p q k1 k2 k3 => by rw [HP1.out.off (i := p) (by omega), HP1.out.off (i := q) (by omega)]; exact Q4.out p q k1 k2 k3
      go_upto_region 43 with (fail)
      go_cut [213] (fun v wx => ∃ t : Bool, v = .bool t ∧ CB wx g n f1 ∧ w.grownBy wx (some g) ∧ Hid (t = decide (s < m ∧ mid + m - s < b)))
      case first =>
        as_aux_lemma =>
          by_cases ht : s < m
          · have hd1 : decide ((mid : Int) < (mid : Int) + (m : Int) - (s : Int)) = true := by simp; omega
            go_wp2
            go_meet
            exact ⟨_, rfl, hF1, hgF1, by
              show _ = _
              by_cases ht2 : mid + m - s < b
              · rw [decide_eq_true (by omega), decide_eq_true (by omega)]
              · rw [decide_eq_false (by omega), decide_eq_false (by omega)]⟩
          · have hd1 : decide ((mid : Int) < (mid : Int) + (m : Int) - (s : Int)) = false := by simp; omega
            go_wp2
            go_meet
            exact ⟨_, rfl, hF1, hgF1, by
              show _ = _
              rw [decide_eq_false (by omega)]⟩
      clear hF1 hgF1
      obtain ⟨t, rfl, hF1, hgF1, Ht⟩ := hcut
      cases t
      · have hk : ¬ (s < m ∧ mid + m - s < b) := of_decide_eq_false Ht.out.symm
        go_wp2
        go_end0
        have hs2 : Srtd f1 mid b := by
          rcases (by omega : s = m ∨ mid + m - s = b) with e | e
          · have := Q4'.out; rwa [show mid + m - s = mid by omega] at this
          · have := Q3'.out; rwa [e] at this
        exact ⟨f1, rfl, hgF1, hF1, HPF.out.trans (HP1.out.mono (by omega) (by omega)), halves_sorted (by omega) (by omega) HP1.out HS1.out (Pm.refl _ _ _) hs2 Q5.out⟩
      · obtain ⟨ht, ht2⟩ : s < m ∧ mid + m - s < b := of_decide_eq_true Ht.out.symm
        go_wp2_with (go_at_call 102; refine (HH.out.at (a := mid) (m := mid + m - s) (b := b) _ (by omega) hF1 (by omega) ht2 (by omega) hn Q3'.out Q4'.out rfl (by omega) rfl).mono ?_; rintro e w' ⟨f2, rfl, hg2, hc2, hp2, hs2⟩)
        go_end0
        exact ⟨f2, rfl, grown_trans hgF1 hg2, hc2, (HPF.out.trans (HP1.out.mono (by omega) (by omega))).trans (hp2.mono (by omega) (by omega)), halves_sorted (by omega) (by omega) HP1.out HS1.out hp2 hs2 Q5.out⟩
end Go.Proofs.YtmgbjgjlddifaaaGreat.Srt
