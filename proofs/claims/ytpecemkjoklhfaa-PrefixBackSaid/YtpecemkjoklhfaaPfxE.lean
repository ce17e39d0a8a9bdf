/-
  Walks: Decoder.above, Decoder.Next.
-/
import Derived.Test.YtpecemkjoklhfaaPfxD
import Derived.Test.YtpecemkjoklhfaaBitsR
set_option linter.unusedVariables false
set_option linter.unusedSimpArgs false
namespace Go.Proofs.Ytpecemkjoklhfaa.Pfx
open Go.RowKit K
attribute [local irreducible] first tabB deepB startB

/-- a decoder of the lengths l at block d -/
structure Dc (w : World) (d : Nat) (l : List Int) (A : Option Addr) (c : Nat) : Prop where
  row : w.rowIs d 81 53 (decF l 17 17 0 (.slice A (startB l 17) c) (deepB l 17))
  tab : SI w .i64 A (startB l 17) (tabB l 17)
  short : l.length ≤ 4096
theorem Dc.of_D1 {w wr : World} {l : List Int} {v : Value} (h : D1 w wr l 17 17 0 v) (hs : l.length ≤ 4096) :
    ∃ A c, v = .slice A (startB l 17) c ∧ Dc wr w.heap.size l A c ∧ ∀ b off s, A = some ⟨b, off, s⟩ → w.heap.size < b := by
  have ht := h.tab
  rw [cnt_zero, idx_zero, List.append_nil, Nat.add_zero] at ht
  obtain ⟨A, c, rfl⟩ := own_form ht
  have hl : startB l 17 + cnt l 17 l.length ≤ l.length := cnt_sum l 16
  refine ⟨A, c, rfl, ⟨?_, SI.of_own ht (by show _ * 8 ≤ _; omega), hs⟩, fun b off s e => ?_⟩
  · have e : deepU l 17 0 = deepB l 17 := by unfold deepU; rw [cnt_zero, if_neg (by omega)]
    have := h.row
    rw [e] at this
    exact this
  · have := (ht.lt b (by rw [e]; rfl)).1
    omega
theorem Dc.keep {w w' : World} {d l A c} (h : Dc w d l A c) (hp : w'.heap[d]? = w.heap[d]?) (hd : ∀ b off s, A = some ⟨b, off, s⟩ → b < w.heap.size → w'.heap[b]? = w.heap[b]?) : Dc w' d l A c :=
  ⟨h.row.of_block hp, ⟨h.tab.len, h.tab.sz, fun j u hu => by
    obtain ⟨b, off, rfl, hc⟩ := h.tab.sl j u hu
    exact ⟨b, off, rfl, (World.cell?_of_block (a := ⟨b, off + j, none⟩) (hd b off none rfl (World.block_lt_of_cell? w _ hc))).trans hc⟩⟩, h.short⟩
theorem decF_first {l : List Int} {v : Value} {dp j : Nat} (h1 : 1 ≤ j) (h : j ≤ 16) : decF l 17 17 0 v dp j = .int .i64 (first l j) := by
  unfold decF; rw [if_pos (by omega), if_pos (by omega)]
theorem decF_start {l : List Int} {v : Value} {dp j : Nat} (h1 : 1 ≤ j) (h : j ≤ 16) : decF l 17 17 0 v dp (17 + j) = .int .i64 (startB l j) := by
  unfold decF; rw [if_neg (by omega), if_pos (by omega), if_pos (by omega), show 17 + j - 17 = j by omega]
theorem decF_count {l : List Int} {v : Value} {dp j : Nat} (h1 : 1 ≤ j) (h : j ≤ 16) : decF l 17 17 0 v dp (34 + j) = .int .i64 (cnt l j l.length) := by
  unfold decF; rw [if_neg (by omega), if_neg (by omega), if_pos (by omega), if_neg (by omega), if_pos (by omega), show 34 + j - 34 = j by omega]

set_option maxHeartbeats 1000000 in
theorem above_any {d : Nat} {l : List Int} {A : Option Addr} {c : Nat} (w : World) (HD : Dc w d l A c) (n : Nat) (hn1 : 1 ≤ n) (hn : n ≤ deepB l 17) :
    Calls Try.prog 41 #[.pointer (some ⟨d, 0, none⟩), .int .i64 n] w fun e w' => e = .returned (.int .i64 (aboveM l (deepB l 17) n)) ∧ ∃ k, w' = w.drewN k := by
  have hdl : deepB l 17 ≤ 16 := deepB_lt l 16
  have c52 := HD.row.cell (i := 52) (by omega)
  have e52 : decF l 17 17 0 (.slice A (startB l 17) c) (deepB l 17) 52 = .int .i64 (deepB l 17) := rfl
  rw [e52] at c52
  have cf := HD.row.cell (i := deepB l 17) (by omega)
  rw [decF_first (by omega) (by omega)] at cf
  have cc := HD.row.cell (i := 34 + deepB l 17) (by omega)
  rw [decF_count (by omega) (by omega)] at cc
  have hfl := first_le l (deepB l 17) (by omega) HD.short
  have hcl := cnt_le l (deepB l 17) l.length
  have hsh := HD.short
  by_cases hd : deepB l 17 ≤ n
  · have HE : Hid (aboveM l (deepB l 17) n = 0) := by show aboveM l (deepB l 17) n = 0; unfold aboveM; rw [if_pos hd]
    clear e52
    generalize deepB l 17 = dd at *
    obtain rfl : n = dd := by omega
    go_enter Try.func41, Try.ntmps41
    go_wp2
    go_quiet (fail)
    go_wp2
    go_ret
    rw [HE.out]; exact ⟨rfl, _, rfl⟩
  · have HE : Hid (aboveM l (deepB l 17) n = ((first l (deepB l 17) : Int) + (cnt l (deepB l 17) l.length : Int) - 1) / 2 ^ (deepB l 17 - n) + 1) := by
      show aboveM l (deepB l 17) n = _; unfold aboveM; rw [if_neg hd]; rfl
    have hdv := div_bd (a := (first l (deepB l 17) : Int) + (cnt l (deepB l 17) l.length : Int) - 1) (M := 536875008) (deepB l 17 - n) (by omega) (by omega) (by omega)
    clear e52
    generalize deepB l 17 = dd at *
    go_enter Try.func41, Try.ntmps41
    go_wp2
    go_quiet (fail)
    go_wp2
    go_ret
    rw [HE.out]; exact ⟨rfl, _, rfl⟩

theorem nx_end {l : List Int} {d : Nat} {bit : Nat → Int} {total f n : Nat} {v : Int} {at_ : Nat} (h : total ≤ at_) : nx l d bit total (f+1) n v at_ = (0, 5, at_) := by
  rw [nx, if_pos h]
theorem nx_hit {l : List Int} {d : Nat} {bit : Nat → Int} {total f n : Nat} {v : Int} {at_ : Nat} (h : ¬ total ≤ at_) (h2 : 2 * v + bit at_ - first l n < cnt l n l.length) (h3 : 0 ≤ 2 * v + bit at_ - first l n) :
    nx l d bit total (f+1) n v at_ = ((tabB l 17).getD (startB l n + (2 * v + bit at_ - first l n).toNat) 0, 0, at_ + 1) := by
  rw [nx, if_neg h]; simp only []; rw [if_pos ⟨h2, h3⟩]
theorem nx_out {l : List Int} {d : Nat} {bit : Nat → Int} {total f n : Nat} {v : Int} {at_ : Nat} (h : ¬ total ≤ at_) (h2 : ¬ (2 * v + bit at_ - first l n < cnt l n l.length ∧ 0 ≤ 2 * v + bit at_ - first l n)) (h3 : aboveM l d n ≤ 2 * v + bit at_) :
    nx l d bit total (f+1) n v at_ = (0, 32, at_ + 1) := by
  rw [nx, if_neg h]; simp only []; rw [if_neg h2, if_pos h3]
theorem nx_more {l : List Int} {d : Nat} {bit : Nat → Int} {total f n : Nat} {v : Int} {at_ : Nat} (h : ¬ total ≤ at_) (h2 : ¬ (2 * v + bit at_ - first l n < cnt l n l.length ∧ 0 ≤ 2 * v + bit at_ - first l n)) (h3 : ¬ aboveM l d n ≤ 2 * v + bit at_) :
    nx l d bit total (f+1) n v at_ = nx l d bit total f (n+1) (2 * v + bit at_) (at_ + 1) := by
  rw [nx, if_neg h]; simp only []; rw [if_neg h2, if_neg h3]

def NextPost (w : World) (p : Nat) (A : Option Addr) (c : Nat) (rl : List Int) (up : Bool) (res : Int × Int × Nat) (e : Ending) (w' : World) : Prop :=
  e = .returned (.tuple #[.int .i64 res.1, .int .i64 res.2.1]) ∧ Bits.Rdr w' p A c rl res.2.2 up ∧ w.grownBy w' (some p)
theorem pow17 {m : Nat} (h : m ≤ 17) : (2 : Int) ^ m ≤ 131072 := by
  have := Nat.pow_le_pow_right (n := 2) (by omega) h
  have e : (2 : Int) ^ m = ((2 ^ m : Nat) : Int) := by simp
  rw [e]; have : 2 ^ m ≤ 131072 := this
  omega

set_option maxHeartbeats 2000000 in
theorem next_any {d p : Nat} {l rl : List Int} {A Ar : Option Addr} {c cr at_ : Nat} {up : Bool} (w : World) (HD : Dc w d l A c) (HR : Bits.Rdr w p Ar cr rl at_ up) (hdp : d ≠ p) (htp : ∀ b off s, A = some ⟨b, off, s⟩ → b ≠ p) :
    Calls Try.prog 21 #[.pointer (some ⟨d, 0, none⟩), .pointer (some ⟨p, 0, none⟩)] w (NextPost w p Ar cr rl up (nextM l (Bits.bitAt rl up) (8 * rl.length) at_)) := by
  have hdl : deepB l 17 ≤ 16 := deepB_lt l 16
  have Htp := Lib.hid htp
  clear htp
  have hnp : (d == p) = false := by simp [hdp]
  have keepD : ∀ wr, w.grownBy wr (some p) → Dc wr d l A c := fun wr hg => HD.keep (hg.block d HD.row.lt (fun e => by injection e with e; exact hdp e))
    (fun b off s e hlt => hg.block b hlt (fun e2 => by injection e2 with e2; exact Htp.out b off s e e2))
  have KD := Lib.hid keepD
  clear keepD
  have HE : Hid (nx l (deepB l 17) (Bits.bitAt rl up) (8 * rl.length) (deepB l 17) 1 0 at_ = nextM l (Bits.bitAt rl up) (8 * rl.length) at_) := rfl
  generalize nextM l (Bits.bitAt rl up) (8 * rl.length) at_ = res at *
  go_enter Try.func21, Try.ntmps21
  go_wp2
  go_loopw [6, 7, 8, 9, 10] (fun sv sn _ _ _ wr => ∃ (m : Nat) (v : Int) (a : Nat), 1 ≤ m ∧ m ≤ deepB l 17 + 1 ∧ 0 ≤ v ∧ v < 2 ^ (m - 1) ∧ sn = .int .i64 m ∧ sv = .int .i64 v ∧ Bits.Rdr wr p Ar cr rl a up ∧ w.grownBy wr (some p) ∧
      Hid (nx l (deepB l 17) (Bits.bitAt rl up) (8 * rl.length) (deepB l 17 + 1 - m) m v a = res)) (fun _ sn _ _ _ _ => deepB l 17 + 1 - (intOf sn).toNat)
  case atStart => exact ⟨1, 0, at_, by omega, by omega, by omega, by decide, rfl, rfl, HR, World.grownBy.refl _ _, by rw [Nat.add_sub_cancel]; exact HE⟩
  case round =>
    clear HE HR HD
    obtain ⟨m, v, a, hm1, hm2, hv0, hv1, rfl, rfl, hR, hg, HN⟩ := hrel
    have hDr := KD.out wr hg
    have c52 := hDr.row.cell (i := 52) (by omega)
    have e52 : decF l 17 17 0 (.slice A (startB l 17) c) (deepB l 17) 52 = .int .i64 (deepB l 17) := rfl
    rw [e52] at c52
    clear e52
    have hrl := hR.data.bigb
    by_cases hm : m ≤ deepB l 17
    · have hmd : decide ((m : Int) ≤ (deepB l 17 : Int)) = true := by simp; omega
      have hf : deepB l 17 + 1 - m = (deepB l 17 - m) + 1 := by omega
      rw [hf] at HN
      clear hf
      by_cases hend : 8 * rl.length ≤ a
      · have hres := HN.out
        rw [nx_end hend] at hres
        subst hres
        go_wp2_with (go_at_call 40; refine (Bits.take_end _ hR 1 (by omega) (by omega)).mono ?_; rintro e w' ⟨rfl, k0, rfl⟩)
        go_ret2
        exact ⟨rfl, hR.drewN _, grown_drewN hg _⟩
      · have hbt := Bits.bitAt_bd rl up a
        have htk : Hid (Bits.takeV rl up a 1 = Bits.bitAt rl up a) := by
          show Bits.takeV rl up a 1 = _
          cases up <;> simp [Bits.takeV]
        have hsh := hDr.short
        have hfl := first_le l m (by omega) hsh
        have hp := pow17 (m := m - 1) (by omega)
        have hpm : (2 : Int) ^ m = 2 * 2 ^ (m - 1) := by
          obtain ⟨q, rfl⟩ : ∃ q, m = q + 1 := ⟨m - 1, by omega⟩
          rw [Nat.add_sub_cancel, Int.pow_succ]; omega
        have Hpm := Lib.hid hpm
        clear hpm
        have hor : bits .or .i64 (v * 2) (Bits.bitAt rl up a) = v * 2 + Bits.bitAt rl up a := i64_or_hi 1 _ _ (by omega) (by omega) (by omega) (by omega) (by omega) (by omega) (by omega)
        go_wp2_with fail
        refine (Bits.take_any _ hR 1 (by omega) (by omega)).mono ?_
        rintro e w1 ⟨rfl, hR1, hg1⟩
        rw [htk.out]
        have hg2 := grown_trans hg hg1
        have hD1 := KD.out w1 hg2
        clear hDr c52 hR hg hg1
        have c52 := hD1.row.cell (i := 52) (by omega)
        have e52 : decF l 17 17 0 (.slice A (startB l 17) c) (deepB l 17) 52 = .int .i64 (deepB l 17) := rfl
        rw [e52] at c52
        clear e52
        have cf := hD1.row.cell (i := m) (by omega)
        rw [decF_first hm1 (by omega)] at cf
        have cs := hD1.row.cell (i := 17 + m) (by omega)
        rw [decF_start hm1 (by omega)] at cs
        have cc := hD1.row.cell (i := 34 + m) (by omega)
        rw [decF_count hm1 (by omega)] at cc
        have ct := hD1.row.cell (i := 51) (by omega)
        have e51 : decF l 17 17 0 (.slice A (startB l 17) c) (deepB l 17) 51 = .slice A (startB l 17) c := rfl
        rw [e51] at ct
        clear e51
        have hcl := cnt_le l m l.length
        by_cases h2 : 2 * v + Bits.bitAt rl up a - first l m < cnt l m l.length
        · by_cases h3 : 0 ≤ 2 * v + Bits.bitAt rl up a - first l m
          · have hh := Lib.hid (nx_hit (f := deepB l 17 - m) (d := deepB l 17) hend h2 h3)
            have hst := startB_cnt l (m := m) hm1 (by omega)
            generalize Bits.bitAt rl up a = x at *
            obtain ⟨q, hq⟩ : ∃ q : Nat, v * 2 + x - (first l m : Int) = q := ⟨(v * 2 + x - (first l m : Int)).toNat, by omega⟩
            have hqs : q < cnt l m l.length := by omega
            obtain ⟨b, off, y, rfl, hc, hy, _⟩ := hD1.tab.cells (i := startB l m + q) (by omega)
            have hres := HN.out
            rw [hh.out, show (2 * v + x - (first l m : Int)).toNat = q by omega, getD_of hy.out] at hres
            subst hres
            have hs17 : startB l 17 ≤ 4096 := by have : startB l 17 + cnt l 17 l.length ≤ l.length := cnt_sum l 16; omega
            clear h2 h3
            go_wp2
            go_quiet (fail)
            go_wp2
            go_ret2
            exact ⟨rfl, hR1.drewN _, grown_drewN hg2 _⟩
          · by_cases h4 : aboveM l (deepB l 17) m ≤ 2 * v + Bits.bitAt rl up a
            · have hres := HN.out
              rw [nx_out hend (fun h => h3 h.2) h4] at hres
              subst hres
              generalize Bits.bitAt rl up a = x at *
              go_wp2_with (go_at_call 41; refine (above_any _ hD1 m hm1 hm).mono ?_; rintro e w' ⟨rfl, k0, rfl⟩)
              go_ret2
              exact ⟨rfl, hR1.drewN _, grown_drewN hg2 _⟩
            · have hres := Lib.hid (nx_more (f := deepB l 17 - m) (d := deepB l 17) hend (fun h => h3 h.2) h4)
              generalize Bits.bitAt rl up a = x at *
              go_wp2_with (go_at_call 41; refine (above_any _ hD1 m hm1 hm).mono ?_; rintro e w' ⟨rfl, k0, rfl⟩)
              go_roundw
              case rel => exact ⟨m + 1, v * 2 + x, a + 1, by omega, by omega, by omega, by have := Hpm.out; rw [Nat.add_sub_cancel]; omega, by go_num, rfl, hR1.drewN _, grown_drewN hg2 _, by
                show nx _ _ _ _ _ _ _ _ = _
                rw [← HN.out, hres.out, show deepB l 17 + 1 - (m + 1) = deepB l 17 - m by omega, show v * 2 + x = 2 * v + x by omega]⟩
              case measure => simp [intOf]; omega
        · by_cases h4 : aboveM l (deepB l 17) m ≤ 2 * v + Bits.bitAt rl up a
          · have hres := HN.out
            rw [nx_out hend (fun h => h2 h.1) h4] at hres
            subst hres
            generalize Bits.bitAt rl up a = x at *
            go_wp2_with (go_at_call 41; refine (above_any _ hD1 m hm1 hm).mono ?_; rintro e w' ⟨rfl, k0, rfl⟩)
            go_ret2
            exact ⟨rfl, hR1.drewN _, grown_drewN hg2 _⟩
          · have hres := Lib.hid (nx_more (f := deepB l 17 - m) (d := deepB l 17) hend (fun h => h2 h.1) h4)
            generalize Bits.bitAt rl up a = x at *
            go_wp2_with (go_at_call 41; refine (above_any _ hD1 m hm1 hm).mono ?_; rintro e w' ⟨rfl, k0, rfl⟩)
            go_roundw
            case rel => exact ⟨m + 1, v * 2 + x, a + 1, by omega, by omega, by omega, by have := Hpm.out; rw [Nat.add_sub_cancel]; omega, by go_num, rfl, hR1.drewN _, grown_drewN hg2 _, by
              show nx _ _ _ _ _ _ _ _ = _
              rw [← HN.out, hres.out, show deepB l 17 + 1 - (m + 1) = deepB l 17 - m by omega, show v * 2 + x = 2 * v + x by omega]⟩
            case measure => simp [intOf]; omega
    · have hmd : decide ((m : Int) ≤ (deepB l 17 : Int)) = false := by simp; omega
      have hres := HN.out
      rw [show deepB l 17 + 1 - m = 0 by omega, nx] at hres
      subst hres
      go_wp2
      go_ret2
      exact ⟨rfl, hR, hg⟩

set_option maxHeartbeats 400000 in
theorem next_nil_dec (q : Option Addr) (w : World) :
    Calls Try.prog 21 #[.pointer none, .pointer q] w fun e w' => e = .returned (.tuple #[.int .i64 0, .int .i64 1]) ∧ w = w' := by
  go_enter Try.func21, Try.ntmps21
  go_wp2
  go_ret2
  exact ⟨rfl, rfl⟩
set_option maxHeartbeats 400000 in
theorem next_nil_rdr (d : Nat) (w : World) :
    Calls Try.prog 21 #[.pointer (some ⟨d, 0, none⟩), .pointer none] w fun e w' => e = .returned (.tuple #[.int .i64 0, .int .i64 1]) ∧ w = w' := by
  go_enter Try.func21, Try.ntmps21
  go_wp2
  go_ret2
  exact ⟨rfl, rfl⟩
end Go.Proofs.Ytpecemkjoklhfaa.Pfx
