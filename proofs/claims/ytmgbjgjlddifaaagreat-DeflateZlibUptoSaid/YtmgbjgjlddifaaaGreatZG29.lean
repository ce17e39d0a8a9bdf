/-
  Texts of this claim, joined by program (PfxE, IflA, IflD, IflB, IflC). Walks: Decoder.above, Decoder.Next.
-/
import Derived.Test.YtmgbjgjlddifaaaGreatZG2
import Derived.Test.YtmgbjgjlddifaaaGreatZG3
import Derived.Test.YtmgbjgjlddifaaaGreatZG28
import Derived.Deep.RegionLaw
import Derived.Deep.CutBlock
import Derived.Deep.DeepCutAuto
set_option linter.unusedVariables false
set_option linter.unusedSimpArgs false
namespace Go.Proofs.YtmgbjgjlddifaaaGreat.Pfx
open Go.RowKit K
attribute [local irreducible] first tabB deepB startB

/-- a decoder of the lengths l at block d -/
structure Dc (w : World) (d : Nat) (l : List Int) (A : Option Addr) (c : Nat) : Prop where
  row : w.rowIs d 165 53 (decF l 17 17 0 (.slice A (startB l 17) c) (deepB l 17))
  tab : SI w .i64 A (startB l 17) (tabB l 17)
  short : l.length ≤ 4096
theorem Dc.of_D1 {w wr : World} {l : List Int} {v : Value} (h : D1 w wr l 17 17 0 v) (hs : l.length ≤ 4096) :
    ∃ A c, v = .slice A (startB l 17) c ∧ Dc wr w.heap.size l A c ∧ ∀ b off s, A = some ⟨b, off, s⟩ → w.heap.size < b := by
  have ht := h.tab
  rw [cnt_zero, idx_zero, List.append_nil, Nat.add_zero] at ht
  obtain ⟨A, c, rfl⟩ := own_form ht
  have hl : startB l 17 + cnt l 17 l.length ≤ l.length := cnt_sum l 16
  refine ⟨A, c, rfl, ⟨?_, SI.of_own ht (by show _ * 8 ≤ _; omega), hs⟩, fun b off s e => ?_⟩
  · have e : deepU l 17 0 = deepB l 17 := by unfold deepU; rw [cnt_zero, if_neg (by omega)]
    have := h.row
    rw [e] at this
    exact this
  · have := (ht.lt b (by rw [e]; rfl)).1
    omega
theorem Dc.keep {w w' : World} {d l A c} (h : Dc w d l A c) (hp : w'.heap[d]? = w.heap[d]?) (hd : ∀ b off s, A = some ⟨b, off, s⟩ → b < w.heap.size → w'.heap[b]? = w.heap[b]?) : Dc w' d l A c :=
  ⟨h.row.of_block hp, ⟨h.tab.len, h.tab.sz, fun j u hu => by
    obtain ⟨b, off, rfl, hc⟩ := h.tab.sl j u hu
    exact ⟨b, off, rfl, (World.cell?_of_block (a := ⟨b, off + j, none⟩) (hd b off none rfl (World.block_lt_of_cell? w _ hc))).trans hc⟩⟩, h.short⟩
theorem decF_first {l : List Int} {v : Value} {dp j : Nat} (h1 : 1 ≤ j) (h : j ≤ 16) : decF l 17 17 0 v dp j = .int .i64 (first l j) := by
  unfold decF; rw [if_pos (by omega), if_pos (by omega)]
theorem decF_start {l : List Int} {v : Value} {dp j : Nat} (h1 : 1 ≤ j) (h : j ≤ 16) : decF l 17 17 0 v dp (17 + j) = .int .i64 (startB l j) := by
  unfold decF; rw [if_neg (by omega), if_pos (by omega), if_pos (by omega), show 17 + j - 17 = j by omega]
theorem decF_count {l : List Int} {v : Value} {dp j : Nat} (h1 : 1 ≤ j) (h : j ≤ 16) : decF l 17 17 0 v dp (34 + j) = .int .i64 (cnt l j l.length) := by
  unfold decF; rw [if_neg (by omega), if_neg (by omega), if_pos (by omega), if_neg (by omega), if_pos (by omega), show 34 + j - 34 = j by omega]

set_option maxHeartbeats 1000000 in
theorem above_any {d : Nat} {l : List Int} {A : Option Addr} {c : Nat} (w : World) (HD : Dc w d l A c) (n : Nat) (hn1 : 1 ≤ n) (hn : n ≤ deepB l 17) :
    Calls Tryz.prog 103 #[.pointer (some ⟨d, 0, none⟩), .int .i64 n] w fun e w' => e = .returned (.int .i64 (aboveM l (deepB l 17) n)) ∧ ∃ k, w' = w.drewN k := by
  have hdl : deepB l 17 ≤ 16 := deepB_lt l 16
  have c52 := HD.row.cell (i := 52) (by omega)
  have e52 : decF l 17 17 0 (.slice A (startB l 17) c) (deepB l 17) 52 = .int .i64 (deepB l 17) := rfl
  rw [e52] at c52
  have cf := HD.row.cell (i := deepB l 17) (by omega)
  rw [decF_first (by omega) (by omega)] at cf
  have cc := HD.row.cell (i := 34 + deepB l 17) (by omega)
  rw [decF_count (by omega) (by omega)] at cc
  have hfl := first_le l (deepB l 17) (by omega) HD.short
  have hcl := cnt_le l (deepB l 17) l.length
  have hsh := HD.short
  by_cases hd : deepB l 17 ≤ n
  · have HE : Hid (aboveM l (deepB l 17) n = 0) := by show aboveM l (deepB l 17) n = 0; unfold aboveM; rw [if_pos hd]
    clear e52
    generalize deepB l 17 = dd at *
    obtain rfl : n = dd := by omega
    go_enter Tryz.func103, Tryz.ntmps103
    go_wp2
    go_quiet (fail)
    go_wp2
    go_ret
    rw [HE.out]; exact ⟨rfl, _, rfl⟩
  · have HE : Hid (aboveM l (deepB l 17) n = ((first l (deepB l 17) : Int) + (cnt l (deepB l 17) l.length : Int) - 1) / 2 ^ (deepB l 17 - n) + 1) := by
      show aboveM l (deepB l 17) n = _; unfold aboveM; rw [if_neg hd]; rfl
    have hdv := div_bd (a := (first l (deepB l 17) : Int) + (cnt l (deepB l 17) l.length : Int) - 1) (M := 536875008) (deepB l 17 - n) (by omega) (by omega) (by omega)
    clear e52
    generalize deepB l 17 = dd at *
    go_enter Tryz.func103, Tryz.ntmps103
    go_wp2
    go_quiet (fail)
    go_wp2
    go_ret
    rw [HE.out]; exact ⟨rfl, _, rfl⟩

theorem nx_end {l : List Int} {d : Nat} {bit : Nat → Int} {total f n : Nat} {v : Int} {at_ : Nat} (h : total ≤ at_) : nx l d bit total (f+1) n v at_ = (0, 5, at_) := by
  rw [nx, if_pos h]
theorem nx_hit {l : List Int} {d : Nat} {bit : Nat → Int} {total f n : Nat} {v : Int} {at_ : Nat} (h : ¬ total ≤ at_) (h2 : 2 * v + bit at_ - first l n < cnt l n l.length) (h3 : 0 ≤ 2 * v + bit at_ - first l n) :
    nx l d bit total (f+1) n v at_ = ((tabB l 17).getD (startB l n + (2 * v + bit at_ - first l n).toNat) 0, 0, at_ + 1) := by
  rw [nx, if_neg h]; simp only []; rw [if_pos ⟨h2, h3⟩]
theorem nx_out {l : List Int} {d : Nat} {bit : Nat → Int} {total f n : Nat} {v : Int} {at_ : Nat} (h : ¬ total ≤ at_) (h2 : ¬ (2 * v + bit at_ - first l n < cnt l n l.length ∧ 0 ≤ 2 * v + bit at_ - first l n)) (h3 : aboveM l d n ≤ 2 * v + bit at_) :
    nx l d bit total (f+1) n v at_ = (0, 32, at_ + 1) := by
  rw [nx, if_neg h]; simp only []; rw [if_neg h2, if_pos h3]
theorem nx_more {l : List Int} {d : Nat} {bit : Nat → Int} {total f n : Nat} {v : Int} {at_ : Nat} (h : ¬ total ≤ at_) (h2 : ¬ (2 * v + bit at_ - first l n < cnt l n l.length ∧ 0 ≤ 2 * v + bit at_ - first l n)) (h3 : ¬ aboveM l d n ≤ 2 * v + bit at_) :
    nx l d bit total (f+1) n v at_ = nx l d bit total f (n+1) (2 * v + bit at_) (at_ + 1) := by
  rw [nx, if_neg h]; simp only []; rw [if_neg h2, if_neg h3]

def NextPost (w : World) (p : Nat) (A : Option Addr) (c : Nat) (rl : List Int) (up : Bool) (res : Int × Int × Nat) (e : Ending) (w' : World) : Prop :=
  e = .returned (.tuple #[.int .i64 res.1, .int .i64 res.2.1]) ∧ Bits.Rdr w' p A c rl res.2.2 up ∧ w.grownBy w' (some p)
theorem pow17 {m : Nat} (h : m ≤ 17) : (2 : Int) ^ m ≤ 131072 := by
  have := Nat.pow_le_pow_right (n := 2) (by omega) h
  have e : (2 : Int) ^ m = ((2 ^ m : Nat) : Int) := by simp
  rw [e]; have : 2 ^ m ≤ 131072 := this
  omega

set_option maxHeartbeats 2000000 in
theorem next_any {d p : Nat} {l rl : List Int} {A Ar : Option Addr} {c cr at_ : Nat} {up : Bool} (w : World) (HD : Dc w d l A c) (HR : Bits.Rdr w p Ar cr rl at_ up) (hdp : d ≠ p) (htp : ∀ b off s, A = some ⟨b, off, s⟩ → b ≠ p) :
    Calls Tryz.prog 99 #[.pointer (some ⟨d, 0, none⟩), .pointer (some ⟨p, 0, none⟩)] w (NextPost w p Ar cr rl up (nextM l (Bits.bitAt rl up) (8 * rl.length) at_)) := by
  have hdl : deepB l 17 ≤ 16 := deepB_lt l 16
  have Htp := Lib.hid htp
  clear htp
  have hnp : (d == p) = false := by simp [hdp]
  have keepD : ∀ wr, w.grownBy wr (some p) → Dc wr d l A c := fun wr hg => HD.keep (hg.block d HD.row.lt (fun e => by injection e with e; exact hdp e))
    (fun b off s e hlt => hg.block b hlt (fun e2 => by injection e2 with e2; exact Htp.out b off s e e2))
  have KD := Lib.hid keepD
  clear keepD
  have HE : Hid (nx l (deepB l 17) (Bits.bitAt rl up) (8 * rl.length) (deepB l 17) 1 0 at_ = nextM l (Bits.bitAt rl up) (8 * rl.length) at_) := rfl
  generalize nextM l (Bits.bitAt rl up) (8 * rl.length) at_ = res at *
  go_enter Tryz.func99, Tryz.ntmps99
  go_wp2
  go_loopw [6, 7, 8, 9, 10] (fun sv sn _ _ _ wr => ∃ (m : Nat) (v : Int) (a : Nat), 1 ≤ m ∧ m ≤ deepB l 17 + 1 ∧ 0 ≤ v ∧ v < 2 ^ (m - 1) ∧ sn = .int .i64 m ∧ sv = .int .i64 v ∧ Bits.Rdr wr p Ar cr rl a up ∧ w.grownBy wr (some p) ∧
      Hid (nx l (deepB l 17) (Bits.bitAt rl up) (8 * rl.length) (deepB l 17 + 1 - m) m v a = res)) (fun _ sn _ _ _ _ => deepB l 17 + 1 - (intOf sn).toNat)
  case atStart => exact ⟨1, 0, at_, by omega, by omega, by omega, by decide, rfl, rfl, HR, World.grownBy.refl _ _, by rw [Nat.add_sub_cancel]; exact HE⟩
  case round =>
    clear HE HR HD
    obtain ⟨m, v, a, hm1, hm2, hv0, hv1, rfl, rfl, hR, hg, HN⟩ := hrel
    have hDr := KD.out wr hg
    have c52 := hDr.row.cell (i := 52) (by omega)
    have e52 : decF l 17 17 0 (.slice A (startB l 17) c) (deepB l 17) 52 = .int .i64 (deepB l 17) := rfl
    rw [e52] at c52
    clear e52
    have hrl := hR.data.bigb
    by_cases hm : m ≤ deepB l 17
    · have hmd : decide ((m : Int) ≤ (deepB l 17 : Int)) = true := by simp; omega
      have hf : deepB l 17 + 1 - m = (deepB l 17 - m) + 1 := by omega
      rw [hf] at HN
      clear hf
      by_cases hend : 8 * rl.length ≤ a
      · have hres := HN.out
        rw [nx_end hend] at hres
        subst hres
        go_wp2_with (go_at_call 76; refine (Bits.take_end _ hR 1 (by omega) (by omega)).mono ?_; rintro e w' ⟨rfl, k0, rfl⟩)
        go_ret2
        exact ⟨rfl, hR.drewN _, grown_drewN hg _⟩
      · have hbt := Bits.bitAt_bd rl up a
        have htk : Hid (Bits.takeV rl up a 1 = Bits.bitAt rl up a) := by
          show Bits.takeV rl up a 1 = _
          cases up <;> simp [Bits.takeV]
        have hsh := hDr.short
        have hfl := first_le l m (by omega) hsh
        have hp := pow17 (m := m - 1) (by omega)
        have hpm : (2 : Int) ^ m = 2 * 2 ^ (m - 1) := by
          obtain ⟨q, rfl⟩ : ∃ q, m = q + 1 := ⟨m - 1, by omega⟩
          rw [Nat.add_sub_cancel, Int.pow_succ]; omega
        have Hpm := Lib.hid hpm
        clear hpm
        have hor : bits .or .i64 (v * 2) (Bits.bitAt rl up a) = v * 2 + Bits.bitAt rl up a := i64_or_hi 1 _ _ (by omega) (by omega) (by omega) (by omega) (by omega) (by omega) (by omega)
        go_wp2_with fail
        refine (Bits.take_any _ hR 1 (by omega) (by omega)).mono ?_
        rintro e w1 ⟨rfl, hR1, hg1⟩
        rw [htk.out]
        have hg2 := grown_trans hg hg1
        have hD1 := KD.out w1 hg2
        clear hDr c52 hR hg hg1
        have c52 := hD1.row.cell (i := 52) (by omega)
        have e52 : decF l 17 17 0 (.slice A (startB l 17) c) (deepB l 17) 52 = .int .i64 (deepB l 17) := rfl
        rw [e52] at c52
        clear e52
        have cf := hD1.row.cell (i := m) (by omega)
        rw [decF_first hm1 (by omega)] at cf
        have cs := hD1.row.cell (i := 17 + m) (by omega)
        rw [decF_start hm1 (by omega)] at cs
        have cc := hD1.row.cell (i := 34 + m) (by omega)
        rw [decF_count hm1 (by omega)] at cc
        have ct := hD1.row.cell (i := 51) (by omega)
        have e51 : decF l 17 17 0 (.slice A (startB l 17) c) (deepB l 17) 51 = .slice A (startB l 17) c := rfl
        rw [e51] at ct
        clear e51
        have hcl := cnt_le l m l.length
        by_cases h2 : 2 * v + Bits.bitAt rl up a - first l m < cnt l m l.length
        · by_cases h3 : 0 ≤ 2 * v + Bits.bitAt rl up a - first l m
          · have hh := Lib.hid (nx_hit (f := deepB l 17 - m) (d := deepB l 17) hend h2 h3)
            have hst := startB_cnt l (m := m) hm1 (by omega)
            generalize Bits.bitAt rl up a = x at *
            obtain ⟨q, hq⟩ : ∃ q : Nat, v * 2 + x - (first l m : Int) = q := ⟨(v * 2 + x - (first l m : Int)).toNat, by omega⟩
            have hqs : q < cnt l m l.length := by omega
            obtain ⟨b, off, y, rfl, hc, hy, _⟩ := hD1.tab.cells (i := startB l m + q) (by omega)
            have hres := HN.out
            rw [hh.out, show (2 * v + x - (first l m : Int)).toNat = q by omega, getD_of hy.out] at hres
            subst hres
            have hs17 : startB l 17 ≤ 4096 := by have : startB l 17 + cnt l 17 l.length ≤ l.length := cnt_sum l 16; omega
            clear h2 h3
            go_wp2
            go_quiet (fail)
            go_wp2
            go_ret2
            exact ⟨rfl, hR1.drewN _, grown_drewN hg2 _⟩
          · by_cases h4 : aboveM l (deepB l 17) m ≤ 2 * v + Bits.bitAt rl up a
            · have hres := HN.out
              rw [nx_out hend (fun h => h3 h.2) h4] at hres
              subst hres
              generalize Bits.bitAt rl up a = x at *
              go_wp2_with (go_at_call 103; refine (above_any _ hD1 m hm1 hm).mono ?_; rintro e w' ⟨rfl, k0, rfl⟩)
              go_ret2
              exact ⟨rfl, hR1.drewN _, grown_drewN hg2 _⟩
            · have hres := Lib.hid (nx_more (f := deepB l 17 - m) (d := deepB l 17) hend (fun h => h3 h.2) h4)
              generalize Bits.bitAt rl up a = x at *
              go_wp2_with (go_at_call 103; refine (above_any _ hD1 m hm1 hm).mono ?_; rintro e w' ⟨rfl, k0, rfl⟩)
              go_roundw
              case rel => exact ⟨m + 1, v * 2 + x, a + 1, by omega, by omega, by omega, by have := Hpm.out; rw [Nat.add_sub_cancel]; omega, by go_num, rfl, hR1.drewN _, grown_drewN hg2 _, by
                show nx _ _ _ _ _ _ _ _ = _
                rw [← HN.out, hres.out, show deepB l 17 + 1 - (m + 1) = deepB l 17 - m by omega, show v * 2 + x = 2 * v + x by omega]⟩
              case measure => simp [intOf]; omega
        · by_cases h4 : aboveM l (deepB l 17) m ≤ 2 * v + Bits.bitAt rl up a
          · have hres := HN.out
            rw [nx_out hend (fun h => h2 h.1) h4] at hres
            subst hres
            generalize Bits.bitAt rl up a = x at *
            go_wp2_with (go_at_call 103; refine (above_any _ hD1 m hm1 hm).mono ?_; rintro e w' ⟨rfl, k0, rfl⟩)
            go_ret2
            exact ⟨rfl, hR1.drewN _, grown_drewN hg2 _⟩
          · have hres := Lib.hid (nx_more (f := deepB l 17 - m) (d := deepB l 17) hend (fun h => h2 h.1) h4)
            generalize Bits.bitAt rl up a = x at *
            go_wp2_with (go_at_call 103; refine (above_any _ hD1 m hm1 hm).mono ?_; rintro e w' ⟨rfl, k0, rfl⟩)
            go_roundw
            case rel => exact ⟨m + 1, v * 2 + x, a + 1, by omega, by omega, by omega, by have := Hpm.out; rw [Nat.add_sub_cancel]; omega, by go_num, rfl, hR1.drewN _, grown_drewN hg2 _, by
              show nx _ _ _ _ _ _ _ _ = _
              rw [← HN.out, hres.out, show deepB l 17 + 1 - (m + 1) = deepB l 17 - m by omega, show v * 2 + x = 2 * v + x by omega]⟩
            case measure => simp [intOf]; omega
    · have hmd : decide ((m : Int) ≤ (deepB l 17 : Int)) = false := by simp; omega
      have hres := HN.out
      rw [show deepB l 17 + 1 - m = 0 by omega, nx] at hres
      subst hres
      go_wp2
      go_ret2
      exact ⟨rfl, hR, hg⟩

set_option maxHeartbeats 400000 in
theorem next_nil_dec (q : Option Addr) (w : World) :
    Calls Tryz.prog 99 #[.pointer none, .pointer q] w fun e w' => e = .returned (.tuple #[.int .i64 0, .int .i64 1]) ∧ w = w' := by
  go_enter Tryz.func99, Tryz.ntmps99
  go_wp2
  go_ret2
  exact ⟨rfl, rfl⟩
set_option maxHeartbeats 400000 in
theorem next_nil_rdr (d : Nat) (w : World) :
    Calls Tryz.prog 99 #[.pointer (some ⟨d, 0, none⟩), .pointer none] w fun e w' => e = .returned (.tuple #[.int .i64 0, .int .i64 1]) ∧ w = w' := by
  go_enter Tryz.func99, Tryz.ntmps99
  go_wp2
  go_ret2
  exact ⟨rfl, rfl⟩
end Go.Proofs.YtmgbjgjlddifaaaGreat.Pfx
set_option linter.unusedVariables false
set_option linter.unusedSimpArgs false
namespace Go.Proofs.YtmgbjgjlddifaaaGreat.Ifl
open Go.RowKit K Bits Pfx Def Wrt Bak Inf

/-- a reader in block X over the bits' reader in block p -/
structure IR (w : World) (X p : Nat) (A : Option Addr) (c : Nat) (l : List Int) (at_ : Nat) (Ao : Option Addr) (co : Nat) (o : List Int) (most : Int) (base : Nat) : Prop where
  rd : Rdr w p A c l at_ false
  blk : w.heap[X]? = some (.cells #[.pointer (some ⟨p, 0, none⟩), .slice Ao o.length co, .int .i64 most] 99 (0, 0))
  own : w.ownsRow base 5 1 (.slice Ao o.length co) o.length (o.map (.int .u8))
  px : p < X
  xb : X < base
  ax : ∀ b off s, A = some ⟨b, off, s⟩ → b < X
  hb : base ≤ w.heap.size
section
variable {w w' : World} {X p : Nat} {A : Option Addr} {c : Nat} {l : List Int} {at_ at2 : Nat} {Ao : Option Addr} {co : Nat} {o : List Int} {most : Int} {base : Nat}
theorem IR.cells (h : IR w X p A c l at_ Ao co o most base) : (w.cell? ⟨X, 0, none⟩ = some (.pointer (some ⟨p, 0, none⟩)) ∧ w.cell? ⟨X, 1, none⟩ = some (.slice Ao o.length co) ∧ w.cell? ⟨X, 2, none⟩ = some (.int .i64 most)) ∧ w.frozen? ⟨X, 0, none⟩ = false ∧ w.frozen? ⟨X, 1, none⟩ = false ∧ w.frozen? ⟨X, 2, none⟩ = false := cells3 h.blk
theorem IR.lt (h : IR w X p A c l at_ Ao co o most base) : X < w.heap.size := (Array.getElem?_eq_some_iff.1 h.blk).1
/-- the bits' reader has gone on -/
theorem IR.adv (h : IR w X p A c l at_ Ao co o most base) (hr : Rdr w' p A c l at2 false) (hg : w.grownBy w' (some p)) : IR w' X p A c l at2 Ao co o most base := by
  have hx := h.lt
  have h1 := h.px
  have h2 := h.xb
  exact ⟨hr, (hg.block X hx (fun e => by injection e with e; omega)).trans h.blk, own_frame h.own (fun g hg2 => hg.block g (h.own.lt g hg2).2 (fun e => by injection e with e; have := (h.own.lt g hg2).1; omega)), h.px, h.xb, h.ax, Nat.le_trans h.hb hg.size⟩
theorem IR.below (h : IR w X p A c l at_ Ao co o most base) (hb : Below w.heap.size w w') : IR w' X p A c l at_ Ao co o most base := by
  refine ⟨h.rd.keep (hb.block _ h.rd.row.lt) (fun b off s e => hb.block b ?_), (hb.block X h.lt).trans h.blk, own_frame h.own (fun g hg => hb.block g (h.own.lt g hg).2), h.px, h.xb, h.ax, Nat.le_trans h.hb hb.size⟩
  have := h.ax b off s e; have := h.lt; omega
theorem IR.drewN (h : IR w X p A c l at_ Ao co o most base) (k : Nat) : IR (w.drewN k) X p A c l at_ Ao co o most base := h.below (below_drewN (Below.refl _ w) k)
/-- out is set anew -/
theorem IR.out {A2 : Option Addr} {c2 : Nat} {o2 : List Int} (h : IR w X p A c l at_ Ao co o most base) (hown : w.ownsRow base 5 1 (.slice A2 o2.length c2) o2.length (o2.map (.int .u8))) : IR (w.setCell ⟨X, 1, none⟩ (.slice A2 o2.length c2)) X p A c l at_ A2 c2 o2 most base := by
  have hg := set_grown w X 1 (.slice A2 o2.length c2)
  have hx := h.lt
  have h1 := h.px
  refine ⟨h.rd.keep (hg.block _ h.rd.row.lt (fun e => by injection e with e; omega)) (fun b off s e => hg.block b (by have := h.ax b off s e; omega) (fun e2 => by injection e2 with e2; have := h.ax b off s e; omega)), (set_row3 h.blk).2 _, own_frame hown (fun g hg2 => hg.block g (hown.lt g hg2).2 (fun e => by injection e with e; have := (hown.lt g hg2).1; have := h.xb; omega)), h.px, h.xb, h.ax, Nat.le_trans h.hb hg.size⟩
end
theorem IR.app0 {w w2 : World} {X p : Nat} {A : Option Addr} {c : Nat} {l : List Int} {at_ : Nat} {Ao : Option Addr} {co : Nat} {o : List Int} {most : Int} {base : Nat} (h : IR w X p A c l at_ Ao co o most base)
    (hg : w.grownBy w2 (Value.slice Ao o.length co).ownBlock) : w2.heap[X]? = w.heap[X]? ∧ ∀ A2 c2 (o2 : List Int), w2.ownsRow base 5 1 (.slice A2 o2.length c2) o2.length (o2.map (.int .u8)) → IR (w2.setCell ⟨X, 1, none⟩ (.slice A2 o2.length c2)) X p A c l at_ A2 c2 o2 most base := by
  have hx := h.lt
  have h1 := h.px
  have hne : ∀ i, i ≤ X → (w2.heap[i]? = w.heap[i]?) := fun i hi => hg.block i (by omega) (fun e => by have := (h.own.lt i e.symm).1; have := h.xb; omega)
  refine ⟨hne X (Nat.le_refl _), fun A2 c2 o2 hown => ?_⟩
  have hs : w.heap.size ≤ w2.heap.size := hg.size
  have hgs := set_grown w2 X 1 (.slice A2 o2.length c2)
  refine ⟨h.rd.keep ((hgs.block _ (by have := h.rd.row.lt; omega) (fun e => by injection e with e; omega)).trans (hne p (by omega))) (fun b off s e => (hgs.block b (by have := h.ax b off s e; omega) (fun e2 => by injection e2 with e2; have := h.ax b off s e; omega)).trans (hne b (by have := h.ax b off s e; omega))),
    (set_row3 ((hne X (Nat.le_refl _)).trans h.blk)).2 _, own_frame hown (fun g hg2 => hgs.block g (hown.lt g hg2).2 (fun e => by injection e with e; have := (hown.lt g hg2).1; have := h.xb; omega)), h.px, h.xb, h.ax, by have := h.hb; have := hgs.size; omega⟩
def TakeP (w : World) (X p : Nat) (A : Option Addr) (c : Nat) (l : List Int) (at_ n : Nat) (Ao : Option Addr) (co : Nat) (o : List Int) (most : Int) (base : Nat) (v : Int) (e : Ending) (w' : World) : Prop :=
  e = .returned (.int .i64 v) ∧ IR w' X p A c l (at_ + n) Ao co o most base ∧ w.grownBy w' (some p)
theorem must_ok (w : World) : Calls Tryz.prog 77 #[.int .i64 0] w fun e w' => e = .returned (.tuple #[]) ∧ w = w' := by
  go_enter Tryz.func77, Tryz.ntmps77
  go_wp2
  go_end0
  exact ⟨rfl, rfl⟩
set_option maxHeartbeats 1000000 in
theorem itake {X p : Nat} {A : Option Addr} {c : Nat} {l : List Int} {at_ n : Nat} {Ao : Option Addr} {co : Nat} {o : List Int} {most v kk : Int} {base : Nat} (w : World) (H : IR w X p A c l at_ Ao co o most base) (hn : n ≤ 31) (hl : at_ + n ≤ 8 * l.length) (hkk : (n : Int) = kk) (hv : takeV l false at_ n = v) :
    Calls Tryz.prog 50 #[.pointer (some ⟨X, 0, none⟩), .int .i64 kk] w (TakeP w X p A c l at_ n Ao co o most base v) := by
  subst hkk hv
  have HH := Lib.hid H
  obtain ⟨⟨a0, a1, a2⟩, -⟩ := H.cells
  have hb := takeV_bd l false at_ n
  have hp : (2 : Int) ^ n ≤ 2147483648 := by
    have := Nat.pow_le_pow_right (n := 2) (by omega) hn
    have e : (2 : Int) ^ n = ((2 ^ n : Nat) : Int) := by simp
    rw [e]; have : 2 ^ n ≤ 2147483648 := this
    omega
  clear H
  go_enter Tryz.func50, Tryz.ntmps50
  go_wp2_with fail
  refine (take_any w HH.out.rd n (by omega) hl).mono ?_
  rintro e w1 ⟨rfl, hr, hg⟩
  have HI := Lib.hid (HH.out.adv hr hg)
  have HG := Lib.hid hg
  clear hr hg a0 a1 a2
  go_wp2_with fail
  refine (must_ok w1).mono ?_
  rintro e w2 ⟨rfl, rfl⟩
  generalize takeV l false at_ n = v at *
  go_wp2_with fail
  go_ret
  exact ⟨rfl, HI.out, HG.out⟩
def NextP (w : World) (X p : Nat) (A : Option Addr) (c : Nat) (l : List Int) (at2 : Nat) (Ao : Option Addr) (co : Nat) (o : List Int) (most : Int) (base : Nat) (v : Int) (e : Ending) (w' : World) : Prop :=
  e = .returned (.int .i64 v) ∧ IR w' X p A c l at2 Ao co o most base ∧ w.grownBy w' (some p)
set_option maxHeartbeats 1000000 in
theorem inext {X p d : Nat} {A Ad : Option Addr} {c cd : Nat} {l L : List Int} {at_ at2 : Nat} {Ao : Option Addr} {co : Nat} {o : List Int} {most : Int} {s base : Nat} (w : World) (H : IR w X p A c l at_ Ao co o most base) (HD : Dc w d L Ad cd) (hdp : d ≠ p) (htp : ∀ b off s, Ad = some ⟨b, off, s⟩ → b ≠ p)
    (hr : nextM L (bitAt l false) (8 * l.length) at_ = ((s : Int), 0, at2)) :
    Calls Tryz.prog 81 #[.pointer (some ⟨X, 0, none⟩), .pointer (some ⟨d, 0, none⟩)] w (NextP w X p A c l at2 Ao co o most base s) := by
  have HH := Lib.hid H
  have HDD := Lib.hid HD
  have HTP := Lib.hid htp
  have HR := Lib.hid hr
  obtain ⟨⟨a0, a1, a2⟩, -⟩ := H.cells
  clear H HD htp hr
  go_enter Tryz.func81, Tryz.ntmps81
  go_wp2_with fail
  refine (next_any w HDD.out HH.out.rd hdp HTP.out).mono ?_
  rw [HR.out]
  rintro e w1 ⟨rfl, hr, hg⟩
  have HI := Lib.hid (HH.out.adv hr hg)
  have HG := Lib.hid hg
  clear hr hg a0 a1 a2
  go_wp2_with fail
  refine (must_ok w1).mono ?_
  rintro e w2 ⟨rfl, rfl⟩
  go_wp2_with fail
  go_ret
  exact ⟨rfl, HI.out, HG.out⟩
set_option maxHeartbeats 1000000 in
theorem iroom {X p : Nat} {A : Option Addr} {c : Nat} {l : List Int} {at_ : Nat} {Ao : Option Addr} {co : Nat} {o : List Int} {most n : Int} {base : Nat} (w : World) (H : IR w X p A c l at_ Ao co o most base) (hm : (o.length : Int) + n ≤ most) (h0 : 0 ≤ n) (hmb : most ≤ 2000000) :
    Calls Tryz.prog 79 #[.pointer (some ⟨X, 0, none⟩), .int .i64 n] w fun e w' => e = .returned (.tuple #[]) ∧ ∃ k, w' = w.drewN k := by
  obtain ⟨⟨a0, a1, a2⟩, -⟩ := H.cells
  have hd : decide (most - (o.length : Int) < n) = false := decide_eq_false (by omega)
  have hw : IntKind.i64.wrap (most - (o.length : Int)) = most - (o.length : Int) := IntWalk.i64_in _ (by omega)
  clear H
  go_enter Tryz.func79, Tryz.ntmps79
  go_wp2
  go_quiet (fail)
  go_wp2
  go_end0
  exact ⟨rfl, _, rfl⟩
set_option maxHeartbeats 2000000 in
theorem groups_4 {k : Nat} (w : World) (hk : k ≤ 28) : Calls Tryz.prog 82 #[.int .i64 k, .int .i64 4, .int .i64 3] w fun e w' => e = .returned (.tuple #[.int .i64 ((3 + baseS 4 k : Nat) : Int), .int .i64 ((groupM 4 k : Nat) : Int)]) ∧ w = w' := by
  have h : k = 0 ∨ k = 1 ∨ k = 2 ∨ k = 3 ∨ k = 4 ∨ k = 5 ∨ k = 6 ∨ k = 7 ∨ k = 8 ∨ k = 9 ∨ k = 10 ∨ k = 11 ∨ k = 12 ∨ k = 13 ∨ k = 14 ∨ k = 15 ∨ k = 16 ∨ k = 17 ∨ k = 18 ∨ k = 19 ∨ k = 20 ∨ k = 21 ∨ k = 22 ∨ k = 23 ∨ k = 24 ∨ k = 25 ∨ k = 26 ∨ k = 27 ∨ k = 28 := by omega
  rcases h with rfl | rfl | rfl | rfl | rfl | rfl | rfl | rfl | rfl | rfl | rfl | rfl | rfl | rfl | rfl | rfl | rfl | rfl | rfl | rfl | rfl | rfl | rfl | rfl | rfl | rfl | rfl | rfl | rfl
  all_goals (
    go_enter Tryz.func82, Tryz.ntmps82
    go_wp2
    go_ret2
    exact ⟨rfl, rfl⟩)
set_option maxHeartbeats 2000000 in
theorem groups_2 {k : Nat} (w : World) (hk : k ≤ 29) : Calls Tryz.prog 82 #[.int .i64 k, .int .i64 2, .int .i64 1] w fun e w' => e = .returned (.tuple #[.int .i64 ((1 + baseS 2 k : Nat) : Int), .int .i64 ((groupM 2 k : Nat) : Int)]) ∧ w = w' := by
  have h : k = 0 ∨ k = 1 ∨ k = 2 ∨ k = 3 ∨ k = 4 ∨ k = 5 ∨ k = 6 ∨ k = 7 ∨ k = 8 ∨ k = 9 ∨ k = 10 ∨ k = 11 ∨ k = 12 ∨ k = 13 ∨ k = 14 ∨ k = 15 ∨ k = 16 ∨ k = 17 ∨ k = 18 ∨ k = 19 ∨ k = 20 ∨ k = 21 ∨ k = 22 ∨ k = 23 ∨ k = 24 ∨ k = 25 ∨ k = 26 ∨ k = 27 ∨ k = 28 ∨ k = 29 := by omega
  rcases h with rfl | rfl | rfl | rfl | rfl | rfl | rfl | rfl | rfl | rfl | rfl | rfl | rfl | rfl | rfl | rfl | rfl | rfl | rfl | rfl | rfl | rfl | rfl | rfl | rfl | rfl | rfl | rfl | rfl | rfl
  all_goals (
    go_enter Tryz.func82, Tryz.ntmps82
    go_wp2
    go_ret2
    exact ⟨rfl, rfl⟩)
end Go.Proofs.YtmgbjgjlddifaaaGreat.Ifl
set_option linter.unusedVariables false
set_option linter.unusedSimpArgs false
namespace Go.Proofs.YtmgbjgjlddifaaaGreat.Ifl
open Go.RowKit K Bits Pfx Def Wrt Bak Inf

theorem rdr_to {w : World} {p : Nat} {A : Option Addr} {c : Nat} {l : List Int} {at_ : Nat} {up : Bool} (h : Rdr w p A c l at_ up) {a2 : Nat} {z : Int} (hz : (a2 : Int) = z) (hl : a2 ≤ 8 * l.length) : Rdr (w.setCell ⟨p, 1, none⟩ (.int .i64 z)) p A c l a2 up :=
  have hs := fun b hb => Below.heap_setCell w ⟨p, 1, none⟩ (.int .i64 z) b hb
  ⟨(h.row.set 1 _).congr (fun i hi => by
    subst hz
    have : i = 0 ∨ i = 1 ∨ i = 2 ∨ i = 3 := by omega
    rcases this with rfl | rfl | rfl | rfl <;> rfl), ⟨h.data.len, h.data.sz, fun j u hu => by
    obtain ⟨b, off, rfl, hc⟩ := h.data.sl j u hu
    exact ⟨b, off, rfl, (World.cell?_of_block (a := ⟨b, off + j, none⟩) (hs b (h.apart b off none rfl))).trans hc⟩⟩, h.apart, hl, h.wf⟩
theorem border_any {p : Nat} {A : Option Addr} {c : Nat} {l : List Int} {at_ : Nat} {up : Bool} (w : World) (HR : Rdr w p A c l at_ up) :
    Calls Tryz.prog 98 #[.pointer (some ⟨p, 0, none⟩)] w fun e w' => e = .returned (.int .i64 (((at_ + 7) / 8 : Nat) : Int)) ∧ w' = w := by
  have hbig := HR.data.bigb
  have hle := HR.le
  have c1 := HR.row.cell (i := 1) (by omega)
  simp only [rdrF] at c1
  go_enter Tryz.func98, Tryz.ntmps98
  go_wp2
  go_ret
  exact ⟨ret1 (eint (by omega)), rfl⟩
theorem balign {p : Nat} {A : Option Addr} {c : Nat} {l : List Int} {at_ : Nat} {up : Bool} (w : World) (HR : Rdr w p A c l at_ up) :
    Calls Tryz.prog 78 #[.pointer (some ⟨p, 0, none⟩)] w fun e w' => e = .returned (.tuple #[]) ∧ Rdr w' p A c l (8 * ((at_ + 7) / 8)) up ∧ w.grownBy w' (some p) := by
  have hbig := HR.data.bigb
  have hle := HR.le
  have HRR := Lib.hid HR
  have c1 := HR.row.cell (i := 1) (by omega)
  have f1 := HR.row.frozen 1
  simp only [rdrF] at c1
  clear HR
  go_enter Tryz.func78, Tryz.ntmps78
  go_wp2_with (go_at_call 98; refine (border_any w HRR.out).mono ?_; rintro e w' ⟨rfl, rfl⟩)
  go_end0
  exact ⟨rfl, rdr_to HRR.out (by push_cast; rfl) (by omega), set_grown _ _ _ _⟩
def BBytesP (w : World) (p : Nat) (A : Option Addr) (c : Nat) (l : List Int) (p0 n : Nat) (e : Ending) (w' : World) : Prop :=
  ∃ A1 c1, e = .returned (.tuple #[.slice A1 n c1, .int .i64 0]) ∧ Rdr w' p A c l (8 * (p0 + n)) false ∧ w.grownBy w' (some p) ∧ SI w' .u8 A1 n ((l.drop p0).take n) ∧ ∀ g q s, A1 = some ⟨g, q, s⟩ → w.heap.size ≤ g
set_option maxRecDepth 20000 in
set_option maxHeartbeats 2000000 in
theorem bbytes {p p0 n : Nat} {A : Option Addr} {c : Nat} {l : List Int} (w : World) (HR : Rdr w p A c l (8 * p0) false) (hc : l.length ≤ c) (hp : p0 + n ≤ l.length) (h0 : 0 < l.length) :
    Calls Tryz.prog 80 #[.pointer (some ⟨p, 0, none⟩), .int .i64 n] w (BBytesP w p A c l p0 n) := by
  obtain ⟨b, off, -, rfl, -⟩ := HR.data.cells (i := 0) h0
  have hbig := HR.data.bigb
  have HRR := Lib.hid HR
  have c0 := HR.row.cell (i := 0) (by omega)
  simp only [rdrF] at c0
  have d1 : decide ((n : Int) < 0) = false := decide_eq_false (by omega)
  have d2 : decide ((l.length : Int) - (p0 : Int) < (n : Int)) = false := decide_eq_false (by omega)
  have e1 : IntKind.i64.wrap ((l.length : Int) - (p0 : Int)) = (l.length : Int) - (p0 : Int) := IntWalk.i64_in _ (by omega)
  have HBO : ∀ k, Calls Tryz.prog 98 #[.pointer (some ⟨p, 0, none⟩)] (w.drewN k) fun e w' => e = .returned (.int .i64 (p0 : Int)) ∧ w' = w.drewN k := fun k => by
    have h := border_any (w.drewN k) (HR.drewN k)
    rwa [show ((8 * p0 + 7) / 8) = p0 by omega] at h
  have HBB := Lib.hid HBO
  clear HR HBO
  go_enter Tryz.func80, Tryz.ntmps80
  go_wp2_with fail
  go_quiet ((go_at_call 98; exact Calls.quiet_of_same (HBB.out _)))
  have HR1 := Lib.hid (HRR.out.drewN nq)
  have HG1 : Hid (w.grownBy (w.drewN nq) (some p)) := grown_drewN (World.grownBy.refl _ _) nq
  generalize w.drewN nq = W1 at HR1 HG1 ⊢
  have HB1 : Hid (Calls Tryz.prog 98 #[.pointer (some ⟨p, 0, none⟩)] W1 fun e w' => e = .returned (.int .i64 (p0 : Int)) ∧ W1 = w') := by
    show Calls _ _ _ _ _
    have h := border_any W1 HR1.out
    rw [show ((8 * p0 + 7) / 8) = p0 by omega] at h
    exact h.mono fun _ _ h => ⟨h.1, h.2.symm⟩
  clear c0 HRR HBB
  have c0 := HR1.out.row.cell (i := 0) (by omega)
  have c1 := HR1.out.row.cell (i := 1) (by omega)
  have f1 := HR1.out.row.frozen 1
  simp only [rdrF] at c0 c1
  have hzp := HR1.out.row.lt
  go_wp2_with fail
  refine HB1.out.mono ?_
  rintro e w' ⟨rfl, rfl⟩
  go_upto_region 9 with (fail)
  obtain ⟨W2, hW2, hr2, hg2⟩ : ∃ W2, W2 = W1.setCell ⟨p, 1, none⟩ (.int .i64 (8 * ((p0 : Int) + (n : Int)))) ∧ Rdr W2 p (some ⟨b, off, none⟩) c l (8 * (p0 + n)) false ∧ W1.grownBy W2 (some p) := ⟨_, rfl, rdr_to HR1.out (by push_cast; rfl) (by omega), set_grown _ _ _ _⟩
  rw [← hW2]
  have HR2 := Lib.hid hr2
  have HG2 := Lib.hid (HG1.out.trans hg2)
  clear hW2 hr2 hg2 c0 c1 f1 HB1 HR1 HG1 hzp
  have c0 := HR2.out.row.cell (i := 0) (by omega)
  simp only [rdrF] at c0
  have hbl : b < W2.heap.size := by
    obtain ⟨b2, o2, x2, e2, -, -, hb2⟩ := HR2.out.data.cells (i := 0) h0
    injection e2 with e2
    injection e2 with e2
    omega
  have HBL := Lib.hid hbl
  have s1 : IntKind.i64.wrap ((p0 : Int) + (n : Int)) = (p0 : Int) + (n : Int) := IntWalk.i64_in _ (by omega)
  have s2 : ((p0 : Int) + (n : Int)).toNat = p0 + n := by omega
  have s3 : (0 : Int) ≤ (p0 : Int) + (n : Int) := by omega
  have s4 : (p0 : Int) + (n : Int) ≤ (c : Int) := by omega
  have s5 : (p0 : Int) ≤ (p0 : Int) + (n : Int) := by omega
  have s6 : p0 + n - p0 = n := by omega
  by_cases hcp : c = p0
  · subst hcp
    have s7 : (c : Int) + (n : Int) ≤ (c : Int) := by omega
    go_wp2_with fail
    refine (clone_any W2 (drop_sl HR2.out.data hp off (fun h => by omega))).mono ?_
    rintro e w3 ⟨A3, c3, rfl, ho3, hb3⟩
    have HS3 : Hid (SI w3 .u8 A3 n ((l.drop c).take n)) := SI.of_own ho3 (by show _ * 1 ≤ _; omega)
    have HL3 := Lib.hid (own_lo ho3)
    have HR3 : Hid (Rdr w3 p (some ⟨b, off, none⟩) c l (8 * (c + n)) false) := HR2.out.keep (hb3.block _ HR2.out.row.lt) (fun b2 o2 s2 e2 => hb3.block b2 (by injection e2 with e2; injection e2 with e2; subst e2; exact HBL.out))
    have HG3 : Hid (w.grownBy w3 (some p)) := HG2.out.trans (grown_below hb3 _)
    have hz2 := HG2.out.size
    clear ho3 hb3
    go_wp2_with fail
    go_ret2
    exact ⟨A3, c3, rfl, HR3.out, HG3.out, HS3.out, fun g q s e => Nat.le_trans hz2 (HL3.out g q s e)⟩
  · go_wp2_with fail
    refine (clone_any W2 (drop_sl HR2.out.data hp (off + p0) (fun _ => rfl))).mono ?_
    rintro e w3 ⟨A3, c3, rfl, ho3, hb3⟩
    have HS3 : Hid (SI w3 .u8 A3 n ((l.drop p0).take n)) := SI.of_own ho3 (by show _ * 1 ≤ _; omega)
    have HL3 := Lib.hid (own_lo ho3)
    have HR3 : Hid (Rdr w3 p (some ⟨b, off, none⟩) c l (8 * (p0 + n)) false) := HR2.out.keep (hb3.block _ HR2.out.row.lt) (fun b2 o2 s2 e2 => hb3.block b2 (by injection e2 with e2; injection e2 with e2; subst e2; exact HBL.out))
    have HG3 : Hid (w.grownBy w3 (some p)) := HG2.out.trans (grown_below hb3 _)
    have hz2 := HG2.out.size
    clear ho3 hb3
    go_wp2_with fail
    go_ret2
    exact ⟨A3, c3, rfl, HR3.out, HG3.out, HS3.out, fun g q s e => Nat.le_trans hz2 (HL3.out g q s e)⟩
theorem xor16i (n : Nat) (h : n ≤ 65535) : bits .xor .i64 (n : Int) 65535 = 65535 - (n : Int) := by
  have e : n ^^^ 65535 = 65535 - n := by
    apply Nat.eq_of_testBit_eq
    intro i
    have h1 : 65535 - n = 2 ^ 16 - (n + 1) := by omega
    rw [h1, Nat.testBit_two_pow_sub_succ (by omega), Nat.testBit_xor, show (65535 : Nat) = 2 ^ 16 - 1 by rfl, Nat.testBit_two_pow_sub_one]
    by_cases hi : i < 16
    · simp [hi]
    · have : n.testBit i = false := Nat.testBit_lt_two_pow (Nat.lt_of_lt_of_le (by omega : n < 2 ^ 16) (Nat.pow_le_pow_right (by omega) (by omega)))
      simp [hi, this]
  show IntKind.i64.wrap ((BitVec.ofInt 64 (n : Int) ^^^ BitVec.ofInt 64 ((65535 : Nat) : Int)).toNat : Int) = _
  rw [BitVec.toNat_xor, BitVec.ofInt_natCast, BitVec.ofInt_natCast, BitVec.toNat_ofNat, BitVec.toNat_ofNat, Nat.mod_eq_of_lt (by omega), Nat.mod_eq_of_lt (by omega), e, IntKind.wrap_i64]
  omega
def StP (w : World) (X p : Nat) (A : Option Addr) (c : Nat) (l : List Int) (a2 : Nat) (Ao : Option Addr) (o : List Int) (most : Int) (base : Nat) (e : Ending) (w' : World) : Prop :=
  ∃ A1 c1, e = .returned (.tuple #[]) ∧ IR w' X p A c l a2 A1 c1 o most base ∧ ∀ B, B ≤ p → B ≤ w.heap.size → Below B w w'
set_option maxRecDepth 20000 in
set_option maxHeartbeats 4000000 in
theorem istored {X p p0 base : Nat} {A Ao : Option Addr} {c co : Nat} {l o d : List Int} {last most : Int} (w : World) (H : IR w X p A c l (8 * p0 + 3) Ao co o most base) (hc : l.length ≤ c) (hch : ChunkAt l p0 last d) (hm : (o.length : Int) + (d.length : Int) ≤ most) (hmb : most ≤ 2000000) :
    Calls Tryz.prog 51 #[.pointer (some ⟨X, 0, none⟩)] w (StP w X p A c l (8 * (p0 + 5 + d.length)) Ao (o ++ d) most base) := by
  have HH := Lib.hid H
  have HCH := Lib.hid hch
  have hle := hch.le
  have hsh := hch.short
  obtain ⟨⟨x0, x1, x2⟩, y0, y1, y2⟩ := H.cells
  have hbig := H.rd.data.bigb
  clear H hch
  go_enter Tryz.func51, Tryz.ntmps51
  go_wp2_with fail
  refine (balign w HH.out.rd).mono ?_
  rintro e w1 ⟨rfl, hr1, hg1⟩
  rw [show 8 * ((8 * p0 + 3 + 7) / 8) = 8 * (p0 + 1) by omega] at hr1
  have HI1 := Lib.hid (HH.out.adv hr1 hg1)
  have HG1 := Lib.hid hg1
  clear hr1 hg1 x0 x1 x2 y0 y1 y2
  have HCALL := Lib.hid (itake (n := 16) (kk := 16) w1 HI1.out (by omega) (by omega) rfl HCH.out.n)
  go_wp2_with fail
  refine HCALL.out.mono ?_
  rintro e w2 ⟨rfl, hi2, hg2⟩
  have HI2 := Lib.hid hi2
  have HG2 := Lib.hid (HG1.out.trans hg2)
  clear hi2 hg2 HI1 HG1 HCALL
  have HCALL := Lib.hid (itake (n := 16) (kk := 16) w2 HI2.out (by omega) (by omega) rfl (v := 65535 - (d.length : Int)) (by have h := HCH.out.m; rwa [show 8 * (p0 + 3) = 8 * (p0 + 1) + 16 by omega] at h))
  have hx := xor16i d.length hsh
  go_wp2_with fail
  refine HCALL.out.mono ?_
  rintro e w3 ⟨rfl, hi3, hg3⟩
  rw [show 8 * (p0 + 1) + 16 + 16 = 8 * (p0 + 5) by omega] at hi3
  have HI3 := Lib.hid hi3
  have HG3 := Lib.hid (HG2.out.trans hg3)
  clear hi3 hg3 HI2 HG2 HCALL
  have hne : ((65535 - (d.length : Int)) != (65535 - (d.length : Int))) = false := by simp
  have HCALL := Lib.hid (iroom (n := (d.length : Int)) w3 HI3.out hm (by omega) hmb)
  go_wp2_with fail
  refine HCALL.out.mono ?_
  rintro e w4 ⟨rfl, k4, rfl⟩
  have HI4 := Lib.hid (HI3.out.drewN k4)
  have HG4 := Lib.hid (grown_drewN HG3.out k4)
  generalize w3.drewN k4 = w4 at HI4 HG4 ⊢
  clear HI3 HG3 HCALL
  obtain ⟨⟨x0, x1, x2⟩, y0, y1, y2⟩ := HI4.out.cells
  have HCALL := Lib.hid (bbytes (n := d.length) w4 HI4.out.rd hc (by omega) (by omega))
  go_wp2_with fail
  refine HCALL.out.mono ?_
  rintro e w5 ⟨A5, c5, rfl, hr5, hg5, hs5, hl5⟩
  rw [HCH.out.data] at hs5
  have HI5 := Lib.hid (HI4.out.adv hr5 hg5)
  have HS5 := Lib.hid hs5
  have HG5 := Lib.hid (HG4.out.trans hg5)
  clear hr5 hg5 hs5 hl5 HI4 HG4 HCALL x0 x1 x2 y0 y1 y2
  go_wp2_with fail
  refine (must_ok w5).mono ?_
  rintro e w6 ⟨rfl, rfl⟩
  obtain ⟨⟨x0, x1, x2⟩, y0, y1, y2⟩ := HI5.out.cells
  have hzx := HI5.out.lt
  have hzb := HI5.out.hb
  go_wp2_with (at_builtin; refine wpList_append_sl _ rfl (.tmp 37) (.tmp 38) _ rfl base 5 1 1 _ Tryz.underlying22 infoU8 rfl (by omega) (.slice Ao o.length co) o.length _ rfl HI5.out.own A5 d.length c5 (d.map (.int .u8)) rfl ?c1 HS5.out.sl (ones _ _) ?c2 ?c3 ?c4 ?_)
  case c1 => simp
  case c2 => unfold maxLen; omega
  case c3 => omega
  case c4 => omega
  intro v' w7 hown7 hg7 hat7
  obtain ⟨A7, c7, rfl⟩ := own_form hown7
  have hle2 : (o ++ d).length = o.length + d.length := List.length_append
  have HOW7 : Hid (w7.ownsRow base 5 1 (.slice A7 (o ++ d).length c7) (o ++ d).length ((o ++ d).map (.int .u8))) := by
    show World.ownsRow _ _ _ _ _ _ _
    rw [hle2, List.map_append]; exact hown7
  have hap := HI5.out.app0 hg7
  have HAP := Lib.hid (hap.2 A7 c7 (o ++ d) HOW7.out)
  have HG7 := Lib.hid hg7
  have hb7 := hap.1.trans HI5.out.blk
  have HLE := Lib.hid hle2
  clear hown7 hg7 hat7 hap hle2 x0 x1 x2 y0 y1 y2
  obtain ⟨⟨x0, x1, x2⟩, y0, y1, y2⟩ := cells3 hb7
  clear hb7
  go_wp2_with fail
  go_end0
  refine ⟨A7, c7, rfl, ?_, fun B hB hBw => ?_⟩
  · have h := HAP.out
    rwa [HLE.out] at h
  · have hpx := HI5.out.px
    have hxb := HI5.out.xb
    have h1 : Below B w w5 := (Below.refl B w).grown HG5.out hBw (fun b e => by injection e with e; omega)
    have h2 : Below B w w7 := h1.grown HG7.out (by have := HG5.out.size; omega) (fun b e => by have := (HI5.out.own.lt b e).1; omega)
    exact h2.setCell (by show B ≤ X; omega) _
end Go.Proofs.YtmgbjgjlddifaaaGreat.Ifl
set_option linter.unusedVariables false
set_option linter.unusedSimpArgs false
namespace Go.Proofs.YtmgbjgjlddifaaaGreat.Ifl
open Go.RowKit K Bits Pfx Def Wrt Bak Inf

theorem decode_n {L l : List Int} {a s : Nat} (hc : checkedOf L = 0) (hs : L.getD s 0 ≠ 0) (h : BitsAt l a (codeBits L s)) : nextM L (bitAt l false) (8 * l.length) a = ((s : Int), 0, a + (codeBits L s).length) := by
  rw [Ref.next_eq L (bitAt l false) (fun i => (bitAt_bd l false i).1)]
  exact decode_at hc hs h
theorem sym_next {L D l : List Int} {a1 : Nat} {rs : List Pc} (hb : BitsAt l a1 (bodyBits L D rs)) (hus : ∀ q ∈ rs, UseP L D q) (hu : L.getD 256 0 ≠ 0) :
    ∃ s, BitsAt l a1 (codeBits L s) ∧ L.getD s 0 ≠ 0 ∧ ((rs = [] ∧ s = 256) ∨ ∃ p rs', rs = p :: rs' ∧ ((p.n = 0 ∧ s = p.b) ∨ (p.n ≠ 0 ∧ s = (lengthM p.n).1))) := by
  cases rs with
  | nil => exact ⟨256, by simpa [bodyBits] using hb, hu, .inl ⟨rfl, rfl⟩⟩
  | cons p rs' =>
    have hq := hus p (by simp)
    rw [bodyBits_cons] at hb
    have hb := hb.left
    by_cases h0 : p.n = 0
    · rw [pieceBits_lit L D p h0] at hb
      exact ⟨p.b, hb, hq.1 h0, .inr ⟨p, rs', rfl, .inl ⟨h0, rfl⟩⟩⟩
    · rw [pieceBits_copy L D p h0] at hb
      exact ⟨_, hb.left, (hq.2 h0).1, .inr ⟨p, rs', rfl, .inr ⟨h0, rfl⟩⟩⟩
/-- at the head of symbols' loop: o is written, the pieces rs are still to be read -/
structure SH (L D l : List Int) (ps : List Pc) (a : Nat) (w wx : World) (X p : Nat) (A : Option Addr) (c : Nat) (most : Int) (o : List Int) (rs : List Pc) (a1 : Nat) (A1 : Option Addr) (c1 : Nat) : Prop where
  ir : IR wx X p A c l a1 A1 c1 o most w.heap.size
  chg : Chg w wx (fun i => i = X ∨ i = p)
  ok : OkPs o rs
  ex : expand o rs = expand [] ps
  use : ∀ q ∈ rs, UseP L D q
  bits : BitsAt l a1 (bodyBits L D rs)
  at_ : a1 + (bodyBits L D rs).length = a + (bodyBits L D ps).length
theorem sh_next {L D l : List Int} {ps : List Pc} {a : Nat} {w wx : World} {X p : Nat} {A : Option Addr} {c : Nat} {most : Int} {o : List Int} {q : Pc} {rs : List Pc} {a1 a2 : Nat} {A1 : Option Addr} {c1 : Nat}
    (hex : expand o (q :: rs) = expand [] ps) (hok : OkPs o (q :: rs)) (hus : ∀ r ∈ q :: rs, UseP L D r) (hat : a1 + (bodyBits L D (q :: rs)).length = a + (bodyBits L D ps).length) (hbt : BitsAt l a1 (bodyBits L D (q :: rs)))
    (ha2 : a2 = a1 + (pieceBits L D q).length) (hi : IR wx X p A c l a2 A1 c1 (grow o q) most w.heap.size) (hc : Chg w wx (fun i => i = X ∨ i = p)) :
    SH L D l ps a w wx X p A c most (grow o q) rs a2 A1 c1 := by
  subst ha2
  rw [bodyBits_cons] at hat hbt
  rw [List.length_append] at hat
  exact ⟨hi, hc, hok.2, hex, fun r hr => hus r (List.mem_cons_of_mem _ hr), hbt.right, by omega⟩
def SymP (w : World) (X p : Nat) (A : Option Addr) (c : Nat) (l : List Int) (a2 : Nat) (most : Int) (b : List Int) (e : Ending) (w' : World) : Prop :=
  ∃ A1 c1, e = .returned (.tuple #[]) ∧ IR w' X p A c l a2 A1 c1 b most w.heap.size ∧ Chg w w' (fun i => i = X ∨ i = p)
/-- a decoder that symbols' writing leaves alone -/
structure Dd (w : World) (X p d : Nat) (L : List Int) (Ad : Option Addr) (cd : Nat) : Prop where
  dc : Dc w d L Ad cd
  dx : d ≠ X
  dp : d ≠ p
  ax : ∀ b off s, Ad = some ⟨b, off, s⟩ → b ≠ X ∧ b ≠ p
theorem Dd.chg {w w' : World} {X p d : Nat} {L : List Int} {Ad : Option Addr} {cd : Nat} (h : Dd w X p d L Ad cd) (hc : Chg w w' (fun i => i = X ∨ i = p)) : Dd w' X p d L Ad cd :=
  ⟨h.dc.keep (hc.block d h.dc.row.lt (fun e => by have := h.dx; have := h.dp; omega)) (fun b off s e hlt => hc.block b hlt (fun e2 => by have := h.ax b off s e; omega)), h.dx, h.dp, h.ax⟩
theorem Chg.p {w w1 w2 : World} {X p : Nat} (h : Chg w w1 (fun i => i = X ∨ i = p)) (hg : w1.grownBy w2 (some p)) : Chg w w2 (fun i => i = X ∨ i = p) := Inf.Chg.grow2 h hg (fun b e _ => by injection e with e; exact .inr e.symm)
theorem Chg.x {w w1 : World} {X p : Nat} (h : Chg w w1 (fun i => i = X ∨ i = p)) (i : Nat) (v : Value) : Chg w (w1.setCell ⟨X, i, none⟩ v) (fun i => i = X ∨ i = p) := Inf.Chg.grow2 h (set_grown w1 X i v) (fun b e _ => by injection e with e; exact .inl e.symm)
theorem Chg.new {w w1 w2 : World} {X p : Nat} {row : Option Nat} (h : Chg w w1 (fun i => i = X ∨ i = p)) (hg : w1.grownBy w2 row) (hr : ∀ b, row = some b → w.heap.size ≤ b) : Chg w w2 (fun i => i = X ∨ i = p) := Inf.Chg.grow2 h hg (fun b e hlt => by have := hr b e; omega)
theorem Chg.dr {w w1 : World} {X p : Nat} (h : Chg w w1 (fun i => i = X ∨ i = p)) (k : Nat) : Chg w (w1.drewN k) (fun i => i = X ∨ i = p) := h.trans (S2 := fun _ => False) (Chg.of_below (below_drewN (Below.refl _ w1) k)) (fun _ _ h => h.elim)
theorem undrew1 {w w2 : World} {r : Option Nat} (h : w.drew.grownBy w2 r) : w.grownBy w2 r := ⟨h.os, h.tape, h.output, h.size, h.block⟩
/-- a reader through an append to what is its own -/
theorem IR.app {w w2 : World} {X p : Nat} {A : Option Addr} {c : Nat} {l : List Int} {at_ : Nat} {Ao : Option Addr} {co : Nat} {o : List Int} {most : Int} {base : Nat} {ob : Obj} (h : IR w X p A c l at_ Ao co o most base)
    (hg : (w.alloc ob).grownBy w2 (Value.slice Ao o.length co).ownBlock) : w2.heap[X]? = w.heap[X]? ∧ ∀ A2 c2 (o2 : List Int), w2.ownsRow base 5 1 (.slice A2 o2.length c2) o2.length (o2.map (.int .u8)) → IR (w2.setCell ⟨X, 1, none⟩ (.slice A2 o2.length c2)) X p A c l at_ A2 c2 o2 most base := by
  have hx := h.lt
  have h1 := h.px
  have hne : ∀ i, i ≤ X → (w2.heap[i]? = w.heap[i]?) := fun i hi => by
    rw [hg.block i (by rw [World.size_alloc]; omega) (fun e => by have := (h.own.lt i e.symm).1; have := h.xb; omega)]
    exact Below.heap_alloc _ _ _ (by omega)
  refine ⟨hne X (Nat.le_refl _), fun A2 c2 o2 hown => ?_⟩
  have hs : w.heap.size ≤ w2.heap.size := by have := hg.size; rw [World.size_alloc] at this; omega
  have hgs := set_grown w2 X 1 (.slice A2 o2.length c2)
  refine ⟨h.rd.keep ((hgs.block _ (by have := h.rd.row.lt; omega) (fun e => by injection e with e; omega)).trans (hne p (by omega))) (fun b off s e => (hgs.block b (by have := h.ax b off s e; omega) (fun e2 => by injection e2 with e2; have := h.ax b off s e; omega)).trans (hne b (by have := h.ax b off s e; omega))),
    (set_row3 ((hne X (Nat.le_refl _)).trans h.blk)).2 _, own_frame hown (fun g hg2 => hgs.block g (hown.lt g hg2).2 (fun e => by injection e with e; have := (hown.lt g hg2).1; have := h.xb; omega)), h.px, h.xb, h.ax, by have := h.hb; have := hgs.size; omega⟩
theorem fin_copy {w5 : World} {X p : Nat} {A : Option Addr} {c : Nat} {l : List Int} {a : Nat} {most : Int} {base gg cap m : Nat} {o1 o2 : List Int} {x : Int} (hl : o1.length = m) (h2 : o2 = o1 ++ [x]) (hown : w5.ownsRow base 5 1 (.slice (some ⟨gg, 0, none⟩) (m + 1) cap) (m + 1) (o1.map (.int .u8) ++ [.int .u8 x]))
    (h : ∀ o3 : List Int, w5.ownsRow base 5 1 (.slice (some ⟨gg, 0, none⟩) o3.length cap) o3.length (o3.map (.int .u8)) → IR (w5.setCell ⟨X, 1, none⟩ (.slice (some ⟨gg, 0, none⟩) o3.length cap)) X p A c l a (some ⟨gg, 0, none⟩) cap o3 most base) :
    IR (w5.setCell ⟨X, 1, none⟩ (.slice (some ⟨gg, 0, none⟩) (m + 1) cap)) X p A c l a (some ⟨gg, 0, none⟩) cap o2 most base := by
  subst h2
  have e : (o1 ++ [x]).length = m + 1 := by rw [List.length_append, hl]; rfl
  have h3 := h (o1 ++ [x]) (by rw [e, List.map_append]; exact hown)
  rwa [e] at h3
set_option maxRecDepth 20000 in
set_option maxHeartbeats 8000000 in
theorem isymbols {X p dL dD : Nat} {A AL AD : Option Addr} {c cL cD : Nat} {l L D : List Int} {a : Nat} {most : Int} {ps : List Pc} {co : Nat} (w : World) (H : IR w X p A c l a none co [] most w.heap.size) (HDL : Dd w X p dL L AL cL) (HDD : Dd w X p dD D AD cD)
    (hL : checkedOf L = 0) (hD : checkedOf D = 0) (hok : OkPs [] ps) (hu : Use L D ps) (hbits : BitsAt l a (bodyBits L D ps)) (hmost : ((expand [] ps).length : Int) ≤ most) (hmb : most ≤ 2000000) :
    Calls Tryz.prog 52 #[.pointer (some ⟨X, 0, none⟩), .pointer (some ⟨dL, 0, none⟩), .pointer (some ⟨dD, 0, none⟩)] w (SymP w X p A c l (a + (bodyBits L D ps).length) most (expand [] ps)) := by
  have HLL := Lib.hid HDL
  have HDDD := Lib.hid HDD
  have HL0 := Lib.hid hL
  have HD0 := Lib.hid hD
  have HU := Lib.hid hu.2
  have hbig := H.rd.data.bigb
  have HH : Hid (SH L D l ps a w w X p A c most [] ps a none co) := ⟨H, Chg.refl _ _, hok, rfl, hu.1, hbits, rfl⟩
  clear H HDL HDD hL hD hok hu hbits
  go_enter Tryz.func52, Tryz.ntmps52
  go_wp2_with fail
  go_loopw [] (fun wx => ∃ o rs a1 A1 c1, SH L D l ps a w wx X p A c most o rs a1 A1 c1) (fun wx => 8 * l.length - (intOf ((wx.cell? ⟨p, 1, none⟩).getD (.int .i64 0))).toNat)
  case atStart => exact ⟨[], ps, a, none, co, HH.out⟩
  case round =>
    clear HH
    obtain ⟨o, rs, a1, A1, c1, hh⟩ := hrel
    have HHD := Lib.hid hh
    obtain ⟨s, hs1, hs2, hs3⟩ := sym_next hh.bits hh.use HU.out
    have HS3 := Lib.hid hs3
    have ha1 := hs1.le
    have hdec := decode_n HL0.out hs2 hs1
    have hcl0 : 1 ≤ (codeBits L s).length := codeBits_pos HL0.out hs2
    generalize hcl : (codeBits L s).length = cl at hdec ha1 hcl0
    have HCL := Lib.hid hcl
    have hdl := HLL.out.chg hh.chg
    have HCALL := Lib.hid (inext wr hh.ir hdl.dc hdl.dp (fun b off s e => (hdl.ax b off s e).2) hdec)
    have HA2 : Hid (wr.cell? ⟨p, 1, none⟩ = some (.int .i64 (a1 : Int))) := hh.ir.rd.row.cell (i := 1) (by omega)
    clear hh hs1 hs2 hs3 hdec hcl hdl
    go_wp2_with fail
    refine HCALL.out.mono ?_
    rintro e w2 ⟨rfl, hi2, hg2⟩
    have HI2 := Lib.hid hi2
    have HC2 := Lib.hid (Chg.p HHD.out.chg hg2)
    have hex := HHD.out.ex
    have hok := HHD.out.ok
    have huse := HHD.out.use
    have hat := HHD.out.at_
    have hbt := HHD.out.bits
    have hs3 := HS3.out
    clear hi2 hg2 HCALL HS3 HHD
    rcases hs3 with ⟨rfl, hs⟩ | ⟨q, rs', rfl, hs⟩
    · have hse : ((s : Int) == 256) = true := by subst hs; rfl
      have HSE := Lib.hid hs
      have HEX := Lib.hid hex
      have HAT := Lib.hid hat
      clear hs hok huse hbt hex hat
      go_wp2_with fail
      have heo : o = expand [] ps := HEX.out
      have hal : a + (bodyBits L D ps).length = a1 + cl := by rw [← HAT.out, ← HCL.out, HSE.out]; simp [bodyBits]
      go_end0
      refine ⟨A1, c1, rfl, ?_, HC2.out⟩
      rw [hal, ← heo]
      exact HI2.out
    · have HEX := Lib.hid hex
      have HOK := Lib.hid hok
      have HUS := Lib.hid huse
      have HAT := Lib.hid hat
      have HBT := Lib.hid hbt
      clear hex hok huse hat hbt
      rcases hs with ⟨hn, hs⟩ | ⟨hn, hs⟩
      · have hpb : q.b < 256 := by
          rcases HOK.out.1 with z | z
          · exact z.2
          · omega
        have hgl : (o.length : Int) + 1 ≤ most := by
          have q1 := expand_len rs' (grow o q)
          have q2 := grow_len o q
          rw [if_pos hn] at q2
          have q3 : expand (grow o q) rs' = expand [] ps := HEX.out
          rw [q3] at q1
          omega
        have hse : ((s : Int) == 256) = false := by simp; omega
        have hlt : decide ((s : Int) < 256) = true := decide_eq_true (by omega)
        have hw8 : IntKind.u8.wrap (s : Int) = (s : Int) := IntWalk.u8_in _ (by omega)
        have HN := Lib.hid hn
        have HSB := Lib.hid hs
        clear hn hs
        go_wp2_with fail
        refine (iroom (n := 1) w2 HI2.out hgl (by omega) hmb).mono ?_
        rintro e w3 ⟨rfl, k3, rfl⟩
        have HI3 := Lib.hid (HI2.out.drewN k3)
        have HC3 := Lib.hid (Chg.dr HC2.out k3)
        generalize w2.drewN k3 = w3 at HI3 HC3 ⊢
        clear HI2 HC2
        obtain ⟨⟨x0, x1, x2⟩, y0, y1, y2⟩ := HI3.out.cells
        have hzx := HI3.out.lt
        have hzb := HI3.out.hb
        go_wp2_with (at_builtin; refine wpList_append_sl _ rfl (.tmp 26) (.tmp 29) _ rfl w.heap.size 5 1 1 _ Tryz.underlying22 infoU8 rfl (by omega) (.slice A1 o.length c1) o.length _ rfl (HI3.out.own.alloc _) _ 1 1 [.int .u8 (s : Int)] rfl rfl (Bld.Sl.new w3 [.int .u8 (s : Int)] _) ?c1 ?c2 ?c3 ?c4 ?_)
        case c1 => simp [Value.oneCell']
        case c2 => unfold maxLen; omega
        case c3 => omega
        case c4 => simp; omega
        intro v' w7 hown7 hg7 hat7
        obtain ⟨A7, c7, rfl⟩ := own_form hown7
        have hgr : grow o q = o ++ [(s : Int)] := by unfold grow; rw [if_pos HN.out, HSB.out]
        have hle2 : (grow o q).length = o.length + 1 := by rw [hgr]; simp
        have HOW7 : Hid (w7.ownsRow w.heap.size 5 1 (.slice A7 (grow o q).length c7) (grow o q).length ((grow o q).map (.int .u8))) := by
          show World.ownsRow _ _ _ _ _ _ _
          rw [hle2, hgr, List.map_append]; exact hown7
        have happ := HI3.out.app hg7
        have HAPP := Lib.hid (happ.2 A7 c7 (grow o q) HOW7.out)
        have HC7 : Hid (Chg w w7 (fun i => i = X ∨ i = p)) := Chg.new (Chg.new HC3.out (World.grownBy_alloc _ _ none) (fun b e => by cases e)) hg7 (fun b e => (HI3.out.own.lt b e).1)
        have hb7 := happ.1.trans HI3.out.blk
        have hle2' := Lib.hid hle2
        clear hown7 hg7 hat7 happ hgr hle2 x0 x1 x2 y0 y1 y2
        obtain ⟨⟨x0, x1, x2⟩, y0, y1, y2⟩ := cells3 hb7
        clear hb7
        have HP : Hid (cl = (pieceBits L D q).length) := by show _ = _; rw [pieceBits_lit L D q HN.out, ← HSB.out, HCL.out]
        go_wp2_with fail
        have hi8 : IR (w7.setCell ⟨X, 1, none⟩ (.slice A7 (o.length + 1) c7)) X p A c l (a1 + cl) A7 c7 (grow o q) most w.heap.size := by
          have := HAPP.out
          rwa [hle2'.out] at this
        have z2 := hi8.rd.row.cell (i := 1) (by omega)
        have hc8 := Chg.x HC7.out 1 (.slice A7 (o.length + 1) c7)
        go_roundw
        case rel => exact ⟨grow o q, rs', a1 + cl, A7, c7, sh_next HEX.out HOK.out HUS.out HAT.out HBT.out (by rw [HP.out]) hi8 hc8⟩
        case measure => rw [z2, HA2.out]; simp [intOf, rdrF]; omega
      · obtain ⟨g1, g2, g3, g4, g5⟩ : 3 ≤ q.n ∧ q.n ≤ 258 ∧ 1 ≤ q.back ∧ q.back ≤ 32768 ∧ q.back ≤ o.length := by
          rcases HOK.out.1 with z | z
          · omega
          · exact z
        have hgl : (o.length : Int) + q.n ≤ most := by
          have q1 := expand_len rs' (grow o q)
          have q2 := grow_len o q
          rw [if_neg hn] at q2
          have q3 : expand (grow o q) rs' = expand [] ps := HEX.out
          rw [q3] at q1
          omega
        have HGR : Hid (grow o q = copyN o q.back q.n) := by show _ = _; unfold grow; rw [if_neg hn]
        have hpb := pieceBits_copy L D q hn
        rw [← hs] at hpb
        have HP : Hid (cl + (restBits D q).length = (pieceBits L D q).length) := by show _ = _; rw [hpb, List.length_append, HCL.out]
        have hbr : BitsAt l (a1 + cl) (restBits D q) := by
          have z := HBT.out
          rw [bodyBits_cons] at z
          have z := z.left
          rw [hpb] at z
          have z := z.right
          rwa [HCL.out] at z
        have HUU := Lib.hid ((HUS.out q (by simp)).2 hn).2
        have HLB := Lib.hid (lengthM_bd g1 g2)
        have HDB := Lib.hid (distM_bd g3 g4)
        have HDS := Lib.hid (dist_base g3)
        have HLS := Lib.hid (fun h => length_base g1 (n := q.n) h)
        have HL8 : Hid (q.n = 258 → lengthM q.n = (285, 0, 0)) := fun h => by unfold lengthM; rw [if_pos h]
        have HBI := Lib.hid hbr
        have hlb1 := hbr.le
        have hrb : restBits D q = putV false ((lengthM q.n).2.1 : Nat) (lengthM q.n).2.2 ++ codeBits D (distM q.back).1 ++ putV false ((distM q.back).2.1 : Nat) (distM q.back).2.2 := rfl
        rw [hrb] at hlb1 HBI HP
        simp only [List.length_append, putV_length] at hlb1 HP
        clear hrb hpb hbr
        have HSS := Lib.hid hs
        clear hs hn
        obtain ⟨qb, qn, qback⟩ := q
        simp only at *
        have hs := HSS.out
        clear HSS
        generalize hlm : lengthM qn = lm at *
        generalize hdm : distM qback = dm at *
        obtain ⟨s1, v1, m1⟩ := lm
        obtain ⟨s2, v2, m2⟩ := dm
        simp only at *
        subst hs
        clear hlm hdm
        have hs1 : s ≤ 285 ∧ 257 ≤ s := by have := HLB.out; omega
        have hse : ((s : Int) == 256) = false := by simp; omega
        have hlt : decide ((s : Int) < 256) = false := decide_eq_false (by omega)
        have hd0 : decide ((285 : Int) < (s : Int)) = false := decide_eq_false (by omega)
        have hsub : (s : Int) - 257 = ((s - 257 : Nat) : Int) := by omega
        go_wp2_with fail
        refine (groups_4 (k := s - 257) w2 (by omega)).mono ?_
        rintro e w3 ⟨rfl, rfl⟩
        go_upto_if 45 with (fail)
        go_cut [7, 8] (fun sa sb wx => sa = .int .i64 ((qn - v1 : Nat) : Int) ∧ sb = .int .i64 (m1 : Int) ∧ w2 = wx)
        case first =>
          by_cases h8 : qn = 258
          · have he := HL8.out h8
            simp only [Prod.mk.injEq] at he
            obtain ⟨rfl, rfl, rfl⟩ := he
            have hv : Hid (qn - 0 = 258) := by show _ = _; omega
            go_wp2
            go_meet
            case rel => exact ⟨by rw [hv.out]; rfl, rfl, rfl⟩
          · obtain ⟨k1, k2, k3, k4⟩ := HLS.out (by omega)
            have hne : ((s : Int) == 285) = false := by simp; omega
            have hv : Hid (qn - v1 = 3 + baseS 4 (s - 257)) := by show _ = _; omega
            have HK4 := Lib.hid k4
            clear k3 k4
            go_wp2
            go_meet
            case rel => exact ⟨eint (by rw [hv.out]; push_cast; rfl), by rw [HK4.out], rfl⟩
        case rest =>
          obtain ⟨rfl, rfl, rfl⟩ := hcut
          have htk : takeV l false (a1 + cl) m1 = (v1 : Int) := take_at HBI.out.left.left (by omega) (by have := HLB.out.2.2.2; exact_mod_cast this)
          have hvn : ((qn - v1 : Nat) : Int) + (v1 : Int) = (qn : Int) := by
            have : v1 ≤ qn := by
              by_cases h8 : qn = 258
              · have he := HL8.out h8; simp only [Prod.mk.injEq] at he; omega
              · have := HLS.out (by omega); omega
            omega
          have HCALL := Lib.hid (itake (n := m1) (kk := (m1 : Int)) w2 HI2.out (by have := HLB.out; omega) (by omega) rfl htk)
          clear htk
          go_wp2_with fail
          refine HCALL.out.mono ?_
          rintro e w3 ⟨rfl, hi3, hg3⟩
          have HI3 := Lib.hid hi3
          have HC3 := Lib.hid (Chg.p HC2.out hg3)
          clear hi3 hg3 HI2 HC2 HCALL
          have hbr := HBI.out.left.right
          rw [putV_length] at hbr
          have hdec := decode_n HD0.out HUU.out hbr
          generalize hcl2 : (codeBits D s2).length = cl2 at hlb1 hdec HP ⊢
          have HCL2 := Lib.hid hcl2
          have hdd := HDDD.out.chg HC3.out
          have HCALL := Lib.hid (inext w3 HI3.out hdd.dc hdd.dp (fun b off s e => (hdd.ax b off s e).2) hdec)
          clear hbr hdec hcl2 hdd
          have hd29 : decide ((29 : Int) < (s2 : Int)) = false := decide_eq_false (by have := HDB.out; omega)
          go_wp2_with fail
          refine HCALL.out.mono ?_
          rintro e w4 ⟨rfl, hi4, hg4⟩
          have HI4 := Lib.hid hi4
          have HC4 := Lib.hid (Chg.p HC3.out hg4)
          clear hi4 hg4 HI3 HC3 HCALL
          have hd2 := HDS.out
          go_wp2_with fail
          refine (groups_2 (k := s2) w4 (by have := HDB.out; omega)).mono ?_
          rintro e w5 ⟨he, rfl⟩
          rw [hd2.2, show 1 + baseS 2 s2 = qback - v2 by omega] at he
          subst he
          have hv2 : v2 ≤ qback := by omega
          clear hd2
          have htk := take_at (l := l) (a := a1 + cl + m1 + cl2) (n := m2) (v := (v2 : Int)) (by
            have := HBI.out.right
            rw [List.length_append, putV_length] at this
            rw [HCL2.out] at this
            rw [Nat.add_assoc (a1 + cl)]; exact this) (by omega) (by have := HDB.out.2.2; exact_mod_cast this)
          have hfar : ((qback - v2 : Nat) : Int) + (v2 : Int) = (qback : Int) := by omega
          have HCALL := Lib.hid (itake (n := m2) (kk := (m2 : Int)) w4 HI4.out (by have := HDB.out; omega) (by omega) rfl htk)
          clear htk
          go_wp2_with fail
          refine HCALL.out.mono ?_
          rintro e w6 ⟨rfl, hi6, hg6⟩
          have HI6 := Lib.hid hi6
          have HC6 := Lib.hid (Chg.p HC4.out hg6)
          clear hi6 hg6 HI4 HC4 HCALL
          obtain ⟨⟨x0, x1, x2⟩, y0, y1, y2⟩ := HI6.out.cells
          have hdf : decide ((o.length : Int) < (qback : Int)) = false := decide_eq_false (by omega)
          have HCALL := Lib.hid (iroom (n := (qn : Int)) w6 HI6.out hgl (by omega) hmb)
          go_wp2_with fail
          refine HCALL.out.mono ?_
          rintro e w7 ⟨rfl, k7, rfl⟩
          have HI7 := Lib.hid (HI6.out.drewN k7)
          have HC7 := Lib.hid (Chg.dr HC6.out k7)
          generalize w6.drewN k7 = w7 at HI7 HC7 ⊢
          clear HI6 HC6 HCALL x0 x1 x2 y0 y1 y2
          go_wp2_with fail
          go_loopw [81] (fun si wx => ∃ (j : Nat) (A5 : Option Addr) (c5 : Nat), j ≤ qn ∧ si = .int .i64 j ∧ IR wx X p A c l (a1 + cl + m1 + cl2 + m2) A5 c5 (copyN o qback j) most w.heap.size ∧ Chg w wx (fun i => i = X ∨ i = p)) (fun si _ => qn - (intOf si).toNat)
          case atStart => exact ⟨0, A1, c1, by omega, rfl, HI7.out, HC7.out⟩
          case round =>
            clear HI7 HC7
            obtain ⟨j, A5, c5, hj, rfl, hi, hc⟩ := hrel
            have HI := Lib.hid hi
            have HC := Lib.hid hc
            clear hi hc
            by_cases hjn : j < qn
            · have hdj : decide ((j : Int) < (qn : Int)) = true := decide_eq_true (by omega)
              have hlen := copyN_len o qback j
              have hown := HI.out.own
              obtain ⟨g, rfl⟩ : ∃ g, A5 = some ⟨g, 0, none⟩ := by
                rcases hown.2 with ⟨hv, h1⟩ | ⟨g, cap, cur, hv, -⟩
                · omega
                · injection hv with hv; exact ⟨g, hv⟩
              obtain ⟨x, hx⟩ : ∃ x, (copyN o qback j)[o.length + j - qback]? = some x := ⟨_, List.getElem?_eq_getElem (by omega)⟩
              have kx : wr.cell? ⟨g, o.length + j - qback, none⟩ = some (.int .u8 x) := by
                rw [hown.cellAt (g := g) _ (by omega), List.getElem?_map, hx]; rfl
              have hgl2 := hown.lt g rfl
              rw [hlen] at hown
              have HOWN := Lib.hid hown
              have hst : copyN o qback (j + 1) = copyN o qback j ++ [x] := by rw [copyN, hlen, getD_of hx]
              have HST := Lib.hid hst
              have HLEN := Lib.hid hlen
              obtain ⟨⟨x0, x1, x2⟩, y0, y1, y2⟩ := HI.out.cells
              rw [hlen] at x1
              have e1 : IntKind.i64.wrap ((o.length : Int) + (j : Int) - (qback : Int)) = (o.length : Int) + (j : Int) - (qback : Int) := IntWalk.i64_in _ (by omega)
              have e2 : ((o.length : Int) + (j : Int) - (qback : Int)).toNat = o.length + j - qback := by omega
              have i0 : (0 : Int) ≤ (o.length : Int) + (j : Int) - (qback : Int) := by omega
              have i1 : (o.length : Int) + (j : Int) - (qback : Int) < (o.length : Int) + (j : Int) := by omega
              have i2 : (qback : Int) ≤ (o.length : Int) + (j : Int) := by omega
              have hzx := HI.out.lt
              have hzb := HI.out.hb
              clear hown hx hst hlen
              go_wp2_with fail
              go_region_law (
                refine Bld.step_push (by rfl) (.tmp 87) (.tmp 101) _ (by rfl) w.heap.size 5 1 1 _ Tryz.underlying22 infoU8 rfl (by omega) (.slice (some ⟨g, 0, none⟩) (o.length + j) c5) (o.length + j) _ (by rfl) (HOWN.out.alloc _).drew wr.heap.size 1 [.int .u8 x] 5 (by rfl) (by rfl) (heap_alloc_new wr _) (by simp [Value.oneCell']) (by unfold maxLen; omega) (by omega) (by simp; omega) (wr.heap.size + 1) (by simp) ?_
                intro gg cap w5 hown5 hg5 hat5 hlt5
                have HOW5 := Lib.hid hown5
                have hg5' := undrew1 hg5
                have hg5x : (wr.alloc (.cells #[.int .u8 x] 5)).grownBy w5 (Value.slice (some ⟨g, 0, none⟩) (copyN o qback j).length c5).ownBlock := hg5'
                have hap := HI.out.app hg5x
                have HFI := Lib.hid (fin_copy HLEN.out HST.out hown5 (hap.2 _ _))
                have HC5 : Hid (Chg w w5 (fun i => i = X ∨ i = p)) := Chg.new (Chg.new HC.out (World.grownBy_alloc _ _ none) (fun b e => by cases e)) hg5' (fun b e => (HI.out.own.lt b e).1)
                obtain ⟨⟨z0, z1, z2⟩, t0, t1, t2⟩ := cells3 (hap.1.trans HI.out.blk)
                clear hown5 hg5 hg5' hg5x hat5 hap)
              all_goals (
                go_wp2_with fail
                have hcx := Chg.x HC5.out 1 (.slice (some ⟨gg, 0, none⟩) (o.length + j + 1) cap)
                go_roundw
                case rel => exact ⟨j + 1, some ⟨gg, 0, none⟩, cap, by omega, eint (by omega), HFI.out, hcx⟩
                case measure => simp [intOf]; omega)
            · obtain rfl : j = qn := by omega
              have hdj : decide ((j : Int) < (j : Int)) = false := decide_eq_false (by omega)
              go_wp2_with fail
              have zc := HI.out.rd.row.cell (i := 1) (by omega)
              have hi := HI.out
              rw [← HGR.out] at hi
              refine ⟨⟨grow o ⟨qb, j, qback⟩, rs', a1 + cl + m1 + cl2 + m2, A5, c5, sh_next HEX.out HOK.out HUS.out HAT.out HBT.out (by rw [← HP.out]; omega) hi HC.out⟩, ?_⟩
              rw [zc, HA2.out]; simp [intOf, rdrF]; omega
end Go.Proofs.YtmgbjgjlddifaaaGreat.Ifl
set_option linter.unusedVariables false
set_option linter.unusedSimpArgs false
namespace Go.Proofs.YtmgbjgjlddifaaaGreat.Ifl
open Go.RowKit K Bits Pfx Def Wrt Bak Inf

/-- a new decoder -/
structure ND (w : World) (L : List Int) (d : Nat) (Ad : Option Addr) (cd : Nat) (w' : World) : Prop where
  dc : Dc w' d L Ad cd
  lo : w.heap.size ≤ d
  al : ∀ b off s, Ad = some ⟨b, off, s⟩ → w.heap.size ≤ b
  ah : ∀ b off s, Ad = some ⟨b, off, s⟩ → b < w'.heap.size
  bel : Below w.heap.size w w'
theorem ND.on {w w' w2 : World} {L : List Int} {d : Nat} {Ad : Option Addr} {cd : Nat} (h : ND w L d Ad cd w') (hb : Below w'.heap.size w' w2) : ND w L d Ad cd w2 :=
  ⟨h.dc.keep (hb.block _ h.dc.row.lt) (fun b off s e hlt => hb.block b hlt), h.lo, h.al, fun b off s e => Nat.lt_of_lt_of_le (h.ah b off s e) hb.size, h.bel.trans (hb.mono h.bel.size)⟩
theorem ND.from {w0 w w' : World} {L : List Int} {d : Nat} {Ad : Option Addr} {cd : Nat} (h : ND w L d Ad cd w') (hb : Below w0.heap.size w0 w) : ND w0 L d Ad cd w' :=
  ⟨h.dc, Nat.le_trans hb.size h.lo, fun b off s e => Nat.le_trans hb.size (h.al b off s e), h.ah, hb.trans (h.bel.mono hb.size)⟩
def NewDP (w : World) (L : List Int) (e : Ending) (w' : World) : Prop := ∃ d Ad cd, e = .returned (.tuple #[.pointer (some ⟨d, 0, none⟩), .int .i64 0]) ∧ ND w L d Ad cd w'
theorem new_dc {A : Option Addr} {n c : Nat} {L : List Int} (w : World) (HA : SI w .i64 A n L) (h : checkedOf L = 0) (hs : n ≤ 4096) : Calls Tryz.prog 83 #[.slice A n c] w (NewDP w L) := by
  have hl := HA.len
  refine (new_ok w HA h).mono ?_
  rintro e w' ⟨v, rfl, hd⟩
  obtain ⟨Ad, cd, hv, hdc, hal⟩ := Dc.of_D1 hd (by omega)
  exact ⟨w.heap.size, Ad, cd, rfl, hdc, Nat.le_refl _, fun b off s e => Nat.le_of_lt (hal b off s e), fun b off s e => (hd.tab.lt b (by rw [hv, e]; rfl)).2, hd.bel⟩
def CodeP (w : World) (L : List Int) (e : Ending) (w' : World) : Prop := ∃ d Ad cd, e = .returned (.pointer (some ⟨d, 0, none⟩)) ∧ ND w L d Ad cd w'
set_option maxRecDepth 20000 in
set_option maxHeartbeats 4000000 in
theorem icode {A : Option Addr} {n c : Nat} {L : List Int} {no : Bool} (w : World) (HA : SI w .i64 A n L) (h : checkedOf L = 0) (hs : n ≤ 4096) (hm : mayM L no = true) : Calls Tryz.prog 84 #[.slice A n c, .bool no] w (CodeP w L) := by
  have HAA := Lib.hid HA
  have hbig := HA.big
  have hlen := Lib.hid HA.len
  have HC := Lib.hid h
  have HM := Lib.hid hm
  clear HA h hm
  go_enter Tryz.func84, Tryz.ntmps84
  go_wp2_with fail
  refine (room_any _ HAA.out).mono ?_
  rintro e w' ⟨rfl, rfl⟩
  go_wp2_with fail
  go_loop [7, 8, 20] (fun s7 s8 s20 => ∃ (k : Nat) (one : Bool), k ≤ n ∧ s20 = .int .i64 k ∧ s7 = .int .i64 (posN (L.take k)) ∧ s8 = .bool one ∧ (posN (L.take k) = 0 → oneN (L.take k) = 0) ∧ (posN (L.take k) = 1 → oneN (L.take k) = 1 → one = true)) (fun _ _ s20 => n - (intOf s20).toNat)
  case atStart => exact ⟨0, false, by omega, rfl, by simp [posN], rfl, by simp [oneN], by simp [posN]⟩
  case round =>
    obtain ⟨k, one, hk, rfl, rfl, rfl, hi1, hi2⟩ := hrel
    have hp1 := posN_le (L.take k)
    rw [List.length_take, hlen.out] at hp1
    by_cases hlt : k < n
    · obtain ⟨b1, o1, x, rfl, hc1, hx, -⟩ := HAA.out.cells (i := k) hlt
      have hd : decide ((k : Int) < (n : Int)) = true := by simp; omega
      have h1 := posN_snoc (L.take k) x
      have h2 := oneN_snoc (L.take k) x
      rw [← take_snoc hx.out] at h1 h2
      have H1 := Lib.hid h1
      have H2 := Lib.hid h2
      have HI1 := Lib.hid hi1
      have HI2 := Lib.hid hi2
      have hk0 : (0 : Int) ≤ (k : Int) := by omega
      have hk1 : (k : Int) < (n : Int) := by omega
      clear h1 h2 hi1 hi2
      generalize posN (L.take k) = u at *
      generalize oneN (L.take k) = v at *
      by_cases hx1 : x = 1
      · have d1 : decide ((0 : Int) < x) = true := decide_eq_true (by omega)
        have d2 : (x == (1 : Int)) = true := by rw [hx1]; rfl
        have HX := Lib.hid hx1
        clear hx1
        go_wp2
        go_round
        case rel => exact ⟨k + 1, true, by omega, by go_num, by rw [H1.out, if_pos (by rw [HX.out]; omega)]; go_num, rfl, by rw [H1.out, if_pos (by rw [HX.out]; omega)]; omega, fun _ _ => rfl⟩
        case measure => simp [intOf]; omega
      · have d2 : (x == (1 : Int)) = false := by simp [hx1]
        have HX := Lib.hid hx1
        clear hx1
        by_cases hx0 : 0 < x
        · have d1 : decide ((0 : Int) < x) = true := decide_eq_true hx0
          go_wp2
          go_round
          case rel => exact ⟨k + 1, false, by omega, by go_num, by rw [H1.out, if_pos (by omega)]; go_num, rfl, by rw [H1.out, if_pos (by omega)]; omega, by
            rw [H1.out, H2.out, if_pos (by omega), if_neg HX.out]
            intro h3 h4
            have := HI1.out (by omega)
            omega⟩
          case measure => simp [intOf]; omega
        · have d1 : decide ((0 : Int) < x) = false := decide_eq_false hx0
          go_wp2
          go_round
          case rel => exact ⟨k + 1, one, by omega, by go_num, by rw [H1.out, if_neg (by omega)]; go_num, rfl, by
            rw [H1.out, H2.out, if_neg (by omega), if_neg HX.out]; exact HI1.out, by
            rw [H1.out, H2.out, if_neg (by omega), if_neg HX.out]; exact HI2.out⟩
          case measure => simp [intOf]; omega
    · obtain rfl : k = n := by omega
      have hd : decide ((k : Int) < (k : Int)) = false := by simp
      have ht : L.take k = L := List.take_of_length_le (by rw [hlen.out]; omega)
      rw [ht] at hi1 hi2 hp1 ⊢
      have hmm := HM.out
      unfold mayM at hmm
      have hmore : ((roomRes L).1 == 0) = true ∨ ((((posN L : Nat) : Int) == 1) = true ∧ one = true) ∨ (no = true ∧ (((posN L : Nat) : Int) == 0) = true) := by
        rw [Bool.or_eq_true, Bool.or_eq_true, Bool.and_eq_true, Bool.and_eq_true] at hmm
        rcases hmm with (h1 | ⟨h1, h2⟩) | h1
        · exact .inl h1
        · refine .inr (.inl ⟨h1, hi2 ?_ ?_⟩)
          · have h1 := eq_of_beq h1; omega
          · have h2 := eq_of_beq h2; omega
        · exact .inr (.inr h1)
      have HNEW := Lib.hid (new_dc (c := c) w HAA.out HC.out hs)
      have HMR := Lib.hid hmore
      clear hmm hmore hi1 hi2 ht
      generalize hb0 : ((roomRes L).1 == 0) = b0 at HMR
      have hb0' : ((roomRes L).1 != 0) = !b0 := by rw [← hb0]; rfl
      generalize hb1 : (((posN L : Nat) : Int) == 1) = b1 at HMR
      generalize hb3 : (((posN L : Nat) : Int) == 0) = b3 at HMR
      cases b0
      · cases one
        · have hmr := HMR.out
          have hb31 : b3 = true ∧ no = true := by simpa [and_comm] using hmr
          obtain ⟨rfl, rfl⟩ := hb31
          clear hmr
          cases b1 <;> (
            simp only [Bool.not_false] at hb0'
            go_wp2_with fail
            refine HNEW.out.mono ?_
            rintro e w' ⟨d, Ad, cd, rfl, hn⟩
            have HN := Lib.hid hn
            clear hn
            go_wp2_with fail
            go_ret
            exact ⟨d, Ad, cd, rfl, HN.out⟩)
        · cases b1
          · have hmr := HMR.out
            have hb31 : b3 = true ∧ no = true := by simpa [and_comm] using hmr
            obtain ⟨rfl, rfl⟩ := hb31
            clear hmr
            simp only [Bool.not_false] at hb0'
            go_wp2_with fail
            refine HNEW.out.mono ?_
            rintro e w' ⟨d, Ad, cd, rfl, hn⟩
            have HN := Lib.hid hn
            clear hn
            go_wp2_with fail
            go_ret
            exact ⟨d, Ad, cd, rfl, HN.out⟩
          · simp only [Bool.not_false] at hb0'
            go_wp2_with fail
            refine HNEW.out.mono ?_
            rintro e w' ⟨d, Ad, cd, rfl, hn⟩
            have HN := Lib.hid hn
            clear hn
            go_wp2_with fail
            go_ret
            exact ⟨d, Ad, cd, rfl, HN.out⟩
      · simp only [Bool.not_true] at hb0'
        go_wp2_with fail
        refine HNEW.out.mono ?_
        rintro e w' ⟨d, Ad, cd, rfl, hn⟩
        have HN := Lib.hid hn
        clear hn
        go_wp2_with fail
        go_ret
        exact ⟨d, Ad, cd, rfl, HN.out⟩
/-! the fixed codes -/
def fixF (j : Nat) : Int := if j < 144 ∨ 279 < j then 8 else if j < 256 then 9 else 7
theorem fixF_all : (List.range 288).map fixF = fixL := by decide +kernel
theorem fixG_all : (List.range 30).map (fun _ => (5 : Int)) = fixD := by decide +kernel
/-- fixed's memory: two rows -/
structure FF (w W : World) (a b : Nat) (f g : Nat → Int) : Prop where
  bel : Below w.heap.size w W
  l : W.rowIs a 3 288 (fun j => .int .i64 (f j))
  d : W.rowIs b 3 30 (fun j => .int .i64 (g j))
  la : w.heap.size ≤ a
  lb : w.heap.size ≤ b
  ne : a ≠ b
theorem FF.setL {w W : World} {a b : Nat} {f g f2 : Nat → Int} (h : FF w W a b f g) (i : Nat) (v : Int) (hf : ∀ j, (if j = i then v else f j) = f2 j) : FF w (W.setCell ⟨a, i, none⟩ (.int .i64 v)) a b f2 g :=
  ⟨h.bel.setCell h.la _, (h.l.set i _).congr (fun j hj => by rw [← hf j]; split <;> rfl), h.d.of_block ((set_grown W a i (.int .i64 v)).block _ h.d.lt (fun e => by injection e with e; exact h.ne e.symm)), h.la, h.lb, h.ne⟩
theorem FF.setD {w W : World} {a b : Nat} {f g g2 : Nat → Int} (h : FF w W a b f g) (i : Nat) (v : Int) (hg : ∀ j, (if j = i then v else g j) = g2 j) : FF w (W.setCell ⟨b, i, none⟩ (.int .i64 v)) a b f g2 :=
  ⟨h.bel.setCell h.lb _, h.l.of_block ((set_grown W b i (.int .i64 v)).block _ h.l.lt (fun e => by injection e with e; exact h.ne e)), (h.d.set i _).congr (fun j hj => by rw [← hg j]; split <;> rfl), h.la, h.lb, h.ne⟩
theorem FF.start1 (w : World) : FF w ((w.alloc (.cells (madeCells #[.int .i64 0] 288) 3)).alloc (.cells (madeCells #[.int .i64 0] 30) 3)).drew w.heap.size (w.heap.size + 1) (fun _ => 0) (fun _ => 0) := by
  refine ⟨((Below.refl _ _).alloc (Nat.le_refl _) _).alloc (by simp) _ |>.drew, ((made0 w 288).alloc _).drew, ?_, Nat.le_refl _, by omega, by omega⟩
  have := made0 (w.alloc (.cells (madeCells #[.int .i64 0] 288) 3)) 30
  rw [World.size_alloc] at this
  exact this.drew
theorem FF.start2 (w : World) : FF w ((w.alloc (.cells (madeCells #[.int .i64 0] 30) 3)).alloc (.cells (madeCells #[.int .i64 0] 288) 3)).drew (w.heap.size + 1) w.heap.size (fun _ => 0) (fun _ => 0) := by
  refine ⟨((Below.refl _ _).alloc (Nat.le_refl _) _).alloc (by simp) _ |>.drew, ?_, ((made0 w 30).alloc _).drew, by omega, Nat.le_refl _, by omega⟩
  have := made0 (w.alloc (.cells (madeCells #[.int .i64 0] 30) 3)) 288
  rw [World.size_alloc] at this
  exact this.drew
def TwoP (w : World) (L D : List Int) (e : Ending) (w' : World) : Prop := ∃ dL AL cL dD AD cD, e = .returned (.tuple #[.pointer (some ⟨dL, 0, none⟩), .pointer (some ⟨dD, 0, none⟩)]) ∧ ND w L dL AL cL w' ∧ ND w D dD AD cD w'
set_option maxRecDepth 20000 in
set_option maxHeartbeats 8000000 in
theorem ifixed (w : World) : Calls Tryz.prog 53 #[] w (TwoP w fixL fixD) := by
  have hm1 : ∀ w, (Instr.makeSlice 43 (.int .i64 288) (.int .i64 288)).run Tryz.prog w = .ok (.slice (some ⟨w.heap.size, 0, none⟩) 288 288) (w.alloc (.cells (madeCells #[.int .i64 0] 288) 3)) :=
    fun w => run_make_row' (P := Tryz.prog) 43 3 (.int .i64 0) 8 Tryz.underlying43 Cat.infoInt rfl .i64 .i64 288 (by omega) (by omega) w
  have hm2 : ∀ w, (Instr.makeSlice 43 (.int .i64 30) (.int .i64 30)).run Tryz.prog w = .ok (.slice (some ⟨w.heap.size, 0, none⟩) 30 30) (w.alloc (.cells (madeCells #[.int .i64 0] 30) 3)) :=
    fun w => run_make_row' (P := Tryz.prog) 43 3 (.int .i64 0) 8 Tryz.underlying43 Cat.infoInt rfl .i64 .i64 30 (by omega) (by omega) w
  have H1 := Lib.hid (FF.start1 w)
  have H2 := Lib.hid (FF.start2 w)
  go_enter Tryz.func53, Tryz.ntmps53
  go_wp2
  go_region
  clear H2 hm1 hm2
  generalize (World.drew _) = W at H1 ⊢
  generalize w.heap.size + 1 = b at H1 ⊢
  generalize hz : w.heap.size = a at H1 ⊢
  have H := H1
  clear H1
  rotate_left
  clear H1 hm1 hm2
  generalize (World.drew _) = W at H2 ⊢
  generalize w.heap.size + 1 = a at H2 ⊢
  generalize hz : w.heap.size = b at H2 ⊢
  have H := H2
  clear H2
  all_goals
    clear hz
    go_wp2_with fail
    go_loopw [4, 14] (fun _ s14 wx => ∃ k : Nat, k ≤ 288 ∧ s14 = .int .i64 k ∧ FF w wx a b (fun j => if j < k then fixF j else 0) (fun _ => 0)) (fun _ s14 _ => 288 - (intOf s14).toNat)
    case atStart => exact ⟨0, by omega, rfl, by simpa using H.out⟩
    case round =>
      clear H
      obtain ⟨k, hk, rfl, hf⟩ := hrel
      have HF := Lib.hid hf
      clear hf
      by_cases hlt : k < 288
      · have hd : decide ((k : Int) < 288) = true := decide_eq_true (by omega)
        have hrl := HF.out.l.lt
        have hc := HF.out.l.cell (i := k) hlt
        have hfr := HF.out.l.frozen k
        have hk0 : (0 : Int) ≤ (k : Int) := by omega
        have hk1 : (k : Int) < 288 := by omega
        have HS : Hid (FF w (wr.setCell ⟨a, k, none⟩ (.int .i64 (fixF k))) a b (fun j => if j < k + 1 then fixF j else 0) (fun _ => 0)) := HF.out.setL k (fixF k) (fun j => by
          by_cases e : j = k
          · rw [if_pos e, if_pos (by omega), e]
          · rw [if_neg e]
            by_cases e2 : j < k
            · rw [if_pos e2, if_pos (by omega)]
            · rw [if_neg e2, if_neg (by omega)])
        generalize (if k < k then fixF k else 0) = u at hc
        clear HF
        by_cases h1 : k < 144
        · have d1 : decide ((k : Int) < 144) = true := decide_eq_true (by omega)
          have e8 : fixF k = 8 := by unfold fixF; rw [if_pos (.inl h1)]
          rw [e8] at HS
          clear e8
          go_wp2_with fail
          go_roundw
          case rel => exact ⟨k + 1, by omega, by go_num, HS.out⟩
          case measure => simp [intOf]; omega
        · have d1 : decide ((k : Int) < 144) = false := decide_eq_false (by omega)
          by_cases h2 : 279 < k
          · have d2 : decide ((279 : Int) < (k : Int)) = true := decide_eq_true (by omega)
            have e8 : fixF k = 8 := by unfold fixF; rw [if_pos (.inr h2)]
            rw [e8] at HS
            clear e8
            go_wp2_with fail
            go_roundw
            case rel => exact ⟨k + 1, by omega, by go_num, HS.out⟩
            case measure => simp [intOf]; omega
          · have d2 : decide ((279 : Int) < (k : Int)) = false := decide_eq_false (by omega)
            by_cases h3 : k < 256
            · have d3 : decide ((k : Int) < 256) = true := decide_eq_true (by omega)
              have e8 : fixF k = 9 := by unfold fixF; rw [if_neg (by omega), if_pos h3]
              rw [e8] at HS
              clear e8
              go_wp2_with fail
              go_roundw
              case rel => exact ⟨k + 1, by omega, by go_num, HS.out⟩
              case measure => simp [intOf]; omega
            · have d3 : decide ((k : Int) < 256) = false := decide_eq_false (by omega)
              have e8 : fixF k = 7 := by unfold fixF; rw [if_neg (by omega), if_neg h3]
              rw [e8] at HS
              clear e8
              go_wp2_with fail
              go_roundw
              case rel => exact ⟨k + 1, by omega, by go_num, HS.out⟩
              case measure => simp [intOf]; omega
      · obtain rfl : k = 288 := by omega
        have hd : decide ((288 : Int) < 288) = false := by decide
        simp only [Int.cast_ofNat_Int]
        go_wp2_with fail
        go_loopw [5, 39] (fun _ s14 wx => ∃ k : Nat, k ≤ 30 ∧ s14 = .int .i64 k ∧ FF w wx a b (fun j => if j < 288 then fixF j else 0) (fun j => if j < k then 5 else 0)) (fun _ s14 _ => 30 - (intOf s14).toNat)
        case atStart => exact ⟨0, by omega, rfl, by simpa using HF.out⟩
        case round =>
          clear HF
          obtain ⟨k, hk, rfl, hf⟩ := hrel
          have HF := Lib.hid hf
          clear hf
          by_cases hlt : k < 30
          · have hd : decide ((k : Int) < 30) = true := decide_eq_true (by omega)
            have hrl := HF.out.d.lt
            have hc := HF.out.d.cell (i := k) hlt
            have hfr := HF.out.d.frozen k
            have hk0 : (0 : Int) ≤ (k : Int) := by omega
            have hk1 : (k : Int) < 30 := by omega
            have HS : Hid (FF w (wr.setCell ⟨b, k, none⟩ (.int .i64 5)) a b (fun j => if j < 288 then fixF j else 0) (fun j => if j < k + 1 then 5 else 0)) := HF.out.setD k 5 (fun j => by
              by_cases e : j = k
              · rw [if_pos e, if_pos (by omega)]
              · rw [if_neg e]
                by_cases e2 : j < k
                · rw [if_pos e2, if_pos (by omega)]
                · rw [if_neg e2, if_neg (by omega)])
            generalize (if k < k then (5 : Int) else 0) = u at hc
            clear HF
            go_wp2_with fail
            go_roundw
            case rel => exact ⟨k + 1, by omega, by go_num, HS.out⟩
            case measure => simp [intOf]; omega
          · obtain rfl : k = 30 := by omega
            have hd : decide ((30 : Int) < 30) = false := by decide
            have hsl : SI wr .i64 (some ⟨a, 0, none⟩) 288 fixL := by
              have h := SI.of_row HF.out.l (by decide)
              rw [← fixF_all]
              rwa [List.map_congr_left (fun j hj => by rw [if_pos (List.mem_range.1 hj)])] at h
            have hsd : SI wr .i64 (some ⟨b, 0, none⟩) 30 fixD := by
              have h := SI.of_row HF.out.d (by decide)
              rw [← fixG_all]
              rwa [List.map_congr_left (fun j hj => by rw [if_pos (List.mem_range.1 hj)])] at h
            have HSL := Lib.hid hsl
            have HSD := Lib.hid hsd
            have HB := Lib.hid HF.out.bel
            clear hsl hsd HF
            simp only [Int.cast_ofNat_Int]
            go_wp2_with fail
            refine (new_dc _ HSL.out fixL_ok (by omega)).mono ?_
            rintro e w2 ⟨dL, AL, cL, rfl, hn⟩
            have HN := Lib.hid (hn.from HB.out)
            have HSD2 := Lib.hid (HSD.out.below hn.bel (Nat.le_refl _))
            clear hn
            go_wp2_with fail
            refine (new_dc _ HSD2.out fixD_ok (by omega)).mono ?_
            rintro e w3 ⟨dD, AD, cD, rfl, hn⟩
            have HN2 := Lib.hid (hn.from HN.out.bel)
            have HN1 := Lib.hid (HN.out.on hn.bel)
            clear hn
            go_wp2_with fail
            go_ret2
            exact ⟨dL, AL, cL, dD, AD, cD, rfl, HN1.out, HN2.out⟩
end Go.Proofs.YtmgbjgjlddifaaaGreat.Ifl
