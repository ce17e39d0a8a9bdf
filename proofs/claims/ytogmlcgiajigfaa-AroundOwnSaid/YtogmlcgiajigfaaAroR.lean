/-
  Walks: the reference's sorted.
-/
import Derived.Test.YtogmlcgiajigfaaAroQ
import Derived.Test.YtogmlcgiajigfaaAroJ
import Derived.Deep.DeepCutAuto
import Derived.Deep.CutBlock
set_option linter.unusedVariables false
set_option linter.unusedSimpArgs false
namespace Go.Proofs.Ytogmlcgiajigfaa.Ard
open Go.RowKit K

/-- a list of one's own that is being sorted -/
structure Ins (base g c n : Nat) (w : World) (l l2 : List Int) (wr : World) : Prop where
  own : wr.ownsRow base 3 1 (.slice (some ⟨g, 0, none⟩) n c) n (l2.map (.int .i64))
  gr : w.grownBy wr (some g)
  perm : l2.Perm l
  len : l2.length = n
theorem Ins.drew {base g c n : Nat} {w wr : World} {l l2 : List Int} (h : Ins base g c n w l l2 wr) : Ins base g c n w l l2 wr.drew := ⟨h.own, grown_drew h.gr, h.perm, h.len⟩
theorem Ins.drewN {base g c n : Nat} {w wr : World} {l l2 : List Int} (h : Ins base g c n w l l2 wr) (q : Nat) : Ins base g c n w l l2 (wr.drewN q) := ⟨h.own, grown_drewN h.gr q, h.perm, h.len⟩
theorem Ins.swap {base g c n k : Nat} {w wr : World} {l l2 : List Int} (h : Ins base g c n w l l2 wr) (hk : 0 < k) (hn : k < n) {x y : Int} (hx : x = l2.getD (k - 1) 0) (hy : y = l2.getD k 0) :
    Ins base g c n w l ((l2.set k x).set (k - 1) y) ((wr.setCell ⟨g, k, none⟩ (.int .i64 x)).setCell ⟨g, k - 1, none⟩ (.int .i64 y)) := by
  subst hx hy
  have hl := h.len
  refine ⟨?_, grown_set (grown_set h.gr _ _) _ _, (set2_perm hk (by omega)).trans h.perm, by simp [hl]⟩
  rw [List.map_set, List.map_set]
  exact own_setJ (own_setJ h.own)
theorem Ins.at {base g c n : Nat} {w wr : World} {l l2 : List Int} (h : Ins base g c n w l l2 wr) {k : Nat} (hk : k < n) : wr.cell? ⟨g, k, none⟩ = some (.int .i64 (l2.getD k 0)) := by
  have hl := h.len
  rw [h.own.cellAt (g := g) k (by omega), List.getElem?_map, List.getElem?_eq_getElem (by omega), List.getD_eq_getElem?_getD, List.getElem?_eq_getElem (by omega)]; rfl
def SortP (base g c : Nat) (w : World) (l : List Int) (e : Ending) (w' : World) : Prop :=
  e = .returned (.slice (some ⟨g, 0, none⟩) l.length c) ∧ w'.ownsRow base 3 1 (.slice (some ⟨g, 0, none⟩) l.length c) l.length ((sortF l).map (.int .i64)) ∧ Below base w w'
set_option maxHeartbeats 1000000 in
theorem rsorted_any {base g c : Nat} {l : List Int} (w : World) (hown : w.ownsRow base 3 1 (.slice (some ⟨g, 0, none⟩) l.length c) l.length (l.map (.int .i64))) (h0 : 0 < l.length) (hn : l.length ≤ 4096) (hbase : base ≤ w.heap.size) :
    Calls Try.prog 65 #[.slice (some ⟨g, 0, none⟩) l.length c] w (SortP base g c w l) := by
  have hgb : base ≤ g ∧ g < w.heap.size := hown.lt g rfl
  have HGB := Lib.hid hgb
  have HBS := Lib.hid hbase
  have HI : Hid (Ins base g c l.length w l l w) := ⟨hown, grown_below (Below.refl w.heap.size w) _, List.Perm.refl l, rfl⟩
  unfold SortP
  obtain ⟨n, hnd⟩ : ∃ n, l.length = n := ⟨_, rfl⟩
  rw [hnd] at HI hn h0 ⊢
  have HN := Lib.hid hnd
  clear hnd hgb hbase hown
  go_enter Try.func65, Try.ntmps65
  go_wp2_with fail
  go_loopw [3] (fun s3 wr => ∃ (i : Nat) (l2 : List Int), 1 ≤ i ∧ i ≤ n ∧ s3 = .int .i64 i ∧ Ins base g c n w l l2 wr ∧ risB l2 i) (fun s3 _ => n - (intOf s3).toNat)
  case atStart => exact ⟨1, l, by omega, by omega, rfl, HI.out, fun a b h1 h2 => by omega⟩
  case round =>
    clear HI
    obtain ⟨i, l2, hi1, hin, rfl, hins, hris⟩ := hrel
    have HI := Lib.hid hins
    have HR := Lib.hid hris
    clear hins hris
    by_cases hlt : i < n
    · have d0 : decide ((i : Int) < (n : Int)) = true := decide_eq_true (by omega)
      have d1 : decide (i < n) = true := decide_eq_true hlt
      go_wp2_with fail
      go_loopw [4] (fun s4 wr => ∃ (k : Nat) (l2 : List Int), k ≤ i ∧ s4 = .int .i64 k ∧ Ins base g c n w l l2 wr ∧ insB l2 i k) (fun s4 _ => (intOf s4).toNat)
      case atStart => exact ⟨i, l2, by omega, rfl, HI.out, ins_start HR.out⟩
      case round =>
        clear HI HR
        obtain ⟨k, l3, hk, rfl, hins, hinb⟩ := hrel
        have HI := Lib.hid hins
        have HR := Lib.hid hinb
        clear hinb
        have HWI : Hid (wrap64 ((i : Int) + 1) = ((i + 1 : Nat) : Int)) := by show _ = _; rw [IntWalk.wrap64_in _ (by omega)]; rfl
        by_cases hk0 : 0 < k
        · obtain ⟨x, hx⟩ : ∃ x, l3.getD (k - 1) 0 = x := ⟨_, rfl⟩
          obtain ⟨y, hy⟩ : ∃ y, l3.getD k 0 = y := ⟨_, rfl⟩
          have c1 := hins.at (k := k - 1) (by omega)
          have c2 := hins.at (k := k) (by omega)
          rw [hx] at c1
          rw [hy] at c2
          have f1 := hins.own.frozenAt (k - 1)
          have f2 := hins.own.frozenAt k
          have HX := Lib.hid hx
          have HY := Lib.hid hy
          clear hx hy hins
          have g0 : decide ((0 : Int) < (k : Int)) = true := decide_eq_true (by omega)
          have g1 : decide (0 < k) = true := decide_eq_true hk0
          have j0 : (0 : Int) ≤ (k : Int) := by omega
          have j1 : (k : Int) < (n : Int) := by omega
          have j2 : (0 : Int) ≤ (k : Int) - 1 := by omega
          have j2b : (1 : Int) ≤ (k : Int) := by omega
          have j3 : (k : Int) - 1 < (n : Int) := by omega
          have t1 : ((k : Int) - 1).toNat = k - 1 := by omega
          have a1 : IntKind.i64.wrap ((k : Int) - 1) = (k : Int) - 1 := IntWalk.i64_in _ (by omega)
          by_cases hv : y < x
          · have v0 : decide (y < x) = true := decide_eq_true hv
            have HV := Lib.hid hv
            clear hv
            have ne1 : ¬ k - 1 = k := by omega
            have ne2 : ¬ k = k - 1 := by omega
            have HK1 : Hid ((k : Int) - 1 = ((k - 1 : Nat) : Int)) := by show _ = _; omega
            go_wp2_with fail
            go_quiet (fail)
            go_wp2_with fail
            go_roundw
            case rel => exact ⟨k - 1, _, by omega, by rw [HK1.out], (HI.out.drewN _).swap hk0 (by omega) HX.out.symm HY.out.symm, by
              rw [← HX.out, ← HY.out]
              exact ins_step HR.out hk0 hk (by have := HI.out.len; omega) (by rw [HX.out, HY.out]; exact HV.out)⟩
            case measure => simp [intOf]; omega
          · have v0 : decide (y < x) = false := decide_eq_false hv
            have HRS : Hid (risB l3 (i + 1)) := ins_done HR.out hk (.inr (by rw [HX.out, HY.out]; omega))
            clear hv
            go_wp2_with fail
            go_quiet (fail)
            go_wp2_with fail
            go_roundw
            case rel => exact ⟨i + 1, l3, by omega, by omega, by first | rw [HWI.out] | rfl, HI.out.drewN _, HRS.out⟩
            case measure => simp [intOf]; omega
        · obtain rfl : k = 0 := by omega
          have HRS : Hid (risB l3 (i + 1)) := ins_done HR.out hk (.inl rfl)
          clear hins
          have g0 : decide ((0 : Int) < ((0 : Nat) : Int)) = false := by simp
          go_wp2_with fail
          go_quiet (fail)
          go_wp2_with fail
          go_roundw
          case rel => exact ⟨i + 1, l3, by omega, by omega, by first | rw [HWI.out] | rfl, HI.out.drewN _, HRS.out⟩
          case measure => simp [intOf]; omega
    · obtain rfl : i = n := by omega
      have d0 : decide ((i : Int) < (i : Int)) = false := by simp
      go_wp2_with fail
      go_ret
      have hs := ris_sort HI.out.perm (by rw [HI.out.len]; exact HR.out)
      refine ⟨rfl, ?_, (Below.refl base w).grown HI.out.gr HBS.out (fun b e => by injection e with e; have := HGB.out.1; omega)⟩
      rw [← hs]
      exact HI.out.own
end Go.Proofs.Ytogmlcgiajigfaa.Ard
