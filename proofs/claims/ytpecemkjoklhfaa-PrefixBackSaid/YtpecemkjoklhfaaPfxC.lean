/-
  Walks: the reference's Codes.
-/
import Derived.Test.YtpecemkjoklhfaaPfxB
set_option linter.unusedVariables false
set_option linter.unusedSimpArgs false
namespace Go.Proofs.Ytpecemkjoklhfaa.Pfx
open Go.RowKit K

/-- has symbol i been given its code, when length m is at its k-th symbol? -/
def given (l : List Int) (m k i : Nat) : Bool := (decide (0 < l.getD i 0) && decide (l.getD i 0 < m)) || (decide (l.getD i 0 = m) && decide (i < k))
structure R2 (w wr : World) (l : List Int) (m k : Nat) : Prop where
  bel : Below w.heap.size w wr
  sz : wr.heap.size = w.heap.size + 1
  out : wr.rowIs w.heap.size 35 l.length (fun i => .int .u32 (if given l m k i then codeAt l i else 0))
theorem R2.start (w : World) (l : List Int) : R2 w (w.alloc (.cells (madeCells #[.int .u32 0] l.length) 35)) l 1 0 :=
  ⟨(Below.refl _ _).alloc (Nat.le_refl _) _, by simp, (World.rowIs_made w (.int .u32 0) l.length 35).congr (fun i hi => by
    rw [if_neg]; simp only [given, Bool.or_eq_true, Bool.and_eq_true, decide_eq_true_eq]; omega)⟩
theorem R2.next {w wr : World} {l : List Int} {m : Nat} (hm : 1 ≤ m) (h : R2 w wr l m l.length) : R2 w wr l (m+1) 0 :=
  ⟨h.bel, h.sz, h.out.congr (fun i hi => by
    have : given l m l.length i = given l (m+1) 0 i := by
      rw [Bool.eq_iff_iff]; simp only [given, Bool.or_eq_true, Bool.and_eq_true, decide_eq_true_eq]; omega
    rw [this])⟩
theorem R2.skip {w wr : World} {l : List Int} {m k : Nat} {x : Int} (h : R2 w wr l m k) (hx : l[k]? = some x) (hne : x ≠ m) : R2 w wr l m (k+1) :=
  ⟨h.bel, h.sz, h.out.congr (fun i hi => by
    have : given l m k i = given l m (k+1) i := by
      have hg := getD_of hx 0
      rw [Bool.eq_iff_iff]; simp only [given, Bool.or_eq_true, Bool.and_eq_true, decide_eq_true_eq]
      by_cases e : i = k
      · subst e; rw [hg]; omega
      · omega
    rw [this])⟩
theorem R2.step {w wr : World} {l : List Int} {m k : Nat} {x v : Int} (h : R2 w wr l m k) (hx : l[k]? = some x) (hm : 1 ≤ m) (he : x = m)
    (hv : v = ((first l m + cnt l m k : Nat) : Int) % 4294967296) : R2 w (wr.setCell ⟨w.heap.size, k, none⟩ (.int .u32 v)) l m (k+1) :=
  ⟨h.bel.setCell (by simp) _, by simp [h.sz], (h.out.set k _).congr (fun i hi => by
    have hg := getD_of hx 0
    by_cases e : i = k
    · subst e
      have : given l m (i+1) i = true := by simp only [given, Bool.or_eq_true, Bool.and_eq_true, decide_eq_true_eq]; rw [hg]; omega
      rw [if_pos rfl, this, if_pos rfl, hv]
      unfold codeAt; simp only [hg]; rw [if_pos (by omega), show x.toNat = m by omega]
    · rw [if_neg e]
      have : given l m k i = given l m (k+1) i := by
        rw [Bool.eq_iff_iff]; simp only [given, Bool.or_eq_true, Bool.and_eq_true, decide_eq_true_eq]; omega
      rw [this])⟩

set_option maxHeartbeats 1000000 in
theorem rcodes_err {A : Option Addr} {n c : Nat} {l : List Int} (w : World) (HA : SI w .i64 A n l) (h : checkedOf l ≠ 0) :
    Calls Try.prog 15 #[.slice A n c] w fun e w' => e = .returned (.tuple #[.slice none 0 0, .int .i64 (checkedOf l)]) ∧ w = w' := by
  have hbd := roomRes_bd l
  by_cases h2 : (roomRes l).2 = 0
  · have h1 : (roomRes l).1 < 0 := by
      rcases Int.lt_or_le (roomRes l).1 0 with h1 | h1
      · exact h1
      · exfalso; apply h; unfold checkedOf; rw [if_neg (by omega)]; exact h2
    have e0 : Hid (checkedOf l = 30) := by show checkedOf l = 30; unfold checkedOf; rw [if_pos ⟨h2, h1⟩]
    have hb : ((roomRes l).2 != 0) = false := by simp [h2]
    have H2 := Lib.hid h2
    clear h2 h
    go_enter Try.func15, Try.ntmps15
    go_wp2_with (go_at_call 13; refine (rroom_any _ HA).mono ?_; rintro e w' ⟨rfl, rfl⟩)
    go_ret2
    rw [e0.out]; exact ⟨rfl, rfl⟩
  · have e0 : Hid (checkedOf l = (roomRes l).2) := by show checkedOf l = _; unfold checkedOf; rw [if_neg (fun h => h2 h.1)]
    have hb : ((roomRes l).2 != 0) = true := by simp [h2]
    clear h2 h
    go_enter Try.func15, Try.ntmps15
    go_wp2_with (go_at_call 13; refine (rroom_any _ HA).mono ?_; rintro e w' ⟨rfl, rfl⟩)
    go_ret2
    rw [e0.out]; exact ⟨rfl, rfl⟩

set_option maxHeartbeats 2000000 in
theorem rcodes_ok {A : Option Addr} {n c : Nat} {l : List Int} (w : World) (HA : SI w .i64 A n l) (h : checkedOf l = 0) :
    Calls Try.prog 15 #[.slice A n c] w fun e w' => e = .returned (.tuple #[.slice (some ⟨w.heap.size, 0, none⟩) n n, .int .i64 0]) ∧ R2 w w' l 17 0 := by
  have hlen := Lib.hid HA.len
  obtain ⟨hn, hgood, hroom⟩ := checked_zero h
  rw [hlen.out] at hn
  have Hgood := Lib.hid hgood
  have hres : Hid (roomRes l = (roomAt l l.length, 0)) := res_ok (by rw [hlen.out]; exact hn) hgood
  have H := Lib.hid h
  clear h hgood
  have hbd := roomRes_bd l
  have hmk := fun w => run_make_row' (P := Try.prog) 30 35 (.int .u32 0) 4 Try.underlying30 infoU32 rfl .i64 .i64 n (by omega) (by omega) w
  go_enter Try.func15, Try.ntmps15
  go_wp2_with (go_at_call 13; refine (rroom_any _ HA).mono ?_; rintro e w' ⟨rfl, rfl⟩; rw [hres.out])
  have h0 : R2 w (w.alloc (.cells (madeCells #[.int .u32 0] n) 35)) l 1 0 := by have := R2.start w l; rwa [hlen.out] at this
  go_loopw [7, 8, 9] (fun nx m _ wr => ∃ (k : Nat) (v : Int), 1 ≤ k ∧ k ≤ 17 ∧ 0 ≤ v ∧ v < 4294967296 ∧ (2 * v) % 4294967296 = ((first l k : Nat) : Int) % 4294967296 ∧ m = .int .i64 k ∧ nx = .int .u32 v ∧ R2 w wr l k 0) (fun _ m _ _ => 17 - (intOf m).toNat)
  case atStart => exact ⟨1, 0, by omega, by omega, by omega, by omega, by simp [first], rfl, rfl, h0⟩
  case round =>
    clear h0
    obtain ⟨m, v, hm1, hm2, hv0, hv1, hv2, rfl, rfl, h2⟩ := hrel
    have HV := Lib.hid hv2
    clear hv2
    obtain ⟨wo, rfl⟩ : ∃ wo : World, wo = wr := ⟨_, rfl⟩
    by_cases hm : m ≤ 16
    · go_wp2
      go_loopw [7, 9] (fun nx i wr => ∃ k : Nat, k ≤ n ∧ i = .int .i64 k ∧ nx = .int .u32 (((first l m + cnt l m k : Nat) : Int) % 4294967296) ∧ R2 w wr l m k) (fun _ i _ => n - (intOf i).toNat)
      case atStart => exact ⟨0, by omega, rfl, eint (by rw [cnt_zero, Nat.add_zero, ← HV.out]), h2⟩
      case round =>
        clear h2
        obtain ⟨k, hk, rfl, rfl, h2⟩ := hrel
        by_cases hlt : k < n
        · obtain ⟨b, off, x, rfl, hc0, hx, hbl⟩ := HA.cells hlt
          have hc : wr.cell? ⟨b, off + k, none⟩ = some (.int .i64 x) := (h2.bel.cell (p := ⟨b, off+k, none⟩) hbl).trans hc0
          have hlt' : (k : Int) < n := by omega
          have hcs := Lib.hid (cnt_succ m hx.out)
          by_cases he : x = m
          · have a3 := h2.out.cell (i := k) (by rw [hlen.out]; omega)
            have a4 := h2.out.frozen k
            have he' : (x == (m : Int)) = true := by simp [he]
            have HE := Lib.hid he
            clear he
            go_wp2
            go_roundw
            case rel => exact ⟨k + 1, by omega, by go_num, eint (by rw [hcs.out, if_pos HE.out]; omega), h2.step hx.out hm1 HE.out (by omega)⟩
            case measure => simp [intOf]; omega
          · have he' : (x == (m : Int)) = false := by simp [he]
            go_wp2
            go_roundw
            case rel => exact ⟨k + 1, by omega, by go_num, eint (by rw [hcs.out, if_neg he, Nat.add_zero]), h2.skip hx.out he⟩
            case measure => simp [intOf]; omega
        · obtain rfl : k = n := by omega
          have hf := Lib.hid (first_succ l m hm1)
          have h3 : R2 w wr l (m+1) 0 := R2.next hm1 (by rw [hlen.out]; exact h2)
          go_wp2
          go_roundw
          case rel => exact ⟨m + 1, _, by omega, by omega, by omega, by omega, by rw [hf.out]; first | (rw [hlen.out]; omega) | omega, by go_num, rfl, h3⟩
          case measure => simp [intOf]; omega
    · obtain rfl : m = 17 := by omega
      go_wp2
      go_ret2
      exact ⟨rfl, h2⟩
end Go.Proofs.Ytpecemkjoklhfaa.Pfx
