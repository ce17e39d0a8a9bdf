/-
  Walks: the reference's Names, In, Fit.
-/
import Derived.Test.YtogmlcgiajigfaaArdR
set_option linter.unusedVariables false
set_option linter.unusedSimpArgs false
namespace Go.Proofs.Ytogmlcgiajigfaa.Ard
open Go.RowKit K

def namesC : List Value := (List.range 9).map fun i => .string (nameF i)
theorem namesC_at {i : Nat} (h : i < 9) : namesC[i]? = some (.string (nameF i)) := by simp [namesC, h]
theorem rnames_any (w : World) : Calls Try.prog 12 #[] w fun e w' => ∃ g, e = .returned (.slice (some ⟨g, 0, none⟩) 9 9) ∧ Sl w' (some ⟨g, 0, none⟩) namesC ∧ Below w.heap.size w w' := by
  go_enter Try.func12, Try.ntmps12
  go_wp2
  go_ret
  exact ⟨_, rfl, sl_new w namesC _, (Below.refl _ w).alloc (Nat.le_refl _) _⟩
theorem idxF_none {op : ByteArray} (h : ∀ i, i < 9 → nameF i ≠ op) : idxF op = none := by
  unfold idxF
  rw [List.find?_eq_none]
  intro i hi
  simp at hi
  simp [h i hi]
theorem in_any {op : ByteArray} {g c : Nat} (w : World) (HS : Sl w (some ⟨g, 0, none⟩) namesC) : Calls Try.prog 31 #[.string op, .slice (some ⟨g, 0, none⟩) 9 c] w fun e w' => e = .returned (.bool (idxF op).isSome) ∧ w = w' := by
  have HSS := Lib.hid HS
  clear HS
  go_enter Try.func31, Try.ntmps31
  go_wp2
  go_loop [5] (fun s5 => ∃ k : Nat, k ≤ 9 ∧ s5 = .int .i64 k ∧ ∀ i, i < k → nameF i ≠ op) (fun s5 => 9 - (intOf s5).toNat)
  case atStart => exact ⟨0, by omega, rfl, fun i hi => by omega⟩
  case round =>
    obtain ⟨k, hk, rfl, hno⟩ := hrel
    have HNO := Lib.hid hno
    clear hno
    by_cases hlt : k < 9
    · have d0 : decide ((k : Int) < 9) = true := decide_eq_true (by omega)
      have i0 : (0 : Int) ≤ (k : Int) := by omega
      have i1 : (k : Int) < 9 := by omega
      obtain ⟨b', o', e', hc⟩ := HSS.out k _ (namesC_at hlt)
      injection e' with e'
      injection e' with e1 e2
      subst e1 e2
      rw [Nat.zero_add] at hc
      by_cases he : nameF k = op
      · have hnn : ((nameF k).toList == op.toList) = true := by rw [bytes_beq]; simpa using he
        have HID : Hid ((idxF op).isSome = true) := by show _ = _; rw [idxF_at hlt HNO.out he]; rfl
        clear he
        go_wp2
        go_ret
        exact ⟨by rw [HID.out]; rfl, rfl⟩
      · have hnn : ((nameF k).toList == op.toList) = false := by rw [bytes_beq]; simpa using he
        have HE := Lib.hid he
        clear he
        go_wp2
        go_round
        case rel => exact ⟨k + 1, by omega, by go_num, fun i hi => by
          rcases Nat.lt_or_ge i k with h | h
          · exact HNO.out i h
          · obtain rfl : i = k := by omega
            exact HE.out⟩
        case measure => simp [intOf]; omega
    · obtain rfl : k = 9 := by omega
      have HID : Hid ((idxF op).isSome = false) := by show _ = _; rw [idxF_none HNO.out]; rfl
      simp only [Int.cast_ofNat_Int]
      go_wp2
      go_ret
      exact ⟨by rw [HID.out]; rfl, rfl⟩
/-- bounds, number by number -/
def flatP (l : List (Int × Int)) : List Int := l.flatMap fun p => [p.1, p.2]
theorem flatP_at (l : List (Int × Int)) : ∀ (j : Nat) (h : j < l.length), (flatP l)[2 * j]? = some (l.getD j (0, 0)).1 ∧ (flatP l)[2 * j + 1]? = some (l.getD j (0, 0)).2 := by
  induction l with
  | nil => intro j h; simp at h
  | cons p l ih =>
    intro j h
    cases j with
    | zero => exact ⟨rfl, rfl⟩
    | succ j =>
      have := ih j (by simpa using h)
      have e1 : 2 * (j + 1) = 2 * j + 1 + 1 := by omega
      rw [e1]
      simpa [flatP, List.getD] using this
set_option maxHeartbeats 1000000 in
theorem fit_any {A B : Option Addr} {n c bn m d : Nat} {a : List Int} {b : List (Int × Int)} (w : World) (HA : SI w .i64 A n a) (hbn : b.length = bn) (hm : m = 2 * bn) (HB : SI w .i64 B m (flatP b)) (hb11 : bn ≤ 11) :
    Calls Try.prog 32 #[.slice A n c, .slice B m d] w fun e w' => e = .returned (.bool (fitsB b a)) ∧ ∃ k, w.drewN k = w' := by
  have hbig := HA.big
  have hla := HA.len
  have w1 : wrap64 (2 * (n : Int)) = 2 * (n : Int) := IntWalk.wrap64_in _ (by omega)
  have HAA := Lib.hid HA
  have HBB := Lib.hid HB
  have HBN := Lib.hid hbn
  have HLA := Lib.hid hla
  clear HA HB hla
  by_cases hn : n = bn
  · subst hn
    have HM := Lib.hid hm
    have hmi : (m : Int) = 2 * (n : Int) := by omega
    have hne : ((2 * (n : Int)) != (m : Int)) = false := by rw [hmi]; simp
    have HMI := Lib.hid hmi
    clear hm hbn hmi
    go_enter Try.func32, Try.ntmps32
    go_wp2
    go_loopw [5] (fun s5 wr => ∃ k q : Nat, k ≤ n ∧ s5 = .int .i64 k ∧ w.drewN q = wr ∧ ∀ i, i < k → (b.getD i (0, 0)).1 ≤ a.getD i 0 ∧ a.getD i 0 ≤ (b.getD i (0, 0)).2) (fun s5 _ => n - (intOf s5).toNat)
    case atStart => exact ⟨0, 0, by omega, rfl, rfl, fun i hi => by omega⟩
    case round =>
      obtain ⟨k, q, hk, rfl, rfl, hin⟩ := hrel
      have HIN := Lib.hid hin
      clear hin
      by_cases hlt : k < n
      · have d0 : decide ((k : Int) < (n : Int)) = true := decide_eq_true (by omega)
        have j0 : (0 : Int) ≤ (k : Int) := by omega
        have j1 : (k : Int) < (n : Int) := by omega
        have hb := HBN.out
        obtain ⟨p1, p2⟩ := flatP_at b k (by omega)
        obtain ⟨ab, ao, av, rfl, ac, hav, -⟩ := (HAA.out).cells (i := k) hlt
        obtain ⟨bb, bo, x1, rfl, c1, hx1, -⟩ := (HBB.out).cells (i := 2 * k) (by have := HM.out; omega)
        obtain ⟨bb', bo', x2, e', c2, hx2, -⟩ := (HBB.out).cells (i := 2 * k + 1) (by have := HM.out; omega)
        injection e' with e'
        injection e' with e1 e2
        subst e1 e2
        have HAV : Hid (a.getD k 0 = av) := getD_at hav.out
        have HX1 : Hid ((b.getD k (0, 0)).1 = x1) := by have := hx1.out; rw [p1] at this; injection this
        have HX2 : Hid ((b.getD k (0, 0)).2 = x2) := by have := hx2.out; rw [p2] at this; injection this
        have m1 : wrap64 (2 * (k : Int)) = ((2 * k : Nat) : Int) := by rw [IntWalk.wrap64_in _ (by omega)]; push_cast; rfl
        have m2 : wrap64 (((2 * k : Nat) : Int) + 1) = ((2 * k + 1 : Nat) : Int) := by rw [IntWalk.wrap64_in _ (by omega)]; push_cast; rfl
        have m3 : IntKind.i64.wrap (2 * (k : Int)) = ((2 * k : Nat) : Int) := by rw [IntWalk.i64_in _ (by omega)]; push_cast; rfl
        have m4 : IntKind.i64.wrap (((2 * k : Nat) : Int) + 1) = ((2 * k + 1 : Nat) : Int) := by rw [IntWalk.i64_in _ (by omega)]; push_cast; rfl
        have j2 : (0 : Int) ≤ ((2 * k : Nat) : Int) := by omega
        have j3 : ((2 * k : Nat) : Int) < (m : Int) := by have := HM.out; omega
        have j4 : (0 : Int) ≤ ((2 * k + 1 : Nat) : Int) := by omega
        have j5 : ((2 * k + 1 : Nat) : Int) < (m : Int) := by have := HM.out; omega
        have HWJ : Hid (wrap64 ((k : Int) + 1) = ((k + 1 : Nat) : Int)) := by show _ = _; rw [IntWalk.wrap64_in _ (by omega)]; rfl
        obtain ⟨k2, hk2⟩ : ∃ k2 : Nat, 2 * k = k2 := ⟨_, rfl⟩
        obtain ⟨k3, hk3⟩ : ∃ k3 : Nat, 2 * k + 1 = k3 := ⟨_, rfl⟩
        rw [hk3] at m2 m4 j4 j5 c2
        rw [hk2] at m1 m2 m3 m4 j2 j3 c1
        clear p1 p2 hav hx1 hx2 hk2 hk3 hb hbig w1
        by_cases hin2 : x1 ≤ av ∧ av ≤ x2
        · have t1 : decide (av < x1) = false := decide_eq_false (by omega)
          have t2 : decide (x2 < av) = false := decide_eq_false (by omega)
          have HIN2 := Lib.hid hin2
          clear hin2
          go_wp2
          go_quiet (fail)
          go_wp2
          go_roundw
          case rel => exact ⟨k + 1, q + nq, by omega, by first | rw [HWJ.out] | rfl, by first | rfl | rw [World.drewN_drewN], fun i hi => by
            rcases Nat.lt_or_ge i k with h | h
            · exact HIN.out i h
            · obtain rfl : i = k := by omega
              rw [HAV.out, HX1.out, HX2.out]; exact HIN2.out⟩
          case measure => simp [intOf]; omega
        · have HE : Hid (fitsB b a = false) := by
            show _ = _
            unfold fitsB
            rw [Bool.and_eq_false_iff]
            refine .inr ?_
            rw [List.all_eq_false]
            refine ⟨k, by have := HBN.out; simp; omega, ?_⟩
            rw [HAV.out, HX1.out, HX2.out]
            simp; omega
          rcases Decidable.em (av < x1) with h1 | h1
          · have t1 : decide (av < x1) = true := decide_eq_true h1
            clear hin2 h1
            go_wp2
            go_quiet (fail)
            go_wp2
            go_ret
            exact ⟨by rw [HE.out]; rfl, q + nq, by rw [World.drewN_drewN]⟩
          · have t1 : decide (av < x1) = false := decide_eq_false h1
            have t2 : decide (x2 < av) = true := decide_eq_true (by omega)
            clear hin2 h1
            go_wp2
            go_quiet (fail)
            go_wp2
            go_ret
            exact ⟨by rw [HE.out]; rfl, q + nq, by rw [World.drewN_drewN]⟩
      · obtain rfl : k = n := by omega
        have HE : Hid (fitsB b a = true) := by
          show _ = _
          unfold fitsB
          rw [HLA.out, HBN.out]
          simp only [decide_true, Bool.true_and, List.all_eq_true, List.mem_range, Bool.and_eq_true, decide_eq_true_eq]
          exact fun i hi => HIN.out i hi
        have d0 : decide ((k : Int) < (k : Int)) = false := by simp
        clear w1 hbig
        go_wp2
        go_ret
        exact ⟨by rw [HE.out]; rfl, _, rfl⟩
  · have hne : ((2 * (n : Int)) != (m : Int)) = true := by simp; omega
    have HE : Hid (fitsB b a = false) := by
      show _ = _
      unfold fitsB
      rw [HLA.out, HBN.out]; simp [hn]
    clear hn hm hbn
    go_enter Try.func32, Try.ntmps32
    go_wp2
    go_ret
    exact ⟨by rw [HE.out]; rfl, 0, rfl⟩
end Go.Proofs.Ytogmlcgiajigfaa.Ard
