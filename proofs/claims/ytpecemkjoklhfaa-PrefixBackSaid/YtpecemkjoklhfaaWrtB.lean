/-
  Walks: the bits' writer: Put, Bytes, Len.
-/
import Derived.Test.YtpecemkjoklhfaaWrtA
set_option linter.unusedVariables false
set_option linter.unusedSimpArgs false
namespace Go.Proofs.Ytpecemkjoklhfaa.Wrt
open Go.RowKit K Bits

def PutPost (w : World) (q base : Nat) (A : Option Addr) (bs : List Int) (up : Bool) (e : Ending) (w' : World) : Prop :=
  e = .returned (.int .i64 0) ∧ ∃ A' c' B', Wt w' q base A' c' B' bs up ∧ Chg w w' (WS q A) ∧ (own A' = own A ∨ ∀ b, own A' = some b → w.heap.size ≤ b)
theorem putV_len (up : Bool) (v : Int) (n : Nat) : (putV up v n).length = n := by simp [putV]
theorem putV_get (up : Bool) (v : Int) {n k : Nat} (hk : k < n) : (putV up v n)[k]? = some (v / 2 ^ (if up then n - 1 - k else k) % 2) := by
  unfold putV; rw [List.getElem?_map, List.getElem?_range hk]; rfl
theorem bit01 (y : Int) : y % 2 = 0 ∨ y % 2 = 1 := by omega
structure Ps (w wr : World) (q base : Nat) (A0 : Option Addr) (bs : List Int) (up : Bool) : Prop where
  ex : ∃ A c B, Wt wr q base A c B bs up ∧ (own A = own A0 ∨ ∀ b, own A = some b → w.heap.size ≤ b)
  chg : Chg w wr (WS q A0)
theorem Ps.step {w wr w2 : World} {q base : Nat} {A0 A A2 : Option Addr} {c2 : Nat} {B2 bs2 : List Int} {up : Bool} (h : Chg w wr (WS q A0)) (ho : own A = own A0 ∨ ∀ b, own A = some b → w.heap.size ≤ b)
    (hW : Wt w2 q base A2 c2 B2 bs2 up) (hc : Chg wr w2 (WS q A)) (ho2 : own A2 = own A ∨ ∀ b, own A2 = some b → wr.heap.size ≤ b) : Ps w w2 q base A0 bs2 up := by
  refine ⟨⟨A2, c2, B2, hW, ?_⟩, h.trans hc (fun i hi hS => ?_)⟩
  · rcases ho2 with e | e
    · rw [e]; exact ho
    · exact .inr (fun b hb => Nat.le_trans h.size (e b hb))
  · rcases hS with e | e
    · exact .inl e
    · rcases ho with e2 | e2
      · exact .inr (by rw [← e2]; exact e)
      · have := e2 i e; omega
set_option maxRecDepth 20000 in
set_option maxHeartbeats 2000000 in
theorem put_up {q base : Nat} {A : Option Addr} {c : Nat} {B bs : List Int} {v : Int} {n : Nat} (w : World) (HW : Wt w q base A c B bs true) (v0 : 0 ≤ v) (v1 : v < 4294967296) (hn : n ≤ 32) (hbig : bs.length + n ≤ 281474976710656) :
    Calls Try.prog 27 #[.pointer (some ⟨q, 0, none⟩), .int .u32 v, .int .i64 n] w (PutPost w q base A (bs ++ putV true v n) true) := by
  have HP : Hid (Ps w w q base A (bs ++ (putV true v n).take 0) true) := ⟨⟨A, c, B, by simpa using HW, .inl rfl⟩, Chg.refl _ _⟩
  clear HW
  go_enter Try.func27, Try.ntmps27
  go_wp2
  go_loopw [7, 17] (fun _ si wr => ∃ k : Nat, k ≤ n ∧ si = .int .i64 k ∧ Ps w wr q base A (bs ++ (putV true v n).take k) true) (fun _ si _ => n - (intOf si).toNat)
  case atStart => exact ⟨0, by omega, rfl, HP.out⟩
  case round =>
    clear HP
    obtain ⟨k, hk, rfl, hP⟩ := hrel
    obtain ⟨⟨A1, c1, B1, hW, ho⟩, hC⟩ := hP
    by_cases hlt : k < n
    · have hd : decide ((k : Int) < (n : Int)) = true := by simp; omega
      have k2 := hW.row.cell (i := 2) (by omega)
      simp only [wtF] at k2
      have HC := Lib.hid hC
      have HO := Lib.hid ho
      have hl : (bs ++ (putV true v n).take k).length < 281474976710656 := by
        rw [List.length_append, List.length_take, putV_len]; omega
      have hT := take_snoc (putV_get true v hlt)
      rw [if_pos rfl] at hT
      have HT := Lib.hid hT
      clear hT
      have z1 : 0 ≤ (n : Int) - 1 - (k : Int) := by omega
      have z2 : (n : Int) - 1 - (k : Int) ≤ 31 := by omega
      have z3 : ((n : Int) - 1 - (k : Int)).toNat = n - 1 - k := by omega
      have HWW := Lib.hid hW
      have hv1 : ∀ j : Nat, 0 ≤ v / 2 ^ j := fun j => Int.ediv_nonneg v0 (Int.pow_nonneg (by decide))
      have hv2 : ∀ j : Nat, v / 2 ^ j < 4294967296 := fun j => by
        have := Int.ediv_le_self (b := 2 ^ j) (a := v) v0
        omega
      have a1 := hv1 k
      have a2 := hv1 (n - 1 - k)
      have a3 := hv2 k
      have a4 := hv2 (n - 1 - k)
      have b1 : bits .and .u32 (v / 2 ^ k) 1 = v / 2 ^ k % 2 := by have := u32_and1 (v / 2 ^ k) a1; rwa [Int.emod_eq_of_lt a1 a3] at this
      have b2 : bits .and .u32 (v / 2 ^ (n - 1 - k)) 1 = v / 2 ^ (n - 1 - k) % 2 := by have := u32_and1 (v / 2 ^ (n - 1 - k)) a2; rwa [Int.emod_eq_of_lt a2 a4] at this
      clear hC ho hW hv1 hv2
      go_wp2_with fail
      refine (one_any _ HWW.out (bit01 _) hl).mono ?_
      rintro e w2 ⟨rfl, A2, c2, B2, hW2, hC2, hO2⟩
      have hPs := Ps.step HC.out HO.out hW2 hC2 hO2
      have HPs : Hid (Ps w w2 q base A (bs ++ (putV true v n).take (k + 1)) true) := by show Ps _ _ _ _ _ _ _; rw [HT.out, ← List.append_assoc]; exact hPs
      clear hW2 hC2 hO2 hPs b1 b2 k2 z1 z2 z3
      go_wp2
      go_roundw
      case rel => exact ⟨k + 1, by omega, by go_num, HPs.out⟩
      case measure => simp [intOf]; omega
    · have hd : decide ((k : Int) < (n : Int)) = false := by simp; omega
      obtain rfl : k = n := by omega
      have HC := Lib.hid hC
      have HO := Lib.hid ho
      have HWW : Hid (Wt wr q base A1 c1 B1 (bs ++ putV true v k) true) := by
        show Wt _ _ _ _ _ _ _ _
        rw [List.take_of_length_le (by rw [putV_len]; exact Nat.le_refl _)] at hW
        exact hW
      clear hC ho hW
      go_wp2
      go_ret
      exact ⟨rfl, _, _, _, HWW.out, HC.out, HO.out⟩
set_option maxRecDepth 20000 in
set_option maxHeartbeats 2000000 in
theorem put_lo {q base : Nat} {A : Option Addr} {c : Nat} {B bs : List Int} {v : Int} {n : Nat} (w : World) (HW : Wt w q base A c B bs false) (v0 : 0 ≤ v) (v1 : v < 4294967296) (hn : n ≤ 32) (hbig : bs.length + n ≤ 281474976710656) :
    Calls Try.prog 27 #[.pointer (some ⟨q, 0, none⟩), .int .u32 v, .int .i64 n] w (PutPost w q base A (bs ++ putV false v n) false) := by
  have HP : Hid (Ps w w q base A (bs ++ (putV false v n).take 0) false) := ⟨⟨A, c, B, by simpa using HW, .inl rfl⟩, Chg.refl _ _⟩
  clear HW
  go_enter Try.func27, Try.ntmps27
  go_wp2
  go_loopw [7, 17] (fun _ si wr => ∃ k : Nat, k ≤ n ∧ si = .int .i64 k ∧ Ps w wr q base A (bs ++ (putV false v n).take k) false) (fun _ si _ => n - (intOf si).toNat)
  case atStart => exact ⟨0, by omega, rfl, HP.out⟩
  case round =>
    clear HP
    obtain ⟨k, hk, rfl, hP⟩ := hrel
    obtain ⟨⟨A1, c1, B1, hW, ho⟩, hC⟩ := hP
    by_cases hlt : k < n
    · have hd : decide ((k : Int) < (n : Int)) = true := by simp; omega
      have k2 := hW.row.cell (i := 2) (by omega)
      simp only [wtF] at k2
      have HC := Lib.hid hC
      have HO := Lib.hid ho
      have hl : (bs ++ (putV false v n).take k).length < 281474976710656 := by
        rw [List.length_append, List.length_take, putV_len]; omega
      have hT := take_snoc (putV_get false v hlt)
      rw [if_neg (by simp)] at hT
      have HT := Lib.hid hT
      clear hT
      have z1 : 0 ≤ (n : Int) - 1 - (k : Int) := by omega
      have z2 : (n : Int) - 1 - (k : Int) ≤ 31 := by omega
      have z3 : ((n : Int) - 1 - (k : Int)).toNat = n - 1 - k := by omega
      have HWW := Lib.hid hW
      have hv1 : ∀ j : Nat, 0 ≤ v / 2 ^ j := fun j => Int.ediv_nonneg v0 (Int.pow_nonneg (by decide))
      have hv2 : ∀ j : Nat, v / 2 ^ j < 4294967296 := fun j => by
        have := Int.ediv_le_self (b := 2 ^ j) (a := v) v0
        omega
      have a1 := hv1 k
      have a2 := hv1 (n - 1 - k)
      have a3 := hv2 k
      have a4 := hv2 (n - 1 - k)
      have b1 : bits .and .u32 (v / 2 ^ k) 1 = v / 2 ^ k % 2 := by have := u32_and1 (v / 2 ^ k) a1; rwa [Int.emod_eq_of_lt a1 a3] at this
      have b2 : bits .and .u32 (v / 2 ^ (n - 1 - k)) 1 = v / 2 ^ (n - 1 - k) % 2 := by have := u32_and1 (v / 2 ^ (n - 1 - k)) a2; rwa [Int.emod_eq_of_lt a2 a4] at this
      clear hC ho hW hv1 hv2
      go_wp2_with fail
      refine (one_any _ HWW.out (bit01 _) hl).mono ?_
      rintro e w2 ⟨rfl, A2, c2, B2, hW2, hC2, hO2⟩
      have hPs := Ps.step HC.out HO.out hW2 hC2 hO2
      have HPs : Hid (Ps w w2 q base A (bs ++ (putV false v n).take (k + 1)) false) := by show Ps _ _ _ _ _ _ _; rw [HT.out, ← List.append_assoc]; exact hPs
      clear hW2 hC2 hO2 hPs b1 b2 k2 z1 z2 z3
      go_wp2
      go_roundw
      case rel => exact ⟨k + 1, by omega, by go_num, HPs.out⟩
      case measure => simp [intOf]; omega
    · have hd : decide ((k : Int) < (n : Int)) = false := by simp; omega
      obtain rfl : k = n := by omega
      have HC := Lib.hid hC
      have HO := Lib.hid ho
      have HWW : Hid (Wt wr q base A1 c1 B1 (bs ++ putV false v k) false) := by
        show Wt _ _ _ _ _ _ _ _
        rw [List.take_of_length_le (by rw [putV_len]; exact Nat.le_refl _)] at hW
        exact hW
      clear hC ho hW
      go_wp2
      go_ret
      exact ⟨rfl, _, _, _, HWW.out, HC.out, HO.out⟩
theorem put_any {q base : Nat} {A : Option Addr} {c : Nat} {B bs : List Int} {up : Bool} {v : Int} {n : Nat} (w : World) (HW : Wt w q base A c B bs up) (v0 : 0 ≤ v) (v1 : v < 4294967296) (hn : n ≤ 32) (hbig : bs.length + n ≤ 281474976710656) :
    Calls Try.prog 27 #[.pointer (some ⟨q, 0, none⟩), .int .u32 v, .int .i64 n] w (PutPost w q base A (bs ++ putV up v n) up) := by
  cases up
  · exact put_lo w HW v0 v1 hn hbig
  · exact put_up w HW v0 v1 hn hbig
theorem wlen_any {q base : Nat} {A : Option Addr} {c : Nat} {B bs : List Int} {up : Bool} (w : World) (HW : Wt w q base A c B bs up) :
    Calls Try.prog 29 #[.pointer (some ⟨q, 0, none⟩)] w fun e w' => e = .returned (.int .i64 bs.length) ∧ w = w' := by
  have c1 := HW.row.cell (i := 1) (by omega)
  simp only [wtF] at c1
  clear HW
  go_enter Try.func29, Try.ntmps29
  go_wp2
  go_ret
  exact ⟨rfl, rfl⟩
def WBytesPost (w : World) (B : List Int) (e : Ending) (w' : World) : Prop := ∃ A' c', e = .returned (.slice A' B.length c') ∧ w'.ownsRow w.heap.size 5 1 (.slice A' B.length c') B.length (B.map (.int .u8)) ∧ Below w.heap.size w w'
theorem wbytes_any {q base : Nat} {A : Option Addr} {c : Nat} {B bs : List Int} {up : Bool} (w : World) (HW : Wt w q base A c B bs up) :
    Calls Try.prog 28 #[.pointer (some ⟨q, 0, none⟩)] w (WBytesPost w B) := by
  have c0 := HW.row.cell (i := 0) (by omega)
  simp only [wtF] at c0
  have hl := HW.len_le
  have hs : SI w .u8 A B.length B := SI.of_own HW.own (by show _ * 1 ≤ _; omega)
  clear HW
  go_enter Try.func28, Try.ntmps28
  go_wp2_with fail
  refine (clone_any _ hs).mono ?_
  rintro e w1 ⟨A', c', rfl, hown, hb⟩
  have HO := Lib.hid hown
  have HB := Lib.hid hb
  clear hown hb
  go_wp2
  go_ret
  exact ⟨A', c', rfl, HO.out, HB.out⟩
end Go.Proofs.Ytpecemkjoklhfaa.Wrt
