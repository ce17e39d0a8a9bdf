/-
  Walks: Check, Reach.
-/
import Derived.RangeFuncSeq
import Derived.Shelf.Abstract
import Derived.Test.YtogmlcgiajigfaaArdQ
set_option linter.unusedVariables false
set_option linter.unusedSimpArgs false
namespace Go.Proofs.Ytogmlcgiajigfaa.Ard
open Go.RowKit K

theorem fits_at {b : List (Int × Int)} {a : List Int} (h : fitsB b a = true) : a.length = b.length ∧ ∀ i, i < b.length → (b.getD i (0, 0)).1 ≤ a.getD i 0 ∧ a.getD i 0 ≤ (b.getD i (0, 0)).2 := by
  unfold fitsB at h
  rw [Bool.and_eq_true] at h
  refine ⟨by simpa using h.1, fun i hi => ?_⟩
  have := List.all_eq_true.1 h.2 i (by simpa using hi)
  simpa using this
/-- how far an operator looks, in x and in y -/
def rxF (i : Nat) (a : List Int) : Int := if i = 0 ∨ i = 2 ∨ i = 3 ∨ i = 4 then 1 else a.getD 0 0
def ryF (i : Nat) (a : List Int) : Int := if i = 0 ∨ i = 2 ∨ i = 3 ∨ i = 4 then 1 else if i = 8 then 0 else a.getD 0 0
theorem nine {i : Nat} (h : i < 9) : i = 0 ∨ i = 1 ∨ i = 2 ∨ i = 3 ∨ i = 4 ∨ i = 5 ∨ i = 6 ∨ i = 7 ∨ i = 8 := by omega
theorem rx_in {i : Nat} {a : List Int} (hi : i < 9) (h : fitsB (bndF i) a = true) : 1 ≤ rxF i a ∧ rxF i a ≤ 8 ∧ 0 ≤ ryF i a ∧ ryF i a ≤ 8 := by
  obtain ⟨h1, h2⟩ := fits_at h
  rcases nine hi with rfl | rfl | rfl | rfl | rfl | rfl | rfl | rfl | rfl <;> simp only [rxF, ryF] <;> first
    | (simp; done)
    | (have := h2 0 (by simp [bndF]); simp [bndF] at this ⊢; omega)
theorem reach_enters {i : Nat} (hi : i < 9) : ∀ args w, (callFunc (reachN i) args).run Try.prog w = .ok (.enter (reachN i) args) w := by
  rcases nine hi with rfl | rfl | rfl | rfl | rfl | rfl | rfl | rfl | rfl
  · exact enters_of Try.func43 (by kernel_rfl) rfl
  · exact enters_of Try.func46 (by kernel_rfl) rfl
  · exact enters_of Try.func43 (by kernel_rfl) rfl
  · exact enters_of Try.func43 (by kernel_rfl) rfl
  · exact enters_of Try.func43 (by kernel_rfl) rfl
  · exact enters_of Try.func46 (by kernel_rfl) rfl
  · exact enters_of Try.func46 (by kernel_rfl) rfl
  · exact enters_of Try.func46 (by kernel_rfl) rfl
  · exact enters_of Try.func60 (by kernel_rfl) rfl
theorem reach_any {i : Nat} {A : Option Addr} {n c : Nat} {a : List Int} (hi : i < 9) (h : fitsB (bndF i) a = true) (w : World) (HA : SI w .i64 A n a) :
    Calls Try.prog (reachN i) #[.slice A n c] w fun e w' => e = .returned (.tuple #[.int .i64 (rxF i a), .int .i64 (ryF i a)]) ∧ ∃ k, w.drewN k = w' := by
  obtain ⟨h1, -⟩ := fits_at h
  have hn := HA.len
  rcases nine hi with rfl | rfl | rfl | rfl | rfl | rfl | rfl | rfl | rfl
  · exact (one_any w).mono fun e w' ⟨h1, h2⟩ => ⟨h1, 0, h2⟩
  · exact wide_any w HA (by rw [← hn, h1]; simp [bndF])
  · exact (one_any w).mono fun e w' ⟨h1, h2⟩ => ⟨h1, 0, h2⟩
  · exact (one_any w).mono fun e w' ⟨h1, h2⟩ => ⟨h1, 0, h2⟩
  · exact (one_any w).mono fun e w' ⟨h1, h2⟩ => ⟨h1, 0, h2⟩
  · exact wide_any w HA (by rw [← hn, h1]; simp [bndF])
  · exact wide_any w HA (by rw [← hn, h1]; simp [bndF])
  · exact wide_any w HA (by rw [← hn, h1]; simp [bndF])
  · exact (flat_any w HA (by rw [← hn, h1]; simp [bndF])).mono fun e w' ⟨h1, h2⟩ => ⟨h1, 0, h2⟩
def CheckP (w : World) (v : Int) (e : Ending) (w' : World) : Prop := e = .returned (.int .i64 v) ∧ Below w.heap.size w w'
theorem check_any {op : ByteArray} {A : Option Addr} {n c : Nat} {a : List Int} (w : World) (HA : SI w .i64 A n a) : Calls Try.prog 16 #[.string op, .slice A n c] w (CheckP w (checkE op a)) := by
  have HF := Lib.hid (find_any (op := op) (c := c) w HA)
  clear HA
  go_enter Try.func16, Try.ntmps16
  go_wp2_with fail
  refine HF.out.mono ?_
  rintro e w1 ⟨hb, ⟨-, rfl⟩ | ⟨i, B, bn, bc, hi, h0, hid, hf, rfl⟩⟩
  · have hw : ∀ o, Below w.heap.size w (w1.alloc o) := fun o => hb.alloc hb.size o
    have HW := Lib.hid hw
    have HSZ := Lib.hid hb.size
    clear hb hw
    go_wp2_with (refine wpList_store_rowW rfl 72 (.tmp 5) (.tmp 11) rfl w1.heap.size zeroOp rfl rfl 72 zeroOp (heap_alloc_new w1 _) opInfo rfl zeroAll w.heap.size w (HW.out _) HSZ.out ?_; intro W HW1 HW2 HW3)
    go_ret
    exact ⟨rfl, HW2.out⟩
  · have H0 := Lib.hid h0
    have hw : ∀ o, Below w.heap.size w (w1.alloc o) := fun o => hb.alloc hb.size o
    have HW := Lib.hid hw
    have HSZ := Lib.hid hb.size
    clear hb hw hi h0 hid hf
    go_wp2_with (refine wpList_store_rowW rfl 72 (.tmp 5) (.tmp 11) rfl w1.heap.size (opCells i B bn bc) rfl rfl 72 zeroOp (heap_alloc_new w1 _) opInfo rfl (opAll _ _ _ _) w.heap.size w (HW.out _) HSZ.out ?_; intro W HW1 HW2 HW3)
    go_ret
    exact ⟨by rw [H0.out]; rfl, HW2.out⟩
def reachE (op : ByteArray) (a : List Int) : Int := match idxF op with | none => 0 | some i => rxF i a
/-- what Reach answers -/
def ReachP (w : World) (op : ByteArray) (a : List Int) (e : Ending) (w' : World) : Prop :=
  e = .returned (.tuple #[.int .i64 (if checkE op a = 0 then reachE op a else 0), .int .i64 (checkE op a)]) ∧ Below w.heap.size w w'
theorem preach_any {op : ByteArray} {A : Option Addr} {n c : Nat} {a : List Int} (w : World) (HA : SI w .i64 A n a) : Calls Try.prog 13 #[.string op, .slice A n c] w (ReachP w op a) := by
  have HF := Lib.hid (find_any (op := op) (c := c) w HA)
  have HAA := Lib.hid HA
  clear HA
  go_enter Try.func13, Try.ntmps13
  go_wp2_with fail
  refine HF.out.mono ?_
  rintro e w1 ⟨hb, ⟨hne, rfl⟩ | ⟨i, B, bn, bc, hi, h0, hid, hf, rfl⟩⟩
  · have hw : ∀ o, Below w.heap.size w (w1.alloc o) := fun o => hb.alloc hb.size o
    have HW := Lib.hid hw
    have HSZ := Lib.hid hb.size
    have HNE := Lib.hid hne
    have hpost : ∀ e W, e = .returned (.tuple #[.int .i64 0, .int .i64 (checkE op a)]) ∧ Below w.heap.size w W → ReachP w op a e W := fun e W h => ⟨by rw [if_neg hne]; exact h.1, h.2⟩
    have HPOST := Lib.hid hpost
    clear hpost
    generalize checkE op a = v at *
    have hnv : (v == 0) = false := by simpa using hne
    clear hb hw hne
    go_wp2_with (refine wpList_store_rowW rfl 72 (.tmp 6) (.tmp 14) rfl w1.heap.size zeroOp rfl rfl 72 zeroOp (heap_alloc_new w1 _) opInfo rfl zeroAll w.heap.size w (HW.out _) HSZ.out ?_; intro W HW1 HW2 HW3)
    go_ret2
    exact HPOST.out _ _ ⟨rfl, HW2.out⟩
  · have hw : ∀ o, Below w.heap.size w (w1.alloc o) := fun o => hb.alloc hb.size o
    have HW := Lib.hid hw
    have HSZ := Lib.hid hb.size
    have HPOST : Hid (∀ e W, e = .returned (.tuple #[.int .i64 (rxF i a), .int .i64 0]) ∧ Below w.heap.size w W → ReachP w op a e W) := fun e W h => ⟨by rw [if_pos h0, h0, show reachE op a = rxF i a by unfold reachE; rw [hid]]; exact h.1, h.2⟩
    have hre := reach_enters hi
    have HR : Hid (∀ W, Below w.heap.size w W → Calls Try.prog (reachN i) #[.slice A n c] W fun e w' => e = .returned (.tuple #[.int .i64 (rxF i a), .int .i64 (ryF i a)]) ∧ ∃ k, W.drewN k = w') := fun W hW => reach_any hi hf W (HAA.out.below hW (Nat.le_refl _))
    clear hb hw h0 hid hf
    go_wp2_with (refine wpList_store_rowW rfl 72 (.tmp 6) (.tmp 14) rfl w1.heap.size (opCells i B bn bc) rfl rfl 72 zeroOp (heap_alloc_new w1 _) opInfo rfl (opAll _ _ _ _) w.heap.size w (HW.out _) HSZ.out ?_; intro W HW1 HW2 HW3; have y2 : W.cell? ⟨w1.heap.size, 2, none⟩ = some (.func (.func (reachN i)) #[] #[]) := row_cell HW1.out 2)
    refine (HR.out W HW2.out).mono ?_
    rintro e w2 ⟨rfl, q, rfl⟩
    go_wp2_with fail
    go_ret2
    exact HPOST.out _ _ ⟨rfl, below_drewN HW2.out _⟩
end Go.Proofs.Ytogmlcgiajigfaa.Ard
