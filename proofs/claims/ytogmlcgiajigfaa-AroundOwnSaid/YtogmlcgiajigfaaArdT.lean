/-
  Walks: the reference's bounds, Check, Reach.
-/
import Derived.Test.YtogmlcgiajigfaaArdS
set_option linter.unusedVariables false
set_option linter.unusedSimpArgs false
namespace Go.Proofs.Ytogmlcgiajigfaa.Ard
open Go.RowKit K

theorem name_inj : ∀ i, i < 9 → ∀ j, j < 9 → nameF i = nameF j → i = j := by decide +kernel
def litF : Nat → List UInt8
  | 0 => [99, 111, 110, 118, 111, 108, 118, 101]
  | 1 => [98, 108, 117, 114]
  | 2 => [115, 104, 97, 114, 112, 101, 110]
  | 3 => [101, 100, 103, 101]
  | 4 => [101, 109, 98, 111, 115, 115]
  | 5 => [108, 101, 97, 115, 116]
  | 6 => [109, 111, 115, 116]
  | 7 => [109, 101, 100, 105, 97, 110]
  | _ => [108, 105, 110, 101, 115]
theorem litF_eq (j : Nat) : (nameF j).toList = litF j := by
  rw [ByteArray.toList_eq]
  match j with
  | 0 => rfl
  | 1 => rfl
  | 2 => rfl
  | 3 => rfl
  | 4 => rfl
  | 5 => rfl
  | 6 => rfl
  | 7 => rfl
  | n + 8 => rfl
/-- a name held against the k-th one -/
theorem name_beq {op : ByteArray} {k j : Nat} (hk : k < 9) (hj : j < 9) (h : op = nameF k) : (op.toList == litF j) = (k == j) := by
  rw [← litF_eq, bytes_beq, h]
  by_cases e : k = j
  · simp [e]
  · have : nameF k ≠ nameF j := fun e2 => e (name_inj k hk j hj e2)
    simp [e, this]
/-- new numbers, read -/
def SeeI (w : World) (l : List Int) (e : Ending) (w' : World) : Prop :=
  ∃ A c, e = .returned (.slice A l.length c) ∧ SI w' .i64 A l.length l ∧ Below w.heap.size w w'
theorem SI.lit (w : World) (l : List Int) (T : TypeId) (hl : l.length * 8 ≤ 140737488351232) : SI (w.alloc (.cells (l.map (Value.int .i64)).toArray T)) .i64 (some ⟨w.heap.size, 0, none⟩) l.length l := ⟨rfl, hl, sl_new w _ T⟩
set_option maxHeartbeats 2000000 in
theorem bounds_any {op : ByteArray} {k : Nat} (w : World) (hk : k < 9) (h : op = nameF k) : Calls Try.prog 33 #[.string op] w (SeeI w (flatP (bndF k))) := by
  have n0 := name_beq (j := 0) hk (by omega) h
  have n1 := name_beq (j := 1) hk (by omega) h
  have n2 := name_beq (j := 2) hk (by omega) h
  have n5 := name_beq (j := 5) hk (by omega) h
  have n6 := name_beq (j := 6) hk (by omega) h
  have n7 := name_beq (j := 7) hk (by omega) h
  have n8 := name_beq (j := 8) hk (by omega) h
  simp only [litF] at n0 n1 n2 n5 n6 n7 n8
  clear h
  rcases nine hk with rfl | rfl | rfl | rfl | rfl | rfl | rfl | rfl | rfl <;> simp only [Nat.reduceBEq] at n0 n1 n2 n5 n6 n7 n8
  · go_enter Try.func33, Try.ntmps33
    go_wp2
    clear n0 n1 n2 n5 n6 n7 n8 hk
    go_loopw [3, 4] (fun s3 s4 wr => ∃ (k : Nat) (A2 : Option Addr) (c2 : Nat), k ≤ 9 ∧ s4 = .int .i64 k ∧ s3 = .slice A2 (2 * k) c2 ∧ wr.ownsRow w.heap.size 3 1 (.slice A2 (2 * k) c2) (2 * k) ((flatP (List.replicate k (-1024, 1024))).map (.int .i64)) ∧ Below w.heap.size w wr) (fun _ s4 _ => 9 - (intOf s4).toNat)
    case atStart => exact ⟨0, none, 0, by omega, rfl, rfl, World.ownsRow_nil _ _ _ _, Below.refl _ _⟩
    case round =>
      obtain ⟨k, A2, c2, hk, rfl, rfl, hown, hb⟩ := hrel
      have HO := Lib.hid hown
      have HB := Lib.hid hb
      clear hown hb
      by_cases hlt : k < 9
      · have d0 : decide ((k : Int) < 9) = true := decide_eq_true (by omega)
        have HFP : Hid (flatP (List.replicate (k + 1) (-1024, 1024)) = flatP (List.replicate k (-1024, 1024)) ++ [-1024, 1024]) := by show _ = _; rw [List.replicate_succ']; simp [flatP]
        go_wp2_with (at_builtin; refine wpList_append_sl _ rfl (.tmp 12) (.tmp 13) _ rfl w.heap.size 3 1 8 _ Try.underlying22 infoInt rfl (by omega) (.slice A2 (2 * k) c2) (2 * k) _ rfl (HO.out.alloc _) _ 2 2 [.int .i64 (-1024), .int .i64 1024] rfl rfl (sl_new wr [.int .i64 (-1024), .int .i64 1024] _) ?c1 ?c2 ?c3 ?c4 ?_)
        case c1 => intro u hu; simp at hu; rcases hu with rfl | rfl <;> rfl
        case c2 => unfold maxLen; omega
        case c3 => omega
        case c4 => have := HB.out.size; simp; omega
        intro v' w5 hown5 hg5 hat5
        obtain ⟨A5, c5, rfl⟩ := own_form hown5
        have HO5 : Hid (w5.ownsRow w.heap.size 3 1 (.slice A5 (2 * (k + 1)) c5) (2 * (k + 1)) ((flatP (List.replicate (k + 1) (-1024, 1024))).map (.int .i64))) := by rw [HFP.out, List.map_append]; exact hown5
        have HB5 : Hid (Below w.heap.size w w5) := (HB.out.alloc HB.out.size _).grown hg5 (by have := HB.out.size; simp; omega) (fun b e => (HO.out.lt b e).1)
        have he : 2 * k + 2 = 2 * (k + 1) := by omega
        rw [he]
        clear hown5 hg5 hat5 HO HB HFP he
        go_wp2_with fail
        go_roundw
        case rel => exact ⟨k + 1, A5, c5, by omega, by go_num, rfl, HO5.out, HB5.out⟩
        case measure => simp [intOf]; omega
      · obtain rfl : k = 9 := by omega
        simp only [Int.cast_ofNat_Int]
        go_wp2_with (at_builtin; refine wpList_append_sl _ rfl (.tmp 15) (.tmp 16) _ rfl w.heap.size 3 1 8 _ Try.underlying22 infoInt rfl (by omega) (.slice A2 (2 * 9) c2) (2 * 9) _ rfl (HO.out.alloc _) _ 4 4 [.int .i64 1, .int .i64 65535, .int .i64 (-65535), .int .i64 65535] rfl rfl (sl_new wr [.int .i64 1, .int .i64 65535, .int .i64 (-65535), .int .i64 65535] _) ?c1 ?c2 ?c3 ?c4 ?_)
        case c1 => intro u hu; simp at hu; rcases hu with rfl | rfl | rfl | rfl <;> rfl
        case c2 => unfold maxLen; omega
        case c3 => omega
        case c4 => have := HB.out.size; simp; omega
        intro v' w5 hown5 hg5 hat5
        obtain ⟨A5, c5, rfl⟩ := own_form hown5
        have HB5 : Hid (Below w.heap.size w w5) := (HB.out.alloc HB.out.size _).grown hg5 (by have := HB.out.size; simp; omega) (fun b e => (HO.out.lt b e).1)
        have HO5 := Lib.hid hown5
        clear hown5 hg5 hat5 HO HB
        go_wp2_with fail
        go_ret
        exact ⟨A5, c5, rfl, SI.of_own (l := flatP (bndF 0)) HO5.out (by decide), HB5.out⟩
  all_goals (
    go_enter Try.func33, Try.ntmps33
    go_wp2
    go_ret
    first
      | exact ⟨_, _, rfl, SI.lit w [1, 8] _ (by decide), (Below.refl _ w).alloc (Nat.le_refl _) _⟩
      | exact ⟨_, _, rfl, SI.lit w [1, 3] _ (by decide), (Below.refl _ w).alloc (Nat.le_refl _) _⟩
      | exact ⟨none, 0, rfl, SI.nil w .i64 none, Below.refl _ w⟩)
end Go.Proofs.Ytogmlcgiajigfaa.Ard
