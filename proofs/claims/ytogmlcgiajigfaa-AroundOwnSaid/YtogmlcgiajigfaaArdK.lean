/-
  Walks: the reference's window.
-/
import Derived.Test.YtogmlcgiajigfaaArdG
set_option linter.unusedVariables false
set_option linter.unusedSimpArgs false
namespace Go.Proofs.Ytogmlcgiajigfaa.Ard
open Go.RowKit K

theorem infoInt : (Try.prog.info? 3).map (fun i => (i.zero, i.size, i.bytes)) = some (some (.int .i64 0), 1, 8) := by kernel_rfl
/-- a new list of numbers is answered -/
def NewI (w : World) (l : List Int) (e : Ending) (w' : World) : Prop :=
  ∃ A c, e = .returned (.slice A l.length c) ∧ w'.ownsRow w.heap.size 3 1 (.slice A l.length c) l.length (l.map (.int .i64)) ∧ Below w.heap.size w w'
theorem own_base {w : World} {base base' e sz n : Nat} {v : Value} {xs : List Value} (h : w.ownsRow base e sz v n xs) (hb : base' ≤ base) : w.ownsRow base' e sz v n xs :=
  ⟨h.1, h.2.imp id fun ⟨g, cap, cur, hv, hg, r⟩ => ⟨g, cap, cur, hv, Nat.le_trans hb hg, r⟩⟩
def rowF (W H : Nat) (pix : List Int) (x y : Int) (n p k : Nat) (j i : Nat) : List Int := (List.range i).map fun (i : Nat) => atF W H pix (x - n + i) (y - p + j) k
def partF (W H : Nat) (pix : List Int) (x y : Int) (n p k : Nat) (j : Nat) : List Int := (List.range j).flatMap fun (j : Nat) => rowF W H pix x y n p k j (2 * n + 1)
theorem partF_succ (W H : Nat) (pix : List Int) (x y : Int) (n p k j : Nat) : partF W H pix x y n p k (j + 1) = partF W H pix x y n p k j ++ rowF W H pix x y n p k j (2 * n + 1) := by
  unfold partF; rw [List.range_succ, List.flatMap_append]; simp
theorem partF_len (W H : Nat) (pix : List Int) (x y : Int) (n p k j : Nat) : (partF W H pix x y n p k j).length = j * (2 * n + 1) := flat_len _ _ (fun j => by simp [rowF]) _
theorem rowF_succ (W H : Nat) (pix : List Int) (x y : Int) (n p k j i : Nat) : rowF W H pix x y n p k j (i + 1) = rowF W H pix x y n p k j i ++ [atF W H pix (x - n + i) (y - p + j) k] := by
  unfold rowF; rw [List.range_succ, List.map_append]; simp
theorem partF_all (W H : Nat) (pix : List Int) (x y : Int) (n p k : Nat) : partF W H pix x y n p k (2 * p + 1) = winF W H pix x y n p k := rfl
theorem sl_new (w : World) (cs : List Value) (T : TypeId) : Sl (w.alloc (.cells cs.toArray T)) (some ⟨w.heap.size, 0, none⟩) cs := fun j u hu => ⟨w.heap.size, 0, rfl, by rw [World.cell?_alloc_new]; simpa using hu⟩
theorem own_on {w w' : World} {base e sz n : Nat} {v : Value} {xs : List Value} (h : w.ownsRow base e sz v n xs) (hb : Below w.heap.size w w') : w'.ownsRow base e sz v n xs :=
  ⟨h.1, h.2.imp id fun ⟨g, cap, cur, hv, hg, hc, r⟩ => ⟨g, cap, cur, hv, hg, (hb.block g (Array.getElem?_eq_some_iff.1 hc).1).trans hc, r⟩⟩
/-- the window's loops: what is gathered -/
structure Wn (w wr : World) (W H : Int) (P : Option Addr) (pn pc : Nat) (A : Option Addr) (c : Nat) (l : List Int) : Prop where
  bel : Below (w.heap.size + 1) (w.alloc (.cells #[.int .i64 W, .int .i64 H, .slice P pn pc] 37)) wr
  own : wr.ownsRow (w.heap.size + 1) 3 1 (.slice A l.length c) l.length (l.map (.int .i64))
theorem Wn.cells {w wr : World} {W H : Int} {P : Option Addr} {pn pc : Nat} {A : Option Addr} {c : Nat} {l : List Int} (h : Wn w wr W H P pn pc A c l) : wr.cell? ⟨w.heap.size, 0, none⟩ = some (.int .i64 W) ∧ wr.cell? ⟨w.heap.size, 1, none⟩ = some (.int .i64 H) ∧ wr.cell? ⟨w.heap.size, 2, none⟩ = some (.slice P pn pc) := by
  have hb := (h.bel.block w.heap.size (by omega)).trans (heap_alloc_new w _)
  simp [World.cell?, hb]
theorem Wn.on {w wr w2 : World} {W H : Int} {P : Option Addr} {pn pc : Nat} {A : Option Addr} {c : Nat} {l : List Int} (h : Wn w wr W H P pn pc A c l) (hb : Below wr.heap.size wr w2) : Wn w w2 W H P pn pc A c l :=
  ⟨h.bel.trans (hb.mono (by have := h.bel.size; rw [World.size_alloc] at this; omega)), own_on h.own hb⟩
set_option maxHeartbeats 1000000 in
theorem rwin_any {P : Option Addr} {pn pc W H n p k : Nat} {pix : List Int} {x y : Int} (w : World) (HP : SI w .u16 P pn pix) (hwv : ∀ v ∈ pix, 0 ≤ v ∧ v < 65536) (hW : 1 ≤ W ∧ W ≤ 1000000) (hH : 1 ≤ H ∧ H ≤ 1000000) (hp : pn = 4 * W * H) (hk : k < 4)
    (hn : n ≤ 8) (hpp : p ≤ 8) (hx : -1000000 ≤ x ∧ x ≤ 1000000) (hy : -1000000 ≤ y ∧ y ≤ 1000000) :
    Calls Try.prog 64 #[.agg #[.int .i64 W, .int .i64 H, .slice P pn pc], .int .i64 x, .int .i64 y, .int .i64 n, .int .i64 p, .int .i64 k] w (NewI w (winF W H pix x y n p k)) := by
  have HAT : Hid (∀ V (u v : Int), Below w.heap.size w V → Calls Try.prog 62 #[.agg #[.int .i64 W, .int .i64 H, .slice P pn pc], .int .i64 u, .int .i64 v, .int .i64 k] V (DoP V (atF W H pix u v k))) := fun V u v hb => at_any V (HP.below hb (Nat.le_refl _)) hwv hW hH hp hk
  have w1 : wrap64 (-(p : Int)) = -(p : Int) := IntWalk.wrap64_in _ (by omega)
  have w2 : wrap64 (-(n : Int)) = -(n : Int) := IntWalk.wrap64_in _ (by omega)
  clear HP hwv hW hH hp hk
  go_enter Try.func64, Try.ntmps64
  go_wp2_with fail
  go_loopw [13, 14, 15] (fun s13 s14 s15 wr => ∃ (j : Nat) (A2 : Option Addr) (c2 : Nat), j ≤ 2 * p + 1 ∧ s14 = .int .i64 (-(p : Int) + j) ∧ s13 = .slice A2 (partF W H pix x y n p k j).length c2 ∧ Wn w wr W H P pn pc A2 c2 (partF W H pix x y n p k j)) (fun _ s14 _ _ => ((p : Int) + 1 - intOf s14).toNat)
  case atStart => exact ⟨0, none, 0, by omega, by simp, rfl, Below.refl _ _, World.ownsRow_nil _ _ _ _⟩
  case round =>
    obtain ⟨j, A2, c2, hj, rfl, rfl, hwn⟩ := hrel
    have HWN := Lib.hid hwn
    clear hwn
    by_cases hlt : j ≤ 2 * p
    · have hd : decide (-(p : Int) + (j : Int) ≤ (p : Int)) = true := decide_eq_true (by omega)
      have hdy : y + (-(p : Int) + (j : Int)) = y - p + j := by omega
      have wdy : wrap64 (y + (-(p : Int) + (j : Int))) = y - p + j := by rw [hdy]; exact IntWalk.wrap64_in _ (by omega)
      have wj : wrap64 (-(p : Int) + (j : Int) + 1) = -(p : Int) + ((j + 1 : Nat) : Int) := by rw [IntWalk.wrap64_in _ (by omega)]; push_cast; omega
      go_wp2_with fail
      go_loopw [13, 15] (fun s13 s15 wr => ∃ (i : Nat) (A3 : Option Addr) (c3 : Nat), i ≤ 2 * n + 1 ∧ s15 = .int .i64 (-(n : Int) + i) ∧ s13 = .slice A3 (partF W H pix x y n p k j ++ rowF W H pix x y n p k j i).length c3 ∧ Wn w wr W H P pn pc A3 c3 (partF W H pix x y n p k j ++ rowF W H pix x y n p k j i)) (fun _ s15 _ => ((n : Int) + 1 - intOf s15).toNat)
      case atStart => exact ⟨0, A2, c2, by omega, by simp, by simp [rowF], by simpa [rowF] using HWN.out⟩
      case round =>
        clear HWN
        obtain ⟨i, A3, c3, hi, rfl, rfl, hwn⟩ := hrel
        have HWN := Lib.hid hwn
        by_cases hlt2 : i ≤ 2 * n
        · have hd2 : decide (-(n : Int) + (i : Int) ≤ (n : Int)) = true := decide_eq_true (by omega)
          have hdx : x + (-(n : Int) + (i : Int)) = x - n + i := by omega
          have wdx : wrap64 (x + (-(n : Int) + (i : Int))) = x - n + i := by rw [show x + (-(n : Int) + (i : Int)) = x - n + i by omega]; exact IntWalk.wrap64_in _ (by omega)
          have wi : wrap64 (-(n : Int) + (i : Int) + 1) = -(n : Int) + ((i + 1 : Nat) : Int) := by rw [IntWalk.wrap64_in _ (by omega)]; push_cast; omega
          obtain ⟨z0, z1, z2⟩ := hwn.cells
          have hbw : Below w.heap.size w wr := ((Below.refl w.heap.size w).alloc (Nat.le_refl _) _).trans (hwn.bel.mono (by omega))
          have HBW := Lib.hid hbw
          have HC := Lib.hid (HAT.out wr (x - n + i) (y - p + j) hbw)
          clear hwn hbw
          go_wp2_with fail
          refine HC.out.mono ?_
          rintro e w3 ⟨rfl, hb3⟩
          have HWN3 : Hid (Wn w w3 W H P pn pc A3 c3 (partF W H pix x y n p k j ++ rowF W H pix x y n p k j i)) := HWN.out.on hb3
          have HRS := Lib.hid (rowF_succ W H pix x y n p k j i)
          clear HC HWN hb3 z0 z1 z2
          generalize atF W H pix (x - n + i) (y - p + j) k = v at *
          have hsz3 : w.heap.size + 1 ≤ w3.heap.size := by have := HWN3.out.bel.size; rw [World.size_alloc] at this; omega
          have hlen : (partF W H pix x y n p k j ++ rowF W H pix x y n p k j i).length ≤ 400 := by
            rw [List.length_append, partF_len, show (rowF W H pix x y n p k j i).length = i by simp [rowF]]
            have : j * (2 * n + 1) ≤ 16 * 17 := Nat.mul_le_mul (by omega) (by omega)
            omega
          have HGL : Hid ((partF W H pix x y n p k j ++ rowF W H pix x y n p k j (i + 1)) = (partF W H pix x y n p k j ++ rowF W H pix x y n p k j i) ++ [v]) := by show _ = _; rw [HRS.out, List.append_assoc]
          obtain ⟨l2, hl2d⟩ : ∃ l2, l2 = partF W H pix x y n p k j ++ rowF W H pix x y n p k j (i + 1) := ⟨_, rfl⟩
          rw [← hl2d] at HGL
          have HL2 := Lib.hid hl2d
          clear hl2d
          generalize partF W H pix x y n p k j ++ rowF W H pix x y n p k j i = l1 at HWN3 hlen HGL ⊢
          go_wp2_with (at_builtin; refine wpList_append_sl _ rfl (.tmp 30) (.tmp 40) _ rfl (w.heap.size + 1) 3 1 8 _ Try.underlying22 infoInt rfl (by omega) (.slice A3 l1.length c3) l1.length _ rfl (HWN3.out.own.alloc _) _ 1 1 [.int .i64 v] rfl rfl (sl_new w3 [.int .i64 v] _) ?c1 ?c2 ?c3 ?c4 ?_)
          case c1 => simp [Value.oneCell']
          case c2 => unfold maxLen; omega
          case c3 => omega
          case c4 => simp; omega
          intro v' w5 hown5 hg5 hat5
          obtain ⟨A5, c5, rfl⟩ := own_form hown5
          have hl2 : l2.length = l1.length + 1 := by rw [HGL.out]; simp
          have HWN5 : Hid (Wn w w5 W H P pn pc A5 c5 l2) := by
            refine ⟨(HWN3.out.bel.trans ((Below.refl _ w3).alloc hsz3 _)).grown hg5 (by rw [World.size_alloc]; omega) (fun b e => (HWN3.out.own.lt b e).1), ?_⟩
            rw [hl2, HGL.out, List.map_append]; exact hown5
          rw [← hl2]
          clear hown5 hg5 hat5 HWN3 hl2
          go_wp2_with fail
          go_roundw
          case rel => exact ⟨i + 1, A5, c5, by omega, by congr 1; push_cast; omega, by rw [← HL2.out], by rw [← HL2.out]; exact HWN5.out⟩
          case measure => simp [intOf]; omega
        · obtain rfl : i = 2 * n + 1 := by omega
          have hd2 : decide (-(n : Int) + ((2 * n + 1 : Nat) : Int) ≤ (n : Int)) = false := decide_eq_false (by omega)
          have HPS := Lib.hid (partF_succ W H pix x y n p k j)
          rw [← HPS.out] at hwn ⊢
          generalize ((2 * n + 1 : Nat) : Int) = z at *
          have HWN := Lib.hid hwn
          clear hwn
          go_wp2_with fail
          go_roundw
          case rel => exact ⟨j + 1, A3, c3, by omega, by congr 1; push_cast; omega, rfl, HWN.out⟩
          case measure => simp [intOf]; omega
    · obtain rfl : j = 2 * p + 1 := by omega
      have hd : decide (-(p : Int) + ((2 * p + 1 : Nat) : Int) ≤ (p : Int)) = false := decide_eq_false (by omega)
      have HL : Hid (partF W H pix x y n p k (2 * p + 1) = winF W H pix x y n p k) := partF_all _ _ _ _ _ _ _ _
      generalize ((2 * p + 1 : Nat) : Int) = z at *
      generalize partF W H pix x y n p k (2 * p + 1) = l at *
      go_wp2_with fail
      go_ret
      rw [← HL.out]
      exact ⟨_, _, rfl, own_base HWN.out.own (by omega), ((Below.refl w.heap.size w).alloc (Nat.le_refl _) _).trans (HWN.out.bel.mono (by omega))⟩
end Go.Proofs.Ytogmlcgiajigfaa.Ard
