/-
  Walks: prefix.Room, prefix.checked, the reference's Room, the law's own.
-/
import Derived.Test.YtpecemkjoklhfaaChecked
import Derived.Test.YtpecemkjoklhfaaPfxM
set_option linter.unusedVariables false
set_option linter.unusedSimpArgs false
namespace Go.Proofs.Ytpecemkjoklhfaa.Pfx
open Go.RowKit K

theorem infoInt : (Try.prog.info? 3).map (fun i => (i.zero, i.size, i.bytes)) = some (some (.int .i64 0), 1, 8) := by kernel_rfl

set_option maxHeartbeats 1000000 in
theorem room_any {A : Option Addr} {n c : Nat} {l : List Int} (w : World) (HA : SI w .i64 A n l) :
    Calls Try.prog 11 #[.slice A n c] w fun e w' => e = .returned (.tuple #[.int .i64 (roomRes l).1, .int .i64 (roomRes l).2]) ∧ w = w' := by
  have hbig := HA.big
  have hlen := Lib.hid HA.len
  by_cases hn : 4096 < n
  · have e0 := Lib.hid (res_long (l := l) (by rw [hlen.out]; exact hn))
    go_enter Try.func11, Try.ntmps11
    go_wp2
    go_ret2
    rw [e0.out]; exact ⟨rfl, rfl⟩
  · go_enter Try.func11, Try.ntmps11
    go_wp2
    go_loop [2, 3, 4, 6, 12] (fun a b r _ i => ∃ k : Nat, k ≤ n ∧ (l.take k).any badLen = false ∧ i = .int .i64 k ∧ a = .int .i64 0 ∧ b = .int .i64 0 ∧ r = .int .i64 (roomAt l k)) (fun _ _ _ _ i => n - (intOf i).toNat)
    case atStart => exact ⟨0, Nat.zero_le _, rfl, rfl, rfl, rfl, by simp [roomAt]⟩
    case round =>
      obtain ⟨k, hk, hgood, rfl, rfl, rfl, rfl⟩ := hrel
      have Hgood := Lib.hid hgood
      have hr := roomAt_bd k (by rw [hlen.out]; exact hk) hgood
      clear hgood
      by_cases hlt : k < n
      · obtain ⟨b, off, x, rfl, hc, hx, _⟩ := HA.cells hlt
        have hlt' : (k : Int) < n := by omega
        by_cases hx0 : x < 0
        · have e0 := Lib.hid (res_bad (l := l) (by rw [hlen.out]; omega) (any_true_of _ hx.out (by simp [badLen, hx0])))
          go_wp2
          go_ret2
          rw [e0.out]; exact ⟨rfl, rfl⟩
        · by_cases hx1 : 16 < x
          · have e0 := Lib.hid (res_bad (l := l) (by rw [hlen.out]; omega) (any_true_of _ hx.out (by simp [badLen, hx1])))
            go_wp2
            go_ret2
            rw [e0.out]; exact ⟨rfl, rfl⟩
          · have hs := Lib.hid (roomAt_succ hx.out)
            have hg2 := Lib.hid (any_succ badLen hx.out)
            have hp := pow16 (x := x) (by omega) (by omega)
            have hb := bad_not (x := x) (by omega) (by omega)
            have Hb := Lib.hid hb
            clear hb
            by_cases hpos : 0 < x
            · go_wp2
              go_round
              case rel => exact ⟨k + 1, by omega, by rw [hg2.out, Hgood.out, Hb.out]; rfl, by go_num, rfl, rfl, eint (by rw [hs.out, cost, if_pos hpos])⟩
              case measure => simp [intOf]; omega
            · go_wp2
              go_round
              case rel => exact ⟨k + 1, by omega, by rw [hg2.out, Hgood.out, Hb.out]; rfl, by go_num, rfl, rfl, eint (by rw [hs.out, cost, if_neg hpos]; omega)⟩
              case measure => simp [intOf]; omega
      · obtain rfl : k = n := by omega
        have e0 := Lib.hid (res_ok (l := l) (by rw [hlen.out]; omega) (any_all hlen.out Hgood.out))
        have e1 := Lib.hid hlen.out
        go_wp2
        go_ret2
        rw [e0.out]; exact ⟨ret2 (eint (by rw [e1.out])) rfl, rfl⟩

set_option maxHeartbeats 1000000 in
theorem rroom_any {A : Option Addr} {n c : Nat} {l : List Int} (w : World) (HA : SI w .i64 A n l) :
    Calls Try.prog 13 #[.slice A n c] w fun e w' => e = .returned (.tuple #[.int .i64 (roomRes l).1, .int .i64 (roomRes l).2]) ∧ w = w' := by
  have hbig := HA.big
  have hlen := Lib.hid HA.len
  by_cases hn : 4096 < n
  · have e0 := Lib.hid (res_long (l := l) (by rw [hlen.out]; exact hn))
    go_enter Try.func13, Try.ntmps13
    go_wp2
    go_ret2
    rw [e0.out]; exact ⟨rfl, rfl⟩
  · go_enter Try.func13, Try.ntmps13
    go_wp2
    go_loop [2, 3, 4, 5] (fun a b r i => ∃ k : Nat, k ≤ n ∧ (l.take k).any badLen = false ∧ i = .int .i64 k ∧ a = .int .i64 0 ∧ b = .int .i64 0 ∧ r = .int .i64 (roomAt l k)) (fun _ _ _ i => n - (intOf i).toNat)
    case atStart => exact ⟨0, Nat.zero_le _, rfl, rfl, rfl, rfl, by simp [roomAt]⟩
    case round =>
      obtain ⟨k, hk, hgood, rfl, rfl, rfl, rfl⟩ := hrel
      have Hgood := Lib.hid hgood
      have hr := roomAt_bd k (by rw [hlen.out]; exact hk) hgood
      clear hgood
      by_cases hlt : k < n
      · obtain ⟨b, off, x, rfl, hc, hx, _⟩ := HA.cells hlt
        have hlt' : (k : Int) < n := by omega
        by_cases hx0 : x < 0
        · have e0 := Lib.hid (res_bad (l := l) (by rw [hlen.out]; omega) (any_true_of _ hx.out (by simp [badLen, hx0])))
          go_wp2
          go_ret2
          rw [e0.out]; exact ⟨rfl, rfl⟩
        · by_cases hx1 : 16 < x
          · have e0 := Lib.hid (res_bad (l := l) (by rw [hlen.out]; omega) (any_true_of _ hx.out (by simp [badLen, hx1])))
            go_wp2
            go_ret2
            rw [e0.out]; exact ⟨rfl, rfl⟩
          · have hs := Lib.hid (roomAt_succ hx.out)
            have hg2 := Lib.hid (any_succ badLen hx.out)
            have hp := pow16 (x := x) (by omega) (by omega)
            have hb := bad_not (x := x) (by omega) (by omega)
            have Hb := Lib.hid hb
            clear hb
            by_cases hpos : 0 < x
            · go_wp2
              go_round
              case rel => exact ⟨k + 1, by omega, by rw [hg2.out, Hgood.out, Hb.out]; rfl, by go_num, rfl, rfl, eint (by rw [hs.out, cost, if_pos hpos])⟩
              case measure => simp [intOf]; omega
            · go_wp2
              go_round
              case rel => exact ⟨k + 1, by omega, by rw [hg2.out, Hgood.out, Hb.out]; rfl, by go_num, rfl, rfl, eint (by rw [hs.out, cost, if_neg hpos]; omega)⟩
              case measure => simp [intOf]; omega
      · obtain rfl : k = n := by omega
        have e0 := Lib.hid (res_ok (l := l) (by rw [hlen.out]; omega) (any_all hlen.out Hgood.out))
        have e1 := Lib.hid hlen.out
        go_wp2
        go_ret2
        rw [e0.out]; exact ⟨ret2 (eint (by rw [e1.out])) rfl, rfl⟩

theorem roomRes_bd (l : List Int) : -268435456 ≤ (roomRes l).1 ∧ (roomRes l).1 ≤ 65536 := by
  unfold roomRes
  split
  · exact ⟨by decide, by decide⟩
  · split
    · exact ⟨by decide, by decide⟩
    · rename_i h1 h2
      have := roomAt_bd l.length (Nat.le_refl _) (l := l) (by rw [List.take_length]; simpa using h2)
      simp only []
      omega

set_option maxHeartbeats 400000 in
theorem checked_any {A : Option Addr} {n c : Nat} {l : List Int} (w : World) (HA : SI w .i64 A n l) :
    Calls Try.prog 30 #[.slice A n c] w fun e w' => e = .returned (.int .i64 (checkedOf l)) ∧ w = w' := by
  have hbd := roomRes_bd l
  have hro := fun W => Lib.hid (fun h => room_any (c := c) W (A := A) (n := n) (l := l) h)
  by_cases h2 : (roomRes l).2 = 0
  · have h2b : ((roomRes l).2 == 0) = true := by simp [h2]
    by_cases h1 : (roomRes l).1 < 0
    · have e0 : Hid (checkedOf l = 30) := by show checkedOf l = 30; unfold checkedOf; rw [if_pos ⟨h2, h1⟩]
      have H2 := Lib.hid h2
      clear h2
      go_enter Try.func30, Try.ntmps30
      go_wp2_with (go_at_call 11; refine (room_any _ HA).mono ?_; rintro e w' ⟨rfl, rfl⟩)
      go_ret
      rw [e0.out]; exact ⟨rfl, rfl⟩
    · have e0 : Hid (checkedOf l = (roomRes l).2) := by show checkedOf l = _; unfold checkedOf; rw [if_neg (fun h => h1 h.2)]
      have H2 := Lib.hid h2
      clear h2
      go_enter Try.func30, Try.ntmps30
      go_wp2_with (go_at_call 11; refine (room_any _ HA).mono ?_; rintro e w' ⟨rfl, rfl⟩)
      go_ret
      rw [e0.out]; exact ⟨rfl, rfl⟩
  · have h2b : ((roomRes l).2 == 0) = false := by simp [h2]
    have e0 : Hid (checkedOf l = (roomRes l).2) := by show checkedOf l = _; unfold checkedOf; rw [if_neg (fun h => h2 h.1)]
    go_enter Try.func30, Try.ntmps30
    go_wp2_with (go_at_call 11; refine (room_any _ HA).mono ?_; rintro e w' ⟨rfl, rfl⟩)
    go_ret
    rw [e0.out]; exact ⟨rfl, rfl⟩

set_option maxHeartbeats 400000 in
theorem own_any {A : Option Addr} {n c : Nat} {l : List Int} (w : World) (HA : SI w .i64 A n l) :
    Calls Try.prog 12 #[.slice A n c] w fun e w' => ∃ A' c', e = .returned (.slice A' n c') ∧ w'.ownsRow w.heap.size 3 1 (.slice A' n c') n (l.map (.int .i64)) ∧ Below w.heap.size w w' := by
  have hbig := HA.big
  have hlen := Lib.hid HA.len
  go_enter Try.func12, Try.ntmps12
  go_wp2_with (at_builtin; refine wpList_append_sl _ rfl (.tmp 3) (.tmp 4) _ rfl w.heap.size 3 1 8 _ Try.underlying22 infoInt rfl (by omega) (.slice (some ⟨w.heap.size, 0, none⟩) 0 0) 0 [] rfl ?c1 A n c (l.map (.int .i64)) rfl ?c2 ?c3 (ones _ _) ?c4 ?c5 ?c6 ?_)
  case c1 => exact World.ownsRow_made w #[] 0 (Nat.le_refl _) (by simp [maxLen]) rfl
  case c2 => simp [hlen.out]
  case c3 => exact HA.sl.alloc _
  case c4 => unfold maxLen; omega
  case c5 => omega
  case c6 => simp
  intro v' w1 hown hg _
  obtain ⟨A', c', rfl⟩ := own_form hown
  have hb : Below w.heap.size w w1 := ((Below.refl w.heap.size w).alloc (Nat.le_refl _) _).grown hg (by simp) (fun k hk => by simp [Value.ownBlock] at hk; omega)
  go_wp2
  go_ret
  exact ⟨A', c', rfl, hown, hb⟩
end Go.Proofs.Ytpecemkjoklhfaa.Pfx
