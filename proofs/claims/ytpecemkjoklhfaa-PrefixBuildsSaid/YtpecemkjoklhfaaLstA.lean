/-
  Walks: the reference's Bad, sorted, merged.
-/
import Derived.Test.YtpecemkjoklhfaaPfxA
import Derived.Test.YtpecemkjoklhfaaLstM
import Derived.Test.YtpecemkjoklhfaaBldB
set_option linter.unusedVariables false
set_option linter.unusedSimpArgs false
namespace Go.Proofs.Ytpecemkjoklhfaa.Lst
open Go.RowKit K Pfx Bld Pm

theorem posL_le (l : List Int) (k : Nat) : (posL l k).length ≤ k := by
  unfold posL; exact Nat.le_trans (List.length_filter_le _ _) (by simp; omega)
set_option maxHeartbeats 1000000 in
theorem rbad_any {A : Option Addr} {n c : Nat} {l : List Int} {mo : Int} (w : World) (HA : SI w .i64 A n l) :
    Calls Try.prog 17 #[.slice A n c, .int .i64 mo] w fun e w' => e = .returned (.int .i64 (badM l mo)) ∧ w = w' := by
  have hbig := HA.big
  have hlen := Lib.hid HA.len
  have HB : Hid (badM l mo = if 4096 < l.length then 3 else if mo < 1 ∨ 16 < mo then 2 else if l.any heavyC then 2 else if 2 ^ mo.toNat < (posL l l.length).length then 31 else 0) := rfl
  generalize badM l mo = res at *
  by_cases h1 : 4096 < n
  · have e : Hid (res = 3) := by show _ = _; rw [HB.out, if_pos (by rw [hlen.out]; exact h1)]
    go_enter Try.func17, Try.ntmps17
    go_wp2
    go_ret
    rw [e.out]; exact ⟨rfl, rfl⟩
  by_cases h2 : mo < 1
  · have e : Hid (res = 2) := by show _ = _; rw [HB.out, if_neg (by rw [hlen.out]; exact h1), if_pos (.inl h2)]
    go_enter Try.func17, Try.ntmps17
    go_wp2
    go_ret
    rw [e.out]; exact ⟨rfl, rfl⟩
  by_cases h3 : 16 < mo
  · have e : Hid (res = 2) := by show _ = _; rw [HB.out, if_neg (by rw [hlen.out]; exact h1), if_pos (.inr h3)]
    go_enter Try.func17, Try.ntmps17
    go_wp2
    go_ret
    rw [e.out]; exact ⟨rfl, rfl⟩
  obtain ⟨most, rfl⟩ : ∃ m : Nat, mo = m := ⟨mo.toNat, by omega⟩
  have HB2 : Hid (res = if l.any heavyC then 2 else if 2 ^ most < (posL l l.length).length then 31 else 0) := by
    show _ = _; rw [HB.out, if_neg (by rw [hlen.out]; exact h1), if_neg (by omega)]; rfl
  clear HB
  go_enter Try.func17, Try.ntmps17
  go_wp2
  go_loop [5, 6] (fun sn si => ∃ k : Nat, k ≤ n ∧ si = .int .i64 k ∧ sn = .int .i64 (posL l k).length ∧ Hid ((l.take k).any heavyC = false)) (fun _ si => n - (intOf si).toNat)
  case atStart => exact ⟨0, by omega, rfl, rfl, rfl⟩
  case round =>
    obtain ⟨k, hk, rfl, rfl, HG⟩ := hrel
    by_cases hlt : k < n
    · obtain ⟨b, off, x, rfl, hc, hx, _⟩ := HA.cells hlt
      have hd : decide ((k : Int) < (n : Int)) = true := by simp; omega
      have hps := Lib.hid (posL_succ hx.out)
      have hg2 := Lib.hid (any_succ heavyC hx.out)
      have hpl := posL_le l k
      by_cases x1 : x < 0
      · have e : Hid (res = 2) := by show _ = _; rw [HB2.out, if_pos (any_true_of _ hx.out (by simp [heavyC, x1]))]
        have t1 : decide (x < 0) = true := by simpa using x1
        clear x1
        go_wp2
        go_ret
        rw [e.out]; exact ⟨rfl, rfl⟩
      by_cases x2 : 1073741824 < x
      · have e : Hid (res = 2) := by show _ = _; rw [HB2.out, if_pos (any_true_of _ hx.out (by simp [heavyC, x2]))]
        have t1 : decide (x < 0) = false := by simpa using x1
        have t2 : decide (1073741824 < x) = true := by simpa using x2
        go_wp2
        go_ret
        rw [e.out]; exact ⟨rfl, rfl⟩
      have HG2 : Hid ((l.take (k + 1)).any heavyC = false) := by show _ = _; rw [hg2.out, HG.out]; simp [heavyC]; omega
      have t1 : decide (x < 0) = false := by simpa using x1
      have t2 : decide (1073741824 < x) = false := by simpa using x2
      by_cases x3 : 0 < x
      · have t3 : decide (0 < x) = true := by simpa using x3
        have e : Hid ((posL l (k + 1)).length = (posL l k).length + 1) := by show _ = _; rw [hps.out, if_pos x3, List.length_append]; rfl
        go_wp2
        go_round
        case rel => exact ⟨k + 1, by omega, by go_num, eint (by rw [e.out]; omega), HG2⟩
        case measure => simp [intOf]; omega
      · have t3 : decide (0 < x) = false := by simpa using x3
        have e : Hid ((posL l (k + 1)).length = (posL l k).length) := by show _ = _; rw [hps.out, if_neg x3, List.append_nil]
        go_wp2
        go_round
        case rel => exact ⟨k + 1, by omega, by go_num, eint (by rw [e.out]), HG2⟩
        case measure => simp [intOf]; omega
    · have hd : decide ((k : Int) < (n : Int)) = false := by simp; omega
      obtain rfl : k = n := by omega
      have hpl := posL_le l k
      have hany : l.any heavyC = false := any_all hlen.out HG.out
      have e0 : Hid (res = if 2 ^ most < (posL l k).length then 31 else 0) := by show _ = _; rw [HB2.out, hany, if_neg (by simp), hlen.out]
      have hp := pow_le16 (k := most) (by omega)
      have hp0 : (0 : Int) < 2 ^ most := Int.pow_pos (by omega)
      have ec : ((2 ^ most : Nat) : Int) = (2 : Int) ^ most := by simp
      have EC := Lib.hid ec
      clear hany ec
      by_cases hm : 2 ^ most < (posL l k).length
      · have e : Hid (res = 31) := by show _ = _; rw [e0.out, if_pos hm]
        have t : (2 : Int) ^ most < ((posL l k).length : Int) := by have := EC.out; omega
        have t1 : decide ((2 : Int) ^ most < ((posL l k).length : Int)) = true := by simpa using t
        clear hm
        go_wp2
        go_ret
        rw [e.out]; exact ⟨rfl, rfl⟩
      · have e : Hid (res = 0) := by show _ = _; rw [e0.out, if_neg hm]
        have t : ¬ (2 : Int) ^ most < ((posL l k).length : Int) := by have := EC.out; omega
        have t1 : decide ((2 : Int) ^ most < ((posL l k).length : Int)) = false := by simpa using t
        clear hm
        go_wp2
        go_ret
        rw [e.out]; exact ⟨rfl, rfl⟩
/-- what 'sorted' and 'merged' answer -/
def SortPost (w : World) (m : Nat) (P : List Int → Prop) (e : Ending) (w' : World) : Prop :=
  ∃ A' c' S, e = .returned (.slice A' m c') ∧ w'.ownsRow w.heap.size 3 1 (.slice A' m c') m (S.map (.int .i64)) ∧ Below w.heap.size w w' ∧ P S
/-- a sorted list of one's own while it is put in order -/
structure So (w wr : World) (l L : List Int) (g n c : Nat) : Prop where
  bel : Below w.heap.size w wr
  own : wr.ownsRow w.heap.size 3 1 (.slice (some ⟨g, 0, none⟩) n c) n (L.map (.int .i64))
  perm : L.Perm l
theorem So.len {w wr : World} {l L : List Int} {g n c : Nat} (h : So w wr l L g n c) : L.length = n := by have := h.own.1; simpa using this
theorem So.cell {w wr : World} {l L : List Int} {g n c : Nat} (h : So w wr l L g n c) {j : Nat} (hj : j < n) : wr.cell? ⟨g, j, none⟩ = some (.int .i64 (L.getD j 0)) := by
  rw [h.own.cellAt j (by omega), List.getElem?_map, List.getElem?_eq_getElem (by rw [h.len]; exact hj), List.getD_eq_getElem?_getD, List.getElem?_eq_getElem (by rw [h.len]; exact hj)]
  rfl
theorem So.ge {w wr : World} {l L : List Int} {g n c : Nat} (h : So w wr l L g n c) : w.heap.size ≤ g := (h.own.lt g rfl).1
theorem So.drewN {w wr : World} {l L : List Int} {g n c : Nat} (h : So w wr l L g n c) (k : Nat) : So w (wr.drewN k) l L g n c := ⟨below_drewN h.bel k, h.own.kept (row := none) (grown_drewN (World.grownBy.refl _ _) k) (.inr (by simp [Value.ownBlock])), h.perm⟩
theorem So.swap {w wr : World} {l L : List Int} {g n c k : Nat} (h : So w wr l L g n c) (hk : k + 1 < n) :
    So w ((wr.setCell ⟨g, k + 1, none⟩ (.int .i64 (L.getD k 0))).setCell ⟨g, k, none⟩ (.int .i64 (L.getD (k + 1) 0))) l (sw L k) g n c := by
  have hl := h.len
  refine ⟨(h.bel.setCell h.ge _).setCell h.ge _, ?_, (sw_perm L k (by omega)).trans h.perm⟩
  have := ((h.own.stored (k + 1) (.int .i64 (L.getD k 0))).1.stored k (.int .i64 (L.getD (k + 1) 0))).1
  rw [sw, List.map_set, List.map_set]
  exact this
set_option maxHeartbeats 1000000 in
theorem sorted_any {A : Option Addr} {n c : Nat} {l : List Int} (w : World) (HA : SI w .i64 A n l) :
    Calls Try.prog 38 #[.slice A n c] w (SortPost w n (fun S => S.Perm l ∧ S.Pairwise (· ≤ ·))) := by
  have hbig := HA.big
  have hlen := Lib.hid HA.len
  go_enter Try.func38, Try.ntmps38
  go_wp2_with (at_builtin; refine wpList_append_sl _ rfl (.tmp 7) (.tmp 8) _ rfl w.heap.size 3 1 8 _ Try.underlying22 infoInt rfl (by omega) (.slice (some ⟨w.heap.size, 0, none⟩) 0 0) 0 [] rfl ?c1 A n c (l.map (.int .i64)) rfl ?c2 ?c3 (ones _ _) ?c4 ?c5 ?c6 ?_)
  case c1 => exact World.ownsRow_made w #[] 0 (Nat.le_refl _) (by simp [maxLen]) rfl
  case c2 => simp [hlen.out]
  case c3 => exact HA.sl.alloc _
  case c4 => unfold maxLen; omega
  case c5 => omega
  case c6 => simp
  intro v' w1 hown hg _
  obtain ⟨A', c', rfl⟩ := own_form hown
  have hb : Below w.heap.size w w1 := ((Below.refl w.heap.size w).alloc (Nat.le_refl _) _).grown hg (by simp) (fun k hk => by simp [Value.ownBlock] at hk; omega)
  have hown1 : w1.ownsRow w.heap.size 3 1 (.slice A' n c') n (l.map (.int .i64)) := by simpa using hown
  clear hown hg HA
  by_cases hn : n < 2
  · have HO := Lib.hid hown1
    have HB := Lib.hid hb
    have hsp : Hid (l.Pairwise (· ≤ ·)) := by
      have hl := hlen.out
      rcases l with _ | ⟨x, _ | ⟨y, t⟩⟩
      · exact List.Pairwise.nil
      · exact List.pairwise_singleton _ _
      · simp at hl; omega
    have hd : decide ((1 : Int) < (n : Int)) = false := by simp; omega
    clear hown1 hb
    go_wp2
    go_loopw [4] (fun i wr => i = .int .i64 1 ∧ w1 = wr) (fun _ _ => 0)
    case atStart => exact ⟨rfl, rfl⟩
    case round =>
      obtain ⟨rfl, rfl⟩ := hrel
      go_wp2
      go_ret
      exact ⟨_, _, l, rfl, HO.out, HB.out, List.Perm.refl _, hsp.out⟩
  · obtain ⟨g, rfl⟩ : ∃ g, A' = some ⟨g, 0, none⟩ := by
      rcases hown1.2 with ⟨hv, _⟩ | ⟨g, cap, cur, hv, _⟩
      · injection hv with _ hv; omega
      · injection hv with hv; exact ⟨g, hv⟩
    have HSo : Hid (So w w1 l l g n c') := ⟨hb, hown1, List.Perm.refl _⟩
    clear hown1 hb
    go_wp2
    go_loopw [4, 5, 6] (fun si _ _ wr => ∃ (i : Nat) (L : List Int), 1 ≤ i ∧ i ≤ n ∧ si = .int .i64 i ∧ So w wr l L g n c' ∧ SP L i) (fun si _ _ _ => n - (intOf si).toNat)
    case atStart => exact ⟨1, l, by omega, by omega, rfl, HSo.out, fun p q h1 h2 => by omega⟩
    case round =>
      clear HSo
      obtain ⟨i, L, hi1, hi, rfl, hS, hsp⟩ := hrel
      by_cases hlt : i < n
      · have hd : decide ((i : Int) < (n : Int)) = true := by simp; omega
        have HS := Lib.hid hS
        have HI : Hid (IN L i i) := IN.start hsp
        obtain ⟨wo, rfl⟩ : ∃ wo : World, wo = wr := ⟨_, rfl⟩
        clear hS hsp
        go_wp2
        go_loopw [5, 6] (fun sk _ wr => ∃ (k : Nat) (L : List Int), sk = .int .i64 k ∧ So w wr l L g n c' ∧ IN L i k) (fun sk _ _ => (intOf sk).toNat)
        case atStart => exact ⟨i, L, rfl, HS.out, HI.out⟩
        case round =>
          clear HS HI
          obtain ⟨k, L, rfl, hS, hI⟩ := hrel
          have hkl := hI.le
          rcases k with _ | k
          · have t1 : decide ((0 : Int) < ((0 : Nat) : Int)) = false := by simp
            have HS := Lib.hid (hS.drewN)
            have HP : Hid (SP L (i + 1)) := hI.zero
            clear hS hI
            go_wp2
            go_quiet (fail)
            go_wp2
            go_roundw
            case rel => exact ⟨i + 1, L, by omega, by omega, by go_num, HS.out _, HP.out⟩
            case measure => simp [intOf]; omega
          · have ek : ((k + 1 : Nat) : Int) = (k : Int) + 1 := by omega
            have c1 := hS.cell (j := k) (by omega)
            have c2 := hS.cell (j := k + 1) (by omega)
            have f1 := hS.own.frozenAt k
            have f2 := hS.own.frozenAt (k + 1)
            have t1 : decide ((0 : Int) < (k : Int) + 1) = true := decide_eq_true (by omega)
            rw [ek]
            clear ek
            by_cases hc : L.getD (k + 1) 0 < L.getD k 0
            · have HS := Lib.hid (fun q => (hS.drewN q).swap (k := k) (by omega))
              have HI := Lib.hid (hI.step (by rw [hS.len]; omega) hc)
              generalize L.getD (k + 1) 0 = y at *
              generalize L.getD k 0 = x at *
              have t2 : decide (y < x) = true := by simpa using hc
              clear hS hI hc
              go_wp2
              go_quiet (fail)
              go_wp2
              go_roundw
              case rel => exact ⟨k, _, by go_num, HS.out _, HI.out⟩
              case measure => simp [intOf]
            · have HS := Lib.hid (hS.drewN)
              have HP : Hid (SP L (i + 1)) := hI.done (by omega)
              generalize L.getD (k + 1) 0 = y at *
              generalize L.getD k 0 = x at *
              have t2 : decide (y < x) = false := by simpa using hc
              clear hS hI hc
              go_wp2
              go_quiet (fail)
              go_wp2
              go_roundw
              case rel => exact ⟨i + 1, L, by omega, by omega, by go_num, HS.out _, HP.out⟩
              case measure => simp [intOf]; omega
      · have hd : decide ((i : Int) < (n : Int)) = false := by simp; omega
        obtain rfl : i = n := by omega
        have HO := Lib.hid hS.own
        have HB := Lib.hid hS.bel
        have HP := Lib.hid hS.perm
        have HW : Hid (L.Pairwise (· ≤ ·)) := SP.sorted (by rw [hS.len]; exact hsp)
        clear hS hsp
        go_wp2
        go_ret
        exact ⟨_, _, L, rfl, HO.out, HB.out, HP.out, HW.out⟩
end Go.Proofs.Ytpecemkjoklhfaa.Lst
