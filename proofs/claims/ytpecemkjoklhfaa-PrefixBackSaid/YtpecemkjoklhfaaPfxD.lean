/-
  Walks: prefix.New.
-/
import Derived.Test.YtpecemkjoklhfaaPfxB
import Derived.Test.YtpecemkjoklhfaaPfxDM
set_option linter.unusedVariables false
set_option linter.unusedSimpArgs false
namespace Go.Proofs.Ytpecemkjoklhfaa.Pfx
open Go.RowKit K

/-- a decoder's cells: nf lengths have been begun, length m has been counted up to its k-th symbol -/
def decF (l : List Int) (nf m k : Nat) (v : Value) (dp : Nat) (j : Nat) : Value :=
  if j < 17 then .int .i64 (if 1 ≤ j ∧ j < nf then (first l j : Int) else 0)
  else if j < 34 then .int .i64 (if 1 ≤ j - 17 ∧ j - 17 < nf then (startB l (j - 17) : Int) else 0)
  else if j < 51 then .int .i64 (if j - 34 = 0 then 0 else if j - 34 < m then (cnt l (j - 34) l.length : Int) else if j - 34 = m then (cnt l m k : Int) else 0)
  else if j = 51 then v else .int .i64 dp
def deepU (l : List Int) (m k : Nat) : Nat := if 0 < cnt l m k then m else deepB l m
structure D1 (w wr : World) (l : List Int) (nf m k : Nat) (v : Value) : Prop where
  bel : Below w.heap.size w wr
  row : wr.rowIs w.heap.size 81 53 (decF l nf m k v (deepU l m k))
  tab : wr.ownsRow (w.heap.size + 1) 3 1 v (startB l m + cnt l m k) ((tabB l m ++ idx l m k).map (.int .i64))
theorem D1.start (w : World) (l : List Int) : D1 w (w.alloc (.cells ((List.range 53).map (fun j => if j = 51 then Value.slice none 0 0 else .int .i64 0)).toArray 81)) l 1 1 0 (.slice none 0 0) := by
  refine ⟨(Below.refl _ _).alloc (Nat.le_refl _) _, ?_, ?_⟩
  · refine World.rowIs_alloc w _ _ _ (fun i hi => ?_)
    simp only [List.size_toArray, List.length_map, List.length_range] at hi
    simp only [List.getElem?_toArray, List.getElem?_map, List.getElem?_range hi, Option.map_some]
    congr 1
    unfold decF
    simp only [cnt_zero]
    by_cases h1 : i < 17
    · rw [if_neg (by omega), if_pos h1, if_neg (by omega)]
    · rw [if_neg h1]
      by_cases h2 : i < 34
      · rw [if_neg (by omega), if_pos h2, if_neg (by omega)]
      · rw [if_neg h2]
        by_cases h3 : i < 51
        · rw [if_neg (by omega), if_pos h3]
          by_cases h4 : i - 34 = 0
          · rw [if_pos h4]
          · rw [if_neg h4, if_neg (by omega)]; split <;> rfl
        · rw [if_neg h3]
          by_cases h4 : i = 51
          · rw [if_pos h4, if_pos h4]
          · rw [if_neg h4, if_neg h4]; simp [deepU, cnt_zero, deepB]
  · rw [cnt_zero, idx_zero]; exact World.ownsRow_nil _ _ _ _
/-- region 'd.first[n], d.start[n] = code, len(d.table)' -/
theorem D1.begun {w wr wr' : World} {l : List Int} {m : Nat} {v : Value} (hm1 : 1 ≤ m) (hm : m ≤ 16) (h : D1 w wr l m m 0 v)
    (hr : wr'.rowIs w.heap.size 81 53 (fun j => if j = 17 + m then .int .i64 (startB l m : Int) else if j = m then .int .i64 (first l m : Int) else decF l m m 0 v (deepU l m 0) j))
    (hg : wr.grownBy wr' (some w.heap.size)) : D1 w wr' l (m+1) m 0 v :=
  ⟨h.bel.trans (by
      have := (Below.refl w.heap.size wr).grown hg h.bel.size (fun k hk => by injection hk with hk; omega)
      exact this), hr.congr (fun j hj => by
    unfold decF
    by_cases h1 : j < 17
    · rw [if_neg (by omega), if_pos h1, if_pos h1]
      by_cases h2 : j = m
      · subst h2; rw [if_pos rfl, if_pos (by omega)]
      · rw [if_neg h2]
        by_cases h3 : 1 ≤ j ∧ j < m
        · rw [if_pos h3, if_pos (by omega)]
        · rw [if_neg h3, if_neg (by omega)]
    · rw [if_neg h1, if_neg h1]
      by_cases h2 : j < 34
      · rw [if_pos h2, if_pos h2]
        by_cases h3 : j = 17 + m
        · subst h3; rw [if_pos rfl, if_pos (by omega), show 17 + m - 17 = m by omega]
        · rw [if_neg h3, if_neg (by omega)]
          by_cases h4 : 1 ≤ j - 17 ∧ j - 17 < m
          · rw [if_pos h4, if_pos (by omega)]
          · rw [if_neg h4, if_neg (by omega)]
      · rw [if_neg h2, if_neg h2, if_neg (by omega), if_neg (by omega)]),
   h.tab.kept hg (by
    by_cases e : v.ownBlock = none
    · exact .inl e
    · refine .inr (fun e2 => ?_)
      have := (h.tab.lt _ e2).1
      omega)⟩
theorem D1.next {w wr : World} {l : List Int} {m : Nat} {v : Value} (hm1 : 1 ≤ m) (h : D1 w wr l (m+1) m l.length v) : D1 w wr l (m+1) (m+1) 0 v := by
  refine ⟨h.bel, h.row.congr (fun j hj => ?_), ?_⟩
  · unfold decF
    have hd : deepU l (m+1) 0 = deepU l m l.length := by unfold deepU; rw [cnt_zero, if_neg (by omega), deepB_succ l m hm1]
    rw [hd]
    by_cases h1 : j < 17
    · rw [if_pos h1, if_pos h1]
    · rw [if_neg h1, if_neg h1]
      by_cases h2 : j < 34
      · rw [if_pos h2, if_pos h2]
      · rw [if_neg h2, if_neg h2]
        by_cases h3 : j < 51
        · rw [if_pos h3, if_pos h3, cnt_zero]
          by_cases h4 : j - 34 = 0
          · rw [if_pos h4, if_pos h4]
          · rw [if_neg h4, if_neg h4]
            by_cases h5 : j - 34 < m
            · rw [if_pos h5, if_pos (by omega)]
            · rw [if_neg h5]
              by_cases h6 : j - 34 = m
              · rw [if_pos h6, if_pos (by omega), h6]
              · rw [if_neg h6, if_neg (by omega)]; split <;> rfl
        · rw [if_neg h3, if_neg h3]
  · have := h.tab
    rw [cnt_zero, idx_zero, startB_succ l m hm1, tabB_succ l m hm1, List.append_nil, Nat.add_zero]
    exact this
theorem D1.skip {w wr : World} {l : List Int} {nf m k : Nat} {v : Value} {x : Int} (h : D1 w wr l nf m k v) (hx : l[k]? = some x) (hne : x ≠ m) : D1 w wr l nf m (k+1) v := by
  have e1 : cnt l m (k+1) = cnt l m k := by rw [cnt_succ m hx, if_neg hne]; rfl
  have e2 : idx l m (k+1) = idx l m k := by rw [idx_succ m hx, if_neg hne, List.append_nil]
  refine ⟨h.bel, h.row.congr (fun j hj => ?_), ?_⟩
  · unfold decF deepU; rw [e1]
  · rw [e1, e2]; exact h.tab
/-- behind the stores of the table, the count and the depth -/
theorem D1.step {w wr wr' : World} {l : List Int} {m k : Nat} {v v' : Value} {x : Int} (h : D1 w wr l (m+1) m k v) (hx : l[k]? = some x) (he : x = m) (hm1 : 1 ≤ m)
    (hr : wr'.rowIs w.heap.size 81 53 (fun j => if j = 52 then .int .i64 (m : Int) else if j = 34 + m then .int .i64 ((cnt l m k : Int) + 1) else if j = 51 then v' else decF l (m+1) m k v (deepU l m k) j))
    (hb : Below w.heap.size w wr')
    (ht : wr'.ownsRow (w.heap.size + 1) 3 1 v' (startB l m + cnt l m k + 1) ((tabB l m ++ idx l m k).map (.int .i64) ++ [.int .i64 k])) (hm : m ≤ 16) : D1 w wr' l (m+1) m (k+1) v' := by
  have e1 : cnt l m (k+1) = cnt l m k + 1 := by rw [cnt_succ m hx, if_pos he]
  have e2 : idx l m (k+1) = idx l m k ++ [(k : Int)] := by rw [idx_succ m hx, if_pos he]
  refine ⟨hb, hr.congr (fun j hj => ?_), ?_⟩
  · unfold decF deepU; rw [e1]
    by_cases h1 : j < 17
    · rw [if_neg (by omega), if_neg (by omega), if_neg (by omega), if_pos h1, if_pos h1]
    · by_cases h2 : j < 34
      · rw [if_neg (by omega), if_neg (by omega), if_neg (by omega), if_neg h1, if_pos h2, if_neg h1, if_pos h2]
      · by_cases h3 : j < 51
        · rw [if_neg (by omega)]
          by_cases h4 : j = 34 + m
          · rw [if_pos h4, if_neg h1, if_neg h2, if_pos h3, if_neg (by omega), if_neg (by omega), if_pos (by omega)]; rfl
          · rw [if_neg h4, if_neg (by omega), if_neg h1, if_neg h2, if_pos h3, if_neg h1, if_neg h2, if_pos h3]
            by_cases h5 : j - 34 = 0
            · rw [if_pos h5, if_pos h5]
            · rw [if_neg h5, if_neg h5]
              by_cases h6 : j - 34 < m
              · rw [if_pos h6, if_pos h6]
              · rw [if_neg h6, if_neg h6, if_neg (by omega), if_neg (by omega)]
        · by_cases h4 : j = 51
          · rw [if_neg (by omega), if_neg (by omega), if_pos h4, if_neg h1, if_neg h2, if_neg h3, if_pos h4]
          · rw [if_pos (by omega), if_neg h1, if_neg h2, if_neg h3, if_neg h4, if_pos (by omega)]
  · rw [e1, e2, ← List.append_assoc, List.map_append]; exact ht

set_option maxHeartbeats 1000000 in
theorem new_err {A : Option Addr} {n c : Nat} {l : List Int} (w : World) (HA : SI w .i64 A n l) (h : checkedOf l ≠ 0) :
    Calls Try.prog 19 #[.slice A n c] w fun e w' => e = .returned (.tuple #[.pointer none, .int .i64 (checkedOf l)]) ∧ w = w' := by
  have hb : (checkedOf l != 0) = true := by simp [h]
  go_enter Try.func19, Try.ntmps19
  go_wp2_with (go_at_call 30; refine (checked_any _ HA).mono ?_; rintro e w' ⟨rfl, rfl⟩)
  go_ret2
  exact ⟨rfl, rfl⟩

def NewPost (w : World) (l : List Int) (e : Ending) (w' : World) : Prop := ∃ v, e = .returned (.tuple #[.pointer (some ⟨w.heap.size, 0, none⟩), .int .i64 0]) ∧ D1 w w' l 17 17 0 v
set_option maxHeartbeats 2000000 in
theorem new_ok {A : Option Addr} {n c : Nat} {l : List Int} (w : World) (HA : SI w .i64 A n l) (h : checkedOf l = 0) :
    Calls Try.prog 19 #[.slice A n c] w (NewPost w l) := by
  have hlen := Lib.hid HA.len
  obtain ⟨hn, hgood, hroom⟩ := checked_zero h
  rw [hlen.out] at hn
  have H := Lib.hid h
  clear h hgood
  go_enter Try.func19, Try.ntmps19
  go_wp2_with (go_at_call 30; refine (checked_any _ HA).mono ?_; rintro e w' ⟨rfl, rfl⟩; rw [H.out])
  have h0 := D1.start w l
  go_loopw [6, 7, 8, 9] (fun cd m _ _ wr => ∃ (k : Nat) (u : Int) (v : Value), 1 ≤ k ∧ k ≤ 17 ∧ 0 ≤ u ∧ u ≤ 600000000 ∧ (k ≤ 16 → 2 * u = first l k) ∧ m = .int .i64 k ∧ cd = .int .i64 u ∧ D1 w wr l k k 0 v) (fun _ m _ _ _ => 17 - (intOf m).toNat)
  case atStart => exact ⟨1, 0, _, by omega, by omega, by omega, by omega, fun _ => rfl, rfl, rfl, h0⟩
  case round =>
    clear h0
    obtain ⟨m, u, v, hm1, hm2, hu0, hu1, hu2, rfl, rfl, hD⟩ := hrel
    have HU := Lib.hid hu2
    clear hu2
    obtain ⟨wo, rfl⟩ : ∃ wo : World, wo = wr := ⟨_, rfl⟩
    by_cases hm : m ≤ 16
    · obtain ⟨At, ct, rfl⟩ := own_form hD.tab
      have c51 := hD.row.cell (i := 51) (by omega)
      have cf := hD.row.cell (i := m) (by omega)
      have cs := hD.row.cell (i := 17 + m) (by omega)
      have f1 := hD.row.frozen m
      have f2 := hD.row.frozen (17 + m)
      have e51 : decF l m m 0 (.slice At (startB l m + cnt l m 0) ct) (deepU l m 0) 51 = .slice At (startB l m + cnt l m 0) ct := rfl
      rw [e51] at c51
      generalize decF l m m 0 (.slice At (startB l m + cnt l m 0) ct) (deepU l m 0) m = q1 at cf
      generalize decF l m m 0 (.slice At (startB l m + cnt l m 0) ct) (deepU l m 0) (17 + m) = q2 at cs
      have hmd : decide ((m : Int) ≤ 16) = true := by simp; omega
      go_wp2
      go_region
      have hD2 : D1 w ((wo.setCell ⟨w.heap.size, m, none⟩ (.int .i64 (u * 2))).setCell ⟨w.heap.size, 17 + m, none⟩ (.int .i64 ((startB l m : Int) + (cnt l m 0 : Int)))).drew l (m+1) m 0 (.slice At (startB l m + cnt l m 0) ct) :=
        hD.begun hm1 hm (((hD.row.set m (.int .i64 (u * 2))).set (17 + m) (.int .i64 ((startB l m : Int) + (cnt l m 0 : Int)))).drew.congr (fun j hj => by
          by_cases h1 : j = 17 + m
          · rw [if_pos h1, if_pos h1, cnt_zero]; simp
          · rw [if_neg h1, if_neg h1]
            by_cases h2 : j = m
            · rw [if_pos h2, if_pos h2, ← HU.out hm]; exact eint (by omega)
            · rw [if_neg h2, if_neg h2])) (grown_drew (grown_set (grown_set (World.grownBy.refl _ _) _ _) _ _))
      generalize ((wo.setCell ⟨w.heap.size, m, none⟩ (.int .i64 (u * 2))).setCell ⟨w.heap.size, 17 + m, none⟩ (.int .i64 ((startB l m : Int) + (cnt l m 0 : Int)))).drew = w2 at hD2 ⊢
      go_wp2
      go_loopw [8, 9, 41] (fun _ _ i wr => ∃ (k : Nat) (v : Value), k ≤ n ∧ i = .int .i64 k ∧ D1 w wr l (m+1) m k v) (fun _ _ i _ => n - (intOf i).toNat)
      case atStart => exact ⟨0, _, by omega, rfl, hD2⟩
      case round =>
        clear hD2 hD c51 cf cs f1 f2 e51
        obtain ⟨k, v, hk, rfl, hD⟩ := hrel
        by_cases hlt : k < n
        · obtain ⟨b, off, x, rfl, hc0, hx, hbl⟩ := HA.cells hlt
          have hc : wr.cell? ⟨b, off + k, none⟩ = some (.int .i64 x) := (hD.bel.cell (p := ⟨b, off+k, none⟩) hbl).trans hc0
          have hlt' : (k : Int) < n := by omega
          by_cases he : x = m
          · have he' : (x == (m : Int)) = true := by simp [he]
            have HE := Lib.hid he
            clear he
            obtain ⟨A2, c2, rfl⟩ := own_form hD.tab
            have c51 := hD.row.cell (i := 51) (by omega)
            have e51 : decF l (m+1) m k (.slice A2 (startB l m + cnt l m k) c2) (deepU l m k) 51 = .slice A2 (startB l m + cnt l m k) c2 := rfl
            rw [e51] at c51
            have hcl := cnt_le l m k
            have hst : startB l m ≤ 4096 := by
              have := cnt_sum l (m - 1)
              rw [show m - 1 + 1 = m by omega, hlen.out] at this; omega
            have hsz := hD.bel.size
            have hlt2 := hD.row.lt
            go_wp2_with (at_builtin; refine wpList_append_sl _ rfl (.tmp 53) (.tmp 55) _ rfl (w.heap.size + 1) 3 1 8 _ Try.underlying22 infoInt rfl (by omega) (.slice A2 (startB l m + cnt l m k) c2) (startB l m + cnt l m k) _ rfl (hD.tab.alloc _) _ 1 1 [.int .i64 k] rfl rfl (Sl.one wr _ _) ?c1 ?c2 ?c3 ?c4 ?_)
            case c1 => simp [Value.oneCell']
            case c2 => unfold maxLen; omega
            case c3 => omega
            case c4 => simp; omega
            intro v' w1 hown hg _
            have hne : ∀ q, (Value.slice A2 (startB l m + cnt l m k) c2).ownBlock = some q → w.heap.size + 1 ≤ q := fun q hq => (hD.tab.lt q hq).1
            have hr1 := (hD.row.alloc (.cells #[.int .i64 k] 3)).of_block (hg.block w.heap.size (by simp; omega) (fun e => by have := hne _ e.symm; omega))
            have hb1 : Below w.heap.size w w1 := (hD.bel.alloc hsz _).grown hg (by simp; omega) (fun q hq => by have := hne q hq; omega)
            have d51 := hr1.cell (i := 51) (by omega)
            have d52 := hr1.cell (i := 52) (by omega)
            have dc := hr1.cell (i := 34 + m) (by omega)
            have g51 := hr1.frozen 51
            have g52 := hr1.frozen 52
            have gc := hr1.frozen (34 + m)
            have ec : decF l (m+1) m k (.slice A2 (startB l m + cnt l m k) c2) (deepU l m k) (34 + m) = .int .i64 (cnt l m k) := by
              unfold decF; rw [if_neg (by omega), if_neg (by omega), if_pos (by omega), if_neg (by omega), if_neg (by omega), if_pos (by omega)]
            rw [ec] at dc
            generalize decF l (m+1) m k (.slice A2 (startB l m + cnt l m k) c2) (deepU l m k) 52 = q52 at d52
            have HG := Lib.hid hg
            clear hg c51 e51 ec hne
            obtain ⟨A3, c3, rfl⟩ := own_form hown
            go_wp2
            go_region
            go_wp2
            go_roundw
            case rel =>
              refine ⟨k + 1, _, by omega, by go_num, hD.step (v' := .slice A3 (startB l m + cnt l m k + 1) c3) hx.out HE.out hm1 ?_ ?_ ?_ hm⟩
              · exact (((hr1.set 51 _).set (34 + m) _).set 52 _).drew
              · exact (((hb1.setCell (by simp) _).setCell (by simp) _).setCell (by simp) _).drew
              · have hown2 : w1.ownsRow (w.heap.size + 1) 3 1 (.slice A3 (startB l m + cnt l m k + 1) c3) (startB l m + cnt l m k + 1) ((tabB l m ++ idx l m k).map (.int .i64) ++ [.int .i64 k]) := by simpa using hown
                have hq : (Value.slice A3 (startB l m + cnt l m k + 1) c3).ownBlock = none ∨ (Value.slice A3 (startB l m + cnt l m k + 1) c3).ownBlock ≠ some w.heap.size := by
                  by_cases e : (Value.slice A3 (startB l m + cnt l m k + 1) c3).ownBlock = none
                  · exact .inl e
                  · exact .inr (fun e2 => by have := (hown.lt _ e2).1; omega)
                exact hown2.kept (grown_drew (grown_set (grown_set (grown_set (World.grownBy.refl _ _) _ _) _ _) _ _)) hq
            case measure => simp [intOf]; omega
          · have he' : (x == (m : Int)) = false := by simp [he]
            go_wp2
            go_roundw
            case rel => exact ⟨k + 1, v, by omega, by go_num, hD.skip hx.out he⟩
            case measure => simp [intOf]; omega
        · obtain rfl : k = n := by omega
          have hf := Lib.hid (first_succ l m hm1)
          have hD3 : D1 w wr l (m+1) (m+1) 0 v := D1.next hm1 (by rw [hlen.out]; exact hD)
          have cc := hD.row.cell (i := 34 + m) (by omega)
          have ec : decF l (m+1) m k v (deepU l m k) (34 + m) = .int .i64 (cnt l m k) := by
            unfold decF; rw [if_neg (by omega), if_neg (by omega), if_pos (by omega), if_neg (by omega), if_neg (by omega), if_pos (by omega)]
          rw [ec] at cc
          have hcl := cnt_le l m k
          have hfl := first_le l m (by omega) (by rw [hlen.out]; exact hn)
          have hu3 := HU.out hm
          clear ec
          have HU3 := Lib.hid hu3
          have hu4 : u ≤ 268435456 := by omega
          clear hu3
          go_wp2
          go_roundw
          case rel => exact ⟨m + 1, u * 2 + cnt l m k, v, by omega, by omega, by omega, by omega, fun _ => by have := HU3.out; rw [hf.out, hlen.out]; omega, by go_num, rfl, hD3⟩
          case measure => simp [intOf]; omega
    · obtain rfl : m = 17 := by omega
      go_wp2
      go_ret2
      exact ⟨_, rfl, hD⟩
end Go.Proofs.Ytpecemkjoklhfaa.Pfx
