/-
  Texts of this claim, joined by program (PfxDM, PfxD, RefM, RefT). The plain functions of the layer 'prefix', more: what a decoder holds and reads; no program in sight.
-/
import Derived.Test.YtmgbjgjlddifaaaGreatZG1
import Derived.Laws.Rows
import Derived.Laws.Tables
import Derived.Laws.CopyOwn
set_option linter.unusedVariables false
set_option linter.unusedSimpArgs false
namespace Go.Proofs.YtmgbjgjlddifaaaGreat.Pfx
open Go.RowKit K

/-- the symbols of length m among the first k -/
def idx (l : List Int) (m k : Nat) : List Int := ((List.range k).filter (fun i => l.getD i 0 == (m : Int))).map (fun i : Nat => (i : Int))
theorem idx_succ {l : List Int} {k : Nat} {x : Int} (m : Nat) (h : l[k]? = some x) : idx l m (k+1) = idx l m k ++ if x = m then [(k : Int)] else [] := by
  unfold idx
  rw [List.range_succ, List.filter_append, List.map_append]
  congr 1
  have := getD_of h 0
  by_cases e : x = m
  · rw [if_pos e]; simp only [List.filter_cons, this, e]; simp
  · rw [if_neg e]; simp only [List.filter_cons, this]; simp [e]
theorem idx_zero (l : List Int) (m : Nat) : idx l m 0 = [] := rfl
theorem idx_len (l : List Int) (m k : Nat) (hk : k ≤ l.length) : (idx l m k).length = cnt l m k := by
  induction k with
  | zero => simp [idx_zero, cnt_zero]
  | succ k ih =>
    have hx : l[k]? = some l[k] := List.getElem?_eq_getElem (by omega)
    rw [idx_succ m hx, cnt_succ m hx, List.length_append, ih (by omega)]
    split <;> simp
def tabB (l : List Int) : Nat → List Int
  | 0 => []
  | 1 => []
  | n+2 => tabB l (n+1) ++ idx l (n+1) l.length
theorem tabB_succ (l : List Int) (m : Nat) (h : 1 ≤ m) : tabB l (m+1) = tabB l m ++ idx l m l.length := by
  obtain ⟨k, rfl⟩ : ∃ k, m = k + 1 := ⟨m - 1, by omega⟩
  rfl
def startB (l : List Int) (m : Nat) : Nat := (tabB l m).length
theorem startB_succ (l : List Int) (m : Nat) (h : 1 ≤ m) : startB l (m+1) = startB l m + cnt l m l.length := by
  unfold startB; rw [tabB_succ l m h, List.length_append, idx_len l m _ (Nat.le_refl _)]
def deepB (l : List Int) : Nat → Nat
  | 0 => 0
  | 1 => 0
  | n+2 => if 0 < cnt l (n+1) l.length then n+1 else deepB l (n+1)
theorem deepB_succ (l : List Int) (m : Nat) (h : 1 ≤ m) : deepB l (m+1) = if 0 < cnt l m l.length then m else deepB l m := by
  obtain ⟨k, rfl⟩ : ∃ k, m = k + 1 := ⟨m - 1, by omega⟩
  rfl
theorem deepB_lt (l : List Int) (m : Nat) : deepB l (m+1) ≤ m := by
  induction m with
  | zero => simp [deepB]
  | succ m ih => rw [deepB_succ _ _ (by omega)]; split <;> omega
theorem countP_succ (l : List Int) (m : Nat) : l.countP (fun x => decide (1 ≤ x ∧ x ≤ ((m + 1 : Nat) : Int))) = l.countP (fun x => decide (1 ≤ x ∧ x ≤ (m : Int))) + l.count ((m + 1 : Nat) : Int) := by
  induction l with
  | nil => rfl
  | cons x l ih =>
    rw [List.countP_cons, List.countP_cons, List.count_cons, ih]
    by_cases e : x = ((m + 1 : Nat) : Int)
    · have e2 : (x == ((m + 1 : Nat) : Int)) = true := by simp [e]
      rw [e2, if_pos (by simp; omega), if_neg (by simp; omega), if_pos rfl]; omega
    · have e2 : (x == ((m + 1 : Nat) : Int)) = false := by simpa using e
      rw [e2]
      by_cases e3 : 1 ≤ x ∧ x ≤ m
      · rw [if_pos (by simp; omega), if_pos (by simpa using e3), if_neg (by simp)]; omega
      · rw [if_neg (by simp; omega), if_neg (by simp; omega), if_neg (by simp)]; omega
theorem startB_count (l : List Int) (m : Nat) : startB l (m+1) = l.countP (fun x => decide (1 ≤ x ∧ x ≤ (m : Int))) := by
  induction m with
  | zero =>
    show 0 = _
    symm
    rw [List.countP_eq_zero]
    intro x _; simp; omega
  | succ m ih => rw [startB_succ _ _ (by omega), ih, countP_succ]; simp [cnt]
theorem cnt_sum (l : List Int) (m : Nat) : startB l (m+1) + cnt l (m+1) l.length ≤ l.length := by
  rw [← startB_succ _ _ (by omega), startB_count]; exact List.countP_le_length
theorem startB_mono (l : List Int) {a b : Nat} (h1 : 1 ≤ a) (h : a ≤ b) : startB l a ≤ startB l b := by
  obtain ⟨k, rfl⟩ : ∃ k, b = a + k := ⟨b - a, by omega⟩
  clear h
  induction k with
  | zero => exact Nat.le_refl _
  | succ k ih => have := startB_succ l (a + k) (by omega); rw [← Nat.add_assoc, this]; omega
theorem startB_cnt (l : List Int) {m : Nat} (h1 : 1 ≤ m) (h : m ≤ 16) : startB l m + cnt l m l.length ≤ startB l 17 := by
  rw [← startB_succ l m h1]; exact startB_mono l (by omega) (by omega)
theorem first_le0 (l : List Int) (m : Nat) : first l (m+1) + 2 * l.length ≤ 2 ^ m * (2 * l.length) := by
  induction m with
  | zero => simp [first]
  | succ m ih =>
    rw [first_succ l (m+1) (by omega)]
    have := cnt_le l (m+1) l.length
    rw [Nat.pow_succ]
    have e : 2 ^ m * 2 * (2 * l.length) = 2 * (2 ^ m * (2 * l.length)) := by rw [Nat.mul_comm (2 ^ m) 2, Nat.mul_assoc]
    omega
theorem first_le (l : List Int) (m : Nat) (hm : m ≤ 17) (hl : l.length ≤ 4096) : first l m ≤ 536870912 := by
  rcases m with _ | m
  · simp [first]
  · have := first_le0 l m
    have h2 : 2 ^ m ≤ 2 ^ 16 := Nat.pow_le_pow_right (by omega) (by omega)
    have h3 : 2 ^ m * (2 * l.length) ≤ 2 ^ 16 * 8192 := Nat.mul_le_mul h2 (by omega)
    have e : 2 ^ 16 * 8192 = 536870912 := by decide
    omega
/-- the first number of n bits with which no longer code begins -/
def aboveM (l : List Int) (d n : Nat) : Int := if d ≤ n then 0 else ((first l d + cnt l d l.length : Nat) - 1 : Int) / 2 ^ (d - n) + 1
/-- one symbol: the symbol, the error, the place behind it -/
def nx (l : List Int) (d : Nat) (bit : Nat → Int) (total : Nat) : Nat → Nat → Int → Nat → Int × Int × Nat
  | 0, _, _, at_ => (0, 32, at_)
  | f+1, n, v, at_ =>
    if total ≤ at_ then (0, 5, at_) else
    let v' := 2 * v + bit at_
    let k := v' - first l n
    if k < cnt l n l.length ∧ 0 ≤ k then ((tabB l 17).getD (startB l n + k.toNat) 0, 0, at_ + 1)
    else if aboveM l d n ≤ v' then (0, 32, at_ + 1) else nx l d bit total f (n+1) v' (at_ + 1)
def nextM (l : List Int) (bit : Nat → Int) (total at_ : Nat) : Int × Int × Nat := nx l (deepB l 17) bit total (deepB l 17) 1 0 at_
end Go.Proofs.YtmgbjgjlddifaaaGreat.Pfx
set_option linter.unusedVariables false
set_option linter.unusedSimpArgs false
namespace Go.Proofs.YtmgbjgjlddifaaaGreat.Pfx
open Go.RowKit K

/-- a decoder's cells: nf lengths have been begun, length m has been counted up to its k-th symbol -/
def decF (l : List Int) (nf m k : Nat) (v : Value) (dp : Nat) (j : Nat) : Value :=
  if j < 17 then .int .i64 (if 1 ≤ j ∧ j < nf then (first l j : Int) else 0)
  else if j < 34 then .int .i64 (if 1 ≤ j - 17 ∧ j - 17 < nf then (startB l (j - 17) : Int) else 0)
  else if j < 51 then .int .i64 (if j - 34 = 0 then 0 else if j - 34 < m then (cnt l (j - 34) l.length : Int) else if j - 34 = m then (cnt l m k : Int) else 0)
  else if j = 51 then v else .int .i64 dp
def deepU (l : List Int) (m k : Nat) : Nat := if 0 < cnt l m k then m else deepB l m
structure D1 (w wr : World) (l : List Int) (nf m k : Nat) (v : Value) : Prop where
  bel : Below w.heap.size w wr
  row : wr.rowIs w.heap.size 165 53 (decF l nf m k v (deepU l m k))
  tab : wr.ownsRow (w.heap.size + 1) 3 1 v (startB l m + cnt l m k) ((tabB l m ++ idx l m k).map (.int .i64))
theorem D1.start (w : World) (l : List Int) : D1 w (w.alloc (.cells ((List.range 53).map (fun j => if j = 51 then Value.slice none 0 0 else .int .i64 0)).toArray 165)) l 1 1 0 (.slice none 0 0) := by
  refine ⟨(Below.refl _ _).alloc (Nat.le_refl _) _, ?_, ?_⟩
  · refine World.rowIs_alloc w _ _ _ (fun i hi => ?_)
    simp only [List.size_toArray, List.length_map, List.length_range] at hi
    simp only [List.getElem?_toArray, List.getElem?_map, List.getElem?_range hi, Option.map_some]
    congr 1
    unfold decF
    simp only [cnt_zero]
    by_cases h1 : i < 17
    · rw [if_neg (by omega), if_pos h1, if_neg (by omega)]
    · rw [if_neg h1]
      by_cases h2 : i < 34
      · rw [if_neg (by omega), if_pos h2, if_neg (by omega)]
      · rw [if_neg h2]
        by_cases h3 : i < 51
        · rw [if_neg (by omega), if_pos h3]
          by_cases h4 : i - 34 = 0
          · rw [if_pos h4]
          · rw [if_neg h4, if_neg (by omega)]; split <;> rfl
        · rw [if_neg h3]
          by_cases h4 : i = 51
          · rw [if_pos h4, if_pos h4]
          · rw [if_neg h4, if_neg h4]; simp [deepU, cnt_zero, deepB]
  · rw [cnt_zero, idx_zero]; exact World.ownsRow_nil _ _ _ _
/-- region 'd.first[n], d.start[n] = code, len(d.table)' -/
theorem D1.begun {w wr wr' : World} {l : List Int} {m : Nat} {v : Value} (hm1 : 1 ≤ m) (hm : m ≤ 16) (h : D1 w wr l m m 0 v)
    (hr : wr'.rowIs w.heap.size 165 53 (fun j => if j = 17 + m then .int .i64 (startB l m : Int) else if j = m then .int .i64 (first l m : Int) else decF l m m 0 v (deepU l m 0) j))
    (hg : wr.grownBy wr' (some w.heap.size)) : D1 w wr' l (m+1) m 0 v :=
  ⟨h.bel.trans (by
      have := (Below.refl w.heap.size wr).grown hg h.bel.size (fun k hk => by injection hk with hk; omega)
      exact this), hr.congr (fun j hj => by
    unfold decF
    by_cases h1 : j < 17
    · rw [if_neg (by omega), if_pos h1, if_pos h1]
      by_cases h2 : j = m
      · subst h2; rw [if_pos rfl, if_pos (by omega)]
      · rw [if_neg h2]
        by_cases h3 : 1 ≤ j ∧ j < m
        · rw [if_pos h3, if_pos (by omega)]
        · rw [if_neg h3, if_neg (by omega)]
    · rw [if_neg h1, if_neg h1]
      by_cases h2 : j < 34
      · rw [if_pos h2, if_pos h2]
        by_cases h3 : j = 17 + m
        · subst h3; rw [if_pos rfl, if_pos (by omega), show 17 + m - 17 = m by omega]
        · rw [if_neg h3, if_neg (by omega)]
          by_cases h4 : 1 ≤ j - 17 ∧ j - 17 < m
          · rw [if_pos h4, if_pos (by omega)]
          · rw [if_neg h4, if_neg (by omega)]
      · rw [if_neg h2, if_neg h2, if_neg (by omega), if_neg (by omega)]),
   h.tab.kept hg (by
    by_cases e : v.ownBlock = none
    · exact .inl e
    · refine .inr (fun e2 => ?_)
      have := (h.tab.lt _ e2).1
      omega)⟩
theorem D1.next {w wr : World} {l : List Int} {m : Nat} {v : Value} (hm1 : 1 ≤ m) (h : D1 w wr l (m+1) m l.length v) : D1 w wr l (m+1) (m+1) 0 v := by
  refine ⟨h.bel, h.row.congr (fun j hj => ?_), ?_⟩
  · unfold decF
    have hd : deepU l (m+1) 0 = deepU l m l.length := by unfold deepU; rw [cnt_zero, if_neg (by omega), deepB_succ l m hm1]
    rw [hd]
    by_cases h1 : j < 17
    · rw [if_pos h1, if_pos h1]
    · rw [if_neg h1, if_neg h1]
      by_cases h2 : j < 34
      · rw [if_pos h2, if_pos h2]
      · rw [if_neg h2, if_neg h2]
        by_cases h3 : j < 51
        · rw [if_pos h3, if_pos h3, cnt_zero]
          by_cases h4 : j - 34 = 0
          · rw [if_pos h4, if_pos h4]
          · rw [if_neg h4, if_neg h4]
            by_cases h5 : j - 34 < m
            · rw [if_pos h5, if_pos (by omega)]
            · rw [if_neg h5]
              by_cases h6 : j - 34 = m
              · rw [if_pos h6, if_pos (by omega), h6]
              · rw [if_neg h6, if_neg (by omega)]; split <;> rfl
        · rw [if_neg h3, if_neg h3]
  · have := h.tab
    rw [cnt_zero, idx_zero, startB_succ l m hm1, tabB_succ l m hm1, List.append_nil, Nat.add_zero]
    exact this
theorem D1.skip {w wr : World} {l : List Int} {nf m k : Nat} {v : Value} {x : Int} (h : D1 w wr l nf m k v) (hx : l[k]? = some x) (hne : x ≠ m) : D1 w wr l nf m (k+1) v := by
  have e1 : cnt l m (k+1) = cnt l m k := by rw [cnt_succ m hx, if_neg hne]; rfl
  have e2 : idx l m (k+1) = idx l m k := by rw [idx_succ m hx, if_neg hne, List.append_nil]
  refine ⟨h.bel, h.row.congr (fun j hj => ?_), ?_⟩
  · unfold decF deepU; rw [e1]
  · rw [e1, e2]; exact h.tab
/-- behind the stores of the table, the count and the depth -/
theorem D1.step {w wr wr' : World} {l : List Int} {m k : Nat} {v v' : Value} {x : Int} (h : D1 w wr l (m+1) m k v) (hx : l[k]? = some x) (he : x = m) (hm1 : 1 ≤ m)
    (hr : wr'.rowIs w.heap.size 165 53 (fun j => if j = 52 then .int .i64 (m : Int) else if j = 34 + m then .int .i64 ((cnt l m k : Int) + 1) else if j = 51 then v' else decF l (m+1) m k v (deepU l m k) j))
    (hb : Below w.heap.size w wr')
    (ht : wr'.ownsRow (w.heap.size + 1) 3 1 v' (startB l m + cnt l m k + 1) ((tabB l m ++ idx l m k).map (.int .i64) ++ [.int .i64 k])) (hm : m ≤ 16) : D1 w wr' l (m+1) m (k+1) v' := by
  have e1 : cnt l m (k+1) = cnt l m k + 1 := by rw [cnt_succ m hx, if_pos he]
  have e2 : idx l m (k+1) = idx l m k ++ [(k : Int)] := by rw [idx_succ m hx, if_pos he]
  refine ⟨hb, hr.congr (fun j hj => ?_), ?_⟩
  · unfold decF deepU; rw [e1]
    by_cases h1 : j < 17
    · rw [if_neg (by omega), if_neg (by omega), if_neg (by omega), if_pos h1, if_pos h1]
    · by_cases h2 : j < 34
      · rw [if_neg (by omega), if_neg (by omega), if_neg (by omega), if_neg h1, if_pos h2, if_neg h1, if_pos h2]
      · by_cases h3 : j < 51
        · rw [if_neg (by omega)]
          by_cases h4 : j = 34 + m
          · rw [if_pos h4, if_neg h1, if_neg h2, if_pos h3, if_neg (by omega), if_neg (by omega), if_pos (by omega)]; rfl
          · rw [if_neg h4, if_neg (by omega), if_neg h1, if_neg h2, if_pos h3, if_neg h1, if_neg h2, if_pos h3]
            by_cases h5 : j - 34 = 0
            · rw [if_pos h5, if_pos h5]
            · rw [if_neg h5, if_neg h5]
              by_cases h6 : j - 34 < m
              · rw [if_pos h6, if_pos h6]
              · rw [if_neg h6, if_neg h6, if_neg (by omega), if_neg (by omega)]
        · by_cases h4 : j = 51
          · rw [if_neg (by omega), if_neg (by omega), if_pos h4, if_neg h1, if_neg h2, if_neg h3, if_pos h4]
          · rw [if_pos (by omega), if_neg h1, if_neg h2, if_neg h3, if_neg h4, if_pos (by omega)]
  · rw [e1, e2, ← List.append_assoc, List.map_append]; exact ht

set_option maxHeartbeats 1000000 in
theorem new_err {A : Option Addr} {n c : Nat} {l : List Int} (w : World) (HA : SI w .i64 A n l) (h : checkedOf l ≠ 0) :
    Calls Tryz.prog 83 #[.slice A n c] w fun e w' => e = .returned (.tuple #[.pointer none, .int .i64 (checkedOf l)]) ∧ w = w' := by
  have hb : (checkedOf l != 0) = true := by simp [h]
  go_enter Tryz.func83, Tryz.ntmps83
  go_wp2_with (go_at_call 68; refine (checked_any _ HA).mono ?_; rintro e w' ⟨rfl, rfl⟩)
  go_ret2
  exact ⟨rfl, rfl⟩

def NewPost (w : World) (l : List Int) (e : Ending) (w' : World) : Prop := ∃ v, e = .returned (.tuple #[.pointer (some ⟨w.heap.size, 0, none⟩), .int .i64 0]) ∧ D1 w w' l 17 17 0 v
set_option maxHeartbeats 2000000 in
theorem new_ok {A : Option Addr} {n c : Nat} {l : List Int} (w : World) (HA : SI w .i64 A n l) (h : checkedOf l = 0) :
    Calls Tryz.prog 83 #[.slice A n c] w (NewPost w l) := by
  have hlen := Lib.hid HA.len
  obtain ⟨hn, hgood, hroom⟩ := checked_zero h
  rw [hlen.out] at hn
  have H := Lib.hid h
  clear h hgood
  go_enter Tryz.func83, Tryz.ntmps83
  go_wp2_with (go_at_call 68; refine (checked_any _ HA).mono ?_; rintro e w' ⟨rfl, rfl⟩; rw [H.out])
  have h0 := D1.start w l
  go_loopw [6, 7, 8, 9] (fun cd m _ _ wr => ∃ (k : Nat) (u : Int) (v : Value), 1 ≤ k ∧ k ≤ 17 ∧ 0 ≤ u ∧ u ≤ 600000000 ∧ (k ≤ 16 → 2 * u = first l k) ∧ m = .int .i64 k ∧ cd = .int .i64 u ∧ D1 w wr l k k 0 v) (fun _ m _ _ _ => 17 - (intOf m).toNat)
  case atStart => exact ⟨1, 0, _, by omega, by omega, by omega, by omega, fun _ => rfl, rfl, rfl, h0⟩
  case round =>
    clear h0
    obtain ⟨m, u, v, hm1, hm2, hu0, hu1, hu2, rfl, rfl, hD⟩ := hrel
    have HU := Lib.hid hu2
    clear hu2
    obtain ⟨wo, rfl⟩ : ∃ wo : World, wo = wr := ⟨_, rfl⟩
    by_cases hm : m ≤ 16
    · obtain ⟨At, ct, rfl⟩ := own_form hD.tab
      have c51 := hD.row.cell (i := 51) (by omega)
      have cf := hD.row.cell (i := m) (by omega)
      have cs := hD.row.cell (i := 17 + m) (by omega)
      have f1 := hD.row.frozen m
      have f2 := hD.row.frozen (17 + m)
      have e51 : decF l m m 0 (.slice At (startB l m + cnt l m 0) ct) (deepU l m 0) 51 = .slice At (startB l m + cnt l m 0) ct := rfl
      rw [e51] at c51
      generalize decF l m m 0 (.slice At (startB l m + cnt l m 0) ct) (deepU l m 0) m = q1 at cf
      generalize decF l m m 0 (.slice At (startB l m + cnt l m 0) ct) (deepU l m 0) (17 + m) = q2 at cs
      have hmd : decide ((m : Int) ≤ 16) = true := by simp; omega
      go_wp2
      go_region
      have hD2 : D1 w ((wo.setCell ⟨w.heap.size, m, none⟩ (.int .i64 (u * 2))).setCell ⟨w.heap.size, 17 + m, none⟩ (.int .i64 ((startB l m : Int) + (cnt l m 0 : Int)))).drew l (m+1) m 0 (.slice At (startB l m + cnt l m 0) ct) :=
        hD.begun hm1 hm (((hD.row.set m (.int .i64 (u * 2))).set (17 + m) (.int .i64 ((startB l m : Int) + (cnt l m 0 : Int)))).drew.congr (fun j hj => by
          by_cases h1 : j = 17 + m
          · rw [if_pos h1, if_pos h1, cnt_zero]; simp
          · rw [if_neg h1, if_neg h1]
            by_cases h2 : j = m
            · rw [if_pos h2, if_pos h2, ← HU.out hm]; exact eint (by omega)
            · rw [if_neg h2, if_neg h2])) (grown_drew (grown_set (grown_set (World.grownBy.refl _ _) _ _) _ _))
      generalize ((wo.setCell ⟨w.heap.size, m, none⟩ (.int .i64 (u * 2))).setCell ⟨w.heap.size, 17 + m, none⟩ (.int .i64 ((startB l m : Int) + (cnt l m 0 : Int)))).drew = w2 at hD2 ⊢
      go_wp2
      go_loopw [8, 9, 41] (fun _ _ i wr => ∃ (k : Nat) (v : Value), k ≤ n ∧ i = .int .i64 k ∧ D1 w wr l (m+1) m k v) (fun _ _ i _ => n - (intOf i).toNat)
      case atStart => exact ⟨0, _, by omega, rfl, hD2⟩
      case round =>
        clear hD2 hD c51 cf cs f1 f2 e51
        obtain ⟨k, v, hk, rfl, hD⟩ := hrel
        by_cases hlt : k < n
        · obtain ⟨b, off, x, rfl, hc0, hx, hbl⟩ := HA.cells hlt
          have hc : wr.cell? ⟨b, off + k, none⟩ = some (.int .i64 x) := (hD.bel.cell (p := ⟨b, off+k, none⟩) hbl).trans hc0
          have hlt' : (k : Int) < n := by omega
          by_cases he : x = m
          · have he' : (x == (m : Int)) = true := by simp [he]
            have HE := Lib.hid he
            clear he
            obtain ⟨A2, c2, rfl⟩ := own_form hD.tab
            have c51 := hD.row.cell (i := 51) (by omega)
            have e51 : decF l (m+1) m k (.slice A2 (startB l m + cnt l m k) c2) (deepU l m k) 51 = .slice A2 (startB l m + cnt l m k) c2 := rfl
            rw [e51] at c51
            have hcl := cnt_le l m k
            have hst : startB l m ≤ 4096 := by
              have := cnt_sum l (m - 1)
              rw [show m - 1 + 1 = m by omega, hlen.out] at this; omega
            have hsz := hD.bel.size
            have hlt2 := hD.row.lt
            go_wp2_with (at_builtin; refine wpList_append_sl _ rfl (.tmp 53) (.tmp 55) _ rfl (w.heap.size + 1) 3 1 8 _ Tryz.underlying43 infoInt rfl (by omega) (.slice A2 (startB l m + cnt l m k) c2) (startB l m + cnt l m k) _ rfl (hD.tab.alloc _) _ 1 1 [.int .i64 k] rfl rfl (Sl.one wr _ _) ?c1 ?c2 ?c3 ?c4 ?_)
            case c1 => simp [Value.oneCell']
            case c2 => unfold maxLen; omega
            case c3 => omega
            case c4 => simp; omega
            intro v' w1 hown hg _
            have hne : ∀ q, (Value.slice A2 (startB l m + cnt l m k) c2).ownBlock = some q → w.heap.size + 1 ≤ q := fun q hq => (hD.tab.lt q hq).1
            have hr1 := (hD.row.alloc (.cells #[.int .i64 k] 3)).of_block (hg.block w.heap.size (by simp; omega) (fun e => by have := hne _ e.symm; omega))
            have hb1 : Below w.heap.size w w1 := (hD.bel.alloc hsz _).grown hg (by simp; omega) (fun q hq => by have := hne q hq; omega)
            have d51 := hr1.cell (i := 51) (by omega)
            have d52 := hr1.cell (i := 52) (by omega)
            have dc := hr1.cell (i := 34 + m) (by omega)
            have g51 := hr1.frozen 51
            have g52 := hr1.frozen 52
            have gc := hr1.frozen (34 + m)
            have ec : decF l (m+1) m k (.slice A2 (startB l m + cnt l m k) c2) (deepU l m k) (34 + m) = .int .i64 (cnt l m k) := by
              unfold decF; rw [if_neg (by omega), if_neg (by omega), if_pos (by omega), if_neg (by omega), if_neg (by omega), if_pos (by omega)]
            rw [ec] at dc
            generalize decF l (m+1) m k (.slice A2 (startB l m + cnt l m k) c2) (deepU l m k) 52 = q52 at d52
            have HG := Lib.hid hg
            clear hg c51 e51 ec hne
            obtain ⟨A3, c3, rfl⟩ := own_form hown
            go_wp2
            go_region
            go_wp2
            go_roundw
            case rel =>
              refine ⟨k + 1, _, by omega, by go_num, hD.step (v' := .slice A3 (startB l m + cnt l m k + 1) c3) hx.out HE.out hm1 ?_ ?_ ?_ hm⟩
              · exact (((hr1.set 51 _).set (34 + m) _).set 52 _).drew
              · exact (((hb1.setCell (by simp) _).setCell (by simp) _).setCell (by simp) _).drew
              · have hown2 : w1.ownsRow (w.heap.size + 1) 3 1 (.slice A3 (startB l m + cnt l m k + 1) c3) (startB l m + cnt l m k + 1) ((tabB l m ++ idx l m k).map (.int .i64) ++ [.int .i64 k]) := by simpa using hown
                have hq : (Value.slice A3 (startB l m + cnt l m k + 1) c3).ownBlock = none ∨ (Value.slice A3 (startB l m + cnt l m k + 1) c3).ownBlock ≠ some w.heap.size := by
                  by_cases e : (Value.slice A3 (startB l m + cnt l m k + 1) c3).ownBlock = none
                  · exact .inl e
                  · exact .inr (fun e2 => by have := (hown.lt _ e2).1; omega)
                exact hown2.kept (grown_drew (grown_set (grown_set (grown_set (World.grownBy.refl _ _) _ _) _ _) _ _)) hq
            case measure => simp [intOf]; omega
          · have he' : (x == (m : Int)) = false := by simp [he]
            go_wp2
            go_roundw
            case rel => exact ⟨k + 1, v, by omega, by go_num, hD.skip hx.out he⟩
            case measure => simp [intOf]; omega
        · obtain rfl : k = n := by omega
          have hf := Lib.hid (first_succ l m hm1)
          have hD3 : D1 w wr l (m+1) (m+1) 0 v := D1.next hm1 (by rw [hlen.out]; exact hD)
          have cc := hD.row.cell (i := 34 + m) (by omega)
          have ec : decF l (m+1) m k v (deepU l m k) (34 + m) = .int .i64 (cnt l m k) := by
            unfold decF; rw [if_neg (by omega), if_neg (by omega), if_pos (by omega), if_neg (by omega), if_neg (by omega), if_pos (by omega)]
          rw [ec] at cc
          have hcl := cnt_le l m k
          have hfl := first_le l m (by omega) (by rw [hlen.out]; exact hn)
          have hu3 := HU.out hm
          clear ec
          have HU3 := Lib.hid hu3
          have hu4 : u ≤ 268435456 := by omega
          clear hu3
          go_wp2
          go_roundw
          case rel => exact ⟨m + 1, u * 2 + cnt l m k, v, by omega, by omega, by omega, by omega, fun _ => by have := HU3.out; rw [hf.out, hlen.out]; omega, by go_num, rfl, hD3⟩
          case measure => simp [intOf]; omega
    · obtain rfl : m = 17 := by omega
      go_wp2
      go_ret2
      exact ⟨_, rfl, hD⟩
end Go.Proofs.YtmgbjgjlddifaaaGreat.Pfx
set_option linter.unusedVariables false
set_option linter.unusedSimpArgs false
namespace Go.Proofs.YtmgbjgjlddifaaaGreat.Ref
open Go.RowKit K Pfx

/-- does a code of k bits begin with the number v of n bits? -/
def moreK (l : List Int) (v : Int) (n k : Nat) : Bool :=
  decide (0 < cnt l k l.length) && (decide (v * 2 ^ (k - n) ≤ (first l k : Int) + cnt l k l.length - 1) && decide ((first l k : Int) ≤ v * 2 ^ (k - n) + 2 ^ (k - n) - 1))
def moreF (l : List Int) (v : Int) (n : Nat) : Nat → Nat → Bool
  | 0, _ => false
  | f+1, k => moreK l v n k || moreF l v n f (k+1)
def moreM (l : List Int) (v : Int) (n : Nat) : Bool := moreF l v n (16 - n) (n + 1)
def rnx (l : List Int) (bit : Nat → Int) (total : Nat) : Nat → Nat → Int → Nat → Int × Int × Nat
  | 0, _, _, at_ => (0, 32, at_)
  | f+1, n, v, at_ =>
    if total ≤ at_ then (0, 5, at_) else
    let v' := 2 * v + bit at_
    if (first l n : Int) ≤ v' ∧ v' < (first l n : Int) + cnt l n l.length then ((idx l n l.length).getD (v' - first l n).toNat 0, 0, at_ + 1)
    else if moreM l v' n = false then (0, 32, at_ + 1) else rnx l bit total f (n+1) v' (at_ + 1)
def anyM (l : List Int) : Bool := (List.range 16).any (fun j => decide (0 < cnt l (j+1) l.length))
def rnextM (l : List Int) (bit : Nat → Int) (total at_ : Nat) : Int × Int × Nat := if anyM l then rnx l bit total 16 1 0 at_ else (0, 32, at_)

theorem moreF_iff (l : List Int) (v : Int) (n : Nat) : ∀ f k, moreF l v n f k = true ↔ ∃ j, k ≤ j ∧ j < k + f ∧ moreK l v n j = true := by
  intro f
  induction f with
  | zero => intro k; simp [moreF]; omega
  | succ f ih =>
    intro k
    rw [moreF, Bool.or_eq_true, ih]
    constructor
    · rintro (h | ⟨j, h1, h2, h3⟩)
      · exact ⟨k, by omega, by omega, h⟩
      · exact ⟨j, by omega, by omega, h3⟩
    · rintro ⟨j, h1, h2, h3⟩
      by_cases e : j = k
      · subst e; exact .inl h3
      · exact .inr ⟨j, by omega, by omega, h3⟩
theorem moreM_iff (l : List Int) (v : Int) (n : Nat) : moreM l v n = true ↔ ∃ j, n < j ∧ j ≤ 16 ∧ moreK l v n j = true := by
  unfold moreM
  rw [moreF_iff]
  constructor
  · rintro ⟨j, h1, h2, h3⟩; exact ⟨j, by omega, by omega, h3⟩
  · rintro ⟨j, h1, h2, h3⟩; exact ⟨j, by omega, by omega, h3⟩
theorem first_ge (l : List Int) (a : Nat) (ha : 1 ≤ a) : ∀ k, ((first l a : Int) + cnt l a l.length) * 2 ^ (k + 1) ≤ (first l (a + k + 1) : Int) := by
  intro k
  induction k with
  | zero => rw [Nat.add_zero, first_succ l a ha]; push_cast; omega
  | succ k ih =>
    rw [Int.pow_succ, ← Int.mul_assoc, show a + (k + 1) + 1 = (a + k + 1) + 1 by omega, first_succ l (a + k + 1) (by omega)]
    push_cast
    omega
theorem deepB_spec (l : List Int) (m : Nat) : (∀ k, deepB l (m+1) < k → k ≤ m → cnt l k l.length = 0) ∧ (0 < deepB l (m+1) → 0 < cnt l (deepB l (m+1)) l.length) := by
  induction m with
  | zero => exact ⟨fun k h1 h2 => by omega, fun h => by simp [deepB] at h⟩
  | succ m ih =>
    rw [deepB_succ _ _ (by omega)]
    by_cases h : 0 < cnt l (m+1) l.length
    · rw [if_pos h]; exact ⟨fun k h1 h2 => by omega, fun _ => h⟩
    · rw [if_neg h]
      refine ⟨fun k h1 h2 => ?_, ih.2⟩
      by_cases e : k = m + 1
      · subst e; omega
      · exact ih.1 k h1 (by omega)
theorem deep17 (l : List Int) : deepB l 17 ≤ 16 ∧ (∀ k, deepB l 17 < k → k ≤ 16 → cnt l k l.length = 0) ∧ (0 < deepB l 17 → 0 < cnt l (deepB l 17) l.length) := ⟨deepB_lt l 16, deepB_spec l 16⟩
theorem pow_pos' (k : Nat) : (0 : Int) < 2 ^ k := Int.pow_pos (by omega)
/-- from 'v lies behind the codes of n bits' and 'v begins the last code': some length's codes are begun -/
theorem climb (l : List Int) (v : Int) (n : Nat) (hn : 1 ≤ n) : ∀ k, (first l n : Int) + cnt l n l.length ≤ v → ¬ (first l (n + k) : Int) + cnt l (n + k) l.length ≤ v * 2 ^ k → ∃ j, 1 ≤ j ∧ j ≤ k ∧ (first l (n + j) : Int) ≤ v * 2 ^ j ∧ v * 2 ^ j < (first l (n + j) : Int) + cnt l (n + j) l.length := by
  intro k h0
  induction k with
  | zero => intro h; exfalso; apply h; simpa using h0
  | succ k ih =>
    intro h
    by_cases hp : (first l (n + k) : Int) + cnt l (n + k) l.length ≤ v * 2 ^ k
    · refine ⟨k + 1, by omega, by omega, ?_, by omega⟩
      rw [show n + (k + 1) = (n + k) + 1 by omega, first_succ l (n + k) (by omega), Int.pow_succ, ← Int.mul_assoc]
      push_cast; omega
    · obtain ⟨j, h1, h2, h3⟩ := ih hp
      exact ⟨j, h1, by omega, h3⟩
theorem above_more (l : List Int) (v : Int) (n : Nat) (hn : 1 ≤ n) (hd : n ≤ deepB l 17) (h : (first l n : Int) + cnt l n l.length ≤ v) : (moreM l v n = false) ↔ aboveM l (deepB l 17) n ≤ v := by
  obtain ⟨hd16, s1, s2⟩ := deep17 l
  have hdc := s2 (by omega)
  generalize deepB l 17 = d at *
  have key : moreM l v n = true ↔ (n < d ∧ v * 2 ^ (d - n) < (first l d : Int) + cnt l d l.length) := by
    rw [moreM_iff]
    constructor
    · rintro ⟨j, h1, h2, h3⟩
      simp only [moreK, Bool.and_eq_true, decide_eq_true_eq] at h3
      obtain ⟨hc, hlo, -⟩ := h3
      have hjd : j ≤ d := by
        rcases Nat.lt_or_ge d j with e | e
        · have := s1 j e (by omega); omega
        · exact e
      refine ⟨by omega, ?_⟩
      by_cases e : j = d
      · subst e; omega
      · obtain ⟨k, rfl⟩ : ∃ k, d = j + k + 1 := ⟨d - j - 1, by omega⟩
        have hg := first_ge l j (by omega) k
        have hp := pow_pos' (k+1)
        rw [show j + k + 1 - n = (j - n) + (k + 1) by omega, Int.pow_add, ← Int.mul_assoc]
        have : v * 2 ^ (j - n) * 2 ^ (k + 1) < ((first l j : Int) + cnt l j l.length) * 2 ^ (k + 1) := Int.mul_lt_mul_of_pos_right (by omega) hp
        omega
    · rintro ⟨h1, h2⟩
      obtain ⟨k, rfl⟩ : ∃ k, d = n + k := ⟨d - n, by omega⟩
      rw [show n + k - n = k by omega] at h2
      obtain ⟨j, j1, j2, j3, j4⟩ := climb l v n hn k h (by omega)
      refine ⟨n + j, by omega, by omega, ?_⟩
      have hp := pow_pos' j
      simp only [moreK, Bool.and_eq_true, decide_eq_true_eq, show n + j - n = j by omega]
      omega
  by_cases e : d = n
  · subst e
    have : moreM l v d = false := by
      rw [← Bool.not_eq_true, key]; omega
    unfold aboveM
    rw [if_pos (Nat.le_refl _)]
    exact ⟨fun _ => by omega, fun _ => this⟩
  · rw [← Bool.not_eq_true, key]
    unfold aboveM
    rw [if_neg (by omega)]
    have hp := pow_pos' (d - n)
    have hq : v * 2 ^ (d - n) < (first l d : Int) + cnt l d l.length ↔ v ≤ ((first l d + cnt l d l.length : Nat) - 1 : Int) / 2 ^ (d - n) := by
      rw [Int.le_ediv_iff_mul_le hp]; push_cast; omega
    rw [hq]
    omega
theorem tabB_ext (l : List Int) (a : Nat) (ha : 1 ≤ a) : ∀ k, ∃ r, tabB l (a + k) = tabB l a ++ r := by
  intro k
  induction k with
  | zero => exact ⟨[], by simp⟩
  | succ k ih =>
    obtain ⟨r, hr⟩ := ih
    exact ⟨r ++ idx l (a + k) l.length, by rw [← Nat.add_assoc, tabB_succ l (a + k) (by omega), hr, List.append_assoc]⟩
theorem tab_idx (l : List Int) (n k : Nat) (h1 : 1 ≤ n) (h2 : n ≤ 16) (hk : k < cnt l n l.length) : (tabB l 17).getD (startB l n + k) 0 = (idx l n l.length).getD k 0 := by
  obtain ⟨r, hr⟩ := tabB_ext l (n+1) (by omega) (16 - n)
  rw [show n + 1 + (16 - n) = 17 by omega] at hr
  rw [hr, tabB_succ l n h1, List.getD_eq_getElem?_getD, List.getD_eq_getElem?_getD, List.append_assoc, List.getElem?_append_right (by unfold startB; omega)]
  have : startB l n + k - (tabB l n).length = k := by unfold startB; omega
  rw [this, List.getElem?_append_left (by rw [idx_len l n _ (Nat.le_refl _)]; exact hk)]
theorem nx_rnx (l : List Int) (bit : Nat → Int) (hbit : ∀ i, 0 ≤ bit i) (total : Nat) : ∀ f n v at_, 1 ≤ n → n + f = deepB l 17 → 0 ≤ v → (first l n : Int) ≤ 2 * v → nx l (deepB l 17) bit total (f+1) n v at_ = rnx l bit total (17 - n) n v at_ := by
  obtain ⟨hd16, -, -⟩ := deep17 l
  intro f
  induction f with
  | zero =>
    intro n v at_ h1 hf hv hfi
    obtain ⟨g, hg⟩ : ∃ g, 17 - n = g + 1 := ⟨16 - n, by omega⟩
    rw [hg, nx, rnx]
    by_cases ht : total ≤ at_
    · rw [if_pos ht, if_pos ht]
    · rw [if_neg ht, if_neg ht]
      have hb := hbit at_
      generalize hv' : 2 * v + bit at_ = v'
      by_cases hr : (first l n : Int) ≤ v' ∧ v' < (first l n : Int) + cnt l n l.length
      · simp only []
        rw [if_pos (by omega), if_pos hr, tab_idx l n _ h1 (by omega) (by omega)]
      · simp only []
        rw [if_neg (by omega), if_neg hr]
        have hm := above_more l v' n h1 (by omega) (by omega)
        have hab : aboveM l (deepB l 17) n ≤ v' := by unfold aboveM; rw [if_pos (by omega)]; omega
        rw [if_pos hab, if_pos (hm.2 hab)]
  | succ f ih =>
    intro n v at_ h1 hf hv hfi
    obtain ⟨g, hg⟩ : ∃ g, 17 - n = g + 1 := ⟨16 - n, by omega⟩
    rw [hg, nx, rnx]
    by_cases ht : total ≤ at_
    · rw [if_pos ht, if_pos ht]
    · rw [if_neg ht, if_neg ht]
      have hb := hbit at_
      generalize hv' : 2 * v + bit at_ = v'
      by_cases hr : (first l n : Int) ≤ v' ∧ v' < (first l n : Int) + cnt l n l.length
      · simp only []
        rw [if_pos (by omega), if_pos hr, tab_idx l n _ h1 (by omega) (by omega)]
      · simp only []
        rw [if_neg (by omega), if_neg hr]
        have hm := above_more l v' n h1 (by omega) (by omega)
        by_cases hab : aboveM l (deepB l 17) n ≤ v'
        · rw [if_pos hab, if_pos (hm.2 hab)]
        · rw [if_neg hab, if_neg (fun e => hab (hm.1 e))]
          have := ih (n+1) v' (at_+1) (by omega) (by omega) (by omega) (by rw [first_succ l n h1]; push_cast; omega)
          rw [this, show 17 - (n + 1) = g by omega]
theorem anyM_deep (l : List Int) : anyM l = decide (0 < deepB l 17) := by
  obtain ⟨hd16, s1, s2⟩ := deep17 l
  by_cases h : 0 < deepB l 17
  · rw [decide_eq_true h]
    unfold anyM
    rw [List.any_eq_true]
    refine ⟨deepB l 17 - 1, by simp; omega, ?_⟩
    rw [show deepB l 17 - 1 + 1 = deepB l 17 by omega]
    simpa using s2 h
  · rw [decide_eq_false h]
    unfold anyM
    rw [List.any_eq_false]
    intro j hj
    simp only [List.mem_range] at hj
    have := s1 (j+1) (by omega) (by omega)
    simp [this]
theorem next_eq (l : List Int) (bit : Nat → Int) (hbit : ∀ i, 0 ≤ bit i) (total at_ : Nat) : nextM l bit total at_ = rnextM l bit total at_ := by
  unfold nextM rnextM
  rw [anyM_deep]
  by_cases h : 0 < deepB l 17
  · rw [decide_eq_true h, if_pos rfl]
    obtain ⟨d, hd⟩ : ∃ d, deepB l 17 = d + 1 := ⟨deepB l 17 - 1, by omega⟩
    have := nx_rnx l bit hbit total d 1 0 at_ (by omega) (by omega) (by omega) (by simp [first])
    rw [hd] at this ⊢
    exact this
  · rw [decide_eq_false h]
    have : deepB l 17 = 0 := by omega
    rw [this]; rfl
end Go.Proofs.YtmgbjgjlddifaaaGreat.Ref
set_option linter.unusedVariables false
set_option linter.unusedSimpArgs false
namespace Go.Proofs.YtmgbjgjlddifaaaGreat.RefT
open Go.RowKit K Pfx Ref

/-- the reference's table, cell by cell -/
def tabF (l : List Int) (nf : Nat) (vs : Nat → Value) (any : Bool) (j : Nat) : Value :=
  if j < 18 then .int .i64 (if 1 ≤ j ∧ j < nf then (first l j : Int) else 0)
  else if j < 36 then vs (j - 18) else .bool any
theorem tabF_lo {l : List Int} {nf : Nat} {vs : Nat → Value} {any : Bool} {j : Nat} (h : j < 18) : tabF l nf vs any j = .int .i64 (if 1 ≤ j ∧ j < nf then (first l j : Int) else 0) := by unfold tabF; rw [if_pos h]
theorem tabF_mid {l : List Int} {nf : Nat} {vs : Nat → Value} {any : Bool} {j : Nat} (h : ¬ j < 18) (h2 : j < 36) : tabF l nf vs any j = vs (j - 18) := by unfold tabF; rw [if_neg h, if_pos h2]
theorem tabF_hi {l : List Int} {nf : Nat} {vs : Nat → Value} {any : Bool} {j : Nat} (h : ¬ j < 36) : tabF l nf vs any j = .bool any := by unfold tabF; rw [if_neg (by omega), if_neg h]
def zF (j : Nat) : Value := if j < 18 then .int .i64 0 else if j < 36 then .slice none 0 0 else .bool false
def ofL (l : List Int) (m k j : Nat) : List Int := if j = 0 then [] else if j < m then idx l j l.length else if j = m then idx l m k else []
def anyU (l : List Int) (m k : Nat) : Bool := (List.range (m - 1)).any (fun j => decide (0 < cnt l (j+1) l.length)) || decide (0 < cnt l m k)
structure T1 (w wr : World) (l : List Int) (nf m k : Nat) (vs : Nat → Value) (any : Bool) : Prop where
  bel : Below w.heap.size w wr
  res : wr.rowIs w.heap.size 66 37 zF
  row : wr.rowIs (w.heap.size + 1) 66 37 (tabF l nf vs any)
  of : ∀ j, j < 18 → wr.ownsRow (w.heap.size + 2) 3 1 (vs j) (ofL l m k j).length ((ofL l m k j).map (.int .i64))
  dis : ∀ i j b, i < 18 → j < 18 → i ≠ j → (vs i).ownBlock = some b → (vs j).ownBlock ≠ some b
  any_ : any = anyU l m k
theorem zrow (w : World) : (w.alloc (.cells ((List.range 37).map zF).toArray 66)).rowIs w.heap.size 66 37 zF :=
  World.rowIs_alloc w _ _ _ (fun i hi => by
    simp only [List.size_toArray, List.length_map, List.length_range] at hi
    simp only [List.getElem?_toArray, List.getElem?_map, List.getElem?_range hi, Option.map_some])
theorem T1.start (w : World) (l : List Int) : T1 w ((w.alloc (.cells ((List.range 37).map zF).toArray 66)).alloc (.cells ((List.range 37).map zF).toArray 66)) l 1 1 0 (fun _ => .slice none 0 0) false := by
  refine ⟨((Below.refl _ _).alloc (Nat.le_refl _) _).alloc (by simp) _, (zrow w).alloc _, ?_, ?_, ?_, ?_⟩
  · have := zrow (w.alloc (.cells ((List.range 37).map zF).toArray 66))
    rw [World.size_alloc] at this
    refine this.congr (fun j hj => ?_)
    unfold zF tabF
    by_cases h1 : j < 18
    · rw [if_pos h1, if_pos h1, if_neg (by omega)]
    · rw [if_neg h1, if_neg h1]
  · intro j hj
    have e : ofL l 1 0 j = [] := by
      unfold ofL
      by_cases h0 : j = 0
      · rw [if_pos h0]
      · rw [if_neg h0, if_neg (by omega)]
        by_cases h1 : j = 1
        · rw [if_pos h1]; rfl
        · rw [if_neg h1]
    rw [e]
    exact World.ownsRow_nil _ _ _ _
  · intro i j b _ _ _ h
    simp [Value.ownBlock] at h
  · simp [anyU, cnt_zero]
theorem own_ne {w : World} {base e sz n : Nat} {v : Value} {xs : List Value} {r : Nat} (h : w.ownsRow base e sz v n xs) (hr : r < base) : v.ownBlock = none ∨ v.ownBlock ≠ some r := by
  by_cases e : v.ownBlock = none
  · exact .inl e
  · exact .inr (fun e2 => by have := (h.lt _ e2).1; omega)
theorem T1.begun {w wr : World} {l : List Int} {m : Nat} {vs : Nat → Value} {any : Bool} {u : Int} (h : T1 w wr l m m 0 vs any) (hm1 : 1 ≤ m) (hm : m ≤ 16) (hu : u = first l m) :
    T1 w (wr.setCell ⟨w.heap.size + 1, m, none⟩ (.int .i64 u)) l (m+1) m 0 vs any :=
  ⟨h.bel.setCell (by simp) _, h.res.setOther (by simp) _, (h.row.set m _).congr (fun j hj => by
    unfold tabF
    by_cases h1 : j < 18
    · rw [if_pos h1]
      by_cases h2 : j = m
      · subst h2; rw [if_pos rfl, if_pos h1, if_pos (by omega), hu]
      · rw [if_neg h2, if_pos h1]
        by_cases h3 : 1 ≤ j ∧ j < m
        · rw [if_pos h3, if_pos (by omega)]
        · rw [if_neg h3, if_neg (by omega)]
    · rw [if_neg (by omega), if_neg h1, if_neg h1]),
   fun j hj => (h.of j hj).kept (grown_set (World.grownBy.refl _ _) _ _) (own_ne (h.of j hj) (by omega)), h.dis, h.any_⟩
theorem T1.next {w wr : World} {l : List Int} {m : Nat} {vs : Nat → Value} {any : Bool} (h : T1 w wr l (m+1) m l.length vs any) (hm1 : 1 ≤ m) : T1 w wr l (m+1) (m+1) 0 vs any :=
  ⟨h.bel, h.res, h.row, fun j hj => by
    have e : ofL l (m+1) 0 j = ofL l m l.length j := by
      unfold ofL
      by_cases h0 : j = 0
      · rw [if_pos h0, if_pos h0]
      · rw [if_neg h0, if_neg h0]
        by_cases h1 : j < m
        · rw [if_pos h1, if_pos (by omega)]
        · rw [if_neg h1]
          by_cases h2 : j = m
          · rw [if_pos h2, if_pos (by omega), h2]
          · rw [if_neg h2, if_neg (by omega)]
            split <;> rfl
    rw [e]; exact h.of j hj, h.dis, by
    rw [h.any_]
    unfold anyU
    obtain ⟨q, rfl⟩ : ∃ q, m = q + 1 := ⟨m - 1, by omega⟩
    rw [cnt_zero, Nat.add_sub_cancel, Nat.add_sub_cancel, List.range_succ, List.any_append]
    simp⟩
theorem T1.skip {w wr : World} {l : List Int} {nf m k : Nat} {vs : Nat → Value} {any : Bool} {x : Int} (h : T1 w wr l nf m k vs any) (hx : l[k]? = some x) (hne : x ≠ m) : T1 w wr l nf m (k+1) vs any := by
  have e1 : cnt l m (k+1) = cnt l m k := by rw [cnt_succ m hx, if_neg hne]; rfl
  have e2 : idx l m (k+1) = idx l m k := by rw [idx_succ m hx, if_neg hne, List.append_nil]
  exact ⟨h.bel, h.res, h.row, fun j hj => by have := h.of j hj; unfold ofL at this ⊢; rw [e2]; exact this, h.dis, by rw [h.any_]; unfold anyU; rw [e1]⟩
theorem T1.step {w wr w1 : World} {l : List Int} {m k : Nat} {vs : Nat → Value} {any : Bool} {x : Int} {v' : Value} {o : Obj} (h : T1 w wr l (m+1) m k vs any) (hx : l[k]? = some x) (he : x = m) (hm1 : 1 ≤ m) (hm : m ≤ 16)
    (hg : (wr.alloc o).grownBy w1 (vs m).ownBlock) (hown : w1.ownsRow (w.heap.size + 2) 3 1 v' ((ofL l m k m).length + 1) ((ofL l m k m).map (.int .i64) ++ [.int .i64 k]))
    (hor : v'.ownBlock = (vs m).ownBlock ∨ v'.ownBlock = some (wr.alloc o).heap.size) :
    T1 w ((w1.setCell ⟨w.heap.size + 1, 18 + m, none⟩ v').setCell ⟨w.heap.size + 1, 36, none⟩ (.bool true)) l (m+1) m (k+1) (fun j => if j = m then v' else vs j) true := by
  have hsz := h.bel.size
  have hlt2 := h.row.lt
  have hne : ∀ q, (vs m).ownBlock = some q → w.heap.size + 2 ≤ q := fun q hq => ((h.of m (by omega)).lt q hq).1
  have hb1 : Below w.heap.size w w1 := (h.bel.alloc hsz _).grown hg (by simp; omega) (fun q hq => by have := hne q hq; omega)
  have hr0 := (h.res.alloc o).of_block (hg.block w.heap.size (by simp; omega) (fun e => by have := hne _ e.symm; omega))
  have hr1 := (h.row.alloc o).of_block (hg.block (w.heap.size + 1) (by simp; omega) (fun e => by have := hne _ e.symm; omega))
  have gg : w1.grownBy ((w1.setCell ⟨w.heap.size + 1, 18 + m, none⟩ v').setCell ⟨w.heap.size + 1, 36, none⟩ (.bool true)) (some (w.heap.size + 1)) := grown_set (grown_set (World.grownBy.refl _ _) _ _) _ _
  have e2 : idx l m (k+1) = idx l m k ++ [(k : Int)] := by rw [idx_succ m hx, if_pos he]
  have e1 : cnt l m (k+1) = cnt l m k + 1 := by rw [cnt_succ m hx, if_pos he]
  refine ⟨(hb1.setCell (by simp) _).setCell (by simp) _, (hr0.setOther (by simp) _).setOther (by simp) _, ((hr1.set (18 + m) v').set 36 _).congr (fun j hj => ?_), fun j hj => ?_, ?_, ?_⟩
  · by_cases h1 : j < 18
    · rw [if_neg (by omega), if_neg (by omega), tabF_lo h1, tabF_lo h1]
    · by_cases h2 : j < 36
      · rw [if_neg (by omega), tabF_mid h1 h2, tabF_mid h1 h2]
        by_cases h3 : j = 18 + m
        · rw [if_pos h3, if_pos (by omega)]
        · rw [if_neg h3, if_neg (by omega)]
      · rw [if_pos (by omega), tabF_hi h2]
  · by_cases hjm : j = m
    · subst hjm
      rw [if_pos rfl]
      have eo : ofL l j (k+1) j = ofL l j k j ++ [(k : Int)] := by
        unfold ofL; rw [if_neg (by omega), if_neg (by omega), if_pos rfl, if_neg (by omega), if_neg (by omega), if_pos rfl, e2]
      rw [eo, List.length_append, List.map_append]
      exact hown.kept gg (own_ne hown (by omega))
    · rw [if_neg hjm]
      have eo : ofL l m (k+1) j = ofL l m k j := by
        unfold ofL; rw [if_neg hjm, if_neg hjm]
      rw [eo]
      have h0 := (h.of j hj).alloc o
      have h1 : w1.ownsRow (w.heap.size + 2) 3 1 (vs j) (ofL l m k j).length ((ofL l m k j).map (.int .i64)) := h0.kept hg (by
        cases hb : (vs j).ownBlock with
        | none => exact .inl rfl
        | some b =>
          refine .inr (fun e => ?_)
          exact h.dis j m b hj (by omega) hjm hb (by rw [← e]))
      exact h1.kept gg (own_ne h1 (by omega))
  · have key : ∀ j b, j < 18 → j ≠ m → (vs j).ownBlock = some b → v'.ownBlock ≠ some b := fun j b hj hjm hb e => by
      rcases hor with q | q
      · rw [q] at e; exact h.dis j m b hj (by omega) hjm hb e
      · rw [q] at e; injection e with e
        have := ((h.of j hj).lt b hb).2
        simp at e; omega
    intro i j b hi hj hij hb
    by_cases him : i = m
    · rw [if_pos him] at hb
      rw [if_neg (by omega)]
      exact fun e => key j b hj (by omega) e hb
    · rw [if_neg him] at hb
      by_cases hjm : j = m
      · rw [if_pos hjm]; exact key i b hi him hb
      · rw [if_neg hjm]; exact h.dis i j b hi hj hij hb
  · unfold anyU; rw [e1]; simp

/-- a table of the lengths l, as a value; its lists lie from block lo on -/
structure Tab (lo : Nat) (w : World) (l : List Int) (c : Array Value) : Prop where
  size : c.size = 37
  short : l.length ≤ 4096
  cells : ∃ vs, (∀ i, i < 37 → c[i]? = some (tabF l 17 vs (anyM l) i)) ∧ ∀ j, 1 ≤ j → j ≤ 16 → ∃ A cap, vs j = .slice A (cnt l j l.length) cap ∧ SI w .i64 A (cnt l j l.length) (idx l j l.length) ∧ ∀ b off s, A = some ⟨b, off, s⟩ → lo ≤ b
theorem Tab.below {lo : Nat} {w w' : World} {l : List Int} {c : Array Value} {B : Nat} (h : Tab lo w l c) (hb : Below B w w') (hB : w.heap.size ≤ B) : Tab lo w' l c := by
  obtain ⟨vs, h1, h2⟩ := h.cells
  refine ⟨h.size, h.short, vs, h1, fun j j1 j2 => ?_⟩
  obtain ⟨A, cap, e, hs, hl⟩ := h2 j j1 j2
  exact ⟨A, cap, e, hs.below hb hB, hl⟩
theorem SI.grown {w w' : World} {k : IntKind} {A : Option Addr} {n : Nat} {l : List Int} {p : Nat} (h : SI w k A n l) (hg : w.grownBy w' (some p)) (hp : ∀ b off s, A = some ⟨b, off, s⟩ → b ≠ p) : SI w' k A n l :=
  ⟨h.len, h.sz, fun j u hu => by
    obtain ⟨b, off, rfl, hc⟩ := h.sl j u hu
    exact ⟨b, off, rfl, (World.cell?_of_block (a := ⟨b, off + j, none⟩) (hg.block b (World.block_lt_of_cell? w _ hc) (fun e => by injection e with e; exact hp b off none rfl e))).trans hc⟩⟩
theorem Tab.grown {lo : Nat} {w w' : World} {l : List Int} {c : Array Value} {p : Nat} (h : Tab lo w l c) (hg : w.grownBy w' (some p)) (hp : p < lo) : Tab lo w' l c := by
  obtain ⟨vs, h1, h2⟩ := h.cells
  refine ⟨h.size, h.short, vs, h1, fun j j1 j2 => ?_⟩
  obtain ⟨A, cap, e, hs, hl⟩ := h2 j j1 j2
  exact ⟨A, cap, e, SI.grown hs hg (fun b off s e => by have := hl b off s e; omega), hl⟩
theorem one_own {w : World} {base e sz n : Nat} {v : Value} {xs : List Value} (h : w.ownsRow base e sz v n xs) : v.oneCell' = true := by
  obtain ⟨A, c, rfl⟩ := own_form h; rfl
theorem T1.tab {w wr : World} {l : List Int} {vs : Nat → Value} {any : Bool} (h : T1 w wr l 17 17 0 vs any) (hs : l.length ≤ 4096) :
    ∃ c, wr.heap[w.heap.size + 1]? = some (.cells c 66 (0, 0)) ∧ c.size = 37 ∧ c.all (·.oneCell') = true ∧ (∃ old, wr.heap[w.heap.size]? = some (.cells old 66 (0, 0)) ∧ old.size = 37) ∧
      ∀ w', Below (w.heap.size) wr w' → (∀ b, w.heap.size + 2 ≤ b → b < wr.heap.size → w'.heap[b]? = wr.heap[b]?) → Tab w.heap.size w' l c := by
  obtain ⟨c, hc, hn, hf⟩ := h.row
  obtain ⟨old, ho, hon, -⟩ := h.res
  refine ⟨c, hc, hn, ?_, ⟨old, ho, hon⟩, fun w' hb hbl => ⟨hn, hs, vs, fun i hi => ?_, fun j j1 j2 => ?_⟩⟩
  · rw [Array.all_eq_true]
    intro i hi
    have := hf i (by omega)
    rw [Array.getElem?_eq_getElem hi] at this
    injection this with this
    rw [this]
    unfold tabF
    by_cases h1 : i < 18
    · rw [if_pos h1]; rfl
    · rw [if_neg h1]
      by_cases h2 : i < 36
      · rw [if_pos h2]; exact one_own (h.of (i - 18) (by omega))
      · rw [if_neg h2]; rfl
  · have e : any = anyM l := by
      rw [h.any_]; unfold anyU anyM; rw [cnt_zero]; simp
    rw [← e]; exact hf i hi
  · have ho := h.of j (by omega)
    have e : ofL l 17 0 j = idx l j l.length := by unfold ofL; rw [if_neg (by omega), if_pos (by omega)]
    rw [e, idx_len l j _ (Nat.le_refl _)] at ho
    obtain ⟨A, cap, hv⟩ := own_form ho
    have hcl := cnt_le l j l.length
    rw [hv] at ho
    have hsi : SI wr .i64 A (cnt l j l.length) (idx l j l.length) := SI.of_own ho (by show _ * 8 ≤ _; omega)
    refine ⟨A, cap, hv, ?_, fun b off s e => ?_⟩
    rotate_left
    · rcases ho.2 with ⟨e1, -⟩ | ⟨g, cp, cur, e1, hb1, -⟩
      · injection e1 with e1; rw [e1] at e; cases e
      · injection e1 with e1; rw [e1] at e; injection e with e; injection e with e; omega
    refine ⟨hsi.len, hsi.sz, fun i u hu => ?_⟩
    obtain ⟨b, off, rfl, hcc⟩ := hsi.sl i u hu
    have hlt := World.block_lt_of_cell? wr _ hcc
    have hge : w.heap.size + 2 ≤ b := by
      rcases ho.2 with ⟨e1, -⟩ | ⟨g, cp, cur, e1, hb1, -⟩
      · cases e1
      · injection e1 with e1; injection e1 with e1; injection e1 with e1; rw [e1]; exact hb1
    exact ⟨b, off, rfl, (World.cell?_of_block (a := ⟨b, off + i, none⟩) (hbl b hge hlt)).trans hcc⟩
def TabPost (w : World) (l : List Int) (e : Ending) (w' : World) : Prop := Below w.heap.size w w' ∧ ∃ c, e = .returned (.agg c) ∧ Tab w.heap.size w' l c ∧ c.all (·.oneCell') = true
theorem info57 : (Tryz.prog.info? 66).map (·.size) = some 37 := by kernel_rfl
theorem und57 : ∃ d, Tryz.prog.underlying 66 = some d ∧ (match d with | .struct _ | .array _ _ => true | _ => false) = true := ⟨_, Tryz.underlying66, rfl⟩

set_option maxRecDepth 20000 in
set_option maxHeartbeats 2000000 in
theorem tabled_any {A : Option Addr} {n c : Nat} {l : List Int} (w : World) (HA : SI w .i64 A n l) (hsh : n ≤ 4096) :
    Calls Tryz.prog 30 #[.slice A n c] w (TabPost w l) := by
  have hlen := Lib.hid HA.len
  have hn := hsh
  go_enter Tryz.func30, Tryz.ntmps30
  go_wp2
  have h0 := T1.start w l
  go_loopw [4, 5, 6] (fun nx m _ wr => ∃ (k : Nat) (u : Int) (vs : Nat → Value) (any : Bool), 1 ≤ k ∧ k ≤ 17 ∧ 0 ≤ u ∧ u ≤ 600000000 ∧ (k ≤ 16 → 2 * u = first l k) ∧ m = .int .i64 k ∧ nx = .int .i64 u ∧ T1 w wr l k k 0 vs any) (fun _ m _ _ => 17 - (intOf m).toNat)
  case atStart => exact ⟨1, 0, _, _, by omega, by omega, by omega, by omega, fun _ => rfl, rfl, rfl, h0⟩
  case round =>
    clear h0
    obtain ⟨m, u, vs, any, hm1, hm2, hu0, hu1, hu2, rfl, rfl, hT⟩ := hrel
    have HU := Lib.hid hu2
    clear hu2
    obtain ⟨wo, rfl⟩ : ∃ wo : World, wo = wr := ⟨_, rfl⟩
    by_cases hm : m ≤ 16
    · have cf := hT.row.cell (i := m) (by omega)
      have f1 := hT.row.frozen m
      generalize tabF l m vs any m = q1 at cf
      have hmd : decide ((m : Int) ≤ 16) = true := by simp; omega
      have hT2 := hT.begun hm1 hm (u := 2 * u) (HU.out hm)
      clear hT
      go_wp2
      go_loopw [6] (fun i wr => ∃ (k : Nat) (vs : Nat → Value) (any : Bool), k ≤ n ∧ i = .int .i64 k ∧ T1 w wr l (m+1) m k vs any) (fun i _ => n - (intOf i).toNat)
      case atStart => exact ⟨0, _, _, by omega, rfl, hT2⟩
      case round =>
        clear hT2 cf f1
        obtain ⟨k, vs, any, hk, rfl, hT⟩ := hrel
        by_cases hlt : k < n
        · obtain ⟨b, off, x, rfl, hc0, hx, hbl⟩ := HA.cells hlt
          have hc : wr.cell? ⟨b, off + k, none⟩ = some (.int .i64 x) := (hT.bel.cell (p := ⟨b, off+k, none⟩) hbl).trans hc0
          have hlt' : (k : Int) < n := by omega
          by_cases he : x = m
          · have he' : (x == (m : Int)) = true := by simp [he]
            have HE := Lib.hid he
            clear he
            have hom := hT.of m (by omega)
            have hcm := hT.row.cell (i := 18 + m) (by omega)
            have ecm : tabF l (m+1) vs any (18 + m) = vs m := by unfold tabF; rw [if_neg (by omega), if_pos (by omega), Nat.add_sub_cancel_left]
            rw [ecm] at hcm
            obtain ⟨A2, c2, hv2⟩ := own_form hom
            rw [hv2] at hom hcm
            have hql : (ofL l m k m).length ≤ 4096 := by
              unfold ofL; rw [if_neg (by omega), if_neg (by omega), if_pos rfl, idx_len l m k (by rw [hlen.out]; omega)]
              have := cnt_le l m k; omega
            have hsz := hT.bel.size
            have hlt2 := hT.row.lt
            have HV2 := Lib.hid hv2
            clear hv2 ecm
            generalize hQ : (ofL l m k m).length = q at *
            have HQ := Lib.hid hQ
            clear hQ
            go_wp2_with (at_builtin; refine wpList_append_sl _ rfl (.tmp 33) (.tmp 35) _ rfl (w.heap.size + 2) 3 1 8 _ Tryz.underlying43 infoInt rfl (by omega) (.slice A2 q c2) q _ rfl (hom.alloc _) _ 1 1 [.int .i64 k] rfl rfl (Sl.one wr _ _) ?c1 ?c2 ?c3 ?c4 ?_)
            case c1 => simp [Value.oneCell']
            case c2 => unfold maxLen; omega
            case c3 => omega
            case c4 => simp; omega
            intro v' w1 hown hg hor
            have hg' := hg
            rw [← HV2.out] at hg' hor
            have hne : ∀ z, (Value.slice A2 q c2).ownBlock = some z → w.heap.size + 2 ≤ z := fun z hz => (hom.lt z hz).1
            have hr1 := (hT.row.alloc (.cells #[.int .i64 k] 3)).of_block (hg.block (w.heap.size + 1) (by simp; omega) (fun e => by have := hne _ e.symm; omega))
            have hown2 : w1.ownsRow (w.heap.size + 2) 3 1 v' ((ofL l m k m).length + 1) ((ofL l m k m).map (.int .i64) ++ [.int .i64 k]) := by rw [HQ.out]; simpa using hown
            have hS := hT.step hx.out HE.out hm1 hm hg' hown2 (by rw [World.size_alloc]; exact hor)
            have d1 := hr1.cell (i := 18 + m) (by omega)
            have d2 := hr1.cell (i := 36) (by omega)
            have g1 := hr1.frozen (18 + m)
            have g2 := hr1.frozen 36
            generalize tabF l (m + 1) vs any (18 + m) = q51 at d1
            generalize tabF l (m + 1) vs any 36 = q52 at d2
            clear hg hg' hor hne hr1 hcm hom hown2
            obtain ⟨A3, c3, rfl⟩ := own_form hown
            clear hown
            go_wp2
            go_roundw
            case rel => exact ⟨k + 1, _, _, by omega, by go_num, hS⟩
            case measure => simp [intOf]; omega
          · have he' : (x == (m : Int)) = false := by simp [he]
            have hS := hT.skip hx.out he
            clear he
            go_wp2
            go_roundw
            case rel => exact ⟨k + 1, _, _, by omega, by go_num, hS⟩
            case measure => simp [intOf]; omega
        · obtain rfl : k = n := by omega
          have hf := Lib.hid (first_succ l m hm1)
          have hT3 : T1 w wr l (m+1) (m+1) 0 vs any := by
            refine T1.next ?_ hm1
            rw [hlen.out]; exact hT
          have hom := hT.of m (by omega)
          have hcm := hT.row.cell (i := 18 + m) (by omega)
          have ecm : tabF l (m+1) vs any (18 + m) = vs m := by unfold tabF; rw [if_neg (by omega), if_pos (by omega), Nat.add_sub_cancel_left]
          rw [ecm] at hcm
          obtain ⟨A2, c2, hv2⟩ := own_form hom
          have eq : (ofL l m k m).length = cnt l m k := by
            unfold ofL; rw [if_neg (by omega), if_neg (by omega), if_pos rfl, idx_len l m k (by rw [hlen.out]; omega)]
          rw [hv2, eq] at hcm
          have hcl := cnt_le l m k
          have hfl := first_le l m (by omega) (by rw [hlen.out]; exact hn)
          have hu3 := HU.out hm
          have HU3 := Lib.hid hu3
          have hu4 : u ≤ 268435456 := by omega
          clear hu3 ecm hv2 eq hom hT
          go_wp2
          go_roundw
          case rel => exact ⟨m + 1, 2 * u + cnt l m k, _, _, by omega, by omega, by omega, by omega, fun _ => by have := HU3.out; rw [hf.out, hlen.out]; omega, by go_num, rfl, hT3⟩
          case measure => simp [intOf]; omega
    · obtain rfl : m = 17 := by omega
      obtain ⟨c, hc, hcs, hc1, ⟨old, hold, holds⟩, hend⟩ := hT.tab (by rw [hlen.out]; exact hn)
      have hi : (Tryz.prog.info? 66).map (·.size) = some c.size := by rw [hcs]; exact info57
      have HI := Lib.hid hi
      have HO := Lib.hid (show old.size = c.size by rw [hcs, holds])
      have HC := Lib.hid hc
      have HOL := Lib.hid hold
      have HC1 := Lib.hid hc1
      have hbel := Lib.hid hT.bel
      have hsz := hT.bel.size
      have hlt2 := hT.row.lt
      have HE := Lib.hid hend
      clear hi hc hold hc1 hcs holds hend hT
      go_wp2_with (first
        | (refine wpList_load_row rfl 66 (.tmp 3) rfl (w.heap.size + 1) rfl 66 c (0, 0) _ HC.out Tryz.underlying66 rfl HI.out ?_)
        | (refine wpList_store_row rfl 66 (.tmp 2) (.tmp 47) rfl w.heap.size c rfl rfl 66 old HOL.out HI.out HO.out HC1.out ?_))
      refine bodyPost_ret (results_cell_row rfl _ _ w.heap.size 66 c (0, 0) _ rfl (setRow_heap _ _ _ _ _ _ HOL.out) Tryz.underlying66 rfl HI.out) rfl ?_
      refine ⟨below_setRow hbel.out (Nat.le_refl _) _, c, rfl, HE.out _ (below_setRow (Below.refl _ _) (Nat.le_refl _) _) (fun b hb _ => setRow_other _ _ _ _ (by omega)), HC1.out⟩
end Go.Proofs.YtmgbjgjlddifaaaGreat.RefT
