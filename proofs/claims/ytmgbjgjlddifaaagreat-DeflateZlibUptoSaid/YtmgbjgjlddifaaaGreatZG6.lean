/-
  Texts of this claim, joined by program (BakM, InfA, DefM, DefN, InfB). What is written by the codes is read as the symbols: plain Lean, no program in sight.
-/
import Derived.Test.YtmgbjgjlddifaaaGreatZG2
import Derived.Test.YtmgbjgjlddifaaaGreatZG1
import Derived.Test.YtmgbjgjlddifaaaGreatZG5
set_option linter.unusedVariables false
set_option linter.unusedSimpArgs false
namespace Go.Proofs.YtmgbjgjlddifaaaGreat.Bak
open Go.RowKit K Pfx Ref

/-- the numbers of m bits that the codes of at most m bits take -/
def taken (m : Nat) (l : List Int) : Int := (l.map (fun x => if 1 ≤ x ∧ x ≤ (m : Int) then (2 : Int) ^ ((m : Int) - x).toNat else 0)).sum
theorem taken_succ (m : Nat) (l : List Int) : taken (m + 1) l = 2 * taken m l + (l.count ((m + 1 : Nat) : Int) : Nat) := by
  unfold taken
  induction l with
  | nil => rfl
  | cons x l ih =>
    rw [List.map_cons, List.map_cons, List.sum_cons, List.sum_cons, ih, List.count_cons]
    by_cases e : x = ((m + 1 : Nat) : Int)
    · have e2 : (x == ((m + 1 : Nat) : Int)) = true := by simp [e]
      rw [e2, if_pos (by omega), if_neg (by omega), if_pos rfl, show (((m + 1 : Nat) : Int) - x).toNat = 0 by omega]
      push_cast; omega
    · have e2 : (x == ((m + 1 : Nat) : Int)) = false := by simpa using e
      rw [e2]
      by_cases h : 1 ≤ x ∧ x ≤ (m : Int)
      · rw [if_pos (by omega), if_pos h, if_neg (by simp), show (((m + 1 : Nat) : Int) - x).toNat = ((m : Int) - x).toNat + 1 by omega, Int.pow_succ]
        push_cast; omega
      · rw [if_neg (by omega), if_neg h, if_neg (by simp)]
        push_cast; omega
theorem first_taken (l : List Int) (m : Nat) : (first l (m + 1) : Int) + cnt l (m + 1) l.length = taken (m + 1) l := by
  induction m with
  | zero =>
    rw [taken_succ]
    have : taken 0 l = 0 := by
      unfold taken
      induction l with
      | nil => rfl
      | cons x l ih => rw [List.map_cons, List.sum_cons, ih, if_neg (by omega)]; rfl
    rw [this]
    simp [first, cnt]
  | succ m ih =>
    rw [taken_succ, ← ih, first_succ l (m + 1) (by omega)]
    unfold cnt
    rw [List.take_length]
    push_cast; omega
theorem cost_taken {l : List Int} (h : l.any badLen = false) : (l.map cost).sum = taken 16 l := by
  unfold taken
  congr 1
  refine List.map_congr_left fun x hx => ?_
  have := bad_of (by simpa using List.any_eq_false.1 h x hx)
  unfold cost
  by_cases h0 : 0 < x
  · rw [if_pos h0, if_pos (by omega)]; rfl
  · rw [if_neg h0, if_neg (by omega)]
theorem kraft {l : List Int} (h : checkedOf l = 0) {m : Nat} (m1 : 1 ≤ m) (m2 : m ≤ 16) : (first l m : Int) + cnt l m l.length ≤ 2 ^ m := by
  obtain ⟨-, hb, hr⟩ := checked_zero h
  unfold roomAt at hr
  rw [List.take_length, cost_taken hb] at hr
  have h16 := first_taken l 15
  rw [show 15 + 1 = 16 from rfl] at h16
  by_cases e : m = 16
  · subst e
    have : (2 : Int) ^ 16 = 65536 := by decide
    omega
  · obtain ⟨d, hd⟩ : ∃ d, 16 = m + d + 1 := ⟨15 - m, by omega⟩
    have hg := first_ge l m m1 d
    rw [← hd] at hg
    have hp : (0 : Int) < 2 ^ (d + 1) := Int.pow_pos (by omega)
    have e2 : (2 : Int) ^ m * 2 ^ (d + 1) = 65536 := by rw [← Int.pow_add, show m + (d + 1) = 16 by omega]; decide
    have : ((first l m : Int) + cnt l m l.length) * 2 ^ (d + 1) ≤ 2 ^ m * 2 ^ (d + 1) := by rw [e2]; omega
    exact Int.le_of_mul_le_mul_right this hp
theorem code_of {l : List Int} {i : Nat} {x : Int} (hl : l.length ≤ 4096) (hx : l[i]? = some x) (h0 : 0 < x) (h1 : x ≤ 16) : codeAt l i = (first l x.toNat : Int) + cnt l x.toNat i := by
  have hf := first_le l x.toNat (by omega) hl
  have hi : i < l.length := by
    rcases Nat.lt_or_ge i l.length with h | h
    · exact h
    · rw [List.getElem?_eq_none h] at hx; cases hx
  have hc := cnt_le l x.toNat i
  unfold codeAt
  rw [getD_of hx]
  simp only []
  rw [if_pos h0]
  rw [Int.emod_eq_of_lt (by omega) (by omega)]; push_cast; rfl
theorem idx_ext (l : List Int) (m a : Nat) : ∀ k, a + k ≤ l.length → ∃ r, idx l m (a + k) = idx l m a ++ r := by
  intro k
  induction k with
  | zero => intro _; exact ⟨[], by simp⟩
  | succ k ih =>
    intro h
    obtain ⟨r, hr⟩ := ih (by omega)
    have hx : l[a + k]? = some l[a + k] := List.getElem?_eq_getElem (by omega)
    exact ⟨r ++ _, by rw [← Nat.add_assoc, idx_succ m hx, hr, List.append_assoc]⟩
theorem idx_get {l : List Int} {m s : Nat} {x : Int} (hx : l[s]? = some x) (he : x = m) : (idx l m l.length).getD (cnt l m s) 0 = s := by
  have hs : s < l.length := by
    rcases Nat.lt_or_ge s l.length with h | h
    · exact h
    · rw [List.getElem?_eq_none h] at hx; cases hx
  obtain ⟨r, hr⟩ := idx_ext l m (s + 1) (l.length - (s + 1)) (by omega)
  rw [show s + 1 + (l.length - (s + 1)) = l.length by omega, idx_succ m hx, if_pos he] at hr
  rw [hr, List.getD_eq_getElem?_getD, List.append_assoc, List.getElem?_append_right (by rw [idx_len l m s (by omega)]; exact Nat.le_refl _), idx_len l m s (by omega), Nat.sub_self]
  rfl
theorem cnt_lt {l : List Int} {m s : Nat} {x : Int} (hx : l[s]? = some x) (he : x = m) : cnt l m s + 1 ≤ cnt l m l.length := by
  have hs : s < l.length := by
    rcases Nat.lt_or_ge s l.length with h | h
    · exact h
    · rw [List.getElem?_eq_none h] at hx; cases hx
  have := cnt_succ m hx
  rw [if_pos he] at this
  rw [← this]
  unfold cnt
  exact List.Sublist.count_le _ (List.take_sublist_take_left (by omega))
/-- the bits of a symbol's code -/
def codeBits (l : List Int) (s : Nat) : List Int := (List.range (l.getD s 0).toNat).map (fun j => codeAt l s / 2 ^ ((l.getD s 0).toNat - 1 - j) % 2)
theorem codeBits_len (l : List Int) (s : Nat) : (codeBits l s).length = (l.getD s 0).toNat := by simp [codeBits]
theorem walk {l : List Int} (hc : checkedOf l = 0) {s L : Nat} (hs : l[s]? = some (L : Int)) (h1 : 1 ≤ L) (h2 : L ≤ 16) (bit : Nat → Int) (total at_ : Nat) (hb : ∀ j, j < L → bit (at_ + j) = codeAt l s / 2 ^ (L - 1 - j) % 2) (ht : at_ + L ≤ total) :
    ∀ k n, n + k = L → 1 ≤ n → rnx l bit total (17 - n) n (codeAt l s / 2 ^ (k + 1)) (at_ + (n - 1)) = ((s : Int), 0, at_ + L) := by
  have hshort := (checked_zero hc).1
  have hcode := code_of hshort hs (by omega) (by omega)
  rw [show ((L : Int)).toNat = L by omega] at hcode
  have hlt := cnt_lt (m := L) hs rfl
  intro k
  induction k with
  | zero =>
    intro n hn n1
    obtain rfl : n = L := by omega
    obtain ⟨g, hg⟩ : ∃ g, 17 - n = g + 1 := ⟨16 - n, by omega⟩
    rw [hg, rnx, if_neg (by omega)]
    have hbit := hb (n - 1) (by omega)
    rw [show n - 1 - (n - 1) = 0 by omega, Int.pow_zero, Int.ediv_one] at hbit
    have hv : 2 * (codeAt l s / 2 ^ (0 + 1)) + bit (at_ + (n - 1)) = codeAt l s := by
      rw [hbit, Int.pow_succ, Int.pow_zero]; omega
    simp only []
    rw [hv, if_pos (by rw [hcode]; omega), hcode]
    rw [show ((first l n : Int) + (cnt l n s : Nat) - (first l n : Int)).toNat = cnt l n s by omega, idx_get hs rfl]
    simp only [Prod.mk.injEq, true_and]
    omega
  | succ k ih =>
    intro n hn n1
    obtain ⟨g, hg⟩ : ∃ g, 17 - n = g + 1 := ⟨16 - n, by omega⟩
    rw [hg, rnx, if_neg (by omega)]
    have hbit := hb (n - 1) (by omega)
    rw [show L - 1 - (n - 1) = k + 1 by omega] at hbit
    have hp : (0 : Int) < 2 ^ (k + 1) := Int.pow_pos (by omega)
    have hv : 2 * (codeAt l s / 2 ^ (k + 1 + 1)) + bit (at_ + (n - 1)) = codeAt l s / 2 ^ (k + 1) := by
      rw [hbit, Int.pow_succ 2 (k + 1), ← Int.ediv_ediv_of_nonneg (by omega)]
      omega
    simp only []
    rw [hv]
    have hge : (first l n : Int) + cnt l n l.length ≤ codeAt l s / 2 ^ (k + 1) := by
      have := first_ge l n n1 k
      rw [show n + k + 1 = L by omega] at this
      rw [Int.le_ediv_iff_mul_le hp]
      omega
    rw [if_neg (by omega)]
    have hm : moreM l (codeAt l s / 2 ^ (k + 1)) n = true := by
      rw [moreM_iff]
      refine ⟨L, by omega, h2, ?_⟩
      have e : L - n = k + 1 := by omega
      have hd := Int.mul_ediv_add_emod (codeAt l s) (2 ^ (k + 1))
      have hm0 := Int.emod_nonneg (codeAt l s) (b := 2 ^ (k + 1)) (by omega)
      have hm1 := Int.emod_lt_of_pos (codeAt l s) hp
      rw [Int.mul_comm] at hd
      simp only [moreK, Bool.and_eq_true, decide_eq_true_eq, e]
      generalize codeAt l s / 2 ^ (k + 1) * 2 ^ (k + 1) = q at *
      generalize codeAt l s % 2 ^ (k + 1) = r at *
      generalize (2 : Int) ^ (k + 1) = P at *
      omega
    rw [if_neg (by rw [hm]; simp)]
    have := ih (n + 1) (by omega) (by omega)
    rw [show 17 - (n + 1) = g by omega, show at_ + (n + 1 - 1) = at_ + (n - 1) + 1 by omega] at this
    exact this
/-- a code's bits are read as its symbol -/
theorem decode {l : List Int} (hc : checkedOf l = 0) {s : Nat} {x : Int} (hs : l[s]? = some x) (h0 : x ≠ 0) (bit : Nat → Int) (hbit : ∀ i, 0 ≤ bit i) (total at_ : Nat)
    (hb : ∀ j, j < x.toNat → bit (at_ + j) = (codeBits l s).getD j 0) (ht : at_ + x.toNat ≤ total) : nextM l bit total at_ = ((s : Int), 0, at_ + x.toNat) := by
  obtain ⟨hshort, hbad, -⟩ := checked_zero hc
  have hx := len_of hbad hs
  obtain ⟨L, rfl⟩ : ∃ L : Nat, x = L := ⟨x.toNat, by omega⟩
  have hcode := code_of hshort hs (by omega) (by omega)
  simp only [Int.toNat_natCast] at *
  have hlt := cnt_lt (m := L) hs rfl
  have hk := kraft hc (m := L) (by omega) (by omega)
  rw [next_eq l bit hbit]
  have hany : anyM l = true := by
    unfold anyM
    rw [List.any_eq_true]
    exact ⟨L - 1, by rw [List.mem_range]; omega, by rw [show L - 1 + 1 = L by omega]; simp; omega⟩
  unfold rnextM
  rw [hany, if_pos rfl]
  have hz : codeAt l s / 2 ^ (L - 1 + 1) = 0 := by
    rw [show L - 1 + 1 = L by omega, hcode]
    exact Int.ediv_eq_zero_of_lt (by omega) (by omega)
  have := walk hc hs (by omega) (by omega) bit total at_ (fun j hj => by
    rw [hb j hj]; unfold codeBits
    rw [getD_of hs, List.getD_eq_getElem?_getD, List.getElem?_map, List.getElem?_range (by simpa using hj)]
    simp) ht (L - 1) 1 (by omega) (by omega)
  rw [hz] at this
  simpa using this
end Go.Proofs.YtmgbjgjlddifaaaGreat.Bak
set_option linter.unusedVariables false
set_option linter.unusedSimpArgs false
namespace Go.Proofs.YtmgbjgjlddifaaaGreat.Inf
open Go.RowKit K Bits Pfx RefR RefT RefX Ref

theorem heap_two (w : World) (cs : Array Value) (t : TypeId) (o : Obj) : ((w.alloc (.cells cs t)).alloc o).heap[w.heap.size]? = some (.cells cs t (0, 0)) := (Below.heap_alloc _ _ _ (by simp)).trans (heap_alloc_new _ _)
theorem cells6 {w : World} {q T : Nat} {x0 x1 x2 x3 x4 x5 : Value} (h : w.heap[q]? = some (.cells #[x0, x1, x2, x3, x4, x5] T (0, 0))) :
    (w.cell? ⟨q, 0, none⟩ = some x0 ∧ w.cell? ⟨q, 1, none⟩ = some x1 ∧ w.cell? ⟨q, 2, none⟩ = some x2 ∧ w.cell? ⟨q, 3, none⟩ = some x3 ∧ w.cell? ⟨q, 4, none⟩ = some x4 ∧ w.cell? ⟨q, 5, none⟩ = some x5) ∧
    (w.frozen? ⟨q, 0, none⟩ = false ∧ w.frozen? ⟨q, 1, none⟩ = false ∧ w.frozen? ⟨q, 2, none⟩ = false ∧ w.frozen? ⟨q, 3, none⟩ = false ∧ w.frozen? ⟨q, 4, none⟩ = false ∧ w.frozen? ⟨q, 5, none⟩ = false) := by
  simp [World.cell?, World.frozen?, h]
/-- a row of six cells -/
def Six (w : World) (q T : Nat) (x0 x1 x2 x3 x4 x5 : Value) : Prop := w.heap[q]? = some (.cells #[x0, x1, x2, x3, x4, x5] T (0, 0))
def six (x0 x1 x2 x3 x4 x5 : Value) : Nat → Value
  | 0 => x0
  | 1 => x1
  | 2 => x2
  | 3 => x3
  | 4 => x4
  | _ => x5
theorem Six.row {w : World} {q T : Nat} {x0 x1 x2 x3 x4 x5 : Value} (h : Six w q T x0 x1 x2 x3 x4 x5) : w.rowIs q T 6 (six x0 x1 x2 x3 x4 x5) :=
  ⟨_, h, rfl, fun i hi => by
    have : i = 0 ∨ i = 1 ∨ i = 2 ∨ i = 3 ∨ i = 4 ∨ i = 5 := by omega
    rcases this with rfl | rfl | rfl | rfl | rfl | rfl <;> rfl⟩
theorem Six.of_row {w : World} {q T : Nat} {f : Nat → Value} (h : w.rowIs q T 6 f) : Six w q T (f 0) (f 1) (f 2) (f 3) (f 4) (f 5) := by
  obtain ⟨c, h1, h2, h3⟩ := h
  have e : c = #[f 0, f 1, f 2, f 3, f 4, f 5] := by
    apply Array.ext'
    apply List.ext_getElem?
    intro i
    by_cases hi : i < 6
    · have h4 := h3 i hi
      rw [Array.getElem?_toList, h4]
      have : i = 0 ∨ i = 1 ∨ i = 2 ∨ i = 3 ∨ i = 4 ∨ i = 5 := by omega
      rcases this with rfl | rfl | rfl | rfl | rfl | rfl <;> rfl
    · rw [List.getElem?_eq_none (by simp; omega), List.getElem?_eq_none (by simp; omega)]
  show w.heap[q]? = _
  rw [h1, e]
theorem set_grown (W : World) (q i : Nat) (v : Value) : W.grownBy (W.setCell ⟨q, i, none⟩ v) (some q) := grown_set (World.grownBy.refl _ _) i v
theorem Six.three {w : World} {q T : Nat} {x0 x1 x2 x3 x4 x5 : Value} (h : Six w q T x0 x1 x2 x3 x4 x5) (y0 y1 y2 : Value) :
    ∃ W, W = (((w.setCell ⟨q, 0, none⟩ y0).setCell ⟨q, 1, none⟩ y1).setCell ⟨q, 2, none⟩ y2) ∧ Six W q T y0 y1 y2 x3 x4 x5 ∧ w.grownBy W (some q) :=
  ⟨_, rfl, Six.of_row (((h.row.set 0 y0).set 1 y1).set 2 y2), ((set_grown _ _ _ _).trans (set_grown _ _ _ _)).trans (set_grown _ _ _ _)⟩
theorem Six.all {w : World} {q T : Nat} {x0 x1 x2 x3 x4 x5 : Value} (h : Six w q T x0 x1 x2 x3 x4 x5) (y0 y1 y2 y3 y4 y5 : Value) :
    ∃ W, W = ((((((w.setCell ⟨q, 0, none⟩ y0).setCell ⟨q, 1, none⟩ y1).setCell ⟨q, 2, none⟩ y2).setCell ⟨q, 3, none⟩ y3).setCell ⟨q, 4, none⟩ y4).setCell ⟨q, 5, none⟩ y5) ∧ Six W q T y0 y1 y2 y3 y4 y5 ∧ w.grownBy W (some q) :=
  ⟨_, rfl, Six.of_row ((((((h.row.set 0 y0).set 1 y1).set 2 y2).set 3 y3).set 4 y4).set 5 y5), ((((((set_grown _ _ _ _).trans (set_grown _ _ _ _)).trans (set_grown _ _ _ _)).trans (set_grown _ _ _ _)).trans (set_grown _ _ _ _)).trans (set_grown _ _ _ _))⟩
theorem Six.block {w w' : World} {q T : Nat} {x0 x1 x2 x3 x4 x5 : Value} (h : Six w q T x0 x1 x2 x3 x4 x5) (hb : w'.heap[q]? = w.heap[q]?) : Six w' q T x0 x1 x2 x3 x4 x5 := hb.trans h
theorem Six.lt {w : World} {q T : Nat} {x0 x1 x2 x3 x4 x5 : Value} (h : Six w q T x0 x1 x2 x3 x4 x5) : q < w.heap.size := (Array.getElem?_eq_some_iff.1 h).1
/-- a state's cells: the reader (low bits first), what was written, the most, the error -/
def stV (A : Option Addr) (n c : Nat) (a : Int) (Ao : Option Addr) (no co : Nat) (most e : Int) : Array Value := #[.slice A n c, .bool false, .int .i64 a, .slice Ao no co, .int .i64 most, .int .i64 e]
def TakeP (w : World) (A : Option Addr) (l : List Int) (c a k : Nat) (Ao : Option Addr) (no co : Nat) (most : Int) (e : Ending) (w' : World) : Prop :=
  e = .returned (.tuple #[.agg (stV A l.length c ((a : Int) + k) Ao no co most 0), .int .i64 (takeV l false a k)]) ∧ Below w.heap.size w w'
set_option maxRecDepth 20000 in
set_option maxHeartbeats 2000000 in
theorem itake_any {A : Option Addr} {c a k : Nat} {l : List Int} {Ao : Option Addr} {no co : Nat} {most : Int} (w : World) (HA : SI w .u8 A l.length l) (hwf : ∀ x ∈ l, 0 ≤ x ∧ x < 256) (hk : k ≤ 32) (hl : a + k ≤ 8 * l.length) :
    Calls Tryz.prog 26 #[.agg (stV A l.length c a Ao no co most 0), .int .i64 k] w (TakeP w A l c a k Ao no co most) := by
  have HAA := Lib.hid HA
  have HWF := Lib.hid hwf
  have hbig := HA.bigb
  clear HA hwf
  unfold stV
  go_enter Tryz.func26, Tryz.ntmps26
  go_wp2_with fail
  refine (rtake_any (up := false) (at_ := a) _ ((HAA.out.alloc _).alloc _) HWF.out k hk hl).mono ?_
  rintro e w1 ⟨rfl, hb1⟩
  have htv := takeV_bd l false a k
  have hpw := pow_le32 hk
  have hz : w.heap.size + 2 ≤ w1.heap.size := by have := hb1.size; simp at this; exact this
  have k0 : w1.heap[w.heap.size]? = some (.cells #[.slice A l.length c, .bool false, .int .i64 a, .slice Ao no co, .int .i64 most, .int .i64 0] 58 (0, 0)) := by
    rw [hb1.block _ (by simp; omega)]; exact heap_two w _ _ _
  have k1 : w1.heap[w.heap.size + 1]? = some (.cells #[.slice none 0 0, .bool false, .int .i64 0, .slice none 0 0, .int .i64 0, .int .i64 0] 58 (0, 0)) := by
    rw [hb1.block _ (by simp)]
    have := heap_alloc_new (w.alloc (.cells #[.slice A l.length c, .bool false, .int .i64 a, .slice Ao no co, .int .i64 most, .int .i64 0] 58)) (.cells #[.slice none 0 0, .bool false, .int .i64 0, .slice none 0 0, .int .i64 0, .int .i64 0] 58)
    rwa [World.size_alloc] at this
  have HB1 : Hid (Below w.heap.size w w1) := (((Below.refl w.heap.size w).alloc (Nat.le_refl _) _).alloc (by simp) _).trans (hb1.mono (by simp; omega))
  clear hb1
  obtain ⟨⟨a0, a1, a2, a3, a4, a5⟩, f0, f1, f2, f3, f4, f5⟩ := cells6 k0
  obtain ⟨⟨b0, b1, b2, b3, b4, b5⟩, g0, g1, g2, g3, g4, g5⟩ := cells6 k1
  have HK0 := Lib.hid k0
  have HK1 := Lib.hid k1
  clear k0 k1
  have hz0 : w.heap.size < w1.heap.size := by omega
  have hz1 : w.heap.size + 1 < w1.heap.size := by omega
  go_wp2_with fail
  obtain ⟨W2, hW2, hs2, hg2⟩ := Six.three HK0.out (.slice A l.length c) (.bool false) (.int .i64 ((a : Int) + (k : Int)))
  rw [← hW2]
  have hk1 : Six W2 (w.heap.size + 1) 58 (.slice none 0 0) (.bool false) (.int .i64 0) (.slice none 0 0) (.int .i64 0) (.int .i64 0) := Six.block HK1.out (hg2.block _ hz1 (by simp))
  obtain ⟨W3, hW3, hs3, hg3⟩ := hk1.all (.slice A l.length c) (.bool false) (.int .i64 ((a : Int) + (k : Int))) (.slice Ao no co) (.int .i64 most) (.int .i64 0)
  rw [← hW3]
  have hb : Below w.heap.size w W3 := (HB1.out.grown hg2 (by omega) (fun b e => by injection e with e; omega)).grown hg3 (by have := hg2.size; omega) (fun b e => by injection e with e; omega)
  obtain ⟨⟨e0, e1, e2, e3, e4, e5⟩, -⟩ := cells6 hs3
  have hl3 := hs3.lt
  refine bodyPost_ret (v := .tuple #[.agg (stV A l.length c ((a : Int) + k) Ao no co most 0), .int .i64 (takeV l false a k)]) ?_ rfl ⟨rfl, hb.alloc (by have := hb.size; omega) _⟩
  simp [results, Tryz.results26, go_sem, e0, e1, e2, e3, e4, e5, hl3, stV]
def NextP (w : World) (A : Option Addr) (n c : Nat) (Ao : Option Addr) (no co : Nat) (most : Int) (a s : Nat) (e : Ending) (w' : World) : Prop :=
  e = .returned (.tuple #[.agg (stV A n c a Ao no co most 0), .int .i64 s]) ∧ Below w.heap.size w w'
set_option maxRecDepth 20000 in
set_option maxHeartbeats 2000000 in
theorem inext_any {lo : Nat} {tl l : List Int} {tc : Array Value} {A Ao : Option Addr} {c a a' s no co : Nat} {most : Int} (w : World) (HT : Tab lo w tl tc) (HA : SI w .u8 A l.length l) (hwf : ∀ x ∈ l, 0 ≤ x ∧ x < 256) (ha : a ≤ 8 * l.length)
    (hr : rnextM tl (bitAt l false) (8 * l.length) a = ((s : Int), 0, a')) :
    Calls Tryz.prog 60 #[.agg (stV A l.length c a Ao no co most 0), .agg tc] w (NextP w A l.length c Ao no co most a' s) := by
  have HAA := Lib.hid HA
  have HWF := Lib.hid hwf
  have HTT := Lib.hid HT
  have HRR := Lib.hid hr
  have hbig := HA.bigb
  have HI : Hid ((Tryz.prog.info? 66).map (·.size) = some tc.size) := by show _ = _; rw [HT.size]; exact info57
  clear HA hwf HT hr
  unfold stV
  go_enter Tryz.func60, Tryz.ntmps60
  have HB1 : Hid ((((w.alloc (.cells #[.slice A l.length c, .bool false, .int .i64 a, .slice Ao no co, .int .i64 most, .int .i64 0] 58)).alloc (.cells tc 66)).alloc (.cells #[.slice none 0 0, .bool false, .int .i64 0, .slice none 0 0, .int .i64 0, .int .i64 0] 58)).heap[w.heap.size + 1]? = some (.cells tc 66 (0, 0))) := by
    show _ = _
    have := heap_two (w.alloc (.cells #[.slice A l.length c, .bool false, .int .i64 a, .slice Ao no co, .int .i64 most, .int .i64 0] 58)) tc 66 (.cells #[.slice none 0 0, .bool false, .int .i64 0, .slice none 0 0, .int .i64 0, .int .i64 0] 58)
    rwa [World.size_alloc] at this
  go_wp2_with (refine wpList_load_row rfl 66 (.tmp 3) rfl (w.heap.size + 1) rfl 66 tc (0, 0) _ HB1.out Tryz.underlying66 rfl HI.out ?_)
  have HB0 : Hid (Below w.heap.size w (((w.alloc (.cells #[.slice A l.length c, .bool false, .int .i64 a, .slice Ao no co, .int .i64 most, .int .i64 0] 58)).alloc (.cells tc 66)).alloc (.cells #[.slice none 0 0, .bool false, .int .i64 0, .slice none 0 0, .int .i64 0, .int .i64 0] 58))) :=
    (((Below.refl _ _).alloc (Nat.le_refl _) _).alloc (by simp) _).alloc (by simp; omega) _
  have k0 : (((w.alloc (.cells #[.slice A l.length c, .bool false, .int .i64 a, .slice Ao no co, .int .i64 most, .int .i64 0] 58)).alloc (.cells tc 66)).alloc (.cells #[.slice none 0 0, .bool false, .int .i64 0, .slice none 0 0, .int .i64 0, .int .i64 0] 58)).heap[w.heap.size]? = some (.cells #[.slice A l.length c, .bool false, .int .i64 a, .slice Ao no co, .int .i64 most, .int .i64 0] 58 (0, 0)) :=
    (Below.heap_alloc _ _ _ (by simp; omega)).trans (heap_two w _ _ _)
  have k2 : (((w.alloc (.cells #[.slice A l.length c, .bool false, .int .i64 a, .slice Ao no co, .int .i64 most, .int .i64 0] 58)).alloc (.cells tc 66)).alloc (.cells #[.slice none 0 0, .bool false, .int .i64 0, .slice none 0 0, .int .i64 0, .int .i64 0] 58)).heap[w.heap.size + 1 + 1]? = some (.cells #[.slice none 0 0, .bool false, .int .i64 0, .slice none 0 0, .int .i64 0, .int .i64 0] 58 (0, 0)) := by
    have := heap_alloc_new ((w.alloc (.cells #[.slice A l.length c, .bool false, .int .i64 a, .slice Ao no co, .int .i64 most, .int .i64 0] 58)).alloc (.cells tc 66)) (.cells #[.slice none 0 0, .bool false, .int .i64 0, .slice none 0 0, .int .i64 0, .int .i64 0] 58)
    rwa [World.size_alloc, World.size_alloc] at this
  have hz : (((w.alloc (.cells #[.slice A l.length c, .bool false, .int .i64 a, .slice Ao no co, .int .i64 most, .int .i64 0] 58)).alloc (.cells tc 66)).alloc (.cells #[.slice none 0 0, .bool false, .int .i64 0, .slice none 0 0, .int .i64 0, .int .i64 0] 58)).heap.size = w.heap.size + 3 := by simp
  generalize (((w.alloc (.cells #[.slice A l.length c, .bool false, .int .i64 a, .slice Ao no co, .int .i64 most, .int .i64 0] 58)).alloc (.cells tc 66)).alloc (.cells #[.slice none 0 0, .bool false, .int .i64 0, .slice none 0 0, .int .i64 0, .int .i64 0] 58)) = W at HB0 HB1 k0 k2 hz ⊢
  refine (rnext_any W (HTT.out.below HB0.out (Nat.le_refl _)) (HAA.out.below HB0.out (Nat.le_refl _)) HWF.out ha).mono ?_
  rw [HRR.out]
  rintro e w1 ⟨rfl, hb1⟩
  have hz1 := hb1.size
  have k0' : Six w1 w.heap.size 58 (.slice A l.length c) (.bool false) (.int .i64 a) (.slice Ao no co) (.int .i64 most) (.int .i64 0) := (hb1.block _ (by omega)).trans k0
  have k2' : Six w1 (w.heap.size + 1 + 1) 58 (.slice none 0 0) (.bool false) (.int .i64 0) (.slice none 0 0) (.int .i64 0) (.int .i64 0) := (hb1.block _ (by omega)).trans k2
  have HBW : Hid (Below w.heap.size w w1) := HB0.out.trans (hb1.mono (by omega))
  obtain ⟨⟨a0, a1, a2, a3, a4, a5⟩, f0, f1, f2, f3, f4, f5⟩ := cells6 k0'
  obtain ⟨⟨b0, b1, b2, b3, b4, b5⟩, g0, g1, g2, g3, g4, g5⟩ := cells6 k2'
  have HK0 := Lib.hid k0'
  have HK2 := Lib.hid k2'
  have y0 : w.heap.size < w1.heap.size := by omega
  have y1 : w.heap.size + 1 + 1 < w1.heap.size := by omega
  clear k0 k2 k0' k2' hb1 HB0 HB1
  go_wp2_with fail
  obtain ⟨W2, hW2, hs2, hg2⟩ := Six.three HK0.out (.slice A l.length c) (.bool false) (.int .i64 (a' : Int))
  rw [← hW2]
  have hk1 := Six.block HK2.out (hg2.block _ y1 (by simp; omega))
  obtain ⟨W3, hW3, hs3, hg3⟩ := hk1.all (.slice A l.length c) (.bool false) (.int .i64 (a' : Int)) (.slice Ao no co) (.int .i64 most) (.int .i64 0)
  rw [← hW3]
  have hb : Below w.heap.size w W3 := (HBW.out.grown hg2 (by omega) (fun b e => by injection e with e; omega)).grown hg3 (by have := hg2.size; omega) (fun b e => by injection e with e; omega)
  obtain ⟨⟨e0, e1, e2, e3, e4, e5⟩, -⟩ := cells6 hs3
  have hl3 := hs3.lt
  refine bodyPost_ret (v := .tuple #[.agg (stV A l.length c a' Ao no co most 0), .int .i64 s]) ?_ rfl ⟨rfl, hb.alloc (by have := hb.size; omega) _⟩
  simp [results, Tryz.results60, go_sem, e0, e1, e2, e3, e4, e5, hl3, stV]
end Go.Proofs.YtmgbjgjlddifaaaGreat.Inf
set_option linter.unusedVariables false
set_option linter.unusedSimpArgs false
namespace Go.Proofs.YtmgbjgjlddifaaaGreat.Def
open Go.RowKit K

/-- the symbol of a number in groups, the bits more, how many -/
def symM (v size from_ : Nat) : Nat × Nat × Nat :=
  if v - from_ < 2 * size then (v - from_, 0, 0)
  else (((v - from_) / size).log2 * size + (v - from_) / 2 ^ ((v - from_) / size).log2, (v - from_) % 2 ^ ((v - from_) / size).log2, ((v - from_) / size).log2)
theorem log2_of {u size m : Nat} (hs : 0 < size) (h1 : size * 2 ^ m ≤ u) (h2 : u < 2 * size * 2 ^ m) : (u / size).log2 = m := by
  have h3 : 2 ^ m ≤ u / size := (Nat.le_div_iff_mul_le hs).2 (by rw [Nat.mul_comm]; exact h1)
  have e : 2 ^ (m + 1) * size = 2 * size * 2 ^ m := by rw [Nat.pow_succ, Nat.mul_comm (2 ^ m) 2, Nat.mul_assoc, Nat.mul_comm (2 ^ m) size, ← Nat.mul_assoc]
  have h4 : u / size < 2 ^ (m + 1) := (Nat.div_lt_iff_lt_mul hs).2 (by rw [e]; exact h2)
  have hp : 0 < 2 ^ m := Nat.pow_pos (by omega)
  have h0 : u / size ≠ 0 := by omega
  have a := (Nat.le_log2 h0).2 h3
  have b := (Nat.log2_lt h0).2 h4
  omega
/-- a piece: a byte, or so many from so far ahead -/
structure Pc where
  b : Nat
  n : Nat
  back : Nat
def copyN (o : List Int) (back : Nat) : Nat → List Int
  | 0 => o
  | n+1 => copyN o back n ++ [(copyN o back n).getD ((copyN o back n).length - back) 0]
theorem copyN_len (o : List Int) (back n : Nat) : (copyN o back n).length = o.length + n := by
  induction n with
  | zero => rfl
  | succ n ih => rw [copyN, List.length_append, ih]; rfl
def grow (o : List Int) (p : Pc) : List Int := if p.n = 0 then o ++ [(p.b : Int)] else copyN o p.back p.n
def expand (o : List Int) (ps : List Pc) : List Int := ps.foldl grow o
def OkP (o : List Int) (p : Pc) : Prop := (p.n = 0 ∧ p.b < 256) ∨ (3 ≤ p.n ∧ p.n ≤ 258 ∧ 1 ≤ p.back ∧ p.back ≤ 32768 ∧ p.back ≤ o.length)
def OkPs (o : List Int) : List Pc → Prop
  | [] => True
  | p :: ps => OkP o p ∧ OkPs (grow o p) ps
/-- how many bytes from places p and i on are alike, from n on, up to 258 -/
def runM (b : List Int) (p i : Nat) : Nat → Nat → Nat
  | 0, n => n
  | f+1, n => if n < 258 ∧ i + n < b.length ∧ b.getD (p + n) 0 = b.getD (i + n) 0 then runM b p i f (n + 1) else n
theorem runM_ge (b : List Int) (p i : Nat) : ∀ f n, n ≤ runM b p i f n := by
  intro f
  induction f with
  | zero => intro n; exact Nat.le_refl _
  | succ f ih =>
    intro n
    rw [runM]
    split
    · have := ih (n + 1); omega
    · exact Nat.le_refl _
theorem runM_fact (b : List Int) (p i : Nat) : ∀ f n, n ≤ 258 → i + n ≤ b.length → (∀ j, j < n → b.getD (p + j) 0 = b.getD (i + j) 0) → runM b p i f n ≤ 258 ∧ i + runM b p i f n ≤ b.length ∧ ∀ j, j < runM b p i f n → b.getD (p + j) 0 = b.getD (i + j) 0 := by
  intro f
  induction f with
  | zero => intro n h1 h2 h3; exact ⟨h1, h2, h3⟩
  | succ f ih =>
    intro n h1 h2 h3
    rw [runM]
    by_cases h : n < 258 ∧ i + n < b.length ∧ b.getD (p + n) 0 = b.getD (i + n) 0
    · rw [if_pos h]
      refine ih (n + 1) (by omega) (by omega) (fun j hj => ?_)
      by_cases e : j = n
      · subst e; exact h.2.2
      · exact h3 j (by omega)
    · rw [if_neg h]; exact ⟨h1, h2, h3⟩
/-- enough fuel: the run ends -/
theorem runM_fuel (b : List Int) (p i : Nat) : ∀ f n, 258 ≤ n + f → ¬ (runM b p i f n < 258 ∧ i + runM b p i f n < b.length ∧ b.getD (p + runM b p i f n) 0 = b.getD (i + runM b p i f n) 0) := by
  intro f
  induction f with
  | zero => intro n h; rw [runM]; omega
  | succ f ih =>
    intro n h
    rw [runM]
    by_cases hc : n < 258 ∧ i + n < b.length ∧ b.getD (p + n) 0 = b.getD (i + n) 0
    · rw [if_pos hc]; exact ih (n + 1) (by omega)
    · rw [if_neg hc]; exact hc
def run (b : List Int) (p i : Nat) : Nat := runM b p i 258 3
def tri (b : List Int) (i : Nat) : Int × Int × Int := (b.getD i 0, b.getD (i + 1) 0, b.getD (i + 2) 0)
/-- the places ahead of i where three bytes t stand -/
def places (b : List Int) (i : Nat) (t : Int × Int × Int) : List Nat := (List.range i).filter (fun p => decide (p + 2 < b.length) && decide (tri b p = t))
def cands (b : List Int) (i : Nat) : List Nat := (places b i (tri b i)).drop ((places b i (tri b i)).length - 16)
def pick (b : List Int) (i : Nat) (s : Nat × Nat) (p : Nat) : Nat × Nat := if 32768 < i - p then s else if s.1 ≤ run b p i then (run b p i, p) else s
def best (b : List Int) (i : Nat) : Nat × Nat := if i + 2 < b.length then (cands b i).foldl (pick b i) (0, 0) else (0, 0)
def pieceAt (b : List Int) (i : Nat) : Pc := if (best b i).1 < 3 then ⟨(b.getD i 0).toNat, 0, 0⟩ else ⟨0, (best b i).1, i - (best b i).2⟩
def piecesM (b : List Int) : Nat → Nat → List Pc
  | 0, _ => []
  | f+1, i => if i < b.length then pieceAt b i :: piecesM b f (i + if (best b i).1 < 3 then 1 else (best b i).1) else []
theorem cands_mem {b : List Int} {i p : Nat} (h : p ∈ cands b i) : p < i ∧ p + 2 < b.length ∧ tri b p = tri b i := by
  have h1 : p ∈ places b i (tri b i) := List.mem_of_mem_drop h
  unfold places at h1
  rw [List.mem_filter, List.mem_range] at h1
  simpa using h1
/-- what the best one is -/
def OkB (b : List Int) (i : Nat) (s : Nat × Nat) : Prop := s.1 = 0 ∨ (3 ≤ s.1 ∧ s.1 ≤ 258 ∧ i + s.1 ≤ b.length ∧ s.2 < i ∧ i - s.2 ≤ 32768 ∧ ∀ j, j < s.1 → b.getD (s.2 + j) 0 = b.getD (i + j) 0)
theorem run_ok {b : List Int} {i p : Nat} (h2 : i + 2 < b.length) (ht : tri b p = tri b i) : 3 ≤ run b p i ∧ run b p i ≤ 258 ∧ i + run b p i ≤ b.length ∧ ∀ j, j < run b p i → b.getD (p + j) 0 = b.getD (i + j) 0 := by
  unfold tri at ht
  simp only [Prod.mk.injEq] at ht
  have h := runM_fact b p i 258 3 (by omega) (by omega) (fun j hj => by
    have : j = 0 ∨ j = 1 ∨ j = 2 := by omega
    rcases this with rfl | rfl | rfl
    · exact ht.1
    · exact ht.2.1
    · exact ht.2.2)
  exact ⟨runM_ge b p i 258 3, h.1, h.2.1, h.2.2⟩
theorem pick_ok {b : List Int} {i p : Nat} {s : Nat × Nat} (h2 : i + 2 < b.length) (hp : p < i) (ht : tri b p = tri b i) (h : OkB b i s) : OkB b i (pick b i s p) := by
  unfold pick
  by_cases h1 : 32768 < i - p
  · rw [if_pos h1]; exact h
  · rw [if_neg h1]
    by_cases h3 : s.1 ≤ run b p i
    · rw [if_pos h3]
      obtain ⟨r1, r2, r3, r4⟩ := run_ok h2 ht
      exact .inr ⟨r1, r2, r3, hp, by simp only []; omega, r4⟩
    · rw [if_neg h3]; exact h
theorem fold_ok {b : List Int} {i : Nat} (h2 : i + 2 < b.length) : ∀ (L : List Nat) (s : Nat × Nat), (∀ p ∈ L, p < i ∧ tri b p = tri b i) → OkB b i s → OkB b i (L.foldl (pick b i) s) := by
  intro L
  induction L with
  | nil => intro s _ h; exact h
  | cons p L ih =>
    intro s hL h
    exact ih _ (fun q hq => hL q (by simp [hq])) (pick_ok h2 (hL p (by simp)).1 (hL p (by simp)).2 h)
theorem best_ok (b : List Int) (i : Nat) : OkB b i (best b i) := by
  unfold best
  by_cases h : i + 2 < b.length
  · rw [if_pos h]
    exact fold_ok h _ _ (fun p hp => ⟨(cands_mem hp).1, (cands_mem hp).2.2⟩) (.inl rfl)
  · rw [if_neg h]; exact .inl rfl
theorem take_copy {b : List Int} {i back : Nat} (hb : 1 ≤ back) (hbi : back ≤ i) : ∀ n, i + n ≤ b.length → (∀ j, j < n → b.getD (i - back + j) 0 = b.getD (i + j) 0) → copyN (b.take i) back n = b.take (i + n) := by
  intro n
  induction n with
  | zero => intro _ _; rfl
  | succ n ih =>
    intro h1 h2
    rw [copyN, ih (by omega) (fun j hj => h2 j (by omega))]
    have hx : b[i + n]? = some b[i + n] := List.getElem?_eq_getElem (by omega)
    rw [← Nat.add_assoc, take_snoc hx]
    congr 1
    have hl : (b.take (i + n)).length = i + n := by rw [List.length_take]; omega
    rw [hl, List.getD_eq_getElem?_getD, List.getElem?_take, if_pos (by omega), ← List.getD_eq_getElem?_getD, show i + n - back = i - back + n by omega, h2 n (by omega), getD_of hx]
theorem grow_piece {b : List Int} {i : Nat} (hi : i < b.length) (hwf : ∀ x ∈ b, 0 ≤ x ∧ x < 256) : OkP (b.take i) (pieceAt b i) ∧ grow (b.take i) (pieceAt b i) = b.take (i + if (best b i).1 < 3 then 1 else (best b i).1) ∧ i + (if (best b i).1 < 3 then 1 else (best b i).1) ≤ b.length := by
  have hx : b[i]? = some b[i] := List.getElem?_eq_getElem hi
  have hw := hwf _ (List.getElem_mem hi)
  unfold pieceAt
  by_cases h : (best b i).1 < 3
  · rw [if_pos h, if_pos h, getD_of hx]
    refine ⟨.inl ⟨rfl, by simp only []; omega⟩, ?_, by omega⟩
    unfold grow
    simp only []
    rw [if_pos trivial, take_snoc hx]
    congr 2; omega
  · rw [if_neg h, if_neg h]
    rcases best_ok b i with h0 | ⟨h1, h2, h3, h4, h5, h6⟩
    · omega
    · refine ⟨.inr ⟨h1, h2, by simp only []; omega, h5, by rw [List.length_take]; simp only []; omega⟩, ?_, h3⟩
      unfold grow
      simp only []
      rw [if_neg (by omega)]
      exact take_copy (by omega) (by omega) _ h3 (fun j hj => by rw [show i - (i - (best b i).2) = (best b i).2 by omega]; exact h6 j hj)
theorem step_pos (b : List Int) (i : Nat) : 1 ≤ if (best b i).1 < 3 then 1 else (best b i).1 := by split <;> omega
/-- the pieces expand to the bytes -/
theorem pieces_ok {b : List Int} (hwf : ∀ x ∈ b, 0 ≤ x ∧ x < 256) : ∀ f i, i ≤ b.length → b.length ≤ i + f → OkPs (b.take i) (piecesM b f i) ∧ expand (b.take i) (piecesM b f i) = b := by
  intro f
  induction f with
  | zero =>
    intro i h1 h2
    rw [piecesM]
    exact ⟨trivial, by unfold expand; simp only [List.foldl_nil]; exact List.take_of_length_le (by omega)⟩
  | succ f ih =>
    intro i h1 h2
    rw [piecesM]
    by_cases hi : i < b.length
    · rw [if_pos hi]
      obtain ⟨g1, g2, g3⟩ := grow_piece hi hwf
      have hs := step_pos b i
      obtain ⟨k1, k2⟩ := ih _ g3 (by omega)
      refine ⟨⟨g1, by rw [g2]; exact k1⟩, ?_⟩
      unfold expand at k2 ⊢
      rw [List.foldl_cons, g2]; exact k2
    · rw [if_neg hi]
      exact ⟨trivial, by unfold expand; simp only [List.foldl_nil]; exact List.take_of_length_le (by omega)⟩
/-- bytes that are all alike: one byte, then runs from just ahead -/
theorem alike_best {b : List Int} (h : ∀ i, i < b.length → b.getD i 0 = b.getD 0 0) {i : Nat} (h1 : 1 ≤ i) (h2 : i + 2 < b.length) : best b i = (min 258 (b.length - i), i - 1) := by
  have htri : ∀ p, p ≤ i → tri b p = tri b i := fun p hp => by
    unfold tri
    rw [h p (by omega), h (p + 1) (by omega), h (p + 2) (by omega), h i (by omega), h (i + 1) (by omega), h (i + 2) (by omega)]
  have hpl : places b i (tri b i) = List.range i := by
    unfold places
    rw [List.filter_eq_self]
    intro p hp
    rw [List.mem_range] at hp
    simp [htri p (by omega)]; omega
  have hrun : ∀ p, p < i → run b p i = min 258 (b.length - i) := fun p hp => by
    obtain ⟨r1, r2, r3, r4⟩ := run_ok h2 (htri p (by omega))
    have := runM_fuel b p i 258 3 (by omega)
    have e : runM b p i 258 3 = run b p i := rfl
    rw [e] at this
    by_cases hc : run b p i < 258 ∧ i + run b p i < b.length
    · exfalso
      exact this ⟨hc.1, hc.2, by rw [h (p + run b p i) (by omega), h (i + run b p i) (by omega)]⟩
    · omega
  unfold best cands
  rw [if_pos h2, hpl, List.length_range]
  obtain ⟨q, rfl⟩ : ∃ q, i = q + 1 := ⟨i - 1, by omega⟩
  rw [List.range_succ, List.drop_append_of_le_length (by rw [List.length_range]; omega), List.foldl_append]
  have hm : ∀ (L : List Nat) (s : Nat × Nat), (∀ p ∈ L, p < q + 1) → s.1 ≤ min 258 (b.length - (q + 1)) → (L.foldl (pick b (q + 1)) s).1 ≤ min 258 (b.length - (q + 1)) := by
    intro L
    induction L with
    | nil => intro s _ hs; exact hs
    | cons p L ih =>
      intro s hL hs
      refine ih _ (fun p' hp' => hL p' (by simp [hp'])) ?_
      unfold pick
      split
      · exact hs
      · split
        · simp only []; rw [hrun p (hL p (by simp))]; exact Nat.le_refl _
        · exact hs
  have hle := hm ((List.range q).drop (q + 1 - 16)) (0, 0) (fun p hp => by
    have := List.mem_of_mem_drop hp
    rw [List.mem_range] at this; omega) (by simp)
  generalize ((List.range q).drop (q + 1 - 16)).foldl (pick b (q + 1)) (0, 0) = s at *
  simp only [List.foldl_cons, List.foldl_nil]
  unfold pick
  rw [if_neg (by omega), hrun q (by omega), if_pos hle]
  simp
end Go.Proofs.YtmgbjgjlddifaaaGreat.Def
set_option linter.unusedVariables false
set_option linter.unusedSimpArgs false
namespace Go.Proofs.YtmgbjgjlddifaaaGreat.Def
open Go.RowKit K

def costs (c : Pc → Nat) (ps : List Pc) : Nat := (ps.map c).sum
theorem alike_cost {b : List Int} {c : Pc → Nat} (h : ∀ i, i < b.length → b.getD i 0 = b.getD 0 0) (c1 : ∀ x, c ⟨x, 0, 0⟩ ≤ 9) (c2 : ∀ n, 3 ≤ n → n ≤ 258 → c ⟨0, n, 1⟩ ≤ 18) :
    ∀ f i, 1 ≤ i → costs c (piecesM b f i) ≤ 18 * ((b.length - i) / 258) + 36 := by
  have hlit : ∀ i, ¬ i + 2 < b.length → ∀ f, (∀ g, g < f → costs c (piecesM b g (i + 1)) ≤ 9 * (b.length - (i + 1))) → costs c (piecesM b f i) ≤ 9 * (b.length - i) := fun i hi f ih => by
    cases f with
    | zero => simp [piecesM, costs]
    | succ f =>
      rw [piecesM]
      by_cases h1 : i < b.length
      · rw [if_pos h1]
        have hb : best b i = (0, 0) := by unfold best; rw [if_neg hi]
        rw [hb]
        have hp : pieceAt b i = ⟨(b.getD i 0).toNat, 0, 0⟩ := by unfold pieceAt; rw [hb]; rfl
        have := ih f (by omega)
        have := c1 (b.getD i 0).toNat
        simp only [costs, List.map_cons, List.sum_cons, hp] at *
        rw [if_pos (by omega)]
        omega
      · rw [if_neg h1]; simp [costs]
  have hend : ∀ d i f, b.length ≤ i + d → ¬ i + 2 < b.length → costs c (piecesM b f i) ≤ 9 * (b.length - i) := by
    intro d
    induction d with
    | zero =>
      intro i f hd hi
      cases f with
      | zero => simp [piecesM, costs]
      | succ f => rw [piecesM, if_neg (by omega)]; simp [costs]
    | succ d ih => intro i f hd hi; exact hlit i hi f (fun g _ => ih (i + 1) g (by omega) (by omega))
  intro f
  induction f with
  | zero => intro i h1; simp [piecesM, costs]
  | succ f ih =>
    intro i h1
    by_cases h2 : i + 2 < b.length
    · rw [piecesM, if_pos (by omega)]
      have hb := alike_best h h1 h2
      rw [hb]
      have hp : pieceAt b i = ⟨0, min 258 (b.length - i), 1⟩ := by
        unfold pieceAt; rw [hb, if_neg (by simp only []; omega)]
        simp only []
        rw [show i - (i - 1) = 1 by omega]
      have hc := c2 (min 258 (b.length - i)) (by omega) (by omega)
      rw [if_neg (by simp only []; omega)]
      have hi := ih (i + min 258 (b.length - i)) (by omega)
      simp only [costs, List.map_cons, List.sum_cons, hp] at *
      by_cases h3 : 258 ≤ b.length - i
      · rw [Nat.min_eq_left h3] at *
        have : (b.length - (i + 258)) / 258 + 1 = (b.length - i) / 258 := by omega
        omega
      · rw [Nat.min_eq_right (by omega)] at *
        have e : b.length - (i + (b.length - i)) = 0 := by omega
        rw [e] at hi
        have hz : ((piecesM b f (i + (b.length - i))).map c).sum = 0 := by
          cases f with
          | zero => simp [piecesM]
          | succ f => rw [piecesM, if_neg (by omega)]; simp
        rw [hz]; omega
    · have := hend 2 i (f + 1) (by omega) h2
      omega
theorem alike_all {b : List Int} {c : Pc → Nat} (h : ∀ i, i < b.length → b.getD i 0 = b.getD 0 0) (c1 : ∀ x, c ⟨x, 0, 0⟩ ≤ 9) (c2 : ∀ n, 3 ≤ n → n ≤ 258 → c ⟨0, n, 1⟩ ≤ 18) (f : Nat) :
    costs c (piecesM b f 0) ≤ 18 * (b.length / 258) + 45 := by
  cases f with
  | zero => simp [piecesM, costs]
  | succ f =>
    rw [piecesM]
    by_cases h1 : 0 < b.length
    · rw [if_pos h1]
      have hb : best b 0 = (0, 0) := by
        unfold best cands places
        split <;> simp
      have hp : pieceAt b 0 = ⟨(b.getD 0 0).toNat, 0, 0⟩ := by unfold pieceAt; rw [hb]; rfl
      rw [hb, if_pos (by simp only []; omega)]
      have := alike_cost h c1 c2 f (0 + 1) (by omega)
      have := c1 (b.getD 0 0).toNat
      simp only [costs, List.map_cons, List.sum_cons, hp] at *
      omega
    · rw [if_neg h1]; simp [costs]
/-! symbols of groups -/
def groupM (g i : Nat) : Nat := if i < 2 * g then 0 else i / g - 1
def baseS (g : Nat) : Nat → Nat
  | 0 => 0
  | k+1 => baseS g k + 2 ^ groupM g k
theorem baseS_at (g : Nat) (hg : 0 < g) : ∀ m r, r ≤ g → baseS g ((m + 1) * g + r) = (g + r) * 2 ^ m := by
  have low : ∀ k, k ≤ 2 * g → baseS g k = k := by
    intro k
    induction k with
    | zero => intro _; rfl
    | succ k ih =>
      intro h
      rw [baseS, ih (by omega)]
      unfold groupM; rw [if_pos (by omega)]
  intro m
  induction m with
  | zero => intro r hr; rw [Nat.zero_add, Nat.one_mul, low _ (by omega), Nat.pow_zero, Nat.mul_one]
  | succ m ihm =>
    intro r
    induction r with
    | zero =>
      intro _
      have := ihm g (Nat.le_refl _)
      rw [show (m + 1) * g + g = (m + 1 + 1) * g by rw [Nat.add_mul (m + 1) 1 g, Nat.one_mul]] at this
      rw [Nat.add_zero, this, Nat.pow_succ, Nat.add_zero]
      generalize 2 ^ m = P
      rw [← Nat.two_mul, Nat.mul_comm P 2, ← Nat.mul_assoc, Nat.mul_comm g 2]
    | succ r ihr =>
      intro hr
      rw [← Nat.add_assoc, baseS, ihr (by omega)]
      have hq : ((m + 1 + 1) * g + r) / g = m + 1 + 1 := by
        rw [Nat.add_comm, Nat.add_mul_div_right _ _ hg, Nat.div_eq_of_lt (by omega)]; omega
      have h2 : 2 * g ≤ (m + 1 + 1) * g := Nat.mul_le_mul_right g (by omega)
      unfold groupM
      rw [if_neg (by omega), hq, show m + 1 + 1 - 1 = m + 1 by omega, show g + (r + 1) = (g + r) + 1 by omega]
      generalize 2 ^ (m + 1) = P
      rw [Nat.add_mul (g + r) 1 P, Nat.one_mul]
theorem groupM_at (g : Nat) (hg : 0 < g) (m r : Nat) (hr : r < g) (hm : 1 ≤ m) : groupM g ((m + 1) * g + r) = m := by
  have h2 : 2 * g ≤ (m + 1) * g := Nat.mul_le_mul_right g (by omega)
  have hq : ((m + 1) * g + r) / g = m + 1 := by
    rw [Nat.add_comm, Nat.add_mul_div_right _ _ hg, Nat.div_eq_of_lt hr]; omega
  unfold groupM
  rw [if_neg (by omega), hq]; omega
/-- the symbol tells the number -/
theorem symM_back {v size from_ : Nat} (hs : 0 < size) (hv : from_ ≤ v) : from_ + baseS size (symM v size from_).1 + (symM v size from_).2.1 = v ∧ groupM size (symM v size from_).1 = (symM v size from_).2.2 ∧ (symM v size from_).2.1 < 2 ^ (symM v size from_).2.2 := by
  unfold symM
  by_cases h : v - from_ < 2 * size
  · rw [if_pos h]
    simp only []
    have low : baseS size (v - from_) = v - from_ := by
      by_cases h1 : v - from_ ≤ size
      · have : ∀ k, k ≤ 2 * size → baseS size k = k := by
          intro k
          induction k with
          | zero => intro _; rfl
          | succ k ih =>
            intro h
            rw [baseS, ih (by omega)]
            unfold groupM; rw [if_pos (by omega)]
        exact this _ (by omega)
      · have := baseS_at size hs 0 (v - from_ - size) (by omega)
        rw [Nat.zero_add, Nat.one_mul, Nat.pow_zero, Nat.mul_one] at this
        rw [show v - from_ = size + (v - from_ - size) by omega]
        exact this
    rw [low]
    unfold groupM
    rw [if_pos h]
    exact ⟨by omega, rfl, by simp⟩
  · rw [if_neg h]
    simp only []
    generalize hu : v - from_ = u at *
    have hd : u / size ≠ 0 := by
      have : 1 ≤ u / size := (Nat.le_div_iff_mul_le hs).2 (by omega)
      omega
    generalize hm : (u / size).log2 = m
    have h1 : 2 ^ m ≤ u / size := by rw [← hm]; exact Nat.log2_self_le hd
    have h2 : u / size < 2 ^ (m + 1) := by rw [← hm]; exact Nat.lt_log2_self
    have h3 : 2 ^ m * size ≤ u := (Nat.le_div_iff_mul_le hs).1 h1
    have h4 : u < 2 ^ (m + 1) * size := (Nat.div_lt_iff_lt_mul hs).1 h2
    have hp : 0 < 2 ^ m := Nat.pow_pos (by omega)
    have m1 : 1 ≤ m := by
      have : 2 ≤ u / size := (Nat.le_div_iff_mul_le hs).2 (by omega)
      rcases Nat.eq_zero_or_pos m with e | e
      · rw [e] at h2; simp at h2; omega
      · exact e
    have hq1 : size ≤ u / 2 ^ m := (Nat.le_div_iff_mul_le hp).2 (by rw [Nat.mul_comm]; exact h3)
    have hq2 : u / 2 ^ m < 2 * size := (Nat.div_lt_iff_lt_mul hp).2 (by
      have e : 2 ^ (m + 1) * size = 2 * size * 2 ^ m := by rw [Nat.pow_succ, Nat.mul_comm (2 ^ m) 2, Nat.mul_assoc, Nat.mul_comm (2 ^ m) size, ← Nat.mul_assoc]
      rw [← e]; exact h4)
    obtain ⟨r, hr⟩ : ∃ r, u / 2 ^ m = size + r := ⟨u / 2 ^ m - size, by omega⟩
    have e : m * size + u / 2 ^ m = (m + 1) * size + r := by rw [hr, Nat.add_mul, Nat.one_mul]; omega
    rw [e, baseS_at size hs m r (by omega), groupM_at size hs m r (by omega) m1, ← hr]
    have hdm := Nat.div_add_mod u (2 ^ m)
    rw [Nat.mul_comm] at hdm
    exact ⟨by omega, rfl, Nat.mod_lt _ hp⟩
end Go.Proofs.YtmgbjgjlddifaaaGreat.Def
set_option linter.unusedVariables false
set_option linter.unusedSimpArgs false
namespace Go.Proofs.YtmgbjgjlddifaaaGreat.Inf
open Go.RowKit K Bits Pfx Def

theorem group_le {g i k m : Nat} (hg : 1 ≤ g) (hk : k / g ≤ m + 1) (hi : i ≤ k) : groupM g i ≤ m := by
  unfold groupM
  split
  · omega
  · have : i / g ≤ k / g := Nat.div_le_div_right hi
    omega
theorem baseS_le {g k m : Nat} (hg : 1 ≤ g) (hk : k / g ≤ m + 1) : ∀ i, i ≤ k → baseS g i ≤ i * 2 ^ m := by
  intro i
  induction i with
  | zero => intro _; simp [baseS]
  | succ i ih =>
    intro hi
    rw [baseS]
    have h1 := ih (by omega)
    have h2 := group_le hg hk (show i ≤ k by omega)
    have h3 : 2 ^ groupM g i ≤ 2 ^ m := Nat.pow_le_pow_right (by omega) h2
    rw [Nat.add_mul, Nat.one_mul]; omega
theorem base_lo {g k : Nat} (h2 : k < 2 * g) : baseS g k = k ∧ groupM g k = 0 := by
  have h : ∀ i, i ≤ k → baseS g i = i := by
    intro i
    induction i with
    | zero => intro _; rfl
    | succ i ih =>
      intro hi
      rw [baseS, ih (by omega)]
      unfold groupM; rw [if_pos (by omega)]
  exact ⟨h k (Nat.le_refl _), by unfold groupM; rw [if_pos h2]⟩
set_option maxRecDepth 20000 in
set_option maxHeartbeats 2000000 in
theorem base_4 {k : Nat} (w : World) (hk : k ≤ 30) :
    Calls Tryz.prog 88 #[.int .i64 k, .int .i64 4, .int .i64 3] w fun e w' => e = .returned (.tuple #[.int .i64 ((3 + baseS 4 k : Nat) : Int), .int .i64 (groupM 4 k : Nat)]) ∧ w = w' := by
  by_cases h2 : k < 2 * 4
  · have d1 : decide ((k : Int) < 8) = true := decide_eq_true (by omega)
    have HB := Lib.hid (base_lo h2)
    go_enter Tryz.func88, Tryz.ntmps88
    go_wp2
    go_ret2
    exact ⟨by rw [HB.out.1, HB.out.2]; simp, rfl⟩
  · have d1 : decide ((k : Int) < 8) = false := decide_eq_false (by omega)
    have hgm : (groupM 4 k : Int) = (k : Int) / 4 - 1 := by
      unfold groupM; rw [if_neg h2]; omega
    have HGM := Lib.hid hgm
    have hle := Lib.hid (fun i (hi : i ≤ k) => baseS_le (g := 4) (m := 13) (by omega) (show k / 4 ≤ 13 + 1 by omega) i hi)
    have hgl := Lib.hid (fun i (hi : i ≤ k) => group_le (g := 4) (m := 13) (by omega) (show k / 4 ≤ 13 + 1 by omega) hi)
    clear hgm
    go_enter Tryz.func88, Tryz.ntmps88
    go_wp2_with fail
    go_loopw [9, 10, 11] (fun sa si _ wx => ∃ i : Nat, i ≤ k ∧ si = .int .i64 i ∧ sa = .int .i64 ((3 : Int) + (baseS 4 i : Nat)) ∧ w = wx) (fun _ si _ _ => k - (intOf si).toNat)
    case atStart => exact ⟨0, by omega, rfl, by simp [baseS], rfl⟩
    case round =>
      obtain ⟨i, hi, rfl, rfl, rfl⟩ := hrel
      by_cases hik : i < k
      · have dk : decide ((i : Int) < (k : Int)) = true := decide_eq_true (by omega)
        have hb1 := hle.out i (by omega)
        have hg1 := hgl.out i (by omega)
        have hbs : baseS 4 (i + 1) = baseS 4 i + 2 ^ groupM 4 i := rfl
        have HBS := Lib.hid hbs
        have hp : 2 ^ groupM 4 i ≤ 2 ^ 13 := Nat.pow_le_pow_right (by omega) hg1
        clear hbs
        by_cases h3 : i < 2 * 4
        · have d3 : decide ((8 : Int) ≤ (i : Int)) = false := decide_eq_false (by omega)
          have hg0 := Lib.hid (show groupM 4 i = 0 by unfold groupM; rw [if_pos h3])
          go_wp2
          go_roundw
          case rel => exact ⟨i + 1, by omega, by go_num, eint (by rw [HBS.out, hg0.out]; simp; omega), trivial⟩
          case measure => simp [intOf]; omega
        · have d3 : decide ((8 : Int) ≤ (i : Int)) = true := decide_eq_true (by omega)
          obtain ⟨m, hm⟩ : ∃ m, groupM 4 i = m := ⟨_, rfl⟩
          have hmi : (i : Int) / 4 - 1 = (m : Int) := by rw [← hm]; unfold groupM; rw [if_neg h3]; omega
          have HM := Lib.hid hm
          rw [hm] at hp hg1
          have hmu : IntKind.u64.wrap (m : Int) = (m : Int) := IntWalk.u64_in _ (by omega)
          have hpi : (2 : Int) ^ m = ((2 ^ m : Nat) : Int) := by simp
          have hps : (2 : Int) ^ m ≤ 8192 := by rw [hpi]; omega
          have hps0 : (0 : Int) < 2 ^ m := Int.pow_pos (by decide)
          have HPI := Lib.hid hpi
          have hw1 : IntKind.i64.wrap (2 ^ m) = 2 ^ m := IntWalk.i64_in _ (by omega)
          have hw2 : IntKind.i64.wrap (1 * 2 ^ m) = 2 ^ m := by rw [Int.one_mul]; exact hw1
          have hb2 : ((baseS 4 i : Nat) : Int) ≤ 2457600 := by omega
          clear hm hp hpi
          go_wp2
          go_roundw
          case rel => exact ⟨i + 1, by omega, by go_num, eint (by rw [HBS.out, HM.out]; push_cast; first | omega | (rw [hw1]; omega)), trivial⟩
          case measure => simp [intOf]; omega
      · obtain rfl : i = k := by omega
        have dk : decide ((i : Int) < (i : Int)) = false := decide_eq_false (by omega)
        go_wp2
        go_ret2
        exact ⟨by rw [HGM.out]; simp, rfl⟩
set_option maxRecDepth 20000 in
set_option maxHeartbeats 2000000 in
theorem base_2 {k : Nat} (w : World) (hk : k ≤ 29) :
    Calls Tryz.prog 88 #[.int .i64 k, .int .i64 2, .int .i64 1] w fun e w' => e = .returned (.tuple #[.int .i64 ((1 + baseS 2 k : Nat) : Int), .int .i64 (groupM 2 k : Nat)]) ∧ w = w' := by
  by_cases h2 : k < 2 * 2
  · have d1 : decide ((k : Int) < 4) = true := decide_eq_true (by omega)
    have HB := Lib.hid (base_lo h2)
    go_enter Tryz.func88, Tryz.ntmps88
    go_wp2
    go_ret2
    exact ⟨by rw [HB.out.1, HB.out.2]; simp, rfl⟩
  · have d1 : decide ((k : Int) < 4) = false := decide_eq_false (by omega)
    have hgm : (groupM 2 k : Int) = (k : Int) / 2 - 1 := by
      unfold groupM; rw [if_neg h2]; omega
    have HGM := Lib.hid hgm
    have hle := Lib.hid (fun i (hi : i ≤ k) => baseS_le (g := 2) (m := 13) (by omega) (show k / 2 ≤ 13 + 1 by omega) i hi)
    have hgl := Lib.hid (fun i (hi : i ≤ k) => group_le (g := 2) (m := 13) (by omega) (show k / 2 ≤ 13 + 1 by omega) hi)
    clear hgm
    go_enter Tryz.func88, Tryz.ntmps88
    go_wp2_with fail
    go_loopw [9, 10, 11] (fun sa si _ wx => ∃ i : Nat, i ≤ k ∧ si = .int .i64 i ∧ sa = .int .i64 ((1 : Int) + (baseS 2 i : Nat)) ∧ w = wx) (fun _ si _ _ => k - (intOf si).toNat)
    case atStart => exact ⟨0, by omega, rfl, by simp [baseS], rfl⟩
    case round =>
      obtain ⟨i, hi, rfl, rfl, rfl⟩ := hrel
      by_cases hik : i < k
      · have dk : decide ((i : Int) < (k : Int)) = true := decide_eq_true (by omega)
        have hb1 := hle.out i (by omega)
        have hg1 := hgl.out i (by omega)
        have hbs : baseS 2 (i + 1) = baseS 2 i + 2 ^ groupM 2 i := rfl
        have HBS := Lib.hid hbs
        have hp : 2 ^ groupM 2 i ≤ 2 ^ 13 := Nat.pow_le_pow_right (by omega) hg1
        clear hbs
        by_cases h3 : i < 2 * 2
        · have d3 : decide ((4 : Int) ≤ (i : Int)) = false := decide_eq_false (by omega)
          have hg0 := Lib.hid (show groupM 2 i = 0 by unfold groupM; rw [if_pos h3])
          go_wp2
          go_roundw
          case rel => exact ⟨i + 1, by omega, by go_num, eint (by rw [HBS.out, hg0.out]; simp; omega), trivial⟩
          case measure => simp [intOf]; omega
        · have d3 : decide ((4 : Int) ≤ (i : Int)) = true := decide_eq_true (by omega)
          obtain ⟨m, hm⟩ : ∃ m, groupM 2 i = m := ⟨_, rfl⟩
          have hmi : (i : Int) / 2 - 1 = (m : Int) := by rw [← hm]; unfold groupM; rw [if_neg h3]; omega
          have HM := Lib.hid hm
          rw [hm] at hp hg1
          have hmu : IntKind.u64.wrap (m : Int) = (m : Int) := IntWalk.u64_in _ (by omega)
          have hpi : (2 : Int) ^ m = ((2 ^ m : Nat) : Int) := by simp
          have hps : (2 : Int) ^ m ≤ 8192 := by rw [hpi]; omega
          have hps0 : (0 : Int) < 2 ^ m := Int.pow_pos (by decide)
          have HPI := Lib.hid hpi
          have hw1 : IntKind.i64.wrap (2 ^ m) = 2 ^ m := IntWalk.i64_in _ (by omega)
          have hw2 : IntKind.i64.wrap (1 * 2 ^ m) = 2 ^ m := by rw [Int.one_mul]; exact hw1
          have hb2 : ((baseS 2 i : Nat) : Int) ≤ 2457600 := by omega
          clear hm hp hpi
          go_wp2
          go_roundw
          case rel => exact ⟨i + 1, by omega, by go_num, eint (by rw [HBS.out, HM.out]; push_cast; first | omega | (rw [hw1]; omega)), trivial⟩
          case measure => simp [intOf]; omega
      · obtain rfl : i = k := by omega
        have dk : decide ((i : Int) < (i : Int)) = false := decide_eq_false (by omega)
        go_wp2
        go_ret2
        exact ⟨by rw [HGM.out]; simp, rfl⟩
end Go.Proofs.YtmgbjgjlddifaaaGreat.Inf
