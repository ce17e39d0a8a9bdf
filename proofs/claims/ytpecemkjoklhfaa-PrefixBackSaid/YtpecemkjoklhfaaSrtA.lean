/-
  Walks: comparing coins; a block of coins; insertion sort of coins.
-/
import Derived.Test.YtpecemkjoklhfaaChecked
import Derived.Test.YtpecemkjoklhfaaKit
set_option linter.unusedVariables false
set_option linter.unusedSimpArgs false
namespace Go.Proofs.Ytpecemkjoklhfaa.Srt
open Go.RowKit K

theorem isNaN_any (a : Int) (w : World) : Calls Try.prog 48 #[.int .i64 a] w fun e w' => e = .returned (.bool false) ∧ w = w' := by
  have h : (a != a) = false := by simp
  go_enter Try.func48, Try.ntmps48
  go_wp2
  go_ret
  exact ⟨rfl, rfl⟩
def cmpI (a b : Int) : Int := if a < b then -1 else if b < a then 1 else 0
theorem cmpI_neg (a b : Int) : decide (cmpI a b < 0) = decide (a < b) := by
  unfold cmpI
  by_cases h : a < b
  · rw [if_pos h]; simp [h]
  · rw [if_neg h]; by_cases h2 : b < a
    · rw [if_pos h2]; simp [h]
    · rw [if_neg h2]; simp [h]
set_option maxHeartbeats 400000 in
theorem compare_any (a b : Int) (w : World) : Calls Try.prog 34 #[.int .i64 a, .int .i64 b] w fun e w' => e = .returned (.int .i64 (cmpI a b)) ∧ w = w' := by
  by_cases h : a < b
  · have e0 : Hid (cmpI a b = -1) := by show cmpI a b = -1; unfold cmpI; rw [if_pos h]
    go_enter Try.func34, Try.ntmps34
    go_wp2_with (go_at_call 48; refine (isNaN_any _ _).mono ?_; rintro e w' ⟨rfl, rfl⟩)
    go_ret
    rw [e0.out]; exact ⟨rfl, rfl⟩
  · by_cases h2 : b < a
    · have e0 : Hid (cmpI a b = 1) := by show cmpI a b = 1; unfold cmpI; rw [if_neg h, if_pos h2]
      go_enter Try.func34, Try.ntmps34
      go_wp2_with (go_at_call 48; refine (isNaN_any _ _).mono ?_; rintro e w' ⟨rfl, rfl⟩)
      go_ret
      rw [e0.out]; exact ⟨rfl, rfl⟩
    · have e0 : Hid (cmpI a b = 0) := by show cmpI a b = 0; unfold cmpI; rw [if_neg h, if_neg h2]
      go_enter Try.func34, Try.ntmps34
      go_wp2_with (go_at_call 48; refine (isNaN_any _ _).mono ?_; rintro e w' ⟨rfl, rfl⟩)
      go_ret
      rw [e0.out]; exact ⟨rfl, rfl⟩
set_option maxHeartbeats 400000 in
theorem heavy_any (a : Int) (w : World) : Calls Try.prog 32 #[.int .i64 a] w fun e w' => e = .returned (.bool (decide (a < 0) || decide (1073741824 < a))) ∧ w = w' := by
  by_cases h : a < 0
  · go_enter Try.func32, Try.ntmps32
    go_wp2
    go_ret
    exact ⟨by simp [h], rfl⟩
  · go_enter Try.func32, Try.ntmps32
    go_wp2
    go_ret
    exact ⟨ret1 (ebool (by rw [decide_eq_false (by omega : ¬ a < 0), Bool.false_or])), rfl⟩

structure Coin where
  w : Int
  a : Option Addr
  n : Nat
  c : Nat
def Coin.sl (x : Coin) : Value := .slice x.a x.n x.c
def Coin.v (x : Coin) : Value := .agg #[.int .i64 x.w, .slice x.a x.n x.c]
set_option maxHeartbeats 400000 in
theorem lighter_any (x y : Coin) (w : World) : Calls Try.prog 33 #[.agg #[.int .i64 x.w, .slice x.a x.n x.c], .agg #[.int .i64 y.w, .slice y.a y.n y.c]] w
    fun e w' => e = .returned (.int .i64 (cmpI x.w y.w)) ∧ (w.alloc (.cells #[.int .i64 x.w, .slice x.a x.n x.c] 72)).alloc (.cells #[.int .i64 y.w, .slice y.a y.n y.c] 72) = w' := by
  go_enter Try.func33, Try.ntmps33
  go_wp2_with (go_at_call 34; refine (compare_any _ _ _).mono ?_; rintro e w' ⟨rfl, rfl⟩)
  go_ret
  exact ⟨rfl, rfl⟩

/-- block g holds n coins -/
def CB (w : World) (g n : Nat) (f : Nat → Coin) : Prop :=
  ∃ cur : Array Value, w.heap[g]? = some (.cells cur 72 (0, 0)) ∧ ∀ i, i < n → cur[i * 2]? = some (.int .i64 (f i).w) ∧ cur[i * 2 + 1]? = some (.slice (f i).a (f i).n (f i).c)
theorem CB.lt {w g n f} (h : CB w g n f) : g < w.heap.size := by
  obtain ⟨c, hb, _⟩ := h
  exact (Array.getElem?_eq_some_iff.1 hb).1
theorem CB.cell0 {w g n f} (h : CB w g n f) {i : Nat} (hi : i < n) : w.cell? ⟨g, i * 2, none⟩ = some (.int .i64 (f i).w) := by
  obtain ⟨c, hb, hc⟩ := h; simp [World.cell?, hb, (hc i hi).1]
theorem CB.cell1 {w g n f} (h : CB w g n f) {i : Nat} (hi : i < n) : w.cell? ⟨g, i * 2 + 1, none⟩ = some (.slice (f i).a (f i).n (f i).c) := by
  obtain ⟨c, hb, hc⟩ := h; simp [World.cell?, hb, (hc i hi).2]
theorem CB.frozen {w g n f} (h : CB w g n f) (i : Nat) : w.frozen? ⟨g, i, none⟩ = false := by
  obtain ⟨c, hb, hc⟩ := h; simp [World.frozen?, hb]
theorem CB.of_block {w w' g n f} (h : CB w g n f) (e : w'.heap[g]? = w.heap[g]?) : CB w' g n f := by
  obtain ⟨c, hb, hc⟩ := h; exact ⟨c, e.trans hb, hc⟩
theorem CB.congr {w g n f f'} (h : CB w g n f) (e : ∀ i, i < n → f i = f' i) : CB w g n f' := by
  obtain ⟨c, hb, hc⟩ := h; exact ⟨c, hb, fun i hi => by rw [← e i hi]; exact hc i hi⟩
theorem CB.below {w w' g n f B} (h : CB w g n f) (hb : Below B w w') (hg : g < B) : CB w' g n f := h.of_block (hb.block g hg)

def upd (f : Nat → Coin) (i : Nat) (x : Coin) : Nat → Coin := fun k => if k = i then x else f k
theorem CB.put {w g n f} (h : CB w g n f) {i : Nat} (hi : i < n) (x : Coin) :
    CB ((w.setCell ⟨g, i * 2, none⟩ (.int .i64 x.w)).setCell ⟨g, i * 2 + 1, none⟩ (.slice x.a x.n x.c)) g n (upd f i x) := by
  obtain ⟨cur, hb, hc⟩ := h
  have s1 := heap_setCell_same w g (i * 2) cur 72 (.int .i64 x.w) hb
  have s2 := heap_setCell_same (w.setCell ⟨g, i * 2, none⟩ (.int .i64 x.w)) g (i * 2 + 1) _ 72 (.slice x.a x.n x.c) s1
  refine ⟨_, s2, fun k hk => ?_⟩
  have h0 := Array.getElem?_eq_some_iff.1 (hc i hi).1
  have h1 := Array.getElem?_eq_some_iff.1 (hc i hi).2
  obtain ⟨l0, _⟩ := h0
  obtain ⟨l1, _⟩ := h1
  unfold upd
  by_cases e : k = i
  · subst e
    rw [if_pos rfl]
    constructor
    · rw [Array.getElem?_setIfInBounds, if_neg (by omega), Array.getElem?_setIfInBounds, if_pos rfl]; simp [l0]
    · rw [Array.getElem?_setIfInBounds, if_pos rfl]; simp [l1]
  · rw [if_neg e]
    constructor
    · rw [Array.getElem?_setIfInBounds, if_neg (by omega), Array.getElem?_setIfInBounds, if_neg (by omega)]; exact (hc k hk).1
    · rw [Array.getElem?_setIfInBounds, if_neg (by omega), Array.getElem?_setIfInBounds, if_neg (by omega)]; exact (hc k hk).2
def swp (f : Nat → Coin) (i j : Nat) : Nat → Coin := upd (upd f i (f j)) j (f i)
theorem CB.swap {w g n f} (h : CB w g n f) {i j : Nat} (hi : i < n) (hj : j < n) {x y : Coin} (hx : f i = x) (hy : f j = y) :
    CB (((((w.setCell ⟨g, i * 2, none⟩ (.int .i64 y.w)).setCell ⟨g, i * 2 + 1, none⟩ (.slice y.a y.n y.c)).setCell ⟨g, j * 2, none⟩ (.int .i64 x.w)).setCell ⟨g, j * 2 + 1, none⟩ (.slice x.a x.n x.c)).drew) g n (swp f i j) := by
  subst hx hy
  exact ((h.put hi (f j)).put hj (f i)).of_block rfl
theorem grown_swap {w wr : World} {g : Nat} (h : w.grownBy wr (some g)) (i j k l : Nat) (a b c d : Value) :
    w.grownBy (((((wr.setCell ⟨g, i, none⟩ a).setCell ⟨g, j, none⟩ b).setCell ⟨g, k, none⟩ c).setCell ⟨g, l, none⟩ d).drew) (some g) :=
  grown_drew (grown_set (grown_set (grown_set (grown_set h _ _) _ _) _ _) _ _)

/-- after k swaps of the ranges at a and b -/
def swr (f : Nat → Coin) (a b k : Nat) : Nat → Coin := fun i => if a ≤ i ∧ i < a + k then f (b + (i - a)) else if b ≤ i ∧ i < b + k then f (a + (i - b)) else f i
theorem swr_succ (f : Nat → Coin) (a b k : Nat) (h : a + (k + 1) ≤ b) : swp (swr f a b k) (a + k) (b + k) = swr f a b (k+1) := by
  funext i
  unfold swp upd swr
  by_cases h1 : i = b + k
  · subst h1
    rw [if_pos rfl, if_neg (by omega), if_neg (by omega), if_neg (by omega), if_pos (by omega)]; congr 1; omega
  · rw [if_neg h1]
    by_cases h2 : i = a + k
    · subst h2
      rw [if_pos rfl, if_neg (by omega), if_neg (by omega), if_pos (by omega)]; congr 1; omega
    · rw [if_neg h2]
      by_cases h3 : a ≤ i ∧ i < a + k
      · rw [if_pos h3, if_pos (by omega)]
      · rw [if_neg h3]
        by_cases h4 : b ≤ i ∧ i < b + k
        · rw [if_pos h4, if_neg (by omega), if_pos (by omega)]
        · rw [if_neg h4, if_neg (by omega), if_neg (by omega)]
theorem swr_zero (f : Nat → Coin) (a b : Nat) : swr f a b 0 = f := by
  funext i; unfold swr; rw [if_neg (by omega), if_neg (by omega)]

set_option maxHeartbeats 1000000 in
theorem swapRange_any {g n c a b m : Nat} {f : Nat → Coin} {fv : Value} (w : World) (h : CB w g n f) (h1 : a + m ≤ b) (h2 : b + m ≤ n) (hn : n ≤ 1073741824) :
    Calls Try.prog 60 #[.slice (some ⟨g, 0, none⟩) n c, .int .i64 a, .int .i64 b, .int .i64 m, fv] w fun e w' => e = .returned (.tuple #[]) ∧ w.grownBy w' (some g) ∧ CB w' g n (swr f a b m) := by
  go_enter Try.func60, Try.ntmps60
  go_wp2
  go_loopw [10] (fun i wr => ∃ k : Nat, k ≤ m ∧ i = .int .i64 k ∧ CB wr g n (swr f a b k) ∧ w.grownBy wr (some g)) (fun i _ => m - (intOf i).toNat)
  case atStart => exact ⟨0, by omega, rfl, by rw [swr_zero]; exact h, World.grownBy.refl _ _⟩
  case round =>
    clear h
    obtain ⟨k, hk, rfl, h, hg⟩ := hrel
    by_cases hlt : k < m
    · have a0 := h.cell0 (i := a + k) (by omega)
      have a1 := h.cell1 (i := a + k) (by omega)
      have b0 := h.cell0 (i := b + k) (by omega)
      have b1 := h.cell1 (i := b + k) (by omega)
      have e0 := h.frozen ((a + k) * 2)
      have e1 := h.frozen ((a + k) * 2 + 1)
      have e2 := h.frozen ((b + k) * 2)
      have e3 := h.frozen ((b + k) * 2 + 1)
      have hd : decide ((k : Int) < m) = true := by simp; omega
      have hs := Lib.hid (swr_succ f a b k (by omega))
      have HC := fun x y => Lib.hid (h.swap (i := a + k) (j := b + k) (by omega) (by omega) (x := x) (y := y))
      generalize hx : swr f a b k (a + k) = x at *
      generalize hy : swr f a b k (b + k) = y at *
      have HX := Lib.hid hx
      have HY := Lib.hid hy
      have HCC := Lib.hid HC
      clear hx hy HC
      go_wp2
      go_region
      go_wp2
      go_roundw
      case rel => exact ⟨k + 1, by omega, by go_num, by rw [← hs.out]; exact h.swap (by omega) (by omega) HX.out HY.out, grown_swap hg _ _ _ _ _ _ _ _⟩
      case measure => simp [intOf]; omega
    · obtain rfl : k = m := by omega
      go_wp2
      go_end0
      exact ⟨rfl, hg, h⟩

/-- weights of neighbours in [a, b) do not fall -/
def Srtd (f : Nat → Coin) (a b : Nat) : Prop := ∀ i j, a ≤ i → i ≤ j → j < b → (f i).w ≤ (f j).w
/-- f' is f, permuted within [a, b) -/
def Pm (a b : Nat) (f f' : Nat → Coin) : Prop := ∃ s t : Nat → Nat, (∀ i, t (s i) = i) ∧ (∀ i, s (t i) = i) ∧ (∀ i, ¬ (a ≤ i ∧ i < b) → s i = i) ∧ ∀ i, f' i = f (s i)
theorem Pm.refl (a b f) : Pm a b f f := ⟨id, id, fun _ => rfl, fun _ => rfl, fun _ _ => rfl, fun _ => rfl⟩
theorem Pm.trans {a b f g h} (p : Pm a b f g) (q : Pm a b g h) : Pm a b f h := by
  obtain ⟨s, t, h1, h2, h3, h4⟩ := p
  obtain ⟨s', t', k1, k2, k3, k4⟩ := q
  exact ⟨s ∘ s', t' ∘ t, fun i => by simp [h1, k1], fun i => by simp [h2, k2], fun i hi => by simp [k3 i hi, h3 i hi], fun i => by simp [k4, h4]⟩
theorem Pm.mono {a b a' b' f g} (p : Pm a b f g) (h1 : a' ≤ a) (h2 : b ≤ b') : Pm a' b' f g := by
  obtain ⟨s, t, k1, k2, k3, k4⟩ := p
  exact ⟨s, t, k1, k2, fun i hi => k3 i (by omega), k4⟩
theorem Pm.off {a b f g} (p : Pm a b f g) {i : Nat} (hi : ¬ (a ≤ i ∧ i < b)) : g i = f i := by
  obtain ⟨s, t, k1, k2, k3, k4⟩ := p
  rw [k4, k3 i hi]
theorem Pm.from {a b f g} (p : Pm a b f g) {i : Nat} (h1 : a ≤ i) (h2 : i < b) : ∃ k, a ≤ k ∧ k < b ∧ g i = f k := by
  obtain ⟨s, t, k1, k2, k3, k4⟩ := p
  by_cases h : a ≤ s i ∧ s i < b
  · exact ⟨s i, h.1, h.2, k4 i⟩
  · exfalso
    have := k3 (s i) h
    have e := congrArg t this
    rw [k1, k1] at e
    omega
theorem Pm.swp {a b : Nat} (f : Nat → Coin) {i j : Nat} (hi1 : a ≤ i) (hi2 : i < b) (hj1 : a ≤ j) (hj2 : j < b) : Pm a b f (Srt.swp f i j) := by
  let s : Nat → Nat := fun k => if k = j then i else if k = i then j else k
  have hs : ∀ k, s (s k) = k := by
    intro k
    simp only [s]
    by_cases h1 : k = j
    · subst h1
      rw [if_pos rfl]
      by_cases h2 : i = k
      · rw [if_pos h2]; exact h2
      · rw [if_neg h2, if_pos rfl]
    · rw [if_neg h1]
      by_cases h2 : k = i
      · rw [if_pos h2, if_pos rfl]; exact h2.symm
      · rw [if_neg h2, if_neg h1, if_neg h2]
  refine ⟨s, s, hs, hs, fun k hk => ?_, fun k => ?_⟩
  · simp only [s]; rw [if_neg (by omega), if_neg (by omega)]
  · simp only [s, Srt.swp, upd]
    by_cases h1 : k = j
    · rw [if_pos h1, if_pos h1]
    · rw [if_neg h1, if_neg h1]
      by_cases h2 : k = i
      · rw [if_pos h2, if_pos h2]
      · rw [if_neg h2, if_neg h2]
theorem Pm.swr {a b lo hi : Nat} (f : Nat → Coin) (m : Nat) (h : a + m ≤ b) (h1 : lo ≤ a) (h2 : b + m ≤ hi) : Pm lo hi f (Srt.swr f a b m) := by
  induction m with
  | zero => rw [swr_zero]; exact Pm.refl _ _ _
  | succ m ih =>
    rw [← swr_succ f a b m h]
    exact (ih (by omega) (by omega)).trans (Pm.swp _ (by omega) (by omega) (by omega) (by omega))
end Go.Proofs.Ytpecemkjoklhfaa.Srt
