/-
  Walks: slices.ContainsFunc at prefix.Build's test; what a row of coins with their symbols is.
-/
import Derived.Test.YtpecemkjoklhfaaSrtE
import Derived.Test.YtpecemkjoklhfaaCat
import Derived.Test.YtpecemkjoklhfaaBldM
set_option linter.unusedVariables false
set_option linter.unusedSimpArgs false
namespace Go.Proofs.Ytpecemkjoklhfaa.Bld
open Go.RowKit K Srt

def heavyB (x : Int) : Bool := decide (x < 0) || decide (1073741824 < x)
set_option maxHeartbeats 1000000 in
theorem indexFunc_any {A : Option Addr} {n c : Nat} {l : List Int} (w : World) (HA : SI w .i64 A n l) :
    Calls Try.prog 47 #[.slice A n c, .func (.func 32) #[] #[]] w fun e w' => e = .returned (.int .i64 (if l.any heavyB then ((l.findIdx heavyB : Nat) : Int) else -1)) ∧ w = w' := by
  have hbig := HA.big
  have hlen := Lib.hid HA.len
  generalize hres : (if l.any heavyB then ((l.findIdx heavyB : Nat) : Int) else -1) = res
  have HRS := Lib.hid hres
  clear hres
  go_enter Try.func47, Try.ntmps47
  go_wp2
  go_loop [5, 8] (fun _ i => ∃ k : Nat, k ≤ n ∧ i = .int .i64 k ∧ Hid ((l.take k).any heavyB = false)) (fun _ i => n - (intOf i).toNat)
  case atStart => exact ⟨0, by omega, rfl, rfl⟩
  case round =>
    obtain ⟨k, hk, rfl, HB⟩ := hrel
    by_cases hlt : k < n
    · obtain ⟨b, off, x, rfl, hc, hx, _⟩ := HA.cells hlt
      have hlt' : (k : Int) < n := by omega
      have hh := heavy_any x w
      by_cases hb : heavyB x = true
      · have hb' : (decide (x < 0) || decide (1073741824 < x)) = true := hb
        have hB := Lib.hid hb
        have hB' := Lib.hid hb'
        clear hb hb' hh
        go_wp2_with (go_at_call 32; refine (heavy_any _ _).mono ?_; rintro e w' ⟨rfl, rfl⟩; rw [hB'.out])
        go_ret
        have e1 : l.findIdx heavyB = k := by
          rw [List.findIdx_eq (by rw [hlen.out]; exact hlt)]
          have hk2 : k < l.length := by rw [hlen.out]; exact hlt
          have hxe : l[k] = x := by have := hx.out; rw [List.getElem?_eq_getElem hk2] at this; injection this
          refine ⟨by rw [hxe]; exact hB.out, fun j hj => ?_⟩
          have hall := HB.out
          rw [List.any_eq_false] at hall
          have hm : l[j]'(by omega) ∈ l.take k := by
            rw [List.mem_take_iff_getElem]; exact ⟨j, by omega, rfl⟩
          simpa using hall _ hm
        have e2 : l.any heavyB = true := List.any_eq_true.2 ⟨x, List.mem_of_getElem? hx.out, hB.out⟩
        rw [← HRS.out, e2, if_pos rfl, e1]
        exact ⟨rfl, rfl⟩
      · have hb2 : heavyB x = false := by simpa using hb
        have hb' : (decide (x < 0) || decide (1073741824 < x)) = false := hb2
        have hB := Lib.hid hb2
        have hB' := Lib.hid hb'
        clear hb hb' hh hb2
        have hs : Hid ((l.take (k+1)).any heavyB = false) := by show _ = _; rw [Pfx.any_succ _ hx.out, HB.out, hB.out]; rfl
        go_wp2_with (go_at_call 32; refine (heavy_any _ _).mono ?_; rintro e w' ⟨rfl, rfl⟩; rw [hB'.out])
        go_round
        case rel => exact ⟨k + 1, by omega, by go_num, hs⟩
        case measure => simp [intOf]; omega
    · obtain rfl : k = n := by omega
      have e2 : l.any heavyB = false := by have := HB.out; rwa [List.take_of_length_le (by rw [hlen.out]; omega)] at this
      have E2 := Lib.hid e2
      clear e2
      go_wp2
      go_ret
      rw [← HRS.out, E2.out]
      exact ⟨rfl, rfl⟩
set_option maxHeartbeats 400000 in
theorem containsFunc_any {A : Option Addr} {n c : Nat} {l : List Int} (w : World) (HA : SI w .i64 A n l) :
    Calls Try.prog 31 #[.slice A n c, .func (.func 32) #[] #[]] w fun e w' => e = .returned (.bool (l.any heavyB)) ∧ w = w' := by
  cases hb : l.any heavyB with
  | false =>
    have hi : Hid (∀ W : World, SI W .i64 A n l → Calls Try.prog 47 #[.slice A n c, .func (.func 32) #[] #[]] W fun e w' => e = .returned (.int .i64 (-1)) ∧ W = w') := fun W h => by have := indexFunc_any (c := c) W h; rwa [hb] at this
    clear hb
    go_enter Try.func31, Try.ntmps31
    go_wp2_with (go_at_call 47; refine (hi.out _ HA).mono ?_; rintro e w' ⟨rfl, rfl⟩)
    go_ret
    exact ⟨rfl, rfl⟩
  | true =>
    have hi : Hid (∀ W : World, SI W .i64 A n l → Calls Try.prog 47 #[.slice A n c, .func (.func 32) #[] #[]] W fun e w' => e = .returned (.int .i64 ((l.findIdx heavyB : Nat) : Int)) ∧ W = w') := fun W h => by have := indexFunc_any (c := c) W h; rwa [hb] at this
    clear hb
    generalize l.findIdx heavyB = q at hi
    go_enter Try.func31, Try.ntmps31
    go_wp2_with (go_at_call 47; refine (hi.out _ HA).mono ?_; rintro e w' ⟨rfl, rfl⟩)
    go_ret
    exact ⟨by simp, rfl⟩

/-! ### rows of coins -/
/-- block g holds n coins, whose symbols are ss -/
structure Row (w : World) (g n : Nat) (f : Nat → Coin) (ss : Nat → List Int) : Prop where
  cb : CB w g n f
  sl : ∀ i, i < n → Sl w (f i).a ((ss i).map (.int .i64)) ∧ (f i).n = (ss i).length
  ap : ∀ i, i < n → ∀ b off s, (f i).a = some ⟨b, off, s⟩ → b ≠ g ∧ b < w.heap.size
/-- what it reads as -/
def rowL (n : Nat) (f : Nat → Coin) (ss : Nat → List Int) : List PC := (List.range n).map fun i => ((f i).w, ss i)
theorem perm_range {n : Nat} {s t : Nat → Nat} (h1 : ∀ i, t (s i) = i) (h2 : ∀ i, s (t i) = i) (h3 : ∀ i, ¬ (0 ≤ i ∧ i < n) → s i = i) : ((List.range n).map s).Perm (List.range n) := by
  have inj : ∀ a b, s a = s b → a = b := fun a b e => by have := congrArg t e; rwa [h1, h1] at this
  refine (List.perm_ext_iff_of_nodup ?_ List.nodup_range).2 (fun x => ?_)
  · exact List.Pairwise.map _ (fun a b hab e => hab (inj a b e)) List.nodup_range
  · simp only [List.mem_map, List.mem_range]
    constructor
    · rintro ⟨a, ha, rfl⟩
      rcases Nat.lt_or_ge (s a) n with h | h
      · exact h
      · have := h3 (s a) (by omega)
        have := inj _ _ this
        omega
    · intro hx
      refine ⟨t x, ?_, h2 x⟩
      rcases Nat.lt_or_ge (t x) n with h | h
      · exact h
      · have := h3 (t x) (by omega)
        rw [h2] at this
        omega
/-- the sort keeps each coin's symbols -/
theorem Row.sorted {w w' : World} {g n : Nat} {f f' : Nat → Coin} {ss : Nat → List Int} (h : Row w g n f ss) (hg : w.grownBy w' (some g)) (hc : CB w' g n f') (hp : Pm 0 n f f') (hs : Srtd f' 0 n) :
    ∃ ss', Row w' g n f' ss' ∧ (rowL n f' ss').Perm (rowL n f ss) ∧ (rowL n f' ss').Pairwise (fun a b => a.1 ≤ b.1) := by
  obtain ⟨s, t, h1, h2, h3, h4⟩ := hp
  have hlt : ∀ i, i < n → s i < n := fun i hi => by
    rcases Nat.lt_or_ge (s i) n with h | h
    · exact h
    · have := h3 (s i) (by omega)
      have := congrArg t this
      rw [h1, h1] at this
      omega
  refine ⟨fun i => ss (s i), ⟨hc, fun i hi => ?_, fun i hi b off sp e => ?_⟩, ?_, ?_⟩
  · rw [h4]
    obtain ⟨q1, q2⟩ := h.sl (s i) (hlt i hi)
    refine ⟨fun j u hu => ?_, q2⟩
    obtain ⟨b, off, e, hcell⟩ := q1 j u hu
    refine ⟨b, off, e, ?_⟩
    have hne := (h.ap (s i) (hlt i hi) b off none e).1
    exact hg.cell hcell (fun e2 => hne (by injection e2))
  · rw [h4] at e; have := h.ap (s i) (hlt i hi) b off sp e; exact ⟨this.1, Nat.lt_of_lt_of_le this.2 hg.size⟩
  · have : rowL n f' (fun i => ss (s i)) = ((List.range n).map s).map (fun i => ((f i).w, ss i)) := by
      unfold rowL; rw [List.map_map]; apply List.map_congr_left; intro i _; simp [h4]
    rw [this]
    exact (perm_range h1 h2 (fun i hi => h3 i hi)).map _
  · unfold rowL
    rw [List.pairwise_map]
    refine (List.pairwise_lt_range (n := n)).imp_of_mem ?_
    intro a b ha hb hab
    exact hs a b (by omega) (by omega) (by simpa using hb)
end Go.Proofs.Ytpecemkjoklhfaa.Bld
