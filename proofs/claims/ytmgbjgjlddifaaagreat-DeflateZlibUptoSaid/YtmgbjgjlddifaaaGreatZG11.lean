/-
  Texts of this claim, joined by program (SrtE, Cat, BldM, BldA, BldB). Walks: the stable sort of coins.
-/
import Derived.Test.YtmgbjgjlddifaaaGreatZG10
import Derived.Test.YtmgbjgjlddifaaaGreatChecked
import Derived.Test.YtmgbjgjlddifaaaGreatZG1
import Derived.Lib.AppendZeros
import Derived.Deep.AppendLies
set_option linter.unusedVariables false
set_option linter.unusedSimpArgs false
namespace Go.Proofs.YtmgbjgjlddifaaaGreat.Srt
open Go.RowKit K Go.Sort

theorem symOk (N : Nat) : SymOk N := by
  induction N with
  | zero => intro g n c a m b f w h0 h h1 h2; omega
  | succ N ih =>
    intro g n c a m b f w h0 h h1 h2 h3 hn hL hR
    by_cases k1 : m = a + 1
    · exact symMerge_one w h (by omega) (by omega) h2 h3 hn hR
    · by_cases k2 : b = m + 1
      · exact symMerge_last w h (by omega) (by omega) (by omega) h3 hn hL
      · exact symMerge_gen ih w (by omega) h (by omega) (by omega) h3 hn hL hR

theorem Srtd.mono {f a b a' b'} (h : Srtd f a b) (h1 : a ≤ a') (h2 : b' ≤ b) : Srtd f a' b' := fun p q k1 k2 k3 => h p q (by omega) k2 (by omega)
theorem Srtd.keep {f f' a b c d} (h : Srtd f a b) (p : Pm c d f f') (h1 : b ≤ c ∨ d ≤ a) : Srtd f' a b := fun i j k1 k2 k3 => by
  rw [p.off (i := i) (by omega), p.off (i := j) (by omega)]; exact h i j k1 k2 k3

structure St1 (f f' : Nat → Coin) (n a b : Nat) : Prop where
  ex : ∃ k, a = 20 * k ∧ b = 20 * k + 20 ∧ ∀ t, t < k → Srtd f' (20 * t) (20 * t + 20)
  le : a ≤ n
  pm : Pm 0 n f f'
structure St2 (f f' : Nat → Coin) (n bs : Nat) : Prop where
  pm : Pm 0 n f f'
  blk : ∀ t, Srtd f' (t * bs) (min (t * bs + bs) n)
structure St3 (f f' : Nat → Coin) (n bs a b : Nat) : Prop where
  ex : ∃ k, a = k * (2 * bs) ∧ b = a + 2 * bs ∧ (∀ t, t < k → Srtd f' (t * (2 * bs)) (t * (2 * bs) + 2 * bs)) ∧ ∀ t, 2 * k ≤ t → Srtd f' (t * bs) (min (t * bs + bs) n)
  le : a ≤ n
  pm : Pm 0 n f f'
theorem St1.start (f : Nat → Coin) (n : Nat) : St1 f f n 0 20 := ⟨⟨0, rfl, rfl, fun t h => by omega⟩, by omega, Pm.refl _ _ _⟩
theorem St1.step {f f' f2 n a b} (h : St1 f f' n a b) (hb : b ≤ n) (p : Pm a b f' f2) (s : Srtd f2 a b) : St1 f f2 n b (b + 20) := by
  obtain ⟨k, rfl, rfl, hk⟩ := h.ex
  refine ⟨⟨k + 1, by omega, by omega, fun t ht => ?_⟩, hb, h.pm.trans (p.mono (by omega) hb)⟩
  by_cases e : t = k
  · subst e; exact s
  · exact (hk t (by omega)).keep p (by omega)
theorem St1.done {f f' f2 n a b} (h : St1 f f' n a b) (hb : ¬ b ≤ n) (p : Pm a n f' f2) (s : Srtd f2 a n) : St2 f f2 n 20 := by
  obtain ⟨k, rfl, rfl, hk⟩ := h.ex
  refine ⟨h.pm.trans (p.mono (by omega) (by omega)), fun t => ?_⟩
  by_cases e : t < k
  · exact ((hk t e).keep p (by omega)).mono (by omega) (by omega)
  · by_cases e2 : t = k
    · subst e2; exact s.mono (by omega) (by omega)
    · intro i j k1 k2 k3; omega
theorem St1.fits {f f' n a b} (h : St1 f f' n a b) : a ≤ b ∧ b ≤ n + 20 := by
  obtain ⟨k, rfl, rfl, hk⟩ := h.ex
  have := h.le
  omega
theorem St2.start {f f' n bs} (h : St2 f f' n bs) : St3 f f' n bs 0 (2 * bs) := ⟨⟨0, by simp, by simp, fun t h => by omega, fun t _ => h.blk t⟩, by omega, h.pm⟩
theorem St3.parts {f f' n bs a b} (h : St3 f f' n bs a b) (hb : b ≤ n) : Srtd f' a (a + bs) ∧ Srtd f' (a + bs) b ∧ b = a + 2 * bs := by
  obtain ⟨k, h1, h2, h3, h4⟩ := h.ex
  have e1 := h4 (2 * k) (by omega)
  have e2 := h4 (2 * k + 1) (by omega)
  have ea : 2 * k * bs = a := by rw [h1, Nat.mul_comm 2 k, Nat.mul_assoc]
  have eb : (2 * k + 1) * bs = a + bs := by rw [Nat.add_mul, ea, Nat.one_mul]
  rw [ea] at e1; rw [eb] at e2
  exact ⟨e1.mono (by omega) (by omega), e2.mono (by omega) (by omega), h2⟩
theorem St3.step {f f' f2 n bs a b} (h : St3 f f' n bs a b) (hb : b ≤ n) (hbs : 1 ≤ bs) (p : Pm a b f' f2) (s : Srtd f2 a b) : St3 f f2 n bs b (b + 2 * bs) := by
  obtain ⟨k, h1, h2, h3, h4⟩ := h.ex
  have ea : (k + 1) * (2 * bs) = b := by rw [Nat.add_mul, ← h1]; omega
  refine ⟨⟨k + 1, ea.symm, rfl, fun t ht => ?_, fun t ht => ?_⟩, hb, h.pm.trans (p.mono (by omega) hb)⟩
  · by_cases e : t = k
    · subst e; rw [← h1, ← h2]; exact s
    · have : t * (2 * bs) + 2 * bs ≤ a := by
        rw [h1]; have := Nat.mul_le_mul_right (2 * bs) (show t + 1 ≤ k by omega)
        rw [Nat.add_mul] at this; omega
      exact (h3 t (by omega)).keep p (.inl this)
  · have : b ≤ t * bs := by
      rw [← ea]; have := Nat.mul_le_mul_right bs ht
      rw [← Nat.mul_assoc, Nat.mul_comm (k + 1) 2]; exact this
    exact (h4 t (by omega)).keep p (.inr this)
theorem St3.rest {f f' n bs a b} (h : St3 f f' n bs a b) (hb : ¬ b ≤ n) (hm : a + bs < n) : Srtd f' a (a + bs) ∧ Srtd f' (a + bs) n := by
  obtain ⟨k, h1, h2, h3, h4⟩ := h.ex
  have e1 := h4 (2 * k) (by omega)
  have e2 := h4 (2 * k + 1) (by omega)
  have ea : 2 * k * bs = a := by rw [h1, Nat.mul_comm 2 k, Nat.mul_assoc]
  have eb : (2 * k + 1) * bs = a + bs := by rw [Nat.add_mul, ea, Nat.one_mul]
  rw [ea] at e1; rw [eb] at e2
  exact ⟨e1.mono (by omega) (by omega), e2.mono (by omega) (by omega)⟩
theorem St3.done {f f' f2 n bs a b} (h : St3 f f' n bs a b) (hb : ¬ b ≤ n) (hbs : 1 ≤ bs) (p : Pm a n f' f2) (s : Srtd f2 a n) : St2 f f2 n (bs * 2) := by
  obtain ⟨k, h1, h2, h3, h4⟩ := h.ex
  refine ⟨h.pm.trans (p.mono (by omega) (by omega)), fun t => ?_⟩
  rw [Nat.mul_comm bs 2]
  by_cases e : t < k
  · have : t * (2 * bs) + 2 * bs ≤ a := by
      rw [h1]; have := Nat.mul_le_mul_right (2 * bs) (show t + 1 ≤ k by omega)
      rw [Nat.add_mul] at this; omega
    exact ((h3 t e).keep p (.inl this)).mono (by omega) (by omega)
  · by_cases e2 : t = k
    · subst e2; rw [← h1]; exact s.mono (by omega) (by omega)
    · have : n < t * (2 * bs) := by
        have := Nat.mul_le_mul_right (2 * bs) (show k + 1 ≤ t by omega)
        rw [Nat.add_mul, ← h1] at this; omega
      intro i j k1 k2 k3; omega
theorem St3.single {f f' n bs a b} (h : St3 f f' n bs a b) (hb : ¬ b ≤ n) (hm : ¬ a + bs < n) : Srtd f' a n := by
  obtain ⟨k, h1, h2, h3, h4⟩ := h.ex
  have e1 := h4 (2 * k) (by omega)
  have ea : 2 * k * bs = a := by rw [h1, Nat.mul_comm 2 k, Nat.mul_assoc]
  rw [ea] at e1
  exact e1.mono (by omega) (by omega)
theorem St3.fits {f f' n bs a b} (h : St3 f f' n bs a b) : b ≤ n + 2 * bs ∧ b = a + 2 * bs := by
  obtain ⟨k, h1, h2, h3, h4⟩ := h.ex
  have := h.le
  omega
theorem St2.done {f f' n bs} (h : St2 f f' n bs) (hb : ¬ bs < n) : Pm 0 n f f' ∧ Srtd f' 0 n := by
  have := h.blk 0
  rw [Nat.zero_mul] at this
  exact ⟨h.pm, this.mono (by omega) (by omega)⟩


set_option maxHeartbeats 4000000 in
theorem stable_any {g n c : Nat} {f : Nat → Coin} (w : World) (h : CB w g n f) (hn : n ≤ 1073741824) :
    Calls Tryz.prog 95 #[.slice (some ⟨g, 0, none⟩) n c, .int .i64 n, .func (.func 72) #[] #[]] w (InsPost w g n 0 n f) := by
  go_enter Tryz.func95, Tryz.ntmps95
  go_wp2
  go_loopw [7, 8] (fun av bv wr => ∃ (a b : Nat) (f' : Nat → Coin), av = .int .i64 a ∧ bv = .int .i64 b ∧ CB wr g n f' ∧ w.grownBy wr (some g) ∧ St1 f f' n a b) (fun _ bv _ => n + 21 - (intOf bv).toNat)
  case atStart => exact ⟨0, 20, f, rfl, rfl, h, World.grownBy.refl _ _, St1.start f n⟩
  case round =>
    clear h
    obtain ⟨a, b, f', rfl, rfl, h, hg, h1⟩ := hrel
    have hf := h1.fits
    by_cases hb : b ≤ n
    · go_wp2_with (go_at_call 101; refine (insertion_any (a := a) (b := b) _ h (by omega) hb hn).mono ?_; rintro e w' ⟨f2, rfl, hg2, hc2, hp2, hs2⟩)
      go_roundw
      case rel => exact ⟨b, b + 20, f2, rfl, by go_num, hc2, grown_trans hg hg2, h1.step hb hp2 hs2⟩
      case measure => simp [intOf]; omega
    · have hle := h1.le
      go_wp2_with (go_at_call 101; refine (insertion_any (a := a) (b := n) _ h hle (Nat.le_refl _) hn).mono ?_; rintro e w' ⟨f2, rfl, hg2, hc2, hp2, hs2⟩)
      have h2 := h1.done hb hp2 hs2
      have hg3 := grown_trans hg hg2
      clear h hg hg2 hp2 hs2
      go_loopw [6, 7, 8, 9] (fun sv _ _ _ wr => ∃ (bs : Nat) (f' : Nat → Coin), 20 ≤ bs ∧ bs ≤ 2147483648 ∧ sv = .int .i64 bs ∧ CB wr g n f' ∧ w.grownBy wr (some g) ∧ St2 f f' n bs) (fun sv _ _ _ _ => n - (intOf sv).toNat)
      case atStart => exact ⟨20, f2, by omega, by omega, rfl, hc2, hg3, h2⟩
      case round =>
        clear h2 hg3 hc2 h1
        obtain ⟨bs, f3, hbs1, hbs2, rfl, h, hg, h2⟩ := hrel
        obtain ⟨wo, rfl⟩ : ∃ wo : World, wo = wr := ⟨_, rfl⟩
        by_cases hlt : bs < n
        · have hd : decide ((bs : Int) < (n : Int)) = true := by simp; omega
          have h3 := h2.start
          go_wp2
          go_loopw [7, 8] (fun av bv wr => ∃ (a b : Nat) (f' : Nat → Coin), av = .int .i64 a ∧ bv = .int .i64 b ∧ CB wr g n f' ∧ w.grownBy wr (some g) ∧ St3 f f' n bs a b) (fun _ bv _ => n + 2 * bs + 1 - (intOf bv).toNat)
          case atStart => exact ⟨0, 2 * bs, f3, rfl, by go_num, h, hg, h3⟩
          case round =>
            clear h3 h hg h2
            obtain ⟨a, b, f4, rfl, rfl, h, hg, h3⟩ := hrel
            have hf := h3.fits
            obtain ⟨hf1, hf2⟩ := hf
            have HF2 := Lib.hid hf2
            have hle := h3.le
            clear hf2
            have hlt2 : a + bs ≤ b := by have := HF2.out; omega
            have hlt3 : a + bs < b := by have := HF2.out; omega
            by_cases hb : b ≤ n
            · obtain ⟨q1, q2, -⟩ := h3.parts hb
              have Q1 := Lib.hid q1
              have Q2 := Lib.hid q2
              clear q1 q2
              go_wp2_with (go_at_call 102; refine ((symOk (b - a)).at (a := a) (m := a + bs) (b := b) _ (by omega) h (by omega) hlt3 hb hn Q1.out Q2.out rfl (by omega) rfl).mono ?_; rintro e w' ⟨f5, rfl, hg2, hc2, hp2, hs2⟩)
              go_roundw
              case rel => exact ⟨b, b + 2 * bs, f5, rfl, by go_num, hc2, grown_trans hg hg2, h3.step hb (by omega) hp2 hs2⟩
              case measure => simp [intOf]; omega
            · by_cases hm : a + bs < n
              · obtain ⟨q1, q2⟩ := h3.rest hb hm
                have Q1 := Lib.hid q1
                have Q2 := Lib.hid q2
                clear q1 q2
                go_wp2_with (go_at_call 102; refine ((symOk (n - a)).at (a := a) (m := a + bs) (b := n) _ (by omega) h (by omega) hm (Nat.le_refl _) hn Q1.out Q2.out rfl (by omega) rfl).mono ?_; rintro e w' ⟨f5, rfl, hg2, hc2, hp2, hs2⟩)
                go_roundw
                case rel => exact ⟨bs * 2, f5, by omega, by omega, by go_num, hc2, grown_trans hg hg2, h3.done hb (by omega) hp2 hs2⟩
                case measure => simp [intOf]; omega
              · have hs2 := h3.single hb hm
                have HS2 := Lib.hid hs2
                clear hs2
                go_wp2
                go_roundw
                case rel => exact ⟨bs * 2, f4, by omega, by omega, by go_num, h, hg, h3.done hb (by omega) (Pm.refl _ _ _) HS2.out⟩
                case measure => simp [intOf]; omega
        · obtain ⟨q1, q2⟩ := h2.done hlt
          have Q2 := Lib.hid q2
          clear q2
          go_wp2
          go_end0
          exact ⟨f3, rfl, hg, h, q1, Q2.out⟩

set_option maxHeartbeats 400000 in
theorem sortStable_any {g n c : Nat} {f : Nat → Coin} (w : World) (h : CB w g n f) (hn : n ≤ 1073741824) :
    Calls Tryz.prog 74 #[.slice (some ⟨g, 0, none⟩) n c, .func (.func 72) #[] #[]] w (InsPost w g n 0 n f) := by
  go_enter Tryz.func74, Tryz.ntmps74
  go_wp2_with (go_at_call 95; refine (stable_any _ h hn).mono ?_; rintro e w' ⟨f5, rfl, hg2, hc2, hp2, hs2⟩)
  go_end0
  exact ⟨f5, rfl, hg2, hc2, hp2, hs2⟩
end Go.Proofs.YtmgbjgjlddifaaaGreat.Srt
set_option linter.unusedVariables false
set_option linter.unusedSimpArgs false
namespace Go.Proofs.YtmgbjgjlddifaaaGreat.Cat
open Go.RowKit K

theorem infoInt : (Tryz.prog.info? 3).map (fun i => (i.zero, i.size, i.bytes)) = some (some (.int .i64 0), 1, 8) := by kernel_rfl
theorem infoCoin : (Tryz.prog.info? 130).map (fun i => (i.zero, i.size, i.bytes)) = some (some (.agg #[.int .i64 0, .slice none 0 0]), 2, 32) := by kernel_rfl
def cont (k : Nat) (xs ys : List Value) : List Value := if k = 0 then [] else if k = 1 then xs else xs ++ ys
def clen (k n m : Nat) : Nat := if k = 0 then 0 else if k = 1 then n else n + m
/-- what a slice of two slices holds -/
structure Two (w : World) (A : Option Addr) (A1 : Option Addr) (n1 c1 : Nat) (A2 : Option Addr) (n2 c2 : Nat) : Prop where
  sl : Sl w A [.slice A1 n1 c1, .slice A2 n2 c2]
def CatPost (base T sz n : Nat) (xs : List Value) (w : World) (e : Ending) (w' : World) : Prop := ∃ A' c', e = .returned (.slice A' n c') ∧ w'.ownsRow base T sz (.slice A' n c') n xs ∧ Below w.heap.size w w'

theorem zerosI (w : World) (k : Nat) (h0 : 0 < k) (hk : k ≤ 1099511627776) : (Builtin.append_ #[43, 3] 43 #[.slice none 0 0, .int .i64 k]).run Tryz.prog w =
    .ok (.slice (some ⟨w.heap.size, 0, none⟩) k (grownCap w k 0 3)) (w.drew.alloc (.cells (Builtin.zeroCells (Value.cells (.int .i64 0)) k ++ Builtin.zeroCells (Value.cells (.int .i64 0)) (grownCap w k 0 3 - k)) 3)) := by
  obtain ⟨i0, hi, hz0, hz1, hz2⟩ := info_parts infoInt
  exact Lib.run_append_nil_zeros (P := Tryz.prog) w 43 3 43 3 i0 _ .i64 .i64 Tryz.underlying43 Tryz.underlying3 hi hz0 k h0 (by omega) (by omega) (by rw [hz2]; omega)
set_option maxHeartbeats 1000000 in
theorem growI_any (w : World) (k : Nat) (hk : k ≤ 1099511627776) :
    Calls Tryz.prog 66 #[.slice none 0 0, .int .i64 k] w (CatPost w.heap.size 3 1 0 [] w) := by
  rcases Nat.eq_zero_or_pos k with h0 | h0
  · subst h0
    go_enter Tryz.func66, Tryz.ntmps66
    go_wp2
    go_ret
    exact ⟨none, 0, rfl, World.ownsRow_nil _ _ _ _, Below.refl _ _⟩
  · go_enter Tryz.func66, Tryz.ntmps66
    go_wp2_with (at_builtin; refine Lib.wpList_append_run _ rfl (.tmp 20) (.tmp 21) _ _ rfl (.slice none 0 0) (.int .i64 k) rfl rfl _ _ (zerosI _ k h0 hk) ?_)
    have hle := grownCap_le_maxLen w k 0 3 (by unfold maxLen; omega)
    have hge := grownCap_ge w k 0 3
    generalize grownCap w k 0 3 = cp at *
    have HLE := Lib.hid hle
    have HGE := Lib.hid hge
    clear hle hge
    go_wp2
    go_ret
    have hle2 : cp ≤ maxLen := HLE.out
    unfold maxLen at hle2
    have hge := HGE.out
    refine ⟨_, _, rfl, ⟨by simp, .inr ⟨w.heap.size, cp, _, rfl, Nat.le_refl _, heap_alloc_new _ _, by omega, by unfold maxLen; omega, ?_, by simp⟩⟩, ((Below.refl _ _).drew).alloc (Nat.le_refl _) _⟩
    rw [Array.size_append, size_zeroCells, size_zeroCells]
    simp only [List.size_toArray, List.length_cons, List.length_nil]
    omega

set_option maxHeartbeats 2000000 in
theorem concatI_any {A A1 A2 : Option Addr} {c n1 c1 n2 c2 : Nat} {xs ys : List Value} (w : World) (HA : Two w A A1 n1 c1 A2 n2 c2) (HX : Sl w A1 xs) (HY : Sl w A2 ys)
    (hx : xs.length = n1 * 1) (hy : ys.length = n2 * 1) (hx1 : ∀ u ∈ xs, u.oneCell' = true) (hy1 : ∀ u ∈ ys, u.oneCell' = true) (hn1 : n1 ≤ 1073741824) (hn2 : n2 ≤ 1073741824) :
    Calls Tryz.prog 38 #[.slice A 2 c] w (CatPost w.heap.size 3 1 (n1 + n2) (xs ++ ys) w) := by
  have hlx := Lib.hid hx
  have hly := Lib.hid hy
  have hox := Lib.hid hx1
  have hoy := Lib.hid hy1
  obtain ⟨b, off, rfl, hc0⟩ := HA.sl 0 _ rfl
  obtain ⟨b', off', e, hc1⟩ := HA.sl 1 _ rfl
  injection e with e; injection e with e1 e2; subst e1 e2
  have hb := World.block_lt_of_cell? w _ hc0
  simp only [Nat.add_zero] at hc0
  clear hx hy hx1 hy1
  go_enter Tryz.func38, Tryz.ntmps38
  go_wp2
  go_loop [3, 5, 11] (fun sv _ i => ∃ k : Nat, k ≤ 2 ∧ i = .int .i64 k ∧ sv = .int .i64 (clen k n1 n2)) (fun _ _ i => 2 - (intOf i).toNat)
  case atStart => exact ⟨0, by omega, rfl, rfl⟩
  case round =>
    obtain ⟨k, hk, rfl, rfl⟩ := hrel
    rcases (by omega : k = 0 ∨ k = 1 ∨ k = 2) with rfl | rfl | rfl
    · have e0 : clen 0 n1 n2 = 0 := rfl
      rw [e0]
      go_wp2
      go_round
      case rel => exact ⟨1, by omega, rfl, eint (by simp [clen])⟩
      case measure => simp [intOf]
    · have e0 : clen 1 n1 n2 = n1 := rfl
      rw [e0]
      go_wp2
      go_round
      case rel => exact ⟨2, by omega, rfl, eint (by simp [clen])⟩
      case measure => simp [intOf]
    · have e0 : clen 2 n1 n2 = n1 + n2 := rfl
      rw [e0]
      go_wp2_with (go_at_call 66; refine (growI_any _ (n1 + n2) (by omega)).mono ?_; rintro e w1 ⟨A', c', rfl, hown, hbel⟩)
      go_loopw [6, 8, 27] (fun v _ i wr => ∃ (k : Nat) (Ar : Option Addr) (cr : Nat), k ≤ 2 ∧ i = .int .i64 k ∧ v = .slice Ar (clen k n1 n2) cr ∧ wr.ownsRow w.heap.size 3 1 (.slice Ar (clen k n1 n2) cr) (clen k n1 n2) (cont k xs ys) ∧ Below w.heap.size w wr) (fun _ _ i _ => 2 - (intOf i).toNat)
      case atStart => exact ⟨0, A', c', by omega, rfl, rfl, hown, hbel⟩
      case round =>
        clear hown hbel
        obtain ⟨k, Ar, cr, hk, rfl, rfl, hown, hbel⟩ := hrel
        have d0 := (hbel.cell (p := ⟨b, off, none⟩) hb).trans hc0
        have d1 := (hbel.cell (p := ⟨b, off + 1, none⟩) hb).trans hc1
        have hsz := hbel.size
        rcases (by omega : k = 0 ∨ k = 1 ∨ k = 2) with rfl | rfl | rfl
        · have e0 : clen 0 n1 n2 = 0 := rfl
          have e1 : cont 0 xs ys = [] := rfl
          rw [e0, e1] at hown
          rw [e0]
          have HX2 := HX.below hbel (Nat.le_refl _)
          go_wp2_with (at_builtin; refine wpList_append_sl _ rfl (.tmp 31) (.tmp 32) _ rfl w.heap.size 3 1 8 _ Tryz.underlying43 infoInt rfl (by omega) (.slice Ar 0 cr) 0 [] rfl hown A1 n1 c1 xs rfl hlx.out HX2 hox.out ?c1 ?c2 hsz ?_)
          case c1 => unfold maxLen; omega
          case c2 => omega
          intro v' w2 hown2 hg2 _
          obtain ⟨A3, c3, rfl⟩ := own_form hown2
          have hb2 : Below w.heap.size w w2 := hbel.grown hg2 hsz (fun q hq => (hown.lt q hq).1)
          go_wp2
          go_roundw
          case rel => exact ⟨1, A3, c3, by omega, rfl, by simp [clen], by simpa [clen, cont] using hown2, hb2⟩
          case measure => simp [intOf]
        · have e0 : clen 1 n1 n2 = n1 := rfl
          have e1 : cont 1 xs ys = xs := rfl
          rw [e0, e1] at hown
          rw [e0]
          have HY2 := HY.below hbel (Nat.le_refl _)
          go_wp2_with (at_builtin; refine wpList_append_sl _ rfl (.tmp 31) (.tmp 32) _ rfl w.heap.size 3 1 8 _ Tryz.underlying43 infoInt rfl (by omega) (.slice Ar n1 cr) n1 xs rfl hown A2 n2 c2 ys rfl hly.out HY2 hoy.out ?c3 ?c4 hsz ?_)
          case c3 => unfold maxLen; omega
          case c4 => omega
          intro v' w2 hown2 hg2 _
          obtain ⟨A3, c3, rfl⟩ := own_form hown2
          have hb2 : Below w.heap.size w w2 := hbel.grown hg2 hsz (fun q hq => (hown.lt q hq).1)
          go_wp2
          go_roundw
          case rel => exact ⟨2, A3, c3, by omega, rfl, by simp [clen], by simpa [clen, cont] using hown2, hb2⟩
          case measure => simp [intOf]
        · have e0 : clen 2 n1 n2 = n1 + n2 := rfl
          have e1 : cont 2 xs ys = xs ++ ys := rfl
          rw [e0, e1] at hown
          rw [e0]
          go_wp2
          go_ret
          exact ⟨Ar, cr, rfl, hown, hbel⟩

theorem zerosC (w : World) (k : Nat) (h0 : 0 < k) (hk : k ≤ 1099511627776) : (Builtin.append_ #[128, 3] 128 #[.slice none 0 0, .int .i64 k]).run Tryz.prog w =
    .ok (.slice (some ⟨w.heap.size, 0, none⟩) k (grownCap w k 0 130)) (w.drew.alloc (.cells (Builtin.zeroCells (Value.cells (.agg #[.int .i64 0, .slice none 0 0])) k ++ Builtin.zeroCells (Value.cells (.agg #[.int .i64 0, .slice none 0 0])) (grownCap w k 0 130 - k)) 130)) := by
  obtain ⟨i0, hi, hz0, hz1, hz2⟩ := info_parts infoCoin
  exact Lib.run_append_nil_zeros (P := Tryz.prog) w 128 3 128 130 i0 _ .i64 .i64 Tryz.underlying128 Tryz.underlying3 hi hz0 k h0 (by omega) (by omega) (by rw [hz2]; omega)
set_option maxHeartbeats 1000000 in
theorem growC_any (w : World) (k : Nat) (hk : k ≤ 1099511627776) :
    Calls Tryz.prog 96 #[.slice none 0 0, .int .i64 k] w (CatPost w.heap.size 130 2 0 [] w) := by
  rcases Nat.eq_zero_or_pos k with h0 | h0
  · subst h0
    go_enter Tryz.func96, Tryz.ntmps96
    go_wp2
    go_ret
    exact ⟨none, 0, rfl, World.ownsRow_nil _ _ _ _, Below.refl _ _⟩
  · go_enter Tryz.func96, Tryz.ntmps96
    go_wp2_with (at_builtin; refine Lib.wpList_append_run _ rfl (.tmp 20) (.tmp 21) _ _ rfl (.slice none 0 0) (.int .i64 k) rfl rfl _ _ (zerosC _ k h0 hk) ?_)
    have hle := grownCap_le_maxLen w k 0 130 (by unfold maxLen; omega)
    have hge := grownCap_ge w k 0 130
    generalize grownCap w k 0 130 = cp at *
    have HLE := Lib.hid hle
    have HGE := Lib.hid hge
    clear hle hge
    go_wp2
    go_ret
    have hle2 : cp ≤ maxLen := HLE.out
    unfold maxLen at hle2
    have hge := HGE.out
    refine ⟨_, _, rfl, ⟨by simp, .inr ⟨w.heap.size, cp, _, rfl, Nat.le_refl _, heap_alloc_new _ _, by omega, by unfold maxLen; omega, ?_, by simp⟩⟩, ((Below.refl _ _).drew).alloc (Nat.le_refl _) _⟩
    rw [Array.size_append, size_zeroCells, size_zeroCells]
    simp only [List.size_toArray, List.length_cons, List.length_nil]
    omega

set_option maxHeartbeats 2000000 in
theorem concatC_any {A A1 A2 : Option Addr} {c n1 c1 n2 c2 : Nat} {xs ys : List Value} (w : World) (HA : Two w A A1 n1 c1 A2 n2 c2) (HX : Sl w A1 xs) (HY : Sl w A2 ys)
    (hx : xs.length = n1 * 2) (hy : ys.length = n2 * 2) (hx1 : ∀ u ∈ xs, u.oneCell' = true) (hy1 : ∀ u ∈ ys, u.oneCell' = true) (hn1 : n1 ≤ 1073741824) (hn2 : n2 ≤ 1073741824) :
    Calls Tryz.prog 75 #[.slice A 2 c] w (CatPost w.heap.size 130 2 (n1 + n2) (xs ++ ys) w) := by
  have hlx := Lib.hid hx
  have hly := Lib.hid hy
  have hox := Lib.hid hx1
  have hoy := Lib.hid hy1
  obtain ⟨b, off, rfl, hc0⟩ := HA.sl 0 _ rfl
  obtain ⟨b', off', e, hc1⟩ := HA.sl 1 _ rfl
  injection e with e; injection e with e1 e2; subst e1 e2
  have hb := World.block_lt_of_cell? w _ hc0
  simp only [Nat.add_zero] at hc0
  clear hx hy hx1 hy1
  go_enter Tryz.func75, Tryz.ntmps75
  go_wp2
  go_loop [3, 5, 11] (fun sv _ i => ∃ k : Nat, k ≤ 2 ∧ i = .int .i64 k ∧ sv = .int .i64 (clen k n1 n2)) (fun _ _ i => 2 - (intOf i).toNat)
  case atStart => exact ⟨0, by omega, rfl, rfl⟩
  case round =>
    obtain ⟨k, hk, rfl, rfl⟩ := hrel
    rcases (by omega : k = 0 ∨ k = 1 ∨ k = 2) with rfl | rfl | rfl
    · have e0 : clen 0 n1 n2 = 0 := rfl
      rw [e0]
      go_wp2
      go_round
      case rel => exact ⟨1, by omega, rfl, eint (by simp [clen])⟩
      case measure => simp [intOf]
    · have e0 : clen 1 n1 n2 = n1 := rfl
      rw [e0]
      go_wp2
      go_round
      case rel => exact ⟨2, by omega, rfl, eint (by simp [clen])⟩
      case measure => simp [intOf]
    · have e0 : clen 2 n1 n2 = n1 + n2 := rfl
      rw [e0]
      go_wp2_with (go_at_call 96; refine (growC_any _ (n1 + n2) (by omega)).mono ?_; rintro e w1 ⟨A', c', rfl, hown, hbel⟩)
      go_loopw [6, 8, 27] (fun v _ i wr => ∃ (k : Nat) (Ar : Option Addr) (cr : Nat), k ≤ 2 ∧ i = .int .i64 k ∧ v = .slice Ar (clen k n1 n2) cr ∧ wr.ownsRow w.heap.size 130 2 (.slice Ar (clen k n1 n2) cr) (clen k n1 n2) (cont k xs ys) ∧ Below w.heap.size w wr) (fun _ _ i _ => 2 - (intOf i).toNat)
      case atStart => exact ⟨0, A', c', by omega, rfl, rfl, hown, hbel⟩
      case round =>
        clear hown hbel
        obtain ⟨k, Ar, cr, hk, rfl, rfl, hown, hbel⟩ := hrel
        have d0 := (hbel.cell (p := ⟨b, off, none⟩) hb).trans hc0
        have d1 := (hbel.cell (p := ⟨b, off + 1, none⟩) hb).trans hc1
        have hsz := hbel.size
        rcases (by omega : k = 0 ∨ k = 1 ∨ k = 2) with rfl | rfl | rfl
        · have e0 : clen 0 n1 n2 = 0 := rfl
          have e1 : cont 0 xs ys = [] := rfl
          rw [e0, e1] at hown
          rw [e0]
          have HX2 := HX.below hbel (Nat.le_refl _)
          go_wp2_with (at_builtin; refine wpList_append_sl _ rfl (.tmp 31) (.tmp 32) _ rfl w.heap.size 130 2 32 _ Tryz.underlying128 infoCoin rfl (by omega) (.slice Ar 0 cr) 0 [] rfl hown A1 n1 c1 xs rfl hlx.out HX2 hox.out ?c1 ?c2 hsz ?_)
          case c1 => unfold maxLen; omega
          case c2 => omega
          intro v' w2 hown2 hg2 _
          obtain ⟨A3, c3, rfl⟩ := own_form hown2
          have hb2 : Below w.heap.size w w2 := hbel.grown hg2 hsz (fun q hq => (hown.lt q hq).1)
          go_wp2
          go_roundw
          case rel => exact ⟨1, A3, c3, by omega, rfl, by simp [clen], by simpa [clen, cont] using hown2, hb2⟩
          case measure => simp [intOf]
        · have e0 : clen 1 n1 n2 = n1 := rfl
          have e1 : cont 1 xs ys = xs := rfl
          rw [e0, e1] at hown
          rw [e0]
          have HY2 := HY.below hbel (Nat.le_refl _)
          go_wp2_with (at_builtin; refine wpList_append_sl _ rfl (.tmp 31) (.tmp 32) _ rfl w.heap.size 130 2 32 _ Tryz.underlying128 infoCoin rfl (by omega) (.slice Ar n1 cr) n1 xs rfl hown A2 n2 c2 ys rfl hly.out HY2 hoy.out ?c3 ?c4 hsz ?_)
          case c3 => unfold maxLen; omega
          case c4 => omega
          intro v' w2 hown2 hg2 _
          obtain ⟨A3, c3, rfl⟩ := own_form hown2
          have hb2 : Below w.heap.size w w2 := hbel.grown hg2 hsz (fun q hq => (hown.lt q hq).1)
          go_wp2
          go_roundw
          case rel => exact ⟨2, A3, c3, by omega, rfl, by simp [clen], by simpa [clen, cont] using hown2, hb2⟩
          case measure => simp [intOf]
        · have e0 : clen 2 n1 n2 = n1 + n2 := rfl
          have e1 : cont 2 xs ys = xs ++ ys := rfl
          rw [e0, e1] at hown
          rw [e0]
          go_wp2
          go_ret
          exact ⟨Ar, cr, rfl, hown, hbel⟩
end Go.Proofs.YtmgbjgjlddifaaaGreat.Cat
set_option linter.unusedVariables false
set_option linter.unusedSimpArgs false
namespace Go.Proofs.YtmgbjgjlddifaaaGreat.Bld
open Go.RowKit K

abbrev PC := Int × List Int
def pairsA : List PC → List PC
  | a :: b :: t => (a.1 + b.1, a.2 ++ b.2) :: pairsA t
  | _ => []
def ownA (l : List Int) (k : Nat) : List PC := (List.range k).filterMap fun i => if 0 < l.getD i 0 then some (l.getD i 0, [(i : Int)]) else none
theorem ownA_succ {l : List Int} {k : Nat} {x : Int} (h : l[k]? = some x) : ownA l (k+1) = ownA l k ++ if 0 < x then [(x, [(k : Int)])] else [] := by
  unfold ownA
  rw [List.range_succ, List.filterMap_append]
  congr 1
  have := getD_of h 0
  simp only [List.filterMap_cons, List.filterMap_nil, this]
  split <;> simp_all
theorem ownA_mem {l : List Int} {k i : Nat} (hi : i < k) (h : 0 < l.getD i 0) : (l.getD i 0, [(i : Int)]) ∈ ownA l k := by
  simp only [ownA, List.mem_filterMap, List.mem_range]
  exact ⟨i, hi, by rw [if_pos h]⟩
theorem ownA_of {l : List Int} {k : Nat} {c : PC} (h : c ∈ ownA l k) : ∃ i, i < k ∧ 0 < l.getD i 0 ∧ c = (l.getD i 0, [(i : Int)]) := by
  simp only [ownA, List.mem_filterMap, List.mem_range] at h
  obtain ⟨i, hi, he⟩ := h
  split at he
  · rename_i h0; injection he with he; exact ⟨i, hi, h0, he.symm⟩
  · cases he
theorem ownA_one {l : List Int} {k : Nat} {c : PC} (h : ownA l k = [c]) : ∃ i0, i0 < k ∧ c.2 = [(i0 : Int)] ∧ ∀ i, i < k → (0 < l.getD i 0 ↔ i = i0) := by
  obtain ⟨i0, h1, h2, h3⟩ := ownA_of (l := l) (k := k) (c := c) (by rw [h]; simp)
  refine ⟨i0, h1, by rw [h3], fun i hi => ⟨fun h4 => ?_, fun e => by rw [e]; exact h2⟩⟩
  have := ownA_mem hi h4
  rw [h, List.mem_singleton, h3] at this
  injection this with _ this
  injection this with this
  omega
def Lt (a b : PC) : Prop := a.1 ≤ b.1
/-- the row at a level: level 0 is the coins themselves -/
def IsRow (own : List PC) : Nat → List PC → Prop
  | 0, R => R.Perm own ∧ R.Pairwise Lt
  | k+1, R => ∃ R0, IsRow own k R0 ∧ R.Perm (own ++ pairsA R0) ∧ R.Pairwise Lt
def lePC (a b : PC) : Bool := decide (a.1 ≤ b.1)
def stab (l : List PC) : List PC := l.mergeSort lePC
theorem stab_perm (l : List PC) : (stab l).Perm l := List.mergeSort_perm l lePC
theorem lePC_trans : ∀ a b c : PC, lePC a b = true → lePC b c = true → lePC a c = true := fun a b c h1 h2 => by
  simp only [lePC, decide_eq_true_eq] at *; omega
theorem lePC_total : ∀ a b : PC, (lePC a b || lePC b a) = true := fun a b => by
  simp only [lePC, Bool.or_eq_true, decide_eq_true_eq]; omega
theorem stab_sorted (l : List PC) : (stab l).Pairwise (fun a b => a.1 ≤ b.1) :=
  (List.pairwise_mergeSort lePC_trans lePC_total l).imp (fun h => by simpa [lePC] using h)
/-- the row at a level, as a function -/
def rowF (own : List PC) : Nat → List PC
  | 0 => stab own
  | k+1 => stab (stab own ++ pairsA (rowF own k))
theorem rowF_is (own : List PC) : ∀ k, IsRow own k (rowF own k)
  | 0 => ⟨stab_perm own, stab_sorted own⟩
  | k+1 => ⟨rowF own k, rowF_is own k, (stab_perm _).trans ((stab_perm own).append_right _), stab_sorted _⟩
theorem isRow_of {own : List PC} {k : Nat} {R : List PC} (h : R = rowF own k) : IsRow own k R := h ▸ rowF_is own k
theorem pairsA_len (R : List PC) : (pairsA R).length = R.length / 2 := by
  induction R using pairsA.induct with
  | case1 a b t ih => simp only [pairsA, List.length_cons, ih]; omega
  | case2 R h =>
    match R, h with
    | [], _ => rfl
    | [a], _ => simp [pairsA]
    | a :: b :: t, h => exact absurd rfl (h a b t)
theorem pairsA_get (R : List PC) (j : Nat) (hj : 2 * j + 1 < R.length) : (pairsA R)[j]? = some ((R.getD (2 * j) (0, [])).1 + (R.getD (2 * j + 1) (0, [])).1, (R.getD (2 * j) (0, [])).2 ++ (R.getD (2 * j + 1) (0, [])).2) := by
  induction R using pairsA.induct generalizing j with
  | case1 a b t ih =>
    cases j with
    | zero => simp [pairsA]
    | succ j =>
      have := ih j (by simp only [List.length_cons] at hj; omega)
      rw [pairsA, List.getElem?_cons_succ, this, show 2 * (j + 1) = (2 * j) + 1 + 1 by omega]
      simp
  | case2 R h =>
    match R, h with
    | [], _ => simp at hj
    | [a], _ => simp at hj
    | a :: b :: t, h => exact absurd rfl (h a b t)
/-- what holds of each coin -/
def Good (N : Int) (k : Nat) (c : PC) : Prop := 1 ≤ c.1 ∧ c.1 ≤ 1073741824 * 2 ^ k ∧ c.2.length ≤ 2 ^ k ∧ ∀ s ∈ c.2, 0 ≤ s ∧ s < N
theorem Good.up {N : Int} {k : Nat} {c : PC} (h : Good N k c) : Good N (k+1) c := by
  obtain ⟨h1, h2, h3, h4⟩ := h
  have e : (2 : Int) ^ (k+1) = 2 * 2 ^ k := by rw [Int.pow_succ]; omega
  have e2 : (2 : Nat) ^ (k+1) = 2 * 2 ^ k := by rw [Nat.pow_succ]; omega
  have hp : (0 : Int) < 2 ^ k := Int.pow_pos (by omega)
  exact ⟨h1, by rw [e]; omega, by rw [e2]; omega, h4⟩
theorem pairsA_good {N : Int} {k : Nat} {R : List PC} (h : ∀ c ∈ R, Good N k c) : ∀ c ∈ pairsA R, Good N (k+1) c := by
  induction R using pairsA.induct with
  | case1 a b t ih =>
    intro c hc
    rw [pairsA, List.mem_cons] at hc
    rcases hc with rfl | hc
    · obtain ⟨a1, a2, a3, a4⟩ := h a (by simp)
      obtain ⟨b1, b2, b3, b4⟩ := h b (by simp)
      have e : (2 : Int) ^ (k+1) = 2 * 2 ^ k := by rw [Int.pow_succ]; omega
      have e2 : (2 : Nat) ^ (k+1) = 2 * 2 ^ k := by rw [Nat.pow_succ]; omega
      refine ⟨by simp only []; omega, by simp only []; rw [e]; omega, by simp only [List.length_append]; rw [e2]; omega, fun s hs => ?_⟩
      rw [List.mem_append] at hs
      rcases hs with hs | hs
      · exact a4 s hs
      · exact b4 s hs
    · exact ih (fun c hc => h c (by simp [hc])) c hc
  | case2 R hR =>
    intro c hc
    rw [pairsA] at hc
    · cases hc
    · exact hR
theorem IsRow.good {N : Int} {own : List PC} (h0 : ∀ c ∈ own, Good N 0 c) : ∀ (k : Nat) (R : List PC), IsRow own k R → ∀ c ∈ R, Good N k c := by
  intro k
  induction k with
  | zero => intro R h c hc; exact h0 c (h.1.mem_iff.1 hc)
  | succ k ih =>
    intro R ⟨R0, hR0, hp, _⟩ c hc
    have hc2 := hp.mem_iff.1 hc
    rw [List.mem_append] at hc2
    rcases hc2 with hc2 | hc2
    · have : ∀ j, Good N j c := fun j => by
        induction j with
        | zero => exact h0 c hc2
        | succ j ih => exact ih.up
      exact this _
    · exact pairsA_good (ih R0 hR0) c hc2
theorem ownA_good {l : List Int} (hl : ∀ x ∈ l, x ≤ 1073741824) : ∀ c ∈ ownA l l.length, Good l.length 0 c := by
  intro c hc
  simp only [ownA, List.mem_filterMap, List.mem_range] at hc
  obtain ⟨i, hi, he⟩ := hc
  split at he
  · rename_i h0
    injection he with he
    subst he
    have : l.getD i 0 ∈ l := by
      have : l[i]? = some l[i] := List.getElem?_eq_getElem hi
      rw [getD_of this]; exact List.getElem_mem hi
    have := hl _ this
    refine ⟨by omega, ?_, ?_, fun s hs => ?_⟩
    · show l.getD i 0 ≤ 1073741824 * 2 ^ 0
      rw [Int.pow_zero]; omega
    · simp
    · simp at hs; subst hs; omega
  · cases he
theorem IsRow.len_le {own : List PC} (h1 : 1 ≤ own.length) : ∀ (k : Nat) (R : List PC), IsRow own k R → own.length ≤ R.length ∧ R.length ≤ 2 * own.length - 1 := by
  intro k
  induction k with
  | zero => intro R h; rw [h.1.length_eq]; omega
  | succ k ih =>
    intro R ⟨R0, hR0, hp, _⟩
    rw [hp.length_eq, List.length_append, pairsA_len]
    have := ih R0 hR0
    omega
theorem IsRow.len_ge {own : List PC} (h1 : 1 ≤ own.length) : ∀ (k : Nat) (R : List PC), IsRow own k R → 2 * own.length - 1 - R.length = (own.length - 1) / 2 ^ k := by
  intro k
  induction k with
  | zero => intro R h; rw [h.1.length_eq]; simp; omega
  | succ k ih =>
    intro R ⟨R0, hR0, hp, _⟩
    rw [hp.length_eq, List.length_append, pairsA_len, Nat.pow_succ, ← Nat.div_div_eq_div_mul, ← ih R0 hR0]
    have := IsRow.len_le h1 k R0 hR0
    omega
theorem IsRow.enough {own : List PC} {k : Nat} {R : List PC} (h : IsRow own k R) (h1 : 1 ≤ own.length) (h2 : own.length ≤ 2 ^ (k+1)) : 2 * own.length - 2 ≤ R.length := by
  have := IsRow.len_ge h1 k R h
  have h3 : (own.length - 1) / 2 ^ k < 2 := by
    rw [Nat.div_lt_iff_lt_mul (Nat.pow_pos (by omega))]
    rw [Nat.pow_succ] at h2; omega
  omega
theorem ownA_len (l : List Int) (k : Nat) : (ownA l k).length ≤ k := by
  unfold ownA
  exact Nat.le_trans (List.length_filterMap_le _ _) (by simp)
/-- how often each symbol stands in the first coins -/
def occ (R : List PC) (M : Nat) : List Int := (R.take M).flatMap (·.2)
theorem occ_succ {R : List PC} {M : Nat} {c : PC} (h : R[M]? = some c) : occ R (M+1) = occ R M ++ c.2 := by
  unfold occ; rw [take_snoc h, List.flatMap_append]; simp
/-- what Build answers, as a function -/
def buildO (l : List Int) (most : Nat) (i : Nat) : Int :=
  if (ownA l l.length).length = 0 then 0
  else if (ownA l l.length).length = 1 then (if 0 < l.getD i 0 ∧ i < l.length then 1 else 0)
  else ((occ (rowF (ownA l l.length) (most - 1)) (2 * (ownA l l.length).length - 2)).count (i : Int) : Nat)
def bldF (l : List Int) (most : Nat) : List Int := (List.range l.length).map (buildO l most)
end Go.Proofs.YtmgbjgjlddifaaaGreat.Bld
set_option linter.unusedVariables false
set_option linter.unusedSimpArgs false
namespace Go.Proofs.YtmgbjgjlddifaaaGreat.Bld
open Go.RowKit K Srt

def heavyB (x : Int) : Bool := decide (x < 0) || decide (1073741824 < x)
set_option maxHeartbeats 1000000 in
theorem indexFunc_any {A : Option Addr} {n c : Nat} {l : List Int} (w : World) (HA : SI w .i64 A n l) :
    Calls Tryz.prog 93 #[.slice A n c, .func (.func 71) #[] #[]] w fun e w' => e = .returned (.int .i64 (if l.any heavyB then ((l.findIdx heavyB : Nat) : Int) else -1)) ∧ w = w' := by
  have hbig := HA.big
  have hlen := Lib.hid HA.len
  generalize hres : (if l.any heavyB then ((l.findIdx heavyB : Nat) : Int) else -1) = res
  have HRS := Lib.hid hres
  clear hres
  go_enter Tryz.func93, Tryz.ntmps93
  go_wp2
  go_loop [5, 8] (fun _ i => ∃ k : Nat, k ≤ n ∧ i = .int .i64 k ∧ Hid ((l.take k).any heavyB = false)) (fun _ i => n - (intOf i).toNat)
  case atStart => exact ⟨0, by omega, rfl, rfl⟩
  case round =>
    obtain ⟨k, hk, rfl, HB⟩ := hrel
    by_cases hlt : k < n
    · obtain ⟨b, off, x, rfl, hc, hx, _⟩ := HA.cells hlt
      have hlt' : (k : Int) < n := by omega
      have hh := heavy_any x w
      by_cases hb : heavyB x = true
      · have hb' : (decide (x < 0) || decide (1073741824 < x)) = true := hb
        have hB := Lib.hid hb
        have hB' := Lib.hid hb'
        clear hb hb' hh
        go_wp2_with (go_at_call 71; refine (heavy_any _ _).mono ?_; rintro e w' ⟨rfl, rfl⟩; rw [hB'.out])
        go_ret
        have e1 : l.findIdx heavyB = k := by
          rw [List.findIdx_eq (by rw [hlen.out]; exact hlt)]
          have hk2 : k < l.length := by rw [hlen.out]; exact hlt
          have hxe : l[k] = x := by have := hx.out; rw [List.getElem?_eq_getElem hk2] at this; injection this
          refine ⟨by rw [hxe]; exact hB.out, fun j hj => ?_⟩
          have hall := HB.out
          rw [List.any_eq_false] at hall
          have hm : l[j]'(by omega) ∈ l.take k := by
            rw [List.mem_take_iff_getElem]; exact ⟨j, by omega, rfl⟩
          simpa using hall _ hm
        have e2 : l.any heavyB = true := List.any_eq_true.2 ⟨x, List.mem_of_getElem? hx.out, hB.out⟩
        rw [← HRS.out, e2, if_pos rfl, e1]
        exact ⟨rfl, rfl⟩
      · have hb2 : heavyB x = false := by simpa using hb
        have hb' : (decide (x < 0) || decide (1073741824 < x)) = false := hb2
        have hB := Lib.hid hb2
        have hB' := Lib.hid hb'
        clear hb hb' hh hb2
        have hs : Hid ((l.take (k+1)).any heavyB = false) := by show _ = _; rw [Pfx.any_succ _ hx.out, HB.out, hB.out]; rfl
        go_wp2_with (go_at_call 71; refine (heavy_any _ _).mono ?_; rintro e w' ⟨rfl, rfl⟩; rw [hB'.out])
        go_round
        case rel => exact ⟨k + 1, by omega, by go_num, hs⟩
        case measure => simp [intOf]; omega
    · obtain rfl : k = n := by omega
      have e2 : l.any heavyB = false := by have := HB.out; rwa [List.take_of_length_le (by rw [hlen.out]; omega)] at this
      have E2 := Lib.hid e2
      clear e2
      go_wp2
      go_ret
      rw [← HRS.out, E2.out]
      exact ⟨rfl, rfl⟩
set_option maxHeartbeats 400000 in
theorem containsFunc_any {A : Option Addr} {n c : Nat} {l : List Int} (w : World) (HA : SI w .i64 A n l) :
    Calls Tryz.prog 70 #[.slice A n c, .func (.func 71) #[] #[]] w fun e w' => e = .returned (.bool (l.any heavyB)) ∧ w = w' := by
  cases hb : l.any heavyB with
  | false =>
    have hi : Hid (∀ W : World, SI W .i64 A n l → Calls Tryz.prog 93 #[.slice A n c, .func (.func 71) #[] #[]] W fun e w' => e = .returned (.int .i64 (-1)) ∧ W = w') := fun W h => by have := indexFunc_any (c := c) W h; rwa [hb] at this
    clear hb
    go_enter Tryz.func70, Tryz.ntmps70
    go_wp2_with (go_at_call 93; refine (hi.out _ HA).mono ?_; rintro e w' ⟨rfl, rfl⟩)
    go_ret
    exact ⟨rfl, rfl⟩
  | true =>
    have hi : Hid (∀ W : World, SI W .i64 A n l → Calls Tryz.prog 93 #[.slice A n c, .func (.func 71) #[] #[]] W fun e w' => e = .returned (.int .i64 ((l.findIdx heavyB : Nat) : Int)) ∧ W = w') := fun W h => by have := indexFunc_any (c := c) W h; rwa [hb] at this
    clear hb
    generalize l.findIdx heavyB = q at hi
    go_enter Tryz.func70, Tryz.ntmps70
    go_wp2_with (go_at_call 93; refine (hi.out _ HA).mono ?_; rintro e w' ⟨rfl, rfl⟩)
    go_ret
    exact ⟨by simp, rfl⟩

/-! ### rows of coins -/
/-- block g holds n coins, whose symbols are ss -/
structure Row (w : World) (g n : Nat) (f : Nat → Coin) (ss : Nat → List Int) : Prop where
  cb : CB w g n f
  sl : ∀ i, i < n → Sl w (f i).a ((ss i).map (.int .i64)) ∧ (f i).n = (ss i).length
  ap : ∀ i, i < n → ∀ b off s, (f i).a = some ⟨b, off, s⟩ → b ≠ g ∧ b < w.heap.size
/-- what it reads as -/
def rowL (n : Nat) (f : Nat → Coin) (ss : Nat → List Int) : List PC := (List.range n).map fun i => ((f i).w, ss i)
theorem perm_range {n : Nat} {s t : Nat → Nat} (h1 : ∀ i, t (s i) = i) (h2 : ∀ i, s (t i) = i) (h3 : ∀ i, ¬ (0 ≤ i ∧ i < n) → s i = i) : ((List.range n).map s).Perm (List.range n) := by
  have inj : ∀ a b, s a = s b → a = b := fun a b e => by have := congrArg t e; rwa [h1, h1] at this
  refine (List.perm_ext_iff_of_nodup ?_ List.nodup_range).2 (fun x => ?_)
  · exact List.Pairwise.map _ (fun a b hab e => hab (inj a b e)) List.nodup_range
  · simp only [List.mem_map, List.mem_range]
    constructor
    · rintro ⟨a, ha, rfl⟩
      rcases Nat.lt_or_ge (s a) n with h | h
      · exact h
      · have := h3 (s a) (by omega)
        have := inj _ _ this
        omega
    · intro hx
      refine ⟨t x, ?_, h2 x⟩
      rcases Nat.lt_or_ge (t x) n with h | h
      · exact h
      · have := h3 (t x) (by omega)
        rw [h2] at this
        omega
theorem lePC_iff (a b : PC) : lePC a b = true ↔ a.1 ≤ b.1 := by unfold lePC; exact decide_eq_true_iff
theorem zl_iff (a b : PC × Nat) : List.zipIdxLE lePC a b = true ↔ a.1.1 ≤ b.1.1 ∧ (b.1.1 ≤ a.1.1 → a.2 ≤ b.2) := by
  unfold List.zipIdxLE
  by_cases h1 : lePC a.1 b.1 = true
  · rw [if_pos h1]
    have g1 := (lePC_iff _ _).1 h1
    by_cases h2 : lePC b.1 a.1 = true
    · rw [if_pos h2, decide_eq_true_iff]
      have g2 := (lePC_iff _ _).1 h2
      exact ⟨fun h => ⟨g1, fun _ => h⟩, fun h => h.2 g2⟩
    · rw [if_neg h2]
      have g2 : ¬ b.1.1 ≤ a.1.1 := fun h => h2 ((lePC_iff _ _).2 h)
      exact ⟨fun _ => ⟨g1, fun h => absurd h g2⟩, fun _ => rfl⟩
  · rw [if_neg h1]
    have g1 : ¬ a.1.1 ≤ b.1.1 := fun h => h1 ((lePC_iff _ _).2 h)
    exact ⟨fun h => (by cases h), fun h => absurd h.1 g1⟩
theorem zip_range (n : Nat) (L : Nat → PC) : ((List.range n).map L).zipIdx = (List.range n).map (fun i => (L i, i)) :=
  List.ext_getElem (by simp) (by intro i h1 h2; simp)
theorem stab_of {n : Nat} {L L' : Nat → PC} {s : Nat → Nat} (hp : ((List.range n).map s).Perm (List.range n)) (h4 : ∀ i, i < n → L' i = L (s i)) (h5 : ∀ i j, i < j → j < n → (L' i).1 ≤ (L' j).1) (h6 : ∀ i j, i < j → j < n → (L' i).1 = (L' j).1 → s i < s j) : (List.range n).map L' = stab ((List.range n).map L) := by
  unfold stab
  rw [← List.mergeSort_zipIdx, zip_range]
  have e : (List.range n).map (fun i => (L' i, s i)) = ((List.range n).map (fun i => (L i, i))).mergeSort (List.zipIdxLE lePC) := by
    refine List.Perm.eq_of_pairwise (le := fun a b => List.zipIdxLE lePC a b = true) ?_ ?_ (List.pairwise_mergeSort (List.zipIdxLE_trans lePC_trans) (List.zipIdxLE_total lePC_total) _) (List.Perm.trans ?_ (List.mergeSort_perm _ _).symm)
    · intro a b ha hb h1 h2
      have hb := (List.mergeSort_perm _ _).mem_iff.1 hb
      simp only [List.mem_map, List.mem_range] at ha hb
      obtain ⟨i, hi, rfl⟩ := ha
      obtain ⟨j, hj, rfl⟩ := hb
      have k : s i = j := by
        have g1 := (zl_iff _ _).1 h1
        have g2 := (zl_iff _ _).1 h2
        have x1 := g1.2 g2.1
        have x2 := g2.2 g1.1
        simp only at x1 x2
        omega
      rw [h4 i hi, k]
    · rw [List.pairwise_map]
      refine (List.pairwise_lt_range (n := n)).imp_of_mem ?_
      intro i j hi hj hij
      have hj : j < n := by simpa using hj
      have q := h5 i j hij hj
      have q2 := h6 i j hij hj
      refine (zl_iff _ _).2 ⟨q, fun h => ?_⟩
      have h : (L' j).1 ≤ (L' i).1 := h
      have := q2 (by omega)
      show s i ≤ s j
      omega
    · have e2 : (List.range n).map (fun i => (L' i, s i)) = ((List.range n).map s).map (fun i => (L i, i)) := by
        rw [List.map_map]
        refine List.map_congr_left fun i hi => ?_
        rw [List.mem_range] at hi
        simp [h4 i hi]
      rw [e2]
      exact hp.map _
  rw [← e, List.map_map]
  rfl
/-- the sort keeps each coin's symbols -/
theorem Row.sorted {w w' : World} {g n : Nat} {f f' : Nat → Coin} {ss : Nat → List Int} (h : Row w g n f ss) (hg : w.grownBy w' (some g)) (hc : CB w' g n f') (hp : Pm 0 n f f') (hs : Srtd f' 0 n) :
    ∃ ss', Row w' g n f' ss' ∧ rowL n f' ss' = stab (rowL n f ss) := by
  obtain ⟨s, t, h1, h2, h3, h4, h5⟩ := hp
  have hlt : ∀ i, i < n → s i < n := fun i hi => by
    rcases Nat.lt_or_ge (s i) n with h | h
    · exact h
    · have := h3 (s i) (by omega)
      have := congrArg t this
      rw [h1, h1] at this
      omega
  refine ⟨fun i => ss (s i), ⟨hc, fun i hi => ?_, fun i hi b off sp e => ?_⟩, ?_⟩
  · rw [h4]
    obtain ⟨q1, q2⟩ := h.sl (s i) (hlt i hi)
    refine ⟨fun j u hu => ?_, q2⟩
    obtain ⟨b, off, e, hcell⟩ := q1 j u hu
    refine ⟨b, off, e, ?_⟩
    have hne := (h.ap (s i) (hlt i hi) b off none e).1
    exact hg.cell hcell (fun e2 => hne (by injection e2))
  · rw [h4] at e; have := h.ap (s i) (hlt i hi) b off sp e; exact ⟨this.1, Nat.lt_of_lt_of_le this.2 hg.size⟩
  · unfold rowL
    exact stab_of (s := s) (perm_range h1 h2 (fun i hi => h3 i hi)) (fun i _ => by rw [h4]) (fun i j hij hj => hs i j (by omega) (by omega) hj) (fun i j hij _ e => h5 i j hij e)
end Go.Proofs.YtmgbjgjlddifaaaGreat.Bld
set_option linter.unusedVariables false
set_option linter.unusedSimpArgs false
namespace Go.Proofs.YtmgbjgjlddifaaaGreat.Bld
open Go.RowKit K Srt

theorem Sl.new (w : World) (cs : List Value) (T : TypeId) : Sl (w.alloc (.cells cs.toArray T)) (some ⟨w.heap.size, 0, none⟩) cs := fun j u hu => ⟨w.heap.size, 0, rfl, by rw [World.cell?_alloc_new]; simpa using hu⟩
theorem Sl.new2 (w : World) (o : Obj) (cs : List Value) (T : TypeId) : Sl ((w.alloc o).alloc (.cells cs.toArray T)) (some ⟨w.heap.size + 1, 0, none⟩) cs := by
  have := Sl.new (w.alloc o) cs T
  rwa [World.size_alloc] at this
def flat : Nat → (Nat → Coin) → List Value
  | 0, _ => []
  | n+1, f => flat n f ++ [.int .i64 (f n).w, .slice (f n).a (f n).n (f n).c]
theorem flat_len (n : Nat) (f : Nat → Coin) : (flat n f).length = n * 2 := by
  induction n with
  | zero => rfl
  | succ n ih => rw [flat, List.length_append, ih]; simp; omega
theorem flat_get (n : Nat) (f : Nat → Coin) {i : Nat} (hi : i < n) : (flat n f)[i * 2]? = some (.int .i64 (f i).w) ∧ (flat n f)[i * 2 + 1]? = some (.slice (f i).a (f i).n (f i).c) := by
  induction n with
  | zero => omega
  | succ n ih =>
    have hl := flat_len n f
    by_cases e : i = n
    · subst e
      rw [flat, List.getElem?_append_right (by omega), List.getElem?_append_right (by omega), hl, Nat.sub_self, show i * 2 + 1 - i * 2 = 1 by omega]
      exact ⟨rfl, rfl⟩
    · have := ih (by omega)
      rw [flat, List.getElem?_append_left (by omega), List.getElem?_append_left (by omega)]
      exact this
theorem flat_one (n : Nat) (f : Nat → Coin) : ∀ u ∈ flat n f, u.oneCell' = true := by
  induction n with
  | zero => intro u h; cases h
  | succ n ih =>
    intro u h
    rw [flat, List.mem_append] at h
    rcases h with h | h
    · exact ih u h
    · simp at h; rcases h with rfl | rfl <;> rfl
theorem flat_congr {n : Nat} {f f' : Nat → Coin} (h : ∀ i, i < n → f i = f' i) : flat n f = flat n f' := by
  induction n with
  | zero => rfl
  | succ n ih => rw [flat, flat, ih (fun i hi => h i (by omega)), h n (by omega)]
def comb (f : Nat → Coin) (n : Nat) (f2 : Nat → Coin) : Nat → Coin := fun i => if i < n then f i else f2 (i - n)
def combS (f : Nat → List Int) (n : Nat) (f2 : Nat → List Int) : Nat → List Int := fun i => if i < n then f i else f2 (i - n)
theorem flat_comb (n m : Nat) (f f2 : Nat → Coin) : flat (n + m) (comb f n f2) = flat n f ++ flat m f2 := by
  induction m with
  | zero => rw [Nat.add_zero, flat, List.append_nil]; exact flat_congr (fun i hi => by unfold comb; rw [if_pos hi])
  | succ m ih =>
    rw [← Nat.add_assoc, flat, ih, flat, List.append_assoc]
    congr 2
    have : comb f n f2 (n + m) = f2 m := by unfold comb; rw [if_neg (by omega), Nat.add_sub_cancel_left]
    rw [this]
theorem rowL_comb (n m : Nat) (f f2 : Nat → Coin) (s s2 : Nat → List Int) : rowL (n + m) (comb f n f2) (combS s n s2) = rowL n f s ++ rowL m f2 s2 := by
  unfold rowL
  rw [List.range_add, List.map_append, List.map_map]
  congr 1
  · apply List.map_congr_left; intro i hi; have hi := List.mem_range.1 hi; simp [comb, combS, hi]
  · apply List.map_congr_left; intro i hi
    show ((comb f n f2 (n + i)).w, combS s n s2 (n + i)) = ((f2 i).w, s2 i)
    unfold comb combS
    rw [if_neg (by omega), if_neg (by omega), Nat.add_sub_cancel_left]
theorem own_CB {w : World} {base n c g : Nat} {f : Nat → Coin} (h : w.ownsRow base 130 2 (.slice (some ⟨g, 0, none⟩) n c) n (flat n f)) : CB w g n f := by
  rcases h.2 with ⟨hv, _⟩ | ⟨g', cap, cur, hv, hb, hg, hnc, _, hs, ht⟩
  · cases hv
  · have e : g' = g := by injection hv with hv; injection hv with hv; injection hv with hv; exact hv.symm
    subst e
    refine ⟨cur, hg, fun i hi => ?_⟩
    have hf := flat_get n f hi
    rw [← ht, List.getElem?_take, if_pos (by omega), List.getElem?_take, if_pos (by omega)] at hf
    simpa using hf
theorem CB.sl {w : World} {g n : Nat} {f : Nat → Coin} (h : CB w g n f) : Sl w (some ⟨g, 0, none⟩) (flat n f) := fun j u hu => by
  refine ⟨g, 0, rfl, ?_⟩
  have hj : j < n * 2 := by
    rcases Nat.lt_or_ge j (n * 2) with h | h
    · exact h
    · rw [List.getElem?_eq_none (by rw [flat_len]; exact h)] at hu; cases hu
  rw [Nat.zero_add]
  have hf := flat_get n f (i := j / 2) (by omega)
  by_cases e : j % 2 = 0
  · have e2 : j = j / 2 * 2 := by omega
    rw [e2] at hu ⊢
    rw [hf.1] at hu
    injection hu with hu
    rw [h.cell0 (by omega), hu]
  · have e2 : j = j / 2 * 2 + 1 := by omega
    rw [e2] at hu ⊢
    rw [hf.2] at hu
    injection hu with hu
    rw [h.cell1 (by omega), hu]
theorem rowL_get {n : Nat} {f : Nat → Coin} {s : Nat → List Int} {i : Nat} (hi : i < n) : (rowL n f s)[i]? = some ((f i).w, s i) := by
  unfold rowL; simp [hi]
theorem rowL_len (n : Nat) (f : Nat → Coin) (s : Nat → List Int) : (rowL n f s).length = n := by simp [rowL]

/-- the coins' symbols in memory -/
structure Syms (w : World) (n : Nat) (f : Nat → Coin) (ss : Nat → List Int) : Prop where
  sl : ∀ i, i < n → Sl w (f i).a ((ss i).map (.int .i64)) ∧ (f i).n = (ss i).length
  lt : ∀ i, i < n → ∀ b off s, (f i).a = some ⟨b, off, s⟩ → b < w.heap.size
theorem Syms.keep {w w' : World} {n f ss} (h : Syms w n f ss) {row : Option Nat} (hg : w.grownBy w' row) (hr : ∀ i, i < n → ∀ b off s, (f i).a = some ⟨b, off, s⟩ → some b ≠ row) : Syms w' n f ss :=
  ⟨fun i hi => ⟨fun j u hu => by
    obtain ⟨b, off, e, hc⟩ := (h.sl i hi).1 j u hu
    exact ⟨b, off, e, hg.cell hc (hr i hi b off none e)⟩, (h.sl i hi).2⟩, fun i hi b off s e => Nat.lt_of_lt_of_le (h.lt i hi b off s e) hg.size⟩
theorem Syms.below {w w' : World} {n f ss} (h : Syms w n f ss) (hb : Below w.heap.size w w') : Syms w' n f ss := h.keep (grown_below hb none) (fun _ _ _ _ _ _ => by simp)
theorem Syms.comb {w : World} {n m f f2 ss s2} (h : Syms w n f ss) (h2 : Syms w m f2 s2) : Syms w (n + m) (comb f n f2) (combS ss n s2) := by
  refine ⟨fun i hi => ?_, fun i hi b off s e => ?_⟩
  · unfold Bld.comb combS
    by_cases k : i < n
    · rw [if_pos k, if_pos k]; exact h.sl i k
    · rw [if_neg k, if_neg k]; exact h2.sl _ (by omega)
  · unfold Bld.comb at e
    by_cases k : i < n
    · rw [if_pos k] at e; exact h.lt i k b off s e
    · rw [if_neg k] at e; exact h2.lt _ (by omega) b off s e
theorem Syms.row {w : World} {g n f ss} (h : Syms w n f ss) (hc : CB w g n f) (hn : ∀ i, i < n → ∀ b off s, (f i).a = some ⟨b, off, s⟩ → b ≠ g) : Row w g n f ss := ⟨hc, h.sl, fun i hi b off s e => ⟨hn i hi b off s e, h.lt i hi b off s e⟩⟩
theorem Row.syms {w : World} {g n f ss} (h : Row w g n f ss) : Syms w n f ss := ⟨h.sl, fun i hi b off s e => (h.ap i hi b off s e).2⟩
theorem Row.keep {w w' : World} {g n f ss} (h : Row w g n f ss) {row : Option Nat} (hg : w.grownBy w' row) (hr : ∀ b, b < w.heap.size → some b ≠ row) : Row w' g n f ss :=
  (h.syms.keep hg (fun i hi b off s e => hr b (h.syms.lt i hi b off s e))).row (h.cb.of_block (hg.block g h.cb.lt (hr g h.cb.lt))) (fun i hi b off s e => (h.ap i hi b off s e).1)
theorem Row.keepb {w w' : World} {g n f ss} (h : Row w g n f ss) (hb : Below w.heap.size w w') : Row w' g n f ss := h.keep (grown_below hb none) (fun _ _ => by simp)

/-- a slice of coins that is being appended to -/
structure Apd (w : World) (base : Nat) (v : Value) (n : Nat) (f : Nat → Coin) (ss : Nat → List Int) : Prop where
  own : w.ownsRow base 130 2 v n (flat n f)
  sy : Syms w n f ss
  ap : ∀ i, i < n → ∀ b off s, (f i).a = some ⟨b, off, s⟩ → some b ≠ v.ownBlock
theorem Apd.nil (w : World) (base : Nat) (f ss) : Apd w base (.slice none 0 0) 0 f ss := ⟨World.ownsRow_nil _ _ _ _, ⟨fun i hi => by omega, fun i hi => by omega⟩, fun i hi => by omega⟩
/-- one coin more, whose symbols lie in a block c of its own -/
theorem Apd.push {w w2 : World} {base n : Nat} {v v' : Value} {f ss} {x : Coin} {s : List Int} (h : Apd w base v n f ss) (hx : Sl w2 x.a (s.map (.int .i64)) ∧ x.n = s.length) (hb : ∀ b off sp, x.a = some ⟨b, off, sp⟩ → b < w2.heap.size ∧ some b ≠ v'.ownBlock)
    (hk : ∀ i, i < n → ∀ b off sp, (f i).a = some ⟨b, off, sp⟩ → w2.heap[b]? = w.heap[b]?) (hsz : w.heap.size ≤ w2.heap.size)
    (ho : w2.ownsRow base 130 2 v' (n + 1) (flat n f ++ [.int .i64 x.w, .slice x.a x.n x.c])) (hn : ∀ i, i < n → ∀ b off sp, (f i).a = some ⟨b, off, sp⟩ → some b ≠ v'.ownBlock) :
    Apd w2 base v' (n + 1) (fun i => if i = n then x else f i) (fun i => if i = n then s else ss i) := by
  refine ⟨?_, ⟨fun i hi => ?_, fun i hi b off sp e => ?_⟩, fun i hi b off sp e => ?_⟩
  · rw [flat, if_pos rfl, flat_congr (f' := f) (fun i hi => by rw [if_neg (by omega)])]; exact ho
  · by_cases e : i = n
    · rw [if_pos e, if_pos e]; exact hx
    · rw [if_neg e, if_neg e]
      refine ⟨fun j u hu => ?_, (h.sy.sl i (by omega)).2⟩
      obtain ⟨b, off, e2, hc⟩ := (h.sy.sl i (by omega)).1 j u hu
      exact ⟨b, off, e2, (World.cell?_of_block (a := ⟨b, off + j, none⟩) (hk i (by omega) b off none e2)).trans hc⟩
  · by_cases e1 : i = n
    · rw [if_pos e1] at e; exact (hb b off sp e).1
    · rw [if_neg e1] at e; exact Nat.lt_of_lt_of_le (h.sy.lt i (by omega) b off sp e) hsz
  · by_cases e1 : i = n
    · rw [if_pos e1] at e; exact (hb b off sp e).2
    · rw [if_neg e1] at e; exact hn i (by omega) b off sp e
theorem rowL_push (n : Nat) (f : Nat → Coin) (ss : Nat → List Int) (x : Coin) (s : List Int) : rowL (n+1) (fun i => if i = n then x else f i) (fun i => if i = n then s else ss i) = rowL n f ss ++ [(x.w, s)] := by
  unfold rowL
  rw [List.range_succ, List.map_append]
  congr 1
  · apply List.map_congr_left; intro i hi; have := List.mem_range.1 hi; show ((if i = n then x else f i).w, (if i = n then s else ss i)) = _; rw [if_neg (by omega), if_neg (by omega)]
  · simp
theorem own_below {w w' : World} {base e sz n : Nat} {v : Value} {xs : List Value} (h : w.ownsRow base e sz v n xs) (hb : Below w.heap.size w w') : w'.ownsRow base e sz v n xs :=
  h.kept (grown_below hb none) (by cases hv : v.ownBlock with
    | none => exact .inl rfl
    | some q => exact .inr (by simp))
/-- an append of one element that has just been laid, in a region that draws its order -/
theorem step_push {P : Program} {ops : Array Oper} {o : Oper} {a : Act} {w : World} {K : Act → World → Prop} {Q : Exit → Act → World → Prop} {E : Prop} (hgd : o.guard = none) (s x : Operand) (t : TypeId)
    (ho : o.op = .call { callee := .builtin .append, args := #[s, x], argTypes := #[t, t] }) (base e size bytes : Nat) (z : Value) (ht : P.underlying t = some (.slice e))
    (hinfo : (P.info? e).map (fun i => (i.zero, i.size, i.bytes)) = some (some z, size, bytes)) (hzs : z.cells.size = size) (hsz : 0 < size)
    (v : Value) (n : Nat) (xs : List Value) (hs : a.eval s = v) (hown : w.ownsRow base e size v n xs) (B c : Nat) (cs : List Value) (T : TypeId)
    (hx : a.eval x = .slice (some ⟨B, 0, none⟩) 1 c) (hl : cs.length = size) (hb : w.heap[B]? = some (.cells cs.toArray T (0, 0))) (h1 : ∀ u ∈ cs, u.oneCell' = true)
    (h63 : n + 1 ≤ maxLen) (hbytes : (n + 1) * bytes ≤ 140737488355328) (hbase : base ≤ w.heap.size) (H : Nat) (hH : w.heap.size = H)
    (h : ∀ g cap w', w'.ownsRow base e size (.slice (some ⟨g, 0, none⟩) (n + 1) cap) (n + 1) (xs ++ cs) → w.grownBy w' v.ownBlock → (v.ownBlock = some g ∨ g = H) → g < w'.heap.size → K (a.put o.dst (.slice (some ⟨g, 0, none⟩) (n + 1) cap)) w') :
    if Region.wanted o (yielded ops a.tmps) = true then Oper.wp P o a w K Q else E := by
  obtain ⟨i, hi, hz, h2, h3⟩ := info_parts hinfo
  exact step_append_lies w hgd s x t ho base e i z size bytes ht hi hz h2 h3 hzs hsz v n xs hs hown ⟨B, 0, none⟩ 1 c cs hx (by rw [hl, Nat.one_mul]) (by simpa using World.news_of_block hb) h1 (by omega) h63 hbytes hbase H hH h
theorem cellK {w wx : World} {o : Obj} {a : Addr} {v : Value} (h : w.cell? a = some v) (hb : Below (w.alloc o).drew.heap.size (w.alloc o).drew wx) : wx.cell? a = some v := by
  have hlt := World.block_lt_of_cell? w a h
  rw [hb.cell (p := a) (by simp; omega)]
  show (w.alloc o).cell? a = _
  rw [World.cell?_alloc_lt _ _ _ hlt]; exact h
theorem cellP {w wx : World} {o : Obj} {a : Addr} {v : Value} {row : Option Nat} (h : w.cell? a = some v) (hg : (w.alloc o).grownBy wx row) (hne : some a.block ≠ row) : wx.cell? a = some v := by
  have hlt := World.block_lt_of_cell? w a h
  exact hg.cell (by rw [World.cell?_alloc_lt _ _ _ hlt]; exact h) hne
theorem Apd.pushcat {wr w3 w5 : World} {base j n4 c4 cp gg cap E : Nat} {Ap A4 : Option Addr} {fp : Nat → Coin} {sp : Nat → List Int} {wt : Int} {s : List Int} {o1 o2 : Obj}
    (hapd : Apd wr base (.slice Ap j cp) j fp sp) (hb4 : Below (wr.alloc o1).drew.heap.size (wr.alloc o1).drew w3) (hown4 : w3.ownsRow (wr.alloc o1).drew.heap.size E 1 (.slice A4 n4 c4) n4 (s.map (.int .i64))) (hn4 : n4 = s.length)
    (hg5 : (w3.alloc o2).grownBy w5 (Value.slice Ap j cp).ownBlock) (hown5 : w5.ownsRow base 130 2 (.slice (some ⟨gg, 0, none⟩) (j + 1) cap) (j + 1) (flat j fp ++ [.int .i64 wt, .slice A4 n4 c4]))
    (hat5 : (Value.slice Ap j cp).ownBlock = some gg ∨ gg = w3.heap.size + 1) :
    Apd w5 base (.slice (some ⟨gg, 0, none⟩) (j + 1) cap) (j + 1) (fun i => if i = j then ⟨wt, A4, n4, c4⟩ else fp i) (fun i => if i = j then s else sp i) ∧ (Below base wr w5 ∨ wr.heap.size < base) := by
  have hlt := hapd.own.lt
  have hs4 := hb4.size
  have hs5 := hg5.size
  simp only [World.size_alloc, World.size_drew] at hs4 hs5
  have hA4 : ∀ b off sp, A4 = some ⟨b, off, sp⟩ → wr.heap.size < b ∧ b < w3.heap.size := fun b off sp e => by
    have := hown4.lt b (by rw [e]; rfl)
    simp only [World.size_alloc, World.size_drew] at this
    omega
  have hne4 : ∀ b, wr.heap.size < b → some b ≠ (Value.slice Ap j cp).ownBlock := fun b hb e => by have := (hlt b e.symm).2; omega
  have hold : ∀ b, b < wr.heap.size → some b ≠ (Value.slice Ap j cp).ownBlock → w5.heap[b]? = wr.heap[b]? := fun b hb hne => by
    rw [hg5.block b (by simp; omega) hne, Below.heap_alloc _ _ _ (by omega), hb4.block b (by simp; omega)]
    exact Below.heap_alloc _ _ _ hb
  refine ⟨hapd.push (x := ⟨wt, A4, n4, c4⟩) (s := s) ⟨fun q u hu => ?_, hn4⟩ (fun b off sp e => ⟨by have := (hA4 b off sp e).2; omega, fun e2 => ?_⟩) (fun i hi b off sp e => hold b (hapd.sy.lt i hi b off sp e) (hapd.ap i hi b off sp e)) (by omega) hown5 (fun i hi b off sp e e2 => ?_), ?_⟩
  · obtain ⟨b, off, e, hc⟩ := Sl.of_own hown4 q u hu
    exact ⟨b, off, e, cellP hc hg5 (hne4 b (hA4 b off none e).1)⟩
  · have h1 := hA4 b off sp e
    injection e2 with e2
    have e2 : b = gg := e2
    rcases hat5 with h | h
    · have := (hlt _ h).2; omega
    · omega
  · have h1 := hapd.sy.lt i hi b off sp e
    have h2 := hapd.ap i hi b off sp e
    injection e2 with e2
    have e2 : b = gg := e2
    rcases hat5 with h | h
    · rw [h] at h2; exact h2 (by rw [e2])
    · omega
  · by_cases hbs : base ≤ wr.heap.size
    · exact .inl ⟨(hg5.os.trans hb4.os), (hg5.tape.trans hb4.tape), (hg5.output.trans hb4.output), by omega, fun b hb => hold b (by omega) (fun e => by have := (hlt b e.symm).1; omega)⟩
    · exact .inr (by omega)
theorem own_cap {w : World} {base e sz n c : Nat} {A : Option Addr} {xs : List Value} (h : w.ownsRow base e sz (.slice A n c) n xs) (hn : 0 < n) : n ≤ c := by
  rcases h.2 with ⟨_, q⟩ | ⟨g', cap, cur, hv, _, _, q, _⟩
  · omega
  · injection hv with _ _ hv; omega
/-- the row of two slices put together -/
theorem Row.joined {wr w6 : World} {m j g6 c6 : Nat} {f1 fp : Nat → Coin} {s1 sp : Nat → List Int} {o : Obj} (h1 : Syms wr m f1 s1) (h2 : Syms wr j fp sp) (hb : Below (wr.alloc o).heap.size (wr.alloc o) w6)
    (ho : w6.ownsRow (wr.alloc o).heap.size 130 2 (.slice (some ⟨g6, 0, none⟩) (m + j) c6) (m + j) (flat m f1 ++ flat j fp)) (hg : wr.heap.size < g6) : Row w6 g6 (m + j) (comb f1 m fp) (combS s1 m sp) := by
  have hc := h1.comb h2
  have hb2 : Below wr.heap.size wr w6 := ((Below.refl wr.heap.size wr).alloc (Nat.le_refl _) o).trans (hb.mono (by simp))
  rw [← flat_comb] at ho
  exact (hc.below hb2).row (own_CB ho) (fun i hi b off s e => by have := hc.lt i hi b off s e; omega)
/-- no coin's symbols lie in block bo -/
def NB (bo n : Nat) (f : Nat → Coin) : Prop := ∀ i, i < n → ∀ b off s, (f i).a = some ⟨b, off, s⟩ → b ≠ bo
theorem NB.perm {bo n f f'} (h : NB bo n f) (p : Pm 0 n f f') : NB bo n f' := fun i hi b off s e => by
  obtain ⟨k, _, hk, he⟩ := p.from (Nat.zero_le i) hi
  rw [he] at e; exact h k hk b off s e
theorem NB.comb {bo n m f f2} (h : NB bo n f) (h2 : NB bo m f2) : NB bo (n + m) (Bld.comb f n f2) := fun i hi b off s e => by
  unfold Bld.comb at e
  split at e
  · exact h i (by assumption) b off s e
  · exact h2 _ (by omega) b off s e
theorem NB.push {bo n f} (h : NB bo n f) (x : Coin) (hx : ∀ b off s, x.a = some ⟨b, off, s⟩ → b ≠ bo) : NB bo (n + 1) (fun i => if i = n then x else f i) := fun i hi b off s e => by
  simp only at e
  split at e
  · exact hx b off s e
  · exact h i (by omega) b off s e
theorem NB.nil (bo : Nat) (f) : NB bo 0 f := fun i hi => by omega
theorem occ_len {R : List PC} {B : Nat} (h : ∀ c ∈ R, c.2.length ≤ B) (q : Nat) : (occ R q).length ≤ q * B := by
  induction q with
  | zero => simp [occ]
  | succ q ih =>
    rw [Nat.add_mul, Nat.one_mul]
    by_cases hq : q < R.length
    · rw [occ_succ (List.getElem?_eq_getElem hq), List.length_append]
      have := h R[q] (List.getElem_mem hq)
      omega
    · have : occ R (q+1) = occ R q := by unfold occ; rw [List.take_of_length_le (by omega), List.take_of_length_le (by omega)]
      rw [this]; omega
theorem Row.turned {w w' : World} {g n bo : Nat} {f ss} (h : Row w g n f ss) (hg : w.grownBy w' (some bo)) (hne : g ≠ bo) (hnb : NB bo n f) : Row w' g n f ss :=
  (h.syms.keep hg (fun i hi b off s e e2 => hnb i hi b off s e (by injection e2))).row (h.cb.of_block (hg.block g h.cb.lt (fun e => hne (by injection e)))) (fun i hi b off s e => (h.ap i hi b off s e).1)
theorem count_snoc (L : List Int) (s x : Int) : (L ++ [s]).count x = L.count x + if x = s then 1 else 0 := by
  rw [List.count_append, List.count_singleton]
  congr 1
  by_cases h : x = s
  · subst h; simp
  · have : (s == x) = false := by simpa using fun e => h e.symm
    rw [this, if_neg h]; rfl
end Go.Proofs.YtmgbjgjlddifaaaGreat.Bld
