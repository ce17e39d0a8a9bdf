/-
  Walks: the stable sort of coins.
-/
import Derived.Test.YtpecemkjoklhfaaSrtD
set_option linter.unusedVariables false
set_option linter.unusedSimpArgs false
namespace Go.Proofs.Ytpecemkjoklhfaa.Srt
open Go.RowKit K Go.Sort

theorem symOk (N : Nat) : SymOk N := by
  induction N with
  | zero => intro g n c a m b f w h0 h h1 h2; omega
  | succ N ih =>
    intro g n c a m b f w h0 h h1 h2 h3 hn hL hR
    by_cases k1 : m = a + 1
    · exact symMerge_one w h (by omega) (by omega) h2 h3 hn hR
    · by_cases k2 : b = m + 1
      · exact symMerge_last w h (by omega) (by omega) (by omega) h3 hn hL
      · exact symMerge_gen ih w (by omega) h (by omega) (by omega) h3 hn hL hR

theorem Srtd.mono {f a b a' b'} (h : Srtd f a b) (h1 : a ≤ a') (h2 : b' ≤ b) : Srtd f a' b' := fun p q k1 k2 k3 => h p q (by omega) k2 (by omega)
theorem Srtd.keep {f f' a b c d} (h : Srtd f a b) (p : Pm c d f f') (h1 : b ≤ c ∨ d ≤ a) : Srtd f' a b := fun i j k1 k2 k3 => by
  rw [p.off (i := i) (by omega), p.off (i := j) (by omega)]; exact h i j k1 k2 k3

structure St1 (f f' : Nat → Coin) (n a b : Nat) : Prop where
  ex : ∃ k, a = 20 * k ∧ b = 20 * k + 20 ∧ ∀ t, t < k → Srtd f' (20 * t) (20 * t + 20)
  le : a ≤ n
  pm : Pm 0 n f f'
structure St2 (f f' : Nat → Coin) (n bs : Nat) : Prop where
  pm : Pm 0 n f f'
  blk : ∀ t, Srtd f' (t * bs) (min (t * bs + bs) n)
structure St3 (f f' : Nat → Coin) (n bs a b : Nat) : Prop where
  ex : ∃ k, a = k * (2 * bs) ∧ b = a + 2 * bs ∧ (∀ t, t < k → Srtd f' (t * (2 * bs)) (t * (2 * bs) + 2 * bs)) ∧ ∀ t, 2 * k ≤ t → Srtd f' (t * bs) (min (t * bs + bs) n)
  le : a ≤ n
  pm : Pm 0 n f f'
theorem St1.start (f : Nat → Coin) (n : Nat) : St1 f f n 0 20 := ⟨⟨0, rfl, rfl, fun t h => by omega⟩, by omega, Pm.refl _ _ _⟩
theorem St1.step {f f' f2 n a b} (h : St1 f f' n a b) (hb : b ≤ n) (p : Pm a b f' f2) (s : Srtd f2 a b) : St1 f f2 n b (b + 20) := by
  obtain ⟨k, rfl, rfl, hk⟩ := h.ex
  refine ⟨⟨k + 1, by omega, by omega, fun t ht => ?_⟩, hb, h.pm.trans (p.mono (by omega) hb)⟩
  by_cases e : t = k
  · subst e; exact s
  · exact (hk t (by omega)).keep p (by omega)
theorem St1.done {f f' f2 n a b} (h : St1 f f' n a b) (hb : ¬ b ≤ n) (p : Pm a n f' f2) (s : Srtd f2 a n) : St2 f f2 n 20 := by
  obtain ⟨k, rfl, rfl, hk⟩ := h.ex
  refine ⟨h.pm.trans (p.mono (by omega) (by omega)), fun t => ?_⟩
  by_cases e : t < k
  · exact ((hk t e).keep p (by omega)).mono (by omega) (by omega)
  · by_cases e2 : t = k
    · subst e2; exact s.mono (by omega) (by omega)
    · intro i j k1 k2 k3; omega
theorem St1.fits {f f' n a b} (h : St1 f f' n a b) : a ≤ b ∧ b ≤ n + 20 := by
  obtain ⟨k, rfl, rfl, hk⟩ := h.ex
  have := h.le
  omega
theorem St2.start {f f' n bs} (h : St2 f f' n bs) : St3 f f' n bs 0 (2 * bs) := ⟨⟨0, by simp, by simp, fun t h => by omega, fun t _ => h.blk t⟩, by omega, h.pm⟩
theorem St3.parts {f f' n bs a b} (h : St3 f f' n bs a b) (hb : b ≤ n) : Srtd f' a (a + bs) ∧ Srtd f' (a + bs) b ∧ b = a + 2 * bs := by
  obtain ⟨k, h1, h2, h3, h4⟩ := h.ex
  have e1 := h4 (2 * k) (by omega)
  have e2 := h4 (2 * k + 1) (by omega)
  have ea : 2 * k * bs = a := by rw [h1, Nat.mul_comm 2 k, Nat.mul_assoc]
  have eb : (2 * k + 1) * bs = a + bs := by rw [Nat.add_mul, ea, Nat.one_mul]
  rw [ea] at e1; rw [eb] at e2
  exact ⟨e1.mono (by omega) (by omega), e2.mono (by omega) (by omega), h2⟩
theorem St3.step {f f' f2 n bs a b} (h : St3 f f' n bs a b) (hb : b ≤ n) (hbs : 1 ≤ bs) (p : Pm a b f' f2) (s : Srtd f2 a b) : St3 f f2 n bs b (b + 2 * bs) := by
  obtain ⟨k, h1, h2, h3, h4⟩ := h.ex
  have ea : (k + 1) * (2 * bs) = b := by rw [Nat.add_mul, ← h1]; omega
  refine ⟨⟨k + 1, ea.symm, rfl, fun t ht => ?_, fun t ht => ?_⟩, hb, h.pm.trans (p.mono (by omega) hb)⟩
  · by_cases e : t = k
    · subst e; rw [← h1, ← h2]; exact s
    · have : t * (2 * bs) + 2 * bs ≤ a := by
        rw [h1]; have := Nat.mul_le_mul_right (2 * bs) (show t + 1 ≤ k by omega)
        rw [Nat.add_mul] at this; omega
      exact (h3 t (by omega)).keep p (.inl this)
  · have : b ≤ t * bs := by
      rw [← ea]; have := Nat.mul_le_mul_right bs ht
      rw [← Nat.mul_assoc, Nat.mul_comm (k + 1) 2]; exact this
    exact (h4 t (by omega)).keep p (.inr this)
theorem St3.rest {f f' n bs a b} (h : St3 f f' n bs a b) (hb : ¬ b ≤ n) (hm : a + bs < n) : Srtd f' a (a + bs) ∧ Srtd f' (a + bs) n := by
  obtain ⟨k, h1, h2, h3, h4⟩ := h.ex
  have e1 := h4 (2 * k) (by omega)
  have e2 := h4 (2 * k + 1) (by omega)
  have ea : 2 * k * bs = a := by rw [h1, Nat.mul_comm 2 k, Nat.mul_assoc]
  have eb : (2 * k + 1) * bs = a + bs := by rw [Nat.add_mul, ea, Nat.one_mul]
  rw [ea] at e1; rw [eb] at e2
  exact ⟨e1.mono (by omega) (by omega), e2.mono (by omega) (by omega)⟩
theorem St3.done {f f' f2 n bs a b} (h : St3 f f' n bs a b) (hb : ¬ b ≤ n) (hbs : 1 ≤ bs) (p : Pm a n f' f2) (s : Srtd f2 a n) : St2 f f2 n (bs * 2) := by
  obtain ⟨k, h1, h2, h3, h4⟩ := h.ex
  refine ⟨h.pm.trans (p.mono (by omega) (by omega)), fun t => ?_⟩
  rw [Nat.mul_comm bs 2]
  by_cases e : t < k
  · have : t * (2 * bs) + 2 * bs ≤ a := by
      rw [h1]; have := Nat.mul_le_mul_right (2 * bs) (show t + 1 ≤ k by omega)
      rw [Nat.add_mul] at this; omega
    exact ((h3 t e).keep p (.inl this)).mono (by omega) (by omega)
  · by_cases e2 : t = k
    · subst e2; rw [← h1]; exact s.mono (by omega) (by omega)
    · have : n < t * (2 * bs) := by
        have := Nat.mul_le_mul_right (2 * bs) (show k + 1 ≤ t by omega)
        rw [Nat.add_mul, ← h1] at this; omega
      intro i j k1 k2 k3; omega
theorem St3.single {f f' n bs a b} (h : St3 f f' n bs a b) (hb : ¬ b ≤ n) (hm : ¬ a + bs < n) : Srtd f' a n := by
  obtain ⟨k, h1, h2, h3, h4⟩ := h.ex
  have e1 := h4 (2 * k) (by omega)
  have ea : 2 * k * bs = a := by rw [h1, Nat.mul_comm 2 k, Nat.mul_assoc]
  rw [ea] at e1
  exact e1.mono (by omega) (by omega)
theorem St3.fits {f f' n bs a b} (h : St3 f f' n bs a b) : b ≤ n + 2 * bs ∧ b = a + 2 * bs := by
  obtain ⟨k, h1, h2, h3, h4⟩ := h.ex
  have := h.le
  omega
theorem St2.done {f f' n bs} (h : St2 f f' n bs) (hb : ¬ bs < n) : Pm 0 n f f' ∧ Srtd f' 0 n := by
  have := h.blk 0
  rw [Nat.zero_mul] at this
  exact ⟨h.pm, this.mono (by omega) (by omega)⟩


set_option maxHeartbeats 4000000 in
theorem stable_any {g n c : Nat} {f : Nat → Coin} (w : World) (h : CB w g n f) (hn : n ≤ 1073741824) :
    Calls Try.prog 49 #[.slice (some ⟨g, 0, none⟩) n c, .int .i64 n, .func (.func 33) #[] #[]] w (InsPost w g n 0 n f) := by
  go_enter Try.func49, Try.ntmps49
  go_wp2
  go_loopw [7, 8] (fun av bv wr => ∃ (a b : Nat) (f' : Nat → Coin), av = .int .i64 a ∧ bv = .int .i64 b ∧ CB wr g n f' ∧ w.grownBy wr (some g) ∧ St1 f f' n a b) (fun _ bv _ => n + 21 - (intOf bv).toNat)
  case atStart => exact ⟨0, 20, f, rfl, rfl, h, World.grownBy.refl _ _, St1.start f n⟩
  case round =>
    clear h
    obtain ⟨a, b, f', rfl, rfl, h, hg, h1⟩ := hrel
    have hf := h1.fits
    by_cases hb : b ≤ n
    · go_wp2_with (go_at_call 57; refine (insertion_any (a := a) (b := b) _ h (by omega) hb hn).mono ?_; rintro e w' ⟨f2, rfl, hg2, hc2, hp2, hs2⟩)
      go_roundw
      case rel => exact ⟨b, b + 20, f2, rfl, by go_num, hc2, grown_trans hg hg2, h1.step hb hp2 hs2⟩
      case measure => simp [intOf]; omega
    · have hle := h1.le
      go_wp2_with (go_at_call 57; refine (insertion_any (a := a) (b := n) _ h hle (Nat.le_refl _) hn).mono ?_; rintro e w' ⟨f2, rfl, hg2, hc2, hp2, hs2⟩)
      have h2 := h1.done hb hp2 hs2
      have hg3 := grown_trans hg hg2
      clear h hg hg2 hp2 hs2
      go_loopw [6, 7, 8, 9] (fun sv _ _ _ wr => ∃ (bs : Nat) (f' : Nat → Coin), 20 ≤ bs ∧ bs ≤ 2147483648 ∧ sv = .int .i64 bs ∧ CB wr g n f' ∧ w.grownBy wr (some g) ∧ St2 f f' n bs) (fun sv _ _ _ _ => n - (intOf sv).toNat)
      case atStart => exact ⟨20, f2, by omega, by omega, rfl, hc2, hg3, h2⟩
      case round =>
        clear h2 hg3 hc2 h1
        obtain ⟨bs, f3, hbs1, hbs2, rfl, h, hg, h2⟩ := hrel
        obtain ⟨wo, rfl⟩ : ∃ wo : World, wo = wr := ⟨_, rfl⟩
        by_cases hlt : bs < n
        · have hd : decide ((bs : Int) < (n : Int)) = true := by simp; omega
          have h3 := h2.start
          go_wp2
          go_loopw [7, 8] (fun av bv wr => ∃ (a b : Nat) (f' : Nat → Coin), av = .int .i64 a ∧ bv = .int .i64 b ∧ CB wr g n f' ∧ w.grownBy wr (some g) ∧ St3 f f' n bs a b) (fun _ bv _ => n + 2 * bs + 1 - (intOf bv).toNat)
          case atStart => exact ⟨0, 2 * bs, f3, rfl, by go_num, h, hg, h3⟩
          case round =>
            clear h3 h hg h2
            obtain ⟨a, b, f4, rfl, rfl, h, hg, h3⟩ := hrel
            have hf := h3.fits
            obtain ⟨hf1, hf2⟩ := hf
            have HF2 := Lib.hid hf2
            have hle := h3.le
            clear hf2
            have hlt2 : a + bs ≤ b := by have := HF2.out; omega
            have hlt3 : a + bs < b := by have := HF2.out; omega
            by_cases hb : b ≤ n
            · obtain ⟨q1, q2, -⟩ := h3.parts hb
              have Q1 := Lib.hid q1
              have Q2 := Lib.hid q2
              clear q1 q2
              go_wp2_with (go_at_call 58; refine ((symOk (b - a)).at (a := a) (m := a + bs) (b := b) _ (by omega) h (by omega) hlt3 hb hn Q1.out Q2.out rfl (by omega) rfl).mono ?_; rintro e w' ⟨f5, rfl, hg2, hc2, hp2, hs2⟩)
              go_roundw
              case rel => exact ⟨b, b + 2 * bs, f5, rfl, by go_num, hc2, grown_trans hg hg2, h3.step hb (by omega) hp2 hs2⟩
              case measure => simp [intOf]; omega
            · by_cases hm : a + bs < n
              · obtain ⟨q1, q2⟩ := h3.rest hb hm
                have Q1 := Lib.hid q1
                have Q2 := Lib.hid q2
                clear q1 q2
                go_wp2_with (go_at_call 58; refine ((symOk (n - a)).at (a := a) (m := a + bs) (b := n) _ (by omega) h (by omega) hm (Nat.le_refl _) hn Q1.out Q2.out rfl (by omega) rfl).mono ?_; rintro e w' ⟨f5, rfl, hg2, hc2, hp2, hs2⟩)
                go_roundw
                case rel => exact ⟨bs * 2, f5, by omega, by omega, by go_num, hc2, grown_trans hg hg2, h3.done hb (by omega) hp2 hs2⟩
                case measure => simp [intOf]; omega
              · have hs2 := h3.single hb hm
                have HS2 := Lib.hid hs2
                clear hs2
                go_wp2
                go_roundw
                case rel => exact ⟨bs * 2, f4, by omega, by omega, by go_num, h, hg, h3.done hb (by omega) (Pm.refl _ _ _) HS2.out⟩
                case measure => simp [intOf]; omega
        · obtain ⟨q1, q2⟩ := h2.done hlt
          have Q2 := Lib.hid q2
          clear q2
          go_wp2
          go_end0
          exact ⟨f3, rfl, hg, h, q1, Q2.out⟩

set_option maxHeartbeats 400000 in
theorem sortStable_any {g n c : Nat} {f : Nat → Coin} (w : World) (h : CB w g n f) (hn : n ≤ 1073741824) :
    Calls Try.prog 35 #[.slice (some ⟨g, 0, none⟩) n c, .func (.func 33) #[] #[]] w (InsPost w g n 0 n f) := by
  go_enter Try.func35, Try.ntmps35
  go_wp2_with (go_at_call 49; refine (stable_any _ h hn).mono ?_; rintro e w' ⟨f5, rfl, hg2, hc2, hp2, hs2⟩)
  go_end0
  exact ⟨f5, rfl, hg2, hc2, hp2, hs2⟩
end Go.Proofs.Ytpecemkjoklhfaa.Srt
