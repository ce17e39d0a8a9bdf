/-
  Packing coins, in plain Lean: the lengths that the least packages give make a full code within the limit, whatever the order of packages alike in weight.
-/
import Derived.Test.YtpecemkjoklhfaaBldM
set_option linter.unusedVariables false
set_option linter.unusedSimpArgs false
namespace Go.Proofs.Ytpecemkjoklhfaa.Pm
open Go.RowKit K Bld

theorem split_append {α : Type} [DecidableEq α] : ∀ (A B U V : List α), (A ++ B).Perm (U ++ V) →
    ∃ UL VL UP VP, A.Perm (UL ++ VL) ∧ B.Perm (UP ++ VP) ∧ U.Perm (UL ++ UP) ∧ V.Perm (VL ++ VP) := by
  intro A
  induction A with
  | nil => intro B U V h; exact ⟨[], [], U, V, by simp, h, by simp, by simp⟩
  | cons a A ih =>
    intro B U V h
    have ha : a ∈ U ++ V := h.mem_iff.1 (by simp)
    rw [List.mem_append] at ha
    by_cases hu : a ∈ U
    · have e := List.perm_cons_erase hu
      have h2 : (a :: (A ++ B)).Perm (a :: (U.erase a ++ V)) := h.trans (e.append_right V)
      obtain ⟨UL, VL, UP, VP, h3, h4, h5, h6⟩ := ih B (U.erase a) V h2.cons_inv
      exact ⟨a :: UL, VL, UP, VP, h3.cons a, h4, e.trans (h5.cons a), h6⟩
    · have hv : a ∈ V := by rcases ha with h | h; exact absurd h hu; exact h
      have e := List.perm_cons_erase hv
      have h2 : (a :: (A ++ B)).Perm (a :: (U ++ V.erase a)) := h.trans ((e.append_left U).trans List.perm_middle)
      obtain ⟨UL, VL, UP, VP, h3, h4, h5, h6⟩ := ih B U (V.erase a) h2.cons_inv
      exact ⟨UL, a :: VL, UP, VP, (h3.cons a).trans List.perm_middle.symm, h4, h5, e.trans (h6.cons a)⟩

/-- the parts of the packages that are taken: as light as any, too -/
theorem parts : ∀ (R UP VP : List PC), R.Pairwise Lt → (pairsA R).Perm (UP ++ VP) → (∀ u ∈ UP, ∀ v ∈ VP, u.1 ≤ v.1) →
    ∃ U V, R.Perm (U ++ V) ∧ (∀ u ∈ U, ∀ v ∈ V, u.1 ≤ v.1) ∧ U.length = 2 * UP.length ∧ (U.flatMap (·.2)).Perm (UP.flatMap (·.2)) ∧ ∀ x ∈ U, ∃ u ∈ UP, ∃ y ∈ U, u.1 = x.1 + y.1 ∧ ∀ s ∈ x.2, s ∈ u.2 := by
  intro R
  induction R using pairsA.induct with
  | case2 R hR =>
    intro UP VP hs hp hl
    have : pairsA R = [] := by
      rw [pairsA]
      exact hR
    rw [this] at hp
    have h0 := hp.symm.eq_nil
    rw [List.append_eq_nil_iff] at h0
    obtain ⟨rfl, rfl⟩ := h0
    exact ⟨[], R, by simp, by simp, rfl, by simp, by simp⟩
  | case1 a b t ih =>
    intro UP VP hs hp hl
    rw [pairsA] at hp
    rw [List.pairwise_cons, List.pairwise_cons] at hs
    obtain ⟨hsa, hsb, hst⟩ := hs
    have hab : a.1 ≤ b.1 := hsa b (by simp)
    generalize hpp : ((a.1 + b.1, a.2 ++ b.2) : PC) = p at hp
    have hm : p ∈ UP ++ VP := hp.mem_iff.1 (by simp)
    rw [List.mem_append] at hm
    by_cases hu : p ∈ UP
    · have e := List.perm_cons_erase hu
      have h2 : (p :: pairsA t).Perm (p :: (UP.erase p ++ VP)) := hp.trans (e.append_right VP)
      obtain ⟨U, V, h3, h4, h5, h6, h7⟩ := ih (UP.erase p) VP hst h2.cons_inv (fun u hu' v hv => hl u (List.mem_of_mem_erase hu') v hv)
      refine ⟨a :: b :: U, V, (h3.cons b).cons a, ?_, ?_, ?_, ?_⟩
      · intro u hu' v hv
        have hvt : v ∈ t := h3.mem_iff.2 (by simp [hv])
        rcases List.mem_cons.1 hu' with rfl | hu'
        · exact hsa v (by simp [hvt])
        · rcases List.mem_cons.1 hu' with rfl | hu'
          · exact hsb v hvt
          · exact h4 u hu' v hv
      · have := e.length_eq
        simp only [List.length_cons] at this ⊢
        omega
      · refine List.Perm.trans ?_ (e.flatMap_right (·.2)).symm
        simp only [List.flatMap_cons]
        rw [← List.append_assoc, ← hpp]
        rw [hpp]
        show (a.2 ++ b.2 ++ U.flatMap (·.2)).Perm (p.2 ++ (UP.erase p).flatMap (·.2))
        rw [← hpp]
        rw [hpp]
        have hp2 : p.2 = a.2 ++ b.2 := by rw [← hpp]
        rw [hp2]
        exact h6.append_left _
      · intro x hx
        rcases List.mem_cons.1 hx with rfl | hx
        · exact ⟨p, hu, b, by simp, by rw [← hpp], fun s hs => by rw [← hpp]; simp [hs]⟩
        · rcases List.mem_cons.1 hx with rfl | hx
          · exact ⟨p, hu, a, by simp, by rw [← hpp]; exact Int.add_comm _ _, fun s hs => by rw [← hpp]; simp [hs]⟩
          · obtain ⟨u, h8, y, h9, h10, h11⟩ := h7 x hx
            exact ⟨u, List.mem_of_mem_erase h8, y, by simp [h9], h10, h11⟩
    · have hv : p ∈ VP := by rcases hm with h | h; exact absurd h hu; exact h
      have e := List.perm_cons_erase hv
      have h2 : (p :: pairsA t).Perm (p :: (UP ++ VP.erase p)) := hp.trans ((e.append_left UP).trans List.perm_middle)
      obtain ⟨U, V, h3, h4, h5, h6, h7⟩ := ih UP (VP.erase p) hst h2.cons_inv (fun u hu' v hv => hl u hu' v (List.mem_of_mem_erase hv))
      refine ⟨U, a :: b :: V, ?_, ?_, h5, h6, h7⟩
      · refine List.Perm.trans ((h3.cons b).cons a) ?_
        refine List.Perm.trans ?_ List.perm_middle.symm
        exact (List.perm_middle.symm).cons a
      · intro x hx v hv'
        obtain ⟨u, h8, y, h9, h10, -⟩ := h7 x hx
        have hyt : y ∈ t := h3.mem_iff.2 (by simp [h9])
        have hyb : b.1 ≤ y.1 := hsb y hyt
        have hup := hl u h8 p hv
        rw [← hpp] at hup
        simp only [] at hup
        rcases List.mem_cons.1 hv' with rfl | hv'
        · omega
        · rcases List.mem_cons.1 hv' with rfl | hv'
          · omega
          · exact h4 x hx v hv'

def ownS (wt : Int → Int) (S : List Int) : List PC := S.map fun s => (wt s, [s])
/-- an item weighs as much as each symbol in it, and something -/
def Heavy (wt : Int → Int) (c : PC) : Prop := 1 ≤ c.1 ∧ ∀ s ∈ c.2, wt s ≤ c.1
theorem heavy_pairs {wt : Int → Int} {R : List PC} (h : ∀ c ∈ R, Heavy wt c) : ∀ c ∈ pairsA R, Heavy wt c := by
  induction R using pairsA.induct with
  | case1 a b t ih =>
    intro c hc
    rw [pairsA, List.mem_cons] at hc
    rcases hc with rfl | hc
    · obtain ⟨a1, a2⟩ := h a (by simp)
      obtain ⟨b1, b2⟩ := h b (by simp)
      refine ⟨by simp only []; omega, fun s hs => ?_⟩
      simp only [List.mem_append] at hs ⊢
      rcases hs with hs | hs
      · have := a2 s hs; omega
      · have := b2 s hs; omega
    · exact ih (fun c hc => h c (by simp [hc])) c hc
  | case2 R hR =>
    intro c hc
    rw [pairsA] at hc
    · cases hc
    · exact hR
theorem heavy_row {wt : Int → Int} {own : List PC} (h : ∀ c ∈ own, Heavy wt c) : ∀ k R, IsRow own k R → ∀ c ∈ R, Heavy wt c := by
  intro k
  induction k with
  | zero => intro R hR c hc; exact h c (hR.1.mem_iff.1 hc)
  | succ k ih =>
    intro R ⟨R0, hR0, hp, _⟩ c hc
    have := hp.mem_iff.1 hc
    rw [List.mem_append] at this
    rcases this with h1 | h1
    · exact h c h1
    · exact heavy_pairs (ih R0 hR0) c h1
def cn (U : List PC) (s : Int) : Nat := (U.flatMap (·.2)).count s
theorem own_flat (wt : Int → Int) (S : List Int) : (ownS wt S).flatMap (·.2) = S := by
  induction S with
  | nil => rfl
  | cons s S ih => simp only [ownS, List.map_cons, List.flatMap_cons] at ih ⊢; rw [ih]; rfl
theorem flat_own_len {wt : Int → Int} {S : List Int} {UL VL : List PC} (h : (ownS wt S).Perm (UL ++ VL)) : (UL.flatMap (·.2)).length = UL.length := by
  have : ∀ c ∈ UL, c.2.length = 1 := fun c hc => by
    have := h.mem_iff.2 (List.mem_append_left _ hc)
    simp only [ownS, List.mem_map] at this
    obtain ⟨s, _, rfl⟩ := this
    rfl
  clear h
  induction UL with
  | nil => rfl
  | cons c UL ih =>
    rw [List.flatMap_cons, List.length_append, this c (by simp), ih (fun c hc => this c (by simp [hc])), List.length_cons]; omega
theorem sum_map_add {α : Type} (f : α → Nat) (A B : List α) : ((A ++ B).map f).sum = (A.map f).sum + (B.map f).sum := by
  rw [List.map_append, List.sum_append]
theorem sum_const {α : Type} (f : α → Nat) (c : Nat) (A : List α) (h : ∀ a ∈ A, f a = c) : (A.map f).sum = A.length * c := by
  induction A with
  | nil => simp
  | cons a A ih =>
    rw [List.map_cons, List.sum_cons, ih (fun a ha => h a (by simp [ha])), h a (by simp), List.length_cons, Nat.add_mul]; omega
theorem sum_congr {α : Type} (f g : α → Nat) (A : List α) (h : ∀ a ∈ A, f a = g a) : (A.map f).sum = (A.map g).sum := by
  rw [List.map_congr_left h]
theorem perm_sum {α : Type} (f : α → Nat) {A B : List α} (h : A.Perm B) : (A.map f).sum = (B.map f).sum := (h.map f).sum_nat

theorem kraft (wt : Int → Int) (S : List Int) (hn : S.Nodup) (hw : ∀ s ∈ S, 1 ≤ wt s) : ∀ (k : Nat) (R U V : List PC), IsRow (ownS wt S) k R → R.Perm (U ++ V) → (∀ u ∈ U, ∀ v ∈ V, u.1 ≤ v.1) →
    (∀ s, cn U s ≤ k + 1) ∧ (∀ s, s ∉ S → cn U s = 0) ∧ U.length * 2 ^ k + (S.map fun s => 2 ^ (k + 1 - cn U s)).sum = S.length * 2 ^ (k + 1) := by
  have hown : ∀ c ∈ ownS wt S, Heavy wt c := fun c hc => by
    simp only [ownS, List.mem_map] at hc
    obtain ⟨s, hs, rfl⟩ := hc
    exact ⟨hw s hs, fun t ht => by simp at ht; subst ht; exact Int.le_refl _⟩
  intro k
  induction k with
  | zero =>
    intro R U V hR hp _
    have hp2 : (ownS wt S).Perm (U ++ V) := hR.1.symm.trans hp
    have hf := (hp2.flatMap_right (·.2))
    rw [own_flat, List.flatMap_append] at hf
    have hnd := hf.nodup_iff.1 hn
    rw [List.nodup_append] at hnd
    have hc1 : ∀ s, cn U s ≤ 1 := fun s => List.nodup_iff_count.1 hnd.1 s
    have hl := flat_own_len hp2
    refine ⟨fun s => by have := hc1 s; omega, fun s hs => ?_, ?_⟩
    · refine List.count_eq_zero.2 fun h => hs (hf.mem_iff.2 (by simp only [List.mem_append]; exact .inl h))
    · rw [perm_sum _ hf, sum_map_add, sum_const _ 1 (U.flatMap (·.2)), sum_const _ 2 (V.flatMap (·.2)), hl, hf.length_eq, List.length_append, hl]
      · simp only [Nat.pow_zero, Nat.zero_add, Nat.pow_one]; omega
      · intro s hs
        have : cn U s = 0 := List.count_eq_zero.2 fun h => hnd.2.2 s h s hs rfl
        rw [this]
      · intro s hs
        have h1 : 0 < cn U s := List.count_pos_iff.2 hs
        have := hc1 s
        rw [show cn U s = 1 by omega]
  | succ k ih =>
    intro R U V ⟨R0, hR0, hpR, _⟩ hp hl
    obtain ⟨UL, VL, UP, VP, h1, h2, h3, h4⟩ := split_append _ _ U V (hpR.symm.trans hp)
    have hs0 : R0.Pairwise Lt := by cases k with
      | zero => exact hR0.2
      | succ k => obtain ⟨_, _, _, h⟩ := hR0; exact h
    obtain ⟨U0, V0, g1, g2, g3, g4, g5⟩ := parts R0 UP VP hs0 h2 (fun u hu v hv => hl u (h3.mem_iff.2 (by simp [hu])) v (h4.mem_iff.2 (by simp [hv])))
    obtain ⟨i1, i2, i3⟩ := ih R0 U0 V0 hR0 g1 g2
    have hf := (h1.flatMap_right (·.2))
    rw [own_flat, List.flatMap_append] at hf
    have hnd := hf.nodup_iff.1 hn
    rw [List.nodup_append] at hnd
    have hc1 : ∀ s, (UL.flatMap (·.2)).count s ≤ 1 := fun s => List.nodup_iff_count.1 hnd.1 s
    have hlen := flat_own_len h1
    have hcn : ∀ s, cn U s = (UL.flatMap (·.2)).count s + cn U0 s := fun s => by
      unfold cn
      rw [(h3.flatMap_right (·.2)).count_eq, List.flatMap_append, List.count_append, ← g4.count_eq]
    have hkey : ∀ s, s ∈ VL.flatMap (·.2) → cn U0 s = 0 := fun s hs => by
      refine List.count_eq_zero.2 fun h => ?_
      rw [List.mem_flatMap] at h hs
      obtain ⟨x, hx, hsx⟩ := h
      obtain ⟨v, hv, hsv⟩ := hs
      obtain ⟨u, hu, y, hy, e1, e2⟩ := g5 x hx
      have hR := heavy_row hown k R0 hR0
      have hhx := hR x (g1.mem_iff.2 (by simp [hx]))
      have hhy := hR y (g1.mem_iff.2 (by simp [hy]))
      have hv2 := h1.mem_iff.2 (List.mem_append_right UL hv)
      simp only [ownS, List.mem_map] at hv2
      obtain ⟨t, ht, rfl⟩ := hv2
      simp at hsv
      subst hsv
      have := hl u (h3.mem_iff.2 (by simp [hu])) _ (h4.mem_iff.2 (List.mem_append_left _ hv))
      have h7 := hhx.2 s hsx
      have h8 := hhy.1
      simp only [] at this
      omega
    refine ⟨fun s => by rw [hcn]; have := hc1 s; have := i1 s; omega, fun s hs => ?_, ?_⟩
    · rw [hcn, i2 s hs, List.count_eq_zero.2 fun h => hs (hf.mem_iff.2 (by simp only [List.mem_append]; exact .inl h))]
    · rw [perm_sum _ hf, sum_map_add] at i3 ⊢
      rw [sum_congr (fun s => 2 ^ (k + 1 + 1 - cn U s)) (fun s => 2 ^ (k + 1 - cn U0 s)) (UL.flatMap (·.2)), sum_const _ (2 ^ (k + 1 + 1)) (VL.flatMap (·.2))]
      · rw [sum_const _ (2 ^ (k + 1)) (VL.flatMap (·.2))] at i3
        · rw [g3, hf.length_eq, List.length_append, hlen] at i3
          rw [hf.length_eq, List.length_append, hlen, h3.length_eq, List.length_append]
          generalize ((UL.flatMap (·.2)).map fun s => 2 ^ (k + 1 - cn U0 s)).sum = X at *
          generalize (VL.flatMap (·.2)).length = v at *
          have e1 : 2 ^ (k + 1) = 2 * 2 ^ k := by rw [Nat.pow_succ]; omega
          have e2 : 2 ^ (k + 1 + 1) = 4 * 2 ^ k := by rw [Nat.pow_succ, e1]; omega
          rw [e1] at i3
          rw [e2, e1]
          generalize 2 ^ k = P at *
          have d1 : ∀ a b c : Nat, (a + b) * (c * P) = c * (a * P) + c * (b * P) := fun a b c => by
            rw [Nat.add_mul, Nat.mul_left_comm a c P, Nat.mul_left_comm b c P]
          have d2 : ∀ a c : Nat, a * (c * P) = c * (a * P) := fun a c => Nat.mul_left_comm a c P
          rw [d1, d2 v 2, Nat.mul_assoc] at i3
          rw [d1, d1, d2 v 4]
          omega
        · intro s hs; rw [hkey s hs]; rfl
      · intro s hs
        have : cn U s = 0 := by rw [hcn, hkey s hs, List.count_eq_zero.2 fun h => hnd.2.2 s h s hs rfl]
        rw [this]; rfl
      · intro s hs
        have h1 : 0 < (UL.flatMap (·.2)).count s := List.count_pos_iff.2 hs
        have := hc1 s
        rw [hcn, show (UL.flatMap (·.2)).count s = 1 by omega, show k + 1 + 1 - (1 + cn U0 s) = k + 1 - cn U0 s by omega]
end Go.Proofs.Ytpecemkjoklhfaa.Pm
