/-
  Texts of this claim, joined by program (PmM, LstM, LstC, BldL, DefG). Packing coins, in plain Lean: the lengths that the least packages give make a full code within the limit, whatever the order of packages alike in weight.
-/
import Derived.Test.YtmgbjgjlddifaaaGreatZG11
import Derived.Test.YtmgbjgjlddifaaaGreatZG17
import Derived.Test.YtmgbjgjlddifaaaGreatZG6
set_option linter.unusedVariables false
set_option linter.unusedSimpArgs false
namespace Go.Proofs.YtmgbjgjlddifaaaGreat.Pm
open Go.RowKit K Bld

theorem split_append {α : Type} [DecidableEq α] : ∀ (A B U V : List α), (A ++ B).Perm (U ++ V) →
    ∃ UL VL UP VP, A.Perm (UL ++ VL) ∧ B.Perm (UP ++ VP) ∧ U.Perm (UL ++ UP) ∧ V.Perm (VL ++ VP) := by
  intro A
  induction A with
  | nil => intro B U V h; exact ⟨[], [], U, V, by simp, h, by simp, by simp⟩
  | cons a A ih =>
    intro B U V h
    have ha : a ∈ U ++ V := h.mem_iff.1 (by simp)
    rw [List.mem_append] at ha
    by_cases hu : a ∈ U
    · have e := List.perm_cons_erase hu
      have h2 : (a :: (A ++ B)).Perm (a :: (U.erase a ++ V)) := h.trans (e.append_right V)
      obtain ⟨UL, VL, UP, VP, h3, h4, h5, h6⟩ := ih B (U.erase a) V h2.cons_inv
      exact ⟨a :: UL, VL, UP, VP, h3.cons a, h4, e.trans (h5.cons a), h6⟩
    · have hv : a ∈ V := by rcases ha with h | h; exact absurd h hu; exact h
      have e := List.perm_cons_erase hv
      have h2 : (a :: (A ++ B)).Perm (a :: (U ++ V.erase a)) := h.trans ((e.append_left U).trans List.perm_middle)
      obtain ⟨UL, VL, UP, VP, h3, h4, h5, h6⟩ := ih B U (V.erase a) h2.cons_inv
      exact ⟨UL, a :: VL, UP, VP, (h3.cons a).trans List.perm_middle.symm, h4, h5, e.trans (h6.cons a)⟩

/-- the parts of the packages that are taken: as light as any, too -/
theorem parts : ∀ (R UP VP : List PC), R.Pairwise Lt → (pairsA R).Perm (UP ++ VP) → (∀ u ∈ UP, ∀ v ∈ VP, u.1 ≤ v.1) →
    ∃ U V, R.Perm (U ++ V) ∧ (∀ u ∈ U, ∀ v ∈ V, u.1 ≤ v.1) ∧ U.length = 2 * UP.length ∧ (U.flatMap (·.2)).Perm (UP.flatMap (·.2)) ∧ ∀ x ∈ U, ∃ u ∈ UP, ∃ y ∈ U, u.1 = x.1 + y.1 ∧ ∀ s ∈ x.2, s ∈ u.2 := by
  intro R
  induction R using pairsA.induct with
  | case2 R hR =>
    intro UP VP hs hp hl
    have : pairsA R = [] := by
      rw [pairsA]
      exact hR
    rw [this] at hp
    have h0 := hp.symm.eq_nil
    rw [List.append_eq_nil_iff] at h0
    obtain ⟨rfl, rfl⟩ := h0
    exact ⟨[], R, by simp, by simp, rfl, by simp, by simp⟩
  | case1 a b t ih =>
    intro UP VP hs hp hl
    rw [pairsA] at hp
    rw [List.pairwise_cons, List.pairwise_cons] at hs
    obtain ⟨hsa, hsb, hst⟩ := hs
    have hab : a.1 ≤ b.1 := hsa b (by simp)
    generalize hpp : ((a.1 + b.1, a.2 ++ b.2) : PC) = p at hp
    have hm : p ∈ UP ++ VP := hp.mem_iff.1 (by simp)
    rw [List.mem_append] at hm
    by_cases hu : p ∈ UP
    · have e := List.perm_cons_erase hu
      have h2 : (p :: pairsA t).Perm (p :: (UP.erase p ++ VP)) := hp.trans (e.append_right VP)
      obtain ⟨U, V, h3, h4, h5, h6, h7⟩ := ih (UP.erase p) VP hst h2.cons_inv (fun u hu' v hv => hl u (List.mem_of_mem_erase hu') v hv)
      refine ⟨a :: b :: U, V, (h3.cons b).cons a, ?_, ?_, ?_, ?_⟩
      · intro u hu' v hv
        have hvt : v ∈ t := h3.mem_iff.2 (by simp [hv])
        rcases List.mem_cons.1 hu' with rfl | hu'
        · exact hsa v (by simp [hvt])
        · rcases List.mem_cons.1 hu' with rfl | hu'
          · exact hsb v hvt
          · exact h4 u hu' v hv
      · have := e.length_eq
        simp only [List.length_cons] at this ⊢
        omega
      · refine List.Perm.trans ?_ (e.flatMap_right (·.2)).symm
        simp only [List.flatMap_cons]
        rw [← List.append_assoc, ← hpp]
        rw [hpp]
        show (a.2 ++ b.2 ++ U.flatMap (·.2)).Perm (p.2 ++ (UP.erase p).flatMap (·.2))
        rw [← hpp]
        rw [hpp]
        have hp2 : p.2 = a.2 ++ b.2 := by rw [← hpp]
        rw [hp2]
        exact h6.append_left _
      · intro x hx
        rcases List.mem_cons.1 hx with rfl | hx
        · exact ⟨p, hu, b, by simp, by rw [← hpp], fun s hs => by rw [← hpp]; simp [hs]⟩
        · rcases List.mem_cons.1 hx with rfl | hx
          · exact ⟨p, hu, a, by simp, by rw [← hpp]; exact Int.add_comm _ _, fun s hs => by rw [← hpp]; simp [hs]⟩
          · obtain ⟨u, h8, y, h9, h10, h11⟩ := h7 x hx
            exact ⟨u, List.mem_of_mem_erase h8, y, by simp [h9], h10, h11⟩
    · have hv : p ∈ VP := by rcases hm with h | h; exact absurd h hu; exact h
      have e := List.perm_cons_erase hv
      have h2 : (p :: pairsA t).Perm (p :: (UP ++ VP.erase p)) := hp.trans ((e.append_left UP).trans List.perm_middle)
      obtain ⟨U, V, h3, h4, h5, h6, h7⟩ := ih UP (VP.erase p) hst h2.cons_inv (fun u hu' v hv => hl u hu' v (List.mem_of_mem_erase hv))
      refine ⟨U, a :: b :: V, ?_, ?_, h5, h6, h7⟩
      · refine List.Perm.trans ((h3.cons b).cons a) ?_
        refine List.Perm.trans ?_ List.perm_middle.symm
        exact (List.perm_middle.symm).cons a
      · intro x hx v hv'
        obtain ⟨u, h8, y, h9, h10, -⟩ := h7 x hx
        have hyt : y ∈ t := h3.mem_iff.2 (by simp [h9])
        have hyb : b.1 ≤ y.1 := hsb y hyt
        have hup := hl u h8 p hv
        rw [← hpp] at hup
        simp only [] at hup
        rcases List.mem_cons.1 hv' with rfl | hv'
        · omega
        · rcases List.mem_cons.1 hv' with rfl | hv'
          · omega
          · exact h4 x hx v hv'

def ownS (wt : Int → Int) (S : List Int) : List PC := S.map fun s => (wt s, [s])
/-- an item weighs as much as each symbol in it, and something -/
def Heavy (wt : Int → Int) (c : PC) : Prop := 1 ≤ c.1 ∧ ∀ s ∈ c.2, wt s ≤ c.1
theorem heavy_pairs {wt : Int → Int} {R : List PC} (h : ∀ c ∈ R, Heavy wt c) : ∀ c ∈ pairsA R, Heavy wt c := by
  induction R using pairsA.induct with
  | case1 a b t ih =>
    intro c hc
    rw [pairsA, List.mem_cons] at hc
    rcases hc with rfl | hc
    · obtain ⟨a1, a2⟩ := h a (by simp)
      obtain ⟨b1, b2⟩ := h b (by simp)
      refine ⟨by simp only []; omega, fun s hs => ?_⟩
      simp only [List.mem_append] at hs ⊢
      rcases hs with hs | hs
      · have := a2 s hs; omega
      · have := b2 s hs; omega
    · exact ih (fun c hc => h c (by simp [hc])) c hc
  | case2 R hR =>
    intro c hc
    rw [pairsA] at hc
    · cases hc
    · exact hR
theorem heavy_row {wt : Int → Int} {own : List PC} (h : ∀ c ∈ own, Heavy wt c) : ∀ k R, IsRow own k R → ∀ c ∈ R, Heavy wt c := by
  intro k
  induction k with
  | zero => intro R hR c hc; exact h c (hR.1.mem_iff.1 hc)
  | succ k ih =>
    intro R ⟨R0, hR0, hp, _⟩ c hc
    have := hp.mem_iff.1 hc
    rw [List.mem_append] at this
    rcases this with h1 | h1
    · exact h c h1
    · exact heavy_pairs (ih R0 hR0) c h1
def cn (U : List PC) (s : Int) : Nat := (U.flatMap (·.2)).count s
theorem own_flat (wt : Int → Int) (S : List Int) : (ownS wt S).flatMap (·.2) = S := by
  induction S with
  | nil => rfl
  | cons s S ih => simp only [ownS, List.map_cons, List.flatMap_cons] at ih ⊢; rw [ih]; rfl
theorem flat_own_len {wt : Int → Int} {S : List Int} {UL VL : List PC} (h : (ownS wt S).Perm (UL ++ VL)) : (UL.flatMap (·.2)).length = UL.length := by
  have : ∀ c ∈ UL, c.2.length = 1 := fun c hc => by
    have := h.mem_iff.2 (List.mem_append_left _ hc)
    simp only [ownS, List.mem_map] at this
    obtain ⟨s, _, rfl⟩ := this
    rfl
  clear h
  induction UL with
  | nil => rfl
  | cons c UL ih =>
    rw [List.flatMap_cons, List.length_append, this c (by simp), ih (fun c hc => this c (by simp [hc])), List.length_cons]; omega
theorem sum_map_add {α : Type} (f : α → Nat) (A B : List α) : ((A ++ B).map f).sum = (A.map f).sum + (B.map f).sum := by
  rw [List.map_append, List.sum_append]
theorem sum_const {α : Type} (f : α → Nat) (c : Nat) (A : List α) (h : ∀ a ∈ A, f a = c) : (A.map f).sum = A.length * c := by
  induction A with
  | nil => simp
  | cons a A ih =>
    rw [List.map_cons, List.sum_cons, ih (fun a ha => h a (by simp [ha])), h a (by simp), List.length_cons, Nat.add_mul]; omega
theorem sum_congr {α : Type} (f g : α → Nat) (A : List α) (h : ∀ a ∈ A, f a = g a) : (A.map f).sum = (A.map g).sum := by
  rw [List.map_congr_left h]
theorem perm_sum {α : Type} (f : α → Nat) {A B : List α} (h : A.Perm B) : (A.map f).sum = (B.map f).sum := (h.map f).sum_nat

theorem kraft (wt : Int → Int) (S : List Int) (hn : S.Nodup) (hw : ∀ s ∈ S, 1 ≤ wt s) : ∀ (k : Nat) (R U V : List PC), IsRow (ownS wt S) k R → R.Perm (U ++ V) → (∀ u ∈ U, ∀ v ∈ V, u.1 ≤ v.1) →
    (∀ s, cn U s ≤ k + 1) ∧ (∀ s, s ∉ S → cn U s = 0) ∧ U.length * 2 ^ k + (S.map fun s => 2 ^ (k + 1 - cn U s)).sum = S.length * 2 ^ (k + 1) := by
  have hown : ∀ c ∈ ownS wt S, Heavy wt c := fun c hc => by
    simp only [ownS, List.mem_map] at hc
    obtain ⟨s, hs, rfl⟩ := hc
    exact ⟨hw s hs, fun t ht => by simp at ht; subst ht; exact Int.le_refl _⟩
  intro k
  induction k with
  | zero =>
    intro R U V hR hp _
    have hp2 : (ownS wt S).Perm (U ++ V) := hR.1.symm.trans hp
    have hf := (hp2.flatMap_right (·.2))
    rw [own_flat, List.flatMap_append] at hf
    have hnd := hf.nodup_iff.1 hn
    rw [List.nodup_append] at hnd
    have hc1 : ∀ s, cn U s ≤ 1 := fun s => List.nodup_iff_count.1 hnd.1 s
    have hl := flat_own_len hp2
    refine ⟨fun s => by have := hc1 s; omega, fun s hs => ?_, ?_⟩
    · refine List.count_eq_zero.2 fun h => hs (hf.mem_iff.2 (by simp only [List.mem_append]; exact .inl h))
    · rw [perm_sum _ hf, sum_map_add, sum_const _ 1 (U.flatMap (·.2)), sum_const _ 2 (V.flatMap (·.2)), hl, hf.length_eq, List.length_append, hl]
      · simp only [Nat.pow_zero, Nat.zero_add, Nat.pow_one]; omega
      · intro s hs
        have : cn U s = 0 := List.count_eq_zero.2 fun h => hnd.2.2 s h s hs rfl
        rw [this]
      · intro s hs
        have h1 : 0 < cn U s := List.count_pos_iff.2 hs
        have := hc1 s
        rw [show cn U s = 1 by omega]
  | succ k ih =>
    intro R U V ⟨R0, hR0, hpR, _⟩ hp hl
    obtain ⟨UL, VL, UP, VP, h1, h2, h3, h4⟩ := split_append _ _ U V (hpR.symm.trans hp)
    have hs0 : R0.Pairwise Lt := by cases k with
      | zero => exact hR0.2
      | succ k => obtain ⟨_, _, _, h⟩ := hR0; exact h
    obtain ⟨U0, V0, g1, g2, g3, g4, g5⟩ := parts R0 UP VP hs0 h2 (fun u hu v hv => hl u (h3.mem_iff.2 (by simp [hu])) v (h4.mem_iff.2 (by simp [hv])))
    obtain ⟨i1, i2, i3⟩ := ih R0 U0 V0 hR0 g1 g2
    have hf := (h1.flatMap_right (·.2))
    rw [own_flat, List.flatMap_append] at hf
    have hnd := hf.nodup_iff.1 hn
    rw [List.nodup_append] at hnd
    have hc1 : ∀ s, (UL.flatMap (·.2)).count s ≤ 1 := fun s => List.nodup_iff_count.1 hnd.1 s
    have hlen := flat_own_len h1
    have hcn : ∀ s, cn U s = (UL.flatMap (·.2)).count s + cn U0 s := fun s => by
      unfold cn
      rw [(h3.flatMap_right (·.2)).count_eq, List.flatMap_append, List.count_append, ← g4.count_eq]
    have hkey : ∀ s, s ∈ VL.flatMap (·.2) → cn U0 s = 0 := fun s hs => by
      refine List.count_eq_zero.2 fun h => ?_
      rw [List.mem_flatMap] at h hs
      obtain ⟨x, hx, hsx⟩ := h
      obtain ⟨v, hv, hsv⟩ := hs
      obtain ⟨u, hu, y, hy, e1, e2⟩ := g5 x hx
      have hR := heavy_row hown k R0 hR0
      have hhx := hR x (g1.mem_iff.2 (by simp [hx]))
      have hhy := hR y (g1.mem_iff.2 (by simp [hy]))
      have hv2 := h1.mem_iff.2 (List.mem_append_right UL hv)
      simp only [ownS, List.mem_map] at hv2
      obtain ⟨t, ht, rfl⟩ := hv2
      simp at hsv
      subst hsv
      have := hl u (h3.mem_iff.2 (by simp [hu])) _ (h4.mem_iff.2 (List.mem_append_left _ hv))
      have h7 := hhx.2 s hsx
      have h8 := hhy.1
      simp only [] at this
      omega
    refine ⟨fun s => by rw [hcn]; have := hc1 s; have := i1 s; omega, fun s hs => ?_, ?_⟩
    · rw [hcn, i2 s hs, List.count_eq_zero.2 fun h => hs (hf.mem_iff.2 (by simp only [List.mem_append]; exact .inl h))]
    · rw [perm_sum _ hf, sum_map_add] at i3 ⊢
      rw [sum_congr (fun s => 2 ^ (k + 1 + 1 - cn U s)) (fun s => 2 ^ (k + 1 - cn U0 s)) (UL.flatMap (·.2)), sum_const _ (2 ^ (k + 1 + 1)) (VL.flatMap (·.2))]
      · rw [sum_const _ (2 ^ (k + 1)) (VL.flatMap (·.2))] at i3
        · rw [g3, hf.length_eq, List.length_append, hlen] at i3
          rw [hf.length_eq, List.length_append, hlen, h3.length_eq, List.length_append]
          generalize ((UL.flatMap (·.2)).map fun s => 2 ^ (k + 1 - cn U0 s)).sum = X at *
          generalize (VL.flatMap (·.2)).length = v at *
          have e1 : 2 ^ (k + 1) = 2 * 2 ^ k := by rw [Nat.pow_succ]; omega
          have e2 : 2 ^ (k + 1 + 1) = 4 * 2 ^ k := by rw [Nat.pow_succ, e1]; omega
          rw [e1] at i3
          rw [e2, e1]
          generalize 2 ^ k = P at *
          have d1 : ∀ a b c : Nat, (a + b) * (c * P) = c * (a * P) + c * (b * P) := fun a b c => by
            rw [Nat.add_mul, Nat.mul_left_comm a c P, Nat.mul_left_comm b c P]
          have d2 : ∀ a c : Nat, a * (c * P) = c * (a * P) := fun a c => Nat.mul_left_comm a c P
          rw [d1, d2 v 2, Nat.mul_assoc] at i3
          rw [d1, d1, d2 v 4]
          omega
        · intro s hs; rw [hkey s hs]; rfl
      · intro s hs
        have : cn U s = 0 := by rw [hcn, hkey s hs, List.count_eq_zero.2 fun h => hnd.2.2 s h s hs rfl]
        rw [this]; rfl
      · intro s hs
        have h1 : 0 < (UL.flatMap (·.2)).count s := List.count_pos_iff.2 hs
        have := hc1 s
        rw [hcn, show (UL.flatMap (·.2)).count s = 1 by omega, show k + 1 + 1 - (1 + cn U0 s) = k + 1 - cn U0 s by omega]
end Go.Proofs.YtmgbjgjlddifaaaGreat.Pm
set_option linter.unusedVariables false
set_option linter.unusedSimpArgs false
namespace Go.Proofs.YtmgbjgjlddifaaaGreat.Lst
open Go.RowKit K Pfx Bld Pm

def pairsW : List Int → List Int
  | a :: b :: t => (a + b) :: pairsW t
  | _ => []
theorem pairsW_map (R : List PC) : (pairsA R).map (·.1) = pairsW (R.map (·.1)) := by
  induction R using pairsA.induct with
  | case1 a b t ih => simp only [pairsA, List.map_cons, pairsW, ih]
  | case2 R h =>
    match R, h with
    | [], _ => rfl
    | [a], _ => simp [pairsA, pairsW]
    | a :: b :: t, h => exact absurd rfl (h a b t)
theorem pairsW_len (W : List Int) : (pairsW W).length = W.length / 2 := by
  induction W using pairsW.induct with
  | case1 a b t ih => simp only [pairsW, List.length_cons, ih]; omega
  | case2 R h =>
    match R, h with
    | [], _ => rfl
    | [a], _ => simp [pairsW]
    | a :: b :: t, h => exact absurd rfl (h a b t)
theorem pairsW_get (W : List Int) (j : Nat) (hj : 2 * j + 1 < W.length) : (pairsW W)[j]? = some (W.getD (2 * j) 0 + W.getD (2 * j + 1) 0) := by
  induction W using pairsW.induct generalizing j with
  | case1 a b t ih =>
    cases j with
    | zero => simp [pairsW]
    | succ j =>
      have := ih j (by simp only [List.length_cons] at hj; omega)
      rw [pairsW, List.getElem?_cons_succ, this, show 2 * (j + 1) = (2 * j) + 1 + 1 by omega]
      simp
  | case2 R h =>
    match R, h with
    | [], _ => simp at hj
    | [a], _ => simp at hj
    | a :: b :: t, h => exact absurd rfl (h a b t)
/-- the weights of a row, rising -/
def IsW (S : List Int) : Nat → List Int → Prop
  | 0, W => W.Perm S ∧ W.Pairwise (· ≤ ·)
  | k+1, W => ∃ W0, IsW S k W0 ∧ W.Perm (S ++ pairsW W0) ∧ W.Pairwise (· ≤ ·)
theorem IsW.sorted {S : List Int} : ∀ {k : Nat} {W : List Int}, IsW S k W → W.Pairwise (· ≤ ·)
  | 0, _, h => h.2
  | _+1, _, h => by obtain ⟨_, _, _, h⟩ := h; exact h
theorem IsW.uniq {S : List Int} : ∀ {k : Nat} {W W' : List Int}, IsW S k W → IsW S k W' → W = W'
  | 0, W, W', h, h' => (h.1.trans h'.1.symm).eq_of_pairwise (fun a b _ _ h5 h6 => Int.le_antisymm h5 h6) h.2 h'.2
  | k+1, W, W', ⟨W0, h0, hp, hs⟩, ⟨W1, h1, hp', hs'⟩ => by
    have e := IsW.uniq h0 h1
    subst e
    exact (hp.trans hp'.symm).eq_of_pairwise (fun a b _ _ h5 h6 => Int.le_antisymm h5 h6) hs hs'
theorem IsW.of_row {own : List PC} : ∀ {k : Nat} {R : List PC}, IsRow own k R → IsW (own.map (·.1)) k (R.map (·.1))
  | 0, R, h => ⟨h.1.map _, by rw [List.pairwise_map]; exact h.2⟩
  | k+1, R, ⟨R0, h0, hp, hs⟩ => ⟨_, IsW.of_row h0, by rw [← pairsW_map, ← List.map_append]; exact hp.map _, by rw [List.pairwise_map]; exact hs⟩
theorem IsW.len {S : List Int} : ∀ {k : Nat} {W : List Int}, IsW S k W → 1 ≤ S.length → S.length ≤ W.length ∧ W.length ≤ 2 * S.length - 1
  | 0, W, h, h1 => by rw [h.1.length_eq]; omega
  | k+1, W, ⟨W0, h0, hp, _⟩, h1 => by
    have := h0.len h1
    rw [hp.length_eq, List.length_append, pairsW_len]; omega
theorem IsW.len_ge {S : List Int} (h1 : 1 ≤ S.length) : ∀ (k : Nat) (W : List Int), IsW S k W → 2 * S.length - 1 - W.length = (S.length - 1) / 2 ^ k := by
  intro k
  induction k with
  | zero => intro W h; rw [h.1.length_eq]; simp; omega
  | succ k ih =>
    intro W ⟨W0, hW0, hp, _⟩
    rw [hp.length_eq, List.length_append, pairsW_len, Nat.pow_succ, ← Nat.div_div_eq_div_mul, ← ih W0 hW0]
    have := IsW.len hW0 h1
    omega
theorem IsW.enough {S : List Int} {k : Nat} {W : List Int} (h : IsW S k W) (h1 : 1 ≤ S.length) (h2 : S.length ≤ 2 ^ (k+1)) : 2 * S.length - 2 ≤ W.length := by
  have := IsW.len_ge h1 k W h
  have h3 : (S.length - 1) / 2 ^ k < 2 := by
    rw [Nat.div_lt_iff_lt_mul (Nat.pow_pos (by omega))]
    rw [Nat.pow_succ] at h2; omega
  omega
theorem pairsW_bd {B : Int} {W : List Int} (h : ∀ x ∈ W, 0 ≤ x ∧ x ≤ B) : ∀ x ∈ pairsW W, 0 ≤ x ∧ x ≤ 2 * B := by
  induction W using pairsW.induct with
  | case1 a b t ih =>
    intro x hx
    rw [pairsW, List.mem_cons] at hx
    rcases hx with rfl | hx
    · have := h a (by simp); have := h b (by simp); omega
    · exact ih (fun c hc => h c (by simp [hc])) x hx
  | case2 R hR =>
    intro c hc
    rw [pairsW] at hc
    · cases hc
    · exact hR
theorem IsW.bd {S : List Int} {B : Int} (hB : 0 ≤ B) (h : ∀ x ∈ S, 0 ≤ x ∧ x ≤ B) : ∀ (k : Nat) (W : List Int), IsW S k W → ∀ x ∈ W, 0 ≤ x ∧ x ≤ B * 2 ^ k := by
  intro k
  induction k with
  | zero => intro W hW x hx; rw [Int.pow_zero]; have := h x (hW.1.mem_iff.1 hx); omega
  | succ k ih =>
    intro W ⟨W0, hW0, hp, _⟩ x hx
    have e : B * 2 ^ (k + 1) = 2 * (B * 2 ^ k) := by rw [Int.pow_succ, ← Int.mul_assoc]; omega
    have h2 := hp.mem_iff.1 hx
    rw [List.mem_append] at h2
    rcases h2 with h2 | h2
    · have h3 := h x h2
      have hp : (1 : Int) ≤ 2 ^ (k + 1) := by have : (0 : Int) < 2 ^ (k+1) := Int.pow_pos (by omega); omega
      have := Int.mul_le_mul_of_nonneg_left hp hB
      omega
    · rw [e]; exact pairsW_bd (ih W0 hW0) x h2
/-- the positive counts -/
def posL (l : List Int) (k : Nat) : List Int := (l.take k).filter (fun x => decide (0 < x))
theorem posL_succ {l : List Int} {k : Nat} {x : Int} (h : l[k]? = some x) : posL l (k+1) = posL l k ++ if 0 < x then [x] else [] := by
  unfold posL
  rw [take_snoc h, List.filter_append]
  congr 1
  by_cases e : 0 < x <;> simp [e]
theorem ownA_pos (l : List Int) (k : Nat) (hk : k ≤ l.length) : (ownA l k).map (·.1) = posL l k := by
  induction k with
  | zero => rfl
  | succ k ih =>
    have hx : l[k]? = some l[k] := List.getElem?_eq_getElem (by omega)
    rw [ownA_succ hx, posL_succ hx, List.map_append, ih (by omega)]
    congr 1
    split <;> rfl
def heavyC (x : Int) : Bool := decide (x < 0) || decide (1073741824 < x)
def badM (l : List Int) (mo : Int) : Int :=
  if 4096 < l.length then 3 else if mo < 1 ∨ 16 < mo then 2 else if l.any heavyC then 2 else if 2 ^ mo.toNat < (posL l l.length).length then 31 else 0
/-! insertion sort -/
def SP (L : List Int) (i : Nat) : Prop := ∀ p q, p < q → q < i → L.getD p 0 ≤ L.getD q 0
structure IN (L : List Int) (i k : Nat) : Prop where
  le : k ≤ i
  two : ∀ p q, p < q → q ≤ i → p ≠ k → q ≠ k → L.getD p 0 ≤ L.getD q 0
  thr : ∀ q, k < q → q ≤ i → L.getD k 0 ≤ L.getD q 0
theorem IN.start {L : List Int} {i : Nat} (h : SP L i) : IN L i i := ⟨Nat.le_refl _, fun p q h1 h2 h3 h4 => h p q h1 (by omega), fun q h1 h2 => by omega⟩
theorem IN.zero {L : List Int} {i : Nat} (h : IN L i 0) : SP L (i + 1) := fun p q h1 h2 => by
  by_cases e : p = 0
  · subst e; exact h.thr q h1 (by omega)
  · exact h.two p q h1 (by omega) e (by omega)
theorem IN.done {L : List Int} {i k : Nat} (h : IN L i (k + 1)) (h0 : L.getD k 0 ≤ L.getD (k + 1) 0) : SP L (i + 1) := fun p q h1 h2 => by
  by_cases e : p = k + 1
  · subst e; exact h.thr q h1 (by omega)
  · by_cases e2 : q = k + 1
    · subst e2
      by_cases e3 : p = k
      · subst e3; exact h0
      · exact Int.le_trans (h.two p k (by omega) (by have := h.le; omega) (by omega) (by omega)) h0
    · exact h.two p q h1 (by omega) e e2
def sw (L : List Int) (k : Nat) : List Int := (L.set (k + 1) (L.getD k 0)).set k (L.getD (k + 1) 0)
theorem sw_len (L : List Int) (k : Nat) : (sw L k).length = L.length := by simp [sw]
theorem sw_get (L : List Int) (k : Nat) (hk : k + 1 < L.length) (j : Nat) : (sw L k).getD j 0 = if j = k then L.getD (k + 1) 0 else if j = k + 1 then L.getD k 0 else L.getD j 0 := by
  unfold sw
  rw [List.getD_eq_getElem?_getD, List.getElem?_set, List.getElem?_set, List.length_set]
  by_cases h1 : j = k
  · subst h1; rw [if_pos rfl, if_pos (by omega), if_pos rfl]; rfl
  · rw [if_neg (by omega), if_neg h1]
    by_cases h2 : j = k + 1
    · subst h2; rw [if_pos rfl, if_pos hk, if_pos rfl]; rfl
    · rw [if_neg (by omega), if_neg h2, List.getD_eq_getElem?_getD]
theorem sw_perm (L : List Int) (k : Nat) (hk : k + 1 < L.length) : (sw L k).Perm L := by
  have h0 : k < L.length := by omega
  have := List.set_set_perm (i := k + 1) (j := k) hk h0
  unfold sw
  rw [List.getD_eq_getElem?_getD, List.getD_eq_getElem?_getD, List.getElem?_eq_getElem h0, List.getElem?_eq_getElem hk]
  exact this
theorem IN.step {L : List Int} {i k : Nat} (h : IN L i (k + 1)) (hi : i < L.length) (h0 : L.getD (k + 1) 0 < L.getD k 0) : IN (sw L k) i k := by
  have hl := h.le
  have g := sw_get L k (by omega)
  refine ⟨by omega, fun p q h1 h2 h3 h4 => ?_, fun q h1 h2 => ?_⟩
  · rw [g p, g q, if_neg h3, if_neg h4]
    by_cases e : p = k + 1
    · rw [if_pos e, if_neg (by omega)]; exact h.two k q (by omega) h2 (by omega) (by omega)
    · rw [if_neg e]
      by_cases e2 : q = k + 1
      · rw [if_pos e2]; exact h.two p k (by omega) (by omega) e (by omega)
      · rw [if_neg e2]; exact h.two p q h1 h2 e e2
  · rw [g k, g q, if_pos rfl, if_neg (by omega)]
    by_cases e : q = k + 1
    · rw [if_pos e]; omega
    · rw [if_neg e]; exact h.thr q (by omega) h2
theorem SP.sorted {L : List Int} (h : SP L L.length) : L.Pairwise (· ≤ ·) := by
  rw [List.pairwise_iff_getElem]
  intro i j hi hj hij
  have := h i j hij hj
  rwa [List.getD_eq_getElem?_getD, List.getD_eq_getElem?_getD, List.getElem?_eq_getElem hi, List.getElem?_eq_getElem hj] at this
/-! merging -/
structure MG (a b O : List Int) (i k : Nat) : Prop where
  perm : O.Perm (a.take i ++ b.take k)
  sort : O.Pairwise (· ≤ ·)
  low : ∀ x ∈ O, ∀ y ∈ a.drop i ++ b.drop k, x ≤ y
theorem MG.start (a b : List Int) : MG a b [] 0 0 := ⟨by simp, List.Pairwise.nil, fun x hx => by cases hx⟩
theorem MG.pushA {a b O : List Int} {i k : Nat} {x : Int} (h : MG a b O i k) (ha : a.Pairwise (· ≤ ·)) (hx : a[i]? = some x) (hb : ∀ y ∈ b.drop k, x ≤ y) : MG a b (O ++ [x]) (i + 1) k := by
  have hd : a.drop i = x :: a.drop (i + 1) := by
    have hi : i < a.length := by
      rcases Nat.lt_or_ge i a.length with h | h
      · exact h
      · rw [List.getElem?_eq_none h] at hx; cases hx
    rw [List.drop_eq_getElem_cons hi]
    rw [List.getElem?_eq_getElem hi] at hx; injection hx with hx; rw [hx]
  have hs := (List.pairwise_append.1 (by rw [List.take_append_drop]; exact ha : (a.take i ++ a.drop i).Pairwise (· ≤ ·))).2.1
  rw [hd, List.pairwise_cons] at hs
  refine ⟨?_, ?_, ?_⟩
  · rw [take_snoc hx]
    refine (h.perm.append_right [x]).trans ?_
    rw [List.append_assoc, List.append_assoc]
    exact List.Perm.append_left _ List.perm_append_comm
  · rw [List.pairwise_append]
    refine ⟨h.sort, by simp, fun u hu v hv => ?_⟩
    simp at hv; subst hv
    exact h.low u hu v (by rw [hd]; simp)
  · intro u hu y hy
    rw [List.mem_append] at hu hy
    rcases hu with hu | hu
    · refine h.low u hu y ?_
      rw [List.mem_append, hd]
      rcases hy with hy | hy
      · exact .inl (by simp [hy])
      · exact .inr hy
    · simp at hu; subst hu
      rcases hy with hy | hy
      · exact hs.1 y hy
      · exact hb y hy
theorem MG.swap {a b O : List Int} {i k : Nat} (h : MG a b O i k) : MG b a O k i :=
  ⟨h.perm.trans List.perm_append_comm, h.sort, fun x hx y hy => h.low x hx y (by rw [List.mem_append] at hy ⊢; exact hy.symm)⟩
theorem drop_ge {b : List Int} {k : Nat} {x y : Int} (hb : b.Pairwise (· ≤ ·)) (hy : b[k]? = some y) (hxy : x ≤ y) : ∀ z ∈ b.drop k, x ≤ z := by
  have hi : k < b.length := by
    rcases Nat.lt_or_ge k b.length with h | h
    · exact h
    · rw [List.getElem?_eq_none h] at hy; cases hy
  have hd : b.drop k = y :: b.drop (k + 1) := by
    rw [List.drop_eq_getElem_cons hi]
    rw [List.getElem?_eq_getElem hi] at hy; injection hy with hy; rw [hy]
  have hs := (List.pairwise_append.1 (by rw [List.take_append_drop]; exact hb : (b.take k ++ b.drop k).Pairwise (· ≤ ·))).2.1
  rw [hd, List.pairwise_cons] at hs
  intro z hz
  rw [hd, List.mem_cons] at hz
  rcases hz with rfl | hz
  · exact hxy
  · exact Int.le_trans hxy (hs.1 z hz)
theorem MG.done {a b O : List Int} {i k : Nat} (h : MG a b O i k) (hi : a.length ≤ i) (hk : b.length ≤ k) : O.Perm (a ++ b) ∧ O.Pairwise (· ≤ ·) := by
  have := h.perm
  rw [List.take_of_length_le hi, List.take_of_length_le hk] at this
  exact ⟨this, h.sort⟩
theorem MG.len {a b O : List Int} {i k : Nat} (h : MG a b O i k) (hi : i ≤ a.length) (hk : k ≤ b.length) : O.length = i + k := by
  rw [h.perm.length_eq, List.length_append, List.length_take, List.length_take]; omega
end Go.Proofs.YtmgbjgjlddifaaaGreat.Lst
set_option linter.unusedVariables false
set_option linter.unusedSimpArgs false
namespace Go.Proofs.YtmgbjgjlddifaaaGreat.Lst
open Go.RowKit K Pfx Bld Pm

theorem filterMap_if {α β : Type} (p : α → Prop) [DecidablePred p] (f : α → β) (L : List α) : L.filterMap (fun i => if p i then some (f i) else none) = (L.filter (fun i => decide (p i))).map f := by
  induction L with
  | nil => rfl
  | cons a L ih =>
    by_cases h : p a
    · rw [List.filterMap_cons, List.filter_cons]; simp [h, ih]
    · rw [List.filterMap_cons, List.filter_cons]; simp [h, ih]
theorem sum_filter {α : Type} (p : α → Prop) [DecidablePred p] (g : α → Int) (L : List α) : ((L.filter (fun i => decide (p i))).map g).sum = (L.map (fun i => if p i then g i else 0)).sum := by
  induction L with
  | nil => rfl
  | cons a L ih =>
    by_cases h : p a
    · rw [List.filter_cons]; simp [h, ih]
    · rw [List.filter_cons]; simp [h, ih]
/-- the symbols that have a count -/
def symN (l : List Int) : List Nat := (List.range l.length).filter (fun i => decide (0 < l.getD i 0))
def sym (l : List Int) : List Int := (symN l).map fun i : Nat => (i : Int)
def wt (l : List Int) (s : Int) : Int := l.getD s.toNat 0
theorem own_sym (l : List Int) : ownA l l.length = ownS (wt l) (sym l) := by
  unfold ownA ownS sym
  rw [filterMap_if (fun i : Nat => 0 < l.getD i 0) (fun i : Nat => (l.getD i 0, [(i : Int)])), List.map_map]
  rfl
theorem sym_nodup (l : List Int) : (sym l).Nodup := by
  unfold sym symN
  have h : ((List.range l.length).filter (fun i => decide (0 < l.getD i 0))).Nodup := List.nodup_range.filter _
  generalize (List.range l.length).filter (fun i => decide (0 < l.getD i 0)) = L at h
  induction L with
  | nil => exact List.nodup_nil
  | cons a L ih =>
    rw [List.nodup_cons] at h
    rw [List.map_cons, List.nodup_cons]
    refine ⟨fun hm => ?_, ih h.2⟩
    rw [List.mem_map] at hm
    obtain ⟨b, hb, e⟩ := hm
    have : b = a := by omega
    subst this
    exact h.1 hb
theorem sym_mem {l : List Int} {s : Int} : s ∈ sym l ↔ ∃ i : Nat, s = i ∧ i < l.length ∧ 0 < l.getD i 0 := by
  unfold sym symN
  rw [List.mem_map]
  constructor
  · rintro ⟨i, hi, rfl⟩
    rw [List.mem_filter, List.mem_range] at hi
    exact ⟨i, rfl, hi.1, by simpa using hi.2⟩
  · rintro ⟨i, rfl, h1, h2⟩
    exact ⟨i, by rw [List.mem_filter, List.mem_range]; exact ⟨h1, by simpa using h2⟩, rfl⟩
theorem sym_len (l : List Int) : (sym l).length = (posL l l.length).length := by
  rw [← ownA_pos l l.length (Nat.le_refl _), own_sym, List.length_map]; simp [ownS]
theorem wt_pos {l : List Int} {s : Int} (h : s ∈ sym l) : 1 ≤ wt l s := by
  obtain ⟨i, rfl, _, h2⟩ := sym_mem.1 h
  unfold wt; simp only [Int.toNat_natCast]; omega
theorem sum_sym (l : List Int) (g : Int → Int) : ((sym l).map g).sum = ((List.range l.length).map (fun i : Nat => if 0 < l.getD i 0 then g i else 0)).sum := by
  unfold sym symN
  rw [List.map_map]
  exact sum_filter (fun i : Nat => 0 < l.getD i 0) (fun i : Nat => g i) (List.range l.length)
theorem sum_one {S : List Int} (hn : S.Nodup) {t : Int} (ht : t ∈ S) (c : Int) : (S.map (fun s => if t = s then c else 0)).sum = c := by
  induction S with
  | nil => cases ht
  | cons a S ih =>
    rw [List.nodup_cons] at hn
    rw [List.map_cons, List.sum_cons]
    by_cases e : t = a
    · subst e
      rw [if_pos rfl]
      have : (S.map (fun s => if t = s then c else 0)).sum = 0 := by
        have h : ∀ s ∈ S, (if t = s then c else 0) = 0 := fun s hs => by rw [if_neg (fun e => by subst e; exact hn.1 hs)]
        rw [List.map_congr_left h]
        clear h ih ht hn
        induction S with
        | nil => rfl
        | cons b S ih => simpa using ih
      omega
    · rw [if_neg e, ih hn.2 (by rcases List.mem_cons.1 ht with h | h; exact absurd h e; exact h)]; omega
theorem sum_add (f g : Int → Int) (S : List Int) : (S.map (fun s => f s + g s)).sum = (S.map f).sum + (S.map g).sum := by
  induction S with
  | nil => rfl
  | cons a S ih => simp only [List.map_cons, List.sum_cons, ih]; omega
theorem sum_zero (S : List Int) : (S.map (fun _ => (0 : Int))).sum = 0 := by
  induction S with
  | nil => rfl
  | cons a S ih => simp only [List.map_cons, List.sum_cons, ih]; rfl
/-- a sum over a list, symbol by symbol -/
theorem sum_count {S : List Int} (hn : S.Nodup) (w : Int → Int) : ∀ T : List Int, (∀ t ∈ T, t ∈ S) → (T.map w).sum = (S.map (fun s => w s * (T.count s : Nat))).sum := by
  intro T
  induction T with
  | nil => intro _; simp [sum_zero]
  | cons t T ih =>
    intro h
    rw [List.map_cons, List.sum_cons, ih (fun u hu => h u (by simp [hu]))]
    have e : ∀ s ∈ S, w s * ((t :: T).count s : Nat) = (if t = s then w t else 0) + w s * (T.count s : Nat) := fun s _ => by
      rw [List.count_cons]
      by_cases e : t = s
      · subst e; simp [Int.mul_add]; omega
      · rw [if_neg e]; simp [e]
    rw [List.map_congr_left e, sum_add (fun s => if t = s then w t else 0) (fun s => w s * (T.count s : Nat)), sum_one hn (h t (by simp)) (w t)]
/-- an item's weight is its symbols' -/
theorem row_weight {w : Int → Int} {own : List PC} (h : ∀ c ∈ own, c.1 = (c.2.map w).sum) : ∀ k R, IsRow own k R → ∀ c ∈ R, c.1 = (c.2.map w).sum := by
  intro k
  induction k with
  | zero => intro R hR c hc; exact h c (hR.1.mem_iff.1 hc)
  | succ k ih =>
    intro R ⟨R0, hR0, hp, _⟩ c hc
    have := hp.mem_iff.1 hc
    rw [List.mem_append] at this
    rcases this with h1 | h1
    · exact h c h1
    · have h0 := ih R0 hR0
      clear hp hc hR0 ih
      induction R0 using pairsA.induct with
      | case1 a b t ih2 =>
        rw [pairsA, List.mem_cons] at h1
        rcases h1 with rfl | h1
        · simp only [List.map_append, List.sum_append_int]
          rw [← h0 a (by simp), ← h0 b (by simp)]
        · exact ih2 h1 (fun c hc => h0 c (by simp [hc]))
      | case2 R hR =>
        rw [pairsA] at h1
        · cases h1
        · exact hR
theorem flat_sum {w : Int → Int} : ∀ U : List PC, (∀ c ∈ U, c.1 = (c.2.map w).sum) → (U.map (·.1)).sum = ((U.flatMap (·.2)).map w).sum := by
  intro U
  induction U with
  | nil => intro _; rfl
  | cons c U ih =>
    intro h
    rw [List.map_cons, List.sum_cons, List.flatMap_cons, List.map_append, List.sum_append_int, ih (fun c hc => h c (by simp [hc])), h c (by simp)]
theorem sum_cast (f : Int → Nat) (S : List Int) : ((S.map f).sum : Int) = (S.map (fun s => (f s : Int))).sum := by
  induction S with
  | nil => rfl
  | cons a S ih => simp only [List.map_cons, List.sum_cons]; push_cast; rw [ih]
theorem sum_ge {S : List Int} {f : Int → Nat} (h : ∀ s ∈ S, 1 ≤ f s) : S.length ≤ (S.map f).sum := by
  induction S with
  | nil => simp
  | cons a S ih =>
    have := h a (by simp)
    have := ih (fun s hs => h s (by simp [hs]))
    simp only [List.map_cons, List.sum_cons, List.length_cons]; omega
theorem sum_big {S : List Int} {f : Int → Nat} (h : ∀ s ∈ S, 1 ≤ f s) {t : Int} (ht : t ∈ S) : f t + (S.length - 1) ≤ (S.map f).sum := by
  induction S with
  | nil => cases ht
  | cons a S ih =>
    have h1 := h a (by simp)
    have h2 : ∀ s ∈ S, 1 ≤ f s := fun s hs => h s (by simp [hs])
    have h3 := sum_ge h2
    simp only [List.map_cons, List.sum_cons, List.length_cons]
    rcases List.mem_cons.1 ht with rfl | ht
    · omega
    · have := ih h2 ht
      have : 1 ≤ S.length := List.length_pos_of_mem ht
      omega
/-- what Build answers, of two symbols or more -/
structure Full (l : List Int) (most : Nat) (o : Nat → Int) : Prop where
  fit : ∀ i, i < l.length → 0 ≤ o i ∧ o i ≤ most ∧ (0 < o i ↔ 0 < l.getD i 0)
  room : ((List.range l.length).map (fun i => cost (o i))).sum = 65536
  sum : ∀ W, IsW (posL l l.length) (most - 1) W → ((List.range l.length).map (fun i => if 0 < l.getD i 0 then l.getD i 0 * o i else 0)).sum = (W.take (2 * (posL l l.length).length - 2)).sum
theorem full_of {l : List Int} {most : Nat} {o : Nat → Int} {R : List PC} (m1 : 1 ≤ most) (m2 : most ≤ 16) (h2 : 2 ≤ (ownA l l.length).length) (hle : (ownA l l.length).length ≤ 2 ^ most) (hR : IsRow (ownA l l.length) (most - 1) R)
    (ho : ∀ i : Nat, o i = ((occ R (2 * (ownA l l.length).length - 2)).count (i : Int) : Nat)) : Full l most o := by
  have hp : (ownA l l.length).length = (posL l l.length).length := by rw [← ownA_pos l l.length (Nat.le_refl _), List.length_map]
  have hen := hR.enough (by omega) (by rw [show most - 1 + 1 = most by omega]; exact hle)
  have hsl := sym_len l
  rw [hp] at h2 hle hen ho
  have hRS : R.Pairwise Lt := by
    cases hk : most - 1 with
    | zero => rw [hk] at hR; exact hR.2
    | succ k => rw [hk] at hR; obtain ⟨_, _, _, h⟩ := hR; exact h
  have hR0 := hR
  rw [own_sym] at hR
  generalize hM : 2 * (posL l l.length).length - 2 = M at *
  have hsplit : R.Perm (R.take M ++ R.drop M) := by rw [List.take_append_drop]
  have hlow : ∀ u ∈ R.take M, ∀ v ∈ R.drop M, u.1 ≤ v.1 := by
    have : (R.take M ++ R.drop M).Pairwise Lt := by rw [List.take_append_drop]; exact hRS
    exact (List.pairwise_append.1 this).2.2
  obtain ⟨k1, k2, k3⟩ := kraft (wt l) (sym l) (sym_nodup l) (fun s hs => wt_pos hs) (most - 1) R (R.take M) (R.drop M) hR hsplit hlow
  rw [show most - 1 + 1 = most by omega, List.length_take, show min M R.length = M by omega, hsl] at k3
  have hcn : ∀ s, cn (R.take M) s = (occ R M).count s := fun s => rfl
  have ksum : ((sym l).map fun s => 2 ^ (most - cn (R.take M) s)).sum = 2 ^ most := by
    have e : 2 ^ most = 2 * 2 ^ (most - 1) := by
      obtain ⟨q, rfl⟩ : ∃ q, most = q + 1 := ⟨most - 1, by omega⟩
      rw [Nat.pow_succ, Nat.add_sub_cancel]; omega
    obtain ⟨p, hpp⟩ : ∃ p, (posL l l.length).length = p + 1 := ⟨(posL l l.length).length - 1, by omega⟩
    rw [hpp, e] at k3
    have hM2 : M = 2 * p := by omega
    rw [hM2] at k3
    rw [e]
    generalize 2 ^ (most - 1) = P at *
    have d1 : 2 * p * P = 2 * (p * P) := Nat.mul_assoc _ _ _
    have d2 : (p + 1) * (2 * P) = 2 * (p * P) + 2 * P := by rw [Nat.add_mul, Nat.mul_left_comm, Nat.one_mul]
    rw [hM2]
    omega
  have kpos : ∀ s ∈ sym l, 0 < cn (R.take M) s := fun s hs => by
    rcases Nat.eq_zero_or_pos (cn (R.take M) s) with h0 | h0
    · exfalso
      have := sum_big (f := fun s => 2 ^ (most - cn (R.take M) s)) (fun s _ => Nat.one_le_two_pow) hs
      simp only [h0] at this
      rw [ksum, hsl] at this
      simp only [Nat.sub_zero] at this
      omega
    · exact h0
  have hoc : ∀ i : Nat, o i = (cn (R.take M) (i : Int) : Nat) := fun i => by rw [ho i, hcn]
  have hfit : ∀ i, i < l.length → 0 ≤ o i ∧ o i ≤ most ∧ (0 < o i ↔ 0 < l.getD i 0) := fun i hi => by
    have h1 := k1 (i : Int)
    rw [hoc i]
    refine ⟨by omega, by omega, ⟨fun h => ?_, fun h => ?_⟩⟩
    · by_cases hm : (i : Int) ∈ sym l
      · obtain ⟨j, e, -, h3⟩ := sym_mem.1 hm
        have : i = j := by omega
        subst this; exact h3
      · have := k2 _ hm; omega
    · have := kpos _ (sym_mem.2 ⟨i, rfl, hi, h⟩); omega
  refine ⟨hfit, ?_, fun W hW => ?_⟩
  · have e1 : ∀ i ∈ List.range l.length, cost (o i) = if 0 < l.getD i 0 then ((2 ^ (16 - cn (R.take M) (i : Int)) : Nat) : Int) else 0 := fun i hi => by
      rw [List.mem_range] at hi
      have hf := hfit i hi
      unfold cost
      by_cases h : 0 < l.getD i 0
      · rw [if_pos h, if_pos (hf.2.2.2 h), hoc i]
        rw [show ((16 : Int) - ((cn (R.take M) (i : Int) : Nat) : Int)).toNat = 16 - cn (R.take M) (i : Int) by omega]
        push_cast; rfl
      · rw [if_neg h, if_neg (fun h' => h (hf.2.2.1 h'))]
    rw [List.map_congr_left e1, ← sum_sym l (fun s => ((2 ^ (16 - cn (R.take M) s) : Nat) : Int)), ← sum_cast]
    have e2 : ∀ s ∈ sym l, 2 ^ (16 - cn (R.take M) s) = 2 ^ (16 - most) * 2 ^ (most - cn (R.take M) s) := fun s _ => by
      have := k1 s
      rw [← Nat.pow_add]; congr 1; omega
    rw [List.map_congr_left e2]
    have e3 : ∀ (c : Nat) (f : Int → Nat) (S : List Int), (S.map (fun s => c * f s)).sum = c * (S.map f).sum := fun c f S => by
      induction S with
      | nil => rfl
      | cons a S ih => simp only [List.map_cons, List.sum_cons, ih, Nat.mul_add]
    rw [e3, ksum, ← Nat.pow_add, show 16 - most + most = 16 by omega]
    rfl
  · have hWR : W = R.map (·.1) := by
      have := IsW.of_row hR0
      rw [ownA_pos l l.length (Nat.le_refl _)] at this
      exact hW.uniq this
    have hw : ∀ c ∈ R, c.1 = (c.2.map (wt l)).sum := row_weight (fun c hc => by
      simp only [ownS, List.mem_map] at hc
      obtain ⟨s, hs, rfl⟩ := hc
      simp) _ R hR
    have hsub : ∀ t ∈ (R.take M).flatMap (·.2), t ∈ sym l := fun t ht => by
      by_cases hm : t ∈ sym l
      · exact hm
      · have := k2 t hm
        unfold cn at this
        exact absurd ht (List.count_eq_zero.1 this)
    rw [hM, hWR, ← List.map_take, flat_sum _ (fun c hc => hw c (List.mem_of_mem_take hc)), sum_count (sym_nodup l) (wt l) _ hsub]
    rw [sum_sym l (fun s => wt l s * (((R.take M).flatMap (·.2)).count s : Nat))]
    congr 1
    refine List.map_congr_left fun i hi => ?_
    by_cases h : 0 < l.getD i 0
    · rw [if_pos h, if_pos h, hoc i]; unfold wt cn; simp
    · rw [if_neg h, if_neg h]
/-- what is right of Build's lengths -/
structure OkB (l : List Int) (mo : Int) (o : Nat → Int) : Prop where
  len : l.length ≤ 4096
  good : l.any heavyC = false
  lo : 1 ≤ mo
  hi : mo ≤ 16
  le : (posL l l.length).length ≤ 2 ^ mo.toNat
  fit : ∀ i, i < l.length → 0 ≤ o i ∧ o i ≤ mo ∧ (0 < o i ↔ 0 < l.getD i 0)
  one : (posL l l.length).length = 1 → ((List.range l.length).map (fun i => cost (o i))).sum = 32768
  two : 2 ≤ (posL l l.length).length → Full l mo.toNat o
theorem pos_nil {l : List Int} (h : (posL l l.length).length = 0) {i : Nat} (hi : i < l.length) : ¬ 0 < l.getD i 0 := fun h0 => by
  have := sym_mem.2 ⟨i, rfl, hi, h0⟩
  have h1 := sym_len l
  rw [h] at h1
  rw [List.length_eq_zero_iff.1 h1] at this
  cases this
theorem ok_of {l : List Int} {most : Nat} {o : Nat → Int} (hl : l.length ≤ 4096) (hg : l.any heavyC = false) (m1 : 1 ≤ most) (m2 : most ≤ 16) (hle : ¬ 2 ^ most < (ownA l l.length).length)
    (h : if (ownA l l.length).length = 0 then ∀ i, o i = 0 else if (ownA l l.length).length = 1 then ∀ i, o i = if 0 < l.getD i 0 ∧ i < l.length then 1 else 0
      else ∃ R, IsRow (ownA l l.length) (most - 1) R ∧ ∀ i : Nat, o i = ((occ R (2 * (ownA l l.length).length - 2)).count (i : Int) : Nat)) : OkB l most o := by
  have hp : (ownA l l.length).length = (posL l l.length).length := by rw [← ownA_pos l l.length (Nat.le_refl _), List.length_map]
  have htn : (most : Int).toNat = most := by omega
  by_cases h0 : (ownA l l.length).length = 0
  · rw [if_pos h0] at h
    rw [hp] at h0
    refine ⟨hl, hg, by omega, by omega, by rw [h0]; exact Nat.zero_le _, fun i hi => ?_, fun h1 => by omega, fun h2 => by omega⟩
    rw [h i]
    have := pos_nil h0 hi
    exact ⟨by omega, by omega, by omega⟩
  · rw [if_neg h0] at h
    by_cases h1 : (ownA l l.length).length = 1
    · rw [if_pos h1] at h
      rw [hp] at h1
      refine ⟨hl, hg, by omega, by omega, by rw [h1]; exact Nat.one_le_two_pow, fun i hi => ?_, fun _ => ?_, fun h2 => by omega⟩
      · rw [h i]
        by_cases hx : 0 < l.getD i 0
        · rw [if_pos ⟨hx, hi⟩]; exact ⟨by omega, by omega, by omega⟩
        · rw [if_neg (fun e => hx e.1)]; exact ⟨by omega, by omega, by omega⟩
      · have e1 : ∀ i ∈ List.range l.length, cost (o i) = if 0 < l.getD i 0 then 32768 else 0 := fun i hi => by
          rw [List.mem_range] at hi
          rw [h i]
          by_cases hx : 0 < l.getD i 0
          · rw [if_pos ⟨hx, hi⟩, if_pos hx]; rfl
          · rw [if_neg (fun e => hx e.1), if_neg hx]; rfl
        rw [List.map_congr_left e1, ← sum_sym l (fun _ => 32768)]
        have h3 := sym_len l
        rw [h1] at h3
        obtain ⟨a, ha⟩ := List.length_eq_one_iff.1 h3
        rw [ha]; rfl
    · rw [if_neg h1] at h
      obtain ⟨R, hR, ho⟩ := h
      have hF := full_of m1 m2 (by omega) (by omega) hR ho
      exact ⟨hl, hg, by omega, by omega, by rw [htn, ← hp]; omega, hF.fit, fun h2 => by omega, fun _ => by rw [htn]; exact hF⟩
theorem room_of {o : Nat → Int} {n : Nat} (hn : n ≤ 4096) (h : ∀ i, i < n → 0 ≤ o i ∧ o i ≤ 16) : roomRes ((List.range n).map o) = (65536 - ((List.range n).map (fun i => cost (o i))).sum, 0) := by
  rw [res_ok (by simpa using hn)]
  · unfold roomAt; rw [List.take_length, List.map_map]; rfl
  · rw [List.any_eq_false]
    intro x hx
    rw [List.mem_map] at hx
    obtain ⟨i, hi, rfl⟩ := hx
    rw [List.mem_range] at hi
    have := h i hi
    simp [badLen]; omega
def rs (l : List Int) (o : Nat → Int) (k : Nat) : Int := ((List.range k).map (fun i => if 0 < l.getD i 0 then l.getD i 0 * o i else 0)).sum
theorem rs_succ (l : List Int) (o : Nat → Int) (k : Nat) : rs l o (k + 1) = rs l o k + if 0 < l.getD k 0 then l.getD k 0 * o k else 0 := by
  unfold rs; rw [List.range_succ, List.map_append, List.sum_append_int]; simp
theorem heavy_eq : heavyC = fun x => decide (x < 0) || decide (1073741824 < x) := rfl
end Go.Proofs.YtmgbjgjlddifaaaGreat.Lst
set_option linter.unusedVariables false
set_option linter.unusedSimpArgs false
namespace Go.Proofs.YtmgbjgjlddifaaaGreat.LawB
open Go.RowKit K Pfx Bld Lst

/-- what Build answers, beside the reference's Bad -/
structure BL (w : World) (l : List Int) (mo er : Int) (X : Option Addr) (nx : Nat) (w' : World) : Prop where
  bel : Below w.heap.size w w'
  err : er = badM l mo
  bad : er ≠ 0 → nx = 0
  lo : ∀ b off s, X = some ⟨b, off, s⟩ → w.heap.size ≤ b
  ok : er = 0 → nx = l.length ∧ ∃ o, SI w' .i64 X nx ((List.range l.length).map o) ∧ OkB l mo o ∧ (List.range l.length).map o = bldF l mo.toNat
def BLPost (w : World) (l : List Int) (mo : Int) (e : Ending) (w' : World) : Prop := ∃ er X nx cx, e = .returned (.tuple #[.slice X nx cx, .int .i64 er]) ∧ BL w l mo er X nx w'
theorem build_law {A : Option Addr} {n c : Nat} {mo : Int} {l : List Int} (w : World) (HA : SI w .i64 A n l) : Calls Tryz.prog 46 #[.slice A n c, .int .i64 mo] w (BLPost w l mo) := by
  have hlen := HA.len
  have hh : heavyB = heavyC := rfl
  by_cases h1 : 4096 < n
  · refine (build_long w HA h1).mono ?_
    rintro e w' ⟨rfl, rfl⟩
    exact ⟨3, _, _, _, rfl, Below.refl _ _, by unfold badM; rw [if_pos (by omega)], fun _ => rfl, (fun b off s h => by cases h), fun h => by omega⟩
  · by_cases h2 : mo < 1 ∨ 16 < mo ∨ l.any heavyB = true
    · refine (build_range w HA (by omega) h2).mono ?_
      rintro e w' ⟨rfl, rfl⟩
      refine ⟨2, _, _, _, rfl, Below.refl _ _, ?_, fun _ => rfl, (fun b off s h => by cases h), fun h => by omega⟩
      unfold badM
      rw [if_neg (by omega)]
      by_cases h3 : mo < 1 ∨ 16 < mo
      · rw [if_pos h3]
      · rw [if_neg h3, if_pos (by rw [← hh]; rcases h2 with h | h | h <;> first | omega | exact h)]
    · obtain ⟨most, rfl⟩ : ∃ m : Nat, mo = m := ⟨mo.toNat, by omega⟩
      have h3 : l.any heavyB = false := by
        cases h : l.any heavyB with
        | false => rfl
        | true => exact absurd (.inr (.inr h)) h2
      have hp : (ownA l l.length).length = (posL l l.length).length := by rw [← ownA_pos l l.length (Nat.le_refl _), List.length_map]
      have hbad : badM l most = if 2 ^ most < (posL l l.length).length then 31 else 0 := by
        unfold badM
        rw [if_neg (by omega), if_neg (by omega), ← hh, h3, if_neg (by simp)]; rfl
      refine (build_ok w HA (by omega) (by omega) (by omega) h3).mono ?_
      rintro e w' ⟨hb, h⟩
      by_cases h4 : 2 ^ most < (ownA l l.length).length
      · rw [if_pos h4] at h
        exact ⟨31, _, _, _, h, hb, by rw [hbad, if_pos (by omega)], fun _ => rfl, (fun b off s h => by cases h), fun h => by omega⟩
      · rw [if_neg h4] at h
        obtain ⟨b, o, hlo, he, hr, ho⟩ := h
        have hsi : SI w' .i64 (some ⟨b, 0, none⟩) l.length ((List.range l.length).map o) := SI.of_row hr (by show _ * 8 ≤ _; have := HA.big; omega)
        have ho2 : if (ownA l l.length).length = 0 then ∀ i, o i = 0 else if (ownA l l.length).length = 1 then ∀ i, o i = if 0 < l.getD i 0 ∧ i < l.length then 1 else 0
            else ∃ R, IsRow (ownA l l.length) (most - 1) R ∧ ∀ i : Nat, o i = ((occ R (2 * (ownA l l.length).length - 2)).count (i : Int) : Nat) := by
          split
          · rename_i k; rw [if_pos k] at ho; exact ho
          · rename_i k
            rw [if_neg k] at ho
            split
            · rename_i k2; rw [if_pos k2] at ho; exact ho
            · rename_i k2
              rw [if_neg k2] at ho
              obtain ⟨R, hR, hO⟩ := ho
              exact ⟨R, isRow_of hR, hO⟩
        have ho3 : ∀ i, o i = buildO l most i := fun i => by
          unfold buildO
          split
          · rename_i k; rw [if_pos k] at ho; exact ho i
          · rename_i k
            rw [if_neg k] at ho
            split
            · rename_i k2; rw [if_pos k2] at ho; exact ho i
            · rename_i k2
              rw [if_neg k2] at ho
              obtain ⟨R, hR, hO⟩ := ho
              rw [hO i, hR]
        have hdet : (List.range l.length).map o = bldF l (most : Int).toNat := by
          rw [Int.toNat_natCast]
          exact List.map_congr_left fun i _ => ho3 i
        exact ⟨0, _, _, _, he, hb, by rw [hbad, if_neg (by omega)], fun h => absurd rfl h, (fun b' off s h => by injection h with h; injection h with h _ _; omega), fun _ => ⟨rfl, o, hsi, ok_of (by omega) h3 (by omega) (by omega) h4 ho2, hdet⟩⟩
end Go.Proofs.YtmgbjgjlddifaaaGreat.LawB
set_option linter.unusedVariables false
set_option linter.unusedSimpArgs false
namespace Go.Proofs.YtmgbjgjlddifaaaGreat.Def
open Go.RowKit K Pfx Lst Bld

structure GoodC (l : List Int) (mo : Nat) (L : List Int) : Prop where
  len : L.length = l.length
  chk : checkedOf L = 0
  fit : ∀ i, i < l.length → 0 ≤ L.getD i 0 ∧ L.getD i 0 ≤ mo ∧ (0 < L.getD i 0 ↔ 0 < l.getD i 0)
  may : (roomRes L).1 = 0 ∨ (∃ i0, i0 < L.length ∧ L.getD i0 0 = 1 ∧ ∀ i, i < L.length → i ≠ i0 → L.getD i 0 = 0) ∨ ∀ i, i < L.length → L.getD i 0 = 0
  eq : L = bldF l mo
theorem cost0 : cost 0 = 0 := rfl
theorem cost_one {x : Int} (h0 : 0 ≤ x) (h1 : x ≤ 16) (h : cost x = 32768) : x = 1 := by
  obtain ⟨n, rfl⟩ := Int.eq_ofNat_of_zero_le h0
  have hn : n ≤ 16 := by omega
  have : ∀ m : Fin 17, cost ((m.val : Nat) : Int) = 32768 → m.val = 1 := by decide +kernel
  have := this ⟨n, by omega⟩ h
  simp only at this
  omega
theorem range_getD {n i : Nat} (o : Nat → Int) (h : i < n) : ((List.range n).map o).getD i 0 = o i := by
  rw [List.getD_eq_getElem?_getD, List.getElem?_map, List.getElem?_range h]; rfl
theorem good_of {l : List Int} {mo : Nat} {o : Nat → Int} (h : Lst.OkB l mo o) (heq : (List.range l.length).map o = bldF l mo) : GoodC l mo ((List.range l.length).map o) := by
  have hlo := h.lo
  have hhi := h.hi
  have hfit : ∀ i, i < l.length → 0 ≤ o i ∧ o i ≤ 16 := fun i hi => by have := h.fit i hi; omega
  have hr := room_of h.len hfit
  have hsum : ((List.range l.length).map (fun i => cost (o i))).sum = ((sym l).map (fun s => cost (o s.toNat))).sum := by
    rw [sum_sym l (fun s => cost (o s.toNat))]
    congr 1
    refine List.map_congr_left fun i hi => ?_
    rw [List.mem_range] at hi
    by_cases hp : 0 < l.getD i 0
    · rw [if_pos hp]; simp
    · rw [if_neg hp]
      have := h.fit i hi
      have e : o i = 0 := by omega
      rw [e]; rfl
  have hsl := sym_len l
  have hcases : (65536 - ((List.range l.length).map (fun i => cost (o i))).sum = 0) ∨ (∃ i0, i0 < l.length ∧ o i0 = 1 ∧ ∀ i, i < l.length → i ≠ i0 → o i = 0) ∨ (∀ i, i < l.length → o i = 0) := by
    by_cases h0 : (posL l l.length).length = 0
    · right; right
      intro i hi
      have := pos_nil h0 hi
      have := h.fit i hi
      omega
    · by_cases h1 : (posL l l.length).length = 1
      · right; left
        have hs := h.one h1
        rw [hsum] at hs
        rw [h1] at hsl
        obtain ⟨a, ha⟩ := List.length_eq_one_iff.1 hsl
        obtain ⟨i0, rfl, hi0, hp⟩ := sym_mem.1 (by rw [ha]; simp : a ∈ sym l)
        rw [ha] at hs
        simp at hs
        have := hfit i0 hi0
        refine ⟨i0, hi0, cost_one this.1 this.2 hs, fun i hi hne => ?_⟩
        have hf := h.fit i hi
        have hn : ¬ 0 < l.getD i 0 := fun hp => by
          have := sym_mem.2 ⟨i, rfl, hi, hp⟩
          rw [ha] at this
          simp at this
          omega
        omega
      · left
        have := (h.two (by omega)).room
        omega
  have hsle : 65536 - ((List.range l.length).map (fun i => cost (o i))).sum ≥ 0 := by
    by_cases h0 : (posL l l.length).length = 0
    · rw [h0] at hsl
      rw [hsum, List.length_eq_zero_iff.1 hsl]; simp
    · by_cases h1 : (posL l l.length).length = 1
      · rw [h.one h1]; omega
      · rw [(h.two (by omega)).room]; omega
  refine ⟨by simp, ?_, fun i hi => ?_, ?_, heq⟩
  · unfold checkedOf
    rw [hr]
    simp only []
    rw [if_neg (by omega)]
  · rw [range_getD o hi]
    exact h.fit i hi
  · rw [hr]
    simp only [List.length_map, List.length_range]
    rcases hcases with e | ⟨i0, h1, h2, h3⟩ | e
    · exact .inl e
    · exact .inr (.inl ⟨i0, h1, by rw [range_getD o h1]; exact h2, fun i hi hne => by rw [range_getD o hi]; exact h3 i hi hne⟩)
    · exact .inr (.inr (fun i hi => by rw [range_getD o hi]; exact e i hi))
end Go.Proofs.YtmgbjgjlddifaaaGreat.Def
