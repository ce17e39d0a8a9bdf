/-
  What prefix.Build answers at the counts 5, 1, 1, 0: no program in sight.
-/
import Derived.Test.YtpecemkjoklhfaaBldM
set_option linter.unusedVariables false
set_option linter.unusedSimpArgs false
namespace Go.Proofs.Ytpecemkjoklhfaa.Bld
open Go.RowKit K

theorem own5 : ownA [5, 1, 1, 0] 4 = [(5, [0]), (1, [1]), (1, [2])] := by decide
theorem weights {R L : List PC} {S : List Int} (hp : R.Perm L) (hs : R.Pairwise Lt) (h1 : (L.map (·.1)).Perm S) (h2 : S.Pairwise (· ≤ ·)) : R.map (·.1) = S := by
  have h3 : (R.map (·.1)).Perm S := (hp.map _).trans h1
  have h4 : (R.map (·.1)).Pairwise (· ≤ ·) := by rw [List.pairwise_map]; exact hs
  exact h3.eq_of_pairwise (fun a b _ _ h5 h6 => Int.le_antisymm h5 h6) h4 h2
theorem len3 {R : List PC} {a b c : Int} (h : R.map (·.1) = [a, b, c]) : ∃ x y z, R = [x, y, z] ∧ x.1 = a ∧ y.1 = b ∧ z.1 = c := by
  rcases R with _ | ⟨x, _ | ⟨y, _ | ⟨z, _ | ⟨u, R⟩⟩⟩⟩ <;> simp at h
  exact ⟨x, y, z, rfl, h.1, h.2.1, h.2.2⟩
theorem len4 {R : List PC} {a b c d : Int} (h : R.map (·.1) = [a, b, c, d]) : ∃ x y z u, R = [x, y, z, u] ∧ x.1 = a ∧ y.1 = b ∧ z.1 = c ∧ u.1 = d := by
  rcases R with _ | ⟨x, _ | ⟨y, _ | ⟨z, _ | ⟨u, _ | ⟨v, R⟩⟩⟩⟩⟩ <;> simp at h
  exact ⟨x, y, z, u, rfl, h.1, h.2.1, h.2.2.1, h.2.2.2⟩
theorem len5 {R : List PC} {a b c d e : Int} (h : R.map (·.1) = [a, b, c, d, e]) : ∃ x y z u v, R = [x, y, z, u, v] ∧ x.1 = a ∧ y.1 = b ∧ z.1 = c ∧ u.1 = d ∧ v.1 = e := by
  rcases R with _ | ⟨x, _ | ⟨y, _ | ⟨z, _ | ⟨u, _ | ⟨v, _ | ⟨t, R⟩⟩⟩⟩⟩⟩ <;> simp at h
  exact ⟨x, y, z, u, v, rfl, h.1, h.2.1, h.2.2.1, h.2.2.2.1, h.2.2.2.2⟩
/-- the row's form from level 2 on -/
def Inv (R : List PC) : Prop := ∃ a b p x, R = [(1, [a]), (1, [b]), (2, p), (5, [0]), (7, x)] ∧ (a = 1 ∧ b = 2 ∨ a = 2 ∧ b = 1) ∧ p.Perm [1, 2]
theorem inv_of {R : List PC} {p x : List Int} (hpp : p.Perm [1, 2]) (hp : R.Perm ([(5, [0]), (1, [1]), (1, [2])] ++ [(2, p), (7, x)])) (hs : R.Pairwise Lt) : Inv R := by
  have hw := weights (S := [1, 1, 2, 5, 7]) hp hs (show List.Perm [5, 1, 1, 2, 7] [1, 1, 2, 5, 7] by decide) (by decide)
  obtain ⟨c0, c1, c2, c3, c4, rfl, w0, w1, w2, w3, w4⟩ := len5 hw
  · clear hw
    have mem : ∀ c, c ∈ [c0, c1, c2, c3, c4] → c = (5, [0]) ∨ c = (1, [1]) ∨ c = (1, [2]) ∨ c = (2, p) ∨ c = (7, x) := fun c hc => by
      have := hp.mem_iff.1 hc; simpa using this
    have e2 : c2 = (2, p) := by rcases mem c2 (by simp) with h | h | h | h | h <;> rw [h] at w2 <;> first | exact h | (simp at w2)
    have e3 : c3 = (5, [0]) := by rcases mem c3 (by simp) with h | h | h | h | h <;> rw [h] at w3 <;> first | exact h | (simp at w3)
    have e4 : c4 = (7, x) := by rcases mem c4 (by simp) with h | h | h | h | h <;> rw [h] at w4 <;> first | exact h | (simp at w4)
    have e0 : c0 = (1, [1]) ∨ c0 = (1, [2]) := by rcases mem c0 (by simp) with h | h | h | h | h <;> rw [h] at w0 <;> first | exact .inl h | exact .inr h | (simp at w0)
    have e1 : c1 = (1, [1]) ∨ c1 = (1, [2]) := by rcases mem c1 (by simp) with h | h | h | h | h <;> rw [h] at w1 <;> first | exact .inl h | exact .inr h | (simp at w1)
    subst e2 e3 e4
    have hne : c0 ≠ c1 := fun e => by
      have h1 : ((1, [1]) : PC) ∈ [c0, c1, (2, p), (5, [0]), (7, x)] := hp.mem_iff.2 (by simp)
      have h2 : ((1, [2]) : PC) ∈ [c0, c1, (2, p), (5, [0]), (7, x)] := hp.mem_iff.2 (by simp)
      rw [← e] at h1 h2
      simp at h1 h2
      rw [← h1] at h2
      simp at h2
    rcases e0 with rfl | rfl <;> rcases e1 with rfl | rfl
    · exact absurd rfl hne
    · exact ⟨1, 2, p, x, rfl, .inl ⟨rfl, rfl⟩, hpp⟩
    · exact ⟨2, 1, p, x, rfl, .inr ⟨rfl, rfl⟩, hpp⟩
    · exact absurd rfl hne
theorem row0 {R : List PC} (h : IsRow [(5, [0]), (1, [1]), (1, [2])] 0 R) : ∃ p, p.Perm [1, 2] ∧ pairsA R = [(2, p)] := by
  obtain ⟨hp, hs⟩ := h
  have hw := weights (S := [1, 1, 5]) hp hs (show List.Perm [5, 1, 1] [1, 1, 5] by decide) (by decide)
  obtain ⟨c0, c1, c2, rfl, w0, w1, w2⟩ := len3 hw
  · clear hw
    have mem : ∀ c, c ∈ [c0, c1, c2] → c = (5, [0]) ∨ c = (1, [1]) ∨ c = (1, [2]) := fun c hc => by
      have := hp.mem_iff.1 hc; simpa using this
    have e2 : c2 = (5, [0]) := by rcases mem c2 (by simp) with h | h | h <;> rw [h] at w2 <;> first | exact h | (simp at w2)
    have e0 : c0 = (1, [1]) ∨ c0 = (1, [2]) := by rcases mem c0 (by simp) with h | h | h <;> rw [h] at w0 <;> first | exact .inl h | exact .inr h | (simp at w0)
    have e1 : c1 = (1, [1]) ∨ c1 = (1, [2]) := by rcases mem c1 (by simp) with h | h | h <;> rw [h] at w1 <;> first | exact .inl h | exact .inr h | (simp at w1)
    subst e2
    have hne : c0 ≠ c1 := fun e => by
      have h1 : ((1, [1]) : PC) ∈ [c0, c1, (5, [0])] := hp.mem_iff.2 (by simp)
      have h2 : ((1, [2]) : PC) ∈ [c0, c1, (5, [0])] := hp.mem_iff.2 (by simp)
      rw [← e] at h1 h2
      simp at h1 h2
      rw [← h1] at h2
      simp at h2
    rcases e0 with rfl | rfl <;> rcases e1 with rfl | rfl
    · exact absurd rfl hne
    · exact ⟨[1, 2], List.Perm.refl _, rfl⟩
    · exact ⟨[2, 1], by decide, rfl⟩
    · exact absurd rfl hne
theorem row1 {R : List PC} (h : IsRow [(5, [0]), (1, [1]), (1, [2])] 1 R) : ∃ p x, p.Perm [1, 2] ∧ pairsA R = [(2, p), (7, x)] := by
  obtain ⟨R0, h0, hp, hs⟩ := h
  obtain ⟨p, hpp, e⟩ := row0 h0
  rw [e] at hp
  have hw := weights (S := [1, 1, 2, 5]) hp hs (show List.Perm [5, 1, 1, 2] [1, 1, 2, 5] by decide) (by decide)
  obtain ⟨c0, c1, c2, c3, rfl, w0, w1, w2, w3⟩ := len4 hw
  · clear hw
    have mem : ∀ c, c ∈ [c0, c1, c2, c3] → c = (5, [0]) ∨ c = (1, [1]) ∨ c = (1, [2]) ∨ c = (2, p) := fun c hc => by
      have := hp.mem_iff.1 hc; simpa using this
    have e2 : c2 = (2, p) := by rcases mem c2 (by simp) with h | h | h | h <;> rw [h] at w2 <;> first | exact h | (simp at w2)
    have e3 : c3 = (5, [0]) := by rcases mem c3 (by simp) with h | h | h | h <;> rw [h] at w3 <;> first | exact h | (simp at w3)
    have e0 : c0 = (1, [1]) ∨ c0 = (1, [2]) := by rcases mem c0 (by simp) with h | h | h | h <;> rw [h] at w0 <;> first | exact .inl h | exact .inr h | (simp at w0)
    have e1 : c1 = (1, [1]) ∨ c1 = (1, [2]) := by rcases mem c1 (by simp) with h | h | h | h <;> rw [h] at w1 <;> first | exact .inl h | exact .inr h | (simp at w1)
    subst e2 e3
    have hne : c0 ≠ c1 := fun e => by
      have h1 : ((1, [1]) : PC) ∈ [c0, c1, (2, p), (5, [0])] := hp.mem_iff.2 (by simp)
      have h2 : ((1, [2]) : PC) ∈ [c0, c1, (2, p), (5, [0])] := hp.mem_iff.2 (by simp)
      rw [← e] at h1 h2
      simp at h1 h2
      rw [← h1] at h2
      simp at h2
    rcases e0 with rfl | rfl <;> rcases e1 with rfl | rfl
    · exact absurd rfl hne
    · exact ⟨[1, 2], _, List.Perm.refl _, rfl⟩
    · exact ⟨[2, 1], _, by decide, rfl⟩
    · exact absurd rfl hne
theorem inv_pairs {R : List PC} (h : Inv R) : ∃ p x, p.Perm [1, 2] ∧ pairsA R = [(2, p), (7, x)] := by
  obtain ⟨a, b, p, x, rfl, hab, hp⟩ := h
  rcases hab with ⟨rfl, rfl⟩ | ⟨rfl, rfl⟩
  · exact ⟨[1, 2], _, List.Perm.refl _, rfl⟩
  · exact ⟨[2, 1], _, by decide, rfl⟩
theorem inv_all (k : Nat) : ∀ R, IsRow [(5, [0]), (1, [1]), (1, [2])] (k + 2) R → Inv R := by
  induction k with
  | zero =>
    intro R ⟨R0, h0, hp, hs⟩
    obtain ⟨p, x, hpp, e⟩ := row1 h0
    rw [e] at hp
    exact inv_of hpp hp hs
  | succ k ih =>
    intro R ⟨R0, h0, hp, hs⟩
    obtain ⟨p, x, hpp, e⟩ := inv_pairs (ih R0 h0)
    rw [e] at hp
    exact inv_of hpp hp hs
theorem built {R : List PC} (h : IsRow (ownA [5, 1, 1, 0] 4) 14 R) (i : Nat) (hi : i < 4) : ((occ R 4).count (i : Int)) = [1, 2, 2, 0].getD i 0 := by
  rw [own5] at h
  obtain ⟨a, b, p, x, rfl, hab, hp⟩ := inv_all 12 R h
  have e : occ [(1, [a]), (1, [b]), (2, p), (5, [0]), (7, x)] 4 = [a] ++ ([b] ++ (p ++ [0])) := by simp [occ]
  rw [e, List.count_append, List.count_append, List.count_append, hp.count_eq]
  have : i = 0 ∨ i = 1 ∨ i = 2 ∨ i = 3 := by omega
  rcases this with rfl | rfl | rfl | rfl <;> rcases hab with ⟨rfl, rfl⟩ | ⟨rfl, rfl⟩ <;> decide
end Go.Proofs.Ytpecemkjoklhfaa.Bld
