/-
  The reference's Bad and Least, in plain Lean, and that the code that packing coins gives is full, within the limit and of the least weight; no program in sight.
-/
import Derived.Test.YtpecemkjoklhfaaPmM
set_option linter.unusedVariables false
set_option linter.unusedSimpArgs false
namespace Go.Proofs.Ytpecemkjoklhfaa.Lst
open Go.RowKit K Pfx Bld Pm

def pairsW : List Int → List Int
  | a :: b :: t => (a + b) :: pairsW t
  | _ => []
theorem pairsW_map (R : List PC) : (pairsA R).map (·.1) = pairsW (R.map (·.1)) := by
  induction R using pairsA.induct with
  | case1 a b t ih => simp only [pairsA, List.map_cons, pairsW, ih]
  | case2 R h =>
    match R, h with
    | [], _ => rfl
    | [a], _ => simp [pairsA, pairsW]
    | a :: b :: t, h => exact absurd rfl (h a b t)
theorem pairsW_len (W : List Int) : (pairsW W).length = W.length / 2 := by
  induction W using pairsW.induct with
  | case1 a b t ih => simp only [pairsW, List.length_cons, ih]; omega
  | case2 R h =>
    match R, h with
    | [], _ => rfl
    | [a], _ => simp [pairsW]
    | a :: b :: t, h => exact absurd rfl (h a b t)
theorem pairsW_get (W : List Int) (j : Nat) (hj : 2 * j + 1 < W.length) : (pairsW W)[j]? = some (W.getD (2 * j) 0 + W.getD (2 * j + 1) 0) := by
  induction W using pairsW.induct generalizing j with
  | case1 a b t ih =>
    cases j with
    | zero => simp [pairsW]
    | succ j =>
      have := ih j (by simp only [List.length_cons] at hj; omega)
      rw [pairsW, List.getElem?_cons_succ, this, show 2 * (j + 1) = (2 * j) + 1 + 1 by omega]
      simp
  | case2 R h =>
    match R, h with
    | [], _ => simp at hj
    | [a], _ => simp at hj
    | a :: b :: t, h => exact absurd rfl (h a b t)
/-- the weights of a row, rising -/
def IsW (S : List Int) : Nat → List Int → Prop
  | 0, W => W.Perm S ∧ W.Pairwise (· ≤ ·)
  | k+1, W => ∃ W0, IsW S k W0 ∧ W.Perm (S ++ pairsW W0) ∧ W.Pairwise (· ≤ ·)
theorem IsW.sorted {S : List Int} : ∀ {k : Nat} {W : List Int}, IsW S k W → W.Pairwise (· ≤ ·)
  | 0, _, h => h.2
  | _+1, _, h => by obtain ⟨_, _, _, h⟩ := h; exact h
theorem IsW.uniq {S : List Int} : ∀ {k : Nat} {W W' : List Int}, IsW S k W → IsW S k W' → W = W'
  | 0, W, W', h, h' => (h.1.trans h'.1.symm).eq_of_pairwise (fun a b _ _ h5 h6 => Int.le_antisymm h5 h6) h.2 h'.2
  | k+1, W, W', ⟨W0, h0, hp, hs⟩, ⟨W1, h1, hp', hs'⟩ => by
    have e := IsW.uniq h0 h1
    subst e
    exact (hp.trans hp'.symm).eq_of_pairwise (fun a b _ _ h5 h6 => Int.le_antisymm h5 h6) hs hs'
theorem IsW.of_row {own : List PC} : ∀ {k : Nat} {R : List PC}, IsRow own k R → IsW (own.map (·.1)) k (R.map (·.1))
  | 0, R, h => ⟨h.1.map _, by rw [List.pairwise_map]; exact h.2⟩
  | k+1, R, ⟨R0, h0, hp, hs⟩ => ⟨_, IsW.of_row h0, by rw [← pairsW_map, ← List.map_append]; exact hp.map _, by rw [List.pairwise_map]; exact hs⟩
theorem IsW.len {S : List Int} : ∀ {k : Nat} {W : List Int}, IsW S k W → 1 ≤ S.length → S.length ≤ W.length ∧ W.length ≤ 2 * S.length - 1
  | 0, W, h, h1 => by rw [h.1.length_eq]; omega
  | k+1, W, ⟨W0, h0, hp, _⟩, h1 => by
    have := h0.len h1
    rw [hp.length_eq, List.length_append, pairsW_len]; omega
theorem IsW.len_ge {S : List Int} (h1 : 1 ≤ S.length) : ∀ (k : Nat) (W : List Int), IsW S k W → 2 * S.length - 1 - W.length = (S.length - 1) / 2 ^ k := by
  intro k
  induction k with
  | zero => intro W h; rw [h.1.length_eq]; simp; omega
  | succ k ih =>
    intro W ⟨W0, hW0, hp, _⟩
    rw [hp.length_eq, List.length_append, pairsW_len, Nat.pow_succ, ← Nat.div_div_eq_div_mul, ← ih W0 hW0]
    have := IsW.len hW0 h1
    omega
theorem IsW.enough {S : List Int} {k : Nat} {W : List Int} (h : IsW S k W) (h1 : 1 ≤ S.length) (h2 : S.length ≤ 2 ^ (k+1)) : 2 * S.length - 2 ≤ W.length := by
  have := IsW.len_ge h1 k W h
  have h3 : (S.length - 1) / 2 ^ k < 2 := by
    rw [Nat.div_lt_iff_lt_mul (Nat.pow_pos (by omega))]
    rw [Nat.pow_succ] at h2; omega
  omega
theorem pairsW_bd {B : Int} {W : List Int} (h : ∀ x ∈ W, 0 ≤ x ∧ x ≤ B) : ∀ x ∈ pairsW W, 0 ≤ x ∧ x ≤ 2 * B := by
  induction W using pairsW.induct with
  | case1 a b t ih =>
    intro x hx
    rw [pairsW, List.mem_cons] at hx
    rcases hx with rfl | hx
    · have := h a (by simp); have := h b (by simp); omega
    · exact ih (fun c hc => h c (by simp [hc])) x hx
  | case2 R hR =>
    intro c hc
    rw [pairsW] at hc
    · cases hc
    · exact hR
theorem IsW.bd {S : List Int} {B : Int} (hB : 0 ≤ B) (h : ∀ x ∈ S, 0 ≤ x ∧ x ≤ B) : ∀ (k : Nat) (W : List Int), IsW S k W → ∀ x ∈ W, 0 ≤ x ∧ x ≤ B * 2 ^ k := by
  intro k
  induction k with
  | zero => intro W hW x hx; rw [Int.pow_zero]; have := h x (hW.1.mem_iff.1 hx); omega
  | succ k ih =>
    intro W ⟨W0, hW0, hp, _⟩ x hx
    have e : B * 2 ^ (k + 1) = 2 * (B * 2 ^ k) := by rw [Int.pow_succ, ← Int.mul_assoc]; omega
    have h2 := hp.mem_iff.1 hx
    rw [List.mem_append] at h2
    rcases h2 with h2 | h2
    · have h3 := h x h2
      have hp : (1 : Int) ≤ 2 ^ (k + 1) := by have : (0 : Int) < 2 ^ (k+1) := Int.pow_pos (by omega); omega
      have := Int.mul_le_mul_of_nonneg_left hp hB
      omega
    · rw [e]; exact pairsW_bd (ih W0 hW0) x h2
/-- the positive counts -/
def posL (l : List Int) (k : Nat) : List Int := (l.take k).filter (fun x => decide (0 < x))
theorem posL_succ {l : List Int} {k : Nat} {x : Int} (h : l[k]? = some x) : posL l (k+1) = posL l k ++ if 0 < x then [x] else [] := by
  unfold posL
  rw [take_snoc h, List.filter_append]
  congr 1
  by_cases e : 0 < x <;> simp [e]
theorem ownA_pos (l : List Int) (k : Nat) (hk : k ≤ l.length) : (ownA l k).map (·.1) = posL l k := by
  induction k with
  | zero => rfl
  | succ k ih =>
    have hx : l[k]? = some l[k] := List.getElem?_eq_getElem (by omega)
    rw [ownA_succ hx, posL_succ hx, List.map_append, ih (by omega)]
    congr 1
    split <;> rfl
def heavyC (x : Int) : Bool := decide (x < 0) || decide (1073741824 < x)
def badM (l : List Int) (mo : Int) : Int :=
  if 4096 < l.length then 3 else if mo < 1 ∨ 16 < mo then 2 else if l.any heavyC then 2 else if 2 ^ mo.toNat < (posL l l.length).length then 31 else 0
/-! insertion sort -/
def SP (L : List Int) (i : Nat) : Prop := ∀ p q, p < q → q < i → L.getD p 0 ≤ L.getD q 0
structure IN (L : List Int) (i k : Nat) : Prop where
  le : k ≤ i
  two : ∀ p q, p < q → q ≤ i → p ≠ k → q ≠ k → L.getD p 0 ≤ L.getD q 0
  thr : ∀ q, k < q → q ≤ i → L.getD k 0 ≤ L.getD q 0
theorem IN.start {L : List Int} {i : Nat} (h : SP L i) : IN L i i := ⟨Nat.le_refl _, fun p q h1 h2 h3 h4 => h p q h1 (by omega), fun q h1 h2 => by omega⟩
theorem IN.zero {L : List Int} {i : Nat} (h : IN L i 0) : SP L (i + 1) := fun p q h1 h2 => by
  by_cases e : p = 0
  · subst e; exact h.thr q h1 (by omega)
  · exact h.two p q h1 (by omega) e (by omega)
theorem IN.done {L : List Int} {i k : Nat} (h : IN L i (k + 1)) (h0 : L.getD k 0 ≤ L.getD (k + 1) 0) : SP L (i + 1) := fun p q h1 h2 => by
  by_cases e : p = k + 1
  · subst e; exact h.thr q h1 (by omega)
  · by_cases e2 : q = k + 1
    · subst e2
      by_cases e3 : p = k
      · subst e3; exact h0
      · exact Int.le_trans (h.two p k (by omega) (by have := h.le; omega) (by omega) (by omega)) h0
    · exact h.two p q h1 (by omega) e e2
def sw (L : List Int) (k : Nat) : List Int := (L.set (k + 1) (L.getD k 0)).set k (L.getD (k + 1) 0)
theorem sw_len (L : List Int) (k : Nat) : (sw L k).length = L.length := by simp [sw]
theorem sw_get (L : List Int) (k : Nat) (hk : k + 1 < L.length) (j : Nat) : (sw L k).getD j 0 = if j = k then L.getD (k + 1) 0 else if j = k + 1 then L.getD k 0 else L.getD j 0 := by
  unfold sw
  rw [List.getD_eq_getElem?_getD, List.getElem?_set, List.getElem?_set, List.length_set]
  by_cases h1 : j = k
  · subst h1; rw [if_pos rfl, if_pos (by omega), if_pos rfl]; rfl
  · rw [if_neg (by omega), if_neg h1]
    by_cases h2 : j = k + 1
    · subst h2; rw [if_pos rfl, if_pos hk, if_pos rfl]; rfl
    · rw [if_neg (by omega), if_neg h2, List.getD_eq_getElem?_getD]
theorem sw_perm (L : List Int) (k : Nat) (hk : k + 1 < L.length) : (sw L k).Perm L := by
  have h0 : k < L.length := by omega
  have := List.set_set_perm (as := L) (i := k + 1) (j := k) hk h0
  unfold sw
  rw [List.getD_eq_getElem?_getD, List.getD_eq_getElem?_getD, List.getElem?_eq_getElem h0, List.getElem?_eq_getElem hk]
  exact this
theorem IN.step {L : List Int} {i k : Nat} (h : IN L i (k + 1)) (hi : i < L.length) (h0 : L.getD (k + 1) 0 < L.getD k 0) : IN (sw L k) i k := by
  have hl := h.le
  have g := sw_get L k (by omega)
  refine ⟨by omega, fun p q h1 h2 h3 h4 => ?_, fun q h1 h2 => ?_⟩
  · rw [g p, g q, if_neg h3, if_neg h4]
    by_cases e : p = k + 1
    · rw [if_pos e, if_neg (by omega)]; exact h.two k q (by omega) h2 (by omega) (by omega)
    · rw [if_neg e]
      by_cases e2 : q = k + 1
      · rw [if_pos e2]; exact h.two p k (by omega) (by omega) e (by omega)
      · rw [if_neg e2]; exact h.two p q h1 h2 e e2
  · rw [g k, g q, if_pos rfl, if_neg (by omega)]
    by_cases e : q = k + 1
    · rw [if_pos e]; omega
    · rw [if_neg e]; exact h.thr q (by omega) h2
theorem SP.sorted {L : List Int} (h : SP L L.length) : L.Pairwise (· ≤ ·) := by
  rw [List.pairwise_iff_getElem]
  intro i j hi hj hij
  have := h i j hij hj
  rwa [List.getD_eq_getElem?_getD, List.getD_eq_getElem?_getD, List.getElem?_eq_getElem hi, List.getElem?_eq_getElem hj] at this
/-! merging -/
structure MG (a b O : List Int) (i k : Nat) : Prop where
  perm : O.Perm (a.take i ++ b.take k)
  sort : O.Pairwise (· ≤ ·)
  low : ∀ x ∈ O, ∀ y ∈ a.drop i ++ b.drop k, x ≤ y
theorem MG.start (a b : List Int) : MG a b [] 0 0 := ⟨by simp, List.Pairwise.nil, fun x hx => by cases hx⟩
theorem MG.pushA {a b O : List Int} {i k : Nat} {x : Int} (h : MG a b O i k) (ha : a.Pairwise (· ≤ ·)) (hx : a[i]? = some x) (hb : ∀ y ∈ b.drop k, x ≤ y) : MG a b (O ++ [x]) (i + 1) k := by
  have hd : a.drop i = x :: a.drop (i + 1) := by
    have hi : i < a.length := by
      rcases Nat.lt_or_ge i a.length with h | h
      · exact h
      · rw [List.getElem?_eq_none h] at hx; cases hx
    rw [List.drop_eq_getElem_cons hi]
    rw [List.getElem?_eq_getElem hi] at hx; injection hx with hx; rw [hx]
  have hs := (List.pairwise_append.1 (by rw [List.take_append_drop]; exact ha : (a.take i ++ a.drop i).Pairwise (· ≤ ·))).2.1
  rw [hd, List.pairwise_cons] at hs
  refine ⟨?_, ?_, ?_⟩
  · rw [take_snoc hx]
    refine (h.perm.append_right [x]).trans ?_
    rw [List.append_assoc, List.append_assoc]
    exact List.Perm.append_left _ List.perm_append_comm
  · rw [List.pairwise_append]
    refine ⟨h.sort, by simp, fun u hu v hv => ?_⟩
    simp at hv; subst hv
    exact h.low u hu v (by rw [hd]; simp)
  · intro u hu y hy
    rw [List.mem_append] at hu hy
    rcases hu with hu | hu
    · refine h.low u hu y ?_
      rw [List.mem_append, hd]
      rcases hy with hy | hy
      · exact .inl (by simp [hy])
      · exact .inr hy
    · simp at hu; subst hu
      rcases hy with hy | hy
      · exact hs.1 y hy
      · exact hb y hy
theorem MG.swap {a b O : List Int} {i k : Nat} (h : MG a b O i k) : MG b a O k i :=
  ⟨h.perm.trans List.perm_append_comm, h.sort, fun x hx y hy => h.low x hx y (by rw [List.mem_append] at hy ⊢; exact hy.symm)⟩
theorem drop_ge {b : List Int} {k : Nat} {x y : Int} (hb : b.Pairwise (· ≤ ·)) (hy : b[k]? = some y) (hxy : x ≤ y) : ∀ z ∈ b.drop k, x ≤ z := by
  have hi : k < b.length := by
    rcases Nat.lt_or_ge k b.length with h | h
    · exact h
    · rw [List.getElem?_eq_none h] at hy; cases hy
  have hd : b.drop k = y :: b.drop (k + 1) := by
    rw [List.drop_eq_getElem_cons hi]
    rw [List.getElem?_eq_getElem hi] at hy; injection hy with hy; rw [hy]
  have hs := (List.pairwise_append.1 (by rw [List.take_append_drop]; exact hb : (b.take k ++ b.drop k).Pairwise (· ≤ ·))).2.1
  rw [hd, List.pairwise_cons] at hs
  intro z hz
  rw [hd, List.mem_cons] at hz
  rcases hz with rfl | hz
  · exact hxy
  · exact Int.le_trans hxy (hs.1 z hz)
theorem MG.done {a b O : List Int} {i k : Nat} (h : MG a b O i k) (hi : a.length ≤ i) (hk : b.length ≤ k) : O.Perm (a ++ b) ∧ O.Pairwise (· ≤ ·) := by
  have := h.perm
  rw [List.take_of_length_le hi, List.take_of_length_le hk] at this
  exact ⟨this, h.sort⟩
theorem MG.len {a b O : List Int} {i k : Nat} (h : MG a b O i k) (hi : i ≤ a.length) (hk : k ≤ b.length) : O.length = i + k := by
  rw [h.perm.length_eq, List.length_append, List.length_take, List.length_take]; omega
end Go.Proofs.Ytpecemkjoklhfaa.Lst
