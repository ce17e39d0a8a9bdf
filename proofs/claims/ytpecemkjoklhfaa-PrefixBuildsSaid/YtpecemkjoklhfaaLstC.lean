/-
  The code that packing coins gives: within the limit, full, of the least weight; plain Lean, no program in sight.
-/
import Derived.Test.YtpecemkjoklhfaaLstM
set_option linter.unusedVariables false
set_option linter.unusedSimpArgs false
namespace Go.Proofs.Ytpecemkjoklhfaa.Lst
open Go.RowKit K Pfx Bld Pm

theorem filterMap_if {α β : Type} (p : α → Prop) [DecidablePred p] (f : α → β) (L : List α) : L.filterMap (fun i => if p i then some (f i) else none) = (L.filter (fun i => decide (p i))).map f := by
  induction L with
  | nil => rfl
  | cons a L ih =>
    by_cases h : p a
    · rw [List.filterMap_cons, List.filter_cons]; simp [h, ih]
    · rw [List.filterMap_cons, List.filter_cons]; simp [h, ih]
theorem sum_filter {α : Type} (p : α → Prop) [DecidablePred p] (g : α → Int) (L : List α) : ((L.filter (fun i => decide (p i))).map g).sum = (L.map (fun i => if p i then g i else 0)).sum := by
  induction L with
  | nil => rfl
  | cons a L ih =>
    by_cases h : p a
    · rw [List.filter_cons]; simp [h, ih]
    · rw [List.filter_cons]; simp [h, ih]
/-- the symbols that have a count -/
def symN (l : List Int) : List Nat := (List.range l.length).filter (fun i => decide (0 < l.getD i 0))
def sym (l : List Int) : List Int := (symN l).map fun i : Nat => (i : Int)
def wt (l : List Int) (s : Int) : Int := l.getD s.toNat 0
theorem own_sym (l : List Int) : ownA l l.length = ownS (wt l) (sym l) := by
  unfold ownA ownS sym
  rw [filterMap_if (fun i : Nat => 0 < l.getD i 0) (fun i : Nat => (l.getD i 0, [(i : Int)])), List.map_map]
  rfl
theorem sym_nodup (l : List Int) : (sym l).Nodup := by
  unfold sym symN
  have h : ((List.range l.length).filter (fun i => decide (0 < l.getD i 0))).Nodup := List.nodup_range.filter _
  generalize (List.range l.length).filter (fun i => decide (0 < l.getD i 0)) = L at h
  induction L with
  | nil => exact List.nodup_nil
  | cons a L ih =>
    rw [List.nodup_cons] at h
    rw [List.map_cons, List.nodup_cons]
    refine ⟨fun hm => ?_, ih h.2⟩
    rw [List.mem_map] at hm
    obtain ⟨b, hb, e⟩ := hm
    have : b = a := by omega
    subst this
    exact h.1 hb
theorem sym_mem {l : List Int} {s : Int} : s ∈ sym l ↔ ∃ i : Nat, s = i ∧ i < l.length ∧ 0 < l.getD i 0 := by
  unfold sym symN
  rw [List.mem_map]
  constructor
  · rintro ⟨i, hi, rfl⟩
    rw [List.mem_filter, List.mem_range] at hi
    exact ⟨i, rfl, hi.1, by simpa using hi.2⟩
  · rintro ⟨i, rfl, h1, h2⟩
    exact ⟨i, by rw [List.mem_filter, List.mem_range]; exact ⟨h1, by simpa using h2⟩, rfl⟩
theorem sym_len (l : List Int) : (sym l).length = (posL l l.length).length := by
  rw [← ownA_pos l l.length (Nat.le_refl _), own_sym, List.length_map]; simp [ownS]
theorem wt_pos {l : List Int} {s : Int} (h : s ∈ sym l) : 1 ≤ wt l s := by
  obtain ⟨i, rfl, _, h2⟩ := sym_mem.1 h
  unfold wt; simp only [Int.toNat_natCast]; omega
theorem sum_sym (l : List Int) (g : Int → Int) : ((sym l).map g).sum = ((List.range l.length).map (fun i : Nat => if 0 < l.getD i 0 then g i else 0)).sum := by
  unfold sym symN
  rw [List.map_map]
  exact sum_filter (fun i : Nat => 0 < l.getD i 0) (fun i : Nat => g i) (List.range l.length)
theorem sum_one {S : List Int} (hn : S.Nodup) {t : Int} (ht : t ∈ S) (c : Int) : (S.map (fun s => if t = s then c else 0)).sum = c := by
  induction S with
  | nil => cases ht
  | cons a S ih =>
    rw [List.nodup_cons] at hn
    rw [List.map_cons, List.sum_cons]
    by_cases e : t = a
    · subst e
      rw [if_pos rfl]
      have : (S.map (fun s => if t = s then c else 0)).sum = 0 := by
        have h : ∀ s ∈ S, (if t = s then c else 0) = 0 := fun s hs => by rw [if_neg (fun e => by subst e; exact hn.1 hs)]
        rw [List.map_congr_left h]
        clear h ih ht hn
        induction S with
        | nil => rfl
        | cons b S ih => simpa using ih
      omega
    · rw [if_neg e, ih hn.2 (by rcases List.mem_cons.1 ht with h | h; exact absurd h e; exact h)]; omega
theorem sum_add (f g : Int → Int) (S : List Int) : (S.map (fun s => f s + g s)).sum = (S.map f).sum + (S.map g).sum := by
  induction S with
  | nil => rfl
  | cons a S ih => simp only [List.map_cons, List.sum_cons, ih]; omega
theorem sum_zero (S : List Int) : (S.map (fun _ => (0 : Int))).sum = 0 := by
  induction S with
  | nil => rfl
  | cons a S ih => simp only [List.map_cons, List.sum_cons, ih]; rfl
/-- a sum over a list, symbol by symbol -/
theorem sum_count {S : List Int} (hn : S.Nodup) (w : Int → Int) : ∀ T : List Int, (∀ t ∈ T, t ∈ S) → (T.map w).sum = (S.map (fun s => w s * (T.count s : Nat))).sum := by
  intro T
  induction T with
  | nil => intro _; simp [sum_zero]
  | cons t T ih =>
    intro h
    rw [List.map_cons, List.sum_cons, ih (fun u hu => h u (by simp [hu]))]
    have e : ∀ s ∈ S, w s * ((t :: T).count s : Nat) = (if t = s then w t else 0) + w s * (T.count s : Nat) := fun s _ => by
      rw [List.count_cons]
      by_cases e : t = s
      · subst e; simp [Int.mul_add]; omega
      · rw [if_neg e]; simp [e]
    rw [List.map_congr_left e, sum_add (fun s => if t = s then w t else 0) (fun s => w s * (T.count s : Nat)), sum_one hn (h t (by simp)) (w t)]
/-- an item's weight is its symbols' -/
theorem row_weight {w : Int → Int} {own : List PC} (h : ∀ c ∈ own, c.1 = (c.2.map w).sum) : ∀ k R, IsRow own k R → ∀ c ∈ R, c.1 = (c.2.map w).sum := by
  intro k
  induction k with
  | zero => intro R hR c hc; exact h c (hR.1.mem_iff.1 hc)
  | succ k ih =>
    intro R ⟨R0, hR0, hp, _⟩ c hc
    have := hp.mem_iff.1 hc
    rw [List.mem_append] at this
    rcases this with h1 | h1
    · exact h c h1
    · have h0 := ih R0 hR0
      clear hp hc hR0 ih
      induction R0 using pairsA.induct with
      | case1 a b t ih2 =>
        rw [pairsA, List.mem_cons] at h1
        rcases h1 with rfl | h1
        · simp only [List.map_append, List.sum_append_int]
          rw [← h0 a (by simp), ← h0 b (by simp)]
        · exact ih2 h1 (fun c hc => h0 c (by simp [hc]))
      | case2 R hR =>
        rw [pairsA] at h1
        · cases h1
        · exact hR
theorem flat_sum {w : Int → Int} : ∀ U : List PC, (∀ c ∈ U, c.1 = (c.2.map w).sum) → (U.map (·.1)).sum = ((U.flatMap (·.2)).map w).sum := by
  intro U
  induction U with
  | nil => intro _; rfl
  | cons c U ih =>
    intro h
    rw [List.map_cons, List.sum_cons, List.flatMap_cons, List.map_append, List.sum_append_int, ih (fun c hc => h c (by simp [hc])), h c (by simp)]
theorem sum_cast (f : Int → Nat) (S : List Int) : ((S.map f).sum : Int) = (S.map (fun s => (f s : Int))).sum := by
  induction S with
  | nil => rfl
  | cons a S ih => simp only [List.map_cons, List.sum_cons]; push_cast; rw [ih]
theorem sum_ge {S : List Int} {f : Int → Nat} (h : ∀ s ∈ S, 1 ≤ f s) : S.length ≤ (S.map f).sum := by
  induction S with
  | nil => simp
  | cons a S ih =>
    have := h a (by simp)
    have := ih (fun s hs => h s (by simp [hs]))
    simp only [List.map_cons, List.sum_cons, List.length_cons]; omega
theorem sum_big {S : List Int} {f : Int → Nat} (h : ∀ s ∈ S, 1 ≤ f s) {t : Int} (ht : t ∈ S) : f t + (S.length - 1) ≤ (S.map f).sum := by
  induction S with
  | nil => cases ht
  | cons a S ih =>
    have h1 := h a (by simp)
    have h2 : ∀ s ∈ S, 1 ≤ f s := fun s hs => h s (by simp [hs])
    have h3 := sum_ge h2
    simp only [List.map_cons, List.sum_cons, List.length_cons]
    rcases List.mem_cons.1 ht with rfl | ht
    · omega
    · have := ih h2 ht
      have : 1 ≤ S.length := List.length_pos_of_mem ht
      omega
/-- what Build answers, of two symbols or more -/
structure Full (l : List Int) (most : Nat) (o : Nat → Int) : Prop where
  fit : ∀ i, i < l.length → 0 ≤ o i ∧ o i ≤ most ∧ (0 < o i ↔ 0 < l.getD i 0)
  room : ((List.range l.length).map (fun i => cost (o i))).sum = 65536
  sum : ∀ W, IsW (posL l l.length) (most - 1) W → ((List.range l.length).map (fun i => if 0 < l.getD i 0 then l.getD i 0 * o i else 0)).sum = (W.take (2 * (posL l l.length).length - 2)).sum
theorem full_of {l : List Int} {most : Nat} {o : Nat → Int} {R : List PC} (m1 : 1 ≤ most) (m2 : most ≤ 16) (h2 : 2 ≤ (ownA l l.length).length) (hle : (ownA l l.length).length ≤ 2 ^ most) (hR : IsRow (ownA l l.length) (most - 1) R)
    (ho : ∀ i : Nat, o i = ((occ R (2 * (ownA l l.length).length - 2)).count (i : Int) : Nat)) : Full l most o := by
  have hp : (ownA l l.length).length = (posL l l.length).length := by rw [← ownA_pos l l.length (Nat.le_refl _), List.length_map]
  have hen := hR.enough (by omega) (by rw [show most - 1 + 1 = most by omega]; exact hle)
  have hsl := sym_len l
  rw [hp] at h2 hle hen ho
  have hRS : R.Pairwise Lt := by
    cases hk : most - 1 with
    | zero => rw [hk] at hR; exact hR.2
    | succ k => rw [hk] at hR; obtain ⟨_, _, _, h⟩ := hR; exact h
  have hR0 := hR
  rw [own_sym] at hR
  generalize hM : 2 * (posL l l.length).length - 2 = M at *
  have hsplit : R.Perm (R.take M ++ R.drop M) := by rw [List.take_append_drop]
  have hlow : ∀ u ∈ R.take M, ∀ v ∈ R.drop M, u.1 ≤ v.1 := by
    have : (R.take M ++ R.drop M).Pairwise Lt := by rw [List.take_append_drop]; exact hRS
    exact (List.pairwise_append.1 this).2.2
  obtain ⟨k1, k2, k3⟩ := kraft (wt l) (sym l) (sym_nodup l) (fun s hs => wt_pos hs) (most - 1) R (R.take M) (R.drop M) hR hsplit hlow
  rw [show most - 1 + 1 = most by omega, List.length_take, show min M R.length = M by omega, hsl] at k3
  have hcn : ∀ s, cn (R.take M) s = (occ R M).count s := fun s => rfl
  have ksum : ((sym l).map fun s => 2 ^ (most - cn (R.take M) s)).sum = 2 ^ most := by
    have e : 2 ^ most = 2 * 2 ^ (most - 1) := by
      obtain ⟨q, rfl⟩ : ∃ q, most = q + 1 := ⟨most - 1, by omega⟩
      rw [Nat.pow_succ, Nat.add_sub_cancel]; omega
    obtain ⟨p, hpp⟩ : ∃ p, (posL l l.length).length = p + 1 := ⟨(posL l l.length).length - 1, by omega⟩
    rw [hpp, e] at k3
    have hM2 : M = 2 * p := by omega
    rw [hM2] at k3
    rw [e]
    generalize 2 ^ (most - 1) = P at *
    have d1 : 2 * p * P = 2 * (p * P) := Nat.mul_assoc _ _ _
    have d2 : (p + 1) * (2 * P) = 2 * (p * P) + 2 * P := by rw [Nat.add_mul, Nat.mul_left_comm, Nat.one_mul]
    rw [hM2]
    omega
  have kpos : ∀ s ∈ sym l, 0 < cn (R.take M) s := fun s hs => by
    rcases Nat.eq_zero_or_pos (cn (R.take M) s) with h0 | h0
    · exfalso
      have := sum_big (f := fun s => 2 ^ (most - cn (R.take M) s)) (fun s _ => Nat.one_le_two_pow) hs
      simp only [h0] at this
      rw [ksum, hsl] at this
      simp only [Nat.sub_zero] at this
      omega
    · exact h0
  have hoc : ∀ i : Nat, o i = (cn (R.take M) (i : Int) : Nat) := fun i => by rw [ho i, hcn]
  have hfit : ∀ i, i < l.length → 0 ≤ o i ∧ o i ≤ most ∧ (0 < o i ↔ 0 < l.getD i 0) := fun i hi => by
    have h1 := k1 (i : Int)
    rw [hoc i]
    refine ⟨by omega, by omega, ⟨fun h => ?_, fun h => ?_⟩⟩
    · by_cases hm : (i : Int) ∈ sym l
      · obtain ⟨j, e, -, h3⟩ := sym_mem.1 hm
        have : i = j := by omega
        subst this; exact h3
      · have := k2 _ hm; omega
    · have := kpos _ (sym_mem.2 ⟨i, rfl, hi, h⟩); omega
  refine ⟨hfit, ?_, fun W hW => ?_⟩
  · have e1 : ∀ i ∈ List.range l.length, cost (o i) = if 0 < l.getD i 0 then ((2 ^ (16 - cn (R.take M) (i : Int)) : Nat) : Int) else 0 := fun i hi => by
      rw [List.mem_range] at hi
      have hf := hfit i hi
      unfold cost
      by_cases h : 0 < l.getD i 0
      · rw [if_pos h, if_pos (hf.2.2.2 h), hoc i]
        rw [show ((16 : Int) - ((cn (R.take M) (i : Int) : Nat) : Int)).toNat = 16 - cn (R.take M) (i : Int) by omega]
        push_cast; rfl
      · rw [if_neg h, if_neg (fun h' => h (hf.2.2.1 h'))]
    rw [List.map_congr_left e1, ← sum_sym l (fun s => ((2 ^ (16 - cn (R.take M) s) : Nat) : Int)), ← sum_cast]
    have e2 : ∀ s ∈ sym l, 2 ^ (16 - cn (R.take M) s) = 2 ^ (16 - most) * 2 ^ (most - cn (R.take M) s) := fun s _ => by
      have := k1 s
      rw [← Nat.pow_add]; congr 1; omega
    rw [List.map_congr_left e2]
    have e3 : ∀ (c : Nat) (f : Int → Nat) (S : List Int), (S.map (fun s => c * f s)).sum = c * (S.map f).sum := fun c f S => by
      induction S with
      | nil => rfl
      | cons a S ih => simp only [List.map_cons, List.sum_cons, ih, Nat.mul_add]
    rw [e3, ksum, ← Nat.pow_add, show 16 - most + most = 16 by omega]
    rfl
  · have hWR : W = R.map (·.1) := by
      have := IsW.of_row hR0
      rw [ownA_pos l l.length (Nat.le_refl _)] at this
      exact hW.uniq this
    have hw : ∀ c ∈ R, c.1 = (c.2.map (wt l)).sum := row_weight (fun c hc => by
      simp only [ownS, List.mem_map] at hc
      obtain ⟨s, hs, rfl⟩ := hc
      simp) _ R hR
    have hsub : ∀ t ∈ (R.take M).flatMap (·.2), t ∈ sym l := fun t ht => by
      by_cases hm : t ∈ sym l
      · exact hm
      · have := k2 t hm
        unfold cn at this
        exact absurd ht (List.count_eq_zero.1 this)
    rw [hM, hWR, ← List.map_take, flat_sum _ (fun c hc => hw c (List.mem_of_mem_take hc)), sum_count (sym_nodup l) (wt l) _ hsub]
    rw [sum_sym l (fun s => wt l s * (((R.take M).flatMap (·.2)).count s : Nat))]
    congr 1
    refine List.map_congr_left fun i hi => ?_
    by_cases h : 0 < l.getD i 0
    · rw [if_pos h, if_pos h, hoc i]; unfold wt cn; simp
    · rw [if_neg h, if_neg h]
/-- what is right of Build's lengths -/
structure OkB (l : List Int) (mo : Int) (o : Nat → Int) : Prop where
  len : l.length ≤ 4096
  good : l.any heavyC = false
  lo : 1 ≤ mo
  hi : mo ≤ 16
  le : (posL l l.length).length ≤ 2 ^ mo.toNat
  fit : ∀ i, i < l.length → 0 ≤ o i ∧ o i ≤ mo ∧ (0 < o i ↔ 0 < l.getD i 0)
  one : (posL l l.length).length = 1 → ((List.range l.length).map (fun i => cost (o i))).sum = 32768
  two : 2 ≤ (posL l l.length).length → Full l mo.toNat o
theorem pos_nil {l : List Int} (h : (posL l l.length).length = 0) {i : Nat} (hi : i < l.length) : ¬ 0 < l.getD i 0 := fun h0 => by
  have := sym_mem.2 ⟨i, rfl, hi, h0⟩
  have h1 := sym_len l
  rw [h] at h1
  rw [List.length_eq_zero_iff.1 h1] at this
  cases this
theorem ok_of {l : List Int} {most : Nat} {o : Nat → Int} (hl : l.length ≤ 4096) (hg : l.any heavyC = false) (m1 : 1 ≤ most) (m2 : most ≤ 16) (hle : ¬ 2 ^ most < (ownA l l.length).length)
    (h : if (ownA l l.length).length = 0 then ∀ i, o i = 0 else if (ownA l l.length).length = 1 then ∀ i, o i = if 0 < l.getD i 0 ∧ i < l.length then 1 else 0
      else ∃ R, IsRow (ownA l l.length) (most - 1) R ∧ ∀ i : Nat, o i = ((occ R (2 * (ownA l l.length).length - 2)).count (i : Int) : Nat)) : OkB l most o := by
  have hp : (ownA l l.length).length = (posL l l.length).length := by rw [← ownA_pos l l.length (Nat.le_refl _), List.length_map]
  have htn : (most : Int).toNat = most := by omega
  by_cases h0 : (ownA l l.length).length = 0
  · rw [if_pos h0] at h
    rw [hp] at h0
    refine ⟨hl, hg, by omega, by omega, by rw [h0]; exact Nat.zero_le _, fun i hi => ?_, fun h1 => by omega, fun h2 => by omega⟩
    rw [h i]
    have := pos_nil h0 hi
    exact ⟨by omega, by omega, by omega⟩
  · rw [if_neg h0] at h
    by_cases h1 : (ownA l l.length).length = 1
    · rw [if_pos h1] at h
      rw [hp] at h1
      refine ⟨hl, hg, by omega, by omega, by rw [h1]; exact Nat.one_le_two_pow, fun i hi => ?_, fun _ => ?_, fun h2 => by omega⟩
      · rw [h i]
        by_cases hx : 0 < l.getD i 0
        · rw [if_pos ⟨hx, hi⟩]; exact ⟨by omega, by omega, by omega⟩
        · rw [if_neg (fun e => hx e.1)]; exact ⟨by omega, by omega, by omega⟩
      · have e1 : ∀ i ∈ List.range l.length, cost (o i) = if 0 < l.getD i 0 then 32768 else 0 := fun i hi => by
          rw [List.mem_range] at hi
          rw [h i]
          by_cases hx : 0 < l.getD i 0
          · rw [if_pos ⟨hx, hi⟩, if_pos hx]; rfl
          · rw [if_neg (fun e => hx e.1), if_neg hx]; rfl
        rw [List.map_congr_left e1, ← sum_sym l (fun _ => 32768)]
        have h3 := sym_len l
        rw [h1] at h3
        obtain ⟨a, ha⟩ := List.length_eq_one_iff.1 h3
        rw [ha]; rfl
    · rw [if_neg h1] at h
      obtain ⟨R, hR, ho⟩ := h
      have hF := full_of m1 m2 (by omega) (by omega) hR ho
      exact ⟨hl, hg, by omega, by omega, by rw [htn, ← hp]; omega, hF.fit, fun h2 => by omega, fun _ => by rw [htn]; exact hF⟩
theorem room_of {o : Nat → Int} {n : Nat} (hn : n ≤ 4096) (h : ∀ i, i < n → 0 ≤ o i ∧ o i ≤ 16) : roomRes ((List.range n).map o) = (65536 - ((List.range n).map (fun i => cost (o i))).sum, 0) := by
  rw [res_ok (by simpa using hn)]
  · unfold roomAt; rw [List.take_length, List.map_map]; rfl
  · rw [List.any_eq_false]
    intro x hx
    rw [List.mem_map] at hx
    obtain ⟨i, hi, rfl⟩ := hx
    rw [List.mem_range] at hi
    have := h i hi
    simp [badLen]; omega
def rs (l : List Int) (o : Nat → Int) (k : Nat) : Int := ((List.range k).map (fun i => if 0 < l.getD i 0 then l.getD i 0 * o i else 0)).sum
theorem rs_succ (l : List Int) (o : Nat → Int) (k : Nat) : rs l o (k + 1) = rs l o k + if 0 < l.getD k 0 then l.getD k 0 * o k else 0 := by
  unfold rs; rw [List.range_succ, List.map_append, List.sum_append_int]; simp
theorem heavy_eq : heavyC = fun x => decide (x < 0) || decide (1073741824 < x) := rfl
end Go.Proofs.Ytpecemkjoklhfaa.Lst
